import Derived.Test.YtalhcfjcbbkpgaaGreatZt15
set_option maxRecDepth 100000
set_option maxHeartbeats 4000000
namespace Go.Proofs.YtalhcfjcbbkpgaaGreat
section
open Go.RowKit
structure lH (w:World)(bw b n dO:Nat)(dv:Value)(k0 k1 k2:Nat)(ol:List Int)(ds:List Nat):Prop where
 blk:w.heap[bw]? = some (.cells #[.pointer (some ⟨b,0,none⟩),.int .i64 k0,.int .i64 k1,.int .i64 k2,.slice (some ⟨dO,0,none⟩) n n,dv] 301 (0,0))
 out:dI 0 w (.slice (some ⟨dO,0,none⟩) n n) ol
 DW:ol.length=n
 xO:dI 0 w dv (dD ds)
 ne:bw≠dO/\¬dv.ownBlock=some bw/\¬dv.ownBlock=some dO
section
variable {w:World} {bw b n dO:Nat} {dv:Value} {k0 k1 k2:Nat} {ol:List Int} {ds:List Nat} (h:lH w bw b n dO dv k0 k1 k2 ol ds)
include h
theorem lH.keeps{w':World}{F:Nat->Prop}(k:Keeps F w w')(h1:¬F bw)(h2:¬F dO)(c:∀q,dv.ownBlock=some q->¬F q):lH w' bw b n dO dv k0 k1 k2 ol ds :=
 ⟨k.at h.blk h1,h.out.keeps k (fun q a=>by simp only [Value.ownBlock,Option.some.injEq]at a;subst a;exact h2),h.DW,h.xO.keeps k c,h.ne⟩
theorem lH.c0:w.cell? ⟨bw,0,none⟩=some (.pointer (some ⟨b,0,none⟩)):=dw h.blk 0
theorem lH.c1:w.cell? ⟨bw,1,none⟩=some (.int .i64 k0):=dw h.blk 1
theorem lH.c4:w.cell? ⟨bw,4,none⟩=some (.slice (some ⟨dO,0,none⟩) n n):=dw h.blk 4
theorem lH.c5:w.cell? ⟨bw,5,none⟩=some dv:=dw h.blk 5
theorem lH.lt:bw<w.heap.size/\dO<w.heap.size/\∀q,dv.ownBlock=some q->q<w.heap.size:=⟨lt_of_block h.blk,(h.out.lt dO rfl).2,fun q a=>(h.xO.lt q a).2⟩
end
structure WM (w0:World)(b:Nat)(s:List Nat)(root lone:Int)(R M:Nat->Prop)(bw dO:Nat)(dv:Value)(k0 k1 k2:Nat)(ol:List Int)(ds:List Nat)(wr:World):Prop where
 m:MW w0 b s root lone R M wr
 t:Told wr b
 W:lH wr bw b s.length dO dv k0 k1 k2 ol ds
 own:M bw/\M dO/\∀q,dv.ownBlock=some q->M q
theorem fP.mw{w w1:World}{b:Nat}{s:List Nat}{root lone:Int}{R:Nat->Prop}(h:MapAt w b s root lone R)(a:fP w b s root lone R w1):MW w b s root lone R (fun _=>False) w1 :=
 ⟨⟨_,a.1,fun _ c=>c,fun _ h=>h.elim⟩,fun _ h=>h.elim,h.lt,h.old,h.kL,a.2⟩
section
variable {w0:World} {b:Nat} {s:List Nat} {root lone:Int} {R M:Nat->Prop} {bw dO:Nat} {dv:Value} {k0 k1 k2:Nat} {ol:List Int} {ds:List Nat} {wr:World} (h:WM w0 b s root lone R M bw dO dv k0 k1 k2 ol ds wr)
include h
theorem WM.nb{x:Nat}(a:M x):x≠b:=by have:=(h.m.mb x a).1;have:=h.m.bw;omega
theorem WM.step{a:World}(m:MW w0 b s root lone R M a)(t:Told a b)(k:Keeps (fun k=>¬M k) wr a):WM w0 b s root lone R M bw dO dv k0 k1 k2 ol ds a :=
 ⟨m,t,h.W.keeps k (fun e=>e h.own.1) (fun e=>e h.own.2.1) (fun q c e=>e (h.own.2.2 q c)),h.own⟩
theorem WM.still{a:World}(k:Keeps (fun _=>False) wr a):WM w0 b s root lone R M bw dO dv k0 k1 k2 ol ds a :=
 h.step (h.m.fresh k (fun _ c=>.inl c)) (h.t.keeps k (fun h=>h)) (k.mono (fun _ _ e=>e.elim))
theorem WM.push{g n cap x:Nat}{a:World}(u:∀x,M x↔x=bw\/x=dO\/dv.ownBlock=some x)(y:dI 0 a (.slice (some ⟨g,0,none⟩) n cap) (dD ds ++ [((x:Nat):Int)]))(k:Keeps (fun q=>dv.ownBlock=some q) wr a)(i:dv.ownBlock=some g\/wr.heap.size<=g) :
  a.cell? ⟨bw,5,none⟩=some dv/\a.frozen? ⟨bw,5,none⟩=false/\WM w0 b s root lone R (fun x=>x=bw\/x=dO\/(Value.slice (some ⟨g,0,none⟩) n cap).ownBlock=some x) bw dO (.slice (some ⟨g,0,none⟩) n cap) k0 k1 k2 ol (ds ++ [x]) (a.setCell ⟨bw,5,none⟩ (.slice (some ⟨g,0,none⟩) n cap)):=by
 have D:=y.lt g rfl;obtain⟨z,A,B⟩:=h.W.ne;obtain⟨F,G,H⟩:=h.W.lt;have E:=k.size
 have C:g≠bw/\g≠dO:=by
  rcases i with e|e
  ·exact⟨fun j=>A (j ▸ e),fun j=>B (j ▸ e)⟩
  ·omega
 have d:=k.at h.W.blk A;have o:Keeps (fun q=>q=bw) a (a.setCell ⟨bw,5,none⟩ (.slice (some ⟨g,0,none⟩) n cap)):=(Keeps.refl (fun q=>q=bw) a).setCell (p:=⟨bw,5,none⟩) (.inl rfl) _;have r:Keeps (fun q=>dv.ownBlock=some q\/q=bw) wr (a.setCell ⟨bw,5,none⟩ (.slice (some ⟨g,0,none⟩) n cap)):=(k.mono (fun _ _ e=>.inl e)).trans o (fun _ _ e=>.inr e);refine⟨dw d 5,dx d 5,h.m.own (r.mono (fun x _ e=>?_)) (fun x c=>?_),h.t.keeps r (fun e=>?_),⟨jM d 5 _,h.W.out.keeps r (fun q f e=>?_),h.W.DW,?_,z,?_,?_⟩,.inl rfl,.inr (.inl rfl),fun q f=>.inr (.inr f)⟩
 ·rw[u];rcases e with e|e
  ·exact .inr (.inr e)
  ·exact .inl e
 ·rw[u];rcases c with c|c|c
  ·exact .inl (.inl c)
  ·exact .inl (.inr (.inl c))
  ·simp only [Value.ownBlock,Option.some.injEq]at c;subst c;rcases i with e|e
   ·exact .inl (.inr (.inr e))
   ·exact .inr ⟨e,by have:=o.size;omega⟩
 ·rcases e with e|e
  ·exact h.nb (h.own.2.2 b e) rfl
  ·exact h.nb h.own.1 e.symm
 ·simp only [Value.ownBlock,Option.some.injEq]at f;subst f;rcases e with e|e
  ·exact B e
  ·exact z e.symm
 ·rw[uy];exact y.keeps o (fun q f e=>by simp only [Value.ownBlock,Option.some.injEq]at f;omega)
 ·simp only [Value.ownBlock,Option.some.injEq];exact C.1
 ·simp only [Value.ownBlock,Option.some.injEq];exact C.2
end
noncomputable def rF(S:Nat->Nat)(j:Nat):List Nat:=(List.range j).filter fun d=>rep S d == d
theorem PO(S:Nat->Nat)(j:Nat):(rF S j).length=dY S j:=rfl
theorem PU(S:Nat->Nat)(j:Nat):rF S (j+1)=rF S j ++ if rep S j=j then [j]else []:=by unfold rF;rw[List.range_succ,List.filter_append];by_cases h:rep S j=j <;> simp[h]
theorem dU.rG{n:Nat}{S:Nat->Nat}(h:dU n S){j:Nat}(a:j<n):dB S j=dY S j↔rep S j=j:=by
 constructor
 ·intro e;apply Classical.byContradiction;intro d;have h1:=h.gK a;have h2:dY S (rep S j)+1<=dY S j:=by have c:=q32 S (i:=rep S j+1) (j:=j) (by omega);rw[qW,if_pos (h.iO a)]at c;exact c
  have f:dB S j=dY S (rep S j):=rfl;omega
 ·intro e;show dY S (rep S j)=dY S j;rw[e]
theorem dU.Am{n:Nat}{S:Nat->Nat}(h:dU n S):∀j,j<=n->∀d,d<j->∃e,(rF S j)[dB S d]? = some e/\e<n/\dB S e=dB S d:=by
 intro j
 induction j with
 | zero=>intro _ d f;omega
 | succ j g =>
  intro r d f;have i:=g (by omega);rw[PU];have a:∀d,d<j->∃e,(rF S j ++ if rep S j=j then [j]else [])[dB S d]? = some e/\e<n/\dB S e=dB S d:=fun d f=>by obtain⟨e,h1,h2,k⟩:=i d f;exact⟨e,by rw[List.getElem?_append_left (iE h1)];exact h1,h2,k⟩
  rcases Nat.lt_or_ge d j with c|c
  ·exact a d c
  ·obtain rfl:d=j:=by omega
   by_cases hr:rep S d=d
   ·have m:=(h.rG (by omega:d<n)).2 hr;refine⟨d,?_,by omega,rfl⟩;rw[m,if_pos hr,<-PO,List.getElem?_append_right (Nat.le_refl _),Nat.sub_self];rfl
   ·have h1:=h.gK (by omega:d<n);have h2:dB S (rep S d)=dB S d:=by show dY S (rep S (rep S d))=dY S (rep S d);rw[h.iO (by omega)]
    obtain⟨e,o,p,q⟩:=a (rep S d) (by omega);exact⟨e,by rw[<-h2];exact o,p,by rw[q,h2]⟩
section
variable {w:World} {b:Nat} {s:List Nat} {root:Int} {l:Nat} {R:Nat->Prop} (h:MapAt w b s root l R)
include h
theorem Xp(d:¬jl s l):Calls Tryz.prog 184 #[.pointer (some ⟨b,0,none⟩)] w fun e w'=>e=.returned (.tuple #[.pointer none,.int .i64 8])/\fP w b s root l R w':=by have a:=V6 h d;clear h;go_enter Tryz.func184,Tryz.ntmps184;go_wp2_with fail;refine a.mono ?_;rintro e w1 ⟨rfl,c⟩;have f:=dh c;clear c a;go_wp2;go_ret2;exact⟨rfl,f.out⟩
def Xq(w:World)(b:Nat)(s:List Nat)(root:Int)(l:Nat)(R:Nat->Prop)(r:Nat)(e:Ending)(w':World):Prop :=
 ∃bw dO dv M,e=.returned (.tuple #[.pointer (some ⟨bw,0,none⟩),.int .i64 0]) /\
  WM w b s root l R M bw dO dv (dB (sg s) (fc (sg s) (fc (sg s) r))) (dB (sg s) r) (dB (sg s) (fc (sg s) r)) (List.replicate s.length (-1)) (rF (sg s) s.length) w'
theorem Xr(hT:jl s l){r:Nat}(F:root=(r:Int))(hr:r<s.length):Calls Tryz.prog 184 #[.pointer (some ⟨b,0,none⟩)] w (Xq w b s root l R r):=by
 have hC:=q5z h hT F hr;have al:=h.le;have HH:=dh h;obtain⟨z,G⟩:∃z,z=dB (sg s) r:=⟨_,rfl⟩
 obtain⟨A,H⟩:∃A,A=dB (sg s) (fc (sg s) r):=⟨_,rfl⟩
 obtain⟨B,I⟩:∃B,B=dB (sg s) (fc (sg s) (fc (sg s) r)):=⟨_,rfl⟩
 rw[<-G,<-H,<-I]at hC;have J:=dh (dn G (dn H I));obtain⟨n,hn⟩:∃n,n=s.length:=⟨_,rfl⟩
 have HN:=dh hn;clear h G H I hT hr;go_enter Tryz.func184,Tryz.ntmps184;go_wp2_with fail;refine hC.mono ?_;rintro e w1 ⟨v,rfl,a,S,u⟩;clear hC;obtain⟨ca,cc,rfl,-,-⟩:=a.form;obtain⟨T,rfl⟩:=pz a (Nat.zero_lt_succ 2);have c:Hid (∀W,Keeps (fun _=>False) w1 W->W.cell? ⟨T,2,none⟩=some (.int .i64 (B:Nat))/\W.cell? ⟨T,0,none⟩=some (.int .i64 (z:Nat))/\W.cell? ⟨T,1,none⟩=some (.int .i64 (A:Nat))):=dh (fun W U=>by have V:=a.keeps U (fun _ _ h=>h);exact⟨(V.cell (i:=2) rfl).1,(V.cell (i:=0) rfl).1,(V.cell (i:=1) rfl).1⟩);have HD:Hid (∀W,Keeps (fun _=>False) w1 W->Calls Tryz.prog 62 #[.pointer (some ⟨b,0,none⟩)] W fun e w'=>e=.returned (.int .i64 n)/\W=w'):=dh (fun W U=>by rw[HN.out];exact vH (S.1.still U).1);have hR:=GV (.slice (some ⟨w1.heap.size,0,none⟩) 1 1) (-1) n (w1.alloc (.cells #[.int .i64 (-1)] 3)).drew (by have h1:(w1.alloc (.cells #[.int .i64 (-1)] 3)).drew.heap[w1.heap.size]? = some (.cells #[.int .i64 (-1)] 3 (0,0)):=heap_alloc_new w1 _;refine Sl.rJ (base:=0) (e:=3) (n:=1) ⟨rfl,.inr ⟨w1.heap.size,1,_,rfl,Nat.zero_le _,h1,Nat.le_refl _,by unfold maxLen;omega,rfl,rfl⟩⟩) (by omega);rw[show (dD [z,A,B]).length=3 from rfl];obtain⟨d0,d1,d2⟩:=c.out w1 (Keeps.refl _ _);have K:=dh (dn S u);have D:=Keeps.refl (fun _=>False) w1;clear S u a hn;go_wp2_with fail;go_region_held3 (fun w'=>w'.cell? ⟨T,2,none⟩=some (.int .i64 (B:Nat))/\w'.cell? ⟨T,0,none⟩=some (.int .i64 (z:Nat))/\w'.cell? ⟨T,1,none⟩=some (.int .i64 (A:Nat))) (first|exact⟨d0,d1,d2⟩|exact⟨f0,f1,f2⟩|exact c.out _ D.drew|exact c.out _ (D.alloc _).drew|exact c.out _ (D.drew.alloc _)|exact c.out _ (k2.alloc _)) (first | (go_at_call 62;refine(HD.out _ (by first|exact D.drew|exact(D.alloc _).drew|exact D.drew.alloc _)).mono ?_;rintro e w' ⟨rfl,rfl⟩) | (go_at_call 74;refine hR.mono ?_;rintro e N ⟨g,rfl,d⟩;have k2:Keeps (fun _=>False) w1 N:=((D.alloc _).drew).trans (by obtain⟨_,_,_,_,U⟩:=id d;exact U) (fun _ _ h=>h);obtain⟨f0,f1,f2⟩:=c.out N k2))
 all_goals
  have af:w1.heap.size<=N.heap.size:=k2.size;have k:=heap_alloc_new N (.cells #[.pointer (some ⟨b,0,none⟩),.int .i64 (B:Nat),.int .i64 (z:Nat),.int .i64 (A:Nat),.slice (some ⟨g,0,none⟩) n n,.slice none 0 0] 301);have X:=(Keeps.refl (fun _=>False) N).alloc (.cells #[.pointer (some ⟨b,0,none⟩),.int .i64 (B:Nat),.int .i64 (z:Nat),.int .i64 (A:Nat),.slice (some ⟨g,0,none⟩) n n,.slice none 0 0] 301);obtain⟨bw,E⟩:∃bw,bw=N.heap.size:=⟨_,rfl⟩
  rw[<-E]at k ⊢;generalize N.alloc _=wx at *
  have Y:WM w b s root l R (fun x=>x=bw\/x=g\/(Value.slice none 0 0).ownBlock=some x) bw g (.slice none 0 0) B z A (List.replicate n (-1)) (rF (sg s) 0) wx:=by
   obtain⟨zs,am,rfl,V,U⟩:=d;have ag:=V.lt g rfl;have ah:(w1.alloc (.cells #[.int .i64 (-1)] 3)).drew.heap.size=w1.heap.size+1:=by simp
   rw[ah]at ag;have e1:=lt_of_block k;have an:=K.out.1.2.size;rw[HN.out]at *;refine⟨(K.out.1.mw HH.out).fresh (k2.trans X (fun _ _ h=>h)) (fun x hx=>.inr ?_),K.out.2.keeps (k2.trans X (fun _ _ h=>h)) (fun h=>h),⟨k,(V.keeps X (fun _ _ h=>h)).mono (fun q S=>Nat.zero_le _),List.length_replicate,dI.nil _ _,?_,fun e=>(by cases e),fun e=>(by cases e)⟩,.inl rfl,.inr (.inl rfl),fun q S=>(by cases S)⟩
   ·rcases hx with rfl|rfl|hx
    ·omega
    ·have:=X.size;omega
    ·cases hx
   ·omega
  have Z:=HD.out wx (k2.trans X (fun _ _ h=>h));clear k X E d f0 f1 f2 d0 d1 d2 k2 hR af HD c D;go_wp2_with fail;refine Z.mono ?_;rintro e w' ⟨rfl,rfl⟩;clear Z;go_wp2_with fail;go_loopg [7,36] n (fun m nx i wr=>∃j:Nat,j<=n/\m=n - j/\i=.int .i64 j/\nx=.int .i64 (dY (sg s) j:Nat)/\∃dv,WM w b s root l R (fun x=>x=bw\/x=g\/dv.ownBlock=some x) bw g dv B z A (List.replicate n (-1)) (rF (sg s) j) wr)
  case atStart=>exact⟨0,Nat.zero_le _,rfl,rfl,rfl,_,Y⟩
  case round =>
   clear Y;obtain⟨j,hj,aa,rfl,rfl,dv,d⟩:=hrel;have HG:=dh aa;clear aa;by_cases ai:j<n
   ·have O:j<s.length:=by rw[<-HN.out];exact ai
    obtain⟨R',hA,-,-⟩:=d.m.mp;have hX:=Hf hA d.t j O;have aj:=nY (sg s) j;have o:=HH.out.dW.rG O;have p:=PU (sg s) j;have f:=qW (sg s) j;have C:=PO (sg s) j;obtain⟨da,dc,rfl,-,-⟩:=d.W.xO.form;rw[q01,C]at d;have e5:=d.W.c5;have a:=d.W.xO;have P:=dh d;obtain⟨L,hL⟩:∃L,L=dY (sg s) j:=⟨_,rfl⟩
    obtain⟨v,hv⟩:∃v,v=dB (sg s) j:=⟨_,rfl⟩
    rw[<-hL]at o aj f C e5 a P ⊢;rw[<-hv]at o hX;have ao:v<=131072:=by have:=sO HH.out.dW O;omega
    have ab:Hid ((dD (rF (sg s) j)).length=L):=dh (by rw[q01,C]);clear hL hv hA d C;go_wp2_with fail;refine hX.mono ?_;rintro e w' ⟨rfl,rfl⟩;clear hX;by_cases hr:rep (sg s) j=j
    ·rw[if_pos hr]at p f;have ht:((v:Int) == (L:Int))=true:=by rw[o.2 hr];exact beq_self_eq_true _
     have Q:=dh (dn p f);clear p f o hr;go_wp2_with (at_builtin;refine Gg rfl _ _ rfl 0 (.slice da L dc) (dD (rF (sg s) j)) (j:Nat) _ rfl rfl rfl a (by rw[ab.out];omega) (Nat.zero_le _) ?_;rw[ab.out];intro g2 ak w3 y ad ae hg;obtain⟨d5,f5,hW⟩:=P.out.push (fun x=>Iff.rfl) y ad ae;rw[<-Q.out.1]at hW;have HW:=dh hW;clear hW y ad ae hg)
     go_roundg (n - (j+1))
     case measure=>rw[HG.out];omega
     case rel=>exact⟨j+1,by omega,rfl,by go_num,by rw[Q.out.2];go_num,_,HW.out⟩
    ·rw[if_neg hr,List.append_nil]at p;rw[if_neg hr]at f;have ht:((v:Int) == (L:Int))=false:=by rw[beq_eq_false_iff_ne];intro e;exact hr (o.1 (by omega))
     have Q:=dh (dn p f);clear p f o hr;go_wp2_with fail;go_roundg (n - (j+1))
     case measure=>rw[HG.out];omega
     case rel=>exact⟨j+1,by omega,rfl,by go_num,by rw[Q.out.2];go_num,_,by rw[Q.out.1];exact P.out⟩
   ·obtain rfl:j=n:=by omega
    rw[HN.out,J.out.1,J.out.2.1,J.out.2.2]at d;have Q:=dh d;clear d;go_wp2;go_ret2;exact⟨_,_,_,_,rfl,Q.out⟩
end
end
section
open Go.RowKit
theorem KA(P:Prop):∃t:Bool,t=true↔P:=by
 classical
 exact⟨decide P,by simp⟩
section
variable {w0:World} {b:Nat} {s:List Nat} {root lone:Int} {R M:Nat->Prop} {bw dO:Nat} {dv:Value} {k0 k1 k2:Nat} {ol:List Int} {ds:List Nat} {wr:World} (h:WM w0 b s root lone R M bw dO dv k0 k1 k2 ol ds wr)
include h
theorem PV(v:Nat):Calls Tryz.prog 263 #[.pointer (some ⟨bw,0,none⟩),.int .i64 v] wr fun e w'=>wr=w'/\∃t:Bool,e=.returned (.bool t)/\(t=true↔v=k0\/v=k1\/v=k2):=by
 have c:Sl .i64 wr (.slice (some ⟨bw,1,none⟩) 3 3) (dD [k0,k1,k2]):=⟨some ⟨bw,1,none⟩,3,rfl,Nat.le_refl 3,by omega,fun e=>(by cases e),fun j z a=>⟨bw,1,rfl,by
  have g:=dw h.W.blk (1+j);rw[g];rcases j with _|_|_|j
  ·simp[dD]at a;subst a;rfl
  ·simp[dD]at a;subst a;rfl
  ·simp[dD]at a;subst a;rfl
  ·simp[dD]at a⟩⟩
 have d:=Ox (v:Int) c (by simp[dD])
 have e:((v:Int) ∈ dD [k0,k1,k2])↔(v=k0\/v=k1\/v=k2):=by
  simp only [dD,List.map_cons,List.map_nil,List.mem_cons,List.not_mem_nil,or_false];constructor
  ·rintro (e|e|e)
   ·exact .inl (by omega)
   ·exact .inr (.inl (by omega))
   ·exact .inr (.inr (by omega))
  ·rintro (e|e|e)
   ·exact .inl (by omega)
   ·exact .inr (.inl (by omega))
   ·exact .inr (.inr (by omega))
 have i:=dh e;clear c h e;go_enter Tryz.func263,Tryz.ntmps263;go_wp2_with fail;refine d.mono ?_;rintro e w' ⟨rfl,t,rfl,f⟩;have k:=dh (f.trans i.out);clear f d;go_wp2;go_ret;exact⟨rfl,t,rfl,k.out⟩
theorem WM.drewN(q:Nat):WM w0 b s root lone R M bw dO dv k0 k1 k2 ol ds (wr.drewN q):=h.still ((Keeps.refl _ wr).drewN q)
theorem Xt(d:Nat)(j:d<s.length):Calls Tryz.prog 228 #[.pointer (some ⟨bw,0,none⟩),.int .i64 d] wr fun e w'=>(∃q,w'=wr.drewN q)/\∃t:Bool,e=.returned (.bool t) /\
  (t=true↔(dB (sg s) d=k0\/dB (sg s) d=k1\/dB (sg s) d=k2)/\(dB (sg s) (mt d)=k0\/dB (sg s) (mt d)=k1\/dB (sg s) (mt d)=k2)):=by
 obtain⟨k,g,-,-⟩:=h.m.mp;have o:=dR g.even j;have a:=fun n=>(h.drewN n).m.mp;have x:∀n,Calls Tryz.prog 123 #[.pointer (some ⟨b,0,none⟩),.int .i64 d] (wr.drewN n) fun e w'=>e=.returned (.int .i64 (dB (sg s) d:Nat))/\wr.drewN n=w':=fun n=>by obtain⟨k,a,-,-⟩:=a n;exact Hf a (h.drewN n).t d j
 have y:∀n,Calls Tryz.prog 123 #[.pointer (some ⟨b,0,none⟩),.int .i64 (mt d:Nat)] (wr.drewN n) fun e w'=>e=.returned (.int .i64 (dB (sg s) (mt d):Nat))/\wr.drewN n=w':=fun n=>by obtain⟨k,a,-,-⟩:=a n;exact Hf a (h.drewN n).t (mt d) o
 have z:∀n,Calls Tryz.prog 77 #[.pointer (some ⟨b,0,none⟩),.int .i64 d] (wr.drewN n) fun e w'=>e=.returned (.int .i64 (mt d:Nat))/\wr.drewN n=w':=fun n=>by obtain⟨k,a,-,-⟩:=a n;exact tO a d j
 obtain⟨p,c⟩:∃t:Bool,t=true↔(dB (sg s) d=k0\/dB (sg s) d=k1\/dB (sg s) d=k2):=KA _;obtain⟨A,f⟩:∃t:Bool,t=true↔(dB (sg s) (mt d)=k0\/dB (sg s) (mt d)=k1\/dB (sg s) (mt d)=k2):=KA _
 have B:∀n,Calls Tryz.prog 263 #[.pointer (some ⟨bw,0,none⟩),.int .i64 (dB (sg s) d:Nat)] (wr.drewN n) fun e w'=>e=.returned (.bool p)/\wr.drewN n=w':=fun n =>
  (PV (h.drewN n) _).mono (fun e w' ⟨r,t,e2,e3⟩=>⟨by rw[e2,show t=p from Bool.eq_iff_iff.2 (e3.trans c.symm)],r⟩)
 have i:∀n,Calls Tryz.prog 263 #[.pointer (some ⟨bw,0,none⟩),.int .i64 (dB (sg s) (mt d):Nat)] (wr.drewN n) fun e w'=>e=.returned (.bool A)/\wr.drewN n=w':=fun n =>
  (PV (h.drewN n) _).mono (fun e w' ⟨r,t,e2,e3⟩=>⟨by rw[e2,show t=A from Bool.eq_iff_iff.2 (e3.trans f.symm)],r⟩)
 have C:wr.cell? ⟨bw,0,none⟩=some (.pointer (some ⟨b,0,none⟩)):=h.W.c0;rw[<-c,<-f];clear h a g c f;generalize dB (sg s) d=v at *;generalize dB (sg s) (mt d)=u at *;generalize mt d=m at *;cases p
 ·go_enter Tryz.func228,Tryz.ntmps228;go_wp2_with fail;go_quiet (first | (go_at_call 123;first | (with_reducible exact nZ (x _)) | (with_reducible exact nZ (y _))) | (go_at_call 263;first | (with_reducible exact nZ (B _)) | (with_reducible exact nZ (i _))) | (go_at_call 77;with_reducible exact nZ (z _)));go_wp2;go_ret;exact⟨⟨_,rfl⟩,_,rfl,by simp⟩
 ·go_enter Tryz.func228,Tryz.ntmps228;go_wp2_with fail;go_quiet (first | (go_at_call 123;first | (with_reducible exact nZ (x _)) | (with_reducible exact nZ (y _))) | (go_at_call 263;first | (with_reducible exact nZ (B _)) | (with_reducible exact nZ (i _))) | (go_at_call 77;with_reducible exact nZ (z _)));go_wp2;go_ret;exact⟨⟨_,rfl⟩,_,rfl,by simp⟩
noncomputable def uO(s:List Nat)(k0 k1 k2:Nat)(o:List Int)(d:Nat)(c:Int):List Int:=open Classical in
 if (dB (sg s) d=k0\/dB (sg s) d=k1\/dB (sg s) d=k2)/\(dB (sg s) (mt d)=k0\/dB (sg s) (mt d)=k1\/dB (sg s) (mt d)=k2)then o else o.set d c
omit h in
theorem WM.qy(h:WM w0 b s root lone R M bw dO dv k0 k1 k2 ol ds wr)(d:Nat)(c:Int):WM w0 b s root lone R M bw dO dv k0 k1 k2 (ol.set d c) ds (wr.setCell ⟨dO,d,none⟩ (.int .i64 c)):=by obtain⟨a,j,f⟩:=h.W.ne;have k:Keeps (fun q=>q=dO) wr (wr.setCell ⟨dO,d,none⟩ (.int .i64 c)):=(Keeps.refl (fun q=>q=dO) wr).setCell (p:=⟨dO,d,none⟩) (.inl rfl) _;exact⟨h.m.own (k.mono (fun x _ e=>e ▸ h.own.2.1)) (fun x g=>.inl g),h.t.keeps k (fun e=>h.nb h.own.2.1 e.symm),⟨k.at h.W.blk a,h.W.out.set d c,by rw[List.length_set];exact h.W.DW,h.W.xO.keeps k (fun q i e=>f (e ▸ i)),h.W.ne⟩,h.own⟩
theorem KC(d:Nat)(j:d<s.length)(c:Int):Calls Tryz.prog 187 #[.pointer (some ⟨bw,0,none⟩),.int .i64 d,.int .i64 c] wr fun e w'=>e=.returned (.tuple #[])/\WM w0 b s root lone R M bw dO dv k0 k1 k2 (uO s k0 k1 k2 ol d c) ds w'/\Keeps (fun k=>k=dO) wr w':=by
 have o:=Xt h d j;have r:=dh h;obtain⟨N,m⟩:∃N,N=s.length:=⟨_,rfl⟩
 have u:=dh m;rw[<-m]at j;clear h m;go_enter Tryz.func187,Tryz.ntmps187;go_wp2_with fail;refine o.mono ?_;rintro e w' ⟨⟨q,rfl⟩,t,rfl,i⟩;clear o;cases t
 ·have f:=r.out.drewN q;have x:=f.W.c4;rw[<-u.out]at x;obtain⟨z,y,A⟩:=f.W.out.has d (by rw[f.W.DW,<-u.out];exact j);have g:=f.qy d c;have a:=dh (dn (show uO s k0 k1 k2 ol d c=ol.set d c by unfold uO;exact if_neg (fun e=>by cases i.2 e)) (dn g (((Keeps.refl (fun k=>k=dO) wr).drewN q).setCell (p:=⟨dO,d,none⟩) (.inl rfl) (.int .i64 c))));generalize wr.drewN q=w1 at *;clear i f g;go_wp2;go_end0;exact⟨rfl,by rw[a.out.1];exact a.out.2.1,a.out.2.2⟩
 ·have a:=dh (dn (show uO s k0 k1 k2 ol d c=ol by unfold uO;exact if_pos (i.1 rfl)) (dn (r.out.drewN q) ((Keeps.refl (fun k=>k=dO) wr).drewN q)));generalize wr.drewN q=w1 at *;clear i;go_wp2;go_end0;exact⟨rfl,by rw[a.out.1];exact a.out.2.1,a.out.2.2⟩
end
end
section
open Go.RowKit
theorem WM.more{w0:World}{b:Nat}{s:List Nat}{root lone:Int}{R M M':Nat->Prop}{bw dO:Nat}{dv:Value}{k0 k1 k2:Nat}{ol:List Int}{ds:List Nat}{wr a:World}(h:WM w0 b s root lone R M bw dO dv k0 k1 k2 ol ds wr)
  (k:Keeps (fun _=>False) wr a)(c:∀x,M x->M' x)(d:∀x,M' x->M x\/(wr.heap.size<=x/\x<a.heap.size)):WM w0 b s root lone R M' bw dO dv k0 k1 k2 ol ds a :=
 ⟨h.m.fresh k d,h.t.keeps k (fun h=>h),h.W.keeps k (fun h=>h) (fun h=>h) (fun _ _ h=>h),c _ h.own.1,c _ h.own.2.1,fun q e=>c _ (h.own.2.2 q e)⟩
theorem WM.less{w0:World}{b:Nat}{s:List Nat}{root lone:Int}{R M M':Nat->Prop}{bw dO:Nat}{dv:Value}{k0 k1 k2:Nat}{ol:List Int}{ds:List Nat}{wr:World}(h:WM w0 b s root lone R M' bw dO dv k0 k1 k2 ol ds wr)
  (a:∀x,M x->M' x)(own:M bw/\M dO/\∀q,dv.ownBlock=some q->M q):WM w0 b s root lone R M bw dO dv k0 k1 k2 ol ds wr :=
 ⟨h.m.fresh (Keeps.refl _ wr) (fun x c=>.inl (a x c)),h.t,h.W,own⟩
structure mG (w0:World)(b:Nat)(s:List Nat)(root lone:Int)(R M:Nat->Prop)(bw dO:Nat)(dv:Value)(k0 k1 k2:Nat)(ol:List Int)(ds:List Nat)(h0 h1 h2 v gp:Nat)(pl:List Nat)(W:World):Prop where
 wm:WM w0 b s root lone R M bw dO dv k0 k1 k2 ol ds W
 b0:W.heap[h0]? = some (.cells #[.pointer (some ⟨bw,0,none⟩)] 219 (0,0))
 b1:W.heap[h1]? = some (.cells #[.int .i64 v] 3 (0,0))
 b2:W.heap[h2]? = some (.cells #[.slice (some ⟨gp,0,none⟩) pl.length pl.length] 25 (0,0))
 pl:dI 0 W (.slice (some ⟨gp,0,none⟩) pl.length pl.length) (dD pl)
 mm:M h0/\M h1/\M h2/\M gp
section
variable {w0:World} {b:Nat} {s:List Nat} {root lone:Int} {R M:Nat->Prop} {bw dO:Nat} {dv:Value} {k0 k1 k2:Nat} {ol:List Int} {ds:List Nat} {h0 h1 h2 v gp:Nat} {pl:List Nat} {W:World} (h:mG w0 b s root lone R M bw dO dv k0 k1 k2 ol ds h0 h1 h2 v gp pl W)
include h
theorem mG.step{a:World}(d:WM w0 b s root lone R M bw dO dv k0 k1 k2 ol ds a)(k:Keeps (fun k=>¬M k) W a):mG w0 b s root lone R M bw dO dv k0 k1 k2 ol ds h0 h1 h2 v gp pl a :=
 ⟨d,k.at h.b0 (fun e=>e h.mm.1),k.at h.b1 (fun e=>e h.mm.2.1),k.at h.b2 (fun e=>e h.mm.2.2.1),h.pl.keeps k (fun q c e=>by simp only [Value.ownBlock,Option.some.injEq]at c;subst c;exact e h.mm.2.2.2),h.mm⟩
theorem mG.drewN(q:Nat):mG w0 b s root lone R M bw dO dv k0 k1 k2 ol ds h0 h1 h2 v gp pl (W.drewN q):=h.step (h.wm.drewN q) ((Keeps.refl _ W).drewN q)
theorem Xu(d x a i:Nat)(j:d<s.length)(k:dB (sg s) (mt d)=x)(g:pl[x]? = some a)(c:pl[v]? = some i) :
  Calls Tryz.prog 226 #[.int .i64 d,.pointer (some ⟨h2,0,none⟩),.pointer (some ⟨h0,0,none⟩),.pointer (some ⟨h1,0,none⟩)] W fun e w'=>e=.returned (.bool (decide (a<i)))/\∃q,w'=W.drewN q:=by
 have p:∀n,Calls Tryz.prog 123 #[.pointer (some ⟨b,0,none⟩),.int .i64 (mt d:Nat)] (W.drewN n) fun e w'=>e=.returned (.int .i64 x)/\W.drewN n=w':=fun n=>by have o:=(h.drewN n).wm;obtain⟨r,f,-,-⟩:=o.m.mp;rw[<-k];exact Hf f o.t _ (dR f.even j)
 have u:∀n,Calls Tryz.prog 77 #[.pointer (some ⟨b,0,none⟩),.int .i64 d] (W.drewN n) fun e w'=>e=.returned (.int .i64 (mt d:Nat))/\W.drewN n=w':=fun n=>by obtain⟨r,f,-,-⟩:=(h.drewN n).wm.m.mp;exact tO f d j
 have y:W.cell? ⟨bw,0,none⟩=some (.pointer (some ⟨b,0,none⟩)):=h.wm.W.c0;have z:W.cell? ⟨h0,0,none⟩=some (.pointer (some ⟨bw,0,none⟩)):=dw h.b0 0;have A:W.cell? ⟨h1,0,none⟩=some (.int .i64 v):=dw h.b1 0;have B:W.cell? ⟨h2,0,none⟩=some (.slice (some ⟨gp,0,none⟩) pl.length pl.length):=dw h.b2 0;have C:=(h.pl.cell (jI g)).1;have D:=(h.pl.cell (jI c)).1;have E:x<pl.length:=iE g;have F:v<pl.length:=iE c;have G:(x:Int)<(pl.length:Int):=by omega
 have H:(v:Int)<(pl.length:Int):=by omega
 clear h k g c;generalize pl.length=V at *;generalize mt d=m at *;go_enter Tryz.func226,Tryz.ntmps226;go_wp2_with fail;go_quiet (first | (go_at_call 123;with_reducible exact nZ (p _)) | (go_at_call 77;with_reducible exact nZ (u _)));go_wp2;go_ret;exact⟨by simp,_,rfl⟩
end
theorem Hu(W:World)(a c d:Obj):(((W.alloc a).alloc c).alloc d).heap[W.heap.size]? = some a/\(((W.alloc a).alloc c).alloc d).heap[W.heap.size+1]? = some c/\(((W.alloc a).alloc c).alloc d).heap[W.heap.size+1+1]? = some d/\Keeps (fun _=>False) W (((W.alloc a).alloc c).alloc d):=by
 have h1:(W.alloc a).heap.size=W.heap.size+1:=by simp
 have h2:((W.alloc a).alloc c).heap.size=W.heap.size+1+1:=by simp
 have e:=heap_alloc_new (W.alloc a) c;have f:=heap_alloc_new ((W.alloc a).alloc c) d;rw[h1]at e;rw[h2]at f;exact⟨(((Keeps.refl (fun _=>False) (W.alloc a)).alloc c).alloc d).at (heap_alloc_new W a) (fun h=>h),((Keeps.refl (fun _=>False) ((W.alloc a).alloc c)).alloc d).at e (fun h=>h),f,(((Keeps.refl (fun _=>False) W).alloc a).alloc c).alloc d⟩
section
variable {w0:World} {b:Nat} {s:List Nat} {root lone:Int} {R M:Nat->Prop} {bw dO:Nat} {dv:Value} {k0 k1 k2:Nat} {ol:List Int} {ds:List Nat} {W:World} (h:WM w0 b s root lone R M bw dO dv k0 k1 k2 ol ds W)
include h
theorem mG.start{gp:Nat}{pl:List Nat}(c:dI 0 W (.slice (some ⟨gp,0,none⟩) pl.length pl.length) (dD pl))(d:M gp)(v:Nat) :
  mG w0 b s root lone R (fun x=>M x\/(W.heap.size<=x/\x<W.heap.size+3)) bw dO dv k0 k1 k2 ol ds W.heap.size (W.heap.size+1) (W.heap.size+1+1) v gp pl (((W.alloc (.cells #[.pointer (some ⟨bw,0,none⟩)] 219)).alloc (.cells #[.int .i64 v] 3)).alloc (.cells #[.slice (some ⟨gp,0,none⟩) pl.length pl.length] 25)):=by
 obtain⟨f,g,e,k⟩:=Hu W (.cells #[.pointer (some ⟨bw,0,none⟩)] 219) (.cells #[.int .i64 v] 3) (.cells #[.slice (some ⟨gp,0,none⟩) pl.length pl.length] 25);have i:=lt_of_block e;refine⟨h.more k (fun x a=>.inl a) (fun x a=>?_),f,g,e,c.keeps k (fun _ _ h=>h),.inr (by omega),.inr (by omega),.inr (by omega),.inl d⟩;rcases a with a|a
 ·exact .inl a
 ·exact .inr (by omega)
def KD(w0:World)(b:Nat)(s:List Nat)(root lone:Int)(R M:Nat->Prop)(bw dO:Nat)(dv:Value)(k0 k1 k2:Nat)(ol:List Int)(ds:List Nat)(W:World)(a rt:Nat)(e:Ending)(w':World):Prop :=
 e=.returned (.tuple #[.int .i64 a,.int .i64 rt])/\WM w0 b s root lone R M bw dO dv k0 k1 k2 ol ds w'/\Keeps (fun k=>¬M k) W w'
omit h in
theorem mG.fin{h0 h1 h2 v gp:Nat}{pl:List Nat}{H:Nat}{a:World}(c:mG w0 b s root lone R (fun x=>M x\/(H<=x/\x<H+3)) bw dO dv k0 k1 k2 ol ds h0 h1 h2 v gp pl a)(own:M bw/\M dO/\∀q,dv.ownBlock=some q->M q):WM w0 b s root lone R M bw dO dv k0 k1 k2 ol ds a :=
 c.wm.less (fun _ d=>.inl d) own
theorem Xv{gp:Nat}{pl:List Nat}(ao:dI 0 W (.slice (some ⟨gp,0,none⟩) pl.length pl.length) (dD pl))(aF:M gp)(v o a0 m p:Nat)(hv:v≠k0)(hd:ds[v]? = some o)(ab:o<s.length)(ap:pl[v]? = some a0)
  (C:Nat->Prop)(hA:∀x,dK (sg s) o x->∃a,pl[dB (sg s) (mt x)]? = some a/\(a<a0↔C x))(hm:∀t,t<m->¬(C (dN (sg s) t o)/\¬C (iq (sg s) (dN (sg s) t o))))(aq:C (dN (sg s) m o)/\¬C (iq (sg s) (dN (sg s) m o)))
  (V:∀t,t<p->C (dN (sg s) (t+1) (dN (sg s) m o)))(F:¬C (dN (sg s) (p+1) (dN (sg s) m o))) :
  Calls Tryz.prog 186 #[.pointer (some ⟨bw,0,none⟩),.int .i64 v,.slice (some ⟨gp,0,none⟩) pl.length pl.length] W (KD w0 b s root lone R M bw dO dv k0 k1 k2 ol ds W (dN (sg s) m o) (dN (sg s) p (dN (sg s) m o))):=by
 have d:=mG.start h ao aF v;have kE:=(Hu W (.cells #[.pointer (some ⟨bw,0,none⟩)] 219) (.cells #[.int .i64 v] 3) (.cells #[.slice (some ⟨gp,0,none⟩) pl.length pl.length] 25)).2.2.2;have HO:=dh h.own;obtain⟨R0,ad,-,-⟩:=h.m.mp;have HP:=dh (dn ad.dW ad.le);obtain⟨H,hH⟩:∃H,H=W.heap.size:=⟨_,rfl⟩
 rw[<-hH]at d;have HH:=dh hH;have aV:((v:Int) == (k0:Int))=false:=by rw[beq_eq_false_iff_ne];omega
 have aW:∀(fn:Fn) (first cap:Array Value) (w:World),(Instr.makeFunc fn first cap).run Tryz.prog w=.ok (.func fn first cap) w:=fun _ _ _ _=>rfl;have aX:v<ds.length:=iE hd;go_enter Tryz.func186,Tryz.ntmps186;go_wp2_with fail;rw[<-hH];generalize ((W.alloc _).alloc _).alloc _=W1 at *;obtain⟨L,ae⟩:∃x,x=H+1:=⟨_,rfl⟩
 rw[<-ae]at d ⊢;obtain⟨H2,af⟩:∃x,x=L+1:=⟨_,rfl⟩
 rw[<-af]at d ⊢;have aY:=dh (dn ae af);have hM:∀x,M x->x<H:=fun x hx=>by rw[hH];exact(h.m.mb x hx).2
 have KK:Hid (∀g,Keeps (fun k=>¬(M k\/(H<=k/\k<H+3))) W1 g->Keeps (fun k=>¬M k) W g):=dh (fun g V=>(kE.mono (fun _ _ e=>e.elim):Keeps (fun k=>¬M k) W W1).trans V (fun x _ e e2=>e (.inl e2)));clear ae af hH kE h ao ad;have O:W1.cell? ⟨H,0,none⟩=some (.pointer (some ⟨bw,0,none⟩)):=dw d.b0 0;have P:W1.cell? ⟨L,0,none⟩=some (.int .i64 v):=dw d.b1 0;have c3:W1.cell? ⟨bw,1,none⟩=some (.int .i64 k0):=d.wm.W.c1;go_quiet (fail);obtain⟨da,dc,G,aG,-⟩:=d.wm.W.xO.form;rw[q01]at G aG;have aH:=dh d;have Q:=d.wm.W.xO;have c5:=d.wm.W.c5;rw[G]at Q c5;obtain⟨dg,rfl⟩:=pz Q (by rw[q01];omega);have c6:=(Q.cell (jI hd)).1;have aU:(v:Int)<(ds.length:Int):=by omega
 clear d Q hd G;have aI:(W1.drewN nq).cell? ⟨H,0,none⟩=some (.pointer (some ⟨bw,0,none⟩)):=O;have aJ:(W1.drewN nq).cell? ⟨L,0,none⟩=some (.int .i64 v):=P;have aK:(W1.drewN nq).cell? ⟨bw,5,none⟩=some (.slice (some ⟨dg,0,none⟩) ds.length dc):=c5;have aL:(W1.drewN nq).cell? ⟨dg,v,none⟩=some (.int .i64 o):=c6;have aM:=dh (aH.out.drewN nq);have aN:Hid (∀g,Keeps (fun k=>¬(M k\/(H<=k/\k<H+3))) (W1.drewN nq) g->Keeps (fun k=>¬M k) W g):=dh (fun g V=>KK.out g (((Keeps.refl (fun k=>¬(M k\/(H<=k/\k<H+3))) W1).drewN nq).trans V (fun _ _ e=>e)));clear O P c3 c5 c6;generalize W1.drewN nq=W2 at *;generalize ds.length=D at *;go_wp2_with fail;go_quiet (fail);have aO:=dh (aM.out.drewN nq);have aP:Hid (∀g,Keeps (fun k=>¬(M k\/(H<=k/\k<H+3))) (W2.drewN nq) g->Keeps (fun k=>¬M k) W g):=dh (fun g V=>aN.out g (((Keeps.refl (fun k=>¬(M k\/(H<=k/\k<H+3))) W2).drewN nq).trans V (fun _ _ e=>e)));clear aI aJ aK aL;generalize W2.drewN nq=W3 at *;have I:=dh (dn hA (dn hm (dn aq (dn V F))));have aQ:=dh ap;have HC:Hid (∀g y,dK (sg s) o y->mG w0 b s root lone R (fun x=>M x\/(H<=x/\x<H+3)) bw dO dv k0 k1 k2 ol ds H L H2 v gp pl g->∃t:Bool,(t=true↔C y)/\Calls Tryz.prog 226 #[.int .i64 y,.pointer (some ⟨H2,0,none⟩),.pointer (some ⟨H,0,none⟩),.pointer (some ⟨L,0,none⟩)] g fun e w'=>e=.returned (.bool t)/\∃q,w'=g.drewN q):=dh (fun g y N d=>by obtain⟨a,ha,ar⟩:=I.out.1 y N;exact⟨_,by rw[decide_eq_true_eq];exact ar,Xu d y _ a a0 (HP.out.1.fK ab N) rfl ha aQ.out⟩);have HS:Hid (∀g y,dK (sg s) o y->mG w0 b s root lone R (fun x=>M x\/(H<=x/\x<H+3)) bw dO dv k0 k1 k2 ol ds H L H2 v gp pl g->Calls Tryz.prog 125 #[.pointer (some ⟨b,0,none⟩),.int .i64 y] g fun e w'=>e=.returned (.int .i64 (sg s y:Nat))/\g=w'):=dh (fun g y N d=>by obtain⟨R',hA,-,-⟩:=d.wm.m.mp;exact wR hA y (HP.out.1.fK ab N));have HB:Hid (∀g y,dK (sg s) o y->mG w0 b s root lone R (fun x=>M x\/(H<=x/\x<H+3)) bw dO dv k0 k1 k2 ol ds H L H2 v gp pl g->Calls Tryz.prog 227 #[.pointer (some ⟨b,0,none⟩),.int .i64 y] g fun e w'=>e=.returned (.int .i64 (iq (sg s) y:Nat))/\mG w0 b s root lone R (fun x=>M x\/(H<=x/\x<H+3)) bw dO dv k0 k1 k2 ol ds H L H2 v gp pl w'/\Keeps (fun k=>¬(M k\/(H<=k/\k<H+3))) g w'):=dh (fun g y N d=>by obtain⟨R',hA,hq⟩:=d.wm.m.ask;refine(V7 hA y (HP.out.1.fK ab N)).mono ?_;rintro e w' ⟨e1,e2,e3⟩;obtain⟨m1,p⟩:=hq w' e2;exact⟨e1,d.step (d.wm.step m1 (d.wm.t.keeps e3 hA.kL) p) p,p⟩);clear hA hm aq V F ap;go_wp2_with fail;go_loopg [10] m (fun mu dd wr=>∃t:Nat,t<=m/\mu=m - t/\dd=.int .i64 (dN (sg s) t o:Nat)/\mG w0 b s root lone R (fun x=>M x\/(H<=x/\x<H+3)) bw dO dv k0 k1 k2 ol ds H L H2 v gp pl wr/\Keeps (fun k=>¬(M k\/(H<=k/\k<H+3))) W3 wr)
 case atStart=>exact⟨0,Nat.zero_le _,rfl,rfl,aO.out,Keeps.refl _ _⟩
 case round =>
  obtain⟨t,ht,au,rfl,d,J⟩:=hrel;have HG:=dh au;have f:dK (sg s) o (dN (sg s) t o):=⟨t,rfl⟩
  obtain⟨y,N⟩:∃y,y=dN (sg s) t o:=⟨_,rfl⟩
  rw[<-N]at f ⊢;have X:=dh N;have A:dK (sg s) o (iq (sg s) y):=f.trans ⟨_,rfl⟩;obtain⟨t1,S,av⟩:=HC.out wr y f d;have r:=dh (dn d J);clear au N d J;go_wp2_with fail;refine av.mono ?_;rintro e w1 ⟨rfl,T,rfl⟩;clear av;have c:=r.out.1.drewN T;have j:Keeps (fun k=>¬(M k\/(H<=k/\k<H+3))) W3 (wr.drewN T):=r.out.2.drewN T;cases t1
  ·have E:¬C y:=fun e=>by cases S.2 e
   have u:t<m:=by
    rcases Nat.lt_or_ge t m with e|e
    ·exact e
    ·obtain rfl:t=m:=by omega
     rw[X.out]at E;exact absurd I.out.2.2.1.1 E
   have O:(wr.drewN T).cell? ⟨H,0,none⟩=some (.pointer (some ⟨bw,0,none⟩)):=dw c.b0 0;have P:(wr.drewN T).cell? ⟨bw,0,none⟩=some (.pointer (some ⟨b,0,none⟩)):=c.wm.W.c0;have i:=HS.out _ y f c;have HF:=dh (dn c j);have HT:=dh u;clear c j E u S r;generalize wr.drewN T=w1 at *;go_wp2_with fail;refine i.mono ?_;rintro e w' ⟨rfl,rfl⟩;go_wp2_with fail;go_roundg (m - (t+1))
   case measure=>rw[HG.out];have:=HT.out;omega
   case rel=>exact⟨t+1,HT.out,rfl,by rw[X.out];rfl,HF.out⟩
  ·have E:C y:=S.1 rfl;have O:(wr.drewN T).cell? ⟨H,0,none⟩=some (.pointer (some ⟨bw,0,none⟩)):=dw c.b0 0;have P:(wr.drewN T).cell? ⟨bw,0,none⟩=some (.pointer (some ⟨b,0,none⟩)):=c.wm.W.c0;have aw:=HB.out _ y f c;have HF:=dh (dn j E);clear c j E S r;generalize wr.drewN T=w1 at *;go_wp2_with fail;refine aw.mono ?_;rintro e w2 ⟨rfl,ag,F⟩;have ax:=HF.out.1.trans F (fun _ _ e=>e);obtain⟨t2,K,ah⟩:=HC.out w2 _ A ag;have U:=dh (dn ag ax);clear aw ag F ax O P;obtain⟨z,hz⟩:∃z,z=iq (sg s) y:=⟨_,rfl⟩
   rw[<-hz]at A K ah ⊢;have HZ:=dh hz;clear hz;go_wp2_with fail;refine ah.mono ?_;rintro e w3 ⟨rfl,q2,rfl⟩;clear ah;have c:=U.out.1.drewN q2;have j:Keeps (fun k=>¬(M k\/(H<=k/\k<H+3))) W3 (w2.drewN q2):=U.out.2.drewN q2;cases t2
   ·have ay:¬C z:=fun e=>by cases K.2 e
    have u:t=m:=by
     rcases Nat.lt_or_ge t m with e|e
     ·have:=I.out.2.1 t e;rw[<-X.out,<-HZ.out]at this;exact absurd ⟨HF.out.2,ay⟩ this
     ·omega
    subst u;have aR:=dh (dn c j);clear c j ay K U;generalize w2.drewN q2=w4 at *;have az:Hid (∀q,dK (sg s) o (dN (sg s) q y)):=dh (fun q=>f.trans ⟨q,rfl⟩);have HR:Hid ((∀q,q<p->C (dN (sg s) (q+1) y))/\¬C (dN (sg s) (p+1) y)):=dh (by rw[X.out];exact I.out.2.2.2);rw[<-X.out];go_wp2_with fail;go_loopg [10] p (fun mu dd wr=>∃q:Nat,q<=p/\mu=p - q/\dd=.int .i64 (dN (sg s) q y:Nat)/\mG w0 b s root lone R (fun x=>M x\/(H<=x/\x<H+3)) bw dO dv k0 k1 k2 ol ds H L H2 v gp pl wr/\Keeps (fun k=>¬(M k\/(H<=k/\k<H+3))) W3 wr)
    case atStart=>exact⟨0,Nat.zero_le _,rfl,rfl,aR.out⟩
    case round =>
     obtain⟨q,hq,Y,rfl,d,J⟩:=hrel;have aS:=dh Y;have ai:=az.out q;have aA:=az.out (q+1);have i:=HS.out wr _ ai d;rw[show sg s (dN (sg s) q y)=dN (sg s) (q+1) y from rfl]at i;obtain⟨t3,aB,aj⟩:=HC.out wr _ aA d;have O:wr.cell? ⟨H,0,none⟩=some (.pointer (some ⟨bw,0,none⟩)):=dw d.b0 0;have P:wr.cell? ⟨bw,0,none⟩=some (.pointer (some ⟨b,0,none⟩)):=d.wm.W.c0;have r:=dh (dn d J)
     have Z:t3=true↔q<p:=by
      rw[aB];constructor
      ·intro e;rcases Nat.lt_or_ge q p with e2|e2
       ·exact e2
       ·obtain rfl:q=p:=by omega
        exact absurd e HR.out.2
      ·exact HR.out.1 q
     have aC:=dh Z;have aT:=HS.out;obtain⟨y1,ak⟩:∃y1,y1=dN (sg s) q y:=⟨_,rfl⟩
     obtain⟨y2,al⟩:∃y2,y2=dN (sg s) (q+1) y:=⟨_,rfl⟩
     rw[<-ak]at i ai ⊢;rw[<-al]at i aj;have B:=dh (dn ak al);clear Y d J aB Z ak al aA aT;go_wp2_with fail;refine i.mono ?_;rintro e w' ⟨rfl,rfl⟩;go_wp2_with fail;refine aj.mono ?_;rintro e w5 ⟨rfl,q3,rfl⟩;clear aj i;have c:=r.out.1.drewN q3;have j:Keeps (fun k=>¬(M k\/(H<=k/\k<H+3))) W3 (wr.drewN q3):=r.out.2.drewN q3;have c3:(wr.drewN q3).cell? ⟨H,0,none⟩=some (.pointer (some ⟨bw,0,none⟩)):=O;have c4:(wr.drewN q3).cell? ⟨bw,0,none⟩=some (.pointer (some ⟨b,0,none⟩)):=P;have i:=HS.out _ y1 ai c;have aa:sg s y1=y2:=by rw[B.out.1,B.out.2];rfl
     rw[aa]at i;have am:=dh (dn c j);clear c j O P aa r;generalize wr.drewN q3=w6 at *;cases t3
     ·obtain rfl:q=p:=by
       have:¬q<p:=fun e=>by cases aC.out.2 e
       omega
      have an:=dh (dn (am.out.1.fin HO.out) (aP.out w6 am.out.2));clear i;go_wp2;go_ret2;exact⟨by rw[B.out.1,<-X.out];rfl,an.out⟩
     ·have aD:=aC.out.1 rfl;have aE:=dh aD;clear aD;go_wp2_with fail;refine i.mono ?_;rintro e w' ⟨rfl,rfl⟩;go_wp2_with fail;go_roundg (p - (q+1))
      case measure=>rw[aS.out];have:=aE.out;omega
      case rel=>exact⟨q+1,aE.out,rfl,by rw[B.out.2],am.out⟩
   ·have u:t<m:=by
     rcases Nat.lt_or_ge t m with e|e
     ·exact e
     ·obtain rfl:t=m:=by omega
      have h5:=I.out.2.2.1.2;rw[<-X.out,<-HZ.out]at h5;exact absurd (K.1 rfl) h5
    have O:(w2.drewN q2).cell? ⟨H,0,none⟩=some (.pointer (some ⟨bw,0,none⟩)):=dw c.b0 0;have P:(w2.drewN q2).cell? ⟨bw,0,none⟩=some (.pointer (some ⟨b,0,none⟩)):=c.wm.W.c0;have i:=HS.out _ y f c;have an:=dh (dn c j);have HT:=dh u;clear c j u K U;generalize w2.drewN q2=w4 at *;go_wp2_with fail;refine i.mono ?_;rintro e w' ⟨rfl,rfl⟩;go_wp2_with fail;go_roundg (m - (t+1))
    case measure=>rw[HG.out];have:=HT.out;omega
    case rel=>exact⟨t+1,HT.out,rfl,by rw[X.out];rfl,an.out⟩
theorem Xw{gp:Nat}{pl:List Nat}(z:dI 0 W (.slice (some ⟨gp,0,none⟩) pl.length pl.length) (dD pl))(P:M gp)(r g o:Nat)(q:root=(r:Int))(hr:r<s.length)(A:jg (sg (dS s)) r=[r,g,o])(B:g<s.length) :
  Calls Tryz.prog 186 #[.pointer (some ⟨bw,0,none⟩),.int .i64 k0,.slice (some ⟨gp,0,none⟩) pl.length pl.length] W (KD w0 b s root lone R M bw dO dv k0 k1 k2 ol ds W o (mt g)):=by
 have p:=mG.start h z P k0;have Y:=(Hu W (.cells #[.pointer (some ⟨bw,0,none⟩)] 219) (.cells #[.int .i64 k0] 3) (.cells #[.slice (some ⟨gp,0,none⟩) pl.length pl.length] 25)).2.2.2;have HO:=dh h.own;obtain⟨H,C⟩:∃H,H=W.heap.size:=⟨_,rfl⟩
 rw[<-C]at p;have aa:((k0:Int) == (k0:Int))=true:=beq_self_eq_true _;have Z:∀x,M x->x<H:=fun x hx=>by rw[C];exact(h.m.mb x hx).2
 have ab:=dh C;clear h z;go_enter Tryz.func186,Tryz.ntmps186;go_wp2_with fail;rw[<-C];generalize ((W.alloc _).alloc _).alloc _=W1 at *;obtain⟨Q,D⟩:∃x,x=H+1:=⟨_,rfl⟩
 rw[<-D]at p ⊢;obtain⟨H2,E⟩:∃x,x=Q+1:=⟨_,rfl⟩
 rw[<-E]at p ⊢;have KK:Hid (∀a,Keeps (fun k=>¬(M k\/(H<=k/\k<H+3))) W1 a->Keeps (fun k=>¬M k) W a):=dh (fun a c=>(Y.mono (fun _ _ e=>e.elim):Keeps (fun k=>¬M k) W W1).trans c (fun x _ e o=>e (.inl o)));clear D E C Y;have L:W1.cell? ⟨H,0,none⟩=some (.pointer (some ⟨bw,0,none⟩)):=dw p.b0 0;have N:W1.cell? ⟨Q,0,none⟩=some (.int .i64 k0):=dw p.b1 0;have c3:W1.cell? ⟨bw,1,none⟩=some (.int .i64 k0):=p.wm.W.c1;go_quiet (fail);have F:=dh (p.drewN nq);have S:Hid (∀a,Keeps (fun k=>¬(M k\/(H<=k/\k<H+3))) (W1.drewN nq) a->Keeps (fun k=>¬M k) W a):=dh (fun a c=>KK.out a (((Keeps.refl (fun k=>¬(M k\/(H<=k/\k<H+3))) W1).drewN nq).trans c (fun _ _ e=>e)));clear L N c3 p;generalize W1.drewN nq=W2 at *;have f:Hid (∀a,Keeps (fun _=>False) W2 a->mG w0 b s root lone R (fun x=>M x\/(H<=x/\x<H+3)) bw dO dv k0 k1 k2 ol ds H Q H2 k0 gp pl a):=dh (fun a c=>F.out.step (F.out.wm.still c) (c.mono (fun _ _ e=>e.elim)));have HR:Hid (∀a,Keeps (fun _=>False) W2 a->Calls Tryz.prog 121 #[.pointer (some ⟨b,0,none⟩)] a fun e w'=>e=.returned (.int .i64 r)/\a=w'):=dh (fun a c=>by obtain⟨R',G,-,-⟩:=(f.out a c).wm.m.mp;have:=DL G;rw[q]at this;exact this);have T:Hid (∀a,Keeps (fun _=>False) W2 a->Calls Tryz.prog 160 #[.pointer (some ⟨b,0,none⟩),.int .i64 r] a fun e w'=>∃v,e=.returned v/\dI a.heap.size w' v (dD [r,g,o])/\Keeps (fun _=>False) a w'):=dh (fun a c=>by obtain⟨R',G,-,-⟩:=(f.out a c).wm.m.mp;rw[<-A];exact JH G r hr);have U:Hid (∀a,Keeps (fun _=>False) W2 a->Calls Tryz.prog 77 #[.pointer (some ⟨b,0,none⟩),.int .i64 g] a fun e w'=>e=.returned (.int .i64 (mt g:Nat))/\a=w'):=dh (fun a c=>by obtain⟨R',G,-,-⟩:=(f.out a c).wm.m.mp;exact tO G g B);have u:=Keeps.refl (fun _=>False) W2;have j:Hid (∀a,Keeps (fun _=>False) W2 a->a.cell? ⟨H,0,none⟩=some (.pointer (some ⟨bw,0,none⟩))/\a.cell? ⟨bw,0,none⟩=some (.pointer (some ⟨b,0,none⟩))):=dh (fun a c=>⟨dw (f.out a c).b0 0,(f.out a c).wm.W.c0⟩);obtain⟨L,N⟩:=j.out W2 u;have ad:∀x,M x->x<H:=Z;clear A B hr Z;go_wp2_with fail;go_region_held3 (fun w'=>w'.cell? ⟨H,0,none⟩=some (.pointer (some ⟨bw,0,none⟩))/\w'.cell? ⟨bw,0,none⟩=some (.pointer (some ⟨b,0,none⟩))) (first|exact⟨L,N⟩|exact j.out _ u.drew|exact j.out _ I) (first | (go_at_call 121;refine(HR.out _ u.drew).mono ?_;rintro e w' ⟨rfl,rfl⟩) | (go_at_call 160;refine(T.out _ u.drew).mono ?_;rintro e y ⟨v,rfl,d,c⟩;have I:Keeps (fun _=>False) W2 y:=u.drew.trans c (fun _ _ h=>h)));obtain⟨la,lc,rfl,-,-⟩:=d.form;obtain⟨O,rfl⟩:=pz d (Nat.zero_lt_succ 2);rw[show (dD [r,g,o]).length=3 from rfl];have J:Hid (∀a,Keeps (fun _=>False) y a->a.cell? ⟨H,0,none⟩=some (.pointer (some ⟨bw,0,none⟩))/\a.cell? ⟨bw,0,none⟩=some (.pointer (some ⟨b,0,none⟩))/\a.cell? ⟨O,2,none⟩=some (.int .i64 o)/\a.cell? ⟨O,1,none⟩=some (.int .i64 g)):=dh (fun a c=>by have ho:=d.keeps c (fun _ _ h=>h);obtain⟨a1,a2⟩:=j.out a (I.trans c (fun _ _ h=>h));exact⟨a1,a2,(ho.cell (i:=2) rfl).1,(ho.cell (i:=1) rfl).1⟩);obtain⟨f1,f2,f3,f4⟩:=J.out y (Keeps.refl _ _);have t:=Keeps.refl (fun _=>False) y;have HF:Hid (∀a,Keeps (fun _=>False) y a->WM w0 b s root lone R M bw dO dv k0 k1 k2 ol ds a/\Keeps (fun k=>¬M k) W a):=dh (fun a c=>by have K:=I.trans c (fun _ _ h=>h);exact⟨(f.out a K).fin HO.out,S.out a (K.mono (fun _ _ e=>e.elim))⟩);have V:Hid (∀a,Keeps (fun _=>False) y a->Calls Tryz.prog 77 #[.pointer (some ⟨b,0,none⟩),.int .i64 g] a fun e w'=>e=.returned (.int .i64 (mt g:Nat))/\a=w'):=dh (fun a c=>U.out a (I.trans c (fun _ _ h=>h)));clear d c I L N u;go_wp2_with fail;go_region_held3 (fun w'=>w'.cell? ⟨H,0,none⟩=some (.pointer (some ⟨bw,0,none⟩))/\w'.cell? ⟨bw,0,none⟩=some (.pointer (some ⟨b,0,none⟩))/\w'.cell? ⟨O,2,none⟩=some (.int .i64 o)/\w'.cell? ⟨O,1,none⟩=some (.int .i64 g)) (first|exact⟨f1,f2,f3,f4⟩|exact J.out _ t.drew) (first | (go_at_call 77;refine(V.out _ t.drew).mono ?_;rintro e w' ⟨rfl,rfl⟩))
 all_goals
  have X:=dh (HF.out _ t.drew);go_wp2;go_ret2;exact⟨rfl,X.out⟩
end
end
