import Derived.Test.YtalhcfjcbbkpgaaGreatZp16
set_option maxRecDepth 100000
set_option maxHeartbeats 4000000
namespace Go.Proofs.YtalhcfjcbbkpgaaGreat
section
open Go.RowKit
structure kW (w:World)(bw b n dL:Nat)(dv:Value)(k0 k1 k2:Nat)(ol:List Int)(ds:List Nat):Prop where
 blk:w.heap[bw]? = some (.cells #[.pointer (some ⟨b,0,none⟩),.int .i64 k0,.int .i64 k1,.int .i64 k2,.slice (some ⟨dL,0,none⟩) n n,dv] 301 (0,0))
 out:dH 0 w (.slice (some ⟨dL,0,none⟩) n n) ol
 Dx:ol.length=n
 wW:dH 0 w dv (dD ds)
 ne:bw≠dL/\¬dv.ownBlock=some bw/\¬dv.ownBlock=some dL
section
variable {w:World} {bw b n dL:Nat} {dv:Value} {k0 k1 k2:Nat} {ol:List Int} {ds:List Nat} (h:kW w bw b n dL dv k0 k1 k2 ol ds)
include h
theorem kW.keeps{w':World}{F:Nat->Prop}(k:Keeps F w w')(c:¬F bw)(d:¬F dL)(e:∀q,dv.ownBlock=some q->¬F q):kW w' bw b n dL dv k0 k1 k2 ol ds :=
 ⟨k.at h.blk c,h.out.keeps k (fun q a=>by simp only [Value.ownBlock,Option.some.injEq]at a;subst a;exact d),h.Dx,h.wW.keeps k e,h.ne⟩
theorem kW.c0:w.cell? ⟨bw,0,none⟩=some (.pointer (some ⟨b,0,none⟩)):=dw h.blk 0
theorem kW.c1:w.cell? ⟨bw,1,none⟩=some (.int .i64 k0):=dw h.blk 1
theorem kW.c4:w.cell? ⟨bw,4,none⟩=some (.slice (some ⟨dL,0,none⟩) n n):=dw h.blk 4
theorem kW.c5:w.cell? ⟨bw,5,none⟩=some dv:=dw h.blk 5
theorem kW.lt:bw<w.heap.size/\dL<w.heap.size/\∀q,dv.ownBlock=some q->q<w.heap.size:=⟨lt_of_block h.blk,(h.out.lt dL rfl).2,fun q a=>(h.wW.lt q a).2⟩
end
structure WM (w0:World)(b:Nat)(s:List Nat)(root lone:Int)(R M:Nat->Prop)(bw dL:Nat)(dv:Value)(k0 k1 k2:Nat)(ol:List Int)(ds:List Nat)(wr:World):Prop where
 m:MW w0 b s root lone R M wr
 t:Told wr b
 W:kW wr bw b s.length dL dv k0 k1 k2 ol ds
 own:M bw/\M dL/\∀q,dv.ownBlock=some q->M q
theorem fO.mw{w w1:World}{b:Nat}{s:List Nat}{root lone:Int}{R:Nat->Prop}(h:MapAt w b s root lone R)(a:fO w b s root lone R w1):MW w b s root lone R (fun _=>False) w1 :=
 ⟨⟨_,a.1,fun _ c=>c,fun _ h=>h.elim⟩,fun _ h=>h.elim,h.lt,h.old,h.kC,a.2⟩
section
variable {w0:World} {b:Nat} {s:List Nat} {root lone:Int} {R M:Nat->Prop} {bw dL:Nat} {dv:Value} {k0 k1 k2:Nat} {ol:List Int} {ds:List Nat} {wr:World} (h:WM w0 b s root lone R M bw dL dv k0 k1 k2 ol ds wr)
include h
theorem WM.nb{x:Nat}(a:M x):x≠b:=by have:=(h.m.mb x a).1;have:=h.m.bw;omega
theorem WM.step{a:World}(m:MW w0 b s root lone R M a)(t:Told a b)(k:Keeps (fun k=>¬M k) wr a):WM w0 b s root lone R M bw dL dv k0 k1 k2 ol ds a :=
 ⟨m,t,h.W.keeps k (fun e=>e h.own.1) (fun e=>e h.own.2.1) (fun q c e=>e (h.own.2.2 q c)),h.own⟩
theorem WM.still{a:World}(k:Keeps (fun _=>False) wr a):WM w0 b s root lone R M bw dL dv k0 k1 k2 ol ds a :=
 h.step (h.m.fresh k (fun _ c=>.inl c)) (h.t.keeps k (fun h=>h)) (k.mono (fun _ _ e=>e.elim))
theorem WM.push{g n cap x:Nat}{a:World}(u:∀x,M x↔x=bw\/x=dL\/dv.ownBlock=some x)(v:dH 0 a (.slice (some ⟨g,0,none⟩) n cap) (dD ds ++ [((x:Nat):Int)]))(k:Keeps (fun q=>dv.ownBlock=some q) wr a)(i:dv.ownBlock=some g\/wr.heap.size<=g) :
  a.cell? ⟨bw,5,none⟩=some dv/\a.frozen? ⟨bw,5,none⟩=false/\WM w0 b s root lone R (fun x=>x=bw\/x=dL\/(Value.slice (some ⟨g,0,none⟩) n cap).ownBlock=some x) bw dL (.slice (some ⟨g,0,none⟩) n cap) k0 k1 k2 ol (ds ++ [x]) (a.setCell ⟨bw,5,none⟩ (.slice (some ⟨g,0,none⟩) n cap)):=by
 have C:=v.lt g rfl;obtain⟨y,z,A⟩:=h.W.ne;obtain⟨E,F,G⟩:=h.W.lt;have D:=k.size
 have B:g≠bw/\g≠dL:=by
  rcases i with e|e
  ·exact⟨fun j=>z (j ▸ e),fun j=>A (j ▸ e)⟩
  ·omega
 have d:=k.at h.W.blk z;have o:Keeps (fun q=>q=bw) a (a.setCell ⟨bw,5,none⟩ (.slice (some ⟨g,0,none⟩) n cap)):=(Keeps.refl (fun q=>q=bw) a).setCell (p:=⟨bw,5,none⟩) (.inl rfl) _;have r:Keeps (fun q=>dv.ownBlock=some q\/q=bw) wr (a.setCell ⟨bw,5,none⟩ (.slice (some ⟨g,0,none⟩) n cap)):=(k.mono (fun _ _ e=>.inl e)).trans o (fun _ _ e=>.inr e);refine⟨dw d 5,dx d 5,h.m.own (r.mono (fun x _ e=>?_)) (fun x c=>?_),h.t.keeps r (fun e=>?_),⟨jM d 5 _,h.W.out.keeps r (fun q f e=>?_),h.W.Dx,?_,y,?_,?_⟩,.inl rfl,.inr (.inl rfl),fun q f=>.inr (.inr f)⟩
 ·rw[u];rcases e with e|e
  ·exact .inr (.inr e)
  ·exact .inl e
 ·rw[u];rcases c with c|c|c
  ·exact .inl (.inl c)
  ·exact .inl (.inr (.inl c))
  ·simp only [Value.ownBlock,Option.some.injEq]at c;subst c;rcases i with e|e
   ·exact .inl (.inr (.inr e))
   ·exact .inr ⟨e,by have:=o.size;omega⟩
 ·rcases e with e|e
  ·exact h.nb (h.own.2.2 b e) rfl
  ·exact h.nb h.own.1 e.symm
 ·simp only [Value.ownBlock,Option.some.injEq]at f;subst f;rcases e with e|e
  ·exact A e
  ·exact y e.symm
 ·rw[tV];exact v.keeps o (fun q f e=>by simp only [Value.ownBlock,Option.some.injEq]at f;omega)
 ·simp only [Value.ownBlock,Option.some.injEq];exact B.1
 ·simp only [Value.ownBlock,Option.some.injEq];exact B.2
end
noncomputable def qX(S:Nat->Nat)(j:Nat):List Nat:=(List.range j).filter fun d=>rep S d == d
theorem OZ(S:Nat->Nat)(j:Nat):(qX S j).length=eu S j:=rfl
theorem O0(S:Nat->Nat)(j:Nat):qX S (j+1)=qX S j ++ if rep S j=j then [j]else []:=by unfold qX;rw[List.range_succ,List.filter_append];by_cases h:rep S j=j <;> simp[h]
theorem dO.qY{n:Nat}{S:Nat->Nat}(h:dO n S){j:Nat}(a:j<n):vnum S j=eu S j↔rep S j=j:=by
 constructor
 ·intro e;apply Classical.byContradiction;intro d;have f:=h.iB a;have g:eu S (rep S j)+1<=eu S j:=by have c:=CY S (i:=rep S j+1) (j:=j) (by omega);rw[sw,if_pos (h.iY a)]at c;exact c
  have k:vnum S j=eu S (rep S j):=rfl;omega
 ·intro e;show eu S (rep S j)=eu S j;rw[e]
theorem dO.zT{n:Nat}{S:Nat->Nat}(h:dO n S):∀j,j<=n->∀d,d<j->∃e,(qX S j)[vnum S d]? = some e/\e<n/\vnum S e=vnum S d:=by
 intro j
 induction j with
 | zero=>intro _ d g;omega
 | succ j k =>
  intro u d g;have m:=k (by omega);rw[O0];have a:∀d,d<j->∃e,(qX S j ++ if rep S j=j then [j]else [])[vnum S d]? = some e/\e<n/\vnum S e=vnum S d:=fun d g=>by obtain⟨e,i,f,o⟩:=m d g;exact⟨e,by rw[List.getElem?_append_left (gX i)];exact i,f,o⟩
  rcases Nat.lt_or_ge d j with c|c
  ·exact a d c
  ·obtain rfl:d=j:=by omega
   by_cases hr:rep S d=d
   ·have p:=(h.qY (by omega:d<n)).2 hr;refine⟨d,?_,by omega,rfl⟩;rw[p,if_pos hr,<-OZ,List.getElem?_append_right (Nat.le_refl _),Nat.sub_self];rfl
   ·have i:=h.iB (by omega:d<n);have f:vnum S (rep S d)=vnum S d:=by show eu S (rep S (rep S d))=eu S (rep S d);rw[h.iY (by omega)]
    obtain⟨e,q,r,t⟩:=a (rep S d) (by omega);exact⟨e,by rw[<-f];exact q,r,by rw[t,f]⟩
section
variable {w:World} {b:Nat} {s:List Nat} {root:Int} {l:Nat} {R:Nat->Prop} (h:MapAt w b s root l R)
include h
theorem WT(d:¬kK s l):Calls Tryz.prog 184 #[.pointer (some ⟨b,0,none⟩)] w fun e w'=>e=.returned (.tuple #[.pointer none,.int .i64 8])/\fO w b s root l R w':=by have a:=qd h d;clear h;go_enter Tryz.func184,Tryz.ntmps184;go_wp2_with fail;refine a.mono ?_;rintro e w1 ⟨rfl,c⟩;have f:=dh c;clear c a;go_wp2;go_ret2;exact⟨rfl,f.out⟩
def WU(w:World)(b:Nat)(s:List Nat)(root:Int)(l:Nat)(R:Nat->Prop)(r:Nat)(e:Ending)(w':World):Prop :=
 ∃bw dL dv M,e=.returned (.tuple #[.pointer (some ⟨bw,0,none⟩),.int .i64 0]) /\
  WM w b s root l R M bw dL dv (vnum (sg s) (fc (sg s) (fc (sg s) r))) (vnum (sg s) r) (vnum (sg s) (fc (sg s) r)) (List.replicate s.length (-1)) (qX (sg s) s.length) w'
theorem WV(hT:kK s l){r:Nat}(F:root=(r:Int))(hr:r<s.length):Calls Tryz.prog 184 #[.pointer (some ⟨b,0,none⟩)] w (WU w b s root l R r):=by
 have hC:=OB h hT F hr;have al:=h.le;have HH:=dh h;obtain⟨z,G⟩:∃z,z=vnum (sg s) r:=⟨_,rfl⟩
 obtain⟨A,H⟩:∃A,A=vnum (sg s) (fc (sg s) r):=⟨_,rfl⟩
 obtain⟨B,I⟩:∃B,B=vnum (sg s) (fc (sg s) (fc (sg s) r)):=⟨_,rfl⟩
 rw[<-G,<-H,<-I]at hC;have J:=dh (dn G (dn H I));obtain⟨n,hn⟩:∃n,n=s.length:=⟨_,rfl⟩
 have HN:=dh hn;clear h G H I hT hr;go_enter Tryz.func184,Tryz.ntmps184;go_wp2_with fail;refine hC.mono ?_;rintro e w1 ⟨v,rfl,a,S,u⟩;clear hC;obtain⟨ca,cc,rfl,-,-⟩:=a.form;obtain⟨T,rfl⟩:=oU a (Nat.zero_lt_succ 2);have c:Hid (∀W,Keeps (fun _=>False) w1 W->W.cell? ⟨T,2,none⟩=some (.int .i64 (B:Nat))/\W.cell? ⟨T,0,none⟩=some (.int .i64 (z:Nat))/\W.cell? ⟨T,1,none⟩=some (.int .i64 (A:Nat))):=dh (fun W U=>by have V:=a.keeps U (fun _ _ h=>h);exact⟨(V.cell (i:=2) rfl).1,(V.cell (i:=0) rfl).1,(V.cell (i:=1) rfl).1⟩);have HD:Hid (∀W,Keeps (fun _=>False) w1 W->Calls Tryz.prog 62 #[.pointer (some ⟨b,0,none⟩)] W fun e w'=>e=.returned (.int .i64 n)/\W=w'):=dh (fun W U=>by rw[HN.out];exact uS (S.1.still U).1);have hR:=Gp (.slice (some ⟨w1.heap.size,0,none⟩) 1 1) (-1) n (w1.alloc (.cells #[.int .i64 (-1)] 3)).drew (by have h1:(w1.alloc (.cells #[.int .i64 (-1)] 3)).drew.heap[w1.heap.size]? = some (.cells #[.int .i64 (-1)] 3 (0,0)):=heap_alloc_new w1 _;refine Sl.rz (base:=0) (e:=3) (n:=1) ⟨rfl,.inr ⟨w1.heap.size,1,_,rfl,Nat.zero_le _,h1,Nat.le_refl _,by unfold maxLen;omega,rfl,rfl⟩⟩) (by omega);rw[show (dD [z,A,B]).length=3 from rfl];obtain⟨d0,d1,d2⟩:=c.out w1 (Keeps.refl _ _);have K:=dh (dn S u);have D:=Keeps.refl (fun _=>False) w1;clear S u a hn;go_wp2_with fail;go_region_held3 (fun w'=>w'.cell? ⟨T,2,none⟩=some (.int .i64 (B:Nat))/\w'.cell? ⟨T,0,none⟩=some (.int .i64 (z:Nat))/\w'.cell? ⟨T,1,none⟩=some (.int .i64 (A:Nat))) (first|exact⟨d0,d1,d2⟩|exact⟨f0,f1,f2⟩|exact c.out _ D.drew|exact c.out _ (D.alloc _).drew|exact c.out _ (D.drew.alloc _)|exact c.out _ (k2.alloc _)) (first | (go_at_call 62;refine(HD.out _ (by first|exact D.drew|exact(D.alloc _).drew|exact D.drew.alloc _)).mono ?_;rintro e w' ⟨rfl,rfl⟩) | (go_at_call 74;refine hR.mono ?_;rintro e N ⟨g,rfl,d⟩;have k2:Keeps (fun _=>False) w1 N:=((D.alloc _).drew).trans (by obtain⟨_,_,_,_,U⟩:=id d;exact U) (fun _ _ h=>h);obtain⟨f0,f1,f2⟩:=c.out N k2))
 all_goals
  have af:w1.heap.size<=N.heap.size:=k2.size;have k:=heap_alloc_new N (.cells #[.pointer (some ⟨b,0,none⟩),.int .i64 (B:Nat),.int .i64 (z:Nat),.int .i64 (A:Nat),.slice (some ⟨g,0,none⟩) n n,.slice none 0 0] 301);have X:=(Keeps.refl (fun _=>False) N).alloc (.cells #[.pointer (some ⟨b,0,none⟩),.int .i64 (B:Nat),.int .i64 (z:Nat),.int .i64 (A:Nat),.slice (some ⟨g,0,none⟩) n n,.slice none 0 0] 301);obtain⟨bw,E⟩:∃bw,bw=N.heap.size:=⟨_,rfl⟩
  rw[<-E]at k ⊢;generalize N.alloc _=wx at *
  have Y:WM w b s root l R (fun x=>x=bw\/x=g\/(Value.slice none 0 0).ownBlock=some x) bw g (.slice none 0 0) B z A (List.replicate n (-1)) (qX (sg s) 0) wx:=by
   obtain⟨zs,am,rfl,V,U⟩:=d;have ag:=V.lt g rfl;have ah:(w1.alloc (.cells #[.int .i64 (-1)] 3)).drew.heap.size=w1.heap.size+1:=by simp
   rw[ah]at ag;have e1:=lt_of_block k;have an:=K.out.1.2.size;rw[HN.out]at *;refine⟨(K.out.1.mw HH.out).fresh (k2.trans X (fun _ _ h=>h)) (fun x hx=>.inr ?_),K.out.2.keeps (k2.trans X (fun _ _ h=>h)) (fun h=>h),⟨k,(V.keeps X (fun _ _ h=>h)).mono (fun q S=>Nat.zero_le _),List.length_replicate,dH.nil _ _,?_,fun e=>(by cases e),fun e=>(by cases e)⟩,.inl rfl,.inr (.inl rfl),fun q S=>(by cases S)⟩
   ·rcases hx with rfl|rfl|hx
    ·omega
    ·have:=X.size;omega
    ·cases hx
   ·omega
  have Z:=HD.out wx (k2.trans X (fun _ _ h=>h));clear k X E d f0 f1 f2 d0 d1 d2 k2 hR af HD c D;go_wp2_with fail;refine Z.mono ?_;rintro e w' ⟨rfl,rfl⟩;clear Z;go_wp2_with fail;go_loopg [7,36] n (fun m nx i wr=>∃j:Nat,j<=n/\m=n - j/\i=.int .i64 j/\nx=.int .i64 (eu (sg s) j:Nat)/\∃dv,WM w b s root l R (fun x=>x=bw\/x=g\/dv.ownBlock=some x) bw g dv B z A (List.replicate n (-1)) (qX (sg s) j) wr)
  case atStart=>exact⟨0,Nat.zero_le _,rfl,rfl,rfl,_,Y⟩
  case round =>
   clear Y;obtain⟨j,hj,aa,rfl,rfl,dv,d⟩:=hrel;have HG:=dh aa;clear aa;by_cases ai:j<n
   ·have O:j<s.length:=by rw[<-HN.out];exact ai
    obtain⟨R',hA,-,-⟩:=d.m.mp;have hX:=GK hA d.t j O;have aj:=oV (sg s) j;have o:=HH.out.dR.qY O;have p:=O0 (sg s) j;have f:=sw (sg s) j;have C:=OZ (sg s) j;obtain⟨da,dc,rfl,-,-⟩:=d.W.wW.form;rw[q01,C]at d;have e5:=d.W.c5;have a:=d.W.wW;have P:=dh d;obtain⟨L,hL⟩:∃L,L=eu (sg s) j:=⟨_,rfl⟩
    obtain⟨v,hv⟩:∃v,v=vnum (sg s) j:=⟨_,rfl⟩
    rw[<-hL]at o aj f C e5 a P ⊢;rw[<-hv]at o hX;have ao:v<=131072:=by have:=xY HH.out.dR O;omega
    have ab:Hid ((dD (qX (sg s) j)).length=L):=dh (by rw[q01,C]);clear hL hv hA d C;go_wp2_with fail;refine hX.mono ?_;rintro e w' ⟨rfl,rfl⟩;clear hX;by_cases hr:rep (sg s) j=j
    ·rw[if_pos hr]at p f;have ht:((v:Int) == (L:Int))=true:=by rw[o.2 hr];exact beq_self_eq_true _
     have Q:=dh (dn p f);clear p f o hr;go_wp2_with (at_builtin;refine FE rfl _ _ rfl 0 (.slice da L dc) (dD (qX (sg s) j)) (j:Nat) _ rfl rfl rfl a (by rw[ab.out];omega) (Nat.zero_le _) ?_;rw[ab.out];intro g2 ak w3 y ad ae hg;obtain⟨d5,f5,hW⟩:=P.out.push (fun x=>Iff.rfl) y ad ae;rw[<-Q.out.1]at hW;have HW:=dh hW;clear hW y ad ae hg)
     go_roundg (n - (j+1))
     case measure=>rw[HG.out];omega
     case rel=>exact⟨j+1,by omega,rfl,by go_num,by rw[Q.out.2];go_num,_,HW.out⟩
    ·rw[if_neg hr,List.append_nil]at p;rw[if_neg hr]at f;have ht:((v:Int) == (L:Int))=false:=by rw[beq_eq_false_iff_ne];intro e;exact hr (o.1 (by omega))
     have Q:=dh (dn p f);clear p f o hr;go_wp2_with fail;go_roundg (n - (j+1))
     case measure=>rw[HG.out];omega
     case rel=>exact⟨j+1,by omega,rfl,by go_num,by rw[Q.out.2];go_num,_,by rw[Q.out.1];exact P.out⟩
   ·obtain rfl:j=n:=by omega
    rw[HN.out,J.out.1,J.out.2.1,J.out.2.2]at d;have Q:=dh d;clear d;go_wp2;go_ret2;exact⟨_,_,_,_,rfl,Q.out⟩
end
end
section
open Go.RowKit
theorem JW(P:Prop):∃t:Bool,t=true↔P:=by
 classical
 exact⟨decide P,by simp⟩
section
variable {w0:World} {b:Nat} {s:List Nat} {root lone:Int} {R M:Nat->Prop} {bw dL:Nat} {dv:Value} {k0 k1 k2:Nat} {ol:List Int} {ds:List Nat} {wr:World} (h:WM w0 b s root lone R M bw dL dv k0 k1 k2 ol ds wr)
include h
theorem O1(v:Nat):Calls Tryz.prog 263 #[.pointer (some ⟨bw,0,none⟩),.int .i64 v] wr fun e w'=>wr=w'/\∃t:Bool,e=.returned (.bool t)/\(t=true↔v=k0\/v=k1\/v=k2):=by
 have c:Sl .i64 wr (.slice (some ⟨bw,1,none⟩) 3 3) (dD [k0,k1,k2]):=⟨some ⟨bw,1,none⟩,3,rfl,Nat.le_refl 3,by omega,fun e=>(by cases e),fun j z a=>⟨bw,1,rfl,by
  have g:=dw h.W.blk (1+j);rw[g];rcases j with _|_|_|j
  ·simp[dD]at a;subst a;rfl
  ·simp[dD]at a;subst a;rfl
  ·simp[dD]at a;subst a;rfl
  ·simp[dD]at a⟩⟩
 have d:=NT (v:Int) c (by simp[dD])
 have e:((v:Int) ∈ dD [k0,k1,k2])↔(v=k0\/v=k1\/v=k2):=by
  simp only [dD,List.map_cons,List.map_nil,List.mem_cons,List.not_mem_nil,or_false];constructor
  ·rintro (e|e|e)
   ·exact .inl (by omega)
   ·exact .inr (.inl (by omega))
   ·exact .inr (.inr (by omega))
  ·rintro (e|e|e)
   ·exact .inl (by omega)
   ·exact .inr (.inl (by omega))
   ·exact .inr (.inr (by omega))
 have i:=dh e;clear c h e;go_enter Tryz.func263,Tryz.ntmps263;go_wp2_with fail;refine d.mono ?_;rintro e w' ⟨rfl,t,rfl,f⟩;have k:=dh (f.trans i.out);clear f d;go_wp2;go_ret;exact⟨rfl,t,rfl,k.out⟩
theorem WM.drewN(q:Nat):WM w0 b s root lone R M bw dL dv k0 k1 k2 ol ds (wr.drewN q):=h.still ((Keeps.refl _ wr).drewN q)
theorem WW(d:Nat)(j:d<s.length):Calls Tryz.prog 228 #[.pointer (some ⟨bw,0,none⟩),.int .i64 d] wr fun e w'=>(∃q,w'=wr.drewN q)/\∃t:Bool,e=.returned (.bool t) /\
  (t=true↔(vnum (sg s) d=k0\/vnum (sg s) d=k1\/vnum (sg s) d=k2)/\(vnum (sg s) (mt d)=k0\/vnum (sg s) (mt d)=k1\/vnum (sg s) (mt d)=k2)):=by
 obtain⟨k,g,-,-⟩:=h.m.mp;have o:=dQ g.even j;have a:=fun n=>(h.drewN n).m.mp;have x:∀n,Calls Tryz.prog 123 #[.pointer (some ⟨b,0,none⟩),.int .i64 d] (wr.drewN n) fun e w'=>e=.returned (.int .i64 (vnum (sg s) d:Nat))/\wr.drewN n=w':=fun n=>by obtain⟨k,a,-,-⟩:=a n;exact GK a (h.drewN n).t d j
 have y:∀n,Calls Tryz.prog 123 #[.pointer (some ⟨b,0,none⟩),.int .i64 (mt d:Nat)] (wr.drewN n) fun e w'=>e=.returned (.int .i64 (vnum (sg s) (mt d):Nat))/\wr.drewN n=w':=fun n=>by obtain⟨k,a,-,-⟩:=a n;exact GK a (h.drewN n).t (mt d) o
 have z:∀n,Calls Tryz.prog 77 #[.pointer (some ⟨b,0,none⟩),.int .i64 d] (wr.drewN n) fun e w'=>e=.returned (.int .i64 (mt d:Nat))/\wr.drewN n=w':=fun n=>by obtain⟨k,a,-,-⟩:=a n;exact sZ a d j
 obtain⟨p,c⟩:∃t:Bool,t=true↔(vnum (sg s) d=k0\/vnum (sg s) d=k1\/vnum (sg s) d=k2):=JW _;obtain⟨A,f⟩:∃t:Bool,t=true↔(vnum (sg s) (mt d)=k0\/vnum (sg s) (mt d)=k1\/vnum (sg s) (mt d)=k2):=JW _
 have B:∀n,Calls Tryz.prog 263 #[.pointer (some ⟨bw,0,none⟩),.int .i64 (vnum (sg s) d:Nat)] (wr.drewN n) fun e w'=>e=.returned (.bool p)/\wr.drewN n=w':=fun n =>
  (O1 (h.drewN n) _).mono (fun e w' ⟨r,t,e2,e3⟩=>⟨by rw[e2,show t=p from Bool.eq_iff_iff.2 (e3.trans c.symm)],r⟩)
 have i:∀n,Calls Tryz.prog 263 #[.pointer (some ⟨bw,0,none⟩),.int .i64 (vnum (sg s) (mt d):Nat)] (wr.drewN n) fun e w'=>e=.returned (.bool A)/\wr.drewN n=w':=fun n =>
  (O1 (h.drewN n) _).mono (fun e w' ⟨r,t,e2,e3⟩=>⟨by rw[e2,show t=A from Bool.eq_iff_iff.2 (e3.trans f.symm)],r⟩)
 have C:wr.cell? ⟨bw,0,none⟩=some (.pointer (some ⟨b,0,none⟩)):=h.W.c0;rw[<-c,<-f];clear h a g c f;generalize vnum (sg s) d=v at *;generalize vnum (sg s) (mt d)=u at *;generalize mt d=m at *;cases p
 ·go_enter Tryz.func228,Tryz.ntmps228;go_wp2_with fail;go_quiet (first | (go_at_call 123;first | (with_reducible exact nN (x _)) | (with_reducible exact nN (y _))) | (go_at_call 263;first | (with_reducible exact nN (B _)) | (with_reducible exact nN (i _))) | (go_at_call 77;with_reducible exact nN (z _)));go_wp2;go_ret;exact⟨⟨_,rfl⟩,_,rfl,by simp⟩
 ·go_enter Tryz.func228,Tryz.ntmps228;go_wp2_with fail;go_quiet (first | (go_at_call 123;first | (with_reducible exact nN (x _)) | (with_reducible exact nN (y _))) | (go_at_call 263;first | (with_reducible exact nN (B _)) | (with_reducible exact nN (i _))) | (go_at_call 77;with_reducible exact nN (z _)));go_wp2;go_ret;exact⟨⟨_,rfl⟩,_,rfl,by simp⟩
noncomputable def uE(s:List Nat)(k0 k1 k2:Nat)(o:List Int)(d:Nat)(c:Int):List Int:=open Classical in
 if (vnum (sg s) d=k0\/vnum (sg s) d=k1\/vnum (sg s) d=k2)/\(vnum (sg s) (mt d)=k0\/vnum (sg s) (mt d)=k1\/vnum (sg s) (mt d)=k2)then o else o.set d c
omit h in
theorem WM.qp(h:WM w0 b s root lone R M bw dL dv k0 k1 k2 ol ds wr)(d:Nat)(c:Int):WM w0 b s root lone R M bw dL dv k0 k1 k2 (ol.set d c) ds (wr.setCell ⟨dL,d,none⟩ (.int .i64 c)):=by obtain⟨a,j,f⟩:=h.W.ne;have k:Keeps (fun q=>q=dL) wr (wr.setCell ⟨dL,d,none⟩ (.int .i64 c)):=(Keeps.refl (fun q=>q=dL) wr).setCell (p:=⟨dL,d,none⟩) (.inl rfl) _;exact⟨h.m.own (k.mono (fun x _ e=>e ▸ h.own.2.1)) (fun x g=>.inl g),h.t.keeps k (fun e=>h.nb h.own.2.1 e.symm),⟨k.at h.W.blk a,h.W.out.set d c,by rw[List.length_set];exact h.W.Dx,h.W.wW.keeps k (fun q i e=>f (e ▸ i)),h.W.ne⟩,h.own⟩
theorem JX(d:Nat)(j:d<s.length)(c:Int):Calls Tryz.prog 187 #[.pointer (some ⟨bw,0,none⟩),.int .i64 d,.int .i64 c] wr fun e w'=>e=.returned (.tuple #[])/\WM w0 b s root lone R M bw dL dv k0 k1 k2 (uE s k0 k1 k2 ol d c) ds w'/\Keeps (fun k=>k=dL) wr w':=by
 have o:=WW h d j;have r:=dh h;obtain⟨N,m⟩:∃N,N=s.length:=⟨_,rfl⟩
 have u:=dh m;rw[<-m]at j;clear h m;go_enter Tryz.func187,Tryz.ntmps187;go_wp2_with fail;refine o.mono ?_;rintro e w' ⟨⟨q,rfl⟩,t,rfl,i⟩;clear o;cases t
 ·have f:=r.out.drewN q;have v:=f.W.c4;rw[<-u.out]at v;obtain⟨z,x,y⟩:=f.W.out.has d (by rw[f.W.Dx,<-u.out];exact j);have g:=f.qp d c;have a:=dh (dn (show uE s k0 k1 k2 ol d c=ol.set d c by unfold uE;exact if_neg (fun e=>by cases i.2 e)) (dn g (((Keeps.refl (fun k=>k=dL) wr).drewN q).setCell (p:=⟨dL,d,none⟩) (.inl rfl) (.int .i64 c))));generalize wr.drewN q=w1 at *;clear i f g;go_wp2;go_end0;exact⟨rfl,by rw[a.out.1];exact a.out.2.1,a.out.2.2⟩
 ·have a:=dh (dn (show uE s k0 k1 k2 ol d c=ol by unfold uE;exact if_pos (i.1 rfl)) (dn (r.out.drewN q) ((Keeps.refl (fun k=>k=dL) wr).drewN q)));generalize wr.drewN q=w1 at *;clear i;go_wp2;go_end0;exact⟨rfl,by rw[a.out.1];exact a.out.2.1,a.out.2.2⟩
end
end
