import Derived.Test.YtalhcfjcbbkpgaaGreatZp0x
set_option maxRecDepth 100000
set_option maxHeartbeats 4000000
namespace Go.Proofs.YtalhcfjcbbkpgaaGreat
section
open Go.RowKit
noncomputable def mG(s:List Nat):List Nat:=(List.range s.length).filter fun d=>eU s.length (sg s) d == d
theorem OG(s:List Nat):(mG s).length=dX s.length (sg s) s.length:=rfl
theorem OH{s:List Nat}{j:Nat}(a:j<dX s.length (sg s) s.length):(mG s)[j]? = some (jq s j):=by have h:j<(mG s).length:=a;rw[List.getElem?_eq_getElem h];show _=some ((mG s).getD j 0);rw[List.getD_eq_getElem?_getD,List.getElem?_eq_getElem h];rfl
open Classical in
noncomputable def kF(s:List Nat)(r j:Nat):List Nat:=r :: ((mG s).take j).filter fun d=>!decide (dI s.length (sg s) r d)
theorem OI(s:List Nat)(r:Nat):kF s r 0=[r]:=by simp[kF]
theorem GL{s:List Nat}{r j:Nat}(a:dX s.length (sg s) s.length<=j):kF s r j=lD s r:=by unfold kF lD;rw[List.take_of_length_le (by rw[OG];exact a)];unfold mG;rw[List.filter_filter];congr 1;exact List.filter_congr (fun x _=>Bool.and_comm _ _)
open Classical in
theorem VL{s:List Nat}(e:dO s.length (sg s))(f:s.length % 2=0){r j:Nat}(hr:r<s.length)(c:j<dX s.length (sg s) s.length):kF s r (j+1)=if j=eP s.length (sg s) r then kF s r j else kF s r j ++ [jq s j]:=by
 obtain⟨i,l,k⟩:=Jg c;unfold kF;rw[oW (OH c),List.filter_append];have d:dI s.length (sg s) r (jq s j)↔eP s.length (sg s) r=j:=by rw[<-e.iT f hr i,k]
 by_cases a:j=eP s.length (sg s) r
 ·rw[if_pos a];have:dI s.length (sg s) r (jq s j):=d.2 a.symm;rw[List.filter_cons,decide_eq_true this];simp
 ·rw[if_neg a];have:¬dI s.length (sg s) r (jq s j):=fun h=>a (d.1 h).symm;rw[List.filter_cons,decide_eq_false this];simp
theorem OJ(s:List Nat)(r j:Nat):(kF s r j).length<=s.length+1:=by
 unfold kF;rw[List.length_cons];have a:=List.length_filter_le (fun d=>!@decide (dI s.length (sg s) r d) (Classical.propDecidable _)) ((mG s).take j);have c:=List.length_take_le j (mG s);have e:=OG s;have f:=BD s.length (sg s) s.length;have i:((mG s).take j).length<=(mG s).length:=by rw[List.length_take];omega
 omega
theorem VN{s:List Nat}{l j:Nat}(a:j<dX s.length (sg s) s.length):∃c d z3 z4:Int,(jN s l)[j]? = some [(jq s j:Int),c,d,z3,z4]:=by unfold jN;rw[List.getElem?_append_left (by rw[xF];exact a)];unfold pK;rw[List.getElem?_map];have:=OH a;unfold mG at this;rw[this];exact⟨_,_,_,_,rfl⟩
theorem VO{s:List Nat}{l j:Nat}(a:dX s.length (sg s) s.length<=j)(c:j<(jN s l).length):(jN s l)[j]? = some [-1,1,0,1,0]:=by rw[q24]at c;unfold jN;rw[List.getElem?_append_right (by rw[xF];exact a),xF,List.getElem?_replicate,if_pos (by omega)]
section
variable {w:World} {b:Nat} {s:List Nat} {r ln:Nat} {R:Nat->Prop} (h:MapAt w b s r ln R) (hn:0<s.length)
include h hn
theorem VP:Calls Tryz.prog 75 #[.pointer (some ⟨b,0,none⟩)] w fun e w'=>∃v,e=.returned v/\dH w.heap.size w' v (dD (lD s r))/\∃U,MapAt w' b s r ln U/\(∀x,U x->R x\/(w.heap.size<=x/\x<w'.heap.size))/\(∀k,v.ownBlock=some k->¬U k)/\Keeps (fun k=>k=b) w w':=by
 have hr:r<s.length:=by rcases h.rt with⟨h0,_⟩|⟨_,h1⟩ <;> omega
 have hD:=uS h;have hN:=Jf h;have az:=h.le;have aA:=h.ln;have aB:=BD s.length (sg s) s.length;obtain⟨f,hf⟩:∃f,f=eP s.length (sg s) r:=⟨_,rfl⟩
 have aC:f<dX s.length (sg s) s.length:=by rw[hf];exact h.dR.lG h.even hr
 have an:=dh hf;have V:=dh h;have q0:((s.length:Int) == 0)=false:=by rw[beq_eq_false_iff_ne];omega
 clear h;go_enter Tryz.func75,Tryz.ntmps75;go_wp2_with fail;refine hD.mono ?_;rintro e w' ⟨rfl,rfl⟩;clear hD;go_wp2_with fail;refine hN.mono ?_;rintro e w1 ⟨g1,rfl,zs,ao,hz,y,X⟩;have a:w1.cell? ⟨g1,r,none⟩=some (.int .i64 (f:Nat)):=by refine(y.cell (i:=r) ?_).1;rw[hz,hf];exact jA (by simp[hr])
 have h1:=V.out.keeps X (fun h=>h) (fun _ _ h=>h);have Y:=Dl h1;have H1:=dh (dn h1 X);clear hN ao hz y h1 X zs hf;go_wp2_with fail;refine Y.mono ?_;rintro e w' ⟨rfl,rfl⟩;go_wp2_with fail;refine Y.mono ?_;rintro e w' ⟨rfl,rfl⟩;clear Y;obtain⟨g,hg⟩:∃g,g=w1.heap.size:=⟨_,rfl⟩
 obtain⟨C,M⟩:∃C,C=w1.alloc (.cells #[.int .i64 (r:Int)] 3):=⟨_,rfl⟩
 have Z:Keeps (fun _=>False) w1 C:=by rw[M];exact(Keeps.refl _ _).alloc _
 have o2:dH w.heap.size C (.slice (some ⟨g,0,none⟩) 1 1) (dD (kF s r 0)):=by rw[M,hg,OI];have:=q3z w1 (r:Int);exact this.mono (fun k E=>by simp only [Value.ownBlock,Option.some.injEq]at E;have:=H1.out.2.size;omega)
 have h2:MapAt C b s r (ln:Nat) R:=H1.out.1.keeps Z (fun h=>h) (fun _ _ h=>h);have hP:=Jh h2;obtain⟨N,aa⟩:∃N,N=(jN s ln).length:=⟨_,rfl⟩
 have ag:=dh (q24 s ln);have ab:=o2.lt g rfl;have H:Hid (Keeps (fun _=>False) w C/\dH w.heap.size C (.slice (some ⟨g,0,none⟩) 1 1) (dD (kF s r 0))/\w.heap.size<=g/\g<C.heap.size):=dh ⟨H1.out.2.trans Z (fun _ _ h=>h),o2,ab.1,ab.2⟩;clear h2 Z o2 ab;go_wp2_with fail;rw[<-M,<-hg];clear hg M;refine hP.mono ?_;rintro e A ⟨pv,rfl,y,hq⟩;obtain⟨pa,pc,rfl⟩:=y.form;have HD:Hid (∀W,Keeps (fun k=>k=g) A W->Own5 183 C.heap.size W (.slice pa (jN s ln).length pc) (jN s ln)):=dh (fun W E=>y.keeps E (fun q hq e=>by have:=(y.lt q hq).1;have:=H.out.2.2.2;omega));have ah:g≠b:=by have:=V.out.lt;have:=H.out.2.2.1;omega
 have HQ:Hid (Keeps (fun k=>k=b) w A/\MapAt A b s r ln (grow R C A)/\C.heap.size<=A.heap.size/\dH w.heap.size A (.slice (some ⟨g,0,none⟩) 1 1) (dD (kF s r 0))) :=
  dh ⟨(show Keeps (fun k=>k=b) w C from H.out.1.mono (fun _ _ h=>h.elim)).trans hq.2 (fun _ _ h=>h),hq.1,hq.2.size,H.out.2.1.keeps hq.2 (fun k E e=>by simp only [Value.ownBlock,Option.some.injEq]at E;exact ah (by omega))⟩
 have HA:Hid (∀ov W,dH w.heap.size W ov (dD (lD s r))->(∀k,ov.ownBlock=some k->k=g\/A.heap.size<=k)->Keeps (fun k=>k=g) A W->A.heap.size<=W.heap.size->∃U,MapAt W b s r ln U/\(∀x,U x->R x\/(w.heap.size<=x/\x<W.heap.size))/\(∀k,ov.ownBlock=some k->¬U k)/\Keeps (fun k=>k=b) w W):=by
  refine dh (fun ov W ho hb E hs=>⟨grow R C A,HQ.out.2.1.keeps E (fun e=>ah e.symm) (fun x O e=>?_),fun x O=>?_,fun k ap O=>?_,HQ.out.1.trans E (fun x O e=>?_)⟩)
  ·subst e;rcases O with e|e
   ·have:=V.out.old _ e;have:=H.out.2.2.1;omega
   ·have:=H.out.2.2.2;omega
  ·rcases O with e|e
   ·exact .inl e
   ·have:=H.out.1.size;exact .inr (by omega)
  ·rcases hb k ap with e1|e1
   ·subst e1;rcases O with e|e
    ·have:=V.out.old _ e;have:=H.out.2.2.1;omega
    ·have:=H.out.2.2.2;omega
   ·rcases O with e|e
    ·have:=V.out.old _ e;have:=HQ.out.1.size;omega
    ·omega
  ·have:=H.out.2.2.1;omega
 have o3:=HQ.out.2.2.2;have aq:(kF s r 0).length=1:=by rw[OI];rfl
 clear hP y hq;rw[<-aa];have aD:N<=300000:=by have:=ag.out;omega
 have ad:=dh aa;clear aa;go_wp2_with fail;go_loopg [5,24] N (fun m o' i wr=>∃(j:Nat) (o:Value),j<=N/\m=N - j/\i=.int .i64 j/\o=o'/\dH w.heap.size wr o (dD (kF s r j))/\(∀k,o.ownBlock=some k->k=g\/A.heap.size<=k)/\Keeps (fun k=>k=g) A wr)
 case atStart=>exact⟨0,_,Nat.zero_le _,by omega,rfl,rfl,o3,fun k E=>.inl (by simpa [Value.ownBlock]using E.symm),Keeps.refl _ _⟩
 case round =>
  clear o3;obtain⟨j,o,hj,ai,rfl,rfl,n,z,t⟩:=hrel;have ae:=dh ai;clear ai;have ay:g<A.heap.size:=by have:=H.out.2.2.2;have:=HQ.out.2.2.1;omega
  by_cases ar:j<N
  ·have F:=HD.out wr t;rw[<-ad.out]at F;by_cases aj:j<dX s.length (sg s) s.length
   ·obtain⟨P,Q,z3,z4,hp⟩:=VN (l:=ln) aj;obtain⟨I,cap,hv,a⟩:=F.cell hp;simp only [Value.slice.injEq]at hv;obtain⟨rfl,-,rfl⟩:=hv;have d0:wr.cell? ⟨I,j * 5,none⟩=some (.int .i64 (jq s j:Nat)):=a 0 _ rfl;have d1:wr.cell? ⟨I,j * 5+1,none⟩=_:=a 1 P rfl;have d2:wr.cell? ⟨I,j * 5+2,none⟩=_:=a 2 Q rfl;have d3:wr.cell? ⟨I,j * 5+3,none⟩=_:=a 3 z3 rfl;have d4:wr.cell? ⟨I,j * 5+4,none⟩=_:=a 4 z4 rfl;have d:=VL V.out.dR V.out.even hr aj;rw[<-an.out]at d;obtain⟨G,af⟩:∃G,G=jq s j:=⟨_,rfl⟩
    rw[<-af]at d;rw[<-af]at d0;clear af;have u:=(Keeps.refl (fun _=>False) wr).alloc (.cells #[.int .i64 (G:Int),.int .i64 P,.int .i64 Q,.int .i64 z3,.int .i64 z4] 183);by_cases J:j=f
    ·have q1:((j:Int) != (f:Int))=false:=by simp[J]
     rw[if_pos J]at d
     have HF:Hid (dH w.heap.size (wr.alloc (.cells #[.int .i64 (G:Int),.int .i64 P,.int .i64 Q,.int .i64 z3,.int .i64 z4] 183)) o (dD (kF s r (j+1)))/\(∀k,o.ownBlock=some k->k=g\/A.heap.size<=k)/\Keeps (fun k=>k=g) A (wr.alloc (.cells #[.int .i64 (G:Int),.int .i64 P,.int .i64 Q,.int .i64 z3,.int .i64 z4] 183))) :=
      dh ⟨by rw[d];exact n.keeps u (fun _ _ h=>h),z,t.trans u (fun _ _ h=>h.elim)⟩
     clear n z t u hp a F d J;go_wp2;go_roundg (N - (j+1))
     case measure=>rw[ae.out];omega
     case rel=>exact⟨j+1,_,by omega,rfl,by go_num,rfl,HF.out⟩
    ·have q1:((j:Int) != (f:Int))=true:=by rw[bne_iff_ne];omega
     have q2:decide (0<=(G:Int))=true:=decide_eq_true (by omega);rw[if_neg J]at d;obtain⟨oa,oc,rfl,_,_⟩:=n.form;rw[q01]at n z ⊢;obtain⟨c,hc⟩:∃c,c=(kF s r j).length:=⟨_,rfl⟩
     rw[<-hc]at n z ⊢;have HN:Hid ((dD (kF s r j)).length=c):=dh (by rw[q01,hc]);have ak:c<=10000000000:=by have:=OJ s r j;omega
     have au:=n.keeps u (fun _ _ h=>h);have al:w.heap.size<=(wr.alloc (.cells #[.int .i64 (G:Int),.int .i64 P,.int .i64 Q,.int .i64 z3,.int .i64 z4] 183)).heap.size:=by have:=HQ.out.1.size;have:=t.size;have:=u.size;omega
     have aE:=heap_alloc_new wr (.cells #[.int .i64 (G:Int),.int .i64 P,.int .i64 Q,.int .i64 z3,.int .i64 z4] 183);have aF:wr.heap.size ≥ A.heap.size:=t.size
     have HF:Hid (∀S B w5,dH w.heap.size w5 (.slice (some ⟨S,0,none⟩) (c+1) B) (dD (kF s r j) ++ [(G:Int)])->Keeps (fun k=>(Value.slice oa c oc).ownBlock=some k) (wr.alloc (.cells #[.int .i64 (G:Int),.int .i64 P,.int .i64 Q,.int .i64 z3,.int .i64 z4] 183)) w5->((Value.slice oa c oc).ownBlock=some S\/(wr.alloc (.cells #[.int .i64 (G:Int),.int .i64 P,.int .i64 Q,.int .i64 z3,.int .i64 z4] 183)).heap.size<=S) ->
       dH w.heap.size w5 (.slice (some ⟨S,0,none⟩) (c+1) B) (dD (kF s r (j+1)))/\(∀k,(Value.slice (some ⟨S,0,none⟩) (c+1) B).ownBlock=some k->k=g\/A.heap.size<=k)/\Keeps (fun k=>k=g) A w5):=dh (fun S B w5 h5 k5 av=>by
      refine⟨by rw[d,tV];exact h5,fun k E=>?_,(t.trans u (fun _ _ h=>h.elim)).trans k5 (fun x O e=>?_)⟩
      ·simp only [Value.ownBlock,Option.some.injEq]at E;subst E;rcases av with e|e
       ·exact z _ e
       ·have:=u.size;exact .inr (by omega)
      ·rcases z _ e with e' | e'
       ·exact e'
       ·omega)
     clear n z t u hp a F d J hc;go_wp2_with (at_builtin;refine oz c rfl _ _ rfl w.heap.size (.slice oa c oc) (dD (kF s r j)) (G:Nat) HN (wr.heap.size+1) (by simp) rfl rfl au ak al ?_;intro S B w5 L am T aw;have ax:=dh (HF.out S B w5 L am T);clear L am T aw)
     go_roundg (N - (j+1))
     case measure=>rw[ae.out];omega
     case rel=>exact⟨j+1,_,by omega,rfl,by go_num,rfl,ax.out⟩
   ·have hp:=VO (s:=s) (l:=ln) (j:=j) (by omega) (by rw[<-ad.out];exact ar);obtain⟨I,cap,hv,a⟩:=F.cell hp;simp only [Value.slice.injEq]at hv;obtain⟨rfl,-,rfl⟩:=hv;have d0:wr.cell? ⟨I,j * 5,none⟩=_:=a 0 (-1) rfl;have d1:wr.cell? ⟨I,j * 5+1,none⟩=_:=a 1 1 rfl;have d2:wr.cell? ⟨I,j * 5+2,none⟩=_:=a 2 0 rfl;have d3:wr.cell? ⟨I,j * 5+3,none⟩=_:=a 3 1 rfl;have d4:wr.cell? ⟨I,j * 5+4,none⟩=_:=a 4 0 rfl;have u:=(Keeps.refl (fun _=>False) wr).alloc (.cells #[.int .i64 (-1),.int .i64 1,.int .i64 0,.int .i64 1,.int .i64 0] 183);have q1:((j:Int) != (f:Int))=true:=by rw[bne_iff_ne];omega
    have HF:Hid (dH w.heap.size (wr.alloc (.cells #[.int .i64 (-1),.int .i64 1,.int .i64 0,.int .i64 1,.int .i64 0] 183)) o (dD (kF s r (j+1)))/\(∀k,o.ownBlock=some k->k=g\/A.heap.size<=k)/\Keeps (fun k=>k=g) A (wr.alloc (.cells #[.int .i64 (-1),.int .i64 1,.int .i64 0,.int .i64 1,.int .i64 0] 183))) :=
     dh ⟨by rw[GL (j:=j+1) (by omega),<-GL (j:=j) (by omega)];exact n.keeps u (fun _ _ h=>h),z,t.trans u (fun _ _ h=>h.elim)⟩
    clear n z t u hp a F;go_wp2;go_roundg (N - (j+1))
    case measure=>rw[ae.out];omega
    case rel=>exact⟨j+1,_,by omega,rfl,by go_num,rfl,HF.out⟩
  ·obtain rfl:j=N:=by omega
   have e:kF s r j=lD s r:=GL (by rw[ad.out,ag.out];omega);rw[e]at n;have HF:=dh (dn n (HA.out o wr n z t t.size));clear n z t e;go_wp2;go_ret;exact⟨_,rfl,HF.out⟩
end
end
section
open Go.RowKit
theorem AX(s:List Nat):∀(rs:List Nat) (m r:Nat),rs[m]? = some r->∀j,j<wT s r->DA s rs (ji (rs.map (wK s)) m+j)=(eD (sg s) (vnum (sg s)) r j).1
 | [],m,r,h=>by simp at h
 | a :: rs,0,r,h=>fun j c=>by simp only [List.getElem?_cons_zero,Option.some.injEq]at h;subst h;rw[JH,Nat.zero_add];show (if j<wT s a then _ else _)=_;rw[if_pos c]
 | a :: rs,m+1,r,h=>fun j c=>by rw[List.getElem?_cons_succ]at h;have d:=AX s rs m r h j c;rw[List.map_cons,Oz,Js,Nat.add_assoc];show (if wT s a+(ji (rs.map (wK s)) m+j)<wT s a then _ else DA s rs (wT s a+(ji (rs.map (wK s)) m+j) - wT s a))=_;rw[if_neg (by omega),Nat.add_sub_cancel_left];exact d
structure yS (w:World)(b:Nat)(s:List Nat)(r ln:Nat)(R:Nat->Prop)(D:Nat->Nat)(K rs:List Nat)(g:Nat)(rv:Value)(p:Nat)(wr:World):Prop where
 nm:∃zs,zs.length=s.length/\CJ s.length D K p zs/\dH w.heap.size wr (.slice (some ⟨g,0,none⟩) s.length s.length) zs
 rts:dH w.heap.size wr rv (dD rs)
 map:∃R',MapAt wr b s r ln R'/\(∀x,R' x->R x\/(w.heap.size<=x/\x<wr.heap.size))/\¬R' g/\(∀k,rv.ownBlock=some k->¬R' k)
 fJ:Keeps (fun k=>k=b) w wr
 GN:g≠b
 GR:∀k,rv.ownBlock=some k->k≠g/\k≠b
section
variable {w:World} {b:Nat} {s:List Nat} {r ln:Nat} {R:Nat->Prop} {D:Nat->Nat} {K rs:List Nat} {g:Nat} {rv:Value} {p:Nat} {wr:World} (h:yS w b s r ln R D K rs g rv p wr)
include h
theorem yS.gl:w.heap.size<=g/\g<wr.heap.size:=by obtain⟨zs,_,_,a⟩:=h.nm;exact a.lt g rfl
theorem yS.walked{f:Nat->Prop}{l:World}(o:∀x,f x->R x\/(w.heap.size<=x/\x<wr.heap.size))(i:¬f g)(j:∀k,rv.ownBlock=some k->¬f k)(c:gU wr b s r ln f l):yS w b s r ln R D K rs g rv p l:=by
 have t:=c.2.size;have u:=h.gl;have v:=h.fJ.size;refine⟨?_,h.rts.keeps c.2 (fun q a e=>(h.GR q a).2 e),⟨_,c.1,fun x d=>?_,fun d=>?_,fun k m d=>?_⟩,h.fJ.trans c.2 (fun _ _ h=>h),h.GN,h.GR⟩
 ·obtain⟨zs,y,z,A⟩:=h.nm;exact⟨zs,y,z,A.keeps c.2 (fun q a e=>by simp only [Value.ownBlock,Option.some.injEq]at a;exact h.GN (by omega))⟩
 ·rcases d with e|e
  ·rcases o x e with n | n
   ·exact .inl n
   ·exact .inr (by omega)
  ·exact .inr (by omega)
 ·rcases d with e|e
  ·exact i e
  ·omega
 ·rcases d with e|e
  ·exact j k m e
  ·have:=(h.rts.lt k m).2;omega
theorem yS.cs0:CS w wr s.length D K g p wr:=by obtain⟨zs,a,c,d⟩:=h.nm;exact⟨zs,a,c,d,Keeps.refl _ _⟩
theorem yS.cs{i:Nat}{w':World}(k:CS w wr s.length D K g i w'):yS w b s r ln R D K rs g rv i w':=by
 obtain⟨zs,j,l,m,c⟩:=k;have n:=h.gl;obtain⟨o,t,u,a,f⟩:=h.map;have v:=c.size;refine⟨⟨zs,j,l,m⟩,h.rts.keeps c (fun q y e=>(h.GR q y).1 e),⟨o,t.keeps c (fun e=>h.GN e.symm) (fun x d e=>a (e ▸ d)),fun x d=>?_,a,f⟩,h.fJ.trans c (fun x d e=>by omega),h.GN,h.GR⟩;rcases u x d with e|e
 ·exact .inl e
 ·exact .inr (by omega)
end
def VQ(w:World)(b:Nat)(s:List Nat)(r ln:Nat)(R:Nat->Prop)(e:Ending)(w':World):Prop :=
 ∃B c a d,e=.returned (.tuple #[.pointer (some ⟨c,0,none⟩),.pointer (some ⟨a,0,none⟩),.int .i64 0]) /\
  MapAt w' c (iO ((fP s r).map dN)) 0 ln (fun x=>B<=x/\x<w'.heap.size/\x≠c)/\B<=c /\
  kP w' a d (qK s.length (DA s (lD s r)) (fP s r).flatten)/\w.heap.size<=a/\a<B/\(∀k,d.ownBlock=some k->w.heap.size<=k/\k<B) /\
  (∃f,MapAt w' b s r ln f/\∀x,f x->x<a/\(R x\/w.heap.size<=x))/\Keeps (fun k=>k=b) w w'
theorem VR{w:World}{b:Nat}{s:List Nat}{r ln:Nat}{R:Nat->Prop}(h:MapAt w b s r ln R)(hn:0<s.length)(hg:fV (jN s ln)=0) :
  Calls Tryz.prog 31 #[.pointer (some ⟨b,0,none⟩)] w (VQ w b s r ln R):=by
 have hr:r<s.length:=by rcases h.rt with⟨h0,_⟩|⟨_,h1⟩ <;> omega
 have bZ:=h.le;obtain⟨A,P⟩:=walks_all h.dR h.even hg hr;have aH:=AX s (lD s r);have aw:∀m z,(lD s r)[m]? = some z->z<s.length:=fun m z hm=>(NY h.dR h.even hg hr).lt z (List.mem_of_getElem? hm);have aS:∀m z,(lD s r)[m]? = some z->(fP s r)[m]? = some (wK s z):=fun m z hm=>by unfold fP;rw[List.getElem?_map,hm];rfl
 have ax:ji (fP s r) (lD s r).length=s.length:=by
  have h1:=Ox (fP s r);have h2:(fP s r).length=(lD s r).length:=by simp[fP]
  rw[h2]at h1;rw[h1,A.len]
 have bI:(lD s r).length<=s.length+1:=by have:=OJ s r (dX s.length (sg s) s.length);rwa [GL (Nat.le_refl _)]at this
 have J:(iO ((fP s r).map dN)).length=s.length:=by rw[GD,A.len]
 have Q:dO s.length (sg (iO ((fP s r).map dN))):=by have:=NP A.ok;rwa [J]at this
 have HH:=dh h;have HT:=dh (dn A (dn P (dn J Q)));have S:ji (fP s r)=ji ((lD s r).map (wK s)):=rfl;rw[<-S]at aH;have ay:∀m,ji (fP s r) m<=s.length:=fun m=>by have:=Oy (l:=fP s r) (i:=m);rwa [A.len]at this
 have U:∀m z,(lD s r)[m]? = some z->ji (fP s r) (m+1)=ji (fP s r) m+wT s z:=fun m z hm=>by rw[Ov (aS m z hm),Js]
 have aT:tu s.length (DA s (lD s r)) (fP s r).flatten:=A.totu;generalize aU:(fP s r).flatten=K at *;generalize aV:DA s (lD s r)=D at *;generalize aW:ji (fP s r)=O at *;have aX:O 0=0:=by rw[<-aW];rfl
 have al:=dh (dn aU aV);have HC:=dh (dn aH (dn aw (dn ay (dn U ax))));have a:=dh aT;have ka:=(Keeps.refl (fun _=>False) w).alloc (.cells #[.int .i64 (-1)] 3);have aY:dH w.heap.size (w.alloc (.cells #[.int .i64 (-1)] 3)) (.slice (some ⟨w.heap.size,0,none⟩) 1 1) [-1]:=by refine⟨rfl,.inr ⟨w.heap.size,1,#[.int .i64 (-1)],rfl,Nat.le_refl _,heap_alloc_new w _,Nat.le_refl _,by decide,?_,?_⟩⟩ <;> simp[ints]
 have h1:=h.keeps ka (fun h=>h) (fun _ _ h=>h);have hD:=uS h1;have aZ:=Gp (.slice (some ⟨w.heap.size,0,none⟩) 1 1) (-1) s.length _ aY.sl (by omega);have HA:=dh ka;clear h A aT P aH aw aS ax J Q ay U S hg ka aY h1 aU aV aW;go_enter Tryz.func31,Tryz.ntmps31;go_wp2_with fail;refine hD.mono ?_;rintro e w' ⟨rfl,rfl⟩;clear hD;go_wp2_with fail;refine aZ.mono ?_;rintro e w1 ⟨g,rfl,hM⟩;clear aZ;obtain⟨zs,bJ,rfl,V,a0⟩:=hM;have aI:=HA.out.trans a0 (fun _ _ h=>h);have a1:=HH.out.keeps aI (fun h=>h) (fun _ _ h=>h);have a2:=VP a1 hn;have a3:=V.lt g rfl;have H1:=dh (dn V (dn aI a3));clear bJ V a0 aI a1 a3 HA;go_wp2_with fail;refine a2.mono ?_;rintro e w2 ⟨rv,rfl,E,R2,a4,aJ,az,aK⟩;clear a2;have bK:=H1.out.2.1.size;have aL:g≠b:=by have:=HH.out.lt;have:=H1.out.2.2.1;simp at this;omega
 have a5:w.heap.size<=g:=by have:=H1.out.2.2.1;simp at this;omega
 have am:yS w b s r ln R D K (lD s r) g rv 0 w2:=by
  refine⟨⟨_,by simp,a.out.EG,(H1.out.1.mono (fun k C=>by simp only [Value.ownBlock,Option.some.injEq]at C;omega)).keeps aK (fun q hq e=>by simp only [Value.ownBlock,Option.some.injEq]at hq;omega)⟩,E.mono (fun k C=>by have:=(E.lt k C).1;omega),⟨R2,a4,fun x hx=>?_,fun e=>?_,az⟩,(show Keeps (fun k=>k=b) w w1 from H1.out.2.1.mono (fun _ _ h=>h.elim)).trans aK (fun _ _ h=>h),aL,fun k C=>⟨fun e=>?_,fun e=>?_⟩⟩
  ·rcases aJ x hx with e|e
   ·exact .inl e
   ·exact .inr (by omega)
  ·rcases aJ g e with e|e
   ·have:=HH.out.old g e;omega
   ·have:=H1.out.2.2.2;omega
  ·have:=(E.lt k C).1;have:=H1.out.2.2.2;omega
  ·have:=(E.lt k C).1;have:=HH.out.lt;omega
 obtain⟨ra,rc,rfl,_,_⟩:=E.form;rw[q01]at am ⊢;obtain⟨M,hM⟩:∃M,M=(lD s r).length:=⟨_,rfl⟩
 rw[<-hM]at am HC bI ⊢;have HM:=dh hM;have HX:=dh am;have bL:=dh (dn aL a5);clear E a4 aJ az aK hM am aL a5 bK H1;go_wp2_with fail;go_loopg [6,26] M (fun q c i wr=>∃m H:Nat,m<=M/\q=M - m/\i=.int .i64 m/\c=.int .i64 H/\H=2 * oc K (O m)/\yS w b s r ln R D K (lD s r) g (.slice ra M rc) (O m) wr)
 case atStart=>exact⟨0,0,Nat.zero_le _,by omega,rfl,rfl,by rw[aX];rfl,by rw[aX];exact HX.out⟩
 case round =>
  clear HX;obtain⟨m,c0,hm,X,rfl,rfl,y,hX⟩:=hrel;have bM:=dh X;clear X;by_cases bN:m<M
  ·obtain⟨z,an⟩:∃z,(lD s r)[m]? = some z:=⟨_,List.getElem?_eq_getElem (by rw[<-HM.out];exact bN)⟩
   have Y:=HC.out.2.1 m z an;obtain⟨rg,ro,rfl,bO⟩:=hX.rts.sl.cellAt (jA an);obtain⟨R',hA,hR,ao,ap⟩:=hX.map;have a6:=walkOf_any hA Y;have hw:=fun w3 (hq:gU wr b s r ln R' w3)=>hX.walked hR ao ap hq;have aA:=hX.gl.2;have HW:=dh (dn hw (dn an aA));have a7:=dh y;clear hX hA hR ao ap hw an y aA;go_wp2_with fail;refine a6.mono ?_;rintro e w3 ⟨T,ov,rfl,hE,hT,Z,hq⟩;have aa:=HW.out.1 w3 hq;have aM:wT s z=T:=hE.xX;have a8:∀j,j<T->D (O m+j)=(eD (sg s) (vnum (sg s)) z j).1:=fun j hj=>HC.out.1 m z HW.out.2.1 j (by rw[aM];exact hj);have aN:O (m+1)=O m+T:=by rw[<-aM];exact HC.out.2.2.2.1 m z HW.out.2.1
   have a9:=HC.out.2.2.1 (m+1);have ba:∀j,j<T->∃kd,(eD (sg s) (vnum (sg s)) z T).2[j]? = some (D (O m+j),kd):=fun j hj=>⟨_,by rw[a8 j hj];exact Az _ _ _ hj⟩
   have bc:(eD (sg s) (vnum (sg s)) z T).2.length=T:=sF _ _ _ _;have ab:∀k,ov.ownBlock=some k->k≠g:=fun k C=>by have:=(Z.lt k C).1;have:=HW.out.2.2;omega
   have HE:=dh (show ∀aO,CS w w3 s.length D K g (O (m+1)) aO->yS w b s r ln R D K (lD s r) g (.slice (some ⟨rg,ro,none⟩) M rc) (O (m+1)) aO from fun aO u=>aa.cs u);have bd:∀W,Keeps (fun k=>k=g) w3 W->∀d,d<s.length->Calls Tryz.prog 77 #[.pointer (some ⟨b,0,none⟩),.int .i64 d] W fun e w'=>e=.returned (.int .i64 (mt d:Nat))/\W=w':=fun W C d hd=>by obtain⟨R3,bP,b0,aq,_⟩:=aa.map;exact sZ (bP.keeps C (fun e=>bL.out.1 e.symm) (fun x hx e=>aq (e ▸ hx))) d hd
   have bQ:=dh bd;have ad:=aa.cs0;have aq:=aa.gl;have bY:=hq.2.size;obtain⟨oa,bR,be⟩:=Z.form;subst be;rw[bc]at Z ab ⊢;generalize bf:(eD (sg s) (vnum (sg s)) z T).2=out at *;have HO:Hid (∀W,Keeps (fun k=>k=g) w3 W->Own2 wr.heap.size W (.slice oa T bR) out):=dh (fun W C=>Z.keeps C (fun k C e=>ab k C e));have bg:=dh ba;obtain⟨f,hf⟩:∃f,f=O m:=⟨_,rfl⟩
   rw[<-hf]at ad aN bg a7;have bh:=dh aN;have b1:f+T<=s.length:=by omega
   have bS:=dh aq;clear a6 hE hT Z ab hq aa aM a8 aN a9 ba bc bd hf bf aq;generalize bi:s.length=n at *;have HN:=dh bi;clear bi;go_wp2_with fail;go_loopg [6,38] T (fun q c i wr=>∃j H:Nat,j<=T/\q=T - j/\i=.int .i64 j/\c=.int .i64 H/\H=2 * oc K (f+j)/\CS w w3 n D K g (f+j) wr)
   case atStart=>exact⟨0,c0,Nat.zero_le _,by omega,rfl,rfl,by rw[Nat.add_zero];exact a7.out,by rw[Nat.add_zero];exact ad⟩
   case round =>
    clear ad;obtain⟨j,H,b3,X,rfl,rfl,y,u⟩:=hrel;have HG:=dh X;clear X;have b4:H<=2 * n:=by have h1:=FY K (show f+j<=n by omega);have h2:=a.out.wd.even;rw[a.out.len]at h2;omega
    by_cases bj:j<T
    ·have ae:Keeps (fun k=>k=g) w3 wr:=by obtain⟨_,_,_,_,C⟩:=id u;exact C
     obtain⟨kd,aP⟩:=bg.out j bj;obtain⟨gv,cap,hv,aB,bk⟩:=(HO.out wr ae).cell aP;simp only [Value.slice.injEq]at hv;obtain⟨rfl,-,rfl⟩:=hv;simp only at aB bk;obtain⟨p,hp⟩:∃p,p=f+j:=⟨_,rfl⟩
     rw[<-hp]at aB u y;have o:p<n:=by omega
     have ar:=(Keeps.refl (fun _=>False) wr).alloc (.cells #[.int .i64 (D p),.int .i64 kd] 136);have F:=u.still ar;have bT:=a.out.dP.lt p o;have b5:mt (D p)<n:=by rw[<-a.out.oh p o];exact a.out.dP.lt _ (by have:=a.out.wd.gP (i:=p) (by rw[a.out.len];exact o);rw[a.out.len]at this;exact this)
     have aQ:=fun W C=>bQ.out W C (D p) bT;rcases a.out.nJ o with⟨_,L⟩|⟨_,L⟩
     ·have af:mp K p<n:=by have:=a.out.wd.gP (i:=p) (by rw[a.out.len];exact o);rw[a.out.len]at this;exact this
      obtain⟨au,bU⟩:=F.cell o;rw[if_neg (by omega)]at au;obtain⟨bl,bm⟩:=F.cell af;rw[a.out.oh p o]at bl bm;have bV:D p≠mt (D p):=fun e=>sM _ e.symm;obtain⟨bn,ag⟩:=a.out.wB o L;have bo:=(Keeps.refl (fun _=>False) (wr.alloc (.cells #[.int .i64 (D p),.int .i64 kd] 136))).drew;have ah:=u.step a.out o L;have ai:=ah.still (((Keeps.refl (fun _=>False) _).alloc (.cells #[.int .i64 (D p),.int .i64 kd] 136)).drew);have aC:=aQ (wr.alloc (.cells #[.int .i64 (D p),.int .i64 kd] 136)).drew (ae.trans (ar.trans bo (fun _ _ h=>h)) (fun _ _ h=>h.elim));have b6:g<wr.heap.size:=by have:=bS.out.2;have:=ae.size;omega
      rw[bn,<-y]at ai;have HF:=dh (dn ag ai);have B:=dh (dn y hp);have bq:H<=300000:=by omega
      have aD:=((Keeps.refl (fun _=>False) (wr.setCell ⟨g,D p,none⟩ (.int .i64 (H:Int)))).alloc (.cells #[.int .i64 (D p),.int .i64 kd] 136)).drew;obtain⟨br,bs⟩:=u.other af (d:=D p) (by rw[a.out.oh p o];exact bV) H aD;obtain⟨bt,bu⟩:=u.cell af;obtain⟨bv,bW⟩:=u.cell o;rw[if_neg (by omega)]at bv;rw[a.out.oh p o]at br bs bt bu;clear u F ag aP ar ae y aQ bn bo ai ah aD hp;generalize (if mp K p<p\/mp K (mp K p)<p then (fA K (mp K p):Int)else -1)=z6 at *;generalize mt (D p)=mj at *;generalize D p=dj at *;have bw:=heap_alloc_new wr (.cells #[.int .i64 (dj:Int),.int .i64 kd] 136);have bx:(wr.alloc (.cells #[.int .i64 (dj:Int),.int .i64 kd] 136)).drew.cell? ⟨wr.heap.size,0,none⟩=some (.int .i64 dj):=dw bw 0;have bz:∀W0:World,W0.heap.size=wr.heap.size->(W0.alloc (.cells #[.int .i64 (dj:Int),.int .i64 kd] 136)).drew.cell? ⟨wr.heap.size,0,none⟩=some (.int .i64 dj):=by intro W0 bX;have h5:=heap_alloc_new W0 (.cells #[.int .i64 (dj:Int),.int .i64 kd] 136);rw[bX]at h5;exact dw h5 0
      have bA:IntKind.i64.wrap ((H:Int)+1)=(H:Int)+1:=IntWalk.i64_in _ (by omega);go_wp2_with fail;go_region_held3 (fun w'=>w'.cell? ⟨wr.heap.size,0,none⟩=some (.int .i64 dj)) (first|exact bx|exact bz _ (by simp)) (first | (go_at_call 77;refine aC.mono ?_;rintro e w' ⟨rfl,rfl⟩));clear au bl bU bm br bs bt bu bv bW aC bw bx bz bA;go_wp2;go_roundg (T - (j+1))
      case measure=>rw[HG.out];omega
      case rel=>exact⟨j+1,H+2,by omega,rfl,by go_num,by go_num,by rw[<-Nat.add_assoc,<-B.out.2,HF.out.1,B.out.1];omega,by rw[<-Nat.add_assoc,<-B.out.2];exact HF.out.2⟩
     ·have au:=(F.cell o).1;rw[if_pos (.inr L)]at au;have b7:decide (((fA K p:Nat):Int)<0)=false:=decide_eq_false (by omega);have ag:=a.out.xS o L;have HF:=dh (dn ag (F.keep a.out o L));have B:=dh (dn y hp);have aR:=u;clear u F ag aQ aP ar ae y aR hp;generalize fA K p=nm at *;generalize D p=dj at *;go_wp2;go_roundg (T - (j+1))
      case measure=>rw[HG.out];omega
      case rel=>exact⟨j+1,H,by omega,rfl,by go_num,rfl,by rw[<-Nat.add_assoc,<-B.out.2,HF.out.1,B.out.1],by rw[<-Nat.add_assoc,<-B.out.2];exact HF.out.2⟩
    ·obtain rfl:j=T:=by omega
     have aE:=dh (dn y (HE.out wr (by rw[bh.out];exact u)));clear u y;go_wp2;go_roundg (M - (m+1))
     case measure=>rw[bM.out];omega
     case rel=>exact⟨m+1,H,by omega,rfl,by go_num,rfl,by rw[bh.out];exact aE.out.1,aE.out.2⟩
  ·obtain rfl:m=M:=by omega
   have bB:=HC.out.2.2.2.2;obtain⟨zs,z1,z2,z3⟩:=hX.nm;rw[bB]at z2 y;have:=a.out.EI z1 z2;subst this;have bC:=Ew (.slice (some ⟨g,0,none⟩) s.length s.length) (qK s.length D K) wr z3.sl (by rw[Dr];exact a.out.uy) (by rw[Dr];omega);have bq:c0=s.length:=by have h2:=a.out.wd;have h3:=NI h2;rw[a.out.len]at h3;omega
   have b8:((c0:Int) == 0)=false:=by rw[beq_eq_false_iff_ne];omega
   have HX:=dh hX;clear hX z1 z2 z3 y bq bB;go_wp2_with fail;refine bC.mono ?_;clear bC;rintro e w6 ⟨bp,pv,rfl,G,av,aj,I⟩;obtain⟨R',hA,hR,ao,ap⟩:=HX.out.map;have N:=hA.keeps I (fun h=>h) (fun _ _ h=>h);obtain⟨A,P,J,Q⟩:=HT.out;have b9:=HX.out.fJ.size;have bD:∀d,d<s.length->sg (iO ((fP s r).map dN)) (sg (qK s.length D K) d)=sg (qK s.length D K) (sg s d):=fun d hd=>by have:=A.uW hd;rwa [al.out.1]at this
   have Y:=UG (t:=iO ((fP s r).map dN)) N G.1 hn (Dr _ _ _) a.out.uy (fun d hd=>a.out.uV hd) J bD Q;have bE:sg (qK s.length D K) r=0:=by have:=A.uX hn;rwa [al.out.1,P]at this
   rw[bE]at Y;have bF:=dh (show ∀x,R' x->x<wr.heap.size from hA.old);have HS:=dh (dn G (dn av (dn aj (dn I (dn N hR)))));clear G av aj I hA hR ao ap N A P J Q bD bE;go_wp2_with fail;refine Y.mono ?_;rintro e w7 ⟨b2,rfl,bG,bH,ak⟩;obtain⟨G,av,aj,I,N,hR⟩:=HS.out;have s1:=I.size;have s2:=ak.size;have aF:=G.1.lt;have aG:=bF.out
   have HZ:Hid (MapAt w7 b2 (iO ((fP s r).map dN)) 0 ln (fun x=>w6.heap.size<=x/\x<w7.heap.size/\x≠b2)/\w6.heap.size<=b2 /\
     kP w7 bp pv (qK s.length (DA s (lD s r)) (fP s r).flatten)/\w.heap.size<=bp/\bp<w6.heap.size/\(∀k,pv.ownBlock=some k->w.heap.size<=k/\k<w6.heap.size) /\
     (∃R',MapAt w7 b s r ln R'/\∀x,R' x->x<bp/\(R x\/w.heap.size<=x))/\Keeps (fun k=>k=b) w w7) :=
    dh ⟨bG,bH,by rw[al.out.1,al.out.2];exact G.keeps ak (fun h=>h) (fun _ _ h=>h),by omega,aF,fun k C=>⟨by have:=aj k C;omega,(G.1.2.2 k C).2⟩,⟨R',N.keeps ak (fun h=>h) (fun _ _ h=>h),fun x hx=>⟨by have:=aG x hx;omega,(hR x hx).imp id (fun h=>h.1)⟩⟩,(HX.out.fJ.trans I (fun _ _ h=>h.elim)).trans ak (fun _ _ h=>h.elim)⟩
   clear Y bG bH ak G av aj I N hR s1 s2 aF aG;go_wp2;refine bodyPost_ret (v:=.tuple #[.pointer (some ⟨b2,0,none⟩),.pointer (some ⟨bp,0,none⟩),.int .i64 0]) (by simp[results,Tryz.results31,go_sem]) rfl ?_;exact⟨w6.heap.size,b2,bp,pv,rfl,HZ.out⟩
end
