import Derived.Test.YtcfdpogegngplaaGreatZg0c
set_option maxRecDepth 100000
set_option maxHeartbeats 4000000
namespace Go.Proofs.YtcfdpogegngplaaGreat
section
open Go.RowKit
theorem qlr:(Tryz.prog.info? 25).map (fun i=>(i.zero,i.size,i.bytes))=some (some (.slice none 0 0),1,24):=by kernel_rfl
def SS(B:Nat)(lab:Nat→Nat)(c:Nat)(w:World)(av:Value)(ls:List (List Nat)):Prop :=
 ∃ vs,vs.length=ls.length∧w.ownsRow B 25 1 av vs.length vs∧(∀ q,av.ownBlock=some q→lab q=c) ∧
  ∀ i l,ls[i]? = some l→∃ v,vs[i]? = some v∧aF B w v (aB l)∧∀ q,v.ownBlock=some q→lab q=c+1+i
theorem SS.keeps{B:Nat}{lab:Nat→Nat}{c:Nat}{w w1:World}{av:Value}{ls:List (List Nat)}{F:Nat→Prop}(h:SS B lab c w av ls)(hk:Keeps F w w1)(hF:∀ q,F q→q<w.heap.size→lab q<c):SS B lab c w1 av ls:=by
 obtain⟨vs,h1,h2,h3,h4⟩:=h
 refine⟨vs,h1,hk.owns h2 (fun q hq e=>?_),h3,fun i l hl=>?_⟩
 ·have:=h3 q hq;have:=hF q e (World.ownsRow.lt h2 q hq).2;omega
 ·obtain⟨v,g1,g2,g3⟩:=h4 i l hl
  exact⟨v,g1,g2.keeps hk (fun q hq e=>by have:=g3 q hq;have:=hF q e (g2.lt q hq).2;omega),g3⟩
theorem SS.gJ{B:Nat}{lab lab':Nat→Nat}{c:Nat}{w:World}{av:Value}{ls:List (List Nat)}(h:SS B lab c w av ls)(hl:∀ q,q<w.heap.size→lab' q=lab q):SS B lab' c w av ls:=by
 obtain⟨vs,h1,h2,h3,h4⟩:=h
 refine⟨vs,h1,h2,fun q hq=>by rw[hl q (World.ownsRow.lt h2 q hq).2];exact h3 q hq,fun i l hi=>?_⟩
 obtain⟨v,g1,g2,g3⟩:=h4 i l hi
 exact⟨v,g1,g2,fun q hq=>by rw[hl q (g2.lt q hq).2];exact g3 q hq⟩
theorem SS.row{B:Nat}{lab:Nat→Nat}{c:Nat}{w:World}{av:Value}{ls:List (List Nat)}(h:SS B lab c w av ls){i:Nat}{l:List Nat}(hl:ls[i]? = some l) :
  ∃ g cap v,av=.slice (some ⟨g,0,none⟩) ls.length cap∧w.cell? ⟨g,i,none⟩=some v∧w.frozen? ⟨g,i,none⟩=false∧aF B w v (aB l)∧(∀ q,v.ownBlock=some q→lab q=c+1+i)∧lab g=c∧B≤g∧g<w.heap.size:=by
 obtain⟨vs,h1,h2,h3,h4⟩:=h
 obtain⟨v,g1,g2,g3⟩:=h4 i l hl
 obtain⟨g,cap,jS,_,_,hc,ho,hg⟩:=o7 h2 (by have:=fK g1;omega)
 obtain⟨c1,c2⟩:=hc i v g1
 exact⟨g,cap,v,by rw[jS,h1],c1,c2,g2,g3,h3 g ho,(World.ownsRow.lt h2 g ho).1,hg⟩
theorem SS.form{B:Nat}{lab:Nat→Nat}{c:Nat}{w:World}{av:Value}{ls:List (List Nat)}(h:SS B lab c w av ls)(hn:0<ls.length):∃ g cap,av=.slice (some ⟨g,0,none⟩) ls.length cap∧ls.length≤cap∧cap≤9223372036854775807:=by
 obtain⟨vs,h1,h2,_,_⟩:=h
 obtain⟨g,cap,jS,h3,h4,_⟩:=o7 h2 (by omega)
 exact⟨g,cap,by rw[jS,h1],by omega,by unfold maxLen at h4;omega⟩
def ni(lab:Nat→Nat)(n c:Nat)(x:Nat):Nat:=if x<n then lab x else c
theorem CQ{lab:Nat→Nat}{n c x:Nat}(h:x<n):ni lab n c x=lab x:=if_pos h
theorem SS.grow{B:Nat}{lab:Nat→Nat}{c:Nat}{w w1:World}{av v v':Value}{ls:List (List Nat)}{i g cap:Nat}{l:List Nat}(h:SS B lab c w av ls)(hl:ls[i]? = some l)(jS:av=.slice (some ⟨g,0,none⟩) ls.length cap)(hcell:w.cell? ⟨g,i,none⟩=some v)
  (l':List Nat)(hown:aF B w1 v' (aB l'))(hk:Keeps (fun q=>v.ownBlock=some q) w w1)(hat:∀ q,v'.ownBlock=some q→v.ownBlock=some q∨w.heap.size≤q) :
  SS B (ni lab w.heap.size (c+1+i)) c (w1.setCell ⟨g,i,none⟩ v') av (ls.set i l')∧w1.cell? ⟨g,i,none⟩=some v∧w1.frozen? ⟨g,i,none⟩=false:=by
 obtain⟨vs,h1,h2,h3,h4⟩:=h
 obtain⟨u,g1,g2,g3⟩:=h4 i l hl
 have hgb:(Value.slice (some ⟨g,0,none⟩) ls.length cap).ownBlock=some g:=rfl
 have GV:=h3 g (by rw[jS];rfl)
 have hgw:=World.ownsRow.lt h2 g (by rw[jS];rfl)
 obtain⟨g',cap',GX,_,_,hc,_,_⟩:=o7 h2 (by have:=fK g1;omega)
 rw[jS] at GX
 simp only [Value.slice.injEq,Option.some.injEq,Addr.mk.injEq,and_true] at GX
 obtain⟨rfl,-,rfl⟩:=GX
 obtain⟨c1,c2⟩:=hc i u g1
 rw[hcell] at c1
 simp only [Option.some.injEq] at c1
 subst c1
 have hng:¬ v.ownBlock=some g:=fun e=>by have:=g3 g e;omega
 have h2':=hk.owns h2 (fun q hq e=>by rw[jS] at hq;simp only [Value.ownBlock,Option.some.injEq] at hq;subst hq;exact hng e)
 rw[jS,← h1] at h2'
 have hset:=Ql h2' i v'
 have hold:=fun q (hq:q<w.heap.size)=>CQ (lab:=lab) (n:=w.heap.size) (c:=c+1+i) hq
 obtain⟨_,_,_,_,_,hc',_,_⟩:=o7 h2' (by have:=fK g1;omega)
 have hcw:w1.cell? ⟨g,i,none⟩=some v∧w1.frozen? ⟨g,i,none⟩=false:=by
  obtain⟨g',cap',hq,_,_,hc',_,_⟩:=o7 h2' (by have:=fK g1;omega)
  simp only [Value.slice.injEq,Option.some.injEq,Addr.mk.injEq,and_true] at hq
  obtain⟨rfl,-,rfl⟩:=hq
  exact hc' i v g1
 refine⟨⟨vs.set i v',by simp[h1],?_,fun q hq=>?_,fun j m hm=>?_⟩,hcw⟩
 ·rw[List.length_set,jS,← h1];exact hset
 ·rw[jS] at hq
  simp only [Value.ownBlock,Option.some.injEq] at hq
  subst hq
  rw[hold g hgw.2];exact GV
 ·rw[List.getElem?_set] at hm
  have Ep:∀ {x:Value} {zs:List Int},aF B w1 x zs→x.ownBlock≠some g→aF B (w1.setCell ⟨g,i,none⟩ v') x zs:=fun hx hn=>hx.other ⟨g,i,none⟩ hn v'
  by_cases hij:i=j
  ·subst hij
   have hil:=fK hl
   rw[if_pos rfl,if_pos hil] at hm
   simp only [Option.some.injEq] at hm
   subst hm
   refine⟨v',by rw[List.getElem?_set,if_pos rfl,if_pos (by omega)],Ep hown (fun e=>?_),fun q hq=>?_⟩
   ·rcases hat g e with h5|h5
    ·exact hng h5
    ·omega
   ·rcases hat q hq with h5|h5
    ·rw[hold q (g2.lt q h5).2];exact g3 q h5
    ·unfold ni;rw[if_neg (by omega)]
  ·rw[if_neg hij] at hm
   obtain⟨u,m1,m2,m3⟩:=h4 j m hm
   refine⟨u,by rw[List.getElem?_set,if_neg hij];exact m1,Ep (m2.keeps hk (fun q hq e=>?_)) (fun e=>?_),fun q hq=>?_⟩
   ·have:=m3 q hq;have:=g3 q e;omega
   ·have:=m3 g e;omega
   ·rw[hold q (m2.lt q hq).2];exact m3 q hq
theorem SS.push{B:Nat}{lab:Nat→Nat}{c:Nat}{w w1:World}{av:Value}{ls:List (List Nat)}{o:Obj}{g cap:Nat}(h:SS B lab c w av ls)
  (hown:∀ vs,vs.length=ls.length→w.ownsRow B 25 1 av vs.length vs→w1.ownsRow B 25 1 (.slice (some ⟨g,0,none⟩) (ls.length+1) cap) (ls.length+1) (vs ++ [.slice none 0 0]))(hgrow:(w.alloc o).grownBy w1 av.ownBlock)(hat:av.ownBlock=some g∨w.heap.size≤g) :
  SS B (ni lab w.heap.size c) c w1 (.slice (some ⟨g,0,none⟩) (ls.length+1) cap) (ls ++ [[]]):=by
 obtain⟨vs,h1,h2,h3,h4⟩:=h
 have hk:Keeps (fun q=>av.ownBlock=some q) w w1:=((Keeps.refl _ w).alloc _).grown hgrow (fun k hk=>.inl hk)
 have hold:=fun q (hq:q<w.heap.size)=>CQ (lab:=lab) (n:=w.heap.size) (c:=c) hq
 refine⟨vs ++ [.slice none 0 0],by simp[h1],?_,fun q hq=>?_,fun i l hl=>?_⟩
 ·rw[List.length_append,h1];exact hown vs h1 h2
 ·simp only [Value.ownBlock,Option.some.injEq] at hq
  subst hq
  rcases hat with h5|h5
  ·rw[hold g (World.ownsRow.lt h2 g h5).2];exact h3 g h5
  ·unfold ni;rw[if_neg (by omega)]
 ·rcases Cj hl with hl|⟨rfl,rfl⟩
  ·obtain⟨v,g1,g2,g3⟩:=h4 i l hl
   refine⟨v,by rw[List.getElem?_append_left (fK g1)];exact g1,g2.keeps hk (fun q hq e=>?_),fun q hq=>by rw[hold q (g2.lt q hq).2];exact g3 q hq⟩
   have:=h3 q e;have:=g3 q hq;omega
  ·exact⟨.slice none 0 0,by rw[← h1];simp,aF.nil _ _,fun q hq=>by simp[Value.ownBlock] at hq⟩
end
section
open Go.RowKit
structure kU (w:World)(br gN:Nat)(ks st:List Nat)(ls:List (List Nat))(sv av:Value)(lab:Nat→Nat)(wr:World):Prop where
 res:wr.heap[br]? = some (.cells #[.slice none 0 0,.int .i64 0,.int .i64 0] 27 (0,0))∧lab br=1
 JJ:aO w gN ks.length (fun zs=>zs=aB ((List.range ks.length).map (bG ks))) wr∧lab gN=2
 stk:aF w.heap.size wr sv (aB st)∧∀ q,sv.ownBlock=some q→lab q=3
 out:SS w.heap.size lab 4 wr av ls
 dR:Keeps (fun _=>False) w wr
section
variable {w wr w1:World} {br gN:Nat} {ks st:List Nat} {ls:List (List Nat)} {sv av:Value} {lab:Nat→Nat} (h:kU w br gN ks st ls sv av lab wr)
include h
theorem kU.rest{F:Nat→Prop}(hk:Keeps F wr w1)(hF:∀ q,F q→q<wr.heap.size→3≤lab q)(hw:∀ q,F q→w.heap.size≤q)(c:Nat) :
  (w1.heap[br]? = some (.cells #[.slice none 0 0,.int .i64 0,.int .i64 0] 27 (0,0))∧ni lab wr.heap.size c br=1) ∧
  (aO w gN ks.length (fun zs=>zs=aB ((List.range ks.length).map (bG ks))) w1∧ni lab wr.heap.size c gN=2)∧Keeps (fun _=>False) w w1:=by
 have hb:=lt_of_block h.res.1
 have hg:=h.JJ.1.old.2
 refine⟨⟨hk.at h.res.1 (fun e=>by have:=hF br e hb;have:=h.res.2;omega),by rw[CQ hb];exact h.res.2⟩,⟨h.JJ.1.uD hk (fun e=>by have:=hF gN e hg;have:=h.JJ.2;omega) hw,by rw[CQ hg];exact h.JJ.2⟩,h.dR.trans hk (fun q hq e=>by have:=hw q e;omega)⟩
theorem kU.grow{v v':Value}{i g cap:Nat}{l l':List Nat}(hl:ls[i]? = some l)(jS:av=.slice (some ⟨g,0,none⟩) ls.length cap)(hcell:wr.cell? ⟨g,i,none⟩=some v)
  (hown:aF w.heap.size w1 v' (aB l'))(hk:Keeps (fun q=>v.ownBlock=some q) wr w1)(hat:∀ q,v'.ownBlock=some q→v.ownBlock=some q∨wr.heap.size≤q) :
  kU w br gN ks st (ls.set i l') sv av (ni lab wr.heap.size (4+1+i)) (w1.setCell ⟨g,i,none⟩ v')∧w1.cell? ⟨g,i,none⟩=some v∧w1.frozen? ⟨g,i,none⟩=false:=by
 obtain⟨s1,s2,s3⟩:=h.out.grow hl jS hcell l' hown hk hat
 obtain⟨g',cap',u,hq,hc2,_,ho,hlab,hg4,hgB,hgw⟩:=h.out.row hl
 rw[jS] at hq
 simp only [Value.slice.injEq,Option.some.injEq,Addr.mk.injEq,and_true] at hq
 obtain⟨rfl,-,rfl⟩:=hq
 rw[hcell] at hc2
 simp only [Option.some.injEq] at hc2
 subst hc2
 have hk2:Keeps (fun q=>v.ownBlock=some q∨q=g) wr (w1.setCell ⟨g,i,none⟩ v'):=(hk.mono (fun q _ e=>.inl e)).setCell (p:=⟨g,i,none⟩) (.inl (.inr rfl)) v'
 obtain⟨r1,r2,r3⟩:=h.rest hk2 (fun q e hq=>by
  rcases e with e|rfl
  ·have:=hlab q e;omega
  ·omega) (fun q e=>by
  rcases e with e|rfl
  ·exact (ho.lt q e).1
  ·exact hgB) (4+1+i)
 refine⟨⟨r1,r2,⟨h.stk.1.keeps hk2 (fun q hq e=>?_),fun q hq=>?_⟩,s1,r3⟩,s2,s3⟩
 ·have:=h.stk.2 q hq
  rcases e with e|rfl
  ·have:=hlab q e;omega
  ·omega
 ·rw[CQ (h.stk.1.lt q hq).2];exact h.stk.2 q hq
theorem kU.deeper{jI:Value}{st':List Nat}(hown:aF w.heap.size w1 jI (aB st'))(hk:Keeps (fun q=>sv.ownBlock=some q) wr w1)(hat:∀ q,jI.ownBlock=some q→sv.ownBlock=some q∨wr.heap.size≤q) :
  kU w br gN ks st' ls jI av (ni lab wr.heap.size 3) w1:=by
 obtain⟨r1,r2,r3⟩:=h.rest hk (fun q e hq=>by have:=h.stk.2 q e;omega) (fun q e=>(h.stk.1.lt q e).1) 3
 have ho:=(SS.gJ (lab':=ni lab wr.heap.size 3) h.out (fun q hq=>CQ hq)).keeps hk (fun q e hq=>by rw[CQ hq];have:=h.stk.2 q e;omega)
 refine⟨r1,r2,⟨hown,fun q hq=>?_⟩,ho,r3⟩
 rcases hat q hq with e|e
 ·rw[CQ (h.stk.1.lt q e).2];exact h.stk.2 q e
 ·unfold ni;rw[if_neg (by omega)]
theorem kU.higher{jI:Value}{st':List Nat}(hown:aF w.heap.size wr jI (aB st'))(hat:jI.ownBlock=sv.ownBlock):kU w br gN ks st' ls jI av lab wr :=
 ⟨h.res,h.JJ,⟨hown,fun q hq=>h.stk.2 q (by rw[← hat];exact hq)⟩,h.out,h.dR⟩
theorem kU.push{o:Obj}{g cap:Nat}(hown:∀ vs,vs.length=ls.length→wr.ownsRow w.heap.size 25 1 av vs.length vs→w1.ownsRow w.heap.size 25 1 (.slice (some ⟨g,0,none⟩) (ls.length+1) cap) (ls.length+1) (vs ++ [.slice none 0 0]))(hgrow:(wr.alloc o).grownBy w1 av.ownBlock)(hat:av.ownBlock=some g∨wr.heap.size≤g) :
  kU w br gN ks st (ls ++ [[]]) sv (.slice (some ⟨g,0,none⟩) (ls.length+1) cap) (ni lab wr.heap.size 4) w1:=by
 have ho:=h.out.push hown hgrow hat
 have hout:=h.out
 obtain⟨vs,h1,h2,h3,h4⟩:=hout
 have hk:Keeps (fun q=>av.ownBlock=some q) wr w1:=((Keeps.refl _ wr).alloc _).grown hgrow (fun k hk=>.inl hk)
 obtain⟨r1,r2,r3⟩:=h.rest hk (fun q e hq=>by have:=h3 q e;omega) (fun q e=>(World.ownsRow.lt h2 q e).1) 4
 refine⟨r1,r2,⟨h.stk.1.keeps hk (fun q hq e=>?_),fun q hq=>by rw[CQ (h.stk.1.lt q hq).2];exact h.stk.2 q hq⟩,ho,r3⟩
 have:=h.stk.2 q hq;have:=h3 q e;omega
end
theorem aO.base{w w0 wr:World}{g n:Nat}{P:List Int→Prop}(h:aO w0 g n P wr)(hk:Keeps (fun _=>False) w w0):aO w g n P wr:=by
 have:=hk.size
 obtain⟨zs,h1,h2,h3,h4⟩:=h
 exact⟨zs,h1,h2,h3.mono (fun k hk=>by have:=(h3.lt k hk).1;omega),hk.trans h4 (fun _ _ h=>h)⟩
theorem qj3{w w0 w1:World}{br gN:Nat}{ks:List Nat}(hbr:br=w.heap.size)(hk0:Keeps (fun _=>False) w w0)(hbw:br<w0.heap.size)(hb0:w0.heap[br]? = some (.cells #[.slice none 0 0,.int .i64 0,.int .i64 0] 27 (0,0)))(hM:aO w0 gN ks.length (fun zs=>zs=aB ((List.range ks.length).map (bG ks))) w1) :
  ∃ lab,kU w br gN ks (0 :: (stk ks 0).map (vo ks)) (vE ks 0) (.slice (some ⟨w1.heap.size+1,0,none⟩) 1 1) (.slice (some ⟨w1.heap.size,0,none⟩) 1 1) lab ((w1.alloc (.cells #[.slice none 0 0] 25)).alloc (.cells #[.int .i64 0] 3)):=by
 have ho:=hM.old
 have hk1:Keeps (fun _=>False) w0 w1:=by obtain⟨_,_,_,_,h⟩:=hM;exact h
 have hk2:Keeps (fun _=>False) w1 ((w1.alloc (.cells #[.slice none 0 0] 25)).alloc (.cells #[.int .i64 0] 3)):=((Keeps.refl _ w1).alloc _).alloc _
 have hsz:=hk0.size
 have hsz1:=hk1.size
 refine⟨fun x=>if x=br then 1 else if x=gN then 2 else if x=w1.heap.size+1 then 3 else 4,⟨hk2.at (hk1.at hb0 (fun h=>h)) (fun h=>h),if_pos rfl⟩,⟨(hM.base hk0).keeps hk2,?_⟩,⟨?_,?_⟩,⟨[.slice none 0 0],rfl,?_,?_,?_⟩,(hk0.trans hk1 (fun _ _ h=>h)).trans hk2 (fun _ _ h=>h)⟩
 ·show (if gN=br then 1 else if gN=gN then 2 else if gN=w1.heap.size+1 then 3 else 4)=2
  rw[if_neg (by omega),if_pos rfl]
 ·have h1:=GY (w1.alloc (.cells #[.slice none 0 0] 25)) 0
  have h2:(w1.alloc (.cells #[.slice none 0 0] 25)).heap.size=w1.heap.size+1:=by simp
  rw[h2] at h1
  exact h1.mono (fun q hq=>by simp only [Value.ownBlock,Option.some.injEq] at hq;omega)
 ·intro q hq
  simp only [Value.ownBlock,Option.some.injEq] at hq
  show (if q=br then 1 else if q=gN then 2 else if q=w1.heap.size+1 then 3 else 4)=3
  rw[if_neg (by omega),if_neg (by omega),if_pos hq.symm]
 ·have h1:=World.ownsRow_lit (base:=w.heap.size) (e:=25) (size:=1) w1 #[.slice none 0 0] 1 (by omega) (by unfold maxLen;omega) rfl
  exact World.ownsRow.alloc h1 _
 ·intro q hq
  simp only [Value.ownBlock,Option.some.injEq] at hq
  show (if q=br then 1 else if q=gN then 2 else if q=w1.heap.size+1 then 3 else 4)=4
  rw[if_neg (by omega),if_neg (by omega),if_neg (by omega)]
 ·intro i l hl
  have:i=0∧l=[]:=by
   have h3:vE ks 0=[[]]:=rfl
   rw[h3] at hl
   cases i with
   | zero=>simp at hl;exact⟨rfl,hl⟩
   | succ i=>simp at hl
  obtain⟨rfl,rfl⟩:=this
  exact⟨_,rfl,aF.nil _ _,fun q hq=>by simp[Value.ownBlock] at hq⟩
theorem qls(ks:List Nat)(m:Nat):(aB ks).take m=aB (ks.take m):=by simp[aB]
theorem qes{w:World}{base:Nat}{e:TypeId}{v:Value}{n:Nat}{xs ys:List Value}(h:w.ownsRow base e 1 v n xs)(k:w.ownsRow base e 1 v n ys):xs=ys:=by
 have l1:=h.1
 have l2:=k.1
 apply List.ext_getElem?
 intro j
 rcases Nat.lt_or_ge j n with hj|hj
 ·obtain⟨g,cap,hv,_,_,hc,_⟩:=o7 h (by omega)
  obtain⟨g',cap',hv',_,_,hc',_⟩:=o7 k (by omega)
  rw[hv] at hv'
  simp only [Value.slice.injEq,Option.some.injEq,Addr.mk.injEq,and_true] at hv'
  obtain⟨rfl,-,rfl⟩:=hv'
  have h1:=List.getElem?_eq_getElem (l:=xs) (i:=j) (by omega)
  have h2:=List.getElem?_eq_getElem (l:=ys) (i:=j) (by omega)
  have c1:=(hc j _ h1).1
  have c2:=(hc' j _ h2).1
  rw[c1] at c2
  rw[h1,h2];exact c2
 ·rw[List.getElem?_eq_none (by omega),List.getElem?_eq_none (by omega)]
def cZ(sv:Value)(rt ln:Int):Value:=.agg #[sv,.int .i64 rt,.int .i64 ln]
theorem qet(ks:List Nat)(j:Nat):(aB (0 :: (stk ks j).map (vo ks)))[(stk ks j).length]? = some ((vx ks j:Nat):Int):=by
 refine jq ?_
 have:=qnq (ks:=ks) j
 rw[List.getLast?_eq_getElem?] at this
 simpa using this
def FP(ks:List Nat)(v k:Nat)(zs:List Int):Prop:=∀ u i p,(u<v∨(u=v∧i<k))→(pl ks u)[i]? = some p→zs[bG ks p]? = some ((bG ks (tn ks p):Nat):Int)
theorem FP.step{ks:List Nat}{v k p:Nat}{zs:List Int}(hW:Wd ks)(hl:zs.length=ks.length)(hp:(pl ks v)[k]? = some p)(h:FP ks v k zs):FP ks v (k+1) (zs.set (bG ks p) ((bG ks (tn ks p):Nat):Int)):=by
 intro u i q hu hq
 obtain⟨hpn,hpv⟩:=Bh.1 (List.mem_of_getElem? hp)
 obtain⟨QX,LY⟩:=Bh.1 (List.mem_of_getElem? hq)
 rw[List.getElem?_set]
 by_cases hpq:bG ks p=bG ks q
 ·have:=hW.dJ.inj _ _ hpn QX hpq
  subst this
  rw[if_pos rfl,if_pos (by rw[hl];exact hW.gu hpn)]
 ·rw[if_neg hpq]
  refine h u i q ?_ hq
  rcases hu with h1|⟨rfl,h1⟩
  ·exact .inl h1
  ·refine .inr ⟨rfl,?_⟩
   have:i≠k:=fun e=>by
    subst e
    rw[hp] at hq
    simp only [Option.some.injEq] at hq
    exact hpq (by rw[hq])
   omega
theorem FP.next{ks:List Nat}{v:Nat}{zs:List Int}(h:FP ks v (pl ks v).length zs):FP ks (v+1) 0 zs:=by
 intro u i p hu hp
 refine h u i p ?_ hp
 rcases hu with h1|⟨_,h1⟩
 ·by_cases huv:u=v
  ·subst huv;exact .inr ⟨rfl,fK hp⟩
  ·exact .inl (by omega)
 ·omega
theorem FP.all{ks:List Nat}{zs:List Int}(hW:Wd ks)(hl:zs.length=ks.length)(h:FP ks (aW ks 0+1) 0 zs):zs=aB (aG ks):=by
 apply List.ext_getElem?
 intro d
 rcases Nat.lt_or_ge d ks.length with hd|hd
 ·have hp:=hW.dJ.bC hd
  have hto:=hW.dJ.bS hd
  generalize hpe:gQ (bG ks) d=p at *
  have hm:p ∈ pl ks (vx ks p):=Bh.2 ⟨hp,rfl⟩
  obtain⟨i,hi,hie⟩:=List.mem_iff_getElem.1 hm
  have hv:=hW.sP (Nat.le_of_lt hp) (Nat.le_refl ks.length)
  rw[List.take_of_length_le (Nat.le_refl _)] at hv
  have:=h (vx ks p) i p (.inl hv) (by rw[List.getElem?_eq_getElem hi,hie])
  rw[hto] at this
  rw[this]
  have h2:sD ks d=bG ks (tn ks p):=by unfold sD;rw[hpe]
  simp[aB,aG,hd,h2]
 ·rw[List.getElem?_eq_none (by omega),List.getElem?_eq_none (by simp[aB,aG];exact hd)]
theorem qb2(lv:Value)(ks:List Nat)(w:World)(hs:Sl .i64 w lv (aB ks))(hW:Wd ks)(hl:ks.length≤1000000) :
  Calls Tryz.prog 92 #[lv] w fun e w'=>∃ sv,e=.returned (cZ sv (if ks.length=0 then -1 else 0) (if ks.length=0 then 1 else 0))∧aF w.heap.size w' sv (aB (aG ks))∧Keeps (fun _=>False) w w':=by
 have HS:Hid (∀ W,Keeps (fun _=>False) w W→Sl .i64 W lv (aB ks)):=ah (fun W hk=>hs.keeps hk (fun _ _ h=>h))
 obtain⟨a,cap,rfl,hnc,hcm⟩:=hs.form
 rw[q01] at hnc HS ⊢
 clear hs
 by_cases h0:ks.length=0
 ·rw[if_pos h0,if_pos h0]
  have hz:ks=[]:=List.eq_nil_of_length_eq_zero h0
  subst hz
  have hfin:aG ([]:List Nat)=[]:=rfl
  have HF:=ah hfin
  clear HS h0 hfin hW
  go_enter Tryz.func92,Tryz.ntmps92
  go_wp2
  refine bodyPost_ret (v:=cZ (.slice none 0 0) (-1) 1) (by simp[results,Tryz.results92,go_sem,cZ]) rfl ?_
  refine⟨_,rfl,by rw[HF.out];exact aF.nil _ _,?_⟩
  repeat (first|exact Keeps.refl _ _|refine Keeps.setCell ?_ (.inr (by simp)) _|refine Keeps.alloc ?_ _)
 ·rw[if_neg h0,if_neg h0]
  obtain⟨br,hbr⟩:∃ br,br=w.heap.size:=⟨_,rfl⟩
  have k0:Keeps (fun _=>False) w (w.alloc (.cells #[.slice none 0 0,.int .i64 0,.int .i64 0] 27)):=(Keeps.refl _ w).alloc _
  have hb0:(w.alloc (.cells #[.slice none 0 0,.int .i64 0,.int .i64 0] 27)).heap[br]? = some (.cells #[.slice none 0 0,.int .i64 0,.int .i64 0] 27 (0,0)):=by rw[hbr];exact heap_alloc_new w _
  have hN:=q9t (.slice a ks.length cap) ks _ (HS.out _ k0) hW hl
  have HB:=ah (aj hbr (aj k0 hb0))
  have HW:=ah hW
  have Va:Hid (w.heap.size≤br):=ah (by omega)
  have hn0:(((ks.length:Nat):Int) == 0)=false:=by rw[beq_eq_false_iff_ne];omega
  clear hbr k0 hb0 hW
  go_enter Tryz.func92,Tryz.ntmps92
  go_wp2_with fail
  refine hN.mono ?_
  rintro e w1 ⟨gN,rfl,hM1⟩
  clear hN
  obtain⟨lab,hD⟩:=qj3 HB.out.1 HB.out.2.1 (lt_of_block HB.out.2.2) HB.out.2.2 hM1
  have zq:=HB.out.1
  clear hM1 HB
  go_wp2_with fail
  rw[← zq]
  clear zq
  have h5:∃ lab,kU w br gN ks (0 :: (stk ks 0).map (vo ks)) (vE ks 0) (.slice (some ⟨w1.heap.size+1,0,none⟩) 1 1) (.slice (some ⟨w1.heap.size,0,none⟩) 1 1) lab ((w1.alloc (.cells #[.slice none 0 0] 25)).alloc (.cells #[.int .i64 0] 3)):=⟨lab,hD⟩
  clear hD
  generalize World.alloc (World.alloc _ _) _=wM at *
  go_loopg [4,5,25] ks.length (fun m av sv i wr=>∃ j:Nat,j≤ks.length∧m=ks.length - j∧i=.int .i64 j∧∃ lab,kU w br gN ks (0 :: (stk ks j).map (vo ks)) (vE ks j) sv av lab wr)
  case atStart=>exact⟨0,Nat.zero_le _,rfl,rfl,h5⟩
  case round =>
   clear h5
   obtain⟨j,hj,aN,rfl,lab,hD⟩:=hrel
   have HG:=ah aN
   clear aN
   by_cases hlt:j<ks.length
   ·have hkj:=List.getElem?_eq_getElem hlt
    obtain⟨ag,off,rfl,hcell⟩:=(HS.out wr hD.dR).cellAt (jq hkj)
    have hx4:=HW.out.k4 _ (List.mem_of_getElem? hkj)
    have hst:=hD.stk.1
    have hlen:(aB (0 :: (stk ks j).map (vo ks))).length=(stk ks j).length+1:=by simp[aB]
    have hsf:=hst.form
    rw[hlen] at hsf
    obtain⟨sa,sc,rfl,hsc1,hsc2⟩:=hsf
    obtain⟨QY,rfl⟩:=AZ hst (by rw[hlen];omega)
    have htop:=(hst.cell (qet ks j)).1
    have hvl:=HW.out.sP (Nat.le_refl j) (Nat.le_of_lt hlt)
    have hcv:aW (ks.take j) 0≤1000000:=by have:=QD (ks.take j) 0;have:(ks.take j).length≤j:=List.length_take_le _ _;omega
    have GV:=LZ hvl
    obtain⟨ga,ca,rv,jS,hrow,hrf,hro,hrl,_,ag2,ag3⟩:=hD.out.row GV
    have yQ:=jS
    rw[Bj] at yQ
    obtain rfl:=yQ
    obtain⟨zn,⟨zs,_,rfl,hzn⟩,GZ,_⟩:=hD.JJ.1.cell j hlt
    have Vb:zn=(bG ks j:Nat):=by simp[aB,hlt] at hzn;exact hzn.symm
    obtain rfl:=Vb
    have hstep:=HW.out.zu hkj
    have Vd:=hro.form
    obtain⟨ra,rc,rfl,L6,ag4⟩:=Vd
    have hsl:(stk ks j).length≤1000000:=by
                          have:=(HW.out.lK j hj).1;have h2:DD ks j≤aW (ks.take j) 0:=by unfold DD;omega
                          omega
    have hB5:=hD.dR.size
    obtain⟨n1,hn1⟩:∃ n1,n1=(aB ((qM ks j (vx ks j)).map (bG ks))).length:=⟨_,rfl⟩
    have Ve:n1≤10000000000:=by
     rw[hn1]
     have h1:(qM ks j (vx ks j)).length≤j:=by have:=List.length_filter_le (fun p=>vx ks p == vx ks j) (List.range j);simpa [qM] using this
     simp[aB];omega
    have G5:=hro
    rw[← hn1] at G5 hrow L6
    have hgrow:=fun (w1:World) (v':Value) (l':List Nat)=>hD.grow (w1:=w1) (v':=v') (l':=l') (cap:=ca) GV (by rw[Bj]) hrow
    have JK:=ah (aj hgrow (aj hstep hro))
    have HN:Hid ((aB ((qM ks j (vx ks j)).map (bG ks))).length=n1):=ah hn1.symm
    have HD:=ah hD
    clear hn1 hro hgrow hstep GV hst hlen hD
    obtain⟨V,hV⟩:∃ V,V=vx ks j:=⟨_,rfl⟩
    obtain⟨y,hy⟩:∃ y,y=bG ks j:=⟨_,rfl⟩
    obtain⟨L,hL⟩:∃ L,L=(stk ks j).length:=⟨_,rfl⟩
    obtain⟨cV,CR⟩:∃ cV,cV=aW (ks.take j) 0:=⟨_,rfl⟩
    have wZ:=ah (aj hV (aj hy (aj hL CR)))
    rw[← hV] at htop hvl hrow hrf
    rw[← hy] at GZ
    rw[← hL] at htop hsl hsc1
    rw[← CR] at hvl hcv
    rw[← hL,← CR]
    clear hV hy hL CR hrl L6
    generalize CO:ks[j]=x at *
    have HX:=ah (aj hkj CO)
    clear hkj CO
    have hV0:(0:Int)≤(V:Int):=by omega
    have hV1:(V:Int)<(cV:Int)+1:=by omega
    have hj0:(0:Int)≤(j:Int):=by omega
    have hj1:(j:Int)<(ks.length:Int):=by omega
    have hA0:=fun (o:Obj)=>uo hrow o
    have hA1:=fun (o:Obj)=>uo GZ o
    go_upto_region 10 with fail
    go_cut [] from 36 to 48 (fun wz=>∃ wx,wx=wz∧∃ lab,kU w br gN ks (0 :: (stk ks j).map (vo ks)) ((vE ks j).set (vx ks j) ((qM ks j (vx ks j)).map (bG ks) ++ [bG ks j])) (.slice (some ⟨QY,0,none⟩) (L+1) sc) (.slice (some ⟨ga,0,none⟩) (cV+1) ca) lab wx)
    case first =>
     go_region_law ((refine q60 n1 rfl (.tmp 41) (.tmp 46) rfl w.heap.size (.slice ra n1 rc) (aB ((qM ks j (vx ks j)).map (bG ks))) (y:Nat) HN wr.heap.size rfl (by simp[Act.eval]) (by simp[Act.eval]) G5 Ve hB5 ?_);intro g2 cap2 w3 hown3 hk3 hat hg;have hG:=JK.out.1 w3 (.slice (some ⟨g2,0,none⟩) (n1+1) cap2) ((qM ks j (vx ks j)).map (bG ks) ++ [bG ks j]) (by rw[xk,← wZ.out.2.1];exact hown3) hk3 (fun q hq=>by simp only [Value.ownBlock,Option.some.injEq] at hq;subst hq;exact hat);have d0:w3.cell? ⟨ga,V,none⟩=some (.slice ra n1 rc):=(by rw[wZ.out.1];exact hG.2.1);have f0:w3.frozen? ⟨ga,V,none⟩=false:=(by rw[wZ.out.1];exact hG.2.2);have HP:=ah hG.1;clear hG hown3 hk3 hat)
     all_goals
      have hfin:=HP.out
      rw[← wZ.out.1] at hfin
      have HF:=ah hfin
      clear hfin d0 f0
      go_wp2_with fail
      go_meet
      exact⟨_,rfl,_,by rw[← wZ.out.1,wZ.out.2.2.1,wZ.out.2.2.2];exact HF.out⟩
    case rest =>
     obtain⟨wx,rfl,ag6,hD2⟩:=hcut
     have mY:=JK.out.2.1
     have hgd:=Es HX.out.1
     clear hA0 hA1 hrow hrf GZ htop hcell G5
     have hsz2:=hD2.dR.size
     have hown2:=hD2.stk.1
     have hxc:x=0∨x=1∨2≤x:=by omega
     rcases hxc with rfl|rfl|hx2
     ·rw[if_pos rfl] at mY
      have hs1:stk ks (j+1)=stk ks j ++ [j]:=by rw[stk];rw[hgd,if_pos rfl]
      have o8:vo ks j=cV+1:=by rw[wZ.out.2.2.2];rfl
      have L8:(0 :: (stk ks (j+1)).map (vo ks))=(0 :: (stk ks j).map (vo ks)) ++ [cV+1]:=by rw[hs1];simp[o8]
      have HN2:Hid ((aB (0 :: (stk ks j).map (vo ks))).length=L+1):=ah (by rw[wZ.out.2.2.1];simp[aB])
      have hLb:L+1≤10000000000:=by omega
      have HD2:=ah hD2
      have HS2:=ah (aj mY L8)
      clear mY hgd hs1 o8 L8 hD2
      obtain⟨i2,hi2,hi0,hi1,hi3⟩:=info_parts qlr
      have L9:((vE ks j).set (vx ks j) ((qM ks j (vx ks j)).map (bG ks) ++ [bG ks j])).length=cV+1:=by rw[List.length_set,Bj,wZ.out.2.2.2]
      have Vf:=ah L9
      clear L9
      have HDP:Hid (∀ (g2 cap2:Nat) (w3:World),aF w.heap.size w3 (.slice (some ⟨g2,0,none⟩) (L+1+1) cap2) (aB (0 :: (stk ks j).map (vo ks)) ++ [(cV:Int)+1])→Keeps (fun q=>(Value.slice (some ⟨QY,0,none⟩) (L+1) sc).ownBlock=some q) wx w3→((Value.slice (some ⟨QY,0,none⟩) (L+1) sc).ownBlock=some g2∨wx.heap.size≤g2) →
        ∃ vs Mc,kU w br gN ks (0 :: (stk ks (j+1)).map (vo ks)) ((vE ks j).set (vx ks j) ((qM ks j (vx ks j)).map (bG ks) ++ [bG ks j])) (.slice (some ⟨g2,0,none⟩) (L+1+1) cap2) (.slice (some ⟨ga,0,none⟩) (cV+1) ca) Mc w3∧w3.ownsRow w.heap.size 25 1 (.slice (some ⟨ga,0,none⟩) (cV+1) ca) (cV+1) vs∧vs.length=cV+1):=ah (fun g2 cap2 w3 h1 h2 h3=>by
       have hh:=HD2.out.deeper (st':=0 :: (stk ks (j+1)).map (vo ks)) (jI:=.slice (some ⟨g2,0,none⟩) (L+1+1) cap2) (w1:=w3) (by rw[HS2.out.2,xk];exact h1) h2 (fun q hq=>by simp only [Value.ownBlock,Option.some.injEq] at hq;subst hq;exact h3)
       obtain⟨vs,k1,k2,_⟩:=id hh.out
       rw[Vf.out] at k1
       rw[k1] at k2
       exact⟨vs,_,hh,k2,k1⟩)
      go_wp2_with (first | (at_builtin;refine mP (L+1) rfl (.tmp 51) (.tmp 54) rfl w.heap.size (.slice (some ⟨QY,0,none⟩) (L+1) sc) (aB (0 :: (stk ks j).map (vo ks))) ((cV:Int)+1) HN2 wx.heap.size rfl rfl rfl hown2 hLb hsz2 ?_;intro g2 cap2 w3 hown3 hk3 hat hg;obtain⟨vs,Mc,hd3,hvs,hvl⟩:=HDP.out g2 cap2 w3 hown3 hk3 hat;have HD3:=ah hd3;have Et:=ah hvl;have hw3:=hd3.dR.size;clear hown3 hk3 hat hd3 hvl) | (at_builtin;go_loud (refine wpList_append_lies _ rfl (.tmp 56) (.tmp 57) 192 rfl w.heap.size 25 i2 (.slice none 0 0) 1 24 Tryz.underlying192 hi2 hi0 hi1 hi3 rfl (by decide) (.slice (some ⟨ga,0,none⟩) (cV+1) ca) (cV+1) vs rfl (hvs.alloc _) ⟨w3.heap.size,0,none⟩ 1 1 [.slice none 0 0] rfl rfl (cell_one_new _ _ _) (by intro u hu;simp at hu;subst hu;rfl) (by decide) (by unfold maxLen;omega) (by omega) (by simp;omega) (w3.heap.size+1) (by simp) ?_);intro g4 cap4 w4 sQ zw Md aha))
      have hfin:=HD3.out.push (o:=.cells #[.slice none 0 0] 25) (w1:=w4) (g:=g4) (cap:=cap4) (fun vs' h1 h2=>by
       rw[Vf.out] at h1 ⊢
       rw[h1] at h2
       rw[qes h2 hvs]
       exact sQ) zw (Md.imp id (fun h=>by omega))
      rw[Vf.out,← HS2.out.1] at hfin
      have HF:=ah hfin
      clear hfin sQ zw Md hvs hown2
      go_roundg (ks.length - (j+1))
      case measure=>rw[HG.out];omega
      case rel=>exact⟨j+1,by omega,rfl,by go_num,_,HF.out⟩
     ·rw[if_neg (by omega),List.append_nil] at mY
      have hs1:stk ks (j+1)=(stk ks j).dropLast:=by rw[stk];rw[hgd,if_neg (by omega),if_pos rfl]
      have hL0:0<L:=by
       have h1:=yx HX.out.1
       simp[dd] at h1
       have h2:=HW.out.jZ (p:=j+1) (by omega)
       have h3:=(HW.out.lK j (by omega)).1
       rw[← wZ.out.2.2.1] at h3
       omega
      have htk:=hown2.take rfl L (by rw[show (aB (0 :: (stk ks j).map (vo ks))).length=L+1 by rw[wZ.out.2.2.1];simp[aB]];omega)
      have Me:(aB (0 :: (stk ks j).map (vo ks))).take L=aB (0 :: (stk ks (j+1)).map (vo ks)):=by
       rw[hs1,qls]
       congr 1
       obtain⟨L',rfl⟩:∃ L',L=L'+1:=⟨L - 1,by omega⟩
       have MB:=wZ.out.2.2.1
       rw[List.take_succ_cons,List.dropLast_eq_take,← List.map_take,← MB]
       rfl
      rw[Me] at htk
      have hfin:=hD2.higher htk rfl
      rw[← mY] at hfin
      have HF:=ah hfin
      clear hfin htk Me hs1 hown2 mY hgd hD2
      go_wp2
      go_roundg (ks.length - (j+1))
      case measure=>rw[HG.out];omega
      case rel=>exact⟨j+1,by omega,rfl,by go_num,_,HF.out⟩
     ·rw[if_neg (by omega),List.append_nil] at mY
      have hs1:stk ks (j+1)=stk ks j:=by rw[stk];rw[hgd,if_neg (by omega),if_neg (by omega)]
      rw[← mY,← hs1] at hD2
      have hb0:(((x:Nat):Int) == 0)=false:=by rw[beq_eq_false_iff_ne];omega
      have hb1:(((x:Nat):Int) == 1)=false:=by rw[beq_eq_false_iff_ne];omega
      have HF:=ah hD2
      clear hD2 hs1 hown2 mY hgd
      go_wp2
      go_roundg (ks.length - (j+1))
      case measure=>rw[HG.out];omega
      case rel=>exact⟨j+1,by omega,rfl,by go_num,_,HF.out⟩
   ·obtain rfl:j=ks.length:=by omega
    obtain⟨gS,QZ⟩:∃ gS,gS=wr.heap.size:=⟨_,rfl⟩
    have hO:=aO.made' hD.dR ks.length (FP ks 0 0) (fun u i p hu=>by omega) (by omega)
    have hcl:(vE ks ks.length).length=aW ks 0+1:=by rw[Bj,List.take_of_length_le (Nat.le_refl _)]
    obtain⟨ga,ca,rfl,MC,ahb⟩:=hD.out.form (by omega)
    rw[hcl] at MC
    have hcn:aW ks 0≤1000000:=Nat.le_trans (QD ks 0) hl
    have hrd:∀ v,v<aW ks 0+1→∃ rv,wr.cell? ⟨ga,v,none⟩=some rv∧aF w.heap.size wr rv (aB ((pl ks v).map (bG ks))):=by
     intro v hv
     have GV:=LZ (ks:=ks) (j:=ks.length) (v:=v) (by rw[List.take_of_length_le (Nat.le_refl _)];exact hv)
     obtain⟨g,cap,rv,jS,h1,_,h2,_⟩:=hD.out.row GV
     simp only [Value.slice.injEq,Option.some.injEq,Addr.mk.injEq,and_true] at jS
     obtain⟨rfl,-⟩:=jS
     exact⟨rv,h1,h2⟩
    have hres:=hD.res.1
    have Vg:=lt_of_block hres
    have hD2:=hD.dR
    rw[← QZ] at hO
    have MF:gS=wr.heap.size:=QZ
    have HGS:=ah QZ
    rw[hcl]
    clear QZ hcl hlt hj HG hD
    obtain⟨ii,hi,hz0,hz1,hz2⟩:=info_parts pU
    have hmk:=fun w=>run_make (P:=Tryz.prog) w 25 3 ii _ Tryz.underlying25 hi hz0 .i64 .i64 (ks.length:Int) (ks.length:Int) (by omega) (Int.le_refl _) (by rw[hz2];omega) (by omega)
    simp only [hz1,Int.toNat_natCast,Nat.mul_one] at hmk
    clear hi hz0 hz1 hz2
    have hS5:∃ w5:World,w5=(wr.alloc (.cells (madeCells #[.int .i64 0] ks.length) 3)).alloc (.cells #[.slice (some ⟨gS,0,none⟩) ks.length ks.length,.int .i64 0,.int .i64 0] 27):=⟨_,rfl⟩
    obtain⟨w5,Cb⟩:=hS5
    have hk5:Keeps (fun _=>False) wr w5:=by rw[Cb];exact ((Keeps.refl _ wr).alloc _).alloc _
    have yA:aO w gS ks.length (FP ks 0 0) w5:=by rw[Cb];exact hO.keeps ((Keeps.refl _ _).alloc _)
    have hb5:w5.heap[gS+1]? = some (.cells #[.slice (some ⟨gS,0,none⟩) ks.length ks.length,.int .i64 0,.int .i64 0] 27 (0,0)):=by
     rw[Cb,MF]
     have:=heap_alloc_new (wr.alloc (.cells (madeCells #[.int .i64 0] ks.length) 3)) (.cells #[.slice (some ⟨wr.heap.size,0,none⟩) ks.length ks.length,.int .i64 0,.int .i64 0] 27)
     simpa using this
    have Eu:Hid (∀ W,Keeps (fun q=>q=gS) w5 W→W.heap[gS+1]? = some (.cells #[.slice (some ⟨gS,0,none⟩) ks.length ks.length,.int .i64 0,.int .i64 0] 27 (0,0))∧W.heap[br]? = some (.cells #[.slice none 0 0,.int .i64 0,.int .i64 0] 27 (0,0)) ∧
      ∀ v,v<aW ks 0+1→∃ rv,W.cell? ⟨ga,v,none⟩=some rv∧Sl .i64 W rv (aB ((pl ks v).map (bG ks)))):=ah (fun W hk=>by
     have iI:Keeps (fun q=>q=gS) wr W:=(hk5.mono (fun _ _ h=>h.elim)).trans hk (fun _ _ h=>h)
     refine⟨hk.at hb5 (by omega),iI.at hres (by omega),fun v hv=>?_⟩
     obtain⟨rv,h1,h2⟩:=hrd v hv
     refine⟨rv,?_,(h2.keeps iI (fun q hq e=>by have:=(h2.lt q hq).2;omega)).sl⟩
     have hgl:ga<wr.heap.size:=World.block_lt_of_cell? _ _ h1
     rw[World.cell?_of_block (w:=wr) (iI.block ga hgl (fun e=>by omega))]
     exact h1)
    have HW5:=ah (aj Cb (aj hD2 hk5))
    have hkk:=Keeps.refl (fun q=>q=gS) w5
    clear hO hrd hres hD2 Cb hk5 hb5 MF
    go_wp2_with fail
    rw[← HGS.out,← HW5.out.1]
    clear Vg
    obtain⟨cV,CR⟩:∃ cV,cV=aW ks 0:=⟨_,rfl⟩
    rw[← CR] at hcn MC Eu
    rw[← CR]
    have Vh:=ah CR
    clear CR
    go_loopg [73] (cV+1) (fun m i wr=>∃ v:Nat,v≤cV+1∧m=cV+1 - v∧i=.int .i64 v∧aO w gS ks.length (FP ks v 0) wr∧Keeps (fun q=>q=gS) w5 wr)
    case atStart=>exact⟨0,Nat.zero_le _,rfl,rfl,yA,hkk⟩
    case round =>
     clear yA hkk
     obtain⟨v,hv,aN,rfl,hM,hkg⟩:=hrel
     have HG:=ah aN
     clear aN
     obtain⟨gI,hbr,hrows⟩:=Eu.out _ hkg
     by_cases hlt:v<cV+1
     ·obtain⟨rv,hrc,hsl⟩:=hrows v hlt
      obtain⟨ra,rc,rfl,hr1,hr2⟩:=hsl.form
      have hpl:(aB ((pl ks v).map (bG ks))).length=(pl ks v).length:=by simp[aB]
      rw[hpl] at hrc hr1 hsl
      have ahe:(pl ks v).length≤1000000:=by
       have:=List.length_filter_le (fun p=>vx ks p == v) (List.range ks.length)
       simp[pl,qM] at this ⊢;omega
      have HC:Hid (∀ W,Keeps (fun q=>q=gS) w5 W→Sl .i64 W (.slice ra (pl ks v).length rc) (aB ((pl ks v).map (bG ks)))∧W.heap[gS+1]? = some (.cells #[.slice (some ⟨gS,0,none⟩) ks.length ks.length,.int .i64 0,.int .i64 0] 27 (0,0))):=ah (fun W hk=>by
       obtain⟨h1,_,h3⟩:=Eu.out W hk
       obtain⟨rv',h4,h5⟩:=h3 v hlt
       refine⟨?_,h1⟩
       obtain⟨_,_,h6⟩:=Eu.out wr hkg
       obtain⟨rv2,h7,h8⟩:=h6 v hlt
       have hsame:rv'=.slice ra (pl ks v).length rc:=by
        obtain⟨rvw,h9,_⟩:=(Eu.out w5 (Keeps.refl _ _)).2.2 v hlt
        have hgl:ga<w5.heap.size:=World.block_lt_of_cell? _ _ h9
        have hgn:ga≠gS:=fun e=>by
         obtain⟨zs,_,_,ho,_⟩:=hM
         subst e
         have hz:=h7
         obtain⟨z,_,hcz,_⟩:=(show aO w ga ks.length (FP ks v 0) wr from ⟨zs,by assumption,by assumption,ho,by assumption⟩).cell 0 (by omega)
         obtain⟨_,hx,_⟩:=h6 0 (by omega)
         rw[hcz] at hx
         obtain⟨rr,hrr,hss⟩:=h6 0 (by omega)
         rw[hcz] at hrr
         simp only [Option.some.injEq] at hrr
         subst hrr
         obtain⟨_,_,hbad,_⟩:=hss
         cases hbad
        have e1:W.cell? ⟨ga,v,none⟩=w5.cell? ⟨ga,v,none⟩:=World.cell?_of_block (w:=w5) (hk.block ga hgl hgn)
        have e2:wr.cell? ⟨ga,v,none⟩=w5.cell? ⟨ga,v,none⟩:=World.cell?_of_block (w:=w5) (hkg.block ga hgl hgn)
        rw[e1] at h4
        rw[e2] at hrc
        rw[hrc] at h4
        simp only [Option.some.injEq] at h4
        exact h4.symm
       rw[hsame] at h5
       exact h5)
      have h0M:=aj hM hkg
      clear hM hkg gI hbr hrows hsl hpl
      go_wp2_with fail
      go_loopg [79] (pl ks v).length (fun m i wr=>∃ k:Nat,k≤(pl ks v).length∧m=(pl ks v).length - k∧i=.int .i64 k∧aO w gS ks.length (FP ks v k) wr∧Keeps (fun q=>q=gS) w5 wr)
      case atStart=>exact⟨0,Nat.zero_le _,rfl,rfl,h0M⟩
      case round =>
       clear h0M
       obtain⟨k,hk,aN,rfl,hM,hkg⟩:=hrel
       have G6:=ah aN
       clear aN
       obtain⟨hsl,gI⟩:=HC.out _ hkg
       have hmc:=ak gI 0
       by_cases hkl:k<(pl ks v).length
       ·have hpk:=List.getElem?_eq_getElem hkl
        obtain⟨hpn,hpv⟩:=Bh.1 (List.mem_of_getElem? hpk)
        obtain⟨hn1,hn2⟩:=HW.out.qN hpk
        have hmap:∀ i q,(pl ks v)[i]? = some q→(aB ((pl ks v).map (bG ks)))[i]? = some ((bG ks q:Nat):Int):=fun i q h=>jq (by rw[List.getElem?_map,h];rfl)
        obtain⟨rg,ro,rfl,hc1⟩:=hsl.cellAt (hmap _ _ hpk)
        have hp0:=List.getElem?_eq_getElem (l:=pl ks v) (i:=0) (by omega)
        have hc0:=hsl.cellOf (hmap _ _ hp0)
        rw[Nat.add_zero] at hc0
        have hnl:=HW.out.gu hpn
        obtain⟨z,_,hcz,hfz⟩:=hM.cell _ hnl
        have hN:=hM.set (Q:=FP ks v (k+1)) (bG ks (pl ks v)[k]) ((bG ks (tn ks (pl ks v)[k]):Nat):Int) (fun zs hzl h=>h.step HW.out hzl hpk)
        have hkN:=hkg.setCell (p:=⟨gS,bG ks (pl ks v)[k],none⟩) (.inl rfl) (.int .i64 ((bG ks (tn ks (pl ks v)[k]):Nat):Int))
        have qO:=ah (aj hN hkN)
        by_cases hk1:k+1<(pl ks v).length
        ·have hc2:=hsl.cellOf (hmap _ _ (hn1 hk1))
         clear hN hkN hM hkg hsl gI hn1 hn2 hmap hpk hp0 hpn hpv
         generalize bG ks (tn ks (pl ks v)[k])=y at *
         generalize bG ks (pl ks v)[k]=d at *
         generalize bG ks (pl ks v)[0]=d0 at *
         have hkI:(k:Int)+1<((pl ks v).length:Int):=by omega
         go_wp2
         go_roundg ((pl ks v).length - (k+1))
         case measure=>rw[G6.out];omega
         case rel=>exact⟨k+1,by omega,rfl,by go_num,qO.out⟩
        ·have Q0:=hn2 hk1
         rw[hp0] at Q0
         simp only [Option.some.injEq] at Q0
         rw[Q0] at hc0
         have hkb:decide ((k:Int)+1<((pl ks v).length:Int))=false:=decide_eq_false (by omega)
         clear hN hkN hM hkg hsl gI hn1 hn2 hmap hpk hp0 hpn hpv Q0
         generalize bG ks (tn ks (pl ks v)[k])=y at *
         generalize bG ks (pl ks v)[k]=d at *
         go_wp2
         go_roundg ((pl ks v).length - (k+1))
         case measure=>rw[G6.out];omega
         case rel=>exact⟨k+1,by omega,rfl,by go_num,qO.out⟩
       ·obtain rfl:k=(pl ks v).length:=by omega
        have HF:=ah (aj (hM.mono (fun zs _ h=>h.next)) hkg)
        clear hM hkg hsl gI hmc
        go_wp2
        go_roundg (cV+1 - (v+1))
        case measure=>rw[HG.out];omega
        case rel=>exact⟨v+1,by omega,rfl,by go_num,HF.out⟩
     ·obtain rfl:v=cV+1:=by omega
      have hfin:=hM.mono (Q:=fun zs=>zs=aB (aG ks)) (fun zs hzl h=>FP.all HW.out hzl (by rw[← Vh.out];exact h))
      obtain⟨zs,hzl,rfl,hown,aT⟩:=hfin
      have hb0:=ak gI 0
      have hb1:=ak gI 1
      have hb2:=ak gI 2
      have hr0:=ak hbr 0
      have hr1:=ak hbr 1
      have hr2:=ak hbr 2
      have hrf:=au hbr
      have HF:=ah (aj hown (aj aT (aj hbr hM.old)))
      clear hM hkg hrows hown aT gI
      go_wp2
      obtain⟨hown,aT,hbr,hold⟩:=HF.out
      have CU:=dM (dM (dM hbr 0 (.slice (some ⟨gS,0,none⟩) ks.length ks.length)) 1 (.int .i64 0)) 2 (.int .i64 0)
      have pY:Keeps (fun q=>q=br) wr (((wr.setCell ⟨br,0,none⟩ (.slice (some ⟨gS,0,none⟩) ks.length ks.length)).setCell ⟨br,1,none⟩ (.int .i64 0)).setCell ⟨br,2,none⟩ (.int .i64 0)) :=
       (((Keeps.refl (fun q=>q=br) wr).setCell (p:=⟨br,0,none⟩) (.inl rfl) _).setCell (p:=⟨br,1,none⟩) (.inl rfl) _).setCell (p:=⟨br,2,none⟩) (.inl rfl) _
      have sS:=hown.keeps pY (fun q hq e=>by
       simp only [Value.ownBlock,Option.some.injEq] at hq
       have hx:=hbr
       subst hq
       subst e
       obtain⟨z,hz⟩:=hown.has 0 (by rw[hzl];omega)
       rw[ak hx 0] at hz
       simp at hz)
      have MG:=aT.trans pY (fun x hx e=>by have:=Va.out;omega)
      have c0:=ak CU 0
      have c1:=ak CU 1
      have c2:=ak CU 2
      have HR9:=ah (aj sS MG)
      clear hown aT hbr hold CU pY sS MG hb0 hb1 hb2 hr0 hr1 hr2 hrf
      generalize World.setCell (World.setCell (World.setCell _ _ _) _ _) _ _=w9 at *
      refine bodyPost_ret (v:=cZ (.slice (some ⟨gS,0,none⟩) ks.length ks.length) 0 0) ?_ rfl ⟨_,rfl,HR9.out.1,HR9.out.2⟩
      simp at c0 c1 c2
      simp[results,Tryz.results92,go_sem,cZ,c0,c1,c2]
end
