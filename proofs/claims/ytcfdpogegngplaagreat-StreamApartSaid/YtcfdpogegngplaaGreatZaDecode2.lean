import Derived.Maps.AppendAt
import Derived.Test.YtcfdpogegngplaaGreatZaWlk
set_option maxRecDepth 100000
set_option maxHeartbeats 4000000
namespace Go.Proofs.YtcfdpogegngplaaGreat
section
open Go.RowKit
theorem ql:(Tryz.prog.info? 25).map (fun i=>(i.zero,i.size,i.bytes))=some (some (.slice none 0 0),1,24):=by kernel_rfl
def SS (B:Nat) (lab:Nat→Nat) (c:Nat) (w:World) (av:Value) (ls:List (List Nat)):Prop :=
 ∃ vs,vs.length=ls.length∧w.ownsRow B 25 1 av vs.length vs∧(∀ q,av.ownBlock=some q→lab q=c) ∧
  ∀ i l,ls[i]? = some l→∃ v,vs[i]? = some v∧OwnI B w v (nats l)∧∀ q,v.ownBlock=some q→lab q=c+1+i
theorem SS.keeps {B:Nat} {lab:Nat→Nat} {c:Nat} {w w1:World} {av:Value} {ls:List (List Nat)} {F:Nat→Prop} (h:SS B lab c w av ls) (hk:Keeps F w w1) (hF:∀ q,F q→q<w.heap.size→lab q<c):SS B lab c w1 av ls:=by
 obtain⟨vs,h1,h2,h3,h4⟩:=h
 refine⟨vs,h1,hk.owns h2 (fun q hq e=>?_),h3,fun i l hl=>?_⟩
 ·have:=h3 q hq;have:=hF q e (World.ownsRow.lt h2 q hq).2;omega
 ·obtain⟨v,g1,g2,g3⟩:=h4 i l hl
  exact⟨v,g1,g2.keeps hk (fun q hq e=>by have:=g3 q hq;have:=hF q e (g2.lt q hq).2;omega),g3⟩
theorem SS.relab {B:Nat} {lab lab':Nat→Nat} {c:Nat} {w:World} {av:Value} {ls:List (List Nat)} (h:SS B lab c w av ls) (hl:∀ q,q<w.heap.size→lab' q=lab q):SS B lab' c w av ls:=by
 obtain⟨vs,h1,h2,h3,h4⟩:=h
 refine⟨vs,h1,h2,fun q hq=>by rw[hl q (World.ownsRow.lt h2 q hq).2];exact h3 q hq,fun i l hi=>?_⟩
 obtain⟨v,g1,g2,g3⟩:=h4 i l hi
 exact⟨v,g1,g2,fun q hq=>by rw[hl q (g2.lt q hq).2];exact g3 q hq⟩
theorem SS.row {B:Nat} {lab:Nat→Nat} {c:Nat} {w:World} {av:Value} {ls:List (List Nat)} (h:SS B lab c w av ls) {i:Nat} {l:List Nat} (hl:ls[i]? = some l) :
  ∃ g cap v,av=.slice (some ⟨g,0,none⟩) ls.length cap∧w.cell? ⟨g,i,none⟩=some v∧w.frozen? ⟨g,i,none⟩=false∧OwnI B w v (nats l)∧(∀ q,v.ownBlock=some q→lab q=c+1+i)∧lab g=c∧B≤g∧g<w.heap.size:=by
 obtain⟨vs,h1,h2,h3,h4⟩:=h
 obtain⟨v,g1,g2,g3⟩:=h4 i l hl
 obtain⟨g,cap,hav,_,_,hc,ho,hg⟩:=q0d h2 (by have:=q01 g1;omega)
 obtain⟨c1,c2⟩:=hc i v g1
 exact⟨g,cap,v,by rw[hav,h1],c1,c2,g2,g3,h3 g ho,(World.ownsRow.lt h2 g ho).1,hg⟩
theorem SS.form {B:Nat} {lab:Nat→Nat} {c:Nat} {w:World} {av:Value} {ls:List (List Nat)} (h:SS B lab c w av ls) (hn:0<ls.length):∃ g cap,av=.slice (some ⟨g,0,none⟩) ls.length cap∧ls.length≤cap∧cap≤9223372036854775807:=by
 obtain⟨vs,h1,h2,_,_⟩:=h
 obtain⟨g,cap,hav,h3,h4,_⟩:=q0d h2 (by omega)
 exact⟨g,cap,by rw[hav,h1],by omega,by unfold maxLen at h4;omega⟩
def relb (lab:Nat→Nat) (n c:Nat) (x:Nat):Nat:=if x<n then lab x else c
theorem q2h {lab:Nat→Nat} {n c x:Nat} (h:x<n):relb lab n c x=lab x:=if_pos h
theorem SS.grow {B:Nat} {lab:Nat→Nat} {c:Nat} {w w1:World} {av v v':Value} {ls:List (List Nat)} {i g cap:Nat} {l:List Nat} (h:SS B lab c w av ls) (hl:ls[i]? = some l) (hav:av=.slice (some ⟨g,0,none⟩) ls.length cap) (hcell:w.cell? ⟨g,i,none⟩=some v)
  (l':List Nat) (hown:OwnI B w1 v' (nats l')) (hk:Keeps (fun q=>v.ownBlock=some q) w w1) (hat:∀ q,v'.ownBlock=some q→v.ownBlock=some q∨w.heap.size≤q) :
  SS B (relb lab w.heap.size (c+1+i)) c (w1.setCell ⟨g,i,none⟩ v') av (ls.set i l')∧w1.cell? ⟨g,i,none⟩=some v∧w1.frozen? ⟨g,i,none⟩=false:=by
 obtain⟨vs,h1,h2,h3,h4⟩:=h
 obtain⟨u,g1,g2,g3⟩:=h4 i l hl
 have hgb:(Value.slice (some ⟨g,0,none⟩) ls.length cap).ownBlock=some g:=rfl
 have hlg:=h3 g (by rw[hav];rfl)
 have hgw:=World.ownsRow.lt h2 g (by rw[hav];rfl)
 obtain⟨g',cap',hav',_,_,hc,_,_⟩:=q0d h2 (by have:=q01 g1;omega)
 rw[hav] at hav'
 simp only [Value.slice.injEq,Option.some.injEq,Addr.mk.injEq,and_true] at hav'
 obtain⟨rfl,-,rfl⟩:=hav'
 obtain⟨c1,c2⟩:=hc i u g1
 rw[hcell] at c1
 simp only [Option.some.injEq] at c1
 subst c1
 have hng:¬ v.ownBlock=some g:=fun e=>by have:=g3 g e;omega
 have h2':=hk.owns h2 (fun q hq e=>by rw[hav] at hq;simp only [Value.ownBlock,Option.some.injEq] at hq;subst hq;exact hng e)
 rw[hav,← h1] at h2'
 have hset:=q7j h2' i v'
 have hold:=fun q (hq:q<w.heap.size)=>q2h (lab:=lab) (n:=w.heap.size) (c:=c+1+i) hq
 obtain⟨_,_,_,_,_,hc',_,_⟩:=q0d h2' (by have:=q01 g1;omega)
 have hcw:w1.cell? ⟨g,i,none⟩=some v∧w1.frozen? ⟨g,i,none⟩=false:=by
  obtain⟨g',cap',hq,_,_,hc',_,_⟩:=q0d h2' (by have:=q01 g1;omega)
  simp only [Value.slice.injEq,Option.some.injEq,Addr.mk.injEq,and_true] at hq
  obtain⟨rfl,-,rfl⟩:=hq
  exact hc' i v g1
 refine⟨⟨vs.set i v',by simp[h1],?_,fun q hq=>?_,fun j m hm=>?_⟩,hcw⟩
 ·rw[List.length_set,hav,← h1];exact hset
 ·rw[hav] at hq
  simp only [Value.ownBlock,Option.some.injEq] at hq
  subst hq
  rw[hold g hgw.2];exact hlg
 ·rw[List.getElem?_set] at hm
  have hgown:∀ {x:Value} {zs:List Int},OwnI B w1 x zs→x.ownBlock≠some g→OwnI B (w1.setCell ⟨g,i,none⟩ v') x zs:=fun hx hn=>hx.other ⟨g,i,none⟩ hn v'
  by_cases hij:i=j
  ·subst hij
   have hil:=q01 hl
   rw[if_pos rfl,if_pos hil] at hm
   simp only [Option.some.injEq] at hm
   subst hm
   refine⟨v',by rw[List.getElem?_set,if_pos rfl,if_pos (by omega)],hgown hown (fun e=>?_),fun q hq=>?_⟩
   ·rcases hat g e with h5|h5
    ·exact hng h5
    ·omega
   ·rcases hat q hq with h5|h5
    ·rw[hold q (g2.lt q h5).2];exact g3 q h5
    ·unfold relb;rw[if_neg (by omega)]
  ·rw[if_neg hij] at hm
   obtain⟨u,m1,m2,m3⟩:=h4 j m hm
   refine⟨u,by rw[List.getElem?_set,if_neg hij];exact m1,hgown (m2.keeps hk (fun q hq e=>?_)) (fun e=>?_),fun q hq=>?_⟩
   ·have:=m3 q hq;have:=g3 q e;omega
   ·have:=m3 g e;omega
   ·rw[hold q (m2.lt q hq).2];exact m3 q hq
theorem SS.push {B:Nat} {lab:Nat→Nat} {c:Nat} {w w1:World} {av:Value} {ls:List (List Nat)} {o:Obj} {g cap:Nat} (h:SS B lab c w av ls)
  (hown:∀ vs,vs.length=ls.length→w.ownsRow B 25 1 av vs.length vs→w1.ownsRow B 25 1 (.slice (some ⟨g,0,none⟩) (ls.length+1) cap) (ls.length+1) (vs ++ [.slice none 0 0])) (hgrow:(w.alloc o).grownBy w1 av.ownBlock) (hat:av.ownBlock=some g∨w.heap.size≤g) :
  SS B (relb lab w.heap.size c) c w1 (.slice (some ⟨g,0,none⟩) (ls.length+1) cap) (ls ++ [[]]):=by
 obtain⟨vs,h1,h2,h3,h4⟩:=h
 have hk:Keeps (fun q=>av.ownBlock=some q) w w1:=((Keeps.refl _ w).alloc _).grown hgrow (fun k hk=>.inl hk)
 have hold:=fun q (hq:q<w.heap.size)=>q2h (lab:=lab) (n:=w.heap.size) (c:=c) hq
 refine⟨vs ++ [.slice none 0 0],by simp[h1],?_,fun q hq=>?_,fun i l hl=>?_⟩
 ·rw[List.length_append,h1];exact hown vs h1 h2
 ·simp only [Value.ownBlock,Option.some.injEq] at hq
  subst hq
  rcases hat with h5|h5
  ·rw[hold g (World.ownsRow.lt h2 g h5).2];exact h3 g h5
  ·unfold relb;rw[if_neg (by omega)]
 ·rcases q2i hl with hl|⟨rfl,rfl⟩
  ·obtain⟨v,g1,g2,g3⟩:=h4 i l hl
   refine⟨v,by rw[List.getElem?_append_left (q01 g1)];exact g1,g2.keeps hk (fun q hq e=>?_),fun q hq=>by rw[hold q (g2.lt q hq).2];exact g3 q hq⟩
   have:=h3 q e;have:=g3 q hq;omega
  ·exact⟨.slice none 0 0,by rw[← h1];simp,OwnI.nil _ _,fun q hq=>by simp[Value.ownBlock] at hq⟩
end
section
open Go.RowKit
structure DecS (w:World) (br gN:Nat) (ks st:List Nat) (ls:List (List Nat)) (sv av:Value) (lab:Nat→Nat) (wr:World):Prop where
 res:wr.heap[br]? = some (.cells #[.slice none 0 0,.int .i64 0,.int .i64 0] 27 (0,0))∧lab br=1
 nam:MadeS w gN ks.length (fun zs=>zs=nats ((List.range ks.length).map (nmD ks))) wr∧lab gN=2
 stk:OwnI w.heap.size wr sv (nats st)∧∀ q,sv.ownBlock=some q→lab q=3
 out:SS w.heap.size lab 4 wr av ls
 kee:Keeps (fun _=>False) w wr
section
variable {w wr w1:World} {br gN:Nat} {ks st:List Nat} {ls:List (List Nat)} {sv av:Value} {lab:Nat→Nat} (h:DecS w br gN ks st ls sv av lab wr)
include h
theorem DecS.rest {F:Nat→Prop} (hk:Keeps F wr w1) (hF:∀ q,F q→q<wr.heap.size→3≤lab q) (hw:∀ q,F q→w.heap.size≤q) (c:Nat) :
  (w1.heap[br]? = some (.cells #[.slice none 0 0,.int .i64 0,.int .i64 0] 27 (0,0))∧relb lab wr.heap.size c br=1) ∧
  (MadeS w gN ks.length (fun zs=>zs=nats ((List.range ks.length).map (nmD ks))) w1∧relb lab wr.heap.size c gN=2)∧Keeps (fun _=>False) w w1:=by
 have hb:=lt_of_block h.res.1
 have hg:=h.nam.1.old.2
 refine⟨⟨hk.at h.res.1 (fun e=>by have:=hF br e hb;have:=h.res.2;omega),by rw[q2h hb];exact h.res.2⟩,⟨h.nam.1.keepsF hk (fun e=>by have:=hF gN e hg;have:=h.nam.2;omega) hw,by rw[q2h hg];exact h.nam.2⟩,h.kee.trans hk (fun q hq e=>by have:=hw q e;omega)⟩
theorem DecS.grow {v v':Value} {i g cap:Nat} {l l':List Nat} (hl:ls[i]? = some l) (hav:av=.slice (some ⟨g,0,none⟩) ls.length cap) (hcell:wr.cell? ⟨g,i,none⟩=some v)
  (hown:OwnI w.heap.size w1 v' (nats l')) (hk:Keeps (fun q=>v.ownBlock=some q) wr w1) (hat:∀ q,v'.ownBlock=some q→v.ownBlock=some q∨wr.heap.size≤q) :
  DecS w br gN ks st (ls.set i l') sv av (relb lab wr.heap.size (4+1+i)) (w1.setCell ⟨g,i,none⟩ v')∧w1.cell? ⟨g,i,none⟩=some v∧w1.frozen? ⟨g,i,none⟩=false:=by
 obtain⟨s1,s2,s3⟩:=h.out.grow hl hav hcell l' hown hk hat
 obtain⟨g',cap',u,hq,hc2,_,ho,hlab,hg4,hgB,hgw⟩:=h.out.row hl
 rw[hav] at hq
 simp only [Value.slice.injEq,Option.some.injEq,Addr.mk.injEq,and_true] at hq
 obtain⟨rfl,-,rfl⟩:=hq
 rw[hcell] at hc2
 simp only [Option.some.injEq] at hc2
 subst hc2
 have hk2:Keeps (fun q=>v.ownBlock=some q∨q=g) wr (w1.setCell ⟨g,i,none⟩ v'):=(hk.mono (fun q _ e=>.inl e)).setCell (p:=⟨g,i,none⟩) (.inl (.inr rfl)) v'
 obtain⟨r1,r2,r3⟩:=h.rest hk2 (fun q e hq=>by
  rcases e with e|rfl
  ·have:=hlab q e;omega
  ·omega) (fun q e=>by
  rcases e with e|rfl
  ·exact (ho.lt q e).1
  ·exact hgB) (4+1+i)
 refine⟨⟨r1,r2,⟨h.stk.1.keeps hk2 (fun q hq e=>?_),fun q hq=>?_⟩,s1,r3⟩,s2,s3⟩
 ·have:=h.stk.2 q hq
  rcases e with e|rfl
  ·have:=hlab q e;omega
  ·omega
 ·rw[q2h (h.stk.1.lt q hq).2];exact h.stk.2 q hq
theorem DecS.deeper {sv':Value} {st':List Nat} (hown:OwnI w.heap.size w1 sv' (nats st')) (hk:Keeps (fun q=>sv.ownBlock=some q) wr w1) (hat:∀ q,sv'.ownBlock=some q→sv.ownBlock=some q∨wr.heap.size≤q) :
  DecS w br gN ks st' ls sv' av (relb lab wr.heap.size 3) w1:=by
 obtain⟨r1,r2,r3⟩:=h.rest hk (fun q e hq=>by have:=h.stk.2 q e;omega) (fun q e=>(h.stk.1.lt q e).1) 3
 have ho:=(SS.relab (lab':=relb lab wr.heap.size 3) h.out (fun q hq=>q2h hq)).keeps hk (fun q e hq=>by rw[q2h hq];have:=h.stk.2 q e;omega)
 refine⟨r1,r2,⟨hown,fun q hq=>?_⟩,ho,r3⟩
 rcases hat q hq with e|e
 ·rw[q2h (h.stk.1.lt q e).2];exact h.stk.2 q e
 ·unfold relb;rw[if_neg (by omega)]
theorem DecS.higher {sv':Value} {st':List Nat} (hown:OwnI w.heap.size wr sv' (nats st')) (hat:sv'.ownBlock=sv.ownBlock):DecS w br gN ks st' ls sv' av lab wr :=
 ⟨h.res,h.nam,⟨hown,fun q hq=>h.stk.2 q (by rw[← hat];exact hq)⟩,h.out,h.kee⟩
theorem DecS.push {o:Obj} {g cap:Nat} (hown:∀ vs,vs.length=ls.length→wr.ownsRow w.heap.size 25 1 av vs.length vs→w1.ownsRow w.heap.size 25 1 (.slice (some ⟨g,0,none⟩) (ls.length+1) cap) (ls.length+1) (vs ++ [.slice none 0 0])) (hgrow:(wr.alloc o).grownBy w1 av.ownBlock) (hat:av.ownBlock=some g∨wr.heap.size≤g) :
  DecS w br gN ks st (ls ++ [[]]) sv (.slice (some ⟨g,0,none⟩) (ls.length+1) cap) (relb lab wr.heap.size 4) w1:=by
 have ho:=h.out.push hown hgrow hat
 have hout:=h.out
 obtain⟨vs,h1,h2,h3,h4⟩:=hout
 have hk:Keeps (fun q=>av.ownBlock=some q) wr w1:=((Keeps.refl _ wr).alloc _).grown hgrow (fun k hk=>.inl hk)
 obtain⟨r1,r2,r3⟩:=h.rest hk (fun q e hq=>by have:=h3 q e;omega) (fun q e=>(World.ownsRow.lt h2 q e).1) 4
 refine⟨r1,r2,⟨h.stk.1.keeps hk (fun q hq e=>?_),fun q hq=>by rw[q2h (h.stk.1.lt q hq).2];exact h.stk.2 q hq⟩,ho,r3⟩
 have:=h.stk.2 q hq;have:=h3 q e;omega
end
theorem MadeS.base {w w0 wr:World} {g n:Nat} {P:List Int→Prop} (h:MadeS w0 g n P wr) (hk:Keeps (fun _=>False) w w0):MadeS w g n P wr:=by
 have:=hk.size
 obtain⟨zs,h1,h2,h3,h4⟩:=h
 exact⟨zs,h1,h2,h3.mono (fun k hk=>by have:=(h3.lt k hk).1;omega),hk.trans h4 (fun _ _ h=>h)⟩
theorem qia {w w0 w1:World} {br gN:Nat} {ks:List Nat} (hbr:br=w.heap.size) (hk0:Keeps (fun _=>False) w w0) (hbw:br<w0.heap.size) (hb0:w0.heap[br]? = some (.cells #[.slice none 0 0,.int .i64 0,.int .i64 0] 27 (0,0))) (hM:MadeS w0 gN ks.length (fun zs=>zs=nats ((List.range ks.length).map (nmD ks))) w1) :
  ∃ lab,DecS w br gN ks (0 :: (stk ks 0).map (vo ks)) (lsj ks 0) (.slice (some ⟨w1.heap.size+1,0,none⟩) 1 1) (.slice (some ⟨w1.heap.size,0,none⟩) 1 1) lab ((w1.alloc (.cells #[.slice none 0 0] 25)).alloc (.cells #[.int .i64 0] 3)):=by
 have ho:=hM.old
 have hk1:Keeps (fun _=>False) w0 w1:=by obtain⟨_,_,_,_,h⟩:=hM;exact h
 have hk2:Keeps (fun _=>False) w1 ((w1.alloc (.cells #[.slice none 0 0] 25)).alloc (.cells #[.int .i64 0] 3)):=((Keeps.refl _ w1).alloc _).alloc _
 have hsz:=hk0.size
 have hsz1:=hk1.size
 refine⟨fun x=>if x=br then 1 else if x=gN then 2 else if x=w1.heap.size+1 then 3 else 4,⟨hk2.at (hk1.at hb0 (fun h=>h)) (fun h=>h),if_pos rfl⟩,⟨(hM.base hk0).keeps hk2,?_⟩,⟨?_,?_⟩,⟨[.slice none 0 0],rfl,?_,?_,?_⟩,(hk0.trans hk1 (fun _ _ h=>h)).trans hk2 (fun _ _ h=>h)⟩
 ·show (if gN=br then 1 else if gN=gN then 2 else if gN=w1.heap.size+1 then 3 else 4)=2
  rw[if_neg (by omega),if_pos rfl]
 ·have h1:=q6x (w1.alloc (.cells #[.slice none 0 0] 25)) 0
  have h2:(w1.alloc (.cells #[.slice none 0 0] 25)).heap.size=w1.heap.size+1:=by simp
  rw[h2] at h1
  exact h1.mono (fun q hq=>by simp only [Value.ownBlock,Option.some.injEq] at hq;omega)
 ·intro q hq
  simp only [Value.ownBlock,Option.some.injEq] at hq
  show (if q=br then 1 else if q=gN then 2 else if q=w1.heap.size+1 then 3 else 4)=3
  rw[if_neg (by omega),if_neg (by omega),if_pos hq.symm]
 ·have h1:=World.ownsRow_lit (base:=w.heap.size) (e:=25) (size:=1) w1 #[.slice none 0 0] 1 (by omega) (by unfold maxLen;omega) rfl
  exact World.ownsRow.alloc h1 _
 ·intro q hq
  simp only [Value.ownBlock,Option.some.injEq] at hq
  show (if q=br then 1 else if q=gN then 2 else if q=w1.heap.size+1 then 3 else 4)=4
  rw[if_neg (by omega),if_neg (by omega),if_neg (by omega)]
 ·intro i l hl
  have:i=0∧l=[]:=by
   have h3:lsj ks 0=[[]]:=rfl
   rw[h3] at hl
   cases i with
   | zero=>simp at hl;exact⟨rfl,hl⟩
   | succ i=>simp at hl
  obtain⟨rfl,rfl⟩:=this
  exact⟨_,rfl,OwnI.nil _ _,fun q hq=>by simp[Value.ownBlock] at hq⟩
theorem ql0 (ks:List Nat) (m:Nat):(nats ks).take m=nats (ks.take m):=by simp[nats]
theorem qe1 {w:World} {base:Nat} {e:TypeId} {v:Value} {n:Nat} {xs ys:List Value} (h:w.ownsRow base e 1 v n xs) (k:w.ownsRow base e 1 v n ys):xs=ys:=by
 have l1:=h.1
 have l2:=k.1
 apply List.ext_getElem?
 intro j
 rcases Nat.lt_or_ge j n with hj|hj
 ·obtain⟨g,cap,hv,_,_,hc,_⟩:=q0d h (by omega)
  obtain⟨g',cap',hv',_,_,hc',_⟩:=q0d k (by omega)
  rw[hv] at hv'
  simp only [Value.slice.injEq,Option.some.injEq,Addr.mk.injEq,and_true] at hv'
  obtain⟨rfl,-,rfl⟩:=hv'
  have h1:=List.getElem?_eq_getElem (l:=xs) (i:=j) (by omega)
  have h2:=List.getElem?_eq_getElem (l:=ys) (i:=j) (by omega)
  have c1:=(hc j _ h1).1
  have c2:=(hc' j _ h2).1
  rw[c1] at c2
  rw[h1,h2];exact c2
 ·rw[List.getElem?_eq_none (by omega),List.getElem?_eq_none (by omega)]
def mapV (sv:Value) (rt ln:Int):Value:=.agg #[sv,.int .i64 rt,.int .i64 ln]
theorem qe2 (ks:List Nat) (j:Nat):(nats (0 :: (stk ks j).map (vo ks)))[(stk ks j).length]? = some ((vx ks j:Nat):Int):=by
 refine q0i ?_
 have:=qnp (ks:=ks) j
 rw[List.getLast?_eq_getElem?] at this
 simpa using this
def FP (ks:List Nat) (v k:Nat) (zs:List Int):Prop:=∀ u i p,(u<v∨(u=v∧i<k))→(pl ks u)[i]? = some p→zs[nmD ks p]? = some ((nmD ks (tn ks p):Nat):Int)
theorem FP.step {ks:List Nat} {v k p:Nat} {zs:List Int} (hW:Wd ks) (hl:zs.length=ks.length) (hp:(pl ks v)[k]? = some p) (h:FP ks v k zs):FP ks v (k+1) (zs.set (nmD ks p) ((nmD ks (tn ks p):Nat):Int)):=by
 intro u i q hu hq
 obtain⟨hpn,hpv⟩:=q4y.1 (List.mem_of_getElem? hp)
 obtain⟨hqn,hqv⟩:=q4y.1 (List.mem_of_getElem? hq)
 rw[List.getElem?_set]
 by_cases hpq:nmD ks p=nmD ks q
 ·have:=hW.nm_isP.inj _ _ hpn hqn hpq
  subst this
  rw[if_pos rfl,if_pos (by rw[hl];exact hW.nm_lt hpn)]
 ·rw[if_neg hpq]
  refine h u i q ?_ hq
  rcases hu with h1|⟨rfl,h1⟩
  ·exact .inl h1
  ·refine .inr ⟨rfl,?_⟩
   have:i≠k:=fun e=>by
    subst e
    rw[hp] at hq
    simp only [Option.some.injEq] at hq
    exact hpq (by rw[hq])
   omega
theorem FP.next {ks:List Nat} {v:Nat} {zs:List Int} (h:FP ks v (pl ks v).length zs):FP ks (v+1) 0 zs:=by
 intro u i p hu hp
 refine h u i p ?_ hp
 rcases hu with h1|⟨_,h1⟩
 ·by_cases huv:u=v
  ·subst huv;exact .inr ⟨rfl,q01 hp⟩
  ·exact .inl (by omega)
 ·omega
theorem FP.all {ks:List Nat} {zs:List Int} (hW:Wd ks) (hl:zs.length=ks.length) (h:FP ks (cntK ks 0+1) 0 zs):zs=nats (decL ks):=by
 apply List.ext_getElem?
 intro d
 rcases Nat.lt_or_ge d ks.length with hd|hd
 ·have hp:=hW.nm_isP.inv_lt hd
  have hto:=hW.nm_isP.inv_to hd
  generalize hpe:invP (nmD ks) d=p at *
  have hm:p ∈ pl ks (vx ks p):=q4y.2 ⟨hp,rfl⟩
  obtain⟨i,hi,hie⟩:=List.mem_iff_getElem.1 hm
  have hv:=hW.vx_lt (Nat.le_of_lt hp) (Nat.le_refl ks.length)
  rw[List.take_of_length_le (Nat.le_refl _)] at hv
  have:=h (vx ks p) i p (.inl hv) (by rw[List.getElem?_eq_getElem hi,hie])
  rw[hto] at this
  rw[this]
  have h2:sD ks d=nmD ks (tn ks p):=by unfold sD;rw[hpe]
  simp[nats,decL,hd,h2]
 ·rw[List.getElem?_eq_none (by omega),List.getElem?_eq_none (by simp[nats,decL];exact hd)]
theorem qas (lv:Value) (ks:List Nat) (w:World) (hs:Sl .i64 w lv (nats ks)) (hW:Wd ks) (hl:ks.length≤1000000) :
  Calls Tryz.prog 92 #[lv] w fun e w'=>∃ sv,e=.returned (mapV sv (if ks.length=0 then -1 else 0) (if ks.length=0 then 1 else 0))∧OwnI w.heap.size w' sv (nats (decL ks))∧Keeps (fun _=>False) w w':=by
 have HS:Hid (∀ W,Keeps (fun _=>False) w W→Sl .i64 W lv (nats ks)):=Lib.hid (fun W hk=>hs.keeps hk (fun _ _ h=>h))
 obtain⟨a,cap,rfl,hnc,hcm⟩:=hs.form
 rw[q02] at hnc HS ⊢
 clear hs
 by_cases h0:ks.length=0
 ·rw[if_pos h0,if_pos h0]
  have hz:ks=[]:=List.eq_nil_of_length_eq_zero h0
  subst hz
  have hfin:decL ([]:List Nat)=[]:=rfl
  have HF:=Lib.hid hfin
  clear HS h0 hfin hW
  go_enter Tryz.func92,Tryz.ntmps92
  go_wp2
  refine bodyPost_ret (v:=mapV (.slice none 0 0) (-1) 1) (by simp[results,Tryz.results92,go_sem,mapV]) rfl ?_
  refine⟨_,rfl,by rw[HF.out];exact OwnI.nil _ _,?_⟩
  repeat (first|exact Keeps.refl _ _|refine Keeps.setCell ?_ (.inr (by simp)) _|refine Keeps.alloc ?_ _)
 ·rw[if_neg h0,if_neg h0]
  obtain⟨br,hbr⟩:∃ br,br=w.heap.size:=⟨_,rfl⟩
  have k0:Keeps (fun _=>False) w (w.alloc (.cells #[.slice none 0 0,.int .i64 0,.int .i64 0] 27)):=(Keeps.refl _ w).alloc _
  have hb0:(w.alloc (.cells #[.slice none 0 0,.int .i64 0,.int .i64 0] 27)).heap[br]? = some (.cells #[.slice none 0 0,.int .i64 0,.int .i64 0] 27 (0,0)):=by rw[hbr];exact heap_alloc_new w _
  have hN:=q9n (.slice a ks.length cap) ks _ (HS.out _ k0) hW hl
  have HB:=Lib.hid (And.intro hbr (And.intro k0 hb0))
  have HW:=Lib.hid hW
  have HBRW:Hid (w.heap.size≤br):=Lib.hid (by omega)
  have hn0:(((ks.length:Nat):Int) == 0)=false:=by rw[beq_eq_false_iff_ne];omega
  clear hbr k0 hb0 hW
  go_enter Tryz.func92,Tryz.ntmps92
  go_wp2_with fail
  refine hN.mono ?_
  rintro e w1 ⟨gN,rfl,hM1⟩
  clear hN
  obtain⟨lab,hD⟩:=qia HB.out.1 HB.out.2.1 (lt_of_block HB.out.2.2) HB.out.2.2 hM1
  have hbr2:=HB.out.1
  clear hM1 HB
  go_wp2_with fail
  rw[← hbr2]
  clear hbr2
  have h5:∃ lab,DecS w br gN ks (0 :: (stk ks 0).map (vo ks)) (lsj ks 0) (.slice (some ⟨w1.heap.size+1,0,none⟩) 1 1) (.slice (some ⟨w1.heap.size,0,none⟩) 1 1) lab ((w1.alloc (.cells #[.slice none 0 0] 25)).alloc (.cells #[.int .i64 0] 3)):=⟨lab,hD⟩
  clear hD
  generalize World.alloc (World.alloc _ _) _=wM at *
  go_loopg [4,5,25] ks.length (fun m av sv i wr=>∃ j:Nat,j≤ks.length∧m=ks.length - j∧i=.int .i64 j∧∃ lab,DecS w br gN ks (0 :: (stk ks j).map (vo ks)) (lsj ks j) sv av lab wr)
  case atStart=>exact⟨0,Nat.zero_le _,rfl,rfl,h5⟩
  case round =>
   clear h5
   obtain⟨j,hj,hgk,rfl,lab,hD⟩:=hrel
   have HG:=Lib.hid hgk
   clear hgk
   by_cases hlt:j<ks.length
   ·have hkj:=List.getElem?_eq_getElem hlt
    obtain⟨ag,off,rfl,hcell⟩:=(HS.out wr hD.kee).cellAt (q0i hkj)
    have hx4:=HW.out.k4 _ (List.mem_of_getElem? hkj)
    have hst:=hD.stk.1
    have hlen:(nats (0 :: (stk ks j).map (vo ks))).length=(stk ks j).length+1:=by simp[nats]
    have hsf:=hst.form
    rw[hlen] at hsf
    obtain⟨sa,sc,rfl,hsc1,hsc2⟩:=hsf
    obtain⟨sg',rfl⟩:=q7x hst (by rw[hlen];omega)
    have htop:=(hst.cell (qe2 ks j)).1
    have hvl:=HW.out.vx_lt (Nat.le_refl j) (Nat.le_of_lt hlt)
    have hcv:cntK (ks.take j) 0≤1000000:=by have:=qb7 (ks.take j) 0;have:(ks.take j).length≤j:=List.length_take_le _ _;omega
    have hlg:=q98 hvl
    obtain⟨ga,ca,rv,hav,hrow,hrf,hro,hrl,_,hgaB,hgaw⟩:=hD.out.row hlg
    have hav2:=hav
    rw[q18] at hav2
    obtain rfl:=hav2
    obtain⟨zn,⟨zs,_,rfl,hzn⟩,hnc1,_⟩:=hD.nam.1.cell j hlt
    have hzn2:zn=(nmD ks j:Nat):=by simp[nats,hlt] at hzn;exact hzn.symm
    obtain rfl:=hzn2
    have hstep:=HW.out.lsj_step hkj
    have hrfo:=hro.form
    obtain⟨ra,rc,rfl,hrc1,hrc2⟩:=hrfo
    have hsl:(stk ks j).length≤1000000:=by
                          have:=(HW.out.stk_spec j hj).1;have h2:DD ks j≤cntK (ks.take j) 0:=by unfold DD;omega
                          omega
    have hB5:=hD.kee.size
    obtain⟨n1,hn1⟩:∃ n1,n1=(nats ((plj ks j (vx ks j)).map (nmD ks))).length:=⟨_,rfl⟩
    have hn1b:n1≤10000000000:=by
     rw[hn1]
     have h1:(plj ks j (vx ks j)).length≤j:=by have:=List.length_filter_le (fun p=>vx ks p == vx ks j) (List.range j);simpa [plj] using this
     simp[nats];omega
    have hro2:=hro
    rw[← hn1] at hro2 hrow hrc1
    have hgrow:=fun (w1:World) (v':Value) (l':List Nat)=>hD.grow (w1:=w1) (v':=v') (l':=l') (cap:=ca) hlg (by rw[q18]) hrow
    have HG5:=Lib.hid (And.intro hgrow (And.intro hstep hro))
    have HN:Hid ((nats ((plj ks j (vx ks j)).map (nmD ks))).length=n1):=Lib.hid hn1.symm
    have HD:=Lib.hid hD
    clear hn1 hro hgrow hstep hlg hst hlen hD
    obtain⟨V,hV⟩:∃ V,V=vx ks j:=⟨_,rfl⟩
    obtain⟨y,hy⟩:∃ y,y=nmD ks j:=⟨_,rfl⟩
    obtain⟨L,hL⟩:∃ L,L=(stk ks j).length:=⟨_,rfl⟩
    obtain⟨cV,hcV⟩:∃ cV,cV=cntK (ks.take j) 0:=⟨_,rfl⟩
    have HVV:=Lib.hid (And.intro hV (And.intro hy (And.intro hL hcV)))
    rw[← hV] at htop hvl hrow hrf
    rw[← hy] at hnc1
    rw[← hL] at htop hsl hsc1
    rw[← hcV] at hvl hcv
    rw[← hL,← hcV]
    clear hV hy hL hcV hrl hrc1
    generalize hxx:ks[j]=x at *
    have HX:=Lib.hid (And.intro hkj hxx)
    clear hkj hxx
    have hV0:(0:Int)≤(V:Int):=by omega
    have hV1:(V:Int)<(cV:Int)+1:=by omega
    have hj0:(0:Int)≤(j:Int):=by omega
    have hj1:(j:Int)<(ks.length:Int):=by omega
    have hA0:=fun (o:Obj)=>q0v hrow o
    have hA1:=fun (o:Obj)=>q0v hnc1 o
    go_upto_region 10 with fail
    go_cut [] from 36 to 48 (fun wz=>∃ wx,wx=wz∧∃ lab,DecS w br gN ks (0 :: (stk ks j).map (vo ks)) ((lsj ks j).set (vx ks j) ((plj ks j (vx ks j)).map (nmD ks) ++ [nmD ks j])) (.slice (some ⟨sg',0,none⟩) (L+1) sc) (.slice (some ⟨ga,0,none⟩) (cV+1) ca) lab wx)
    case first =>
     go_region_law ((refine qbj n1 rfl (.tmp 41) (.tmp 46) rfl w.heap.size (.slice ra n1 rc) (nats ((plj ks j (vx ks j)).map (nmD ks))) (y:Nat) HN wr.heap.size rfl (by simp[Act.eval]) (by simp[Act.eval]) hro2 hn1b hB5 ?_);intro g2 cap2 w3 hown3 hk3 hat hg;have hG:=HG5.out.1 w3 (.slice (some ⟨g2,0,none⟩) (n1+1) cap2) ((plj ks j (vx ks j)).map (nmD ks) ++ [nmD ks j]) (by rw[q1z,← HVV.out.2.1];exact hown3) hk3 (fun q hq=>by simp only [Value.ownBlock,Option.some.injEq] at hq;subst hq;exact hat);have d0:w3.cell? ⟨ga,V,none⟩=some (.slice ra n1 rc):=(by rw[HVV.out.1];exact hG.2.1);have f0:w3.frozen? ⟨ga,V,none⟩=false:=(by rw[HVV.out.1];exact hG.2.2);have HP:=Lib.hid hG.1;clear hG hown3 hk3 hat)
     all_goals
      have hfin:=HP.out
      rw[← HVV.out.1] at hfin
      have HF:=Lib.hid hfin
      clear hfin d0 f0
      go_wp2_with fail
      go_meet
      exact⟨_,rfl,_,by rw[← HVV.out.1,HVV.out.2.2.1,HVV.out.2.2.2];exact HF.out⟩
    case rest =>
     obtain⟨wx,rfl,lab2,hD2⟩:=hcut
     have hst2:=HG5.out.2.1
     have hgd:=getD9 HX.out.1
     clear hA0 hA1 hrow hrf hnc1 htop hcell hro2
     have hsz2:=hD2.kee.size
     have hown2:=hD2.stk.1
     have hxc:x=0∨x=1∨2≤x:=by omega
     rcases hxc with rfl|rfl|hx2
     ·rw[if_pos rfl] at hst2
      have hs1:stk ks (j+1)=stk ks j ++ [j]:=by rw[stk];rw[hgd,if_pos rfl]
      have hvo:vo ks j=cV+1:=by rw[HVV.out.2.2.2];rfl
      have hst3:(0 :: (stk ks (j+1)).map (vo ks))=(0 :: (stk ks j).map (vo ks)) ++ [cV+1]:=by rw[hs1];simp[hvo]
      have HN2:Hid ((nats (0 :: (stk ks j).map (vo ks))).length=L+1):=Lib.hid (by rw[HVV.out.2.2.1];simp[nats])
      have hLb:L+1≤10000000000:=by omega
      have HD2:=Lib.hid hD2
      have HS2:=Lib.hid (And.intro hst2 hst3)
      clear hst2 hgd hs1 hvo hst3 hD2
      obtain⟨i2,hi2,hi0,hi1,hi3⟩:=info_parts ql
      have hlsl:((lsj ks j).set (vx ks j) ((plj ks j (vx ks j)).map (nmD ks) ++ [nmD ks j])).length=cV+1:=by rw[List.length_set,q18,HVV.out.2.2.2]
      have HLS:=Lib.hid hlsl
      clear hlsl
      have HDP:Hid (∀ (g2 cap2:Nat) (w3:World),OwnI w.heap.size w3 (.slice (some ⟨g2,0,none⟩) (L+1+1) cap2) (nats (0 :: (stk ks j).map (vo ks)) ++ [(cV:Int)+1])→Keeps (fun q=>(Value.slice (some ⟨sg',0,none⟩) (L+1) sc).ownBlock=some q) wx w3→((Value.slice (some ⟨sg',0,none⟩) (L+1) sc).ownBlock=some g2∨wx.heap.size≤g2) →
        ∃ vs lab3,DecS w br gN ks (0 :: (stk ks (j+1)).map (vo ks)) ((lsj ks j).set (vx ks j) ((plj ks j (vx ks j)).map (nmD ks) ++ [nmD ks j])) (.slice (some ⟨g2,0,none⟩) (L+1+1) cap2) (.slice (some ⟨ga,0,none⟩) (cV+1) ca) lab3 w3∧w3.ownsRow w.heap.size 25 1 (.slice (some ⟨ga,0,none⟩) (cV+1) ca) (cV+1) vs∧vs.length=cV+1):=Lib.hid (fun g2 cap2 w3 h1 h2 h3=>by
       have hh:=HD2.out.deeper (st':=0 :: (stk ks (j+1)).map (vo ks)) (sv':=.slice (some ⟨g2,0,none⟩) (L+1+1) cap2) (w1:=w3) (by rw[HS2.out.2,q1z];exact h1) h2 (fun q hq=>by simp only [Value.ownBlock,Option.some.injEq] at hq;subst hq;exact h3)
       obtain⟨vs,k1,k2,_⟩:=id hh.out
       rw[HLS.out] at k1
       rw[k1] at k2
       exact⟨vs,_,hh,k2,k1⟩)
      go_wp2_with (first | (at_builtin;refine q0l (L+1) rfl (.tmp 51) (.tmp 54) rfl w.heap.size (.slice (some ⟨sg',0,none⟩) (L+1) sc) (nats (0 :: (stk ks j).map (vo ks))) ((cV:Int)+1) HN2 wx.heap.size rfl rfl rfl hown2 hLb hsz2 ?_;intro g2 cap2 w3 hown3 hk3 hat hg;obtain⟨vs,lab3,hd3,hvs,hvl⟩:=HDP.out g2 cap2 w3 hown3 hk3 hat;have HD3:=Lib.hid hd3;have HVL:=Lib.hid hvl;have hw3:=hd3.kee.size;clear hown3 hk3 hat hd3 hvl) | (at_builtin;go_loud (refine wpList_append_lies _ rfl (.tmp 56) (.tmp 57) 192 rfl w.heap.size 25 i2 (.slice none 0 0) 1 24 Tryz.underlying192 hi2 hi0 hi1 hi3 rfl (by decide) (.slice (some ⟨ga,0,none⟩) (cV+1) ca) (cV+1) vs rfl (hvs.alloc _) ⟨w3.heap.size,0,none⟩ 1 1 [.slice none 0 0] rfl rfl (cell_one_new _ _ _) (by intro u hu;simp at hu;subst hu;rfl) (by decide) (by unfold maxLen;omega) (by omega) (by simp;omega) (w3.heap.size+1) (by simp) ?_);intro g4 cap4 w4 hown4 hgrow4 hat4 hgl4))
      have hfin:=HD3.out.push (o:=.cells #[.slice none 0 0] 25) (w1:=w4) (g:=g4) (cap:=cap4) (fun vs' h1 h2=>by
       rw[HLS.out] at h1 ⊢
       rw[h1] at h2
       rw[qe1 h2 hvs]
       exact hown4) hgrow4 (hat4.imp id (fun h=>by omega))
      rw[HLS.out,← HS2.out.1] at hfin
      have HF:=Lib.hid hfin
      clear hfin hown4 hgrow4 hat4 hvs hown2
      go_roundg (ks.length - (j+1))
      case measure=>rw[HG.out];omega
      case rel=>exact⟨j+1,by omega,rfl,by go_num,_,HF.out⟩
     ·rw[if_neg (by omega),List.append_nil] at hst2
      have hs1:stk ks (j+1)=(stk ks j).dropLast:=by rw[stk];rw[hgd,if_neg (by omega),if_pos rfl]
      have hL0:0<L:=by
       have h1:=q2d HX.out.1
       simp[dd] at h1
       have h2:=HW.out.dpos (p:=j+1) (by omega)
       have h3:=(HW.out.stk_spec j (by omega)).1
       rw[← HVV.out.2.2.1] at h3
       omega
      have htk:=hown2.take rfl L (by rw[show (nats (0 :: (stk ks j).map (vo ks))).length=L+1 by rw[HVV.out.2.2.1];simp[nats]];omega)
      have htk2:(nats (0 :: (stk ks j).map (vo ks))).take L=nats (0 :: (stk ks (j+1)).map (vo ks)):=by
       rw[hs1,ql0]
       congr 1
       obtain⟨L',rfl⟩:∃ L',L=L'+1:=⟨L - 1,by omega⟩
       have hLL:=HVV.out.2.2.1
       rw[List.take_succ_cons,List.dropLast_eq_take,← List.map_take,← hLL]
       rfl
      rw[htk2] at htk
      have hfin:=hD2.higher htk rfl
      rw[← hst2] at hfin
      have HF:=Lib.hid hfin
      clear hfin htk htk2 hs1 hown2 hst2 hgd hD2
      go_wp2
      go_roundg (ks.length - (j+1))
      case measure=>rw[HG.out];omega
      case rel=>exact⟨j+1,by omega,rfl,by go_num,_,HF.out⟩
     ·rw[if_neg (by omega),List.append_nil] at hst2
      have hs1:stk ks (j+1)=stk ks j:=by rw[stk];rw[hgd,if_neg (by omega),if_neg (by omega)]
      rw[← hst2,← hs1] at hD2
      have hb0:(((x:Nat):Int) == 0)=false:=by rw[beq_eq_false_iff_ne];omega
      have hb1:(((x:Nat):Int) == 1)=false:=by rw[beq_eq_false_iff_ne];omega
      have HF:=Lib.hid hD2
      clear hD2 hs1 hown2 hst2 hgd
      go_wp2
      go_roundg (ks.length - (j+1))
      case measure=>rw[HG.out];omega
      case rel=>exact⟨j+1,by omega,rfl,by go_num,_,HF.out⟩
   ·obtain rfl:j=ks.length:=by omega
    obtain⟨gS,hgS⟩:∃ gS,gS=wr.heap.size:=⟨_,rfl⟩
    have hO:=MadeS.made' hD.kee ks.length (FP ks 0 0) (fun u i p hu=>by omega) (by omega)
    have hcl:(lsj ks ks.length).length=cntK ks 0+1:=by rw[q18,List.take_of_length_le (Nat.le_refl _)]
    obtain⟨ga,ca,rfl,hca1,hca2⟩:=hD.out.form (by omega)
    rw[hcl] at hca1
    have hcn:cntK ks 0≤1000000:=Nat.le_trans (qb7 ks 0) hl
    have hrd:∀ v,v<cntK ks 0+1→∃ rv,wr.cell? ⟨ga,v,none⟩=some rv∧OwnI w.heap.size wr rv (nats ((pl ks v).map (nmD ks))):=by
     intro v hv
     have hlg:=q98 (ks:=ks) (j:=ks.length) (v:=v) (by rw[List.take_of_length_le (Nat.le_refl _)];exact hv)
     obtain⟨g,cap,rv,hav,h1,_,h2,_⟩:=hD.out.row hlg
     simp only [Value.slice.injEq,Option.some.injEq,Addr.mk.injEq,and_true] at hav
     obtain⟨rfl,-⟩:=hav
     exact⟨rv,h1,h2⟩
    have hres:=hD.res.1
    have hbrl:=lt_of_block hres
    have hD2:=hD.kee
    rw[← hgS] at hO
    have hgS2:gS=wr.heap.size:=hgS
    have HGS:=Lib.hid hgS
    rw[hcl]
    clear hgS hcl hlt hj HG hD
    obtain⟨ii,hi,hz0,hz1,hz2⟩:=info_parts q1d
    have hmk:=fun w=>run_make (P:=Tryz.prog) w 25 3 ii _ Tryz.underlying25 hi hz0 .i64 .i64 (ks.length:Int) (ks.length:Int) (by omega) (Int.le_refl _) (by rw[hz2];omega) (by omega)
    simp only [hz1,Int.toNat_natCast,Nat.mul_one] at hmk
    clear hi hz0 hz1 hz2
    have hS5:∃ w5:World,w5=(wr.alloc (.cells (madeCells #[.int .i64 0] ks.length) 3)).alloc (.cells #[.slice (some ⟨gS,0,none⟩) ks.length ks.length,.int .i64 0,.int .i64 0] 27):=⟨_,rfl⟩
    obtain⟨w5,hw5⟩:=hS5
    have hk5:Keeps (fun _=>False) wr w5:=by rw[hw5];exact ((Keeps.refl _ wr).alloc _).alloc _
    have hM5:MadeS w gS ks.length (FP ks 0 0) w5:=by rw[hw5];exact hO.keeps ((Keeps.refl _ _).alloc _)
    have hb5:w5.heap[gS+1]? = some (.cells #[.slice (some ⟨gS,0,none⟩) ks.length ks.length,.int .i64 0,.int .i64 0] 27 (0,0)):=by
     rw[hw5,hgS2]
     have:=heap_alloc_new (wr.alloc (.cells (madeCells #[.int .i64 0] ks.length) 3)) (.cells #[.slice (some ⟨wr.heap.size,0,none⟩) ks.length ks.length,.int .i64 0,.int .i64 0] 27)
     simpa using this
    have HRD:Hid (∀ W,Keeps (fun q=>q=gS) w5 W→W.heap[gS+1]? = some (.cells #[.slice (some ⟨gS,0,none⟩) ks.length ks.length,.int .i64 0,.int .i64 0] 27 (0,0))∧W.heap[br]? = some (.cells #[.slice none 0 0,.int .i64 0,.int .i64 0] 27 (0,0)) ∧
      ∀ v,v<cntK ks 0+1→∃ rv,W.cell? ⟨ga,v,none⟩=some rv∧Sl .i64 W rv (nats ((pl ks v).map (nmD ks)))):=Lib.hid (fun W hk=>by
     have hk6:Keeps (fun q=>q=gS) wr W:=(hk5.mono (fun _ _ h=>h.elim)).trans hk (fun _ _ h=>h)
     refine⟨hk.at hb5 (by omega),hk6.at hres (by omega),fun v hv=>?_⟩
     obtain⟨rv,h1,h2⟩:=hrd v hv
     refine⟨rv,?_,(h2.keeps hk6 (fun q hq e=>by have:=(h2.lt q hq).2;omega)).sl⟩
     have hgl:ga<wr.heap.size:=World.block_lt_of_cell? _ _ h1
     rw[World.cell?_of_block (w:=wr) (hk6.block ga hgl (fun e=>by omega))]
     exact h1)
    have HW5:=Lib.hid (And.intro hw5 (And.intro hD2 hk5))
    have hkk:=Keeps.refl (fun q=>q=gS) w5
    clear hO hrd hres hD2 hw5 hk5 hb5 hgS2
    go_wp2_with fail
    rw[← HGS.out,← HW5.out.1]
    clear hbrl
    obtain⟨cV,hcV⟩:∃ cV,cV=cntK ks 0:=⟨_,rfl⟩
    rw[← hcV] at hcn hca1 HRD
    rw[← hcV]
    have HCV:=Lib.hid hcV
    clear hcV
    go_loopg [73] (cV+1) (fun m i wr=>∃ v:Nat,v≤cV+1∧m=cV+1 - v∧i=.int .i64 v∧MadeS w gS ks.length (FP ks v 0) wr∧Keeps (fun q=>q=gS) w5 wr)
    case atStart=>exact⟨0,Nat.zero_le _,rfl,rfl,hM5,hkk⟩
    case round =>
     clear hM5 hkk
     obtain⟨v,hv,hgk,rfl,hM,hkg⟩:=hrel
     have HG:=Lib.hid hgk
     clear hgk
     obtain⟨hbm,hbr,hrows⟩:=HRD.out _ hkg
     by_cases hlt:v<cV+1
     ·obtain⟨rv,hrc,hsl⟩:=hrows v hlt
      obtain⟨ra,rc,rfl,hr1,hr2⟩:=hsl.form
      have hpl:(nats ((pl ks v).map (nmD ks))).length=(pl ks v).length:=by simp[nats]
      rw[hpl] at hrc hr1 hsl
      have hplb:(pl ks v).length≤1000000:=by
       have:=List.length_filter_le (fun p=>vx ks p == v) (List.range ks.length)
       simp[pl,plj] at this ⊢;omega
      have HC:Hid (∀ W,Keeps (fun q=>q=gS) w5 W→Sl .i64 W (.slice ra (pl ks v).length rc) (nats ((pl ks v).map (nmD ks)))∧W.heap[gS+1]? = some (.cells #[.slice (some ⟨gS,0,none⟩) ks.length ks.length,.int .i64 0,.int .i64 0] 27 (0,0))):=Lib.hid (fun W hk=>by
       obtain⟨h1,_,h3⟩:=HRD.out W hk
       obtain⟨rv',h4,h5⟩:=h3 v hlt
       refine⟨?_,h1⟩
       obtain⟨_,_,h6⟩:=HRD.out wr hkg
       obtain⟨rv2,h7,h8⟩:=h6 v hlt
       have hsame:rv'=.slice ra (pl ks v).length rc:=by
        obtain⟨rvw,h9,_⟩:=(HRD.out w5 (Keeps.refl _ _)).2.2 v hlt
        have hgl:ga<w5.heap.size:=World.block_lt_of_cell? _ _ h9
        have hgn:ga≠gS:=fun e=>by
         obtain⟨zs,_,_,ho,_⟩:=hM
         subst e
         have hz:=h7
         obtain⟨z,_,hcz,_⟩:=(show MadeS w ga ks.length (FP ks v 0) wr from ⟨zs,by assumption,by assumption,ho,by assumption⟩).cell 0 (by omega)
         obtain⟨_,hx,_⟩:=h6 0 (by omega)
         rw[hcz] at hx
         obtain⟨rr,hrr,hss⟩:=h6 0 (by omega)
         rw[hcz] at hrr
         simp only [Option.some.injEq] at hrr
         subst hrr
         obtain⟨_,_,hbad,_⟩:=hss
         cases hbad
        have e1:W.cell? ⟨ga,v,none⟩=w5.cell? ⟨ga,v,none⟩:=World.cell?_of_block (w:=w5) (hk.block ga hgl hgn)
        have e2:wr.cell? ⟨ga,v,none⟩=w5.cell? ⟨ga,v,none⟩:=World.cell?_of_block (w:=w5) (hkg.block ga hgl hgn)
        rw[e1] at h4
        rw[e2] at hrc
        rw[hrc] at h4
        simp only [Option.some.injEq] at h4
        exact h4.symm
       rw[hsame] at h5
       exact h5)
      have h0M:=And.intro hM hkg
      clear hM hkg hbm hbr hrows hsl hpl
      go_wp2_with fail
      go_loopg [79] (pl ks v).length (fun m i wr=>∃ k:Nat,k≤(pl ks v).length∧m=(pl ks v).length - k∧i=.int .i64 k∧MadeS w gS ks.length (FP ks v k) wr∧Keeps (fun q=>q=gS) w5 wr)
      case atStart=>exact⟨0,Nat.zero_le _,rfl,rfl,h0M⟩
      case round =>
       clear h0M
       obtain⟨k,hk,hgk,rfl,hM,hkg⟩:=hrel
       have HG3:=Lib.hid hgk
       clear hgk
       obtain⟨hsl,hbm⟩:=HC.out _ hkg
       have hmc:=World.cell_of_heap hbm 0
       by_cases hkl:k<(pl ks v).length
       ·have hpk:=List.getElem?_eq_getElem hkl
        obtain⟨hpn,hpv⟩:=q4y.1 (List.mem_of_getElem? hpk)
        obtain⟨hn1,hn2⟩:=HW.out.pl_next hpk
        have hmap:∀ i q,(pl ks v)[i]? = some q→(nats ((pl ks v).map (nmD ks)))[i]? = some ((nmD ks q:Nat):Int):=fun i q h=>q0i (by rw[List.getElem?_map,h];rfl)
        obtain⟨rg,ro,rfl,hc1⟩:=hsl.cellAt (hmap _ _ hpk)
        have hp0:=List.getElem?_eq_getElem (l:=pl ks v) (i:=0) (by omega)
        have hc0:=hsl.cellOf (hmap _ _ hp0)
        rw[Nat.add_zero] at hc0
        have hnl:=HW.out.nm_lt hpn
        obtain⟨z,_,hcz,hfz⟩:=hM.cell _ hnl
        have hN:=hM.set (Q:=FP ks v (k+1)) (nmD ks (pl ks v)[k]) ((nmD ks (tn ks (pl ks v)[k]):Nat):Int) (fun zs hzl h=>h.step HW.out hzl hpk)
        have hkN:=hkg.setCell (p:=⟨gS,nmD ks (pl ks v)[k],none⟩) (.inl rfl) (.int .i64 ((nmD ks (tn ks (pl ks v)[k]):Nat):Int))
        have HNN:=Lib.hid (And.intro hN hkN)
        by_cases hk1:k+1<(pl ks v).length
        ·have hc2:=hsl.cellOf (hmap _ _ (hn1 hk1))
         clear hN hkN hM hkg hsl hbm hn1 hn2 hmap hpk hp0 hpn hpv
         generalize nmD ks (tn ks (pl ks v)[k])=y at *
         generalize nmD ks (pl ks v)[k]=d at *
         generalize nmD ks (pl ks v)[0]=d0 at *
         have hkI:(k:Int)+1<((pl ks v).length:Int):=by omega
         go_wp2
         go_roundg ((pl ks v).length - (k+1))
         case measure=>rw[HG3.out];omega
         case rel=>exact⟨k+1,by omega,rfl,by go_num,HNN.out⟩
        ·have h0q:=hn2 hk1
         rw[hp0] at h0q
         simp only [Option.some.injEq] at h0q
         rw[h0q] at hc0
         have hkb:decide ((k:Int)+1<((pl ks v).length:Int))=false:=decide_eq_false (by omega)
         clear hN hkN hM hkg hsl hbm hn1 hn2 hmap hpk hp0 hpn hpv h0q
         generalize nmD ks (tn ks (pl ks v)[k])=y at *
         generalize nmD ks (pl ks v)[k]=d at *
         go_wp2
         go_roundg ((pl ks v).length - (k+1))
         case measure=>rw[HG3.out];omega
         case rel=>exact⟨k+1,by omega,rfl,by go_num,HNN.out⟩
       ·obtain rfl:k=(pl ks v).length:=by omega
        have HF:=Lib.hid (And.intro (hM.mono (fun zs _ h=>h.next)) hkg)
        clear hM hkg hsl hbm hmc
        go_wp2
        go_roundg (cV+1 - (v+1))
        case measure=>rw[HG.out];omega
        case rel=>exact⟨v+1,by omega,rfl,by go_num,HF.out⟩
     ·obtain rfl:v=cV+1:=by omega
      have hfin:=hM.mono (Q:=fun zs=>zs=nats (decL ks)) (fun zs hzl h=>FP.all HW.out hzl (by rw[← HCV.out];exact h))
      obtain⟨zs,hzl,rfl,hown,hkw⟩:=hfin
      have hb0:=World.cell_of_heap hbm 0
      have hb1:=World.cell_of_heap hbm 1
      have hb2:=World.cell_of_heap hbm 2
      have hr0:=World.cell_of_heap hbr 0
      have hr1:=World.cell_of_heap hbr 1
      have hr2:=World.cell_of_heap hbr 2
      have hrf:=World.free_of_heap hbr
      have HF:=Lib.hid (And.intro hown (And.intro hkw (And.intro hbr hM.old)))
      clear hM hkg hrows hown hkw hbm
      go_wp2
      obtain⟨hown,hkw,hbr,hold⟩:=HF.out
      have hbr9:=q00 (q00 (q00 hbr 0 (.slice (some ⟨gS,0,none⟩) ks.length ks.length)) 1 (.int .i64 0)) 2 (.int .i64 0)
      have hk9:Keeps (fun q=>q=br) wr (((wr.setCell ⟨br,0,none⟩ (.slice (some ⟨gS,0,none⟩) ks.length ks.length)).setCell ⟨br,1,none⟩ (.int .i64 0)).setCell ⟨br,2,none⟩ (.int .i64 0)) :=
       (((Keeps.refl (fun q=>q=br) wr).setCell (p:=⟨br,0,none⟩) (.inl rfl) _).setCell (p:=⟨br,1,none⟩) (.inl rfl) _).setCell (p:=⟨br,2,none⟩) (.inl rfl) _
      have hown9:=hown.keeps hk9 (fun q hq e=>by
       simp only [Value.ownBlock,Option.some.injEq] at hq
       have hx:=hbr
       subst hq
       subst e
       obtain⟨z,hz⟩:=hown.has 0 (by rw[hzl];omega)
       rw[World.cell_of_heap hx 0] at hz
       simp at hz)
      have hkw9:=hkw.trans hk9 (fun x hx e=>by have:=HBRW.out;omega)
      have c0:=World.cell_of_heap hbr9 0
      have c1:=World.cell_of_heap hbr9 1
      have c2:=World.cell_of_heap hbr9 2
      have HR9:=Lib.hid (And.intro hown9 hkw9)
      clear hown hkw hbr hold hbr9 hk9 hown9 hkw9 hb0 hb1 hb2 hr0 hr1 hr2 hrf
      generalize World.setCell (World.setCell (World.setCell _ _ _) _ _) _ _=w9 at *
      refine bodyPost_ret (v:=mapV (.slice (some ⟨gS,0,none⟩) ks.length ks.length) 0 0) ?_ rfl ⟨_,rfl,HR9.out.1,HR9.out.2⟩
      simp at c0 c1 c2
      simp[results,Tryz.results92,go_sem,mapV,c0,c1,c2]
end
end Go.Proofs.YtcfdpogegngplaaGreat
