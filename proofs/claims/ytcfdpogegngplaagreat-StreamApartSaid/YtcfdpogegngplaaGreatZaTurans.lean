import Derived.Test.YtcfdpogegngplaaGreatZaWalks
import Derived.Test.YtcfdpogegngplaaGreatZaRight
set_option maxRecDepth 100000
set_option maxHeartbeats 4000000
namespace Go.Proofs.YtcfdpogegngplaaGreat
section
open Go.RowKit
structure NS (w:World) (bm bo:Nat) (bi bp:Nat→Nat) (ks:List Nat) (F:Nat→Prop) (g bx q:Nat) (P:List Int→Prop) (wr:World):Prop where
 mx:∃ F',MixP wr bm bo bi bp ks q F'∧(∀ x,F' x→F x∨(w.heap.size≤x∧x<wr.heap.size))∧¬ F' g∧¬ F' bx
 sl:∃ zs,zs.length=ks.length∧P zs∧OwnI w.heap.size wr (.slice (some ⟨g,0,none⟩) ks.length ks.length) zs
 bxh:wr.heap[bx]? = some (.cells #[.pointer (some ⟨bm,0,none⟩)] 298 (0,0))
 gx:g≠bx∧w.heap.size≤g∧w.heap.size≤bx
 kee:Keeps F w wr
 old:∀ x,F x→x<w.heap.size
section
variable {w:World} {bm bo:Nat} {bi bp:Nat→Nat} {ks:List Nat} {F:Nat→Prop} {g bx q:Nat} {P:List Int→Prop} {wr:World} (h:NS w bm bo bi bp ks F g bx q P wr)
include h
theorem NS.lts:g<wr.heap.size∧bx<wr.heap.size:=by
 obtain⟨zs,_,_,h3⟩:=h.sl
 exact⟨(h3.lt g rfl).2,lt_of_block h.bxh⟩
theorem NS.cx:wr.cell? ⟨bx,0,none⟩=some (.pointer (some ⟨bm,0,none⟩)):=World.cell_of_heap h.bxh 0
theorem NS.ask:∃ F',MixP wr bm bo bi bp ks q F'∧(∀ x,F' x→x<wr.heap.size)∧∀ q' w2,MixQ wr bm bo bi bp ks q' F' w2→NS w bm bo bi bp ks F g bx q' P w2:=by
 obtain⟨F',h1,h2,h3,h4⟩:=h.mx
 obtain⟨l1,l2⟩:=h.lts
 obtain⟨g1,g2,g3⟩:=h.gx
 obtain⟨zs,z1,z2,z3⟩:=h.sl
 refine⟨F',h1,h1.old,fun q' w2 hq=>⟨⟨grow F' wr w2,hq.1,fun x hx=>?_,fun hx=>?_,fun hx=>?_⟩,⟨zs,z1,z2,z3.keeps hq.2 (fun k hk e=>by simp only [Value.ownBlock,Option.some.injEq] at hk;subst hk;exact h3 e)⟩,hq.2.at h.bxh h4,h.gx,h.kee.trans hq.2 (fun x hx e=>?_),h.old⟩⟩
 ·have hs:=h.kee.size
  have hs2:=hq.2.size
  rcases hx with hx|hx
  ·rcases h2 x hx with e|e
   ·exact .inl e
   ·exact .inr ⟨e.1,by omega⟩
  ·exact .inr ⟨by omega,hx.2⟩
 ·rcases hx with hx|hx
  ·exact h3 hx
  ·omega
 ·rcases hx with hx|hx
  ·exact h4 hx
  ·omega
 ·rcases h2 x e with e|e
  ·exact e
  ·omega
theorem NS.set {Q:List Int→Prop} (i:Nat) (z:Int) (hQ:∀ zs,zs.length=ks.length→P zs→Q (zs.set i z)):NS w bm bo bi bp ks F g bx q Q (wr.setCell ⟨g,i,none⟩ (.int .i64 z)):=by
 obtain⟨F',h1,h2,h3,h4⟩:=h.mx
 obtain⟨g1,g2,g3⟩:=h.gx
 obtain⟨zs,z1,z2,z3⟩:=h.sl
 have kk:=(Keeps.refl (fun x=>x=g) wr).setCell (p:=⟨g,i,none⟩) (.inl rfl) (.int .i64 z)
 have hs2:=kk.size
 refine⟨⟨F',h1.keeps kk (fun x hx e=>h3 (e ▸ hx)),fun x hx=>?_,h3,h4⟩,⟨zs.set i z,by simpa using z1,hQ zs z1 z2,z3.set i z⟩,kk.at h.bxh (fun e=>g1 e.symm),h.gx,h.kee.trans kk (fun x hx e=>by omega),h.old⟩
 rcases h2 x hx with e|e
 ·exact .inl e
 ·exact .inr ⟨e.1,by omega⟩
theorem NS.cell {i:Nat} (hi:i<ks.length):∃ z:Int,(∃ zs,zs.length=ks.length∧P zs∧zs[i]? = some z)∧wr.cell? ⟨g,i,none⟩=some (.int .i64 z)∧wr.frozen? ⟨g,i,none⟩=false:=by
 obtain⟨zs,h1,h2,h3⟩:=h.sl
 have hz:=List.getElem?_eq_getElem (l:=zs) (i:=i) (by omega)
 exact⟨_,⟨zs,h1,h2,hz⟩,h3.cell hz⟩
theorem NS.mono {Q:List Int→Prop} {q':Nat} (hq:q≤q') (hQ:∀ zs,zs.length=ks.length→P zs→Q zs):NS w bm bo bi bp ks F g bx q' Q wr:=by
 obtain⟨F',h1,h2⟩:=h.mx
 obtain⟨zs,z1,z2,z3⟩:=h.sl
 exact⟨⟨F',h1.more hq,h2⟩,⟨zs,z1,hQ zs z1 z2,z3⟩,h.bxh,h.gx,h.kee,h.old⟩
theorem NS.drewN (n:Nat):NS w bm bo bi bp ks F g bx q P (wr.drewN n):=by
 obtain⟨F',h1,h2,h3,h4⟩:=h.mx
 obtain⟨zs,z1,z2,z3⟩:=h.sl
 have kk:=(Keeps.refl (fun _=>False) wr).drewN n
 exact⟨⟨F',h1.keeps kk (fun _ _ h=>h),h2,h3,h4⟩,⟨zs,z1,z2,z3.keeps kk (fun _ _ h=>h)⟩,kk.at h.bxh (fun h=>h),h.gx,h.kee.drewN n,h.old⟩
end
def qka (w:World) (bm bo:Nat) (bi bp:Nat→Nat) (ks:List Nat) (q:Nat) (F:Nat→Prop) (g:Nat) (w':World):Prop :=
 ∃ F',MixP w' bm bo bi bp ks q F'∧(∀ x,F' x→F x∨(w.heap.size≤x∧x<w'.heap.size))∧¬ F' g∧OwnI w.heap.size w' (.slice (some ⟨g,0,none⟩) ks.length ks.length) (nats ((List.range ks.length).map (nmD ks)))∧Keeps F w w'
theorem qkb {w:World} {bm bo:Nat} {bi bp:Nat→Nat} {ks:List Nat} {q:Nat} {F:Nat→Prop} (h:MixP w bm bo bi bp ks q F) (hw:Wd ks) (hq:q≤50000000) (hl:ks.length≤131072) :
  Calls Tryz.prog 222 #[.agg #[.pointer (some ⟨bm,0,none⟩)]] w fun e w'=>∃ g,e=.returned (.slice (some ⟨g,0,none⟩) ks.length ks.length)∧qka w bm bo bi bp ks (q+4 * ks.length) F g w':=by
 have kb:=(Keeps.refl (fun _=>False) w).alloc (.cells #[.pointer (some ⟨bm,0,none⟩)] 298)
 have hL:=q2n (h.keeps kb (fun _ _ h=>h))
 have hcb:(w.alloc (.cells #[.pointer (some ⟨bm,0,none⟩)] 298)).cell? ⟨w.heap.size,0,none⟩=some (.pointer (some ⟨bm,0,none⟩)):=World.cell_of_heap (heap_alloc_new w _) 0
 obtain⟨b1,b2,b3,b4⟩:=qkc w (.cells #[.pointer (some ⟨bm,0,none⟩)] 298) (.cells (madeCells #[.int .i64 0] ks.length) 3)
 have h0:NS w bm bo bi bp ks F (w.heap.size+1) w.heap.size q (NmS ks 0) ((w.alloc (.cells #[.pointer (some ⟨bm,0,none⟩)] 298)).alloc (.cells (madeCells #[.int .i64 0] ks.length) 3)):=by
  refine⟨⟨F,h.keeps b3 (fun _ _ h=>h),fun x hx=>.inl hx,fun hx=>by have:=h.old _ hx;omega,fun hx=>by have:=h.old _ hx;omega⟩,⟨List.replicate ks.length 0,by simp,fun i k hi=>by omega,⟨by simp[ints],.inr ⟨_,ks.length,_,by simp,by omega,b2,by simp,by unfold maxLen;omega,by rw[size_madeCells];simp,?_⟩⟩⟩,b1,⟨by omega,by omega,by omega⟩,b3.mono (fun _ _ h=>h.elim),h.old⟩
  rw[toList_madeCells_one];simp[ints]
 obtain⟨i,hi,hz0,hz1,hz2⟩:=info_parts q1d
 have hmk:=fun w=>run_make (P:=Tryz.prog) w 25 3 i _ Tryz.underlying25 hi hz0 .i64 .i64 (ks.length:Int) (ks.length:Int) (by omega) (Int.le_refl _) (by rw[hz2];omega) (by omega)
 simp only [hz1,Int.toNat_natCast,Nat.mul_one] at hmk
 have HW:=Lib.hid hw
 clear h hw hi hz0 hz1 hz2 kb b1 b2 b3 b4
 go_enter Tryz.func222,Tryz.ntmps222
 go_wp2_with (go_at_call 221;refine hL.mono ?_;rintro e w' ⟨rfl,rfl⟩)
 clear hmk hL hcb
 generalize hwM:World.alloc (w.alloc _) _=wM at *
 clear hwM
 obtain⟨g,hg⟩:∃ g,g=w.heap.size+1:=⟨_,rfl⟩
 obtain⟨bx,hbx⟩:∃ bx,bx=w.heap.size:=⟨_,rfl⟩
 rw[← hg] at h0 ⊢
 rw[← hbx]
 have h0':NS w bm bo bi bp ks F g bx q (NmS ks 0) wM:=by rw[hbx];exact h0
 clear h0 hg hbx
 go_loopg [4,14] ks.length (fun m c i wr=>∃ j:Nat,j≤ks.length∧m=ks.length - j∧i=.int .i64 j∧c=.int .i64 (2 * oc ks j:Nat)∧NS w bm bo bi bp ks F g bx (q+4 * j) (NmS ks j) wr)
 case atStart=>exact⟨0,Nat.zero_le _,rfl,rfl,by rw[show oc ks 0=0 by simp[oc]];rfl,h0'⟩
 case round =>
  clear h0'
  obtain⟨j,hj,hgk,rfl,rfl,hN⟩:=hrel
  have HG:=Lib.hid hgk
  clear hgk
  by_cases hlt:j<ks.length
  ·have hx:=List.getElem?_eq_getElem (l:=ks) (i:=j) hlt
   obtain⟨k,hk⟩:∃ k,k=ks[j]:=⟨_,rfl⟩
   rw[← hk] at hx
   have hk4:=HW.out.k4 k (List.mem_of_getElem? hx)
   obtain⟨F',hM,hold,hask⟩:=hN.ask
   have hA:=q4l hM j k hx
   have hcx:=hN.cx
   have hocs:=q4e hx
   have hocl:oc ks j≤ks.length:=by unfold oc;exact Nat.le_trans (List.length_filter_le _ _) (by rw[List.length_take];omega)
   obtain⟨r,hr⟩:∃ r,r=k % 2:=⟨_,rfl⟩
   have hr2:r<2:=by omega
   have r1:(k:Int).tmod 2=(r:Int):=by rw[hr,Int.tmod_eq_emod_of_nonneg (by omega)];simp
   have r2:(k:Int) % 2=(r:Int):=by rw[hr];simp
   by_cases h0:k % 2=0
   ·have hr0:((r:Int) == 0)=true:=by rw[beq_iff_eq];omega
    rw[if_pos h0] at hocs
    have hm:=HW.out.mate hlt
    have hmM:=fun nq=>q4m (wh:=wr) hold (hM.after.drewN nq) j (mp ks j) (by omega) hm
    have hml:=HW.out.mp_lt hlt
    have HH:=Lib.hid (And.intro hask (And.intro hx (And.intro h0 hocs)))
    obtain⟨y,hy⟩:∃ y,y=mp ks j:=⟨_,rfl⟩
    rw[← hy] at hmM hml
    have HY:=Lib.hid hy
    obtain⟨c,hc⟩:∃ c,c=2 * oc ks j:=⟨_,rfl⟩
    have hcl:c≤300000:=by omega
    rw[← hc]
    have HC:=Lib.hid hc
    clear hocl
    have hcx2:∀ nq,(wr.drewN nq).cell? ⟨bx,0,none⟩=some (.pointer (some ⟨bm,0,none⟩)):=fun nq=>hcx
    have HCX:=Lib.hid hcx2
    clear hN hM hask hk hx h0 hocs hm hy hc hr hcx2
    go_wp2_with fail
    refine hA.mono ?_
    rintro en w2 ⟨rfl,nq,rfl⟩
    have hcx3:=HCX.out nq
    clear hA
    go_wp2_with fail
    refine (hmM nq).mono ?_
    rintro en w3 ⟨rfl,hq3⟩
    have hN3:=HH.out.1 _ _ hq3
    clear hmM hq3 hcx3
    obtain⟨za,_,hca,hfa⟩:=hN3.cell hlt
    have hN4:=hN3.set (Q:=fun zs=>∃ z0,zs=z0.set j (c:Int)∧z0.length=ks.length∧NmS ks j z0) j (c:Int) (fun zs hzl hP=>⟨zs,rfl,hzl,hP⟩)
    obtain⟨zb,_,hcb,hfb⟩:=hN4.cell hml
    have hN5:=hN4.set (Q:=NmS ks (j+1)) y ((c:Int)+1) (fun zs hzl hP=>by
     obtain⟨z0,rfl,hl0,hP0⟩:=hP
     rw[HY.out,HC.out,show ((2 * oc ks j:Nat):Int)+1=((2 * oc ks j+1:Nat):Int) by omega]
     exact hP0.step HW.out hl0 HH.out.2.1 HH.out.2.2.1)
    have HN5:=Lib.hid (hN5.mono (q':=q+4 * (j+1)) (by omega) (fun _ _ h=>h))
    clear hN3 hN4 hN5
    go_wp2
    go_roundg (ks.length - (j+1))
    case measure=>rw[HG.out];omega
    case rel=>exact⟨j+1,by omega,rfl,by go_num,by rw[HH.out.2.2.2,show 2 * (oc ks j+1)=c+2 by rw[HC.out];omega];go_num,HN5.out⟩
   ·have hr0:((r:Int) == 0)=false:=by rw[beq_eq_false_iff_ne];omega
    rw[if_neg h0] at hocs
    have HN5:=fun nq=>(hN.drewN nq).mono (q':=q+4 * (j+1)) (Q:=NmS ks (j+1)) (by omega) (fun _ _ hP=>hP.skip hx (by omega))
    have HF:=Lib.hid (And.intro HN5 hocs)
    obtain⟨c,hc⟩:∃ c,c=oc ks j:=⟨_,rfl⟩
    rw[← hc] at hocl ⊢
    have HC:=Lib.hid hc
    clear hN hM hask hk hx h0 hocs HN5 hc hr
    go_wp2_with fail
    refine hA.mono ?_
    rintro en w2 ⟨rfl,nq,rfl⟩
    clear hA
    go_wp2
    go_roundg (ks.length - (j+1))
    case measure=>rw[HG.out];omega
    case rel=>exact⟨j+1,by omega,rfl,by go_num,by rw[HF.out.2,← HC.out];rfl,HF.out.1 nq⟩
  ·obtain rfl:j=ks.length:=by omega
   obtain⟨F',h1,h2,h3,h4⟩:=hN.mx
   obtain⟨zs,z1,z2,z3⟩:=hN.sl
   have hz:=z2.all HW.out z1
   subst hz
   have HF:=Lib.hid (show qka w bm bo bi bp ks (q+4 * ks.length) F g wr from ⟨F',h1,h2,h3,z3,hN.kee⟩)
   obtain⟨c,hc⟩:∃ c,c=oc ks ks.length:=⟨_,rfl⟩
   rw[← hc]
   clear hN h1 h2 h3 h4 z1 z2 z3 hc
   go_wp2
   go_ret
   exact⟨_,rfl,HF.out⟩
theorem MixQ.unbox {w wb w2:World} {bm bo:Nat} {bi bp:Nat→Nat} {ks:List Nat} {q:Nat} {F:Nat→Prop} (h:MixQ wb bm bo bi bp ks q F w2) (k:Keeps (fun _=>False) w wb) (hold:∀ x,F x→x<w.heap.size):MixQ w bm bo bi bp ks q F w2:=by
 have h1:=k.size
 have h2:=h.2.size
 refine⟨h.1.mono (fun x hx=>?_) (q0x hold (by omega)),(k.mono (fun _ _ h=>h.elim):Keeps F w wb).trans h.2 (fun _ _ e=>e)⟩
 rcases hx with e|e
 ·exact .inl e
 ·exact .inr ⟨by omega,e.2⟩
theorem qm {w:World} {bm bo:Nat} {bi bp:Nat→Nat} {ks:List Nat} {q:Nat} {F:Nat→Prop} (h:MixP w bm bo bi bp ks q F) (hw:Wd ks) (hq:q≤50000000) (hl:ks.length≤131072) {i:Nat} (hi:i<ks.length) :
  Calls Tryz.prog 223 #[.agg #[.pointer (some ⟨bm,0,none⟩)],.int .i64 i] w fun e w'=>e=.returned (.int .i64 (tn ks i:Nat))∧MixQ w bm bo bi bp ks (q+4) F w':=by
 have hold:=h.old
 have kb:=(Keeps.refl (fun _=>False) w).alloc (.cells #[.pointer (some ⟨bm,0,none⟩)] 298)
 have hcb:=heap_alloc_new w (.cells #[.pointer (some ⟨bm,0,none⟩)] 298)
 have hM0:=(h.keeps kb (fun _ _ h=>h)).after
 have hx:=List.getElem?_eq_getElem (l:=ks) (i:=i) hi
 obtain⟨k,hk⟩:∃ k,k=ks[i]:=⟨_,rfl⟩
 rw[← hk] at hx
 have hk4:=hw.k4 k (List.mem_of_getElem? hx)
 have HU:=Lib.hid (show ∀ q' w2,MixQ (w.alloc (.cells #[.pointer (some ⟨bm,0,none⟩)] 298)) bm bo bi bp ks q' F w2→MixQ w bm bo bi bp ks q' F w2 from fun q' w2 hh=>hh.unbox kb hold)
 have HC:Hid (∀ q' w2,MixQ (w.alloc (.cells #[.pointer (some ⟨bm,0,none⟩)] 298)) bm bo bi bp ks q' F w2→w2.cell? ⟨w.heap.size,0,none⟩=some (.pointer (some ⟨bm,0,none⟩))):=Lib.hid (fun q' w2 hh=>World.cell_of_heap (hh.2.at hcb (fun e=>by have:=hold _ e;omega)) 0)
 have hc0:=HC.out _ _ hM0
 have hA:=q4l hM0.1 i k hx
 have holdb:∀ x,F x→x<(w.alloc (.cells #[.pointer (some ⟨bm,0,none⟩)] 298)).heap.size:=fun x hx=>by have:=hold x hx;simp;omega
 have htn:tn ks i=((if k<2 then mp ks i else i)+1) % ks.length:=by unfold tn;rw[q04 hx]
 have htl:=hw.tn_isP.lt i hi
 have hn0:¬ ks.length=0:=by omega
 have hn0':¬ (ks.length:Int)=0:=by omega
 obtain⟨y,hy⟩:∃ y,y=if k<2 then mp ks i else i:=⟨_,rfl⟩
 rw[← hy] at htn
 have hyl:y<ks.length:=by rw[hy];split;exact hw.mp_lt hi;exact hi
 obtain⟨t,ht⟩:∃ t,t=tn ks i:=⟨_,rfl⟩
 rw[← ht] at htn htl ⊢
 have m1:((y:Int)+1).tmod (ks.length:Int)=(t:Int):=by rw[htn,Int.tmod_eq_emod_of_nonneg (by omega)];simp
 have m2:((y:Int)+1) % (ks.length:Int)=(t:Int):=by rw[htn];simp
 have HH:=Lib.hid (And.intro hM0 (And.intro holdb (hw.mate hi)))
 clear h hw hM0 hcb hx hk ht htn hold holdb kb
 have hL:=fun q' w2 (hh:MixQ (w.alloc (.cells #[.pointer (some ⟨bm,0,none⟩)] 298)) bm bo bi bp ks q' F w2)=>q2n hh.1
 have HL:=Lib.hid hL
 clear hL
 generalize hN:ks.length=N at *
 have HN:=Lib.hid hN
 clear hN
 go_enter Tryz.func223,Tryz.ntmps223
 go_wp2_with fail
 generalize w.alloc (.cells #[.pointer (some ⟨bm,0,none⟩)] 298)=wb at *
 refine hA.mono ?_
 rintro en w1 ⟨rfl,nq,rfl⟩
 have h1:=HH.out.1.drewN nq
 have hc1:=HC.out _ _ h1
 clear hA hc0
 by_cases h2:k<2
 ·rw[if_pos h2] at hy
  have hmM:=q4m HH.out.2.1 h1 i (mp ks i) (by omega) HH.out.2.2
  rw[← hy] at hmM
  clear h1 hy
  have hk01:k=0∨k=1:=by omega
  rcases hk01 with rfl|rfl
  all_goals
   go_wp2_with fail
   refine hmM.mono ?_
   rintro en w2 ⟨rfl,hq2⟩
   have hc2:=HC.out _ _ hq2
   have hLn:=HL.out _ _ hq2
   have HF:=Lib.hid (HU.out _ _ hq2)
   clear hmM hc1 hq2
   go_wp2_with fail
   refine hLn.mono ?_
   rintro en w' ⟨rfl,rfl⟩
   clear hLn hc2
   go_wp2
   go_ret
   exact⟨rfl,HF.out⟩
 ·rw[if_neg h2] at hy
  have q0:((k:Int) == 0)=false:=by rw[beq_eq_false_iff_ne];omega
  have q1:((k:Int) == 1)=false:=by rw[beq_eq_false_iff_ne];omega
  have hLn:=HL.out _ _ h1
  have HF:=Lib.hid ((HU.out _ _ h1).more (q':=q+4) (by omega))
  obtain rfl:y=i:=hy
  clear h1
  go_wp2_with fail
  refine hLn.mono ?_
  rintro en w' ⟨rfl,rfl⟩
  clear hLn hc1
  go_wp2
  go_ret
  exact⟨rfl,HF.out⟩
end
section
open Go.RowKit
structure DS (w:World) (bm bo:Nat) (bi bp:Nat→Nat) (ks:List Nat) (g bx gN q:Nat) (P:List Int→Prop) (wr:World):Prop where
 mx:∃ F',MixP wr bm bo bi bp ks q F'∧(∀ x,F' x→w.heap.size≤x∧x<wr.heap.size)∧¬ F' g∧¬ F' bx∧¬ F' gN
 sl:MadeS w g ks.length P wr
 bxh:wr.heap[bx]? = some (.cells #[.pointer (some ⟨bm,0,none⟩)] 298 (0,0))
 nm:OwnI w.heap.size wr (.slice (some ⟨gN,0,none⟩) ks.length ks.length) (nats ((List.range ks.length).map (nmD ks)))
 gx:g≠bx∧g≠gN∧w.heap.size≤bx
section
variable {w:World} {bm bo:Nat} {bi bp:Nat→Nat} {ks:List Nat} {g bx gN q:Nat} {P:List Int→Prop} {wr:World} (h:DS w bm bo bi bp ks g bx gN q P wr)
include h
theorem DS.cx:wr.cell? ⟨bx,0,none⟩=some (.pointer (some ⟨bm,0,none⟩)):=World.cell_of_heap h.bxh 0
theorem DS.ask:∃ F',MixP wr bm bo bi bp ks q F'∧∀ q' w2,MixQ wr bm bo bi bp ks q' F' w2→DS w bm bo bi bp ks g bx gN q' P w2:=by
 obtain⟨F',h1,h2,h3,h4,h5⟩:=h.mx
 have hg:=h.sl.old
 have hn:=(h.nm.lt gN rfl).2
 have hb:=lt_of_block h.bxh
 refine⟨F',h1,fun q' w2 hq=>⟨⟨grow F' wr w2,hq.1,fun x hx=>?_,fun hx=>?_,fun hx=>?_,fun hx=>?_⟩,h.sl.keepsF hq.2 h3 (fun x hx=>(h2 x hx).1),hq.2.at h.bxh h4,h.nm.keeps hq.2 (fun k hk e=>by simp only [Value.ownBlock,Option.some.injEq] at hk;subst hk;exact h5 e),h.gx⟩⟩
 ·obtain⟨_,_,_,_,hk⟩:=h.sl
  have hs:=hk.size
  have hs2:=hq.2.size
  rcases hx with hx|hx
  ·have:=h2 x hx;exact⟨this.1,by omega⟩
  ·exact⟨by omega,hx.2⟩
 ·rcases hx with hx|hx
  ·exact h3 hx
  ·omega
 ·rcases hx with hx|hx
  ·exact h4 hx
  ·omega
 ·rcases hx with hx|hx
  ·exact h5 hx
  ·omega
theorem DS.set {Q:List Int→Prop} (i:Nat) (z:Int) (hQ:∀ zs,zs.length=ks.length→P zs→Q (zs.set i z)):DS w bm bo bi bp ks g bx gN q Q (wr.setCell ⟨g,i,none⟩ (.int .i64 z)):=by
 obtain⟨F',h1,h2,h3,h4,h5⟩:=h.mx
 obtain⟨g1,g2,g3⟩:=h.gx
 have kk:=(Keeps.refl (fun x=>x=g) wr).setCell (p:=⟨g,i,none⟩) (.inl rfl) (.int .i64 z)
 have hs2:=kk.size
 exact⟨⟨F',h1.keeps kk (fun x hx e=>h3 (e ▸ hx)),fun x hx=>⟨(h2 x hx).1,by have:=(h2 x hx).2;omega⟩,h3,h4,h5⟩,h.sl.set i z hQ,kk.at h.bxh (fun e=>g1 e.symm),h.nm.keeps kk (fun k hk e=>by simp only [Value.ownBlock,Option.some.injEq] at hk;omega),h.gx⟩
theorem DS.more {q':Nat} (hq:q≤q'):DS w bm bo bi bp ks g bx gN q' P wr:=by
 obtain⟨F',h1,h2⟩:=h.mx
 exact⟨⟨F',h1.more hq,h2⟩,h.sl,h.bxh,h.nm,h.gx⟩
end
def DecJ (ks:List Nat) (j:Nat) (zs:List Int):Prop:=∀ i,i<j→zs[nmD ks i]? = some ((nmD ks (tn ks i):Nat):Int)
theorem DecJ.step {ks:List Nat} {j:Nat} {zs:List Int} (hW:Wd ks) (hj:j<ks.length) (hl:zs.length=ks.length) (h:DecJ ks j zs):DecJ ks (j+1) (zs.set (nmD ks j) ((nmD ks (tn ks j):Nat):Int)):=fun i hi=>by
 rw[List.getElem?_set]
 by_cases e:nmD ks j=nmD ks i
 ·have:=hW.nm_isP.inj _ _ hj (by omega) e
  subst this
  rw[if_pos rfl,if_pos (by rw[hl];exact hW.nm_lt hj)]
 ·rw[if_neg e]
  refine h i ?_
  rcases Nat.lt_or_ge i j with h1|h1
  ·exact h1
  ·obtain rfl:i=j:=by omega
   exact absurd rfl e
theorem DecJ.done {ks:List Nat} {zs:List Int} (hW:Wd ks) (hl:zs.length=ks.length) (h:DecJ ks ks.length zs):zs=nats (decL ks):=by
 apply List.ext_getElem?
 intro d
 rcases Nat.lt_or_ge d ks.length with hd|hd
 ·obtain⟨i,hi,rfl⟩:=hW.nm_isP.back hd
  rw[h i hi,← hW.sD_nm hi]
  have:(decL ks)[nmD ks i]? = some (sD ks (nmD ks i)):=by simp[decL,hd]
  rw[q0i this]
 ·rw[List.getElem?_eq_none (by omega),List.getElem?_eq_none (by rw[q02,q03];exact hd)]
def qnm (w:World) (ks:List Nat) (e:Ending) (w':World):Prop :=
 (MBal ks∧q2e ks∧MadeMap w (decL ks) (if ks.length=0 then -1 else 0) (if ks.length=0 then 1 else 0) e w') ∨
 (∃ c:Nat,(¬ MBal ks∧c=9∨MBal ks∧¬ q2e ks∧c=10)∧e=.returned (.tuple #[.pointer none,.int .i64 (c:Nat)])∧Keeps (fun _=>False) w w')
theorem MadeMap.base {w0 w w':World} {s:List Nat} {root lone:Int} {e:Ending} (h:MadeMap w s root lone e w') (k:Keeps (fun _=>False) w0 w):MadeMap w0 s root lone e w':=by
 obtain⟨b,h1,h2,h3,h4⟩:=h
 have hs:=k.size
 exact⟨b,h1,h2.mono (fun x hx=>⟨by omega,hx.2⟩) (fun x hx=>hx.2.1) (fun hx=>hx.2.2 rfl),by omega,k.trans h4 (fun _ _ h=>h)⟩
theorem q92 (p:Value) (ks:List Nat) (w:World) (h4:∀ k ∈ ks,k<4) (hl:ks.length≤131072)
  (hI:∀ W,Keeps (fun _=>False) w W→Calls Tryz.prog 256 #[p] W (q5z W ks)) :
  Calls Tryz.prog 184 #[p] w (qnm w ks):=by
 have hR:=q9m p ks w hl hI
 clear hI
 go_enter Tryz.func184,Tryz.ntmps184
 go_wp2_with fail
 refine hR.mono ?_
 clear hR
 intro e w1 h1
 rcases h1 with⟨hB,hC,bm,bo,bi,bp,rfl,hM,hk1⟩|⟨hB,rfl,hk1⟩|⟨hB,hC,rfl,hk1⟩
 rotate_left
 ·have HF:=Lib.hid (And.intro hB (hk1.alloc (.cells #[.pointer none] 298)))
  clear hB hk1
  go_wp2
  go_ret2
  exact .inr ⟨9,.inl ⟨HF.out.1,rfl⟩,rfl,HF.out.2⟩
 ·have HF:=Lib.hid (And.intro hB (And.intro hC (hk1.alloc (.cells #[.pointer none] 298))))
  clear hB hC hk1
  go_wp2
  go_ret2
  exact .inr ⟨10,.inr ⟨HF.out.1,HF.out.2.1,rfl⟩,rfl,HF.out.2.2⟩
 ·have hW:Wd ks:=⟨h4,hB⟩
  have kb:=(Keeps.refl (fun _=>False) w1).alloc (.cells #[.pointer (some ⟨bm,0,none⟩)] 298)
  have hM2:=hM.keeps kb (fun _ _ h=>h)
  have hNm:=qkb hM2 hW (by omega) hl
  have hLn:=q2n hM2
  have hbb:=heap_alloc_new w1 (.cells #[.pointer (some ⟨bm,0,none⟩)] 298)
  have hcb:(w1.alloc (.cells #[.pointer (some ⟨bm,0,none⟩)] 298)).cell? ⟨w1.heap.size,0,none⟩=some (.pointer (some ⟨bm,0,none⟩)):=World.cell_of_heap hbb 0
  have hk01:=hk1.trans kb (fun _ _ h=>h)
  have hsz:=hk1.size
  have hszb:(w1.alloc (.cells #[.pointer (some ⟨bm,0,none⟩)] 298)).heap.size=w1.heap.size+1:=by simp
  have HF:=Lib.hid (And.intro hB (And.intro hC (And.intro hk01 (And.intro hbb hW))))
  obtain⟨bx,hbx⟩:∃ bx,bx=w1.heap.size:=⟨_,rfl⟩
  clear hB hC hM hk1 kb hM2 hk01 hbb
  by_cases h0:ks.length=0
  ·have hks:ks=[]:=List.eq_nil_of_length_eq_zero h0
   have hsl:Sl .i64 (w1.alloc (.cells #[.pointer (some ⟨bm,0,none⟩)] 298)) (.slice none 0 0) []:=(OwnI.nil 0 _).sl
   have hNw:=qfe (.slice none 0 0) 1 (w1.alloc (.cells #[.pointer (some ⟨bm,0,none⟩)] 298)) hsl (by omega)
   have q0:((ks.length:Int) == 0)=true:=by rw[beq_iff_eq];omega
   have H0:=Lib.hid (And.intro h0 hks)
   clear h0 hks hsl hNm
   go_wp2_with (go_at_call 221;refine hLn.mono ?_;rintro e w' ⟨rfl,rfl⟩)
   refine hNw.mono ?_
   rintro en w3 hMd
   obtain⟨b,rfl,hA,hb,hk3⟩:=hMd
   have HM:=Lib.hid (show MadeMap w [] (-1) 1 (.returned (.tuple #[.pointer (some ⟨b,0,none⟩),.int .i64 0])) w3 from MadeMap.base ⟨b,rfl,hA,hb,hk3⟩ HF.out.2.2.1)
   clear hNw hA hb hk3 hcb hLn
   go_wp2
   go_ret2
   refine .inl ⟨HF.out.1,HF.out.2.1,?_⟩
   have e1:=H0.out.2
   have hM:=HM.out
   rw[if_pos H0.out.1,if_pos H0.out.1]
   have e2:decL ks=[]:=by rw[e1];rfl
   rw[e2]
   exact hM
  ·have q0:((ks.length:Int) == 0)=false:=by rw[beq_eq_false_iff_ne];omega
   have H0:=Lib.hid h0
   clear h0
   go_wp2_with (go_at_call 221;refine hLn.mono ?_;rintro e w' ⟨rfl,rfl⟩)
   refine hNm.mono ?_
   rintro en w3 ⟨gN,rfl,hNA⟩
   clear hNm hLn hcb
   obtain⟨i,hi,hz0,hz1,hz2⟩:=info_parts q1d
   have hmk:=fun w=>run_make (P:=Tryz.prog) w 25 3 i _ Tryz.underlying25 hi hz0 .i64 .i64 (ks.length:Int) (ks.length:Int) (by omega) (Int.le_refl _) (by rw[hz2];omega) (by omega)
   simp only [hz1,Int.toNat_natCast,Nat.mul_one] at hmk
   clear hi hz0 hz1 hz2
   have hsz3:w.heap.size≤w3.heap.size:=by
    obtain⟨_,_,_,_,_,hk⟩:=hNA
    have:=hk.size
    omega
   have hD0:DS w bm bo bi bp ks w3.heap.size w1.heap.size gN (15 * ks.length) (DecJ ks 0) (w3.alloc (.cells (madeCells #[.int .i64 0] ks.length) 3)):=by
    obtain⟨F',h1,h2,h3,h5,hk2⟩:=hNA
    have ka:=(Keeps.refl (fun _=>False) w3).alloc (.cells (madeCells #[.int .i64 0] ks.length) 3)
    have hk03:=HF.out.2.2.1.trans hk2 (fun x hx e=>by omega)
    have hs3:=hk2.size
    have hgl:=h5.lt gN rfl
    refine⟨⟨F',(h1.keeps ka (fun _ _ h=>h)).more (by omega),fun x hx=>?_,fun hx=>?_,fun hx=>?_,h3⟩,MadeS.made' hk03 ks.length _ (fun i hi=>by omega) (by omega),ka.at (hk2.at HF.out.2.2.2.1 (fun e=>by omega)) (fun h=>h),(h5.mono (fun q hq=>by have:=(h5.lt q hq).1;omega)).alloc _,⟨by omega,by omega,by omega⟩⟩
    ·have hs4:=ka.size
     rcases h2 x hx with e|e
     ·omega
     ·omega
    ·rcases h2 _ hx with e|e
     ·omega
     ·omega
    ·rcases h2 _ hx with e|e
     ·omega
     ·omega
   have HD0:=Lib.hid hD0
   clear hNA hD0
   go_wp2_with fail
   clear hmk
   generalize World.alloc w3 _=wM at *
   obtain⟨g,hg⟩:∃ g,g=w3.heap.size:=⟨_,rfl⟩
   rw[← hg] at HD0 ⊢
   rw[← hbx] at HD0 ⊢
   clear hg
   go_loopg [32] ks.length (fun m i wr=>∃ j:Nat,j≤ks.length∧m=ks.length - j∧i=.int .i64 j∧DS w bm bo bi bp ks g bx gN (15 * ks.length+4 * j) (DecJ ks j) wr)
   case atStart=>exact⟨0,Nat.zero_le _,rfl,rfl,HD0.out⟩
   case round =>
    clear HD0 hbx hszb
    obtain⟨j,hj,hgk,rfl,hDS⟩:=hrel
    have HG:=Lib.hid hgk
    clear hgk
    by_cases hlt:j<ks.length
    ·have hWd:=HF.out.2.2.2.2
     obtain⟨F',hM,hask⟩:=hDS.ask
     have hT:=qm hM hWd (by omega) hl hlt
     have hcx:=hDS.cx
     have hn1:=(hDS.nm.cell (i:=j) (q0i (show ((List.range ks.length).map (nmD ks))[j]? = some (nmD ks j) by simp[hlt]))).1
     have htl:=hWd.tn_isP.lt j hlt
     have hdl:=hWd.nm_lt hlt
     have HA:=Lib.hid (And.intro hask (And.intro hlt hWd))
     obtain⟨t,ht⟩:∃ t,t=tn ks j:=⟨_,rfl⟩
     obtain⟨d,hd⟩:∃ d,d=nmD ks j:=⟨_,rfl⟩
     rw[← ht] at hT htl
     rw[← hd] at hn1 hdl
     have HT:=Lib.hid (And.intro ht hd)
     clear hM hask hDS hWd ht hd
     go_wp2_with fail
     refine hT.mono ?_
     rintro en w4 ⟨rfl,hq⟩
     have hDS2:=HA.out.1 _ _ hq
     have hn2:=(hDS2.nm.cell (i:=t) (q0i (show ((List.range ks.length).map (nmD ks))[t]? = some (nmD ks t) by simp[htl]))).1
     obtain⟨z,_,hcg,hfg⟩:=hDS2.sl.cell d hdl
     have hfin:=(hDS2.set (Q:=DecJ ks (j+1)) d ((nmD ks t:Nat):Int) (fun zs hzl hP=>by rw[HT.out.1,HT.out.2];exact hP.step HA.out.2.2 HA.out.2.1 hzl)).more (q':=15 * ks.length+4 * (j+1)) (by omega)
     obtain⟨y,hy⟩:∃ y,y=nmD ks t:=⟨_,rfl⟩
     rw[← hy] at hn2 hfin
     have HFn:=Lib.hid hfin
     clear hT hq hDS2 hfin hy hcx
     go_wp2
     go_roundg (ks.length - (j+1))
     case measure=>rw[HG.out];omega
     case rel=>exact⟨j+1,by omega,rfl,by go_num,HFn.out⟩
    ·obtain rfl:j=ks.length:=by omega
     obtain⟨zs,z1,z2,z3,z4⟩:=hDS.sl
     have hWd:=HF.out.2.2.2.2
     have hz:=z2.done hWd z1
     subst hz
     have hl2:(decL ks).length=ks.length:=q03 ks
     have hNw:=qaq (.slice (some ⟨g,0,none⟩) ks.length ks.length) (decL ks) 0 0 wr z3.sl hWd.decL_isP (by rw[hl2];exact hWd.even2) (by rw[hl2];have:=H0.out;omega) (by omega) (by omega)
     have HK:=Lib.hid z4
     clear hDS z1 z2 z3 z4 hWd hl2
     go_wp2_with fail
     refine hNw.mono ?_
     rintro en w5 hMd
     obtain⟨b,rfl,hA,hb,hk3⟩:=hMd
     have HM:=Lib.hid (show MadeMap w (decL ks) (0:Nat) (0:Nat) (.returned (.tuple #[.pointer (some ⟨b,0,none⟩),.int .i64 0])) w5 from MadeMap.base ⟨b,rfl,hA,hb,hk3⟩ HK.out)
     clear hNw hA hb hk3
     go_wp2
     go_ret2
     refine .inl ⟨HF.out.1,HF.out.2.1,?_⟩
     rw[if_neg H0.out,if_neg H0.out]
     exact HM.out
end
end Go.Proofs.YtcfdpogegngplaaGreat
