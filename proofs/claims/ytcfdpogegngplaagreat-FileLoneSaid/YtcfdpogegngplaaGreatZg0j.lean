import Derived.Test.YtcfdpogegngplaaGreatZg0h
set_option maxRecDepth 100000
set_option maxHeartbeats 4000000
namespace Go.Proofs.YtcfdpogegngplaaGreat
section
open Go.RowKit
structure NS (w:World)(bm bo:Nat)(bi bp:Nat→Nat)(ks:List Nat)(F:Nat→Prop)(g bx q:Nat)(P:List Int→Prop)(wr:World):Prop where
 mx:∃ F',eZ wr bm bo bi bp ks q F'∧(∀ x,F' x→F x∨(w.heap.size≤x∧x<wr.heap.size))∧¬ F' g∧¬ F' bx
 sl:∃ zs,zs.length=ks.length∧P zs∧aF w.heap.size wr (.slice (some ⟨g,0,none⟩) ks.length ks.length) zs
 yJ:wr.heap[bx]? = some (.cells #[.pointer (some ⟨bm,0,none⟩)] 298 (0,0))
 gx:g≠bx∧w.heap.size≤g∧w.heap.size≤bx
 dR:Keeps F w wr
 old:∀ x,F x→x<w.heap.size
section
variable {w:World} {bm bo:Nat} {bi bp:Nat→Nat} {ks:List Nat} {F:Nat→Prop} {g bx q:Nat} {P:List Int→Prop} {wr:World} (h:NS w bm bo bi bp ks F g bx q P wr)
include h
theorem NS.lts:g<wr.heap.size∧bx<wr.heap.size:=by
 obtain⟨zs,_,_,h3⟩:=h.sl
 exact⟨(h3.lt g rfl).2,lt_of_block h.yJ⟩
theorem NS.cx:wr.cell? ⟨bx,0,none⟩=some (.pointer (some ⟨bm,0,none⟩)):=ak h.yJ 0
theorem NS.ask:∃ F',eZ wr bm bo bi bp ks q F'∧(∀ x,F' x→x<wr.heap.size)∧∀ q' w2,bM wr bm bo bi bp ks q' F' w2→NS w bm bo bi bp ks F g bx q' P w2:=by
 obtain⟨F',h1,h2,h3,h4⟩:=h.mx
 obtain⟨l1,l2⟩:=h.lts
 obtain⟨g1,g2,g3⟩:=h.gx
 obtain⟨zs,z1,z2,z3⟩:=h.sl
 refine⟨F',h1,h1.old,fun q' w2 hq=>⟨⟨grow F' wr w2,hq.1,fun x hx=>?_,fun hx=>?_,fun hx=>?_⟩,⟨zs,z1,z2,z3.keeps hq.2 (fun k hk e=>by simp only [Value.ownBlock,Option.some.injEq] at hk;subst hk;exact h3 e)⟩,hq.2.at h.yJ h4,h.gx,h.dR.trans hq.2 (fun x hx e=>?_),h.old⟩⟩
 ·have hs:=h.dR.size
  have hs2:=hq.2.size
  rcases hx with hx|hx
  ·rcases h2 x hx with e|e
   ·exact .inl e
   ·exact .inr ⟨e.1,by omega⟩
  ·exact .inr ⟨by omega,hx.2⟩
 ·rcases hx with hx|hx
  ·exact h3 hx
  ·omega
 ·rcases hx with hx|hx
  ·exact h4 hx
  ·omega
 ·rcases h2 x e with e|e
  ·exact e
  ·omega
theorem NS.set{Q:List Int→Prop}(i:Nat)(z:Int)(hQ:∀ zs,zs.length=ks.length→P zs→Q (zs.set i z)):NS w bm bo bi bp ks F g bx q Q (wr.setCell ⟨g,i,none⟩ (.int .i64 z)):=by
 obtain⟨F',h1,h2,h3,h4⟩:=h.mx
 obtain⟨g1,g2,g3⟩:=h.gx
 obtain⟨zs,z1,z2,z3⟩:=h.sl
 have kk:=(Keeps.refl (fun x=>x=g) wr).setCell (p:=⟨g,i,none⟩) (.inl rfl) (.int .i64 z)
 have hs2:=kk.size
 refine⟨⟨F',h1.keeps kk (fun x hx e=>h3 (e ▸ hx)),fun x hx=>?_,h3,h4⟩,⟨zs.set i z,by simpa using z1,hQ zs z1 z2,z3.set i z⟩,kk.at h.yJ (fun e=>g1 e.symm),h.gx,h.dR.trans kk (fun x hx e=>by omega),h.old⟩
 rcases h2 x hx with e|e
 ·exact .inl e
 ·exact .inr ⟨e.1,by omega⟩
theorem NS.cell{i:Nat}(hi:i<ks.length):∃ z:Int,(∃ zs,zs.length=ks.length∧P zs∧zs[i]? = some z)∧wr.cell? ⟨g,i,none⟩=some (.int .i64 z)∧wr.frozen? ⟨g,i,none⟩=false:=by
 obtain⟨zs,h1,h2,h3⟩:=h.sl
 have hz:=List.getElem?_eq_getElem (l:=zs) (i:=i) (by omega)
 exact⟨_,⟨zs,h1,h2,hz⟩,h3.cell hz⟩
theorem NS.mono{Q:List Int→Prop}{q':Nat}(hq:q≤q')(hQ:∀ zs,zs.length=ks.length→P zs→Q zs):NS w bm bo bi bp ks F g bx q' Q wr:=by
 obtain⟨F',h1,h2⟩:=h.mx
 obtain⟨zs,z1,z2,z3⟩:=h.sl
 exact⟨⟨F',h1.more hq,h2⟩,⟨zs,z1,hQ zs z1 z2,z3⟩,h.yJ,h.gx,h.dR,h.old⟩
theorem NS.drewN(n:Nat):NS w bm bo bi bp ks F g bx q P (wr.drewN n):=by
 obtain⟨F',h1,h2,h3,h4⟩:=h.mx
 obtain⟨zs,z1,z2,z3⟩:=h.sl
 have kk:=(Keeps.refl (fun _=>False) wr).drewN n
 exact⟨⟨F',h1.keeps kk (fun _ _ h=>h),h2,h3,h4⟩,⟨zs,z1,z2,z3.keeps kk (fun _ _ h=>h)⟩,kk.at h.yJ (fun h=>h),h.gx,h.dR.drewN n,h.old⟩
end
def qjp(w:World)(bm bo:Nat)(bi bp:Nat→Nat)(ks:List Nat)(q:Nat)(F:Nat→Prop)(g:Nat)(w':World):Prop :=
 ∃ F',eZ w' bm bo bi bp ks q F'∧(∀ x,F' x→F x∨(w.heap.size≤x∧x<w'.heap.size))∧¬ F' g∧aF w.heap.size w' (.slice (some ⟨g,0,none⟩) ks.length ks.length) (aB ((List.range ks.length).map (bG ks)))∧Keeps F w w'
theorem qjq{w:World}{bm bo:Nat}{bi bp:Nat→Nat}{ks:List Nat}{q:Nat}{F:Nat→Prop}(h:eZ w bm bo bi bp ks q F)(hw:Wd ks)(hq:q≤50000000)(hl:ks.length≤131072) :
  Calls Tryz.prog 222 #[.agg #[.pointer (some ⟨bm,0,none⟩)]] w fun e w'=>∃ g,e=.returned (.slice (some ⟨g,0,none⟩) ks.length ks.length)∧qjp w bm bo bi bp ks (q+4 * ks.length) F g w':=by
 have kb:=(Keeps.refl (fun _=>False) w).alloc (.cells #[.pointer (some ⟨bm,0,none⟩)] 298)
 have hL:=Jz (h.keeps kb (fun _ _ h=>h))
 have hcb:(w.alloc (.cells #[.pointer (some ⟨bm,0,none⟩)] 298)).cell? ⟨w.heap.size,0,none⟩=some (.pointer (some ⟨bm,0,none⟩)):=ak (heap_alloc_new w _) 0
 obtain⟨b1,b2,b3,b4⟩:=Wn w (.cells #[.pointer (some ⟨bm,0,none⟩)] 298) (.cells (madeCells #[.int .i64 0] ks.length) 3)
 have h0:NS w bm bo bi bp ks F (w.heap.size+1) w.heap.size q (rP ks 0) ((w.alloc (.cells #[.pointer (some ⟨bm,0,none⟩)] 298)).alloc (.cells (madeCells #[.int .i64 0] ks.length) 3)):=by
  refine⟨⟨F,h.keeps b3 (fun _ _ h=>h),fun x hx=>.inl hx,fun hx=>by have:=h.old _ hx;omega,fun hx=>by have:=h.old _ hx;omega⟩,⟨List.replicate ks.length 0,by simp,fun i k hi=>by omega,⟨by simp[ints],.inr ⟨_,ks.length,_,by simp,by omega,b2,by simp,by unfold maxLen;omega,by rw[size_madeCells];simp,?_⟩⟩⟩,b1,⟨by omega,by omega,by omega⟩,b3.mono (fun _ _ h=>h.elim),h.old⟩
  rw[toList_madeCells_one];simp[ints]
 obtain⟨i,hi,hz0,hz1,hz2⟩:=info_parts pU
 have hmk:=fun w=>run_make (P:=Tryz.prog) w 25 3 i _ Tryz.underlying25 hi hz0 .i64 .i64 (ks.length:Int) (ks.length:Int) (by omega) (Int.le_refl _) (by rw[hz2];omega) (by omega)
 simp only [hz1,Int.toNat_natCast,Nat.mul_one] at hmk
 have HW:=ah hw
 clear h hw hi hz0 hz1 hz2 kb b1 b2 b3 b4
 go_enter Tryz.func222,Tryz.ntmps222
 go_wp2_with (go_at_call 221;refine hL.mono ?_;rintro e w' ⟨rfl,rfl⟩)
 clear hmk hL hcb
 generalize Dh:World.alloc (w.alloc _) _=wM at *
 clear Dh
 obtain⟨g,hg⟩:∃ g,g=w.heap.size+1:=⟨_,rfl⟩
 obtain⟨bx,hbx⟩:∃ bx,bx=w.heap.size:=⟨_,rfl⟩
 rw[← hg] at h0 ⊢
 rw[← hbx]
 have h0':NS w bm bo bi bp ks F g bx q (rP ks 0) wM:=by rw[hbx];exact h0
 clear h0 hg hbx
 go_loopg [4,14] ks.length (fun m c i wr=>∃ j:Nat,j≤ks.length∧m=ks.length - j∧i=.int .i64 j∧c=.int .i64 (2 * oc ks j:Nat)∧NS w bm bo bi bp ks F g bx (q+4 * j) (rP ks j) wr)
 case atStart=>exact⟨0,Nat.zero_le _,rfl,rfl,by rw[show oc ks 0=0 by simp[oc]];rfl,h0'⟩
 case round =>
  clear h0'
  obtain⟨j,hj,aN,rfl,rfl,hN⟩:=hrel
  have HG:=ah aN
  clear aN
  by_cases hlt:j<ks.length
  ·have hx:=List.getElem?_eq_getElem (l:=ks) (i:=j) hlt
   obtain⟨k,hk⟩:∃ k,k=ks[j]:=⟨_,rfl⟩
   rw[← hk] at hx
   have hk4:=HW.out.k4 k (List.mem_of_getElem? hx)
   obtain⟨F',hM,hold,j5⟩:=hN.ask
   have hA:=JA hM j k hx
   have hcx:=hN.cx
   have xK:=Ey hx
   have Ny:oc ks j≤ks.length:=by unfold oc;exact Nat.le_trans (List.length_filter_le _ _) (by rw[List.length_take];omega)
   obtain⟨r,hr⟩:∃ r,r=k % 2:=⟨_,rfl⟩
   have hr2:r<2:=by omega
   have r1:(k:Int).tmod 2=(r:Int):=by rw[hr,Int.tmod_eq_emod_of_nonneg (by omega)];simp
   have r2:(k:Int) % 2=(r:Int):=by rw[hr];simp
   by_cases h0:k % 2=0
   ·have hr0:((r:Int) == 0)=true:=by rw[beq_iff_eq];omega
    rw[if_pos h0] at xK
    have hm:=HW.out.mate hlt
    have Iw:=fun nq=>QE (wh:=wr) hold (hM.after.drewN nq) j (mp ks j) (by omega) hm
    have hml:=HW.out.dS hlt
    have HH:=ah (aj j5 (aj hx (aj h0 xK)))
    obtain⟨y,hy⟩:∃ y,y=mp ks j:=⟨_,rfl⟩
    rw[← hy] at Iw hml
    have HY:=ah hy
    obtain⟨c,hc⟩:∃ c,c=2 * oc ks j:=⟨_,rfl⟩
    have hcl:c≤300000:=by omega
    rw[← hc]
    have HC:=ah hc
    clear Ny
    have Nz:∀ nq,(wr.drewN nq).cell? ⟨bx,0,none⟩=some (.pointer (some ⟨bm,0,none⟩)):=fun nq=>hcx
    have HCX:=ah Nz
    clear hN hM j5 hk hx h0 xK hm hy hc hr Nz
    go_wp2_with fail
    refine hA.mono ?_
    rintro en w2 ⟨rfl,nq,rfl⟩
    have Wx:=HCX.out nq
    clear hA
    go_wp2_with fail
    refine (Iw nq).mono ?_
    rintro en w3 ⟨rfl,hq3⟩
    have Ce:=HH.out.1 _ _ hq3
    clear Iw hq3 Wx
    obtain⟨za,_,hca,hfa⟩:=Ce.cell hlt
    have Iy:=Ce.set (Q:=fun zs=>∃ z0,zs=z0.set j (c:Int)∧z0.length=ks.length∧rP ks j z0) j (c:Int) (fun zs hzl hP=>⟨zs,rfl,hzl,hP⟩)
    obtain⟨zb,_,hcb,hfb⟩:=Iy.cell hml
    have hN5:=Iy.set (Q:=rP ks (j+1)) y ((c:Int)+1) (fun zs hzl hP=>by
     obtain⟨z0,rfl,hl0,J8⟩:=hP
     rw[HY.out,HC.out,show ((2 * oc ks j:Nat):Int)+1=((2 * oc ks j+1:Nat):Int) by omega]
     exact J8.step HW.out hl0 HH.out.2.1 HH.out.2.2.1)
    have RB:=ah (hN5.mono (q':=q+4 * (j+1)) (by omega) (fun _ _ h=>h))
    clear Ce Iy hN5
    go_wp2
    go_roundg (ks.length - (j+1))
    case measure=>rw[HG.out];omega
    case rel=>exact⟨j+1,by omega,rfl,by go_num,by rw[HH.out.2.2.2,show 2 * (oc ks j+1)=c+2 by rw[HC.out];omega];go_num,RB.out⟩
   ·have hr0:((r:Int) == 0)=false:=by rw[beq_eq_false_iff_ne];omega
    rw[if_neg h0] at xK
    have RB:=fun nq=>(hN.drewN nq).mono (q':=q+4 * (j+1)) (Q:=rP ks (j+1)) (by omega) (fun _ _ hP=>hP.skip hx (by omega))
    have HF:=ah (aj RB xK)
    obtain⟨c,hc⟩:∃ c,c=oc ks j:=⟨_,rfl⟩
    rw[← hc] at Ny ⊢
    have HC:=ah hc
    clear hN hM j5 hk hx h0 xK RB hc hr
    go_wp2_with fail
    refine hA.mono ?_
    rintro en w2 ⟨rfl,nq,rfl⟩
    clear hA
    go_wp2
    go_roundg (ks.length - (j+1))
    case measure=>rw[HG.out];omega
    case rel=>exact⟨j+1,by omega,rfl,by go_num,by rw[HF.out.2,← HC.out];rfl,HF.out.1 nq⟩
  ·obtain rfl:j=ks.length:=by omega
   obtain⟨F',h1,h2,h3,h4⟩:=hN.mx
   obtain⟨zs,z1,z2,z3⟩:=hN.sl
   have hz:=z2.all HW.out z1
   subst hz
   have HF:=ah (show qjp w bm bo bi bp ks (q+4 * ks.length) F g wr from ⟨F',h1,h2,h3,z3,hN.dR⟩)
   obtain⟨c,hc⟩:∃ c,c=oc ks ks.length:=⟨_,rfl⟩
   rw[← hc]
   clear hN h1 h2 h3 h4 z1 z2 z3 hc
   go_wp2
   go_ret
   exact⟨_,rfl,HF.out⟩
theorem bM.unbox{w wb w2:World}{bm bo:Nat}{bi bp:Nat→Nat}{ks:List Nat}{q:Nat}{F:Nat→Prop}(h:bM wb bm bo bi bp ks q F w2)(k:Keeps (fun _=>False) w wb)(hold:∀ x,F x→x<w.heap.size):bM w bm bo bi bp ks q F w2:=by
 have h1:=k.size
 have h2:=h.2.size
 refine⟨h.1.mono (fun x hx=>?_) (q0z hold (by omega)),(k.mono (fun _ _ h=>h.elim):Keeps F w wb).trans h.2 (fun _ _ e=>e)⟩
 rcases hx with e|e
 ·exact .inl e
 ·exact .inr ⟨by omega,e.2⟩
theorem qm6{w:World}{bm bo:Nat}{bi bp:Nat→Nat}{ks:List Nat}{q:Nat}{F:Nat→Prop}(h:eZ w bm bo bi bp ks q F)(hw:Wd ks)(hq:q≤50000000)(hl:ks.length≤131072){i:Nat}(hi:i<ks.length) :
  Calls Tryz.prog 223 #[.agg #[.pointer (some ⟨bm,0,none⟩)],.int .i64 i] w fun e w'=>e=.returned (.int .i64 (tn ks i:Nat))∧bM w bm bo bi bp ks (q+4) F w':=by
 have hold:=h.old
 have kb:=(Keeps.refl (fun _=>False) w).alloc (.cells #[.pointer (some ⟨bm,0,none⟩)] 298)
 have hcb:=heap_alloc_new w (.cells #[.pointer (some ⟨bm,0,none⟩)] 298)
 have hM0:=(h.keeps kb (fun _ _ h=>h)).after
 have hx:=List.getElem?_eq_getElem (l:=ks) (i:=i) hi
 obtain⟨k,hk⟩:∃ k,k=ks[i]:=⟨_,rfl⟩
 rw[← hk] at hx
 have hk4:=hw.k4 k (List.mem_of_getElem? hx)
 have HU:=ah (show ∀ q' w2,bM (w.alloc (.cells #[.pointer (some ⟨bm,0,none⟩)] 298)) bm bo bi bp ks q' F w2→bM w bm bo bi bp ks q' F w2 from fun q' w2 hh=>hh.unbox kb hold)
 have HC:Hid (∀ q' w2,bM (w.alloc (.cells #[.pointer (some ⟨bm,0,none⟩)] 298)) bm bo bi bp ks q' F w2→w2.cell? ⟨w.heap.size,0,none⟩=some (.pointer (some ⟨bm,0,none⟩))):=ah (fun q' w2 hh=>ak (hh.2.at hcb (fun e=>by have:=hold _ e;omega)) 0)
 have hc0:=HC.out _ _ hM0
 have hA:=JA hM0.1 i k hx
 have EP:∀ x,F x→x<(w.alloc (.cells #[.pointer (some ⟨bm,0,none⟩)] 298)).heap.size:=fun x hx=>by have:=hold x hx;simp;omega
 have htn:tn ks i=((if k<2 then mp ks i else i)+1) % ks.length:=by unfold tn;rw[iE hx]
 have htl:=hw.fF.lt i hi
 have hn0:¬ ks.length=0:=by omega
 have ai7:¬ (ks.length:Int)=0:=by omega
 obtain⟨y,hy⟩:∃ y,y=if k<2 then mp ks i else i:=⟨_,rfl⟩
 rw[← hy] at htn
 have hyl:y<ks.length:=by rw[hy];split;exact hw.dS hi;exact hi
 obtain⟨t,ht⟩:∃ t,t=tn ks i:=⟨_,rfl⟩
 rw[← ht] at htn htl ⊢
 have m1:((y:Int)+1).tmod (ks.length:Int)=(t:Int):=by rw[htn,Int.tmod_eq_emod_of_nonneg (by omega)];simp
 have m2:((y:Int)+1) % (ks.length:Int)=(t:Int):=by rw[htn];simp
 have HH:=ah (aj hM0 (aj EP (hw.mate hi)))
 clear h hw hM0 hcb hx hk ht htn hold EP kb
 have hL:=fun q' w2 (hh:bM (w.alloc (.cells #[.pointer (some ⟨bm,0,none⟩)] 298)) bm bo bi bp ks q' F w2)=>Jz hh.1
 have HL:=ah hL
 clear hL
 generalize hN:ks.length=N at *
 have HN:=ah hN
 clear hN
 go_enter Tryz.func223,Tryz.ntmps223
 go_wp2_with fail
 generalize w.alloc (.cells #[.pointer (some ⟨bm,0,none⟩)] 298)=wb at *
 refine hA.mono ?_
 rintro en w1 ⟨rfl,nq,rfl⟩
 have h1:=HH.out.1.drewN nq
 have hc1:=HC.out _ _ h1
 clear hA hc0
 by_cases h2:k<2
 ·rw[if_pos h2] at hy
  have Iw:=QE HH.out.2.1 h1 i (mp ks i) (by omega) HH.out.2.2
  rw[← hy] at Iw
  clear h1 hy
  have l9:k=0∨k=1:=by omega
  rcases l9 with rfl|rfl
  all_goals
   go_wp2_with fail
   refine Iw.mono ?_
   rintro en w2 ⟨rfl,hq2⟩
   have hc2:=HC.out _ _ hq2
   have hLn:=HL.out _ _ hq2
   have HF:=ah (HU.out _ _ hq2)
   clear Iw hc1 hq2
   go_wp2_with fail
   refine hLn.mono ?_
   rintro en w' ⟨rfl,rfl⟩
   clear hLn hc2
   go_wp2
   go_ret
   exact⟨rfl,HF.out⟩
 ·rw[if_neg h2] at hy
  have q0:((k:Int) == 0)=false:=by rw[beq_eq_false_iff_ne];omega
  have q1:((k:Int) == 1)=false:=by rw[beq_eq_false_iff_ne];omega
  have hLn:=HL.out _ _ h1
  have HF:=ah ((HU.out _ _ h1).more (q':=q+4) (by omega))
  obtain rfl:y=i:=hy
  clear h1
  go_wp2_with fail
  refine hLn.mono ?_
  rintro en w' ⟨rfl,rfl⟩
  clear hLn hc1
  go_wp2
  go_ret
  exact⟨rfl,HF.out⟩
end
section
open Go.RowKit
structure DS (w:World)(bm bo:Nat)(bi bp:Nat→Nat)(ks:List Nat)(g bx gN q:Nat)(P:List Int→Prop)(wr:World):Prop where
 mx:∃ F',eZ wr bm bo bi bp ks q F'∧(∀ x,F' x→w.heap.size≤x∧x<wr.heap.size)∧¬ F' g∧¬ F' bx∧¬ F' gN
 sl:aO w g ks.length P wr
 yJ:wr.heap[bx]? = some (.cells #[.pointer (some ⟨bm,0,none⟩)] 298 (0,0))
 nm:aF w.heap.size wr (.slice (some ⟨gN,0,none⟩) ks.length ks.length) (aB ((List.range ks.length).map (bG ks)))
 gx:g≠bx∧g≠gN∧w.heap.size≤bx
section
variable {w:World} {bm bo:Nat} {bi bp:Nat→Nat} {ks:List Nat} {g bx gN q:Nat} {P:List Int→Prop} {wr:World} (h:DS w bm bo bi bp ks g bx gN q P wr)
include h
theorem DS.cx:wr.cell? ⟨bx,0,none⟩=some (.pointer (some ⟨bm,0,none⟩)):=ak h.yJ 0
theorem DS.ask:∃ F',eZ wr bm bo bi bp ks q F'∧∀ q' w2,bM wr bm bo bi bp ks q' F' w2→DS w bm bo bi bp ks g bx gN q' P w2:=by
 obtain⟨F',h1,h2,h3,h4,h5⟩:=h.mx
 have hg:=h.sl.old
 have hn:=(h.nm.lt gN rfl).2
 have hb:=lt_of_block h.yJ
 refine⟨F',h1,fun q' w2 hq=>⟨⟨grow F' wr w2,hq.1,fun x hx=>?_,fun hx=>?_,fun hx=>?_,fun hx=>?_⟩,h.sl.uD hq.2 h3 (fun x hx=>(h2 x hx).1),hq.2.at h.yJ h4,h.nm.keeps hq.2 (fun k hk e=>by simp only [Value.ownBlock,Option.some.injEq] at hk;subst hk;exact h5 e),h.gx⟩⟩
 ·obtain⟨_,_,_,_,hk⟩:=h.sl
  have hs:=hk.size
  have hs2:=hq.2.size
  rcases hx with hx|hx
  ·have:=h2 x hx;exact⟨this.1,by omega⟩
  ·exact⟨by omega,hx.2⟩
 ·rcases hx with hx|hx
  ·exact h3 hx
  ·omega
 ·rcases hx with hx|hx
  ·exact h4 hx
  ·omega
 ·rcases hx with hx|hx
  ·exact h5 hx
  ·omega
theorem DS.set{Q:List Int→Prop}(i:Nat)(z:Int)(hQ:∀ zs,zs.length=ks.length→P zs→Q (zs.set i z)):DS w bm bo bi bp ks g bx gN q Q (wr.setCell ⟨g,i,none⟩ (.int .i64 z)):=by
 obtain⟨F',h1,h2,h3,h4,h5⟩:=h.mx
 obtain⟨g1,g2,g3⟩:=h.gx
 have kk:=(Keeps.refl (fun x=>x=g) wr).setCell (p:=⟨g,i,none⟩) (.inl rfl) (.int .i64 z)
 have hs2:=kk.size
 exact⟨⟨F',h1.keeps kk (fun x hx e=>h3 (e ▸ hx)),fun x hx=>⟨(h2 x hx).1,by have:=(h2 x hx).2;omega⟩,h3,h4,h5⟩,h.sl.set i z hQ,kk.at h.yJ (fun e=>g1 e.symm),h.nm.keeps kk (fun k hk e=>by simp only [Value.ownBlock,Option.some.injEq] at hk;omega),h.gx⟩
theorem DS.more{q':Nat}(hq:q≤q'):DS w bm bo bi bp ks g bx gN q' P wr:=by
 obtain⟨F',h1,h2⟩:=h.mx
 exact⟨⟨F',h1.more hq,h2⟩,h.sl,h.yJ,h.nm,h.gx⟩
end
def tH(ks:List Nat)(j:Nat)(zs:List Int):Prop:=∀ i,i<j→zs[bG ks i]? = some ((bG ks (tn ks i):Nat):Int)
theorem tH.step{ks:List Nat}{j:Nat}{zs:List Int}(hW:Wd ks)(hj:j<ks.length)(hl:zs.length=ks.length)(h:tH ks j zs):tH ks (j+1) (zs.set (bG ks j) ((bG ks (tn ks j):Nat):Int)):=fun i hi=>by
 rw[List.getElem?_set]
 by_cases e:bG ks j=bG ks i
 ·have:=hW.dJ.inj _ _ hj (by omega) e
  subst this
  rw[if_pos rfl,if_pos (by rw[hl];exact hW.gu hj)]
 ·rw[if_neg e]
  refine h i ?_
  rcases Nat.lt_or_ge i j with h1|h1
  ·exact h1
  ·obtain rfl:i=j:=by omega
   exact absurd rfl e
theorem tH.done{ks:List Nat}{zs:List Int}(hW:Wd ks)(hl:zs.length=ks.length)(h:tH ks ks.length zs):zs=aB (aG ks):=by
 apply List.ext_getElem?
 intro d
 rcases Nat.lt_or_ge d ks.length with hd|hd
 ·obtain⟨i,hi,rfl⟩:=hW.dJ.back hd
  rw[h i hi,← hW.Ez hi]
  have:(aG ks)[bG ks i]? = some (sD ks (bG ks i)):=by simp[aG,hd]
  rw[jq this]
 ·rw[List.getElem?_eq_none (by omega),List.getElem?_eq_none (by rw[q01,kJ];exact hd)]
def qnx(w:World)(ks:List Nat)(e:Ending)(w':World):Prop :=
 (iQ ks∧yI ks∧dx w (aG ks) (if ks.length=0 then -1 else 0) (if ks.length=0 then 1 else 0) e w') ∨
 (∃ c:Nat,(¬ iQ ks∧c=9∨iQ ks∧¬ yI ks∧c=10)∧e=.returned (.tuple #[.pointer none,.int .i64 (c:Nat)])∧Keeps (fun _=>False) w w')
theorem dx.base{w0 w w':World}{s:List Nat}{root lone:Int}{e:Ending}(h:dx w s root lone e w')(k:Keeps (fun _=>False) w0 w):dx w0 s root lone e w':=by
 obtain⟨b,h1,h2,h3,h4⟩:=h
 have hs:=k.size
 exact⟨b,h1,h2.mono (fun x hx=>⟨by omega,hx.2⟩) (fun x hx=>hx.2.1) (fun hx=>hx.2.2 rfl),by omega,k.trans h4 (fun _ _ h=>h)⟩
theorem q8x(p:Value)(ks:List Nat)(w:World)(h4:∀ k ∈ ks,k<4)(hl:ks.length≤131072)
  (hI:∀ W,Keeps (fun _=>False) w W→Calls Tryz.prog 256 #[p] W (QI W ks)) :
  Calls Tryz.prog 184 #[p] w (qnx w ks):=by
 have hR:=q9v p ks w hl hI
 clear hI
 go_enter Tryz.func184,Tryz.ntmps184
 go_wp2_with fail
 refine hR.mono ?_
 clear hR
 intro e w1 h1
 rcases h1 with⟨hB,hC,bm,bo,bi,bp,rfl,hM,hk1⟩|⟨hB,rfl,hk1⟩|⟨hB,hC,rfl,hk1⟩
 rotate_left
 ·have HF:=ah (aj hB (hk1.alloc (.cells #[.pointer none] 298)))
  clear hB hk1
  go_wp2
  go_ret2
  exact .inr ⟨9,.inl ⟨HF.out.1,rfl⟩,rfl,HF.out.2⟩
 ·have HF:=ah (aj hB (aj hC (hk1.alloc (.cells #[.pointer none] 298))))
  clear hB hC hk1
  go_wp2
  go_ret2
  exact .inr ⟨10,.inr ⟨HF.out.1,HF.out.2.1,rfl⟩,rfl,HF.out.2.2⟩
 ·have hW:Wd ks:=⟨h4,hB⟩
  have kb:=(Keeps.refl (fun _=>False) w1).alloc (.cells #[.pointer (some ⟨bm,0,none⟩)] 298)
  have hM2:=hM.keeps kb (fun _ _ h=>h)
  have rQ:=qjq hM2 hW (by omega) hl
  have hLn:=Jz hM2
  have hbb:=heap_alloc_new w1 (.cells #[.pointer (some ⟨bm,0,none⟩)] 298)
  have hcb:(w1.alloc (.cells #[.pointer (some ⟨bm,0,none⟩)] 298)).cell? ⟨w1.heap.size,0,none⟩=some (.pointer (some ⟨bm,0,none⟩)):=ak hbb 0
  have l9:=hk1.trans kb (fun _ _ h=>h)
  have hsz:=hk1.size
  have Wy:(w1.alloc (.cells #[.pointer (some ⟨bm,0,none⟩)] 298)).heap.size=w1.heap.size+1:=by simp
  have HF:=ah (aj hB (aj hC (aj l9 (aj hbb hW))))
  obtain⟨bx,hbx⟩:∃ bx,bx=w1.heap.size:=⟨_,rfl⟩
  clear hB hC hM hk1 kb hM2 l9 hbb
  by_cases h0:ks.length=0
  ·have hks:ks=[]:=List.eq_nil_of_length_eq_zero h0
   have hsl:Sl .i64 (w1.alloc (.cells #[.pointer (some ⟨bm,0,none⟩)] 298)) (.slice none 0 0) []:=(aF.nil 0 _).sl
   have mU:=qg1 (.slice none 0 0) 1 (w1.alloc (.cells #[.pointer (some ⟨bm,0,none⟩)] 298)) hsl (by omega)
   have q0:((ks.length:Int) == 0)=true:=by rw[beq_iff_eq];omega
   have H0:=ah (aj h0 hks)
   clear h0 hks hsl rQ
   go_wp2_with (go_at_call 221;refine hLn.mono ?_;rintro e w' ⟨rfl,rfl⟩)
   refine mU.mono ?_
   rintro en w3 Dr
   obtain⟨b,rfl,hA,hb,hk3⟩:=Dr
   have HM:=ah (show dx w [] (-1) 1 (.returned (.tuple #[.pointer (some ⟨b,0,none⟩),.int .i64 0])) w3 from dx.base ⟨b,rfl,hA,hb,hk3⟩ HF.out.2.2.1)
   clear mU hA hb hk3 hcb hLn
   go_wp2
   go_ret2
   refine .inl ⟨HF.out.1,HF.out.2.1,?_⟩
   have e1:=H0.out.2
   have hM:=HM.out
   rw[if_pos H0.out.1,if_pos H0.out.1]
   have e2:aG ks=[]:=by rw[e1];rfl
   rw[e2]
   exact hM
  ·have q0:((ks.length:Int) == 0)=false:=by rw[beq_eq_false_iff_ne];omega
   have H0:=ah h0
   clear h0
   go_wp2_with (go_at_call 221;refine hLn.mono ?_;rintro e w' ⟨rfl,rfl⟩)
   refine rQ.mono ?_
   rintro en w3 ⟨gN,rfl,Wz⟩
   clear rQ hLn hcb
   obtain⟨i,hi,hz0,hz1,hz2⟩:=info_parts pU
   have hmk:=fun w=>run_make (P:=Tryz.prog) w 25 3 i _ Tryz.underlying25 hi hz0 .i64 .i64 (ks.length:Int) (ks.length:Int) (by omega) (Int.le_refl _) (by rw[hz2];omega) (by omega)
   simp only [hz1,Int.toNat_natCast,Nat.mul_one] at hmk
   clear hi hz0 hz1 hz2
   have uI:w.heap.size≤w3.heap.size:=by
    obtain⟨_,_,_,_,_,hk⟩:=Wz
    have:=hk.size
    omega
   have hD0:DS w bm bo bi bp ks w3.heap.size w1.heap.size gN (15 * ks.length) (tH ks 0) (w3.alloc (.cells (madeCells #[.int .i64 0] ks.length) 3)):=by
    obtain⟨F',h1,h2,h3,h5,hk2⟩:=Wz
    have ka:=(Keeps.refl (fun _=>False) w3).alloc (.cells (madeCells #[.int .i64 0] ks.length) 3)
    have lM:=HF.out.2.2.1.trans hk2 (fun x hx e=>by omega)
    have hs3:=hk2.size
    have hgl:=h5.lt gN rfl
    refine⟨⟨F',(h1.keeps ka (fun _ _ h=>h)).more (by omega),fun x hx=>?_,fun hx=>?_,fun hx=>?_,h3⟩,aO.made' lM ks.length _ (fun i hi=>by omega) (by omega),ka.at (hk2.at HF.out.2.2.2.1 (fun e=>by omega)) (fun h=>h),(h5.mono (fun q hq=>by have:=(h5.lt q hq).1;omega)).alloc _,⟨by omega,by omega,by omega⟩⟩
    ·have hs4:=ka.size
     rcases h2 x hx with e|e
     ·omega
     ·omega
    ·rcases h2 _ hx with e|e
     ·omega
     ·omega
    ·rcases h2 _ hx with e|e
     ·omega
     ·omega
   have HD0:=ah hD0
   clear Wz hD0
   go_wp2_with fail
   clear hmk
   generalize World.alloc w3 _=wM at *
   obtain⟨g,hg⟩:∃ g,g=w3.heap.size:=⟨_,rfl⟩
   rw[← hg] at HD0 ⊢
   rw[← hbx] at HD0 ⊢
   clear hg
   go_loopg [32] ks.length (fun m i wr=>∃ j:Nat,j≤ks.length∧m=ks.length - j∧i=.int .i64 j∧DS w bm bo bi bp ks g bx gN (15 * ks.length+4 * j) (tH ks j) wr)
   case atStart=>exact⟨0,Nat.zero_le _,rfl,rfl,HD0.out⟩
   case round =>
    clear HD0 hbx Wy
    obtain⟨j,hj,aN,rfl,J9⟩:=hrel
    have HG:=ah aN
    clear aN
    by_cases hlt:j<ks.length
    ·have hWd:=HF.out.2.2.2.2
     obtain⟨F',hM,j5⟩:=J9.ask
     have hT:=qm6 hM hWd (by omega) hl hlt
     have hcx:=J9.cx
     have hn1:=(J9.nm.cell (i:=j) (jq (show ((List.range ks.length).map (bG ks))[j]? = some (bG ks j) by simp[hlt]))).1
     have htl:=hWd.fF.lt j hlt
     have hdl:=hWd.gu hlt
     have HA:=ah (aj j5 (aj hlt hWd))
     obtain⟨t,ht⟩:∃ t,t=tn ks j:=⟨_,rfl⟩
     obtain⟨d,hd⟩:∃ d,d=bG ks j:=⟨_,rfl⟩
     rw[← ht] at hT htl
     rw[← hd] at hn1 hdl
     have HT:=ah (aj ht hd)
     clear hM j5 J9 hWd ht hd
     go_wp2_with fail
     refine hT.mono ?_
     rintro en w4 ⟨rfl,hq⟩
     have Dt:=HA.out.1 _ _ hq
     have hn2:=(Dt.nm.cell (i:=t) (jq (show ((List.range ks.length).map (bG ks))[t]? = some (bG ks t) by simp[htl]))).1
     obtain⟨z,_,hcg,hfg⟩:=Dt.sl.cell d hdl
     have hfin:=(Dt.set (Q:=tH ks (j+1)) d ((bG ks t:Nat):Int) (fun zs hzl hP=>by rw[HT.out.1,HT.out.2];exact hP.step HA.out.2.2 HA.out.2.1 hzl)).more (q':=15 * ks.length+4 * (j+1)) (by omega)
     obtain⟨y,hy⟩:∃ y,y=bG ks t:=⟨_,rfl⟩
     rw[← hy] at hn2 hfin
     have HFn:=ah hfin
     clear hT hq Dt hfin hy hcx
     go_wp2
     go_roundg (ks.length - (j+1))
     case measure=>rw[HG.out];omega
     case rel=>exact⟨j+1,by omega,rfl,by go_num,HFn.out⟩
    ·obtain rfl:j=ks.length:=by omega
     obtain⟨zs,z1,z2,z3,z4⟩:=J9.sl
     have hWd:=HF.out.2.2.2.2
     have hz:=z2.done hWd z1
     subst hz
     have hl2:(aG ks).length=ks.length:=kJ ks
     have mU:=VG (.slice (some ⟨g,0,none⟩) ks.length ks.length) (aG ks) 0 0 wr z3.sl hWd.eB (by rw[hl2];exact hWd.jJ) (by rw[hl2];have:=H0.out;omega) (by omega) (by omega)
     have HK:=ah z4
     clear J9 z1 z2 z3 z4 hWd hl2
     go_wp2_with fail
     refine mU.mono ?_
     rintro en w5 Dr
     obtain⟨b,rfl,hA,hb,hk3⟩:=Dr
     have HM:=ah (show dx w (aG ks) (0:Nat) (0:Nat) (.returned (.tuple #[.pointer (some ⟨b,0,none⟩),.int .i64 0])) w5 from dx.base ⟨b,rfl,hA,hb,hk3⟩ HK.out)
     clear mU hA hb hk3
     go_wp2
     go_ret2
     refine .inl ⟨HF.out.1,HF.out.2.1,?_⟩
     rw[if_neg H0.out,if_neg H0.out]
     exact HM.out
end
