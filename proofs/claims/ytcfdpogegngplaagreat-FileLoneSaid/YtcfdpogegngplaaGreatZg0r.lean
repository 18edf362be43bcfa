import Derived.Lib.SmallJoins
import Derived.Test.YtcfdpogegngplaaGreatZg0q
import Derived.Test.YtcfdpogegngplaaGreatZg11
set_option maxRecDepth 100000
set_option maxHeartbeats 4000000
namespace Go.Proofs.YtcfdpogegngplaaGreat
open Go.RowKit
def cu(t p l:Bool):Value:=.agg #[.bool t,.bool p,.bool l]
def lU(t p l:Bool):Nat:=t.toNat+2 * p.toNat+4 * l.toNat
theorem Xc(t p l:Bool):lU t p l<8:=by cases t <;> cases p <;> cases l <;> decide
theorem qmb{b:Nat}(h:b<8):∃ t p l,lU t p l=b:=by
 have:∀ b:Fin 8,∃ t p l,lU t p l=b.val:=by decide
 exact this ⟨b,h⟩
theorem qhf(t p l:Bool)(w:World) :
  Calls Tryz.prog 80 #[.int .u8 (lU t p l:Nat)] w fun e w'=>e=.returned (cu t p l)∧Keeps (fun _=>False) w w':=by
 obtain⟨x,y,z,e1,e2,e3,t1,t2,t3⟩:∃ x y z:Nat,bits .and .u8 (lU t p l:Nat) 1=(x:Int)∧bits .and .u8 (lU t p l:Nat) 2=(y:Int)∧bits .and .u8 (lU t p l:Nat) 4=(z:Int)∧decide (0<x)=t∧decide (0<y)=p∧decide (0<z)=l:=by
  have hl:=Xc t p l
  refine⟨_,_,_,u8_and_nat _ 1 (by omega) (by decide),u8_and_nat _ 2 (by omega) (by decide),u8_and_nat _ 4 (by omega) (by decide),?_,?_,?_⟩
  all_goals (cases t <;> cases p <;> cases l <;> decide)
 unfold cu
 generalize lU t p l=b at *
 have HK:=ah ((Keeps.refl (fun _=>False) w).alloc (.cells #[.bool t,.bool p,.bool l] 35))
 go_enter Tryz.func80,Tryz.ntmps80
 go_wp2_with fail
 refine bodyPost_ret (v:=.agg #[.bool t,.bool p,.bool l]) (by simp[results,Tryz.results80,go_sem]) rfl ?_
 exact⟨rfl,HK.out⟩
def gK(cs:List Nat):Nat:=if cs.length<3∨cs.take 2≠[80,81] then 3 else if 8≤cs.getD 2 0 then 15 else 0
theorem qbf(t p l:Bool)(w:World) :
  Calls Tryz.prog 96 #[cu t p l] w fun e w'=>e=.returned (.int .u8 (lU t p l:Nat))∧Keeps (fun _=>False) w w':=by
 obtain⟨a1,a2,a3,h1,h2,h3,hb1,hb2,o1,o2,o3⟩:∃ a1 a2 a3:Nat,a1=t.toNat∧a2=t.toNat+2 * p.toNat∧a3=lU t p l∧a1<256∧a2<256∧(t=true→bits .or .u8 0 1=(a1:Int))∧(p=true→bits .or .u8 (a1:Int) 2=(a2:Int))∧(l=true→bits .or .u8 (a2:Int) 4=(a3:Int)):=by
  refine⟨_,_,_,rfl,rfl,rfl,?_,?_,?_,?_,?_⟩
  ·cases t <;> decide
  ·cases t <;> cases p <;> decide
  ·rintro rfl;decide
  ·rintro rfl;cases t <;> decide
  ·rintro rfl;cases t <;> cases p <;> decide
 rw[← h3]
 have e1:t=false→a1=0:=by rintro rfl;exact h1
 have e2:p=false→a2=a1:=by rintro rfl;rw[h1,h2];rfl
 have e3:l=false→a3=a2:=by rintro rfl;rw[h2,h3];rfl
 clear h1 h2 h3
 unfold cu
 have kA:=((Keeps.refl (fun _=>False) w).alloc (.cells #[.bool t,.bool p,.bool l] 35))
 go_enter Tryz.func96,Tryz.ntmps96
 go_wp2_with fail
 generalize hW:World.alloc _ _=W1
 have hblk:∃ T,W1.heap[w.heap.size+1]? = some (.cells #[.bool t,.int .u8 1,.bool p,.int .u8 2,.bool l,.int .u8 4] T (0,0)):=by
  rw[← hW]
  have h5:=fun o=>heap_alloc_new (w.alloc (.cells #[.bool t,.bool p,.bool l] 35)) o
  have h6:(w.alloc (.cells #[.bool t,.bool p,.bool l] 35)).heap.size=w.heap.size+1:=by simp
  rw[h6] at h5
  exact⟨_,h5 _⟩
 have hkp:Keeps (fun _=>False) w W1:=by rw[← hW];exact kA.alloc _
 obtain⟨T,hblk⟩:=hblk
 obtain⟨g,hg⟩:∃ g,g=w.heap.size+1:=⟨_,rfl⟩
 rw[← hg] at hblk ⊢
 have HB:=ah (aj hblk hkp)
 clear hW hblk hkp kA hg
 go_loopg [3,17] 3 (fun mu bv iv wr=>∃ j:Nat,j≤3∧mu=3 - j∧iv=.int .i64 j∧((j=0∧bv=.int .u8 0)∨(j=1∧bv=.int .u8 a1)∨(j=2∧bv=.int .u8 a2)∨(j=3∧bv=.int .u8 a3))∧wr.heap[g]? = some (.cells #[.bool t,.int .u8 1,.bool p,.int .u8 2,.bool l,.int .u8 4] T (0,0))∧Keeps (fun _=>False) w wr)
 case atStart=>exact⟨0,by omega,rfl,rfl,.inl ⟨rfl,rfl⟩,HB.out⟩
 case round =>
  clear HB
  obtain⟨j,hj,aN,rfl,hjv,hb,hk⟩:=hrel
  have HG:=ah aN
  have c0:=ak hb 0
  have c1:=ak hb 1
  have c2:=ak hb 2
  have c3:=ak hb 3
  have c4:=ak hb 4
  have c5:=ak hb 5
  clear aN
  have HK:=ah (show ∀ o,(wr.alloc o).heap[g]? = some (.cells #[.bool t,.int .u8 1,.bool p,.int .u8 2,.bool l,.int .u8 4] T (0,0))∧Keeps (fun _=>False) w (wr.alloc o) from fun o=>⟨((Keeps.refl (fun _=>False) wr).alloc o).at hb (fun h=>h),hk.alloc o⟩)
  have HE:=ah hk
  clear hb hk
  rcases hjv with⟨rfl,rfl⟩|⟨rfl,rfl⟩|⟨rfl,rfl⟩|⟨rfl,rfl⟩
  ·cases t
   ·have:=e1 rfl
    subst this
    go_wp2_with fail
    go_roundg 2
    case measure=>rw[HG.out];omega
    case rel=>exact⟨1,by omega,rfl,rfl,.inr (.inl ⟨rfl,rfl⟩),HK.out _⟩
   ·have:=o1 rfl
    go_wp2_with fail
    go_roundg 2
    case measure=>rw[HG.out];omega
    case rel=>exact⟨1,by omega,rfl,rfl,.inr (.inl ⟨rfl,rfl⟩),HK.out _⟩
  ·cases p
   ·have:=e2 rfl
    subst this
    go_wp2_with fail
    go_roundg 1
    case measure=>rw[HG.out];omega
    case rel=>exact⟨2,by omega,rfl,rfl,.inr (.inr (.inl ⟨rfl,rfl⟩)),HK.out _⟩
   ·have:=o2 rfl
    go_wp2_with fail
    go_roundg 1
    case measure=>rw[HG.out];omega
    case rel=>exact⟨2,by omega,rfl,rfl,.inr (.inr (.inl ⟨rfl,rfl⟩)),HK.out _⟩
  ·cases l
   ·have:=e3 rfl
    subst this
    go_wp2_with fail
    go_roundg 0
    case measure=>rw[HG.out];omega
    case rel=>exact⟨3,by omega,rfl,rfl,.inr (.inr (.inr ⟨rfl,rfl⟩)),HK.out _⟩
   ·have:=o3 rfl
    go_wp2_with fail
    go_roundg 0
    case measure=>rw[HG.out];omega
    case rel=>exact⟨3,by omega,rfl,rfl,.inr (.inr (.inr ⟨rfl,rfl⟩)),HK.out _⟩
  ·go_wp2
   go_ret
   exact⟨rfl,HE.out⟩
theorem EZ(w:World)(y z:Nat):Sl .u8 (w.alloc (.cells #[.int .u8 (y:Int),.int .u8 (z:Int)] 5 (2,3))) (.slice (some ⟨w.heap.size,0,none⟩) 2 2) (aB [y,z]):=by
 have hb:=heap_alloc_new w (.cells #[.int .u8 (y:Int),.int .u8 (z:Int)] 5 (2,3))
 refine⟨_,2,rfl,Nat.le_refl _,by decide,(fun h=>by cases h),fun j x hj=>⟨w.heap.size,0,rfl,?_⟩⟩
 rw[Nat.zero_add,ak hb]
 match j,hj with
 | 0,hj=>simp[aB] at hj;subst hj;rfl
 | 1,hj=>simp[aB] at hj;subst hj;rfl
 | j+2,hj=>simp[aB] at hj
def iF(cs:List Nat):Value:=if gK cs=0 then (match cs.getD 2 0 with|b=>.agg #[.bool (b % 2 == 1),.bool (b / 2 % 2 == 1),.bool (b / 4 % 2 == 1)]) else cu false false false
theorem qge(t p l:Bool):(lU t p l % 2 == 1)=t∧(lU t p l / 2 % 2 == 1)=p∧(lU t p l / 4 % 2 == 1)=l:=by cases t <;> cases p <;> cases l <;> decide
theorem qdc(pv:Value)(cs:List Nat)(w:World)(hp:Sl .u8 w pv (aB cs))(hcs:∀ x ∈ cs,x<256)(hl:cs.length≤100000000) :
  Calls Tryz.prog 35 #[pv] w fun e w'=>e=.returned (.tuple #[iF cs,.int .i64 (gK cs:Nat)])∧Keeps (fun _=>False) w w':=by
 obtain⟨pa,pc,rfl,hpc,hpm⟩:=hp.kP
 have k0:=(Keeps.refl (fun _=>False) w).alloc (.cells #[.bool false,.bool false,.bool false] 35)
 have l8:=ah k0
 by_cases h3:cs.length<3
 ·have hc:gK cs=3:=by unfold gK;rw[if_pos (.inl h3)]
  have hv:iF cs=cu false false false:=by unfold iF;rw[if_neg (by rw[hc];decide)]
  rw[hc,hv]
  unfold cu
  have t0:decide ((cs.length:Int)<3)=true:=decide_eq_true (by omega)
  clear hp hcs hc hv k0
  generalize cs.length=n at *
  go_enter Tryz.func35,Tryz.ntmps35
  go_wp2_with fail
  refine bodyPost_ret (v:=.tuple #[.agg #[.bool false,.bool false,.bool false],.int .i64 3]) (by simp[results,Tryz.results35,go_sem]) rfl ?_
  exact⟨rfl,l8.out⟩
 ·have t0:decide ((cs.length:Int)<3)=false:=decide_eq_false (by omega)
  have hsl:=hp.keeps k0 (fun _ _ h=>h)
  have k1:=k0.alloc (.cells #[.int .u8 ((80:Nat):Int),.int .u8 ((81:Nat):Int)] 5 (2,3))
  have hB:=Xb _ _ cs [80,81] _ (hp.keeps k1 (fun _ _ h=>h)) (EZ (w.alloc (.cells #[.bool false,.bool false,.bool false] 35)) 80 81) hcs (by decide)
  have R4:((80:Nat):Int)=80:=rfl
  have R6:((81:Nat):Int)=81:=rfl
  rw[R4,R6] at hB k1
  have hlit:(List.length [80,81])=2:=rfl
  rw[hlit] at hB
  have kc:=Go.Joins.run_convert_bytes_const_at (P:=Tryz.prog) (w.alloc (.cells #[.bool false,.bool false,.bool false] 35)) 30 5 #[.int .u8 80,.int .u8 81] 2 2 (w.heap.size+1) (by simp) Tryz.underlying30 Tryz.underlying5
  have kc2:(w.alloc (.cells #[.bool false,.bool false,.bool false] 35)).heap.size=w.heap.size+1:=by simp
  rw[kc2] at hB
  have hbk:∀ i,((w.alloc (.cells #[.bool false,.bool false,.bool false] 35)).alloc (.cells #[.int .u8 80,.int .u8 81] 5 (2,3))).frozen? ⟨w.heap.size,i,none⟩=false:=fun i=>au (((Keeps.refl (fun _=>False) (w.alloc (.cells #[.bool false,.bool false,.bool false] 35))).alloc (.cells #[.int .u8 80,.int .u8 81] 5 (2,3))).at (heap_alloc_new w _) (fun h=>h)) i
  have BD:=ah k1
  have HO:Hid (∀ t p l,Keeps (fun _=>False) w (((((w.alloc (.cells #[.bool false,.bool false,.bool false] 35)).alloc (.cells #[.int .u8 80,.int .u8 81] 5 (2,3))).setCell ⟨w.heap.size,0,none⟩ (.bool t)).setCell ⟨w.heap.size,1,none⟩ (.bool p)).setCell ⟨w.heap.size,2,none⟩ (.bool l))):=ah (fun t p l=>((k1.setCell (p:=⟨w.heap.size,0,none⟩) (.inr (Nat.le_refl _)) _).setCell (p:=⟨w.heap.size,1,none⟩) (.inr (Nat.le_refl _)) _).setCell (p:=⟨w.heap.size,2,none⟩) (.inr (Nat.le_refl _)) _)
  clear kc2
  by_cases hm:cs.take 2=[80,81]
  ·rw[decide_eq_true hm] at hB
   obtain⟨c,hc2⟩:∃ c,cs[2]? = some c:=⟨_,List.getElem?_eq_getElem (by omega)⟩
   have hc256:=hcs c (List.mem_of_getElem? hc2)
   have hgd:cs.getD 2 0=c:=by rw[List.getD_eq_getElem?_getD,hc2];rfl
   obtain⟨g,off,rfl,hcell⟩:=(hp.keeps k1 (fun _ _ h=>h)).cellAt (by simp[aB,hc2]:(aB cs)[2]? = some (c:Int))
   have J4:3≤cs.length:=by omega
   by_cases h8:8≤c
   ·have hc:gK cs=15:=by unfold gK;rw[if_neg (by rintro (h|h);omega;exact h hm),hgd,if_pos h8]
    have hv:iF cs=cu false false false:=by unfold iF;rw[if_neg (by rw[hc];decide)]
    rw[hc,hv]
    unfold cu
    have t1:decide ((8:Int)≤(c:Int))=true:=decide_eq_true (by omega)
    clear hp hcs hc hv k0 k1 hsl hm hlit hc2 hgd hbk
    generalize cs.length=n at *
    go_enter Tryz.func35,Tryz.ntmps35
    go_wp2_with fail
    refine hB.mono ?_
    rintro e w' ⟨rfl,rfl⟩
    clear hB kc
    go_wp2_with fail
    refine bodyPost_ret (v:=.tuple #[.agg #[.bool false,.bool false,.bool false],.int .i64 15]) (by simp[results,Tryz.results35,go_sem]) rfl ?_
    exact⟨rfl,BD.out⟩
   ·obtain⟨t,p,l,hf⟩:=qmb (b:=c) (by omega)
    have hc:gK cs=0:=by unfold gK;rw[if_neg (by rintro (h|h);omega;exact h hm),hgd,if_neg h8]
    have hv:iF cs=cu t p l:=by
     obtain⟨f1,f2,f3⟩:=qge t p l
     unfold iF cu
     rw[if_pos hc,hgd,← hf]
     simp only
     rw[f1,f2,f3]
    rw[hc,hv]
    unfold cu
    have t1:decide ((8:Int)≤(c:Int))=false:=decide_eq_false (by omega)
    have BF:=fun W=>qhf t p l W
    rw[hf] at BF
    unfold cu at BF
    have HB:Hid (∀ W,Keeps (fun _=>False) ((w.alloc (.cells #[.bool false,.bool false,.bool false] 35)).alloc (.cells #[.int .u8 80,.int .u8 81] 5 (2,3))) W→W.heap[w.heap.size]? = some (.cells #[.bool false,.bool false,.bool false] 35 (0,0))):=ah (fun W hW=>hW.at (((Keeps.refl (fun _=>False) (w.alloc (.cells #[.bool false,.bool false,.bool false] 35))).alloc (.cells #[.int .u8 80,.int .u8 81] 5 (2,3))).at (heap_alloc_new w _) (fun h=>h)) (fun h=>h))
    clear hp hcs hc hv k0 k1 hsl hm hlit hc2 hgd hbk hf
    generalize cs.length=n at *
    go_enter Tryz.func35,Tryz.ntmps35
    go_wp2_with fail
    refine hB.mono ?_
    rintro e w' ⟨rfl,rfl⟩
    clear hB kc
    go_wp2_with fail
    refine (BF _).mono ?_
    rintro e w6 ⟨rfl,iI⟩
    clear BF
    have hb6:=HB.out w6 iI
    have d0:=ak hb6 0
    have d1:=ak hb6 1
    have d2:=ak hb6 2
    have df:=au hb6
    have k6:=BD.out.trans iI (fun _ _ h=>h)
    have HF:=ah (((k6.setCell (p:=⟨w.heap.size,0,none⟩) (.inr (Nat.le_refl _)) (.bool t)).setCell (p:=⟨w.heap.size,1,none⟩) (.inr (Nat.le_refl _)) (.bool p)).setCell (p:=⟨w.heap.size,2,none⟩) (.inr (Nat.le_refl _)) (.bool l))
    have g0:=dM hb6 0 (.bool t)
    have g1:=dM g0 1 (.bool p)
    have g2:=dM g1 2 (.bool l)
    have r0:(w6.setCell ⟨w.heap.size,0,none⟩ (.bool t)).cell? ⟨w.heap.size,0,none⟩=some (.bool t):=ak g0 0
    have r1:((w6.setCell ⟨w.heap.size,0,none⟩ (.bool t)).setCell ⟨w.heap.size,1,none⟩ (.bool p)).cell? ⟨w.heap.size,1,none⟩=some (.bool p):=ak g1 1
    have r2:(((w6.setCell ⟨w.heap.size,0,none⟩ (.bool t)).setCell ⟨w.heap.size,1,none⟩ (.bool p)).setCell ⟨w.heap.size,2,none⟩ (.bool l)).cell? ⟨w.heap.size,2,none⟩=some (.bool l):=ak g2 2
    have HR:=ah (aj r0 (aj r1 r2))
    clear hb6 k6 iI g0 g1 g2 r0 r1 r2
    go_wp2_with fail
    obtain⟨r0,r1,r2⟩:=HR.out
    refine bodyPost_ret (v:=.tuple #[.agg #[.bool t,.bool p,.bool l],.int .i64 0]) (by simp[results,Tryz.results35,go_sem,r0,r1,r2]) rfl ?_
    exact⟨rfl,HF.out⟩
  ·rw[decide_eq_false hm] at hB
   have hc:gK cs=3:=by unfold gK;rw[if_pos (.inr hm)]
   have hv:iF cs=cu false false false:=by unfold iF;rw[if_neg (by rw[hc];decide)]
   rw[hc,hv]
   unfold cu
   clear hp hcs hc hv k0 k1 hsl hm hlit
   generalize cs.length=n at *
   go_enter Tryz.func35,Tryz.ntmps35
   go_wp2_with fail
   refine hB.mono ?_
   rintro e w' ⟨rfl,rfl⟩
   clear hB
   clear hbk kc
   go_wp2_with fail
   refine bodyPost_ret (v:=.tuple #[.agg #[.bool false,.bool false,.bool false],.int .i64 3]) (by simp[results,Tryz.results35,go_sem]) rfl ?_
   exact⟨rfl,BD.out⟩
