import Derived.Deep.CutRange
import Derived.Test.YtcfdpogegngplaaGreatZg13
set_option maxRecDepth 100000
set_option maxHeartbeats 4000000
namespace Go.Proofs.YtcfdpogegngplaaGreat
section
open Go.RowKit
def fB(W:World)(g:Nat)(cs:List (Nat × Nat)):Prop :=
 ∃ arr:Array Value,W.heap[g]? = some (.cells arr 270 (0,0))∧arr.size=2 * cs.length∧∀ i c,cs[i]? = some c→arr[i * 2]? = some (.int .u64 c.1)∧arr[i * 2+1]? = some (.int .u64 c.2)
theorem fB.keeps{W W':World}{g:Nat}{cs:List (Nat × Nat)}{G:Nat→Prop}(h:fB W g cs)(k:Keeps G W W')(hG:¬ G g):fB W' g cs:=by
 obtain⟨arr,h1,h2,h3⟩:=h
 exact⟨arr,k.at h1 hG,h2,h3⟩
theorem fB.cell{W:World}{g:Nat}{cs:List (Nat × Nat)}(h:fB W g cs){i:Nat}{c:Nat × Nat}(hc:cs[i]? = some c):W.cell? ⟨g,i * 2,none⟩=some (.int .u64 c.1)∧W.cell? ⟨g,i * 2+1,none⟩=some (.int .u64 c.2)∧∀ j,W.frozen? ⟨g,j,none⟩=false:=by
 obtain⟨arr,h1,h2,h3⟩:=h
 obtain⟨e1,e2⟩:=h3 i c hc
 exact⟨(ak h1 (i * 2)).trans e1,(ak h1 (i * 2+1)).trans e2,au h1⟩
theorem fB.set{W:World}{g:Nat}{cs:List (Nat × Nat)}(h:fB W g cs){i:Nat}(hi:i<cs.length)(x y:Nat):fB ((W.setCell ⟨g,i * 2,none⟩ (.int .u64 (x:Int))).setCell ⟨g,i * 2+1,none⟩ (.int .u64 (y:Int))) g (cs.set i (x,y)):=by
 obtain⟨arr,h1,h2,h3⟩:=h
 refine⟨_,dM (dM h1 (i * 2) _) (i * 2+1) _,by simp[h2],fun j c hc=>?_⟩
 by_cases hj:i=j
 ·subst hj
  rw[List.getElem?_set_self hi] at hc
  obtain rfl:=Option.some.inj hc
  constructor
  ·rw[Array.getElem?_setIfInBounds_ne (by omega),Array.getElem?_setIfInBounds_self_of_lt (by omega)]
  ·rw[Array.getElem?_setIfInBounds_self_of_lt (by simp;omega)]
 ·rw[List.getElem?_set_ne hj] at hc
  obtain⟨e1,e2⟩:=h3 j c hc
  constructor
  ·rw[Array.getElem?_setIfInBounds_ne (by omega),Array.getElem?_setIfInBounds_ne (by omega),e1]
  ·rw[Array.getElem?_setIfInBounds_ne (by omega),Array.getElem?_setIfInBounds_ne (by omega),e2]
theorem fB.put{W:World}{g:Nat}{cs:List (Nat × Nat)}(h:fB W g cs){i:Nat}{c:Nat × Nat}(hc:cs[i]? = some c)(b:Bool)(z:Nat):fB (W.setCell ⟨g,i * 2+b.toNat,none⟩ (.int .u64 (z:Int))) g (cs.set i (if b then (c.1,z) else (z,c.2))):=by
 obtain⟨arr,h1,h2,h3⟩:=h
 have hi:=E9 hc
 obtain⟨f1,f2⟩:=h3 i c hc
 refine⟨_,dM h1 (i * 2+b.toNat) _,by simp[h2],fun j d hd=>?_⟩
 by_cases hj:i=j
 ·subst hj
  rw[List.getElem?_set_self hi] at hd
  obtain rfl:=Option.some.inj hd
  cases b
  ·simp only [Bool.toNat_false,Nat.add_zero,Bool.false_eq_true,if_false]
   exact⟨by rw[Array.getElem?_setIfInBounds_self_of_lt (by omega)],by rw[Array.getElem?_setIfInBounds_ne (by omega),f2]⟩
  ·simp only [Bool.toNat_true,if_true]
   exact⟨by rw[Array.getElem?_setIfInBounds_ne (by omega),f1],by rw[Array.getElem?_setIfInBounds_self_of_lt (by omega)]⟩
 ·rw[List.getElem?_set_ne hj] at hd
  obtain⟨e1,e2⟩:=h3 j d hd
  have hb:b.toNat≤1:=by cases b <;> simp
  constructor
  ·rw[Array.getElem?_setIfInBounds_ne (by omega),e1]
  ·rw[Array.getElem?_setIfInBounds_ne (by omega),e2]
def ny(W:World)(bm gc:Nat)(m:CM):Prop:=W.heap[bm]? = some (.cells #[.slice (some ⟨gc,0,none⟩) m.cs.length m.cs.length,.int .u64 m.now] 273 (0,0))∧fB W gc m.cs∧bm≠gc
theorem ny.keeps{W W':World}{bm gc:Nat}{m:CM}{G:Nat→Prop}(h:ny W bm gc m)(k:Keeps G W W')(h1:¬ G bm)(h2:¬ G gc):ny W' bm gc m:=⟨k.at h.1 h1,h.2.1.keeps k h2,h.2.2⟩
theorem q7n(bm gc:Nat)(m:CM)(N:Nat)(x:Bool)(w:World)(hM:ny w bm gc m)(hm:m.Ok N)(hN:N≤1000000) :
  Calls Tryz.prog 200 #[.pointer (some ⟨bm,0,none⟩),.int .i64 (x.toNat:Int)] w fun e w'=>e=.returned (.tuple #[])∧ny w' bm gc (m.see x)∧Keeps (fun k=>k=bm∨k=gc) w w':=by
 obtain⟨hB,hC,hne⟩:=hM
 obtain⟨tO,hcur⟩:=hm.cur
 obtain⟨cs,p⟩:=m
 have hlen:cs.length=N:=hm.len
 have aj8:p<N:=hm.lt
 simp only at hB hC hcur
 obtain⟨⟨a,d⟩,Ai⟩:∃ c:Nat × Nat,CM.cur ⟨cs,p⟩=c:=⟨_,rfl⟩
 rw[Ai] at tO hcur
 obtain⟨ha1,hd1,had⟩:=tO
 simp only at ha1 hd1 had
 obtain⟨e1,e2,ef⟩:=hC.cell hcur
 simp only at e1 e2
 have c0:=ak hB 0
 have c1:=ak hB 1
 have fb:=au hB
 rw[hlen] at hB c0
 obtain⟨k,hk,hk1⟩:∃ k,k=x.toNat∧k≤1:=⟨_,rfl,by cases x <;> simp⟩
 obtain⟨vk,hvk⟩:∃ vk,vk=if x then d else a:=⟨_,rfl⟩
 obtain⟨A,B,BH⟩:∃ A B,(A,B)=if x then (a,vk+1) else (vk+1,d):=by cases x <;> exact⟨_,_,rfl⟩
 obtain⟨nc,hnc⟩:∃ nc,nc=xP (a,d) x:=⟨_,rfl⟩
 have OB:(A+B=65536∧nc=((A+1) / 2,(B+1) / 2))∨(¬ A+B=65536∧nc=(A,B)):=by
  rw[hnc]
  unfold xP
  cases x
  ·simp only [Bool.false_eq_true,if_false] at BH hvk ⊢
   obtain⟨rfl,rfl⟩:=Prod.mk.inj BH
   subst hvk
   by_cases h:vk+1+B=65536
   ·rw[if_pos h];exact .inl ⟨h,rfl⟩
   ·rw[if_neg h];exact .inr ⟨h,rfl⟩
  ·simp only [if_true] at BH hvk ⊢
   obtain⟨rfl,rfl⟩:=Prod.mk.inj BH
   subst hvk
   by_cases h:A+(vk+1)=65536
   ·rw[if_pos h];exact .inl ⟨h,rfl⟩
   ·rw[if_neg h];exact .inr ⟨h,rfl⟩
 have hvb:vk<65536∧A<65537∧B<65537:=by
  cases x
  ·simp only [Bool.false_eq_true,if_false] at BH hvk
   obtain⟨rfl,rfl⟩:=Prod.mk.inj BH
   omega
  ·simp only [if_true] at BH hvk
   obtain⟨rfl,rfl⟩:=Prod.mk.inj BH
   omega
 have OC:∀ W,fB W gc cs→W.cell? ⟨gc,p * 2+k,none⟩=some (.int .u64 vk)∧(∀ j,W.frozen? ⟨gc,j,none⟩=false)∧fB (W.setCell ⟨gc,p * 2+k,none⟩ (.int .u64 ((vk:Int)+1))) gc (cs.set p (A,B)):=fun W hW=>by
  obtain⟨f1,f2,f3⟩:=hW.cell hcur
  have hp:=hW.put hcur x (vk+1)
  have hz:((vk+1:Nat):Int)=(vk:Int)+1:=by omega
  rw[hz,← hk] at hp
  refine⟨?_,f3,?_⟩
  ·rw[hk,hvk];cases x
   ·exact f1
   ·exact f2
  ·rw[BH]
   cases x
   ·simp only [Bool.false_eq_true,if_false] at hp ⊢;exact hp
   ·simp only [if_true] at hp ⊢;exact hp
 obtain⟨q,hq⟩:∃ q,q=(2 * p+k) % N:=⟨_,rfl⟩
 have eq1:(2 * (p:Int)+(k:Int)) % (N:Int)=(q:Int):=by rw[hq];push_cast;rfl
 have hfin:CM.see ⟨cs,p⟩ x=⟨cs.set p nc,q⟩:=by
  show (⟨cs.set p (xP (CM.cur ⟨cs,p⟩) x),(2 * p+Bool.toNat x) % cs.length⟩:CM)=_
  rw[Ai,← hnc,hlen,hq,hk]
 have G0:∀ W cs',fB W gc cs'→W.heap[bm]? = some (.cells #[.slice (some ⟨gc,0,none⟩) N N,.int .u64 p] 273 (0,0))→True:=fun _ _ _ _=>trivial
 have HX:=ah (aj hfin (aj OC (aj OB (aj hcur (aj hC (aj hB hlen))))))
 have hpc:p<cs.length:=by omega
 rw[hfin,← hk]
 clear hfin OC OB hcur hC Ai hnc BH hvk hq hk G0 hm ha1 hd1 had hlen
 go_enter Tryz.func200,Tryz.ntmps200
 go_wp2_with fail
 go_cut [4] from 5 to 13 (fun v wx=>v=.pointer (some ⟨gc,p * 2,none⟩)∧fB wx gc cs∧wx.heap[bm]? = some (.cells #[.slice (some ⟨gc,0,none⟩) N N,.int .u64 p] 273 (0,0))∧Keeps (fun k=>k=bm∨k=gc) w wx)
 case first =>
  go_quiet (fail)
  have hk0:=(Keeps.refl (fun _=>False) w).drewN nq
  have HF:=ah (aj (HX.out.2.2.2.2.1.keeps hk0 (fun h=>h)) (aj (hk0.at HX.out.2.2.2.2.2.1 (fun h=>h)) (hk0.mono (fun _ _ h=>h.elim):Keeps (fun k=>k=bm∨k=gc) w (w.drewN nq))))
  go_wp2
  go_meet
  exact⟨rfl,HF.out⟩
 case rest =>
  obtain⟨rfl,hC1,hB1,BZ⟩:=hcut
  obtain⟨f1,f2,f3⟩:=HX.out.2.1 _ hC1
  have kg:=(Keeps.refl (fun q=>q=gc) wc).setCell (p:=⟨gc,p * 2+k,none⟩) (.inl rfl) (.int .u64 ((vk:Int)+1))
  have H1:=ah (aj f3 (aj (kg.at hB1 hne) (BZ.trans kg (fun _ _ h=>.inr h))))
  clear hC1 hB1 BZ f3 kg
  go_upto_region 1 with fail
  go_cut [] from 14 to 21 (fun wx=>fB wx gc (cs.set p (A,B))∧wx.heap[bm]? = some (.cells #[.slice (some ⟨gc,0,none⟩) N N,.int .u64 p] 273 (0,0))∧Keeps (fun k=>k=bm∨k=gc) w wx)
  case first =>
   go_region
   all_goals
    have hd:=(Keeps.refl (fun _=>False) (wc.setCell ⟨gc,p * 2+k,none⟩ (.int .u64 ((vk:Int)+1)))).drew
    have HF:=ah (aj (H1.out.1.keeps hd (fun h=>h)) (aj (hd.at H1.out.2.1 (fun h=>h)) (H1.out.2.2.trans hd (fun _ _ h=>h.elim))))
    clear hd
    go_wp2
    go_meet
    exact HF.out
  case rest =>
   clear H1 f1 f2
   obtain⟨hC2,hB2,hk2⟩:=hcut
   obtain⟨g1,g2,g3⟩:=hC2.cell (i:=p) (c:=(A,B)) (List.getElem?_set_self hpc)
   simp only at g1 g2
   have H2:=ah (aj hC2 (aj hB2 hk2))
   clear hC2 hB2 hk2
   obtain⟨tt,Xk⟩:∃ tt,(((A:Int)+(B:Int)) == 65536)=tt:=⟨_,rfl⟩
   have HT:=ah Xk
   go_upto_region 2 with fail
   go_cut [31] from 22 to 30 (fun s wx=>s=.bool tt∧fB wx gc (cs.set p (A,B))∧wx.heap[bm]? = some (.cells #[.slice (some ⟨gc,0,none⟩) N N,.int .u64 p] 273 (0,0))∧Keeps (fun k=>k=bm∨k=gc) w wx)
   case first =>
    go_quiet (fail)
    have kd:=(Keeps.refl (fun _=>False) wc).drewN nq
    have HF:=ah (aj (H2.out.1.keeps kd (fun h=>h)) (aj (kd.at H2.out.2.1 (fun h=>h)) (H2.out.2.2.trans kd (fun _ _ h=>h.elim))))
    clear kd
    go_wp2
    go_meet
    exact⟨by first|rfl|rw[Xk],HF.out⟩
   case rest =>
    clear H2 g1 g2 g3 Xk
    obtain⟨rfl,Fe,hB3,hk3⟩:=hcut
    obtain⟨g1,g2,g3⟩:=Fe.cell (i:=p) (c:=(A,B)) (List.getElem?_set_self hpc)
    simp only at g1 g2
    have H2:=ah (aj Fe (aj hB3 hk3))
    go_upto_if 31 with fail
    go_cut [] from 32 to 49 (fun wx=>fB wx gc (cs.set p nc)∧wx.heap[bm]? = some (.cells #[.slice (some ⟨gc,0,none⟩) N N,.int .u64 p] 273 (0,0))∧Keeps (fun k=>k=bm∨k=gc) w wx)
    case first =>
     rcases HX.out.2.2.1 with⟨hs,hnc⟩|⟨hs,hnc⟩
     ·have hset:=Fe.set (i:=p) (by rw[List.length_set];exact hpc) ((A+1) / 2) ((B+1) / 2)
      rw[List.set_set,← hnc] at hset
      have q1:tt=true:=by rw[← HT.out,beq_iff_eq];omega
      subst q1
      obtain⟨na,hna⟩:∃ na,na=(A+1) / 2:=⟨_,rfl⟩
      obtain⟨nd,hnd⟩:∃ nd,nd=(B+1) / 2:=⟨_,rfl⟩
      have ea:((A:Int)+1) / 2=(na:Int):=by omega
      have ed:((B:Int)+1) / 2=(nd:Int):=by omega
      rw[← hna,← hnd] at hset
      have hmid:fB (wc.setCell ⟨gc,p * 2,none⟩ (.int .u64 (na:Int))) gc _:=Fe.put (i:=p) (c:=(A,B)) (List.getElem?_set_self hpc) false na
      obtain⟨_,m2,m3⟩:=hmid.cell (i:=p) (List.getElem?_set_self (by rw[List.length_set];exact hpc))
      simp only [Bool.false_eq_true,if_false] at m2
      have ks:=((Keeps.refl (fun q=>q=gc) wc).setCell (p:=⟨gc,p * 2,none⟩) (.inl rfl) (.int .u64 (na:Int))).setCell (p:=⟨gc,p * 2+1,none⟩) (.inl rfl) (.int .u64 (nd:Int))
      have H3:=ah (aj hset (aj (ks.at hB3 hne) (hk3.trans ks (fun _ _ h=>.inr h))))
      clear hset ks hna hnd hnc hmid Fe hB3 hk3 hs
      go_wp2_with fail
      go_region
      all_goals
       have hd:=(Keeps.refl (fun _=>False) ((wc.setCell ⟨gc,p * 2,none⟩ (.int .u64 (na:Int))).setCell ⟨gc,p * 2+1,none⟩ (.int .u64 (nd:Int)))).drew
       have HF:=ah (aj (H3.out.1.keeps hd (fun h=>h)) (aj (hd.at H3.out.2.1 (fun h=>h)) (H3.out.2.2.trans hd (fun _ _ h=>h.elim))))
       clear hd
       go_wp2
       go_meet
       exact HF.out
     ·have q1:tt=false:=by rw[← HT.out,beq_eq_false_iff_ne];omega
      subst q1
      rw[← hnc] at Fe
      have HF:=ah (aj Fe (aj hB3 hk3))
      clear Fe hB3 hk3 hs hnc
      go_wp2
      go_meet
      exact HF.out
    case rest =>
     obtain⟨hC4,hB4,hk4⟩:=hcut
     have c0':=ak hB4 0
     have c1':=ak hB4 1
     have fb':=au hB4
     have r1:=dM hB4 1 (.int .u64 (q:Int))
     have ks:=(Keeps.refl (fun q=>q=bm) wc).setCell (p:=⟨bm,1,none⟩) (.inl rfl) (.int .u64 (q:Int))
     have hlen:=HX.out.2.2.2.2.2.2
     have HF:Hid (ny (wc.setCell ⟨bm,1,none⟩ (.int .u64 (q:Int))) bm gc ⟨cs.set p nc,q⟩∧Keeps (fun k=>k=bm∨k=gc) w (wc.setCell ⟨bm,1,none⟩ (.int .u64 (q:Int)))):=ah ⟨⟨by simpa [hlen] using r1,hC4.keeps ks (fun e=>hne e.symm),hne⟩,hk4.trans ks (fun _ _ h=>.inl h)⟩
     have hn0:¬ (N:Int)=0:=by omega
     clear hC4 hB4 hk4 r1 ks hlen
     go_upto_region 4 with fail
     go_region
     all_goals
      go_wp2
      go_end0
      have hd:=(Keeps.refl (fun _=>False) (wc.setCell ⟨bm,1,none⟩ (.int .u64 (q:Int)))).drew
      exact⟨rfl,HF.out.1.keeps hd (fun h=>h) (fun h=>h),HF.out.2.trans hd (fun _ _ h=>h.elim)⟩
end
section
open Go.RowKit
theorem qp4:(Tryz.prog.info? 270).map (fun i=>(i.zero,i.size,i.bytes))=some (some (.agg #[.int .u64 0,.int .u64 0]),2,16):=by kernel_rfl
def Dy(W:World)(g N j:Nat):Prop :=
 ∃ arr:Array Value,W.heap[g]? = some (.cells arr 270 (0,0))∧arr.size=2 * N∧∀ i,i<j→arr[i * 2]? = some (.int .u64 1)∧arr[i * 2+1]? = some (.int .u64 1)
theorem Dy.cells{W:World}{g N j:Nat}(h:Dy W g N j)(hj:j<N):(∃ v u,W.cell? ⟨g,j * 2,none⟩=some v∧W.cell? ⟨g,j * 2+1,none⟩=some u)∧∀ i,W.frozen? ⟨g,i,none⟩=false:=by
 obtain⟨arr,h1,h2,h3⟩:=h
 refine⟨⟨arr[j * 2]'(by omega),arr[j * 2+1]'(by omega),?_,?_⟩,au h1⟩
 ·exact (ak h1 (j * 2)).trans (Array.getElem?_eq_getElem (by omega))
 ·exact (ak h1 (j * 2+1)).trans (Array.getElem?_eq_getElem (by omega))
theorem Dy.step{W:World}{g N j:Nat}(h:Dy W g N j)(hj:j<N):Dy ((W.setCell ⟨g,j * 2,none⟩ (.int .u64 1)).setCell ⟨g,j * 2+1,none⟩ (.int .u64 1)) g N (j+1):=by
 obtain⟨arr,h1,h2,h3⟩:=h
 refine⟨_,dM (dM h1 (j * 2) _) (j * 2+1) _,by simp[h2],fun i hi=>?_⟩
 by_cases hij:i=j
 ·subst hij
  constructor
  ·rw[Array.getElem?_setIfInBounds_ne (by omega),Array.getElem?_setIfInBounds_self_of_lt (by omega)]
  ·rw[Array.getElem?_setIfInBounds_self_of_lt (by simp;omega)]
 ·obtain⟨e1,e2⟩:=h3 i (by omega)
  constructor
  ·rw[Array.getElem?_setIfInBounds_ne (by omega),Array.getElem?_setIfInBounds_ne (by omega),e1]
  ·rw[Array.getElem?_setIfInBounds_ne (by omega),Array.getElem?_setIfInBounds_ne (by omega),e2]
theorem Dy.done{W:World}{g N:Nat}(h:Dy W g N N):fB W g (List.replicate N (1,1)):=by
 obtain⟨arr,h1,h2,h3⟩:=h
 refine⟨arr,h1,by simp[h2],fun i c hc=>?_⟩
 have hi:=E9 hc
 rw[List.getElem?_eq_getElem hi,List.getElem_replicate] at hc
 obtain rfl:=Option.some.inj hc
 rw[List.length_replicate] at hi
 exact h3 i hi
theorem q99(k:Nat)(w:World)(hk:k≤8) :
  Calls Tryz.prog 198 #[.int .i64 k] w fun e w'=>∃ bm gc,e=.returned (.pointer (some ⟨bm,0,none⟩))∧ny w' bm gc (CM.new (2 ^ k))∧w.heap.size≤bm∧w.heap.size≤gc∧Keeps (fun _=>False) w w':=by
 obtain⟨i,hi,hz0,hz1,hz2⟩:=info_parts qp4
 obtain⟨N,hN⟩:∃ N,N=2 ^ k:=⟨_,rfl⟩
 have hNb:N≤256:=by rw[hN];exact Nat.pow_le_pow_right (by decide) hk (n:=2)
 have hN0:0<N:=by rw[hN];exact Nat.two_pow_pos k
 have hmk:=fun w=>run_make (P:=Tryz.prog) w 271 270 i _ Tryz.underlying271 hi hz0 .i64 .i64 (N:Int) (N:Int) (by omega) (Int.le_refl _) (by rw[hz2];omega) (by omega)
 simp only [hz1] at hmk
 have h0k:(0:Int)≤(k:Int):=by omega
 have Xl:(2:Int) ^ k=(N:Int):=by rw[hN];push_cast;rfl
 have hmin:min k 64=k:=by omega
 have Xm:IntKind.i64.wrap (N:Int)=(N:Int):=IntWalk.i64_in _ (by omega)
 rw[← hN]
 have HN:=ah hN
 clear hi hz0 hz1 hz2 hN
 go_enter Tryz.func198,Tryz.ntmps198
 go_wp2_with fail
 obtain⟨g,hg⟩:∃ g,g=w.heap.size:=⟨_,rfl⟩
 obtain⟨bm,gI⟩:∃ bm,bm=w.heap.size+1:=⟨_,rfl⟩
 rw[← gI,← hg]
 obtain⟨wb,hwb⟩:∃ wb,wb=(w.alloc (.cells (madeCells #[.int .u64 0,.int .u64 0] (N * 2)) 270)).alloc (.cells #[.slice (some ⟨g,0,none⟩) N N,.int .u64 0] 273):=⟨_,rfl⟩
 have h0:Dy wb g N 0∧wb.heap[bm]? = some (.cells #[.slice (some ⟨g,0,none⟩) N N,.int .u64 0] 273 (0,0))∧Keeps (fun _=>False) w wb:=by
  have k1:=(Keeps.refl (fun _=>False) w).alloc (.cells (madeCells #[.int .u64 0,.int .u64 0] (N * 2)) 270)
  have k2:=k1.alloc (.cells #[.slice (some ⟨g,0,none⟩) N N,.int .u64 0] 273)
  have hb1:=heap_alloc_new w (.cells (madeCells #[.int .u64 0,.int .u64 0] (N * 2)) 270)
  have hb2:=heap_alloc_new (w.alloc (.cells (madeCells #[.int .u64 0,.int .u64 0] (N * 2)) 270)) (.cells #[.slice (some ⟨g,0,none⟩) N N,.int .u64 0] 273)
  have hb3:=((Keeps.refl (fun _=>False) (w.alloc (.cells (madeCells #[.int .u64 0,.int .u64 0] (N * 2)) 270))).alloc (.cells #[.slice (some ⟨g,0,none⟩) N N,.int .u64 0] 273)).at hb1 (fun h=>h)
  rw[← hwb] at hb2 hb3 k2
  rw[← hg] at hb3
  rw[show (w.alloc (.cells (madeCells #[.int .u64 0,.int .u64 0] (N * 2)) 270)).heap.size=bm by rw[gI];simp] at hb2
  exact⟨⟨_,hb3,by rw[size_madeCells];omega,fun i hi=>by omega⟩,hb2,k2⟩
 rw[← hwb]
 have HG:Hid (w.heap.size≤bm∧w.heap.size≤g∧bm≠g):=ah (by omega)
 clear hwb hg gI hmk Xl Xm
 go_loopg [15] N (fun m t wr=>∃ j:Nat,j≤N∧m=N - j∧t=.int .i64 j∧Dy wr g N j∧wr.heap[bm]? = some (.cells #[.slice (some ⟨g,0,none⟩) N N,.int .u64 0] 273 (0,0))∧Keeps (fun _=>False) w wr)
 case atStart=>exact⟨0,Nat.zero_le _,rfl,rfl,h0⟩
 case round =>
  clear h0
  obtain⟨j,hj,aN,rfl,hO,hB,hk⟩:=hrel
  have HK:=ah aN
  clear aN
  by_cases hlt:j<N
  ·obtain⟨⟨v,u,d0,d1⟩,df⟩:=hO.cells hlt
   have b0:=ak hB 0
   have b1:=ak hB 1
   have hst:=hO.step hlt
   have ks:=((Keeps.refl (fun q=>q=g) wr).setCell (p:=⟨g,j * 2,none⟩) (.inl rfl) (.int .u64 1)).setCell (p:=⟨g,j * 2+1,none⟩) (.inl rfl) (.int .u64 1)
   have HF:=ah (aj hst (aj (ks.at hB HG.out.2.2) (hk.trans ks (fun x hx e=>by have:=HG.out;omega))))
   have d1':(wr.setCell ⟨g,j * 2,none⟩ (.int .u64 1)).cell? ⟨g,j * 2+1,none⟩=some u:=by
    obtain⟨arr,h1,h2,h3⟩:=hO
    have:=ak (dM h1 (j * 2) (.int .u64 1)) (j * 2+1)
    rw[this,Array.getElem?_setIfInBounds_ne (by omega),← ak h1 (j * 2+1),d1]
   have df':∀ i,(wr.setCell ⟨g,j * 2,none⟩ (.int .u64 1)).frozen? ⟨g,i,none⟩=false:=fun i=>by
    obtain⟨arr,h1,h2,h3⟩:=hO
    exact au (dM h1 (j * 2) (.int .u64 1)) i
   clear hst ks hO hB hk
   go_wp2_with fail
   go_roundg (N - (j+1))
   case measure=>rw[HK.out];omega
   case rel=>exact⟨j+1,by omega,rfl,by go_num,HF.out⟩
  ·obtain rfl:j=N:=by omega
   have HF:Hid (ny wr bm g (CM.new (2 ^ k))∧w.heap.size≤bm∧w.heap.size≤g∧Keeps (fun _=>False) w wr):=ah ⟨⟨by rw[← HN.out];simpa [CM.new] using hB,by rw[← HN.out];exact hO.done,HG.out.2.2⟩,HG.out.1,HG.out.2.1,hk⟩
   clear hO hB hk
   go_wp2
   go_ret
   exact⟨bm,g,rfl,by rw[HN.out];exact HF.out⟩
end
section
open Go.RowKit
structure rA (W:World)(bw bv:Nat)(vv:Value)(s:dh):Prop where
 sp:cB W bw 266 s.l s.h [.pointer (some ⟨bv,0,none⟩),.int .i64 s.w]
 vec:aK W bv vv s.o
 ne:bw≠bv
 no:vv.ownBlock≠some bw
theorem rA.c2{W:World}{bw bv:Nat}{vv:Value}{s:dh}(h:rA W bw bv vv s):W.cell? ⟨bw,2,none⟩=some (.pointer (some ⟨bv,0,none⟩)):=by
 have:=ak h.sp 2;simpa using this
theorem rA.c3{W:World}{bw bv:Nat}{vv:Value}{s:dh}(h:rA W bw bv vv s):W.cell? ⟨bw,3,none⟩=some (.int .i64 s.w):=by
 have:=ak h.sp 3;simpa using this
theorem rA.free{W:World}{bw bv:Nat}{vv:Value}{s:dh}(h:rA W bw bv vv s):∀ i,W.frozen? ⟨bw,i,none⟩=false:=au h.sp
theorem rA.keeps{W W':World}{bw bv:Nat}{vv:Value}{s:dh}{G:Nat→Prop}(h:rA W bw bv vv s)(k:Keeps G W W')(h1:¬ G bw)(h2:¬ G bv)(h3:∀ q,vv.ownBlock=some q→¬ G q):rA W' bw bv vv s:=⟨h.sp.keeps k h1,h.vec.keeps k h2 h3,h.ne,h.no⟩
def xQ(w:World)(bw bv:Nat)(vv:Value)(s:dh)(w':World):Prop :=
 ∃ xR,rA w' bw bv xR s∧Keeps (fun k=>k=bw∨k=bv∨vv.ownBlock=some k) w w'∧(xR.ownBlock=vv.ownBlock∨∃ k,xR.ownBlock=some k∧w.heap.size≤k)
theorem rA.grown{w w1:World}{bw bv:Nat}{vv:Value}{s:dh}{o:List Bool}(h:rA w bw bv vv s)(hlt:bw<w.heap.size)(g:bN w bv vv o w1):xQ w bw bv vv { s with o:=o } w1:=by
 obtain⟨v',h1,h2,h3⟩:=g
 refine⟨v',⟨h.sp.keeps h2 (fun e=>?_),h1,h.ne,fun e=>?_⟩,h2.mono (fun _ _ e=>.inr e),h3⟩
 ·rcases e with e|e
  ·exact h.ne e
  ·exact h.no e
 ·rcases h3 with e3|⟨k,e3,hk⟩
  ·exact h.no (by rw[← e3];exact e)
  ·rw[e3] at e
   have:=Option.some.inj e
   omega
theorem xQ.trans{w w1 w2:World}{bw bv:Nat}{vv Xn:Value}{s:dh}(k:Keeps (fun k=>k=bw∨k=bv∨vv.ownBlock=some k) w w1)(hv:Xn.ownBlock=vv.ownBlock∨∃ k,Xn.ownBlock=some k∧w.heap.size≤k)(h:xQ w1 bw bv Xn s w2):xQ w bw bv vv s w2:=by
 obtain⟨v2,h1,h2,h3⟩:=h
 refine⟨v2,h1,k.trans h2 (fun x hx e=>?_),?_⟩
 ·rcases e with e|e|e
  ·exact .inl e
  ·exact .inr (.inl e)
  ·rcases hv with e2|⟨q,e2,hq⟩
   ·exact .inr (.inr (by rw[← e2];exact e))
   ·rw[e2] at e
    have:=Option.some.inj e
    omega
 ·rcases h3 with e3|⟨q,e3,hq⟩
  ·rcases hv with e2|⟨q,e2,hq⟩
   ·exact .inl (e3.trans e2)
   ·exact .inr ⟨q,e3.trans e2,hq⟩
  ·exact .inr ⟨q,e3,Nat.le_trans k.size hq⟩
end
section
open Go.RowKit
theorem qdg(w:World)(z:Int):Sl .i64 (w.alloc (.cells #[.int .i64 z] 3)) (.slice (some ⟨w.heap.size,0,none⟩) 1 1) [z]:=by
 have h1:=World.ownsRow_lit (base:=w.heap.size) (e:=3) (size:=1) w #[.int .i64 z] 1 (Nat.le_refl _) (by unfold maxLen;omega) rfl
 exact (show aF w.heap.size (w.alloc (.cells #[.int .i64 z] 3)) (.slice (some ⟨w.heap.size,0,none⟩) 1 1) [z] from h1).sl
theorem rA.wait{W:World}{bw bv:Nat}{vv:Value}{s:dh}(h:rA W bw bv vv s)(z:Nat):rA (W.setCell ⟨bw,3,none⟩ (.int .i64 (z:Int))) bw bv vv { s with w:=z }∧Keeps (fun k=>k=bw) W (W.setCell ⟨bw,3,none⟩ (.int .i64 (z:Int))):=by
 have ks:=(Keeps.refl (fun q=>q=bw) W).setCell (p:=⟨bw,3,none⟩) (.inl rfl) (.int .i64 (z:Int))
 refine⟨⟨?_,h.vec.keeps ks (fun e=>h.ne e.symm) (fun q hq e=>h.no (by rw[hq,e])),h.ne,h.no⟩,ks⟩
 have:=dM h.sp 3 (.int .i64 (z:Int))
 simpa [cB] using this
theorem qdh{w:World}{bw bv:Nat}{vv:Value}{s:dh}(h:rA w bw bv vv s)(z:Int)(b:Bool)(hz:z=b.toNat)(hl:s.o.length<900000000) :
  Calls Tryz.prog 142 #[.pointer (some ⟨bv,0,none⟩),.slice (some ⟨w.heap.size,0,none⟩) 1 1] (w.alloc (.cells #[.int .i64 z] 3)) fun e w'=>e=.returned (.tuple #[])∧xQ w bw bv vv { s with o:=s.o ++ [b] } w':=by
 have ka:=(Keeps.refl (fun _=>False) w).alloc (.cells #[.int .i64 z] 3)
 have hA:=h.keeps ka (fun h=>h) (fun h=>h) (fun _ _ h=>h)
 have hap:=h.vec.apart
 have hlt:=h.vec.lt
 have hbw:bw<w.heap.size:=lt_of_block h.sp
 refine (KN bv vv s.o (.slice (some ⟨w.heap.size,0,none⟩) 1 1) [z] _ hA.vec (qdg w z) (fun k hk=>?_) (by simp;omega)).mono ?_
 ·simp only [Value.ownBlock,Option.some.injEq] at hk
  subst hk
  exact⟨by omega,fun e=>by have:=(hap _ e).2;omega⟩
 ·rintro e w' ⟨rfl,hg⟩
  have hb:lF [z]=[b]:=by rw[hz];cases b <;> rfl
  rw[hb] at hg
  refine⟨rfl,?_⟩
  have hG:=hA.grown (by simp;omega) hg
  exact xQ.trans (ka.mono (fun _ _ h=>h.elim)) (.inl rfl) hG
theorem R8{w:World}{bw bv:Nat}{vv:Value}{s:dh}(b:Bool)(h:rA w bw bv vv s)(hl:s.o.length+s.w≤800000000) :
  Calls Tryz.prog 202 #[.pointer (some ⟨bw,0,none⟩),.int .i64 (b.toNat:Int)] w fun e w'=>e=.returned (.tuple #[])∧xQ w bw bv vv ⟨s.l,s.h,0,s.o ++ b :: List.replicate s.w (!b)⟩ w':=by
 have hA0:=qdh h (b.toNat:Int) b rfl (by omega)
 have c2:=h.c2
 obtain⟨k,hk,hk1⟩:∃ k,k=b.toNat∧k≤1:=⟨_,rfl,by cases b <;> simp⟩
 have hk2:1 - (k:Int)=((!b).toNat:Int):=by rw[hk];cases b <;> rfl
 have HH:=ah (aj hk2 hk)
 rw[← hk] at hA0 ⊢
 clear h hk hk2
 go_enter Tryz.func202,Tryz.ntmps202
 go_wp2_with fail
 refine hA0.mono ?_
 rintro e w1 ⟨rfl,hG⟩
 have h0:xQ w bw bv vv ⟨s.l,s.h,s.w - 0,s.o ++ b :: List.replicate 0 (!b)⟩ w1:=hG
 clear hA0 c2 hG
 go_wp2_with fail
 go_loopg [] s.w (fun m wr=>∃ j:Nat,j≤s.w∧m=s.w - j∧xQ w bw bv vv ⟨s.l,s.h,s.w - j,s.o ++ b :: List.replicate j (!b)⟩ wr)
 case atStart=>exact⟨0,by omega,rfl,h0⟩
 case round =>
  clear h0
  obtain⟨j,hj,aN,vj,hW,R9,hv⟩:=hrel
  have HG:=ah aN
  clear aN
  have hlen:s.o.length+(s.w - j)+(j+1)≤800000001:=by omega
  have c2:=hW.c2
  have c3:=hW.c3
  obtain⟨q,hq⟩:∃ q,q=s.w - j:=⟨_,rfl⟩
  simp only at c3
  rw[← hq] at c3
  have Ni:q≤900000000:=by omega
  by_cases hlt:0<q
  ·have t0:decide ((0:Int)<(q:Int))=true:=decide_eq_true (by omega)
   have hA:=qdh hW (1 - (k:Int)) (!b) HH.out.1 (by simp;omega)
   have HQ:=ah (aj hq (aj R9 hv))
   clear hW R9 hv hq
   go_wp2_with fail
   refine hA.mono ?_
   clear hA
   rintro e w2 ⟨rfl,v2,hW2,hk2,hv2⟩
   have d3:=hW2.c3
   have df:=hW2.free
   simp only at d3
   rw[← HQ.out.1] at d3
   obtain⟨hW3,hk3⟩:=hW2.wait (q - 1)
   have e1:((q - 1:Nat):Int)=(q:Int) - 1:=by omega
   rw[e1] at hW3 hk3
   have hG3:xQ w bw bv vv ⟨s.l,s.h,s.w - (j+1),s.o ++ b :: List.replicate (j+1) (!b)⟩ (w2.setCell ⟨bw,3,none⟩ (.int .i64 ((q:Int) - 1))):=by
    refine xQ.trans HQ.out.2.1 HQ.out.2.2 ⟨v2,?_,hk2.trans hk3 (fun x _ e=>.inl e),hv2⟩
    have e2:s.w - (j+1)=q - 1:=by have:=HQ.out.1;omega
    have e3:s.o ++ b :: List.replicate (j+1) (!b)=(s.o ++ b :: List.replicate j (!b)) ++ [!b]:=by rw[List.replicate_succ',List.append_assoc];rfl
    rw[e2,e3]
    exact hW3
   have HF:=ah hG3
   clear hW2 hk2 hv2 hW3 hk3 hG3 e1
   go_wp2_with fail
   go_roundg (s.w - (j+1))
   case measure=>rw[HG.out];have:=HQ.out.1;omega
   case rel=>exact⟨j+1,by have:=HQ.out.1;omega,rfl,HF.out⟩
  ·obtain rfl:q=0:=by omega
   obtain rfl:j=s.w:=by omega
   have hF:xQ w bw bv vv ⟨s.l,s.h,0,s.o ++ b :: List.replicate s.w (!b)⟩ wr:=by
    rw[← hq] at hW
    exact⟨vj,hW,R9,hv⟩
   have HF:=ah hF
   clear hW R9 hv hq hF
   go_wp2_with fail
   go_end0
   exact⟨rfl,HF.out⟩
end
section
open Go.RowKit
theorem Fg{i r:Nat}(hi:i≤33)(hr:2 ^ i≤r)(hb:r≤4294967296):i<33:=by
 rcases Nat.lt_or_ge i 33 with h' | h'
 ·exact h'
 ·exfalso
  have e:i=33:=Nat.le_antisymm hi h'
  rw[e] at hr
  have h3:(2:Nat) ^ 33=8589934592:=by decide
  rw[h3] at hr
  omega
theorem qo7(s:dh)(e:way s.l s.h=1):aL s=⟨dO s.l s.h,eO s.l s.h,0,s.o ++ false :: List.replicate s.w true⟩:=by
 unfold aL dO eO
 rw[e,if_neg (show ¬ (1:Nat)=3 by decide),if_pos rfl,if_neg (show ¬ (1:Nat)=0 by decide),if_neg (show ¬ (1:Nat)=0 by decide)]
theorem qo8(s:dh)(e:way s.l s.h=2):aL s=⟨dO s.l s.h,eO s.l s.h,0,s.o ++ true :: List.replicate s.w false⟩:=by
 unfold aL dO eO
 rw[e,if_neg (show ¬ (2:Nat)=3 by decide),if_neg (show ¬ (2:Nat)=1 by decide),if_pos rfl,if_neg (show ¬ (2:Nat)=0 by decide),if_neg (show ¬ (2:Nat)=0 by decide)]
theorem qo9(s:dh)(e:way s.l s.h=3):aL s=⟨dO s.l s.h,eO s.l s.h,s.w+1,s.o⟩:=by
 unfold aL dO eO
 rw[e,if_pos rfl,if_neg (show ¬ (3:Nat)=1 by decide),if_neg (show ¬ (3:Nat)=2 by decide),if_neg (show ¬ (3:Nat)=0 by decide),if_neg (show ¬ (3:Nat)=0 by decide)]
structure iD (w:World)(bw bv bm gc:Nat)(vv:Value)(m:CM)(s:dh)(W:World):Prop where
 wr:rA W bw bv vv s
 cm:ny W bm gc m
 ap:∀ q,(q=bm∨q=gc)→q≠bw∧q≠bv∧vv.ownBlock≠some q
 lo:w.heap.size≤bw∧w.heap.size≤bv∧w.heap.size≤bm∧w.heap.size≤gc∧∀ q,vv.ownBlock=some q→w.heap.size≤q
 dR:Keeps (fun _=>False) w W
section
variable {w:World} {bw bv bm gc:Nat} {vv:Value} {m:CM} {s:dh} {W:World}
theorem iD.still(h:iD w bw bv bm gc vv m s W){W':World}(k:Keeps (fun _=>False) W W'):iD w bw bv bm gc vv m s W' :=
 ⟨h.wr.keeps k (fun h=>h) (fun h=>h) (fun _ _ h=>h),h.cm.keeps k (fun h=>h) (fun h=>h),h.ap,h.lo,h.dR.trans k (fun _ _ h=>h)⟩
theorem iD.put(h:iD w bw bv bm gc vv m s W){s':dh}{W':World}(g:xQ W bw bv vv s' W'):∃ xR,iD w bw bv bm gc xR m s' W':=by
 obtain⟨v',h1,h2,h3⟩:=g
 have gI:bm<W.heap.size:=lt_of_block h.cm.1
 have hgc:gc<W.heap.size:=by obtain⟨arr,h,_⟩:=h.cm.2.1;exact lt_of_block h
 have hs:=h.dR.size
 refine⟨v',h1,h.cm.keeps h2 (fun e=>?_) (fun e=>?_),fun q hq=>?_,⟨h.lo.1,h.lo.2.1,h.lo.2.2.1,h.lo.2.2.2.1,fun q hq=>?_⟩,h.dR.trans h2 (fun x hx e=>?_)⟩
 ·obtain⟨a,b,c⟩:=h.ap bm (.inl rfl)
  rcases e with e|e|e
  ·exact a e
  ·exact b e
  ·exact c e
 ·obtain⟨a,b,c⟩:=h.ap gc (.inr rfl)
  rcases e with e|e|e
  ·exact a e
  ·exact b e
  ·exact c e
 ·obtain⟨a,b,c⟩:=h.ap q hq
  refine⟨a,b,fun e=>?_⟩
  rcases h3 with e3|⟨k,e3,hk⟩
  ·exact c (by rw[← e3];exact e)
  ·rw[e3] at e
   have:=Option.some.inj e
   rcases hq with rfl|rfl <;> omega
 ·rcases h3 with e3|⟨k,e3,hk⟩
  ·exact h.lo.2.2.2.2 q (by rw[← e3];exact hq)
  ·rw[e3] at hq
   have:=Option.some.inj hq
   omega
 ·have:=h.lo
  rcases e with e|e|e
  ·omega
  ·omega
  ·have:=h.lo.2.2.2.2 x e;omega
theorem iD.span(h:iD w bw bv bm gc vv m s W){l' h':Nat}{W':World}(hS:cB W' bw 266 l' h' [.pointer (some ⟨bv,0,none⟩),.int .i64 s.w])(k:Keeps (fun q=>q=bw) W W'):iD w bw bv bm gc vv m { s with l:=l',h:=h' } W' :=
 ⟨⟨hS,h.wr.vec.keeps k (fun e=>h.wr.ne e.symm) (fun q hq e=>h.wr.no (by rw[hq,e])),h.wr.ne,h.wr.no⟩,h.cm.keeps k (fun e=>(h.ap bm (.inl rfl)).1 e) (fun e=>(h.ap gc (.inr rfl)).1 e),h.ap,h.lo,h.dR.trans k (fun x hx e=>by have:=h.lo.1;omega)⟩
theorem iD.see(h:iD w bw bv bm gc vv m s W){m':CM}{W':World}(hM:ny W' bm gc m')(k:Keeps (fun q=>q=bm∨q=gc) W W'):iD w bw bv bm gc vv m' s W':=by
 refine⟨h.wr.keeps k (fun e=>?_) (fun e=>?_) (fun q hq e=>(h.ap q e).2.2 hq),hM,h.ap,h.lo,h.dR.trans k (fun x hx e=>by have:=h.lo;omega)⟩
 ·exact (h.ap bw e).1 rfl
 ·exact (h.ap bv e).2.1 rfl
theorem iD.wait(h:iD w bw bv bm gc vv m s W)(z:Nat):iD w bw bv bm gc vv m { s with w:=z } (W.setCell ⟨bw,3,none⟩ (.int .i64 (z:Int))):=by
 obtain⟨h1,k⟩:=h.wr.wait z
 exact⟨h1,h.cm.keeps k (fun e=>(h.ap bm (.inl rfl)).1 e) (fun e=>(h.ap gc (.inr rfl)).1 e),h.ap,h.lo,h.dR.trans k (fun x hx e=>by have:=h.lo.1;omega)⟩
end
end
