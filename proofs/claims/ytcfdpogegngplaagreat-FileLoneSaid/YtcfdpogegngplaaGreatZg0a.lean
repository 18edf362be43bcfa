import Derived.Test.YtcfdpogegngplaaGreatZg0l
import Derived.Test.YtcfdpogegngplaaGreatZg09
set_option maxRecDepth 100000
set_option maxHeartbeats 4000000
namespace Go.Proofs.YtcfdpogegngplaaGreat
open Go.RowKit
theorem lZ{W:World}{B:Nat}{t:TypeId}{a b c:Value}(h1:W.heap[B]? = some (.cells #[a,b,c] t (0,0)))(x y z:Value) :
  (((W.setCell ⟨B,0,none⟩ x).setCell ⟨B,1,none⟩ y).setCell ⟨B,2,none⟩ z).heap[B]? = some (.cells #[x,y,z] t (0,0))∧Keeps (fun k=>k=B) W (((W.setCell ⟨B,0,none⟩ x).setCell ⟨B,1,none⟩ y).setCell ⟨B,2,none⟩ z) :=
 ⟨dM (dM (dM h1 0 x) 1 y) 2 z,(((Keeps.refl (fun k=>k=B) W).setCell (p:=⟨B,0,none⟩) (.inl rfl) x).setCell (p:=⟨B,1,none⟩) (.inl rfl) y).setCell (p:=⟨B,2,none⟩) (.inl rfl) z⟩
theorem q9q(pv:Value)(ps:List Nat)(P root:Nat)(w:World)(hp:Sl .u8 w pv (aB ps))(hps:∀ b ∈ ps,b<256)(hP:P≤1000)(hr:root<256) :
  Calls Tryz.prog 51 #[.int .i64 P,pv,.int .u8 root] w fun e w'=>∃ sv ks,e=.returned (cZ sv (if ks.length=0 then -1 else ((root % ks.length:Nat):Int)) (if ks.length=0 then 1 else 0))∧Wd ks∧ks.length=2 * P∧aF w.heap.size w' sv (aB (aG ks))∧Keeps (fun _=>False) w w':=by
 have k0:=(Keeps.refl (fun _=>False) w).alloc (.cells #[.slice none 0 0,.int .i64 0,.int .i64 0] 27)
 have hb0:(w.alloc (.cells #[.slice none 0 0,.int .i64 0,.int .i64 0] 27)).heap[w.heap.size]? = some (.cells #[.slice none 0 0,.int .i64 0,.int .i64 0] 27 (0,0)):=heap_alloc_new w _
 have hA:=qck pv ps P _ (hp.keeps k0 (fun _ _ h=>h)) hps (by omega)
 have hsz0:(w.alloc (.cells #[.slice none 0 0,.int .i64 0,.int .i64 0] 27)).heap.size=w.heap.size+1:=by simp
 have l8:=ah (aj k0 hb0)
 clear hp k0 hb0
 go_enter Tryz.func51,Tryz.ntmps51
 go_wp2_with fail
 refine hA.mono ?_
 rintro e w1 ⟨lv,ks,rfl,hlv,⟨h4,hlen,hB⟩,hk1⟩
 have hW:Wd ks:=⟨h4,hB⟩
 have hD:=qb2 lv ks w1 hlv.sl hW (by omega)
 have HW:=ah (aj hW hlen)
 have l9:=l8.out.1.trans hk1 (fun _ _ h=>h)
 have hb1:=hk1.at l8.out.2 (fun h=>h)
 have hs1:=hk1.size
 clear hA hlv hk1 hlen h4 hB hW
 go_wp2_with fail
 refine hD.mono ?_
 rintro e w2 ⟨sv,rfl,hsv,hk2⟩
 have qP:=l9.trans hk2 (fun _ _ h=>h)
 have hb2:=hk2.at hb1 (fun h=>h)
 have hs2:=hk2.size
 obtain⟨a,cap,rfl,_,_⟩:=hsv.form
 rw[q01,kJ] at *
 clear hD l9 hb1 hk2
 obtain⟨rt,hrt⟩:∃ rt:Int,rt=(if ks.length=0 then -1 else 0):=⟨_,rfl⟩
 obtain⟨ln,hln⟩:∃ ln:Int,ln=(if ks.length=0 then 1 else 0):=⟨_,rfl⟩
 rw[← hrt,← hln]
 unfold cZ
 have gI:=heap_alloc_new w2 (.cells #[.slice a ks.length cap,.int .i64 rt,.int .i64 ln] 27)
 have hb3:=((Keeps.refl (fun _=>False) w2).alloc (.cells #[.slice a ks.length cap,.int .i64 rt,.int .i64 ln] 27)).at hb2 (fun h=>h)
 have lM:=qP.alloc (.cells #[.slice a ks.length cap,.int .i64 rt,.int .i64 ln] 27)
 have zy:=hsv.alloc (.cells #[.slice a ks.length cap,.int .i64 rt,.int .i64 ln] 27)
 have MH:w2.heap.size≠w.heap.size:=by omega
 have d0:=ak gI 0
 have hlp:ks.length≤2000:=by have:=HW.out.2;omega
 generalize hn:ks.length=n at *
 have HN:=ah (aj hn (aj hrt hln))
 have MI:∀ q,(Value.slice a n cap).ownBlock=some q→w1.heap.size≤q:=fun q hq=>(hsv.lt q hq).1
 have MJ:∀ q,(Value.slice a n cap).ownBlock=some q→q<w2.heap.size:=fun q hq=>(hsv.lt q hq).2
 have HH:=ah (aj lM (aj hb3 (aj zy (aj MI MJ))))
 clear hn hrt hln qP hb2 hsv lM hb3 zy MI MJ
 generalize hw3:w2.alloc (.cells #[.slice a n cap,.int .i64 rt,.int .i64 ln] 27)=w3 at *
 by_cases hp0:0<n
 rotate_left
 ·have bt:decide ((0:Int)<(n:Int))=false:=decide_eq_false (by omega)
  have H0:Hid (n=0):=ah (by omega)
  have d1:=ak gI 1
  have d2:=ak gI 2
  have zz:=au HH.out.2.1
  have e0:=ak HH.out.2.1 0
  have e1:=ak HH.out.2.1 1
  have e2:=ak HH.out.2.1 2
  go_wp2
  obtain⟨r1,r2⟩:=lZ HH.out.2.1 (.slice a n cap) (.int .i64 rt) (.int .i64 ln)
  have c0:=ak r1 0
  have c1:=ak r1 1
  have c2:=ak r1 2
  refine bodyPost_ret (v:=cZ (.slice a n cap) rt ln) ?_ rfl ⟨_,ks,?_,HW.out.1,by rw[HN.out.1];exact HW.out.2,(HH.out.2.2.1.keeps r2 (fun q hq e=>by have:=HH.out.2.2.2.1 q hq;omega)).mono (fun q hq=>by have:=HH.out.2.2.2.1 q hq;omega),HH.out.1.trans r2 (fun x hx e=>by omega)⟩
  ·simp at c0 c1 c2
   simp[results,Tryz.results51,go_sem,cZ,c0,c1,c2]
  ·rw[HN.out.1,if_pos H0.out,if_pos H0.out,HN.out.2.1,HN.out.2.2,if_pos H0.out,if_pos H0.out]
 ·have bt:decide ((0:Int)<(n:Int))=true:=decide_eq_true (by omega)
  obtain⟨r,hrr⟩:∃ r,r=root % n:=⟨_,rfl⟩
  have hrn:r<n:=by rw[hrr];exact Nat.mod_lt _ (by omega)
  have er:((root:Nat):Int).tmod (n:Int)=(r:Int):=by rw[hrr,Int.tmod_eq_emod_of_nonneg (by omega)];simp
  have hn0:¬ (n:Int)=0:=by omega
  have HR:Hid (r=root % n∧¬ n=0):=ah ⟨hrr,by omega⟩
  have iT:(w3.setCell ⟨w2.heap.size,1,none⟩ (.int .i64 (r:Int))).heap[w2.heap.size]? = some (.cells #[.slice a n cap,.int .i64 r,.int .i64 ln] 27 (0,0)):=dM gI 1 _
  have k4:=(Keeps.refl (fun k=>k=w2.heap.size) w3).setCell (p:=⟨w2.heap.size,1,none⟩) (.inl rfl) (.int .i64 (r:Int))
  have hb4:=k4.at HH.out.2.1 (fun e=>MH e.symm)
  have d1:=ak gI 1
  have y1:=au gI 1
  have f0:=ak iT 0
  have f1:=ak iT 1
  have f2:=ak iT 2
  have zz:=au hb4
  have e0:=ak hb4 0
  have e1:=ak hb4 1
  have e2:=ak hb4 2
  clear hrr
  go_wp2
  obtain⟨r1,r2⟩:=lZ hb4 (.slice a n cap) (.int .i64 r) (.int .i64 ln)
  have c0:=ak r1 0
  have c1:=ak r1 1
  have c2:=ak r1 2
  have G7:=HH.out.2.2.1.keeps k4 (fun q hq e=>by have:=HH.out.2.2.2.2 q hq;omega)
  have kk:=HH.out.1.trans k4 (fun x hx e=>by omega)
  refine bodyPost_ret (v:=cZ (.slice a n cap) r ln) ?_ rfl ⟨_,ks,?_,HW.out.1,by rw[HN.out.1];exact HW.out.2,(G7.keeps r2 (fun q hq e=>by have:=HH.out.2.2.2.1 q hq;omega)).mono (fun q hq=>by have:=HH.out.2.2.2.1 q hq;omega),kk.trans r2 (fun x hx e=>by omega)⟩
  ·simp at c0 c1 c2
   simp[results,Tryz.results51,go_sem,cZ,c0,c1,c2]
  ·rw[HN.out.1,if_neg HR.out.2,if_neg HR.out.2,HN.out.2.2,if_neg HR.out.2,HR.out.1]
