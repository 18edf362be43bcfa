import Derived.Test.YtcfdpogegngplaaGreatZaDecPl
import Derived.Test.YtcfdpogegngplaaGreatZaDecode2
set_option maxRecDepth 100000
set_option maxHeartbeats 4000000
namespace Go.Proofs.YtcfdpogegngplaaGreat
open Go.RowKit
theorem res3 {W:World} {B:Nat} {t:TypeId} {a b c:Value} (h1:W.heap[B]? = some (.cells #[a,b,c] t (0,0))) (x y z:Value) :
  (((W.setCell ⟨B,0,none⟩ x).setCell ⟨B,1,none⟩ y).setCell ⟨B,2,none⟩ z).heap[B]? = some (.cells #[x,y,z] t (0,0))∧Keeps (fun k=>k=B) W (((W.setCell ⟨B,0,none⟩ x).setCell ⟨B,1,none⟩ y).setCell ⟨B,2,none⟩ z) :=
 ⟨q00 (q00 (q00 h1 0 x) 1 y) 2 z,(((Keeps.refl (fun k=>k=B) W).setCell (p:=⟨B,0,none⟩) (.inl rfl) x).setCell (p:=⟨B,1,none⟩) (.inl rfl) y).setCell (p:=⟨B,2,none⟩) (.inl rfl) z⟩
theorem q9j (pv:Value) (ps:List Nat) (P root:Nat) (w:World) (hp:Sl .u8 w pv (nats ps)) (hps:∀ b ∈ ps,b<256) (hP:P≤1000) (hr:root<256) :
  Calls Tryz.prog 51 #[.int .i64 P,pv,.int .u8 root] w fun e w'=>∃ sv ks,e=.returned (mapV sv (if ks.length=0 then -1 else ((root % ks.length:Nat):Int)) (if ks.length=0 then 1 else 0))∧Wd ks∧ks.length=2 * P∧OwnI w.heap.size w' sv (nats (decL ks))∧Keeps (fun _=>False) w w':=by
 have k0:=(Keeps.refl (fun _=>False) w).alloc (.cells #[.slice none 0 0,.int .i64 0,.int .i64 0] 27)
 have hb0:(w.alloc (.cells #[.slice none 0 0,.int .i64 0,.int .i64 0] 27)).heap[w.heap.size]? = some (.cells #[.slice none 0 0,.int .i64 0,.int .i64 0] 27 (0,0)):=heap_alloc_new w _
 have hA:=qda pv ps P _ (hp.keeps k0 (fun _ _ h=>h)) hps (by omega)
 have hsz0:(w.alloc (.cells #[.slice none 0 0,.int .i64 0,.int .i64 0] 27)).heap.size=w.heap.size+1:=by simp
 have HK0:=Lib.hid (And.intro k0 hb0)
 clear hp k0 hb0
 go_enter Tryz.func51,Tryz.ntmps51
 go_wp2_with fail
 refine hA.mono ?_
 rintro e w1 ⟨lv,ks,rfl,hlv,⟨h4,hlen,hB⟩,hk1⟩
 have hW:Wd ks:=⟨h4,hB⟩
 have hD:=qas lv ks w1 hlv.sl hW (by omega)
 have HW:=Lib.hid (And.intro hW hlen)
 have hk01:=HK0.out.1.trans hk1 (fun _ _ h=>h)
 have hb1:=hk1.at HK0.out.2 (fun h=>h)
 have hs1:=hk1.size
 clear hA hlv hk1 hlen h4 hB hW
 go_wp2_with fail
 refine hD.mono ?_
 rintro e w2 ⟨sv,rfl,hsv,hk2⟩
 have hk02:=hk01.trans hk2 (fun _ _ h=>h)
 have hb2:=hk2.at hb1 (fun h=>h)
 have hs2:=hk2.size
 obtain⟨a,cap,rfl,_,_⟩:=hsv.form
 rw[q02,q03] at *
 clear hD hk01 hb1 hk2
 obtain⟨rt,hrt⟩:∃ rt:Int,rt=(if ks.length=0 then -1 else 0):=⟨_,rfl⟩
 obtain⟨ln,hln⟩:∃ ln:Int,ln=(if ks.length=0 then 1 else 0):=⟨_,rfl⟩
 rw[← hrt,← hln]
 unfold mapV
 have hbm:=heap_alloc_new w2 (.cells #[.slice a ks.length cap,.int .i64 rt,.int .i64 ln] 27)
 have hb3:=((Keeps.refl (fun _=>False) w2).alloc (.cells #[.slice a ks.length cap,.int .i64 rt,.int .i64 ln] 27)).at hb2 (fun h=>h)
 have hk03:=hk02.alloc (.cells #[.slice a ks.length cap,.int .i64 rt,.int .i64 ln] 27)
 have hsv3:=hsv.alloc (.cells #[.slice a ks.length cap,.int .i64 rt,.int .i64 ln] 27)
 have hbmne:w2.heap.size≠w.heap.size:=by omega
 have d0:=World.cell_of_heap hbm 0
 have hlp:ks.length≤2000:=by have:=HW.out.2;omega
 generalize hn:ks.length=n at *
 have HN:=Lib.hid (And.intro hn (And.intro hrt hln))
 have hsvw:∀ q,(Value.slice a n cap).ownBlock=some q→w1.heap.size≤q:=fun q hq=>(hsv.lt q hq).1
 have hsv2:∀ q,(Value.slice a n cap).ownBlock=some q→q<w2.heap.size:=fun q hq=>(hsv.lt q hq).2
 have HH:=Lib.hid (And.intro hk03 (And.intro hb3 (And.intro hsv3 (And.intro hsvw hsv2))))
 clear hn hrt hln hk02 hb2 hsv hk03 hb3 hsv3 hsvw hsv2
 generalize hw3:w2.alloc (.cells #[.slice a n cap,.int .i64 rt,.int .i64 ln] 27)=w3 at *
 by_cases hp0:0<n
 rotate_left
 ·have bt:decide ((0:Int)<(n:Int))=false:=decide_eq_false (by omega)
  have H0:Hid (n=0):=Lib.hid (by omega)
  have d1:=World.cell_of_heap hbm 1
  have d2:=World.cell_of_heap hbm 2
  have zz:=World.free_of_heap HH.out.2.1
  have e0:=World.cell_of_heap HH.out.2.1 0
  have e1:=World.cell_of_heap HH.out.2.1 1
  have e2:=World.cell_of_heap HH.out.2.1 2
  go_wp2
  obtain⟨r1,r2⟩:=res3 HH.out.2.1 (.slice a n cap) (.int .i64 rt) (.int .i64 ln)
  have c0:=World.cell_of_heap r1 0
  have c1:=World.cell_of_heap r1 1
  have c2:=World.cell_of_heap r1 2
  refine bodyPost_ret (v:=mapV (.slice a n cap) rt ln) ?_ rfl ⟨_,ks,?_,HW.out.1,by rw[HN.out.1];exact HW.out.2,(HH.out.2.2.1.keeps r2 (fun q hq e=>by have:=HH.out.2.2.2.1 q hq;omega)).mono (fun q hq=>by have:=HH.out.2.2.2.1 q hq;omega),HH.out.1.trans r2 (fun x hx e=>by omega)⟩
  ·simp at c0 c1 c2
   simp[results,Tryz.results51,go_sem,mapV,c0,c1,c2]
  ·rw[HN.out.1,if_pos H0.out,if_pos H0.out,HN.out.2.1,HN.out.2.2,if_pos H0.out,if_pos H0.out]
 ·have bt:decide ((0:Int)<(n:Int))=true:=decide_eq_true (by omega)
  obtain⟨r,hrr⟩:∃ r,r=root % n:=⟨_,rfl⟩
  have hrn:r<n:=by rw[hrr];exact Nat.mod_lt _ (by omega)
  have er:((root:Nat):Int).tmod (n:Int)=(r:Int):=by rw[hrr,Int.tmod_eq_emod_of_nonneg (by omega)];simp
  have hn0:¬ (n:Int)=0:=by omega
  have HR:Hid (r=root % n∧¬ n=0):=Lib.hid ⟨hrr,by omega⟩
  have hbm2:(w3.setCell ⟨w2.heap.size,1,none⟩ (.int .i64 (r:Int))).heap[w2.heap.size]? = some (.cells #[.slice a n cap,.int .i64 r,.int .i64 ln] 27 (0,0)):=q00 hbm 1 _
  have k4:=(Keeps.refl (fun k=>k=w2.heap.size) w3).setCell (p:=⟨w2.heap.size,1,none⟩) (.inl rfl) (.int .i64 (r:Int))
  have hb4:=k4.at HH.out.2.1 (fun e=>hbmne e.symm)
  have d1:=World.cell_of_heap hbm 1
  have y1:=World.free_of_heap hbm 1
  have f0:=World.cell_of_heap hbm2 0
  have f1:=World.cell_of_heap hbm2 1
  have f2:=World.cell_of_heap hbm2 2
  have zz:=World.free_of_heap hb4
  have e0:=World.cell_of_heap hb4 0
  have e1:=World.cell_of_heap hb4 1
  have e2:=World.cell_of_heap hb4 2
  clear hrr
  go_wp2
  obtain⟨r1,r2⟩:=res3 hb4 (.slice a n cap) (.int .i64 r) (.int .i64 ln)
  have c0:=World.cell_of_heap r1 0
  have c1:=World.cell_of_heap r1 1
  have c2:=World.cell_of_heap r1 2
  have own4:=HH.out.2.2.1.keeps k4 (fun q hq e=>by have:=HH.out.2.2.2.2 q hq;omega)
  have kk:=HH.out.1.trans k4 (fun x hx e=>by omega)
  refine bodyPost_ret (v:=mapV (.slice a n cap) r ln) ?_ rfl ⟨_,ks,?_,HW.out.1,by rw[HN.out.1];exact HW.out.2,(own4.keeps r2 (fun q hq e=>by have:=HH.out.2.2.2.1 q hq;omega)).mono (fun q hq=>by have:=HH.out.2.2.2.1 q hq;omega),kk.trans r2 (fun x hx e=>by omega)⟩
  ·simp at c0 c1 c2
   simp[results,Tryz.results51,go_sem,mapV,c0,c1,c2]
  ·rw[HN.out.1,if_neg HR.out.2,if_neg HR.out.2,HN.out.2.2,if_neg HR.out.2,HR.out.1]
end Go.Proofs.YtcfdpogegngplaaGreat
