import Derived.Test.YtcfdpogegngplaaGreatZaDone
import Derived.Test.YtcfdpogegngplaaGreatZaStream2
import Derived.Test.YtcfdpogegngplaaGreatZaSameB
import Derived.Test.YtcfdpogegngplaaGreatZaPack
import Derived.Test.YtcfdpogegngplaaGreatZaEncW
set_option maxRecDepth 100000
set_option maxHeartbeats 4000000
namespace Go.Proofs.YtcfdpogegngplaaGreat
open Go.RowKit
theorem OwnY.ge {B:Nat} {w:World} {v:Value} {bs:List Nat} (h:OwnY B w v bs) {q:Nat} (hq:v.ownBlock=some q):B≤q:=by
 obtain⟨hl,h2⟩:=h
 rcases h2 with⟨h0,-⟩|⟨g,cap,cur,rfl,hb,-⟩
 ·rw[h0] at hq;simp[Value.ownBlock] at hq
 ·simp[Value.ownBlock] at hq;omega
theorem qm7 {w0 w:World} {b:Nat} {lim:Int} {pv sv:Value} {cs ds:List Nat} {n:Nat} (hw:Keeps (fun _=>False) w0 w) (hS:StrAt w w0.heap.size b lim pv cs n false) (hp:Sl .u8 w sv (nats ds)) (hcl:cs.length≤2097153) (hdl:ds.length≤100000000) (hn:n≤1000000000) (hsb:sv.ownBlock≠some b) :
  Calls Tryz.prog 43 #[.pointer (some ⟨b,0,none⟩),sv] w fun e w'=>e=.returned (.int .i64 0)∧∃ pv',StrAt w' w0.heap.size b lim pv' (cs ++ ds.take (2097153 - cs.length)) (n+ds.length) false∧Keeps (fun _=>False) w0 w'∧Keeps (fun k=>k=b∨pv.ownBlock=some k) w w'∧(pv'.ownBlock=pv.ownBlock∨∃ k,pv'.ownBlock=some k∧w.heap.size≤k):=by
 refine (q5g b w0.heap.size lim pv sv cs ds n w hS hp hcl hdl hn hsb hw.size).mono ?_
 rintro e w' ⟨rfl,pv',h1,h2,h3⟩
 refine⟨rfl,pv',h1,hw.trans h2 (fun k hk h=>?_),h2,h3⟩
 rcases h with rfl|h
 ·have:=hS.le;omega
 ·have:=hS.own.ge h;omega
theorem qil (w:World) :
  Calls Tryz.prog 40 #[] w fun e w'=>e=.returned (.bool true)∧Keeps (fun _=>False) w w':=by
 have hN1:=q4p 5 w
 go_enter Tryz.func40,Tryz.ntmps40
 go_wp2_with fail
 refine hN1.mono ?_
 clear hN1
 rintro e w1 ⟨rfl,hS1,k1⟩
 have hN2:=q4p 5 w1
 have hsz1:=lt_of_block hS1.blk
 go_wp2_with fail
 refine hN2.mono ?_
 clear hN2
 rintro e w2 ⟨rfl,hT2,k2⟩
 have hS2:=hS1.keeps k2 (fun h=>h) (fun _ _ h=>h)
 have hsz2:=hT2.lt
 have k02:=k1.trans k2 (fun _ _ h=>h)
 clear hS1 k1
 have l3:OwnY w2.heap.size (w2.alloc (.cells #[.int .u8 80] 5)) (.slice (some ⟨w2.heap.size,0,none⟩) 1 1) [80]:=OwnY.lit1 w2 80
 have k3:=(Keeps.refl (fun _=>False) w2).alloc (.cells #[.int .u8 80] 5)
 have hF3:=qm7 (k02.trans k3 (fun _ _ h=>h)) (hS2.keeps k3 (fun h=>h) (fun _ _ h=>h)) l3.sl (by simp) (by simp) (by omega) (by simp[Value.ownBlock];omega)
 have hT3:=hT2.keeps k3 (fun h=>h) (fun _ _ h=>h)
 have hs3:=k3.size
 clear hS2 hT2 l3 k3 k2 k02
 go_wp2_with fail
 refine hF3.mono ?_
 clear hF3
 rintro e w4 ⟨rfl,pv4,hS4,k04,k34,ho4⟩
 have hT4:=hT3.keeps k34 (fun h=>by simp[Value.ownBlock] at h;omega) (fun q hq=>by simp[Value.ownBlock] at hq)
 have hb4:pv4.ownBlock≠some w1.heap.size:=fun e=>by
  rcases ho4 with h|⟨k,h,hk⟩
  ·rw[h] at e;simp[Value.ownBlock] at e
  ·rw[h] at e;have:=Option.some.inj e;omega
 have hsz4:=k34.size
 clear hT3 ho4 k34
 have l5:OwnY w4.heap.size (w4.alloc (.cells #[.int .u8 81] 5)) (.slice (some ⟨w4.heap.size,0,none⟩) 1 1) [81]:=OwnY.lit1 w4 81
 have k5:=(Keeps.refl (fun _=>False) w4).alloc (.cells #[.int .u8 81] 5)
 have hF5:=qm7 (k04.trans k5 (fun _ _ h=>h)) (hS4.keeps k5 (fun h=>h) (fun _ _ h=>h)) l5.sl (by simp) (by simp) (by simp) (by simp[Value.ownBlock];omega)
 have hT5:=hT4.keeps k5 (fun h=>h) (fun _ _ h=>h)
 have hs5:=k5.size
 clear hS4 hT4 l5 k5 k04
 go_wp2_with fail
 refine hF5.mono ?_
 clear hF5
 rintro e w6 ⟨rfl,pv6,hS6,k06,k56,ho6⟩
 have hT6:=hT5.keeps k56 (fun h=>by rcases h with h|h;omega;exact hb4 h) (fun q hq=>by simp[Value.ownBlock] at hq)
 have hb6:pv6.ownBlock≠some w1.heap.size:=fun e=>by
  rcases ho6 with h|⟨k,h,hk⟩
  ·exact hb4 (by rw[← h];exact e)
  ·rw[h] at e;have:=Option.some.inj e;omega
 have hsz6:=k56.size
 clear hT5 ho6 k56 hb4
 have l7:OwnY w6.heap.size (w6.alloc (.cells #[.int .u8 80,.int .u8 80] 5)) (.slice (some ⟨w6.heap.size,0,none⟩) 2 2) [80,80]:=OwnY.lit2 w6 80 80
 have k7:=(Keeps.refl (fun _=>False) w6).alloc (.cells #[.int .u8 80,.int .u8 80] 5)
 have hF7:=q5g w1.heap.size w1.heap.size 5 (.slice none 0 0) _ [] [80,80] 0 _ (hT6.keeps k7 (fun h=>h) (fun _ _ h=>h)) l7.sl (by simp) (by simp) (by omega) (by simp[Value.ownBlock];omega) (by have:=k7.size;omega)
 have hS7:=hS6.keeps k7 (fun h=>h) (fun _ _ h=>h)
 have k07:=k06.trans k7 (fun _ _ h=>h)
 clear hS6 hT6 l7 k7 k06
 go_wp2_with fail
 refine hF7.mono ?_
 clear hF7
 rintro e w8 ⟨rfl,pv8,hT8,k78,ho8⟩
 have hS8:=hS7.keeps k78 (fun h=>by simp[Value.ownBlock] at h;omega) (fun q hq h=>by simp[Value.ownBlock] at h;exact hb6 (by rw[hq,h]))
 have k08:=k07.trans k78 (fun q hq h=>by simp[Value.ownBlock] at h;omega)
 clear hS7 k07 k78 ho8 hb6
 have hS8:StrAt w8 w.heap.size w.heap.size 5 pv6 [80,81] 2 false:=hS8
 have hT8:StrAt w8 w1.heap.size w1.heap.size 5 pv8 [80,80] 2 false:=hT8
 have hA:=q91 w.heap.size w.heap.size 5 pv6 [80,81] 2 false w8 hS8 (by decide) (by decide)
 rw[show sureC [80,81] false=0 by decide +kernel] at hA
 have HT:=Lib.hid (And.intro hS8 (And.intro hT8 k08))
 clear hS8 hT8 k08
 go_wp2_with fail
 refine hA.mono ?_
 clear hA
 rintro e w9 ⟨rfl,k9⟩
 have hB:=q91 w1.heap.size w1.heap.size 5 pv8 [80,80] 2 false w9 (HT.out.2.1.keeps k9 (fun h=>h) (fun _ _ h=>h)) (by decide) (by decide)
 rw[show sureC [80,80] false=3 by decide +kernel] at hB
 have HK9:=Lib.hid k9
 clear k9
 go_wp2_with fail
 refine hB.mono ?_
 clear hB
 rintro e w10 ⟨rfl,k10⟩
 have hC:=qah w.heap.size w.heap.size 5 pv6 [80,81] 2 false w10 ((HT.out.1.keeps HK9.out (fun h=>h) (fun _ _ h=>h)).keeps k10 (fun h=>h) (fun _ _ h=>h))
 have HK:=Lib.hid ((HT.out.2.2.trans HK9.out (fun _ _ h=>h)).trans k10 (fun _ _ h=>h))
 clear k10
 go_wp2_with fail
 refine hC.mono ?_
 clear hC
 rintro e w11 ⟨rfl,rfl⟩
 go_wp2_with fail
 go_ret
 exact⟨rfl,HK.out⟩
end Go.Proofs.YtcfdpogegngplaaGreat
