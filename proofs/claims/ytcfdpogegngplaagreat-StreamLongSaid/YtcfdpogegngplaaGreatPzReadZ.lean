/- file.reader.read of noughts: a map of nothing. -/
import Derived.Deep.RegionHeld3
import Derived.BigQuiet
import Derived.Test.YtcfdpogegngplaaGreatPzRdNum
import Derived.Test.YtcfdpogegngplaaGreatPzEncNone
namespace Go.Proofs.YtcfdpogegngplaaGreat
open Go.RowKit

theorem numV_zero (cs : List Nat) (most : Nat) : numV (0 :: cs) most = some (0, cs) := by
  have h : getN (0 :: cs) 0 0 = some (0, 1) := by
    rw [getN_cons, if_neg (by simp), if_pos (by decide)]
  unfold numV
  rw [h]
  simp

set_option maxRecDepth 100000 in
set_option maxHeartbeats 4000000 in
theorem readZero_any (br : Nat) (t p : Bool) (pv : Value) (cs : List Nat) (w : World) (hR : RdF w br t p false pv (.slice none 0 0) true) (hpb : pv.ownBlock ≠ some br) (hp : Sl .u8 w pv (nats (0 :: 0 :: cs))) (hcs : ∀ x ∈ cs, x < 256) (hl : cs.length ≤ 9000000) :
    Calls Tryz.prog 78 #[.pointer (some ⟨br, 0, none⟩)] w fun e w' => ∃ b R, e = .returned (.tuple #[.pointer (some ⟨b, 0, none⟩), .bool true]) ∧ MapAt w' b [] (-1) 0 R ∧ w.heap.size ≤ b ∧ Keeps (fun k => k = br) w w' := by
  have hnot : ∀ (x : Bool) (w : World), (Op.unary .not (.bool x)).run Tryz.prog w = .ok (.bool (!x)) w := fun _ _ => rfl
  have hN1 := rdNum_any br t p false true pv (.slice none 0 0) (0 :: 0 :: cs) 65536 w hR hpb hp (fun x hx => by simp at hx; rcases hx with h | h; omega; exact hcs x h) (by simp; omega) (by decide)
  rw [numV_zero] at hN1
  have HC := Lib.hid hcs
  clear hR hp hcs
  go_enter Tryz.func78, Tryz.ntmps78
  go_wp2_with fail
  refine hN1.mono ?_
  clear hN1
  intro e w1 h1
  rcases h1 with ⟨x, cs1, pv1, -, hxe, rfl, hR1, hpo1, hp1, hk1⟩ | ⟨h | h, -⟩
  rotate_left
  · cases h
  · cases h
  obtain ⟨rfl, rfl⟩ : x = 0 ∧ cs1 = 0 :: cs := by simpa using hxe.symm
  have hpb1 : pv1.ownBlock ≠ some br := fun e => hpb (hpo1 br e)
  have hN2 := rdNum_any br t p false true pv1 (.slice none 0 0) (0 :: cs) 65536 w1 hR1 hpb1 hp1 (fun x hx => by simp at hx; rcases hx with h | h; omega; exact HC.out x h) (by simp; omega) (by decide)
  rw [numV_zero] at hN2
  have HK1 := Lib.hid hk1
  clear hR1 hp1 hk1 hxe hpo1 hpb
  go_wp2_with fail
  refine hN2.mono ?_
  clear hN2
  intro e w2 h2
  rcases h2 with ⟨x, cs2, pv2, -, hxe, rfl, hR2, hpo2, hp2, hk2⟩ | ⟨h | h, -⟩
  rotate_left
  · cases h
  · cases h
  obtain ⟨rfl, rfl⟩ : x = 0 ∧ cs2 = cs := by simpa using hxe.symm
  have HK2 := Lib.hid (HK1.out.trans hk2 (fun _ _ h => h))
  have HR2 := Lib.hid hR2
  have d5 : w2.cell? ⟨br, 5, none⟩ = some (.bool true) := World.cell_of_heap hR2 5
  have d4 : w2.cell? ⟨br, 4, none⟩ = some (.slice none 0 0) := World.cell_of_heap hR2 4
  clear hR2 hp2 hk2 hxe hpo2 hpb1
  go_wp2_with fail
  refine wp_loop_once ?_
  have hNw := new_none (.slice none 0 0) 0 w2.drew ⟨none, 0, rfl, by simp, by decide, fun _ => rfl, fun j z hj => by simp at hj⟩ (by decide)
  have hmn : ∀ W, (Builtin.min_ #[3, 3] 3 #[.int .i64 0, .int .i64 (-1)]).run Tryz.prog W = .ok (.int .i64 (-1)) W := fun W => rfl
  have HC4 : Hid (∀ W, Keeps (fun _ => False) w2 W → W.cell? ⟨br, 4, none⟩ = some (.slice none 0 0)) := Lib.hid (fun W hW => World.cell_of_heap (HR2.out.keeps hW (fun h => h)) 4)
  go_wp2_with fail
  go_region_held3 (fun w' => w'.cell? ⟨br, 4, none⟩ = some (.slice none 0 0)) (first | exact HC4.out _ (Keeps.refl _ _) | exact HC4.out _ (Keeps.refl (fun _ => False) w2).drew | exact HC4.out _ HK3.out.2.2.2) ((go_at_call 30; refine hNw.mono ?_; rintro e w3 ⟨b3, rfl, hA3, hb3, hk3⟩; have HK3 : Hid (MapAt w3 b3 [] (-1) 0 _ ∧ w2.drew.heap.size ≤ b3 ∧ Keeps (fun _ => False) w2.drew w3 ∧ Keeps (fun _ => False) w2 w3) := Lib.hid ⟨hA3, hb3, hk3, (Keeps.refl (fun _ => False) w2).drew.trans hk3 (fun _ _ h => h)⟩; clear hA3 hb3 hk3))
  all_goals
    have d2 : w3.cell? ⟨br, 2, none⟩ = some (.bool false) := World.cell_of_heap (HR2.out.keeps HK3.out.2.2.2 (fun h => h)) 2
    have HF : Hid (∀ W, Keeps (fun _ => False) w3 W → (∃ R, MapAt W b3 [] (-1) 0 R) ∧ w.heap.size ≤ b3 ∧ Keeps (fun k => k = br) w W) := Lib.hid (fun W hW => ⟨⟨_, HK3.out.1.keeps hW (fun h => h) (fun _ _ h => h)⟩, Nat.le_trans HK2.out.size HK3.out.2.1, HK2.out.trans (HK3.out.2.2.2.trans hW (fun _ _ h => h)) (fun _ _ h => h.elim)⟩)
    go_wp2_with fail
    refine bodyPost_ret (v := .tuple #[.pointer (some ⟨b3, 0, none⟩), .bool true]) (by simp [results, Tryz.results78, go_sem]) rfl ?_
    obtain ⟨⟨R, h1⟩, h2, h3⟩ := HF.out _ (by first | exact Keeps.refl _ _ | exact (Keeps.refl _ _).drew | exact (Keeps.refl _ _).drewN _)
    exact ⟨b3, R, rfl, h1, h2, h3⟩

end Go.Proofs.YtcfdpogegngplaaGreat
