/- look.Face: what there isn't; Edges. -/
import Derived.Test.YtipelclohcdkcaaGreatLook9
namespace Go.Proofs.YtipelclohcdkcaaGreat
open Go.RowKit

set_option maxRecDepth 100000 in
set_option maxHeartbeats 1000000 in
theorem lookFace_out {w : World} {bl b bo : Nat} {bi bp : Nat → Nat} {ks : List Nat} {q : Nat} {F : Nat → Prop} {n : Nat} (h : LookS w bl b bo bi bp ks q F n) (hn : n ≤ 1000000) (i : Int) (hi : -9223372036854775808 ≤ i ∧ i ≤ 9223372036854775807) (ho : ¬ (0 ≤ i ∧ i < ks.length)) :
    Calls Tryz.prog 42 #[.pointer (some ⟨bl, 0, none⟩), .int .i64 i] w fun e w' => e = .returned (.tuple #[.slice none 0 0, .int .i64 1]) ∧ LookQ w bl b bo bi bp ks q F (n + 1) w' := by
  have hP := lookPlace_any h hn i hi
  have H := Lib.hid h
  clear h
  go_enter Tryz.func42, Tryz.ntmps42
  go_wp2_with fail
  refine hP.mono ?_
  rintro e w1 ⟨⟨c, rfl, hc⟩, hS, hk⟩
  rcases hc with ⟨h0, h1, _⟩ | ⟨_, rfl⟩
  · exact absurd ⟨h0, h1⟩ ho
  · have HF := Lib.hid (H.out.placeq hS hk)
    clear hP hS hk
    go_wp2
    go_ret2
    exact ⟨rfl, HF.out⟩

set_option maxRecDepth 100000 in
set_option maxHeartbeats 1000000 in
theorem lookEdges_any {w : World} {bl b bo : Nat} {bi bp : Nat → Nat} {ks : List Nat} {q : Nat} {F : Nat → Prop} {n : Nat} (h : LookS w bl b bo bi bp ks q F n) :
    Calls Tryz.prog 43 #[.pointer (some ⟨bl, 0, none⟩)] w fun e w' => e = .returned (.int .i64 (ks.length / 2 : Nat)) ∧ w = w' := by
  have c0 := h.own.c0
  have hL := mixLen_any h.mix
  have hle := h.mix.le
  clear h
  obtain ⟨r, hr⟩ : ∃ r, r = ks.length / 2 := ⟨_, rfl⟩
  have hr2 : r ≤ 100000000 := by omega
  have e1 : ((ks.length : Nat) : Int).tdiv 2 = (r : Int) := by rw [hr, Int.tdiv_eq_ediv_of_nonneg (by omega)]; simp
  rw [← hr]
  clear hr
  generalize ks.length = N at *
  go_enter Tryz.func43, Tryz.ntmps43
  go_wp2_with fail
  refine hL.mono ?_
  rintro e w1 ⟨rfl, rfl⟩
  clear hL
  go_wp2
  go_ret
  exact ⟨rfl, rfl⟩

end Go.Proofs.YtipelclohcdkcaaGreat
