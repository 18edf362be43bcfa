/- The contracts of package dart: what a map is asked. -/
import Derived.Test.YtipelclohcdkcaaGreatMap
namespace Go.Proofs.YtipelclohcdkcaaGreat
open Go.RowKit

section
variable {w : World} {b : Nat} {s : List Nat} {root lone : Int} {R : Nat → Prop} (h : MapAt w b s root lone R)
include h

theorem mapDarts_any : Calls Tryz.prog 71 #[.pointer (some ⟨b, 0, none⟩)] w fun e w' => e = .returned (.int .i64 s.length) ∧ w = w' := by
  obtain ⟨bp, bq, sv, tv, d1, d2, o1, z1, o2, z2, h1, h2, h3, _⟩ := h.ex
  have c0 : w.cell? ⟨b, 0, none⟩ = some (.pointer (some ⟨bp, 0, none⟩)) := World.cell_of_heap h1 0
  have hL := permLen_any bp sv s w h2
  clear h h1 h2 h3
  go_enter Tryz.func71, Tryz.ntmps71
  go_wp2_with (go_at_call 142; refine hL.mono ?_; rintro e w' ⟨rfl, rfl⟩)
  go_ret
  exact ⟨rfl, rfl⟩

theorem mapEdges_any : Calls Tryz.prog 75 #[.pointer (some ⟨b, 0, none⟩)] w fun e w' => e = .returned (.int .i64 (s.length / 2 : Nat)) ∧ w = w' := by
  have hD := mapDarts_any h
  have hle := h.le
  clear h
  generalize s.length = n at *
  go_enter Tryz.func75, Tryz.ntmps75
  go_wp2_with (go_at_call 71; refine hD.mono ?_; rintro e w' ⟨rfl, rfl⟩)
  go_ret
  exact ⟨rfl, rfl⟩

theorem mapRoot_any : Calls Tryz.prog 82 #[.pointer (some ⟨b, 0, none⟩)] w fun e w' => e = .returned (.int .i64 root) ∧ w = w' := by
  obtain ⟨bp, bq, sv, tv, d1, d2, o1, z1, o2, z2, h1, h2, h3, _⟩ := h.ex
  have c0 : w.cell? ⟨b, 12, none⟩ = some (.int .i64 root) := World.cell_of_heap h1 12
  clear h h1 h2 h3
  go_enter Tryz.func82, Tryz.ntmps82
  go_wp2
  go_ret
  exact ⟨rfl, rfl⟩

theorem mapLone_any : Calls Tryz.prog 70 #[.pointer (some ⟨b, 0, none⟩)] w fun e w' => e = .returned (.int .i64 lone) ∧ w = w' := by
  obtain ⟨bp, bq, sv, tv, d1, d2, o1, z1, o2, z2, h1, h2, h3, _⟩ := h.ex
  have c0 : w.cell? ⟨b, 13, none⟩ = some (.int .i64 lone) := World.cell_of_heap h1 13
  clear h h1 h2 h3
  go_enter Tryz.func70, Tryz.ntmps70
  go_wp2
  go_ret
  exact ⟨rfl, rfl⟩

theorem mapList_any : Calls Tryz.prog 81 #[.pointer (some ⟨b, 0, none⟩)] w fun e w' => ∃ v, e = .returned v ∧ OwnI w.heap.size w' v (nats s) ∧ Keeps (fun _ => False) w w' := by
  obtain ⟨bp, bq, sv, tv, d1, d2, o1, z1, o2, z2, h1, h2, h3, _⟩ := h.ex
  have c0 : w.cell? ⟨b, 0, none⟩ = some (.pointer (some ⟨bp, 0, none⟩)) := World.cell_of_heap h1 0
  have hL := permList_any bp sv s w h2 (by have := h.le; omega)
  clear h h1 h2 h3
  go_enter Tryz.func81, Tryz.ntmps81
  go_wp2_with fail
  refine hL.mono ?_
  rintro e w1 ⟨v, rfl, hown, hk⟩
  have HF := Lib.hid (And.intro hown hk)
  clear hL hown hk
  go_wp2
  go_ret
  exact ⟨_, rfl, HF.out⟩

theorem mapSigma_in (d : Nat) (hd : d < s.length) : Calls Tryz.prog 91 #[.pointer (some ⟨b, 0, none⟩), .int .i64 d] w fun e w' => e = .returned (.int .i64 (sg s d : Nat)) ∧ w = w' := by
  obtain ⟨bp, bq, sv, tv, d1, d2, o1, z1, o2, z2, h1, h2, h3, _⟩ := h.ex
  have c0 : w.cell? ⟨b, 0, none⟩ = some (.pointer (some ⟨bp, 0, none⟩)) := World.cell_of_heap h1 0
  have hL := permAt_in bp sv s d w h2 hd
  clear h h1 h2 h3
  go_enter Tryz.func91, Tryz.ntmps91
  go_wp2_with (go_at_call 158; refine hL.mono ?_; rintro e w' ⟨rfl, rfl⟩)
  go_ret
  exact ⟨rfl, rfl⟩

theorem mapPhi_in (d : Nat) (hd : d < s.length) : Calls Tryz.prog 92 #[.pointer (some ⟨b, 0, none⟩), .int .i64 d] w fun e w' => e = .returned (.int .i64 (sg s (mt d) : Nat)) ∧ w = w' := by
  obtain ⟨bp, bq, sv, tv, d1, d2, o1, z1, o2, z2, h1, h2, h3, _⟩ := h.ex
  have c0 : w.cell? ⟨b, 6, none⟩ = some (.pointer (some ⟨bq, 0, none⟩)) := World.cell_of_heap h1 6
  have hL := permAt_in bq tv (phiL s) d w h3 (by rw [phiL_length]; exact hd)
  rw [sg_phi hd] at hL
  clear h h1 h2 h3
  go_enter Tryz.func92, Tryz.ntmps92
  go_wp2_with (go_at_call 158; refine hL.mono ?_; rintro e w' ⟨rfl, rfl⟩)
  go_ret
  exact ⟨rfl, rfl⟩

theorem mapMate_in (d : Nat) (hd : d < s.length) : Calls Tryz.prog 151 #[.pointer (some ⟨b, 0, none⟩), .int .i64 d] w fun e w' => e = .returned (.int .i64 (mt d : Nat)) ∧ w = w' := by
  have hD := mapDarts_any h
  have hx := xor_i64 d (by have := h.le; omega)
  have d0 : decide ((d : Int) < 0) = false := decide_eq_false (by omega)
  have d1 : decide (s.length ≤ d) = false := decide_eq_false (by omega)
  clear h
  generalize mt d = y at *
  go_enter Tryz.func151, Tryz.ntmps151
  go_wp2_with (go_at_call 71; refine hD.mono ?_; rintro e w' ⟨rfl, rfl⟩)
  go_ret
  exact ⟨rfl, rfl⟩

theorem mapVertex_in (d : Nat) (hd : d < s.length) : Calls Tryz.prog 78 #[.pointer (some ⟨b, 0, none⟩), .int .i64 d] w fun e w' => e = .returned (.int .i64 (vnum (sg s) d : Nat)) ∧ MapQ w b s root lone R w' := by
  obtain ⟨bp, sv, d1, o1, z1, nb, hp, hT, hbp, hsv, hfin⟩ := h.nb1
  have hN := name_in b 0 _ _ bp d1 o1 z1 sv s d w nb hT hp hbp hsv h.isP (by have := h.le; omega) hd
  have HF := Lib.hid hfin
  clear h nb hT hp hbp hsv hfin
  go_enter Tryz.func78, Tryz.ntmps78
  go_wp2_with fail
  refine hN.mono ?_
  rintro e w1 ⟨rfl, hq⟩
  have HQ := Lib.hid (HF.out _ hq)
  clear hN hq HF
  go_wp2
  go_ret
  exact ⟨rfl, HQ.out⟩

theorem mapFace_in (d : Nat) (hd : d < s.length) : Calls Tryz.prog 192 #[.pointer (some ⟨b, 0, none⟩), .int .i64 d] w fun e w' => e = .returned (.int .i64 (vnum (sg (phiL s)) d : Nat)) ∧ MapQ w b s root lone R w' := by
  obtain ⟨bp, sv, d1, o1, z1, nb, hp, hT, hbp, hsv, hfin⟩ := h.nb2
  have hN := name_in b 6 _ _ bp d1 o1 z1 sv (phiL s) d w nb hT hp hbp hsv (phi_isP h.isP h.even) (by have := h.le; rw [phiL_length]; omega) (by rw [phiL_length]; exact hd)
  have HF := Lib.hid hfin
  clear h nb hT hp hbp hsv hfin
  go_enter Tryz.func192, Tryz.ntmps192
  go_wp2_with fail
  refine hN.mono ?_
  rintro e w1 ⟨rfl, hq⟩
  have HQ := Lib.hid (HF.out _ hq)
  clear hN hq HF
  go_wp2
  go_ret
  exact ⟨rfl, HQ.out⟩

theorem mapBorders_any : Calls Tryz.prog 74 #[.pointer (some ⟨b, 0, none⟩)] w fun e w' => e = .returned (.int .i64 (ldr (sg (phiL s)) s.length : Nat)) ∧ MapQ w b s root lone R w' := by
  obtain ⟨bp, sv, d1, o1, z1, nb, hp, hT, hbp, hsv, hfin⟩ := h.nb2
  have hN := count_any b 6 _ _ bp d1 o1 z1 sv (phiL s) w nb hT hp hbp hsv (phi_isP h.isP h.even) (by have := h.le; rw [phiL_length]; omega)
  rw [phiL_length] at hN
  have HF := Lib.hid hfin
  clear h nb hT hp hbp hsv hfin
  go_enter Tryz.func74, Tryz.ntmps74
  go_wp2_with fail
  refine hN.mono ?_
  rintro e w1 ⟨rfl, hq⟩
  have HQ := Lib.hid (HF.out _ hq)
  clear hN hq HF
  go_wp2
  go_ret
  exact ⟨rfl, HQ.out⟩

end

end Go.Proofs.YtipelclohcdkcaaGreat
