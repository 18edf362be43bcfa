/- slices.Clone of ints. -/
import Derived.Shelf.Strings.Builder1
import Derived.Test.YtblkkcpeodoclaaGreatDoorProg
import Derived.Test.YtblkkcpeodoclaaGreatDoorPtRef4
import Derived.Test.YtblkkcpeodoclaaGreatDoorPtConn
namespace Go.Proofs.YtblkkcpeodoclaaGreatDoor
open Go.RowKit

theorem own_empty (w : World) : OwnI w.heap.size (w.alloc (.cells #[] 3)) (.slice (some ⟨w.heap.size, 0, none⟩) 0 0) [] := by
  refine ⟨rfl, .inr ⟨w.heap.size, 0, #[], rfl, Nat.le_refl _, heap_alloc_new w _, Nat.le_refl _, Nat.zero_le _, ?_, ?_⟩⟩ <;> simp [ints]

set_option maxRecDepth 100000 in
set_option maxHeartbeats 1000000 in
theorem clone_any (sv : Value) (zs : List Int) (w : World) (hs : Sl .i64 w sv zs) (hl : zs.length ≤ 1000000000) :
    Calls Tryz.prog 50 #[sv] w fun e w' => ∃ v, e = .returned v ∧ OwnI w.heap.size w' v zs ∧ Keeps (fun _ => False) w w' := by
  have hnil := fun (w : World) (a : Option Addr) (n c : Nat) => Lib.run_eql_slice_nil (P := Tryz.prog) w 33 3 a n c 0 0 Tryz.underlying33
  have hs0 := hs
  obtain ⟨a, cap, rfl, hnc, hcm, hnone, hc⟩ := hs
  cases a with
  | none =>
    have hz : zs = [] := by
      cases zs with
      | nil => rfl
      | cons y ys => obtain ⟨g, off, h, _⟩ := hc 0 y rfl; cases h
    subst hz
    obtain rfl := hnone rfl
    clear hc hs0 hnone
    go_enter Tryz.func50, Tryz.ntmps50
    go_wp2
    go_ret
    exact ⟨_, rfl, OwnI.nil _ _, Keeps.refl _ _⟩
  | some a =>
    have k0 := (Keeps.refl (fun _ => False) w).alloc (.cells #[] 3)
    have hs1 := hs0.keeps k0 (fun _ _ h => h)
    have ho := own_empty w
    have H0 := Lib.hid (And.intro hs1 (And.intro ho k0))
    clear hc hs0 hnone hs1 ho k0
    go_enter Tryz.func50, Tryz.ntmps50
    go_wp2_with (at_builtin; (refine appendInts rfl _ _ rfl w.heap.size (.slice (some ⟨w.heap.size, 0, none⟩) 0 0) (.slice (some a) zs.length cap) [] zs rfl rfl H0.out.2.1 H0.out.1 (by simp; omega) (by simp) ?_); intro v5 w5 hown5 hk5 hf5)
    have HF : Hid (OwnI w.heap.size w5 v5 zs ∧ Keeps (fun _ => False) w w5) := Lib.hid ⟨by simpa using hown5, H0.out.2.2.trans hk5 (fun x hx h => by simp only [Value.ownBlock, Option.some.injEq] at h; omega)⟩
    clear hown5 hk5 hf5
    go_wp2
    go_ret
    exact ⟨_, rfl, HF.out⟩

/-! slices.Equal of two equal rows of numbers. -/

set_option maxRecDepth 100000 in
set_option maxHeartbeats 2000000 in
theorem equal_same (sv tv : Value) (zs : List Int) (w : World) (hs : Sl .i64 w sv zs) (ht : Sl .i64 w tv zs) (hl : zs.length ≤ 100000) :
    Calls Tryz.prog 51 #[sv, tv] w fun e w' => e = .returned (.bool true) ∧ Keeps (fun _ => False) w w' := by
  have HS := Lib.hid (And.intro hs ht)
  obtain ⟨a, c, rfl, _, _⟩ := hs.form
  obtain ⟨a', c', rfl, _, _⟩ := ht.form
  generalize hm : zs.length = m at *
  have HM := Lib.hid hm
  clear hs ht hm
  go_enter Tryz.func51, Tryz.ntmps51
  go_wp2_with fail
  go_loopg [13] (m - 0) (fun mu i wr => ∃ j : Nat, j ≤ m ∧ mu = m - j ∧ i = .int .i64 j ∧ Keeps (fun _ => False) w wr)
  case atStart => exact ⟨0, Nat.zero_le _, rfl, rfl, Keeps.refl _ _⟩
  case round =>
    obtain ⟨j, hj, hgk, rfl, hk⟩ := hrel
    have HG := Lib.hid hgk
    clear hgk
    by_cases hlt : j < m
    · obtain ⟨z, hz⟩ : ∃ z, zs[j]? = some z := ⟨_, List.getElem?_eq_getElem (by rw [HM.out]; exact hlt)⟩
      have kd : Keeps (fun _ => False) wr wr.drew := (Keeps.refl _ wr).drew
      obtain ⟨g, o, rfl, k1⟩ := (HS.out.1.keeps hk (fun _ _ h => h)).cellAt hz
      obtain ⟨g', o', rfl, k2⟩ := (HS.out.2.keeps hk (fun _ _ h => h)).cellAt hz
      have d1 : wr.drew.cell? ⟨g, o + j, none⟩ = some (.int .i64 z) := k1
      have d2 : wr.drew.cell? ⟨g', o' + j, none⟩ = some (.int .i64 z) := k2
      have HK := Lib.hid hk
      clear hz kd hk
      go_wp2_with fail
      go_quiet (fail)
      go_wp2_with fail
      go_roundg (m - (j + 1))
      case measure => rw [HG.out]; omega
      case rel => exact ⟨j + 1, by omega, rfl, by go_num, HK.out.drewN nq⟩
    · have HK := Lib.hid hk
      clear hk
      go_wp2_with fail
      go_ret
      exact ⟨rfl, HK.out⟩

end Go.Proofs.YtblkkcpeodoclaaGreatDoor
