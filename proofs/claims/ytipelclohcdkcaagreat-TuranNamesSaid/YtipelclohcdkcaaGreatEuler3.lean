/- The contracts of package euler: genus, planar, connected. -/
import Derived.Test.YtipelclohcdkcaaGreatEuler2
import Derived.Test.YtipelclohcdkcaaGreatEnc
namespace Go.Proofs.YtipelclohcdkcaaGreat
open Go.RowKit

section
variable {w : World} {b : Nat} {s : List Nat} {root : Int} {l : Nat} {R : Nat → Prop} (h : MapAt w b s root l R)
include h

set_option maxRecDepth 100000 in
set_option maxHeartbeats 4000000 in
theorem eulerGenus_any : Calls Tryz.prog 146 #[.pointer (some ⟨b, 0, none⟩)] w fun e w' => e = .returned (.int .i64 (genS (partsA s l))) ∧ MapQ w b s root l R w' := by
  have hPt := eulerParts_any h
  have hle := h.le
  have hln := h.ln
  have hR := partsA_row5 s (by omega) l
  have hn : (partsA s l).length ≤ 2000000 := by rw [partsA_length]; have := cldr_le s.length (sg s) s.length; omega
  have HH := Lib.hid h
  generalize partsA s l = ps at *
  clear h
  go_enter Tryz.func146, Tryz.ntmps146
  go_wp2_with fail
  refine hPt.mono ?_
  rintro e w1 ⟨pv, rfl, hown, hk1⟩
  obtain ⟨pa, pc, rfl⟩ := hown.form
  have HO : Hid (∀ W, Keeps (fun _ => False) w1 W → Own5 217 w.heap.size W (.slice pa ps.length pc) ps) := Lib.hid (fun W hk => hown.keeps hk (fun _ _ h => h))
  have HR := Lib.hid (And.intro hR (And.intro (genS_bound hR) hk1))
  have h0 := Keeps.refl (fun _ => False) w1
  clear hPt hown hk1 hR
  generalize hN : ps.length = N at *
  have HN := Lib.hid hN
  clear hN
  go_wp2_with fail
  go_loopg [3, 9] N (fun m c i wr => ∃ j : Nat, j ≤ N ∧ m = N - j ∧ i = .int .i64 j ∧ c = .int .i64 (genS (ps.take j)) ∧ Keeps (fun _ => False) w1 wr)
  case atStart => exact ⟨0, Nat.zero_le _, rfl, rfl, rfl, h0⟩
  case round =>
    clear h0
    obtain ⟨j, hj, hgk, rfl, rfl, hk⟩ := hrel
    have HG := Lib.hid hgk
    clear hgk
    obtain ⟨hb1, hb2⟩ := HR.out.2.1 j hj
    by_cases hlt : j < N
    · have hp := List.getElem?_eq_getElem (l := ps) (i := j) (by rw [HN.out]; exact hlt)
      obtain ⟨p, hpe⟩ : ∃ p, p = ps[j]'(by rw [HN.out]; exact hlt) := ⟨_, rfl⟩
      rw [← hpe] at hp
      clear hpe
      obtain ⟨z0, z1, z2, z3, z4, rfl, hz1, hz2⟩ := HR.out.1 p (List.mem_of_getElem? hp)
      have hgs := genS_succ hp
      simp only [List.getD_cons_succ, List.getD_cons_zero] at hgs
      obtain ⟨g, cap, hv, hcell⟩ := (HO.out wr hk).cell hp
      simp only [Value.slice.injEq] at hv
      obtain ⟨rfl, -, rfl⟩ := hv
      have d0 : wr.cell? ⟨g, j * 5, none⟩ = some (.int .i64 z0) := hcell 0 z0 rfl
      have d1 := hcell 1 z1 rfl
      have d2 := hcell 2 z2 rfl
      have d3 := hcell 3 z3 rfl
      have d4 := hcell 4 z4 rfl
      have HF := Lib.hid (And.intro hgs (hk.alloc (.cells #[.int .i64 z0, .int .i64 z1, .int .i64 z2, .int .i64 z3, .int .i64 z4] 217)))
      clear hgs hk hcell hp
      generalize genS (ps.take j) = S at *
      go_wp2
      go_roundg (N - (j + 1))
      case measure => rw [HG.out]; omega
      case rel => exact ⟨j + 1, by omega, rfl, by go_num, by rw [HF.out.1], HF.out.2⟩
    · obtain rfl : j = N := by omega
      rw [List.take_of_length_le (by rw [HN.out]; exact Nat.le_refl _)]
      have HF := Lib.hid (HH.out.trans HR.out.2.2 (HR.out.2.2.1.still hk))
      clear hk
      go_wp2
      go_ret
      exact ⟨rfl, HF.out⟩

theorem eulerConnected_any : Calls Tryz.prog 84 #[.pointer (some ⟨b, 0, none⟩)] w fun e w' => e = .returned (.bool (decide (cldr s.length (sg s) s.length + l = 1))) ∧ MapQ w b s root l R w' := by
  have hPt := eulerParts_any h
  have hlen := partsA_length s l
  obtain ⟨N, hN⟩ : ∃ N, N = cldr s.length (sg s) s.length + l := ⟨_, rfl⟩
  rw [← hN] at hlen ⊢
  have HL := Lib.hid hlen
  have hd : ((N : Int) == 1) = decide (N = 1) := by
    by_cases e : N = 1
    · subst e; rfl
    · rw [decide_eq_false e, beq_eq_false_iff_ne]; omega
  have HD := Lib.hid hd
  clear h hN hlen hd
  go_enter Tryz.func84, Tryz.ntmps84
  go_wp2_with fail
  refine hPt.mono ?_
  rintro e w1 ⟨pv, rfl, hown, hk1⟩
  obtain ⟨pa, pc, rfl⟩ := hown.form
  rw [HL.out]
  have HF := Lib.hid hk1
  clear hPt hown hk1
  go_wp2
  go_ret
  exact ⟨by rw [← HD.out]; rfl, HF.out⟩

theorem eulerPlanar_any : Calls Tryz.prog 83 #[.pointer (some ⟨b, 0, none⟩)] w fun e w' => e = .returned (.bool (decide (genS (partsA s l) = 0))) ∧ MapQ w b s root l R w' := by
  have hG := eulerGenus_any h
  obtain ⟨N, hN⟩ : ∃ N, N = genS (partsA s l) := ⟨_, rfl⟩
  rw [← hN] at hG ⊢
  have hd : (N == 0) = decide (N = 0) := by
    by_cases e : N = 0
    · subst e; rfl
    · rw [decide_eq_false e, beq_eq_false_iff_ne]; exact e
  have HD := Lib.hid hd
  clear h hN hd
  go_enter Tryz.func83, Tryz.ntmps83
  go_wp2_with fail
  refine hG.mono ?_
  rintro e w1 ⟨rfl, hk1⟩
  have HF := Lib.hid hk1
  clear hG hk1
  go_wp2
  go_ret
  exact ⟨by rw [← HD.out]; rfl, HF.out⟩
end

end Go.Proofs.YtipelclohcdkcaaGreat
