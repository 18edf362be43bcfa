/- dart.New of turns that are right, at a root or a size that is not. -/
import Derived.Test.YtblkkcpeodoclaaGreatDoorPtRots5
namespace Go.Proofs.YtblkkcpeodoclaaGreatDoor
open Go.RowKit

set_option maxRecDepth 100000 in
set_option maxHeartbeats 4000000 in
theorem new_bad (lv : Value) (s : List Nat) (r : Int) (l : Nat) (w : World) (hs : Sl .i64 w lv (nats s)) (hP : IsP s.length (sg s)) (he : s.length % 2 = 0) (hle : s.length ≤ 1000000) (hr1 : -1 ≤ r) (hr2 : r ≤ 10000000000) (hl : l ≤ 10000000000)
    (hbad : ¬ ((s.length = 0 ∧ r = -1) ∨ (0 ≤ r ∧ r < s.length)) ∨ 131072 < s.length ∨ 65536 < l) :
    Calls Tryz.prog 15 #[lv, .int .i64 r, .int .i64 l] w fun e w' => (∃ er, (er = 5 ∨ er = 6) ∧ e = .returned (.tuple #[.pointer none, .int .i64 er])) ∧ Keeps (fun _ => False) w w' := by
  have hO := permOf_any lv s w hs hP (by omega)
  obtain ⟨a, cap, rfl, hnc, hcm⟩ := hs.form
  rw [nats_len] at hnc hO ⊢
  obtain ⟨n, hn⟩ : ∃ n, n = s.length := ⟨_, rfl⟩
  rw [← hn] at hbad he hle hO ⊢
  have HO := Lib.hid hO
  clear hO hs hP hnc hn
  have q1 : ((n : Int).tmod 2 == 1) = false := by rw [beq_eq_false_iff_ne, Int.tmod_eq_emod_of_nonneg (by omega)]; omega
  have q2 : ((n : Int) % 2 == 1) = false := by rw [beq_eq_false_iff_ne]; omega
  have q7 : decide ((l : Int) < 0) = false := decide_eq_false (by omega)
  have key : ∀ er : Int, (er = 5 ∨ er = 6) → True := fun _ _ => trivial
  clear key
  go_enter Tryz.func15, Tryz.ntmps15
  go_wp2_with fail
  refine HO.out.mono ?_
  rintro e w1 ⟨bp, sv, rfl, -, -, -, hk1⟩
  have HK := Lib.hid hk1
  clear hk1
  by_cases h0 : n = 0
  · subst h0
    by_cases hr : r = -1
    · subst hr
      have q9 : decide ((65536 : Int) < (l : Int)) = true := decide_eq_true (by omega)
      go_wp2
      exact bodyPost_ret (v := .tuple #[.pointer none, .int .i64 6]) (by simp [results, Tryz.results15, go_sem]) rfl ⟨⟨6, .inr rfl, rfl⟩, HK.out⟩
    · have q3 : (r == -1) = false := by rw [beq_eq_false_iff_ne]; exact hr
      go_wp2
      exact bodyPost_ret (v := .tuple #[.pointer none, .int .i64 5]) (by simp [results, Tryz.results15, go_sem]) rfl ⟨⟨5, .inl rfl, rfl⟩, HK.out⟩
  · have q3 : ((n : Int) == 0) = false := by rw [beq_eq_false_iff_ne]; omega
    have q4 : decide ((0 : Int) < (n : Int)) = true := decide_eq_true (by omega)
    have q4' : decide (0 < n) = true := decide_eq_true (by omega)
    by_cases hr : r < 0
    · have q5 : decide (r < 0) = true := decide_eq_true hr
      go_wp2
      exact bodyPost_ret (v := .tuple #[.pointer none, .int .i64 5]) (by simp [results, Tryz.results15, go_sem]) rfl ⟨⟨5, .inl rfl, rfl⟩, HK.out⟩
    · have q5 : decide (r < 0) = false := decide_eq_false hr
      by_cases hrn : (n : Int) ≤ r
      · have q6 : decide ((n : Int) ≤ r) = true := decide_eq_true hrn
        go_wp2
        exact bodyPost_ret (v := .tuple #[.pointer none, .int .i64 5]) (by simp [results, Tryz.results15, go_sem]) rfl ⟨⟨5, .inl rfl, rfl⟩, HK.out⟩
      · have q6 : decide ((n : Int) ≤ r) = false := decide_eq_false hrn
        by_cases hb : (65536 : Int) < (n : Int) / 2
        · have q8 : decide ((65536 : Int) < (n : Int) / 2) = true := decide_eq_true hb
          go_wp2
          exact bodyPost_ret (v := .tuple #[.pointer none, .int .i64 6]) (by simp [results, Tryz.results15, go_sem]) rfl ⟨⟨6, .inr rfl, rfl⟩, HK.out⟩
        · have q8 : decide ((65536 : Int) < (n : Int) / 2) = false := decide_eq_false hb
          have q9 : decide ((65536 : Int) < (l : Int)) = true := decide_eq_true (by omega)
          go_wp2
          exact bodyPost_ret (v := .tuple #[.pointer none, .int .i64 6]) (by simp [results, Tryz.results15, go_sem]) rfl ⟨⟨6, .inr rfl, rfl⟩, HK.out⟩

end Go.Proofs.YtblkkcpeodoclaaGreatDoor
