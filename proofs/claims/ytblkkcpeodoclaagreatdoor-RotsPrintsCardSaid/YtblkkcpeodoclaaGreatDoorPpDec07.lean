/- ref07.Dec. -/
import Derived.Test.YtblkkcpeodoclaaGreatDoorPpRots11
namespace Go.Proofs.YtblkkcpeodoclaaGreatDoor
open Go.RowKit

theorem bytesA_app (a b : List UInt8) : bytesA a ++ bytesA b = bytesA (a ++ b) := by
  apply Go.WideShapes.bytes_inj
  simp [bytesA]

theorem add_run (a b : List UInt8) (h : a.length + b.length ≤ 9223372036854775807) (W : World) : (Op.stringOp .add (bytesA a) (bytesA b)).run Tryz.prog W = .ok (.string (bytesA (a ++ b))) W := by
  rw [← bytesA_app]
  exact run_string_add_sum _ _ _ (by rw [bytesA_size, bytesA_size]; exact h)

theorem digit_cut {d : Nat} (hd : d < 10) : (⟨#[48, 49, 50, 51, 52, 53, 54, 55, 56, 57]⟩ : ByteArray).extract d (d + 1) = bytesA [UInt8.ofNat (48 + d)] := by
  match d, hd with
  | 0, _ => decide
  | 1, _ => decide
  | 2, _ => decide
  | 3, _ => decide
  | 4, _ => decide
  | 5, _ => decide
  | 6, _ => decide
  | 7, _ => decide
  | 8, _ => decide
  | 9, _ => decide

theorem dig_len (n : Nat) : (Lib.decDigits n).length ≤ n + 1 := by
  induction n using Nat.strongRecOn with
  | ind n ih =>
    rw [Lib.decDigits]
    split
    · simp
    · rw [List.length_append, List.length_singleton]
      have := ih (n / 10) (by omega)
      omega

set_option maxRecDepth 100000 in
set_option maxHeartbeats 2000000 in
theorem dec_nat (n : Nat) : ∀ w, n ≤ 1000000000000 → Calls Tryz.prog 37 #[.int .i64 n] w fun e w' => e = .returned (.string (bytesA (Lib.decDigits n))) ∧ w' = w := by
  induction n using Nat.strongRecOn with
  | ind n ih =>
    intro w hn
    obtain ⟨d, hd⟩ : ∃ d, d = n % 10 := ⟨_, rfl⟩
    have hd10 : d < 10 := by omega
    have m2 : (n : Int) % 10 = (d : Int) := by omega
    have m1 : (n : Int).tmod 10 = (d : Int) := by rw [Int.tmod_eq_emod_of_nonneg (by omega)]; exact m2
    have hcut := digit_cut hd10
    by_cases h : n < 10
    · have hdd : Lib.decDigits n = [UInt8.ofNat (48 + d)] := by rw [Lib.decDigits, dif_pos h, show d = n by omega]
      rw [hdd, ← hcut]
      have t1 : decide ((n : Int) < 10) = true := decide_eq_true (by omega)
      have t2 : decide (n < 10) = true := decide_eq_true h
      clear ih hdd hd hcut
      go_enter Tryz.func37, Tryz.ntmps37
      go_wp2
      go_ret
      exact ⟨rfl, rfl⟩
    · obtain ⟨q, hq⟩ : ∃ q, q = n / 10 := ⟨_, rfl⟩
      have hdd : Lib.decDigits n = Lib.decDigits q ++ [UInt8.ofNat (48 + d)] := by
        conv => lhs; rw [Lib.decDigits]
        rw [dif_neg h, hq, hd]
      have q2 : (n : Int) / 10 = (q : Int) := by omega
      have q1 : (n : Int).tdiv 10 = (q : Int) := by rw [Int.tdiv_eq_ediv_of_nonneg (by omega)]; exact q2
      have hI := ih q (by omega)
      have hdl := dig_len q
      have hadd := fun W => add_run (Lib.decDigits q) [UInt8.ofNat (48 + d)] (by rw [List.length_singleton]; omega) W
      rw [hdd]
      rw [← hcut] at hadd
      generalize UInt8.ofNat (48 + d) = cd at *
      generalize Lib.decDigits q = dq at *
      have HI := Lib.hid (fun w => hI w (by omega))
      have t1 : decide ((n : Int) < 10) = false := decide_eq_false (by omega)
      have t2 : decide (n < 10) = false := decide_eq_false h
      clear ih hdd hd hcut hI hq h
      go_enter Tryz.func37, Tryz.ntmps37
      go_wp2_with fail
      refine (HI.out w).mono ?_
      rintro e w ⟨rfl, rfl⟩
      go_wp2
      go_ret
      exact ⟨rfl, rfl⟩

set_option maxRecDepth 100000 in
theorem dec_any (z : Int) (w : World) (h0 : -1000000000000 ≤ z) (h1 : z ≤ 1000000000000) : Calls Tryz.prog 37 #[.int .i64 z] w fun e w' => e = .returned (.string (bytesA (Lib.itoa z))) ∧ w' = w := by
  by_cases h : z < 0
  · obtain ⟨n, rfl⟩ : ∃ n : Nat, z = -(n : Int) := ⟨z.natAbs, by omega⟩
    have hi : Lib.itoa (-(n : Int)) = 45 :: Lib.decDigits n := by
      unfold Lib.itoa
      rw [if_pos h]
      congr 2
      omega
    have hD := dec_nat n w (by omega)
    have hdl := dig_len n
    have hadd := fun W => add_run [45] (Lib.decDigits n) (by rw [List.length_singleton]; omega) W
    have hadd2 : ∀ W, (Op.stringOp .add ⟨#[45]⟩ (bytesA (Lib.decDigits n))).run Tryz.prog W = .ok (.string (bytesA (45 :: Lib.decDigits n))) W := hadd
    rw [hi]
    generalize Lib.decDigits n = dn at *
    have HD := Lib.hid hD
    have t1 : decide (-(n : Int) < 0) = true := decide_eq_true h
    have t2 : decide (0 < n) = true := decide_eq_true (by omega)
    clear hadd hD hi
    go_enter Tryz.func37, Tryz.ntmps37
    go_wp2_with fail
    refine HD.out.mono ?_
    rintro e w ⟨rfl, rfl⟩
    go_wp2
    go_ret
    exact ⟨rfl, rfl⟩
  · obtain ⟨n, rfl⟩ : ∃ n : Nat, z = n := ⟨z.toNat, by omega⟩
    have hi : Lib.itoa (n : Int) = Lib.decDigits n := by
      unfold Lib.itoa
      rw [if_neg h, Int.toNat_natCast]
    rw [hi]
    exact dec_nat n w (by omega)

end Go.Proofs.YtblkkcpeodoclaaGreatDoor
