/- pack.GetNum. -/
import Derived.Laws.BitsAllLaws
import Derived.Test.YtcfdpogegngplaaGreatPzNums
namespace Go.Proofs.YtcfdpogegngplaaGreat
open Go.RowKit

theorem getN_cons (b : Nat) (p : List Nat) (i acc : Nat) : getN (b :: p) i acc = if 64 ≤ 7 * i ∨ 18446744073709551616 ≤ b % 128 * 2 ^ (7 * i) ∨ (b = 0 ∧ 0 < i) then none
    else if b < 128 then some (acc + b % 128 * 2 ^ (7 * i), i + 1) else getN p (i + 1) (acc + b % 128 * 2 ^ (7 * i)) := rfl

/-- What GetNum answers. -/
def gotN (o : Option (Nat × Nat)) : Value := match o with
  | some (x, n) => .tuple #[.int .u64 (x : Nat), .int .i64 (n : Nat), .int .i64 0]
  | none => .tuple #[.int .u64 0, .int .i64 0, .int .i64 3]

set_option maxRecDepth 100000 in
set_option maxHeartbeats 2000000 in
theorem getNum_any (pv : Value) (cs : List Nat) (w : World) (hp : Sl .u8 w pv (nats cs)) (hcs : ∀ x ∈ cs, x < 256) :
    Calls Tryz.prog 151 #[pv] w fun e w' => e = .returned (gotN (getN cs 0 0)) ∧ Keeps (fun _ => False) w w' := by
  obtain ⟨pa, pc, rfl, hpc, hpm, _, hc⟩ := hp
  rw [show (nats cs).length = cs.length by simp [nats]] at *
  generalize hn : cs.length = n at *
  have HN := Lib.hid hn
  clear hn
  go_enter Tryz.func151, Tryz.ntmps151
  go_wp2_with fail
  go_loop [5, 11] (fun xv iv => ∃ (j acc : Nat), j ≤ n ∧ j ≤ 10 ∧ iv = .int .i64 j ∧ xv = .int .u64 acc ∧ acc < 2 ^ (7 * j) ∧ acc < 18446744073709551616 ∧ getN cs 0 0 = getN (cs.drop j) j acc) (fun _ iv => n - (intOf iv).toNat)
  case atStart => exact ⟨0, 0, by omega, by omega, rfl, rfl, by decide, by decide, rfl⟩
  case round =>
    obtain ⟨j, acc, hj, hj10, rfl, rfl, ha, ha2, hG⟩ := hrel
    by_cases hlt : j < n
    · obtain ⟨x, hx⟩ : ∃ x, cs[j]? = some x := ⟨_, List.getElem?_eq_getElem (by rw [HN.out]; exact hlt)⟩
      have hx256 := hcs x (List.mem_of_getElem? hx)
      have hdr : cs.drop j = x :: cs.drop (j + 1) := by
        rw [List.drop_eq_getElem_cons (by rw [HN.out]; exact hlt)]
        congr 1
        rw [List.getElem?_eq_getElem (by rw [HN.out]; exact hlt)] at hx
        exact Option.some.inj hx
      obtain ⟨g, off, rfl, hcell⟩ := hc j _ (by simp [nats, hx] : (nats cs)[j]? = some (x : Int))
      rw [hdr] at hG
      obtain ⟨p, hp⟩ : ∃ p, p = x % 128 := ⟨_, rfl⟩
      have e0 : bits .andNot .u8 (x : Int) 128 = (p : Int) := by
        have h1 := u8_andNot_nat x 128 hx256 (by decide)
        have h2 : ∀ z : Fin 256, z.val &&& (255 - 128) = z.val % 128 := by decide +kernel
        have h3 := h2 ⟨x, hx256⟩
        simp only at h3
        rw [h3, ← hp] at h1
        exact h1
      have hp128 : p < 128 := by omega
      have hpx : x < 128 → p = x := fun h => by omega
      have HPX := Lib.hid hpx
      rw [getN_cons, ← hp] at hG
      clear hc hx hdr hcs hp hpx
      by_cases h64 : 64 ≤ 7 * j
      · have t0 : decide ((64 : Int) ≤ (j : Int) * 7) = true := decide_eq_true (by omega)
        rw [if_pos (.inl h64)] at hG
        have HG := Lib.hid hG
        clear hG ha
        go_wp2_with fail
        refine bodyPost_ret (v := .tuple #[.int .u64 0, .int .i64 0, .int .i64 3]) (by simp [results, Tryz.results151, go_sem]) rfl ?_
        exact ⟨by rw [HG.out]; rfl, Keeps.refl _ _⟩
      · have t0 : decide ((64 : Int) ≤ (j : Int) * 7) = false := decide_eq_false (by omega)
        obtain ⟨P, hP⟩ : ∃ P, P = p * 2 ^ (7 * j) := ⟨_, rfl⟩
        obtain ⟨r, hr⟩ : ∃ r, r = P % 18446744073709551616 := ⟨_, rfl⟩
        obtain ⟨s, hs⟩ : ∃ s, s = r / 2 ^ (7 * j) := ⟨_, rfl⟩
        have HJ7 : Hid (j * 7 = 7 * j) := Lib.hid (by omega)
        have w2 : IntKind.u64.wrap ((p : Int) * 2 ^ (j * 7)) = (r : Int) := by
          have e : (p : Int) * 2 ^ (7 * j) = (P : Int) := by rw [hP]; push_cast; rfl
          rw [HJ7.out, e, IntKind.wrap_u64, hr]; omega
        have w3 : (r : Int) / 2 ^ (j * 7) = (s : Int) := by
          rw [HJ7.out, hs]; push_cast; rfl
        have hpow : 0 < 2 ^ (7 * j) := Nat.two_pow_pos _
        rw [← hP] at hG
        by_cases hbig : 18446744073709551616 ≤ P
        · rw [if_pos (.inr (.inl hbig))] at hG
          have hne : s ≠ p := by
            intro e
            rw [hs] at e
            have h1 : r < P := by omega
            have h2 : r / 2 ^ (7 * j) < p := by
              rw [Nat.div_lt_iff_lt_mul hpow, ← hP]; exact h1
            omega
          have t1 : ((s : Int) != (p : Int)) = true := by rw [bne_iff_ne]; omega
          have HG := Lib.hid hG
          clear hG ha hP hr hs hpow hbig hne
          go_wp2_with fail
          refine bodyPost_ret (v := .tuple #[.int .u64 0, .int .i64 0, .int .i64 3]) (by first | rfl | simp [results, Tryz.results151, go_sem]) rfl ?_
          exact ⟨by rw [HG.out]; rfl, Keeps.refl _ _⟩
        · have hrP : r = P := by rw [hr]; exact Nat.mod_eq_of_lt (by omega)
          have hsp : s = p := by rw [hs, hrP, hP]; exact Nat.mul_div_cancel _ hpow
          rw [hsp] at w3
          by_cases hx0 : x = 0 ∧ 0 < j
          · rw [if_pos (.inr (.inr hx0))] at hG
            have t1 : ((x : Int) == 0) = true := by rw [beq_iff_eq]; omega
            have t2 : decide (0 < j) = true := decide_eq_true (by omega)
            have HG := Lib.hid hG
            obtain ⟨hx0, hj0⟩ := hx0
            clear hG ha hP hr hs hpow hbig hrP hsp hx0
            go_wp2_with fail
            refine bodyPost_ret (v := .tuple #[.int .u64 0, .int .i64 0, .int .i64 3]) (by first | rfl | simp [results, Tryz.results151, go_sem]) rfl ?_
            exact ⟨by rw [HG.out]; rfl, Keeps.refl _ _⟩
          · have hn3 : ¬ (64 ≤ 7 * j ∨ 18446744073709551616 ≤ P ∨ (x = 0 ∧ 0 < j)) := by rintro (h | h | h); exact h64 h; exact hbig h; exact hx0 h
            rw [if_neg hn3] at hG
            obtain ⟨A, hA⟩ : ∃ A, A = acc + P := ⟨_, rfl⟩
            have hAb : A < 2 ^ (7 * (j + 1)) := by
              have h1 : p * 2 ^ (7 * j) ≤ 127 * 2 ^ (7 * j) := Nat.mul_le_mul_right _ (by omega)
              rw [Nat.mul_add, Nat.pow_add, hA, hP]
              omega
            have o1 : bits .or .u64 (acc : Int) (r : Int) = (A : Int) := by
              rw [hrP]
              have h3 := bits_or_u64_nat acc P ha2 (by omega)
              rw [hP, Nat.or_comm, Nat.mul_comm, ← Nat.two_pow_add_eq_or_of_lt ha, Nat.mul_comm, ← hP, Nat.add_comm, ← hA] at h3
              exact h3
            have hA64 : A < 18446744073709551616 := by
              have h3 : A = acc ||| P := by
                have := Nat.two_pow_add_eq_or_of_lt ha p
                rw [Nat.mul_comm, ← hP] at this
                rw [hA, Nat.add_comm, this, Nat.or_comm]
              rw [h3]
              exact Nat.or_lt_two_pow (n := 64) ha2 (by omega)
            rw [← hA] at hG
            have HH := Lib.hid (And.intro hG (And.intro hAb hA64))
            have hx0' : (((x : Int) == 0) = true ∧ decide (0 < j) = false) ∨ ((x : Int) == 0) = false := by
              by_cases h : x = 0
              · exact .inl ⟨by rw [beq_iff_eq]; omega, decide_eq_false (by omega)⟩
              · exact .inr (by rw [beq_eq_false_iff_ne]; omega)
            clear hG ha hP hr hs hpow hbig hrP hsp hx0 hn3 hA hAb hA64
            by_cases hx128 : x < 128
            · have t3 : decide ((x : Int) < 128) = true := decide_eq_true (by omega)
              obtain ⟨hG, hAb, hA64⟩ := HH.out
              rw [if_pos hx128] at hG
              have HG := Lib.hid hG
              clear hG hAb hA64 HH
              rcases hx0' with ⟨t4, t5⟩ | t4
              all_goals
                go_wp2_with fail
                refine bodyPost_ret (v := .tuple #[.int .u64 A, .int .i64 ((j : Int) + 1), .int .i64 0]) (by simp [results, Tryz.results151, go_sem]) rfl ?_
                exact ⟨by rw [HG.out]; rfl, Keeps.refl _ _⟩
            · have t3 : decide ((x : Int) < 128) = false := decide_eq_false (by omega)
              obtain ⟨hG, hAb, hA64⟩ := HH.out
              rw [if_neg hx128] at hG
              have HG := Lib.hid (And.intro hG (And.intro hAb hA64))
              have t4 : ((x : Int) == 0) = false := by rw [beq_eq_false_iff_ne]; omega
              clear hG hAb hA64 HH hx0'
              go_wp2_with fail
              go_round
              case rel => exact ⟨j + 1, A, by omega, by omega, by go_num, rfl, HG.out.2.1, HG.out.2.2, HG.out.1⟩
              case measure => simp [intOf]; omega
    · obtain rfl : j = n := by omega
      rw [List.drop_of_length_le (by rw [HN.out]; exact Nat.le_refl _)] at hG
      have HG := Lib.hid hG
      clear hc hG
      go_wp2
      refine bodyPost_ret (v := .tuple #[.int .u64 0, .int .i64 0, .int .i64 3]) (by first | rfl | simp [results, Tryz.results151, go_sem]) rfl ?_
      exact ⟨by rw [HG.out]; rfl, Keeps.refl _ _⟩

end Go.Proofs.YtcfdpogegngplaaGreat
