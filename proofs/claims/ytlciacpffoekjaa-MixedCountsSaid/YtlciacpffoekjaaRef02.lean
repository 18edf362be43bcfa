/- The references of layer 2. -/
import Derived.Test.YtlciacpffoekjaaIdx
namespace Go.Proofs.Ytlciacpffoekjaa
open Go.RowKit

/-- How many are just this. -/
def cntZ (zs : List Int) (bit : Int) : Nat := (zs.filter fun z => z == bit).length

theorem cntZ_snoc (zs : List Int) (bit : Int) (k : Nat) (z : Int) (h : zs[k]? = some z) : cntZ (zs.take (k + 1)) bit = cntZ (zs.take k) bit + (if z = bit then 1 else 0) := by
  have hk : k < zs.length := by
    rcases Nat.lt_or_ge k zs.length with h' | h'
    · exact h'
    · rw [List.getElem?_eq_none h'] at h; cases h
  rw [List.getElem?_eq_getElem hk] at h
  simp only [Option.some.injEq] at h
  rw [List.take_succ_eq_append_getElem hk, h]
  unfold cntZ
  rw [List.filter_append]
  by_cases hz : z = bit <;> simp [hz]

theorem cntZ_le (zs : List Int) (bit : Int) : cntZ zs bit ≤ zs.length := List.length_filter_le _ _

theorem rk_cntZ {zs : List Int} (h : ∀ z ∈ zs, z = 0 ∨ z = 1) (bit : Int) (hb : bit = 0 ∨ bit = 1) (n : Nat) (hn : n ≤ zs.length) : rk (bitsOf zs) bit n = cntZ (zs.take n) bit := by
  induction n with
  | zero => rw [rk_zero]; simp [cntZ]
  | succ n ih =>
    have hz := List.getElem?_eq_getElem (l := zs) (i := n) (by omega)
    rw [rk_succ _ _ _ hb (by rw [bitsOf_length]; omega), ih (by omega), cntZ_snoc zs bit n _ hz, bit_back h hz]
    split <;> simp

set_option maxRecDepth 100000 in
set_option maxHeartbeats 1000000 in
theorem refRank_in (sv : Value) (zs : List Int) (bit : Int) (n : Nat) (w : World) (hs : Sl .i64 w sv zs) (hb : bit = 0 ∨ bit = 1) (hn : n ≤ zs.length) (hl : zs.length ≤ 1000000000) :
    Calls Try.prog 22 #[sv, .int .i64 bit, .int .i64 n] w fun e w' => e = .returned (.tuple #[.int .i64 (cntZ (zs.take n) bit), .bool true]) ∧ w = w' := by
  obtain ⟨a, cap, rfl, hnc, hcm, _, hc⟩ := hs
  have hbt : ((bit != 0) = false) ∨ ((bit != 0) = true ∧ (bit != 1) = false) := by rcases hb with rfl | rfl <;> simp
  clear hb
  rcases hbt with t0 | ⟨t0, t1⟩
  all_goals
    go_enter Try.func22, Try.ntmps22
    go_wp2_with fail
    go_loop [8, 31] (fun c i => ∃ k : Nat, k ≤ n ∧ i = .int .i64 k ∧ c = .int .i64 (cntZ (zs.take k) bit)) (fun _ i => n - (intOf i).toNat)
    case atStart => exact ⟨0, Nat.zero_le _, rfl, by simp [cntZ]⟩
    case round =>
      obtain ⟨k, hk, rfl, rfl⟩ := hrel
      by_cases hlt : k < n
      · have hz := List.getElem?_eq_getElem (l := zs) (i := k) (by omega)
        have hcs := cntZ_snoc zs bit k _ hz
        have hle := cntZ_le (zs.take k) bit
        have hle2 : (zs.take k).length ≤ k := List.length_take_le _ _
        obtain ⟨g, off, rfl, hcell⟩ := hc k _ hz
        have hp : cntZ (zs.take k) bit ≤ 1000000000 := by omega
        generalize zs[k] = z at *
        by_cases hzb : z = bit
        · have tz : (z == bit) = true := by simp [hzb]
          rw [if_pos hzb] at hcs
          have HC := Lib.hid hcs
          clear hcs hz hc hle hle2 hzb
          generalize cntZ (zs.take k) bit = p at *
          go_wp2
          go_round
          case rel => exact ⟨k + 1, by omega, by go_num, by rw [HC.out]; go_num⟩
          case measure => simp [intOf]; omega
        · have tz : (z == bit) = false := by simp [hzb]
          rw [if_neg hzb] at hcs
          have HC := Lib.hid hcs
          clear hcs hz hc hle hle2 hzb
          generalize cntZ (zs.take k) bit = p at *
          go_wp2
          go_round
          case rel => exact ⟨k + 1, by omega, by go_num, by rw [HC.out]; go_num⟩
          case measure => simp [intOf]; omega
      · obtain rfl : k = n := by omega
        clear hc
        go_wp2
        go_ret2
        exact ⟨rfl, rfl⟩

set_option maxRecDepth 100000 in
set_option maxHeartbeats 1000000 in
theorem refRank_out (sv : Value) (zs : List Int) (bit i : Int) (w : World) (hs : Sl .i64 w sv zs) (hb : ¬ ((bit = 0 ∨ bit = 1) ∧ 0 ≤ i ∧ i ≤ zs.length)) :
    Calls Try.prog 22 #[sv, .int .i64 bit, .int .i64 i] w fun e w' => e = .returned (.tuple #[.int .i64 0, .bool false]) ∧ w = w' := by
  obtain ⟨a, cap, rfl, hnc, hcm, _, _⟩ := hs
  have hcase : ((bit != 0) = true ∧ (bit != 1) = true) ∨ (((bit != 0) = false ∨ ((bit != 0) = true ∧ (bit != 1) = false)) ∧ (i < 0 ∨ (0 ≤ i ∧ (zs.length : Int) < i))) := by
    by_cases h0 : bit = 0
    · exact .inr ⟨.inl (by simp [h0]), by omega⟩
    · by_cases h1 : bit = 1
      · exact .inr ⟨.inr ⟨by simp [h0], by simp [h1]⟩, by omega⟩
      · exact .inl ⟨by simp [h0], by simp [h1]⟩
  clear hb
  rcases hcase with ⟨t0, t1⟩ | ⟨t0 | ⟨t0, t1⟩, hi | ⟨hi1, hi2⟩⟩
  all_goals
    go_enter Try.func22, Try.ntmps22
    go_wp2
    go_ret2
    exact ⟨rfl, rfl⟩

set_option maxRecDepth 100000 in
set_option maxHeartbeats 2000000 in
/-- A bit that there is, and a count that may be. -/
theorem refSel_good (sv : Value) (zs : List Int) (bit k : Int) (w : World) (hs : Sl .i64 w sv zs) (hb : bit = 0 ∨ bit = 1) (hk : 0 ≤ k) (hkm : k ≤ 9223372036854775807) (hl : zs.length ≤ 1000000000) :
    Calls Try.prog 23 #[sv, .int .i64 bit, .int .i64 k] w fun e w' => ((∃ n : Nat, e = .returned (.tuple #[.int .i64 n, .bool true]) ∧ zs[n]? = some bit ∧ (cntZ (zs.take n) bit : Int) = k) ∨
      (e = .returned (.tuple #[.int .i64 0, .bool false]) ∧ (cntZ zs bit : Int) ≤ k)) ∧ w = w' := by
  obtain ⟨a, cap, rfl, hnc, hcm, _, hc⟩ := hs
  have hbt : ((bit == 0) = true) ∨ ((bit == 0) = false ∧ (bit == 1) = true) := by rcases hb with rfl | rfl <;> simp
  clear hb
  rcases hbt with t0 | ⟨t0, t1⟩
  all_goals
    go_enter Try.func23, Try.ntmps23
    go_wp2_with fail
    go_loop [2, 12] (fun c i => ∃ j : Nat, j ≤ zs.length ∧ i = .int .i64 j ∧ c = .int .i64 (k - cntZ (zs.take j) bit) ∧ (cntZ (zs.take j) bit : Int) ≤ k) (fun _ i => zs.length - (intOf i).toNat)
    case atStart => exact ⟨0, Nat.zero_le _, rfl, by simp [cntZ], by simpa [cntZ] using hk⟩
    case round =>
      obtain ⟨j, hj, rfl, rfl, hle⟩ := hrel
      by_cases hlt : j < zs.length
      · have hz := List.getElem?_eq_getElem (l := zs) (i := j) (by omega)
        have hcs := cntZ_snoc zs bit j _ hz
        obtain ⟨g, off, rfl, hcell⟩ := hc j _ hz
        have hl1 := cntZ_le (zs.take j) bit
        have hl2 : (zs.take j).length ≤ j := List.length_take_le _ _
        have hp : cntZ (zs.take j) bit ≤ 1000000000 := by omega
        generalize hzz : zs[j] = z at *
        clear hzz
        by_cases hzb : z = bit
        · have tz : (z == bit) = true := by simp [hzb]
          rw [if_pos hzb] at hcs
          have HC := Lib.hid (And.intro hcs (And.intro hz hzb))
          clear hcs hz hc hl1 hl2 hzb
          generalize hpp : cntZ (zs.take j) bit = p at *
          have HP := Lib.hid hpp
          clear hpp
          by_cases hkp : k = p
          · have tk : (k - (p : Int) == 0) = true := by simp; omega
            have HK := Lib.hid hkp
            clear hkp
            go_wp2
            go_ret2
            refine ⟨.inl ⟨j, rfl, ?_, ?_⟩, rfl⟩
            · rw [HC.out.2.1, HC.out.2.2]
            · rw [HP.out, HK.out]
          · have tk : (k - (p : Int) == 0) = false := by simp; omega
            have hkp2 : (p : Int) + 1 ≤ k := by omega
            clear hkp
            go_wp2
            go_round
            case rel => exact ⟨j + 1, by omega, by go_num, by rw [HC.out.1]; go_num, by rw [HC.out.1]; omega⟩
            case measure => simp [intOf]; omega
        · have tz : (z == bit) = false := by simp [hzb]
          rw [if_neg hzb] at hcs
          have HC := Lib.hid hcs
          clear hcs hz hc hl1 hl2 hzb
          generalize cntZ (zs.take j) bit = p at *
          go_wp2
          go_round
          case rel => exact ⟨j + 1, by omega, by go_num, by rw [HC.out]; go_num, by rw [HC.out]; omega⟩
          case measure => simp [intOf]; omega
      · obtain rfl : j = zs.length := by omega
        rw [List.take_of_length_le (Nat.le_refl _)] at hle
        have HL := Lib.hid hle
        clear hc hle
        go_wp2
        go_ret2
        exact ⟨.inr ⟨rfl, HL.out⟩, rfl⟩

set_option maxRecDepth 100000 in
set_option maxHeartbeats 1000000 in
/-- A bit that there isn't. -/
theorem refSel_bad (sv : Value) (zs : List Int) (bit k : Int) (w : World) (hs : Sl .i64 w sv zs) (hb : ¬ (bit = 0 ∨ bit = 1)) :
    Calls Try.prog 23 #[sv, .int .i64 bit, .int .i64 k] w fun e w' => e = .returned (.tuple #[.int .i64 0, .bool false]) ∧ w = w' := by
  obtain ⟨a, cap, rfl, hnc, hcm, _, hc⟩ := hs
  have t0 : (bit == 0) = false := by simp; omega
  have t1 : (bit == 1) = false := by simp; omega
  clear hb
  go_enter Try.func23, Try.ntmps23
  go_wp2_with fail
  go_loop [2, 12] (fun c i => ∃ j : Nat, j ≤ zs.length ∧ i = .int .i64 j ∧ c = .int .i64 k) (fun _ i => zs.length - (intOf i).toNat)
  case atStart => exact ⟨0, Nat.zero_le _, rfl, rfl⟩
  case round =>
    obtain ⟨j, hj, rfl, rfl⟩ := hrel
    by_cases hlt : j < zs.length
    · have hz := List.getElem?_eq_getElem (l := zs) (i := j) (by omega)
      obtain ⟨g, off, rfl, hcell⟩ := hc j _ hz
      generalize zs[j] = z at *
      clear hc hz
      by_cases hzb : z = bit
      · have tz : (z == bit) = true := by simp [hzb]
        clear hzb
        go_wp2
        go_round
        case rel => exact ⟨j + 1, by omega, by go_num, rfl⟩
        case measure => simp [intOf]; omega
      · have tz : (z == bit) = false := by simp [hzb]
        clear hzb
        go_wp2
        go_round
        case rel => exact ⟨j + 1, by omega, by go_num, rfl⟩
        case measure => simp [intOf]; omega
    · obtain rfl : j = zs.length := by omega
      clear hc
      go_wp2
      go_ret2
      exact ⟨rfl, rfl⟩

/-- It hands back something, and leaves the world. -/
def SomeSel (w : World) (e : Ending) (w' : World) : Prop := (∃ (n : Nat) (ok : Bool), n ≤ 1000000000 ∧ e = .returned (.tuple #[.int .i64 n, .bool ok])) ∧ w = w'

set_option maxRecDepth 100000 in
set_option maxHeartbeats 2000000 in
/-- A bit that there is, and a count below nought: it hands back something. -/
theorem refSel_below (sv : Value) (zs : List Int) (bit k : Int) (w : World) (hs : Sl .i64 w sv zs) (hb : bit = 0 ∨ bit = 1) (hl : zs.length ≤ 1000000000) :
    Calls Try.prog 23 #[sv, .int .i64 bit, .int .i64 k] w (SomeSel w) := by
  obtain ⟨a, cap, rfl, hnc, hcm, _, hc⟩ := hs
  have hbt : ((bit == 0) = true) ∨ ((bit == 0) = false ∧ (bit == 1) = true) := by rcases hb with rfl | rfl <;> simp
  clear hb
  rcases hbt with t0 | ⟨t0, t1⟩
  all_goals
    go_enter Try.func23, Try.ntmps23
    go_wp2_with fail
    go_loop [2, 12] (fun c i => ∃ j : Nat, j ≤ zs.length ∧ i = .int .i64 j ∧ ∃ x, c = .int .i64 x) (fun _ i => zs.length - (intOf i).toNat)
    case atStart => exact ⟨0, Nat.zero_le _, rfl, _, rfl⟩
    case round =>
      obtain ⟨j, hj, rfl, x, rfl⟩ := hrel
      by_cases hlt : j < zs.length
      · have hz := List.getElem?_eq_getElem (l := zs) (i := j) (by omega)
        obtain ⟨g, off, rfl, hcell⟩ := hc j _ hz
        generalize zs[j] = z at *
        clear hc hz
        by_cases hzb : z = bit
        · have tz : (z == bit) = true := by simp [hzb]
          clear hzb
          by_cases hkp : x = 0
          · have tk : (x == 0) = true := by simp [hkp]
            clear hkp
            go_wp2
            go_ret2
            exact ⟨⟨j, true, by omega, rfl⟩, rfl⟩
          · have tk : (x == 0) = false := by simp [hkp]
            clear hkp
            go_wp2
            go_round
            case rel => exact ⟨j + 1, by omega, by go_num, _, rfl⟩
            case measure => simp [intOf]; omega
        · have tz : (z == bit) = false := by simp [hzb]
          clear hzb
          go_wp2
          go_round
          case rel => exact ⟨j + 1, by omega, by go_num, _, rfl⟩
          case measure => simp [intOf]; omega
      · obtain rfl : j = zs.length := by omega
        clear hc
        go_wp2
        go_ret2
        exact ⟨⟨0, false, by omega, rfl⟩, rfl⟩

end Go.Proofs.Ytlciacpffoekjaa
