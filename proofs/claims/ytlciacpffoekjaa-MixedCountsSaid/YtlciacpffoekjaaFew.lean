/- The contract of the reference's Few: bits of bytes. -/
import Derived.Test.YtlciacpffoekjaaInts
namespace Go.Proofs.Ytlciacpffoekjaa
open Go.RowKit

/-- The bits of a byte, the lowest first. -/
def bits8 (b : Nat) : List Nat := (List.range 8).map fun j => b / 2 ^ j % 2
/-- Bits of bytes, not more than so many. -/
def few (ps : List Nat) (most : Nat) : List Nat := (ps.flatMap bits8).take most

theorem bits8_length (b : Nat) : (bits8 b).length = 8 := by simp [bits8]
theorem bits8_take (b j : Nat) (h : j < 8) : (bits8 b).take (j + 1) = (bits8 b).take j ++ [b / 2 ^ j % 2] := by
  rw [List.take_succ_eq_append_getElem (by rw [bits8_length]; exact h)]
  simp [bits8]

theorem few_le (ps : List Nat) (most : Nat) : (few ps most).length ≤ most := List.length_take_le _ _
theorem few_bit (ps : List Nat) (most : Nat) : ∀ x ∈ few ps most, x < 2 := by
  intro x hx
  have h := List.mem_of_mem_take hx
  obtain ⟨b, _, hb⟩ := List.mem_flatMap.1 h
  simp only [bits8, List.mem_map] at hb
  obtain ⟨j, _, rfl⟩ := hb
  exact Nat.mod_lt _ (by decide)

def nats (l : List Nat) : List Int := l.map fun x : Nat => (x : Int)

theorem few_step (A : List Nat) (b j most : Nat) (hj : j < 8) (hm : ((A ++ (bits8 b).take j).take most).length < most) :
    (A ++ (bits8 b).take (j + 1)).take most = (A ++ (bits8 b).take j).take most ++ [b / 2 ^ j % 2] := by
  have hl : (A ++ (bits8 b).take j).length < most := by
    rw [List.length_take] at hm
    omega
  rw [bits8_take b j hj, ← List.append_assoc, List.take_of_length_le (l := A ++ (bits8 b).take j) (by omega), List.take_of_length_le (by simp only [List.length_append, List.length_singleton] at hl ⊢; omega)]

theorem few_full (A : List Nat) (b j most : Nat) (h : j = 8 ∨ most ≤ ((A ++ (bits8 b).take j).take most).length) : (A ++ (bits8 b).take j).take most = (A ++ bits8 b).take most := by
  rcases h with rfl | h
  · rw [List.take_of_length_le (l := bits8 b) (by rw [bits8_length]; omega)]
  · have hl : most ≤ (A ++ (bits8 b).take j).length := by
      rw [List.length_take] at h
      omega
    have e : A ++ bits8 b = (A ++ (bits8 b).take j) ++ (bits8 b).drop j := by rw [List.append_assoc, List.take_append_drop]
    rw [e, List.take_append_of_le_length hl]

set_option maxRecDepth 100000 in
set_option maxHeartbeats 2000000 in
theorem Few_any (pv : Value) (ps : List Nat) (most : Nat) (w : World) (hp : Sl .u8 w pv (nats ps)) (hps : ∀ b ∈ ps, b < 256) (hm : most ≤ 1000000000) :
    Calls Try.prog 33 #[pv, .int .i64 most] w fun e w' => ∃ v, e = .returned v ∧ OwnI w.heap.size w' v (nats (few ps most)) ∧ Keeps (fun _ => False) w w' := by
  obtain ⟨a, cap, rfl, hnc, hcm, _, hc⟩ := hp
  have hlen : (nats ps).length = ps.length := by simp [nats]
  rw [hlen] at hnc ⊢
  clear hlen
  go_enter Try.func33, Try.ntmps33
  go_wp2_with fail
  go_loopw [5, 11] (fun v i wr => ∃ k : Nat, k ≤ ps.length ∧ i = .int .i64 k ∧ OwnI w.heap.size wr v (nats (((ps.take k).flatMap bits8).take most)) ∧ Keeps (fun _ => False) w wr) (fun _ i _ => ps.length - (intOf i).toNat)
  case atStart => exact ⟨0, Nat.zero_le _, rfl, by simpa [nats] using OwnI.nil _ _, Keeps.refl _ _⟩
  case round =>
    obtain ⟨k, hk, rfl, hown, hkw⟩ := hrel
    by_cases hlt : k < ps.length
    · obtain ⟨g, off, rfl, hcell⟩ := hc k ps[k] (by simp [nats, hlt])
      have hb := hps ps[k] (List.getElem_mem hlt)
      have hcell1 : wr.cell? ⟨g, off + k, none⟩ = some (.int .u8 (ps[k] : Nat)) := by
        rw [World.cell?_of_block (w := w) (hkw.block g (World.block_lt_of_cell? _ _ hcell) (fun h => h))]
        exact hcell
      have hA : (ps.take (k + 1)).flatMap bits8 = (ps.take k).flatMap bits8 ++ bits8 ps[k] := by
        rw [List.take_succ_eq_append_getElem hlt, List.flatMap_append]; simp [List.flatMap_cons]
      have HA := Lib.hid hA
      clear hA hc hps hcell
      generalize (ps.take k).flatMap bits8 = A at *
      generalize ps[k] = b at *
      go_wp2_with fail
      go_loopw [5, 7, 8] (fun v x i ws => ∃ j : Nat, j ≤ 8 ∧ i = .int .i64 j ∧ x = .int .u8 ((b / 2 ^ j : Nat) : Int) ∧ OwnI w.heap.size ws v (nats ((A ++ (bits8 b).take j).take most)) ∧ Keeps (fun _ => False) w ws) (fun _ _ i _ => 8 - (intOf i).toNat)
      case atStart => exact ⟨0, by omega, rfl, by simp, by simpa using hown, hkw⟩
      case round =>
        obtain ⟨j, hj, rfl, rfl, hown2, hkw2⟩ := hrel
        have hle := List.length_take_le most (A ++ (bits8 b).take j)
        have hy : b / 2 ^ j < 256 := Nat.lt_of_le_of_lt (Nat.div_le_self _ _) hb
        have hyy : b / 2 ^ (j + 1) = b / 2 ^ j / 2 := by rw [Nat.pow_succ, Nat.div_div_eq_div_mul]
        have hst := few_step A b j most
        have hfu := few_full A b j most
        rw [← HA.out] at hfu
        generalize hL : (A ++ (bits8 b).take j).take most = L at *
        have hnl : (nats L).length = L.length := by simp [nats]
        rw [← hnl] at hst hfu
        have hln : (nats L).length ≤ 10000000000 := by omega
        have hsz := hkw2.size
        obtain ⟨a2, c2, rfl, hn2, hc2⟩ := hown2.form
        by_cases h8 : j < 8
        · by_cases hml : (nats L).length < most
          · have hst := hst h8 hml
            have hnn : nats L ++ [((b / 2 ^ j : Nat) : Int) % 2] = nats ((A ++ (bits8 b).take (j + 1)).take most) := by rw [hst]; simp [nats]
            have HN := Lib.hid (And.intro hnn hyy)
            clear hnn hyy hst hfu hL hnl hle
            generalize nats L = acc at *
            generalize b / 2 ^ j = y at *
            go_wp2_with (at_builtin; refine append1 rfl _ _ rfl w.heap.size (.slice a2 acc.length c2) acc ((y : Int) % 2) _ rfl rfl rfl hown2 hln hsz ?_; intro g2 cap2 w1 hown3 hk3 hat hg)
            go_wp2
            have hkw3 : Keeps (fun _ => False) w w1 := hkw2.trans hk3 (fun x hx h => by have := (hown2.lt x h).1; omega)
            rw [HN.out.1] at hown3
            go_roundw
            case rel => exact ⟨j + 1, by omega, by go_num, by rw [HN.out.2]; go_num, hown3, hkw3⟩
            case measure => simp [intOf]; omega
          · have hfu := hfu (.inr (by omega))
            have HL := Lib.hid (And.intro hfu hL)
            clear hfu hL hyy hown hle hnl hst
            go_wp2
            go_roundw
            case rel => exact ⟨k + 1, by omega, by go_num, by rw [← HL.out.1]; exact hown2, hkw2⟩
            case measure => simp [intOf]; omega
        · obtain rfl : j = 8 := by omega
          have hfu := hfu (.inl rfl)
          have HL := Lib.hid (And.intro hfu hL)
          clear hfu hL hyy hown hle hnl hst
          go_wp2
          go_roundw
          case rel => exact ⟨k + 1, by omega, by go_num, by rw [← HL.out.1]; exact hown2, hkw2⟩
          case measure => simp [intOf]; omega
    · obtain rfl : k = ps.length := by omega
      rw [List.take_of_length_le (Nat.le_refl _)] at hown
      go_wp2
      go_ret
      exact ⟨_, rfl, hown, hkw⟩

end Go.Proofs.Ytlciacpffoekjaa
