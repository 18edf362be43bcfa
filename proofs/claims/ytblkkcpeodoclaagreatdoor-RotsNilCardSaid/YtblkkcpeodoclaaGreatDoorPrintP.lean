/- Plain: the text that rots.Print makes. -/
import Derived.Test.YtblkkcpeodoclaaGreatDoorParseP
namespace Go.Proofs.YtblkkcpeodoclaaGreatDoor

theorem vnum_first {n : Nat} {S : Nat → Nat} (h : IsP n S) {d : Nat} (hd : d < n) : vnum S d = ldr S d ↔ rep S d = d := by
  constructor
  · intro he
    have hle := h.rep_self_le hd
    rcases Nat.lt_or_ge (rep S d) d with hlt | hge
    · exfalso
      have h1 := ldr_succ S (rep S d)
      rw [if_pos (h.rep_rep hd)] at h1
      have h2 := ldr_mono S (show rep S d + 1 ≤ d from hlt)
      unfold vnum at he
      omega
    · omega
  · intro he
    unfold vnum
    rw [he]

/-- A line. -/
def rowB (zs : List Int) : List UInt8 := joinB 32 (zs.map Lib.itoa) ++ [10]
/-- The first darts of vertices, below i. -/
noncomputable def firsts (S : Nat → Nat) (i : Nat) : List Nat := (List.range i).filter fun x => rep S x == x
noncomputable def bodyB (S : Nat → Nat) (i : Nat) : List UInt8 := (firsts S i).flatMap fun d => rowB (nats (orb S d))
/-- A map's text. -/
noncomputable def textB (s : List Nat) (rt ln : Int) : List UInt8 := rowB [((s.length / 2 : Nat) : Int), rt, ln] ++ bodyB (sg s) s.length

theorem firsts_succ (S : Nat → Nat) (i : Nat) : firsts S (i + 1) = firsts S i ++ if rep S i = i then [i] else [] := by
  unfold firsts
  rw [List.range_succ, List.filter_append]
  congr 1
  by_cases h : rep S i = i
  · simp [h]
  · simp [h]

theorem bodyB_zero (S : Nat → Nat) : bodyB S 0 = [] := rfl

theorem bodyB_succ (S : Nat → Nat) (i : Nat) : bodyB S (i + 1) = bodyB S i ++ if rep S i = i then rowB (nats (orb S i)) else [] := by
  unfold bodyB
  rw [firsts_succ, List.flatMap_append]
  split <;> simp

theorem join_len21 (c : UInt8) : ∀ (xs : List (List UInt8)), (∀ x ∈ xs, x.length ≤ 21) → (joinB c xs).length ≤ 22 * xs.length
  | [], _ => by simp [joinB]
  | [x], h => by have := h x (List.mem_cons_self ..); simp only [joinB, List.length_singleton]; omega
  | x :: y :: r, h => by
    have h1 := h x (List.mem_cons_self ..)
    have h2 := join_len21 c (y :: r) (fun z hz => h z (List.mem_cons_of_mem _ hz))
    simp only [joinB, List.length_append, List.length_cons] at h2 ⊢
    omega

theorem rowB_len {zs : List Int} (h : ∀ z ∈ zs, -9223372036854775808 ≤ z ∧ z ≤ 9223372036854775807) : (rowB zs).length ≤ 22 * zs.length + 1 := by
  have := join_len21 32 (zs.map Lib.itoa) (fun x hx => by
    obtain ⟨z, hz, rfl⟩ := List.mem_map.1 hx
    exact Lib.itoa_length_le z (h z hz).1 (h z hz).2)
  rw [List.length_map] at this
  unfold rowB
  rw [List.length_append, List.length_singleton]
  omega

theorem rowB_pos (zs : List Int) : 0 < (rowB zs).length := by unfold rowB; simp

theorem orb_bound {n : Nat} {S : Nat → Nat} (h : IsP n S) (hn : n ≤ 131072) {d : Nat} (hd : d < n) : (nats (orb S d)).length ≤ n ∧ ∀ z ∈ nats (orb S d), -9223372036854775808 ≤ z ∧ z ≤ 9223372036854775807 := by
  constructor
  · rw [nats_len, orb_length]; exact (h.per_spec hd).2.1
  · intro z hz
    unfold nats at hz
    obtain ⟨x, hx, rfl⟩ := List.mem_map.1 hz
    have := h.sameO_lt hd ((h.mem_orb hd).1 hx)
    omega

theorem body_len {n : Nat} {S : Nat → Nat} (h : IsP n S) (hn : n ≤ 131072) : ∀ i, i ≤ n → (bodyB S i).length ≤ 2883585 * i
  | 0, _ => by simp [bodyB_zero]
  | i + 1, hi => by
    have h1 := body_len h hn i (by omega)
    rw [bodyB_succ, List.length_append]
    split
    · have h2 := orb_bound h hn (show i < n by omega)
      have h3 := rowB_len h2.2
      omega
    · simp only [List.length_nil]; omega

end Go.Proofs.YtblkkcpeodoclaaGreatDoor
