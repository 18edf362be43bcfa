/- Plain laws on numbers as text (the kit's Lib.itoa, Lib.atoiAll, Lib.split): what is printed is read again. -/
import Derived.Lib.AtoiTie
import Derived.Lib.ItoaMem
import Derived.Lib.ItoaLen
import Derived.Lib.SplitLaws
namespace Go.Proofs.YtblkkcpeodoclaaGreatDoor
open Go.Lib

theorem decFrom_append : ∀ (l m : List UInt8) (acc : Nat), decFrom acc (l ++ m) = (decFrom acc l).bind fun a => decFrom a m
  | [], m, acc => rfl
  | b :: l, m, acc => by
    rw [List.cons_append, decFrom, decFrom]
    cases digitVal b with
    | none => rfl
    | some d => exact decFrom_append l m _

theorem u8_toNat {k : Nat} (h : k < 256) : (UInt8.ofNat k).toNat = k := by
  rw [UInt8.toNat_ofNat']; exact Nat.mod_eq_of_lt h

theorem digitVal_dig {d : Nat} (h : d < 10) : digitVal (UInt8.ofNat (48 + d)) = some d := by
  unfold digitVal
  rw [u8_toNat (by omega), if_pos (by omega)]
  congr 1
  omega

theorem decFrom_digits (u : Nat) : decFrom 0 (decDigits u) = some u := by
  induction u using Nat.strongRecOn with
  | ind u ih =>
    rw [decDigits]
    by_cases h : u < 10
    · rw [dif_pos h, decFrom, digitVal_dig h]
      simp [decFrom]
    · rw [dif_neg h, decFrom_append, ih (u / 10) (by omega)]
      show decFrom (u / 10) [UInt8.ofNat (48 + u % 10)] = some u
      rw [decFrom, digitVal_dig (by omega)]
      simp only [decFrom]
      congr 1
      omega

theorem decDigits_ne (u : Nat) : decDigits u ≠ [] := by
  rw [decDigits]
  split
  · simp
  · simp

theorem decNat_digits (u : Nat) : decNat (decDigits u) = some u := by
  unfold decNat
  rw [if_neg (by simpa using decDigits_ne u)]
  exact decFrom_digits u

theorem decDigits_dig (u : Nat) : ∀ b ∈ decDigits u, 48 ≤ b.toNat ∧ b.toNat ≤ 57 := by
  induction u using Nat.strongRecOn with
  | ind u ih =>
    rw [decDigits]
    by_cases h : u < 10
    · rw [dif_pos h]
      intro b hb
      rw [List.mem_singleton] at hb
      subst hb
      rw [u8_toNat (by omega)]
      omega
    · rw [dif_neg h]
      intro b hb
      rcases List.mem_append.1 hb with hb | hb
      · exact ih _ (by omega) b hb
      · rw [List.mem_singleton] at hb
        subst hb
        rw [u8_toNat (by omega)]
        omega

theorem decDigits_len : ∀ {k u : Nat}, u < 10 ^ (k + 1) → (decDigits u).length ≤ k + 1
  | 0, u, h => by
    rw [decDigits, dif_pos (by simpa using h)]
    simp
  | k + 1, u, h => by
    rw [decDigits]
    split
    · simp
    · rw [List.length_append, List.length_singleton]
      have := decDigits_len (k := k) (u := u / 10) (by rw [Nat.pow_succ] at h; omega)
      omega

/-- The bytes of a number's text: digits, and a minus ahead. -/
theorem itoa_bytes (n : Int) : ∀ b ∈ itoa n, b.toNat = 45 ∨ (48 ≤ b.toNat ∧ b.toNat ≤ 57) := by
  intro b hb
  unfold itoa at hb
  split at hb
  · rcases List.mem_cons.1 hb with rfl | hb
    · exact .inl rfl
    · exact .inr (decDigits_dig _ b hb)
  · exact .inr (decDigits_dig _ b hb)

theorem itoa_ne (n : Int) : itoa n ≠ [] := by
  unfold itoa
  split
  · simp
  · exact decDigits_ne _

theorem atoi_itoa (n : Int) : atoi (itoa n) = some n := by
  unfold itoa
  split
  · rw [atoi, if_pos (by decide), decNat_digits]
    show some (-((n.natAbs : Nat) : Int)) = some n
    congr 1
    omega
  · have hne := decDigits_ne n.toNat
    have hd := decDigits_dig n.toNat
    have hv := decNat_digits n.toNat
    generalize decDigits n.toNat = l at *
    cases l with
    | nil => exact absurd rfl hne
    | cons b r =>
      have hb := hd b (List.mem_cons_self ..)
      have h1 : ¬ (b == 45) = true := by
        intro e
        rw [beq_iff_eq] at e
        subst e
        simp at hb
      have h2 : ¬ (b == 43) = true := by
        intro e
        rw [beq_iff_eq] at e
        subst e
        simp at hb
      rw [atoi, if_neg h1, if_neg h2, hv]
      show some ((n.toNat : Nat) : Int) = some n
      congr 1
      omega

/-- What rots.number makes of a word. -/
def numK (w : List UInt8) : Option Int :=
  match atoiAll w with
  | .ok n => if w.length ≤ 9 ∧ -1 ≤ n ∧ itoa n = w then some n else none
  | _ => none

theorem numK_itoa {n : Int} (h : -1 ≤ n) (hl : (itoa n).length ≤ 9) : numK (itoa n) = some n := by
  unfold numK
  rw [atoiAll_short _ (by omega), atoi_itoa]
  show (if _ then _ else _) = _
  rw [if_pos ⟨hl, h, rfl⟩]

theorem numK_eq {w : List UInt8} {n : Int} (h : numK w = some n) : w = itoa n ∧ -1 ≤ n ∧ w.length ≤ 9 := by
  unfold numK at h
  split at h
  · split at h
    · rename_i hh
      cases h
      exact ⟨hh.2.2.symm, hh.2.1, hh.1⟩
    · cases h
  · cases h

/-- A text cut at each byte c. -/
def cutB (c : UInt8) : List UInt8 → List (List UInt8)
  | [] => [[]]
  | b :: l => if b = c then [] :: cutB c l else
    match cutB c l with
    | x :: xs => (b :: x) :: xs
    | [] => [[b]]

theorem cutB_ne (c : UInt8) : ∀ l, cutB c l ≠ []
  | [] => by simp [cutB]
  | b :: l => by
    unfold cutB
    split
    · simp
    · split <;> simp

/-- Texts with the byte c between them. -/
def joinB (c : UInt8) : List (List UInt8) → List UInt8
  | [] => []
  | [x] => x
  | x :: y :: r => x ++ c :: joinB c (y :: r)

theorem cutB_free {c : UInt8} : ∀ {l : List UInt8}, c ∉ l → cutB c l = [l]
  | [], _ => rfl
  | b :: l, h => by
    have h1 : b ≠ c := fun e => h (e ▸ List.mem_cons_self ..)
    unfold cutB
    rw [if_neg h1, cutB_free (fun hh => h (List.mem_cons_of_mem _ hh))]

theorem cutB_app {c : UInt8} : ∀ {l m : List UInt8}, c ∉ l → cutB c (l ++ c :: m) = l :: cutB c m
  | [], m, _ => by rw [List.nil_append, cutB, if_pos rfl]
  | b :: l, m, h => by
    have h1 : b ≠ c := fun e => h (e ▸ List.mem_cons_self ..)
    rw [List.cons_append, cutB, if_neg h1, cutB_app (fun hh => h (List.mem_cons_of_mem _ hh))]

theorem cutB_join {c : UInt8} : ∀ {xs : List (List UInt8)}, xs ≠ [] → (∀ x ∈ xs, c ∉ x) → cutB c (joinB c xs) = xs
  | [], h, _ => absurd rfl h
  | [x], _, h => cutB_free (h x (List.mem_cons_self ..))
  | x :: y :: r, _, h => by
    rw [joinB, cutB_app (h x (List.mem_cons_self ..)), cutB_join (by simp) (fun z hz => h z (List.mem_cons_of_mem _ hz))]

theorem joinB_cut (c : UInt8) : ∀ l, joinB c (cutB c l) = l
  | [] => rfl
  | b :: l => by
    have ih := joinB_cut c l
    have hne := cutB_ne c l
    unfold cutB
    split
    · rename_i e
      cases hx : cutB c l with
      | nil => exact absurd hx hne
      | cons x xs =>
        rw [hx] at ih
        show [] ++ c :: joinB c (x :: xs) = b :: l
        rw [ih, e]; rfl
    · cases hx : cutB c l with
      | nil => exact absurd hx hne
      | cons x xs =>
        rw [hx] at ih
        show joinB c ((b :: x) :: xs) = b :: l
        cases xs with
        | nil => rw [joinB] at ih ⊢; rw [ih]
        | cons y r => rw [joinB] at ih ⊢; rw [← ih]; rfl

theorem index_byte (c : UInt8) : ∀ l : List UInt8, (c ∉ l → index l [c] = -1) ∧ ∀ a b, l = a ++ c :: b → c ∉ a → index l [c] = (a.length : Nat) := by
  intro l
  constructor
  · intro h
    refine index_past (i := l.length) (by simp) (fun j hj => ?_) (by simp)
    cases ho : occAt l [c] j with
    | false => rfl
    | true =>
      exfalso
      unfold occAt at ho
      have : (l.drop j).head? = some c := by
        cases hd : l.drop j with
        | nil => rw [hd] at ho; simp at ho
        | cons x xs => rw [hd] at ho; simp at ho; simp [ho]
      have := List.mem_of_mem_drop (List.mem_of_mem_head? this)
      exact h this
  · rintro a b rfl h
    refine index_hit (fun j hj => ?_) (by simp) (by simp [occAt])
    cases ho : occAt (a ++ c :: b) [c] j with
    | false => rfl
    | true =>
      exfalso
      unfold occAt at ho
      rw [List.drop_append_of_le_length (by omega)] at ho
      cases hd : a.drop j with
      | nil => have := congrArg List.length hd; simp at this; omega
      | cons x xs =>
        rw [hd] at ho
        simp at ho
        exact h (ho ▸ List.mem_of_mem_drop (hd ▸ List.mem_cons_self ..))

theorem split_cut (c : UInt8) (s : List UInt8) : split s [c] = cutB c s := by
  unfold split
  rw [count_one]
  generalize hk : s.count c = k
  induction k generalizing s with
  | zero =>
    have h : c ∉ s := by rw [← List.count_pos_iff]; omega
    rw [cutB_free h]; rfl
  | succ k ih =>
    have h : c ∈ s := by rw [← List.count_pos_iff]; omega
    obtain ⟨a, b, rfl, ha⟩ := List.eq_append_cons_of_mem h
    have hi := (index_byte c (a ++ c :: b)).2 a b rfl ha
    have hb : b.count c = k := by
      rw [List.count_append, List.count_cons_self, List.count_eq_zero.2 ha] at hk
      omega
    have hne : ¬ (index (a ++ c :: b) [c] == -1) = true := fun e => by have := beq_iff_eq.1 e; omega
    rw [splitK, if_neg hne, hi, cutB_app ha]
    have e1 : (a ++ c :: b).take (((a.length : Nat) : Int).toNat + 0) = a := by simp
    have e2 : (a ++ c :: b).drop (((a.length : Nat) : Int).toNat + [c].length) = b := by
      simp [List.drop_append]
    rw [e1, e2, ih b hb]

end Go.Proofs.YtblkkcpeodoclaaGreatDoor
