/- Plain: what rots.Parse reads. -/
import Derived.Test.YtblkkcpeodoclaaGreatDoorPtRots2
import Derived.Test.YtblkkcpeodoclaaGreatDoorPtTurnQ
namespace Go.Proofs.YtblkkcpeodoclaaGreatDoor

theorem decDigits_low (u : Nat) : u < 10 ^ (Lib.decDigits u).length := by
  induction u using Nat.strongRecOn with
  | ind u ih =>
    rw [Lib.decDigits]
    by_cases h : u < 10
    · rw [dif_pos h]; simpa using h
    · rw [dif_neg h, List.length_append, List.length_singleton, Nat.pow_succ]
      have := ih (u / 10) (by omega)
      omega

theorem numK_lt {w : List UInt8} {n : Int} (h : numK w = some n) : -1 ≤ n ∧ n < 1000000000 := by
  obtain ⟨h1, h2, h3⟩ := numK_eq h
  refine ⟨h2, ?_⟩
  by_cases h0 : n < 0
  · omega
  · have : Lib.itoa n = Lib.decDigits n.toNat := by unfold Lib.itoa; rw [if_neg h0]
    have hl := decDigits_low n.toNat
    have hp : 10 ^ (Lib.decDigits n.toNat).length ≤ 10 ^ 9 := Nat.pow_le_pow_right (by omega) (by rw [← this, ← h1]; exact h3)
    have : (10 : Nat) ^ 9 = 1000000000 := by decide
    omega

theorem cut_len (c : UInt8) : ∀ l : List UInt8, ((cutB c l).map fun x => x.length + 1).sum = l.length + 1
  | [] => rfl
  | b :: l => by
    have ih := cut_len c l
    unfold cutB
    split
    · simp [ih]; omega
    · have hne := cutB_ne c l
      cases hx : cutB c l with
      | nil => exact absurd hx hne
      | cons x xs =>
        rw [hx] at ih
        simp at ih ⊢
        omega

theorem mapM_get {α β : Type} {f : α → Option β} : ∀ {xs : List α} {ys : List β}, xs.mapM f = some ys → ys.length = xs.length ∧ ∀ (i : Nat) x, xs[i]? = some x → ∃ y, ys[i]? = some y ∧ f x = some y
  | [], ys, h => by
    simp at h
    subst h
    exact ⟨rfl, fun i x hx => by simp at hx⟩
  | a :: xs, ys, h => by
    cases ha : f a with
    | none => simp [ha] at h
    | some b =>
      cases hr : xs.mapM f with
      | none => simp [ha, hr] at h
      | some r =>
        simp [ha, hr] at h
        subst h
        obtain ⟨h1, h2⟩ := mapM_get hr
        refine ⟨by simp [h1], fun i x hx => ?_⟩
        cases i with
        | zero => simp at hx; subst hx; exact ⟨b, rfl, ha⟩
        | succ i => exact h2 i x (by simpa using hx)

theorem sum_two : ∀ (xs : List (List UInt8)), (∀ x ∈ xs, 1 ≤ x.length) → 2 * xs.length ≤ (xs.map fun x => x.length + 1).sum
  | [], _ => by simp
  | x :: xs, h => by
    have h1 := h x (List.mem_cons_self ..)
    have h2 := sum_two xs (fun y hy => h y (List.mem_cons_of_mem _ hy))
    simp only [List.map_cons, List.sum_cons, List.length_cons]
    omega

theorem numsK_len {x : List UInt8} {l : List Int} (h : numsK x = some l) : 2 * l.length ≤ x.length + 1 ∧ ∀ z ∈ l, -1 ≤ z ∧ z < 1000000000 := by
  obtain ⟨h1, h2⟩ := mapM_get h
  have hp : ∀ y ∈ cutB 32 x, 1 ≤ y.length := fun y hy => by
    obtain ⟨i, hi⟩ := List.mem_iff_getElem?.1 hy
    obtain ⟨z, -, hz⟩ := h2 i y hi
    have := (numK_eq hz).1
    have hn := itoa_ne z
    rw [← this] at hn
    cases y with
    | nil => exact absurd rfl hn
    | cons b y => simp
  have hs := sum_two _ hp
  rw [cut_len] at hs
  refine ⟨by omega, fun z hz => ?_⟩
  obtain ⟨i, hi⟩ := List.mem_iff_getElem?.1 hz
  obtain ⟨y, hy⟩ : ∃ y, (cutB 32 x)[i]? = some y := ⟨_, List.getElem?_eq_getElem (by rw [← h1]; exact (List.getElem?_eq_some_iff.1 hi).1)⟩
  obtain ⟨z', hz', hk⟩ := h2 i y hy
  rw [hi] at hz'
  cases hz'
  exact numK_lt hk

/-- The lines xs are rows of numbers. -/
def RowsK (xs : List (List UInt8)) (rows : List (List Int)) : Prop :=
  rows.length = xs.length ∧ ∀ i x, xs[i]? = some x → ∃ l, rows[i]? = some l ∧ numsK x = some l ∧ rightK (decide (i = 0)) l = true

theorem RowsK.nil : RowsK [] [] := ⟨rfl, fun i x h => by simp at h⟩

theorem RowsK.push {xs : List (List UInt8)} {rows : List (List Int)} {i : Nat} {x : List UInt8} {l : List Int} (h : RowsK (xs.take i) rows) (hx : xs[i]? = some x) (hl : numsK x = some l) (hr : rightK (decide (i = 0)) l = true) : RowsK (xs.take (i + 1)) (rows ++ [l]) := by
  have hi : i < xs.length := (List.getElem?_eq_some_iff.1 hx).1
  have hlen : rows.length = i := by rw [h.1, List.length_take]; omega
  refine ⟨by rw [List.length_append, hlen, List.length_take]; simp; omega, fun j y hy => ?_⟩
  by_cases hj : j < i
  · rw [List.getElem?_take_of_lt (by omega)] at hy
    obtain ⟨m, h1, h2⟩ := h.2 j y (by rw [List.getElem?_take_of_lt hj]; exact hy)
    exact ⟨m, by rw [List.getElem?_append_left (by omega)]; exact h1, h2⟩
  · have hji : j = i := by
      have := (List.getElem?_eq_some_iff.1 hy).1
      rw [List.length_take] at this
      omega
    subst hji
    rw [List.getElem?_take_of_lt (by omega), hx] at hy
    cases hy
    exact ⟨l, by rw [List.getElem?_append_right (by omega), hlen]; simp, hl, hr⟩

theorem RowsK.uniq {xs : List (List UInt8)} {r1 r2 : List (List Int)} (h1 : RowsK xs r1) (h2 : RowsK xs r2) : r1 = r2 := by
  apply List.ext_getElem?
  intro i
  by_cases hi : i < xs.length
  · obtain ⟨l, a, b, -⟩ := h1.2 i _ (List.getElem?_eq_getElem hi)
    obtain ⟨m, c, d, -⟩ := h2.2 i _ (List.getElem?_eq_getElem hi)
    rw [b] at d
    cases d
    rw [a, c]
  · rw [List.getElem?_eq_none (by rw [h1.1]; omega), List.getElem?_eq_none (by rw [h2.1]; omega)]

theorem RowsK.sum : ∀ {xs : List (List UInt8)} {rows : List (List Int)}, rows.length = xs.length → (∀ (i : Nat) x, xs[i]? = some x → ∃ l, rows[i]? = some l ∧ numsK x = some l) → 2 * (rows.map List.length).sum ≤ (xs.map fun x => x.length + 1).sum
  | [], [], _, _ => by simp
  | x :: xs, [], h, _ => by simp at h
  | [], _ :: _, h, _ => by simp at h
  | x :: xs, r :: rows, h, hg => by
    have ih := RowsK.sum (xs := xs) (rows := rows) (by simpa using h) (fun i y hy => by simpa using hg (i + 1) y (by simpa using hy))
    obtain ⟨l, h1, h2⟩ := hg 0 x rfl
    simp at h1
    subst h1
    have := (numsK_len h2).1
    simp only [List.map_cons, List.sum_cons]
    omega

theorem rows_shape {xs : List (List UInt8)} {rows : List (List Int)} (h : RowsK xs rows) (hne : rows ≠ []) :
    ∃ (h0 : Nat) (r : Int) (n : Nat) (ls : List (List Nat)), rows = [(h0 : Int), r, (n : Int)] :: ls.map nats ∧ h0 < 1000000000 ∧ -1 ≤ r ∧ r < 1000000000 ∧ n < 1000000000 := by
  obtain ⟨hl, hg⟩ := h
  cases rows with
  | nil => exact absurd rfl hne
  | cons q rows =>
    have hget : ∀ i l, (q :: rows)[i]? = some l → rightK (decide (i = 0)) l = true ∧ ∀ z ∈ l, -1 ≤ z ∧ z < 1000000000 := fun i l hi => by
      obtain ⟨x, hx⟩ : ∃ x, xs[i]? = some x := ⟨_, List.getElem?_eq_getElem (by rw [← hl]; exact (List.getElem?_eq_some_iff.1 hi).1)⟩
      obtain ⟨m, h1, h2, h3⟩ := hg i x hx
      rw [hi] at h1
      cases h1
      exact ⟨h3, (numsK_len h2).2⟩
    obtain ⟨h1, h2⟩ := hget 0 q rfl
    unfold rightK at h1
    rw [if_pos (by simp)] at h1
    obtain ⟨h3, h4, h5⟩ := of_decide_eq_true h1
    match q, h3 with
    | [a, r, n], _ =>
      have h4 : 0 ≤ a := h4
      have h5 : 0 ≤ n := h5
      have ha := h2 a (by simp)
      have hr := h2 r (by simp)
      have hn := h2 n (by simp)
      refine ⟨a.toNat, r, n.toNat, rows.map fun l => l.map Int.toNat, ?_, by omega, hr.1, hr.2, by omega⟩
      rw [Int.toNat_of_nonneg h4, Int.toNat_of_nonneg h5]
      congr 1
      rw [List.map_map]
      apply List.ext_getElem?
      intro i
      rw [List.getElem?_map]
      cases hi : rows[i]? with
      | none => rfl
      | some l =>
        have hh := (hget (i + 1) l (by simpa using hi)).1
        unfold rightK at hh
        rw [if_neg (by simp)] at hh
        rw [Option.map_some, Option.some.injEq]
        show l = nats (l.map Int.toNat)
        unfold nats
        rw [List.map_map]
        conv => lhs; rw [← List.map_id l]
        apply List.map_congr_left
        intro z hz
        have := of_decide_eq_true (List.all_eq_true.1 hh z hz)
        simp only [id_eq, Function.comp_apply]
        omega

/-- A text's rows. -/
def ReadK (t : List UInt8) (rows : List (List Int)) : Prop := ∃ xs, cutB 10 t = xs ++ [[]] ∧ rows ≠ [] ∧ RowsK xs rows

theorem ReadK.uniq {t : List UInt8} {r1 r2 : List (List Int)} (h1 : ReadK t r1) (h2 : ReadK t r2) : r1 = r2 := by
  obtain ⟨xs, a, -, b⟩ := h1
  obtain ⟨ys, c, -, d⟩ := h2
  rw [a] at c
  obtain rfl := List.append_inj_left' c rfl
  exact b.uniq d

/-- A text that is a map: its turns, its root, its lone ones; k: its lines. -/
def GoodK (t : List UInt8) (s : List Nat) (rt : Int) (ln k : Nat) : Prop :=
  t.length ≤ 1048576 ∧ ∃ (h : Nat) (ls : List (List Nat)), ReadK t ([(h : Int), rt, (ln : Int)] :: ls.map nats) ∧ k = ls.length + 1 ∧ TurnOk ls (2 * h) ∧ (∀ p ∈ linksL ls, sg s p.1 = p.2) ∧
    s.length = 2 * h ∧ IsP s.length (sg s) ∧ s.length ≤ 131072 ∧ ln ≤ 65536 ∧ ((s.length = 0 ∧ rt = -1) ∨ ∃ r : Nat, rt = r ∧ r < s.length)

end Go.Proofs.YtblkkcpeodoclaaGreatDoor
