/- Plain laws of words as maps: the vertex of a place, what is next around it. No program is named here. -/
import Derived.Test.YtipelclohcdkcaaGreatRef12
namespace Go.Proofs.YtipelclohcdkcaaGreat

/-- The round ones that are open at a place, the innermost last. -/
def stk (ks : List Nat) : Nat → List Nat
  | 0 => []
  | j + 1 => if ks.getD j 9 = 0 then stk ks j ++ [j] else if ks.getD j 9 = 1 then (stk ks j).dropLast else stk ks j

/-- The name of the vertex that is come to at a place. -/
def vo (ks : List Nat) (o : Nat) : Nat := cntK (ks.take o) 0 + 1

theorem getD9 {ks : List Nat} {j k : Nat} (h : ks[j]? = some k) : ks.getD j 9 = k := by rw [List.getD_eq_getElem?_getD, h]; rfl

theorem getElem?_dropLast' {l : List Nat} {t x : Nat} (h : l.dropLast[t]? = some x) : l[t]? = some x ∧ t + 1 < l.length := by
  have ht := lt_of_get h
  rw [List.length_dropLast] at ht
  rw [List.getElem?_dropLast] at h
  by_cases hc : t < l.length - 1
  · rw [if_pos hc] at h; exact ⟨h, by omega⟩
  · rw [if_neg hc] at h; cases h

section
variable {ks : List Nat} (h : Wd ks)
include h

theorem Wd.stk_spec : ∀ j, j ≤ ks.length → ((stk ks j).length : Int) = DD ks j ∧ ∀ (t o : Nat), (stk ks j)[t]? = some o → o < j ∧ ks[o]? = some 0 ∧ DD ks o = (t : Int) ∧ ∀ p, o < p → p ≤ j → (t : Int) < DD ks p := by
  intro j
  induction j with
  | zero => intro _; exact ⟨by simp [stk, DD_zero], fun t o ho => by simp [stk] at ho⟩
  | succ j ih =>
    intro hj
    obtain ⟨h1, h2⟩ := ih (by omega)
    have hk := List.getElem?_eq_getElem (l := ks) (i := j) (by omega)
    have hd := DD_succ hk
    have hg := getD9 hk
    have hpos := h.dpos hj
    generalize ks[j] = k at *
    unfold stk
    rw [hg]
    by_cases k0 : k = 0
    · subst k0
      simp only [dd, if_true] at hd
      rw [if_pos rfl]
      refine ⟨by rw [List.length_append, List.length_singleton]; omega, fun t o ho => ?_⟩
      rcases snoc_get ho with ho | ⟨rfl, rfl⟩
      · obtain ⟨g1, g2, g3, g4⟩ := h2 t o ho
        have := lt_of_get ho
        refine ⟨by omega, g2, g3, fun p hp1 hp2 => ?_⟩
        rcases Nat.lt_or_ge p (j + 1) with hlt | hge
        · exact g4 p hp1 (by omega)
        · obtain rfl : p = j + 1 := by omega
          omega
      · refine ⟨by omega, hk, h1.symm, fun p hp1 hp2 => ?_⟩
        obtain rfl : p = o + 1 := by omega
        omega
    · rw [if_neg k0]
      by_cases k1 : k = 1
      · subst k1
        simp [dd] at hd
        rw [if_pos rfl]
        have hl : 0 < (stk ks j).length := by omega
        refine ⟨by rw [List.length_dropLast]; omega, fun t o ho => ?_⟩
        obtain ⟨ho, ht⟩ := getElem?_dropLast' ho
        obtain ⟨g1, g2, g3, g4⟩ := h2 t o ho
        refine ⟨by omega, g2, g3, fun p hp1 hp2 => ?_⟩
        rcases Nat.lt_or_ge p (j + 1) with hlt | hge
        · exact g4 p hp1 (by omega)
        · obtain rfl : p = j + 1 := by omega
          omega
      · rw [if_neg k1]
        have hd0 : dd k = 0 := by simp [dd, k0, k1]
        rw [hd0] at hd
        refine ⟨by omega, fun t o ho => ?_⟩
        obtain ⟨g1, g2, g3, g4⟩ := h2 t o ho
        have := lt_of_get ho
        refine ⟨by omega, g2, g3, fun p hp1 hp2 => ?_⟩
        rcases Nat.lt_or_ge p (j + 1) with hlt | hge
        · exact g4 p hp1 (by omega)
        · obtain rfl : p = j + 1 := by omega
          omega

/-- The innermost one is the owner. -/
theorem Wd.stk_last {j : Nat} (hj : j ≤ ks.length) (hne : 0 < DD ks j) : ∃ o, (stk ks j).getLast? = some o ∧ OwnAt ks j o := by
  obtain ⟨h1, h2⟩ := h.stk_spec j hj
  have hl : 0 < (stk ks j).length := by omega
  have hg := List.getElem?_eq_getElem (l := stk ks j) (i := (stk ks j).length - 1) (by omega)
  obtain ⟨g1, g2, g3, g4⟩ := h2 _ _ hg
  refine ⟨_, by rw [List.getLast?_eq_getElem?]; exact hg, g1, g2, by omega, fun p hp1 hp2 => by have := g4 p hp1 hp2; omega⟩
end

/-- The vertex of a place. -/
def vx (ks : List Nat) (j : Nat) : Nat := match (stk ks j).getLast? with
  | some o => vo ks o
  | none => 0

theorem cnt0_succ {ks : List Nat} {i : Nat} (h : ks[i]? = some 0) : cntK (ks.take (i + 1)) 0 = cntK (ks.take i) 0 + 1 := by
  rw [cntK_get h 0, if_pos rfl]

theorem vo_inj {ks : List Nat} {o q : Nat} (ho : ks[o]? = some 0) (hq : ks[q]? = some 0) (he : vo ks o = vo ks q) : o = q := by
  unfold vo at he
  rcases Nat.lt_trichotomy o q with hlt | rfl | hlt
  · have h1 := cnt0_succ ho
    have h2 := cntK_mono ks 0 (show o + 1 ≤ q from hlt)
    omega
  · rfl
  · have h1 := cnt0_succ hq
    have h2 := cntK_mono ks 0 (show q + 1 ≤ o from hlt)
    omega

section
variable {ks : List Nat} (h : Wd ks)
include h

theorem Wd.vx_own {j o : Nat} (hj : j ≤ ks.length) (ho : OwnAt ks j o) : vx ks j = vo ks o := by
  have hd := h.dpos (p := o) (by have := ho.lt; omega)
  obtain ⟨q, hq, hq2⟩ := h.stk_last hj (by have := ho.hit; omega)
  unfold vx
  rw [hq, ho.unique hq2]

theorem Wd.vx_none {j : Nat} (hj : j ≤ ks.length) (h0 : DD ks j = 0) : vx ks j = 0 := by
  have := (h.stk_spec j hj).1
  have : stk ks j = [] := List.eq_nil_of_length_eq_zero (by omega)
  unfold vx
  rw [this]; rfl

theorem Wd.own_or {j : Nat} (hj : j ≤ ks.length) : DD ks j = 0 ∨ ∃ o, OwnAt ks j o := by
  have := h.dpos hj
  by_cases h0 : DD ks j = 0
  · exact .inl h0
  · obtain ⟨o, _, ho⟩ := h.stk_last hj (by omega)
    exact .inr ⟨o, ho⟩

/-- Two places are at one vertex just if they have one owner. -/
theorem Wd.vx_iff {i j : Nat} (hi : i ≤ ks.length) (hj : j ≤ ks.length) : vx ks i = vx ks j ↔ (DD ks i = 0 ∧ DD ks j = 0) ∨ ∃ o, OwnAt ks i o ∧ OwnAt ks j o := by
  constructor
  · intro he
    rcases h.own_or hi with h1 | ⟨o, ho⟩ <;> rcases h.own_or hj with h2 | ⟨q, hq⟩
    · exact .inl ⟨h1, h2⟩
    · rw [h.vx_none hi h1, h.vx_own hj hq] at he; unfold vo at he; omega
    · rw [h.vx_own hi ho, h.vx_none hj h2] at he; unfold vo at he; omega
    · rw [h.vx_own hi ho, h.vx_own hj hq] at he
      have := vo_inj ho.opens hq.opens he
      subst this
      exact .inr ⟨o, ho, hq⟩
  · rintro (⟨h1, h2⟩ | ⟨o, h1, h2⟩)
    · rw [h.vx_none hi h1, h.vx_none hj h2]
    · rw [h.vx_own hi h1, h.vx_own hj h2]

/-- At one depth, with nothing less deep between, there is one owner. -/
theorem Wd.vx_level {i j : Nat} (hij : i ≤ j) (hj : j ≤ ks.length) (hd : DD ks i = DD ks j) (hab : ∀ p, i ≤ p → p ≤ j → DD ks i ≤ DD ks p) : vx ks i = vx ks j := by
  rw [h.vx_iff (by omega) hj]
  rcases h.own_or (show i ≤ ks.length by omega) with h1 | ⟨o, ho⟩
  · exact .inl ⟨h1, by omega⟩
  · refine .inr ⟨o, ho, by have := ho.lt; omega, ho.opens, by have := ho.hit; omega, fun p hp1 hp2 => ?_⟩
    rcases Nat.lt_or_ge i p with hlt | hge
    · have := hab p (by omega) hp2; have := ho.hit; omega
    · exact ho.above p hp1 (by omega)

/-- Deeper places are at other vertices. -/
theorem Wd.vx_deep {i p : Nat} (hip : i < p) (hp : p ≤ ks.length) (hab : ∀ q, i < q → q ≤ p → DD ks i < DD ks q) : vx ks p ≠ vx ks i := by
  intro he
  rw [h.vx_iff hp (by omega)] at he
  have h1 := hab p hip (Nat.le_refl _)
  rcases he with ⟨h2, h3⟩ | ⟨o, h2, h3⟩
  · omega
  · have := h2.hit; have := h3.hit; omega

/-- A vertex that has been left isn't come to again. -/
theorem Wd.vx_left {i o p : Nat} (ho : OwnAt ks i o) (hi : ks[i]? = some 1) (hip : i < p) (hp : p ≤ ks.length) : vx ks p ≠ vx ks i := by
  intro he
  have hil := lt_of_get hi
  rw [h.vx_iff hp (by omega)] at he
  have hd := DD_succ hi
  simp [dd] at hd
  have := ho.hit
  have := h.dpos (p := o) (by have := ho.lt; omega)
  rcases he with ⟨_, h3⟩ | ⟨q, h2, h3⟩
  · omega
  · have := ho.unique h3
    subst this
    have := h2.above (i + 1) (by have := ho.lt; omega) (by omega)
    omega

/-- What is next around a vertex: the next place of it, or, behind its last one, its first. -/
theorem Wd.tn_next {i : Nat} (hi : i < ks.length) : tn ks i < ks.length ∧ vx ks (tn ks i) = vx ks i ∧
    ((i < tn ks i ∧ ∀ p, i < p → p < tn ks i → vx ks p ≠ vx ks i) ∨ ((∀ p, i < p → p < ks.length → vx ks p ≠ vx ks i) ∧ tn ks i ≤ i ∧ ∀ p, p < tn ks i → vx ks p ≠ vx ks i)) := by
  have hend := h.dend
  -- where one comes round
  have wrap : ∀ m, m + 1 = ks.length → i ≤ m → DD ks i = 0 → (∀ p, i < p → p < ks.length → vx ks p ≠ vx ks i) → tn ks i = (m + 1) % ks.length →
      tn ks i < ks.length ∧ vx ks (tn ks i) = vx ks i ∧ ((i < tn ks i ∧ ∀ p, i < p → p < tn ks i → vx ks p ≠ vx ks i) ∨ ((∀ p, i < p → p < ks.length → vx ks p ≠ vx ks i) ∧ tn ks i ≤ i ∧ ∀ p, p < tn ks i → vx ks p ≠ vx ks i)) := by
    intro m hm him hd hall ht
    rw [hm, Nat.mod_self] at ht
    rw [ht]
    refine ⟨by omega, ?_, .inr ⟨hall, by omega, fun p hp => by omega⟩⟩
    rw [h.vx_none (by omega) (DD_zero _), h.vx_none (by omega) hd]
  obtain ⟨s, hs, hc⟩ := h.cases hi
  by_cases h2 : s = 0
  · subst h2
    rcases hc with ⟨h1, hp⟩ | ⟨h1, hp⟩
    · -- it opens
      obtain ⟨d1, d2⟩ := hp.DD
      have hm := hp.le
      have ht : tn ks i = (mp ks i + 1) % ks.length := by unfold tn; rw [getD_of h1, if_pos (by omega)]
      have hdeep : ∀ p, i < p → p ≤ mp ks i → vx ks p ≠ vx ks i := fun p hp1 hp2 => h.vx_deep hp1 (by omega) (fun q hq1 hq2 => d2 q hq1 (by omega))
      rcases Nat.lt_or_ge (mp ks i + 1) ks.length with hlt | hge
      · rw [ht, Nat.mod_eq_of_lt hlt]
        refine ⟨hlt, ?_, .inl ⟨by have := hp.lt; omega, fun p hp1 hp2 => hdeep p hp1 (by omega)⟩⟩
        refine (h.vx_level (by have := hp.lt; omega) (by omega) d1.symm (fun p hp1 hp2 => ?_)).symm
        rcases Nat.lt_or_ge i p with hlt2 | hge2
        · rcases Nat.lt_or_ge p (mp ks i + 1) with h3 | h3
          · have := d2 p hlt2 (by omega); omega
          · obtain rfl : p = mp ks i + 1 := by omega
            omega
        · obtain rfl : p = i := by omega
          exact Int.le_refl _
      · have hml : mp ks i + 1 = ks.length := by omega
        refine wrap (mp ks i) hml (by have := hp.lt; omega) ?_ (fun p hp1 hp2 => hdeep p hp1 (by omega)) ht
        rw [hml] at d1; omega
    · -- it closes
      obtain ⟨d1, d2⟩ := hp.DD
      have hlt := hp.lt
      have ht : tn ks i = mp ks i + 1 := by
        unfold tn; rw [getD_of h1, if_pos (by omega), Nat.mod_eq_of_lt (by omega)]
      have hsi := DD_succ h1
      simp [dd] at hsi
      have hso := DD_succ hp.opens
      simp [dd] at hso
      have ho : OwnAt ks i (mp ks i) := ⟨hlt, hp.opens, by omega, fun p hp1 hp2 => d2 p hp1 hp2⟩
      rw [ht]
      refine ⟨by omega, ?_, .inr ⟨fun p hp1 hp2 => h.vx_left ho (by simpa using h1) hp1 (by omega), by omega, fun p hp2 he => ?_⟩⟩
      · refine h.vx_level (by omega) (by omega) (by omega) (fun p hp1 hp2 => ?_)
        have := d2 p (by omega) hp2; omega
      · rw [h.vx_iff (by omega) (by omega)] at he
        rcases he with ⟨_, h3⟩ | ⟨q, h2, h3⟩
        · have := ho.hit; have := h.dpos (p := mp ks i) (by omega); omega
        · have := h3.unique ho
          subst this
          have := h2.lt; omega
  · -- an edgy one
    have hge2 : ¬ ks.getD i 0 < 2 := by
      rcases hc with ⟨h1, _⟩ | ⟨h1, _⟩ <;> rw [getD_of h1] <;> omega
    have ht : tn ks i = (i + 1) % ks.length := by unfold tn; rw [if_neg hge2]
    have hd : DD ks (i + 1) = DD ks i := by
      obtain rfl : s = 1 := by omega
      rcases hc with ⟨h1, _⟩ | ⟨h1, _⟩
      · have := DD_succ h1; rw [this]; simp [dd]
      · have := DD_succ h1; rw [this]; simp [dd]
    rcases Nat.lt_or_ge (i + 1) ks.length with hlt | hge
    · rw [ht, Nat.mod_eq_of_lt hlt]
      refine ⟨hlt, (h.vx_level (by omega) (by omega) hd.symm (fun p hp1 hp2 => ?_)).symm, .inl ⟨by omega, fun p hp1 hp2 => by omega⟩⟩
      rcases Nat.lt_or_ge i p with h3 | h3
      · obtain rfl : p = i + 1 := by omega
        omega
      · obtain rfl : p = i := by omega
        exact Int.le_refl _
    · have hml : i + 1 = ks.length := by omega
      refine wrap i hml (by omega) ?_ (fun p hp1 hp2 => by omega) ht
      rw [hml, hend] at hd; omega
end

end Go.Proofs.YtipelclohcdkcaaGreat
