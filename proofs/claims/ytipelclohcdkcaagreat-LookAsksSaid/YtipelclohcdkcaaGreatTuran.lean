/- Plain laws of words as maps: mates, turns, names, vertices of places. No program is named here. -/
import Derived.Test.YtipelclohcdkcaaGreatRef8
namespace Go.Proofs.YtipelclohcdkcaaGreat

/-- A word of two balanced sorts. -/
structure Wd (ks : List Nat) : Prop where
  k4 : ∀ k ∈ ks, k < 4
  bal : MBal ks

/-- The mate of a place. -/
noncomputable def mp (ks : List Nat) (i : Nat) : Nat := open Classical in if h : ∃ m, MixMate ks i m then h.choose else i

section
variable {ks : List Nat} (h : Wd ks)
include h

theorem Wd.mate {i : Nat} (hi : i < ks.length) : MixMate ks i (mp ks i) := by
  have hex := h.bal.mate h.k4 hi
  unfold mp
  rw [dif_pos hex]
  exact hex.choose_spec

theorem Wd.mp_eq {i m : Nat} (hi : i < ks.length) (hm : MixMate ks i m) : mp ks i = m := (h.mate hi).unique hm
theorem Wd.mp_lt {i : Nat} (hi : i < ks.length) : mp ks i < ks.length := (h.mate hi).lt
theorem Wd.mp_mp {i : Nat} (hi : i < ks.length) : mp ks (mp ks i) = i := h.mp_eq (h.mp_lt hi) (h.mate hi).symm
end

/-- The pair of a sort, told of the word itself. -/
structure PairW (ks : List Nat) (s i j : Nat) : Prop where
  lt : i < j
  le : j < ks.length
  opens : ks[i]? = some (2 * s)
  closes : ks[j]? = some (2 * s + 1)
  hit : ex (ownB s ks) (pr s ks (j + 1)) = ex (ownB s ks) (pr s ks i)
  above : ∀ p, i < p → p ≤ j → ex (ownB s ks) (pr s ks i) < ex (ownB s ks) (pr s ks p)

theorem MixMate.pairW {ks : List Nat} {i m : Nat} (h : MixMate ks i m) : ∃ s, s < 2 ∧ (PairW ks s i m ∨ PairW ks s m i) := by
  obtain ⟨s, a, c, hs, h1, h2, h3⟩ := h
  have key : ∀ {i m a c : Nat}, SelAt s ks a i → SelAt s ks c m → IsPair (ownB s ks) a c → PairW ks s i m := by
    intro i m a c h1 h2 hp
    obtain ⟨x, hx, hxs, hxp⟩ := id h1
    obtain ⟨y, hy, hys, hyp⟩ := id h2
    have hb1 := (h1.own hx).2
    have hb2 := (h2.own hy).2
    have ho := hp.opens.1
    have hc := hp.closes.1
    rw [List.getD_eq_getElem?_getD, hb1, Option.getD_some] at ho
    rw [List.getD_eq_getElem?_getD, hb2, Option.getD_some] at hc
    have ho2 : x % 2 = 0 := by simpa using ho
    have hc2 : y % 2 = 1 := by
      have : ¬ y % 2 = 0 := by simpa using hc
      omega
    have him : i < m := by
      have := (h1.cmp m).1 (by rw [hyp]; exact hp.lt)
      exact this
    have hsm := pr_succ s hy
    rw [if_pos hys, hyp] at hsm
    refine ⟨him, lt_of_get hy, by rw [hx]; congr 1; omega, by rw [hy]; congr 1; omega, by rw [hsm, hxp]; exact hp.hit, fun p hp1 hp2 => ?_⟩
    rw [hxp]
    refine hp.above _ ((h1.cmp p).2 hp1) ?_
    rw [← hyp]; exact pr_mono s ks hp2
  rcases h3 with ⟨_, hp⟩ | ⟨_, hp⟩
  · exact ⟨s, hs, .inl (key h1 h2 hp)⟩
  · exact ⟨s, hs, .inr (key h2 h1 hp)⟩

/-- The pairs of the tree. -/
theorem PairW.DD {ks : List Nat} {i j : Nat} (h : PairW ks 0 i j) : DD ks (j + 1) = DD ks i ∧ ∀ p, i < p → p ≤ j → DD ks i < DD ks p := by
  have hl := h.lt
  have hj := h.le
  have h1 := h.hit
  rw [ex_DD (show j + 1 ≤ ks.length by omega), ex_DD (show i ≤ ks.length by omega)] at h1
  refine ⟨h1, fun p hp1 hp2 => ?_⟩
  have := h.above p hp1 hp2
  rwa [ex_DD (show i ≤ ks.length by omega), ex_DD (show p ≤ ks.length by omega)] at this
theorem PairW.BB {ks : List Nat} {i j : Nat} (h : PairW ks 1 i j) : BB ks (j + 1) = BB ks i ∧ ∀ p, i < p → p ≤ j → BB ks i < BB ks p := by
  have hl := h.lt
  have hj := h.le
  have h1 := h.hit
  rw [ex_BB (show j + 1 ≤ ks.length by omega), ex_BB (show i ≤ ks.length by omega)] at h1
  refine ⟨h1, fun p hp1 hp2 => ?_⟩
  have := h.above p hp1 hp2
  rwa [ex_BB (show i ≤ ks.length by omega), ex_BB (show p ≤ ks.length by omega)] at this

section
variable {ks : List Nat} (h : Wd ks)
include h

theorem Wd.dpos {p : Nat} (hp : p ≤ ks.length) : 0 ≤ DD ks p := by
  rw [← ex_DD hp]; exact h.bal.1.2 _ (pr_le 0 ks p hp)
theorem Wd.bpos {p : Nat} (hp : p ≤ ks.length) : 0 ≤ BB ks p := by
  rw [← ex_BB hp]; exact h.bal.2.2 _ (pr_le 1 ks p hp)
theorem Wd.dend : DD ks ks.length = 0 := by
  rw [← ex_DD (Nat.le_refl _), ← ownB_length]; exact h.bal.1.1
theorem Wd.bend : BB ks ks.length = 0 := by
  rw [← ex_BB (Nat.le_refl _), ← ownB_length]; exact h.bal.2.1

/-- A place's letter, and its mate's. -/
theorem Wd.cases {i : Nat} (hi : i < ks.length) : ∃ s, s < 2 ∧ ((ks[i]? = some (2 * s) ∧ PairW ks s i (mp ks i)) ∨ (ks[i]? = some (2 * s + 1) ∧ PairW ks s (mp ks i) i)) := by
  obtain ⟨s, hs, h1 | h1⟩ := (h.mate hi).pairW
  · exact ⟨s, hs, .inl ⟨h1.opens, h1⟩⟩
  · exact ⟨s, hs, .inr ⟨h1.closes, h1⟩⟩
end

/-! Names: the opening ones rise by two, each one's mate is the next. -/

/-- How many open ahead of a place. -/
def oc (ks : List Nat) (i : Nat) : Nat := ((ks.take i).filter fun k => k % 2 == 0).length
theorem oc_succ {ks : List Nat} {i k : Nat} (h : ks[i]? = some k) : oc ks (i + 1) = oc ks i + if k % 2 = 0 then 1 else 0 := by
  unfold oc
  rw [take_get h, List.filter_append, List.length_append]
  by_cases hk : k % 2 = 0 <;> simp [hk]
theorem oc_mono (ks : List Nat) {a c : Nat} (h : a ≤ c) : oc ks a ≤ oc ks c := by
  unfold oc
  have : ks.take c = ks.take a ++ (ks.take c).drop a := by
    conv => lhs; rw [← List.take_append_drop a (ks.take c)]
    rw [List.take_take, Nat.min_eq_left h]
  rw [this, List.filter_append, List.length_append]
  omega

noncomputable def nmD (ks : List Nat) (i : Nat) : Nat := if (ks.getD i 0) % 2 = 0 then 2 * oc ks i else 2 * oc ks (mp ks i) + 1

theorem getD_of {ks : List Nat} {i k : Nat} (h : ks[i]? = some k) : ks.getD i 0 = k := by rw [List.getD_eq_getElem?_getD, h]; rfl

section
variable {ks : List Nat} (h : Wd ks)
include h

theorem Wd.nm_mate {i : Nat} (hi : i < ks.length) : nmD ks (mp ks i) = mt (nmD ks i) := by
  obtain ⟨s, hs, ⟨h1, h2⟩ | ⟨h1, h2⟩⟩ := h.cases hi
  · have hm := getD_of h2.closes
    have hi' := getD_of h1
    unfold nmD
    rw [hm, hi', if_neg (by omega), if_pos (by omega), h.mp_mp hi]
    unfold mt; rw [if_pos (by omega)]
  · have hm := getD_of h2.opens
    have hi' := getD_of h1
    unfold nmD
    rw [hm, hi', if_pos (by omega), if_neg (by omega)]
    unfold mt; rw [if_neg (by omega)]; omega

omit h in
/-- Openers and closers are even in number: twice the openers. -/
theorem oc_dd : ∀ p, p ≤ ks.length → (∀ k ∈ ks, k < 4) → 2 * (oc ks p : Int) = p + DD ks p + BB ks p := by
  intro p hp h4
  induction p with
  | zero => simp [oc, DD_zero, BB_zero]
  | succ p ih =>
    have hk := List.getElem?_eq_getElem (l := ks) (i := p) (by omega)
    have h1 := oc_succ hk
    have h2 := DD_succ hk
    have h3 := BB_succ hk
    have h5 := h4 _ (List.mem_of_getElem? hk)
    have ih := ih (by omega)
    generalize ks[p] = k at *
    have hc : k = 0 ∨ k = 1 ∨ k = 2 ∨ k = 3 := by omega
    rcases hc with rfl | rfl | rfl | rfl <;> simp [dd, bb] at h1 h2 h3 <;> omega

theorem Wd.even : 2 * oc ks ks.length = ks.length := by
  have h1 := oc_dd (ks := ks) ks.length (Nat.le_refl _) h.k4
  rw [h.dend, h.bend] at h1
  omega

theorem Wd.nm_open_lt {i k : Nat} (hk : ks[i]? = some k) (h0 : k % 2 = 0) : 2 * oc ks i + 1 < ks.length := by
  have h1 := oc_succ hk
  rw [if_pos h0] at h1
  have h2 := oc_mono ks (show i + 1 ≤ ks.length from lt_of_get hk)
  have := h.even
  omega

theorem Wd.nm_lt {i : Nat} (hi : i < ks.length) : nmD ks i < ks.length := by
  obtain ⟨s, hs, ⟨h1, h2⟩ | ⟨h1, h2⟩⟩ := h.cases hi
  · have := h.nm_open_lt h1 (by omega)
    unfold nmD
    rw [getD_of h1, if_pos (by omega)]; omega
  · have := h.nm_open_lt h2.opens (by omega)
    unfold nmD
    rw [getD_of h1, if_neg (by omega)]; exact this

omit h in
theorem oc_inj {i j k l : Nat} (hi : ks[i]? = some k) (h0 : k % 2 = 0) (hj : ks[j]? = some l) (h1 : l % 2 = 0) (he : oc ks i = oc ks j) : i = j := by
  rcases Nat.lt_trichotomy i j with hlt | rfl | hlt
  · have h2 := oc_succ hi
    rw [if_pos h0] at h2
    have := oc_mono ks (show i + 1 ≤ j from hlt); omega
  · rfl
  · have h2 := oc_succ hj
    rw [if_pos h1] at h2
    have := oc_mono ks (show j + 1 ≤ i from hlt); omega

theorem Wd.nm_isP : IsP ks.length (nmD ks) := by
  refine ⟨fun d hd => h.nm_lt hd, fun i j hi hj he => ?_⟩
  obtain ⟨s, hs, hc⟩ := h.cases hi
  obtain ⟨t, ht, hd⟩ := h.cases hj
  unfold nmD at he
  rcases hc with ⟨h1, h2⟩ | ⟨h1, h2⟩ <;> rcases hd with ⟨g1, g2⟩ | ⟨g1, g2⟩
  · rw [getD_of h1, getD_of g1, if_pos (by omega), if_pos (by omega)] at he
    exact oc_inj h1 (by omega) g1 (by omega) (by omega)
  · rw [getD_of h1, getD_of g1, if_pos (by omega), if_neg (by omega)] at he; omega
  · rw [getD_of h1, getD_of g1, if_neg (by omega), if_pos (by omega)] at he; omega
  · rw [getD_of h1, getD_of g1, if_neg (by omega), if_neg (by omega)] at he
    have := oc_inj h2.opens (by omega) g2.opens (by omega) (by omega)
    rw [← h.mp_mp hi, this, h.mp_mp hj]
end

/-! Turns around vertices, by places. -/

/-- Which place is next around a vertex. -/
noncomputable def tn (ks : List Nat) (i : Nat) : Nat := ((if ks.getD i 0 < 2 then mp ks i else i) + 1) % ks.length

theorem succ_mod_inj {n a c : Nat} (ha : a < n) (hc : c < n) (he : (a + 1) % n = (c + 1) % n) : a = c := by
  have h1 : ∀ x, x < n → (x + 1) % n = if x + 1 = n then 0 else x + 1 := by
    intro x hx
    split
    · rename_i h; rw [h, Nat.mod_self]
    · exact Nat.mod_eq_of_lt (by omega)
  rw [h1 a ha, h1 c hc] at he
  split at he <;> split at he <;> omega

section
variable {ks : List Nat} (h : Wd ks)
include h

theorem Wd.tree_mate {i : Nat} (hi : i < ks.length) : ks.getD (mp ks i) 0 < 2 ↔ ks.getD i 0 < 2 := by
  obtain ⟨s, hs, ⟨h1, h2⟩ | ⟨h1, h2⟩⟩ := h.cases hi
  · rw [getD_of h1, getD_of h2.closes]; omega
  · rw [getD_of h1, getD_of h2.opens]; omega

theorem Wd.tn_isP : IsP ks.length (tn ks) := by
  have hstep : ∀ i, i < ks.length → (if ks.getD i 0 < 2 then mp ks i else i) < ks.length := by
    intro i hi
    split
    · exact h.mp_lt hi
    · exact hi
  refine ⟨fun d hd => Nat.mod_lt _ (by omega), fun i j hi hj he => ?_⟩
  have he := succ_mod_inj (hstep i hi) (hstep j hj) he
  by_cases a : ks.getD i 0 < 2 <;> by_cases c : ks.getD j 0 < 2
  · rw [if_pos a, if_pos c] at he
    rw [← h.mp_mp hi, he, h.mp_mp hj]
  · rw [if_pos a, if_neg c] at he
    have := (h.tree_mate hi).2 a
    rw [he] at this
    exact absurd this c
  · rw [if_neg a, if_pos c] at he
    have := (h.tree_mate hj).2 c
    rw [← he] at this
    exact absurd this a
  · rw [if_neg a, if_neg c] at he; exact he
end

/-- The map of a word. -/
noncomputable def sD (ks : List Nat) (d : Nat) : Nat := nmD ks (tn ks (invP (nmD ks) d))
noncomputable def decL (ks : List Nat) : List Nat := (List.range ks.length).map (sD ks)
theorem decL_length (ks : List Nat) : (decL ks).length = ks.length := by simp [decL]
theorem sg_decL {ks : List Nat} {d : Nat} (hd : d < ks.length) : sg (decL ks) d = sD ks d := by simp [sg, decL, hd]

theorem IsP.congr {n : Nat} {S T : Nat → Nat} (h : IsP n S) (he : ∀ d, d < n → T d = S d) : IsP n T :=
  ⟨fun d hd => by rw [he d hd]; exact h.lt d hd, fun d e hd hen heq => h.inj d e hd hen (by rw [← he d hd, ← he e hen]; exact heq)⟩

section
variable {ks : List Nat} (h : Wd ks)
include h

theorem Wd.sD_isP : IsP ks.length (sD ks) := by
  have hn := h.nm_isP
  have ht := h.tn_isP
  refine ⟨fun d hd => h.nm_lt (ht.lt _ (hn.inv_lt hd)), fun d e hd he heq => ?_⟩
  have h1 := hn.inj _ _ (ht.lt _ (hn.inv_lt hd)) (ht.lt _ (hn.inv_lt he)) heq
  have h2 := ht.inj _ _ (hn.inv_lt hd) (hn.inv_lt he) h1
  rw [← hn.inv_to hd, h2, hn.inv_to he]

theorem Wd.decL_isP : IsP (decL ks).length (sg (decL ks)) := by
  rw [decL_length]
  exact h.sD_isP.congr (fun d hd => sg_decL hd)

theorem Wd.sD_nm {i : Nat} (hi : i < ks.length) : sD ks (nmD ks i) = nmD ks (tn ks i) := by
  unfold sD
  rw [h.nm_isP.inv_of hi]

theorem Wd.even2 : ks.length % 2 = 0 := by have := h.even; omega
end

end Go.Proofs.YtipelclohcdkcaaGreat
