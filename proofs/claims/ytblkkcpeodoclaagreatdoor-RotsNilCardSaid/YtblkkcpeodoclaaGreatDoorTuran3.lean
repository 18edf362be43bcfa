/- Plain laws of words as maps: vertices as lists of places. No program is named here. -/
import Derived.Test.YtblkkcpeodoclaaGreatDoorRef8
/- Plain laws of words as maps: mates, turns, names, vertices of places. No program is named here. -/
namespace Go.Proofs.YtblkkcpeodoclaaGreatDoor

/-- A word of two balanced sorts. -/
structure Wd (ks : List Nat) : Prop where
  k4 : ∀ k ∈ ks, k < 4
  bal : MBal ks

/-- The mate of a place. -/
noncomputable def mp (ks : List Nat) (i : Nat) : Nat := open Classical in if h : ∃ m, MixMate ks i m then h.choose else i

section
variable {ks : List Nat} (h : Wd ks)
include h

theorem Wd.mate {i : Nat} (hi : i < ks.length) : MixMate ks i (mp ks i) := by
  have hex := h.bal.mate h.k4 hi
  unfold mp
  rw [dif_pos hex]
  exact hex.choose_spec

theorem Wd.mp_eq {i m : Nat} (hi : i < ks.length) (hm : MixMate ks i m) : mp ks i = m := (h.mate hi).unique hm
theorem Wd.mp_lt {i : Nat} (hi : i < ks.length) : mp ks i < ks.length := (h.mate hi).lt
theorem Wd.mp_mp {i : Nat} (hi : i < ks.length) : mp ks (mp ks i) = i := h.mp_eq (h.mp_lt hi) (h.mate hi).symm
end

/-- The pair of a sort, told of the word itself. -/
structure PairW (ks : List Nat) (s i j : Nat) : Prop where
  lt : i < j
  le : j < ks.length
  opens : ks[i]? = some (2 * s)
  closes : ks[j]? = some (2 * s + 1)
  hit : ex (ownB s ks) (pr s ks (j + 1)) = ex (ownB s ks) (pr s ks i)
  above : ∀ p, i < p → p ≤ j → ex (ownB s ks) (pr s ks i) < ex (ownB s ks) (pr s ks p)

theorem MixMate.pairW {ks : List Nat} {i m : Nat} (h : MixMate ks i m) : ∃ s, s < 2 ∧ (PairW ks s i m ∨ PairW ks s m i) := by
  obtain ⟨s, a, c, hs, h1, h2, h3⟩ := h
  have key : ∀ {i m a c : Nat}, SelAt s ks a i → SelAt s ks c m → IsPair (ownB s ks) a c → PairW ks s i m := by
    intro i m a c h1 h2 hp
    obtain ⟨x, hx, hxs, hxp⟩ := id h1
    obtain ⟨y, hy, hys, hyp⟩ := id h2
    have hb1 := (h1.own hx).2
    have hb2 := (h2.own hy).2
    have ho := hp.opens.1
    have hc := hp.closes.1
    rw [List.getD_eq_getElem?_getD, hb1, Option.getD_some] at ho
    rw [List.getD_eq_getElem?_getD, hb2, Option.getD_some] at hc
    have ho2 : x % 2 = 0 := by simpa using ho
    have hc2 : y % 2 = 1 := by
      have : ¬ y % 2 = 0 := by simpa using hc
      omega
    have him : i < m := by
      have := (h1.cmp m).1 (by rw [hyp]; exact hp.lt)
      exact this
    have hsm := pr_succ s hy
    rw [if_pos hys, hyp] at hsm
    refine ⟨him, lt_of_get hy, by rw [hx]; congr 1; omega, by rw [hy]; congr 1; omega, by rw [hsm, hxp]; exact hp.hit, fun p hp1 hp2 => ?_⟩
    rw [hxp]
    refine hp.above _ ((h1.cmp p).2 hp1) ?_
    rw [← hyp]; exact pr_mono s ks hp2
  rcases h3 with ⟨_, hp⟩ | ⟨_, hp⟩
  · exact ⟨s, hs, .inl (key h1 h2 hp)⟩
  · exact ⟨s, hs, .inr (key h2 h1 hp)⟩

/-- The pairs of the tree. -/
theorem PairW.DD {ks : List Nat} {i j : Nat} (h : PairW ks 0 i j) : DD ks (j + 1) = DD ks i ∧ ∀ p, i < p → p ≤ j → DD ks i < DD ks p := by
  have hl := h.lt
  have hj := h.le
  have h1 := h.hit
  rw [ex_DD (show j + 1 ≤ ks.length by omega), ex_DD (show i ≤ ks.length by omega)] at h1
  refine ⟨h1, fun p hp1 hp2 => ?_⟩
  have := h.above p hp1 hp2
  rwa [ex_DD (show i ≤ ks.length by omega), ex_DD (show p ≤ ks.length by omega)] at this
theorem PairW.BB {ks : List Nat} {i j : Nat} (h : PairW ks 1 i j) : BB ks (j + 1) = BB ks i ∧ ∀ p, i < p → p ≤ j → BB ks i < BB ks p := by
  have hl := h.lt
  have hj := h.le
  have h1 := h.hit
  rw [ex_BB (show j + 1 ≤ ks.length by omega), ex_BB (show i ≤ ks.length by omega)] at h1
  refine ⟨h1, fun p hp1 hp2 => ?_⟩
  have := h.above p hp1 hp2
  rwa [ex_BB (show i ≤ ks.length by omega), ex_BB (show p ≤ ks.length by omega)] at this

section
variable {ks : List Nat} (h : Wd ks)
include h

theorem Wd.dpos {p : Nat} (hp : p ≤ ks.length) : 0 ≤ DD ks p := by
  rw [← ex_DD hp]; exact h.bal.1.2 _ (pr_le 0 ks p hp)
theorem Wd.bpos {p : Nat} (hp : p ≤ ks.length) : 0 ≤ BB ks p := by
  rw [← ex_BB hp]; exact h.bal.2.2 _ (pr_le 1 ks p hp)
theorem Wd.dend : DD ks ks.length = 0 := by
  rw [← ex_DD (Nat.le_refl _), ← ownB_length]; exact h.bal.1.1
theorem Wd.bend : BB ks ks.length = 0 := by
  rw [← ex_BB (Nat.le_refl _), ← ownB_length]; exact h.bal.2.1

/-- A place's letter, and its mate's. -/
theorem Wd.cases {i : Nat} (hi : i < ks.length) : ∃ s, s < 2 ∧ ((ks[i]? = some (2 * s) ∧ PairW ks s i (mp ks i)) ∨ (ks[i]? = some (2 * s + 1) ∧ PairW ks s (mp ks i) i)) := by
  obtain ⟨s, hs, h1 | h1⟩ := (h.mate hi).pairW
  · exact ⟨s, hs, .inl ⟨h1.opens, h1⟩⟩
  · exact ⟨s, hs, .inr ⟨h1.closes, h1⟩⟩
end

/-! Names: the opening ones rise by two, each one's mate is the next. -/

/-- How many open ahead of a place. -/
def oc (ks : List Nat) (i : Nat) : Nat := ((ks.take i).filter fun k => k % 2 == 0).length
theorem oc_succ {ks : List Nat} {i k : Nat} (h : ks[i]? = some k) : oc ks (i + 1) = oc ks i + if k % 2 = 0 then 1 else 0 := by
  unfold oc
  rw [take_get h, List.filter_append, List.length_append]
  by_cases hk : k % 2 = 0 <;> simp [hk]
theorem oc_mono (ks : List Nat) {a c : Nat} (h : a ≤ c) : oc ks a ≤ oc ks c := by
  unfold oc
  have : ks.take c = ks.take a ++ (ks.take c).drop a := by
    conv => lhs; rw [← List.take_append_drop a (ks.take c)]
    rw [List.take_take, Nat.min_eq_left h]
  rw [this, List.filter_append, List.length_append]
  omega

noncomputable def nmD (ks : List Nat) (i : Nat) : Nat := if (ks.getD i 0) % 2 = 0 then 2 * oc ks i else 2 * oc ks (mp ks i) + 1

theorem getD_of {ks : List Nat} {i k : Nat} (h : ks[i]? = some k) : ks.getD i 0 = k := by rw [List.getD_eq_getElem?_getD, h]; rfl

section
variable {ks : List Nat} (h : Wd ks)
include h

theorem Wd.nm_mate {i : Nat} (hi : i < ks.length) : nmD ks (mp ks i) = mt (nmD ks i) := by
  obtain ⟨s, hs, ⟨h1, h2⟩ | ⟨h1, h2⟩⟩ := h.cases hi
  · have hm := getD_of h2.closes
    have hi' := getD_of h1
    unfold nmD
    rw [hm, hi', if_neg (by omega), if_pos (by omega), h.mp_mp hi]
    unfold mt; rw [if_pos (by omega)]
  · have hm := getD_of h2.opens
    have hi' := getD_of h1
    unfold nmD
    rw [hm, hi', if_pos (by omega), if_neg (by omega)]
    unfold mt; rw [if_neg (by omega)]; omega

omit h in
/-- Openers and closers are even in number: twice the openers. -/
theorem oc_dd : ∀ p, p ≤ ks.length → (∀ k ∈ ks, k < 4) → 2 * (oc ks p : Int) = p + DD ks p + BB ks p := by
  intro p hp h4
  induction p with
  | zero => simp [oc, DD_zero, BB_zero]
  | succ p ih =>
    have hk := List.getElem?_eq_getElem (l := ks) (i := p) (by omega)
    have h1 := oc_succ hk
    have h2 := DD_succ hk
    have h3 := BB_succ hk
    have h5 := h4 _ (List.mem_of_getElem? hk)
    have ih := ih (by omega)
    generalize ks[p] = k at *
    have hc : k = 0 ∨ k = 1 ∨ k = 2 ∨ k = 3 := by omega
    rcases hc with rfl | rfl | rfl | rfl <;> simp [dd, bb] at h1 h2 h3 <;> omega

theorem Wd.even : 2 * oc ks ks.length = ks.length := by
  have h1 := oc_dd (ks := ks) ks.length (Nat.le_refl _) h.k4
  rw [h.dend, h.bend] at h1
  omega

theorem Wd.nm_open_lt {i k : Nat} (hk : ks[i]? = some k) (h0 : k % 2 = 0) : 2 * oc ks i + 1 < ks.length := by
  have h1 := oc_succ hk
  rw [if_pos h0] at h1
  have h2 := oc_mono ks (show i + 1 ≤ ks.length from lt_of_get hk)
  have := h.even
  omega

theorem Wd.nm_lt {i : Nat} (hi : i < ks.length) : nmD ks i < ks.length := by
  obtain ⟨s, hs, ⟨h1, h2⟩ | ⟨h1, h2⟩⟩ := h.cases hi
  · have := h.nm_open_lt h1 (by omega)
    unfold nmD
    rw [getD_of h1, if_pos (by omega)]; omega
  · have := h.nm_open_lt h2.opens (by omega)
    unfold nmD
    rw [getD_of h1, if_neg (by omega)]; exact this

omit h in
theorem oc_inj {i j k l : Nat} (hi : ks[i]? = some k) (h0 : k % 2 = 0) (hj : ks[j]? = some l) (h1 : l % 2 = 0) (he : oc ks i = oc ks j) : i = j := by
  rcases Nat.lt_trichotomy i j with hlt | rfl | hlt
  · have h2 := oc_succ hi
    rw [if_pos h0] at h2
    have := oc_mono ks (show i + 1 ≤ j from hlt); omega
  · rfl
  · have h2 := oc_succ hj
    rw [if_pos h1] at h2
    have := oc_mono ks (show j + 1 ≤ i from hlt); omega

theorem Wd.nm_isP : IsP ks.length (nmD ks) := by
  refine ⟨fun d hd => h.nm_lt hd, fun i j hi hj he => ?_⟩
  obtain ⟨s, hs, hc⟩ := h.cases hi
  obtain ⟨t, ht, hd⟩ := h.cases hj
  unfold nmD at he
  rcases hc with ⟨h1, h2⟩ | ⟨h1, h2⟩ <;> rcases hd with ⟨g1, g2⟩ | ⟨g1, g2⟩
  · rw [getD_of h1, getD_of g1, if_pos (by omega), if_pos (by omega)] at he
    exact oc_inj h1 (by omega) g1 (by omega) (by omega)
  · rw [getD_of h1, getD_of g1, if_pos (by omega), if_neg (by omega)] at he; omega
  · rw [getD_of h1, getD_of g1, if_neg (by omega), if_pos (by omega)] at he; omega
  · rw [getD_of h1, getD_of g1, if_neg (by omega), if_neg (by omega)] at he
    have := oc_inj h2.opens (by omega) g2.opens (by omega) (by omega)
    rw [← h.mp_mp hi, this, h.mp_mp hj]
end

/-! Turns around vertices, by places. -/

/-- Which place is next around a vertex. -/
noncomputable def tn (ks : List Nat) (i : Nat) : Nat := ((if ks.getD i 0 < 2 then mp ks i else i) + 1) % ks.length

theorem succ_mod_inj {n a c : Nat} (ha : a < n) (hc : c < n) (he : (a + 1) % n = (c + 1) % n) : a = c := by
  have h1 : ∀ x, x < n → (x + 1) % n = if x + 1 = n then 0 else x + 1 := by
    intro x hx
    split
    · rename_i h; rw [h, Nat.mod_self]
    · exact Nat.mod_eq_of_lt (by omega)
  rw [h1 a ha, h1 c hc] at he
  split at he <;> split at he <;> omega

section
variable {ks : List Nat} (h : Wd ks)
include h

theorem Wd.tree_mate {i : Nat} (hi : i < ks.length) : ks.getD (mp ks i) 0 < 2 ↔ ks.getD i 0 < 2 := by
  obtain ⟨s, hs, ⟨h1, h2⟩ | ⟨h1, h2⟩⟩ := h.cases hi
  · rw [getD_of h1, getD_of h2.closes]; omega
  · rw [getD_of h1, getD_of h2.opens]; omega

theorem Wd.tn_isP : IsP ks.length (tn ks) := by
  have hstep : ∀ i, i < ks.length → (if ks.getD i 0 < 2 then mp ks i else i) < ks.length := by
    intro i hi
    split
    · exact h.mp_lt hi
    · exact hi
  refine ⟨fun d hd => Nat.mod_lt _ (by omega), fun i j hi hj he => ?_⟩
  have he := succ_mod_inj (hstep i hi) (hstep j hj) he
  by_cases a : ks.getD i 0 < 2 <;> by_cases c : ks.getD j 0 < 2
  · rw [if_pos a, if_pos c] at he
    rw [← h.mp_mp hi, he, h.mp_mp hj]
  · rw [if_pos a, if_neg c] at he
    have := (h.tree_mate hi).2 a
    rw [he] at this
    exact absurd this c
  · rw [if_neg a, if_pos c] at he
    have := (h.tree_mate hj).2 c
    rw [← he] at this
    exact absurd this a
  · rw [if_neg a, if_neg c] at he; exact he
end

/-- The map of a word. -/
noncomputable def sD (ks : List Nat) (d : Nat) : Nat := nmD ks (tn ks (invP (nmD ks) d))
noncomputable def decL (ks : List Nat) : List Nat := (List.range ks.length).map (sD ks)
theorem decL_length (ks : List Nat) : (decL ks).length = ks.length := by simp [decL]
theorem sg_decL {ks : List Nat} {d : Nat} (hd : d < ks.length) : sg (decL ks) d = sD ks d := by simp [sg, decL, hd]

theorem IsP.congr {n : Nat} {S T : Nat → Nat} (h : IsP n S) (he : ∀ d, d < n → T d = S d) : IsP n T :=
  ⟨fun d hd => by rw [he d hd]; exact h.lt d hd, fun d e hd hen heq => h.inj d e hd hen (by rw [← he d hd, ← he e hen]; exact heq)⟩

section
variable {ks : List Nat} (h : Wd ks)
include h

theorem Wd.sD_isP : IsP ks.length (sD ks) := by
  have hn := h.nm_isP
  have ht := h.tn_isP
  refine ⟨fun d hd => h.nm_lt (ht.lt _ (hn.inv_lt hd)), fun d e hd he heq => ?_⟩
  have h1 := hn.inj _ _ (ht.lt _ (hn.inv_lt hd)) (ht.lt _ (hn.inv_lt he)) heq
  have h2 := ht.inj _ _ (hn.inv_lt hd) (hn.inv_lt he) h1
  rw [← hn.inv_to hd, h2, hn.inv_to he]

theorem Wd.decL_isP : IsP (decL ks).length (sg (decL ks)) := by
  rw [decL_length]
  exact h.sD_isP.congr (fun d hd => sg_decL hd)

theorem Wd.sD_nm {i : Nat} (hi : i < ks.length) : sD ks (nmD ks i) = nmD ks (tn ks i) := by
  unfold sD
  rw [h.nm_isP.inv_of hi]

theorem Wd.even2 : ks.length % 2 = 0 := by have := h.even; omega
end

end Go.Proofs.YtblkkcpeodoclaaGreatDoor

/- The references of layer 12: names. -/
namespace Go.Proofs.YtblkkcpeodoclaaGreatDoor
open Go.RowKit

/-- What Names has laid. -/
def NmS (ks : List Nat) (j : Nat) (zs : List Int) : Prop := ∀ i k, i < j → ks[i]? = some k → k % 2 = 0 → zs[i]? = some ((2 * oc ks i : Nat) : Int) ∧ zs[mp ks i]? = some ((2 * oc ks i + 1 : Nat) : Int)

theorem NmS.skip {ks : List Nat} {j k : Nat} {zs : List Int} (hk : ks[j]? = some k) (h1 : k % 2 = 1) (h : NmS ks j zs) : NmS ks (j + 1) zs := by
  intro i x hi hx h0
  by_cases hij : i = j
  · subst hij; rw [hk] at hx; simp only [Option.some.injEq] at hx; omega
  · exact h i x (by omega) hx h0

theorem NmS.step {ks : List Nat} {j k : Nat} {zs : List Int} (hW : Wd ks) (hl : zs.length = ks.length) (hk : ks[j]? = some k) (h0 : k % 2 = 0) (h : NmS ks j zs) : NmS ks (j + 1) ((zs.set j ((2 * oc ks j : Nat) : Int)).set (mp ks j) ((2 * oc ks j + 1 : Nat) : Int)) := by
  have hj := lt_of_get hk
  have hm := hW.mp_lt hj
  have hjm : mp ks j ≠ j := by
    obtain ⟨s, hs, ⟨_, h2⟩ | ⟨_, h2⟩⟩ := hW.cases hj
    · have := h2.lt; omega
    · have := h2.lt; omega
  have hopen : ∀ i x, ks[i]? = some x → x % 2 = 0 → i ≠ mp ks j := by
    intro i x hx hx0 e
    subst e
    obtain ⟨s, hs, ⟨h1, h2⟩ | ⟨h1, h2⟩⟩ := hW.cases hj
    · rw [h2.closes] at hx; simp only [Option.some.injEq] at hx; omega
    · rw [h1] at hk; simp only [Option.some.injEq] at hk; omega
  intro i x hi hx hx0
  have hin := lt_of_get hx
  have hmi := hW.mp_lt hin
  by_cases hij : i = j
  · subst hij
    constructor
    · rw [List.getElem?_set, if_neg hjm, List.getElem?_set, if_pos rfl, if_pos (by omega)]
    · rw [List.getElem?_set, if_pos rfl, if_pos (by simp; omega)]
  · obtain ⟨g1, g2⟩ := h i x (by omega) hx hx0
    have e1 := hopen i x hx hx0
    have e2 : mp ks i ≠ j := fun e => by
      have := hopen j k hk h0
      have h3 := hW.mp_mp hin
      rw [e] at h3
      exact e1 h3.symm
    have e3 : mp ks i ≠ mp ks j := fun e => hij (by rw [← hW.mp_mp hin, e, hW.mp_mp hj])
    constructor
    · rw [List.getElem?_set, if_neg (fun e => e1 e.symm), List.getElem?_set, if_neg (fun e => hij e.symm)]; exact g1
    · rw [List.getElem?_set, if_neg (fun e => e3 e.symm), List.getElem?_set, if_neg (fun e => e2 e.symm)]; exact g2

theorem NmS.all {ks : List Nat} {zs : List Int} (hW : Wd ks) (hl : zs.length = ks.length) (h : NmS ks ks.length zs) : zs = nats ((List.range ks.length).map (nmD ks)) := by
  apply List.ext_getElem?
  intro e
  rcases Nat.lt_or_ge e ks.length with he | he
  · have hr : (nats ((List.range ks.length).map (nmD ks)))[e]? = some ((nmD ks e : Nat) : Int) := by simp [nats, he]
    rw [hr]
    obtain ⟨s, hs, ⟨h1, h2⟩ | ⟨h1, h2⟩⟩ := hW.cases he
    · rw [(h e _ he h1 (by omega)).1]
      unfold nmD
      rw [getD_of h1, if_pos (by omega)]
    · have := (h (mp ks e) _ (hW.mp_lt he) h2.opens (by omega)).2
      rw [hW.mp_mp he] at this
      rw [this]
      unfold nmD
      rw [getD_of h1, if_neg (by omega)]
  · rw [List.getElem?_eq_none (by omega), List.getElem?_eq_none (by simp [nats]; exact he)]

end Go.Proofs.YtblkkcpeodoclaaGreatDoor

/- Plain laws of words as maps: the vertex of a place, what is next around it. No program is named here. -/
namespace Go.Proofs.YtblkkcpeodoclaaGreatDoor

/-- The round ones that are open at a place, the innermost last. -/
def stk (ks : List Nat) : Nat → List Nat
  | 0 => []
  | j + 1 => if ks.getD j 9 = 0 then stk ks j ++ [j] else if ks.getD j 9 = 1 then (stk ks j).dropLast else stk ks j

/-- The name of the vertex that is come to at a place. -/
def vo (ks : List Nat) (o : Nat) : Nat := cntK (ks.take o) 0 + 1

theorem getD9 {ks : List Nat} {j k : Nat} (h : ks[j]? = some k) : ks.getD j 9 = k := by rw [List.getD_eq_getElem?_getD, h]; rfl

theorem getElem?_dropLast' {l : List Nat} {t x : Nat} (h : l.dropLast[t]? = some x) : l[t]? = some x ∧ t + 1 < l.length := by
  have ht := lt_of_get h
  rw [List.length_dropLast] at ht
  rw [List.getElem?_dropLast] at h
  by_cases hc : t < l.length - 1
  · rw [if_pos hc] at h; exact ⟨h, by omega⟩
  · rw [if_neg hc] at h; cases h

section
variable {ks : List Nat} (h : Wd ks)
include h

theorem Wd.stk_spec : ∀ j, j ≤ ks.length → ((stk ks j).length : Int) = DD ks j ∧ ∀ (t o : Nat), (stk ks j)[t]? = some o → o < j ∧ ks[o]? = some 0 ∧ DD ks o = (t : Int) ∧ ∀ p, o < p → p ≤ j → (t : Int) < DD ks p := by
  intro j
  induction j with
  | zero => intro _; exact ⟨by simp [stk, DD_zero], fun t o ho => by simp [stk] at ho⟩
  | succ j ih =>
    intro hj
    obtain ⟨h1, h2⟩ := ih (by omega)
    have hk := List.getElem?_eq_getElem (l := ks) (i := j) (by omega)
    have hd := DD_succ hk
    have hg := getD9 hk
    have hpos := h.dpos hj
    generalize ks[j] = k at *
    unfold stk
    rw [hg]
    by_cases k0 : k = 0
    · subst k0
      simp only [dd, if_true] at hd
      rw [if_pos rfl]
      refine ⟨by rw [List.length_append, List.length_singleton]; omega, fun t o ho => ?_⟩
      rcases snoc_get ho with ho | ⟨rfl, rfl⟩
      · obtain ⟨g1, g2, g3, g4⟩ := h2 t o ho
        have := lt_of_get ho
        refine ⟨by omega, g2, g3, fun p hp1 hp2 => ?_⟩
        rcases Nat.lt_or_ge p (j + 1) with hlt | hge
        · exact g4 p hp1 (by omega)
        · obtain rfl : p = j + 1 := by omega
          omega
      · refine ⟨by omega, hk, h1.symm, fun p hp1 hp2 => ?_⟩
        obtain rfl : p = o + 1 := by omega
        omega
    · rw [if_neg k0]
      by_cases k1 : k = 1
      · subst k1
        simp [dd] at hd
        rw [if_pos rfl]
        have hl : 0 < (stk ks j).length := by omega
        refine ⟨by rw [List.length_dropLast]; omega, fun t o ho => ?_⟩
        obtain ⟨ho, ht⟩ := getElem?_dropLast' ho
        obtain ⟨g1, g2, g3, g4⟩ := h2 t o ho
        refine ⟨by omega, g2, g3, fun p hp1 hp2 => ?_⟩
        rcases Nat.lt_or_ge p (j + 1) with hlt | hge
        · exact g4 p hp1 (by omega)
        · obtain rfl : p = j + 1 := by omega
          omega
      · rw [if_neg k1]
        have hd0 : dd k = 0 := by simp [dd, k0, k1]
        rw [hd0] at hd
        refine ⟨by omega, fun t o ho => ?_⟩
        obtain ⟨g1, g2, g3, g4⟩ := h2 t o ho
        have := lt_of_get ho
        refine ⟨by omega, g2, g3, fun p hp1 hp2 => ?_⟩
        rcases Nat.lt_or_ge p (j + 1) with hlt | hge
        · exact g4 p hp1 (by omega)
        · obtain rfl : p = j + 1 := by omega
          omega

/-- The innermost one is the owner. -/
theorem Wd.stk_last {j : Nat} (hj : j ≤ ks.length) (hne : 0 < DD ks j) : ∃ o, (stk ks j).getLast? = some o ∧ OwnAt ks j o := by
  obtain ⟨h1, h2⟩ := h.stk_spec j hj
  have hl : 0 < (stk ks j).length := by omega
  have hg := List.getElem?_eq_getElem (l := stk ks j) (i := (stk ks j).length - 1) (by omega)
  obtain ⟨g1, g2, g3, g4⟩ := h2 _ _ hg
  refine ⟨_, by rw [List.getLast?_eq_getElem?]; exact hg, g1, g2, by omega, fun p hp1 hp2 => by have := g4 p hp1 hp2; omega⟩
end

/-- The vertex of a place. -/
def vx (ks : List Nat) (j : Nat) : Nat := match (stk ks j).getLast? with
  | some o => vo ks o
  | none => 0

theorem cnt0_succ {ks : List Nat} {i : Nat} (h : ks[i]? = some 0) : cntK (ks.take (i + 1)) 0 = cntK (ks.take i) 0 + 1 := by
  rw [cntK_get h 0, if_pos rfl]

theorem vo_inj {ks : List Nat} {o q : Nat} (ho : ks[o]? = some 0) (hq : ks[q]? = some 0) (he : vo ks o = vo ks q) : o = q := by
  unfold vo at he
  rcases Nat.lt_trichotomy o q with hlt | rfl | hlt
  · have h1 := cnt0_succ ho
    have h2 := cntK_mono ks 0 (show o + 1 ≤ q from hlt)
    omega
  · rfl
  · have h1 := cnt0_succ hq
    have h2 := cntK_mono ks 0 (show q + 1 ≤ o from hlt)
    omega

section
variable {ks : List Nat} (h : Wd ks)
include h

theorem Wd.vx_own {j o : Nat} (hj : j ≤ ks.length) (ho : OwnAt ks j o) : vx ks j = vo ks o := by
  have hd := h.dpos (p := o) (by have := ho.lt; omega)
  obtain ⟨q, hq, hq2⟩ := h.stk_last hj (by have := ho.hit; omega)
  unfold vx
  rw [hq, ho.unique hq2]

theorem Wd.vx_none {j : Nat} (hj : j ≤ ks.length) (h0 : DD ks j = 0) : vx ks j = 0 := by
  have := (h.stk_spec j hj).1
  have : stk ks j = [] := List.eq_nil_of_length_eq_zero (by omega)
  unfold vx
  rw [this]; rfl

theorem Wd.own_or {j : Nat} (hj : j ≤ ks.length) : DD ks j = 0 ∨ ∃ o, OwnAt ks j o := by
  have := h.dpos hj
  by_cases h0 : DD ks j = 0
  · exact .inl h0
  · obtain ⟨o, _, ho⟩ := h.stk_last hj (by omega)
    exact .inr ⟨o, ho⟩

/-- Two places are at one vertex just if they have one owner. -/
theorem Wd.vx_iff {i j : Nat} (hi : i ≤ ks.length) (hj : j ≤ ks.length) : vx ks i = vx ks j ↔ (DD ks i = 0 ∧ DD ks j = 0) ∨ ∃ o, OwnAt ks i o ∧ OwnAt ks j o := by
  constructor
  · intro he
    rcases h.own_or hi with h1 | ⟨o, ho⟩ <;> rcases h.own_or hj with h2 | ⟨q, hq⟩
    · exact .inl ⟨h1, h2⟩
    · rw [h.vx_none hi h1, h.vx_own hj hq] at he; unfold vo at he; omega
    · rw [h.vx_own hi ho, h.vx_none hj h2] at he; unfold vo at he; omega
    · rw [h.vx_own hi ho, h.vx_own hj hq] at he
      have := vo_inj ho.opens hq.opens he
      subst this
      exact .inr ⟨o, ho, hq⟩
  · rintro (⟨h1, h2⟩ | ⟨o, h1, h2⟩)
    · rw [h.vx_none hi h1, h.vx_none hj h2]
    · rw [h.vx_own hi h1, h.vx_own hj h2]

/-- At one depth, with nothing less deep between, there is one owner. -/
theorem Wd.vx_level {i j : Nat} (hij : i ≤ j) (hj : j ≤ ks.length) (hd : DD ks i = DD ks j) (hab : ∀ p, i ≤ p → p ≤ j → DD ks i ≤ DD ks p) : vx ks i = vx ks j := by
  rw [h.vx_iff (by omega) hj]
  rcases h.own_or (show i ≤ ks.length by omega) with h1 | ⟨o, ho⟩
  · exact .inl ⟨h1, by omega⟩
  · refine .inr ⟨o, ho, by have := ho.lt; omega, ho.opens, by have := ho.hit; omega, fun p hp1 hp2 => ?_⟩
    rcases Nat.lt_or_ge i p with hlt | hge
    · have := hab p (by omega) hp2; have := ho.hit; omega
    · exact ho.above p hp1 (by omega)

/-- Deeper places are at other vertices. -/
theorem Wd.vx_deep {i p : Nat} (hip : i < p) (hp : p ≤ ks.length) (hab : ∀ q, i < q → q ≤ p → DD ks i < DD ks q) : vx ks p ≠ vx ks i := by
  intro he
  rw [h.vx_iff hp (by omega)] at he
  have h1 := hab p hip (Nat.le_refl _)
  rcases he with ⟨h2, h3⟩ | ⟨o, h2, h3⟩
  · omega
  · have := h2.hit; have := h3.hit; omega

/-- A vertex that has been left isn't come to again. -/
theorem Wd.vx_left {i o p : Nat} (ho : OwnAt ks i o) (hi : ks[i]? = some 1) (hip : i < p) (hp : p ≤ ks.length) : vx ks p ≠ vx ks i := by
  intro he
  have hil := lt_of_get hi
  rw [h.vx_iff hp (by omega)] at he
  have hd := DD_succ hi
  simp [dd] at hd
  have := ho.hit
  have := h.dpos (p := o) (by have := ho.lt; omega)
  rcases he with ⟨_, h3⟩ | ⟨q, h2, h3⟩
  · omega
  · have := ho.unique h3
    subst this
    have := h2.above (i + 1) (by have := ho.lt; omega) (by omega)
    omega

/-- What is next around a vertex: the next place of it, or, behind its last one, its first. -/
theorem Wd.tn_next {i : Nat} (hi : i < ks.length) : tn ks i < ks.length ∧ vx ks (tn ks i) = vx ks i ∧
    ((i < tn ks i ∧ ∀ p, i < p → p < tn ks i → vx ks p ≠ vx ks i) ∨ ((∀ p, i < p → p < ks.length → vx ks p ≠ vx ks i) ∧ tn ks i ≤ i ∧ ∀ p, p < tn ks i → vx ks p ≠ vx ks i)) := by
  have hend := h.dend
  -- where one comes round
  have wrap : ∀ m, m + 1 = ks.length → i ≤ m → DD ks i = 0 → (∀ p, i < p → p < ks.length → vx ks p ≠ vx ks i) → tn ks i = (m + 1) % ks.length →
      tn ks i < ks.length ∧ vx ks (tn ks i) = vx ks i ∧ ((i < tn ks i ∧ ∀ p, i < p → p < tn ks i → vx ks p ≠ vx ks i) ∨ ((∀ p, i < p → p < ks.length → vx ks p ≠ vx ks i) ∧ tn ks i ≤ i ∧ ∀ p, p < tn ks i → vx ks p ≠ vx ks i)) := by
    intro m hm him hd hall ht
    rw [hm, Nat.mod_self] at ht
    rw [ht]
    refine ⟨by omega, ?_, .inr ⟨hall, by omega, fun p hp => by omega⟩⟩
    rw [h.vx_none (by omega) (DD_zero _), h.vx_none (by omega) hd]
  obtain ⟨s, hs, hc⟩ := h.cases hi
  by_cases h2 : s = 0
  · subst h2
    rcases hc with ⟨h1, hp⟩ | ⟨h1, hp⟩
    · -- it opens
      obtain ⟨d1, d2⟩ := hp.DD
      have hm := hp.le
      have ht : tn ks i = (mp ks i + 1) % ks.length := by unfold tn; rw [getD_of h1, if_pos (by omega)]
      have hdeep : ∀ p, i < p → p ≤ mp ks i → vx ks p ≠ vx ks i := fun p hp1 hp2 => h.vx_deep hp1 (by omega) (fun q hq1 hq2 => d2 q hq1 (by omega))
      rcases Nat.lt_or_ge (mp ks i + 1) ks.length with hlt | hge
      · rw [ht, Nat.mod_eq_of_lt hlt]
        refine ⟨hlt, ?_, .inl ⟨by have := hp.lt; omega, fun p hp1 hp2 => hdeep p hp1 (by omega)⟩⟩
        refine (h.vx_level (by have := hp.lt; omega) (by omega) d1.symm (fun p hp1 hp2 => ?_)).symm
        rcases Nat.lt_or_ge i p with hlt2 | hge2
        · rcases Nat.lt_or_ge p (mp ks i + 1) with h3 | h3
          · have := d2 p hlt2 (by omega); omega
          · obtain rfl : p = mp ks i + 1 := by omega
            omega
        · obtain rfl : p = i := by omega
          exact Int.le_refl _
      · have hml : mp ks i + 1 = ks.length := by omega
        refine wrap (mp ks i) hml (by have := hp.lt; omega) ?_ (fun p hp1 hp2 => hdeep p hp1 (by omega)) ht
        rw [hml] at d1; omega
    · -- it closes
      obtain ⟨d1, d2⟩ := hp.DD
      have hlt := hp.lt
      have ht : tn ks i = mp ks i + 1 := by
        unfold tn; rw [getD_of h1, if_pos (by omega), Nat.mod_eq_of_lt (by omega)]
      have hsi := DD_succ h1
      simp [dd] at hsi
      have hso := DD_succ hp.opens
      simp [dd] at hso
      have ho : OwnAt ks i (mp ks i) := ⟨hlt, hp.opens, by omega, fun p hp1 hp2 => d2 p hp1 hp2⟩
      rw [ht]
      refine ⟨by omega, ?_, .inr ⟨fun p hp1 hp2 => h.vx_left ho (by simpa using h1) hp1 (by omega), by omega, fun p hp2 he => ?_⟩⟩
      · refine h.vx_level (by omega) (by omega) (by omega) (fun p hp1 hp2 => ?_)
        have := d2 p (by omega) hp2; omega
      · rw [h.vx_iff (by omega) (by omega)] at he
        rcases he with ⟨_, h3⟩ | ⟨q, h2, h3⟩
        · have := ho.hit; have := h.dpos (p := mp ks i) (by omega); omega
        · have := h3.unique ho
          subst this
          have := h2.lt; omega
  · -- an edgy one
    have hge2 : ¬ ks.getD i 0 < 2 := by
      rcases hc with ⟨h1, _⟩ | ⟨h1, _⟩ <;> rw [getD_of h1] <;> omega
    have ht : tn ks i = (i + 1) % ks.length := by unfold tn; rw [if_neg hge2]
    have hd : DD ks (i + 1) = DD ks i := by
      obtain rfl : s = 1 := by omega
      rcases hc with ⟨h1, _⟩ | ⟨h1, _⟩
      · have := DD_succ h1; rw [this]; simp [dd]
      · have := DD_succ h1; rw [this]; simp [dd]
    rcases Nat.lt_or_ge (i + 1) ks.length with hlt | hge
    · rw [ht, Nat.mod_eq_of_lt hlt]
      refine ⟨hlt, (h.vx_level (by omega) (by omega) hd.symm (fun p hp1 hp2 => ?_)).symm, .inl ⟨by omega, fun p hp1 hp2 => by omega⟩⟩
      rcases Nat.lt_or_ge i p with h3 | h3
      · obtain rfl : p = i + 1 := by omega
        omega
      · obtain rfl : p = i := by omega
        exact Int.le_refl _
    · have hml : i + 1 = ks.length := by omega
      refine wrap i hml (by omega) ?_ (fun p hp1 hp2 => by omega) ht
      rw [hml, hend] at hd; omega
end

end Go.Proofs.YtblkkcpeodoclaaGreatDoor

namespace Go.Proofs.YtblkkcpeodoclaaGreatDoor

/-- The places of a vertex, ahead of a place. -/
def plj (ks : List Nat) (j v : Nat) : List Nat := (List.range j).filter fun p => vx ks p == v
/-- The places of a vertex. -/
def pl (ks : List Nat) (v : Nat) : List Nat := plj ks ks.length v

theorem plj_succ (ks : List Nat) (j v : Nat) : plj ks (j + 1) v = plj ks j v ++ if vx ks j = v then [j] else [] := by
  unfold plj
  rw [List.range_succ, List.filter_append]
  congr 1
  by_cases hv : vx ks j = v <;> simp [hv]

theorem mem_pl {ks : List Nat} {v p : Nat} : p ∈ pl ks v ↔ p < ks.length ∧ vx ks p = v := by
  unfold pl plj
  simp [List.mem_filter]

theorem pl_sorted (ks : List Nat) (v : Nat) : (pl ks v).Pairwise (· < ·) := List.Pairwise.filter _ (List.pairwise_lt_range)

theorem pl_lt {ks : List Nat} {v i j a c : Nat} (hi : (pl ks v)[i]? = some a) (hj : (pl ks v)[j]? = some c) : i < j ↔ a < c := by
  have h1 := lt_of_get hi
  have h2 := lt_of_get hj
  rw [List.getElem?_eq_getElem h1] at hi
  rw [List.getElem?_eq_getElem h2] at hj
  simp only [Option.some.injEq] at hi hj
  have hs := List.pairwise_iff_getElem.1 (pl_sorted ks v)
  subst hi
  subst hj
  constructor
  · intro h; exact hs i j h1 h2 h
  · intro h
    rcases Nat.lt_trichotomy i j with h3 | rfl | h3
    · exact h3
    · omega
    · have := hs j i h2 h1 h3; omega

section
variable {ks : List Nat} (h : Wd ks)
include h

/-- What is next in a vertex's list, around its end. -/
theorem Wd.pl_next {v i p : Nat} (hp : (pl ks v)[i]? = some p) : (i + 1 < (pl ks v).length → (pl ks v)[i + 1]? = some (tn ks p)) ∧ (¬ i + 1 < (pl ks v).length → (pl ks v)[0]? = some (tn ks p)) := by
  obtain ⟨hpn, hpv⟩ := mem_pl.1 (List.mem_of_getElem? hp)
  obtain ⟨ht, htv, hc⟩ := h.tn_next hpn
  have htm : tn ks p ∈ pl ks v := mem_pl.2 ⟨ht, htv.trans hpv⟩
  obtain ⟨k, hk, hke⟩ := List.mem_iff_getElem.1 htm
  have hkt : (pl ks v)[k]? = some (tn ks p) := by rw [List.getElem?_eq_getElem hk, hke]
  have hil := lt_of_get hp
  constructor
  · intro hlt
    have hn := List.getElem?_eq_getElem hlt
    generalize (pl ks v)[i + 1] = q at *
    obtain ⟨hqn, hqv⟩ := mem_pl.1 (List.mem_of_getElem? hn)
    have h1 := (pl_lt hp hn).1 (by omega)
    rcases hc with ⟨h2, h3⟩ | ⟨h2, _⟩
    · have h4 := (pl_lt hp hkt).2 h2
      rw [hn]
      congr 1
      rcases Nat.lt_trichotomy q (tn ks p) with h5 | h5 | h5
      · exact absurd (hqv.trans hpv.symm) (h3 q h1 h5)
      · exact h5
      · have := (pl_lt hkt hn).2 h5; omega
    · exact absurd (hqv.trans hpv.symm) (h2 q h1 hqn)
  · intro hge
    have hn := List.getElem?_eq_getElem (l := pl ks v) (i := 0) (by omega)
    generalize (pl ks v)[0] = q at *
    obtain ⟨hqn, hqv⟩ := mem_pl.1 (List.mem_of_getElem? hn)
    rcases hc with ⟨h2, h3⟩ | ⟨h2, h3, h4⟩
    · have := (pl_lt hp hkt).2 h2; omega
    · rw [hn]
      congr 1
      rcases Nat.lt_trichotomy q (tn ks p) with h5 | h5 | h5
      · exact absurd (hqv.trans hpv.symm) (h4 q h5)
      · exact h5
      · have := (pl_lt hkt hn).2 h5; omega

/-- There are so many vertices. -/
theorem Wd.vx_lt {j p : Nat} (hj : p ≤ j) (hjn : j ≤ ks.length) : vx ks p < cntK (ks.take j) 0 + 1 := by
  rcases h.own_or (show p ≤ ks.length by omega) with h1 | ⟨o, ho⟩
  · rw [h.vx_none (by omega) h1]; omega
  · rw [h.vx_own (by omega) ho]
    have h1 := cnt0_succ ho.opens
    have h2 := cntK_mono ks 0 (show o + 1 ≤ j by have := ho.lt; omega)
    unfold vo; omega

omit h in
theorem stk_top (j : Nat) : ((0 :: (stk ks j).map (vo ks)).getLast?) = some (vx ks j) := by
  unfold vx
  rw [List.getLast?_cons, List.getLast?_map]
  cases hl : (stk ks j).getLast? <;> simp
end

/-- The lists of names, by vertices, when the first j places have been read. -/
noncomputable def lsj (ks : List Nat) (j : Nat) : List (List Nat) := (List.range (cntK (ks.take j) 0 + 1)).map fun v => (plj ks j v).map (nmD ks)

theorem lsj_length (ks : List Nat) (j : Nat) : (lsj ks j).length = cntK (ks.take j) 0 + 1 := by simp [lsj]
theorem lsj_get {ks : List Nat} {j v : Nat} (hv : v < cntK (ks.take j) 0 + 1) : (lsj ks j)[v]? = some ((plj ks j v).map (nmD ks)) := by simp [lsj, hv]

section
variable {ks : List Nat} (h : Wd ks)
include h

/-- One more place: its name comes to its vertex's list; a new vertex has none yet. -/
theorem Wd.lsj_step {j k : Nat} (hk : ks[j]? = some k) : lsj ks (j + 1) = (lsj ks j).set (vx ks j) ((plj ks j (vx ks j)).map (nmD ks) ++ [nmD ks j]) ++ if k = 0 then [[]] else [] := by
  have hj := lt_of_get hk
  have hv := h.vx_lt (Nat.le_refl j) (by omega)
  have hc : cntK (ks.take (j + 1)) 0 = cntK (ks.take j) 0 + if k = 0 then 1 else 0 := cntK_get hk 0
  apply List.ext_getElem?
  intro v
  have hnew : ∀ v, v = cntK (ks.take j) 0 + 1 → plj ks (j + 1) v = [] := by
    intro v hv2
    apply List.filter_eq_nil_iff.2
    intro p hp
    have hp := List.mem_range.1 hp
    have := h.vx_lt (show p ≤ j by omega) (show j ≤ ks.length by omega)
    simp; omega
  rcases Nat.lt_or_ge v (cntK (ks.take j) 0 + 1) with hlt | hge
  · rw [List.getElem?_append_left (by simp [lsj_length]; exact hlt), lsj_get (by omega), plj_succ]
    rw [List.getElem?_set]
    by_cases hvv : vx ks j = v
    · subst hvv
      rw [if_pos rfl, if_pos rfl, if_pos (by rw [lsj_length]; exact hlt)]
      simp
    · rw [if_neg hvv, if_neg hvv, lsj_get hlt]
      simp
  · rw [List.getElem?_append_right (by simp [lsj_length]; exact hge)]
    simp only [List.length_set, lsj_length]
    by_cases hk0 : k = 0
    · rw [if_pos hk0] at hc
      rw [if_pos hk0]
      rcases Nat.lt_or_ge v (cntK (ks.take j) 0 + 2) with h2 | h2
      · have hve : v = cntK (ks.take j) 0 + 1 := by omega
        rw [lsj_get (by omega), hnew v hve, hve, Nat.sub_self]
        rfl
      · rw [List.getElem?_eq_none (by rw [lsj_length]; omega), List.getElem?_eq_none (by simp; omega)]
    · rw [if_neg hk0] at hc
      rw [if_neg hk0, List.getElem?_eq_none (by rw [lsj_length]; omega)]
      simp

end
end Go.Proofs.YtblkkcpeodoclaaGreatDoor
