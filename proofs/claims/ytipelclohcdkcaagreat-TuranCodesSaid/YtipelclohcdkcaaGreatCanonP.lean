/- Plain laws of a map's own names: those that the walk gives. No program is named here. -/
import Derived.Test.YtipelclohcdkcaaGreatDecWk
namespace Go.Proofs.YtipelclohcdkcaaGreat

/-- The walk's darts: all of them, by places of a word whose brackets are the edges. -/
structure Cn (n : Nat) (S : Nat → Nat) (root : Nat) (D : Nat → Nat) (ks : List Nat) : Prop where
  wd : Wd ks
  len : ks.length = n
  dP : IsP n D
  zero : D 0 = root
  next : ∀ i, i < n → S (D i) = D (tn ks i)
  mates : ∀ i, i < n → D (mp ks i) = mt (D i)

theorem Wd.mp_sort {ks : List Nat} (h : Wd ks) {i : Nat} (hi : i < ks.length) : ks.getD (mp ks i) 0 < 2 ↔ ks.getD i 0 < 2 := by
  obtain ⟨t, ht, ⟨h1, h2⟩ | ⟨h1, h2⟩⟩ := h.cases (i := i) hi
  · have h3 := h2.closes
    rw [List.getD_eq_getElem?_getD, h3, List.getD_eq_getElem?_getD, h1, Option.getD_some, Option.getD_some]; omega
  · have h3 := h2.opens
    rw [List.getD_eq_getElem?_getD, h3, List.getD_eq_getElem?_getD, h1, Option.getD_some, Option.getD_some]; omega

theorem WkT.cn {n : Nat} {S : Nat → Nat} {root T : Nat} {D : Nat → Nat} {ks : List Nat} (k : WkT n S root T D ks) (hT : T = n) (hm : ∀ i, i < n → D (mp ks i) = mt (D i)) : Cn n S root D ks := by
  subst hT
  have hw : Wd ks := k.right.wd
  have hl := k.len
  refine ⟨hw, hl, ⟨k.lt, k.inj⟩, k.zero, fun i hi => ?_, hm⟩
  have hil : i < ks.length := by omega
  unfold tn
  rw [hl]
  by_cases h2 : ks.getD i 0 < 2
  · have hml := hw.mp_lt hil
    rw [if_pos h2, k.next _ (by omega), if_pos ((hw.mp_sort hil).2 h2), hm i hi, mt_mt]
  · rw [if_neg h2, k.next i hi, if_neg h2]

section
variable {n : Nat} {S : Nat → Nat} {root : Nat} {D : Nat → Nat} {ks : List Nat} (k : Cn n S root D ks)
include k

/-- The names, as far as j. -/
def CJ (n : Nat) (D : Nat → Nat) (ks : List Nat) (j : Nat) (zs : List Int) : Prop := ∀ i, i < n → zs[D i]? = some (if i < j ∨ mp ks i < j then (nmD ks i : Int) else -1)

theorem Cn.zeroJ : CJ n D ks 0 (List.replicate n (-1)) := fun i hi => by
  rw [if_neg (by omega), List.getElem?_replicate, if_pos (k.dP.lt i hi)]

theorem Cn.mate_lt {j : Nat} (hj : j < n) : (ks.getD j 0 % 2 = 0 ∧ j < mp ks j) ∨ (ks.getD j 0 % 2 = 1 ∧ mp ks j < j) := by
  obtain ⟨t, ht, ⟨h1, h2⟩ | ⟨h1, h2⟩⟩ := k.wd.cases (i := j) (by rw [k.len]; exact hj)
  · exact .inl ⟨by rw [getD_of h1]; omega, h2.lt⟩
  · exact .inr ⟨by rw [getD_of h1]; omega, h2.lt⟩

theorem Cn.keepJ {j : Nat} {zs : List Int} (hj : j < n) (hm : mp ks j < j) (h : CJ n D ks j zs) : CJ n D ks (j + 1) zs := fun i hi => by
  rw [h i hi]
  have hil : i < ks.length := by rw [k.len]; exact hi
  have hmm := k.wd.mp_mp hil
  congr 1
  by_cases h1 : i < j ∨ mp ks i < j
  · rw [if_pos h1, if_pos (by omega)]
  · rw [if_neg h1, if_neg]
    rintro (h2 | h2)
    · obtain rfl : i = j := by omega
      exact h1 (.inr hm)
    · have e : mp ks i = j := by omega
      rw [e] at hmm
      omega

theorem Cn.stepJ {j : Nat} {zs : List Int} (hj : j < n) (hl : zs.length = n) (hm : j < mp ks j) (h : CJ n D ks j zs) : CJ n D ks (j + 1) ((zs.set (D j) (nmD ks j : Int)).set (mt (D j)) ((nmD ks j : Int) + 1)) := fun i hi => by
  have hjl : j < ks.length := by rw [k.len]; exact hj
  have hil : i < ks.length := by rw [k.len]; exact hi
  have hml : mp ks j < n := by rw [← k.len]; exact k.wd.mp_lt hjl
  have hmm := k.wd.mp_mp hil
  have hmj := k.wd.mp_mp hjl
  have hev : ks.getD j 0 % 2 = 0 := by
    rcases k.mate_lt hj with h1 | h1
    · exact h1.1
    · omega
  have hod : ks.getD (mp ks j) 0 % 2 = 1 := by
    rcases k.mate_lt hml with h1 | h1
    · rw [hmj] at h1; omega
    · exact h1.1
  rw [← k.mates j hj, List.getElem?_set, List.length_set]
  by_cases h1 : D (mp ks j) = D i
  · have e := k.dP.inj _ _ hml hi h1
    rw [if_pos h1, if_pos (by rw [hl]; exact k.dP.lt _ hml), ← e, if_pos (.inr (by rw [hmj]; omega))]
    congr 1
    unfold nmD
    rw [if_pos hev, if_neg (by omega), hmj]
    omega
  · rw [if_neg h1, List.getElem?_set]
    by_cases h2 : D j = D i
    · have e := k.dP.inj _ _ hj hi h2
      rw [if_pos h2, if_pos (by rw [hl]; exact k.dP.lt _ hj), ← e, if_pos (.inl (by omega))]
    · rw [if_neg h2, h i hi]
      congr 1
      have h3 : ¬ i = j := fun e => h2 (by rw [e])
      have h4 : ¬ mp ks i = j := fun e => h1 (by rw [← e, hmm])
      by_cases h5 : i < j ∨ mp ks i < j
      · rw [if_pos h5, if_pos (by omega)]
      · rw [if_neg h5, if_neg (by omega)]

/-- The names as a list. -/
noncomputable def psL (n : Nat) (D : Nat → Nat) (ks : List Nat) : List Nat := (List.range n).map fun x => nmD ks (invP D x)

omit k in
theorem psL_length (n : Nat) (D : Nat → Nat) (ks : List Nat) : (psL n D ks).length = n := by simp [psL]

theorem Cn.sg_ps {i : Nat} (hi : i < n) : sg (psL n D ks) (D i) = nmD ks i := by
  have h1 := k.dP.lt i hi
  unfold sg psL
  rw [List.getD_eq_getElem?_getD, List.getElem?_map, List.getElem?_range h1]
  show nmD ks (invP D (D i)) = _
  rw [k.dP.inv_of hi]

theorem Cn.ps_all {x : Nat} (hx : x < n) : ∃ i, i < n ∧ D i = x ∧ sg (psL n D ks) x = nmD ks i :=
  ⟨invP D x, k.dP.inv_lt hx, k.dP.inv_to hx, by have := k.sg_ps (k.dP.inv_lt hx); rwa [k.dP.inv_to hx] at this⟩

theorem Cn.doneJ {zs : List Int} (hl : zs.length = n) (h : CJ n D ks n zs) : zs = nats (psL n D ks) := by
  apply List.ext_getElem?
  intro x
  rcases Nat.lt_or_ge x n with hx | hx
  · obtain ⟨i, hi, e, h1⟩ := k.ps_all hx
    have h2 := h i hi
    rw [e, if_pos (.inl hi)] at h2
    rw [h2, nats_at (by rw [psL_length]; exact hx), h1]
  · rw [List.getElem?_eq_none (by omega), List.getElem?_eq_none (by rw [nats_len, psL_length]; omega)]

theorem Cn.nm_lt {i : Nat} (hi : i < n) : nmD ks i < n := by
  have := k.wd.nm_lt (i := i) (by rw [k.len]; exact hi)
  rwa [k.len] at this

theorem Cn.ps_isP : IsP n (sg (psL n D ks)) := by
  refine ⟨fun x hx => ?_, fun x y hx hy he => ?_⟩
  · obtain ⟨i, hi, _, h1⟩ := k.ps_all hx
    rw [h1]; exact k.nm_lt hi
  · obtain ⟨i, hi, e1, h1⟩ := k.ps_all hx
    obtain ⟨j, hj, e2, h2⟩ := k.ps_all hy
    rw [h1, h2] at he
    rw [← e1, ← e2, k.wd.nm_isP.inj i j (by rw [k.len]; exact hi) (by rw [k.len]; exact hj) he]

theorem Cn.ps_mate {x : Nat} (hx : x < n) : sg (psL n D ks) (mt x) = mt (sg (psL n D ks) x) := by
  obtain ⟨i, hi, e, h1⟩ := k.ps_all hx
  have hil : i < ks.length := by rw [k.len]; exact hi
  rw [h1, ← e, ← k.mates i hi, k.sg_ps (by rw [← k.len]; exact k.wd.mp_lt hil), k.wd.nm_mate hil]

theorem Cn.ps_turn {x : Nat} (hx : x < n) : sg (decL ks) (sg (psL n D ks) x) = sg (psL n D ks) (S x) := by
  obtain ⟨i, hi, e, h1⟩ := k.ps_all hx
  have hil : i < ks.length := by rw [k.len]; exact hi
  rw [h1, k.wd.dec_nm hil, ← e, k.next i hi, k.sg_ps (by rw [← k.len]; exact k.wd.tn_isP.lt _ hil)]

theorem Cn.ps_root (hn : 0 < n) : sg (psL n D ks) root = 0 := by
  rw [← k.zero, k.sg_ps hn, k.wd.nm_zero (by rw [k.len]; exact hn)]

theorem Cn.next_even {j : Nat} (hj : j < n) (hm : j < mp ks j) : nmD ks j = 2 * oc ks j ∧ oc ks (j + 1) = oc ks j + 1 := by
  have hjl : j < ks.length := by rw [k.len]; exact hj
  have hev : ks.getD j 0 % 2 = 0 := by
    rcases k.mate_lt hj with h1 | h1
    · exact h1.1
    · omega
  refine ⟨by unfold nmD; rw [if_pos hev], ?_⟩
  have hk := List.getElem?_eq_getElem hjl
  rw [getD_of hk] at hev
  rw [oc_succ hk, if_pos hev]
theorem Cn.next_odd {j : Nat} (hj : j < n) (hm : mp ks j < j) : oc ks (j + 1) = oc ks j := by
  have hjl : j < ks.length := by rw [k.len]; exact hj
  have hev : ks.getD j 0 % 2 = 1 := by
    rcases k.mate_lt hj with h1 | h1
    · omega
    · exact h1.1
  have hk := List.getElem?_eq_getElem hjl
  rw [getD_of hk] at hev
  rw [oc_succ hk, if_neg (by omega)]; rfl
end

end Go.Proofs.YtipelclohcdkcaaGreat
