/- Joined texts. -/
import Derived.Test.YtcfdpogegngplaaGreatPzDeg
import Derived.Test.YtcfdpogegngplaaGreatPzDecWk

/- dual.Relabel: a map by other names. -/
namespace Go.Proofs.YtcfdpogegngplaaGreat
open Go.RowKit

/-- What was laid, as far as j: of each name its turn's. -/
def RlJ (P : Nat → Nat) (t : List Nat) (j : Nat) (zs : List Int) : Prop := ∀ i, i < j → zs[P i]? = some ((sg t (P i) : Nat) : Int)

theorem RlJ.step {n : Nat} {P : Nat → Nat} {t : List Nat} {j : Nat} {zs : List Int} (hP : IsP n P) (hj : j < n) (hl : zs.length = n) (h : RlJ P t j zs) : RlJ P t (j + 1) (zs.set (P j) ((sg t (P j) : Nat) : Int)) := fun i hi => by
  rw [List.getElem?_set]
  by_cases e : P j = P i
  · rw [if_pos e, if_pos (by rw [hl]; exact hP.lt _ hj), e]
  · rw [if_neg e]
    have : i ≠ j := fun x => e (by rw [x])
    exact h i (by omega)

theorem RlJ.done {n : Nat} {P : Nat → Nat} {t : List Nat} {zs : List Int} (hP : IsP n P) (ht : t.length = n) (hl : zs.length = n) (h : RlJ P t n zs) : zs = nats t := by
  apply List.ext_getElem?
  intro i
  rcases Nat.lt_or_ge i n with hi | hi
  · have h1 := h (invP P i) (hP.inv_lt hi)
    rw [hP.inv_to hi] at h1
    rw [h1, nats_at (by omega)]
  · rw [List.getElem?_eq_none (by omega), List.getElem?_eq_none (by rw [nats_len]; omega)]

end Go.Proofs.YtcfdpogegngplaaGreat

/- Plain laws of a map's own names: those that the walk gives. No program is named here. -/
namespace Go.Proofs.YtcfdpogegngplaaGreat

/-- The walk's darts: all of them, by places of a word whose brackets are the edges. -/
structure Cn (n : Nat) (S : Nat → Nat) (root : Nat) (D : Nat → Nat) (ks : List Nat) : Prop where
  wd : Wd ks
  len : ks.length = n
  dP : IsP n D
  zero : D 0 = root
  next : ∀ i, i < n → S (D i) = D (tn ks i)
  mates : ∀ i, i < n → D (mp ks i) = mt (D i)

section
variable {n : Nat} {S : Nat → Nat} {root : Nat} {D : Nat → Nat} {ks : List Nat} (k : Cn n S root D ks)
include k

/-- The names, as far as j. -/
def CJ (n : Nat) (D : Nat → Nat) (ks : List Nat) (j : Nat) (zs : List Int) : Prop := ∀ i, i < n → zs[D i]? = some (if i < j ∨ mp ks i < j then (nmD ks i : Int) else -1)

theorem Cn.mate_lt {j : Nat} (hj : j < n) : (ks.getD j 0 % 2 = 0 ∧ j < mp ks j) ∨ (ks.getD j 0 % 2 = 1 ∧ mp ks j < j) := by
  obtain ⟨t, ht, ⟨h1, h2⟩ | ⟨h1, h2⟩⟩ := k.wd.cases (i := j) (by rw [k.len]; exact hj)
  · exact .inl ⟨by rw [getD_of h1]; omega, h2.lt⟩
  · exact .inr ⟨by rw [getD_of h1]; omega, h2.lt⟩

theorem Cn.keepJ {j : Nat} {zs : List Int} (hj : j < n) (hm : mp ks j < j) (h : CJ n D ks j zs) : CJ n D ks (j + 1) zs := fun i hi => by
  rw [h i hi]
  have hil : i < ks.length := by rw [k.len]; exact hi
  have hmm := k.wd.mp_mp hil
  congr 1
  by_cases h1 : i < j ∨ mp ks i < j
  · rw [if_pos h1, if_pos (by omega)]
  · rw [if_neg h1, if_neg]
    rintro (h2 | h2)
    · obtain rfl : i = j := by omega
      exact h1 (.inr hm)
    · have e : mp ks i = j := by omega
      rw [e] at hmm
      omega

theorem Cn.stepJ {j : Nat} {zs : List Int} (hj : j < n) (hl : zs.length = n) (hm : j < mp ks j) (h : CJ n D ks j zs) : CJ n D ks (j + 1) ((zs.set (D j) (nmD ks j : Int)).set (mt (D j)) ((nmD ks j : Int) + 1)) := fun i hi => by
  have hjl : j < ks.length := by rw [k.len]; exact hj
  have hil : i < ks.length := by rw [k.len]; exact hi
  have hml : mp ks j < n := by rw [← k.len]; exact k.wd.mp_lt hjl
  have hmm := k.wd.mp_mp hil
  have hmj := k.wd.mp_mp hjl
  have hev : ks.getD j 0 % 2 = 0 := by
    rcases k.mate_lt hj with h1 | h1
    · exact h1.1
    · omega
  have hod : ks.getD (mp ks j) 0 % 2 = 1 := by
    rcases k.mate_lt hml with h1 | h1
    · rw [hmj] at h1; omega
    · exact h1.1
  rw [← k.mates j hj, List.getElem?_set, List.length_set]
  by_cases h1 : D (mp ks j) = D i
  · have e := k.dP.inj _ _ hml hi h1
    rw [if_pos h1, if_pos (by rw [hl]; exact k.dP.lt _ hml), ← e, if_pos (.inr (by rw [hmj]; omega))]
    congr 1
    unfold nmD
    rw [if_pos hev, if_neg (by omega), hmj]
    omega
  · rw [if_neg h1, List.getElem?_set]
    by_cases h2 : D j = D i
    · have e := k.dP.inj _ _ hj hi h2
      rw [if_pos h2, if_pos (by rw [hl]; exact k.dP.lt _ hj), ← e, if_pos (.inl (by omega))]
    · rw [if_neg h2, h i hi]
      congr 1
      have h3 : ¬ i = j := fun e => h2 (by rw [e])
      have h4 : ¬ mp ks i = j := fun e => h1 (by rw [← e, hmm])
      by_cases h5 : i < j ∨ mp ks i < j
      · rw [if_pos h5, if_pos (by omega)]
      · rw [if_neg h5, if_neg (by omega)]

theorem Cn.nm_lt {i : Nat} (hi : i < n) : nmD ks i < n := by
  have := k.wd.nm_lt (i := i) (by rw [k.len]; exact hi)
  rwa [k.len] at this

end

end Go.Proofs.YtcfdpogegngplaaGreat
