/- Plain laws of words that are joined. No program is named here. -/
import Derived.Test.YtipelclohcdkcaaGreatCount
namespace Go.Proofs.YtipelclohcdkcaaGreat

theorem cntK_app (a b : List Nat) (k : Nat) : cntK (a ++ b) k = cntK a k + cntK b k := by
  unfold cntK; rw [List.filter_append, List.length_append]
theorem DD_appl {a b : List Nat} {p : Nat} (hp : p ≤ a.length) : DD (a ++ b) p = DD a p := by
  unfold DD; rw [List.take_append_of_le_length hp]
theorem BB_appl {a b : List Nat} {p : Nat} (hp : p ≤ a.length) : BB (a ++ b) p = BB a p := by
  unfold BB; rw [List.take_append_of_le_length hp]
theorem DD_appr {a b : List Nat} {q : Nat} : DD (a ++ b) (a.length + q) = DD a a.length + DD b q := by
  unfold DD; rw [List.take_length_add_append, cntK_app, cntK_app, List.take_length]; omega
theorem BB_appr {a b : List Nat} {q : Nat} : BB (a ++ b) (a.length + q) = BB a a.length + BB b q := by
  unfold BB; rw [List.take_length_add_append, cntK_app, cntK_app, List.take_length]; omega

/-- Two right words, one behind the other. -/
theorem WRight.app {a b : List Nat} (ha : WRight a) (hb : WRight b) : WRight (a ++ b) := by
  have h1 := ha.dend
  have h2 := ha.bend
  refine { k4 := ?_, dpos := ?_, bpos := ?_, right := ?_, dend := ?_, bend := ?_ }
  · intro k hk
    rcases List.mem_append.1 hk with h | h
    · exact ha.k4 k h
    · exact hb.k4 k h
  · intro p hp
    rw [List.length_append] at hp
    rcases Nat.le_total p a.length with h | h
    · rw [DD_appl h]; exact ha.dpos p h
    · obtain ⟨q, rfl⟩ := Nat.exists_eq_add_of_le h
      rw [DD_appr, h1]; have := hb.dpos q (by omega); omega
  · intro p hp
    rw [List.length_append] at hp
    rcases Nat.le_total p a.length with h | h
    · rw [BB_appl h]; exact ha.bpos p h
    · obtain ⟨q, rfl⟩ := Nat.exists_eq_add_of_le h
      rw [BB_appr, h2]; have := hb.bpos q (by omega); omega
  · intro i hi o ho
    rcases Nat.lt_or_ge i a.length with h | h
    · have hlt := ho.lt
      rw [List.getElem?_append_left h] at hi
      have hoa : OwnAt a i o := by
        obtain ⟨q1, q2, q3, q4⟩ := ho
        rw [List.getElem?_append_left (by omega)] at q2
        rw [DD_appl (by omega), DD_appl (by omega)] at q3
        refine ⟨q1, q2, q3, fun p hp1 hp2 => ?_⟩
        have := q4 p hp1 hp2
        rwa [DD_appl (by omega), DD_appl (by omega)] at this
      rw [BB_appl (by omega), BB_appl (by omega)]
      exact ha.right i hi o hoa
    · obtain ⟨j, rfl⟩ := Nat.exists_eq_add_of_le h
      rw [List.getElem?_append_right (by omega), Nat.add_sub_cancel_left] at hi
      have hjl := lt_of_get hi
      obtain ⟨q1, q2, q3, q4⟩ := ho
      rcases Nat.lt_or_ge o a.length with h5 | h5
      · exfalso
        have := q4 a.length h5 (by omega)
        rw [DD_appl (by omega), DD_appl (Nat.le_refl _), h1] at this
        have := ha.dpos o (by omega)
        omega
      · obtain ⟨u, rfl⟩ := Nat.exists_eq_add_of_le h5
        rw [List.getElem?_append_right (by omega), Nat.add_sub_cancel_left] at q2
        rw [DD_appr, DD_appr] at q3
        have hob : OwnAt b j u := ⟨by omega, q2, by omega, fun p hp1 hp2 => by
          have := q4 (a.length + p) (by omega) (by omega)
          rw [DD_appr, DD_appr] at this
          omega⟩
        have := hb.right j hi u hob
        rw [show a.length + u + 1 = a.length + (u + 1) by omega, BB_appr, BB_appr]
        omega
  · rw [List.length_append, DD_appr, h1, hb.dend]; rfl
  · rw [List.length_append, BB_appr, h2, hb.bend]; rfl

theorem DD_one {a : List Nat} (ha : DD a a.length = 0) : DD (0 :: (a ++ [1])) (a.length + 2) = 0 := by
  rw [DD_cons, show a.length + 1 = a.length + 1 from rfl, DD_appr, ha]; rfl
theorem BB_one {a : List Nat} (ha : BB a a.length = 0) : BB (0 :: (a ++ [1])) (a.length + 2) = 0 := by
  rw [BB_cons, BB_appr, ha]; rfl
theorem DD_in {a : List Nat} {p : Nat} (hp : p ≤ a.length) : DD (0 :: (a ++ [1])) (p + 1) = 1 + DD a p := by
  rw [DD_cons, DD_appl hp]; rfl
theorem BB_in {a : List Nat} {p : Nat} (hp : p ≤ a.length) : BB (0 :: (a ++ [1])) (p + 1) = BB a p := by
  rw [BB_cons, BB_appl hp]
  have : bb 0 = 0 := rfl
  omega

/-- A right word within a pair of the tree's. -/
theorem WRight.wrap {a : List Nat} (ha : WRight a) : WRight (0 :: (a ++ [1])) := by
  have h1 := ha.dend
  have h2 := ha.bend
  have hl : (0 :: (a ++ [1])).length = a.length + 2 := by simp
  refine { k4 := ?_, dpos := ?_, bpos := ?_, right := ?_, dend := ?_, bend := ?_ }
  · intro k hk
    rcases List.mem_cons.1 hk with h | h
    · omega
    · rcases List.mem_append.1 h with h | h
      · exact ha.k4 k h
      · simp at h; omega
  · intro p hp
    rw [hl] at hp
    rcases p with _ | p
    · rw [DD_zero]; omega
    · rcases Nat.lt_or_ge p (a.length + 1) with h | h
      · rw [DD_in (by omega)]; have := ha.dpos p (by omega); omega
      · obtain rfl : p = a.length + 1 := by omega
        rw [DD_one h1]; omega
  · intro p hp
    rw [hl] at hp
    rcases p with _ | p
    · rw [BB_zero]; omega
    · rcases Nat.lt_or_ge p (a.length + 1) with h | h
      · rw [BB_in (by omega)]; exact ha.bpos p (by omega)
      · obtain rfl : p = a.length + 1 := by omega
        rw [BB_one h2]; omega
  · intro i hi o ho
    rcases i with _ | i
    · simp at hi
    · rw [List.getElem?_cons_succ] at hi
      have hil : i < a.length := by
        rcases Nat.lt_or_ge i a.length with h | h
        · exact h
        · rw [List.getElem?_append_right h] at hi
          have := lt_of_get hi
          simp at this
          rw [show i - a.length = 0 by omega] at hi
          simp at hi
      rw [List.getElem?_append_left hil] at hi
      obtain ⟨q1, q2, q3, q4⟩ := ho
      rw [BB_in (p := i) (by omega)]
      rcases o with _ | o
      · have h3 := BB_succ hi
        have e : bb 3 = -1 := rfl
        have h4 := ha.bpos (i + 1) (by omega)
        rw [BB_in (p := 0) (Nat.zero_le _), BB_zero]
        omega
      · rw [List.getElem?_cons_succ, List.getElem?_append_left (by omega)] at q2
        rw [DD_in (by omega), DD_in (by omega)] at q3
        have := ha.right i hi o ⟨by omega, q2, by omega, fun p hp1 hp2 => by
          have := q4 (p + 1) (by omega) (by omega)
          rw [DD_in (by omega), DD_in (by omega)] at this
          omega⟩
        rw [BB_in (p := o + 1) (by omega)]
        exact this
  · rw [hl]; exact DD_one h1
  · rw [hl]; exact BB_one h2

/-- Vertices and faces of a word's map. -/
theorem Wd.dec_verts {ks : List Nat} (h : Wd ks) : ((ldr (sg (decL ks)) ks.length : Nat) : Int) + (if ks.length = 0 then 1 else 0) = (cntK ks 0 : Int) + 1 := by
  by_cases hn : ks.length = 0
  · obtain rfl : ks = [] := List.eq_nil_of_length_eq_zero hn
    rfl
  · rw [if_neg hn, ldr_conj h.decS h.tn_isP h.nm_isP (fun i hi => h.dec_nm hi), h.ldr_all (by omega)]
    omega
theorem Wd.dec_faces {ks : List Nat} (h : Wd ks) : ((ldr (sg (phiL (decL ks))) ks.length : Nat) : Int) + (if ks.length = 0 then 1 else 0) = (cntK ks 2 : Int) + 1 := by
  by_cases hn : ks.length = 0
  · obtain rfl : ks = [] := List.eq_nil_of_length_eq_zero hn
    rfl
  · have hP := h.decL_isP
    have hev := h.even2
    have hl := decL_length ks
    have hph : IsP ks.length (sg (phiL (decL ks))) := by
      have := phiL_isP hP (by rw [hl]; exact hev)
      rwa [phiL_length, hl] at this
    rw [if_neg hn, ldr_conj hph h.ph_isP h.nm_isP (fun i hi => by
      have h1 : sg (phiL (decL ks)) (nmD ks i) = sg (decL ks) (mt (nmD ks i)) := by
        simp [sg, phiL, hl, h.nm_lt hi]
      rw [h1, ← h.nm_mate hi, h.dec_nm (h.mp_lt hi)]
      rfl), h.ldr_ph (by omega)]
    omega

theorem vnum_zero {n : Nat} {S : Nat → Nat} (h : IsP n S) (hn : 0 < n) : vnum S 0 = 0 := by
  have : rep S 0 = 0 := Nat.le_zero.1 (h.rep_le hn ⟨0, rfl⟩)
  unfold vnum; rw [this, ldr_zero]

theorem filter_zero : ∀ (n : Nat) (p : Nat → Bool), 0 < n → (∀ d, d < n → (p d = true ↔ d = 0)) → ((List.range n).filter p).length = 1
  | 1, p, _, h => by simp [List.range_succ, (h 0 (by omega)).2 rfl]
  | n + 2, p, _, h => by
    rw [List.range_succ, List.filter_append, List.length_append, filter_zero (n + 1) p (by omega) (fun d hd => h d (by omega))]
    have : p (n + 1) = false := by
      rw [Bool.eq_false_iff]
      intro e
      have := (h (n + 1) (by omega)).1 e
      omega
    simp [this]

/-- Around the root of a wrapped word there is one dart. -/
theorem WRight.wrap_deg {a : List Nat} (ha : WRight a) : ((List.range (a.length + 2)).filter fun d => vnum (sg (decL (0 :: (a ++ [1])))) d == 0).length = 1 := by
  have hW := ha.wrap.wd
  have hl : (0 :: (a ++ [1])).length = a.length + 2 := by simp
  refine filter_zero _ _ (by omega) (fun d hd => ?_)
  rw [← hl] at hd
  have h0 := hW.nm_zero (by omega)
  have hz := vnum_zero hW.decS (by omega)
  constructor
  · intro e
    simp only [beq_iff_eq] at e
    have hi := hW.nm_isP.inv_lt hd
    have he := hW.nm_isP.inv_to hd
    generalize invP (nmD (0 :: (a ++ [1]))) d = i at *
    have h2 := (hW.vert_nm hi (show 0 < _ by omega)).1 (by rw [he, h0, hz, e])
    rcases (hW.vx_iff (Nat.le_of_lt hi) (Nat.zero_le _)).1 h2 with ⟨h3, _⟩ | ⟨o, _, h4⟩
    · rcases i with _ | i
      · rw [← he, h0]
      · rw [DD_in (by omega)] at h3
        have := ha.dpos i (by omega)
        omega
    · have := h4.lt; omega
  · rintro rfl
    rw [hz]; rfl

end Go.Proofs.YtipelclohcdkcaaGreat
