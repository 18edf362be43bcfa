/- Joined texts. -/
import Derived.Test.YtcfdpogegngplaaGreatPzDecWk

/- Plain laws of the count of right words: told by a program that the kernel can run. -/
namespace Go.Proofs.YtcfdpogegngplaaGreat

theorem cntK_cons (k : Nat) (ks : List Nat) (c : Nat) : cntK (k :: ks) c = (if k = c then 1 else 0) + cntK ks c := by
  unfold cntK
  rw [List.filter_cons]
  by_cases h : k = c
  · subst h; simp; omega
  · rw [if_neg (by simpa using h), if_neg h]; omega

theorem DD_cons (k : Nat) (ks : List Nat) (p : Nat) : DD (k :: ks) (p + 1) = dd k + DD ks p := by
  unfold DD dd
  rw [List.take_succ_cons, cntK_cons, cntK_cons]
  by_cases h0 : k = 0
  · subst h0; simp; omega
  · by_cases h1 : k = 1
    · subst h1; simp; omega
    · simp [h0, h1]
theorem BB_cons (k : Nat) (ks : List Nat) (p : Nat) : BB (k :: ks) (p + 1) = bb k + BB ks p := by
  unfold BB bb
  rw [List.take_succ_cons, cntK_cons, cntK_cons]
  by_cases h0 : k = 2
  · subst h0; simp; omega
  · by_cases h1 : k = 3
    · subst h1; simp; omega
    · simp [h0, h1]

end Go.Proofs.YtcfdpogegngplaaGreat

/- Plain laws of words that are joined. No program is named here. -/
namespace Go.Proofs.YtcfdpogegngplaaGreat

theorem cntK_app (a b : List Nat) (k : Nat) : cntK (a ++ b) k = cntK a k + cntK b k := by
  unfold cntK; rw [List.filter_append, List.length_append]
theorem DD_appl {a b : List Nat} {p : Nat} (hp : p ≤ a.length) : DD (a ++ b) p = DD a p := by
  unfold DD; rw [List.take_append_of_le_length hp]
theorem BB_appl {a b : List Nat} {p : Nat} (hp : p ≤ a.length) : BB (a ++ b) p = BB a p := by
  unfold BB; rw [List.take_append_of_le_length hp]
theorem DD_appr {a b : List Nat} {q : Nat} : DD (a ++ b) (a.length + q) = DD a a.length + DD b q := by
  unfold DD; rw [List.take_length_add_append, cntK_app, cntK_app, List.take_length]; omega
theorem BB_appr {a b : List Nat} {q : Nat} : BB (a ++ b) (a.length + q) = BB a a.length + BB b q := by
  unfold BB; rw [List.take_length_add_append, cntK_app, cntK_app, List.take_length]; omega

/-- Two right words, one behind the other. -/
theorem WRight.app {a b : List Nat} (ha : WRight a) (hb : WRight b) : WRight (a ++ b) := by
  have h1 := ha.dend
  have h2 := ha.bend
  refine { k4 := ?_, dpos := ?_, bpos := ?_, right := ?_, dend := ?_, bend := ?_ }
  · intro k hk
    rcases List.mem_append.1 hk with h | h
    · exact ha.k4 k h
    · exact hb.k4 k h
  · intro p hp
    rw [List.length_append] at hp
    rcases Nat.le_total p a.length with h | h
    · rw [DD_appl h]; exact ha.dpos p h
    · obtain ⟨q, rfl⟩ := Nat.exists_eq_add_of_le h
      rw [DD_appr, h1]; have := hb.dpos q (by omega); omega
  · intro p hp
    rw [List.length_append] at hp
    rcases Nat.le_total p a.length with h | h
    · rw [BB_appl h]; exact ha.bpos p h
    · obtain ⟨q, rfl⟩ := Nat.exists_eq_add_of_le h
      rw [BB_appr, h2]; have := hb.bpos q (by omega); omega
  · intro i hi o ho
    rcases Nat.lt_or_ge i a.length with h | h
    · have hlt := ho.lt
      rw [List.getElem?_append_left h] at hi
      have hoa : OwnAt a i o := by
        obtain ⟨q1, q2, q3, q4⟩ := ho
        rw [List.getElem?_append_left (by omega)] at q2
        rw [DD_appl (by omega), DD_appl (by omega)] at q3
        refine ⟨q1, q2, q3, fun p hp1 hp2 => ?_⟩
        have := q4 p hp1 hp2
        rwa [DD_appl (by omega), DD_appl (by omega)] at this
      rw [BB_appl (by omega), BB_appl (by omega)]
      exact ha.right i hi o hoa
    · obtain ⟨j, rfl⟩ := Nat.exists_eq_add_of_le h
      rw [List.getElem?_append_right (by omega), Nat.add_sub_cancel_left] at hi
      have hjl := lt_of_get hi
      obtain ⟨q1, q2, q3, q4⟩ := ho
      rcases Nat.lt_or_ge o a.length with h5 | h5
      · exfalso
        have := q4 a.length h5 (by omega)
        rw [DD_appl (by omega), DD_appl (Nat.le_refl _), h1] at this
        have := ha.dpos o (by omega)
        omega
      · obtain ⟨u, rfl⟩ := Nat.exists_eq_add_of_le h5
        rw [List.getElem?_append_right (by omega), Nat.add_sub_cancel_left] at q2
        rw [DD_appr, DD_appr] at q3
        have hob : OwnAt b j u := ⟨by omega, q2, by omega, fun p hp1 hp2 => by
          have := q4 (a.length + p) (by omega) (by omega)
          rw [DD_appr, DD_appr] at this
          omega⟩
        have := hb.right j hi u hob
        rw [show a.length + u + 1 = a.length + (u + 1) by omega, BB_appr, BB_appr]
        omega
  · rw [List.length_append, DD_appr, h1, hb.dend]; rfl
  · rw [List.length_append, BB_appr, h2, hb.bend]; rfl

theorem DD_one {a : List Nat} (ha : DD a a.length = 0) : DD (0 :: (a ++ [1])) (a.length + 2) = 0 := by
  rw [DD_cons, show a.length + 1 = a.length + 1 from rfl, DD_appr, ha]; rfl
theorem BB_one {a : List Nat} (ha : BB a a.length = 0) : BB (0 :: (a ++ [1])) (a.length + 2) = 0 := by
  rw [BB_cons, BB_appr, ha]; rfl
theorem DD_in {a : List Nat} {p : Nat} (hp : p ≤ a.length) : DD (0 :: (a ++ [1])) (p + 1) = 1 + DD a p := by
  rw [DD_cons, DD_appl hp]; rfl
theorem BB_in {a : List Nat} {p : Nat} (hp : p ≤ a.length) : BB (0 :: (a ++ [1])) (p + 1) = BB a p := by
  rw [BB_cons, BB_appl hp]
  have : bb 0 = 0 := rfl
  omega

/-- A right word within a pair of the tree's. -/
theorem WRight.wrap {a : List Nat} (ha : WRight a) : WRight (0 :: (a ++ [1])) := by
  have h1 := ha.dend
  have h2 := ha.bend
  have hl : (0 :: (a ++ [1])).length = a.length + 2 := by simp
  refine { k4 := ?_, dpos := ?_, bpos := ?_, right := ?_, dend := ?_, bend := ?_ }
  · intro k hk
    rcases List.mem_cons.1 hk with h | h
    · omega
    · rcases List.mem_append.1 h with h | h
      · exact ha.k4 k h
      · simp at h; omega
  · intro p hp
    rw [hl] at hp
    rcases p with _ | p
    · rw [DD_zero]; omega
    · rcases Nat.lt_or_ge p (a.length + 1) with h | h
      · rw [DD_in (by omega)]; have := ha.dpos p (by omega); omega
      · obtain rfl : p = a.length + 1 := by omega
        rw [DD_one h1]; omega
  · intro p hp
    rw [hl] at hp
    rcases p with _ | p
    · rw [BB_zero]; omega
    · rcases Nat.lt_or_ge p (a.length + 1) with h | h
      · rw [BB_in (by omega)]; exact ha.bpos p (by omega)
      · obtain rfl : p = a.length + 1 := by omega
        rw [BB_one h2]; omega
  · intro i hi o ho
    rcases i with _ | i
    · simp at hi
    · rw [List.getElem?_cons_succ] at hi
      have hil : i < a.length := by
        rcases Nat.lt_or_ge i a.length with h | h
        · exact h
        · rw [List.getElem?_append_right h] at hi
          have := lt_of_get hi
          simp at this
          rw [show i - a.length = 0 by omega] at hi
          simp at hi
      rw [List.getElem?_append_left hil] at hi
      obtain ⟨q1, q2, q3, q4⟩ := ho
      rw [BB_in (p := i) (by omega)]
      rcases o with _ | o
      · have h3 := BB_succ hi
        have e : bb 3 = -1 := rfl
        have h4 := ha.bpos (i + 1) (by omega)
        rw [BB_in (p := 0) (Nat.zero_le _), BB_zero]
        omega
      · rw [List.getElem?_cons_succ, List.getElem?_append_left (by omega)] at q2
        rw [DD_in (by omega), DD_in (by omega)] at q3
        have := ha.right i hi o ⟨by omega, q2, by omega, fun p hp1 hp2 => by
          have := q4 (p + 1) (by omega) (by omega)
          rw [DD_in (by omega), DD_in (by omega)] at this
          omega⟩
        rw [BB_in (p := o + 1) (by omega)]
        exact this
  · rw [hl]; exact DD_one h1
  · rw [hl]; exact BB_one h2

/-- Vertices and faces of a word's map. -/
theorem Wd.dec_verts {ks : List Nat} (h : Wd ks) : ((ldr (sg (decL ks)) ks.length : Nat) : Int) + (if ks.length = 0 then 1 else 0) = (cntK ks 0 : Int) + 1 := by
  by_cases hn : ks.length = 0
  · obtain rfl : ks = [] := List.eq_nil_of_length_eq_zero hn
    rfl
  · rw [if_neg hn, ldr_conj h.decS h.tn_isP h.nm_isP (fun i hi => h.dec_nm hi), h.ldr_all (by omega)]
    omega
end Go.Proofs.YtcfdpogegngplaaGreat
