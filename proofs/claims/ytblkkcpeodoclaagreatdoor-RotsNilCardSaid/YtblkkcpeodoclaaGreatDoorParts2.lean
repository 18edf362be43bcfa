/- The references of layer 8: Parts. -/
import Derived.Test.YtblkkcpeodoclaaGreatDoorRef8
/- The references of layer 8: how many orbits have their least number in a part. -/
namespace Go.Proofs.YtblkkcpeodoclaaGreatDoor
open Go.RowKit

/-- How many orbits have their least number in a part, below i. -/
noncomputable def ofN (l nm : List Nat) (part i : Nat) : Nat := ((List.range i).filter fun d => rep (sg l) d == d && sg nm d == part).length
theorem ofN_zero (l nm : List Nat) (part : Nat) : ofN l nm part 0 = 0 := rfl
theorem ofN_succ (l nm : List Nat) (part i : Nat) : ofN l nm part (i + 1) = ofN l nm part i + if rep (sg l) i = i ∧ sg nm i = part then 1 else 0 := by
  unfold ofN
  rw [List.range_succ, List.filter_append, List.length_append]
  by_cases h1 : rep (sg l) i = i <;> by_cases h2 : sg nm i = part <;> simp [h1, h2]
theorem ofN_le (l nm : List Nat) (part i : Nat) : ofN l nm part i ≤ i := by
  unfold ofN
  have := List.length_filter_le (fun d => rep (sg l) d == d && sg nm d == part) (List.range i)
  simpa using this

theorem IsP.least_iff {n : Nat} {S : Nat → Nat} (h : IsP n S) {d : Nat} (hd : d < n) : rep S d = d ↔ ∀ i, i < per S d → d ≤ itr S i d := by
  constructor
  · intro hr i hi
    have := h.rep_le hd (e := itr S i d) ⟨i, rfl⟩
    omega
  · intro ha
    obtain ⟨i, hi, he⟩ := h.sameO_ex hd (h.rep_same hd)
    have h1 := ha i hi
    have h2 := h.rep_self_le hd
    omega

end Go.Proofs.YtblkkcpeodoclaaGreatDoor

/- The references of layer 8: the parts, and their genus. -/
namespace Go.Proofs.YtblkkcpeodoclaaGreatDoor
open Go.RowKit

theorem cell_five_new (w : World) (a b c d e : Value) (t : TypeId) : ∀ j u, [a, b, c, d, e][j]? = some u → (w.alloc (.cells #[a, b, c, d, e] t)).cell? ((⟨w.heap.size, 0, none⟩ : Addr).add j) = some u := by
  intro j u hj
  match j, hj with
  | 0, hj => simp at hj; subst hj; simp [Addr.add]
  | 1, hj => simp at hj; subst hj; simp [Addr.add]
  | 2, hj => simp at hj; subst hj; simp [Addr.add]
  | 3, hj => simp at hj; subst hj; simp [Addr.add]
  | 4, hj => simp at hj; subst hj; simp [Addr.add]
  | j + 5, hj => simp at hj

/-- A slice of the call's own, of structs of five numbers. -/
def Own5 (t : TypeId) (B : Nat) (w : World) (v : Value) (ps : List (List Int)) : Prop := w.ownsRow B t 5 v ps.length (ints ps.flatten) ∧ ∀ p ∈ ps, p.length = 5

theorem flatten5_get : ∀ {ps : List (List Int)} {j k : Nat} {p : List Int}, (∀ p ∈ ps, p.length = 5) → ps[j]? = some p → k < 5 → ps.flatten[j * 5 + k]? = p[k]? := by
  intro ps
  induction ps with
  | nil => intro j k p _ h; simp at h
  | cons q ps ih =>
    intro j k p h5 hp hk
    have hq := h5 q (by simp)
    cases j with
    | zero =>
      obtain rfl : q = p := by simpa using hp
      rw [List.flatten_cons, List.getElem?_append_left (by omega)]
      congr 1; omega
    | succ j =>
      rw [List.flatten_cons, List.getElem?_append_right (by omega), hq]
      have := ih (j := j) (k := k) (p := p) (fun p hp => h5 p (by simp [hp])) (by simpa using hp) hk
      rw [← this]
      congr 1; omega

theorem Own5.nil (t : TypeId) (B : Nat) (w : World) : Own5 t B w (.slice none 0 0) [] := ⟨World.ownsRow_nil _ _ _ _, fun p hp => by cases hp⟩
theorem Own5.keeps {t : TypeId} {B : Nat} {w w' : World} {v : Value} {ps : List (List Int)} {F : Nat → Prop} (h : Own5 t B w v ps) (k : Keeps F w w') (hf : ∀ b, v.ownBlock = some b → ¬ F b) : Own5 t B w' v ps := ⟨k.owns h.1 hf, h.2⟩
theorem Own5.lt {t : TypeId} {B : Nat} {w : World} {v : Value} {ps : List (List Int)} (h : Own5 t B w v ps) : ∀ k, v.ownBlock = some k → B ≤ k ∧ k < w.heap.size := World.ownsRow.lt h.1
theorem Own5.mono {t : TypeId} {B B' : Nat} {w : World} {v : Value} {ps : List (List Int)} (h : Own5 t B w v ps) (hB : B' ≤ B) : Own5 t B' w v ps := by
  obtain ⟨⟨h0, h⟩, h5⟩ := h
  refine ⟨⟨h0, ?_⟩, h5⟩
  rcases h with h | ⟨g, cap, cur, h1, h2, h3⟩
  · exact .inl h
  · exact .inr ⟨g, cap, cur, h1, Nat.le_trans hB h2, h3⟩
theorem Own5.form {t : TypeId} {B : Nat} {w : World} {v : Value} {ps : List (List Int)} (h : Own5 t B w v ps) : ∃ a cap, v = .slice a ps.length cap := by
  obtain ⟨⟨_, h⟩, _⟩ := h
  rcases h with ⟨rfl, h0⟩ | ⟨g, cap, cur, rfl, _⟩
  · exact ⟨none, 0, by rw [h0]⟩
  · exact ⟨_, cap, rfl⟩
theorem Own5.cell {t : TypeId} {B : Nat} {w : World} {v : Value} {ps : List (List Int)} (h : Own5 t B w v ps) {j : Nat} {p : List Int} (hp : ps[j]? = some p) : ∃ g cap, v = .slice (some ⟨g, 0, none⟩) ps.length cap ∧ ∀ k z, p[k]? = some z → w.cell? ⟨g, j * 5 + k, none⟩ = some (.int .i64 z) := by
  obtain ⟨h1, h5⟩ := h
  have hj := lt_of_get hp
  obtain ⟨h0, h2⟩ := id h1
  rcases h2 with ⟨_, h2⟩ | ⟨g, cap, cur, rfl, _⟩
  · omega
  · refine ⟨g, cap, rfl, fun k z hk => ?_⟩
    have hk5 : k < 5 := by have := lt_of_get hk; have := h5 p (List.mem_of_getElem? hp); omega
    rw [World.ownsRow.cellAt h1 _ (by omega)]
    unfold ints
    rw [List.getElem?_map, flatten5_get h5 hp hk5, hk]
    rfl

/-- Names of parts. -/
noncomputable def cnL (s : List Nat) : List Nat := (List.range s.length).map (cnum s.length (sg s))
theorem cnL_length (s : List Nat) : (cnL s).length = s.length := by simp [cnL]
theorem sg_cnL {s : List Nat} {d : Nat} (hd : d < s.length) : sg (cnL s) d = cnum s.length (sg s) d := by simp [sg, cnL, hd]

/-- How many have a name, below i. -/
def cntN (nm : List Nat) (k i : Nat) : Nat := ((List.range i).filter fun d => sg nm d == k).length
theorem cntN_succ (nm : List Nat) (k i : Nat) : cntN nm k (i + 1) = cntN nm k i + if sg nm i = k then 1 else 0 := by
  unfold cntN
  rw [List.range_succ, List.filter_append, List.length_append]
  by_cases h2 : sg nm i = k <;> simp [h2]
theorem cntN_le (nm : List Nat) (k i : Nat) : cntN nm k i ≤ i := by
  unfold cntN
  have := List.length_filter_le (fun d => sg nm d == k) (List.range i)
  simpa using this

noncomputable def ptV (s : List Nat) (k : Nat) : Nat := ofN s (cnL s) k s.length
noncomputable def ptB (s : List Nat) (k : Nat) : Nat := ofN (phiL s) (cnL s) k s.length
noncomputable def ptE (s : List Nat) (k : Nat) : Nat := cntN (cnL s) k s.length / 2
noncomputable def ptG (s : List Nat) (k : Nat) : Int := (2 - (ptV s k : Int) + ptE s k - ptB s k).tdiv 2
/-- The part whose least dart is d. -/
noncomputable def partI (s : List Nat) (d : Nat) : List Int := [(d : Int), ptV s (cnum s.length (sg s) d), ptE s (cnum s.length (sg s) d), ptB s (cnum s.length (sg s) d), ptG s (cnum s.length (sg s) d)]
/-- The parts whose least darts are below j. -/
noncomputable def partsL (s : List Nat) (j : Nat) : List (List Int) := ((List.range j).filter fun d => crep s.length (sg s) d == d).map (partI s)
theorem partsL_length (s : List Nat) (j : Nat) : (partsL s j).length = cldr s.length (sg s) j := by simp [partsL, cldr]
theorem partsL_succ (s : List Nat) (j : Nat) : partsL s (j + 1) = partsL s j ++ if crep s.length (sg s) j = j then [partI s j] else [] := by
  unfold partsL
  rw [List.range_succ, List.filter_append, List.map_append]
  by_cases h : crep s.length (sg s) j = j <;> simp [h]
noncomputable def partsA (s : List Nat) (lone : Nat) : List (List Int) := partsL s s.length ++ List.replicate lone [-1, 1, 0, 1, 0]

theorem IsP.cnum_new {n : Nat} {S : Nat → Nat} (h : IsP n S) (he : n % 2 = 0) {j : Nat} (hj : j < n) : cnum n S j = cldr n S j ↔ crep n S j = j := by
  have hle : crep n S j ≤ j := crep_le (Conn.refl _ _ _)
  constructor
  · intro hc
    rcases Nat.lt_or_ge (crep n S j) j with hlt | hge
    · have h1 := cldr_succ n S (crep n S j)
      rw [if_pos (h.crep_crep he hj)] at h1
      have h2 := cldr_mono n S (show crep n S j + 1 ≤ j from hlt)
      unfold cnum at hc
      omega
    · omega
  · intro hc
    unfold cnum
    rw [hc]

end Go.Proofs.YtblkkcpeodoclaaGreatDoor

namespace Go.Proofs.YtblkkcpeodoclaaGreatDoor
open Go.RowKit

theorem phiL_isP {s : List Nat} (hP : IsP s.length (sg s)) (he : s.length % 2 = 0) : IsP (phiL s).length (sg (phiL s)) := by
  have hg : ∀ d, d < s.length → sg (phiL s) d = sg s (mt d) := fun d hd => by simp [sg, phiL, hd]
  rw [phiL_length]
  refine ⟨fun d hd => by rw [hg d hd]; exact hP.lt _ (mt_lt he hd), fun d e hd hde hh => ?_⟩
  rw [hg d hd, hg e hde] at hh
  have := hP.inj _ _ (mt_lt he hd) (mt_lt he hde) hh
  rw [← mt_mt d, this, mt_mt]

theorem tdiv2_bound {a M : Int} (h1 : -M ≤ a) (h2 : a ≤ M) : -M ≤ a.tdiv 2 ∧ a.tdiv 2 ≤ M := by
  rcases Int.le_total 0 a with h | h
  · rw [Int.tdiv_eq_ediv_of_nonneg h]; omega
  · have h3 : a.tdiv 2 = -((-a).tdiv 2) := by rw [Int.neg_tdiv, Int.neg_neg]
    rw [h3, Int.tdiv_eq_ediv_of_nonneg (by omega)]; omega

end Go.Proofs.YtblkkcpeodoclaaGreatDoor
