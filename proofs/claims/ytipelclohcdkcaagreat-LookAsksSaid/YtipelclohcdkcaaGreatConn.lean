/- Plain laws of the parts of a map: which darts come together, their names. No program is named here. -/
import Derived.Test.YtipelclohcdkcaaGreatRef6
namespace Go.Proofs.YtipelclohcdkcaaGreat

theorem crep_ex (n : Nat) (S : Nat → Nat) (d : Nat) : ∃ m, Conn n S d m ∧ ∀ e, Conn n S d e → m ≤ e := by
  open Classical in
  obtain ⟨m, h1, h2, h3, h4⟩ := first_of (fun e => Conn n S d e) 0 d (by rw [Nat.zero_add]; exact Conn.refl n S d)
  refine ⟨m, h3, fun e he => ?_⟩
  rcases Nat.lt_or_ge e m with hlt | hge
  · exact absurd he (h4 e (by omega) hlt)
  · exact hge

/-- The least dart of a part. -/
noncomputable def crep (n : Nat) (S : Nat → Nat) (d : Nat) : Nat := (crep_ex n S d).choose
theorem crep_conn (n : Nat) (S : Nat → Nat) (d : Nat) : Conn n S d (crep n S d) := (crep_ex n S d).choose_spec.1
theorem crep_le {n : Nat} {S : Nat → Nat} {d e : Nat} (h : Conn n S d e) : crep n S d ≤ e := (crep_ex n S d).choose_spec.2 e h

/-- How many parts have their least dart below i; a dart's part. -/
noncomputable def cldr (n : Nat) (S : Nat → Nat) (i : Nat) : Nat := ((List.range i).filter fun x => crep n S x == x).length
noncomputable def cnum (n : Nat) (S : Nat → Nat) (d : Nat) : Nat := cldr n S (crep n S d)

theorem cldr_zero (n : Nat) (S : Nat → Nat) : cldr n S 0 = 0 := rfl
theorem cldr_succ (n : Nat) (S : Nat → Nat) (i : Nat) : cldr n S (i + 1) = cldr n S i + if crep n S i = i then 1 else 0 := by
  unfold cldr
  rw [List.range_succ, List.filter_append, List.length_append]
  by_cases hi : crep n S i = i <;> simp [hi]
theorem cldr_mono (n : Nat) (S : Nat → Nat) {i j : Nat} (hij : i ≤ j) : cldr n S i ≤ cldr n S j := by
  induction j with
  | zero => rw [show i = 0 by omega]; exact Nat.le_refl _
  | succ j ih =>
    rcases Nat.lt_or_ge i (j + 1) with hlt | hge
    · have := cldr_succ n S j
      have := ih (by omega)
      omega
    · rw [show i = j + 1 by omega]; exact Nat.le_refl _
theorem cldr_le (n : Nat) (S : Nat → Nat) (i : Nat) : cldr n S i ≤ i := by
  unfold cldr
  exact Nat.le_trans (List.length_filter_le _ _) (by simp)

section
variable {n : Nat} {S : Nat → Nat} (h : IsP n S) (he : n % 2 = 0)
include h he

theorem IsP.crep_iff {d e : Nat} (hd : d < n) (hen : e < n) : crep n S d = crep n S e ↔ Conn n S d e := by
  constructor
  · intro hr
    have h1 := crep_conn n S d
    rw [hr] at h1
    exact h1.trans (h.conn_symm he hen (crep_conn n S e))
  · intro hs
    exact Nat.le_antisymm (crep_le (hs.trans (crep_conn n S e))) (crep_le ((h.conn_symm he hd hs).trans (crep_conn n S d)))

theorem IsP.crep_lt {d : Nat} (hd : d < n) : crep n S d < n := h.conn_lt he hd (crep_conn n S d)
theorem IsP.crep_crep {d : Nat} (hd : d < n) : crep n S (crep n S d) = crep n S d := ((h.crep_iff he hd (h.crep_lt he hd)).2 (crep_conn n S d)).symm

theorem IsP.cnum_iff {d e : Nat} (hd : d < n) (hen : e < n) : cnum n S d = cnum n S e ↔ Conn n S d e := by
  rw [← h.crep_iff he hd hen]
  constructor
  · intro hv
    unfold cnum at hv
    rcases Nat.lt_trichotomy (crep n S d) (crep n S e) with hlt | heq | hlt
    · have h1 := cldr_succ n S (crep n S d)
      rw [if_pos (h.crep_crep he hd)] at h1
      have h2 := cldr_mono n S (show crep n S d + 1 ≤ crep n S e from hlt)
      omega
    · exact heq
    · have h1 := cldr_succ n S (crep n S e)
      rw [if_pos (h.crep_crep he hen)] at h1
      have h2 := cldr_mono n S (show crep n S e + 1 ≤ crep n S d from hlt)
      omega
  · intro hr
    unfold cnum; rw [hr]

theorem IsP.cnum_lt {d : Nat} (hd : d < n) : cnum n S d < cldr n S n := by
  have h1 := cldr_succ n S (crep n S d)
  rw [if_pos (h.crep_crep he hd)] at h1
  have h2 := cldr_mono n S (show crep n S d + 1 ≤ n from h.crep_lt he hd)
  unfold cnum
  omega
end

/-! How the least dart of each part is found: names go down till nothing changes. -/

/-- Names that each lead to a dart of the same part, no greater. -/
structure NmC (n : Nat) (S : Nat → Nat) (nm : List Nat) : Prop where
  len : nm.length = n
  conn : ∀ d, d < n → ∃ x, nm[d]? = some x ∧ x ≤ d ∧ Conn n S d x

theorem NmC.get {n : Nat} {S : Nat → Nat} {nm : List Nat} (h : NmC n S nm) {d : Nat} (hd : d < n) : nm[d]? = some (nm.getD d 0) ∧ nm.getD d 0 ≤ d ∧ Conn n S d (nm.getD d 0) := by
  obtain ⟨x, h1, h2, h3⟩ := h.conn d hd
  have : nm.getD d 0 = x := by rw [List.getD_eq_getElem?_getD, h1]; rfl
  rw [this]
  exact ⟨h1, h2, h3⟩

theorem NmC.init (n : Nat) (S : Nat → Nat) : NmC n S (List.range n) := ⟨by simp, fun d hd => ⟨d, by simp [hd], Nat.le_refl _, Conn.refl _ _ _⟩⟩

theorem NmC.set {n : Nat} {S : Nat → Nat} {nm : List Nat} (h : NmC n S nm) {d v : Nat} (hd : d < n) (hv : v ≤ d) (hc : Conn n S d v) : NmC n S (nm.set d v) := by
  refine ⟨by rw [List.length_set]; exact h.len, fun e he => ?_⟩
  rw [List.getElem?_set]
  by_cases hde : d = e
  · subst hde
    exact ⟨v, by rw [if_pos rfl, if_pos (by rw [h.len]; exact hd)], hv, hc⟩
  · rw [if_neg hde]; exact h.conn e he

theorem sum_set_lt : ∀ {nm : List Nat} {d v x : Nat}, nm[d]? = some x → v < x → (nm.set d v).sum < nm.sum
  | [], d, v, x, h, _ => by simp at h
  | a :: nm, 0, v, x, h, hv => by simp at h; subst h; simp; omega
  | a :: nm, d + 1, v, x, h, hv => by
    have := sum_set_lt (nm := nm) (d := d) (by simpa using h) hv
    simp only [List.set_cons_succ, List.sum_cons]; omega

/-- Nothing changes any more: each one's name is the least of its part. -/
theorem NmC.fixed {n : Nat} {S : Nat → Nat} {nm : List Nat} (hP : IsP n S) (he : n % 2 = 0) (h : NmC n S nm) (hf : ∀ d, d < n → nm.getD (S d) 0 = nm.getD d 0 ∧ nm.getD (mt d) 0 = nm.getD d 0) {d : Nat} (hd : d < n) : nm.getD d 0 = crep n S d := by
  have hall : ∀ e, Conn n S d e → e < n ∧ nm.getD e 0 = nm.getD d 0 := by
    intro e hc
    refine hc (fun e => e < n ∧ nm.getD e 0 = nm.getD d 0) ⟨hd, rfl⟩ (fun z hz hP2 => ?_)
    exact ⟨⟨hP.lt z hz, (hf z hz).1.trans hP2.2⟩, ⟨mt_lt he hz, (hf z hz).2.trans hP2.2⟩⟩
  have hle := crep_le (h.get hd).2.2
  obtain ⟨h1, h2⟩ := hall _ (crep_conn n S d)
  have h3 := (h.get h1).2.1
  omega

end Go.Proofs.YtipelclohcdkcaaGreat
