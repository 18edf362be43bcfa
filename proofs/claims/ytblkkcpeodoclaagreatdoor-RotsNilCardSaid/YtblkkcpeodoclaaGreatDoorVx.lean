/- Plain laws of words as maps: a vertex's places are the orbit of its first one; vertices are named in the order in which they are met; how many there are. No program is named here. -/
import Derived.Test.YtblkkcpeodoclaaGreatDoorTuran3
namespace Go.Proofs.YtblkkcpeodoclaaGreatDoor

/-- The least one of a sorted list stands ahead. -/
theorem pl_first {ks : List Nat} {v p : Nat} (hp : p ∈ pl ks v) (hmin : ∀ q, q < p → vx ks q ≠ v) : (pl ks v)[0]? = some p := by
  obtain ⟨k, hk, hke⟩ := List.mem_iff_getElem.1 hp
  have hkp : (pl ks v)[k]? = some p := by rw [List.getElem?_eq_getElem hk, hke]
  have h0 := List.getElem?_eq_getElem (l := pl ks v) (i := 0) (by omega)
  generalize (pl ks v)[0] = q at *
  rw [h0]
  congr 1
  have hq := (mem_pl.1 (List.mem_of_getElem? h0)).2
  rcases Nat.eq_zero_or_pos k with rfl | hk0
  · rw [h0] at hkp; exact Option.some.inj hkp
  · exact absurd hq (hmin q ((pl_lt h0 hkp).1 hk0))

section
variable {ks : List Nat} (h : Wd ks)
include h

theorem Wd.pl_walk {v a p : Nat} (hp : (pl ks v)[a]? = some p) : ∀ m, a + m < (pl ks v).length → (pl ks v)[a + m]? = some (itr (tn ks) m p) := by
  intro m
  induction m with
  | zero => intro _; exact hp
  | succ m ih =>
    intro hm
    have ih := ih (by omega)
    exact (h.pl_next ih).1 (by omega)

theorem Wd.pl_wrap {v a p : Nat} (hp : (pl ks v)[a]? = some p) : (pl ks v)[0]? = some (itr (tn ks) ((pl ks v).length - a) p) := by
  have ha := lt_of_get hp
  have h1 := h.pl_walk hp ((pl ks v).length - 1 - a) (by omega)
  have h2 := (h.pl_next h1).2 (by omega)
  have h3 : (pl ks v).length - a = ((pl ks v).length - 1 - a) + 1 := by omega
  rw [h2, h3]; rfl

theorem Wd.vx_itr {i : Nat} (hi : i < ks.length) (k : Nat) : itr (tn ks) k i < ks.length ∧ vx ks (itr (tn ks) k i) = vx ks i := by
  induction k with
  | zero => exact ⟨hi, rfl⟩
  | succ k ih =>
    obtain ⟨h1, h2, _⟩ := h.tn_next ih.1
    exact ⟨h1, h2.trans ih.2⟩

/-- By turns one stays at a vertex, and comes to each place of it. -/
theorem Wd.sameO_vx {i j : Nat} (hi : i < ks.length) (hj : j < ks.length) : SameO (tn ks) i j ↔ vx ks i = vx ks j := by
  constructor
  · rintro ⟨k, hk⟩
    rw [← hk]; exact (h.vx_itr hi k).2.symm
  · intro hv
    obtain ⟨a, ha, hae⟩ := List.mem_iff_getElem.1 (mem_pl.2 ⟨hi, rfl⟩ : i ∈ pl ks (vx ks i))
    obtain ⟨b, hb, hbe⟩ := List.mem_iff_getElem.1 (mem_pl.2 ⟨hj, hv.symm⟩ : j ∈ pl ks (vx ks i))
    have ga : (pl ks (vx ks i))[a]? = some i := by rw [List.getElem?_eq_getElem ha, hae]
    have gb : (pl ks (vx ks i))[b]? = some j := by rw [List.getElem?_eq_getElem hb, hbe]
    have g0 := h.pl_wrap ga
    have g1 := h.pl_walk g0 b (by omega)
    rw [Nat.zero_add, gb] at g1
    exact SameO.trans ⟨_, rfl⟩ ⟨b, (Option.some.inj g1).symm⟩

/-- The orbit of a vertex's first place. -/
theorem Wd.orb_pl {v p : Nat} (h0 : (pl ks v)[0]? = some p) : orb (tn ks) p = pl ks v := by
  obtain ⟨hpn, hpv⟩ := mem_pl.1 (List.mem_of_getElem? h0)
  have hP := h.tn_isP
  have hnd : (pl ks v).Nodup := (pl_sorted ks v).imp (fun hab => by omega)
  have hlen : (orb (tn ks) p).length = (pl ks v).length := by
    refine nodup_eq_len (hP.orb_nodup hpn) hnd (fun x => ?_)
    rw [hP.mem_orb hpn, mem_pl]
    constructor
    · intro hs
      have hx := hP.sameO_lt hpn hs
      exact ⟨hx, by rw [← hpv]; exact ((h.sameO_vx hpn hx).1 hs).symm⟩
    · rintro ⟨hx, hv⟩
      exact (h.sameO_vx hpn hx).2 (hpv.trans hv.symm)
  rw [orb_length] at hlen
  apply List.ext_getElem?
  intro i
  rcases Nat.lt_or_ge i (per (tn ks) p) with hi | hi
  · rw [orb_get hi]
    have := h.pl_walk h0 i (by omega)
    rw [Nat.zero_add] at this
    exact this.symm
  · rw [List.getElem?_eq_none (by rw [orb_length]; exact hi), List.getElem?_eq_none (by omega)]

/-- An opening one's place is followed by its vertex's first one. -/
theorem Wd.vx_open {o : Nat} (ho : ks[o]? = some 0) : vx ks (o + 1) = vo ks o := by
  have hd := DD_succ ho
  simp [dd] at hd
  refine h.vx_own (lt_of_get ho) ⟨by omega, ho, by omega, fun p hp1 hp2 => ?_⟩
  obtain rfl : p = o + 1 := by omega
  omega

theorem Wd.vx_zero : vx ks 0 = 0 := h.vx_none (by omega) (DD_zero _)

theorem Wd.open_next {o : Nat} (ho : ks[o]? = some 0) : o + 1 < ks.length := by
  obtain ⟨s, hs, ⟨h1, h2⟩ | ⟨h1, h2⟩⟩ := h.cases (lt_of_get ho)
  · have := h2.lt; have := h2.le; omega
  · rw [ho] at h1; have := Option.some.inj h1; omega

/-- A vertex's first place. -/
theorem Wd.pl_open {o : Nat} (ho : ks[o]? = some 0) : (pl ks (vo ks o))[0]? = some (o + 1) := by
  refine pl_first (mem_pl.2 ⟨h.open_next ho, h.vx_open ho⟩) (fun q hq he => ?_)
  have := h.vx_lt (p := q) (j := o) (by omega) (by have := lt_of_get ho; omega)
  unfold vo at he
  omega

theorem Wd.pl_root (hn : 0 < ks.length) : (pl ks 0)[0]? = some 0 := pl_first (mem_pl.2 ⟨hn, h.vx_zero⟩) (fun q hq => by omega)

/-- Whose place is its vertex's first one. -/
theorem Wd.rep_self {i : Nat} (hi : i < ks.length) : rep (tn ks) i = i ↔ i = 0 ∨ (0 < i ∧ ks[i - 1]? = some 0) := by
  have hP := h.tn_isP
  constructor
  · intro hr
    rcases Nat.eq_zero_or_pos i with h0 | h0
    · exact .inl h0
    refine .inr ⟨h0, ?_⟩
    have hk := List.getElem?_eq_getElem (l := ks) (i := i - 1) (by omega)
    have h4 := h.k4 _ (List.mem_of_getElem? hk)
    generalize ks[i - 1] = k at *
    have hno : ∀ p, p < i → vx ks p ≠ vx ks i := fun p hp he => by
      have := hP.rep_le hi ((h.sameO_vx hi (by omega)).2 he.symm)
      omega
    by_cases k0 : k = 0
    · rw [hk, k0]
    exfalso
    by_cases k1 : k = 1
    · subst k1
      obtain ⟨s, hs, ⟨h1, h2⟩ | ⟨h1, h2⟩⟩ := h.cases (i := i - 1) (by omega)
      · rw [hk] at h1; have := Option.some.inj h1; omega
      · have hs0 : s = 0 := by rw [hk] at h1; have := Option.some.inj h1; omega
        subst hs0
        have hlt := h2.lt
        obtain ⟨_, hv, _⟩ := h.tn_next (i := mp ks (i - 1)) (by omega)
        have ht : tn ks (mp ks (i - 1)) = i := by
          unfold tn
          rw [getD_of h2.opens, if_pos (by omega), h.mp_mp (by omega), Nat.mod_eq_of_lt (by omega)]
          omega
        rw [ht] at hv
        exact hno _ (by omega) hv.symm
    · obtain ⟨_, hv, _⟩ := h.tn_next (i := i - 1) (by omega)
      have ht : tn ks (i - 1) = i := by
        unfold tn
        rw [getD_of hk, if_neg (by omega), Nat.mod_eq_of_lt (by omega)]
        omega
      rw [ht] at hv
      exact hno _ (by omega) hv.symm
  · intro hc
    have hle := hP.rep_self_le hi
    have hs := hP.rep_same hi
    have hv := (h.sameO_vx hi (hP.rep_lt hi)).1 hs
    rcases hc with h0 | ⟨h0, ho⟩
    · omega
    · rcases Nat.lt_or_ge (rep (tn ks) i) i with hlt | hge
      · have h1 := h.vx_open ho
        have h2 := h.vx_lt (p := rep (tn ks) i) (j := i - 1) (by omega) (by omega)
        rw [show i - 1 + 1 = i by omega] at h1
        unfold vo at h1
        omega
      · omega

/-- How many vertices are met ahead of a place. -/
theorem Wd.ldr_tn : ∀ i, i ≤ ks.length → ldr (tn ks) i = if i = 0 then 0 else cntK (ks.take (i - 1)) 0 + 1 := by
  intro i
  induction i with
  | zero => intro _; rfl
  | succ i ih =>
    intro hi
    rw [ldr_succ, ih (by omega), if_neg (show ¬ i + 1 = 0 by omega), Nat.add_sub_cancel]
    have hr := h.rep_self (i := i) (by omega)
    rcases Nat.eq_zero_or_pos i with rfl | h0
    · rw [if_pos rfl, if_pos (hr.2 (.inl rfl))]; simp [cntK]
    · rw [if_neg (by omega)]
      have hk := List.getElem?_eq_getElem (l := ks) (i := i - 1) (by omega)
      have hc := cntK_get hk 0
      rw [show i - 1 + 1 = i by omega] at hc
      generalize ks[i - 1] = k at *
      rw [hc]
      by_cases k0 : k = 0
      · rw [if_pos k0, if_pos (hr.2 (.inr ⟨h0, by rw [hk, k0]⟩))]
      · rw [if_neg k0, if_neg (fun hh => by
          rcases hr.1 hh with h1 | ⟨_, h1⟩
          · omega
          · rw [hk] at h1; exact k0 (Option.some.inj h1))]

/-- Vertices are named in the order in which they are met. -/
theorem Wd.vnum_tn {i : Nat} (hi : i < ks.length) : vnum (tn ks) i = vx ks i := by
  have hP := h.tn_isP
  have hrl := hP.rep_lt hi
  have hv := (h.sameO_vx hi hrl).1 (hP.rep_same hi)
  unfold vnum
  rw [h.ldr_tn _ (by omega), hv]
  rcases (h.rep_self hrl).1 (hP.rep_rep hi) with h0 | ⟨h0, ho⟩
  · rw [if_pos h0, h0, h.vx_zero]
  · rw [if_neg (by omega)]
    have h1 := h.vx_open ho
    rw [show rep (tn ks) i - 1 + 1 = rep (tn ks) i by omega] at h1
    rw [h1]; rfl

/-- How many vertices there are. -/
theorem Wd.ldr_all (hn : 0 < ks.length) : ldr (tn ks) ks.length = cntK ks 0 + 1 := by
  rw [h.ldr_tn _ (Nat.le_refl _), if_neg (by omega)]
  have hk := List.getElem?_eq_getElem (l := ks) (i := ks.length - 1) (by omega)
  have hc := cntK_get hk 0
  rw [show ks.length - 1 + 1 = ks.length by omega, List.take_of_length_le (Nat.le_refl _)] at hc
  rw [hc, if_neg]
  · intro h0
    rw [h0] at hk
    have := h.open_next hk
    omega
end

/-! Faces: the two sorts change their parts. -/

/-- The letters of the other sort. -/
def swp (ks : List Nat) : List Nat := ks.map fun k => if k < 2 then k + 2 else k - 2

theorem swp_length (ks : List Nat) : (swp ks).length = ks.length := by simp [swp]
theorem swp_get {ks : List Nat} {i k : Nat} (h : ks[i]? = some k) : (swp ks)[i]? = some (if k < 2 then k + 2 else k - 2) := by simp [swp, h]

theorem cntK_swp : ∀ (ks : List Nat) (k : Nat), (∀ x ∈ ks, x < 4) → k < 2 → cntK (swp ks) k = cntK ks (k + 2) ∧ cntK (swp ks) (k + 2) = cntK ks k := by
  intro ks k h4 hk
  induction ks with
  | nil => exact ⟨rfl, rfl⟩
  | cons x ks ih =>
    obtain ⟨h1, h2⟩ := ih (fun y hy => h4 y (by simp [hy]))
    have hx := h4 x (by simp)
    unfold cntK swp at *
    simp only [List.map_cons, List.filter_cons]
    have hc : (x = 0 ∨ x = 1 ∨ x = 2 ∨ x = 3) := by omega
    have hd : (k = 0 ∨ k = 1) := by omega
    rcases hc with rfl | rfl | rfl | rfl <;> rcases hd with rfl | rfl <;> simp_all

theorem ownB_swp (s : Nat) (hs : s < 2) : ∀ ks : List Nat, (∀ x ∈ ks, x < 4) → ownB (1 - s) (swp ks) = ownB s ks := by
  intro ks h4
  induction ks with
  | nil => rfl
  | cons x ks ih =>
    have h1 := ih (fun y hy => h4 y (by simp [hy]))
    have hx := h4 x (by simp)
    unfold ownB swp at *
    have hc : (x = 0 ∨ x = 1 ∨ x = 2 ∨ x = 3) := by omega
    have hd : (s = 0 ∨ s = 1) := by omega
    rcases hc with rfl | rfl | rfl | rfl <;> rcases hd with rfl | rfl <;> simp_all

theorem swp_take (ks : List Nat) (n : Nat) : (swp ks).take n = swp (ks.take n) := by simp [swp, List.map_take]

theorem pr_swp (s : Nat) (hs : s < 2) (ks : List Nat) (h4 : ∀ x ∈ ks, x < 4) (n : Nat) : pr (1 - s) (swp ks) n = pr s ks n := by
  have h1 := ownB_swp s hs (ks.take n) (fun x hx => h4 x (List.mem_of_mem_take hx))
  have h2 := ownB_length (1 - s) ((swp ks).take n)
  have h3 := ownB_length s (ks.take n)
  rw [swp_take, h1, h3] at h2
  unfold pr at h2 ⊢
  rw [List.take_of_length_le (Nat.le_refl _), List.take_of_length_le (Nat.le_refl _), ← swp_take] at h2
  exact h2.symm

theorem SelAt.swapped {s : Nat} (hs : s < 2) {ks : List Nat} (h4 : ∀ x ∈ ks, x < 4) {j n : Nat} (h : SelAt s ks j n) : SelAt (1 - s) (swp ks) j n := by
  obtain ⟨k, h1, h2, h3⟩ := h
  refine ⟨_, swp_get h1, ?_, by rw [pr_swp s hs ks h4, h3]⟩
  have := h4 k (List.mem_of_getElem? h1)
  split <;> omega

theorem MixMate.swapped {ks : List Nat} (h4 : ∀ x ∈ ks, x < 4) {i m : Nat} (h : MixMate ks i m) : MixMate (swp ks) i m := by
  obtain ⟨s, a, c, hs, h1, h2, h3⟩ := h
  exact ⟨1 - s, a, c, by omega, h1.swapped hs h4, h2.swapped hs h4, by rw [ownB_swp s hs ks h4]; exact h3⟩

section
variable {ks : List Nat} (h : Wd ks)
include h

theorem Wd.swapped : Wd (swp ks) := by
  refine ⟨fun k hk => ?_, ?_, ?_⟩
  · simp only [swp, List.mem_map] at hk
    obtain ⟨x, hx, rfl⟩ := hk
    have := h.k4 x hx
    split <;> omega
  · have := ownB_swp 1 (by omega) ks h.k4
    rw [show 1 - 1 = 0 from rfl] at this
    rw [this]; exact h.bal.2
  · have := ownB_swp 0 (by omega) ks h.k4
    rw [show 1 - 0 = 1 from rfl] at this
    rw [this]; exact h.bal.1

theorem Wd.mp_swp {i : Nat} (hi : i < ks.length) : mp (swp ks) i = mp ks i :=
  h.swapped.mp_eq (by rw [swp_length]; exact hi) ((h.mate hi).swapped h.k4)
end

/-- Along a face, by places. -/
noncomputable def ph (ks : List Nat) (i : Nat) : Nat := tn ks (mp ks i)

theorem Wd.ph_isP {ks : List Nat} (h : Wd ks) : IsP ks.length (ph ks) :=
  ⟨fun d hd => h.tn_isP.lt _ (h.mp_lt hd), fun d e hd he hh => by
    have h1 := h.tn_isP.inj _ _ (h.mp_lt hd) (h.mp_lt he) hh
    rw [← h.mp_mp hd, h1, h.mp_mp he]⟩

/-- Faces are the vertices of the other sort. -/
theorem Wd.ph_swp {ks : List Nat} (h : Wd ks) {i : Nat} (hi : i < ks.length) : ph ks i = tn (swp ks) i := by
  unfold ph tn
  rw [swp_length, h.mp_swp hi]
  have hk := List.getElem?_eq_getElem hi
  have h4 := h.k4 _ (List.mem_of_getElem? hk)
  rw [getD_of (swp_get hk)]
  have ht := h.tree_mate hi
  rw [getD_of hk] at ht
  generalize ks[i] = k at *
  by_cases k2 : k < 2
  · rw [if_pos (ht.2 k2), h.mp_mp hi, if_pos k2, if_neg (by omega)]
  · rw [if_neg (fun hh => k2 (ht.1 hh)), if_neg k2, if_pos (by omega)]

theorem itr_congr {n : Nat} {S T : Nat → Nat} (hT : ∀ d, d < n → T d < n) (he : ∀ d, d < n → S d = T d) {d : Nat} (hd : d < n) (k : Nat) : itr S k d = itr T k d ∧ itr T k d < n := by
  induction k with
  | zero => exact ⟨rfl, hd⟩
  | succ k ih =>
    have h1 : itr S (k + 1) d = S (itr S k d) := rfl
    have h2 : itr T (k + 1) d = T (itr T k d) := rfl
    rw [h1, h2, ih.1]
    exact ⟨he _ ih.2, hT _ ih.2⟩

theorem per_congr {n : Nat} {S T : Nat → Nat} (hS : IsP n S) (hT : IsP n T) (he : ∀ d, d < n → S d = T d) {d : Nat} (hd : d < n) : per S d = per T d := by
  obtain ⟨a1, a2, a3, a4⟩ := hS.per_spec hd
  obtain ⟨b1, b2, b3, b4⟩ := hT.per_spec hd
  rw [(itr_congr hT.lt he hd _).1] at a3
  rw [← (itr_congr hT.lt he hd _).1] at b3
  rcases Nat.lt_trichotomy (per S d) (per T d) with hlt | heq | hlt
  · exact absurd a3 (b4 _ a1 hlt)
  · exact heq
  · exact absurd b3 (a4 _ b1 hlt)

theorem orb_congr {n : Nat} {S T : Nat → Nat} (hS : IsP n S) (hT : IsP n T) (he : ∀ d, d < n → S d = T d) {d : Nat} (hd : d < n) : orb S d = orb T d := by
  unfold orb
  rw [per_congr hS hT he hd]
  exact List.map_congr_left (fun i _ => (itr_congr hT.lt he hd i).1)

theorem rep_congr {n : Nat} {S T : Nat → Nat} (hS : IsP n S) (hT : IsP n T) (he : ∀ d, d < n → S d = T d) {d : Nat} (hd : d < n) : rep S d = rep T d := by
  unfold rep
  rw [orb_congr hS hT he hd]

theorem ldr_congr {n : Nat} {S T : Nat → Nat} (hS : IsP n S) (hT : IsP n T) (he : ∀ d, d < n → S d = T d) : ∀ i, i ≤ n → ldr S i = ldr T i := by
  intro i
  induction i with
  | zero => intro _; rfl
  | succ i ih =>
    intro hi
    rw [ldr_succ, ldr_succ, ih (by omega), rep_congr hS hT he (by omega)]

/-- How many faces there are. -/
theorem Wd.ldr_ph {ks : List Nat} (h : Wd ks) (hn : 0 < ks.length) : ldr (ph ks) ks.length = cntK ks 2 + 1 := by
  have hT := h.swapped.tn_isP
  rw [swp_length] at hT
  rw [ldr_congr h.ph_isP hT (fun d hd => h.ph_swp hd) _ (Nat.le_refl _)]
  have h1 := h.swapped.ldr_all (by rw [swp_length]; exact hn)
  rw [swp_length, (cntK_swp ks 0 h.k4 (by omega)).1] at h1
  exact h1

/-- Opening ones are half of the letters. -/
theorem Wd.opens_half {ks : List Nat} (h : Wd ks) : 2 * (cntK ks 0 + cntK ks 2) = ks.length := by
  have h1 := h.dend
  have h2 := h.bend
  unfold DD at h1
  unfold BB at h2
  rw [List.take_of_length_le (Nat.le_refl _)] at h1 h2
  have h3 : ∀ l : List Nat, (∀ k ∈ l, k < 4) → cntK l 0 + cntK l 1 + cntK l 2 + cntK l 3 = l.length := by
    intro l
    induction l with
    | nil => intro _; rfl
    | cons x l ih =>
      intro h4
      have h1 := ih (fun y hy => h4 y (by simp [hy]))
      have hx := h4 x (by simp)
      unfold cntK at *
      have hc : (x = 0 ∨ x = 1 ∨ x = 2 ∨ x = 3) := by omega
      rcases hc with rfl | rfl | rfl | rfl <;> simp <;> omega
  have := h3 ks h.k4
  omega

/-- Vertices less edges and faces are two. -/
theorem Wd.euler {ks : List Nat} (h : Wd ks) (hn : 0 < ks.length) : ldr (tn ks) ks.length + ldr (ph ks) ks.length = ks.length / 2 + 2 := by
  rw [h.ldr_all hn, h.ldr_ph hn]
  have := h.opens_half
  omega

theorem PairW.unique {ks : List Nat} {s i j m : Nat} (h : PairW ks s i j) (k : PairW ks s i m) : j = m := by
  rcases Nat.lt_trichotomy j m with hlt | rfl | hlt
  · have := k.above (j + 1) (by have := h.lt; omega) hlt; have := h.hit; omega
  · rfl
  · have := h.above (m + 1) (by have := k.lt; omega) hlt; have := k.hit; omega

theorem Wd.mp_pair {ks : List Nat} (hw : Wd ks) {s i j : Nat} (h : PairW ks s i j) : mp ks i = j := by
  obtain ⟨t, ht, ⟨h1, h2⟩ | ⟨h1, h2⟩⟩ := hw.cases (i := i) (by have := h.lt; have := h.le; omega)
  · have h3 := h.opens
    rw [h1] at h3
    obtain rfl : t = s := by have := Option.some.inj h3; omega
    exact h2.unique h
  · have h3 := h.opens
    rw [h1] at h3
    have := Option.some.inj h3
    omega

end Go.Proofs.YtblkkcpeodoclaaGreatDoor
