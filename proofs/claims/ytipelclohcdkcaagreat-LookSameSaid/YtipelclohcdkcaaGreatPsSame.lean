/- Plain laws: a word's map is planar and of one part, whatever word; the vertices in the order in which they are met. No program is named here. -/
import Derived.Test.YtipelclohcdkcaaGreatPsAsk
import Derived.Test.YtipelclohcdkcaaGreatPsLook17
import Derived.Test.YtipelclohcdkcaaGreatPsDecWk
namespace Go.Proofs.YtipelclohcdkcaaGreat

section
variable {ks : List Nat} (h : Wd ks) (hn : 0 < ks.length)
include h hn

theorem Wd.dec_conn : ∀ x, x < ks.length → Conn ks.length (sg (decL ks)) 0 x := by
  have key : ∀ i, i < ks.length → Conn ks.length (sg (decL ks)) 0 (nmD ks i) := by
    intro i
    induction i with
    | zero => intro _; rw [h.nm_zero hn]; exact Conn.refl _ _ _
    | succ i ih =>
      intro hi
      have h1 := ih (by omega)
      have hmod : (i + 1) % ks.length = i + 1 := Nat.mod_eq_of_lt hi
      by_cases ht : ks.getD i 0 < 2
      · have hm := h.mp_lt (i := i) (by omega)
        have h2 : tn ks (mp ks i) = i + 1 := by
          unfold tn
          rw [if_pos ((h.mp_tree (by omega)).2 ht), h.mp_mp (by omega), hmod]
        have h3 := h1.trans (Conn.mate (h.nm_lt (i := i) (by omega)))
        rw [← h.nm_mate (by omega)] at h3
        have h4 := h3.trans (Conn.turn (S := sg (decL ks)) (h.nm_lt hm))
        rwa [h.dec_nm hm, h2] at h4
      · have h2 : tn ks i = i + 1 := by
          unfold tn
          rw [if_neg ht, hmod]
        have h4 := h1.trans (Conn.turn (S := sg (decL ks)) (h.nm_lt (i := i) (by omega)))
        rwa [h.dec_nm (by omega), h2] at h4
  intro x hx
  have := key _ (h.nm_isP.inv_lt hx)
  rwa [h.nm_isP.inv_to hx] at this

theorem Wd.dec_plane1 : cldr (decL ks).length (sg (decL ks)) (decL ks).length = 1 ∧ genS (partsA (decL ks) 0) = 0 := by
  have hP := h.decL_isP
  have hev := h.even2
  have hc := cldr_one h.decS hev hn (h.dec_conn hn)
  have hl := decL_length ks
  rw [← hl] at hc
  refine ⟨hc, ?_⟩
  rw [genus_one hP (by rw [hl]; exact hev) hc, hl]
  have e1 : ldr (sg (decL ks)) ks.length = ldr (tn ks) ks.length := ldr_conj h.decS h.tn_isP h.nm_isP (fun i hi => h.dec_nm hi)
  have hph : IsP ks.length (sg (phiL (decL ks))) := by
    have := phiL_isP hP (by rw [hl]; exact hev)
    rwa [phiL_length, hl] at this
  have e2 : ldr (sg (phiL (decL ks))) ks.length = ldr (ph ks) ks.length := ldr_conj hph h.ph_isP h.nm_isP (fun i hi => by
    have h1 : sg (phiL (decL ks)) (nmD ks i) = sg (decL ks) (mt (nmD ks i)) := by
      simp [sg, phiL, hl, h.nm_lt hi]
    rw [h1, ← h.nm_mate hi, h.dec_nm (h.mp_lt hi)]
    rfl)
  have h3 := h.euler hn
  rw [e1, e2]
  have : (2 - ((ldr (tn ks) ks.length : Nat) : Int) + ((ks.length / 2 : Nat) : Int) - ((ldr (ph ks) ks.length : Nat) : Int)) = 0 := by omega
  rw [this]; rfl
end

/-- A word's map is told without an error. -/
theorem Wd.enc_zero {k0 : List Nat} (h : Wd k0) {ln : Nat} (hln : ln = if k0.length = 0 then 1 else 0) {rt : Int} {ks : List Nat} {c : Nat} (hE : EncR (decL k0) ln rt ks c) : c = 0 := by
  have key : cldr (decL k0).length (sg (decL k0)) (decL k0).length + ln = 1 ∧ genS (partsA (decL k0) ln) = 0 := by
    by_cases hn : k0.length = 0
    · have hks : k0 = [] := List.eq_nil_of_length_eq_zero hn
      subst hks
      rw [if_pos hn] at hln
      subst hln
      have hd : decL [] = [] := rfl
      rw [hd]
      refine ⟨rfl, ?_⟩
      simp [partsA, partsL, genS]
    · rw [if_neg hn] at hln
      subst hln
      obtain ⟨h1, h2⟩ := h.dec_plane1 (by omega)
      exact ⟨by rw [h1], h2⟩
  rcases hE with ⟨a1, _⟩ | ⟨_, a2, _⟩ | ⟨_, _, a3, _⟩ | ⟨_, _, a3, _⟩
  · exact absurd key.1 a1
  · exact absurd key.2 a2
  · exact a3
  · exact a3

/-- The tree's darts of a walk; the vertices that it meets. -/
def treeL (ps : List (Nat × Nat)) : List Nat := (ps.filter fun p => p.2 == 0).map Prod.fst
noncomputable def ordL (S : Nat → Nat) (ps : List (Nat × Nat)) : List Nat := (ps.take 1).map (fun p => vnum S p.1) ++ (treeL ps).map (fun d => vnum S (mt d))

theorem treeL_step {ps : List (Nat × Nat)} {j : Nat} {p : Nat × Nat} (h : ps[j]? = some p) : treeL (ps.take (j + 1)) = treeL (ps.take j) ++ if p.2 = 0 then [p.1] else [] := by
  unfold treeL
  rw [take_get h, List.filter_append, List.map_append]
  by_cases hp : p.2 = 0 <;> simp [hp]
theorem treeL_length_le (ps : List (Nat × Nat)) : (treeL ps).length ≤ ps.length := by
  unfold treeL; rw [List.length_map]; exact List.length_filter_le _ _

/-- The steps of a right word's walk. -/
noncomputable def stepsL (ks : List Nat) : List (Nat × Nat) := (List.range ks.length).map fun i => (nmD ks i, ks.getD i 0)
theorem stepsL_length (ks : List Nat) : (stepsL ks).length = ks.length := by simp [stepsL]
theorem stepsL_get {ks : List Nat} {i : Nat} (hi : i < ks.length) : (stepsL ks)[i]? = some (nmD ks i, ks.getD i 0) := by simp [stepsL, hi]

theorem treeL_cnt {ks : List Nat} : ∀ j, j ≤ ks.length → (treeL ((stepsL ks).take j)).length = cntK (ks.take j) 0 := by
  intro j
  induction j with
  | zero => intro _; simp [treeL, cntK]
  | succ j ih =>
    intro hj
    have hg : ks[j]? = some (ks.getD j 0) := by rw [List.getD_eq_getElem?_getD, List.getElem?_eq_getElem (by omega)]; rfl
    rw [treeL_step (stepsL_get (by omega)), List.length_append, ih (by omega), cntK_get hg]
    simp only
    split <;> simp

theorem treeL_get {ks : List Nat} {o u : Nat} (h : SelK ks 0 u o) : (treeL (stepsL ks))[u]? = some (nmD ks o) := by
  obtain ⟨h1, h2⟩ := h
  have ho := lt_of_get h1
  have h0 : ks.getD o 0 = 0 := by rw [List.getD_eq_getElem?_getD, h1]; rfl
  have h3 := treeL_step (stepsL_get ho)
  have h4 : (treeL ((stepsL ks).take (o + 1)))[u]? = some (nmD ks o) := by
    rw [h3, List.getElem?_append_right (by rw [treeL_cnt o (by omega), h2]; omega), treeL_cnt o (by omega), h2]
    rw [if_pos h0, Nat.sub_self]
    rfl
  have h5 : stepsL ks = (stepsL ks).take (o + 1) ++ (stepsL ks).drop (o + 1) := (List.take_append_drop _ _).symm
  have h6 : treeL (stepsL ks) = treeL ((stepsL ks).take (o + 1)) ++ treeL ((stepsL ks).drop (o + 1)) := by
    conv => lhs; rw [h5]
    unfold treeL
    rw [List.filter_append, List.map_append]
  rw [h6, List.getElem?_append_left (lt_of_get h4), h4]

section
variable {ks : List Nat} (h : Wd ks)
include h

theorem Wd.vnum_same {i j : Nat} (hi : i < ks.length) (hj : j < ks.length) : vnum (sg (decL ks)) (nmD ks i) = vnum (sg (decL ks)) (nmD ks j) ↔ vx ks i = vx ks j := by
  rw [h.decS.vnum_iff (h.nm_lt hi) (h.nm_lt hj), ← h.sameO_vx hi hj]
  have hitr : ∀ m, itr (sg (decL ks)) m (nmD ks i) = nmD ks (itr (tn ks) m i) := by
    intro m
    induction m with
    | zero => rfl
    | succ m ih =>
      show sg (decL ks) (itr (sg (decL ks)) m (nmD ks i)) = nmD ks (tn ks (itr (tn ks) m i))
      rw [ih, h.dec_nm (h.tn_isP.itr_lt hi m)]
  constructor
  · rintro ⟨m, hm⟩
    rw [hitr] at hm
    exact ⟨m, h.nm_isP.inj _ _ (h.tn_isP.itr_lt hi m) hj hm⟩
  · rintro ⟨m, hm⟩
    exact ⟨m, by rw [hitr, hm]⟩

/-- The vertex of a place stands in the order at the place's own vertex's number. -/
theorem Wd.ord_get {i : Nat} (hi : i < ks.length) : (ordL (sg (decL ks)) (stepsL ks))[vx ks i]? = some (vnum (sg (decL ks)) (nmD ks i)) := by
  have hn : 0 < ks.length := by omega
  have hv : vx ks i < nvK ks := by
    have := h.vx_lt (j := ks.length) (p := i) (by omega) (Nat.le_refl _)
    rw [List.take_of_length_le (Nat.le_refl _)] at this
    exact this
  obtain ⟨f, hf, hfn⟩ := first_ex h hn hv
  have hvf : vx ks f = vx ks i := by
    have h1 := h.orb_first hf hfn
    have h2 : f ∈ orb (tn ks) f := by
      unfold orb
      exact List.mem_map.2 ⟨0, List.mem_range.2 (h.tn_isP.per_spec hfn).1, rfl⟩
    rw [h1] at h2
    exact (mem_pl.1 h2).2
  rw [← (h.vnum_same hfn hi).2 hvf]
  have h1 : (stepsL ks).take 1 = [(nmD ks 0, ks.getD 0 0)] := by
    have := take_get (stepsL_get hn)
    simpa using this
  unfold ordL
  rw [h1]
  rcases hf with ⟨h0, _⟩ | ⟨_, hv0, hf0⟩ | ⟨_, u, o, hu, hs, hfo⟩
  · omega
  · obtain rfl : f = 0 := by omega
    rw [hv0]; rfl
  · obtain rfl : f = o + 1 := by omega
    rw [hu, List.getElem?_append_right (by simp)]
    simp only [List.map_cons, List.map_nil, List.length_cons, List.length_nil]
    rw [List.getElem?_map]
    have h5 := treeL_get hs
    rw [show (u + 1 - (0 + 1)) = u by omega, h5]
    have ho := lt_of_get hs.1
    have h0 : ks.getD o 0 = 0 := by rw [List.getD_eq_getElem?_getD, hs.1]; rfl
    have hm := h.mp_lt ho
    have h2 : tn ks (mp ks o) = o + 1 := by
      unfold tn
      rw [if_pos ((h.mp_tree ho).2 (by omega)), h.mp_mp ho, Nat.mod_eq_of_lt hfn]
    simp only [Option.map_some, Option.some.injEq]
    rw [← h.nm_mate ho, h.vnum_same hm hfn, ← h.sameO_vx hm hfn]
    exact ⟨1, h2⟩

/-- How many darts a vertex has. -/
theorem Wd.deg_count {i f : Nat} (hi : i < ks.length) (hf : FirstOf ks (vx ks i) f) (hfn : f < ks.length) :
    ((List.range (decL ks).length).filter fun d => vnum (sg (decL ks)) d == vnum (sg (decL ks)) (nmD ks i)).length = per (tn ks) f := by
  have e1 : per (tn ks) f = ((pl ks (vx ks i)).map (nmD ks)).length := by rw [List.length_map, ← h.orb_first hf hfn, orb_length]
  have hnd : ((pl ks (vx ks i)).map (nmD ks)).Nodup := List.pairwise_map.2 ((pl_sorted ks _).imp_of_mem (fun ha hb hlt he => by
    have := h.nm_isP.inj _ _ (mem_pl.1 ha).1 (mem_pl.1 hb).1 he
    omega))
  rw [e1, decL_length]
  refine nodup_eq_len (List.Pairwise.filter _ List.nodup_range) hnd (fun x => ?_)
  rw [List.mem_filter, List.mem_range, List.mem_map]
  constructor
  · rintro ⟨hx, he⟩
    have hj := h.nm_isP.inv_lt hx
    have hje := h.nm_isP.inv_to hx
    refine ⟨invP (nmD ks) x, mem_pl.2 ⟨hj, ?_⟩, hje⟩
    rw [← h.vnum_same hj hi, hje]
    exact eq_of_beq he
  · rintro ⟨j, hj, rfl⟩
    obtain ⟨h1, h2⟩ := mem_pl.1 hj
    exact ⟨h.nm_lt h1, beq_iff_eq.2 ((h.vnum_same h1 hi).2 h2)⟩
end

end Go.Proofs.YtipelclohcdkcaaGreat
