/- Plain laws: the walk around the map of a right word tells that word; it is of one part, and planar. No program is named here. -/
import Derived.Test.YtipelclohcdkcaaGreatPsPlans
import Derived.Test.YtipelclohcdkcaaGreatPsEnc
import Derived.Test.YtipelclohcdkcaaGreatPsRight
namespace Go.Proofs.YtipelclohcdkcaaGreat

theorem PairW.own {ks : List Nat} {o i : Nat} (h : PairW ks 0 o i) : OwnAt ks i o := by
  obtain ⟨h1, h2⟩ := h.DD
  have h3 := DD_succ h.closes
  have e : dd (2 * 0 + 1) = -1 := rfl
  rw [e] at h3
  exact ⟨h.lt, h.opens, by omega, h2⟩

/-- As many orbits where one permutation is another by other names. -/
theorem ldr_conj_le {n : Nat} {S T D : Nat → Nat} (hS : IsP n S) (hT : IsP n T) (hD : IsP n D) (hc : ∀ i, i < n → S (D i) = D (T i)) : ldr S n ≤ ldr T n := by
  have hitr : ∀ m i, i < n → itr S m (D i) = D (itr T m i) := by
    intro m i hi
    induction m with
    | zero => rfl
    | succ m ih =>
      show S (itr S m (D i)) = D (T (itr T m i))
      rw [ih, hc _ (hT.itr_lt hi m)]
  have h1 := nodup_sub (((List.range n).filter fun x => rep S x == x).map fun x => rep T (invP D x)) ((List.range n).filter fun x => rep T x == x) (by
    rw [List.Nodup, List.pairwise_map]
    have hn : ((List.range n).filter fun x => rep S x == x).Nodup := List.Pairwise.filter _ List.nodup_range
    refine List.Pairwise.imp_of_mem (fun {x y} hx hy hxy e => hxy ?_) hn
    simp only [List.mem_filter, List.mem_range, beq_iff_eq] at hx hy
    obtain ⟨m, hm⟩ := (hT.rep_iff (hD.inv_lt hx.1) (hD.inv_lt hy.1)).1 e
    have h2 := hitr m _ (hD.inv_lt hx.1)
    rw [hm, hD.inv_to hx.1, hD.inv_to hy.1] at h2
    rw [← hx.2, ← hy.2]
    exact (hS.rep_iff hx.1 hy.1).2 ⟨m, h2⟩) (fun z hz => by
    obtain ⟨x, hx, rfl⟩ := List.mem_map.1 hz
    simp only [List.mem_filter, List.mem_range, beq_iff_eq] at hx ⊢
    exact ⟨hT.rep_lt (hD.inv_lt hx.1), hT.rep_rep (hD.inv_lt hx.1)⟩)
  rw [List.length_map] at h1
  exact h1

theorem inv_isP {n : Nat} {D : Nat → Nat} (h : IsP n D) : IsP n (invP D) :=
  ⟨fun _ hd => h.inv_lt hd, fun d e hd he hh => by rw [← h.inv_to hd, hh, h.inv_to he]⟩

theorem ldr_conj {n : Nat} {S T D : Nat → Nat} (hS : IsP n S) (hT : IsP n T) (hD : IsP n D) (hc : ∀ i, i < n → S (D i) = D (T i)) : ldr S n = ldr T n := by
  refine Nat.le_antisymm (ldr_conj_le hS hT hD hc) (ldr_conj_le hT hS (inv_isP hD) (fun i hi => ?_))
  have h1 := hc _ (hD.inv_lt hi)
  rw [hD.inv_to hi] at h1
  rw [h1, hD.inv_of (hT.lt _ (hD.inv_lt hi))]

section
variable {ks : List Nat} (h : Wd ks)
include h

theorem Wd.decS : IsP ks.length (sg (decL ks)) := by
  have := h.decL_isP
  rwa [decL_length] at this

theorem Wd.dec_nm {i : Nat} (hi : i < ks.length) : sg (decL ks) (nmD ks i) = nmD ks (tn ks i) := by
  rw [sg_decL (h.nm_lt hi), h.sD_nm hi]

theorem Wd.nm_zero (hn : 0 < ks.length) : nmD ks 0 = 0 := by
  obtain ⟨s, hs, ⟨h1, h2⟩ | ⟨h1, h2⟩⟩ := h.cases hn
  · unfold nmD
    rw [getD_of h1, if_pos (by omega)]
    simp [oc]
  · have := h2.lt; omega

theorem Wd.vert_nm {i j : Nat} (hi : i < ks.length) (hj : j < ks.length) : vnum (sg (decL ks)) (nmD ks i) = vnum (sg (decL ks)) (nmD ks j) ↔ vx ks i = vx ks j := by
  rw [h.decS.vnum_iff (h.nm_lt hi) (h.nm_lt hj), ← h.sameO_vx hi hj]
  have hitr : ∀ m, itr (sg (decL ks)) m (nmD ks i) = nmD ks (itr (tn ks) m i) := by
    intro m
    induction m with
    | zero => rfl
    | succ m ih =>
      show sg (decL ks) (itr (sg (decL ks)) m (nmD ks i)) = nmD ks (tn ks (itr (tn ks) m i))
      rw [ih, h.dec_nm (h.tn_isP.itr_lt hi m)]
  constructor
  · rintro ⟨m, hm⟩
    rw [hitr] at hm
    exact ⟨m, h.nm_isP.inj _ _ (h.tn_isP.itr_lt hi m) hj hm⟩
  · rintro ⟨m, hm⟩
    exact ⟨m, by rw [hitr, hm]⟩

/-- What the walk has told after j steps: the first j places' darts, and their letters. -/
theorem Wd.dec_walk (hC : CanonOk ks) (hn : 0 < ks.length) : ∀ j, j ≤ ks.length → wlk (sg (decL ks)) (vnum (sg (decL ks))) 0 j = (nmD ks (j % ks.length), (List.range j).map fun i => (nmD ks i, ks.getD i 0)) := by
  intro j
  induction j with
  | zero =>
    intro _
    rw [Nat.zero_mod, h.nm_zero hn]; rfl
  | succ j ih =>
    intro hj
    have ih := ih (by omega)
    have hjl : j < ks.length := by omega
    have hjm : j % ks.length = j := Nat.mod_eq_of_lt hjl
    rw [hjm] at ih
    show wstep _ _ _ (wlk _ _ _ j) = _
    rw [ih]
    have hvis : ∀ x, x < ks.length → (vis ((List.range j).map fun i => (nmD ks i, ks.getD i 0)) (nmD ks x) ↔ x < j) := by
      intro x hx
      rw [vis_map, List.map_map]
      simp only [List.mem_map, List.mem_range, Function.comp]
      constructor
      · rintro ⟨y, hy, he⟩
        have := h.nm_isP.inj _ _ (by omega) hx he
        omega
      · intro hxj
        exact ⟨x, hxj, rfl⟩
    have hml := h.mp_lt hjl
    have hmt := h.nm_mate hjl
    have hnv : ¬ vis ((List.range j).map fun i => (nmD ks i, ks.getD i 0)) (nmD ks j) := fun e => by have := (hvis j hjl).1 e; omega
    have hkind : kindB (vnum (sg (decL ks))) 0 ((List.range j).map fun i => (nmD ks i, ks.getD i 0)) (nmD ks j) = ks.getD j 0 := by
      obtain ⟨s, hs, ⟨h1, h2⟩ | ⟨h1, h2⟩⟩ := h.cases hjl
      · rw [getD_of h1]
        unfold kindB
        rcases find_half hnv with ⟨k, hf, hm⟩ | ⟨hf, hm⟩
        · exfalso
          have : vis ((List.range j).map fun i => (nmD ks i, ks.getD i 0)) (nmD ks (mp ks j)) := ⟨k, by rw [hmt]; exact hm⟩
          have := (hvis _ hml).1 this
          have := h2.lt
          omega
        · rw [hf]
          simp only
          rw [← hmt]
          have hmet : metB (vnum (sg (decL ks))) 0 ((List.range j).map fun i => (nmD ks i, ks.getD i 0)) (vnum (sg (decL ks)) (nmD ks (mp ks j))) = true ↔ (vx ks (mp ks j) = 0 ∨ ∃ o, o < j ∧ ks[o]? = some 0 ∧ vx ks (mp ks j) = vo ks o) := by
            unfold metB
            rw [Bool.or_eq_true, beq_iff_eq, List.any_eq_true]
            have e0 := h.vert_nm hml hn
            rw [h.nm_zero hn, h.vx_zero] at e0
            rw [e0]
            refine or_congr Iff.rfl ⟨?_, ?_⟩
            · rintro ⟨⟨x, k⟩, hx, hk⟩
              obtain ⟨o, ho, he⟩ := List.mem_map.1 hx
              have hol := List.mem_range.1 ho
              simp only [Prod.mk.injEq] at he
              obtain ⟨rfl, rfl⟩ := he
              rw [Bool.and_eq_true, beq_iff_eq, beq_iff_eq] at hk
              have hk0 : ks.getD o 0 = 0 := hk.1
              have hv : vnum (sg (decL ks)) (mt (nmD ks o)) = vnum (sg (decL ks)) (nmD ks (mp ks j)) := hk.2
              have hog := List.getElem?_eq_getElem (l := ks) (i := o) (by omega)
              rw [getD_of hog] at hk0
              rw [hk0] at hog
              refine ⟨o, hol, hog, ?_⟩
              rw [← h.nm_mate (by omega : o < ks.length)] at hv
              rw [← (h.vert_nm (h.mp_lt (by omega : o < ks.length)) hml).1 hv]
              obtain ⟨s', hs', ⟨g1, g2⟩ | ⟨g1, g2⟩⟩ := h.cases (i := o) (by omega)
              · rw [hog] at g1
                obtain rfl : s' = 0 := by have := Option.some.inj g1; omega
                exact h.vx_own (Nat.le_of_lt g2.le) g2.own
              · rw [hog] at g1
                have := Option.some.inj g1; omega
            · rintro ⟨o, ho, hog, hv⟩
              refine ⟨(nmD ks o, ks.getD o 0), List.mem_map.2 ⟨o, List.mem_range.2 ho, rfl⟩, ?_⟩
              rw [Bool.and_eq_true, beq_iff_eq, beq_iff_eq]
              refine ⟨getD_of hog, ?_⟩
              show vnum (sg (decL ks)) (mt (nmD ks o)) = _
              rw [← h.nm_mate (by omega : o < ks.length)]
              refine (h.vert_nm (h.mp_lt (by omega : o < ks.length)) hml).2 ?_
              rw [hv]
              obtain ⟨s', hs', ⟨g1, g2⟩ | ⟨g1, g2⟩⟩ := h.cases (i := o) (by omega)
              · rw [hog] at g1
                obtain rfl : s' = 0 := by have := Option.some.inj g1; omega
                exact h.vx_own (Nat.le_of_lt g2.le) g2.own
              · rw [hog] at g1
                have := Option.some.inj g1; omega
          have hs01 : s = 0 ∨ s = 1 := by omega
          rcases hs01 with rfl | rfl
          · have hv : vx ks (mp ks j) = vo ks j := h.vx_own (Nat.le_of_lt h2.le) h2.own
            rw [if_neg (fun e => ?_)]
            rcases hmet.1 e with e | ⟨o, ho, hog, e⟩
            · rw [hv] at e
              unfold vo at e; omega
            · rw [hv] at e
              have := vo_inj h1 hog e
              omega
          · rw [if_pos (hmet.2 ?_)]
            rcases h.own_or (j := mp ks j) (by omega) with e | ⟨o, ho⟩
            · exact .inl (h.vx_none (by omega) e)
            · refine .inr ⟨o, ?_, ho.opens, h.vx_own (by omega) ho⟩
              obtain ⟨r, hr⟩ := h.bal.owner (i := mp ks j) (by omega)
              have hc := hC (mp ks j) j r h2.closes (h.mate hjl).symm hr
              have hro : r = (o : Nat) := by
                rcases Int.lt_or_le r 0 with hneg | hpos
                · exfalso
                  rcases hr with ⟨e1, _⟩ | ⟨_, o', n', _, _, rfl⟩
                  · rw [ex_DD (by omega)] at e1
                    have := ho.hit
                    have := h.dpos (p := o) (by have := ho.lt; omega)
                    omega
                  · omega
                · obtain ⟨m, rfl⟩ := Int.eq_ofNat_of_zero_le hpos
                  rw [(hr.own (by omega)).unique ho]
              rw [hro] at hc
              have hne : o ≠ j := fun e => by
                have := ho.opens
                rw [e, h1] at this
                have := Option.some.inj this; omega
              omega
      · rw [getD_of h1]
        unfold kindB
        rcases find_half hnv with ⟨k, hf, hm⟩ | ⟨hf, hm⟩
        · rw [hf]
          simp only
          rw [← hmt] at hm
          obtain ⟨x, hx, he⟩ := List.mem_map.1 hm
          have hxl := List.mem_range.1 hx
          simp only [Prod.mk.injEq] at he
          obtain ⟨e1, e2⟩ := he
          have := h.nm_isP.inj _ _ (by omega) hml e1
          subst this
          rw [← e2, getD_of h2.opens]
        · exfalso
          apply hm
          rw [← hmt]
          exact (hvis _ hml).2 h2.lt
    have hst : wstep (sg (decL ks)) (vnum (sg (decL ks))) 0 (nmD ks j, (List.range j).map fun i => (nmD ks i, ks.getD i 0)) = (sg (decL ks) (if ks.getD j 0 < 2 then mt (nmD ks j) else nmD ks j), ((List.range j).map fun i => (nmD ks i, ks.getD i 0)) ++ [(nmD ks j, ks.getD j 0)]) := by
      unfold wstep
      simp only [hkind]
    rw [hst, List.range_succ, List.map_append]
    congr 1
    by_cases h2 : ks.getD j 0 < 2
    · rw [if_pos h2, ← hmt, h.dec_nm hml]
      unfold tn
      rw [if_pos ((h.tree_mate hjl).2 h2), h.mp_mp hjl]
    · rw [if_neg h2, h.dec_nm hjl]
      unfold tn
      rw [if_neg h2]

end

/-- A walk that has come to its end has one length. -/
theorem WkEnd.unique {n : Nat} {S vert : Nat → Nat} {root T T' : Nat} (h : WkEnd n S vert root T) (h' : WkEnd n S vert root T') : T = T' := by
  classical
  have h1 := h.total (fun x => decide (Conn n S root x)) (fun x _ => by simp)
  have h2 := h'.total (fun x => decide (Conn n S root x)) (fun x _ => by simp)
  omega

section
variable {ks : List Nat} (h : Wd ks) (hC : CanonOk ks) (hn : 0 < ks.length)
include h hC hn

theorem Wd.dec_end : WkEnd ks.length (sg (decL ks)) (vnum (sg (decL ks))) 0 ks.length ∧ ∀ x, x < ks.length → Conn ks.length (sg (decL ks)) 0 x := by
  have hP := h.decS
  obtain ⟨T, hE, hend, hT⟩ := wlk_told hP h.even2 (fun x y hx hy => hP.vnum_iff hx hy) hn
  have hTn : T = ks.length := by
    rcases Nat.lt_trichotomy T ks.length with hlt | heq | hlt
    · exfalso
      rw [h.dec_walk hC hn T (by omega), Nat.mod_eq_of_lt hlt] at hend
      have h1 := h.nm_isP.inj T 0 hlt hn (by rw [h.nm_zero hn]; exact hend)
      have := hT.pos
      omega
    · exact heq
    · exfalso
      have := hE.le
      omega
  subst hTn
  refine ⟨hE, fun x hx => ?_⟩
  refine (hE.cov x hx).2 ?_
  rw [h.dec_walk hC hn _ (Nat.le_refl _), vis_map, List.map_map]
  obtain ⟨i, hi, rfl⟩ := h.nm_isP.back hx
  exact List.mem_map.2 ⟨i, List.mem_range.2 hi, rfl⟩
end

/-- All of one part. -/
theorem cldr_one {n : Nat} {S : Nat → Nat} (h : IsP n S) (he : n % 2 = 0) (hn : 0 < n) (hc : ∀ x, x < n → Conn n S 0 x) : cldr n S n = 1 := by
  have h0 : ∀ x, x < n → crep n S x = 0 := fun x hx => Nat.le_zero.1 (crep_le (h.conn_symm he hn (hc x hx)))
  have h1 : ∀ m, m ≤ n → cldr n S m = if m = 0 then 0 else 1 := by
    intro m
    induction m with
    | zero => intro _; rfl
    | succ m ih =>
      intro hm
      rw [cldr_succ, ih (by omega), h0 m (by omega)]
      by_cases e : m = 0
      · subst e; rfl
      · rw [if_neg e, if_neg (by omega), if_neg (by omega)]
  rw [h1 n (Nat.le_refl _), if_neg (by omega)]

/-- The genus of a map of one part. -/
theorem genus_one {s : List Nat} (h : IsP s.length (sg s)) (he : s.length % 2 = 0) (hc : cldr s.length (sg s) s.length = 1) :
    genS (partsA s 0) = (2 - ((ldr (sg s) s.length : Nat) : Int) + ((s.length / 2 : Nat) : Int) - ((ldr (sg (phiL s)) s.length : Nat) : Int)).tdiv 2 := by
  have hcn : ∀ x, x < s.length → sg (cnL s) x = 0 := fun x hx => by
    rw [sg_cnL hx]
    have := h.cnum_lt he hx
    omega
  have hof : ∀ l : List Nat, ofN l (cnL s) 0 s.length = ldr (sg l) s.length := fun l => by
    unfold ofN ldr
    congr 1
    refine List.filter_congr (fun x hx => ?_)
    rw [hcn x (List.mem_range.1 hx)]
    simp
  have hct : cntN (cnL s) 0 s.length = s.length := by
    unfold cntN
    rw [List.filter_eq_self.2 (fun x hx => by rw [hcn x (List.mem_range.1 hx)]; rfl), List.length_range]
  obtain ⟨p, hp⟩ : ∃ p, partsL s s.length = [p] := by
    have := partsL_length s s.length
    rw [hc] at this
    exact List.length_eq_one_iff.1 this
  have hp0 : p ∈ partsL s s.length := by rw [hp]; simp
  obtain ⟨d, hd, rfl⟩ := List.mem_map.1 hp0
  have hdn := List.mem_range.1 (List.mem_filter.1 hd).1
  have hcd : cnum s.length (sg s) d = 0 := by have := h.cnum_lt he hdn; omega
  unfold partsA
  rw [hp]
  unfold genS partI ptG ptV ptB ptE
  rw [hcd, hof, hof, hct]
  simp



/-- What is said of a map's word is one thing. -/
theorem EncR.unique {s : List Nat} {lone : Nat} {rt : Int} {ks ks' : List Nat} {c c' : Nat} (h : EncR s lone rt ks c) (h' : EncR s lone rt ks' c') : ks = ks' ∧ c = c' := by
  rcases h with ⟨a1, a2, a3⟩ | ⟨a1, a2, a3, a4⟩ | ⟨a1, a2, a3, a4, a5⟩ | ⟨a1, a2, a3, r, T, a4, a5, a6, a7⟩ <;>
    rcases h' with ⟨b1, b2, b3⟩ | ⟨b1, b2, b3, b4⟩ | ⟨b1, b2, b3, b4, b5⟩ | ⟨b1, b2, b3, r', T', b4, b5, b6, b7⟩
  · exact ⟨by rw [a3, b3], by omega⟩
  · exact absurd b1 a1
  · exact absurd b1 a1
  · exact absurd b1 a1
  · exact absurd a1 b1
  · exact ⟨by rw [a4, b4], by omega⟩
  · exact absurd b2 a2
  · exact absurd b2 a2
  · exact absurd a1 b1
  · exact absurd a2 b2
  · exact ⟨by rw [a5, b5], by omega⟩
  · omega
  · exact absurd a1 b1
  · exact absurd a2 b2
  · omega
  · obtain rfl : r = r' := by omega
    obtain rfl := a6.unique b6
    exact ⟨by rw [a7, b7], by omega⟩

theorem EncR.right {s : List Nat} {lone : Nat} {rt : Int} {ks : List Nat} {c : Nat} (h : EncR s lone rt ks c) : WRight ks ∧ ks.length ≤ s.length := by
  rcases h with ⟨_, _, rfl⟩ | ⟨_, _, _, rfl⟩ | ⟨_, _, _, _, rfl⟩ | ⟨_, _, _, root, T, _, _, hT, rfl⟩
  · exact ⟨WRight.nil, Nat.zero_le _⟩
  · exact ⟨WRight.nil, Nat.zero_le _⟩
  · exact ⟨WRight.nil, Nat.zero_le _⟩
  · exact ⟨hT.right, by rw [kso_length, wlk_length]; exact hT.le⟩

theorem WRight.wd {ks : List Nat} (h : WRight ks) : Wd ks := ⟨h.k4, h.bal⟩
theorem WRight.canon {ks : List Nat} (h : WRight ks) : CanonOk ks := fun _ _ _ h1 h2 h3 => h.check h1 h2 h3

end Go.Proofs.YtipelclohcdkcaaGreat
