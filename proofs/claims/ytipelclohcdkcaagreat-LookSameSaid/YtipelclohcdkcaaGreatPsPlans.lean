/- Joined texts: Cyc, Plan. -/
import Derived.Test.YtipelclohcdkcaaGreatPsVx
import Derived.Test.YtipelclohcdkcaaGreatPsWlk
/- Plain laws: how many orbits a permutation has, two places exchanged ahead of it; chords that cross cost orbits. No program is named here. -/
namespace Go.Proofs.YtipelclohcdkcaaGreat

/-- Two places exchanged. -/
def xch (i j d : Nat) : Nat := if d = i then j else if d = j then i else d

theorem xch_lt {n i j d : Nat} (hi : i < n) (hj : j < n) (hd : d < n) : xch i j d < n := by
  unfold xch
  split
  · exact hj
  · split
    · exact hi
    · exact hd
theorem xch_xch (i j d : Nat) : xch i j (xch i j d) = d := by
  unfold xch
  by_cases h1 : d = i
  · by_cases h2 : j = i
    · simp [h1, h2]
    · simp [h1, h2]
  · by_cases h2 : d = j
    · simp [h2]
    · simp [h1, h2]
theorem IsP.tw {n : Nat} {S : Nat → Nat} (h : IsP n S) {i j : Nat} (hi : i < n) (hj : j < n) : IsP n (fun d => S (xch i j d)) :=
  ⟨fun d hd => h.lt _ (xch_lt hi hj hd), fun d e hd he hh => by
    have := h.inj _ _ (xch_lt hi hj hd) (xch_lt hi hj he) hh
    rw [← xch_xch i j d, this, xch_xch]⟩

end Go.Proofs.YtipelclohcdkcaaGreat

/- Plain laws of the walk of a planar map: each letter's mate in the word is the place of its dart's mate. No program is named here. -/
namespace Go.Proofs.YtipelclohcdkcaaGreat

/-- A walk that is told whole: its darts D, its word ks. -/
structure WkT (n : Nat) (S : Nat → Nat) (root T : Nat) (D : Nat → Nat) (ks : List Nat) : Prop where
  len : ks.length = T
  pos : 0 < T
  zero : D 0 = root
  lt : ∀ i, i < T → D i < n
  inj : ∀ i j, i < T → j < T → D i = D j → i = j
  cov : ∀ x, x < n → Conn n S root x → ∃ i, i < T ∧ D i = x
  next : ∀ i, i < T → D ((i + 1) % T) = S (if ks.getD i 0 < 2 then mt (D i) else D i)
  right : WRight ks
  close : ∀ i, ks[i]? = some 1 → ∃ j, PairW ks 0 j i ∧ D j = mt (D i)
  rgt : ∀ i, ks[i]? = some 3 → ∃ j, j < i ∧ ks[j]? = some 2 ∧ D j = mt (D i)
  fst : ∀ i k, ks[i]? = some k → k % 2 = 0 → ∀ j, j < i → D j ≠ mt (D i)
  met : ∀ i, i < T → SameO S (D i) root ∨ ∃ j, ks[j]? = some 0 ∧ SameO S (D i) (mt (D j))
  new : ∀ i j, ks[i]? = some 0 → j < i → ¬ SameO S (D j) (mt (D i))

theorem wlk_prefix (S vert : Nat → Nat) (root : Nat) : ∀ m j, ∃ l, (wlk S vert root (j + m)).2 = (wlk S vert root j).2 ++ l
  | 0, j => ⟨[], by simp⟩
  | m + 1, j => by
    obtain ⟨l, hl⟩ := wlk_prefix S vert root m j
    refine ⟨l ++ [((wlk S vert root (j + m)).1, kindB vert root (wlk S vert root (j + m)).2 (wlk S vert root (j + m)).1)], ?_⟩
    rw [← List.append_assoc, ← hl]
    rfl

/-- What is told at a place: the dart that is looked at then, and its kind. -/
theorem wlk_at (S vert : Nat → Nat) (root : Nat) {i T : Nat} (hi : i < T) : (wlk S vert root T).2[i]? = some ((wlk S vert root i).1, kindB vert root (wlk S vert root i).2 (wlk S vert root i).1) := by
  obtain ⟨l, hl⟩ := wlk_prefix S vert root (T - (i + 1)) (i + 1)
  rw [show i + 1 + (T - (i + 1)) = T by omega] at hl
  rw [hl, List.getElem?_append_left (by rw [wlk_length]; omega)]
  show ((wlk S vert root i).2 ++ [_])[i]? = _
  rw [List.getElem?_append_right (by rw [wlk_length]; omega), wlk_length]
  simp

theorem wlk_old (S vert : Nat → Nat) (root : Nat) {i T : Nat} (hi : i ≤ T) : (wlk S vert root T).2.take i = (wlk S vert root i).2 := by
  obtain ⟨l, hl⟩ := wlk_prefix S vert root (T - i) i
  rw [show i + (T - i) = T by omega] at hl
  rw [hl, List.take_append_of_le_length (by rw [wlk_length]; omega), List.take_of_length_le (by rw [wlk_length]; omega)]

theorem wlk_mem (S vert : Nat → Nat) (root : Nat) {i : Nat} {x k : Nat} (h : (x, k) ∈ (wlk S vert root i).2) : ∃ j, j < i ∧ (wlk S vert root j).1 = x ∧ kindB vert root (wlk S vert root j).2 (wlk S vert root j).1 = k := by
  obtain ⟨j, hj, hjx⟩ := List.mem_iff_getElem.1 h
  rw [wlk_length] at hj
  have := wlk_at S vert root hj
  rw [List.getElem?_eq_getElem (by rw [wlk_length]; exact hj), hjx] at this
  simp only [Option.some.injEq, Prod.mk.injEq] at this
  exact ⟨j, hj, this.1.symm, this.2.symm⟩

theorem DInv.closeLast {n : Nat} {S vert : Nat → Nat} (h : IsP n S) {root r : Nat} {f : Fr} {rest : List Fr} {d : Nat} {out : List (Nat × Nat)} (I : DInv n S vert root r (f :: rest) d out) (hd : ¬ vis out d) (hm : (mt d, 0) ∈ out) :
    f.k + 1 = per S f.a ∧ out[f.o]? = some (mt d, 0) := by
  have hc := I.chain
  have hcur : d = itr S f.k f.a := I.cur
  have hlast : f.k + 1 = per S f.a := by
    rcases I.half (mt d) 0 hm (by rw [mt_mt]; exact hd) with ⟨_, g, hg, hgl⟩ | h2
    · rw [mt_mt] at hgl
      rcases List.mem_cons.1 hg with rfl | hg
      · have hfa := hc.1.1
        have hp := (h.per_spec hfa).1
        have := h.itr_diff hfa (i := per S g.a - 1) (j := g.k) (by omega) hc.1.2.1 (by rw [hgl, hcur])
        omega
      · exfalso
        have h1 := (List.pairwise_cons.1 I.apart).1 g hg
        have hga := (hc.2.lt g hg).1
        exact h1 (SameO.trans (show SameO S f.a d from ⟨f.k, hcur.symm⟩) (h.sameO_symm hga ⟨_, hgl⟩))
    · omega
  refine ⟨hlast, ?_⟩
  have h1 := hc.1.2.2.2.1
  have h2 := hc.1.2.2.2.2
  have h3 : per S f.a - 1 = f.k := by omega
  rw [h3, ← hcur] at h1
  rw [h2, h1, mt_mt]

/-- The walk, told whole. -/
theorem wlk_told {n : Nat} {S vert : Nat → Nat} (h : IsP n S) (he : n % 2 = 0) (hv : ∀ x y, x < n → y < n → (vert x = vert y ↔ SameO S x y)) {root : Nat} (hr : root < n) :
    ∃ T, WkEnd n S vert root T ∧ (wlk S vert root T).1 = root ∧ WkT n S root T (fun i => (wlk S vert root i).1) (kso (wlk S vert root T).2) := by
  have hvt : ∀ x, x < n → vert (S x) = vert x := fun x hx => ((hv x (S x) hx (h.lt x hx)).2 (SameO.step S x)).symm
  obtain ⟨T, r, I, hd, hall⟩ := dfs_end h he hv hr n 0 0 [] (by omega) (dinv_zero hv hr) (fun i hi => by omega)
  have key : ∀ j, j ≤ T → ∃ r st pend, DInv n S vert root r st (wlk S vert root j).1 (wlk S vert root j).2 ∧ WInv (wlk S vert root j).2 st pend := by
    intro j
    induction j with
    | zero => intro _; exact ⟨0, [], [], dinv_zero hv hr, winv_zero⟩
    | succ j ih =>
      intro hj
      obtain ⟨r1, st1, pend, I1, W1⟩ := ih (by omega)
      obtain ⟨r2, st2, I2, hn2⟩ := hall j (by omega)
      obtain ⟨f1, f2, f3⟩ := I2.fresh h hr hn2
      have hn1 : ¬ DDone S root r1 st1 := fun hd1 => f3 (I1.all h hr hd1 hvt f2)
      obtain ⟨r3, st3, hs, I3⟩ := I1.step h he hv hr hn1
      obtain ⟨pend', W3⟩ := W1.step h hr I1 f3 hs
      exact ⟨r3, st3, pend', I3, W3⟩
  have hcur : ∀ j, j < T → (wlk S vert root j).1 < n ∧ ¬ vis (wlk S vert root j).2 (wlk S vert root j).1 := fun j hj => by
    obtain ⟨r2, st2, I2, hn2⟩ := hall j hj
    obtain ⟨f1, f2, f3⟩ := I2.fresh h hr hn2
    exact ⟨f1, f3⟩
  have hT0 : 0 < T := by
    rcases Nat.eq_zero_or_pos T with h0 | h0
    · exfalso
      subst h0
      have := I.all h hr hd hvt (Conn.refl n S root)
      exact vis_nil _ this
    · exact h0
  obtain ⟨T', hE⟩ := wlk_end h he hv hr
  have hend : (wlk S vert root T).1 = root := by
    have h1 := I.cur
    rw [h1]
    show itr S r root = root
    rw [hd.2]
    exact (h.per_spec hr).2.2.1
  have hTT : T' = T := by
    have h2 : (wlk S vert root T').1 = (wlk S vert root T').1 := rfl
    rcases Nat.lt_trichotomy T' T with hlt | heq | hlt
    · exfalso
      obtain ⟨h3, h4⟩ := hcur T' hlt
      have h5 := (hall T' hlt)
      obtain ⟨r2, st2, I2, hn2⟩ := h5
      obtain ⟨f1, f2, f3⟩ := I2.fresh h hr hn2
      exact f3 ((hE.cov _ f1).1 f2)
    · exact heq
    · exfalso
      obtain ⟨h3, h4⟩ := hE.cur T hlt
      exact h4 (I.all h hr hd hvt (by rw [hend]; exact Conn.refl n S root))
  subst hTT
  have hks : (kso (wlk S vert root T').2).length = T' := by rw [kso_length, wlk_length]
  have hkat : ∀ i, i < T' → (kso (wlk S vert root T').2)[i]? = some (kindB vert root (wlk S vert root i).2 (wlk S vert root i).1) := fun i hi => by
    unfold kso
    rw [List.getElem?_map, wlk_at S vert root hi]; rfl
  have hkt : ∀ i, i ≤ T' → (kso (wlk S vert root T').2).take i = kso (wlk S vert root i).2 := fun i hi => by
    unfold kso
    rw [← List.map_take, wlk_old S vert root hi]
  have hinj : ∀ i j, i < j → j < T' → (wlk S vert root i).1 ≠ (wlk S vert root j).1 := fun i j hij hj e => by
    have := wlk_at S vert root (T := j) hij
    exact (hcur j hj).2 ⟨_, e ▸ List.mem_of_getElem? this⟩
  refine ⟨T', hE, hend, ?_⟩
  refine { len := hks, pos := hT0, zero := rfl, lt := fun i hi => (hcur i hi).1, inj := ?_, cov := ?_, next := ?_, right := hE.right, close := ?_, rgt := ?_, fst := ?_, met := ?_, new := ?_ }
  · intro i j hi hj e
    rcases Nat.lt_trichotomy i j with hlt | heq | hlt
    · exact absurd e (hinj i j hlt hj)
    · exact heq
    · exact absurd e.symm (hinj j i hlt hi)
  · intro x hx hc
    obtain ⟨k, hk⟩ := (hE.cov x hx).1 hc
    obtain ⟨j, hj, h1, _⟩ := wlk_mem S vert root hk
    exact ⟨j, hj, h1⟩
  · intro i hi
    have h1 : (wlk S vert root (i + 1)).1 = S (if kindB vert root (wlk S vert root i).2 (wlk S vert root i).1 < 2 then mt (wlk S vert root i).1 else (wlk S vert root i).1) := rfl
    rw [getD_of (hkat i hi), ← h1]
    rcases Nat.lt_or_ge (i + 1) T' with h2 | h2
    · rw [Nat.mod_eq_of_lt h2]
    · obtain rfl : i + 1 = T' := by omega
      rw [Nat.mod_self, hend]; rfl
  · intro i hi
    have hil : i < T' := by have := lt_of_get hi; omega
    have hki := hkat i hil
    rw [hki] at hi
    have hk1 := Option.some.inj hi
    obtain ⟨r1, st1, pend, I1, W1⟩ := key i (by omega)
    obtain ⟨r2, st2, I2, hn2⟩ := hall i hil
    obtain ⟨f1, f2, f3⟩ := I2.fresh h hr hn2
    have hn1 : ¬ DDone S root r1 st1 := fun hd1 => f3 (I1.all h hr hd1 hvt f2)
    obtain ⟨r3, st3, hs, I3⟩ := I1.step h he hv hr hn1
    rw [hk1] at hs
    cases hs with
    | close f rest hst hm =>
      subst hst
      obtain ⟨_, hfo⟩ := I1.closeLast h f3 hm
      have hfl : f.o < i := by have := lt_of_get hfo; rwa [wlk_length] at this
      have hO := W1.own.1
      have hdep := W1.dep
      rw [wlk_length] at hdep
      have hDD : ∀ p, p ≤ i → DD (kso (wlk S vert root T').2) p = DD (kso (wlk S vert root i).2) p := fun p hp => by
        unfold DD
        rw [← hkt i (by omega), List.take_take, Nat.min_eq_left hp]
      have hat := wlk_at S vert root (T := i) hfl
      rw [hfo] at hat
      simp only [Option.some.injEq, Prod.mk.injEq] at hat
      refine ⟨f.o, ⟨hfl, by omega, ?_, by rw [hki, hk1], ?_, ?_⟩, hat.1.symm⟩
      · rw [hkat f.o (by omega), ← hat.2]
      · rw [ex_DD (show i + 1 ≤ _ by omega), ex_DD (show f.o ≤ _ by omega), DD_succ (by rw [hki, hk1]), hDD i (Nat.le_refl _), hDD f.o (by omega), hO.2.1, hdep]
        simp [dd]
        omega
      · intro p hp1 hp2
        rw [ex_DD (show p ≤ _ by omega), ex_DD (show f.o ≤ _ by omega), hDD p hp2, hDD f.o (by omega), hO.2.1]
        exact hO.2.2 p hp1 (by rw [kso_length, wlk_length]; exact hp2)
  · intro i hi
    have hil : i < T' := by have := lt_of_get hi; omega
    have hki := hkat i hil
    rw [hki] at hi
    have hk3 := Option.some.inj hi
    unfold kindB at hk3
    rcases find_half (hcur i hil).2 with ⟨k, hf, hm⟩ | ⟨hf, _⟩
    · rw [hf] at hk3
      simp only at hk3
      obtain ⟨j, hj, h1, h2⟩ := wlk_mem S vert root hm
      refine ⟨j, hj, ?_, h1⟩
      rw [hkat j (by omega), h2]; congr 1; omega
    · rw [hf] at hk3
      simp only at hk3
      split at hk3 <;> omega
  · intro i k hi hk j hj e
    have hil : i < T' := by have := lt_of_get hi; omega
    have hki := hkat i hil
    rw [hki] at hi
    have hk3 := Option.some.inj hi
    unfold kindB at hk3
    rcases find_half (hcur i hil).2 with ⟨k', hf, hm⟩ | ⟨hf, hm⟩
    · rw [hf] at hk3
      simp only at hk3
      obtain ⟨r1, st1, pend, I1, W1⟩ := key i (by omega)
      rcases I1.half _ _ hm (by rw [mt_mt]; exact (hcur i hil).2) with ⟨h0, _⟩ | h2
      · omega
      · omega
    · have := wlk_at S vert root (T := i) hj
      exact hm ⟨_, e ▸ List.mem_of_getElem? this⟩
  · intro i hi
    obtain ⟨r1, st1, pend, I1, W1⟩ := key T' (Nat.le_refl _)
    have hvi : vis (wlk S vert root T').2 (wlk S vert root i).1 := ⟨_, List.mem_of_getElem? (wlk_at S vert root hi)⟩
    have hmt : metB vert root (wlk S vert root T').2 (vert (wlk S vert root i).1) = true := by
      cases hb : metB vert root (wlk S vert root T').2 (vert (wlk S vert root i).1)
      · exact absurd hvi (I1.unmet _ (hcur i hi).1 hb)
      · rfl
    unfold metB at hmt
    rw [Bool.or_eq_true, beq_iff_eq, List.any_eq_true] at hmt
    rcases hmt with e | ⟨⟨x, k⟩, hx, hxk⟩
    · exact .inl ((hv _ _ (hcur i hi).1 hr).1 e)
    · rw [Bool.and_eq_true, beq_iff_eq, beq_iff_eq] at hxk
      obtain ⟨j, hj, h1, h2⟩ := wlk_mem S vert root hx
      have h3 : k = 0 := hxk.1
      refine .inr ⟨j, by rw [hkat j hj, h2, h3], ?_⟩
      have h4 : vert (mt x) = vert (wlk S vert root i).1 := hxk.2
      show SameO S (wlk S vert root i).1 (mt (wlk S vert root j).1)
      rw [h1]
      exact (hv _ _ (hcur i hi).1 (mt_lt he (by rw [← h1]; exact (hcur j hj).1))).1 h4.symm
  · intro i j hi hj e
    have hil : i < T' := by have := lt_of_get hi; omega
    have hki := hkat i hil
    rw [hki] at hi
    have hk0 := Option.some.inj hi
    unfold kindB at hk0
    rcases find_half (hcur i hil).2 with ⟨k', hf, hm⟩ | ⟨hf, hm⟩
    · rw [hf] at hk0; simp only at hk0; omega
    · rw [hf] at hk0
      simp only at hk0
      obtain ⟨r1, st1, pend, I1, W1⟩ := key i (by omega)
      have hnm : metB vert root (wlk S vert root i).2 (vert (mt (wlk S vert root i).1)) = false := by
        cases hb : metB vert root (wlk S vert root i).2 (vert (mt (wlk S vert root i).1))
        · rfl
        · rw [hb] at hk0; simp at hk0
      have hvi : vis (wlk S vert root i).2 (wlk S vert root j).1 := ⟨_, List.mem_of_getElem? (wlk_at S vert root hj)⟩
      have hjl := (hcur j (by omega)).1
      rw [← (hv _ _ hjl (mt_lt he (hcur i hil).1)).2 e] at hnm
      exact I1.unmet _ hjl hnm hvi

section
variable {n : Nat} {S : Nat → Nat} {root T : Nat} {D : Nat → Nat} {ks : List Nat} (k : WkT n S root T D ks)
include k

theorem WkT.wd : Wd ks := ⟨k.right.k4, k.right.bal⟩

/-- A vertex more for each opening letter of the tree, at most. -/
theorem WkT.verts (h : IsP n S) (hr : root < n) (he : n % 2 = 0) (hc : ∀ x, x < n → Conn n S root x) : ldr S n ≤ cntK ks 0 + 1 := by
  have hlen : ∀ m, m ≤ ks.length → (((List.range m).filter fun q => ks[q]? == some 0).map fun q => vnum S (mt (D q))).length = cntK (ks.take m) 0 := by
    intro m
    induction m with
    | zero => intro _; simp [cntK]
    | succ m ih =>
      intro hm
      have ih := ih (by omega)
      rw [List.length_map] at ih ⊢
      have hg := List.getElem?_eq_getElem (l := ks) (i := m) (by omega)
      rw [cntK_get hg, ← ih, List.range_succ, List.filter_append, List.length_append]
      by_cases h0 : ks[m] = 0 <;> simp [hg, h0]
  have h1 := nodup_sub (List.range (ldr S n)) (vnum S root :: (((List.range ks.length).filter fun q => ks[q]? == some 0).map fun q => vnum S (mt (D q)))) List.nodup_range (fun v hv => by
    have hv := List.mem_range.1 hv
    obtain ⟨x, hx, hxv⟩ : ∃ x, x < n ∧ vnum S x = v := by
      have : ∀ m, v < ldr S m → ∃ x, x < m ∧ rep S x = x ∧ ldr S x = v := by
        intro m
        induction m with
        | zero => intro h0; rw [ldr_zero] at h0; omega
        | succ m ih =>
          intro h0
          rw [ldr_succ] at h0
          by_cases h2 : v < ldr S m
          · obtain ⟨x, h3, h4⟩ := ih h2
            exact ⟨x, by omega, h4⟩
          · by_cases h3 : rep S m = m
            · rw [if_pos h3] at h0; exact ⟨m, by omega, h3, by omega⟩
            · rw [if_neg h3] at h0; omega
      obtain ⟨x, h2, h3, h4⟩ := this n hv
      exact ⟨x, h2, by unfold vnum; rw [h3]; exact h4⟩
    obtain ⟨i, hi, rfl⟩ := k.cov x hx (hc x hx)
    rcases k.met i hi with h2 | ⟨j, h2, h3⟩
    · rw [← hxv, (h.vnum_iff hx hr).2 h2]; simp
    · have hj := lt_of_get h2
      rw [← hxv, (h.vnum_iff hx (mt_lt he (k.lt j (by rw [← k.len]; exact hj)))).2 h3]
      exact List.mem_cons_of_mem _ (List.mem_map.2 ⟨j, List.mem_filter.2 ⟨List.mem_range.2 hj, by rw [h2]; rfl⟩, rfl⟩))
  rw [List.length_range, List.length_cons, hlen ks.length (Nat.le_refl _), List.take_of_length_le (Nat.le_refl _)] at h1
  exact h1

end

end Go.Proofs.YtipelclohcdkcaaGreat
