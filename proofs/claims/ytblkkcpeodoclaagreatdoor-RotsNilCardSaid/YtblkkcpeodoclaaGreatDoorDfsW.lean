/- Plain laws of the walk around a map: what is told is a right word. No program is named here. -/
import Derived.Test.YtblkkcpeodoclaaGreatDoorDfs
namespace Go.Proofs.YtblkkcpeodoclaaGreatDoor

/-- Round ones and edgy ones that are open at a place. -/
def DD (ks : List Nat) (p : Nat) : Int := (cntK (ks.take p) 0 : Int) - cntK (ks.take p) 1
def BB (ks : List Nat) (p : Nat) : Int := (cntK (ks.take p) 2 : Int) - cntK (ks.take p) 3
def dd (k : Nat) : Int := if k = 0 then 1 else if k = 1 then -1 else 0
def bb (k : Nat) : Int := if k = 2 then 1 else if k = 3 then -1 else 0

theorem DD_zero (ks : List Nat) : DD ks 0 = 0 := by simp [DD, cntK]
theorem BB_zero (ks : List Nat) : BB ks 0 = 0 := by simp [BB, cntK]
theorem DD_succ {ks : List Nat} {i k : Nat} (h : ks[i]? = some k) : DD ks (i + 1) = DD ks i + dd k := by
  unfold DD dd
  rw [cntK_get h 0, cntK_get h 1]
  by_cases h0 : k = 0
  · subst h0; simp; omega
  · by_cases h1 : k = 1
    · subst h1; simp; omega
    · simp [h0, h1]
theorem BB_succ {ks : List Nat} {i k : Nat} (h : ks[i]? = some k) : BB ks (i + 1) = BB ks i + bb k := by
  unfold BB bb
  rw [cntK_get h 2, cntK_get h 3]
  by_cases h0 : k = 2
  · subst h0; simp; omega
  · by_cases h1 : k = 3
    · subst h1; simp; omega
    · simp [h0, h1]
theorem DD_old {ks : List Nat} {k p : Nat} (hp : p ≤ ks.length) : DD (ks ++ [k]) p = DD ks p := by
  unfold DD; rw [List.take_append_of_le_length hp]
theorem BB_old {ks : List Nat} {k p : Nat} (hp : p ≤ ks.length) : BB (ks ++ [k]) p = BB ks p := by
  unfold BB; rw [List.take_append_of_le_length hp]
theorem DD_new (ks : List Nat) (k : Nat) : DD (ks ++ [k]) (ks.length + 1) = DD ks ks.length + dd k := by
  rw [DD_succ (k := k) (by simp), DD_old (Nat.le_refl _)]
theorem BB_new (ks : List Nat) (k : Nat) : BB (ks ++ [k]) (ks.length + 1) = BB ks ks.length + bb k := by
  rw [BB_succ (k := k) (by simp), BB_old (Nat.le_refl _)]

/-- The round one that opens the pair around a place. -/
structure OwnAt (ks : List Nat) (i o : Nat) : Prop where
  lt : o < i
  opens : ks[o]? = some 0
  hit : DD ks o + 1 = DD ks i
  above : ∀ p, o < p → p ≤ i → DD ks o < DD ks p

theorem OwnAt.unique {ks : List Nat} {i o q : Nat} (h : OwnAt ks i o) (k : OwnAt ks i q) : o = q := by
  rcases Nat.lt_trichotomy o q with hlt | rfl | hlt
  · have := h.above q hlt (Nat.le_of_lt k.lt); have := h.hit; have := k.hit; omega
  · rfl
  · have := k.above o hlt (Nat.le_of_lt h.lt); have := h.hit; have := k.hit; omega

theorem OwnAt.old {ks : List Nat} {k i o : Nat} (hi : i ≤ ks.length) (h : OwnAt (ks ++ [k]) i o) : OwnAt ks i o := by
  obtain ⟨h1, h2, h3, h4⟩ := h
  rw [List.getElem?_append_left (by omega)] at h2
  rw [DD_old (by omega), DD_old hi] at h3
  refine ⟨h1, h2, h3, fun p hp1 hp2 => ?_⟩
  have := h4 p hp1 hp2
  rwa [DD_old (by omega), DD_old (by omega)] at this

/-- Never more close than open; a right edgy one's left one is no farther out than the vertex. -/
structure WPre (ks : List Nat) : Prop where
  k4 : ∀ k ∈ ks, k < 4
  dpos : ∀ p, p ≤ ks.length → 0 ≤ DD ks p
  bpos : ∀ p, p ≤ ks.length → 0 ≤ BB ks p
  right : ∀ i, ks[i]? = some 3 → ∀ o, OwnAt ks i o → BB ks (o + 1) < BB ks i

/-- A right word. -/
structure WRight (ks : List Nat) : Prop extends WPre ks where
  dend : DD ks ks.length = 0
  bend : BB ks ks.length = 0

theorem WPre.nil : WPre [] := ⟨(fun k h => by cases h), fun p h => by
  obtain rfl : p = 0 := by simpa using h
  rw [DD_zero]; omega, fun p h => by
  obtain rfl : p = 0 := by simpa using h
  rw [BB_zero]; omega, fun i h => by simp at h⟩
theorem WRight.nil : WRight [] := { WPre.nil with dend := DD_zero _, bend := BB_zero _ }

theorem WPre.snoc {ks : List Nat} {k : Nat} (h : WPre ks) (hk : k < 4) (hd : 0 ≤ DD ks ks.length + dd k) (hb : 0 ≤ BB ks ks.length + bb k)
    (hr : k = 3 → ∀ o, OwnAt (ks ++ [k]) ks.length o → BB ks (o + 1) < BB ks ks.length) : WPre (ks ++ [k]) where
  k4 := fun x hx => by
    rcases List.mem_append.1 hx with hx | hx
    · exact h.k4 x hx
    · simp only [List.mem_singleton] at hx; omega
  dpos := fun p hp => by
    rcases Nat.lt_or_ge p (ks.length + 1) with hlt | hge
    · rw [DD_old (by omega)]; exact h.dpos p (by omega)
    · obtain rfl : p = ks.length + 1 := by simp at hp; omega
      rw [DD_new]; exact hd
  bpos := fun p hp => by
    rcases Nat.lt_or_ge p (ks.length + 1) with hlt | hge
    · rw [BB_old (by omega)]; exact h.bpos p (by omega)
    · obtain rfl : p = ks.length + 1 := by simp at hp; omega
      rw [BB_new]; exact hb
  right := fun i hi o ho => by
    rcases snoc_get hi with hi | ⟨rfl, h3⟩
    · have hil := lt_of_get hi
      have ho' := ho.old (by omega)
      have := ho'.lt
      rw [BB_old (by omega), BB_old (by omega)]
      exact h.right i hi o ho'
    · have := ho.lt
      rw [BB_old (by omega), BB_old (Nat.le_refl _)]
      exact hr h3.symm o ho

/-- Where the vertices that are looked at now were opened. -/
def OwnChain (ks : List Nat) : List Fr → Prop
  | [] => True
  | f :: rest => (ks[f.o]? = some 0 ∧ DD ks f.o = rest.length ∧ ∀ p, f.o < p → p ≤ ks.length → (rest.length : Int) < DD ks p) ∧ OwnChain ks rest

theorem OwnChain.snoc {ks : List Nat} {k : Nat} : ∀ {st : List Fr}, OwnChain ks st → (st.length : Int) ≤ DD ks ks.length + dd k → OwnChain (ks ++ [k]) st
  | [], _, _ => trivial
  | f :: rest, ⟨⟨h1, h2, h3⟩, h4⟩, hd => by
    have hlt := lt_of_get h1
    refine ⟨⟨by rw [List.getElem?_append_left hlt]; exact h1, by rw [DD_old (by omega)]; exact h2, fun p hp1 hp2 => ?_⟩, h4.snoc (by simp only [List.length_cons] at hd; omega)⟩
    rcases Nat.lt_or_ge p (ks.length + 1) with h5 | h5
    · rw [DD_old (by omega)]; exact h3 p hp1 (by omega)
    · obtain rfl : p = ks.length + 1 := by simp at hp2; omega
      rw [DD_new]
      simp only [List.length_cons] at hd
      omega

theorem OwnChain.bump {ks : List Nat} {st : List Fr} (h : OwnChain ks st) : OwnChain ks (bumpS st) := by cases st <;> exact h

theorem nd_fun {out : List (Nat × Nat)} (h : (out.map Prod.fst).Nodup) {x a b : Nat} (ha : (x, a) ∈ out) (hb : (x, b) ∈ out) : a = b := by
  induction out with
  | nil => cases ha
  | cons p out ih =>
    rw [List.map_cons, List.nodup_cons] at h
    rcases List.mem_cons.1 ha with ha | ha
    · rcases List.mem_cons.1 hb with hb | hb
      · rw [← ha] at hb; simp only [Prod.mk.injEq, true_and] at hb; exact hb.symm
      · exact absurd (List.mem_map.2 ⟨_, hb, by rw [← ha]⟩) h.1
    · rcases List.mem_cons.1 hb with hb | hb
      · exact absurd (List.mem_map.2 ⟨_, ha, by rw [← hb]⟩) h.1
      · exact ih h.2 ha hb

theorem nd_pos {out : List (Nat × Nat)} (h : (out.map Prod.fst).Nodup) {i j x a b : Nat} (ha : out[i]? = some (x, a)) (hb : out[j]? = some (x, b)) : i = j := by
  have hi := lt_of_get ha
  have hj := lt_of_get hb
  rw [List.getElem?_eq_getElem hi] at ha
  rw [List.getElem?_eq_getElem hj] at hb
  simp only [Option.some.injEq] at ha hb
  rw [List.Nodup, List.pairwise_iff_getElem] at h
  rcases Nat.lt_trichotomy i j with hlt | rfl | hlt
  · exact absurd (by rw [List.getElem_map, List.getElem_map, ha, hb]) (h i j (by simpa using hi) (by simpa using hj) hlt)
  · rfl
  · exact absurd (by rw [List.getElem_map, List.getElem_map, ha, hb]) (h j i (by simpa using hj) (by simpa using hi) hlt)

def kso (out : List (Nat × Nat)) : List Nat := out.map Prod.snd
theorem kso_length (out : List (Nat × Nat)) : (kso out).length = out.length := by simp [kso]
theorem kso_snoc (out : List (Nat × Nat)) (d k : Nat) : kso (out ++ [(d, k)]) = kso out ++ [k] := by simp [kso]

structure WInv (out : List (Nat × Nat)) (st : List Fr) (pend : List Nat) : Prop where
  pre : WPre (kso out)
  dep : DD (kso out) out.length = st.length
  own : OwnChain (kso out) st
  ord : st.Pairwise (fun f g => g.o < f.o)
  brk : BB (kso out) out.length = pend.length
  pnd : pend.Nodup
  pmem : ∀ l, l ∈ pend ↔ ∃ x, out[l]? = some (x, 2) ∧ ¬ vis out (mt x)
  lev : ∀ f ∈ st, BB (kso out) out.length - BB (kso out) (f.o + 1) = (pend.filter fun l => decide (f.o < l)).length

theorem winv_zero : WInv [] [] [] := ⟨WPre.nil, DD_zero _, trivial, List.Pairwise.nil, BB_zero _, List.nodup_nil, fun l => ⟨fun h => (by cases h), fun ⟨x, h, _⟩ => (by simp at h)⟩, fun f h => (by cases h)⟩

/-- The lefts that wait stay so where what is looked at is no mate of theirs, and is no left one itself. -/
theorem pmem_keep {out : List (Nat × Nat)} {pend : List Nat} {d k : Nat} (hp : ∀ l, l ∈ pend ↔ ∃ x, out[l]? = some (x, 2) ∧ ¬ vis out (mt x)) (hk : k ≠ 2) (hm : (mt d, 2) ∉ out) :
    ∀ l, l ∈ pend ↔ ∃ x, (out ++ [(d, k)])[l]? = some (x, 2) ∧ ¬ vis (out ++ [(d, k)]) (mt x) := by
  intro l
  rw [hp l]
  constructor
  · rintro ⟨x, h1, h2⟩
    refine ⟨x, by rw [List.getElem?_append_left (lt_of_get h1)]; exact h1, fun hv => ?_⟩
    rcases vis_snoc.1 hv with hv | hv
    · exact h2 hv
    · refine hm ?_
      rw [← hv, mt_mt]
      exact List.mem_of_getElem? h1
  · rintro ⟨x, h1, h2⟩
    rcases snoc_get h1 with h1 | ⟨_, h3⟩
    · exact ⟨x, h1, fun hv => h2 (vis_snoc.2 (.inl hv))⟩
    · simp only [Prod.mk.injEq] at h3
      exact absurd h3.2.symm hk

theorem filter_erase_len {l : List Nat} {x : Nat} (p : Nat → Bool) (hx : x ∈ l) (hp : p x = true) : (l.filter p).length = ((l.erase x).filter p).length + 1 := by
  induction l with
  | nil => cases hx
  | cons y l ih =>
    by_cases hy : y = x
    · subst hy
      rw [List.erase_cons_head, List.filter_cons, if_pos hp]
      rfl
    · have hx' : x ∈ l := by
        rcases List.mem_cons.1 hx with h | h
        · exact absurd h.symm hy
        · exact h
      rw [List.erase_cons_tail (by simpa using hy), List.filter_cons, List.filter_cons]
      split
      · simp only [List.length_cons, ih hx']
      · exact ih hx'

section
variable {n : Nat} {S vert : Nat → Nat} (h : IsP n S) {root : Nat} (hr : root < n)
include h hr

theorem WInv.step {r : Nat} {st : List Fr} {d : Nat} {out : List (Nat × Nat)} {pend : List Nat} (W : WInv out st pend) (I : DInv n S vert root r st d out) (hf : ¬ vis out d)
    {k r' : Nat} {st' : List Fr} (hs : StepK n S vert root r st d out k r' st') : ∃ pend', WInv (out ++ [(d, k)]) st' pend' := by
  have hl : (kso out).length = out.length := kso_length out
  have hll : (out ++ [(d, k)]).length = (kso out).length + 1 := by simp [hl]
  have hdep := W.dep
  have hbrk := W.brk
  rw [← hl] at hdep hbrk
  cases hs with
  | close f rest hst hm =>
    subst hst
    have hnm : (mt d, 2) ∉ out := fun e => by have := nd_fun I.nd hm e; omega
    have hdd : dd 1 = -1 := rfl
    have hbb : bb 1 = 0 := rfl
    simp only [List.length_cons] at hdep
    refine ⟨pend, ?_⟩
    exact {
      pre := by rw [kso_snoc]; exact W.pre.snoc (by omega) (by rw [hdd]; omega) (by rw [hbb]; omega) (fun e => by omega)
      dep := by rw [hll, kso_snoc, DD_new, hdd]; omega
      own := by rw [kso_snoc]; exact W.own.2.snoc (by rw [hdd]; omega)
      ord := (List.pairwise_cons.1 W.ord).2
      brk := by rw [hll, kso_snoc, BB_new, hbb]; omega
      pnd := W.pnd
      pmem := pmem_keep W.pmem (by omega) hnm
      lev := fun g hg => by
        have hgo := I.chain.old g (by simp [hg])
        have := W.lev g (by simp [hg])
        rw [hll, kso_snoc, BB_new, hbb, BB_old (by omega), hl]
        omega }
  | right hm =>
    obtain ⟨l0, hl0, hl0e⟩ := List.mem_iff_getElem.1 hm
    have hg0 : out[l0]? = some (mt d, 2) := by rw [List.getElem?_eq_getElem hl0, hl0e]
    have hp0 : l0 ∈ pend := (W.pmem l0).2 ⟨mt d, hg0, by rw [mt_mt]; exact hf⟩
    have hpl := List.length_pos_of_mem hp0
    have hdd : dd 3 = 0 := rfl
    have hbb : bb 3 = -1 := rfl
    have hafter : ∀ f ∈ st, f.o < l0 := by
      rcases I.late l0 (mt d) hg0 (by rw [mt_mt]; exact hf) with h1 | ⟨g, hg, h1, h2⟩
      · rw [mt_mt] at h1
        cases st with
        | nil => intro f hf; cases hf
        | cons f rest =>
          exfalso
          exact I.rapart f (by simp) ((I.topSame rfl).trans (h.sameO_symm hr h1))
      · rw [mt_mt] at h1
        cases st with
        | nil => cases hg
        | cons f rest =>
          have hgf : g = f := by
            rcases List.mem_cons.1 hg with rfl | hg
            · rfl
            · exfalso
              have hgn := (I.chain.2.lt g hg).1
              exact (List.pairwise_cons.1 I.apart).1 g hg ((I.topSame rfl).trans (h.sameO_symm hgn h1))
          subst hgf
          intro f hf
          rcases List.mem_cons.1 hf with rfl | hf
          · exact h2
          · have := (List.pairwise_cons.1 W.ord).1 f hf; omega
    have hel : (pend.erase l0).length = pend.length - 1 := List.length_erase_of_mem hp0
    refine ⟨pend.erase l0, ?_⟩
    exact {
      pre := by
        rw [kso_snoc]
        refine W.pre.snoc (by omega) (by rw [hdd]; omega) (by rw [hbb]; omega) (fun _ o ho => ?_)
        have ho := ho.old (Nat.le_refl _)
        cases st with
        | nil =>
          have h1 := ho.hit
          have h2 := W.pre.dpos o (by have := ho.lt; omega)
          simp only [List.length_nil] at hdep
          omega
        | cons f rest =>
          obtain ⟨⟨o1, o2, o3⟩, _⟩ := W.own
          have hfo : OwnAt (kso out) (kso out).length f.o := ⟨lt_of_get o1, o1, by simp only [List.length_cons] at hdep; omega, fun p hp1 hp2 => by have := o3 p hp1 hp2; omega⟩
          obtain rfl := ho.unique hfo
          have h1 := W.lev f (by simp)
          have h2 : 0 < (pend.filter fun l => decide (f.o < l)).length := List.length_pos_of_mem (List.mem_filter.2 ⟨hp0, by simpa using hafter f (by simp)⟩)
          rw [hl]
          omega
      dep := by rw [hll, kso_snoc, DD_new, hdd, bump_length]; omega
      own := by rw [kso_snoc]; exact (W.own.bump).snoc (by rw [hdd, bump_length]; omega)
      ord := by
        have := W.ord
        cases st with
        | nil => exact this
        | cons f rest => exact List.pairwise_cons.2 ⟨fun g hg => (List.pairwise_cons.1 this).1 g hg, (List.pairwise_cons.1 this).2⟩
      brk := by rw [hll, kso_snoc, BB_new, hbb]; omega
      pnd := W.pnd.erase l0
      pmem := fun l => by
        rw [W.pnd.mem_erase_iff, W.pmem l]
        constructor
        · rintro ⟨hne, x, h1, h2⟩
          refine ⟨x, by rw [List.getElem?_append_left (lt_of_get h1)]; exact h1, fun hv => ?_⟩
          rcases vis_snoc.1 hv with hv | hv
          · exact h2 hv
          · have hx : x = mt d := by rw [← hv, mt_mt]
            subst hx
            exact hne (nd_pos I.nd h1 hg0)
        · rintro ⟨x, h1, h2⟩
          rcases snoc_get h1 with h1 | ⟨_, h3⟩
          · refine ⟨?_, x, h1, fun hv => h2 (vis_snoc.2 (.inl hv))⟩
            rintro rfl
            rw [hg0] at h1
            simp only [Option.some.injEq, Prod.mk.injEq] at h1
            refine h2 (vis_snoc.2 (.inr ?_))
            rw [← h1.1, mt_mt]
          · simp only [Prod.mk.injEq] at h3; omega
      lev := fun g hg => by
        obtain ⟨f, hf, _, hfo⟩ := bump_mem hg
        rw [← hfo]
        have hgo := I.chain.old f hf
        have h1 := W.lev f hf
        have h2 := filter_erase_len (fun l => decide (f.o < l)) hp0 (by simpa using hafter f hf)
        rw [hll, kso_snoc, BB_new, hbb, BB_old (by omega), hl]
        omega }
  | left hm hmet =>
    have hdd : dd 2 = 0 := rfl
    have hbb : bb 2 = 1 := rfl
    have hnl : out.length ∉ pend := fun e => by
      obtain ⟨x, h1, _⟩ := (W.pmem _).1 e
      have := lt_of_get h1; omega
    refine ⟨out.length :: pend, ?_⟩
    exact {
      pre := by rw [kso_snoc]; exact W.pre.snoc (by omega) (by rw [hdd]; omega) (by rw [hbb]; omega) (fun e => by omega)
      dep := by rw [hll, kso_snoc, DD_new, hdd, bump_length]; omega
      own := by rw [kso_snoc]; exact (W.own.bump).snoc (by rw [hdd, bump_length]; omega)
      ord := by
        have := W.ord
        cases st with
        | nil => exact this
        | cons f rest => exact List.pairwise_cons.2 ⟨fun g hg => (List.pairwise_cons.1 this).1 g hg, (List.pairwise_cons.1 this).2⟩
      brk := by rw [hll, kso_snoc, BB_new, hbb, List.length_cons]; omega
      pnd := List.nodup_cons.2 ⟨hnl, W.pnd⟩
      pmem := fun l => by
        rw [List.mem_cons, W.pmem l]
        constructor
        · rintro (rfl | ⟨x, h1, h2⟩)
          · refine ⟨d, by simp, fun hv => ?_⟩
            rcases vis_snoc.1 hv with hv | hv
            · exact hm hv
            · exact mt_ne d hv
          · refine ⟨x, by rw [List.getElem?_append_left (lt_of_get h1)]; exact h1, fun hv => ?_⟩
            rcases vis_snoc.1 hv with hv | hv
            · exact h2 hv
            · refine hm ?_
              rw [← hv, mt_mt]
              exact ⟨2, List.mem_of_getElem? h1⟩
        · rintro ⟨x, h1, h2⟩
          rcases snoc_get h1 with h1 | ⟨h3, _⟩
          · exact .inr ⟨x, h1, fun hv => h2 (vis_snoc.2 (.inl hv))⟩
          · exact .inl h3
      lev := fun g hg => by
        obtain ⟨f, hf, _, hfo⟩ := bump_mem hg
        rw [← hfo]
        have hgo := I.chain.old f hf
        have h1 := W.lev f hf
        rw [hll, kso_snoc, BB_new, hbb, BB_old (by omega), hl, List.filter_cons, if_pos (by simpa using hgo), List.length_cons]
        omega }
  | opens hm hmet =>
    have hdd : dd 0 = 1 := rfl
    have hbb : bb 0 = 0 := rfl
    have hnm : (mt d, 2) ∉ out := fun e => hm ⟨2, e⟩
    refine ⟨pend, ?_⟩
    have hpre : WPre (kso out ++ [0]) := W.pre.snoc (by omega) (by rw [hdd]; omega) (by rw [hbb]; omega) (fun e => by omega)
    exact {
      pre := by rw [kso_snoc]; exact hpre
      dep := by rw [hll, kso_snoc, DD_new, hdd, List.length_cons, bump_length]; omega
      own := by
        rw [kso_snoc]
        refine ⟨⟨by simp [← hl], ?_, fun p hp1 hp2 => ?_⟩, (W.own.bump).snoc (by rw [hdd, bump_length]; omega)⟩
        · show DD _ out.length = _
          rw [← hl, DD_old (Nat.le_refl _), bump_length]; exact hdep
        · have hp1' : out.length < p := hp1
          obtain rfl : p = (kso out).length + 1 := by simp [hl] at hp2; omega
          rw [DD_new, hdd, bump_length]; omega
      ord := by
        refine List.pairwise_cons.2 ⟨fun g hg => ?_, ?_⟩
        · obtain ⟨f, hf, _, hfo⟩ := bump_mem hg
          have := I.chain.old f hf
          show g.o < out.length
          omega
        · have := W.ord
          cases st with
          | nil => exact this
          | cons f rest => exact List.pairwise_cons.2 ⟨fun g hg => (List.pairwise_cons.1 this).1 g hg, (List.pairwise_cons.1 this).2⟩
      brk := by rw [hll, kso_snoc, BB_new, hbb]; omega
      pnd := W.pnd
      pmem := pmem_keep W.pmem (by omega) hnm
      lev := fun g hg => by
        rcases List.mem_cons.1 hg with rfl | hg
        · have hnil : (pend.filter fun l => decide (out.length < l)) = [] := List.filter_eq_nil_iff.2 (fun l hl2 => by
            obtain ⟨x, h1, _⟩ := (W.pmem l).1 hl2
            have := lt_of_get h1
            simp; omega)
          show BB _ _ - BB _ (out.length + 1) = ((pend.filter fun l => decide (out.length < l)).length : Int)
          rw [hnil, hll, hl]
          simp
        · obtain ⟨f, hf, _, hfo⟩ := bump_mem hg
          rw [← hfo]
          have hgo := I.chain.old f hf
          have h1 := W.lev f hf
          rw [hll, kso_snoc, BB_new, hbb, BB_old (by omega), hl]
          omega }

theorem WInv.done {r : Nat} {d : Nat} {out : List (Nat × Nat)} {pend : List Nat} (W : WInv out [] pend) (I : DInv n S vert root r [] d out) (hd : DDone S root r []) : WRight (kso out) := by
  have hp : pend = [] := by
    cases pend with
    | nil => rfl
    | cons l pend =>
      exfalso
      obtain ⟨x, h1, h2⟩ := (W.pmem l).1 (by simp)
      rcases I.late l x h1 h2 with h3 | ⟨g, hg, _⟩
      · obtain ⟨i, hi, hix⟩ := h.sameO_ex hr h3
        refine h2 (hix ▸ (I.rvis i hi).2 ?_)
        rw [hd.2]; exact hi
      · cases hg
  have h1 := W.dep
  have h2 := W.brk
  rw [hp] at h2
  rw [← kso_length] at h1 h2
  exact { W.pre with dend := h1, bend := h2 }

end

/-! Right words, as the index of a word sees them. -/

theorem ex_DD {ks : List Nat} {p : Nat} (hp : p ≤ ks.length) : ex (ownB 0 ks) (pr 0 ks p) = DD ks p := (count_own (ks := ks) 0 p hp).2
theorem ex_BB {ks : List Nat} {p : Nat} (hp : p ≤ ks.length) : ex (ownB 1 ks) (pr 1 ks p) = BB ks p := (count_own (ks := ks) 1 p hp).2

theorem own_place {ks : List Nat} {s p : Nat} (hp : p ≤ (ownB s ks).length) : ∃ q, q ≤ ks.length ∧ pr s ks q = p := by
  rcases Nat.lt_or_ge p (ownB s ks).length with hlt | hge
  · obtain ⟨q, hq⟩ := sel_ex (s := s) (ks := ks) hlt
    obtain ⟨k, _, _, h3⟩ := id hq
    exact ⟨q, Nat.le_of_lt hq.lt, h3⟩
  · exact ⟨ks.length, Nat.le_refl _, by rw [← ownB_length]; omega⟩

theorem WRight.bal {ks : List Nat} (h : WRight ks) : MBal ks := by
  refine ⟨⟨?_, fun p hp => ?_⟩, ⟨?_, fun p hp => ?_⟩⟩
  · rw [ownB_length, ex_DD (Nat.le_refl _)]; exact h.dend
  · obtain ⟨q, hq, rfl⟩ := own_place hp
    rw [ex_DD hq]; exact h.dpos q hq
  · rw [ownB_length, ex_BB (Nat.le_refl _)]; exact h.bend
  · obtain ⟨q, hq, rfl⟩ := own_place hp
    rw [ex_BB hq]; exact h.bpos q hq

/-- An owner that there is, told of the word itself. -/
theorem OwnerOf.own {ks : List Nat} {i n : Nat} (hi : i ≤ ks.length) (h : OwnerOf ks i (n : Nat)) : OwnAt ks i n := by
  rcases h with ⟨_, h⟩ | ⟨h0, o, m, h1, h2, h3⟩
  · omega
  · obtain rfl : n = m := by omega
    have hn := h2.lt
    have hni := (h2.cmp i).1 h1.lt
    obtain ⟨k, hk, hks, hpr⟩ := id h2
    have hd := ex_DD (ks := ks) (p := n) (by omega)
    have hd1 := ex_DD (ks := ks) hi
    rw [hpr] at hd
    have hhit := h1.hit
    have hup : ks[n]? = some 0 := by
      have hb := h2.own hk
      have hs := pr_succ 0 hk
      rw [if_pos hks, hpr] at hs
      have hab := h1.above (o + 1) (by omega) (by rw [← hs]; exact pr_mono 0 ks hni)
      have hbit := bit_up (ownB 0 ks) (p := o) h2.jlt (by omega)
      rw [List.getD_eq_getElem?_getD, hb.2, Option.getD_some] at hbit
      have : k % 2 = 0 := by simpa using hbit
      rw [hk]; congr 1; omega
    refine ⟨hni, hup, by omega, fun p hp1 hp2 => ?_⟩
    have hp3 := (h2.cmp p).2 hp1
    have hab := h1.above (pr 0 ks p) hp3 (pr_mono 0 ks hp2)
    rw [ex_DD (show p ≤ ks.length by omega)] at hab
    omega

/-- A right edgy one's mate stands behind its owner. -/
theorem WRight.check {ks : List Nat} (h : WRight ks) {i m : Nat} {r : Int} (hi : ks[i]? = some 3) (hm : MixMate ks i m) (hr : OwnerOf ks i r) : ¬ (m : Int) < r := by
  intro hlt
  have hil := lt_of_get hi
  obtain ⟨n, rfl⟩ := Int.eq_ofNat_of_zero_le (show 0 ≤ r by omega)
  have ho := hr.own (by omega)
  have hB := h.right i hi n ho
  obtain ⟨s, a, c, hs, h1, h2, h3⟩ := hm
  obtain ⟨k, hk, hks, hpr⟩ := id h1
  rw [hi] at hk
  simp only [Option.some.injEq] at hk
  subst hk
  obtain rfl : s = 1 := by omega
  have hb := (h1.own hi).2
  have hp : IsPair (ownB 1 ks) c a := by
    rcases h3 with ⟨h4, _⟩ | ⟨_, h5⟩
    · rw [List.getD_eq_getElem?_getD, hb] at h4; simp at h4
    · exact h5
  have hcl := hp.closes.2
  have hhit := hp.hit
  have h4 := (h2.cmp (n + 1)).2 (by omega)
  have h5 := pr_mono 1 ks (show n + 1 ≤ i from ho.lt)
  rw [hpr] at h5
  have h6 := hp.above (pr 1 ks (n + 1)) h4 h5
  have e1 := ex_BB (ks := ks) (p := n + 1) (by have := ho.lt; omega)
  have e2 := ex_BB (ks := ks) (p := i) (by omega)
  rw [hpr] at e2
  rw [e1] at h6
  omega

end Go.Proofs.YtblkkcpeodoclaaGreatDoor
