/- Plain laws of the walk around a map: each dart of a part is looked at once, and what is told is a right word. No program is named here. -/
import Derived.Test.YtblkkcpeodoclaaGreatDoorPerm
import Derived.Test.YtblkkcpeodoclaaGreatDoorMixed
namespace Go.Proofs.YtblkkcpeodoclaaGreatDoor

def metB (vert : Nat → Nat) (root : Nat) (out : List (Nat × Nat)) (v : Nat) : Bool := v == vert root || out.any fun p => p.2 == 0 && vert (mt p.1) == v
def kindB (vert : Nat → Nat) (root : Nat) (out : List (Nat × Nat)) (d : Nat) : Nat :=
  match out.find? (fun p => p.1 / 2 == d / 2) with
  | some p => p.2 + 1
  | none => if metB vert root out (vert (mt d)) then 2 else 0
def wstep (S vert : Nat → Nat) (root : Nat) (s : Nat × List (Nat × Nat)) : Nat × List (Nat × Nat) :=
  (S (if kindB vert root s.2 s.1 < 2 then mt s.1 else s.1), s.2 ++ [(s.1, kindB vert root s.2 s.1)])
def wlk (S vert : Nat → Nat) (root : Nat) : Nat → Nat × List (Nat × Nat)
  | 0 => (root, [])
  | j + 1 => wstep S vert root (wlk S vert root j)

theorem wlk_length (S vert : Nat → Nat) (root j : Nat) : (wlk S vert root j).2.length = j := by
  induction j with
  | zero => rfl
  | succ j ih => simp [wlk, wstep, ih]

def vis (out : List (Nat × Nat)) (x : Nat) : Prop := ∃ k, (x, k) ∈ out

theorem vis_snoc {out : List (Nat × Nat)} {d k x : Nat} : vis (out ++ [(d, k)]) x ↔ vis out x ∨ x = d := by
  constructor
  · rintro ⟨k', hk⟩
    rcases List.mem_append.1 hk with h | h
    · exact .inl ⟨k', h⟩
    · simp at h; exact .inr h.1
  · rintro (⟨k', h⟩ | rfl)
    · exact ⟨k', by simp [h]⟩
    · exact ⟨k, by simp⟩

theorem vis_nil (x : Nat) : ¬ vis [] x := by rintro ⟨k, hk⟩; cases hk

theorem vis_map {out : List (Nat × Nat)} {x : Nat} : vis out x ↔ x ∈ out.map Prod.fst := by
  constructor
  · rintro ⟨k, hk⟩; exact List.mem_map.2 ⟨(x, k), hk, rfl⟩
  · intro hx
    obtain ⟨⟨y, k⟩, hk, rfl⟩ := List.mem_map.1 hx
    exact ⟨k, hk⟩

theorem metB_snoc {vert : Nat → Nat} {root d k v : Nat} {out : List (Nat × Nat)} : metB vert root (out ++ [(d, k)]) v = true ↔ metB vert root out v = true ∨ (k = 0 ∧ vert (mt d) = v) := by
  unfold metB
  rw [List.any_append]
  simp only [Bool.or_eq_true, List.any_cons, List.any_nil, Bool.or_false, Bool.and_eq_true, beq_iff_eq]
  exact or_assoc.symm

structure Fr where
  a : Nat
  k : Nat
  o : Nat

def topD (S : Nat → Nat) (root r : Nat) : List Fr → Nat
  | [] => itr S r root
  | f :: _ => itr S f.k f.a
def lastD (S : Nat → Nat) (root r : Nat) : List Fr → Nat
  | [] => itr S (r - 1) root
  | f :: _ => itr S (f.k - 1) f.a
def topK (r : Nat) : List Fr → Nat
  | [] => r
  | f :: _ => f.k

def Chain (n : Nat) (S : Nat → Nat) (root r : Nat) (out : List (Nat × Nat)) : List Fr → Prop
  | [] => True
  | f :: rest => (f.a < n ∧ f.k < per S f.a ∧ 1 ≤ topK r rest ∧ itr S (per S f.a - 1) f.a = mt (lastD S root r rest) ∧ out[f.o]? = some (lastD S root r rest, 0)) ∧ Chain n S root r out rest

theorem Chain.append {n : Nat} {S : Nat → Nat} {root r : Nat} {out : List (Nat × Nat)} (p : Nat × Nat) : ∀ {st : List Fr}, Chain n S root r out st → Chain n S root r (out ++ [p]) st
  | [], _ => trivial
  | _ :: _, ⟨⟨h1, h2, h3, h4, h5⟩, h6⟩ => ⟨⟨h1, h2, h3, h4, by rw [List.getElem?_append_left (lt_of_get h5)]; exact h5⟩, h6.append p⟩

theorem Chain.lt {n : Nat} {S : Nat → Nat} {root r : Nat} {out : List (Nat × Nat)} : ∀ {st : List Fr}, Chain n S root r out st → ∀ f ∈ st, f.a < n ∧ f.k < per S f.a
  | [], _, f, hf => by cases hf
  | g :: st, ⟨h1, h2⟩, f, hf => by
    rcases List.mem_cons.1 hf with rfl | hf
    · exact ⟨h1.1, h1.2.1⟩
    · exact h2.lt f hf

theorem Chain.old {n : Nat} {S : Nat → Nat} {root r : Nat} {out : List (Nat × Nat)} : ∀ {st : List Fr}, Chain n S root r out st → ∀ f ∈ st, f.o < out.length
  | [], _, f, hf => by cases hf
  | g :: st, ⟨h1, h2⟩, f, hf => by
    rcases List.mem_cons.1 hf with rfl | hf
    · exact lt_of_get h1.2.2.2.2
    · exact h2.old f hf

/-- The state of the walk: which darts have been looked at, vertex by vertex from the root's on. -/
structure DInv (n : Nat) (S vert : Nat → Nat) (root r : Nat) (st : List Fr) (d : Nat) (out : List (Nat × Nat)) : Prop where
  cur : d = topD S root r st
  rle : r ≤ per S root
  chain : Chain n S root r out st
  nd : (out.map Prod.fst).Nodup
  conn : ∀ x, vis out x → x < n ∧ Conn n S root x
  fvis : ∀ f ∈ st, ∀ i, i < per S f.a → (vis out (itr S i f.a) ↔ i < f.k)
  rvis : ∀ i, i < per S root → (vis out (itr S i root) ↔ i < r)
  apart : st.Pairwise (fun f g => ¬ SameO S f.a g.a)
  rapart : ∀ f ∈ st, ¬ SameO S f.a root
  fmet : ∀ f ∈ st, metB vert root out (vert f.a) = true
  met : ∀ x, x < n → metB vert root out (vert x) = true → SameO S root x ∨ (∃ f ∈ st, SameO S f.a x) ∨ vis out x
  unmet : ∀ x, x < n → metB vert root out (vert x) = false → ¬ vis out x
  half : ∀ x k, (x, k) ∈ out → ¬ vis out (mt x) → (k = 0 ∧ ∃ f ∈ st, itr S (per S f.a - 1) f.a = mt x) ∨ k = 2
  late : ∀ l x, out[l]? = some (x, 2) → ¬ vis out (mt x) → SameO S root (mt x) ∨ ∃ f ∈ st, SameO S f.a (mt x) ∧ f.o < l
  k4 : ∀ x k, (x, k) ∈ out → k < 4

/-- The walk is at its end. -/
def DDone (S : Nat → Nat) (root r : Nat) (st : List Fr) : Prop := st = [] ∧ r = per S root

theorem find_half {out : List (Nat × Nat)} {d : Nat} (hd : ¬ vis out d) : (∃ k, out.find? (fun p => p.1 / 2 == d / 2) = some (mt d, k) ∧ (mt d, k) ∈ out) ∨ (out.find? (fun p => p.1 / 2 == d / 2) = none ∧ ¬ vis out (mt d)) := by
  cases hf : out.find? (fun p => p.1 / 2 == d / 2) with
  | none =>
    refine .inr ⟨rfl, ?_⟩
    rintro ⟨k, hk⟩
    have := List.find?_eq_none.1 hf _ hk
    simp [mt_half] at this
  | some p =>
    obtain ⟨x, k⟩ := p
    have h1 := List.find?_some hf
    have h2 := List.mem_of_find?_eq_some hf
    simp only [beq_iff_eq] at h1
    rcases half_eq h1.symm with rfl | rfl
    · exact absurd ⟨k, h2⟩ hd
    · exact .inl ⟨k, rfl, h2⟩


def bumpS : List Fr → List Fr
  | [] => []
  | f :: rest => ⟨f.a, f.k + 1, f.o⟩ :: rest
def bumpR (r : Nat) : List Fr → Nat
  | [] => r + 1
  | _ :: _ => r

theorem bump_top (S : Nat → Nat) (root r : Nat) (st : List Fr) : topD S root (bumpR r st) (bumpS st) = S (topD S root r st) := by cases st <;> rfl
theorem bump_last (S : Nat → Nat) (root r : Nat) (st : List Fr) : lastD S root (bumpR r st) (bumpS st) = topD S root r st := by cases st <;> rfl
theorem bump_topK (r : Nat) (st : List Fr) : 1 ≤ topK (bumpR r st) (bumpS st) := by cases st <;> simp [topK, bumpR, bumpS]
theorem bump_length (st : List Fr) : (bumpS st).length = st.length := by cases st <;> rfl
theorem bump_mem {st : List Fr} {g : Fr} (hg : g ∈ bumpS st) : ∃ f ∈ st, f.a = g.a ∧ f.o = g.o := by
  cases st with
  | nil => cases hg
  | cons f rest =>
    rcases List.mem_cons.1 hg with rfl | hg
    · exact ⟨f, by simp, rfl, rfl⟩
    · exact ⟨g, by simp [hg], rfl, rfl⟩
theorem bump_of {st : List Fr} {f : Fr} (hf : f ∈ st) : ∃ g ∈ bumpS st, g.a = f.a ∧ g.o = f.o := by
  cases st with
  | nil => cases hf
  | cons f0 rest =>
    rcases List.mem_cons.1 hf with rfl | hf
    · exact ⟨⟨f.a, f.k + 1, f.o⟩, by simp [bumpS], rfl, rfl⟩
    · exact ⟨f, by simp [bumpS, hf], rfl, rfl⟩

theorem snoc_get {α : Type} {l : List α} {x y : α} {i : Nat} (h : (l ++ [x])[i]? = some y) : l[i]? = some y ∨ (i = l.length ∧ y = x) := by
  rcases Nat.lt_trichotomy i l.length with hlt | rfl | hlt
  · rw [List.getElem?_append_left hlt] at h; exact .inl h
  · rw [List.getElem?_append_right (Nat.le_refl _), Nat.sub_self] at h
    simp at h
    exact .inr ⟨rfl, h.symm⟩
  · rw [List.getElem?_eq_none (by simp; omega)] at h; cases h

theorem nodup_snoc {l : List Nat} {x : Nat} (h : l.Nodup) (hx : x ∉ l) : (l ++ [x]).Nodup := by
  rw [List.Nodup, List.pairwise_append]
  exact ⟨h, List.pairwise_singleton _ _, fun a ha b hb => by
    simp only [List.mem_singleton] at hb
    rintro rfl
    exact hx (hb ▸ ha)⟩

section
variable {n : Nat} {S vert : Nat → Nat} (h : IsP n S) (he : n % 2 = 0) (hv : ∀ x y, x < n → y < n → (vert x = vert y ↔ SameO S x y)) {root : Nat} (hr : root < n)
include h hr

omit h in
include hv in
theorem dinv_zero : DInv n S vert root 0 [] root [] where
  cur := rfl
  rle := Nat.zero_le _
  chain := trivial
  nd := List.nodup_nil
  conn := fun x hx => absurd hx (vis_nil x)
  fvis := fun f hf => by cases hf
  rvis := fun i _ => ⟨fun hx => absurd hx (vis_nil _), fun hi => by omega⟩
  apart := List.Pairwise.nil
  rapart := fun f hf => by cases hf
  fmet := fun f hf => by cases hf
  met := fun x hx hm => by
    have : vert root = vert x := by
      have h1 : (vert x == vert root || false) = true := hm
      rw [Bool.or_false, beq_iff_eq] at h1
      exact h1.symm
    exact .inl ((hv root x hr hx).1 this)
  unmet := fun x _ _ => vis_nil x
  half := fun x k hx => by cases hx
  late := fun l x hx => by simp at hx
  k4 := fun x k hx => by cases hx

include he

omit he hr in
theorem Chain.conn {r : Nat} {out : List (Nat × Nat)} (hc : ∀ x, vis out x → x < n ∧ Conn n S root x) : ∀ {st : List Fr}, Chain n S root r out st → ∀ f ∈ st, Conn n S root f.a
  | [], _, f, hf => by cases hf
  | g :: st, ⟨⟨h1, h2, h3, h4, h5⟩, h6⟩, f, hf => by
    rcases List.mem_cons.1 hf with rfl | hf
    · obtain ⟨k1, k2⟩ := hc _ ⟨0, List.mem_of_getElem? h5⟩
      have k3 := k2.trans (Conn.mate k1)
      rw [← h4] at k3
      have k4 := k3.trans (Conn.turn (h.itr_lt h1 _))
      have : S (itr S (per S f.a - 1) f.a) = f.a := by
        have h0 := (h.per_spec h1).1
        have : itr S (per S f.a - 1 + 1) f.a = f.a := by rw [Nat.sub_add_cancel h0]; exact (h.per_spec h1).2.2.1
        exact this
      rwa [this] at k4
    · exact Chain.conn hc h6 f hf

omit he in
theorem DInv.fresh {r : Nat} {st : List Fr} {d : Nat} {out : List (Nat × Nat)} (I : DInv n S vert root r st d out) (hd : ¬ DDone S root r st) : d < n ∧ Conn n S root d ∧ ¬ vis out d := by
  cases st with
  | nil =>
    have hlt : r < per S root := by
      have := I.rle
      have : r ≠ per S root := fun e => hd ⟨rfl, e⟩
      omega
    rw [I.cur]
    exact ⟨h.itr_lt hr r, h.conn_same hr ⟨r, rfl⟩, fun hvis => by have := (I.rvis r hlt).1 hvis; omega⟩
  | cons f rest =>
    obtain ⟨h1, h2, h3, h4, h5⟩ := I.chain.1
    rw [I.cur]
    exact ⟨h.itr_lt h1 f.k, (I.chain.conn h I.conn f (by simp)).trans (h.conn_same h1 ⟨f.k, rfl⟩), fun hvis => by have := (I.fvis f (by simp) f.k h2).1 hvis; omega⟩

omit h hr he in
/-- A turn's dart is of the orbit that is looked at now. -/
theorem DInv.topSame {r : Nat} {st : List Fr} {d : Nat} {out : List (Nat × Nat)} (I : DInv n S vert root r st d out) : ∀ {f : Fr} {rest : List Fr}, st = f :: rest → SameO S f.a d := by
  rintro f rest rfl
  exact ⟨f.k, I.cur.symm⟩

omit he in
/-- What stays when one more dart is looked at, and its place in its orbit is behind. -/
theorem DInv.bump {r : Nat} {st : List Fr} {d : Nat} {out : List (Nat × Nat)} (I : DInv n S vert root r st d out) (hd : ¬ DDone S root r st) (k : Nat)
    (hk : ∀ f rest, st = f :: rest → f.k + 1 < per S f.a) :
    bumpR r st ≤ per S root ∧ Chain n S root (bumpR r st) (out ++ [(d, k)]) (bumpS st) ∧ ((out ++ [(d, k)]).map Prod.fst).Nodup ∧
    (∀ x, vis (out ++ [(d, k)]) x → x < n ∧ Conn n S root x) ∧ (∀ f ∈ bumpS st, ∀ i, i < per S f.a → (vis (out ++ [(d, k)]) (itr S i f.a) ↔ i < f.k)) ∧
    (∀ i, i < per S root → (vis (out ++ [(d, k)]) (itr S i root) ↔ i < bumpR r st)) ∧ (bumpS st).Pairwise (fun f g => ¬ SameO S f.a g.a) ∧
    (∀ f ∈ bumpS st, ¬ SameO S f.a root) ∧ (∀ f ∈ bumpS st, metB vert root (out ++ [(d, k)]) (vert f.a) = true) := by
  obtain ⟨f1, f2, f3⟩ := I.fresh h hr hd
  have hnd : ((out ++ [(d, k)]).map Prod.fst).Nodup := by
    rw [List.map_append]
    exact nodup_snoc I.nd (fun hm => f3 (vis_map.2 hm))
  have hcon : ∀ x, vis (out ++ [(d, k)]) x → x < n ∧ Conn n S root x := by
    intro x hx
    rcases vis_snoc.1 hx with hx | rfl
    · exact I.conn x hx
    · exact ⟨f1, f2⟩
  cases st with
  | nil =>
    have hlt : r < per S root := by
      have := I.rle
      have : r ≠ per S root := fun e => hd ⟨rfl, e⟩
      omega
    refine ⟨hlt, trivial, hnd, hcon, (fun f hf => by cases hf), fun i hi => ?_, List.Pairwise.nil, (fun f hf => by cases hf), (fun f hf => by cases hf)⟩
    rw [vis_snoc, I.rvis i hi, I.cur]
    show i < r ∨ itr S i root = itr S r root ↔ i < r + 1
    constructor
    · rintro (h1 | h1)
      · omega
      · have := h.itr_diff hr hi hlt h1
        omega
    · intro h1
      by_cases h2 : i < r
      · exact .inl h2
      · obtain rfl : i = r := by omega
        exact .inr rfl
  | cons f rest =>
    obtain ⟨⟨c1, c2, c3, c4, c5⟩, c6⟩ := I.chain
    have hk' := hk f rest rfl
    have hap := List.pairwise_cons.1 I.apart
    have hcur : d = itr S f.k f.a := I.cur
    have hother : ∀ g ∈ rest, ∀ i, itr S i g.a ≠ d := by
      intro g hg i e
      refine hap.1 g hg ?_
      have hga := (c6.lt g hg).1
      exact SameO.trans (⟨f.k, hcur.symm.trans e.symm⟩ : SameO S f.a (itr S i g.a)) (h.sameO_symm hga ⟨i, rfl⟩)
    refine ⟨I.rle, ⟨⟨c1, hk', c3, c4, ?_⟩, c6.append _⟩, hnd, hcon, ?_, ?_, ?_, ?_, ?_⟩
    · show (out ++ [(d, k)])[f.o]? = _
      rw [List.getElem?_append_left (lt_of_get c5)]; exact c5
    · intro g hg i hi
      rcases List.mem_cons.1 hg with rfl | hg
      · show vis _ (itr S i f.a) ↔ i < f.k + 1
        have hi' : i < per S f.a := hi
        rw [vis_snoc, I.fvis f (by simp) i hi', hcur]
        constructor
        · rintro (h1 | h1)
          · omega
          · have := h.itr_diff c1 hi' c2 h1
            omega
        · intro h1
          by_cases h2 : i < f.k
          · exact .inl h2
          · obtain rfl : i = f.k := by omega
            exact .inr rfl
      · rw [vis_snoc, I.fvis g (by simp [hg]) i hi]
        exact ⟨fun h1 => h1.resolve_right (hother g hg i), .inl⟩
    · intro i hi
      show _ ↔ i < r
      rw [vis_snoc, I.rvis i hi]
      refine ⟨fun h1 => h1.resolve_right (fun e => ?_), .inl⟩
      refine I.rapart f (by simp) ?_
      exact SameO.trans (⟨f.k, hcur.symm.trans e.symm⟩ : SameO S f.a (itr S i root)) (h.sameO_symm hr ⟨i, rfl⟩)
    · exact List.pairwise_cons.2 ⟨fun g hg => hap.1 g hg, hap.2⟩
    · intro g hg
      rcases List.mem_cons.1 hg with rfl | hg
      · exact I.rapart f (by simp)
      · exact I.rapart g (by simp [hg])
    · intro g hg
      refine metB_snoc.2 (.inl ?_)
      rcases List.mem_cons.1 hg with rfl | hg
      · exact I.fmet f (by simp)
      · exact I.fmet g (by simp [hg])

include hv

omit h he in
/-- The vertex that is looked at has been met. -/
theorem DInv.metTop {r : Nat} {st : List Fr} {d : Nat} {out : List (Nat × Nat)} (I : DInv n S vert root r st d out) (hdn : d < n) : metB vert root out (vert d) = true := by
  cases st with
  | nil =>
    have : vert root = vert d := (hv root d hr hdn).2 (by rw [I.cur]; exact ⟨r, rfl⟩)
    unfold metB; simp [this]
  | cons f rest =>
    have : vert f.a = vert d := (hv f.a d I.chain.1.1 hdn).2 (I.topSame rfl)
    rw [← this]; exact I.fmet f (by simp)

omit he in
theorem DInv.close {r : Nat} {f : Fr} {rest : List Fr} {d : Nat} {out : List (Nat × Nat)} (I : DInv n S vert root r (f :: rest) d out) (hk : f.k + 1 = per S f.a) :
    mt d = lastD S root r rest ∧ (mt d, 0) ∈ out ∧ DInv n S vert root r rest (S (mt d)) (out ++ [(d, 1)]) := by
  have hd : ¬ DDone S root r (f :: rest) := fun e => by have := e.1; cases this
  obtain ⟨f1, f2, f3⟩ := I.fresh h hr hd
  obtain ⟨⟨c1, c2, c3, c4, c5⟩, c6⟩ := I.chain
  have hcur : d = itr S f.k f.a := I.cur
  have hterm : itr S (per S f.a - 1) f.a = d := by rw [hcur]; congr 1; omega
  have hmd : mt d = lastD S root r rest := by rw [← hterm, c4, mt_mt]
  have hmem : (mt d, 0) ∈ out := by rw [hmd]; exact List.mem_of_getElem? c5
  have hap := List.pairwise_cons.1 I.apart
  have hother : ∀ g ∈ rest, ∀ i, itr S i g.a ≠ d := by
    intro g hg i e
    refine hap.1 g hg ?_
    have hga := (c6.lt g hg).1
    exact SameO.trans (⟨f.k, hcur.symm.trans e.symm⟩ : SameO S f.a (itr S i g.a)) (h.sameO_symm hga ⟨i, rfl⟩)
  refine ⟨hmd, hmem, ?_⟩
  exact {
    cur := by
      rw [hmd]
      cases rest with
      | nil =>
        show S (itr S (r - 1) root) = itr S r root
        obtain ⟨r', rfl⟩ : ∃ r', r = r' + 1 := ⟨r - 1, by have : 1 ≤ r := c3; omega⟩
        rfl
      | cons g rest =>
        show S (itr S (g.k - 1) g.a) = itr S g.k g.a
        have : 1 ≤ g.k := c3
        obtain ⟨r', hr'⟩ : ∃ r', g.k = r' + 1 := ⟨g.k - 1, by omega⟩
        rw [hr']
        rfl
    rle := I.rle
    chain := c6.append _
    nd := by
      rw [List.map_append]
      exact nodup_snoc I.nd (fun hm => f3 (vis_map.2 hm))
    conn := fun x hx => by
      rcases vis_snoc.1 hx with hx | rfl
      · exact I.conn x hx
      · exact ⟨f1, f2⟩
    fvis := fun g hg i hi => by
      rw [vis_snoc, I.fvis g (by simp [hg]) i hi]
      exact ⟨fun h1 => h1.resolve_right (hother g hg i), .inl⟩
    rvis := fun i hi => by
      rw [vis_snoc, I.rvis i hi]
      refine ⟨fun h1 => h1.resolve_right (fun e => ?_), .inl⟩
      refine I.rapart f (by simp) ?_
      exact SameO.trans (⟨f.k, hcur.symm.trans e.symm⟩ : SameO S f.a (itr S i root)) (h.sameO_symm hr ⟨i, rfl⟩)
    apart := hap.2
    rapart := fun g hg => I.rapart g (by simp [hg])
    fmet := fun g hg => metB_snoc.2 (.inl (I.fmet g (by simp [hg])))
    met := fun x hx hm => by
      rcases metB_snoc.1 hm with hm | ⟨h1, _⟩
      · rcases I.met x hx hm with h1 | ⟨g, hg, h1⟩ | h1
        · exact .inl h1
        · rcases List.mem_cons.1 hg with rfl | hg
          · obtain ⟨i, hi, rfl⟩ := h.sameO_ex c1 h1
            refine .inr (.inr (vis_snoc.2 ?_))
            by_cases hik : i < g.k
            · exact .inl ((I.fvis g (by simp) i hi).2 hik)
            · obtain rfl : i = g.k := by omega
              exact .inr hcur.symm
          · exact .inr (.inl ⟨g, hg, h1⟩)
        · exact .inr (.inr (vis_snoc.2 (.inl h1)))
      · cases h1
    unmet := fun x hx hm hvx => by
      have hm0 : metB vert root out (vert x) = false := by
        cases hb : metB vert root out (vert x)
        · rfl
        · rw [metB_snoc.2 (.inl hb)] at hm; cases hm
      rcases vis_snoc.1 hvx with h1 | rfl
      · exact I.unmet x hx hm0 h1
      · rw [I.metTop hv hr f1] at hm0; cases hm0
    half := fun x k hx hnv => by
      have hnv0 : ¬ vis out (mt x) := fun h1 => hnv (vis_snoc.2 (.inl h1))
      have hnvd : mt x ≠ d := fun h1 => hnv (vis_snoc.2 (.inr h1))
      rcases List.mem_append.1 hx with hx | hx
      · rcases I.half x k hx hnv0 with ⟨h1, g, hg, h2⟩ | h1
        · rcases List.mem_cons.1 hg with rfl | hg
          · exact absurd (h2.symm.trans hterm) hnvd
          · exact .inl ⟨h1, g, hg, h2⟩
        · exact .inr h1
      · simp only [List.mem_singleton, Prod.mk.injEq] at hx
        obtain ⟨rfl, rfl⟩ := hx
        exact absurd ⟨0, hmem⟩ hnv0
    late := fun l x hl hnv => by
      have hnv0 : ¬ vis out (mt x) := fun h1 => hnv (vis_snoc.2 (.inl h1))
      have hnvd : mt x ≠ d := fun h1 => hnv (vis_snoc.2 (.inr h1))
      rcases snoc_get hl with hl | ⟨_, h1⟩
      · rcases I.late l x hl hnv0 with h1 | ⟨g, hg, h1, h2⟩
        · exact .inl h1
        · rcases List.mem_cons.1 hg with rfl | hg
          · exfalso
            obtain ⟨i, hi, hix⟩ := h.sameO_ex c1 h1
            by_cases hik : i < g.k
            · exact hnv0 (hix ▸ (I.fvis g (by simp) i hi).2 hik)
            · obtain rfl : i = g.k := by omega
              exact hnvd (hix.symm.trans hcur.symm)
          · exact .inr ⟨g, hg, h1, h2⟩
      · simp only [Prod.mk.injEq] at h1; omega
    k4 := fun x k hx => by
      rcases List.mem_append.1 hx with hx | hx
      · exact I.k4 x k hx
      · simp only [List.mem_singleton, Prod.mk.injEq] at hx
        omega }

/-- An edge whose other dart has been looked at, or whose other vertex has been met. -/
theorem DInv.pass {r : Nat} {st : List Fr} {d : Nat} {out : List (Nat × Nat)} (I : DInv n S vert root r st d out) (hd : ¬ DDone S root r st) (k : Nat)
    (hk : ∀ f rest, st = f :: rest → f.k + 1 < per S f.a) (hkk : (k = 3 ∧ vis out (mt d)) ∨ (k = 2 ∧ metB vert root out (vert (mt d)) = true)) :
    DInv n S vert root (bumpR r st) (bumpS st) (S d) (out ++ [(d, k)]) := by
  obtain ⟨f1, f2, f3⟩ := I.fresh h hr hd
  obtain ⟨b1, b2, b3, b4, b5, b6, b7, b8, b9⟩ := I.bump h hr hd k hk
  have hk0 : k ≠ 0 := by omega
  exact {
    cur := by rw [bump_top, ← I.cur]
    rle := b1, chain := b2, nd := b3, conn := b4, fvis := b5, rvis := b6, apart := b7, rapart := b8, fmet := b9
    met := fun x hx hm => by
      rcases metB_snoc.1 hm with hm | ⟨h1, _⟩
      · rcases I.met x hx hm with h1 | ⟨g, hg, h1⟩ | h1
        · exact .inl h1
        · obtain ⟨g', hg', h2, _⟩ := bump_of hg
          exact .inr (.inl ⟨g', hg', by rw [h2]; exact h1⟩)
        · exact .inr (.inr (vis_snoc.2 (.inl h1)))
      · exact absurd h1 hk0
    unmet := fun x hx hm hvx => by
      have hm0 : metB vert root out (vert x) = false := by
        cases hb : metB vert root out (vert x)
        · rfl
        · rw [metB_snoc.2 (.inl hb)] at hm; cases hm
      rcases vis_snoc.1 hvx with h1 | rfl
      · exact I.unmet x hx hm0 h1
      · rw [I.metTop hv hr f1] at hm0; cases hm0
    half := fun x k' hx hnv => by
      have hnv0 : ¬ vis out (mt x) := fun h1 => hnv (vis_snoc.2 (.inl h1))
      rcases List.mem_append.1 hx with hx | hx
      · rcases I.half x k' hx hnv0 with ⟨h1, g, hg, h2⟩ | h1
        · obtain ⟨g', hg', h3, _⟩ := bump_of hg
          exact .inl ⟨h1, g', hg', by rw [h3]; exact h2⟩
        · exact .inr h1
      · simp only [List.mem_singleton, Prod.mk.injEq] at hx
        obtain ⟨rfl, rfl⟩ := hx
        rcases hkk with ⟨_, h1⟩ | ⟨h1, _⟩
        · exact absurd h1 hnv0
        · exact .inr h1
    late := fun l x hl hnv => by
      have hnv0 : ¬ vis out (mt x) := fun h1 => hnv (vis_snoc.2 (.inl h1))
      rcases snoc_get hl with hl | ⟨hll, h1⟩
      · rcases I.late l x hl hnv0 with h1 | ⟨g, hg, h1, h2⟩
        · exact .inl h1
        · obtain ⟨g', hg', h3, h4⟩ := bump_of hg
          exact .inr ⟨g', hg', by rw [h3]; exact h1, by rw [h4]; exact h2⟩
      · simp only [Prod.mk.injEq] at h1
        obtain ⟨rfl, rfl⟩ := h1
        rcases hkk with ⟨h1, _⟩ | ⟨_, hm⟩
        · omega
        · rcases I.met _ (mt_lt he f1) hm with h1 | ⟨g, hg, h1⟩ | h1
          · exact .inl h1
          · obtain ⟨g', hg', h3, h4⟩ := bump_of hg
            exact .inr ⟨g', hg', by rw [h3]; exact h1, by rw [h4, hll]; exact I.chain.old g hg⟩
          · exact absurd h1 hnv0
    k4 := fun x k' hx => by
      rcases List.mem_append.1 hx with hx | hx
      · exact I.k4 x k' hx
      · simp only [List.mem_singleton, Prod.mk.injEq] at hx
        omega }

/-- An edge to a vertex that has not been met. -/
theorem DInv.opens {r : Nat} {st : List Fr} {d : Nat} {out : List (Nat × Nat)} (I : DInv n S vert root r st d out) (hd : ¬ DDone S root r st)
    (hk : ∀ f rest, st = f :: rest → f.k + 1 < per S f.a) (hm : metB vert root out (vert (mt d)) = false) :
    DInv n S vert root (bumpR r st) (⟨S (mt d), 0, out.length⟩ :: bumpS st) (S (mt d)) (out ++ [(d, 0)]) := by
  obtain ⟨f1, f2, f3⟩ := I.fresh h hr hd
  obtain ⟨b1, b2, b3, b4, b5, b6, b7, b8, b9⟩ := I.bump h hr hd 0 hk
  have hmn := mt_lt he f1
  have hsn := h.lt _ hmn
  have hsame : SameO S (S (mt d)) (mt d) := h.sameO_symm hmn (SameO.step S _)
  have hps := h.per_same hmn (SameO.step S (mt d))
  have hp0 := (h.per_spec hmn).1
  have hvm : vert (S (mt d)) = vert (mt d) := (hv _ _ hsn hmn).2 hsame
  have hun : ∀ x, SameO S (S (mt d)) x → x < n → ¬ vis out x := by
    intro x hx hxn
    refine I.unmet x hxn ?_
    rw [← (hv _ x hsn hxn).2 hx, hvm]; exact hm
  have hmetd := I.metTop hv hr f1
  have hmd : ¬ SameO S (S (mt d)) d := fun hs => by
    rw [← (hv _ d hsn f1).2 hs, hvm, hm] at hmetd; cases hmetd
  have hnf : ∀ g ∈ st, g.a < n → ¬ SameO S (S (mt d)) g.a := by
    intro g hg hgn hs
    have h1 := I.fmet g hg
    rw [← (hv _ g.a hsn hgn).2 hs, hvm, hm] at h1; cases h1
  have hterm : itr S (per S (S (mt d)) - 1) (S (mt d)) = mt d := by
    rw [hps, ← itr_succ', Nat.sub_add_cancel hp0]; exact (h.per_spec hmn).2.2.1
  exact {
    cur := rfl
    rle := b1
    chain := ⟨⟨hsn, by rw [hps]; exact hp0, bump_topK r st, by rw [hterm, bump_last, ← I.cur], by rw [bump_last, ← I.cur]; simp⟩, b2⟩
    nd := b3
    conn := b4
    fvis := fun g hg i hi => by
      rcases List.mem_cons.1 hg with rfl | hg
      · show vis _ (itr S i (S (mt d))) ↔ i < 0
        rw [vis_snoc]
        constructor
        · rintro (h1 | h1)
          · exact absurd h1 (hun _ ⟨i, rfl⟩ (h.itr_lt hsn i))
          · exact absurd ⟨i, h1⟩ hmd
        · omega
      · exact b5 g hg i hi
    rvis := b6
    apart := List.pairwise_cons.2 ⟨fun g hg => by
      obtain ⟨g', hg', h1, _⟩ := bump_mem hg
      show ¬ SameO S (S (mt d)) g.a
      rw [← h1]
      exact hnf g' hg' (I.chain.lt g' hg').1, b7⟩
    rapart := fun g hg => by
      rcases List.mem_cons.1 hg with rfl | hg
      · show ¬ SameO S (S (mt d)) root
        intro hs
        have : vert root = vert (mt d) := by rw [← hvm]; exact ((hv _ root hsn hr).2 hs).symm
        unfold metB at hm
        rw [← this] at hm
        simp at hm
      · exact b8 g hg
    fmet := fun g hg => by
      rcases List.mem_cons.1 hg with rfl | hg
      · exact metB_snoc.2 (.inr ⟨rfl, hvm.symm⟩)
      · exact b9 g hg
    met := fun x hx hm1 => by
      rcases metB_snoc.1 hm1 with hm1 | ⟨_, h1⟩
      · rcases I.met x hx hm1 with h1 | ⟨g, hg, h1⟩ | h1
        · exact .inl h1
        · obtain ⟨g', hg', h2, _⟩ := bump_of hg
          exact .inr (.inl ⟨g', by simp [hg'], by rw [h2]; exact h1⟩)
        · exact .inr (.inr (vis_snoc.2 (.inl h1)))
      · exact .inr (.inl ⟨⟨S (mt d), 0, out.length⟩, by simp, (hv _ x hsn hx).1 (hvm.trans h1)⟩)
    unmet := fun x hx hm1 hvx => by
      have hm0 : metB vert root out (vert x) = false := by
        cases hb : metB vert root out (vert x)
        · rfl
        · rw [metB_snoc.2 (.inl hb)] at hm1; cases hm1
      rcases vis_snoc.1 hvx with h1 | rfl
      · exact I.unmet x hx hm0 h1
      · rw [hmetd] at hm0; cases hm0
    half := fun x k' hx hnv => by
      have hnv0 : ¬ vis out (mt x) := fun h1 => hnv (vis_snoc.2 (.inl h1))
      rcases List.mem_append.1 hx with hx | hx
      · rcases I.half x k' hx hnv0 with ⟨h1, g, hg, h2⟩ | h1
        · obtain ⟨g', hg', h3, _⟩ := bump_of hg
          exact .inl ⟨h1, g', by simp [hg'], by rw [h3]; exact h2⟩
        · exact .inr h1
      · simp only [List.mem_singleton, Prod.mk.injEq] at hx
        obtain ⟨rfl, rfl⟩ := hx
        exact .inl ⟨rfl, ⟨S (mt x), 0, out.length⟩, by simp, hterm⟩
    late := fun l x hl hnv => by
      have hnv0 : ¬ vis out (mt x) := fun h1 => hnv (vis_snoc.2 (.inl h1))
      rcases snoc_get hl with hl | ⟨hll, h1⟩
      · rcases I.late l x hl hnv0 with h1 | ⟨g, hg, h1, h2⟩
        · exact .inl h1
        · obtain ⟨g', hg', h3, h4⟩ := bump_of hg
          exact .inr ⟨g', by simp [hg'], by rw [h3]; exact h1, by rw [h4]; exact h2⟩
      · simp only [Prod.mk.injEq] at h1; omega
    k4 := fun x k' hx => by
      rcases List.mem_append.1 hx with hx | hx
      · exact I.k4 x k' hx
      · simp only [List.mem_singleton, Prod.mk.injEq] at hx
        omega }

/-- The ways a step may go. -/
inductive StepK (n : Nat) (S vert : Nat → Nat) (root r : Nat) (st : List Fr) (d : Nat) (out : List (Nat × Nat)) : Nat → Nat → List Fr → Prop
  | close (f : Fr) (rest : List Fr) : st = f :: rest → (mt d, 0) ∈ out → StepK n S vert root r st d out 1 r rest
  | right : (mt d, 2) ∈ out → StepK n S vert root r st d out 3 (bumpR r st) (bumpS st)
  | left : ¬ vis out (mt d) → metB vert root out (vert (mt d)) = true → StepK n S vert root r st d out 2 (bumpR r st) (bumpS st)
  | opens : ¬ vis out (mt d) → metB vert root out (vert (mt d)) = false → StepK n S vert root r st d out 0 (bumpR r st) (⟨S (mt d), 0, out.length⟩ :: bumpS st)

theorem DInv.step {r : Nat} {st : List Fr} {d : Nat} {out : List (Nat × Nat)} (I : DInv n S vert root r st d out) (hd : ¬ DDone S root r st) :
    ∃ r' st', StepK n S vert root r st d out (kindB vert root out d) r' st' ∧ DInv n S vert root r' st' (S (if kindB vert root out d < 2 then mt d else d)) (out ++ [(d, kindB vert root out d)]) := by
  obtain ⟨f1, f2, f3⟩ := I.fresh h hr hd
  by_cases hcl : ∃ f rest, st = f :: rest ∧ f.k + 1 = per S f.a
  · obtain ⟨f, rest, rfl, hk⟩ := hcl
    obtain ⟨h1, h2, h3⟩ := I.close h hv hr hk
    have hkd : kindB vert root out d = 1 := by
      unfold kindB
      rcases find_half f3 with ⟨k, hf, hm⟩ | ⟨_, hm⟩
      · rw [hf]
        have : k = 0 := by
          have hnd := I.nd
          rw [List.Nodup, List.pairwise_map] at hnd
          apply Classical.byContradiction
          intro hk0
          have key : ∀ l : List (Nat × Nat), l.Pairwise (fun a b => a.1 ≠ b.1) → (mt d, k) ∈ l → (mt d, 0) ∈ l → False := by
            intro l
            induction l with
            | nil => intro _ h; cases h
            | cons p l ih =>
              intro hp ha hb
              rw [List.pairwise_cons] at hp
              rcases List.mem_cons.1 ha with ha | ha
              · rcases List.mem_cons.1 hb with hb | hb
                · rw [← ha] at hb; simp only [Prod.mk.injEq, true_and] at hb; exact hk0 hb.symm
                · exact hp.1 _ hb (by rw [← ha])
              · rcases List.mem_cons.1 hb with hb | hb
                · exact hp.1 _ ha (by rw [← hb])
                · exact ih hp.2 ha hb
          exact key out hnd hm h2
        rw [this]
      · exact absurd ⟨0, h2⟩ hm
    rw [hkd]
    exact ⟨r, rest, .close f rest rfl h2, by simpa using h3⟩
  · have hk : ∀ f rest, st = f :: rest → f.k + 1 < per S f.a := by
      rintro f rest rfl
      have := I.chain.1.2.1
      have : f.k + 1 ≠ per S f.a := fun e => hcl ⟨f, rest, rfl, e⟩
      omega
    rcases find_half f3 with ⟨k, hf, hm⟩ | ⟨hf, hm⟩
    · have hk2 : k = 2 := by
        rcases I.half _ _ hm (by rw [mt_mt]; exact f3) with ⟨_, g, hg, h2⟩ | h1
        · exfalso
          rw [mt_mt] at h2
          cases st with
          | nil => cases hg
          | cons f rest =>
            rcases List.mem_cons.1 hg with rfl | hg
            · have hcur : d = itr S g.k g.a := I.cur
              rw [hcur] at h2
              have hg1 := I.chain.1
              have := h.itr_diff hg1.1 (by omega) hg1.2.1 h2
              have := hk g rest rfl
              omega
            · refine (List.pairwise_cons.1 I.apart).1 g hg ?_
              have hgn := (I.chain.2.lt g hg).1
              exact (I.topSame rfl).trans (h.sameO_symm hgn ⟨_, h2⟩)
        · exact h1
      subst hk2
      have hkd : kindB vert root out d = 3 := by unfold kindB; rw [hf]
      rw [hkd]
      exact ⟨_, _, .right hm, by simpa using I.pass h he hv hr hd 3 hk (.inl ⟨rfl, 2, hm⟩)⟩
    · cases hmet : metB vert root out (vert (mt d))
      · have hkd : kindB vert root out d = 0 := by unfold kindB; rw [hf]; simp [hmet]
        rw [hkd]
        exact ⟨_, _, .opens hm hmet, by simpa using I.opens h he hv hr hd hk hmet⟩
      · have hkd : kindB vert root out d = 2 := by unfold kindB; rw [hf]; simp [hmet]
        rw [hkd]
        exact ⟨_, _, .left hm hmet, by simpa using I.pass h he hv hr hd 2 hk (.inr ⟨rfl, hmet⟩)⟩

omit hv he in
/-- At the end all that is joined with the root has been looked at. -/
theorem DInv.all {r : Nat} {st : List Fr} {d : Nat} {out : List (Nat × Nat)} (I : DInv n S vert root r st d out) (hd : DDone S root r st)
    (hvt : ∀ x, x < n → vert (S x) = vert x) {x : Nat} (hx : Conn n S root x) : vis out x := by
  obtain ⟨rfl, rfl⟩ := hd
  have hroot : ∀ y, SameO S root y → vis out y := by
    intro y hy
    obtain ⟨i, hi, rfl⟩ := h.sameO_ex hr hy
    exact (I.rvis i hi).2 hi
  refine hx (vis out) (hroot root (SameO.refl S root)) (fun z hz hP => ⟨?_, ?_⟩)
  · have hm : metB vert root out (vert (S z)) = true := by
      cases hb : metB vert root out (vert (S z))
      · rw [hvt z hz] at hb
        exact absurd hP (I.unmet z hz hb)
      · rfl
    rcases I.met (S z) (h.lt z hz) hm with h1 | ⟨g, hg, _⟩ | h1
    · exact hroot _ h1
    · cases hg
    · exact h1
  · apply Classical.byContradiction
    intro hn
    obtain ⟨k, hk⟩ := hP
    rcases I.half z k hk hn with ⟨_, g, hg, _⟩ | h2
    · cases hg
    · subst h2
      obtain ⟨l, hl, hl2⟩ := List.mem_iff_getElem.1 hk
      rcases I.late l z (by rw [List.getElem?_eq_getElem hl, hl2]) hn with h1 | ⟨g, hg, _⟩
      · exact hn (hroot _ h1)
      · cases hg

omit h he hv hr in
theorem DInv.len {r : Nat} {st : List Fr} {d : Nat} {out : List (Nat × Nat)} (I : DInv n S vert root r st d out) : out.length ≤ n := by
  have := nodup_le n _ I.nd (fun x hx => (I.conn x (vis_map.2 hx)).1)
  simpa using this

/-- The walk comes to its end: after so many steps as there are darts that are joined with the root. -/
theorem dfs_end : ∀ m j r st, n ≤ j + m → DInv n S vert root r st (wlk S vert root j).1 (wlk S vert root j).2 → (∀ i, i < j → ∃ r st, DInv n S vert root r st (wlk S vert root i).1 (wlk S vert root i).2 ∧ ¬ DDone S root r st) →
    ∃ T r, DInv n S vert root r [] (wlk S vert root T).1 (wlk S vert root T).2 ∧ DDone S root r [] ∧ ∀ i, i < T → ∃ r st, DInv n S vert root r st (wlk S vert root i).1 (wlk S vert root i).2 ∧ ¬ DDone S root r st := by
  intro m
  induction m with
  | zero =>
    intro j r st hm I hall
    by_cases hd : DDone S root r st
    · obtain ⟨rfl, h2⟩ := id hd
      exact ⟨j, r, I, hd, hall⟩
    · exfalso
      obtain ⟨r', st', _, I'⟩ := I.step h he hv hr hd
      have := I'.len
      rw [List.length_append, wlk_length] at this
      simp at this
      omega
  | succ m ih =>
    intro j r st hm I hall
    by_cases hd : DDone S root r st
    · obtain ⟨rfl, h2⟩ := id hd
      exact ⟨j, r, I, hd, hall⟩
    · obtain ⟨r', st', _, I'⟩ := I.step h he hv hr hd
      refine ih (j + 1) r' st' (by omega) I' (fun i hi => ?_)
      rcases Nat.lt_or_ge i j with hlt | hge
      · exact hall i hlt
      · obtain rfl : i = j := by omega
        exact ⟨r, st, I, hd⟩

end

end Go.Proofs.YtblkkcpeodoclaaGreatDoor
