/- Joined texts: EulP, Euler, EulP2, Euler2, Euler3. -/
import Derived.Test.YtblkkcpeodoclaaGreatDoorRef8
import Derived.Test.YtblkkcpeodoclaaGreatDoorDarts
import Derived.Deep.CutRange
import Derived.Test.YtblkkcpeodoclaaGreatDoorParts2
import Derived.StillTailTactics
import Derived.BigRegion
import Derived.Test.YtblkkcpeodoclaaGreatDoorEnc

/- Plain laws of the search for parts: who has been met, part by part. No program is named here. -/
namespace Go.Proofs.YtblkkcpeodoclaaGreatDoor

/-- The parts whose least dart is below d have their names. -/
def NmO (n : Nat) (S : Nat → Nat) (d : Nat) (zs : List Int) : Prop := ∀ x, x < n → zs[x]? = some (if crep n S x < d then ((cnum n S x : Nat) : Int) else -1)
/-- Besides, those in V have the name of the part whose least dart is d. -/
def NmE (n : Nat) (S : Nat → Nat) (d : Nat) (V : List Nat) (zs : List Int) : Prop := ∀ x, x < n → zs[x]? = some (if x ∈ V then ((cldr n S d : Nat) : Int) else if crep n S x < d then ((cnum n S x : Nat) : Int) else -1)

/-- Who has been met, who waits. -/
structure EInv (n : Nat) (S : Nat → Nat) (d : Nat) (V st : List Nat) : Prop where
  nd : V.Nodup
  cl : ∀ z ∈ V, z < n ∧ Conn n S d z
  dm : d ∈ V
  sub : ∀ z ∈ st, z ∈ V
  sn : st.Nodup

theorem EInv.slen {n : Nat} {S : Nat → Nat} {d : Nat} {V st : List Nat} (h : EInv n S d V st) : st.length ≤ V.length := nodup_sub st V h.sn h.sub
theorem EInv.pop {n : Nat} {S : Nat → Nat} {d x : Nat} {V st : List Nat} (h : EInv n S d V (st ++ [x])) : EInv n S d V st :=
  ⟨h.nd, h.cl, h.dm, fun z hz => h.sub z (by simp [hz]), (List.nodup_append.1 h.sn).1⟩

theorem EInv.len {n : Nat} {S : Nat → Nat} {d : Nat} {V st : List Nat} (h : EInv n S d V st) : V.length ≤ n := nodup_le n V h.nd (fun z hz => (h.cl z hz).1)

section
variable {n : Nat} {S : Nat → Nat} (h : IsP n S) (he : n % 2 = 0) {d : Nat} (hd : d < n)
include h he hd

omit h he in
theorem NmO.at {zs : List Int} {z : Int} (k : NmO n S d zs) (hz : zs[d]? = some z) : (crep n S d = d ∧ z = -1) ∨ (crep n S d ≠ d ∧ 0 ≤ z) := by
  rw [k d hd] at hz
  have hz := Option.some.inj hz
  have hle := crep_le (Conn.refl n S d)
  by_cases a : crep n S d = d
  · rw [if_neg (by omega)] at hz; exact .inl ⟨a, hz.symm⟩
  · rw [if_pos (by omega)] at hz; exact .inr ⟨a, by omega⟩

omit hd in
theorem NmO.skip {zs : List Int} (k : NmO n S d zs) (hc : crep n S d ≠ d) : NmO n S (d + 1) zs := fun x hx => by
  rw [k x hx]
  by_cases a : crep n S x < d
  · rw [if_pos a, if_pos (by omega)]
  · have : crep n S x ≠ d := fun e => hc (by
      have h1 := h.crep_crep he hx
      rw [e] at h1; exact h1)
    rw [if_neg a, if_neg (by omega)]

omit h in
theorem NmO.start {zs : List Int} (hl : zs.length = n) (k : NmO n S d zs) (hc : crep n S d = d) : NmE n S d [d] (zs.set d ((cldr n S d : Nat) : Int)) ∧ EInv n S d [d] [d] := by
  refine ⟨fun x hx => ?_, ⟨by simp, fun z hz => by simp at hz; subst hz; exact ⟨hd, Conn.refl n S _⟩, by simp, fun z hz => hz, by simp⟩⟩
  rw [List.getElem?_set]
  by_cases a : d = x
  · subst a; rw [if_pos rfl, if_pos (by omega), if_pos (by simp)]
  · rw [if_neg a, if_neg (by simp; omega)]; exact k x hx

omit h he hd in
theorem NmE.old {V : List Nat} {zs : List Int} {y : Nat} {z : Int} (k : NmE n S d V zs) (hy : y < n) (hm : y ∈ V) (hz : zs[y]? = some z) : 0 ≤ z := by
  rw [k y hy, if_pos hm] at hz
  have := Option.some.inj hz
  omega

theorem NmE.fresh {V : List Nat} {zs : List Int} {y : Nat} {z : Int} (k : NmE n S d V zs) (hc : crep n S d = d) (hy : y < n) (hcy : Conn n S d y) (hm : y ∉ V) (hz : zs[y]? = some z) : z = -1 := by
  have e := (h.crep_iff he hd hy).2 hcy
  rw [k y hy, if_neg hm, if_neg (by omega)] at hz
  exact (Option.some.inj hz).symm

omit h he hd in
theorem NmE.push {V : List Nat} {zs : List Int} {y : Nat} (hl : zs.length = n) (k : NmE n S d V zs) (hy : y < n) : NmE n S d (y :: V) (zs.set y ((cldr n S d : Nat) : Int)) := fun x hx => by
  rw [List.getElem?_set]
  by_cases a : y = x
  · subst a; rw [if_pos rfl, if_pos (by omega), if_pos (by simp)]
  · rw [if_neg a, k x hx]
    have : (x ∈ y :: V) ↔ x ∈ V := by simp; omega
    by_cases b : x ∈ V
    · rw [if_pos b, if_pos (this.2 b)]
    · rw [if_neg b, if_neg (fun e => b (this.1 e))]

omit h he hd in
theorem EInv.push {V st : List Nat} (k : EInv n S d V st) {y : Nat} (hy : y < n) (hcy : Conn n S d y) (hm : y ∉ V) : EInv n S d (y :: V) (st ++ [y]) :=
  ⟨List.nodup_cons.2 ⟨hm, k.nd⟩, fun z hz => by
    rcases List.mem_cons.1 hz with rfl | hz
    · exact ⟨hy, hcy⟩
    · exact k.cl z hz, List.mem_cons_of_mem _ k.dm, fun z hz => by
    rcases List.mem_append.1 hz with hz | hz
    · exact List.mem_cons_of_mem _ (k.sub z hz)
    · simp at hz; subst hz; simp, nodup_snoc k.sn (fun hh => hm (k.sub y hh))⟩

/-- Nobody waits: the part is whole. -/
theorem NmE.done {V : List Nat} {zs : List Int} (k : NmE n S d V zs) (I : EInv n S d V []) (hc : crep n S d = d) (hclo : ∀ z ∈ V, S z ∈ V ∧ mt z ∈ V) : NmO n S (d + 1) zs := fun x hx => by
  have hV : x ∈ V ↔ crep n S x = d := by
    constructor
    · intro hm
      rw [← (h.crep_iff he hd hx).2 (I.cl x hm).2]; exact hc
    · intro e
      have hcx : Conn n S d x := (h.crep_iff he hd hx).1 (by rw [hc, e])
      exact hcx (fun z => z ∈ V) I.dm (fun z _ hz => hclo z hz)
  rw [k x hx]
  by_cases a : x ∈ V
  · have e := hV.1 a
    rw [if_pos a, if_pos (by omega)]
    unfold cnum; rw [e]
  · have e : crep n S x ≠ d := fun e => a (hV.2 e)
    rw [if_neg a]
    by_cases b : crep n S x < d
    · rw [if_pos b, if_pos (by omega)]
    · rw [if_neg b, if_neg (by omega)]
end

theorem NmO.zero {n : Nat} {S : Nat → Nat} {zs : List Int} (h : ∀ i, i < n → zs[i]? = some (-1)) : NmO n S 0 zs := fun x hx => by rw [if_neg (by omega)]; exact h x hx

theorem NmO.all {n : Nat} {S : Nat → Nat} {zs : List Int} (h : IsP n S) (he : n % 2 = 0) (hl : zs.length = n) (k : NmO n S n zs) : zs = nats ((List.range n).map (cnum n S)) := by
  apply List.ext_getElem?
  intro i
  rcases Nat.lt_or_ge i n with hi | hi
  · rw [k i hi, if_pos (h.crep_lt he hi)]; simp [nats, hi]
  · rw [List.getElem?_eq_none (by omega), List.getElem?_eq_none (by simp [nats]; omega)]

end Go.Proofs.YtblkkcpeodoclaaGreatDoor

/- The contracts of package euler: which part each dart is of. -/
namespace Go.Proofs.YtblkkcpeodoclaaGreatDoor
open Go.RowKit

theorem OwnI.dropLast {B : Nat} {w : World} {g n cap : Nat} {zs : List Int} {z : Int} (h : OwnI B w (.slice (some ⟨g, 0, none⟩) (n + 1) cap) (zs ++ [z])) : OwnI B w (.slice (some ⟨g, 0, none⟩) n cap) zs := by
  obtain ⟨h1, h2⟩ := h
  rcases h2 with ⟨h2, _⟩ | ⟨g', cap', cur, hv, hB, hg, hnc, hcm, hcs, ht⟩
  · cases h2
  · simp only [Value.slice.injEq, Option.some.injEq, Addr.mk.injEq, and_true] at hv
    obtain ⟨rfl, e2, rfl⟩ := hv
    have hl : zs.length = n := by simp at e2; omega
    refine ⟨by simp [ints], .inr ⟨g, cap, cur, by rw [hl], hB, hg, by simp at hnc; omega, hcm, hcs, ?_⟩⟩
    have := congrArg (List.take (zs.length * 1)) ht
    rw [List.take_take] at this
    rw [Nat.min_eq_left (by simp)] at this
    rw [this]
    simp [ints]

/-- Names and who waits, in memory. -/
structure ES (w : World) (n : Nat) (S : Nat → Nat) (d g : Nat) (V st : List Nat) (wv : Value) (wr : World) : Prop where
  nm : MadeS w g n (NmE n S d V) wr
  wt : OwnI w.heap.size wr wv (nats st)
  ne : ∀ k, wv.ownBlock = some k → k ≠ g

theorem ES.kee {w : World} {n : Nat} {S : Nat → Nat} {d g : Nat} {V st : List Nat} {wv : Value} {wr : World} (h : ES w n S d g V st wv wr) : Keeps (fun _ => False) w wr := by
  obtain ⟨_, _, _, _, hk⟩ := h.nm
  exact hk

theorem ES.drewN {w : World} {n : Nat} {S : Nat → Nat} {d g : Nat} {V st : List Nat} {wv : Value} {wr : World} (h : ES w n S d g V st wv wr) (k : Nat) : ES w n S d g V st wv (wr.drewN k) := by
  have kk := (Keeps.refl (fun _ => False) wr).drewN k
  exact ⟨h.nm.keeps kk, h.wt.keeps kk (fun _ _ h => h), h.ne⟩

theorem ES.pop {w : World} {n : Nat} {S : Nat → Nat} {d g : Nat} {V st : List Nat} {x wg m cap : Nat} {wr : World} (h : ES w n S d g V (st ++ [x]) (.slice (some ⟨wg, 0, none⟩) (m + 1) cap) wr) : ES w n S d g V st (.slice (some ⟨wg, 0, none⟩) m cap) wr :=
  ⟨h.nm, OwnI.dropLast (z := (x : Int)) (by rw [← nats_snoc]; exact h.wt), fun k hk => h.ne k hk⟩

theorem ES.store {w : World} {n : Nat} {S : Nat → Nat} {d g : Nat} {V st : List Nat} {wv : Value} {wr : World} (h : ES w n S d g V st wv wr) {y : Nat} (hy : y < n) : ES w n S d g (y :: V) st wv (wr.setCell ⟨g, y, none⟩ (.int .i64 ((cldr n S d : Nat) : Int))) := by
  have kk := (Keeps.refl (fun q => q = g) wr).setCell (p := ⟨g, y, none⟩) (.inl rfl) (.int .i64 ((cldr n S d : Nat) : Int))
  exact ⟨h.nm.set y _ (fun zs hzl k => k.push hzl hy), h.wt.keeps kk (fun q hq e => h.ne q hq e), h.ne⟩

theorem ES.app {w : World} {n : Nat} {S : Nat → Nat} {d g : Nat} {V st : List Nat} {wv : Value} {wr : World} (h : ES w n S d g V st wv wr) {y g5 m cap : Nat} {w5 : World}
    (ho : OwnI w.heap.size w5 (.slice (some ⟨g5, 0, none⟩) m cap) (nats st ++ [(y : Int)])) (k : Keeps (fun q => wv.ownBlock = some q) wr w5) (hat : wv.ownBlock = some g5 ∨ wr.heap.size ≤ g5) :
    ES w n S d g V (st ++ [y]) (.slice (some ⟨g5, 0, none⟩) m cap) w5 := by
  have hg := h.nm.old
  refine ⟨h.nm.keepsF k (fun e => h.ne g e rfl) (fun x hx => (h.wt.lt x hx).1), by rw [nats_snoc]; exact ho, fun q hq => ?_⟩
  simp only [Value.ownBlock, Option.some.injEq] at hq
  subst hq
  rcases hat with e | e
  · exact h.ne _ e
  · omega

end Go.Proofs.YtblkkcpeodoclaaGreatDoor

/- Plain laws of parts that are counted dart by dart; slices of structs of five numbers, written. -/
namespace Go.Proofs.YtblkkcpeodoclaaGreatDoor
open Go.RowKit

theorem ownRow_set5 {w : World} {base : Nat} {e : TypeId} {g n cap : Nat} {xs : List Value} (h : w.ownsRow base e 5 (.slice (some ⟨g, 0, none⟩) n cap) n xs) (i : Nat) (u : Value) :
    (w.setCell ⟨g, i, none⟩ u).ownsRow base e 5 (.slice (some ⟨g, 0, none⟩) n cap) n (xs.set i u) := by
  obtain ⟨hl, h2⟩ := h
  refine ⟨by simpa using hl, ?_⟩
  rcases h2 with ⟨h0, _⟩ | ⟨g', cap', cur, hv, hb, hg, hnc, hcm, hcur, ht⟩
  · cases h0
  · simp only [Value.slice.injEq, Option.some.injEq, Addr.mk.injEq] at hv
    obtain ⟨⟨rfl, _⟩, _, rfl⟩ := hv
    refine .inr ⟨g, cap, cur.setIfInBounds i u, rfl, hb, heap_setCell_same hg i u, hnc, hcm, by simpa using hcur, ?_⟩
    rw [Array.toList_setIfInBounds, ← ht]
    apply List.ext_getElem?
    intro k
    simp only [List.getElem?_take, List.getElem?_set, List.length_take]
    by_cases hk : k < n * 5
    · simp only [if_pos hk]
      by_cases hik : i = k
      · subst hik
        have : (i < min (n * 5) cur.toList.length) = (i < cur.toList.length) := by rw [Nat.lt_min]; simp; omega
        simp only [if_true, this]
      · simp [hik]
    · simp only [if_neg hk]
      by_cases hik : i = k
      · subst hik
        rw [if_pos rfl, if_neg (by omega)]
      · simp [hik]

theorem flatten5_set : ∀ {ps : List (List Int)} {j k : Nat} {p : List Int} (z : Int), (∀ p ∈ ps, p.length = 5) → ps[j]? = some p → k < 5 → (ps.set j (p.set k z)).flatten = ps.flatten.set (j * 5 + k) z := by
  intro ps
  induction ps with
  | nil => intro j k p z _ h; simp at h
  | cons q ps ih =>
    intro j k p z h5 hp hk
    have hq := h5 q (by simp)
    cases j with
    | zero =>
      obtain rfl : q = p := by simpa using hp
      rw [List.set_cons_zero, List.flatten_cons, List.flatten_cons, List.set_append_left _ _ (by omega)]
      congr 2; omega
    | succ j =>
      rw [List.set_cons_succ, List.flatten_cons, List.flatten_cons, List.set_append_right _ _ (by omega), hq]
      rw [ih z (fun p hp => h5 p (by simp [hp])) (by simpa using hp) hk]
      congr 2; omega

theorem Own5.set {t : TypeId} {B : Nat} {w : World} {g n cap : Nat} {ps : List (List Int)} (h : Own5 t B w (.slice (some ⟨g, 0, none⟩) n cap) ps) {j k : Nat} {p : List Int} (hp : ps[j]? = some p) (hk : k < 5) (z : Int) :
    Own5 t B (w.setCell ⟨g, j * 5 + k, none⟩ (.int .i64 z)) (.slice (some ⟨g, 0, none⟩) n cap) (ps.set j (p.set k z)) := by
  obtain ⟨a, c, hv⟩ := h.form
  simp only [Value.slice.injEq] at hv
  obtain ⟨_, rfl, _⟩ := hv
  have hp5 := h.2 p (List.mem_of_getElem? hp)
  refine ⟨?_, fun q hq => ?_⟩
  · have h1 := ownRow_set5 h.1 (j * 5 + k) (.int .i64 z)
    rw [List.length_set, flatten5_set z h.2 hp hk]
    unfold ints at h1 ⊢
    rw [List.map_set]
    exact h1
  · rcases List.mem_or_eq_of_mem_set hq with e | e
    · exact h.2 q e
    · rw [e]; simpa using hp5

theorem Own5.free {t : TypeId} {B : Nat} {w : World} {g n cap : Nat} {ps : List (List Int)} (h : Own5 t B w (.slice (some ⟨g, 0, none⟩) n cap) ps) (i : Nat) : w.frozen? ⟨g, i, none⟩ = false := by
  obtain ⟨⟨_, h2⟩, _⟩ := h
  rcases h2 with ⟨h0, _⟩ | ⟨g', cap', cur, hv, hb, hg, _⟩
  · cases h0
  · simp only [Value.slice.injEq, Option.some.injEq, Addr.mk.injEq] at hv
    obtain ⟨⟨rfl, _⟩, _⟩ := hv
    exact World.free_of_heap hg i

/-- The odd darts of a part. -/
def oddN (nm : List Nat) (k i : Nat) : Nat := ((List.range i).filter fun d => sg nm d == k && d % 2 == 1).length
theorem oddN_succ (nm : List Nat) (k i : Nat) : oddN nm k (i + 1) = oddN nm k i + if sg nm i = k then i % 2 else 0 := by
  unfold oddN
  rw [List.range_succ, List.filter_append, List.length_append]
  rcases Nat.mod_two_eq_zero_or_one i with h1 | h1 <;> by_cases h2 : sg nm i = k <;> simp [h1, h2]
theorem oddN_le (nm : List Nat) (k i : Nat) : oddN nm k i ≤ i := by
  unfold oddN
  have := List.length_filter_le (fun d => sg nm d == k && d % 2 == 1) (List.range i)
  simpa using this

/-- Of each edge both darts are of one part. -/
theorem odd_half {nm : List Nat} {n : Nat} (hp : ∀ e, 2 * e + 1 < n → sg nm (2 * e) = sg nm (2 * e + 1)) (k : Nat) : ∀ m, 2 * m ≤ n → cntN nm k (2 * m) = 2 * oddN nm k (2 * m)
  | 0, _ => rfl
  | m + 1, hm => by
    have ih := odd_half hp k m (by omega)
    have h1 := hp m (by omega)
    rw [show 2 * (m + 1) = 2 * m + 1 + 1 by omega, cntN_succ, cntN_succ, oddN_succ, oddN_succ, ih, ← h1]
    by_cases e : sg nm (2 * m) = k
    · simp only [if_pos e]; omega
    · simp only [if_neg e]; omega

/-- The least dart of a part, by the part's number. -/
noncomputable def rootP (s : List Nat) (j : Nat) : Nat := ((List.range s.length).filter fun d => crep s.length (sg s) d == d).getD j 0

theorem filter_nth {p : Nat → Bool} : ∀ (n j r : Nat), ((List.range n).filter p)[j]? = some r → r < n ∧ p r = true ∧ ((List.range r).filter p).length = j := by
  intro n
  induction n with
  | zero => intro j r h; simp at h
  | succ n ih =>
    intro j r h
    rw [List.range_succ, List.filter_append] at h
    rcases Nat.lt_or_ge j ((List.range n).filter p).length with hlt | hge
    · rw [List.getElem?_append_left hlt] at h
      obtain ⟨h1, h2, h3⟩ := ih j r h
      exact ⟨by omega, h2, h3⟩
    · rw [List.getElem?_append_right hge] at h
      by_cases hp : p n = true
      · simp only [List.filter_cons, hp, List.filter_nil, if_true] at h
        have hj : j - ((List.range n).filter p).length = 0 := by have := lt_of_get h; simp at this; omega
        rw [hj] at h
        simp at h
        subst h
        exact ⟨by omega, hp, by omega⟩
      · simp [hp] at h

section
variable {s : List Nat} (hP : IsP s.length (sg s)) (he : s.length % 2 = 0)
include hP he

omit hP he in
theorem rootP_spec {j : Nat} (hj : j < cldr s.length (sg s) s.length) : rootP s j < s.length ∧ crep s.length (sg s) (rootP s j) = rootP s j ∧ cnum s.length (sg s) (rootP s j) = j := by
  unfold rootP
  have hl : j < ((List.range s.length).filter fun d => crep s.length (sg s) d == d).length := hj
  have hg := List.getElem?_eq_getElem hl
  rw [List.getD_eq_getElem?_getD, hg, Option.getD_some]
  obtain ⟨h1, h2, h3⟩ := filter_nth _ _ _ hg
  simp only [beq_iff_eq] at h2
  refine ⟨h1, h2, ?_⟩
  unfold cnum
  rw [h2]
  exact h3

theorem rootP_of {d : Nat} (hd : d < s.length) (hc : crep s.length (sg s) d = d) : rootP s (cldr s.length (sg s) d) = d := by
  have h1 := cldr_succ s.length (sg s) d
  rw [if_pos hc] at h1
  have h2 := cldr_mono s.length (sg s) (show d + 1 ≤ s.length from hd)
  obtain ⟨a, b, c⟩ := rootP_spec (s := s) (j := cldr s.length (sg s) d) (by omega)
  have h3 : cnum s.length (sg s) d = cldr s.length (sg s) d := (hP.cnum_new he hd).2 hc
  have := (hP.cnum_iff he hd a).1 (by rw [h3, c])
  have h4 := (hP.crep_iff he hd a).2 this
  rw [hc, b] at h4
  exact h4.symm

/-- The rows of the parts that are met, their counts as far as d. -/
noncomputable def rowJ (s : List Nat) (d j : Nat) : List Int := [(rootP s j : Int), (ofN s (cnL s) j d : Nat), (oddN (cnL s) j d : Nat), (ofN (phiL s) (cnL s) j d : Nat), 0]
noncomputable def rowsM (s : List Nat) (m d : Nat) : List (List Int) := (List.range m).map (rowJ s d)
omit hP he in
theorem rowsM_length (s : List Nat) (m d : Nat) : (rowsM s m d).length = m := by simp [rowsM]
omit hP he in
theorem rowsM_get {s : List Nat} {m d j : Nat} (hj : j < m) : (rowsM s m d)[j]? = some (rowJ s d j) := by simp [rowsM, hj]

theorem cnum_below {d x : Nat} (hd : d < s.length) (hx : x < d) (hc : crep s.length (sg s) d = d) : cnum s.length (sg s) x ≠ cldr s.length (sg s) d := by
  intro e
  have h3 : cnum s.length (sg s) d = cldr s.length (sg s) d := (hP.cnum_new he hd).2 hc
  have := (hP.crep_iff he (show x < s.length by omega) hd).2 ((hP.cnum_iff he (show x < s.length by omega) hd).1 (by rw [e, h3]))
  rw [hc] at this
  have hle := crep_le (Conn.refl s.length (sg s) x)
  omega

/-- A new part begins: nothing is counted for it. -/
theorem rows_new {d : Nat} (hd : d < s.length) (hc : crep s.length (sg s) d = d) : rowsM s (cldr s.length (sg s) d) d ++ [[(d : Int), 0, 0, 0, 0]] = rowsM s (cldr s.length (sg s) (d + 1)) d := by
  have h1 := cldr_succ s.length (sg s) d
  rw [if_pos hc] at h1
  have hz : ∀ (p : Nat → Bool), ((List.range d).filter fun x => p x && sg (cnL s) x == cldr s.length (sg s) d) = [] := by
    intro p
    rw [List.filter_eq_nil_iff]
    intro x hx
    have hx := List.mem_range.1 hx
    have := cnum_below hP he hd hx hc
    rw [sg_cnL (by omega)]
    simp; intro _; exact this
  have h2 : rowJ s d (cldr s.length (sg s) d) = [(d : Int), 0, 0, 0, 0] := by
    unfold rowJ ofN oddN
    rw [rootP_of hP he hd hc, hz, hz]
    have : ((List.range d).filter fun x => sg (cnL s) x == cldr s.length (sg s) d && x % 2 == 1) = [] := by
      rw [← hz (fun x => x % 2 == 1)]
      refine List.filter_congr (fun x _ => ?_)
      rw [Bool.and_comm]
    rw [this]; rfl
  rw [h1]
  unfold rowsM
  rw [List.range_succ, List.map_append]
  simp [h2]

omit hP he in
/-- One dart more is counted. -/
theorem rows_step {m d : Nat} (hd : d < s.length) (hm : cnum s.length (sg s) d < m) :
    rowsM s m (d + 1) = (rowsM s m d).set (cnum s.length (sg s) d) [(rootP s (cnum s.length (sg s) d) : Int), ((ofN s (cnL s) (cnum s.length (sg s) d) d + if rep (sg s) d = d then 1 else 0 : Nat) : Int),
      ((oddN (cnL s) (cnum s.length (sg s) d) d + d % 2 : Nat) : Int), ((ofN (phiL s) (cnL s) (cnum s.length (sg s) d) d + if rep (sg (phiL s)) d = d then 1 else 0 : Nat) : Int), 0] := by
  have hk := sg_cnL hd
  apply List.ext_getElem?
  intro j
  rw [List.getElem?_set, rowsM_length]
  by_cases hj : j < m
  · rw [rowsM_get hj]
    by_cases e : cnum s.length (sg s) d = j
    · subst e
      rw [if_pos rfl, if_pos hm]
      unfold rowJ
      rw [ofN_succ, ofN_succ, oddN_succ, if_pos hk]
      simp only [hk, and_true]
    · rw [if_neg e, rowsM_get hj]
      unfold rowJ
      rw [ofN_succ, ofN_succ, oddN_succ]
      simp only [hk, e, and_false, if_false, Nat.add_zero]
  · rw [List.getElem?_eq_none (by rw [rowsM_length]; omega)]
    by_cases e : cnum s.length (sg s) d = j
    · omega
    · rw [if_neg e, List.getElem?_eq_none (by rw [rowsM_length]; omega)]

/-- At the end: the document's parts, but for the genus. -/
theorem rows_end {j : Nat} (hj : j < cldr s.length (sg s) s.length) : ∃ g0 : Int, (partsL s s.length)[j]? = some ((rowJ s s.length j).set 4 g0) ∧
    g0 = (2 - ((ofN s (cnL s) j s.length : Nat) : Int) + ((oddN (cnL s) j s.length : Nat) : Int) - ((ofN (phiL s) (cnL s) j s.length : Nat) : Int)).tdiv 2 := by
  obtain ⟨h1, h2, h3⟩ := rootP_spec (s := s) hj
  have hl : j < ((List.range s.length).filter fun d => crep s.length (sg s) d == d).length := hj
  have hg : ((List.range s.length).filter fun d => crep s.length (sg s) d == d)[j]? = some (rootP s j) := by
    unfold rootP
    rw [List.getD_eq_getElem?_getD, List.getElem?_eq_getElem hl]; rfl
  have hodd : cntN (cnL s) j s.length = 2 * oddN (cnL s) j s.length := by
    obtain ⟨m, hm⟩ : ∃ m, s.length = 2 * m := ⟨s.length / 2, by omega⟩
    have := odd_half (nm := cnL s) (n := s.length) (fun e hee => by
      rw [sg_cnL (by omega), sg_cnL hee]
      refine (hP.cnum_iff he (by omega) hee).2 ?_
      have h5 : mt (2 * e) = 2 * e + 1 := by unfold mt; rw [if_pos (by omega)]
      rw [← h5]
      exact Conn.mate (by omega)) j m (by omega)
    rw [← hm] at this
    exact this
  refine ⟨_, ?_, rfl⟩
  unfold partsL
  rw [List.getElem?_map, hg]
  simp only [Option.map_some]
  unfold partI ptG ptV ptE ptB rowJ
  rw [h3, hodd, Nat.mul_div_cancel_left _ (by omega)]
  rfl
end

end Go.Proofs.YtblkkcpeodoclaaGreatDoor

/- The contracts of package euler: parts. -/
namespace Go.Proofs.YtblkkcpeodoclaaGreatDoor
open Go.RowKit



theorem set_same {α : Type} {l : List α} {j : Nat} {x : α} (h : l[j]? = some x) : l.set j x = l := by
  apply List.ext_getElem?
  intro i
  rw [List.getElem?_set]
  by_cases e : j = i
  · subst e; rw [if_pos rfl, if_pos (lt_of_get h), h]
  · rw [if_neg e]

theorem vnum_leader {n : Nat} {S : Nat → Nat} (h : IsP n S) {d : Nat} (hd : d < n) : vnum S d = ldr S d ↔ rep S d = d := by
  have hle := h.rep_self_le hd
  constructor
  · intro hc
    rcases Nat.lt_or_ge (rep S d) d with hlt | hge
    · have h1 := ldr_succ S (rep S d)
      rw [if_pos (h.rep_rep hd)] at h1
      have h2 := ldr_mono S (show rep S d + 1 ≤ d from hlt)
      unfold vnum at hc
      omega
    · omega
  · intro hc
    unfold vnum; rw [hc]

/-- The rows, the genus of the first j reckoned. -/
noncomputable def rowsG (s : List Nat) (j : Nat) : List (List Int) := (partsL s s.length).take j ++ (rowsM s (cldr s.length (sg s) s.length) s.length).drop j

theorem rowsG_length (s : List Nat) (j : Nat) : (rowsG s j).length = cldr s.length (sg s) s.length := by
  unfold rowsG
  rw [List.length_append, List.length_take, List.length_drop, rowsM_length, partsL_length]; omega

theorem rowsG_get {s : List Nat} {j : Nat} (hj : j < cldr s.length (sg s) s.length) : (rowsG s j)[j]? = some (rowJ s s.length j) := by
  unfold rowsG
  rw [List.getElem?_append_right (by rw [List.length_take, partsL_length]; omega), List.length_take, partsL_length, Nat.min_eq_left (by omega), Nat.sub_self, List.getElem?_drop, Nat.add_zero, rowsM_get hj]

theorem rowsG_step {s : List Nat} {j : Nat} {p : List Int} (hj : j < cldr s.length (sg s) s.length) (hp : (partsL s s.length)[j]? = some p) : (rowsG s j).set j p = rowsG s (j + 1) := by
  apply List.ext_getElem?
  intro i
  rw [List.getElem?_set, rowsG_length]
  have hl := partsL_length s s.length
  unfold rowsG
  by_cases e : j = i
  · subst e
    rw [if_pos rfl, if_pos hj, List.getElem?_append_left (by rw [List.length_take]; omega), List.getElem?_take, if_pos (by omega), hp]
  · rw [if_neg e]
    rcases Nat.lt_or_ge i j with h1 | h1
    · rw [List.getElem?_append_left (by rw [List.length_take]; omega), List.getElem?_append_left (by rw [List.length_take]; omega), List.getElem?_take, List.getElem?_take, if_pos h1, if_pos (by omega)]
    · rw [List.getElem?_append_right (by rw [List.length_take]; omega), List.getElem?_append_right (by rw [List.length_take]; omega), List.length_take, List.length_take, hl, Nat.min_eq_left (by omega), Nat.min_eq_left (by omega), List.getElem?_drop, List.getElem?_drop]
      congr 1; omega

theorem rowsG_all (s : List Nat) : rowsG s (cldr s.length (sg s) s.length) = partsL s s.length := by
  unfold rowsG
  rw [List.take_of_length_le (by rw [partsL_length]; exact Nat.le_refl _), List.drop_of_length_le (by rw [rowsM_length]; exact Nat.le_refl _), List.append_nil]

end Go.Proofs.YtblkkcpeodoclaaGreatDoor

/- The contracts of package euler: genus, planar, connected. -/
namespace Go.Proofs.YtblkkcpeodoclaaGreatDoor
open Go.RowKit



end Go.Proofs.YtblkkcpeodoclaaGreatDoor
