/- Plain laws of the search for parts: who has been met, part by part. No program is named here. -/
import Derived.Test.YtipelclohcdkcaaGreatRef8
namespace Go.Proofs.YtipelclohcdkcaaGreat

/-- The parts whose least dart is below d have their names. -/
def NmO (n : Nat) (S : Nat → Nat) (d : Nat) (zs : List Int) : Prop := ∀ x, x < n → zs[x]? = some (if crep n S x < d then ((cnum n S x : Nat) : Int) else -1)
/-- Besides, those in V have the name of the part whose least dart is d. -/
def NmE (n : Nat) (S : Nat → Nat) (d : Nat) (V : List Nat) (zs : List Int) : Prop := ∀ x, x < n → zs[x]? = some (if x ∈ V then ((cldr n S d : Nat) : Int) else if crep n S x < d then ((cnum n S x : Nat) : Int) else -1)

/-- Who has been met, who waits. -/
structure EInv (n : Nat) (S : Nat → Nat) (d : Nat) (V st : List Nat) : Prop where
  nd : V.Nodup
  cl : ∀ z ∈ V, z < n ∧ Conn n S d z
  dm : d ∈ V
  sub : ∀ z ∈ st, z ∈ V
  sn : st.Nodup

theorem EInv.slen {n : Nat} {S : Nat → Nat} {d : Nat} {V st : List Nat} (h : EInv n S d V st) : st.length ≤ V.length := nodup_sub st V h.sn h.sub
theorem EInv.pop {n : Nat} {S : Nat → Nat} {d x : Nat} {V st : List Nat} (h : EInv n S d V (st ++ [x])) : EInv n S d V st :=
  ⟨h.nd, h.cl, h.dm, fun z hz => h.sub z (by simp [hz]), (List.nodup_append.1 h.sn).1⟩

theorem EInv.len {n : Nat} {S : Nat → Nat} {d : Nat} {V st : List Nat} (h : EInv n S d V st) : V.length ≤ n := nodup_le n V h.nd (fun z hz => (h.cl z hz).1)

section
variable {n : Nat} {S : Nat → Nat} (h : IsP n S) (he : n % 2 = 0) {d : Nat} (hd : d < n)
include h he hd

omit h he in
theorem NmO.at {zs : List Int} {z : Int} (k : NmO n S d zs) (hz : zs[d]? = some z) : (crep n S d = d ∧ z = -1) ∨ (crep n S d ≠ d ∧ 0 ≤ z) := by
  rw [k d hd] at hz
  have hz := Option.some.inj hz
  have hle := crep_le (Conn.refl n S d)
  by_cases a : crep n S d = d
  · rw [if_neg (by omega)] at hz; exact .inl ⟨a, hz.symm⟩
  · rw [if_pos (by omega)] at hz; exact .inr ⟨a, by omega⟩

omit hd in
theorem NmO.skip {zs : List Int} (k : NmO n S d zs) (hc : crep n S d ≠ d) : NmO n S (d + 1) zs := fun x hx => by
  rw [k x hx]
  by_cases a : crep n S x < d
  · rw [if_pos a, if_pos (by omega)]
  · have : crep n S x ≠ d := fun e => hc (by
      have h1 := h.crep_crep he hx
      rw [e] at h1; exact h1)
    rw [if_neg a, if_neg (by omega)]

omit h in
theorem NmO.start {zs : List Int} (hl : zs.length = n) (k : NmO n S d zs) (hc : crep n S d = d) : NmE n S d [d] (zs.set d ((cldr n S d : Nat) : Int)) ∧ EInv n S d [d] [d] := by
  refine ⟨fun x hx => ?_, ⟨by simp, fun z hz => by simp at hz; subst hz; exact ⟨hd, Conn.refl n S _⟩, by simp, fun z hz => hz, by simp⟩⟩
  rw [List.getElem?_set]
  by_cases a : d = x
  · subst a; rw [if_pos rfl, if_pos (by omega), if_pos (by simp)]
  · rw [if_neg a, if_neg (by simp; omega)]; exact k x hx

omit h he hd in
theorem NmE.old {V : List Nat} {zs : List Int} {y : Nat} {z : Int} (k : NmE n S d V zs) (hy : y < n) (hm : y ∈ V) (hz : zs[y]? = some z) : 0 ≤ z := by
  rw [k y hy, if_pos hm] at hz
  have := Option.some.inj hz
  omega

theorem NmE.fresh {V : List Nat} {zs : List Int} {y : Nat} {z : Int} (k : NmE n S d V zs) (hc : crep n S d = d) (hy : y < n) (hcy : Conn n S d y) (hm : y ∉ V) (hz : zs[y]? = some z) : z = -1 := by
  have e := (h.crep_iff he hd hy).2 hcy
  rw [k y hy, if_neg hm, if_neg (by omega)] at hz
  exact (Option.some.inj hz).symm

omit h he hd in
theorem NmE.push {V : List Nat} {zs : List Int} {y : Nat} (hl : zs.length = n) (k : NmE n S d V zs) (hy : y < n) : NmE n S d (y :: V) (zs.set y ((cldr n S d : Nat) : Int)) := fun x hx => by
  rw [List.getElem?_set]
  by_cases a : y = x
  · subst a; rw [if_pos rfl, if_pos (by omega), if_pos (by simp)]
  · rw [if_neg a, k x hx]
    have : (x ∈ y :: V) ↔ x ∈ V := by simp; omega
    by_cases b : x ∈ V
    · rw [if_pos b, if_pos (this.2 b)]
    · rw [if_neg b, if_neg (fun e => b (this.1 e))]

omit h he hd in
theorem EInv.push {V st : List Nat} (k : EInv n S d V st) {y : Nat} (hy : y < n) (hcy : Conn n S d y) (hm : y ∉ V) : EInv n S d (y :: V) (st ++ [y]) :=
  ⟨List.nodup_cons.2 ⟨hm, k.nd⟩, fun z hz => by
    rcases List.mem_cons.1 hz with rfl | hz
    · exact ⟨hy, hcy⟩
    · exact k.cl z hz, List.mem_cons_of_mem _ k.dm, fun z hz => by
    rcases List.mem_append.1 hz with hz | hz
    · exact List.mem_cons_of_mem _ (k.sub z hz)
    · simp at hz; subst hz; simp, nodup_snoc k.sn (fun hh => hm (k.sub y hh))⟩

/-- Nobody waits: the part is whole. -/
theorem NmE.done {V : List Nat} {zs : List Int} (k : NmE n S d V zs) (I : EInv n S d V []) (hc : crep n S d = d) (hclo : ∀ z ∈ V, S z ∈ V ∧ mt z ∈ V) : NmO n S (d + 1) zs := fun x hx => by
  have hV : x ∈ V ↔ crep n S x = d := by
    constructor
    · intro hm
      rw [← (h.crep_iff he hd hx).2 (I.cl x hm).2]; exact hc
    · intro e
      have hcx : Conn n S d x := (h.crep_iff he hd hx).1 (by rw [hc, e])
      exact hcx (fun z => z ∈ V) I.dm (fun z _ hz => hclo z hz)
  rw [k x hx]
  by_cases a : x ∈ V
  · have e := hV.1 a
    rw [if_pos a, if_pos (by omega)]
    unfold cnum; rw [e]
  · have e : crep n S x ≠ d := fun e => a (hV.2 e)
    rw [if_neg a]
    by_cases b : crep n S x < d
    · rw [if_pos b, if_pos (by omega)]
    · rw [if_neg b, if_neg (by omega)]
end

theorem NmO.zero {n : Nat} {S : Nat → Nat} {zs : List Int} (h : ∀ i, i < n → zs[i]? = some (-1)) : NmO n S 0 zs := fun x hx => by rw [if_neg (by omega)]; exact h x hx

theorem NmO.all {n : Nat} {S : Nat → Nat} {zs : List Int} (h : IsP n S) (he : n % 2 = 0) (hl : zs.length = n) (k : NmO n S n zs) : zs = nats ((List.range n).map (cnum n S)) := by
  apply List.ext_getElem?
  intro i
  rcases Nat.lt_or_ge i n with hi | hi
  · rw [k i hi, if_pos (h.crep_lt he hi)]; simp [nats, hi]
  · rw [List.getElem?_eq_none (by omega), List.getElem?_eq_none (by simp [nats]; omega)]

end Go.Proofs.YtipelclohcdkcaaGreat
