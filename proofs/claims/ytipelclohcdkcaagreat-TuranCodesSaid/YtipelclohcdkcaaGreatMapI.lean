/- A map from numbers to numbers that a call has made: look-up, store. -/
import Derived.Maps.Own
import Derived.Maps.OwnOps
import Derived.Maps.OwnSet
import Derived.Maps.Views
import Derived.Test.YtipelclohcdkcaaGreatRef3
namespace Go.Proofs.YtipelclohcdkcaaGreat
open Go.RowKit
open Go.Maps (Keyed)

theorem keyedInt : Keyed Tryz.prog 3 := Maps.int_keyed Tryz.underlying3
theorem zeroInt (w : World) : (zeroValue 3).run Tryz.prog w = .ok (.int .i64 0) w := by kernel_rfl

/-- Block b is a map of at most n entries, that gives f. -/
def MapI (w : World) (b n : Nat) (f : Nat → Option Nat) : Prop :=
  ∃ D : DataW Unit, w.ownsMap Tryz.prog 3 (plainElem Tryz.prog 3) b n D ∧ Maps.IsMap D ∧
    ∀ k : Nat, D.atKey (.int .i64 k) (.lit (.int .i64 0)) = .lit (.int .i64 ((f k).getD 0 : Nat)) ∧ Maps.has D (.int .i64 k) = (f k).isSome

theorem MapI.made (w : World) : MapI (w.alloc (.map #[] 0)) w.heap.size 0 (fun _ => none) :=
  ⟨.map [], World.ownsMap_made _ _ _ _, Maps.isMap_empty, fun _ => ⟨rfl, rfl⟩⟩

theorem MapI.lt {w : World} {b n : Nat} {f : Nat → Option Nat} (h : MapI w b n f) : b < w.heap.size := by
  obtain ⟨D, h1, _⟩ := h
  exact h1.lt

theorem MapI.more {w : World} {b n n' : Nat} {f : Nat → Option Nat} (h : MapI w b n f) (hn : n ≤ n') : MapI w b n' f := by
  obtain ⟨D, h1, h2⟩ := h
  exact ⟨D, h1.mono hn, h2⟩

theorem MapI.keeps {w w' : World} {b n : Nat} {f : Nat → Option Nat} {F : Nat → Prop} (h : MapI w b n f) (k : Keeps F w w') (hb : ¬ F b) : MapI w' b n f := by
  obtain ⟨D, ⟨es, clock, h1, h2⟩, h3⟩ := h
  exact ⟨D, ⟨es, clock, k.at h1 hb, h2⟩, h3⟩

theorem MapI.congr {w : World} {b n : Nat} {f g : Nat → Option Nat} (h : MapI w b n f) (he : ∀ k, f k = g k) : MapI w b n g := by
  obtain ⟨D, h1, h2, h3⟩ := h
  exact ⟨D, h1, h2, fun k => by rw [← he k]; exact h3 k⟩

/-- The function behind a store. -/
def updF (f : Nat → Option Nat) (k z : Nat) (x : Nat) : Option Nat := if x = k then some z else f x

theorem lit_wf {k : Nat} (hk : k ≤ 1000000000000) : (Lit.int .i64 (k : Int)).wf = true := by
  have h1 : (Lit.int .i64 (k : Int)).wf = (decide (IntKind.i64.min ≤ (k : Int)) && decide ((k : Int) ≤ IntKind.i64.max)) := rfl
  rw [h1, show IntKind.i64.min = -9223372036854775808 by decide, show IntKind.i64.max = 9223372036854775807 by decide]
  simp
  omega

section
variable {ops : Array Oper} {rest : List Oper} {o : Oper} {a : Act} {Q : Exit → Act → World → Prop} {w : World} {b n : Nat} {f : Nat → Option Nat}

theorem mapI_look (hg : o.guard = none) (m x : Operand) (hop : o.op = Op.lookup 52 m x false) (hm : a.eval m = .map (some b)) (hown : MapI w b n f) (k : Nat) (hk : k ≤ 1000000000000) (hx : a.eval x = .int .i64 k)
    (hK : wpList Tryz.prog ops Q rest (a.put o.dst (.int .i64 ((f k).getD 0 : Nat))) w) : wpList Tryz.prog ops Q (o :: rest) a w := by
  obtain ⟨D, h1, h2, h3⟩ := hown
  refine wpList_lookup_own_int w hg m x _ hop 3 3 .i64 keyedInt Tryz.underlying52 Tryz.underlying3 (zeroInt w) b n D hm h1 _ (.int .i64 k) hx (Maps.keyOf_int_mk Tryz.underlying3 (lit_wf hk)) ?_
  intro c hat _
  rw [(h3 k).1] at hat
  simp only [DataW.lit.injEq, Lit.int.injEq, true_and] at hat
  rw [← hat]
  exact hK

theorem mapI_look_ok (hg : o.guard = none) (m x : Operand) (hop : o.op = Op.lookup 52 m x true) (hm : a.eval m = .map (some b)) (hown : MapI w b n f) (k : Nat) (hk : k ≤ 1000000000000) (hx : a.eval x = .int .i64 k)
    (hK : wpList Tryz.prog ops Q rest (a.put o.dst (.tuple #[.int .i64 ((f k).getD 0 : Nat), .bool (f k).isSome])) w) : wpList Tryz.prog ops Q (o :: rest) a w := by
  obtain ⟨D, h1, h2, h3⟩ := hown
  refine wpList_lookup_own_ok_int w hg m x _ hop 3 3 .i64 keyedInt Tryz.underlying52 Tryz.underlying3 (zeroInt w) b n D hm h1 _ (.int .i64 k) hx (Maps.keyOf_int_mk Tryz.underlying3 (lit_wf hk)) ?_
  intro c hat _
  rw [(h3 k).1] at hat
  simp only [DataW.lit.injEq, Lit.int.injEq, true_and] at hat
  rw [← hat, (h3 k).2]
  exact hK

theorem MapI.put {w' : World} {D : DataW Unit} (h2 : Maps.IsMap D) (h3 : ∀ k : Nat, D.atKey (.int .i64 k) (.lit (.int .i64 0)) = .lit (.int .i64 ((f k).getD 0 : Nat)) ∧ Maps.has D (.int .i64 k) = (f k).isSome) (k z : Nat)
    (hw : w'.ownsMap Tryz.prog 3 (plainElem Tryz.prog 3) b (n + 1) (D.put (.int .i64 k) (.lit (.int .i64 z)))) : MapI w' b (n + 1) (updF f k z) := by
  refine ⟨_, hw, h2.put _ _, fun x => ?_⟩
  unfold updF
  by_cases hx : x = k
  · subst hx
    rw [if_pos rfl]
    exact ⟨Maps.atKey_put_same h2 (by simp [WideAt.IsKeyLit]) _ _, Maps.has_put_same h2 (by simp [WideAt.IsKeyLit]) _⟩
  · rw [if_neg hx]
    have hne : (Lit.int .i64 (x : Int)) ≠ Lit.int .i64 (k : Int) := by
      intro e
      simp only [Lit.int.injEq, true_and] at e
      omega
    rw [Maps.atKey_put_other hne, Maps.has_put_other hne]
    exact h3 x

theorem mapI_put (hg : o.guard = none) (m x v : Operand) (hop : o.op = Op.mapUpdate 52 m x v ∨ o.op = Op.insert 52 m x v) (hm : a.eval m = .map (some b)) (hown : MapI w b n f) (hn : n ≤ 1000000000) (k : Nat) (hk : k ≤ 1000000000000) (hx : a.eval x = .int .i64 k) (z : Nat) (hz : z ≤ 1000000000000) (hv : a.eval v = .int .i64 z)
    (hK : ∀ w', MapI w' b (n + 1) (updF f k z) → Keeps (fun p => p = b) w w' → wpList Tryz.prog ops Q rest (a.put o.dst undef) w') : wpList Tryz.prog ops Q (o :: rest) a w := by
  obtain ⟨D, h1, h2, h3⟩ := hown
  refine wpList_plain hg fun K' hK' => ?_
  obtain ⟨w', hrun, r1, r2⟩ := h1.update keyedInt Tryz.underlying52 (by unfold maxLen; omega) (Maps.keyOf_int_mk Tryz.underlying3 (lit_wf hk)) (plainElem_int Tryz.underlying3 (lit_wf hz))
  have hfin := hK' _ _ (hK w' (MapI.put h2 h3 k z r1) ((Keeps.refl (fun p => p = b) w).grown r2 (fun q hq => .inl (Option.some.inj hq).symm)))
  unfold Oper.wp
  rcases hop with hop | hop <;> simp [execOp, hop, hm, hx, hv, hrun, Result.andThen] <;> exact hfin
end

end Go.Proofs.YtipelclohcdkcaaGreat
