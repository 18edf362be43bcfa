/- A map from numbers to numbers that a call has made: look-up, store. -/
import Derived.Maps.Own
import Derived.Maps.OwnOps
import Derived.Maps.OwnSet
import Derived.Maps.Views
import Derived.Test.YtblkkcpeodoclaaGreatDoorRef3
namespace Go.Proofs.YtblkkcpeodoclaaGreatDoor
open Go.RowKit
open Go.Maps (Keyed)

theorem keyedInt : Keyed Tryz.prog 3 := Maps.int_keyed Tryz.underlying3
theorem zeroInt (w : World) : (zeroValue 3).run Tryz.prog w = .ok (.int .i64 0) w := by kernel_rfl

/-- Block b is a map of at most n entries, that gives f. -/
def MapI (w : World) (b n : Nat) (f : Nat → Option Nat) : Prop :=
  ∃ D : DataW Unit, w.ownsMap Tryz.prog 3 (plainElem Tryz.prog 3) b n D ∧ Maps.IsMap D ∧
    ∀ k : Nat, D.atKey (.int .i64 k) (.lit (.int .i64 0)) = .lit (.int .i64 ((f k).getD 0 : Nat)) ∧ Maps.has D (.int .i64 k) = (f k).isSome

theorem MapI.made (w : World) : MapI (w.alloc (.map #[] 0)) w.heap.size 0 (fun _ => none) :=
  ⟨.map [], World.ownsMap_made _ _ _ _, Maps.isMap_empty, fun _ => ⟨rfl, rfl⟩⟩

theorem MapI.lt {w : World} {b n : Nat} {f : Nat → Option Nat} (h : MapI w b n f) : b < w.heap.size := by
  obtain ⟨D, h1, _⟩ := h
  exact h1.lt

theorem MapI.more {w : World} {b n n' : Nat} {f : Nat → Option Nat} (h : MapI w b n f) (hn : n ≤ n') : MapI w b n' f := by
  obtain ⟨D, h1, h2⟩ := h
  exact ⟨D, h1.mono hn, h2⟩

theorem MapI.keeps {w w' : World} {b n : Nat} {f : Nat → Option Nat} {F : Nat → Prop} (h : MapI w b n f) (k : Keeps F w w') (hb : ¬ F b) : MapI w' b n f := by
  obtain ⟨D, ⟨es, clock, h1, h2⟩, h3⟩ := h
  exact ⟨D, ⟨es, clock, k.at h1 hb, h2⟩, h3⟩

theorem MapI.congr {w : World} {b n : Nat} {f g : Nat → Option Nat} (h : MapI w b n f) (he : ∀ k, f k = g k) : MapI w b n g := by
  obtain ⟨D, h1, h2, h3⟩ := h
  exact ⟨D, h1, h2, fun k => by rw [← he k]; exact h3 k⟩

/-- The function behind a store. -/
def updF (f : Nat → Option Nat) (k z : Nat) (x : Nat) : Option Nat := if x = k then some z else f x

theorem lit_wf {k : Nat} (hk : k ≤ 1000000000000) : (Lit.int .i64 (k : Int)).wf = true := by
  have h1 : (Lit.int .i64 (k : Int)).wf = (decide (IntKind.i64.min ≤ (k : Int)) && decide ((k : Int) ≤ IntKind.i64.max)) := rfl
  rw [h1, show IntKind.i64.min = -9223372036854775808 by decide, show IntKind.i64.max = 9223372036854775807 by decide]
  simp
  omega

section
variable {ops : Array Oper} {rest : List Oper} {o : Oper} {a : Act} {Q : Exit → Act → World → Prop} {w : World} {b n : Nat} {f : Nat → Option Nat}

theorem MapI.put {w' : World} {D : DataW Unit} (h2 : Maps.IsMap D) (h3 : ∀ k : Nat, D.atKey (.int .i64 k) (.lit (.int .i64 0)) = .lit (.int .i64 ((f k).getD 0 : Nat)) ∧ Maps.has D (.int .i64 k) = (f k).isSome) (k z : Nat)
    (hw : w'.ownsMap Tryz.prog 3 (plainElem Tryz.prog 3) b (n + 1) (D.put (.int .i64 k) (.lit (.int .i64 z)))) : MapI w' b (n + 1) (updF f k z) := by
  refine ⟨_, hw, h2.put _ _, fun x => ?_⟩
  unfold updF
  by_cases hx : x = k
  · subst hx
    rw [if_pos rfl]
    exact ⟨Maps.atKey_put_same h2 (by simp [WideAt.IsKeyLit]) _ _, Maps.has_put_same h2 (by simp [WideAt.IsKeyLit]) _⟩
  · rw [if_neg hx]
    have hne : (Lit.int .i64 (x : Int)) ≠ Lit.int .i64 (k : Int) := by
      intro e
      simp only [Lit.int.injEq, true_and] at e
      omega
    rw [Maps.atKey_put_other hne, Maps.has_put_other hne]
    exact h3 x

end

end Go.Proofs.YtblkkcpeodoclaaGreatDoor
