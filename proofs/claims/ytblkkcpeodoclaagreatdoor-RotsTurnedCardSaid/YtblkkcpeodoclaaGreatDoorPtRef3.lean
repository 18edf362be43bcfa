/- Joined texts: Ref03, Mates, Law03a. -/
import Derived.Test.YtblkkcpeodoclaaGreatDoorPtRanks
import Derived.Test.YtblkkcpeodoclaaGreatDoorPtParens
/- The references of layer 3: Good, Excess, Any. -/
namespace Go.Proofs.YtblkkcpeodoclaaGreatDoor
open Go.RowKit

end Go.Proofs.YtblkkcpeodoclaaGreatDoor

/- The reference of layer 3: Mates; its plain law. -/
namespace Go.Proofs.YtblkkcpeodoclaaGreatDoor
open Go.RowKit

/-! Slices of int that are written. -/

theorem OwnI.set {B : Nat} {w : World} {g n cap : Nat} {zs : List Int} (h : OwnI B w (.slice (some ⟨g, 0, none⟩) n cap) zs) (i : Nat) (z : Int) : OwnI B (w.setCell ⟨g, i, none⟩ (.int .i64 z)) (.slice (some ⟨g, 0, none⟩) n cap) (zs.set i z) := by
  have hn : n = zs.length := by
    obtain ⟨a, c, hv, _⟩ := h.form
    simp only [Value.slice.injEq] at hv
    exact hv.2.1
  subst hn
  have := owns_set h i (.int .i64 z)
  unfold OwnI ints at *
  rw [List.length_set, List.map_set]
  exact this

theorem OwnI.other {B : Nat} {w : World} {v : Value} {zs : List Int} (h : OwnI B w v zs) (a : Addr) (ha : v.ownBlock ≠ some a.block) (u : Value) : OwnI B (w.setCell a u) v zs :=
  ownsRow_setCell_other h ha u

theorem OwnI.cell {B : Nat} {w : World} {g n cap : Nat} {zs : List Int} (h : OwnI B w (.slice (some ⟨g, 0, none⟩) n cap) zs) {i : Nat} {z : Int} (hz : zs[i]? = some z) : w.cell? ⟨g, i, none⟩ = some (.int .i64 z) ∧ w.frozen? ⟨g, i, none⟩ = false := by
  have hi : i < zs.length := by
    rcases Nat.lt_or_ge i zs.length with h' | h'
    · exact h'
    · rw [List.getElem?_eq_none h'] at hz; cases hz
  obtain ⟨g', cap', hv, _, _, hc, _, _⟩ := owns_form h (by omega)
  simp only [Value.slice.injEq, Option.some.injEq, Addr.mk.injEq, and_true] at hv
  obtain ⟨rfl, _⟩ := hv
  exact hc i (.int .i64 z) (by rw [ints, List.getElem?_map, hz]; rfl)

theorem OwnI.has {B : Nat} {w : World} {g n cap : Nat} {zs : List Int} (h : OwnI B w (.slice (some ⟨g, 0, none⟩) n cap) zs) (i : Nat) (hi : i < zs.length) : ∃ z : Int, w.cell? ⟨g, i, none⟩ = some (.int .i64 z) ∧ w.frozen? ⟨g, i, none⟩ = false :=
  ⟨_, h.cell (List.getElem?_eq_getElem hi)⟩

theorem own_some {B : Nat} {w : World} {a : Option Addr} {n cap : Nat} {zs : List Int} (h : OwnI B w (.slice a n cap) zs) (hn : 0 < zs.length) : ∃ g, a = some ⟨g, 0, none⟩ := by
  obtain ⟨g, cap', hv, _⟩ := owns_form h hn
  simp only [Value.slice.injEq] at hv
  exact ⟨g, hv.1⟩

theorem nats_get {l : List Nat} {i x : Nat} (h : l[i]? = some x) : (nats l)[i]? = some (x : Int) := by simp [nats, h]
theorem nats_len (l : List Nat) : (nats l).length = l.length := by simp [nats]

/-- 'append(l, z)', l of the call's own, its length a letter. -/
theorem append1n {ops : Array Oper} {rest : List Oper} {o : Oper} {a : Act} {Q : Exit → Act → World → Prop} {wr : World} (n : Nat) (hgd : o.guard = none) (s x : Operand)
    (ho : o.op = .call { callee := .builtin .append, args := #[s, x], argTypes := #[33, 33] }) (B : Nat) (v : Value) (zs : List Int) (z : Int) (hn : Hid (zs.length = n)) (H : Nat) (hH : wr.heap.size = H) (hs : a.eval s = v) (hx : a.eval x = .slice (some ⟨H, 0, none⟩) 1 1)
    (hown : OwnI B wr v zs) (hlen : n ≤ 10000000000) (hB : B ≤ wr.heap.size)
    (h : ∀ g cap w', OwnI B w' (.slice (some ⟨g, 0, none⟩) (n + 1) cap) (zs ++ [z]) → Keeps (fun k => v.ownBlock = some k) wr w' → (v.ownBlock = some g ∨ wr.heap.size ≤ g) → B ≤ g →
      wpList Tryz.prog ops Q rest (a.put o.dst (.slice (some ⟨g, 0, none⟩) (n + 1) cap)) w') :
    wpList Tryz.prog ops Q (o :: rest) a (wr.alloc (.cells #[.int .i64 z] 3)) := by
  have hn := hn.out
  subst hn
  exact append1 hgd s x ho B v zs z H hH hs hx hown hlen hB h

end Go.Proofs.YtblkkcpeodoclaaGreatDoor

/- Layer 3's statements: made, awake. -/
namespace Go.Proofs.YtblkkcpeodoclaaGreatDoor
open Go.RowKit

end Go.Proofs.YtblkkcpeodoclaaGreatDoor
