/- Slices of int that a call makes itself. -/
import Derived.Test.YtlciacpffoekjaaBits2
import Derived.Laws.AppendOwnNone
namespace Go.Proofs.Ytlciacpffoekjaa
open Go.RowKit

theorem infoInt : (Try.prog.info? 3).map (fun i => (i.zero, i.size, i.bytes)) = some (some (.int .i64 0), 1, 8) := by kernel_rfl

def ints (zs : List Int) : List Value := zs.map fun z => Value.int .i64 z

/-- A slice of int that owns its cells, in blocks from B on. -/
def OwnI (B : Nat) (w : World) (v : Value) (zs : List Int) : Prop := w.ownsRow B 3 1 v zs.length (ints zs)

theorem OwnI.nil (B : Nat) (w : World) : OwnI B w (.slice none 0 0) [] := World.ownsRow_nil _ _ _ _
theorem OwnI.sl {B : Nat} {w : World} {v : Value} {zs : List Int} (h : OwnI B w v zs) : Sl .i64 w v zs := Sl.of_owns h
theorem OwnI.keeps {B : Nat} {w w' : World} {v : Value} {zs : List Int} {F : Nat → Prop} (h : OwnI B w v zs) (k : Keeps F w w') (hf : ∀ b, v.ownBlock = some b → ¬ F b) : OwnI B w' v zs := k.owns h hf
theorem OwnI.lt {B : Nat} {w : World} {v : Value} {zs : List Int} (h : OwnI B w v zs) : ∀ k, v.ownBlock = some k → B ≤ k ∧ k < w.heap.size := World.ownsRow.lt h
theorem OwnI.alloc {B : Nat} {w : World} {v : Value} {zs : List Int} (h : OwnI B w v zs) (o : Obj) : OwnI B (w.alloc o) v zs := World.ownsRow.alloc h o
theorem OwnI.form {B : Nat} {w : World} {v : Value} {zs : List Int} (h : OwnI B w v zs) : ∃ a cap, v = .slice a zs.length cap ∧ zs.length ≤ cap ∧ cap ≤ 9223372036854775807 := by
  obtain ⟨a, cap, hv, h1, h2, _, _⟩ := h.sl
  exact ⟨a, cap, hv, h1, h2⟩
theorem OwnI.mono {B B' : Nat} {w : World} {v : Value} {zs : List Int} (h : OwnI B w v zs) (hB : ∀ k, v.ownBlock = some k → B' ≤ k) : OwnI B' w v zs := by
  obtain ⟨h1, h2⟩ := h
  refine ⟨h1, ?_⟩
  rcases h2 with h2 | ⟨g, cap, cur, rfl, hb, r⟩
  · exact .inl h2
  · exact .inr ⟨g, cap, cur, rfl, hB g rfl, r⟩

/-- 'append(l, z)', l of the call's own. -/
theorem append1 {ops : Array Oper} {rest : List Oper} {o : Oper} {a : Act} {Q : Exit → Act → World → Prop} {wr : World} (hgd : o.guard = none) (s x : Operand)
    (ho : o.op = .call { callee := .builtin .append, args := #[s, x], argTypes := #[26, 26] }) (B : Nat) (v : Value) (zs : List Int) (z : Int) (H : Nat) (hH : wr.heap.size = H) (hs : a.eval s = v) (hx : a.eval x = .slice (some ⟨H, 0, none⟩) 1 1)
    (hown : OwnI B wr v zs) (hlen : zs.length ≤ 10000000000) (hB : B ≤ wr.heap.size)
    (h : ∀ g cap w', OwnI B w' (.slice (some ⟨g, 0, none⟩) (zs.length + 1) cap) (zs ++ [z]) → Keeps (fun k => v.ownBlock = some k) wr w' → (v.ownBlock = some g ∨ wr.heap.size ≤ g) → B ≤ g →
      wpList Try.prog ops Q rest (a.put o.dst (.slice (some ⟨g, 0, none⟩) (zs.length + 1) cap)) w') :
    wpList Try.prog ops Q (o :: rest) a (wr.alloc (.cells #[.int .i64 z] 3)) := by
  obtain ⟨i, hi, hz0, hz1, hz2⟩ := info_parts infoInt
  subst hH
  refine wpList_append_lies _ hgd s x _ ho B 3 i (.int .i64 0) 1 8 Try.underlying26 hi hz0 hz1 hz2 rfl (by decide) v zs.length _ hs (hown.alloc _) ⟨wr.heap.size, 0, none⟩ 1 1 [.int .i64 z] hx rfl (cell_one_new _ _ _) ?_ (by decide) ?_ ?_ ?_ (wr.heap.size + 1) (by simp) ?_
  · intro u hu; simp at hu; subst hu; rfl
  · unfold maxLen; omega
  · omega
  · simp; omega
  · intro g cap w1 hown1 hgrow hat _
    refine h g cap w1 ?_ (((Keeps.refl _ wr).alloc _).grown hgrow (fun k hk => .inl hk)) (hat.imp id (fun h => by omega)) ?_
    · unfold OwnI ints
      rw [List.length_append, List.map_append]
      exact hown1
    · exact (hown1.lt g rfl).1

/-- 'append(l, ys...)', l of the call's own, ys any slice of int. -/
theorem appendInts {ops : Array Oper} {rest : List Oper} {o : Oper} {a : Act} {Q : Exit → Act → World → Prop} {wr : World} (hgd : o.guard = none) (s x : Operand)
    (ho : o.op = .call { callee := .builtin .append, args := #[s, x], argTypes := #[26, 26] }) (B : Nat) (v sv : Value) (zs ys : List Int) (hs : a.eval s = v) (hx : a.eval x = sv)
    (hown : OwnI B wr v zs) (hsl : Sl .i64 wr sv ys) (hlen : zs.length + ys.length ≤ 10000000000) (hB : B ≤ wr.heap.size)
    (h : ∀ v' w', OwnI B w' v' (zs ++ ys) → Keeps (fun k => v.ownBlock = some k) wr w' → (v'.ownBlock = v.ownBlock ∨ ∃ k, v'.ownBlock = some k ∧ wr.heap.size ≤ k) → wpList Try.prog ops Q rest (a.put o.dst v') w') :
    wpList Try.prog ops Q (o :: rest) a wr := by
  obtain ⟨i, hi, hz0, hz1, hz2⟩ := info_parts infoInt
  obtain ⟨ad, cap, rfl, hnc, hcm, hnone, hc⟩ := hsl
  cases ad with
  | none =>
    have hy : ys = [] := by
      cases ys with
      | nil => rfl
      | cons y ys => obtain ⟨g, off, h, _⟩ := hc 0 y rfl; cases h
    subst hy
    have := hnone rfl
    subst this
    refine wpList_append_own_none hgd s x _ ho B 3 i 1 Try.underlying26 hi v zs.length _ hs hown hx ?_
    exact h v wr (by simpa using hown) (Keeps.refl _ _) (.inl rfl)
  | some ad =>
    refine wpList_append_own_at _ hgd s x _ ho B 3 i (.int .i64 0) 1 8 Try.underlying26 hi hz0 hz1 hz2 rfl (by decide) v zs.length _ hs hown ad ys.length cap (ints ys) hx (by simp [ints]) ?_ ?_ ?_ ?_ hB ?_
    · intro j u hj
      simp only [ints, List.getElem?_map, Option.map_eq_some_iff] at hj
      obtain ⟨z, hz, rfl⟩ := hj
      obtain ⟨g', off', hg, hcell⟩ := hc j z hz
      simp only [Option.some.injEq] at hg
      subst hg
      have hadd : (⟨g', off', none⟩ : Addr).add j = ⟨g', off' + j, none⟩ := by
        unfold Addr.add
        split <;> simp_all
      rw [hadd]
      exact hcell
    · intro u hu
      simp only [ints, List.mem_map] at hu
      obtain ⟨z, _, rfl⟩ := hu
      rfl
    · unfold maxLen; omega
    · omega
    · intro v' w' hown' hgrow _ hat
      refine h v' w' ?_ ((Keeps.refl _ wr).grown hgrow (fun k hk => .inl hk)) (hat.imp id (fun h => ⟨_, h, Nat.le_refl _⟩))
      unfold OwnI ints
      rw [List.length_append, List.map_append]
      exact hown'

end Go.Proofs.Ytlciacpffoekjaa
