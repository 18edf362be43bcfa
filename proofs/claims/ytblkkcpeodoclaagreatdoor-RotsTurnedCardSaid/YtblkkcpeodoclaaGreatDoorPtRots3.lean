/- Slices of slices of int that a call makes itself (rots.Parse's lines). -/
import Derived.Test.YtblkkcpeodoclaaGreatDoorPtRots2
namespace Go.Proofs.YtblkkcpeodoclaaGreatDoor
open Go.RowKit

theorem infoRow : (Tryz.prog.info? 33).map (fun i => (i.zero, i.size, i.bytes)) = some (some (.slice none 0 0), 1, 24) := by kernel_rfl

/-- A slice of slices of int that owns its cells. -/
def OwnR (B : Nat) (w : World) (v : Value) (vs : List Value) : Prop := w.ownsRow B 33 1 v vs.length vs

theorem OwnR.nil (B : Nat) (w : World) : OwnR B w (.slice none 0 0) [] := World.ownsRow_nil _ _ _ _
theorem OwnR.keeps {B : Nat} {w w' : World} {v : Value} {vs : List Value} {F : Nat → Prop} (h : OwnR B w v vs) (k : Keeps F w w') (hf : ∀ b, v.ownBlock = some b → ¬ F b) : OwnR B w' v vs := k.owns h hf
theorem OwnR.lt {B : Nat} {w : World} {v : Value} {vs : List Value} (h : OwnR B w v vs) : ∀ k, v.ownBlock = some k → B ≤ k ∧ k < w.heap.size := World.ownsRow.lt h
theorem OwnR.alloc {B : Nat} {w : World} {v : Value} {vs : List Value} (h : OwnR B w v vs) (o : Obj) : OwnR B (w.alloc o) v vs := World.ownsRow.alloc h o
theorem OwnR.cell {B : Nat} {w : World} {v : Value} {vs : List Value} (h : OwnR B w v vs) {j : Nat} {x : Value} (hx : vs[j]? = some x) : ∃ g cap, v = .slice (some ⟨g, 0, none⟩) vs.length cap ∧ w.cell? ⟨g, j, none⟩ = some x := by
  have hl : 0 < vs.length := by have := (List.getElem?_eq_some_iff.1 hx).1; omega
  obtain ⟨g, cap, rfl, -, -, hc, -, -⟩ := owns_form h hl
  exact ⟨g, cap, rfl, (hc j x hx).1⟩
theorem OwnR.form {B : Nat} {w : World} {v : Value} {vs : List Value} (h : OwnR B w v vs) : ∃ a cap, v = .slice a vs.length cap ∧ vs.length ≤ cap := by
  obtain ⟨_, h2⟩ := h
  rcases h2 with ⟨rfl, h3⟩ | ⟨g, cap, cur, rfl, hb, hg, hnc, hcm, r⟩
  · exact ⟨none, 0, by rw [h3], by omega⟩
  · exact ⟨_, cap, rfl, by omega⟩

/-- 'append(l, x)', l of the call's own. -/
theorem append1r {ops : Array Oper} {rest : List Oper} {o : Oper} {a : Act} {Q : Exit → Act → World → Prop} {wr : World} (n : Nat) (hgd : o.guard = none) (s x : Operand)
    (ho : o.op = .call { callee := .builtin .append, args := #[s, x], argTypes := #[46, 46] }) (B : Nat) (v : Value) (vs : List Value) (xa : Option Addr) (xn xc : Nat) (hn : Hid (vs.length = n)) (H : Nat) (hH : wr.heap.size = H) (hs : a.eval s = v) (hx : a.eval x = .slice (some ⟨H, 0, none⟩) 1 1)
    (hown : OwnR B wr v vs) (hlen : n ≤ 10000000000) (hB : B ≤ wr.heap.size)
    (h : ∀ g cap w', OwnR B w' (.slice (some ⟨g, 0, none⟩) (n + 1) cap) (vs ++ [.slice xa xn xc]) → Keeps (fun k => v.ownBlock = some k) wr w' → (v.ownBlock = some g ∨ wr.heap.size ≤ g) → B ≤ g →
      wpList Tryz.prog ops Q rest (a.put o.dst (.slice (some ⟨g, 0, none⟩) (n + 1) cap)) w') :
    wpList Tryz.prog ops Q (o :: rest) a (wr.alloc (.cells #[.slice xa xn xc] 33)) := by
  obtain ⟨i, hi, hz0, hz1, hz2⟩ := info_parts infoRow
  have hn := hn.out
  subst hn
  subst hH
  refine wpList_append_lies _ hgd s x _ ho B 33 i (.slice none 0 0) 1 24 Tryz.underlying46 hi hz0 hz1 hz2 rfl (by decide) v vs.length _ hs (hown.alloc _) ⟨wr.heap.size, 0, none⟩ 1 1 [.slice xa xn xc] hx rfl (cell_one_new _ _ _) ?_ (by decide) ?_ ?_ ?_ (wr.heap.size + 1) (by simp) ?_
  · intro u hu; simp at hu; subst hu; rfl
  · unfold maxLen; omega
  · omega
  · simp; omega
  · intro g cap w1 hown1 hgrow hat _
    refine h g cap w1 ?_ (((Keeps.refl _ wr).alloc _).grown hgrow (fun k hk => .inl hk)) (hat.imp id (fun h => by omega)) ?_
    · unfold OwnR
      rw [List.length_append]
      exact hown1
    · exact (hown1.lt g rfl).1

/-- Lines of numbers in memory, in blocks from B on. -/
structure LinesAt (B : Nat) (w : World) (v : Value) (vs : List Value) (ls : List (List Int)) : Prop where
  len : vs.length = ls.length
  own : OwnR B w v vs
  row : ∀ (j : Nat) x l, vs[j]? = some x → ls[j]? = some l → OwnI B w x l ∧ ∀ k, x.ownBlock = some k → v.ownBlock ≠ some k

theorem LinesAt.nil (B : Nat) (w : World) : LinesAt B w (.slice none 0 0) [] [] := ⟨rfl, OwnR.nil _ _, fun j x l h => by simp at h⟩

theorem LinesAt.keeps {B : Nat} {w w' : World} {v : Value} {vs : List Value} {ls : List (List Int)} (h : LinesAt B w v vs ls) (k : Keeps (fun _ => False) w w') : LinesAt B w' v vs ls :=
  ⟨h.len, h.own.keeps k (fun _ _ h => h), fun j x l hx hl => ⟨(h.row j x l hx hl).1.keeps k (fun _ _ h => h), (h.row j x l hx hl).2⟩⟩

theorem LinesAt.push {B g n cap : Nat} {w w' : World} {v x : Value} {vs : List Value} {ls : List (List Int)} {l : List Int} (h : LinesAt B w v vs ls) (hx : OwnI B w x l) (hne : ∀ k, x.ownBlock = some k → v.ownBlock ≠ some k)
    (ho : OwnR B w' (.slice (some ⟨g, 0, none⟩) n cap) (vs ++ [x])) (k : Keeps (fun q => v.ownBlock = some q) w w') (hat : v.ownBlock = some g ∨ w.heap.size ≤ g) : LinesAt B w' (.slice (some ⟨g, 0, none⟩) n cap) (vs ++ [x]) (ls ++ [l]) := by
  have key : ∀ y m, OwnI B w y m → (∀ k, y.ownBlock = some k → v.ownBlock ≠ some k) → OwnI B w' y m ∧ ∀ q, y.ownBlock = some q → (Value.slice (some ⟨g, 0, none⟩) n cap).ownBlock ≠ some q := fun y m hy hn => by
    refine ⟨hy.keeps k (fun q hq e => hn q hq e), fun q hq e => ?_⟩
    simp only [Value.ownBlock, Option.some.injEq] at e
    subst e
    rcases hat with e | e
    · exact hn _ hq e
    · have := (hy.lt _ hq).2; omega
  refine ⟨by simp [h.len], ho, fun j y m hy hm => ?_⟩
  by_cases hj : j < vs.length
  · rw [List.getElem?_append_left hj] at hy
    rw [List.getElem?_append_left (by rw [← h.len]; exact hj)] at hm
    obtain ⟨a1, a2⟩ := h.row j y m hy hm
    exact key y m a1 a2
  · rw [List.getElem?_append_right (by omega)] at hy
    rw [List.getElem?_append_right (by rw [← h.len]; omega)] at hm
    have hj0 : j - vs.length = 0 := by have := (List.getElem?_eq_some_iff.1 hy).1; simp at this; omega
    rw [hj0] at hy
    rw [← h.len, hj0] at hm
    simp at hy hm
    subst hy hm
    exact key x l hx hne

end Go.Proofs.YtblkkcpeodoclaaGreatDoor
