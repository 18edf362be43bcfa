/- Own slices of strings (rots.line). -/
import Derived.Shelf.Strings.OnBuilder
import Derived.Test.YtblkkcpeodoclaaGreatDoorPtRots3
import Derived.Test.YtblkkcpeodoclaaGreatDoorPtStrs
import Derived.Test.YtblkkcpeodoclaaGreatDoorPtLays07
namespace Go.Proofs.YtblkkcpeodoclaaGreatDoor
open Go.RowKit Go.Shelf

theorem infoTxt : (Tryz.prog.info? 9).map (fun i => (i.zero, i.size, i.bytes)) = some (some (.string ByteArray.empty), 1, 16) := by kernel_rfl

/-- A slice of strings that owns its cells. -/
def OwnT (B : Nat) (w : World) (v : Value) (vs : List Value) : Prop := w.ownsRow B 9 1 v vs.length vs

theorem OwnT.nil (B : Nat) (w : World) : OwnT B w (.slice none 0 0) [] := World.ownsRow_nil _ _ _ _
theorem OwnT.keeps {B : Nat} {w w' : World} {v : Value} {vs : List Value} {F : Nat → Prop} (h : OwnT B w v vs) (k : Keeps F w w') (hf : ∀ b, v.ownBlock = some b → ¬ F b) : OwnT B w' v vs := k.owns h hf
theorem OwnT.lt {B : Nat} {w : World} {v : Value} {vs : List Value} (h : OwnT B w v vs) : ∀ k, v.ownBlock = some k → B ≤ k ∧ k < w.heap.size := World.ownsRow.lt h
theorem OwnT.alloc {B : Nat} {w : World} {v : Value} {vs : List Value} (h : OwnT B w v vs) (o : Obj) : OwnT B (w.alloc o) v vs := World.ownsRow.alloc h o
theorem OwnT.cell {B : Nat} {w : World} {v : Value} {vs : List Value} (h : OwnT B w v vs) {j : Nat} {x : Value} (hx : vs[j]? = some x) : ∃ g cap, v = .slice (some ⟨g, 0, none⟩) vs.length cap ∧ w.cell? ⟨g, j, none⟩ = some x := by
  have hl : 0 < vs.length := by have := (List.getElem?_eq_some_iff.1 hx).1; omega
  obtain ⟨g, cap, rfl, -, -, hc, -, -⟩ := owns_form h hl
  exact ⟨g, cap, rfl, (hc j x hx).1⟩
theorem OwnT.form {B : Nat} {w : World} {v : Value} {vs : List Value} (h : OwnT B w v vs) : ∃ a cap, v = .slice a vs.length cap ∧ vs.length ≤ cap := by
  obtain ⟨_, h2⟩ := h
  rcases h2 with ⟨rfl, h3⟩ | ⟨g, cap, cur, rfl, hb, hg, hnc, hcm, r⟩
  · exact ⟨none, 0, by rw [h3], by omega⟩
  · exact ⟨_, cap, rfl, by omega⟩

/-- 'append(l, x)', l of the call's own, of strings. -/
theorem append1t {ops : Array Oper} {rest : List Oper} {o : Oper} {a : Act} {Q : Exit → Act → World → Prop} {wr : World} (n : Nat) (hgd : o.guard = none) (s x : Operand)
    (ho : o.op = .call { callee := .builtin .append, args := #[s, x], argTypes := #[39, 39] }) (B : Nat) (v : Value) (vs : List Value) (x0 : ByteArray) (hn : Hid (vs.length = n)) (H : Nat) (hH : wr.heap.size = H) (hs : a.eval s = v) (hx : a.eval x = .slice (some ⟨H, 0, none⟩) 1 1)
    (hown : OwnT B wr v vs) (hlen : n ≤ 10000000000) (hB : B ≤ wr.heap.size)
    (h : ∀ g cap w', OwnT B w' (.slice (some ⟨g, 0, none⟩) (n + 1) cap) (vs ++ [.string x0]) → Keeps (fun k => v.ownBlock = some k) wr w' → (v.ownBlock = some g ∨ wr.heap.size ≤ g) → B ≤ g →
      wpList Tryz.prog ops Q rest (a.put o.dst (.slice (some ⟨g, 0, none⟩) (n + 1) cap)) w') :
    wpList Tryz.prog ops Q (o :: rest) a (wr.alloc (.cells #[.string x0] 9)) := by
  obtain ⟨i, hi, hz0, hz1, hz2⟩ := info_parts infoTxt
  have hn := hn.out
  subst hn
  subst hH
  refine wpList_append_lies _ hgd s x _ ho B 9 i (.string ByteArray.empty) 1 16 Tryz.underlying39 hi hz0 hz1 hz2 rfl (by decide) v vs.length _ hs (hown.alloc _) ⟨wr.heap.size, 0, none⟩ 1 1 [.string x0] hx rfl (cell_one_new _ _ _) ?_ (by decide) ?_ ?_ ?_ (wr.heap.size + 1) (by simp) ?_
  · intro u hu; simp at hu; subst hu; rfl
  · unfold maxLen; omega
  · omega
  · simp; omega
  · intro g cap w1 hown1 hgrow hat _
    refine h g cap w1 ?_ (((Keeps.refl _ wr).alloc _).grown hgrow (fun k hk => .inl hk)) (hat.imp id (fun h => by omega)) ?_
    · unfold OwnT
      rw [List.length_append]
      exact hown1
    · exact (hown1.lt g rfl).1


theorem extra156 : Builder.Extra Tryz.prog Tryz.lays156_ren where
  sizeBuilder := by kernel_rfl
  liesBuilder := by kernel_rfl
  t5 := by kernel_rfl
  a5 := Tryz.isAgg5
  z5 := Tryz.sizeOf5
  v5 := Tryz.zeroValue5
  infoByte := by kernel_rfl
  cellsByte := by kernel_rfl
  sizeByte := by kernel_rfl
  neB5 := by decide

theorem join_joinB (c : UInt8) : ∀ xs : List (List UInt8), Lib.join xs [c] = joinB c xs
  | [] => rfl
  | [x] => Lib.join_one x [c]
  | x :: y :: r => by
    have ih := join_joinB c (y :: r)
    rw [Lib.join_cons] at ih ⊢
    rw [joinB, ← ih]
    simp [Lib.joinTail]

/-- strings.Join of an own slice, at one byte. -/
theorem join_any (B : Nat) (v : Value) (xs : List ByteArray) (c : UInt8) (w : World) (h : OwnT B w v (xs.map Value.string)) (hn : xs.length ≤ 100000000) (hl : (joinB c (xs.map (·.data.toList))).length ≤ 140737488355328) :
    Calls Tryz.prog 43 #[v, .string ⟨#[c]⟩] w fun e w' => e = .returned (.string ⟨(joinB c (xs.map (·.data.toList))).toArray⟩) ∧ Keeps (fun _ => False) w w' := by
  obtain ⟨a, cap, rfl, hcap⟩ := h.form
  rw [List.length_map] at *
  match xs, h, hn, hl, hcap with
  | [], _, _, _, _ =>
    refine (Any.strings_Join_none Tryz.lays156 extra156 a cap ⟨#[c]⟩ w).mono ?_
    rintro e w' ⟨rfl, rfl⟩
    exact ⟨rfl, Keeps.refl _ _⟩
  | [x], h, _, _, _ =>
    obtain ⟨g, cap', e, hc⟩ := h.cell (j := 0) (x := .string x) rfl
    simp only [Value.slice.injEq] at e
    obtain ⟨rfl, -, -⟩ := e
    refine (Any.strings_Join_one Tryz.lays156 extra156 g 0 cap x ⟨#[c]⟩ w hc).mono ?_
    rintro e w' ⟨rfl, rfl⟩
    exact ⟨rfl, Keeps.refl _ _⟩
  | x :: y :: r, h, hn, hl, hcap =>
    obtain ⟨g, cap', e, hc⟩ := h.cell (j := 0) (x := .string x) rfl
    simp only [Value.slice.injEq] at e
    obtain ⟨rfl, -, -⟩ := e
    refine (Any.strings_Join_many Tryz.lays156 extra156 g 0 cap (x :: y :: r) ⟨#[c]⟩ w (fun j z hz => ?_) ?_ (by simp) (by omega) (by simpa using hcap) (by rw [join_joinB]; exact hl)).mono ?_
    · obtain ⟨g', cap'', e', hc'⟩ := h.cell (j := j) (x := .string z) (by rw [List.getElem?_map, hz]; rfl)
      simp only [Value.slice.injEq, Option.some.injEq, Addr.mk.injEq] at e'
      rw [Nat.zero_add, e'.1.1]
      exact hc'
    · exact (h.lt g rfl).2
    · rintro e w' ⟨rfl, hb⟩
      rw [join_joinB]
      exact ⟨rfl, Keeps.of_below hb _⟩

end Go.Proofs.YtblkkcpeodoclaaGreatDoor
