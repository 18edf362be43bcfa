/- Joined texts: Kind, Walk, Encode. -/
import Derived.Test.YtcfdpogegngplaaGreatPzEulers
import Derived.Test.YtcfdpogegngplaaGreatPzPlans
import Derived.Test.YtcfdpogegngplaaGreatPzTexts
/- The contracts of package walk: of which kind a dart is. -/
namespace Go.Proofs.YtcfdpogegngplaaGreat
open Go.RowKit

/-- A row of n marks at block g: of just those numbers that have P. -/
def BoolAt (wr : World) (g n : Nat) (P : Nat → Prop) : Prop :=
  ∃ bs : List Bool, bs.length = n ∧ (∀ x, x < n → (bs[x]? = some true ∧ P x) ∨ (bs[x]? = some false ∧ ¬ P x)) ∧ wr.heap[g]? = some (.cells (bs.map Value.bool).toArray 4 (0, 0))

theorem BoolAt.lt {wr : World} {g n : Nat} {P : Nat → Prop} (h : BoolAt wr g n P) : g < wr.heap.size := by
  obtain ⟨_, _, _, h3⟩ := h
  exact lt_of_block h3

theorem BoolAt.made (w : World) (n : Nat) {P : Nat → Prop} (hP : ∀ x, x < n → ¬ P x) : BoolAt (w.alloc (.cells (madeCells #[.bool false] n) 4)) w.heap.size n P := by
  obtain ⟨bs, h1, h2, h3, _⟩ := SeenS.made w n hP
  exact ⟨bs, h1, h2, h3⟩

theorem BoolAt.keeps {w w' : World} {g n : Nat} {P : Nat → Prop} {G : Nat → Prop} (h : BoolAt w g n P) (k : Keeps G w w') (hg : ¬ G g) : BoolAt w' g n P := by
  obtain ⟨bs, h1, h2, h3⟩ := h
  exact ⟨bs, h1, h2, k.at h3 hg⟩

theorem BoolAt.iff {wr : World} {g n : Nat} {P Q : Nat → Prop} (h : BoolAt wr g n P) (hQ : ∀ x, x < n → (Q x ↔ P x)) : BoolAt wr g n Q := by
  obtain ⟨bs, h1, h2, h3⟩ := h
  refine ⟨bs, h1, fun x hx => ?_, h3⟩
  rcases h2 x hx with ⟨a, b⟩ | ⟨a, b⟩
  · exact .inl ⟨a, (hQ x hx).2 b⟩
  · exact .inr ⟨a, fun hq => b ((hQ x hx).1 hq)⟩

theorem BoolAt.cell {wr : World} {g n : Nat} {P : Nat → Prop} (h : BoolAt wr g n P) {x : Nat} (hx : x < n) : ∃ t : Bool, (t = true ↔ P x) ∧ wr.cell? ⟨g, x, none⟩ = some (.bool t) ∧ wr.frozen? ⟨g, x, none⟩ = false := by
  obtain ⟨bs, h1, h2, h3⟩ := h
  have hc := World.cell_of_heap h3 x
  have hf := World.free_of_heap h3 x
  rcases h2 x hx with ⟨a, b⟩ | ⟨a, b⟩
  · exact ⟨true, by simp [b], by rw [hc]; simp [a], hf⟩
  · exact ⟨false, by simp [b], by rw [hc]; simp [a], hf⟩

theorem BoolAt.set {wr : World} {g n : Nat} {P Q : Nat → Prop} (h : BoolAt wr g n P) {x : Nat} (hx : x < n) (hQ : ∀ y, y < n → (Q y ↔ P y ∨ y = x)) : BoolAt (wr.setCell ⟨g, x, none⟩ (.bool true)) g n Q := by
  obtain ⟨bs, h1, h2, h3⟩ := h
  refine ⟨bs.set x true, by simpa using h1, fun y hy => ?_, ?_⟩
  · rw [List.getElem?_set]
    by_cases hxy : x = y
    · subst hxy
      left
      rw [if_pos rfl, if_pos (by omega)]
      exact ⟨rfl, (hQ x hx).2 (.inr rfl)⟩
    · rw [if_neg hxy]
      rcases h2 y hy with ⟨a, b⟩ | ⟨a, b⟩
      · exact .inl ⟨a, (hQ y hy).2 (.inl b)⟩
      · exact .inr ⟨a, fun hq => by rcases (hQ y hy).1 hq with c | c; exact b c; exact hxy c.symm⟩
  · rw [heap_setCell_same h3 x (.bool true)]
    simp [List.map_set]

/-- What is kept of the edges: the kind of the first dart, and one more. -/
def EdJ (out : List (Nat × Nat)) (m : Nat) (zs : List Int) : Prop := ∀ e, e < m → zs[e]? = some (match fstK out e with | some k => (k : Int) + 1 | none => 0)

theorem EdJ.old {out : List (Nat × Nat)} {m d k x : Nat} {zs : List Int} (h : EdJ out m zs) (hf : fstK out (d / 2) = some x) : EdJ (out ++ [(d, k)]) m zs := fun e he => by
  rw [h e he, fstK_old (k := k) hf e]

theorem EdJ.new {out : List (Nat × Nat)} {m d k : Nat} {zs : List Int} (hl : zs.length = m) (h : EdJ out m zs) (hf : fstK out (d / 2) = none) (hd : d / 2 < m) : EdJ (out ++ [(d, k)]) m (zs.set (d / 2) ((k : Int) + 1)) := fun e he => by
  rw [List.getElem?_set, fstK_snoc]
  by_cases c : d / 2 = e
  · subst c
    rw [if_pos rfl, if_pos (by omega), hf]; simp
  · rw [if_neg c, h e he, if_neg c]
    cases fstK out e <;> rfl

/-- A slice of the call's own, of steps. -/
def Own2 (B : Nat) (w : World) (v : Value) (ps : List (Nat × Nat)) : Prop := w.ownsRow B 142 2 v ps.length ((ps.map fun p => [Value.int .i64 p.1, Value.int .i64 p.2]).flatten)

theorem Own2.nil (B : Nat) (w : World) : Own2 B w (.slice none 0 0) [] := World.ownsRow_nil _ _ _ _
theorem Own2.keeps {B : Nat} {w w' : World} {v : Value} {ps : List (Nat × Nat)} {F : Nat → Prop} (h : Own2 B w v ps) (k : Keeps F w w') (hf : ∀ b, v.ownBlock = some b → ¬ F b) : Own2 B w' v ps := k.owns h hf
theorem Own2.lt {B : Nat} {w : World} {v : Value} {ps : List (Nat × Nat)} (h : Own2 B w v ps) : ∀ k, v.ownBlock = some k → B ≤ k ∧ k < w.heap.size := World.ownsRow.lt h
theorem Own2.form {B : Nat} {w : World} {v : Value} {ps : List (Nat × Nat)} (h : Own2 B w v ps) : ∃ a cap, v = .slice a ps.length cap := by
  obtain ⟨_, h⟩ := h
  rcases h with ⟨rfl, h0⟩ | ⟨g, cap, cur, rfl, _⟩
  · exact ⟨none, 0, by rw [h0]⟩
  · exact ⟨_, cap, rfl⟩
theorem flat2_get : ∀ (ps : List (Nat × Nat)) (j : Nat) (p : Nat × Nat), ps[j]? = some p → ((ps.map fun p => [Value.int .i64 p.1, Value.int .i64 p.2]).flatten)[j * 2]? = some (.int .i64 p.1) ∧ ((ps.map fun p => [Value.int .i64 p.1, Value.int .i64 p.2]).flatten)[j * 2 + 1]? = some (.int .i64 p.2)
  | [], j, p, h => by simp at h
  | q :: ps, 0, p, h => by
    obtain rfl : q = p := by simpa using h
    exact ⟨rfl, rfl⟩
  | q :: ps, j + 1, p, h => by
    have ih := flat2_get ps j p (by simpa using h)
    have e1 : (j + 1) * 2 = j * 2 + 1 + 1 := by omega
    rw [e1]
    exact ih
theorem Own2.cell {B : Nat} {w : World} {v : Value} {ps : List (Nat × Nat)} (h : Own2 B w v ps) {j : Nat} {p : Nat × Nat} (hp : ps[j]? = some p) : ∃ g cap, v = .slice (some ⟨g, 0, none⟩) ps.length cap ∧ w.cell? ⟨g, j * 2, none⟩ = some (.int .i64 p.1) ∧ w.cell? ⟨g, j * 2 + 1, none⟩ = some (.int .i64 p.2) := by
  have hj := lt_of_get hp
  obtain ⟨h0, h2⟩ := id h
  obtain ⟨e1, e2⟩ := flat2_get ps j p hp
  rcases h2 with ⟨_, h2⟩ | ⟨g, cap, cur, rfl, _⟩
  · omega
  · refine ⟨g, cap, rfl, ?_, ?_⟩
    · rw [World.ownsRow.cellAt h _ (by omega)]; exact e1
    · rw [World.ownsRow.cellAt h _ (by omega)]; exact e2

/-- The walk's state in memory: what is seen, and the steps so far. -/
structure WS (w : World) (b : Nat) (s : List Nat) (rt ln : Int) (R : Nat → Prop) (bs ge gm nv root : Nat) (out : List (Nat × Nat)) (ov : Value) (so : List (Nat × Nat)) (wr : World) : Prop where
  mq : ∃ R', MapAt wr b s rt ln R' ∧ (∀ x, R' x → R x ∨ (w.heap.size ≤ x ∧ x < wr.heap.size)) ∧ ¬ R' bs ∧ ¬ R' ge ∧ ¬ R' gm ∧ ∀ k, ov.ownBlock = some k → ¬ R' k
  st : Own2 w.heap.size wr ov so
  sp : ∀ k, ov.ownBlock = some k → k ≠ bs ∧ k ≠ ge ∧ k ≠ gm
  bx : wr.heap[bs]? = some (.cells #[.pointer (some ⟨b, 0, none⟩), .slice (some ⟨ge, 0, none⟩) (s.length / 2) (s.length / 2), .slice (some ⟨gm, 0, none⟩) nv nv] 191 (0, 0))
  ed : ∃ zs, zs.length = s.length / 2 ∧ OwnI w.heap.size wr (.slice (some ⟨ge, 0, none⟩) (s.length / 2) (s.length / 2)) zs ∧ EdJ out (s.length / 2) zs
  me : BoolAt wr gm nv (fun v => metB (vnum (sg s)) root out v = true)
  vl : ldr (sg s) s.length ≤ nv
  ap : bs ≠ ge ∧ bs ≠ gm ∧ ge ≠ gm ∧ w.heap.size ≤ bs ∧ w.heap.size ≤ ge ∧ w.heap.size ≤ gm
  bw : b < w.heap.size
  kee : Keeps (fun k => k = b) w wr

section
variable {w : World} {b : Nat} {s : List Nat} {rt ln : Int} {R : Nat → Prop} {bs ge gm nv root : Nat} {out : List (Nat × Nat)} {ov : Value} {so : List (Nat × Nat)} {wr : World} (h : WS w b s rt ln R bs ge gm nv root out ov so wr)
include h

theorem WS.ltb : bs < wr.heap.size ∧ ge < wr.heap.size ∧ gm < wr.heap.size := by
  obtain ⟨zs, _, h1, _⟩ := h.ed
  exact ⟨lt_of_block h.bx, (h1.lt ge rfl).2, h.me.lt⟩

theorem WS.ask : ∃ R', MapAt wr b s rt ln R' ∧ ∀ w2, MapQ wr b s rt ln R' w2 → WS w b s rt ln R bs ge gm nv root out ov so w2 := by
  obtain ⟨R', h1, h2, h3, h4, h5, h6⟩ := h.mq
  have hb := h.bw
  obtain ⟨l1, l2, l3⟩ := h.ltb
  obtain ⟨a1, a2, a3, a4, a5, a6⟩ := h.ap
  obtain ⟨zs, z1, z2, z3⟩ := h.ed
  refine ⟨R', h1, fun w2 hq => ⟨⟨grow R' wr w2, hq.1, fun x hx => ?_, fun hx => ?_, fun hx => ?_, fun hx => ?_, fun k hk hx => ?_⟩, h.st.keeps hq.2 (fun q hq' e => by have := (h.st.lt q hq').1; omega), h.sp, hq.2.at h.bx (by omega), ⟨zs, z1, z2.keeps hq.2 (fun q hq' e => by have := (z2.lt q hq').1; omega), z3⟩, h.me.keeps hq.2 (by omega), h.vl, h.ap, hb, h.kee.trans hq.2 (fun _ _ e => e)⟩⟩
  · have hs := h.kee.size
    have hs2 := hq.2.size
    rcases hx with hx | hx
    · rcases h2 x hx with e | e
      · exact .inl e
      · exact .inr ⟨e.1, by omega⟩
    · exact .inr ⟨by omega, hx.2⟩
  · rcases hx with hx | hx
    · exact h3 hx
    · omega
  · rcases hx with hx | hx
    · exact h4 hx
    · omega
  · rcases hx with hx | hx
    · exact h5 hx
    · omega
  · rcases hx with hx | hx
    · exact h6 k hk hx
    · have := (h.st.lt k hk).2; omega

/-- A step more. -/
theorem WS.app {ps : List (Nat × Nat)} {g5 m cap : Nat} {w5 : World} (ho : Own2 w.heap.size w5 (.slice (some ⟨g5, 0, none⟩) m cap) ps) (k : Keeps (fun q => ov.ownBlock = some q) wr w5) (hat : ov.ownBlock = some g5 ∨ wr.heap.size ≤ g5) :
    WS w b s rt ln R bs ge gm nv root out (.slice (some ⟨g5, 0, none⟩) m cap) ps w5 := by
  obtain ⟨R', h1, h2, h3, h4, h5, h6⟩ := h.mq
  have hb := h.bw
  obtain ⟨l1, l2, l3⟩ := h.ltb
  obtain ⟨a1, a2, a3, a4, a5, a6⟩ := h.ap
  obtain ⟨zs, z1, z2, z3⟩ := h.ed
  have hs2 := k.size
  have hne : ∀ x, ov.ownBlock = some x → w.heap.size ≤ x ∧ x ≠ bs ∧ x ≠ ge ∧ x ≠ gm := fun x hx => ⟨(h.st.lt x hx).1, h.sp x hx⟩
  refine ⟨⟨R', h1.keeps k (fun e => by have := (hne b e).1; omega) (fun x hx e => h6 x e hx), fun x hx => ?_, h3, h4, h5, fun q hq hx => ?_⟩, ho, fun q hq => ?_, k.at h.bx (fun e => (hne bs e).2.1 rfl), ⟨zs, z1, z2.keeps k (fun q hq e => by simp only [Value.ownBlock, Option.some.injEq] at hq; subst hq; exact (hne _ e).2.2.1 rfl), z3⟩, h.me.keeps k (fun e => (hne gm e).2.2.2 rfl), h.vl, h.ap, hb, h.kee.trans k (fun x hx e => by have := (hne x e).1; omega)⟩
  · rcases h2 x hx with e | e
    · exact .inl e
    · exact .inr ⟨e.1, by omega⟩
  · simp only [Value.ownBlock, Option.some.injEq] at hq
    subst hq
    rcases hat with e | e
    · exact h6 _ e hx
    · have := h1.old _ hx; omega
  · simp only [Value.ownBlock, Option.some.injEq] at hq
    subst hq
    rcases hat with e | e
    · exact (hne _ e).2
    · omega

theorem WS.old {d k x : Nat} (hf : fstK out (d / 2) = some x) (hk : k ≠ 0) : WS w b s rt ln R bs ge gm nv root (out ++ [(d, k)]) ov so wr := by
  obtain ⟨zs, z1, z2, z3⟩ := h.ed
  refine ⟨h.mq, h.st, h.sp, h.bx, ⟨zs, z1, z2, z3.old hf⟩, h.me.iff (fun v hv => ?_), h.vl, h.ap, h.bw, h.kee⟩
  rw [metB_snoc]
  exact ⟨fun e => e.resolve_right (fun e => hk e.1), .inl⟩

/-- A mark is set: a vertex is met. -/
theorem WS.mark {v : Nat} (hv : v < nv) : ∃ zs, zs.length = s.length / 2 ∧ OwnI w.heap.size (wr.setCell ⟨gm, v, none⟩ (.bool true)) (.slice (some ⟨ge, 0, none⟩) (s.length / 2) (s.length / 2)) zs ∧ EdJ out (s.length / 2) zs ∧
    BoolAt (wr.setCell ⟨gm, v, none⟩ (.bool true)) gm nv (fun u => metB (vnum (sg s)) root out u = true ∨ u = v) := by
  obtain ⟨zs, z1, z2, z3⟩ := h.ed
  obtain ⟨a1, a2, a3, a4, a5, a6⟩ := h.ap
  have kk := (Keeps.refl (fun q => q = gm) wr).setCell (p := ⟨gm, v, none⟩) (.inl rfl) (.bool true)
  exact ⟨zs, z1, z2.keeps kk (fun q hq' e => by simp only [Value.ownBlock, Option.some.injEq] at hq'; omega), z3, h.me.set hv (fun y _ => Iff.rfl)⟩

/-- The first dart of an edge is told: its vertex may be met then. -/
theorem WS.new {d k : Nat} (hd : d < s.length) (he : s.length % 2 = 0) (hf : fstK out (d / 2) = none) (hk : k = 0 ∨ k = 2) : ∀ w1, (k = 0 ∧ vnum (sg s) (mt d) < nv ∧ w1 = wr.setCell ⟨gm, vnum (sg s) (mt d), none⟩ (.bool true)) ∨ (k = 2 ∧ w1 = wr) →
    WS w b s rt ln R bs ge gm nv root (out ++ [(d, k)]) ov so (w1.setCell ⟨ge, d / 2, none⟩ (.int .i64 ((k : Int) + 1))) := by
  intro w1 hw1
  obtain ⟨R', h1, h2, h3, h4, h5, h6⟩ := h.mq
  obtain ⟨a1, a2, a3, a4, a5, a6⟩ := h.ap
  have hb := h.bw
  have hdl : d / 2 < s.length / 2 := by omega
  have key : Keeps (fun q => q = gm) wr w1 ∧ (∃ zs, zs.length = s.length / 2 ∧ OwnI w.heap.size w1 (.slice (some ⟨ge, 0, none⟩) (s.length / 2) (s.length / 2)) zs ∧ EdJ out (s.length / 2) zs) ∧ BoolAt w1 gm nv (fun u => metB (vnum (sg s)) root (out ++ [(d, k)]) u = true) := by
    rcases hw1 with ⟨rfl, hv, rfl⟩ | ⟨rfl, rfl⟩
    · obtain ⟨zs, z1, z2, z3, z4⟩ := h.mark hv
      refine ⟨(Keeps.refl (fun q => q = gm) wr).setCell (p := ⟨gm, _, none⟩) (.inl rfl) (.bool true), ⟨zs, z1, z2, z3⟩, z4.iff (fun u _ => ?_)⟩
      rw [metB_snoc]
      exact ⟨fun e => e.imp id (fun e => e.2.symm), fun e => e.imp id (fun e => ⟨rfl, e.symm⟩)⟩
    · refine ⟨Keeps.refl _ _, h.ed, h.me.iff (fun u _ => ?_)⟩
      rw [metB_snoc]
      exact ⟨fun e => e.resolve_right (fun e => by omega), .inl⟩
  obtain ⟨k1, ⟨zs, z1, z2, z3⟩, z4⟩ := key
  have kk := (Keeps.refl (fun q => q = ge) w1).setCell (p := ⟨ge, d / 2, none⟩) (.inl rfl) (.int .i64 ((k : Int) + 1))
  have k2 := (k1.mono (fun _ _ e => .inl e) : Keeps (fun q => q = gm ∨ q = ge) wr w1).trans kk (fun x _ e => .inr e)
  have hs2 := k2.size
  refine ⟨⟨R', h1.keeps k2 (fun hg => by omega) (fun x hx e => by rcases e with e | e; exact h5 (e ▸ hx); exact h4 (e ▸ hx)), fun x hx => ?_, h3, h4, h5, h6⟩, h.st.keeps k2 (fun q hq e => by have := h.sp q hq; rcases e with e | e; exact this.2.2 e; exact this.2.1 e), h.sp, k2.at h.bx (by omega), ⟨zs.set (d / 2) ((k : Int) + 1), by simpa using z1, z2.set (d / 2) _, z3.new z1 hf hdl⟩, z4.keeps kk (by omega), h.vl, h.ap, hb, h.kee.trans k2 (fun x hx e => by omega)⟩
  rcases h2 x hx with e | e
  · exact .inl e
  · exact .inr ⟨e.1, by omega⟩
end

end Go.Proofs.YtcfdpogegngplaaGreat

/- The contracts of package walk: a map is walked; the steps' word. -/
namespace Go.Proofs.YtcfdpogegngplaaGreat
open Go.RowKit

/-- What the walk begins with, in memory. -/
structure WR (w : World) (b : Nat) (s : List Nat) (rt ln : Int) (R : Nat → Prop) (bs ge gm nv ne : Nat) (wx : World) : Prop where
  mq : ∃ R', MapAt wx b s rt ln R' ∧ (∀ x, R' x → R x ∨ (w.heap.size ≤ x ∧ x < wx.heap.size)) ∧ ¬ R' bs ∧ ¬ R' ge ∧ ¬ R' gm
  bx : wx.heap[bs]? = some (.cells #[.pointer (some ⟨b, 0, none⟩), .slice (some ⟨ge, 0, none⟩) ne ne, .slice (some ⟨gm, 0, none⟩) nv nv] 191 (0, 0))
  eg : wx.heap[ge]? = some (.cells (madeCells #[.int .i64 0] ne) 3 (0, 0))
  mg : wx.heap[gm]? = some (.cells (madeCells #[.bool false] nv) 4 (0, 0))
  ap : bs ≠ ge ∧ bs ≠ gm ∧ ge ≠ gm ∧ w.heap.size ≤ bs ∧ w.heap.size ≤ ge ∧ w.heap.size ≤ gm
  kee : Keeps (fun k => k = b) w wx

theorem alloc2 (w : World) (a b : Obj) : ((w.alloc a).alloc b).heap[w.heap.size]? = some a ∧ ((w.alloc a).alloc b).heap[w.heap.size + 1]? = some b ∧ Keeps (fun _ => False) w ((w.alloc a).alloc b) ∧ ((w.alloc a).alloc b).heap.size = w.heap.size + 2 := by
  have k := (Keeps.refl (fun _ => False) (w.alloc a)).alloc b
  refine ⟨k.at (heap_alloc_new w a) (fun h => h), ?_, ((Keeps.refl (fun _ => False) w).alloc a).trans k (fun _ _ h => h), by simp⟩
  have := heap_alloc_new (w.alloc a) b
  simpa using this

theorem alloc3 (w : World) (a b c : Obj) : (((w.alloc a).alloc b).alloc c).heap[w.heap.size]? = some a ∧ (((w.alloc a).alloc b).alloc c).heap[w.heap.size + 1]? = some b ∧ (((w.alloc a).alloc b).alloc c).heap[w.heap.size + 2]? = some c ∧ Keeps (fun _ => False) w (((w.alloc a).alloc b).alloc c) ∧ (((w.alloc a).alloc b).alloc c).heap.size = w.heap.size + 3 := by
  obtain ⟨h1, h2, h3, h4⟩ := alloc2 w a b
  have k := (Keeps.refl (fun _ => False) ((w.alloc a).alloc b)).alloc c
  refine ⟨k.at h1 (fun h => h), k.at h2 (fun h => h), ?_, h3.trans k (fun _ _ h => h), by simp⟩
  have := heap_alloc_new ((w.alloc a).alloc b) c
  rw [h4] at this
  exact this

theorem WR.a {w w1 w2 : World} {b : Nat} {s : List Nat} {rt ln : Int} {R : Nat → Prop} {nv ne : Nat} (h : MapAt w b s rt ln R) (hw1 : w1 = (w.alloc (.cells (madeCells #[.int .i64 0] ne) 3)).drew) (hq : MapQ w1 b s rt ln R w2) :
    WR w b s rt ln R (w2.heap.size + 1) w.heap.size w2.heap.size nv ne ((w2.alloc (.cells (madeCells #[.bool false] nv) 4)).alloc (.cells #[.pointer (some ⟨b, 0, none⟩), .slice (some ⟨w.heap.size, 0, none⟩) ne ne, .slice (some ⟨w2.heap.size, 0, none⟩) nv nv] 191)) := by
  obtain ⟨h1, h2, h3, h4⟩ := alloc2 w2 (.cells (madeCells #[.bool false] nv) 4) (.cells #[.pointer (some ⟨b, 0, none⟩), .slice (some ⟨w.heap.size, 0, none⟩) ne ne, .slice (some ⟨w2.heap.size, 0, none⟩) nv nv] 191)
  have hs1 : w1.heap.size = w.heap.size + 1 := by rw [hw1]; simp
  have k01 : Keeps (fun _ => False) w w1 := by rw [hw1]; exact ((Keeps.refl _ w).alloc _).drew
  have he1 : w1.heap[w.heap.size]? = some (.cells (madeCells #[.int .i64 0] ne) 3 (0, 0)) := by rw [hw1]; exact heap_alloc_new w _
  have hs2 := hq.2.size
  have hb := h.lt
  have he2 := (hq.2.at he1 (by omega))
  refine ⟨⟨grow R w1 w2, hq.1.keeps h3 (fun h => h) (fun _ _ h => h), fun x hx => ?_, fun hx => ?_, fun hx => ?_, fun hx => ?_⟩, h2, h3.at he2 (fun h => h), h1, ⟨by omega, by omega, by omega, by omega, by omega, by omega⟩, ((k01.mono (fun _ _ h => h.elim) : Keeps (fun k => k = b) w w1).trans hq.2 (fun _ _ e => e)).trans h3 (fun _ _ e => e.elim)⟩
  · rcases hx with hx | hx
    · exact .inl hx
    · exact .inr ⟨by omega, by omega⟩
  all_goals
    rcases hx with hx | hx
    · have := h.old _ hx; omega
    · omega

theorem WR.b {w w1 w2 : World} {b : Nat} {s : List Nat} {rt ln : Int} {R : Nat → Prop} {nv ne : Nat} (h : MapAt w b s rt ln R) (hw1 : w1 = w.drew) (hq : MapQ w1 b s rt ln R w2) :
    WR w b s rt ln R (w2.heap.size + 2) w2.heap.size (w2.heap.size + 1) nv ne (((w2.alloc (.cells (madeCells #[.int .i64 0] ne) 3)).alloc (.cells (madeCells #[.bool false] nv) 4)).alloc (.cells #[.pointer (some ⟨b, 0, none⟩), .slice (some ⟨w2.heap.size, 0, none⟩) ne ne, .slice (some ⟨w2.heap.size + 1, 0, none⟩) nv nv] 191)) := by
  obtain ⟨h1, h2, h2', h3, h4⟩ := alloc3 w2 (.cells (madeCells #[.int .i64 0] ne) 3) (.cells (madeCells #[.bool false] nv) 4) (.cells #[.pointer (some ⟨b, 0, none⟩), .slice (some ⟨w2.heap.size, 0, none⟩) ne ne, .slice (some ⟨w2.heap.size + 1, 0, none⟩) nv nv] 191)
  subst hw1
  have hs1 : w.drew.heap.size = w.heap.size := rfl
  have hs2 := hq.2.size
  have hb := h.lt
  refine ⟨⟨grow R w.drew w2, hq.1.keeps h3 (fun h => h) (fun _ _ h => h), fun x hx => ?_, fun hx => ?_, fun hx => ?_, fun hx => ?_⟩, h2', h1, h2, ⟨by omega, by omega, by omega, by omega, by omega, by omega⟩, (((Keeps.refl (fun k => k = b) w).drew).trans hq.2 (fun _ _ e => e)).trans h3 (fun _ _ e => e.elim)⟩
  · rcases hx with hx | hx
    · exact .inl hx
    · exact .inr ⟨by omega, by omega⟩
  all_goals
    rcases hx with hx | hx
    · have := h.old _ hx; omega
    · omega

theorem WR.c {w w1 w2 : World} {b : Nat} {s : List Nat} {rt ln : Int} {R : Nat → Prop} {nv ne : Nat} (h : MapAt w b s rt ln R) (hw1 : w1 = w.drew) (hq : MapQ w1 b s rt ln R w2) :
    WR w b s rt ln R (w2.heap.size + 2) (w2.heap.size + 1) w2.heap.size nv ne (((w2.alloc (.cells (madeCells #[.bool false] nv) 4)).alloc (.cells (madeCells #[.int .i64 0] ne) 3)).alloc (.cells #[.pointer (some ⟨b, 0, none⟩), .slice (some ⟨w2.heap.size + 1, 0, none⟩) ne ne, .slice (some ⟨w2.heap.size, 0, none⟩) nv nv] 191)) := by
  obtain ⟨h1, h2, h2', h3, h4⟩ := alloc3 w2 (.cells (madeCells #[.bool false] nv) 4) (.cells (madeCells #[.int .i64 0] ne) 3) (.cells #[.pointer (some ⟨b, 0, none⟩), .slice (some ⟨w2.heap.size + 1, 0, none⟩) ne ne, .slice (some ⟨w2.heap.size, 0, none⟩) nv nv] 191)
  subst hw1
  have hs1 : w.drew.heap.size = w.heap.size := rfl
  have hs2 := hq.2.size
  have hb := h.lt
  refine ⟨⟨grow R w.drew w2, hq.1.keeps h3 (fun h => h) (fun _ _ h => h), fun x hx => ?_, fun hx => ?_, fun hx => ?_, fun hx => ?_⟩, h2', h2, h1, ⟨by omega, by omega, by omega, by omega, by omega, by omega⟩, (((Keeps.refl (fun k => k = b) w).drew).trans hq.2 (fun _ _ e => e)).trans h3 (fun _ _ e => e.elim)⟩
  · rcases hx with hx | hx
    · exact .inl hx
    · exact .inr ⟨by omega, by omega⟩
  all_goals
    rcases hx with hx | hx
    · have := h.old _ hx; omega
    · omega

theorem BoolAt.ofMade {w : World} {g n : Nat} (h : w.heap[g]? = some (.cells (madeCells #[.bool false] n) 4 (0, 0))) : BoolAt w g n (fun _ => False) := by
  have hc : madeCells #[.bool false] n = ((List.replicate n false).map Value.bool).toArray := by
    apply Array.toList_inj.1
    rw [toList_madeCells_one]; simp
  exact ⟨List.replicate n false, by simp, fun x hx => .inr ⟨by simp [hx], fun h => h⟩, by rw [← hc]; exact h⟩

/-- The walk begins: the root's vertex is met. -/
theorem WR.start {w wx : World} {b : Nat} {s : List Nat} {rt ln : Int} {R R' : Nat → Prop} {bs ge gm nv ne root : Nat} (h : WR w b s rt ln R bs ge gm nv ne wx) (hR : ∀ x, R' x → R x ∨ (w.heap.size ≤ x ∧ x < wx.heap.size)) (hn1 : ¬ R' bs) (hn2 : ¬ R' ge) (hn3 : ¬ R' gm) (hne : ne = s.length / 2) (hnb : ne ≤ 1000000) (hvl : ldr (sg s) s.length ≤ nv) (hb : b < w.heap.size)
    {w2 : World} (hq : MapQ wx b s rt ln R' w2) (hv : vnum (sg s) root < nv) :
    WS w b s rt ln R bs ge gm nv root [] (.slice none 0 0) [] (w2.setCell ⟨gm, vnum (sg s) root, none⟩ (.bool true)) := by
  obtain ⟨a1, a2, a3, a4, a5, a6⟩ := h.ap
  have l1 := lt_of_block h.bx
  have l2 := lt_of_block h.eg
  have l3 := lt_of_block h.mg
  have hs1 := h.kee.size
  have hs2 := hq.2.size
  have kk := (Keeps.refl (fun q => q = gm) w2).setCell (p := ⟨gm, vnum (sg s) root, none⟩) (.inl rfl) (.bool true)
  have he2 := hq.2.at h.eg (by omega)
  have he3 := kk.at he2 (by omega)
  have hm2 : BoolAt w2 gm nv (fun _ => False) := (BoolAt.ofMade h.mg).keeps hq.2 (by omega)
  subst hne
  refine ⟨⟨grow R' wx w2, hq.1.keeps kk (fun e => by omega) (fun x hx e => ?_), fun x hx => ?_, fun hx => ?_, fun hx => ?_, fun hx => ?_, fun k hk => by simp [Value.ownBlock] at hk⟩, Own2.nil _ _, fun k hk => by simp [Value.ownBlock] at hk, kk.at (hq.2.at h.bx (by omega)) (by omega), ⟨List.replicate (s.length / 2) 0, by simp, ⟨by simp [ints], .inr ⟨ge, s.length / 2, _, by simp, a5, he3, by simp, by unfold maxLen; omega, by rw [size_madeCells]; simp, ?_⟩⟩, fun e he => by simp [fstK, he]⟩, hm2.set hv (fun y _ => ?_), hvl, h.ap, hb, (h.kee.trans hq.2 (fun _ _ e => e)).trans kk (fun x hx e => by omega)⟩
  · rcases hx with hx | hx
    · exact hn3 (e ▸ hx)
    · omega
  · have hs3 := kk.size
    rcases hx with hx | hx
    · rcases hR x hx with e | e
      · exact .inl e
      · exact .inr ⟨e.1, by omega⟩
    · exact .inr ⟨by omega, by omega⟩
  · rcases hx with hx | hx
    · exact hn1 hx
    · omega
  · rcases hx with hx | hx
    · exact hn2 hx
    · omega
  · rcases hx with hx | hx
    · exact hn3 hx
    · omega
  · rw [toList_madeCells_one]; simp [ints]
  · unfold metB
    simp

end Go.Proofs.YtcfdpogegngplaaGreat

/- The contracts of packages walk and turan: the word of steps; the word of a map. -/
namespace Go.Proofs.YtcfdpogegngplaaGreat
open Go.RowKit

/-- A word of the call's own. -/
def WordNew (w : World) (bw : Nat) (ks : List Nat) (w' : World) : Prop :=
  ∃ v, WordAt w' bw v ks ∧ w.heap.size ≤ bw ∧ (∀ k, v.ownBlock = some k → w.heap.size ≤ k) ∧ Keeps (fun _ => False) w w'

theorem WordNew.keeps {w w1 w2 : World} {bw : Nat} {ks : List Nat} (h : WordNew w bw ks w1) (k : Keeps (fun _ => False) w1 w2) : WordNew w bw ks w2 := by
  obtain ⟨v, h1, h2, h3, h4⟩ := h
  exact ⟨v, h1.keeps k (fun h => h) (fun _ _ h => h), h2, h3, h4.trans k (fun _ _ h => h)⟩

theorem WordNew.base {w0 w w1 : World} {bw : Nat} {ks : List Nat} (h : WordNew w bw ks w1) (k : Keeps (fun _ => False) w0 w) : WordNew w0 bw ks w1 := by
  obtain ⟨v, h1, h2, h3, h4⟩ := h
  have := k.size
  exact ⟨v, h1, by omega, fun q hq => by have := h3 q hq; omega, k.trans h4 (fun _ _ h => h)⟩

end Go.Proofs.YtcfdpogegngplaaGreat
