/- Joined texts. -/
import Derived.Test.YtipelclohcdkcaaGreatPsAwake
import Derived.Test.YtipelclohcdkcaaGreatPsOf13
import Derived.Test.YtipelclohcdkcaaGreatPsDecWk

/- Layer 13's statements: LookAsks. -/
namespace Go.Proofs.YtipelclohcdkcaaGreat
open Go.RowKit

theorem i64_in {z : Int} (h : (Lit.int .i64 z).wf = true) : -9223372036854775808 ≤ z ∧ z ≤ 9223372036854775807 := by
  have h1 : (Lit.int .i64 z).wf = (decide (IntKind.i64.min ≤ z) && decide (z ≤ IntKind.i64.max)) := rfl
  rw [h1, show IntKind.i64.min = -9223372036854775808 by decide, show IntKind.i64.max = 9223372036854775807 by decide] at h
  simpa using h

/-- Behind some questions. -/
def AskF (w w3 w5 : World) (K : List Nat) (kv : Value) (bl bm bo : Nat) (bi bp : Nat → Nat) (F : Nat → Prop) (j : Nat) (wr : World) : Prop :=
  (Keeps (fun _ => False) w w5 ∧ w3.heap.size ≤ w5.heap.size ∧ OwnI w3.heap.size w5 kv (nats K) ∧ (∀ x, F x → w.heap.size ≤ x ∧ x < w3.heap.size) ∧ w.heap.size ≤ bl ∧ bl < w3.heap.size ∧ ¬ F bl) ∧ LookQ w5 bl bm bo bi bp K (600 * j) F j wr

theorem AskF.step {w w3 w5 wr wz : World} {K : List Nat} {kv : Value} {bl bm bo : Nat} {bi bp : Nat → Nat} {F : Nat → Prop} {j : Nat} (hK : K.length ≤ 29) (h : AskF w w3 w5 K kv bl bm bo bi bp F j wr) (k : LookQ wr bl bm bo bi bp K (600 * j + 20 * K.length + 10) (grow F w5 wr) (j + 1) wz) : AskF w w3 w5 K kv bl bm bo bi bp F (j + 1) wz := by
  obtain ⟨h0, h1⟩ := h
  obtain ⟨a1, a2, a3, a4, a5, a6, a7⟩ := id h0
  exact ⟨h0, (LookQ.trans (fun x hx => by have := a4 x hx; omega) (by omega) a7 h1 k).more (by omega)⟩

end Go.Proofs.YtipelclohcdkcaaGreat

/- Layer 13's statements: LookVertices. -/
namespace Go.Proofs.YtipelclohcdkcaaGreat
open Go.RowKit

/-- What is read behind the questions. -/
def Rd13 (b12 : Nat) (vS vM vV vF : Value) (ks : List Nat) (W : World) : Prop :=
  W.heap[b12]? = some (.cells #[vS, vM, vV, vF] 48 (0, 0)) ∧ Sl .i64 W vS (nats (tnL ks)) ∧ Sl .i64 W vM (nats ((List.range ks.length).map (mp ks))) ∧ Sl .i64 W vV (nats ((List.range ks.length).map (vx ks))) ∧ Sl .i64 W vF (nats (fsL (tnL ks) ks.length))

theorem Rd13.keeps {b12 : Nat} {vS vM vV vF : Value} {ks : List Nat} {W W' : World} (h : Rd13 b12 vS vM vV vF ks W) {G : Nat → Prop} (k : Keeps G W W') (h12 : ¬ G b12) (hq : ∀ q, (vS.ownBlock = some q ∨ vM.ownBlock = some q ∨ vV.ownBlock = some q ∨ vF.ownBlock = some q) → ¬ G q) : Rd13 b12 vS vM vV vF ks W' :=
  ⟨k.at h.1 h12, h.2.1.keeps k (fun q h => hq q (.inl h)), h.2.2.1.keeps k (fun q h => hq q (.inr (.inl h))), h.2.2.2.1.keeps k (fun q h => hq q (.inr (.inr (.inl h)))), h.2.2.2.2.keeps k (fun q h => hq q (.inr (.inr (.inr h))))⟩

/-- Behind made, with the document's map boxed. -/
structure Asked13 (w wb : World) (ks : List Nat) (bl b bo : Nat) (bi bp : Nat → Nat) (F : Nat → Prop) (vS vM vV vF : Value) (b12 q n : Nat) (wr : World) : Prop where
  lq : LookQ wb bl b bo bi bp ks q F n wr
  fold : ∀ x, F x → w.heap.size ≤ x ∧ x < wb.heap.size
  blo : w.heap.size ≤ bl ∧ bl < wb.heap.size
  blF : ¬ F bl
  rd : Rd13 b12 vS vM vV vF ks wr
  b12o : b12 < wb.heap.size ∧ ¬ F b12 ∧ b12 ≠ bl
  sep : ∀ q, (vS.ownBlock = some q ∨ vM.ownBlock = some q ∨ vV.ownBlock = some q ∨ vF.ownBlock = some q) → ¬ F q ∧ q ≠ bl ∧ q < wb.heap.size
  kee : Keeps (fun _ => False) w wr

theorem Asked13.ask {w wb wr wz : World} {ks : List Nat} {bl b bo : Nat} {bi bp : Nat → Nat} {F : Nat → Prop} {vS vM vV vF : Value} {b12 q n q' n' : Nat} (h : Asked13 w wb ks bl b bo bi bp F vS vM vV vF b12 q n wr) (k : LookQ wr bl b bo bi bp ks q' (grow F wb wr) n' wz) :
    Asked13 w wb ks bl b bo bi bp F vS vM vV vF b12 q' n' wz := by
  have hsz := h.lq.2.size
  have hg : ∀ x, x < wb.heap.size → ¬ F x → x ≠ bl → ¬ (grow F wb wr x ∨ x = bl) := fun x hx hF hb hh => by
    rcases hh with hh | hh
    · rcases hh with hh | hh
      · exact hF hh
      · omega
    · exact hb hh
  refine ⟨LookQ.trans (fun x hx => (h.fold x hx).2) h.blo.2 h.blF h.lq k, h.fold, h.blo, h.blF, h.rd.keeps k.2 (hg _ h.b12o.1 h.b12o.2.1 h.b12o.2.2) (fun q hq => ?_), h.b12o, h.sep, h.kee.trans k.2 (fun x hx hh => ?_)⟩
  · obtain ⟨h1, h2, h3⟩ := h.sep q hq
    exact hg q h3 h1 h2
  · rcases hh with hh | hh
    · rcases hh with hh | hh
      · have := (h.fold x hh).1; omega
      · have := h.kee.size; have := h.blo; have := h.lq.2.size; omega
    · have := h.blo; omega

end Go.Proofs.YtipelclohcdkcaaGreat

/- Layer 13's statements: LookVertices, the walk. -/
namespace Go.Proofs.YtipelclohcdkcaaGreat
open Go.RowKit

theorem Asked13.cells {w wb wr : World} {ks : List Nat} {bl b bo : Nat} {bi bp : Nat → Nat} {F : Nat → Prop} {vS vM vV vF : Value} {b12 q n : Nat} (h : Asked13 w wb ks bl b bo bi bp F vS vM vV vF b12 q n wr) {w' : World} (k : Keeps (fun _ => False) wr w') : Rd13 b12 vS vM vV vF ks w' := h.rd.keeps k (fun h => h) (fun _ _ h => h)

/-- Around a vertex, so far. -/
def ArS (w w0 : World) (b12 : Nat) (vS vM vV vF : Value) (ks : List Nat) (f j : Nat) (kv : Value) (wr : World) : Prop := OwnI w0.heap.size wr kv (nats (orbK (tn ks) f j)) ∧ Keeps (fun _ => False) w wr ∧ Rd13 b12 vS vM vV vF ks wr ∧ w0.heap.size ≤ wr.heap.size ∧ (∀ q, (vS.ownBlock = some q ∨ vM.ownBlock = some q ∨ vV.ownBlock = some q ∨ vF.ownBlock = some q) → q < w0.heap.size) ∧ b12 < w0.heap.size ∧ w.heap.size ≤ w0.heap.size

theorem ArS.push {w w0 wr w3 : World} {b12 : Nat} {vS vM vV vF kv kv' : Value} {ks : List Nat} {f j : Nat} (h : ArS w w0 b12 vS vM vV vF ks f j kv wr) (k : Keeps (fun q => kv.ownBlock = some q) wr w3) (ho : OwnI w0.heap.size w3 kv' (nats (orbK (tn ks) f (j + 1)))) : ArS w w0 b12 vS vM vV vF ks f (j + 1) kv' w3 := by
  obtain ⟨h1, h2, h3, h4, h5, h6, h7⟩ := h
  exact ⟨ho, h2.trans k (fun x hx e => by have := (h1.lt x e).1; omega), h3.keeps k (fun e => by have := (h1.lt _ e).1; omega) (fun q hq e => by have := h5 q hq; have := (h1.lt q e).1; omega), Nat.le_trans h4 k.size, h5, h6, h7⟩

end Go.Proofs.YtipelclohcdkcaaGreat

/- look: back; Next, Back, Along, Vertex of a place. -/
namespace Go.Proofs.YtipelclohcdkcaaGreat
open Go.RowKit

/-- Back around. -/
noncomputable def bk (ks : List Nat) (i : Nat) : Nat := if ks.getD ((i + ks.length - 1) % ks.length) 0 < 2 then mp ks ((i + ks.length - 1) % ks.length) else (i + ks.length - 1) % ks.length

theorem Wd.mp_tree {ks : List Nat} (h : Wd ks) {i : Nat} (hi : i < ks.length) : ks.getD (mp ks i) 0 < 2 ↔ ks.getD i 0 < 2 := by
  obtain ⟨t, ht, ⟨h1, h2⟩ | ⟨h1, h2⟩⟩ := h.cases (i := i) hi
  · have h3 := h2.closes
    rw [List.getD_eq_getElem?_getD, h3, List.getD_eq_getElem?_getD, h1, Option.getD_some, Option.getD_some]; omega
  · have h3 := h2.opens
    rw [List.getD_eq_getElem?_getD, h3, List.getD_eq_getElem?_getD, h1, Option.getD_some, Option.getD_some]; omega

end Go.Proofs.YtipelclohcdkcaaGreat
