/- A range over a function whose iterator keeps a state of its own in cells (it asks an index, which makes its directory when it is first asked): the contract, and the caller's law. -/
import Derived.RangeFuncNested
import Derived.RangeFuncBound
import Derived.RangeFuncCalls
import Derived.RangeFuncLeaves
import Derived.Test.YtipelclohcdkcaaGreatPsRight
namespace Go.Proofs.YtipelclohcdkcaaGreat
open Go.RowKit

/-- THE ITERATOR's CONTRACT: 's' is the ghost of the state that it keeps; St says what its own steps do. -/
def SeqS {α σ : Type} (F : Fence) (n : Nat) (P : Program) (g : Nat) (lb : Array Value) (encs : α → Array Value) (St : σ → World → σ → World → Prop) (Rd : σ → σ → Prop) (At : List α → σ → World → Prop) (S Sp : List α → σ → Prop) (N : Nat) (Ok : Nat → α → σ → Prop) (s0 : σ) : Prop :=
  ∀ (l : Nat) (J Jx : List α → σ → World → Prop) (W : World),
    (∀ xs s A s' B, J xs s A → St s A s' B → J xs s' B) →
    (∀ xs s A, J xs s A → At xs s A) →
    (∀ pre x s W1, J pre s W1 → pre.length < N → Ok pre.length x s → YieldAt F (n - 1) P l (encs x) W1 fun e W' =>
      (e = .returned (.bool true) ∧ ∃ s', Rd s s' ∧ J (pre ++ [x]) s' W') ∨ (e = .returned (.bool false) ∧ ∃ s', Rd s s' ∧ Jx (pre ++ [x]) s' W')) →
    J [] s0 W →
    CallsIn F n P g (#[.func (.yield l) #[] #[]] ++ lb) W fun e W' => (∃ v, e = .returned v) ∧ ((∃ xs s, S xs s ∧ J xs s W') ∨ (∃ pre s, Sp pre s ∧ Jx pre s W'))

/-- What the body must leave as it lies: the loop's record and the block for the rounds' deferred calls. -/
def KeepsRec (D : Nat) (W W' : World) : Prop := ∀ k o, (k = D ∨ k = D + 1) → W.heap[k]? = some o → o.isCells = false → W'.heap[k]? = some o

theorem KeepsRec.refl (D : Nat) (W : World) : KeepsRec D W W := fun _ _ _ h _ => h
theorem KeepsRec.trans {D : Nat} {A B C : World} (h : KeepsRec D A B) (k : KeepsRec D B C) : KeepsRec D A C := fun i o hi ho hc => k i o hi (h i o hi ho hc) hc
theorem KeepsRec.of {D : Nat} {G : Nat → Prop} {W W' : World} (h : Keeps G W W') (hG : ∀ x, G x → ¬ (x = D ∨ x = D + 1)) : KeepsRec D W W' := fun k _ hk ho _ => h.at ho (fun hg => hG k hg hk)

def ownPostS {α σ : Type} (D : Nat) (Rd : σ → σ → Prop) (s0 : σ) (I : List α → σ → World → Prop) (Ix : Code → List α → σ → World → Prop) (xs : List α) (W : World) : Exit → Act → World → Prop
  | .normal, _, W' => KeepsRec D W W' ∧ ∃ s, Rd s0 s ∧ I xs s W'
  | .ret, _, W' => KeepsRec D W W' ∧ ∃ s, Rd s0 s ∧ Ix .ret xs s W'
  | .exit id, _, W' => KeepsRec D W W' ∧ ∃ s, Rd s0 s ∧ Ix (.exit id) xs s W'
  | .goto t, _, W' => KeepsRec D W W' ∧ ∃ s, Rd s0 s ∧ Ix (.goto t) xs s W'
  | .panic _, _, _ => False
  | .outgrown, _, _ => False

variable {F : Fence} {n : Nat} {P : Program}

theorem wpIn_rangeFunc_ownS {α σ : Type} {g : Operand} {ps : Array Tmp} {assign body : Code} {Q : Exit → Act → World → Prop} {a : Act} {w : World}
    (hro : F.round = none) (h1 : 1 ≤ n) {gf : Nat} {lb : Array Value} (hg : a.eval g = .func (.func gf) #[] lb) (hFg : F.fn gf) (eg : ∀ args w, (callFunc gf args).run P w = .ok (.enter gf args) w)
    {encs : α → Array Value} {St : σ → World → σ → World → Prop} {Rd : σ → σ → Prop} {At : List α → σ → World → Prop} {S Sp : List α → σ → Prop} {N : Nat} {Ok : Nat → α → σ → Prop} {s0 : σ} (hseq : SeqS F (n - 1) P gf lb encs St Rd At S Sp N Ok s0)
    (hps : ∀ x, (encs x).size = ps.size)
    (I : List α → σ → World → Prop) (Ix : Code → List α → σ → World → Prop)
    (hIAt : ∀ xs s A, I xs s A → At xs s A)
    (hISt : ∀ xs s A s' B, I xs s A → St s A s' B → I xs s' B ∧ KeepsRec w.heap.size A B)
    (hIput : ∀ xs s W l o o', I xs s W → (l = w.heap.size ∨ l = w.heap.size + 1) → W.heap[l]? = some o → o.isCells = false → I xs s (W.putObj l o'))
    (hIxput : ∀ c xs s W l o o', Ix c xs s W → (l = w.heap.size ∨ l = w.heap.size + 1) → W.heap[l]? = some o → o.isCells = false → Ix c xs s (W.putObj l o'))
    (h0 : ∀ o o', I [] s0 ((w.alloc o).alloc o')) (a₁ : α → Act)
    (hassign : ∀ (l : Nat) (x : α) (W : World) (K : Act → World → Prop), K (a₁ x) W →
      assign.wpIn (F.inRound l) (n - 1 - 1) P (Exit.then K (fun _ _ _ => False)) { tmps := (ps.zip (encs x)).foldl (fun t (p, v) => t.setIfInBounds p v) a.tmps, defers := [] } W)
    (hbody : ∀ (l : Nat) (pre : List α) (x : α) (s : σ) (W : World), I pre s W → pre.length < N → Ok pre.length x s → body.wpIn (F.inRound l) (n - 1 - 1) P (ownPostS w.heap.size Rd s I Ix (pre ++ [x]) W) (a₁ x) W)
    (hdone : ∀ (xs : List α) (s : σ) (W : World), S xs s → I xs s W → W.heap[w.heap.size]? = some (.deferred (some [])) → Q .normal { a with defers := { target := .collected w.heap.size, args := #[] } :: a.defers } W)
    (hstop : ∀ (c : Code) (pre : List α) (s : σ) (W : World), Sp pre s → Ix c pre s W → W.heap[w.heap.size]? = some (.deferred (some [])) → c.wpIn F n P Q { a with defers := { target := .collected w.heap.size, args := #[] } :: a.defers } W) :
    (Code.rangeFunc g ps assign body).wpIn F n P Q a w := by
  refine wpIn_rangeFunc ?_
  intro fn hfn
  rw [hro]
  obtain ⟨rec, hrec⟩ : ∃ rec : LoopState → Option Code → Loop, rec = fun st pe => { state := st, pending := pe, fn, tmps := a.tmps, params := ps, assign, body, defers := w.heap.size } := ⟨_, rfl⟩
  obtain ⟨W1, hW1⟩ : ∃ W1, (w.alloc (.deferred (some []))).alloc (.loop (rec .ready none)) = W1 := ⟨_, rfl⟩
  have hL1 : W1.heap[w.heap.size + 1]? = some (.loop (rec .ready none)) := by
    rw [← hW1]; have := World.alloc_heap_new (w.alloc (.deferred (some []))) (.loop (rec .ready none)); rwa [World.size_alloc] at this
  have hK1 : W1.heap[w.heap.size]? = some (.deferred (some [])) := by
    rw [← hW1]; exact (Below.heap_alloc _ _ _ (by simp)).trans (World.alloc_heap_new w _)
  have hI1 : I [] s0 W1 := by rw [← hW1]; exact h0 _ _
  refine ⟨w.heap.size + 1, [{ target := .collected w.heap.size, args := #[] }], W1, { target := .fn (.func gf) lb, args := #[.func (.yield (w.heap.size + 1)) #[] #[]] }, W1, gf,
    #[.func (.yield (w.heap.size + 1)) #[] #[]] ++ lb, W1, ?_, ?_, ?_, ?_, fun _ => h1, ?_⟩
  · rw [← hW1, hrec]; exact run_enterLoop_outer _ _ _ _ _
  · simp only [resolve, hg]
    simp [go_sem]
  · intro f' hf'; simp [Target.leads] at hf'; subst hf'; exact hFg
  · simp [invoke, go_sem, eg]
  · refine (hseq (w.heap.size + 1)
      (fun pre s W => I pre s W ∧ W.heap[w.heap.size + 1]? = some (.loop (rec .ready none)) ∧ W.heap[w.heap.size]? = some (.deferred (some [])))
      (fun pre s W => ∃ c, Ix c pre s W ∧ W.heap[w.heap.size + 1]? = some (.loop (rec .done (some c))) ∧ W.heap[w.heap.size]? = some (.deferred (some [])))
      W1
      (fun xs s A s' B hs hst => by
        obtain ⟨h1, h2⟩ := hISt xs s A s' B hs.1 hst
        exact ⟨h1, h2 _ _ (.inr rfl) hs.2.1 rfl, h2 _ _ (.inl rfl) hs.2.2 rfl⟩)
      (fun xs s A hs => hIAt xs s A hs.1)
      ?_ ⟨hI1, hL1, hK1⟩).mono ?_
    · rintro pre x s W ⟨hi, hl, hk⟩ hlen hok
      have hlt : w.heap.size + 1 < W.heap.size := (Array.getElem?_eq_some_iff.1 hl).1
      have hy := run_yield (P := P) (args := encs x) hl (by rw [hrec]; exact hps x)
      rw [hrec] at hy
      refine ⟨fn, _, assign, body, hy, roundIn_of_wpIn hfn (hassign _ x W _ ⟨_, run_beginRound hl (by rw [hrec]), ?_⟩)⟩
      have hl2 : (W.putObj (w.heap.size + 1) (.loop { rec .ready none with state := .busy })).heap[w.heap.size + 1]? = some (.loop { rec .ready none with state := .busy }) := World.putObj_heap_same hlt
      have hk2 : (W.putObj (w.heap.size + 1) (.loop { rec .ready none with state := .busy })).heap[w.heap.size]? = some (.deferred (some [])) := (World.putObj_heap_other (by omega)).trans hk
      refine wpIn_mono (hbody _ pre x s _ (hIput _ _ _ _ _ _ hi (.inr rfl) hl rfl) hlen hok) ?_
      have fin : ∀ (jump : Option Code) (W3 : World), KeepsRec w.heap.size (W.putObj (w.heap.size + 1) (.loop { rec .ready none with state := .busy })) W3 →
          (Instr.endRound (w.heap.size + 1) jump).run P W3 = .ok (.bool jump.isNone) (W3.putObj (w.heap.size + 1) (.loop (rec (if jump.isNone then .ready else .done) jump))) ∧
          W3.heap[w.heap.size + 1]? = some (.loop { rec .ready none with state := .busy }) ∧
          (W3.putObj (w.heap.size + 1) (.loop (rec (if jump.isNone then .ready else .done) jump))).heap[w.heap.size + 1]? = some (.loop (rec (if jump.isNone then .ready else .done) jump)) ∧
          (W3.putObj (w.heap.size + 1) (.loop (rec (if jump.isNone then .ready else .done) jump))).heap[w.heap.size]? = some (.deferred (some [])) := fun jump W3 hk3 => by
        have hl3 := hk3 _ _ (.inr rfl) hl2 rfl
        have := run_endRound (P := P) jump hl3
        rw [hrec] at this ⊢
        exact ⟨this, by rw [hrec] at hl3; exact hl3, World.putObj_heap_same (Array.getElem?_eq_some_iff.1 hl3).1, (World.putObj_heap_other (by omega)).trans (hk3 _ _ (.inl rfl) hk2 rfl)⟩
      rintro e a3 W3 hp
      cases e with
      | normal =>
        obtain ⟨hk3, s3, hrd, hi3⟩ := hp
        obtain ⟨hr, hl3, hl4, hk4⟩ := fin none W3 hk3
        exact ⟨_, _, hr, .inl ⟨rfl, s3, hrd, hIput _ _ _ _ _ _ hi3 (.inr rfl) hl3 rfl, hl4, hk4⟩⟩
      | ret =>
        obtain ⟨hk3, s3, hrd, hi3⟩ := hp
        obtain ⟨hr, hl3, hl4, hk4⟩ := fin (some .ret) W3 hk3
        exact ⟨_, _, hr, .inr ⟨rfl, s3, hrd, .ret, hIxput _ _ _ _ _ _ _ hi3 (.inr rfl) hl3 rfl, hl4, hk4⟩⟩
      | exit id =>
        obtain ⟨hk3, s3, hrd, hi3⟩ := hp
        obtain ⟨hr, hl3, hl4, hk4⟩ := fin (some (.exit id)) W3 hk3
        exact ⟨_, _, hr, .inr ⟨rfl, s3, hrd, .exit id, hIxput _ _ _ _ _ _ _ hi3 (.inr rfl) hl3 rfl, hl4, hk4⟩⟩
      | goto t =>
        obtain ⟨hk3, s3, hrd, hi3⟩ := hp
        obtain ⟨hr, hl3, hl4, hk4⟩ := fin (some (.goto t)) W3 hk3
        exact ⟨_, _, hr, .inr ⟨rfl, s3, hrd, .goto t, hIxput _ _ _ _ _ _ _ hi3 (.inr rfl) hl3 rfl, hl4, hk4⟩⟩
      | panic ch => exact hp.elim
      | outgrown => exact hp.elim
    · rintro e W2 ⟨⟨v, rfl⟩, (⟨xs, s, hS, hi, hl, hk⟩ | ⟨pre, s, hSp, c, hi, hl, hk⟩)⟩
      · exact ⟨none, _, by have := run_endLoop (P := P) hl (by rw [hrec]; simp); rw [hrec] at this; exact this, hdone xs s _ hS (hIput _ _ _ _ _ _ hi (.inr rfl) hl rfl) ((World.putObj_heap_other (by omega)).trans hk)⟩
      · exact ⟨some c, _, by have := run_endLoop (P := P) hl (by rw [hrec]; simp); rw [hrec] at this; exact this, hstop c pre s _ hSp (hIxput _ _ _ _ _ _ _ hi (.inr rfl) hl rfl) ((World.putObj_heap_other (by omega)).trans hk)⟩

end Go.Proofs.YtipelclohcdkcaaGreat
