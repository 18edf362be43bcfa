/- The contracts of package mixed: the index of a word, as it is asked. -/
import Derived.Test.YtlciacpffoekjaaWord
import Derived.Test.YtlciacpffoekjaaMixPure
namespace Go.Proofs.Ytlciacpffoekjaa
open Go.RowKit

theorem quiet_eq {P : Program} {f : FuncId} {args : Array Value} {w : World} {n : Nat} {v : Value}
    (h : Calls P f args (w.drewN n) fun e w' => e = .returned v ∧ w.drewN n = w') : Calls P f args (w.drewN n) fun e w'' => e = .returned v ∧ ∃ m, w'' = w.drewN m :=
  h.mono fun _ _ ⟨he, hm⟩ => ⟨he, n, hm.symm⟩

def mixCells (bo : Nat) (bi bp : Nat → Nat) : Array Value :=
  #[.pointer (some ⟨bo, 0, none⟩), .pointer (some ⟨bi 0, 0, none⟩), .pointer (some ⟨bp 0, 0, none⟩), .pointer (some ⟨bi 1, 0, none⟩), .pointer (some ⟨bp 1, 0, none⟩)]

/-- A Mixed of a word: its parts, asked at most q times; each part's blocks bear the part's label. -/
structure MixP (w : World) (b bo : Nat) (bi bp : Nat → Nat) (ks : List Nat) (q : Nat) (F : Nat → Prop) : Prop where
  blk : w.heap[b]? = some (.cells (mixCells bo bi bp) 126 (0, 0))
  parts : ∃ lab : Nat → Nat, lab b = 1 ∧ F b ∧ (∃ d a Fo, IdxAt w bo (openB ks) d a Fo ∧ ∀ x, Fo x → F x ∧ lab x = 2) ∧
    (∀ s, s < 2 → ∃ d a Fi, IdxAt w (bi s) (isB s ks) d a Fi ∧ a ≤ q ∧ ∀ x, Fi x → F x ∧ lab x = 3 + s) ∧
    (∀ s, s < 2 → ∃ d Fp, ParAt w (bp s) (ownB s ks) d q Fp ∧ ∀ x, Fp x → F x ∧ lab x = 5 + s)
  bal : MBal ks
  k4 : ∀ k ∈ ks, k < 4
  le : ks.length ≤ 100000000
  old : ∀ x, F x → x < w.heap.size

def MixQ (wh : World) (b bo : Nat) (bi bp : Nat → Nat) (ks : List Nat) (q : Nat) (F : Nat → Prop) (w' : World) : Prop :=
  MixP w' b bo bi bp ks q (grow F wh w') ∧ Keeps F wh w'

section
variable {w : World} {b bo : Nat} {bi bp : Nat → Nat} {ks : List Nat} {q : Nat} {F : Nat → Prop}

theorem MixP.mono (h : MixP w b bo bi bp ks q F) {G : Nat → Prop} (hG : ∀ x, F x → G x) (hold : ∀ x, G x → x < w.heap.size) : MixP w b bo bi bp ks q G := by
  obtain ⟨h1, ⟨lab, h2, h3, ⟨d, a, Fo, h4, h5⟩, h6, h7⟩, h8, h9, h10, _⟩ := h
  refine ⟨h1, ⟨lab, h2, hG b h3, ⟨d, a, Fo, h4, fun x hx => ⟨hG x (h5 x hx).1, (h5 x hx).2⟩⟩, fun s hs => ?_, fun s hs => ?_⟩, h8, h9, h10, hold⟩
  · obtain ⟨d, a, Fi, k1, k2, k3⟩ := h6 s hs
    exact ⟨d, a, Fi, k1, k2, fun x hx => ⟨hG x (k3 x hx).1, (k3 x hx).2⟩⟩
  · obtain ⟨d, Fp, k1, k3⟩ := h7 s hs
    exact ⟨d, Fp, k1, fun x hx => ⟨hG x (k3 x hx).1, (k3 x hx).2⟩⟩

theorem MixP.keeps (h : MixP w b bo bi bp ks q F) {w' : World} {G : Nat → Prop} (k : Keeps G w w') (hd : ∀ x, F x → ¬ G x) : MixP w' b bo bi bp ks q F := by
  obtain ⟨h1, ⟨lab, h2, h3, ⟨d, a, Fo, h4, h5⟩, h6, h7⟩, h8, h9, h10, h11⟩ := h
  refine ⟨k.at h1 (hd b h3), ⟨lab, h2, h3, ⟨d, a, Fo, h4.keeps k (fun x hx => hd x (h5 x hx).1), h5⟩, fun s hs => ?_, fun s hs => ?_⟩, h8, h9, h10, fun x hx => Nat.lt_of_lt_of_le (h11 x hx) k.size⟩
  · obtain ⟨d, a, Fi, k1, k2, k3⟩ := h6 s hs
    exact ⟨d, a, Fi, k1.keeps k (fun x hx => hd x (k3 x hx).1), k2, k3⟩
  · obtain ⟨d, Fp, k1, k3⟩ := h7 s hs
    exact ⟨d, Fp, k1.keeps k (fun x hx => hd x (k3 x hx).1), k3⟩

theorem MixP.more (h : MixP w b bo bi bp ks q F) {q' : Nat} (hq : q ≤ q') : MixP w b bo bi bp ks q' F := by
  obtain ⟨h1, ⟨lab, h2, h3, h4, h6, h7⟩, h8, h9, h10, h11⟩ := h
  refine ⟨h1, ⟨lab, h2, h3, h4, fun s hs => ?_, fun s hs => ?_⟩, h8, h9, h10, h11⟩
  · obtain ⟨d, a, Fi, k1, k2, k3⟩ := h6 s hs
    exact ⟨d, a, Fi, k1, by omega, k3⟩
  · obtain ⟨d, Fp, k1, k3⟩ := h7 s hs
    exact ⟨d, Fp, k1.more hq, k3⟩

theorem MixP.after (h : MixP w b bo bi bp ks q F) : MixQ w b bo bi bp ks q F w :=
  ⟨h.mono (fun _ hx => .inl hx) (grow_old h.old (Nat.le_refl _)), Keeps.refl _ _⟩

theorem MixQ.more {wh : World} (h : MixQ wh b bo bi bp ks q F w) {q' : Nat} (hq : q ≤ q') : MixQ wh b bo bi bp ks q' F w := ⟨h.1.more hq, h.2⟩

theorem MixQ.trans {wh w1 w2 : World} {q' : Nat} (hF : ∀ x, F x → x < wh.heap.size) (h : MixQ wh b bo bi bp ks q F w1) (k : MixQ w1 b bo bi bp ks q' (grow F wh w1) w2) : MixQ wh b bo bi bp ks q' F w2 := by
  obtain ⟨h1, h2⟩ := h
  obtain ⟨k1, k2⟩ := k
  refine ⟨k1.mono (grow_trans h2.size k2.size) (grow_old hF (Nat.le_trans h2.size k2.size)), h2.trans k2 ?_⟩
  rintro x hx (h | h)
  · exact h
  · omega

theorem MixQ.keeps {wh w1 w2 : World} {G : Nat → Prop} (h : MixQ wh b bo bi bp ks q F w1) (k : Keeps G w1 w2) (hG : ∀ x, x < w1.heap.size → ¬ G x) : MixQ wh b bo bi bp ks q F w2 := by
  obtain ⟨h1, h2⟩ := h
  refine ⟨(h1.keeps k (fun x hx => hG x (h1.old x hx))).mono ?_ ?_, h2.trans k (fun x hx hg => absurd hg (hG x (Nat.lt_of_lt_of_le hx h2.size)))⟩
  · rintro x (h | h)
    · exact .inl h
    · exact .inr ⟨h.1, Nat.lt_of_lt_of_le h.2 k.size⟩
  · rintro x (h | h)
    · exact Nat.lt_of_lt_of_le (h1.old x (.inl h)) k.size
    · exact h.2

/-- The index of a sort, and what remains of the whole when it has been asked. -/
theorem MixP.idx (h : MixP w b bo bi bp ks q F) (s : Nat) (hs : s < 2) : ∃ d a Fi, IdxAt w (bi s) (isB s ks) d a Fi ∧ a ≤ q ∧
    ∀ w' q' d' a', q ≤ q' → a' ≤ q' → IdxAfter w (bi s) (isB s ks) d' a' Fi w' → MixQ w b bo bi bp ks q' F w' := by
  obtain ⟨h1, ⟨lab, h2, h3, ⟨d0, a0, Fo, h4, h5⟩, h6, h7⟩, h8, h9, h10, h11⟩ := h
  obtain ⟨d, a, Fi, k1, k2, k3⟩ := h6 s hs
  refine ⟨d, a, Fi, k1, k2, fun w' q' d' a' hq ha hA => ?_⟩
  obtain ⟨hI, hk⟩ := hA
  have hl : ∀ x, x < w.heap.size → (if x < w.heap.size then lab x else 3 + s) = lab x := fun x hx => if_pos hx
  have hb := lt_of_block h1
  refine ⟨⟨hk.at h1 (fun e => by have := (k3 b e).2; omega), ⟨fun x => if x < w.heap.size then lab x else 3 + s, (hl b hb).trans h2, .inl h3, ⟨d0, a0, Fo, h4.keeps hk (fun x hx e => by have := (k3 x e).2; have := (h5 x hx).2; omega), fun x hx => ⟨.inl (h5 x hx).1, (hl x (h4.old x hx)).trans (h5 x hx).2⟩⟩, fun s' hs' => ?_, fun s' hs' => ?_⟩, h8, h9, h10, grow_old h11 hk.size⟩, hk.mono (fun x _ hx => (k3 x hx).1)⟩
  · by_cases hss : s' = s
    · subst hss
      refine ⟨d', a', grow Fi w w', hI, ha, ?_⟩
      rintro x (hx | hx)
      · exact ⟨.inl (k3 x hx).1, (hl x (k1.old x hx)).trans (k3 x hx).2⟩
      · exact ⟨.inr hx, if_neg (by omega)⟩
    · obtain ⟨d1, a1, F1, m1, m2, m3⟩ := h6 s' hs'
      exact ⟨d1, a1, F1, m1.keeps hk (fun x hx e => by have := (k3 x e).2; have := (m3 x hx).2; omega), by omega, fun x hx => ⟨.inl (m3 x hx).1, (hl x (m1.old x hx)).trans (m3 x hx).2⟩⟩
  · obtain ⟨d1, F1, m1, m3⟩ := h7 s' hs'
    exact ⟨d1, F1, (m1.keeps hk (fun x hx e => by have := (k3 x e).2; have := (m3 x hx).2; omega)).more hq, fun x hx => ⟨.inl (m3 x hx).1, (hl x (m1.old x hx)).trans (m3 x hx).2⟩⟩

/-- The parentheses of a sort, and what remains of the whole when they have been asked. -/
theorem MixP.par (h : MixP w b bo bi bp ks q F) (s : Nat) (hs : s < 2) : ∃ d Fp, ParAt w (bp s) (ownB s ks) d q Fp ∧
    ∀ w' q' d', q ≤ q' → ParAfter w (bp s) (ownB s ks) d' q' Fp w' → MixQ w b bo bi bp ks q' F w' := by
  obtain ⟨h1, ⟨lab, h2, h3, ⟨d0, a0, Fo, h4, h5⟩, h6, h7⟩, h8, h9, h10, h11⟩ := h
  obtain ⟨d, Fp, k1, k3⟩ := h7 s hs
  refine ⟨d, Fp, k1, fun w' q' d' hq hA => ?_⟩
  obtain ⟨hI, hk⟩ := hA
  have hl : ∀ x, x < w.heap.size → (if x < w.heap.size then lab x else 5 + s) = lab x := fun x hx => if_pos hx
  have hb := lt_of_block h1
  refine ⟨⟨hk.at h1 (fun e => by have := (k3 b e).2; omega), ⟨fun x => if x < w.heap.size then lab x else 5 + s, (hl b hb).trans h2, .inl h3, ⟨d0, a0, Fo, h4.keeps hk (fun x hx e => by have := (k3 x e).2; have := (h5 x hx).2; omega), fun x hx => ⟨.inl (h5 x hx).1, (hl x (h4.old x hx)).trans (h5 x hx).2⟩⟩, fun s' hs' => ?_, fun s' hs' => ?_⟩, h8, h9, h10, grow_old h11 hk.size⟩, hk.mono (fun x _ hx => (k3 x hx).1)⟩
  · obtain ⟨d1, a1, F1, m1, m2, m3⟩ := h6 s' hs'
    exact ⟨d1, a1, F1, m1.keeps hk (fun x hx e => by have := (k3 x e).2; have := (m3 x hx).2; omega), by omega, fun x hx => ⟨.inl (m3 x hx).1, (hl x (m1.old x hx)).trans (m3 x hx).2⟩⟩
  · by_cases hss : s' = s
    · subst hss
      refine ⟨d', grow Fp w w', hI, ?_⟩
      rintro x (hx | hx)
      · exact ⟨.inl (k3 x hx).1, (hl x (k1.old x hx)).trans (k3 x hx).2⟩
      · exact ⟨.inr hx, if_neg (by omega)⟩
    · obtain ⟨d1, F1, m1, m3⟩ := h7 s' hs'
      exact ⟨d1, F1, (m1.keeps hk (fun x hx e => by have := (k3 x e).2; have := (m3 x hx).2; omega)).more hq, fun x hx => ⟨.inl (m3 x hx).1, (hl x (m1.old x hx)).trans (m3 x hx).2⟩⟩

theorem MixP.opn (h : MixP w b bo bi bp ks q F) : ∃ d a Fo, IdxAt w bo (openB ks) d a Fo := by
  obtain ⟨h1, ⟨lab, h2, h3, ⟨d0, a0, Fo, h4, h5⟩, h6, h7⟩, h8, h9, h10, h11⟩ := h
  exact ⟨d0, a0, Fo, h4⟩

/-- The cells of the pair of a sort. -/
theorem MixP.cells (h : MixP w b bo bi bp ks q F) (s : Nat) (hs : s < 2) : w.cell? ⟨b, 1 + s * 2, none⟩ = some (.pointer (some ⟨bi s, 0, none⟩)) ∧ w.cell? ⟨b, 1 + s * 2 + 1, none⟩ = some (.pointer (some ⟨bp s, 0, none⟩)) := by
  rw [World.cell_of_heap h.blk, World.cell_of_heap h.blk]
  match s, hs with
  | 0, _ => exact ⟨rfl, rfl⟩
  | 1, _ => exact ⟨rfl, rfl⟩

theorem mixLen_any (h : MixP w b bo bi bp ks q F) :
    Calls Try.prog 59 #[.pointer (some ⟨b, 0, none⟩)] w fun e w' => e = .returned (.int .i64 ks.length) ∧ w = w' := by
  obtain ⟨d, a, Fo, hI⟩ := h.opn
  have c0 : w.cell? ⟨b, 0, none⟩ = some (.pointer (some ⟨bo, 0, none⟩)) := World.cell_of_heap h.blk 0
  have hL := idxLen_any bo _ d a Fo w hI
  rw [openB_length] at hL
  clear h hI
  go_enter Try.func59, Try.ntmps59
  go_wp2_with (go_at_call 25; refine hL.mono ?_; rintro e w' ⟨rfl, rfl⟩)
  go_ret
  exact ⟨rfl, rfl⟩

theorem mixLen_nil (w : World) :
    Calls Try.prog 59 #[.pointer none] w fun e w' => e = .returned (.int .i64 0) ∧ w = w' := by
  go_enter Try.func59, Try.ntmps59
  go_wp2
  go_ret
  exact ⟨rfl, rfl⟩

set_option maxRecDepth 100000 in
set_option maxHeartbeats 1000000 in
theorem mixAt_in (h : MixP w b bo bi bp ks q F) (i k : Nat) (hk : ks[i]? = some k) :
    Calls Try.prog 57 #[.pointer (some ⟨b, 0, none⟩), .int .i64 i] w fun e w' => e = .returned (.int .i64 k) ∧ ∃ n, w' = w.drewN n := by
  have hi := lt_of_get hk
  have hk4 := h.k4 k (List.mem_of_getElem? hk)
  have hle := h.le
  have hL := mixLen_any h
  obtain ⟨d, a, Fo, hI⟩ := h.opn
  obtain ⟨d1, a1, F1, hI1, _, _⟩ := h.idx 1 (by omega)
  have c0 : w.cell? ⟨b, 0, none⟩ = some (.pointer (some ⟨bo, 0, none⟩)) := World.cell_of_heap h.blk 0
  have c3 : w.cell? ⟨b, 3, none⟩ = some (.pointer (some ⟨bi 1, 0, none⟩)) := World.cell_of_heap h.blk 3
  have hA := fun n => idxAt_any bo _ d a Fo i (w.drewN n) (hI.keeps ((Keeps.refl (fun _ => False) w).drewN n) (fun _ _ h => h))
  have hB := fun n => idxAt_any (bi 1) _ d1 a1 F1 i (w.drewN n) (hI1.keeps ((Keeps.refl (fun _ => False) w).drewN n) (fun _ _ h => h))
  rw [atZ_in _ i (by rw [openB_length]; exact hi), openB_get hk] at hA
  rw [atZ_in _ i (by rw [isB_length]; exact hi), isB_get 1 hk] at hB
  obtain ⟨y, hy⟩ : ∃ y : Nat, y = (k % 2 == 0).toNat := ⟨_, rfl⟩
  obtain ⟨z, hz⟩ : ∃ z : Nat, z = (k / 2 == 1).toNat := ⟨_, rfl⟩
  rw [← hy] at hA
  rw [← hz] at hB
  have hyz : (2 * (z : Int) + 1 - (y : Int)) = (k : Int) ∧ y ≤ 1 ∧ z ≤ 1 := by
    match k, hk4 with
    | 0, _ => simp at hy hz; omega
    | 1, _ => simp at hy hz; omega
    | 2, _ => simp at hy hz; omega
    | 3, _ => simp at hy hz; omega
  obtain ⟨hyk, hy1, hz1⟩ := hyz
  clear hy hz hI hI1 h hk
  have e1 : IntKind.i64.wrap (2 * (z : Int)) = 2 * (z : Int) := IntWalk.i64_in _ (by omega)
  have e2 : IntKind.i64.wrap (2 * (z : Int) + 1) = 2 * (z : Int) + 1 := IntWalk.i64_in _ (by omega)
  have e3 : IntKind.i64.wrap (2 * (z : Int) + 1 - (y : Int)) = 2 * (z : Int) + 1 - (y : Int) := IntWalk.i64_in _ (by omega)
  go_enter Try.func57, Try.ntmps57
  go_wp2_with (go_at_call 59; refine hL.mono ?_; rintro e w' ⟨rfl, rfl⟩)
  go_quiet ((go_at_call 28; first | (with_reducible exact quiet_eq (hA _)) | (with_reducible exact quiet_eq (hB _))))
  go_wp2
  go_ret
  exact ⟨rfl, _, rfl⟩

theorem mixAt_out (h : MixP w b bo bi bp ks q F) (i : Int) (hi : ¬ (0 ≤ i ∧ i < ks.length)) :
    Calls Try.prog 57 #[.pointer (some ⟨b, 0, none⟩), .int .i64 i] w fun e w' => e = .returned (.int .i64 (-1)) ∧ w = w' := by
  have hL := mixLen_any h
  clear h
  have hc : i < 0 ∨ (0 ≤ i ∧ (ks.length : Int) ≤ i) := by omega
  clear hi
  rcases hc with h1 | ⟨h1, h2⟩
  all_goals
    go_enter Try.func57, Try.ntmps57
    go_wp2_with (go_at_call 59; refine hL.mono ?_; rintro e w' ⟨rfl, rfl⟩)
    go_ret
    exact ⟨rfl, rfl⟩

theorem mixAt_nil (i : Int) (w : World) :
    Calls Try.prog 57 #[.pointer none, .int .i64 i] w fun e w' => e = .returned (.int .i64 (-1)) ∧ w = w' := by
  have hc : i < 0 ∨ 0 ≤ i := by omega
  rcases hc with h1 | h1
  all_goals
    go_enter Try.func57, Try.ntmps57
    go_wp2_with (go_at_call 59; refine (mixLen_nil _).mono ?_; rintro e w' ⟨rfl, rfl⟩)
    go_ret
    exact ⟨rfl, rfl⟩

theorem mixHas_in (h : MixP w b bo bi bp ks q F) (i : Nat) (hi : i < ks.length) :
    Calls Try.prog 97 #[.pointer (some ⟨b, 0, none⟩), .int .i64 i] w fun e w' => e = .returned (.int .i64 0) ∧ w = w' := by
  have hL := mixLen_any h
  clear h
  go_enter Try.func97, Try.ntmps97
  go_wp2_with (go_at_call 59; refine hL.mono ?_; rintro e w' ⟨rfl, rfl⟩)
  go_ret
  exact ⟨rfl, rfl⟩

theorem mixHas_out (h : MixP w b bo bi bp ks q F) (i : Int) (hi : ¬ (0 ≤ i ∧ i < ks.length)) :
    Calls Try.prog 97 #[.pointer (some ⟨b, 0, none⟩), .int .i64 i] w fun e w' => e = .returned (.int .i64 1) ∧ w = w' := by
  have hL := mixLen_any h
  clear h
  have hc : i < 0 ∨ (0 ≤ i ∧ (ks.length : Int) ≤ i) := by omega
  clear hi
  rcases hc with h1 | ⟨h1, h2⟩
  all_goals
    go_enter Try.func97, Try.ntmps97
    go_wp2_with (go_at_call 59; refine hL.mono ?_; rintro e w' ⟨rfl, rfl⟩)
    go_ret
    exact ⟨rfl, rfl⟩

theorem mixHas_nil (i : Int) (w : World) :
    Calls Try.prog 97 #[.pointer none, .int .i64 i] w fun e w' => e = .returned (.int .i64 2) ∧ w = w' := by
  go_enter Try.func97, Try.ntmps97
  go_wp2
  go_ret
  exact ⟨rfl, rfl⟩

end
end Go.Proofs.Ytlciacpffoekjaa
