/- look.Adjacent: what its loop wants. -/
import Derived.Stop.RegionWithIn
import Derived.Test.YtipelclohcdkcaaGreatPsLook11
import Derived.Test.YtipelclohcdkcaaGreatPsLookN
namespace Go.Proofs.YtipelclohcdkcaaGreat
open Go.RowKit
attribute [local go_sem] Oper.semAt_some

theorem sl_lit2 (w : World) (u v : Int) : Sl .i64 (w.alloc (.cells #[.int .i64 u, .int .i64 v] 3)) (.slice (some ⟨w.heap.size, 0, none⟩) 2 2) [u, v] := by
  refine ⟨_, _, rfl, by simp, by decide, by simp, fun j z hj => ⟨w.heap.size, 0, rfl, ?_⟩⟩
  match j, hj with
  | 0, hj =>
    obtain rfl : u = z := by simpa using hj
    exact World.cell_of_heap (heap_alloc_new w (.cells #[.int .i64 u, .int .i64 v] 3)) 0
  | 1, hj =>
    obtain rfl : v = z := by simpa using hj
    exact World.cell_of_heap (heap_alloc_new w (.cells #[.int .i64 u, .int .i64 v] 3)) 1
  | j + 2, hj => simp at hj

/-- The vertex of a place, by its owner. -/
theorem Wd.vxO_vx {ks : List Nat} (h : Wd ks) {i : Nat} (hi : i < ks.length) {r : Int} (hr : OwnerOf ks i r) : vxO ks r = vx ks i := by
  rcases id hr with ⟨h0, rfl⟩ | ⟨h0, o, n, h1, h2, rfl⟩
  · rw [ex_DD (by omega)] at h0
    rw [h.vx_none (by omega) h0]; rfl
  · rw [h.vx_own (by omega) (hr.own (by omega))]
    unfold vxO vo
    rw [if_neg (by omega)]
    simp

theorem lookVertexV_in {wh wr : World} {bl b bo : Nat} {bi bp : Nat → Nat} {ks : List Nat} {q : Nat} {F : Nat → Prop} {n : Int} (hold : ∀ x, F x → x < wh.heap.size) (h : MixQ wh b bo bi bp ks q F wr) (hb : LkB wh bl b n) (hbF : ¬ F bl) (hw : Wd ks) (i : Nat) (hq : q ≤ 9000000) (hi : i < ks.length) :
    Calls Tryz.prog 123 #[.pointer (some ⟨bl, 0, none⟩), .int .i64 i] wr fun e w' => e = .returned (.int .i64 (vx ks i : Nat)) ∧ MixQ wh b bo bi bp ks (q + 9) F w' := by
  obtain ⟨r, hr⟩ := hw.bal.owner (i := i) (by omega)
  have := lookVertex_in hold h hb hbF i r hq hi hr
  rwa [hw.vxO_vx hi hr] at this

/-- A call in a round. -/
theorem callsIn_round {n : Nat} {P : Program} {f : FuncId} {args : Array Value} {w : World} {R : Ending → World → Prop} (l : Nat) (h : Calls P f args w R) : CallsIn (Fence.wide.inRound l) n P f args w R :=
  ⟨trivial, fun cs _ => let ⟨e, w', fr, r, s, x⟩ := h cs; ⟨e, w', fr, r, comesIn_wide.2 s, x⟩⟩

/-- The blocks of the caller of a loop over around that asks for a vertex. -/
def adjO (B : Nat) (bl v : Nat) (t : Bool) : List (Nat × Obj) :=
  [(B, boxL bl), (B + 1, boxI v), (B + 1 + 1, .cells #[.bool t] 4), (B + 1 + 1 + 1, .cells #[.int .i64 0] 26)]

/-- The body has asked the index. -/
theorem LkI.asked {w : World} {F : Nat → Prop} {D bl b bo : Nat} {bi bp : Nat → Nat} {ks : List Nat} {n : Int} {B1 B2 v Q0 cb : Nat} {o : List (Nat × Obj)} {pre : List Nat} {s : LkG} {W : World} (h : LkI w F D bl b bo bi bp ks n B1 B2 v Q0 cb (fun _ => o) pre s W) {W' : World} (hm : MixQ W b bo bi bp ks (s.2.1 + cb) s.2.2 W') (x : Nat) :
    LkI w F D bl b bo bi bp ks n B1 B2 v Q0 cb (fun _ => o) (pre ++ [x]) (s.1, s.2.1 + cb, grow s.2.2 W W') W' ∧ KeepsRec D W W' := by
  obtain ⟨⟨a1, a2, a3, a4, a5, a6, a7, a8⟩, h2, h3, h4, h5, h6, h7⟩ := h
  obtain ⟨k0, q0, F0⟩ := s
  dsimp only at *
  have hg : ∀ x, x < W.heap.size → grow F0 W W' x → F0 x := fun x hx hg => by
    rcases hg with hg | hg
    · exact hg
    · omega
  have hblt := lt_of_block a1
  refine ⟨⟨⟨a1.keeps hm.2 a3, hm.1, fun hx => a3 (hg _ hblt hx), hm.2.at a4 a6, hm.2.at a5 a7, fun hx => a6 (hg _ (by omega) hx), fun hx => a7 (hg _ (by omega) hx), ?_⟩, fun p hp => ⟨hm.2.at (h2 p hp).1 (h2 p hp).2.1, fun hx => (h2 p hp).2.1 (hg _ (by have := (h2 p hp).2.2; omega) hx), (h2 p hp).2.2⟩, fun x hx => ?_, Nat.lt_of_lt_of_le h4 hm.2.size, h5, h6.trans hm.2 (fun x hx hf => ?_), fun x hx => ?_⟩, KeepsRec.of hm.2 (fun x hx hd => by have := h3 x hx; omega)⟩
  · dsimp only
    rw [List.length_append, Nat.mul_add]
    simp
    omega
  · rcases hx with hx | hx
    · exact h3 x hx
    · right; omega
  · rcases h7 x hf with h | h
    · exact .inl h
    · omega
  · rcases hx with hx | hx
    · exact h7 x hx
    · right; have := h6.size; omega

def adjW (w : World) (bl u v : Nat) : World :=
  ((((w.alloc (boxL bl)).alloc (boxI v)).alloc (.cells #[.bool false] 4)).alloc (.cells #[.int .i64 0] 26)).alloc (.cells #[.int .i64 u, .int .i64 v] 3)

theorem adjW_size (w : World) (bl u v : Nat) : (adjW w bl u v).heap.size = w.heap.size + 1 + 1 + 1 + 1 + 1 := by simp [adjW]

theorem adjW_keeps (w : World) (bl u v : Nat) : Keeps (fun _ => False) w (adjW w bl u v) :=
  (((((Keeps.refl (fun _ => False) w).alloc _).alloc _).alloc _).alloc _).alloc _

theorem adjW_own (w : World) (bl u v : Nat) : ∀ p ∈ adjO w.heap.size bl v false, (adjW w bl u v).heap[p.1]? = some p.2 := by
  intro p hp
  have h1 : ((w.alloc (boxL bl))).heap.size = w.heap.size + 1 := by simp
  have h2 : ((w.alloc (boxL bl)).alloc (boxI v)).heap.size = w.heap.size + 1 + 1 := by simp
  have h3 : (((w.alloc (boxL bl)).alloc (boxI v)).alloc (.cells #[.bool false] 4)).heap.size = w.heap.size + 1 + 1 + 1 := by simp
  simp only [adjO, List.mem_cons, List.not_mem_nil, or_false] at hp
  rcases hp with rfl | rfl | rfl | rfl
  · exact (((((Keeps.refl (fun _ => False) (w.alloc (boxL bl))).alloc (boxI v)).alloc (.cells #[.bool false] 4)).alloc (.cells #[.int .i64 0] 26)).alloc (.cells #[.int .i64 u, .int .i64 v] 3)).at (heap_alloc_new w _) (fun h => h)
  · have h0 := heap_alloc_new (w.alloc (boxL bl)) (boxI v)
    rw [h1] at h0
    exact ((((Keeps.refl (fun _ => False) ((w.alloc (boxL bl)).alloc (boxI v))).alloc (.cells #[.bool false] 4)).alloc (.cells #[.int .i64 0] 26)).alloc (.cells #[.int .i64 u, .int .i64 v] 3)).at h0 (fun h => h)
  · have h0 := heap_alloc_new ((w.alloc (boxL bl)).alloc (boxI v)) (.cells #[.bool false] 4)
    rw [h2] at h0
    exact (((Keeps.refl (fun _ => False) (((w.alloc (boxL bl)).alloc (boxI v)).alloc (.cells #[.bool false] 4))).alloc (.cells #[.int .i64 0] 26)).alloc (.cells #[.int .i64 u, .int .i64 v] 3)).at h0 (fun h => h)
  · have h0 := heap_alloc_new (((w.alloc (boxL bl)).alloc (boxI v)).alloc (.cells #[.bool false] 4)) (.cells #[.int .i64 0] 26)
    rw [h3] at h0
    exact ((Keeps.refl (fun _ => False) ((((w.alloc (boxL bl)).alloc (boxI v)).alloc (.cells #[.bool false] 4)).alloc (.cells #[.int .i64 0] 26))).alloc (.cells #[.int .i64 u, .int .i64 v] 3)).at h0 (fun h => h)

/-- The caller's own blocks have been written. -/
theorem LkI.reown {w : World} {F : Nat → Prop} {D bl b bo : Nat} {bi bp : Nat → Nat} {ks : List Nat} {n : Int} {B1 B2 v Q0 cb : Nat} {o o' : List (Nat × Obj)} {pre : List Nat} {s : LkG} {W W' : World} (h : LkI w F D bl b bo bi bp ks n B1 B2 v Q0 cb (fun _ => o) pre s W) {G : Nat → Prop} (k : Keeps G W W')
    (hG : ∀ x, G x → (∃ p ∈ o, p.1 = x) ∧ x ≠ B1 ∧ x ≠ B2 ∧ x ≠ bl ∧ w.heap.size ≤ x) (ho : ∀ p ∈ o', W'.heap[p.1]? = some p.2 ∧ ∃ p0 ∈ o, p0.1 = p.1) :
    LkI w F D bl b bo bi bp ks n B1 B2 v Q0 cb (fun _ => o') pre s W' := by
  obtain ⟨⟨a1, a2, a3, a4, a5, a6, a7, a8⟩, h2, h3, h4, h5, h6, h7⟩ := h
  refine ⟨⟨a1.keeps k (fun e => (hG _ e).2.2.2.1 rfl), a2.keeps k (fun x hx hg => ?_), a3, k.at a4 (fun e => (hG _ e).2.1 rfl), k.at a5 (fun e => (hG _ e).2.2.1 rfl), a6, a7, a8⟩, fun p hp => ?_, h3, Nat.lt_of_lt_of_le h4 k.size, h5, h6.trans k (fun x hx hg => ?_), h7⟩
  · obtain ⟨p, hp, hpx⟩ := (hG x hg).1
    exact (h2 p hp).2.1 (hpx ▸ hx)
  · obtain ⟨g1, p0, hp0, he⟩ := ho p hp
    exact ⟨g1, he ▸ (h2 p0 hp0).2⟩
  · have := (hG x hg).2.2.2.2; omega

/-- The blocks ahead of the loop lie behind. -/
theorem lookAdj_blocks {w w2 : World} {bl u v : Nat} {G : Nat → Prop} (hk : Keeps G (adjW w bl u v) w2) (hG : ∀ x, G x → x < w.heap.size) : ∀ p ∈ adjO w.heap.size bl v false, w2.heap[p.1]? = some p.2 := fun p hp => by
  refine hk.at (adjW_own w bl u v p hp) (fun hx => ?_)
  have hp1 : w.heap.size ≤ p.1 := by
    simp only [adjO, List.mem_cons, List.not_mem_nil, or_false] at hp
    rcases hp with rfl | rfl | rfl | rfl <;> (dsimp only; omega)
  have := hG _ hx
  omega

end Go.Proofs.YtipelclohcdkcaaGreat
