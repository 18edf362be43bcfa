/- look: what there isn't; First. -/
import Derived.Test.YtipelclohcdkcaaGreatLook14
namespace Go.Proofs.YtipelclohcdkcaaGreat
open Go.RowKit

/-- A question that was asked behind blocks of the call's own, some of which are written last. -/
theorem LookQ.freshS {w W w2 w3 : World} {bl b bo : Nat} {bi bp : Nat → Nat} {ks : List Nat} {q q' : Nat} {F : Nat → Prop} {n m : Nat} (h : LookS w bl b bo bi bp ks q F n) (k : Keeps (fun _ => False) w W) (hQ : LookQ W bl b bo bi bp ks q' F m w2) {G : Nat → Prop} (k3 : Keeps G w2 w3) (hG : ∀ x, G x → w.heap.size ≤ x ∧ x < W.heap.size) : LookQ w bl b bo bi bp ks q' F m w3 := by
  have hb := h.lt
  have hsW := k.size
  have hs2 := hQ.2.size
  have hs3 := k3.size
  have hold := h.mix.old
  have hS := hQ.1.keeps k3 (fun x hx hg => by
    have := hG x hg
    rcases hx with hx | hx
    · rcases hx with hx | hx
      · have := hold x hx; omega
      · omega
    · omega)
  refine ⟨⟨hS.own, hS.mix.mono (fun x hx => ?_) (grow_old hold (by omega)), fun hx => ?_⟩, ((k.mono (fun _ _ h => h.elim)).trans hQ.2 (fun x hx hg => hg)).trans k3 (fun x hx hg => by have := hG x hg; omega)⟩
  · rcases hx with hx | hx
    · exact .inl hx
    · exact .inr ⟨by omega, by omega⟩
  · rcases hx with hx | hx
    · exact h.sep hx
    · omega

theorem LookQ.fresh {w W w2 : World} {bl b bo : Nat} {bi bp : Nat → Nat} {ks : List Nat} {q q' : Nat} {F : Nat → Prop} {n m : Nat} (h : LookS w bl b bo bi bp ks q F n) (k : Keeps (fun _ => False) w W) (hQ : LookQ W bl b bo bi bp ks q' F m w2) : LookQ w bl b bo bi bp ks q' F m w2 :=
  hQ.freshS h k (Keeps.refl (fun _ => False) w2) (fun _ h => h.elim)

section
variable {w : World} {bl b bo : Nat} {bi bp : Nat → Nat} {ks : List Nat} {q : Nat} {F : Nat → Prop} {n : Nat}

set_option maxRecDepth 100000 in
set_option maxHeartbeats 4000000 in
theorem lookAdjacent_out (h : LookS w bl b bo bi bp ks q F n) (hn : n ≤ 1000000) (hq : q ≤ 5000000) (u v : Int) (huv : ¬ ((0 ≤ u ∧ u < nvK ks) ∧ (0 ≤ v ∧ v < nvK ks))) :
    Calls Tryz.prog 44 #[.pointer (some ⟨bl, 0, none⟩), .int .i64 u, .int .i64 v] w fun e w' => e = .returned (.tuple #[.bool false, .int .i64 1]) ∧ LookQ w bl b bo bi bp ks (q + 4) F (n + 1) w' := by
  obtain ⟨W, hW⟩ : ∃ W, W = ((((w.alloc (boxL bl)).alloc (boxI v)).alloc (.cells #[.bool false] 4)).alloc (.cells #[.int .i64 0] 26)).alloc (.cells #[.int .i64 u, .int .i64 v] 3) := ⟨_, rfl⟩
  have hk : Keeps (fun _ => False) w W := by rw [hW]; exact (((((Keeps.refl (fun _ => False) w).alloc _).alloc _).alloc _).alloc _).alloc _
  have hsz : W.heap.size = w.heap.size + 1 + 1 + 1 + 1 + 1 := by rw [hW]; simp
  have h2 : W.heap[w.heap.size + 1 + 1]? = some (.cells #[.bool false] 4 (0, 0)) := by
    rw [hW]
    have h0 := heap_alloc_new ((w.alloc (boxL bl)).alloc (boxI v)) (.cells #[.bool false] 4)
    rw [show ((w.alloc (boxL bl)).alloc (boxI v)).heap.size = w.heap.size + 1 + 1 by simp] at h0
    exact (((Keeps.refl (fun _ => False) _).alloc _).alloc _).at h0 (fun h => h)
  have h3 : W.heap[w.heap.size + 1 + 1 + 1]? = some (.cells #[.int .i64 0] 26 (0, 0)) := by
    rw [hW]
    have h0 := heap_alloc_new (((w.alloc (boxL bl)).alloc (boxI v)).alloc (.cells #[.bool false] 4)) (.cells #[.int .i64 0] 26)
    rw [show (((w.alloc (boxL bl)).alloc (boxI v)).alloc (.cells #[.bool false] 4)).heap.size = w.heap.size + 1 + 1 + 1 by simp] at h0
    exact ((Keeps.refl (fun _ => False) _).alloc _).at h0 (fun h => h)
  have hsl : Sl .i64 W (.slice (some ⟨w.heap.size + 1 + 1 + 1 + 1, 0, none⟩) 2 2) [u, v] := by
    have h0 := sl_lit2 ((((w.alloc (boxL bl)).alloc (boxI v)).alloc (.cells #[.bool false] 4)).alloc (.cells #[.int .i64 0] 26)) u v
    rw [hW]
    simpa using h0
  have hN := lookNumber_any (h.keeps hk (fun _ _ h => h)) hn (by omega) _ [u, v] hsl (fun k e => by simp only [Value.ownBlock, Option.some.injEq] at e; subst e; rintro (hx | hx); exact absurd (h.mix.old _ hx) (by omega); have := h.lt; omega) (by simp)
  have HH := Lib.hid (And.intro h (And.intro hk hsz))
  have HW := Lib.hid hW
  have hblw := h.lt
  have hFw := h.mix.old
  clear h hk hsl hsz hW
  go_enter Tryz.func44, Tryz.ntmps44
  go_wp2_with fail
  have hWW := HW.out
  unfold boxL boxI at hWW
  rw [← hWW]
  refine hN.mono ?_
  rintro e w2 ⟨⟨c, rfl, hc⟩, hQ⟩
  rcases hc with ⟨hok, rfl⟩ | ⟨hno, rfl⟩
  · exact absurd ⟨hok u (by simp), hok v (by simp)⟩ huv
  · have g2 := hQ.2.at h2 (fun hx => by rcases hx with hx | hx; have := hFw _ hx; omega; omega)
    have g3 := hQ.2.at h3 (fun hx => by rcases hx with hx | hx; have := hFw _ hx; omega; omega)
    obtain ⟨r1, r2, r3, _⟩ := res2 g2 g3 (.bool false) (.int .i64 1)
    have c2 := World.cell_of_heap g2 0
    have c3 := World.cell_of_heap g3 0
    have f2 := World.free_of_heap g2 0
    have f3 := World.free_of_heap g3 0
    have HF := Lib.hid (hQ.freshS HH.out.1 HH.out.2.1 r3 (fun x hx => by have := HH.out.2.2; omega))
    clear hN hQ hno h2 h3 g2 g3 r3 hWW
    go_wp2
    refine bodyPost_ret (v := .tuple #[.bool false, .int .i64 1]) ?_ rfl ⟨rfl, HF.out⟩
    simp [results, Tryz.results44, go_sem, r1, r2]

set_option maxRecDepth 100000 in
set_option maxHeartbeats 4000000 in
theorem lookNth_out (h : LookS w bl b bo bi bp ks q F n) (hn : n ≤ 1000000) (hq : q ≤ 5000000) (v k : Int) (hvk : ¬ (0 ≤ v ∧ v < nvK ks) ∨ k < 0) :
    Calls Tryz.prog 40 #[.pointer (some ⟨bl, 0, none⟩), .int .i64 v, .int .i64 k] w fun e w' => e = .returned (.tuple #[.int .i64 0, .int .i64 1]) ∧ LookQ w bl b bo bi bp ks (q + 2) F (n + 1) w' := by
  obtain ⟨W, hW⟩ : ∃ W, W = ((((w.alloc (boxL bl)).alloc (boxI k)).alloc (boxI 0)).alloc (.cells #[.int .i64 0] 26)).alloc (.cells #[.int .i64 v] 3) := ⟨_, rfl⟩
  have hk : Keeps (fun _ => False) w W := by rw [hW]; exact (((((Keeps.refl (fun _ => False) w).alloc _).alloc _).alloc _).alloc _).alloc _
  have hsz : W.heap.size = w.heap.size + 1 + 1 + 1 + 1 + 1 := by rw [hW]; simp
  have h1 : W.heap[w.heap.size + 1]? = some (.cells #[.int .i64 k] 3 (0, 0)) := by
    rw [hW]
    have h0 := heap_alloc_new (w.alloc (boxL bl)) (boxI k)
    rw [show (w.alloc (boxL bl)).heap.size = w.heap.size + 1 by simp] at h0
    exact ((((Keeps.refl (fun _ => False) _).alloc _).alloc _).alloc _).at h0 (fun h => h)
  have h2 : W.heap[w.heap.size + 1 + 1]? = some (.cells #[.int .i64 0] 3 (0, 0)) := by
    rw [hW]
    have h0 := heap_alloc_new ((w.alloc (boxL bl)).alloc (boxI k)) (boxI 0)
    rw [show ((w.alloc (boxL bl)).alloc (boxI k)).heap.size = w.heap.size + 1 + 1 by simp] at h0
    exact (((Keeps.refl (fun _ => False) _).alloc _).alloc _).at h0 (fun h => h)
  have h3 : W.heap[w.heap.size + 1 + 1 + 1]? = some (.cells #[.int .i64 0] 26 (0, 0)) := by
    rw [hW]
    have h0 := heap_alloc_new (((w.alloc (boxL bl)).alloc (boxI k)).alloc (boxI 0)) (.cells #[.int .i64 0] 26)
    rw [show (((w.alloc (boxL bl)).alloc (boxI k)).alloc (boxI 0)).heap.size = w.heap.size + 1 + 1 + 1 by simp] at h0
    exact ((Keeps.refl (fun _ => False) _).alloc _).at h0 (fun h => h)
  have hsl : Sl .i64 W (.slice (some ⟨w.heap.size + 1 + 1 + 1 + 1, 0, none⟩) 1 1) [v] := by
    have h0 := sl_lit1 ((((w.alloc (boxL bl)).alloc (boxI k)).alloc (boxI 0)).alloc (.cells #[.int .i64 0] 26)) v
    rw [hW]
    simpa using h0
  have hN := lookNumber_any (h.keeps hk (fun _ _ h => h)) hn (by omega) _ [v] hsl (fun k e => by simp only [Value.ownBlock, Option.some.injEq] at e; subst e; rintro (hx | hx); exact absurd (h.mix.old _ hx) (by omega); have := h.lt; omega) (by simp)
  have HH := Lib.hid (And.intro h (And.intro hk hsz))
  have HW := Lib.hid hW
  have hblw := h.lt
  have hFw := h.mix.old
  clear h hk hsl hsz hW
  go_enter Tryz.func40, Tryz.ntmps40
  go_wp2_with fail
  have hWW := HW.out
  unfold boxL boxI at hWW
  rw [← hWW]
  refine hN.mono ?_
  rintro e w2 ⟨⟨c, rfl, hc⟩, hQ⟩
  have g1 := hQ.2.at h1 (fun hx => by rcases hx with hx | hx; have := hFw _ hx; omega; omega)
  have g2 := hQ.2.at h2 (fun hx => by rcases hx with hx | hx; have := hFw _ hx; omega; omega)
  have g3 := hQ.2.at h3 (fun hx => by rcases hx with hx | hx; have := hFw _ hx; omega; omega)
  obtain ⟨r1, r2, r3, _⟩ := res2 g2 g3 (.int .i64 0) (.int .i64 1)
  have c1 := World.cell_of_heap g1 0
  have c2 := World.cell_of_heap g2 0
  have c3 := World.cell_of_heap g3 0
  have f2 := World.free_of_heap g2 0
  have f3 := World.free_of_heap g3 0
  have HF := Lib.hid (hQ.freshS HH.out.1 HH.out.2.1 r3 (fun x hx => by have := HH.out.2.2; omega))
  clear hN hQ h1 h2 h3 g1 g2 g3 r3 hWW
  rcases hc with ⟨hok, rfl⟩ | ⟨hno, rfl⟩
  · have hk0 : k < 0 := by
      rcases hvk with h | h
      · exact absurd (hok v (by simp)) h
      · exact h
    have hd : decide (k < 0) = true := decide_eq_true hk0
    clear hok hvk
    go_wp2
    refine bodyPost_ret (v := .tuple #[.int .i64 0, .int .i64 1]) ?_ rfl ⟨rfl, HF.out⟩
    simp [results, Tryz.results40, go_sem, r1, r2]
  · clear hno hvk
    go_wp2
    refine bodyPost_ret (v := .tuple #[.int .i64 0, .int .i64 1]) ?_ rfl ⟨rfl, HF.out⟩
    simp [results, Tryz.results40, go_sem, r1, r2]

end

end Go.Proofs.YtipelclohcdkcaaGreat
