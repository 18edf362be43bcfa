/- mixed.Mixed.Size: of a short word. -/
import Derived.Test.YtipelclohcdkcaaGreatPsRef4
namespace Go.Proofs.YtipelclohcdkcaaGreat
open Go.RowKit

/-- A size is so great at most. -/
theorem IsH.few {l : List Bool} {h : Nat} (hh : IsH l h) (hl : l.length ≤ 4096) : 2 ^ h ≤ 8 := by
  have h3 : h ≤ 3 := by
    rcases Nat.lt_or_ge 3 h with h' | h'
    · have := hh.2 3 h'; omega
    · exact h'
  calc 2 ^ h ≤ 2 ^ 3 := Nat.pow_le_pow_right (by omega) h3
    _ = 8 := by decide

def idxSz (l : List Bool) : Nat := 32 * ((l.length + 511) / 512 + 1)
theorem idxSz_le {l : List Bool} (hl : l.length ≤ 4096) : idxSz l ≤ 320 := by unfold idxSz; omega

theorem idxSize_few (b : Nat) (l : List Bool) (w : World) (h : ∃ d a F, IdxAt w b l d a F) :
    Calls Tryz.prog 108 #[.pointer (some ⟨b, 0, none⟩)] w fun e w' => e = .returned (.int .i64 (idxSz l : Nat)) ∧ w = w' := by
  obtain ⟨d, a, F, h⟩ := h
  exact idxSize_any b l d a F w h

theorem parSize_few (b : Nat) (l : List Bool) (hl : l.length ≤ 4096) : ∃ n : Nat, n ≤ 960 ∧ ∀ w, PIdx w b l →
    Calls Tryz.prog 109 #[.pointer (some ⟨b, 0, none⟩)] w fun e w' => e = .returned (.int .i64 n) ∧ w = w' := by
  obtain ⟨x, hx⟩ := IsH.ex l
  have h8 := hx.few hl
  have h1 : 0 < 2 ^ x := Nat.two_pow_pos x
  refine ⟨64 * (2 * 2 ^ x - 1), by omega, fun w h => (parSize_any b l x w h hx).mono ?_⟩
  rintro e w' ⟨rfl, rfl⟩
  exact ⟨by congr 2; omega, rfl⟩

set_option maxRecDepth 100000 in
set_option maxHeartbeats 2000000 in
theorem mixSize_few {w : World} {b bo : Nat} {bi bp : Nat → Nat} {ks : List Nat} {q : Nat} {F : Nat → Prop} (h : MixP w b bo bi bp ks q F) (hl : ks.length ≤ 4096) :
    Calls Tryz.prog 25 #[.pointer (some ⟨b, 0, none⟩)] w fun e w' => ∃ n : Nat, e = .returned (.int .i64 n) ∧ n ≤ 4096 ∧ Keeps (fun _ => False) w w' := by
  have hx0 : ∀ (a b c d : Value) (w : World), (Instr.index 107 (.agg #[a, b, c, d]) (.int .i64 0)).run Tryz.prog w = .ok (.agg #[a, b]) w := fun _ _ _ _ _ => rfl
  have hx1 : ∀ (a b c d : Value) (w : World), (Instr.index 107 (.agg #[a, b, c, d]) (.int .i64 1)).run Tryz.prog w = .ok (.agg #[c, d]) w := fun _ _ _ _ _ => rfl
  have hO := idxSize_few bo (openB ks) w h.opn
  have hO2 := idxSz_le (l := openB ks) (by rw [openB_length]; exact hl)
  have hI : ∀ s, s < 2 → ∃ n : Nat, n ≤ 320 ∧ ∀ W, Keeps (fun _ => False) w W → Calls Tryz.prog 108 #[.pointer (some ⟨bi s, 0, none⟩)] W fun e w' => e = .returned (.int .i64 n) ∧ W = w' := by
    intro s hs
    refine ⟨idxSz (isB s ks), idxSz_le (by rw [isB_length]; exact hl), fun W hk => ?_⟩
    obtain ⟨d, a, Fi, h1, _⟩ := (h.keeps hk (fun _ _ h => h)).idx s hs
    exact idxSize_few _ _ W ⟨d, a, Fi, h1⟩
  have hP : ∀ s, s < 2 → ∃ n : Nat, n ≤ 960 ∧ ∀ W, Keeps (fun _ => False) w W → Calls Tryz.prog 109 #[.pointer (some ⟨bp s, 0, none⟩)] W fun e w' => e = .returned (.int .i64 n) ∧ W = w' := by
    intro s hs
    obtain ⟨n, hn, hc⟩ := parSize_few (bp s) (ownB s ks) (Nat.le_trans (ownB_le s ks) hl)
    refine ⟨n, hn, fun W hk => ?_⟩
    obtain ⟨d, Fp, h1, _⟩ := (h.keeps hk (fun _ _ h => h)).par s hs
    exact hc W h1.idx
  have c0 : w.cell? ⟨b, 0, none⟩ = some (.pointer (some ⟨bo, 0, none⟩)) := World.cell_of_heap h.blk 0
  have c1 := (h.cells 0 (by omega)).1
  have c2 := (h.cells 0 (by omega)).2
  have c3 := (h.cells 1 (by omega)).1
  have c4 := (h.cells 1 (by omega)).2
  obtain ⟨x0, hb0, hI0⟩ := hI 0 (by omega)
  obtain ⟨x1, hb1, hI1⟩ := hI 1 (by omega)
  obtain ⟨y0, hy0, hP0⟩ := hP 0 (by omega)
  obtain ⟨y1, hy1, hP1⟩ := hP 1 (by omega)
  have HH := Lib.hid (And.intro hI0 (And.intro hI1 (And.intro hP0 hP1)))
  clear hI hP h hI0 hI1 hP0 hP1
  generalize bi 0 = i0 at *
  generalize bi 1 = i1 at *
  generalize bp 0 = p0 at *
  generalize bp 1 = p1 at *
  generalize idxSz (openB ks) = x2 at *
  go_enter Tryz.func25, Tryz.ntmps25
  go_wp2_with fail
  refine hO.mono ?_
  rintro e w1 ⟨rfl, rfl⟩
  clear hO
  go_wp2_with fail
  go_loopg [3, 17] 2 (fun m s t wr => ∃ j n : Nat, j ≤ 2 ∧ m = 2 - j ∧ t = .int .i64 j ∧ s = .int .i64 n ∧ n ≤ 320 + 1280 * j ∧ Keeps (fun _ => False) w wr)
  case atStart => exact ⟨0, x2, by omega, rfl, rfl, rfl, hO2, Keeps.refl _ _⟩
  case round =>
    clear c0 c1 c2 c3 c4
    obtain ⟨j, n, hj, hgk, rfl, rfl, hn, hk⟩ := hrel
    have HG := Lib.hid hgk
    clear hgk
    have hcases : j = 0 ∨ j = 1 ∨ j = 2 := by omega
    rcases hcases with rfl | rfl | rfl
    · have hkA := hk.alloc (.cells #[.pointer (some ⟨i0, 0, none⟩), .pointer (some ⟨p0, 0, none⟩)] 106)
      have d0 : (wr.alloc (.cells #[.pointer (some ⟨i0, 0, none⟩), .pointer (some ⟨p0, 0, none⟩)] 106)).cell? ⟨wr.heap.size, 0, none⟩ = some (.pointer (some ⟨i0, 0, none⟩)) := World.cell_of_heap (heap_alloc_new wr _) 0
      have d1 : (wr.alloc (.cells #[.pointer (some ⟨i0, 0, none⟩), .pointer (some ⟨p0, 0, none⟩)] 106)).cell? ⟨wr.heap.size, 1, none⟩ = some (.pointer (some ⟨p0, 0, none⟩)) := World.cell_of_heap (heap_alloc_new wr _) 1
      go_wp2_with fail
      clear hx0 hx1
      generalize wr.alloc _ = W at *
      generalize wr.heap.size = g at *
      have hQ := fun n => HH.out.1 (W.drewN n) (hkA.drewN n)
      have hR := fun n => HH.out.2.2.1 (W.drewN n) (hkA.drewN n)
      go_quiet ((first | (go_at_call 108; with_reducible exact quiet_eq (hQ _)) | (go_at_call 109; with_reducible exact quiet_eq (hR _))))
      have hkB := hkA.drewN nq
      clear hQ hR
      go_wp2
      go_roundg (1)
      case measure => rw [HG.out]; omega
      case rel => exact ⟨1, n + (x0 + y0), by omega, rfl, by go_num, by go_num, by omega, hkB⟩
    · have hkA := hk.alloc (.cells #[.pointer (some ⟨i1, 0, none⟩), .pointer (some ⟨p1, 0, none⟩)] 106)
      have d0 : (wr.alloc (.cells #[.pointer (some ⟨i1, 0, none⟩), .pointer (some ⟨p1, 0, none⟩)] 106)).cell? ⟨wr.heap.size, 0, none⟩ = some (.pointer (some ⟨i1, 0, none⟩)) := World.cell_of_heap (heap_alloc_new wr _) 0
      have d1 : (wr.alloc (.cells #[.pointer (some ⟨i1, 0, none⟩), .pointer (some ⟨p1, 0, none⟩)] 106)).cell? ⟨wr.heap.size, 1, none⟩ = some (.pointer (some ⟨p1, 0, none⟩)) := World.cell_of_heap (heap_alloc_new wr _) 1
      go_wp2_with fail
      clear hx0 hx1
      generalize wr.alloc _ = W at *
      generalize wr.heap.size = g at *
      have hQ := fun n => HH.out.2.1 (W.drewN n) (hkA.drewN n)
      have hR := fun n => HH.out.2.2.2 (W.drewN n) (hkA.drewN n)
      go_quiet ((first | (go_at_call 108; with_reducible exact quiet_eq (hQ _)) | (go_at_call 109; with_reducible exact quiet_eq (hR _))))
      have hkB := hkA.drewN nq
      clear hQ hR
      go_wp2
      go_roundg (0)
      case measure => rw [HG.out]; omega
      case rel => exact ⟨2, n + (x1 + y1), by omega, rfl, by go_num, by go_num, by omega, hkB⟩
    · go_wp2
      go_ret
      exact ⟨n, rfl, by omega, hk⟩

end Go.Proofs.YtipelclohcdkcaaGreat
