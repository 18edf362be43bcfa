/- A bytes.Buffer that has only been written; its row may bear the run time's mark. -/
import Derived.Shelf.Bytes.GrowSliceCatch
import Derived.Lib.AppendZeros
import Derived.Lib.LazyBuf
import Derived.Lib.BufferWrite
import Derived.Lib.ConvBytes
import Derived.Test.YtblkkcpeodoclaaGreatDoorPtOwnY
import Derived.Test.YtblkkcpeodoclaaGreatDoorPtLays07
namespace Go.Proofs.YtblkkcpeodoclaaGreatDoor
open Go.RowKit Go.Shelf

theorem Keeps.setCells {F : Nat → Prop} {w0 : World} {b : Nat} (hb : F b ∨ w0.heap.size ≤ b) : ∀ (vs : List Value) (o : Nat) (w : World), Keeps F w0 w → Keeps F w0 (w.setCells b o vs)
  | [], _, _, h => h
  | v :: r, o, _, h => Keeps.setCells hb r (o + 1) _ (h.setCell (p := ⟨b, o, none⟩) hb v)

/-- The buffer at block b: its row g holds the bytes t. -/
structure BufAt (w : World) (b g : Nat) (t : List UInt8) : Prop where
  ex : ∃ cap lr, w.heap[b]? = some (.cells #[.slice (some ⟨g, 0, none⟩) t.length cap, .int .i64 0, .int .i8 lr] 93 (0, 0)) ∧ t.length ≤ cap ∧ cap ≤ maxLen ∧
    (∀ j, j < cap → (w.cell? ⟨g, j, none⟩).isSome = true ∧ w.frozen? ⟨g, j, none⟩ = false)
  get : ∀ (j : Nat) (x : UInt8), t[j]? = some x → w.cell? ⟨g, j, none⟩ = some (.int .u8 x.toNat)
  ne : b ≠ g
  lt : g < w.heap.size

theorem BufAt.keeps {F : Nat → Prop} {w w' : World} {b g : Nat} {t : List UInt8} (h : BufAt w b g t) (k : Keeps F w w') (hb : ¬ F b) (hg : ¬ F g) : BufAt w' b g t := by
  obtain ⟨⟨cap, lr, h1, h2, h3, h4⟩, h5, h6, h7⟩ := h
  have hblk := k.block g h7 hg
  refine ⟨⟨cap, lr, k.at h1 hb, h2, h3, fun j hj => ?_⟩, fun j x hx => ?_, h6, Nat.lt_of_lt_of_le h7 k.size⟩
  · rw [World.cell?_of_block hblk]
    refine ⟨(h4 j hj).1, ?_⟩
    have := (h4 j hj).2
    unfold World.frozen? at this ⊢
    rw [show w'.heap[(⟨g, j, none⟩ : Addr).block]? = w.heap[(⟨g, j, none⟩ : Addr).block]? from hblk]
    exact this
  · rw [World.cell?_of_block hblk]; exact h5 j x hx

set_option maxRecDepth 100000 in
set_option maxHeartbeats 4000000 in
theorem growSlice_any (g l c n : Nat) (vs : List Value) (w : World) (hvl : vs.length = l) (hsrc : ∀ j v, vs[j]? = some v → w.cell? ⟨g, j, none⟩ = some v) (hgw : g < w.heap.size) (h1 : ∀ v ∈ vs, v.oneCell' = true) (hlc : l ≤ c) (hn : 1 ≤ n) (hlim : l + n ≤ 1000000000000) (hc : c ≤ 1000000000000) :
    Calls Tryz.prog 66 #[.slice (some ⟨g, 0, none⟩) l c, .int .i64 n] w fun e w' => ∃ cap2 cells, e = .returned (.slice (some ⟨w.heap.size, 0, none⟩) l cap2) ∧ w'.heap[w.heap.size]? = some (.cells cells 5 (0, 0)) ∧
      cells.size = cap2 ∧ cells.toList.take l = vs ∧ l + n ≤ cap2 ∧ cap2 ≤ maxLen ∧ Keeps (fun _ => False) w w' := by
  obtain ⟨i0, hi, hz0, hz1, hz2⟩ := info_parts (infoY)
  have hsz1 : (Tryz.prog.info? 5).map (·.size) = some 1 := by rw [hi]; simp [hz1]
  obtain ⟨C, hC⟩ : ∃ C, (l + n < 2 * c ∧ C = 2 * c) ∨ (2 * c ≤ l + n ∧ C = l + n) := by
    rcases Nat.lt_or_ge (l + n) (2 * c) with h | h
    · exact ⟨_, .inl ⟨h, rfl⟩⟩
    · exact ⟨_, .inr ⟨h, rfl⟩⟩
  have hClim : l + n ≤ C ∧ C ≤ 3000000000000 := by omega
  have happ := Lib.run_append_nil_zeros (P := Tryz.prog) w 22 3 22 5 i0 (.int .u8 0) .i64 .i64 Tryz.underlying22 Tryz.underlying3 hi hz0 C (by omega) (by omega) (by omega) (by rw [hz2]; omega)
  generalize hcap : grownCap w C 0 5 = cap2 at happ
  have hcapge : C ≤ cap2 := by rw [← hcap]; exact grownCap_ge w _ 0 5
  have hcaple : cap2 ≤ maxLen := by rw [← hcap]; exact grownCap_le_maxLen w _ 0 5 (by unfold maxLen; omega)
  generalize hZ : (Builtin.zeroCells (Value.int .u8 0).cells C ++ Builtin.zeroCells (Value.int .u8 0).cells (cap2 - C)) = Z at happ
  have hZs : Z.size = cap2 := by rw [← hZ]; simp [size_zeroCells, Value.cells]; omega
  clear hcap hZ
  have hsrc2 : ∀ j v, vs[j]? = some v → (w.alloc (.cells Z 5)).drew.cell? ((⟨g, 0, none⟩ : Addr).add j) = some v := fun j v hv => by
    rw [Lib.addr_add, Nat.zero_add]
    exact (World.cell?_of_block (((Keeps.refl (fun _ => False) w).alloc _).block g hgw (fun h => h))).trans (hsrc j v hv)
  have hcopy := run_copy_row (P := Tryz.prog) (w.alloc (.cells Z 5)).drew 22 22 3 5 w.heap.size 0 C cap2 ⟨g, 0, none⟩ l c Z 5 vs Tryz.underlying22 hsz1 (heap_alloc_new w _) (by rw [hvl]; exact (Nat.min_eq_left (by omega)).symm) hsrc2 (by rw [hvl]; omega) h1
  rw [hvl] at hcopy
  generalize hY : (Z.toList.take 0 ++ vs ++ Z.toList.drop (0 + l)).toArray = Y at hcopy
  have hYl : Y.toList = vs ++ Z.toList.drop l := by rw [← hY]; simp
  have hfin : cap2 = Y.size ∧ Y.toList.take l = vs := by
    constructor
    · have : Y.toList.length = cap2 := by rw [hYl, List.length_append, hvl, List.length_drop, Array.length_toList, hZs]; omega
      rw [Array.length_toList] at this; omega
    · rw [hYl, List.take_append_of_le_length (by rw [hvl]; exact Nat.le_refl _), List.take_of_length_le (by rw [hvl]; exact Nat.le_refl _)]
  have HF := Lib.hid (And.intro hfin (And.intro hcaple hClim))
  clear hfin hYl hY hsrc2 hsrc hcaple hvl h1
  have hend : ∀ W, W = ((w.alloc (.cells Z 5)).drew).setRow w.heap.size Y → W.heap[w.heap.size]? = some (.cells Y 5 (0, 0)) ∧ Keeps (fun _ => False) w W := by
    rintro W rfl
    refine ⟨setRow_heap _ _ Z Y 5 (0, 0) (heap_alloc_new w _), ⟨rfl, rfl, rfl, ?_, ?_⟩⟩
    · simp
    · intro k hk _
      have hne : k ≠ w.heap.size := Nat.ne_of_lt hk
      rw [setRow_other _ _ _ _ hne]
      exact Below.heap_alloc w _ k hk
  have HEnd := Lib.hid hend
  clear hend
  rcases hC with ⟨hlt, hCe⟩ | ⟨hge, hCe⟩
  · have t1 : decide ((l : Int) + (n : Int) < 2 * (c : Int)) = true := decide_eq_true (by omega)
    rw [show ((C : Nat) : Int) = 2 * (c : Int) by omega] at happ
    clear hCe
    go_enter_defers Tryz.func66, Tryz.ntmps66
    go_wp2_with (at_builtin; refine Lib.wpList_append_run _ rfl _ _ _ _ rfl _ _ rfl rfl _ _ happ ?_)
    refine leaves_cons (f := 84) (args := #[]) (by simp) (enters_of Tryz.lays324.f324 (by kernel_rfl) rfl _ _) ?_
    refine (Any.growSlice_catch_idle { Tryz.lays324 with } _).mono ?_
    rintro e u' w'' ⟨rfl, rfl, rfl⟩
    refine ⟨_, results_tmp rfl _ _ _, ?_⟩
    obtain ⟨e1, e2⟩ := HEnd.out _ rfl
    exact ⟨cap2, Y, rfl, e1, HF.out.1.1.symm, HF.out.1.2, by omega, HF.out.2.1, e2⟩
  · have t1 : decide ((l : Int) + (n : Int) < 2 * (c : Int)) = false := decide_eq_false (by omega)
    rw [show ((C : Nat) : Int) = (l : Int) + (n : Int) by omega] at happ
    clear hCe
    go_enter_defers Tryz.func66, Tryz.ntmps66
    go_wp2_with (at_builtin; refine Lib.wpList_append_run _ rfl _ _ _ _ rfl _ _ rfl rfl _ _ happ ?_)
    refine leaves_cons (f := 84) (args := #[]) (by simp) (enters_of Tryz.lays324.f324 (by kernel_rfl) rfl _ _) ?_
    refine (Any.growSlice_catch_idle { Tryz.lays324 with } _).mono ?_
    rintro e u' w'' ⟨rfl, rfl, rfl⟩
    refine ⟨_, results_tmp rfl _ _ _, ?_⟩
    obtain ⟨e1, e2⟩ := HEnd.out _ rfl
    exact ⟨cap2, Y, rfl, e1, HF.out.1.1.symm, HF.out.1.2, by omega, HF.out.2.1, e2⟩

end Go.Proofs.YtblkkcpeodoclaaGreatDoor
