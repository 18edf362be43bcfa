/- bytes.Buffer's methods on a buffer that has only been written. -/
import Derived.Shelf.RegionOpenPlain
import Derived.Deep.RegionHeld3
import Derived.Deep.CutRange
import Derived.Test.YtblkkcpeodoclaaGreatDoorPtBuf1
namespace Go.Proofs.YtblkkcpeodoclaaGreatDoor
open Go.RowKit Go.Shelf

set_option maxRecDepth 100000 in
theorem tryGrow_room (b g l cap n : Nat) (w : World) (c0 : w.cell? ⟨b, 0, none⟩ = some (.slice (some ⟨g, 0, none⟩) l cap)) (f0 : w.frozen? ⟨b, 0, none⟩ = false) (hlc : l ≤ cap) (hcap : cap ≤ maxLen) (hn : n ≤ cap - l) :
    Calls Tryz.prog 45 #[.pointer (some ⟨b, 0, none⟩), .int .i64 n] w fun e w' => e = .returned (.tuple #[.int .i64 l, .bool true]) ∧ w' = w.setCell ⟨b, 0, none⟩ (.slice (some ⟨g, 0, none⟩) (l + n) cap) := by
  unfold maxLen at hcap
  go_enter Tryz.func45, Tryz.ntmps45
  go_wp2
  go_ret2
  exact ⟨rfl, rfl⟩

set_option maxRecDepth 100000 in
theorem tryGrow_none (b g l cap n : Nat) (w : World) (c0 : w.cell? ⟨b, 0, none⟩ = some (.slice (some ⟨g, 0, none⟩) l cap)) (hlc : l ≤ cap) (hcap : cap ≤ maxLen) (hn : cap - l < n) :
    Calls Tryz.prog 45 #[.pointer (some ⟨b, 0, none⟩), .int .i64 n] w fun e w' => e = .returned (.tuple #[.int .i64 0, .bool false]) ∧ w' = w := by
  unfold maxLen at hcap
  go_enter Tryz.func45, Tryz.ntmps45
  go_wp2
  go_ret2
  exact ⟨rfl, rfl⟩

set_option maxRecDepth 100000 in
theorem bufLen_any (b g l cap : Nat) (w : World) (c0 : w.cell? ⟨b, 0, none⟩ = some (.slice (some ⟨g, 0, none⟩) l cap)) (c1 : w.cell? ⟨b, 1, none⟩ = some (.int .i64 0)) (hl : l ≤ 1000000000000) :
    Calls Tryz.prog 64 #[.pointer (some ⟨b, 0, none⟩)] w fun e w' => e = .returned (.int .i64 l) ∧ Keeps (fun _ => False) w w' := by
  have hwl : IntKind.i64.wrap (l : Int) = l := IntWalk.i64_in _ (by omega)
  go_enter Tryz.func64, Tryz.ntmps64
  go_upto_region 1 with fail
  go_region_held3 (fun w' => w'.cell? ⟨b, 0, none⟩ = some (.slice (some ⟨g, 0, none⟩) l cap) ∧ w'.cell? ⟨b, 1, none⟩ = some (.int .i64 0)) (exact ⟨c0, c1⟩) (fail)
  go_wp2
  go_ret
  exact ⟨rfl, (Keeps.refl _ w).drew⟩

/-- What grow hands on. -/
def GrownB (b l n : Nat) (t : List UInt8) (w w' : World) : Prop :=
  ∃ g cap lr, w'.heap[b]? = some (.cells #[.slice (some ⟨g, 0, none⟩) (l + n) cap, .int .i64 0, .int .i8 lr] 93 (0, 0)) ∧ l + n ≤ cap ∧ cap ≤ maxLen ∧
    (∀ j, j < cap → (w'.cell? ⟨g, j, none⟩).isSome = true ∧ w'.frozen? ⟨g, j, none⟩ = false) ∧ (∀ (j : Nat) (x : UInt8), t[j]? = some x → w'.cell? ⟨g, j, none⟩ = some (.int .u8 x.toNat)) ∧ b ≠ g ∧ g < w'.heap.size ∧ w.heap.size ≤ g ∧ Keeps (fun x => x = b) w w'

set_option maxRecDepth 100000 in
set_option maxHeartbeats 8000000 in
theorem bufGrow_any (b g n cap : Nat) (lr : Int) (t : List UInt8) (w : World) (hb : w.heap[b]? = some (.cells #[.slice (some ⟨g, 0, none⟩) t.length cap, .int .i64 0, .int .i8 lr] 93 (0, 0)))
    (hlc : t.length ≤ cap) (hcm : cap ≤ maxLen) (hget : ∀ (j : Nat) (x : UInt8), t[j]? = some x → w.cell? ⟨g, j, none⟩ = some (.int .u8 x.toNat)) (hgw : g < w.heap.size) (hpos : 0 < t.length) (hn : cap - t.length < n) (hlim : t.length + n ≤ 400000000000) :
    Calls Tryz.prog 46 #[.pointer (some ⟨b, 0, none⟩), .int .i64 n] w fun e w' => e = .returned (.int .i64 t.length) ∧ GrownB b t.length n t w w' := by
  have hgs : ∀ W, Keeps (fun _ => False) w W → Calls Tryz.prog 66 #[.slice (some ⟨g, 0, none⟩) t.length cap, .int .i64 n] W _ := fun W hk =>
    growSlice_any g t.length cap n (t.map fun x => .int .u8 x.toNat) W (by simp) (fun j v hv => by
      rw [List.getElem?_map] at hv
      cases hx : t[j]? with
      | none => rw [hx] at hv; cases hv
      | some x =>
        rw [hx] at hv
        simp only [Option.map_some, Option.some.injEq] at hv
        rw [World.cell?_of_block (hk.block g hgw (fun h => h)), hget j x hx, hv]) (Nat.lt_of_lt_of_le hgw hk.size) (fun v hv => by
      obtain ⟨x, -, rfl⟩ := List.mem_map.1 hv
      rfl) hlc (by omega) (by omega) (by omega)
  have HGS := Lib.hid hgs
  have HB := Lib.hid hb
  clear hgs
  obtain ⟨l, hl⟩ : ∃ l, l = t.length := ⟨_, rfl⟩
  have HL := Lib.hid hl
  rw [← hl] at hlc hpos hn hlim hb HGS HB ⊢
  clear hget hl
  have hcells : ∀ W, Keeps (fun _ => False) w W → W.cell? ⟨b, 0, none⟩ = some (.slice (some ⟨g, 0, none⟩) l cap) ∧ W.cell? ⟨b, 1, none⟩ = some (.int .i64 0) ∧ W.frozen? ⟨b, 0, none⟩ = false ∧ W.frozen? ⟨b, 1, none⟩ = false := fun W hk => by
    have h := hk.at HB.out (fun h => h)
    exact ⟨World.cell_of_heap h 0, World.cell_of_heap h 1, World.free_of_heap h 0, World.free_of_heap h 1⟩
  have HC := Lib.hid hcells
  obtain ⟨c0, c1, f0, f1⟩ := hcells w (Keeps.refl _ _)
  clear hcells hb
  have hLen := bufLen_any b g l cap w c0 c1 (by omega)
  have HLen := Lib.hid hLen
  clear hLen
  go_enter Tryz.func46, Tryz.ntmps46
  go_wp2_with fail
  refine HLen.out.mono ?_
  rintro e w1 ⟨rfl, hk1⟩
  have HK1 := Lib.hid hk1
  obtain ⟨d0, d1, e0, e1⟩ := HC.out w1 hk1
  clear hk1 c0 c1 f0 f1
  have t1 : ((l : Int) == 0) = false := by rw [beq_eq_false_iff_ne]; omega
  have t2 : decide ((l : Int) = 0) = false := decide_eq_false (by omega)
  go_wp2_with fail
  refine (tryGrow_none b g l cap n w1 d0 hlc hcm hn).mono ?_
  rintro e w1 ⟨rfl, rfl⟩
  have hnil : ∀ W, (binOp .eql 22 (.slice (some ⟨g, 0, none⟩) l cap) (.slice none 0 0)).run Tryz.prog W = .ok (.bool false) W := fun W => Lib.run_eql_slice_some_nil W _ _ _ Tryz.underlying22
  have hcm' : cap ≤ 400000000000 := by omega
  have hwn : IntKind.i64.wrap (n : Int) = n := by rw [IntKind.wrap_i64]; omega
  have hq : ((cap : Int).tdiv 2) = ((cap / 2 : Nat) : Int) := by rw [Int.tdiv_eq_ediv_of_nonneg (by omega)]; omega
  have hcap0 : ¬ cap = 0 := by omega
  have mixed := Tryz.lays324.mixed
  have hbW : b < w1.heap.size := lt_of_block (HK1.out.at HB.out (fun h => h))
  go_upto_region 15 with fail
  go_region_with_o (
      go_at_call 66
      refine (HGS.out _ ?_).mono ?_
      first | exact HK1.out | exact HK1.out.drew
      rintro e w2 ⟨cap2, cells, rfl, hN, hcsz, htk, hcap2, hcm2, hk2⟩
      have hk3 : Keeps (fun _ => False) w1 w2 := by first | exact hk2 | exact (Keeps.refl (fun _ => False) w1).drew.trans hk2 (fun _ _ h => h)
      obtain ⟨x0, x1, y0, y1⟩ := HC.out w2 (HK1.out.trans hk3 (fun _ _ h => h))
      have HK2 := Lib.hid (And.intro hk3 (And.intro hN (And.intro hcsz (And.intro htk (And.intro hcap2 hcm2)))))
      clear hk2 hk3 hN hcsz htk hcap2 hcm2)
  all_goals (
    have hc2 : (l : Int) + (n : Int) ≤ (cap2 : Int) := by have := HK2.out.2.2.2.2.1; omega
    have hc3 : l + n ≤ cap2 := HK2.out.2.2.2.2.1
    go_wp2
    go_ret
    have z0 : w2.heap[b]? = some (.cells #[.slice (some ⟨g, 0, none⟩) l cap, .int .i64 0, .int .i8 lr] 93 (0, 0)) := (HK1.out.trans HK2.out.1 (fun _ _ h => h)).at HB.out (fun h => h)
    have z1 := Lib.heap_setCell_same (i := 0) z0 (.slice (some ⟨w1.heap.size, 0, none⟩) l cap2)
    have z2 := Lib.heap_setCell_same (i := 1) z1 (.int .i64 0)
    have z3 := Lib.heap_setCell_same (i := 0) z2 (.slice (some ⟨w1.heap.size, 0, none⟩) (l + n) cap2)
    have hkb := (((Keeps.refl (fun x => x = b) w2).setCell (p := ⟨b, 0, none⟩) (.inl rfl) (.slice (some ⟨w1.heap.size, 0, none⟩) l cap2)).setCell (p := ⟨b, 1, none⟩) (.inl rfl) (.int .i64 0)).setCell (p := ⟨b, 0, none⟩) (.inl rfl) (.slice (some ⟨w1.heap.size, 0, none⟩) (l + n) cap2)
    have hne : w1.heap.size ≠ b := by omega
    have hN0 : w2.heap[w1.heap.size]? = some (.cells cells 5 (0, 0)) := HK2.out.2.1
    have hN := hkb.at hN0 hne
    refine ⟨rfl, w1.heap.size, cap2, lr, z3, HK2.out.2.2.2.2.1, HK2.out.2.2.2.2.2, fun j hj => ⟨?_, World.free_of_heap hN j⟩, fun j x hx => ?_, by omega, lt_of_block hN, HK1.out.size, ?_⟩
    · rw [World.cell_of_heap hN]
      rw [← HK2.out.2.2.1] at hj
      simp [hj]
    · rw [World.cell_of_heap hN]
      have h1 := congrArg (fun q => q[j]?) HK2.out.2.2.2.1
      simp only [List.getElem?_map, hx, Option.map_some] at h1
      rw [List.getElem?_take_of_lt (by rw [HL.out]; exact (List.getElem?_eq_some_iff.1 hx).1)] at h1
      simpa using h1
    · exact ((HK1.out.trans HK2.out.1 (fun _ _ h => h)).mono (fun _ _ h => h.elim)).trans hkb (fun _ _ h => h))

end Go.Proofs.YtblkkcpeodoclaaGreatDoor
