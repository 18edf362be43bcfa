/- The contracts of package rank: the index of a vector. -/
import Derived.Test.YtlciacpffoekjaaOnes
import Derived.Test.YtlciacpffoekjaaOnce
import Derived.Deep.RegionWith
import Derived.Deep.RegionHeld3
namespace Go.Proofs.Ytlciacpffoekjaa
open Go.RowKit

theorem infoU32 : (Try.prog.info? 89).map (fun i => (i.zero, i.size, i.bytes)) = some (some (.int .u32 0), 1, 4) := by kernel_rfl

/-- What stands ahead of each block, and behind the last one. -/
def ahead (l : List Bool) : List Nat := (List.range ((l.length + 511) / 512 + 1)).map fun b => cnt (l.take (512 * b))

/-- The cells of an index: its vector's block, done, the lock, the directory, how often built and asked. -/
def idxCells (bv : Nat) (done : Bool) (lock : Int) (av : Value) (built asked : Int) : Array Value :=
  #[.pointer (some ⟨bv, 0, none⟩), .int .u32 (if done then 1 else 0), .int .i32 lock, .int .u32 0, av, .int .i64 built, .int .i64 asked]

/-- The directory: none, or what stands ahead of each block. -/
def DirAt (w : World) (done : Bool) (av : Value) (l : List Bool) : Prop :=
  if done then w.ownsRow 0 89 1 av (ahead l).length ((ahead l).map fun x : Nat => Value.int .u32 x) else av = .slice none 0 0

/-- An index of bits l, asked so often; F: its blocks. -/
structure IdxAt (w : World) (b : Nat) (l : List Bool) (done : Bool) (asked : Nat) (F : Nat → Prop) : Prop where
  ex : ∃ bv v av, w.heap[b]? = some (.cells (idxCells bv done 0 av (if done then 1 else 0) asked) 103 (0, 0)) ∧ VecAt w bv v l ∧ DirAt w done av l ∧
    F b ∧ F bv ∧ (∀ k, v.ownBlock = some k → F k) ∧ (∀ k, av.ownBlock = some k → F k)
  le : l.length ≤ 100000000
  old : ∀ k, F k → k < w.heap.size

set_option maxRecDepth 100000 in
set_option maxHeartbeats 400000 in
theorem rankNew_any (b2 : Nat) (v2 : Value) (l2 : List Bool) (w : World) (h2 : VecAt w b2 v2 l2) (hl : l2.length ≤ 100000000) :
    Calls Try.prog 31 #[.pointer (some ⟨b2, 0, none⟩)] w fun e w' => ∃ b, e = .returned (.pointer (some ⟨b, 0, none⟩)) ∧ IdxAt w' b l2 false 0 (fun k => w.heap.size ≤ k ∧ k < w'.heap.size) ∧ Keeps (fun _ => False) w w' := by
  have hb2 := h2.lt
  have hJ := Join_any w.heap.size (.slice none 0 0) [] b2 v2 l2 (w.alloc (.cells #[.slice none 0 0, .int .i64 0] 111)) (vec_new w) (h2.keeps ((Keeps.refl (fun _ => False) w).alloc _) (fun h => h) (fun _ _ h => h))
    (by omega) (by simp [Value.ownBlock]) (fun h => by have := (h2.apart _ h).2; omega) (fun _ _ h => by simp [Value.ownBlock] at h) (by simp; omega)
  have HJ := Lib.hid hJ
  clear hJ h2
  go_enter Try.func31, Try.ntmps31
  go_wp2_with (first | (go_at_call 34; refine (new_any _).mono ?_; rintro e w' ⟨rfl, rfl⟩) | (go_at_call 83; refine HJ.out.mono ?_; rintro e w1 ⟨rfl, hw1⟩))
  go_ret
  obtain ⟨v1, hv1, hk1, hf1⟩ := hw1
  have k1 : Keeps (fun _ => False) w w1 := ((Keeps.refl _ w).alloc _).trans hk1 (by
    rintro x hx (rfl | hx2)
    · omega
    · simp [Value.ownBlock] at hx2)
  have hs1 := hk1.size
  simp at hs1
  have k2 := (Keeps.refl (fun _ => False) w1).alloc (.cells (idxCells w.heap.size false 0 (.slice none 0 0) 0 0) 103)
  have hv2 := hv1.keeps k2 (fun h => h) (fun _ _ h => h)
  refine ⟨w1.heap.size, rfl, ⟨⟨w.heap.size, v1, .slice none 0 0, heap_alloc_new w1 _, hv2, rfl, ?_, ?_, ?_, ?_⟩, hl, fun k hk => hk.2⟩, k1.alloc _⟩
  · simp; omega
  · simp; omega
  · intro k hk
    have hlt := (hv1.apart k hk).2
    rcases hf1 with h | ⟨k', h, hge⟩
    · rw [h] at hk; simp [Value.ownBlock] at hk
    · rw [h] at hk; cases hk; simp at hge; simp; omega
  · intro k hk; simp [Value.ownBlock] at hk

/-- The directory up to a place. -/
def aheadTo (l : List Bool) (k : Nat) : List Nat := (List.range ((k + 511) / 512)).map fun b => cnt (l.take (512 * b))

theorem aheadTo_hit (l : List Bool) (k : Nat) (h : k % 512 = 0) : aheadTo l (k + 1) = aheadTo l k ++ [cnt (l.take k)] := by
  unfold aheadTo
  rw [show (k + 1 + 511) / 512 = (k + 511) / 512 + 1 by omega, List.range_succ, List.map_append, List.map_singleton, show 512 * ((k + 511) / 512) = k by omega]

theorem aheadTo_miss (l : List Bool) (k : Nat) (h : ¬ k % 512 = 0) : aheadTo l (k + 1) = aheadTo l k := by
  unfold aheadTo
  rw [show (k + 1 + 511) / 512 = (k + 511) / 512 by omega]

theorem aheadTo_last (l : List Bool) : ahead l = aheadTo l l.length ++ [cnt l] := by
  unfold aheadTo ahead
  rw [List.range_succ, List.map_append, List.map_singleton, List.take_of_length_le (l := l) (by omega)]

theorem aheadTo_length (l : List Bool) (k : Nat) : (aheadTo l k).length = (k + 511) / 512 := by simp [aheadTo]

theorem cnt_snoc (l : List Bool) (k : Nat) (h : k < l.length) : cnt (l.take (k + 1)) = cnt (l.take k) + (l.getD k false).toNat := by
  rw [take_snoc l k h, cnt_append]; simp [cnt]

/-- What make has laid when it has come to a place. -/
def MakeAt (w : World) (b bv : Nat) (v : Value) (l : List Bool) (asked : Int) (d : List Nat) (w' : World) : Prop :=
  ∃ av, w'.heap[b]? = some (.cells (idxCells bv false 1 av 1 asked) 103 (0, 0)) ∧ VecAt w' bv v l ∧
    w'.ownsRow 0 89 1 av d.length (d.map fun x : Nat => Value.int .u32 x) ∧ (∀ k, av.ownBlock = some k → w.heap.size ≤ k) ∧ Keeps (fun k => k = b) w w'

theorem MakeAt.step {w : World} {b bv : Nat} {v : Value} {l : List Bool} {asked : Int} {d : List Nat} {wr w1 : World} {av : Value} {o : Obj} {x g cap : Nat}
    (h1 : wr.heap[b]? = some (.cells (idxCells bv false 1 av 1 asked) 103 (0, 0))) (hv : VecAt wr bv v l) (hbo : v.ownBlock ≠ some b) (hav : ∀ k, av.ownBlock = some k → w.heap.size ≤ k) (hbw : b < w.heap.size)
    (hvw : bv < w.heap.size) (hvo : ∀ k, v.ownBlock = some k → k < w.heap.size) (hk : Keeps (fun k => k = b) w wr)
    (hown : w1.ownsRow 0 89 1 (.slice (some ⟨g, 0, none⟩) (d.length + 1) cap) (d.length + 1) ((d.map fun x : Nat => Value.int .u32 x) ++ [.int .u32 x]))
    (hgrow : (wr.alloc o).grownBy w1 av.ownBlock) (hat : av.ownBlock = some g ∨ g = wr.heap.size + 1) :
    MakeAt w b bv v l asked (d ++ [x]) (w1.setCell ⟨b, 4, none⟩ (.slice (some ⟨g, 0, none⟩) (d.length + 1) cap)) := by
  have hsz := hk.size
  have hg : w.heap.size ≤ g := by
    rcases hat with h | h
    · exact hav g h
    · omega
  have k1 : Keeps (fun k => av.ownBlock = some k) wr w1 := ((Keeps.refl _ wr).alloc _).grown hgrow (fun k hk => .inl hk)
  have hb1 := k1.at h1 (fun h => by have := hav b h; omega)
  have hbv : bv ≠ b := by
    rintro rfl
    have := hv.1
    rw [h1] at this
    simp at this
  have hv1 := hv.keeps k1 (fun h => by have := hav bv h; omega) (fun k hk h => by have := hav k h; have := hvo k hk; omega)
  have hv2 := hv1.keeps ((Keeps.refl (fun k => k = b) w1).setCell (p := ⟨b, 4, none⟩) (.inl rfl) (.slice (some ⟨g, 0, none⟩) (d.length + 1) cap)) hbv (fun k hk h => hbo (by rw [← h]; exact hk))
  refine ⟨_, heap_setCell_same hb1 4 _, hv2, ?_, ?_, ?_⟩
  · have := ownsRow_setCell_other hown (a := ⟨b, 4, none⟩) (by simp [Value.ownBlock]; omega) (.slice (some ⟨g, 0, none⟩) (d.length + 1) cap)
    simpa using this
  · intro k hk
    simp [Value.ownBlock] at hk
    omega
  · exact (hk.trans k1 (fun x hx h => by have := hav x h; omega)).setCell (.inl rfl) _

set_option maxRecDepth 100000 in
set_option maxHeartbeats 1000000 in
theorem rankMake_any (b bv : Nat) (v : Value) (l : List Bool) (asked : Int) (w : World) (h : w.heap[b]? = some (.cells (idxCells bv false 1 (.slice none 0 0) 0 asked) 103 (0, 0)))
    (hv : VecAt w bv v l) (hl : l.length ≤ 100000000) (hbo : v.ownBlock ≠ some b) :
    Calls Try.prog 76 #[.pointer (some ⟨b, 0, none⟩)] w fun e w' => e = .returned (.tuple #[]) ∧ MakeAt w b bv v l asked (ahead l) w' := by
  have hbw := lt_of_block h
  have hvw := hv.lt
  have hvo := fun k hk => (hv.apart k hk).2
  have c5 : w.cell? ⟨b, 5, none⟩ = some (.int .i64 0) := World.cell_of_heap h 5
  have f5 := World.free_of_heap h 5
  have hbv : bv ≠ b := by
    rintro rfl
    have := hv.1
    rw [h] at this
    simp at this
  have hadd := add64 ⟨b, 5, none⟩ 0 1 w c5 f5 (by omega)
  have h1 : (w.setCell ⟨b, 5, none⟩ (.int .i64 1)).heap[b]? = some (.cells (idxCells bv false 1 (.slice none 0 0) 1 asked) 103 (0, 0)) := heap_setCell_same h 5 _
  have k1 : Keeps (fun k => k = b) w (w.setCell ⟨b, 5, none⟩ (.int .i64 1)) := (Keeps.refl (fun k => k = b) w).setCell (p := ⟨b, 5, none⟩) (.inl rfl) _
  have hv1 := hv.keeps k1 hbv (fun k hk h => hbo (by rw [← h]; exact hk))
  have hM : MakeAt w b bv v l asked [] (w.setCell ⟨b, 5, none⟩ (.int .i64 1)) := ⟨_, h1, hv1, World.ownsRow_nil _ _ _ _, fun k hk => by simp [Value.ownBlock] at hk, k1⟩
  have c0 : (w.setCell ⟨b, 5, none⟩ (.int .i64 1)).cell? ⟨b, 0, none⟩ = some (.pointer (some ⟨bv, 0, none⟩)) := World.cell_of_heap h1 0
  have hlen := len_any bv v l _ hv1
  obtain ⟨i, hi, hz0, hz1, hz2⟩ := info_parts infoU32
  clear c5 f5 k1 hv1 h1 h hv
  rw [show (0 : Int) + 1 = 1 from rfl] at hadd
  generalize hw0 : w.setCell ⟨b, 5, none⟩ (.int .i64 1) = w0 at *
  clear hw0
  go_enter Try.func76, Try.ntmps76
  go_wp2_with (first | (go_at_call 72; refine hadd.mono ?_; rintro e w' ⟨rfl, rfl⟩) | (go_at_call 81; refine hlen.mono ?_; rintro e w' ⟨rfl, rfl⟩))
  clear hadd hlen c0
  go_loopw [2, 13] (fun n i wr => ∃ k : Nat, k ≤ l.length ∧ i = .int .i64 k ∧ n = .int .u32 (cnt (l.take k)) ∧ MakeAt w b bv v l asked (aheadTo l k) wr) (fun _ i _ => l.length - (intOf i).toNat)
  case atStart => exact ⟨0, Nat.zero_le _, rfl, rfl, hM⟩
  case round =>
    obtain ⟨k, hk, rfl, rfl, hM⟩ := hrel
    obtain ⟨av, hb1, hv1, hown, hav, hkw⟩ := hM
    have hcl := cnt_le (l.take k)
    have hcl2 : (l.take k).length ≤ k := List.length_take_le _ _
    have hp : cnt (l.take k) ≤ 100000000 := by omega
    have hal := aheadTo_length l k
    have hsw := hkw.size
    by_cases hlt : k < l.length
    · have hcs := cnt_snoc l k hlt
      have hy : (l.getD k false).toNat ≤ 1 := by cases l.getD k false <;> simp
      by_cases hm : k % 512 = 0
      · have ht : ((k : Int) % 512 == 0) = true := by simp; omega
        have hah := aheadTo_hit l k hm
        have HH := Lib.hid (And.intro hah (And.intro hcs hm))
        have HB := Lib.hid hb1
        have c4 : wr.cell? ⟨b, 4, none⟩ = some av := World.cell_of_heap hb1 4
        have hlen : (aheadTo l k).length ≤ 1000000 := by omega
        clear hah hcs hm hb1 hal hcl hcl2
        go_wp2_with (at_builtin; refine wpList_append_lies _ rfl _ _ _ rfl 0 89 i (.int .u32 0) 1 4 Try.underlying98 hi hz0 hz1 hz2 rfl (by decide) av (aheadTo l k).length _ rfl (hown.alloc _) ⟨wr.heap.size, 0, none⟩ 1 1 [.int .u32 (cnt (l.take k) : Nat)] rfl rfl (cell_one_new _ _ _) ?c2 (by decide) ?c3 ?c4 ?c5 (wr.heap.size + 1) (by simp) ?_)
        case c2 => intro u hu; simp at hu; subst hu; rfl
        case c3 => unfold maxLen; omega
        case c4 => omega
        case c5 => simp
        intro g cap w1 hown1 hgrow hat hgl
        have hM2 := MakeAt.step HB.out hv1 hbo hav hbw hvw hvo hkw hown1 hgrow hat
        obtain ⟨av2, hb2, hv2, hown2, hav2, hkw2⟩ := hM2
        have k1 : Keeps (fun k => av.ownBlock = some k) wr w1 := ((Keeps.refl _ wr).alloc _).grown hgrow (fun k hk => .inl hk)
        have hb3 := k1.at HB.out (fun h => by have := hav b h; omega)
        have d4 : w1.cell? ⟨b, 4, none⟩ = some av := World.cell_of_heap hb3 4
        have d0 : w1.cell? ⟨b, 0, none⟩ = some (.pointer (some ⟨bv, 0, none⟩)) := World.cell_of_heap hb3 0
        have f4 := World.free_of_heap hb3 4
        have hA := at_in bv v l k _ hv2 hlt (by omega)
        have HM := Lib.hid (And.intro hb2 (And.intro hv2 (And.intro hown2 (And.intro hav2 hkw2))))
        clear hb2 hv2 hown2 hav2 hkw2 k1 hb3 hown1 hgrow hat hown c4
        generalize (l.getD k false).toNat = y at *
        go_wp2_with (go_at_call 79; refine hA.mono ?_; rintro e w2 ⟨rfl, rfl⟩)
        go_roundw
        case rel => exact ⟨k + 1, by omega, by go_num, by rw [HH.out.2.1]; go_num, by rw [HH.out.1]; exact ⟨_, HM.out⟩⟩
        case measure => simp [intOf]; omega
      · have ht : ((k : Int) % 512 == 0) = false := by simp; omega
        have hah := aheadTo_miss l k hm
        have HH := Lib.hid (And.intro hah (And.intro hcs hm))
        have d0 : wr.cell? ⟨b, 0, none⟩ = some (.pointer (some ⟨bv, 0, none⟩)) := World.cell_of_heap hb1 0
        have hA := at_in bv v l k _ hv1 hlt (by omega)
        have HM := Lib.hid (And.intro hb1 (And.intro hv1 (And.intro hown (And.intro hav hkw))))
        clear hah hcs hm hb1 hal hcl hcl2 hv1 hown hav hkw
        generalize (l.getD k false).toNat = y at *
        go_wp2_with (go_at_call 79; refine hA.mono ?_; rintro e w2 ⟨rfl, rfl⟩)
        go_roundw
        case rel => exact ⟨k + 1, by omega, by go_num, by rw [HH.out.2.1]; go_num, by rw [HH.out.1]; exact ⟨_, HM.out⟩⟩
        case measure => simp [intOf]; omega
    · obtain rfl : k = l.length := by omega
      have hta : l.take l.length = l := List.take_of_length_le (Nat.le_refl _)
      rw [hta] at hp ⊢
      have HL := Lib.hid (aheadTo_last l)
      have HB := Lib.hid hb1
      have c4 : wr.cell? ⟨b, 4, none⟩ = some av := World.cell_of_heap hb1 4
      have hlen : (aheadTo l l.length).length ≤ 1000000 := by omega
      clear hta hal hcl hcl2 hb1
      go_wp2_with (at_builtin; refine wpList_append_lies _ rfl _ _ _ rfl 0 89 i (.int .u32 0) 1 4 Try.underlying98 hi hz0 hz1 hz2 rfl (by decide) av (aheadTo l l.length).length _ rfl (hown.alloc _) ⟨wr.heap.size, 0, none⟩ 1 1 [.int .u32 (cnt l : Nat)] rfl rfl (cell_one_new _ _ _) ?d2 (by decide) ?d3 ?d4 ?d5 (wr.heap.size + 1) (by simp) ?_)
      case d2 => intro u hu; simp at hu; subst hu; rfl
      case d3 => unfold maxLen; omega
      case d4 => omega
      case d5 => simp
      intro g cap w1 hown1 hgrow hat hgl
      have hM2 := MakeAt.step HB.out hv1 hbo hav hbw hvw hvo hkw hown1 hgrow hat
      have k1 : Keeps (fun k => av.ownBlock = some k) wr w1 := ((Keeps.refl _ wr).alloc _).grown hgrow (fun k hk => .inl hk)
      have hb3 := k1.at HB.out (fun h => by have := hav b h; omega)
      have d4 : w1.cell? ⟨b, 4, none⟩ = some av := World.cell_of_heap hb3 4
      have f4 := World.free_of_heap hb3 4
      have HM := Lib.hid hM2
      clear hM2 k1 hb3 hown1 hgrow hat hown c4
      go_wp2
      go_end0
      exact ⟨rfl, by rw [HL.out]; exact HM.out⟩

end Go.Proofs.Ytlciacpffoekjaa
