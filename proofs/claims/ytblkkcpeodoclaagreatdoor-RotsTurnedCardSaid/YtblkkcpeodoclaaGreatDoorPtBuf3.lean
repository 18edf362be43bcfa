/- bytes.Buffer.WriteString, Bytes, and bytes.NewBufferString. -/
import Derived.Test.YtblkkcpeodoclaaGreatDoorPtBuf2
namespace Go.Proofs.YtblkkcpeodoclaaGreatDoor
open Go.RowKit Go.Shelf

set_option maxRecDepth 100000 in
set_option maxHeartbeats 4000000 in
/-- WriteString of a text that is not empty. -/
theorem bufWrite_any (b g : Nat) (t : List UInt8) (s : ByteArray) (w : World) (h : BufAt w b g t) (hpos : 0 < t.length) (hs : 0 < s.size) (hlim : t.length + s.size ≤ 400000000000) :
    Calls Tryz.prog 28 #[.pointer (some ⟨b, 0, none⟩), .string s] w fun e w' => (∃ v, e = .returned v) ∧ ∃ g', BufAt w' b g' (t ++ s.data.toList) ∧ Keeps (fun x => x = b ∨ x = g) w w' ∧ (g' = g ∨ w.heap.size ≤ g') := by
  obtain ⟨⟨cap, lr, hb, hlc, hcm, hcs⟩, hget, hne, hgw⟩ := h
  obtain ⟨l, hl⟩ : ∃ l, l = t.length := ⟨_, rfl⟩
  have hsl : s.data.toList.length = s.size := by rw [Array.length_toList]; rfl
  obtain ⟨n, hn⟩ : ∃ n, n = s.size := ⟨_, rfl⟩
  have hi : ∀ w, (Go.sizeOf 5).run Tryz.prog w = .ok 1 w := fun w => by
    obtain ⟨i0, hi, hz0, hz1, hz2⟩ := info_parts infoY
    simp [Go.sizeOf, typeInfo, hi, hz1]
  -- what the last copy does
  have hend : ∀ (W : World) (g' cap' : Nat) (lr' : Int), W.heap[b]? = some (.cells #[.slice (some ⟨g', 0, none⟩) (l + n) cap', .int .i64 0, .int .i8 lr'] 93 (0, 0)) → l + n ≤ cap' → cap' ≤ maxLen →
      (∀ j, j < cap' → (W.cell? ⟨g', j, none⟩).isSome = true ∧ W.frozen? ⟨g', j, none⟩ = false) → (∀ (j : Nat) (x : UInt8), t[j]? = some x → W.cell? ⟨g', j, none⟩ = some (.int .u8 x.toNat)) → b ≠ g' → g' < W.heap.size →
      (Builtin.copy_ #[22, 9] 3 #[.slice (some ⟨g', l, none⟩) n (cap' - l), .string s]).run Tryz.prog W = .ok (goInt n) (W.setCells g' l (s.data.toList.map fun x => Value.int .u8 (x.toNat : Int))) ∧
      BufAt (W.setCells g' l (s.data.toList.map fun x => Value.int .u8 (x.toNat : Int))) b g' (t ++ s.data.toList) := by
    intro W g' cap' lr' h1 h2 h3 h4 h5 h6 h7
    have hml : (s.data.toList.map fun x => Value.int .u8 (x.toNat : Int)).length = n := by rw [List.length_map, hsl, hn]
    have hk := Keeps.setCells (F := fun x => x = g') (.inl rfl) (s.data.toList.map fun x => Value.int .u8 (x.toNat : Int)) l W (Keeps.refl _ W)
    refine ⟨?_, ⟨cap', lr', ?_, ?_, h3, fun j hj => ⟨?_, ?_⟩⟩, fun j x hx => ?_, h6, Nat.lt_of_lt_of_le h7 hk.size⟩
    · have := run_copy_string (P := Tryz.prog) W 22 9 3 5 g' l n (cap' - l) s Tryz.underlying22 hi (by omega) (fun j hj => (h4 _ (by omega)).1) (fun j hj => (h4 _ (by omega)).2)
      rw [← hn] at this
      exact this
    · rw [List.length_append, hsl, ← hl, ← hn]
      exact hk.at h1 h6
    · rw [List.length_append, hsl, ← hl, ← hn]; exact h2
    · exact World.isSome_setCells _ _ _ _ _ (h4 j hj).1
    · rw [World.frozen?_setCells]; exact (h4 j hj).2
    · by_cases hj : j < l
      · rw [List.getElem?_append_left (by omega)] at hx
        rw [World.cell?_setCells_out _ _ _ _ _ (fun _ _ => .inl hj)]
        exact h5 j x hx
      · rw [List.getElem?_append_right (by omega)] at hx
        have hjn : j - l < (s.data.toList.map fun x => Value.int .u8 (x.toNat : Int)).length := by rw [List.length_map]; have := (List.getElem?_eq_some_iff.1 hx).1; omega
        have := World.cell?_setCells_in g' (s.data.toList.map fun x => Value.int .u8 (x.toNat : Int)) l W (fun q hq => (h4 _ (by rw [hml] at hq; omega)).1) (j - l) hjn
        rw [show l + (j - l) = j by omega] at this
        rw [this]
        obtain ⟨q1, q2⟩ := List.getElem?_eq_some_iff.1 hx
        simp only [List.getElem_map]
        congr 3
        rw [← q2]
        congr 1
        congr 1
        omega
  have HEnd := Lib.hid hend
  have hcopy0 := hend
  clear hend hcopy0
  have c0 : w.cell? ⟨b, 0, none⟩ = some (.slice (some ⟨g, 0, none⟩) l cap) := by rw [hl]; exact World.cell_of_heap hb 0
  have f2 := World.free_of_heap hb 2
  have c2 : w.cell? ⟨b, 2, none⟩ = some (.int .i8 lr) := World.cell_of_heap hb 2
  have z1 := Lib.heap_setCell_same (i := 2) hb (.int .i8 0)
  have hk1 : Keeps (fun x => x = b) w (w.setCell ⟨b, 2, none⟩ (.int .i8 0)) := (Keeps.refl (fun x => x = b) w).setCell (p := ⟨b, 2, none⟩) (.inl rfl) _
  have hget1 : ∀ (j : Nat) (x : UInt8), t[j]? = some x → (w.setCell ⟨b, 2, none⟩ (.int .i8 0)).cell? ⟨g, j, none⟩ = some (.int .u8 x.toNat) := fun j x hx => by
    rw [World.cell?_of_block (hk1.block g hgw (fun h => hne h.symm))]; exact hget j x hx
  have d0 : (w.setCell ⟨b, 2, none⟩ (.int .i8 0)).cell? ⟨b, 0, none⟩ = some (.slice (some ⟨g, 0, none⟩) l cap) := by rw [hl]; exact World.cell_of_heap z1 0
  have g0 : (w.setCell ⟨b, 2, none⟩ (.int .i8 0)).frozen? ⟨b, 0, none⟩ = false := World.free_of_heap z1 0
  by_cases hroom : n ≤ cap - l
  · have hT := tryGrow_room b g l cap n (w.setCell ⟨b, 2, none⟩ (.int .i8 0)) d0 g0 (by omega) hcm hroom
    have z2 := Lib.heap_setCell_same (i := 0) z1 (.slice (some ⟨g, 0, none⟩) (l + n) cap)
    have hk2 : Keeps (fun x => x = b) w ((w.setCell ⟨b, 2, none⟩ (.int .i8 0)).setCell ⟨b, 0, none⟩ (.slice (some ⟨g, 0, none⟩) (l + n) cap)) := hk1.setCell (p := ⟨b, 0, none⟩) (.inl rfl) _
    have hgb : ¬ g = b := fun h => hne h.symm
    have hblk := hk2.block g hgw hgb
    have hfin := HEnd.out _ g cap 0 z2 (by omega) hcm (fun j hj => by
      rw [World.cell?_of_block hblk]
      refine ⟨(hcs j hj).1, ?_⟩
      have := (hcs j hj).2
      unfold World.frozen? at this ⊢
      rw [show ((w.setCell ⟨b, 2, none⟩ (.int .i8 0)).setCell ⟨b, 0, none⟩ (.slice (some ⟨g, 0, none⟩) (l + n) cap)).heap[(⟨g, j, none⟩ : Addr).block]? = w.heap[(⟨g, j, none⟩ : Addr).block]? from hblk]
      exact this) (fun j x hx => by rw [World.cell?_of_block hblk]; exact hget j x hx) hne (Nat.lt_of_lt_of_le hgw hk2.size)
    have hcopy := hfin.1
    have x0 : ((w.setCell ⟨b, 2, none⟩ (.int .i8 0)).setCell ⟨b, 0, none⟩ (.slice (some ⟨g, 0, none⟩) (l + n) cap)).cell? ⟨b, 0, none⟩ = some (.slice (some ⟨g, 0, none⟩) (l + n) cap) := World.cell_of_heap z2 0
    have HF := Lib.hid (And.intro hfin.2 hk2)
    have HTT := Lib.hid hT
    have hcl : ¬ cap = l := by omega
    have hcm' : cap ≤ 9223372036854775807 := by unfold maxLen at hcm; omega
    have hcl' : l < cap := by omega
    clear hT hfin hk2 hblk z1 z2 hk1 hget1 hget hcs hb hroom HEnd hl hsl d0 g0 hgb
    subst hn
    go_enter Tryz.func28, Tryz.ntmps28
    go_wp2_with fail
    refine HTT.out.mono ?_
    rintro e w2 ⟨rfl, rfl⟩
    go_wp2
    refine bodyPost_ret (v := .tuple #[.int .i64 s.size, .nilIface]) (by simp [results, Tryz.results28, go_sem]) rfl ⟨⟨_, rfl⟩, g, HF.out.1, Keeps.setCells (.inl (.inr rfl)) _ _ _ (HF.out.2.mono (fun _ _ h => .inl h)), .inl rfl⟩
  · have hT := tryGrow_none b g l cap n (w.setCell ⟨b, 2, none⟩ (.int .i8 0)) d0 (by omega) hcm (by omega)
    have hG := bufGrow_any b g n cap 0 t (w.setCell ⟨b, 2, none⟩ (.int .i8 0)) z1 hlc hcm hget1 (Nat.lt_of_lt_of_le hgw hk1.size) hpos (by omega) (by omega)
    rw [← hl] at hG
    have HTT := Lib.hid (And.intro hT (And.intro hG hk1))
    have hlim' : l + n ≤ 400000000000 := by omega
    have hlp : 0 < l := by omega
    clear hT hG z1 hk1 hget1 hget hcs hb hroom hl hsl d0 g0 hlc hpos hlim
    subst hn
    go_enter Tryz.func28, Tryz.ntmps28
    go_wp2_with fail
    refine HTT.out.1.mono ?_
    rintro e w2 ⟨rfl, rfl⟩
    go_wp2_with fail
    refine HTT.out.2.1.mono ?_
    rintro e w3 ⟨rfl, g', cap', lr', h1, h2, h3, h4, h5, h6, h7, h8, h9⟩
    have hfin := HEnd.out w3 g' cap' lr' h1 h2 h3 h4 h5 h6 h7
    have hcopy := hfin.1
    have x0 := World.cell_of_heap h1 0
    have x1 : w3.cell? ⟨b, 0, none⟩ = some (.slice (some ⟨g', 0, none⟩) (l + s.size) cap') := x0
    have HF := Lib.hid (And.intro hfin.2 (And.intro h8 (HTT.out.2.2.trans h9 (fun _ _ h => h))))
    have hcl : ¬ cap' = l := by omega
    have hcl' : l < cap' := by omega
    have hcm' : cap' ≤ 9223372036854775807 := by unfold maxLen at h3; omega
    clear hfin h1 h3 h4 h5 h8 h9 x0
    go_wp2
    refine bodyPost_ret (v := .tuple #[.int .i64 s.size, .nilIface]) (by simp [results, Tryz.results28, go_sem]) rfl ⟨⟨_, rfl⟩, g', HF.out.1, Keeps.setCells (.inr (Nat.le_trans (by simp [World.setCell]) HF.out.2.1)) _ _ _ (HF.out.2.2.mono (fun _ _ h => .inl h)), .inr (Nat.le_trans (by simp [World.setCell]) HF.out.2.1)⟩

end Go.Proofs.YtblkkcpeodoclaaGreatDoor
