/- bytes.Buffer.Bytes, and bytes.NewBufferString. -/
import Derived.Test.YtblkkcpeodoclaaGreatDoorPtBuf2
namespace Go.Proofs.YtblkkcpeodoclaaGreatDoor
open Go.RowKit Go.Shelf

def natsB (t : List UInt8) : List Nat := t.map UInt8.toNat

set_option maxRecDepth 100000 in
theorem bufBytes_any (b g : Nat) (t : List UInt8) (w : World) (h : BufAt w b g t) (hpos : 0 < t.length) :
    Calls Tryz.prog 30 #[.pointer (some ⟨b, 0, none⟩)] w fun e w' => ∃ v, e = .returned v ∧ Sl .u8 w' v (nats (natsB t)) ∧ v.ownBlock = some g ∧ Keeps (fun _ => False) w w' := by
  obtain ⟨⟨cap, lr, hb, hlc, hcm, hcs⟩, hget, hne, hgw⟩ := h
  have hlen : (nats (natsB t)).length = t.length := by simp [nats, natsB]
  have hsl : ∀ w', Keeps (fun _ => False) w w' → Sl .u8 w' (.slice (some ⟨g, 0, none⟩) t.length cap) (nats (natsB t)) := fun w' hk => by
    refine ⟨some ⟨g, 0, none⟩, cap, (by rw [hlen]), (by rw [hlen]; exact hlc), (by unfold maxLen at hcm; omega), (fun h => nomatch h), fun i z hz => ⟨g, 0, rfl, ?_⟩⟩
    rw [World.cell?_of_block (hk.block g hgw (fun h => h)), Nat.zero_add]
    unfold nats natsB at hz
    rw [List.getElem?_map, List.getElem?_map] at hz
    cases hx : t[i]? with
    | none => rw [hx] at hz; cases hz
    | some x =>
      rw [hx] at hz
      simp only [Option.map_some, Option.some.injEq] at hz
      rw [hget i x hx, hz]
  have HS := Lib.hid hsl
  clear hsl hlen
  have c0 := World.cell_of_heap hb 0
  have d0 : w.cell? ⟨b, 0, none⟩ = some (.slice (some ⟨g, 0, none⟩) t.length cap) := c0
  have c1 := World.cell_of_heap hb 1
  have d1 : w.cell? ⟨b, 1, none⟩ = some (.int .i64 0) := c1
  obtain ⟨l, hl⟩ : ∃ l, l = t.length := ⟨_, rfl⟩
  rw [← hl] at hpos hlc d0 HS
  clear hb hcs hget c0 c1 hl
  have hcm' : cap ≤ 9223372036854775807 := by unfold maxLen at hcm; omega
  have hc0 : ¬ cap = 0 := by omega
  go_enter Tryz.func30, Tryz.ntmps30
  go_upto_region 1 with fail
  go_region_held3 (fun w' => w'.cell? ⟨b, 0, none⟩ = some (.slice (some ⟨g, 0, none⟩) l cap) ∧ w'.cell? ⟨b, 1, none⟩ = some (.int .i64 0)) (exact ⟨d0, d1⟩) (fail)
  go_wp2
  go_ret
  exact ⟨_, rfl, HS.out _ (Keeps.refl _ w).drew, rfl, (Keeps.refl _ w).drew⟩

set_option maxRecDepth 100000 in
theorem newBuffer_any (s : ByteArray) (w : World) (hs : s.size ≤ 1000000000) :
    Calls Tryz.prog 23 #[.string s] w fun e w' => ∃ b g, e = .returned (.pointer (some ⟨b, 0, none⟩)) ∧ BufAt w' b g s.data.toList ∧ w.heap.size ≤ b ∧ w.heap.size ≤ g ∧ Keeps (fun _ => False) w w' := by
  have hcv := fun w => Lib.run_convert_string_bytes (P := Tryz.prog) w 9 22 5 s Tryz.underlying9 Tryz.underlying22 Tryz.underlying5
  have hsl : s.data.toList.length = s.size := by rw [Array.length_toList]; rfl
  have hgc := grownCap_ge w s.size 0 5
  have hgm := grownCap_le_maxLen w s.size 0 5 (by unfold maxLen; omega)
  generalize hcap : grownCap w s.size 0 5 = cap at *
  have hend : ∀ W, W = (Lib.bytesWorld w 5 s).alloc (.cells #[.slice (some ⟨w.heap.size, 0, none⟩) s.size cap, .int .i64 0, .int .i8 0] 93) →
      BufAt W (w.heap.size + 1) w.heap.size s.data.toList ∧ Keeps (fun _ => False) w W := by
    rintro W rfl
    have hsz := Lib.bytesWorld_size w 5 s
    have hk0 : Keeps (fun _ => False) w (Lib.bytesWorld w 5 s) := ⟨rfl, rfl, rfl, by rw [hsz]; omega, fun k hk _ => Lib.bytesWorld_at_old w _ s k hk⟩
    have hk := hk0.alloc (.cells #[.slice (some ⟨w.heap.size, 0, none⟩) s.size cap, .int .i64 0, .int .i8 0] 93)
    have hnew := Lib.bytesWorld_at_new w 5 s
    have hnew2 := ((Keeps.refl (fun _ => False) (Lib.bytesWorld w 5 s)).alloc (.cells #[.slice (some ⟨w.heap.size, 0, none⟩) s.size cap, .int .i64 0, .int .i8 0] 93)).at hnew (fun h => h)
    have hbs : (Lib.bytesCells w 5 s).size = cap := by
      unfold Lib.bytesCells
      rw [hcap, Array.size_append, Array.size_map, Array.size_replicate]
      have : s.data.size = s.size := rfl
      omega
    have hblk := heap_alloc_new (Lib.bytesWorld w 5 s) (.cells #[.slice (some ⟨w.heap.size, 0, none⟩) s.size cap, .int .i64 0, .int .i8 0] 93)
    rw [hsz] at hblk
    refine ⟨⟨⟨cap, 0, by rw [hsl]; exact hblk, by rw [hsl]; exact hgc, hgm, fun j hj => ⟨?_, ?_⟩⟩, fun j x hx => ?_, by omega, lt_of_block hnew2⟩, hk⟩
    · rw [World.cell_of_heap hnew2]
      simp [hbs, hj]
    · unfold World.frozen?
      rw [show ((Lib.bytesWorld w 5 s).alloc (.cells #[.slice (some ⟨w.heap.size, 0, none⟩) s.size cap, .int .i64 0, .int .i8 0] 93)).heap[(⟨w.heap.size, j, none⟩ : Addr).block]? = _ from hnew2]
      simp only [hbs]
      simp
      omega
    · rw [World.cell_of_heap hnew2]
      have h1 := (List.getElem?_eq_some_iff.1 hx)
      obtain ⟨q1, q2⟩ := h1
      rw [hsl] at q1
      unfold Lib.bytesCells
      rw [Array.getElem?_append_left (by rw [Array.size_map]; exact q1), Array.getElem?_map]
      have : s.data[j]? = some x := by rw [← Array.getElem?_toList]; exact hx
      rw [this]; rfl
  have HE := Lib.hid hend
  clear hend hgm hgc
  have hsz := Lib.bytesWorld_size w 5 s
  go_enter Tryz.func23, Tryz.ntmps23
  go_wp2
  go_ret
  obtain ⟨e1, e2⟩ := HE.out _ rfl
  exact ⟨w.heap.size + 1, w.heap.size, rfl, e1, by omega, Nat.le_refl _, e2⟩

end Go.Proofs.YtblkkcpeodoclaaGreatDoor
