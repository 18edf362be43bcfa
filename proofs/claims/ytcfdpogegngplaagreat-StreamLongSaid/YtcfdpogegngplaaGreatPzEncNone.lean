/- file.Encode of a map without darts, without labels. -/
import Derived.Test.YtcfdpogegngplaaGreatPzCanW
import Derived.Test.YtcfdpogegngplaaGreatPzHead
import Derived.Test.YtcfdpogegngplaaGreatPzCrc
import Derived.Test.YtcfdpogegngplaaGreatPzNums
namespace Go.Proofs.YtcfdpogegngplaaGreat
open Go.RowKit

theorem parts_none {w : World} {b : Nat} {root lone : Int} {R : Nat → Prop} (h : MapAt w b [] root lone R) :
    Calls Tryz.prog 95 #[.pointer (some ⟨b, 0, none⟩)] w fun e w' => e = .returned (.slice none 0 0) ∧ Keeps (fun _ => False) w w' := by
  have HH : Hid (∀ W, Keeps (fun _ => False) w W → MapAt W b [] root lone R) := Lib.hid (fun W hk => h.keeps hk (fun h => h) (fun _ _ h => h))
  have hN := eulerNames_any h
  clear h
  go_enter Tryz.func95, Tryz.ntmps95
  go_wp2_with fail
  refine hN.mono ?_
  clear hN
  rintro e w1 ⟨g, rfl, zs, hz1, hz2, hz3, hk1⟩
  have hD := mapDarts_any (HH.out w1 hk1)
  have HK := Lib.hid hk1
  clear hz1 hz2 hz3 hk1
  go_wp2_with fail
  refine wp_loop_once ?_
  go_wp2_with fail
  refine hD.mono ?_
  rintro e w2 ⟨rfl, rfl⟩
  go_wp2_with fail
  go_ret
  exact ⟨rfl, HK.out⟩

theorem genS_lone (l : Nat) : genS (partsA [] l) = 0 := by
  have h1 : partsA [] l = List.replicate l [-1, 1, 0, 1, 0] := by unfold partsA partsL; simp
  rw [h1]
  unfold genS
  rw [List.map_replicate]
  simp

/-- The bytes ahead of the sum. -/
def ownN (p : Bool) (lone : Nat) : List Nat := [80, 81] ++ [flN false p false] ++ vaB lone ++ vaB 0

set_option maxRecDepth 100000 in
set_option maxHeartbeats 4000000 in
theorem encode_none {w : World} {b : Nat} {root : Int} {lone : Nat} {R : Nat → Prop} (h : MapAt w b [] root lone R) (p : Bool) :
    Calls Tryz.prog 53 #[.pointer (some ⟨b, 0, none⟩), optV false p false] w fun e w' => ∃ v, e = .returned (.tuple #[v, .int .i64 0, .int .i64 0]) ∧ OwnY w.heap.size w' v (ownN p lone ++ four (crcV (ownN p lone))) ∧ Keeps (fun k => k = b) w w' := by
  have hnot : ∀ (x : Bool) (w : World), (Op.unary .not (.bool x)).run Tryz.prog w = .ok (.bool (!x)) w := fun _ _ => rfl
  have ka := (Keeps.refl (fun _ => False) w).alloc (.cells #[.bool false, .bool p, .bool false] 35)
  have hblk := heap_alloc_new w (.cells #[.bool false, .bool p, .bool false] 35)
  have hA := h.keeps ka (fun h => h) (fun _ _ h => h)
  have hP := eulerPlanar_any hA
  rw [genS_lone, decide_eq_true (rfl : (0 : Int) = 0)] at hP
  have hbw := h.lt
  have HA := Lib.hid (And.intro ka (And.intro hblk hbw))
  clear h ka hblk hA
  unfold optV
  go_enter Tryz.func53, Tryz.ntmps53
  go_wp2_with fail
  refine hP.mono ?_
  clear hP
  rintro e w1 ⟨rfl, hq⟩
  have hC := canon_none hq.1
  have HQ := Lib.hid hq
  clear hq
  go_wp2_with fail
  refine hC.mono ?_
  clear hC
  rintro e w2 ⟨cv, rfl, hk2⟩
  have hA2 := HQ.out.1.keeps hk2 (fun h => h) (fun _ _ h => h)
  have hPt := parts_none hA2
  have HQ2 := Lib.hid (And.intro hk2 hA2)
  clear hk2 hA2
  go_wp2_with fail
  refine hPt.mono ?_
  clear hPt
  rintro e w3 ⟨rfl, hk3⟩
  have hA3 := HQ2.out.2.keeps hk3 (fun h => h) (fun _ _ h => h)
  have hK3 : Keeps (fun k => k = b) w w3 := ((HA.out.1.mono (fun _ _ h => h.elim) : Keeps (fun k => k = b) w _).trans HQ.out.2 (fun _ _ h => h)).trans (HQ2.out.1.trans hk3 (fun _ _ h => h)) (fun _ _ h => h.elim)
  have hblk3 : w3.heap[w.heap.size]? = some (.cells #[.bool false, .bool p, .bool false] 35 (0, 0)) := by
    have h1 := HQ.out.2.at HA.out.2.1 (fun e => by have := HA.out.2.2; omega)
    exact hk3.at (HQ2.out.1.at h1 (fun h => h)) (fun h => h)
  have H3 := Lib.hid (And.intro hA3 (And.intro hK3 hblk3))
  clear hA3 hK3 hblk3 hk3
  have kc := Go.Joins.run_convert_bytes_const_at (P := Tryz.prog) w3 30 5 #[.int .u8 80, .int .u8 81] 2 2 w3.heap.size rfl Tryz.underlying30 Tryz.underlying5
  have k4 := (Keeps.refl (fun _ => False) w3).alloc (.cells #[.int .u8 80, .int .u8 81] 5 (2, 3))
  have hb4 := k4.at H3.out.2.2 (fun h => h)
  have d0 := World.cell_of_heap hb4 0
  have d1 := World.cell_of_heap hb4 1
  have d2 := World.cell_of_heap hb4 2
  have hFl := fileFlags_any false p false (w3.alloc (.cells #[.int .u8 80, .int .u8 81] 5 (2, 3)))
  have hs4 : Sl .u8 (w3.alloc (.cells #[.int .u8 80, .int .u8 81] 5 (2, 3))) (.slice (some ⟨w3.heap.size, 0, none⟩) 2 2) (nats [80, 81]) := lit2Y w3 80 81
  have H4 := Lib.hid (And.intro k4 (And.intro hb4 hs4))
  clear k4 hb4 hs4
  unfold optV at hFl
  go_wp2_with fail
  refine hFl.mono ?_
  clear hFl
  rintro e w5 ⟨rfl, hk5⟩
  obtain ⟨fl, hfl⟩ : ∃ fl, fl = flN false p false := ⟨_, rfl⟩
  rw [← hfl]
  have hfl256 : fl < 256 := by rw [hfl]; have := flN_lt false p false; omega
  have hs5 := H4.out.2.2.keeps hk5 (fun _ _ h => h)
  have k6 := (Keeps.refl (fun _ => False) w5).alloc (.cells #[.int .u8 (fl : Int)] 5)
  have hs6 := hs5.keeps k6 (fun _ _ h => h)
  have hlit6 := Sl.one w5 .u8 (fl : Int) 5
  have H5 := Lib.hid (And.intro (H4.out.1.trans hk5 (fun _ _ h => h)) (And.intro k6 hfl))
  clear hk5 hs5 kc d0 d1 d2 k6 hfl
  go_wp2_with (at_builtin; refine growY rfl _ _ rfl (some ⟨w3.heap.size, 0, none⟩) 2 1 1 ⟨w5.heap.size, 0, none⟩ [80, 81] [fl] rfl rfl hs6 hlit6 (by decide) (by decide) ?_; intro v7 w7 hO7 hk7)
  clear hs6 hlit6
  have k37 := H5.out.1.trans (H5.out.2.1.trans hk7 (fun _ _ h => h)) (fun _ _ h => h)
  have hA7 := H3.out.1.keeps k37 (fun h => h) (fun _ _ h => h)
  have hLo := mapLone_any hA7
  have hlone := H3.out.1.ln
  have HO7 : Hid (OwnY w.heap.size w7 v7 ([80, 81] ++ [fl]) ∧ Keeps (fun _ => False) w3 w7) := Lib.hid ⟨hO7.mono (fun q hq => by
    have h1 := (hO7.lt q hq).1
    have h2 := H5.out.1.size
    have h3 := H3.out.2.1.size
    simp at h1
    omega), k37⟩
  have hNm := packNum_any v7 ([80, 81] ++ [fl]) lone w7 hO7.sl (by simp) (by omega)
  clear hO7 hk7 k37 hA7
  go_wp2_with fail
  refine hLo.mono ?_
  clear hLo
  rintro e w7' ⟨rfl, rfl⟩
  go_wp2_with fail
  refine hNm.mono ?_
  clear hNm
  rintro e w8 ⟨v8, rfl, hO8, hk8⟩
  have hv10 := vaB_len10 (x := lone) (by omega)
  have hNm2 := packNum_any v8 ([80, 81] ++ [fl] ++ vaB lone) 0 w8 hO8.sl (by simp; omega) (by decide)
  have H8 := Lib.hid (HO7.out.2.trans hk8 (fun _ _ h => h))
  clear hO8 hk8
  go_wp2_with fail
  refine hNm2.mono ?_
  clear hNm2
  rintro e w9 ⟨v9, rfl, hO9, hk9⟩
  have H9 : Hid (OwnY w.heap.size w9 v9 (ownN p lone) ∧ Keeps (fun _ => False) w3 w9) := Lib.hid ⟨by
    have h1 : ownN p lone = [80, 81] ++ [fl] ++ vaB lone ++ vaB 0 := by unfold ownN; rw [H5.out.2.2]
    rw [h1]
    exact hO9.mono (fun q hq => by
      have h1 := (hO9.lt q hq).1
      have h2 := H8.out.size
      have h3 := H3.out.2.1.size
      omega), H8.out.trans hk9 (fun _ _ h => h)⟩
  clear hO9 hk9
  go_wp2_with fail
  refine wp_loop_once ?_
  have hb9 := H9.out.2.at H3.out.2.2 (fun h => h)
  have d2 := World.cell_of_heap hb9 2
  have hol : (ownN p lone).length ≤ 100 := by unfold ownN; simp [vaB_small (show 0 < 128 by decide)]; omega
  have ho256 : ∀ x ∈ ownN p lone, x < 256 := by
    intro x hx
    unfold ownN at hx
    rcases List.mem_append.1 hx with hx | hx
    · rcases List.mem_append.1 hx with hx | hx
      · simp at hx
        have := flN_lt false p false
        omega
      · exact vaB_lt _ x hx
    · exact vaB_lt _ x hx
  have hOf := crcOf_any v9 (ownN p lone) w9 H9.out.1.sl (fun q hq => (H9.out.1.lt q hq).2) ho256 (by omega)
  have hcv := crcV_lt ho256
  have hPu := fun W (hW : Keeps (fun _ => False) w9 W) => crcPut_any v9 (ownN p lone) (crcV (ownN p lone)) W (H9.out.1.sl.keeps hW (fun _ _ h => h)) (by omega) hcv
  have HPU := Lib.hid hPu
  clear hb9 ho256 hcv hPu hol
  go_wp2_with fail
  refine hOf.mono ?_
  clear hOf
  rintro e w10 ⟨rfl, hk10⟩
  have hPu := HPU.out w10 hk10
  have HK10 := Lib.hid hk10
  clear hk10
  go_wp2_with fail
  refine hPu.mono ?_
  clear hPu
  rintro e w11 ⟨v11, rfl, hO11, hk11⟩
  have HF : Hid (OwnY w.heap.size w11 v11 (ownN p lone ++ four (crcV (ownN p lone))) ∧ Keeps (fun k => k = b) w w11) := Lib.hid ⟨hO11.mono (fun q hq => by
      have h1 := (hO11.lt q hq).1
      have h2 := H9.out.2.size
      have h3 := H3.out.2.1.size
      have h4 := HK10.out.size
      omega), H3.out.2.1.trans ((H9.out.2.trans HK10.out (fun _ _ h => h)).trans hk11 (fun _ _ h => h)) (fun _ _ h => h.elim)⟩
  clear hO11 hk11
  go_wp2_with fail
  refine bodyPost_ret (v := .tuple #[v11, .int .i64 0, .int .i64 0]) (by simp [results, Tryz.results53, go_sem]) rfl ?_
  exact ⟨v11, rfl, HF.out⟩

theorem Encode_none {w : World} {b : Nat} {root : Int} {lone : Nat} {R : Nat → Prop} (h : MapAt w b [] root lone R) (p : Bool) :
    Calls Tryz.prog 17 #[.pointer (some ⟨b, 0, none⟩), optV false p false] w fun e w' => ∃ v, e = .returned (.tuple #[v, .int .i64 0]) ∧ OwnY w.heap.size w' v (ownN p lone ++ four (crcV (ownN p lone))) ∧ Keeps (fun k => k = b) w w' := by
  have ka := (Keeps.refl (fun _ => False) w).alloc (.cells #[.bool false, .bool p, .bool false] 35)
  have hE := encode_none (h.keeps ka (fun h => h) (fun _ _ h => h)) p
  have HA := Lib.hid ka
  clear h ka
  unfold optV at hE ⊢
  go_enter Tryz.func17, Tryz.ntmps17
  go_wp2_with fail
  refine hE.mono ?_
  clear hE
  rintro e w1 ⟨v, rfl, hO, hk⟩
  have HF : Hid (OwnY w.heap.size w1 v (ownN p lone ++ four (crcV (ownN p lone))) ∧ Keeps (fun k => k = b) w w1) := Lib.hid ⟨hO.mono (fun q hq => by have h1 := (hO.lt q hq).1; have := HA.out.size; omega), (HA.out.mono (fun _ _ h => h.elim) : Keeps (fun k => k = b) w _).trans hk (fun _ _ h => h)⟩
  clear hO hk
  go_wp2_with fail
  refine bodyPost_ret (v := .tuple #[v, .int .i64 0]) (by simp [results, Tryz.results17, go_sem]) rfl ?_
  exact ⟨v, rfl, HF.out⟩

end Go.Proofs.YtcfdpogegngplaaGreat
