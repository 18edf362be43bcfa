/- Contracts at nil, and of the reference's Good. -/
import Derived.Test.YtipelclohcdkcaaGreatOf
namespace Go.Proofs.YtipelclohcdkcaaGreat
open Go.RowKit

theorem mixOwner_out {wr : World} {b bo : Nat} {bi bp : Nat → Nat} {ks : List Nat} {q : Nat} {F : Nat → Prop} (h : MixP wr b bo bi bp ks q F) (i : Int) (hi : ¬ (0 ≤ i ∧ i < ks.length)) :
    Calls Tryz.prog 20 #[.pointer (some ⟨b, 0, none⟩), .int .i64 i] wr fun e w' => e = .returned (.tuple #[.int .i64 0, .int .i64 1]) ∧ wr = w' := by
  have hH := mixHas_out h i hi
  clear h hi
  go_enter Tryz.func20, Tryz.ntmps20
  go_wp2_with (go_at_call 97; refine hH.mono ?_; rintro e w' ⟨rfl, rfl⟩)
  go_ret2
  exact ⟨rfl, rfl⟩

theorem mixOwner_nil (i : Int) (w : World) :
    Calls Tryz.prog 20 #[.pointer none, .int .i64 i] w fun e w' => e = .returned (.tuple #[.int .i64 0, .int .i64 2]) ∧ w = w' := by
  go_enter Tryz.func20, Tryz.ntmps20
  go_wp2_with (go_at_call 97; refine (mixHas_nil i w).mono ?_; rintro e w' ⟨rfl, rfl⟩)
  go_ret2
  exact ⟨rfl, rfl⟩

theorem mixSize_nil (w : World) :
    Calls Tryz.prog 25 #[.pointer none] w fun e w' => e = .returned (.int .i64 0) ∧ w = w' := by
  go_enter Tryz.func25, Tryz.ntmps25
  go_wp2
  go_ret
  exact ⟨rfl, rfl⟩

theorem wordCount_nil (k : Int) (w : World) :
    Calls Tryz.prog 27 #[.pointer none, .int .i64 k] w fun e w' => e = .returned (.int .i64 0) ∧ w = w' := by
  go_enter Tryz.func27, Tryz.ntmps27
  go_wp2_with fail
  refine (wordLen_nil w).mono ?_
  rintro e w' ⟨rfl, rfl⟩
  go_wp2_with fail
  go_loop [5, 9] (fun n i => n = .int .i64 0 ∧ i = .int .i64 0) (fun _ _ => 0)
  case atStart => exact ⟨rfl, rfl⟩
  case round =>
    obtain ⟨rfl, rfl⟩ := hrel
    go_wp2
    go_ret
    exact ⟨rfl, rfl⟩

theorem wordBits_nil (w : World) :
    Calls Tryz.prog 29 #[.pointer none] w fun e w' => ∃ b2, e = .returned (.pointer (some ⟨b2, 0, none⟩)) ∧ VecNew w b2 [] w' := by
  have hN0 : VecNew w w.heap.size [] (w.alloc (.cells #[.slice none 0 0, .int .i64 0] 130)) := ⟨_, vec_new w, Nat.le_refl _, (fun k hk => by simp [Value.ownBlock] at hk), (Keeps.refl (fun _ => False) w).alloc _⟩
  go_enter Tryz.func29, Tryz.ntmps29
  go_wp2_with fail
  refine (new_any _).mono ?_
  rintro e w1 ⟨rfl, rfl⟩
  go_wp2_with fail
  refine (wordLen_nil _).mono ?_
  rintro e w' ⟨rfl, rfl⟩
  go_wp2_with fail
  go_loop [8] (fun i => i = .int .i64 0) (fun _ => 0)
  case atStart => exact rfl
  case round =>
    obtain rfl := hrel
    go_wp2
    go_ret
    exact ⟨_, rfl, hN0⟩

theorem wordText_nil (w : World) :
    Calls Tryz.prog 28 #[.pointer none] w fun e w' => e = .returned (.string ⟨#[]⟩) ∧ Keeps (fun _ => False) w w' := by
  have hB := builder_new w
  have hbl := (Below.refl w.heap.size w).alloc (Nat.le_refl _) (.cells #[.pointer none, .slice none 0 0] 122)
  have hsz : w.heap.size ≤ (w.alloc (.cells #[.pointer none, .slice none 0 0] 122)).heap.size := by simp
  have hS := Tryz.Builder_String_any w.heap.size w.heap.size [] (w.alloc (.cells #[.pointer none, .slice none 0 0] 122)) hB hsz
  have HB := Lib.hid hbl
  clear hB hbl hsz
  go_enter Tryz.func28, Tryz.ntmps28
  go_wp2_with fail
  refine (wordLen_nil _).mono ?_
  rintro e w1 ⟨rfl, rfl⟩
  go_wp2_with fail
  generalize World.alloc _ _ = wM at *
  go_loop [7] (fun i => i = .int .i64 0) (fun _ => 0)
  case atStart => exact rfl
  case round =>
    obtain rfl := hrel
    go_wp2_with fail
    refine hS.mono ?_
    rintro e w2 ⟨rfl, hb2⟩
    have HF : Hid (Keeps (fun _ => False) w w2) := Lib.hid (Keeps.of_below (HB.out.trans hb2) _)
    clear hb2 hS
    go_wp2
    go_ret
    exact ⟨rfl, HF.out⟩

theorem mixOf_nil (w : World) :
    Calls Tryz.prog 23 #[.pointer none] w fun e w' => ∃ b2, e = .returned (.tuple #[.pointer (some ⟨b2, 0, none⟩), .int .i64 0]) ∧ ParS w b2 [] w' := by
  have h0 : ParS w w.heap.size [] (w.alloc (.cells #[.slice none 0 0] 119)) := ⟨_, word_new w, Nat.le_refl _, (fun k hk => by simp [Value.ownBlock] at hk), (Keeps.refl _ w).alloc _⟩
  have HL := fun w => len_nil w
  go_enter Tryz.func23, Tryz.ntmps23
  go_wp2_with fail
  refine (len_nil w).mono ?_
  rintro e w' ⟨rfl, rfl⟩
  go_wp2_with fail
  refine (wordNew_any _).mono ?_
  rintro e w1 ⟨rfl, rfl⟩
  obtain ⟨b2, hb2⟩ : ∃ b, b = w.heap.size := ⟨_, rfl⟩
  rw [← hb2] at h0
  rw [← hb2]
  clear hb2
  generalize World.alloc _ _ = wM at *
  go_wp2_with fail
  go_loop [5] (fun i => i = .int .i64 0) (fun _ => 0)
  case atStart => exact rfl
  case round =>
    obtain rfl := hrel
    go_wp2_with fail
    refine (len_nil _).mono ?_
    rintro e w' ⟨rfl, rfl⟩
    go_wp2
    go_ret2
    exact ⟨b2, rfl, h0⟩

set_option maxHeartbeats 1000000 in
theorem refGood04_any (sv : Value) (ks : List Nat) (w : World) (hs : Sl .i64 w sv (nats ks)) (h4 : ∀ k ∈ ks, k < 4) (hl : ks.length ≤ 100000000) :
    Calls Tryz.prog 35 #[sv] w fun e w' => ∃ t : Bool, e = .returned (.bool t) ∧ (t = true ↔ MBal ks) ∧ Keeps (fun _ => False) w w' := by
  have h1 := refSort_any sv ks 0 w hs h4 hl
  have H2 : Hid (∀ W, Keeps (fun _ => False) w W → Calls Tryz.prog 116 #[sv, .int .i64 (1 : Nat)] W fun e w' => ∃ ov av, e = .returned (.tuple #[ov, av]) ∧ SortS W 1 ks ks.length ov av w') := Lib.hid (fun W hk => refSort_any sv ks 1 W (hs.keeps hk (fun _ _ h => h)) h4 hl)
  have hl0 : (ownZ 0 ks).length ≤ 100000000 := by rw [ownZ_length]; exact Nat.le_trans (ownB_le 0 ks) hl
  have hl1 : (ownZ 1 ks).length ≤ 100000000 := by rw [ownZ_length]; exact Nat.le_trans (ownB_le 1 ks) hl
  clear hs h4
  go_enter Tryz.func35, Tryz.ntmps35
  go_wp2_with fail
  refine h1.mono ?_
  rintro e w1 ⟨ov, av, rfl, ps, ho, _, _, _, hk1⟩
  rw [List.take_of_length_le (Nat.le_refl _)] at ho
  have h2 := H2.out w1 hk1
  clear h1
  have HO := Lib.hid ho
  have HK := Lib.hid hk1
  clear ho hk1
  go_wp2_with fail
  refine h2.mono ?_
  rintro e w2 ⟨ov2, av2, rfl, ps2, ho2, _, _, _, hk2⟩
  rw [List.take_of_length_le (Nat.le_refl _)] at ho2
  have g1 := refGood_any ov _ w2 (HO.out.keeps hk2 (fun _ _ h => h)).sl (ownZ_01 0 ks) hl0
  have g2 := refGood_any ov2 _ w2 ho2.sl (ownZ_01 1 ks) hl1
  rw [ownZ_bits] at g1 g2
  have HF := Lib.hid (HK.out.trans hk2 (fun _ _ h => h))
  clear h2 ho2 hk2
  go_wp2_with fail
  refine g1.mono ?_
  rintro e w3 ⟨⟨t, rfl, ht⟩, rfl⟩
  have HT := Lib.hid ht
  clear g1 ht
  cases t
  · clear g2
    go_wp2
    go_ret
    exact ⟨false, rfl, ⟨(fun h => by cases h), (fun h => by simpa using HT.out.2 h.1)⟩, HF.out⟩
  · go_wp2_with fail
    refine g2.mono ?_
    rintro e w4 ⟨⟨t2, rfl, ht2⟩, rfl⟩
    have HT2 := Lib.hid ht2
    clear g2 ht2
    go_wp2
    go_ret
    exact ⟨t2, rfl, ⟨fun h => ⟨HT.out.1 (by trivial), HT2.out.1 h⟩, fun h => HT2.out.2 h.2⟩, HF.out⟩

end Go.Proofs.YtipelclohcdkcaaGreat
