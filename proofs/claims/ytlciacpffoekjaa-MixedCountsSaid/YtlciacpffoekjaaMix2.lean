/- The contracts of package mixed: Mate. -/
import Derived.Test.YtlciacpffoekjaaMix
namespace Go.Proofs.Ytlciacpffoekjaa
open Go.RowKit

theorem alloc_cell {w : World} {a : Addr} {v : Value} (h : w.cell? a = some v) (o : Obj) : (w.alloc o).cell? a = some v := ((Keeps.refl (fun _ => False) w).alloc o).cellF h
theorem drewN_cell {w W : World} {a : Addr} {v : Value} {n : Nat} (hW : W = w.drewN n) (h : w.cell? a = some v) : W.cell? a = some v := by rw [hW]; exact h

theorem set01_cell {w : World} {g b o : Nat} {v : Value} (h : w.cell? ⟨b, o, none⟩ = some v) (h1 : b ≠ g) (x y : Value) : ((w.setCell ⟨g, 0, none⟩ x).setCell ⟨g, 1, none⟩ y).cell? ⟨b, o, none⟩ = some v := by
  rw [World.cell?_setCell_other _ _ _ _ (fun e => h1 (congrArg Addr.block e).symm), World.cell?_setCell_other _ _ _ _ (fun e => h1 (congrArg Addr.block e).symm)]
  exact h

theorem MixQ.join {wh wr W2 w7 : World} {b bo : Nat} {bi bp : Nat → Nat} {ks : List Nat} {q q' : Nat} {F : Nat → Prop} (hF : ∀ x, F x → x < wh.heap.size) (h : MixQ wh b bo bi bp ks q F wr) (k : Keeps (fun _ => False) wr W2) (m : MixQ W2 b bo bi bp ks q' (grow F wh wr) w7) : MixQ wh b bo bi bp ks q' F w7 := by
  have hs := Nat.le_trans h.2.size (Nat.le_trans k.size m.2.size)
  refine ⟨m.1.mono (fun x hx => ?_) (grow_old hF hs), (h.2.trans k (fun _ _ h => h.elim)).trans m.2 (fun x hx hg => ?_)⟩
  · rcases hx with (hx | hx) | hx
    · exact .inl hx
    · exact .inr ⟨hx.1, by have := k.size; have := m.2.size; omega⟩
    · exact .inr ⟨by have := h.2.size; have := k.size; omega, hx.2⟩
  · rcases hg with hg | hg
    · exact hg
    · omega

section
variable {wh wr : World} {b bo : Nat} {bi bp : Nat → Nat} {ks : List Nat} {q : Nat} {F : Nat → Prop} (hF : ∀ x, F x → x < wh.heap.size) (h : MixQ wh b bo bi bp ks q F wr)
include hF h

theorem mRank (s n : Nat) (hs : s < 2) (hq : q ≤ 1000000000) (hn : n ≤ ks.length) :
    Calls Try.prog 20 #[.pointer (some ⟨bi s, 0, none⟩), .int .i64 1, .int .i64 n] wr fun e w' => e = .returned (.tuple #[.int .i64 (pr s ks n : Nat), .int .i64 0]) ∧ MixQ wh b bo bi bp ks (q + 1) F w' := by
  obtain ⟨d, a, Fi, hI, ha, hc⟩ := h.1.idx s hs
  refine (Rank_in (bi s) _ d a Fi 1 n wr hI (by omega) (.inr rfl) (by rw [isB_length]; exact hn)).mono ?_
  rintro e w' ⟨rfl, hA⟩
  rw [rk_isB]
  exact ⟨rfl, h.trans hF (hc w' (q + 1) true (a + 1) (by omega) (by omega) hA)⟩

theorem mSelect (s j n : Nat) (hs : s < 2) (hq : q ≤ 1000000000) (hn : SelAt s ks j n) :
    Calls Try.prog 21 #[.pointer (some ⟨bi s, 0, none⟩), .int .i64 1, .int .i64 j] wr fun e w' => e = .returned (.tuple #[.int .i64 n, .int .i64 0]) ∧ MixQ wh b bo bi bp ks (q + 1) F w' := by
  obtain ⟨d, a, Fi, hI, ha, hc⟩ := h.1.idx s hs
  have hj := hn.jlt
  rw [ownB_length] at hj
  refine (Select_in (bi s) _ d a Fi 1 j wr hI (by omega) (.inr rfl) (by omega) (by rw [isB_length, rk_isB]; omega)).mono ?_
  rintro e w' ⟨m, rfl, hm, hA⟩
  have := hn.unique (SelAt.isSel.2 hm)
  subst this
  exact ⟨rfl, h.trans hF (hc w' (q + 1) true (a + 1) (by omega) (by omega) hA)⟩

theorem mExc (s n : Nat) (hs : s < 2) (hq : q ≤ 1000000000) (hn : n ≤ (ownB s ks).length) :
    Calls Try.prog 45 #[.pointer (some ⟨bp s, 0, none⟩), .int .i64 n] wr fun e w' => e = .returned (.tuple #[.int .i64 (ex (ownB s ks) n), .int .i64 0]) ∧ MixQ wh b bo bi bp ks (q + 1) F w' := by
  obtain ⟨d, Fp, hI, hc⟩ := h.1.par s hs
  refine (Excess_in hI.old hI.after n (by omega) hn).mono ?_
  rintro e w' ⟨rfl, hA⟩
  exact ⟨rfl, h.trans hF (hc w' (q + 1) d (by omega) hA)⟩

theorem mMate (s n m : Nat) (hs : s < 2) (hq : q ≤ 1000000000) (hm : MateOf (ownB s ks) n m) :
    Calls Try.prog 43 #[.pointer (some ⟨bp s, 0, none⟩), .int .i64 n] wr fun e w' => e = .returned (.tuple #[.int .i64 m, .int .i64 0]) ∧ MixQ wh b bo bi bp ks (q + 2) F w' := by
  obtain ⟨d, Fp, hI, hc⟩ := h.1.par s hs
  refine (Mate_in hI.old hI.after n m (by omega) hm.symm.lt hm).mono ?_
  rintro e w' ⟨rfl, hA⟩
  exact ⟨rfl, h.trans hF (hc w' (q + 2) true (by omega) hA)⟩

theorem mRound (s n : Nat) (r : Int) (hs : s < 2) (hq : q ≤ 1000000000) (hn : n < (ownB s ks).length) (hm : RoundOf (ownB s ks) n r) :
    Calls Try.prog 44 #[.pointer (some ⟨bp s, 0, none⟩), .int .i64 n] wr fun e w' => e = .returned (.tuple #[.int .i64 r, .int .i64 0]) ∧ MixQ wh b bo bi bp ks (q + 4) F w' := by
  obtain ⟨d, Fp, hI, hc⟩ := h.1.par s hs
  refine (Round_in hI.old hI.after n r (by omega) hn hm).mono ?_
  rintro e w' ⟨rfl, hA⟩
  exact ⟨rfl, h.trans hF (hc w' (q + 4) true (by omega) hA)⟩

omit hF in
theorem mOpen (s n : Nat) (hs : s < 2) (hn : n < (ownB s ks).length) :
    Calls Try.prog 38 #[.pointer (some ⟨bp s, 0, none⟩), .int .i64 n] wr fun e w' => e = .returned (.bool ((ownB s ks).getD n false)) ∧ wr = w' := by
  obtain ⟨d, Fp, hI, hc⟩ := h.1.par s hs
  have := parOpen_any (bp s) (ownB s ks) n wr hI.idx
  rw [open_bool hn] at this
  exact this

omit hF in
theorem MixQ.drewN (n : Nat) : MixQ wh b bo bi bp ks q F (wr.drewN n) := h.keeps (G := fun _ => False) ((Keeps.refl _ wr).drewN n) (fun _ _ h => h)
omit hF in
theorem MixQ.drew : MixQ wh b bo bi bp ks q F wr.drew := h.keeps (G := fun _ => False) ((Keeps.refl _ wr).drew) (fun _ _ h => h)
omit hF in
theorem MixQ.alloc (o : Obj) : MixQ wh b bo bi bp ks q F (wr.alloc o) := h.keeps (G := fun _ => False) ((Keeps.refl _ wr).alloc o) (fun _ _ h => h)

set_option maxRecDepth 100000 in
set_option maxHeartbeats 2000000 in
theorem mixMate_in (i m : Nat) (hq : q ≤ 100000000) (hm : MixMate ks i m) :
    Calls Try.prog 56 #[.pointer (some ⟨b, 0, none⟩), .int .i64 i] wr fun e w' => e = .returned (.tuple #[.int .i64 m, .int .i64 0]) ∧ MixQ wh b bo bi bp ks (q + 4) F w' := by
  have hi := hm.symm.lt
  obtain ⟨s, a, c, hs, h1, h2, h3⟩ := hm
  obtain ⟨k, hk, hks, hpr⟩ := h1
  have hk4 := h.1.k4 k (List.mem_of_getElem? hk)
  have hH := mixHas_in h.1 i hi
  obtain ⟨c1, c2⟩ := h.1.cells s hs
  have hA := fun W (hW : MixQ wh b bo bi bp ks q F W) => mixAt_in hW.1 i k hk
  have hD := h.drew
  have e1 : (k : Int).tdiv 2 = (s : Int) := by rw [Int.tdiv_eq_ediv_of_nonneg (by omega)]; omega
  have e2 : IntKind.i64.wrap (s : Int) = (s : Int) := IntWalk.i64_in _ (by omega)
  have e3 : (0 : Int) ≤ (s : Int) := by omega
  have e4 : (s : Int) < 2 := by omega
  have HQ := Lib.hid (And.intro h (And.intro h2 (And.intro h3 hpr)))
  have hle := h.1.le
  clear h h2 h3 hk hks hpr
  have c1d : wr.drew.cell? ⟨b, 1 + s * 2, none⟩ = some (.pointer (some ⟨bi s, 0, none⟩)) := c1
  have c2d : wr.drew.cell? ⟨b, 1 + s * 2 + 1, none⟩ = some (.pointer (some ⟨bp s, 0, none⟩)) := c2
  have hbr : b ≠ wr.heap.size := by have := lt_of_block HQ.out.1.1.blk; omega
  go_enter Try.func56, Try.ntmps56
  go_wp2_with (go_at_call 97; refine hH.mono ?_; rintro e w' ⟨rfl, rfl⟩)
  go_region_held3 (fun w' => w'.cell? ⟨b, 1 + s * 2, none⟩ = some (.pointer (some ⟨bi s, 0, none⟩)) ∧ w'.cell? ⟨b, 1 + s * 2 + 1, none⟩ = some (.pointer (some ⟨bp s, 0, none⟩))) (first | exact ⟨c1d, c2d⟩ | exact ⟨c1W, c2W⟩ | exact ⟨alloc_cell c1d _, alloc_cell c2d _⟩ | exact ⟨alloc_cell c1W _, alloc_cell c2W _⟩ | exact ⟨set01_cell c1W hbr _ _, set01_cell c2W hbr _ _⟩) ((go_at_call 57; refine (hA _ ?_).mono ?_; (first | exact hD | exact hD.alloc _); rintro e W ⟨rfl, n, hW⟩; have c1W := (drewN_cell hW (by first | exact c1d | exact alloc_cell c1d _) : W.cell? ⟨b, 1 + s * 2, none⟩ = some (.pointer (some ⟨bi s, 0, none⟩))); have c2W := (drewN_cell hW (by first | exact c2d | exact alloc_cell c2d _) : W.cell? ⟨b, 1 + s * 2 + 1, none⟩ = some (.pointer (some ⟨bp s, 0, none⟩))); (try (have x0 : W.cell? ⟨wr.heap.size, 0, none⟩ = some (.pointer none) := by (rw [hW]; exact World.cell_of_heap (heap_alloc_new wr _) 0))); (try (have x1 : W.cell? ⟨wr.heap.size, 1, none⟩ = some (.pointer none) := by (rw [hW]; exact World.cell_of_heap (heap_alloc_new wr _) 1))); (try (have x2 : W.frozen? ⟨wr.heap.size, 0, none⟩ = false := by (rw [hW]; exact World.free_of_heap (heap_alloc_new wr _) 0))); (try (have x3 : W.frozen? ⟨wr.heap.size, 1, none⟩ = false := by (rw [hW]; exact World.free_of_heap (heap_alloc_new wr _) 1))); have HW := Lib.hid hW; clear hW))
  case' _ =>
    obtain ⟨g, hg⟩ : ∃ g, g = W.heap.size := ⟨_, rfl⟩
    have hX : (W.alloc (.cells #[.pointer (some ⟨bi s, 0, none⟩), .pointer (some ⟨bp s, 0, none⟩)] 123)).heap[g]? = some (.cells #[.pointer (some ⟨bi s, 0, none⟩), .pointer (some ⟨bp s, 0, none⟩)] 123 (0, 0)) := by rw [hg]; exact heap_alloc_new W _
    have hk2 : Keeps (fun _ => False) wr (W.alloc (.cells #[.pointer (some ⟨bi s, 0, none⟩), .pointer (some ⟨bp s, 0, none⟩)] 123)) := by rw [HW.out]; exact (((Keeps.refl _ wr).drew).drewN n).alloc _
    have hgw : wr.heap.size ≤ g := by rw [hg, HW.out]; exact Nat.le_refl _
    rw [← hg]
    generalize World.alloc _ _ = W2 at *
    clear hg
  rotate_left
  case' _ =>
    obtain ⟨g, hg⟩ : ∃ g, g = wr.heap.size := ⟨_, rfl⟩
    have hW0 : W.heap[wr.heap.size]? = some (.cells #[.pointer none, .pointer none] 123 (0, 0)) := by rw [HW.out]; exact heap_alloc_new wr _
    have hX : ((W.setCell ⟨wr.heap.size, 0, none⟩ (.pointer (some ⟨bi s, 0, none⟩))).setCell ⟨wr.heap.size, 1, none⟩ (.pointer (some ⟨bp s, 0, none⟩))).heap[g]? = some (.cells #[.pointer (some ⟨bi s, 0, none⟩), .pointer (some ⟨bp s, 0, none⟩)] 123 (0, 0)) := by rw [hg]; exact heap_setCell_same (heap_setCell_same hW0 0 _) 1 _
    have hk0 : Keeps (fun _ => False) wr W := by rw [HW.out]; exact (((Keeps.refl _ wr).drew).alloc _).drewN n
    have hk2 : Keeps (fun _ => False) wr ((W.setCell ⟨wr.heap.size, 0, none⟩ (.pointer (some ⟨bi s, 0, none⟩))).setCell ⟨wr.heap.size, 1, none⟩ (.pointer (some ⟨bp s, 0, none⟩))) := (hk0.setCell (p := ⟨wr.heap.size, 0, none⟩) (.inr (Nat.le_refl _)) _).setCell (p := ⟨wr.heap.size, 1, none⟩) (.inr (Nat.le_refl _)) _
    have hgw : wr.heap.size ≤ g := by rw [hg]; exact Nat.le_refl _
    rw [← hg]
    rw [← hg] at hX hk2
    obtain ⟨W2, hW2⟩ : ∃ W2, W2 = (W.setCell ⟨g, 0, none⟩ (.pointer (some ⟨bi s, 0, none⟩))).setCell ⟨g, 1, none⟩ (.pointer (some ⟨bp s, 0, none⟩)) := ⟨_, rfl⟩
    rw [← hW2] at hX hk2
    rw [← hW2]
    clear hW2
    clear hg
  all_goals
    obtain ⟨hQ, h2, h3, hpr⟩ := HQ.out
    have hP2 := hQ.1.keeps hk2 (fun _ _ h => h)
    have hgF : ¬ grow F wh wr g := fun e => by have := hQ.1.old g e; omega
    have hF2 := hP2.old
    have q1 := mRank hF2 hP2.after s i hs (by omega) (by omega)
    have q2 := fun w5 (h5 : MixQ W2 b bo bi bp ks (q + 1) (grow F wh wr) w5) => mMate hF2 h5 s a c hs (by omega) h3
    have q3 := fun w6 (h6 : MixQ W2 b bo bi bp ks (q + 1 + 2) (grow F wh wr) w6) => mSelect hF2 h6 s c m hs (by omega) h2
    rw [hpr] at q1
    have hfin := fun w7 (h7 : MixQ W2 b bo bi bp ks (q + 1 + 2 + 1) (grow F wh wr) w7) => MixQ.join hF hQ hk2 h7
    have hkeep := fun w5 q' (h5 : MixQ W2 b bo bi bp ks q' (grow F wh wr) w5) => h5.2.at hX hgF
    have cX0 : W2.cell? ⟨g, 0, none⟩ = some (.pointer (some ⟨bi s, 0, none⟩)) := World.cell_of_heap hX 0
    have HH := Lib.hid (And.intro hfin hkeep)
    clear hfin hkeep hX hk2 hgw hP2 hQ h2 h3 hpr c1d c2d c1 c2 hA hD hbr e1 e2 e3 e4 c1W c2W
    go_wp2_with fail
    refine q1.mono ?_
    rintro e w5 ⟨rfl, h5⟩
    have cX1 : w5.cell? ⟨g, 1, none⟩ = some (.pointer (some ⟨bp s, 0, none⟩)) := World.cell_of_heap (HH.out.2 _ _ h5) 1
    clear q1 cX0
    go_wp2_with fail
    refine (q2 _ h5).mono ?_
    rintro e w6 ⟨rfl, h6⟩
    have cX2 : w6.cell? ⟨g, 0, none⟩ = some (.pointer (some ⟨bi s, 0, none⟩)) := World.cell_of_heap (HH.out.2 _ _ h6) 0
    clear q2 cX1 h5
    go_wp2_with fail
    refine (q3 _ h6).mono ?_
    rintro e w7 ⟨rfl, h7⟩
    have H7 := Lib.hid (HH.out.1 _ h7)
    clear q3 h6 h7 cX2
    go_wp2
    go_ret2
    exact ⟨rfl, H7.out⟩

end

theorem mixMate_out {wr : World} {b bo : Nat} {bi bp : Nat → Nat} {ks : List Nat} {q : Nat} {F : Nat → Prop} (h : MixP wr b bo bi bp ks q F) (i : Int) (hi : ¬ (0 ≤ i ∧ i < ks.length)) :
    Calls Try.prog 56 #[.pointer (some ⟨b, 0, none⟩), .int .i64 i] wr fun e w' => e = .returned (.tuple #[.int .i64 0, .int .i64 1]) ∧ wr = w' := by
  have hH := mixHas_out h i hi
  clear h hi
  go_enter Try.func56, Try.ntmps56
  go_wp2_with (go_at_call 97; refine hH.mono ?_; rintro e w' ⟨rfl, rfl⟩)
  go_ret2
  exact ⟨rfl, rfl⟩

theorem mixMate_nil (i : Int) (w : World) :
    Calls Try.prog 56 #[.pointer none, .int .i64 i] w fun e w' => e = .returned (.tuple #[.int .i64 0, .int .i64 2]) ∧ w = w' := by
  go_enter Try.func56, Try.ntmps56
  go_wp2_with (go_at_call 97; refine (mixHas_nil i w).mono ?_; rintro e w' ⟨rfl, rfl⟩)
  go_ret2
  exact ⟨rfl, rfl⟩

end Go.Proofs.Ytlciacpffoekjaa
