/- The contract of package paren's make: the tree. -/
import Derived.Test.YtlciacpffoekjaaOver
import Derived.Test.YtlciacpffoekjaaBehind
import Derived.Laws.OwnMore
namespace Go.Proofs.Ytlciacpffoekjaa
open Go.RowKit

theorem Keeps.cellF {w w' : World} (k : Keeps (fun _ => False) w w') {a : Addr} {v : Value} (h : w.cell? a = some v) : w'.cell? a = some v := by
  rw [World.cell?_of_block (w := w) (k.block a.block (World.block_lt_of_cell? _ _ h) (fun h => h))]
  exact h

theorem set2_other {w : World} {g j : Nat} {a : Addr} {v : Value} (h : w.cell? a = some v) (h1 : a ≠ ⟨g, j * 2, none⟩) (h2 : a ≠ ⟨g, j * 2 + 1, none⟩) (x y : Value) : ((w.setCell ⟨g, j * 2, none⟩ x).setCell ⟨g, j * 2 + 1, none⟩ y).cell? a = some v := by
  rw [World.cell?_setCell_other _ _ _ _ (Ne.symm h2), World.cell?_setCell_other _ _ _ _ (Ne.symm h1)]
  exact h

theorem set2_block {w : World} {g j b o : Nat} {v : Value} (h : w.cell? ⟨b, o, none⟩ = some v) (h1 : b ≠ g) (x y : Value) : ((w.setCell ⟨g, j * 2, none⟩ x).setCell ⟨g, j * 2 + 1, none⟩ y).cell? ⟨b, o, none⟩ = some v :=
  set2_other h (fun e => h1 (congrArg Addr.block e)) (fun e => h1 (congrArg Addr.block e)) x y
theorem set2_node {w : World} {g j o : Nat} {v : Value} (h : w.cell? ⟨g, o, none⟩ = some v) (h1 : o ≠ j * 2 ∧ o ≠ j * 2 + 1) (x y : Value) : ((w.setCell ⟨g, j * 2, none⟩ x).setCell ⟨g, j * 2 + 1, none⟩ y).cell? ⟨g, o, none⟩ = some v :=
  set2_other h (fun e => h1.1 (congrArg Addr.off e)) (fun e => h1.2 (congrArg Addr.off e)) x y

theorem Keeps.frozenF {w w' : World} (k : Keeps (fun _ => False) w w') {a : Addr} {v : Value} (hc : w.cell? a = some v) (h : w.frozen? a = false) : w'.frozen? a = false := by
  have hb := k.block a.block (World.block_lt_of_cell? _ _ hc) (fun h => h)
  unfold World.frozen? at h ⊢
  rw [hb]
  exact h

/-- Nodes that are laid. -/
def NodesAt (w : World) (g L : Nat) (sm lo : Nat → Int) (S : Nat → Prop) : Prop :=
  ∃ cs : Array Value, w.heap[g]? = some (.cells cs 121 (0, 0)) ∧ cs.size = 4 * L ∧ ∀ k, S k → cs[k * 2]? = some (.int .i64 (sm k)) ∧ cs[k * 2 + 1]? = some (.int .i64 (lo k))

theorem NodesAt.keeps {w w' : World} {F : Nat → Prop} {g L : Nat} {sm lo : Nat → Int} {S : Nat → Prop} (h : NodesAt w g L sm lo S) (k : Keeps F w w') (hF : ¬ F g) : NodesAt w' g L sm lo S := by
  obtain ⟨cs, h1, h2⟩ := h
  exact ⟨cs, k.at h1 hF, h2⟩

theorem NodesAt.lt {w : World} {g L : Nat} {sm lo : Nat → Int} {S : Nat → Prop} (h : NodesAt w g L sm lo S) : g < w.heap.size := by
  obtain ⟨cs, h1, h2⟩ := h
  exact lt_of_block h1

theorem NodesAt.set {w : World} {g L : Nat} {sm lo : Nat → Int} {S T : Nat → Prop} (h : NodesAt w g L sm lo S) (k : Nat) (hk : k < 2 * L) (s l : Int) (hs : s = sm k) (hl : l = lo k) (hT : ∀ j, T j → S j ∨ j = k) :
    NodesAt ((w.setCell ⟨g, k * 2, none⟩ (.int .i64 s)).setCell ⟨g, k * 2 + 1, none⟩ (.int .i64 l)) g L sm lo T := by
  obtain ⟨cs, h1, h2, h3⟩ := h
  subst hs hl
  refine ⟨_, heap_setCell_same (heap_setCell_same h1 _ _) _ _, by simpa using h2, fun j hj => ?_⟩
  simp only [Array.getElem?_setIfInBounds, Array.size_setIfInBounds]
  by_cases hjk : j = k
  · subst hjk
    rw [if_neg (by omega), if_pos rfl, if_pos (by omega), if_pos rfl, if_pos (by omega)]
    exact ⟨rfl, rfl⟩
  · rw [if_neg (by omega), if_neg (by omega), if_neg (by omega), if_neg (by omega)]
    rcases hT j hj with h | h
    · exact h3 j h
    · exact absurd h hjk

theorem NodesAt.there {w : World} {g L : Nat} {sm lo : Nat → Int} {S : Nat → Prop} (h : NodesAt w g L sm lo S) (k : Nat) (hk : k < 2 * L) :
    ∃ u v, w.cell? ⟨g, k * 2, none⟩ = some u ∧ w.cell? ⟨g, k * 2 + 1, none⟩ = some v ∧ w.frozen? ⟨g, k * 2, none⟩ = false ∧ w.frozen? ⟨g, k * 2 + 1, none⟩ = false := by
  obtain ⟨cs, h1, h2, _⟩ := h
  refine ⟨cs[k * 2], cs[k * 2 + 1], ?_, ?_, World.free_of_heap h1 _, World.free_of_heap h1 _⟩
  · rw [World.cell_of_heap h1]; exact Array.getElem?_eq_getElem (by omega)
  · rw [World.cell_of_heap h1]; exact Array.getElem?_eq_getElem (by omega)

/-- The laws of nodes over L leaves. -/
structure NL (l : List Bool) (L : Nat) (sm lo : Nat → Int) : Prop where
  leaf : ∀ c, c < L → sm (L + c) = ex l (512 * (c + 1)) - ex l (512 * c) ∧ lo (L + c) = lowN l (512 * c) 512
  kids : ∀ k, 1 ≤ k → k < L → sm k = sm (k * 2) + sm (k * 2 + 1) ∧ lo k = min (lo (k * 2)) (sm (k * 2) + lo (k * 2 + 1))
  bd : ∀ k, -200000000 ≤ sm k ∧ sm k ≤ 200000000 ∧ -200000000 ≤ lo k ∧ lo k ≤ 200000000 ∧ lo k ≤ sm k

/-- What make has laid. -/
def MkAt (w : World) (b bi g L : Nat) (sm lo : Nat → Int) (S : Nat → Prop) (wr : World) : Prop :=
  wr.heap[b]? = some (.cells (parCells bi false 1 (.slice (some ⟨g, 0, none⟩) (2 * L) (2 * L)) 1) 117 (0, 0)) ∧ w.heap.size ≤ g ∧ NodesAt wr g L sm lo S ∧ Keeps (fun k => k = b) w wr

theorem MkAt.keeps {w w1 w2 : World} {b bi g L : Nat} {sm lo : Nat → Int} {S : Nat → Prop} (h : MkAt w b bi g L sm lo S w1) (k : Keeps (fun _ => False) w1 w2) : MkAt w b bi g L sm lo S w2 :=
  ⟨k.at h.1 (fun h => h), h.2.1, h.2.2.1.keeps k (fun h => h), h.2.2.2.trans k (fun _ _ h => h.elim)⟩

theorem MkAt.set {w w1 : World} {b bi g L : Nat} {sm lo : Nat → Int} {S T : Nat → Prop} (h : MkAt w b bi g L sm lo S w1) (hb : b < w.heap.size) (k : Nat) (hk : k < 2 * L) (s l : Int) (hs : s = sm k) (hl : l = lo k) (hT : ∀ j, T j → S j ∨ j = k) :
    MkAt w b bi g L sm lo T ((w1.setCell ⟨g, k * 2, none⟩ (.int .i64 s)).setCell ⟨g, k * 2 + 1, none⟩ (.int .i64 l)) := by
  obtain ⟨h1, h2, h3, h4⟩ := h
  have k2 : Keeps (fun x => x = g) w1 ((w1.setCell ⟨g, k * 2, none⟩ (.int .i64 s)).setCell ⟨g, k * 2 + 1, none⟩ (.int .i64 l)) :=
    ((Keeps.refl (fun x => x = g) w1).setCell (p := ⟨g, k * 2, none⟩) (.inl rfl) _).setCell (p := ⟨g, k * 2 + 1, none⟩) (.inl rfl) _
  refine ⟨k2.at h1 (by omega), h2, h3.set k hk s l hs hl hT, h4.trans k2 (fun _ _ h => by omega)⟩

theorem MkAt.mono {w wr : World} {b bi g L : Nat} {sm lo : Nat → Int} {S T : Nat → Prop} (h : MkAt w b bi g L sm lo S wr) (hT : ∀ k, T k → S k) : MkAt w b bi g L sm lo T wr := by
  obtain ⟨h1, h2, ⟨cs, h3, h4, h5⟩, h6⟩ := h
  exact ⟨h1, h2, ⟨cs, h3, h4, fun k hk => h5 k (hT k hk)⟩, h6⟩

theorem MkAt.idx {w wr : World} {b bi g L : Nat} {l : List Bool} {sm lo : Nat → Int} {S : Nat → Prop} {FI : Nat → Prop} {dI : Bool} {asked : Nat} (h : MkAt w b bi g L sm lo S wr) (hI : IdxAt w bi l dI asked FI) (hb : ¬ FI b) : PIdx wr b l :=
  ⟨bi, FI, dI, asked, World.cell_of_heap h.1 0, hI.keeps h.2.2.2 (fun _ hx h => hb (h ▸ hx))⟩

/-- The block that is summed up. -/
def XAt (wB : World) (s lo : Int) (wr : World) : Prop := wr.heap[wB.heap.size]? = some (.cells #[.int .i64 s, .int .i64 lo] 121 (0, 0)) ∧ Keeps (fun _ => False) wB wr

theorem XAt.set {wB wr : World} {s lo : Int} (h : XAt wB s lo wr) (s' lo' : Int) : XAt wB s' lo' (((wr.setCell ⟨wB.heap.size, 0, none⟩ (.int .i64 s')).setCell ⟨wB.heap.size, 1, none⟩ (.int .i64 lo')).drew) := by
  obtain ⟨h1, h2⟩ := h
  refine ⟨?_, ((h2.setCell (p := ⟨wB.heap.size, 0, none⟩) (.inr (Nat.le_refl _)) _).setCell (p := ⟨wB.heap.size, 1, none⟩) (.inr (Nat.le_refl _)) _).drew⟩
  exact (heap_setCell_same (heap_setCell_same h1 0 _) 1 _)

theorem XAt.start (wB : World) : XAt wB 0 0 (wB.alloc (.cells #[.int .i64 0, .int .i64 0] 121)) := ⟨heap_alloc_new wB _, (Keeps.refl _ wB).alloc _⟩

theorem infoNode : (Try.prog.info? 121).map (fun i => (i.zero, i.size, i.bytes)) = some (some (.agg #[.int .i64 0, .int .i64 0]), 2, 16) := by kernel_rfl

set_option maxRecDepth 100000 in
set_option maxHeartbeats 4000000 in
theorem parMake_core (b bi : Nat) (l : List Bool) (FI : Nat → Prop) (dI : Bool) (asked L : Nat) (sm lo : Nat → Int) (w : World)
    (h : w.heap[b]? = some (.cells (parCells bi false 1 (.slice none 0 0) 0) 117 (0, 0))) (hI : IdxAt w bi l dI asked FI) (hFb : ¬ FI b)
    (hL1 : 1 ≤ L) (hL2 : L ≤ 400000) (hN : NL l L sm lo)
    (hLv : ∀ W, PIdx W b l → Calls Try.prog 91 #[.pointer (some ⟨b, 0, none⟩)] W fun e w' => e = .returned (.int .i64 L) ∧ W = w') :
    Calls Try.prog 90 #[.pointer (some ⟨b, 0, none⟩)] w fun e w' => e = .returned (.tuple #[]) ∧ ∃ g, MkAt w b bi g L sm lo (fun k => 1 ≤ k ∧ k < 2 * L) w' := by
  have hbw := lt_of_block h
  have hle := hI.le
  have c5 : w.cell? ⟨b, 5, none⟩ = some (.int .i64 0) := World.cell_of_heap h 5
  have hadd := add64 ⟨b, 5, none⟩ 0 1 w c5 (World.free_of_heap h 5) (by omega)
  have h1 : (w.setCell ⟨b, 5, none⟩ (.int .i64 1)).heap[b]? = some (.cells (parCells bi false 1 (.slice none 0 0) 1) 117 (0, 0)) := heap_setCell_same h 5 _
  have k1 : Keeps (fun k => k = b) w (w.setCell ⟨b, 5, none⟩ (.int .i64 1)) := (Keeps.refl (fun k => k = b) w).setCell (p := ⟨b, 5, none⟩) (.inl rfl) _
  have hP1 : PIdx (w.setCell ⟨b, 5, none⟩ (.int .i64 1)) b l := ⟨bi, FI, dI, asked, World.cell_of_heap h1 0, hI.keeps k1 (fun _ hx h => hFb (h ▸ hx))⟩
  have hLv1 := hLv _ hP1
  clear hP1 c5
  rw [show (0 : Int) + 1 = 1 from rfl] at hadd
  generalize hw0 : w.setCell ⟨b, 5, none⟩ (.int .i64 1) = w0 at *
  clear hw0
  obtain ⟨i, hi, hz0, hz1, hz2⟩ := info_parts infoNode
  have hmk := run_make (P := Try.prog) w0 115 121 i _ Try.underlying115 hi hz0 .i64 .i64 (2 * (L : Int)) (2 * (L : Int)) (by omega) (Int.le_refl _) (by rw [hz2]; omega) (by omega)
  rw [hz1, show (2 * (L : Int)).toNat = 2 * L by omega] at hmk
  have HI := Lib.hid (And.intro hI hFb)
  have HN := Lib.hid hN
  have HLv := Lib.hid hLv
  have c4 : w0.cell? ⟨b, 4, none⟩ = some (.slice none 0 0) := World.cell_of_heap h1 4
  have f4 : w0.frozen? ⟨b, 4, none⟩ = false := World.free_of_heap h1 4
  have hbw0 : b < w0.heap.size := lt_of_block h1
  have H1 := Lib.hid (And.intro h (And.intro h1 k1))
  clear hI hFb hN hLv h h1 k1 hi hz0 hz1 hz2
  go_enter Try.func90, Try.ntmps90
  go_wp2_with (first | (go_at_call 72; refine hadd.mono ?_; rintro e w' ⟨rfl, rfl⟩) | (go_at_call 91; refine hLv1.mono ?_; rintro e w' ⟨rfl, rfl⟩))
  clear hmk hadd hLv1
  have hM0 : MkAt w b bi w'.heap.size L sm lo (fun k => L ≤ k ∧ k < L + 0) ((w'.setCell ⟨b, 4, none⟩ (.slice (some ⟨w'.heap.size, 0, none⟩) (2 * L) (2 * L))).alloc (.cells (madeCells #[.int .i64 0, .int .i64 0] (2 * L * 2)) 121)) := by
    obtain ⟨_, h2, h3⟩ := H1.out
    have k2 : Keeps (fun k => k = b) w' (w'.setCell ⟨b, 4, none⟩ (.slice (some ⟨w'.heap.size, 0, none⟩) (2 * L) (2 * L))) := (Keeps.refl (fun k => k = b) w').setCell (p := ⟨b, 4, none⟩) (.inl rfl) _
    have hs : (w'.setCell ⟨b, 4, none⟩ (.slice (some ⟨w'.heap.size, 0, none⟩) (2 * L) (2 * L))).heap.size = w'.heap.size := by simp
    refine ⟨?_, h3.size, ⟨madeCells #[.int .i64 0, .int .i64 0] (2 * L * 2), ?_, by rw [size_madeCells]; omega, fun k hk => by omega⟩, (h3.trans k2 (fun _ _ h => h)).alloc _⟩
    · rw [Below.heap_alloc _ _ _ (by rw [hs]; exact hbw0), heap_setCell_same h2]
      rfl
    · have := heap_alloc_new (w'.setCell ⟨b, 4, none⟩ (.slice (some ⟨w'.heap.size, 0, none⟩) (2 * L) (2 * L))) (.cells (madeCells #[.int .i64 0, .int .i64 0] (2 * L * 2)) 121)
      rw [hs] at this
      exact this
  clear c4 f4 hbw0 H1
  generalize World.alloc _ _ = wM at *
  generalize w'.heap.size = g at *
  go_loopw [20] (fun i wr => ∃ c : Nat, c ≤ L ∧ i = .int .i64 c ∧ MkAt w b bi g L sm lo (fun k => L ≤ k ∧ k < L + c) wr) (fun i _ => L - (intOf i).toNat)
  case atStart => exact ⟨0, Nat.zero_le _, rfl, hM0⟩
  case round =>
    obtain ⟨c, hc, rfl, hM⟩ := hrel
    clear hM0
    obtain ⟨wo, rfl⟩ : ∃ wo : World, wo = wr := ⟨_, rfl⟩
    by_cases hlt : c < L
    · have hP := hM.idx HI.out.1 HI.out.2
      have hLen := fun W (h : PIdx W b l) => parLen_any b l W h
      have hgr := hM.2.2.1.lt
      have hX0 := XAt.start wo
      have hbX := hP.lt
      have HM := Lib.hid hM
      clear hM
      go_wp2_with fail
      generalize World.alloc _ _ = wx at *
      obtain ⟨m, hm1, hm2⟩ : ∃ m : Nat, m = min l.length (512 * (c + 1)) ∧ (if (l.length : Int) < ((c : Int) + 1) * 512 then (l.length : Int) else ((c : Int) + 1) * 512) = (m : Int) := ⟨_, rfl, by split <;> omega⟩
      have Hm1 := Lib.hid hm1
      clear hm1
      go_loopw [5] (fun i wr => ∃ p : Nat, 512 * c ≤ p ∧ p ≤ 512 * (c + 1) ∧ i = .int .i64 p ∧ XAt wo (ex l p - ex l (512 * c)) (lowN l (512 * c) (p - 512 * c)) wr) (fun i _ => 512 * (c + 1) - (intOf i).toNat)
      case atStart => exact ⟨512 * c, Nat.le_refl _, by omega, by go_num, by rw [Int.sub_self, Nat.sub_self]; exact hX0⟩
      case round =>
        obtain ⟨p, hp1, hp2, rfl, hX⟩ := hrel
        clear hX0
        have hPq := hP.keeps hX.2 hbX
        have hLq := hLen _ hPq
        have hx1 := ex_abs l p hle
        have hx0 := ex_abs l (512 * c) hle
        have hlo := lowN_abs l (512 * c) (p - 512 * c) hle
        by_cases hgo : p < m
        · have hg : p < 512 * (c + 1) ∧ p < l.length := by have := Hm1.out; omega
          obtain ⟨hg1, hg2⟩ := hg
          have hS := fun W (h : PIdx W b l) => parStep_any b l p W h hg2
          have hsc := stepZ_cases l p
          have hs := ex_succ l hg2
          have hln : lowN l (512 * c) (p - 512 * c + 1) = min (lowN l (512 * c) (p - 512 * c)) (ex l (p + 1) - ex l (512 * c)) := by
            simp only [lowN]
            rw [show 512 * c + (p - 512 * c + 1) = p + 1 by omega]
          have HS := Lib.hid (And.intro hs hln)
          have hx2 := ex_abs l (p + 1) hle
          rw [hs] at hx2
          clear hs hln
          have HX := Lib.hid hX
          have hc0 : wr.cell? ⟨wo.heap.size, 0, none⟩ = some (.int .i64 (ex l p - ex l (512 * c))) := World.cell_of_heap hX.1 0
          have hc1 : wr.cell? ⟨wo.heap.size, 1, none⟩ = some (.int .i64 (lowN l (512 * c) (p - 512 * c))) := World.cell_of_heap hX.1 1
          clear hX
          obtain ⟨s, hsd⟩ : ∃ s, s = ex l p - ex l (512 * c) := ⟨_, rfl⟩
          rw [← hsd] at hc0
          obtain ⟨z, hzd⟩ : ∃ z, z = stepZ l p := ⟨_, rfl⟩
          rw [← hzd] at hS hsc hx2
          generalize hlod : lowN l (512 * c) (p - 512 * c) = lw at *
          have hsb : -200000000 ≤ s ∧ s ≤ 200000000 := by omega
          have HD := Lib.hid (And.intro hsd (And.intro hzd hlod))
          clear hsd hzd hlod hx1 hx0 hx2
          go_wp2_with (go_at_call 39; refine hLq.mono ?_; rintro e w' ⟨rfl, rfl⟩)
          obtain ⟨lw2, hlw2, hlw3⟩ : ∃ lw2, lw2 = min lw (s + z) ∧ (if s + z < lw then s + z else lw) = lw2 := ⟨_, rfl, by split <;> omega⟩
          have Hlw := Lib.hid hlw2
          clear hlw2
          have hPd := hPq.drew
          have hsum : IntKind.i64.wrap (s + z) = s + z := IntWalk.i64_in _ (by omega)
          have hc0d : wr.drew.cell? ⟨wo.heap.size, 0, none⟩ = some (.int .i64 s) := hc0
          have fx0 : wr.frozen? ⟨wo.heap.size, 0, none⟩ = false := World.free_of_heap HX.out.1 0
          have fx1 : wr.frozen? ⟨wo.heap.size, 1, none⟩ = false := World.free_of_heap HX.out.1 1
          clear hPq
          have hSd := hS _ hPd
          go_region_with (go_at_call 92; refine hSd.mono ?_; rintro e w' ⟨rfl, rfl⟩)
          have hcs : (wr.setCell ⟨wo.heap.size, 0, none⟩ (.int .i64 (s + z))).cell? ⟨wo.heap.size, 0, none⟩ = some (.int .i64 (s + z)) := World.cell?_setCell_same _ _ _ hc0
          clear hc0 hc0d fx0 hSd
          all_goals
            go_wp2
            go_roundw
            case rel => exact ⟨p + 1, by omega, by omega, by go_num, by
              have e1 := HD.out; have e2 := HS.out; have e3 := Hlw.out
              have := HX.out.set (s + z) lw2
              rw [show p + 1 - 512 * c = p - 512 * c + 1 by omega, e2.2, e2.1, ← e1.2.1, show ex l p + z - ex l (512 * c) = s + z by omega, ← e3]
              exact this⟩
            case measure => simp [intOf]; omega
        · have hpe : p = 512 * (c + 1) ∨ l.length ≤ p := by have := Hm1.out; omega
          have hsv : ex l p - ex l (512 * c) = sm (L + c) := by
            rw [(HN.out.leaf c hlt).1]
            rcases hpe with h | h
            · rw [h]
            · rw [ex_past l h, ex_past l (p := 512 * (c + 1)) (by omega)]
          have hlv : lowN l (512 * c) (p - 512 * c) = lo (L + c) := by
            rw [(HN.out.leaf c hlt).2]
            rcases hpe with h | h
            · rw [h, show 512 * (c + 1) - 512 * c = 512 by omega]
            · rw [← lowN_past l (512 * c) (p - 512 * c) (512 - (p - 512 * c)) (by omega), show p - 512 * c + (512 - (p - 512 * c)) = 512 by omega]
          rw [hsv, hlv] at hX
          have HX := Lib.hid (And.intro hX (HM.out.keeps hX.2))
          obtain ⟨k, hk⟩ : ∃ k, k = L + c := ⟨_, rfl⟩
          have hx0 : wr.cell? ⟨wo.heap.size, 0, none⟩ = some (.int .i64 (sm k)) := by rw [hk]; exact World.cell_of_heap hX.1 0
          have hx1 : wr.cell? ⟨wo.heap.size, 1, none⟩ = some (.int .i64 (lo k)) := by rw [hk]; exact World.cell_of_heap hX.1 1
          have c4 : wr.cell? ⟨b, 4, none⟩ = some (.slice (some ⟨g, 0, none⟩) (2 * L) (2 * L)) := World.cell_of_heap HX.out.2.1 4
          have hsum : IntKind.i64.wrap ((L : Int) + (c : Int)) = (k : Int) := by rw [IntWalk.i64_in _ (by omega)]; omega
          have hk0 : (0 : Int) ≤ (k : Int) := by omega
          have hk1 : (k : Int) < 2 * (L : Int) := by omega
          have hk2 : k < 2 * L := by omega
          obtain ⟨u, v, hu, hv, fu, fv⟩ := HX.out.2.2.2.1.there k hk2
          have HK := Lib.hid hk
          clear hpe hsv hlv hX hk
          go_wp2_with (go_at_call 39; refine hLq.mono ?_; rintro e w' ⟨rfl, rfl⟩)
          go_region
          go_wp2
          go_roundw
          case rel => exact ⟨c + 1, by omega, by go_num, (HX.out.2.set hbw k hk2 _ _ rfl rfl (fun j hj => by have := HK.out; omega)).keeps ((Keeps.refl _ _).drew)⟩
          case measure => simp [intOf]; omega
    · obtain rfl : L = c := by omega
      have hM := hM.mono (T := fun k => L - 1 < k ∧ k < 2 * L) (fun k hk => by omega)
      go_wp2_with fail
      go_loopw [6] (fun i wr => ∃ j : Nat, j < L ∧ i = .int .i64 j ∧ MkAt w b bi g L sm lo (fun k => j < k ∧ k < 2 * L) wr) (fun i _ => (intOf i).toNat)
      case atStart => exact ⟨L - 1, by omega, by go_num, hM⟩
      case round =>
        obtain ⟨j, hj, rfl, hM2⟩ := hrel
        clear hM
        by_cases hj0 : 0 < j
        · obtain ⟨a, ha⟩ : ∃ a, a = j * 2 := ⟨_, rfl⟩
          obtain ⟨d, hd⟩ : ∃ d, d = j * 2 + 1 := ⟨_, rfl⟩
          have hkid := HN.out.kids j hj0 hj
          rw [← hd, ← ha] at hkid
          have hba := HN.out.bd a
          have hbd := HN.out.bd d
          obtain ⟨cs, q1, q2, q3⟩ := hM2.2.2.1
          obtain ⟨n0, n1⟩ := q3 a (by omega)
          obtain ⟨n2, n3⟩ := q3 d (by omega)
          obtain ⟨u, v, hu, hv, fu, fv⟩ := hM2.2.2.1.there j (by omega)
          rw [← World.cell_of_heap q1] at n0 n1 n2 n3
          have c4 : wr.cell? ⟨b, 4, none⟩ = some (.slice (some ⟨g, 0, none⟩) (2 * L) (2 * L)) := World.cell_of_heap hM2.1 4
          have HM := Lib.hid hM2
          have hO := over_any (sm a) (lo a) (sm d) (lo d)
          have hwa : IntKind.i64.wrap (2 * (j : Int)) = (a : Int) := by rw [IntWalk.i64_in _ (by omega)]; omega
          have hwd : IntKind.i64.wrap ((a : Int) + 1) = (d : Int) := by rw [IntWalk.i64_in _ (by omega)]; omega
          have ha0 : (0 : Int) ≤ (a : Int) := by omega
          have ha1 : (a : Int) < 2 * (L : Int) := by omega
          have hd0 : (0 : Int) ≤ (d : Int) := by omega
          have hd1 : (d : Int) < 2 * (L : Int) := by omega
          have hj1 : (j : Int) < 2 * (L : Int) := by omega
          have e0 : a * 2 ≠ j * 2 ∧ a * 2 ≠ j * 2 + 1 := by omega
          have e1 : a * 2 + 1 ≠ j * 2 ∧ a * 2 + 1 ≠ j * 2 + 1 := by omega
          have e2 : d * 2 ≠ j * 2 ∧ d * 2 ≠ j * 2 + 1 := by omega
          have e3 : d * 2 + 1 ≠ j * 2 ∧ d * 2 + 1 ≠ j * 2 + 1 := by omega
          have hbg : b ≠ g := by have := hM2.2.1; omega
          have HK := Lib.hid (And.intro hkid (And.intro ha hd))
          clear hM2 hkid ha hd q1 q2 q3
          go_wp2_with fail
          have c4d : wr.drew.cell? ⟨b, 4, none⟩ = some (.slice (some ⟨g, 0, none⟩) (2 * L) (2 * L)) := c4
          have n0d : wr.drew.cell? ⟨g, a * 2, none⟩ = some (.int .i64 (sm a)) := n0
          have n1d : wr.drew.cell? ⟨g, a * 2 + 1, none⟩ = some (.int .i64 (lo a)) := n1
          have n2d : wr.drew.cell? ⟨g, d * 2, none⟩ = some (.int .i64 (sm d)) := n2
          have n3d : wr.drew.cell? ⟨g, d * 2 + 1, none⟩ = some (.int .i64 (lo d)) := n3
          have hud : wr.drew.cell? ⟨g, j * 2, none⟩ = some u := hu
          have hvd : wr.drew.cell? ⟨g, j * 2 + 1, none⟩ = some v := hv
          have fud : wr.drew.frozen? ⟨g, j * 2, none⟩ = false := fu
          have fvd : wr.drew.frozen? ⟨g, j * 2 + 1, none⟩ = false := fv
          go_region_held3 (fun w' => w'.cell? ⟨b, 4, none⟩ = some (.slice (some ⟨g, 0, none⟩) (2 * L) (2 * L)) ∧ w'.cell? ⟨g, a * 2, none⟩ = some (.int .i64 (sm a)) ∧ w'.cell? ⟨g, a * 2 + 1, none⟩ = some (.int .i64 (lo a)) ∧ w'.cell? ⟨g, d * 2, none⟩ = some (.int .i64 (sm d)) ∧ w'.cell? ⟨g, d * 2 + 1, none⟩ = some (.int .i64 (lo d))) (first | exact ⟨c4d, n0d, n1d, n2d, n3d⟩ | exact ⟨hK.cellF c4d, hK.cellF n0d, hK.cellF n1d, hK.cellF n2d, hK.cellF n3d⟩ | exact ⟨set2_block (hK.cellF c4d) hbg _ _, set2_node (hK.cellF n0d) e0 _ _, set2_node (hK.cellF n1d) e1 _ _, set2_node (hK.cellF n2d) e2 _ _, set2_node (hK.cellF n3d) e3 _ _⟩) ((go_at_call 115; refine (hO _ ?_ ?_ ?_ ?_ ?_).mono ?_; omega; omega; omega; omega; omega; rintro e W ⟨rfl, hK⟩; have hu2 := hK.cellF hud; have hv2 := hK.cellF hvd; have fu2 := hK.frozenF hud fud; have fv2 := hK.frozenF hvd fvd))
          clear c4 n0 n1 n2 n3 hu hv fu fv c4d n0d n1d n2d n3d hud hvd fud fvd e0 e1 e2 e3 hwa hwd
          have hM3 := (HM.out.keeps (((Keeps.refl (fun _ => False) wr).drew).trans hK (fun _ _ h => h))).set hbw j (by omega) (sm a + sm d) (min (lo a) (sm a + lo d)) HK.out.1.1.symm HK.out.1.2.symm (T := fun k => j - 1 < k ∧ k < 2 * L) (fun k hk => by omega)
          have HM3 := Lib.hid hM3
          clear hM3 hK hu2 hv2 fu2 fv2 hba hbd
          go_wp2
          go_roundw
          case rel => exact ⟨j - 1, by omega, by go_num, HM3.out⟩
          case measure => simp [intOf]; omega
        · obtain rfl : 0 = j := by omega
          have HM := Lib.hid hM2
          clear hM2
          go_wp2
          go_end0
          exact ⟨rfl, g, HM.out.mono (fun k hk => by omega)⟩

theorem NL.of (l : List Bool) (h : Nat) (hl : l.length ≤ 100000000) : NL l (2 ^ h) (tsum l h) (tlow l h) := by
  refine ⟨fun c hc => ?_, fun k h1 h2 => ?_, fun k => ?_⟩
  · unfold tsum tlow
    rw [tstart_leaf h c hc, twidth_leaf h c hc, show 512 * c + 512 = 512 * (c + 1) by omega]
    exact ⟨rfl, rfl⟩
  · rw [Nat.mul_comm k 2]
    exact ⟨tsum_kids l h k h1 h2, tlow_kids l h k h1 h2⟩
  · have h1 := tsum_bound l h k
    have h2 := tlow_bound l h k
    have h3 := lowN_sum l (tstart h k) (twidth h k)
    have h4 : tlow l h k ≤ tsum l h k := h3
    omega

theorem parMake_any (b bi : Nat) (l : List Bool) (FI : Nat → Prop) (dI : Bool) (asked h : Nat) (w : World)
    (hb : w.heap[b]? = some (.cells (parCells bi false 1 (.slice none 0 0) 0) 117 (0, 0))) (hI : IdxAt w bi l dI asked FI) (hFb : ¬ FI b) (hh : IsH l h) :
    Calls Try.prog 90 #[.pointer (some ⟨b, 0, none⟩)] w fun e w' => e = .returned (.tuple #[]) ∧ ∃ g, MkAt w b bi g (2 ^ h) (tsum l h) (tlow l h) (fun k => 1 ≤ k ∧ k < 2 * 2 ^ h) w' :=
  parMake_core b bi l FI dI asked (2 ^ h) (tsum l h) (tlow l h) w hb hI hFb (hh.bound hI.le).1 (hh.bound hI.le).2 (NL.of l h hI.le) (fun W hW => parLeaves_any b l h W hW hh)

theorem parMakeEnter (b : Nat) (W : World) : (callFunc 90 #[.pointer (some ⟨b, 0, none⟩)]).run Try.prog W = .ok (.enter 90 #[.pointer (some ⟨b, 0, none⟩)]) W := by
  go_simp

theorem parDo_any (b : Nat) (l : List Bool) (done : Bool) (q : Nat) (F : Nat → Prop) (w : World) (h : ParAt w b l done q F) :
    Calls Try.prog 75 #[.pointer (some ⟨b, 1, none⟩), .func (.func 90) #[.pointer (some ⟨b, 0, none⟩)] #[]] w fun e w' => e = .returned (.tuple #[]) ∧ ParAfter w b l true q F w' := by
  obtain ⟨⟨bi, tv, FI, dI, asked, hb, hI, hq, hFI, Fb, nb, htv, hT⟩, hold⟩ := h
  cases done with
  | true =>
    have c1 : w.cell? ⟨b, 1, none⟩ = some (.int .u32 1) := World.cell_of_heap hb 1
    refine (do_done ⟨b, 1, none⟩ _ w c1).mono ?_
    rintro e w' ⟨rfl, rfl⟩
    exact ⟨rfl, ParAt.after ⟨⟨bi, tv, FI, dI, asked, hb, hI, hq, hFI, Fb, nb, htv, hT⟩, hold⟩⟩
  | false =>
    have hav : tv = .slice none 0 0 := hT
    subst hav
    obtain ⟨h, hh⟩ := IsH.ex l
    have c1 : w.cell? ⟨b, 1, none⟩ = some (.int .u32 0) := World.cell_of_heap hb 1
    have c2 : w.cell? ⟨b, 1 + 1, none⟩ = some (.int .i32 0) := World.cell_of_heap hb 2
    have hw0 : (w.setCell ⟨b, 1 + 1, none⟩ (.int .i32 1)).heap[b]? = some (.cells (parCells bi false 1 (.slice none 0 0) 0) 117 (0, 0)) := heap_setCell_same hb 2 _
    have k0 : Keeps (fun k => k = b) w (w.setCell ⟨b, 1 + 1, none⟩ (.int .i32 1)) := (Keeps.refl (fun k => k = b) w).setCell (p := ⟨b, 1 + 1, none⟩) (.inl rfl) _
    have hs0 : (w.setCell ⟨b, 1 + 1, none⟩ (.int .i32 1)).heap.size = w.heap.size := by simp
    have hI0 := hI.keeps k0 (fun x hx h => nb (h ▸ hx))
    have hM := parMake_any b bi l FI dI asked h _ hw0 hI0 nb hh
    refine (do_first b 1 90 #[.pointer (some ⟨b, 0, none⟩)] (fun w1 => ∃ g, MkAt (w.setCell ⟨b, 1 + 1, none⟩ (.int .i32 1)) b bi g (2 ^ h) (tsum l h) (tlow l h) (fun k => 1 ≤ k ∧ k < 2 * 2 ^ h) w1) w (parMakeEnter b) c1 c2 (World.free_of_heap hb 2) (hM.mono ?_)).mono ?_
    · rintro e w1 ⟨rfl, g, hm⟩
      exact ⟨rfl, World.cell_of_heap hm.1 1, World.cell_of_heap hm.1 2, World.free_of_heap hm.1 1, World.free_of_heap hm.1 2, g, hm⟩
    · rintro e w' ⟨rfl, w1, ⟨g, hm1, hm2, hm3, hm4⟩, rfl⟩
      have hgs := hm3.lt
      have hb2 : (w1.drew.setCell ⟨b, 1, none⟩ (.int .u32 1)).heap[b]? = some (.cells (parCells bi true 1 (.slice (some ⟨g, 0, none⟩) (2 * 2 ^ h) (2 * 2 ^ h)) 1) 117 (0, 0)) := heap_setCell_same (w := w1.drew) hm1 1 _
      have hb3 : ((w1.drew.setCell ⟨b, 1, none⟩ (.int .u32 1)).setCell ⟨b, 1 + 1, none⟩ (.int .i32 0)).heap[b]? = some (.cells (parCells bi true 0 (.slice (some ⟨g, 0, none⟩) (2 * 2 ^ h) (2 * 2 ^ h)) 1) 117 (0, 0)) := heap_setCell_same hb2 2 _
      have k2 : Keeps (fun k => k = b) w1 ((w1.drew.setCell ⟨b, 1, none⟩ (.int .u32 1)).setCell ⟨b, 1 + 1, none⟩ (.int .i32 0)) := ((Keeps.refl (fun k => k = b) w1).drew.setCell (p := ⟨b, 1, none⟩) (.inl rfl) _).setCell (p := ⟨b, 1 + 1, none⟩) (.inl rfl) _
      have k3 := (k0.trans hm4 (fun x _ h => h)).trans k2 (fun x _ h => h)
      have hbs := hold b Fb
      rw [hs0] at hm2
      have hm3' := hm3.keeps k2 (by omega)
      refine ⟨rfl, ⟨⟨bi, _, FI, dI, asked, hb3, hI.keeps k3 (fun x hx h => nb (h ▸ hx)), hq, fun x hx => .inl (hFI x hx), .inl Fb, nb, ?_, h, g, hh, rfl, Nat.lt_of_lt_of_le hgs k2.size, ?_⟩, grow_old hold k3.size⟩, k3.mono (fun x _ h => by rw [h]; exact Fb)⟩
      · intro k hk
        simp only [Value.ownBlock, Option.some.injEq] at hk
        subst hk
        exact ⟨.inr ⟨hm2, Nat.lt_of_lt_of_le hgs k2.size⟩, fun h => by have := hI.old g h; omega, by omega⟩
      · intro k h1 h2
        obtain ⟨cs, q1, _, q3⟩ := hm3'
        rw [World.cell_of_heap q1, World.cell_of_heap q1]
        exact q3 k ⟨h1, h2⟩

end Go.Proofs.Ytlciacpffoekjaa
