/- The contract of package mixed: Index. -/
import Derived.Test.YtlciacpffoekjaaLab
namespace Go.Proofs.Ytlciacpffoekjaa
open Go.RowKit

/-- The cells of a Mixed whose first sorts are laid. -/
def partCells (bi bp : Nat → Nat) (s : Nat) : Array Value :=
  #[.pointer none, .pointer (if 0 < s then some ⟨bi 0, 0, none⟩ else none), .pointer (if 0 < s then some ⟨bp 0, 0, none⟩ else none), .pointer (if 1 < s then some ⟨bi 1, 0, none⟩ else none), .pointer (if 1 < s then some ⟨bp 1, 0, none⟩ else none)]

def upd (f : Nat → Nat) (s y : Nat) : Nat → Nat := fun x => if x = s then y else f x
theorem upd_same (f : Nat → Nat) (s y : Nat) : upd f s y s = y := if_pos rfl
theorem upd_other (f : Nat → Nat) {s x : Nat} (y : Nat) (h : x ≠ s) : upd f s y x = f x := if_neg h

theorem partCells_step (bi bp : Nat → Nat) (s y z : Nat) (hs : s < 2) :
    ((partCells bi bp s).setIfInBounds (1 + s * 2) (.pointer (some ⟨y, 0, none⟩))).setIfInBounds (1 + s * 2 + 1) (.pointer (some ⟨z, 0, none⟩)) = partCells (upd bi s y) (upd bp s z) (s + 1) := by
  match s, hs with
  | 0, _ => rfl
  | 1, _ => rfl

theorem part_there (bi bp : Nat → Nat) (s : Nat) (hs : s < 2) : ∃ u1 u2, (partCells bi bp s)[1 + s * 2]? = some u1 ∧ (partCells bi bp s)[1 + s * 2 + 1]? = some u2 := by
  match s, hs with
  | 0, _ => exact ⟨_, _, rfl, rfl⟩
  | 1, _ => exact ⟨_, _, rfl, rfl⟩

/-- What Index hands back. -/
def IndexPost (w : World) (ks : List Nat) (e : Ending) (w' : World) : Prop :=
  (MBal ks ∧ ∃ bm bo bi bp, e = .returned (.tuple #[.pointer (some ⟨bm, 0, none⟩), .int .i64 0]) ∧ MixP w' bm bo bi bp ks 0 (fun x => w.heap.size ≤ x ∧ x < w'.heap.size) ∧ Keeps (fun _ => False) w w') ∨
  (¬ MBal ks ∧ e = .returned (.tuple #[.pointer none, .int .i64 9]) ∧ Keeps (fun _ => False) w w')

/-- The vectors while a sort is gathered. -/
def InS (w0 : World) (bo b7 b8 bm : Nat) (bi bp : Nat → Nat) (ks : List Nat) (s k : Nat) (wr : World) : Prop :=
  ∃ lab vo vi vw, IxS w0 lab bm (partCells bi bp s) bi bp ks s wr ∧ VecL wr lab 2 bo vo (if s = 0 then openB (ks.take k) else openB ks) ∧ VecL wr lab 7 b7 vi (isB s (ks.take k)) ∧ VecL wr lab 8 b8 vw (ownB s (ks.take k))

/-- Between two sorts. -/
def OutS (w0 : World) (bo bm : Nat) (ks : List Nat) (s : Nat) (wr : World) : Prop :=
  ∃ bi bp lab vo, IxS w0 lab bm (partCells bi bp s) bi bp ks s wr ∧ VecL wr lab 2 bo vo (if s = 0 then [] else openB ks)

theorem take_open {ks : List Nat} {i k : Nat} (h : ks[i]? = some k) : openB (ks.take (i + 1)) = openB (ks.take i) ++ [k % 2 == 0] := by
  rw [take_get h, openB_append]; rfl
theorem take_is (s : Nat) {ks : List Nat} {i k : Nat} (h : ks[i]? = some k) : isB s (ks.take (i + 1)) = isB s (ks.take i) ++ [k / 2 == s] := by
  rw [take_get h, isB_append]; rfl
theorem take_own {s : Nat} {ks : List Nat} {i k : Nat} (h : ks[i]? = some k) (hs : k / 2 = s) : ownB s (ks.take (i + 1)) = ownB s (ks.take i) ++ [k % 2 == 0] := by
  rw [take_get h, ownB_append]; simp [ownB, hs]
theorem take_own_not {s : Nat} {ks : List Nat} {i k : Nat} (h : ks[i]? = some k) (hs : ¬ k / 2 = s) : ownB s (ks.take (i + 1)) = ownB s (ks.take i) := by
  rw [take_get h, ownB_append]; simp [ownB, hs]

theorem IxS.step {w0 w5 W : World} {lab : Nat → Nat} {bm bo y z s : Nat} {bi bp : Nat → Nat} {ks : List Nat} {vo : Value} {l : List Bool} (hs : s < 2) (hX : IxS w0 lab bm (partCells bi bp s) bi bp ks s w5) (hB : Bal (ownB s ks)) (hP : ParL w5 lab (5 + s) y (ownB s ks)) (hO : VecL w5 lab 2 bo vo l)
    (hI : IdxAt W z (isB s ks) false 0 (fun k => w5.heap.size ≤ k ∧ k < W.heap.size)) (hk : Keeps (fun _ => False) w5 W) :
    ∃ lab', IxS w0 lab' bm (partCells (upd bi s z) (upd bp s y) (s + 1)) (upd bi s z) (upd bp s y) ks (s + 1) ((W.setCell ⟨bm, 1 + s * 2, none⟩ (.pointer (some ⟨z, 0, none⟩))).setCell ⟨bm, 1 + s * 2 + 1, none⟩ (.pointer (some ⟨y, 0, none⟩))) ∧
      VecL ((W.setCell ⟨bm, 1 + s * 2, none⟩ (.pointer (some ⟨z, 0, none⟩))).setCell ⟨bm, 1 + s * 2 + 1, none⟩ (.pointer (some ⟨y, 0, none⟩))) lab' 2 bo vo l := by
  have hXW := hX.keepsL hk (by omega) (fun _ _ _ h => h) (3 + s)
  have hPW := hP.keepsL hk (fun _ _ h => h) (3 + s)
  have hOW := hO.keepsL hk (fun _ _ h => h) (3 + s)
  have hIW : IdxL W (relab lab w5.heap.size (3 + s)) (3 + s) z (isB s ks) := ⟨_, hI, fun x hx => relab_new hx.1⟩
  generalize relab lab w5.heap.size (3 + s) = lb at *
  have k2 : Keeps (fun x => x = bm) W ((W.setCell ⟨bm, 1 + s * 2, none⟩ (.pointer (some ⟨z, 0, none⟩))).setCell ⟨bm, 1 + s * 2 + 1, none⟩ (.pointer (some ⟨y, 0, none⟩))) :=
    ((Keeps.refl (fun x => x = bm) W).setCell (p := ⟨bm, 1 + s * 2, none⟩) (.inl rfl) _).setCell (p := ⟨bm, 1 + s * 2 + 1, none⟩) (.inl rfl) _
  have hbl := hXW.lb
  have hblt := lt_of_block hXW.blk
  have hne : ∀ i, i ≠ 1 → ∀ x, lb x = i → ¬ x = bm := fun i hi x hx e => by rw [e, hbl] at hx; omega
  refine ⟨relab lb W.heap.size 9, ⟨fun x hx => (relab_old (Nat.lt_of_lt_of_le hx hXW.keeps.size)).trans (hXW.base x hx), hXW.keeps.trans k2 (fun x hx e => by have := hXW.base x hx; rw [e, hbl] at this; omega), ?_, (relab_old hblt).trans hbl, fun s' hs' => ?_, fun s' hs' => ?_, fun s' hs' => ?_⟩, hOW.keepsL k2 (hne 2 (by omega)) 9⟩
  · rw [← partCells_step bi bp s z y hs]
    exact heap_setCell_same (heap_setCell_same hXW.blk _ _) _ _
  · by_cases hss : s' = s
    · subst hss
      rw [upd_same]
      exact hIW.keepsL k2 (hne _ (by omega)) 9
    · rw [upd_other _ _ hss]
      exact (hXW.idx s' (by omega)).keepsL k2 (hne _ (by omega)) 9
  · by_cases hss : s' = s
    · subst hss
      rw [upd_same]
      exact hPW.keepsL k2 (hne _ (by omega)) 9
    · rw [upd_other _ _ hss]
      exact (hXW.par s' (by omega)).keepsL k2 (hne _ (by omega)) 9
  · by_cases hss : s' = s
    · rw [hss]; exact hB
    · exact hX.bal s' (by omega)

theorem IxS.fin {w0 w5 W : World} {lab : Nat → Nat} {bm bo : Nat} {bi bp : Nat → Nat} {ks : List Nat} (h4 : ∀ k ∈ ks, k < 4) (hl : ks.length ≤ 100000000) (hX : IxS w0 lab bm (partCells bi bp 2) bi bp ks 2 w5)
    (hI : IdxAt W bo (openB ks) false 0 (fun k => w5.heap.size ≤ k ∧ k < W.heap.size)) (hk : Keeps (fun _ => False) w5 W) :
    MBal ks ∧ MixP (W.setCell ⟨bm, 0, none⟩ (.pointer (some ⟨bo, 0, none⟩))) bm bo bi bp ks 0 (fun x => w0.heap.size ≤ x ∧ x < (W.setCell ⟨bm, 0, none⟩ (.pointer (some ⟨bo, 0, none⟩))).heap.size) ∧ Keeps (fun _ => False) w0 (W.setCell ⟨bm, 0, none⟩ (.pointer (some ⟨bo, 0, none⟩))) := by
  have hXW := hX.keepsL hk (by omega) (fun _ _ _ h => h) 2
  have hIW : IdxL W (relab lab w5.heap.size 2) 2 bo (openB ks) := ⟨_, hI, fun x hx => relab_new hx.1⟩
  generalize relab lab w5.heap.size 2 = lb at *
  have k2 : Keeps (fun x => x = bm) W (W.setCell ⟨bm, 0, none⟩ (.pointer (some ⟨bo, 0, none⟩))) := (Keeps.refl (fun x => x = bm) W).setCell (p := ⟨bm, 0, none⟩) (.inl rfl) _
  have hs2 : (W.setCell ⟨bm, 0, none⟩ (.pointer (some ⟨bo, 0, none⟩))).heap.size = W.heap.size := by simp
  have hbl := hXW.lb
  have hblt := lt_of_block hXW.blk
  have hne : ∀ i, i ≠ 1 → ∀ x, lb x = i → ¬ x = bm := fun i hi x hx e => by rw [e, hbl] at hx; omega
  have hge : ∀ i, i ≠ 0 → ∀ x, lb x = i → w0.heap.size ≤ x := fun i hi x hx => by
    rcases Nat.lt_or_ge x w0.heap.size with h | h
    · rw [hXW.base x h] at hx; omega
    · exact h
  have hbal : MBal ks := ⟨hX.bal 0 (by omega), hX.bal 1 (by omega)⟩
  refine ⟨hbal, ⟨heap_setCell_same hXW.blk 0 _, ⟨lb, hbl, ⟨hge 1 (by omega) bm hbl, by rw [hs2]; exact hblt⟩, ?_, fun s hs => ?_, fun s hs => ?_⟩, hbal, h4, hl, fun x hx => hx.2⟩, hXW.keeps.trans k2 (fun x hx e => by have := hXW.base x hx; rw [e, hbl] at this; omega)⟩
  · obtain ⟨Fo, h1, h2⟩ := hIW
    exact ⟨false, 0, Fo, h1.keeps k2 (fun x hx => hne 2 (by omega) x (h2 x hx)), fun x hx => ⟨⟨hge 2 (by omega) x (h2 x hx), by rw [hs2]; exact h1.old x hx⟩, h2 x hx⟩⟩
  · obtain ⟨Fo, h1, h2⟩ := hXW.idx s hs
    exact ⟨false, 0, Fo, h1.keeps k2 (fun x hx => hne _ (by omega) x (h2 x hx)), Nat.le_refl _, fun x hx => ⟨⟨hge _ (by omega) x (h2 x hx), by rw [hs2]; exact h1.old x hx⟩, h2 x hx⟩⟩
  · obtain ⟨Fo, h1, h2⟩ := hXW.par s hs
    exact ⟨false, Fo, h1.keeps k2 (fun x hx => hne _ (by omega) x (h2 x hx)), fun x hx => ⟨⟨hge _ (by omega) x (h2 x hx), by rw [hs2]; exact h1.old x hx⟩, h2 x hx⟩⟩

set_option maxRecDepth 100000 in
set_option maxHeartbeats 8000000 in
/-- Of whatever is read as letters. -/
theorem index_any (p : Value) (ks : List Nat) (w : World) (h4 : ∀ k ∈ ks, k < 4) (hl : ks.length ≤ 100000000)
    (hLen : ∀ W, Keeps (fun _ => False) w W → Calls Try.prog 93 #[p] W fun e w' => e = .returned (.int .i64 ks.length) ∧ W = w')
    (hAt : ∀ W (i k : Nat), Keeps (fun _ => False) w W → ks[i]? = some k → Calls Try.prog 94 #[p, .int .i64 i] W fun e w' => e = .returned (.int .i64 k) ∧ W = w') :
    Calls Try.prog 52 #[p] w (IndexPost w ks) := by
  have HL := Lib.hid (And.intro hLen hAt)
  clear hLen hAt
  have hol : ∀ s k, (ownB s (ks.take k)).length ≤ 100000000 := fun s k => Nat.le_trans (ownB_le s _) (Nat.le_trans (List.length_take_le' _ _) hl)
  have hil : ∀ s k, (isB s (ks.take k)).length ≤ 100000000 := fun s k => by rw [isB_length]; exact Nat.le_trans (List.length_take_le' _ _) hl
  have hpl : ∀ k, (openB (ks.take k)).length ≤ 100000000 := fun k => by rw [openB_length]; exact Nat.le_trans (List.length_take_le' _ _) hl
  have HO := Lib.hid (And.intro hol (And.intro hil hpl))
  clear hol hil hpl
  go_enter Try.func52, Try.ntmps52
  go_wp2_with fail
  refine (new_any _).mono ?_
  rintro e w1 ⟨rfl, rfl⟩
  obtain ⟨bo, hbo⟩ : ∃ bo, bo = w.heap.size := ⟨_, rfl⟩
  have hO0 : OutS w bo (w.heap.size + 1) ks 0 ((w.alloc (.cells #[.slice none 0 0, .int .i64 0] 111)).alloc (.cells #[.pointer none, .pointer none, .pointer none, .pointer none, .pointer none] 126)) := by
    have hv := (VecL.new w (fun _ => 0) 2)
    have hs1 : (w.alloc (.cells #[.slice none 0 0, .int .i64 0] 111)).heap.size = w.heap.size + 1 := by simp
    have hv2 := hv.keepsL ((Keeps.refl (fun _ => False) _).alloc (.cells #[.pointer none, .pointer none, .pointer none, .pointer none, .pointer none] 126)) (fun _ _ h => h) 1
    have hb := heap_alloc_new (w.alloc (.cells #[.slice none 0 0, .int .i64 0] 111)) (.cells #[.pointer none, .pointer none, .pointer none, .pointer none, .pointer none] 126)
    rw [hs1] at hb hv2
    refine ⟨fun _ => 0, fun _ => 0, relab (relab (fun _ => 0) w.heap.size 2) (w.heap.size + 1) 1, _, ⟨fun x hx => ?_, ((Keeps.refl _ w).alloc _).alloc _, hb, relab_new (Nat.le_refl _), fun s' hs' => by omega, fun s' hs' => by omega, fun s' hs' => by omega⟩, by rw [hbo]; exact hv2⟩
    rw [relab_old (by omega), relab_old hx]
  rw [← hbo]
  clear hbo
  go_wp2_with fail
  generalize World.alloc _ _ = wM at *
  generalize w.heap.size + 1 = bm at *
  go_loopw [16] (fun i wr => ∃ s : Nat, s ≤ 2 ∧ i = .int .i64 s ∧ OutS w bo bm ks s wr) (fun i _ => 2 - (intOf i).toNat)
  case atStart => exact ⟨0, by omega, rfl, hO0⟩
  case round =>
    obtain ⟨s, hs, rfl, bi, bp, lab, vo, hX, hV⟩ := hrel
    clear hO0
    obtain ⟨wo, rfl⟩ : ∃ wo : World, wo = wr := ⟨_, rfl⟩
    by_cases hlt : s < 2
    · go_wp2_with fail
      refine (new_any _).mono ?_
      rintro e w2 ⟨rfl, rfl⟩
      go_wp2_with fail
      refine (new_any _).mono ?_
      rintro e w3 ⟨rfl, rfl⟩
      have hI0 : InS w bo wo.heap.size ((wo.alloc (.cells #[.slice none 0 0, .int .i64 0] 111)).heap.size) bm bi bp ks s 0 ((wo.alloc (.cells #[.slice none 0 0, .int .i64 0] 111)).alloc (.cells #[.slice none 0 0, .int .i64 0] 111)) := by
        have k1 := (Keeps.refl (fun _ => False) wo).alloc (.cells #[.slice none 0 0, .int .i64 0] 111)
        have k2 := (Keeps.refl (fun _ => False) (wo.alloc (.cells #[.slice none 0 0, .int .i64 0] 111))).alloc (.cells #[.slice none 0 0, .int .i64 0] 111)
        have hV2 := (hV.keepsL k1 (fun _ _ h => h) 7).keepsL k2 (fun _ _ h => h) 8
        have hz : (if s = 0 then openB (ks.take 0) else openB ks) = (if s = 0 then [] else openB ks) := by split <;> rfl
        refine ⟨_, vo, _, _, (hX.keepsL k1 hs (fun _ _ _ h => h) 7).keepsL k2 hs (fun _ _ _ h => h) 8, by rw [hz]; exact hV2, (VecL.new wo lab 7).keepsL k2 (fun _ _ h => h) 8, VecL.new _ _ 8⟩
      obtain ⟨b7, hb7⟩ : ∃ b7, b7 = wo.heap.size := ⟨_, rfl⟩
      obtain ⟨b8, hb8⟩ : ∃ b8, b8 = (wo.alloc (.cells #[.slice none 0 0, .int .i64 0] 111)).heap.size := ⟨_, rfl⟩
      rw [← hb7, ← hb8] at hI0
      rw [← hb7, ← hb8]
      clear hb7 hb8 hX hV
      generalize World.alloc _ _ = wN at *
      have hkN : Keeps (fun _ => False) w wN := by obtain ⟨_, _, _, _, hX, _⟩ := hI0; exact hX.keeps
      have hLN := HL.out.1 wN hkN
      clear hkN
      go_wp2_with fail
      refine hLN.mono ?_
      rintro e w4 ⟨rfl, rfl⟩
      clear hLN
      go_wp2_with fail
      go_loopw [23] (fun i wr => ∃ k : Nat, k ≤ ks.length ∧ i = .int .i64 k ∧ InS w bo b7 b8 bm bi bp ks s k wr) (fun i _ => ks.length - (intOf i).toNat)
      case atStart => exact ⟨0, Nat.zero_le _, rfl, hI0⟩
      case round =>
        obtain ⟨i, hi, rfl, lab, vo, vi, vw, hX, hO, hI, hW⟩ := hrel
        clear hI0
        by_cases hlt2 : i < ks.length
        · have hk := List.getElem?_eq_getElem hlt2
          have hk4 := h4 _ (List.mem_of_getElem? hk)
          generalize ks[i] = k at *
          have hAt := HL.out.2 wr i k hX.keeps hk
          have hz : (1 - (k : Int) % 2 == 0) = !(k % 2 == 0) := by
            rw [Bool.eq_iff_iff]; simp; omega
          have hz2 : (k % 2 == 0) = !(1 - (k : Int) % 2 == 0) := by rw [hz, Bool.not_not]
          have t1 := take_open hk
          have t2 := take_is s hk
          have HK := Lib.hid (And.intro hk (And.intro t1 (And.intro t2 (And.intro hz2 HO.out))))
          clear hk hz hz2 t1 t2
          obtain ⟨z, hzz⟩ : ∃ z : Int, z = 1 - (k : Int) % 2 := ⟨_, rfl⟩
          have hzr : 1 - (k : Int) % 2 = z := hzz.symm
          rw [hzr] at HK
          clear hzz
          by_cases h0 : s = 0 <;> by_cases h1 : k / 2 = s
          · have ts : ((s : Int) == 0) = true := by rw [beq_iff_eq]; omega
            have tk : ((k : Int) / 2 != (s : Int)) = false := by simp only [bne_eq_false_iff_eq]; omega
            rw [if_pos h0] at hO
            have hk3 : (k : Int) ≤ 3 := by omega
            have H0 := Lib.hid (And.intro h0 h1)
            clear h0 h1
            go_wp2_with fail
            refine hAt.mono ?_
            rintro e w5 ⟨rfl, rfl⟩
            clear hAt
            have hA1 := AddL_any hO (z) (k % 2 == 0) (by exact HK.out.2.2.2.1) (Nat.lt_of_le_of_lt (HK.out.2.2.2.2.2.2 _) (by omega))
            go_wp2_with fail
            refine hA1.mono ?_
            rintro e w11 ⟨rfl, vO1, hN1, hK1⟩
            have hI1 := hI.keepsL hK1 (fun x hx e => by omega) 2
            have hW1 := hW.keepsL hK1 (fun x hx e => by omega) 2
            have hX1 := hX.keepsL hK1 hs (fun x hx hx2 e => by omega) 2
            clear hA1
            have hA2 := AddL_any hI1 (1) true (by rfl) (Nat.lt_of_le_of_lt (HK.out.2.2.2.2.2.1 _ _) (by omega))
            go_wp2_with fail
            refine hA2.mono ?_
            rintro e w12 ⟨rfl, vI2, hN2, hK2⟩
            have hO2 := hN1.keepsL hK2 (fun x hx e => by omega) 7
            have hW2 := hW1.keepsL hK2 (fun x hx e => by omega) 7
            have hX2 := hX1.keepsL hK2 hs (fun x hx hx2 e => by omega) 7
            clear hA2
            have hA3 := AddL_any hW2 (z) (k % 2 == 0) (by exact HK.out.2.2.2.1) (Nat.lt_of_le_of_lt (HK.out.2.2.2.2.1 _ _) (by omega))
            go_wp2_with fail
            refine hA3.mono ?_
            rintro e w13 ⟨rfl, vW3, hN3, hK3⟩
            have hO3 := hO2.keepsL hK3 (fun x hx e => by omega) 8
            have hI3 := hN2.keepsL hK3 (fun x hx e => by omega) 8
            have hX3 := hX2.keepsL hK3 hs (fun x hx hx2 e => by omega) 8
            clear hA3
            have hfin : InS w bo b7 b8 bm bi bp ks s (i + 1) w13 := ⟨_, _, _, _, hX3, by rw [if_pos H0.out.1, HK.out.2.1]; exact hO3, by rw [HK.out.2.2.1, show (k / 2 == s) = true by rw [beq_iff_eq]; exact H0.out.2]; exact hI3, by rw [take_own HK.out.1 H0.out.2]; exact hN3⟩
            have HF := Lib.hid hfin
            clear hfin hX3 hO3 hI3 hN3 hzr
            go_wp2
            go_roundw
            case rel => exact ⟨i + 1, by omega, by go_num, HF.out⟩
            case measure => simp [intOf]; omega
          · have ts : ((s : Int) == 0) = true := by rw [beq_iff_eq]; omega
            have tk : ((k : Int) / 2 != (s : Int)) = true := by simp only [bne_iff_ne]; omega
            rw [if_pos h0] at hO
            have hk3 : (k : Int) ≤ 3 := by omega
            have H0 := Lib.hid (And.intro h0 h1)
            clear h0 h1
            go_wp2_with fail
            refine hAt.mono ?_
            rintro e w5 ⟨rfl, rfl⟩
            clear hAt
            have hA1 := AddL_any hO (z) (k % 2 == 0) (by exact HK.out.2.2.2.1) (Nat.lt_of_le_of_lt (HK.out.2.2.2.2.2.2 _) (by omega))
            go_wp2_with fail
            refine hA1.mono ?_
            rintro e w11 ⟨rfl, vO1, hN1, hK1⟩
            have hI1 := hI.keepsL hK1 (fun x hx e => by omega) 2
            have hW1 := hW.keepsL hK1 (fun x hx e => by omega) 2
            have hX1 := hX.keepsL hK1 hs (fun x hx hx2 e => by omega) 2
            clear hA1
            have hA2 := AddL_any hI1 (0) false (by rfl) (Nat.lt_of_le_of_lt (HK.out.2.2.2.2.2.1 _ _) (by omega))
            go_wp2_with fail
            refine hA2.mono ?_
            rintro e w12 ⟨rfl, vI2, hN2, hK2⟩
            have hO2 := hN1.keepsL hK2 (fun x hx e => by omega) 7
            have hW2 := hW1.keepsL hK2 (fun x hx e => by omega) 7
            have hX2 := hX1.keepsL hK2 hs (fun x hx hx2 e => by omega) 7
            clear hA2
            have hfin : InS w bo b7 b8 bm bi bp ks s (i + 1) w12 := ⟨_, _, _, _, hX2, by rw [if_pos H0.out.1, HK.out.2.1]; exact hO2, by rw [HK.out.2.2.1, show (k / 2 == s) = false by rw [beq_eq_false_iff_ne]; exact H0.out.2]; exact hN2, by rw [take_own_not HK.out.1 H0.out.2]; exact hW2⟩
            have HF := Lib.hid hfin
            clear hfin hX2 hO2 hN2 hW2 hzr
            go_wp2
            go_roundw
            case rel => exact ⟨i + 1, by omega, by go_num, HF.out⟩
            case measure => simp [intOf]; omega
          · have ts : ((s : Int) == 0) = false := by rw [beq_eq_false_iff_ne]; omega
            have tk : ((k : Int) / 2 != (s : Int)) = false := by simp only [bne_eq_false_iff_eq]; omega
            rw [if_neg h0] at hO
            have hk3 : (k : Int) ≤ 3 := by omega
            have H0 := Lib.hid (And.intro h0 h1)
            clear h0 h1
            go_wp2_with fail
            refine hAt.mono ?_
            rintro e w5 ⟨rfl, rfl⟩
            clear hAt
            have hA1 := AddL_any hI (1) true (by rfl) (Nat.lt_of_le_of_lt (HK.out.2.2.2.2.2.1 _ _) (by omega))
            go_wp2_with fail
            refine hA1.mono ?_
            rintro e w11 ⟨rfl, vI1, hN1, hK1⟩
            have hO1 := hO.keepsL hK1 (fun x hx e => by omega) 7
            have hW1 := hW.keepsL hK1 (fun x hx e => by omega) 7
            have hX1 := hX.keepsL hK1 hs (fun x hx hx2 e => by omega) 7
            clear hA1
            have hA2 := AddL_any hW1 (z) (k % 2 == 0) (by exact HK.out.2.2.2.1) (Nat.lt_of_le_of_lt (HK.out.2.2.2.2.1 _ _) (by omega))
            go_wp2_with fail
            refine hA2.mono ?_
            rintro e w12 ⟨rfl, vW2, hN2, hK2⟩
            have hO2 := hO1.keepsL hK2 (fun x hx e => by omega) 8
            have hI2 := hN1.keepsL hK2 (fun x hx e => by omega) 8
            have hX2 := hX1.keepsL hK2 hs (fun x hx hx2 e => by omega) 8
            clear hA2
            have hfin : InS w bo b7 b8 bm bi bp ks s (i + 1) w12 := ⟨_, _, _, _, hX2, by rw [if_neg H0.out.1]; exact hO2, by rw [HK.out.2.2.1, show (k / 2 == s) = true by rw [beq_iff_eq]; exact H0.out.2]; exact hI2, by rw [take_own HK.out.1 H0.out.2]; exact hN2⟩
            have HF := Lib.hid hfin
            clear hfin hX2 hO2 hI2 hN2 hzr
            go_wp2
            go_roundw
            case rel => exact ⟨i + 1, by omega, by go_num, HF.out⟩
            case measure => simp [intOf]; omega
          · have ts : ((s : Int) == 0) = false := by rw [beq_eq_false_iff_ne]; omega
            have tk : ((k : Int) / 2 != (s : Int)) = true := by simp only [bne_iff_ne]; omega
            rw [if_neg h0] at hO
            have hk3 : (k : Int) ≤ 3 := by omega
            have H0 := Lib.hid (And.intro h0 h1)
            clear h0 h1
            go_wp2_with fail
            refine hAt.mono ?_
            rintro e w5 ⟨rfl, rfl⟩
            clear hAt
            have hA1 := AddL_any hI (0) false (by rfl) (Nat.lt_of_le_of_lt (HK.out.2.2.2.2.2.1 _ _) (by omega))
            go_wp2_with fail
            refine hA1.mono ?_
            rintro e w11 ⟨rfl, vI1, hN1, hK1⟩
            have hO1 := hO.keepsL hK1 (fun x hx e => by omega) 7
            have hW1 := hW.keepsL hK1 (fun x hx e => by omega) 7
            have hX1 := hX.keepsL hK1 hs (fun x hx hx2 e => by omega) 7
            clear hA1
            have hfin : InS w bo b7 b8 bm bi bp ks s (i + 1) w11 := ⟨_, _, _, _, hX1, by rw [if_neg H0.out.1]; exact hO1, by rw [HK.out.2.2.1, show (k / 2 == s) = false by rw [beq_eq_false_iff_ne]; exact H0.out.2]; exact hN1, by rw [take_own_not HK.out.1 H0.out.2]; exact hW1⟩
            have HF := Lib.hid hfin
            clear hfin hX1 hO1 hN1 hW1 hzr
            go_wp2
            go_roundw
            case rel => exact ⟨i + 1, by omega, by go_num, HF.out⟩
            case measure => simp [intOf]; omega
        · obtain rfl : ks.length = i := by omega
          rw [List.take_of_length_le (Nat.le_refl _)] at hO hI hW
          have hO2 : VecL wr lab 2 bo vo (openB ks) := by split at hO <;> exact hO
          clear hO
          by_cases hB : Bal (ownB s ks)
          · have hN := parNew_good b8 vw (ownB s ks) wr hW.1 (Nat.le_trans (ownB_le s ks) hl) hB
            have HB := Lib.hid hB
            clear hB
            go_wp2_with fail
            refine hN.mono ?_
            rintro e w5 ⟨y, rfl, hP5, hk5⟩
            have hX5 := hX.keepsL hk5 hs (fun _ _ _ h => h) (5 + s)
            have hO5 := hO2.keepsL hk5 (fun _ _ h => h) (5 + s)
            have hI5 := hI.keepsL hk5 (fun _ _ h => h) (5 + s)
            have hP5' : ParL w5 (relab lab wr.heap.size (5 + s)) (5 + s) y (ownB s ks) := ⟨_, hP5, fun x hx => relab_new hx.1⟩
            have hR := fun n => rankNew_any b7 vi (isB s ks) (w5.drewN n) (hI5.1.keeps ((Keeps.refl (fun _ => False) w5).drewN n) (fun h => h) (fun _ _ h => h)) (by rw [isB_length]; exact hl)
            have hR0 := hR 1
            clear hN hX hO2 hI hW hP5 hk5
            have c1 : w5.cell? ⟨bm, 1 + s * 2, none⟩ = (partCells bi bp s)[1 + s * 2]? := World.cell_of_heap hX5.blk _
            have HH := Lib.hid (And.intro hX5 (And.intro hO5 hP5'))
            clear hX5 hO5 hP5' c1 hR
            have hs0 : (0 : Int) ≤ (s : Int) := by omega
            have hs1 : (s : Int) < 2 := by omega
            have hR0 : Calls Try.prog 31 #[.pointer (some ⟨b7, 0, none⟩)] w5.drew fun e w' => ∃ b, e = .returned (.pointer (some ⟨b, 0, none⟩)) ∧ IdxAt w' b (isB s ks) false 0 (fun k => w5.heap.size ≤ k ∧ k < w'.heap.size) ∧ Keeps (fun _ => False) w5.drew w' := hR0
            go_wp2_with fail
            go_region_held3 (fun _ => True) (trivial) ((go_at_call 31; refine hR0.mono ?_; rintro e W ⟨z, rfl, hIz, hkz⟩; have hb6 := (hkz.at HH.out.1.blk (fun h => h) : W.heap[bm]? = some (.cells (partCells bi bp s) 126 (0, 0))); obtain ⟨u1, u2, hu1, hu2⟩ := part_there bi bp s hlt; have d1 := ((World.cell_of_heap hb6 (1 + s * 2)).trans hu1 : W.cell? ⟨bm, 1 + s * 2, none⟩ = some u1); have d2 := ((World.cell_of_heap hb6 (1 + s * 2 + 1)).trans hu2 : W.cell? ⟨bm, 1 + s * 2 + 1, none⟩ = some u2); have f1 := World.free_of_heap hb6 (1 + s * 2); have f2 := World.free_of_heap hb6 (1 + s * 2 + 1)))
            have hst := IxS.step hlt HH.out.1 HB.out HH.out.2.2 HH.out.2.1 hIz (((Keeps.refl (fun _ => False) w5).drew).trans hkz (fun _ _ h => h))
            obtain ⟨lab', hst1, hst2⟩ := hst
            have hout : OutS w bo bm ks (s + 1) ((W.setCell ⟨bm, 1 + s * 2, none⟩ (.pointer (some ⟨z, 0, none⟩))).setCell ⟨bm, 1 + s * 2 + 1, none⟩ (.pointer (some ⟨y, 0, none⟩))) := ⟨_, _, lab', vo, hst1, by rw [if_neg (by omega)]; exact hst2⟩
            have HS := Lib.hid hout
            clear hst1 hst2 hout hIz hkz hb6 hu1 hu2 d1 d2 f1 f2 hR0
            go_wp2
            go_roundw
            case rel => exact ⟨s + 1, by omega, by go_num, HS.out⟩
            case measure => simp [intOf]; omega
          · have hN := parNew_bad b8 vw (ownB s ks) wr hW.1 (Nat.le_trans (ownB_le s ks) hl) hB
            have hfin : ¬ MBal ks ∧ Keeps (fun _ => False) w wr := ⟨fun h => hB (h.get hlt), hX.keeps⟩
            have HF := Lib.hid hfin
            clear hB hX hO2 hI hW hfin
            go_wp2_with fail
            refine hN.mono ?_
            rintro e w5 ⟨rfl, rfl⟩
            clear hN
            go_wp2
            go_ret2
            exact .inr ⟨HF.out.1, rfl, HF.out.2⟩
    · obtain rfl : 2 = s := by omega
      rw [if_neg (by omega)] at hV
      have hR := rankNew_any bo vo (openB ks) wo hV.1 (by rw [openB_length]; exact hl)
      have HX := Lib.hid hX
      have hbw : wo.heap[bm]? = some (.cells (partCells bi bp 2) 126 (0, 0)) := hX.blk
      have HB := Lib.hid hbw
      clear hX hV hbw
      go_wp2_with fail
      refine hR.mono ?_
      rintro e W ⟨z, rfl, hI, hk⟩
      have hb6 : W.heap[bm]? = some (.cells (partCells bi bp 2) 126 (0, 0)) := hk.at HB.out (fun h => h)
      have d1 : W.cell? ⟨bm, 0, none⟩ = some (.pointer none) := World.cell_of_heap hb6 0
      have f1 := World.free_of_heap hb6 0
      have hF := IxS.fin h4 hl HX.out hI hk
      have HF := Lib.hid hF
      clear hF hI hk hb6 hR
      go_wp2
      go_ret2
      exact .inl ⟨HF.out.1, bm, z, bi, bp, rfl, HF.out.2.1, HF.out.2.2⟩

end Go.Proofs.Ytlciacpffoekjaa
