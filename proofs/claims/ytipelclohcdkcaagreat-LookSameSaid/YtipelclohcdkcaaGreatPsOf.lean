/- mixed.Of. -/
import Derived.Test.YtipelclohcdkcaaGreatPsTexts
namespace Go.Proofs.YtipelclohcdkcaaGreat
open Go.RowKit

/-- Bits as letters, two a letter. -/
def pairK : List Bool → List Nat
  | a :: c :: l => (a.toNat + 2 * c.toNat) :: pairK l
  | _ => []

theorem pairK_length : ∀ l : List Bool, (pairK l).length = l.length / 2
  | [] => rfl
  | [_] => by simp [pairK]
  | a :: c :: l => by
    have := pairK_length l
    simp only [pairK, List.length_cons, this]
    omega

theorem pairK_get : ∀ (l : List Bool) (j : Nat), 2 * j + 1 < l.length → (pairK l)[j]? = some ((l.getD (2 * j) false).toNat + 2 * (l.getD (2 * j + 1) false).toNat)
  | [], j, h => by simp at h
  | [_], j, h => by simp at h
  | a :: c :: l, 0, _ => rfl
  | a :: c :: l, j + 1, h => by
    have := pairK_get l j (by simp at h; omega)
    rw [show 2 * (j + 1) = (2 * j + 1) + 1 by omega]
    simp only [pairK, List.getElem?_cons_succ, this, List.getD_cons_succ]

theorem pairK_wbits (ks : List Nat) (h4 : ∀ k ∈ ks, k < 4) : pairK (wbits ks) = ks := by
  induction ks with
  | nil => rfl
  | cons k ks ih =>
    have hk := h4 k (by simp)
    have ih := ih (fun x hx => h4 x (by simp [hx]))
    have h2 : wbits (k :: ks) = (k % 2 == 1) :: (k / 2 % 2 == 1) :: wbits ks := by simp [wbits, numB, List.range_succ]
    rw [h2]
    simp only [pairK, ih]
    congr 1
    match k, hk with
    | 0, _ => rfl
    | 1, _ => rfl
    | 2, _ => rfl
    | 3, _ => rfl

set_option maxRecDepth 100000 in
set_option maxHeartbeats 4000000 in
theorem mixOf_even (b : Nat) (v : Value) (l : List Bool) (w : World) (hv : VecAt w b v l) (ho : l.length % 2 = 0) (hl : l.length ≤ 100000000) :
    Calls Tryz.prog 23 #[.pointer (some ⟨b, 0, none⟩)] w fun e w' => ∃ b2, e = .returned (.tuple #[.pointer (some ⟨b2, 0, none⟩), .int .i64 0]) ∧ ParS w b2 (pairK l) w' := by
  obtain ⟨ii, hi, hz0, hz1, hz2⟩ := info_parts infoU8
  have HV : Hid (∀ W, Keeps (fun _ => False) w W → VecAt W b v l) := Lib.hid (fun W hk => hv.keeps hk (fun h => h) (fun _ _ h => h))
  have hL := len_any b v l w hv
  have e1 : (((l.length : Nat) : Int) % 2 == 1) = false := by simp; omega
  clear hv
  go_enter Tryz.func23, Tryz.ntmps23
  go_wp2_with (go_at_call 30; refine hL.mono ?_; rintro e w' ⟨rfl, rfl⟩)
  refine (wordNew_any _).mono ?_
  rintro e w1 ⟨rfl, rfl⟩
  clear hL
  have h0 : ParS w w.heap.size [] (w.alloc (.cells #[.slice none 0 0] 119)) := ⟨_, word_new w, Nat.le_refl _, fun k hk => by simp [Value.ownBlock] at hk, (Keeps.refl _ w).alloc _⟩
  obtain ⟨b2, hb2⟩ : ∃ b, b = w.heap.size := ⟨_, rfl⟩
  rw [← hb2] at h0
  rw [← hb2]
  clear hb2 e1
  generalize World.alloc _ _ = wM at *
  have HO := Lib.hid ho
  clear ho
  go_wp2_with fail
  go_loopg [5] (l.length / 2) (fun m i wr => ∃ j : Nat, j ≤ l.length / 2 ∧ m = l.length / 2 - j ∧ i = .int .i64 (2 * (j : Int)) ∧ ParS w b2 ((pairK l).take j) wr)
  case atStart => exact ⟨0, Nat.zero_le _, rfl, rfl, h0⟩
  case round =>
    obtain ⟨j, hj, hgk, rfl, v1, hv1, hbw, hvw, hkw⟩ := hrel
    have HG := Lib.hid hgk
    clear hgk h0
    have hWr := HV.out wr hkw
    have hL := len_any b v l wr hWr
    by_cases hlt : j < l.length / 2
    · have hWd := HV.out wr.drew hkw.drew
      have hA := at_any b v l (2 * (j : Int)) wr.drew hWd (by omega)
      have hB := at_any b v l (2 * (j : Int) + 1) wr.drew hWd (by omega)
      have a1 := atZ_in l (2 * j) (by omega)
      have a2 := atZ_in l (2 * j + 1) (by omega)
      rw [show ((2 * j : Nat) : Int) = 2 * (j : Int) by omega] at a1
      rw [show ((2 * j + 1 : Nat) : Int) = 2 * (j : Int) + 1 by omega] at a2
      rw [a1] at hA
      rw [a2] at hB
      have hg := pairK_get l j (by omega)
      have hst := take_get hg
      have hll : ((pairK l).take j).length = j := by rw [List.length_take, pairK_length]; omega
      obtain ⟨x, hx⟩ : ∃ x, x = (l.getD (2 * j) false).toNat := ⟨_, rfl⟩
      obtain ⟨y, hy⟩ : ∃ y, y = (l.getD (2 * j + 1) false).toNat := ⟨_, rfl⟩
      rw [← hx] at hA hst
      rw [← hy] at hB hst
      have hx1 : x ≤ 1 := by rw [hx]; cases l.getD (2 * j) false <;> decide
      have hy1 : y ≤ 1 := by rw [hy]; cases l.getD (2 * j + 1) false <;> decide
      have hown := hv1.2
      have c0 : wr.cell? ⟨b2, 0, none⟩ = some v1 := World.cell_of_heap hv1.1 0
      have hnl : ((pairK l).take j).length ≤ 100000000 := by omega
      have HS := Lib.hid hst
      have HV1 : Hid (WordAt wr.drew b2 v1 ((pairK l).take j)) := Lib.hid (hv1.keeps (Keeps.refl (fun _ => False) wr).drew (fun h => h) (fun _ _ h => h))
      have HKW := Lib.hid (And.intro hbw (And.intro hvw hkw.drew))
      clear a1 a2 hx hy hg hst hll hWr hWd hv1
      generalize (pairK l).take j = ks at *
      have hlt2 : 2 * (j : Int) < (l.length : Int) := by omega
      go_wp2_with fail
      refine hL.mono ?_
      rintro e w' ⟨rfl, rfl⟩
      clear hL
      go_wp2_with fail
      have e2 : IntKind.i64.wrap (2 * (j : Int) + 1) = 2 * (j : Int) + 1 := IntWalk.i64_in _ (by omega)
      have e3 : IntKind.i64.wrap (2 * (y : Int)) = 2 * (y : Int) := IntWalk.i64_in _ (by omega)
      have e4 : IntKind.i64.wrap ((x : Int) + 2 * (y : Int)) = (x : Int) + 2 * (y : Int) := IntWalk.i64_in _ (by omega)
      have e5 : IntKind.u8.wrap ((x : Int) + 2 * (y : Int)) = (x : Int) + 2 * (y : Int) := IntWalk.u8_in _ (by omega)
      have hownd := hown.drew
      have c0a : (wr.alloc (.cells #[.int .u8 ((x : Int) + 2 * (y : Int))] 5)).cell? ⟨b2, 0, none⟩ = some v1 := alloc_cell c0 _
      have HE : Hid (((x + 2 * y : Nat) : Int) = (x : Int) + 2 * (y : Int)) := Lib.hid (by omega)
      go_region_law (first | ((refine step_append_lies _ rfl (.tmp 21) (.tmp 32) 45 rfl 0 5 ii (.int .u8 0) 1 1 Tryz.underlying45 hi hz0 hz1 hz2 rfl (by decide) v1 ks.length _ (by simp [Act.eval]) (hownd.alloc _) ⟨wr.heap.size, 0, none⟩ 1 1 [.int .u8 ((x : Int) + 2 * (y : Int))] (by simp [Act.eval]) rfl (cell_one_new _ _ _) (by intro u hu; simp at hu; subst hu; rfl) (by decide) (by unfold maxLen; omega) (by omega) (by simp) (wr.heap.size + 1) (by simp) ?_); intro g2 cap2 w1 hown1 hgrow hat hgl; rw [← HE.out] at hown1; have hP := HV1.out.push hown1 hgrow hat; have d0 : w1.cell? ⟨b2, 0, none⟩ = some v1 := World.cell_of_heap hP.2 0; have f0 : w1.frozen? ⟨b2, 0, none⟩ = false := World.free_of_heap hP.2 0; have HP := Lib.hid hP.1; clear hP hown1 hgrow hat) | (go_simp; go_at_call 106; first | ((with_reducible refine hA.mono ?_); rintro e w' ⟨rfl, rfl⟩) | ((with_reducible refine hB.mono ?_); rintro e w' ⟨rfl, rfl⟩)))
      all_goals
        have hW := ParS.grown HKW.out.1 HKW.out.2.1 HKW.out.2.2 HP.out
        rw [← HS.out] at hW
        have HW := Lib.hid hW
        clear hW hA hB hown hownd e2 e3 e4 e5 c0 c0a
        go_wp2
        go_roundg (l.length / 2 - (j + 1))
        case measure => rw [HG.out]; omega
        case rel => exact ⟨j + 1, by omega, rfl, by go_num, HW.out⟩
    · obtain rfl : j = l.length / 2 := by omega
      have hE : (pairK l).take (l.length / 2) = pairK l := List.take_of_length_le (by rw [pairK_length]; exact Nat.le_refl _)
      have hge : ¬ 2 * ((l.length / 2 : Nat) : Int) < (l.length : Int) := by have := HO.out; omega
      rw [hE] at hv1
      have HF : Hid (ParS w b2 (pairK l) wr) := Lib.hid ⟨v1, hv1, hbw, hvw, hkw⟩
      clear hE hv1 hbw hvw hkw hWr hlt
      go_wp2_with fail
      refine hL.mono ?_
      rintro e w' ⟨rfl, rfl⟩
      clear hL
      go_wp2
      go_ret2
      exact ⟨_, rfl, HF.out⟩

end Go.Proofs.YtipelclohcdkcaaGreat
