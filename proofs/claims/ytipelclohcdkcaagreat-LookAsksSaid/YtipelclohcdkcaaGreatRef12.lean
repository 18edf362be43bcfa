/- The references of layer 12: names. -/
import Derived.Test.YtipelclohcdkcaaGreatTuran
namespace Go.Proofs.YtipelclohcdkcaaGreat
open Go.RowKit

/-- What Names has laid. -/
def NmS (ks : List Nat) (j : Nat) (zs : List Int) : Prop := ∀ i k, i < j → ks[i]? = some k → k % 2 = 0 → zs[i]? = some ((2 * oc ks i : Nat) : Int) ∧ zs[mp ks i]? = some ((2 * oc ks i + 1 : Nat) : Int)

theorem NmS.skip {ks : List Nat} {j k : Nat} {zs : List Int} (hk : ks[j]? = some k) (h1 : k % 2 = 1) (h : NmS ks j zs) : NmS ks (j + 1) zs := by
  intro i x hi hx h0
  by_cases hij : i = j
  · subst hij; rw [hk] at hx; simp only [Option.some.injEq] at hx; omega
  · exact h i x (by omega) hx h0

theorem NmS.step {ks : List Nat} {j k : Nat} {zs : List Int} (hW : Wd ks) (hl : zs.length = ks.length) (hk : ks[j]? = some k) (h0 : k % 2 = 0) (h : NmS ks j zs) : NmS ks (j + 1) ((zs.set j ((2 * oc ks j : Nat) : Int)).set (mp ks j) ((2 * oc ks j + 1 : Nat) : Int)) := by
  have hj := lt_of_get hk
  have hm := hW.mp_lt hj
  have hjm : mp ks j ≠ j := by
    obtain ⟨s, hs, ⟨_, h2⟩ | ⟨_, h2⟩⟩ := hW.cases hj
    · have := h2.lt; omega
    · have := h2.lt; omega
  have hopen : ∀ i x, ks[i]? = some x → x % 2 = 0 → i ≠ mp ks j := by
    intro i x hx hx0 e
    subst e
    obtain ⟨s, hs, ⟨h1, h2⟩ | ⟨h1, h2⟩⟩ := hW.cases hj
    · rw [h2.closes] at hx; simp only [Option.some.injEq] at hx; omega
    · rw [h1] at hk; simp only [Option.some.injEq] at hk; omega
  intro i x hi hx hx0
  have hin := lt_of_get hx
  have hmi := hW.mp_lt hin
  by_cases hij : i = j
  · subst hij
    constructor
    · rw [List.getElem?_set, if_neg hjm, List.getElem?_set, if_pos rfl, if_pos (by omega)]
    · rw [List.getElem?_set, if_pos rfl, if_pos (by simp; omega)]
  · obtain ⟨g1, g2⟩ := h i x (by omega) hx hx0
    have e1 := hopen i x hx hx0
    have e2 : mp ks i ≠ j := fun e => by
      have := hopen j k hk h0
      have h3 := hW.mp_mp hin
      rw [e] at h3
      exact e1 h3.symm
    have e3 : mp ks i ≠ mp ks j := fun e => hij (by rw [← hW.mp_mp hin, e, hW.mp_mp hj])
    constructor
    · rw [List.getElem?_set, if_neg (fun e => e1 e.symm), List.getElem?_set, if_neg (fun e => hij e.symm)]; exact g1
    · rw [List.getElem?_set, if_neg (fun e => e3 e.symm), List.getElem?_set, if_neg (fun e => e2 e.symm)]; exact g2

theorem NmS.all {ks : List Nat} {zs : List Int} (hW : Wd ks) (hl : zs.length = ks.length) (h : NmS ks ks.length zs) : zs = nats ((List.range ks.length).map (nmD ks)) := by
  apply List.ext_getElem?
  intro e
  rcases Nat.lt_or_ge e ks.length with he | he
  · have hr : (nats ((List.range ks.length).map (nmD ks)))[e]? = some ((nmD ks e : Nat) : Int) := by simp [nats, he]
    rw [hr]
    obtain ⟨s, hs, ⟨h1, h2⟩ | ⟨h1, h2⟩⟩ := hW.cases he
    · rw [(h e _ he h1 (by omega)).1]
      unfold nmD
      rw [getD_of h1, if_pos (by omega)]
    · have := (h (mp ks e) _ (hW.mp_lt he) h2.opens (by omega)).2
      rw [hW.mp_mp he] at this
      rw [this]
      unfold nmD
      rw [getD_of h1, if_neg (by omega)]
  · rw [List.getElem?_eq_none (by omega), List.getElem?_eq_none (by simp [nats]; exact he)]

set_option maxRecDepth 100000 in
set_option maxHeartbeats 4000000 in
theorem refNames12_any (sv : Value) (ks : List Nat) (w : World) (hs : Sl .i64 w sv (nats ks)) (hW : Wd ks) (hl : ks.length ≤ 1000000) :
    Calls Tryz.prog 67 #[sv] w fun e w' => ∃ g, e = .returned (.slice (some ⟨g, 0, none⟩) ks.length ks.length) ∧ MadeS w g ks.length (fun zs => zs = nats ((List.range ks.length).map (nmD ks))) w' := by
  have HS : Hid (∀ W, Keeps (fun _ => False) w W → Sl .i64 W sv (nats ks)) := Lib.hid (fun W hk => hs.keeps hk (fun _ _ h => h))
  obtain ⟨a, cap, rfl, hnc, hcm⟩ := hs.form
  rw [nats_len] at hnc HS ⊢
  have k0 : Keeps (fun _ => False) w (w.alloc (.cells (madeCells #[.int .i64 0] ks.length) 3)) := (Keeps.refl _ w).alloc _
  have h0 := MadeS.made w ks.length (NmS ks 0) (fun i k hi => by omega) (by omega)
  have hM := refMates04_any (.slice a ks.length cap) ks _ (HS.out _ k0) hW.k4 (by omega) hW.bal
  have HW := Lib.hid hW
  have HK0 := Lib.hid (And.intro h0 k0)
  obtain ⟨ii, hi, hz0, hz1, hz2⟩ := info_parts infoInt
  have hmk := fun w => run_make (P := Tryz.prog) w 22 3 ii _ Tryz.underlying22 hi hz0 .i64 .i64 (ks.length : Int) (ks.length : Int) (by omega) (Int.le_refl _) (by rw [hz2]; omega) (by omega)
  simp only [hz1, Int.toNat_natCast, Nat.mul_one] at hmk
  clear hs hW hi hz0 hz1 hz2 h0 k0
  go_enter Tryz.func67, Tryz.ntmps67
  go_wp2_with fail
  refine hM.mono ?_
  rintro e w1 ⟨gm, rfl, ms, hms, hml, hmp, hk1⟩
  clear hM hmk
  obtain ⟨g, hg⟩ : ∃ g, g = w.heap.size := ⟨_, rfl⟩
  have h1 := HK0.out.1.keeps hk1
  have hgm : g < gm := by have := (hms.lt gm rfl).1; simp at this; omega
  have hmo : ∀ W, Keeps (fun q => q = g) w1 W → ∀ i, i < ks.length → W.cell? ⟨gm, i, none⟩ = some (.int .i64 (mp ks i : Nat)) := by
    intro W hk i hi
    have ho := hms.keeps hk (fun q hq e => by simp only [Value.ownBlock, Option.some.injEq] at hq; omega)
    obtain ⟨m, hm1, hm2⟩ := hmp i hi
    rw [HW.out.mp_eq hi hm2]
    exact (ho.cell hm1).1
  have HM := Lib.hid hmo
  have hk11 := Keeps.refl (fun q => q = g) w1
  rw [← hg] at h1
  rw [← hg]
  have HGW := Lib.hid hg
  clear hms hmp hk1 hg hmo HK0
  go_wp2_with fail
  go_loopg [5, 15] ks.length (fun m c i wr => ∃ j : Nat, j ≤ ks.length ∧ m = ks.length - j ∧ i = .int .i64 j ∧ c = .int .i64 (2 * oc ks j : Nat) ∧ MadeS w g ks.length (NmS ks j) wr ∧ Keeps (fun q => q = g) w1 wr)
  case atStart => exact ⟨0, Nat.zero_le _, rfl, rfl, by simp [oc], h1, hk11⟩
  case round =>
    clear h1 hk11
    obtain ⟨j, hj, hgk, rfl, rfl, hN, hkg⟩ := hrel
    have HG := Lib.hid hgk
    clear hgk
    by_cases hlt : j < ks.length
    · have hkj := List.getElem?_eq_getElem hlt
      have hoc := oc_succ hkj
      have hocn : oc ks j ≤ 1000000 := by have := List.length_filter_le (fun k => k % 2 == 0) (ks.take j); have : (ks.take j).length ≤ j := List.length_take_le _ _; unfold oc; omega
      obtain ⟨_, _, _, _, hkw⟩ := id hN
      obtain ⟨ag, off, rfl, hcell⟩ := (HS.out wr hkw).cellAt (nats_get hkj)
      have hx4 := HW.out.k4 _ (List.mem_of_getElem? hkj)
      have hmc := HM.out wr hkg j hlt
      have hml2 := HW.out.mp_lt hlt
      generalize ks[j] = x at *
      by_cases hx0 : x % 2 = 0
      · rw [if_pos hx0] at hoc
        obtain ⟨z1, _, hc1, hf1⟩ := hN.cell j hlt
        obtain ⟨z2, _, hc2, hf2⟩ := hN.cell (mp ks j) hml2
        have hN1 := hN.set (Q := fun zs => ∃ zs0, zs0.length = ks.length ∧ NmS ks j zs0 ∧ zs = zs0.set j ((2 * oc ks j : Nat) : Int)) j ((2 * oc ks j : Nat) : Int) (fun zs hzl h => ⟨zs, hzl, h, rfl⟩)
        have hN2 := hN1.set (Q := NmS ks (j + 1)) (mp ks j) ((2 * oc ks j + 1 : Nat) : Int) (fun zs hzl h => by
          obtain ⟨zs0, h1, h2, h3⟩ := h
          rw [h3]; exact h2.step HW.out h1 hkj hx0)
        obtain ⟨z3, _, hc3, hf3⟩ := hN1.cell (mp ks j) hml2
        have hkf := (hkg.setCell (p := ⟨g, j, none⟩) (.inl rfl) (.int .i64 ((2 * oc ks j : Nat) : Int))).setCell (p := ⟨g, mp ks j, none⟩) (.inl rfl) (.int .i64 ((2 * oc ks j + 1 : Nat) : Int))
        have HF := Lib.hid (And.intro hN2 (And.intro hkf hoc))
        have hxb : (((x : Nat) : Int) % 2 == 0) = true := by simp; omega
        have e1 : ((2 * oc ks j + 1 : Nat) : Int) = ((2 * oc ks j : Nat) : Int) + 1 := by omega
        rw [e1] at HF
        have e2 : ((2 * oc ks j : Nat) : Int) ≤ 2000000 := by omega
        have e3 : (0 : Int) ≤ ((2 * oc ks j : Nat) : Int) := by omega
        clear hN hN1 hN2 hkf hoc hkg hkw e1 hkj hx0
        obtain ⟨c, hcc⟩ : ∃ c : Nat, c = 2 * oc ks j := ⟨_, rfl⟩
        have HC := Lib.hid hcc
        rw [← hcc] at HF hc3 hf3 e2 e3
        rw [← hcc]
        clear hcc
        generalize mp ks j = y at *
        go_wp2
        go_roundg (ks.length - (j + 1))
        case measure => rw [HG.out]; omega
        case rel => exact ⟨j + 1, by omega, rfl, by go_num, by rw [HF.out.2.2, HC.out]; go_num, HF.out.1, HF.out.2.1⟩
      · rw [if_neg hx0] at hoc
        have HF := Lib.hid (And.intro (hN.mono (fun zs _ h => h.skip hkj (by omega))) (And.intro hkg hoc))
        have hxb : (((x : Nat) : Int) % 2 == 0) = false := by simp; omega
        clear hN hoc hkg hkw hmc hkj hx0
        generalize hcc : oc ks j = c at *
        have HC := Lib.hid hcc
        clear hcc
        go_wp2
        go_roundg (ks.length - (j + 1))
        case measure => rw [HG.out]; omega
        case rel => exact ⟨j + 1, by omega, rfl, by go_num, by rw [HF.out.2.2, Nat.add_zero], HF.out.1, HF.out.2.1⟩
    · obtain rfl : j = ks.length := by omega
      have HF := Lib.hid (hN.mono (fun zs hzl h => h.all HW.out hzl))
      clear hN hkg
      go_wp2
      go_ret
      exact ⟨g, rfl, HF.out⟩

end Go.Proofs.YtipelclohcdkcaaGreat
