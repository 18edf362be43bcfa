/- The references of layer 4: Mates. -/
import Derived.Test.YtlciacpffoekjaaRef04
namespace Go.Proofs.Ytlciacpffoekjaa
open Go.RowKit

/-- Mates that are found already. -/
def MatesS (w : World) (ks : List Nat) (g : Nat) (D : Nat → Prop) (wr : World) : Prop :=
  ∃ ms, OwnI w.heap.size wr (.slice (some ⟨g, 0, none⟩) ks.length ks.length) ms ∧ ms.length = ks.length ∧ (∀ i, D i → ∃ m : Nat, ms[i]? = some (m : Int) ∧ MixMate ks i m) ∧ Keeps (fun _ => False) w wr

theorem OwnI.made (B : Nat) (w : World) (n : Nat) (hB : B ≤ w.heap.size) (hn : n ≤ 100000000) : OwnI B (w.alloc (.cells (madeCells #[.int .i64 0] n) 3)) (.slice (some ⟨w.heap.size, 0, none⟩) n n) (List.replicate n 0) := by
  have ht : (madeCells #[.int .i64 0] n).toList = ints (List.replicate n 0) := by rw [toList_madeCells_one]; simp [ints]
  have h1 := World.ownsRow_lit (base := B) (e := 3) (size := 1) w (madeCells #[.int .i64 0] n) n hB (by unfold maxLen; omega) (by rw [size_madeCells]; omega)
  rw [ht] at h1
  unfold OwnI
  rw [List.length_replicate]
  exact h1

set_option maxRecDepth 100000 in
set_option maxHeartbeats 4000000 in
theorem refMates04_any (sv : Value) (ks : List Nat) (w : World) (hs : Sl .i64 w sv (nats ks)) (h4 : ∀ k ∈ ks, k < 4) (hl : ks.length ≤ 100000000) (hB : MBal ks) :
    Calls Try.prog 60 #[sv] w fun e w' => ∃ g, e = .returned (.slice (some ⟨g, 0, none⟩) ks.length ks.length) ∧ MatesS w ks g (fun i => i < ks.length) w' := by
  have hsS := fun W (hk : Keeps (fun _ => False) w W) => hs.keeps hk (fun _ _ h => h)
  obtain ⟨a, cap, rfl, hnc, hcm, _, hc⟩ := hs
  rw [nats_len] at hnc hsS ⊢
  obtain ⟨i, hi, hz0, hz1, hz2⟩ := info_parts infoInt
  have hmk := fun w => run_make (P := Try.prog) w 26 3 i _ Try.underlying26 hi hz0 .i64 .i64 (ks.length : Int) (ks.length : Int) (by omega) (Int.le_refl _) (by rw [hz2]; omega) (by omega)
  simp only [hz1, Int.toNat_natCast, Nat.mul_one] at hmk
  have hO := OwnI.made w.heap.size w ks.length (Nat.le_refl _) hl
  have HS := Lib.hid (And.intro hsS (And.intro hB h4))
  clear hi hz0 hz1 hz2 hc hsS hB h4
  go_enter Try.func60, Try.ntmps60
  go_wp2_with fail
  have hM0 : MatesS w ks w.heap.size (fun i => ∃ k, ks[i]? = some k ∧ k / 2 < 0) (w.alloc (.cells (madeCells #[.int .i64 0] ks.length) 3)) := ⟨_, hO, by simp, fun i h => by obtain ⟨k, _, h⟩ := h; omega, (Keeps.refl _ w).alloc _⟩
  clear hO hmk
  generalize World.alloc _ _ = wM at *
  obtain ⟨g, hg⟩ : ∃ g, g = w.heap.size := ⟨_, rfl⟩
  rw [← hg] at hM0
  rw [← hg]
  clear hg
  go_loopw [4] (fun t wr => ∃ s : Nat, s ≤ 2 ∧ t = .int .i64 s ∧ MatesS w ks g (fun i => ∃ k, ks[i]? = some k ∧ k / 2 < s) wr) (fun t _ => 2 - (intOf t).toNat)
  case atStart => exact ⟨0, by omega, rfl, hM0⟩
  case round =>
    obtain ⟨s, hs, rfl, ms, hm, hml, hmd, hkw⟩ := hrel
    clear hM0
    by_cases hlt : s < 2
    · have hS := refSort_any _ ks s wr (HS.out.1 wr hkw) HS.out.2.2 hl
      have HM := Lib.hid (And.intro hm (And.intro hml hmd))
      clear hm hml hmd
      go_wp2_with fail
      refine hS.mono ?_
      rintro e w2 ⟨ov, av, rfl, ps, ho, ha, hp, hd, hk2⟩
      rw [List.take_of_length_le (Nat.le_refl _)] at ho
      have hbal := HS.out.2.1.get hlt
      rw [← ownZ_bits] at hbal
      have hol : (ownZ s ks).length ≤ 100000000 := by rw [ownZ_length]; exact Nat.le_trans (ownB_le s ks) hl
      have hT := refMates_any ov (ownZ s ks) w2 ho.sl (ownZ_01 s ks) hol hbal
      have hpl : ps.length = (ownZ s ks).length := by rw [hp.1, ownZ_length, ownB_length]
      obtain ⟨oa, oc, rfl, hoc1, hoc2⟩ := ho.form
      obtain ⟨aa, ac, rfl, hac1, hac2⟩ := ha.form
      rw [nats_len, hpl] at ha hac1 hd ⊢
      have hbl2 : (ownB s ks).length = (ownZ s ks).length := (ownZ_length s ks).symm
      have HP := Lib.hid (And.intro hp (And.intro hpl hbl2))
      clear hS ho hd hp hpl hbl2
      go_wp2_with fail
      refine hT.mono ?_
      rintro e w3 ⟨gm, gr, ov3, rfl, cs, rs, st, hI, hcm2, hrm, _, hgg, _, _, hk3⟩
      have hfin := (show MInv (bitsOf (ownZ s ks)) (bitsOf (ownZ s ks)).length cs rs st from by rw [bitsOf_length]; exact hI).fin hbal
      rw [bitsOf_length] at hfin hcm2
      rw [ownZ_bits] at hfin
      have ha3 := ha.keeps hk3 (fun _ _ h => h)
      have hkw3 := (hkw.trans hk2 (fun _ _ h => h)).trans hk3 (fun _ _ h => h)
      have hk23 := hk2.trans hk3 (fun _ _ h => h)
      have hMin : MatesS w ks g (fun i => (∃ k, ks[i]? = some k ∧ k / 2 < s) ∨ ∃ j, j < 0 ∧ SelAt s ks j i) w3 := ⟨ms, HM.out.1.keeps hk23 (fun _ _ h => h), HM.out.2.1, fun i h => by
        rcases h with h | ⟨j, h, _⟩
        · exact HM.out.2.2 i h
        · omega, hkw3⟩
      have hgw := (HM.out.1.lt g rfl).2
      have hg1 : ∀ k, (Value.slice aa (ownZ s ks).length ac).ownBlock = some k → k ≠ g := fun k hk e => by have := (ha.lt k hk).1; omega
      have hg2 : gm ≠ g := fun e => by have := (hcm2.lt gm rfl).1; have := hk2.size; omega
      have HR := Lib.hid (And.intro hfin (And.intro hg1 (And.intro ha3 (And.intro hcm2 hg2))))
      clear hT hI hrm hgg hk3 hk2 ha hkw hkw3 hk23 hcm2 hfin hg1 ha3 hbal hg2
      generalize (ownZ s ks).length = L at *
      go_wp2_with fail
      go_loopw [31] (fun t wr => ∃ j : Nat, j ≤ L ∧ t = .int .i64 j ∧ MatesS w ks g (fun i => (∃ k, ks[i]? = some k ∧ k / 2 < s) ∨ ∃ j', j' < j ∧ SelAt s ks j' i) wr ∧ Keeps (fun x => x = g) w3 wr) (fun t _ => L - (intOf t).toNat)
      case atStart => exact ⟨0, Nat.zero_le _, rfl, hMin, Keeps.refl _ _⟩
      case round =>
        obtain ⟨j, hj, rfl, ⟨ms2, hm, hml, hmd, hkw⟩, hk3⟩ := hrel
        clear hMin
        by_cases hlt2 : j < L
        · obtain ⟨n, hn⟩ : ∃ n, ps[j]? = some n := ⟨_, List.getElem?_eq_getElem (by have := HP.out.2; omega)⟩
          have hsn := HP.out.1.2 j n hn
          obtain ⟨⟨c, hc1, hc2⟩, _⟩ := HR.out.1 j hlt2
          have hcl := hc2.lt
          rw [HP.out.2.2] at hcl
          obtain ⟨m, hmm⟩ : ∃ m, ps[c]? = some m := ⟨_, List.getElem?_eq_getElem (by have := HP.out.2.1; omega)⟩
          have hsm := HP.out.1.2 c m hmm
          have hnl := hsn.lt
          have hmix : MixMate ks n m := ⟨s, j, c, hlt, hsn, hsm, hc2⟩
          have ha4 := HR.out.2.2.1.keeps hk3 (fun b hb e => HR.out.2.1 b hb e)
          have hc4 := HR.out.2.2.2.1.keeps hk3 (fun b hb e => by simp only [Value.ownBlock, Option.some.injEq] at hb; exact HR.out.2.2.2.2 (hb.trans e))
          obtain ⟨ga, rfl⟩ := own_some ha4 (by rw [nats_len]; have := HP.out.2.1; omega)
          obtain ⟨q1, _⟩ := ha4.cell (nats_get hn)
          obtain ⟨q2, _⟩ := ha4.cell (nats_get hmm)
          obtain ⟨q3, _⟩ := hc4.cell hc1
          obtain ⟨x, q4, f4⟩ := hm.has n (by omega)
          have hfin : MatesS w ks g (fun i => (∃ k, ks[i]? = some k ∧ k / 2 < s) ∨ ∃ j', j' < j + 1 ∧ SelAt s ks j' i) (wr.setCell ⟨g, n, none⟩ (.int .i64 m)) ∧ Keeps (fun x => x = g) w3 (wr.setCell ⟨g, n, none⟩ (.int .i64 m)) := by
            refine ⟨⟨_, hm.set n m, by simpa using hml, fun i hi => ?_, hkw.setCell (p := ⟨g, n, none⟩) (.inr (hm.lt g rfl).1) _⟩, hk3.setCell (p := ⟨g, n, none⟩) (.inl rfl) _⟩
            by_cases hin : i = n
            · subst hin
              exact ⟨m, by rw [List.getElem?_set_self (by omega)], hmix⟩
            · rw [List.getElem?_set_ne (fun e => hin e.symm)]
              refine hmd i ?_
              rcases hi with h | ⟨j', h1, h2⟩
              · exact .inl h
              · refine .inr ⟨j', ?_, h2⟩
                rcases Nat.lt_or_ge j' j with h | h
                · exact h
                · obtain rfl : j' = j := by omega
                  exact absurd (h2.unique hsn) hin
          have HF := Lib.hid hfin
          clear hfin hm hml hmd hkw hk3 hn hsn hc1 hc2 hmm hsm hmix ha4 hc4
          go_wp2
          go_roundw
          case rel => exact ⟨j + 1, by omega, by go_num, HF.out.1, HF.out.2⟩
          case measure => simp [intOf]; omega
        · obtain rfl : L = j := by omega
          have hfin : MatesS w ks g (fun i => ∃ k, ks[i]? = some k ∧ k / 2 < s + 1) wr := ⟨ms2, hm, hml, fun i hi => by
            obtain ⟨k, hk, hks⟩ := hi
            refine hmd i ?_
            by_cases h : k / 2 < s
            · exact .inl ⟨k, hk, h⟩
            · have hks2 : k / 2 = s := by omega
              have hsel := SelAt.at hk hks2
              refine .inr ⟨_, ?_, hsel⟩
              have := hsel.jlt
              rw [HP.out.2.2] at this
              exact this, hkw⟩
          have HF := Lib.hid hfin
          clear hfin hm hml hmd hkw hk3
          go_wp2
          go_roundw
          case rel => exact ⟨s + 1, by omega, by go_num, HF.out⟩
          case measure => simp [intOf]; omega
    · obtain rfl : 2 = s := by omega
      have hfin : MatesS w ks g (fun i => i < ks.length) wr := ⟨ms, hm, hml, fun i hi => hmd i ⟨_, List.getElem?_eq_getElem hi, by have := HS.out.2.2 _ (List.getElem_mem hi); omega⟩, hkw⟩
      have HF := Lib.hid hfin
      clear hfin hm hml hmd hkw
      go_wp2
      go_ret
      exact ⟨g, rfl, HF.out⟩

end Go.Proofs.Ytlciacpffoekjaa
