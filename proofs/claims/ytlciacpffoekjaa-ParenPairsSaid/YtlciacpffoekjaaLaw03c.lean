/- Layer 3's statements: ParenPairs. -/
import Derived.Test.YtlciacpffoekjaaLaw03b
namespace Go.Proofs.Ytlciacpffoekjaa
open Go.RowKit

set_option maxRecDepth 100000 in
set_option maxHeartbeats 4000000 in
theorem walkParenPairs (a0 : Int) (a1 : Option Addr) (len1 cap1 : Nat) (z1 : List Int) (a2 : Int) (w : World) (w0 : (Lit.int .u16 a0).wf = true) (w1 : RowIn .u8 w a1 len1 cap1 z1) (w2 : (Lit.int .u8 a2).wf = true) :
    Calls Try.prog 9 #[.int .u16 a0, .slice a1 len1 cap1, .int .u8 a2] w fun e w' => e = .returned (.bool true) ∧ Below w.heap.size w w' := by
  have hnot : ∀ (x : Bool) (w : World), (Op.unary .not (.bool x)).run Try.prog w = .ok (.bool (!x)) w := fun _ _ => rfl
  obtain ⟨ps, hp, hps⟩ := w1.bytes
  obtain ⟨n, rfl, hn⟩ := u16_in w0
  obtain ⟨s, rfl, hs⟩ := u8_in w2
  clear w0 w1 w2
  have hA := fun w1 (hk : Keeps (fun _ => False) w w1) => refAny_any (.slice a1 len1 cap1) ps (n % 3000) w1 (hp.keeps hk (fun _ _ h => h)) hps (by omega)
  have e1 : ((n % 3000 : Nat) : Int) = (n : Int) % 3000 := by omega
  rw [e1] at hA
  clear hp hps e1
  go_enter Try.func9, Try.ntmps9
  go_wp2_with fail
  refine (awake03_any _).mono ?_
  rintro e w1 ⟨rfl, hk1⟩
  go_wp2_with fail
  refine (hA _ hk1).mono ?_
  rintro e w2 ⟨sv, zs, rfl, hown, hzl, h01, hB, hk2⟩
  have k2 := hk1.trans hk2 (fun _ _ h => h)
  have hbl := bitsOf_length zs
  have hzl2 : zs.length ≤ 6000 := by omega
  have hM := made03_any sv zs w2 hown.sl (fun k hk => (hown.lt k hk).2) (by omega) hB
  clear hA hk1 hk2 hzl
  go_wp2_with fail
  refine hM.mono ?_
  rintro e w3 ⟨b, F, rfl, hP, hFw, hk3⟩
  have hown3 := hown.keeps hk3 (fun _ _ h => h)
  have hT := refMates_any sv zs w3 hown3.sl h01 (by omega) hB
  have k3 := k2.trans hk3 (fun _ _ h => h)
  have hFw3 : ∀ x, F x → w.heap.size ≤ x := fun x hx => Nat.le_trans k2.size (hFw x hx)
  clear hM hk3 hown k2 hFw
  obtain ⟨sa, sc, rfl, hsc1, hsc2⟩ := hown3.form
  go_wp2_with fail
  refine hT.mono ?_
  rintro e w4 ⟨gm, gr, ov, rfl, ms, rs, st, hI, hm, hr, _, hgg, _, _, hk4⟩
  have hP4 := hP.keeps hk4 (fun _ _ h => h)
  have hfinI := (show MInv (bitsOf zs) (bitsOf zs).length ms rs st from by rw [hbl]; exact hI).fin hB
  rw [hbl] at hfinI hm hr
  have hFm : ¬ F gm := fun h => by have := hP.old gm h; have := (hm.lt gm rfl).1; omega
  have hFr : ¬ F gr := fun h => by have := hP.old gr h; have := (hr.lt gr rfl).1; omega
  have k4 := k3.trans hk4 (fun _ _ h => h)
  have hF := hP4.old
  have hA0 := hP4.after
  have hfin : ∀ W done q, ParAfter w4 b (bitsOf zs) done q F W → Below w.heap.size w W := fun W done q h => (k4.trans h.2 (fun x hx h => by have := hFw3 x h; omega)).below (fun _ _ h => h)
  have hgmr : ∀ W done q, ParAfter w4 b (bitsOf zs) done q F W → OwnI w3.heap.size W (.slice (some ⟨gm, 0, none⟩) zs.length zs.length) ms ∧ OwnI w3.heap.size W (.slice (some ⟨gr, 0, none⟩) zs.length zs.length) rs := fun W done q h =>
    ⟨hm.keeps h.2 (fun x hx => by simp only [Value.ownBlock, Option.some.injEq] at hx; subst hx; exact hFm), hr.keeps h.2 (fun x hx => by simp only [Value.ownBlock, Option.some.injEq] at hx; subst hx; exact hFr)⟩
  have HF := Lib.hid (And.intro hfin (And.intro hgmr (And.intro hF (And.intro hfinI hbl))))
  clear hfin hgmr hfinI hF hP4 hm hr hFm hFr hI hT hP hown3 k3 k4 hk4 hFw3 h01 hB hbl
  go_wp2_with fail
  go_loopw [12] (fun i wr => ∃ (j q : Nat) (d : Bool), j ≤ zs.length + 100 ∧ i = .int .i64 j ∧ q ≤ 8 * j ∧ ParAfter w4 b (bitsOf zs) d q F wr) (fun i _ => zs.length + 100 - (intOf i).toNat)
  case atStart => exact ⟨0, 0, false, by omega, rfl, by omega, hA0⟩
  case round =>
    obtain ⟨j, q, d, hj, rfl, hq, hP⟩ := hrel
    clear hA0
    by_cases hlt : j < zs.length
    · obtain ⟨⟨m, hm1, hm2⟩, r, hr1, hr2⟩ := HF.out.2.2.2.1 j hlt
      have hml := hm2.lt
      rw [HF.out.2.2.2.2] at hml
      have q1 := Mate_in HF.out.2.2.1 hP j m (by omega) (by rw [HF.out.2.2.2.2]; exact hlt) hm2
      have q2 := fun w5 (h : ParAfter w4 b (bitsOf zs) true (q + 2) F w5) => Round_in HF.out.2.2.1 h j r (by omega) (by rw [HF.out.2.2.2.2]; exact hlt) hr2
      have q3 := fun w5 (h : ParAfter w4 b (bitsOf zs) true (q + 2 + 4) F w5) => Mate_in HF.out.2.2.1 h m j (by omega) (by rw [HF.out.2.2.2.2]; exact hml) hm2.symm
      clear hm2 hr2 hP
      go_wp2_with fail
      refine q1.mono ?_
      rintro e w5 ⟨rfl, h5⟩
      go_wp2_with fail
      refine (q2 _ h5).mono ?_
      rintro e w6 ⟨rfl, h6⟩
      have q3 := q3 _ h6
      obtain ⟨cm, cr⟩ := HF.out.2.1 _ _ _ h6
      obtain ⟨cm, _⟩ := cm.cell hm1
      obtain ⟨cr, _⟩ := cr.cell hr1
      clear q1 q2 h5 h6 hm1 hr1
      go_wp2_with fail
      refine q3.mono ?_
      rintro e w7 ⟨rfl, h7⟩
      have H7 := Lib.hid h7
      clear h7 q3 cm cr
      go_wp2
      go_roundw
      case rel => exact ⟨j + (1 + s % 50), q + 2 + 4 + 2, true, by omega, by go_num, by omega, H7.out⟩
      case measure => simp [intOf]; omega
    · have HP := Lib.hid (HF.out.1 _ _ _ hP)
      clear hP
      go_wp2
      go_ret
      exact ⟨rfl, HP.out⟩

end Go.Proofs.Ytlciacpffoekjaa
