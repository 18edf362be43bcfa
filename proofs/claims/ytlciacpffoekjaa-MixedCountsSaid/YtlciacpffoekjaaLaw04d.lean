/- Layer 4's statements: MixedPairs. -/
import Derived.Test.YtlciacpffoekjaaLaw04c
namespace Go.Proofs.Ytlciacpffoekjaa
open Go.RowKit

theorem drewN_add (w : World) (n m : Nat) : (w.drewN n).drewN m = w.drewN (n + m) := by
  simp [World.drewN, Nat.add_assoc]

theorem mixAt_quiet {w : World} {b bo : Nat} {bi bp : Nat → Nat} {ks : List Nat} {q : Nat} {F : Nat → Prop} (h : MixP w b bo bi bp ks q F) (i k : Nat) (hk : ks[i]? = some k) (n : Nat) :
    Calls Try.prog 57 #[.pointer (some ⟨b, 0, none⟩), .int .i64 i] (w.drewN n) fun e w' => e = .returned (.int .i64 k) ∧ ∃ m, w' = w.drewN m := by
  refine (mixAt_in (h.keeps ((Keeps.refl (fun _ => False) w).drewN n) (fun _ _ h => h)) i k hk).mono ?_
  rintro e w' ⟨rfl, m, rfl⟩
  exact ⟨rfl, n + m, drewN_add w n m⟩

set_option maxRecDepth 100000 in
set_option maxHeartbeats 4000000 in
theorem walkMixedPairs (a0 : Int) (a1 : Option Addr) (len1 cap1 : Nat) (z1 : List Int) (a2 : Int) (w : World) (w0 : (Lit.int .u16 a0).wf = true) (w1 : RowIn .u8 w a1 len1 cap1 z1) (w2 : (Lit.int .u8 a2).wf = true) :
    Calls Try.prog 14 #[.int .u16 a0, .slice a1 len1 cap1, .int .u8 a2] w fun e w' => e = .returned (.bool true) ∧ Below w.heap.size w w' := by
  have hnot : ∀ (x : Bool) (w : World), (Op.unary .not (.bool x)).run Try.prog w = .ok (.bool (!x)) w := fun _ _ => rfl
  obtain ⟨ps, hp, hps⟩ := w1.bytes
  obtain ⟨n, rfl, hn⟩ := u16_in w0
  obtain ⟨s, rfl, hs⟩ := u8_in w2
  clear w0 w1 w2
  have hA := fun w1 (hk : Keeps (fun _ => False) w w1) => refAny04_any (.slice a1 len1 cap1) ps (n % 1500) w1 (hp.keeps hk (fun _ _ h => h)) hps (by omega)
  have e1 : ((n % 1500 : Nat) : Int) = (n : Int) % 1500 := by omega
  rw [e1] at hA
  have hm6 : n % 1500 < 1500 := by omega
  generalize n % 1500 = m6 at *
  clear hp hps e1
  go_enter Try.func14, Try.ntmps14
  go_wp2_with fail
  refine (awake04_any _).mono ?_
  rintro e w1 ⟨rfl, hk1⟩
  go_wp2_with fail
  refine (hA _ hk1).mono ?_
  rintro e w2 ⟨sv, ks, rfl, hown, ⟨h4, hkl, hB⟩, hk2⟩
  have k2 := hk1.trans hk2 (fun _ _ h => h)
  have hkl2 : ks.length ≤ 3000 := by omega
  clear hkl
  have hO := of04_any sv ks w2 hown.sl (fun k hk => (hown.lt k hk).2) h4 (by omega)
  clear hA hk1 hk2
  go_wp2_with fail
  refine hO.mono ?_
  rintro e w3 ⟨b, rfl, v, hv, hb, hvb, hk3⟩
  have hown3 := hown.keeps hk3 (fun _ _ h => h)
  have k3 := k2.trans hk3 (fun _ _ h => h)
  have hI := indexOf_word b v ks w3 hv h4 (by omega)
  have hb2 : w.heap.size ≤ b ∧ ∀ k, v.ownBlock = some k → w.heap.size ≤ k := ⟨Nat.le_trans k2.size hb, fun k hk => Nat.le_trans k2.size (hvb k hk)⟩
  have hsv : ∀ k, sv.ownBlock = some k → k ≠ b ∧ v.ownBlock ≠ some k := fun k hk => by
    have := (hown.lt k hk).2
    exact ⟨by omega, fun e => by have := hvb k e; omega⟩
  clear hO hk3 hown k2 hb hvb
  go_wp2_with fail
  refine hI.mono ?_
  clear hI
  intro e w4 h4'
  rcases h4' with ⟨_, bm, bo, bi, bp, rfl, hM, hk4⟩ | ⟨hn, _⟩
  rotate_left
  · exact absurd hB hn
  have hown4 := hown3.keeps hk4 (fun _ _ h => h)
  have hv4 := hv.keeps hk4 (fun h => h) (fun _ _ h => h)
  have k4 := k3.trans hk4 (fun _ _ h => h)
  have hlt3 := hv.lt
  have hap3 := fun x hx => (hv.apart x hx).2
  have kA := (Keeps.refl (fun _ => False) w4).alloc (.cells #[.int .i64 0] 3)
  have hD := wordAdd_good b v ks (.slice (some ⟨w4.heap.size, 0, none⟩) 1 1) [0] (w4.alloc (.cells #[.int .i64 0] 3)) (hv4.keeps kA (fun h => h) (fun _ _ h => h)) (Sl.one w4 .i64 0 _) (by intro z hz; simp at hz; subst hz; decide) (by
    intro x hx
    simp only [Value.ownBlock, Option.some.injEq] at hx
    subst hx
    exact ⟨by have := hv4.lt; omega, fun e => by have := (hv4.apart _ e).2; omega⟩) (by simp; omega)
  go_wp2_with fail
  refine hD.mono ?_
  rintro e w5 ⟨rfl, v5, hv5, hk5, hf5⟩
  clear hD
  have k5 : Keeps (fun k => k = b ∨ v.ownBlock = some k) w4 w5 := ((Keeps.refl (fun k => k = b ∨ v.ownBlock = some k) w4).alloc _).trans hk5 (fun x hx h => h)
  have hM5 := hM.keeps k5 (by
    rintro x hx (rfl | h)
    · omega
    · have := hap3 x h; omega)
  have hown5 := hown4.keeps k5 (by
    rintro x hx (rfl | h)
    · exact (hsv _ hx).1 rfl
    · exact (hsv _ hx).2 h)
  have k5' := k4.trans k5 (by
    rintro x hx (rfl | h)
    · omega
    · have := hb2.2 x h; omega)
  have hL := mixLen_any hM5
  have hRM := refMates04_any sv ks w5 hown5.sl h4 (by omega) hB
  have hw3 := k3.size
  have hown1 : ∀ k, sv.ownBlock = some k → k < w3.heap.size := fun k hk => (hown3.lt k hk).2
  clear kA hk5 hf5 hv5 hv4 hown4 hown3 hv k4 hk4 hsv hb2 hlt3 hap3 k3 hM
  have hsf := hown5.form
  rw [nats_len] at hsf
  obtain ⟨sa, sc, rfl, hsc1, hsc2⟩ := hsf
  clear k5
  go_wp2_with (go_at_call 59; refine hL.mono ?_; rintro e w' ⟨rfl, rfl⟩)
  clear hL
  refine hRM.mono ?_
  rintro e w6 ⟨gm, rfl, ms, hms, hmsl, hmsp, hk6⟩
  clear hRM
  have hown6 := hown5.keeps hk6 (fun _ _ h => h)
  have hRO := refOwners_any (.slice sa ks.length sc) ks w6 hown6.sl h4 (by omega) hB.1
  go_wp2_with fail
  refine hRO.mono ?_
  rintro e w7 ⟨go, ov, rfl, rs, st, hrI, hrs, _, _, hk7⟩
  clear hRO
  have hown7 := hown6.keeps hk7 (fun _ _ h => h)
  have hms7 := hms.keeps hk7 (fun _ _ h => h)
  have hM7 := (hM5.keeps hk6 (fun _ _ h => h)).keeps hk7 (fun _ _ h => h)
  have k7 := (k5'.trans hk6 (fun _ _ h => h)).trans hk7 (fun _ _ h => h)
  have hFm : ¬ (w3.heap.size ≤ gm ∧ gm < w4.heap.size) := fun h => by have := (hms.lt gm rfl).1; have := hM5.old gm h; omega
  have hFo : ¬ (w3.heap.size ≤ go ∧ go < w4.heap.size) := fun h => by have := (hrs.lt go rfl).1; have := (hM5.keeps hk6 (fun _ _ h => h)).old go h; omega
  have hFs : ∀ k, (Value.slice sa ks.length sc).ownBlock = some k → ¬ (w3.heap.size ≤ k ∧ k < w4.heap.size) := fun k hk h => by have := hown1 k hk; omega
  have hF := hM7.old
  have hA0 := hM7.after
  have hown : ∀ W q, MixQ w7 bm bo bi bp ks q (fun x => w3.heap.size ≤ x ∧ x < w4.heap.size) W → OwnI w1.heap.size W (.slice sa ks.length sc) (nats ks) ∧ OwnI w5.heap.size W (.slice (some ⟨gm, 0, none⟩) ks.length ks.length) ms ∧ OwnI w6.heap.size W (.slice (some ⟨go, 0, none⟩) ks.length ks.length) rs := fun W q h =>
    ⟨hown7.keeps h.2 hFs, hms7.keeps h.2 (fun x hx => by simp only [Value.ownBlock, Option.some.injEq] at hx; subst hx; exact hFm), hrs.keeps h.2 (fun x hx => by simp only [Value.ownBlock, Option.some.injEq] at hx; subst hx; exact hFo)⟩
  have hfin : ∀ W q, MixQ w7 bm bo bi bp ks q (fun x => w3.heap.size ≤ x ∧ x < w4.heap.size) W → Keeps (fun _ => False) w W := fun W q h => k7.trans h.2 (fun x hx h => by omega)
  have HF := Lib.hid (And.intro hfin (And.intro hown (And.intro hF (And.intro h4 (And.intro hmsp hrI.rd)))))
  clear hfin hown hF hFs hFm hFo k7 hM7 hms7 hown7 hk7 hrs hown6 hk6 hms hown1 hown5 k5' hM5 hrI hmsp hmsl h4 hB
  go_wp2_with fail
  go_loopg [13] (ks.length + 100) (fun m i wr => ∃ j q : Nat, j ≤ ks.length + 100 ∧ m = ks.length + 100 - j ∧ i = .int .i64 j ∧ q ≤ 15 * j ∧ MixQ w7 bm bo bi bp ks q (fun x => w3.heap.size ≤ x ∧ x < w4.heap.size) wr)
  case atStart => exact ⟨0, 0, by omega, rfl, rfl, by omega, hA0⟩
  case round =>
    obtain ⟨j, q, hj, hgk, rfl, hq, hQ⟩ := hrel
    have HG := Lib.hid hgk
    clear hA0 hgk
    by_cases hlt : j < ks.length
    · obtain ⟨m, hm1, hm2⟩ := HF.out.2.2.2.2.1 j hlt
      obtain ⟨r, hr1, hr2⟩ := HF.out.2.2.2.2.2 j hlt
      obtain ⟨x, hx⟩ : ∃ x, ks[j]? = some x := ⟨_, List.getElem?_eq_getElem hlt⟩
      have hx4 := HF.out.2.2.2.1 x (List.mem_of_getElem? hx)
      have q1 := mixMate_in HF.out.2.2.1 hQ j m (by omega) hm2
      have q2 := fun w5 (h : MixQ w7 bm bo bi bp ks (q + 4) _ w5) => mixOwner_in HF.out.2.2.1 h j r (by omega) hlt hr2
      have q3 := fun w5 (h : MixQ w7 bm bo bi bp ks (q + 4 + 7) _ w5) => mixMate_in HF.out.2.2.1 h m j (by omega) hm2.symm
      clear hm2 hr2 hQ
      go_wp2_with fail
      refine q1.mono ?_
      rintro e w8 ⟨rfl, h8⟩
      have q2' := q2 _ h8
      clear q1 q2 h8
      go_wp2_with fail
      refine q2'.mono ?_
      rintro e w9 ⟨rfl, h9⟩
      have q3' := q3 _ h9
      clear q2' q3 h9
      go_wp2_with fail
      refine q3'.mono ?_
      rintro e wA ⟨rfl, hQA⟩
      obtain ⟨d1, d2, d3⟩ := HF.out.2.1 _ _ hQA
      obtain ⟨sg, rfl⟩ := own_some d1 (by rw [nats_len]; omega)
      obtain ⟨d1, _⟩ := d1.cell (nats_get hx)
      obtain ⟨d2, _⟩ := d2.cell hm1
      obtain ⟨d3, _⟩ := d3.cell hr1
      have hT := mixAt_quiet hQA.1 j x hx
      have HQ := Lib.hid (fun n => hQA.drewN n)
      clear q3' hQA hx hm1 hr1
      go_wp2_with fail
      go_quiet ((go_at_call 57; with_reducible exact hT _))
      have hQB := HQ.out nq
      have HB := Lib.hid hQB
      clear hT hQB d1 d2 d3
      go_wp2
      go_roundg (ks.length + 100 - (j + (1 + s % 20)))
      case measure => rw [HG.out]; omega
      case rel => exact ⟨j + (1 + s % 20), q + 4 + 7 + 4, by omega, rfl, by go_num, by omega, HB.out⟩
    · have hO1 := mixAt_out hQ.1 (-1) (by omega)
      have hO2 := mixAt_out hQ.1 (ks.length : Nat) (by omega)
      have hS := mixSize_few hQ.1 (by omega)
      have HK := Lib.hid (HF.out.1 _ _ hQ)
      clear hQ
      go_wp2_with ((go_at_call 57; first | (with_reducible refine hO1.mono ?_) | (with_reducible refine hO2.mono ?_)); rintro e w' ⟨rfl, rfl⟩)
      refine hS.mono ?_
      rintro e wB ⟨n4, rfl, hn4, hkB⟩
      have HE := Lib.hid (HK.out.trans hkB (fun _ _ h => h))
      clear hO1 hO2 hS hkB
      go_wp2
      go_ret
      exact ⟨congrArg (fun b => Ending.returned (.bool b)) (decide_eq_true (p := (n4 : Int) ≤ (ks.length : Int) + 4096) (by omega)), HE.out.below (fun _ _ h => h)⟩

end Go.Proofs.Ytlciacpffoekjaa
