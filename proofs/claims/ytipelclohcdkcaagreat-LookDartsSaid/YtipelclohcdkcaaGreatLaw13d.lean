/- Layer 13's statements: LookDarts. -/
import Derived.Test.YtipelclohcdkcaaGreatLook18
namespace Go.Proofs.YtipelclohcdkcaaGreat
open Go.RowKit

/-- What the questions of a place give. -/
def DDesc (ks : List Nat) (i : Int) (a b c d v e : Nat) : Prop :=
  (¬ (0 ≤ i ∧ i < ks.length) ∧ a = 0 ∧ b = 0 ∧ c = 0 ∧ d = 0 ∧ v = 0 ∧ e = 1) ∨
  (∃ j : Nat, i = j ∧ j < ks.length ∧ a = mp ks j ∧ b = tn ks j ∧ c = bk ks j ∧ d = tn ks (mp ks j) ∧ v = vx ks j ∧ e = 0)

theorem dAsk (bl bo b : Nat) (bi bp : Nat → Nat) {ks : List Nat} (hw : Wd ks) (i : Int) (hi : -9223372036854775808 ≤ i ∧ i ≤ 9223372036854775807) : ∃ a1 a2 a3 a4 a5 e : Nat, DDesc ks i a1 a2 a3 a4 a5 e ∧
    (∀ w q F n, LookS w bl b bo bi bp ks q F n → n ≤ 1000000 → q ≤ 5000000 → Calls Tryz.prog 46 #[.pointer (some ⟨bl, 0, none⟩), .int .i64 i] w fun x w' => x = .returned (.tuple #[.int .i64 a1, .int .i64 e]) ∧ LookQ w bl b bo bi bp ks (q + 10) F (n + 1) w') ∧
    (∀ w q F n, LookS w bl b bo bi bp ks q F n → n ≤ 1000000 → q ≤ 5000000 → Calls Tryz.prog 47 #[.pointer (some ⟨bl, 0, none⟩), .int .i64 i] w fun x w' => x = .returned (.tuple #[.int .i64 a2, .int .i64 e]) ∧ LookQ w bl b bo bi bp ks (q + 10) F (n + 1) w') ∧
    (∀ w q F n, LookS w bl b bo bi bp ks q F n → n ≤ 1000000 → q ≤ 5000000 → Calls Tryz.prog 48 #[.pointer (some ⟨bl, 0, none⟩), .int .i64 i] w fun x w' => x = .returned (.tuple #[.int .i64 a3, .int .i64 e]) ∧ LookQ w bl b bo bi bp ks (q + 10) F (n + 1) w') ∧
    (∀ w q F n, LookS w bl b bo bi bp ks q F n → n ≤ 1000000 → q ≤ 5000000 → Calls Tryz.prog 49 #[.pointer (some ⟨bl, 0, none⟩), .int .i64 i] w fun x w' => x = .returned (.tuple #[.int .i64 a4, .int .i64 e]) ∧ LookQ w bl b bo bi bp ks (q + 10) F (n + 1) w') ∧
    (∀ w q F n, LookS w bl b bo bi bp ks q F n → n ≤ 1000000 → q ≤ 5000000 → Calls Tryz.prog 50 #[.pointer (some ⟨bl, 0, none⟩), .int .i64 i] w fun x w' => x = .returned (.tuple #[.int .i64 a5, .int .i64 e]) ∧ LookQ w bl b bo bi bp ks (q + 10) F (n + 1) w') := by
  by_cases hj : 0 ≤ i ∧ i < ks.length
  · obtain ⟨h0, h1⟩ := hj
    obtain ⟨j, rfl⟩ := Int.eq_ofNat_of_zero_le h0
    refine ⟨_, _, _, _, _, 0, .inr ⟨j, rfl, by omega, rfl, rfl, rfl, rfl, rfl, rfl⟩, fun w q F n h hn hq => ?_, fun w q F n h hn hq => ?_, fun w q F n h hn hq => ?_, fun w q F n h hn hq => ?_, fun w q F n h hn hq => ?_⟩
    · refine (lookMateQ_any h hn hq hw _ hi).mono ?_
      rintro x w' ⟨⟨z, c, rfl, ⟨rfl, j', hj, _, rfl⟩ | ⟨_, _, hno⟩⟩, hQ⟩
      · obtain rfl : j = j' := by omega
        exact ⟨rfl, hQ.more (by omega)⟩
      · exact absurd ⟨h0, h1⟩ hno
    · refine (lookNextQ_any h hn hq hw _ hi).mono ?_
      rintro x w' ⟨⟨z, c, rfl, ⟨rfl, j', hj, _, rfl⟩ | ⟨_, _, hno⟩⟩, hQ⟩
      · obtain rfl : j = j' := by omega
        exact ⟨rfl, hQ.more (by omega)⟩
      · exact absurd ⟨h0, h1⟩ hno
    · refine (lookBackQ_any h hn hq hw _ hi).mono ?_
      rintro x w' ⟨⟨z, c, rfl, ⟨rfl, j', hj, _, rfl⟩ | ⟨_, _, hno⟩⟩, hQ⟩
      · obtain rfl : j = j' := by omega
        exact ⟨rfl, hQ.more (by omega)⟩
      · exact absurd ⟨h0, h1⟩ hno
    · refine (lookAlongQ_any h hn hq hw _ hi).mono ?_
      rintro x w' ⟨⟨z, c, rfl, ⟨rfl, j', hj, _, rfl⟩ | ⟨_, _, hno⟩⟩, hQ⟩
      · obtain rfl : j = j' := by omega
        exact ⟨rfl, hQ.more (by omega)⟩
      · exact absurd ⟨h0, h1⟩ hno
    · refine (lookVertexQ_any h hn hq hw _ hi).mono ?_
      rintro x w' ⟨⟨z, c, rfl, ⟨rfl, j', hj, _, rfl⟩ | ⟨_, _, hno⟩⟩, hQ⟩
      · obtain rfl : j = j' := by omega
        exact ⟨rfl, hQ.more (by omega)⟩
      · exact absurd ⟨h0, h1⟩ hno
  · refine ⟨0, 0, 0, 0, 0, 1, .inl ⟨hj, rfl, rfl, rfl, rfl, rfl, rfl⟩, fun w q F n h hn hq => ?_, fun w q F n h hn hq => ?_, fun w q F n h hn hq => ?_, fun w q F n h hn hq => ?_, fun w q F n h hn hq => ?_⟩
    · refine (lookMateQ_any h hn hq hw _ hi).mono ?_
      rintro x w' ⟨⟨z, c, rfl, ⟨rfl, j', rfl, hj2, rfl⟩ | ⟨rfl, rfl, _⟩⟩, hQ⟩
      · exact absurd ⟨by omega, by omega⟩ hj
      · exact ⟨rfl, hQ.more (by omega)⟩
    · refine (lookNextQ_any h hn hq hw _ hi).mono ?_
      rintro x w' ⟨⟨z, c, rfl, ⟨rfl, j', rfl, hj2, rfl⟩ | ⟨rfl, rfl, _⟩⟩, hQ⟩
      · exact absurd ⟨by omega, by omega⟩ hj
      · exact ⟨rfl, hQ.more (by omega)⟩
    · refine (lookBackQ_any h hn hq hw _ hi).mono ?_
      rintro x w' ⟨⟨z, c, rfl, ⟨rfl, j', rfl, hj2, rfl⟩ | ⟨rfl, rfl, _⟩⟩, hQ⟩
      · exact absurd ⟨by omega, by omega⟩ hj
      · exact ⟨rfl, hQ.more (by omega)⟩
    · refine (lookAlongQ_any h hn hq hw _ hi).mono ?_
      rintro x w' ⟨⟨z, c, rfl, ⟨rfl, j', rfl, hj2, rfl⟩ | ⟨rfl, rfl, _⟩⟩, hQ⟩
      · exact absurd ⟨by omega, by omega⟩ hj
      · exact ⟨rfl, hQ.more (by omega)⟩
    · refine (lookVertexQ_any h hn hq hw _ hi).mono ?_
      rintro x w' ⟨⟨z, c, rfl, ⟨rfl, j', rfl, hj2, rfl⟩ | ⟨rfl, rfl, _⟩⟩, hQ⟩
      · exact absurd ⟨by omega, by omega⟩ hj
      · exact ⟨rfl, hQ.more (by omega)⟩

theorem Asked13.cast {w wb wr : World} {ks : List Nat} {bl b bo : Nat} {bi bp : Nat → Nat} {F : Nat → Prop} {vS vM vV vF : Value} {b12 q n q' n' : Nat} (h : Asked13 w wb ks bl b bo bi bp F vS vM vV vF b12 q n wr) (hq : q ≤ q') (hn : n = n') : Asked13 w wb ks bl b bo bi bp F vS vM vV vF b12 q' n' wr := by
  subst hn
  exact ⟨h.lq.more hq, h.fold, h.blo, h.blF, h.rd, h.b12o, h.sep, h.kee⟩

theorem Asked13.drewN {w wb wr : World} {ks : List Nat} {bl b bo : Nat} {bi bp : Nat → Nat} {F : Nat → Prop} {vS vM vV vF : Value} {b12 q n : Nat} (h : Asked13 w wb ks bl b bo bi bp F vS vM vV vF b12 q n wr) (m : Nat) : Asked13 w wb ks bl b bo bi bp F vS vM vV vF b12 q n (wr.drewN m) :=
  have kd : Keeps (fun _ => False) wr (wr.drewN m) := (Keeps.refl _ wr).drewN m
  ⟨⟨h.lq.1.keeps kd (fun _ _ h => h), h.lq.2.drewN m⟩, h.fold, h.blo, h.blF, h.rd.keeps kd (fun h => h) (fun _ _ h => h), h.b12o, h.sep, h.kee.drewN m⟩

theorem Asked13.drew {w wb wr : World} {ks : List Nat} {bl b bo : Nat} {bi bp : Nat → Nat} {F : Nat → Prop} {vS vM vV vF : Value} {b12 q n : Nat} (h : Asked13 w wb ks bl b bo bi bp F vS vM vV vF b12 q n wr) : Asked13 w wb ks bl b bo bi bp F vS vM vV vF b12 q n wr.drew :=
  have kd : Keeps (fun _ => False) wr wr.drew := (Keeps.refl _ wr).drew
  ⟨⟨h.lq.1.keeps kd (fun _ _ h => h), h.lq.2.drew⟩, h.fold, h.blo, h.blF, h.rd.keeps kd (fun h => h) (fun _ _ h => h), h.b12o, h.sep, h.kee.drew⟩

set_option maxRecDepth 100000 in
set_option maxHeartbeats 8000000 in
theorem walkLookDarts (a0 : Int) (a1 : Option Addr) (len1 cap1 : Nat) (z1 : List Int) (a2 a3 : Int) (w : World) (w0 : (Lit.int .u16 a0).wf = true) (w1 : RowIn .u8 w a1 len1 cap1 z1) (w2 : (Lit.int .u8 a2).wf = true) (w3 : (Lit.int .u8 a3).wf = true) :
    Calls Tryz.prog 7 #[.int .u16 a0, .slice a1 len1 cap1, .int .u8 a2, .int .u8 a3] w fun e w' => e = .returned (.bool true) ∧ Below w.heap.size w w' := by
  have hnot : ∀ (x : Bool) (w : World), (Op.unary .not (.bool x)).run Tryz.prog w = .ok (.bool (!x)) w := fun _ _ => rfl
  obtain ⟨p, rfl, hp16⟩ := u16_in w0
  obtain ⟨ps, hp, hps⟩ := w1.bytes
  obtain ⟨root, rfl, hroot⟩ := u8_in w2
  obtain ⟨st, rfl, hst⟩ := u8_in w3
  have hM := fun w1 (hk : Keeps (fun _ => False) w w1) => made13_any (.slice a1 len1 cap1) ps p root w1 (hp.keeps hk (fun _ _ h => h)) hps hroot hp16
  clear w0 w1 w2 w3 hp hps hp16 hroot
  go_enter Tryz.func7, Tryz.ntmps7
  go_wp2_with fail
  refine (awake13_any _).mono ?_
  rintro e w1 ⟨rfl, hk1⟩
  go_wp2_with fail
  refine (hM _ hk1).mono ?_
  rintro e w2 ⟨ks, bl, b, bo, bi, bp, F, vS, vM, vV, vF, rfl, hR, hl4, hML⟩
  have hA := hML.boxed
  have hW := hR.wd
  obtain ⟨aS, cS, rfl, _, _⟩ := hML.s.form
  obtain ⟨aM, cM, rfl, _, _⟩ := hML.m.form
  obtain ⟨aV, cV, rfl, _, _⟩ := hML.v.form
  obtain ⟨aF, cF, rfl, _, _⟩ := hML.f.form
  have c0 := World.cell_of_heap hA.rd.1 0
  have hlS : (nats (tnL ks)).length = ks.length := by rw [nats_len, tnL_length]
  have hlM : (nats ((List.range ks.length).map (mp ks))).length = ks.length := by simp [nats]
  have hlV : (nats ((List.range ks.length).map (vx ks))).length = ks.length := by simp [nats]
  have hlF : (nats (fsL (tnL ks) ks.length)).length = if ks.length = 0 then 0 else nvK ks := by
    rw [nats_len]
    split
    · next h => rw [h]; rfl
    · exact hW.fs_len (by omega)
  simp only [List.getElem?_toArray, List.getElem?_cons_zero] at c0
  have HW := Lib.hid hW
  have HK1 := Lib.hid hk1
  have HLF := Lib.hid hlF
  rw [hlS, hlM, hlV] at hA
  rw [hlS] at c0
  rw [hlS, hlM, hlV]
  generalize (nats (fsL (tnL ks) ks.length)).length = lF at *
  obtain ⟨WB, hA1⟩ : ∃ WB, Asked13 w1 WB ks bl b bo bi bp F (.slice aS ks.length cS) (.slice aM ks.length cM) (.slice aV ks.length cV) (.slice aF lF cF) w2.heap.size 0 0 (w2.alloc (.cells #[.slice aS ks.length cS, .slice aM ks.length cM, .slice aV ks.length cV, .slice aF lF cF] 48)) := ⟨_, hA⟩
  have HA0 := Lib.hid hA1
  clear hM hA1 hML hA hW hR hk1 hlS hlM hlV hlF
  obtain ⟨n, hn⟩ : ∃ n, n = ks.length := ⟨_, rfl⟩
  have HN := Lib.hid hn
  rw [← hn] at HA0 c0 HLF hl4 ⊢
  clear hn
  go_wp2_with fail
  go_loopg [12] (1000 - 0) (fun mu iv wr => ∃ y r : Nat, r ≤ y ∧ y ≤ n + 12 ∧ mu = 1000 - y ∧ iv = .int .i64 ((y : Int) - 1) ∧ Asked13 w1 WB ks bl b bo bi bp F (.slice aS n cS) (.slice aM n cM) (.slice aV n cV) (.slice aF lF cF) w2.heap.size (60 * r) (5 * r) wr)
  case atStart => exact ⟨0, 0, Nat.le_refl _, by omega, rfl, rfl, HA0.out⟩
  case round =>
    clear c0
    obtain ⟨y, r, hry, hy, hgk, rfl, hA⟩ := hrel
    have HG := Lib.hid hgk
    clear hgk
    by_cases hyn : y ≤ n + 1
    · obtain ⟨i, hi⟩ : ∃ i : Int, i = (y : Int) - 1 := ⟨_, rfl⟩
      have hi1 : -1 ≤ i := by omega
      have hi2 : i ≤ n := by omega
      rw [← hi]
      have HI := Lib.hid (And.intro hi (And.intro hry (And.intro hy hyn)))
      have hd : decide (i ≤ (n : Int)) = true := decide_eq_true hi2
      obtain ⟨v1, v2, v3, v4, v5, er, hD, q1, q2, q3, q4, q5⟩ := dAsk bl bo b bi bp HW.out i (by omega)
      have hQ := q1 _ _ _ _ hA.lq.1 (by omega) (by omega)
      have HA := Lib.hid hA
      have HD := Lib.hid hD
      have HQ2 := Lib.hid q2
      have HQ3 := Lib.hid q3
      have HQ4 := Lib.hid q4
      have HQ5 := Lib.hid q5
      have hrb : r ≤ 500 := by omega
      clear hD q1 q2 q3 q4 q5 hi hry hy hyn hA
      go_wp2_with fail
      refine hQ.mono ?_
      rintro e w4 ⟨rfl, hq⟩
      have hA := HA.out.ask hq
      have hQ := HQ2.out _ _ _ _ hA.lq.1 (by omega) (by omega)
      clear HA hq
      have HA := Lib.hid hA
      clear hA
      go_wp2_with fail
      refine hQ.mono ?_
      rintro e w5 ⟨rfl, hq⟩
      have hA := HA.out.ask hq
      have hQ := HQ3.out _ _ _ _ hA.lq.1 (by omega) (by omega)
      clear HA hq
      have HA := Lib.hid hA
      clear hA
      go_wp2_with fail
      refine hQ.mono ?_
      rintro e w6 ⟨rfl, hq⟩
      have hA := HA.out.ask hq
      have hQ := HQ4.out _ _ _ _ hA.lq.1 (by omega) (by omega)
      clear HA hq
      have HA := Lib.hid hA
      clear hA
      go_wp2_with fail
      refine hQ.mono ?_
      rintro e w7 ⟨rfl, hq⟩
      have hA := HA.out.ask hq
      have hQ := HQ5.out _ _ _ _ hA.lq.1 (by omega) (by omega)
      clear HA hq
      have HA := Lib.hid hA
      clear hA
      go_wp2_with fail
      refine hQ.mono ?_
      rintro e w9 ⟨rfl, hq⟩
      have hA := HA.out.ask hq
      clear HA hq hQ HQ2 HQ3 HQ4 HQ5
      rcases HD.out with ⟨hno, rfl, rfl, rfl, rfl, rfl, rfl⟩ | ⟨j, rfl, hj, rfl, rfl, rfl, rfl, rfl, rfl⟩
      · have HA := Lib.hid hA
        clear HD hA
        rw [← HN.out] at hno
        by_cases hi0 : i < 0
        · have hd2 : decide (i < 0) = true := decide_eq_true hi0
          clear hno
          go_wp2_with fail
          go_roundg (1000 - (y + (1 + st % 9)))
          case measure => rw [HG.out]; have := HI.out.2.2.2; omega
          case rel => exact ⟨y + (1 + st % 9), r + 1, by have := HI.out; omega, by have := HI.out; omega, rfl, by have := HI.out.1; go_num, HA.out.cast (by omega) (by omega)⟩
        · have hd2 : decide (i < 0) = false := decide_eq_false hi0
          have hd3 : decide ((n : Int) ≤ i) = true := decide_eq_true (by omega)
          clear hno
          go_wp2_with fail
          go_roundg (1000 - (y + (1 + st % 9)))
          case measure => rw [HG.out]; have := HI.out.2.2.2; omega
          case rel => exact ⟨y + (1 + st % 9), r + 1, by have := HI.out; omega, by have := HI.out; omega, rfl, by have := HI.out.1; go_num, HA.out.cast (by omega) (by omega)⟩
      · have hm := HW.out.mp_lt hj
        obtain ⟨htb, hbj⟩ := HW.out.tn_bk hj
        have hS1 : ∀ x, x < ks.length → (tnL ks)[x]? = some (tn ks x) := fun x hx => by unfold tnL; rw [List.getElem?_map, List.getElem?_range hx]; rfl
        have hSb := hS1 _ hbj
        rw [htb] at hSb
        have hM1 : ((List.range ks.length).map (mp ks))[j]? = some (mp ks j) := by rw [List.getElem?_map, List.getElem?_range hj]; rfl
        have hV1 : ((List.range ks.length).map (vx ks))[j]? = some (vx ks j) := by rw [List.getElem?_map, List.getElem?_range hj]; rfl
        have k0 := World.cell_of_heap hA.rd.1 0
        have k1 := World.cell_of_heap hA.rd.1 1
        have k2 := World.cell_of_heap hA.rd.1 2
        simp only [List.getElem?_toArray, List.getElem?_cons_succ, List.getElem?_cons_zero] at k0 k1 k2
        have sS := hA.rd.2.1
        obtain ⟨gS, oS, rfl, kS⟩ := sS.cellAt (nats_get (hS1 _ hj))
        have kSb := sS.cellOf (nats_get hSb)
        have kSm := sS.cellOf (nats_get (hS1 _ hm))
        obtain ⟨gM, oM, rfl, kM⟩ := hA.rd.2.2.1.cellAt (nats_get hM1)
        obtain ⟨gV, oV, rfl, kV⟩ := hA.rd.2.2.2.1.cellAt (nats_get hV1)
        have HA := Lib.hid hA
        clear HD hA sS hS1 hSb hM1 hV1 htb
        rw [← HN.out] at hm hbj hj
        generalize tn ks (mp ks j) = d at *
        generalize mp ks j = m at *
        generalize tn ks j = t at *
        generalize bk ks j = c at *
        generalize vx ks j = v at *
        have i1 : (j : Int) < (n : Int) := by omega
        have i2 : (m : Int) < (n : Int) := by omega
        have i3 : (c : Int) < (n : Int) := by omega
        have hd2 : decide ((j : Int) < 0) = false := by refine decide_eq_false ?_; omega
        have hd3 : decide ((n : Int) ≤ (j : Int)) = false := by refine decide_eq_false ?_; omega
        go_wp2_with fail
        go_quiet (fail)
        go_wp2_with fail
        go_roundg (1000 - (y + (1 + st % 9)))
        case measure => rw [HG.out]; have := HI.out.2.2.2; omega
        case rel => exact ⟨y + (1 + st % 9), r + 1, by have := HI.out; omega, by have := HI.out; omega, rfl, by have := HI.out.1; go_num, (HA.out.cast (by omega) (by omega)).drewN nq⟩
    · have hd : decide ((y : Int) - 1 ≤ (n : Int)) = false := by refine decide_eq_false ?_; omega
      have hrb : r ≤ 500 := by omega
      have hAd := hA.drew
      have hE := lookEdges_any hAd.lq.1
      have hV := lookVertices_any hAd.lq.1.mix.old hAd.lq.1.mix.after hAd.lq.1.own hAd.lq.1.sep (by omega)
      have hT : ∀ W, MixQ wr.drew b bo bi bp ks (60 * r + 2) (grow F WB wr.drew) W → W.cell? ⟨w2.heap.size, 3, none⟩ = some (.slice aF lF cF) ∧ Keeps (fun _ => False) w1 W := fun W h => by
        have h1 := hAd.ask (hAd.lq.1.ask h)
        have c3 := World.cell_of_heap h1.rd.1 3
        simp only [List.getElem?_toArray, List.getElem?_cons_succ, List.getElem?_cons_zero] at c3
        exact ⟨c3, h1.kee⟩
      have c3 := World.cell_of_heap hAd.rd.1 3
      simp only [List.getElem?_toArray, List.getElem?_cons_succ, List.getElem?_cons_zero] at c3
      have HT := Lib.hid hT
      have hnl : (ks.length / 2 : Nat) = n / 2 := by rw [HN.out]
      rw [hnl] at hE
      have hmx : (max (lF : Int) 1) = (nvK ks : Nat) := by
        rw [HLF.out]
        have h5 := HN.out
        have h6 := cntK_le ks 0
        unfold nvK
        split <;> omega
      clear hA hAd hT hnl hry hy hyn
      have hn2 : (n : Int).tdiv 2 = ((n / 2 : Nat) : Int) := by rw [Int.tdiv_eq_ediv_of_nonneg (by omega)]; simp
      have hw2 : IntKind.i64.wrap ((n : Int) / 2) = (n : Int) / 2 := by rw [IntKind.wrap_i64]; omega
      go_wp2_with fail
      go_region_held3 (fun w' => w'.cell? ⟨w2.heap.size, 3, none⟩ = some (.slice aF lF cF)) (first | exact c3 | exact hc) (first | (go_at_call 43; refine hE.mono ?_; rintro e w' ⟨rfl, rfl⟩) | (go_at_call 41; refine hV.mono ?_; rintro e w' ⟨rfl, h12⟩; obtain ⟨hc, hkf⟩ := HT.out _ h12))
      all_goals
        go_wp2
        go_ret
        exact ⟨rfl, (HK1.out.trans hkf (fun _ _ h => h)).below (fun _ _ h => h)⟩

end Go.Proofs.YtipelclohcdkcaaGreat
