/- Layer 13's statements: LookFaces. -/
import Derived.Test.YtipelclohcdkcaaGreatEqual
namespace Go.Proofs.YtipelclohcdkcaaGreat
open Go.RowKit

/-- What is wanted so far. -/
def WantS (ks : List Nat) (a c d : Nat) (t : Bool) : Prop := t = true ↔ ∃ x, x < d ∧ vx ks x = a ∧ vx ks (mp ks x) = c

theorem Asked13.up {w wb wr : World} {ks : List Nat} {bl b bo : Nat} {bi bp : Nat → Nat} {F : Nat → Prop} {vS vM vV vF : Value} {b12 q n q' : Nat} (h : Asked13 w wb ks bl b bo bi bp F vS vM vV vF b12 q n wr) (hq : q ≤ q') : Asked13 w wb ks bl b bo bi bp F vS vM vV vF b12 q' n wr :=
  ⟨h.lq.more hq, h.fold, h.blo, h.blF, h.rd, h.b12o, h.sep, h.kee⟩

/-- Nothing of what was there is turned. -/
theorem Asked13.still {w wb wr w' : World} {ks : List Nat} {bl b bo : Nat} {bi bp : Nat → Nat} {F : Nat → Prop} {vS vM vV vF : Value} {b12 q n : Nat} (h : Asked13 w wb ks bl b bo bi bp F vS vM vV vF b12 q n wr) (k : Keeps (fun _ => False) wr w') : Asked13 w wb ks bl b bo bi bp F vS vM vV vF b12 q n w' := by
  have hs := k.size
  have hs2 := h.lq.2.size
  have hS := h.lq.1.keeps k (fun _ _ h => h)
  refine ⟨⟨⟨hS.own, hS.mix.mono (fun x hx => ?_) (grow_old (fun x hx => (h.fold x hx).2) (by omega)), fun hx => ?_⟩, h.lq.2.trans k (fun _ _ h => h.elim)⟩, h.fold, h.blo, h.blF, h.rd.keeps k (fun h => h) (fun _ _ h => h), h.b12o, h.sep, h.kee.trans k (fun _ _ h => h)⟩
  · rcases hx with hx | hx
    · exact .inl hx
    · exact .inr ⟨hx.1, by have := hx.2; omega⟩
  · rcases hx with hx | hx
    · exact h.blF hx
    · have := h.blo.2; omega

set_option maxRecDepth 100000 in
set_option maxHeartbeats 8000000 in
theorem walkLookFaces (a0 : Int) (a1 : Option Addr) (len1 cap1 : Nat) (z1 : List Int) (a2 a3 a4 a5 : Int) (w : World) (w0 : (Lit.int .u16 a0).wf = true) (w1 : RowIn .u8 w a1 len1 cap1 z1) (w2 : (Lit.int .u8 a2).wf = true) (_w3 : (Lit.int .i64 a3).wf = true) (_w4 : (Lit.int .i64 a4).wf = true) (w5 : (Lit.int .i64 a5).wf = true) :
    Calls Tryz.prog 6 #[.int .u16 a0, .slice a1 len1 cap1, .int .u8 a2, .int .i64 a3, .int .i64 a4, .int .i64 a5] w fun e w' => e = .returned (.bool true) ∧ Below w.heap.size w w' := by
  have hnot : ∀ (x : Bool) (w : World), (Op.unary .not (.bool x)).run Tryz.prog w = .ok (.bool (!x)) w := fun _ _ => rfl
  obtain ⟨p, rfl, hp16⟩ := u16_in w0
  obtain ⟨ps, hp, hps⟩ := w1.bytes
  obtain ⟨root, rfl, hroot⟩ := u8_in w2
  have hi64 := i64_in w5
  have hM := fun w1 (hk : Keeps (fun _ => False) w w1) => made13_any (.slice a1 len1 cap1) ps p root w1 (hp.keeps hk (fun _ _ h => h)) hps hroot hp16
  clear w0 w1 w2 _w3 _w4 w5 hp hps hp16 hroot
  go_enter Tryz.func6, Tryz.ntmps6
  go_wp2_with fail
  refine (awake13_any _).mono ?_
  rintro e w1 ⟨rfl, hk1⟩
  go_wp2_with fail
  refine (hM _ hk1).mono ?_
  rintro e w2 ⟨ks, bl, b, bo, bi, bp, F, vS, vM, vV, vF, rfl, hR, hl4, hML⟩
  have hA := hML.boxed
  have hW := hR.wd
  obtain ⟨aS, cS, rfl, _, _⟩ := hML.s.form
  obtain ⟨aM, cM, rfl, _, _⟩ := hML.m.form
  obtain ⟨aV, cV, rfl, _, _⟩ := hML.v.form
  obtain ⟨aF, cF, rfl, _, _⟩ := hML.f.form
  obtain ⟨t1, e1, hD1, q1⟩ := eAsk bl b bo bi bp hW (by omega) a3 a4
  obtain ⟨t2, e2, hD2, q2⟩ := eAsk bl b bo bi bp hW (by omega) a4 a3
  have hQ1 := q1 _ _ _ _ hA.lq.1 (by omega) (by omega)
  have hlS : (nats (tnL ks)).length = ks.length := by rw [nats_len, tnL_length]
  have hlM : (nats ((List.range ks.length).map (mp ks))).length = ks.length := by simp [nats]
  have hlV : (nats ((List.range ks.length).map (vx ks))).length = ks.length := by simp [nats]
  have hlF : (nats (fsL (tnL ks) ks.length)).length = if ks.length = 0 then 0 else nvK ks := by
    rw [nats_len]
    split
    · next h => rw [h]; rfl
    · exact hW.fs_len (by omega)
  have HW := Lib.hid hW
  have HK1 := Lib.hid hk1
  have HLF := Lib.hid hlF
  have HL4 := Lib.hid hl4
  have HD := Lib.hid (And.intro hD1 hD2)
  have HQ2 := Lib.hid q2
  rw [hlS, hlM, hlV] at hA hQ1
  rw [hlS, hlM, hlV]
  generalize (nats (fsL (tnL ks) ks.length)).length = lF at *
  obtain ⟨WB, hA1⟩ : ∃ WB, Asked13 w1 WB ks bl b bo bi bp F (.slice aS ks.length cS) (.slice aM ks.length cM) (.slice aV ks.length cV) (.slice aF lF cF) w2.heap.size 0 0 (w2.alloc (.cells #[.slice aS ks.length cS, .slice aM ks.length cM, .slice aV ks.length cV, .slice aF lF cF] 48)) := ⟨_, hA⟩
  have hQ1 := q1 _ _ _ _ hA1.lq.1 (by omega) (by omega)
  have HA := Lib.hid hA1
  clear hM hML hA hA1 hW hR hk1 hl4 hlS hlM hlV hlF hD1 hD2 q1 q2
  obtain ⟨n, hn⟩ : ∃ n, n = ks.length := ⟨_, rfl⟩
  have HN := Lib.hid hn
  rw [← hn] at HA HLF hQ1 ⊢
  clear hn
  go_wp2_with fail
  refine hQ1.mono ?_
  rintro e w4 ⟨rfl, hq⟩
  have hA := HA.out.ask hq
  have hQ2 := HQ2.out _ _ _ _ hA.lq.1 (by omega) (by have := HL4.out; omega)
  clear HA hq hQ1 HQ2
  have HA := Lib.hid hA
  clear hA
  go_wp2_with fail
  refine hQ2.mono ?_
  rintro e w5 ⟨rfl, hq⟩
  have hA := HA.out.ask hq
  clear HA hq hQ2
  have k3 := World.cell_of_heap hA.rd.1 3
  have k0 := World.cell_of_heap hA.rd.1 0
  simp only [List.getElem?_toArray, List.getElem?_cons_succ, List.getElem?_cons_zero] at k3 k0
  have hmx : (max (lF : Int) 1) = (nvK ks : Nat) := by
    rw [HLF.out]
    have h5 := HN.out
    have h6 := cntK_le ks 0
    unfold nvK
    split <;> omega
  have hqb : 0 + 20010 + 20010 ≤ 5000000 := by omega
  have hA := hA.up hqb
  clear hqb
  obtain ⟨nv, hnv⟩ : ∃ nv, nv = nvK ks := ⟨_, rfl⟩
  have HNV := Lib.hid hnv
  rw [← hnv] at hmx
  clear hnv
  go_upto_region 7 with fail
  have HA := Lib.hid hA
  clear hA
  obtain ⟨ot, hot⟩ : ∃ ot : Bool, (ot = true ↔ ¬ ((0 ≤ a3 ∧ a3 < (nv : Int)) ∧ (0 ≤ a4 ∧ a4 < (nv : Int)))) := by
    by_cases h : (0 ≤ a3 ∧ a3 < (nv : Int)) ∧ (0 ≤ a4 ∧ a4 < (nv : Int))
    · exact ⟨false, by simp [h]⟩
    · exact ⟨true, by simp [h]⟩
  go_cut [68] from 53 to 67 (fun s wx => s = .bool ot ∧ wx = w5)
  case first =>
    have h4 : ((a3 < 0) ∧ ot = true) ∨ ((¬ a3 < 0 ∧ a4 < 0) ∧ ot = true) ∨ ((¬ a3 < 0 ∧ ¬ a4 < 0 ∧ (nv : Int) ≤ a3) ∧ ot = true) ∨ ((¬ a3 < 0 ∧ ¬ a4 < 0 ∧ ¬ (nv : Int) ≤ a3 ∧ (nv : Int) ≤ a4) ∧ ot = true) ∨ ((¬ a3 < 0 ∧ ¬ a4 < 0 ∧ ¬ (nv : Int) ≤ a3 ∧ ¬ (nv : Int) ≤ a4) ∧ ot = false) := by
      cases ot with
      | true => have := hot.1 rfl; simp only [and_true, reduceCtorEq, and_false, or_false]; omega
      | false =>
        have : ((0 ≤ a3 ∧ a3 < (nv : Int)) ∧ (0 ≤ a4 ∧ a4 < (nv : Int))) := by
          apply Classical.byContradiction
          intro h
          exact absurd (hot.2 h) (by simp)
        simp only [and_true, reduceCtorEq, and_false, false_or]; omega
    clear hot HD
    rcases h4 with ⟨h, rfl⟩ | ⟨⟨h, h1⟩, rfl⟩ | ⟨⟨h, h1, h2⟩, rfl⟩ | ⟨⟨h, h1, h2, h3⟩, rfl⟩ | ⟨⟨h, h1, h2, h3⟩, rfl⟩
    all_goals
      go_wp2_with fail
      go_meet
      refine ⟨?_, rfl⟩
      first | rfl | (simp only [Value.bool.injEq, Bool.or_eq_true, Bool.or_eq_false_iff, decide_eq_true_eq, decide_eq_false_iff_not]; omega)
  case rest =>
  obtain ⟨rfl, rfl⟩ := hcut
  go_upto_if 68 with fail
  go_cut [20, 21] from 69 to 127 (fun s20 s21 wx => Keeps (fun _ => False) wc wx)
  case first =>
    rcases HD.out with ⟨⟨hno, rfl, rfl⟩ | ⟨a, c, rfl, rfl, ha, hc, ht1, rfl⟩, hD2⟩
    · obtain ⟨rfl, rfl⟩ : t2 = false ∧ e2 = 1 := by
        rcases hD2 with ⟨_, h1, h2⟩ | ⟨a', c', h1, h2, h3, h4, _⟩
        · exact ⟨h1, h2⟩
        · exact absurd ⟨⟨by omega, by omega⟩, by omega, by omega⟩ hno
      have hnv := HNV.out
      obtain rfl : ot = true := hot.2 (by rw [hnv]; exact hno)
      clear HD hno hot hnv
      go_wp2_with fail
      go_meet
      exact Keeps.refl _ _
    · obtain ⟨rfl, rfl⟩ : t2 = t1 ∧ e2 = 0 := by
        rcases hD2 with ⟨hno, _⟩ | ⟨a', c', h1, h2, h3, h4, ht2, rfl⟩
        · exact absurd ⟨⟨by omega, by omega⟩, by omega, by omega⟩ hno
        · refine ⟨?_, rfl⟩
          obtain rfl : c = a' := by omega
          obtain rfl : a = c' := by omega
          have h5 : t1 = true ↔ t2 = true := by rw [ht1, ht2]; exact ⟨fun h => HW.out.edge_symm h, fun h => HW.out.edge_symm h⟩
          exact Bool.eq_iff_iff.2 h5.symm
      obtain rfl : ot = false := by
        cases ot with
        | false => rfl
        | true => have hnv := HNV.out; exact absurd ⟨⟨by omega, by omega⟩, by omega, by omega⟩ (hot.1 rfl)
      have HT1 := Lib.hid ht1
      clear HD hot ha hc ht1
      go_wp2_with fail
      go_loopg [20, 84] (n - 0) (fun mu want dv wr => ∃ (d : Nat) (t : Bool), d ≤ n ∧ mu = n - d ∧ dv = .int .i64 d ∧ want = .bool t ∧ WantS ks a c d t ∧ Keeps (fun _ => False) wc wr)
      case atStart => exact ⟨0, false, Nat.zero_le _, rfl, rfl, rfl, ⟨fun h => by simp at h, fun ⟨x, hx, _⟩ => by omega⟩, Keeps.refl _ _⟩
      case round =>
        clear k3 k0
        obtain ⟨d, t, hdn, hgk, rfl, rfl, ht0, hk⟩ := hrel
        have ht : t = true ↔ ∃ x, x < d ∧ vx ks x = a ∧ vx ks (mp ks x) = c := ht0
        clear ht0
        have HG := Lib.hid hgk
        clear hgk
        by_cases hlt : d < n
        · have HD1 : Hid (d + 1 ≤ n) := Lib.hid hlt
          have hx : d < ks.length := by rw [← HN.out]; exact hlt
          have hm := HW.out.mp_lt hx
          have hM1 : ((List.range ks.length).map (mp ks))[d]? = some (mp ks d) := by rw [List.getElem?_map, List.getElem?_range hx]; rfl
          have hV1 : ((List.range ks.length).map (vx ks))[d]? = some (vx ks d) := by rw [List.getElem?_map, List.getElem?_range hx]; rfl
          have hV2 : ((List.range ks.length).map (vx ks))[mp ks d]? = some (vx ks (mp ks d)) := by rw [List.getElem?_map, List.getElem?_range hm]; rfl
          have hrd := HA.out.rd.keeps hk (fun h => h) (fun _ _ h => h)
          have k1 := World.cell_of_heap hrd.1 1
          have k2 := World.cell_of_heap hrd.1 2
          simp only [List.getElem?_toArray, List.getElem?_cons_succ, List.getElem?_cons_zero] at k1 k2
          obtain ⟨gM, oM, rfl, kM⟩ := hrd.2.2.1.cellAt (nats_get hM1)
          have sV := hrd.2.2.2.1
          obtain ⟨gV, oV, rfl, kV⟩ := sV.cellAt (nats_get hV1)
          have kV2 := sV.cellOf (nats_get hV2)
          have hdb : d ≤ 1000 := by have := HL4.out; omega
          have i1 : (d : Int) < (n : Int) := by omega
          have i2 : ((mp ks d : Nat) : Int) < (n : Int) := by rw [HN.out]; omega
          have HTT : Hid ((t = true ↔ ∃ x, x < d ∧ vx ks x = a ∧ vx ks (mp ks x) = c) ∧ True) := Lib.hid ⟨ht, trivial⟩
          have hstep : ∀ t' : Bool, (t' = true ↔ (t = true ∨ (vx ks d = a ∧ vx ks (mp ks d) = c))) → WantS ks a c (d + 1) t' := fun t' h => by
            unfold WantS
            rw [h, HTT.out.1]
            constructor
            · rintro (⟨x, h1, h2⟩ | h2)
              · exact ⟨x, by omega, h2⟩
              · exact ⟨d, by omega, h2⟩
            · rintro ⟨x, h1, h2⟩
              rcases Nat.lt_or_ge x d with h3 | h3
              · exact .inl ⟨x, h3, h2⟩
              · obtain rfl : x = d := by omega
                exact .inr h2
          have HST := Lib.hid hstep
          have HK := Lib.hid hk
          clear hM1 hV1 hV2 hrd sV ht hk hx hm hstep HTT hlt hdn
          obtain ⟨x, hxe⟩ : ∃ x, x = vx ks d := ⟨_, rfl⟩
          obtain ⟨z, hze⟩ : ∃ z, z = vx ks (mp ks d) := ⟨_, rfl⟩
          rw [← hze] at kV2 HST
          rw [← hxe] at kV HST
          clear hze hxe
          generalize mp ks d = m at *
          have d1 : wr.drew.cell? ⟨w2.heap.size, 1, none⟩ = _ := k1
          have d2 : wr.drew.cell? ⟨w2.heap.size, 2, none⟩ = _ := k2
          have dM : wr.drew.cell? ⟨gM, oM + d, none⟩ = _ := kM
          have dV : wr.drew.cell? ⟨gV, oV + d, none⟩ = _ := kV
          have dV2 : wr.drew.cell? ⟨gV, oV + m, none⟩ = _ := kV2
          cases t with
          | true =>
            have HT := Lib.hid (HST.out true (by simp))
            clear HST
            go_wp2_with fail
            go_quiet (fail)
            go_wp2_with fail
            go_roundg (n - (d + 1))
            case measure => rw [HG.out]; have := HD1.out; omega
            case rel => exact ⟨d + 1, true, HD1.out, rfl, by go_num, rfl, HT.out, HK.out.drewN nq⟩
          | false =>
            by_cases hxa : x = a
            · by_cases hzc : z = c
              · have HT := Lib.hid (HST.out true (by simp [hxa, hzc]))
                have hb1 : (((x : Nat) : Int) == ((a : Nat) : Int)) = true := by simp [hxa]
                have hb2 : (((z : Nat) : Int) == ((c : Nat) : Int)) = true := by simp [hzc]
                clear HST hxa hzc
                go_wp2_with fail
                go_quiet (fail)
                go_wp2_with fail
                go_roundg (n - (d + 1))
                case measure => rw [HG.out]; have := HD1.out; omega
                case rel => exact ⟨d + 1, true, HD1.out, rfl, by go_num, rfl, HT.out, HK.out.drewN nq⟩
              · have HT := Lib.hid (HST.out false (by simp [hzc]))
                have hb1 : (((x : Nat) : Int) == ((a : Nat) : Int)) = true := by simp [hxa]
                have hb2 : (((z : Nat) : Int) == ((c : Nat) : Int)) = false := by rw [beq_eq_false_iff_ne]; omega
                clear HST hxa hzc
                go_wp2_with fail
                go_quiet (fail)
                go_wp2_with fail
                go_roundg (n - (d + 1))
                case measure => rw [HG.out]; have := HD1.out; omega
                case rel => exact ⟨d + 1, false, HD1.out, rfl, by go_num, rfl, HT.out, HK.out.drewN nq⟩
            · have HT := Lib.hid (HST.out false (by simp [hxa]))
              have hb1 : (((x : Nat) : Int) == ((a : Nat) : Int)) = false := by rw [beq_eq_false_iff_ne]; omega
              clear HST hxa
              go_wp2_with fail
              go_quiet (fail)
              go_wp2_with fail
              go_roundg (n - (d + 1))
              case measure => rw [HG.out]; have := HD1.out; omega
              case rel => exact ⟨d + 1, false, HD1.out, rfl, by go_num, rfl, HT.out, HK.out.drewN nq⟩
        · obtain rfl : d = n := by omega
          obtain rfl : t = t2 := by
            have h5 : t = true ↔ t2 = true := by
              rw [ht, HT1.out, HN.out]
              exact ⟨fun ⟨x, h1, h2, h3⟩ => ⟨x, h1, h2, h3⟩, fun ⟨x, h1, h2, h3⟩ => ⟨x, h1, h2, h3⟩⟩
            exact Bool.eq_iff_iff.2 h5
          have HK := Lib.hid hk
          clear ht hk hdn hlt
          go_wp2_with fail
          go_meet
          exact HK.out
  case rest =>
    have hA := HA.out.still hcut
    clear HA hcut k3 k0 HD
    have HA := Lib.hid hA
    clear hA
    by_cases hin : 0 ≤ a5 ∧ a5 < ks.length
    · obtain ⟨hi0, hi1⟩ := hin
      obtain ⟨i, rfl⟩ := Int.eq_ofNat_of_zero_le hi0
      have hin : i < ks.length := by omega
      have hQ := lookFace_in HA.out.lq.1 (by omega) (by omega) HW.out (by have := HL4.out; omega) i hin
      have hph := HW.out.ph_isP
      have HP := Lib.hid (And.intro (hph.per_spec hin) (And.intro hph hin))
      have hd1 : decide ((i : Int) < 0) = false := by refine decide_eq_false ?_; omega
      have hd2 : decide ((n : Int) ≤ (i : Int)) = false := by refine decide_eq_false ?_; have := HN.out; omega
      have hd3 : decide (n ≤ i) = false := by refine decide_eq_false ?_; have := HN.out; omega
      clear hi0 hi1 hin hph
      have b0 := HA.out.rd.1
      go_wp2_with fail
      refine hQ.mono ?_
      rintro e w6 ⟨ov, rfl, hF⟩
      have hA6 := HA.out.ask (FaceS.lookq HA.out.lq.1 hF)
      obtain ⟨_, _, _, _, hov, _⟩ := hF
      have HOV := Lib.hid hov
      have HA6 := Lib.hid hA6
      have k0 := World.cell_of_heap hA6.rd.1 0
      simp only [List.getElem?_toArray, List.getElem?_cons_zero] at k0
      clear hQ hov hA6 HA b0
      obtain ⟨va, vc, rfl, _, _⟩ := HOV.out.form
      go_wp2_with fail
      go_loopg [24, 25] (per (ph ks) i - 0) (fun mu kv iv wr => ∃ j : Nat, j ≤ per (ph ks) i ∧ mu = per (ph ks) i - j ∧ iv = .int .i64 (itr (ph ks) j i : Nat) ∧ OwnI w6.heap.size wr kv (nats (orbK (ph ks) i j)) ∧ Keeps (fun _ => False) w6 wr)
      case atStart => exact ⟨0, Nat.zero_le _, rfl, rfl, OwnI.nil _ _, Keeps.refl _ _⟩
      case round =>
        clear k0
        obtain ⟨j, hj, hgk, rfl, hown, hk⟩ := hrel
        have HG := Lib.hid hgk
        clear hgk
        obtain ⟨p1, p2, p3, p4⟩ := HP.out.1
        by_cases hjp : j < per (ph ks) i
        · have HJ : Hid (j + 1 ≤ per (ph ks) i) := Lib.hid hjp
          have hx : itr (ph ks) j i < ks.length := HP.out.2.1.itr_lt HP.out.2.2 j
          have hst := orbK_succ (ph ks) i j
          have hlen := orbK_length (ph ks) i j
          have hnx : ph ks (itr (ph ks) j i) = itr (ph ks) (j + 1) i := rfl
          have hm := HW.out.mp_lt hx
          have hS1 : (tnL ks)[mp ks (itr (ph ks) j i)]? = some (ph ks (itr (ph ks) j i)) := by unfold tnL; rw [List.getElem?_map, List.getElem?_range hm]; rfl
          have hM1 : ((List.range ks.length).map (mp ks))[itr (ph ks) j i]? = some (mp ks (itr (ph ks) j i)) := by rw [List.getElem?_map, List.getElem?_range hx]; rfl
          have hne : 0 < j → itr (ph ks) j i ≠ i := fun h0 => p4 j h0 hjp
          have hfo := hown.form
          rw [nats_len, hlen] at hfo
          obtain ⟨la, lc, rfl, _, _⟩ := hfo
          have HX := Lib.hid (And.intro hst hnx)
          obtain ⟨x, hxe⟩ : ∃ x, x = itr (ph ks) j i := ⟨_, rfl⟩
          rw [← hxe] at hx hS1 hM1 hne hm ⊢
          obtain ⟨m, hme⟩ : ∃ m, m = mp ks x := ⟨_, rfl⟩
          rw [← hme] at hS1 hM1 hm
          obtain ⟨y, hye⟩ : ∃ y, y = ph ks x := ⟨_, rfl⟩
          rw [← hye] at hS1
          have HXX := Lib.hid (And.intro hxe hye)
          have HNN : Hid ((nats (orbK (ph ks) i j)).length = j) := Lib.hid (by rw [nats_len]; exact hlen)
          have hjp' : j ≤ 10000000000 := by have := HL4.out; omega
          have hxS : (x : Int) < (n : Int) := by have := HN.out; omega
          have hmS : (m : Int) < (n : Int) := by have := HN.out; omega
          have hsz : w6.heap.size ≤ wr.heap.size := hk.size
          have hrd := HA6.out.rd.keeps hk (fun h => h) (fun _ _ h => h)
          obtain ⟨gS, oS, rfl, kS⟩ := hrd.2.1.cellAt (nats_get hS1)
          obtain ⟨gM, oM, rfl, kM⟩ := hrd.2.2.1.cellAt (nats_get hM1)
          have HCS : Hid (∀ W g2 cap2, Keeps (fun q => (Value.slice la j lc).ownBlock = some q) wr W → OwnI w6.heap.size W (.slice (some ⟨g2, 0, none⟩) (j + 1) cap2) (nats (orbK (ph ks) i j) ++ [(x : Int)]) → OwnI w6.heap.size W (.slice (some ⟨g2, 0, none⟩) (j + 1) cap2) (nats (orbK (ph ks) i (j + 1))) ∧ Keeps (fun _ => False) w6 W ∧ W.cell? ⟨w2.heap.size, 0, none⟩ = some (.slice (some ⟨gS, oS, none⟩) n cS) ∧ W.cell? ⟨w2.heap.size, 1, none⟩ = some (.slice (some ⟨gM, oM, none⟩) n cM) ∧ W.cell? ⟨gS, oS + m, none⟩ = some (.int .i64 y) ∧ W.cell? ⟨gM, oM + x, none⟩ = some (.int .i64 m)) := Lib.hid (fun W g2 cap2 hk3 hown3 => by
            have h3 := hk.trans hk3 (fun q hq e => by have := (hown.lt q e).1; omega)
            have hrd := HA6.out.rd.keeps h3 (fun h => h) (fun _ _ h => h)
            have c0 := World.cell_of_heap hrd.1 0
            have c1 := World.cell_of_heap hrd.1 1
            simp only [List.getElem?_toArray, List.getElem?_cons_succ, List.getElem?_cons_zero] at c0 c1
            exact ⟨by rw [HX.out.1, nats_snoc, ← HXX.out.1]; exact hown3, h3, c0, c1, hrd.2.1.cellOf (nats_get hS1), hrd.2.2.1.cellOf (nats_get hM1)⟩)
          have hb2 : 0 < j → (((x : Nat) : Int) != ((i : Nat) : Int)) = true := fun h0 => by rw [bne_iff_ne]; have := hne h0; omega
          clear hst hlen hnx hS1 hM1 hxe hye hme hrd kS kM hne hk hm hx p1 p2 p3 p4 hj hjp
          by_cases hj0 : j = 0
          · have hb : (((j : Nat) : Int) == 0) = true := by rw [beq_iff_eq]; omega
            clear hj0 hb2
            go_wp2_with (at_builtin; refine append1n j rfl _ _ rfl w6.heap.size (.slice la j lc) (nats (orbK (ph ks) i j)) (x : Nat) HNN wr.heap.size rfl rfl rfl hown hjp' hsz ?_; intro g2 cap2 w3 hown3 hk3 hat hg; obtain ⟨hA3, hK3, m0, m1, mS, mM⟩ := HCS.out w3 g2 cap2 hk3 hown3; have d0 : w3.drew.cell? ⟨w2.heap.size, 0, none⟩ = _ := m0; have d1 : w3.drew.cell? ⟨w2.heap.size, 1, none⟩ = _ := m1; have dS : w3.drew.cell? ⟨gS, oS + m, none⟩ = _ := mS; have dM : w3.drew.cell? ⟨gM, oM + x, none⟩ = _ := mM; have HF := Lib.hid (And.intro hA3 hK3); clear hA3 hK3 hown3 hk3 hat hg)
            go_quiet (fail)
            go_wp2_with fail
            go_roundg (per (ph ks) i - (j + 1))
            case measure => rw [HG.out]; have := HJ.out; omega
            case rel => exact ⟨j + 1, HJ.out, rfl, by rw [HXX.out.2, HXX.out.1]; rfl, HF.out.1.keeps ((Keeps.refl (fun _ => False) _).drewN nq) (fun _ _ h => h), HF.out.2.drewN nq⟩
          · have hb : (((j : Nat) : Int) == 0) = false := by rw [beq_eq_false_iff_ne]; omega
            have hb3 := hb2 (by omega)
            clear hj0 hb2
            go_wp2_with (at_builtin; refine append1n j rfl _ _ rfl w6.heap.size (.slice la j lc) (nats (orbK (ph ks) i j)) (x : Nat) HNN wr.heap.size rfl rfl rfl hown hjp' hsz ?_; intro g2 cap2 w3 hown3 hk3 hat hg; obtain ⟨hA3, hK3, m0, m1, mS, mM⟩ := HCS.out w3 g2 cap2 hk3 hown3; have d0 : w3.drew.cell? ⟨w2.heap.size, 0, none⟩ = _ := m0; have d1 : w3.drew.cell? ⟨w2.heap.size, 1, none⟩ = _ := m1; have dS : w3.drew.cell? ⟨gS, oS + m, none⟩ = _ := mS; have dM : w3.drew.cell? ⟨gM, oM + x, none⟩ = _ := mM; have HF := Lib.hid (And.intro hA3 hK3); clear hA3 hK3 hown3 hk3 hat hg)
            go_quiet (fail)
            go_wp2_with fail
            go_roundg (per (ph ks) i - (j + 1))
            case measure => rw [HG.out]; have := HJ.out; omega
            case rel => exact ⟨j + 1, HJ.out, rfl, by rw [HXX.out.2, HXX.out.1]; rfl, HF.out.1.keeps ((Keeps.refl (fun _ => False) _).drewN nq) (fun _ _ h => h), HF.out.2.drewN nq⟩
        · obtain rfl : j = per (ph ks) i := by omega
          rw [p3]
          have hlen := orbK_length (ph ks) i (per (ph ks) i)
          have hfo := hown.form
          rw [nats_len, hlen] at hfo
          obtain ⟨la, lc, rfl, _, _⟩ := hfo
          have hol : (nats (orb (ph ks) i)).length = per (ph ks) i := by rw [nats_len]; exact hlen
          rw [hol] at HOV ⊢
          have hsv := (HOV.out.keeps hk (fun _ _ h => h)).sl
          have hEq := equal_same _ _ (nats (orb (ph ks) i)) wr hsv hown.sl (by rw [hol]; have := HL4.out; omega)
          have HK := Lib.hid (HK1.out.trans (HA6.out.kee.trans hk (fun _ _ h => h)) (fun _ _ h => h))
          have hPn : 0 < per (ph ks) i := p1
          clear hown hk hsv hlen p2 p3 p4 hj hjp hol HOV
          generalize per (ph ks) i = P at *
          have hb : (((P : Nat) : Int) == 0) = false := by rw [beq_eq_false_iff_ne]; omega
          have hb2 : (((i : Nat) : Int) != ((i : Nat) : Int)) = false := by simp
          go_wp2_with fail
          refine hEq.mono ?_
          rintro e w7 ⟨rfl, hk7⟩
          have HF := Lib.hid (HK.out.trans hk7 (fun _ _ h => h))
          clear hEq hk7
          go_wp2_with fail
          go_ret
          exact ⟨rfl, HF.out.below (fun _ _ h => h)⟩
    · have hQ := lookFace_out HA.out.lq.1 (by omega) a5 hi64 hin
      go_wp2_with fail
      refine hQ.mono ?_
      rintro e w6 ⟨rfl, hF⟩
      have hA6 := HA.out.ask hF
      have HK := Lib.hid (HK1.out.trans hA6.kee (fun _ _ h => h))
      have k0 := World.cell_of_heap hA6.rd.1 0
      simp only [List.getElem?_toArray, List.getElem?_cons_zero] at k0
      clear hQ hF hA6 HA
      rw [← HN.out] at hin
      by_cases hi0 : a5 < 0
      · have hd : decide (a5 < 0) = true := decide_eq_true hi0
        clear hin
        go_wp2_with fail
        go_ret
        exact ⟨rfl, HK.out.below (fun _ _ h => h)⟩
      · have hd : decide (a5 < 0) = false := decide_eq_false hi0
        have hd2 : decide ((n : Int) ≤ a5) = true := by refine decide_eq_true ?_; omega
        clear hin
        go_wp2_with fail
        go_ret
        exact ⟨rfl, HK.out.below (fun _ _ h => h)⟩

end Go.Proofs.YtipelclohcdkcaaGreat
