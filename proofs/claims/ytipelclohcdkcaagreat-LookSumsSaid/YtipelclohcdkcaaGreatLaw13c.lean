/- Layer 13's statements: LookVertices, the walk. -/
import Derived.Test.YtipelclohcdkcaaGreatLaw13b
namespace Go.Proofs.YtipelclohcdkcaaGreat
open Go.RowKit

theorem Asked13.cells {w wb wr : World} {ks : List Nat} {bl b bo : Nat} {bi bp : Nat → Nat} {F : Nat → Prop} {vS vM vV vF : Value} {b12 q n : Nat} (h : Asked13 w wb ks bl b bo bi bp F vS vM vV vF b12 q n wr) {w' : World} (k : Keeps (fun _ => False) wr w') : Rd13 b12 vS vM vV vF ks w' := h.rd.keeps k (fun h => h) (fun _ _ h => h)

/-- Around a vertex, so far. -/
def ArS (w w0 : World) (b12 : Nat) (vS vM vV vF : Value) (ks : List Nat) (f j : Nat) (kv : Value) (wr : World) : Prop := OwnI w0.heap.size wr kv (nats (orbK (tn ks) f j)) ∧ Keeps (fun _ => False) w wr ∧ Rd13 b12 vS vM vV vF ks wr ∧ w0.heap.size ≤ wr.heap.size ∧ (∀ q, (vS.ownBlock = some q ∨ vM.ownBlock = some q ∨ vV.ownBlock = some q ∨ vF.ownBlock = some q) → q < w0.heap.size) ∧ b12 < w0.heap.size ∧ w.heap.size ≤ w0.heap.size

theorem ArS.push {w w0 wr w3 : World} {b12 : Nat} {vS vM vV vF kv kv' : Value} {ks : List Nat} {f j : Nat} (h : ArS w w0 b12 vS vM vV vF ks f j kv wr) (k : Keeps (fun q => kv.ownBlock = some q) wr w3) (ho : OwnI w0.heap.size w3 kv' (nats (orbK (tn ks) f (j + 1)))) : ArS w w0 b12 vS vM vV vF ks f (j + 1) kv' w3 := by
  obtain ⟨h1, h2, h3, h4, h5, h6, h7⟩ := h
  exact ⟨ho, h2.trans k (fun x hx e => by have := (h1.lt x e).1; omega), h3.keeps k (fun e => by have := (h1.lt _ e).1; omega) (fun q hq e => by have := h5 q hq; have := (h1.lt q e).1; omega), Nat.le_trans h4 k.size, h5, h6, h7⟩

set_option maxRecDepth 100000 in
set_option maxHeartbeats 8000000 in
theorem walkLookVertices (a0 : Int) (a1 : Option Addr) (len1 cap1 : Nat) (z1 : List Int) (a2 a3 a4 : Int) (w : World) (w0 : (Lit.int .u16 a0).wf = true) (w1 : RowIn .u8 w a1 len1 cap1 z1) (w2 : (Lit.int .u8 a2).wf = true) (w3 : (Lit.int .i64 a3).wf = true) (w4 : (Lit.int .i64 a4).wf = true) :
    Calls Tryz.prog 4 #[.int .u16 a0, .slice a1 len1 cap1, .int .u8 a2, .int .i64 a3, .int .i64 a4] w fun e w' => e = .returned (.bool true) ∧ Below w.heap.size w w' := by
  have hnot : ∀ (x : Bool) (w : World), (Op.unary .not (.bool x)).run Tryz.prog w = .ok (.bool (!x)) w := fun _ _ => rfl
  obtain ⟨p, rfl, hp16⟩ := u16_in w0
  obtain ⟨ps, hp, hps⟩ := w1.bytes
  obtain ⟨root, rfl, hroot⟩ := u8_in w2
  have hv64 := i64_in w3
  have hk64 := i64_in w4
  have hM := fun w1 (hk : Keeps (fun _ => False) w w1) => made13_any (.slice a1 len1 cap1) ps p root w1 (hp.keeps hk (fun _ _ h => h)) hps hroot hp16
  clear w0 w1 w2 w3 w4 hp hps hp16 hroot
  go_enter Tryz.func4, Tryz.ntmps4
  go_wp2_with fail
  refine (awake13_any _).mono ?_
  rintro e w1 ⟨rfl, hk1⟩
  go_wp2_with fail
  refine (hM _ hk1).mono ?_
  rintro e w2 ⟨ks, bl, b, bo, bi, bp, F, vS, vM, vV, vF, rfl, hR, hl4, hML⟩
  have hA := hML.boxed
  have hW := hR.wd
  obtain ⟨aS, cS, rfl, _, _⟩ := hML.s.form
  obtain ⟨aM, cM, rfl, _, _⟩ := hML.m.form
  obtain ⟨aV, cV, rfl, _, _⟩ := hML.v.form
  obtain ⟨aF, cF, rfl, _, _⟩ := hML.f.form
  obtain ⟨r1, c1, r2, c2, r3, c3, hD, q1, q2, q3⟩ := vAsk bl b bo bi bp hW (by omega) a3 a4 hk64.2
  have hQ1 := q1 _ _ _ _ hA.lq.1 (by omega) (by omega)
  have HA := Lib.hid hA
  have HQ2 := Lib.hid q2
  have HQ3 := Lib.hid q3
  have HD := Lib.hid hD
  have HW := Lib.hid hW
  have HK1 := Lib.hid hk1
  have HL4 := Lib.hid hl4
  clear hM hML hA q1 q2 q3 hD hW hR hk1 hl4
  go_wp2_with fail
  refine hQ1.mono ?_
  rintro e w3 ⟨rfl, hQ⟩
  have hA3 := HA.out.ask hQ
  have hQ2 := HQ2.out _ _ _ _ hA3.lq.1 (by omega) (by have := HL4.out; omega)
  have HA3 := Lib.hid hA3
  clear hQ hQ1 hA3 HA
  go_wp2_with fail
  refine hQ2.mono ?_
  rintro e w4 ⟨rfl, hQ⟩
  have hA4 := HA3.out.ask hQ
  have hQ3 := HQ3.out _ _ _ _ hA4.lq.1 (by omega) (by have := HL4.out; omega)
  have HA4 := Lib.hid hA4
  clear hQ hQ2 hA4 HA3
  go_wp2_with fail
  refine hQ3.mono ?_
  rintro e w5 ⟨rfl, hQ⟩
  have hA5 := HA4.out.ask hQ
  have hkf := HK1.out.trans hA5.kee (fun _ _ h => h)
  have hsz5 := hkf.size
  have hlen : (nats (fsL (tnL ks) ks.length)).length = if ks.length = 0 then 0 else nvK ks := by
    rw [nats_len]
    split
    · next h => rw [h]; rfl
    · exact HW.out.fs_len (by omega)
  have c3 := World.cell_of_heap hA5.rd.1 3
  simp only [List.getElem?_toArray, List.getElem?_cons_succ, List.getElem?_cons_zero] at c3
  have HA5 := Lib.hid hA5
  have HKF := Lib.hid (And.intro hkf (hkf.below (fun _ _ h => h)))
  clear hQ hQ3 hA5 hkf HA4 HQ2 HQ3
  generalize hlF : (nats (fsL (tnL ks) ks.length)).length = lF at *
  generalize hlS : (nats (tnL ks)).length = lS at *
  generalize hlM : (nats ((List.range ks.length).map (mp ks))).length = lM at *
  generalize hlV : (nats ((List.range ks.length).map (vx ks))).length = lV at *
  have HLEN := Lib.hid (And.intro hlen (And.intro hlS (And.intro hlM hlV)))
  clear hlen hlF hlS hlM hlV
  rcases HD.out with ⟨hv, rfl, rfl, rfl, rfl, rfl, rfl⟩ | ⟨rfl, h0, rfl, rfl, rfl, rfl, rfl, rfl⟩ | ⟨u, f, rfl, hn0, hu, hf, hfn, rfl, rfl, rfl, rfl, hN⟩
  · clear HD
    by_cases hv0 : a3 < 0
    · have hd : decide (a3 < 0) = true := decide_eq_true hv0
      clear hv
      go_wp2_with fail
      go_ret
      exact ⟨rfl, HKF.out.2⟩
    · have hd : decide (a3 < 0) = false := decide_eq_false hv0
      have hmx : decide (max (lF : Int) 1 ≤ a3) = true := by
        refine decide_eq_true ?_
        rw [HLEN.out.1]
        unfold nvK at hv ⊢
        split <;> omega
      clear hv
      go_wp2_with fail
      go_ret
      exact ⟨rfl, HKF.out.2⟩
  · clear HD
    obtain rfl : lF = 0 := by rw [HLEN.out.1, if_pos h0]
    clear h0
    go_wp2_with fail
    go_ret
    exact ⟨rfl, HKF.out.2⟩
  · clear HD
    have hlf : lF = nvK ks := by rw [HLEN.out.1, if_neg (by omega)]
    have hnv : 1 ≤ lF := by rw [hlf]; unfold nvK; omega
    have hlu : u < lF := by omega
    have hp := HW.out.tn_isP.per_spec hfn
    obtain ⟨aF', oF, rfl, hcF⟩ := HA5.out.rd.2.2.2.2.cellAt (nats_get (HW.out.fs_get hf hfn))
    have hA0 : ArS w w5 w2.heap.size (.slice aS lS cS) (.slice aM lM cM) (.slice aV lV cV) (.slice (some ⟨aF', oF, none⟩) lF cF) ks f 0 (.slice none 0 0) w5 := by
      refine ⟨OwnI.nil _ _, HKF.out.1, HA5.out.rd, Nat.le_refl _, fun q hq => ?_, ?_, hsz5⟩
      · have := (HA5.out.sep q hq).2.2; have := HA5.out.lq.2.size; omega
      · have := HA5.out.b12o.1; have := HA5.out.lq.2.size; omega
    have HP := Lib.hid (And.intro hp hf)
    have hb0 : (((lF : Nat) : Int) == 0) = false := by rw [beq_eq_false_iff_ne]; omega
    have hmx : decide (max (lF : Int) 1 ≤ (u : Int)) = false := by refine decide_eq_false ?_; omega
    have hux : (u : Int) < (lF : Int) := by omega
    clear hp hf hlf hu
    go_wp2_with fail
    go_loopg [19, 20] (per (tn ks) f - 0) (fun mu kv iv wr => ∃ j : Nat, j ≤ per (tn ks) f ∧ mu = per (tn ks) f - j ∧ iv = .int .i64 (itr (tn ks) j f : Nat) ∧ ArS w w5 w2.heap.size (.slice aS lS cS) (.slice aM lM cM) (.slice aV lV cV) (.slice (some ⟨aF', oF, none⟩) lF cF) ks f j kv wr)
    case atStart => exact ⟨0, Nat.zero_le _, rfl, rfl, hA0⟩
    case round =>
      clear hA0
      obtain ⟨j, hj, hgk, rfl, hA⟩ := hrel
      have HG := Lib.hid hgk
      clear hgk
      by_cases hjp : j < per (tn ks) f
      · have HJ : Hid (j + 1 ≤ per (tn ks) f) := Lib.hid hjp
        have hx : itr (tn ks) j f < ks.length := HW.out.tn_isP.itr_lt hfn j
        have hst := orbK_succ (tn ks) f j
        have hlen := orbK_length (tn ks) f j
        have hnx : tn ks (itr (tn ks) j f) = itr (tn ks) (j + 1) f := rfl
        have hS1 : (tnL ks)[itr (tn ks) j f]? = some (tn ks (itr (tn ks) j f)) := by unfold tnL; rw [List.getElem?_map, List.getElem?_range hx]; rfl
        have hne : 0 < j → itr (tn ks) j f ≠ f := fun h0 => HP.out.1.2.2.2 j h0 hjp
        have hfo := hA.1.form
        rw [nats_len, hlen] at hfo
        obtain ⟨la, lc, rfl, _, _⟩ := hfo
        have HX := Lib.hid (And.intro hst hnx)
        obtain ⟨x, hxe⟩ : ∃ x, x = itr (tn ks) j f := ⟨_, rfl⟩
        rw [← hxe] at hx hS1 hne ⊢
        obtain ⟨y, hye⟩ : ∃ y, y = tn ks x := ⟨_, rfl⟩
        rw [← hye] at hS1
        have HXX := Lib.hid (And.intro hxe hye)
        have HN : Hid ((nats (orbK (tn ks) f j)).length = j) := Lib.hid (by rw [nats_len]; exact hlen)
        have HA := Lib.hid hA
        have hjp' : j ≤ 10000000000 := by have := HP.out.1.2.1; have := HL4.out; omega
        have hxS : (x : Int) < (lS : Int) := by have := HLEN.out.2.1; rw [nats_len, tnL_length] at this; omega
        have hcs : ∀ W, Rd13 w2.heap.size (.slice aS lS cS) (.slice aM lM cM) (.slice aV lV cV) (.slice (some ⟨aF', oF, none⟩) lF cF) ks W → W.cell? ⟨w2.heap.size, 3, none⟩ = some (.slice (some ⟨aF', oF, none⟩) lF cF) ∧ W.cell? ⟨w2.heap.size, 0, none⟩ = some (.slice aS lS cS) ∧ W.cell? ⟨aF', oF + u, none⟩ = some (.int .i64 f) := fun W hW => by
          have c3 := World.cell_of_heap hW.1 3
          have c0 := World.cell_of_heap hW.1 0
          simp only [List.getElem?_toArray, List.getElem?_cons_succ, List.getElem?_cons_zero] at c3 c0
          exact ⟨c3, c0, hW.2.2.2.2.cellOf (nats_get (HW.out.fs_get HP.out.2 hfn))⟩
        have hown := hA.1
        have hsz : w5.heap.size ≤ wr.heap.size := hA.2.2.2.1
        obtain ⟨k3, k0, kF⟩ := hcs wr hA.2.2.1
        obtain ⟨gS, oS, rfl, kS⟩ := hA.2.2.1.2.1.cellAt (nats_get hS1)
        have HCS : Hid (∀ W g2 cap2, Keeps (fun q => (Value.slice la j lc).ownBlock = some q) wr W → OwnI w5.heap.size W (.slice (some ⟨g2, 0, none⟩) (j + 1) cap2) (nats (orbK (tn ks) f j) ++ [(x : Int)]) → ArS w w5 w2.heap.size (.slice (some ⟨gS, oS, none⟩) lS cS) (.slice aM lM cM) (.slice aV lV cV) (.slice (some ⟨aF', oF, none⟩) lF cF) ks f (j + 1) (.slice (some ⟨g2, 0, none⟩) (j + 1) cap2) W ∧ W.cell? ⟨w2.heap.size, 0, none⟩ = some (.slice (some ⟨gS, oS, none⟩) lS cS) ∧ W.cell? ⟨gS, oS + x, none⟩ = some (.int .i64 y)) := Lib.hid (fun W g2 cap2 hk hown3 => by
          have h3 := HA.out.push hk (kv' := .slice (some ⟨g2, 0, none⟩) (j + 1) cap2) (by rw [HX.out.1, nats_snoc, ← HXX.out.1]; exact hown3)
          exact ⟨h3, (hcs W h3.2.2.1).2.1, h3.2.2.1.2.1.cellOf (nats_get hS1)⟩)
        clear hst hlen hnx hS1 hA hcs hxe hye
        by_cases hj0 : j = 0
        · have hb : (((j : Nat) : Int) == 0) = true := by rw [beq_iff_eq]; omega
          clear hne hj0 hjp hj
          go_wp2_with (at_builtin; refine append1n j rfl _ _ rfl w5.heap.size (.slice la j lc) (nats (orbK (tn ks) f j)) (x : Nat) HN wr.heap.size rfl rfl rfl hown hjp' hsz ?_; intro g2 cap2 w3 hown3 hk3 hat hg; obtain ⟨hA3, m0, mS⟩ := HCS.out w3 g2 cap2 hk3 hown3; have HF := Lib.hid hA3; clear hA3 hown3 hk3 hat hg)
          go_roundg (per (tn ks) f - (j + 1))
          case measure => rw [HG.out]; have := HJ.out; omega
          case rel => exact ⟨j + 1, HJ.out, rfl, by rw [HXX.out.2, HXX.out.1]; rfl, HF.out⟩
        · have hb : (((j : Nat) : Int) == 0) = false := by rw [beq_eq_false_iff_ne]; omega
          have hb2 : (((x : Nat) : Int) != ((f : Nat) : Int)) = true := by rw [bne_iff_ne]; have := hne (by omega); omega
          clear hne hj0 hjp hj
          go_wp2_with (at_builtin; refine append1n j rfl _ _ rfl w5.heap.size (.slice la j lc) (nats (orbK (tn ks) f j)) (x : Nat) HN wr.heap.size rfl rfl rfl hown hjp' hsz ?_; intro g2 cap2 w3 hown3 hk3 hat hg; obtain ⟨hA3, m0, mS⟩ := HCS.out w3 g2 cap2 hk3 hown3; have HF := Lib.hid hA3; clear hA3 hown3 hk3 hat hg)
          go_roundg (per (tn ks) f - (j + 1))
          case measure => rw [HG.out]; have := HJ.out; omega
          case rel => exact ⟨j + 1, HJ.out, rfl, by rw [HXX.out.2, HXX.out.1]; rfl, HF.out⟩
      · obtain rfl : j = per (tn ks) f := by omega
        obtain ⟨p1, p2, p3, _⟩ := HP.out.1
        rw [p3]
        have hlen := orbK_length (tn ks) f (per (tn ks) f)
        have hfo := hA.1.form
        rw [nats_len, hlen] at hfo
        obtain ⟨la, lc, rfl, _, _⟩ := hfo
        have hz : ∀ m, m < per (tn ks) f → (orbK (tn ks) f (per (tn ks) f))[m]? = some (itr (tn ks) m f) ∧ itr (tn ks) m f < ks.length := fun m hm => ⟨by unfold orbK; rw [List.getElem?_map, List.getElem?_range hm]; rfl, HW.out.tn_isP.itr_lt hfn m⟩
        have kF := hA.2.2.1.2.2.2.2.cellOf (nats_get (HW.out.fs_get HP.out.2 hfn))
        have k3 := World.cell_of_heap hA.2.2.1.1 3
        have k2 := World.cell_of_heap hA.2.2.1.1 2
        have k1 := World.cell_of_heap hA.2.2.1.1 1
        simp only [List.getElem?_toArray, List.getElem?_cons_succ, List.getElem?_cons_zero] at k3 k2 k1
        have HK := Lib.hid (And.intro hA.2.1 (hA.2.1.below (fun _ _ h => h)))
        have HA := Lib.hid hA
        have HZ := Lib.hid hz
        clear hA hz hlen p2 p3 hj
        generalize hP : per (tn ks) f = P at *
        have HPE := Lib.hid hP
        clear hP
        have hb : (((P : Nat) : Int) == 0) = false := by rw [beq_eq_false_iff_ne]; omega
        have hb2 : (((f : Nat) : Int) != ((f : Nat) : Int)) = false := by simp
        have hb3 : (((P : Nat) : Int) != ((P : Nat) : Int)) = false := by simp
        rcases hN with ⟨hk, rfl, rfl⟩ | ⟨m, rfl, hm, rfl, rfl⟩
        · by_cases hk0 : a4 < 0
          · have hd : decide (a4 < 0) = true := decide_eq_true hk0
            clear hk
            go_wp2_with fail
            go_ret
            exact ⟨rfl, HK.out.2⟩
          · have hd : decide (a4 < 0) = false := decide_eq_false hk0
            have hd2 : decide ((P : Int) ≤ a4) = true := by refine decide_eq_true ?_; omega
            clear hk
            go_wp2_with fail
            go_ret
            exact ⟨rfl, HK.out.2⟩
        · have hd2 : decide ((P : Int) ≤ (m : Int)) = false := by refine decide_eq_false ?_; omega
          obtain ⟨hz1, hz2⟩ := HZ.out m hm
          obtain ⟨z, hze⟩ : ∃ z, z = itr (tn ks) m f := ⟨_, rfl⟩
          rw [← hze] at hz1 hz2 ⊢
          have hy2 := HW.out.mp_lt hz2
          have hM1 : ((List.range ks.length).map (mp ks))[z]? = some (mp ks z) := by rw [List.getElem?_map, List.getElem?_range hz2]; rfl
          obtain ⟨y, hye⟩ : ∃ y, y = mp ks z := ⟨_, rfl⟩
          rw [← hye] at hM1 hy2 ⊢
          have hV1 : ((List.range ks.length).map (vx ks))[y]? = some (vx ks y) := by rw [List.getElem?_map, List.getElem?_range hy2]; rfl
          obtain ⟨t, hte⟩ : ∃ t, t = vx ks y := ⟨_, rfl⟩
          rw [← hte] at hV1 ⊢
          obtain ⟨gA, oA, rfl, kA⟩ := HA.out.1.sl.cellAt (nats_get hz1)
          obtain ⟨gM, oM, rfl, kM⟩ := HA.out.2.2.1.2.2.1.cellAt (nats_get hM1)
          obtain ⟨gV, oV, rfl, kV⟩ := HA.out.2.2.1.2.2.2.1.cellAt (nats_get hV1)
          have hzM : (z : Int) < (lM : Int) := by have := HLEN.out.2.2.1; simp [nats] at this; omega
          have hyV : (y : Int) < (lV : Int) := by have := HLEN.out.2.2.2; simp [nats] at this; omega
          have hmP : (m : Int) < (P : Int) := by omega
          have dA : wr.drew.cell? ⟨gA, oA + m, none⟩ = some (.int .i64 z) := kA
          have dM : wr.drew.cell? ⟨gM, oM + z, none⟩ = some (.int .i64 y) := kM
          have dV : wr.drew.cell? ⟨gV, oV + y, none⟩ = some (.int .i64 t) := kV
          have d1 : wr.drew.cell? ⟨w2.heap.size, 1, none⟩ = some (.slice (some ⟨gM, oM, none⟩) lM cM) := k1
          have d2 : wr.drew.cell? ⟨w2.heap.size, 2, none⟩ = some (.slice (some ⟨gV, oV, none⟩) lV cV) := k2
          clear hz1 hz2 hy2 hM1 hV1 hze hye hte hm
          go_wp2_with fail
          go_quiet (fail)
          go_wp2
          go_ret
          exact ⟨rfl, (HK.out.1.drewN nq).below (fun _ _ h => h)⟩

end Go.Proofs.YtipelclohcdkcaaGreat
