/- Layer 13's statements: LookSums. -/
import Derived.Test.YtipelclohcdkcaaGreatSums
import Derived.Test.YtipelclohcdkcaaGreatLaw13e
namespace Go.Proofs.YtipelclohcdkcaaGreat
open Go.RowKit

theorem dsum_mono (ks : List Nat) {u v : Nat} (h : u ≤ v) : dsum ks u ≤ dsum ks v := by
  induction v with
  | zero => obtain rfl : u = 0 := by omega
            exact Nat.le_refl _
  | succ v ih =>
    rcases Nat.lt_or_ge u (v + 1) with h1 | h1
    · rw [dsum_succ]
      exact Nat.le_trans (ih (by omega)) (Nat.le_add_right _ _)
    · obtain rfl : u = v + 1 := by omega
      exact Nat.le_refl _

section
variable {w : World} {bl b bo : Nat} {bi bp : Nat → Nat} {ks : List Nat} {q : Nat} {F : Nat → Prop} {n : Nat}

/-- A vertex's degree is the count of its places. -/
theorem degAsk (h : LookS w bl b bo bi bp ks q F n) (hn : n ≤ 1000000) (hq : q ≤ 5000000) (hw : Wd ks) (hL : ks.length ≤ 400) (v : Nat) (hv : v < nvK ks) :
    Calls Tryz.prog 39 #[.pointer (some ⟨bl, 0, none⟩), .int .i64 v] w fun e w' => e = .returned (.tuple #[.int .i64 ((pl ks v).length : Nat), .int .i64 0]) ∧ LookQ w bl b bo bi bp ks (q + 4010) F (n + 1) w' := by
  by_cases h00 : ks.length = 0
  · obtain rfl : v = 0 := by unfold nvK at hv; have := cntK_le ks 0; omega
    have hp : (pl ks 0).length = 0 := by unfold pl plj; rw [h00]; rfl
    rw [hp]
    refine (lookDegree_nil h hn hq h00).mono ?_
    rintro e w' ⟨rfl, hQ⟩
    exact ⟨rfl, hQ.more (by omega)⟩
  · obtain ⟨f, hf, hfn⟩ := first_ex hw (by omega) hv
    have hp : (pl ks v).length = per (tn ks) f := by rw [← hw.orb_first hf hfn, orb_length]
    rw [hp]
    refine (lookDegree_in h hn hq hw (by omega) v f hv hf hfn).mono ?_
    rintro e w' ⟨rfl, hQ⟩
    exact ⟨rfl, hQ.more (by omega)⟩
end

/-- A new base, behind writes of a block of the caller's own. -/
theorem Asked13.rebase {w wb wr w' : World} {ks : List Nat} {bl b bo : Nat} {bi bp : Nat → Nat} {F : Nat → Prop} {vS vM vV vF : Value} {b12 q n : Nat} (h : Asked13 w wb ks bl b bo bi bp F vS vM vV vF b12 q n wr) {G : Nat → Prop} (k : Keeps G wr w')
    (hG : ∀ x, G x → ¬ grow F wb wr x ∧ x ≠ bl ∧ x ≠ b12 ∧ w.heap.size ≤ x ∧ ∀ q, (vS.ownBlock = some q ∨ vM.ownBlock = some q ∨ vV.ownBlock = some q ∨ vF.ownBlock = some q) → q ≠ x) :
    Asked13 w w' ks bl b bo bi bp (grow F wb wr) vS vM vV vF b12 q n w' := by
  have hs := k.size
  have hs2 := h.lq.2.size
  have hs3 := h.kee.size
  have hS := h.lq.1.keeps k (fun x hx hg => by
    rcases hx with hx | hx
    · exact (hG x hg).1 hx
    · exact (hG x hg).2.1 hx)
  have hg : ∀ x, grow F wb wr x → F x ∨ (wb.heap.size ≤ x ∧ x < wr.heap.size) := fun x hx => hx
  refine ⟨hS.q0, fun x hx => ?_, ⟨h.blo.1, by have := h.blo.2; omega⟩, h.lq.1.sep, h.rd.keeps k (fun h => (hG _ h).2.2.1 rfl) (fun q hq h => (hG _ h).2.2.2.2 q hq rfl), ⟨by have := h.b12o.1; omega, fun hx => ?_, h.b12o.2.2⟩, fun q hq => ?_, h.kee.trans k (fun x hx h => by have := (hG x h).2.2.2.1; omega)⟩
  · rcases hg x hx with h1 | h1
    · have := h.fold x h1; omega
    · have := h.blo; omega
  · rcases hg _ hx with h1 | h1
    · exact h.b12o.2.1 h1
    · have := h.b12o.1; omega
  · obtain ⟨h1, h2, h3⟩ := h.sep q hq
    refine ⟨fun hx => ?_, h2, by omega⟩
    rcases hg _ hx with h4 | h4
    · exact h1 h4
    · omega

/-- Behind some places: their faces are counted and seen. -/
def SumS (w : World) (ks : List Nat) (bl b bo : Nat) (bi bp : Nat → Nat) (vS vM vV vF : Value) (b12 bm i : Nat) (wr : World) : Prop :=
  ∃ N WB F Q A, Asked13 w WB ks bl b bo bi bp F vS vM vV vF b12 Q A wr ∧ MapI wr bm N (seenF ks.length (ph ks) i 0) ∧ N ≤ 500 * i ∧ Q ≤ 2000000 + 4000 * i ∧ A ≤ 500 + i ∧
    bm < WB.heap.size ∧ ¬ F bm ∧ bm ≠ bl ∧ bm ≠ b12 ∧ w.heap.size ≤ bm ∧ ∀ q, (vS.ownBlock = some q ∨ vM.ownBlock = some q ∨ vV.ownBlock = some q ∨ vF.ownBlock = some q) → q ≠ bm

set_option maxRecDepth 100000 in
set_option maxHeartbeats 8000000 in
theorem walkLookSums (a0 : Int) (a1 : Option Addr) (len1 cap1 : Nat) (z1 : List Int) (a2 : Int) (w : World) (w0 : (Lit.int .u16 a0).wf = true) (w1 : RowIn .u8 w a1 len1 cap1 z1) (w2 : (Lit.int .u8 a2).wf = true) :
    Calls Tryz.prog 5 #[.int .u16 a0, .slice a1 len1 cap1, .int .u8 a2] w fun e w' => e = .returned (.bool true) ∧ Below w.heap.size w w' := by
  have hnot : ∀ (x : Bool) (w : World), (Op.unary .not (.bool x)).run Tryz.prog w = .ok (.bool (!x)) w := fun _ _ => rfl
  have hmm := @run_makeMap Tryz.prog
  obtain ⟨p, rfl, hp16⟩ := u16_in w0
  obtain ⟨ps, hp, hps⟩ := w1.bytes
  obtain ⟨root, rfl, hroot⟩ := u8_in w2
  have hM := fun w1 (hk : Keeps (fun _ => False) w w1) => made13_any (.slice a1 len1 cap1) ps (p % 60) root w1 (hp.keeps hk (fun _ _ h => h)) hps hroot (by omega)
  have e1 : ((p % 60 : Nat) : Int) = (p : Int) % 60 := by omega
  rw [e1] at hM
  clear w0 w1 w2 hp hps hroot e1
  go_enter Tryz.func5, Tryz.ntmps5
  go_wp2_with fail
  refine (awake13_any _).mono ?_
  rintro e w1 ⟨rfl, hk1⟩
  go_wp2_with fail
  refine (hM _ hk1).mono ?_
  rintro e w2 ⟨ks, bl, b, bo, bi, bp, F, vS, vM, vV, vF, rfl, hR, hl4, hML⟩
  have hA := hML.boxed
  have hW := hR.wd
  obtain ⟨aS, cS, rfl, _, _⟩ := hML.s.form
  obtain ⟨aM, cM, rfl, _, _⟩ := hML.m.form
  obtain ⟨aV, cV, rfl, _, _⟩ := hML.v.form
  obtain ⟨aF, cF, rfl, _, _⟩ := hML.f.form
  have hV := lookVertices_any hA.lq.1.mix.old hA.lq.1.mix.after hA.lq.1.own hA.lq.1.sep (by omega)
  have HA := Lib.hid hA
  have HW := Lib.hid hW
  have HK1 := Lib.hid hk1
  have HL4 := Lib.hid hl4
  clear hM hML hA hW hR hk1 hl4
  go_wp2_with fail
  refine hV.mono ?_
  rintro e w4 ⟨rfl, h4⟩
  have hA4 := HA.out.ask (HA.out.lq.1.ask h4)
  generalize w2.alloc _ = WB at *
  have hnk : nvK ks ≤ 401 := by unfold nvK; have := cntK_le ks 0; have := HL4.out; omega
  obtain ⟨nv, hnv⟩ : ∃ nv, nv = nvK ks := ⟨_, rfl⟩
  rw [← hnv] at hnk ⊢
  have HNV := Lib.hid hnv
  have HA4 := Lib.hid hA4
  clear hV h4 HA hA4 hnv
  go_wp2_with fail
  go_loopg [9, 33] (nv - 0) (fun mu sv iv wr => ∃ v : Nat, v ≤ nv ∧ mu = nv - v ∧ sv = .int .i64 (dsum ks v : Nat) ∧ iv = .int .i64 v ∧ Asked13 w1 WB ks bl b bo bi bp F (.slice aS (nats (tnL ks)).length cS) (.slice aM (nats ((List.range ks.length).map (mp ks))).length cM) (.slice aV (nats ((List.range ks.length).map (vx ks))).length cV) (.slice aF (nats (fsL (tnL ks) ks.length)).length cF) w2.heap.size (2 + 4010 * v) v wr)
  case atStart => exact ⟨0, Nat.zero_le _, rfl, rfl, rfl, HA4.out⟩
  case round =>
    obtain ⟨v, hv, hgk, rfl, rfl, hA⟩ := hrel
    have HG := Lib.hid hgk
    clear hgk
    have HA := Lib.hid hA
    clear hA
    by_cases hlt : v < nv
    · have hQ := degAsk HA.out.lq.1 (by omega) (by omega) HW.out HL4.out v (by rw [← HNV.out]; exact hlt)
      have hds := dsum_succ ks v
      have hdm := dsum_mono ks (show v + 1 ≤ nvK ks by rw [← HNV.out]; exact hlt)
      rw [HW.out.dsum_all] at hdm
      have hdb : dsum ks v + (pl ks v).length ≤ 400 := by have := HL4.out; omega
      have HDS := Lib.hid hds
      clear hds hdm
      generalize dsum ks v = d at *
      generalize (pl ks v).length = g at *
      go_wp2_with fail
      refine hQ.mono ?_
      rintro e w5 ⟨rfl, hq⟩
      have hA5 := HA.out.ask hq
      have HA5 := Lib.hid hA5
      clear hQ hq hA5 HA
      go_wp2_with fail
      go_roundg (nv - (v + 1))
      case measure => rw [HG.out]; omega
      case rel => exact ⟨v + 1, by omega, rfl, by rw [HDS.out]; go_num, by go_num, HA5.out.up (by omega)⟩
    · obtain rfl : v = nv := by omega
      have hds : dsum ks v = ks.length := by rw [HNV.out]; exact HW.out.dsum_all
      rw [hds]
      have kA := (Keeps.refl (fun _ => False) wr).alloc (.map #[] 0)
      have hA0 := HA.out.rebase kA (fun _ h => h.elim)
      have hbs := HA.out.blo
      have hb2 := HA.out.b12o
      have hsw := HA.out.lq.2.size
      have hsz : (wr.alloc (.map #[] 0)).heap.size = wr.heap.size + 1 := by simp
      have hS0 : SumS w1 ks bl b bo bi bp (.slice aS (nats (tnL ks)).length cS) (.slice aM (nats ((List.range ks.length).map (mp ks))).length cM) (.slice aV (nats ((List.range ks.length).map (vx ks))).length cV) (.slice aF (nats (fsL (tnL ks) ks.length)).length cF) w2.heap.size wr.heap.size 0 (wr.alloc (.map #[] 0)) := by
        refine ⟨0, _, _, _, _, hA0, (MapI.made wr).congr (fun k => by rw [seenF_zero]), by omega, by omega, by omega, by omega, fun hx => ?_, by omega, by omega, by omega, fun q hq e => ?_⟩
        · rcases hx with hx | hx
          · have := HA.out.fold _ hx; omega
          · omega
        · have := (HA.out.sep q hq).2.2; omega
      have HS0 := Lib.hid hS0
      have k0 := World.cell_of_heap hA0.rd.1 0
      simp only [List.getElem?_toArray, List.getElem?_cons_zero] at k0
      clear hS0 hA0 hbs hb2 hsw hsz kA hds
      go_wp2_with fail
      have hlS : (nats (tnL ks)).length = ks.length := by rw [nats_len, tnL_length]
      have HLS := Lib.hid hlS
      clear hlS HA k0
      generalize (nats (tnL ks)).length = lS at *
      generalize (nats ((List.range ks.length).map (mp ks))).length = lM at *
      generalize (nats ((List.range ks.length).map (vx ks))).length = lV at *
      generalize (nats (fsL (tnL ks) ks.length)).length = lF at *
      generalize wr.heap.size = bm at *
      go_loopg [14, 52] (lS - 0) (fun mu fv iv wx => ∃ i : Nat, i ≤ lS ∧ mu = lS - i ∧ fv = .int .i64 (ldr (ph ks) i : Nat) ∧ iv = .int .i64 i ∧ SumS w1 ks bl b bo bi bp (.slice aS lS cS) (.slice aM lM cM) (.slice aV lV cV) (.slice aF lF cF) w2.heap.size bm i wx)
      case atStart => exact ⟨0, Nat.zero_le _, rfl, rfl, rfl, HS0.out⟩
      case round =>
        clear HS0
        obtain ⟨i, hi, hgk, rfl, rfl, hS⟩ := hrel
        have HG2 := Lib.hid hgk
        clear hgk
        by_cases hlt : i < lS
        · have hik : i < ks.length := by rw [← HLS.out]; exact hlt
          have hph := HW.out.ph_isP
          have hib : i ≤ 400 := by have := HL4.out; omega
          have hls := ldr_succ (ph ks) i
          have hll := ldr_le (ph ks) i
          obtain ⟨N, WB', F', Q, A, hA, hMp, hN, hQb, hAb, b1, b2, b3, b4, b5, b6⟩ := hS
          by_cases hr : rep (ph ks) i = i
          · have H2 := Lib.hid (hph.seenF_fresh hr)
            rw [if_pos hr] at hls
            have hQ := lookFace_in hA.lq.1 (by omega) (by omega) HW.out (by have := HL4.out; omega) i hik
            have HX := Lib.hid (And.intro hls (And.intro hph (And.intro hik (And.intro hr (And.intro hN (And.intro hQb hAb))))))
            have HB := Lib.hid (And.intro b1 (And.intro b2 (And.intro b3 (And.intro b4 (And.intro b5 b6)))))
            have HA2 := Lib.hid hA
            have HM2 := Lib.hid hMp
            clear hls hA hr hph hN hQb hAb b1 b2 b3 b4 b5 b6
            go_wp2_with (at_lookup; refine mapI_look rfl (.tmp 55) (.tmp 56) rfl rfl hMp i (by omega) rfl ?_; simp only [H2.out, Option.getD_none])
            refine hQ.mono ?_
            rintro e w6 ⟨ov, rfl, hF⟩
            have hA6 := HA2.out.ask (FaceS.lookq HA2.out.lq.1 hF)
            obtain ⟨_, _, _, hkF, hov, _⟩ := hF
            have hM6 := HM2.out.keeps hkF (fun hx => by
              have hB := HB.out
              rcases hx with hx | hx
              · rcases hx with hx | hx
                · exact hB.2.1 hx
                · have := hB.1; omega
              · exact hB.2.2.1 hx)
            have hbo : ∀ q, ov.ownBlock = some q → q ≠ bm := fun q hq e => by
              have := (hov.lt q hq).1; have := HM2.out.lt; omega
            have HOV := Lib.hid (And.intro hov hbo)
            have HA6 := Lib.hid hA6
            obtain ⟨va, vc, rfl, _, _⟩ := hov.form
            have hol : (nats (orb (ph ks) i)).length = per (ph ks) i := by rw [nats_len, orb_length]
            have hpn := (HX.out.2.1.per_spec HX.out.2.2.1).2.1
            have hP4 : per (ph ks) i ≤ 400 := by have := HL4.out; omega
            rw [hol] at HOV ⊢
            clear hQ hA6 hkF hov hbo hol hpn
            generalize hPP : per (ph ks) i = P at *
            have HPP := Lib.hid hPP
            clear hPP
            go_wp2_with fail
            go_loopg [71] (P - 0) (fun mu iv wx => ∃ c : Nat, c ≤ P ∧ mu = P - c ∧ iv = .int .i64 c ∧ MapI wx bm (N + c) (seenF ks.length (ph ks) i c) ∧ Keeps (fun p => p = bm) w6 wx)
            case atStart => exact ⟨0, Nat.zero_le _, rfl, rfl, hM6, Keeps.refl _ _⟩
            case round =>
              clear hM6
              obtain ⟨c, hc, hgk, rfl, hMc, hk⟩ := hrel
              have HG3 := Lib.hid hgk
              clear hgk
              by_cases hltc : c < P
              · obtain ⟨x, hx⟩ : ∃ x, (orb (ph ks) i)[c]? = some x := ⟨_, List.getElem?_eq_getElem (by rw [orb_length, HPP.out]; exact hltc)⟩
                have hnew := HX.out.2.1.seenF_new HX.out.2.2.1 HX.out.2.2.2.1 hx
                have hnext := seenF_next (n := ks.length) i c x hx
                have hxl : x ≤ 400 := by have := HX.out.2.1.sameO_lt HX.out.2.2.1 ((HX.out.2.1.mem_orb HX.out.2.2.1).1 (List.mem_of_getElem? hx)); have := HL4.out; omega
                obtain ⟨g, o, rfl, kx⟩ := (HOV.out.1.keeps hk (fun q hq e => HOV.out.2 q hq e)).sl.cellAt (nats_get hx)
                have hN9 : N + c ≤ 1000000000 := by have := HX.out.2.2.2.2.1; omega
                have HNX := Lib.hid (And.intro hnew (And.intro hnext hk))
                clear hnew hnext hx hk
                go_wp2_with (first | (at_lookup; refine mapI_look rfl (.tmp 75) (.tmp 76) rfl rfl hMc x (by omega) rfl ?_; simp only [HNX.out.1, Option.getD_none]) | (at_mapUpdate; refine mapI_put rfl (.tmp 75) (.tmp 76) (.tmp 78) (.inl rfl) rfl hMc hN9 x (by omega) rfl 1 (by omega) rfl ?_; intro w7 hM7 hk7; rw [HNX.out.2.1] at hM7; have hK7 := HNX.out.2.2.trans hk7 (fun _ _ h => h); have HF := Lib.hid (And.intro hM7 hK7); clear hM7 hk7 hK7))
                go_roundg (P - (c + 1))
                case measure => rw [HG3.out]; omega
                case rel => exact ⟨c + 1, by omega, rfl, by go_num, HF.out.1, HF.out.2⟩
              · obtain rfl : c = P := by omega
                obtain ⟨b1, b2, b3, b4, b5, b6⟩ := HB.out
                have hgb : ¬ grow F' WB' w6 bm := fun hx => by
                  rcases hx with hx | hx
                  · exact b2 hx
                  · omega
                have hA7 := HA6.out.rebase hk (fun x e => by
                  have e : x = bm := e
                  subst e
                  exact ⟨hgb, b3, b4, b5, b6⟩)
                have hdn := HX.out.2.1.seenF_done HX.out.2.2.1 HX.out.2.2.2.1
                rw [HPP.out] at hdn
                rw [hdn] at hMc
                obtain ⟨_, _, _, _, g1, g2, g3⟩ := HX.out
                have hlt7 := hMc.lt
                have hS7 : SumS w1 ks bl b bo bi bp (.slice aS lS cS) (.slice aM lM cM) (.slice aV lV cV) (.slice aF lF cF) w2.heap.size bm (i + 1) wr := ⟨_, _, _, _, _, hA7, hMc, by omega, by have := HL4.out; omega, by omega, hlt7, hgb, b3, b4, b5, b6⟩
                have HS7 := Lib.hid (And.intro hS7 HX.out.1)
                clear hA7 hdn hMc hS7 hk hgb b1 b2 b3 b4 b5 b6 g1 g2 g3 hlt7
                go_wp2_with fail
                go_roundg (lS - (i + 1))
                case measure => rw [HG2.out]; omega
                case rel => exact ⟨i + 1, by omega, rfl, by rw [HS7.out.2]; go_num, by go_num, HS7.out.1⟩
          · obtain ⟨h1, h2⟩ := hph.seenF_old hik hr
            rw [if_neg hr, Nat.add_zero] at hls
            have hS2 : SumS w1 ks bl b bo bi bp (.slice aS lS cS) (.slice aM lM cM) (.slice aV lV cV) (.slice aF lF cF) w2.heap.size bm (i + 1) wr := ⟨N, WB', F', Q, A, hA, by rw [← h1]; exact hMp, by omega, by omega, by omega, b1, b2, b3, b4, b5, b6⟩
            have HS2 := Lib.hid (And.intro hls hS2)
            have H2 := Lib.hid h2
            clear hls hS2 h1 h2 hA hr hph hN hQb hAb b1 b2 b3 b4 b5 b6
            go_wp2_with (at_lookup; refine mapI_look rfl (.tmp 55) (.tmp 56) rfl rfl hMp i (by omega) rfl ?_; simp only [H2.out, Option.getD_some])
            go_roundg (lS - (i + 1))
            case measure => rw [HG2.out]; omega
            case rel => exact ⟨i + 1, by omega, rfl, by rw [HS2.out.1]; rfl, by go_num, HS2.out.2⟩
        · obtain rfl : i = lS := by omega
          obtain ⟨N, WB', F', Q, A, hA, hMp, hN, hQb, hAb, b1, b2, b3, b4, b5, b6⟩ := hS
          have k0 := World.cell_of_heap hA.rd.1 0
          simp only [List.getElem?_toArray, List.getElem?_cons_zero] at k0
          have HA3 := Lib.hid (And.intro hA (And.intro hMp (And.intro hQb hAb)))
          have hib : i ≤ 400 := by have := HL4.out; have := HLS.out; omega
          clear hA hMp hN hQb hAb b1 b2 b3 b4 b5 b6
          go_wp2_with fail
          go_loopg [84] (i - 0) (fun mu iv wx => ∃ k : Nat, k ≤ i ∧ mu = i - k ∧ iv = .int .i64 k ∧ Keeps (fun _ => False) wr wx)
          case atStart => exact ⟨0, Nat.zero_le _, rfl, rfl, Keeps.refl _ _⟩
          case round =>
            clear k0
            obtain ⟨k, hk, hgk, rfl, hkk⟩ := hrel
            have HG4 := Lib.hid hgk
            clear hgk
            by_cases hltk : k < i
            · have hall := HW.out.ph_isP.seenF_all (k := k) (by rw [← HLS.out]; exact hltk)
              rw [← HLS.out] at hall
              have hMk := HA3.out.2.1.keeps hkk (fun h => h)
              rw [← HLS.out] at hMk
              have H5 := Lib.hid (And.intro hall hkk)
              clear hall hkk
              go_wp2_with (at_lookup; refine mapI_look rfl (.tmp 87) (.tmp 88) rfl rfl hMk k (by omega) rfl ?_; simp only [H5.out.1, Option.getD_some])
              go_roundg (i - (k + 1))
              case measure => rw [HG4.out]; omega
              case rel => exact ⟨k + 1, by omega, rfl, by go_num, H5.out.2⟩
            · have hA5 := HA3.out.1.still hkk
              have hAd := hA5
              have hE := lookEdges_any hAd.lq.1
              have hV := lookVertices_any hAd.lq.1.mix.old hAd.lq.1.mix.after hAd.lq.1.own hAd.lq.1.sep (by have := HA3.out.2.2.1; omega)
              have k0 := World.cell_of_heap hAd.rd.1 0
              simp only [List.getElem?_toArray, List.getElem?_cons_zero] at k0
              have hT : ∀ W, MixQ wr b bo bi bp ks (Q + 2) (grow F' WB' wr) W → Asked13 w1 WB' ks bl b bo bi bp F' (.slice aS i cS) (.slice aM lM cM) (.slice aV lV cV) (.slice aF lF cF) w2.heap.size (Q + 2) A W := fun W h => hAd.ask (hAd.lq.1.ask h)
              have HT := Lib.hid hT
              have hkd := hAd.kee
              have HKD := Lib.hid hkd
              have hoh := HW.out.opens_half
              have hl4 := HL4.out
              have f1 : IntKind.i64.wrap (2 * ((ks.length : Int) / 2)) = (ks.length : Int) := by rw [IntKind.wrap_i64]; omega
              clear hkd hA5 hkk hoh hT
              have hnl := HLS.out
              by_cases h0 : i = 0
              · have b0 : (((i : Nat) : Int) == 0) = true := by rw [beq_iff_eq]; omega
                have HEQ := Lib.hid h0
                clear h0 hV HT hnl
                go_wp2_with fail
                refine hE.mono ?_
                rintro e w7 ⟨rfl, rfl⟩
                go_wp2_with fail
                go_ret
                exact ⟨rfl, (HK1.out.trans HKD.out (fun _ _ h => h)).below (fun _ _ h => h)⟩
              · have b0 : (((i : Nat) : Int) == 0) = false := by rw [beq_eq_false_iff_ne]; omega
                have heu := HW.out.euler (by omega)
                rw [HW.out.ldr_all (by omega), ← hnl] at heu
                have hnv : nvK ks = cntK ks 0 + 1 := rfl
                rw [← hnv] at heu
                have hE2 := fun W (h : MixQ wr b bo bi bp ks (Q + 2) (grow F' WB' wr) W) => lookEdges_any (HT.out W h).lq.1
                have HKD2 := Lib.hid (fun W (h : MixQ wr b bo bi bp ks (Q + 2) (grow F' WB' wr) W) => (HT.out W h).kee)
                have HE2 := Lib.hid hE2
                have hlb : ldr (ph ks) i ≤ 1000 := by omega
                have hvb : nvK ks ≤ 1000 := by omega
                have f4 : (((nvK ks : Nat) : Int) - (ks.length : Int) / 2 + (ldr (ph ks) i : Nat) == 2) = true := by rw [beq_iff_eq]; omega
                have HEU := Lib.hid heu
                clear h0 hnl heu hnv HT hE2
                generalize nvK ks = nn at *
                generalize ldr (ph ks) i = l at *
                go_wp2_with fail
                refine hE.mono ?_
                rintro e w7 ⟨rfl, rfl⟩
                go_wp2_with fail
                refine hV.mono ?_
                rintro e w8 ⟨rfl, h8⟩
                have hE8 := HE2.out w8 h8
                have HK8 := Lib.hid (HKD2.out w8 h8)
                clear hE hV h8
                go_wp2_with fail
                refine hE8.mono ?_
                rintro e w9 ⟨rfl, rfl⟩
                go_wp2_with fail
                go_ret
                exact ⟨rfl, (HK1.out.trans HK8.out (fun _ _ h => h)).below (fun _ _ h => h)⟩

end Go.Proofs.YtipelclohcdkcaaGreat
