/- law12.TuranCodes: a planar map of one part has the document's word, and comes back from it. -/
import Derived.Test.YtipelclohcdkcaaGreatCanonI
import Derived.Test.YtipelclohcdkcaaGreatEx12
import Derived.Test.YtipelclohcdkcaaGreatMix5
namespace Go.Proofs.YtipelclohcdkcaaGreat
open Go.RowKit

/-- A planar map of one part has as many letters as darts. -/
theorem EncR.full {s : List Nat} {lone : Nat} {rt : Int} {ks : List Nat} (h : EncR s lone rt ks 0) (hP : IsP s.length (sg s)) (he : s.length % 2 = 0) :
    ks.length = s.length ∧ ((s.length = 0 ∧ lone = 1) ∨ (0 < s.length ∧ lone = 0 ∧ cldr s.length (sg s) s.length = 1 ∧ s.length / 2 + 1 ≤ ldr (sg s) s.length + ldr (fun d => sg s (mt d)) s.length ∧
      ∃ r T : Nat, rt = r ∧ WkEnd s.length (sg s) (vnum (sg s)) r T ∧ ks = kso (wlk (sg s) (vnum (sg s)) r T).2)) := by
  rcases h with ⟨_, h, _⟩ | ⟨_, _, h, _⟩ | ⟨h1, h2, _, h3, h4⟩ | ⟨h1, h2, _, r, T, h3, h4, h5, h6⟩
  · omega
  · omega
  · refine ⟨by rw [h3, h4]; rfl, .inl ⟨h3, ?_⟩⟩
    rw [h3, cldr_zero] at h1
    omega
  · have hpos : 0 < s.length := by omega
    have hc1 : 1 ≤ cldr s.length (sg s) s.length := by have := hP.cnum_lt he hpos; omega
    have hc : cldr s.length (sg s) s.length = 1 := by omega
    have hl0 : lone = 0 := by omega
    have hT : T = s.length := by
      have := h5.total (fun _ => true) (fun x hx => ⟨fun _ => conn_one hP he hc h4 hx, fun _ => rfl⟩)
      rw [List.filter_eq_self.2 (fun _ _ => rfl), List.length_range] at this
      exact this.symm
    have hkl : ks.length = T := by rw [h6]; simp [kso, wlk_length]
    refine ⟨by omega, .inr ⟨hpos, hl0, hc, ?_, r, T, h3, h5, h6⟩⟩
    subst hl0
    rw [genus_one hP he hc] at h2
    have hph := phiL_isP hP he
    rw [phiL_length] at hph
    have hTw : IsP s.length (fun d => sg s (mt d)) := hph.congr (fun d hd => (sg_phi hd).symm)
    rw [ldr_congr hTw hph (fun d hd => (sg_phi hd).symm) _ (Nat.le_refl _)]
    generalize ldr (sg s) s.length = V at *
    generalize ldr (sg (phiL s)) s.length = F at *
    generalize s.length / 2 = E at *
    have h8 : (2 - (V : Int) + (E : Int) - (F : Int)).tdiv 2 = 0 := h2
    apply Classical.byContradiction
    intro hn
    rw [Int.tdiv_eq_ediv_of_nonneg (by omega)] at h8
    omega

set_option maxRecDepth 100000 in
set_option maxHeartbeats 4000000 in
theorem turanBits_any {w : World} {b : Nat} {s : List Nat} {rt : Int} {l : Nat} {R : Nat → Prop} (h : MapAt w b s rt l R) :
    Calls Tryz.prog 68 #[.pointer (some ⟨b, 0, none⟩)] w fun e w' => ∃ c ks, e = .returned (.tuple #[.int .i64 (2 * ks.length : Nat), .int .i64 (c : Nat)]) ∧ EncR s l rt ks c ∧ MapQ w b s rt l R w' := by
  have hE := turanEncode_any h
  have hle := h.le
  clear h
  go_enter Tryz.func68, Tryz.ntmps68
  go_wp2_with fail
  refine hE.mono ?_
  clear hE
  rintro e w1 ⟨p, c, ks, rfl, hE, hq, hc⟩
  have hkl := hE.right.2
  have hk2 : ks.length ≤ 131072 := by omega
  have HQ := Lib.hid (And.intro hE hq)
  rcases hc with ⟨rfl, bw, rfl, v, hv, _⟩ | ⟨hc, rfl⟩
  · have hL := wordLen_any bw v ks w1 hv
    clear hE hq hv hkl hle
    go_wp2_with fail
    refine hL.mono ?_
    rintro e w' ⟨rfl, rfl⟩
    clear hL
    go_wp2
    refine bodyPost_ret (v := .tuple #[.int .i64 (2 * ks.length : Nat), .int .i64 (0 : Nat)]) (by simp [results, Tryz.results68, go_sem]) rfl ?_
    exact ⟨0, ks, rfl, HQ.out⟩
  · have hks : ks = [] := by
      rcases hE with ⟨_, _, h⟩ | ⟨_, _, _, h⟩ | ⟨_, _, h, _⟩ | ⟨_, _, h, _⟩
      · exact h
      · exact h
      · exact absurd h hc
      · exact absurd h hc
    subst hks
    have hL := wordLen_nil w1
    clear hE hq hkl hle hc
    go_wp2_with fail
    refine hL.mono ?_
    rintro e w' ⟨rfl, rfl⟩
    clear hL
    go_wp2
    refine bodyPost_ret (v := .tuple #[.int .i64 (0 : Nat), .int .i64 (c : Nat)]) (by simp [results, Tryz.results68, go_sem]) rfl ?_
    exact ⟨c, [], rfl, HQ.out⟩

/-- A map is made of its turns. -/
theorem new_gen {s : List Nat} {rt : Int} {ln : Nat} {sv : Value} {W : World} (hs : Sl .i64 W sv (nats s)) (hP : IsP s.length (sg s)) (he : s.length % 2 = 0) (hl : s.length ≤ 131072) (hln : ln ≤ 65536) (hrt : (s.length = 0 ∧ rt = -1) ∨ ∃ r : Nat, rt = r ∧ r < s.length) :
    Calls Tryz.prog 63 #[sv, .int .i64 rt, .int .i64 ln] W (MadeMap W s rt ln) := by
  rcases hrt with ⟨h0, rfl⟩ | ⟨r, rfl, hr⟩
  · obtain rfl : s = [] := List.eq_nil_of_length_eq_zero h0
    exact new_none sv ln W hs hln
  · exact new_some sv s r ln W hs hP he hr hl hln

/-- The canonical one of a planar map of one part is its word's. -/
theorem canon_word {w : World} {b : Nat} {s : List Nat} {rt : Int} {ln : Nat} {R : Nat → Prop} {ks : List Nat} (h : MapAt w b s rt ln R) (hE : EncR s ln rt ks 0) :
    Calls Tryz.prog 87 #[.pointer (some ⟨b, 0, none⟩)] w fun e w' => ∃ b2 v R2, e = .returned (.tuple #[.pointer (some ⟨b2, 0, none⟩), v, .int .i64 0]) ∧ MapAt w' b2 (decL ks) (if ks.length = 0 then -1 else 0) (if ks.length = 0 then 1 else 0) R2 ∧ (∃ R', MapAt w' b s rt ln R') ∧ Keeps (fun k => k = b) w w' := by
  obtain ⟨hkl, ⟨h0, rfl⟩ | ⟨hpos, rfl, hc, hpl, r, T, rfl, hT, hks⟩⟩ := hE.full h.isP h.even
  · obtain rfl : s = [] := List.eq_nil_of_length_eq_zero h0
    obtain rfl : ks = [] := List.eq_nil_of_length_eq_zero hkl
    have hr : rt = -1 := by
      rcases h.rt with ⟨_, h1⟩ | ⟨h1, h2⟩
      · exact h1
      · simp at h2; omega
    subst hr
    refine (canon_none h).mono ?_
    rintro e w' ⟨v, rfl, hk⟩
    exact ⟨b, v, R, rfl, h.keeps hk (fun h => h) (fun _ _ h => h), ⟨R, h.keeps hk (fun h => h) (fun _ _ h => h)⟩, hk.mono (fun _ _ h => h.elim)⟩
  · refine (canon_one h hpos hc hpl).mono ?_
    rintro e w' ⟨T', b2, v, rfl, hT', hA, _, ⟨R', hA', _⟩, hk⟩
    obtain rfl := hT'.unique hT
    rw [← hks] at hA
    refine ⟨b2, v, fun x => w.heap.size ≤ x ∧ x < w'.heap.size ∧ x ≠ b2, rfl, ?_, ⟨R', hA'⟩, hk⟩
    rw [if_neg (by omega), if_neg (by omega)]
    exact hA

/-- A map of the document's, in block bx. -/
def GenX (w : World) (bx : Nat) (sv : Value) (s : List Nat) (rt : Int) (ln : Nat) (W : World) : Prop :=
  W.heap[bx]? = some (.cells #[sv, .int .i64 rt, .int .i64 ln] 72 (0, 0)) ∧ OwnI w.heap.size W sv (nats s) ∧ Keeps (fun _ => False) w W ∧ IsP s.length (sg s) ∧ s.length % 2 = 0 ∧ s.length ≤ 200 ∧ ln ≤ 3 ∧ ((s.length = 0 ∧ rt = -1) ∨ ∃ r : Nat, rt = r ∧ r < s.length)


set_option maxRecDepth 100000 in
set_option maxHeartbeats 4000000 in
theorem walkTuranCodes (a0 : Int) (a1 : Option Addr) (len1 cap1 : Nat) (z1 : List Int) (a2 : Int) (a3 : Bool) (a4 : Int) (w : World) (w0 : (Lit.int .u16 a0).wf = true) (w1 : RowIn .u8 w a1 len1 cap1 z1) (w2 : (Lit.int .u8 a2).wf = true) (w4 : (Lit.int .u8 a4).wf = true) :
    Calls Tryz.prog 14 #[.int .u16 a0, .slice a1 len1 cap1, .int .u8 a2, .bool a3, .int .u8 a4] w fun e w' => e = .returned (.bool true) ∧ Below w.heap.size w w' := by
  have hnot : ∀ (x : Bool) (w : World), (Op.unary .not (.bool x)).run Tryz.prog w = .ok (.bool (!x)) w := fun _ _ => rfl
  obtain ⟨p, rfl, hp16⟩ := u16_in w0
  obtain ⟨ps, hp, hps⟩ := w1.bytes
  obtain ⟨root, rfl, hroot⟩ := u8_in w2
  obtain ⟨lo, rfl, hlo⟩ := u8_in w4
  have hP := fun w1 (hk : Keeps (fun _ => False) w w1) => refPlane12_any (.slice a1 len1 cap1) ps (p % 40) root w1 (hp.keeps hk (fun _ _ h => h)) hps (by omega) hroot
  have hA := fun w1 (hk : Keeps (fun _ => False) w w1) => refAny06_any (.slice a1 len1 cap1) ps (p % 8) root w1 (hp.keeps hk (fun _ _ h => h)) hps (by omega) hroot
  have e1 : ((p % 40 : Nat) : Int) = (p : Int) % 40 := by omega
  have e2 : ((p % 8 : Nat) : Int) = (p : Int) % 8 := by omega
  rw [e1] at hP
  rw [e2] at hA
  have HA := Lib.hid hA
  clear w0 w1 w2 w4 hp hps hroot e1 e2 hA
  go_enter Tryz.func14, Tryz.ntmps14
  go_wp2_with fail
  refine (awake12_any _).mono ?_
  rintro e w1 ⟨rfl, hk1⟩
  have HK1 := Lib.hid hk1
  clear hk1
  go_wp2_with fail
  refine (hP _ HK1.out).mono ?_
  rintro e w2 ⟨sv, k0, rfl, hW0, hl0, hsv, hk2⟩
  clear hP
  have hdl := decL_length k0
  obtain ⟨sa0, sc0, hsvf, _, _⟩ := hsv.form
  generalize (nats (decL k0)).length = nl0 at hsvf
  subst hsvf
  obtain ⟨ln, hln, hln3⟩ : ∃ ln : Nat, (if k0.length = 0 then (1 : Int) else 0) = (ln : Int) ∧ ln ≤ 3 := by
    by_cases h : k0.length = 0
    · exact ⟨1, by rw [if_pos h]; rfl, by omega⟩
    · exact ⟨0, by rw [if_neg h]; rfl, by omega⟩
  obtain ⟨rt, hrt⟩ : ∃ rt : Int, rt = if k0.length = 0 then -1 else ((root % k0.length : Nat) : Int) := ⟨_, rfl⟩
  rw [hln, ← hrt]
  have hX0 : GenX w w2.heap.size (.slice sa0 nl0 sc0) (decL k0) rt ln (w2.alloc (.cells #[.slice sa0 nl0 sc0, .int .i64 rt, .int .i64 ln] 72)) := by
    have ka := (Keeps.refl (fun _ => False) w2).alloc (.cells #[.slice sa0 nl0 sc0, .int .i64 rt, .int .i64 ln] 72)
    have s1 := HK1.out.size
    refine ⟨heap_alloc_new w2 _, (hsv.mono (fun k hk => by have := (hsv.lt k hk).1; omega)).alloc _, (HK1.out.trans hk2 (fun _ _ h => h)).trans ka (fun _ _ h => h), hW0.decL_isP, by rw [hdl]; exact hW0.even2, by rw [hdl]; omega, hln3, ?_⟩
    rw [hdl, hrt]
    by_cases h : k0.length = 0
    · exact .inl ⟨h, if_pos h⟩
    · exact .inr ⟨root % k0.length, if_neg h, Nat.mod_lt _ (by omega)⟩
  have HX0 := Lib.hid (And.intro hX0 (HK1.out.trans hk2 (fun _ _ h => h)))
  clear hX0 hk2 hsv hl0 hW0 hln hln3 hrt hdl
  obtain ⟨bx, hbx⟩ : ∃ bx, bx = w2.heap.size := ⟨_, rfl⟩
  have HBX : Hid (w.heap.size ≤ bx) := Lib.hid (by rw [hbx]; exact HX0.out.2.size)
  have HX1 := Lib.hid HX0.out.1
  rw [← hbx] at HX1
  clear HX0
  unfold mapV
  go_upto_if 33 with fail
  rw [← hbx]
  clear hbx
  generalize w2.alloc (.cells #[.slice sa0 nl0 sc0, .int .i64 rt, .int .i64 ln] 72) = w3 at *
  go_cut [] from 33 to 43 (fun wx => ∃ sv s rt ln, GenX w bx sv s rt ln wx)
  case first =>
    cases a3
    · go_wp2
      go_meet
      exact ⟨_, _, _, _, HX1.out⟩
    · obtain ⟨hb3, hs3, hk3, _⟩ := HX1.out
      have HB := Lib.hid (And.intro hb3 hk3)
      clear hb3 hs3 hk3
      go_wp2_with fail
      refine (HA.out _ HB.out.2).mono ?_
      rintro e w4 ⟨sv2, s2, rt2, rfl, ⟨hl2, hP2, hr2⟩, hown2, hk4⟩
      obtain ⟨sa2, sc2, hsvf, _, _⟩ := hown2.form
      generalize (nats s2).length = nl2 at hsvf
      subst hsvf
      have hb4 := hk4.at HB.out.1 (fun h => h)
      have d0 := World.cell_of_heap hb4 0
      have d1 := World.cell_of_heap hb4 1
      have d2 := World.cell_of_heap hb4 2
      have zz := World.free_of_heap hb4
      obtain ⟨r1, r2⟩ := res3 hb4 (.slice sa2 nl2 sc2) (.int .i64 rt2) (.int .i64 0)
      have zy := World.free_of_heap r1
      have r3 := heap_setCell_same r1 2 (.int .i64 (lo % 3 : Nat))
      have r4 := r2.setCell (p := ⟨bx, 2, none⟩) (.inl rfl) (.int .i64 (lo % 3 : Nat))
      have s3 := hk4.size
      have k5 := HB.out.2.trans hk4 (fun _ _ h => h)
      have hob : ∀ q, (Value.slice sa2 nl2 sc2).ownBlock = some q → q ≠ bx := fun q hq => by have := (hown2.lt q hq).1; have := lt_of_block HB.out.1; omega
      have s4 := HB.out.2.size
      have HF : Hid (GenX w bx (.slice sa2 nl2 sc2) s2 rt2 (lo % 3) _) := Lib.hid ⟨r3, (hown2.keeps r4 (fun q hq e => hob q hq e)).mono (fun q hq => by have := (hown2.lt q hq).1; omega), k5.trans r4 (fun x hx e => by have := HBX.out; omega), hP2, by rw [hl2]; omega, by rw [hl2]; omega, by omega, hr2⟩
      clear r3 r4 r1 r2 k5 hob hown2 hk4 hl2 hP2 hr2
      have e3 : ((lo % 3 : Nat) : Int) = (lo : Int) % 3 := by omega
      rw [e3] at HF
      clear e3
      unfold mapV
      go_wp2
      go_meet
      exact ⟨_, _, _, _, HF.out⟩
  case rest =>
    clear HX1 HA
    obtain ⟨sv, s, rt, ln, hb, hs, hk, hPs, hev, hl200, hl3, hrt⟩ := hcut
    have hNw := new_gen (ln := ln) hs.sl hPs hev (by omega) (by omega) hrt
    have c0 := World.cell_of_heap hb 0
    have c1 := World.cell_of_heap hb 1
    have c2 := World.cell_of_heap hb 2
    have HX := Lib.hid (And.intro hb (And.intro hs (And.intro hk (And.intro hPs (And.intro hev (And.intro hl3 (And.intro hrt hl200)))))))
    have hbx3 := lt_of_block hb
    obtain ⟨sa, sc, rfl, _, _⟩ := hs.form
    rw [nats_len] at HX hNw c0
    clear hb hs hk hPs hev hl3 hrt
    go_wp2_with fail
    refine hNw.mono ?_
    rintro e w4 ⟨b, rfl, hA, hb, hk4⟩
    have hEn := turanEncode_any hA
    have HN := Lib.hid (And.intro hk4 (And.intro hb hA.lt))
    clear hNw hA hb hk4
    go_wp2_with fail
    refine hEn.mono ?_
    rintro e w5 ⟨p5, c, ks, rfl, hE, hq, hc⟩
    clear hEn
    have hBt := turanBits_any hq.1
    have HE := Lib.hid (And.intro hE (And.intro hq.2 hc))
    clear hE hq hc
    go_wp2_with fail
    refine hBt.mono ?_
    rintro e w6 ⟨c6, ks6, rfl, hE6, hq6⟩
    obtain ⟨rfl, rfl⟩ := HE.out.1.unique hE6
    have hk36 : Keeps (fun k => k = b) wc w6 := (HN.out.1.mono (fun _ _ h => h.elim)).trans (HE.out.2.1.trans hq6.2 (fun _ _ h => h)) (fun _ _ h => h)
    have hbb := HN.out.2.1
    have hb6 := hk36.at HX.out.1 (by omega)
    have hs6 := HX.out.2.1.keeps hk36 (fun q hq e => by have := (HX.out.2.1.lt q hq).2; omega)
    have hEr := refEncode12_any (.slice sa s.length sc) rt ln s w6 hs6.sl (fun q hq => (hs6.lt q hq).2) HX.out.2.2.2.1 HX.out.2.2.2.2.1 (by omega) (by have := HX.out.2.2.2.2.2.1; omega) (fun hh => by
      rcases HX.out.2.2.2.2.2.2.1 with ⟨h0, _⟩ | h
      · omega
      · exact h)
    have d0 := World.cell_of_heap hb6 0
    have d1 := World.cell_of_heap hb6 1
    have d2 := World.cell_of_heap hb6 2
    obtain ⟨n, hn⟩ : ∃ n : Int, n = ((2 * ks.length : Nat) : Int) := ⟨_, rfl⟩
    rw [← hn]
    have H6 := Lib.hid (And.intro hq6 (And.intro hk36 hn))
    clear hBt hE6 hq6 hk36 hb6 hs6 c0 c1 c2 hn
    go_wp2_with fail
    refine hEr.mono ?_
    rintro e w7 ⟨kv, ks7, c7, rfl, hE7, hkv, hk7⟩
    obtain ⟨rfl, rfl⟩ := HE.out.1.unique hE7
    have hc := HE.out.2.2
    have hk37 : Keeps (fun k => k = b) wc w7 := H6.out.2.1.trans hk7 (fun _ _ h => h.elim)
    have hk67 := hk7
    have HK7 := Lib.hid (And.intro hk37 (And.intro hkv hk67))
    obtain ⟨kva, kvc, hkvf, _, _⟩ := hkv.form
    rw [nats_len] at hkvf
    clear hEr hE7 hkv hk7 d0 d1 d2 hk37 hk67
    rcases hc with ⟨rfl, bw, rfl, v, hv, hbw, hvb, hkw⟩ | ⟨hc, rfl⟩
    rotate_left
    · have hks : ks = [] := by
        rcases HE.out.1 with ⟨_, _, h⟩ | ⟨_, _, _, h⟩ | ⟨_, _, h, _⟩ | ⟨_, _, h, _⟩
        · exact h
        · exact h
        · exact absurd h hc
        · exact absurd h hc
      have hn0 : n = 0 := by rw [H6.out.2.2, hks]; rfl
      subst hn0
      have hc1 : ((c : Int) != 0) = true := by rw [bne_iff_ne]; omega
      have HF : Hid (Below w.heap.size w w7) := Lib.hid ((HX.out.2.2.1.trans HK7.out.1 (fun x hx e => by have := HX.out.2.2.1.size; omega)).below (fun _ _ h => h))
      clear hks hc hkvf
      go_wp2
      go_ret
      exact ⟨rfl, HF.out⟩
    · have hkl := (HE.out.1.full HX.out.2.2.2.1 HX.out.2.2.2.2.1).1
      have hlm := HX.out.2.2.2.2.2.2.2
      have hev := HX.out.2.2.2.2.1
      have hE2 : ∃ E, s.length = 2 * E := ⟨s.length / 2, by omega⟩
      have h4 := HE.out.1.right.1.k4
      have hbb := HN.out.2.2
      have hWA : WordAt w7 bw v ks := (hv.keeps H6.out.1.2 (fun e => by omega) (fun q hq e => by have := hvb q hq; omega)).keeps HK7.out.2.2 (fun h => h) (fun _ _ h => h)
      have HW : Hid (∀ W, Keeps (fun _ => False) w7 W → WordAt W bw v ks) := Lib.hid (fun W hk => hWA.keeps hk (fun h => h) (fun _ _ h => h))
      have hDc := turanDecode_any (.pointer (some ⟨bw, 0, none⟩)) ks w7 h4 (by omega) (fun W kW => indexOf_word bw v ks W (HW.out W kW) h4 (by omega))
      have HL := Lib.hid (And.intro hkl (And.intro hE2 (And.intro h4 hlm)))
      have HB := Lib.hid (And.intro hbw hvb)
      clear hkl hlm hev hE2 h4 hv hbw hvb hkw hWA hbb
      go_wp2_with fail
      refine hDc.mono ?_
      clear hDc
      rintro e w8 (⟨_, _, bm, rfl, hAm, hbm, hk8⟩ | ⟨c8, hc8, rfl, _⟩)
      rotate_left
      · exfalso
        rcases hc8 with ⟨h, _⟩ | ⟨_, h, _⟩
        · exact h HE.out.1.right.1.bal
        · exact h HE.out.1.right.1.canon
      have hA8 := H6.out.1.1.keeps (HK7.out.2.2.trans hk8 (fun _ _ h => h)) (fun h => h) (fun _ _ h => h)
      have hCn := canon_word hA8 HE.out.1
      have H8 := Lib.hid (And.intro hAm (And.intro hbm (And.intro hk8 hA8)))
      clear hAm hbm hk8 hA8
      go_wp2_with fail
      refine hCn.mono ?_
      clear hCn
      rintro e w9 ⟨b2, vp, R2, rfl, hA2, ⟨R9, hA9⟩, hk9⟩
      have hs45 := HE.out.2.1.size
      have hs56 := H6.out.1.2.size
      have hs67 := HK7.out.2.2.size
      have hbb := HN.out.2.2
      have hbm := H8.out.2.1
      have hAm9 := H8.out.1.keeps hk9 (fun e => by omega) (fun x hx e => by omega)
      have hW9 : WordAt w9 bw v ks := (HW.out _ H8.out.2.2.1).keeps hk9 (fun e => by have := HB.out.1; omega) (fun q hq e => by have := HB.out.2 q hq; omega)
      have hS9 : Sl .i64 w9 (.slice kva ks.length kvc) (nats ks) := by
        rw [← hkvf]
        exact (HK7.out.2.1.keeps ((show Keeps (fun k => k = b) w7 w8 from H8.out.2.2.1.mono (fun _ _ h => h.elim)).trans hk9 (fun _ _ h => h)) (fun q hq e => by have := (HK7.out.2.1.lt q hq).1; omega)).sl
      have HEnd : Hid (∀ W, Keeps (fun _ => False) w9 W → Below w.heap.size w W) := by
        have hk39 : Keeps (fun k => k = b) wc w9 := (HK7.out.1.trans H8.out.2.2.1 (fun _ _ h => h.elim)).trans hk9 (fun _ _ h => h)
        refine Lib.hid (fun W hW => ((HX.out.2.2.1.trans hk39 (fun x hx e => by have := HX.out.2.2.1.size; have := HN.out.2.1; omega)).trans hW (fun _ _ h => h)).below (fun _ _ h => h))
      obtain ⟨E, hE2⟩ := HL.out.2.1
      have hkE : (ks.length : Int) = 2 * (E : Int) := by have := HL.out.1; omega
      have hnE : n = 4 * (E : Int) := by rw [H6.out.2.2]; have := HL.out.1; omega
      have hsE : ((s.length / 2 : Nat) : Int) = (E : Int) := by omega
      have hE100 : E ≤ 100 := by have := HL.out.2.2.2; omega
      have h4 := HL.out.2.2.1
      have hl1 := HL.out.1
      have hl2 := HL.out.2.2.2
      have cT1 : Hid (∀ W, Keeps (fun _ => False) w9 W → Calls Tryz.prog 28 #[.pointer (some ⟨bw, 0, none⟩)] W fun e w' => e = .returned (.string ⟨(kbytes ks).toArray⟩) ∧ Keeps (fun _ => False) w9 w') := Lib.hid (fun W hg => by
        refine (wordText_any bw v ks W (hW9.keeps hg (fun h => h) (fun _ _ h => h)) h4 (by omega)).mono ?_
        rintro e w' ⟨rfl, hk⟩
        exact ⟨rfl, hg.trans hk (fun _ _ h => h)⟩)
      have cT2 : Hid (∀ W, Keeps (fun _ => False) w9 W → Calls Tryz.prog 57 #[.slice kva ks.length kvc] W fun e w' => e = .returned (.string ⟨(kbytes ks).toArray⟩) ∧ W = w') := Lib.hid (fun W hg =>
        refText04_any _ ks W (hS9.keeps hg (fun _ _ h => h)) h4 (by omega))
      have cL : Hid (∀ W, Keeps (fun _ => False) w9 W → Calls Tryz.prog 26 #[.pointer (some ⟨bw, 0, none⟩)] W fun e w' => e = .returned (.int .i64 (2 * (E : Int))) ∧ W = w') := Lib.hid (fun W hg => by
        rw [← hkE]
        exact wordLen_any bw v ks W (hW9.keeps hg (fun h => h) (fun _ _ h => h)))
      have cE : Hid (∀ W, Keeps (fun _ => False) w9 W → Calls Tryz.prog 75 #[.pointer (some ⟨b, 0, none⟩)] W fun e w' => e = .returned (.int .i64 (E : Int)) ∧ W = w') := Lib.hid (fun W hg => by
        rw [← hsE]
        exact mapEdges_any (hA9.keeps hg (fun h => h) (fun _ _ h => h)))
      have cB : Hid (∀ W, Keeps (fun _ => False) w9 W → Calls Tryz.prog 29 #[.pointer (some ⟨bw, 0, none⟩)] W fun e w' => ∃ b3 v3, e = .returned (.pointer (some ⟨b3, 0, none⟩)) ∧ VecAt w' b3 v3 (wbits ks) ∧ Keeps (fun _ => False) w9 w') := Lib.hid (fun W hg => by
        refine (wordBits_any bw v ks W (hW9.keeps hg (fun h => h) (fun _ _ h => h)) h4 (by omega)).mono ?_
        rintro e w' ⟨b3, rfl, v3, h1, _, _, hk⟩
        exact ⟨b3, v3, rfl, h1, hg.trans hk (fun _ _ h => h)⟩)
      have cV : Hid (∀ W b3 v3, VecAt W b3 v3 (wbits ks) → Calls Tryz.prog 30 #[.pointer (some ⟨b3, 0, none⟩)] W fun e w' => e = .returned (.int .i64 n) ∧ W = w') := Lib.hid (fun W b3 v3 hg => by
        have e : n = ((wbits ks).length : Int) := by rw [wbits_length]; exact H6.out.2.2
        rw [e]
        exact len_any b3 v3 _ W hg)
      have cS : Hid (∀ W, Keeps (fun _ => False) w9 W → Calls Tryz.prog 88 #[.pointer (some ⟨bm, 0, none⟩), .pointer (some ⟨b2, 0, none⟩)] W fun e w' => e = .returned (.bool true) ∧ Keeps (fun _ => False) w9 w') := Lib.hid (fun W hg => by
        refine (mapSame_eq (hAm9.keeps hg (fun h => h) (fun _ _ h => h)) (hA2.keeps hg (fun h => h) (fun _ _ h => h)) (by rw [decL_length]; omega)).mono ?_
        rintro e w' ⟨rfl, hk⟩
        exact ⟨rfl, hg.trans hk (fun _ _ h => h)⟩)
      have hg0 := (Keeps.refl (fun _ => False) w9)
      have hg1 := hg0.drew
      have hr1 : IntKind.i64.wrap (2 * (E : Int)) = 2 * (E : Int) := IntWalk.i64_in _ (by omega)
      have hr2 : IntKind.i64.wrap (4 * (E : Int)) = n := by rw [hnE]; exact IntWalk.i64_in _ (by omega)
      clear hs45 hs56 hs67 hbb hbm hAm9 hW9 hS9 hA2 hA9 hk9 hkE hsE hl1 hl2 h4 hE2 hkvf hnE
      generalize (⟨(kbytes ks).toArray⟩ : ByteArray) = str at *
      generalize ks.length = N at *
      go_wp2_with fail
      refine (cT1.out _ hg0).mono ?_
      rintro e w10 ⟨rfl, hgA⟩
      go_wp2_with fail
      refine (cT2.out _ hgA).mono ?_
      rintro e w' ⟨rfl, rfl⟩
      go_wp2_with fail
      refine (cL.out _ hgA).mono ?_
      rintro e w' ⟨rfl, rfl⟩
      go_wp2_with fail
      refine (cE.out _ hgA).mono ?_
      rintro e w' ⟨rfl, rfl⟩
      go_wp2_with fail
      refine (cE.out _ hgA).mono ?_
      rintro e w' ⟨rfl, rfl⟩
      go_wp2_with fail
      refine (cB.out _ hgA).mono ?_
      rintro e w11 ⟨b3, v3, rfl, hV, hgB⟩
      go_wp2_with fail
      refine (cV.out _ _ _ hV).mono ?_
      rintro e w' ⟨rfl, rfl⟩
      go_wp2_with fail
      refine (cS.out _ hgB).mono ?_
      rintro e w12 ⟨rfl, hgC⟩
      go_wp2
      go_ret
      exact ⟨rfl, HEnd.out _ hgC⟩

end Go.Proofs.YtipelclohcdkcaaGreat
