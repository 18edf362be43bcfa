/- law13.LookSame: what is asked of the bits is what the map says. -/
import Derived.Test.YtipelclohcdkcaaGreatPsSame2
import Derived.Test.YtipelclohcdkcaaGreatPsAwake
import Derived.Test.YtipelclohcdkcaaGreatPsLaw12a
namespace Go.Proofs.YtipelclohcdkcaaGreat
open Go.RowKit

/-- How many darts the vertex of a place has. -/
noncomputable def dgK (ks : List Nat) (i : Nat) : Nat := ((List.range (decL ks).length).filter fun d => vnum (sg (decL ks)) d == vnum (sg (decL ks)) (nmD ks i)).length

section
variable {w : World} {ks : List Nat} {bl b bo : Nat} {bi bp : Nat → Nat} {bm : Nat} {rt ln : Int} {gN : Nat} {vO : Value} {ol : List Nat} {bw : Nat} {vW : Value} {q n : Nat} {wr : World}

/-- A Look and a map, whatever they have grown to. -/
def SamS (w : World) (ks : List Nat) (bl b bo : Nat) (bi bp : Nat → Nat) (bm : Nat) (rt ln : Int) (gN : Nat) (vO : Value) (ol : List Nat) (bw : Nat) (vW : Value) (q n : Nat) (wr : World) : Prop := ∃ F R, SamF w ks bl b bo bi bp bm rt ln gN vO ol bw vW q n F R wr

theorem SamS.more (h : SamS w ks bl b bo bi bp bm rt ln gN vO ol bw vW q n wr) {q' : Nat} (hq : q ≤ q') : SamS w ks bl b bo bi bp bm rt ln gN vO ol bw vW q' n wr := by
  obtain ⟨F, R, h⟩ := h
  exact ⟨F, R, ⟨⟨h.lk.own, h.lk.mix.more hq, h.lk.sep⟩, h.mp, h.fr, h.rr, h.ne, h.ap, h.nm, h.od, h.wd, h.kee⟩⟩

theorem SamS.next (h : SamS w ks bl b bo bi bp bm rt ln gN vO ol bw vW q n wr) (hn : n ≤ 1000000) (hq : q ≤ 5000000) (hw : Wd ks) {i : Nat} (hi : i < ks.length) (hL : ks.length ≤ 1000) :
    Calls Tryz.prog 47 #[.pointer (some ⟨bl, 0, none⟩), .int .i64 i] wr fun e w' => e = .returned (.tuple #[.int .i64 (tn ks i : Nat), .int .i64 0]) ∧ SamS w ks bl b bo bi bp bm rt ln gN vO ol bw vW (q + 4) (n + 1) w' := by
  obtain ⟨F, R, h⟩ := h
  refine (lookNextQ_any h.lk hn hq hw i (by omega)).mono ?_
  rintro e w' ⟨⟨z, c, rfl, ⟨rfl, j, hj, _, rfl⟩ | ⟨_, _, ho⟩⟩, hQ⟩
  · obtain rfl : i = j := by omega
    exact ⟨rfl, _, _, h.look hQ⟩
  · omega

theorem SamS.along (h : SamS w ks bl b bo bi bp bm rt ln gN vO ol bw vW q n wr) (hn : n ≤ 1000000) (hq : q ≤ 5000000) (hw : Wd ks) {i : Nat} (hi : i < ks.length) (hL : ks.length ≤ 1000) :
    Calls Tryz.prog 49 #[.pointer (some ⟨bl, 0, none⟩), .int .i64 i] wr fun e w' => e = .returned (.tuple #[.int .i64 (tn ks (mp ks i) : Nat), .int .i64 0]) ∧ SamS w ks bl b bo bi bp bm rt ln gN vO ol bw vW (q + 8) (n + 1) w' := by
  obtain ⟨F, R, h⟩ := h
  refine (lookAlongQ_any h.lk hn hq hw i (by omega)).mono ?_
  rintro e w' ⟨⟨z, c, rfl, ⟨rfl, j, hj, _, rfl⟩ | ⟨_, _, ho⟩⟩, hQ⟩
  · obtain rfl : i = j := by omega
    exact ⟨rfl, _, _, h.look hQ⟩
  · omega

theorem SamS.vertex (h : SamS w ks bl b bo bi bp bm rt ln gN vO ol bw vW q n wr) (hn : n ≤ 1000000) (hq : q ≤ 5000000) (hw : Wd ks) {i : Nat} (hi : i < ks.length) (hL : ks.length ≤ 1000) :
    Calls Tryz.prog 50 #[.pointer (some ⟨bl, 0, none⟩), .int .i64 i] wr fun e w' => e = .returned (.tuple #[.int .i64 (vx ks i : Nat), .int .i64 0]) ∧ SamS w ks bl b bo bi bp bm rt ln gN vO ol bw vW (q + 9) (n + 1) w' := by
  obtain ⟨F, R, h⟩ := h
  refine (lookVertexQ_any h.lk hn hq hw i (by omega)).mono ?_
  rintro e w' ⟨⟨z, c, rfl, ⟨rfl, j, hj, _, rfl⟩ | ⟨_, _, ho⟩⟩, hQ⟩
  · obtain rfl : i = j := by omega
    exact ⟨rfl, _, _, h.look hQ⟩
  · omega

theorem vx_nvK (hw : Wd ks) {i : Nat} (hi : i < ks.length) : vx ks i < nvK ks := by
  have := hw.vx_lt (j := ks.length) (p := i) (by omega) (Nat.le_refl _)
  rw [List.take_of_length_le (Nat.le_refl _)] at this
  exact this

theorem SamS.degree (h : SamS w ks bl b bo bi bp bm rt ln gN vO ol bw vW q n wr) (hn : n ≤ 1000000) (hq : q ≤ 5000000) (hw : Wd ks) {i : Nat} (hi : i < ks.length) (hL : ks.length ≤ 1000) :
    Calls Tryz.prog 39 #[.pointer (some ⟨bl, 0, none⟩), .int .i64 (vx ks i : Nat)] wr fun e w' => e = .returned (.tuple #[.int .i64 (dgK ks i : Nat), .int .i64 0]) ∧ SamS w ks bl b bo bi bp bm rt ln gN vO ol bw vW (q + 10 * ks.length + 10) (n + 1) w' := by
  obtain ⟨F, R, h⟩ := h
  obtain ⟨f, hf, hfn⟩ := first_ex hw (by omega) (vx_nvK hw hi)
  have hd : dgK ks i = per (tn ks) f := hw.deg_count hi hf hfn
  rw [hd]
  refine (lookDegree_in h.lk hn hq hw hL _ f (vx_nvK hw hi) hf hfn).mono ?_
  rintro e w' ⟨rfl, hQ⟩
  exact ⟨rfl, _, _, h.look hQ⟩

theorem SamS.sigma (h : SamS w ks bl b bo bi bp bm rt ln gN vO ol bw vW q n wr) (hw : Wd ks) {i : Nat} (hi : i < ks.length) :
    Calls Tryz.prog 91 #[.pointer (some ⟨bm, 0, none⟩), .int .i64 (nmD ks i : Nat)] wr fun e w' => e = .returned (.int .i64 (nmD ks (tn ks i) : Nat)) ∧ SamS w ks bl b bo bi bp bm rt ln gN vO ol bw vW q n w' := by
  obtain ⟨F, R, h⟩ := h
  rw [← hw.dec_nm hi]
  refine (mapSigma_in h.mp _ (by rw [decL_length]; exact hw.nm_lt hi)).mono ?_
  rintro e w' ⟨rfl, rfl⟩
  exact ⟨rfl, _, _, h⟩

theorem SamS.phi (h : SamS w ks bl b bo bi bp bm rt ln gN vO ol bw vW q n wr) (hw : Wd ks) {i : Nat} (hi : i < ks.length) :
    Calls Tryz.prog 92 #[.pointer (some ⟨bm, 0, none⟩), .int .i64 (nmD ks i : Nat)] wr fun e w' => e = .returned (.int .i64 (nmD ks (tn ks (mp ks i)) : Nat)) ∧ SamS w ks bl b bo bi bp bm rt ln gN vO ol bw vW q n w' := by
  obtain ⟨F, R, h⟩ := h
  rw [← hw.dec_nm (hw.mp_lt hi), hw.nm_mate hi]
  refine (mapPhi_in h.mp _ (by rw [decL_length]; exact hw.nm_lt hi)).mono ?_
  rintro e w' ⟨rfl, rfl⟩
  exact ⟨rfl, _, _, h⟩

theorem SamS.vert (h : SamS w ks bl b bo bi bp bm rt ln gN vO ol bw vW q n wr) (hw : Wd ks) {i : Nat} (hi : i < ks.length) :
    Calls Tryz.prog 78 #[.pointer (some ⟨bm, 0, none⟩), .int .i64 (nmD ks i : Nat)] wr fun e w' => e = .returned (.int .i64 (vnum (sg (decL ks)) (nmD ks i) : Nat)) ∧ SamS w ks bl b bo bi bp bm rt ln gN vO ol bw vW q n w' := by
  obtain ⟨F, R, h⟩ := h
  refine (mapVertex_in h.mp _ (by rw [decL_length]; exact hw.nm_lt hi)).mono ?_
  rintro e w' ⟨rfl, hq⟩
  exact ⟨rfl, _, _, h.map hq⟩

theorem SamS.deg (h : SamS w ks bl b bo bi bp bm rt ln gN vO ol bw vW q n wr) (hw : Wd ks) {i : Nat} (hi : i < ks.length) :
    Calls Tryz.prog 77 #[.pointer (some ⟨bm, 0, none⟩), .int .i64 (vnum (sg (decL ks)) (nmD ks i) : Nat)] wr fun e w' => e = .returned (.int .i64 (dgK ks i : Nat)) ∧ SamS w ks bl b bo bi bp bm rt ln gN vO ol bw vW q n w' := by
  obtain ⟨F, R, h⟩ := h
  have hlt : vnum (sg (decL ks)) (nmD ks i) < ldr (sg (decL ks)) (decL ks).length := by
    have hP := hw.decS
    have h1 : nmD ks i < ks.length := hw.nm_lt hi
    have := hP.vnum_lt h1
    rwa [decL_length]
  refine (mapDegree_in h.mp _ hlt).mono ?_
  rintro e w' ⟨rfl, hq⟩
  exact ⟨rfl, _, _, h.map hq⟩

theorem slCell {W : World} {g L c : Nat} {l : List Nat} {i x : Nat} (h : Sl .i64 W (.slice (some ⟨g, 0, none⟩) L c) (nats l)) (hx : l[i]? = some x) : W.cell? ⟨g, i, none⟩ = some (.int .i64 x) := by
  obtain ⟨a', cap', hsv', _, _, _, hc⟩ := h
  simp only [Value.slice.injEq] at hsv'
  obtain ⟨rfl, -, rfl⟩ := hsv'
  obtain ⟨g', off, he, hcell⟩ := hc i _ (nats_get hx)
  simp only [Option.some.injEq, Addr.mk.injEq, and_true] at he
  obtain ⟨rfl, rfl⟩ := he
  simpa using hcell

theorem SamS.verts (h : SamS w ks bl b bo bi bp bm rt ln gN vO ol bw vW q n wr) (hq : q ≤ 5000000) :
    Calls Tryz.prog 41 #[.pointer (some ⟨bl, 0, none⟩)] wr fun e w' => e = .returned (.int .i64 (nvK ks : Nat)) ∧ SamS w ks bl b bo bi bp bm rt ln gN vO ol bw vW (q + 2) n w' := by
  obtain ⟨F, R, h⟩ := h
  refine (lookVertices_any h.lk.mix.old h.lk.mix.after h.lk.own h.lk.sep (by omega)).mono ?_
  rintro e w' ⟨rfl, hQ⟩
  exact ⟨rfl, _, _, h.look (h.lk.ask hQ)⟩

theorem SamS.mverts {ln : Nat} (h : SamS w ks bl b bo bi bp bm rt (ln : Int) gN vO ol bw vW q n wr) (hw : Wd ks) (hln : ln = if ks.length = 0 then 1 else 0) :
    Calls Tryz.prog 76 #[.pointer (some ⟨bm, 0, none⟩)] wr fun e w' => e = .returned (.int .i64 (nvK ks : Nat)) ∧ SamS w ks bl b bo bi bp bm rt ln gN vO ol bw vW q n w' := by
  obtain ⟨F, R, h⟩ := h
  have hv := hw.dec_verts
  have he : ((ldr (sg (decL ks)) (decL ks).length : Nat) : Int) + (ln : Int) = (nvK ks : Nat) := by
    rw [decL_length, hln]
    unfold nvK
    rw [Int.natCast_add, Int.natCast_one, ← hv]
    split <;> rfl
  rw [← he]
  refine (mapVertices_any h.mp).mono ?_
  rintro e w' ⟨rfl, hq⟩
  exact ⟨rfl, _, _, h.map hq⟩

theorem SamS.size (h : SamS w ks bl b bo bi bp bm rt ln gN vO ol bw vW q n wr) (hL : ks.length ≤ 1000) :
    Calls Tryz.prog 56 #[.pointer (some ⟨bl, 0, none⟩)] wr fun e w' => ∃ z : Nat, e = .returned (.int .i64 z) ∧ z ≤ 4096 ∧ SamS w ks bl b bo bi bp bm rt ln gN vO ol bw vW q n w' := by
  obtain ⟨F, R, h⟩ := h
  refine (lookSize_few h.lk (by omega)).mono ?_
  rintro e w' ⟨z, rfl, hz, hk⟩
  exact ⟨z, rfl, hz, _, _, h.still hk⟩

theorem SamS.cells (h : SamS w ks bl b bo bi bp bm rt ln gN vO ol bw vW q n wr) : Sl .i64 wr (.slice (some ⟨gN, 0, none⟩) ks.length ks.length) (nats (nmL ks)) ∧ Sl .i64 wr vO (nats ol) ∧ Keeps (fun _ => False) w wr ∧ WordAt wr bw vW ks := by
  obtain ⟨F, R, h⟩ := h
  exact ⟨h.nm, h.od, h.kee, h.wd⟩
end


set_option maxRecDepth 100000 in
set_option maxHeartbeats 8000000 in
theorem walkLookSame (a0 : Int) (a1 : Option Addr) (len1 cap1 : Nat) (z1 : List Int) (a2 a3 : Int) (w : World) (w0 : (Lit.int .u16 a0).wf = true) (w1 : RowIn .u8 w a1 len1 cap1 z1) (w2 : (Lit.int .u8 a2).wf = true) (w3 : (Lit.int .u8 a3).wf = true) :
    Calls Tryz.prog 15 #[.int .u16 a0, .slice a1 len1 cap1, .int .u8 a2, .int .u8 a3] w fun e w' => e = .returned (.bool true) ∧ Below w.heap.size w w' := by
  have hnot : ∀ (x : Bool) (w : World), (Op.unary .not (.bool x)).run Tryz.prog w = .ok (.bool (!x)) w := fun _ _ => rfl
  obtain ⟨p, rfl, hp16⟩ := u16_in w0
  obtain ⟨ps, hp, hps⟩ := w1.bytes
  obtain ⟨root, rfl, hroot⟩ := u8_in w2
  obtain ⟨st, rfl, hst⟩ := u8_in w3
  have hP := fun w1 (hk : Keeps (fun _ => False) w w1) => refPlane12_any (.slice a1 len1 cap1) ps (p % 100) root w1 (hp.keeps hk (fun _ _ h => h)) hps (by omega) hroot
  have e1 : ((p % 100 : Nat) : Int) = (p : Int) % 100 := by omega
  rw [e1] at hP
  clear w0 w1 w2 w3 hp hps hroot e1
  go_enter Tryz.func15, Tryz.ntmps15
  go_wp2_with fail
  refine (awake13_any _).mono ?_
  rintro e w1 ⟨rfl, hk1⟩
  have HK1 := Lib.hid hk1
  clear hk1
  go_wp2_with fail
  refine (hP _ HK1.out).mono ?_
  rintro e w2 ⟨sv, k0, rfl, hW0, hl0, hsv, hk2⟩
  clear hP
  have hdl := decL_length k0
  obtain ⟨sa0, sc0, hsvf, _, _⟩ := hsv.form
  generalize (nats (decL k0)).length = nl0 at hsvf
  subst hsvf
  obtain ⟨ln, hln, hln2⟩ : ∃ ln : Nat, (if k0.length = 0 then (1 : Int) else 0) = (ln : Int) ∧ ln = if k0.length = 0 then 1 else 0 := by
    by_cases h : k0.length = 0
    · exact ⟨1, by rw [if_pos h]; rfl, by rw [if_pos h]⟩
    · exact ⟨0, by rw [if_neg h]; rfl, by rw [if_neg h]⟩
  obtain ⟨rt, hrt⟩ : ∃ rt : Int, rt = if k0.length = 0 then -1 else ((root % k0.length : Nat) : Int) := ⟨_, rfl⟩
  rw [hln, ← hrt]
  have ka := (Keeps.refl (fun _ => False) w2).alloc (.cells #[.slice sa0 nl0 sc0, .int .i64 rt, .int .i64 ln] 72)
  have hsv2 := hsv.keeps ka (fun _ _ h => h)
  have hNw := new_plane hW0 (by omega) ⟨root, hrt⟩ hln2 hsv2.sl
  have H2 := Lib.hid (And.intro ((HK1.out.trans hk2 (fun _ _ h => h)).trans ka (fun _ _ h => h)) (And.intro hW0 (And.intro hln2 (And.intro hl0 hdl))))
  have hl1 : k0.length ≤ 198 := by omega
  clear hk2 hsv hsv2 ka hl0 hW0 hln hln2 hrt hdl
  unfold mapV
  go_wp2_with fail
  refine hNw.mono ?_
  rintro e w4 ⟨b0, rfl, hA, hb0, hk4⟩
  have hEn := turanEncode_any hA
  have H4 := Lib.hid (And.intro (H2.out.1.trans hk4 (fun _ _ h => h)) (And.intro hb0 hA.lt))
  clear hNw hA hb0 hk4
  go_wp2_with fail
  refine hEn.mono ?_
  rintro e w5 ⟨p5, c, ks, rfl, hE, hq, hc⟩
  clear hEn
  obtain rfl := H2.out.2.1.enc_zero H2.out.2.2.1 hE
  rcases hc with ⟨_, bw, rfl, vW, hv, hbw, hvb, hkw⟩ | ⟨hc, _⟩
  rotate_left
  · exact absurd rfl hc
  have hR := hE.right.1
  have hkl : ks.length ≤ 198 := by have := hE.right.2; rw [H2.out.2.2.2.2] at this; omega
  have hW := hR.wd
  have hC := hR.canon
  have h4 := hR.k4
  have hBt := wordBits_any bw vW ks w5 hv h4 (by omega)
  have hs45 := hkw.size
  have hk05 : Keeps (fun _ => False) w w5 := H4.out.1.trans hkw (fun x hx e => by have := H4.out.2.1; have := H2.out.1.size; omega)
  have H5 := Lib.hid (And.intro hv (And.intro (show ∀ x, (x = bw ∨ vW.ownBlock = some x) → x < w5.heap.size from fun x hx => by
    rcases hx with hx | hx
    · rw [hx]; exact hv.lt
    · exact (hv.apart x hx).2) hk05))
  have HR := Lib.hid (And.intro hW (And.intro hC h4))
  clear hE hq hv hbw hvb hkw hR hW hC h4 hs45 hk05
  go_wp2_with fail
  refine hBt.mono ?_
  rintro e w6 ⟨b6, rfl, v6, hv6, hb6, hvb6, hk6⟩
  clear hBt
  have hMo := mixOf_even b6 v6 (wbits ks) w6 hv6 (by rw [wbits_length]; omega) (by rw [wbits_length]; omega)
  rw [pairK_wbits ks HR.out.2.2] at hMo
  have hLk := lookOf_any (.pointer (some ⟨b6, 0, none⟩)) ks w6 HR.out.2.2 (by omega) hMo
  have H6 := Lib.hid hk6
  clear hv6 hb6 hvb6 hk6 hMo
  go_wp2_with fail
  refine hLk.mono ?_
  clear hLk
  rintro e w7 (⟨_, _, bl, bo1, bo, bi, bp, F, rfl, hLB, hMP, hFbl, hF6, hbl6, hk7⟩ | ⟨c7, hc7, _⟩)
  rotate_left
  · exfalso
    rcases hc7 with ⟨h, _⟩ | ⟨_, h, _⟩
    · exact h HR.out.1.bal
    · exact h HR.out.2.1
  have hW7 : ∀ W, Keeps (fun _ => False) w7 W → WordAt W bw vW ks := fun W hk => (H5.out.1.keeps (H6.out.trans (hk7.trans hk (fun _ _ h => h)) (fun _ _ h => h)) (fun h => h) (fun _ _ h => h))
  have hDc := turanDecode_any (.pointer (some ⟨bw, 0, none⟩)) ks w7 HR.out.2.2 (by omega) (fun W kW => indexOf_word bw vW ks W (hW7 W kW) HR.out.2.2 (by omega))
  have HW7 := Lib.hid hW7
  have hbl7 := lt_of_block hLB
  have hLS : LookS w7 bl bo1 bo bi bp ks 0 F 0 := ⟨hLB, hMP, hFbl⟩
  have H7 := Lib.hid (And.intro hLS (And.intro hF6 (And.intro hbl6 hk7)))
  clear hLB hMP hFbl hF6 hbl6 hk7 hW7 hLS
  go_wp2_with fail
  refine hDc.mono ?_
  clear hDc
  rintro e w8 (⟨_, _, bm, rfl, hAm, hbm, hk8⟩ | ⟨c8, hc8, rfl, _⟩)
  rotate_left
  · exfalso
    rcases hc8 with ⟨h, _⟩ | ⟨_, h, _⟩
    · exact h HR.out.1.bal
    · exact h HR.out.2.1
  have hNm := turanNames_any (.pointer (some ⟨bw, 0, none⟩)) ks w8 HR.out.2.2 (by omega) (fun W kW => indexOf_word bw vW ks W (HW7.out W (hk8.trans kW (fun _ _ h => h))) HR.out.2.2 (by omega))
  have H8 := Lib.hid (And.intro hAm (And.intro hbm hk8))
  clear hAm hbm hk8
  go_wp2_with fail
  refine hNm.mono ?_
  clear hNm
  rintro e w9 (⟨_, _, gN, rfl, hgN, hk9⟩ | ⟨c9, hc9, rfl, _⟩)
  rotate_left
  · exfalso
    rcases hc9 with ⟨h, _⟩ | ⟨_, h, _⟩
    · exact h HR.out.1.bal
    · exact h HR.out.2.1
  have hA9 := H8.out.1.keeps hk9 (fun h => h) (fun _ _ h => h)
  obtain ⟨rm, hrm⟩ : ∃ rm : Int, rm = if ks.length = 0 then -1 else 0 := ⟨_, rfl⟩
  obtain ⟨lm, hlm, hlm2⟩ : ∃ lm : Nat, (if ks.length = 0 then (1 : Int) else 0) = (lm : Int) ∧ lm = if ks.length = 0 then 1 else 0 := by
    by_cases h : ks.length = 0
    · exact ⟨1, by rw [if_pos h]; rfl, by rw [if_pos h]⟩
    · exact ⟨0, by rw [if_neg h]; rfl, by rw [if_neg h]⟩
  rw [hlm] at hA9
  have hRo := mapRoot_any hA9
  have hOf := walkOf_word hA9 HR.out.1 HR.out.2.1
  rw [← hrm] at hRo hOf
  have H9 := Lib.hid (And.intro hgN (And.intro hk9 (And.intro hA9 (And.intro hrm hlm2))))
  clear hgN hk9 hA9 hrm hlm hlm2
  go_wp2_with fail
  refine hRo.mono ?_
  rintro e w' ⟨rfl, rfl⟩
  clear hRo
  go_wp2_with fail
  refine hOf.mono ?_
  clear hOf
  rintro e w10 ⟨ov, c10, rfl, hO2, hq10⟩
  have hbm9 := H9.out.2.2.1.lt
  have hOr := walkOrder_any hq10.1 hO2 (fun p hp => by
    obtain ⟨i, hi, rfl⟩ := List.mem_map.1 hp
    rw [decL_length]
    exact HR.out.1.nm_lt (List.mem_range.1 hi)) (by rw [stepsL_length]; omega) (fun q hq => by have := (hO2.lt q hq).1; omega)
  have H10 := Lib.hid hq10
  clear hO2 hq10
  go_wp2_with fail
  refine hOr.mono ?_
  clear hOr
  rintro e w11 ⟨vO, R, rfl, hvO, hA11, hR11, hvR, hk11⟩
  have hSam : SamS w ks bl bo1 bo bi bp bm rm lm gN vO (ordL (sg (decL ks)) (stepsL ks)) bw vW 0 0 w11 := by
    have s05 := H5.out.2.2.size
    have s56 := H6.out.size
    have s67 := H7.out.2.2.2.size
    have s78 := H8.out.2.2.size
    have s89 := H9.out.2.1.size
    have s90 := H10.out.2.size
    have s01 := hk11.size
    have hbm8 := H8.out.1.lt
    have hbm7 := H8.out.2.1
    have hbl6 := H7.out.2.2.1
    have k79 : Keeps (fun k => k = bm) w7 w9 := (H8.out.2.2.trans H9.out.2.1 (fun _ _ h => h)).mono (fun _ _ h => h.elim)
    have k7 : Keeps (fun k => k = bm) w7 w11 := (k79.trans H10.out.2 (fun _ _ h => h)).trans hk11 (fun _ _ h => h)
    have k9 : Keeps (fun k => k = bm) w9 w11 := H10.out.2.trans hk11 (fun _ _ h => h)
    have hRlo : ∀ x, R x → w7.heap.size ≤ x ∧ (x < w8.heap.size ∨ w9.heap.size ≤ x) := fun x hx => by
      rcases hR11 x hx with e | e
      · rcases e with ⟨e1, e2, _⟩ | e
        · exact ⟨e1, .inl e2⟩
        · exact ⟨by omega, .inr (by omega)⟩
      · exact ⟨by omega, .inr (by omega)⟩
    have hFhi := H7.out.1.mix.old
    refine ⟨F, R, ⟨H7.out.1.keeps k7 (fun x hx e => ?_), hA11, fun x hx => ?_, fun x hx => ?_, ⟨by omega, by omega, by omega⟩, fun x hx => ?_, ?_, hvO.sl, ?_, ?_⟩⟩
    · rcases hx with hx | hx
      · have := hFhi x hx; omega
      · omega
    · have h1 := hFhi x hx
      have h2 := H7.out.2.1 x hx
      exact ⟨fun e => by have := (hRlo x e).1; omega, by omega, by omega⟩
    · have := hRlo x hx
      exact ⟨by omega, by omega⟩
    · rcases hx with rfl | hx | hx
      · have hg := H9.out.1.lt x rfl
        exact ⟨fun e => by have := hFhi x e; omega, fun e => by have := hRlo x e; omega, by omega, by omega, by omega⟩
      · have hg := hvO.lt x hx
        exact ⟨fun e => by have := hFhi x e; omega, hvR x hx, by omega, by omega, by omega⟩
      · have hg := H5.out.2.1 x hx
        exact ⟨fun e => by have := H7.out.2.1 x e; omega, fun e => by have := hRlo x e; omega, by omega, by omega, by omega⟩
    · exact (H9.out.1.keeps k9 (fun q hq e => by have := own_gN hq; have := H9.out.1.lt q hq; omega)).sl
    · exact (HW7.out w7 (Keeps.refl _ _)).keeps k7 (fun e => by have := H5.out.2.1 bw (.inl rfl); omega) (fun x hx e => by have := H5.out.2.1 x (.inr hx); omega)
    · exact (((H5.out.2.2.trans H6.out (fun _ _ h => h)).trans H7.out.2.2.2 (fun _ _ h => h)).trans k7 (fun x hx e => by omega))
  have hlm := H9.out.2.2.2.2
  have hord : ∀ i, i < ks.length → (ordL (sg (decL ks)) (stepsL ks))[vx ks i]? = some (vnum (sg (decL ks)) (nmD ks i)) := fun i hi => HR.out.1.ord_get hi
  obtain ⟨aO, cO, hvf, _, _⟩ := hvO.form
  generalize (nats (ordL (sg (decL ks)) (stepsL ks))).length = lO at hvf
  subst hvf
  have HORD := Lib.hid (And.intro hord hlm)
  have HW := Lib.hid HR.out.1
  have HSam := Lib.hid hSam
  clear hord hlm hvO hA11 hR11 hvR hk11 hSam H10 H9 H8 H7 H6 H5 H4 H2 HK1 HW7 HR hbm9 hbl7
  generalize ordL (sg (decL ks)) (stepsL ks) = ol at *
  generalize hN : ks.length = N at *
  have HN := Lib.hid hN
  clear hN
  have hstm : st % 9 < 9 := Nat.mod_lt _ (by omega)
  go_wp2_with fail
  go_loopg [23] N (fun m iv wr => ∃ j q n : Nat, j ≤ N + 9 ∧ m = N - j ∧ iv = .int .i64 j ∧ q ≤ 2100 * j ∧ n ≤ 4 * j ∧ SamS w ks bl bo1 bo bi bp bm rm lm gN (.slice aO lO cO) ol bw vW q n wr)
  case atStart => exact ⟨0, 0, 0, by omega, rfl, rfl, by omega, by omega, HSam.out⟩
  case round =>
    clear HSam
    obtain ⟨j, q, n, hj, hgk, rfl, hq, hn, hS⟩ := hrel
    have HG := Lib.hid hgk
    clear hgk
    by_cases hlt : j < N
    · have hjl : j < ks.length := by rw [HN.out]; exact hlt
      have hL : ks.length ≤ 1000 := by rw [HN.out]; omega
      have hnm : ∀ i, i < ks.length → (nmL ks)[i]? = some (nmD ks i) := fun i hi => by unfold nmL; rw [List.getElem?_map, List.getElem?_range hi]; rfl
      have hS1 := hS.cells.1
      rw [HN.out] at hS1
      have hc0 := slCell hS1 (hnm j hjl)
      have hNx := hS.next (by omega) (by omega) HW.out hjl hL
      have HJ := Lib.hid (And.intro hjl (And.intro hL hnm))
      obtain ⟨d, hd⟩ : ∃ d, d = nmD ks j := ⟨_, rfl⟩
      rw [← hd] at hc0
      have HD := Lib.hid hd
      clear hS hjl hL hnm hS1 hd
      go_wp2_with fail
      refine hNx.mono ?_
      clear hNx
      rintro e wa ⟨rfl, hSa⟩
      have hAl := hSa.along (by omega) (by omega) HW.out HJ.out.1 HJ.out.2.1
      clear hSa hc0
      go_wp2_with fail
      refine hAl.mono ?_
      clear hAl
      rintro e wb ⟨rfl, hSb⟩
      have hVx := hSb.vertex (by omega) (by omega) HW.out HJ.out.1 HJ.out.2.1
      clear hSb
      go_wp2_with fail
      refine hVx.mono ?_
      clear hVx
      rintro e wc ⟨rfl, hSc⟩
      have hDg := hSc.degree (by omega) (by omega) HW.out HJ.out.1 HJ.out.2.1
      clear hSc
      go_wp2_with fail
      refine hDg.mono ?_
      clear hDg
      rintro e wd ⟨rfl, hSd⟩
      have hSd := hSd.more (q' := 2100 * (j + 1)) (by rw [HN.out]; omega)
      obtain ⟨G, hG⟩ : ∃ G : World → Prop, G = SamS w ks bl bo1 bo bi bp bm rm lm gN (.slice aO lO cO) ol bw vW (2100 * (j + 1)) (n + 1 + 1 + 1 + 1) := ⟨_, rfl⟩
      have hg0 : G wd := by rw [hG]; exact hSd
      have hg1 : G wd.drew := by
        rw [hG]
        obtain ⟨F, R, h⟩ := hSd
        exact ⟨F, R, h.still (Keeps.refl (fun _ => False) wd).drew⟩
      have kS : Hid (∀ W, G W → Calls Tryz.prog 91 #[.pointer (some ⟨bm, 0, none⟩), .int .i64 d] W fun e w' => e = .returned (.int .i64 (nmD ks (tn ks j) : Nat)) ∧ G w') := Lib.hid (fun W hg => by rw [hG] at hg ⊢; rw [HD.out]; exact hg.sigma HW.out HJ.out.1)
      have kP : Hid (∀ W, G W → Calls Tryz.prog 92 #[.pointer (some ⟨bm, 0, none⟩), .int .i64 d] W fun e w' => e = .returned (.int .i64 (nmD ks (tn ks (mp ks j)) : Nat)) ∧ G w') := Lib.hid (fun W hg => by rw [hG] at hg ⊢; rw [HD.out]; exact hg.phi HW.out HJ.out.1)
      have kV : Hid (∀ W, G W → Calls Tryz.prog 78 #[.pointer (some ⟨bm, 0, none⟩), .int .i64 d] W fun e w' => e = .returned (.int .i64 (vnum (sg (decL ks)) (nmD ks j) : Nat)) ∧ G w') := Lib.hid (fun W hg => by rw [hG] at hg ⊢; rw [HD.out]; exact hg.vert HW.out HJ.out.1)
      have kD : Hid (∀ W, G W → Calls Tryz.prog 77 #[.pointer (some ⟨bm, 0, none⟩), .int .i64 (vnum (sg (decL ks)) (nmD ks j) : Nat)] W fun e w' => e = .returned (.int .i64 (dgK ks j : Nat)) ∧ G w') := Lib.hid (fun W hg => by rw [hG] at hg ⊢; exact hg.deg HW.out HJ.out.1)
      have ha : tn ks j < ks.length := HW.out.tn_isP.lt _ HJ.out.1
      have hb : tn ks (mp ks j) < ks.length := HW.out.tn_isP.lt _ (HW.out.mp_lt HJ.out.1)
      obtain ⟨gO, oO, rfl, _⟩ := hSd.cells.2.1.cellAt (nats_get (HORD.out.1 j hlt))
      have HC : Hid (∀ W, G W → W.cell? ⟨gN, tn ks j, none⟩ = some (.int .i64 (nmD ks (tn ks j) : Nat)) ∧ W.cell? ⟨gN, tn ks (mp ks j), none⟩ = some (.int .i64 (nmD ks (tn ks (mp ks j)) : Nat)) ∧ W.cell? ⟨gO, oO + vx ks j, none⟩ = some (.int .i64 (vnum (sg (decL ks)) (nmD ks j) : Nat))) := Lib.hid (fun W hg => by
        rw [hG] at hg
        obtain ⟨h1, h2, _⟩ := hg.cells
        obtain ⟨g3, o3, he, h3⟩ := h2.cellAt (nats_get (HORD.out.1 j hlt))
        simp only [Option.some.injEq, Addr.mk.injEq, and_true] at he
        obtain ⟨rfl, rfl⟩ := he
        exact ⟨slCell h1 (HJ.out.2.2 _ ha), slCell h1 (HJ.out.2.2 _ hb), h3⟩)
      have hlO : lO = (nats ol).length := by
        obtain ⟨_, _, hfe, _, _⟩ := hSd.cells.2.1.form
        simp only [Value.slice.injEq] at hfe
        exact hfe.2.1
      have hvl : vx ks j < lO := by rw [hlO, nats_len]; exact lt_of_get (HORD.out.1 j hlt)
      have haN : tn ks j < N := by rw [← HN.out]; exact ha
      have hbN : tn ks (mp ks j) < N := by rw [← HN.out]; exact hb
      have HE : Hid (∀ W, G W → SamS w ks bl bo1 bo bi bp bm rm lm gN (.slice (some ⟨gO, oO, none⟩) lO cO) ol bw vW (2100 * (j + 1)) (n + 1 + 1 + 1 + 1) W) := Lib.hid (fun W hg => by rw [hG] at hg; exact hg)
      obtain ⟨c0, c1, c2⟩ := HC.out _ hg1
      clear hSd hG ha hb hlO hg0
      generalize nmD ks (tn ks j) = na at *
      generalize nmD ks (tn ks (mp ks j)) = nb at *
      generalize vnum (sg (decL ks)) (nmD ks j) = vn at *
      generalize dgK ks j = dg at *
      generalize tn ks (mp ks j) = b at *
      generalize tn ks j = a at *
      generalize vx ks j = v at *
      go_wp2_with fail
      go_region_held3 (fun w' => w'.cell? ⟨gN, a, none⟩ = some (.int .i64 na) ∧ w'.cell? ⟨gN, b, none⟩ = some (.int .i64 nb) ∧ w'.cell? ⟨gO, oO + v, none⟩ = some (.int .i64 vn)) (first | exact ⟨c0, c1, c2⟩ | exact HC.out _ hg) (first | (go_at_call 91; refine (kS.out _ hg1).mono ?_; rintro e w8 ⟨rfl, hg⟩; clear hg1) | (go_at_call 92; refine (kP.out _ hg).mono ?_; rintro e w8 ⟨rfl, hg⟩) | (go_at_call 78; refine (kV.out _ hg).mono ?_; rintro e w8 ⟨rfl, hg⟩) | (go_at_call 77; refine (kD.out _ hg).mono ?_; rintro e w8 ⟨rfl, hg⟩))
      all_goals
        clear c0 c1 c2 kS kP kV kD
        go_wp2
        go_roundg (N - (j + 1 + st % 9))
        case measure => rw [HG.out]; omega
        case rel => exact ⟨j + 1 + st % 9, 2100 * (j + 1), n + 1 + 1 + 1 + 1, by omega, rfl, by go_num, by omega, by omega, HE.out _ hg⟩
    · have hNL : N ≤ 198 := by omega
      have hL : ks.length ≤ 1000 := by rw [HN.out]; omega
      have hV := hS.verts (by omega)
      clear hS hj hq hn
      go_wp2_with fail
      refine hV.mono ?_
      clear hV
      rintro e wa ⟨rfl, hSa⟩
      have hM := hSa.mverts HW.out (by rw [HN.out]; exact HORD.out.2)
      clear hSa
      generalize nvK ks = nv at *
      go_wp2_with fail
      refine hM.mono ?_
      clear hM
      rintro e wb ⟨rfl, hSb⟩
      have hZ := hSb.size hL
      clear hSb
      go_wp2_with fail
      refine hZ.mono ?_
      clear hZ
      rintro e wc ⟨z, rfl, hz, hSc⟩
      obtain ⟨_, _, hkc, hWc⟩ := hSc.cells
      have hB := wordBits_any bw vW ks wc hWc (fun k hk => HW.out.k4 k hk) (by omega)
      have HKC := Lib.hid hkc
      clear hSc hkc hWc
      go_wp2_with fail
      refine hB.mono ?_
      clear hB
      rintro e wd ⟨b7, rfl, v7, hv7, _, _, hk7⟩
      have hLn := len_any b7 v7 _ wd hv7
      rw [wbits_length, HN.out] at hLn
      have HF : Hid (Below w.heap.size w wd) := Lib.hid ((HKC.out.trans hk7 (fun _ _ h => h)).below (fun _ _ h => h))
      have hlq : decide ((z : Int) ≤ ((2 * N : Nat) : Int) + 4096) = true := decide_eq_true (by omega)
      have hlq2 : decide ((z : Int) ≤ 2 * (N : Int) + 4096) = true := decide_eq_true (by omega)
      clear hv7 hk7
      go_wp2_with fail
      refine hLn.mono ?_
      clear hLn
      rintro e w' ⟨rfl, rfl⟩
      go_wp2
      go_ret
      exact ⟨by first | rfl | simp, HF.out⟩

end Go.Proofs.YtipelclohcdkcaaGreat
