/- law12.TuranNames: the names of a map's word. -/
import Derived.Test.YtipelclohcdkcaaGreatEx12
import Derived.Test.YtipelclohcdkcaaGreatPlane
namespace Go.Proofs.YtipelclohcdkcaaGreat
open Go.RowKit

/-- A map that the document made is made of its turns. -/
theorem new_plane {ks : List Nat} (hW : Wd ks) (hl : ks.length ≤ 100000) {rt : Int} (hrt : ∃ r : Nat, rt = if ks.length = 0 then -1 else ((r % ks.length : Nat) : Int)) {ln : Nat} (hln : ln = if ks.length = 0 then 1 else 0) {sv : Value} {W : World} (hs : Sl .i64 W sv (nats (decL ks))) :
    Calls Tryz.prog 63 #[sv, .int .i64 rt, .int .i64 ln] W (MadeMap W (decL ks) rt ln) := by
  by_cases h0 : ks.length = 0
  · have hks : ks = [] := List.eq_nil_of_length_eq_zero h0
    have hr : rt = -1 := by
      obtain ⟨r, h⟩ := hrt
      rw [h, if_pos h0]
    subst hr
    have hd : decL ks = [] := by rw [hks]; rfl
    rw [hd] at hs ⊢
    exact new_none sv ln W hs (by rw [hln]; split <;> omega)
  · obtain ⟨r, hr, hrl⟩ : ∃ r : Nat, rt = r ∧ r < ks.length := by
      obtain ⟨r, h⟩ := hrt
      exact ⟨r % ks.length, by rw [h, if_neg h0], Nat.mod_lt _ (by omega)⟩
    subst hr
    have hl2 := decL_length ks
    exact new_some sv (decL ks) r ln W hs hW.decL_isP (by rw [hl2]; exact hW.even2) (by rw [hl2]; exact hrl) (by omega) (by rw [hln]; split <;> omega)

/-- What is told of a map's word has an index. -/
theorem enc_index {w w' : World} {b : Nat} {p : Value} {c : Nat} {s : List Nat} {l : Nat} {rt : Int} {ks : List Nat} (hE : EncR s l rt ks c) (hc : (c = 0 ∧ ∃ bw, p = .pointer (some ⟨bw, 0, none⟩) ∧ WordB w b bw ks w') ∨ (c ≠ 0 ∧ p = .pointer none)) (hl : ks.length ≤ 100000) :
    ∀ W, Keeps (fun _ => False) w' W → Calls Tryz.prog 17 #[p] W (IndexPost W ks) := by
  intro W hk
  rcases hc with ⟨_, bw, rfl, v, hWA, _, _, _⟩ | ⟨hc, rfl⟩
  · exact indexOf_word bw v ks W (hWA.keeps hk (fun h => h) (fun _ _ h => h)) hE.right.1.k4 (by omega)
  · have : ks = [] := by
      rcases hE with ⟨_, _, h⟩ | ⟨_, _, _, h⟩ | ⟨_, _, h, _⟩ | ⟨_, _, h, _⟩
      · exact h
      · exact h
      · exact absurd h hc
      · exact absurd h hc
    rw [this]
    exact indexOf_nil W

set_option maxRecDepth 100000 in
set_option maxHeartbeats 4000000 in
theorem walkTuranNames (a0 : Int) (a1 : Option Addr) (len1 cap1 : Nat) (z1 : List Int) (a2 : Int) (w : World) (w0 : (Lit.int .u16 a0).wf = true) (w1 : RowIn .u8 w a1 len1 cap1 z1) (w2 : (Lit.int .u8 a2).wf = true) :
    Calls Tryz.prog 10 #[.int .u16 a0, .slice a1 len1 cap1, .int .u8 a2] w fun e w' => e = .returned (.bool true) ∧ Below w.heap.size w w' := by
  have hnot : ∀ (x : Bool) (w : World), (Op.unary .not (.bool x)).run Tryz.prog w = .ok (.bool (!x)) w := fun _ _ => rfl
  obtain ⟨p, rfl, hp16⟩ := u16_in w0
  obtain ⟨ps, hp, hps⟩ := w1.bytes
  obtain ⟨root, rfl, hroot⟩ := u8_in w2
  have hP := fun w1 (hk : Keeps (fun _ => False) w w1) => refPlane12_any (.slice a1 len1 cap1) ps (p % 60) root w1 (hp.keeps hk (fun _ _ h => h)) hps (by omega) hroot
  have e1 : ((p % 60 : Nat) : Int) = (p : Int) % 60 := by omega
  rw [e1] at hP
  clear w0 w1 w2 hp hps hroot e1
  go_enter Tryz.func10, Tryz.ntmps10
  go_wp2_with fail
  refine (awake12_any _).mono ?_
  rintro e w1 ⟨rfl, hk1⟩
  have HK1 := Lib.hid hk1
  clear hk1
  go_wp2_with fail
  refine (hP _ HK1.out).mono ?_
  rintro e w2 ⟨sv, k0, rfl, hW0, hl0, hsv, hk2⟩
  clear hP
  have hdl := decL_length k0
  obtain ⟨ln, hln, hln2⟩ : ∃ ln : Nat, (if k0.length = 0 then (1 : Int) else 0) = (ln : Int) ∧ ln = if k0.length = 0 then 1 else 0 := by
    by_cases h : k0.length = 0
    · exact ⟨1, by rw [if_pos h]; rfl, by rw [if_pos h]⟩
    · exact ⟨0, by rw [if_neg h]; rfl, by rw [if_neg h]⟩
  obtain ⟨rt, hrt⟩ : ∃ rt : Int, rt = if k0.length = 0 then -1 else ((root % k0.length : Nat) : Int) := ⟨_, rfl⟩
  rw [hln, ← hrt]
  have ka := (Keeps.refl (fun _ => False) w2).alloc (.cells #[sv, .int .i64 rt, .int .i64 ln] 72)
  have hbx := heap_alloc_new w2 (.cells #[sv, .int .i64 rt, .int .i64 ln] 72)
  have hsv2 := hsv.keeps ka (fun _ _ h => h)
  have hNw := new_plane hW0 (by omega) ⟨root, hrt⟩ hln2 hsv2.sl
  have c0 := World.cell_of_heap hbx 0
  have c1 := World.cell_of_heap hbx 1
  have c2 := World.cell_of_heap hbx 2
  have hEr := fun W (hk : Keeps (fun _ => False) (w2.alloc (.cells #[sv, .int .i64 rt, .int .i64 ln] 72)) W) => refEncode12_any sv rt ln (decL k0) W (hsv2.keeps hk (fun _ _ h => h)).sl (fun q hq => by have := (hsv2.lt q hq).2; have := hk.size; omega) hW0.decL_isP (by rw [hdl]; exact hW0.even2) (by rw [hdl]; omega) (by rw [hln2]; split <;> omega) (fun hh => by
    rw [hdl] at hh
    exact ⟨root % k0.length, by rw [hrt, if_neg (by omega)], by rw [hdl]; exact Nat.mod_lt _ hh⟩)
  obtain ⟨sa, sc, hsvf, _, _⟩ := hsv.form
  have HX := Lib.hid (And.intro hbx (And.intro ((HK1.out.trans hk2 (fun _ _ h => h)).trans ka (fun _ _ h => h)) (And.intro hl0 hEr)))
  have hl1 : k0.length ≤ 118 := by omega
  have HD := Lib.hid hdl
  clear hk2 hsv hsv2 ka hbx hEr hl0 hW0 hln hln2 hrt hdl
  subst hsvf
  unfold mapV
  go_wp2_with fail
  refine hNw.mono ?_
  rintro e w3 ⟨b, rfl, hA, hb, hk3⟩
  have hEn := turanEncode_any hA
  have HN := Lib.hid (And.intro hk3 hb)
  clear hNw hA hb hk3
  go_wp2_with fail
  refine hEn.mono ?_
  rintro e w4 ⟨p4, c, ks, rfl, hE, hq, hc⟩
  clear hEn
  have hkl := hE.right.2
  have hNm := turanNames_any p4 ks w4 hE.right.1.k4 (by rw [HD.out] at hkl; omega) (enc_index hE hc (by rw [HD.out] at hkl; omega))
  have HE := Lib.hid (And.intro hE hq.2)
  clear hE hq hc
  go_wp2_with fail
  refine hNm.mono ?_
  intro e w5 h5
  clear hNm
  rcases h5 with ⟨hB, hCn, g, rfl, hg, hk5⟩ | ⟨c5, h5, rfl, _⟩
  rotate_left
  · exfalso
    rcases h5 with ⟨h, _⟩ | ⟨_, h, _⟩
    · exact h HE.out.1.right.1.bal
    · exact h HE.out.1.right.1.canon
  · have hkB : Keeps (fun _ => False) (w2.alloc (.cells #[.slice sa (nats (decL k0)).length sc, .int .i64 rt, .int .i64 ln] 72)) w4 := HN.out.1.trans HE.out.2 (fun x hx e => by have := HN.out.2; omega)
    have hkB5 := hkB.trans hk5 (fun _ _ h => h)
    have hEr := HX.out.2.2.2 w5 hkB5
    have hb5 := hkB5.at HX.out.1 (fun h => h)
    have d0 := World.cell_of_heap hb5 0
    have d1 := World.cell_of_heap hb5 1
    have d2 := World.cell_of_heap hb5 2
    have H5 := Lib.hid (And.intro (HX.out.2.1.trans hkB5 (fun _ _ h => h)) hg)
    have hk400 : ks.length ≤ 400 := by rw [HD.out] at hkl; omega
    clear hB hCn hg hk5 hkB hkB5 hb5 c0 c1 c2 hkl
    go_wp2_with fail
    refine hEr.mono ?_
    rintro e w6 ⟨kv, ks2, c2, rfl, hE2, hkv, hk6⟩
    obtain ⟨rfl, rfl⟩ := HE.out.1.unique hE2
    obtain ⟨ka, kc, hkvf, _, _⟩ := hkv.form
    have hRN := refNames12_any kv ks w6 hkv.sl HE.out.1.right.1.wd (by omega)
    have H6 := Lib.hid (And.intro (H5.out.1.trans hk6 (fun _ _ h => h)) (H5.out.2.keeps hk6 (fun _ _ h => h)))
    subst hkvf
    clear hEr hE2 hkv hk6 d0 d1 d2
    go_wp2_with fail
    refine hRN.mono ?_
    rintro e w7 ⟨g2, rfl, zs, z1', z2, z3, hk7⟩
    subst z2
    have hEq := equal_same (.slice (some ⟨g, 0, none⟩) ks.length ks.length) (.slice (some ⟨g2, 0, none⟩) ks.length ks.length) _ w7 (H6.out.2.keeps hk7 (fun _ _ h => h)).sl z3.sl (by simp [nats]; omega)
    have H7 := Lib.hid (H6.out.1.trans hk7 (fun _ _ h => h))
    clear hRN z1' z3 hk7
    go_wp2_with fail
    refine hEq.mono ?_
    rintro e w8 ⟨rfl, hk8⟩
    have H8 := Lib.hid (H7.out.trans hk8 (fun _ _ h => h))
    clear hEq hk8
    go_wp2
    go_ret
    exact ⟨rfl, H8.out.below (fun _ _ h => h)⟩

end Go.Proofs.YtipelclohcdkcaaGreat
