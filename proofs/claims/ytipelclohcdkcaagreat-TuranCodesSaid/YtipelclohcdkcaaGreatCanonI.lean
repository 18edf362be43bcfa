/- canon.Is of a word's map. -/
import Derived.Test.YtipelclohcdkcaaGreatCanon
namespace Go.Proofs.YtipelclohcdkcaaGreat
open Go.RowKit

theorem Wd.dec_plane {ks : List Nat} (h : Wd ks) (hn : 0 < ks.length) : (decL ks).length / 2 + 1 ≤ ldr (sg (decL ks)) (decL ks).length + ldr (fun d => sg (decL ks) (mt d)) (decL ks).length := by
  have hl := decL_length ks
  have hS := h.decS
  have hev := h.even2
  have hT : IsP ks.length (fun d => sg (decL ks) (mt d)) := ⟨fun d hd => hS.lt _ (mt_lt hev hd), fun d e hd he hh => by
    have := hS.inj _ _ (mt_lt hev hd) (mt_lt hev he) hh
    rw [← mt_mt d, this, mt_mt]⟩
  have hph : IsP ks.length (sg (phiL (decL ks))) := by
    have := phiL_isP h.decL_isP (by rw [hl]; exact hev)
    rwa [phiL_length, hl] at this
  have e1 : ldr (fun d => sg (decL ks) (mt d)) ks.length = ldr (sg (phiL (decL ks))) ks.length := ldr_congr hT hph (fun d hd => (sg_phi (by rw [hl]; exact hd)).symm) _ (Nat.le_refl _)
  have e2 := h.dec_verts
  have e3 := h.dec_faces
  have e4 := h.opens_half
  rw [if_neg (by omega)] at e2 e3
  rw [hl, e1]
  omega

set_option maxRecDepth 100000 in
set_option maxHeartbeats 4000000 in
theorem canonIs_word {w : World} {b : Nat} {ks : List Nat} {R : Nat → Prop} (h : MapAt w b (decL ks) (if ks.length = 0 then -1 else 0) (if ks.length = 0 then 1 else 0) R) (hW : Wd ks) (hC : CanonOk ks) (hl : ks.length ≤ 100000) :
    Calls Tryz.prog 85 #[.pointer (some ⟨b, 0, none⟩)] w fun e w' => e = .returned (.bool true) ∧ (∃ R', MapAt w' b (decL ks) (if ks.length = 0 then -1 else 0) (if ks.length = 0 then 1 else 0) R' ∧ ∀ x, R' x → R x ∨ (w.heap.size ≤ x ∧ x < w'.heap.size)) ∧ Keeps (fun k => k = b) w w' := by
  by_cases hn : ks.length = 0
  · have hks : ks = [] := List.eq_nil_of_length_eq_zero hn
    have hdl : decL ks = [] := by rw [hks]; rfl
    rw [if_pos hn, if_pos hn, hdl] at h ⊢
    have hCn := canon_none h
    have HH := Lib.hid h
    clear h hn hks hdl hW hC hl
    go_enter Tryz.func85, Tryz.ntmps85
    go_wp2_with fail
    refine hCn.mono ?_
    rintro e w1 ⟨v, rfl, hk1⟩
    have h1 := HH.out.keeps hk1 (fun h => h) (fun _ _ h => h)
    have hSm := mapSame_eq h1 h1 (by simp)
    have HK := Lib.hid (And.intro hk1 h1)
    clear hCn hk1 h1
    go_wp2_with fail
    refine hSm.mono ?_
    rintro e w2 ⟨rfl, hk2⟩
    have HF := Lib.hid (And.intro (HK.out.2.keeps hk2 (fun h => h) (fun _ _ h => h)) (HK.out.1.trans hk2 (fun _ _ h => h)))
    clear hSm hk2
    go_wp2
    go_ret
    exact ⟨rfl, ⟨R, HF.out.1, fun x hx => .inl hx⟩, HF.out.2.mono (fun _ _ h => h.elim)⟩
  · have hdl := decL_length ks
    have hn0 : 0 < ks.length := by omega
    rw [if_neg hn, if_neg hn] at h ⊢
    have hcl := (hW.dec_planar hC hn0).1
    have hCn := canon_one (r := 0) h (by rw [hdl]; exact hn0) hcl (hW.dec_plane hn0)
    have hE := (hW.dec_end hC hn0).1
    have hks := hW.dec_kso hC hn0
    have HE := Lib.hid (And.intro hE hks)
    have HL := Lib.hid hdl
    clear h hn hn0 hcl hE hks hW hC hdl
    go_enter Tryz.func85, Tryz.ntmps85
    go_wp2_with fail
    refine hCn.mono ?_
    rintro e w1 ⟨T, b2, v, rfl, hE1, hA1, hb2, ⟨R', hA, hsub⟩, hk1⟩
    have hT : T = ks.length := by
      rw [HL.out] at hE1
      exact hE1.unique HE.out.1
    rw [hT, HE.out.2] at hA1
    have hSm := mapSame_eq hA1 hA (by rw [HL.out]; exact hl)
    have HK := Lib.hid (And.intro hA (And.intro hsub hk1))
    clear hCn hE1 hA1 hA hsub hk1 hT
    go_wp2_with fail
    refine hSm.mono ?_
    rintro e w2 ⟨rfl, hk2⟩
    have hs := hk2.size
    have HF := Lib.hid (And.intro (HK.out.1.keeps hk2 (fun h => h) (fun _ _ h => h)) (And.intro (show ∀ x, R' x → R x ∨ (w.heap.size ≤ x ∧ x < w2.heap.size) from fun x hx => (HK.out.2.1 x hx).imp id (fun e => ⟨e.1, Nat.lt_of_lt_of_le e.2 hs⟩)) (HK.out.2.2.trans hk2 (fun _ _ h => h.elim))))
    clear hSm hk2 hs
    go_wp2
    go_ret
    exact ⟨rfl, ⟨R', HF.out.1, HF.out.2.1⟩, HF.out.2.2⟩

end Go.Proofs.YtipelclohcdkcaaGreat
