/- law13.made: a map's word, and what the document says of it. -/
import Derived.Test.YtipelclohcdkcaaGreatOf13
import Derived.Test.YtipelclohcdkcaaGreatAwake
namespace Go.Proofs.YtipelclohcdkcaaGreat
open Go.RowKit

theorem EncR.right {s : List Nat} {lone : Nat} {rt : Int} {ks : List Nat} {c : Nat} (h : EncR s lone rt ks c) : WRight ks ∧ ks.length ≤ s.length := by
  rcases h with ⟨_, _, rfl⟩ | ⟨_, _, _, rfl⟩ | ⟨_, _, _, _, rfl⟩ | ⟨_, _, _, root, T, _, _, hT, rfl⟩
  · exact ⟨WRight.nil, Nat.zero_le _⟩
  · exact ⟨WRight.nil, Nat.zero_le _⟩
  · exact ⟨WRight.nil, Nat.zero_le _⟩
  · exact ⟨hT.right, by rw [kso_length, wlk_length]; exact hT.le⟩

theorem WRight.wd {ks : List Nat} (h : WRight ks) : Wd ks := ⟨h.k4, h.bal⟩
theorem WRight.canon {ks : List Nat} (h : WRight ks) : CanonOk ks := fun _ _ _ h1 h2 h3 => h.check h1 h2 h3

/-- What made gives. -/
structure MadeL (w : World) (ks : List Nat) (bl b bo : Nat) (bi bp : Nat → Nat) (F : Nat → Prop) (vS vM vV vF : Value) (w' : World) : Prop where
  look : LookS w' bl b bo bi bp ks 0 F 0
  fr : ∀ x, F x → w.heap.size ≤ x
  lo : w.heap.size ≤ bl
  s : OwnI w.heap.size w' vS (nats (tnL ks))
  m : OwnI w.heap.size w' vM (nats ((List.range ks.length).map (mp ks)))
  v : OwnI w.heap.size w' vV (nats ((List.range ks.length).map (vx ks)))
  f : OwnI w.heap.size w' vF (nats (fsL (tnL ks) ks.length))
  sep : ∀ q, (vS.ownBlock = some q ∨ vM.ownBlock = some q ∨ vV.ownBlock = some q ∨ vF.ownBlock = some q) → ¬ F q ∧ q ≠ bl
  kee : Keeps (fun _ => False) w w'

def Made13Post (w : World) (e : Ending) (w' : World) : Prop :=
  ∃ ks bl b bo bi bp F vS vM vV vF, e = .returned (.tuple #[.pointer (some ⟨bl, 0, none⟩), .agg #[vS, vM, vV, vF]]) ∧ WRight ks ∧ ks.length ≤ 400 ∧ MadeL w ks bl b bo bi bp F vS vM vV vF w'

set_option maxRecDepth 100000 in
set_option maxHeartbeats 4000000 in
theorem made13_any (pv : Value) (ps : List Nat) (p root : Nat) (w : World) (hp : Sl .u8 w pv (nats ps)) (hps : ∀ b ∈ ps, b < 256) (hr : root < 256) (hp16 : p < 65536) :
    Calls Tryz.prog 37 #[.int .u16 p, pv, .int .u8 root] w (Made13Post w) := by
  have k0 := (Keeps.refl (fun _ => False) w).alloc (.cells #[.slice none 0 0, .slice none 0 0, .slice none 0 0, .slice none 0 0] 48)
  have hb0 := heap_alloc_new w (.cells #[.slice none 0 0, .slice none 0 0, .slice none 0 0, .slice none 0 0] 48)
  have hsz0 : (w.alloc (.cells #[.slice none 0 0, .slice none 0 0, .slice none 0 0, .slice none 0 0] 48)).heap.size = w.heap.size + 1 := by simp
  have hP := refPlane12_any pv ps (p % 200) root _ (hp.keeps k0 (fun _ _ h => h)) hps (by omega) hr
  have e1 : ((p % 200 : Nat) : Int) = (p : Int) % 200 := by omega
  rw [e1] at hP
  have HK0 := Lib.hid (And.intro k0 hb0)
  clear k0 hb0 hp e1
  go_enter Tryz.func37, Tryz.ntmps37
  go_wp2_with fail
  refine hP.mono ?_
  rintro e w1 ⟨sv, k0, rfl, hW0, hl0, hsv, hk1⟩
  obtain ⟨ln, hln, hlnb⟩ : ∃ ln : Nat, (if k0.length = 0 then (1 : Int) else 0) = (ln : Int) ∧ ln ≤ 1 := by
    by_cases h : k0.length = 0
    · exact ⟨1, by rw [if_pos h]; rfl, by omega⟩
    · exact ⟨0, by rw [if_neg h]; rfl, by omega⟩
  have hdl := decL_length k0
  have hE := refEncode12_any sv (if k0.length = 0 then -1 else ((root % k0.length : Nat) : Int)) ln (decL k0) w1 hsv.sl (fun k hk => (hsv.lt k hk).2) hW0.decL_isP (by rw [hdl]; omega) (by rw [hdl]; omega) (by omega) (fun h => by
    rw [hdl] at h
    exact ⟨root % k0.length, by rw [if_neg (by omega)], by rw [hdl]; exact Nat.mod_lt _ h⟩)
  rw [hln]
  unfold mapV
  have hb1 := hk1.at HK0.out.2 (fun h => h)
  have k1 := HK0.out.1.trans hk1 (fun _ _ h => h)
  have hs1 := hk1.size
  generalize (if k0.length = 0 then (-1 : Int) else ((root % k0.length : Nat) : Int)) = rt at *
  clear hP hk1 hln
  go_wp2_with fail
  refine hE.mono ?_
  rintro e w2 ⟨kv, ks, c, rfl, hEnc, hkv, hk2⟩
  obtain ⟨hR, hkl⟩ := hEnc.right
  have hkl4 : ks.length ≤ 400 := by omega
  have hb2 := hk2.at hb1 (fun h => h)
  have k2 := k1.trans hk2 (fun _ _ h => h)
  have hs2 := hk2.size
  have hO := of13_any kv ks w2 hkv.sl (fun k hk => (hkv.lt k hk).2) hR.k4 (by omega) hR.bal hR.canon
  clear hE hEnc hk2 hb1 k1 hsv hkl hdl
  go_wp2_with fail
  refine hO.mono ?_
  rintro e w3 ⟨bl, b, bo, bi, bp, F, rfl, hS, hFw, hblw, hk3⟩
  have hkv3 := hkv.keeps hk3 (fun _ _ h => h)
  have hb3 := hk3.at hb2 (fun h => h)
  have k3 := k2.trans hk3 (fun _ _ h => h)
  have hs3 := hk3.size
  have hO2 := refOf13_any kv ks w3 hkv3.sl hR.wd (by omega)
  clear hO hk3 hb2 k2 hkv
  go_wp2_with fail
  refine hO2.mono ?_
  rintro e w4 ⟨vS, vM, vV, vF, rfl, oS, oM, oV, oF, hk4⟩
  have hb4 := hk4.at hb3 (fun h => h)
  obtain ⟨r1, r2⟩ := res4 hb4 vS vM vV vF
  have hS4 := hS.keeps hk4 (fun _ _ h => h)
  have hold := hS.mix.old
  have hblt := hS.lt
  have hS5 := hS4.keeps r2 (fun x hx e => by
    have e : x = w.heap.size := e
    rcases hx with hx | hx
    · have := hFw x hx; omega
    · omega)
  have key : ∀ {v : Value} {zs : List Int}, OwnI w3.heap.size w4 v zs → OwnI w.heap.size ((((w4.setCell ⟨w.heap.size, 0, none⟩ vS).setCell ⟨w.heap.size, 1, none⟩ vM).setCell ⟨w.heap.size, 2, none⟩ vV).setCell ⟨w.heap.size, 3, none⟩ vF) v zs := fun {v zs} ho =>
    (ho.keeps r2 (fun q hq e => by have := (ho.lt q hq).1; omega)).mono (fun q hq => by have := (ho.lt q hq).1; omega)
  have hML : MadeL w ks bl b bo bi bp F vS vM vV vF ((((w4.setCell ⟨w.heap.size, 0, none⟩ vS).setCell ⟨w.heap.size, 1, none⟩ vM).setCell ⟨w.heap.size, 2, none⟩ vV).setCell ⟨w.heap.size, 3, none⟩ vF) :=
    ⟨hS5, fun x hx => by have := hFw x hx; omega, by omega, key oS, key oM, key oV, key oF, fun q hq => by
      have hq3 : w3.heap.size ≤ q := by
        rcases hq with hq | hq | hq | hq
        · exact (oS.lt q hq).1
        · exact (oM.lt q hq).1
        · exact (oV.lt q hq).1
        · exact (oF.lt q hq).1
      exact ⟨fun h => by have := hold q h; omega, by omega⟩, (k3.trans hk4 (fun _ _ h => h)).trans r2 (fun x hx e => by omega)⟩
  have g0 := World.cell_of_heap r1 0
  have g1 := World.cell_of_heap r1 1
  have g2 := World.cell_of_heap r1 2
  have g3 := World.cell_of_heap r1 3
  obtain ⟨aS, cS, rfl, _, _⟩ := oS.form
  obtain ⟨aM, cM, rfl, _, _⟩ := oM.form
  obtain ⟨aV, cV, rfl, _, _⟩ := oV.form
  obtain ⟨aF, cF, rfl, _, _⟩ := oF.form
  have zz := World.free_of_heap hb4
  have e0 := World.cell_of_heap hb4 0
  have e1 := World.cell_of_heap hb4 1
  have e2 := World.cell_of_heap hb4 2
  have e3 := World.cell_of_heap hb4 3
  have HF := Lib.hid (And.intro hML (And.intro hR (And.intro g0 (And.intro g1 (And.intro g2 g3)))))
  clear hO2 hML g0 g1 g2 g3 r1 r2 hS hS4 hS5 hb3 hb4 hk4 k3 oS oM oV oF key hFw hR hkv3 hold
  go_wp2
  obtain ⟨hML, hR, g0, g1, g2, g3⟩ := HF.out
  refine bodyPost_ret (v := .tuple #[.pointer (some ⟨bl, 0, none⟩), .agg #[.slice aS (nats (tnL ks)).length cS, .slice aM (nats ((List.range ks.length).map (mp ks))).length cM, .slice aV (nats ((List.range ks.length).map (vx ks))).length cV, .slice aF (nats (fsL (tnL ks) ks.length)).length cF]]) ?_ rfl ⟨ks, bl, b, bo, bi, bp, F, _, _, _, _, rfl, hR, hkl4, hML⟩
  simp at g0 g1 g2 g3
  simp [results, Tryz.results37, go_sem, g0, g1, g2, g3]

end Go.Proofs.YtipelclohcdkcaaGreat
