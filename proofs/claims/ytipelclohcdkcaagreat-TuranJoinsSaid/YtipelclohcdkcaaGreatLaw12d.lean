/- law12.TuranJoins: words that are joined. -/
import Derived.Test.YtipelclohcdkcaaGreatDeg
import Derived.Test.YtipelclohcdkcaaGreatLaw12c
import Derived.Test.YtipelclohcdkcaaGreatPlane
import Derived.Test.YtipelclohcdkcaaGreatClone
namespace Go.Proofs.YtipelclohcdkcaaGreat
open Go.RowKit

theorem own_lit1 (w : World) (z : Int) : OwnI w.heap.size (w.alloc (.cells #[.int .i64 z] 3)) (.slice (some ⟨w.heap.size, 0, none⟩) 1 1) [z] := by
  refine ⟨rfl, .inr ⟨w.heap.size, 1, #[.int .i64 z], rfl, Nat.le_refl _, heap_alloc_new w _, Nat.le_refl _, by decide, ?_, ?_⟩⟩ <;> simp [ints]

/-- What the document tells of a plane map. -/
theorem encPlane {k0 : List Nat} {rt ln : Int} {sv : Value} {W : World} {B : Nat} (hW : Wd k0) (hl : k0.length ≤ 400) (hrt : rt = if k0.length = 0 then -1 else ((0 % k0.length : Nat) : Int)) (hln : ln = if k0.length = 0 then 1 else 0) (hs : OwnI B W sv (nats (decL k0))) :
    Calls Tryz.prog 66 #[.agg #[sv, .int .i64 rt, .int .i64 ln]] W fun e w' => ∃ kv ks c, e = .returned (.tuple #[kv, .int .i64 (c : Nat)]) ∧ (WRight ks ∧ ks.length ≤ 400) ∧ OwnI W.heap.size w' kv (nats ks) ∧ Keeps (fun _ => False) W w' := by
  have hdl := decL_length k0
  obtain ⟨l, rfl, hl2⟩ : ∃ l : Nat, ln = (l : Int) ∧ l ≤ 1 := by
    by_cases h : k0.length = 0
    · exact ⟨1, by rw [hln, if_pos h]; rfl, by omega⟩
    · exact ⟨0, by rw [hln, if_neg h]; rfl, by omega⟩
  refine (refEncode12_any sv rt l (decL k0) W hs.sl (fun q hq => (hs.lt q hq).2) hW.decL_isP (by rw [hdl]; exact hW.even2) (by rw [hdl]; omega) (by omega) (fun hh => by
    rw [hdl] at hh
    exact ⟨0 % k0.length, by rw [hrt, if_neg (by omega)], by rw [hdl]; exact Nat.mod_lt _ hh⟩)).mono ?_
  rintro e w' ⟨kv, ks, c, rfl, hE, hk, hkk⟩
  have h2 := hE.right
  exact ⟨kv, ks, c, rfl, ⟨h2.1, by rw [hdl] at h2; omega⟩, hk, hkk⟩

/-- A right word's map. -/
theorem decWord {w w' : World} {b : Nat} {ks : List Nat} (hR : WRight ks) (hl : ks.length ≤ 1000) (h : ParS w b ks w') :
    Calls Tryz.prog 69 #[.pointer (some ⟨b, 0, none⟩)] w' (MadeMap w (decL ks) (if ks.length = 0 then -1 else 0) (if ks.length = 0 then 1 else 0)) := by
  obtain ⟨v, h1, h2, h3, hk⟩ := h
  refine (turanDecode_any _ ks w' hR.k4 (by omega) (fun W kW => indexOf_word b v ks W (h1.keeps kW (fun h => h) (fun _ _ h => h)) hR.k4 (by omega))).mono ?_
  rintro e w2 (⟨_, _, hm⟩ | ⟨c, h, rfl, _⟩)
  · exact hm.base hk
  · exfalso
    rcases h with ⟨h, _⟩ | ⟨_, h, _⟩
    · exact h hR.bal
    · exact h hR.canon

theorem join_cnt {a b : List Nat} (k : Nat) : cntK (a ++ b) k = cntK a k + cntK b k := cntK_app a b k
theorem wrap_cnt0 (a : List Nat) : cntK (0 :: (a ++ [1])) 0 = cntK a 0 + 1 := by
  rw [cntK_cons, cntK_app]
  have : cntK [1] 0 = 0 := rfl
  rw [this, if_pos rfl]; omega
theorem wrap_cnt2 (a : List Nat) : cntK (0 :: (a ++ [1])) 2 = cntK a 2 := by
  rw [cntK_cons, cntK_app]
  have : cntK [1] 2 = 0 := rfl
  rw [this, if_neg (by omega)]; omega
theorem nats_app (a b : List Nat) : nats a ++ nats b = nats (a ++ b) := by simp [nats]
theorem nats_wrap (a : List Nat) : [(0 : Int)] ++ nats a ++ [1] = nats (0 :: (a ++ [1])) := by simp [nats]

set_option maxRecDepth 100000 in
set_option maxHeartbeats 4000000 in
theorem walkTuranJoins (a0 a1 : Int) (a2 : Option Addr) (len2 cap2 : Nat) (z2 : List Int) (a3 : Option Addr) (len3 cap3 : Nat) (z3 : List Int) (w : World) (w0 : (Lit.int .u16 a0).wf = true) (w1 : (Lit.int .u16 a1).wf = true) (w2 : RowIn .u8 w a2 len2 cap2 z2) (w3 : RowIn .u8 w a3 len3 cap3 z3) :
    Calls Tryz.prog 12 #[.int .u16 a0, .int .u16 a1, .slice a2 len2 cap2, .slice a3 len3 cap3] w fun e w' => e = .returned (.bool true) ∧ Below w.heap.size w w' := by
  have hnot : ∀ (x : Bool) (w : World), (Op.unary .not (.bool x)).run Tryz.prog w = .ok (.bool (!x)) w := fun _ _ => rfl
  obtain ⟨p, rfl, hp16⟩ := u16_in w0
  obtain ⟨q, rfl, hq16⟩ := u16_in w1
  obtain ⟨ps, hp, hps⟩ := w2.bytes
  obtain ⟨qs, hq, hqs⟩ := w3.bytes
  have hP := fun w1 (hk : Keeps (fun _ => False) w w1) => refPlane12_any (.slice a2 len2 cap2) ps (p % 25) 0 w1 (hp.keeps hk (fun _ _ h => h)) hps (by omega) (by omega)
  have hQ := fun w1 (hk : Keeps (fun _ => False) w w1) => refPlane12_any (.slice a3 len3 cap3) qs (q % 25) 0 w1 (hq.keeps hk (fun _ _ h => h)) hqs (by omega) (by omega)
  have e1 : ((p % 25 : Nat) : Int) = (p : Int) % 25 := by omega
  have e2 : ((q % 25 : Nat) : Int) = (q : Int) % 25 := by omega
  rw [e1] at hP
  rw [e2] at hQ
  have HQ := Lib.hid hQ
  clear w0 w1 w2 w3 hp hps hq hqs e1 e2 hQ
  go_enter Tryz.func12, Tryz.ntmps12
  go_wp2_with fail
  refine (awake12_any _).mono ?_
  rintro e w1 ⟨rfl, hk1⟩
  have H1 := Lib.hid hk1
  clear hk1
  go_wp2_with fail
  refine (hP _ H1.out).mono ?_
  rintro e w2 ⟨sv, k0, rfl, hW0, hl0, hsv, hk2⟩
  obtain ⟨rt, hrt⟩ : ∃ rt : Int, rt = if k0.length = 0 then -1 else ((0 % k0.length : Nat) : Int) := ⟨_, rfl⟩
  obtain ⟨ln, hln⟩ : ∃ ln : Int, ln = if k0.length = 0 then 1 else 0 := ⟨_, rfl⟩
  rw [← hrt, ← hln]
  have hEn := encPlane hW0 (by omega) hrt hln hsv
  clear hrt hln
  have H2 := Lib.hid (H1.out.trans hk2 (fun _ _ h => h))
  clear hP hW0 hl0 hsv hk2
  unfold mapV
  go_wp2_with fail
  refine hEn.mono ?_
  rintro e w3 ⟨av, a, c, rfl, hRa, hav, hk3⟩
  have H3 := Lib.hid (And.intro (H2.out.trans hk3 (fun _ _ h => h)) (And.intro hRa hav))
  clear hEn hRa hav hk3
  have hQ2 := HQ.out w3 H3.out.1
  go_wp2_with fail
  refine hQ2.mono ?_
  rintro e w4 ⟨sv2, k2, rfl, hW0, hl0, hsv, hk4⟩
  obtain ⟨rt, hrt⟩ : ∃ rt : Int, rt = if k2.length = 0 then -1 else ((0 % k2.length : Nat) : Int) := ⟨_, rfl⟩
  obtain ⟨ln, hln⟩ : ∃ ln : Int, ln = if k2.length = 0 then 1 else 0 := ⟨_, rfl⟩
  rw [← hrt, ← hln]
  have hEn := encPlane hW0 (by omega) hrt hln hsv
  clear hrt hln
  have H4 := Lib.hid hk4
  clear hQ2 hW0 hl0 hsv hk4
  unfold mapV
  go_wp2_with fail
  refine hEn.mono ?_
  rintro e w5 ⟨bv, b, c2, rfl, hRb, hbv, hk5⟩
  have hk35 := H4.out.trans hk5 (fun _ _ h => h)
  have hav5 := H3.out.2.2.keeps hk35 (fun _ _ h => h)
  have HA : Hid (∀ W, Keeps (fun _ => False) w5 W → Sl .i64 W av (nats a) ∧ (∀ k, av.ownBlock = some k → k < W.heap.size)) := Lib.hid (fun W hk => ⟨(hav5.keeps hk (fun _ _ h => h)).sl, fun k hk' => (hav5.keeps hk (fun _ _ h => h)).lt k hk' |>.2⟩)
  have HB : Hid (∀ W, Keeps (fun _ => False) w5 W → Sl .i64 W bv (nats b) ∧ (∀ k, bv.ownBlock = some k → k < W.heap.size)) := Lib.hid (fun W hk => ⟨(hbv.keeps hk (fun _ _ h => h)).sl, fun k hk' => (hbv.keeps hk (fun _ _ h => h)).lt k hk' |>.2⟩)
  have H5 := Lib.hid (H3.out.1.trans hk35 (fun _ _ h => h))
  obtain ⟨hRa, hla⟩ := H3.out.2.1
  obtain ⟨hRb, hlb⟩ := hRb
  have HR := Lib.hid (And.intro hRa hRb)
  clear hEn hbv hk5 hk35 hav5 hRa hRb
  obtain ⟨K, hK⟩ : ∃ K : Nat → List Nat, K 0 = a ∧ K 1 = b ∧ K 2 = a ++ b ∧ K 3 = 0 :: (a ++ [1]) := ⟨fun i => if i = 0 then a else if i = 1 then b else if i = 2 then a ++ b else 0 :: (a ++ [1]), rfl, rfl, rfl, rfl⟩
  have HK := Lib.hid hK
  clear hK
  have M0 : Hid (M4 w5 w5 (fun _ => 0) K 0) := Lib.hid (M4.zero (Keeps.refl _ _))
  have hO := of12_any av a w5 (HA.out w5 (Keeps.refl _ _)).1 (HA.out w5 (Keeps.refl _ _)).2 HR.out.1.k4 (by omega)
  go_wp2_with fail
  refine hO.mono ?_
  rintro e w6 ⟨bx, rfl, hPs⟩
  have hD := decWord HR.out.1 (by omega) hPs
  clear hO hPs
  go_wp2_with fail
  refine hD.mono ?_
  intro e w7 hM
  rw [← HK.out.1] at hM
  obtain ⟨b0, B1, rfl, hb0, hB1, hM⟩ := M0.out.add hM
  have M1 := Lib.hid (And.intro hM hb0)
  clear hD hM hb0 hB1
  have hO := of12_any bv b w7 (HB.out w7 M1.out.1.2.2.2).1 (HB.out w7 M1.out.1.2.2.2).2 HR.out.2.k4 (by omega)
  go_wp2_with fail
  refine hO.mono ?_
  rintro e w8 ⟨bx2, rfl, hPs⟩
  have hD := decWord HR.out.2 (by omega) hPs
  clear hO hPs
  go_wp2_with fail
  refine hD.mono ?_
  intro e w9 hM
  rw [← HK.out.2.1] at hM
  obtain ⟨b1, B2, rfl, hb1, hB2, hM⟩ := M1.out.1.add hM
  have M2 := Lib.hid (And.intro hM (And.intro hb1 hB2))
  clear hD hM hb1 hB2
  have hC := clone_any av (nats a) w9 (HA.out w9 M2.out.1.2.2.2).1 (by rw [nats_len]; omega)
  go_wp2_with fail
  refine hC.mono ?_
  rintro e w10 ⟨cv, rfl, hcv, hk10⟩
  have hbl := (HB.out w10 (M2.out.1.2.2.2.trans hk10 (fun _ _ h => h))).1
  have hs10 := hk10.size
  have hlen : (nats a).length + (nats b).length ≤ 10000000000 := by rw [nats_len, nats_len]; omega
  have H10 := Lib.hid (And.intro hk10 hcv.lt)
  clear hC hk10
  go_wp2_with (at_builtin; refine appendInts rfl _ _ rfl w9.heap.size cv bv (nats a) (nats b) rfl rfl hcv hbl hlen hs10 ?_; intro jv w11 hjv hk11 hjb)
  have hk911 := H10.out.1.trans hk11 (fun x hx e => by have := (H10.out.2 x e).1; omega)
  rw [nats_app] at hjv
  have M2b := M2.out.1.still hk911
  have HW := Lib.hid (HR.out.1.app HR.out.2)
  have hO := of12_any jv (a ++ b) w11 hjv.sl (fun k hk => (hjv.lt k hk).2) HW.out.k4 (by rw [List.length_append]; omega)
  have HM2 := Lib.hid M2b
  clear hk911 hjv hk11 hjb hcv hbl hs10 hlen M2b
  go_wp2_with fail
  refine hO.mono ?_
  rintro e w12 ⟨bx3, rfl, hPs⟩
  have hD := decWord HW.out (by rw [List.length_append]; omega) hPs
  clear hO hPs
  go_wp2_with fail
  refine hD.mono ?_
  intro e w13 hM
  rw [← HK.out.2.2.1] at hM
  obtain ⟨b2, B3, rfl, hb2, hB3, hM⟩ := HM2.out.add hM
  have M3 := Lib.hid (And.intro hM (And.intro hb2 hB3))
  clear hD hM hb2 hB3
  have k13 := (Keeps.refl (fun _ => False) w13).alloc (.cells #[.int .i64 0] 3)
  have hl0 := own_lit1 w13 0
  have hsa := (HA.out (w13.alloc (.cells #[.int .i64 0] 3)) (M3.out.1.2.2.2.trans k13 (fun _ _ h => h))).1
  have hlen : ([0] : List Int).length + (nats a).length ≤ 10000000000 := by rw [nats_len]; simp; omega
  obtain ⟨n1, hn1⟩ : ∃ n1, ([(0 : Int)] ++ nats a).length = n1 := ⟨_, rfl⟩
  have hn1l : n1 ≤ 401 := by rw [← hn1, List.length_append, nats_len]; simp; omega
  have HN := Lib.hid hn1
  have hn1l2 : n1 ≤ 10000000000 := by omega
  have hs13 : w13.heap.size ≤ (w13.alloc (.cells #[.int .i64 0] 3)).heap.size := by simp
  clear hn1
  go_wp2_with (first | (at_builtin; refine appendInts rfl _ _ rfl w13.heap.size (.slice (some ⟨w13.heap.size, 0, none⟩) 1 1) av [0] (nats a) rfl rfl hl0 hsa hlen hs13 ?_; intro wv w14 hwv hk14 hwb) | (at_builtin; refine append1n n1 rfl _ _ rfl w13.heap.size wv ([0] ++ nats a) 1 HN _ rfl rfl rfl hwv hn1l2 (Nat.le_trans hs13 hk14.size) ?_; intro g2 cap2 w15 hown hk15 hat hg))
  rw [nats_wrap] at hown
  have hk1315 : Keeps (fun _ => False) w13 w15 := (k13.trans hk14 (fun x hx e => by simp only [Value.ownBlock, Option.some.injEq] at e; omega)).trans hk15 (fun x hx e => by have := (hwv.lt x e).1; omega)
  have M3b := M3.out.1.still hk1315
  have HW2 := Lib.hid HR.out.1.wrap
  have hO := of12_any (.slice (some ⟨g2, 0, none⟩) (n1 + 1) cap2) (0 :: (a ++ [1])) w15 hown.sl (fun k hk => (hown.lt k hk).2) HW2.out.k4 (by simp; omega)
  have HM3 := Lib.hid M3b
  clear k13 hl0 hsa hlen hwv hk14 hwb hown hk15 hat hg hk1315 M3b hs13
  go_wp2_with fail
  refine hO.mono ?_
  rintro e w16 ⟨bx4, rfl, hPs⟩
  have hD := decWord HW2.out (by simp; omega) hPs
  clear hO hPs
  go_wp2_with fail
  refine hD.mono ?_
  intro e w17 hM
  rw [← HK.out.2.2.2] at hM
  obtain ⟨b3, B4, rfl, hb3, hB4, hM⟩ := HM3.out.add hM
  obtain ⟨_, hb2, hB3⟩ := M3.out
  obtain ⟨_, hb1, hB2⟩ := M2.out
  have hb0 := M1.out.2
  have q0 : B4 0 = b0 := by rw [hB4 0 (by omega), hB3 0 (by omega), hB2 0 (by omega), hb0]
  have q1 : B4 1 = b1 := by rw [hB4 1 (by omega), hB3 1 (by omega), hb1]
  have q2 : B4 2 = b2 := by rw [hB4 2 (by omega), hb2]
  clear hD hB4 hB3 hB2 hb0 hb1 hb2
  have M4h := Lib.hid hM
  clear hM
  obtain ⟨hKa, hKb, hKj, hKw⟩ := HK.out
  have W0 : Wd (K 0) := by rw [hKa]; exact HR.out.1.wd
  have W1 : Wd (K 1) := by rw [hKb]; exact HR.out.2.wd
  have W2 : Wd (K 2) := by rw [hKj]; exact HW.out.wd
  have W3 : Wd (K 3) := by rw [hKw]; exact HW2.out.wd
  have L3 : (K 3).length = (K 0).length + 2 := by rw [hKw, hKa]; simp
  have L2 : (K 2).length = (K 0).length + (K 1).length := by rw [hKj, hKa, hKb, List.length_append]
  have Dg : ((List.range (K 3).length).filter fun d => vnum (sg (decL (K 3))) d == 0).length = 1 := by
    have := HR.out.1.wrap_deg
    rw [hKw, show (0 :: (a ++ [1])).length = a.length + 2 by simp]; exact this
  have ev0 := W0.even2
  have ev1 := W1.even2
  have lA : (K 0).length ≤ 400 := by rw [hKa]; omega
  have lB : (K 1).length ≤ 400 := by rw [hKb]; omega
  have v2 : cntK (K 2) 0 = cntK (K 0) 0 + cntK (K 1) 0 := by rw [hKj, hKa, hKb, cntK_app]
  have f2 : cntK (K 2) 2 = cntK (K 0) 2 + cntK (K 1) 2 := by rw [hKj, hKa, hKb, cntK_app]
  have v3 : cntK (K 3) 0 = cntK (K 0) 0 + 1 := by rw [hKw, hKa, wrap_cnt0]
  have f3 : cntK (K 3) 2 = cntK (K 0) 2 := by rw [hKw, hKa, wrap_cnt2]
  have b00 := cntK_le (K 0) 0
  have b02 := cntK_le (K 0) 2
  have b10 := cntK_le (K 1) 0
  have b12 := cntK_le (K 1) 2
  obtain ⟨E0, hE0⟩ : ∃ x, (K 0).length / 2 = x := ⟨_, rfl⟩
  obtain ⟨E1, hE1⟩ : ∃ x, (K 1).length / 2 = x := ⟨_, rfl⟩
  have hE2 : (K 2).length / 2 = E0 + E1 := by omega
  have hE3 : (K 3).length / 2 = E0 + 1 := by omega
  obtain ⟨V0, hV0⟩ : ∃ x, cntK (K 0) 0 = x := ⟨_, rfl⟩
  obtain ⟨V1, hV1⟩ : ∃ x, cntK (K 1) 0 = x := ⟨_, rfl⟩
  obtain ⟨F0, hF0⟩ : ∃ x, cntK (K 0) 2 = x := ⟨_, rfl⟩
  obtain ⟨F1, hF1⟩ : ∃ x, cntK (K 1) 2 = x := ⟨_, rfl⟩
  rw [hV0, hV1] at v2
  rw [hF0, hF1] at f2
  rw [hV0] at v3
  rw [hF0] at f3
  have bE0 : E0 ≤ 400 := by omega
  have bE1 : E1 ≤ 400 := by omega
  have bV0 : V0 ≤ 400 := by omega
  have bV1 : V1 ≤ 400 := by omega
  have bF0 : F0 ≤ 400 := by omega
  have bF1 : F1 ≤ 400 := by omega
  have l3 : 0 < (K 3).length := by omega
  have cE : Hid (∀ W, M4 w5 W B4 K 4 →
      Calls Tryz.prog 75 #[.pointer (some ⟨b0, 0, none⟩)] W (fun e w' => e = .returned (.int .i64 E0) ∧ M4 w5 w' B4 K 4) ∧
      Calls Tryz.prog 75 #[.pointer (some ⟨b1, 0, none⟩)] W (fun e w' => e = .returned (.int .i64 E1) ∧ M4 w5 w' B4 K 4) ∧
      Calls Tryz.prog 75 #[.pointer (some ⟨b2, 0, none⟩)] W (fun e w' => e = .returned (.int .i64 ((E0 + E1 : Nat) : Int)) ∧ M4 w5 w' B4 K 4) ∧
      Calls Tryz.prog 75 #[.pointer (some ⟨b3, 0, none⟩)] W (fun e w' => e = .returned (.int .i64 ((E0 + 1 : Nat) : Int)) ∧ M4 w5 w' B4 K 4)) := Lib.hid (fun W h => ⟨by
      rw [← q0, ← hE0]; exact h.edges (by omega), by
      rw [← q1, ← hE1]; exact h.edges (by omega), by
      rw [← q2, ← hE2]; exact h.edges (by omega), by
      rw [← hb3, ← hE3]; exact h.edges (by omega)⟩)
  have cV : Hid (∀ W, M4 w5 W B4 K 4 →
      Calls Tryz.prog 76 #[.pointer (some ⟨b0, 0, none⟩)] W (fun e w' => e = .returned (.int .i64 ((V0 : Nat) + 1)) ∧ M4 w5 w' B4 K 4) ∧
      Calls Tryz.prog 76 #[.pointer (some ⟨b1, 0, none⟩)] W (fun e w' => e = .returned (.int .i64 ((V1 : Nat) + 1)) ∧ M4 w5 w' B4 K 4) ∧
      Calls Tryz.prog 76 #[.pointer (some ⟨b2, 0, none⟩)] W (fun e w' => e = .returned (.int .i64 ((V0 + V1 : Nat) + 1)) ∧ M4 w5 w' B4 K 4) ∧
      Calls Tryz.prog 76 #[.pointer (some ⟨b3, 0, none⟩)] W (fun e w' => e = .returned (.int .i64 ((V0 + 1 : Nat) + 1)) ∧ M4 w5 w' B4 K 4)) := Lib.hid (fun W h => ⟨by
      rw [← q0, ← hV0]; exact h.verts (by omega) W0, by
      rw [← q1, ← hV1]; exact h.verts (by omega) W1, by
      rw [← q2, ← v2]; exact h.verts (by omega) W2, by
      rw [← hb3, ← v3]; exact h.verts (by omega) W3⟩)
  have cF : Hid (∀ W, M4 w5 W B4 K 4 →
      Calls Tryz.prog 73 #[.pointer (some ⟨b0, 0, none⟩)] W (fun e w' => e = .returned (.int .i64 ((F0 : Nat) + 1)) ∧ M4 w5 w' B4 K 4) ∧
      Calls Tryz.prog 73 #[.pointer (some ⟨b1, 0, none⟩)] W (fun e w' => e = .returned (.int .i64 ((F1 : Nat) + 1)) ∧ M4 w5 w' B4 K 4) ∧
      Calls Tryz.prog 73 #[.pointer (some ⟨b2, 0, none⟩)] W (fun e w' => e = .returned (.int .i64 ((F0 + F1 : Nat) + 1)) ∧ M4 w5 w' B4 K 4) ∧
      Calls Tryz.prog 73 #[.pointer (some ⟨b3, 0, none⟩)] W (fun e w' => e = .returned (.int .i64 ((F0 : Nat) + 1)) ∧ M4 w5 w' B4 K 4)) := Lib.hid (fun W h => ⟨by
      rw [← q0, ← hF0]; exact h.faces (by omega) W0, by
      rw [← q1, ← hF1]; exact h.faces (by omega) W1, by
      rw [← q2, ← f2]; exact h.faces (by omega) W2, by
      rw [← hb3, ← f3]; exact h.faces (by omega) W3⟩)
  have cD : Hid (∀ W, M4 w5 W B4 K 4 →
      Calls Tryz.prog 78 #[.pointer (some ⟨b3, 0, none⟩), .int .i64 0] W (fun e w' => e = .returned (.int .i64 0) ∧ M4 w5 w' B4 K 4) ∧
      Calls Tryz.prog 77 #[.pointer (some ⟨b3, 0, none⟩), .int .i64 0] W (fun e w' => e = .returned (.int .i64 (1 : Nat)) ∧ M4 w5 w' B4 K 4)) := Lib.hid (fun W h => ⟨by
      rw [← hb3]; exact h.vertex0 (by omega) W3 l3, by
      rw [← hb3]; exact h.degree0 (by omega) W3 l3 Dg⟩)
  clear hE0 hE1 hE2 hE3 hV0 hV1 hF0 hF1 v2 f2 v3 f3 b00 b02 b10 b12 l3 Dg L2 L3 W0 W1 W2 W3 ev0 ev1 lA lB hKa hKb hKj hKw q0 q1 q2 hb3 hla hlb hn1l hn1l2
  go_wp2_with fail
  refine (cE.out _ M4h.out).2.2.1.mono ?_
  rintro e x0 ⟨rfl, hm⟩
  have A0 := Lib.hid hm
  clear hm
  go_wp2_with fail
  refine (cE.out _ A0.out).1.mono ?_
  rintro e x1 ⟨rfl, hm⟩
  have A1 := Lib.hid hm
  clear hm
  go_wp2_with fail
  refine (cE.out _ A1.out).2.1.mono ?_
  rintro e x2 ⟨rfl, hm⟩
  have A2 := Lib.hid hm
  clear hm
  go_wp2_with fail
  refine (cV.out _ A2.out).2.2.1.mono ?_
  rintro e x3 ⟨rfl, hm⟩
  have A3 := Lib.hid hm
  clear hm
  go_wp2_with fail
  refine (cV.out _ A3.out).1.mono ?_
  rintro e x4 ⟨rfl, hm⟩
  have A4 := Lib.hid hm
  clear hm
  go_wp2_with fail
  refine (cV.out _ A4.out).2.1.mono ?_
  rintro e x5 ⟨rfl, hm⟩
  have A5 := Lib.hid hm
  clear hm
  go_wp2_with fail
  refine (cF.out _ A5.out).2.2.1.mono ?_
  rintro e x6 ⟨rfl, hm⟩
  have A6 := Lib.hid hm
  clear hm
  go_wp2_with fail
  refine (cF.out _ A6.out).1.mono ?_
  rintro e x7 ⟨rfl, hm⟩
  have A7 := Lib.hid hm
  clear hm
  go_wp2_with fail
  refine (cF.out _ A7.out).2.1.mono ?_
  rintro e x8 ⟨rfl, hm⟩
  have A8 := Lib.hid hm
  clear hm
  go_wp2_with fail
  refine (cE.out _ A8.out).2.2.2.mono ?_
  rintro e x9 ⟨rfl, hm⟩
  have A9 := Lib.hid hm
  clear hm
  go_wp2_with fail
  refine (cE.out _ A9.out).1.mono ?_
  rintro e x10 ⟨rfl, hm⟩
  have A10 := Lib.hid hm
  clear hm
  go_wp2_with fail
  refine (cV.out _ A10.out).2.2.2.mono ?_
  rintro e x11 ⟨rfl, hm⟩
  have A11 := Lib.hid hm
  clear hm
  go_wp2_with fail
  refine (cV.out _ A11.out).1.mono ?_
  rintro e x12 ⟨rfl, hm⟩
  have A12 := Lib.hid hm
  clear hm
  go_wp2_with fail
  refine (cF.out _ A12.out).2.2.2.mono ?_
  rintro e x13 ⟨rfl, hm⟩
  have A13 := Lib.hid hm
  clear hm
  go_wp2_with fail
  refine (cF.out _ A13.out).1.mono ?_
  rintro e x14 ⟨rfl, hm⟩
  have A14 := Lib.hid hm
  clear hm
  go_wp2_with fail
  refine (cD.out _ A14.out).1.mono ?_
  rintro e x15 ⟨rfl, hm⟩
  have A15 := Lib.hid hm
  clear hm
  go_wp2_with fail
  refine (cD.out _ A15.out).2.mono ?_
  rintro e x16 ⟨rfl, hm⟩
  have A16 := Lib.hid hm
  clear hm
  go_wp2
  go_ret
  exact ⟨by simp, (H5.out.trans A16.out.2.2.2 (fun _ _ h => h)).below (fun _ _ h => h)⟩

end Go.Proofs.YtipelclohcdkcaaGreat
