/- law12.TuranWords: any word is a map's, or is refused. -/
import Derived.Test.YtipelclohcdkcaaGreatCanonI
import Derived.Test.YtipelclohcdkcaaGreatCheck12
import Derived.Test.YtipelclohcdkcaaGreatLaw12c
import Derived.Test.YtipelclohcdkcaaGreatClone
import Derived.Test.YtipelclohcdkcaaGreatDecode2
namespace Go.Proofs.YtipelclohcdkcaaGreat
open Go.RowKit

/-- What a word's check says. -/
def CodeW (ks : List Nat) (c : Nat) : Prop := MBal ks ∧ CanonOk ks ∧ c = 0 ∨ ¬ MBal ks ∧ c = 9 ∨ MBal ks ∧ ¬ CanonOk ks ∧ c = 10
theorem CodeW.unique {ks : List Nat} {c d : Nat} (h : CodeW ks c) (k : CodeW ks d) : c = d := by
  rcases h with ⟨h1, h2, rfl⟩ | ⟨h1, rfl⟩ | ⟨h1, h2, rfl⟩ <;> rcases k with ⟨k1, k2, rfl⟩ | ⟨k1, rfl⟩ | ⟨k1, k2, rfl⟩ <;> first | rfl | exact absurd k1 h1 | exact absurd h1 k1 | exact absurd k2 h2 | exact absurd h2 k2

set_option maxRecDepth 100000 in
set_option maxHeartbeats 4000000 in
theorem walkTuranWords (a0 : Option Addr) (len0 cap0 : Nat) (z0 : List Int) (a1 : Int) (a2 : Option Addr) (len2 cap2 : Nat) (z2 : List Int) (a3 : Bool) (w : World) (w0 : RowIn .i64 w a0 len0 cap0 z0) (w1 : (Lit.int .u16 a1).wf = true) (w2 : RowIn .u8 w a2 len2 cap2 z2) :
    Calls Tryz.prog 13 #[.slice a0 len0 cap0, .int .u16 a1, .slice a2 len2 cap2, .bool a3] w fun e w' => e = .returned (.bool true) ∧ Below w.heap.size w w' := by
  have hnot : ∀ (x : Bool) (w : World), (Op.unary .not (.bool x)).run Tryz.prog w = .ok (.bool (!x)) w := fun _ _ => rfl
  obtain ⟨hsl, hll, _, _⟩ := w0.sl
  generalize z0.take len0 = zs at *
  have HS : Hid (∀ W, Keeps (fun _ => False) w W → Sl .i64 W (.slice a0 len0 cap0) zs) := Lib.hid (fun W hk => hsl.keeps hk (fun _ _ h => h))
  obtain rfl := hll
  have hlen : zs.length ≤ 9223372036854775807 := by obtain ⟨_, _, _, h1, h2, _⟩ := hsl; omega
  obtain ⟨p, rfl, hp16⟩ := u16_in w1
  obtain ⟨ps, hp, hps⟩ := w2.bytes
  have hAny := fun W (hk : Keeps (fun _ => False) w W) => refAny04_any (.slice a2 len2 cap2) ps (p % 30) W (hp.keeps hk (fun _ _ h => h)) hps (by omega)
  have e1 : ((p % 30 : Nat) : Int) = (p : Int) % 30 := by omega
  rw [e1] at hAny
  have HAny := Lib.hid hAny
  clear w0 w1 w2 hsl hp hps hAny e1
  go_enter Tryz.func13, Tryz.ntmps13
  go_wp2_with fail
  refine (awake12_any _).mono ?_
  rintro e w1 ⟨rfl, hk1⟩
  have h0 : OwnI w.heap.size w1 (.slice none 0 0) [] ∧ Keeps (fun _ => False) w w1 := ⟨OwnI.nil _ _, hk1⟩
  clear hk1
  go_wp2_with fail
  go_loopg [9, 25] (zs.length + 1) (fun m kv i wr => ∃ (j : Nat) (ks : List Nat), j ≤ zs.length ∧ m = zs.length + 1 - j ∧ i = .int .i64 j ∧ ks.length ≤ 30 ∧ ks.length ≤ j ∧ (∀ k ∈ ks, k < 4) ∧ OwnI w.heap.size wr kv (nats ks) ∧ Keeps (fun _ => False) w wr)
  case atStart => exact ⟨0, [], Nat.zero_le _, rfl, rfl, by simp, by simp, (fun k hk => by cases hk), h0⟩
  case round =>
    clear h0
    obtain ⟨j, ks, hj, hgk, rfl, hk20, hkj, hk4, hown, hkw⟩ := hrel
    have HG := Lib.hid hgk
    clear hgk
    by_cases hlt : j < zs.length
    · obtain ⟨a', cap', hsv', _, _, _, hc⟩ := HS.out wr hkw
      simp only [Value.slice.injEq] at hsv'
      obtain ⟨rfl, -, rfl⟩ := hsv'
      have hz := List.getElem?_eq_getElem (l := zs) (i := j) hlt
      obtain ⟨g, off, rfl, hcell⟩ := hc j _ hz
      generalize zs[j] = x at *
      have HK4 := Lib.hid (And.intro hk4 hkw)
      clear hc hz hk4 hkw
      by_cases h20 : j < 30
      · obtain ⟨y, hy, hy2⟩ : ∃ y : Nat, IntKind.u64.wrap x = (y : Int) ∧ y ≤ 18446744073709551615 := by
          have h1 := IntKind.wrap_u64 x
          refine ⟨(IntKind.u64.wrap x).toNat, ?_, ?_⟩
          · rw [h1]; omega
          · rw [h1]; omega
        have hnl : ks.length ≤ 10000000000 := by omega
        have hsz := HK4.out.2.size
        have hfo := hown.form
        rw [nats_len] at hfo
        obtain ⟨fa, fc, rfl, _, _⟩ := hfo
        have HN : Hid ((nats ks).length = ks.length) := Lib.hid (nats_len ks)
        have HY := Lib.hid hy
        go_wp2_with (at_builtin; go_loud (refine append1n ks.length rfl _ _ rfl w.heap.size (.slice fa ks.length fc) (nats ks) ((y : Int) % 4) HN wr.heap.size rfl rfl rfl hown hnl hsz ?_); intro g2 cap2 w3 hown3 hk3 hat hg)
        have hk4' : ∀ k ∈ ks ++ [y % 4], k < 4 := fun k hk => by
          rcases List.mem_append.1 hk with hk | hk
          · exact HK4.out.1 k hk
          · simp only [List.mem_singleton] at hk; omega
        have ho' : OwnI w.heap.size w3 (.slice (some ⟨g2, 0, none⟩) (ks.length + 1) cap2) (nats (ks ++ [y % 4])) := by
          have : nats (ks ++ [y % 4]) = nats ks ++ [(y : Int) % 4] := by simp [nats]
          rw [this]; exact hown3
        have hkf := HK4.out.2.trans hk3 (fun x hx h => by have := (hown.lt x h).1; omega)
        have HF := Lib.hid (And.intro hk4' (And.intro ho' hkf))
        clear hk4' ho' hkf hown3 hk3 hat hown
        go_wp2
        go_roundg (zs.length + 1 - (j + 1))
        case measure => rw [HG.out]; omega
        case rel => exact ⟨j + 1, ks ++ [y % 4], by omega, rfl, by go_num, by simp; omega, by simp; omega, HF.out⟩
      · have HF := Lib.hid hown
        clear hown
        go_wp2
        go_roundg (zs.length + 1 - (j + 1))
        case measure => rw [HG.out]; omega
        case rel => exact ⟨j + 1, ks, by omega, rfl, by go_num, hk20, by omega, HK4.out.1, HF.out, HK4.out.2⟩
    · obtain rfl : j = zs.length := by omega
      have HW := Lib.hid (And.intro hk4 (And.intro hown hkw))
      clear hk4 hown hkw hkj hlt
      go_upto_if 40 with fail
      go_cut [9] from 40 to 45 (fun kv wx => ∃ ks : List Nat, (∀ k ∈ ks, k < 4) ∧ ks.length ≤ 60 ∧ OwnI w.heap.size wx kv (nats ks) ∧ Keeps (fun _ => False) w wx)
      case first =>
        cases a3
        · go_wp2
          go_meet
          exact ⟨ks, HW.out.1, by omega, HW.out.2.1, HW.out.2.2⟩
        · go_wp2_with fail
          refine (HAny.out _ HW.out.2.2).mono ?_
          rintro e w2 ⟨kv, ks2, rfl, hown2, ⟨h42, hl2, _⟩, hk2⟩
          have HF := Lib.hid (And.intro h42 (And.intro (hown2.mono (fun k hk => Nat.le_trans HW.out.2.2.size (hown2.lt k hk).1)) (HW.out.2.2.trans hk2 (fun _ _ h => h))))
          clear h42 hown2 hk2
          go_wp2
          go_meet
          exact ⟨ks2, HF.out.1, by omega, HF.out.2.1, HF.out.2.2⟩
      case rest =>
        obtain ⟨K, h4, hl, hown, hk⟩ := hcut
        have hO := of12_any _ K _ hown.sl (fun k hk => (hown.lt k hk).2) h4 (by omega)
        have H0 := Lib.hid (And.intro h4 (And.intro hown hk))
        clear HW hk20 HG h4 hown hk
        go_wp2_with fail
        refine hO.mono ?_
        rintro e w2 ⟨b, rfl, hPs⟩
        clear hO
        obtain ⟨v, hv, hb, hvb, hk2⟩ := hPs
        have HV : Hid (∀ W, Keeps (fun _ => False) w2 W → WordAt W b v K) := Lib.hid (fun W hk => hv.keeps hk (fun h => h) (fun _ _ h => h))
        have hDc := turanDecode_any (.pointer (some ⟨b, 0, none⟩)) K w2 H0.out.1 (by omega) (fun W kW => indexOf_word b v K W (HV.out W kW) H0.out.1 (by omega))
        have H2 := Lib.hid (And.intro (H0.out.2.2.trans hk2 (fun _ _ h => h)) (H0.out.2.1.keeps hk2 (fun _ _ h => h)))
        clear hv hb hvb hk2
        go_wp2_with fail
        refine hDc.mono ?_
        clear hDc
        rintro e w3 (⟨hB, hC, bm, rfl, hA, hbm, hk3⟩ | ⟨c, hc, rfl, hk3⟩)
        · have hW : Wd K := ⟨H0.out.1, hB⟩
          obtain ⟨ln, hln, hln2⟩ : ∃ ln : Nat, (if K.length = 0 then (1 : Int) else 0) = (ln : Int) ∧ ln = if K.length = 0 then 1 else 0 := by
            by_cases h : K.length = 0
            · exact ⟨1, by rw [if_pos h]; rfl, by rw [if_pos h]⟩
            · exact ⟨0, by rw [if_neg h]; rfl, by rw [if_neg h]⟩
          obtain ⟨rt, hrt⟩ : ∃ rt : Int, (if K.length = 0 then (-1 : Int) else 0) = rt := ⟨_, rfl⟩
          have hEn0 := hW.dec_enc hC
          rw [hrt, ← hln2] at hEn0
          rw [hrt, hln] at hA
          have HWC : Hid (Wd K ∧ CanonOk K ∧ EncR (decL K) ln rt K 0 ∧ CodeW K 0 ∧ ((if K.length = 0 then (1 : Int) else 0) = (ln : Int)) ∧ ((if K.length = 0 then (-1 : Int) else 0) = rt)) := Lib.hid ⟨hW, hC, hEn0, .inl ⟨hB, hC, rfl⟩, hln, hrt⟩
          have hCk := ref12Check_any _ K w3 (H2.out.2.keeps hk3 (fun _ _ h => h)).sl H0.out.1 (by omega)
          have H3 := Lib.hid (And.intro (H2.out.1.trans hk3 (fun _ _ h => h)) (And.intro hk3 (And.intro hA (And.intro hbm (H2.out.2.keeps hk3 (fun _ _ h => h))))))
          clear hk3 hW hC hB hEn0 hA hbm hln hln2 hrt
          go_wp2_with fail
          refine hCk.mono ?_
          rintro e w4 ⟨c2, rfl, hc2, hk4⟩
          obtain rfl := CodeW.unique HWC.out.2.2.2.1 hc2
          have k24 := H3.out.2.1.trans hk4 (fun _ _ h => h)
          have hTC := turanCheck_any (.pointer (some ⟨b, 0, none⟩)) K w4 (by omega) (fun W kW => indexOf_word b v K W (HV.out W (k24.trans kW (fun _ _ h => h))) H0.out.1 (by omega))
          have H4 := Lib.hid hk4
          clear hCk hc2 hk4 k24
          go_wp2_with fail
          refine hTC.mono ?_
          rintro e w5 ⟨c3, rfl, hc3, hk5⟩
          obtain rfl := CodeW.unique HWC.out.2.2.2.1 hc3
          have k35 := H4.out.trans hk5 (fun _ _ h => h)
          have hRD := refDecode_any _ K w5 (H3.out.2.2.2.2.keeps k35 (fun _ _ h => h)).sl HWC.out.1 (by omega)
          rw [HWC.out.2.2.2.2.1, HWC.out.2.2.2.2.2] at hRD
          have H5 := Lib.hid k35
          clear hTC hc3 hk5 k35
          go_wp2_with fail
          refine hRD.mono ?_
          rintro e w6 ⟨sv, rfl, hsv, hk6⟩
          clear hRD
          have hfo := hsv.form
          rw [nats_len, decL_length] at hfo
          obtain ⟨sa, sc, rfl, _, _⟩ := hfo
          have k36 := H5.out.trans hk6 (fun _ _ h => h)
          have H6 := Lib.hid (And.intro k36 hsv)
          have ka := (Keeps.refl (fun _ => False) w6).alloc (.cells #[.slice sa K.length sc, .int .i64 rt, .int .i64 ln] 72)
          have hbx := heap_alloc_new w6 (.cells #[.slice sa K.length sc, .int .i64 rt, .int .i64 ln] 72)
          have hA7 := H3.out.2.2.1.keeps (k36.trans ka (fun _ _ h => h)) (fun h => h) (fun _ _ h => h)
          have hEn := turanEncode_any hA7
          have HBX := Lib.hid (And.intro hbx (And.intro ka hA7))
          clear k36 hsv hk6 ka hbx hA7
          unfold mapV
          go_wp2_with fail
          refine hEn.mono ?_
          rintro e w7 ⟨p4, c7, K7, rfl, hE7, hq7, hc7⟩
          clear hEn
          obtain ⟨rfl, rfl⟩ := HWC.out.2.2.1.unique hE7
          obtain ⟨_, bw, rfl, hwb⟩ | ⟨hc7, _⟩ := hc7
          rotate_left
          · exact absurd rfl hc7
          obtain ⟨G, hG⟩ : ∃ G : World → Prop, G = fun W => (∃ R', MapAt W bm (decL K) rt ln R') ∧ Keeps (fun k => k = bm) w7 W := ⟨_, rfl⟩
          have hbm3 := H3.out.2.2.1.lt
          have s36 := H6.out.1.size
          have hbx7 := hq7.2.at HBX.out.1 (by omega)
          have hkA := HBX.out.2.1
          have hg0 : G w7.drew := by
            rw [hG]
            exact ⟨⟨_, hq7.1.keeps ((Keeps.refl (fun _ => False) w7).drew) (fun h => h) (fun _ _ h => h)⟩, (Keeps.refl (fun k => k = bm) w7).drew⟩
          have sA := hkA.size
          have s23 := H3.out.2.1.size
          have HS : Hid (∀ W, G W → W.cell? ⟨w6.heap.size, 0, none⟩ = some (.slice sa K.length sc) ∧ W.cell? ⟨w6.heap.size, 1, none⟩ = some (.int .i64 rt) ∧ W.cell? ⟨w6.heap.size, 2, none⟩ = some (.int .i64 ln)) := Lib.hid (fun W hg => by
            rw [hG] at hg
            have hb := hg.2.at hbx7 (by omega)
            exact ⟨World.cell_of_heap hb 0, World.cell_of_heap hb 1, World.cell_of_heap hb 2⟩)
          have hstill : ∀ W W', G W → Keeps (fun _ => False) W W' → G W' := fun W W' hg hk => by
            rw [hG] at hg ⊢
            obtain ⟨⟨R', hA⟩, hk7⟩ := hg
            exact ⟨⟨R', hA.keeps hk (fun h => h) (fun _ _ h => h)⟩, hk7.trans hk (fun _ _ h => h.elim)⟩
          have hsvS : ∀ W, G W → Sl .i64 W (.slice sa K.length sc) (nats (decL K)) := fun W hg => by
            rw [hG] at hg
            refine (((H6.out.2.keeps hkA (fun _ _ h => h)).keeps hq7.2 (fun q hq e => ?_)).keeps hg.2 (fun q hq e => ?_)).sl
            · have := (H6.out.2.lt q hq).1; have := H5.out.size; omega
            · have := (H6.out.2.lt q hq).1; have := H5.out.size; omega
          have cL : Hid (∀ W, G W → Calls Tryz.prog 81 #[.pointer (some ⟨bm, 0, none⟩)] W fun e w' => ∃ lv, e = .returned lv ∧ Sl .i64 w' lv (nats (decL K)) ∧ G w') := Lib.hid (fun W hg => by
            have hg2 := hg
            rw [hG] at hg2
            obtain ⟨⟨R', hA⟩, _⟩ := hg2
            refine (mapList_any hA).mono ?_
            rintro e w' ⟨lv, rfl, hlv, hk⟩
            exact ⟨lv, rfl, hlv.sl, hstill W w' hg hk⟩)
          have cEq : Hid (∀ W lv, G W → Sl .i64 W lv (nats (decL K)) → Calls Tryz.prog 45 #[lv, .slice sa K.length sc] W fun e w' => e = .returned (.bool true) ∧ G w') := Lib.hid (fun W lv hg hs => by
            refine (equal_same lv _ _ W hs (hsvS W hg) (by rw [nats_len, decL_length]; omega)).mono ?_
            rintro e w' ⟨rfl, hk⟩
            exact ⟨rfl, hstill W w' hg hk⟩)
          have cR : Hid (∀ W, G W → Calls Tryz.prog 82 #[.pointer (some ⟨bm, 0, none⟩)] W fun e w' => e = .returned (.int .i64 rt) ∧ G w') := Lib.hid (fun W hg => by
            have hg2 := hg
            rw [hG] at hg2
            obtain ⟨⟨R', hA⟩, _⟩ := hg2
            refine (mapRoot_any hA).mono ?_
            rintro e w' ⟨rfl, rfl⟩
            exact ⟨rfl, hg⟩)
          have cLo : Hid (∀ W, G W → Calls Tryz.prog 70 #[.pointer (some ⟨bm, 0, none⟩)] W fun e w' => e = .returned (.int .i64 ln) ∧ G w') := Lib.hid (fun W hg => by
            have hg2 := hg
            rw [hG] at hg2
            obtain ⟨⟨R', hA⟩, _⟩ := hg2
            refine (mapLone_any hA).mono ?_
            rintro e w' ⟨rfl, rfl⟩
            exact ⟨rfl, hg⟩)
          have hpc : cldr (decL K).length (sg (decL K)) (decL K).length + ln = 1 ∧ genS (partsA (decL K) ln) = 0 := by
            rcases HWC.out.2.2.1 with ⟨_, h, _⟩ | ⟨_, _, h, _⟩ | ⟨h1, h2, _⟩ | ⟨h1, h2, _⟩
            · omega
            · omega
            · exact ⟨h1, h2⟩
            · exact ⟨h1, h2⟩
          have hask : ∀ W W' R', G W → MapQ W bm (decL K) rt ln R' W' → G W' := fun W W' R' hg hq => by
            rw [hG] at hg ⊢
            exact ⟨⟨_, hq.1⟩, hg.2.trans hq.2 (fun _ _ e => e)⟩
          have cP : Hid (∀ W, G W → Calls Tryz.prog 83 #[.pointer (some ⟨bm, 0, none⟩)] W fun e w' => e = .returned (.bool true) ∧ G w') := Lib.hid (fun W hg => by
            have hg2 := hg
            rw [hG] at hg2
            obtain ⟨⟨R', hA⟩, _⟩ := hg2
            refine (eulerPlanar_any hA).mono ?_
            rintro e w' ⟨rfl, hq⟩
            rw [decide_eq_true hpc.2]
            exact ⟨rfl, hask W w' R' hg hq⟩)
          have cC : Hid (∀ W, G W → Calls Tryz.prog 84 #[.pointer (some ⟨bm, 0, none⟩)] W fun e w' => e = .returned (.bool true) ∧ G w') := Lib.hid (fun W hg => by
            have hg2 := hg
            rw [hG] at hg2
            obtain ⟨⟨R', hA⟩, _⟩ := hg2
            refine (eulerConnected_any hA).mono ?_
            rintro e w' ⟨rfl, hq⟩
            rw [decide_eq_true hpc.1]
            exact ⟨rfl, hask W w' R' hg hq⟩)
          have cI : Hid (∀ W, G W → Calls Tryz.prog 85 #[.pointer (some ⟨bm, 0, none⟩)] W fun e w' => e = .returned (.bool true) ∧ G w') := Lib.hid (fun W hg => by
            have hg2 := hg
            rw [hG] at hg2
            obtain ⟨⟨R', hA⟩, hkg⟩ := hg2
            rw [← HWC.out.2.2.2.2.1, ← HWC.out.2.2.2.2.2] at hA
            refine (canonIs_word hA HWC.out.1 HWC.out.2.1 (by omega)).mono ?_
            rintro e w' ⟨rfl, ⟨R2, hA2, _⟩, hk⟩
            rw [HWC.out.2.2.2.2.1, HWC.out.2.2.2.2.2] at hA2
            refine ⟨rfl, ?_⟩
            rw [hG]
            exact ⟨⟨R2, hA2⟩, hkg.trans hk (fun _ _ e => e)⟩)
          have cT1 : Hid (∀ W, G W → Calls Tryz.prog 28 #[.pointer (some ⟨bw, 0, none⟩)] W fun e w' => e = .returned (.string ⟨(kbytes K).toArray⟩) ∧ G w') := Lib.hid (fun W hg => by
            have hg2 := hg
            rw [hG] at hg2
            obtain ⟨v2, hv2, hbw, hv2o, _⟩ := hwb
            refine (wordText_any bw v2 K W (hv2.keeps hg2.2 (fun e => by omega) (fun q hq e => by have := hv2o q hq; omega)) H0.out.1 (by omega)).mono ?_
            rintro e w' ⟨rfl, hk⟩
            exact ⟨rfl, hstill W w' hg hk⟩)
          have hbm2 := H3.out.2.2.2.1
          have k27 := ((H3.out.2.1.trans H6.out.1 (fun _ _ h => h)).trans hkA (fun _ _ h => h)).trans hq7.2 (fun x hx e => by omega)
          have cT2 : Hid (∀ W, G W → Calls Tryz.prog 28 #[.pointer (some ⟨b, 0, none⟩)] W fun e w' => e = .returned (.string ⟨(kbytes K).toArray⟩) ∧ G w') := Lib.hid (fun W hg => by
            have hg2 := hg
            rw [hG] at hg2
            refine (wordText_any b v K W (HV.out W (k27.trans hg2.2 (fun x hx e => by omega))) H0.out.1 (by omega)).mono ?_
            rintro e w' ⟨rfl, hk⟩
            exact ⟨rfl, hstill W w' hg hk⟩)
          have HEnd : Hid (∀ W, G W → Below w.heap.size w W) := Lib.hid (fun W hg => by
            rw [hG] at hg
            have := H2.out.1.size
            exact ((H2.out.1.trans k27 (fun _ _ h => h)).trans hg.2 (fun x hx e => by omega)).below (fun _ _ h => h))
          have hmin : min (0 : Int) ((K.length : Int) - 1) = rt := by
            rw [← HWC.out.2.2.2.2.2]
            split <;> omega
          clear hpc hask hbm2 k27 hwb hstill hsvS hbx7 hkA hq7 hE7 hbm3 s36 sA s23 hG
          obtain ⟨c0, c1, c2⟩ := HS.out _ hg0
          generalize (⟨(kbytes K).toArray⟩ : ByteArray) = str at *
          have hrt2 := HWC.out.2.2.2.2.2
          go_wp2_with fail
          have hmn : ∀ W, (Builtin.min_ #[3, 3] 3 #[.int .i64 0, .int .i64 ((K.length : Int) - 1)]).run Tryz.prog W = .ok (.int .i64 rt) W := fun W => by
            have h5 : (Builtin.min_ #[3, 3] 3 #[.int .i64 0, .int .i64 ((K.length : Int) - 1)]).run Tryz.prog W = .ok (.int .i64 (if (K.length : Int) - 1 < 0 then (K.length : Int) - 1 else 0)) W := rfl
            rw [h5, ← hrt2]
            by_cases hK0 : K.length = 0
            · rw [if_pos hK0, if_pos (by omega), hK0]; rfl
            · rw [if_neg hK0, if_neg (by omega)]
          have hN1 : IntKind.i64.wrap ((K.length : Int) - 1) = (K.length : Int) - 1 := IntWalk.i64_in _ (by omega)
          clear hmin hrt2
          generalize K.length = N at *
          go_region_held3 (fun w' => w'.cell? ⟨w6.heap.size, 0, none⟩ = some (.slice sa N sc) ∧ w'.cell? ⟨w6.heap.size, 1, none⟩ = some (.int .i64 rt) ∧ w'.cell? ⟨w6.heap.size, 2, none⟩ = some (.int .i64 ln)) (first | exact ⟨c0, c1, c2⟩ | exact HS.out _ hg) (first | (go_at_call 81; refine (cL.out _ hg0).mono ?_; rintro e w8 ⟨lv, rfl, hls, hg⟩; clear hg0) | (go_at_call 45; refine (cEq.out _ _ hg hls).mono ?_; rintro e w8 ⟨rfl, hg⟩) | (go_at_call 82; refine (cR.out _ hg).mono ?_; rintro e w8 ⟨rfl, hg⟩) | (go_at_call 70; refine (cLo.out _ hg).mono ?_; rintro e w8 ⟨rfl, hg⟩) | (go_at_call 83; refine (cP.out _ hg).mono ?_; rintro e w8 ⟨rfl, hg⟩) | (go_at_call 84; refine (cC.out _ hg).mono ?_; rintro e w8 ⟨rfl, hg⟩) | (go_at_call 85; refine (cI.out _ hg).mono ?_; rintro e w8 ⟨rfl, hg⟩) | (go_at_call 28; (first | (with_reducible refine (cT1.out _ hg).mono ?_) | (with_reducible refine (cT2.out _ hg).mono ?_)); rintro e w8 ⟨rfl, hg⟩))
          all_goals
            go_wp2
            go_ret
            exact ⟨by simp, HEnd.out _ hg⟩
        · have hcw : CodeW K c := .inr hc
          have hc0 : ((c : Int) == 0) = false ∧ ((c : Int) != 0) = true := by
            rcases hc with ⟨_, rfl⟩ | ⟨_, _, rfl⟩ <;> exact ⟨rfl, rfl⟩
          have hCk := ref12Check_any _ K w3 (H2.out.2.keeps hk3 (fun _ _ h => h)).sl H0.out.1 (by omega)
          have H3 := Lib.hid (And.intro (H2.out.1.trans hk3 (fun _ _ h => h)) hk3)
          obtain ⟨hc0a, hc0b⟩ := hc0
          have HCW := Lib.hid hcw
          clear hk3 hcw hc
          go_wp2_with fail
          refine hCk.mono ?_
          rintro e w4 ⟨c2, rfl, hc2, hk4⟩
          obtain rfl := CodeW.unique HCW.out hc2
          have k24 := H3.out.2.trans hk4 (fun _ _ h => h)
          have hTC := turanCheck_any (.pointer (some ⟨b, 0, none⟩)) K w4 (by omega) (fun W kW => indexOf_word b v K W (HV.out W (k24.trans kW (fun _ _ h => h))) H0.out.1 (by omega))
          have H4 := Lib.hid (And.intro (H3.out.1.trans hk4 (fun _ _ h => h)) k24)
          clear hCk hc2 hk4 k24
          go_wp2_with fail
          refine hTC.mono ?_
          rintro e w5 ⟨c3, rfl, hc3, hk5⟩
          obtain rfl := CodeW.unique HCW.out hc3
          have k25 := H4.out.2.trans hk5 (fun _ _ h => h)
          have hNm := turanNames_any (.pointer (some ⟨b, 0, none⟩)) K w5 H0.out.1 (by omega) (fun W kW => indexOf_word b v K W (HV.out W (k25.trans kW (fun _ _ h => h))) H0.out.1 (by omega))
          have H5 := Lib.hid (And.intro (H4.out.1.trans hk5 (fun _ _ h => h)) k25)
          clear hTC hc3 hk5 k25
          go_wp2_with fail
          refine hNm.mono ?_
          rintro e w6 (⟨hB, hC, _⟩ | ⟨c4, hc4, rfl, hk6⟩)
          · exfalso
            have := CodeW.unique HCW.out (.inl ⟨hB, hC, rfl⟩)
            subst this
            simp at hc0a
          · obtain rfl := CodeW.unique HCW.out (.inr hc4)
            have H6 := Lib.hid (H5.out.1.trans hk6 (fun _ _ h => h))
            clear hNm hc4 hk6
            go_wp2
            go_ret
            exact ⟨rfl, H6.out.below (fun _ _ h => h)⟩

end Go.Proofs.YtipelclohcdkcaaGreat
