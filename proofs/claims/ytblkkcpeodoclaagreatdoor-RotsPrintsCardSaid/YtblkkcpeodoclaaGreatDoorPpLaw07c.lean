/- RotsPrints. -/
import Derived.Shelf.RegionOpenPlain
import Derived.Test.YtblkkcpeodoclaaGreatDoorPpLaw07a
import Derived.Test.YtblkkcpeodoclaaGreatDoorPpRefP07
import Derived.Test.YtblkkcpeodoclaaGreatDoorPpCountR
import Derived.Test.YtblkkcpeodoclaaGreatDoorPpMix5
namespace Go.Proofs.YtblkkcpeodoclaaGreatDoor
open Go.RowKit

theorem convB (T : List UInt8) {w : World} {v : Value} (h : Sl .u8 w v (nats (natsB T))) : (convert 22 9 v).run Tryz.prog w = .ok (.string (bytesA T)) w := by
  have h1 := h.conv
  have h2 : strOfNums (nats (natsB T)) = bytesA T := by
    apply Go.WideShapes.bytes_inj
    have h3 := strN_list (natsB T)
    rw [bytes_list] at h3
    rw [h3, bytesA_list]
    exact u8s_natsB T
  rw [← h2]
  exact h1

set_option maxRecDepth 100000 in
set_option maxHeartbeats 8000000 in
theorem walkRotsPrints (a0 : Int) (a1 : Option Addr) (len1 cap1 : Nat) (z1 : List Int) (a2 a3 : Int) (w : World) (w0 : (Lit.int .u8 a0).wf = true) (w1 : RowIn .u8 w a1 len1 cap1 z1) (w2 : (Lit.int .u8 a2).wf = true) (w3 : (Lit.int .u8 a3).wf = true) (hE : EnvR w.heap.size w) :
    Calls Tryz.prog 6 #[.int .u8 a0, .slice a1 len1 cap1, .int .u8 a2, .int .u8 a3] w fun e w' => e = .returned (.bool true) ∧ Below w.heap.size w w' := by
  obtain ⟨p, rfl, hp8⟩ := u8_in w0
  obtain ⟨ps, hp, hps⟩ := w1.bytes
  obtain ⟨root, rfl, hroot⟩ := u8_in w2
  obtain ⟨ln, rfl, hln⟩ := u8_in w3
  have hA := fun w1 (hk : Keeps (fun _ => False) w w1) => refAny06_any (.slice a1 len1 cap1) ps (p % 15) root w1 (hp.keeps hk (fun _ _ h => h)) hps (by omega) hroot
  have e2 : ((p % 15 : Nat) : Int) = (p : Int) % 15 := by omega
  rw [e2] at hA
  have HE := Lib.hid hE
  clear w0 w1 w2 w3 hp hps hroot e2 hE
  go_enter Tryz.func6, Tryz.ntmps6
  go_wp2_with fail
  refine (awake07_any w.heap.size w HE.out).mono ?_
  rintro e w1 ⟨rfl, hk1⟩
  have HK1 := Lib.hid hk1
  clear hk1
  go_wp2_with fail
  refine (hA _ HK1.out).mono ?_
  rintro e w2 ⟨sv, s, rt, rfl, ⟨hsl, hP, hr⟩, hown, hk2⟩
  clear hA
  obtain ⟨sa, sc, hsvf, _, _⟩ := hown.form
  rw [nats_len] at hsvf
  obtain ⟨n, hn⟩ : ∃ n, n = s.length := ⟨_, rfl⟩
  rw [← hn] at hsvf
  subst hsvf
  have hn28 : n ≤ 28 := by omega
  have hrtb : -1 ≤ rt ∧ rt ≤ 1000 := by rcases hr with ⟨_, h⟩ | ⟨r, h, _⟩ <;> omega
  have hsz2 : w.heap.size ≤ w2.heap.size := Nat.le_trans HK1.out.size hk2.size
  obtain ⟨wx, hwx⟩ : ∃ wx, wx = w2.alloc (.cells #[.slice sa n sc, .int .i64 rt, .int .i64 (ln : Int)] 35) := ⟨_, rfl⟩
  have hbx : wx.heap[w2.heap.size]? = some (.cells #[.slice sa n sc, .int .i64 rt, .int .i64 (ln : Int)] 35 (0, 0)) := by
    rw [hwx]
    exact heap_alloc_new w2 _
  have kx2 : Keeps (fun _ => False) w2 wx := by
    rw [hwx]
    exact (Keeps.refl (fun _ => False) w2).alloc _
  have kx : Keeps (fun _ => False) w wx := (HK1.out.trans hk2 (fun _ _ h => h)).trans kx2 (fun _ _ h => h)
  obtain ⟨bx, hbxe⟩ : ∃ bx, bx = w2.heap.size := ⟨_, rfl⟩
  rw [← hbxe] at hbx
  have hown2 := hown.keeps kx2 (fun _ _ h => h)
  have hmap : Calls Tryz.prog 15 #[.slice sa n sc, .int .i64 rt, .int .i64 (ln : Int)] wx (MadeMap wx s rt ln) := new_map hown2.sl hP (by omega) (by omega) (by omega) hr
  have htl := text_len hP (by omega) hrtb (show ln ≤ 65536 by omega)
  have hgood := good_text hP (by omega) (by omega) (show ln ≤ 65536 by omega) hr (by omega : (textB s rt ln).length ≤ 1048576)
  have hbw : w.heap.size ≤ bx := by omega
  have HX := Lib.hid (And.intro hown2 (And.intro kx (And.intro hbx (And.intro hn (And.intro hP (And.intro hr (And.intro hmap (And.intro htl hgood))))))))
  have HSV : Hid (∀ k, (Value.slice sa n sc).ownBlock = some k → k < bx) := Lib.hid (fun k hk => by rw [hbxe]; exact (hown.lt k hk).2)
  clear hown hk2 kx2 kx hbx hsl hP hr hmap htl hgood hown2 hn
  unfold mapV
  go_upto_region 5 with fail
  rw [← hwx, ← hbxe]
  clear hwx hbxe
  obtain ⟨c0, c1, c2⟩ : wx.cell? ⟨bx, 0, none⟩ = some (.slice sa n sc) ∧ wx.cell? ⟨bx, 1, none⟩ = some (.int .i64 rt) ∧ wx.cell? ⟨bx, 2, none⟩ = some (.int .i64 (ln : Int)) := ⟨World.cell_of_heap HX.out.2.2.1 0, World.cell_of_heap HX.out.2.2.1 1, World.cell_of_heap HX.out.2.2.1 2⟩
  go_wp2_with fail
  refine HX.out.2.2.2.2.2.2.1.mono ?_
  rintro e w4 ⟨b, rfl, hma, hbb, hk4⟩
  have hbw4 : w.heap.size ≤ b := by have := HX.out.2.1.size; omega
  have hPr := print_any hma w.heap.size (HE.out.keeps (HX.out.2.1.trans hk4 (fun _ _ h => h)) (fun _ h => h.elim)) hbw4
  have HP := Lib.hid (And.intro hPr (And.intro hk4 hbb))
  clear hPr hma hk4 c0 c1 c2
  go_wp2_with fail
  refine HP.out.1.mono ?_
  rintro e w5 ⟨v, rfl, hv, hvb, hmq⟩
  have hk5 : Keeps (fun _ => False) wx w5 := HP.out.2.1.trans hmq.2 (fun x hx e => by have := HP.out.2.2; omega)
  obtain ⟨R5, hR5⟩ : ∃ R5, MapAt w5 b s rt ln R5 := ⟨_, hmq.1⟩
  obtain ⟨T, hT⟩ : ∃ T, T = textB s rt ln := ⟨_, rfl⟩
  rw [← hT] at hv
  have htl : T.length ≤ 300000 := by rw [hT]; exact HX.out.2.2.2.2.2.2.2.1
  have hgood : GoodK T s rt ln (ldr (sg s) s.length + 1) := by rw [hT]; exact HX.out.2.2.2.2.2.2.2.2
  have hcv := convB T hv
  obtain ⟨va, vc, rfl, -, -⟩ := hv.form
  rw [nats_len, natsB_len] at hcv ⊢
  have hv' : Sl .u8 w5 (.slice va T.length vc) (nats (natsB T)) := by rwa [nats_len, natsB_len] at hv
  obtain ⟨tl, htle⟩ : ∃ tl, tl = T.length := ⟨_, rfl⟩
  rw [← htle] at hv' hcv htl ⊢
  have hcvU : ∀ W, Keeps (fun _ => False) w5 W → (convert 22 9 (.slice va tl vc)).run Tryz.prog W = .ok (.string (bytesA T)) W := fun W hk => convB T (hv'.keeps hk (fun _ _ h => h))
  have hcvd : (convert 22 9 (.slice va tl vc)).run Tryz.prog w5.drew = .ok (.string (bytesA T)) w5.drew := hcvU _ (Keeps.refl (fun _ => False) w5).drew
  have HCV := Lib.hid hcvU
  clear hcvU
  have hCx : ∀ W, Keeps (fun _ => False) w5 W → W.cell? ⟨bx, 0, none⟩ = some (.slice sa n sc) ∧ W.cell? ⟨bx, 1, none⟩ = some (.int .i64 rt) ∧ W.cell? ⟨bx, 2, none⟩ = some (.int .i64 (ln : Int)) := fun W hk => by
    have h := (hk5.trans hk (fun _ _ h => h)).at HX.out.2.2.1 (fun h => h)
    exact ⟨World.cell_of_heap h 0, World.cell_of_heap h 1, World.cell_of_heap h 2⟩
  have hRP : ∀ W, Keeps (fun _ => False) w5 W → Calls Tryz.prog 18 #[.agg #[.slice sa n sc, .int .i64 rt, .int .i64 (ln : Int)]] W fun e w' => e = .returned (.string (bytesA T)) ∧ Keeps (fun _ => False) W w' := fun W hk => by
    have hkk := hk5.trans hk (fun _ _ h => h)
    have := refPrint_any (.slice sa n sc) s rt ln W (HX.out.1.sl.keeps hkk (fun _ _ h => h)) (fun k hk2 => by
      have h1 := HSV.out k hk2
      have h2 := lt_of_block HX.out.2.2.1
      have h3 := hkk.size
      omega) HX.out.2.2.2.2.1 (by have := HX.out.2.2.2.1; omega) hrtb (by omega)
    rw [← hT] at this
    exact this
  have hPa : ∀ W, Keeps (fun _ => False) w5 W → Calls Tryz.prog 9 #[.slice va tl vc] W (ParseR T W) := fun W hk => by
    have h := rotsParse_any (.slice va tl vc) (natsB T) w.heap.size W (HE.out.keeps ((HX.out.2.1.trans hk5 (fun _ _ h => h)).trans hk (fun _ _ h => h)) (fun _ h => h.elim)) (hv'.keeps hk (fun _ _ h => h)) (by rw [natsB_len]; omega)
    rw [u8s_natsB] at h
    exact h
  have hLi : ∀ W, Keeps (fun _ => False) w5 W → Calls Tryz.prog 17 #[.slice va tl vc] W fun e w' => e = .returned (.int .i64 (ldr (sg s) s.length + 1 : Nat)) ∧ Keeps (fun _ => False) W w' := fun W hk => by
    have h := lines_any (.slice va tl vc) (natsB T) W (hv'.keeps hk (fun _ _ h => h)) (natsB_lt T)
    rw [natsB_count, hgood.lines] at h
    exact h
  have HPL := Lib.hid (And.intro hPa hLi)
  clear hPa hLi
  have HR := Lib.hid (And.intro hR5 (And.intro hv' (And.intro hgood (And.intro hk5 (And.intro hCx hRP)))))
  obtain ⟨c0, c1, c2⟩ := hCx w5 (Keeps.refl _ _)
  clear hmq hv hT hk5 hR5 hv' hgood hCx hRP htle hvb
  go_upto_region 7 with fail
  have mixed := Tryz.lays324.mixed
  go_region_with_o (
      go_at_call 18
      refine (HR.out.2.2.2.2.2 _ ?_).mono ?_
      first | exact Keeps.refl _ _ | exact (Keeps.refl (fun _ => False) w5).drew
      rintro e w6 ⟨rfl, hk6⟩
      have HK6 : Hid (Keeps (fun _ => False) w5 w6) := Lib.hid (by first | exact hk6 | exact (Keeps.refl (fun _ => False) w5).drew.trans hk6 (fun _ _ h => h))
      have hcv6 := HCV.out w6 HK6.out
      obtain ⟨y0, y1, y2⟩ := HR.out.2.2.2.2.1 w6 HK6.out
      clear hk6)
  all_goals (
    have HKW : Hid (Keeps (fun _ => False) w w6) := Lib.hid ((HX.out.2.1.trans HR.out.2.2.2.1 (fun _ _ h => h)).trans HK6.out (fun _ _ h => h))
    clear hcv6 hcv hcvd y0 y1 y2 c0 c1 c2
    go_wp2_with fail
    refine (HPL.out.1 w6 HK6.out).mono ?_
    rintro e w7 ⟨hk7, hc⟩
    obtain ⟨b2, s2, rt2, ln2, k2, hG2, rfl, hma2, hbb2⟩ : ∃ (b : Nat) (s : List Nat) (rt : Int) (ln k : Nat), GoodK T s rt ln k ∧ e = .returned (.tuple #[.pointer (some ⟨b, 0, none⟩), .int .i64 k, .int .i64 0]) ∧ MapAt w7 b s rt ln (fun x => w6.heap.size ≤ x ∧ x < w7.heap.size ∧ x ≠ b) ∧ w6.heap.size ≤ b := by
      rcases hc with ⟨_, _, _, _, _, h⟩ | h
      · exact absurd HR.out.2.2.1 (h _ _ _ _)
      · exact h
    obtain ⟨rfl, rfl, rfl, rfl⟩ := hG2.det HR.out.2.2.1
    have hk57 : Keeps (fun _ => False) w5 w7 := HK6.out.trans hk7 (fun _ _ h => h)
    have hm7 := HR.out.1.keeps hk57 (fun h => h) (fun _ _ h => h)
    have hSame := mapSame_eq hma2 hm7 (by have := HX.out.2.2.2.1; omega)
    have H7 := Lib.hid (And.intro hSame (And.intro hk57 (HKW.out.trans hk7 (fun _ _ h => h))))
    clear hG2 hma2 hbb2 hk7 hc hk57 hm7 hSame
    obtain ⟨L, hL⟩ : ∃ L, L = ldr (sg s2) s2.length := ⟨_, rfl⟩
    have hLle := ldr_le (sg s2) s2.length
    have hsn := HX.out.2.2.2.1
    have HL := Lib.hid hL
    rw [← hL] at hLle ⊢
    clear hL
    go_wp2_with fail
    refine H7.out.1.mono ?_
    rintro e w8 ⟨rfl, hk8⟩
    have HK8 := Lib.hid (H7.out.2.1.trans hk8 (fun _ _ h => h))
    have HW8 := Lib.hid (H7.out.2.2.trans hk8 (fun _ _ h => h))
    clear hk8
    have hLi := HPL.out.2 w8 HK8.out
    rw [← HL.out] at hLi
    have HLi := Lib.hid hLi
    clear hLi
    go_wp2_with fail
    refine HLi.out.mono ?_
    rintro e w9 ⟨rfl, hk9⟩
    have HK9 := Lib.hid (HK8.out.trans hk9 (fun _ _ h => h))
    have HW9 := Lib.hid (HW8.out.trans hk9 (fun _ _ h => h))
    clear hk9
    have hm9 := HR.out.1.keeps HK9.out (fun h => h) (fun _ _ h => h)
    have hV := mapVertices_any hm9
    rw [← HL.out] at hV
    have hLo : ∀ w', MapQ w9 b s2 rt2 ln2 R5 w' → Calls Tryz.prog 12 #[.pointer (some ⟨b, 0, none⟩)] w' fun e w'' => e = .returned (.int .i64 (ln2 : Int)) ∧ w' = w'' := fun w' h => mapLone_any h.1
    have HV := Lib.hid (And.intro hV hLo)
    clear hm9 hV hLo
    have t1 : (((L + 1 : Nat) : Int) == 1 + ((L : Int) + (ln2 : Int)) - (ln2 : Int)) = true := by rw [beq_iff_eq]; omega
    have t2 : decide (((L + 1 : Nat) : Int) = 1 + ((L : Int) + (ln2 : Int)) - (ln2 : Int)) = true := decide_eq_true (by omega)
    have t3 : ((L : Int) + 1 == 1 + ((L : Int) + (ln2 : Int)) - (ln2 : Int)) = true := by rw [beq_iff_eq]; omega
    have t4 : (L : Int) + 1 = 1 + ((L : Int) + (ln2 : Int)) - (ln2 : Int) := by omega
    go_wp2_with fail
    refine HV.out.1.mono ?_
    rintro e w10 ⟨rfl, hmq⟩
    have HQ := Lib.hid hmq
    clear hmq
    go_wp2_with fail
    refine (HV.out.2 w10 HQ.out).mono ?_
    rintro e w10 ⟨rfl, rfl⟩
    go_wp2
    go_ret
    exact ⟨rfl, (HW9.out.trans HQ.out.2 (fun x hx e => by omega)).below (fun _ _ h => h)⟩)

end Go.Proofs.YtblkkcpeodoclaaGreatDoor
