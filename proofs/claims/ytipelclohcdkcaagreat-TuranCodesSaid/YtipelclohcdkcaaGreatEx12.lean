/- Joined texts: Ex, Awake12. -/
import Derived.Test.YtipelclohcdkcaaGreatVx
import Derived.Test.YtipelclohcdkcaaGreatRight
import Derived.Test.YtipelclohcdkcaaGreatTurans
import Derived.Test.YtipelclohcdkcaaGreatDecWk
import Derived.Test.YtipelclohcdkcaaGreatTexts

/- The document's example of a word, and its map. No program is named here. -/
namespace Go.Proofs.YtipelclohcdkcaaGreat

def exW : List Nat := [0, 0, 2, 1, 1, 3]

theorem exW_right : WRight exW := by
  have hD : ∀ p, p < 7 → 0 ≤ DD exW p := by decide
  have hB : ∀ p, p < 7 → 0 ≤ BB exW p := by decide
  refine { k4 := by decide, dpos := fun p hp => hD p (by simp [exW] at hp; omega), bpos := fun p hp => hB p (by simp [exW] at hp; omega), right := fun i hi o ho => ?_, dend := by decide, bend := by decide }
  have hil := lt_of_get hi
  have h5 : i = 5 := by
    have : ∀ i, i < 6 → exW[i]? = some 3 → i = 5 := by decide
    exact this i hil hi
  subst h5
  have h1 := ho.hit
  have h2 := hD o (by have := ho.lt; omega)
  rw [show DD exW 5 = 0 by decide] at h1
  omega

theorem exW_wd : Wd exW := ⟨exW_right.k4, exW_right.bal⟩
theorem exW_canon : CanonOk exW := fun _ _ _ h1 h2 h3 => exW_right.check h1 h2 h3

theorem exW_mp2 : mp exW 2 = 5 := by
  refine exW_wd.mp_pair (s := 1) ⟨by decide, by decide, by decide, by decide, by decide, ?_⟩
  intro p h1 h2
  have : ∀ p, p < 6 → 2 < p → ex (ownB 1 exW) (pr 1 exW 2) < ex (ownB 1 exW) (pr 1 exW p) := by decide
  exact this p (by omega) h1

theorem exW_mp5 : mp exW 5 = 2 := by
  have := exW_wd.mp_mp (i := 2) (by decide)
  rwa [exW_mp2] at this

theorem exW_mp0 : mp exW 0 = 4 := by
  refine exW_wd.mp_pair (s := 0) ⟨by decide, by decide, by decide, by decide, by decide, ?_⟩
  intro p h1 h2
  have : ∀ p, p < 5 → 0 < p → ex (ownB 0 exW) (pr 0 exW 0) < ex (ownB 0 exW) (pr 0 exW p) := by decide
  exact this p (by omega) h1

theorem exW_mp1 : mp exW 1 = 3 := by
  refine exW_wd.mp_pair (s := 0) ⟨by decide, by decide, by decide, by decide, by decide, ?_⟩
  intro p h1 h2
  have : ∀ p, p < 4 → 1 < p → ex (ownB 0 exW) (pr 0 exW 1) < ex (ownB 0 exW) (pr 0 exW p) := by decide
  exact this p (by omega) h1

theorem exW_mp4 : mp exW 4 = 0 := by
  have := exW_wd.mp_mp (i := 0) (by decide)
  rwa [exW_mp0] at this

theorem exW_mp3 : mp exW 3 = 1 := by
  have := exW_wd.mp_mp (i := 1) (by decide)
  rwa [exW_mp1] at this

theorem exW_nm : nmD exW 0 = 0 ∧ nmD exW 1 = 2 ∧ nmD exW 2 = 4 ∧ nmD exW 3 = 3 ∧ nmD exW 4 = 1 ∧ nmD exW 5 = 5 := by
  unfold nmD
  rw [exW_mp0, exW_mp1, exW_mp2, exW_mp3, exW_mp4, exW_mp5]
  decide

theorem exW_tn : tn exW 0 = 5 ∧ tn exW 1 = 4 ∧ tn exW 2 = 3 ∧ tn exW 3 = 2 ∧ tn exW 4 = 1 ∧ tn exW 5 = 0 := by
  unfold tn
  rw [exW_mp0, exW_mp1, exW_mp2, exW_mp3, exW_mp4, exW_mp5]
  decide

theorem exW_dec : decL exW = [5, 2, 1, 4, 3, 0] := by
  obtain ⟨n0, n1, n2, n3, n4, n5⟩ := exW_nm
  obtain ⟨t0, t1, t2, t3, t4, t5⟩ := exW_tn
  have s0 := exW_wd.sD_nm (i := 0) (by decide)
  have s1 := exW_wd.sD_nm (i := 1) (by decide)
  have s2 := exW_wd.sD_nm (i := 2) (by decide)
  have s3 := exW_wd.sD_nm (i := 3) (by decide)
  have s4 := exW_wd.sD_nm (i := 4) (by decide)
  have s5 := exW_wd.sD_nm (i := 5) (by decide)
  rw [n0, t0, n5] at s0
  rw [n1, t1, n4] at s1
  rw [n2, t2, n3] at s2
  rw [n3, t3, n2] at s3
  rw [n4, t4, n1] at s4
  rw [n5, t5, n0] at s5
  show [sD exW 0, sD exW 1, sD exW 2, sD exW 3, sD exW 4, sD exW 5] = _
  rw [s0, s1, s2, s3, s4, s5]

/-- The document's other example: balanced, but of no map. -/
def badW : List Nat := [2, 0, 3, 1]

end Go.Proofs.YtipelclohcdkcaaGreat

/- law12.awake: the document's examples. -/
namespace Go.Proofs.YtipelclohcdkcaaGreat
open Go.RowKit

theorem badW_bal : MBal badW := by
  have h1 : ∀ p, p < 3 → 0 ≤ ex (ownB 0 badW) p := by decide
  have h2 : ∀ p, p < 3 → 0 ≤ ex (ownB 1 badW) p := by decide
  exact ⟨⟨by decide, fun p hp => h1 p (by have : (ownB 0 badW).length = 2 := by decide
                                          omega)⟩, ⟨by decide, fun p hp => h2 p (by have : (ownB 1 badW).length = 2 := by decide
                                                                                    omega)⟩⟩

theorem badW_wd : Wd badW := ⟨by decide, badW_bal⟩

theorem badW_not : ¬ CanonOk badW := by
  intro hC
  have hp : PairW badW 1 0 2 := ⟨by decide, by decide, by decide, by decide, by decide, fun p h1 h2 => by
    have : ∀ p, p < 3 → 0 < p → ex (ownB 1 badW) (pr 1 badW 0) < ex (ownB 1 badW) (pr 1 badW p) := by decide
    exact this p (by omega) h1⟩
  have hm := badW_wd.mate (i := 0) (by decide)
  rw [badW_wd.mp_pair hp] at hm
  obtain ⟨r, hr⟩ := badW_bal.owner (i := 2) (by decide)
  have hc := hC 2 0 r rfl hm.symm hr
  have ho : OwnAt badW 2 1 := ⟨by decide, rfl, by decide, fun p h1 h2 => by
    have : ∀ p, p < 3 → 1 < p → DD badW 1 < DD badW p := by decide
    exact this p (by omega) h1⟩
  rcases Int.lt_or_le r 0 with hneg | hpos
  · rcases hr with ⟨e1, _⟩ | ⟨_, o', n', _, _, rfl⟩
    · rw [ex_DD (by decide)] at e1
      exact absurd e1 (by decide)
    · omega
  · obtain ⟨m, rfl⟩ := Int.eq_ofNat_of_zero_le hpos
    have := (hr.own (by decide)).unique ho
    omega

theorem bad_ks {ks : List Nat} (h : (⟨#[91, 40, 93, 41]⟩ : ByteArray).data.toList.map kindZ = nats ks) : ks = badW := by
  have h1 : (⟨#[91, 40, 93, 41]⟩ : ByteArray).data.toList.map kindZ = nats badW := by decide
  rw [h1] at h
  have h2 := congrArg toKs h
  rw [toKs_nats, toKs_nats] at h2
  exact h2.symm

theorem bad_good {i : Nat} {c : UInt8} (h : (⟨#[91, 40, 93, 41]⟩ : ByteArray).data.toList[i]? = some c) : 0 ≤ kindZ c := by
  have h1 : ∀ c ∈ (⟨#[91, 40, 93, 41]⟩ : ByteArray).data.toList, 0 ≤ kindZ c := by decide
  exact h1 c (List.mem_of_getElem? h)

theorem sl_dec (w : World) : OwnI w.heap.size (w.alloc (.cells #[.int .i64 5, .int .i64 2, .int .i64 1, .int .i64 4, .int .i64 3, .int .i64 0] 3)) (.slice (some ⟨w.heap.size, 0, none⟩) 6 6) (nats (decL exW)) := by
  rw [exW_dec]
  exact World.ownsRow_lit (base := w.heap.size) (e := 3) (size := 1) w #[.int .i64 5, .int .i64 2, .int .i64 1, .int .i64 4, .int .i64 3, .int .i64 0] 6 (Nat.le_refl _) (by unfold maxLen; omega) rfl

theorem WordAt.len {w : World} {b : Nat} {v : Value} {ks : List Nat} (h : WordAt w b v ks) : ks.length ≤ 9223372036854775807 := by
  obtain ⟨_, h1, h2⟩ := h
  rcases h2 with ⟨_, h0⟩ | ⟨g, cap, cur, _, _, _, hn, hm, _⟩
  · omega
  · unfold maxLen at hm; omega

set_option maxRecDepth 100000 in
set_option maxHeartbeats 4000000 in
theorem awake12_any (w : World) : Calls Tryz.prog 58 #[] w fun e w' => e = .returned (.bool true) ∧ Keeps (fun _ => False) w w' := by
  have k0 := (Keeps.refl (fun _ => False) w).alloc (.cells #[.int .i64 5, .int .i64 2, .int .i64 1, .int .i64 4, .int .i64 3, .int .i64 0] 3)
  have hNw := new_some (.slice (some ⟨w.heap.size, 0, none⟩) 6 6) (decL exW) 0 0 _ (sl_dec w).sl exW_wd.decL_isP (by rw [decL_length]; decide) (by rw [decL_length]; decide) (by rw [decL_length]; decide) (by omega)
  have HK := Lib.hid k0
  clear k0
  go_enter Tryz.func58, Tryz.ntmps58
  go_wp2_with fail
  refine hNw.mono ?_
  rintro e w1 ⟨b, rfl, hA, hb, hk1⟩
  clear hNw
  have hEn := turanEncode_any (l := 0) hA
  have hk01 := HK.out.trans hk1 (fun _ _ h => h)
  have hsw := HK.out.size
  have H1 := Lib.hid (And.intro hk01 (And.intro (show w.heap.size ≤ b by omega) hA))
  clear hA hb hk1 hk01 hsw
  go_wp2_with fail
  refine hEn.mono ?_
  rintro e w2 ⟨p, c, ks, rfl, hE, hq, hc⟩
  clear hEn
  have hde := exW_wd.dec_enc exW_canon
  rw [if_neg (by decide), if_neg (by decide)] at hde
  obtain ⟨rfl, rfl⟩ := hE.unique hde
  obtain ⟨bw, rfl, v, hWA, hbw, hvw, hkb⟩ : ∃ bw, p = .pointer (some ⟨bw, 0, none⟩) ∧ WordB w1 b bw exW w2 := by
    rcases hc with ⟨_, h⟩ | ⟨h, _⟩
    · exact h
    · omega
  have hk02 := H1.out.1.trans hkb (fun x hx e => by have := H1.out.2.1; omega)
  have hPa := parse_any ⟨#[91, 40, 93, 41]⟩ w2 (by decide)
  have H2 := Lib.hid (And.intro hk02 hWA)
  clear hE hq hc hde hWA hbw hvw hkb hk02
  go_wp2_with fail
  refine hPa.mono ?_
  intro e w3 h3
  clear hPa
  rcases h3 with ⟨bu, ku, hku, rfl, vu, hvu, hbu, hvbu, hk3⟩ | ⟨i, _, _, ⟨c, hc, hneg⟩, _⟩
  rotate_left
  · have := bad_good hc
    omega
  obtain rfl := bad_ks hku
  have hTx := wordText_any bw v exW w3 (H2.out.2.keeps hk3 (fun h => h) (fun _ _ h => h)) exW_wd.k4 (by decide)
  have e1 : (⟨(kbytes exW).toArray⟩ : ByteArray) = ⟨#[40, 40, 91, 41, 41, 93]⟩ := by decide
  rw [e1] at hTx
  have H3 := Lib.hid (And.intro (H2.out.1.trans hk3 (fun _ _ h => h)) hvu)
  clear hku hvu hbu hvbu hk3 e1
  go_wp2_with fail
  refine hTx.mono ?_
  rintro e w4 ⟨rfl, hk4⟩
  clear hTx
  have hvu4 := H3.out.2.keeps hk4 (fun h => h) (fun _ _ h => h)
  have hCh := turanCheck_any (.pointer (some ⟨bu, 0, none⟩)) badW w4 (by decide) (fun W hk => indexOf_word bu vu badW W (hvu4.keeps hk (fun h => h) (fun _ _ h => h)) badW_wd.k4 (by decide))
  have H4 := Lib.hid (H3.out.1.trans hk4 (fun _ _ h => h))
  clear hvu4 hk4
  go_wp2_with fail
  refine hCh.mono ?_
  rintro e w5 ⟨c, rfl, hc, hk5⟩
  have hc10 : c = 10 := by
    rcases hc with ⟨_, h, _⟩ | ⟨h, _⟩ | ⟨_, _, h⟩
    · exact absurd h badW_not
    · exact absurd badW_bal h
    · exact h
  subst hc10
  have H5 := Lib.hid (H4.out.trans hk5 (fun _ _ h => h))
  clear hCh hc hk5
  go_wp2
  go_ret
  exact ⟨rfl, H5.out⟩

end Go.Proofs.YtipelclohcdkcaaGreat
