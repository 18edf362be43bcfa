/- Layer 4's statements: MixedIs. -/
import Derived.Test.YtipelclohcdkcaaGreatNil
namespace Go.Proofs.YtipelclohcdkcaaGreat
open Go.RowKit

/-- What Index has handed back, told of its two results. -/
def IsIdx (ks : List Nat) (w : World) (mv : Value) (en : Int) (wr : World) : Prop :=
  (en = 0 ∧ MBal ks ∧ ∃ bm bo bi bp F, mv = .pointer (some ⟨bm, 0, none⟩) ∧ MixP wr bm bo bi bp ks 0 F ∧ ∀ x, F x → w.heap.size ≤ x) ∨ (en = 9 ∧ ¬ MBal ks ∧ mv = .pointer none)

theorem IsIdx.keeps {ks : List Nat} {w wr w1 : World} {mv : Value} {en : Int} (h : IsIdx ks w mv en wr) (hk : Keeps (fun _ => False) wr w1) : IsIdx ks w mv en w1 := by
  rcases h with ⟨h1, h2, bm, bo, bi, bp, F, h3, h4, h5⟩ | h
  · exact .inl ⟨h1, h2, bm, bo, bi, bp, F, h3, h4.keeps hk (fun _ _ h => h), h5⟩
  · exact .inr h

/-- What there is while nil ones are asked. -/
def NilS (w : World) (ks : List Nat) (kv mv : Value) (en : Int) (bx bxo : Nat) (bxi bxp : Nat → Nat) (Fx : Nat → Prop) (bu : Nat) (vu : Value) (wr : World) : Prop :=
  OwnI w.heap.size wr kv (nats ks) ∧ Keeps (fun _ => False) w wr ∧ IsIdx ks w mv en wr ∧ MixP wr bx bxo bxi bxp [] 0 Fx ∧ WordAt wr bu vu []

theorem NilS.keeps {w wr w1 : World} {ks : List Nat} {kv mv : Value} {en : Int} {bx bxo : Nat} {bxi bxp : Nat → Nat} {Fx : Nat → Prop} {bu : Nat} {vu : Value} (h : NilS w ks kv mv en bx bxo bxi bxp Fx bu vu wr) (hk : Keeps (fun _ => False) wr w1) : NilS w ks kv mv en bx bxo bxi bxp Fx bu vu w1 := by
  obtain ⟨h1, h2, h3, h4, h5⟩ := h
  exact ⟨h1.keeps hk (fun _ _ h => h), h2.trans hk (fun _ _ h => h), h3.keeps hk, h4.keeps hk (fun _ _ h => h), h5.keeps hk (fun h => h) (fun _ _ h => h)⟩

set_option maxRecDepth 100000 in
set_option maxHeartbeats 8000000 in
theorem walkMixedIs (a0 : Option Addr) (len0 cap0 : Nat) (z0 : List Int) (a1 : Int) (w : World) (w0 : RowIn .i64 w a0 len0 cap0 z0) (_w1 : (Lit.int .i64 a1).wf = true) :
    Calls Tryz.prog 3 #[.slice a0 len0 cap0, .int .i64 a1] w fun e w' => e = .returned (.bool true) ∧ Below w.heap.size w w' := by
  have hnot : ∀ (x : Bool) (w : World), (Op.unary .not (.bool x)).run Tryz.prog w = .ok (.bool (!x)) w := fun _ _ => rfl
  obtain ⟨hsl, hll, _, _⟩ := w0.sl
  generalize z0.take len0 = zs at *
  have HS : Hid (∀ W, Keeps (fun _ => False) w W → Sl .i64 W (.slice a0 len0 cap0) zs) := Lib.hid (fun W hk => hsl.keeps hk (fun _ _ h => h))
  obtain rfl := hll
  have hlen : zs.length ≤ 9223372036854775807 := by obtain ⟨_, _, _, h1, h2, _⟩ := hsl; omega
  clear w0 _w1 hsl
  go_enter Tryz.func3, Tryz.ntmps3
  go_wp2_with fail
  refine (awake04_any _).mono ?_
  rintro e w1 ⟨rfl, hk1⟩
  have h0 : OwnI w.heap.size w1 (.slice none 0 0) [] ∧ Keeps (fun _ => False) w w1 := ⟨OwnI.nil _ _, hk1⟩
  clear hk1
  go_wp2_with fail
  go_loopg [5, 33] (zs.length + 1) (fun m kv i wr => ∃ (j : Nat) (ks : List Nat), j ≤ zs.length ∧ m = zs.length + 1 - j ∧ i = .int .i64 j ∧ ks.length ≤ 20 ∧ ks.length ≤ j ∧ (∀ k ∈ ks, k < 4) ∧ OwnI w.heap.size wr kv (nats ks) ∧ Keeps (fun _ => False) w wr)
  case atStart => exact ⟨0, [], Nat.zero_le _, rfl, rfl, by simp, by simp, (fun k hk => by cases hk), h0⟩
  case round =>
    clear h0
    obtain ⟨j, ks, hj, hgk, rfl, hk20, hkj, hk4, hown, hkw⟩ := hrel
    have HG := Lib.hid hgk
    clear hgk
    by_cases hlt : j < zs.length
    · obtain ⟨a', cap', hsv', _, _, _, hc⟩ := HS.out wr hkw
      simp only [Value.slice.injEq] at hsv'
      obtain ⟨rfl, -, rfl⟩ := hsv'
      have hz := List.getElem?_eq_getElem (l := zs) (i := j) hlt
      obtain ⟨g, off, rfl, hcell⟩ := hc j _ hz
      generalize zs[j] = x at *
      have HK4 := Lib.hid (And.intro hk4 hkw)
      clear hc hz hk4 hkw
      by_cases h20 : j < 20
      · obtain ⟨y, hy, hy2⟩ : ∃ y : Nat, IntKind.u64.wrap x = (y : Int) ∧ y ≤ 18446744073709551615 := by
          have h1 := IntKind.wrap_u64 x
          refine ⟨(IntKind.u64.wrap x).toNat, ?_, ?_⟩
          · rw [h1]; omega
          · rw [h1]; omega
        have hnl : ks.length ≤ 10000000000 := by omega
        have hsz := HK4.out.2.size
        have hfo := hown.form
        rw [nats_len] at hfo
        obtain ⟨fa, fc, rfl, _, _⟩ := hfo
        have HN : Hid ((nats ks).length = ks.length) := Lib.hid (nats_len ks)
        have HY := Lib.hid hy
        go_wp2_with (at_builtin; go_loud (refine append1n ks.length rfl _ _ rfl w.heap.size (.slice fa ks.length fc) (nats ks) ((y : Int) % 4) HN wr.heap.size rfl rfl rfl hown hnl hsz ?_); intro g2 cap2 w3 hown3 hk3 hat hg)
        have hk4' : ∀ k ∈ ks ++ [y % 4], k < 4 := fun k hk => by
          rcases List.mem_append.1 hk with hk | hk
          · exact HK4.out.1 k hk
          · simp only [List.mem_singleton] at hk; omega
        have ho' : OwnI w.heap.size w3 (.slice (some ⟨g2, 0, none⟩) (ks.length + 1) cap2) (nats (ks ++ [y % 4])) := by
          have : nats (ks ++ [y % 4]) = nats ks ++ [(y : Int) % 4] := by simp [nats]
          rw [this]; exact hown3
        have hkf := HK4.out.2.trans hk3 (fun x hx h => by have := (hown.lt x h).1; omega)
        have HF := Lib.hid (And.intro hk4' (And.intro ho' hkf))
        clear hk4' ho' hkf hown3 hk3 hat hown
        go_wp2
        go_roundg (zs.length + 1 - (j + 1))
        case measure => rw [HG.out]; omega
        case rel => exact ⟨j + 1, ks ++ [y % 4], by omega, rfl, by go_num, by simp; omega, by simp; omega, HF.out⟩
      · have HF := Lib.hid hown
        clear hown
        go_wp2
        go_roundg (zs.length + 1 - (j + 1))
        case measure => rw [HG.out]; omega
        case rel => exact ⟨j + 1, ks, by omega, rfl, by go_num, hk20, by omega, HK4.out.1, HF.out, HK4.out.2⟩
    · obtain rfl : j = zs.length := by omega
      have hO := of04_any u5 ks wr hown.sl (fun k hk => (hown.lt k hk).2) hk4 (by omega)
      have HW := Lib.hid (And.intro hk4 (And.intro hown hkw))
      clear hk4 hown hkw hkj hlt
      go_wp2_with fail
      refine hO.mono ?_
      rintro e w2 ⟨b, rfl, v, hv, hb, hvb, hk2⟩
      clear hO
      have hI := indexOf_word b v ks w2 hv HW.out.1 (by omega)
      have hown2 := HW.out.2.1.keeps hk2 (fun _ _ h => h)
      have hk02 := HW.out.2.2.trans hk2 (fun _ _ h => h)
      have HX := Lib.hid (And.intro hown2 hk02)
      clear hv hb hvb hk2 hown2 hk02
      go_wp2_with fail
      refine hI.mono ?_
      clear hI
      intro e w3 h3
      have h3' : ∃ mv en, e = .returned (.tuple #[mv, .int .i64 en]) ∧ (en = 0 ∨ en = 9) ∧ IsIdx ks w mv en w3 ∧ Keeps (fun _ => False) w2 w3 := by
        rcases h3 with ⟨hB, bm, bo, bi, bp, rfl, hM, hk3⟩ | ⟨hB, rfl, hk3⟩
        · exact ⟨_, 0, rfl, .inl rfl, .inl ⟨rfl, hB, bm, bo, bi, bp, _, rfl, hM, fun x hx => Nat.le_trans HX.out.2.size hx.1⟩, hk3⟩
        · exact ⟨_, 9, rfl, .inr rfl, .inr ⟨rfl, hB, rfl⟩, hk3⟩
      obtain ⟨mv, en, rfl, hen, hX3, hk3⟩ := h3'
      have hown3 := HX.out.1.keeps hk3 (fun _ _ h => h)
      have hk03 := HX.out.2.trans hk3 (fun _ _ h => h)
      have HZ := Lib.hid (And.intro hown3 (And.intro hk03 hX3))
      have HEN := Lib.hid hen
      clear h3 hown3 hk03 hk3 hX3 hen
      go_wp2_with (first | (go_at_call 19; refine (mixMate_nil _ _).mono ?_; rintro e w' ⟨rfl, rfl⟩) | (go_at_call 20; refine (mixOwner_nil _ _).mono ?_; rintro e w' ⟨rfl, rfl⟩) | (go_at_call 21; refine (mixRank_nil _ _ _).mono ?_; rintro e w' ⟨rfl, rfl⟩) | (go_at_call 22; refine (mixSelect_nil _ _ _).mono ?_; rintro e w' ⟨rfl, rfl⟩))
      refine (indexOf_nil _).mono ?_
      intro e w4 h4
      have hbn : MBal [] := ⟨⟨by decide, fun p hp => by simp [ownB] at hp; subst hp; decide⟩, ⟨by decide, fun p hp => by simp [ownB] at hp; subst hp; decide⟩⟩
      rcases h4 with ⟨_, bx, bxo, bxi, bxp, rfl, hMx, hk4⟩ | ⟨hn, _⟩
      rotate_left
      · exact absurd hbn hn
      have hown4 := HZ.out.1.keeps hk4 (fun _ _ h => h)
      have hk04 := HZ.out.2.1.trans hk4 (fun _ _ h => h)
      have hX4 := HZ.out.2.2.keeps hk4
      have HA4 := Lib.hid (And.intro hown4 (And.intro hk04 (And.intro hX4 hMx)))
      clear hown4 hk04 hX4 hMx hk4 hbn
      go_wp2_with fail
      refine (mixOf_nil _).mono ?_
      rintro e w5 ⟨bu, rfl, vu, hvu, _, _, hk5⟩
      have hS5 : NilS w ks u5 mv en bx bxo bxi bxp _ bu vu w5 := ⟨HA4.out.1.keeps hk5 (fun _ _ h => h), HA4.out.2.1.trans hk5 (fun _ _ h => h), HA4.out.2.2.1.keeps hk5, HA4.out.2.2.2.keeps hk5 (fun _ _ h => h), hvu⟩
      have H5 := Lib.hid hS5
      clear hS5 hvu hk5 HA4
      go_wp2_with (first | (go_at_call 24; refine (mixLen_nil _).mono ?_; rintro e w' ⟨rfl, rfl⟩) | (go_at_call 25; refine (mixSize_nil _).mono ?_; rintro e w' ⟨rfl, rfl⟩) | (go_at_call 26; refine (wordLen_nil _).mono ?_; rintro e w' ⟨rfl, rfl⟩) | (go_at_call 27; refine (wordCount_nil _ _).mono ?_; rintro e w' ⟨rfl, rfl⟩))
      refine (wordText_nil _).mono ?_
      rintro e w6 ⟨rfl, hk6⟩
      have H6 := Lib.hid (H5.out.keeps hk6)
      clear hk6 H5
      go_wp2_with fail
      refine (wordBits_nil _).mono ?_
      rintro e w7 ⟨b7, rfl, v7, hv7, _, _, hk7⟩
      have H7 := Lib.hid (H6.out.keeps hk7)
      have hL7 := len_any b7 v7 [] w7 hv7
      clear hk7 H6 hv7
      go_wp2_with fail
      refine hL7.mono ?_
      rintro e w' ⟨rfl, rfl⟩
      clear hL7
      go_wp2_with (first | (go_at_call 31; refine (mixAt_nil _ _).mono ?_; rintro e w' ⟨rfl, rfl⟩) | (go_at_call 32; refine (wordAt_nil _ _).mono ?_; rintro e w' ⟨rfl, rfl⟩))
      refine (wordAdd_nil _ _).mono ?_
      rintro e w8 ⟨rfl, rfl⟩
      have H8 := Lib.hid (H7.out.keeps ((Keeps.refl (fun _ => False) w7).alloc (.cells #[.int .i64 0] 3)))
      clear H7
      generalize World.alloc _ _ = w8 at *
      have hLx := mixLen_any H8.out.2.2.2.1
      have hLu := wordLen_any _ _ _ _ H8.out.2.2.2.2
      go_wp2_with (first | (go_at_call 24; refine hLx.mono ?_; rintro e w' ⟨rfl, rfl⟩) | (go_at_call 26; refine hLu.mono ?_; rintro e w' ⟨rfl, rfl⟩))
      refine (new_any _).mono ?_
      rintro e w9 ⟨rfl, rfl⟩
      have H9 := Lib.hid (H8.out.keeps ((Keeps.refl (fun _ => False) w8).alloc (.cells #[.slice none 0 0, .int .i64 0] 130)))
      have hL9 := len_any _ _ _ _ (vec_new w8)
      clear H8 hLx hLu
      go_wp2_with fail
      refine hL9.mono ?_
      rintro e w' ⟨rfl, rfl⟩
      clear hL9
      generalize World.alloc _ _ = w9 at *
      have hG := refGood04_any u5 ks w9 H9.out.1.sl HW.out.1 (by omega)
      go_wp2_with fail
      refine hG.mono ?_
      rintro e wA ⟨t, rfl, ht, hkA⟩
      have HT := Lib.hid ht
      have HA := Lib.hid (H9.out.keeps hkA)
      clear hG ht hkA H9
      cases t
      · have hne : ¬ MBal ks := fun h => by simpa using HT.out.2 h
        rcases HA.out.2.2.1 with ⟨_, h, _⟩ | ⟨rfl, _, rfl⟩
        · exact absurd h hne
        have HF := Lib.hid (HA.out.2.1.below (fun _ _ h => h))
        clear hne
        go_wp2
        go_ret
        exact ⟨rfl, HF.out⟩
      · have hne : MBal ks := HT.out.1 (by trivial)
        rcases HA.out.2.2.1 with ⟨rfl, _, bm, bo, bi, bp, F, rfl, hM, hFF⟩ | ⟨_, h, _⟩
        rotate_left
        · exact absurd hne h
        have hns : (nats ks).length = ks.length := nats_len ks
        have hfo := HA.out.1.form
        rw [hns] at hfo
        obtain ⟨fa, fc, rfl, hfc, hfc2⟩ := hfo
        clear hns
        have hold := hM.old
        have hmA := hM.after
        have hbel : ∀ W q, MixQ wA bm bo bi bp ks q F W → Below w.heap.size w W := fun W q h => (HA.out.2.1.trans h.2 (fun x hx hf => by have := hFF x hf; omega)).below (fun _ _ h => h)
        have HBL := Lib.hid hbel
        clear hbel hFF
        by_cases hin : 0 ≤ a1 ∧ a1 < ks.length
        · obtain ⟨hi0, hi1⟩ := hin
          obtain ⟨i, rfl⟩ := Int.eq_ofNat_of_zero_le hi0
          obtain ⟨m, hm⟩ := hne.mate HW.out.1 (i := i) (by omega)
          obtain ⟨r, hr⟩ := hne.owner (i := i) (by omega)
          have q1 := mixMate_in hold hmA i m (by omega) hm
          have q2 := fun W (h : MixQ wA bm bo bi bp ks (0 + 4) F W) => mixOwner_in hold h i r (by omega) (by omega) hr
          have hi2 : (i : Int) < (ks.length : Int) := hi1
          clear hm hr hM hmA hne
          go_wp2_with fail
          refine q1.mono ?_
          rintro e wB ⟨rfl, hB⟩
          have q2' := q2 _ hB
          clear q1 q2 hB
          go_wp2_with fail
          refine q2'.mono ?_
          rintro e wC ⟨rfl, hC⟩
          have HF := Lib.hid (HBL.out _ _ hC)
          clear q2' hC
          go_wp2
          go_ret
          exact ⟨rfl, HF.out⟩
        · have q1 := mixMate_out hM a1 hin
          have q2 := mixOwner_out hM a1 hin
          have HF := Lib.hid (HBL.out _ _ hmA)
          have hc : a1 < 0 ∨ (0 ≤ a1 ∧ (ks.length : Int) ≤ a1) := by omega
          clear hM hmA hne hin hold
          rcases hc with h1 | ⟨h1, h2⟩
          case' inl => have hb : decide (0 ≤ a1) = false := decide_eq_false (by omega)
          case' inr => have hb : decide (a1 < (ks.length : Int)) = false := decide_eq_false (by omega)
          all_goals
            go_wp2_with (first | (go_at_call 19; refine q1.mono ?_; rintro e w' ⟨rfl, rfl⟩) | (go_at_call 20; refine q2.mono ?_; rintro e w' ⟨rfl, rfl⟩))
            go_ret
            exact ⟨rfl, HF.out⟩

end Go.Proofs.YtipelclohcdkcaaGreat
