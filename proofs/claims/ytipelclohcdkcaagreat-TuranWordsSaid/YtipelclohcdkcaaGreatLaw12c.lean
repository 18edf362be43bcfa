/- law12.TuranCounts: as many right words as Tutte's count says. -/
import Derived.Test.YtipelclohcdkcaaGreatCount
import Derived.Test.YtipelclohcdkcaaGreatEx12
namespace Go.Proofs.YtipelclohcdkcaaGreat
open Go.RowKit

set_option maxRecDepth 100000 in
set_option maxHeartbeats 1000000 in
theorem of12_any (sv : Value) (ks : List Nat) (w : World) (hs : Sl .i64 w sv (nats ks)) (hsv : ∀ k, sv.ownBlock = some k → k < w.heap.size) (h4 : ∀ k ∈ ks, k < 4) (hl : ks.length ≤ 100000000) :
    Calls Tryz.prog 60 #[sv] w fun e w' => ∃ b, e = .returned (.pointer (some ⟨b, 0, none⟩)) ∧ ParS w b ks w' := by
  have k0 := (Keeps.refl (fun _ => False) w).alloc (.cells #[.slice none 0 0] 119)
  have hA := wordAdd_good w.heap.size (.slice none 0 0) [] sv (nats ks) _ (word_new w) (hs.keeps k0 (fun _ _ h => h)) (Kinds4.of h4) (fun k hk => ⟨by have := hsv k hk; omega, by simp [Value.ownBlock]⟩) (by rw [nats_len]; simp; omega)
  rw [toKs_nats, List.nil_append] at hA
  have HH := Lib.hid h4
  clear hs h4
  go_enter Tryz.func60, Tryz.ntmps60
  go_wp2_with fail
  refine (wordNew_any _).mono ?_
  rintro e w1 ⟨rfl, rfl⟩
  go_wp2_with fail
  refine hA.mono ?_
  rintro e w2 ⟨rfl, hgr⟩
  have HF : Hid (ParS w w.heap.size ks w2) := Lib.hid (ParS.grown (Nat.le_refl _) (fun k hk => by simp [Value.ownBlock] at hk) k0 hgr)
  clear hA k0 hgr
  go_wp2
  go_ret
  exact ⟨_, rfl, HF.out⟩

/-- What the check says of letters. -/
theorem check12 (b : Nat) (ks : List Nat) (w0 w : World) (h : ParS w0 b ks w) (h4 : ∀ k ∈ ks, k < 4) (hl : ks.length ≤ 100000) :
    Calls Tryz.prog 59 #[.pointer (some ⟨b, 0, none⟩)] w fun e w' => ∃ c : Nat, e = .returned (.int .i64 c) ∧ ((c : Int) == 0) = okB ks ∧ Keeps (fun _ => False) w0 w' := by
  obtain ⟨v, h1, h2, h3, hk⟩ := h
  refine (turanCheck_any _ ks w hl (fun W kW => indexOf_word b v ks W (h1.keeps kW (fun h => h) (fun _ _ h => h)) h4 (by omega))).mono ?_
  rintro e w' ⟨c, rfl, hc, hk'⟩
  refine ⟨c, rfl, ?_, hk.trans hk' (fun _ _ h => h)⟩
  rcases hc with ⟨h1, h2, rfl⟩ | ⟨h1, rfl⟩ | ⟨h1, h2, rfl⟩
  · rw [(okB_iff h4).2 ⟨h1, h2⟩]; rfl
  · rw [Bool.eq_false_iff.2 (fun e => h1 ((okB_iff h4).1 e).1)]; rfl
  · rw [Bool.eq_false_iff.2 (fun e => h2 ((okB_iff h4).1 e).2)]; rfl

set_option maxRecDepth 100000 in
set_option maxHeartbeats 1000000 in
theorem tutte_any (n : Nat) (w : World) (hn : n < 4) :
    Calls Tryz.prog 61 #[.int .i64 n] w fun e w' => e = .returned (.int .i64 (tutte n)) ∧ w = w' := by
  go_enter Tryz.func61, Tryz.ntmps61
  go_wp2_with fail
  go_loopw [3, 4] (fun r i wr => ∃ k t : Nat, k ≤ n ∧ i = .int .i64 k ∧ r = .int .i64 t ∧ tutte k = t ∧ w = wr) (fun _ i _ => n - (intOf i).toNat)
  case atStart => exact ⟨0, 1, Nat.zero_le _, rfl, rfl, rfl, rfl⟩
  case round =>
    obtain ⟨k, t, hk, rfl, rfl, ht, rfl⟩ := hrel
    by_cases hlt : k < n
    · have hc : k = 0 ∨ k = 1 ∨ k = 2 := by omega
      rcases hc with rfl | rfl | rfl
      · obtain rfl : t = 1 := ht.symm
        clear ht
        go_wp2
        go_roundw
        case rel => exact ⟨1, 2, by omega, rfl, rfl, rfl, trivial⟩
        case measure => simp [intOf]; omega
      · obtain rfl : t = 2 := ht.symm
        clear ht
        go_wp2
        go_roundw
        case rel => exact ⟨2, 9, by omega, rfl, rfl, rfl, trivial⟩
        case measure => simp [intOf]; omega
      · obtain rfl : t = 9 := ht.symm
        clear ht
        go_wp2
        go_roundw
        case rel => exact ⟨3, 54, by omega, rfl, rfl, rfl, trivial⟩
        case measure => simp [intOf]; omega
    · obtain rfl : k = n := by omega
      have HT := Lib.hid ht
      clear ht
      go_wp2
      go_ret
      rw [HT.out]
      exact ⟨rfl, rfl⟩

/-- A letter more. -/
theorem dig_push {j x0 : Nat} : nats (dig j x0) ++ [((x0 / 4 ^ j % 4 : Nat) : Int)] = nats (dig (j + 1) x0) := by
  rw [dig_snoc]
  simp [nats]

set_option maxRecDepth 100000 in
set_option maxHeartbeats 4000000 in
theorem walkTuranCounts (a0 a1 : Int) (w : World) (w0 : (Lit.int .u8 a0).wf = true) (w1 : (Lit.int .u16 a1).wf = true) :
    Calls Tryz.prog 9 #[.int .u8 a0, .int .u16 a1] w fun e w' => e = .returned (.bool true) ∧ Below w.heap.size w w' := by
  have hnot : ∀ (x : Bool) (w : World), (Op.unary .not (.bool x)).run Tryz.prog w = .ok (.bool (!x)) w := fun _ _ => rfl
  obtain ⟨lo, rfl, hlo⟩ := u8_in w0
  obtain ⟨f, rfl, hf⟩ := u16_in w1
  obtain ⟨n, hn⟩ : ∃ n, n = lo % 4 := ⟨_, rfl⟩
  have hn4 : n < 4 := by omega
  have m1 : (lo : Int) % 4 = (n : Int) := by rw [hn]; simp
  have m2 : (lo : Int).tmod 4 = (n : Int) := by rw [hn, Int.tmod_eq_emod_of_nonneg (by omega)]; simp
  clear w0 w1 hn
  obtain ⟨A, hA⟩ : ∃ A, A = 4 ^ (2 * n) := ⟨_, rfl⟩
  have hA1 : 0 < A := by rw [hA]; exact Nat.pow_pos (by omega)
  have hA2 : A ≤ 4096 := by rw [hA]; exact Nat.pow_le_pow_right (n := 4) (by omega) (show 2 * n ≤ 6 by omega)
  have HA := Lib.hid hA
  clear hA
  go_enter Tryz.func9, Tryz.ntmps9
  go_wp2_with fail
  refine (awake12_any _).mono ?_
  rintro e w1 ⟨rfl, hk1⟩
  have H1 := Lib.hid hk1
  clear hk1
  go_wp2_with fail
  go_loopw [6, 18] (fun p i wr => ∃ j P : Nat, j ≤ 2 * n ∧ P = 4 ^ j ∧ i = .int .i64 j ∧ p = .int .i64 P ∧ w1 = wr) (fun _ i _ => 2 * n - (intOf i).toNat)
  case atStart => exact ⟨0, 1, Nat.zero_le _, rfl, rfl, rfl, rfl⟩
  case round =>
    obtain ⟨j, P, hj, hP, rfl, rfl, rfl⟩ := hrel
    by_cases hlt : j < 2 * n
    · have hP2 : P ≤ 1024 := by rw [hP]; exact Nat.pow_le_pow_right (n := 4) (by omega) (show j ≤ 5 by omega)
      have HP := Lib.hid hP
      clear hP
      go_wp2
      go_roundw
      case rel => exact ⟨j + 1, P * 4, by omega, by rw [HP.out, Nat.pow_succ], by go_num, by go_num, trivial⟩
      case measure => simp [intOf]; omega
    · have hj2 : j = 2 * n := by omega
      have eP : A = P := by rw [hP, HA.out, hj2]
      subst eP
      clear hP hj hj2
      generalize j = j0 at *
      obtain ⟨Q, hQ⟩ : ∃ Q : Nat → Bool, Q = fun j => okB (dig (2 * n) ((j + f) % A)) := ⟨_, rfl⟩
      have HQ : Hid (cn Q A = tutte n) := Lib.hid (by rw [hQ, HA.out]; exact words_tutte hn4 f)
      have HQ2 := Lib.hid hQ
      clear hQ
      have hA3 : ¬ A = 0 := by omega
      have hsz0 := H1.out.size
      go_wp2_with fail
      clear hlt
      go_loopw [7, 24] (fun c i wr => ∃ j c' : Nat, j ≤ A ∧ i = .int .i64 j ∧ c = .int .i64 c' ∧ cn Q j = c' ∧ Keeps (fun _ => False) w wr) (fun _ i _ => A - (intOf i).toNat)
      case atStart => exact ⟨0, 0, Nat.zero_le _, rfl, rfl, rfl, H1.out⟩
      case round =>
        obtain ⟨j, c', hj, rfl, rfl, hc, hkw⟩ := hrel
        have hcl := cn_le Q j
        rw [hc] at hcl
        by_cases hlt : j < A
        · obtain ⟨x0, hx0⟩ : ∃ x0, x0 = (j + f) % A := ⟨_, rfl⟩
          have hxA : x0 < A := by rw [hx0]; exact Nat.mod_lt _ hA1
          have e1 : ((j : Int) + (f : Int)).tmod (A : Int) = (x0 : Int) := by rw [hx0, Int.tmod_eq_emod_of_nonneg (by omega)]; simp
          have e2 : IntKind.i64.wrap (x0 : Int) = (x0 : Int) := IntWalk.i64_in _ (by omega)
          have HR := Lib.hid (And.intro hx0 (And.intro hc hkw))
          have hsz := hkw.size
          clear hx0 hc hkw
          go_wp2_with fail
          go_loopg [9, 10] (2 * n) (fun m lv x wq => ∃ (i y : Nat) (a : Option Addr) (cap : Nat), m = 2 * n - i ∧ i ≤ 2 * n ∧ y ≤ 4096 ∧ y = x0 / 4 ^ i ∧ lv = .slice a i cap ∧ x = .int .i64 y ∧ OwnI w.heap.size wq (.slice a i cap) (nats (dig i x0)) ∧ Keeps (fun _ => False) w wq)
          case atStart => exact ⟨0, x0, none, 0, rfl, Nat.zero_le _, by omega, by simp, rfl, rfl, OwnI.nil _ _, HR.out.2.2⟩
          case round =>
            obtain ⟨i, y, a, cap, hgm, hi, hy, hyx, rfl, rfl, hown, hkq⟩ := hrel
            have HG := Lib.hid hgm
            clear hgm
            have HN : Hid ((nats (dig i x0)).length = i) := Lib.hid (by rw [nats_len, dig_length])
            have hszq := hkq.size
            have hcap := hown.form
            rw [HN.out] at hcap
            by_cases hlt2 : i < 2 * n
            · obtain ⟨mm, hmm⟩ : ∃ mm, mm = y % 4 := ⟨_, rfl⟩
              obtain ⟨d, hd⟩ : ∃ d, d = y / 4 := ⟨_, rfl⟩
              have hm4 : mm < 4 := by omega
              have hd4 : d ≤ 4096 := by omega
              have f1 : (y : Int).tmod 4 = (mm : Int) := by rw [hmm, Int.tmod_eq_emod_of_nonneg (by omega)]; simp
              have f2 : (y : Int).tdiv 4 = (d : Int) := by rw [hd, Int.tdiv_eq_ediv_of_nonneg (by omega)]; simp
              have f3 : IntKind.i64.wrap (d : Int) = (d : Int) := IntWalk.i64_in _ (by omega)
              have hz : nats (dig i x0) ++ [(mm : Int)] = nats (dig (i + 1) x0) := by rw [hmm, hyx]; exact dig_push
              have HD : Hid (d = x0 / 4 ^ (i + 1)) := Lib.hid (by rw [hd, hyx, Nat.div_div_eq_div_mul, Nat.pow_succ])
              have HZ := Lib.hid hz
              have hzl : i ≤ 10000000000 := by omega
              have HO := Lib.hid (And.intro hown.lt hkq)
              clear hmm hd hyx hz hcap hkq
              go_wp2_with (at_builtin; refine append1n i rfl _ _ rfl w.heap.size (.slice a i cap) (nats (dig i x0)) mm HN _ rfl rfl rfl hown hzl hszq ?_; intro g2 cap2 w3 hown3 hk3 hat hg)
              rw [HZ.out] at hown3
              have HK := Lib.hid (And.intro hown3 (HO.out.2.trans hk3 (fun x hx e => by have := (HO.out.1 x e).1; omega)))
              clear hown3 hk3 hat hown
              go_wp2
              go_roundg (2 * n - (i + 1))
              case measure => rw [HG.out]; omega
              case rel => exact ⟨i + 1, d, some ⟨g2, 0, none⟩, cap2, rfl, by omega, hd4, HD.out, by rfl, by go_num, HK.out.1, HK.out.2⟩
            · have hi2 : i = 2 * n := by omega
              have HI := Lib.hid hi2
              have hdl := dig_length i x0
              have hO := of12_any (.slice a i cap) (dig i x0) _ hown.sl (fun k hk => (hown.lt k hk).2) (dig_lt i x0) (by rw [dig_length]; omega)
              have HQk := Lib.hid hkq
              clear hi2 hyx hcap hown hkq
              go_wp2_with fail
              refine hO.mono ?_
              rintro e w4 ⟨bw, rfl, hP⟩
              have hC := check12 bw (dig i x0) _ w4 hP (dig_lt i x0) (by rw [dig_length]; omega)
              clear hO hP
              go_wp2_with fail
              refine hC.mono ?_
              rintro e w5 ⟨c, rfl, hcb, hk5⟩
              clear hC
              have HK := Lib.hid (HQk.out.trans hk5 (fun _ _ h => h))
              clear hk5
              have hQj : Q j = okB (dig i x0) := by rw [HQ2.out, HR.out.1, HI.out]
              by_cases hq : okB (dig i x0) = true
              · rw [hq] at hcb hQj
                have HC : Hid (cn Q (j + 1) = c' + 1) := Lib.hid (by show cn Q j + (Q j).toNat = _; rw [HR.out.2.1, hQj]; rfl)
                clear hq hQj
                go_wp2
                go_roundw
                case rel => exact ⟨j + 1, c' + 1, by omega, by go_num, by go_num, HC.out, HK.out⟩
                case measure => simp [intOf]; omega
              · rw [Bool.eq_false_iff.2 hq] at hcb hQj
                have HC : Hid (cn Q (j + 1) = c') := Lib.hid (by show cn Q j + (Q j).toNat = _; rw [HR.out.2.1, hQj]; rfl)
                clear hq hQj
                go_wp2
                go_roundw
                case rel => exact ⟨j + 1, c', by omega, by go_num, by go_num, HC.out, HK.out⟩
                case measure => simp [intOf]; omega
        · obtain rfl : j = A := by omega
          rw [HQ.out] at hc
          subst hc
          have HK := Lib.hid hkw
          clear hkw hlt hj
          go_wp2_with fail
          refine (tutte_any n _ hn4).mono ?_
          rintro e w' ⟨rfl, rfl⟩
          go_wp2
          go_ret
          exact ⟨by simp, HK.out.below (fun _ _ h => h)⟩

end Go.Proofs.YtipelclohcdkcaaGreat
