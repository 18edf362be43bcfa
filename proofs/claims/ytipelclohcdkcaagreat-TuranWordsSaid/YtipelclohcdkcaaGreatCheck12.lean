/- The contract of ref12.Check. -/
import Derived.OwnWalkIn
import Derived.TacticsInMore
import Derived.LoopNIn
import Derived.LoopIn
import Derived.Sort.LoopGhostIn
import Derived.Test.YtipelclohcdkcaaGreatRight
import Derived.Test.YtipelclohcdkcaaGreatNil
import Derived.Test.YtipelclohcdkcaaGreatConn
namespace Go.Proofs.YtipelclohcdkcaaGreat
open Go.RowKit

set_option maxRecDepth 100000 in
set_option maxHeartbeats 2000000 in
theorem ref12Check_any (sv : Value) (ks : List Nat) (w : World) (hs : Sl .i64 w sv (nats ks)) (h4 : ∀ k ∈ ks, k < 4) (hl : ks.length ≤ 100000) :
    Calls Tryz.prog 54 #[sv] w (CheckPost w ks) := by
  have hG := refGood04_any sv ks w hs h4 (by omega)
  have HM : Hid (∀ W, Keeps (fun _ => False) w W → MBal ks → Calls Tryz.prog 131 #[sv] W fun e w' => ∃ g, e = .returned (.slice (some ⟨g, 0, none⟩) ks.length ks.length) ∧ MatesS W ks g (fun i => i < ks.length) w') := Lib.hid (fun W hk hB => refMates04_any sv ks W (hs.keeps hk (fun _ _ h => h)) h4 (by omega) hB)
  have HO : Hid (∀ W, Keeps (fun _ => False) w W → MBal ks → Calls Tryz.prog 132 #[sv] W fun e w' => ∃ g ov, e = .returned (.slice (some ⟨g, 0, none⟩) ks.length ks.length) ∧ OwnS W ks g ks.length ov w') := Lib.hid (fun W hk hB => refOwners_any sv ks W (hs.keeps hk (fun _ _ h => h)) h4 (by omega) hB.1)
  have HS : Hid (∀ W, Keeps (fun _ => False) w W → Sl .i64 W sv (nats ks)) := Lib.hid (fun W hk => hs.keeps hk (fun _ _ h => h))
  obtain ⟨a, cap, rfl, -, -, -, -⟩ := hs
  clear h4
  go_enter Tryz.func54, Tryz.ntmps54
  go_wp2_with fail
  refine hG.mono ?_
  rintro e w1 ⟨t, rfl, ht, hk1⟩
  clear hG
  cases t
  · have hB : ¬ MBal ks := fun h => by simpa using ht.2 h
    have HF := Lib.hid (And.intro hB hk1)
    clear hB hk1 ht
    go_wp2
    go_ret
    exact ⟨9, rfl, .inr (.inl ⟨HF.out.1, rfl⟩), HF.out.2⟩
  · have hB : MBal ks := ht.1 rfl
    have hM := HM.out w1 hk1 hB
    clear ht
    go_wp2_with fail
    refine hM.mono ?_
    rintro e w2 ⟨g, rfl, ms, hms, hml, hmd, hk2⟩
    have k2 := hk1.trans hk2 (fun _ _ h => h)
    have hO := HO.out w2 k2 hB
    clear hM
    go_wp2_with fail
    refine hO.mono ?_
    rintro e w3 ⟨go, ov, rfl, rs, st, hI, hrs, _, _, hk3⟩
    have hms3 := hms.keeps hk3 (fun _ _ h => h)
    have k3 := k2.trans hk3 (fun _ _ h => h)
    have hS := HS.out w3 k3
    have HR := Lib.hid (And.intro hmd (And.intro hI.rd (And.intro hB k3)))
    rw [nats_len]
    clear hO hmd hI hB k3 k2 hk1 hk2 hk3 hms
    generalize hN : ks.length = N at *
    have HN := Lib.hid hN
    clear hN
    go_wp2
    go_loopg [16] N (fun m t wr => ∃ k : Nat, k ≤ N ∧ m = N - k ∧ t = .int .i64 k ∧ CanonTo ks k ∧ Keeps (fun _ => False) w3 wr)
    case atStart => exact ⟨0, Nat.zero_le _, rfl, rfl, CanonTo.zero _, Keeps.refl _ _⟩
    case round =>
      obtain ⟨k, hk, hgk, rfl, hC, kd⟩ := hrel
      have HKD := Lib.hid (And.intro hC (And.intro kd (HR.out.2.2.2.trans kd (fun _ _ h => h))))
      have HGK := Lib.hid hgk
      clear hC hgk
      by_cases hlt : k < N
      · have hkl : k < ks.length := by rw [HN.out]; exact hlt
        have hx := List.getElem?_eq_getElem hkl
        obtain ⟨x, hxe⟩ : ∃ x, x = ks[k] := ⟨_, rfl⟩
        rw [← hxe] at hx
        clear hxe
        obtain ⟨m, hm1, hm2⟩ := HR.out.1 k hlt
        obtain ⟨r, hr1, hr2⟩ := HR.out.2.1 k hlt
        have hxn : (nats ks)[k]? = some (x : Int) := by simp [nats, hx]
        obtain ⟨g0, off, rfl, hcx⟩ := (hS.keeps kd (fun _ _ h => h)).cellAt hxn
        have hcm := ((hms3.keeps kd (fun _ _ h => h)).cell hm1).1
        have hcr := ((hrs.keeps kd (fun _ _ h => h)).cell hr1).1
        have HX := Lib.hid (And.intro hx (And.intro hm2 hr2))
        clear hx hm1 hm2 hr1 hr2 hxn kd
        by_cases h3 : x = 3
        · have hb : ((x : Int) == 3) = true := by simp [h3]
          have H3 := Lib.hid h3
          clear h3
          by_cases hlt2 : (m : Int) < r
          · have hd : decide ((m : Int) < r) = true := decide_eq_true hlt2
            go_wp2
            go_quiet (fail)
            go_wp2
            go_ret
            exact ⟨10, rfl, .inr (.inr ⟨HR.out.2.2.1, fun hC => hC k m r (H3.out ▸ HX.out.1) HX.out.2.1 HX.out.2.2 hlt2, rfl⟩), HKD.out.2.2.drewN nq⟩
          · have hd : decide ((m : Int) < r) = false := decide_eq_false hlt2
            have HE := Lib.hid (HKD.out.1.step HX.out.2.1 HX.out.2.2 hlt2)
            go_wp2
            go_quiet (fail)
            go_wp2
            go_roundg (N - (k + 1))
            case measure => rw [HGK.out]; omega
            case rel => exact ⟨k + 1, by omega, rfl, by go_num, HE.out, HKD.out.2.1.drewN nq⟩
        · have hb : ((x : Int) == 3) = false := by simp; omega
          have HE := Lib.hid (HKD.out.1.skip HX.out.1 h3)
          clear h3
          go_wp2
          go_quiet (fail)
          go_wp2
          go_roundg (N - (k + 1))
          case measure => rw [HGK.out]; omega
          case rel => exact ⟨k + 1, by omega, rfl, by go_num, HE.out, HKD.out.2.1.drewN nq⟩
      · have HE := Lib.hid (HKD.out.1.all (by have := HN.out; omega))
        clear kd
        go_wp2
        go_ret
        exact ⟨0, rfl, .inl ⟨HR.out.2.2.1, HE.out, rfl⟩, HKD.out.2.2⟩

end Go.Proofs.YtipelclohcdkcaaGreat
