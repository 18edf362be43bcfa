/- RotsCounts. -/
import Derived.Test.YtblkkcpeodoclaaGreatDoorPcLaw07a
import Derived.Test.YtblkkcpeodoclaaGreatDoorPcRots11
import Derived.Test.YtblkkcpeodoclaaGreatDoorPcCountQ
namespace Go.Proofs.YtblkkcpeodoclaaGreatDoor
open Go.RowKit

theorem cnt_step {t : List UInt8} {f i : Nat} {b : UInt8} (hb : t[i]? = some b) : ((t.take (i + 1)).drop f).countP sepB = ((t.take i).drop f).countP sepB + if f ≤ i ∧ sepB b = true then 1 else 0 := by
  have hi := (List.getElem?_eq_some_iff.1 hb).1
  have hl : (t.take i).length = i := by rw [List.length_take]; omega
  rw [List.take_add_one, hb, List.drop_append, List.countP_append, hl]
  congr 1
  by_cases h : f ≤ i
  · rw [show f - i = 0 by omega]
    by_cases hs : sepB b = true
    · rw [if_pos ⟨h, hs⟩]; simp [hs]
    · rw [if_neg (fun e => hs e.2)]; simp [hs]
  · rw [if_neg (fun e => h e.1), List.countP_eq_zero]
    intro x hx
    exfalso
    have := List.length_pos_of_mem hx
    rw [List.length_drop] at this
    simp at this
    omega

theorem u8_eq {x k : Nat} (hx : x < 256) (hk : k < 256) : UInt8.ofNat x = UInt8.ofNat k ↔ x = k := by
  constructor
  · intro h
    have := congrArg UInt8.toNat h
    rwa [u8_toNat hx, u8_toNat hk] at this
  · rintro rfl; rfl

/-- The loop of RotsCounts, as far as i. -/
def CntI (t : List UInt8) (f i : Nat) : Nat := ((t.take i).drop f).countP sepB

set_option maxRecDepth 100000 in
set_option maxHeartbeats 4000000 in
theorem walkRotsCounts (a0 : Option Addr) (len0 cap0 : Nat) (z0 : List Int) (w : World) (w0 : RowIn .u8 w a0 len0 cap0 z0) (hE : EnvR w.heap.size w) :
    Calls Tryz.prog 3 #[.slice a0 len0 cap0] w fun e w' => e = .returned (.bool true) ∧ Below w.heap.size w w' := by
  obtain ⟨ps, hsl, hps⟩ := w0.bytes
  have hlen : len0 = ps.length ∧ ps.length ≤ cap0 ∧ cap0 ≤ 9223372036854775807 := by
    obtain ⟨_, _, e, h1, h2, -, -⟩ := id hsl
    simp only [Value.slice.injEq, nats_len] at e h1
    omega
  obtain ⟨rfl, hnc, hcm⟩ := hlen
  obtain ⟨n, hn⟩ : ∃ n, n = ps.length := ⟨_, rfl⟩
  obtain ⟨m, hm⟩ : ∃ m, m = min n 300 := ⟨_, rfl⟩
  have hmn : m ≤ n ∧ m ≤ 300 := by omega
  have hs2 := hsl.take m (by rw [nats_len]; omega)
  have hs2' : Sl .u8 w (.slice a0 m cap0) (nats (ps.take m)) := by
    have : (nats ps).take m = nats (ps.take m) := by unfold nats; rw [List.map_take]
    rw [← this]; exact hs2
  have hql : (ps.take m).length = m := by rw [List.length_take]; omega
  have hqb : ∀ b ∈ ps.take m, b < 256 := fun b hb => hps b (List.mem_of_mem_take hb)
  generalize ps.take m = qs at *
  rw [← hn] at hsl hnc ⊢
  have e1 : min (n : Int) 300 = (m : Int) := by omega
  have HS := Lib.hid (And.intro hs2' (And.intro hql (And.intro hqb hE)))
  clear hsl hs2 hs2' hql hqb hE hps hn hm w0
  go_enter Tryz.func3, Tryz.ntmps3
  go_wp2_with fail
  refine (awake07_any w.heap.size w HS.out.2.2.2).mono ?_
  rintro e w1 ⟨rfl, hk1⟩
  have HK1 := Lib.hid hk1
  clear hk1
  go_wp2_with fail
  refine (cloneY_any (.slice a0 m cap0) qs w1 (HS.out.1.keeps HK1.out (fun _ _ h => h)) (by rw [HS.out.2.1]; omega)).mono ?_
  rintro e w2 ⟨v, rfl, hown, hk2⟩
  obtain ⟨va, vc, rfl, -, -⟩ := hown.form
  rw [HS.out.2.1]
  have hsq : Sl .u8 w2 (.slice va m vc) (nats qs) := by have := hown.sl; rwa [HS.out.2.1] at this
  have HK2 := Lib.hid (And.intro hsq (HK1.out.trans hk2 (fun _ _ h => h)))
  clear hown hk2 hsq
  go_wp2_with fail
  refine (rotsParse_any _ qs w.heap.size w2 (HS.out.2.2.2.keeps HK2.out.2 (fun _ h => h.elim)) HK2.out.1 (by rw [HS.out.2.1]; omega)).mono ?_
  rintro e w3 ⟨hk3, hc⟩
  have HK3 := Lib.hid (And.intro (HK2.out.1.keeps hk3 (fun _ _ h => h)) (HK2.out.2.trans hk3 (fun _ _ h => h)))
  clear hk3
  rcases hc with ⟨line, er, rfl, her, -, -⟩ | ⟨b, s, rt, ln, k, hG, rfl, hma, hbb⟩
  · have t1 : (er == 0) = false := beq_eq_false_iff_ne.2 her
    have t2 : decide (er = 0) = false := decide_eq_false her
    clear her
    go_wp2
    go_ret
    exact ⟨rfl, HK3.out.2.below (fun _ _ h => h)⟩
  · have hbw : w.heap.size ≤ b := by have := HK2.out.2.size; omega
    have htl : (u8s qs).length = m := by unfold u8s; rw [List.length_map, HS.out.2.1]
    have hcnt := hG.count
    have hlng := hG.length
    obtain ⟨f, hf1, hf2, hf3, hf4⟩ := hG.bytes
    have hget : ∀ i, i < m → ∃ x, qs[i]? = some x ∧ x < 256 ∧ (u8s qs)[i]? = some (UInt8.ofNat x) := fun i hi => by
      have h1 : qs[i]? = some (qs[i]'(by rw [HS.out.2.1]; exact hi)) := List.getElem?_eq_getElem _
      refine ⟨_, h1, HS.out.2.2.1 _ (List.getElem_mem _), ?_⟩
      unfold u8s
      rw [List.getElem?_map, h1]; rfl
    have hend : ((u8s qs).take m).drop f = (u8s qs).drop f := by rw [List.take_of_length_le (by rw [htl]; exact Nat.le_refl _)]
    have hsl : s.length ≤ 131072 := hma.le
    generalize ht : u8s qs = t at *
    have HG := Lib.hid (And.intro hcnt (And.intro hlng (And.intro hf1 (And.intro hf2 (And.intro hf3 (And.intro hf4 (And.intro hget (And.intro hend (And.intro hma htl)))))))))
    have hcl : k ≤ 131073 := by have := ldr_le (sg s) s.length; omega
    have hln : ln ≤ 65536 := by have := hma.ln; omega
    clear hcnt hlng hf1 hf2 hf3 hf4 hget hend hma hG htl ht
    go_wp2_with fail
    go_loopg [6, 7, 32] m (fun mu nv fv iv wr => ∃ i : Nat, i ≤ m ∧ mu = m - i ∧ iv = .int .i64 i ∧ fv = .bool (decide (i ≤ f)) ∧ nv = .int .i64 (CntI t f i : Nat) ∧ wr = w3)
    case atStart => exact ⟨0, Nat.zero_le _, rfl, rfl, by simp, by unfold CntI; simp, rfl⟩
    case round =>
      obtain ⟨i, hi, hgk, rfl, rfl, rfl, rfl⟩ := hrel
      have HGK := Lib.hid hgk
      clear hgk
      have hcb : CntI t f i ≤ 300 := by
        unfold CntI
        have h1 := List.countP_le_length (p := sepB) (l := (t.take i).drop f)
        rw [List.length_drop, List.length_take] at h1
        omega
      by_cases hlt : i < m
      · obtain ⟨x, hx, hx256, htx⟩ := HG.out.2.2.2.2.2.2.1 i hlt
        obtain ⟨g, off, rfl, hc⟩ := HK3.out.1.cellAt (show (nats qs)[i]? = some (x : Int) by unfold nats; rw [List.getElem?_map, hx]; rfl)
        have hst : CntI t f (i + 1) = CntI t f i + if f ≤ i ∧ sepB (UInt8.ofNat x) = true then 1 else 0 := cnt_step htx
        have HST := Lib.hid hst
        clear hst
        by_cases hif : i < f
        · have hx10 : x ≠ 10 := fun e => HG.out.2.2.2.1 i hif (by rw [htx, e]; rfl)
          rw [if_neg (fun e => by omega)] at HST
          rw [decide_eq_true (show i ≤ f by omega)]
          have t1 : ((x : Int) == 10) = false := by rw [beq_eq_false_iff_ne]; omega
          have t2 : decide ((x : Int) = 10) = false := decide_eq_false (by omega)
          have t3 : ((x : Int) != 10) = true := by rw [bne_iff_ne]; omega
          have t4 : (!decide ((x : Int) = 10)) = true := by rw [t2]; rfl
          have t5 : ¬ (x : Int) = 10 := by omega
          clear hx htx
          generalize CntI t f i = cn at *
          go_wp2
          go_roundg (m - (i + 1))
          case measure => rw [HGK.out]; omega
          case rel => exact ⟨i + 1, by omega, rfl, by go_num, by rw [decide_eq_true (show i + 1 ≤ f by omega)], by rw [HST.out]; rfl, rfl⟩
        · have hsep : (f ≤ i ∧ sepB (UInt8.ofNat x) = true) ↔ (x = 32 ∨ x = 10) := by
            unfold sepB
            rw [Bool.or_eq_true, beq_iff_eq, beq_iff_eq]
            rw [show (32 : UInt8) = UInt8.ofNat 32 from rfl, show (10 : UInt8) = UInt8.ofNat 10 from rfl, u8_eq hx256 (by decide), u8_eq hx256 (by decide)]
            constructor
            · exact fun h => h.2
            · exact fun h => ⟨by omega, h⟩
          have hnext : decide (i + 1 ≤ f) = false := decide_eq_false (by omega)
          have hfv : x ≠ 10 → decide (i ≤ f) = false := fun h => decide_eq_false (fun e => by
            have : i = f := by omega
            subst this
            have h1 := HG.out.2.2.1
            rw [htx] at h1
            exact h ((u8_eq hx256 (by decide)).1 (Option.some.inj h1)))
          by_cases h10 : x = 10
          · subst h10
            obtain ⟨i', y, hi', hy, hyn⟩ := HG.out.2.2.2.2.1 i htx
            obtain ⟨y', hy1, hy2, hy3⟩ := HG.out.2.2.2.2.2.2.1 i' (by omega)
            rw [hy3] at hy
            obtain ⟨g', off', e', hc'⟩ := HK3.out.1.cellAt (show (nats qs)[i']? = some (y' : Int) by unfold nats; rw [List.getElem?_map, hy1]; rfl)
            simp only [Option.some.injEq, Addr.mk.injEq, and_true] at e'
            obtain ⟨rfl, rfl⟩ := e'
            have hyn' : y' ≠ 10 := fun e => hyn (by rw [← Option.some.inj hy, e]; rfl)
            have t3 : ((y' : Int) == 10) = false := by rw [beq_eq_false_iff_ne]; omega
            have t4 : decide ((y' : Int) = 10) = false := decide_eq_false (by omega)
            have t5 : (i : Int) - 1 = (i' : Int) := by omega
            rw [if_pos (hsep.2 (.inr rfl))] at HST
            obtain ⟨fb, hfb⟩ : ∃ fb, fb = decide (i ≤ f) := ⟨_, rfl⟩
            rw [← hfb]
            have HN := Lib.hid (And.intro hnext hi')
            clear hx htx hsep hnext hfv hfb hy hy1 hy3 hyn hyn' hi'
            generalize CntI t f i = cn at *
            cases fb with
            | true =>
              go_wp2
              go_roundg (m - (i + 1))
              case measure => rw [HGK.out]; omega
              case rel => exact ⟨i + 1, by omega, rfl, by go_num, by rw [HN.out.1], by rw [HST.out]; go_num, rfl⟩
            | false =>
              go_wp2
              go_roundg (m - (i + 1))
              case measure => rw [HGK.out]; omega
              case rel => exact ⟨i + 1, by omega, rfl, by go_num, by rw [HN.out.1], by rw [HST.out]; go_num, rfl⟩
          · rw [hfv h10]
            have t1 : ((x : Int) == 10) = false := by rw [beq_eq_false_iff_ne]; omega
            have t2 : decide ((x : Int) = 10) = false := decide_eq_false (by omega)
            have HN := Lib.hid hnext
            by_cases h32 : x = 32
            · rw [if_pos (hsep.2 (.inl h32))] at HST
              subst h32
              clear hx htx hsep hnext hfv h10
              generalize CntI t f i = cn at *
              go_wp2
              go_roundg (m - (i + 1))
              case measure => rw [HGK.out]; omega
              case rel => exact ⟨i + 1, by omega, rfl, by go_num, by rw [HN.out], by rw [HST.out]; go_num, rfl⟩
            · rw [if_neg (fun h => by rcases hsep.1 h with h | h <;> omega)] at HST
              have t3 : ((x : Int) == 32) = false := by rw [beq_eq_false_iff_ne]; omega
              have t4 : decide ((x : Int) = 32) = false := decide_eq_false (by omega)
              clear hx htx hsep hnext hfv h10 h32
              generalize CntI t f i = cn at *
              go_wp2
              go_roundg (m - (i + 1))
              case measure => rw [HGK.out]; omega
              case rel => exact ⟨i + 1, by omega, rfl, by go_num, by rw [HN.out], by rw [HST.out]; rfl, rfl⟩
      · have hin : i = m := by omega
        have t1 : decide ((i : Int) < (m : Int)) = false := decide_eq_false (by omega)
        have t1' : decide (i < m) = false := decide_eq_false hlt
        have hfin : CntI t f i = s.length + 1 := by
          unfold CntI
          rw [hin, HG.out.2.2.2.2.2.2.2.1, HG.out.2.2.2.2.2.1]
        rw [hfin] at hcb ⊢
        clear hfin hlt hin
        generalize wr = wo at *
        have hP := print_any HG.out.2.2.2.2.2.2.2.2.1 w.heap.size (HS.out.2.2.2.keeps HK3.out.2 (fun _ h => h.elim)) hbw
        have HP := Lib.hid hP
        clear hP
        go_wp2_with fail
        refine HP.out.mono ?_
        rintro e w4 ⟨q, rfl, hq, -, hmq⟩
        have hqf : ∃ qa qc, q = .slice qa m qc := by
          obtain ⟨qa, qc, h1, -, -⟩ := hq.form
          rw [nats_len] at h1
          refine ⟨qa, qc, ?_⟩
          rw [h1]
          have : (natsB (textB s rt ln)).length = m := by unfold natsB; rw [List.length_map, HG.out.2.1, HG.out.2.2.2.2.2.2.2.2.2]
          rw [this]
        obtain ⟨qa, qc, rfl⟩ := hqf
        have hk : k = ldr (sg s) s.length + 1 := HG.out.1
        have hV := mapVertices_any hmq.1
        have hL4 : ∀ w5, MapQ w4 b s rt ln (grow (fun x => w2.heap.size ≤ x ∧ x < wo.heap.size ∧ x ≠ b) wo w4) w5 → Calls Tryz.prog 12 #[.pointer (some ⟨b, 0, none⟩)] w5 fun e w' => e = .returned (.int .i64 (ln : Int)) ∧ w5 = w' := fun w5 h => mapLone_any h.1
        have hD4 : ∀ w5, MapQ w4 b s rt ln (grow (fun x => w2.heap.size ≤ x ∧ x < wo.heap.size ∧ x ≠ b) wo w4) w5 → Calls Tryz.prog 13 #[.pointer (some ⟨b, 0, none⟩)] w5 fun e w' => e = .returned (.int .i64 s.length) ∧ w5 = w' := fun w5 h => mapDarts_any h.1
        have hkw : Keeps (fun k => k = b) w w4 := (HK3.out.2.mono (fun _ _ h => h.elim)).trans hmq.2 (fun _ _ h => h)
        obtain ⟨N, hN⟩ : ∃ N, N = s.length := ⟨_, rfl⟩
        rw [← hN] at hk hV hD4 hsl hcb ⊢
        have HV := Lib.hid (And.intro hV (And.intro hL4 (And.intro hD4 hkw)))
        have hle := ldr_le (sg s) N
        generalize ldr (sg s) N = L at *
        clear hV hL4 hD4 hkw hq hmq hN
        have t2 : ((k : Int) == 1 + ((L : Int) + (ln : Int)) - (ln : Int)) = true := by rw [beq_iff_eq]; omega
        have t3 : decide ((k : Int) = 1 + ((L : Int) + (ln : Int)) - (ln : Int)) = true := decide_eq_true (by omega)
        have t4 : (((N + 1 : Nat) : Int) == (N : Int) + 1) = true := by rw [beq_iff_eq]; omega
        have t5 : decide (((N + 1 : Nat) : Int) = (N : Int) + 1) = true := decide_eq_true (by omega)
        have t6 : (k : Int) = 1 + ((L : Int) + (ln : Int)) - (ln : Int) := by omega
        clear hk
        go_wp2_with fail
        refine HV.out.1.mono ?_
        rintro e w5 ⟨rfl, hmq5⟩
        have HM5 := Lib.hid hmq5
        clear hmq5
        go_wp2_with fail
        refine (HV.out.2.1 w5 HM5.out).mono ?_
        rintro e w5 ⟨rfl, rfl⟩
        go_wp2_with fail
        refine (HV.out.2.2.1 _ HM5.out).mono ?_
        rintro e w5 ⟨rfl, rfl⟩
        go_wp2
        go_ret
        exact ⟨rfl, (HV.out.2.2.2.trans HM5.out.2 (fun _ _ h => h)).below (fun x hx e => by omega)⟩

end Go.Proofs.YtblkkcpeodoclaaGreatDoor
