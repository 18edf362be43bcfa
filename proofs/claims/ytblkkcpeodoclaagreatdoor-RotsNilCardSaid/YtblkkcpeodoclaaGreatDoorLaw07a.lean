/- law07.awake, RotsNil. -/
import Derived.Test.YtblkkcpeodoclaaGreatDoorRots4
import Derived.Test.YtblkkcpeodoclaaGreatDoorRots10
import Derived.Test.YtblkkcpeodoclaaGreatDoorCountP
import Derived.Test.YtblkkcpeodoclaaGreatDoorClone8
namespace Go.Proofs.YtblkkcpeodoclaaGreatDoor
open Go.RowKit

def bytes0 : List Nat := [49, 32, 48, 32, 48, 10, 48, 10, 49, 10]

theorem good0 : GoodK (u8s bytes0) [0, 1] 0 0 3 := by
  have hP : IsP ([0, 1] : List Nat).length (sg [0, 1]) := by
    refine ⟨fun d hd => ?_, fun d e hd he h => ?_⟩
    · match d, hd with
      | 0, _ => decide
      | 1, _ => decide
    · match d, hd, e, he with
      | 0, _, 0, _ => rfl
      | 1, _, 1, _ => rfl
      | 0, _, 1, _ => exact absurd h (by decide)
      | 1, _, 0, _ => exact absurd h (by decide)
  have i0 : Lib.itoa 0 = [48] := by simp [Lib.itoa, Lib.decDigits]
  have i1 : Lib.itoa 1 = [49] := by simp [Lib.itoa, Lib.decDigits]
  have e : u8s bytes0 = linesB (([0, 1] : List Nat).length / 2) 0 0 [[0], [1]] := by
    show u8s bytes0 = rowB [1, 0, 0] ++ (rowB [0] ++ (rowB [1] ++ []))
    unfold rowB
    simp only [List.map_cons, List.map_nil, i0, i1]
    rfl
  rw [e]
  refine good_lines (s := [0, 1]) (ls := [[0], [1]]) hP (by decide) (by decide) (by decide) (.inr ⟨0, rfl, by decide⟩) ?_ ?_ ?_ ?_
  · intro l hl
    simp only [List.mem_cons, List.not_mem_nil, or_false] at hl
    rcases hl with rfl | rfl <;> simp
  · have hL : linksL [[0], [1]] = [(0, 0), (1, 1)] := rfl
    unfold TurnOk
    rw [hL]
    decide
  · have hL : linksL [[0], [1]] = [(0, 0), (1, 1)] := rfl
    rw [hL]
    decide
  · rw [← e]; decide

set_option maxRecDepth 100000 in
set_option maxHeartbeats 2000000 in
theorem awake07_any (B : Nat) (w : World) (hE : EnvR B w) : Calls Tryz.prog 7 #[] w fun e w' => e = .returned (.bool true) ∧ Keeps (fun _ => False) w w' := by
  have hcv := Lib.run_convert_bytes_const (P := Tryz.prog) w 22 5 (ys bytes0).toArray 10 10 Tryz.underlying22 Tryz.underlying5
  obtain ⟨w1, hw1⟩ : ∃ w1, w1 = w.alloc (.cells (ys bytes0).toArray 5 ((ys bytes0).toArray.size, (ys bytes0).toArray.size + 1)) := ⟨_, rfl⟩
  have k1 : Keeps (fun _ => False) w w1 := by rw [hw1]; exact (Keeps.refl (fun _ => False) w).alloc _
  have hb : w1.heap[w.heap.size]? = some (.cells (ys bytes0).toArray 5 (10, 11)) := by rw [hw1]; exact heap_alloc_new w _
  have hsl := sl_const hb (by decide)
  have hP := rotsParse_any _ bytes0 B w1 (hE.keeps k1 (fun _ h => h.elim)) hsl (by decide)
  rw [← hw1] at hcv
  have HP := Lib.hid (And.intro hP k1)
  clear hP k1 hb hsl hw1 hE
  have hcv2 : Sem.run Tryz.prog (convert 22 22 (.slice (some ⟨w.heap.size, 0, none⟩) 10 10)) (w.alloc (.cells #[.int .u8 49, .int .u8 32, .int .u8 48, .int .u8 32, .int .u8 48, .int .u8 10, .int .u8 48, .int .u8 10, .int .u8 49, .int .u8 10] 5)) = .ok (.slice (some ⟨w.heap.size, 0, none⟩) 10 10) w1 := hcv
  clear hcv
  go_enter Tryz.func7, Tryz.ntmps7
  go_wp2_with fail
  refine HP.out.1.mono ?_
  rintro e w2 ⟨hk2, hc⟩
  obtain ⟨b, s, rt, ln, k, hG, rfl, hma, hbb⟩ : ∃ (b : Nat) (s : List Nat) (rt : Int) (ln k : Nat), GoodK (u8s bytes0) s rt ln k ∧ e = .returned (.tuple #[.pointer (some ⟨b, 0, none⟩), .int .i64 k, .int .i64 0]) ∧ MapAt w2 b s rt ln (fun x => w1.heap.size ≤ x ∧ x < w2.heap.size ∧ x ≠ b) ∧ w1.heap.size ≤ b := by
    rcases hc with ⟨_, _, _, _, _, h⟩ | h
    · exact absurd good0 (h _ _ _ _)
    · exact h
  obtain ⟨-, -, rfl, rfl⟩ := hG.det good0
  have hcnt := hG.count
  have hl2 : ldr (sg s) s.length = 2 := by omega
  have hV := mapVertices_any hma
  rw [hl2] at hV
  have HV := Lib.hid (And.intro hV (And.intro hk2 hbb))
  clear hV hk2 hbb hma hG hcnt hl2 hc
  go_wp2_with fail
  refine HV.out.1.mono ?_
  rintro e w3 ⟨rfl, hq⟩
  have HQ := Lib.hid hq.2
  clear hq
  go_wp2
  go_ret
  exact ⟨rfl, (HP.out.2.trans HV.out.2.1 (fun _ _ h => h)).trans HQ.out (fun x hx e => by have := HP.out.2.size; have := HV.out.2.2; omega)⟩

/-- rots.Print of nil. -/
theorem print_nil (w : World) : Calls Tryz.prog 10 #[.pointer none] w fun e w' => e = .returned (.tuple #[.slice none 0 0, .int .i64 2]) ∧ w' = w := by
  go_enter Tryz.func10, Tryz.ntmps10
  go_wp2
  go_ret2
  exact ⟨rfl, rfl⟩

/-- rots.Parse of no bytes. -/
theorem parse_nil (B : Nat) (w : World) (hE : EnvR B w) : Calls Tryz.prog 9 #[.slice none 0 0] w fun e w' => e = .returned (.tuple #[.pointer none, .int .i64 1, .int .i64 13]) ∧ Keeps (fun _ => False) w w' := by
  have hsl : Sl .u8 w (.slice none 0 0) (nats []) := ⟨none, 0, rfl, (by simp [nats]), (by decide), (fun _ => rfl), fun j z hz => by simp [nats] at hz⟩
  refine (rotsParse_any _ [] B w hE hsl (by decide)).mono ?_
  rintro e w' ⟨hk, hc⟩
  rcases hc with ⟨line, er, rfl, _, h1, _⟩ | ⟨b, s, rt, ln, k, hG, _⟩
  · obtain ⟨rfl, rfl⟩ := h1 rfl
    exact ⟨rfl, hk⟩
  · exfalso
    obtain ⟨_, rows, hne, hr⟩ := hG.rows (xs := []) (y := []) rfl
    exact hne (List.eq_nil_of_length_eq_zero hr.1)

set_option maxRecDepth 100000 in
set_option maxHeartbeats 4000000 in
theorem walkRotsNil (a0 : Option Addr) (len0 cap0 : Nat) (z0 : List Int) (w : World) (w0 : RowIn .u8 w a0 len0 cap0 z0) (hE : EnvR w.heap.size w) :
    Calls Tryz.prog 5 #[.slice a0 len0 cap0] w fun e w' => e = .returned (.bool true) ∧ Below w.heap.size w w' := by
  obtain ⟨ps, hsl, hps⟩ := w0.bytes
  obtain ⟨_, _, e, -, hcm, -, -⟩ := id hsl
  have hlen : len0 = ps.length ∧ ps.length ≤ cap0 ∧ cap0 ≤ 9223372036854775807 := by
    obtain ⟨_, _, e, h1, h2, -, -⟩ := hsl
    simp only [Value.slice.injEq, nats_len] at e h1
    omega
  obtain ⟨rfl, hnc, hcm⟩ := hlen
  clear e
  obtain ⟨n, hn⟩ : ∃ n, n = ps.length := ⟨_, rfl⟩
  obtain ⟨m, hm⟩ : ∃ m, m = min n 100 := ⟨_, rfl⟩
  have hmn : m ≤ n ∧ m ≤ 100 := by omega
  have hs2 := hsl.take m (by rw [nats_len]; omega)
  have hs2' : Sl .u8 w (.slice a0 m cap0) (nats (ps.take m)) := by
    have : (nats ps).take m = nats (ps.take m) := by unfold nats; rw [List.map_take]
    rw [← this]; exact hs2
  have hql : (ps.take m).length = m := by rw [List.length_take]; omega
  have hqb : ∀ b ∈ ps.take m, b < 256 := fun b hb => hps b (List.mem_of_mem_take hb)
  generalize ps.take m = qs at *
  rw [← hn] at hsl hnc ⊢
  have e1 : min (n : Int) 100 = (m : Int) := by omega
  have HS := Lib.hid (And.intro hs2' (And.intro hql (And.intro hqb hE)))
  clear hsl hs2 hs2' hql hqb hE hps hn hm w0
  go_enter Tryz.func5, Tryz.ntmps5
  go_wp2_with fail
  refine (awake07_any w.heap.size w HS.out.2.2.2).mono ?_
  rintro e w1 ⟨rfl, hk1⟩
  have HK1 := Lib.hid hk1
  clear hk1
  go_wp2_with fail
  refine (cloneY_any (.slice a0 m cap0) qs w1 (HS.out.1.keeps HK1.out (fun _ _ h => h)) (by rw [HS.out.2.1]; omega)).mono ?_
  rintro e w2 ⟨v, rfl, hown, hk2⟩
  obtain ⟨va, vc, rfl, -, -⟩ := hown.form
  rw [HS.out.2.1]
  have hsq : Sl .u8 w2 (.slice va m vc) (nats qs) := by have := hown.sl; rwa [HS.out.2.1] at this
  have HK2 := Lib.hid (And.intro hsq (HK1.out.trans hk2 (fun _ _ h => h)))
  clear hown hk2 hsq
  go_wp2_with fail
  refine (print_nil w2).mono ?_
  rintro e w2 ⟨rfl, rfl⟩
  go_wp2_with fail
  refine (parse_nil w.heap.size w2 (HS.out.2.2.2.keeps HK2.out.2 (fun _ h => h.elim))).mono ?_
  rintro e w3 ⟨rfl, hk3⟩
  have HK3 := Lib.hid (And.intro (HK2.out.1.keeps hk3 (fun _ _ h => h)) (HK2.out.2.trans hk3 (fun _ _ h => h)))
  clear hk3
  go_wp2_with fail
  go_loopg [8, 30] m (fun mu cv iv wr => ∃ i : Nat, i ≤ m ∧ mu = m - i ∧ iv = .int .i64 i ∧ cv = .int .i64 ((qs.take i).count 10 : Nat) ∧ wr = w3)
  case atStart => exact ⟨0, Nat.zero_le _, rfl, rfl, rfl, rfl⟩
  case round =>
    obtain ⟨i, hi, hgk, rfl, rfl, rfl⟩ := hrel
    have HG := Lib.hid hgk
    clear hgk
    have hcb : (qs.take i).count 10 ≤ 100 := by
      have h1 := List.count_le_length (a := 10) (l := qs.take i)
      rw [List.length_take] at h1
      omega
    by_cases hlt : i < m
    · obtain ⟨x, hx⟩ : ∃ x, qs[i]? = some x := ⟨_, List.getElem?_eq_getElem (by rw [HS.out.2.1]; exact hlt)⟩
      obtain ⟨g, off, rfl, hc⟩ := HK3.out.1.cellAt (show (nats qs)[i]? = some (x : Int) by unfold nats; rw [List.getElem?_map, hx]; rfl)
      have hnx : (qs.take (i + 1)).count 10 = (qs.take i).count 10 + if x = 10 then 1 else 0 := by
        rw [List.take_add_one, hx, List.count_append]
        simp [List.count_cons]
      have HN := Lib.hid hnx
      clear hnx hx
      generalize (qs.take i).count 10 = cn at *
      by_cases h10 : x = 10
      · subst h10
        go_wp2
        go_roundg (m - (i + 1))
        case measure => rw [HG.out]; omega
        case rel => exact ⟨i + 1, by omega, rfl, by go_num, by rw [HN.out]; go_num, rfl⟩
      · have t1 : ((x : Int) == 10) = false := by rw [beq_eq_false_iff_ne]; omega
        have t2 : decide ((x : Int) = 10) = false := decide_eq_false (by omega)
        rw [if_neg h10] at HN
        clear h10
        go_wp2
        go_roundg (m - (i + 1))
        case measure => rw [HG.out]; omega
        case rel => exact ⟨i + 1, by omega, rfl, by go_num, by rw [HN.out]; rfl, rfl⟩
    · have hfin : (qs.take i).count 10 = qs.count 10 := by rw [List.take_of_length_le (by rw [HS.out.2.1]; omega)]
      have t1 : decide ((i : Int) < (m : Int)) = false := decide_eq_false (by omega)
      have t1' : decide (i < m) = false := decide_eq_false hlt
      rw [hfin] at hcb ⊢
      have hL := lines_any (.slice va m vc) qs wr HK3.out.1 HS.out.2.2.1
      have HL := Lib.hid hL
      clear hfin hL hlt
      generalize qs.count 10 = cn at *
      generalize wr = wo at *
      go_wp2_with fail
      refine HL.out.mono ?_
      rintro e w4 ⟨rfl, hk4⟩
      have HK4 := Lib.hid (HK3.out.2.trans hk4 (fun _ _ h => h))
      clear hk4
      go_wp2
      go_ret
      exact ⟨rfl, HK4.out.below (fun _ _ h => h)⟩

end Go.Proofs.YtblkkcpeodoclaaGreatDoor
