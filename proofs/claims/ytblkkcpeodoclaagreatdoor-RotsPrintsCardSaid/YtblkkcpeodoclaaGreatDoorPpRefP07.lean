/- ref07.Print. -/
import Derived.Test.YtblkkcpeodoclaaGreatDoorPpDec07
import Derived.Test.YtblkkcpeodoclaaGreatDoorPpConn
namespace Go.Proofs.YtblkkcpeodoclaaGreatDoor
open Go.RowKit

theorem joinB_snoc (c : UInt8) (y : List UInt8) : ∀ {xs : List (List UInt8)}, xs ≠ [] → joinB c (xs ++ [y]) = joinB c xs ++ c :: y
  | [], h => absurd rfl h
  | [x], _ => rfl
  | x :: z :: r, _ => by
    have ih := joinB_snoc c y (xs := z :: r) (by simp)
    show x ++ c :: joinB c ((z :: r) ++ [y]) = (x ++ c :: joinB c (z :: r)) ++ c :: y
    rw [ih]
    simp

theorem join_prefix {zs : List Int} {i : Nat} {z : Int} (hz : zs[i]? = some z) : joinB 32 ((zs.take (i + 1)).map Lib.itoa) = (joinB 32 ((zs.take i).map Lib.itoa) ++ if 0 < i then [32] else []) ++ Lib.itoa z := by
  have hi := (List.getElem?_eq_some_iff.1 hz).1
  rw [List.take_add_one, hz, List.map_append]
  by_cases h : 0 < i
  · rw [if_pos h]
    show joinB 32 (((zs.take i).map Lib.itoa) ++ [Lib.itoa z]) = _
    rw [joinB_snoc 32 _ (by intro e; have := congrArg List.length e; rw [List.length_map, List.length_take, List.length_nil] at this; omega)]
    simp
  · have : i = 0 := by omega
    subst this
    rfl

set_option maxRecDepth 100000 in
set_option maxHeartbeats 8000000 in
theorem refPrint_any (sv : Value) (s : List Nat) (rt : Int) (ln : Nat) (w : World) (hs : Sl .i64 w sv (nats s)) (hsv : ∀ k, sv.ownBlock = some k → k < w.heap.size) (hP : IsP s.length (sg s)) (hl : s.length ≤ 1000) (hrt : -1 ≤ rt ∧ rt ≤ 1000) (hln : ln ≤ 65536) :
    Calls Tryz.prog 18 #[.agg #[sv, .int .i64 rt, .int .i64 ln]] w fun e w' => e = .returned (.string (bytesA (textB s rt ln))) ∧ Keeps (fun _ => False) w w' := by
  obtain ⟨n, hn⟩ : ∃ n, n = s.length := ⟨_, rfl⟩
  obtain ⟨ed, hed⟩ : ∃ ed, ed = n / 2 := ⟨_, rfl⟩
  obtain ⟨w1, hw1⟩ : ∃ w1, w1 = w.alloc (.cells #[sv, .int .i64 rt, .int .i64 ln] 35) := ⟨_, rfl⟩
  have k1 : Keeps (fun _ => False) w w1 := by rw [hw1]; exact (Keeps.refl _ w).alloc _
  have hb : w1.heap[w.heap.size]? = some (.cells #[sv, .int .i64 rt, .int .i64 ln] 35 (0, 0)) := by rw [hw1]; exact heap_alloc_new w _
  have hC : ∀ W, Keeps (fun _ => False) w1 W → W.cell? ⟨w.heap.size, 0, none⟩ = some sv ∧ W.cell? ⟨w.heap.size, 1, none⟩ = some (.int .i64 rt) ∧ W.cell? ⟨w.heap.size, 2, none⟩ = some (.int .i64 ln) := fun W hk => by
    have h := hk.at hb (fun h => h)
    exact ⟨World.cell_of_heap h 0, World.cell_of_heap h 1, World.cell_of_heap h 2⟩
  obtain ⟨a, cap, rfl, hnc, hcm⟩ := hs.form
  rw [nats_len] at hnc hs hsv hC hb hw1 ⊢
  rw [← hn] at hnc hs hsv hC hb hw1 hP hl ⊢
  -- the head's sums
  obtain ⟨A, hA⟩ : ∃ A, A = Lib.itoa (ed : Int) := ⟨_, rfl⟩
  obtain ⟨Bt, hBt⟩ : ∃ Bt, Bt = Lib.itoa rt := ⟨_, rfl⟩
  obtain ⟨Ct, hCt⟩ : ∃ Ct, Ct = Lib.itoa (ln : Int) := ⟨_, rfl⟩
  have lA : A.length ≤ 21 := by rw [hA]; exact Lib.itoa_length_le _ (by omega) (by omega)
  have lB : Bt.length ≤ 21 := by rw [hBt]; exact Lib.itoa_length_le _ (by omega) (by omega)
  have lC : Ct.length ≤ 21 := by rw [hCt]; exact Lib.itoa_length_le _ (by omega) (by omega)
  have dA := fun W => dec_any (ed : Int) W (by omega) (by omega)
  have dB := fun W => dec_any rt W (by omega) (by omega)
  have dC := fun W => dec_any (ln : Int) W (by omega) (by omega)
  rw [← hA] at dA
  rw [← hBt] at dB
  rw [← hCt] at dC
  have s1 : ∀ W, (Op.stringOp .add (bytesA A) ⟨#[32]⟩).run Tryz.prog W = .ok (.string (bytesA (A ++ [32]))) W := add_run A [32] (by simp; omega)
  have s2 : ∀ W, (Op.stringOp .add (bytesA (A ++ [32])) (bytesA Bt)).run Tryz.prog W = .ok (.string (bytesA ((A ++ [32]) ++ Bt))) W := add_run _ _ (by simp; omega)
  have s3 : ∀ W, (Op.stringOp .add (bytesA ((A ++ [32]) ++ Bt)) ⟨#[32]⟩).run Tryz.prog W = .ok (.string (bytesA (((A ++ [32]) ++ Bt) ++ [32]))) W := add_run _ [32] (by simp; omega)
  have s4 : ∀ W, (Op.stringOp .add (bytesA (((A ++ [32]) ++ Bt) ++ [32])) (bytesA Ct)).run Tryz.prog W = .ok (.string (bytesA ((((A ++ [32]) ++ Bt) ++ [32]) ++ Ct))) W := add_run _ _ (by simp; omega)
  have s5 : ∀ W, (Op.stringOp .add (bytesA ((((A ++ [32]) ++ Bt) ++ [32]) ++ Ct)) ⟨#[10]⟩).run Tryz.prog W = .ok (.string (bytesA (((((A ++ [32]) ++ Bt) ++ [32]) ++ Ct) ++ [10]))) W := add_run _ [10] (by simp; omega)
  have hhead : ((((A ++ [32]) ++ Bt) ++ [32]) ++ Ct) ++ [10] = rowB [(ed : Int), rt, (ln : Int)] := by
    unfold rowB
    simp [joinB, hA, hBt, hCt]
  obtain ⟨t0, ht0⟩ : ∃ t0, t0 = ((((A ++ [32]) ++ Bt) ++ [32]) ++ Ct) ++ [10] := ⟨_, rfl⟩
  rw [← ht0] at s5 hhead
  have lT : t0.length ≤ 67 := by rw [ht0]; simp; omega
  generalize (((A ++ [32]) ++ Bt) ++ [32]) ++ Ct = u4 at *
  generalize ((A ++ [32]) ++ Bt) ++ [32] = u3 at *
  generalize (A ++ [32]) ++ Bt = u2 at *
  generalize A ++ [32] = u1 at *
  have hTx : textB s rt ln = t0 ++ bodyB (sg s) n := by unfold textB; rw [hhead, hed, hn]
  have HX := Lib.hid (And.intro hs (And.intro hC (And.intro k1 (And.intro hTx (And.intro hn (And.intro hP hsv))))))
  obtain ⟨c0, c1, c2⟩ := hC w1 (Keeps.refl _ _)
  have q1 : (n : Int).tdiv 2 = (ed : Int) := by rw [Int.tdiv_eq_ediv_of_nonneg (by omega)]; omega
  have q2 : (n : Int) / 2 = (ed : Int) := by omega
  have hwe : IntKind.i64.wrap (ed : Int) = (ed : Int) := IntWalk.i64_in _ (by omega)
  rw [hTx]
  have HD := Lib.hid (And.intro dA (And.intro dB dC))
  clear hs hC k1 hTx hn hP hsv hb hA hBt hCt hhead ht0 dA dB dC hed
  go_enter Tryz.func18, Tryz.ntmps18
  go_upto_region 1 with fail
  rw [← hw1]
  clear hw1
  go_region_held3 (fun w' => w'.cell? ⟨w.heap.size, 0, none⟩ = some (.slice a n cap) ∧ w'.cell? ⟨w.heap.size, 1, none⟩ = some (.int .i64 rt) ∧ w'.cell? ⟨w.heap.size, 2, none⟩ = some (.int .i64 (ln : Int))) (first | exact ⟨c0, c1, c2⟩) ((go_at_call 37; (first | (with_reducible refine (HD.out.1 _).mono ?_) | (with_reducible refine (HD.out.2.1 _).mono ?_) | (with_reducible refine (HD.out.2.2 _).mono ?_)); rintro e w' ⟨rfl, rfl⟩))
  obtain ⟨wq, hwq⟩ : ∃ wq, wq = w1.drew := ⟨_, rfl⟩
  have hkq : Keeps (fun _ => False) w1 wq := by rw [hwq]; exact (Keeps.refl (fun _ => False) w1).drew
  try rw [← hwq]
  clear hwq c0 c1 c2 s1 s2 s3 s4 s5
  obtain ⟨d0, -, -⟩ := HX.out.2.1 wq hkq
  have hkw : Keeps (fun _ => False) w wq := HX.out.2.2.1.trans hkq (fun _ _ h => h)
  have hNm : Calls Tryz.prog 38 #[.slice a n cap] wq fun e w' => ∃ g, e = .returned (.slice (some ⟨g, 0, none⟩) n n) ∧ MadeS wq g n (fun zs => zs = nats ((List.range n).map (vnum (sg s)))) w' := by
    have h := refNames05_any (.slice a n cap) s wq (HX.out.1.keeps hkw (fun _ _ h => h)) (fun k hk => Nat.lt_of_lt_of_le (HX.out.2.2.2.2.2.2 k hk) hkw.size) (by rw [← HX.out.2.2.2.2.1]; exact HX.out.2.2.2.2.2.1) (by rw [← HX.out.2.2.2.2.1]; omega)
    rw [← HX.out.2.2.2.2.1] at h
    exact h
  have HNm := Lib.hid (And.intro hNm (And.intro hkq hkw))
  clear hNm hkq hkw
  go_wp2_with fail
  refine HNm.out.1.mono ?_
  rintro e w2 ⟨gN, rfl, hMS⟩
  have hk2 : Keeps (fun _ => False) w1 w2 := by obtain ⟨_, _, _, _, h⟩ := hMS; exact HNm.out.2.1.trans h (fun _ _ h => h)
  obtain ⟨f0, -, -⟩ := HX.out.2.1 w2 hk2
  have HM := Lib.hid (And.intro hMS hk2)
  clear hMS hk2 d0
  have hdec : ∀ (x : Nat) W, x ≤ 1000 → Calls Tryz.prog 37 #[.int .i64 x] W fun e w' => e = .returned (.string (bytesA (Lib.itoa (x : Int)))) ∧ w' = W := fun x W hx => dec_any (x : Int) W (by omega) (by omega)
  have HDec := Lib.hid hdec
  clear hdec
  go_wp2_with fail
  go_loopg [3, 5, 31] n (fun mu tv nv iv wr => ∃ i : Nat, i ≤ n ∧ mu = n - i ∧ iv = .int .i64 i ∧ tv = .string (bytesA (t0 ++ bodyB (sg s) i)) ∧ nv = .int .i64 (ldr (sg s) i : Nat) ∧ Keeps (fun _ => False) w2 wr)
  case atStart => exact ⟨0, Nat.zero_le _, rfl, rfl, by rw [bodyB_zero, List.append_nil], rfl, Keeps.refl _ _⟩
  case round =>
    obtain ⟨i, hi, hgk, rfl, rfl, rfl, hkr⟩ := hrel
    have HG := Lib.hid hgk
    have HK := Lib.hid hkr
    clear hgk
    have hle := ldr_le (sg s) i
    by_cases hlt : i < n
    · obtain ⟨z, ⟨zs, hzl, hzs, hzi⟩, cN, -⟩ := (HM.out.1.keeps hkr).cell i hlt
      obtain rfl : z = ((vnum (sg s) i : Nat) : Int) := by
        rw [hzs] at hzi
        unfold nats at hzi
        rw [List.getElem?_map, List.getElem?_map, List.getElem?_range hlt] at hzi
        simpa using hzi.symm
      obtain ⟨e0, -, -⟩ := HX.out.2.1 wr (HM.out.2.trans hkr (fun _ _ h => h))
      have hP := HX.out.2.2.2.2.2.1
      have hvn : vnum (sg s) i ≤ 1000 := by
        have h1 := hP.vnum_lt hlt
        have h2 := ldr_le (sg s) n
        omega
      clear hzl hzs hzi hkr
      by_cases hrep : rep (sg s) i = i
      · have hvl : vnum (sg s) i = ldr (sg s) i := (vnum_first hP hlt).2 hrep
        have hbody : bodyB (sg s) (i + 1) = bodyB (sg s) i ++ rowB (nats (orb (sg s) i)) := by rw [bodyB_succ, if_pos hrep]
        have hldr : ldr (sg s) (i + 1) = ldr (sg s) i + 1 := by rw [ldr_succ, if_pos hrep]
        have hbt := body_len hP (by omega) i (by omega)
        have hob := hP.per_spec hlt
        have hol : ∀ x ∈ orb (sg s) i, x ≤ 1000 := fun x hx => by have := hP.sameO_lt hlt ((hP.mem_orb hlt).1 hx); omega
        have hO : Calls Tryz.prog 39 #[.slice a n cap, .int .i64 i] wr fun e w' => ∃ v, e = .returned v ∧ OwnI wr.heap.size w' v (nats (orb (sg s) i)) ∧ Keeps (fun _ => False) wr w' :=
          refOrbit_any (.slice a n cap) s i wr (HX.out.1.keeps ((HX.out.2.2.1.trans HM.out.2 (fun _ _ h => h)).trans HK.out (fun _ _ h => h)) (fun _ _ h => h)) (by rw [← HX.out.2.2.2.2.1]; exact hP) (by rw [← HX.out.2.2.2.2.1]; exact hlt) (by rw [← HX.out.2.2.2.2.1]; omega)
        rw [hvl] at cN
        obtain ⟨zo, hzo⟩ : ∃ zo, zo = orb (sg s) i := ⟨_, rfl⟩
        obtain ⟨m, hm⟩ : ∃ m, m = zo.length := ⟨_, rfl⟩
        rw [← hzo] at hol hO hbody
        have hml : m ≤ 1000 := by rw [hm, hzo, orb_length]; omega
        have HO := Lib.hid (And.intro hO (And.intro hbody (And.intro hldr (And.intro hol (And.intro hm hbt)))))
        obtain ⟨T, hT⟩ : ∃ T, T = t0 ++ bodyB (sg s) i := ⟨_, rfl⟩
        rw [← hT]
        have hTl : T.length ≤ 3000000000 := by rw [hT, List.length_append]; omega
        have HT := Lib.hid hT
        clear hO hbody hldr hol hm hbt hvl hvn hzo hT hob hrep hP
        generalize ldr (sg s) i = nx at *
        generalize wr = wo at *
        have t1 : decide ((i : Int) < (n : Int)) = true := decide_eq_true (by omega)
        go_wp2_with fail
        refine HO.out.1.mono ?_
        rintro e w4 ⟨ov, rfl, hown, hk4⟩
        obtain ⟨oa, oc, rfl, -, -⟩ := hown.form
        rw [nats_len, ← HO.out.2.2.2.2.1]
        have HOW := Lib.hid (And.intro hown.sl (HK.out.trans hk4 (fun _ _ h => h)))
        clear hown hk4 cN e0
        go_wp2_with fail
        go_loopg [3, 47] m (fun mu tv jv wz => ∃ j : Nat, j ≤ m ∧ mu = m - j ∧ jv = .int .i64 j ∧ tv = .string (bytesA (T ++ joinB 32 (((nats zo).take j).map Lib.itoa))) ∧ wz = w4)
        case atStart => exact ⟨0, Nat.zero_le _, rfl, rfl, by simp [joinB], rfl⟩
        case round =>
          obtain ⟨j, hj, hgk, rfl, rfl, rfl⟩ := hrel
          have HG2 := Lib.hid hgk
          clear hgk
          have hJl := join_len21 32 (((nats zo).take j).map Lib.itoa) (fun x hx => by
            obtain ⟨z, hz, rfl⟩ := List.mem_map.1 hx
            have hz2 := List.mem_of_mem_take hz
            unfold nats at hz2
            obtain ⟨u, hu, rfl⟩ := List.mem_map.1 hz2
            have := HO.out.2.2.2.1 u hu
            exact Lib.itoa_length_le _ (by omega) (by omega))
          rw [List.length_map, List.length_take, nats_len, ← HO.out.2.2.2.2.1] at hJl
          by_cases hjm : j < m
          · obtain ⟨x, hx⟩ : ∃ x, zo[j]? = some x := ⟨_, List.getElem?_eq_getElem (by rw [← HO.out.2.2.2.2.1]; exact hjm)⟩
            have hxz : (nats zo)[j]? = some (x : Int) := by unfold nats; rw [List.getElem?_map, hx]; rfl
            obtain ⟨g, off, rfl, hc⟩ := HOW.out.1.cellAt hxz
            have hnext := join_prefix hxz
            have hx1 := HO.out.2.2.2.1 x (List.mem_of_getElem? hx)
            have hD := HDec.out x wr hx1
            have hil : (Lib.itoa (x : Int)).length ≤ 21 := Lib.itoa_length_le _ (by omega) (by omega)
            obtain ⟨X, hX⟩ : ∃ X, X = T ++ joinB 32 (((nats zo).take j).map Lib.itoa) := ⟨_, rfl⟩
            have hXl : X.length ≤ 4000000000 := by rw [hX, List.length_append]; omega
            rw [← hX]
            by_cases hj0 : 0 < j
            · rw [if_pos hj0] at hnext
              have hfin : T ++ joinB 32 (((nats zo).take (j + 1)).map Lib.itoa) = (X ++ [32]) ++ Lib.itoa (x : Int) := by rw [hnext, hX]; simp
              have hadd1 : ∀ W, (Op.stringOp .add (bytesA X) ⟨#[32]⟩).run Tryz.prog W = .ok (.string (bytesA (X ++ [32]))) W := add_run X [32] (by simp; omega)
              have hadd2 : ∀ W, (Op.stringOp .add (bytesA (X ++ [32])) (bytesA (Lib.itoa (x : Int)))).run Tryz.prog W = .ok (.string (bytesA ((X ++ [32]) ++ Lib.itoa (x : Int)))) W := add_run _ _ (by simp; omega)
              have HF := Lib.hid hfin
              have t2 : decide ((0 : Int) < (j : Int)) = true := decide_eq_true (by omega)
              have HD := Lib.hid hD
              clear hfin hnext hX hx hxz hJl hD
              generalize Lib.itoa (x : Int) = ix at *
              generalize (X ++ [32]) ++ ix = y2 at *
              generalize X ++ [32] = y1 at *
              generalize wr = wy at *
              go_wp2_with fail
              refine HD.out.mono ?_
              rintro e wy ⟨rfl, rfl⟩
              go_wp2
              go_roundg (m - (j + 1))
              case measure => rw [HG2.out]; omega
              case rel => exact ⟨j + 1, by omega, rfl, by go_num, by rw [HF.out], rfl⟩
            · rw [if_neg hj0] at hnext
              have hfin : T ++ joinB 32 (((nats zo).take (j + 1)).map Lib.itoa) = X ++ Lib.itoa (x : Int) := by rw [hnext, hX]; simp
              have hadd2 : ∀ W, (Op.stringOp .add (bytesA X) (bytesA (Lib.itoa (x : Int)))).run Tryz.prog W = .ok (.string (bytesA (X ++ Lib.itoa (x : Int)))) W := add_run _ _ (by omega)
              have HF := Lib.hid hfin
              have t2 : decide ((0 : Int) < (j : Int)) = false := decide_eq_false (by omega)
              have HD := Lib.hid hD
              clear hfin hnext hX hx hxz hJl hD
              generalize Lib.itoa (x : Int) = ix at *
              generalize X ++ ix = y2 at *
              generalize wr = wy at *
              go_wp2_with fail
              refine HD.out.mono ?_
              rintro e wy ⟨rfl, rfl⟩
              go_wp2
              go_roundg (m - (j + 1))
              case measure => rw [HG2.out]; omega
              case rel => exact ⟨j + 1, by omega, rfl, by go_num, by rw [HF.out], rfl⟩
          · have hjm2 : j = m := by omega
            obtain ⟨X, hX⟩ : ∃ X, X = T ++ joinB 32 (((nats zo).take j).map Lib.itoa) := ⟨_, rfl⟩
            have hXl : X.length ≤ 4000000000 := by rw [hX, List.length_append]; omega
            rw [← hX]
            have hfin : t0 ++ bodyB (sg s) (i + 1) = X ++ [10] := by
              rw [HO.out.2.1, hX, HT.out, hjm2, List.take_of_length_le (by rw [nats_len, HO.out.2.2.2.2.1]; exact Nat.le_refl _)]
              unfold rowB
              simp
            have hadd1 : ∀ W, (Op.stringOp .add (bytesA X) ⟨#[10]⟩).run Tryz.prog W = .ok (.string (bytesA (X ++ [10]))) W := add_run X [10] (by simp; omega)
            have HF := Lib.hid hfin
            have t2 : decide ((j : Int) < (m : Int)) = false := decide_eq_false (by omega)
            have t3 : decide (j < m) = false := decide_eq_false hjm
            clear hfin hX hJl hjm2 hjm
            generalize X ++ [10] = y1 at *
            go_wp2
            go_roundg (n - (i + 1))
            case measure => rw [HG.out]; omega
            case rel => exact ⟨i + 1, by omega, rfl, by go_num, by rw [HF.out], by rw [HO.out.2.2.1]; go_num, HOW.out.2⟩
      · have hvl : ¬ vnum (sg s) i = ldr (sg s) i := fun h => hrep ((vnum_first hP hlt).1 h)
        have hbody : bodyB (sg s) (i + 1) = bodyB (sg s) i := by rw [bodyB_succ, if_neg hrep, List.append_nil]
        have hldr : ldr (sg s) (i + 1) = ldr (sg s) i := by rw [ldr_succ, if_neg hrep]; rfl
        have t2 : (((vnum (sg s) i : Nat) : Int) == ((ldr (sg s) i : Nat) : Int)) = false := by rw [beq_eq_false_iff_ne]; omega
        have t3 : decide (((vnum (sg s) i : Nat) : Int) = ((ldr (sg s) i : Nat) : Int)) = false := decide_eq_false (by omega)
        have t4 : ¬ ((vnum (sg s) i : Nat) : Int) = ((ldr (sg s) i : Nat) : Int) := by omega
        have HA := Lib.hid (And.intro hbody hldr)
        clear hvl hbody hldr hrep hP
        generalize ldr (sg s) i = nx at *
        generalize vnum (sg s) i = vn at *
        go_wp2
        go_roundg (n - (i + 1))
        case measure => rw [HG.out]; omega
        case rel => exact ⟨i + 1, by omega, rfl, by go_num, by rw [HA.out.1], by rw [HA.out.2], HK.out⟩
    · have hin : i = n := by omega
      have t1 : decide ((i : Int) < (n : Int)) = false := decide_eq_false (by omega)
      have t1' : decide (i < n) = false := decide_eq_false hlt
      have hfin : t0 ++ bodyB (sg s) i = t0 ++ bodyB (sg s) n := by rw [hin]
      rw [hfin]
      clear hfin hin hlt
      go_wp2
      go_ret
      exact ⟨rfl, (HX.out.2.2.1.trans HM.out.2 (fun _ _ h => h)).trans HK.out (fun _ _ h => h)⟩

end Go.Proofs.YtblkkcpeodoclaaGreatDoor
