/- References of layers 05 and 06: a permutation of swaps; any map. -/
import Derived.Test.YtblkkcpeodoclaaGreatDoorPtConn
import Derived.Test.YtblkkcpeodoclaaGreatDoorPtPlans
import Derived.Test.YtblkkcpeodoclaaGreatDoorPtPlane
namespace Go.Proofs.YtblkkcpeodoclaaGreatDoor
open Go.RowKit

/-- Two numbers of a list exchanged. -/
def swL (s : List Nat) (i k : Nat) : List Nat := (s.set i (sg s k)).set k (sg s i)
theorem swL_length (s : List Nat) (i k : Nat) : (swL s i k).length = s.length := by simp [swL]
theorem sg_swL {s : List Nat} {i k d : Nat} (hi : i < s.length) (hk : k < s.length) : sg (swL s i k) d = sg s (xch i k d) := by
  unfold swL xch
  show ((s.set i (sg s k)).set k (sg s i)).getD d 0 = _
  simp only [List.getD_eq_getElem?_getD, List.getElem?_set, List.length_set]
  by_cases h1 : k = d
  · subst h1
    rw [if_pos rfl, if_pos hk]
    by_cases h2 : k = i
    · subst h2; simp
    · rw [if_neg h2, if_pos rfl]; rfl
  · rw [if_neg h1]
    by_cases h2 : i = d
    · subst h2; rw [if_pos rfl, if_pos hi, if_pos rfl]; rfl
    · rw [if_neg h2, if_neg (fun h => h2 h.symm), if_neg (fun h => h1 h.symm)]; rfl
theorem swL_isP {s : List Nat} {i k : Nat} (hi : i < s.length) (hk : k < s.length) (h : IsP s.length (sg s)) : IsP (swL s i k).length (sg (swL s i k)) := by
  rw [swL_length]
  exact (h.tw hi hk).congr (fun d _ => sg_swL hi hk)
theorem nats_swL (s : List Nat) (i k : Nat) : nats (swL s i k) = ((nats s).set i (sg s k : Nat)).set k (sg s i : Nat) := by
  simp [nats, swL, List.map_set]
theorem sg_range {n d : Nat} (h : d < n) : sg (List.range n) d = d := by simp [sg, h]
theorem range_isP (n : Nat) : IsP (List.range n).length (sg (List.range n)) := by
  rw [List.length_range]
  exact (⟨fun d hd => hd, fun d e _ _ h => h⟩ : IsP n (fun d => d)).congr (fun d hd => sg_range hd)


set_option maxRecDepth 100000 in
set_option maxHeartbeats 4000000 in
theorem refMix_any (pv : Value) (ps : List Nat) (n : Nat) (w : World) (hp : Sl .u8 w pv (nats ps)) (hps : ∀ b ∈ ps, b < 256) (hn : n ≤ 100000) :
    Calls Tryz.prog 33 #[.int .i64 n, pv] w fun e w' => ∃ v s, e = .returned v ∧ s.length = n ∧ IsP n (sg s) ∧ OwnI w.heap.size w' v (nats s) ∧ Keeps (fun _ => False) w w' := by
  have HP : Hid (∀ W, Keeps (fun _ => False) w W → Sl .u8 W pv (nats ps)) := Lib.hid (fun W hk => hp.keeps hk (fun _ _ h => h))
  obtain ⟨pa, pc, rfl, hpc, hpm⟩ := hp.form
  rw [nats_len] at hpc HP ⊢
  have HPS := Lib.hid hps
  have h0 : OwnI w.heap.size w (.slice none 0 0) (nats ((List.range n).take 0)) ∧ Keeps (fun _ => False) w w := ⟨by simpa [nats] using OwnI.nil _ _, Keeps.refl _ _⟩
  clear hp hps
  go_enter Tryz.func33, Tryz.ntmps33
  go_wp2_with fail
  go_loopg [5, 6] n (fun m lv i wr => ∃ j : Nat, j ≤ n ∧ m = n - j ∧ i = .int .i64 j ∧ OwnI w.heap.size wr lv (nats ((List.range n).take j)) ∧ Keeps (fun _ => False) w wr)
  case atStart => exact ⟨0, Nat.zero_le _, rfl, rfl, h0⟩
  case round =>
    clear h0
    obtain ⟨j, hj, hgk, rfl, hown, hkw⟩ := hrel
    have HG := Lib.hid hgk
    clear hgk
    by_cases hlt : j < n
    · have hlen : ((List.range n).take j).length = j := by simp; omega
      have hfo := hown.form
      rw [nats_len, hlen] at hfo
      obtain ⟨fa, fc, rfl, _, _⟩ := hfo
      have HN : Hid ((nats ((List.range n).take j)).length = j) := Lib.hid (by rw [nats_len, hlen])
      have hsz := hkw.size
      have HK := Lib.hid hkw
      have hjl : j ≤ 10000000000 := by omega
      clear hkw hlen
      go_wp2_with (at_builtin; go_loud (refine append1n j rfl _ _ rfl w.heap.size (.slice fa j fc) (nats ((List.range n).take j)) (j : Int) HN wr.heap.size rfl rfl rfl hown hjl hsz ?_); intro g2 cap2 w3 hown3 hk3 hat hg)
      have ho : OwnI w.heap.size w3 (.slice (some ⟨g2, 0, none⟩) (j + 1) cap2) (nats ((List.range n).take (j + 1))) := by
        have : (List.range n).take (j + 1) = (List.range n).take j ++ [j] := take_get (by simp [hlt])
        rw [this, nats_snoc]
        exact hown3
      have HF := Lib.hid (And.intro ho (HK.out.trans hk3 (fun x hx h => by have := (hown.lt x h).1; omega)))
      clear ho hown3 hk3 hat hown
      go_wp2
      go_roundg (n - (j + 1))
      case measure => rw [HG.out]; omega
      case rel => exact ⟨j + 1, by omega, rfl, by go_num, HF.out⟩
    · obtain rfl : j = n := by omega
      have hall : (List.range j).take j = List.range j := by rw [List.take_of_length_le (by simp)]
      rw [hall] at hown
      have hfo := hown.form
      rw [nats_len, List.length_range] at hfo
      obtain ⟨fa, fc, rfl, _, _⟩ := hfo
      have h1 : ∃ s : List Nat, s.length = j ∧ IsP j (sg s) ∧ OwnI w.heap.size wr (.slice fa j fc) (nats s) ∧ Keeps (fun _ => False) w wr := ⟨List.range j, by simp, by have := range_isP j; rwa [List.length_range] at this, hown, hkw⟩
      clear hall hown hkw hlt hj
      go_wp2_with fail
      go_loopg [7, 8, 20] j (fun m _x _y t wr => ∃ i : Nat, i ≤ j ∧ m = j - i ∧ t = .int .i64 i ∧ ∃ s : List Nat, s.length = j ∧ IsP j (sg s) ∧ OwnI w.heap.size wr (.slice fa j fc) (nats s) ∧ Keeps (fun _ => False) w wr)
      case atStart => exact ⟨0, Nat.zero_le _, rfl, rfl, h1⟩
      case round =>
        clear h1
        obtain ⟨i, hi, hgk2, rfl, s, hsl, hsP, hown, hkw⟩ := hrel
        have HG2 := Lib.hid hgk2
        clear hgk2
        by_cases hlt : i < j
        · by_cases hip : i < ps.length
          · obtain ⟨g, rfl⟩ := own_some hown (by rw [nats_len]; omega)
            obtain ⟨b, hb⟩ : ∃ b, ps[i]? = some b := ⟨_, List.getElem?_eq_getElem hip⟩
            obtain ⟨a', cap', hsv', _, _, _, hc⟩ := HP.out wr hkw
            simp only [Value.slice.injEq] at hsv'
            obtain ⟨rfl, -, rfl⟩ := hsv'
            obtain ⟨g0, off, rfl, hcell⟩ := hc i _ (nats_get hb)
            have hb256 := HPS.out b (List.mem_of_getElem? hb)
            obtain ⟨k, hk, hkr⟩ : ∃ k, k < j ∧ wrap64 ((i : Int) + (b : Int) % ((j : Int) - (i : Int))) = (k : Int) := by
              refine ⟨i + b % (j - i), by have := Nat.mod_lt b (show 0 < j - i by omega); omega, ?_⟩
              have h5 : (i : Int) + (b : Int) % ((j : Int) - (i : Int)) = ((i + b % (j - i) : Nat) : Int) := by
                rw [show (j : Int) - i = ((j - i : Nat) : Int) by omega]
                push_cast
                rfl
              have h6 : i + b % (j - i) < j := by have := Nat.mod_lt b (show 0 < j - i by omega); omega
              rw [h5]
              exact IntWalk.wrap64_in _ (by omega)
            have hji : ¬ (j : Int) - i = 0 := by omega
            obtain ⟨ci, fi⟩ := hown.cell (nats_get (sg_get (by omega : i < s.length)))
            obtain ⟨ck, fk⟩ := hown.cell (nats_get (sg_get (by omega : k < s.length)))
            obtain ⟨zk, ck2, fk2⟩ := (hown.set i (sg s k : Nat)).has k (by rw [List.length_set, nats_len]; omega)
            have hsw := swL_isP (s := s) (i := i) (k := k) (by omega) (by omega) (by rw [hsl]; exact hsP)
            rw [swL_length, hsl] at hsw
            have hset := (hown.set i (sg s k : Nat)).set k (sg s i : Nat)
            rw [← nats_swL] at hset
            have HF := Lib.hid (And.intro hsw (And.intro hset (And.intro hsl (And.intro hown hkw))))
            clear hsw hset hsP hown hkw hsl hb hc
            generalize sg s k = sk at *
            generalize sg s i = si at *
            have hj100 : j ≤ 100000 := hn
            go_wp2_with fail
            go_region
            all_goals
              go_wp2
              go_roundg (j - (i + 1))
              case measure => rw [HG2.out]; omega
              case rel => exact ⟨i + 1, by omega, rfl, by go_num, swL s i k, by rw [swL_length]; exact HF.out.2.2.1, HF.out.1, HF.out.2.1.keeps ((Keeps.refl (fun _ => False) _).drew) (fun _ _ h => h), ((HF.out.2.2.2.2.trans (((Keeps.refl (fun x => x = g) wr).setCell (p := ⟨g, i, none⟩) (.inl rfl) _).setCell (p := ⟨g, k, none⟩) (.inl rfl) _) (fun x hx e => by have := (HF.out.2.2.2.1.lt g rfl).1; omega)).trans ((Keeps.refl (fun _ => False) _).drew) (fun _ _ h => h))⟩
          · have HF := Lib.hid (And.intro hsl (And.intro hsP (And.intro hown hkw)))
            clear hsl hsP hown hkw
            go_wp2
            go_roundg (j - (i + 1))
            case measure => rw [HG2.out]; omega
            case rel => exact ⟨i + 1, by omega, rfl, by go_num, s, HF.out⟩
        · have HF := Lib.hid (And.intro hsl (And.intro hsP (And.intro hown hkw)))
          clear hsl hsP hown hkw
          go_wp2
          go_ret
          exact ⟨_, s, rfl, HF.out⟩


/-- Any map of numbers. -/
def AnyMap (E : Nat) (s : List Nat) (rt : Int) : Prop := s.length = 2 * E ∧ IsP s.length (sg s) ∧ ((s.length = 0 ∧ rt = -1) ∨ ∃ r : Nat, rt = r ∧ r < s.length)
theorem AnyMap.of {E : Nat} {s : List Nat} {rt : Int} (h1 : s.length = 2 * E) (h2 : IsP s.length (sg s)) (h3 : (s.length = 0 ∧ rt = -1) ∨ ∃ r : Nat, rt = r ∧ r < s.length) : AnyMap E s rt := ⟨h1, h2, h3⟩

set_option maxRecDepth 100000 in
set_option maxHeartbeats 4000000 in
theorem refAny06_any (pv : Value) (ps : List Nat) (E root : Nat) (w : World) (hp : Sl .u8 w pv (nats ps)) (hps : ∀ b ∈ ps, b < 256) (hE : E ≤ 10000) (hr : root < 256) :
    Calls Tryz.prog 14 #[.int .i64 E, pv, .int .u8 root] w fun e w' => ∃ sv s rt, e = .returned (mapV sv rt 0) ∧ AnyMap E s rt ∧ OwnI w.heap.size w' sv (nats s) ∧ Keeps (fun _ => False) w w' := by
  have k0 := (Keeps.refl (fun _ => False) w).alloc (.cells #[.slice none 0 0, .int .i64 0, .int .i64 0] 35)
  have hb0 : (w.alloc (.cells #[.slice none 0 0, .int .i64 0, .int .i64 0] 35)).heap[w.heap.size]? = some (.cells #[.slice none 0 0, .int .i64 0, .int .i64 0] 35 (0, 0)) := heap_alloc_new w _
  have hM := refMix_any pv ps (2 * E) _ (hp.keeps k0 (fun _ _ h => h)) hps (by omega)
  rw [show ((2 * E : Nat) : Int) = 2 * (E : Int) by omega] at hM
  have hsz0 : (w.alloc (.cells #[.slice none 0 0, .int .i64 0, .int .i64 0] 35)).heap.size = w.heap.size + 1 := by simp
  have HK0 := Lib.hid (And.intro k0 hb0)
  clear hp k0 hb0
  have hbw : (w.alloc (.cells #[.slice none 0 0, .int .i64 0, .int .i64 0] 35)).heap.size = w.heap.size + 1 := by simp
  go_enter Tryz.func14, Tryz.ntmps14
  go_upto_region 1 with fail
  go_cut [7] from 8 to 12 (fun v wz => ∃ wx bx sv s, wx = wz ∧ v = .pointer (some ⟨bx, 0, none⟩) ∧ s.length = 2 * E ∧ IsP s.length (sg s) ∧ wx.heap[bx]? = some (.cells #[sv, .int .i64 (-1), .int .i64 0] 35 (0, 0)) ∧ w.heap.size < bx ∧
    wx.heap[w.heap.size]? = some (.cells #[.slice none 0 0, .int .i64 0, .int .i64 0] 35 (0, 0)) ∧ OwnI (w.heap.size + 1) wx sv (nats s) ∧ (∀ q, sv.ownBlock = some q → q ≠ bx) ∧ Keeps (fun _ => False) w wx)
  case first =>
    go_wp2_with fail
    refine hM.mono ?_
    rintro e w2 ⟨sv, s, rfl, hlen, hsP, hsv, hk2⟩
    have hk02 := HK0.out.1.trans hk2 (fun _ _ h => h)
    have hb2 := hk2.at HK0.out.2 (fun h => h)
    have hs2 := hk2.size
    clear hM hk2
    have hbm := heap_alloc_new w2 (.cells #[sv, .int .i64 (-1), .int .i64 0] 35)
    have hb3 := ((Keeps.refl (fun _ => False) w2).alloc (.cells #[sv, .int .i64 (-1), .int .i64 0] 35)).at hb2 (fun h => h)
    have hk03 := hk02.alloc (.cells #[sv, .int .i64 (-1), .int .i64 0] 35)
    have hsv3 := (hsv.mono (B' := w.heap.size + 1) (fun q hq => by have := (hsv.lt q hq).1; omega)).alloc (.cells #[sv, .int .i64 (-1), .int .i64 0] 35)
    have hq : ∀ q, sv.ownBlock = some q → q ≠ w2.heap.size := fun q hq => by have := (hsv.lt q hq).2; omega
    obtain ⟨a, cap, hfo, _, _⟩ := hsv.form
    rw [nats_len, hlen] at hfo
    subst hfo
    have HF := Lib.hid (And.intro hlen (And.intro hsP (And.intro hbm (And.intro hb3 (And.intro hsv3 (And.intro hq hk03))))))
    have hlt : w.heap.size < w2.heap.size := by omega
    clear hlen hsP hbm hb3 hsv3 hq hk03 hsv hk02 hb2 hs2
    go_wp2
    go_meet
    obtain ⟨h1, h2, h3, h4, h5, h6, h7⟩ := HF.out
    exact ⟨_, _, _, s, rfl, rfl, h1, by rw [h1]; exact h2, h3, hlt, h4, h5, h6, h7⟩
  case rest =>
    obtain ⟨wx, bx, sv, s, rfl, rfl, hlen, hsP, hbm, hbx, hb3, hsv, hq, hk3⟩ := hcut
    obtain ⟨a, cap, rfl, _, _⟩ := hsv.form
    generalize hnl : (nats s).length = nl at *
    have HNL := Lib.hid hnl
    clear hnl
    have HH := Lib.hid (And.intro hsP (And.intro hb3 (And.intro hsv (And.intro hq (And.intro hk3 hlen)))))
    clear hM hsP hb3 hsv hq hk3 HK0 hlen
    by_cases hp0 : 0 < E
    rotate_left
    · have bt : decide ((0 : Int) < (E : Int)) = false := decide_eq_false (by omega)
      have H0 : Hid (E = 0) := Lib.hid (by omega)
      have d0 := World.cell_of_heap hbm 0
      have d1 := World.cell_of_heap hbm 1
      have d2 := World.cell_of_heap hbm 2
      have zz := World.free_of_heap HH.out.2.1
      have e0 := World.cell_of_heap HH.out.2.1 0
      have e1 := World.cell_of_heap HH.out.2.1 1
      have e2 := World.cell_of_heap HH.out.2.1 2
      go_wp2
      obtain ⟨r1, r2⟩ := res3 HH.out.2.1 (.slice a nl cap) (.int .i64 (-1)) (.int .i64 0)
      have c0 := World.cell_of_heap r1 0
      have c1 := World.cell_of_heap r1 1
      have c2 := World.cell_of_heap r1 2
      refine bodyPost_ret (v := mapV (.slice a nl cap) (-1) 0) ?_ rfl ⟨_, s, -1, rfl, AnyMap.of HH.out.2.2.2.2.2 HH.out.1 (.inl ⟨by rw [HH.out.2.2.2.2.2, H0.out], rfl⟩), (HH.out.2.2.1.keeps r2 (fun q hq e => by have := (HH.out.2.2.1.lt q hq).1; omega)).mono (fun q hq => by have := (HH.out.2.2.1.lt q hq).1; omega), HH.out.2.2.2.2.1.trans r2 (fun x hx e => by omega)⟩
      · simp at c0 c1 c2
        simp [results, Tryz.results14, go_sem, mapV, c0, c1, c2]
    · have bt : decide ((0 : Int) < (E : Int)) = true := decide_eq_true (by omega)
      have hlen := HH.out.2.2.2.2.2
      obtain ⟨r, hrr⟩ : ∃ r, r = root % (2 * E) := ⟨_, rfl⟩
      have hrn : r < 2 * E := by rw [hrr]; exact Nat.mod_lt _ (by omega)
      have er : ((root : Nat) : Int).tmod (2 * (E : Int)) = (r : Int) := by rw [show 2 * (E : Int) = ((2 * E : Nat) : Int) by omega, hrr, Int.tmod_eq_emod_of_nonneg (by omega)]; simp
      have er2 : ((root : Nat) : Int) % (2 * (E : Int)) = (r : Int) := by rw [← er, Int.tmod_eq_emod_of_nonneg (by omega)]
      have hn0 : ¬ 2 * (E : Int) = 0 := by omega
      have hE0 : ¬ (E : Int) = 0 := by omega
      have HR : Hid (r < s.length) := Lib.hid (by omega)
      have hbm2 : (wx.setCell ⟨bx, 1, none⟩ (.int .i64 (r : Int))).heap[bx]? = some (.cells #[.slice a nl cap, .int .i64 r, .int .i64 0] 35 (0, 0)) := heap_setCell_same hbm 1 _
      have k4 := (Keeps.refl (fun k => k = bx) wx).setCell (p := ⟨bx, 1, none⟩) (.inl rfl) (.int .i64 (r : Int))
      have hb4 := k4.at HH.out.2.1 (fun e => by omega)
      have d0 := World.cell_of_heap hbm 0
      have d1 := World.cell_of_heap hbm 1
      have yy := World.free_of_heap hbm
      have f0 := World.cell_of_heap hbm2 0
      have f1 := World.cell_of_heap hbm2 1
      have f2 := World.cell_of_heap hbm2 2
      have zz := World.free_of_heap hb4
      have e0 := World.cell_of_heap hb4 0
      have e1 := World.cell_of_heap hb4 1
      have e2 := World.cell_of_heap hb4 2
      clear hrr hrn hlen
      go_wp2
      obtain ⟨r1, r2⟩ := res3 hb4 (.slice a nl cap) (.int .i64 r) (.int .i64 0)
      have c0 := World.cell_of_heap r1 0
      have c1 := World.cell_of_heap r1 1
      have c2 := World.cell_of_heap r1 2
      have own4 := HH.out.2.2.1.keeps k4 (fun q hq e => HH.out.2.2.2.1 q hq e)
      have kk := HH.out.2.2.2.2.1.trans k4 (fun x hx e => by omega)
      refine bodyPost_ret (v := mapV (.slice a nl cap) r 0) ?_ rfl ⟨_, s, r, rfl, AnyMap.of HH.out.2.2.2.2.2 HH.out.1 (.inr ⟨r, rfl, HR.out⟩), (own4.keeps r2 (fun q hq e => by have := (HH.out.2.2.1.lt q hq).1; omega)).mono (fun q hq => by have := (HH.out.2.2.1.lt q hq).1; omega), kk.trans r2 (fun x hx e => by omega)⟩
      · simp at c0 c1 c2
        simp [results, Tryz.results14, go_sem, mapV, c0, c1, c2]

end Go.Proofs.YtblkkcpeodoclaaGreatDoor
