/- slices.Repeat of one number; math/bits.Mul by one. -/
import Derived.Test.YtipelclohcdkcaaGreatPerms
import Derived.Laws.CopyOwn
namespace Go.Proofs.YtipelclohcdkcaaGreat
open Go.RowKit

set_option maxRecDepth 100000 in
set_option maxHeartbeats 1000000 in
theorem mul64_one (y : Nat) (w : World) (hy : y ≤ 1000000000) :
    Calls Tryz.prog 206 #[.int .u64 1, .int .u64 y] w fun e w' => e = .returned (.tuple #[.int .u64 0, .int .u64 y]) ∧ w = w' := by
  have b1 : bits BinOp.and IntKind.u64 1 4294967295 = 1 := by decide +kernel
  have b0 : bits BinOp.and IntKind.u64 0 4294967295 = 0 := by decide +kernel
  have by1 : bits BinOp.and IntKind.u64 (y : Int) 4294967295 = (y : Int) := by
    rw [and_lit y 4294967295 4294967295 rfl (by omega) (by omega), show (4294967295 : Nat) = 2 ^ 32 - 1 from rfl, Nat.and_two_pow_sub_one_eq_mod, Nat.mod_eq_of_lt (by omega)]
  have d0 : (y : Int) / 4294967296 = 0 := by omega
  go_enter Tryz.func206, Tryz.ntmps206
  go_wp2
  go_ret2
  exact ⟨rfl, rfl⟩

theorem mul_one (y : Nat) (w : World) (hy : y ≤ 1000000000) :
    Calls Tryz.prog 193 #[.int .u64 1, .int .u64 y] w fun e w' => e = .returned (.tuple #[.int .u64 0, .int .u64 y]) ∧ w = w' := by
  have hM := mul64_one y w hy
  go_enter Tryz.func193, Tryz.ntmps193
  go_wp2_with (go_at_call 206; refine hM.mono ?_; rintro e w' ⟨rfl, rfl⟩)
  go_ret2
  exact ⟨rfl, rfl⟩

/-- A row of n cells at block g whose first k ones are z. -/
def RepS (w : World) (g n : Nat) (z : Int) (k : Nat) (wr : World) : Prop :=
  ∃ cur : List Value, cur.length = n ∧ (∀ i, i < k → cur[i]? = some (.int .i64 z)) ∧ wr.heap[g]? = some (.cells cur.toArray 3 (0, 0)) ∧ w.heap.size ≤ g ∧ Below w.heap.size w wr

theorem RepS.done {w wr : World} {g n : Nat} {z : Int} (h : RepS w g n z n wr) (hn : n ≤ 100000000) : MadeS w g n (fun zs => zs = List.replicate n z) wr := by
  obtain ⟨cur, h1, h2, h3, h4, h5⟩ := h
  have hc : cur = ints (List.replicate n z) := by
    apply List.ext_getElem?
    intro i
    rcases Nat.lt_or_ge i n with hi | hi
    · rw [h2 i hi]; simp [ints, hi]
    · rw [List.getElem?_eq_none (by omega), List.getElem?_eq_none (by simp [ints]; omega)]
  subst hc
  refine ⟨_, by simp, rfl, ⟨by simp [ints], .inr ⟨g, n, _, by simp, h4, h3, by simp, by unfold maxLen; omega, by simp [ints], ?_⟩⟩, Keeps.of_below h5 _⟩
  simp [ints]

theorem splice_rep {cur : List Value} {z : Int} {k m n : Nat} (hl : cur.length = n) (hm : k + m ≤ n) (hc : ∀ i, i < k → cur[i]? = some (.int .i64 z)) :
    (splice cur k (List.replicate m (.int .i64 z))).length = n ∧ ∀ i, i < k + m → (splice cur k (List.replicate m (Value.int .i64 z)))[i]? = some (.int .i64 z) := by
  refine ⟨by rw [length_splice _ _ _ (by simp; omega)]; exact hl, fun i hi => ?_⟩
  unfold splice
  have hk : (cur.take k).length = k := by simp; omega
  rcases Nat.lt_or_ge i k with h1 | h1
  · rw [List.getElem?_append_left (by omega), List.getElem?_take, if_pos h1]; exact hc i h1
  · rw [List.getElem?_append_right (by omega), hk, List.getElem?_append_left (by simp; omega), List.getElem?_replicate, if_pos (by omega)]

set_option maxRecDepth 100000 in
set_option maxHeartbeats 2000000 in
theorem repeat_any (xv : Value) (z : Int) (n : Nat) (w : World) (hx : Sl .i64 w xv [z]) (hn : n ≤ 100000000) :
    Calls Tryz.prog 149 #[xv, .int .i64 n] w fun e w' => ∃ g, e = .returned (.slice (some ⟨g, 0, none⟩) n n) ∧ MadeS w g n (fun zs => zs = List.replicate n z) w' := by
  have hM := mul_one n w (by omega)
  obtain ⟨i, hi, hz0, hz1, hz2⟩ := info_parts infoInt
  have hmk := fun w => run_make (P := Tryz.prog) w 22 3 i _ Tryz.underlying22 hi hz0 .i64 .i64 (n : Int) (n : Int) (by omega) (Int.le_refl _) (by rw [hz2]; omega) (by omega)
  simp only [hz1, Int.toNat_natCast, Nat.mul_one] at hmk
  have hsz : (Tryz.prog.info? 3).map (·.size) = some 1 := by rw [hi]; simp [hz1]
  have hx1 := hx.keeps ((Keeps.refl (fun _ => False) w).alloc (.cells (madeCells #[.int .i64 0] n) 3)) (fun _ _ h => h)
  obtain ⟨xa, xc, rfl, hxn, hxm⟩ := hx.form
  simp only [List.length_singleton] at hxn hx hx1 ⊢
  obtain ⟨xg, xo, rfl, hxcell⟩ := hx1.cellAt (j := 0) (z := z) rfl
  have hg0 := heap_alloc_new w (.cells (madeCells #[.int .i64 0] n) 3)
  have hb0 := ((Below.refl w.heap.size w).alloc (Nat.le_refl _) (.cells (madeCells #[.int .i64 0] n) 3))
  have hcur : madeCells #[.int .i64 0] n = (List.replicate n (Value.int .i64 0)).toArray := by
    apply Array.toList_inj.1
    rw [toList_madeCells_one]
  have hcur2 : madeCells (Value.int IntKind.i64 0).cells n = (List.replicate n (Value.int .i64 0)).toArray := hcur
  rw [hcur] at hx1 hxcell hg0 hb0
  rw [hcur2] at hmk
  clear hcur2
  have t1 : decide ((9223372036854775807 : Int) < (n : Int)) = false := decide_eq_false (by omega)
  have t0 : decide ((n : Int) < 0) = false := decide_eq_false (by omega)
  have HI := Lib.hid hi
  have HX := Lib.hid (And.intro hx1 hxcell)
  have HG := Lib.hid (And.intro hg0 (And.intro hb0 hcur))
  clear hx hx1 hxcell hi hz0 hz1 hz2 hg0 hb0 hcur
  obtain ⟨B, hB⟩ : ∃ B, B = w.heap.size := ⟨_, rfl⟩
  by_cases h0 : 0 < n
  · have hN : (List.replicate 1 (Value.int .i64 z)).length = Nat.min 1 n := by rw [List.length_replicate]; exact (Nat.min_eq_left (by omega)).symm
    have hL : 0 + (List.replicate 1 (Value.int .i64 z)).length ≤ (List.replicate n (Value.int .i64 0)).length := by simp; omega
    have h1c : ∀ v ∈ List.replicate 1 (Value.int .i64 z), v.oneCell' = true := fun v hv => by
      obtain rfl := List.eq_of_mem_replicate hv
      rfl
    have hsrc : ∀ (j : Nat) (v : Value), (List.replicate 1 (Value.int .i64 z))[j]? = some v → (w.alloc (.cells (List.replicate n (Value.int .i64 0)).toArray 3)).cell? ((⟨xg, xo, none⟩ : Addr).add j) = some v := fun j v hv => by
      rcases Nat.eq_zero_or_pos j with rfl | hj
      · have h2 : v = .int .i64 z := by simpa using hv.symm
        rw [h2]; exact HX.out.2
      · rw [List.getElem?_eq_none (by simp; omega)] at hv; cases hv
    have HS := Lib.hid (And.intro hN (And.intro hL (And.intro h1c hsrc)))
    have hspl := splice_rep (cur := List.replicate n (Value.int .i64 0)) (z := z) (k := 0) (m := 1) (n := n) (by simp) (by omega) (fun i hi => by omega)
    have HSP := Lib.hid hspl
    clear hN hL h1c hsrc hspl
    go_enter Tryz.func149, Tryz.ntmps149
    go_wp2_with (first | (go_at_call 193; refine hM.mono ?_; rintro e w' ⟨rfl, rfl⟩) | (refine wpList_copy_splice rfl (.tmp 31) (.tmp 32) 22 22 rfl 3 Tryz.underlying22 hsz _ _ _ _ _ _ rfl rfl w.heap.size 0 (List.replicate n (Value.int .i64 0)) 3 HG.out.1 (List.replicate 1 (.int .i64 z)) HS.out.1 (fun _ => ⟨rfl, _, rfl, HS.out.2.2.2⟩) HS.out.2.1 HS.out.2.2.1 w.heap.size w HG.out.2.1 (Nat.le_refl _) ?_; intro w1 hg1 hb1))
    have hR : RepS w w.heap.size n z 1 w1 := ⟨_, HSP.out.1, fun i hi => HSP.out.2 i (by omega), hg1.out, Nat.le_refl _, hb1⟩
    rw [← hB] at hR ⊢
    clear hg1 hb1 hmk hM HS HSP HG HX hB
    go_loopg [8] (n - 1) (fun m i wr => ∃ k : Nat, 1 ≤ k ∧ k ≤ n ∧ m = n - k ∧ i = .int .i64 k ∧ RepS w B n z k wr)
    case atStart => exact ⟨1, by omega, by omega, rfl, by go_num, hR⟩
    case round =>
      clear hR
      obtain ⟨k, hk1, hk, hgk, rfl, hR⟩ := hrel
      have HGK := Lib.hid hgk
      clear hgk
      by_cases hlt : k < n
      · obtain ⟨m, hm⟩ : ∃ m, m = Nat.min k (n - k) := ⟨_, rfl⟩
        have hm0 : 0 < m ∧ k + m ≤ n := by
          have h1 : Nat.min k (n - k) ≤ k := Nat.min_le_left _ _
          have h2 : Nat.min k (n - k) ≤ n - k := Nat.min_le_right _ _
          have h3 : Nat.min k (n - k) = k ∨ Nat.min k (n - k) = n - k := by
            rcases Nat.le_total k (n - k) with h | h
            · exact .inl (Nat.min_eq_left h)
            · exact .inr (Nat.min_eq_right h)
          omega
        obtain ⟨hm0, hkm⟩ := hm0
        obtain ⟨cur, hcl, hcc, hch, hBw, hbw⟩ := hR
        have hspl := splice_rep hcl hkm hcc
        have hN : (List.replicate m (Value.int .i64 z)).length = Nat.min k (n - k) := by rw [List.length_replicate]; exact hm
        have hL : k + (List.replicate m (Value.int .i64 z)).length ≤ cur.length := by simp; omega
        have h1c : ∀ v ∈ List.replicate m (Value.int .i64 z), v.oneCell' = true := fun v hv => by
          obtain rfl := List.eq_of_mem_replicate hv
          rfl
        have hsrc : ∀ (j : Nat) (v : Value), (List.replicate m (Value.int .i64 z))[j]? = some v → wr.drew.cell? ((⟨B, 0, none⟩ : Addr).add j) = some v := fun j v hv => by
          have hj : j < m := by simpa using lt_of_get hv
          rw [List.getElem?_replicate, if_pos hj] at hv
          rw [← hv]
          have h5 := World.cell_of_heap hch j
          have h6 : (⟨B, 0, none⟩ : Addr).add j = ⟨B, j, none⟩ := by
            unfold Addr.add
            by_cases hj0 : j = 0 <;> simp [hj0]
          show wr.cell? ((⟨B, 0, none⟩ : Addr).add j) = _
          rw [h6, h5, List.getElem?_toArray]
          exact hcc j (by have h1 : Nat.min k (n - k) ≤ k := Nat.min_le_left _ _; omega)
        have HS := Lib.hid (And.intro hN (And.intro hL (And.intro h1c (And.intro hsrc (And.intro hspl (And.intro (show wr.drew.heap[B]? = some (.cells cur.toArray 3 (0, 0)) from hch) (And.intro (show Below w.heap.size w wr.drew from hbw.drew) (show w.heap.size ≤ B from hBw))))))))
        clear hN hL h1c hsrc hspl hch hcc hcl hm hBw hbw
        go_wp2_with fail
        have hnk1 : ¬ k = n := by omega
        have hnk2 : ¬ n = k := by omega
        have hnk3 : ¬ n = 0 := by omega
        have hsl1 : IntKind.i64.wrap ((k : Int) + (m : Int)) = (k : Int) + (m : Int) := IntWalk.i64_in _ (by omega)
        go_region_law ((refine step_copy_splice rfl (.tmp 41) (.tmp 44) 22 22 rfl 3 Tryz.underlying22 hsz (some ⟨B, k, none⟩) (some ⟨B, 0, none⟩) (n - k) (n - k) k n (by simp [Act.eval, Act.put]) (by simp [Act.eval, Act.put]) B k cur 3 HS.out.2.2.2.2.2.1 (List.replicate m (.int .i64 z)) HS.out.1 (fun _ => ⟨rfl, _, rfl, HS.out.2.2.2.1⟩) HS.out.2.1 HS.out.2.2.1 w.heap.size w HS.out.2.2.2.2.2.2.1 HS.out.2.2.2.2.2.2.2 ?_); intro w3 hg3 hb3; simp only [List.length_replicate])
        have HR := Lib.hid (show RepS w B n z (k + m) w3 from ⟨_, HS.out.2.2.2.2.1.1, HS.out.2.2.2.2.1.2, hg3.out, HS.out.2.2.2.2.2.2.2, hb3⟩)
        clear hg3 hb3 HS
        go_wp2
        go_roundg (n - (k + m))
        case measure => rw [HGK.out]; omega
        case rel => exact ⟨k + m, by omega, by omega, rfl, by go_num, HR.out⟩
      · obtain rfl : k = n := by omega
        have HR := Lib.hid (hR.done hn)
        clear hR
        go_wp2
        go_ret
        exact ⟨_, rfl, HR.out⟩
  · have H0 := Lib.hid (show n = 0 by omega)
    have hmin : Nat.min 1 n = 0 := by rw [H0.out]; rfl
    have HS := Lib.hid hmin
    have tn : decide (0 < n) = false := decide_eq_false h0
    have hR : RepS w w.heap.size n z n (w.alloc (.cells (List.replicate n (Value.int .i64 0)).toArray 3)) := ⟨_, by simp, fun i hi => by have := H0.out; omega, HG.out.1, Nat.le_refl _, HG.out.2.1⟩
    rw [← hB] at hR
    have HR := Lib.hid (hR.done hn)
    clear hmin hR h0
    go_enter Tryz.func149, Tryz.ntmps149
    go_wp2_with (first | (go_at_call 193; refine hM.mono ?_; rintro e w' ⟨rfl, rfl⟩) | (refine wpList_copy_nothing rfl (.tmp 31) (.tmp 32) 22 22 rfl 3 Tryz.underlying22 hsz _ _ _ _ _ _ rfl rfl HS.out ?_))
    have e0 : (Value.int .i64 (n : Int)) = .int .i64 0 := by rw [H0.out]; rfl
    go_loopg [8] 0 (fun m i wr => m = 0 ∧ i = .int .i64 0 ∧ wr = w.alloc (.cells (List.replicate n (Value.int .i64 0)).toArray 3))
    case atStart => exact ⟨rfl, rfl, by simp⟩
    case round =>
      obtain ⟨hgk, rfl, rfl⟩ := hrel
      clear e0 hgk
      go_wp2
      go_ret
      exact ⟨_, rfl, by rw [← hB]; simpa using HR.out⟩

end Go.Proofs.YtipelclohcdkcaaGreat
