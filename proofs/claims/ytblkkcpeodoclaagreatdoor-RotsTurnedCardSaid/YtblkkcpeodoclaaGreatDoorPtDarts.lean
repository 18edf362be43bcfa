/- Joined texts: Perms, Rep, Perms2, Tell, Dart, Map, Map2, Map3, New. -/
import Derived.RegionTactic
import Derived.Laws.CopyOwn
import Derived.Laws.BitsLemmas
import Derived.Laws.Bits64
import Derived.Deep.RegionHeld3
import Derived.Test.YtblkkcpeodoclaaGreatDoorPtClone
import Derived.Test.YtblkkcpeodoclaaGreatDoorPtTuran3
/- The contracts of package perm: permutations as lists, asked and made. -/
namespace Go.Proofs.YtblkkcpeodoclaaGreatDoor
open Go.RowKit

/-- A permutation in memory: where each goes; what of it was asked is left open. -/
def PermAt (w : World) (b : Nat) (sv : Value) (s : List Nat) : Prop :=
  (∃ c1 c2 c3 c4, w.heap[b]? = some (.cells #[sv, c1, c2, c3, c4] 99 (0, 0))) ∧ Sl .i64 w sv (nats s) ∧ (∀ k, sv.ownBlock = some k → k ≠ b ∧ k < w.heap.size)

theorem PermAt.lt {w : World} {b : Nat} {sv : Value} {s : List Nat} (h : PermAt w b sv s) : b < w.heap.size := by
  obtain ⟨⟨_, _, _, _, hb⟩, _⟩ := h
  exact lt_of_block hb

theorem PermAt.keeps {w w' : World} {F : Nat → Prop} {b : Nat} {sv : Value} {s : List Nat} (h : PermAt w b sv s) (k : Keeps F w w') (hb : ¬ F b) (hv : ∀ k, sv.ownBlock = some k → ¬ F k) : PermAt w' b sv s := by
  obtain ⟨⟨c1, c2, c3, c4, h1⟩, h2, h3⟩ := h
  exact ⟨⟨c1, c2, c3, c4, k.at h1 hb⟩, h2.keeps k hv, fun q hq => ⟨(h3 q hq).1, Nat.lt_of_lt_of_le (h3 q hq).2 k.size⟩⟩

theorem permLen_any (b : Nat) (sv : Value) (s : List Nat) (w : World) (h : PermAt w b sv s) :
    Calls Tryz.prog 32 #[.pointer (some ⟨b, 0, none⟩)] w fun e w' => e = .returned (.int .i64 s.length) ∧ w = w' := by
  obtain ⟨⟨c1, c2, c3, c4, hb⟩, hs, _⟩ := h
  have h0 : w.cell? ⟨b, 0, none⟩ = some sv := World.cell_of_heap hb 0
  obtain ⟨a, cap, rfl, hnc, hcm⟩ := hs.form
  rw [nats_len] at h0 hnc
  clear hb hs
  go_enter Tryz.func32, Tryz.ntmps32
  go_wp2
  go_ret
  exact ⟨rfl, rfl⟩

theorem permList_any (b : Nat) (sv : Value) (s : List Nat) (w : World) (h : PermAt w b sv s) (hl : s.length ≤ 1000000) :
    Calls Tryz.prog 52 #[.pointer (some ⟨b, 0, none⟩)] w fun e w' => ∃ v, e = .returned v ∧ OwnI w.heap.size w' v (nats s) ∧ Keeps (fun _ => False) w w' := by
  obtain ⟨⟨c1, c2, c3, c4, hb⟩, hs, _⟩ := h
  have h0 : w.cell? ⟨b, 0, none⟩ = some sv := World.cell_of_heap hb 0
  have hC := clone_any sv (nats s) w hs (by rw [nats_len]; omega)
  clear hb hs
  go_enter Tryz.func52, Tryz.ntmps52
  go_wp2_with fail
  refine hC.mono ?_
  rintro e w1 ⟨v, rfl, hown, hk⟩
  have HF := Lib.hid (And.intro hown hk)
  clear hC hown hk
  go_wp2
  go_ret
  exact ⟨_, rfl, HF.out⟩

set_option maxRecDepth 100000 in
set_option maxHeartbeats 2000000 in
theorem permOrbit_any (b : Nat) (sv : Value) (s : List Nat) (d : Nat) (w : World) (hp : PermAt w b sv s) (hP : IsP s.length (sg s)) (hd : d < s.length) (hl : s.length ≤ 1000000) :
    Calls Tryz.prog 47 #[.pointer (some ⟨b, 0, none⟩), .int .i64 d] w fun e w' => ∃ v, e = .returned v ∧ OwnI w.heap.size w' v (nats (orb (sg s) d)) ∧ Keeps (fun _ => False) w w' := by
  have hL := permLen_any b sv s w hp
  have HS : Hid (∀ W, Keeps (fun _ => False) w W → PermAt W b sv s) := Lib.hid (fun W hk => hp.keeps hk (fun h => h) (fun _ _ h => h))
  have hblt := hp.lt
  obtain ⟨⟨c1, c2, c3, c4, hb⟩, hs, hsv⟩ := hp
  have hb0 : w.cell? ⟨b, 0, none⟩ = some sv := World.cell_of_heap hb 0
  obtain ⟨a, cap, rfl, hnc, hcm⟩ := hs.form
  rw [nats_len] at hnc hs hb0 HS hsv
  obtain ⟨p1, p2, p3, p4⟩ := hP.per_spec hd
  obtain ⟨g, off, rfl, hcell⟩ := hs.cellAt (nats_at hd)
  have hgw := World.block_lt_of_cell? _ _ hcell
  have HP := Lib.hid (And.intro hP (And.intro p3 p4))
  have h0 : OwnI w.heap.size (w.alloc (.cells #[.int .i64 d] 3)) (.slice (some ⟨w.heap.size, 0, none⟩) 1 1) (nats (orbK (sg s) d 1)) ∧ Keeps (fun _ => False) w (w.alloc (.cells #[.int .i64 d] 3)) :=
    ⟨own_one w d, (Keeps.refl _ w).alloc _⟩
  have hcA := alloc_cell hcell (.cells #[.int .i64 d] 3)
  have hcB := alloc_cell hb0 (.cells #[.int .i64 d] 3)
  have hdl : decide (s.length ≤ d) = false := decide_eq_false (by omega)
  have hd0 : decide ((d : Int) < 0) = false := decide_eq_false (by omega)
  clear hb hs hP p3 p4 hcell hb0 hsv
  go_enter Tryz.func47, Tryz.ntmps47
  go_wp2_with (go_at_call 32; refine hL.mono ?_; rintro e w' ⟨rfl, rfl⟩)
  clear hcA hcB hL
  generalize World.alloc _ _ = wM at *
  go_loopg [5, 6] (per (sg s) d) (fun m ov x wr => ∃ k : Nat, k + 1 ≤ per (sg s) d ∧ m = per (sg s) d - k ∧ x = .int .i64 (itr (sg s) (k + 1) d : Nat) ∧ OwnI w.heap.size wr ov (nats (orbK (sg s) d (k + 1))) ∧ Keeps (fun _ => False) w wr)
  case atStart => exact ⟨0, p1, rfl, rfl, h0⟩
  case round =>
    clear h0
    obtain ⟨k, hk, hgk, rfl, hown, hkw⟩ := hrel
    have HG := Lib.hid hgk
    clear hgk
    by_cases hlt : k + 1 < per (sg s) d
    · have hne := HP.out.2.2 (k + 1) (by omega) hlt
      have hxl := HP.out.1.itr_lt hd (k + 1)
      have hst := orbK_succ (sg s) d (k + 1)
      have hlen := orbK_length (sg s) d (k + 1)
      have hpw := HS.out wr hkw
      obtain ⟨⟨d1, d2, d3, d4, hbw⟩, hsw, _⟩ := hpw
      have hcell := hsw.cellOf (nats_at hxl)
      have hnext : sg s (itr (sg s) (k + 1) d) = itr (sg s) (k + 1 + 1) d := rfl
      rw [hnext] at hcell
      have hfo := hown.form
      rw [nats_len, hlen] at hfo
      obtain ⟨la, lc, rfl, _, _⟩ := hfo
      generalize hy : itr (sg s) (k + 1 + 1) d = y at *
      generalize hx : itr (sg s) (k + 1) d = x at *
      have hnb : (((x : Nat) : Int) != ((d : Nat) : Int)) = true := by rw [bne_iff_ne]; omega
      have HN : Hid ((nats (orbK (sg s) d (k + 1))).length = k + 1) := Lib.hid (by rw [nats_len]; exact hlen)
      have hsz := hkw.size
      have HH := Lib.hid (And.intro hx (And.intro hst hkw))
      have HY := Lib.hid hy
      have hkl : k + 1 ≤ 10000000000 := by omega
      have hown2 := hown.lt
      have HCL : Hid (∀ W, Keeps (fun q => (Value.slice la (k + 1) lc).ownBlock = some q) wr W → W.cell? ⟨g, off + x, none⟩ = some (.int .i64 y) ∧ W.cell? ⟨b, 0, none⟩ = some (.slice (some ⟨g, off, none⟩) s.length cap)) := Lib.hid (fun W hk => by
        refine ⟨?_, World.cell_of_heap (hk.at hbw (fun e => by have := (hown2 b e).1; omega)) 0⟩
        rw [World.cell?_of_block (w := wr) (hk.block g (World.block_lt_of_cell? _ _ hcell) (fun e => by have := (hown2 g e).1; omega))]
        exact hcell)
      clear hsw hbw hx hy hst hlen hkw hne hnext hcell hown2
      go_wp2_with (at_builtin; refine append1n (k + 1) rfl _ _ rfl w.heap.size (.slice la (k + 1) lc) (nats (orbK (sg s) d (k + 1))) (x : Nat) HN wr.heap.size rfl rfl rfl hown hkl hsz ?_; intro g2 cap2 w3 hown3 hk3 hat hg; have hcell3 := (HCL.out w3 hk3).1; have hcell4 := (HCL.out w3 hk3).2)
      have hkf := HH.out.2.2.trans hk3 (fun y hy h => by have := (hown.lt y h).1; omega)
      rw [← nats_snoc] at hown3
      have hst := HH.out.2.1
      rw [← hst] at hown3
      have HF := Lib.hid (And.intro hown3 hkf)
      clear hown3 hkf hk3 hat hown hst hcell3 hcell4
      go_roundg (per (sg s) d - (k + 1))
      case measure => rw [HG.out]; omega
      case rel => exact ⟨k + 1, by omega, rfl, by rw [HY.out], HF.out⟩
    · have hpe : k + 1 = per (sg s) d := by omega
      have hx : itr (sg s) (k + 1) d = d := by rw [hpe]; exact HP.out.2.1
      have ho : orbK (sg s) d (k + 1) = orb (sg s) d := by rw [hpe]; rfl
      rw [ho] at hown
      rw [hx]
      have HF := Lib.hid (And.intro hown hkw)
      clear hx ho hown hkw
      go_wp2
      go_ret
      exact ⟨_, rfl, HF.out⟩

end Go.Proofs.YtblkkcpeodoclaaGreatDoor

/- slices.Repeat of one number; math/bits.Mul by one. -/
namespace Go.Proofs.YtblkkcpeodoclaaGreatDoor
open Go.RowKit

set_option maxRecDepth 100000 in
set_option maxHeartbeats 1000000 in
theorem mul64_one (y : Nat) (w : World) (hy : y ≤ 1000000000) :
    Calls Tryz.prog 131 #[.int .u64 1, .int .u64 y] w fun e w' => e = .returned (.tuple #[.int .u64 0, .int .u64 y]) ∧ w = w' := by
  have b1 : bits BinOp.and IntKind.u64 1 4294967295 = 1 := by decide +kernel
  have b0 : bits BinOp.and IntKind.u64 0 4294967295 = 0 := by decide +kernel
  have by1 : bits BinOp.and IntKind.u64 (y : Int) 4294967295 = (y : Int) := by
    rw [and_lit y 4294967295 4294967295 rfl (by omega) (by omega), show (4294967295 : Nat) = 2 ^ 32 - 1 from rfl, Nat.and_two_pow_sub_one_eq_mod, Nat.mod_eq_of_lt (by omega)]
  have d0 : (y : Int) / 4294967296 = 0 := by omega
  go_enter Tryz.func131, Tryz.ntmps131
  go_wp2
  go_ret2
  exact ⟨rfl, rfl⟩

theorem mul_one (y : Nat) (w : World) (hy : y ≤ 1000000000) :
    Calls Tryz.prog 111 #[.int .u64 1, .int .u64 y] w fun e w' => e = .returned (.tuple #[.int .u64 0, .int .u64 y]) ∧ w = w' := by
  have hM := mul64_one y w hy
  go_enter Tryz.func111, Tryz.ntmps111
  go_wp2_with (go_at_call 131; refine hM.mono ?_; rintro e w' ⟨rfl, rfl⟩)
  go_ret2
  exact ⟨rfl, rfl⟩

/-- A row of n cells at block g whose first k ones are z. -/
def RepS (w : World) (g n : Nat) (z : Int) (k : Nat) (wr : World) : Prop :=
  ∃ cur : List Value, cur.length = n ∧ (∀ i, i < k → cur[i]? = some (.int .i64 z)) ∧ wr.heap[g]? = some (.cells cur.toArray 3 (0, 0)) ∧ w.heap.size ≤ g ∧ Below w.heap.size w wr

theorem RepS.done {w wr : World} {g n : Nat} {z : Int} (h : RepS w g n z n wr) (hn : n ≤ 100000000) : MadeS w g n (fun zs => zs = List.replicate n z) wr := by
  obtain ⟨cur, h1, h2, h3, h4, h5⟩ := h
  have hc : cur = ints (List.replicate n z) := by
    apply List.ext_getElem?
    intro i
    rcases Nat.lt_or_ge i n with hi | hi
    · rw [h2 i hi]; simp [ints, hi]
    · rw [List.getElem?_eq_none (by omega), List.getElem?_eq_none (by simp [ints]; omega)]
  subst hc
  refine ⟨_, by simp, rfl, ⟨by simp [ints], .inr ⟨g, n, _, by simp, h4, h3, by simp, by unfold maxLen; omega, by simp [ints], ?_⟩⟩, Keeps.of_below h5 _⟩
  simp [ints]

theorem splice_rep {cur : List Value} {z : Int} {k m n : Nat} (hl : cur.length = n) (hm : k + m ≤ n) (hc : ∀ i, i < k → cur[i]? = some (.int .i64 z)) :
    (splice cur k (List.replicate m (.int .i64 z))).length = n ∧ ∀ i, i < k + m → (splice cur k (List.replicate m (Value.int .i64 z)))[i]? = some (.int .i64 z) := by
  refine ⟨by rw [length_splice _ _ _ (by simp; omega)]; exact hl, fun i hi => ?_⟩
  unfold splice
  have hk : (cur.take k).length = k := by simp; omega
  rcases Nat.lt_or_ge i k with h1 | h1
  · rw [List.getElem?_append_left (by omega), List.getElem?_take, if_pos h1]; exact hc i h1
  · rw [List.getElem?_append_right (by omega), hk, List.getElem?_append_left (by simp; omega), List.getElem?_replicate, if_pos (by omega)]

set_option maxRecDepth 100000 in
set_option maxHeartbeats 2000000 in
theorem repeat_any (xv : Value) (z : Int) (n : Nat) (w : World) (hx : Sl .i64 w xv [z]) (hn : n ≤ 100000000) :
    Calls Tryz.prog 89 #[xv, .int .i64 n] w fun e w' => ∃ g, e = .returned (.slice (some ⟨g, 0, none⟩) n n) ∧ MadeS w g n (fun zs => zs = List.replicate n z) w' := by
  have hM := mul_one n w (by omega)
  obtain ⟨i, hi, hz0, hz1, hz2⟩ := info_parts infoInt
  have hmk := fun w => run_make (P := Tryz.prog) w 33 3 i _ Tryz.underlying33 hi hz0 .i64 .i64 (n : Int) (n : Int) (by omega) (Int.le_refl _) (by rw [hz2]; omega) (by omega)
  simp only [hz1, Int.toNat_natCast, Nat.mul_one] at hmk
  have hsz : (Tryz.prog.info? 3).map (·.size) = some 1 := by rw [hi]; simp [hz1]
  have hx1 := hx.keeps ((Keeps.refl (fun _ => False) w).alloc (.cells (madeCells #[.int .i64 0] n) 3)) (fun _ _ h => h)
  obtain ⟨xa, xc, rfl, hxn, hxm⟩ := hx.form
  simp only [List.length_singleton] at hxn hx hx1 ⊢
  obtain ⟨xg, xo, rfl, hxcell⟩ := hx1.cellAt (j := 0) (z := z) rfl
  have hg0 := heap_alloc_new w (.cells (madeCells #[.int .i64 0] n) 3)
  have hb0 := ((Below.refl w.heap.size w).alloc (Nat.le_refl _) (.cells (madeCells #[.int .i64 0] n) 3))
  have hcur : madeCells #[.int .i64 0] n = (List.replicate n (Value.int .i64 0)).toArray := by
    apply Array.toList_inj.1
    rw [toList_madeCells_one]
  have hcur2 : madeCells (Value.int IntKind.i64 0).cells n = (List.replicate n (Value.int .i64 0)).toArray := hcur
  rw [hcur] at hx1 hxcell hg0 hb0
  rw [hcur2] at hmk
  clear hcur2
  have t1 : decide ((9223372036854775807 : Int) < (n : Int)) = false := decide_eq_false (by omega)
  have t0 : decide ((n : Int) < 0) = false := decide_eq_false (by omega)
  have HI := Lib.hid hi
  have HX := Lib.hid (And.intro hx1 hxcell)
  have HG := Lib.hid (And.intro hg0 (And.intro hb0 hcur))
  clear hx hx1 hxcell hi hz0 hz1 hz2 hg0 hb0 hcur
  obtain ⟨B, hB⟩ : ∃ B, B = w.heap.size := ⟨_, rfl⟩
  by_cases h0 : 0 < n
  · have hN : (List.replicate 1 (Value.int .i64 z)).length = Nat.min 1 n := by rw [List.length_replicate]; exact (Nat.min_eq_left (by omega)).symm
    have hL : 0 + (List.replicate 1 (Value.int .i64 z)).length ≤ (List.replicate n (Value.int .i64 0)).length := by simp; omega
    have h1c : ∀ v ∈ List.replicate 1 (Value.int .i64 z), v.oneCell' = true := fun v hv => by
      obtain rfl := List.eq_of_mem_replicate hv
      rfl
    have hsrc : ∀ (j : Nat) (v : Value), (List.replicate 1 (Value.int .i64 z))[j]? = some v → (w.alloc (.cells (List.replicate n (Value.int .i64 0)).toArray 3)).cell? ((⟨xg, xo, none⟩ : Addr).add j) = some v := fun j v hv => by
      rcases Nat.eq_zero_or_pos j with rfl | hj
      · have h2 : v = .int .i64 z := by simpa using hv.symm
        rw [h2]; exact HX.out.2
      · rw [List.getElem?_eq_none (by simp; omega)] at hv; cases hv
    have HS := Lib.hid (And.intro hN (And.intro hL (And.intro h1c hsrc)))
    have hspl := splice_rep (cur := List.replicate n (Value.int .i64 0)) (z := z) (k := 0) (m := 1) (n := n) (by simp) (by omega) (fun i hi => by omega)
    have HSP := Lib.hid hspl
    clear hN hL h1c hsrc hspl
    go_enter Tryz.func89, Tryz.ntmps89
    go_wp2_with (first | (go_at_call 111; refine hM.mono ?_; rintro e w' ⟨rfl, rfl⟩) | (refine wpList_copy_splice rfl (.tmp 31) (.tmp 32) 33 33 rfl 3 Tryz.underlying33 hsz _ _ _ _ _ _ rfl rfl w.heap.size 0 (List.replicate n (Value.int .i64 0)) 3 HG.out.1 (List.replicate 1 (.int .i64 z)) HS.out.1 (fun _ => ⟨rfl, _, rfl, HS.out.2.2.2⟩) HS.out.2.1 HS.out.2.2.1 w.heap.size w HG.out.2.1 (Nat.le_refl _) ?_; intro w1 hg1 hb1))
    have hR : RepS w w.heap.size n z 1 w1 := ⟨_, HSP.out.1, fun i hi => HSP.out.2 i (by omega), hg1.out, Nat.le_refl _, hb1⟩
    rw [← hB] at hR ⊢
    clear hg1 hb1 hmk hM HS HSP HG HX hB
    go_loopg [8] (n - 1) (fun m i wr => ∃ k : Nat, 1 ≤ k ∧ k ≤ n ∧ m = n - k ∧ i = .int .i64 k ∧ RepS w B n z k wr)
    case atStart => exact ⟨1, by omega, by omega, rfl, by go_num, hR⟩
    case round =>
      clear hR
      obtain ⟨k, hk1, hk, hgk, rfl, hR⟩ := hrel
      have HGK := Lib.hid hgk
      clear hgk
      by_cases hlt : k < n
      · obtain ⟨m, hm⟩ : ∃ m, m = Nat.min k (n - k) := ⟨_, rfl⟩
        have hm0 : 0 < m ∧ k + m ≤ n := by
          have h1 : Nat.min k (n - k) ≤ k := Nat.min_le_left _ _
          have h2 : Nat.min k (n - k) ≤ n - k := Nat.min_le_right _ _
          have h3 : Nat.min k (n - k) = k ∨ Nat.min k (n - k) = n - k := by
            rcases Nat.le_total k (n - k) with h | h
            · exact .inl (Nat.min_eq_left h)
            · exact .inr (Nat.min_eq_right h)
          omega
        obtain ⟨hm0, hkm⟩ := hm0
        obtain ⟨cur, hcl, hcc, hch, hBw, hbw⟩ := hR
        have hspl := splice_rep hcl hkm hcc
        have hN : (List.replicate m (Value.int .i64 z)).length = Nat.min k (n - k) := by rw [List.length_replicate]; exact hm
        have hL : k + (List.replicate m (Value.int .i64 z)).length ≤ cur.length := by simp; omega
        have h1c : ∀ v ∈ List.replicate m (Value.int .i64 z), v.oneCell' = true := fun v hv => by
          obtain rfl := List.eq_of_mem_replicate hv
          rfl
        have hsrc : ∀ (j : Nat) (v : Value), (List.replicate m (Value.int .i64 z))[j]? = some v → wr.drew.cell? ((⟨B, 0, none⟩ : Addr).add j) = some v := fun j v hv => by
          have hj : j < m := by simpa using lt_of_get hv
          rw [List.getElem?_replicate, if_pos hj] at hv
          rw [← hv]
          have h5 := World.cell_of_heap hch j
          have h6 : (⟨B, 0, none⟩ : Addr).add j = ⟨B, j, none⟩ := by
            unfold Addr.add
            by_cases hj0 : j = 0 <;> simp [hj0]
          show wr.cell? ((⟨B, 0, none⟩ : Addr).add j) = _
          rw [h6, h5, List.getElem?_toArray]
          exact hcc j (by have h1 : Nat.min k (n - k) ≤ k := Nat.min_le_left _ _; omega)
        have HS := Lib.hid (And.intro hN (And.intro hL (And.intro h1c (And.intro hsrc (And.intro hspl (And.intro (show wr.drew.heap[B]? = some (.cells cur.toArray 3 (0, 0)) from hch) (And.intro (show Below w.heap.size w wr.drew from hbw.drew) (show w.heap.size ≤ B from hBw))))))))
        clear hN hL h1c hsrc hspl hch hcc hcl hm hBw hbw
        go_wp2_with fail
        have hnk1 : ¬ k = n := by omega
        have hnk2 : ¬ n = k := by omega
        have hnk3 : ¬ n = 0 := by omega
        have hsl1 : IntKind.i64.wrap ((k : Int) + (m : Int)) = (k : Int) + (m : Int) := IntWalk.i64_in _ (by omega)
        go_region_law ((refine step_copy_splice rfl (.tmp 41) (.tmp 44) 33 33 rfl 3 Tryz.underlying33 hsz (some ⟨B, k, none⟩) (some ⟨B, 0, none⟩) (n - k) (n - k) k n (by simp [Act.eval, Act.put]) (by simp [Act.eval, Act.put]) B k cur 3 HS.out.2.2.2.2.2.1 (List.replicate m (.int .i64 z)) HS.out.1 (fun _ => ⟨rfl, _, rfl, HS.out.2.2.2.1⟩) HS.out.2.1 HS.out.2.2.1 w.heap.size w HS.out.2.2.2.2.2.2.1 HS.out.2.2.2.2.2.2.2 ?_); intro w3 hg3 hb3; simp only [List.length_replicate])
        have HR := Lib.hid (show RepS w B n z (k + m) w3 from ⟨_, HS.out.2.2.2.2.1.1, HS.out.2.2.2.2.1.2, hg3.out, HS.out.2.2.2.2.2.2.2, hb3⟩)
        clear hg3 hb3 HS
        go_wp2
        go_roundg (n - (k + m))
        case measure => rw [HGK.out]; omega
        case rel => exact ⟨k + m, by omega, by omega, rfl, by go_num, HR.out⟩
      · obtain rfl : k = n := by omega
        have HR := Lib.hid (hR.done hn)
        clear hR
        go_wp2
        go_ret
        exact ⟨_, rfl, HR.out⟩
  · have H0 := Lib.hid (show n = 0 by omega)
    have hmin : Nat.min 1 n = 0 := by rw [H0.out]; rfl
    have HS := Lib.hid hmin
    have tn : decide (0 < n) = false := decide_eq_false h0
    have hR : RepS w w.heap.size n z n (w.alloc (.cells (List.replicate n (Value.int .i64 0)).toArray 3)) := ⟨_, by simp, fun i hi => by have := H0.out; omega, HG.out.1, Nat.le_refl _, HG.out.2.1⟩
    rw [← hB] at hR
    have HR := Lib.hid (hR.done hn)
    clear hmin hR h0
    go_enter Tryz.func89, Tryz.ntmps89
    go_wp2_with (first | (go_at_call 111; refine hM.mono ?_; rintro e w' ⟨rfl, rfl⟩) | (refine wpList_copy_nothing rfl (.tmp 31) (.tmp 32) 33 33 rfl 3 Tryz.underlying33 hsz _ _ _ _ _ _ rfl rfl HS.out ?_))
    have e0 : (Value.int .i64 (n : Int)) = .int .i64 0 := by rw [H0.out]; rfl
    go_loopg [8] 0 (fun m i wr => m = 0 ∧ i = .int .i64 0 ∧ wr = w.alloc (.cells (List.replicate n (Value.int .i64 0)).toArray 3))
    case atStart => exact ⟨rfl, rfl, by simp⟩
    case round =>
      obtain ⟨hgk, rfl, rfl⟩ := hrel
      clear e0 hgk
      go_wp2
      go_ret
      exact ⟨_, rfl, by rw [← hB]; simpa using HR.out⟩

end Go.Proofs.YtblkkcpeodoclaaGreatDoor

/- The contracts of package perm: names of orbits; a permutation is made. -/
namespace Go.Proofs.YtblkkcpeodoclaaGreatDoor
open Go.RowKit

set_option maxRecDepth 100000 in
set_option maxHeartbeats 4000000 in
theorem permNames_any (b : Nat) (sv : Value) (s : List Nat) (w : World) (hp : PermAt w b sv s) (hP : IsP s.length (sg s)) (hl : s.length ≤ 1000000) :
    Calls Tryz.prog 69 #[.pointer (some ⟨b, 0, none⟩)] w fun e w' => ∃ g, e = .returned (.slice (some ⟨g, 0, none⟩) s.length s.length) ∧ MadeS w g s.length (fun zs => zs = nats ((List.range s.length).map (vnum (sg s)))) w' := by
  have HS : Hid (∀ W, Keeps (fun _ => False) w W → PermAt W b sv s) := Lib.hid (fun W hk => hp.keeps hk (fun h => h) (fun _ _ h => h))
  have k0 := (Keeps.refl (fun _ => False) w).alloc (.cells #[.int .i64 (-1)] 3)
  have hx := (own_one w (-1)).sl
  have hL := permLen_any b sv s _ (HS.out _ k0)
  have hR := repeat_any (.slice (some ⟨w.heap.size, 0, none⟩) 1 1) (-1) s.length _ hx (by omega)
  have HP := Lib.hid hP
  have HK0 := Lib.hid k0
  clear hP hp k0 hx
  go_enter Tryz.func69, Tryz.ntmps69
  go_wp2_with fail
  refine hL.mono ?_
  rintro e w1 ⟨rfl, rfl⟩
  go_wp2_with fail
  refine hR.mono ?_
  rintro e w1 ⟨g, rfl, hM⟩
  have h1 : MadeS w g s.length (NmI s 0) w1 := by
    obtain ⟨zs, h1, h2, h3, h4⟩ := hM
    refine ⟨zs, h1, fun x hx => ?_, h3.mono (fun k hk => by have := (h3.lt k hk).1; simp at this; omega), HK0.out.trans h4 (fun _ _ h => h)⟩
    rw [if_neg (by omega), h2, List.getElem?_replicate, if_pos hx]
  clear hL hR hM
  go_wp2_with fail
  go_loopg [4, 14] s.length (fun m c i wr => ∃ j : Nat, j ≤ s.length ∧ m = s.length - j ∧ i = .int .i64 j ∧ c = .int .i64 (ldr (sg s) j : Nat) ∧ MadeS w g s.length (NmI s j) wr)
  case atStart => exact ⟨0, Nat.zero_le _, rfl, rfl, rfl, h1⟩
  case round =>
    clear h1
    obtain ⟨j, hj, hgk, rfl, rfl, hM⟩ := hrel
    have HG := Lib.hid hgk
    clear hgk
    have hld := ldr_le (sg s) j
    have hls := ldr_succ (sg s) j
    by_cases hlt : j < s.length
    · obtain ⟨z, ⟨zs, hzl, hzP, hzz⟩, hc, hf⟩ := hM.cell j hlt
      obtain ⟨_, _, _, _, hkw⟩ := id hM
      rcases NmI.at HP.out hlt hzP hzz with ⟨hr, rfl⟩ | ⟨hr, hz⟩
      · rw [if_pos hr] at hls
        have hO := permOrbit_any b sv s j wr (HS.out wr hkw) HP.out hlt hl
        have HM := Lib.hid (And.intro hM (And.intro hr hls))
        generalize hcc : ldr (sg s) j = c at *
        have HC := Lib.hid hcc
        clear hM hr hls hzP hzz hzl hcc
        have tneg : decide ((0 : Int) ≤ -1) = false := by decide
        go_wp2_with fail
        refine hO.mono ?_
        rintro e w3 ⟨ov, rfl, hown, hk3⟩
        have hpl : (nats (orb (sg s) j)).length = per (sg s) j := by rw [nats_len, orb_length]
        have hfo := hown.form
        rw [hpl] at hfo
        obtain ⟨oa, oc, rfl, _, hoc⟩ := hfo
        have hg3 : g < wr.heap.size := HM.out.1.old.2
        have HOw : Hid (∀ W, Keeps (fun q => q = g) w3 W → Sl .i64 W (.slice oa (per (sg s) j) oc) (nats (orb (sg s) j))) := Lib.hid (fun W hk => (hown.keeps hk (fun q hq e => by have := (hown.lt q hq).1; omega)).sl)
        have hM3 : MadeS w g s.length (NmK s j 0) w3 := (HM.out.1.keeps hk3).mono (fun zs _ h => NmK.zero h)
        have hk33 := Keeps.refl (fun q => q = g) w3
        have hppn : per (sg s) j ≤ 1000000 := Nat.le_trans (HP.out.per_spec hlt).2.1 hl
        clear hO hown hpl hc hf hkw
        go_wp2_with fail
        go_loopg [26] (per (sg s) j) (fun m i wr => ∃ k : Nat, k ≤ per (sg s) j ∧ m = per (sg s) j - k ∧ i = .int .i64 k ∧ MadeS w g s.length (NmK s j k) wr ∧ Keeps (fun q => q = g) w3 wr)
        case atStart => exact ⟨0, Nat.zero_le _, rfl, rfl, hM3, hk33⟩
        case round =>
          clear hM3 hk33
          obtain ⟨k, hk, hgk, rfl, hM4, hk4⟩ := hrel
          have HG4 := Lib.hid hgk
          clear hgk
          by_cases hkl : k < per (sg s) j
          · have hox := orb_get (S := sg s) (d := j) hkl
            have hxn := HP.out.itr_lt hlt k
            obtain ⟨og, oo, rfl, hcell⟩ := (HOw.out _ hk4).cellAt (nats_get hox)
            obtain ⟨z, _, hc4, hf4⟩ := hM4.cell _ hxn
            have hN := hM4.set (Q := NmK s j (k + 1)) (itr (sg s) k j) ((ldr (sg s) j : Nat) : Int) (fun zs hzl h => NmK.step HP.out hlt HM.out.2.1 hox hzl h)
            have hkN := hk4.setCell (p := ⟨g, itr (sg s) k j, none⟩) (.inl rfl) (.int .i64 ((ldr (sg s) j : Nat) : Int))
            rw [show ldr (sg s) j = c from HC.out] at hN hkN
            have HN := Lib.hid (And.intro hN hkN)
            clear hN hkN hM4 hk4 hox
            generalize itr (sg s) k j = x at *
            go_wp2
            go_roundg (per (sg s) j - (k + 1))
            case measure => rw [HG4.out]; omega
            case rel => exact ⟨k + 1, by omega, rfl, by go_num, HN.out⟩
          · obtain rfl : k = per (sg s) j := by omega
            have HF := Lib.hid (hM4.mono (fun zs _ h => NmK.done HP.out hlt HM.out.2.1 h))
            clear hM4 hk4
            go_wp2
            go_roundg (s.length - (j + 1))
            case measure => rw [HG.out]; omega
            case rel => exact ⟨j + 1, by omega, rfl, by go_num, by rw [HM.out.2.2]; go_num, HF.out⟩
      · rw [if_neg hr] at hls
        have HF := Lib.hid (And.intro (hM.mono (fun zs _ h => NmI.skip HP.out hr h)) hls)
        clear hM hr hls hzP hzz hzl hkw
        generalize ldr (sg s) j = c at *
        go_wp2
        go_roundg (s.length - (j + 1))
        case measure => rw [HG.out]; omega
        case rel => exact ⟨j + 1, by omega, rfl, by go_num, by rw [HF.out.2]; go_num, HF.out.1⟩
    · obtain rfl : j = s.length := by omega
      have HF := Lib.hid (hM.mono (fun zs hzl h => NmI.all HP.out hzl h))
      clear hM
      go_wp2
      go_ret
      exact ⟨g, rfl, HF.out⟩

theorem infoBool : (Tryz.prog.info? 4).map (fun i => (i.zero, i.size, i.bytes)) = some (some (.bool false), 1, 1) := by kernel_rfl

/-- A row of n marks at block g: of just those numbers that have P. -/
def SeenS (w : World) (g n : Nat) (P : Nat → Prop) (wr : World) : Prop :=
  ∃ bs : List Bool, bs.length = n ∧ (∀ x, x < n → (bs[x]? = some true ∧ P x) ∨ (bs[x]? = some false ∧ ¬ P x)) ∧ wr.heap[g]? = some (.cells (bs.map Value.bool).toArray 4 (0, 0)) ∧ w.heap.size ≤ g ∧ Keeps (fun _ => False) w wr

theorem SeenS.made (w : World) (n : Nat) {P : Nat → Prop} (hP : ∀ x, x < n → ¬ P x) : SeenS w w.heap.size n P (w.alloc (.cells (madeCells #[.bool false] n) 4)) := by
  have hc : madeCells #[.bool false] n = ((List.replicate n false).map Value.bool).toArray := by
    apply Array.toList_inj.1
    rw [toList_madeCells_one]; simp
  refine ⟨List.replicate n false, by simp, fun x hx => .inr ⟨by simp [hx], hP x hx⟩, ?_, Nat.le_refl _, (Keeps.refl _ w).alloc _⟩
  rw [← hc]; exact heap_alloc_new w _

theorem SeenS.cell {w wr : World} {g n : Nat} {P : Nat → Prop} (h : SeenS w g n P wr) {x : Nat} (hx : x < n) : ∃ t : Bool, (t = true ↔ P x) ∧ wr.cell? ⟨g, x, none⟩ = some (.bool t) ∧ wr.frozen? ⟨g, x, none⟩ = false := by
  obtain ⟨bs, h1, h2, h3, _⟩ := h
  have hc := World.cell_of_heap h3 x
  have hf := World.free_of_heap h3 x
  rcases h2 x hx with ⟨a, b⟩ | ⟨a, b⟩
  · exact ⟨true, by simp [b], by rw [hc]; simp [a], hf⟩
  · exact ⟨false, by simp [b], by rw [hc]; simp [a], hf⟩

theorem SeenS.set {w wr : World} {g n : Nat} {P Q : Nat → Prop} (h : SeenS w g n P wr) {x : Nat} (hx : x < n) (hQ : ∀ y, y < n → (Q y ↔ P y ∨ y = x)) : SeenS w g n Q (wr.setCell ⟨g, x, none⟩ (.bool true)) := by
  obtain ⟨bs, h1, h2, h3, h4, h5⟩ := h
  refine ⟨bs.set x true, by simpa using h1, fun y hy => ?_, ?_, h4, h5.setCell (.inr h4) _⟩
  · rw [List.getElem?_set]
    by_cases hxy : x = y
    · subst hxy
      left
      rw [if_pos rfl, if_pos (by omega)]
      exact ⟨rfl, (hQ x hx).2 (.inr rfl)⟩
    · rw [if_neg hxy]
      rcases h2 y hy with ⟨a, b⟩ | ⟨a, b⟩
      · exact .inl ⟨a, (hQ y hy).2 (.inl b)⟩
      · exact .inr ⟨a, fun hq => by rcases (hQ y hy).1 hq with c | c; exact b c; exact hxy c.symm⟩
  · rw [heap_setCell_same h3 x (.bool true)]
    simp [List.map_set]

/-- A permutation that nobody has asked yet who goes where. -/
def PermF (w : World) (b : Nat) (sv : Value) (s : List Nat) : Prop := PermAt w b sv s ∧ w.heap[b]? = some (.cells #[sv, .int .u32 0, .int .i32 0, .int .u32 0, .slice none 0 0] 99 (0, 0))
set_option maxRecDepth 100000 in
set_option maxHeartbeats 2000000 in
theorem permOf_new (lv : Value) (s : List Nat) (w : World) (hs : Sl .i64 w lv (nats s)) (hP : IsP s.length (sg s)) (hl : s.length ≤ 1000000) :
    Calls Tryz.prog 34 #[lv] w fun e w' => ∃ b sv, e = .returned (.tuple #[.pointer (some ⟨b, 0, none⟩), .int .i64 0]) ∧ PermF w' b sv s ∧ w.heap.size ≤ b ∧ (∀ k, sv.ownBlock = some k → w.heap.size ≤ k) ∧ Keeps (fun _ => False) w w' := by
  have HS : Hid (∀ W, Keeps (fun _ => False) w W → Sl .i64 W lv (nats s)) := Lib.hid (fun W hk => hs.keeps hk (fun _ _ h => h))
  obtain ⟨a, cap, rfl, hnc, hcm⟩ := hs.form
  rw [nats_len] at hnc HS ⊢
  have h0 := SeenS.made w s.length (P := fun x => ∃ i, i < 0 ∧ sg s i = x) (fun x _ ⟨i, hi, _⟩ => by omega)
  have HP := Lib.hid hP
  obtain ⟨i, hi, hz0, hz1, hz2⟩ := info_parts infoBool
  have hmk := fun w => run_make (P := Tryz.prog) w 89 4 i _ Tryz.underlying89 hi hz0 .i64 .i64 (s.length : Int) (s.length : Int) (by omega) (Int.le_refl _) (by rw [hz2]; omega) (by omega)
  simp only [hz1, Int.toNat_natCast, Nat.mul_one] at hmk
  clear hP hs hi hz0 hz1 hz2
  go_enter Tryz.func34, Tryz.ntmps34
  go_wp2_with fail
  clear hmk
  generalize World.alloc _ _ = wM at *
  obtain ⟨g, hg⟩ : ∃ g, g = w.heap.size := ⟨_, rfl⟩
  rw [← hg] at h0
  rw [← hg]
  clear hg
  go_loopg [12] s.length (fun m i wr => ∃ j : Nat, j ≤ s.length ∧ m = s.length - j ∧ i = .int .i64 j ∧ SeenS w g s.length (fun x => ∃ i, i < j ∧ sg s i = x) wr)
  case atStart => exact ⟨0, Nat.zero_le _, rfl, rfl, h0⟩
  case round =>
    clear h0
    obtain ⟨j, hj, hgk, rfl, hM⟩ := hrel
    have HG := Lib.hid hgk
    clear hgk
    by_cases hlt : j < s.length
    · obtain ⟨_, _, _, _, _, hkw⟩ := id hM
      obtain ⟨gs, off, rfl, hcell⟩ := (HS.out wr hkw).cellAt (nats_at hlt)
      have hxl : sg s j < s.length := HP.out.lt j hlt
      obtain ⟨t, ht, hc, hf⟩ := hM.cell hxl
      have htf : t = false := by
        cases t with
        | false => rfl
        | true =>
          obtain ⟨i, hij, hix⟩ := ht.1 rfl
          have := HP.out.inj i j (by omega) hlt hix
          omega
      subst htf
      have hN := hM.set (Q := fun x => ∃ i, i < j + 1 ∧ sg s i = x) hxl (fun y hy => ⟨fun ⟨i, h1, h2⟩ => by
        rcases Nat.lt_or_ge i j with h3 | h3
        · exact .inl ⟨i, h3, h2⟩
        · obtain rfl : i = j := by omega
          exact .inr h2.symm, fun h => by
        rcases h with ⟨i, h1, h2⟩ | h
        · exact ⟨i, by omega, h2⟩
        · exact ⟨j, by omega, h.symm⟩⟩)
      have HN := Lib.hid hN
      have d1 : decide (((sg s j : Nat) : Int) < 0) = false := decide_eq_false (by omega)
      have d2 : decide (s.length ≤ sg s j) = false := decide_eq_false (by omega)
      clear hN hM hkw ht
      generalize sg s j = x at *
      go_wp2
      go_roundg (s.length - (j + 1))
      case measure => rw [HG.out]; omega
      case rel => exact ⟨j + 1, by omega, rfl, by go_num, HN.out⟩
    · obtain rfl : j = s.length := by omega
      obtain ⟨_, _, _, _, _, hkw⟩ := id hM
      have hC := clone_any _ (nats s) wr (HS.out wr hkw) (by rw [nats_len]; omega)
      have HK := Lib.hid hkw
      clear hM hkw
      go_wp2_with fail
      refine hC.mono ?_
      rintro e w3 ⟨v, rfl, hown, hk3⟩
      obtain ⟨va, vc, rfl, _, _⟩ := hown.form
      rw [nats_len] at hown ⊢
      obtain ⟨v, hv⟩ : ∃ v, v = Value.slice va s.length vc := ⟨_, rfl⟩
      rw [← hv] at hown
      have HV := Lib.hid hv
      clear hv
      have k4 := (Keeps.refl (fun _ => False) w3).alloc (.cells #[v, .int .u32 0, .int .i32 0, .int .u32 0, .slice none 0 0] 99)
      have hb := heap_alloc_new w3 (.cells #[v, .int .u32 0, .int .i32 0, .int .u32 0, .slice none 0 0] 99)
      have hPA : PermF (w3.alloc (.cells #[v, .int .u32 0, .int .i32 0, .int .u32 0, .slice none 0 0] 99)) w3.heap.size v s := ⟨⟨⟨_, _, _, _, hb⟩, (hown.keeps k4 (fun _ _ h => h)).sl, fun k hk => by have := (hown.lt k hk).2; simp; omega⟩, hb⟩
      have hfin := (HK.out.trans hk3 (fun _ _ h => h)).trans k4 (fun _ _ h => h)
      have hsz := HK.out.size
      have hsz3 := hk3.size
      have HF := Lib.hid (And.intro hPA (And.intro (show w.heap.size ≤ w3.heap.size by omega) (And.intro (show ∀ k, v.ownBlock = some k → w.heap.size ≤ k from fun k hk => by have := (hown.lt k hk).1; omega) hfin)))
      clear hC hown hk3 k4 hb hPA hfin
      rw [HV.out] at HF
      go_wp2
      go_ret2
      exact ⟨_, _, rfl, HF.out⟩
theorem permOf_any (lv : Value) (s : List Nat) (w : World) (hs : Sl .i64 w lv (nats s)) (hP : IsP s.length (sg s)) (hl : s.length ≤ 1000000) :
    Calls Tryz.prog 34 #[lv] w fun e w' => ∃ b sv, e = .returned (.tuple #[.pointer (some ⟨b, 0, none⟩), .int .i64 0]) ∧ PermAt w' b sv s ∧ w.heap.size ≤ b ∧ (∀ k, sv.ownBlock = some k → w.heap.size ≤ k) ∧ Keeps (fun _ => False) w w' :=
  (permOf_new lv s w hs hP hl).mono (fun _ _ ⟨b, sv, h1, h2, h3⟩ => ⟨b, sv, h1, h2.1, h3⟩)

theorem permSame_eq (b c : Nat) (sv tv : Value) (s : List Nat) (w : World) (h : PermAt w b sv s) (k : PermAt w c tv s) (hl : s.length ≤ 100000) :
    Calls Tryz.prog 35 #[.pointer (some ⟨b, 0, none⟩), .pointer (some ⟨c, 0, none⟩)] w fun e w' => e = .returned (.bool true) ∧ Keeps (fun _ => False) w w' := by
  have h1 := permList_any b sv s w h (by omega)
  have HK := Lib.hid (fun W hk => k.keeps (F := fun _ => False) (w' := W) hk (fun h => h) (fun _ _ h => h))
  clear h k
  go_enter Tryz.func35, Tryz.ntmps35
  go_wp2_with fail
  refine h1.mono ?_
  rintro e w1 ⟨v1, rfl, ho1, hk1⟩
  have h2 := permList_any c tv s w1 (HK.out w1 hk1) (by omega)
  have H1 := Lib.hid (And.intro ho1 hk1)
  clear h1 ho1 hk1
  go_wp2_with fail
  refine h2.mono ?_
  rintro e w2 ⟨v2, rfl, ho2, hk2⟩
  have hE := equal_same v1 v2 (nats s) w2 (H1.out.1.keeps hk2 (fun _ _ h => h)).sl ho2.sl (by rw [nats_len]; exact hl)
  have H2 := Lib.hid hk2
  clear h2 ho2 hk2
  go_wp2_with fail
  refine hE.mono ?_
  rintro e w3 ⟨rfl, hk3⟩
  have HF := Lib.hid ((H1.out.2.trans H2.out (fun _ _ h => h)).trans hk3 (fun _ _ h => h))
  clear hE hk3
  go_wp2
  go_ret
  exact ⟨rfl, HF.out⟩

end Go.Proofs.YtblkkcpeodoclaaGreatDoor

/- The contracts of dart's names: the orbits of a permutation are named once, and counted. -/
namespace Go.Proofs.YtblkkcpeodoclaaGreatDoor
open Go.RowKit

/-- How great each orbit is, as far as the numbers below j. -/
noncomputable def szJ (S : Nat → Nat) (j : Nat) : List Nat := (List.range (ldr S j)).map fun k => ((List.range j).filter fun d => vnum S d == k).length
theorem szJ_length (S : Nat → Nat) (j : Nat) : (szJ S j).length = ldr S j := by simp [szJ]
theorem szJ_get {S : Nat → Nat} {j k : Nat} (hk : k < ldr S j) : (szJ S j)[k]? = some ((List.range j).filter fun d => vnum S d == k).length := by simp [szJ, hk]

theorem szJ_cnt (S : Nat → Nat) (j k : Nat) : ((List.range (j + 1)).filter fun d => vnum S d == k).length = ((List.range j).filter fun d => vnum S d == k).length + if vnum S j = k then 1 else 0 := by
  rw [List.range_succ, List.filter_append, List.length_append]
  by_cases h : vnum S j = k <;> simp [h]

theorem IsP.vnum_lt_of {n : Nat} {S : Nat → Nat} (h : IsP n S) {d j : Nat} (hd : d < j) (hj : j ≤ n) : vnum S d < ldr S j := by
  have hr := h.rep_self_le (i := d) (by omega)
  have h1 := ldr_succ S (rep S d)
  rw [if_pos (h.rep_rep (by omega))] at h1
  have h2 := ldr_mono S (show rep S d + 1 ≤ j by omega)
  unfold vnum
  omega

/-- A new orbit: a size more; an old one: its size is one more. -/
theorem szJ_new {n : Nat} {S : Nat → Nat} (h : IsP n S) {j : Nat} (hj : j < n) (hr : rep S j = j) : vnum S j = ldr S j ∧ szJ S (j + 1) = (szJ S j ++ [0]).set (vnum S j) 1 := by
  have hv : vnum S j = ldr S j := by unfold vnum; rw [hr]
  refine ⟨hv, ?_⟩
  have hl : ldr S (j + 1) = ldr S j + 1 := by rw [ldr_succ, if_pos hr]
  apply List.ext_getElem?
  intro k
  rw [hv]
  rcases Nat.lt_trichotomy k (ldr S j) with hk | hk | hk
  · rw [szJ_get (by omega), List.getElem?_set, if_neg (by omega), List.getElem?_append_left (by rw [szJ_length]; exact hk), szJ_get hk, szJ_cnt, if_neg (by omega)]
    rfl
  · rw [szJ_get (by omega), List.getElem?_set, if_pos hk.symm, if_pos (by simp [szJ_length]), szJ_cnt, if_pos (by omega)]
    have : (List.range j).filter (fun d => vnum S d == k) = [] := by
      rw [List.filter_eq_nil_iff]
      intro d hd
      have := h.vnum_lt_of (List.mem_range.1 hd) (by omega)
      simp; omega
    rw [this]; rfl
  · rw [List.getElem?_eq_none (by rw [szJ_length]; omega), List.getElem?_eq_none (by simp [szJ_length]; omega)]

theorem szJ_old {n : Nat} {S : Nat → Nat} (h : IsP n S) {j : Nat} (hj : j < n) (hr : rep S j ≠ j) : ∃ x : Nat, vnum S j < ldr S j ∧ (szJ S j)[vnum S j]? = some x ∧ x ≤ j ∧ szJ S (j + 1) = (szJ S j).set (vnum S j) (x + 1) := by
  have hl : ldr S (j + 1) = ldr S j := by rw [ldr_succ, if_neg hr]; rfl
  have hv : vnum S j < ldr S j := by
    have := h.vnum_lt_of (show j < j + 1 by omega) (by omega)
    omega
  refine ⟨_, hv, szJ_get hv, Nat.le_trans (List.length_filter_le _ _) (by simp), ?_⟩
  apply List.ext_getElem?
  intro k
  rw [List.getElem?_set]
  by_cases hk : k < ldr S j
  · rw [szJ_get (by omega), szJ_cnt]
    by_cases hvk : vnum S j = k
    · rw [if_pos hvk, if_pos hvk, if_pos (by rw [szJ_length]; omega), hvk]
    · rw [if_neg hvk, if_neg hvk, szJ_get hk]; rfl
  · rw [if_neg (by omega), List.getElem?_eq_none (by rw [szJ_length]; omega), List.getElem?_eq_none (by rw [szJ_length]; omega)]

/-- Names in a block, six cells from o on: of the permutation at bp; the block's other cells are cs'. -/
def NB (w : World) (b o : Nat) (t : TypeId) (cs : Array Value) (bp : Nat) (done : Bool) (lock : Int) (ov zv : Value) : Prop :=
  ∃ cur : Array Value, w.heap[b]? = some (.cells cur t (0, 0)) ∧ cur.size = cs.size ∧ o + 5 < cs.size ∧ cur[o]? = some (.pointer (some ⟨bp, 0, none⟩)) ∧ cur[o + 1]? = some (.int .u32 (if done then 1 else 0)) ∧
    cur[o + 2]? = some (.int .i32 lock) ∧ cur[o + 3]? = some (.int .u32 0) ∧ cur[o + 4]? = some ov ∧ cur[o + 5]? = some zv ∧ ∀ i, (i < o ∨ o + 5 < i) → cur[i]? = cs[i]?

section
variable {w : World} {b o : Nat} {t : TypeId} {cs : Array Value} {bp : Nat} {done : Bool} {lock : Int} {ov zv : Value} (h : NB w b o t cs bp done lock ov zv)
include h

theorem NB.lt : b < w.heap.size := by
  obtain ⟨cur, h1, _⟩ := h
  exact lt_of_block h1
theorem NB.c0 : w.cell? ⟨b, o, none⟩ = some (.pointer (some ⟨bp, 0, none⟩)) := by
  obtain ⟨cur, h1, h2, h3, c0, c1, c2, c3, c4, c5, h4⟩ := h
  exact (World.cell_of_heap h1 o).trans c0
theorem NB.c1 : w.cell? ⟨b, o + 1, none⟩ = some (.int .u32 (if done then 1 else 0)) := by
  obtain ⟨cur, h1, h2, h3, c0, c1, c2, c3, c4, c5, h4⟩ := h
  exact (World.cell_of_heap h1 (o + 1)).trans c1
theorem NB.c2 : w.cell? ⟨b, o + 1 + 1, none⟩ = some (.int .i32 lock) := by
  obtain ⟨cur, h1, h2, h3, c0, c1, c2, c3, c4, c5, h4⟩ := h
  exact (World.cell_of_heap h1 (o + 1 + 1)).trans c2
theorem NB.c4 : w.cell? ⟨b, o + 4, none⟩ = some ov := by
  obtain ⟨cur, h1, h2, h3, c0, c1, c2, c3, c4, c5, h4⟩ := h
  exact (World.cell_of_heap h1 (o + 4)).trans c4
theorem NB.c5 : w.cell? ⟨b, o + 5, none⟩ = some zv := by
  obtain ⟨cur, h1, h2, h3, c0, c1, c2, c3, c4, c5, h4⟩ := h
  exact (World.cell_of_heap h1 (o + 5)).trans c5
theorem NB.free (i : Nat) : w.frozen? ⟨b, i, none⟩ = false := by
  obtain ⟨cur, h1, _⟩ := h
  exact World.free_of_heap h1 i
theorem NB.keeps {w' : World} {G : Nat → Prop} (k : Keeps G w w') (hb : ¬ G b) : NB w' b o t cs bp done lock ov zv := by
  obtain ⟨cur, h1, h2⟩ := h
  exact ⟨cur, k.at h1 hb, h2⟩
theorem NB.set1 (x : Bool) : NB (w.setCell ⟨b, o + 1, none⟩ (.int .u32 (if x then 1 else 0))) b o t cs bp x lock ov zv := by
  obtain ⟨cur, h1, h2, h3, c0, c1, c2, c3, c4, c5, h4⟩ := h
  have hq : ∀ i, ¬ o + 1 = i → (cur.setIfInBounds (o + 1) (.int .u32 (if x then 1 else 0)))[i]? = cur[i]? := fun i hi => by rw [Array.getElem?_setIfInBounds, if_neg hi]
  have hp : (cur.setIfInBounds (o + 1) (.int .u32 (if x then 1 else 0)))[o + 1]? = some (.int .u32 (if x then 1 else 0)) := by rw [Array.getElem?_setIfInBounds, if_pos rfl, if_pos (by omega)]
  exact ⟨_, heap_setCell_same h1 (o + 1) _, by simpa using h2, h3, (hq _ (by omega)).trans c0, hp, (hq _ (by omega)).trans c2, (hq _ (by omega)).trans c3, (hq _ (by omega)).trans c4, (hq _ (by omega)).trans c5, fun i hi => (hq i (by omega)).trans (h4 i hi)⟩
theorem NB.set2 (x : Int) : NB (w.setCell ⟨b, o + 1 + 1, none⟩ (.int .i32 x)) b o t cs bp done x ov zv := by
  obtain ⟨cur, h1, h2, h3, c0, c1, c2, c3, c4, c5, h4⟩ := h
  have hq : ∀ i, ¬ o + 1 + 1 = i → (cur.setIfInBounds (o + 1 + 1) (.int .i32 x))[i]? = cur[i]? := fun i hi => by rw [Array.getElem?_setIfInBounds, if_neg hi]
  have hp : (cur.setIfInBounds (o + 1 + 1) (.int .i32 x))[o + 1 + 1]? = some (.int .i32 x) := by rw [Array.getElem?_setIfInBounds, if_pos rfl, if_pos (by omega)]
  exact ⟨_, heap_setCell_same h1 (o + 1 + 1) _, by simpa using h2, h3, (hq _ (by omega)).trans c0, (hq _ (by omega)).trans c1, hp, (hq _ (by omega)).trans c3, (hq _ (by omega)).trans c4, (hq _ (by omega)).trans c5, fun i hi => (hq i (by omega)).trans (h4 i hi)⟩
theorem NB.set4 (x : Value) : NB (w.setCell ⟨b, o + 4, none⟩ x) b o t cs bp done lock x zv := by
  obtain ⟨cur, h1, h2, h3, c0, c1, c2, c3, c4, c5, h4⟩ := h
  have hq : ∀ i, ¬ o + 4 = i → (cur.setIfInBounds (o + 4) x)[i]? = cur[i]? := fun i hi => by rw [Array.getElem?_setIfInBounds, if_neg hi]
  have hp : (cur.setIfInBounds (o + 4) x)[o + 4]? = some x := by rw [Array.getElem?_setIfInBounds, if_pos rfl, if_pos (by omega)]
  exact ⟨_, heap_setCell_same h1 (o + 4) _, by simpa using h2, h3, (hq _ (by omega)).trans c0, (hq _ (by omega)).trans c1, (hq _ (by omega)).trans c2, (hq _ (by omega)).trans c3, hp, (hq _ (by omega)).trans c5, fun i hi => (hq i (by omega)).trans (h4 i hi)⟩
theorem NB.set5 (x : Value) : NB (w.setCell ⟨b, o + 5, none⟩ x) b o t cs bp done lock ov x := by
  obtain ⟨cur, h1, h2, h3, c0, c1, c2, c3, c4, c5, h4⟩ := h
  have hq : ∀ i, ¬ o + 5 = i → (cur.setIfInBounds (o + 5) x)[i]? = cur[i]? := fun i hi => by rw [Array.getElem?_setIfInBounds, if_neg hi]
  have hp : (cur.setIfInBounds (o + 5) x)[o + 5]? = some x := by rw [Array.getElem?_setIfInBounds, if_pos rfl, if_pos (by omega)]
  exact ⟨_, heap_setCell_same h1 (o + 5) _, by simpa using h2, h3, (hq _ (by omega)).trans c0, (hq _ (by omega)).trans c1, (hq _ (by omega)).trans c2, (hq _ (by omega)).trans c3, (hq _ (by omega)).trans c4, hp, fun i hi => (hq i (by omega)).trans (h4 i hi)⟩
end

/-- What telling the names leaves. -/
def ToldAt (w : World) (b o : Nat) (t : TypeId) (cs : Array Value) (bp : Nat) (lock : Int) (s : List Nat) (w' : World) : Prop :=
  ∃ ov zv, NB w' b o t cs bp false lock ov zv ∧ Sl .i64 w' ov (nats ((List.range s.length).map (vnum (sg s)))) ∧ Sl .i64 w' zv (nats (szJ (sg s) s.length)) ∧
    (∀ k, ov.ownBlock = some k → w.heap.size ≤ k ∧ k < w'.heap.size) ∧ (∀ k, zv.ownBlock = some k → w.heap.size ≤ k ∧ k < w'.heap.size) ∧ Keeps (fun k => k = b) w w'

/-- The names told, the sizes so far. -/
structure TS (w : World) (b o : Nat) (t : TypeId) (cs : Array Value) (bp : Nat) (lock : Int) (nm : List Nat) (n g : Nat) (zs : List Int) (zv : Value) (wr : World) : Prop where
  sz : OwnI w.heap.size wr zv zs
  nb : NB wr b o t cs bp false lock (.slice (some ⟨g, 0, none⟩) n n) zv
  nm : OwnI w.heap.size wr (.slice (some ⟨g, 0, none⟩) n n) (nats nm)
  ne : ∀ k, zv.ownBlock = some k → k ≠ g
  gw : w.heap.size ≤ g ∧ g < wr.heap.size
  bw : b < w.heap.size
  kee : Keeps (fun k => k = b) w wr

section
variable {w : World} {b o : Nat} {t : TypeId} {cs : Array Value} {bp : Nat} {lock : Int} {nm : List Nat} {n g : Nat} {zs : List Int} {zv : Value} {wr : World} (h : TS w b o t cs bp lock nm n g zs zv wr)
include h

theorem TS.nb5 {w5 : World} (k : Keeps (fun q => zv.ownBlock = some q) wr w5) : NB w5 b o t cs bp false lock (.slice (some ⟨g, 0, none⟩) n n) zv :=
  h.nb.keeps k (fun e => by have := (h.sz.lt b e).1; have := h.bw; omega)

theorem TS.app {w5 : World} {z : Int} {g5 m cap : Nat} (ho : OwnI w.heap.size w5 (.slice (some ⟨g5, 0, none⟩) m cap) (zs ++ [z])) (k : Keeps (fun q => zv.ownBlock = some q) wr w5) (hg : zv.ownBlock = some g5 ∨ wr.heap.size ≤ g5) :
    TS w b o t cs bp lock nm n g (zs ++ [z]) (.slice (some ⟨g5, 0, none⟩) m cap) (w5.setCell ⟨b, o + 5, none⟩ (.slice (some ⟨g5, 0, none⟩) m cap)) := by
  have hb := h.bw
  have hgw := h.gw
  have kk := (Keeps.refl (fun q => q = b) w5).setCell (p := ⟨b, o + 5, none⟩) (.inl rfl) (.slice (some ⟨g5, 0, none⟩) m cap)
  refine ⟨ho.keeps kk (fun q hq e => by have := (ho.lt q hq).1; omega), (h.nb5 k).set5 _, (h.nm.keeps k (fun q hq e => h.ne q e (by simp only [Value.ownBlock, Option.some.injEq] at hq; exact hq.symm))).keeps kk (fun q hq e => by have := (h.nm.lt q hq).1; omega), fun q hq => ?_, ⟨hgw.1, by have := k.size; have := kk.size; omega⟩, hb, (h.kee.trans k (fun x hx e => by have := (h.sz.lt x e).1; omega)).trans kk (fun _ _ e => e)⟩
  simp only [Value.ownBlock, Option.some.injEq] at hq
  subst hq
  rcases hg with hg | hg
  · exact h.ne _ hg
  · omega
end

theorem TS.put {w : World} {b o : Nat} {t : TypeId} {cs : Array Value} {bp : Nat} {lock : Int} {nm : List Nat} {n g : Nat} {zs : List Int} {g5 m cap : Nat} {wr : World} (h : TS w b o t cs bp lock nm n g zs (.slice (some ⟨g5, 0, none⟩) m cap) wr) (v : Nat) (x : Int) :
    TS w b o t cs bp lock nm n g (zs.set v x) (.slice (some ⟨g5, 0, none⟩) m cap) (wr.setCell ⟨g5, v, none⟩ (.int .i64 x)) := by
  have hb := h.bw
  have hg5 := h.sz.lt g5 rfl
  have hne := h.ne g5 rfl
  have kk := (Keeps.refl (fun q => q = g5) wr).setCell (p := ⟨g5, v, none⟩) (.inl rfl) (.int .i64 x)
  exact ⟨h.sz.set v x, h.nb.keeps kk (fun e => by omega), h.nm.keeps kk (fun q hq e => by simp only [Value.ownBlock, Option.some.injEq] at hq; omega), h.ne, ⟨h.gw.1, by have := h.gw.2; have := kk.size; omega⟩, hb, h.kee.trans kk (fun _ _ e => by omega)⟩

set_option maxRecDepth 100000 in
set_option maxHeartbeats 4000000 in
theorem tell_any (b o : Nat) (t : TypeId) (cs : Array Value) (bp : Nat) (lock : Int) (sv : Value) (s : List Nat) (w : World) (h : NB w b o t cs bp false lock (.slice none 0 0) (.slice none 0 0)) (hp : PermAt w bp sv s) (hP : IsP s.length (sg s)) (hl : s.length ≤ 1000000) :
    Calls Tryz.prog 49 #[.pointer (some ⟨b, o, none⟩)] w fun e w' => e = .returned (.tuple #[]) ∧ ToldAt w b o t cs bp lock s w' := by
  have hN := permNames_any bp sv s w hp hP hl
  have hc0 := h.c0
  have hbw := h.lt
  have HH := Lib.hid (And.intro h hP)
  have hnm : ((List.range s.length).map (vnum (sg s))).length = s.length := by simp
  clear h hp hP
  go_enter Tryz.func49, Tryz.ntmps49
  go_wp2_with fail
  refine hN.mono ?_
  rintro e w1 ⟨g, rfl, hM⟩
  have hM2 := hM
  obtain ⟨zs, hz1, hz2, hz3, hk1⟩ := hM2
  subst hz2
  have hg1 := hM.old
  have nb1 := HH.out.1.keeps hk1 (fun h => h)
  have c4 := nb1.c4
  have f4 := nb1.free (o + 4)
  have kk := (Keeps.refl (fun q => q = b) w1).setCell (p := ⟨b, o + 4, none⟩) (.inl rfl) (.slice (some ⟨g, 0, none⟩) s.length s.length)
  have h0 : TS w b o t cs bp lock ((List.range s.length).map (vnum (sg s))) s.length g (nats (szJ (sg s) 0)) (.slice none 0 0) (w1.setCell ⟨b, o + 4, none⟩ (.slice (some ⟨g, 0, none⟩) s.length s.length)) := by
    refine ⟨OwnI.nil _ _, ?_, ?_, fun k hk => by simp [Value.ownBlock] at hk, ⟨hg1.1, by have := kk.size; omega⟩, hbw, (hk1.mono (fun _ _ h => h.elim)).trans kk (fun _ _ e => e)⟩
    · exact nb1.set4 _
    · exact hz3.keeps kk (fun q hq e => by simp only [Value.ownBlock, Option.some.injEq] at hq; omega)
  have hcc := h0.nb.c4
  have HS0 := Lib.hid h0
  clear hN hM hz1 hz3 hk1 nb1 kk h0 hnm
  go_wp2_with fail
  clear hcc c4 f4 hc0
  generalize w1.setCell ⟨b, o + 4, none⟩ (.slice (some ⟨g, 0, none⟩) s.length s.length) = w2 at *
  go_loopg [17] s.length (fun m i wr => ∃ j : Nat, j ≤ s.length ∧ m = s.length - j ∧ i = .int .i64 j ∧ ∃ zv, TS w b o t cs bp lock ((List.range s.length).map (vnum (sg s))) s.length g (nats (szJ (sg s) j)) zv wr)
  case atStart => exact ⟨0, Nat.zero_le _, rfl, rfl, _, HS0.out⟩
  case round =>
    clear HS0
    obtain ⟨j, hj, hgk, rfl, zv, hT⟩ := hrel
    have HG := Lib.hid hgk
    clear hgk
    obtain ⟨za, zc, rfl, hzl, hzc⟩ := hT.sz.form
    rw [nats_len, szJ_length] at hT hzl
    by_cases hlt : j < s.length
    · have hvn : (nats ((List.range s.length).map (vnum (sg s))))[j]? = some ((vnum (sg s) j : Nat) : Int) := nats_get (by simp [hlt])
      have hk1 := (hT.nm.cell hvn).1
      have hc5 := hT.nb.c5
      have hbb := hT.bw
      have hld := ldr_le (sg s) j
      by_cases hr : rep (sg s) j = j
      · obtain ⟨e1, e2⟩ := szJ_new HH.out.2 hlt hr
        obtain ⟨m, hm⟩ : ∃ m, m = ldr (sg s) j := ⟨_, rfl⟩
        rw [e1] at hk1 e2
        rw [← hm] at hk1 e2 hzl hld
        rw [← hm] at hT hc5
        have HN : Hid ((nats (szJ (sg s) j)).length = m) := Lib.hid (by rw [nats_len, szJ_length]; exact hm.symm)
        have hown := hT.sz
        have hsz := hT.kee.size
        have hml : m ≤ 10000000000 := by omega
        have hts := fun (w5 : World) g5 cap => hT.app (w5 := w5) (z := 0) (g5 := g5) (m := m + 1) (cap := cap)
        have hn5 := fun (w5 : World) => hT.nb5 (w5 := w5)
        have HT := Lib.hid (And.intro hts (And.intro hn5 (And.intro hm e2)))
        clear hT hvn hts hn5 hm e1 e2 hr
        go_wp2_with (at_builtin; refine append1n m rfl _ _ rfl w.heap.size (.slice za m zc) (nats (szJ (sg s) j)) (0 : Int) HN wr.heap.size rfl rfl rfl hown hml hsz ?_; intro g5 cap5 w5 hown5 hk5 hat5 hg5; have hT5 := HT.out.1 w5 g5 cap5 hown5 hk5 hat5; have nb5 := HT.out.2.1 w5 hk5; have c55 := nb5.c5; have f55 := nb5.free (o + 5); have hc6 := hT5.nb.c5; have hel := hT5.sz.cell (i := m) (z := 0) (by rw [List.getElem?_append_right (by rw [HN.out]; omega), HN.out]; simp); have hel1 := hel.1; have hel2 := hel.2; have HT5 := Lib.hid hT5; clear nb5 hown5 hk5 hat5 hel hT5 hown hc5)
        have hfin := HT5.out.put m 1
        have e3 : (nats (szJ (sg s) j) ++ [0]).set m 1 = nats (szJ (sg s) (j + 1)) := by rw [HT.out.2.2.2]; simp [nats, List.map_set]
        rw [e3] at hfin
        have HF := Lib.hid hfin
        clear hfin e3
        go_roundg (s.length - (j + 1))
        case measure => rw [HG.out]; omega
        case rel => exact ⟨j + 1, by omega, rfl, by go_num, _, HF.out⟩
      · obtain ⟨x, e1, e2, hxj, e3⟩ := szJ_old HH.out.2 hlt hr
        obtain ⟨g5, c5, hv5, _, _⟩ := owns_form hT.sz (by rw [nats_len, szJ_length]; omega)
        simp only [Value.slice.injEq] at hv5
        obtain ⟨rfl, _, _⟩ := hv5
        have hel := hT.sz.cell (nats_get e2)
        have hel1 := hel.1
        have hel2 := hel.2
        have e4 : (nats (szJ (sg s) j)).set (vnum (sg s) j) ((x : Int) + 1) = nats (szJ (sg s) (j + 1)) := by rw [e3]; simp [nats, List.map_set]
        have hfin := hT.put (vnum (sg s) j) ((x : Int) + 1)
        rw [e4] at hfin
        have hnb : (((vnum (sg s) j : Nat) : Int) == ((ldr (sg s) j : Nat) : Int)) = false := by rw [beq_eq_false_iff_ne]; omega
        have HF := Lib.hid hfin
        clear hfin e4 e3 e2 hel hT hr hvn
        generalize vnum (sg s) j = v at *
        generalize ldr (sg s) j = m at *
        go_wp2
        go_roundg (s.length - (j + 1))
        case measure => rw [HG.out]; omega
        case rel => exact ⟨j + 1, by omega, rfl, by go_num, _, HF.out⟩
    · obtain rfl : j = s.length := by omega
      have HF := Lib.hid (show ToldAt w b o t cs bp lock s wr from ⟨_, _, hT.nb, hT.nm.sl, hT.sz.sl, hT.nm.lt, hT.sz.lt, hT.kee⟩)
      clear hT
      go_wp2
      go_end0
      exact ⟨rfl, HF.out⟩

end Go.Proofs.YtblkkcpeodoclaaGreatDoor

/- The contracts of package dart: a map in memory, and what it is asked. -/
namespace Go.Proofs.YtblkkcpeodoclaaGreatDoor
open Go.RowKit

theorem xor1 (a : Nat) : a ^^^ 1 = mt a := by
  have h1 : (a ^^^ 1) / 2 = a / 2 := by
    have := Nat.xor_div_two (a := a) (b := 1)
    simpa using this
  have h2 : (decide ((a ^^^ 1) % 2 = 1)) = (decide (a % 2 = 1) ^^ true) := by
    rw [← Nat.testBit_zero, Nat.testBit_xor, Nat.testBit_zero, Nat.testBit_zero]; rfl
  unfold mt
  by_cases h : a % 2 = 1
  · have h3 : ¬ (a ^^^ 1) % 2 = 1 := fun e => by rw [decide_eq_true e, decide_eq_true h] at h2; cases h2
    rw [if_neg (by omega)]; omega
  · have h3 : (a ^^^ 1) % 2 = 1 := Classical.byContradiction (fun e => by rw [decide_eq_false e, decide_eq_false h] at h2; cases h2)
    rw [if_pos (by omega)]; omega

theorem xor_i64 (a : Nat) (ha : a ≤ 1000000000) : bits .xor .i64 (a : Int) 1 = ((mt a : Nat) : Int) := by
  have hx : a ^^^ 1 < 2 ^ 63 := Nat.xor_lt_two_pow (by omega) (by omega)
  have h1 : (BitVec.ofInt 64 (a : Int)).toNat = a := by
    rw [BitVec.ofInt_natCast, BitVec.toNat_ofNat]; exact Nat.mod_eq_of_lt (by omega)
  have h2 : (BitVec.ofInt 64 (1 : Int)).toNat = 1 := by decide
  show IntKind.i64.wrap ((BitVec.ofInt 64 (a : Int) ^^^ BitVec.ofInt 64 (1 : Int)).toNat : Int) = _
  rw [BitVec.toNat_xor, h1, h2, ← xor1]
  exact IntWalk.i64_in _ (by omega)

/-- Names, told or not. -/
def NmT (w : World) (done : Bool) (ov zv : Value) (s : List Nat) : Prop :=
  if done then Sl .i64 w ov (nats ((List.range s.length).map (vnum (sg s)))) ∧ Sl .i64 w zv (nats (szJ (sg s) s.length)) else ov = .slice none 0 0 ∧ zv = .slice none 0 0

theorem NmT.keeps {w w' : World} {G : Nat → Prop} {done : Bool} {ov zv : Value} {s : List Nat} (h : NmT w done ov zv s) (k : Keeps G w w') (ho : ∀ q, (ov.ownBlock = some q ∨ zv.ownBlock = some q) → ¬ G q) : NmT w' done ov zv s := by
  cases done with
  | true => exact ⟨h.1.keeps k (fun q hq => ho q (.inl hq)), h.2.keeps k (fun q hq => ho q (.inr hq))⟩
  | false => exact h

theorem tellEnter (b o : Nat) (W : World) : (callFunc 49 #[.pointer (some ⟨b, o, none⟩)]).run Tryz.prog W = .ok (.enter 49 #[.pointer (some ⟨b, o, none⟩)]) W := by
  go_simp

/-- What Do leaves. -/
def NmDone (w : World) (b o : Nat) (t : TypeId) (cs : Array Value) (bp : Nat) (ov zv : Value) (s : List Nat) (w' : World) : Prop :=
  ∃ ov' zv', NB w' b o t cs bp true 0 ov' zv' ∧ NmT w' true ov' zv' s ∧ (∀ k, ov'.ownBlock = some k → ov.ownBlock = some k ∨ (w.heap.size ≤ k ∧ k < w'.heap.size)) ∧ (∀ k, zv'.ownBlock = some k → zv.ownBlock = some k ∨ (w.heap.size ≤ k ∧ k < w'.heap.size)) ∧ Keeps (fun k => k = b) w w'

set_option maxHeartbeats 400000 in
theorem nmDo_any (b o : Nat) (t : TypeId) (cs : Array Value) (bp : Nat) (done : Bool) (ov zv sv : Value) (s : List Nat) (w : World) (h : NB w b o t cs bp done 0 ov zv) (hT : NmT w done ov zv s) (hp : PermAt w bp sv s) (hbp : bp ≠ b) (hsv : sv.ownBlock ≠ some b) (hP : IsP s.length (sg s)) (hl : s.length ≤ 1000000) :
    Calls Tryz.prog 48 #[.pointer (some ⟨b, o + 1, none⟩), .func (.func 49) #[.pointer (some ⟨b, o, none⟩)] #[]] w fun e w' => e = .returned (.tuple #[]) ∧ NmDone w b o t cs bp ov zv s w' := by
  cases done with
  | true =>
    have c1 : w.cell? ⟨b, o + 1, none⟩ = some (.int .u32 1) := h.c1
    refine (do_done ⟨b, o + 1, none⟩ _ w c1).mono ?_
    rintro e w' ⟨rfl, rfl⟩
    exact ⟨rfl, _, _, h, hT, fun k hk => .inl hk, fun k hk => .inl hk, Keeps.refl _ _⟩
  | false =>
    obtain ⟨rfl, rfl⟩ : ov = .slice none 0 0 ∧ zv = .slice none 0 0 := hT
    have c1 : w.cell? ⟨b, o + 1, none⟩ = some (.int .u32 0) := h.c1
    have c2 : w.cell? ⟨b, o + 1 + 1, none⟩ = some (.int .i32 0) := h.c2
    have n0 := h.set2 1
    have k0 : Keeps (fun k => k = b) w (w.setCell ⟨b, o + 1 + 1, none⟩ (.int .i32 1)) := (Keeps.refl (fun k => k = b) w).setCell (p := ⟨b, o + 1 + 1, none⟩) (.inl rfl) _
    have hp0 := hp.keeps k0 hbp (fun k hk h => hsv (by rw [← h]; exact hk))
    have hM := tell_any b o t cs bp 1 sv s _ n0 hp0 hP hl
    refine (do_first b (o + 1) 49 #[.pointer (some ⟨b, o, none⟩)] (fun w1 => ToldAt (w.setCell ⟨b, o + 1 + 1, none⟩ (.int .i32 1)) b o t cs bp 1 s w1) w (tellEnter b o) c1 c2 (h.free _) (hM.mono ?_)).mono ?_
    · rintro e w1 ⟨rfl, hm⟩
      obtain ⟨ov, zv, nb, _⟩ := id hm
      exact ⟨rfl, nb.c1, nb.c2, nb.free _, nb.free _, hm⟩
    · rintro e w' ⟨rfl, w1, ⟨ov, zv, nb, h1, h2, h3, h4, k1⟩, rfl⟩
      have nb1 : NB w1.drew b o t cs bp false 1 ov zv := nb
      have nb2 := (nb1.set1 true).set2 0
      have k2 : Keeps (fun k => k = b) w1 ((w1.drew.setCell ⟨b, o + 1, none⟩ (.int .u32 1)).setCell ⟨b, o + 1 + 1, none⟩ (.int .i32 0)) := ((Keeps.refl (fun k => k = b) w1).drew.setCell (p := ⟨b, o + 1, none⟩) (.inl rfl) _).setCell (p := ⟨b, o + 1 + 1, none⟩) (.inl rfl) _
      have k3 := (k0.trans k1 (fun x _ h => h)).trans k2 (fun x _ h => h)
      have hbw := h.lt
      have hs : (w.setCell ⟨b, o + 1 + 1, none⟩ (.int .i32 1)).heap.size = w.heap.size := by simp
      rw [hs] at h3 h4
      refine ⟨rfl, ov, zv, nb2, ⟨h1.keeps k2 (fun q hq e => by have := (h3 q hq).1; omega), h2.keeps k2 (fun q hq e => by have := (h4 q hq).1; omega)⟩, fun k hk => .inr ⟨(h3 k hk).1, ?_⟩, fun k hk => .inr ⟨(h4 k hk).1, ?_⟩, k3⟩
      · exact Nat.lt_of_lt_of_le (h3 k hk).2 k2.size
      · exact Nat.lt_of_lt_of_le (h4 k hk).2 k2.size

set_option maxRecDepth 100000 in
set_option maxHeartbeats 1000000 in
theorem name_in (b o : Nat) (t : TypeId) (cs : Array Value) (bp : Nat) (done : Bool) (ov zv sv : Value) (s : List Nat) (d : Nat) (w : World) (h : NB w b o t cs bp done 0 ov zv) (hT : NmT w done ov zv s) (hp : PermAt w bp sv s) (hbp : bp ≠ b) (hsv : sv.ownBlock ≠ some b) (hP : IsP s.length (sg s)) (hl : s.length ≤ 1000000) (hd : d < s.length) :
    Calls Tryz.prog 44 #[.pointer (some ⟨b, o, none⟩), .int .i64 d] w fun e w' => e = .returned (.int .i64 (vnum (sg s) d : Nat)) ∧ NmDone w b o t cs bp ov zv s w' := by
  have hD := nmDo_any b o t cs bp done ov zv sv s w h hT hp hbp hsv hP hl
  have d0 : decide ((d : Int) < 0) = false := decide_eq_false (by omega)
  have d1 : decide (s.length ≤ d) = false := decide_eq_false (by omega)
  clear h hT hp hbp hsv hP
  go_enter Tryz.func44, Tryz.ntmps44
  go_wp2_with fail
  refine hD.mono ?_
  rintro e w1 ⟨rfl, ov', zv', nb, hT, h3, h4, hk⟩
  have hc4 := nb.c4
  obtain ⟨oa, oc, rfl, _, _⟩ := hT.1.form
  rw [nats_len, List.length_map, List.length_range] at hc4
  have hTO := hT.1
  rw [nats_len, List.length_map, List.length_range] at hTO
  obtain ⟨og, oo, rfl, hcell⟩ := hTO.cellAt (nats_get (show ((List.range s.length).map (vnum (sg s)))[d]? = some (vnum (sg s) d) by simp [hd]))
  have HF := Lib.hid (show NmDone w b o t cs bp ov zv s w1 from ⟨_, zv', nb, hT, h3, h4, hk⟩)
  clear hD nb hT h3 h4 hk hTO
  go_wp2
  go_ret
  exact ⟨rfl, HF.out⟩

set_option maxRecDepth 100000 in
set_option maxHeartbeats 1000000 in
theorem count_any (b o : Nat) (t : TypeId) (cs : Array Value) (bp : Nat) (done : Bool) (ov zv sv : Value) (s : List Nat) (w : World) (h : NB w b o t cs bp done 0 ov zv) (hT : NmT w done ov zv s) (hp : PermAt w bp sv s) (hbp : bp ≠ b) (hsv : sv.ownBlock ≠ some b) (hP : IsP s.length (sg s)) (hl : s.length ≤ 1000000) :
    Calls Tryz.prog 31 #[.pointer (some ⟨b, o, none⟩)] w fun e w' => e = .returned (.int .i64 (ldr (sg s) s.length : Nat)) ∧ NmDone w b o t cs bp ov zv s w' := by
  have hD := nmDo_any b o t cs bp done ov zv sv s w h hT hp hbp hsv hP hl
  clear h hT hp hbp hsv hP
  go_enter Tryz.func31, Tryz.ntmps31
  go_wp2_with fail
  refine hD.mono ?_
  rintro e w1 ⟨rfl, ov', zv', nb, hT, h3, h4, hk⟩
  have hc5 := nb.c5
  obtain ⟨za, zc, rfl, _, _⟩ := hT.2.form
  rw [nats_len, szJ_length] at hc5
  have HF := Lib.hid (show NmDone w b o t cs bp ov zv s w1 from ⟨ov', _, nb, hT, h3, h4, hk⟩)
  clear hD nb hT h3 h4 hk
  go_wp2
  go_ret
  exact ⟨rfl, HF.out⟩

end Go.Proofs.YtblkkcpeodoclaaGreatDoor

/- The contracts of package dart: maps are made, and asked. -/
namespace Go.Proofs.YtblkkcpeodoclaaGreatDoor
open Go.RowKit

/-- The cells of a map. -/
def mapCells (bp : Nat) (d1 : Bool) (o1 z1 : Value) (bq : Nat) (d2 : Bool) (o2 z2 : Value) (root lone : Int) : Array Value :=
  #[.pointer (some ⟨bp, 0, none⟩), .int .u32 (if d1 then 1 else 0), .int .i32 0, .int .u32 0, o1, z1, .pointer (some ⟨bq, 0, none⟩), .int .u32 (if d2 then 1 else 0), .int .i32 0, .int .u32 0, o2, z2, .int .i64 root, .int .i64 lone]

theorem sg_phi {s : List Nat} {d : Nat} (hd : d < s.length) : sg (phiL s) d = sg s (mt d) := by simp [sg, phiL, hd]

theorem phi_isP {s : List Nat} (h : IsP s.length (sg s)) (he : s.length % 2 = 0) : IsP (phiL s).length (sg (phiL s)) := by
  rw [phiL_length]
  refine ⟨fun d hd => by rw [sg_phi hd]; exact h.lt _ (mt_lt he hd), fun d e hd hen hh => ?_⟩
  rw [sg_phi hd, sg_phi hen] at hh
  have := h.inj _ _ (mt_lt he hd) (mt_lt he hen) hh
  rw [← mt_mt d, this, mt_mt]

/-- A map in memory, at block b; R: the other blocks that are read. -/
structure MapAt (w : World) (b : Nat) (s : List Nat) (root lone : Int) (R : Nat → Prop) : Prop where
  ex : ∃ bp bq sv tv d1 d2 o1 z1 o2 z2, w.heap[b]? = some (.cells (mapCells bp d1 o1 z1 bq d2 o2 z2 root lone) 77 (0, 0)) ∧ PermAt w bp sv s ∧ PermAt w bq tv (phiL s) ∧
    NmT w d1 o1 z1 s ∧ NmT w d2 o2 z2 (phiL s) ∧ R bp ∧ R bq ∧ ∀ k, (sv.ownBlock = some k ∨ tv.ownBlock = some k ∨ o1.ownBlock = some k ∨ z1.ownBlock = some k ∨ o2.ownBlock = some k ∨ z2.ownBlock = some k) → R k
  isP : IsP s.length (sg s)
  even : s.length % 2 = 0
  le : s.length ≤ 131072
  rt : (s.length = 0 ∧ root = -1) ∨ (0 ≤ root ∧ root < s.length)
  ln : 0 ≤ lone ∧ lone ≤ 65536
  old : ∀ x, R x → x < w.heap.size
  notb : ¬ R b

def MapQ (wh : World) (b : Nat) (s : List Nat) (root lone : Int) (R : Nat → Prop) (w' : World) : Prop :=
  MapAt w' b s root lone (grow R wh w') ∧ Keeps (fun k => k = b) wh w'

section
variable {w : World} {b : Nat} {s : List Nat} {root lone : Int} {R : Nat → Prop} (h : MapAt w b s root lone R)
include h

theorem MapAt.lt : b < w.heap.size := by
  obtain ⟨_, _, _, _, _, _, _, _, _, _, hb, _⟩ := h.ex
  exact lt_of_block hb

theorem MapAt.keeps {w' : World} {G : Nat → Prop} (k : Keeps G w w') (hb : ¬ G b) (hR : ∀ x, R x → ¬ G x) : MapAt w' b s root lone R := by
  obtain ⟨⟨bp, bq, sv, tv, d1, d2, o1, z1, o2, z2, h1, h2, h3, h4, h5, h6, h7, h8⟩, a1, a2, a3, a4, a5, a6, a7⟩ := h
  exact ⟨⟨bp, bq, sv, tv, d1, d2, o1, z1, o2, z2, k.at h1 hb, h2.keeps k (hR _ h6) (fun q hq => hR q (h8 q (.inl hq))), h3.keeps k (hR _ h7) (fun q hq => hR q (h8 q (.inr (.inl hq)))),
    h4.keeps k (fun q hq => hR q (h8 q (by rcases hq with e | e; exact .inr (.inr (.inl e)); exact .inr (.inr (.inr (.inl e)))))), h5.keeps k (fun q hq => hR q (h8 q (by rcases hq with e | e; exact .inr (.inr (.inr (.inr (.inl e)))); exact .inr (.inr (.inr (.inr (.inr e))))))),
    h6, h7, h8⟩, a1, a2, a3, a4, a5, fun x hx => Nat.lt_of_lt_of_le (a6 x hx) k.size, a7⟩

theorem MapAt.mono {R' : Nat → Prop} (hR : ∀ x, R x → R' x) (hold : ∀ x, R' x → x < w.heap.size) (hb : ¬ R' b) : MapAt w b s root lone R' := by
  obtain ⟨⟨bp, bq, sv, tv, d1, d2, o1, z1, o2, z2, h1, h2, h3, h4, h5, h6, h7, h8⟩, a1, a2, a3, a4, a5, a6, a7⟩ := h
  exact ⟨⟨bp, bq, sv, tv, d1, d2, o1, z1, o2, z2, h1, h2, h3, h4, h5, hR _ h6, hR _ h7, fun k hk => hR k (h8 k hk)⟩, a1, a2, a3, a4, a5, hold, hb⟩

theorem MapAt.nb1 : ∃ bp sv d1 o1 z1, NB w b 0 77 (((w.heap[b]?).bind fun o => match o with | .cells cs _ _ => some cs | _ => none).getD #[]) bp d1 0 o1 z1 ∧ PermAt w bp sv s ∧ NmT w d1 o1 z1 s ∧ bp ≠ b ∧ sv.ownBlock ≠ some b ∧
    ∀ w', NmDone w b 0 77 (((w.heap[b]?).bind fun o => match o with | .cells cs _ _ => some cs | _ => none).getD #[]) bp o1 z1 s w' → MapQ w b s root lone R w' := by
  obtain ⟨⟨bp, bq, sv, tv, d1, d2, o1, z1, o2, z2, h1, h2, h3, h4, h5, h6, h7, h8⟩, a1, a2, a3, a4, a5, a6, a7⟩ := id h
  have hcs : (((w.heap[b]?).bind fun o => match o with | .cells cs _ _ => some cs | _ => none).getD #[]) = mapCells bp d1 o1 z1 bq d2 o2 z2 root lone := by rw [h1]; rfl
  rw [hcs]
  refine ⟨bp, sv, d1, o1, z1, ⟨_, h1, rfl, (by decide : 0 + 5 < 14), rfl, rfl, rfl, rfl, rfl, rfl, fun i _ => rfl⟩, h2, h4, fun e => a7 (e ▸ h6), fun e => a7 (h8 b (.inl e)), ?_⟩
  rintro w' ⟨ov, zv, nb, hT, q1, q2, k⟩
  obtain ⟨cur, c0, c1, c2, e0, e1, e2, e3, e4, e5, e6⟩ := nb
  have hcur : cur = mapCells bp true ov zv bq d2 o2 z2 root lone := by
    apply Array.ext_getElem?
    intro i
    have hi : i = 0 ∨ i = 1 ∨ i = 2 ∨ i = 3 ∨ i = 4 ∨ i = 5 ∨ 5 < i := by omega
    rcases hi with rfl | rfl | rfl | rfl | rfl | rfl | hi
    · exact e0
    · exact e1
    · exact e2
    · exact e3
    · exact e4
    · exact e5
    · rw [e6 i (.inr (by omega))]
      have hi2 : i = 6 ∨ i = 7 ∨ i = 8 ∨ i = 9 ∨ i = 10 ∨ i = 11 ∨ i = 12 ∨ i = 13 ∨ 13 < i := by omega
      rcases hi2 with rfl | rfl | rfl | rfl | rfl | rfl | rfl | rfl | hi2
      · rfl
      · rfl
      · rfl
      · rfl
      · rfl
      · rfl
      · rfl
      · rfl
      · rw [Array.getElem?_eq_none (by simp [mapCells]; omega), Array.getElem?_eq_none (by simp [mapCells]; omega)]
  subst hcur
  have hb := h.lt
  have hR : ∀ x, R x → ¬ x = b := fun x hx e => a7 (e ▸ hx)
  refine ⟨⟨⟨bp, bq, sv, tv, true, d2, ov, zv, o2, z2, c0, h2.keeps k (hR _ h6) (fun q hq => hR q (h8 q (.inl hq))), h3.keeps k (hR _ h7) (fun q hq => hR q (h8 q (.inr (.inl hq)))), hT,
    h5.keeps k (fun q hq => hR q (h8 q (by rcases hq with e | e; exact .inr (.inr (.inr (.inr (.inl e)))); exact .inr (.inr (.inr (.inr (.inr e))))))), .inl h6, .inl h7, fun q hq => ?_⟩, a1, a2, a3, a4, a5, grow_old a6 k.size, fun hx => ?_⟩, k⟩
  · rcases hq with e | e | e | e | e | e
    · exact .inl (h8 q (.inl e))
    · exact .inl (h8 q (.inr (.inl e)))
    · rcases q1 q e with e | e
      · exact .inl (h8 q (.inr (.inr (.inl e))))
      · exact .inr e
    · rcases q2 q e with e | e
      · exact .inl (h8 q (.inr (.inr (.inr (.inl e)))))
      · exact .inr e
    · exact .inl (h8 q (.inr (.inr (.inr (.inr (.inl e))))))
    · exact .inl (h8 q (.inr (.inr (.inr (.inr (.inr e))))))
  · rcases hx with hx | hx
    · exact a7 hx
    · omega

end

end Go.Proofs.YtblkkcpeodoclaaGreatDoor

/- The contracts of package dart: what a map is asked. -/
namespace Go.Proofs.YtblkkcpeodoclaaGreatDoor
open Go.RowKit

section
variable {w : World} {b : Nat} {s : List Nat} {root lone : Int} {R : Nat → Prop} (h : MapAt w b s root lone R)
include h

theorem mapDarts_any : Calls Tryz.prog 13 #[.pointer (some ⟨b, 0, none⟩)] w fun e w' => e = .returned (.int .i64 s.length) ∧ w = w' := by
  obtain ⟨bp, bq, sv, tv, d1, d2, o1, z1, o2, z2, h1, h2, h3, _⟩ := h.ex
  have c0 : w.cell? ⟨b, 0, none⟩ = some (.pointer (some ⟨bp, 0, none⟩)) := World.cell_of_heap h1 0
  have hL := permLen_any bp sv s w h2
  clear h h1 h2 h3
  go_enter Tryz.func13, Tryz.ntmps13
  go_wp2_with (go_at_call 32; refine hL.mono ?_; rintro e w' ⟨rfl, rfl⟩)
  go_ret
  exact ⟨rfl, rfl⟩

theorem mapEdges_any : Calls Tryz.prog 25 #[.pointer (some ⟨b, 0, none⟩)] w fun e w' => e = .returned (.int .i64 (s.length / 2 : Nat)) ∧ w = w' := by
  have hD := mapDarts_any h
  have hle := h.le
  clear h
  generalize s.length = n at *
  go_enter Tryz.func25, Tryz.ntmps25
  go_wp2_with (go_at_call 13; refine hD.mono ?_; rintro e w' ⟨rfl, rfl⟩)
  go_ret
  exact ⟨rfl, rfl⟩

theorem mapRoot_any : Calls Tryz.prog 26 #[.pointer (some ⟨b, 0, none⟩)] w fun e w' => e = .returned (.int .i64 root) ∧ w = w' := by
  obtain ⟨bp, bq, sv, tv, d1, d2, o1, z1, o2, z2, h1, h2, h3, _⟩ := h.ex
  have c0 : w.cell? ⟨b, 12, none⟩ = some (.int .i64 root) := World.cell_of_heap h1 12
  clear h h1 h2 h3
  go_enter Tryz.func26, Tryz.ntmps26
  go_wp2
  go_ret
  exact ⟨rfl, rfl⟩

theorem mapLone_any : Calls Tryz.prog 12 #[.pointer (some ⟨b, 0, none⟩)] w fun e w' => e = .returned (.int .i64 lone) ∧ w = w' := by
  obtain ⟨bp, bq, sv, tv, d1, d2, o1, z1, o2, z2, h1, h2, h3, _⟩ := h.ex
  have c0 : w.cell? ⟨b, 13, none⟩ = some (.int .i64 lone) := World.cell_of_heap h1 13
  clear h h1 h2 h3
  go_enter Tryz.func12, Tryz.ntmps12
  go_wp2
  go_ret
  exact ⟨rfl, rfl⟩

theorem mapVertex_in (d : Nat) (hd : d < s.length) : Calls Tryz.prog 27 #[.pointer (some ⟨b, 0, none⟩), .int .i64 d] w fun e w' => e = .returned (.int .i64 (vnum (sg s) d : Nat)) ∧ MapQ w b s root lone R w' := by
  obtain ⟨bp, sv, d1, o1, z1, nb, hp, hT, hbp, hsv, hfin⟩ := h.nb1
  have hN := name_in b 0 _ _ bp d1 o1 z1 sv s d w nb hT hp hbp hsv h.isP (by have := h.le; omega) hd
  have HF := Lib.hid hfin
  clear h nb hT hp hbp hsv hfin
  go_enter Tryz.func27, Tryz.ntmps27
  go_wp2_with fail
  refine hN.mono ?_
  rintro e w1 ⟨rfl, hq⟩
  have HQ := Lib.hid (HF.out _ hq)
  clear hN hq HF
  go_wp2
  go_ret
  exact ⟨rfl, HQ.out⟩

end

end Go.Proofs.YtblkkcpeodoclaaGreatDoor

/- The contracts of package dart: how many vertices, degrees; alike maps; a map is made. -/
namespace Go.Proofs.YtblkkcpeodoclaaGreatDoor
open Go.RowKit

theorem NmDone.ofDrew {w w' : World} {b o : Nat} {t : TypeId} {cs : Array Value} {bp : Nat} {ov zv : Value} {s : List Nat} (h : NmDone w.drew b o t cs bp ov zv s w') : NmDone w b o t cs bp ov zv s w' := by
  obtain ⟨ov', zv', h1, h2, h3, h4, k⟩ := h
  exact ⟨ov', zv', h1, h2, h3, h4, ((Keeps.refl (fun x => x = b) w).drew).trans k (fun _ _ e => e)⟩

section
variable {w : World} {b : Nat} {s : List Nat} {root lone : Int} {R : Nat → Prop} (h : MapAt w b s root lone R)
include h

set_option maxRecDepth 100000 in
set_option maxHeartbeats 1000000 in
theorem mapVertices_any : Calls Tryz.prog 11 #[.pointer (some ⟨b, 0, none⟩)] w fun e w' => e = .returned (.int .i64 ((ldr (sg s) s.length : Nat) + lone)) ∧ MapQ w b s root lone R w' := by
  obtain ⟨bp, sv, d1, o1, z1, nb, hp, hT, hbp, hsv, hfin⟩ := h.nb1
  have hN : Calls Tryz.prog 31 #[.pointer (some ⟨b, 0, none⟩)] w.drew _ := count_any b 0 _ _ bp d1 o1 z1 sv s w.drew nb (hT.keeps ((Keeps.refl (fun _ => False) w).drew) (fun _ _ h => h)) (hp.keeps ((Keeps.refl (fun _ => False) w).drew) (fun h => h) (fun _ _ h => h)) hbp hsv h.isP (by have := h.le; omega)
  obtain ⟨bp', bq, sv', tv, d1', d2, o1', z1', o2, z2, h1, _⟩ := h.ex
  have c13 : w.drew.cell? ⟨b, 13, none⟩ = some (.int .i64 lone) := World.cell_of_heap h1 13
  have hll := ldr_le (sg s) s.length
  have hle := h.le
  have hln := h.ln
  have hN2 : Calls Tryz.prog 31 #[.pointer (some ⟨b, 0, none⟩)] w.drew fun e w' => e = .returned (.int .i64 (ldr (sg s) s.length : Nat)) ∧ MapQ w b s root lone R w' := hN.mono (fun e w' hh => ⟨hh.1, hfin w' hh.2.ofDrew⟩)
  have HC : Hid (∀ w', MapQ w b s root lone R w' → w'.cell? ⟨b, 13, none⟩ = some (.int .i64 lone)) := Lib.hid (fun w' hq => by
    obtain ⟨_, _, _, _, _, _, _, _, _, _, h1, _⟩ := hq.1.ex
    exact World.cell_of_heap h1 13)
  clear h nb hT hp hbp hsv hfin h1 hN
  generalize ldr (sg s) s.length = v at *
  go_enter Tryz.func11, Tryz.ntmps11
  go_wp2_with fail
  have hsum : IntKind.i64.wrap ((v : Int) + lone) = (v : Int) + lone := IntWalk.i64_in _ (by omega)
  go_region_held3 (fun w' => w'.cell? ⟨b, 13, none⟩ = some (.int .i64 lone)) (first | exact c13 | exact d13) (first | (go_at_call 31; refine hN2.mono ?_; rintro e w' ⟨rfl, hq⟩; have d13 := HC.out _ hq; have HQ := Lib.hid hq; clear hq))
  clear hsum
  all_goals
    go_wp2
    go_ret
    exact ⟨rfl, HQ.out⟩
end

set_option maxRecDepth 100000 in
set_option maxHeartbeats 2000000 in
theorem mapSame_eq {w : World} {b c : Nat} {s : List Nat} {root lone : Int} {R Q : Nat → Prop} (h : MapAt w b s root lone R) (k : MapAt w c s root lone Q) (hl : s.length ≤ 100000) :
    Calls Tryz.prog 16 #[.pointer (some ⟨b, 0, none⟩), .pointer (some ⟨c, 0, none⟩)] w fun e w' => e = .returned (.bool true) ∧ Keeps (fun _ => False) w w' := by
  obtain ⟨bp, bq, sv, tv, d1, d2, o1, z1, o2, z2, h1, h2, h3, _⟩ := h.ex
  obtain ⟨bp', bq', sv', tv', d1', d2', o1', z1', o2', z2', k1, k2, k3, _⟩ := k.ex
  have HC : Hid (∀ w', Keeps (fun _ => False) w w' → w'.cell? ⟨b, 0, none⟩ = some (.pointer (some ⟨bp, 0, none⟩)) ∧ w'.cell? ⟨b, 12, none⟩ = some (.int .i64 root) ∧ w'.cell? ⟨b, 13, none⟩ = some (.int .i64 lone) ∧
      w'.cell? ⟨c, 0, none⟩ = some (.pointer (some ⟨bp', 0, none⟩)) ∧ w'.cell? ⟨c, 12, none⟩ = some (.int .i64 root) ∧ w'.cell? ⟨c, 13, none⟩ = some (.int .i64 lone)) := Lib.hid (fun w' hk =>
    ⟨World.cell_of_heap (hk.at h1 (fun h => h)) 0, World.cell_of_heap (hk.at h1 (fun h => h)) 12, World.cell_of_heap (hk.at h1 (fun h => h)) 13, World.cell_of_heap (hk.at k1 (fun h => h)) 0, World.cell_of_heap (hk.at k1 (fun h => h)) 12, World.cell_of_heap (hk.at k1 (fun h => h)) 13⟩)
  have kd := (Keeps.refl (fun _ => False) w).drew
  have hS := permSame_eq bp bp' sv sv' s w.drew (h2.keeps kd (fun h => h) (fun _ _ h => h)) (k2.keeps kd (fun h => h) (fun _ _ h => h)) hl
  obtain ⟨e1, e2, e3, e4, e5, e6⟩ := HC.out _ kd
  clear h k h1 h2 h3 k1 k2 k3
  have hr : (root == root) = true := by simp
  have hn : (lone == lone) = true := by simp
  have HKD := Lib.hid kd
  clear kd
  go_enter Tryz.func16, Tryz.ntmps16
  go_wp2_with fail
  go_region_held3 (fun w' => w'.cell? ⟨b, 0, none⟩ = some (.pointer (some ⟨bp, 0, none⟩)) ∧ w'.cell? ⟨b, 12, none⟩ = some (.int .i64 root) ∧ w'.cell? ⟨b, 13, none⟩ = some (.int .i64 lone) ∧ w'.cell? ⟨c, 0, none⟩ = some (.pointer (some ⟨bp', 0, none⟩)) ∧ w'.cell? ⟨c, 12, none⟩ = some (.int .i64 root) ∧ w'.cell? ⟨c, 13, none⟩ = some (.int .i64 lone)) (first | exact ⟨e1, e2, e3, e4, e5, e6⟩ | exact ⟨f1, f2, f3, f4, f5, f6⟩) (first | (go_at_call 35; refine hS.mono ?_; rintro e w' ⟨rfl, hk⟩; obtain ⟨f1, f2, f3, f4, f5, f6⟩ := HC.out _ (HKD.out.trans hk (fun _ _ h => h)); have HK := Lib.hid (HKD.out.trans hk (fun _ _ h => h)); clear hk))
  all_goals
    go_wp2
    go_ret
    exact ⟨rfl, HK.out⟩

end Go.Proofs.YtblkkcpeodoclaaGreatDoor

/- dart.New: a map is made of turns. -/
namespace Go.Proofs.YtblkkcpeodoclaaGreatDoor
open Go.RowKit

/-- What a map that is made leaves. -/
def MadeMap (w : World) (s : List Nat) (root lone : Int) (e : Ending) (w' : World) : Prop :=
  ∃ b, e = .returned (.tuple #[.pointer (some ⟨b, 0, none⟩), .int .i64 0]) ∧ MapAt w' b s root lone (fun x => w.heap.size ≤ x ∧ x < w'.heap.size ∧ x ≠ b) ∧ w.heap.size ≤ b ∧ Keeps (fun _ => False) w w'

/-- The turns along faces, as far as j. -/
def PhJ (s : List Nat) (j : Nat) (zs : List Int) : Prop := ∀ i, i < j → zs[i]? = some ((sg s (mt i) : Nat) : Int)
theorem PhJ.step {s : List Nat} {j : Nat} {zs : List Int} (hj : j < zs.length) (h : PhJ s j zs) : PhJ s (j + 1) (zs.set j ((sg s (mt j) : Nat) : Int)) := fun i hi => by
  rw [List.getElem?_set]
  by_cases e : j = i
  · subst e; rw [if_pos rfl, if_pos hj]
  · rw [if_neg e]; exact h i (by omega)
theorem PhJ.done {s : List Nat} {zs : List Int} (hl : zs.length = s.length) (h : PhJ s s.length zs) : zs = nats (phiL s) := by
  apply List.ext_getElem?
  intro i
  rcases Nat.lt_or_ge i s.length with hi | hi
  · rw [h i hi]; simp [nats, phiL, hi]
  · rw [List.getElem?_eq_none (by omega), List.getElem?_eq_none (by rw [nats_len, phiL_length]; omega)]

set_option maxRecDepth 100000 in
set_option maxHeartbeats 4000000 in
theorem new_some (lv : Value) (s : List Nat) (r l : Nat) (w : World) (hs : Sl .i64 w lv (nats s)) (hP : IsP s.length (sg s)) (he : s.length % 2 = 0) (hr : r < s.length) (hle : s.length ≤ 131072) (hln : l ≤ 65536) :
    Calls Tryz.prog 15 #[lv, .int .i64 r, .int .i64 l] w (MadeMap w s r l) := by
  have hO := permOf_any lv s w hs hP (by omega)
  have HS : Hid (∀ W, Keeps (fun _ => False) w W → Sl .i64 W lv (nats s)) := Lib.hid (fun W hk => hs.keeps hk (fun _ _ h => h))
  have HP := Lib.hid (And.intro hP he)
  obtain ⟨a, cap, rfl, hnc, hcm⟩ := hs.form
  rw [nats_len] at hnc HS hO ⊢
  obtain ⟨m, hm⟩ : ∃ m, s.length = 2 * m := ⟨s.length / 2, by omega⟩
  have q1 : ((s.length : Int).tmod 2 == 1) = false := by rw [beq_eq_false_iff_ne, Int.tmod_eq_emod_of_nonneg (by omega)]; omega
  have q2 : ((s.length : Int) % 2 == 1) = false := by rw [beq_eq_false_iff_ne]; omega
  have q3 : ((s.length : Int) == 0) = false := by rw [beq_eq_false_iff_ne]; omega
  have q4 : decide ((0 : Int) < (s.length : Int)) = true := decide_eq_true (by omega)
  have q4' : decide (0 < s.length) = true := decide_eq_true (by omega)
  have q5 : decide ((r : Int) < 0) = false := decide_eq_false (by omega)
  have q6 : decide (s.length ≤ r) = false := decide_eq_false (by omega)
  have q7 : decide ((l : Int) < 0) = false := decide_eq_false (by omega)
  have q8 : decide ((65536 : Int) < (s.length : Int) / 2) = false := decide_eq_false (by omega)
  have q9 : decide ((65536 : Int) < (l : Int)) = false := decide_eq_false (by omega)
  obtain ⟨i, hi, hz0, hz1, hz2⟩ := info_parts infoInt
  have hmk := fun w => run_make (P := Tryz.prog) w 33 3 i _ Tryz.underlying33 hi hz0 .i64 .i64 (s.length : Int) (s.length : Int) (by omega) (Int.le_refl _) (by rw [hz2]; omega) (by omega)
  simp only [hz1, Int.toNat_natCast, Nat.mul_one] at hmk
  have HM := Lib.hid hm
  clear hm hP hs he hi hz0 hz1 hz2
  go_enter Tryz.func15, Tryz.ntmps15
  go_wp2_with fail
  refine hO.mono ?_
  rintro e w1 ⟨bp, sv, rfl, hPA, hbp, hsv, hk1⟩
  have H1 := Lib.hid (And.intro hPA (And.intro hbp (And.intro hsv hk1)))
  have h0 := MadeS.made w1 s.length (PhJ s 0) (fun i hi => by omega) (by omega)
  clear hO hPA hbp hsv hk1
  go_wp2_with fail
  clear hmk
  generalize hwM : World.alloc _ _ = wM at *
  clear hwM
  obtain ⟨g, hg⟩ : ∃ g, g = w1.heap.size := ⟨_, rfl⟩
  rw [← hg] at h0
  rw [← hg]
  clear hg
  go_loopg [66] s.length (fun m i wr => ∃ j : Nat, j ≤ s.length ∧ m = s.length - j ∧ i = .int .i64 j ∧ MadeS w1 g s.length (PhJ s j) wr)
  case atStart => exact ⟨0, Nat.zero_le _, rfl, rfl, h0⟩
  case round =>
    clear h0
    obtain ⟨j, hj, hgk, rfl, hM⟩ := hrel
    have HG := Lib.hid hgk
    clear hgk
    by_cases hlt : j < s.length
    · obtain ⟨_, _, _, _, hkw⟩ := id hM
      have hml := mt_lt HP.out.2 hlt
      have hx := xor_i64 j (by omega)
      obtain ⟨gs, off, rfl, hcell⟩ := (HS.out wr (H1.out.2.2.2.trans hkw (fun _ _ h => h))).cellAt (nats_at hml)
      obtain ⟨z, _, hc, hf⟩ := hM.cell j hlt
      have HN := Lib.hid (hM.set (Q := PhJ s (j + 1)) j ((sg s (mt j) : Nat) : Int) (fun zs hzl h => h.step (by omega)))
      clear hM hkw
      generalize sg s (mt j) = x at *
      generalize mt j = y at *
      go_wp2
      go_roundg (s.length - (j + 1))
      case measure => rw [HG.out]; omega
      case rel => exact ⟨j + 1, by omega, rfl, by go_num, HN.out⟩
    · obtain rfl : j = s.length := by omega
      have hM2 := hM
      obtain ⟨zs, hz1, hz2, hz3, hk2⟩ := hM2
      have hz4 := PhJ.done hz1 hz2
      subst hz4
      have hO2 := permOf_any (.slice (some ⟨g, 0, none⟩) s.length s.length) (phiL s) wr hz3.sl (phi_isP HP.out.1 HP.out.2) (by rw [phiL_length]; omega)
      have H2 := Lib.hid hk2
      clear hM hz1 hz2 hz3 hk2
      go_wp2_with fail
      refine hO2.mono ?_
      rintro e w3 ⟨bq, tv, rfl, hPB, hbq, htv, hk3⟩
      obtain ⟨B, hB⟩ : ∃ B, B = mapCells bp false (.slice none 0 0) (.slice none 0 0) bq false (.slice none 0 0) (.slice none 0 0) r l := ⟨_, rfl⟩
      have hb := heap_alloc_new w3 (.cells B 77)
      have k4 := (Keeps.refl (fun _ => False) w3).alloc (.cells B 77)
      have hk13 := H2.out.trans hk3 (fun _ _ h => h)
      have hk14 := hk13.trans k4 (fun _ _ h => h)
      have hk04 := H1.out.2.2.2.trans hk14 (fun _ _ h => h)
      have s1 := H1.out.2.2.2.size
      have s2 := H2.out.size
      have s3 := hk3.size
      have hA := H1.out.1
      have hA4 := hA.keeps hk14 (fun h => h) (fun _ _ h => h)
      have hB4 := hPB.keeps k4 (fun h => h) (fun _ _ h => h)
      have hMA : MapAt (w3.alloc (.cells B 77)) w3.heap.size s r l (fun x => w.heap.size ≤ x ∧ x < (w3.alloc (.cells B 77)).heap.size ∧ x ≠ w3.heap.size) := by
        refine ⟨⟨bp, bq, sv, tv, false, false, _, _, _, _, by rw [hb, hB], hA4, hB4, ⟨rfl, rfl⟩, ⟨rfl, rfl⟩, ?_, ?_, fun k hk => ?_⟩, HP.out.1, HP.out.2, hle, .inr ⟨by omega, by omega⟩, ⟨by omega, by omega⟩, fun x hx => hx.2.1, fun hx => hx.2.2 rfl⟩
        · have := hA.lt; have := H1.out.2.1; simp; omega
        · have := hPB.lt; simp; omega
        · have hh : w.heap.size ≤ k ∧ k < w3.heap.size := by
            rcases hk with e | e | e | e | e | e
            · have := H1.out.2.2.1 k e; have := (hA.2.2 k e).2; omega
            · have := htv k e; have := (hPB.2.2 k e).2; omega
            · simp [Value.ownBlock] at e
            · simp [Value.ownBlock] at e
            · simp [Value.ownBlock] at e
            · simp [Value.ownBlock] at e
          simp; omega
      rw [hB] at hMA hk04
      have HF := Lib.hid (show MadeMap w s r l (.returned (.tuple #[.pointer (some ⟨w3.heap.size, 0, none⟩), .int .i64 0])) _ from ⟨_, rfl, hMA, by omega, hk04⟩)
      clear hO2 hPB hbq htv hk3 hB hb k4 hk13 hk14 hk04 hA hA4 hB4 hMA s1 s2 s3
      go_wp2
      go_ret2
      exact HF.out

theorem isP_zero (S : Nat → Nat) : IsP 0 S := ⟨fun d hd => by omega, fun d e hd => by omega⟩

set_option maxRecDepth 100000 in
set_option maxHeartbeats 4000000 in
theorem new_none (lv : Value) (l : Nat) (w : World) (hs : Sl .i64 w lv []) (hln : l ≤ 65536) :
    Calls Tryz.prog 15 #[lv, .int .i64 (-1), .int .i64 l] w (MadeMap w [] (-1) l) := by
  have hO := permOf_any lv [] w hs (isP_zero _) (by simp)
  obtain ⟨a, cap, rfl, hnc, hcm⟩ := hs.form
  simp only [List.length_nil] at hnc hO ⊢
  have q7 : decide ((l : Int) < 0) = false := decide_eq_false (by omega)
  have q9 : decide ((65536 : Int) < (l : Int)) = false := decide_eq_false (by omega)
  obtain ⟨i, hi, hz0, hz1, hz2⟩ := info_parts infoInt
  have hmk := fun w => run_make (P := Tryz.prog) w 33 3 i _ Tryz.underlying33 hi hz0 .i64 .i64 (0 : Int) (0 : Int) (by omega) (Int.le_refl _) (by rw [hz2]; omega) (by omega)
  simp only [hz1, Int.toNat_zero, Nat.mul_one] at hmk
  clear hs hi hz0 hz1 hz2
  go_enter Tryz.func15, Tryz.ntmps15
  go_wp2_with fail
  refine hO.mono ?_
  rintro e w1 ⟨bp, sv, rfl, hPA, hbp, hsv, hk1⟩
  have H1 := Lib.hid (And.intro hPA (And.intro hbp (And.intro hsv hk1)))
  have h0 := MadeS.made w1 0 (fun zs => zs = []) (by simp) (by omega)
  clear hO hPA hbp hsv hk1
  go_wp2_with fail
  clear hmk
  generalize hwM : World.alloc _ _ = wM at *
  clear hwM
  obtain ⟨g, hg⟩ : ∃ g, g = w1.heap.size := ⟨_, rfl⟩
  rw [← hg] at h0
  rw [← hg]
  clear hg
  go_loopg [66] 0 (fun m i wr => m = 0 ∧ i = .int .i64 0 ∧ MadeS w1 g 0 (fun zs => zs = []) wr)
  case atStart => exact ⟨rfl, rfl, h0⟩
  case round =>
    clear h0
    obtain ⟨hgk, rfl, hM⟩ := hrel
    obtain ⟨zs, hz1, hz2, hz3, hk2⟩ := hM
    subst hz2
    have hO2 := permOf_any (.slice (some ⟨g, 0, none⟩) 0 0) (phiL []) wr hz3.sl (isP_zero _) (by simp [phiL])
    have H2 := Lib.hid hk2
    clear hz1 hz3 hk2 hgk
    go_wp2_with fail
    refine hO2.mono ?_
    rintro e w3 ⟨bq, tv, rfl, hPB, hbq, htv, hk3⟩
    obtain ⟨B, hB⟩ : ∃ B, B = mapCells bp false (.slice none 0 0) (.slice none 0 0) bq false (.slice none 0 0) (.slice none 0 0) (-1) l := ⟨_, rfl⟩
    have hb := heap_alloc_new w3 (.cells B 77)
    have k4 := (Keeps.refl (fun _ => False) w3).alloc (.cells B 77)
    have hk13 := H2.out.trans hk3 (fun _ _ h => h)
    have hk14 := hk13.trans k4 (fun _ _ h => h)
    have hk04 := H1.out.2.2.2.trans hk14 (fun _ _ h => h)
    have s1 := H1.out.2.2.2.size
    have s2 := H2.out.size
    have s3 := hk3.size
    have hA := H1.out.1
    have hA4 := hA.keeps hk14 (fun h => h) (fun _ _ h => h)
    have hB4 := hPB.keeps k4 (fun h => h) (fun _ _ h => h)
    have hMA : MapAt (w3.alloc (.cells B 77)) w3.heap.size [] (-1) l (fun x => w.heap.size ≤ x ∧ x < (w3.alloc (.cells B 77)).heap.size ∧ x ≠ w3.heap.size) := by
      refine ⟨⟨bp, bq, sv, tv, false, false, _, _, _, _, by rw [hb, hB], hA4, hB4, ⟨rfl, rfl⟩, ⟨rfl, rfl⟩, ?_, ?_, fun k hk => ?_⟩, isP_zero _, rfl, by simp, .inl ⟨rfl, rfl⟩, ⟨by omega, by omega⟩, fun x hx => hx.2.1, fun hx => hx.2.2 rfl⟩
      · have := hA.lt; have := H1.out.2.1; simp; omega
      · have := hPB.lt; simp; omega
      · have hh : w.heap.size ≤ k ∧ k < w3.heap.size := by
          rcases hk with e | e | e | e | e | e
          · have := H1.out.2.2.1 k e; have := (hA.2.2 k e).2; omega
          · have := htv k e; have := (hPB.2.2 k e).2; omega
          · simp [Value.ownBlock] at e
          · simp [Value.ownBlock] at e
          · simp [Value.ownBlock] at e
          · simp [Value.ownBlock] at e
        simp; omega
    rw [hB] at hMA hk04
    have HF := Lib.hid (show MadeMap w [] (-1) l (.returned (.tuple #[.pointer (some ⟨w3.heap.size, 0, none⟩), .int .i64 0])) _ from ⟨_, rfl, hMA, by omega, hk04⟩)
    clear hO2 hPB hbq htv hk3 hB hb k4 hk13 hk14 hk04 hA hA4 hB4 hMA s1 s2 s3
    go_wp2
    go_ret2
    exact HF.out

end Go.Proofs.YtblkkcpeodoclaaGreatDoor
