/- The contracts of package perm: permutations as lists, asked and made. -/
import Derived.Test.YtipelclohcdkcaaGreatClone
import Derived.Test.YtipelclohcdkcaaGreatVx
import Derived.RegionTactic
namespace Go.Proofs.YtipelclohcdkcaaGreat
open Go.RowKit

/-- A permutation in memory: where each goes; what of it was asked is left open. -/
def PermAt (w : World) (b : Nat) (sv : Value) (s : List Nat) : Prop :=
  (∃ c1 c2 c3 c4, w.heap[b]? = some (.cells #[sv, c1, c2, c3, c4] 210 (0, 0))) ∧ Sl .i64 w sv (nats s) ∧ (∀ k, sv.ownBlock = some k → k ≠ b ∧ k < w.heap.size)

theorem PermAt.lt {w : World} {b : Nat} {sv : Value} {s : List Nat} (h : PermAt w b sv s) : b < w.heap.size := by
  obtain ⟨⟨_, _, _, _, hb⟩, _⟩ := h
  exact lt_of_block hb

theorem PermAt.keeps {w w' : World} {F : Nat → Prop} {b : Nat} {sv : Value} {s : List Nat} (h : PermAt w b sv s) (k : Keeps F w w') (hb : ¬ F b) (hv : ∀ k, sv.ownBlock = some k → ¬ F k) : PermAt w' b sv s := by
  obtain ⟨⟨c1, c2, c3, c4, h1⟩, h2, h3⟩ := h
  exact ⟨⟨c1, c2, c3, c4, k.at h1 hb⟩, h2.keeps k hv, fun q hq => ⟨(h3 q hq).1, Nat.lt_of_lt_of_le (h3 q hq).2 k.size⟩⟩

theorem permLen_any (b : Nat) (sv : Value) (s : List Nat) (w : World) (h : PermAt w b sv s) :
    Calls Tryz.prog 142 #[.pointer (some ⟨b, 0, none⟩)] w fun e w' => e = .returned (.int .i64 s.length) ∧ w = w' := by
  obtain ⟨⟨c1, c2, c3, c4, hb⟩, hs, _⟩ := h
  have h0 : w.cell? ⟨b, 0, none⟩ = some sv := World.cell_of_heap hb 0
  obtain ⟨a, cap, rfl, hnc, hcm⟩ := hs.form
  rw [nats_len] at h0 hnc
  clear hb hs
  go_enter Tryz.func142, Tryz.ntmps142
  go_wp2
  go_ret
  exact ⟨rfl, rfl⟩

theorem permAt_in (b : Nat) (sv : Value) (s : List Nat) (i : Nat) (w : World) (h : PermAt w b sv s) (hi : i < s.length) :
    Calls Tryz.prog 158 #[.pointer (some ⟨b, 0, none⟩), .int .i64 i] w fun e w' => e = .returned (.int .i64 (sg s i : Nat)) ∧ w = w' := by
  have hL := permLen_any b sv s w h
  obtain ⟨⟨c1, c2, c3, c4, hb⟩, hs, _⟩ := h
  have h0 : w.cell? ⟨b, 0, none⟩ = some sv := World.cell_of_heap hb 0
  obtain ⟨a, cap, rfl, hnc, hcm⟩ := hs.form
  rw [nats_len] at h0 hnc hs
  obtain ⟨g, off, rfl, hcell⟩ := hs.cellAt (nats_at hi)
  clear hb hs
  generalize sg s i = x at *
  generalize s.length = n at *
  go_enter Tryz.func158, Tryz.ntmps158
  go_wp2_with (go_at_call 142; refine hL.mono ?_; rintro e w' ⟨rfl, rfl⟩)
  go_ret
  exact ⟨rfl, rfl⟩

theorem permAt_out (b : Nat) (sv : Value) (s : List Nat) (i : Int) (w : World) (h : PermAt w b sv s) (hi : ¬ (0 ≤ i ∧ i < s.length)) :
    Calls Tryz.prog 158 #[.pointer (some ⟨b, 0, none⟩), .int .i64 i] w fun e w' => e = .returned (.int .i64 (-1)) ∧ w = w' := by
  have hL := permLen_any b sv s w h
  clear h
  generalize s.length = n at *
  by_cases h0 : i < 0
  · have t0 : decide (i < 0) = true := decide_eq_true h0
    clear hi
    go_enter Tryz.func158, Tryz.ntmps158
    go_wp2_with (go_at_call 142; refine hL.mono ?_; rintro e w' ⟨rfl, rfl⟩)
    go_ret
    exact ⟨rfl, rfl⟩
  · have t0 : decide (i < 0) = false := decide_eq_false h0
    have t1 : decide ((n : Int) ≤ i) = true := decide_eq_true (by omega)
    clear hi
    go_enter Tryz.func158, Tryz.ntmps158
    go_wp2_with (go_at_call 142; refine hL.mono ?_; rintro e w' ⟨rfl, rfl⟩)
    go_ret
    exact ⟨rfl, rfl⟩

theorem permList_any (b : Nat) (sv : Value) (s : List Nat) (w : World) (h : PermAt w b sv s) (hl : s.length ≤ 1000000) :
    Calls Tryz.prog 145 #[.pointer (some ⟨b, 0, none⟩)] w fun e w' => ∃ v, e = .returned v ∧ OwnI w.heap.size w' v (nats s) ∧ Keeps (fun _ => False) w w' := by
  obtain ⟨⟨c1, c2, c3, c4, hb⟩, hs, _⟩ := h
  have h0 : w.cell? ⟨b, 0, none⟩ = some sv := World.cell_of_heap hb 0
  have hC := clone_any sv (nats s) w hs (by rw [nats_len]; omega)
  clear hb hs
  go_enter Tryz.func145, Tryz.ntmps145
  go_wp2_with fail
  refine hC.mono ?_
  rintro e w1 ⟨v, rfl, hown, hk⟩
  have HF := Lib.hid (And.intro hown hk)
  clear hC hown hk
  go_wp2
  go_ret
  exact ⟨_, rfl, HF.out⟩

set_option maxRecDepth 100000 in
set_option maxHeartbeats 2000000 in
theorem permOrbit_any (b : Nat) (sv : Value) (s : List Nat) (d : Nat) (w : World) (hp : PermAt w b sv s) (hP : IsP s.length (sg s)) (hd : d < s.length) (hl : s.length ≤ 1000000) :
    Calls Tryz.prog 214 #[.pointer (some ⟨b, 0, none⟩), .int .i64 d] w fun e w' => ∃ v, e = .returned v ∧ OwnI w.heap.size w' v (nats (orb (sg s) d)) ∧ Keeps (fun _ => False) w w' := by
  have hL := permLen_any b sv s w hp
  have HS : Hid (∀ W, Keeps (fun _ => False) w W → PermAt W b sv s) := Lib.hid (fun W hk => hp.keeps hk (fun h => h) (fun _ _ h => h))
  have hblt := hp.lt
  obtain ⟨⟨c1, c2, c3, c4, hb⟩, hs, hsv⟩ := hp
  have hb0 : w.cell? ⟨b, 0, none⟩ = some sv := World.cell_of_heap hb 0
  obtain ⟨a, cap, rfl, hnc, hcm⟩ := hs.form
  rw [nats_len] at hnc hs hb0 HS hsv
  obtain ⟨p1, p2, p3, p4⟩ := hP.per_spec hd
  obtain ⟨g, off, rfl, hcell⟩ := hs.cellAt (nats_at hd)
  have hgw := World.block_lt_of_cell? _ _ hcell
  have HP := Lib.hid (And.intro hP (And.intro p3 p4))
  have h0 : OwnI w.heap.size (w.alloc (.cells #[.int .i64 d] 3)) (.slice (some ⟨w.heap.size, 0, none⟩) 1 1) (nats (orbK (sg s) d 1)) ∧ Keeps (fun _ => False) w (w.alloc (.cells #[.int .i64 d] 3)) :=
    ⟨own_one w d, (Keeps.refl _ w).alloc _⟩
  have hcA := alloc_cell hcell (.cells #[.int .i64 d] 3)
  have hcB := alloc_cell hb0 (.cells #[.int .i64 d] 3)
  have hdl : decide (s.length ≤ d) = false := decide_eq_false (by omega)
  have hd0 : decide ((d : Int) < 0) = false := decide_eq_false (by omega)
  clear hb hs hP p3 p4 hcell hb0 hsv
  go_enter Tryz.func214, Tryz.ntmps214
  go_wp2_with (go_at_call 142; refine hL.mono ?_; rintro e w' ⟨rfl, rfl⟩)
  clear hcA hcB hL
  generalize World.alloc _ _ = wM at *
  go_loopg [5, 6] (per (sg s) d) (fun m ov x wr => ∃ k : Nat, k + 1 ≤ per (sg s) d ∧ m = per (sg s) d - k ∧ x = .int .i64 (itr (sg s) (k + 1) d : Nat) ∧ OwnI w.heap.size wr ov (nats (orbK (sg s) d (k + 1))) ∧ Keeps (fun _ => False) w wr)
  case atStart => exact ⟨0, p1, rfl, rfl, h0⟩
  case round =>
    clear h0
    obtain ⟨k, hk, hgk, rfl, hown, hkw⟩ := hrel
    have HG := Lib.hid hgk
    clear hgk
    by_cases hlt : k + 1 < per (sg s) d
    · have hne := HP.out.2.2 (k + 1) (by omega) hlt
      have hxl := HP.out.1.itr_lt hd (k + 1)
      have hst := orbK_succ (sg s) d (k + 1)
      have hlen := orbK_length (sg s) d (k + 1)
      have hpw := HS.out wr hkw
      obtain ⟨⟨d1, d2, d3, d4, hbw⟩, hsw, _⟩ := hpw
      have hcell := hsw.cellOf (nats_at hxl)
      have hnext : sg s (itr (sg s) (k + 1) d) = itr (sg s) (k + 1 + 1) d := rfl
      rw [hnext] at hcell
      have hfo := hown.form
      rw [nats_len, hlen] at hfo
      obtain ⟨la, lc, rfl, _, _⟩ := hfo
      generalize hy : itr (sg s) (k + 1 + 1) d = y at *
      generalize hx : itr (sg s) (k + 1) d = x at *
      have hnb : (((x : Nat) : Int) != ((d : Nat) : Int)) = true := by rw [bne_iff_ne]; omega
      have HN : Hid ((nats (orbK (sg s) d (k + 1))).length = k + 1) := Lib.hid (by rw [nats_len]; exact hlen)
      have hsz := hkw.size
      have HH := Lib.hid (And.intro hx (And.intro hst hkw))
      have HY := Lib.hid hy
      have hkl : k + 1 ≤ 10000000000 := by omega
      have hown2 := hown.lt
      have HCL : Hid (∀ W, Keeps (fun q => (Value.slice la (k + 1) lc).ownBlock = some q) wr W → W.cell? ⟨g, off + x, none⟩ = some (.int .i64 y) ∧ W.cell? ⟨b, 0, none⟩ = some (.slice (some ⟨g, off, none⟩) s.length cap)) := Lib.hid (fun W hk => by
        refine ⟨?_, World.cell_of_heap (hk.at hbw (fun e => by have := (hown2 b e).1; omega)) 0⟩
        rw [World.cell?_of_block (w := wr) (hk.block g (World.block_lt_of_cell? _ _ hcell) (fun e => by have := (hown2 g e).1; omega))]
        exact hcell)
      clear hsw hbw hx hy hst hlen hkw hne hnext hcell hown2
      go_wp2_with (at_builtin; refine append1n (k + 1) rfl _ _ rfl w.heap.size (.slice la (k + 1) lc) (nats (orbK (sg s) d (k + 1))) (x : Nat) HN wr.heap.size rfl rfl rfl hown hkl hsz ?_; intro g2 cap2 w3 hown3 hk3 hat hg; have hcell3 := (HCL.out w3 hk3).1; have hcell4 := (HCL.out w3 hk3).2)
      have hkf := HH.out.2.2.trans hk3 (fun y hy h => by have := (hown.lt y h).1; omega)
      rw [← nats_snoc] at hown3
      have hst := HH.out.2.1
      rw [← hst] at hown3
      have HF := Lib.hid (And.intro hown3 hkf)
      clear hown3 hkf hk3 hat hown hst hcell3 hcell4
      go_roundg (per (sg s) d - (k + 1))
      case measure => rw [HG.out]; omega
      case rel => exact ⟨k + 1, by omega, rfl, by rw [HY.out], HF.out⟩
    · have hpe : k + 1 = per (sg s) d := by omega
      have hx : itr (sg s) (k + 1) d = d := by rw [hpe]; exact HP.out.2.1
      have ho : orbK (sg s) d (k + 1) = orb (sg s) d := by rw [hpe]; rfl
      rw [ho] at hown
      rw [hx]
      have HF := Lib.hid (And.intro hown hkw)
      clear hx ho hown hkw
      go_wp2
      go_ret
      exact ⟨_, rfl, HF.out⟩

end Go.Proofs.YtipelclohcdkcaaGreat
