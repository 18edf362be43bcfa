/- The references of layers 8 and 12: Genus; Encode. -/
import Derived.Test.YtipelclohcdkcaaGreatWalk9b
namespace Go.Proofs.YtipelclohcdkcaaGreat
open Go.RowKit

/-- The genus of all parts. -/
def genS (ps : List (List Int)) : Int := (ps.map fun p => p.getD 4 0).sum

theorem genS_succ {ps : List (List Int)} {j : Nat} {p : List Int} (h : ps[j]? = some p) : genS (ps.take (j + 1)) = genS (ps.take j) + p.getD 4 0 := by
  unfold genS
  rw [take_get h, List.map_append, List.sum_append]
  simp

/-- Rows of five numbers, the last one not great. -/
def Row5 (ps : List (List Int)) : Prop := ∀ p ∈ ps, ∃ z0 z1 z2 z3 z4 : Int, p = [z0, z1, z2, z3, z4] ∧ -9000000 ≤ z4 ∧ z4 ≤ 9000000

theorem genS_bound {ps : List (List Int)} (h : Row5 ps) : ∀ j, j ≤ ps.length → -9000000 * (j : Int) ≤ genS (ps.take j) ∧ genS (ps.take j) ≤ 9000000 * (j : Int) := by
  intro j
  induction j with
  | zero => intro _; simp [genS]
  | succ j ih =>
    intro hj
    obtain ⟨h1, h2⟩ := ih (by omega)
    have hp := List.getElem?_eq_getElem (l := ps) (i := j) (by omega)
    rw [genS_succ hp]
    obtain ⟨z0, z1, z2, z3, z4, he, h3, h4⟩ := h _ (List.mem_of_getElem? hp)
    rw [he]
    simp only [List.getD_cons_succ, List.getD_cons_zero]
    omega

theorem partsA_row5 (s : List Nat) (hl : s.length ≤ 1000000) (lone : Nat) : Row5 (partsA s lone) := by
  intro p hp
  rcases List.mem_append.1 hp with hp | hp
  · obtain ⟨d, _, rfl⟩ := List.mem_map.1 hp
    have h1 := ofN_le s (cnL s) (cnum s.length (sg s) d) s.length
    have h2 := ofN_le (phiL s) (cnL s) (cnum s.length (sg s) d) s.length
    have h3 := cntN_le (cnL s) (cnum s.length (sg s) d) s.length
    refine ⟨_, _, _, _, _, rfl, ?_⟩
    unfold ptG ptV ptB ptE
    exact tdiv2_bound (M := 9000000) (by omega) (by omega)
  · obtain ⟨_, rfl⟩ := List.mem_replicate.1 hp
    exact ⟨_, _, _, _, _, rfl, by decide, by decide⟩

theorem partsA_length (s : List Nat) (lone : Nat) : (partsA s lone).length = cldr s.length (sg s) s.length + lone := by
  unfold partsA; rw [List.length_append, partsL_length, List.length_replicate]

set_option maxRecDepth 100000 in
set_option maxHeartbeats 4000000 in
theorem refGenus08_any (sv : Value) (rt : Int) (lone : Nat) (s : List Nat) (w : World) (hs : Sl .i64 w sv (nats s)) (hP : IsP s.length (sg s)) (he : s.length % 2 = 0) (hl : s.length ≤ 1000000) (hlo : lone ≤ 1000000) :
    Calls Tryz.prog 139 #[.agg #[sv, .int .i64 rt, .int .i64 lone]] w fun e w' => e = .returned (.int .i64 (genS (partsA s lone))) ∧ Keeps (fun _ => False) w w' := by
  have k0 : Keeps (fun _ => False) w (w.alloc (.cells #[sv, .int .i64 rt, .int .i64 lone] 72)) := (Keeps.refl _ w).alloc _
  have hb0 : BxM w.heap.size sv rt lone (w.alloc (.cells #[sv, .int .i64 rt, .int .i64 lone] 72)) := heap_alloc_new w _
  have hPt := refParts08_any sv rt lone s _ (hs.keeps k0 (fun _ _ h => h)) hP he hl hlo
  have hR := partsA_row5 s hl lone
  have hn : (partsA s lone).length ≤ 2000000 := by rw [partsA_length]; have := cldr_le s.length (sg s) s.length; omega
  have c0 := hb0.cell
  have c1 : (w.alloc (.cells #[sv, .int .i64 rt, .int .i64 lone] 72)).cell? ⟨w.heap.size, 1, none⟩ = some (.int .i64 rt) := World.cell_of_heap hb0 1
  have c2 : (w.alloc (.cells #[sv, .int .i64 rt, .int .i64 lone] 72)).cell? ⟨w.heap.size, 2, none⟩ = some (.int .i64 lone) := World.cell_of_heap hb0 2
  have HK0 := Lib.hid k0
  generalize partsA s lone = ps at *
  clear hs hP hb0 k0
  go_enter Tryz.func139, Tryz.ntmps139
  go_wp2_with fail
  refine hPt.mono ?_
  rintro e w1 ⟨pv, rfl, hown, hk1⟩
  obtain ⟨pa, pc, rfl⟩ := hown.form
  have HO : Hid (∀ W, Keeps (fun _ => False) w1 W → Own5 214 (w.alloc (.cells #[sv, .int .i64 rt, .int .i64 lone] 72)).heap.size W (.slice pa ps.length pc) ps) := Lib.hid (fun W hk => hown.keeps hk (fun _ _ h => h))
  have hkw := HK0.out.trans hk1 (fun _ _ h => h)
  have HR := Lib.hid (And.intro hR (And.intro (genS_bound hR) hkw))
  have h0 := Keeps.refl (fun _ => False) w1
  clear hPt hown hk1 hkw c0 c1 c2 hR
  generalize hN : ps.length = N at *
  have HN := Lib.hid hN
  clear hN
  go_wp2_with fail
  go_loopg [3, 9] N (fun m c i wr => ∃ j : Nat, j ≤ N ∧ m = N - j ∧ i = .int .i64 j ∧ c = .int .i64 (genS (ps.take j)) ∧ Keeps (fun _ => False) w1 wr)
  case atStart => exact ⟨0, Nat.zero_le _, rfl, rfl, rfl, h0⟩
  case round =>
    clear h0
    obtain ⟨j, hj, hgk, rfl, rfl, hk⟩ := hrel
    have HG := Lib.hid hgk
    clear hgk
    obtain ⟨hb1, hb2⟩ := HR.out.2.1 j hj
    by_cases hlt : j < N
    · have hp := List.getElem?_eq_getElem (l := ps) (i := j) (by rw [HN.out]; exact hlt)
      obtain ⟨p, hpe⟩ : ∃ p, p = ps[j]'(by rw [HN.out]; exact hlt) := ⟨_, rfl⟩
      rw [← hpe] at hp
      clear hpe
      obtain ⟨z0, z1, z2, z3, z4, rfl, hz1, hz2⟩ := HR.out.1 p (List.mem_of_getElem? hp)
      have hgs := genS_succ hp
      simp only [List.getD_cons_succ, List.getD_cons_zero] at hgs
      obtain ⟨g, cap, hv, hcell⟩ := (HO.out wr hk).cell hp
      simp only [Value.slice.injEq] at hv
      obtain ⟨rfl, -, rfl⟩ := hv
      have d0 : wr.cell? ⟨g, j * 5, none⟩ = some (.int .i64 z0) := hcell 0 z0 rfl
      have d1 := hcell 1 z1 rfl
      have d2 := hcell 2 z2 rfl
      have d3 := hcell 3 z3 rfl
      have d4 := hcell 4 z4 rfl
      have HF := Lib.hid (And.intro hgs (hk.alloc (.cells #[.int .i64 z0, .int .i64 z1, .int .i64 z2, .int .i64 z3, .int .i64 z4] 214)))
      clear hgs hk hcell hp
      generalize genS (ps.take j) = S at *
      go_wp2
      go_roundg (N - (j + 1))
      case measure => rw [HG.out]; omega
      case rel => exact ⟨j + 1, by omega, rfl, by go_num, by rw [HF.out.1], HF.out.2⟩
    · obtain rfl : j = N := by omega
      rw [List.take_of_length_le (by rw [HN.out]; exact Nat.le_refl _)]
      have HF := Lib.hid (HR.out.2.2.trans hk (fun _ _ h => h))
      clear hk
      go_wp2
      go_ret
      exact ⟨rfl, HF.out⟩

/-- What Encode says of a map. -/
def EncR (s : List Nat) (lone : Nat) (rt : Int) (ks : List Nat) (c : Nat) : Prop :=
  (cldr s.length (sg s) s.length + lone ≠ 1 ∧ c = 8 ∧ ks = []) ∨
  (cldr s.length (sg s) s.length + lone = 1 ∧ genS (partsA s lone) ≠ 0 ∧ c = 7 ∧ ks = []) ∨
  (cldr s.length (sg s) s.length + lone = 1 ∧ genS (partsA s lone) = 0 ∧ c = 0 ∧ s.length = 0 ∧ ks = []) ∨
  (cldr s.length (sg s) s.length + lone = 1 ∧ genS (partsA s lone) = 0 ∧ c = 0 ∧ ∃ root T : Nat, rt = root ∧ root < s.length ∧ WkEnd s.length (sg s) (vnum (sg s)) root T ∧ ks = kso (wlk (sg s) (vnum (sg s)) root T).2)

set_option maxRecDepth 100000 in
set_option maxHeartbeats 4000000 in
theorem refEncode12_any (sv : Value) (rt : Int) (lone : Nat) (s : List Nat) (w : World) (hs : Sl .i64 w sv (nats s)) (hsv : ∀ k, sv.ownBlock = some k → k < w.heap.size) (hP : IsP s.length (sg s)) (he : s.length % 2 = 0) (hl : s.length ≤ 1000000) (hlo : lone ≤ 1000000) (hrt : 0 < s.length → ∃ r : Nat, rt = r ∧ r < s.length) :
    Calls Tryz.prog 66 #[.agg #[sv, .int .i64 rt, .int .i64 lone]] w fun e w' => ∃ kv ks c, e = .returned (.tuple #[kv, .int .i64 (c : Nat)]) ∧ EncR s lone rt ks c ∧ OwnI w.heap.size w' kv (nats ks) ∧ Keeps (fun _ => False) w w' := by
  have k0 : Keeps (fun _ => False) w (w.alloc (.cells #[sv, .int .i64 rt, .int .i64 lone] 72)) := (Keeps.refl _ w).alloc _
  have hb0 : BxM w.heap.size sv rt lone (w.alloc (.cells #[sv, .int .i64 rt, .int .i64 lone] 72)) := heap_alloc_new w _
  have hPt := refParts08_any sv rt lone s _ (hs.keeps k0 (fun _ _ h => h)) hP he hl hlo
  have HB : Hid (∀ W, Keeps (fun _ => False) (w.alloc (.cells #[sv, .int .i64 rt, .int .i64 lone] 72)) W → BxM w.heap.size sv rt lone W ∧ Sl .i64 W sv (nats s) ∧ Keeps (fun _ => False) w W) := Lib.hid (fun W hk => ⟨hb0.keeps hk (fun h => h), hs.keeps (k0.trans hk (fun _ _ h => h)) (fun _ _ h => h), k0.trans hk (fun _ _ h => h)⟩)
  have c0 := hb0.cell
  have c1 : (w.alloc (.cells #[sv, .int .i64 rt, .int .i64 lone] 72)).cell? ⟨w.heap.size, 1, none⟩ = some (.int .i64 rt) := World.cell_of_heap hb0 1
  have c2 : (w.alloc (.cells #[sv, .int .i64 rt, .int .i64 lone] 72)).cell? ⟨w.heap.size, 2, none⟩ = some (.int .i64 lone) := World.cell_of_heap hb0 2
  have hpl := partsA_length s lone
  have hcl := cldr_le s.length (sg s) s.length
  have HP := Lib.hid (And.intro hP (And.intro hsv hrt))
  obtain ⟨a, cap, rfl, hnc, hcm⟩ := hs.form
  rw [nats_len] at *
  clear hs hP hb0 k0 hsv hrt
  go_enter Tryz.func66, Tryz.ntmps66
  go_wp2_with fail
  refine hPt.mono ?_
  rintro e w1 ⟨pv, rfl, hown, hk1⟩
  obtain ⟨pa, pc, rfl⟩ := hown.form
  rw [hpl]
  obtain ⟨m, hm⟩ : ∃ m, m = cldr s.length (sg s) s.length + lone := ⟨_, rfl⟩
  rw [← hm]
  have hmb : m ≤ 2000000 := by omega
  have HM := Lib.hid hm
  have HK1 := Lib.hid hk1
  clear hPt hown c0 c1 c2 hpl hm hk1
  by_cases hm1 : m = 1
  · have bt : (((m : Nat) : Int) != 1) = false := by simp [hm1]
    have HM1 := Lib.hid hm1
    clear hm1
    obtain ⟨hb1, hs1, _⟩ := HB.out w1 HK1.out
    have c0 := World.cell_of_heap hb1 0
    have c1 := World.cell_of_heap hb1 1
    have c2 := World.cell_of_heap hb1 2
    have hG := refGenus08_any (.slice a s.length cap) rt lone s w1 hs1 HP.out.1 he hl hlo
    clear hb1 hs1
    go_wp2_with fail
    refine hG.mono ?_
    rintro e w2 ⟨rfl, hk2⟩
    have hk12 := HK1.out.trans hk2 (fun _ _ h => h)
    clear hG c0 c1 c2
    obtain ⟨G, hGe⟩ : ∃ G, G = genS (partsA s lone) := ⟨_, rfl⟩
    rw [← hGe]
    have HGE := Lib.hid hGe
    clear hGe
    by_cases hG0 : G = 0
    · have bt2 : ((G : Int) != 0) = false := by simp [hG0]
      have HG0 := Lib.hid hG0
      clear hG0
      obtain ⟨hb1, hs1, hkf⟩ := HB.out w2 hk12
      have c0 := World.cell_of_heap hb1 0
      have c1 := World.cell_of_heap hb1 1
      have c2 := World.cell_of_heap hb1 2
      clear hb1
      by_cases hn : s.length = 0
      · have bt3 : (((s.length : Nat) : Int) == 0) = true := by simp [hn]
        have HF := Lib.hid (And.intro hkf hn)
        clear hs1 hkf hk2 hk12 hn
        go_wp2
        go_ret2
        exact ⟨_, [], 0, rfl, .inr (.inr (.inl ⟨by rw [← HM.out]; exact HM1.out, by rw [← HGE.out]; exact HG0.out, rfl, HF.out.2, rfl⟩)), OwnI.nil _ _, HF.out.1⟩
      · obtain ⟨r, hr, hrn⟩ := HP.out.2.2 (by omega)
        subst hr
        have hsz := hkf.size
        have hWk := refWalk09_any (.slice a s.length cap) r lone r s w2 hs1 (fun k hk => by have := HP.out.2.1 k hk; omega) HP.out.1 he hl hrn
        have bt3 : (((s.length : Nat) : Int) == 0) = false := by rw [beq_eq_false_iff_ne]; omega
        have HKF := Lib.hid hkf
        clear hs1 hkf hk2 hk12
        go_wp2_with fail
        refine hWk.mono ?_
        rintro e w3 ⟨dv, kv, T, rfl, hT, _, hkv, hk3⟩
        have HF := Lib.hid (And.intro (hkv.mono (B' := w.heap.size) (fun q hq => by have := (hkv.lt q hq).1; omega)) (And.intro (HKF.out.trans hk3 (fun _ _ h => h)) hT))
        clear hWk hkv hk3 hT c0 c1 c2
        go_wp2
        go_ret2
        exact ⟨_, _, 0, rfl, .inr (.inr (.inr ⟨by rw [← HM.out]; exact HM1.out, by rw [← HGE.out]; exact HG0.out, rfl, r, T, rfl, hrn, HF.out.2.2, rfl⟩)), HF.out.1, HF.out.2.1⟩
    · have bt2 : ((G : Int) != 0) = true := by rw [bne_iff_ne]; exact hG0
      have HF := Lib.hid (And.intro hG0 (HB.out w2 hk12).2.2)
      clear hk2 hk12 hG0
      go_wp2
      go_ret2
      exact ⟨_, [], 7, rfl, .inr (.inl ⟨by rw [← HM.out]; exact HM1.out, by rw [← HGE.out]; exact HF.out.1, rfl, rfl⟩), OwnI.nil _ _, HF.out.2⟩
  · have bt : (((m : Nat) : Int) != 1) = true := by rw [bne_iff_ne]; omega
    have HF := Lib.hid (And.intro hm1 (HB.out w1 HK1.out).2.2)
    clear hm1
    go_wp2
    go_ret2
    exact ⟨_, [], 8, rfl, .inl ⟨by rw [← HM.out]; exact HF.out.1, rfl, rfl⟩, OwnI.nil _ _, HF.out.2⟩

end Go.Proofs.YtipelclohcdkcaaGreat
