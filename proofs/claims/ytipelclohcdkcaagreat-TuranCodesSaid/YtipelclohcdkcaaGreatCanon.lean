/- Package canon: a map of one part by its darts' names. -/
import Derived.Test.YtipelclohcdkcaaGreatRelab
import Derived.Test.YtipelclohcdkcaaGreatCanonP
namespace Go.Proofs.YtipelclohcdkcaaGreat
open Go.RowKit

section
variable {w : World} {b : Nat} {s : List Nat} {r : Nat} {R : Nat → Prop} (h : MapAt w b s r 0 R) (hn : 0 < s.length) (hc : cldr s.length (sg s) s.length = 1)
include h hn hc

set_option maxRecDepth 100000 in
set_option maxHeartbeats 4000000 in
theorem roots_one : Calls Tryz.prog 150 #[.pointer (some ⟨b, 0, none⟩)] w fun e w' => ∃ g, e = .returned (.slice (some ⟨g, 0, none⟩) 1 1) ∧ w'.cell? ⟨g, 0, none⟩ = some (.int .i64 r) ∧ w.heap.size ≤ g ∧ g < w'.heap.size ∧ ∃ R', MapAt w' b s r 0 R' ∧ (∀ x, R' x → R x ∨ (w.heap.size ≤ x ∧ x < w'.heap.size)) ∧ ¬ R' g ∧ Keeps (fun k => k = b) w w' := by
  have hr : r < s.length := by
    rcases h.rt with ⟨h0, _⟩ | ⟨_, h1⟩ <;> omega
  have hD := mapDarts_any h
  have hN := eulerNames_any h
  have hle := h.le
  have hcr : cnum s.length (sg s) r = 0 := by have := h.isP.cnum_lt h.even hr; omega
  have HH := Lib.hid h
  have HC := Lib.hid hc
  have q0 : ((s.length : Int) == 0) = false := by rw [beq_eq_false_iff_ne]; omega
  clear h hc
  go_enter Tryz.func150, Tryz.ntmps150
  go_wp2_with fail
  refine hD.mono ?_
  rintro e w' ⟨rfl, rfl⟩
  clear hD
  go_wp2_with fail
  refine hN.mono ?_
  rintro e w1 ⟨g1, rfl, zs, hzl, hz, hown, hk1⟩
  have hcell : w1.cell? ⟨g1, r, none⟩ = some (.int .i64 (0 : Nat)) := by
    refine (hown.cell (i := r) ?_).1
    rw [hz, ← hcr]
    exact nats_get (by simp [hr])
  have h1 := HH.out.keeps hk1 (fun h => h) (fun _ _ h => h)
  have hR1 := mapRoot_any h1
  have H1 := Lib.hid (And.intro h1 hk1)
  clear hN hzl hz hown h1 hk1 zs hcr
  go_wp2_with fail
  refine hR1.mono ?_
  rintro e w' ⟨rfl, rfl⟩
  go_wp2_with fail
  refine hR1.mono ?_
  rintro e w' ⟨rfl, rfl⟩
  clear hR1
  obtain ⟨g, hg⟩ : ∃ g, g = w1.heap.size := ⟨_, rfl⟩
  obtain ⟨w2, hw2⟩ : ∃ w2, w2 = w1.alloc (.cells #[.int .i64 (r : Int)] 3) := ⟨_, rfl⟩
  have k12 : Keeps (fun _ => False) w1 w2 := by rw [hw2]; exact (Keeps.refl _ _).alloc _
  have hb2 : w2.heap[g]? = some (.cells #[.int .i64 (r : Int)] 3 (0, 0)) := by rw [hw2, hg]; exact heap_alloc_new _ _
  have hg2 : g < w2.heap.size := lt_of_block hb2
  have h2 : MapAt w2 b s r ((0 : Nat) : Int) R := H1.out.1.keeps k12 (fun h => h) (fun _ _ h => h)
  have hP := eulerParts_any h2
  have hlen : (partsA s 0).length = 1 := by rw [partsA_length, HC.out]
  have hrow := partsA_row5 s (by omega) 0
  have HW : Hid (g = w1.heap.size ∧ Keeps (fun _ => False) w w2 ∧ w2.heap[g]? = some (.cells #[.int .i64 (r : Int)] 3 (0, 0)) ∧ g < w2.heap.size) := Lib.hid ⟨hg, H1.out.2.trans k12 (fun _ _ h => h), hb2, hg2⟩
  clear h2 k12 hb2 hg2
  generalize partsA s 0 = ps at *
  go_wp2_with fail
  rw [← hw2, ← hg]
  clear hg hw2
  refine hP.mono ?_
  rintro e w3 ⟨pv, rfl, hown, hq⟩
  obtain ⟨pa, pc, rfl⟩ := hown.form
  obtain ⟨p, hp⟩ : ∃ p, ps[0]? = some p := ⟨_, List.getElem?_eq_getElem (by omega)⟩
  obtain ⟨z0, z1, z2, z3, z4, rfl, hz1, hz2⟩ := hrow p (List.mem_of_getElem? hp)
  obtain ⟨gp, cap, hv, hcell⟩ := hown.cell hp
  simp only [Value.slice.injEq] at hv
  obtain ⟨rfl, -, rfl⟩ := hv
  have HD : Hid (∀ W, Keeps (fun _ => False) w3 W → W.cell? ⟨gp, 0, none⟩ = some (.int .i64 z0) ∧ W.cell? ⟨gp, 1, none⟩ = some (.int .i64 z1) ∧ W.cell? ⟨gp, 2, none⟩ = some (.int .i64 z2) ∧ W.cell? ⟨gp, 3, none⟩ = some (.int .i64 z3) ∧ W.cell? ⟨gp, 4, none⟩ = some (.int .i64 z4)) := Lib.hid (fun W hk => ⟨hk.cellF (hcell 0 z0 rfl), hk.cellF (hcell 1 z1 rfl), hk.cellF (hcell 2 z2 rfl), hk.cellF (hcell 3 z3 rfl), hk.cellF (hcell 4 z4 rfl)⟩)
  have HQ := Lib.hid hq
  rw [hlen]
  clear hP hown hp hcell hq hrow hlen
  have h0 := Keeps.refl (fun _ => False) w3
  go_wp2_with fail
  go_loopw [5, 24] (fun o i wr => ∃ j : Nat, j ≤ 1 ∧ i = .int .i64 j ∧ o = .slice (some ⟨g, 0, none⟩) 1 1 ∧ Keeps (fun _ => False) w3 wr) (fun _ i _ => 1 - (intOf i).toNat)
  case atStart => exact ⟨0, Nat.zero_le _, rfl, rfl, h0⟩
  case round =>
    clear h0
    obtain ⟨j, hj, rfl, rfl, hk⟩ := hrel
    by_cases hlt : j < 1
    · obtain rfl : j = 0 := by omega
      obtain ⟨d0, d1, d2, d3, d4⟩ := HD.out wr hk
      have HK := Lib.hid (hk.alloc (.cells #[.int .i64 z0, .int .i64 z1, .int .i64 z2, .int .i64 z3, .int .i64 z4] 217))
      clear hk
      go_wp2
      go_roundw
      case rel => exact ⟨1, by omega, by go_num, rfl, HK.out⟩
      case measure => simp [intOf]
    · obtain rfl : j = 1 := by omega
      have hq2 := HQ.out.1.keeps hk (fun h => h) (fun _ _ h => h)
      have hkw : Keeps (fun k => k = b) w2 wr := HQ.out.2.trans hk (fun _ _ h => h.elim)
      have hgs : w.heap.size ≤ g := by rw [HW.out.1]; exact H1.out.2.size
      have hs2 := HW.out.2.1.size
      have hgb : g ≠ b := by have := HH.out.lt; omega
      have HF : Hid (wr.cell? ⟨g, 0, none⟩ = some (.int .i64 r) ∧ w.heap.size ≤ g ∧ g < wr.heap.size ∧ ∃ R', MapAt wr b s r 0 R' ∧ (∀ x, R' x → R x ∨ (w.heap.size ≤ x ∧ x < wr.heap.size)) ∧ ¬ R' g ∧ Keeps (fun k => k = b) w wr) := by
        refine Lib.hid ⟨World.cell_of_heap (hkw.at HW.out.2.2.1 hgb) 0, hgs, Nat.lt_of_lt_of_le HW.out.2.2.2 hkw.size, _, hq2, fun x hx => ?_, fun hx => ?_, (show Keeps (fun k => k = b) w w2 from HW.out.2.1.mono (fun _ _ h => h.elim)).trans hkw (fun _ _ h => h)⟩
        · rcases hx with hx | hx
          · exact .inl hx
          · have := hk.size
            exact .inr ⟨by omega, by omega⟩
        · rcases hx with hx | hx
          · have := HH.out.old _ hx; omega
          · have := HW.out.2.2.2; omega
      clear hq2 hkw hgs hs2 hgb hk hlt hj
      go_wp2
      go_ret
      exact ⟨g, rfl, HF.out⟩
end

/-- The names that were laid, as far as j. -/
def CS (w w3 : World) (n : Nat) (D : Nat → Nat) (ks : List Nat) (g j : Nat) (wr : World) : Prop :=
  ∃ zs, zs.length = n ∧ CJ n D ks j zs ∧ OwnI w.heap.size wr (.slice (some ⟨g, 0, none⟩) n n) zs ∧ Keeps (fun k => k = g) w3 wr

theorem CS.still {w w3 wr w' : World} {n : Nat} {D : Nat → Nat} {ks : List Nat} {g j : Nat} (h : CS w w3 n D ks g j wr) (k : Keeps (fun _ => False) wr w') : CS w w3 n D ks g j w' := by
  obtain ⟨zs, h1, h2, h3, h4⟩ := h
  exact ⟨zs, h1, h2, h3.keeps k (fun _ _ h => h), h4.trans k (fun _ _ h => h.elim)⟩

theorem CS.cell {w w3 wr : World} {n : Nat} {D : Nat → Nat} {ks : List Nat} {g j i : Nat} (h : CS w w3 n D ks g j wr) (hi : i < n) : wr.cell? ⟨g, D i, none⟩ = some (.int .i64 (if i < j ∨ mp ks i < j then (nmD ks i : Int) else -1)) ∧ wr.frozen? ⟨g, D i, none⟩ = false := by
  obtain ⟨zs, h1, h2, h3, h4⟩ := h
  exact h3.cell (h2 i hi)

theorem CS.other {w w3 wr : World} {n : Nat} {D : Nat → Nat} {ks : List Nat} {g j i d : Nat} (h : CS w w3 n D ks g j wr) (hi : i < n) (hd : d ≠ D i) (v : Int) {W : World} (hk : Keeps (fun _ => False) (wr.setCell ⟨g, d, none⟩ (.int .i64 v)) W) :
    W.cell? ⟨g, D i, none⟩ = some (.int .i64 (if i < j ∨ mp ks i < j then (nmD ks i : Int) else -1)) ∧ W.frozen? ⟨g, D i, none⟩ = false := by
  obtain ⟨zs, h1, h2, h3, h4⟩ := h
  exact ((h3.set d v).keeps hk (fun _ _ h => h)).cell (by rw [List.getElem?_set, if_neg hd]; exact h2 i hi)

theorem CS.keep {S : Nat → Nat} {root : Nat} {w w3 wr : World} {n : Nat} {D : Nat → Nat} {ks : List Nat} {g j : Nat} (k : Cn n S root D ks) (h : CS w w3 n D ks g j wr) (hj : j < n) (hm : mp ks j < j) : CS w w3 n D ks g (j + 1) wr := by
  obtain ⟨zs, h1, h2, h3, h4⟩ := h
  exact ⟨zs, h1, k.keepJ hj hm h2, h3, h4⟩

theorem CS.step {S : Nat → Nat} {root : Nat} {w w3 wr : World} {n : Nat} {D : Nat → Nat} {ks : List Nat} {g j : Nat} (k : Cn n S root D ks) (h : CS w w3 n D ks g j wr) (hj : j < n) (hm : j < mp ks j) :
    CS w w3 n D ks g (j + 1) ((wr.setCell ⟨g, D j, none⟩ (.int .i64 (nmD ks j : Int))).setCell ⟨g, mt (D j), none⟩ (.int .i64 ((nmD ks j : Int) + 1))) := by
  obtain ⟨zs, h1, h2, h3, h4⟩ := h
  exact ⟨_, by simpa using h1, k.stepJ hj h1 hm h2, (h3.set _ _).set _ _, (h4.setCell (p := ⟨g, D j, none⟩) (.inl rfl) _).setCell (p := ⟨g, mt (D j), none⟩) (.inl rfl) _⟩

theorem planar_one {s : List Nat} {r : Nat} (hP : IsP s.length (sg s)) (he : s.length % 2 = 0) (hr : r < s.length) (hc : cldr s.length (sg s) s.length = 1) (hpl : s.length / 2 + 1 ≤ ldr (sg s) s.length + ldr (fun d => sg s (mt d)) s.length) {T : Nat} {D : Nat → Nat} {ks : List Nat}
    (hT : WkT s.length (sg s) r T D ks) (hle : T ≤ s.length) : T = s.length ∧ Cn s.length (sg s) r D ks := by
  have hcn : ∀ x, x < s.length → Conn s.length (sg s) r x := fun x hx => conn_one hP he hc hr hx
  have hTn : T = s.length := by
    have := nodup_sub (List.range s.length) ((List.range T).map D) List.nodup_range (fun x hx => by
      obtain ⟨i, hi, e⟩ := hT.cov x (List.mem_range.1 hx) (hcn x (List.mem_range.1 hx))
      exact List.mem_map.2 ⟨i, List.mem_range.2 hi, e⟩)
    simp at this
    omega
  exact ⟨hTn, hT.cn hTn (fun i hi => hT.mates hP hr he hcn hTn hpl (by omega))⟩

/-- Behind the walk: all names are laid. -/
def CFin (w : World) (b : Nat) (s : List Nat) (r : Nat) (R : Nat → Prop) (g : Nat) (wr : World) : Prop :=
  ∃ T, WkEnd s.length (sg s) (vnum (sg s)) r T ∧ Cn s.length (sg s) r (fun i => (wlk (sg s) (vnum (sg s)) r i).1) (kso (wlk (sg s) (vnum (sg s)) r T).2) ∧
    OwnI w.heap.size wr (.slice (some ⟨g, 0, none⟩) s.length s.length) (nats (psL s.length (fun i => (wlk (sg s) (vnum (sg s)) r i).1) (kso (wlk (sg s) (vnum (sg s)) r T).2))) ∧
    (∃ R', MapAt wr b s r 0 R' ∧ (∀ x, R' x → R x ∨ (w.heap.size ≤ x ∧ x < wr.heap.size)) ∧ ¬ R' g) ∧ Keeps (fun k => k = b) w wr

set_option maxRecDepth 100000 in
set_option maxHeartbeats 4000000 in
theorem canon_one {w : World} {b : Nat} {s : List Nat} {r : Nat} {R : Nat → Prop} (h : MapAt w b s r 0 R) (hn : 0 < s.length) (hc : cldr s.length (sg s) s.length = 1) (hpl : s.length / 2 + 1 ≤ ldr (sg s) s.length + ldr (fun d => sg s (mt d)) s.length) :
    Calls Tryz.prog 87 #[.pointer (some ⟨b, 0, none⟩)] w fun e w' => ∃ T b2 v, e = .returned (.tuple #[.pointer (some ⟨b2, 0, none⟩), v, .int .i64 0]) ∧ WkEnd s.length (sg s) (vnum (sg s)) r T ∧
      MapAt w' b2 (decL (kso (wlk (sg s) (vnum (sg s)) r T).2)) 0 0 (fun x => w.heap.size ≤ x ∧ x < w'.heap.size ∧ x ≠ b2) ∧ w.heap.size ≤ b2 ∧ (∃ R', MapAt w' b s r 0 R' ∧ ∀ x, R' x → R x ∨ (w.heap.size ≤ x ∧ x < w'.heap.size)) ∧ Keeps (fun k => k = b) w w' := by
  have hr : r < s.length := by
    rcases h.rt with ⟨h0, _⟩ | ⟨_, h1⟩ <;> omega
  have hle := h.le
  have HH := Lib.hid h
  have HC := Lib.hid (And.intro hn (And.intro hc hpl))
  have ka := (Keeps.refl (fun _ => False) w).alloc (.cells #[.int .i64 (-1)] 3)
  have hl0 : OwnI w.heap.size (w.alloc (.cells #[.int .i64 (-1)] 3)) (.slice (some ⟨w.heap.size, 0, none⟩) 1 1) [-1] := by
    refine ⟨rfl, .inr ⟨w.heap.size, 1, #[.int .i64 (-1)], rfl, Nat.le_refl _, heap_alloc_new w _, Nat.le_refl _, by decide, ?_, ?_⟩⟩ <;> simp [ints]
  have h1 := h.keeps ka (fun h => h) (fun _ _ h => h)
  have hD := mapDarts_any h1
  have hRp := repeat_any (.slice (some ⟨w.heap.size, 0, none⟩) 1 1) (-1) s.length _ hl0.sl (by omega)
  have HA := Lib.hid ka
  clear h hc hpl ka hl0 h1
  go_enter Tryz.func87, Tryz.ntmps87
  go_wp2_with fail
  refine hD.mono ?_
  rintro e w' ⟨rfl, rfl⟩
  clear hD
  go_wp2_with fail
  refine hRp.mono ?_
  rintro e w1 ⟨g, rfl, hM⟩
  clear hRp
  obtain ⟨zs, hz1, rfl, hown, hk1⟩ := hM
  have k01 := HA.out.trans hk1 (fun _ _ h => h)
  have hA1 := HH.out.keeps k01 (fun h => h) (fun _ _ h => h)
  have hRt := roots_one hA1 HC.out.1 HC.out.2.1
  have hgo := hown.lt g rfl
  have H1 := Lib.hid (And.intro hown (And.intro k01 hgo))
  clear hz1 hown hk1 k01 hA1 hgo HA
  go_wp2_with fail
  refine hRt.mono ?_
  rintro e w2 ⟨g2, rfl, hcell, hg2, hg2', R2, hA2, hR2, hR2g, hk2⟩
  clear hRt
  have hw1 := H1.out.2.1.size
  have k02 := (show Keeps (fun k => k = b) w w1 from H1.out.2.1.mono (fun _ _ h => h.elim)).trans hk2 (fun _ _ h => h)
  have hgb : g ≠ b := by
    have := HH.out.lt
    have := H1.out.2.2.1
    simp at this
    omega
  have hgw : w.heap.size ≤ g := by have := H1.out.2.2.1; simp at this; omega
  have hown2 : OwnI w.heap.size w2 (.slice (some ⟨g, 0, none⟩) s.length s.length) (List.replicate s.length (-1)) := (H1.out.1.mono (fun k hk => by simp only [Value.ownBlock, Option.some.injEq] at hk; omega)).keeps hk2 (fun q hq e => by simp only [Value.ownBlock, Option.some.injEq] at hq; omega)
  have hR2g' : ¬ R2 g := fun e => by
    rcases hR2 g e with e | e
    · have := HH.out.old g e; omega
    · have := H1.out.2.2.2; omega
  have hWk := walkOf_any (l := 0) hA2 hr
  have HX : Hid (Keeps (fun k => k = b) w w2 ∧ OwnI w.heap.size w2 (.slice (some ⟨g, 0, none⟩) s.length s.length) (List.replicate s.length (-1)) ∧ MapAt w2 b s r 0 R2 ∧ (∀ x, R2 x → R x ∨ (w.heap.size ≤ x ∧ x < w2.heap.size)) ∧ ¬ R2 g ∧ g ≠ b ∧ w.heap.size ≤ g ∧ g < w2.heap.size) :=
    Lib.hid ⟨k02, hown2, hA2, fun x hx => by
      rcases hR2 x hx with e | e
      · exact .inl e
      · exact .inr (by omega), hR2g', hgb, hgw, by have := hk2.size; have := H1.out.2.2.2; omega⟩
  clear k02 hown2 hA2 hR2 hR2g hR2g' hgb hgw hk2 hg2 hg2' H1
  have hn := HC.out.1
  go_wp2_with fail
  go_loopw [6, 26] (fun c i wr => ∃ j c' : Nat, j ≤ 1 ∧ i = .int .i64 j ∧ c = .int .i64 c' ∧ ((j = 0 ∧ c' = 0 ∧ w2 = wr) ∨ (j = 1 ∧ c' = s.length ∧ CFin w b s r R g wr))) (fun _ i _ => 1 - (intOf i).toNat)
  case atStart => exact ⟨0, 0, Nat.zero_le _, rfl, rfl, .inl ⟨rfl, rfl, rfl⟩⟩
  case round =>
    obtain ⟨j, c', hj, rfl, rfl, ⟨rfl, rfl, rfl⟩ | ⟨rfl, rfl, hF⟩⟩ := hrel
    · go_wp2_with fail
      refine hWk.mono ?_
      rintro e w3 ⟨T, ov, rfl, hE, hT, hov, hq⟩
      obtain ⟨hTn, hCn⟩ := planar_one HH.out.isP HH.out.even hr HC.out.2.1 HC.out.2.2 hT hE.le
      have hmq : ∃ R3, MapAt w3 b s r 0 R3 ∧ (∀ x, R3 x → R x ∨ (w.heap.size ≤ x ∧ x < w3.heap.size)) ∧ ¬ R3 g := by
        have := hq.2.size
        have := HX.out.1.size
        refine ⟨_, hq.1, fun x hx => ?_, fun hx => ?_⟩
        · rcases hx with e | e
          · rcases HX.out.2.2.2.1 x e with e | e
            · exact .inl e
            · exact .inr (by omega)
          · exact .inr (by omega)
        · rcases hx with e | e
          · exact HX.out.2.2.2.2.1 e
          · have := HX.out.2.2.2.2.2.2.2; omega
      have hk03 := HX.out.1.trans hq.2 (fun _ _ h => h)
      have hown3 := HX.out.2.1.keeps hq.2 (fun q hq e => by simp only [Value.ownBlock, Option.some.injEq] at hq; exact HX.out.2.2.2.2.2.1 (by omega))
      have hovg : ∀ k, ov.ownBlock = some k → k ≠ g := fun k hk => by have := (hov.lt k hk).1; have := HX.out.2.2.2.2.2.2.2; omega
      have hat : ∀ j, j < s.length → ∃ kd, (wlk (sg s) (vnum (sg s)) r T).2[j]? = some ((wlk (sg s) (vnum (sg s)) r j).1, kd) := fun j hj => ⟨_, wlk_at _ _ _ (by omega)⟩
      have hlo : (wlk (sg s) (vnum (sg s)) r T).2.length = s.length := by rw [wlk_length]; exact hTn
      have HE := Lib.hid (show ∀ wr, CS w w3 s.length (fun i => (wlk (sg s) (vnum (sg s)) r i).1) (kso (wlk (sg s) (vnum (sg s)) r T).2) g s.length wr → CFin w b s r R g wr from fun wr hcs => by
        obtain ⟨zs, h1, h2, h3, h4⟩ := hcs
        obtain ⟨R3, hA3, hs3, hg3⟩ := hmq
        have := hCn.doneJ h1 h2
        subst this
        have := h4.size
        exact ⟨T, hE, hCn, h3, ⟨R3, hA3.keeps h4 (fun e => HX.out.2.2.2.2.2.1 e.symm) (fun x hx e => hg3 (e ▸ hx)), fun x hx => by
          rcases hs3 x hx with e | e
          · exact .inl e
          · exact .inr (by omega), hg3⟩, hk03.trans h4 (fun x hx e => by have := HX.out.2.2.2.2.2.2.1; omega)⟩)
      have HC3 := Lib.hid hCn
      have hmt : ∀ j W, j < s.length → Keeps (fun k => k = g) w3 W → ∀ d, d < s.length → Calls Tryz.prog 151 #[.pointer (some ⟨b, 0, none⟩), .int .i64 d] W fun e w' => e = .returned (.int .i64 (mt d : Nat)) ∧ W = w' := fun j W hj hk d hd => by
        obtain ⟨R3, hA3, hs3, hg3⟩ := hmq
        exact mapMate_in (hA3.keeps hk (fun e => HX.out.2.2.2.2.2.1 e.symm) (fun x hx e => hg3 (e ▸ hx))) d hd
      have HM := Lib.hid hmt
      have hcs0 : CS w w3 s.length (fun i => (wlk (sg s) (vnum (sg s)) r i).1) (kso (wlk (sg s) (vnum (sg s)) r T).2) g 0 w3 := ⟨_, by simp, hCn.zeroJ, hown3, Keeps.refl _ _⟩
      generalize kso (wlk (sg s) (vnum (sg s)) r T).2 = ks at *
      generalize hDD : (fun i => (wlk (sg s) (vnum (sg s)) r i).1) = D at *
      have hDj : ∀ j, (wlk (sg s) (vnum (sg s)) r j).1 = D j := fun j => by rw [← hDD]
      simp only [hDj] at hat
      generalize (wlk (sg s) (vnum (sg s)) r T).2 = out at *
      have hs23 := hq.2.size
      clear hWk hE hT hq hTn hCn hk03 hown3 hmq hmt hDD hDj
      obtain ⟨oa, oc', hov'⟩ := hov.form
      subst hov'
      rw [hlo]
      rw [hlo] at hov hovg
      have HO : Hid (∀ W, Keeps (fun k => k = g) w3 W → Own2 w2.heap.size W (.slice oa s.length oc') out) := Lib.hid (fun W hk => hov.keeps hk (fun k hk e => hovg k hk e))
      have HAT := Lib.hid (And.intro hat hlo)
      clear hov hovg hat hlo
      generalize hnn : s.length = n at *
      have HN := Lib.hid hnn
      clear hnn
      go_wp2_with fail
      go_loopg [6, 38] n (fun m c i wr => ∃ j c' : Nat, j ≤ n ∧ m = n - j ∧ i = .int .i64 j ∧ c = .int .i64 c' ∧ c' = 2 * oc ks j ∧ CS w w3 n D ks g j wr)
      case atStart => exact ⟨0, 0, Nat.zero_le _, rfl, rfl, rfl, rfl, hcs0⟩
      case round =>
        clear hcs0
        obtain ⟨j, c', hj2, hgk, rfl, rfl, hcc, hcs⟩ := hrel
        have HG := Lib.hid hgk
        clear hgk
        have hcb : c' ≤ 2 * n := by
          have h1 := oc_mono ks hj2
          have h2 := HC3.out.wd.even
          rw [HC3.out.len] at h2
          omega
        by_cases hlt : j < n
        · have hkg : Keeps (fun k => k = g) w3 wr := by obtain ⟨_, _, _, _, hk⟩ := id hcs; exact hk
          obtain ⟨kd, hgt⟩ := HAT.out.1 j hlt
          obtain ⟨gv, cap, hv, hce1, hce2⟩ := (HO.out wr hkg).cell hgt
          simp only [Value.slice.injEq] at hv
          obtain ⟨rfl, -, rfl⟩ := hv
          simp only at hce1 hce2
          have kal := (Keeps.refl (fun _ => False) wr).alloc (.cells #[.int .i64 (D j), .int .i64 kd] 180)
          have hcs2 := hcs.still kal
          have hDl := HC3.out.dP.lt j hlt
          have hml : mt (D j) < n := by rw [← HC3.out.mates j hlt]; exact HC3.out.dP.lt _ (by have := HC3.out.wd.mp_lt (i := j) (by rw [HC3.out.len]; exact hlt); rw [HC3.out.len] at this; exact this)
          have hMt := fun W hk => HM.out j W hlt hk (D j) hDl
          rcases HC3.out.mate_lt hlt with ⟨_, hm⟩ | ⟨_, hm⟩
          · have hmpl : mp ks j < n := by have := HC3.out.wd.mp_lt (i := j) (by rw [HC3.out.len]; exact hlt); rw [HC3.out.len] at this; exact this
            obtain ⟨hc5, hf5⟩ := hcs2.cell hlt
            rw [if_neg (by omega)] at hc5
            obtain ⟨hc6, hf6⟩ := hcs2.cell hmpl
            rw [HC3.out.mates j hlt] at hc6 hf6
            have hne : D j ≠ mt (D j) := fun e => mt_ne _ e.symm
            obtain ⟨hnm, hoc⟩ := HC3.out.next_even hlt hm
            have kdr := (Keeps.refl (fun _ => False) (wr.alloc (.cells #[.int .i64 (D j), .int .i64 kd] 180))).drew
            have hstp0 := hcs.step HC3.out hlt hm
            have hstp := hstp0.still (((Keeps.refl (fun _ => False) _).alloc (.cells #[.int .i64 (D j), .int .i64 kd] 180)).drew)
            have hMt1 := hMt (wr.alloc (.cells #[.int .i64 (D j), .int .i64 kd] 180)).drew (hkg.trans (kal.trans kdr (fun _ _ h => h)) (fun _ _ h => h.elim))
            have hgr : g < wr.heap.size := by have := HX.out.2.2.2.2.2.2.2; have := hkg.size; have := HX.out.1.size; omega
            rw [hnm, ← hcc] at hstp
            have HF := Lib.hid (And.intro hoc hstp)
            have HCC := Lib.hid hcc
            have hcn : c' ≤ 300000 := by omega
            have kset := ((Keeps.refl (fun _ => False) (wr.setCell ⟨g, D j, none⟩ (.int .i64 (c' : Int)))).alloc (.cells #[.int .i64 (D j), .int .i64 kd] 180)).drew
            obtain ⟨hc7, hf7⟩ := hcs.other hmpl (d := D j) (by rw [HC3.out.mates j hlt]; exact hne) c' kset
            obtain ⟨hc8, hf8⟩ := hcs.cell hmpl
            obtain ⟨hc9, hf9⟩ := hcs.cell hlt
            rw [if_neg (by omega)] at hc9
            rw [HC3.out.mates j hlt] at hc7 hf7 hc8 hf8
            clear hcs hcs2 hoc hgt kal hkg hcc hMt hnm kdr hstp hstp0 kset
            generalize (if mp ks j < j ∨ mp ks (mp ks j) < j then (nmD ks (mp ks j) : Int) else -1) = z6 at *
            generalize mt (D j) = mj at *
            generalize D j = dj at *
            have hb0 := heap_alloc_new wr (.cells #[.int .i64 (dj : Int), .int .i64 kd] 180)
            have hb1 : (wr.alloc (.cells #[.int .i64 (dj : Int), .int .i64 kd] 180)).drew.cell? ⟨wr.heap.size, 0, none⟩ = some (.int .i64 dj) := World.cell_of_heap hb0 0
            have hbA : ∀ W0 : World, W0.heap.size = wr.heap.size → (W0.alloc (.cells #[.int .i64 (dj : Int), .int .i64 kd] 180)).drew.cell? ⟨wr.heap.size, 0, none⟩ = some (.int .i64 dj) := by
              intro W0 hW0
              have h5 := heap_alloc_new W0 (.cells #[.int .i64 (dj : Int), .int .i64 kd] 180)
              rw [hW0] at h5
              exact World.cell_of_heap h5 0
            have hwr1 : IntKind.i64.wrap ((c' : Int) + 1) = (c' : Int) + 1 := IntWalk.i64_in _ (by omega)
            go_wp2_with fail
            go_region_held3 (fun w' => w'.cell? ⟨wr.heap.size, 0, none⟩ = some (.int .i64 dj)) (first | exact hb1 | exact hbA _ (by simp)) (first | (go_at_call 151; refine hMt1.mono ?_; rintro e w' ⟨rfl, rfl⟩))
            clear hc5 hc6 hf5 hf6 hc7 hf7 hc8 hf8 hc9 hf9 hMt1 hb0 hb1 hbA hwr1
            go_wp2
            go_roundg (n - (j + 1))
            case measure => rw [HG.out]; omega
            case rel => exact ⟨j + 1, c' + 2, by omega, rfl, by go_num, by go_num, by rw [HF.out.1, HCC.out]; omega, HF.out.2⟩
          · have hc5 := (hcs2.cell hlt).1
            rw [if_pos (.inr hm)] at hc5
            have hq1 : decide (((nmD ks j : Nat) : Int) < 0) = false := decide_eq_false (by omega)
            have hoc := HC3.out.next_odd hlt hm
            have HF := Lib.hid (And.intro hoc (hcs2.keep HC3.out hlt hm))
            have HCC := Lib.hid hcc
            have hcs0' := hcs
            clear hcs hcs2 hoc hMt hgt kal hkg hcc hcs0'
            generalize nmD ks j = nm at *
            generalize D j = dj at *
            go_wp2
            go_roundg (n - (j + 1))
            case measure => rw [HG.out]; omega
            case rel => exact ⟨j + 1, c', by omega, rfl, by go_num, rfl, by rw [HF.out.1, HCC.out], HF.out.2⟩
        · obtain rfl : j = n := by omega
          have hev := HC3.out.wd.even
          rw [HC3.out.len] at hev
          have HFin := Lib.hid (HE.out wr hcs)
          have hc2 : c' = j := by omega
          have HC2 := Lib.hid hc2
          have hjs := HN.out
          clear hcs hev hcc hc2
          subst hjs
          go_wp2
          go_roundw
          case rel => exact ⟨1, c', by omega, by go_num, rfl, .inr ⟨rfl, HC2.out, HFin.out⟩⟩
          case measure => simp [intOf]
    · have HF := Lib.hid hF
      clear hF hWk hj
      obtain ⟨T, hE, hCn, hown, ⟨R', hA, hsub, hRg⟩, hk⟩ := HF.out
      have hpo := permOf_any (.slice (some ⟨g, 0, none⟩) s.length s.length) (psL s.length (fun i => (wlk (sg s) (vnum (sg s)) r i).1) (kso (wlk (sg s) (vnum (sg s)) r T).2)) wr hown.sl (by rw [psL_length]; exact hCn.ps_isP) (by rw [psL_length]; omega)
      have hq0 : ((s.length : Int) == 0) = false := by rw [beq_eq_false_iff_ne]; omega
      have HK := Lib.hid (And.intro hE (And.intro hCn (And.intro hA (And.intro hsub hk))))
      clear hE hCn hown hA hsub hRg hk
      go_wp2_with fail
      refine hpo.mono ?_
      rintro e w6 ⟨bp, pv, rfl, hPA, hbp, hpv, hk6⟩
      obtain ⟨hE, hCn, hA, hsub, hk⟩ := HK.out
      have hA6 := hA.keeps hk6 (fun h => h) (fun _ _ h => h)
      have hrl := relabel_any (t := decL (kso (wlk (sg s) (vnum (sg s)) r T).2)) (l := 0) hA6 hPA HC.out.1 (psL_length _ _ _) hCn.ps_isP (fun d hd => hCn.ps_mate hd) (by rw [decL_length, hCn.len]) (fun d hd => hCn.ps_turn hd) (by have := hCn.wd.decS; rwa [hCn.len] at this)
      rw [hCn.ps_root HC.out.1] at hrl
      have HS := Lib.hid (And.intro hk6 hA6)
      clear hpo hPA hpv hk6 hE hCn hA hsub hk hA6
      go_wp2_with fail
      refine hrl.mono ?_
      rintro e w7 ⟨b2, rfl, hA7, hb2, hk7⟩
      obtain ⟨hE, hCn, hA, hsub, hk⟩ := HK.out
      have s1 := hk.size
      have s2 := HS.out.1.size
      have s3 := hk7.size
      have hA6 := HS.out.2.keeps hk7 (fun h => h) (fun _ _ h => h)
      have HZ : Hid (WkEnd s.length (sg s) (vnum (sg s)) r T ∧ MapAt w7 b2 (decL (kso (wlk (sg s) (vnum (sg s)) r T).2)) 0 0 (fun x => w.heap.size ≤ x ∧ x < w7.heap.size ∧ x ≠ b2) ∧ w.heap.size ≤ b2 ∧ (∃ R', MapAt w7 b s r 0 R' ∧ ∀ x, R' x → R x ∨ (w.heap.size ≤ x ∧ x < w7.heap.size)) ∧ Keeps (fun k => k = b) w w7) :=
        Lib.hid ⟨hE, hA7.mono (fun x hx => ⟨by omega, hx.2⟩) (fun x hx => hx.2.1) (fun hx => hx.2.2 rfl), by omega, ⟨R', hA6, fun x hx => by
          rcases hsub x hx with e | e
          · exact .inl e
          · exact .inr (by omega)⟩, (hk.trans HS.out.1 (fun _ _ h => h.elim)).trans hk7 (fun _ _ h => h.elim)⟩
      clear hrl hA7 hb2 hk7 hE hCn hA hsub hk hA6 s1 s2 s3
      go_wp2
      refine bodyPost_ret (v := .tuple #[.pointer (some ⟨b2, 0, none⟩), .pointer (some ⟨bp, 0, none⟩), .int .i64 0]) (by simp [results, Tryz.results87, go_sem]) rfl ?_
      exact ⟨T, b2, _, rfl, HZ.out⟩

end Go.Proofs.YtipelclohcdkcaaGreat

/- Package canon: a map of nothing; is a map its own? -/
namespace Go.Proofs.YtipelclohcdkcaaGreat
open Go.RowKit

theorem IsP.none {S : Nat → Nat} : IsP 0 S := ⟨fun d hd => by omega, fun d e hd => by omega⟩

set_option maxRecDepth 100000 in
set_option maxHeartbeats 4000000 in
theorem canon_none {w : World} {b : Nat} {root lone : Int} {R : Nat → Prop} (h : MapAt w b [] root lone R) :
    Calls Tryz.prog 87 #[.pointer (some ⟨b, 0, none⟩)] w fun e w' => ∃ v, e = .returned (.tuple #[.pointer (some ⟨b, 0, none⟩), v, .int .i64 0]) ∧ Keeps (fun _ => False) w w' := by
  have HH : Hid (∀ W, Keeps (fun _ => False) w W → MapAt W b [] root lone R) := Lib.hid (fun W hk => h.keeps hk (fun h => h) (fun _ _ h => h))
  have ka := (Keeps.refl (fun _ => False) w).alloc (.cells #[.int .i64 (-1)] 3)
  have hl0 : OwnI w.heap.size (w.alloc (.cells #[.int .i64 (-1)] 3)) (.slice (some ⟨w.heap.size, 0, none⟩) 1 1) [-1] := by
    refine ⟨rfl, .inr ⟨w.heap.size, 1, #[.int .i64 (-1)], rfl, Nat.le_refl _, heap_alloc_new w _, Nat.le_refl _, by decide, ?_, ?_⟩⟩ <;> simp [ints]
  have hD := mapDarts_any (HH.out _ ka)
  have hRp := repeat_any (.slice (some ⟨w.heap.size, 0, none⟩) 1 1) (-1) 0 _ hl0.sl (by omega)
  have hRt : ∀ W, Keeps (fun _ => False) w W → Calls Tryz.prog 150 #[.pointer (some ⟨b, 0, none⟩)] W fun e w' => e = .returned (.slice none 0 0) ∧ W = w' := by
    intro W hk
    have hD := mapDarts_any (HH.out _ hk)
    clear hRp hl0 ka h
    go_enter Tryz.func150, Tryz.ntmps150
    go_wp2_with fail
    refine hD.mono ?_
    rintro e w' ⟨rfl, rfl⟩
    go_wp2
    go_ret
    exact ⟨rfl, rfl⟩
  have HA := Lib.hid ka
  clear h hl0 ka
  go_enter Tryz.func87, Tryz.ntmps87
  go_wp2_with fail
  refine hD.mono ?_
  rintro e w' ⟨rfl, rfl⟩
  clear hD
  go_wp2_with fail
  refine hRp.mono ?_
  rintro e w1 ⟨g, rfl, hM⟩
  clear hRp
  obtain ⟨zs, hz1, rfl, hown, hk1⟩ := hM
  have k01 := HA.out.trans hk1 (fun _ _ h => h)
  have hR1 := hRt w1 k01
  have hpo := permOf_any (.slice (some ⟨g, 0, none⟩) 0 0) [] w1 hown.sl IsP.none (by simp)
  have HK := Lib.hid k01
  clear hRt hz1 hown hk1 k01
  go_wp2_with fail
  refine hR1.mono ?_
  rintro e w' ⟨rfl, rfl⟩
  clear hR1
  go_wp2_with fail
  go_loopw [6, 26] (fun c i wr => i = .int .i64 0 ∧ c = .int .i64 0 ∧ w1 = wr) (fun _ i _ => 1 - (intOf i).toNat)
  case atStart => exact ⟨rfl, rfl, rfl⟩
  case round =>
    obtain ⟨rfl, rfl, rfl⟩ := hrel
    go_wp2_with fail
    refine hpo.mono ?_
    rintro e w6 ⟨bp, pv, rfl, hPA, hbp, hpv, hk6⟩
    have HF := Lib.hid (HK.out.trans hk6 (fun _ _ h => h))
    clear hpo hPA hbp hpv hk6
    go_wp2
    refine bodyPost_ret (v := .tuple #[.pointer (some ⟨b, 0, none⟩), .pointer (some ⟨bp, 0, none⟩), .int .i64 0]) (by simp [results, Tryz.results87, go_sem]) rfl ?_
    exact ⟨_, rfl, HF.out⟩

end Go.Proofs.YtipelclohcdkcaaGreat
