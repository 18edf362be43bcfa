/- Joined texts. -/
import Derived.Test.YtcfdpogegngplaaGreatPzCanonP

/- Package canon: a map of one part by its darts' names. -/
namespace Go.Proofs.YtcfdpogegngplaaGreat
open Go.RowKit



/-- The names that were laid, as far as j. -/
def CS (w w3 : World) (n : Nat) (D : Nat → Nat) (ks : List Nat) (g j : Nat) (wr : World) : Prop :=
  ∃ zs, zs.length = n ∧ CJ n D ks j zs ∧ OwnI w.heap.size wr (.slice (some ⟨g, 0, none⟩) n n) zs ∧ Keeps (fun k => k = g) w3 wr

theorem CS.still {w w3 wr w' : World} {n : Nat} {D : Nat → Nat} {ks : List Nat} {g j : Nat} (h : CS w w3 n D ks g j wr) (k : Keeps (fun _ => False) wr w') : CS w w3 n D ks g j w' := by
  obtain ⟨zs, h1, h2, h3, h4⟩ := h
  exact ⟨zs, h1, h2, h3.keeps k (fun _ _ h => h), h4.trans k (fun _ _ h => h.elim)⟩

theorem CS.cell {w w3 wr : World} {n : Nat} {D : Nat → Nat} {ks : List Nat} {g j i : Nat} (h : CS w w3 n D ks g j wr) (hi : i < n) : wr.cell? ⟨g, D i, none⟩ = some (.int .i64 (if i < j ∨ mp ks i < j then (nmD ks i : Int) else -1)) ∧ wr.frozen? ⟨g, D i, none⟩ = false := by
  obtain ⟨zs, h1, h2, h3, h4⟩ := h
  exact h3.cell (h2 i hi)

theorem CS.keep {S : Nat → Nat} {root : Nat} {w w3 wr : World} {n : Nat} {D : Nat → Nat} {ks : List Nat} {g j : Nat} (k : Cn n S root D ks) (h : CS w w3 n D ks g j wr) (hj : j < n) (hm : mp ks j < j) : CS w w3 n D ks g (j + 1) wr := by
  obtain ⟨zs, h1, h2, h3, h4⟩ := h
  exact ⟨zs, h1, k.keepJ hj hm h2, h3, h4⟩

theorem CS.step {S : Nat → Nat} {root : Nat} {w w3 wr : World} {n : Nat} {D : Nat → Nat} {ks : List Nat} {g j : Nat} (k : Cn n S root D ks) (h : CS w w3 n D ks g j wr) (hj : j < n) (hm : j < mp ks j) :
    CS w w3 n D ks g (j + 1) ((wr.setCell ⟨g, D j, none⟩ (.int .i64 (nmD ks j : Int))).setCell ⟨g, mt (D j), none⟩ (.int .i64 ((nmD ks j : Int) + 1))) := by
  obtain ⟨zs, h1, h2, h3, h4⟩ := h
  exact ⟨_, by simpa using h1, k.stepJ hj h1 hm h2, (h3.set _ _).set _ _, (h4.setCell (p := ⟨g, D j, none⟩) (.inl rfl) _).setCell (p := ⟨g, mt (D j), none⟩) (.inl rfl) _⟩

end Go.Proofs.YtcfdpogegngplaaGreat

/- Package canon: a map of nothing; is a map its own? -/
namespace Go.Proofs.YtcfdpogegngplaaGreat
open Go.RowKit

theorem IsP.none {S : Nat → Nat} : IsP 0 S := ⟨fun d hd => by omega, fun d e hd => by omega⟩

set_option maxRecDepth 100000 in
set_option maxHeartbeats 4000000 in
theorem canon_none {w : World} {b : Nat} {root lone : Int} {R : Nat → Prop} (h : MapAt w b [] root lone R) :
    Calls Tryz.prog 39 #[.pointer (some ⟨b, 0, none⟩)] w fun e w' => ∃ v, e = .returned (.tuple #[.pointer (some ⟨b, 0, none⟩), v, .int .i64 0]) ∧ Keeps (fun _ => False) w w' := by
  have HH : Hid (∀ W, Keeps (fun _ => False) w W → MapAt W b [] root lone R) := Lib.hid (fun W hk => h.keeps hk (fun h => h) (fun _ _ h => h))
  have ka := (Keeps.refl (fun _ => False) w).alloc (.cells #[.int .i64 (-1)] 3)
  have hl0 : OwnI w.heap.size (w.alloc (.cells #[.int .i64 (-1)] 3)) (.slice (some ⟨w.heap.size, 0, none⟩) 1 1) [-1] := by
    refine ⟨rfl, .inr ⟨w.heap.size, 1, #[.int .i64 (-1)], rfl, Nat.le_refl _, heap_alloc_new w _, Nat.le_refl _, by decide, ?_, ?_⟩⟩ <;> simp [ints]
  have hD := mapDarts_any (HH.out _ ka)
  have hRp := repeat_any (.slice (some ⟨w.heap.size, 0, none⟩) 1 1) (-1) 0 _ hl0.sl (by omega)
  have hRt : ∀ W, Keeps (fun _ => False) w W → Calls Tryz.prog 84 #[.pointer (some ⟨b, 0, none⟩)] W fun e w' => e = .returned (.slice none 0 0) ∧ W = w' := by
    intro W hk
    have hD := mapDarts_any (HH.out _ hk)
    clear hRp hl0 ka h
    go_enter Tryz.func84, Tryz.ntmps84
    go_wp2_with fail
    refine hD.mono ?_
    rintro e w' ⟨rfl, rfl⟩
    go_wp2
    go_ret
    exact ⟨rfl, rfl⟩
  have HA := Lib.hid ka
  clear h hl0 ka
  go_enter Tryz.func39, Tryz.ntmps39
  go_wp2_with fail
  refine hD.mono ?_
  rintro e w' ⟨rfl, rfl⟩
  clear hD
  go_wp2_with fail
  refine hRp.mono ?_
  rintro e w1 ⟨g, rfl, hM⟩
  clear hRp
  obtain ⟨zs, hz1, rfl, hown, hk1⟩ := hM
  have k01 := HA.out.trans hk1 (fun _ _ h => h)
  have hR1 := hRt w1 k01
  have hpo := permOf_any (.slice (some ⟨g, 0, none⟩) 0 0) [] w1 hown.sl IsP.none (by simp)
  have HK := Lib.hid k01
  clear hRt hz1 hown hk1 k01
  go_wp2_with fail
  refine hR1.mono ?_
  rintro e w' ⟨rfl, rfl⟩
  clear hR1
  go_wp2_with fail
  go_loopw [6, 26] (fun c i wr => i = .int .i64 0 ∧ c = .int .i64 0 ∧ w1 = wr) (fun _ i _ => 1 - (intOf i).toNat)
  case atStart => exact ⟨rfl, rfl, rfl⟩
  case round =>
    obtain ⟨rfl, rfl, rfl⟩ := hrel
    go_wp2_with fail
    refine hpo.mono ?_
    rintro e w6 ⟨bp, pv, rfl, hPA, hbp, hpv, hk6⟩
    have HF := Lib.hid (HK.out.trans hk6 (fun _ _ h => h))
    clear hpo hPA hbp hpv hk6
    go_wp2
    refine bodyPost_ret (v := .tuple #[.pointer (some ⟨b, 0, none⟩), .pointer (some ⟨bp, 0, none⟩), .int .i64 0]) (by simp [results, Tryz.results39, go_sem]) rfl ?_
    exact ⟨_, rfl, HF.out⟩

end Go.Proofs.YtcfdpogegngplaaGreat

/- dart.New of any good list; the canonical one of a planar map of one part. -/
namespace Go.Proofs.YtcfdpogegngplaaGreat
open Go.RowKit

/-- A planar map of one part has as many letters as darts. -/
theorem EncR.full {s : List Nat} {lone : Nat} {rt : Int} {ks : List Nat} (h : EncR s lone rt ks 0) (hP : IsP s.length (sg s)) (he : s.length % 2 = 0) :
    ks.length = s.length ∧ ((s.length = 0 ∧ lone = 1) ∨ (0 < s.length ∧ lone = 0 ∧ cldr s.length (sg s) s.length = 1 ∧ s.length / 2 + 1 ≤ ldr (sg s) s.length + ldr (fun d => sg s (mt d)) s.length ∧
      ∃ r T : Nat, rt = r ∧ WkEnd s.length (sg s) (vnum (sg s)) r T ∧ ks = kso (wlk (sg s) (vnum (sg s)) r T).2)) := by
  rcases h with ⟨_, h, _⟩ | ⟨_, _, h, _⟩ | ⟨h1, h2, _, h3, h4⟩ | ⟨h1, h2, _, r, T, h3, h4, h5, h6⟩
  · omega
  · omega
  · refine ⟨by rw [h3, h4]; rfl, .inl ⟨h3, ?_⟩⟩
    rw [h3, cldr_zero] at h1
    omega
  · have hpos : 0 < s.length := by omega
    have hc1 : 1 ≤ cldr s.length (sg s) s.length := by have := hP.cnum_lt he hpos; omega
    have hc : cldr s.length (sg s) s.length = 1 := by omega
    have hl0 : lone = 0 := by omega
    have hT : T = s.length := by
      have := h5.total (fun _ => true) (fun x hx => ⟨fun _ => conn_one hP he hc h4 hx, fun _ => rfl⟩)
      rw [List.filter_eq_self.2 (fun _ _ => rfl), List.length_range] at this
      exact this.symm
    have hkl : ks.length = T := by rw [h6]; simp [kso, wlk_length]
    refine ⟨by omega, .inr ⟨hpos, hl0, hc, ?_, r, T, h3, h5, h6⟩⟩
    subst hl0
    rw [genus_one hP he hc] at h2
    have hph := phiL_isP hP he
    rw [phiL_length] at hph
    have hTw : IsP s.length (fun d => sg s (mt d)) := hph.congr (fun d hd => (sg_phi hd).symm)
    rw [ldr_congr hTw hph (fun d hd => (sg_phi hd).symm) _ (Nat.le_refl _)]
    generalize ldr (sg s) s.length = V at *
    generalize ldr (sg (phiL s)) s.length = F at *
    generalize s.length / 2 = E at *
    have h8 : (2 - (V : Int) + (E : Int) - (F : Int)).tdiv 2 = 0 := h2
    apply Classical.byContradiction
    intro hn
    rw [Int.tdiv_eq_ediv_of_nonneg (by omega)] at h8
    omega

end Go.Proofs.YtcfdpogegngplaaGreat
