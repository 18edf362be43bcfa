/- look: questions of any number; the document's example. -/
import Derived.Test.YtipelclohcdkcaaGreatLook15
namespace Go.Proofs.YtipelclohcdkcaaGreat
open Go.RowKit

theorem PairW.unique {ks : List Nat} {s i j m : Nat} (h : PairW ks s i j) (k : PairW ks s i m) : j = m := by
  rcases Nat.lt_trichotomy j m with hlt | rfl | hlt
  · have := k.above (j + 1) (by have := h.lt; omega) hlt; have := h.hit; omega
  · rfl
  · have := h.above (m + 1) (by have := k.lt; omega) hlt; have := k.hit; omega

theorem Wd.mp_pair {ks : List Nat} (hw : Wd ks) {s i j : Nat} (h : PairW ks s i j) : mp ks i = j := by
  obtain ⟨t, ht, ⟨h1, h2⟩ | ⟨h1, h2⟩⟩ := hw.cases (i := i) (by have := h.lt; have := h.le; omega)
  · have h3 := h.opens
    rw [h1] at h3
    obtain rfl : t = s := by have := Option.some.inj h3; omega
    exact h2.unique h
  · have h3 := h.opens
    rw [h1] at h3
    have := Option.some.inj h3
    omega

/-- Each vertex of some letters has a first place. -/
theorem first_ex {ks : List Nat} (hw : Wd ks) (hn : 0 < ks.length) {v : Nat} (hv : v < nvK ks) : ∃ f : Nat, FirstOf ks v f ∧ f < ks.length := by
  rcases Nat.eq_zero_or_pos v with rfl | hv0
  · exact ⟨0, .inr (.inl ⟨hn, rfl, rfl⟩), hn⟩
  · obtain ⟨u, rfl⟩ : ∃ u, v = u + 1 := ⟨v - 1, by omega⟩
    unfold nvK at hv
    obtain ⟨m, h1, h2, h3, h4⟩ := first_of (fun m => u < cntK (ks.take m) 0) 0 ks.length (by show u < cntK (ks.take (0 + ks.length)) 0; rw [Nat.zero_add, List.take_of_length_le (Nat.le_refl _)]; omega)
    obtain ⟨o, rfl⟩ : ∃ o, m = o + 1 := ⟨m - 1, by
      rcases Nat.eq_zero_or_pos m with h | h
      · rw [h] at h3; simp [cntK] at h3
      · omega⟩
    have ho : o < ks.length := by omega
    have h5 := h4 o (by omega) (by omega)
    have hs : SelK ks 0 u o := SelK.found ho (by omega) h3
    exact ⟨o + 1, .inr (.inr ⟨hn, u, o, rfl, hs, rfl⟩), hw.open_next hs.1⟩

/-- A vertex's places from its first one on. -/
theorem Wd.orb_first {ks : List Nat} (hw : Wd ks) {v f : Nat} (hf : FirstOf ks v f) (hfn : f < ks.length) : orb (tn ks) f = pl ks v := by
  refine hw.orb_pl ?_
  rcases hf with ⟨h0, h1⟩ | ⟨h0, rfl, h1⟩ | ⟨h0, u, o, rfl, hs, h1⟩
  · omega
  · obtain rfl : f = 0 := by omega
    exact hw.pl_root h0
  · obtain rfl : f = o + 1 := by omega
    have := hw.pl_open hs.1
    have hvo : vo ks o = u + 1 := by unfold vo; rw [hs.2]
    rw [hvo] at this
    exact this

section
variable {w : World} {bl b bo : Nat} {bi bp : Nat → Nat} {ks : List Nat} {q : Nat} {F : Nat → Prop} {n : Nat}

theorem FaceS.lookq {w1 : World} {zs : List Nat} {ov : Value} (h : LookS w bl b bo bi bp ks q F n) {m q' : Nat} (k : FaceS w F bl b bo bi bp ks m q' zs ov w1) : LookQ w bl b bo bi bp ks q' F m w1 := by
  obtain ⟨F', hS, hF, hk, _, _⟩ := k
  have hsz := hk.size
  refine ⟨⟨hS.own, hS.mix.mono (fun x hx => ?_) (grow_old h.mix.old hsz), fun hx => ?_⟩, hk⟩
  · rcases hF x hx with h1 | h1
    · exact .inl h1
    · exact .inr ⟨h1, hS.mix.old x hx⟩
  · rcases hx with hx | hx
    · exact h.sep hx
    · have := h.lt; omega

variable (h : LookS w bl b bo bi bp ks q F n) (hn : n ≤ 1000000) (hq : q ≤ 5000000) (hw : Wd ks) (hL : ks.length ≤ 1000) (i : Int) (hi : -9223372036854775808 ≤ i ∧ i ≤ 9223372036854775807)
include h hn hq hw hL hi

theorem askMate : Calls Tryz.prog 46 #[.pointer (some ⟨bl, 0, none⟩), .int .i64 i] w fun e w' => (∃ v, e = .returned v) ∧ LookQ w bl b bo bi bp ks (q + 20 * ks.length + 10) F (n + 1) w' := by
  refine (lookMateQ_any h hn hq hw i hi).mono ?_
  rintro e w' ⟨⟨z, c, rfl, _⟩, hQ⟩
  exact ⟨⟨_, rfl⟩, hQ.more (by omega)⟩

omit hi in
theorem askDegree : Calls Tryz.prog 39 #[.pointer (some ⟨bl, 0, none⟩), .int .i64 i] w fun e w' => (∃ v, e = .returned v) ∧ LookQ w bl b bo bi bp ks (q + 20 * ks.length + 10) F (n + 1) w' := by
  by_cases hv : 0 ≤ i ∧ i < nvK ks
  · obtain ⟨h0, h1⟩ := hv
    obtain ⟨v, rfl⟩ := Int.eq_ofNat_of_zero_le h0
    have hv : v < nvK ks := by omega
    by_cases h00 : ks.length = 0
    · obtain rfl : v = 0 := by unfold nvK at hv; have := cntK_le ks 0; omega
      refine (lookDegree_nil h hn hq h00).mono ?_
      rintro e w' ⟨rfl, hQ⟩
      exact ⟨⟨_, rfl⟩, hQ.more (by omega)⟩
    · obtain ⟨f, hf, hfn⟩ := first_ex hw (by omega) hv
      refine (lookDegree_in h hn hq hw hL v f hv hf hfn).mono ?_
      rintro e w' ⟨rfl, hQ⟩
      exact ⟨⟨_, rfl⟩, hQ.more (by omega)⟩
  · refine (lookDegree_out h hn hq i hv).mono ?_
    rintro e w' ⟨rfl, hQ⟩
    exact ⟨⟨_, rfl⟩, hQ.more (by omega)⟩

omit hi in
theorem askAdjacent : Calls Tryz.prog 44 #[.pointer (some ⟨bl, 0, none⟩), .int .i64 i, .int .i64 i] w fun e w' => (∃ v, e = .returned v) ∧ LookQ w bl b bo bi bp ks (q + 20 * ks.length + 10) F (n + 1) w' := by
  by_cases hv : 0 ≤ i ∧ i < nvK ks
  · obtain ⟨h0, h1⟩ := hv
    obtain ⟨v, rfl⟩ := Int.eq_ofNat_of_zero_le h0
    have hv : v < nvK ks := by omega
    by_cases h00 : ks.length = 0
    · obtain rfl : v = 0 := by unfold nvK at hv; have := cntK_le ks 0; omega
      refine (lookAdjacent_none h hn hq hw h00).mono ?_
      rintro e w' ⟨⟨t, rfl, _⟩, hQ⟩
      exact ⟨⟨_, rfl⟩, hQ⟩
    · obtain ⟨f, hf, hfn⟩ := first_ex hw (by omega) hv
      refine (lookAdjacent_in h hn hq hw hL v v f hv hv hf hfn).mono ?_
      rintro e w' ⟨⟨t, rfl, _⟩, hQ⟩
      exact ⟨⟨_, rfl⟩, hQ⟩
  · refine (lookAdjacent_out h hn hq i i (fun hh => hv hh.1)).mono ?_
    rintro e w' ⟨rfl, hQ⟩
    exact ⟨⟨_, rfl⟩, hQ.more (by omega)⟩

theorem askFace : Calls Tryz.prog 42 #[.pointer (some ⟨bl, 0, none⟩), .int .i64 i] w fun e w' => (∃ v, e = .returned v) ∧ LookQ w bl b bo bi bp ks (q + 20 * ks.length + 10) F (n + 1) w' := by
  by_cases hv : 0 ≤ i ∧ i < ks.length
  · obtain ⟨h0, h1⟩ := hv
    obtain ⟨v, rfl⟩ := Int.eq_ofNat_of_zero_le h0
    refine (lookFace_in h hn hq hw hL v (by omega)).mono ?_
    rintro e w' ⟨ov, rfl, hF⟩
    exact ⟨⟨_, rfl⟩, (FaceS.lookq h hF).more (by omega)⟩
  · refine (lookFace_out h hn i hi hv).mono ?_
    rintro e w' ⟨rfl, hQ⟩
    exact ⟨⟨_, rfl⟩, hQ.more (by omega)⟩
end

/-! The document's example. -/

def exW : List Nat := [0, 0, 2, 1, 1, 3]

theorem exW_right : WRight exW := by
  have hD : ∀ p, p < 7 → 0 ≤ DD exW p := by decide
  have hB : ∀ p, p < 7 → 0 ≤ BB exW p := by decide
  refine { k4 := by decide, dpos := fun p hp => hD p (by simp [exW] at hp; omega), bpos := fun p hp => hB p (by simp [exW] at hp; omega), right := fun i hi o ho => ?_, dend := by decide, bend := by decide }
  have hil := lt_of_get hi
  have h5 : i = 5 := by
    have : ∀ i, i < 6 → exW[i]? = some 3 → i = 5 := by decide
    exact this i hil hi
  subst h5
  have h1 := ho.hit
  have h2 := hD o (by have := ho.lt; omega)
  rw [show DD exW 5 = 0 by decide] at h1
  omega

theorem exW_wd : Wd exW := ⟨exW_right.k4, exW_right.bal⟩
theorem exW_canon : CanonOk exW := fun _ _ _ h1 h2 h3 => exW_right.check h1 h2 h3

theorem exW_mp2 : mp exW 2 = 5 := by
  refine exW_wd.mp_pair (s := 1) ⟨by decide, by decide, by decide, by decide, by decide, ?_⟩
  intro p h1 h2
  have : ∀ p, p < 6 → 2 < p → ex (ownB 1 exW) (pr 1 exW 2) < ex (ownB 1 exW) (pr 1 exW p) := by decide
  exact this p (by omega) h1

theorem exW_mp5 : mp exW 5 = 2 := by
  have := exW_wd.mp_mp (i := 2) (by decide)
  rwa [exW_mp2] at this

end Go.Proofs.YtipelclohcdkcaaGreat
