/- slices.Equal of two equal rows of numbers; what is asked of two vertices. -/
import Derived.Test.YtipelclohcdkcaaGreatLook18
namespace Go.Proofs.YtipelclohcdkcaaGreat
open Go.RowKit

set_option maxRecDepth 100000 in
set_option maxHeartbeats 2000000 in
theorem equal_same (sv tv : Value) (zs : List Int) (w : World) (hs : Sl .i64 w sv zs) (ht : Sl .i64 w tv zs) (hl : zs.length ≤ 100000) :
    Calls Tryz.prog 45 #[sv, tv] w fun e w' => e = .returned (.bool true) ∧ Keeps (fun _ => False) w w' := by
  have HS := Lib.hid (And.intro hs ht)
  obtain ⟨a, c, rfl, _, _⟩ := hs.form
  obtain ⟨a', c', rfl, _, _⟩ := ht.form
  generalize hm : zs.length = m at *
  have HM := Lib.hid hm
  clear hs ht hm
  go_enter Tryz.func45, Tryz.ntmps45
  go_wp2_with fail
  go_loopg [13] (m - 0) (fun mu i wr => ∃ j : Nat, j ≤ m ∧ mu = m - j ∧ i = .int .i64 j ∧ Keeps (fun _ => False) w wr)
  case atStart => exact ⟨0, Nat.zero_le _, rfl, rfl, Keeps.refl _ _⟩
  case round =>
    obtain ⟨j, hj, hgk, rfl, hk⟩ := hrel
    have HG := Lib.hid hgk
    clear hgk
    by_cases hlt : j < m
    · obtain ⟨z, hz⟩ : ∃ z, zs[j]? = some z := ⟨_, List.getElem?_eq_getElem (by rw [HM.out]; exact hlt)⟩
      have kd : Keeps (fun _ => False) wr wr.drew := (Keeps.refl _ wr).drew
      obtain ⟨g, o, rfl, k1⟩ := (HS.out.1.keeps hk (fun _ _ h => h)).cellAt hz
      obtain ⟨g', o', rfl, k2⟩ := (HS.out.2.keeps hk (fun _ _ h => h)).cellAt hz
      have d1 : wr.drew.cell? ⟨g, o + j, none⟩ = some (.int .i64 z) := k1
      have d2 : wr.drew.cell? ⟨g', o' + j, none⟩ = some (.int .i64 z) := k2
      have HK := Lib.hid hk
      clear hz kd hk
      go_wp2_with fail
      go_quiet (fail)
      go_wp2_with fail
      go_roundg (m - (j + 1))
      case measure => rw [HG.out]; omega
      case rel => exact ⟨j + 1, by omega, rfl, by go_num, HK.out.drewN nq⟩
    · have HK := Lib.hid hk
      clear hk
      go_wp2_with fail
      go_ret
      exact ⟨rfl, HK.out⟩

/-- There is an edge. -/
def EdgeV (ks : List Nat) (u v : Nat) : Prop := ∃ d, d < ks.length ∧ vx ks d = u ∧ vx ks (mp ks d) = v

theorem Wd.edge_symm {ks : List Nat} (h : Wd ks) {u v : Nat} (k : EdgeV ks u v) : EdgeV ks v u := by
  obtain ⟨d, hd, h1, h2⟩ := k
  exact ⟨mp ks d, h.mp_lt hd, h2, by rw [h.mp_mp hd]; exact h1⟩

/-- What the questions of two vertices give. -/
def EDesc (ks : List Nat) (u v : Int) (t : Bool) (e : Int) : Prop :=
  (¬ ((0 ≤ u ∧ u < nvK ks) ∧ (0 ≤ v ∧ v < nvK ks)) ∧ t = false ∧ e = 1) ∨
  (∃ a b : Nat, u = a ∧ v = b ∧ a < nvK ks ∧ b < nvK ks ∧ (t = true ↔ EdgeV ks a b) ∧ e = 0)

theorem eAsk (bl b bo : Nat) (bi bp : Nat → Nat) {ks : List Nat} (hw : Wd ks) (hL : ks.length ≤ 1000) (u v : Int) : ∃ t e, EDesc ks u v t e ∧
    (∀ w q F n, LookS w bl b bo bi bp ks q F n → n ≤ 1000000 → q ≤ 5000000 → Calls Tryz.prog 44 #[.pointer (some ⟨bl, 0, none⟩), .int .i64 u, .int .i64 v] w fun x w' => x = .returned (.tuple #[.bool t, .int .i64 e]) ∧ LookQ w bl b bo bi bp ks (q + 20010) F (n + 1) w') := by
  by_cases huv : (0 ≤ u ∧ u < nvK ks) ∧ (0 ≤ v ∧ v < nvK ks)
  · obtain ⟨⟨h1, h2⟩, h3, h4⟩ := huv
    obtain ⟨a, rfl⟩ := Int.eq_ofNat_of_zero_le h1
    obtain ⟨c, rfl⟩ := Int.eq_ofNat_of_zero_le h3
    by_cases h00 : ks.length = 0
    · have hn : nvK ks = 1 := by unfold nvK; have := cntK_le ks 0; omega
      obtain rfl : a = 0 := by omega
      obtain rfl : c = 0 := by omega
      refine ⟨false, 0, .inr ⟨0, 0, rfl, rfl, by omega, by omega, ⟨fun h => absurd h (by simp), fun ⟨d, hd, _⟩ => by omega⟩, rfl⟩, fun w q F n h hn hq => ?_⟩
      refine (lookAdjacent_none h hn hq hw h00).mono ?_
      rintro x w' ⟨⟨t, rfl, ht⟩, hQ⟩
      have : t = false := by
        cases t with
        | false => rfl
        | true => obtain ⟨x, hx, _⟩ := ht.1 rfl; cases hx
      subst this
      exact ⟨rfl, hQ.more (by omega)⟩
    · obtain ⟨f, hf, hfn⟩ := first_ex hw (by omega) (show a < nvK ks by omega)
      have key : ∀ t : Bool, (t = true ↔ ∃ x ∈ orb (tn ks) f, vx ks (mp ks x) = c) → (t = true ↔ EdgeV ks a c) := fun t ht => by
        rw [ht, hw.orb_first hf hfn]
        constructor
        · rintro ⟨x, hx, h⟩
          exact ⟨x, (mem_pl.1 hx).1, (mem_pl.1 hx).2, h⟩
        · rintro ⟨x, hx, h, h'⟩
          exact ⟨x, mem_pl.2 ⟨hx, h⟩, h'⟩
      obtain ⟨t0, ht0⟩ : ∃ t0 : Bool, (t0 = true ↔ EdgeV ks a c) := by
        by_cases h : EdgeV ks a c
        · exact ⟨true, fun _ => h, fun _ => rfl⟩
        · exact ⟨false, fun h2 => by simp at h2, fun h2 => absurd h2 h⟩
      refine ⟨t0, 0, .inr ⟨a, c, rfl, rfl, by omega, by omega, ht0, rfl⟩, fun w q F n h hn hq => ?_⟩
      refine (lookAdjacent_in h hn hq hw hL a c f (by omega) (by omega) hf hfn).mono ?_
      rintro x w' ⟨⟨t, rfl, ht⟩, hQ⟩
      have h5 := key t ht
      have : t = t0 := by
        rw [← h5] at ht0
        cases t <;> cases t0 <;> simp_all
      subst this
      exact ⟨rfl, hQ.more (by omega)⟩
  · refine ⟨false, 1, .inl ⟨huv, rfl, rfl⟩, fun w q F n h hn hq => ?_⟩
    refine (lookAdjacent_out h hn hq u v huv).mono ?_
    rintro x w' ⟨rfl, hQ⟩
    exact ⟨rfl, hQ.more (by omega)⟩

end Go.Proofs.YtipelclohcdkcaaGreat
