/- The contracts of packages walk and turan: the word of steps; the word of a map. -/
import Derived.Test.YtipelclohcdkcaaGreatWalk
import Derived.Test.YtipelclohcdkcaaGreatNil
namespace Go.Proofs.YtipelclohcdkcaaGreat
open Go.RowKit

/-- A word of the call's own. -/
def WordNew (w : World) (bw : Nat) (ks : List Nat) (w' : World) : Prop :=
  ∃ v, WordAt w' bw v ks ∧ w.heap.size ≤ bw ∧ (∀ k, v.ownBlock = some k → w.heap.size ≤ k) ∧ Keeps (fun _ => False) w w'

theorem WordNew.keeps {w w1 w2 : World} {bw : Nat} {ks : List Nat} (h : WordNew w bw ks w1) (k : Keeps (fun _ => False) w1 w2) : WordNew w bw ks w2 := by
  obtain ⟨v, h1, h2, h3, h4⟩ := h
  exact ⟨v, h1.keeps k (fun h => h) (fun _ _ h => h), h2, h3, h4.trans k (fun _ _ h => h)⟩

theorem WordNew.base {w0 w w1 : World} {bw : Nat} {ks : List Nat} (h : WordNew w bw ks w1) (k : Keeps (fun _ => False) w0 w) : WordNew w0 bw ks w1 := by
  obtain ⟨v, h1, h2, h3, h4⟩ := h
  have := k.size
  exact ⟨v, h1, by omega, fun q hq => by have := h3 q hq; omega, k.trans h4 (fun _ _ h => h)⟩

theorem kso_take_succ {out : List (Nat × Nat)} {j : Nat} {p : Nat × Nat} (h : out[j]? = some p) : (kso out).take (j + 1) = (kso out).take j ++ [p.2] := take_get (by simp [kso, h])

set_option maxRecDepth 100000 in
set_option maxHeartbeats 4000000 in
theorem walkWord_any {B : Nat} {lv : Value} {ps : List (Nat × Nat)} {w : World} (hs : Own2 B w lv ps) (k4 : ∀ p ∈ ps, p.2 < 4) (hl : ps.length ≤ 1000000) :
    Calls Tryz.prog 136 #[lv] w fun e w' => ∃ bw, e = .returned (.pointer (some ⟨bw, 0, none⟩)) ∧ WordNew w bw (kso ps) w' := by
  have HS : Hid (∀ W, Keeps (fun _ => False) w W → Own2 B W lv ps) := Lib.hid (fun W hk => hs.keeps hk (fun _ _ h => h))
  obtain ⟨la, lc, rfl⟩ := hs.form
  have hN := wordNew_any w
  have h0 : WordNew w w.heap.size ((kso ps).take 0) (w.alloc (.cells #[.slice none 0 0] 119)) := ⟨_, ⟨heap_alloc_new w _, World.ownsRow_nil _ _ _ _⟩, Nat.le_refl _, fun k hk => by simp [Value.ownBlock] at hk, (Keeps.refl _ w).alloc _⟩
  have HK4 := Lib.hid k4
  have hkl := kso_length ps
  have HKL := Lib.hid hkl
  clear hs k4 hkl
  go_enter Tryz.func136, Tryz.ntmps136
  go_wp2_with fail
  refine hN.mono ?_
  rintro e w1 ⟨rfl, rfl⟩
  clear hN
  obtain ⟨bw, hbw⟩ : ∃ bw, bw = w.heap.size := ⟨_, rfl⟩
  rw [← hbw] at h0 ⊢
  clear hbw
  generalize w.alloc (.cells #[.slice none 0 0] 119) = w1 at *
  go_wp2_with fail
  generalize hn : ps.length = n at *
  have HN := Lib.hid hn
  clear hn
  go_loopg [9] n (fun m i wr => ∃ j : Nat, j ≤ n ∧ m = n - j ∧ i = .int .i64 j ∧ WordNew w bw ((kso ps).take j) wr)
  case atStart => exact ⟨0, Nat.zero_le _, rfl, rfl, h0⟩
  case round =>
    clear h0
    obtain ⟨j, hj, hgk, rfl, hW⟩ := hrel
    have HG := Lib.hid hgk
    clear hgk
    by_cases hlt : j < n
    · obtain ⟨v, hWA, hb1, hb2, hkw⟩ := id hW
      have hp := List.getElem?_eq_getElem (l := ps) (i := j) (by rw [HN.out]; exact hlt)
      obtain ⟨p, hpe⟩ : ∃ p, p = ps[j]'(by rw [HN.out]; exact hlt) := ⟨_, rfl⟩
      rw [← hpe] at hp
      obtain ⟨g, c, hv, hc1, hc2⟩ := (HS.out wr hkw).cell hp
      simp only [Value.slice.injEq] at hv
      obtain ⟨rfl, e5, rfl⟩ := hv
      have hk4 := HK4.out p (List.mem_of_getElem? hp)
      have hst := kso_take_succ hp
      obtain ⟨x, hx⟩ : ∃ x, x = p.1 := ⟨_, rfl⟩
      obtain ⟨k, hk⟩ : ∃ k, k = p.2 := ⟨_, rfl⟩
      rw [← hx] at hc1
      rw [← hk] at hc2 hk4 hst
      have ka := (Keeps.refl (fun _ => False) wr).alloc (.cells #[.int .i64 x, .int .i64 k] 180)
      have kb := (Keeps.refl (fun _ => False) (wr.alloc (.cells #[.int .i64 x, .int .i64 k] 180))).alloc (.cells #[.int .i64 k] 3)
      have kab := ka.trans kb (fun _ _ h => h)
      have hWA2 := hWA.keeps kab (fun h => h) (fun _ _ h => h)
      have hsl := (own_one (wr.alloc (.cells #[.int .i64 x, .int .i64 k] 180)) (k : Int)).sl
      rw [show (wr.alloc (.cells #[.int .i64 x, .int .i64 k] 180)).heap.size = wr.heap.size + 1 by simp] at hsl
      have hlt1 := hWA.lt
      have hap := hWA.apart
      have hlen : ((kso ps).take j).length = j := by rw [List.length_take, HKL.out]; omega
      have hA := wordAdd_good bw v ((kso ps).take j) _ [(k : Int)] _ hWA2 hsl (by intro z hz; simp at hz; subst hz; omega) (fun q hq => by
        simp only [Value.ownBlock, Option.some.injEq] at hq
        subst hq
        exact ⟨by omega, fun e => by have := (hap _ e).2; omega⟩) (by rw [hlen]; simp; omega)
      have HA := Lib.hid (And.intro hkw (And.intro kab (And.intro hst (And.intro hb1 hb2))))
      clear hW hWA hkw hp hpe e5 hst hx hk ka kb kab hWA2 hsl hap hlen hb1 hb2
      go_wp2_with fail
      refine hA.mono ?_
      rintro en w5 ⟨rfl, v', hG, hk5, hv5⟩
      have hfin : WordNew w bw ((kso ps).take (j + 1)) w5 := by
        have hs1 := HA.out.1.size
        have hs2 := HA.out.2.1.size
        refine ⟨v', ?_, HA.out.2.2.2.1, fun q hq => ?_, (HA.out.1.trans HA.out.2.1 (fun _ _ h => h)).trans hk5 (fun y hy e => ?_)⟩
        · rw [HA.out.2.2.1]
          exact hG
        · rcases hv5 with e | ⟨q2, e1, e2⟩
          · exact HA.out.2.2.2.2 q (by rw [← e]; exact hq)
          · rw [hq] at e1
            have := Option.some.inj e1
            omega
        · have := HA.out.2.2.2.1
          rcases e with e | e
          · omega
          · have := HA.out.2.2.2.2 y e; omega
      have HF := Lib.hid hfin
      clear hA hG hk5 hv5 hfin
      go_wp2
      go_roundg (n - (j + 1))
      case measure => rw [HG.out]; omega
      case rel => exact ⟨j + 1, by omega, rfl, by go_num, HF.out⟩
    · obtain rfl : j = n := by omega
      rw [List.take_of_length_le (by rw [HKL.out]; exact Nat.le_refl _)] at hW
      have HF := Lib.hid hW
      clear hW
      go_wp2
      go_ret
      exact ⟨_, rfl, HF.out⟩

/-- A word beside a map that was asked. -/
def WordB (w : World) (b bw : Nat) (ks : List Nat) (w' : World) : Prop :=
  ∃ v, WordAt w' bw v ks ∧ w.heap.size ≤ bw ∧ (∀ k, v.ownBlock = some k → w.heap.size ≤ k) ∧ Keeps (fun k => k = b) w w'

theorem WordNew.after {w w1 w2 : World} {b bw : Nat} {ks : List Nat} (h : WordNew w1 bw ks w2) (k : Keeps (fun k => k = b) w w1) : WordB w b bw ks w2 := by
  obtain ⟨v, h1, h2, h3, h4⟩ := h
  have := k.size
  exact ⟨v, h1, by omega, fun q hq => by have := h3 q hq; omega, k.trans h4 (fun _ _ h => h.elim)⟩

/-- What turan.Encode leaves. -/
def EncPost (w : World) (b : Nat) (s : List Nat) (rt : Int) (l : Nat) (R : Nat → Prop) (e : Ending) (w' : World) : Prop :=
  ∃ p c ks, e = .returned (.tuple #[p, .int .i64 (c : Nat)]) ∧ EncR s l rt ks c ∧ MapQ w b s rt l R w' ∧ ((c = 0 ∧ ∃ bw, p = .pointer (some ⟨bw, 0, none⟩) ∧ WordB w b bw ks w') ∨ (c ≠ 0 ∧ p = .pointer none))

set_option maxRecDepth 100000 in
set_option maxHeartbeats 4000000 in
theorem turanEncode_any {w : World} {b : Nat} {s : List Nat} {rt : Int} {l : Nat} {R : Nat → Prop} (h : MapAt w b s rt l R) :
    Calls Tryz.prog 64 #[.pointer (some ⟨b, 0, none⟩)] w (EncPost w b s rt l R) := by
  have hC := eulerConnected_any h
  have HH := Lib.hid h
  by_cases hc : cldr s.length (sg s) s.length + l = 1
  rotate_left
  · rw [decide_eq_false hc] at hC
    have HC := Lib.hid hc
    clear h hc
    go_enter Tryz.func64, Tryz.ntmps64
    go_wp2_with fail
    refine hC.mono ?_
    rintro en w1 ⟨rfl, hq⟩
    have HQ := Lib.hid hq
    clear hC hq
    go_wp2
    go_ret2
    exact ⟨_, 8, [], rfl, .inl ⟨HC.out, rfl, rfl⟩, HQ.out, .inr ⟨by omega, rfl⟩⟩
  rw [decide_eq_true hc] at hC
  have HC := Lib.hid hc
  by_cases hg : genS (partsA s l) = 0
  rotate_left
  · have HG := Lib.hid hg
    clear h hc
    go_enter Tryz.func64, Tryz.ntmps64
    go_wp2_with fail
    refine hC.mono ?_
    rintro en w1 ⟨rfl, hq⟩
    have hPl := eulerPlanar_any hq.1
    rw [decide_eq_false HG.out] at hPl
    have HQ := Lib.hid hq
    clear hC hq hg
    go_wp2_with fail
    refine hPl.mono ?_
    rintro en w2 ⟨rfl, hq2⟩
    have HQ2 := Lib.hid (HH.out.trans HQ.out hq2)
    clear hPl hq2
    go_wp2
    go_ret2
    exact ⟨_, 7, [], rfl, .inr (.inl ⟨HC.out, HG.out, rfl, rfl⟩), HQ2.out, .inr ⟨by omega, rfl⟩⟩
  have HG := Lib.hid hg
  have HRT := Lib.hid h.rt
  clear h hc
  go_enter Tryz.func64, Tryz.ntmps64
  go_wp2_with fail
  refine hC.mono ?_
  rintro en w1 ⟨rfl, hq⟩
  have hPl := eulerPlanar_any hq.1
  rw [decide_eq_true HG.out] at hPl
  have HQ := Lib.hid hq
  clear hC hq hg
  go_wp2_with fail
  refine hPl.mono ?_
  rintro en w2 ⟨rfl, hq2⟩
  have hq02 := HH.out.trans HQ.out hq2
  have hD := mapDarts_any hq02.1
  have hRo := mapRoot_any hq02.1
  have HQ2 := Lib.hid hq02
  clear hPl hq2 hq02
  go_wp2_with fail
  refine hD.mono ?_
  rintro en w' ⟨rfl, rfl⟩
  clear hD
  by_cases hn : s.length = 0
  · have hN := wordNew_any w2
    have hne : ((s.length : Int) == 0) = true := by rw [beq_iff_eq]; omega
    have HN := Lib.hid hn
    clear hn hRo
    go_wp2_with fail
    refine hN.mono ?_
    rintro en w3 ⟨rfl, rfl⟩
    have k := (Keeps.refl (fun _ => False) w2).alloc (.cells #[.slice none 0 0] 119)
    have hW : WordNew w2 w2.heap.size [] (w2.alloc (.cells #[.slice none 0 0] 119)) := ⟨_, word_new w2, Nat.le_refl _, fun k hk => by simp [Value.ownBlock] at hk, k⟩
    have HF := Lib.hid (And.intro (hW.after HQ2.out.2) (HH.out.trans HQ2.out (HQ2.out.1.still k)))
    clear hN k hW
    go_wp2
    go_ret2
    exact ⟨_, 0, [], rfl, .inr (.inr (.inl ⟨HC.out, HG.out, rfl, HN.out, rfl⟩)), HF.out.2, .inl ⟨rfl, _, rfl, HF.out.1⟩⟩
  · obtain ⟨r, hr, hrl⟩ : ∃ r : Nat, rt = r ∧ r < s.length := by
      rcases HRT.out with ⟨h1, _⟩ | ⟨h1, h2⟩
      · exact absurd h1 hn
      · exact ⟨rt.toNat, by omega, by omega⟩
    subst hr
    have hWk := walkOf_any HQ2.out.1 hrl
    have hne : ((s.length : Int) == 0) = false := by rw [beq_eq_false_iff_ne]; omega
    clear hn
    go_wp2_with fail
    refine hRo.mono ?_
    rintro en w' ⟨rfl, rfl⟩
    clear hRo
    go_wp2_with fail
    refine hWk.mono ?_
    rintro en w3 ⟨T, ov, rfl, hE, hT, hst, hq3⟩
    have hWd := walkWord_any hst (fun p hp => by
      have := hE.k4 T (Nat.le_refl _) p.1 p.2 hp
      exact this) (by rw [wlk_length]; have := hE.le; have := HQ2.out.1.le; omega)
    have HE := Lib.hid (And.intro hE (HH.out.trans HQ2.out hq3))
    clear hWk hE hT hst hq3
    go_wp2_with fail
    refine hWd.mono ?_
    rintro en w4 ⟨bw, rfl, hWN⟩
    have hk4 : Keeps (fun _ => False) w3 w4 := by
      obtain ⟨_, _, _, _, hk⟩ := hWN
      exact hk
    have HF := Lib.hid (And.intro (hWN.after HE.out.2.2) (HH.out.trans HE.out.2 (HE.out.2.1.still hk4)))
    clear hWd hWN hk4
    go_wp2
    go_ret2
    exact ⟨_, 0, _, rfl, .inr (.inr (.inr ⟨HC.out, HG.out, rfl, r, T, rfl, hrl, HE.out.1, rfl⟩)), HF.out.2, .inl ⟨rfl, _, rfl, HF.out.1⟩⟩

end Go.Proofs.YtipelclohcdkcaaGreat
