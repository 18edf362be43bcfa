/- law12.TuranNil: of nil; of a lone vertex. -/
import Derived.Test.YtipelclohcdkcaaGreatLaw12a
namespace Go.Proofs.YtipelclohcdkcaaGreat
open Go.RowKit

theorem turanEncode_nil (w : World) : Calls Tryz.prog 64 #[.pointer none] w fun e w' => e = .returned (.tuple #[.pointer none, .int .i64 2]) ∧ w = w' := by
  go_enter Tryz.func64, Tryz.ntmps64
  go_wp2
  go_ret2
  exact ⟨rfl, rfl⟩

theorem turanBits_nil (w : World) : Calls Tryz.prog 68 #[.pointer none] w fun e w' => e = .returned (.tuple #[.int .i64 0, .int .i64 2]) ∧ w = w' := by
  go_enter Tryz.func68, Tryz.ntmps68
  go_wp2_with (first | (go_at_call 64; refine (turanEncode_nil _).mono ?_; rintro e w' ⟨rfl, rfl⟩) | (go_at_call 26; refine (wordLen_nil _).mono ?_; rintro e w' ⟨rfl, rfl⟩))
  go_ret2
  exact ⟨rfl, rfl⟩

theorem nil_wd : Wd [] := WRight.nil.wd
theorem nil_canon : CanonOk [] := WRight.nil.canon

theorem enc_nil {l : Nat} {ks : List Nat} {c : Nat} (h : EncR [] l (-1) ks c) : ks = [] ∧ ((l = 1 ∧ c = 0) ∨ (l ≠ 1 ∧ c = 8)) := by
  have h0 : cldr ([] : List Nat).length (sg []) ([] : List Nat).length = 0 := rfl
  have hg : genS (partsA [] 1) = 0 := by simp [partsA, partsL, genS]
  rcases h with ⟨a1, a2, a3⟩ | ⟨a1, a2, a3, a4⟩ | ⟨a1, a2, a3, a4, a5⟩ | ⟨a1, a2, a3, r, T, a4, a5, a6, a7⟩
  · rw [h0] at a1; exact ⟨a3, .inr ⟨by omega, a2⟩⟩
  · rw [h0] at a1
    obtain rfl : l = 1 := by omega
    exact absurd hg a2
  · rw [h0] at a1; exact ⟨a5, .inl ⟨by omega, a3⟩⟩
  · simp at a5

set_option maxRecDepth 100000 in
set_option maxHeartbeats 4000000 in
theorem walkTuranNil (a0 : Int) (w : World) (w0 : (Lit.int .u8 a0).wf = true) :
    Calls Tryz.prog 11 #[.int .u8 a0] w fun e w' => e = .returned (.bool true) ∧ Below w.heap.size w w' := by
  have hnot : ∀ (x : Bool) (w : World), (Op.unary .not (.bool x)).run Tryz.prog w = .ok (.bool (!x)) w := fun _ _ => rfl
  obtain ⟨lo, rfl, hlo⟩ := u8_in w0
  obtain ⟨k, hk⟩ : ∃ k, k = lo % 4 := ⟨_, rfl⟩
  have hk4 : k < 4 := by omega
  have m1 : (lo : Int) % 4 = (k : Int) := by rw [hk]; simp
  have m2 : (lo : Int).tmod 4 = (k : Int) := by rw [hk, Int.tmod_eq_emod_of_nonneg (by omega)]; simp
  clear w0 hk
  go_enter Tryz.func11, Tryz.ntmps11
  go_wp2_with fail
  refine (awake12_any _).mono ?_
  rintro e w1 ⟨rfl, hk1⟩
  have H1 := Lib.hid hk1
  clear hk1
  go_wp2_with fail
  refine (turanEncode_nil _).mono ?_
  rintro e w' ⟨rfl, rfl⟩
  go_wp2_with fail
  refine (turanBits_nil _).mono ?_
  rintro e w' ⟨rfl, rfl⟩
  have hDc := turanDecode_any (.pointer none) [] w1 (by simp) (by simp) (fun W _ => indexOf_nil W)
  go_wp2_with fail
  refine hDc.mono ?_
  intro e w2 h2
  clear hDc
  rcases h2 with ⟨_, _, b, rfl, hA, hb, hk2⟩ | ⟨c, h2, rfl, _⟩
  rotate_left
  · exfalso
    rcases h2 with ⟨h, _⟩ | ⟨_, h, _⟩
    · exact h nil_wd.bal
    · exact h nil_canon
  have hNm := turanNames_any (.pointer none) [] w2 (by simp) (by simp) (fun W _ => indexOf_nil W)
  have H2 := Lib.hid (And.intro (H1.out.trans hk2 (fun _ _ h => h)) hA)
  clear hA hb hk2
  go_wp2_with fail
  refine hNm.mono ?_
  intro e w3 h3
  clear hNm
  rcases h3 with ⟨_, _, g, rfl, hg, hk3⟩ | ⟨c, h3, rfl, _⟩
  rotate_left
  · exfalso
    rcases h3 with ⟨h, _⟩ | ⟨_, h, _⟩
    · exact h nil_wd.bal
    · exact h nil_canon
  have hNw := new_none (.slice none 0 0) k w3 (OwnI.nil 0 _).sl (by omega)
  have H3 := Lib.hid (And.intro (H2.out.1.trans hk3 (fun _ _ h => h)) (H2.out.2.keeps hk3 (fun h => h) (fun _ _ h => h)))
  clear hg hk3
  go_wp2_with fail
  refine hNw.mono ?_
  rintro e w4 ⟨bo, rfl, hAo, hbo, hk4'⟩
  have hEn := turanEncode_any hAo
  have H4 := Lib.hid (And.intro (H3.out.1.trans hk4' (fun _ _ h => h)) (And.intro (H3.out.2.keeps hk4' (fun h => h) (fun _ _ h => h)) (And.intro hbo hk4'.size)))
  clear hNw hAo hbo hk4'
  go_wp2_with fail
  refine hEn.mono ?_
  rintro e w5 ⟨p5, c, ks, rfl, hE, hq, hc⟩
  clear hEn
  obtain ⟨rfl, hkc⟩ := enc_nil hE
  have hlt3 := H3.out.2.lt
  have hk45 := hq.2
  have hA5 := H4.out.2.1.keeps hk45 (fun e => by have := H4.out.2.2.1; omega) (fun x hx e => by
    have h1 := H3.out.2.old x hx
    have := H4.out.2.2.1
    omega)
  have hLo := mapLone_any hA5
  have hDa := mapDarts_any hA5
  have hkw5 : Keeps (fun _ => False) w w5 := H4.out.1.trans hk45 (fun x hx e => by
    have h1 := H4.out.2.2.1
    have h2 := H3.out.1.size
    omega)
  have hCh := turanCheck_any (.pointer none) [] w5 (by simp) (fun W _ => indexOf_nil W)
  have hLw : ∀ W, Keeps (fun _ => False) w5 W → Calls Tryz.prog 26 #[p5] W fun e w' => e = .returned (.int .i64 0) ∧ W = w' := by
    intro W hkW
    rcases hc with ⟨_, bw, rfl, v, hWA, _⟩ | ⟨_, rfl⟩
    · exact wordLen_any bw v [] W (hWA.keeps hkW (fun h => h) (fun _ _ h => h))
    · exact wordLen_nil W
  have H5 := Lib.hid (And.intro hkw5 hLw)
  have HC : ((k : Int) == 1) = ((c : Int) == 0) ∧ (((k : Int) == 1) || ((c : Int) == 8)) = true := by
    rcases hkc with ⟨h1, h2⟩ | ⟨h1, h2⟩
    · subst h1; subst h2; exact ⟨rfl, rfl⟩
    · subst h2
      have : ((k : Int) == 1) = false := by rw [beq_eq_false_iff_ne]; omega
      rw [this]; exact ⟨rfl, rfl⟩
  have hp5 : p5 = .pointer none ∨ ∃ bw, p5 = .pointer (some ⟨bw, 0, none⟩) := by
    rcases hc with ⟨_, bw, h, _⟩ | ⟨_, h⟩
    · exact .inr ⟨bw, h⟩
    · exact .inl h
  clear hE hq hc hk45 hA5 hkw5 hLw hlt3 HC
  rcases hkc with ⟨rfl, rfl⟩ | ⟨hk1, rfl⟩
  · go_wp2_with fail
    refine hLo.mono ?_
    rintro e w' ⟨rfl, rfl⟩
    go_wp2_with fail
    refine hDa.mono ?_
    rintro e w' ⟨rfl, rfl⟩
    clear hLo hDa
    go_wp2_with fail
    refine hCh.mono ?_
    rintro e w6 ⟨c6, rfl, hc6, hk6⟩
    obtain rfl : c6 = 0 := by
      rcases hc6 with ⟨_, _, h⟩ | ⟨h, _⟩ | ⟨_, h, _⟩
      · exact h
      · exact absurd nil_wd.bal h
      · exact absurd nil_canon h
    have hL6 := H5.out.2 w6 hk6
    have H6 := Lib.hid (H5.out.1.trans hk6 (fun _ _ h => h))
    clear hCh hc6 hk6
    go_wp2_with fail
    refine hL6.mono ?_
    rintro e w' ⟨rfl, rfl⟩
    clear hL6
    go_wp2
    go_ret
    exact ⟨rfl, H6.out.below (fun _ _ h => h)⟩
  · have hkn : ((k : Int) == 1) = false := by rw [beq_eq_false_iff_ne]; omega
    go_wp2_with fail
    refine hLo.mono ?_
    rintro e w' ⟨rfl, rfl⟩
    go_wp2_with fail
    refine hDa.mono ?_
    rintro e w' ⟨rfl, rfl⟩
    clear hLo hDa
    go_wp2_with fail
    refine hCh.mono ?_
    rintro e w6 ⟨c6, rfl, hc6, hk6⟩
    obtain rfl : c6 = 0 := by
      rcases hc6 with ⟨_, _, h⟩ | ⟨h, _⟩ | ⟨_, h, _⟩
      · exact h
      · exact absurd nil_wd.bal h
      · exact absurd nil_canon h
    have hL6 := H5.out.2 w6 hk6
    have H6 := Lib.hid (H5.out.1.trans hk6 (fun _ _ h => h))
    clear hCh hc6 hk6
    go_wp2_with fail
    refine hL6.mono ?_
    rintro e w' ⟨rfl, rfl⟩
    clear hL6
    go_wp2
    go_ret
    exact ⟨rfl, H6.out.below (fun _ _ h => h)⟩

end Go.Proofs.YtipelclohcdkcaaGreat
