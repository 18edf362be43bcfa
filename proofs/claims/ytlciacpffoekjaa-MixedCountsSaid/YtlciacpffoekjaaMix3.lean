/- The contracts of package mixed: Owner, Rank. -/
import Derived.Test.YtlciacpffoekjaaMix2
namespace Go.Proofs.Ytlciacpffoekjaa
open Go.RowKit

/-- What opens the pair that stands behind a place: by the pair around the next one, if that opens, or as its mate. -/
theorem behind_open {l : List Bool} {k o : Nat} (hx : 0 < ex l k) (h : IsBehind l k (ex l k - 1) o) (hb : l.getD k false = true) : RoundOf l k o :=
  .inl ⟨hb, .inr ⟨hx, o, rfl, h⟩⟩

theorem behind_close {l : List Bool} {k o : Nat} (hk : k < l.length) (h : IsBehind l k (ex l k - 1) o) (hb : l.getD k false = false) : MateOf l k o := by
  have hs := bit_ex l hk
  rw [hb, if_neg (by simp)] at hs
  have hp : IsPair l o k := ⟨h.lt, hk, by rw [hs, h.hit], fun p h1 h2 => by have := h.above p h1 h2; rw [h.hit]; omega⟩
  exact hp.mate_r

section
variable {wh wr : World} {b bo : Nat} {bi bp : Nat → Nat} {ks : List Nat} {q : Nat} {F : Nat → Prop} (hF : ∀ x, F x → x < wh.heap.size) (h : MixQ wh b bo bi bp ks q F wr)
include hF h

set_option maxRecDepth 100000 in
set_option maxHeartbeats 1000000 in
theorem mixInner (k o : Nat) (hq : q ≤ 100000000) (hk : k < (ownB 0 ks).length) (hx : 0 < ex (ownB 0 ks) k) (ho : IsBehind (ownB 0 ks) k (ex (ownB 0 ks) k - 1) o) :
    Calls Try.prog 98 #[.pointer (some ⟨b, 0, none⟩), .int .i64 k] wr fun e w' => e = .returned (.int .i64 o) ∧ MixQ wh b bo bi bp ks (q + 4) F w' := by
  obtain ⟨c1, c2⟩ := h.1.cells 0 (by omega)
  simp only [Nat.zero_mul, Nat.add_zero, Nat.reduceAdd] at c1 c2
  obtain ⟨g, hg⟩ : ∃ g, g = wr.heap.size := ⟨_, rfl⟩
  have hX : (wr.alloc (.cells #[.pointer (some ⟨bi 0, 0, none⟩), .pointer (some ⟨bp 0, 0, none⟩)] 123)).heap[g]? = some (.cells #[.pointer (some ⟨bi 0, 0, none⟩), .pointer (some ⟨bp 0, 0, none⟩)] 123 (0, 0)) := by rw [hg]; exact heap_alloc_new wr _
  have hk2 : Keeps (fun _ => False) wr (wr.alloc (.cells #[.pointer (some ⟨bi 0, 0, none⟩), .pointer (some ⟨bp 0, 0, none⟩)] 123)) := (Keeps.refl _ wr).alloc _
  have hgw : wr.heap.size ≤ g := by rw [hg]; exact Nat.le_refl _
  have HG := Lib.hid hg
  cases hb : (ownB 0 ks).getD k false
  · have hm := behind_close hk ho hb
    have HQ := Lib.hid (And.intro h (And.intro hm hb))
    clear h hm ho hg hb
    go_enter Try.func98, Try.ntmps98
    go_wp2_with fail
    rw [← HG.out]
    generalize World.alloc _ _ = W2 at *
    obtain ⟨hQ, hm, hb⟩ := HQ.out
    have hP2 := hQ.1.keeps hk2 (fun _ _ h => h)
    have hgF : ¬ grow F wh wr g := fun e => by have := hQ.1.old g e; omega
    have hF2 := hP2.old
    have q1 := mOpen hP2.after 0 k (by omega) hk
    rw [hb] at q1
    have q2 := mMate hF2 hP2.after 0 k o (by omega) (by omega) hm
    have hfin := fun w7 (h7 : MixQ W2 b bo bi bp ks (q + 2) (grow F wh wr) w7) => MixQ.join hF hQ hk2 h7
    have cX0 : W2.cell? ⟨g, 1, none⟩ = some (.pointer (some ⟨bp 0, 0, none⟩)) := World.cell_of_heap hX 1
    have HH := Lib.hid hfin
    clear hfin hX hk2 hgw hP2 hQ hm hb
    go_wp2_with fail
    refine q1.mono ?_
    rintro e w5 ⟨rfl, rfl⟩
    go_wp2_with fail
    refine q2.mono ?_
    rintro e w6 ⟨rfl, h6⟩
    have H7 := Lib.hid ((HH.out _ h6).more (show q + 2 ≤ q + 4 by omega))
    clear q1 q2 h6 cX0
    go_wp2
    go_ret
    exact ⟨rfl, H7.out⟩
  · have hm := behind_open hx ho hb
    have HQ := Lib.hid (And.intro h (And.intro hm hb))
    clear h hm ho hg hb
    go_enter Try.func98, Try.ntmps98
    go_wp2_with fail
    rw [← HG.out]
    generalize World.alloc _ _ = W2 at *
    obtain ⟨hQ, hm, hb⟩ := HQ.out
    have hP2 := hQ.1.keeps hk2 (fun _ _ h => h)
    have hgF : ¬ grow F wh wr g := fun e => by have := hQ.1.old g e; omega
    have hF2 := hP2.old
    have q1 := mOpen hP2.after 0 k (by omega) hk
    rw [hb] at q1
    have q2 := mRound hF2 hP2.after 0 k o (by omega) (by omega) hk hm
    have hfin := fun w7 (h7 : MixQ W2 b bo bi bp ks (q + 4) (grow F wh wr) w7) => MixQ.join hF hQ hk2 h7
    have cX0 : W2.cell? ⟨g, 1, none⟩ = some (.pointer (some ⟨bp 0, 0, none⟩)) := World.cell_of_heap hX 1
    have HH := Lib.hid hfin
    clear hfin hX hk2 hgw hP2 hQ hm hb
    go_wp2_with fail
    refine q1.mono ?_
    rintro e w5 ⟨rfl, rfl⟩
    go_wp2_with fail
    refine q2.mono ?_
    rintro e w6 ⟨rfl, h6⟩
    have H7 := Lib.hid (HH.out _ h6)
    clear q1 q2 h6 cX0
    go_wp2
    go_ret
    exact ⟨rfl, H7.out⟩

set_option maxRecDepth 100000 in
set_option maxHeartbeats 4000000 in
theorem mixOwner_in (i : Nat) (r : Int) (hq : q ≤ 10000000) (hi : i < ks.length) (hr : OwnerOf ks i r) :
    Calls Try.prog 55 #[.pointer (some ⟨b, 0, none⟩), .int .i64 i] wr fun e w' => e = .returned (.tuple #[.int .i64 r, .int .i64 0]) ∧ MixQ wh b bo bi bp ks (q + 7) F w' := by
  have hk := List.getElem?_eq_getElem hi
  have hk4 := h.1.k4 _ (List.mem_of_getElem? hk)
  generalize ks[i] = k at *
  have hH := mixHas_in h.1 i hi
  have hA := mixAt_in h.1 i k hk
  have hbal := h.1.bal.1
  have hal := pr_le 0 ks i (by omega)
  have hle := h.1.le
  have hple := ownB_le 0 ks
  by_cases hk1 : k = 1
  · have hs := SelAt.at (s := 0) hk (by omega)
    obtain ⟨_, hob⟩ := hs.own hk
    have hb : (ownB 0 ks).getD (pr 0 ks i) false = false := by rw [List.getD_eq_getElem?_getD, hob, hk1]; rfl
    have hlt := hs.jlt
    have hm : ∃ n : Nat, r = n ∧ MixMate ks i n := by
      rcases hr with ⟨h0, _⟩ | ⟨h0, o, n, h1, h2, rfl⟩
      · have hx := bit_ex (ownB 0 ks) hlt
        rw [hb, if_neg (by simp), h0] at hx
        have := hbal.2 (pr 0 ks i + 1) (by omega)
        omega
      · exact ⟨n, rfl, 0, _, o, by omega, hs, h2, behind_close hlt h1 hb⟩
    obtain ⟨n, rfl, hm⟩ := hm
    have hM := fun W (hW : MixQ wh b bo bi bp ks q F W) => mixMate_in hF hW i n (by omega) hm
    have HQ := Lib.hid h
    have hk1' : ((k : Int) == 1) = true := by rw [hk1]; rfl
    clear h hr hm hs hb hob hbal hk1 hk
    go_enter Try.func55, Try.ntmps55
    go_wp2_with (go_at_call 97; refine hH.mono ?_; rintro e w' ⟨rfl, rfl⟩)
    refine hA.mono ?_
    rintro e w5 ⟨rfl, n5, rfl⟩
    have hM := hM _ (HQ.out.drewN n5)
    clear hA hH
    go_wp2_with fail
    refine hM.mono ?_
    rintro e w6 ⟨rfl, h6⟩
    have H7 := Lib.hid (h6.more (show q + 4 ≤ q + 7 by omega))
    clear hM h6
    go_wp2
    go_ret2
    exact ⟨rfl, H7.out⟩
  · have hk1' : ((k : Int) == 1) = false := by rw [beq_eq_false_iff_ne]; omega
    obtain ⟨a, ha⟩ : ∃ a, a = pr 0 ks i := ⟨_, rfl⟩
    have hex := ex_abs (ownB 0 ks) a (by omega)
    have HQ := Lib.hid (And.intro h (And.intro hr (And.intro hk ha)))
    clear h hr hbal hk
    go_enter Try.func55, Try.ntmps55
    go_wp2_with (go_at_call 97; refine hH.mono ?_; rintro e w' ⟨rfl, rfl⟩)
    refine hA.mono ?_
    rintro e w5 ⟨rfl, n5, hw5⟩
    have hQ5 : MixQ wh b bo bi bp ks q F w5 := by rw [hw5]; exact HQ.out.1.drewN n5
    obtain ⟨c1, c2⟩ := hQ5.1.cells 0 (by omega)
    simp only [Nat.zero_mul, Nat.add_zero, Nat.reduceAdd] at c1 c2
    obtain ⟨g, hg⟩ : ∃ g, g = w5.heap.size := ⟨_, rfl⟩
    have hX : (w5.alloc (.cells #[.pointer (some ⟨bi 0, 0, none⟩), .pointer (some ⟨bp 0, 0, none⟩)] 123)).heap[g]? = some (.cells #[.pointer (some ⟨bi 0, 0, none⟩), .pointer (some ⟨bp 0, 0, none⟩)] 123 (0, 0)) := by rw [hg]; exact heap_alloc_new w5 _
    have hk2 : Keeps (fun _ => False) w5 (w5.alloc (.cells #[.pointer (some ⟨bi 0, 0, none⟩), .pointer (some ⟨bp 0, 0, none⟩)] 123)) := (Keeps.refl _ w5).alloc _
    have hgw : w5.heap.size ≤ g := by rw [hg]; exact Nat.le_refl _
    have HG := Lib.hid hg
    have HW := Lib.hid hQ5
    clear hA hH hw5 hg hQ5
    go_wp2_with fail
    rw [← HG.out]
    generalize World.alloc _ _ = W2 at *
    have hP2 := HW.out.1.keeps hk2 (fun _ _ h => h)
    have hgF : ¬ grow F wh w5 g := fun e => by have := HW.out.1.old g e; omega
    have hF2 := hP2.old
    have q1 := mRank hF2 hP2.after 0 i (by omega) (by omega) (by omega)
    rw [← ha] at q1 hal
    have q2 := fun w5' (h5 : MixQ W2 b bo bi bp ks (q + 1) (grow F wh w5) w5') => mExc hF2 h5 0 a (by omega) (by omega) hal
    have hfin := fun q' w7 (h7 : MixQ W2 b bo bi bp ks q' (grow F wh w5) w7) => MixQ.join hF HW.out hk2 h7
    have hkeep := fun w5' q' (h5 : MixQ W2 b bo bi bp ks q' (grow F wh w5) w5') => h5.2.at hX hgF
    have cX0 : W2.cell? ⟨g, 0, none⟩ = some (.pointer (some ⟨bi 0, 0, none⟩)) := World.cell_of_heap hX 0
    have HH := Lib.hid (And.intro hfin hkeep)
    clear hfin hkeep hX hk2 hgw hP2 c1 c2 ha
    go_wp2_with fail
    refine q1.mono ?_
    rintro e w6 ⟨rfl, h6⟩
    have cX1 : w6.cell? ⟨g, 1, none⟩ = some (.pointer (some ⟨bp 0, 0, none⟩)) := World.cell_of_heap (HH.out.2 _ _ h6) 1
    clear q1 cX0
    go_wp2_with fail
    refine (q2 _ h6).mono ?_
    rintro e w7 ⟨rfl, h7⟩
    clear q2 cX1 h6
    obtain ⟨_, hr, hk, ha⟩ := HQ.out
    rw [OwnerOf, ← ha] at hr
    have hA7 := mixAt_in h7.1 i k hk
    rcases hr with ⟨hx0, rfl⟩ | ⟨hx0, o, n, ho, hn, rfl⟩
    · have hx1 : (ex (ownB 0 ks) a == 0) = true := by rw [hx0]; rfl
      have H7 := Lib.hid ((HH.out.1 _ _ h7).more (show q + 1 + 1 ≤ q + 7 by omega))
      clear h7 hx0 hA7 hk ha
      generalize ex (ownB 0 ks) a = x at *
      go_wp2
      go_ret2
      exact ⟨rfl, H7.out⟩
    · have hx1 : (ex (ownB 0 ks) a == 0) = false := by rw [beq_eq_false_iff_ne]; omega
      have hall : a < (ownB 0 ks).length := by
        rcases Nat.lt_or_ge a (ownB 0 ks).length with h | h
        · exact h
        · have := HQ.out.1.1.bal.1.1
          rw [show a = (ownB 0 ks).length by omega] at hx0
          omega
      have cX2 : w7.cell? ⟨g, 0, none⟩ = some (.pointer (some ⟨bi 0, 0, none⟩)) := World.cell_of_heap (HH.out.2 _ _ h7) 0
      have cX3 : w7.cell? ⟨g, 1, none⟩ = some (.pointer (some ⟨bp 0, 0, none⟩)) := World.cell_of_heap (HH.out.2 _ _ h7) 1
      have q5 := fun w5' (h5 : MixQ W2 b bo bi bp ks (q + 1 + 1 + 4) (grow F wh w5) w5') => mSelect hF2 h5 0 o n (by omega) (by omega) hn
      by_cases hk0 : k = 0
      · have hk0' : ((k : Int) == 0) = true := by rw [hk0]; rfl
        have hs := SelAt.at (s := 0) hk (by omega)
        obtain ⟨_, hob⟩ := hs.own hk
        have hb : (ownB 0 ks).getD a false = true := by rw [List.getD_eq_getElem?_getD, ha, hob, hk0]; rfl
        have hro := behind_open hx0 ho hb
        have q4 := fun m => mRound hF2 (h7.drewN m) 0 a o (by omega) (by omega) hall hro
        have H7 := Lib.hid h7
        clear h7 hx0 hk ha hs hob hb hro ho hn hk0
        generalize ex (ownB 0 ks) a = x at *
        go_wp2_with fail
        refine hA7.mono ?_
        rintro e w8 ⟨rfl, n8, rfl⟩
        go_wp2_with fail
        refine (q4 n8).mono ?_
        rintro e w9 ⟨rfl, h9⟩
        have cX4 : w9.cell? ⟨g, 0, none⟩ = some (.pointer (some ⟨bi 0, 0, none⟩)) := World.cell_of_heap (HH.out.2 _ _ h9) 0
        clear q4 hA7 cX2 cX3
        go_wp2_with fail
        refine (q5 _ h9).mono ?_
        rintro e w10 ⟨rfl, h10⟩
        have H10 := Lib.hid (HH.out.1 _ _ h10)
        clear q5 h9 h10 cX4
        go_wp2
        go_ret2
        exact ⟨rfl, H10.out⟩
      · have hk0' : ((k : Int) == 0) = false := by rw [beq_eq_false_iff_ne]; omega
        have q4 := fun m => mixInner hF2 (h7.drewN m) a o (by omega) hall hx0 ho
        have H7 := Lib.hid h7
        clear h7 hx0 hk ha ho hn hk0
        generalize ex (ownB 0 ks) a = x at *
        go_wp2_with fail
        refine hA7.mono ?_
        rintro e w8 ⟨rfl, n8, rfl⟩
        go_wp2_with fail
        refine (q4 n8).mono ?_
        rintro e w9 ⟨rfl, h9⟩
        have cX4 : w9.cell? ⟨g, 0, none⟩ = some (.pointer (some ⟨bi 0, 0, none⟩)) := World.cell_of_heap (HH.out.2 _ _ h9) 0
        clear q4 hA7 cX2 cX3
        go_wp2_with fail
        refine (q5 _ h9).mono ?_
        rintro e w10 ⟨rfl, h10⟩
        have H10 := Lib.hid (HH.out.1 _ _ h10)
        clear q5 h9 h10 cX4
        go_wp2
        go_ret2
        exact ⟨rfl, H10.out⟩

end
end Go.Proofs.Ytlciacpffoekjaa
