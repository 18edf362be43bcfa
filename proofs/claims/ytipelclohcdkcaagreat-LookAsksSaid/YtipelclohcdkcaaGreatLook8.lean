/- look: Mate (a place's, by a function value). -/
import Derived.Test.YtipelclohcdkcaaGreatLook7
namespace Go.Proofs.YtipelclohcdkcaaGreat
open Go.RowKit

/-- In one place only bl is turned. -/
theorem LookS.placeq {w w1 : World} {bl b bo : Nat} {bi bp : Nat → Nat} {ks : List Nat} {q : Nat} {F : Nat → Prop} {n m : Nat} (h : LookS w bl b bo bi bp ks q F n) (h1 : LookS w1 bl b bo bi bp ks q F m) (k : Keeps (fun x => x = bl) w w1) : LookQ w bl b bo bi bp ks q F m w1 := by
  have hb := h.lt
  refine ⟨⟨h1.own, h1.mix.mono (fun x hx => .inl hx) (grow_old h.mix.old k.size), fun hx => ?_⟩, k.mono (fun _ _ hx => .inr hx)⟩
  rcases hx with hx | hx
  · exact h.sep hx
  · omega

set_option maxRecDepth 100000 in
set_option maxHeartbeats 2000000 in
theorem lookByMate_any {w : World} {bl b bo : Nat} {bi bp : Nat → Nat} {ks : List Nat} {q : Nat} {F : Nat → Prop} {n : Nat} (h : LookS w bl b bo bi bp ks q F n) (hn : n ≤ 1000000) (hq : q ≤ 5000000) (hw : Wd ks) (i : Int) (hi : -9223372036854775808 ≤ i ∧ i ≤ 9223372036854775807) :
    Calls Tryz.prog 127 #[.pointer (some ⟨bl, 0, none⟩), .int .i64 i, .func (.func 124) #[] #[]] w fun e w' => (∃ z c : Nat, e = .returned (.tuple #[.int .i64 z, .int .i64 c]) ∧ ((c = 0 ∧ ∃ j : Nat, i = j ∧ j < ks.length ∧ z = mp ks j) ∨ (c = 1 ∧ z = 0 ∧ ¬ (0 ≤ i ∧ i < ks.length)))) ∧ LookQ w bl b bo bi bp ks (q + 4) F (n + 1) w' := by
  have hP := lookPlace_any h hn i hi
  have H := Lib.hid h
  clear h
  go_enter Tryz.func127, Tryz.ntmps127
  go_wp2_with fail
  refine hP.mono ?_
  rintro e w1 ⟨⟨c, rfl, hc⟩, hS, hk⟩
  have hQ := H.out.placeq hS hk
  clear hP
  rcases hc with ⟨h0, h1, rfl⟩ | ⟨hno, rfl⟩
  · obtain ⟨j, rfl⟩ := Int.eq_ofNat_of_zero_le h0
    have hj : j < ks.length := by omega
    have hM := lookMate_in hQ.1.mix.old hQ.1.mix.after hQ.1.own hQ.1.sep hw j (by omega) hj
    have HT : Hid (∀ w2, MixQ w1 b bo bi bp ks (q + 4) (grow F w w1) w2 → LookQ w bl b bo bi bp ks (q + 4) F (n + 1) w2) := Lib.hid (fun w2 h2 => LookQ.trans H.out.mix.old H.out.lt H.out.sep hQ (hQ.1.ask h2))
    generalize hmp : mp ks j = m at *
    have HMP := Lib.hid (And.intro hmp hj)
    clear hS hk hQ hmp
    go_wp2_with fail
    refine hM.mono ?_
    rintro e w2 ⟨rfl, h2⟩
    have HF := Lib.hid (HT.out w2 h2)
    clear hM h2
    go_wp2
    go_ret2
    exact ⟨⟨m, 0, rfl, .inl ⟨rfl, j, rfl, HMP.out.2, HMP.out.1.symm⟩⟩, HF.out⟩
  · have HF := Lib.hid (And.intro (hQ.more (q' := q + 4) (by omega)) hno)
    clear hS hk hQ hno
    go_wp2
    go_ret2
    exact ⟨⟨0, 1, rfl, .inr ⟨rfl, rfl, HF.out.2⟩⟩, HF.out.1⟩

set_option maxRecDepth 100000 in
set_option maxHeartbeats 1000000 in
theorem lookMateQ_any {w : World} {bl b bo : Nat} {bi bp : Nat → Nat} {ks : List Nat} {q : Nat} {F : Nat → Prop} {n : Nat} (h : LookS w bl b bo bi bp ks q F n) (hn : n ≤ 1000000) (hq : q ≤ 5000000) (hw : Wd ks) (i : Int) (hi : -9223372036854775808 ≤ i ∧ i ≤ 9223372036854775807) :
    Calls Tryz.prog 46 #[.pointer (some ⟨bl, 0, none⟩), .int .i64 i] w fun e w' => (∃ z c : Nat, e = .returned (.tuple #[.int .i64 z, .int .i64 c]) ∧ ((c = 0 ∧ ∃ j : Nat, i = j ∧ j < ks.length ∧ z = mp ks j) ∨ (c = 1 ∧ z = 0 ∧ ¬ (0 ≤ i ∧ i < ks.length)))) ∧ LookQ w bl b bo bi bp ks (q + 4) F (n + 1) w' := by
  have hB := lookByMate_any h hn hq hw i hi
  clear h
  go_enter Tryz.func46, Tryz.ntmps46
  go_wp2_with fail
  refine hB.mono ?_
  rintro e w1 ⟨⟨z, c, rfl, hc⟩, hQ⟩
  have HF := Lib.hid (And.intro hc hQ)
  clear hB hc hQ
  go_wp2
  go_ret2
  exact ⟨⟨z, c, rfl, HF.out.1⟩, HF.out.2⟩

end Go.Proofs.YtipelclohcdkcaaGreat
