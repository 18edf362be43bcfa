/- look: Next, Back, Along, Vertex (a place's, by a function value). -/
import Derived.Test.YtipelclohcdkcaaGreatPsLook17
namespace Go.Proofs.YtipelclohcdkcaaGreat
open Go.RowKit

set_option maxRecDepth 100000 in
set_option maxHeartbeats 2000000 in
theorem lookByNext_any {w : World} {bl b bo : Nat} {bi bp : Nat → Nat} {ks : List Nat} {q : Nat} {F : Nat → Prop} {n : Nat} (h : LookS w bl b bo bi bp ks q F n) (hn : n ≤ 1000000) (hq : q ≤ 5000000) (hw : Wd ks) (i : Int) (hi : -9223372036854775808 ≤ i ∧ i ≤ 9223372036854775807) :
    Calls Tryz.prog 127 #[.pointer (some ⟨bl, 0, none⟩), .int .i64 i, .func (.func 128) #[] #[]] w fun e w' => (∃ z c : Nat, e = .returned (.tuple #[.int .i64 z, .int .i64 c]) ∧ ((c = 0 ∧ ∃ j : Nat, i = j ∧ j < ks.length ∧ z = tn ks j) ∨ (c = 1 ∧ z = 0 ∧ ¬ (0 ≤ i ∧ i < ks.length)))) ∧ LookQ w bl b bo bi bp ks (q + 4) F (n + 1) w' := by
  have hP := lookPlace_any h hn i hi
  have H := Lib.hid h
  clear h
  go_enter Tryz.func127, Tryz.ntmps127
  go_wp2_with fail
  refine hP.mono ?_
  rintro e w1 ⟨⟨c, rfl, hc⟩, hS, hk⟩
  have hQ := H.out.placeq hS hk
  clear hP
  rcases hc with ⟨h0, h1, rfl⟩ | ⟨hno, rfl⟩
  · obtain ⟨j, rfl⟩ := Int.eq_ofNat_of_zero_le h0
    have hj : j < ks.length := by omega
    have hM := lookNext_in hQ.1.mix.old hQ.1.mix.after hQ.1.own hQ.1.sep hw j (by omega) hj
    have HT : Hid (∀ w2, MixQ w1 b bo bi bp ks (q + 4) (grow F w w1) w2 → LookQ w bl b bo bi bp ks (q + 4) F (n + 1) w2) := Lib.hid (fun w2 h2 => LookQ.trans H.out.mix.old H.out.lt H.out.sep hQ (hQ.1.ask h2))
    generalize hmp : tn ks j = m at *
    have HMP := Lib.hid (And.intro hmp hj)
    clear hS hk hQ hmp
    go_wp2_with fail
    refine hM.mono ?_
    rintro e w2 ⟨rfl, h2⟩
    have HF := Lib.hid (HT.out w2 h2)
    clear hM h2
    go_wp2
    go_ret2
    exact ⟨⟨m, 0, rfl, .inl ⟨rfl, j, rfl, HMP.out.2, HMP.out.1.symm⟩⟩, HF.out⟩
  · have HF := Lib.hid (And.intro (hQ.more (q' := q + 4) (by omega)) hno)
    clear hS hk hQ hno
    go_wp2
    go_ret2
    exact ⟨⟨0, 1, rfl, .inr ⟨rfl, rfl, HF.out.2⟩⟩, HF.out.1⟩

set_option maxRecDepth 100000 in
set_option maxHeartbeats 1000000 in
theorem lookNextQ_any {w : World} {bl b bo : Nat} {bi bp : Nat → Nat} {ks : List Nat} {q : Nat} {F : Nat → Prop} {n : Nat} (h : LookS w bl b bo bi bp ks q F n) (hn : n ≤ 1000000) (hq : q ≤ 5000000) (hw : Wd ks) (i : Int) (hi : -9223372036854775808 ≤ i ∧ i ≤ 9223372036854775807) :
    Calls Tryz.prog 47 #[.pointer (some ⟨bl, 0, none⟩), .int .i64 i] w fun e w' => (∃ z c : Nat, e = .returned (.tuple #[.int .i64 z, .int .i64 c]) ∧ ((c = 0 ∧ ∃ j : Nat, i = j ∧ j < ks.length ∧ z = tn ks j) ∨ (c = 1 ∧ z = 0 ∧ ¬ (0 ≤ i ∧ i < ks.length)))) ∧ LookQ w bl b bo bi bp ks (q + 4) F (n + 1) w' := by
  have hB := lookByNext_any h hn hq hw i hi
  clear h
  go_enter Tryz.func47, Tryz.ntmps47
  go_wp2_with fail
  refine hB.mono ?_
  rintro e w1 ⟨⟨z, c, rfl, hc⟩, hQ⟩
  have HF := Lib.hid (And.intro hc hQ)
  clear hB hc hQ
  go_wp2
  go_ret2
  exact ⟨⟨z, c, rfl, HF.out.1⟩, HF.out.2⟩

set_option maxRecDepth 100000 in
set_option maxHeartbeats 2000000 in
theorem lookByAlong_any {w : World} {bl b bo : Nat} {bi bp : Nat → Nat} {ks : List Nat} {q : Nat} {F : Nat → Prop} {n : Nat} (h : LookS w bl b bo bi bp ks q F n) (hn : n ≤ 1000000) (hq : q ≤ 5000000) (hw : Wd ks) (i : Int) (hi : -9223372036854775808 ≤ i ∧ i ≤ 9223372036854775807) :
    Calls Tryz.prog 127 #[.pointer (some ⟨bl, 0, none⟩), .int .i64 i, .func (.func 126) #[] #[]] w fun e w' => (∃ z c : Nat, e = .returned (.tuple #[.int .i64 z, .int .i64 c]) ∧ ((c = 0 ∧ ∃ j : Nat, i = j ∧ j < ks.length ∧ z = tn ks (mp ks j)) ∨ (c = 1 ∧ z = 0 ∧ ¬ (0 ≤ i ∧ i < ks.length)))) ∧ LookQ w bl b bo bi bp ks (q + 8) F (n + 1) w' := by
  have hP := lookPlace_any h hn i hi
  have H := Lib.hid h
  clear h
  go_enter Tryz.func127, Tryz.ntmps127
  go_wp2_with fail
  refine hP.mono ?_
  rintro e w1 ⟨⟨c, rfl, hc⟩, hS, hk⟩
  have hQ := H.out.placeq hS hk
  clear hP
  rcases hc with ⟨h0, h1, rfl⟩ | ⟨hno, rfl⟩
  · obtain ⟨j, rfl⟩ := Int.eq_ofNat_of_zero_le h0
    have hj : j < ks.length := by omega
    have hM := lookAlong_in hQ.1.mix.old hQ.1.mix.after hQ.1.own hQ.1.sep hw j (by omega) hj
    have HT : Hid (∀ w2, MixQ w1 b bo bi bp ks (q + 8) (grow F w w1) w2 → LookQ w bl b bo bi bp ks (q + 8) F (n + 1) w2) := Lib.hid (fun w2 h2 => LookQ.trans H.out.mix.old H.out.lt H.out.sep hQ (hQ.1.ask h2))
    generalize hmp : tn ks (mp ks j) = m at *
    have HMP := Lib.hid (And.intro hmp hj)
    clear hS hk hQ hmp
    go_wp2_with fail
    refine hM.mono ?_
    rintro e w2 ⟨rfl, h2⟩
    have HF := Lib.hid (HT.out w2 h2)
    clear hM h2
    go_wp2
    go_ret2
    exact ⟨⟨m, 0, rfl, .inl ⟨rfl, j, rfl, HMP.out.2, HMP.out.1.symm⟩⟩, HF.out⟩
  · have HF := Lib.hid (And.intro (hQ.more (q' := q + 8) (by omega)) hno)
    clear hS hk hQ hno
    go_wp2
    go_ret2
    exact ⟨⟨0, 1, rfl, .inr ⟨rfl, rfl, HF.out.2⟩⟩, HF.out.1⟩

set_option maxRecDepth 100000 in
set_option maxHeartbeats 1000000 in
theorem lookAlongQ_any {w : World} {bl b bo : Nat} {bi bp : Nat → Nat} {ks : List Nat} {q : Nat} {F : Nat → Prop} {n : Nat} (h : LookS w bl b bo bi bp ks q F n) (hn : n ≤ 1000000) (hq : q ≤ 5000000) (hw : Wd ks) (i : Int) (hi : -9223372036854775808 ≤ i ∧ i ≤ 9223372036854775807) :
    Calls Tryz.prog 49 #[.pointer (some ⟨bl, 0, none⟩), .int .i64 i] w fun e w' => (∃ z c : Nat, e = .returned (.tuple #[.int .i64 z, .int .i64 c]) ∧ ((c = 0 ∧ ∃ j : Nat, i = j ∧ j < ks.length ∧ z = tn ks (mp ks j)) ∨ (c = 1 ∧ z = 0 ∧ ¬ (0 ≤ i ∧ i < ks.length)))) ∧ LookQ w bl b bo bi bp ks (q + 8) F (n + 1) w' := by
  have hB := lookByAlong_any h hn hq hw i hi
  clear h
  go_enter Tryz.func49, Tryz.ntmps49
  go_wp2_with fail
  refine hB.mono ?_
  rintro e w1 ⟨⟨z, c, rfl, hc⟩, hQ⟩
  have HF := Lib.hid (And.intro hc hQ)
  clear hB hc hQ
  go_wp2
  go_ret2
  exact ⟨⟨z, c, rfl, HF.out.1⟩, HF.out.2⟩

set_option maxRecDepth 100000 in
set_option maxHeartbeats 2000000 in
theorem lookByVertex_any {w : World} {bl b bo : Nat} {bi bp : Nat → Nat} {ks : List Nat} {q : Nat} {F : Nat → Prop} {n : Nat} (h : LookS w bl b bo bi bp ks q F n) (hn : n ≤ 1000000) (hq : q ≤ 5000000) (hw : Wd ks) (i : Int) (hi : -9223372036854775808 ≤ i ∧ i ≤ 9223372036854775807) :
    Calls Tryz.prog 127 #[.pointer (some ⟨bl, 0, none⟩), .int .i64 i, .func (.func 123) #[] #[]] w fun e w' => (∃ z c : Nat, e = .returned (.tuple #[.int .i64 z, .int .i64 c]) ∧ ((c = 0 ∧ ∃ j : Nat, i = j ∧ j < ks.length ∧ z = vx ks j) ∨ (c = 1 ∧ z = 0 ∧ ¬ (0 ≤ i ∧ i < ks.length)))) ∧ LookQ w bl b bo bi bp ks (q + 9) F (n + 1) w' := by
  have hP := lookPlace_any h hn i hi
  have H := Lib.hid h
  clear h
  go_enter Tryz.func127, Tryz.ntmps127
  go_wp2_with fail
  refine hP.mono ?_
  rintro e w1 ⟨⟨c, rfl, hc⟩, hS, hk⟩
  have hQ := H.out.placeq hS hk
  clear hP
  rcases hc with ⟨h0, h1, rfl⟩ | ⟨hno, rfl⟩
  · obtain ⟨j, rfl⟩ := Int.eq_ofNat_of_zero_le h0
    have hj : j < ks.length := by omega
    have hM := lookVertexV_in hQ.1.mix.old hQ.1.mix.after hQ.1.own hQ.1.sep hw j (by omega) hj
    have HT : Hid (∀ w2, MixQ w1 b bo bi bp ks (q + 9) (grow F w w1) w2 → LookQ w bl b bo bi bp ks (q + 9) F (n + 1) w2) := Lib.hid (fun w2 h2 => LookQ.trans H.out.mix.old H.out.lt H.out.sep hQ (hQ.1.ask h2))
    generalize hmp : vx ks j = m at *
    have HMP := Lib.hid (And.intro hmp hj)
    clear hS hk hQ hmp
    go_wp2_with fail
    refine hM.mono ?_
    rintro e w2 ⟨rfl, h2⟩
    have HF := Lib.hid (HT.out w2 h2)
    clear hM h2
    go_wp2
    go_ret2
    exact ⟨⟨m, 0, rfl, .inl ⟨rfl, j, rfl, HMP.out.2, HMP.out.1.symm⟩⟩, HF.out⟩
  · have HF := Lib.hid (And.intro (hQ.more (q' := q + 9) (by omega)) hno)
    clear hS hk hQ hno
    go_wp2
    go_ret2
    exact ⟨⟨0, 1, rfl, .inr ⟨rfl, rfl, HF.out.2⟩⟩, HF.out.1⟩

set_option maxRecDepth 100000 in
set_option maxHeartbeats 1000000 in
theorem lookVertexQ_any {w : World} {bl b bo : Nat} {bi bp : Nat → Nat} {ks : List Nat} {q : Nat} {F : Nat → Prop} {n : Nat} (h : LookS w bl b bo bi bp ks q F n) (hn : n ≤ 1000000) (hq : q ≤ 5000000) (hw : Wd ks) (i : Int) (hi : -9223372036854775808 ≤ i ∧ i ≤ 9223372036854775807) :
    Calls Tryz.prog 50 #[.pointer (some ⟨bl, 0, none⟩), .int .i64 i] w fun e w' => (∃ z c : Nat, e = .returned (.tuple #[.int .i64 z, .int .i64 c]) ∧ ((c = 0 ∧ ∃ j : Nat, i = j ∧ j < ks.length ∧ z = vx ks j) ∨ (c = 1 ∧ z = 0 ∧ ¬ (0 ≤ i ∧ i < ks.length)))) ∧ LookQ w bl b bo bi bp ks (q + 9) F (n + 1) w' := by
  have hB := lookByVertex_any h hn hq hw i hi
  clear h
  go_enter Tryz.func50, Tryz.ntmps50
  go_wp2_with fail
  refine hB.mono ?_
  rintro e w1 ⟨⟨z, c, rfl, hc⟩, hQ⟩
  have HF := Lib.hid (And.intro hc hQ)
  clear hB hc hQ
  go_wp2
  go_ret2
  exact ⟨⟨z, c, rfl, HF.out.1⟩, HF.out.2⟩

end Go.Proofs.YtipelclohcdkcaaGreat
