/- The contracts of package mixed: Rank, Select. -/
import Derived.Test.YtlciacpffoekjaaMix3
namespace Go.Proofs.Ytlciacpffoekjaa
open Go.RowKit

theorem kinds_any (kind s op : Nat) (w : World) (ho : op ≤ 1) (hk : kind + op = 2 * s + 1) (hs : s < 2) :
    Calls Try.prog 96 #[.int .i64 kind] w fun e w' => e = .returned (.tuple #[.int .i64 s, .int .i64 op]) ∧ w = w' := by
  have e1 : (kind : Int) / 2 = (s : Int) := by omega
  have e2 : (kind : Int) % 2 = 1 - (op : Int) := by omega
  have e3 : (1 : Int) - (1 - (op : Int)) = (op : Int) := by omega
  have HE := Lib.hid (And.intro e1 (And.intro e2 e3))
  have hk3 : kind ≤ 3 := by omega
  clear e1 e2 e3 hk
  go_enter Try.func96, Try.ntmps96
  go_wp2
  go_ret2
  exact ⟨by rw [HE.out.1, HE.out.2.1, HE.out.2.2]; rfl, rfl⟩

section
variable {wh wr : World} {b bo : Nat} {bi bp : Nat → Nat} {ks : List Nat} {q : Nat} {F : Nat → Prop} (hF : ∀ x, F x → x < wh.heap.size) (h : MixQ wh b bo bi bp ks q F wr)
include hF h

set_option maxRecDepth 100000 in
set_option maxHeartbeats 2000000 in
theorem mixRank_in (kind n : Nat) (hq : q ≤ 500000000) (hk : kind < 4) (hn : n ≤ ks.length) :
    Calls Try.prog 54 #[.pointer (some ⟨b, 0, none⟩), .int .i64 kind, .int .i64 n] wr fun e w' => e = .returned (.tuple #[.int .i64 (cntK (ks.take n) kind : Nat), .int .i64 0]) ∧ MixQ wh b bo bi bp ks (q + 2) F w' := by
  have hnot : ∀ (x : Bool) (w : World), (Op.unary .not (.bool x)).run Try.prog w = .ok (.bool (!x)) w := fun _ _ => rfl
  obtain ⟨s, op, hs, ho, hks⟩ : ∃ s op, s < 2 ∧ op ≤ 1 ∧ kind + op = 2 * s + 1 := ⟨kind / 2, 1 - kind % 2, by omega, by omega, by omega⟩
  have hR := right_any kind true wr (decide_eq_true (by omega)).symm
  have hL := mixLen_any h.1
  have hK := kinds_any kind s op wr ho hks hs
  obtain ⟨c1, c2⟩ := h.1.cells s hs
  have hle := h.1.le
  obtain ⟨n1, n2⟩ := count_own (ks := ks) s n hn
  have hpl := pr_le s ks n hn
  have hol := ownB_le s ks
  have q1 := mRank hF h s n hs (by omega) hn
  obtain ⟨a, ha⟩ : ∃ a, a = pr s ks n := ⟨_, rfl⟩
  rw [← ha] at q1 hpl n1 n2
  have q2 := fun w5 (h5 : MixQ wh b bo bi bp ks (q + 1) F w5) => mExc hF h5 s a hs (by omega) hpl
  have hkc := fun w5 (h5 : MixQ wh b bo bi bp ks (q + 1) F w5) => h5.1.cells s hs
  have hx := ex_abs (ownB s ks) a (by omega)
  have hs0 : (0 : Int) ≤ (s : Int) := by omega
  have hs1 : (s : Int) < 2 := by omega
  have hfin : (op = 1 → (((a : Int) + ex (ownB s ks) a) / 2 = (cntK (ks.take n) kind : Nat))) ∧ (op = 0 → (((a : Int) - ex (ownB s ks) a) / 2 = (cntK (ks.take n) kind : Nat))) := by
    constructor
    · intro h1
      rw [show kind = 2 * s by omega]
      omega
    · intro h1
      rw [show kind = 2 * s + 1 by omega]
      omega
  have hab : 0 ≤ ex (ownB s ks) a + a ∧ ex (ownB s ks) a ≤ a := by omega
  have HF := Lib.hid hfin
  clear h hF hfin n1 n2 ha hks
  generalize ex (ownB s ks) a = x at *
  have hop : op = 1 ∨ op = 0 := by omega
  go_enter Try.func54, Try.ntmps54
  go_wp2_with (first | (go_at_call 95; refine hR.mono ?_; rintro e w' ⟨rfl, rfl⟩) | (go_at_call 59; refine hL.mono ?_; rintro e w' ⟨rfl, rfl⟩) | (go_at_call 96; refine hK.mono ?_; rintro e w' ⟨rfl, rfl⟩))
  refine q1.mono ?_
  rintro e w5 ⟨rfl, h5⟩
  obtain ⟨d1, d2⟩ := hkc _ h5
  clear hR hL hK q1 c1 c2 hkc
  go_wp2_with fail
  refine (q2 _ h5).mono ?_
  rintro e w6 ⟨rfl, h6⟩
  have H6 := Lib.hid h6
  clear h5 h6 q2 d1 d2
  rcases hop with rfl | rfl
  · have H1 := Lib.hid (HF.out.1 rfl)
    clear HF
    go_wp2
    go_ret2
    exact ⟨by rw [H1.out]; rfl, H6.out⟩
  · have H1 := Lib.hid (HF.out.2 rfl)
    clear HF
    go_wp2
    go_ret2
    exact ⟨by rw [H1.out]; rfl, H6.out⟩

end

theorem mixRank_out {wr : World} {b bo : Nat} {bi bp : Nat → Nat} {ks : List Nat} {q : Nat} {F : Nat → Prop} (h : MixP wr b bo bi bp ks q F) (kind i : Int) (hi : ¬ ((0 ≤ kind ∧ kind ≤ 3) ∧ 0 ≤ i ∧ i ≤ ks.length)) :
    Calls Try.prog 54 #[.pointer (some ⟨b, 0, none⟩), .int .i64 kind, .int .i64 i] wr fun e w' => e = .returned (.tuple #[.int .i64 0, .int .i64 1]) ∧ wr = w' := by
  have hnot : ∀ (x : Bool) (w : World), (Op.unary .not (.bool x)).run Try.prog w = .ok (.bool (!x)) w := fun _ _ => rfl
  have hL := mixLen_any h
  clear h
  by_cases hk : 0 ≤ kind ∧ kind ≤ 3
  · have hR := right_any kind true wr (decide_eq_true hk).symm
    have hc : i < 0 ∨ (0 ≤ i ∧ (ks.length : Int) < i) := by omega
    clear hi hk
    rcases hc with h1 | ⟨h1, h2⟩
    all_goals
      go_enter Try.func54, Try.ntmps54
      go_wp2_with (first | (go_at_call 95; refine hR.mono ?_; rintro e w' ⟨rfl, rfl⟩) | (go_at_call 59; refine hL.mono ?_; rintro e w' ⟨rfl, rfl⟩))
      go_ret2
      exact ⟨rfl, rfl⟩
  · have hR := right_any kind false wr (decide_eq_false hk).symm
    clear hi hk
    go_enter Try.func54, Try.ntmps54
    go_wp2_with (first | (go_at_call 95; refine hR.mono ?_; rintro e w' ⟨rfl, rfl⟩) | (go_at_call 59; refine hL.mono ?_; rintro e w' ⟨rfl, rfl⟩))
    go_ret2
    exact ⟨rfl, rfl⟩

theorem mixRank_nil (kind i : Int) (w : World) :
    Calls Try.prog 54 #[.pointer none, .int .i64 kind, .int .i64 i] w fun e w' => e = .returned (.tuple #[.int .i64 0, .int .i64 2]) ∧ w = w' := by
  go_enter Try.func54, Try.ntmps54
  go_wp2
  go_ret2
  exact ⟨rfl, rfl⟩

theorem mixSelect_nil (kind i : Int) (w : World) :
    Calls Try.prog 66 #[.pointer none, .int .i64 kind, .int .i64 i] w fun e w' => e = .returned (.tuple #[.int .i64 0, .int .i64 2]) ∧ w = w' := by
  go_enter Try.func66, Try.ntmps66
  go_wp2
  go_ret2
  exact ⟨rfl, rfl⟩

/-- One of a kind stands there, with so many ahead of it. -/
def SelK (ks : List Nat) (kind k n : Nat) : Prop := ks[n]? = some kind ∧ cntK (ks.take n) kind = k

theorem cntK_mono (ks : List Nat) (kind : Nat) {a c : Nat} (h : a ≤ c) : cntK (ks.take a) kind ≤ cntK (ks.take c) kind := by
  have : ks.take c = ks.take a ++ (ks.take c).drop a := by
    conv => lhs; rw [← List.take_append_drop a (ks.take c)]
    rw [List.take_take, Nat.min_eq_left h]
  rw [this]
  unfold cntK
  rw [List.filter_append, List.length_append]
  omega

theorem SelK.found {ks : List Nat} {kind k n : Nat} (hn : n < ks.length) (h1 : cntK (ks.take n) kind ≤ k) (h2 : k < cntK (ks.take (n + 1)) kind) : SelK ks kind k n := by
  have hk := List.getElem?_eq_getElem hn
  have := cntK_get hk kind
  split at this
  · rename_i he
    exact ⟨by rw [hk, he], by omega⟩
  · omega

theorem SelK.unique {ks : List Nat} {kind k n m : Nat} (h : SelK ks kind k n) (h2 : SelK ks kind k m) : n = m := by
  rcases Nat.lt_trichotomy n m with hl | rfl | hl
  · have h3 := cntK_get h.1 kind
    rw [if_pos rfl] at h3
    have h4 := cntK_mono ks kind (show n + 1 ≤ m from hl)
    have := h.2; have := h2.2; omega
  · rfl
  · have h3 := cntK_get h2.1 kind
    rw [if_pos rfl] at h3
    have h4 := cntK_mono ks kind (show m + 1 ≤ n from hl)
    have := h.2; have := h2.2; omega

section
variable {wh wr : World} {b bo : Nat} {bi bp : Nat → Nat} {ks : List Nat} {q : Nat} {F : Nat → Prop} (hF : ∀ x, F x → x < wh.heap.size) (h : MixQ wh b bo bi bp ks q F wr)
include hF h

theorem mixSelect_out (kind k : Int) (hq : q ≤ 100000000) (hi : ¬ ((0 ≤ kind ∧ kind ≤ 3) ∧ 0 ≤ k ∧ k < cntK ks kind.toNat)) :
    Calls Try.prog 66 #[.pointer (some ⟨b, 0, none⟩), .int .i64 kind, .int .i64 k] wr fun e w' => e = .returned (.tuple #[.int .i64 0, .int .i64 1]) ∧ MixQ wh b bo bi bp ks (q + 2) F w' := by
  have hL := mixLen_any h.1
  by_cases hk : 0 ≤ kind ∧ kind ≤ 3
  · obtain ⟨kn, rfl⟩ := Int.eq_ofNat_of_zero_le hk.1
    have hR := mixRank_in hF h kn ks.length (by omega) (by omega) (Nat.le_refl _)
    rw [List.take_of_length_le (Nat.le_refl _)] at hR
    rw [Int.toNat_natCast] at hi
    have hc : k < 0 ∨ (0 ≤ k ∧ (cntK ks kn : Int) ≤ k) := by omega
    clear hi hk h hF
    generalize cntK ks kn = c at *
    rcases hc with h1 | ⟨h1, h2⟩
    all_goals
      go_enter Try.func66, Try.ntmps66
      go_wp2_with (first | (go_at_call 59; refine hL.mono ?_; rintro e w' ⟨rfl, rfl⟩) | (go_at_call 54; refine hR.mono ?_; rintro e w' ⟨rfl, hP⟩))
      go_ret2
      exact ⟨rfl, hP⟩
  · have hR := mixRank_out h.1 kind ks.length (fun e => hk e.1)
    have HP := Lib.hid (h.more (show q ≤ q + 2 by omega))
    clear hi hk h hF
    go_enter Try.func66, Try.ntmps66
    go_wp2_with (first | (go_at_call 59; refine hL.mono ?_; rintro e w' ⟨rfl, rfl⟩) | (go_at_call 54; refine hR.mono ?_; rintro e w' ⟨rfl, rfl⟩))
    go_ret2
    exact ⟨rfl, HP.out⟩

set_option maxRecDepth 100000 in
set_option maxHeartbeats 4000000 in
theorem mixSelect_in (kind k n : Nat) (hq : q ≤ 100000000) (hn : SelK ks kind k n) :
    Calls Try.prog 66 #[.pointer (some ⟨b, 0, none⟩), .int .i64 kind, .int .i64 k] wr fun e w' => e = .returned (.tuple #[.int .i64 n, .int .i64 0]) ∧ MixQ wh b bo bi bp ks (q + 2 + 2 * ks.length) F w' := by
  have hle := h.1.le
  have hnl := lt_of_get hn.1
  have hk4 := h.1.k4 kind (List.mem_of_getElem? hn.1)
  have hL := mixLen_any h.1
  have hL2 := fun W q' (hW : MixQ wh b bo bi bp ks q' F W) => mixLen_any hW.1
  have hR := mixRank_in hF h kind ks.length (by omega) hk4 (Nat.le_refl _)
  rw [List.take_of_length_le (Nat.le_refl _)] at hR
  have hc0 := cntK_le ks kind
  have hck : k < cntK ks kind := by
    have h3 := cntK_get hn.1 kind
    rw [if_pos rfl] at h3
    have h4 := cntK_mono ks kind (show n + 1 ≤ ks.length from hnl)
    rw [List.take_of_length_le (Nat.le_refl ks.length)] at h4
    have := hn.2; omega
  have HN := Lib.hid (And.intro hn hF)
  have HC := Lib.hid hck
  obtain ⟨c, hc⟩ : ∃ c, c = cntK ks kind := ⟨_, rfl⟩
  rw [← hc] at hR hck hc0
  clear h hn hc hF
  go_enter Try.func66, Try.ntmps66
  go_wp2_with (first | (go_at_call 59; refine hL.mono ?_; rintro e w' ⟨rfl, rfl⟩) | (go_at_call 54; refine hR.mono ?_; rintro e w1 ⟨rfl, hP⟩))
  refine (hL2 _ _ hP).mono ?_
  rintro e w2 ⟨rfl, rfl⟩
  clear hL hR
  go_wp2_with fail
  go_loopw [10, 11] (fun lo hi wr => ∃ x y q' : Nat, lo = .int .i64 x ∧ hi = .int .i64 y ∧ x < y ∧ y ≤ ks.length ∧ cntK (ks.take x) kind ≤ k ∧ k < cntK (ks.take y) kind ∧ q' + 2 * (y - x) ≤ q + 2 + 2 * ks.length ∧ MixQ wh b bo bi bp ks q' F wr) (fun lo hi _ => (intOf hi - intOf lo).toNat)
  case atStart => exact ⟨0, ks.length, q + 2, rfl, rfl, by omega, Nat.le_refl _, by simp [cntK], by rw [List.take_of_length_le (Nat.le_refl _)]; exact HC.out, by omega, hP⟩
  case round =>
    obtain ⟨x, y, q', rfl, rfl, hxy, hy, h1, h2, hq', hQ⟩ := hrel
    clear hP
    by_cases hlt : x + 1 < y
    · obtain ⟨m, hm⟩ : ∃ m, m = (x + y) / 2 := ⟨_, rfl⟩
      have hmd : ((x : Int) + (y : Int)) / 2 = (m : Int) := by omega
      have hm1 : x < m := by omega
      have hm2 : m < y := by omega
      have hR := mixRank_in HN.out.2 hQ kind m (by omega) hk4 (by omega)
      have H12 := Lib.hid (And.intro h1 h2)
      clear hQ h1 h2 hm
      have hcm : cntK (ks.take m) kind ≤ 100000000 := by have := cntK_le (ks.take m) kind; have : (ks.take m).length ≤ m := List.length_take_le _ _; omega
      by_cases hgt : k < cntK (ks.take m) kind
      · have HG := Lib.hid hgt
        generalize hr : cntK (ks.take m) kind = r at *
        have HR := Lib.hid hr
        clear hr
        go_wp2_with fail
        refine hR.mono ?_
        rintro e w3 ⟨rfl, h3⟩
        clear hR
        go_wp2
        go_roundw
        case rel => exact ⟨x, m, _, rfl, rfl, hm1, by omega, H12.out.1, by rw [HR.out]; exact HG.out, by omega, h3⟩
        case measure => simp [intOf]; omega
      · have HG := Lib.hid (Nat.le_of_not_lt hgt)
        generalize hr : cntK (ks.take m) kind = r at *
        have HR := Lib.hid hr
        clear hr
        have hgt2 : r ≤ k := by omega
        go_wp2_with fail
        refine hR.mono ?_
        rintro e w3 ⟨rfl, h3⟩
        clear hR
        go_wp2
        go_roundw
        case rel => exact ⟨m, y, _, rfl, rfl, hm2, hy, by rw [HR.out]; exact HG.out, H12.out.2, by omega, h3⟩
        case measure => simp [intOf]; omega
    · obtain rfl : y = x + 1 := by omega
      have hx := HN.out.1.unique (SelK.found (by omega) h1 h2)
      have HX := Lib.hid hx
      have HQ := Lib.hid (hQ.more (show q' ≤ q + 2 + 2 * ks.length by omega))
      clear hQ h1 h2 hx
      go_wp2
      go_ret2
      exact ⟨by rw [HX.out]; rfl, HQ.out⟩

end
end Go.Proofs.Ytlciacpffoekjaa
