/- Layer 4's statements: MixedCounts. -/
import Derived.Test.YtlciacpffoekjaaLaw04d
namespace Go.Proofs.Ytlciacpffoekjaa
open Go.RowKit

theorem SelK.ex {ks : List Nat} {kind k : Nat} (h : k < cntK ks kind) : ∃ n, SelK ks kind k n := by
  have h0 : k < cntK (ks.take ks.length) kind := by rw [List.take_of_length_le (Nat.le_refl _)]; exact h
  obtain ⟨n, h1, h2, h3, h4⟩ := first_of (fun n => k < cntK (ks.take n) kind) 0 ks.length (by rw [Nat.zero_add]; exact h0)
  obtain ⟨m, rfl⟩ : ∃ m, n = m + 1 := ⟨n - 1, by
    rcases Nat.eq_zero_or_pos n with h | h
    · subst h; simp [cntK] at h3
    · omega⟩
  have hm : m < ks.length := by omega
  have h6 := h4 m (by omega) (by omega)
  exact ⟨m, SelK.found hm (by omega) h3⟩

theorem nats_take (ks : List Nat) (m : Nat) : (nats ks).take m = nats (ks.take m) := by simp [nats]

set_option maxRecDepth 100000 in
set_option maxHeartbeats 4000000 in
theorem walkMixedCounts (a0 : Int) (a1 : Option Addr) (len1 cap1 : Nat) (z1 : List Int) (a2 a3 : Int) (w : World) (w0 : (Lit.int .u16 a0).wf = true) (w1 : RowIn .u8 w a1 len1 cap1 z1) (_w2 : (Lit.int .i64 a2).wf = true) (_w3 : (Lit.int .i64 a3).wf = true) :
    Calls Try.prog 16 #[.int .u16 a0, .slice a1 len1 cap1, .int .i64 a2, .int .i64 a3] w fun e w' => e = .returned (.bool true) ∧ Below w.heap.size w w' := by
  have hnot : ∀ (x : Bool) (w : World), (Op.unary .not (.bool x)).run Try.prog w = .ok (.bool (!x)) w := fun _ _ => rfl
  obtain ⟨ps, hp, hps⟩ := w1.bytes
  obtain ⟨n, rfl, hn⟩ := u16_in w0
  clear w0 w1 _w2 _w3
  have hA := fun w1 (hk : Keeps (fun _ => False) w w1) => refAny04_any (.slice a1 len1 cap1) ps (n % 800) w1 (hp.keeps hk (fun _ _ h => h)) hps (by omega)
  have e1 : ((n % 800 : Nat) : Int) = (n : Int) % 800 := by omega
  rw [e1] at hA
  have hm6 : n % 800 < 800 := by omega
  generalize n % 800 = m6 at *
  clear hp hps e1
  go_enter Try.func16, Try.ntmps16
  go_wp2_with fail
  refine (awake04_any _).mono ?_
  rintro e w1 ⟨rfl, hk1⟩
  go_wp2_with fail
  refine (hA _ hk1).mono ?_
  rintro e w2 ⟨sv, ks, rfl, hown, ⟨h4, hkl, hB⟩, hk2⟩
  have k2 := hk1.trans hk2 (fun _ _ h => h)
  have hkl2 : ks.length ≤ 1600 := by omega
  clear hkl
  have hO := of04_any sv ks w2 hown.sl (fun k hk => (hown.lt k hk).2) h4 (by omega)
  clear hA hk1 hk2
  go_wp2_with fail
  refine hO.mono ?_
  rintro e w3 ⟨b, rfl, v, hv, hb, hvb, hk3⟩
  have hown3 := hown.keeps hk3 (fun _ _ h => h)
  have k3 := k2.trans hk3 (fun _ _ h => h)
  have hI := indexOf_word b v ks w3 hv h4 (by omega)
  clear hO hk3 hown k2 hb hvb
  go_wp2_with fail
  refine hI.mono ?_
  clear hI
  intro e w4 h4'
  rcases h4' with ⟨_, bm, bo, bi, bp, rfl, hM, hk4⟩ | ⟨hn, _⟩
  rotate_left
  · exact absurd hB hn
  have hown4 := hown3.keeps hk4 (fun _ _ h => h)
  have k4 := k3.trans hk4 (fun _ _ h => h)
  have hw3 := k3.size
  have hsf := hown4.form
  rw [nats_len] at hsf
  obtain ⟨sa, sc, rfl, hsc1, hsc2⟩ := hsf
  have hown1 : ∀ k, (Value.slice sa ks.length sc).ownBlock = some k → k < w3.heap.size := fun k hk => (hown3.lt k hk).2
  have hownW : ∀ W q, MixQ w4 bm bo bi bp ks q (fun x => w3.heap.size ≤ x ∧ x < w4.heap.size) W → OwnI w1.heap.size W (.slice sa ks.length sc) (nats ks) := fun W q h =>
    hown4.keeps h.2 (fun x hx h => by have := hown1 x hx; omega)
  have hfin : ∀ W q, MixQ w4 bm bo bi bp ks q (fun x => w3.heap.size ≤ x ∧ x < w4.heap.size) W → Below w.heap.size w W := fun W q h => (k4.trans h.2 (fun x hx h => by omega)).below (fun _ _ h => h)
  have hcnt : ∀ W q m, MixQ w4 bm bo bi bp ks q (fun x => w3.heap.size ≤ x ∧ x < w4.heap.size) W → m ≤ ks.length → Calls Try.prog 67 #[.slice sa m sc, .int .i64 a2] W fun e w' => e = .returned (.int .i64 (cntZ (nats (ks.take m)) a2)) ∧ W = w' := fun W q m h hm => by
    have := refCount_any (.slice sa m sc) _ a2 W ((hownW W q h).sl.take m (by rw [nats_len]; exact hm)) (by simp [nats_len]; omega)
    rw [nats_take] at this
    exact this
  have hF := hM.old
  have hQ := hM.after
  have HF := Lib.hid (And.intro hF (And.intro hcnt (And.intro hfin (And.intro hownW h4))))
  clear hown3 hv hown4 hk4 k3 hM k4 hown1 hownW hfin hcnt hF h4 hB
  by_cases hg : 0 ≤ a2 ∧ a2 ≤ 3
  · obtain ⟨kn, rfl⟩ := Int.eq_ofNat_of_zero_le hg.1
    have hk4 : kn ≤ 3 := by omega
    have hcnt : ∀ W q m, MixQ w4 bm bo bi bp ks q (fun x => w3.heap.size ≤ x ∧ x < w4.heap.size) W → m ≤ ks.length → Calls Try.prog 67 #[.slice sa m sc, .int .i64 kn] W fun e w' => e = .returned (.int .i64 (cntK (ks.take m) kn : Nat)) ∧ W = w' := fun W q m h hm => by
      have := HF.out.2.1 W q m h hm
      rw [cntZ_nats] at this
      exact this
    have HC := Lib.hid hcnt
    clear hcnt hg
    have hall : cntK (ks.take ks.length) kn = cntK ks kn := by rw [List.take_of_length_le (Nat.le_refl _)]
    have hcl := cntK_le ks kn
    by_cases hi : a3 < 0
    · have hR := mixRank_out hQ.1 kn a3 (by omega)
      have hS := mixSelect_out HF.out.1 hQ kn a3 (by omega) (by omega)
      clear hQ
      go_wp2_with (first | (go_at_call 54; refine hR.mono ?_; rintro e w' ⟨rfl, rfl⟩) | (go_at_call 66; refine hS.mono ?_; rintro e w' ⟨rfl, hQ2⟩))
      go_ret
      exact ⟨rfl, HF.out.2.2.1 _ _ hQ2⟩
    · obtain ⟨x, rfl⟩ := Int.eq_ofNat_of_zero_le (show 0 ≤ a3 by omega)
      clear hi
      by_cases hx : x ≤ ks.length
      · have hR := mixRank_in HF.out.1 hQ kn x (by omega) (by omega) hx
        by_cases hc : x < cntK ks kn
        · obtain ⟨m, hm⟩ := SelK.ex hc
          have hml := lt_of_get hm.1
          have hS := fun W (h : MixQ w4 bm bo bi bp ks (0 + 2) _ W) => mixSelect_in HF.out.1 h kn x m (by omega) hm
          have HM := Lib.hid hm
          clear hQ hm
          go_wp2_with fail
          refine hR.mono ?_
          rintro e w5 ⟨rfl, hQ5⟩
          have hS5 := hS _ hQ5
          clear hR hQ5 hS
          go_wp2_with fail
          refine hS5.mono ?_
          rintro e w6 ⟨rfl, hQ6⟩
          have hC1 := HC.out _ _ x hQ6 hx
          have hC2 := HC.out _ _ ks.length hQ6 (Nat.le_refl _)
          have hC3 := HC.out _ _ m hQ6 (by omega)
          rw [hall] at hC2
          rw [HM.out.2] at hC3
          have ho := HF.out.2.2.2.1 _ _ hQ6
          obtain ⟨sg, rfl⟩ := own_some ho (by rw [nats_len]; omega)
          obtain ⟨d1, _⟩ := ho.cell (nats_get HM.out.1)
          have HE := Lib.hid hQ6
          have HA := Lib.hid hall
          clear hS5 hQ6 hall ho
          generalize cntK ks kn = c at *
          generalize cntK (ks.take x) kn = c1 at *
          have hkb : ((kn : Int) == (kn : Int)) = true := by simp
          go_wp2_with (go_at_call 67; (first | (with_reducible refine hC1.mono ?_) | (with_reducible refine hC2.mono ?_) | (with_reducible refine hC3.mono ?_)); rintro e w' ⟨rfl, rfl⟩)
          go_ret
          exact ⟨rfl, HF.out.2.2.1 _ _ HE.out⟩
        · have hS := fun W (h : MixQ w4 bm bo bi bp ks (0 + 2) _ W) => mixSelect_out HF.out.1 h kn x (by omega) (by rw [Int.toNat_natCast]; omega)
          clear hQ
          go_wp2_with fail
          refine hR.mono ?_
          rintro e w5 ⟨rfl, hQ5⟩
          have hS5 := hS _ hQ5
          clear hR hQ5 hS
          go_wp2_with fail
          refine hS5.mono ?_
          rintro e w6 ⟨rfl, hQ6⟩
          have hC1 := HC.out _ _ x hQ6 hx
          have hC2 := HC.out _ _ ks.length hQ6 (Nat.le_refl _)
          rw [hall] at hC2
          have HE := Lib.hid hQ6
          have HA := Lib.hid hall
          clear hS5 hQ6 hall
          generalize cntK ks kn = c at *
          generalize cntK (ks.take x) kn = c1 at *
          go_wp2_with (go_at_call 67; (first | (with_reducible refine hC1.mono ?_) | (with_reducible refine hC2.mono ?_)); rintro e w' ⟨rfl, rfl⟩)
          go_ret
          exact ⟨rfl, HF.out.2.2.1 _ _ HE.out⟩
      · have hR := mixRank_out hQ.1 kn x (by omega)
        have hS := mixSelect_out HF.out.1 hQ kn x (by omega) (by rw [Int.toNat_natCast]; omega)
        clear hQ
        go_wp2_with (first | (go_at_call 54; refine hR.mono ?_; rintro e w' ⟨rfl, rfl⟩) | (go_at_call 66; refine hS.mono ?_; rintro e w6 ⟨rfl, hQ6⟩))
        have hC2 := HC.out _ _ ks.length hQ6 (Nat.le_refl _)
        rw [hall] at hC2
        have HE := Lib.hid hQ6
        have HA := Lib.hid hall
        clear hR hS hQ6 hall
        generalize cntK ks kn = c at *
        go_wp2_with (go_at_call 67; refine hC2.mono ?_; rintro e w' ⟨rfl, rfl⟩)
        go_ret
        exact ⟨rfl, HF.out.2.2.1 _ _ HE.out⟩
  · have hR := mixRank_out hQ.1 a2 a3 (fun h => hg h.1)
    have hS := mixSelect_out HF.out.1 hQ a2 a3 (by omega) (fun h => hg h.1)
    have hg2 : a2 < 0 ∨ (0 ≤ a2 ∧ 4 ≤ a2) := by omega
    clear hg hQ
    rcases hg2 with hg | ⟨hg, hg'⟩
    · go_wp2_with (first | (go_at_call 54; refine hR.mono ?_; rintro e w' ⟨rfl, rfl⟩) | (go_at_call 66; refine hS.mono ?_; rintro e w' ⟨rfl, hQ2⟩))
      go_ret
      exact ⟨rfl, HF.out.2.2.1 _ _ hQ2⟩
    · go_wp2_with (first | (go_at_call 54; refine hR.mono ?_; rintro e w' ⟨rfl, rfl⟩) | (go_at_call 66; refine hS.mono ?_; rintro e w' ⟨rfl, hQ2⟩))
      go_ret
      exact ⟨rfl, HF.out.2.2.1 _ _ hQ2⟩

end Go.Proofs.Ytlciacpffoekjaa
