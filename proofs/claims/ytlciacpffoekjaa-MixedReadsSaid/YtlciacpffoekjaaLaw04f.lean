/- Layer 4's statements: MixedReads. -/
import Derived.Test.YtlciacpffoekjaaRef4
import Derived.Test.YtlciacpffoekjaaTexts
namespace Go.Proofs.Ytlciacpffoekjaa
open Go.RowKit

theorem nats_inj {a c : List Nat} (h : nats a = nats c) : a = c := by
  have := congrArg toKs h
  rwa [toKs_nats, toKs_nats] at this

theorem kinds4_of {s : ByteArray} {ks : List Nat} (h : s.data.toList.map kindZ = nats ks) : ∀ k ∈ ks, k < 4 := by
  intro k hk
  have : (k : Int) ∈ nats ks := List.mem_map.2 ⟨k, hk, rfl⟩
  rw [← h] at this
  obtain ⟨c, _, hc⟩ := List.mem_map.1 this
  have := (kindZ_bd c).2
  omega

theorem kinds_len {s : ByteArray} {ks : List Nat} (h : s.data.toList.map kindZ = nats ks) : ks.length = s.size := by
  have := congrArg List.length h
  rw [List.length_map, nats_len] at this
  rw [← this]; simp

/-- Two searches for the first other sign find the same. -/
theorem first_same {l : List UInt8} {i j : Nat} (hi : ∀ x, x < i → ∀ c, l[x]? = some c → 0 ≤ kindZ c) (hi2 : ∃ c, l[i]? = some c ∧ kindZ c < 0)
    (hj : ∀ x, x < j → ∀ c, l[x]? = some c → 0 ≤ kindZ c) (hj2 : ∃ c, l[j]? = some c ∧ kindZ c < 0) : i = j := by
  obtain ⟨c, hc, hc2⟩ := hi2
  obtain ⟨d, hd, hd2⟩ := hj2
  rcases Nat.lt_trichotomy i j with h | h | h
  · have := hj i h c hc; omega
  · exact h
  · have := hi j h d hd; omega

theorem first_none {l : List UInt8} {ks : List Nat} (h : l.map kindZ = nats ks) {i : Nat} (hi2 : ∃ c, l[i]? = some c ∧ kindZ c < 0) : False := by
  obtain ⟨c, hc, hc2⟩ := hi2
  have : kindZ c ∈ l.map kindZ := List.mem_map.2 ⟨c, List.mem_of_getElem? hc, rfl⟩
  rw [h] at this
  obtain ⟨k, _, hk⟩ := List.mem_map.1 this
  omega

set_option maxRecDepth 100000 in
set_option maxHeartbeats 4000000 in
theorem walkMixedReads (a0 : ByteArray) (w : World) (w0 : a0.size ≤ maxLen) :
    Calls Try.prog 15 #[.string a0] w fun e w' => e = .returned (.bool true) ∧ Below w.heap.size w w' := by
  have hnot : ∀ (x : Bool) (w : World), (Op.unary .not (.bool x)).run Try.prog w = .ok (.bool (!x)) w := fun _ _ => rfl
  unfold maxLen at w0
  obtain ⟨t, ht⟩ : ∃ t, t = a0.extract 0 (min (↑a0.size) (60 : Int)).toNat := ⟨_, rfl⟩
  have hts : t.size ≤ 60 := by rw [ht]; simp; omega
  have hP := fun w1 => parse_any t w1 (by omega)
  have hK := fun w1 => refKinds_any t w1 (by omega)
  have HT := Lib.hid ht
  clear ht
  go_enter Try.func15, Try.ntmps15
  go_wp2_with fail
  refine (awake04_any _).mono ?_
  rintro e w1 ⟨rfl, hk1⟩
  go_wp2_with fail
  rw [← HT.out]
  refine (hP _).mono ?_
  clear hP
  intro e w2 h2
  rcases h2 with ⟨b, ks, hks, rfl, v, hv, hb, hvb, hk2⟩ | ⟨i, hi, hi1, hi2, rfl, hk2⟩
  · have k2 := hk1.trans hk2 (fun _ _ h => h)
    have HB := Lib.hid (And.intro hv (And.intro hks (And.intro k2 hvb)))
    clear hk1 hk2 hv hks hb hvb k2
    go_wp2_with fail
    refine (hK _).mono ?_
    clear hK
    intro e w3 h3
    rcases h3 with ⟨sv, ks', hks', rfl, hown, hk3⟩ | ⟨i, _, _, hi2, _⟩
    rotate_left
    · exact absurd hi2 (fun h => first_none HB.out.2.1 h)
    obtain rfl : ks' = ks := nats_inj (hks'.symm.trans HB.out.2.1)
    clear hks'
    have hv3 := HB.out.1.keeps hk3 (fun h => h) (fun _ _ h => h)
    have k3 := HB.out.2.2.1.trans hk3 (fun _ _ h => h)
    have hLk := like_any b v sv ks' w3 hv3 hown.sl (fun k hk => (hown.lt k hk).2) (kinds4_of HB.out.2.1) (by rw [kinds_len HB.out.2.1]; omega)
    have HK := Lib.hid k3
    clear hv3 hk3 k3 hown
    go_wp2_with fail
    refine hLk.mono ?_
    rintro e w4 ⟨rfl, hk4⟩
    have HF := Lib.hid ((HK.out.trans hk4 (fun _ _ h => h)).below (fun _ _ h => h))
    clear hLk hk4
    go_wp2
    go_ret
    exact ⟨rfl, HF.out⟩
  · have k2 := hk1.trans hk2 (fun _ _ h => h)
    have HB := Lib.hid (And.intro hi1 (And.intro hi2 k2))
    clear hk1 hk2 hi1 hi2 k2
    go_wp2_with fail
    refine (hK _).mono ?_
    clear hK
    intro e w3 h3
    rcases h3 with ⟨sv, ks', hks', rfl, hown, hk3⟩ | ⟨j, hj, hj1, hj2, rfl, hk3⟩
    · exact absurd HB.out.2.1 (fun h => first_none hks' h)
    obtain rfl : i = j := first_same HB.out.1 HB.out.2.1 hj1 hj2
    have HF := Lib.hid ((HB.out.2.2.trans hk3 (fun _ _ h => h)).below (fun _ _ h => h))
    clear hj1 hj2 hk3
    go_wp2
    go_ret
    exact ⟨rfl, HF.out⟩

end Go.Proofs.Ytlciacpffoekjaa
