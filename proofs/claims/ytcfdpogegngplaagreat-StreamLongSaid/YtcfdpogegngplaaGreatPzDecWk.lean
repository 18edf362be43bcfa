/- Plain laws: the walk around the map of a right word tells that word; it is of one part, and planar. No program is named here. -/
import Derived.Test.YtcfdpogegngplaaGreatPzPlans
import Derived.Test.YtcfdpogegngplaaGreatPzEnc
import Derived.Test.YtcfdpogegngplaaGreatPzRight
namespace Go.Proofs.YtcfdpogegngplaaGreat

theorem PairW.own {ks : List Nat} {o i : Nat} (h : PairW ks 0 o i) : OwnAt ks i o := by
  obtain ⟨h1, h2⟩ := h.DD
  have h3 := DD_succ h.closes
  have e : dd (2 * 0 + 1) = -1 := rfl
  rw [e] at h3
  exact ⟨h.lt, h.opens, by omega, h2⟩

/-- As many orbits where one permutation is another by other names. -/
theorem ldr_conj_le {n : Nat} {S T D : Nat → Nat} (hS : IsP n S) (hT : IsP n T) (hD : IsP n D) (hc : ∀ i, i < n → S (D i) = D (T i)) : ldr S n ≤ ldr T n := by
  have hitr : ∀ m i, i < n → itr S m (D i) = D (itr T m i) := by
    intro m i hi
    induction m with
    | zero => rfl
    | succ m ih =>
      show S (itr S m (D i)) = D (T (itr T m i))
      rw [ih, hc _ (hT.itr_lt hi m)]
  have h1 := nodup_sub (((List.range n).filter fun x => rep S x == x).map fun x => rep T (invP D x)) ((List.range n).filter fun x => rep T x == x) (by
    rw [List.Nodup, List.pairwise_map]
    have hn : ((List.range n).filter fun x => rep S x == x).Nodup := List.Pairwise.filter _ List.nodup_range
    refine List.Pairwise.imp_of_mem (fun {x y} hx hy hxy e => hxy ?_) hn
    simp only [List.mem_filter, List.mem_range, beq_iff_eq] at hx hy
    obtain ⟨m, hm⟩ := (hT.rep_iff (hD.inv_lt hx.1) (hD.inv_lt hy.1)).1 e
    have h2 := hitr m _ (hD.inv_lt hx.1)
    rw [hm, hD.inv_to hx.1, hD.inv_to hy.1] at h2
    rw [← hx.2, ← hy.2]
    exact (hS.rep_iff hx.1 hy.1).2 ⟨m, h2⟩) (fun z hz => by
    obtain ⟨x, hx, rfl⟩ := List.mem_map.1 hz
    simp only [List.mem_filter, List.mem_range, beq_iff_eq] at hx ⊢
    exact ⟨hT.rep_lt (hD.inv_lt hx.1), hT.rep_rep (hD.inv_lt hx.1)⟩)
  rw [List.length_map] at h1
  exact h1

theorem inv_isP {n : Nat} {D : Nat → Nat} (h : IsP n D) : IsP n (invP D) :=
  ⟨fun _ hd => h.inv_lt hd, fun d e hd he hh => by rw [← h.inv_to hd, hh, h.inv_to he]⟩

theorem ldr_conj {n : Nat} {S T D : Nat → Nat} (hS : IsP n S) (hT : IsP n T) (hD : IsP n D) (hc : ∀ i, i < n → S (D i) = D (T i)) : ldr S n = ldr T n := by
  refine Nat.le_antisymm (ldr_conj_le hS hT hD hc) (ldr_conj_le hT hS (inv_isP hD) (fun i hi => ?_))
  have h1 := hc _ (hD.inv_lt hi)
  rw [hD.inv_to hi] at h1
  rw [h1, hD.inv_of (hT.lt _ (hD.inv_lt hi))]

section
variable {ks : List Nat} (h : Wd ks)
include h

theorem Wd.decS : IsP ks.length (sg (decL ks)) := by
  have := h.decL_isP
  rwa [decL_length] at this

theorem Wd.dec_nm {i : Nat} (hi : i < ks.length) : sg (decL ks) (nmD ks i) = nmD ks (tn ks i) := by
  rw [sg_decL (h.nm_lt hi), h.sD_nm hi]

end

/-- A walk that has come to its end has one length. -/
theorem WkEnd.unique {n : Nat} {S vert : Nat → Nat} {root T T' : Nat} (h : WkEnd n S vert root T) (h' : WkEnd n S vert root T') : T = T' := by
  classical
  have h1 := h.total (fun x => decide (Conn n S root x)) (fun x _ => by simp)
  have h2 := h'.total (fun x => decide (Conn n S root x)) (fun x _ => by simp)
  omega



theorem conn_one {n : Nat} {S : Nat → Nat} (h : IsP n S) (he : n % 2 = 0) (hc : cldr n S n = 1) {x y : Nat} (hx : x < n) (hy : y < n) : Conn n S x y := by
  have h1 := h.cnum_lt he hx
  have h2 := h.cnum_lt he hy
  exact (h.cnum_iff he hx hy).1 (by omega)

/-- The genus of a map of one part. -/
theorem genus_one {s : List Nat} (h : IsP s.length (sg s)) (he : s.length % 2 = 0) (hc : cldr s.length (sg s) s.length = 1) :
    genS (partsA s 0) = (2 - ((ldr (sg s) s.length : Nat) : Int) + ((s.length / 2 : Nat) : Int) - ((ldr (sg (phiL s)) s.length : Nat) : Int)).tdiv 2 := by
  have hcn : ∀ x, x < s.length → sg (cnL s) x = 0 := fun x hx => by
    rw [sg_cnL hx]
    have := h.cnum_lt he hx
    omega
  have hof : ∀ l : List Nat, ofN l (cnL s) 0 s.length = ldr (sg l) s.length := fun l => by
    unfold ofN ldr
    congr 1
    refine List.filter_congr (fun x hx => ?_)
    rw [hcn x (List.mem_range.1 hx)]
    simp
  have hct : cntN (cnL s) 0 s.length = s.length := by
    unfold cntN
    rw [List.filter_eq_self.2 (fun x hx => by rw [hcn x (List.mem_range.1 hx)]; rfl), List.length_range]
  obtain ⟨p, hp⟩ : ∃ p, partsL s s.length = [p] := by
    have := partsL_length s s.length
    rw [hc] at this
    exact List.length_eq_one_iff.1 this
  have hp0 : p ∈ partsL s s.length := by rw [hp]; simp
  obtain ⟨d, hd, rfl⟩ := List.mem_map.1 hp0
  have hdn := List.mem_range.1 (List.mem_filter.1 hd).1
  have hcd : cnum s.length (sg s) d = 0 := by have := h.cnum_lt he hdn; omega
  unfold partsA
  rw [hp]
  unfold genS partI ptG ptV ptB ptE
  rw [hcd, hof, hof, hct]
  simp



/-- What is said of a map's word is one thing. -/
theorem EncR.unique {s : List Nat} {lone : Nat} {rt : Int} {ks ks' : List Nat} {c c' : Nat} (h : EncR s lone rt ks c) (h' : EncR s lone rt ks' c') : ks = ks' ∧ c = c' := by
  rcases h with ⟨a1, a2, a3⟩ | ⟨a1, a2, a3, a4⟩ | ⟨a1, a2, a3, a4, a5⟩ | ⟨a1, a2, a3, r, T, a4, a5, a6, a7⟩ <;>
    rcases h' with ⟨b1, b2, b3⟩ | ⟨b1, b2, b3, b4⟩ | ⟨b1, b2, b3, b4, b5⟩ | ⟨b1, b2, b3, r', T', b4, b5, b6, b7⟩
  · exact ⟨by rw [a3, b3], by omega⟩
  · exact absurd b1 a1
  · exact absurd b1 a1
  · exact absurd b1 a1
  · exact absurd a1 b1
  · exact ⟨by rw [a4, b4], by omega⟩
  · exact absurd b2 a2
  · exact absurd b2 a2
  · exact absurd a1 b1
  · exact absurd a2 b2
  · exact ⟨by rw [a5, b5], by omega⟩
  · omega
  · exact absurd a1 b1
  · exact absurd a2 b2
  · omega
  · obtain rfl : r = r' := by omega
    obtain rfl := a6.unique b6
    exact ⟨by rw [a7, b7], by omega⟩

theorem EncR.right {s : List Nat} {lone : Nat} {rt : Int} {ks : List Nat} {c : Nat} (h : EncR s lone rt ks c) : WRight ks ∧ ks.length ≤ s.length := by
  rcases h with ⟨_, _, rfl⟩ | ⟨_, _, _, rfl⟩ | ⟨_, _, _, _, rfl⟩ | ⟨_, _, _, root, T, _, _, hT, rfl⟩
  · exact ⟨WRight.nil, Nat.zero_le _⟩
  · exact ⟨WRight.nil, Nat.zero_le _⟩
  · exact ⟨WRight.nil, Nat.zero_le _⟩
  · exact ⟨hT.right, by rw [kso_length, wlk_length]; exact hT.le⟩

theorem WRight.wd {ks : List Nat} (h : WRight ks) : Wd ks := ⟨h.k4, h.bal⟩
end Go.Proofs.YtcfdpogegngplaaGreat
