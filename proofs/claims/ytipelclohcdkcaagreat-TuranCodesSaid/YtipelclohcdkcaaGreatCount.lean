/- Plain laws of the count of right words: told by a program that the kernel can run. -/
import Derived.Test.YtipelclohcdkcaaGreatDecWk
namespace Go.Proofs.YtipelclohcdkcaaGreat

theorem cntK_cons (k : Nat) (ks : List Nat) (c : Nat) : cntK (k :: ks) c = (if k = c then 1 else 0) + cntK ks c := by
  unfold cntK
  rw [List.filter_cons]
  by_cases h : k = c
  · subst h; simp; omega
  · rw [if_neg (by simpa using h), if_neg h]; omega

theorem DD_cons (k : Nat) (ks : List Nat) (p : Nat) : DD (k :: ks) (p + 1) = dd k + DD ks p := by
  unfold DD dd
  rw [List.take_succ_cons, cntK_cons, cntK_cons]
  by_cases h0 : k = 0
  · subst h0; simp; omega
  · by_cases h1 : k = 1
    · subst h1; simp; omega
    · simp [h0, h1]
theorem BB_cons (k : Nat) (ks : List Nat) (p : Nat) : BB (k :: ks) (p + 1) = bb k + BB ks p := by
  unfold BB bb
  rw [List.take_succ_cons, cntK_cons, cntK_cons]
  by_cases h0 : k = 2
  · subst h0; simp; omega
  · by_cases h1 : k = 3
    · subst h1; simp; omega
    · simp [h0, h1]

/-- Never more close than open. -/
def balG : List Nat → Nat → Nat → Bool
  | [], d, b => decide (d = 0) && decide (b = 0)
  | k :: ks, d, b => if k = 0 then balG ks (d + 1) b else if k = 1 then decide (0 < d) && balG ks (d - 1) b else if k = 2 then balG ks d (b + 1) else decide (0 < b) && balG ks d (b - 1)

def BalG (ks : List Nat) (d b : Int) : Prop := (∀ p, p ≤ ks.length → 0 ≤ d + DD ks p ∧ 0 ≤ b + BB ks p) ∧ d + DD ks ks.length = 0 ∧ b + BB ks ks.length = 0

theorem BalG_cons {k : Nat} {ks : List Nat} {d b : Int} (hd : 0 ≤ d) (hb : 0 ≤ b) : BalG (k :: ks) d b ↔ BalG ks (d + dd k) (b + bb k) := by
  unfold BalG
  rw [List.length_cons, DD_cons, BB_cons]
  constructor
  · rintro ⟨h1, h2, h3⟩
    refine ⟨fun p hp => ?_, by omega, by omega⟩
    have := h1 (p + 1) (by omega)
    rw [DD_cons, BB_cons] at this
    omega
  · rintro ⟨h1, h2, h3⟩
    refine ⟨fun p hp => ?_, by omega, by omega⟩
    cases p with
    | zero => rw [DD_zero, BB_zero]; omega
    | succ p =>
      have := h1 p (by omega)
      rw [DD_cons, BB_cons]
      omega

theorem BalG.neg {ks : List Nat} {d b : Int} (h : BalG ks d b) : 0 ≤ d ∧ 0 ≤ b := by
  have := h.1 0 (Nat.zero_le _)
  rw [DD_zero, BB_zero] at this
  omega

theorem balG_iff : ∀ (ks : List Nat) (d b : Nat), (∀ k ∈ ks, k < 4) → (balG ks d b = true ↔ BalG ks d b)
  | [], d, b, _ => by
    simp only [balG, Bool.and_eq_true, decide_eq_true_eq]
    constructor
    · rintro ⟨rfl, rfl⟩
      refine ⟨fun p hp => ?_, by simp [DD_zero], by simp [BB_zero]⟩
      obtain rfl : p = 0 := by simpa using hp
      rw [DD_zero, BB_zero]; omega
    · rintro ⟨_, h2, h3⟩
      rw [List.length_nil, DD_zero] at h2
      rw [List.length_nil, BB_zero] at h3
      omega
  | k :: ks, d, b, h4 => by
    have hk := h4 k (by simp)
    have ih := fun d b => balG_iff ks d b (fun x hx => h4 x (by simp [hx]))
    rw [BalG_cons (by omega) (by omega)]
    unfold balG
    have hc : k = 0 ∨ k = 1 ∨ k = 2 ∨ k = 3 := by omega
    rcases hc with rfl | rfl | rfl | rfl
    · rw [if_pos rfl, ih]
      have : dd 0 = 1 ∧ bb 0 = 0 := ⟨rfl, rfl⟩
      rw [this.1, this.2, Int.add_zero]; rfl
    · rw [if_neg (by omega), if_pos rfl, Bool.and_eq_true, decide_eq_true_eq, ih]
      have : dd 1 = -1 ∧ bb 1 = 0 := ⟨rfl, rfl⟩
      rw [this.1, this.2, Int.add_zero]
      constructor
      · rintro ⟨h1, h2⟩
        rw [show (d : Int) + -1 = (d - 1 : Nat) by omega]; exact h2
      · intro h
        have := h.neg
        refine ⟨by omega, ?_⟩
        rw [show (d : Int) + -1 = (d - 1 : Nat) by omega] at h; exact h
    · rw [if_neg (by omega), if_neg (by omega), if_pos rfl, ih]
      have : dd 2 = 0 ∧ bb 2 = 1 := ⟨rfl, rfl⟩
      rw [this.1, this.2, Int.add_zero]; rfl
    · rw [if_neg (by omega), if_neg (by omega), if_neg (by omega), Bool.and_eq_true, decide_eq_true_eq, ih]
      have : dd 3 = 0 ∧ bb 3 = -1 := ⟨rfl, rfl⟩
      rw [this.1, this.2, Int.add_zero]
      constructor
      · rintro ⟨h1, h2⟩
        rw [show (b : Int) + -1 = (b - 1 : Nat) by omega]; exact h2
      · intro h
        have := h.neg
        refine ⟨by omega, ?_⟩
        rw [show (b : Int) + -1 = (b - 1 : Nat) by omega] at h; exact h

theorem MBal_iff {ks : List Nat} (h4 : ∀ k ∈ ks, k < 4) : MBal ks ↔ balG ks 0 0 = true := by
  rw [balG_iff ks 0 0 h4]
  constructor
  · intro h
    refine ⟨fun p hp => ?_, ?_, ?_⟩
    · have h0 := h.1.2 (pr 0 ks p) (pr_le 0 ks p hp)
      have h1 := h.2.2 (pr 1 ks p) (pr_le 1 ks p hp)
      rw [ex_DD hp] at h0
      rw [ex_BB hp] at h1
      omega
    · have h0 := h.1.1
      rw [ownB_length, ex_DD (Nat.le_refl _)] at h0
      omega
    · have h0 := h.2.1
      rw [ownB_length, ex_BB (Nat.le_refl _)] at h0
      omega
  · rintro ⟨h1, h2, h3⟩
    refine ⟨⟨?_, fun p hp => ?_⟩, ⟨?_, fun p hp => ?_⟩⟩
    · rw [ownB_length, ex_DD (Nat.le_refl _)]; omega
    · obtain ⟨q, hq, rfl⟩ := own_place hp
      rw [ex_DD hq]; have := h1 q hq; omega
    · rw [ownB_length, ex_BB (Nat.le_refl _)]; omega
    · obtain ⟨q, hq, rfl⟩ := own_place hp
      rw [ex_BB hq]; have := h1 q hq; omega

def pairB (ks : List Nat) (m i : Nat) : Bool := decide (ks[m]? = some 2) && decide (BB ks (i + 1) = BB ks m) && (List.range (i + 1)).all fun p => !decide (m < p) || decide (BB ks m < BB ks p)
def ownerB (ks : List Nat) (o i : Nat) : Bool := decide (ks[o]? = some 0) && decide (DD ks o + 1 = DD ks i) && (List.range (i + 1)).all fun p => !decide (o < p) || decide (DD ks o < DD ks p)

theorem allB {n : Nat} {f : Nat → Bool} : (List.range n).all f = true ↔ ∀ p, p < n → f p = true := by
  rw [List.all_eq_true]
  exact ⟨fun h p hp => h p (List.mem_range.2 hp), fun h p hp => h p (List.mem_range.1 hp)⟩
theorem impB {p q : Bool} : (!p || q) = true ↔ (p = true → q = true) := by cases p <;> cases q <;> decide

theorem pairB_iff {ks : List Nat} {m i : Nat} : pairB ks m i = true ↔ (ks[m]? = some 2 ∧ BB ks (i + 1) = BB ks m ∧ ∀ p, p < i + 1 → m < p → BB ks m < BB ks p) := by
  unfold pairB
  rw [Bool.and_eq_true, Bool.and_eq_true, decide_eq_true_eq, decide_eq_true_eq, allB, and_assoc]
  simp only [impB, decide_eq_true_eq]
theorem ownerB_iff {ks : List Nat} {o i : Nat} : ownerB ks o i = true ↔ (ks[o]? = some 0 ∧ DD ks o + 1 = DD ks i ∧ ∀ p, p < i + 1 → o < p → DD ks o < DD ks p) := by
  unfold ownerB
  rw [Bool.and_eq_true, Bool.and_eq_true, decide_eq_true_eq, decide_eq_true_eq, allB, and_assoc]
  simp only [impB, decide_eq_true_eq]

/-- No right edgy one's mate stands ahead of its owner. -/
def canB (ks : List Nat) : Bool := (List.range ks.length).all fun i => !decide (ks[i]? = some 3) || (List.range i).all fun m => !pairB ks m i || (List.range i).all fun o => !ownerB ks o i || decide (o ≤ m)

theorem canB_iff {ks : List Nat} (h : Wd ks) : CanonOk ks ↔ canB ks = true := by
  unfold canB
  rw [allB]
  simp only [impB, allB, decide_eq_true_eq, pairB_iff, ownerB_iff]
  constructor
  · rintro hc i hi h3 m hm ⟨m1, m2, m3⟩ o ho ⟨o1, o2, o3⟩
    have hp : PairW ks 1 m i := by
      refine ⟨hm, hi, m1, h3, ?_, fun p hp1 hp2 => ?_⟩
      · rw [ex_BB (by omega), ex_BB (by omega)]; exact m2
      · rw [ex_BB (by omega), ex_BB (by omega)]; exact m3 p (by omega) hp1
    have hmt := h.mate (i := m) (by omega)
    rw [h.mp_pair hp] at hmt
    have hown : OwnAt ks i o := ⟨ho, o1, o2, fun p hp1 hp2 => o3 p (by omega) hp1⟩
    obtain ⟨r, hr⟩ := h.bal.owner (i := i) (by omega)
    have hr' := hr
    rcases hr with ⟨h0, _⟩ | ⟨_, _, n, _, _, rfl⟩
    · rw [ex_DD (by omega)] at h0
      have := h.dpos (p := o) (by omega)
      omega
    · have := (OwnerOf.own (by omega) hr').unique hown
      have := hc i m _ h3 hmt.symm hr'
      omega
  · intro hc i m r h3 hm hr hlt
    have hi := lt_of_get h3
    obtain ⟨s, hs, hp | hp⟩ := hm.pairW
    · have := hp.opens; rw [h3] at this; have := Option.some.inj this; omega
    · have h5 := hp.closes
      rw [h3] at h5
      obtain rfl : s = 1 := by have := Option.some.inj h5; omega
      have hb := hp.BB
      have hr' := hr
      rcases hr with ⟨h0, h6⟩ | ⟨_, _, n, _, _, rfl⟩
      · omega
      · have ho := OwnerOf.own (by omega) hr'
        have := hc i hi h3 m hp.lt ⟨hp.opens, hb.1, fun p hp1 hp2 => hb.2 p hp2 (by omega)⟩ n ho.lt ⟨ho.opens, ho.hit, fun p hp1 hp2 => ho.above p hp2 (by omega)⟩
        omega

def okB (ks : List Nat) : Bool := balG ks 0 0 && canB ks

theorem okB_iff {ks : List Nat} (h4 : ∀ k ∈ ks, k < 4) : okB ks = true ↔ MBal ks ∧ CanonOk ks := by
  unfold okB
  rw [Bool.and_eq_true, ← MBal_iff h4]
  constructor
  · rintro ⟨h1, h2⟩
    exact ⟨h1, (canB_iff ⟨h4, h1⟩).2 h2⟩
  · rintro ⟨h1, h2⟩
    exact ⟨h1, (canB_iff ⟨h4, h1⟩).1 h2⟩

/-- The digits of a number, the lowest one first. -/
def dig : Nat → Nat → List Nat
  | 0, _ => []
  | d + 1, x => x % 4 :: dig d (x / 4)

theorem dig_length : ∀ d x, (dig d x).length = d
  | 0, _ => rfl
  | d + 1, x => by simp [dig, dig_length d]
theorem dig_lt : ∀ d x, ∀ k ∈ dig d x, k < 4
  | 0, _, k, h => by cases h
  | d + 1, x, k, h => by
    rcases List.mem_cons.1 h with h | h
    · omega
    · exact dig_lt d _ k h
theorem dig_snoc : ∀ d x, dig (d + 1) x = dig d x ++ [x / 4 ^ d % 4]
  | 0, x => by simp [dig]
  | d + 1, x => by
    rw [dig, dig_snoc d, dig, List.cons_append, Nat.div_div_eq_div_mul, Nat.pow_succ, Nat.mul_comm 4]

/-- How many below a bound. -/
def cn (P : Nat → Bool) : Nat → Nat
  | 0 => 0
  | n + 1 => cn P n + (P n).toNat

theorem cn_le (P : Nat → Bool) : ∀ n, cn P n ≤ n
  | 0 => Nat.le_refl _
  | n + 1 => by
    have := cn_le P n
    show cn P n + (P n).toNat ≤ _
    have := Bool.toNat_le (P n)
    omega
theorem cn_congr {P Q : Nat → Bool} : ∀ n, (∀ j, j < n → P j = Q j) → cn P n = cn Q n
  | 0, _ => rfl
  | n + 1, h => by
    show cn P n + (P n).toNat = cn Q n + (Q n).toNat
    rw [cn_congr n (fun j hj => h j (by omega)), h n (by omega)]
theorem cn_shift (P : Nat → Bool) : ∀ n, cn (fun j => P (j + 1)) n + (P 0).toNat = cn P n + (P n).toNat
  | 0 => rfl
  | n + 1 => by
    have := cn_shift P n
    show cn (fun j => P (j + 1)) n + (P (n + 1)).toNat + _ = cn P n + (P n).toNat + (P (n + 1)).toNat
    omega
theorem cn_turn (P : Nat → Bool) (N : Nat) (hN : 0 < N) : ∀ f, cn (fun j => P ((j + f) % N)) N = cn P N
  | 0 => cn_congr N (fun j hj => by rw [Nat.add_zero, Nat.mod_eq_of_lt hj])
  | f + 1 => by
    rw [← cn_turn P N hN f]
    have := cn_shift (fun j => P ((j + f) % N)) N
    have e : (fun j => P ((j + (f + 1)) % N)) = fun j => P ((j + 1 + f) % N) := by
      funext j
      rw [show j + (f + 1) = j + 1 + f by omega]
    rw [e]
    have e2 : P ((0 + f) % N) = P ((N + f) % N) := by rw [Nat.zero_add, Nat.add_comm, Nat.add_mod_right]
    simp only [e2] at this
    omega
theorem cn_four (P : Nat → Bool) : ∀ N, cn P (4 * N) = cn (fun y => P (4 * y)) N + cn (fun y => P (4 * y + 1)) N + cn (fun y => P (4 * y + 2)) N + cn (fun y => P (4 * y + 3)) N
  | 0 => rfl
  | N + 1 => by
    have := cn_four P N
    show cn P (4 * N) + (P (4 * N)).toNat + (P (4 * N + 1)).toNat + (P (4 * N + 2)).toNat + (P (4 * N + 3)).toNat = cn _ N + (P (4 * N)).toNat + (cn _ N + (P (4 * N + 1)).toNat) + (cn _ N + (P (4 * N + 2)).toNat) + (cn _ N + (P (4 * N + 3)).toNat)
    omega

def tc : Nat → (List Nat → Bool) → Nat
  | 0, Q => (Q []).toNat
  | d + 1, Q => tc d (fun l => Q (0 :: l)) + tc d (fun l => Q (1 :: l)) + tc d (fun l => Q (2 :: l)) + tc d (fun l => Q (3 :: l))

theorem cn_tc : ∀ (d : Nat) (Q : List Nat → Bool), cn (fun x => Q (dig d x)) (4 ^ d) = tc d Q
  | 0, Q => by show 0 + (Q []).toNat = (Q []).toNat; omega
  | d + 1, Q => by
    rw [Nat.pow_succ, Nat.mul_comm, cn_four]
    have e : ∀ c, c < 4 → (fun y => Q (dig (d + 1) (4 * y + c))) = fun y => (fun l => Q (c :: l)) (dig d y) := by
      intro c hc
      funext y
      show Q ((4 * y + c) % 4 :: dig d ((4 * y + c) / 4)) = _
      rw [show (4 * y + c) % 4 = c by omega, show (4 * y + c) / 4 = y by omega]
    have e0 := e 0 (by omega)
    simp only [Nat.add_zero] at e0
    rw [e0, e 1 (by omega), e 2 (by omega), e 3 (by omega)]
    show _ = tc d (fun l => Q (0 :: l)) + tc d (fun l => Q (1 :: l)) + tc d (fun l => Q (2 :: l)) + tc d (fun l => Q (3 :: l))
    rw [← cn_tc d (fun l => Q (0 :: l)), ← cn_tc d (fun l => Q (1 :: l)), ← cn_tc d (fun l => Q (2 :: l)), ← cn_tc d (fun l => Q (3 :: l))]

theorem tc0 : tc 0 okB = 1 := by decide +kernel
theorem tc2 : tc 2 okB = 2 := by decide +kernel
theorem tc4 : tc 4 okB = 9 := by decide +kernel
theorem tc6 : tc 6 okB = 54 := by decide +kernel

/-- Tutte's count. -/
def tutte (n : Nat) : Nat := if n = 0 then 1 else if n = 1 then 2 else if n = 2 then 9 else 54

theorem words_tutte {n : Nat} (hn : n < 4) (f : Nat) : cn (fun j => okB (dig (2 * n) ((j + f) % 4 ^ (2 * n)))) (4 ^ (2 * n)) = tutte n := by
  rw [cn_turn (fun x => okB (dig (2 * n) x)) _ (Nat.pow_pos (by omega)), cn_tc]
  have hc : n = 0 ∨ n = 1 ∨ n = 2 ∨ n = 3 := by omega
  rcases hc with rfl | rfl | rfl | rfl
  · exact tc0
  · exact tc2
  · exact tc4
  · exact tc6

end Go.Proofs.YtipelclohcdkcaaGreat
