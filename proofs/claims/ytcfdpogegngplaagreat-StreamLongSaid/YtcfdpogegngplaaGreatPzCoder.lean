/- Plain laws of the coder: bits by their likelihoods; what was coded is decoded. No program is named here. -/
import Derived.Test.YtcfdpogegngplaaGreatPzBase
namespace Go.Proofs.YtcfdpogegngplaaGreat

/-! Bits as numbers, the first one the highest. -/

def bigV (l : List Bool) : Nat := l.foldl (fun a b => 2 * a + b.toNat) 0

theorem ltGet {α : Type} {l : List α} {i : Nat} {x : α} (h : l[i]? = some x) : i < l.length := by
  rcases Nat.lt_or_ge i l.length with h' | h'
  · exact h'
  · rw [List.getElem?_eq_none h'] at h; cases h

theorem bigV_snoc (l : List Bool) (b : Bool) : bigV (l ++ [b]) = 2 * bigV l + b.toNat := by simp [bigV]

theorem snoc_ind {α : Type} {P : List α → Prop} (h0 : P []) (h1 : ∀ l x, P l → P (l ++ [x])) (l : List α) : P l := by
  have : ∀ n, ∀ l : List α, l.length = n → P l := by
    intro n
    induction n with
    | zero => intro l hl; rw [List.eq_nil_of_length_eq_zero hl]; exact h0
    | succ n ih =>
      intro l hl
      have hne : l ≠ [] := by intro e; rw [e] at hl; simp at hl
      rw [← List.dropLast_concat_getLast hne]
      exact h1 _ _ (ih _ (by simp [hl]))
  exact this _ l rfl

theorem bigV_app (l m : List Bool) : bigV (l ++ m) = bigV l * 2 ^ m.length + bigV m := by
  refine snoc_ind (P := fun m => bigV (l ++ m) = bigV l * 2 ^ m.length + bigV m) (by simp [bigV]) (fun m b ih => ?_) m
  rw [← List.append_assoc, bigV_snoc, ih, bigV_snoc, List.length_append, List.length_singleton, Nat.pow_succ, Nat.mul_add, ← Nat.mul_assoc (bigV l), Nat.mul_comm (bigV l * 2 ^ m.length) 2]
  omega

theorem bigV_false (n : Nat) : bigV (List.replicate n false) = 0 := by
  induction n with
  | zero => rfl
  | succ n ih => rw [List.replicate_succ', bigV_snoc, ih]; rfl

theorem bigV_true (n : Nat) : bigV (List.replicate n true) + 1 = 2 ^ n := by
  induction n with
  | zero => rfl
  | succ n ih =>
    rw [List.replicate_succ', bigV_snoc, Nat.pow_succ, ← ih]
    have : true.toNat = 1 := rfl
    omega

theorem bigV_cons (b : Bool) (l : List Bool) : bigV (b :: l) = b.toNat * 2 ^ l.length + bigV l := by
  have h := bigV_app [b] l
  rw [List.singleton_append] at h
  rw [h]
  congr 2
  simp [bigV]

/-- The first n bits as a number, noughts where there are none. -/
def preV (F : List Bool) : Nat → Nat
  | 0 => 0
  | n + 1 => 2 * preV F n + (F.getD n false).toNat

theorem preV_succ (F : List Bool) (n : Nat) : preV F (n + 1) = 2 * preV F n + (F.getD n false).toNat := rfl

/-! The span, and what goes out. -/

/-- The coder's span, how many bits wait, what went out. -/
structure EncS where
  l : Nat
  h : Nat
  w : Nat
  o : List Bool

def way (l h : Nat) : Nat := if h < 2147483648 then 1 else if 2147483648 ≤ l then 2 else if 1073741824 ≤ l ∧ h < 3221225472 then 3 else 0
def offW (k : Nat) : Nat := if k = 2 then 2147483648 else if k = 3 then 1073741824 else 0

theorem way_cases (l h : Nat) : (way l h = 1 ∧ h < 2147483648) ∨ (way l h = 2 ∧ 2147483648 ≤ h ∧ 2147483648 ≤ l) ∨ (way l h = 3 ∧ 2147483648 ≤ h ∧ l < 2147483648 ∧ 1073741824 ≤ l ∧ h < 3221225472) ∨ (way l h = 0 ∧ 2147483648 ≤ h ∧ l < 2147483648 ∧ (l < 1073741824 ∨ 3221225472 ≤ h)) := by
  unfold way
  by_cases h1 : h < 2147483648
  · rw [if_pos h1]; exact .inl ⟨rfl, h1⟩
  · rw [if_neg h1]
    by_cases h2 : 2147483648 ≤ l
    · rw [if_pos h2]; exact .inr (.inl ⟨rfl, by omega, h2⟩)
    · rw [if_neg h2]
      by_cases h3 : 1073741824 ≤ l ∧ h < 3221225472
      · rw [if_pos h3]; exact .inr (.inr (.inl ⟨rfl, by omega, by omega, h3.1, h3.2⟩))
      · rw [if_neg h3]; exact .inr (.inr (.inr ⟨rfl, by omega, by omega, by omega⟩))

def stepE (s : EncS) : EncS :=
  ⟨2 * (s.l - offW (way s.l s.h)), 2 * (s.h - offW (way s.l s.h)) + 1, if way s.l s.h = 3 then s.w + 1 else 0,
    if way s.l s.h = 1 then s.o ++ false :: List.replicate s.w true else if way s.l s.h = 2 then s.o ++ true :: List.replicate s.w false else s.o⟩

/-- Where the span lies among all numbers of so many bits. -/
def absA (s : EncS) : Nat := bigV s.o * 2 ^ (32 + s.w) + (2 ^ s.w - 1) * 2147483648
def absT (s : EncS) : Nat := s.o.length + s.w

theorem off_le {l h : Nat} (_hlh : l ≤ h) : offW (way l h) ≤ l := by
  rcases way_cases l h with ⟨e, _⟩ | ⟨e, _, h2⟩ | ⟨e, _, _, h2, _⟩ | ⟨e, _⟩ <;> rw [e] <;> unfold offW <;> simp <;> omega

theorem alg1 (P Y X H : Nat) (h : X + 1 = Y) : (P * (Y * 2) + X) * (2 * H) + 0 = 2 * (P * (2 * H * Y) + (Y - 1) * H + 0) := by
  subst h
  have e1 : P * ((X + 1) * 2) * (2 * H) = 2 * (P * (2 * H * (X + 1))) := by ac_rfl
  have e2 : X * (2 * H) = 2 * (X * H) := by ac_rfl
  rw [Nat.add_sub_cancel, Nat.add_mul, e1, e2]
  omega

theorem alg2 (P Y H : Nat) (h : 0 < Y) : (P * (Y * 2) + Y) * (2 * H) + 0 = 2 * (P * (2 * H * Y) + (Y - 1) * H + H) := by
  obtain ⟨Z, rfl⟩ : ∃ Z, Y = Z + 1 := ⟨Y - 1, by omega⟩
  have e1 : P * ((Z + 1) * 2) * (2 * H) = 2 * (P * (2 * H * (Z + 1))) := by ac_rfl
  have e2 : (Z + 1) * (2 * H) = 2 * (Z * H + H) := by rw [show Z * H + H = (Z + 1) * H by rw [Nat.add_mul, Nat.one_mul]]; ac_rfl
  rw [Nat.add_sub_cancel, Nat.add_mul, e1, e2]
  omega

theorem alg3 (P Y H Q : Nat) (h : 0 < Y) (hq : 2 * Q = H) : P * (2 * H * (Y * 2)) + (Y * 2 - 1) * H = 2 * (P * (2 * H * Y) + (Y - 1) * H + Q) := by
  obtain ⟨Z, rfl⟩ : ∃ Z, Y = Z + 1 := ⟨Y - 1, by omega⟩
  rw [Nat.add_sub_cancel, show (Z + 1) * 2 - 1 = Z * 2 + 1 by omega, Nat.add_mul (Z * 2), Nat.one_mul, Nat.mul_add, Nat.mul_add, hq, Nat.add_assoc]
  congr 1
  · ac_rfl
  · congr 1
    ac_rfl

theorem pow_parts (H w : Nat) (hH : H = 2147483648) : 2 ^ (32 + w) = 2 * H * 2 ^ w := by
  rw [Nat.pow_add, hH]

theorem absA_step (s : EncS) (hk : way s.l s.h ≠ 0) : absA (stepE s) = 2 * (absA s + offW (way s.l s.h)) ∧ absT (stepE s) = absT s + 1 := by
  obtain ⟨H, hH⟩ : ∃ H, H = 2147483648 := ⟨_, rfl⟩
  obtain ⟨Q, hQ⟩ : ∃ Q, Q = 1073741824 := ⟨_, rfl⟩
  have hq : 2 * Q = H := by omega
  have h0 : 0 < 2 ^ s.w := Nat.two_pow_pos _
  have hp := pow_parts H s.w hH
  have hp0 : 2 ^ (32 + 0) = 2 * H := by rw [pow_parts H 0 hH, Nat.pow_zero, Nat.mul_one]
  have hp1 : 2 ^ (32 + (s.w + 1)) = 2 * H * (2 ^ s.w * 2) := by rw [pow_parts H _ hH, Nat.pow_succ]
  have o2 : offW 2 = H := by rw [hH]; rfl
  have o3 : offW 3 = Q := by rw [hQ]; rfl
  have o1 : offW 1 = 0 := rfl
  have hA : absA s = bigV s.o * (2 * H * 2 ^ s.w) + (2 ^ s.w - 1) * H := by unfold absA; rw [hp, hH]
  have hT : absT s = s.o.length + s.w := rfl
  rw [hA, hT]
  rcases way_cases s.l s.h with ⟨e, _⟩ | ⟨e, _⟩ | ⟨e, _⟩ | ⟨e, _⟩
  · have e1 : (stepE s).o = s.o ++ false :: List.replicate s.w true := by unfold stepE; rw [e]; rfl
    have e2 : (stepE s).w = 0 := by unfold stepE; rw [e]; rfl
    have hA' : absA (stepE s) = bigV (s.o ++ false :: List.replicate s.w true) * 2 ^ (32 + 0) + 0 := by unfold absA; rw [e1, e2, Nat.pow_zero, Nat.sub_self, Nat.zero_mul]
    have h1 := bigV_true s.w
    refine ⟨?_, ?_⟩
    · rw [hA', e, o1, bigV_app, bigV_cons, hp0, List.length_cons, List.length_replicate, Bool.toNat_false, Nat.zero_mul, Nat.zero_add, Nat.pow_succ]
      exact alg1 _ _ _ _ h1
    · unfold absT
      rw [e1, e2, List.length_append, List.length_cons, List.length_replicate]
      omega
  · have e1 : (stepE s).o = s.o ++ true :: List.replicate s.w false := by unfold stepE; rw [e]; rfl
    have e2 : (stepE s).w = 0 := by unfold stepE; rw [e]; rfl
    have hA' : absA (stepE s) = bigV (s.o ++ true :: List.replicate s.w false) * 2 ^ (32 + 0) + 0 := by unfold absA; rw [e1, e2, Nat.pow_zero, Nat.sub_self, Nat.zero_mul]
    refine ⟨?_, ?_⟩
    · rw [hA', e, o2, bigV_app, bigV_cons, bigV_false, hp0, List.length_cons, List.length_replicate, Bool.toNat_true, Nat.one_mul, Nat.add_zero, Nat.pow_succ]
      exact alg2 _ _ _ h0
    · unfold absT
      rw [e1, e2, List.length_append, List.length_cons, List.length_replicate]
      omega
  · have e1 : (stepE s).o = s.o := by unfold stepE; rw [e]; rfl
    have e2 : (stepE s).w = s.w + 1 := by unfold stepE; rw [e]; rfl
    have hA' : absA (stepE s) = bigV s.o * (2 * H * (2 ^ s.w * 2)) + (2 ^ s.w * 2 - 1) * H := by unfold absA; rw [e1, e2, hp1, Nat.pow_succ, hH]
    refine ⟨?_, ?_⟩
    · rw [hA', e, o3]
      exact alg3 _ _ _ _ h0 hq
    · unfold absT
      rw [e1, e2]
      omega
  · exact absurd e hk

/-- What came later lies in the span. -/
def InSp (F : List Bool) (s : EncS) : Prop := absA s + s.l ≤ preV F (32 + absT s) ∧ preV F (32 + absT s) ≤ absA s + s.h

theorem InSp.back {F : List Bool} {s : EncS} (hlh : s.l ≤ s.h) (hk : way s.l s.h ≠ 0) (h : InSp F (stepE s)) : InSp F s := by
  obtain ⟨h1, h2⟩ := h
  obtain ⟨e1, e2⟩ := absA_step s hk
  rw [e1, e2, ← Nat.add_assoc, preV_succ] at h1 h2
  have ho := off_le hlh
  have hb : (F.getD (32 + absT s) false).toNat ≤ 1 := by cases F.getD (32 + absT s) false <;> simp
  have hl : (stepE s).l = 2 * (s.l - offW (way s.l s.h)) := rfl
  have hh : (stepE s).h = 2 * (s.h - offW (way s.l s.h)) + 1 := rfl
  rw [hl] at h1
  rw [hh] at h2
  unfold InSp
  omega

/-! How likely. -/

def midC (l h : Nat) (c : Nat × Nat) : Nat := l + (h - l + 1) * c.1 / (c.1 + c.2) - 1
def OkC (c : Nat × Nat) : Prop := 1 ≤ c.1 ∧ 1 ≤ c.2 ∧ c.1 + c.2 < 65536
def Nrm (l h : Nat) : Prop := l ≤ h ∧ h < 4294967296 ∧ way l h = 0
theorem Nrm.wide {l h : Nat} (hn : Nrm l h) : 1073741824 < h - l + 1 := by
  obtain ⟨h1, h2, h3⟩ := hn
  rcases way_cases l h with ⟨e, _⟩ | ⟨e, _⟩ | ⟨e, _⟩ | ⟨_, a, b, c⟩ <;> omega

theorem mid_bounds {l h : Nat} {c : Nat × Nat} (hn : Nrm l h) (hc : OkC c) : l ≤ midC l h c ∧ midC l h c + 1 ≤ h ∧ 1 ≤ (h - l + 1) * c.1 / (c.1 + c.2) := by
  have hw := hn.wide
  obtain ⟨c1, c2, c3⟩ := hc
  have h1 : 1 ≤ (h - l + 1) * c.1 / (c.1 + c.2) := by
    rw [Nat.le_div_iff_mul_le (by omega), Nat.one_mul]
    calc c.1 + c.2 ≤ h - l + 1 := by omega
      _ = (h - l + 1) * 1 := by omega
      _ ≤ (h - l + 1) * c.1 := Nat.mul_le_mul_left _ c1
  have h2 : (h - l + 1) * c.1 / (c.1 + c.2) < h - l + 1 := by
    rw [Nat.div_lt_iff_lt_mul (by omega)]
    exact Nat.mul_lt_mul_of_pos_left (by omega) (by omega)
  unfold midC
  have := hn.1
  refine ⟨by omega, by omega, h1⟩

/-! The model. -/

def seeC (c : Nat × Nat) (b : Bool) : Nat × Nat :=
  let d := if b then (c.1, c.2 + 1) else (c.1 + 1, c.2)
  if d.1 + d.2 = 65536 then ((d.1 + 1) / 2, (d.2 + 1) / 2) else d

theorem seeC_ok {c : Nat × Nat} (h : OkC c) (b : Bool) : OkC (seeC c b) := by
  obtain ⟨h1, h2, h3⟩ := h
  unfold seeC OkC
  cases b
  · simp only [Bool.false_eq_true, if_false]
    by_cases e : c.1 + 1 + c.2 = 65536
    · rw [if_pos e]; simp only; omega
    · rw [if_neg e]; simp only; omega
  · simp only [if_true]
    by_cases e : c.1 + (c.2 + 1) = 65536
    · rw [if_pos e]; simp only; omega
    · rw [if_neg e]; simp only; omega

/-- Counts by contexts, and the context now. -/
structure CM where
  cs : List (Nat × Nat)
  now : Nat
def CM.cur (m : CM) : Nat × Nat := m.cs.getD m.now (1, 1)
def CM.see (m : CM) (b : Bool) : CM := ⟨m.cs.set m.now (seeC m.cur b), (2 * m.now + b.toNat) % m.cs.length⟩
def CM.new (N : Nat) : CM := ⟨List.replicate N (1, 1), 0⟩
structure CM.Ok (m : CM) (N : Nat) : Prop where
  len : m.cs.length = N
  ok : ∀ c ∈ m.cs, OkC c
  lt : m.now < N

theorem CM.Ok.cur {m : CM} {N : Nat} (h : m.Ok N) : OkC m.cur ∧ m.cs[m.now]? = some m.cur := by
  have h1 := List.getElem?_eq_getElem (l := m.cs) (i := m.now) (by rw [h.len]; exact h.lt)
  have h2 : m.cur = m.cs[m.now]'(by rw [h.len]; exact h.lt) := by unfold CM.cur; rw [List.getD_eq_getElem?_getD, h1]; rfl
  rw [h2]
  exact ⟨h.ok _ (List.getElem_mem _), h1⟩
theorem CM.Ok.see {m : CM} {N : Nat} (h : m.Ok N) (b : Bool) : (m.see b).Ok N := by
  refine ⟨by simp [CM.see, h.len], fun c hc => ?_, ?_⟩
  · rcases List.mem_or_eq_of_mem_set hc with hc | rfl
    · exact h.ok c hc
    · exact seeC_ok h.cur.1 b
  · show (2 * m.now + b.toNat) % m.cs.length < N
    rw [h.len]
    exact Nat.mod_lt _ (by have := h.lt; omega)
/-! Coding. -/

/-! And back. -/

structure DC where
  l : Nat
  h : Nat
  v : Nat
  a : Nat

def stepC (F : List Bool) (d : DC) : DC := ⟨2 * (d.l - offW (way d.l d.h)), 2 * (d.h - offW (way d.l d.h)) + 1, 2 * (d.v - offW (way d.l d.h)) + (F.getD d.a false).toNat, d.a + 1⟩
def normC (F : List Bool) : Nat → DC → DC
  | 0, d => d
  | n + 1, d => if way d.l d.h = 0 then d else normC F n (stepC F d)
def takeC (c : Nat × Nat) (b : Bool) (d : DC) : DC := if b then { d with l := midC d.l d.h c + 1 } else { d with h := midC d.l d.h c }
def bitC (x : CM × DC) : Bool := decide (midC x.2.l x.2.h x.1.cur < x.2.v)
def decStep (F : List Bool) (x : CM × DC) : CM × DC := (x.1.see (bitC x), normC F 33 (takeC x.1.cur (bitC x) x.2))
def decS (F : List Bool) : Nat → CM × DC → List Bool
  | 0, _ => []
  | n + 1, x => bitC x :: decS F n (decStep F x)
end Go.Proofs.YtcfdpogegngplaaGreat
