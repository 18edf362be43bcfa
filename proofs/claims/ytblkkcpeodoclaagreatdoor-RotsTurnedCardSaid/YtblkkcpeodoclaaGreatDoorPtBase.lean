/- Joined texts: Pure, Pop, Mem, Bits, Bits2, Ones, Once, Ints, Few. -/
import Derived.RowKit
import Derived.WalkKit
import Derived.Deep.AppendLies
import Derived.Lib.Hide
import Derived.Deep.QuietTactic
import Derived.Test.YtblkkcpeodoclaaGreatDoorProg
import Derived.WalkSpells
import Derived.WalkLawsBesides
import Derived.BigQuiet
import Derived.Deep.LoopGhost
import Derived.Defers
import Derived.Laws.LoneSync
import Derived.RegionCalls
import Derived.Laws.AppendOwnNone
/- Plain arithmetic of bits in words: no program is named here. -/
namespace Go.Proofs.YtblkkcpeodoclaaGreatDoor

end Go.Proofs.YtblkkcpeodoclaaGreatDoor

/- The count of ones of a word, as math/bits reckons it: plain arithmetic, no program is named. -/
namespace Go.Proofs.YtblkkcpeodoclaaGreatDoor

/-- Bytes as a number. -/
def bytesVal : List Nat → Nat
  | [] => 0
  | b :: l => b + 256 * bytesVal l

theorem and_byte (b c y m : Nat) (hb : b < 256) (hc : c < 256) : (b + 256 * y) &&& (c + 256 * m) = (b &&& c) + 256 * (y &&& m) := by
  have h1 : b + 256 * y = 2 ^ 8 * y + b := by omega
  have h2 : c + 256 * m = 2 ^ 8 * m + c := by omega
  have hbc : b &&& c < 2 ^ 8 := Nat.and_lt_two_pow _ (by omega)
  rw [h1, h2]
  apply Nat.eq_of_testBit_eq
  intro i
  rw [show (b &&& c) + 256 * (y &&& m) = 2 ^ 8 * (y &&& m) + (b &&& c) by omega, Nat.testBit_and, Nat.testBit_two_pow_mul_add _ (by omega), Nat.testBit_two_pow_mul_add _ (by omega), Nat.testBit_two_pow_mul_add _ hbc]
  split <;> simp [Nat.testBit_and]

def st1 (m x : Nat) : Nat := ((x / 2) &&& m) + (x &&& m)
def st2 (m x : Nat) : Nat := ((x / 4) &&& m) + (x &&& m)
def st3 (m x : Nat) : Nat := (x / 16 + x) &&& m

theorem st1_low : ∀ b, b < 256 → ∀ c, c < 2 → (b / 2 + 128 * c) &&& 85 = (b / 2) &&& 85 := by decide +kernel
theorem st2_low : ∀ b, b < 256 → ∀ c, c < 4 → (b / 4 + 64 * c) &&& 51 = (b / 4) &&& 51 := by decide +kernel
theorem st1_lt : ∀ b, b < 256 → st1 85 b < 256 := by decide +kernel
theorem st2_lt : ∀ b, b < 256 → st2 51 (st1 85 b) < 256 ∧ st2 51 (st1 85 b) % 16 ≤ 4 ∧ st2 51 (st1 85 b) / 16 ≤ 4 := by decide +kernel
theorem st3_low : ∀ b, b < 256 → ∀ c, c ≤ 4 → b % 16 ≤ 4 → b / 16 ≤ 4 → (b / 16 + 16 * c + b) &&& 15 = st3 15 b := by decide +kernel

theorem st1_bytes (bs : List Nat) (h : ∀ b ∈ bs, b < 256) : st1 (bytesVal (bs.map fun _ => 85)) (bytesVal bs) = bytesVal (bs.map (st1 85)) := by
  induction bs with
  | nil => simp [bytesVal, st1]
  | cons b l ih =>
    have hb := h b (by simp)
    have ih := ih (fun c hc => h c (by simp [hc]))
    simp only [List.map_cons, bytesVal]
    generalize bytesVal l = y at *
    generalize bytesVal (l.map fun _ => 85) = m at *
    generalize bytesVal (l.map (st1 85)) = r at *
    unfold st1 at ih ⊢
    have e : (b + 256 * y) / 2 = (b / 2 + 128 * (y % 2)) + 256 * (y / 2) := by omega
    rw [e, and_byte _ _ _ _ (by omega) (by decide), and_byte _ _ _ _ hb (by decide), st1_low b hb _ (Nat.mod_lt _ (by decide))]
    omega

theorem st2_bytes (bs : List Nat) (h : ∀ b ∈ bs, b < 256) : st2 (bytesVal (bs.map fun _ => 51)) (bytesVal bs) = bytesVal (bs.map (st2 51)) := by
  induction bs with
  | nil => simp [bytesVal, st2]
  | cons b l ih =>
    have hb := h b (by simp)
    have ih := ih (fun c hc => h c (by simp [hc]))
    simp only [List.map_cons, bytesVal]
    generalize bytesVal l = y at *
    generalize bytesVal (l.map fun _ => 51) = m at *
    generalize bytesVal (l.map (st2 51)) = r at *
    unfold st2 at ih ⊢
    have e : (b + 256 * y) / 4 = (b / 4 + 64 * (y % 4)) + 256 * (y / 4) := by omega
    rw [e, and_byte _ _ _ _ (by omega) (by decide), and_byte _ _ _ _ hb (by decide), st2_low b hb _ (Nat.mod_lt _ (by decide))]
    omega

theorem low_nibble (bs : List Nat) (h : ∀ b ∈ bs, b < 256 ∧ b % 16 ≤ 4 ∧ b / 16 ≤ 4) : bytesVal bs % 16 ≤ 4 := by
  cases bs with
  | nil => simp [bytesVal]
  | cons b l => have := h b (by simp); simp only [bytesVal]; omega

theorem st3_bytes (bs : List Nat) (h : ∀ b ∈ bs, b < 256 ∧ b % 16 ≤ 4 ∧ b / 16 ≤ 4) : st3 (bytesVal (bs.map fun _ => 15)) (bytesVal bs) = bytesVal (bs.map (st3 15)) := by
  induction bs with
  | nil => simp [bytesVal, st3]
  | cons b l ih =>
    have hb := h b (by simp)
    have hl := low_nibble l (fun c hc => h c (by simp [hc]))
    have ih := ih (fun c hc => h c (by simp [hc]))
    simp only [List.map_cons, bytesVal]
    generalize bytesVal l = y at *
    generalize bytesVal (l.map fun _ => 15) = m at *
    generalize bytesVal (l.map (st3 15)) = r at *
    have e : (b + 256 * y) / 16 + (b + 256 * y) = (b / 16 + 16 * (y % 16) + b) + 256 * (y / 16 + y) := by omega
    rw [show st3 (15 + 256 * m) (b + 256 * y) = ((b + 256 * y) / 16 + (b + 256 * y)) &&& (15 + 256 * m) from rfl, e, and_byte _ _ _ _ (by omega) (by decide), st3_low b hb.1 _ hl hb.2.1 hb.2.2]
    rw [show (y / 16 + y) &&& m = st3 m y from rfl, ih]

/-- The ones of a byte. -/
def pop8 (b : Nat) : Nat := st3 15 (st2 51 (st1 85 b))
theorem pop8_le : ∀ b, b < 256 → pop8 b ≤ 8 := by decide +kernel

theorem sum_fits (q0 q1 q2 q3 q4 q5 q6 q7 : Nat) (p0 : q0 ≤ 8) (p1 : q1 ≤ 8) (p2 : q2 ≤ 8) (p3 : q3 ≤ 8) (p4 : q4 ≤ 8) (p5 : q5 ≤ 8) (p6 : q6 ≤ 8) (p7 : q7 ≤ 8) :
    q0 + 256 * (q1 + 256 * (q2 + 256 * (q3 + 256 * (q4 + 256 * (q5 + 256 * (q6 + 256 * (q7 + 256 * 0))))))) ≤ 578721382704613384 := by
  have st : ∀ q Z M : Nat, q ≤ 8 → Z ≤ M → q + 256 * Z ≤ 8 + 256 * M := fun q Z M h1 h2 => by omega
  exact st q0 _ 2260630401189896 p0 (st q1 _ 8830587504648 p1 (st q2 _ 34494482440 p2 (st q3 _ 134744072 p3 (st q4 _ 526344 p4 (st q5 _ 2056 p5 (st q6 _ 8 p6 (by omega)))))))

theorem sum_adds (q0 q1 q2 q3 q4 q5 q6 q7 a : Nat) (p0 : q0 ≤ 8) (p1 : q1 ≤ 8) (p2 : q2 ≤ 8) (p3 : q3 ≤ 8) (p4 : q4 ≤ 8) (p5 : q5 ≤ 8) (p6 : q6 ≤ 8) (p7 : q7 ≤ 8)
    (ha : a = q0 + 256 * (q1 + 256 * (q2 + 256 * (q3 + 256 * (q4 + 256 * (q5 + 256 * (q6 + 256 * (q7 + 256 * 0)))))))) :
    (a + a / 256 + (a + a / 256) / 65536 + (a + a / 256 + (a + a / 256) / 65536) / 4294967296) % 128 = q0 + q1 + q2 + q3 + q4 + q5 + q6 + q7 := by
  have d1 : ∀ s Z, s < 256 → (s + 256 * Z) / 256 = Z := fun s Z h => by omega
  have d2 : ∀ s0 s1 Z, s0 < 256 → s1 < 256 → (s0 + 256 * (s1 + 256 * Z)) / 65536 = Z := fun s0 s1 Z h0 h1 => by omega
  have d4 : ∀ s0 s1 s2 s3 Z, s0 < 256 → s1 < 256 → s2 < 256 → s3 < 256 → (s0 + 256 * (s1 + 256 * (s2 + 256 * (s3 + 256 * Z)))) / 4294967296 = Z := fun s0 s1 s2 s3 Z h0 h1 h2 h3 => by omega
  have e1 : a + a / 256 = (q0 + q1) + 256 * ((q1 + q2) + 256 * ((q2 + q3) + 256 * ((q3 + q4) + 256 * ((q4 + q5) + 256 * ((q5 + q6) + 256 * ((q6 + q7) + 256 * q7)))))) := by
    rw [ha, d1 q0 _ (by omega)]; omega
  rw [e1]
  clear e1 ha
  have e2 : (q0 + q1) + 256 * ((q1 + q2) + 256 * ((q2 + q3) + 256 * ((q3 + q4) + 256 * ((q4 + q5) + 256 * ((q5 + q6) + 256 * ((q6 + q7) + 256 * q7)))))) +
      ((q0 + q1) + 256 * ((q1 + q2) + 256 * ((q2 + q3) + 256 * ((q3 + q4) + 256 * ((q4 + q5) + 256 * ((q5 + q6) + 256 * ((q6 + q7) + 256 * q7))))))) / 65536
      = (q0 + q1 + q2 + q3) + 256 * ((q1 + q2 + q3 + q4) + 256 * ((q2 + q3 + q4 + q5) + 256 * ((q3 + q4 + q5 + q6) + 256 * ((q4 + q5 + q6 + q7) + 256 * ((q5 + q6 + q7) + 256 * ((q6 + q7) + 256 * q7)))))) := by
    rw [d2 _ _ _ (by omega) (by omega)]; omega
  rw [e2, d4 _ _ _ _ _ (by omega) (by omega) (by omega) (by omega)]
  clear d1 d2 d4 e2
  generalize (q5 + q6 + q7) + 256 * ((q6 + q7) + 256 * q7) = V
  omega

/-- What OnesCount64 reckons, the wraps left out. -/
def swar (x : Nat) : Nat :=
  let a := st3 1085102592571150095 (st2 3689348814741910323 (st1 6148914691236517205 x))
  let b := a + a / 256
  let c := b + b / 65536
  (c + c / 4294967296) % 128

theorem swar_bytes (b0 b1 b2 b3 b4 b5 b6 b7 : Nat) (h0 : b0 < 256) (h1 : b1 < 256) (h2 : b2 < 256) (h3 : b3 < 256) (h4 : b4 < 256) (h5 : b5 < 256) (h6 : b6 < 256) (h7 : b7 < 256) :
    swar (bytesVal [b0, b1, b2, b3, b4, b5, b6, b7]) = pop8 b0 + pop8 b1 + pop8 b2 + pop8 b3 + pop8 b4 + pop8 b5 + pop8 b6 + pop8 b7 ∧
    st3 1085102592571150095 (st2 3689348814741910323 (st1 6148914691236517205 (bytesVal [b0, b1, b2, b3, b4, b5, b6, b7]))) ≤ 578721382704613384 := by
  have hb : ∀ b ∈ [b0, b1, b2, b3, b4, b5, b6, b7], b < 256 := by simp; omega
  have e1 := st1_bytes _ hb
  have e2 := st2_bytes ([b0, b1, b2, b3, b4, b5, b6, b7].map (st1 85)) (by
    intro c hc
    obtain ⟨b, hb', rfl⟩ := List.mem_map.1 hc
    exact st1_lt b (hb b hb'))
  have e3 := st3_bytes (([b0, b1, b2, b3, b4, b5, b6, b7].map (st1 85)).map (st2 51)) (by
    intro c hc
    simp only [List.map_map, List.mem_map] at hc
    obtain ⟨b, hb', rfl⟩ := hc
    exact st2_lt b (hb b hb'))
  have m1 : bytesVal ([b0, b1, b2, b3, b4, b5, b6, b7].map fun _ => 85) = 6148914691236517205 := by simp [bytesVal]
  have m2 : bytesVal (([b0, b1, b2, b3, b4, b5, b6, b7].map (st1 85)).map fun _ => 51) = 3689348814741910323 := by simp [bytesVal]
  have m3 : bytesVal ((([b0, b1, b2, b3, b4, b5, b6, b7].map (st1 85)).map (st2 51)).map fun _ => 15) = 1085102592571150095 := by simp [bytesVal]
  rw [m1] at e1
  rw [m2] at e2
  rw [m3] at e3
  have p0 := pop8_le b0 h0
  have p1 := pop8_le b1 h1
  have p2 := pop8_le b2 h2
  have p3 := pop8_le b3 h3
  have p4 := pop8_le b4 h4
  have p5 := pop8_le b5 h5
  have p6 := pop8_le b6 h6
  have p7 := pop8_le b7 h7
  have ha : st3 1085102592571150095 (st2 3689348814741910323 (st1 6148914691236517205 (bytesVal [b0, b1, b2, b3, b4, b5, b6, b7]))) =
      pop8 b0 + 256 * (pop8 b1 + 256 * (pop8 b2 + 256 * (pop8 b3 + 256 * (pop8 b4 + 256 * (pop8 b5 + 256 * (pop8 b6 + 256 * (pop8 b7 + 256 * 0))))))) := by
    rw [e1, e2, e3]
    rfl
  constructor
  · unfold swar
    exact sum_adds _ _ _ _ _ _ _ _ _ p0 p1 p2 p3 p4 p5 p6 p7 ha
  · rw [ha]
    exact sum_fits _ _ _ _ _ _ _ _ p0 p1 p2 p3 p4 p5 p6 p7

/-- How many are set. -/
def cnt : List Bool → Nat
  | [] => 0
  | b :: l => b.toNat + cnt l

end Go.Proofs.YtblkkcpeodoclaaGreatDoor

/- Worlds of which all blocks but some are as they were; plain lemmas, no program is named here. -/
namespace Go.Proofs.YtblkkcpeodoclaaGreatDoor
open Go.RowKit

/-- Outside F the blocks of w' are as they were in w. -/
structure Keeps (F : Nat → Prop) (w w' : World) : Prop where
  os : w'.os = w.os
  tape : w'.tape = w.tape
  output : w'.output = w.output
  size : w.heap.size ≤ w'.heap.size
  block : ∀ k, k < w.heap.size → ¬ F k → w'.heap[k]? = w.heap[k]?

theorem Keeps.refl (F : Nat → Prop) (w : World) : Keeps F w w := ⟨rfl, rfl, rfl, Nat.le_refl _, fun _ _ _ => rfl⟩

theorem Keeps.trans {F G : Nat → Prop} {a b c : World} (h : Keeps F a b) (k : Keeps G b c) (hG : ∀ x, x < a.heap.size → G x → F x) : Keeps F a c :=
  ⟨k.os.trans h.os, k.tape.trans h.tape, k.output.trans h.output, Nat.le_trans h.size k.size,
    fun i hi hf => (k.block i (Nat.lt_of_lt_of_le hi h.size) (fun hg => hf (hG i hi hg))).trans (h.block i hi hf)⟩

theorem Keeps.mono {F G : Nat → Prop} {a b : World} (h : Keeps F a b) (hG : ∀ x, x < a.heap.size → F x → G x) : Keeps G a b :=
  ⟨h.os, h.tape, h.output, h.size, fun i hi hf => h.block i hi (fun hg => hf (hG i hi hg))⟩

theorem Keeps.drew {F : Nat → Prop} {a w : World} (h : Keeps F a w) : Keeps F a w.drew := ⟨h.os, h.tape, h.output, h.size, h.block⟩

theorem Keeps.alloc {F : Nat → Prop} {a w : World} (h : Keeps F a w) (o : Obj) : Keeps F a (w.alloc o) :=
  ⟨h.os, h.tape, h.output, Nat.le_trans h.size (by simp), fun k hk hf => (Below.heap_alloc w o k (Nat.lt_of_lt_of_le hk h.size)).trans (h.block k hk hf)⟩

theorem Keeps.setCell {F : Nat → Prop} {a w : World} (h : Keeps F a w) {p : Addr} (hp : F p.block ∨ a.heap.size ≤ p.block) (u : Value) : Keeps F a (w.setCell p u) :=
  ⟨h.os, h.tape, h.output, by simpa [World.setCell] using h.size, fun k hk hf => (Below.heap_setCell w p u k (by
    rintro rfl
    rcases hp with hp | hp
    · exact hf hp
    · omega)).trans (h.block k hk hf)⟩

theorem Keeps.grown {F : Nat → Prop} {a w w' : World} {row : Option Nat} (h : Keeps F a w) (hg : w.grownBy w' row) (hr : ∀ k, row = some k → F k ∨ a.heap.size ≤ k) : Keeps F a w' :=
  ⟨hg.os.trans h.os, hg.tape.trans h.tape, hg.output.trans h.output, Nat.le_trans h.size hg.size, fun k hk hf =>
    (hg.block k (Nat.lt_of_lt_of_le hk h.size) (fun e => by
      rcases hr k e.symm with h1 | h1
      · exact hf h1
      · omega)).trans (h.block k hk hf)⟩

theorem Keeps.below {F : Nat → Prop} {a w : World} (h : Keeps F a w) (hF : ∀ x, x < a.heap.size → ¬ F x) : Below a.heap.size a w :=
  ⟨h.os, h.tape, h.output, h.size, fun k hk => h.block k hk (hF k hk)⟩

theorem Keeps.of_below {a w : World} (h : Below a.heap.size a w) (F : Nat → Prop) : Keeps F a w :=
  ⟨h.os, h.tape, h.output, h.size, fun k hk _ => h.block k hk⟩

theorem Keeps.drewN {F : Nat → Prop} {a w : World} (h : Keeps F a w) (n : Nat) : Keeps F a (w.drewN n) := ⟨h.os, h.tape, h.output, h.size, h.block⟩

theorem Keeps.at {F : Nat → Prop} {a w : World} (h : Keeps F a w) {k : Nat} {o : Obj} (ho : a.heap[k]? = some o) (hf : ¬ F k) : w.heap[k]? = some o := by
  rw [h.block k (lt_of_block ho) hf]; exact ho

/-- A row that is owned stays owned where its block stays. -/
theorem Keeps.owns {F : Nat → Prop} {a w : World} (h : Keeps F a w) {base : Nat} {e : TypeId} {size : Nat} {v : Value} {n : Nat} {xs : List Value}
    (ho : a.ownsRow base e size v n xs) (hf : ∀ k, v.ownBlock = some k → ¬ F k) : w.ownsRow base e size v n xs := by
  obtain ⟨h1, h2⟩ := ho
  refine ⟨h1, ?_⟩
  rcases h2 with h2 | ⟨g, cap, cur, rfl, hb, hg, r⟩
  · exact .inl h2
  · exact .inr ⟨g, cap, cur, rfl, hb, h.at hg (hf g rfl), r⟩

theorem World.cell_of_heap {w : World} {b : Nat} {cs : Array Value} {t : TypeId} {fr : Nat × Nat} (h : w.heap[b]? = some (.cells cs t fr)) (i : Nat) : w.cell? ⟨b, i, none⟩ = cs[i]? := by
  simp [World.cell?, h]
theorem World.free_of_heap {w : World} {b : Nat} {cs : Array Value} {t : TypeId} (h : w.heap[b]? = some (.cells cs t (0, 0))) (i : Nat) : w.frozen? ⟨b, i, none⟩ = false := by
  simp [World.frozen?, h]

theorem heap_setCell_same {w : World} {b : Nat} {cs : Array Value} {t : TypeId} {fr : Nat × Nat} (h : w.heap[b]? = some (.cells cs t fr)) (i : Nat) (u : Value) :
    (w.setCell ⟨b, i, none⟩ u).heap[b]? = some (.cells (cs.setIfInBounds i u) t fr) := by
  simp [World.setCell, Array.getElem?_modify, h]

/-- What a value owns that owns something. -/
theorem owns_form {w : World} {base : Nat} {e : TypeId} {v : Value} {n : Nat} {xs : List Value} (h : w.ownsRow base e 1 v n xs) (hn : 0 < n) :
    ∃ g cap, v = .slice (some ⟨g, 0, none⟩) n cap ∧ n ≤ cap ∧ cap ≤ maxLen ∧ (∀ j u, xs[j]? = some u → w.cell? ⟨g, j, none⟩ = some u ∧ w.frozen? ⟨g, j, none⟩ = false) ∧ v.ownBlock = some g ∧ g < w.heap.size := by
  obtain ⟨hl, h2⟩ := h
  rcases h2 with ⟨_, h0⟩ | ⟨g, cap, cur, rfl, hb, hg, hnc, hcm, hcur, ht⟩
  · omega
  · refine ⟨g, cap, rfl, hnc, hcm, fun j u hj => ?_, rfl, lt_of_block hg⟩
    rw [World.cell_of_heap hg, World.free_of_heap hg]
    refine ⟨?_, rfl⟩
    rw [← ht] at hj
    rw [List.getElem?_take] at hj
    split at hj
    · simpa using hj
    · cases hj

/-- A store into an owned row. -/
theorem owns_set {w : World} {base : Nat} {e : TypeId} {g n cap : Nat} {xs : List Value} (h : w.ownsRow base e 1 (.slice (some ⟨g, 0, none⟩) n cap) n xs) (i : Nat) (u : Value) :
    (w.setCell ⟨g, i, none⟩ u).ownsRow base e 1 (.slice (some ⟨g, 0, none⟩) n cap) n (xs.set i u) := by
  obtain ⟨hl, h2⟩ := h
  refine ⟨by simpa using hl, ?_⟩
  rcases h2 with ⟨h0, _⟩ | ⟨g', cap', cur, hv, hb, hg, hnc, hcm, hcur, ht⟩
  · cases h0
  · simp only [Value.slice.injEq, Option.some.injEq, Addr.mk.injEq] at hv
    obtain ⟨⟨rfl, _⟩, _, rfl⟩ := hv
    refine .inr ⟨g, cap, cur.setIfInBounds i u, rfl, hb, heap_setCell_same hg i u, hnc, hcm, by simpa using hcur, ?_⟩
    rw [Array.toList_setIfInBounds, ← ht]
    apply List.ext_getElem?
    intro k
    simp only [List.getElem?_take, List.getElem?_set, List.length_take]
    by_cases hk : k < n * 1
    · simp only [if_pos hk]
      by_cases hik : i = k
      · subst hik
        have : (i < min (n * 1) cur.toList.length) = (i < cur.toList.length) := by rw [Nat.lt_min]; simp; omega
        simp only [if_true, this]
      · simp [hik]
    · simp only [if_neg hk]
      by_cases hik : i = k
      · subst hik
        rw [if_pos rfl, if_neg (by omega)]
      · simp [hik]

/-- A slice value that reads as the numbers zs (nil or not). -/
def Sl (k : IntKind) (w : World) (v : Value) (zs : List Int) : Prop :=
  ∃ a cap, v = .slice a zs.length cap ∧ zs.length ≤ cap ∧ cap ≤ 9223372036854775807 ∧ (a = none → cap = 0) ∧ ∀ j z, zs[j]? = some z → ∃ g off, a = some ⟨g, off, none⟩ ∧ w.cell? ⟨g, off + j, none⟩ = some (.int k z)

theorem Sl.keeps {k : IntKind} {w w' : World} {v : Value} {zs : List Int} {F : Nat → Prop} (h : Sl k w v zs) (hk : Keeps F w w') (hf : ∀ b, v.ownBlock = some b → ¬ F b) : Sl k w' v zs := by
  obtain ⟨a, cap, rfl, h1, h2, hn, h3⟩ := h
  refine ⟨a, cap, rfl, h1, h2, hn, fun j z hj => ?_⟩
  obtain ⟨g, off, rfl, hc⟩ := h3 j z hj
  refine ⟨g, off, rfl, ?_⟩
  rw [World.cell?_of_block (w := w) (hk.block g (World.block_lt_of_cell? _ _ hc) (hf g rfl))]
  exact hc

theorem Sl.of_owns {k : IntKind} {w : World} {base : Nat} {e : TypeId} {v : Value} {n : Nat} {zs : List Int} (h : w.ownsRow base e 1 v n (zs.map fun z => Value.int k z)) : Sl k w v zs := by
  have hn : n = zs.length := by have := h.1; simp at this; exact this.symm
  subst hn
  by_cases h0 : 0 < zs.length
  · obtain ⟨g, cap, rfl, h1, h2, hc, _, _⟩ := owns_form h h0
    refine ⟨_, cap, rfl, h1, by unfold maxLen at h2; omega, (fun h => by cases h), fun j z hj => ⟨g, 0, rfl, ?_⟩⟩
    rw [Nat.zero_add]
    exact (hc j (.int k z) (by rw [List.getElem?_map, hj]; rfl)).1
  · have hz : zs = [] := by cases zs <;> simp_all
    subst hz
    obtain ⟨_, h2⟩ := h
    rcases h2 with ⟨rfl, _⟩ | ⟨g, cap, cur, rfl, hb, hg, hnc, hcm, _⟩
    · exact ⟨none, 0, rfl, by simp, by decide, fun _ => rfl, fun j z hj => by simp at hj⟩
    · exact ⟨_, cap, rfl, by simp, by unfold maxLen at hcm; omega, (fun h => by cases h), fun j z hj => by simp at hj⟩

/-- A row of numbers that came in, as the frame of a statement's proof tells it. -/
def RowIn (k : IntKind) (w : World) (a : Option Addr) (len cap : Nat) (zs : List Int) : Prop :=
  (a = none ∧ len = 0 ∧ cap = 0 ∧ zs = []) ∨
  ∃ x, a = some x ∧ len ≤ cap ∧ cap ≤ maxLen ∧ zs.length = cap ∧ (∀ i, i < zs.length → w.cell? (x.add i) = some (.int k (zs.getD i 0))) ∧ ∀ n ∈ zs, (Lit.int k n).wf = true

theorem cell_plain {w : World} {x : Addr} {v : Value} (h : w.cell? x = some v) : x = ⟨x.block, x.off, none⟩ := by
  have hs : x.spot = none := by
    unfold World.cell? at h
    split at h
    · split at h
      · cases h
      · rename_i hsp
        simpa using hsp
    · cases h
  cases x
  simp_all

theorem RowIn.sl {k : IntKind} {w : World} {a : Option Addr} {len cap : Nat} {zs : List Int} (h : RowIn k w a len cap zs) :
    Sl k w (.slice a len cap) (zs.take len) ∧ (zs.take len).length = len ∧ (∀ n ∈ zs.take len, (Lit.int k n).wf = true) ∧ ∀ b, (Value.slice a len cap).ownBlock = some b → zs.take len ≠ [] → b < w.heap.size := by
  rcases h with ⟨rfl, rfl, rfl, rfl⟩ | ⟨x, rfl, h1, h2, h3, h4, h5⟩
  · exact ⟨⟨none, 0, rfl, by simp, by decide, fun _ => rfl, fun j z hj => by simp at hj⟩, rfl, fun n hn => by simp at hn, fun b _ hz => absurd rfl hz⟩
  · have hl : (zs.take len).length = len := by simp; omega
    have hcell : ∀ j, j < len → w.cell? ⟨x.block, x.off + j, none⟩ = some (.int k (zs.getD j 0)) := by
      intro j hj
      have h0 := cell_plain (h4 0 (by omega))
      have e0 : x.add 0 = x := by simp [Addr.add]
      rw [e0] at h0
      have hadd : x.add j = ⟨x.block, x.off + j, none⟩ := by
        unfold Addr.add
        split
        · rename_i hj0
          subst hj0
          exact h0
        · rfl
      rw [← hadd]
      exact h4 j (by omega)
    refine ⟨⟨some x, cap, by rw [hl], by omega, by unfold maxLen at h2; omega, (fun h => by cases h), fun j z hj => ?_⟩, hl, fun n hn => h5 n (List.mem_of_mem_take hn), fun b hb hz => ?_⟩
    · have hj' : j < len := by
        rcases Nat.lt_or_ge j len with h | h
        · exact h
        · rw [List.getElem?_eq_none (by omega)] at hj; cases hj
      rw [List.getElem?_take, if_pos hj'] at hj
      have hx := cell_plain (h4 0 (by omega))
      have e0 : x.add 0 = x := by simp [Addr.add]
      rw [e0] at hx
      refine ⟨x.block, x.off, congrArg some hx, ?_⟩
      rw [hcell j hj', List.getD_eq_getElem?_getD, hj]
      rfl
    · simp only [Value.ownBlock, Option.some.injEq] at hb
      subst hb
      have hp : 0 < len := by
        rcases Nat.eq_zero_or_pos len with h | h
        · subst h; simp at hz
        · exact h
      exact World.block_lt_of_cell? w ⟨x.block, x.off + 0, none⟩ (hcell 0 hp)

end Go.Proofs.YtblkkcpeodoclaaGreatDoor

/- The contracts of package bits: the vector. -/
namespace Go.Proofs.YtblkkcpeodoclaaGreatDoor
open Go.RowKit

end Go.Proofs.YtblkkcpeodoclaaGreatDoor

/- The contracts of package bits: many bits at once. -/
namespace Go.Proofs.YtblkkcpeodoclaaGreatDoor
open Go.RowKit

end Go.Proofs.YtblkkcpeodoclaaGreatDoor

/- The contracts of math/bits.OnesCount64 and of the vector's Ones. -/
namespace Go.Proofs.YtblkkcpeodoclaaGreatDoor
open Go.RowKit

theorem and_lit (a m : Nat) (M : Int) (hM : M = (m : Int)) (ha : a < 18446744073709551616) (hm : m < 18446744073709551616) : bits BinOp.and IntKind.u64 (a : Int) M = ((a &&& m : Nat) : Int) := by
  rw [hM]; exact bits_and_u64_nat a m ha hm

theorem wrap_nat (n : Nat) (h : n < 18446744073709551616) : IntKind.u64.wrap (n : Int) = (n : Int) := by
  rw [IntKind.wrap_u64]; omega

theorem div_nat (x k : Nat) (K : Int) (hK : K = (k : Int)) : (x : Int) / K = ((x / k : Nat) : Int) := by rw [hK]; exact (Int.natCast_ediv x k).symm

theorem s1 (x : Nat) (hx : x < 18446744073709551616) :
    IntKind.u64.wrap (bits BinOp.and IntKind.u64 ((x : Int) / 2) 6148914691236517205 + bits BinOp.and IntKind.u64 (x : Int) 6148914691236517205) = ((st1 6148914691236517205 x : Nat) : Int) ∧ st1 6148914691236517205 x ≤ 12297829382473034410 := by
  have h1 : (x / 2) &&& 6148914691236517205 ≤ 6148914691236517205 := Nat.and_le_right
  have h2 : x &&& 6148914691236517205 ≤ 6148914691236517205 := Nat.and_le_right
  have hle : st1 6148914691236517205 x ≤ 12297829382473034410 := by unfold st1; omega
  refine ⟨?_, hle⟩
  rw [div_nat x 2 2 rfl, and_lit (x / 2) 6148914691236517205 6148914691236517205 rfl (by omega) (by omega), and_lit x 6148914691236517205 6148914691236517205 rfl hx (by omega), ← Int.natCast_add, wrap_nat _ (by unfold st1 at hle; omega)]
  rfl

theorem s2 (x : Nat) (hx : x < 18446744073709551616) :
    IntKind.u64.wrap (bits BinOp.and IntKind.u64 ((x : Int) / 4) 3689348814741910323 + bits BinOp.and IntKind.u64 (x : Int) 3689348814741910323) = ((st2 3689348814741910323 x : Nat) : Int) ∧ st2 3689348814741910323 x ≤ 7378697629483820646 := by
  have h1 : (x / 4) &&& 3689348814741910323 ≤ 3689348814741910323 := Nat.and_le_right
  have h2 : x &&& 3689348814741910323 ≤ 3689348814741910323 := Nat.and_le_right
  have hle : st2 3689348814741910323 x ≤ 7378697629483820646 := by unfold st2; omega
  refine ⟨?_, hle⟩
  rw [div_nat x 4 4 rfl, and_lit (x / 4) 3689348814741910323 3689348814741910323 rfl (by omega) (by omega), and_lit x 3689348814741910323 3689348814741910323 rfl hx (by omega), ← Int.natCast_add, wrap_nat _ (by unfold st2 at hle; omega)]
  rfl

theorem s3 (x : Nat) (hx : x ≤ 7378697629483820646) :
    bits BinOp.and IntKind.u64 (IntKind.u64.wrap ((x : Int) / 16 + (x : Int))) 1085102592571150095 = ((st3 1085102592571150095 x : Nat) : Int) := by
  rw [div_nat x 16 16 rfl, ← Int.natCast_add, wrap_nat _ (by omega), and_lit (x / 16 + x) 1085102592571150095 1085102592571150095 rfl (by omega) (by omega)]
  rfl

end Go.Proofs.YtblkkcpeodoclaaGreatDoor

/- sync.Once and the counters of sync/atomic, in one goroutine. -/
namespace Go.Proofs.YtblkkcpeodoclaaGreatDoor
open Go.RowKit

theorem disable (w : World) : (callFunc 122 #[]).run Tryz.prog w = .ok (.value (.tuple #[])) w := run_call_mark0 Tryz.func122 (by kernel_rfl) (by kernel_rfl) (by kernel_rfl) .disable (by kernel_rfl) w
theorem enable (w : World) : (callFunc 124 #[]).run Tryz.prog w = .ok (.value (.tuple #[])) w := run_call_mark0 Tryz.func124 (by kernel_rfl) (by kernel_rfl) (by kernel_rfl) .enable (by kernel_rfl) w
theorem acquire (a : Addr) (w : World) : (callFunc 125 #[.pointer (some a)]).run Tryz.prog w = .ok (.value (.tuple #[])) w := run_call_marked Tryz.func125 (by kernel_rfl) (by kernel_rfl) (by kernel_rfl) .acquire (by kernel_rfl) a w
theorem releaseMerge (a : Addr) (w : World) : (callFunc 127 #[.pointer (some a)]).run Tryz.prog w = .ok (.value (.tuple #[])) w := run_call_marked Tryz.func127 (by kernel_rfl) (by kernel_rfl) (by kernel_rfl) .releaseMerge (by kernel_rfl) a w

/-- '(*sync/atomic.Bool).Store(true)', entered as a deferred call. -/
theorem store_deferred (a : Addr) (x : Value) (u : FrameMode) (w : World) (hc : w.cell? a = some x) (hz : w.frozen? a = false) :
    CallsD Tryz.prog 88 #[.pointer (some a), .bool true] u w fun e u' w' => u' = u ∧ (e = .returned (.tuple #[]) ∧ w' = w.drew.setCell a (.int .u32 1)) := by
  have hc' : w.drew.cell? a = some x := by go_simp
  have hz' : w.drew.frozen? a = false := by go_simp
  have hst := run_call_store (P := Tryz.prog) Tryz.func109 (by kernel_rfl) (by kernel_rfl) (by kernel_rfl) (by kernel_rfl) (k := .u32) (y := 1) hc' hz'
  go_enter_d Tryz.func88, Tryz.ntmps88
  go_wp2
  go_region_calls
  all_goals (go_end0; exact ⟨rfl, rfl⟩)

set_option maxRecDepth 100000 in
/-- '(*sync.Mutex).Unlock', entered as a deferred call, the lock held and nobody waiting. -/
theorem unlock_deferred (a : Addr) (u : FrameMode) (w : World) (hc : w.cell? a = some (.int .i32 1)) (hz : w.frozen? a = false) :
    CallsD Tryz.prog 87 #[.pointer (some a)] u w fun e u' w' => u' = u ∧ (e = .returned (.tuple #[]) ∧ w' = w.setCell a (.int .i32 0)) := by
  have hd := disable
  have he := enable
  have hr := releaseMerge
  have hadd := run_call_add (P := Tryz.prog) Tryz.func128 (by kernel_rfl) (by kernel_rfl) (by kernel_rfl) .i32 (by kernel_rfl) (y := -1) (s := 0) hc hz (by simp [go_sem]; rfl)
  have hcv := run_convert_to_unsafe (P := Tryz.prog) (src := 163) (dst := 139) Tryz.underlying163 Tryz.underlying139 (by kernel_rfl) hc
  go_enter_d Tryz.func87, Tryz.ntmps87
  go_wp2
  go_end0
  go_wp2
  go_end0
  exact ⟨rfl, rfl⟩

set_option maxRecDepth 100000 in
/-- '(*sync.Mutex).Lock', the lock free. -/
theorem lock_free (a : Addr) (w : World) (hc : w.cell? a = some (.int .i32 0)) (hz : w.frozen? a = false) :
    Calls Tryz.prog 86 #[.pointer (some a)] w fun e w' => e = .returned (.tuple #[]) ∧ w' = w.setCell a (.int .i32 1) := by
  have hd := disable
  have he := enable
  have ha := acquire
  have hcas := run_call_cas_hit (P := Tryz.prog) Tryz.func123 (by kernel_rfl) (by kernel_rfl) (by kernel_rfl) .i32 (by kernel_rfl) (y := 1) hc hz
  have hc' : (w.setCell a (.int .i32 1)).cell? a = some (.int .i32 1) := World.cell?_setCell_same w a _ hc
  have hcv := run_convert_to_unsafe (P := Tryz.prog) (src := 163) (dst := 139) Tryz.underlying163 Tryz.underlying139 (by kernel_rfl) hc'
  go_enter Tryz.func86, Tryz.ntmps86
  go_wp2
  first | go_end0 | (simp only [Exit.inBlock, Exit.then]; refine bodyPost_ret (results_none rfl _ _ _) rfl ?_) | refine bodyPost_ret (results_none rfl _ _ _) rfl ?_
  go_wp2
  go_end0
  exact ⟨rfl, rfl⟩

/-- What the function that is done once leaves: it has returned, the Once is as it was, its lock held. -/
def CallbackDone (b off : Nat) (R : World → Prop) (e : Ending) (w' : World) : Prop :=
  e = .returned (.tuple #[]) ∧ w'.cell? ⟨b, off, none⟩ = some (.int .u32 0) ∧ w'.cell? ⟨b, off + 1, none⟩ = some (.int .i32 1) ∧ w'.frozen? ⟨b, off, none⟩ = false ∧ w'.frozen? ⟨b, off + 1, none⟩ = false ∧ R w'

set_option maxRecDepth 100000 in
set_option maxHeartbeats 1600000 in
/-- '(*sync.Once).doSlow', not yet done, the lock free. -/
theorem slow_any (b off : Nat) (fn : FuncId) (first : Array Value) (R : World → Prop) (w : World) (hfn : ∀ W, (callFunc fn first).run Tryz.prog W = .ok (.enter fn first) W)
    (h0 : w.cell? ⟨b, off, none⟩ = some (.int .u32 0)) (h1 : w.cell? ⟨b, off + 1, none⟩ = some (.int .i32 0))
    (f1 : w.frozen? ⟨b, off + 1, none⟩ = false)
    (hcb : Calls Tryz.prog fn first (w.setCell ⟨b, off + 1, none⟩ (.int .i32 1)) (CallbackDone b off R)) :
    Calls Tryz.prog 68 #[.pointer (some ⟨b, off, none⟩), .func (.func fn) first #[]] w fun e w' => e = .returned (.tuple #[]) ∧
      ∃ w1, R w1 ∧ w' = (w1.drew.setCell ⟨b, off, none⟩ (.int .u32 1)).setCell ⟨b, off + 1, none⟩ (.int .i32 0) := by
  have hl := run_call_load (P := Tryz.prog) Tryz.func85 (by kernel_rfl) (by kernel_rfl) (by kernel_rfl) .u32 (by kernel_rfl) (w := w.setCell ⟨b, off + 1, none⟩ (.int .i32 1)) (a := ⟨b, off, none⟩) (x := 0) ((World.cell?_setCell_other _ ⟨b, off + 1, none⟩ ⟨b, off, none⟩ _ (by simp)).trans h0)
  have hnot : ∀ (x : Bool) (w : World), (Op.unary .not (.bool x)).run Tryz.prog w = .ok (.bool (!x)) w := fun _ _ => rfl
  have HC := Lib.hid hcb
  clear hcb
  go_enter_defers Tryz.func68, Tryz.ntmps68
  go_wp2_with (go_at_call 86; refine (lock_free ⟨b, off + 1, none⟩ _ (by go_simp) (by go_simp)).mono ?_; rintro e w' ⟨rfl, rfl⟩)
  go_wp2
  refine HC.out.mono ?_
  rintro e w1 ⟨rfl, c0, c1, g0, g1, hR⟩
  clear h0 h1 f1 hl HC
  go_wp2
  refine leaves_cons (f := 88) (args := #[.pointer (some ⟨b, off, none⟩), .bool true]) (by simp) (by simp [go_sem]) ?_
  refine (store_deferred ⟨b, off, none⟩ (.int .u32 0) .returning _ c0 g0).mono ?_
  rintro e u' w'' ⟨rfl, rfl, rfl⟩
  refine leaves_cons (f := 87) (args := #[.pointer (some ⟨b, off + 1, none⟩)]) (by simp [settle]) (by simp [go_sem]) ?_
  refine (unlock_deferred ⟨b, off + 1, none⟩ _ _ ?_ (by simp [g1])).mono ?_
  · refine (World.cell?_setCell_other _ ⟨b, off, none⟩ ⟨b, off + 1, none⟩ _ (by simp)).trans ?_
    rw [World.cell?_drew]
    exact c1
  rintro e u' w'' ⟨rfl, rfl, rfl⟩
  simp [Leaves, settle, results, Tryz.results68]
  exact ⟨w1, hR, rfl⟩

set_option maxRecDepth 100000 in
set_option maxHeartbeats 1600000 in
/-- '(*sync.Once).Do', not yet done, the lock free. -/
theorem do_first (b off : Nat) (fn : FuncId) (first : Array Value) (R : World → Prop) (w : World) (hfn : ∀ W, (callFunc fn first).run Tryz.prog W = .ok (.enter fn first) W)
    (h0 : w.cell? ⟨b, off, none⟩ = some (.int .u32 0)) (h1 : w.cell? ⟨b, off + 1, none⟩ = some (.int .i32 0))
    (f1 : w.frozen? ⟨b, off + 1, none⟩ = false)
    (hcb : Calls Tryz.prog fn first (w.setCell ⟨b, off + 1, none⟩ (.int .i32 1)) (CallbackDone b off R)) :
    Calls Tryz.prog 48 #[.pointer (some ⟨b, off, none⟩), .func (.func fn) first #[]] w fun e w' => e = .returned (.tuple #[]) ∧
      ∃ w1, R w1 ∧ w' = (w1.drew.setCell ⟨b, off, none⟩ (.int .u32 1)).setCell ⟨b, off + 1, none⟩ (.int .i32 0) := by
  have hl := run_call_load (P := Tryz.prog) Tryz.func85 (by kernel_rfl) (by kernel_rfl) (by kernel_rfl) .u32 (by kernel_rfl) h0
  have hnot : ∀ (x : Bool) (w : World), (Op.unary .not (.bool x)).run Tryz.prog w = .ok (.bool (!x)) w := fun _ _ => rfl
  have HS := Lib.hid (slow_any b off fn first R w hfn h0 h1 f1 hcb)
  clear hcb hfn
  go_enter Tryz.func48, Tryz.ntmps48
  go_wp2_with (first | (go_at_call 68; refine HS.out.mono ?_; rintro e w' ⟨rfl, hR⟩) | (go_at_call 67; go_in))
  go_end0
  exact ⟨rfl, hR⟩

/-- '(*sync.Once).Do', done already: the function is not called. -/
theorem do_done (a : Addr) (fv : Value) (w : World) (h0 : w.cell? a = some (.int .u32 1)) :
    Calls Tryz.prog 48 #[.pointer (some a), fv] w fun e w' => e = .returned (.tuple #[]) ∧ w = w' := by
  have hl := run_call_load (P := Tryz.prog) Tryz.func85 (by kernel_rfl) (by kernel_rfl) (by kernel_rfl) .u32 (by kernel_rfl) h0
  have hnot : ∀ (x : Bool) (w : World), (Op.unary .not (.bool x)).run Tryz.prog w = .ok (.bool (!x)) w := fun _ _ => rfl
  go_enter Tryz.func48, Tryz.ntmps48
  go_wp2
  go_end0
  exact ⟨rfl, rfl⟩

end Go.Proofs.YtblkkcpeodoclaaGreatDoor

/- Slices of int that a call makes itself. -/
namespace Go.Proofs.YtblkkcpeodoclaaGreatDoor
open Go.RowKit

theorem infoInt : (Tryz.prog.info? 3).map (fun i => (i.zero, i.size, i.bytes)) = some (some (.int .i64 0), 1, 8) := by kernel_rfl

def ints (zs : List Int) : List Value := zs.map fun z => Value.int .i64 z

/-- A slice of int that owns its cells, in blocks from B on. -/
def OwnI (B : Nat) (w : World) (v : Value) (zs : List Int) : Prop := w.ownsRow B 3 1 v zs.length (ints zs)

theorem OwnI.nil (B : Nat) (w : World) : OwnI B w (.slice none 0 0) [] := World.ownsRow_nil _ _ _ _
theorem OwnI.sl {B : Nat} {w : World} {v : Value} {zs : List Int} (h : OwnI B w v zs) : Sl .i64 w v zs := Sl.of_owns h
theorem OwnI.keeps {B : Nat} {w w' : World} {v : Value} {zs : List Int} {F : Nat → Prop} (h : OwnI B w v zs) (k : Keeps F w w') (hf : ∀ b, v.ownBlock = some b → ¬ F b) : OwnI B w' v zs := k.owns h hf
theorem OwnI.lt {B : Nat} {w : World} {v : Value} {zs : List Int} (h : OwnI B w v zs) : ∀ k, v.ownBlock = some k → B ≤ k ∧ k < w.heap.size := World.ownsRow.lt h
theorem OwnI.alloc {B : Nat} {w : World} {v : Value} {zs : List Int} (h : OwnI B w v zs) (o : Obj) : OwnI B (w.alloc o) v zs := World.ownsRow.alloc h o
theorem OwnI.form {B : Nat} {w : World} {v : Value} {zs : List Int} (h : OwnI B w v zs) : ∃ a cap, v = .slice a zs.length cap ∧ zs.length ≤ cap ∧ cap ≤ 9223372036854775807 := by
  obtain ⟨a, cap, hv, h1, h2, _, _⟩ := h.sl
  exact ⟨a, cap, hv, h1, h2⟩
theorem OwnI.mono {B B' : Nat} {w : World} {v : Value} {zs : List Int} (h : OwnI B w v zs) (hB : ∀ k, v.ownBlock = some k → B' ≤ k) : OwnI B' w v zs := by
  obtain ⟨h1, h2⟩ := h
  refine ⟨h1, ?_⟩
  rcases h2 with h2 | ⟨g, cap, cur, rfl, hb, r⟩
  · exact .inl h2
  · exact .inr ⟨g, cap, cur, rfl, hB g rfl, r⟩

/-- 'append(l, z)', l of the call's own. -/
theorem append1 {ops : Array Oper} {rest : List Oper} {o : Oper} {a : Act} {Q : Exit → Act → World → Prop} {wr : World} (hgd : o.guard = none) (s x : Operand)
    (ho : o.op = .call { callee := .builtin .append, args := #[s, x], argTypes := #[33, 33] }) (B : Nat) (v : Value) (zs : List Int) (z : Int) (H : Nat) (hH : wr.heap.size = H) (hs : a.eval s = v) (hx : a.eval x = .slice (some ⟨H, 0, none⟩) 1 1)
    (hown : OwnI B wr v zs) (hlen : zs.length ≤ 10000000000) (hB : B ≤ wr.heap.size)
    (h : ∀ g cap w', OwnI B w' (.slice (some ⟨g, 0, none⟩) (zs.length + 1) cap) (zs ++ [z]) → Keeps (fun k => v.ownBlock = some k) wr w' → (v.ownBlock = some g ∨ wr.heap.size ≤ g) → B ≤ g →
      wpList Tryz.prog ops Q rest (a.put o.dst (.slice (some ⟨g, 0, none⟩) (zs.length + 1) cap)) w') :
    wpList Tryz.prog ops Q (o :: rest) a (wr.alloc (.cells #[.int .i64 z] 3)) := by
  obtain ⟨i, hi, hz0, hz1, hz2⟩ := info_parts infoInt
  subst hH
  refine wpList_append_lies _ hgd s x _ ho B 3 i (.int .i64 0) 1 8 Tryz.underlying33 hi hz0 hz1 hz2 rfl (by decide) v zs.length _ hs (hown.alloc _) ⟨wr.heap.size, 0, none⟩ 1 1 [.int .i64 z] hx rfl (cell_one_new _ _ _) ?_ (by decide) ?_ ?_ ?_ (wr.heap.size + 1) (by simp) ?_
  · intro u hu; simp at hu; subst hu; rfl
  · unfold maxLen; omega
  · omega
  · simp; omega
  · intro g cap w1 hown1 hgrow hat _
    refine h g cap w1 ?_ (((Keeps.refl _ wr).alloc _).grown hgrow (fun k hk => .inl hk)) (hat.imp id (fun h => by omega)) ?_
    · unfold OwnI ints
      rw [List.length_append, List.map_append]
      exact hown1
    · exact (hown1.lt g rfl).1

/-- 'append(l, ys...)', l of the call's own, ys any slice of int. -/
theorem appendInts {ops : Array Oper} {rest : List Oper} {o : Oper} {a : Act} {Q : Exit → Act → World → Prop} {wr : World} (hgd : o.guard = none) (s x : Operand)
    (ho : o.op = .call { callee := .builtin .append, args := #[s, x], argTypes := #[33, 33] }) (B : Nat) (v sv : Value) (zs ys : List Int) (hs : a.eval s = v) (hx : a.eval x = sv)
    (hown : OwnI B wr v zs) (hsl : Sl .i64 wr sv ys) (hlen : zs.length + ys.length ≤ 10000000000) (hB : B ≤ wr.heap.size)
    (h : ∀ v' w', OwnI B w' v' (zs ++ ys) → Keeps (fun k => v.ownBlock = some k) wr w' → (v'.ownBlock = v.ownBlock ∨ ∃ k, v'.ownBlock = some k ∧ wr.heap.size ≤ k) → wpList Tryz.prog ops Q rest (a.put o.dst v') w') :
    wpList Tryz.prog ops Q (o :: rest) a wr := by
  obtain ⟨i, hi, hz0, hz1, hz2⟩ := info_parts infoInt
  obtain ⟨ad, cap, rfl, hnc, hcm, hnone, hc⟩ := hsl
  cases ad with
  | none =>
    have hy : ys = [] := by
      cases ys with
      | nil => rfl
      | cons y ys => obtain ⟨g, off, h, _⟩ := hc 0 y rfl; cases h
    subst hy
    have := hnone rfl
    subst this
    refine wpList_append_own_none hgd s x _ ho B 3 i 1 Tryz.underlying33 hi v zs.length _ hs hown hx ?_
    exact h v wr (by simpa using hown) (Keeps.refl _ _) (.inl rfl)
  | some ad =>
    refine wpList_append_own_at _ hgd s x _ ho B 3 i (.int .i64 0) 1 8 Tryz.underlying33 hi hz0 hz1 hz2 rfl (by decide) v zs.length _ hs hown ad ys.length cap (ints ys) hx (by simp [ints]) ?_ ?_ ?_ ?_ hB ?_
    · intro j u hj
      simp only [ints, List.getElem?_map, Option.map_eq_some_iff] at hj
      obtain ⟨z, hz, rfl⟩ := hj
      obtain ⟨g', off', hg, hcell⟩ := hc j z hz
      simp only [Option.some.injEq] at hg
      subst hg
      have hadd : (⟨g', off', none⟩ : Addr).add j = ⟨g', off' + j, none⟩ := by
        unfold Addr.add
        split <;> simp_all
      rw [hadd]
      exact hcell
    · intro u hu
      simp only [ints, List.mem_map] at hu
      obtain ⟨z, _, rfl⟩ := hu
      rfl
    · unfold maxLen; omega
    · omega
    · intro v' w' hown' hgrow _ hat
      refine h v' w' ?_ ((Keeps.refl _ wr).grown hgrow (fun k hk => .inl hk)) (hat.imp id (fun h => ⟨_, h, Nat.le_refl _⟩))
      unfold OwnI ints
      rw [List.length_append, List.map_append]
      exact hown'

end Go.Proofs.YtblkkcpeodoclaaGreatDoor

/- The contract of the reference's Few: bits of bytes. -/
namespace Go.Proofs.YtblkkcpeodoclaaGreatDoor
open Go.RowKit

def nats (l : List Nat) : List Int := l.map fun x : Nat => (x : Int)

end Go.Proofs.YtblkkcpeodoclaaGreatDoor
