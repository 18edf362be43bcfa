/- Joined texts: Shelf, Builder, Text, Num, Word2, Kinds, Like. -/
import Derived.Shelf.Strings.Builder1
import Derived.Test.YtipelclohcdkcaaGreatProg
import Derived.Test.YtipelclohcdkcaaGreatPsRef4
/- strings.Builder.String, as the kit's shelf lays it at this program (lines written by the kit's lay-plain program). -/
namespace Go.Proofs
open Go.Shelf
end Go.Proofs

/- strings.Builder: copyCheck, WriteByte. -/
namespace Go.Proofs.YtipelclohcdkcaaGreat
open Go.RowKit

end Go.Proofs.YtipelclohcdkcaaGreat

/- Texts of words and bits. -/
namespace Go.Proofs.YtipelclohcdkcaaGreat
open Go.RowKit

end Go.Proofs.YtipelclohcdkcaaGreat

/- bits.Vec.Num. -/
namespace Go.Proofs.YtipelclohcdkcaaGreat
open Go.RowKit

/-- The lowest bits of a number, the lowest first. -/
def numB (x k : Nat) : List Bool := (List.range k).map fun i => x / 2 ^ i % 2 == 1

theorem numB_succ (x k : Nat) : numB x (k + 1) = numB x k ++ [x / 2 ^ k % 2 == 1] := by simp [numB, List.range_succ]
theorem numB_length (x k : Nat) : (numB x k).length = k := by simp [numB]

theorem VecAt.grown {w : World} {b : Nat} {v : Value} {l : List Bool} (h : VecAt w b v l) : VecGrown w b v l w := ⟨v, h, Keeps.refl _ _, .inl rfl⟩

theorem and_bit (y : Nat) (hy : y < 18446744073709551616) : bits BinOp.and IntKind.u64 (y : Int) 1 = (((y % 2 == 1).toNat : Nat) : Int) := by
  have h := bits_and_u64_nat y 1 hy (by omega)
  rw [show ((1 : Nat) : Int) = 1 from rfl] at h
  rw [h, Nat.and_one_is_mod]
  have h2 : y % 2 = 0 ∨ y % 2 = 1 := by omega
  rcases h2 with h2 | h2 <;> rw [h2] <;> rfl

set_option maxRecDepth 100000 in
set_option maxHeartbeats 1000000 in
theorem num_any (b : Nat) (v : Value) (l : List Bool) (x k : Nat) (w : World) (h : VecAt w b v l) (hl : l.length + 64 < 1000000000) (hx : x < 18446744073709551616) (hk : k ≤ 64) :
    Calls Tryz.prog 112 #[.pointer (some ⟨b, 0, none⟩), .int .u64 x, .int .i64 k] w fun e w' => e = .returned (.tuple #[]) ∧ VecGrown w b v (l ++ numB x k) w' := by
  have e2 : min (k : Int) 64 = k := by omega
  go_enter Tryz.func112, Tryz.ntmps112
  go_wp2_with fail
  clear e2
  go_loopg [12] k (fun m i wr => ∃ j : Nat, j ≤ k ∧ m = k - j ∧ i = .int .i64 j ∧ VecGrown w b v (l ++ numB x j) wr)
  case atStart => exact ⟨0, Nat.zero_le _, rfl, rfl, by simpa [numB] using h.grown⟩
  case round =>
    obtain ⟨j, hj, hgk, rfl, v1, h1, h2, h3⟩ := hrel
    have HG := Lib.hid hgk
    clear hgk
    by_cases hlt : j < k
    · have hA := add_any b v1 (l ++ numB x j) (x / 2 ^ j % 2 == 1) wr h1 (by simp [numB_length]; omega)
      have HS := Lib.hid (And.intro h2 h3)
      clear h1 h2 h3
      have e3 := and_bit (x / 2 ^ j) (Nat.lt_of_le_of_lt (Nat.div_le_self _ _) hx)
      have e4 : (x : Int) / 2 ^ j = ((x / 2 ^ j : Nat) : Int) := by simp
      rw [← e4] at e3
      have HE := Lib.hid e3
      clear e3 e4
      go_wp2_with fail
      rw [HE.out]
      refine hA.mono ?_
      rintro e w2 ⟨rfl, v2, g1, g2, g3⟩
      have hfin : VecGrown w b v (l ++ numB x (j + 1)) w2 := VecGrown.trans HS.out.1 HS.out.2 ⟨v2, by rw [numB_succ, ← List.append_assoc]; exact g1, g2, g3⟩
      have HF := Lib.hid hfin
      clear hA g1 g2 g3 hfin
      go_wp2
      go_roundg (k - (j + 1))
      case measure => rw [HG.out]; omega
      case rel => exact ⟨j + 1, by omega, rfl, by go_num, HF.out⟩
    · obtain rfl : j = k := by omega
      have HF : Hid (VecGrown w b v (l ++ numB x j) wr) := Lib.hid ⟨v1, h1, h2, h3⟩
      clear h1 h2 h3
      go_wp2
      go_end0
      exact ⟨rfl, HF.out⟩

end Go.Proofs.YtipelclohcdkcaaGreat

/- Words: Count, Bits. -/
namespace Go.Proofs.YtipelclohcdkcaaGreat
open Go.RowKit

/-- A word's bits: two a letter. -/
def wbits (ks : List Nat) : List Bool := ks.flatMap fun k => numB k 2

theorem wbits_step {ks : List Nat} {i x : Nat} (h : ks[i]? = some x) : wbits (ks.take (i + 1)) = wbits (ks.take i) ++ numB x 2 := by
  unfold wbits; rw [take_get h, List.flatMap_append]; simp

theorem wbits_length (ks : List Nat) : (wbits ks).length = 2 * ks.length := by
  induction ks with
  | nil => rfl
  | cons k ks ih => simp only [wbits, List.flatMap_cons, List.length_append, numB_length, List.length_cons] at *; omega

/-- A new vector's state. -/
def VecNew (w : World) (b : Nat) (l : List Bool) (w' : World) : Prop := ∃ v, VecAt w' b v l ∧ w.heap.size ≤ b ∧ (∀ k, v.ownBlock = some k → w.heap.size ≤ k) ∧ Keeps (fun _ => False) w w'

theorem VecNew.grown {w wr w1 : World} {b : Nat} {l : List Bool} {v : Value} (hb : w.heap.size ≤ b) (hv : ∀ k, v.ownBlock = some k → w.heap.size ≤ k) (hk : Keeps (fun _ => False) w wr) (h : VecGrown wr b v l w1) : VecNew w b l w1 := by
  obtain ⟨v1, h1, h2, h3⟩ := h
  refine ⟨v1, h1, hb, fun k hk' => ?_, hk.trans h2 (fun x hx e => ?_)⟩
  · rcases h3 with h3 | ⟨k', h3, hk''⟩
    · rw [h3] at hk'; exact hv k hk'
    · rw [h3] at hk'; cases hk'; exact Nat.le_trans hk.size hk''
  · rcases e with rfl | e
    · omega
    · have := hv x e; omega

set_option maxRecDepth 100000 in
set_option maxHeartbeats 1000000 in
theorem wordBits_any (b : Nat) (v : Value) (ks : List Nat) (w : World) (hv : WordAt w b v ks) (h4 : ∀ k ∈ ks, k < 4) (hl : ks.length ≤ 1000000) :
    Calls Tryz.prog 29 #[.pointer (some ⟨b, 0, none⟩)] w fun e w' => ∃ b2, e = .returned (.pointer (some ⟨b2, 0, none⟩)) ∧ VecNew w b2 (wbits ks) w' := by
  have k0 := (Keeps.refl (fun _ => False) w).alloc (.cells #[.slice none 0 0, .int .i64 0] 130)
  have HV : Hid (∀ W, Keeps (fun _ => False) w W → WordAt W b v ks) := Lib.hid (fun W hk => hv.keeps hk (fun h => h) (fun _ _ h => h))
  have hL := wordLen_any b v ks _ (HV.out _ k0)
  have hN0 : VecNew w w.heap.size [] (w.alloc (.cells #[.slice none 0 0, .int .i64 0] 130)) := ⟨_, vec_new w, Nat.le_refl _, fun k hk => by simp [Value.ownBlock] at hk, k0⟩
  have HH := Lib.hid h4
  clear hv h4 k0
  go_enter Tryz.func29, Tryz.ntmps29
  go_wp2_with fail
  refine (new_any _).mono ?_
  rintro e w1 ⟨rfl, rfl⟩
  go_wp2_with fail
  refine hL.mono ?_
  rintro e w1 ⟨rfl, rfl⟩
  clear hL
  go_wp2_with fail
  generalize World.alloc _ _ = wM at *
  obtain ⟨b2, hb2⟩ : ∃ b2, b2 = w.heap.size := ⟨_, rfl⟩
  rw [← hb2] at hN0
  rw [← hb2]
  clear hb2
  go_loopg [8] ks.length (fun m i wr => ∃ j : Nat, j ≤ ks.length ∧ m = ks.length - j ∧ i = .int .i64 j ∧ VecNew w b2 (wbits (ks.take j)) wr)
  case atStart => exact ⟨0, Nat.zero_le _, rfl, rfl, hN0⟩
  case round =>
    obtain ⟨j, hj, hgk, rfl, v1, g1, g2, g3, g4⟩ := hrel
    have HG := Lib.hid hgk
    clear hgk hN0
    by_cases hlt : j < ks.length
    · have hWr := HV.out wr g4
      obtain ⟨a, cap, rfl, hc1, hc2, hcell⟩ := hWr.form
      have c0 : wr.cell? ⟨b, 0, none⟩ = some (.slice a ks.length cap) := World.cell_of_heap hWr.1 0
      have hg := List.getElem?_eq_getElem hlt
      obtain ⟨g, rfl, hc⟩ := hcell j _ hg
      have hx4 := HH.out _ (List.mem_of_getElem? hg)
      have hst := wbits_step hg
      have hlen := wbits_length (ks.take j)
      have hN := num_any b2 v1 (wbits (ks.take j)) ks[j] 2 wr g1 (by rw [hlen, List.length_take]; omega) (by omega) (by omega)
      rw [← hst] at hN
      generalize ks[j] = y at *
      have HS := Lib.hid (And.intro g2 (And.intro g3 g4))
      clear hg hst hcell hWr g1 g2 g3 g4 hlen
      go_wp2_with fail
      refine hN.mono ?_
      rintro e w2 ⟨rfl, hgr⟩
      have HF : Hid (VecNew w b2 (wbits (ks.take (j + 1))) w2) := Lib.hid (VecNew.grown HS.out.1 HS.out.2.1 HS.out.2.2 hgr)
      clear hN hgr
      go_wp2
      go_roundg (ks.length - (j + 1))
      case measure => rw [HG.out]; omega
      case rel => exact ⟨j + 1, by omega, rfl, by go_num, HF.out⟩
    · obtain rfl : j = ks.length := by omega
      have HF : Hid (VecNew w b2 (wbits (ks.take ks.length)) wr) := Lib.hid ⟨v1, g1, g2, g3, g4⟩
      clear g1 g2 g3 g4
      go_wp2
      go_ret
      refine ⟨b2, rfl, ?_⟩
      have := HF.out
      rwa [List.take_of_length_le (Nat.le_refl _)] at this

end Go.Proofs.YtipelclohcdkcaaGreat

/- ref04.Kinds. -/
namespace Go.Proofs.YtipelclohcdkcaaGreat
open Go.RowKit

/-- What Kinds hands back. -/
def KindsPost (w : World) (s : ByteArray) (e : Ending) (w' : World) : Prop :=
  (∃ v ks, s.data.toList.map kindZ = nats ks ∧ e = .returned (.tuple #[v, .int .i64 (-1)]) ∧ OwnI w.heap.size w' v (nats ks) ∧ Keeps (fun _ => False) w w') ∨
  (∃ i : Nat, i < s.size ∧ (∀ j, j < i → ∀ c, s.data.toList[j]? = some c → 0 ≤ kindZ c) ∧ (∃ c, s.data.toList[i]? = some c ∧ kindZ c < 0) ∧ e = .returned (.tuple #[.slice none 0 0, .int .i64 i]) ∧ Keeps (fun _ => False) w w')

def KinS (w : World) (s : ByteArray) (j : Nat) (lv : Value) (wr : World) : Prop :=
  ∃ ks, (s.data.toList.take j).map kindZ = nats ks ∧ OwnI w.heap.size wr lv (nats ks) ∧ ks.length = j ∧ Keeps (fun _ => False) w wr

theorem KinS.push {w wr w1 : World} {s : ByteArray} {j : Nat} {lv lv' : Value} {ks : List Nat} {c : UInt8} {x : Nat} {z : Int} (hz : z = x) (hx : kindZ c = x) (hc : s.data.toList[j]? = some c) (hks : (s.data.toList.take j).map kindZ = nats ks) (hkl : ks.length = j)
    (hk : Keeps (fun _ => False) w wr) (hown : OwnI w.heap.size wr lv (nats ks)) (hown2 : OwnI w.heap.size w1 lv' (nats ks ++ [z])) (hk2 : Keeps (fun k => lv.ownBlock = some k) wr w1) : KinS w s (j + 1) lv' w1 := by
  refine ⟨ks ++ [x], ?_, by simpa [nats, hz] using hown2, by simp [hkl], hk.trans hk2 (fun y hy h => by have := (hown.lt y h).1; omega)⟩
  rw [take_get hc, List.map_append, hks]
  simp [nats, hx]

theorem KinS.done {w wr : World} {s : ByteArray} {j : Nat} {lv : Value} (hj : ¬ j < s.size) (h : KinS w s j lv wr) : KindsPost w s (.returned (.tuple #[lv, .int .i64 (-1)])) wr := by
  obtain ⟨ks, h1, h2, h3, h4⟩ := h
  have : s.data.toList.length = s.size := by simp
  rw [List.take_of_length_le (by omega)] at h1
  exact .inl ⟨lv, ks, h1, rfl, h2, h4⟩

end Go.Proofs.YtipelclohcdkcaaGreat

/- law04.like. -/
namespace Go.Proofs.YtipelclohcdkcaaGreat
open Go.RowKit

end Go.Proofs.YtipelclohcdkcaaGreat
