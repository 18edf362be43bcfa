/- Joined texts: Shelf, Builder, Text, Num, Word2, Kinds, Like. -/
import Derived.Shelf.Strings.Builder1
import Derived.Test.YtcfdpogegngplaaGreatProg
import Derived.Test.YtcfdpogegngplaaGreatPzRef4
/- strings.Builder.String, as the kit's shelf lays it at this program (lines written by the kit's lay-plain program). -/
namespace Go.Proofs
open Go.Shelf
end Go.Proofs

/- strings.Builder: copyCheck, WriteByte. -/
namespace Go.Proofs.YtcfdpogegngplaaGreat
open Go.RowKit

end Go.Proofs.YtcfdpogegngplaaGreat

/- Texts of words and bits. -/
namespace Go.Proofs.YtcfdpogegngplaaGreat
open Go.RowKit

end Go.Proofs.YtcfdpogegngplaaGreat

/- bits.Vec.Num. -/
namespace Go.Proofs.YtcfdpogegngplaaGreat
open Go.RowKit

theorem VecAt.grown {w : World} {b : Nat} {v : Value} {l : List Bool} (h : VecAt w b v l) : VecGrown w b v l w := ⟨v, h, Keeps.refl _ _, .inl rfl⟩

end Go.Proofs.YtcfdpogegngplaaGreat

/- Words: Count, Bits. -/
namespace Go.Proofs.YtcfdpogegngplaaGreat
open Go.RowKit

/-- A new vector's state. -/
def VecNew (w : World) (b : Nat) (l : List Bool) (w' : World) : Prop := ∃ v, VecAt w' b v l ∧ w.heap.size ≤ b ∧ (∀ k, v.ownBlock = some k → w.heap.size ≤ k) ∧ Keeps (fun _ => False) w w'

theorem VecNew.grown {w wr w1 : World} {b : Nat} {l : List Bool} {v : Value} (hb : w.heap.size ≤ b) (hv : ∀ k, v.ownBlock = some k → w.heap.size ≤ k) (hk : Keeps (fun _ => False) w wr) (h : VecGrown wr b v l w1) : VecNew w b l w1 := by
  obtain ⟨v1, h1, h2, h3⟩ := h
  refine ⟨v1, h1, hb, fun k hk' => ?_, hk.trans h2 (fun x hx e => ?_)⟩
  · rcases h3 with h3 | ⟨k', h3, hk''⟩
    · rw [h3] at hk'; exact hv k hk'
    · rw [h3] at hk'; cases hk'; exact Nat.le_trans hk.size hk''
  · rcases e with rfl | e
    · omega
    · have := hv x e; omega

end Go.Proofs.YtcfdpogegngplaaGreat

/- ref04.Kinds. -/
namespace Go.Proofs.YtcfdpogegngplaaGreat
open Go.RowKit

/-- What Kinds hands back. -/
def KindsPost (w : World) (s : ByteArray) (e : Ending) (w' : World) : Prop :=
  (∃ v ks, s.data.toList.map kindZ = nats ks ∧ e = .returned (.tuple #[v, .int .i64 (-1)]) ∧ OwnI w.heap.size w' v (nats ks) ∧ Keeps (fun _ => False) w w') ∨
  (∃ i : Nat, i < s.size ∧ (∀ j, j < i → ∀ c, s.data.toList[j]? = some c → 0 ≤ kindZ c) ∧ (∃ c, s.data.toList[i]? = some c ∧ kindZ c < 0) ∧ e = .returned (.tuple #[.slice none 0 0, .int .i64 i]) ∧ Keeps (fun _ => False) w w')

def KinS (w : World) (s : ByteArray) (j : Nat) (lv : Value) (wr : World) : Prop :=
  ∃ ks, (s.data.toList.take j).map kindZ = nats ks ∧ OwnI w.heap.size wr lv (nats ks) ∧ ks.length = j ∧ Keeps (fun _ => False) w wr

theorem KinS.push {w wr w1 : World} {s : ByteArray} {j : Nat} {lv lv' : Value} {ks : List Nat} {c : UInt8} {x : Nat} {z : Int} (hz : z = x) (hx : kindZ c = x) (hc : s.data.toList[j]? = some c) (hks : (s.data.toList.take j).map kindZ = nats ks) (hkl : ks.length = j)
    (hk : Keeps (fun _ => False) w wr) (hown : OwnI w.heap.size wr lv (nats ks)) (hown2 : OwnI w.heap.size w1 lv' (nats ks ++ [z])) (hk2 : Keeps (fun k => lv.ownBlock = some k) wr w1) : KinS w s (j + 1) lv' w1 := by
  refine ⟨ks ++ [x], ?_, by simpa [nats, hz] using hown2, by simp [hkl], hk.trans hk2 (fun y hy h => by have := (hown.lt y h).1; omega)⟩
  rw [take_get hc, List.map_append, hks]
  simp [nats, hx]

theorem KinS.done {w wr : World} {s : ByteArray} {j : Nat} {lv : Value} (hj : ¬ j < s.size) (h : KinS w s j lv wr) : KindsPost w s (.returned (.tuple #[lv, .int .i64 (-1)])) wr := by
  obtain ⟨ks, h1, h2, h3, h4⟩ := h
  have : s.data.toList.length = s.size := by simp
  rw [List.take_of_length_le (by omega)] at h1
  exact .inl ⟨lv, ks, h1, rfl, h2, h4⟩

end Go.Proofs.YtcfdpogegngplaaGreat

/- law04.like. -/
namespace Go.Proofs.YtcfdpogegngplaaGreat
open Go.RowKit

end Go.Proofs.YtcfdpogegngplaaGreat
