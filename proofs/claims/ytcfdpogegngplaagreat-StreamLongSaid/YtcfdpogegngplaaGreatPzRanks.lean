/- Joined texts: Rank, Rank2, Rank3, SelPure, Search, Select, SelOut, Law02a, Law02b, Idx, Ref02. -/
import Derived.Deep.RegionWith
import Derived.Deep.RegionHeld3
import Derived.OpenShut
import Derived.Test.YtcfdpogegngplaaGreatPzBase
/- The contracts of package rank: the index of a vector. -/
namespace Go.Proofs.YtcfdpogegngplaaGreat
open Go.RowKit

/-- What stands ahead of each block, and behind the last one. -/
def ahead (l : List Bool) : List Nat := (List.range ((l.length + 511) / 512 + 1)).map fun b => cnt (l.take (512 * b))

/-- The cells of an index: its vector's block, done, the lock, the directory, how often built and asked. -/
def idxCells (bv : Nat) (done : Bool) (lock : Int) (av : Value) (built asked : Int) : Array Value :=
  #[.pointer (some ⟨bv, 0, none⟩), .int .u32 (if done then 1 else 0), .int .i32 lock, .int .u32 0, av, .int .i64 built, .int .i64 asked]

/-- The directory: none, or what stands ahead of each block. -/
def DirAt (w : World) (done : Bool) (av : Value) (l : List Bool) : Prop :=
  if done then w.ownsRow 0 49 1 av (ahead l).length ((ahead l).map fun x : Nat => Value.int .u32 x) else av = .slice none 0 0

/-- An index of bits l, asked so often; F: its blocks. -/
structure IdxAt (w : World) (b : Nat) (l : List Bool) (done : Bool) (asked : Nat) (F : Nat → Prop) : Prop where
  ex : ∃ bv v av, w.heap[b]? = some (.cells (idxCells bv done 0 av (if done then 1 else 0) asked) 355 (0, 0)) ∧ VecAt w bv v l ∧ DirAt w done av l ∧
    F b ∧ F bv ∧ (∀ k, v.ownBlock = some k → F k) ∧ (∀ k, av.ownBlock = some k → F k)
  le : l.length ≤ 100000000
  old : ∀ k, F k → k < w.heap.size

theorem cnt_snoc (l : List Bool) (k : Nat) (h : k < l.length) : cnt (l.take (k + 1)) = cnt (l.take k) + (l.getD k false).toNat := by
  rw [take_snoc l k h, cnt_append]; simp [cnt]

/-- What make has laid when it has come to a place. -/
def MakeAt (w : World) (b bv : Nat) (v : Value) (l : List Bool) (asked : Int) (d : List Nat) (w' : World) : Prop :=
  ∃ av, w'.heap[b]? = some (.cells (idxCells bv false 1 av 1 asked) 355 (0, 0)) ∧ VecAt w' bv v l ∧
    w'.ownsRow 0 49 1 av d.length (d.map fun x : Nat => Value.int .u32 x) ∧ (∀ k, av.ownBlock = some k → w.heap.size ≤ k) ∧ Keeps (fun k => k = b) w w'

theorem MakeAt.step {w : World} {b bv : Nat} {v : Value} {l : List Bool} {asked : Int} {d : List Nat} {wr w1 : World} {av : Value} {o : Obj} {x g cap : Nat}
    (h1 : wr.heap[b]? = some (.cells (idxCells bv false 1 av 1 asked) 355 (0, 0))) (hv : VecAt wr bv v l) (hbo : v.ownBlock ≠ some b) (hav : ∀ k, av.ownBlock = some k → w.heap.size ≤ k) (hbw : b < w.heap.size)
    (hvw : bv < w.heap.size) (hvo : ∀ k, v.ownBlock = some k → k < w.heap.size) (hk : Keeps (fun k => k = b) w wr)
    (hown : w1.ownsRow 0 49 1 (.slice (some ⟨g, 0, none⟩) (d.length + 1) cap) (d.length + 1) ((d.map fun x : Nat => Value.int .u32 x) ++ [.int .u32 x]))
    (hgrow : (wr.alloc o).grownBy w1 av.ownBlock) (hat : av.ownBlock = some g ∨ g = wr.heap.size + 1) :
    MakeAt w b bv v l asked (d ++ [x]) (w1.setCell ⟨b, 4, none⟩ (.slice (some ⟨g, 0, none⟩) (d.length + 1) cap)) := by
  have hsz := hk.size
  have hg : w.heap.size ≤ g := by
    rcases hat with h | h
    · exact hav g h
    · omega
  have k1 : Keeps (fun k => av.ownBlock = some k) wr w1 := ((Keeps.refl _ wr).alloc _).grown hgrow (fun k hk => .inl hk)
  have hb1 := k1.at h1 (fun h => by have := hav b h; omega)
  have hbv : bv ≠ b := by
    rintro rfl
    have := hv.1
    rw [h1] at this
    simp at this
  have hv1 := hv.keeps k1 (fun h => by have := hav bv h; omega) (fun k hk h => by have := hav k h; have := hvo k hk; omega)
  have hv2 := hv1.keeps ((Keeps.refl (fun k => k = b) w1).setCell (p := ⟨b, 4, none⟩) (.inl rfl) (.slice (some ⟨g, 0, none⟩) (d.length + 1) cap)) hbv (fun k hk h => hbo (by rw [← h]; exact hk))
  refine ⟨_, heap_setCell_same hb1 4 _, hv2, ?_, ?_, ?_⟩
  · have := ownsRow_setCell_other hown (a := ⟨b, 4, none⟩) (by simp [Value.ownBlock]; omega) (.slice (some ⟨g, 0, none⟩) (d.length + 1) cap)
    simpa using this
  · intro k hk
    simp [Value.ownBlock] at hk
    omega
  · exact (hk.trans k1 (fun x hx h => by have := hav x h; omega)).setCell (.inl rfl) _

end Go.Proofs.YtcfdpogegngplaaGreat

/- The contracts of package rank: the questions. -/
namespace Go.Proofs.YtcfdpogegngplaaGreat
open Go.RowKit

/-- A footprint, with all blocks that are new. -/
def grow (F : Nat → Prop) (w w' : World) : Nat → Prop := fun k => F k ∨ (w.heap.size ≤ k ∧ k < w'.heap.size)

theorem IdxAt.keeps {w w' : World} {b : Nat} {l : List Bool} {done : Bool} {asked : Nat} {F G : Nat → Prop} (h : IdxAt w b l done asked F) (k : Keeps G w w') (hd : ∀ x, F x → ¬ G x) : IdxAt w' b l done asked F := by
  obtain ⟨⟨bv, v, av, hb, hv, hdir, Fb, Fbv, Fv, Fa⟩, hle, hold⟩ := h
  refine ⟨⟨bv, v, av, k.at hb (hd b Fb), hv.keeps k (hd bv Fbv) (fun x hx => hd x (Fv x hx)), ?_, Fb, Fbv, Fv, Fa⟩, hle, fun x hx => Nat.lt_of_lt_of_le (hold x hx) k.size⟩
  cases done with
  | true => exact k.owns (show w.ownsRow _ _ _ _ _ _ from hdir) (fun x hx => hd x (Fa x hx))
  | false => exact hdir

theorem IdxAt.mono {w : World} {b : Nat} {l : List Bool} {done : Bool} {asked : Nat} {F G : Nat → Prop} (h : IdxAt w b l done asked F) (hG : ∀ x, F x → G x) (hold : ∀ x, G x → x < w.heap.size) : IdxAt w b l done asked G := by
  obtain ⟨⟨bv, v, av, hb, hv, hdir, Fb, Fbv, Fv, Fa⟩, hle, _⟩ := h
  exact ⟨⟨bv, v, av, hb, hv, hdir, hG _ Fb, hG _ Fbv, fun x hx => hG _ (Fv x hx), fun x hx => hG _ (Fa x hx)⟩, hle, hold⟩

/-- How many of a bit, of so many of which so many are ones. -/
def ofZ (bit ones all : Int) : Int := if bit = 1 then ones else all - ones

/-- What is read off an index whose directory is made. -/
theorem IdxAt.read {w : World} {b : Nat} {l : List Bool} {asked : Nat} {F : Nat → Prop} (h : IdxAt w b l true asked F) :
    ∃ bv v ga cap, w.cell? ⟨b, 0, none⟩ = some (.pointer (some ⟨bv, 0, none⟩)) ∧ VecAt w bv v l ∧ w.cell? ⟨b, 4, none⟩ = some (.slice (some ⟨ga, 0, none⟩) (ahead l).length cap) ∧ (ahead l).length ≤ cap ∧ cap ≤ 9223372036854775807 ∧
      (ahead l).length = (l.length + 511) / 512 + 1 ∧ ∀ k, k < (ahead l).length → w.cell? ⟨ga, k, none⟩ = some (.int .u32 (cnt (l.take (512 * k)) : Nat)) := by
  obtain ⟨⟨bv, v, av, hb, hv, hdir, _, _, _, _⟩, hle, _⟩ := h
  have hal : (ahead l).length = (l.length + 511) / 512 + 1 := by simp [ahead]
  obtain ⟨g, cap, rfl, hnc, hcm, hc, _, _⟩ := owns_form (show w.ownsRow _ _ _ _ _ _ from hdir) (by omega)
  refine ⟨bv, v, g, cap, World.cell_of_heap hb 0, hv, World.cell_of_heap hb 4, hnc, by unfold maxLen at hcm; omega, hal, fun k hk => (hc k _ ?_).1⟩
  have hk' : k < (l.length + 511) / 512 + 1 := by omega
  simp [ahead, hk']

end Go.Proofs.YtcfdpogegngplaaGreat

/- The contracts of package rank: Rank, and nil indexes. -/
namespace Go.Proofs.YtcfdpogegngplaaGreat
open Go.RowKit

theorem grow_trans {F : Nat → Prop} {w w1 w2 : World} (h1 : w.heap.size ≤ w1.heap.size) (h2 : w1.heap.size ≤ w2.heap.size) : ∀ x, grow (grow F w w1) w1 w2 x → grow F w w2 x := by
  rintro x ((h | h) | h)
  · exact .inl h
  · exact .inr ⟨h.1, by omega⟩
  · exact .inr ⟨by omega, h.2⟩

theorem grow_old {F : Nat → Prop} {w w' : World} (hF : ∀ x, F x → x < w.heap.size) (hs : w.heap.size ≤ w'.heap.size) : ∀ x, grow F w w' x → x < w'.heap.size := by
  rintro x (h | h)
  · exact Nat.lt_of_lt_of_le (hF x h) hs
  · exact h.2

/-- How many of a bit ahead of a place. -/
def rk (l : List Bool) (bit : Int) (n : Nat) : Int := ofZ bit (cnt (l.take n)) n

/-- An index behind a question. -/
def IdxAfter (w : World) (b : Nat) (l : List Bool) (done : Bool) (asked : Nat) (F : Nat → Prop) (w' : World) : Prop :=
  IdxAt w' b l done asked (grow F w w') ∧ Keeps F w w'

end Go.Proofs.YtcfdpogegngplaaGreat

/- Where a bit stands: plain arithmetic. -/
namespace Go.Proofs.YtcfdpogegngplaaGreat

theorem rk_zero (l : List Bool) (bit : Int) : rk l bit 0 = 0 := by unfold rk ofZ; split <;> simp [cnt]

theorem rk_succ (l : List Bool) (bit : Int) (n : Nat) (hb : bit = 0 ∨ bit = 1) (h : n < l.length) : rk l bit (n + 1) = rk l bit n + (if ((l.getD n false).toNat : Int) = bit then 1 else 0) := by
  have hc := cnt_snoc l n h
  unfold rk ofZ
  rw [hc]
  rcases hb with rfl | rfl
  · cases l.getD n false <;> simp <;> omega
  · cases l.getD n false <;> simp

theorem rk_mono (l : List Bool) (bit : Int) (hb : bit = 0 ∨ bit = 1) (a : Nat) : ∀ d, a + d ≤ l.length → rk l bit a ≤ rk l bit (a + d) := by
  intro d
  induction d with
  | zero => intro _; exact Int.le_refl _
  | succ d ih =>
    intro h
    have h1 := ih (by omega)
    have h2 := rk_succ l bit (a + d) hb (by omega)
    rw [show a + (d + 1) = a + d + 1 by omega, h2]
    split <;> omega

theorem rk_le (l : List Bool) (bit : Int) (hb : bit = 0 ∨ bit = 1) {a c : Nat} (h : a ≤ c) (hc : c ≤ l.length) : rk l bit a ≤ rk l bit c := by
  have := rk_mono l bit hb a (c - a) (by omega)
  rwa [show a + (c - a) = c by omega] at this

theorem cnt_take_min (l : List Bool) (n : Nat) : cnt (l.take n) = cnt (l.take (min n l.length)) := by
  by_cases h : n ≤ l.length
  · rw [Nat.min_eq_left h]
  · rw [Nat.min_eq_right (by omega), List.take_of_length_le (by omega), List.take_of_length_le (by omega)]

/-- Here a bit stands with so many ahead of it. -/
def IsSel (l : List Bool) (bit k : Int) (n : Nat) : Prop := n < l.length ∧ ((l.getD n false).toNat : Int) = bit ∧ rk l bit n = k

theorem IsSel.unique {l : List Bool} {bit k : Int} (hb : bit = 0 ∨ bit = 1) {a c : Nat} (h1 : IsSel l bit k a) (h2 : IsSel l bit k c) : a = c := by
  rcases Nat.lt_trichotomy a c with h | h | h
  · have h3 := rk_succ l bit a hb h1.1
    rw [if_pos h1.2.1, h1.2.2] at h3
    have h4 := rk_le l bit hb (a := a + 1) (c := c) (by omega) (by have := h2.1; omega)
    rw [h2.2.2] at h4
    omega
  · exact h
  · have h3 := rk_succ l bit c hb h2.1
    rw [if_pos h2.2.1, h2.2.2] at h3
    have h4 := rk_le l bit hb (a := c + 1) (c := a) (by omega) (by have := h1.1; omega)
    rw [h1.2.2] at h4
    omega

end Go.Proofs.YtcfdpogegngplaaGreat

/- The contract of sort.Search, of a test that only reads. -/
namespace Go.Proofs.YtcfdpogegngplaaGreat
open Go.RowKit

end Go.Proofs.YtcfdpogegngplaaGreat

/- The contract of package rank's Select. -/
namespace Go.Proofs.YtcfdpogegngplaaGreat
open Go.RowKit

theorem IdxAt.drewN {w : World} {b : Nat} {l : List Bool} {done : Bool} {asked : Nat} {F : Nat → Prop} (h : IdxAt w b l done asked F) (n : Nat) : IdxAt (w.drewN n) b l done asked F :=
  h.keeps ((Keeps.refl (fun _ => False) w).drewN n) (fun _ _ h => h)

end Go.Proofs.YtcfdpogegngplaaGreat

/- The contract of package rank's Select, where it refuses. -/
namespace Go.Proofs.YtcfdpogegngplaaGreat
open Go.RowKit

end Go.Proofs.YtcfdpogegngplaaGreat

/- Layer 2's statements: what their helper 'made' makes. -/
namespace Go.Proofs.YtcfdpogegngplaaGreat
open Go.RowKit

/-- So many times over. -/
def over (l : List Int) : Nat → List Int
  | 0 => []
  | n + 1 => over l n ++ l

theorem bitsOf_append (a b : List Int) : bitsOf (a ++ b) = bitsOf a ++ bitsOf b := by simp [bitsOf]

end Go.Proofs.YtcfdpogegngplaaGreat

/- Layer 2's statements: the document's example. -/
namespace Go.Proofs.YtcfdpogegngplaaGreat
open Go.RowKit

end Go.Proofs.YtcfdpogegngplaaGreat

/- The index's contracts, told against a world that stays. -/
namespace Go.Proofs.YtcfdpogegngplaaGreat
open Go.RowKit

theorem IdxAfter.trans {wh w1 w2 : World} {b : Nat} {l : List Bool} {done done' : Bool} {asked asked' : Nat} {F : Nat → Prop} (hF : ∀ x, F x → x < wh.heap.size) (h : IdxAfter wh b l done asked F w1) (k : IdxAfter w1 b l done' asked' (grow F wh w1) w2) : IdxAfter wh b l done' asked' F w2 := by
  obtain ⟨h1, h2⟩ := h
  obtain ⟨k1, k2⟩ := k
  refine ⟨k1.mono (grow_trans h2.size k2.size) (grow_old hF (Nat.le_trans h2.size k2.size)), h2.trans k2 ?_⟩
  rintro x hx (h | h)
  · exact h
  · omega



theorem IdxAfter.keeps {wh w1 w2 : World} {b : Nat} {l : List Bool} {done : Bool} {asked : Nat} {F G : Nat → Prop} (h : IdxAfter wh b l done asked F w1) (k : Keeps G w1 w2) (hG : ∀ x, x < w1.heap.size → ¬ G x) : IdxAfter wh b l done asked F w2 := by
  obtain ⟨h1, h2⟩ := h
  refine ⟨(h1.keeps k (fun x hx => hG x (h1.old x hx))).mono ?_ ?_, h2.trans k (fun x hx hg => absurd hg (hG x (Nat.lt_of_lt_of_le hx h2.size)))⟩
  · rintro x (h | h)
    · exact .inl h
    · exact .inr ⟨h.1, Nat.lt_of_lt_of_le h.2 k.size⟩
  · rintro x (h | h)
    · exact Nat.lt_of_lt_of_le (h1.old x (.inl h)) k.size
    · exact h.2

theorem bitsOf_length (zs : List Int) : (bitsOf zs).length = zs.length := by simp [bitsOf]

/-- Bytes that came in. -/
theorem RowIn.bytes {w : World} {a : Option Addr} {len cap : Nat} {zs : List Int} (h : RowIn .u8 w a len cap zs) : ∃ ps : List Nat, Sl .u8 w (.slice a len cap) (nats ps) ∧ ∀ b ∈ ps, b < 256 := by
  obtain ⟨h1, _, h3, _⟩ := h.sl
  refine ⟨(zs.take len).map Int.toNat, ?_, ?_⟩
  · have : nats ((zs.take len).map Int.toNat) = zs.take len := by
      unfold nats
      rw [List.map_map]
      conv => rhs; rw [← List.map_id (zs.take len)]
      apply List.map_congr_left
      intro n hn
      have := bounds_u8 (h3 n hn)
      simp
      omega
    rw [this]
    exact h1
  · intro b hb
    obtain ⟨n, hn, rfl⟩ := List.mem_map.1 hb
    have := bounds_u8 (h3 n hn)
    omega

theorem u8_in {n : Int} (h : (Lit.int .u8 n).wf = true) : ∃ m : Nat, n = m ∧ m < 256 := by
  have := bounds_u8 h
  exact ⟨n.toNat, by omega, by omega⟩
end Go.Proofs.YtcfdpogegngplaaGreat

/- The references of layer 2. -/
namespace Go.Proofs.YtcfdpogegngplaaGreat
open Go.RowKit

end Go.Proofs.YtcfdpogegngplaaGreat
