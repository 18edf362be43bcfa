/- Joined texts: Rank, Rank2, Rank3, SelPure, Search, Select, SelOut, Law02a, Law02b, Idx, Ref02. -/
import Derived.Test.YtblkkcpeodoclaaGreatDoorBase
import Derived.Deep.RegionWith
import Derived.Deep.RegionHeld3
import Derived.OpenShut

/- The contracts of package rank: the index of a vector. -/
namespace Go.Proofs.YtblkkcpeodoclaaGreatDoor
open Go.RowKit

theorem infoU32 : (Tryz.prog.info? 65).map (fun i => (i.zero, i.size, i.bytes)) = some (some (.int .u32 0), 1, 4) := by kernel_rfl

/-- What stands ahead of each block, and behind the last one. -/
def ahead (l : List Bool) : List Nat := (List.range ((l.length + 511) / 512 + 1)).map fun b => cnt (l.take (512 * b))

/-- The cells of an index: its vector's block, done, the lock, the directory, how often built and asked. -/
def idxCells (bv : Nat) (done : Bool) (lock : Int) (av : Value) (built asked : Int) : Array Value :=
  #[.pointer (some ⟨bv, 0, none⟩), .int .u32 (if done then 1 else 0), .int .i32 lock, .int .u32 0, av, .int .i64 built, .int .i64 asked]

/-- The directory: none, or what stands ahead of each block. -/
def DirAt (w : World) (done : Bool) (av : Value) (l : List Bool) : Prop :=
  if done then w.ownsRow 0 65 1 av (ahead l).length ((ahead l).map fun x : Nat => Value.int .u32 x) else av = .slice none 0 0

/-- The directory up to a place. -/
def aheadTo (l : List Bool) (k : Nat) : List Nat := (List.range ((k + 511) / 512)).map fun b => cnt (l.take (512 * b))

theorem aheadTo_hit (l : List Bool) (k : Nat) (h : k % 512 = 0) : aheadTo l (k + 1) = aheadTo l k ++ [cnt (l.take k)] := by
  unfold aheadTo
  rw [show (k + 1 + 511) / 512 = (k + 511) / 512 + 1 by omega, List.range_succ, List.map_append, List.map_singleton, show 512 * ((k + 511) / 512) = k by omega]

theorem aheadTo_miss (l : List Bool) (k : Nat) (h : ¬ k % 512 = 0) : aheadTo l (k + 1) = aheadTo l k := by
  unfold aheadTo
  rw [show (k + 1 + 511) / 512 = (k + 511) / 512 by omega]

theorem aheadTo_last (l : List Bool) : ahead l = aheadTo l l.length ++ [cnt l] := by
  unfold aheadTo ahead
  rw [List.range_succ, List.map_append, List.map_singleton, List.take_of_length_le (l := l) (by omega)]

theorem aheadTo_length (l : List Bool) (k : Nat) : (aheadTo l k).length = (k + 511) / 512 := by simp [aheadTo]

theorem cnt_snoc (l : List Bool) (k : Nat) (h : k < l.length) : cnt (l.take (k + 1)) = cnt (l.take k) + (l.getD k false).toNat := by
  rw [take_snoc l k h, cnt_append]; simp [cnt]

end Go.Proofs.YtblkkcpeodoclaaGreatDoor

/- The contracts of package rank: the questions. -/
namespace Go.Proofs.YtblkkcpeodoclaaGreatDoor
open Go.RowKit

/-- A footprint, with all blocks that are new. -/
def grow (F : Nat → Prop) (w w' : World) : Nat → Prop := fun k => F k ∨ (w.heap.size ≤ k ∧ k < w'.heap.size)

/-- How many of a bit, of so many of which so many are ones. -/
def ofZ (bit ones all : Int) : Int := if bit = 1 then ones else all - ones

end Go.Proofs.YtblkkcpeodoclaaGreatDoor

/- The contracts of package rank: Rank, and nil indexes. -/
namespace Go.Proofs.YtblkkcpeodoclaaGreatDoor
open Go.RowKit

theorem grow_trans {F : Nat → Prop} {w w1 w2 : World} (h1 : w.heap.size ≤ w1.heap.size) (h2 : w1.heap.size ≤ w2.heap.size) : ∀ x, grow (grow F w w1) w1 w2 x → grow F w w2 x := by
  rintro x ((h | h) | h)
  · exact .inl h
  · exact .inr ⟨h.1, by omega⟩
  · exact .inr ⟨by omega, h.2⟩

theorem grow_old {F : Nat → Prop} {w w' : World} (hF : ∀ x, F x → x < w.heap.size) (hs : w.heap.size ≤ w'.heap.size) : ∀ x, grow F w w' x → x < w'.heap.size := by
  rintro x (h | h)
  · exact Nat.lt_of_lt_of_le (hF x h) hs
  · exact h.2

/-- The first place from which on a rising test says yes. -/
def IsFirst (p : Nat → Bool) (n r : Nat) : Prop := r ≤ n ∧ (∀ i, i < r → p i = false) ∧ (r < n → p r = true)

/-- How many of a bit ahead of a place. -/
def rk (l : List Bool) (bit : Int) (n : Nat) : Int := ofZ bit (cnt (l.take n)) n

end Go.Proofs.YtblkkcpeodoclaaGreatDoor

/- Where a bit stands: plain arithmetic. -/
namespace Go.Proofs.YtblkkcpeodoclaaGreatDoor

theorem rk_zero (l : List Bool) (bit : Int) : rk l bit 0 = 0 := by unfold rk ofZ; split <;> simp [cnt]

theorem rk_succ (l : List Bool) (bit : Int) (n : Nat) (hb : bit = 0 ∨ bit = 1) (h : n < l.length) : rk l bit (n + 1) = rk l bit n + (if ((l.getD n false).toNat : Int) = bit then 1 else 0) := by
  have hc := cnt_snoc l n h
  unfold rk ofZ
  rw [hc]
  rcases hb with rfl | rfl
  · cases l.getD n false <;> simp <;> omega
  · cases l.getD n false <;> simp

theorem rk_mono (l : List Bool) (bit : Int) (hb : bit = 0 ∨ bit = 1) (a : Nat) : ∀ d, a + d ≤ l.length → rk l bit a ≤ rk l bit (a + d) := by
  intro d
  induction d with
  | zero => intro _; exact Int.le_refl _
  | succ d ih =>
    intro h
    have h1 := ih (by omega)
    have h2 := rk_succ l bit (a + d) hb (by omega)
    rw [show a + (d + 1) = a + d + 1 by omega, h2]
    split <;> omega

theorem rk_le (l : List Bool) (bit : Int) (hb : bit = 0 ∨ bit = 1) {a c : Nat} (h : a ≤ c) (hc : c ≤ l.length) : rk l bit a ≤ rk l bit c := by
  have := rk_mono l bit hb a (c - a) (by omega)
  rwa [show a + (c - a) = c by omega] at this

theorem rk_bounds (l : List Bool) (bit : Int) (hb : bit = 0 ∨ bit = 1) (n : Nat) (h : n ≤ l.length) : 0 ≤ rk l bit n ∧ rk l bit n ≤ n := by
  induction n with
  | zero => rw [rk_zero]; omega
  | succ n ih =>
    have h1 := ih (by omega)
    have h2 := rk_succ l bit n hb (by omega)
    rw [h2]
    split <;> omega

theorem cnt_take_min (l : List Bool) (n : Nat) : cnt (l.take n) = cnt (l.take (min n l.length)) := by
  by_cases h : n ≤ l.length
  · rw [Nat.min_eq_left h]
  · rw [Nat.min_eq_right (by omega), List.take_of_length_le (by omega), List.take_of_length_le (by omega)]

/-- The test of Select's search. -/
def selP (l : List Bool) (bit k : Int) (i : Nat) : Bool := decide (k < ofZ bit (cnt (l.take (512 * i))) (min (512 * i) l.length : Nat))

theorem selP_rk (l : List Bool) (bit k : Int) (i : Nat) : selP l bit k i = decide (k < rk l bit (min (512 * i) l.length)) := by
  unfold selP rk
  rw [cnt_take_min]

theorem selP_mono (l : List Bool) (bit k : Int) (hb : bit = 0 ∨ bit = 1) (i j : Nat) (hij : i ≤ j) (h : selP l bit k i = true) : selP l bit k j = true := by
  rw [selP_rk] at *
  have h1 := of_decide_eq_true h
  have h2 := rk_le l bit hb (a := min (512 * i) l.length) (c := min (512 * j) l.length) (by omega) (by omega)
  exact decide_eq_true (by omega)

/-- Here a bit stands with so many ahead of it. -/
def IsSel (l : List Bool) (bit k : Int) (n : Nat) : Prop := n < l.length ∧ ((l.getD n false).toNat : Int) = bit ∧ rk l bit n = k

theorem IsSel.unique {l : List Bool} {bit k : Int} (hb : bit = 0 ∨ bit = 1) {a c : Nat} (h1 : IsSel l bit k a) (h2 : IsSel l bit k c) : a = c := by
  rcases Nat.lt_trichotomy a c with h | h | h
  · have h3 := rk_succ l bit a hb h1.1
    rw [if_pos h1.2.1, h1.2.2] at h3
    have h4 := rk_le l bit hb (a := a + 1) (c := c) (by omega) (by have := h2.1; omega)
    rw [h2.2.2] at h4
    omega
  · exact h
  · have h3 := rk_succ l bit c hb h2.1
    rw [if_pos h2.2.1, h2.2.2] at h3
    have h4 := rk_le l bit hb (a := c + 1) (c := a) (by omega) (by have := h1.1; omega)
    rw [h1.2.2] at h4
    omega

/-- What the search has found. -/
theorem sel_block {l : List Bool} {bit k : Int} (h0 : 0 ≤ k) (hk : k < rk l bit l.length) {r : Nat} (h : IsFirst (selP l bit k) ((l.length + 511) / 512 + 1) r) :
    1 ≤ r ∧ r ≤ (l.length + 511) / 512 ∧ 512 * (r - 1) ≤ l.length ∧ rk l bit (512 * (r - 1)) ≤ k := by
  obtain ⟨h1, h2, h3⟩ := h
  have hz : selP l bit k 0 = false := by rw [selP_rk]; simp [rk_zero]; omega
  have hl : selP l bit k ((l.length + 511) / 512) = true := by
    rw [selP_rk, Nat.min_eq_right (by omega)]
    exact decide_eq_true hk
  have r1 : 1 ≤ r := by
    rcases Nat.eq_zero_or_pos r with rfl | h
    · rw [h3 (by omega)] at hz; cases hz
    · exact h
  have r2 : r ≤ (l.length + 511) / 512 := by
    rcases Nat.lt_or_ge ((l.length + 511) / 512) r with h | h
    · rw [h2 _ h] at hl; cases hl
    · exact h
  have r3 := h2 (r - 1) (by omega)
  rw [selP_rk] at r3
  have r4 := of_decide_eq_false r3
  rw [Nat.min_eq_left (by omega)] at r4
  exact ⟨r1, r2, by omega, by omega⟩

end Go.Proofs.YtblkkcpeodoclaaGreatDoor

/- The contract of sort.Search, of a test that only reads. -/
namespace Go.Proofs.YtblkkcpeodoclaaGreatDoor
open Go.RowKit

theorem quiet_left {P : Program} {f : FuncId} {args : Array Value} {w : World} {n : Nat} {v : Value}
    (h : Calls P f args (w.drewN n) fun e w' => e = .returned v ∧ w.drewN n = w') : Calls P f args (w.drewN n) fun e w'' => e = .returned v ∧ ∃ m, w'' = w.drewN m :=
  h.mono fun _ _ ⟨he, hm⟩ => ⟨he, n, hm.symm⟩

end Go.Proofs.YtblkkcpeodoclaaGreatDoor

/- The contract of package rank's Select. -/
namespace Go.Proofs.YtblkkcpeodoclaaGreatDoor
open Go.RowKit

end Go.Proofs.YtblkkcpeodoclaaGreatDoor

/- The contract of package rank's Select, where it refuses. -/
namespace Go.Proofs.YtblkkcpeodoclaaGreatDoor
open Go.RowKit

end Go.Proofs.YtblkkcpeodoclaaGreatDoor

/- Layer 2's statements: what their helper 'made' makes. -/
namespace Go.Proofs.YtblkkcpeodoclaaGreatDoor
open Go.RowKit

/-- So many times over. -/
def over (l : List Int) : Nat → List Int
  | 0 => []
  | n + 1 => over l n ++ l

theorem over_length (l : List Int) (n : Nat) : (over l n).length = n * l.length := by
  induction n with
  | zero => simp [over]
  | succ n ih => simp [over, ih, Nat.succ_mul]

theorem bitsOf_append (a b : List Int) : bitsOf (a ++ b) = bitsOf a ++ bitsOf b := by simp [bitsOf]

end Go.Proofs.YtblkkcpeodoclaaGreatDoor

/- Layer 2's statements: the document's example. -/
namespace Go.Proofs.YtblkkcpeodoclaaGreatDoor
open Go.RowKit

theorem awake_bits : over (nats (few [6] 4)) (1 + 0 % 40) = [0, 1, 1, 0] := by decide
theorem awake_rk : rk (bitsOf [0, 1, 1, 0]) 1 2 = 1 := by decide
theorem awake_len : rk (bitsOf [0, 1, 1, 0]) 0 (bitsOf [0, 1, 1, 0]).length = 2 := by decide
theorem awake_sel (n : Nat) (h : IsSel (bitsOf [0, 1, 1, 0]) 0 1 n) : n = 3 :=
  IsSel.unique (.inl rfl) h (by unfold IsSel; decide)

end Go.Proofs.YtblkkcpeodoclaaGreatDoor

/- The index's contracts, told against a world that stays. -/
namespace Go.Proofs.YtblkkcpeodoclaaGreatDoor
open Go.RowKit



theorem nats_01 (ps : List Nat) (most n : Nat) : ∀ z ∈ over (nats (few ps most)) n, z = 0 ∨ z = 1 := by
  induction n with
  | zero => intro z hz; simp [over] at hz
  | succ n ih =>
    intro z hz
    simp only [over, List.mem_append] at hz
    rcases hz with h | h
    · exact ih z h
    · simp only [nats, List.mem_map] at h
      obtain ⟨x, hx, rfl⟩ := h
      have := few_bit ps most x hx
      omega

/-- A nought or one as a bit and back. -/
theorem bit_back {zs : List Int} (h : ∀ z ∈ zs, z = 0 ∨ z = 1) {n : Nat} {z : Int} (hz : zs[n]? = some z) : (((bitsOf zs).getD n false).toNat : Int) = z := by
  have hm := List.mem_of_getElem? hz
  simp only [bitsOf, List.getD_eq_getElem?_getD, List.getElem?_map, hz, Option.map_some, Option.getD_some]
  rcases h z hm with rfl | rfl <;> rfl

theorem bitsOf_length (zs : List Int) : (bitsOf zs).length = zs.length := by simp [bitsOf]

theorem rk_sum (l : List Bool) (k : Nat) : rk l 0 k + rk l 1 k = k := by unfold rk ofZ; simp

/-- Bytes that came in. -/
theorem RowIn.bytes {w : World} {a : Option Addr} {len cap : Nat} {zs : List Int} (h : RowIn .u8 w a len cap zs) : ∃ ps : List Nat, Sl .u8 w (.slice a len cap) (nats ps) ∧ ∀ b ∈ ps, b < 256 := by
  obtain ⟨h1, _, h3, _⟩ := h.sl
  refine ⟨(zs.take len).map Int.toNat, ?_, ?_⟩
  · have : nats ((zs.take len).map Int.toNat) = zs.take len := by
      unfold nats
      rw [List.map_map]
      conv => rhs; rw [← List.map_id (zs.take len)]
      apply List.map_congr_left
      intro n hn
      have := bounds_u8 (h3 n hn)
      simp
      omega
    rw [this]
    exact h1
  · intro b hb
    obtain ⟨n, hn, rfl⟩ := List.mem_map.1 hb
    have := bounds_u8 (h3 n hn)
    omega

theorem u8_in {n : Int} (h : (Lit.int .u8 n).wf = true) : ∃ m : Nat, n = m ∧ m < 256 := by
  have := bounds_u8 h
  exact ⟨n.toNat, by omega, by omega⟩
theorem u16_in {n : Int} (h : (Lit.int .u16 n).wf = true) : ∃ m : Nat, n = m ∧ m < 65536 := by
  have := bounds_u16 h
  exact ⟨n.toNat, by omega, by omega⟩

end Go.Proofs.YtblkkcpeodoclaaGreatDoor

/- The references of layer 2. -/
namespace Go.Proofs.YtblkkcpeodoclaaGreatDoor
open Go.RowKit

/-- How many are just this. -/
def cntZ (zs : List Int) (bit : Int) : Nat := (zs.filter fun z => z == bit).length

theorem cntZ_snoc (zs : List Int) (bit : Int) (k : Nat) (z : Int) (h : zs[k]? = some z) : cntZ (zs.take (k + 1)) bit = cntZ (zs.take k) bit + (if z = bit then 1 else 0) := by
  have hk : k < zs.length := by
    rcases Nat.lt_or_ge k zs.length with h' | h'
    · exact h'
    · rw [List.getElem?_eq_none h'] at h; cases h
  rw [List.getElem?_eq_getElem hk] at h
  simp only [Option.some.injEq] at h
  rw [List.take_succ_eq_append_getElem hk, h]
  unfold cntZ
  rw [List.filter_append]
  by_cases hz : z = bit <;> simp [hz]

theorem cntZ_le (zs : List Int) (bit : Int) : cntZ zs bit ≤ zs.length := List.length_filter_le _ _

theorem rk_cntZ {zs : List Int} (h : ∀ z ∈ zs, z = 0 ∨ z = 1) (bit : Int) (hb : bit = 0 ∨ bit = 1) (n : Nat) (hn : n ≤ zs.length) : rk (bitsOf zs) bit n = cntZ (zs.take n) bit := by
  induction n with
  | zero => rw [rk_zero]; simp [cntZ]
  | succ n ih =>
    have hz := List.getElem?_eq_getElem (l := zs) (i := n) (by omega)
    rw [rk_succ _ _ _ hb (by rw [bitsOf_length]; omega), ih (by omega), cntZ_snoc zs bit n _ hz, bit_back h hz]
    split <;> simp

/-- It hands back something, and leaves the world. -/
def SomeSel (w : World) (e : Ending) (w' : World) : Prop := (∃ (n : Nat) (ok : Bool), n ≤ 1000000000 ∧ e = .returned (.tuple #[.int .i64 n, .bool ok])) ∧ w = w'

end Go.Proofs.YtblkkcpeodoclaaGreatDoor
