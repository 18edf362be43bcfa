/- Joined texts: Shelf, Builder, Text, Num, Word2, Kinds, Like. -/
import Derived.Shelf.Strings.Builder1
import Derived.Test.YtblkkcpeodoclaaGreatDoorProg
import Derived.Test.YtblkkcpeodoclaaGreatDoorRef4

/- strings.Builder.String, as the kit's shelf lays it at this program (lines written by the kit's lay-plain program). -/
namespace Go.Proofs
open Go.Shelf
def Tryz.lays169_ren : Go.Shelf.Ren := ⟨fun | 169 => 63 | n => n, fun | 70 => 105 | 9 => 9 | 0 => 0 | 72 => 107 | 37 => 22 | 127 => 120 | 3 => 3 | 5 => 5 | n => n, fun | n => n⟩
theorem Tryz.lays169 : Go.Proofs.Lays.n169 Tryz.prog Tryz.lays169_ren := {
  mixed := by kernel_rfl
  f169 := Tryz.func63.trans (congrArg some (by kernel_rfl))
  t0 := Tryz.underlying0
  a0 := Tryz.isAgg0
  z0 := Tryz.sizeOf0
  v0 := Tryz.zeroValue0
  t3 := Tryz.underlying3
  a3 := Tryz.isAgg3
  z3 := Tryz.sizeOf3
  v3 := Tryz.zeroValue3
  t9 := Tryz.underlying9
  a9 := Tryz.isAgg9
  z9 := Tryz.sizeOf9
  v9 := Tryz.zeroValue9
  t37 := Tryz.underlying22
  a37 := Tryz.isAgg22
  z37 := Tryz.sizeOf22
  v37 := Tryz.zeroValue22
  t70 := Tryz.underlying105
  a70 := Tryz.isAgg105
  z70 := Tryz.sizeOf105
  v70 := Tryz.zeroValue105
  t72 := Tryz.underlying107
  a72 := Tryz.isAgg107
  z72 := Tryz.sizeOf107
  v72 := Tryz.zeroValue107
  t127 := Tryz.underlying120
  a127 := Tryz.isAgg120
  z127 := Tryz.sizeOf120
  v127 := Tryz.zeroValue120 }
theorem Tryz.Builder_Extra_169 : Builder.Extra Tryz.prog Tryz.lays169_ren := {
  sizeBuilder := by kernel_rfl
  liesBuilder := by kernel_rfl
  t5 := Tryz.underlying5
  a5 := Tryz.isAgg5
  z5 := Tryz.sizeOf5
  v5 := Tryz.zeroValue5
  infoByte := by kernel_rfl
  cellsByte := by kernel_rfl
  sizeByte := by kernel_rfl
  neB5 := by decide }
open Go.RowKit in
theorem Tryz.Builder_String (B b : Nat) (l : List UInt8) (w : World) (h : Lib.IsBuilder 107 5 B b (Lib.byteCells l) w) (h0 : l ≠ []) :
    Calls Tryz.prog 63 #[.pointer (some ⟨b, 0, none⟩)] w fun e w' => e = .returned (.string ⟨l.toArray⟩) ∧ Below B w w' := Any.Builder_String Tryz.lays169 Tryz.Builder_Extra_169 B b l w h h0
open Go.RowKit in
theorem Tryz.Builder_String_empty (B b : Nat) (w : World) (h : Lib.IsBuilder 107 5 B b [] w) (hBw : B ≤ w.heap.size) :
    Calls Tryz.prog 63 #[.pointer (some ⟨b, 0, none⟩)] w fun e w' => e = .returned (.string ⟨#[]⟩) ∧ Below B w w' := Any.Builder_String_empty Tryz.lays169 Tryz.Builder_Extra_169 B b w h hBw
open Go.RowKit in
theorem Tryz.Builder_String_any (B b : Nat) (l : List UInt8) (w : World) (h : Lib.IsBuilder 107 5 B b (Lib.byteCells l) w) (hBw : B ≤ w.heap.size) :
    Calls Tryz.prog 63 #[.pointer (some ⟨b, 0, none⟩)] w fun e w' => e = .returned (.string ⟨l.toArray⟩) ∧ Below B w w' := Any.Builder_String_any Tryz.lays169 Tryz.Builder_Extra_169 B b l w h hBw

end Go.Proofs

/- strings.Builder: copyCheck, WriteByte. -/
namespace Go.Proofs.YtblkkcpeodoclaaGreatDoor
open Go.RowKit

abbrev BAt (B b : Nat) (p : Value) (bs : List Value) (w : World) : Prop := Lib.BuilderAt 107 5 B b p bs w
abbrev IsB (B b : Nat) (bs : List Value) (w : World) : Prop := Lib.IsBuilder 107 5 B b bs w

set_option maxRecDepth 100000 in
set_option maxHeartbeats 1000000 in
theorem copyCheck_used (b : Nat) (w : World) (h0 : w.cell? ⟨b, 0, none⟩ = some (.pointer (some ⟨b, 0, none⟩))) :
    Calls Tryz.prog 82 #[.pointer (some ⟨b, 0, none⟩)] w fun e w' => e = .returned (.tuple #[]) ∧ w' = w := by
  obtain ⟨j, hj, _⟩ := Option.map_eq_some_iff.1 Tryz.Builder_Extra_169.toX72.sizeBuilder
  go_enter Tryz.func82, Tryz.ntmps82
  go_wp2
  rw [Lib.run_neq_ptr_same w _ Tryz.underlying105 hj]
  go_wp2
  go_end0
  exact ⟨rfl, rfl⟩

set_option maxRecDepth 100000 in
set_option maxHeartbeats 1000000 in
theorem copyCheck_fresh (b : Nat) (w : World) (h0 : w.cell? ⟨b, 0, none⟩ = some (.pointer none)) (hsh : w.shape? b = some (107, 2)) (hfz : w.frozen? ⟨b, 0, none⟩ = false) :
    Calls Tryz.prog 82 #[.pointer (some ⟨b, 0, none⟩)] w fun e w' => e = .returned (.tuple #[]) ∧ w' = w.setCell ⟨b, 0, none⟩ (.pointer (some ⟨b, 0, none⟩)) := by
  obtain ⟨j, hj, hjs⟩ := Option.map_eq_some_iff.1 Tryz.Builder_Extra_169.toX72.sizeBuilder
  have hnew : (w.setCell ⟨b, 0, none⟩ (.pointer (some ⟨b, 0, none⟩))).cell? ⟨b, 0, none⟩ = some (.pointer (some ⟨b, 0, none⟩)) := World.cell?_setCell_same _ _ _ h0
  go_enter Tryz.func82, Tryz.ntmps82
  go_wp2
  rw [Lib.run_to_unsafe w ⟨b, 0, none⟩ Tryz.underlying105 Tryz.underlying139 hj (by rw [hjs]; decide) hsh (Nat.zero_lt_succ 1)]
  simp only [Result.andThen]
  rw [Oper.upon_value]
  go_wp2
  rw [run_callFunc_extern Tryz.func105 (by kernel_rfl) (by kernel_rfl) (by kernel_rfl) (e := Extern.AbiNoEscape.same) (by kernel_rfl)]
  rw [Lib.run_noEscape]
  simp only [Result.andThen]
  rw [Oper.upon_value]
  go_wp2
  rw [Lib.run_from_unsafe w ⟨b, 0, none⟩ Tryz.underlying139 Tryz.underlying105 hj hsh Tryz.Builder_Extra_169.toX72.liesBuilder]
  simp only [Result.andThen]
  rw [Oper.upon_value]
  go_wp2
  go_end0
  exact ⟨rfl, rfl⟩

theorem copyCheck_any (B b : Nat) (bs : List Value) (w : World) (h : IsB B b bs w) :
    Calls Tryz.prog 82 #[.pointer (some ⟨b, 0, none⟩)] w fun e w' => e = .returned (.tuple #[]) ∧ BAt B b (.pointer (some ⟨b, 0, none⟩)) bs w' ∧ Below B w w' := by
  rcases h with h | h
  · refine (copyCheck_fresh b w h.cell0 h.shape h.frozen0).mono ?_
    rintro e w' ⟨rfl, rfl⟩
    exact ⟨rfl, h.used _, (Below.refl B w).setCell (p := ⟨b, 0, none⟩) h.1 _⟩
  · refine (copyCheck_used b w h.cell0).mono ?_
    rintro e w' ⟨rfl, rfl⟩
    exact ⟨rfl, h, Below.refl B _⟩

/-- A new builder. -/
theorem builder_new (w : World) : IsB w.heap.size w.heap.size [] (w.alloc (.cells #[.pointer none, .slice none 0 0] 107)) :=
  .inl ⟨Nat.le_refl _, .slice none 0 0, heap_alloc_new w _, World.ownsRow_nil _ _ _ _, by simp [Value.ownBlock]⟩

end Go.Proofs.YtblkkcpeodoclaaGreatDoor

/- Texts of words and bits. -/
namespace Go.Proofs.YtblkkcpeodoclaaGreatDoor
open Go.RowKit

def kbyte (k : Nat) : UInt8 := if k = 0 then 40 else if k = 1 then 41 else if k = 2 then 91 else 93
def kbytes (ks : List Nat) : List UInt8 := ks.map kbyte

theorem txt_add (l : List UInt8) (c : UInt8) : (⟨l.toArray⟩ : ByteArray) ++ ⟨#[c]⟩ = ⟨(l ++ [c]).toArray⟩ := by
  apply ByteArray.ext
  simp

theorem kbytes_step {ks : List Nat} {i k : Nat} (h : ks[i]? = some k) : kbytes (ks.take (i + 1)) = kbytes (ks.take i) ++ [kbyte k] := by
  unfold kbytes
  rw [take_get h, List.map_append]; rfl

def bbyte (b : Bool) : UInt8 := if b then 49 else 48
def btxt (l : List Bool) : List UInt8 := l.map bbyte

theorem bget_step {l : List Bool} {i : Nat} {b : Bool} (h : l[i]? = some b) : btxt (l.take (i + 1)) = btxt (l.take i) ++ [bbyte b] := by
  unfold btxt
  rw [take_get h, List.map_append]; rfl

theorem btxt_step {zs : List Int} {i : Nat} {z : Int} (h : zs[i]? = some z) : btxt (bitsOf (zs.take (i + 1))) = btxt (bitsOf (zs.take i)) ++ [bbyte (!(z == 0))] := by
  rw [take_get h, bitsOf_append]
  simp [btxt, bitsOf]

theorem bcells_snoc (l : List UInt8) (c : UInt8) : Lib.byteCells (l ++ [c]) = Lib.byteCells l ++ [.int .u8 (c.toNat : Int)] := by simp [Lib.byteCells]
theorem bcells_length (l : List UInt8) : (Lib.byteCells l).length = l.length := by simp [Lib.byteCells]

set_option maxRecDepth 100000 in
theorem run_letter (k : Nat) (hk : k < 4) (w : World) : (Instr.index 9 (.string ⟨#[40, 41, 91, 93]⟩) (.int .u8 k)).run Tryz.prog w = .ok (.int .u8 ((kbyte k).toNat : Int)) w := by
  match k, hk with
  | 0, _ => rfl
  | 1, _ => rfl
  | 2, _ => rfl
  | 3, _ => rfl

end Go.Proofs.YtblkkcpeodoclaaGreatDoor

/- bits.Vec.Num. -/
namespace Go.Proofs.YtblkkcpeodoclaaGreatDoor
open Go.RowKit

/-- The lowest bits of a number, the lowest first. -/
def numB (x k : Nat) : List Bool := (List.range k).map fun i => x / 2 ^ i % 2 == 1

theorem numB_succ (x k : Nat) : numB x (k + 1) = numB x k ++ [x / 2 ^ k % 2 == 1] := by simp [numB, List.range_succ]
theorem numB_length (x k : Nat) : (numB x k).length = k := by simp [numB]

theorem and_bit (y : Nat) (hy : y < 18446744073709551616) : bits BinOp.and IntKind.u64 (y : Int) 1 = (((y % 2 == 1).toNat : Nat) : Int) := by
  have h := bits_and_u64_nat y 1 hy (by omega)
  rw [show ((1 : Nat) : Int) = 1 from rfl] at h
  rw [h, Nat.and_one_is_mod]
  have h2 : y % 2 = 0 ∨ y % 2 = 1 := by omega
  rcases h2 with h2 | h2 <;> rw [h2] <;> rfl

end Go.Proofs.YtblkkcpeodoclaaGreatDoor

/- Words: Count, Bits. -/
namespace Go.Proofs.YtblkkcpeodoclaaGreatDoor
open Go.RowKit

theorem cntZ_step {ks : List Nat} {i x : Nat} (h : ks[i]? = some x) (kind : Int) : cntZ (nats (ks.take (i + 1))) kind = cntZ (nats (ks.take i)) kind + if (x : Int) = kind then 1 else 0 := by
  unfold cntZ nats
  rw [take_get h, List.map_append, List.filter_append, List.length_append]
  by_cases hk : (x : Int) = kind <;> simp [hk]

/-- A word's bits: two a letter. -/
def wbits (ks : List Nat) : List Bool := ks.flatMap fun k => numB k 2

theorem wbits_step {ks : List Nat} {i x : Nat} (h : ks[i]? = some x) : wbits (ks.take (i + 1)) = wbits (ks.take i) ++ numB x 2 := by
  unfold wbits; rw [take_get h, List.flatMap_append]; simp

theorem wbits_length (ks : List Nat) : (wbits ks).length = 2 * ks.length := by
  induction ks with
  | nil => rfl
  | cons k ks ih => simp only [wbits, List.flatMap_cons, List.length_append, numB_length, List.length_cons] at *; omega

end Go.Proofs.YtblkkcpeodoclaaGreatDoor

/- ref04.Kinds. -/
namespace Go.Proofs.YtblkkcpeodoclaaGreatDoor
open Go.RowKit

/-- What Kinds hands back. -/
def KindsPost (w : World) (s : ByteArray) (e : Ending) (w' : World) : Prop :=
  (∃ v ks, s.data.toList.map kindZ = nats ks ∧ e = .returned (.tuple #[v, .int .i64 (-1)]) ∧ OwnI w.heap.size w' v (nats ks) ∧ Keeps (fun _ => False) w w') ∨
  (∃ i : Nat, i < s.size ∧ (∀ j, j < i → ∀ c, s.data.toList[j]? = some c → 0 ≤ kindZ c) ∧ (∃ c, s.data.toList[i]? = some c ∧ kindZ c < 0) ∧ e = .returned (.tuple #[.slice none 0 0, .int .i64 i]) ∧ Keeps (fun _ => False) w w')

theorem extract_one {s : ByteArray} {j : Nat} {c : UInt8} (h : s.data.toList[j]? = some c) : s.extract j (j + 1) = ⟨#[c]⟩ := by
  have hj : j < s.data.size := by
    have := lt_of_get h
    simpa using this
  apply ByteArray.ext
  have hc : s.data[j] = c := by
    rw [List.getElem?_eq_getElem (by simpa using hj)] at h
    simpa using h
  rw [ByteArray.data_extract]
  apply Array.ext
  · have : s.size = s.data.size := rfl
    simp; omega
  · intro i h1 h2
    simp at h2
    obtain rfl : i = 0 := by omega
    simp [hc]

theorem kindZ_other {c : UInt8} (h0 : c ≠ 40) (h1 : c ≠ 41) (h2 : c ≠ 91) (h3 : c ≠ 93) : kindZ c < 0 := by
  have e0 : (40 : UInt8) ≠ c := fun e => h0 e.symm
  have e1 : (41 : UInt8) ≠ c := fun e => h1 e.symm
  have e2 : (91 : UInt8) ≠ c := fun e => h2 e.symm
  have e3 : (93 : UInt8) ≠ c := fun e => h3 e.symm
  simp [kindZ, Lib.indexByte, e0, e1, e2, e3]

def KinS (w : World) (s : ByteArray) (j : Nat) (lv : Value) (wr : World) : Prop :=
  ∃ ks, (s.data.toList.take j).map kindZ = nats ks ∧ OwnI w.heap.size wr lv (nats ks) ∧ ks.length = j ∧ Keeps (fun _ => False) w wr

theorem KinS.push {w wr w1 : World} {s : ByteArray} {j : Nat} {lv lv' : Value} {ks : List Nat} {c : UInt8} {x : Nat} {z : Int} (hz : z = x) (hx : kindZ c = x) (hc : s.data.toList[j]? = some c) (hks : (s.data.toList.take j).map kindZ = nats ks) (hkl : ks.length = j)
    (hk : Keeps (fun _ => False) w wr) (hown : OwnI w.heap.size wr lv (nats ks)) (hown2 : OwnI w.heap.size w1 lv' (nats ks ++ [z])) (hk2 : Keeps (fun k => lv.ownBlock = some k) wr w1) : KinS w s (j + 1) lv' w1 := by
  refine ⟨ks ++ [x], ?_, by simpa [nats, hz] using hown2, by simp [hkl], hk.trans hk2 (fun y hy h => by have := (hown.lt y h).1; omega)⟩
  rw [take_get hc, List.map_append, hks]
  simp [nats, hx]

theorem KinS.bad {w wr : World} {s : ByteArray} {j : Nat} {ks : List Nat} {c : UInt8} (hlt : j < s.size) (hx : kindZ c < 0) (hc : s.data.toList[j]? = some c) (hks : (s.data.toList.take j).map kindZ = nats ks) (hkl : ks.length = j) (hk : Keeps (fun _ => False) w wr) :
    KindsPost w s (.returned (.tuple #[.slice none 0 0, .int .i64 j])) wr := by
  refine .inr ⟨j, hlt, fun i hi c' hc' => ?_, ⟨c, hc, hx⟩, rfl, hk⟩
  have h1 : ((s.data.toList.take j).map kindZ)[i]? = some (kindZ c') := by rw [List.getElem?_map, List.getElem?_take, if_pos hi, hc']; rfl
  rw [hks, nats, List.getElem?_map, List.getElem?_eq_getElem (by omega)] at h1
  simp only [Option.map_some, Option.some.injEq] at h1
  omega

theorem KinS.done {w wr : World} {s : ByteArray} {j : Nat} {lv : Value} (hj : ¬ j < s.size) (h : KinS w s j lv wr) : KindsPost w s (.returned (.tuple #[lv, .int .i64 (-1)])) wr := by
  obtain ⟨ks, h1, h2, h3, h4⟩ := h
  have : s.data.toList.length = s.size := by simp
  rw [List.take_of_length_le (by omega)] at h1
  exact .inl ⟨lv, ks, h1, rfl, h2, h4⟩

end Go.Proofs.YtblkkcpeodoclaaGreatDoor

/- law04.like. -/
namespace Go.Proofs.YtblkkcpeodoclaaGreatDoor
open Go.RowKit

/-- The bits of letters, as like gathers them. -/
def lbits (ks : List Nat) : List Int := nats (ks.flatMap fun k => [k % 2, k / 2])

theorem lbits_step {ks : List Nat} {i x : Nat} (h : ks[i]? = some x) : lbits (ks.take (i + 1)) = lbits (ks.take i) ++ [((x % 2 : Nat) : Int), ((x / 2 : Nat) : Int)] := by
  unfold lbits; rw [take_get h, List.flatMap_append]; simp [nats]

theorem lbits_length (ks : List Nat) : (lbits ks).length = 2 * ks.length := by
  unfold lbits
  rw [nats_len]
  induction ks with
  | nil => rfl
  | cons k ks ih => simp only [List.flatMap_cons, List.length_append, List.length_cons, List.length_nil] at *; omega

theorem lbits_wbits (ks : List Nat) (h4 : ∀ k ∈ ks, k < 4) : bitsOf (lbits ks) = wbits ks := by
  induction ks with
  | nil => rfl
  | cons k ks ih =>
    have hk := h4 k (by simp)
    have ih := ih (fun x hx => h4 x (by simp [hx]))
    have h1 : lbits (k :: ks) = [((k % 2 : Nat) : Int), ((k / 2 : Nat) : Int)] ++ lbits ks := by simp [lbits, nats]
    have h2 : wbits (k :: ks) = numB k 2 ++ wbits ks := by simp [wbits]
    rw [h1, h2, bitsOf_append, ih]
    congr 1
    match k, hk with
    | 0, _ => rfl
    | 1, _ => rfl
    | 2, _ => rfl
    | 3, _ => rfl

theorem Sl.two (w : World) (k : IntKind) (p q : Int) (t : TypeId) : Sl k (w.alloc (.cells #[.int k p, .int k q] t)) (.slice (some ⟨w.heap.size, 0, none⟩) 2 2) [p, q] := by
  refine ⟨_, _, rfl, by simp, by decide, fun h => by simp at h, fun j z hz => ⟨_, _, rfl, ?_⟩⟩
  rw [World.cell_of_heap (heap_alloc_new w _)]
  match j, hz with
  | 0, hz => simp at hz; subst hz; rfl
  | 1, hz => simp at hz; subst hz; rfl

/-- What like has gathered. -/
def LikS (w : World) (ks : List Nat) (j : Nat) (lv : Value) (wr : World) : Prop := OwnI w.heap.size wr lv (lbits (ks.take j)) ∧ Keeps (fun _ => False) w wr

end Go.Proofs.YtblkkcpeodoclaaGreatDoor
