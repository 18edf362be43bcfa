/- Joined texts: Shelf, Builder, Text, Num, Word2, Kinds, Like. -/
import Derived.Shelf.Strings.Builder1
import Derived.Test.YtipelclohcdkcaaGreatProg
import Derived.Test.YtipelclohcdkcaaGreatRef4

/- strings.Builder.String, as the kit's shelf lays it at this program (lines written by the kit's lay-plain program). -/
namespace Go.Proofs
open Go.Shelf
def Tryz.lays169_ren : Go.Shelf.Ren := ⟨fun | 169 => 111 | n => n, fun | 70 => 120 | 9 => 9 | 0 => 0 | 72 => 122 | 37 => 45 | 127 => 203 | 3 => 3 | 5 => 5 | n => n, fun | n => n⟩
theorem Tryz.lays169 : Go.Proofs.Lays.n169 Tryz.prog Tryz.lays169_ren := {
  mixed := by kernel_rfl
  f169 := Tryz.func111.trans (congrArg some (by kernel_rfl))
  t0 := Tryz.underlying0
  a0 := Tryz.isAgg0
  z0 := Tryz.sizeOf0
  v0 := Tryz.zeroValue0
  t3 := Tryz.underlying3
  a3 := Tryz.isAgg3
  z3 := Tryz.sizeOf3
  v3 := Tryz.zeroValue3
  t9 := Tryz.underlying9
  a9 := Tryz.isAgg9
  z9 := Tryz.sizeOf9
  v9 := Tryz.zeroValue9
  t37 := Tryz.underlying45
  a37 := Tryz.isAgg45
  z37 := Tryz.sizeOf45
  v37 := Tryz.zeroValue45
  t70 := Tryz.underlying120
  a70 := Tryz.isAgg120
  z70 := Tryz.sizeOf120
  v70 := Tryz.zeroValue120
  t72 := Tryz.underlying122
  a72 := Tryz.isAgg122
  z72 := Tryz.sizeOf122
  v72 := Tryz.zeroValue122
  t127 := Tryz.underlying203
  a127 := Tryz.isAgg203
  z127 := Tryz.sizeOf203
  v127 := Tryz.zeroValue203 }
theorem Tryz.Builder_Extra_169 : Builder.Extra Tryz.prog Tryz.lays169_ren := {
  sizeBuilder := by kernel_rfl
  liesBuilder := by kernel_rfl
  t5 := Tryz.underlying5
  a5 := Tryz.isAgg5
  z5 := Tryz.sizeOf5
  v5 := Tryz.zeroValue5
  infoByte := by kernel_rfl
  cellsByte := by kernel_rfl
  sizeByte := by kernel_rfl
  neB5 := by decide }
open Go.RowKit in
theorem Tryz.Builder_String (B b : Nat) (l : List UInt8) (w : World) (h : Lib.IsBuilder 122 5 B b (Lib.byteCells l) w) (h0 : l ≠ []) :
    Calls Tryz.prog 111 #[.pointer (some ⟨b, 0, none⟩)] w fun e w' => e = .returned (.string ⟨l.toArray⟩) ∧ Below B w w' := Any.Builder_String Tryz.lays169 Tryz.Builder_Extra_169 B b l w h h0
open Go.RowKit in
theorem Tryz.Builder_String_empty (B b : Nat) (w : World) (h : Lib.IsBuilder 122 5 B b [] w) (hBw : B ≤ w.heap.size) :
    Calls Tryz.prog 111 #[.pointer (some ⟨b, 0, none⟩)] w fun e w' => e = .returned (.string ⟨#[]⟩) ∧ Below B w w' := Any.Builder_String_empty Tryz.lays169 Tryz.Builder_Extra_169 B b w h hBw
open Go.RowKit in
theorem Tryz.Builder_String_any (B b : Nat) (l : List UInt8) (w : World) (h : Lib.IsBuilder 122 5 B b (Lib.byteCells l) w) (hBw : B ≤ w.heap.size) :
    Calls Tryz.prog 111 #[.pointer (some ⟨b, 0, none⟩)] w fun e w' => e = .returned (.string ⟨l.toArray⟩) ∧ Below B w w' := Any.Builder_String_any Tryz.lays169 Tryz.Builder_Extra_169 B b l w h hBw

end Go.Proofs

/- strings.Builder: copyCheck, WriteByte. -/
namespace Go.Proofs.YtipelclohcdkcaaGreat
open Go.RowKit

abbrev BAt (B b : Nat) (p : Value) (bs : List Value) (w : World) : Prop := Lib.BuilderAt 122 5 B b p bs w
abbrev IsB (B b : Nat) (bs : List Value) (w : World) : Prop := Lib.IsBuilder 122 5 B b bs w

set_option maxRecDepth 100000 in
set_option maxHeartbeats 1000000 in
theorem copyCheck_used (b : Nat) (w : World) (h0 : w.cell? ⟨b, 0, none⟩ = some (.pointer (some ⟨b, 0, none⟩))) :
    Calls Tryz.prog 177 #[.pointer (some ⟨b, 0, none⟩)] w fun e w' => e = .returned (.tuple #[]) ∧ w' = w := by
  obtain ⟨j, hj, _⟩ := Option.map_eq_some_iff.1 Tryz.Builder_Extra_169.toX72.sizeBuilder
  go_enter Tryz.func177, Tryz.ntmps177
  go_wp2
  rw [Lib.run_neq_ptr_same w _ Tryz.underlying120 hj]
  go_wp2
  go_end0
  exact ⟨rfl, rfl⟩

set_option maxRecDepth 100000 in
set_option maxHeartbeats 1000000 in
theorem copyCheck_fresh (b : Nat) (w : World) (h0 : w.cell? ⟨b, 0, none⟩ = some (.pointer none)) (hsh : w.shape? b = some (122, 2)) (hfz : w.frozen? ⟨b, 0, none⟩ = false) :
    Calls Tryz.prog 177 #[.pointer (some ⟨b, 0, none⟩)] w fun e w' => e = .returned (.tuple #[]) ∧ w' = w.setCell ⟨b, 0, none⟩ (.pointer (some ⟨b, 0, none⟩)) := by
  obtain ⟨j, hj, hjs⟩ := Option.map_eq_some_iff.1 Tryz.Builder_Extra_169.toX72.sizeBuilder
  have hnew : (w.setCell ⟨b, 0, none⟩ (.pointer (some ⟨b, 0, none⟩))).cell? ⟨b, 0, none⟩ = some (.pointer (some ⟨b, 0, none⟩)) := World.cell?_setCell_same _ _ _ h0
  go_enter Tryz.func177, Tryz.ntmps177
  go_wp2
  rw [Lib.run_to_unsafe w ⟨b, 0, none⟩ Tryz.underlying120 Tryz.underlying225 hj (by rw [hjs]; decide) hsh (Nat.zero_lt_succ 1)]
  simp only [Result.andThen]
  rw [Oper.upon_value]
  go_wp2
  rw [run_callFunc_extern Tryz.func202 (by kernel_rfl) (by kernel_rfl) (by kernel_rfl) (e := Extern.AbiNoEscape.same) (by kernel_rfl)]
  rw [Lib.run_noEscape]
  simp only [Result.andThen]
  rw [Oper.upon_value]
  go_wp2
  rw [Lib.run_from_unsafe w ⟨b, 0, none⟩ Tryz.underlying225 Tryz.underlying120 hj hsh Tryz.Builder_Extra_169.toX72.liesBuilder]
  simp only [Result.andThen]
  rw [Oper.upon_value]
  go_wp2
  go_end0
  exact ⟨rfl, rfl⟩

theorem copyCheck_any (B b : Nat) (bs : List Value) (w : World) (h : IsB B b bs w) :
    Calls Tryz.prog 177 #[.pointer (some ⟨b, 0, none⟩)] w fun e w' => e = .returned (.tuple #[]) ∧ BAt B b (.pointer (some ⟨b, 0, none⟩)) bs w' ∧ Below B w w' := by
  rcases h with h | h
  · refine (copyCheck_fresh b w h.cell0 h.shape h.frozen0).mono ?_
    rintro e w' ⟨rfl, rfl⟩
    exact ⟨rfl, h.used _, (Below.refl B w).setCell (p := ⟨b, 0, none⟩) h.1 _⟩
  · refine (copyCheck_used b w h.cell0).mono ?_
    rintro e w' ⟨rfl, rfl⟩
    exact ⟨rfl, h, Below.refl B _⟩

set_option maxRecDepth 100000 in
set_option maxHeartbeats 1000000 in
theorem writeByte_any (B b : Nat) (bs : List Value) (c : Int) (w : World) (h : IsB B b bs w) (hlen : bs.length + 1 ≤ 140737488355328) (hBw : B ≤ w.heap.size) :
    Calls Tryz.prog 110 #[.pointer (some ⟨b, 0, none⟩), .int .u8 c] w fun e w' => e = .returned .nilIface ∧ BAt B b (.pointer (some ⟨b, 0, none⟩)) (bs ++ [.int .u8 c]) w' ∧ Below B w w' := by
  obtain ⟨i0, hi, hz0, hz1, hz2⟩ := info_parts infoU8
  have hC := copyCheck_any B b bs w h
  clear h
  go_enter Tryz.func110, Tryz.ntmps110
  go_wp2_with fail
  refine hC.mono ?_
  clear hC
  rintro e w1 ⟨rfl, h1, hb1⟩
  obtain ⟨hB, v, hbk, hown, hne⟩ := h1
  have c0 : w1.cell? ⟨b, 0, none⟩ = some (.pointer (some ⟨b, 0, none⟩)) := by rw [Lib.cell_of_heap hbk]; rfl
  have c1 : w1.cell? ⟨b, 1, none⟩ = some v := by rw [Lib.cell_of_heap hbk]; rfl
  go_wp2_with (at_builtin; refine wpList_append_own _ rfl _ _ 45 rfl B 5 i0 (.int .u8 0) 1 1 Tryz.underlying45 hi hz0 hz1 hz2 rfl (by decide) _ _ _ rfl (hown.alloc _) ⟨w1.heap.size, 0, none⟩ 1 1 [.int .u8 c] rfl rfl ?c1 ?c2 ?c3 ?c4 ?c5 ?_)
  case c1 =>
    intro j u hj
    match j, hj with
    | 0, hj => simp at hj; subst hj; simp [Addr.add]
  case c2 => intro u hu; simp at hu; subst hu; rfl
  case c3 => unfold maxLen; omega
  case c4 => omega
  case c5 => have := hb1.size; simp; omega
  intro v' w2 hown' hgrow _
  have hlt : b < w1.heap.size := by
    rcases Nat.lt_or_ge b w1.heap.size with h' | h'
    · exact h'
    · simp [Array.getElem?_eq_none h'] at hbk
  have hb2 : w2.heap[b]? = some (.cells #[.pointer (some ⟨b, 0, none⟩), v] 122 (0, 0)) := by
    rw [hgrow.block b (by simp; omega) (fun e => hne e.symm), Lib.alloc_old w1 _ b hlt]
    exact hbk
  have d0 : w2.cell? ⟨b, 0, none⟩ = some (.pointer (some ⟨b, 0, none⟩)) := by rw [Lib.cell_of_heap hb2]; rfl
  have d1 : w2.cell? ⟨b, 1, none⟩ = some v := by rw [Lib.cell_of_heap hb2]; rfl
  have f1 : w2.frozen? ⟨b, 1, none⟩ = false := Lib.frozen_of_heap hb2 1
  obtain ⟨g, cap, rfl⟩ : ∃ g cap, v' = .slice (some ⟨g, 0, none⟩) (bs.length + 1) cap := by
    rcases hown'.2 with ⟨_, h0⟩ | ⟨g, cap, cur, hv, _⟩
    · omega
    · exact ⟨g, cap, hv⟩
  go_wp2
  go_ret
  refine ⟨rfl, ?_, ?_⟩
  · exact Lib.BuilderAt.put (T := 122) (e := 5) hB hb2 (bs' := bs ++ [.int .u8 c]) (by simpa using hown') (by decide)
  · exact ((hb1.alloc (by have := hb1.size; omega) _).grown hgrow (by have := hb1.size; simp; omega) (fun k hk => (hown.lt k hk).1)).setCell (p := ⟨b, 1, none⟩) hB _

/-- A new builder. -/
theorem builder_new (w : World) : IsB w.heap.size w.heap.size [] (w.alloc (.cells #[.pointer none, .slice none 0 0] 122)) :=
  .inl ⟨Nat.le_refl _, .slice none 0 0, heap_alloc_new w _, World.ownsRow_nil _ _ _ _, by simp [Value.ownBlock]⟩

end Go.Proofs.YtipelclohcdkcaaGreat

/- Texts of words and bits. -/
namespace Go.Proofs.YtipelclohcdkcaaGreat
open Go.RowKit

def kbyte (k : Nat) : UInt8 := if k = 0 then 40 else if k = 1 then 41 else if k = 2 then 91 else 93
def kbytes (ks : List Nat) : List UInt8 := ks.map kbyte

theorem txt_add (l : List UInt8) (c : UInt8) : (⟨l.toArray⟩ : ByteArray) ++ ⟨#[c]⟩ = ⟨(l ++ [c]).toArray⟩ := by
  apply ByteArray.ext
  simp

theorem kbytes_step {ks : List Nat} {i k : Nat} (h : ks[i]? = some k) : kbytes (ks.take (i + 1)) = kbytes (ks.take i) ++ [kbyte k] := by
  unfold kbytes
  rw [take_get h, List.map_append]; rfl

set_option maxRecDepth 100000 in
set_option maxHeartbeats 1000000 in
theorem refText04_any (sv : Value) (ks : List Nat) (w : World) (hs : Sl .i64 w sv (nats ks)) (h4 : ∀ k ∈ ks, k < 4) (hl : ks.length ≤ 100000000) :
    Calls Tryz.prog 57 #[sv] w fun e w' => e = .returned (.string ⟨(kbytes ks).toArray⟩) ∧ w = w' := by
  obtain ⟨a, cap, rfl, hnc, hcm, _, hc⟩ := hs
  rw [nats_len] at hnc ⊢
  have HH := Lib.hid h4
  clear h4
  go_enter Tryz.func57, Tryz.ntmps57
  go_wp2_with fail
  go_loop [3, 8] (fun t i => ∃ k : Nat, k ≤ ks.length ∧ i = .int .i64 k ∧ t = .string ⟨(kbytes (ks.take k)).toArray⟩) (fun _ i => ks.length - (intOf i).toNat)
  case atStart => exact ⟨0, Nat.zero_le _, rfl, rfl⟩
  case round =>
    obtain ⟨j, hj, rfl, rfl⟩ := hrel
    by_cases hlt : j < ks.length
    · have hz := List.getElem?_eq_getElem hlt
      have hst := kbytes_step hz
      obtain ⟨g, off, rfl, hcell⟩ := hc j _ (nats_get hz)
      have hx4 := HH.out _ (List.mem_of_getElem? hz)
      generalize ks[j] = x at *
      have hcat := txt_add (kbytes (ks.take j)) (kbyte x)
      rw [← hst] at hcat
      have hll : (kbytes (ks.take j)).length ≤ 100000000 := by simp [kbytes]; omega
      generalize kbytes (ks.take j) = l at *
      generalize hLL : kbytes (ks.take (j + 1)) = l2 at *
      have HL := Lib.hid hLL
      clear hLL hst hc hz
      have hx : x = 0 ∨ x = 1 ∨ x = 2 ∨ x = 3 := by omega
      rcases hx with rfl | rfl | rfl | rfl
      all_goals
        (have hcat2 := congrArg Value.string hcat
         clear hcat
         have HC := Lib.hid hcat2
         clear hcat2
         go_wp2
         go_round
         case rel => exact ⟨j + 1, by omega, by go_num, by rw [HL.out]; exact HC.out⟩
         case measure => simp [intOf]; omega)
    · obtain rfl : j = ks.length := by omega
      rw [List.take_of_length_le (Nat.le_refl _)] at *
      clear hc
      go_wp2
      go_ret
      exact ⟨rfl, rfl⟩

def bbyte (b : Bool) : UInt8 := if b then 49 else 48
def btxt (l : List Bool) : List UInt8 := l.map bbyte

theorem bget_step {l : List Bool} {i : Nat} {b : Bool} (h : l[i]? = some b) : btxt (l.take (i + 1)) = btxt (l.take i) ++ [bbyte b] := by
  unfold btxt
  rw [take_get h, List.map_append]; rfl

theorem btxt_step {zs : List Int} {i : Nat} {z : Int} (h : zs[i]? = some z) : btxt (bitsOf (zs.take (i + 1))) = btxt (bitsOf (zs.take i)) ++ [bbyte (!(z == 0))] := by
  rw [take_get h, bitsOf_append]
  simp [btxt, bitsOf]

theorem bcells_snoc (l : List UInt8) (c : UInt8) : Lib.byteCells (l ++ [c]) = Lib.byteCells l ++ [.int .u8 (c.toNat : Int)] := by simp [Lib.byteCells]
theorem bcells_length (l : List UInt8) : (Lib.byteCells l).length = l.length := by simp [Lib.byteCells]

set_option maxRecDepth 100000 in
theorem run_letter (k : Nat) (hk : k < 4) (w : World) : (Instr.index 9 (.string ⟨#[40, 41, 91, 93]⟩) (.int .u8 k)).run Tryz.prog w = .ok (.int .u8 ((kbyte k).toNat : Int)) w := by
  match k, hk with
  | 0, _ => rfl
  | 1, _ => rfl
  | 2, _ => rfl
  | 3, _ => rfl

set_option maxRecDepth 100000 in
set_option maxHeartbeats 1000000 in
theorem wordText_any (b : Nat) (v : Value) (ks : List Nat) (w : World) (hv : WordAt w b v ks) (h4 : ∀ k ∈ ks, k < 4) (hl : ks.length ≤ 100000000) :
    Calls Tryz.prog 28 #[.pointer (some ⟨b, 0, none⟩)] w fun e w' => e = .returned (.string ⟨(kbytes ks).toArray⟩) ∧ Keeps (fun _ => False) w w' := by
  have HV : Hid (∀ W, Keeps (fun _ => False) w W → WordAt W b v ks) := Lib.hid (fun W hk => hv.keeps hk (fun h => h) (fun _ _ h => h))
  have hB := builder_new w
  have hbl := (Below.refl w.heap.size w).alloc (Nat.le_refl _) (.cells #[.pointer none, .slice none 0 0] 122)
  have hL := wordLen_any b v ks _ (HV.out _ ((Keeps.refl (fun _ => False) w).alloc (.cells #[.pointer none, .slice none 0 0] 122)))
  have HH := Lib.hid h4
  clear hv h4
  go_enter Tryz.func28, Tryz.ntmps28
  go_wp2_with fail
  refine hL.mono ?_
  rintro e w1 ⟨rfl, rfl⟩
  clear hL
  have hsz : w.heap.size ≤ (w.alloc (.cells #[.pointer none, .slice none 0 0] 122)).heap.size := by simp
  go_wp2_with fail
  generalize World.alloc _ _ = wM at *
  generalize hBB : w.heap.size = B at *
  have HBB := Lib.hid hBB
  clear hBB
  go_loopg [7] ks.length (fun m t wr => ∃ j : Nat, j ≤ ks.length ∧ m = ks.length - j ∧ t = .int .i64 j ∧ IsB B B (Lib.byteCells (kbytes (ks.take j))) wr ∧ Below B w wr)
  case atStart => exact ⟨0, Nat.zero_le _, rfl, rfl, hB, hbl⟩
  case round =>
    obtain ⟨j, hj, hgk, rfl, hI, hb⟩ := hrel
    have HG := Lib.hid hgk
    clear hgk hB hbl hsz
    have hkw : Keeps (fun _ => False) w wr := Keeps.of_below (by rw [HBB.out]; exact hb) _
    have hBw : B ≤ wr.heap.size := by rw [← HBB.out]; exact hkw.size
    by_cases hlt : j < ks.length
    · have hWr := HV.out wr hkw
      obtain ⟨a, cap, rfl, hc1, hc2, hcell⟩ := hWr.form
      have c0 : wr.cell? ⟨b, 0, none⟩ = some (.slice a ks.length cap) := World.cell_of_heap hWr.1 0
      have hg := List.getElem?_eq_getElem hlt
      obtain ⟨g, rfl, hc⟩ := hcell j _ hg
      have hx4 := HH.out _ (List.mem_of_getElem? hg)
      have hst := kbytes_step hg
      have hW := writeByte_any B B _ ((kbyte ks[j]).toNat : Int) wr hI (by rw [bcells_length]; simp [kbytes]; omega) hBw
      rw [← bcells_snoc, ← hst] at hW
      generalize ks[j] = y at *
      have hrl := run_letter y hx4 wr
      have HS := Lib.hid hb
      clear hg hst hI hb hcell hWr
      go_wp2_with fail
      refine hW.mono ?_
      rintro e w2 ⟨rfl, h2, hb2⟩
      have HF := Lib.hid (And.intro h2 hb2)
      clear hW h2 hb2 hrl
      go_wp2
      go_roundg (ks.length - (j + 1))
      case measure => rw [HG.out]; omega
      case rel => exact ⟨j + 1, by omega, rfl, by go_num, .inr HF.out.1, HS.out.trans HF.out.2⟩
    · obtain rfl : j = ks.length := by omega
      rw [List.take_of_length_le (Nat.le_refl _)] at hI
      have hS := Tryz.Builder_String_any B B (kbytes ks) wr hI hBw
      have HS := Lib.hid hb
      clear hI hb hkw
      go_wp2_with fail
      refine hS.mono ?_
      rintro e w2 ⟨rfl, hb2⟩
      have HF := Lib.hid hb2
      clear hS hb2
      go_wp2
      go_ret
      exact ⟨rfl, Keeps.of_below (by rw [HBB.out]; exact HS.out.trans HF.out) _⟩

end Go.Proofs.YtipelclohcdkcaaGreat

/- bits.Vec.Num. -/
namespace Go.Proofs.YtipelclohcdkcaaGreat
open Go.RowKit

/-- The lowest bits of a number, the lowest first. -/
def numB (x k : Nat) : List Bool := (List.range k).map fun i => x / 2 ^ i % 2 == 1

theorem numB_succ (x k : Nat) : numB x (k + 1) = numB x k ++ [x / 2 ^ k % 2 == 1] := by simp [numB, List.range_succ]
theorem numB_length (x k : Nat) : (numB x k).length = k := by simp [numB]

theorem VecAt.grown {w : World} {b : Nat} {v : Value} {l : List Bool} (h : VecAt w b v l) : VecGrown w b v l w := ⟨v, h, Keeps.refl _ _, .inl rfl⟩

theorem and_bit (y : Nat) (hy : y < 18446744073709551616) : bits BinOp.and IntKind.u64 (y : Int) 1 = (((y % 2 == 1).toNat : Nat) : Int) := by
  have h := bits_and_u64_nat y 1 hy (by omega)
  rw [show ((1 : Nat) : Int) = 1 from rfl] at h
  rw [h, Nat.and_one_is_mod]
  have h2 : y % 2 = 0 ∨ y % 2 = 1 := by omega
  rcases h2 with h2 | h2 <;> rw [h2] <;> rfl

set_option maxRecDepth 100000 in
set_option maxHeartbeats 1000000 in
theorem num_any (b : Nat) (v : Value) (l : List Bool) (x k : Nat) (w : World) (h : VecAt w b v l) (hl : l.length + 64 < 1000000000) (hx : x < 18446744073709551616) (hk : k ≤ 64) :
    Calls Tryz.prog 112 #[.pointer (some ⟨b, 0, none⟩), .int .u64 x, .int .i64 k] w fun e w' => e = .returned (.tuple #[]) ∧ VecGrown w b v (l ++ numB x k) w' := by
  have e2 : min (k : Int) 64 = k := by omega
  go_enter Tryz.func112, Tryz.ntmps112
  go_wp2_with fail
  clear e2
  go_loopg [12] k (fun m i wr => ∃ j : Nat, j ≤ k ∧ m = k - j ∧ i = .int .i64 j ∧ VecGrown w b v (l ++ numB x j) wr)
  case atStart => exact ⟨0, Nat.zero_le _, rfl, rfl, by simpa [numB] using h.grown⟩
  case round =>
    obtain ⟨j, hj, hgk, rfl, v1, h1, h2, h3⟩ := hrel
    have HG := Lib.hid hgk
    clear hgk
    by_cases hlt : j < k
    · have hA := add_any b v1 (l ++ numB x j) (x / 2 ^ j % 2 == 1) wr h1 (by simp [numB_length]; omega)
      have HS := Lib.hid (And.intro h2 h3)
      clear h1 h2 h3
      have e3 := and_bit (x / 2 ^ j) (Nat.lt_of_le_of_lt (Nat.div_le_self _ _) hx)
      have e4 : (x : Int) / 2 ^ j = ((x / 2 ^ j : Nat) : Int) := by simp
      rw [← e4] at e3
      have HE := Lib.hid e3
      clear e3 e4
      go_wp2_with fail
      rw [HE.out]
      refine hA.mono ?_
      rintro e w2 ⟨rfl, v2, g1, g2, g3⟩
      have hfin : VecGrown w b v (l ++ numB x (j + 1)) w2 := VecGrown.trans HS.out.1 HS.out.2 ⟨v2, by rw [numB_succ, ← List.append_assoc]; exact g1, g2, g3⟩
      have HF := Lib.hid hfin
      clear hA g1 g2 g3 hfin
      go_wp2
      go_roundg (k - (j + 1))
      case measure => rw [HG.out]; omega
      case rel => exact ⟨j + 1, by omega, rfl, by go_num, HF.out⟩
    · obtain rfl : j = k := by omega
      have HF : Hid (VecGrown w b v (l ++ numB x j) wr) := Lib.hid ⟨v1, h1, h2, h3⟩
      clear h1 h2 h3
      go_wp2
      go_end0
      exact ⟨rfl, HF.out⟩

end Go.Proofs.YtipelclohcdkcaaGreat

/- Words: Count, Bits. -/
namespace Go.Proofs.YtipelclohcdkcaaGreat
open Go.RowKit

theorem cntZ_step {ks : List Nat} {i x : Nat} (h : ks[i]? = some x) (kind : Int) : cntZ (nats (ks.take (i + 1))) kind = cntZ (nats (ks.take i)) kind + if (x : Int) = kind then 1 else 0 := by
  unfold cntZ nats
  rw [take_get h, List.map_append, List.filter_append, List.length_append]
  by_cases hk : (x : Int) = kind <;> simp [hk]

set_option maxRecDepth 100000 in
set_option maxHeartbeats 1000000 in
theorem wordCount_any (b : Nat) (v : Value) (ks : List Nat) (kind : Int) (w : World) (hv : WordAt w b v ks) (h4 : ∀ k ∈ ks, k < 4) (hl : ks.length ≤ 100000000) :
    Calls Tryz.prog 27 #[.pointer (some ⟨b, 0, none⟩), .int .i64 kind] w fun e w' => e = .returned (.int .i64 (cntZ (nats ks) kind)) ∧ w = w' := by
  have hL := wordLen_any b v ks w hv
  obtain ⟨a, cap, rfl, hc1, hc2, hcell⟩ := hv.form
  have c0 : w.cell? ⟨b, 0, none⟩ = some (.slice a ks.length cap) := World.cell_of_heap hv.1 0
  have HH := Lib.hid h4
  clear hv h4
  go_enter Tryz.func27, Tryz.ntmps27
  go_wp2_with fail
  refine hL.mono ?_
  rintro e w1 ⟨rfl, rfl⟩
  clear hL
  go_wp2_with fail
  go_loopg [5, 9] ks.length (fun m c i wr => ∃ j : Nat, j ≤ ks.length ∧ m = ks.length - j ∧ i = .int .i64 j ∧ c = .int .i64 (cntZ (nats (ks.take j)) kind) ∧ wr = w)
  case atStart => exact ⟨0, Nat.zero_le _, rfl, rfl, by simp [cntZ, nats], rfl⟩
  case round =>
    obtain ⟨j, hj, hgk, rfl, rfl, rfl⟩ := hrel
    have HG := Lib.hid hgk
    clear hgk
    by_cases hlt : j < ks.length
    · have hg := List.getElem?_eq_getElem hlt
      obtain ⟨g, rfl, hc⟩ := hcell j _ hg
      have hx4 := HH.out _ (List.mem_of_getElem? hg)
      have hst := cntZ_step hg kind
      have hn : (cntZ (nats (ks.take j)) kind : Nat) ≤ 100000000 := by
        have h1 : cntZ (nats (ks.take j)) kind ≤ (nats (ks.take j)).length := List.length_filter_le _ _
        rw [nats_len] at h1
        have h2 := List.length_take_le j ks
        omega
      generalize ks[j] = y at *
      generalize cntZ (nats (ks.take j)) kind = c at *
      have HS := Lib.hid hst
      clear hst hg hcell
      by_cases hk : (y : Int) = kind
      · have hkb : ((y : Int) == kind) = true := by simp [hk]
        have HK := Lib.hid hk
        clear hk
        go_wp2
        go_roundg (ks.length - (j + 1))
        case measure => rw [HG.out]; omega
        case rel => exact ⟨j + 1, by omega, rfl, by go_num, by rw [HS.out, if_pos HK.out]; go_num, rfl⟩
      · have hkb : ((y : Int) == kind) = false := by simp [hk]
        have HK := Lib.hid hk
        clear hk
        go_wp2
        go_roundg (ks.length - (j + 1))
        case measure => rw [HG.out]; omega
        case rel => exact ⟨j + 1, by omega, rfl, by go_num, by rw [HS.out, if_neg HK.out]; go_num, rfl⟩
    · obtain rfl : j = ks.length := by omega
      rw [List.take_of_length_le (Nat.le_refl _)]
      clear hcell
      go_wp2
      go_ret
      exact ⟨rfl, rfl⟩

/-- A word's bits: two a letter. -/
def wbits (ks : List Nat) : List Bool := ks.flatMap fun k => numB k 2

theorem wbits_step {ks : List Nat} {i x : Nat} (h : ks[i]? = some x) : wbits (ks.take (i + 1)) = wbits (ks.take i) ++ numB x 2 := by
  unfold wbits; rw [take_get h, List.flatMap_append]; simp

theorem wbits_length (ks : List Nat) : (wbits ks).length = 2 * ks.length := by
  induction ks with
  | nil => rfl
  | cons k ks ih => simp only [wbits, List.flatMap_cons, List.length_append, numB_length, List.length_cons] at *; omega

/-- A new vector's state. -/
def VecNew (w : World) (b : Nat) (l : List Bool) (w' : World) : Prop := ∃ v, VecAt w' b v l ∧ w.heap.size ≤ b ∧ (∀ k, v.ownBlock = some k → w.heap.size ≤ k) ∧ Keeps (fun _ => False) w w'

theorem VecNew.grown {w wr w1 : World} {b : Nat} {l : List Bool} {v : Value} (hb : w.heap.size ≤ b) (hv : ∀ k, v.ownBlock = some k → w.heap.size ≤ k) (hk : Keeps (fun _ => False) w wr) (h : VecGrown wr b v l w1) : VecNew w b l w1 := by
  obtain ⟨v1, h1, h2, h3⟩ := h
  refine ⟨v1, h1, hb, fun k hk' => ?_, hk.trans h2 (fun x hx e => ?_)⟩
  · rcases h3 with h3 | ⟨k', h3, hk''⟩
    · rw [h3] at hk'; exact hv k hk'
    · rw [h3] at hk'; cases hk'; exact Nat.le_trans hk.size hk''
  · rcases e with rfl | e
    · omega
    · have := hv x e; omega

set_option maxRecDepth 100000 in
set_option maxHeartbeats 1000000 in
theorem wordBits_any (b : Nat) (v : Value) (ks : List Nat) (w : World) (hv : WordAt w b v ks) (h4 : ∀ k ∈ ks, k < 4) (hl : ks.length ≤ 1000000) :
    Calls Tryz.prog 29 #[.pointer (some ⟨b, 0, none⟩)] w fun e w' => ∃ b2, e = .returned (.pointer (some ⟨b2, 0, none⟩)) ∧ VecNew w b2 (wbits ks) w' := by
  have k0 := (Keeps.refl (fun _ => False) w).alloc (.cells #[.slice none 0 0, .int .i64 0] 130)
  have HV : Hid (∀ W, Keeps (fun _ => False) w W → WordAt W b v ks) := Lib.hid (fun W hk => hv.keeps hk (fun h => h) (fun _ _ h => h))
  have hL := wordLen_any b v ks _ (HV.out _ k0)
  have hN0 : VecNew w w.heap.size [] (w.alloc (.cells #[.slice none 0 0, .int .i64 0] 130)) := ⟨_, vec_new w, Nat.le_refl _, fun k hk => by simp [Value.ownBlock] at hk, k0⟩
  have HH := Lib.hid h4
  clear hv h4 k0
  go_enter Tryz.func29, Tryz.ntmps29
  go_wp2_with fail
  refine (new_any _).mono ?_
  rintro e w1 ⟨rfl, rfl⟩
  go_wp2_with fail
  refine hL.mono ?_
  rintro e w1 ⟨rfl, rfl⟩
  clear hL
  go_wp2_with fail
  generalize World.alloc _ _ = wM at *
  obtain ⟨b2, hb2⟩ : ∃ b2, b2 = w.heap.size := ⟨_, rfl⟩
  rw [← hb2] at hN0
  rw [← hb2]
  clear hb2
  go_loopg [8] ks.length (fun m i wr => ∃ j : Nat, j ≤ ks.length ∧ m = ks.length - j ∧ i = .int .i64 j ∧ VecNew w b2 (wbits (ks.take j)) wr)
  case atStart => exact ⟨0, Nat.zero_le _, rfl, rfl, hN0⟩
  case round =>
    obtain ⟨j, hj, hgk, rfl, v1, g1, g2, g3, g4⟩ := hrel
    have HG := Lib.hid hgk
    clear hgk hN0
    by_cases hlt : j < ks.length
    · have hWr := HV.out wr g4
      obtain ⟨a, cap, rfl, hc1, hc2, hcell⟩ := hWr.form
      have c0 : wr.cell? ⟨b, 0, none⟩ = some (.slice a ks.length cap) := World.cell_of_heap hWr.1 0
      have hg := List.getElem?_eq_getElem hlt
      obtain ⟨g, rfl, hc⟩ := hcell j _ hg
      have hx4 := HH.out _ (List.mem_of_getElem? hg)
      have hst := wbits_step hg
      have hlen := wbits_length (ks.take j)
      have hN := num_any b2 v1 (wbits (ks.take j)) ks[j] 2 wr g1 (by rw [hlen, List.length_take]; omega) (by omega) (by omega)
      rw [← hst] at hN
      generalize ks[j] = y at *
      have HS := Lib.hid (And.intro g2 (And.intro g3 g4))
      clear hg hst hcell hWr g1 g2 g3 g4 hlen
      go_wp2_with fail
      refine hN.mono ?_
      rintro e w2 ⟨rfl, hgr⟩
      have HF : Hid (VecNew w b2 (wbits (ks.take (j + 1))) w2) := Lib.hid (VecNew.grown HS.out.1 HS.out.2.1 HS.out.2.2 hgr)
      clear hN hgr
      go_wp2
      go_roundg (ks.length - (j + 1))
      case measure => rw [HG.out]; omega
      case rel => exact ⟨j + 1, by omega, rfl, by go_num, HF.out⟩
    · obtain rfl : j = ks.length := by omega
      have HF : Hid (VecNew w b2 (wbits (ks.take ks.length)) wr) := Lib.hid ⟨v1, g1, g2, g3, g4⟩
      clear g1 g2 g3 g4
      go_wp2
      go_ret
      refine ⟨b2, rfl, ?_⟩
      have := HF.out
      rwa [List.take_of_length_le (Nat.le_refl _)] at this

end Go.Proofs.YtipelclohcdkcaaGreat

/- ref04.Kinds. -/
namespace Go.Proofs.YtipelclohcdkcaaGreat
open Go.RowKit

/-- What Kinds hands back. -/
def KindsPost (w : World) (s : ByteArray) (e : Ending) (w' : World) : Prop :=
  (∃ v ks, s.data.toList.map kindZ = nats ks ∧ e = .returned (.tuple #[v, .int .i64 (-1)]) ∧ OwnI w.heap.size w' v (nats ks) ∧ Keeps (fun _ => False) w w') ∨
  (∃ i : Nat, i < s.size ∧ (∀ j, j < i → ∀ c, s.data.toList[j]? = some c → 0 ≤ kindZ c) ∧ (∃ c, s.data.toList[i]? = some c ∧ kindZ c < 0) ∧ e = .returned (.tuple #[.slice none 0 0, .int .i64 i]) ∧ Keeps (fun _ => False) w w')

theorem extract_one {s : ByteArray} {j : Nat} {c : UInt8} (h : s.data.toList[j]? = some c) : s.extract j (j + 1) = ⟨#[c]⟩ := by
  have hj : j < s.data.size := by
    have := lt_of_get h
    simpa using this
  apply ByteArray.ext
  have hc : s.data[j] = c := by
    rw [List.getElem?_eq_getElem (by simpa using hj)] at h
    simpa using h
  rw [ByteArray.data_extract]
  apply Array.ext
  · have : s.size = s.data.size := rfl
    simp; omega
  · intro i h1 h2
    simp at h2
    obtain rfl : i = 0 := by omega
    simp [hc]

theorem kindZ_other {c : UInt8} (h0 : c ≠ 40) (h1 : c ≠ 41) (h2 : c ≠ 91) (h3 : c ≠ 93) : kindZ c < 0 := by
  have e0 : (40 : UInt8) ≠ c := fun e => h0 e.symm
  have e1 : (41 : UInt8) ≠ c := fun e => h1 e.symm
  have e2 : (91 : UInt8) ≠ c := fun e => h2 e.symm
  have e3 : (93 : UInt8) ≠ c := fun e => h3 e.symm
  simp [kindZ, Lib.indexByte, e0, e1, e2, e3]

def KinS (w : World) (s : ByteArray) (j : Nat) (lv : Value) (wr : World) : Prop :=
  ∃ ks, (s.data.toList.take j).map kindZ = nats ks ∧ OwnI w.heap.size wr lv (nats ks) ∧ ks.length = j ∧ Keeps (fun _ => False) w wr

theorem KinS.push {w wr w1 : World} {s : ByteArray} {j : Nat} {lv lv' : Value} {ks : List Nat} {c : UInt8} {x : Nat} {z : Int} (hz : z = x) (hx : kindZ c = x) (hc : s.data.toList[j]? = some c) (hks : (s.data.toList.take j).map kindZ = nats ks) (hkl : ks.length = j)
    (hk : Keeps (fun _ => False) w wr) (hown : OwnI w.heap.size wr lv (nats ks)) (hown2 : OwnI w.heap.size w1 lv' (nats ks ++ [z])) (hk2 : Keeps (fun k => lv.ownBlock = some k) wr w1) : KinS w s (j + 1) lv' w1 := by
  refine ⟨ks ++ [x], ?_, by simpa [nats, hz] using hown2, by simp [hkl], hk.trans hk2 (fun y hy h => by have := (hown.lt y h).1; omega)⟩
  rw [take_get hc, List.map_append, hks]
  simp [nats, hx]

theorem KinS.bad {w wr : World} {s : ByteArray} {j : Nat} {ks : List Nat} {c : UInt8} (hlt : j < s.size) (hx : kindZ c < 0) (hc : s.data.toList[j]? = some c) (hks : (s.data.toList.take j).map kindZ = nats ks) (hkl : ks.length = j) (hk : Keeps (fun _ => False) w wr) :
    KindsPost w s (.returned (.tuple #[.slice none 0 0, .int .i64 j])) wr := by
  refine .inr ⟨j, hlt, fun i hi c' hc' => ?_, ⟨c, hc, hx⟩, rfl, hk⟩
  have h1 : ((s.data.toList.take j).map kindZ)[i]? = some (kindZ c') := by rw [List.getElem?_map, List.getElem?_take, if_pos hi, hc']; rfl
  rw [hks, nats, List.getElem?_map, List.getElem?_eq_getElem (by omega)] at h1
  simp only [Option.map_some, Option.some.injEq] at h1
  omega

theorem KinS.done {w wr : World} {s : ByteArray} {j : Nat} {lv : Value} (hj : ¬ j < s.size) (h : KinS w s j lv wr) : KindsPost w s (.returned (.tuple #[lv, .int .i64 (-1)])) wr := by
  obtain ⟨ks, h1, h2, h3, h4⟩ := h
  have : s.data.toList.length = s.size := by simp
  rw [List.take_of_length_le (by omega)] at h1
  exact .inl ⟨lv, ks, h1, rfl, h2, h4⟩

end Go.Proofs.YtipelclohcdkcaaGreat

/- law04.like. -/
namespace Go.Proofs.YtipelclohcdkcaaGreat
open Go.RowKit

/-- The bits of letters, as like gathers them. -/
def lbits (ks : List Nat) : List Int := nats (ks.flatMap fun k => [k % 2, k / 2])

theorem lbits_step {ks : List Nat} {i x : Nat} (h : ks[i]? = some x) : lbits (ks.take (i + 1)) = lbits (ks.take i) ++ [((x % 2 : Nat) : Int), ((x / 2 : Nat) : Int)] := by
  unfold lbits; rw [take_get h, List.flatMap_append]; simp [nats]

theorem lbits_length (ks : List Nat) : (lbits ks).length = 2 * ks.length := by
  unfold lbits
  rw [nats_len]
  induction ks with
  | nil => rfl
  | cons k ks ih => simp only [List.flatMap_cons, List.length_append, List.length_cons, List.length_nil] at *; omega

theorem lbits_wbits (ks : List Nat) (h4 : ∀ k ∈ ks, k < 4) : bitsOf (lbits ks) = wbits ks := by
  induction ks with
  | nil => rfl
  | cons k ks ih =>
    have hk := h4 k (by simp)
    have ih := ih (fun x hx => h4 x (by simp [hx]))
    have h1 : lbits (k :: ks) = [((k % 2 : Nat) : Int), ((k / 2 : Nat) : Int)] ++ lbits ks := by simp [lbits, nats]
    have h2 : wbits (k :: ks) = numB k 2 ++ wbits ks := by simp [wbits]
    rw [h1, h2, bitsOf_append, ih]
    congr 1
    match k, hk with
    | 0, _ => rfl
    | 1, _ => rfl
    | 2, _ => rfl
    | 3, _ => rfl

theorem Sl.two (w : World) (k : IntKind) (p q : Int) (t : TypeId) : Sl k (w.alloc (.cells #[.int k p, .int k q] t)) (.slice (some ⟨w.heap.size, 0, none⟩) 2 2) [p, q] := by
  refine ⟨_, _, rfl, by simp, by decide, fun h => by simp at h, fun j z hz => ⟨_, _, rfl, ?_⟩⟩
  rw [World.cell_of_heap (heap_alloc_new w _)]
  match j, hz with
  | 0, hz => simp at hz; subst hz; rfl
  | 1, hz => simp at hz; subst hz; rfl

/-- What like has gathered. -/
def LikS (w : World) (ks : List Nat) (j : Nat) (lv : Value) (wr : World) : Prop := OwnI w.heap.size wr lv (lbits (ks.take j)) ∧ Keeps (fun _ => False) w wr

end Go.Proofs.YtipelclohcdkcaaGreat
