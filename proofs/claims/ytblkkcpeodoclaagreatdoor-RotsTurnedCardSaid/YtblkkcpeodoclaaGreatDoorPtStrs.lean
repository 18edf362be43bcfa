/- Layer 07: the library's contracts, laid at this program: Atoi, Itoa, Split. -/
import Derived.Shelf.Strconv.AtoiAll
import Derived.Shelf.Strconv.ErrVarAll
import Derived.Shelf.Strconv.Itoa3
import Derived.Shelf.Strings.Split
import Derived.Lib.AtoiErrMem
import Derived.Test.YtblkkcpeodoclaaGreatDoorPtRanks
import Derived.Test.YtblkkcpeodoclaaGreatDoorPtRotP
import Derived.Test.YtblkkcpeodoclaaGreatDoorPtLays07
namespace Go.Proofs.YtblkkcpeodoclaaGreatDoor
open Go.RowKit Go.Shelf

/-- What the package-level variables hold (all of them below block B). -/
structure EnvR (B : Nat) (w : World) : Prop where
  le : B ≤ w.heap.size
  tab : Lib.TabIs Tryz.prog w "internal/strconv.uint64pow10" .u64 Lib.pow10Tab
  es : ∃ tp p, w.var? Tryz.prog "strconv.ErrSyntax" = some #[.iface tp p]
  er : ∃ tp p, w.var? Tryz.prog "strconv.ErrRange" = some #[.iface tp p]
  ml : ∃ m, w.var? Tryz.prog "internal/bytealg.MaxLen" = some #[.int .i64 m]
  lt : ∀ n ∈ ["internal/strconv.uint64pow10", "strconv.ErrSyntax", "strconv.ErrRange", "internal/bytealg.MaxLen"], ∀ g, Tryz.prog.globalNamed n = some g → g < B

theorem var_keeps {F : Nat → Prop} {w w' : World} {n : String} {x : Array Value} {B : Nat} (h : w.var? Tryz.prog n = some x) (hl : ∀ g, Tryz.prog.globalNamed n = some g → g < B) (hB : B ≤ w.heap.size) (k : Keeps F w w') (hF : ∀ x, F x → B ≤ x) : w'.var? Tryz.prog n = some x := by
  unfold World.var? at h ⊢
  cases hg : Tryz.prog.globalNamed n with
  | none => rw [hg] at h; simp at h
  | some g =>
    rw [hg] at h
    have hl := hl g hg
    have := k.block g (by omega) (fun e => by have := hF g e; omega)
    simp only [Option.bind_some] at h ⊢
    rw [this]
    exact h

theorem EnvR.keeps {F : Nat → Prop} {B : Nat} {w w' : World} (h : EnvR B w) (k : Keeps F w w') (hF : ∀ x, F x → B ≤ x) : EnvR B w' :=
  ⟨Nat.le_trans h.le k.size, var_keeps h.tab (h.lt _ (by simp)) h.le k hF,
    by obtain ⟨tp, p, e⟩ := h.es; exact ⟨tp, p, var_keeps e (h.lt _ (by simp)) h.le k hF⟩,
    by obtain ⟨tp, p, e⟩ := h.er; exact ⟨tp, p, var_keeps e (h.lt _ (by simp)) h.le k hF⟩,
    by obtain ⟨m, e⟩ := h.ml; exact ⟨m, var_keeps e (h.lt _ (by simp)) h.le k hF⟩, h.lt⟩

/-- What Atoi answers. -/
def AtoiR (s : ByteArray) (w : World) (e : Ending) (w' : World) : Prop :=
  ∃ n ev, e = .returned (.tuple #[.int .i64 n, ev]) ∧ Keeps (fun _ => False) w w' ∧ -9223372036854775808 ≤ n ∧ n ≤ 9223372036854775807 ∧
    ((Lib.atoiAll s.data.toList = .ok n ∧ ev = .nilIface) ∨ ((∀ m, Lib.atoiAll s.data.toList ≠ .ok m) ∧ ∃ t N, ev = .iface t (.pointer (some ⟨N, 0, none⟩))))

theorem atoi_any (s : ByteArray) (B : Nat) (w : World) (hE : EnvR B w) (hs : s.size ≤ 281474976710656) :
    Calls Tryz.prog 59 #[.string s] w (AtoiR s w) := by
  cases h : Lib.atoiAll s.data.toList
  · rename_i v
    refine (Any.strconv_Atoi_ok Tryz.lays172 s (by omega) v h w).mono ?_
    rintro e w' ⟨rfl, hw⟩
    have hb := Lib.atoiAll_bounds h
    refine ⟨v, _, rfl, ?_, by omega, by omega, .inl ⟨h, rfl⟩⟩
    rcases hw with rfl | ⟨t, rfl⟩
    · exact Keeps.refl _ _
    · exact Keeps.of_below (Lib.bytesWorld_below _ _ _) _
  · obtain ⟨tp, p, hv⟩ := hE.es
    refine (Any.strconv_Atoi_syntax_var Tryz.lays172 s hs h tp p w hv).mono ?_
    rintro e w' ⟨N, rfl, -, -, hb⟩
    exact ⟨0, _, rfl, Keeps.of_below hb _, by omega, by omega, .inr ⟨fun m e => (by rw [h] at e; cases e), _, _, rfl⟩⟩
  · obtain ⟨tp, p, hv⟩ := hE.er
    refine (Any.strconv_Atoi_range_var Tryz.lays172 s hs h tp p w hv).mono ?_
    rintro e w' ⟨N, rfl, -, -, hb⟩
    have hsat : -9223372036854775808 ≤ Lib.atoiSat s.data.toList ∧ Lib.atoiSat s.data.toList ≤ 9223372036854775807 := by
      unfold Lib.atoiSat; split <;> (try split) <;> omega
    exact ⟨_, _, rfl, Keeps.of_below hb _, hsat.1, hsat.2, .inr ⟨fun m e => (by rw [h] at e; cases e), _, _, rfl⟩⟩

theorem itoa_any (n : Int) (B : Nat) (w : World) (hE : EnvR B w) (h0 : -9223372036854775808 ≤ n) (h1 : n ≤ 9223372036854775807) :
    Calls Tryz.prog 42 #[.int .i64 n] w fun e w' => e = .returned (.string ⟨(Lib.itoa n).toArray⟩) ∧ Keeps (fun _ => False) w w' := by
  refine (Any.strconv_Itoa Tryz.lays171 n h0 h1 w hE.tab).mono ?_
  rintro e w' ⟨rfl, k, os, rfl⟩
  refine ⟨rfl, (((Keeps.refl _ w).drewN k).trans ⟨rfl, rfl, rfl, ?_, fun b hb _ => ?_⟩ (fun _ _ h => h))⟩
  · simp [Go.Sort.grow]
  · simp only [Go.Sort.grow]
    rw [Array.getElem?_append_left hb]

/-- Split at one byte. -/
theorem split_any (s : ByteArray) (c : UInt8) (B : Nat) (w : World) (hE : EnvR B w) (hs : s.size < 4294967281) :
    Calls Tryz.prog 19 #[.string s, .string ⟨#[c]⟩] w fun e w' => ∃ ps : List ByteArray, e = .returned (.slice (some ⟨w.heap.size, 0, none⟩) ps.length ps.length) ∧
      ps.map (·.data.toList) = cutB c s.data.toList ∧ w' = w.alloc (.cells (ps.map Value.string).toArray 9) := by
  obtain ⟨m, hm⟩ := hE.ml
  have h0 := World.var?_cell (g := Tryz.lays146_ren.g 1) (by kernel_rfl) hm 0
  refine (Any.strings_Split Tryz.lays146 (by kernel_rfl) s ⟨#[c]⟩ m w hs (by simpa using h0) (Nat.le_refl 1)).mono ?_
  rintro e w' ⟨rfl, rfl⟩
  have hlen := Lib.splitB_all ⟨#[c]⟩ (Nat.le_refl 1) 0 _ s rfl
  refine ⟨Lib.splitB ⟨#[c]⟩ 0 (Lib.countB s ⟨#[c]⟩) s, by rw [hlen], ?_, rfl⟩
  rw [Lib.splitB_data]
  exact split_cut c s.data.toList

end Go.Proofs.YtblkkcpeodoclaaGreatDoor
