/- What the row's listed variables give the walks of layer 07. -/
import Derived.Test.YtblkkcpeodoclaaGreatDoorRows
import Derived.Stop.LaidErr
import Derived.Lib.LaidTab
import Derived.Shelf.Vars
import Derived.Handed
import Derived.LaidMore
import Derived.Lay
import Derived.Stop.Joined
import Derived.SevenTiedAt
import Derived.Test.YtblkkcpeodoclaaGreatDoorPtStrs
namespace Go.Proofs.YtblkkcpeodoclaaGreatDoor
open Go.RowKit Go.Shelf Go.Lib

theorem errStar : "*" ++ "errors.errorString" = "*errors.errorString" := by decide
theorem errRow (u : TypeId) (h : Tryz.prog.typeName? 3 u = some "*errors.errorString") : u = 174 :=
  typeName_ptr_named (nm := "errors.errorString") (by rw [errStar]; kernel_rfl) (by kernel_rfl) (by decide) u (by rw [errStar]; exact h)
theorem cellsErr : Tryz.prog.cellsOf 176 = 1 := by kernel_rfl
theorem cellsStr : Tryz.prog.cellsOf 9 = 1 := by kernel_rfl

/-- The list of all four rows. -/
def laid07 : List (String × DataW Unit) := Rows.rotsNilRow.laid

theorem globalNamed_lt {w : World} {n : String} {x : Array Value} (h : w.var? Tryz.prog n = some x) (g : Nat) (hg : Tryz.prog.globalNamed n = some g) : g < w.heap.size := by
  unfold World.var? at h
  rw [hg] at h
  simp only [Option.bind_some] at h
  rcases Nat.lt_or_ge g w.heap.size with h' | h'
  · exact h'
  · rw [Array.getElem?_eq_none h'] at h
    simp at h

theorem envR_of {W : World} (hL : laidMet Tryz.prog laid07 W) (hsh : W.ShapedOpen Tryz.prog) : EnvR W.heap.size W := by
  have e1 : (Rows.laid_internal_strconv_uint64pow10 : DataW Unit) = tabData .u64 pow10Tab := by kernel_rfl
  have h1 : laidMet Tryz.prog (("internal/strconv.uint64pow10", tabData .u64 pow10Tab) :: [("unicode/utf8.acceptRanges", Rows.laid_unicode_utf8_acceptRanges), ("strconv.ErrRange", Rows.laid_strconv_ErrRange), ("strconv.ErrSyntax", Rows.laid_strconv_ErrSyntax), ("bytes.ErrTooLarge", Rows.laid_bytes_ErrTooLarge), ("unicode/utf8.first", Rows.laid_unicode_utf8_first)]) W := by
    rw [← e1]; exact hL.tail.tail
  have htab : Lib.TabIs Tryz.prog W "internal/strconv.uint64pow10" .u64 Lib.pow10Tab :=
    Lib.tabIs_of_head (g := 6) (t := 159) (e := 134) (n := 20) (by kernel_rfl) (by kernel_rfl) Tryz.underlying159 Tryz.underlying134 (by kernel_rfl) (by kernel_rfl) h1
  obtain ⟨a0, s0, hv0, -, -, -⟩ := laid_sentinel (n := "strconv.ErrRange") (nm := "*errors.errorString") (text := [118, 97, 108, 117, 101, 32, 111, 117, 116, 32, 111, 102, 32, 114, 97, 110, 103, 101]) (g := 5) (ti := 56) h1.tail.tail (by kernel_rfl) (by kernel_rfl) Tryz.underlying56 errRow Tryz.underlying174 Tryz.underlying176 rfl rfl Tryz.underlying9 cellsErr cellsStr
  obtain ⟨a1, s1, hv1, -, -, -⟩ := laid_sentinel (n := "strconv.ErrSyntax") (nm := "*errors.errorString") (text := [105, 110, 118, 97, 108, 105, 100, 32, 115, 121, 110, 116, 97, 120]) (g := 4) (ti := 56) h1.tail.tail.tail (by kernel_rfl) (by kernel_rfl) Tryz.underlying56 errRow Tryz.underlying174 Tryz.underlying176 rfl rfl Tryz.underlying9 cellsErr cellsStr
  have hml : ∃ m, W.var? Tryz.prog "internal/bytealg.MaxLen" = some #[.int .i64 m] := by
    have hg : Tryz.prog.globalNamed "internal/bytealg.MaxLen" = some 1 := by kernel_rfl
    have h0 : ((begin Tryz.prog (fun _ _ => 0) default).world.heap[1]?).bind Obj.row? = some (#[.int .i64 0], 3) := by kernel_rfl
    obtain ⟨m, hm⟩ := cell_of_shapedOpen_int hsh (g := 1) (k := .i64) (of_decide_eq_true (by kernel_rfl)) h0 rfl (by kernel_rfl) (by kernel_rfl) Tryz.underlying3
    obtain ⟨cs, hh, hs, -⟩ := hsh.1 1 _ _ (of_decide_eq_true (by kernel_rfl)) h0
    refine ⟨m, ?_⟩
    have hc : cs = #[.int .i64 m] := by
      have hs1 : cs.size = 1 := hs
      have h2 : W.cell? ⟨1, 0, none⟩ = cs[0]? := World.cell_of_heap hh 0
      rw [hm] at h2
      apply Array.ext
      · simpa using hs1
      · intro i q1 q2
        have : i = 0 := by omega
        subst this
        have q3 := Array.getElem?_eq_getElem q1
        rw [← h2] at q3
        simpa using (Option.some.inj q3).symm
    unfold World.var?
    rw [hg]
    simp only [Option.bind_some]
    rw [hh, hc]
  refine ⟨Nat.le_refl _, htab, ⟨_, _, hv1⟩, ⟨_, _, hv0⟩, hml, fun n hn g hg => ?_⟩
  simp only [List.mem_cons, List.not_mem_nil, or_false] at hn
  obtain ⟨m, hm⟩ := hml
  rcases hn with rfl | rfl | rfl | rfl
  · exact globalNamed_lt htab g hg
  · exact globalNamed_lt hv1 g hg
  · exact globalNamed_lt hv0 g hg
  · exact globalNamed_lt hm g hg

set_option maxRecDepth 100000 in
/-- The wrap of a row that lists these variables: the walk is handed what they hold. -/
theorem lift07 {H : Type} {enc : TypeId × Value → H} {a : Assume} {os : Os} {f : FuncId} {fn : Func} {s : ChangeSpec} {conds : List PathCond} {apart fresh handsOn again : Bool}
    (own : ownKnob Tryz.checked.prog.godebug = none) (started : os.Started) (noInit : Tryz.checked.prog.inits.idxOf? f = none) (hfn : Tryz.checked.prog.funcs[f]? = some fn)
    (witness : ∃ (w : World) (tape : Tape) (i : Input), w.os = os ∧ (w.forCall tape i).Shaped Tryz.checked.prog ∧ i.vars = [] ∧ Input.okWide Tryz.checked.prog (w.forCall tape i) .any w.heap.size f i ∧
      ((s.pre enc Tryz.checked.prog fn conds apart (w.forCall tape i).memory i.args ∧ laidMetH Tryz.prog laid07 (w.forCall tape i).memory) ∧ sizedMet enc Tryz.checked.prog fn (OpenSpec.ofChange s) apart (w.forCall tape i).memory i.args) ∧ a.holds Tryz.checked.prog (lone (Frame.enter Tryz.checked.prog f i.args .normal) [] (w.forCall tape i)))
    (contract : ∀ (W : World) (base : Nat) (args : Array Value) (ds gs : List (DataW H)) (before : List MemPlace),
      (∀ (j : Nat) t v, fn.params[j]? = some t → args[j]? = some v → Value.okWide Tryz.checked.prog W .any base t v) →
      DataW.Whole enc Tryz.checked.prog fn.params.toList s.vars apart W args.toList ds gs before →
      EnvR W.heap.size W →
      Calls Tryz.checked.prog f args W fun e W' => ∃ v, e = .returned v ∧ s.post enc Tryz.checked.prog fn apart fresh handsOn again W args v W') :
    ReturnsInHanded a Tryz.checked os f .any (fun w args => (s.pre enc Tryz.checked.prog fn conds apart w args ∧ laidMetH Tryz.prog laid07 w) ∧ sizedMet enc Tryz.checked.prog fn (OpenSpec.ofChange s) apart w args) (s.post enc Tryz.checked.prog fn apart fresh handsOn again) := by
  refine returnsInHanded_of_calls own started noInit witness ?_
  intro w tape i _ hsh _ hok hpre hholds
  obtain ⟨_, _, _, fn', hfn', _, _, _, _, hval⟩ := hok
  have e : fn' = fn := Option.some.inj (hfn'.symm.trans hfn)
  subst e
  obtain ⟨⟨⟨ds, gs, before, hw, hc⟩, hx⟩, hz⟩ := hpre
  have hw' := DataW.Whole.of_heap (w' := w.forCall tape i) (by rfl) hw
  have hl : laidMet Tryz.prog laid07 (w.forCall tape i) := by
    have h1 := hx
    rw [MakeChecks.laidMetH_plain _ _ _ (by kernel_rfl)] at h1
    exact h1.of_heap (by rfl)
  refine (contract (w.forCall tape i) w.heap.size i.args ds gs before hval hw' (envR_of hl hsh)).mono fun e W' ⟨v, he, hp⟩ => ?_
  subst he
  exact ChangeSpec.post_blind hp

end Go.Proofs.YtblkkcpeodoclaaGreatDoor
