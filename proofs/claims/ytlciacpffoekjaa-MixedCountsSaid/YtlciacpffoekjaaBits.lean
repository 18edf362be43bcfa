/- The contracts of package bits: the vector. -/
import Derived.Test.YtlciacpffoekjaaProg
import Derived.Test.YtlciacpffoekjaaPure
import Derived.Test.YtlciacpffoekjaaMem
import Derived.WalkSpells
import Derived.WalkLawsBesides
import Derived.BigQuiet
import Derived.Deep.LoopGhost
namespace Go.Proofs.Ytlciacpffoekjaa
open Go.RowKit

theorem infoU64 : (Try.prog.info? 113).map (fun i => (i.zero, i.size, i.bytes)) = some (some (.int .u64 0), 1, 8) := by kernel_rfl

/-- The block of a vector, and its words. -/
def VecAt (w : World) (b : Nat) (v : Value) (l : List Bool) : Prop :=
  w.heap[b]? = some (.cells #[v, .int .i64 l.length] 111 (0, 0)) ∧ w.ownsRow 0 113 1 v (words l).length ((words l).map fun x : Nat => Value.int .u64 x)

theorem VecAt.lt {w : World} {b : Nat} {v : Value} {l : List Bool} (h : VecAt w b v l) : b < w.heap.size := lt_of_block h.1

theorem VecAt.apart {w : World} {b : Nat} {v : Value} {l : List Bool} (h : VecAt w b v l) : ∀ k, v.ownBlock = some k → k ≠ b ∧ k < w.heap.size := by
  intro k hk
  obtain ⟨h1, _, h2⟩ := h
  rcases h2 with ⟨rfl, _⟩ | ⟨g, cap, cur, rfl, _, hg, _⟩
  · simp [Value.ownBlock] at hk
  · simp only [Value.ownBlock, Option.some.injEq] at hk
    subst hk
    refine ⟨?_, lt_of_block hg⟩
    rintro rfl
    rw [h1] at hg
    simp at hg

theorem VecAt.keeps {w w' : World} {F : Nat → Prop} {b : Nat} {v : Value} {l : List Bool} (h : VecAt w b v l) (k : Keeps F w w') (hb : ¬ F b) (hv : ∀ k, v.ownBlock = some k → ¬ F k) : VecAt w' b v l :=
  ⟨k.at h.1 hb, k.owns h.2 hv⟩

set_option maxHeartbeats 400000 in
theorem new_any (w : World) :
    Calls Try.prog 34 #[] w fun e w' => e = .returned (.pointer (some ⟨w.heap.size, 0, none⟩)) ∧ w' = w.alloc (.cells #[.slice none 0 0, .int .i64 0] 111) := by
  go_enter Try.func34, Try.ntmps34
  go_wp2
  go_ret
  exact ⟨rfl, rfl⟩

theorem vec_new (w : World) : VecAt (w.alloc (.cells #[.slice none 0 0, .int .i64 0] 111)) w.heap.size (.slice none 0 0) [] :=
  ⟨heap_alloc_new w _, World.ownsRow_nil _ _ _ _⟩

set_option maxHeartbeats 400000 in
theorem len_any (b : Nat) (v : Value) (l : List Bool) (w : World) (h : VecAt w b v l) :
    Calls Try.prog 81 #[.pointer (some ⟨b, 0, none⟩)] w fun e w' => e = .returned (.int .i64 l.length) ∧ w = w' := by
  have h1 : w.cell? ⟨b, 1, none⟩ = some (.int .i64 l.length) := World.cell_of_heap h.1 1
  clear h
  go_enter Try.func81, Try.ntmps81
  go_wp2
  go_ret
  exact ⟨rfl, rfl⟩

set_option maxHeartbeats 400000 in
theorem len_nil (w : World) :
    Calls Try.prog 81 #[.pointer none] w fun e w' => e = .returned (.int .i64 0) ∧ w = w' := by
  go_enter Try.func81, Try.ntmps81
  go_wp2
  go_ret
  exact ⟨rfl, rfl⟩

theorem ret_int {k : IntKind} {a b : Int} (h : a = b) : Ending.returned (.int k a) = .returned (.int k b) := by rw [h]

/-- What At answers. -/
def atZ (l : List Bool) (i : Int) : Int := if 0 ≤ i ∧ i < l.length then (l.getD i.toNat false).toNat else -1

theorem and_one (x : Nat) (hx : x < 18446744073709551616) : wrap64 (bits BinOp.and IntKind.u64 (x : Int) 1) = ((x % 2 : Nat) : Int) := by
  have h := bits_and_u64_nat x 1 hx (by omega)
  rw [show ((1 : Nat) : Int) = 1 from rfl] at h
  rw [h, Nat.and_one_is_mod]
  exact IntWalk.wrap64_in _ ⟨by omega, by omega⟩

set_option maxHeartbeats 400000 in
theorem at_in (b : Nat) (v : Value) (l : List Bool) (i : Nat) (w : World) (h : VecAt w b v l) (hi : i < l.length) (hl : l.length ≤ 1000000000) :
    Calls Try.prog 79 #[.pointer (some ⟨b, 0, none⟩), .int .i64 i] w fun e w' => e = .returned (.int .i64 (l.getD i false).toNat) ∧ w = w' := by
  have hm : i / 64 < (words l).length := by rw [words_length]; omega
  have hml : (words l).length ≤ 1000000000 := by rw [words_length]; omega
  obtain ⟨g, cap, rfl, hnc, hcm, hc, _, _⟩ := owns_form h.2 (by omega)
  have hx := (hc (i / 64) (.int .u64 (wordAt l (i / 64) : Nat)) (by rw [List.getElem?_map, words_get (by rw [words_length] at hm; exact hm)]; rfl)).1
  clear hc
  have h1 : w.cell? ⟨b, 1, none⟩ = some (.int .i64 l.length) := World.cell_of_heap h.1 1
  have h0 : w.cell? ⟨b, 0, none⟩ = some (.slice (some ⟨g, 0, none⟩) (words l).length cap) := World.cell_of_heap h.1 0
  unfold maxLen at hcm
  have H : Hid _ := h
  have hlen := len_any b _ l w h
  clear h
  have hlt := wordAt_lt l (i / 64)
  have hbit := wordAt_bit l i
  generalize wordAt l (i / 64) = x at hx hlt hbit
  have Hbit := Lib.hid hbit
  clear hbit
  generalize (words l).length = m at *
  generalize l.length = n at *
  go_enter Try.func79, Try.ntmps79
  go_wp2_with (go_at_call 81; refine hlen.mono ?_; rintro e w' ⟨rfl, rfl⟩)
  go_ret
  have e1 : (x : Int) / 2 ^ (i % 64) = ((x / 2 ^ (i % 64) : Nat) : Int) := by simp
  have hle : x / 2 ^ (i % 64) ≤ x := Nat.div_le_self _ _
  exact ⟨ret_int (by rw [e1, and_one _ (Nat.lt_of_le_of_lt hle hlt), Hbit.out]), rfl⟩

set_option maxHeartbeats 400000 in
theorem at_out (b : Nat) (v : Value) (l : List Bool) (i : Int) (w : World) (h : VecAt w b v l) (hi : ¬ (0 ≤ i ∧ i < l.length)) :
    Calls Try.prog 79 #[.pointer (some ⟨b, 0, none⟩), .int .i64 i] w fun e w' => e = .returned (.int .i64 (-1)) ∧ w = w' := by
  have hlen := len_any b _ l w h
  clear h
  generalize l.length = n at *
  by_cases h0 : i < 0
  · go_enter Try.func79, Try.ntmps79
    go_wp2_with (go_at_call 81; refine hlen.mono ?_; rintro e w' ⟨rfl, rfl⟩)
    go_ret
    exact ⟨rfl, rfl⟩
  · have h1 : (n : Int) ≤ i := by omega
    go_enter Try.func79, Try.ntmps79
    go_wp2_with (go_at_call 81; refine hlen.mono ?_; rintro e w' ⟨rfl, rfl⟩)
    go_ret
    exact ⟨rfl, rfl⟩

theorem at_any (b : Nat) (v : Value) (l : List Bool) (i : Int) (w : World) (h : VecAt w b v l) (hl : l.length ≤ 1000000000) :
    Calls Try.prog 79 #[.pointer (some ⟨b, 0, none⟩), .int .i64 i] w fun e w' => e = .returned (.int .i64 (atZ l i)) ∧ w = w' := by
  unfold atZ
  split
  · rename_i hi
    obtain ⟨n, rfl⟩ := Int.eq_ofNat_of_zero_le hi.1
    exact at_in b v l n w h (by omega) hl
  · rename_i hi
    exact at_out b v l i w h hi

theorem or_bit (x0 r : Nat) (x : Bool) (hx : x0 < 18446744073709551616) (hr : r < 64) :
    bits BinOp.or IntKind.u64 (x0 : Int) (IntKind.u64.wrap ((x.toNat : Int) * 2 ^ r)) = ((x0 ||| x.toNat * 2 ^ r : Nat) : Int) := by
  have h2 : 2 ^ r ≤ 2 ^ 63 := Nat.pow_le_pow_right (by decide) (by omega)
  have h3 : x.toNat * 2 ^ r < 18446744073709551616 := by cases x <;> simp <;> omega
  have e : ((x.toNat : Int) * 2 ^ r) = ((x.toNat * 2 ^ r : Nat) : Int) := by simp
  rw [e, IntKind.wrap_u64, show (((x.toNat * 2 ^ r : Nat) : Int) % 18446744073709551616) = ((x.toNat * 2 ^ r : Nat) : Int) by omega]
  exact bits_or_u64_nat _ _ hx h3

/-- What 'add' has laid in the end. -/
theorem vec_add_fin {w : World} {b g cap : Nat} {l : List Bool} (x : Bool) (hb : w.heap[b]? = some (.cells #[.slice (some ⟨g, 0, none⟩) (padded l).length cap, .int .i64 l.length] 111 (0, 0)))
    (ho : w.ownsRow 0 113 1 (.slice (some ⟨g, 0, none⟩) (padded l).length cap) (padded l).length ((padded l).map fun x : Nat => Value.int .u64 x)) (hgb : g ≠ b) :
    VecAt (((w.setCell ⟨g, l.length / 64, none⟩ (.int .u64 (bits BinOp.or IntKind.u64 (wordAt l (l.length / 64) : Nat) (IntKind.u64.wrap ((x.toNat : Int) * 2 ^ (l.length % 64)))))).setCell ⟨b, 1, none⟩ (.int .i64 ((l.length : Int) + 1))).drew)
      b (.slice (some ⟨g, 0, none⟩) (padded l).length cap) (l ++ [x]) ∧
    Keeps (fun k => k = b ∨ k = g) w (((w.setCell ⟨g, l.length / 64, none⟩ (.int .u64 (bits BinOp.or IntKind.u64 (wordAt l (l.length / 64) : Nat) (IntKind.u64.wrap ((x.toNat : Int) * 2 ^ (l.length % 64)))))).setCell ⟨b, 1, none⟩ (.int .i64 ((l.length : Int) + 1))).drew) := by
  rw [or_bit _ _ _ (wordAt_lt _ _) (Nat.mod_lt _ (by decide))]
  refine ⟨⟨?_, ?_⟩, (((Keeps.refl _ w).setCell (.inl (.inr rfl)) _).setCell (.inl (.inl rfl)) _).drew⟩
  · show ((w.setCell _ _).setCell _ _).heap[b]? = _
    have h1 : (w.setCell ⟨g, l.length / 64, none⟩ (.int .u64 ((wordAt l (l.length / 64) ||| x.toNat * 2 ^ (l.length % 64) : Nat) : Int))).heap[b]? = _ := (Below.heap_setCell w _ _ b (by simpa using hgb.symm)).trans hb
    rw [heap_setCell_same h1]
    simp
  · have h2 := owns_set ho (l.length / 64) (.int .u64 ((wordAt l (l.length / 64) ||| x.toNat * 2 ^ (l.length % 64) : Nat) : Int))
    have h3 := ownsRow_setCell_other h2 (a := ⟨b, 1, none⟩) (by simp [Value.ownBlock]; exact hgb) (.int .i64 ((l.length : Int) + 1))
    have e : (words (l ++ [x])).length = (padded l).length := by rw [words_snoc]; simp
    rw [e, words_snoc, List.map_set]
    exact h3

set_option maxRecDepth 100000 in
set_option maxHeartbeats 400000 in
theorem add_any (b : Nat) (v : Value) (l : List Bool) (x : Bool) (w : World) (h : VecAt w b v l) (hl : l.length < 1000000000) :
    Calls Try.prog 84 #[.pointer (some ⟨b, 0, none⟩), .int .u64 x.toNat] w fun e w' => e = .returned (.tuple #[]) ∧ ∃ v', VecAt w' b v' (l ++ [x]) ∧ Keeps (fun k => k = b ∨ v.ownBlock = some k) w w' ∧ (v'.ownBlock = v.ownBlock ∨ ∃ k, v'.ownBlock = some k ∧ w.heap.size ≤ k) := by
  have h1 : w.cell? ⟨b, 1, none⟩ = some (.int .i64 l.length) := World.cell_of_heap h.1 1
  have h0 : w.cell? ⟨b, 0, none⟩ = some v := World.cell_of_heap h.1 0
  have f1 := World.free_of_heap h.1 1
  have f0 := World.free_of_heap h.1 0
  by_cases hn : l.length % 64 = 0
  · have hn' : (((l.length : Int) % 64) == 0) = true := by simp; omega
    have hown := h.2
    have hml : (words l).length = l.length / 64 := by rw [words_length]; omega
    have hap := h.apart
    have hb := h.1
    have hpad : padded l = words l ++ [0] := by unfold padded; rw [if_pos hn]
    have hpg := padded_get l
    have hpl := padded_length l
    obtain ⟨i, hi, hz0, hz1, hz2⟩ := info_parts infoU64
    clear h
    have Hb := Lib.hid hb
    clear hb
    have Hpad := Lib.hid (And.intro hpad (And.intro hpg (And.intro hpl hml)))
    clear hpad hpg hpl hml
    have Hn := Lib.hid hn
    clear hn
    go_enter Try.func84, Try.ntmps84
    go_wp2_with (at_builtin; refine wpList_append_lies _ rfl _ _ _ rfl 0 113 i (.int .u64 0) 1 8 Try.underlying109 hi hz0 hz1 hz2 rfl (by decide) v (words l).length _ rfl (hown.alloc _) ⟨w.heap.size, 0, none⟩ 1 1 [.int .u64 0] rfl rfl (cell_one_new _ _ _) ?c2 (by decide) ?c3 ?c4 ?c5 (w.heap.size + 1) (by simp) ?_)
    case c2 => intro u hu; simp at hu; subst hu; rfl
    case c3 => have := Hpad.out.2.2.2; unfold maxLen; omega
    case c4 => have := Hpad.out.2.2.2; omega
    case c5 => simp
    intro g cap w1 hown1 hgrow hat hlt
    obtain ⟨hpad, hpg, hpl, hml⟩ := Hpad.out
    have hb := Hb.out
    have hn := Hn.out
    have hbl : b < w.heap.size := lt_of_block hb
    have hgb : g ≠ b := by
      rcases hat with h | h
      · exact (hap g h).1
      · omega
    have hbg := hgb.symm
    have hb1 : w1.heap[b]? = some (.cells #[v, .int .i64 l.length] 111 (0, 0)) := by
      rw [hgrow.block b (by simp; omega) (fun e => (hap b e.symm).1 rfl), Below.heap_alloc _ _ _ hbl]
      exact hb
    have hlen : (padded l).length = (words l).length + 1 := by rw [hpad]; simp
    have hmap : (words l).map (fun x : Nat => Value.int .u64 x) ++ [Value.int .u64 0] = (padded l).map (fun x : Nat => Value.int .u64 x) := by rw [hpad]; simp
    rw [hmap, ← hlen] at hown1
    have k1 : Keeps (fun k => k = b ∨ v.ownBlock = some k) w w1 := ((Keeps.refl _ w).alloc _).grown hgrow (fun k hk => .inl (.inr hk))
    have hb2 : (w1.setCell ⟨b, 0, none⟩ (.slice (some ⟨g, 0, none⟩) (padded l).length cap)).heap[b]? = some (.cells #[.slice (some ⟨g, 0, none⟩) (padded l).length cap, .int .i64 l.length] 111 (0, 0)) := by
      rw [heap_setCell_same hb1]; simp
    have ho2 := ownsRow_setCell_other hown1 (a := ⟨b, 0, none⟩) (by simp [Value.ownBlock]; exact hgb) (.slice (some ⟨g, 0, none⟩) (padded l).length cap)
    have k2 := k1.setCell (p := ⟨b, 0, none⟩) (.inl (.inl rfl)) (.slice (some ⟨g, 0, none⟩) (padded l).length cap)
    have hfin := vec_add_fin x hb2 ho2 hgb
    have k3 := k2.trans hfin.2 (by
      rintro k hk (rfl | rfl)
      · exact .inl rfl
      · rcases hat with h | h
        · exact .inr h
        · omega)
    have hv : (Value.slice (some ⟨g, 0, none⟩) (padded l).length cap).ownBlock = v.ownBlock ∨ ∃ k, (Value.slice (some ⟨g, 0, none⟩) (padded l).length cap).ownBlock = some k ∧ w.heap.size ≤ k := by
      rcases hat with h | h
      · exact .inl h.symm
      · exact .inr ⟨g, rfl, by omega⟩
    have Hfin := Lib.hid (And.intro hfin.1 (And.intro k3 hv))
    clear hfin k3 hv ho2
    obtain ⟨g', cap', hg', hnc, hcm, hc, _, _⟩ := owns_form hown1 (by omega)
    simp only [Value.slice.injEq, Option.some.injEq, Addr.mk.injEq] at hg'
    obtain ⟨⟨rfl, _⟩, _, rfl⟩ := hg'
    obtain ⟨hx, hfx⟩ := hc (l.length / 64) (.int .u64 (wordAt l (l.length / 64) : Nat)) (by rw [List.getElem?_map, hpg]; rfl)
    have c0 := World.cell_of_heap hb1 0
    have c1 := World.cell_of_heap hb1 1
    have d0 := World.free_of_heap hb1 0
    have d1 := World.free_of_heap hb1 1
    simp only [List.getElem?_toArray, List.getElem?_cons_zero, List.getElem?_cons_succ] at c0 c1
    rw [← hlen]
    have hlt2 : l.length / 64 < (padded l).length := by omega
    clear hpl hc k1 k2 hb2 hb1 hgrow hat hown1 hmap hpad hpg hn hb hap hown hi hz0 hz1 hz2 hlen hml
    unfold maxLen at hcm
    have hxl := wordAt_lt l (l.length / 64)
    generalize wordAt l (l.length / 64) = x0 at *
    generalize (padded l).length = m at *
    generalize l.length = n at *
    go_wp2_with fail
    go_region
    all_goals
      go_wp2
      go_end0
      exact ⟨rfl, _, Hfin.out⟩
  · have hn' : (((l.length : Int) % 64) == 0) = false := by simp; omega
    have hm : l.length / 64 < (words l).length := by rw [words_length]; omega
    have hml : (words l).length ≤ 1000000000 := by rw [words_length]; omega
    obtain ⟨g, cap, rfl, hnc, hcm, hc, _, _⟩ := owns_form h.2 (by omega)
    have hx := hc (l.length / 64) (.int .u64 (wordAt l (l.length / 64) : Nat)) (by rw [List.getElem?_map, words_get (by rw [words_length] at hm; exact hm)]; rfl)
    obtain ⟨hx, hfx⟩ := hx
    clear hc
    unfold maxLen at hcm
    have hgb := (h.apart g rfl).1
    have hbg := hgb.symm
    have hpad : padded l = words l := by unfold padded; rw [if_neg hn]
    have hfin := vec_add_fin (w := w) (b := b) (g := g) (cap := cap) (l := l) x (by rw [hpad]; exact h.1) (by rw [hpad]; exact h.2) hgb
    rw [hpad] at hfin
    clear hpad h
    have Hfin := Lib.hid hfin
    clear hfin
    generalize wordAt l (l.length / 64) = x0 at *
    generalize l.length = n at *
    generalize (words l).length = m at *
    go_enter Try.func84, Try.ntmps84
    go_wp2_with fail
    go_region
    all_goals
      go_wp2
      go_end0
      exact ⟨rfl, _, Hfin.out.1, Hfin.out.2.mono (by rintro k _ (rfl | rfl); exact .inl rfl; exact .inr rfl), .inl rfl⟩

theorem add_one (b : Nat) (v : Value) (l : List Bool) (w : World) (h : VecAt w b v l) (hl : l.length < 1000000000) :
    Calls Try.prog 84 #[.pointer (some ⟨b, 0, none⟩), .int .u64 1] w fun e w' => e = .returned (.tuple #[]) ∧ ∃ v', VecAt w' b v' (l ++ [true]) ∧ Keeps (fun k => k = b ∨ v.ownBlock = some k) w w' ∧ (v'.ownBlock = v.ownBlock ∨ ∃ k, v'.ownBlock = some k ∧ w.heap.size ≤ k) :=
  add_any b v l true w h hl
theorem add_zero (b : Nat) (v : Value) (l : List Bool) (w : World) (h : VecAt w b v l) (hl : l.length < 1000000000) :
    Calls Try.prog 84 #[.pointer (some ⟨b, 0, none⟩), .int .u64 0] w fun e w' => e = .returned (.tuple #[]) ∧ ∃ v', VecAt w' b v' (l ++ [false]) ∧ Keeps (fun k => k = b ∨ v.ownBlock = some k) w w' ∧ (v'.ownBlock = v.ownBlock ∨ ∃ k, v'.ownBlock = some k ∧ w.heap.size ≤ k) :=
  add_any b v l false w h hl

end Go.Proofs.Ytlciacpffoekjaa
