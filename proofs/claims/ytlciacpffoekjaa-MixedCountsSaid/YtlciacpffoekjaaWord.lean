/- The contracts of package mixed: words. -/
import Derived.Test.YtlciacpffoekjaaLaw03a
namespace Go.Proofs.Ytlciacpffoekjaa
open Go.RowKit

theorem infoU8 : (Try.prog.info? 5).map (fun i => (i.zero, i.size, i.bytes)) = some (some (.int .u8 0), 1, 1) := by kernel_rfl

def kcells (ks : List Nat) : List Value := ks.map fun k : Nat => Value.int .u8 k

/-- The block of a word, and its letters. -/
def WordAt (w : World) (b : Nat) (v : Value) (ks : List Nat) : Prop :=
  w.heap[b]? = some (.cells #[v] 131 (0, 0)) ∧ w.ownsRow 0 5 1 v ks.length (kcells ks)

theorem WordAt.lt {w : World} {b : Nat} {v : Value} {ks : List Nat} (h : WordAt w b v ks) : b < w.heap.size := lt_of_block h.1

theorem WordAt.apart {w : World} {b : Nat} {v : Value} {ks : List Nat} (h : WordAt w b v ks) : ∀ k, v.ownBlock = some k → k ≠ b ∧ k < w.heap.size := by
  intro k hk
  obtain ⟨h1, _, h2⟩ := h
  rcases h2 with ⟨rfl, _⟩ | ⟨g, cap, cur, rfl, _, hg, _⟩
  · simp [Value.ownBlock] at hk
  · simp only [Value.ownBlock, Option.some.injEq] at hk
    subst hk
    refine ⟨?_, lt_of_block hg⟩
    rintro rfl
    rw [h1] at hg
    simp at hg

theorem WordAt.keeps {w w' : World} {F : Nat → Prop} {b : Nat} {v : Value} {ks : List Nat} (h : WordAt w b v ks) (k : Keeps F w w') (hb : ¬ F b) (hv : ∀ k, v.ownBlock = some k → ¬ F k) : WordAt w' b v ks :=
  ⟨k.at h.1 hb, k.owns h.2 hv⟩

theorem WordAt.form {w : World} {b : Nat} {v : Value} {ks : List Nat} (h : WordAt w b v ks) : ∃ a cap, v = .slice a ks.length cap ∧ ks.length ≤ cap ∧ cap ≤ 9223372036854775807 ∧ ∀ j k, ks[j]? = some k → ∃ g, a = some ⟨g, 0, none⟩ ∧ w.cell? ⟨g, j, none⟩ = some (.int .u8 (k : Nat)) := by
  by_cases h0 : 0 < ks.length
  · obtain ⟨g, cap, rfl, h1, h2, hc, _, _⟩ := owns_form h.2 h0
    refine ⟨_, cap, rfl, h1, by unfold maxLen at h2; omega, fun j k hj => ⟨g, rfl, ?_⟩⟩
    exact (hc j (.int .u8 (k : Nat)) (by rw [kcells, List.getElem?_map, hj]; rfl)).1
  · have hz : ks = [] := List.eq_nil_of_length_eq_zero (by omega)
    subst hz
    obtain ⟨_, _, h2⟩ := h
    rcases h2 with ⟨rfl, _⟩ | ⟨g, cap, cur, rfl, _, hg, hnc, hcm, _⟩
    · exact ⟨none, 0, rfl, by simp, by decide, fun j k hj => by simp at hj⟩
    · exact ⟨_, cap, rfl, by simp, by unfold maxLen at hcm; omega, fun j k hj => by simp at hj⟩

theorem word_new (w : World) : WordAt (w.alloc (.cells #[.slice none 0 0] 131)) w.heap.size (.slice none 0 0) [] :=
  ⟨heap_alloc_new w _, World.ownsRow_nil _ _ _ _⟩

theorem wordNew_any (w : World) :
    Calls Try.prog 68 #[] w fun e w' => e = .returned (.pointer (some ⟨w.heap.size, 0, none⟩)) ∧ w' = w.alloc (.cells #[.slice none 0 0] 131) := by
  go_enter Try.func68, Try.ntmps68
  go_wp2
  go_ret
  exact ⟨rfl, rfl⟩

theorem wordLen_any (b : Nat) (v : Value) (ks : List Nat) (w : World) (h : WordAt w b v ks) :
    Calls Try.prog 93 #[.pointer (some ⟨b, 0, none⟩)] w fun e w' => e = .returned (.int .i64 ks.length) ∧ w = w' := by
  have h0 : w.cell? ⟨b, 0, none⟩ = some v := World.cell_of_heap h.1 0
  obtain ⟨a, cap, rfl, h1, h2, _⟩ := h.form
  clear h
  go_enter Try.func93, Try.ntmps93
  go_wp2
  go_ret
  exact ⟨rfl, rfl⟩

theorem wordLen_nil (w : World) :
    Calls Try.prog 93 #[.pointer none] w fun e w' => e = .returned (.int .i64 0) ∧ w = w' := by
  go_enter Try.func93, Try.ntmps93
  go_wp2
  go_ret
  exact ⟨rfl, rfl⟩

set_option maxHeartbeats 400000 in
theorem wordAt_in (b : Nat) (v : Value) (ks : List Nat) (i k : Nat) (w : World) (h : WordAt w b v ks) (hi : ks[i]? = some k) (hk : k < 256) :
    Calls Try.prog 94 #[.pointer (some ⟨b, 0, none⟩), .int .i64 i] w fun e w' => e = .returned (.int .i64 k) ∧ w = w' := by
  have hlt : i < ks.length := by
    rcases Nat.lt_or_ge i ks.length with h' | h'
    · exact h'
    · rw [List.getElem?_eq_none h'] at hi; cases hi
  have h0 : w.cell? ⟨b, 0, none⟩ = some v := World.cell_of_heap h.1 0
  have hL := wordLen_any b v ks w h
  obtain ⟨a, cap, rfl, h1, h2, hc⟩ := h.form
  obtain ⟨g, rfl, hc⟩ := hc i k hi
  clear h hi
  go_enter Try.func94, Try.ntmps94
  go_wp2_with (go_at_call 93; refine hL.mono ?_; rintro e w' ⟨rfl, rfl⟩)
  go_ret
  exact ⟨rfl, rfl⟩

set_option maxHeartbeats 400000 in
theorem wordAt_out (b : Nat) (v : Value) (ks : List Nat) (i : Int) (w : World) (h : WordAt w b v ks) (hi : ¬ (0 ≤ i ∧ i < ks.length)) :
    Calls Try.prog 94 #[.pointer (some ⟨b, 0, none⟩), .int .i64 i] w fun e w' => e = .returned (.int .i64 (-1)) ∧ w = w' := by
  have hL := wordLen_any b v ks w h
  clear h
  have hc : i < 0 ∨ (0 ≤ i ∧ (ks.length : Int) ≤ i) := by omega
  clear hi
  rcases hc with h1 | ⟨h1, h2⟩
  all_goals
    go_enter Try.func94, Try.ntmps94
    go_wp2_with (go_at_call 93; refine hL.mono ?_; rintro e w' ⟨rfl, rfl⟩)
    go_ret
    exact ⟨rfl, rfl⟩

theorem wordAt_nil (i : Int) (w : World) :
    Calls Try.prog 94 #[.pointer none, .int .i64 i] w fun e w' => e = .returned (.int .i64 (-1)) ∧ w = w' := by
  by_cases h1 : i < 0
  · go_enter Try.func94, Try.ntmps94
    go_wp2_with (go_at_call 93; refine (wordLen_nil _).mono ?_; rintro e w' ⟨rfl, rfl⟩)
    go_ret
    exact ⟨rfl, rfl⟩
  · have h2 : 0 ≤ i := by omega
    go_enter Try.func94, Try.ntmps94
    go_wp2_with (go_at_call 93; refine (wordLen_nil _).mono ?_; rintro e w' ⟨rfl, rfl⟩)
    go_ret
    exact ⟨rfl, rfl⟩

/-- What adding letters leaves of a word. -/
def WordGrown (w : World) (b : Nat) (v : Value) (ks' : List Nat) (w' : World) : Prop :=
  ∃ v', WordAt w' b v' ks' ∧ Keeps (fun k => k = b ∨ v.ownBlock = some k) w w' ∧ (v'.ownBlock = v.ownBlock ∨ ∃ k, v'.ownBlock = some k ∧ w.heap.size ≤ k)

theorem WordGrown.trans {w w1 w2 : World} {b : Nat} {v v1 : Value} {ks' : List Nat} (hk : Keeps (fun k => k = b ∨ v.ownBlock = some k) w w1)
    (hv : v1.ownBlock = v.ownBlock ∨ ∃ k, v1.ownBlock = some k ∧ w.heap.size ≤ k) (h : WordGrown w1 b v1 ks' w2) : WordGrown w b v ks' w2 := by
  obtain ⟨v2, h1, h2, h3⟩ := h
  refine ⟨v2, h1, hk.trans h2 ?_, ?_⟩
  · rintro x hx (rfl | hx2)
    · exact .inl rfl
    · rcases hv with hv | ⟨k, hv, hk⟩
      · exact .inr (by rw [← hv]; exact hx2)
      · rw [hv] at hx2; cases hx2; omega
  · rcases h3 with h3 | ⟨k, h3, hk3⟩
    · rw [h3]; exact hv
    · exact .inr ⟨k, h3, Nat.le_trans hk.size hk3⟩

theorem WordAt.grown {w : World} {b : Nat} {v : Value} {ks : List Nat} (h : WordAt w b v ks) : WordGrown w b v ks w := ⟨v, h, Keeps.refl _ _, .inl rfl⟩

/-- One more letter, as 'w.l = append(w.l, k)' lays it. -/
theorem WordAt.push {wr w1 : World} {b : Nat} {v : Value} {ks : List Nat} {o : Obj} {k g cap : Nat} (h : WordAt wr b v ks)
    (hown : w1.ownsRow 0 5 1 (.slice (some ⟨g, 0, none⟩) (ks.length + 1) cap) (ks.length + 1) (kcells ks ++ [.int .u8 k])) (hgrow : (wr.alloc o).grownBy w1 v.ownBlock) (hat : v.ownBlock = some g ∨ g = wr.heap.size + 1) :
    WordGrown wr b v (ks ++ [k]) (w1.setCell ⟨b, 0, none⟩ (.slice (some ⟨g, 0, none⟩) (ks.length + 1) cap)) ∧ w1.heap[b]? = some (.cells #[v] 131 (0, 0)) := by
  have hb := h.lt
  have hap := h.apart
  have k1 : Keeps (fun k => v.ownBlock = some k) wr w1 := ((Keeps.refl _ wr).alloc _).grown hgrow (fun k hk => .inl hk)
  have hb1 := k1.at h.1 (fun e => (hap b e).1 rfl)
  have hgb : g ≠ b := by
    rcases hat with h | h
    · exact (hap g h).1
    · omega
  refine ⟨⟨_, ⟨heap_setCell_same hb1 0 _, ?_⟩, (k1.mono (fun x _ h => .inr h)).setCell (.inl (.inl rfl)) _, ?_⟩, hb1⟩
  · have := ownsRow_setCell_other hown (a := ⟨b, 0, none⟩) (by simp [Value.ownBlock]; exact hgb) (.slice (some ⟨g, 0, none⟩) (ks.length + 1) cap)
    simpa [kcells] using this
  · rcases hat with h | h
    · exact .inl h.symm
    · exact .inr ⟨g, rfl, by omega⟩

/-- Are they all kinds? -/
def Kinds4 (zs : List Int) : Prop := ∀ z ∈ zs, 0 ≤ z ∧ z ≤ 3

theorem right_any (z : Int) (t : Bool) (w : World) (ht : t = decide (0 ≤ z ∧ z ≤ 3)) :
    Calls Try.prog 95 #[.int .i64 z] w fun e w' => e = .returned (.bool t) ∧ w = w' := by
  subst ht
  by_cases h1 : 0 ≤ z
  · by_cases h2 : z ≤ 3
    · have h3 : decide (0 ≤ z ∧ z ≤ 3) = true := decide_eq_true ⟨h1, h2⟩
      rw [h3]
      clear h3
      go_enter Try.func95, Try.ntmps95
      go_wp2
      go_ret
      exact ⟨rfl, rfl⟩
    · have h3 : decide (0 ≤ z ∧ z ≤ 3) = false := decide_eq_false (fun h => h2 h.2)
      rw [h3]
      have h4 : decide (z ≤ 3) = false := decide_eq_false h2
      clear h3 h2
      go_enter Try.func95, Try.ntmps95
      go_wp2
      go_ret
      exact ⟨rfl, rfl⟩
  · have h3 : decide (0 ≤ z ∧ z ≤ 3) = false := decide_eq_false (fun h => h1 h.1)
    rw [h3]
    have h4 : z < 0 := by omega
    clear h3 h1
    go_enter Try.func95, Try.ntmps95
    go_wp2
    go_ret
    exact ⟨rfl, rfl⟩

theorem notRight_any (z : Int) (t : Bool) (w : World) (ht : t = decide (0 ≤ z ∧ z ≤ 3)) :
    Calls Try.prog 100 #[.int .i64 z] w fun e w' => e = .returned (.bool (!t)) ∧ w = w' := by
  have hnot : ∀ (x : Bool) (w : World), (Op.unary .not (.bool x)).run Try.prog w = .ok (.bool (!x)) w := fun _ _ => rfl
  have hR := right_any z t w ht
  clear ht
  go_enter Try.func100, Try.ntmps100
  go_wp2_with (go_at_call 95; refine hR.mono ?_; rintro e w' ⟨rfl, rfl⟩)
  go_ret
  exact ⟨rfl, rfl⟩

set_option maxRecDepth 100000 in
set_option maxHeartbeats 1000000 in
/-- All of them are kinds: the search finds none. -/
theorem indexFunc_none (sv : Value) (zs : List Int) (w : World) (hs : Sl .i64 w sv zs) (hg : Kinds4 zs) :
    Calls Try.prog 116 #[sv, .func (.func 100) #[] #[]] w fun e w' => e = .returned (.int .i64 (-1)) ∧ w = w' := by
  obtain ⟨a, cap, rfl, hnc, hcm, _, hc⟩ := hs
  go_enter Try.func116, Try.ntmps116
  go_wp2_with fail
  go_loop [8] (fun i => ∃ k : Nat, k ≤ zs.length ∧ i = .int .i64 k) (fun i => zs.length - (intOf i).toNat)
  case atStart => exact ⟨0, Nat.zero_le _, rfl⟩
  case round =>
    obtain ⟨k, hk, rfl⟩ := hrel
    by_cases hlt : k < zs.length
    · have hz := List.getElem?_eq_getElem (l := zs) (i := k) hlt
      obtain ⟨g, off, rfl, hcell⟩ := hc k _ hz
      have hgz := hg _ (List.mem_of_getElem? hz)
      have hR := notRight_any zs[k] true w (decide_eq_true hgz).symm
      clear hc hz hg hgz
      generalize zs[k] = z at *
      go_wp2_with (go_at_call 100; refine hR.mono ?_; rintro e w' ⟨rfl, rfl⟩)
      go_round
      case rel => exact ⟨k + 1, by omega, by go_num⟩
      case measure => simp [intOf]; omega
    · obtain rfl : k = zs.length := by omega
      clear hc hg
      go_wp2
      go_ret
      exact ⟨rfl, rfl⟩

/-- It finds one. -/
def SomeNat (w : World) (e : Ending) (w' : World) : Prop := ∃ n : Nat, n ≤ 9223372036854775807 ∧ e = .returned (.int .i64 n) ∧ w = w'

set_option maxRecDepth 100000 in
set_option maxHeartbeats 1000000 in
/-- One of them is none: the search finds one. -/
theorem indexFunc_some (sv : Value) (zs : List Int) (w : World) (hs : Sl .i64 w sv zs) (hg : ¬ Kinds4 zs) :
    Calls Try.prog 116 #[sv, .func (.func 100) #[] #[]] w (SomeNat w) := by
  obtain ⟨a, cap, rfl, hnc, hcm, _, hc⟩ := hs
  go_enter Try.func116, Try.ntmps116
  go_wp2_with fail
  go_loop [8] (fun i => ∃ k : Nat, k ≤ zs.length ∧ i = .int .i64 k ∧ ∀ j z, j < k → zs[j]? = some z → 0 ≤ z ∧ z ≤ 3) (fun i => zs.length - (intOf i).toNat)
  case atStart => exact ⟨0, Nat.zero_le _, rfl, fun j z hj _ => by omega⟩
  case round =>
    obtain ⟨k, hk, rfl, hall⟩ := hrel
    by_cases hlt : k < zs.length
    · have hz := List.getElem?_eq_getElem (l := zs) (i := k) hlt
      obtain ⟨g, off, rfl, hcell⟩ := hc k _ hz
      by_cases hgz : 0 ≤ zs[k] ∧ zs[k] ≤ 3
      · have hR := notRight_any zs[k] true w (decide_eq_true hgz).symm
        have HA := Lib.hid (And.intro hall (And.intro hz hgz))
        clear hc hz hg hgz hall
        generalize zs[k] = z at *
        go_wp2_with (go_at_call 100; refine hR.mono ?_; rintro e w' ⟨rfl, rfl⟩)
        go_round
        case rel =>
          refine ⟨k + 1, by omega, by go_num, fun j y hj hy => ?_⟩
          by_cases hjk : j = k
          · subst hjk
            rw [HA.out.2.1] at hy
            simp only [Option.some.injEq] at hy
            rw [← hy]; exact HA.out.2.2
          · exact HA.out.1 j y (by omega) hy
        case measure => simp [intOf]; omega
      · have hR := notRight_any zs[k] false w (decide_eq_false hgz).symm
        clear hc hz hg hgz hall
        generalize zs[k] = z at *
        go_wp2_with (go_at_call 100; refine hR.mono ?_; rintro e w' ⟨rfl, rfl⟩)
        go_ret
        exact ⟨k, by omega, rfl, rfl⟩
    · obtain rfl : k = zs.length := by omega
      exact absurd (fun z hz => by
        obtain ⟨j, hj, rfl⟩ := List.mem_iff_getElem.1 hz
        exact hall j _ hj (List.getElem?_eq_getElem hj)) hg

theorem containsFunc_none (sv : Value) (zs : List Int) (w : World) (hs : Sl .i64 w sv zs) (hg : Kinds4 zs) :
    Calls Try.prog 99 #[sv, .func (.func 100) #[] #[]] w fun e w' => e = .returned (.bool false) ∧ w = w' := by
  have hI := indexFunc_none sv zs w hs hg
  clear hs hg
  go_enter Try.func99, Try.ntmps99
  go_wp2_with (go_at_call 116; refine hI.mono ?_; rintro e w' ⟨rfl, rfl⟩)
  go_ret
  exact ⟨rfl, rfl⟩

theorem containsFunc_some (sv : Value) (zs : List Int) (w : World) (hs : Sl .i64 w sv zs) (hg : ¬ Kinds4 zs) :
    Calls Try.prog 99 #[sv, .func (.func 100) #[] #[]] w fun e w' => e = .returned (.bool true) ∧ w = w' := by
  have hI := indexFunc_some sv zs w hs hg
  clear hs hg
  go_enter Try.func99, Try.ntmps99
  go_wp2_with (go_at_call 116; refine hI.mono ?_; rintro e w' ⟨n, hn, rfl, rfl⟩)
  go_ret
  exact ⟨rfl, rfl⟩

theorem wordAdd_nil (sv : Value) (w : World) :
    Calls Try.prog 58 #[.pointer none, sv] w fun e w' => e = .returned (.int .i64 2) ∧ w = w' := by
  go_enter Try.func58, Try.ntmps58
  go_wp2
  go_ret
  exact ⟨rfl, rfl⟩

theorem wordAdd_bad (b : Nat) (sv : Value) (zs : List Int) (w : World) (hs : Sl .i64 w sv zs) (hg : ¬ Kinds4 zs) :
    Calls Try.prog 58 #[.pointer (some ⟨b, 0, none⟩), sv] w fun e w' => e = .returned (.int .i64 1) ∧ w = w' := by
  have hC := containsFunc_some sv zs w hs hg
  clear hs hg
  go_enter Try.func58, Try.ntmps58
  go_wp2_with (go_at_call 99; refine hC.mono ?_; rintro e w' ⟨rfl, rfl⟩)
  go_ret
  exact ⟨rfl, rfl⟩

/-- Numbers as letters. -/
def toKs (zs : List Int) : List Nat := zs.map Int.toNat

set_option maxRecDepth 100000 in
set_option maxHeartbeats 2000000 in
theorem wordAdd_good (b : Nat) (v : Value) (ks : List Nat) (sv : Value) (zs : List Int) (w : World) (h : WordAt w b v ks) (hs : Sl .i64 w sv zs) (hg : Kinds4 zs)
    (hd : ∀ k, sv.ownBlock = some k → k ≠ b ∧ v.ownBlock ≠ some k) (hl : ks.length + zs.length < 1000000000) :
    Calls Try.prog 58 #[.pointer (some ⟨b, 0, none⟩), sv] w fun e w' => e = .returned (.int .i64 0) ∧ WordGrown w b v (ks ++ toKs zs) w' := by
  have hC := containsFunc_none sv zs w hs hg
  obtain ⟨a, cap, rfl, hnc, hcm, _, hc⟩ := hs
  obtain ⟨i, hi, hz0, hz1, hz2⟩ := info_parts infoU8
  go_enter Try.func58, Try.ntmps58
  go_wp2_with (go_at_call 99; refine hC.mono ?_; rintro e w' ⟨rfl, rfl⟩)
  clear hC
  go_loopw [15] (fun i wr => ∃ k : Nat, k ≤ zs.length ∧ i = .int .i64 k ∧ WordGrown w b v (ks ++ toKs (zs.take k)) wr) (fun i _ => zs.length - (intOf i).toNat)
  case atStart => exact ⟨0, Nat.zero_le _, rfl, by simpa [toKs] using h.grown⟩
  case round =>
    obtain ⟨k, hk, rfl, hgr⟩ := hrel
    by_cases hlt : k < zs.length
    · obtain ⟨z, hz⟩ : ∃ z, zs[k]? = some z := ⟨_, List.getElem?_eq_getElem hlt⟩
      obtain ⟨g, off, rfl, hcell⟩ := hc k z hz
      obtain ⟨v1, hv1, hk1, hf1⟩ := hgr
      have hcell1 : wr.cell? ⟨g, off + k, none⟩ = some (.int .i64 z) := by
        rw [World.cell?_of_block (w := w) (hk1.block g (World.block_lt_of_cell? _ _ hcell) (by rintro (h | h); exact (hd g rfl).1 h; exact (hd g rfl).2 h))]
        exact hcell
      have hgz := hg z (List.mem_of_getElem? hz)
      obtain ⟨n, rfl⟩ := Int.eq_ofNat_of_zero_le hgz.1
      have hn : n ≤ 3 := by omega
      have hts : ks ++ toKs (zs.take (k + 1)) = (ks ++ toKs (zs.take k)) ++ [n] := by
        rw [List.take_succ_eq_append_getElem hlt]
        rw [List.getElem?_eq_getElem hlt] at hz
        simp only [Option.some.injEq] at hz
        simp [toKs, hz]
      have HS := Lib.hid hts
      have hlen : (ks ++ toKs (zs.take k)).length < 1000000000 := by simp [toKs]; omega
      have hap := hv1.apart
      have hown := hv1.2
      have hb1 := hv1.1
      have c0 : wr.cell? ⟨b, 0, none⟩ = some v1 := World.cell_of_heap hb1 0
      have HV := Lib.hid hv1
      clear hts hc hz hcell h hg hgz hv1
      generalize ks ++ toKs (zs.take k) = L at *
      have HB := Lib.hid hb1
      clear hb1
      go_wp2_with (at_builtin; refine wpList_append_lies _ rfl _ _ _ rfl 0 5 i (.int .u8 0) 1 1 Try.underlying22 hi hz0 hz1 hz2 rfl (by decide) v1 L.length _ rfl (hown.alloc _) ⟨wr.heap.size, 0, none⟩ 1 1 [.int .u8 (n : Nat)] rfl rfl (cell_one_new _ _ _) ?c2 (by decide) ?c3 ?c4 ?c5 (wr.heap.size + 1) (by simp) ?_)
      case c2 => intro u hu; simp at hu; subst hu; rfl
      case c3 => unfold maxLen; omega
      case c4 => omega
      case c5 => simp
      intro g2 cap2 w1 hown1 hgrow hat hgl
      have hP := HV.out.push hown1 hgrow hat
      have d0 : w1.cell? ⟨b, 0, none⟩ = some v1 := World.cell_of_heap hP.2 0
      have f0 : w1.frozen? ⟨b, 0, none⟩ = false := World.free_of_heap hP.2 0
      have hW := WordGrown.trans hk1 hf1 hP.1
      rw [← HS.out] at hW
      have HW := Lib.hid hW
      clear hP hW hown1 hgrow hat c0 hown
      go_wp2
      go_roundw
      case rel => exact ⟨k + 1, by omega, by go_num, HW.out⟩
      case measure => simp [intOf]; omega
    · obtain rfl : k = zs.length := by omega
      rw [List.take_of_length_le (Nat.le_refl _)] at hgr
      have HG := Lib.hid hgr
      clear hgr hg hc
      go_wp2
      go_ret
      exact ⟨rfl, HG.out⟩

end Go.Proofs.Ytlciacpffoekjaa
