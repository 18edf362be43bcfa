/- The contracts of package rank: the questions. -/
import Derived.Test.YtlciacpffoekjaaRank
namespace Go.Proofs.Ytlciacpffoekjaa
open Go.RowKit

/-- A footprint, with all blocks that are new. -/
def grow (F : Nat → Prop) (w w' : World) : Nat → Prop := fun k => F k ∨ (w.heap.size ≤ k ∧ k < w'.heap.size)

theorem makeEnter (b : Nat) (W : World) : (callFunc 76 #[.pointer (some ⟨b, 0, none⟩)]).run Try.prog W = .ok (.enter 76 #[.pointer (some ⟨b, 0, none⟩)]) W := by
  go_simp

theorem idxDo_any (b : Nat) (l : List Bool) (done : Bool) (asked : Nat) (F : Nat → Prop) (w : World) (h : IdxAt w b l done asked F) :
    Calls Try.prog 75 #[.pointer (some ⟨b, 1, none⟩), .func (.func 76) #[.pointer (some ⟨b, 0, none⟩)] #[]] w fun e w' => e = .returned (.tuple #[]) ∧ IdxAt w' b l true asked (grow F w w') ∧ Keeps F w w' := by
  obtain ⟨⟨bv, v, av, hb, hv, hd, Fb, Fbv, Fv, Fa⟩, hle, hold⟩ := h
  cases done with
  | true =>
    have c1 : w.cell? ⟨b, 1, none⟩ = some (.int .u32 1) := World.cell_of_heap hb 1
    refine (do_done ⟨b, 1, none⟩ _ w c1).mono ?_
    rintro e w' ⟨rfl, rfl⟩
    exact ⟨rfl, ⟨⟨bv, v, av, hb, hv, hd, .inl Fb, .inl Fbv, fun k hk => .inl (Fv k hk), fun k hk => .inl (Fa k hk)⟩, hle, fun k hk => hk.elim (hold k) (fun h => h.2)⟩, Keeps.refl _ _⟩
  | false =>
    have hav : av = .slice none 0 0 := hd
    subst hav
    have hbv : bv ≠ b := by
      rintro rfl
      have := hv.1
      rw [hb] at this
      simp at this
    have hbo : v.ownBlock ≠ some b := by
      intro hk
      obtain ⟨_, _, h2⟩ := hv
      rcases h2 with ⟨rfl, _⟩ | ⟨g, cap, cur, rfl, _, hg, _⟩
      · simp [Value.ownBlock] at hk
      · simp only [Value.ownBlock, Option.some.injEq] at hk
        subst hk
        rw [hb] at hg
        simp at hg
    have c1 : w.cell? ⟨b, 1, none⟩ = some (.int .u32 0) := World.cell_of_heap hb 1
    have c2 : w.cell? ⟨b, 1 + 1, none⟩ = some (.int .i32 0) := World.cell_of_heap hb 2
    have hw0 : (w.setCell ⟨b, 1 + 1, none⟩ (.int .i32 1)).heap[b]? = some (.cells (idxCells bv false 1 (.slice none 0 0) 0 asked) 103 (0, 0)) := heap_setCell_same hb 2 _
    have k0 : Keeps (fun k => k = b) w (w.setCell ⟨b, 1 + 1, none⟩ (.int .i32 1)) := (Keeps.refl (fun k => k = b) w).setCell (p := ⟨b, 1 + 1, none⟩) (.inl rfl) _
    have hv0 := hv.keeps k0 hbv (fun k hk h => hbo (by rw [← h]; exact hk))
    have hM := rankMake_any b bv v l asked _ hw0 hv0 hle hbo
    refine (do_first b 1 76 #[.pointer (some ⟨b, 0, none⟩)] (fun w1 => MakeAt (w.setCell ⟨b, 1 + 1, none⟩ (.int .i32 1)) b bv v l asked (ahead l) w1) w (makeEnter b) c1 c2 (World.free_of_heap hb 2) (hM.mono ?_)).mono ?_
    · rintro e w1 ⟨rfl, hm⟩
      have hm' := hm
      obtain ⟨a1, hb1, _⟩ := hm'
      exact ⟨rfl, World.cell_of_heap hb1 1, World.cell_of_heap hb1 2, World.free_of_heap hb1 1, World.free_of_heap hb1 2, hm⟩
    · rintro e w' ⟨rfl, w1, ⟨a1, hb1, hv1, ho1, ha1, k1⟩, rfl⟩
      have hb2 : (w1.drew.setCell ⟨b, 1, none⟩ (.int .u32 1)).heap[b]? = some (.cells (idxCells bv true 1 a1 1 asked) 103 (0, 0)) := heap_setCell_same (w := w1.drew) hb1 1 _
      have hb3 : ((w1.drew.setCell ⟨b, 1, none⟩ (.int .u32 1)).setCell ⟨b, 1 + 1, none⟩ (.int .i32 0)).heap[b]? = some (.cells (idxCells bv true 0 a1 1 asked) 103 (0, 0)) := heap_setCell_same hb2 2 _
      have k2 : Keeps (fun k => k = b) w1 ((w1.drew.setCell ⟨b, 1, none⟩ (.int .u32 1)).setCell ⟨b, 1 + 1, none⟩ (.int .i32 0)) := ((Keeps.refl (fun k => k = b) w1).drew.setCell (p := ⟨b, 1, none⟩) (.inl rfl) _).setCell (p := ⟨b, 1 + 1, none⟩) (.inl rfl) _
      have k3 := (k0.trans k1 (fun x _ h => h)).trans k2 (fun x _ h => h)
      have hlt1 : ∀ k, a1.ownBlock = some k → w.heap.size ≤ k ∧ k < w1.heap.size := fun k hk => ⟨by have := ha1 k hk; simpa using this, (ho1.lt k hk).2⟩
      refine ⟨rfl, ⟨⟨bv, v, a1, hb3, hv1.keeps k2 hbv (fun k hk h => hbo (by rw [← h]; exact hk)), ?_, .inl Fb, .inl Fbv, fun k hk => .inl (Fv k hk), fun k hk => .inr ?_⟩, hle, ?_⟩, k3.mono (fun x _ h => by rw [h]; exact Fb)⟩
      · exact k2.owns ho1 (fun k hk h => by have := (hlt1 k hk).1; have := hold b Fb; omega)
      · have := hlt1 k hk; simpa using this
      · intro k hk
        rcases hk with hk | hk
        · exact Nat.lt_of_lt_of_le (hold k hk) k3.size
        · exact hk.2

theorem IdxAt.keeps {w w' : World} {b : Nat} {l : List Bool} {done : Bool} {asked : Nat} {F G : Nat → Prop} (h : IdxAt w b l done asked F) (k : Keeps G w w') (hd : ∀ x, F x → ¬ G x) : IdxAt w' b l done asked F := by
  obtain ⟨⟨bv, v, av, hb, hv, hdir, Fb, Fbv, Fv, Fa⟩, hle, hold⟩ := h
  refine ⟨⟨bv, v, av, k.at hb (hd b Fb), hv.keeps k (hd bv Fbv) (fun x hx => hd x (Fv x hx)), ?_, Fb, Fbv, Fv, Fa⟩, hle, fun x hx => Nat.lt_of_lt_of_le (hold x hx) k.size⟩
  cases done with
  | true => exact k.owns (show w.ownsRow _ _ _ _ _ _ from hdir) (fun x hx => hd x (Fa x hx))
  | false => exact hdir

theorem IdxAt.mono {w : World} {b : Nat} {l : List Bool} {done : Bool} {asked : Nat} {F G : Nat → Prop} (h : IdxAt w b l done asked F) (hG : ∀ x, F x → G x) (hold : ∀ x, G x → x < w.heap.size) : IdxAt w b l done asked G := by
  obtain ⟨⟨bv, v, av, hb, hv, hdir, Fb, Fbv, Fv, Fa⟩, hle, _⟩ := h
  exact ⟨⟨bv, v, av, hb, hv, hdir, hG _ Fb, hG _ Fbv, fun x hx => hG _ (Fv x hx), fun x hx => hG _ (Fa x hx)⟩, hle, hold⟩

/-- How many of a bit, of so many of which so many are ones. -/
def ofZ (bit ones all : Int) : Int := if bit = 1 then ones else all - ones

theorem of_any (bit ones all : Int) (w : World) (h : -1000000000 ≤ ones ∧ ones ≤ 1000000000 ∧ -1000000000 ≤ all ∧ all ≤ 1000000000000) :
    Calls Try.prog 73 #[.int .i64 bit, .int .i64 ones, .int .i64 all] w fun e w' => e = .returned (.int .i64 (ofZ bit ones all)) ∧ w = w' := by
  unfold ofZ
  by_cases hb : bit = 1
  · subst hb
    go_enter Try.func73, Try.ntmps73
    go_wp2
    go_ret
    exact ⟨by simp, rfl⟩
  · have ht : (bit == 1) = false := by simp [hb]
    have HB := Lib.hid hb
    clear hb
    go_enter Try.func73, Try.ntmps73
    go_wp2
    go_ret
    exact ⟨by simp, rfl⟩

/-- What is read off an index whose directory is made. -/
theorem IdxAt.read {w : World} {b : Nat} {l : List Bool} {asked : Nat} {F : Nat → Prop} (h : IdxAt w b l true asked F) :
    ∃ bv v ga cap, w.cell? ⟨b, 0, none⟩ = some (.pointer (some ⟨bv, 0, none⟩)) ∧ VecAt w bv v l ∧ w.cell? ⟨b, 4, none⟩ = some (.slice (some ⟨ga, 0, none⟩) (ahead l).length cap) ∧ (ahead l).length ≤ cap ∧ cap ≤ 9223372036854775807 ∧
      (ahead l).length = (l.length + 511) / 512 + 1 ∧ ∀ k, k < (ahead l).length → w.cell? ⟨ga, k, none⟩ = some (.int .u32 (cnt (l.take (512 * k)) : Nat)) := by
  obtain ⟨⟨bv, v, av, hb, hv, hdir, _, _, _, _⟩, hle, _⟩ := h
  have hal : (ahead l).length = (l.length + 511) / 512 + 1 := by simp [ahead]
  obtain ⟨g, cap, rfl, hnc, hcm, hc, _, _⟩ := owns_form (show w.ownsRow _ _ _ _ _ _ from hdir) (by omega)
  refine ⟨bv, v, g, cap, World.cell_of_heap hb 0, hv, World.cell_of_heap hb 4, hnc, by unfold maxLen at hcm; omega, hal, fun k hk => (hc k _ ?_).1⟩
  have hk' : k < (l.length + 511) / 512 + 1 := by omega
  simp [ahead, hk']

set_option maxRecDepth 100000 in
set_option maxHeartbeats 1000000 in
theorem ones_any (b : Nat) (l : List Bool) (done : Bool) (asked : Nat) (F : Nat → Prop) (w : World) (n : Nat) (h : IdxAt w b l done asked F) (hn : n ≤ l.length) :
    Calls Try.prog 74 #[.pointer (some ⟨b, 0, none⟩), .int .i64 n] w fun e w' => e = .returned (.int .i64 (cnt (l.take n))) ∧ IdxAt w' b l true asked (grow F w w') ∧ Keeps F w w' := by
  have hmf : ∀ (fn : Fn) (first cap : Array Value) (w : World), (Instr.makeFunc fn first cap).run Try.prog w = .ok (.func fn first cap) w := fun _ _ _ _ => rfl
  have hDo := idxDo_any b l done asked F w h
  have hle := h.le
  clear h
  go_enter Try.func74, Try.ntmps74
  go_wp2_with (go_at_call 75; refine hDo.mono ?_; rintro e w1 ⟨rfl, hI, hK⟩)
  clear hDo hmf
  obtain ⟨bv, v, ga, cap, c0, hv, c4, hnc, hcm, hal, hcell⟩ := hI.read
  have hkb : n / 512 < (ahead l).length := by omega
  have hck := hcell (n / 512) hkb
  have hmin : ((n / 512 : Nat) : Int) ≤ ((ahead l).length : Int) - 1 := by omega
  have hal2 : (ahead l).length ≤ 1000000 := by omega
  have hcl := cnt_le (l.take (512 * (n / 512)))
  have hcl2 : (l.take (512 * (n / 512))).length ≤ l.length := List.length_take_le' _ _
  have hcl3 : cnt (l.take (512 * (n / 512))) ≤ 100000000 := by omega
  have HP := Lib.hid (And.intro hI hK)
  clear hI hK hcell hal hcl hcl2
  generalize (ahead l).length = m at *
  go_region
  all_goals
    go_wp2
    have hvd : VecAt w1.drew bv v l := hv.keeps ((Keeps.refl (fun _ => False) w1).drew) (fun h => h) (fun _ _ h => h)
    have hK2 : IdxAt w1.drew b l true asked (grow F w w1.drew) ∧ Keeps F w w1.drew := ⟨HP.out.1.keeps ((Keeps.refl (fun _ => False) w1).drew) (fun _ _ h => h), HP.out.2.drew⟩
    have c0d : w1.drew.cell? ⟨b, 0, none⟩ = some (.pointer (some ⟨bv, 0, none⟩)) := c0
    have HK2 := Lib.hid hK2
    clear hK2 HP hv c0 c4 hck hnc hkb hmin hal2
    generalize w1.drew = w2 at *
    go_loop [6, 7] (fun s i => ∃ k : Nat, k ≤ n ∧ i = .int .i64 k ∧ s = .int .i64 (cnt (l.take k))) (fun _ i => n - (intOf i).toNat)
    case atStart => exact ⟨512 * (n / 512), by omega, by go_num, rfl⟩
    case round =>
      obtain ⟨k, hk, rfl, rfl⟩ := hrel
      by_cases hlt : k < n
      · have hA := at_in bv v l k _ hvd (by omega) (by omega)
        have hcs := cnt_snoc l k (by omega)
        have hy : (l.getD k false).toNat ≤ 1 := by cases l.getD k false <;> simp
        have hcl := cnt_le (l.take k)
        have hcl2 : (l.take k).length ≤ l.length := List.length_take_le' _ _
        have hp : cnt (l.take k) ≤ 100000000 := by omega
        have HC := Lib.hid hcs
        clear hcs hcl hcl2 hcl3
        generalize (l.getD k false).toNat = y at *
        generalize cnt (l.take k) = p at *
        go_wp2_with (go_at_call 79; refine hA.mono ?_; rintro e w' ⟨rfl, rfl⟩)
        go_round
        case rel => exact ⟨k + 1, by omega, by go_num, by rw [HC.out]; go_num⟩
        case measure => simp [intOf]; omega
      · obtain rfl : k = n := by omega
        clear hcl3
        go_wp2
        go_ret
        exact ⟨rfl, HK2.out⟩

/-- A question counts. -/
theorem idxAsk_any (b : Nat) (l : List Bool) (done : Bool) (asked : Nat) (F : Nat → Prop) (w : World) (h : IdxAt w b l done asked F) (ha : asked ≤ 1000000000000) :
    Calls Try.prog 72 #[.pointer (some ⟨b, 6, none⟩), .int .i64 1] w fun e w' => e = .returned (.int .i64 ((asked : Int) + 1)) ∧ IdxAt w' b l done (asked + 1) F ∧ Keeps F w w' ∧ w'.heap.size = w.heap.size := by
  obtain ⟨⟨bv, v, av, hb, hv, hd, Fb, Fbv, Fv, Fa⟩, hle, hold⟩ := h
  refine (add64 ⟨b, 6, none⟩ asked 1 w (World.cell_of_heap hb 6) (World.free_of_heap hb 6) (by omega)).mono ?_
  rintro e w' ⟨rfl, rfl⟩
  have hb2 : (w.setCell ⟨b, 6, none⟩ (.int .i64 ((asked : Int) + 1))).heap[b]? = some (.cells (idxCells bv done 0 av (if done then 1 else 0) ((asked + 1 : Nat) : Int)) 103 (0, 0)) := heap_setCell_same hb 6 _
  have k1 : Keeps (fun k => k = b) w (w.setCell ⟨b, 6, none⟩ (.int .i64 ((asked : Int) + 1))) := (Keeps.refl (fun k => k = b) w).setCell (p := ⟨b, 6, none⟩) (.inl rfl) _
  have hbv : bv ≠ b := by
    rintro rfl
    have := hv.1
    rw [hb] at this
    simp at this
  have hbo : v.ownBlock ≠ some b := by
    intro hk
    obtain ⟨_, _, h2⟩ := hv
    rcases h2 with ⟨rfl, _⟩ | ⟨g, cap, cur, rfl, _, hg, _⟩
    · simp [Value.ownBlock] at hk
    · simp only [Value.ownBlock, Option.some.injEq] at hk
      subst hk
      rw [hb] at hg
      simp at hg
  refine ⟨rfl, ⟨⟨bv, v, av, hb2, hv.keeps k1 hbv (fun k hk h => hbo (by rw [← h]; exact hk)), ?_, Fb, Fbv, Fv, Fa⟩, hle, fun x hx => by simpa using hold x hx⟩, k1.mono (fun x _ h => by rw [h]; exact Fb), by simp⟩
  cases done with
  | false => exact hd
  | true =>
    refine k1.owns (show w.ownsRow _ _ _ _ _ _ from hd) (fun k hk h => ?_)
    subst h
    obtain ⟨_, h2⟩ := (show w.ownsRow _ _ _ _ _ _ from hd)
    rcases h2 with ⟨rfl, _⟩ | ⟨g, cap, cur, rfl, _, hg, _⟩
    · simp [Value.ownBlock] at hk
    · simp only [Value.ownBlock, Option.some.injEq] at hk
      subst hk
      rw [hb] at hg
      simp at hg

set_option maxHeartbeats 400000 in
theorem idxLen_any (b : Nat) (l : List Bool) (done : Bool) (asked : Nat) (F : Nat → Prop) (w : World) (h : IdxAt w b l done asked F) :
    Calls Try.prog 25 #[.pointer (some ⟨b, 0, none⟩)] w fun e w' => e = .returned (.int .i64 l.length) ∧ w = w' := by
  obtain ⟨⟨bv, v, av, hb, hv, hd, Fb, Fbv, Fv, Fa⟩, hle, hold⟩ := h
  have c0 : w.cell? ⟨b, 0, none⟩ = some (.pointer (some ⟨bv, 0, none⟩)) := World.cell_of_heap hb 0
  have hlen := len_any bv v l w hv
  clear hb hv hd
  go_enter Try.func25, Try.ntmps25
  go_wp2_with (go_at_call 81; refine hlen.mono ?_; rintro e w' ⟨rfl, rfl⟩)
  go_ret
  exact ⟨rfl, rfl⟩

set_option maxHeartbeats 400000 in
theorem idxOnes_any (b : Nat) (l : List Bool) (done : Bool) (asked : Nat) (F : Nat → Prop) (w : World) (h : IdxAt w b l done asked F) :
    Calls Try.prog 26 #[.pointer (some ⟨b, 0, none⟩)] w fun e w' => e = .returned (.int .i64 (cnt l)) ∧ w = w' := by
  obtain ⟨⟨bv, v, av, hb, hv, hd, Fb, Fbv, Fv, Fa⟩, hle, hold⟩ := h
  have c0 : w.cell? ⟨b, 0, none⟩ = some (.pointer (some ⟨bv, 0, none⟩)) := World.cell_of_heap hb 0
  have hO := Ones_any bv v l w hv (by omega)
  clear hb hv hd
  go_enter Try.func26, Try.ntmps26
  go_wp2_with (go_at_call 82; refine hO.mono ?_; rintro e w' ⟨rfl, rfl⟩)
  go_ret
  exact ⟨rfl, rfl⟩

set_option maxHeartbeats 400000 in
theorem idxAt_any (b : Nat) (l : List Bool) (done : Bool) (asked : Nat) (F : Nat → Prop) (i : Int) (w : World) (h : IdxAt w b l done asked F) :
    Calls Try.prog 28 #[.pointer (some ⟨b, 0, none⟩), .int .i64 i] w fun e w' => e = .returned (.int .i64 (atZ l i)) ∧ w = w' := by
  obtain ⟨⟨bv, v, av, hb, hv, hd, Fb, Fbv, Fv, Fa⟩, hle, hold⟩ := h
  have c0 : w.cell? ⟨b, 0, none⟩ = some (.pointer (some ⟨bv, 0, none⟩)) := World.cell_of_heap hb 0
  have hA := at_any bv v l i w hv (by omega)
  clear hb hv hd
  go_enter Try.func28, Try.ntmps28
  go_wp2_with (go_at_call 79; refine hA.mono ?_; rintro e w' ⟨rfl, rfl⟩)
  go_ret
  exact ⟨rfl, rfl⟩

theorem idxAsked_any (b : Nat) (l : List Bool) (done : Bool) (asked : Nat) (F : Nat → Prop) (w : World) (h : IdxAt w b l done asked F) :
    Calls Try.prog 24 #[.pointer (some ⟨b, 0, none⟩)] w fun e w' => e = .returned (.int .i64 asked) ∧ w = w' := by
  obtain ⟨⟨bv, v, av, hb, hv, hd, Fb, Fbv, Fv, Fa⟩, hle, hold⟩ := h
  have hL := load64 ⟨b, 6, none⟩ asked w (World.cell_of_heap hb 6)
  clear hb hv hd
  go_enter Try.func24, Try.ntmps24
  go_wp2_with (go_at_call 80; refine hL.mono ?_; rintro e w' ⟨rfl, rfl⟩)
  go_ret
  exact ⟨rfl, rfl⟩

theorem idxBuilt_any (b : Nat) (l : List Bool) (done : Bool) (asked : Nat) (F : Nat → Prop) (w : World) (h : IdxAt w b l done asked F) :
    Calls Try.prog 29 #[.pointer (some ⟨b, 0, none⟩)] w fun e w' => e = .returned (.int .i64 (if done then 1 else 0)) ∧ w = w' := by
  obtain ⟨⟨bv, v, av, hb, hv, hd, Fb, Fbv, Fv, Fa⟩, hle, hold⟩ := h
  have hL := load64 ⟨b, 5, none⟩ (if done then 1 else 0) w (World.cell_of_heap hb 5)
  have hx : (0 : Int) ≤ (if done then 1 else 0) ∧ (if done then 1 else 0 : Int) ≤ 1 := by cases done <;> simp
  clear hb hv hd
  generalize (if done then 1 else 0 : Int) = x at *
  go_enter Try.func29, Try.ntmps29
  go_wp2_with (go_at_call 80; refine hL.mono ?_; rintro e w' ⟨rfl, rfl⟩)
  go_ret
  exact ⟨rfl, rfl⟩

theorem idxSize_any (b : Nat) (l : List Bool) (done : Bool) (asked : Nat) (F : Nat → Prop) (w : World) (h : IdxAt w b l done asked F) :
    Calls Try.prog 30 #[.pointer (some ⟨b, 0, none⟩)] w fun e w' => e = .returned (.int .i64 (32 * ((l.length + 511) / 512 + 1 : Nat))) ∧ w = w' := by
  have hlen := idxLen_any b l done asked F w h
  have hle := h.le
  clear h
  go_enter Try.func30, Try.ntmps30
  go_wp2_with (go_at_call 25; refine hlen.mono ?_; rintro e w' ⟨rfl, rfl⟩)
  go_ret
  exact ⟨ret_int (by omega), rfl⟩

end Go.Proofs.Ytlciacpffoekjaa
