/- The contracts of package paren: what is read off. -/
import Derived.Test.YtlciacpffoekjaaParPure
import Derived.Test.YtlciacpffoekjaaLaw02b
namespace Go.Proofs.Ytlciacpffoekjaa
open Go.RowKit

/-- Are they balanced? -/
def Bal (l : List Bool) : Prop := ex l l.length = 0 ∧ ∀ p, p ≤ l.length → 0 ≤ ex l p

theorem ex_abs (l : List Bool) (p : Nat) (h : l.length ≤ 100000000) : -100000000 ≤ ex l p ∧ ex l p ≤ 100000000 := by
  have := ex_bound l p
  omega

/-- An answer that says whether they are. -/
def SaysBal (l : List Bool) (e : Ending) : Prop := ∃ t : Bool, e = .returned (.bool t) ∧ (t = true ↔ Bal l)

set_option maxRecDepth 100000 in
set_option maxHeartbeats 1000000 in
theorem balanced_any (b : Nat) (v : Value) (l : List Bool) (w : World) (h : VecAt w b v l) (hl : l.length ≤ 100000000) :
    Calls Try.prog 85 #[.pointer (some ⟨b, 0, none⟩)] w fun e w' => SaysBal l e ∧ w = w' := by
  have hlen := len_any b v l w h
  go_enter Try.func85, Try.ntmps85
  go_wp2_with (go_at_call 81; refine hlen.mono ?_; rintro e w' ⟨rfl, rfl⟩)
  clear hlen
  go_loop [3, 7] (fun n i => ∃ k : Nat, k ≤ l.length ∧ i = .int .i64 k ∧ n = .int .i64 (ex l k) ∧ ∀ p, p ≤ k → 0 ≤ ex l p) (fun _ i => l.length - (intOf i).toNat)
  case atStart =>
    refine ⟨0, Nat.zero_le _, rfl, by rw [ex_zero], fun p hp => ?_⟩
    obtain rfl : p = 0 := by omega
    rw [ex_zero]; omega
  case round =>
    obtain ⟨k, hk, rfl, rfl, hall⟩ := hrel
    have hb := ex_abs l k hl
    by_cases hlt : k < l.length
    · have hA := at_in b v l k _ h hlt (by omega)
      have hs := ex_succ l hlt
      have hb2 := ex_abs l (k + 1) hl
      unfold stepZ at hs
      have hy : (l.getD k false).toNat ≤ 1 := by cases l.getD k false <;> simp
      generalize (l.getD k false).toNat = y at *
      have hs' : ex l k + (2 * (y : Int) - 1) = ex l (k + 1) := hs.symm
      have HA := Lib.hid hall
      clear hs hall
      by_cases hneg : ex l (k + 1) < 0
      · have HN := Lib.hid hneg
        have tn : decide (ex l k + (2 * (y : Int) - 1) < 0) = true := by rw [hs']; exact decide_eq_true hneg
        clear hs' hneg hb2
        generalize ex l k = x at *
        go_wp2_with (go_at_call 79; refine hA.mono ?_; rintro e w' ⟨rfl, rfl⟩)
        all_goals first | (go_ret; exact ⟨⟨false, rfl, by simp; intro hB; have := hB.2 (k + 1) (by omega); have := HN.out; omega⟩, rfl⟩) | omega | skip
      · have HN := Lib.hid (And.intro hneg hs')
        have tn : decide (ex l k + (2 * (y : Int) - 1) < 0) = false := by rw [hs']; exact decide_eq_false hneg
        clear hs' hneg hb2
        generalize hx : ex l k = x at *
        go_wp2_with (go_at_call 79; refine hA.mono ?_; rintro e w' ⟨rfl, rfl⟩)
        go_round
        case rel =>
          refine ⟨k + 1, by omega, by go_num, by rw [HN.out.2], fun p hp => ?_⟩
          by_cases hp2 : p ≤ k
          · exact HA.out p hp2
          · obtain rfl : p = k + 1 := by omega
            have := HN.out.1; omega
        case measure => simp [intOf]; omega
    · obtain rfl : k = l.length := by omega
      have HA := Lib.hid hall
      clear hall
      generalize hx : ex l l.length = x at *
      have HX := Lib.hid hx
      clear hx
      go_wp2
      go_ret
      refine ⟨⟨_, rfl, ?_⟩, rfl⟩
      simp only [beq_iff_eq]
      unfold Bal
      rw [HX.out]
      exact ⟨fun h => ⟨h, HA.out⟩, fun h => h.1⟩

/-- The cells of a Paren: its index, done, the lock, the tree, how often built. -/
def parCells (bi : Nat) (done : Bool) (lock : Int) (tv : Value) (built : Int) : Array Value :=
  #[.pointer (some ⟨bi, 0, none⟩), .int .u32 (if done then 1 else 0), .int .i32 lock, .int .u32 0, tv, .int .i64 built]

/-- How high the tree is. -/
def IsH (l : List Bool) (h : Nat) : Prop := l.length ≤ 512 * 2 ^ h ∧ ∀ j, j < h → 512 * 2 ^ j < l.length

theorem IsH.ex (l : List Bool) : ∃ h, IsH l h := by
  have h0 : ∃ h, l.length ≤ 512 * 2 ^ h := ⟨l.length, by have := Nat.lt_two_pow_self (n := l.length); omega⟩
  obtain ⟨h, hh⟩ := h0
  induction h with
  | zero => exact ⟨0, hh, fun j hj => by omega⟩
  | succ h ih =>
    by_cases hc : l.length ≤ 512 * 2 ^ h
    · exact ih hc
    · refine ⟨h + 1, hh, fun j hj => ?_⟩
      have : 2 ^ j ≤ 2 ^ h := Nat.pow_le_pow_right (by decide) (by omega)
      omega

theorem IsH.unique {l : List Bool} {h k : Nat} (a : IsH l h) (b : IsH l k) : h = k := by
  rcases Nat.lt_trichotomy h k with hl | rfl | hl
  · have := b.2 h hl; have := a.1; omega
  · rfl
  · have := a.2 k hl; have := b.1; omega

theorem IsH.bound {l : List Bool} {h : Nat} (a : IsH l h) (hl : l.length ≤ 100000000) : 1 ≤ 2 ^ h ∧ 2 ^ h ≤ 400000 := by
  refine ⟨Nat.two_pow_pos h, ?_⟩
  match h, a with
  | 0, _ => decide
  | h + 1, a => have := a.2 h (by omega); rw [Nat.pow_succ]; omega

/-- The tree: none, or its nodes. -/
def TreeAt (w : World) (done : Bool) (tv : Value) (l : List Bool) : Prop :=
  if done then ∃ h g, IsH l h ∧ tv = .slice (some ⟨g, 0, none⟩) (2 * 2 ^ h) (2 * 2 ^ h) ∧ g < w.heap.size ∧ ∀ k, 1 ≤ k → k < 2 * 2 ^ h →
    w.cell? ⟨g, k * 2, none⟩ = some (.int .i64 (tsum l h k)) ∧ w.cell? ⟨g, k * 2 + 1, none⟩ = some (.int .i64 (tlow l h k))
  else tv = .slice none 0 0

theorem TreeAt.keeps {w w' : World} {done : Bool} {tv : Value} {l : List Bool} {G : Nat → Prop} (h : TreeAt w done tv l) (k : Keeps G w w') (hG : ∀ x, tv.ownBlock = some x → ¬ G x) : TreeAt w' done tv l := by
  cases done with
  | false => exact h
  | true =>
    obtain ⟨h, g, h1, rfl, hg, h2⟩ := h
    refine ⟨h, g, h1, rfl, Nat.lt_of_lt_of_le hg k.size, fun j hj hj2 => ?_⟩
    rw [World.cell?_of_block (w := w) (a := ⟨g, _, none⟩) (k.block g hg (hG g rfl)), World.cell?_of_block (w := w) (a := ⟨g, _, none⟩) (k.block g hg (hG g rfl))]
    exact h2 j hj hj2

/-- A Paren of bits l, whose index was asked at most q times; F: its blocks. -/
structure ParAt (w : World) (b : Nat) (l : List Bool) (done : Bool) (q : Nat) (F : Nat → Prop) : Prop where
  ex : ∃ bi tv FI dI asked, w.heap[b]? = some (.cells (parCells bi done 0 tv (if done then 1 else 0)) 117 (0, 0)) ∧ IdxAt w bi l dI asked FI ∧ asked ≤ q ∧
    (∀ x, FI x → F x) ∧ F b ∧ ¬ FI b ∧ (∀ k, tv.ownBlock = some k → F k ∧ ¬ FI k ∧ k ≠ b) ∧ TreeAt w done tv l
  old : ∀ k, F k → k < w.heap.size

def ParAfter (w : World) (b : Nat) (l : List Bool) (done : Bool) (q : Nat) (F : Nat → Prop) (w' : World) : Prop :=
  ParAt w' b l done q (grow F w w') ∧ Keeps F w w'

/-- What most of its methods read. -/
def PIdx (w : World) (b : Nat) (l : List Bool) : Prop := ∃ bi FI dI asked, w.cell? ⟨b, 0, none⟩ = some (.pointer (some ⟨bi, 0, none⟩)) ∧ IdxAt w bi l dI asked FI

theorem ParAt.idx {w : World} {b : Nat} {l : List Bool} {done : Bool} {q : Nat} {F : Nat → Prop} (h : ParAt w b l done q F) : PIdx w b l := by
  obtain ⟨⟨bi, tv, FI, dI, asked, hb, hI, _⟩, _⟩ := h
  exact ⟨bi, FI, dI, asked, World.cell_of_heap hb 0, hI⟩

theorem PIdx.le {w : World} {b : Nat} {l : List Bool} (h : PIdx w b l) : l.length ≤ 100000000 := by
  obtain ⟨bi, FI, dI, asked, _, hI⟩ := h
  exact hI.le

theorem parLen_any (b : Nat) (l : List Bool) (w : World) (h : PIdx w b l) :
    Calls Try.prog 39 #[.pointer (some ⟨b, 0, none⟩)] w fun e w' => e = .returned (.int .i64 l.length) ∧ w = w' := by
  obtain ⟨bi, FI, dI, asked, c0, hI⟩ := h
  have hL := idxLen_any bi l dI asked FI w hI
  clear hI
  go_enter Try.func39, Try.ntmps39
  go_wp2_with (go_at_call 25; refine hL.mono ?_; rintro e w' ⟨rfl, rfl⟩)
  go_ret
  exact ⟨rfl, rfl⟩

theorem parLen_nil (w : World) :
    Calls Try.prog 39 #[.pointer none] w fun e w' => e = .returned (.int .i64 0) ∧ w = w' := by
  go_enter Try.func39, Try.ntmps39
  go_wp2
  go_ret
  exact ⟨rfl, rfl⟩

set_option maxHeartbeats 400000 in
theorem parOpen_any (b : Nat) (l : List Bool) (i : Int) (w : World) (h : PIdx w b l) :
    Calls Try.prog 38 #[.pointer (some ⟨b, 0, none⟩), .int .i64 i] w fun e w' => e = .returned (.bool (atZ l i == 1)) ∧ w = w' := by
  obtain ⟨bi, FI, dI, asked, c0, hI⟩ := h
  have hL := idxAt_any bi l dI asked FI i w hI
  clear hI
  generalize atZ l i = z at *
  go_enter Try.func38, Try.ntmps38
  go_wp2_with (go_at_call 28; refine hL.mono ?_; rintro e w' ⟨rfl, rfl⟩)
  go_ret
  exact ⟨rfl, rfl⟩

theorem parOpen_nil (i : Int) (w : World) :
    Calls Try.prog 38 #[.pointer none, .int .i64 i] w fun e w' => e = .returned (.bool false) ∧ w = w' := by
  go_enter Try.func38, Try.ntmps38
  go_wp2
  go_ret
  exact ⟨rfl, rfl⟩

set_option maxHeartbeats 400000 in
theorem parStep_any (b : Nat) (l : List Bool) (n : Nat) (w : World) (h : PIdx w b l) (hn : n < l.length) :
    Calls Try.prog 92 #[.pointer (some ⟨b, 0, none⟩), .int .i64 n] w fun e w' => e = .returned (.int .i64 (stepZ l n)) ∧ w = w' := by
  obtain ⟨bi, FI, dI, asked, c0, hI⟩ := h
  have hL := idxAt_any bi l dI asked FI n w hI
  have hat : atZ l n = ((l.getD n false).toNat : Int) := by
    unfold atZ
    rw [if_pos (by omega), Int.toNat_natCast]
  rw [hat] at hL
  have hy : (l.getD n false).toNat ≤ 1 := by cases l.getD n false <;> simp
  clear hI hat
  unfold stepZ
  generalize (l.getD n false).toNat = y at *
  go_enter Try.func92, Try.ntmps92
  go_wp2_with (go_at_call 28; refine hL.mono ?_; rintro e w' ⟨rfl, rfl⟩)
  go_ret
  exact ⟨rfl, rfl⟩

set_option maxHeartbeats 1000000 in
theorem parLeaves_any (b : Nat) (l : List Bool) (h : Nat) (w : World) (hP : PIdx w b l) (hh : IsH l h) :
    Calls Try.prog 91 #[.pointer (some ⟨b, 0, none⟩)] w fun e w' => e = .returned (.int .i64 ((2 ^ h : Nat) : Int)) ∧ w = w' := by
  have hL := parLen_any b l w hP
  have hb := hh.bound hP.le
  have hle := hP.le
  have HH := Lib.hid hh
  clear hP hh
  go_enter Try.func91, Try.ntmps91
  go_wp2_with fail
  go_loop [3] (fun n => ∃ j : Nat, j ≤ h ∧ n = .int .i64 ((2 ^ j : Nat) : Int)) (fun n => 2 ^ h - (intOf n).toNat)
  case atStart => exact ⟨0, Nat.zero_le _, rfl⟩
  case round =>
    obtain ⟨j, hj, rfl⟩ := hrel
    have hj1 : 2 ^ j ≤ 2 ^ h := Nat.pow_le_pow_right (by decide) hj
    have hj2 := Nat.two_pow_pos j
    by_cases hlt : j < h
    · have h1 := HH.out.2 j hlt
      have h2 : 2 ^ (j + 1) ≤ 2 ^ h := Nat.pow_le_pow_right (by decide) hlt
      have h3 : 2 ^ (j + 1) = 2 ^ j * 2 := Nat.pow_succ 2 j
      have HT := Lib.hid h3
      rw [h3] at h2
      clear h3
      generalize 2 ^ j = x at *
      go_wp2_with (go_at_call 39; refine hL.mono ?_; rintro e w' ⟨rfl, rfl⟩)
      go_round
      case rel => exact ⟨j + 1, by omega, by rw [HT.out]; go_num⟩
      case measure => simp [intOf]; omega
    · obtain rfl : j = h := by omega
      have h1 := HH.out.1
      clear hj1
      generalize hx : 2 ^ j = x at *
      have HX := Lib.hid hx
      clear hx
      go_wp2_with (go_at_call 39; refine hL.mono ?_; rintro e w' ⟨rfl, rfl⟩)
      go_ret
      exact ⟨ret_int (by rw [HX.out]), rfl⟩

set_option maxHeartbeats 400000 in
theorem parExcess0_any (b : Nat) (l : List Bool) (done : Bool) (q : Nat) (F : Nat → Prop) (n : Nat) (w : World) (h : ParAt w b l done q F) (hq : q ≤ 1000000000000) (hn : n ≤ l.length) :
    Calls Try.prog 88 #[.pointer (some ⟨b, 0, none⟩), .int .i64 n] w fun e w' => e = .returned (.int .i64 (ex l n)) ∧ ParAfter w b l done (q + 1) F w' := by
  obtain ⟨⟨bi, tv, FI, dI, asked, hb, hI, hq2, hFI, Fb, nb, htv, hT⟩, hold⟩ := h
  have hR := Rank_in bi l dI asked FI 1 n w hI (by omega) (.inr rfl) hn
  have c0 : w.cell? ⟨b, 0, none⟩ = some (.pointer (some ⟨bi, 0, none⟩)) := World.cell_of_heap hb 0
  have hx := rk_bounds l 1 (.inr rfl) n hn
  have hle := hI.le
  have hex : 2 * rk l 1 n - (n : Int) = ex l n := by unfold ex; rw [Nat.min_eq_left hn]
  have hfin : ∀ w', IdxAfter w bi l true (asked + 1) FI w' → ParAfter w b l done (q + 1) F w' := by
    rintro w' ⟨h1, h2⟩
    refine ⟨⟨⟨bi, tv, _, true, asked + 1, h2.at hb nb, h1, by omega, ?_, .inl Fb, ?_, fun k hk => ⟨.inl (htv k hk).1, ?_, (htv k hk).2.2⟩, hT.keeps h2 (fun x hx => (htv x hx).2.1)⟩, grow_old hold h2.size⟩, h2.mono (fun x _ hx => hFI x hx)⟩
    · rintro x (hx | hx)
      · exact .inl (hFI x hx)
      · exact .inr hx
    · rintro (hx | hx)
      · exact nb hx
      · have := lt_of_block hb; omega
    · rintro (hx | hx)
      · exact (htv k hk).2.1 hx
      · have := hold k (htv k hk).1; omega
  have HF := Lib.hid (And.intro hfin hex)
  clear hI hb hT htv hfin hex
  generalize rk l 1 n = x at *
  go_enter Try.func88, Try.ntmps88
  go_wp2_with (go_at_call 20; refine hR.mono ?_; rintro e w1 ⟨rfl, hA⟩)
  go_ret
  exact ⟨ret_int HF.out.2, HF.out.1 _ hA⟩

end Go.Proofs.Ytlciacpffoekjaa
