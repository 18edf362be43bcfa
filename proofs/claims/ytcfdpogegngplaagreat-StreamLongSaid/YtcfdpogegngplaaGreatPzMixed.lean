/- Joined texts: Word, MixPure, Mix, Mix2, Mix3, Mix4, Lab, Index, Parse. -/
import Derived.Laws.StandIn
import Derived.Lib.Bytealg
import Derived.Test.YtcfdpogegngplaaGreatPzRef3
import Derived.Test.YtcfdpogegngplaaGreatPzParens
/- The contracts of package mixed: words. -/
namespace Go.Proofs.YtcfdpogegngplaaGreat
open Go.RowKit

def kcells (ks : List Nat) : List Value := ks.map fun k : Nat => Value.int .u8 k

/-- The block of a word, and its letters. -/
def WordAt (w : World) (b : Nat) (v : Value) (ks : List Nat) : Prop :=
  w.heap[b]? = some (.cells #[v] 236 (0, 0)) ∧ w.ownsRow 0 5 1 v ks.length (kcells ks)

theorem WordAt.lt {w : World} {b : Nat} {v : Value} {ks : List Nat} (h : WordAt w b v ks) : b < w.heap.size := lt_of_block h.1

theorem WordAt.apart {w : World} {b : Nat} {v : Value} {ks : List Nat} (h : WordAt w b v ks) : ∀ k, v.ownBlock = some k → k ≠ b ∧ k < w.heap.size := by
  intro k hk
  obtain ⟨h1, _, h2⟩ := h
  rcases h2 with ⟨rfl, _⟩ | ⟨g, cap, cur, rfl, _, hg, _⟩
  · simp [Value.ownBlock] at hk
  · simp only [Value.ownBlock, Option.some.injEq] at hk
    subst hk
    refine ⟨?_, lt_of_block hg⟩
    rintro rfl
    rw [h1] at hg
    simp at hg

theorem WordAt.keeps {w w' : World} {F : Nat → Prop} {b : Nat} {v : Value} {ks : List Nat} (h : WordAt w b v ks) (k : Keeps F w w') (hb : ¬ F b) (hv : ∀ k, v.ownBlock = some k → ¬ F k) : WordAt w' b v ks :=
  ⟨k.at h.1 hb, k.owns h.2 hv⟩

theorem WordAt.form {w : World} {b : Nat} {v : Value} {ks : List Nat} (h : WordAt w b v ks) : ∃ a cap, v = .slice a ks.length cap ∧ ks.length ≤ cap ∧ cap ≤ 9223372036854775807 ∧ ∀ j k, ks[j]? = some k → ∃ g, a = some ⟨g, 0, none⟩ ∧ w.cell? ⟨g, j, none⟩ = some (.int .u8 (k : Nat)) := by
  by_cases h0 : 0 < ks.length
  · obtain ⟨g, cap, rfl, h1, h2, hc, _, _⟩ := owns_form h.2 h0
    refine ⟨_, cap, rfl, h1, by unfold maxLen at h2; omega, fun j k hj => ⟨g, rfl, ?_⟩⟩
    exact (hc j (.int .u8 (k : Nat)) (by rw [kcells, List.getElem?_map, hj]; rfl)).1
  · have hz : ks = [] := List.eq_nil_of_length_eq_zero (by omega)
    subst hz
    obtain ⟨_, _, h2⟩ := h
    rcases h2 with ⟨rfl, _⟩ | ⟨g, cap, cur, rfl, _, hg, hnc, hcm, _⟩
    · exact ⟨none, 0, rfl, by simp, by decide, fun j k hj => by simp at hj⟩
    · exact ⟨_, cap, rfl, by simp, by unfold maxLen at hcm; omega, fun j k hj => by simp at hj⟩

/-- What adding letters leaves of a word. -/
def WordGrown (w : World) (b : Nat) (v : Value) (ks' : List Nat) (w' : World) : Prop :=
  ∃ v', WordAt w' b v' ks' ∧ Keeps (fun k => k = b ∨ v.ownBlock = some k) w w' ∧ (v'.ownBlock = v.ownBlock ∨ ∃ k, v'.ownBlock = some k ∧ w.heap.size ≤ k)

theorem WordGrown.trans {w w1 w2 : World} {b : Nat} {v v1 : Value} {ks' : List Nat} (hk : Keeps (fun k => k = b ∨ v.ownBlock = some k) w w1)
    (hv : v1.ownBlock = v.ownBlock ∨ ∃ k, v1.ownBlock = some k ∧ w.heap.size ≤ k) (h : WordGrown w1 b v1 ks' w2) : WordGrown w b v ks' w2 := by
  obtain ⟨v2, h1, h2, h3⟩ := h
  refine ⟨v2, h1, hk.trans h2 ?_, ?_⟩
  · rintro x hx (rfl | hx2)
    · exact .inl rfl
    · rcases hv with hv | ⟨k, hv, hk⟩
      · exact .inr (by rw [← hv]; exact hx2)
      · rw [hv] at hx2; cases hx2; omega
  · rcases h3 with h3 | ⟨k, h3, hk3⟩
    · rw [h3]; exact hv
    · exact .inr ⟨k, h3, Nat.le_trans hk.size hk3⟩

theorem WordAt.grown {w : World} {b : Nat} {v : Value} {ks : List Nat} (h : WordAt w b v ks) : WordGrown w b v ks w := ⟨v, h, Keeps.refl _ _, .inl rfl⟩

/-- One more letter, as 'w.l = append(w.l, k)' lays it. -/
theorem WordAt.push {wr w1 : World} {b : Nat} {v : Value} {ks : List Nat} {o : Obj} {k g cap : Nat} (h : WordAt wr b v ks)
    (hown : w1.ownsRow 0 5 1 (.slice (some ⟨g, 0, none⟩) (ks.length + 1) cap) (ks.length + 1) (kcells ks ++ [.int .u8 k])) (hgrow : (wr.alloc o).grownBy w1 v.ownBlock) (hat : v.ownBlock = some g ∨ g = wr.heap.size + 1) :
    WordGrown wr b v (ks ++ [k]) (w1.setCell ⟨b, 0, none⟩ (.slice (some ⟨g, 0, none⟩) (ks.length + 1) cap)) ∧ w1.heap[b]? = some (.cells #[v] 236 (0, 0)) := by
  have hb := h.lt
  have hap := h.apart
  have k1 : Keeps (fun k => v.ownBlock = some k) wr w1 := ((Keeps.refl _ wr).alloc _).grown hgrow (fun k hk => .inl hk)
  have hb1 := k1.at h.1 (fun e => (hap b e).1 rfl)
  have hgb : g ≠ b := by
    rcases hat with h | h
    · exact (hap g h).1
    · omega
  refine ⟨⟨_, ⟨heap_setCell_same hb1 0 _, ?_⟩, (k1.mono (fun x _ h => .inr h)).setCell (.inl (.inl rfl)) _, ?_⟩, hb1⟩
  · have := ownsRow_setCell_other hown (a := ⟨b, 0, none⟩) (by simp [Value.ownBlock]; exact hgb) (.slice (some ⟨g, 0, none⟩) (ks.length + 1) cap)
    simpa [kcells] using this
  · rcases hat with h | h
    · exact .inl h.symm
    · exact .inr ⟨g, rfl, by omega⟩

end Go.Proofs.YtcfdpogegngplaaGreat

/- Plain laws of words of two sorts. -/
namespace Go.Proofs.YtcfdpogegngplaaGreat

def openB (ks : List Nat) : List Bool := ks.map fun k => k % 2 == 0
def isB (s : Nat) (ks : List Nat) : List Bool := ks.map fun k => k / 2 == s
def ownB (s : Nat) (ks : List Nat) : List Bool := (ks.filter fun k => k / 2 == s).map fun k => k % 2 == 0
/-- How many of a sort ahead of a place. -/
def pr (s : Nat) (ks : List Nat) (n : Nat) : Nat := ((ks.take n).filter fun k => k / 2 == s).length
/-- How many of a kind. -/
def cntK (ks : List Nat) (kind : Nat) : Nat := (ks.filter fun k => k == kind).length

theorem lt_of_get {α : Type} {l : List α} {i : Nat} {x : α} (h : l[i]? = some x) : i < l.length := by
  rcases Nat.lt_or_ge i l.length with h' | h'
  · exact h'
  · rw [List.getElem?_eq_none h'] at h; cases h

theorem take_get {α : Type} {l : List α} {i : Nat} {x : α} (h : l[i]? = some x) : l.take (i + 1) = l.take i ++ [x] := by
  have hi := lt_of_get h
  rw [List.getElem?_eq_getElem hi] at h
  simp only [Option.some.injEq] at h
  rw [List.take_succ_eq_append_getElem hi, h]

theorem cnt_map (ks : List Nat) (p : Nat → Bool) : cnt (ks.map p) = (ks.filter p).length := by
  induction ks with
  | nil => rfl
  | cons k ks ih => simp only [List.map_cons, cnt, ih, List.filter_cons]; cases p k <;> simp <;> omega

theorem rk_isB (s : Nat) (ks : List Nat) (n : Nat) : rk (isB s ks) 1 n = pr s ks n := by
  unfold rk ofZ isB pr
  rw [if_pos rfl, ← List.map_take, cnt_map]

theorem isB_length (s : Nat) (ks : List Nat) : (isB s ks).length = ks.length := by simp [isB]
theorem ownB_length (s : Nat) (ks : List Nat) : (ownB s ks).length = pr s ks ks.length := by simp [ownB, pr]
theorem isB_get (s : Nat) {ks : List Nat} {i k : Nat} (h : ks[i]? = some k) : (isB s ks).getD i false = (k / 2 == s) := by
  simp [isB, List.getD_eq_getElem?_getD, h]
theorem pr_zero (s : Nat) (ks : List Nat) : pr s ks 0 = 0 := by simp [pr]
theorem pr_succ (s : Nat) {ks : List Nat} {i k : Nat} (h : ks[i]? = some k) : pr s ks (i + 1) = pr s ks i + if k / 2 = s then 1 else 0 := by
  unfold pr
  rw [take_get h, List.filter_append, List.length_append]
  by_cases hs : k / 2 = s <;> simp [hs]
theorem pr_mono (s : Nat) (ks : List Nat) {a c : Nat} (h : a ≤ c) : pr s ks a ≤ pr s ks c := by
  unfold pr
  have : ks.take c = ks.take a ++ (ks.take c).drop a := by
    conv => lhs; rw [← List.take_append_drop a (ks.take c)]
    rw [List.take_take, Nat.min_eq_left h]
  rw [this, List.filter_append, List.length_append]
  omega
theorem pr_le (s : Nat) (ks : List Nat) (n : Nat) (h : n ≤ ks.length) : pr s ks n ≤ (ownB s ks).length := by
  rw [ownB_length]; exact pr_mono s ks h

theorem ownB_append (s : Nat) (a c : List Nat) : ownB s (a ++ c) = ownB s a ++ ownB s c := by simp [ownB]
theorem own_get {s : Nat} {ks : List Nat} {i k : Nat} (h : ks[i]? = some k) (hs : k / 2 = s) : (ownB s ks)[pr s ks i]? = some (k % 2 == 0) := by
  have hi := lt_of_get h
  have hd : ks = ks.take i ++ (k :: ks.drop (i + 1)) := by
    conv => lhs; rw [← List.take_append_drop (i + 1) ks, take_get h, List.append_assoc]
    rfl
  have hl : (ownB s (ks.take i)).length = pr s ks i := by simp [ownB, pr]
  conv => lhs; arg 1; rw [hd, ownB_append]
  rw [List.getElem?_append_right (by omega), hl, Nat.sub_self]
  simp [ownB, hs]

/-- The j-th of a sort stands there. -/
def SelAt (s : Nat) (ks : List Nat) (j n : Nat) : Prop := ∃ k, ks[n]? = some k ∧ k / 2 = s ∧ pr s ks n = j

theorem SelAt.lt {s : Nat} {ks : List Nat} {j n : Nat} (h : SelAt s ks j n) : n < ks.length := by
  obtain ⟨k, hk, _⟩ := h; exact lt_of_get hk

theorem SelAt.own {s : Nat} {ks : List Nat} {j n k : Nat} (h : SelAt s ks j n) (hk : ks[n]? = some k) : k / 2 = s ∧ (ownB s ks)[j]? = some (k % 2 == 0) := by
  obtain ⟨k', h1, h2, h3⟩ := h
  rw [hk] at h1
  simp only [Option.some.injEq] at h1
  subst h1
  exact ⟨h2, by rw [← h3]; exact own_get hk h2⟩

theorem SelAt.jlt {s : Nat} {ks : List Nat} {j n : Nat} (h : SelAt s ks j n) : j < (ownB s ks).length := by
  obtain ⟨k, hk, _⟩ := id h; exact lt_of_get (h.own hk).2

theorem SelAt.isSel {s : Nat} {ks : List Nat} {j n : Nat} : SelAt s ks j n ↔ IsSel (isB s ks) 1 j n := by
  constructor
  · rintro ⟨k, h1, h2, h3⟩
    refine ⟨by rw [isB_length]; exact lt_of_get h1, by rw [isB_get s h1, h2]; simp, by rw [rk_isB, h3]⟩
  · rintro ⟨h1, h2, h3⟩
    rw [isB_length] at h1
    have hk := List.getElem?_eq_getElem h1
    rw [isB_get s hk] at h2
    refine ⟨_, hk, ?_, by rw [rk_isB] at h3; omega⟩
    by_cases he : ks[n] / 2 = s
    · exact he
    · rw [show (ks[n] / 2 == s) = false by simp [he]] at h2; cases h2

theorem SelAt.unique {s : Nat} {ks : List Nat} {j n m : Nat} (h : SelAt s ks j n) (k : SelAt s ks j m) : n = m :=
  (SelAt.isSel.1 h).unique (.inr rfl) (SelAt.isSel.1 k)

theorem SelAt.at {s : Nat} {ks : List Nat} {i k : Nat} (h : ks[i]? = some k) (hs : k / 2 = s) : SelAt s ks (pr s ks i) i := ⟨k, h, hs, rfl⟩

/-- Where it stands against a place. -/
theorem SelAt.cmp {s : Nat} {ks : List Nat} {j n : Nat} (h : SelAt s ks j n) (i : Nat) : j < pr s ks i ↔ n < i := by
  obtain ⟨k, h1, h2, h3⟩ := h
  have h4 := pr_succ s h1
  rw [if_pos h2] at h4
  constructor
  · intro hj
    rcases Nat.lt_or_ge n i with h | h
    · exact h
    · have := pr_mono s ks h; omega
  · intro hn
    have := pr_mono s ks (show n + 1 ≤ i from hn)
    omega

/-- The other one of each one's pair, of its own sort. -/
def MixMate (ks : List Nat) (i m : Nat) : Prop := ∃ s a c, s < 2 ∧ SelAt s ks a i ∧ SelAt s ks c m ∧ MateOf (ownB s ks) a c

theorem MixMate.symm {ks : List Nat} {i m : Nat} (h : MixMate ks i m) : MixMate ks m i := by
  obtain ⟨s, a, c, hs, h1, h2, h3⟩ := h
  exact ⟨s, c, a, hs, h2, h1, h3.symm⟩

theorem MixMate.lt {ks : List Nat} {i m : Nat} (h : MixMate ks i m) : m < ks.length := by
  obtain ⟨s, a, c, _, h1, h2, h3⟩ := h
  exact h2.lt

theorem MixMate.unique {ks : List Nat} {i m n : Nat} (h : MixMate ks i m) (k : MixMate ks i n) : m = n := by
  obtain ⟨s, a, c, _, h1, h2, h3⟩ := h
  obtain ⟨s', a', c', _, k1, k2, k3⟩ := k
  obtain ⟨x, hx, hx2, hx3⟩ := h1
  obtain ⟨y, hy, hy2, hy3⟩ := k1
  rw [hx] at hy
  simp only [Option.some.injEq] at hy
  subst hy
  rw [hx2] at hy2
  subst hy2
  rw [hx3] at hy3
  subst hy3
  rw [h3.unique k3] at h2
  exact h2.unique k2

/-- Where the innermost round pair opens that a place stands within. -/
def OwnerOf (ks : List Nat) (i : Nat) (r : Int) : Prop :=
  (ex (ownB 0 ks) (pr 0 ks i) = 0 ∧ r = -1) ∨ (0 < ex (ownB 0 ks) (pr 0 ks i) ∧ ∃ o n : Nat, IsBehind (ownB 0 ks) (pr 0 ks i) (ex (ownB 0 ks) (pr 0 ks i) - 1) o ∧ SelAt 0 ks o n ∧ r = n)

theorem OwnerOf.unique {ks : List Nat} {i : Nat} {r q : Int} (h : OwnerOf ks i r) (k : OwnerOf ks i q) : r = q := by
  rcases h with ⟨h0, h⟩ | ⟨h0, o, n, h1, h2, rfl⟩ <;> rcases k with ⟨k0, k⟩ | ⟨k0, p, m, k1, k2, rfl⟩
  · omega
  · omega
  · omega
  · rw [h1.unique k1] at h2
    rw [h2.unique k2]

theorem sel_ex {s : Nat} {ks : List Nat} {j : Nat} (hj : j < (ownB s ks).length) : ∃ n, SelAt s ks j n := by
  rw [ownB_length] at hj
  obtain ⟨n, h1, h2, h3, h4⟩ := first_of (fun n => j < pr s ks n) 0 ks.length (by simpa using hj)
  obtain ⟨m, rfl⟩ : ∃ m, n = m + 1 := ⟨n - 1, by
    rcases Nat.eq_zero_or_pos n with h | h
    · rw [h, pr_zero] at h3; omega
    · omega⟩
  have hm : m < ks.length := by omega
  have hk := List.getElem?_eq_getElem hm
  have h5 := pr_succ s hk
  have h6 := h4 m (by omega) (by omega)
  by_cases hs : ks[m] / 2 = s
  · rw [if_pos hs] at h5
    exact ⟨m, _, hk, hs, by omega⟩
  · rw [if_neg hs] at h5
    omega

/-- Both sorts are balanced. -/
def MBal (ks : List Nat) : Prop := Bal (ownB 0 ks) ∧ Bal (ownB 1 ks)

theorem MBal.get {ks : List Nat} (h : MBal ks) {s : Nat} (hs : s < 2) : Bal (ownB s ks) := by
  match s, hs with
  | 0, _ => exact h.1
  | 1, _ => exact h.2

theorem MBal.mate {ks : List Nat} (h : MBal ks) (h4 : ∀ k ∈ ks, k < 4) {i : Nat} (hi : i < ks.length) : ∃ m, MixMate ks i m := by
  have hk := List.getElem?_eq_getElem hi
  have hs : ks[i] / 2 < 2 := by have := h4 _ (List.mem_of_getElem? hk); omega
  have h1 := SelAt.at hk rfl
  obtain ⟨c, hc⟩ := (h.get hs).mate h1.jlt
  obtain ⟨m, hm⟩ := sel_ex hc.lt
  exact ⟨m, _, _, c, hs, h1, hm, hc⟩

/-! Kinds that are counted. -/

theorem cntK_get {ks : List Nat} {i k : Nat} (h : ks[i]? = some k) (kind : Nat) : cntK (ks.take (i + 1)) kind = cntK (ks.take i) kind + if k = kind then 1 else 0 := by
  unfold cntK
  rw [take_get h, List.filter_append, List.length_append]
  by_cases hk : k = kind <;> simp [hk]

theorem count_own {ks : List Nat} (s : Nat) (n : Nat) (hn : n ≤ ks.length) :
    pr s ks n = cntK (ks.take n) (2 * s) + cntK (ks.take n) (2 * s + 1) ∧ ex (ownB s ks) (pr s ks n) = cntK (ks.take n) (2 * s) - (cntK (ks.take n) (2 * s + 1) : Int) := by
  induction n with
  | zero => simp [pr_zero, cntK, ex_zero]
  | succ n ih =>
    obtain ⟨h1, h2⟩ := ih (by omega)
    have hk := List.getElem?_eq_getElem (l := ks) (i := n) (by omega)
    have hp := pr_succ s hk
    have c0 := cntK_get hk (2 * s)
    have c1 := cntK_get hk (2 * s + 1)
    generalize ks[n] = k at *
    by_cases hks : k / 2 = s
    · rw [if_pos hks] at hp
      have ho := own_get hk hks
      have hb := bit_ex (ownB s ks) (lt_of_get ho)
      rw [List.getD_eq_getElem?_getD, ho, Option.getD_some, ← hp] at hb
      by_cases ho2 : k % 2 = 0
      · rw [if_pos (by simp [ho2])] at hb
        rw [if_pos (by omega)] at c0
        rw [if_neg (by omega)] at c1
        rw [hb, c0, c1, hp]
        omega
      · rw [if_neg (by simp [ho2])] at hb
        rw [if_neg (by omega)] at c0
        rw [if_pos (by omega)] at c1
        rw [hb, c0, c1, hp]
        omega
    · rw [if_neg hks] at hp
      rw [if_neg (by omega)] at c0
      rw [if_neg (by omega)] at c1
      rw [hp, c0, c1]
      exact ⟨by omega, by rw [Nat.add_zero, h2]; omega⟩

end Go.Proofs.YtcfdpogegngplaaGreat

/- The contracts of package mixed: the index of a word, as it is asked. -/
namespace Go.Proofs.YtcfdpogegngplaaGreat
open Go.RowKit

theorem quiet_eq {P : Program} {f : FuncId} {args : Array Value} {w : World} {n : Nat} {v : Value}
    (h : Calls P f args (w.drewN n) fun e w' => e = .returned v ∧ w.drewN n = w') : Calls P f args (w.drewN n) fun e w'' => e = .returned v ∧ ∃ m, w'' = w.drewN m :=
  h.mono fun _ _ ⟨he, hm⟩ => ⟨he, n, hm.symm⟩

def mixCells (bo : Nat) (bi bp : Nat → Nat) : Array Value :=
  #[.pointer (some ⟨bo, 0, none⟩), .pointer (some ⟨bi 0, 0, none⟩), .pointer (some ⟨bp 0, 0, none⟩), .pointer (some ⟨bi 1, 0, none⟩), .pointer (some ⟨bp 1, 0, none⟩)]

/-- A Mixed of a word: its parts, asked at most q times; each part's blocks bear the part's label. -/
structure MixP (w : World) (b bo : Nat) (bi bp : Nat → Nat) (ks : List Nat) (q : Nat) (F : Nat → Prop) : Prop where
  blk : w.heap[b]? = some (.cells (mixCells bo bi bp) 344 (0, 0))
  parts : ∃ lab : Nat → Nat, lab b = 1 ∧ F b ∧ (∃ d a Fo, IdxAt w bo (openB ks) d a Fo ∧ ∀ x, Fo x → F x ∧ lab x = 2) ∧
    (∀ s, s < 2 → ∃ d a Fi, IdxAt w (bi s) (isB s ks) d a Fi ∧ a ≤ q ∧ ∀ x, Fi x → F x ∧ lab x = 3 + s) ∧
    (∀ s, s < 2 → ∃ d Fp, ParAt w (bp s) (ownB s ks) d q Fp ∧ ∀ x, Fp x → F x ∧ lab x = 5 + s)
  bal : MBal ks
  k4 : ∀ k ∈ ks, k < 4
  le : ks.length ≤ 100000000
  old : ∀ x, F x → x < w.heap.size

def MixQ (wh : World) (b bo : Nat) (bi bp : Nat → Nat) (ks : List Nat) (q : Nat) (F : Nat → Prop) (w' : World) : Prop :=
  MixP w' b bo bi bp ks q (grow F wh w') ∧ Keeps F wh w'

section
variable {w : World} {b bo : Nat} {bi bp : Nat → Nat} {ks : List Nat} {q : Nat} {F : Nat → Prop}

theorem MixP.mono (h : MixP w b bo bi bp ks q F) {G : Nat → Prop} (hG : ∀ x, F x → G x) (hold : ∀ x, G x → x < w.heap.size) : MixP w b bo bi bp ks q G := by
  obtain ⟨h1, ⟨lab, h2, h3, ⟨d, a, Fo, h4, h5⟩, h6, h7⟩, h8, h9, h10, _⟩ := h
  refine ⟨h1, ⟨lab, h2, hG b h3, ⟨d, a, Fo, h4, fun x hx => ⟨hG x (h5 x hx).1, (h5 x hx).2⟩⟩, fun s hs => ?_, fun s hs => ?_⟩, h8, h9, h10, hold⟩
  · obtain ⟨d, a, Fi, k1, k2, k3⟩ := h6 s hs
    exact ⟨d, a, Fi, k1, k2, fun x hx => ⟨hG x (k3 x hx).1, (k3 x hx).2⟩⟩
  · obtain ⟨d, Fp, k1, k3⟩ := h7 s hs
    exact ⟨d, Fp, k1, fun x hx => ⟨hG x (k3 x hx).1, (k3 x hx).2⟩⟩

theorem MixP.keeps (h : MixP w b bo bi bp ks q F) {w' : World} {G : Nat → Prop} (k : Keeps G w w') (hd : ∀ x, F x → ¬ G x) : MixP w' b bo bi bp ks q F := by
  obtain ⟨h1, ⟨lab, h2, h3, ⟨d, a, Fo, h4, h5⟩, h6, h7⟩, h8, h9, h10, h11⟩ := h
  refine ⟨k.at h1 (hd b h3), ⟨lab, h2, h3, ⟨d, a, Fo, h4.keeps k (fun x hx => hd x (h5 x hx).1), h5⟩, fun s hs => ?_, fun s hs => ?_⟩, h8, h9, h10, fun x hx => Nat.lt_of_lt_of_le (h11 x hx) k.size⟩
  · obtain ⟨d, a, Fi, k1, k2, k3⟩ := h6 s hs
    exact ⟨d, a, Fi, k1.keeps k (fun x hx => hd x (k3 x hx).1), k2, k3⟩
  · obtain ⟨d, Fp, k1, k3⟩ := h7 s hs
    exact ⟨d, Fp, k1.keeps k (fun x hx => hd x (k3 x hx).1), k3⟩

theorem MixP.more (h : MixP w b bo bi bp ks q F) {q' : Nat} (hq : q ≤ q') : MixP w b bo bi bp ks q' F := by
  obtain ⟨h1, ⟨lab, h2, h3, h4, h6, h7⟩, h8, h9, h10, h11⟩ := h
  refine ⟨h1, ⟨lab, h2, h3, h4, fun s hs => ?_, fun s hs => ?_⟩, h8, h9, h10, h11⟩
  · obtain ⟨d, a, Fi, k1, k2, k3⟩ := h6 s hs
    exact ⟨d, a, Fi, k1, by omega, k3⟩
  · obtain ⟨d, Fp, k1, k3⟩ := h7 s hs
    exact ⟨d, Fp, k1.more hq, k3⟩

theorem MixQ.more {wh : World} (h : MixQ wh b bo bi bp ks q F w) {q' : Nat} (hq : q ≤ q') : MixQ wh b bo bi bp ks q' F w := ⟨h.1.more hq, h.2⟩

theorem MixQ.trans {wh w1 w2 : World} {q' : Nat} (hF : ∀ x, F x → x < wh.heap.size) (h : MixQ wh b bo bi bp ks q F w1) (k : MixQ w1 b bo bi bp ks q' (grow F wh w1) w2) : MixQ wh b bo bi bp ks q' F w2 := by
  obtain ⟨h1, h2⟩ := h
  obtain ⟨k1, k2⟩ := k
  refine ⟨k1.mono (grow_trans h2.size k2.size) (grow_old hF (Nat.le_trans h2.size k2.size)), h2.trans k2 ?_⟩
  rintro x hx (h | h)
  · exact h
  · omega

theorem MixQ.keeps {wh w1 w2 : World} {G : Nat → Prop} (h : MixQ wh b bo bi bp ks q F w1) (k : Keeps G w1 w2) (hG : ∀ x, x < w1.heap.size → ¬ G x) : MixQ wh b bo bi bp ks q F w2 := by
  obtain ⟨h1, h2⟩ := h
  refine ⟨(h1.keeps k (fun x hx => hG x (h1.old x hx))).mono ?_ ?_, h2.trans k (fun x hx hg => absurd hg (hG x (Nat.lt_of_lt_of_le hx h2.size)))⟩
  · rintro x (h | h)
    · exact .inl h
    · exact .inr ⟨h.1, Nat.lt_of_lt_of_le h.2 k.size⟩
  · rintro x (h | h)
    · exact Nat.lt_of_lt_of_le (h1.old x (.inl h)) k.size
    · exact h.2

/-- The index of a sort, and what remains of the whole when it has been asked. -/
theorem MixP.idx (h : MixP w b bo bi bp ks q F) (s : Nat) (hs : s < 2) : ∃ d a Fi, IdxAt w (bi s) (isB s ks) d a Fi ∧ a ≤ q ∧
    ∀ w' q' d' a', q ≤ q' → a' ≤ q' → IdxAfter w (bi s) (isB s ks) d' a' Fi w' → MixQ w b bo bi bp ks q' F w' := by
  obtain ⟨h1, ⟨lab, h2, h3, ⟨d0, a0, Fo, h4, h5⟩, h6, h7⟩, h8, h9, h10, h11⟩ := h
  obtain ⟨d, a, Fi, k1, k2, k3⟩ := h6 s hs
  refine ⟨d, a, Fi, k1, k2, fun w' q' d' a' hq ha hA => ?_⟩
  obtain ⟨hI, hk⟩ := hA
  have hl : ∀ x, x < w.heap.size → (if x < w.heap.size then lab x else 3 + s) = lab x := fun x hx => if_pos hx
  have hb := lt_of_block h1
  refine ⟨⟨hk.at h1 (fun e => by have := (k3 b e).2; omega), ⟨fun x => if x < w.heap.size then lab x else 3 + s, (hl b hb).trans h2, .inl h3, ⟨d0, a0, Fo, h4.keeps hk (fun x hx e => by have := (k3 x e).2; have := (h5 x hx).2; omega), fun x hx => ⟨.inl (h5 x hx).1, (hl x (h4.old x hx)).trans (h5 x hx).2⟩⟩, fun s' hs' => ?_, fun s' hs' => ?_⟩, h8, h9, h10, grow_old h11 hk.size⟩, hk.mono (fun x _ hx => (k3 x hx).1)⟩
  · by_cases hss : s' = s
    · subst hss
      refine ⟨d', a', grow Fi w w', hI, ha, ?_⟩
      rintro x (hx | hx)
      · exact ⟨.inl (k3 x hx).1, (hl x (k1.old x hx)).trans (k3 x hx).2⟩
      · exact ⟨.inr hx, if_neg (by omega)⟩
    · obtain ⟨d1, a1, F1, m1, m2, m3⟩ := h6 s' hs'
      exact ⟨d1, a1, F1, m1.keeps hk (fun x hx e => by have := (k3 x e).2; have := (m3 x hx).2; omega), by omega, fun x hx => ⟨.inl (m3 x hx).1, (hl x (m1.old x hx)).trans (m3 x hx).2⟩⟩
  · obtain ⟨d1, F1, m1, m3⟩ := h7 s' hs'
    exact ⟨d1, F1, (m1.keeps hk (fun x hx e => by have := (k3 x e).2; have := (m3 x hx).2; omega)).more hq, fun x hx => ⟨.inl (m3 x hx).1, (hl x (m1.old x hx)).trans (m3 x hx).2⟩⟩

/-- The parentheses of a sort, and what remains of the whole when they have been asked. -/
theorem MixP.par (h : MixP w b bo bi bp ks q F) (s : Nat) (hs : s < 2) : ∃ d Fp, ParAt w (bp s) (ownB s ks) d q Fp ∧
    ∀ w' q' d', q ≤ q' → ParAfter w (bp s) (ownB s ks) d' q' Fp w' → MixQ w b bo bi bp ks q' F w' := by
  obtain ⟨h1, ⟨lab, h2, h3, ⟨d0, a0, Fo, h4, h5⟩, h6, h7⟩, h8, h9, h10, h11⟩ := h
  obtain ⟨d, Fp, k1, k3⟩ := h7 s hs
  refine ⟨d, Fp, k1, fun w' q' d' hq hA => ?_⟩
  obtain ⟨hI, hk⟩ := hA
  have hl : ∀ x, x < w.heap.size → (if x < w.heap.size then lab x else 5 + s) = lab x := fun x hx => if_pos hx
  have hb := lt_of_block h1
  refine ⟨⟨hk.at h1 (fun e => by have := (k3 b e).2; omega), ⟨fun x => if x < w.heap.size then lab x else 5 + s, (hl b hb).trans h2, .inl h3, ⟨d0, a0, Fo, h4.keeps hk (fun x hx e => by have := (k3 x e).2; have := (h5 x hx).2; omega), fun x hx => ⟨.inl (h5 x hx).1, (hl x (h4.old x hx)).trans (h5 x hx).2⟩⟩, fun s' hs' => ?_, fun s' hs' => ?_⟩, h8, h9, h10, grow_old h11 hk.size⟩, hk.mono (fun x _ hx => (k3 x hx).1)⟩
  · obtain ⟨d1, a1, F1, m1, m2, m3⟩ := h6 s' hs'
    exact ⟨d1, a1, F1, m1.keeps hk (fun x hx e => by have := (k3 x e).2; have := (m3 x hx).2; omega), by omega, fun x hx => ⟨.inl (m3 x hx).1, (hl x (m1.old x hx)).trans (m3 x hx).2⟩⟩
  · by_cases hss : s' = s
    · subst hss
      refine ⟨d', grow Fp w w', hI, ?_⟩
      rintro x (hx | hx)
      · exact ⟨.inl (k3 x hx).1, (hl x (k1.old x hx)).trans (k3 x hx).2⟩
      · exact ⟨.inr hx, if_neg (by omega)⟩
    · obtain ⟨d1, F1, m1, m3⟩ := h7 s' hs'
      exact ⟨d1, F1, (m1.keeps hk (fun x hx e => by have := (k3 x e).2; have := (m3 x hx).2; omega)).more hq, fun x hx => ⟨.inl (m3 x hx).1, (hl x (m1.old x hx)).trans (m3 x hx).2⟩⟩

/-- The cells of the pair of a sort. -/
theorem MixP.cells (h : MixP w b bo bi bp ks q F) (s : Nat) (hs : s < 2) : w.cell? ⟨b, 1 + s * 2, none⟩ = some (.pointer (some ⟨bi s, 0, none⟩)) ∧ w.cell? ⟨b, 1 + s * 2 + 1, none⟩ = some (.pointer (some ⟨bp s, 0, none⟩)) := by
  rw [World.cell_of_heap h.blk, World.cell_of_heap h.blk]
  match s, hs with
  | 0, _ => exact ⟨rfl, rfl⟩
  | 1, _ => exact ⟨rfl, rfl⟩

end
end Go.Proofs.YtcfdpogegngplaaGreat

/- The contracts of package mixed: Mate. -/
namespace Go.Proofs.YtcfdpogegngplaaGreat
open Go.RowKit

theorem alloc_cell {w : World} {a : Addr} {v : Value} (h : w.cell? a = some v) (o : Obj) : (w.alloc o).cell? a = some v := ((Keeps.refl (fun _ => False) w).alloc o).cellF h
section
variable {wh wr : World} {b bo : Nat} {bi bp : Nat → Nat} {ks : List Nat} {q : Nat} {F : Nat → Prop} (hF : ∀ x, F x → x < wh.heap.size) (h : MixQ wh b bo bi bp ks q F wr)
include hF h

omit hF in
theorem MixQ.drewN (n : Nat) : MixQ wh b bo bi bp ks q F (wr.drewN n) := h.keeps (G := fun _ => False) ((Keeps.refl _ wr).drewN n) (fun _ _ h => h)
omit hF in
theorem MixQ.drew : MixQ wh b bo bi bp ks q F wr.drew := h.keeps (G := fun _ => False) ((Keeps.refl _ wr).drew) (fun _ _ h => h)
omit hF in
theorem MixQ.alloc (o : Obj) : MixQ wh b bo bi bp ks q F (wr.alloc o) := h.keeps (G := fun _ => False) ((Keeps.refl _ wr).alloc o) (fun _ _ h => h)

end

end Go.Proofs.YtcfdpogegngplaaGreat

/- The contracts of package mixed: Owner, Rank. -/
namespace Go.Proofs.YtcfdpogegngplaaGreat
open Go.RowKit


end Go.Proofs.YtcfdpogegngplaaGreat

/- The contracts of package mixed: Rank, Select. -/
namespace Go.Proofs.YtcfdpogegngplaaGreat
open Go.RowKit



/-- One of a kind stands there, with so many ahead of it. -/
def SelK (ks : List Nat) (kind k n : Nat) : Prop := ks[n]? = some kind ∧ cntK (ks.take n) kind = k

theorem cntK_mono (ks : List Nat) (kind : Nat) {a c : Nat} (h : a ≤ c) : cntK (ks.take a) kind ≤ cntK (ks.take c) kind := by
  have : ks.take c = ks.take a ++ (ks.take c).drop a := by
    conv => lhs; rw [← List.take_append_drop a (ks.take c)]
    rw [List.take_take, Nat.min_eq_left h]
  rw [this]
  unfold cntK
  rw [List.filter_append, List.length_append]
  omega

theorem SelK.unique {ks : List Nat} {kind k n m : Nat} (h : SelK ks kind k n) (h2 : SelK ks kind k m) : n = m := by
  rcases Nat.lt_trichotomy n m with hl | rfl | hl
  · have h3 := cntK_get h.1 kind
    rw [if_pos rfl] at h3
    have h4 := cntK_mono ks kind (show n + 1 ≤ m from hl)
    have := h.2; have := h2.2; omega
  · rfl
  · have h3 := cntK_get h2.1 kind
    rw [if_pos rfl] at h3
    have h4 := cntK_mono ks kind (show m + 1 ≤ n from hl)
    have := h.2; have := h2.2; omega


end Go.Proofs.YtcfdpogegngplaaGreat

/- Blocks by labels: vectors and indexes that grow side by side. -/
namespace Go.Proofs.YtcfdpogegngplaaGreat
open Go.RowKit

/-- All blocks from n on bear a new label. -/
def relab (lab : Nat → Nat) (n j : Nat) : Nat → Nat := fun x => if x < n then lab x else j

theorem relab_old {lab : Nat → Nat} {n j x : Nat} (h : x < n) : relab lab n j x = lab x := if_pos h
theorem relab_new {lab : Nat → Nat} {n j x : Nat} (h : n ≤ x) : relab lab n j x = j := if_neg (by omega)

def VecL (w : World) (lab : Nat → Nat) (j b : Nat) (v : Value) (l : List Bool) : Prop := VecAt w b v l ∧ lab b = j ∧ ∀ k, v.ownBlock = some k → lab k = j
def IdxL (w : World) (lab : Nat → Nat) (j b : Nat) (l : List Bool) : Prop := ∃ F, IdxAt w b l false 0 F ∧ ∀ x, F x → lab x = j
def ParL (w : World) (lab : Nat → Nat) (j b : Nat) (l : List Bool) : Prop := ∃ F, ParAt w b l false 0 F ∧ ∀ x, F x → lab x = j

theorem VecL.keepsL {w w' : World} {lab : Nat → Nat} {i b : Nat} {v : Value} {l : List Bool} {G : Nat → Prop} (h : VecL w lab i b v l) (k : Keeps G w w') (hG : ∀ x, lab x = i → ¬ G x) (j : Nat) : VecL w' (relab lab w.heap.size j) i b v l :=
  ⟨h.1.keeps k (hG b h.2.1) (fun x hx => hG x (h.2.2 x hx)), (relab_old h.1.lt).trans h.2.1, fun x hx => (relab_old (h.1.apart x hx).2).trans (h.2.2 x hx)⟩

theorem IdxL.keepsL {w w' : World} {lab : Nat → Nat} {i b : Nat} {l : List Bool} {G : Nat → Prop} (h : IdxL w lab i b l) (k : Keeps G w w') (hG : ∀ x, lab x = i → ¬ G x) (j : Nat) : IdxL w' (relab lab w.heap.size j) i b l := by
  obtain ⟨F, h1, h2⟩ := h
  exact ⟨F, h1.keeps k (fun x hx => hG x (h2 x hx)), fun x hx => (relab_old (h1.old x hx)).trans (h2 x hx)⟩

theorem ParL.keepsL {w w' : World} {lab : Nat → Nat} {i b : Nat} {l : List Bool} {G : Nat → Prop} (h : ParL w lab i b l) (k : Keeps G w w') (hG : ∀ x, lab x = i → ¬ G x) (j : Nat) : ParL w' (relab lab w.heap.size j) i b l := by
  obtain ⟨F, h1, h2⟩ := h
  exact ⟨F, h1.keeps k (fun x hx => hG x (h2 x hx)), fun x hx => (relab_old (h1.old x hx)).trans (h2 x hx)⟩

theorem VecL.new (w : World) (lab : Nat → Nat) (j : Nat) : VecL (w.alloc (.cells #[.slice none 0 0, .int .i64 0] 203)) (relab lab w.heap.size j) j w.heap.size (.slice none 0 0) [] :=
  ⟨vec_new w, relab_new (Nat.le_refl _), fun k hk => by simp [Value.ownBlock] at hk⟩

/-- The rest of an index that is being made. -/
structure IxS (w0 : World) (lab : Nat → Nat) (bm : Nat) (cs : Array Value) (bi bp : Nat → Nat) (ks : List Nat) (s : Nat) (wr : World) : Prop where
  base : ∀ x, x < w0.heap.size → lab x = 0
  keeps : Keeps (fun _ => False) w0 wr
  blk : wr.heap[bm]? = some (.cells cs 344 (0, 0))
  lb : lab bm = 1
  idx : ∀ s', s' < s → IdxL wr lab (3 + s') (bi s') (isB s' ks)
  par : ∀ s', s' < s → ParL wr lab (5 + s') (bp s') (ownB s' ks)
  bal : ∀ s', s' < s → Bal (ownB s' ks)

theorem IxS.keepsL {w0 : World} {lab : Nat → Nat} {bm : Nat} {cs : Array Value} {bi bp : Nat → Nat} {ks : List Nat} {s : Nat} {wr w' : World} {G : Nat → Prop} (h : IxS w0 lab bm cs bi bp ks s wr)
    (k : Keeps G wr w') (hs : s ≤ 2) (hG : ∀ x, lab x ≤ 6 → lab x ≠ 2 → ¬ G x) (j : Nat) : IxS w0 (relab lab wr.heap.size j) bm cs bi bp ks s w' := by
  have hb := lt_of_block h.blk
  refine ⟨fun x hx => (relab_old (Nat.lt_of_lt_of_le hx h.keeps.size)).trans (h.base x hx), h.keeps.trans k (fun x hx e => hG x (by rw [h.base x hx]; omega) (by rw [h.base x hx]; omega) e), k.at h.blk (hG bm (by rw [h.lb]; omega) (by rw [h.lb]; omega)), (relab_old hb).trans h.lb,
    fun s' hs' => (h.idx s' hs').keepsL k (fun x hx => hG x (by omega) (by omega)) j, fun s' hs' => (h.par s' hs').keepsL k (fun x hx => hG x (by omega) (by omega)) j, h.bal⟩

end Go.Proofs.YtcfdpogegngplaaGreat

/- The contract of package mixed: Index. -/
namespace Go.Proofs.YtcfdpogegngplaaGreat
open Go.RowKit

/-- The cells of a Mixed whose first sorts are laid. -/
def partCells (bi bp : Nat → Nat) (s : Nat) : Array Value :=
  #[.pointer none, .pointer (if 0 < s then some ⟨bi 0, 0, none⟩ else none), .pointer (if 0 < s then some ⟨bp 0, 0, none⟩ else none), .pointer (if 1 < s then some ⟨bi 1, 0, none⟩ else none), .pointer (if 1 < s then some ⟨bp 1, 0, none⟩ else none)]

def upd (f : Nat → Nat) (s y : Nat) : Nat → Nat := fun x => if x = s then y else f x
theorem upd_same (f : Nat → Nat) (s y : Nat) : upd f s y s = y := if_pos rfl
theorem upd_other (f : Nat → Nat) {s x : Nat} (y : Nat) (h : x ≠ s) : upd f s y x = f x := if_neg h

theorem partCells_step (bi bp : Nat → Nat) (s y z : Nat) (hs : s < 2) :
    ((partCells bi bp s).setIfInBounds (1 + s * 2) (.pointer (some ⟨y, 0, none⟩))).setIfInBounds (1 + s * 2 + 1) (.pointer (some ⟨z, 0, none⟩)) = partCells (upd bi s y) (upd bp s z) (s + 1) := by
  match s, hs with
  | 0, _ => rfl
  | 1, _ => rfl

theorem IxS.step {w0 w5 W : World} {lab : Nat → Nat} {bm bo y z s : Nat} {bi bp : Nat → Nat} {ks : List Nat} {vo : Value} {l : List Bool} (hs : s < 2) (hX : IxS w0 lab bm (partCells bi bp s) bi bp ks s w5) (hB : Bal (ownB s ks)) (hP : ParL w5 lab (5 + s) y (ownB s ks)) (hO : VecL w5 lab 2 bo vo l)
    (hI : IdxAt W z (isB s ks) false 0 (fun k => w5.heap.size ≤ k ∧ k < W.heap.size)) (hk : Keeps (fun _ => False) w5 W) :
    ∃ lab', IxS w0 lab' bm (partCells (upd bi s z) (upd bp s y) (s + 1)) (upd bi s z) (upd bp s y) ks (s + 1) ((W.setCell ⟨bm, 1 + s * 2, none⟩ (.pointer (some ⟨z, 0, none⟩))).setCell ⟨bm, 1 + s * 2 + 1, none⟩ (.pointer (some ⟨y, 0, none⟩))) ∧
      VecL ((W.setCell ⟨bm, 1 + s * 2, none⟩ (.pointer (some ⟨z, 0, none⟩))).setCell ⟨bm, 1 + s * 2 + 1, none⟩ (.pointer (some ⟨y, 0, none⟩))) lab' 2 bo vo l := by
  have hXW := hX.keepsL hk (by omega) (fun _ _ _ h => h) (3 + s)
  have hPW := hP.keepsL hk (fun _ _ h => h) (3 + s)
  have hOW := hO.keepsL hk (fun _ _ h => h) (3 + s)
  have hIW : IdxL W (relab lab w5.heap.size (3 + s)) (3 + s) z (isB s ks) := ⟨_, hI, fun x hx => relab_new hx.1⟩
  generalize relab lab w5.heap.size (3 + s) = lb at *
  have k2 : Keeps (fun x => x = bm) W ((W.setCell ⟨bm, 1 + s * 2, none⟩ (.pointer (some ⟨z, 0, none⟩))).setCell ⟨bm, 1 + s * 2 + 1, none⟩ (.pointer (some ⟨y, 0, none⟩))) :=
    ((Keeps.refl (fun x => x = bm) W).setCell (p := ⟨bm, 1 + s * 2, none⟩) (.inl rfl) _).setCell (p := ⟨bm, 1 + s * 2 + 1, none⟩) (.inl rfl) _
  have hbl := hXW.lb
  have hblt := lt_of_block hXW.blk
  have hne : ∀ i, i ≠ 1 → ∀ x, lb x = i → ¬ x = bm := fun i hi x hx e => by rw [e, hbl] at hx; omega
  refine ⟨relab lb W.heap.size 9, ⟨fun x hx => (relab_old (Nat.lt_of_lt_of_le hx hXW.keeps.size)).trans (hXW.base x hx), hXW.keeps.trans k2 (fun x hx e => by have := hXW.base x hx; rw [e, hbl] at this; omega), ?_, (relab_old hblt).trans hbl, fun s' hs' => ?_, fun s' hs' => ?_, fun s' hs' => ?_⟩, hOW.keepsL k2 (hne 2 (by omega)) 9⟩
  · rw [← partCells_step bi bp s z y hs]
    exact heap_setCell_same (heap_setCell_same hXW.blk _ _) _ _
  · by_cases hss : s' = s
    · subst hss
      rw [upd_same]
      exact hIW.keepsL k2 (hne _ (by omega)) 9
    · rw [upd_other _ _ hss]
      exact (hXW.idx s' (by omega)).keepsL k2 (hne _ (by omega)) 9
  · by_cases hss : s' = s
    · subst hss
      rw [upd_same]
      exact hPW.keepsL k2 (hne _ (by omega)) 9
    · rw [upd_other _ _ hss]
      exact (hXW.par s' (by omega)).keepsL k2 (hne _ (by omega)) 9
  · by_cases hss : s' = s
    · rw [hss]; exact hB
    · exact hX.bal s' (by omega)

end Go.Proofs.YtcfdpogegngplaaGreat

/- The contracts of package mixed: Parse; of the library: IndexByte. -/
namespace Go.Proofs.YtcfdpogegngplaaGreat
open Go.RowKit

/-- The kind of a sign; below nought: none. -/
def kindZ (c : UInt8) : Int := Lib.indexByte [40, 41, 91, 93] c

/-- What Parse has when it has read so far. -/
def ParS (w : World) (b : Nat) (ks : List Nat) (wr : World) : Prop := ∃ v, WordAt wr b v ks ∧ w.heap.size ≤ b ∧ (∀ k, v.ownBlock = some k → w.heap.size ≤ k) ∧ Keeps (fun _ => False) w wr

theorem ParS.grown {w wr w1 : World} {b : Nat} {ks' : List Nat} {v : Value} (hb : w.heap.size ≤ b) (hv : ∀ k, v.ownBlock = some k → w.heap.size ≤ k) (hk : Keeps (fun _ => False) w wr) (h : WordGrown wr b v ks' w1) : ParS w b ks' w1 := by
  obtain ⟨v1, h1, h2, h3⟩ := h
  refine ⟨v1, h1, hb, fun k hk' => ?_, hk.trans h2 (fun x hx e => ?_)⟩
  · rcases h3 with h3 | ⟨k', h3, hk''⟩
    · rw [h3] at hk'; exact hv k hk'
    · rw [h3] at hk'; cases hk'; exact Nat.le_trans hk.size hk''
  · rcases e with rfl | e
    · omega
    · have := hv x e; omega

end Go.Proofs.YtcfdpogegngplaaGreat
