/- Joined texts: Word, MixPure, Mix, Mix2, Mix3, Mix4, Lab, Index, Parse. -/
import Derived.Test.YtblkkcpeodoclaaGreatDoorRef3
import Derived.Test.YtblkkcpeodoclaaGreatDoorParens
import Derived.Laws.StandIn
import Derived.Lib.Bytealg

/- The contracts of package mixed: words. -/
namespace Go.Proofs.YtblkkcpeodoclaaGreatDoor
open Go.RowKit

theorem infoU8 : (Tryz.prog.info? 5).map (fun i => (i.zero, i.size, i.bytes)) = some (some (.int .u8 0), 1, 1) := by kernel_rfl

def kcells (ks : List Nat) : List Value := ks.map fun k : Nat => Value.int .u8 k

/-- Are they all kinds? -/
def Kinds4 (zs : List Int) : Prop := ∀ z ∈ zs, 0 ≤ z ∧ z ≤ 3

/-- It finds one. -/
def SomeNat (w : World) (e : Ending) (w' : World) : Prop := ∃ n : Nat, n ≤ 9223372036854775807 ∧ e = .returned (.int .i64 n) ∧ w = w'

/-- Numbers as letters. -/
def toKs (zs : List Int) : List Nat := zs.map Int.toNat

end Go.Proofs.YtblkkcpeodoclaaGreatDoor

/- Plain laws of words of two sorts. -/
namespace Go.Proofs.YtblkkcpeodoclaaGreatDoor

def openB (ks : List Nat) : List Bool := ks.map fun k => k % 2 == 0
def isB (s : Nat) (ks : List Nat) : List Bool := ks.map fun k => k / 2 == s
def ownB (s : Nat) (ks : List Nat) : List Bool := (ks.filter fun k => k / 2 == s).map fun k => k % 2 == 0
/-- How many of a sort ahead of a place. -/
def pr (s : Nat) (ks : List Nat) (n : Nat) : Nat := ((ks.take n).filter fun k => k / 2 == s).length
/-- How many of a kind. -/
def cntK (ks : List Nat) (kind : Nat) : Nat := (ks.filter fun k => k == kind).length

theorem lt_of_get {α : Type} {l : List α} {i : Nat} {x : α} (h : l[i]? = some x) : i < l.length := by
  rcases Nat.lt_or_ge i l.length with h' | h'
  · exact h'
  · rw [List.getElem?_eq_none h'] at h; cases h

theorem take_get {α : Type} {l : List α} {i : Nat} {x : α} (h : l[i]? = some x) : l.take (i + 1) = l.take i ++ [x] := by
  have hi := lt_of_get h
  rw [List.getElem?_eq_getElem hi] at h
  simp only [Option.some.injEq] at h
  rw [List.take_succ_eq_append_getElem hi, h]

theorem cnt_map (ks : List Nat) (p : Nat → Bool) : cnt (ks.map p) = (ks.filter p).length := by
  induction ks with
  | nil => rfl
  | cons k ks ih => simp only [List.map_cons, cnt, ih, List.filter_cons]; cases p k <;> simp <;> omega

theorem rk_isB (s : Nat) (ks : List Nat) (n : Nat) : rk (isB s ks) 1 n = pr s ks n := by
  unfold rk ofZ isB pr
  rw [if_pos rfl, ← List.map_take, cnt_map]

theorem isB_length (s : Nat) (ks : List Nat) : (isB s ks).length = ks.length := by simp [isB]
theorem openB_length (ks : List Nat) : (openB ks).length = ks.length := by simp [openB]
theorem ownB_length (s : Nat) (ks : List Nat) : (ownB s ks).length = pr s ks ks.length := by simp [ownB, pr]
theorem ownB_le (s : Nat) (ks : List Nat) : (ownB s ks).length ≤ ks.length := by
  unfold ownB; rw [List.length_map]; exact List.length_filter_le _ _

theorem isB_get (s : Nat) {ks : List Nat} {i k : Nat} (h : ks[i]? = some k) : (isB s ks).getD i false = (k / 2 == s) := by
  simp [isB, List.getD_eq_getElem?_getD, h]
theorem openB_get {ks : List Nat} {i k : Nat} (h : ks[i]? = some k) : (openB ks).getD i false = (k % 2 == 0) := by
  simp [openB, List.getD_eq_getElem?_getD, h]

theorem pr_zero (s : Nat) (ks : List Nat) : pr s ks 0 = 0 := by simp [pr]
theorem pr_succ (s : Nat) {ks : List Nat} {i k : Nat} (h : ks[i]? = some k) : pr s ks (i + 1) = pr s ks i + if k / 2 = s then 1 else 0 := by
  unfold pr
  rw [take_get h, List.filter_append, List.length_append]
  by_cases hs : k / 2 = s <;> simp [hs]
theorem pr_mono (s : Nat) (ks : List Nat) {a c : Nat} (h : a ≤ c) : pr s ks a ≤ pr s ks c := by
  unfold pr
  have : ks.take c = ks.take a ++ (ks.take c).drop a := by
    conv => lhs; rw [← List.take_append_drop a (ks.take c)]
    rw [List.take_take, Nat.min_eq_left h]
  rw [this, List.filter_append, List.length_append]
  omega
theorem pr_le (s : Nat) (ks : List Nat) (n : Nat) (h : n ≤ ks.length) : pr s ks n ≤ (ownB s ks).length := by
  rw [ownB_length]; exact pr_mono s ks h

theorem ownB_append (s : Nat) (a c : List Nat) : ownB s (a ++ c) = ownB s a ++ ownB s c := by simp [ownB]
theorem isB_append (s : Nat) (a c : List Nat) : isB s (a ++ c) = isB s a ++ isB s c := by simp [isB]
theorem openB_append (a c : List Nat) : openB (a ++ c) = openB a ++ openB c := by simp [openB]

theorem own_get {s : Nat} {ks : List Nat} {i k : Nat} (h : ks[i]? = some k) (hs : k / 2 = s) : (ownB s ks)[pr s ks i]? = some (k % 2 == 0) := by
  have hi := lt_of_get h
  have hd : ks = ks.take i ++ (k :: ks.drop (i + 1)) := by
    conv => lhs; rw [← List.take_append_drop (i + 1) ks, take_get h, List.append_assoc]
    rfl
  have hl : (ownB s (ks.take i)).length = pr s ks i := by simp [ownB, pr]
  conv => lhs; arg 1; rw [hd, ownB_append]
  rw [List.getElem?_append_right (by omega), hl, Nat.sub_self]
  simp [ownB, hs]

/-- The j-th of a sort stands there. -/
def SelAt (s : Nat) (ks : List Nat) (j n : Nat) : Prop := ∃ k, ks[n]? = some k ∧ k / 2 = s ∧ pr s ks n = j

theorem SelAt.lt {s : Nat} {ks : List Nat} {j n : Nat} (h : SelAt s ks j n) : n < ks.length := by
  obtain ⟨k, hk, _⟩ := h; exact lt_of_get hk

theorem SelAt.own {s : Nat} {ks : List Nat} {j n k : Nat} (h : SelAt s ks j n) (hk : ks[n]? = some k) : k / 2 = s ∧ (ownB s ks)[j]? = some (k % 2 == 0) := by
  obtain ⟨k', h1, h2, h3⟩ := h
  rw [hk] at h1
  simp only [Option.some.injEq] at h1
  subst h1
  exact ⟨h2, by rw [← h3]; exact own_get hk h2⟩

theorem SelAt.jlt {s : Nat} {ks : List Nat} {j n : Nat} (h : SelAt s ks j n) : j < (ownB s ks).length := by
  obtain ⟨k, hk, _⟩ := id h; exact lt_of_get (h.own hk).2

theorem SelAt.isSel {s : Nat} {ks : List Nat} {j n : Nat} : SelAt s ks j n ↔ IsSel (isB s ks) 1 j n := by
  constructor
  · rintro ⟨k, h1, h2, h3⟩
    refine ⟨by rw [isB_length]; exact lt_of_get h1, by rw [isB_get s h1, h2]; simp, by rw [rk_isB, h3]⟩
  · rintro ⟨h1, h2, h3⟩
    rw [isB_length] at h1
    have hk := List.getElem?_eq_getElem h1
    rw [isB_get s hk] at h2
    refine ⟨_, hk, ?_, by rw [rk_isB] at h3; omega⟩
    by_cases he : ks[n] / 2 = s
    · exact he
    · rw [show (ks[n] / 2 == s) = false by simp [he]] at h2; cases h2

theorem SelAt.unique {s : Nat} {ks : List Nat} {j n m : Nat} (h : SelAt s ks j n) (k : SelAt s ks j m) : n = m :=
  (SelAt.isSel.1 h).unique (.inr rfl) (SelAt.isSel.1 k)

theorem SelAt.at {s : Nat} {ks : List Nat} {i k : Nat} (h : ks[i]? = some k) (hs : k / 2 = s) : SelAt s ks (pr s ks i) i := ⟨k, h, hs, rfl⟩

/-- Where it stands against a place. -/
theorem SelAt.cmp {s : Nat} {ks : List Nat} {j n : Nat} (h : SelAt s ks j n) (i : Nat) : j < pr s ks i ↔ n < i := by
  obtain ⟨k, h1, h2, h3⟩ := h
  have h4 := pr_succ s h1
  rw [if_pos h2] at h4
  constructor
  · intro hj
    rcases Nat.lt_or_ge n i with h | h
    · exact h
    · have := pr_mono s ks h; omega
  · intro hn
    have := pr_mono s ks (show n + 1 ≤ i from hn)
    omega

/-- The other one of each one's pair, of its own sort. -/
def MixMate (ks : List Nat) (i m : Nat) : Prop := ∃ s a c, s < 2 ∧ SelAt s ks a i ∧ SelAt s ks c m ∧ MateOf (ownB s ks) a c

theorem MixMate.symm {ks : List Nat} {i m : Nat} (h : MixMate ks i m) : MixMate ks m i := by
  obtain ⟨s, a, c, hs, h1, h2, h3⟩ := h
  exact ⟨s, c, a, hs, h2, h1, h3.symm⟩

theorem MixMate.lt {ks : List Nat} {i m : Nat} (h : MixMate ks i m) : m < ks.length := by
  obtain ⟨s, a, c, _, h1, h2, h3⟩ := h
  exact h2.lt

theorem MixMate.unique {ks : List Nat} {i m n : Nat} (h : MixMate ks i m) (k : MixMate ks i n) : m = n := by
  obtain ⟨s, a, c, _, h1, h2, h3⟩ := h
  obtain ⟨s', a', c', _, k1, k2, k3⟩ := k
  obtain ⟨x, hx, hx2, hx3⟩ := h1
  obtain ⟨y, hy, hy2, hy3⟩ := k1
  rw [hx] at hy
  simp only [Option.some.injEq] at hy
  subst hy
  rw [hx2] at hy2
  subst hy2
  rw [hx3] at hy3
  subst hy3
  rw [h3.unique k3] at h2
  exact h2.unique k2

/-- Where the innermost round pair opens that a place stands within. -/
def OwnerOf (ks : List Nat) (i : Nat) (r : Int) : Prop :=
  (ex (ownB 0 ks) (pr 0 ks i) = 0 ∧ r = -1) ∨ (0 < ex (ownB 0 ks) (pr 0 ks i) ∧ ∃ o n : Nat, IsBehind (ownB 0 ks) (pr 0 ks i) (ex (ownB 0 ks) (pr 0 ks i) - 1) o ∧ SelAt 0 ks o n ∧ r = n)

theorem OwnerOf.unique {ks : List Nat} {i : Nat} {r q : Int} (h : OwnerOf ks i r) (k : OwnerOf ks i q) : r = q := by
  rcases h with ⟨h0, h⟩ | ⟨h0, o, n, h1, h2, rfl⟩ <;> rcases k with ⟨k0, k⟩ | ⟨k0, p, m, k1, k2, rfl⟩
  · omega
  · omega
  · omega
  · rw [h1.unique k1] at h2
    rw [h2.unique k2]

theorem sel_ex {s : Nat} {ks : List Nat} {j : Nat} (hj : j < (ownB s ks).length) : ∃ n, SelAt s ks j n := by
  rw [ownB_length] at hj
  obtain ⟨n, h1, h2, h3, h4⟩ := first_of (fun n => j < pr s ks n) 0 ks.length (by simpa using hj)
  obtain ⟨m, rfl⟩ : ∃ m, n = m + 1 := ⟨n - 1, by
    rcases Nat.eq_zero_or_pos n with h | h
    · rw [h, pr_zero] at h3; omega
    · omega⟩
  have hm : m < ks.length := by omega
  have hk := List.getElem?_eq_getElem hm
  have h5 := pr_succ s hk
  have h6 := h4 m (by omega) (by omega)
  by_cases hs : ks[m] / 2 = s
  · rw [if_pos hs] at h5
    exact ⟨m, _, hk, hs, by omega⟩
  · rw [if_neg hs] at h5
    omega

/-- Both sorts are balanced. -/
def MBal (ks : List Nat) : Prop := Bal (ownB 0 ks) ∧ Bal (ownB 1 ks)

theorem MBal.get {ks : List Nat} (h : MBal ks) {s : Nat} (hs : s < 2) : Bal (ownB s ks) := by
  match s, hs with
  | 0, _ => exact h.1
  | 1, _ => exact h.2

theorem MBal.mate {ks : List Nat} (h : MBal ks) (h4 : ∀ k ∈ ks, k < 4) {i : Nat} (hi : i < ks.length) : ∃ m, MixMate ks i m := by
  have hk := List.getElem?_eq_getElem hi
  have hs : ks[i] / 2 < 2 := by have := h4 _ (List.mem_of_getElem? hk); omega
  have h1 := SelAt.at hk rfl
  obtain ⟨c, hc⟩ := (h.get hs).mate h1.jlt
  obtain ⟨m, hm⟩ := sel_ex hc.lt
  exact ⟨m, _, _, c, hs, h1, hm, hc⟩

theorem MBal.owner {ks : List Nat} (h : MBal ks) {i : Nat} (hi : i ≤ ks.length) : ∃ r, OwnerOf ks i r := by
  have h0 := h.1.2 (pr 0 ks i) (pr_le 0 ks i hi)
  by_cases hx : ex (ownB 0 ks) (pr 0 ks i) = 0
  · exact ⟨-1, .inl ⟨hx, rfl⟩⟩
  · obtain ⟨o, ho⟩ := behind_ex (ownB 0 ks) (pr 0 ks i) (pr_le 0 ks i hi) (by omega) _ rfl
    obtain ⟨n, hn⟩ := sel_ex (s := 0) (ks := ks) (j := o) (by have := ho.lt; have := ho.le; omega)
    exact ⟨n, .inr ⟨by omega, o, n, ho, hn, rfl⟩⟩

/-! Kinds that are counted. -/

theorem cntK_get {ks : List Nat} {i k : Nat} (h : ks[i]? = some k) (kind : Nat) : cntK (ks.take (i + 1)) kind = cntK (ks.take i) kind + if k = kind then 1 else 0 := by
  unfold cntK
  rw [take_get h, List.filter_append, List.length_append]
  by_cases hk : k = kind <;> simp [hk]

theorem count_own {ks : List Nat} (s : Nat) (n : Nat) (hn : n ≤ ks.length) :
    pr s ks n = cntK (ks.take n) (2 * s) + cntK (ks.take n) (2 * s + 1) ∧ ex (ownB s ks) (pr s ks n) = cntK (ks.take n) (2 * s) - (cntK (ks.take n) (2 * s + 1) : Int) := by
  induction n with
  | zero => simp [pr_zero, cntK, ex_zero]
  | succ n ih =>
    obtain ⟨h1, h2⟩ := ih (by omega)
    have hk := List.getElem?_eq_getElem (l := ks) (i := n) (by omega)
    have hp := pr_succ s hk
    have c0 := cntK_get hk (2 * s)
    have c1 := cntK_get hk (2 * s + 1)
    generalize ks[n] = k at *
    by_cases hks : k / 2 = s
    · rw [if_pos hks] at hp
      have ho := own_get hk hks
      have hb := bit_ex (ownB s ks) (lt_of_get ho)
      rw [List.getD_eq_getElem?_getD, ho, Option.getD_some, ← hp] at hb
      by_cases ho2 : k % 2 = 0
      · rw [if_pos (by simp [ho2])] at hb
        rw [if_pos (by omega)] at c0
        rw [if_neg (by omega)] at c1
        rw [hb, c0, c1, hp]
        omega
      · rw [if_neg (by simp [ho2])] at hb
        rw [if_neg (by omega)] at c0
        rw [if_pos (by omega)] at c1
        rw [hb, c0, c1, hp]
        omega
    · rw [if_neg hks] at hp
      rw [if_neg (by omega)] at c0
      rw [if_neg (by omega)] at c1
      rw [hp, c0, c1]
      exact ⟨by omega, by rw [Nat.add_zero, h2]; omega⟩

theorem cntK_le (ks : List Nat) (kind : Nat) : cntK ks kind ≤ ks.length := List.length_filter_le _ _

end Go.Proofs.YtblkkcpeodoclaaGreatDoor

/- The contracts of package mixed: the index of a word, as it is asked. -/
namespace Go.Proofs.YtblkkcpeodoclaaGreatDoor
open Go.RowKit

theorem quiet_eq {P : Program} {f : FuncId} {args : Array Value} {w : World} {n : Nat} {v : Value}
    (h : Calls P f args (w.drewN n) fun e w' => e = .returned v ∧ w.drewN n = w') : Calls P f args (w.drewN n) fun e w'' => e = .returned v ∧ ∃ m, w'' = w.drewN m :=
  h.mono fun _ _ ⟨he, hm⟩ => ⟨he, n, hm.symm⟩

def mixCells (bo : Nat) (bi bp : Nat → Nat) : Array Value :=
  #[.pointer (some ⟨bo, 0, none⟩), .pointer (some ⟨bi 0, 0, none⟩), .pointer (some ⟨bp 0, 0, none⟩), .pointer (some ⟨bi 1, 0, none⟩), .pointer (some ⟨bp 1, 0, none⟩)]


end Go.Proofs.YtblkkcpeodoclaaGreatDoor

/- The contracts of package mixed: Mate. -/
namespace Go.Proofs.YtblkkcpeodoclaaGreatDoor
open Go.RowKit

theorem alloc_cell {w : World} {a : Addr} {v : Value} (h : w.cell? a = some v) (o : Obj) : (w.alloc o).cell? a = some v := ((Keeps.refl (fun _ => False) w).alloc o).cellF h
theorem drewN_cell {w W : World} {a : Addr} {v : Value} {n : Nat} (hW : W = w.drewN n) (h : w.cell? a = some v) : W.cell? a = some v := by rw [hW]; exact h

theorem set01_cell {w : World} {g b o : Nat} {v : Value} (h : w.cell? ⟨b, o, none⟩ = some v) (h1 : b ≠ g) (x y : Value) : ((w.setCell ⟨g, 0, none⟩ x).setCell ⟨g, 1, none⟩ y).cell? ⟨b, o, none⟩ = some v := by
  rw [World.cell?_setCell_other _ _ _ _ (fun e => h1 (congrArg Addr.block e).symm), World.cell?_setCell_other _ _ _ _ (fun e => h1 (congrArg Addr.block e).symm)]
  exact h



end Go.Proofs.YtblkkcpeodoclaaGreatDoor

/- The contracts of package mixed: Owner, Rank. -/
namespace Go.Proofs.YtblkkcpeodoclaaGreatDoor
open Go.RowKit

/-- What opens the pair that stands behind a place: by the pair around the next one, if that opens, or as its mate. -/
theorem behind_open {l : List Bool} {k o : Nat} (hx : 0 < ex l k) (h : IsBehind l k (ex l k - 1) o) (hb : l.getD k false = true) : RoundOf l k o :=
  .inl ⟨hb, .inr ⟨hx, o, rfl, h⟩⟩

theorem behind_close {l : List Bool} {k o : Nat} (hk : k < l.length) (h : IsBehind l k (ex l k - 1) o) (hb : l.getD k false = false) : MateOf l k o := by
  have hs := bit_ex l hk
  rw [hb, if_neg (by simp)] at hs
  have hp : IsPair l o k := ⟨h.lt, hk, by rw [hs, h.hit], fun p h1 h2 => by have := h.above p h1 h2; rw [h.hit]; omega⟩
  exact hp.mate_r


end Go.Proofs.YtblkkcpeodoclaaGreatDoor

/- The contracts of package mixed: Rank, Select. -/
namespace Go.Proofs.YtblkkcpeodoclaaGreatDoor
open Go.RowKit



/-- One of a kind stands there, with so many ahead of it. -/
def SelK (ks : List Nat) (kind k n : Nat) : Prop := ks[n]? = some kind ∧ cntK (ks.take n) kind = k

theorem cntK_mono (ks : List Nat) (kind : Nat) {a c : Nat} (h : a ≤ c) : cntK (ks.take a) kind ≤ cntK (ks.take c) kind := by
  have : ks.take c = ks.take a ++ (ks.take c).drop a := by
    conv => lhs; rw [← List.take_append_drop a (ks.take c)]
    rw [List.take_take, Nat.min_eq_left h]
  rw [this]
  unfold cntK
  rw [List.filter_append, List.length_append]
  omega

theorem SelK.found {ks : List Nat} {kind k n : Nat} (hn : n < ks.length) (h1 : cntK (ks.take n) kind ≤ k) (h2 : k < cntK (ks.take (n + 1)) kind) : SelK ks kind k n := by
  have hk := List.getElem?_eq_getElem hn
  have := cntK_get hk kind
  split at this
  · rename_i he
    exact ⟨by rw [hk, he], by omega⟩
  · omega

theorem SelK.unique {ks : List Nat} {kind k n m : Nat} (h : SelK ks kind k n) (h2 : SelK ks kind k m) : n = m := by
  rcases Nat.lt_trichotomy n m with hl | rfl | hl
  · have h3 := cntK_get h.1 kind
    rw [if_pos rfl] at h3
    have h4 := cntK_mono ks kind (show n + 1 ≤ m from hl)
    have := h.2; have := h2.2; omega
  · rfl
  · have h3 := cntK_get h2.1 kind
    rw [if_pos rfl] at h3
    have h4 := cntK_mono ks kind (show m + 1 ≤ n from hl)
    have := h.2; have := h2.2; omega


end Go.Proofs.YtblkkcpeodoclaaGreatDoor

/- Blocks by labels: vectors and indexes that grow side by side. -/
namespace Go.Proofs.YtblkkcpeodoclaaGreatDoor
open Go.RowKit

/-- All blocks from n on bear a new label. -/
def relab (lab : Nat → Nat) (n j : Nat) : Nat → Nat := fun x => if x < n then lab x else j

theorem relab_old {lab : Nat → Nat} {n j x : Nat} (h : x < n) : relab lab n j x = lab x := if_pos h
theorem relab_new {lab : Nat → Nat} {n j x : Nat} (h : n ≤ x) : relab lab n j x = j := if_neg (by omega)

end Go.Proofs.YtblkkcpeodoclaaGreatDoor

/- The contract of package mixed: Index. -/
namespace Go.Proofs.YtblkkcpeodoclaaGreatDoor
open Go.RowKit

/-- The cells of a Mixed whose first sorts are laid. -/
def partCells (bi bp : Nat → Nat) (s : Nat) : Array Value :=
  #[.pointer none, .pointer (if 0 < s then some ⟨bi 0, 0, none⟩ else none), .pointer (if 0 < s then some ⟨bp 0, 0, none⟩ else none), .pointer (if 1 < s then some ⟨bi 1, 0, none⟩ else none), .pointer (if 1 < s then some ⟨bp 1, 0, none⟩ else none)]

def upd (f : Nat → Nat) (s y : Nat) : Nat → Nat := fun x => if x = s then y else f x
theorem upd_same (f : Nat → Nat) (s y : Nat) : upd f s y s = y := if_pos rfl
theorem upd_other (f : Nat → Nat) {s x : Nat} (y : Nat) (h : x ≠ s) : upd f s y x = f x := if_neg h

theorem partCells_step (bi bp : Nat → Nat) (s y z : Nat) (hs : s < 2) :
    ((partCells bi bp s).setIfInBounds (1 + s * 2) (.pointer (some ⟨y, 0, none⟩))).setIfInBounds (1 + s * 2 + 1) (.pointer (some ⟨z, 0, none⟩)) = partCells (upd bi s y) (upd bp s z) (s + 1) := by
  match s, hs with
  | 0, _ => rfl
  | 1, _ => rfl

theorem part_there (bi bp : Nat → Nat) (s : Nat) (hs : s < 2) : ∃ u1 u2, (partCells bi bp s)[1 + s * 2]? = some u1 ∧ (partCells bi bp s)[1 + s * 2 + 1]? = some u2 := by
  match s, hs with
  | 0, _ => exact ⟨_, _, rfl, rfl⟩
  | 1, _ => exact ⟨_, _, rfl, rfl⟩

theorem take_open {ks : List Nat} {i k : Nat} (h : ks[i]? = some k) : openB (ks.take (i + 1)) = openB (ks.take i) ++ [k % 2 == 0] := by
  rw [take_get h, openB_append]; rfl
theorem take_is (s : Nat) {ks : List Nat} {i k : Nat} (h : ks[i]? = some k) : isB s (ks.take (i + 1)) = isB s (ks.take i) ++ [k / 2 == s] := by
  rw [take_get h, isB_append]; rfl
theorem take_own {s : Nat} {ks : List Nat} {i k : Nat} (h : ks[i]? = some k) (hs : k / 2 = s) : ownB s (ks.take (i + 1)) = ownB s (ks.take i) ++ [k % 2 == 0] := by
  rw [take_get h, ownB_append]; simp [ownB, hs]
theorem take_own_not {s : Nat} {ks : List Nat} {i k : Nat} (h : ks[i]? = some k) (hs : ¬ k / 2 = s) : ownB s (ks.take (i + 1)) = ownB s (ks.take i) := by
  rw [take_get h, ownB_append]; simp [ownB, hs]

end Go.Proofs.YtblkkcpeodoclaaGreatDoor

/- The contracts of package mixed: Parse; of the library: IndexByte. -/
namespace Go.Proofs.YtblkkcpeodoclaaGreatDoor
open Go.RowKit

/-- The kind of a sign; below nought: none. -/
def kindZ (c : UInt8) : Int := Lib.indexByte [40, 41, 91, 93] c

theorem indexByte_up (l : List UInt8) (c : UInt8) : Lib.indexByte l c < l.length := by
  induction l with
  | nil => simp [Lib.indexByte]
  | cons b l ih =>
    simp only [Lib.indexByte, List.length_cons]
    split
    · omega
    · split <;> omega

theorem kindZ_bd (c : UInt8) : -1 ≤ kindZ c ∧ kindZ c ≤ 3 := by
  have h1 := Lib.indexByte_ge [40, 41, 91, 93] c
  have h2 := indexByte_up [40, 41, 91, 93] c
  simp at h2
  unfold kindZ
  omega

set_option maxHeartbeats 1000000 in
theorem strlite_any (c : Int) (w : World) :
    Calls Tryz.prog 93 #[.string { data := #[40, 41, 91, 93] }, .int .u8 c] w fun e w' => e = .returned (.int .i64 (kindZ c.toNat.toUInt8)) ∧ w = w' := by
  have he := run_callFunc_indexByte (P := Tryz.prog) Tryz.func112 (by kernel_rfl) (by kernel_rfl) (by kernel_rfl) (by kernel_rfl) #[.string { data := #[40, 41, 91, 93] }, .int .u8 c] w
  rw [Lib.run_indexByteString] at he
  simp only [Result.andThen] at he
  go_enter Tryz.func93, Tryz.ntmps93
  go_wp2
  go_ret
  exact ⟨rfl, rfl⟩

end Go.Proofs.YtblkkcpeodoclaaGreatDoor
