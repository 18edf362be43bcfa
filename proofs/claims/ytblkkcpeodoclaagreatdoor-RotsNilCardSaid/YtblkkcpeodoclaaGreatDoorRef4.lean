/- Joined texts: Ref04, Ref04b, Ref04c, Ref04d, Law04a. -/
import Derived.Test.YtblkkcpeodoclaaGreatDoorMixed
import Derived.Test.YtblkkcpeodoclaaGreatDoorRanks
import Derived.Test.YtblkkcpeodoclaaGreatDoorRef3
import Derived.Deep.CutRange

/- The references of layer 4: Count, Sort. -/
namespace Go.Proofs.YtblkkcpeodoclaaGreatDoor
open Go.RowKit

theorem Sl.take {k : IntKind} {w : World} {a : Option Addr} {n cap : Nat} {zs : List Int} (h : Sl k w (.slice a n cap) zs) (m : Nat) (hm : m ≤ zs.length) : Sl k w (.slice a m cap) (zs.take m) := by
  obtain ⟨a', cap', hv, h1, h2, h3, h4⟩ := h
  simp only [Value.slice.injEq] at hv
  obtain ⟨rfl, rfl, rfl⟩ := hv
  have hl : (zs.take m).length = m := by simp; omega
  refine ⟨a, cap, by rw [hl], by omega, h2, h3, fun j z hj => ?_⟩
  rw [List.getElem?_take] at hj
  split at hj
  · exact h4 j z hj
  · cases hj

theorem cntZ_nats (ks : List Nat) (kind : Nat) : cntZ (nats ks) kind = cntK ks kind := by
  unfold cntZ nats cntK
  induction ks with
  | nil => rfl
  | cons k ks ih =>
    simp only [List.map_cons, List.filter_cons]
    by_cases h : k = kind
    · subst h; simp [ih]
    · have h1 : ((k : Int) == (kind : Int)) = false := by rw [beq_eq_false_iff_ne]; omega
      have h2 : (k == kind) = false := by rw [beq_eq_false_iff_ne]; exact h
      rw [h1, h2]
      simpa using ih

/-- The letters of a sort as noughts and ones. -/
def ownZ (s : Nat) (ks : List Nat) : List Int := (ks.filter fun k => k / 2 == s).map fun k => 1 - (k % 2 : Nat)

theorem ownZ_01 (s : Nat) (ks : List Nat) : ∀ z ∈ ownZ s ks, z = 0 ∨ z = 1 := by
  intro z hz
  simp only [ownZ, List.mem_map] at hz
  obtain ⟨k, _, rfl⟩ := hz
  omega

theorem ownZ_bits (s : Nat) (ks : List Nat) : bitsOf (ownZ s ks) = ownB s ks := by
  unfold bitsOf ownZ ownB
  rw [List.map_map]
  apply List.map_congr_left
  intro k _
  simp only [Function.comp]
  rcases Nat.mod_two_eq_zero_or_one k with h | h <;> rw [h] <;> rfl

theorem ownZ_length (s : Nat) (ks : List Nat) : (ownZ s ks).length = (ownB s ks).length := by simp [ownZ, ownB]

theorem ownZ_step {s : Nat} {ks : List Nat} {i k : Nat} (h : ks[i]? = some k) (hs : k / 2 = s) : ownZ s (ks.take (i + 1)) = ownZ s (ks.take i) ++ [1 - ((k % 2 : Nat) : Int)] := by
  rw [take_get h]; simp [ownZ, hs]
theorem ownZ_not {s : Nat} {ks : List Nat} {i k : Nat} (h : ks[i]? = some k) (hs : ¬ k / 2 = s) : ownZ s (ks.take (i + 1)) = ownZ s (ks.take i) := by
  rw [take_get h]; simp [ownZ, hs]

/-- Where the letters of a sort stand, up to a place. -/
def PosAt (s : Nat) (ks : List Nat) (i : Nat) (ps : List Nat) : Prop := ps.length = pr s ks i ∧ ∀ j n, ps[j]? = some n → SelAt s ks j n

theorem PosAt.step {s : Nat} {ks : List Nat} {i k : Nat} {ps : List Nat} (hp : PosAt s ks i ps) (h : ks[i]? = some k) (hs : k / 2 = s) : PosAt s ks (i + 1) (ps ++ [i]) := by
  refine ⟨by rw [List.length_append, hp.1, pr_succ s h, if_pos hs]; rfl, fun j n hj => ?_⟩
  rw [List.getElem?_append] at hj
  split at hj
  · exact hp.2 j n hj
  · rename_i hlt
    have hj2 : j - ps.length = 0 := by
      rcases Nat.eq_zero_or_pos (j - ps.length) with h | h
      · exact h
      · rw [List.getElem?_eq_none (by simp; omega)] at hj; cases hj
    rw [hj2] at hj
    simp only [List.getElem?_cons_zero, Option.some.injEq] at hj
    subst hj
    have hjl : j = pr s ks i := by rw [← hp.1]; omega
    subst hjl
    exact SelAt.at h hs

theorem PosAt.skip {s : Nat} {ks : List Nat} {i k : Nat} {ps : List Nat} (hp : PosAt s ks i ps) (h : ks[i]? = some k) (hs : ¬ k / 2 = s) : PosAt s ks (i + 1) ps :=
  ⟨by rw [pr_succ s h, if_neg hs]; exact hp.1, hp.2⟩

/-- What Sort has gathered. -/
def SortS (w : World) (s : Nat) (ks : List Nat) (i : Nat) (ov av : Value) (wr : World) : Prop :=
  ∃ ps, OwnI w.heap.size wr ov (ownZ s (ks.take i)) ∧ OwnI w.heap.size wr av (nats ps) ∧ PosAt s ks i ps ∧ (∀ k, ov.ownBlock = some k → av.ownBlock ≠ some k) ∧ Keeps (fun _ => False) w wr

end Go.Proofs.YtblkkcpeodoclaaGreatDoor

/- The references of layer 4: Mates. -/
namespace Go.Proofs.YtblkkcpeodoclaaGreatDoor
open Go.RowKit

/-- Mates that are found already. -/
def MatesS (w : World) (ks : List Nat) (g : Nat) (D : Nat → Prop) (wr : World) : Prop :=
  ∃ ms, OwnI w.heap.size wr (.slice (some ⟨g, 0, none⟩) ks.length ks.length) ms ∧ ms.length = ks.length ∧ (∀ i, D i → ∃ m : Nat, ms[i]? = some (m : Int) ∧ MixMate ks i m) ∧ Keeps (fun _ => False) w wr

theorem OwnI.made (B : Nat) (w : World) (n : Nat) (hB : B ≤ w.heap.size) (hn : n ≤ 100000000) : OwnI B (w.alloc (.cells (madeCells #[.int .i64 0] n) 3)) (.slice (some ⟨w.heap.size, 0, none⟩) n n) (List.replicate n 0) := by
  have ht : (madeCells #[.int .i64 0] n).toList = ints (List.replicate n 0) := by rw [toList_madeCells_one]; simp [ints]
  have h1 := World.ownsRow_lit (base := B) (e := 3) (size := 1) w (madeCells #[.int .i64 0] n) n hB (by unfold maxLen; omega) (by rw [size_madeCells]; omega)
  rw [ht] at h1
  unfold OwnI
  rw [List.length_replicate]
  exact h1

end Go.Proofs.YtblkkcpeodoclaaGreatDoor

/- The references of layer 4: Owners. -/
namespace Go.Proofs.YtblkkcpeodoclaaGreatDoor
open Go.RowKit

/-- What Owners knows ahead of a place: rs the owners, st where the open round ones stand. -/
structure OInv (ks : List Nat) (i : Nat) (rs : List Int) (st : List Nat) : Prop where
  lr : rs.length = ks.length
  hx : ex (ownB 0 ks) (pr 0 ks i) = st.length
  stk : ∀ (j n : Nat), st[j]? = some n → ∃ o, SelAt 0 ks o n ∧ o < pr 0 ks i ∧ ex (ownB 0 ks) o = j ∧ ∀ p, o < p → p ≤ pr 0 ks i → (j : Int) < ex (ownB 0 ks) p
  rd : ∀ p, p < i → ∃ r : Int, rs[p]? = some r ∧ OwnerOf ks p r

theorem OInv.start (ks : List Nat) : OInv ks 0 (List.replicate ks.length 0) [] :=
  ⟨by simp, by rw [pr_zero, ex_zero]; rfl, fun j n h => by simp at h, fun p hp => by omega⟩

theorem OInv.owner {ks : List Nat} {i : Nat} {rs : List Int} {st : List Nat} (h : OInv ks i rs st) (hi : i ≤ ks.length) (r : Int) (hr : (st = [] ∧ r = -1) ∨ ∃ o, st[st.length - 1]? = some o ∧ 0 < st.length ∧ r = (o : Nat)) : OwnerOf ks i r := by
  rcases hr with ⟨rfl, rfl⟩ | ⟨n, hn, hl, rfl⟩
  · exact .inl ⟨h.hx, rfl⟩
  · obtain ⟨o, h1, h2, h3, h4⟩ := h.stk _ _ hn
    refine .inr ⟨by rw [h.hx]; omega, o, n, ⟨h2, pr_le 0 ks i hi, by rw [h3, h.hx]; omega, fun p h5 h6 => ?_⟩, h1, rfl⟩
    have := h4 p h5 h6
    rw [h.hx]; omega

theorem OInv.set {ks : List Nat} {i k : Nat} {rs : List Int} {st : List Nat} (h : OInv ks i rs st) (hk : ks[i]? = some k) {r : Int} (hr : OwnerOf ks i r) : ∀ p, p < i + 1 → ∃ r' : Int, (rs.set i r)[p]? = some r' ∧ OwnerOf ks p r' := by
  intro p hp
  have hi := lt_of_get hk
  by_cases hpi : p = i
  · subst hpi
    exact ⟨r, by rw [List.getElem?_set_self (by rw [h.lr]; exact hi)], hr⟩
  · rw [List.getElem?_set_ne (fun e => hpi e.symm)]
    exact h.rd p (by omega)

theorem OInv.push {ks : List Nat} {i : Nat} {rs : List Int} {st : List Nat} (h : OInv ks i rs st) (hk : ks[i]? = some 0) {r : Int} (hr : OwnerOf ks i r) : OInv ks (i + 1) (rs.set i r) (st ++ [i]) := by
  have hp := pr_succ 0 hk
  rw [if_pos (by decide)] at hp
  have ho := own_get (s := 0) hk rfl
  have hb := bit_ex (ownB 0 ks) (lt_of_get ho)
  rw [List.getD_eq_getElem?_getD, ho, Option.getD_some, if_pos (by decide), h.hx, ← hp] at hb
  refine ⟨by simpa using h.lr, by simpa using hb, fun j n hj => ?_, h.set hk hr⟩
  rw [List.getElem?_append] at hj
  split at hj
  · obtain ⟨o, h1, h2, h3, h4⟩ := h.stk _ _ hj
    refine ⟨o, h1, by omega, h3, fun p h5 h6 => ?_⟩
    by_cases hpp : p ≤ pr 0 ks i
    · exact h4 p h5 hpp
    · obtain rfl : p = pr 0 ks (i + 1) := by omega
      rw [hb]; omega
  · rename_i hlt
    have hj2 : j - st.length = 0 := by
      rcases Nat.eq_zero_or_pos (j - st.length) with h | h
      · exact h
      · rw [List.getElem?_eq_none (by simp; omega)] at hj; cases hj
    rw [hj2] at hj
    simp only [List.getElem?_cons_zero, Option.some.injEq] at hj
    subst hj
    have hjl : j = st.length := by omega
    subst hjl
    refine ⟨pr 0 ks i, SelAt.at hk rfl, by omega, h.hx, fun p h5 h6 => ?_⟩
    obtain rfl : p = pr 0 ks (i + 1) := by omega
    rw [hb]; omega

theorem OInv.some_open {ks : List Nat} {i : Nat} {rs : List Int} {st : List Nat} (h : OInv ks i rs st) (hB : Bal (ownB 0 ks)) (hk : ks[i]? = some 1) : 0 < st.length := by
  have ho := own_get (s := 0) hk rfl
  have hb := bit_ex (ownB 0 ks) (lt_of_get ho)
  rw [List.getD_eq_getElem?_getD, ho, Option.getD_some, if_neg (by decide), h.hx] at hb
  have := hB.2 (pr 0 ks i + 1) (lt_of_get ho)
  omega

theorem OInv.pop {ks : List Nat} {i : Nat} {rs : List Int} {st : List Nat} (h : OInv ks i rs st) (hk : ks[i]? = some 1) (hl : 0 < st.length) {r : Int} (hr : OwnerOf ks i r) : OInv ks (i + 1) (rs.set i r) (st.take (st.length - 1)) := by
  have hp := pr_succ 0 hk
  rw [if_pos (by decide)] at hp
  have ho := own_get (s := 0) hk rfl
  have hb := bit_ex (ownB 0 ks) (lt_of_get ho)
  rw [List.getD_eq_getElem?_getD, ho, Option.getD_some, if_neg (by decide), h.hx, ← hp] at hb
  refine ⟨by simpa using h.lr, by rw [hb, List.length_take]; omega, fun j n hj => ?_, h.set hk hr⟩
  rw [List.getElem?_take] at hj
  split at hj
  · obtain ⟨o, h1, h2, h3, h4⟩ := h.stk _ _ hj
    refine ⟨o, h1, by omega, h3, fun p h5 h6 => ?_⟩
    by_cases hpp : p ≤ pr 0 ks i
    · exact h4 p h5 hpp
    · obtain rfl : p = pr 0 ks (i + 1) := by omega
      rw [hb]; omega
  · cases hj

theorem OInv.skip {ks : List Nat} {i k : Nat} {rs : List Int} {st : List Nat} (h : OInv ks i rs st) (hk : ks[i]? = some k) (h2 : 2 ≤ k) {r : Int} (hr : OwnerOf ks i r) : OInv ks (i + 1) (rs.set i r) st := by
  have hp := pr_succ 0 hk
  rw [if_neg (by omega), Nat.add_zero] at hp
  refine ⟨by simpa using h.lr, by rw [hp]; exact h.hx, fun j n hj => ?_, h.set hk hr⟩
  rw [hp]
  exact h.stk j n hj

/-- What Owners has laid. -/
def OwnS (w : World) (ks : List Nat) (g i : Nat) (ov : Value) (wr : World) : Prop :=
  ∃ rs st, OInv ks i rs st ∧ OwnI w.heap.size wr (.slice (some ⟨g, 0, none⟩) ks.length ks.length) rs ∧ OwnI w.heap.size wr ov (nats st) ∧ ov.ownBlock ≠ some g ∧ Keeps (fun _ => False) w wr

theorem OwnS.pushed {w w2 w3 : World} {ks : List Nat} {g k g2 cap2 n : Nat} {rs : List Int} {st : List Nat} {ov : Value} (hI : OInv ks (k + 1) rs (st ++ [k])) (hr : OwnI w.heap.size w2 (.slice (some ⟨g, 0, none⟩) ks.length ks.length) rs)
    (ho : OwnI w.heap.size w3 (.slice (some ⟨g2, 0, none⟩) (n + 1) cap2) (nats st ++ [(k : Int)])) (k3 : Keeps (fun k => ov.ownBlock = some k) w2 w3) (hor : ov.ownBlock ≠ some g) (hov : OwnI w.heap.size w2 ov (nats st))
    (k2 : Keeps (fun _ => False) w w2) (hat : ov.ownBlock = some g2 ∨ w2.heap.size ≤ g2) : OwnS w ks g (k + 1) (.slice (some ⟨g2, 0, none⟩) (n + 1) cap2) w3 := by
  have hn : nats st ++ [(k : Int)] = nats (st ++ [k]) := by simp [nats]
  rw [hn] at ho
  have hg := (hr.lt g rfl).2
  have h2 : g2 ≠ g := by
    rcases hat with h | h
    · intro e; rw [e] at h; exact hor h
    · omega
  refine ⟨rs, _, hI, hr.keeps k3 (fun b hb h => ?_), ho, by simp [Value.ownBlock]; exact h2, k2.trans k3 (fun x hx h => by have := (hov.lt x h).1; omega)⟩
  simp only [Value.ownBlock, Option.some.injEq] at hb; subst hb; exact hor h

end Go.Proofs.YtblkkcpeodoclaaGreatDoor

/- The references of layer 4: Any. -/
namespace Go.Proofs.YtblkkcpeodoclaaGreatDoor
open Go.RowKit

/-- Never below nought, and so much at the end. -/
def NN (l : List Bool) (x : Nat) : Prop := ex l l.length = x ∧ ∀ p, p ≤ l.length → 0 ≤ ex l p

theorem NN.nil : NN [] 0 := ⟨by rw [List.length_nil, ex_zero]; rfl, fun p hp => by
  obtain rfl : p = 0 := by simpa using hp
  rw [ex_zero]; omega⟩

theorem NN.snoc {l : List Bool} {x y : Nat} (h : NN l x) (b : Bool) (hy : (y : Int) = x + if b then 1 else -1) : NN (l ++ [b]) y := by
  have hxs := ex_snoc l b
  rw [h.1, ← hy] at hxs
  refine ⟨by simpa using hxs, fun p hp => ?_⟩
  by_cases hpk : p ≤ l.length
  · rw [ex_append_le _ _ hpk]; exact h.2 p hpk
  · obtain rfl : p = l.length + 1 := by simp at hp; omega
    rw [hxs]; omega

/-- What Any knows when it has laid so many. -/
structure AnyK (P : Nat) (ks : List Nat) (r e : Nat) : Prop where
  k4 : ∀ k ∈ ks, k < 4
  n0 : NN (ownB 0 ks) r
  n1 : NN (ownB 1 ks) e
  le : r + e + ks.length ≤ 2 * P
  par : (r + e + ks.length) % 2 = 0

theorem AnyK.start (P : Nat) : AnyK P [] 0 0 := ⟨fun k h => by simp at h, NN.nil, NN.nil, by simp, rfl⟩

theorem k4_snoc {ks : List Nat} {k : Nat} (h : ∀ k ∈ ks, k < 4) (hk : k < 4) : ∀ x ∈ ks ++ [k], x < 4 := by
  intro x hx
  rcases List.mem_append.1 hx with h' | h'
  · exact h x h'
  · rw [List.mem_singleton.1 h']; exact hk

theorem AnyK.push0 {P : Nat} {ks : List Nat} {r e : Nat} (h : AnyK P ks r e) (hr : r + e + ks.length < 2 * P) : AnyK P (ks ++ [0]) (r + 1) e := by
  have hp := h.par
  refine ⟨k4_snoc h.k4 (by omega), ?_, ?_, by simp; omega, by simp; omega⟩
  · rw [ownB_append]; exact h.n0.snoc true (by simp)
  · rw [ownB_append, show ownB 1 [0] = [] by rfl, List.append_nil]; exact h.n1
theorem AnyK.push2 {P : Nat} {ks : List Nat} {r e : Nat} (h : AnyK P ks r e) (hr : r + e + ks.length < 2 * P) : AnyK P (ks ++ [2]) r (e + 1) := by
  have hp := h.par
  refine ⟨k4_snoc h.k4 (by omega), ?_, ?_, by simp; omega, by simp; omega⟩
  · rw [ownB_append, show ownB 0 [2] = [] by rfl, List.append_nil]; exact h.n0
  · rw [ownB_append]; exact h.n1.snoc true (by simp)
theorem AnyK.push1 {P : Nat} {ks : List Nat} {r e : Nat} (h : AnyK P ks (r + 1) e) : AnyK P (ks ++ [1]) r e := by
  have hp := h.par
  have hl := h.le
  refine ⟨k4_snoc h.k4 (by omega), ?_, ?_, by simp; omega, by simp; omega⟩
  · rw [ownB_append]; exact h.n0.snoc false (by simp; omega)
  · rw [ownB_append, show ownB 1 [1] = [] by rfl, List.append_nil]; exact h.n1
theorem AnyK.push3 {P : Nat} {ks : List Nat} {r e : Nat} (h : AnyK P ks r (e + 1)) : AnyK P (ks ++ [3]) r e := by
  have hp := h.par
  have hl := h.le
  refine ⟨k4_snoc h.k4 (by omega), ?_, ?_, by simp; omega, by simp; omega⟩
  · rw [ownB_append, show ownB 0 [3] = [] by rfl, List.append_nil]; exact h.n0
  · rw [ownB_append]; exact h.n1.snoc false (by simp; omega)

theorem AnyK.done {P : Nat} {ks : List Nat} {r e : Nat} (h : AnyK P ks r e) (hl : ¬ ks.length < 2 * P) : (∀ k ∈ ks, k < 4) ∧ ks.length = 2 * P ∧ MBal ks := by
  have hle := h.le
  obtain rfl : r = 0 := by omega
  obtain rfl : e = 0 := by omega
  exact ⟨h.k4, by omega, ⟨h.n0.1, h.n0.2⟩, ⟨h.n1.1, h.n1.2⟩⟩

/-- What Any has when it has gone round so often. -/
def AnyM (w : World) (P k r e : Nat) (lv : Value) (wr : World) : Prop :=
  ∃ ks, OwnI w.heap.size wr lv (nats ks) ∧ ks.length = k ∧ AnyK P ks r e ∧ Keeps (fun _ => False) w wr

theorem AnyM.start (w : World) (P : Nat) : AnyM w P 0 0 0 (.slice none 0 0) w := ⟨[], OwnI.nil _ _, rfl, AnyK.start P, Keeps.refl _ _⟩

theorem AnyM.push {w wr w1 : World} {P r e k n : Nat} {lv lv' : Value} {ks : List Nat} {x : Int} (hn : ks.length = n) (hx : x = (k : Nat)) (h : AnyK P (ks ++ [k]) r e) (hk : Keeps (fun _ => False) w wr) (hown : OwnI w.heap.size wr lv (nats ks))
    (hown2 : OwnI w.heap.size w1 lv' (nats ks ++ [x])) (hk2 : Keeps (fun k => lv.ownBlock = some k) wr w1) : AnyM w P (n + 1) r e lv' w1 :=
  ⟨ks ++ [k], by simpa [nats, hx] using hown2, by simp [hn], h, hk.trans hk2 (fun x hx h => by have := (hown.lt x h).1; omega)⟩

end Go.Proofs.YtblkkcpeodoclaaGreatDoor

/- Layer 4's statements: of, Index of a word, awake. -/
namespace Go.Proofs.YtblkkcpeodoclaaGreatDoor
open Go.RowKit

theorem toKs_nats (ks : List Nat) : toKs (nats ks) = ks := by
  induction ks with
  | nil => rfl
  | cons k ks ih => simp only [toKs, nats, List.map_cons, Int.toNat_natCast] at *; rw [ih]

theorem Kinds4.of {ks : List Nat} (h : ∀ k ∈ ks, k < 4) : Kinds4 (nats ks) := by
  intro z hz
  obtain ⟨k, hk, rfl⟩ := List.mem_map.1 hz
  have := h k hk
  exact ⟨by omega, by show (k : Int) ≤ 3; omega⟩

theorem balTF : Bal [true, false] := ⟨by decide, fun p hp => by
  have h : ∀ p, p < 3 → 0 ≤ ex [true, false] p := by decide
  exact h p (by simp at hp; omega)⟩
theorem pairTF : IsPair [true, false] 0 1 := ⟨by decide, by decide, by decide, fun p h1 h2 => by
  obtain rfl : p = 1 := by omega
  decide⟩
theorem awake_bal : MBal [0, 2, 1, 3] := ⟨balTF, balTF⟩
theorem awake_mate : MixMate [0, 2, 1, 3] 1 3 := ⟨1, 0, 1, by decide, ⟨2, rfl, rfl, rfl⟩, ⟨3, rfl, rfl, rfl⟩, pairTF.mate_l⟩
theorem awake_own2 : OwnerOf [0, 2, 1, 3] 2 0 := .inr ⟨by decide, 0, 0, ⟨by decide, by decide, by decide, fun p h1 h2 => by
  have h2' : p ≤ 1 := h2
  obtain rfl : p = 1 := by omega
  decide⟩, ⟨0, rfl, rfl, rfl⟩, rfl⟩
theorem awake_own3 : OwnerOf [0, 2, 1, 3] 3 (-1) := .inl ⟨by decide, rfl⟩

theorem awake_ks {ks : List Nat} (h : (⟨#[40, 91, 41, 93]⟩ : ByteArray).data.toList.map kindZ = nats ks) : ks = [0, 2, 1, 3] := by
  have h1 : (⟨#[40, 91, 41, 93]⟩ : ByteArray).data.toList.map kindZ = nats [0, 2, 1, 3] := by decide
  rw [h1] at h
  have h2 := congrArg toKs h
  rw [toKs_nats, toKs_nats] at h2
  exact h2.symm

theorem awake_good {i : Nat} {c : UInt8} (h : (⟨#[40, 91, 41, 93]⟩ : ByteArray).data.toList[i]? = some c) : 0 ≤ kindZ c := by
  have h1 : ∀ c ∈ (⟨#[40, 91, 41, 93]⟩ : ByteArray).data.toList, 0 ≤ kindZ c := by decide
  exact h1 c (List.mem_of_getElem? h)

end Go.Proofs.YtblkkcpeodoclaaGreatDoor
