/- Joined texts: Ref03, Mates, Law03a. -/
import Derived.Test.YtblkkcpeodoclaaGreatDoorRanks
import Derived.Test.YtblkkcpeodoclaaGreatDoorParens

/- The references of layer 3: Good, Excess, Any. -/
namespace Go.Proofs.YtblkkcpeodoclaaGreatDoor
open Go.RowKit

theorem ex_snoc (l : List Bool) (b : Bool) : ex (l ++ [b]) (l.length + 1) = ex l l.length + if b then 1 else -1 := by
  rw [ex_append_add]
  cases b <;> rfl

theorem bitsOf_getD {zs : List Int} (h : ∀ z ∈ zs, z = 0 ∨ z = 1) {k : Nat} {z : Int} (hz : zs[k]? = some z) : (bitsOf zs).getD k false = (z == 1) := by
  have h1 := bit_back h hz
  have h2 := h z (List.mem_of_getElem? hz)
  cases hb : (bitsOf zs).getD k false <;> rw [hb] at h1 <;> simp at h1 <;> subst h1 <;> rfl

/-- What Any has when it has gone round so often. -/
def AnyS (w : World) (P k o : Nat) (lv : Value) (wr : World) : Prop :=
  ∃ zs, OwnI w.heap.size wr lv zs ∧ zs.length = k ∧ (∀ z ∈ zs, z = 0 ∨ z = 1) ∧ ex (bitsOf zs) k = o ∧ (∀ p, p ≤ k → 0 ≤ ex (bitsOf zs) p) ∧ o + k ≤ 2 * P ∧ (o + k) % 2 = 0 ∧ Keeps (fun _ => False) w wr

theorem AnyS.start (w : World) (P : Nat) : AnyS w P 0 0 (.slice none 0 0) w := by
  refine ⟨[], OwnI.nil _ _, rfl, fun z hz => by simp at hz, by rw [ex_zero]; rfl, fun p hp => ?_, by omega, rfl, Keeps.refl _ _⟩
  obtain rfl : p = 0 := by omega
  rw [ex_zero]; omega

theorem AnyS.push {w wr w1 : World} {P k o o' : Nat} {lv lv' : Value} {zs : List Int} {z : Int} (hz : z = 0 ∨ z = 1) (hl : zs.length = k) (h01 : ∀ z ∈ zs, z = 0 ∨ z = 1) (hx : ex (bitsOf zs) k = o) (h0 : ∀ p, p ≤ k → 0 ≤ ex (bitsOf zs) p)
    (ho : (o' : Int) = o + (if z = 1 then 1 else -1)) (hP : o' + (k + 1) ≤ 2 * P) (hpar : (o + k) % 2 = 0) (hk : Keeps (fun _ => False) w wr) (hown : OwnI w.heap.size wr lv zs)
    (hown2 : OwnI w.heap.size w1 lv' (zs ++ [z])) (hk2 : Keeps (fun k => lv.ownBlock = some k) wr w1) : AnyS w P (k + 1) o' lv' w1 := by
  have hb : bitsOf (zs ++ [z]) = bitsOf zs ++ [z == 1] := by
    rw [bitsOf_append]
    congr 1
    rcases hz with rfl | rfl <;> rfl
  have hbl := bitsOf_length zs
  have hxs := ex_snoc (bitsOf zs) (z == 1)
  rw [hbl, hl, hx] at hxs
  have hi : (if (z == 1) = true then (1 : Int) else -1) = (if z = 1 then 1 else -1) := by rcases hz with rfl | rfl <;> rfl
  rw [hi] at hxs
  refine ⟨zs ++ [z], hown2, by simp [hl], fun y hy => ?_, by rw [hb, hxs, ho], fun p hp => ?_, hP, ?_, hk.trans hk2 (fun x hx h => by have := (hown.lt x h).1; omega)⟩
  · rcases List.mem_append.1 hy with h | h
    · exact h01 y h
    · rw [List.mem_singleton.1 h]; exact hz
  · rw [hb]
    by_cases hpk : p ≤ k
    · rw [ex_append_le _ _ (by omega)]; exact h0 p hpk
    · obtain rfl : p = k + 1 := by omega
      rw [hxs]; omega
  · split at ho <;> omega

theorem AnyS.up {w wr w1 : World} {P o : Nat} {lv lv' : Value} {zs : List Int} (hZ : (∀ z ∈ zs, z = 0 ∨ z = 1) ∧ ex (bitsOf zs) zs.length = o ∧ (∀ p, p ≤ zs.length → 0 ≤ ex (bitsOf zs) p) ∧ (o + zs.length) % 2 = 0 ∧ ((o = 0 ∨ o < 2 * P - zs.length) → o + 1 + (zs.length + 1) ≤ 2 * P) ∧ (¬ o = 0 → o - 1 + (zs.length + 1) ≤ 2 * P ∧ ((o - 1 : Nat) : Int) = o + -1))
    (ho : o = 0 ∨ (o : Int) < 2 * (P : Int) - (zs.length : Int)) (hk : Keeps (fun _ => False) w wr) (hown : OwnI w.heap.size wr lv zs) (hown2 : OwnI w.heap.size w1 lv' (zs ++ [1])) (hk2 : Keeps (fun k => lv.ownBlock = some k) wr w1) : AnyS w P (zs.length + 1) (o + 1) lv' w1 :=
  AnyS.push (.inr rfl) rfl hZ.1 hZ.2.1 hZ.2.2.1 (by simp) (hZ.2.2.2.2.1 (by omega)) hZ.2.2.2.1 hk hown hown2 hk2

theorem AnyS.down {w wr w1 : World} {P o : Nat} {lv lv' : Value} {zs : List Int} (hZ : (∀ z ∈ zs, z = 0 ∨ z = 1) ∧ ex (bitsOf zs) zs.length = o ∧ (∀ p, p ≤ zs.length → 0 ≤ ex (bitsOf zs) p) ∧ (o + zs.length) % 2 = 0 ∧ ((o = 0 ∨ o < 2 * P - zs.length) → o + 1 + (zs.length + 1) ≤ 2 * P) ∧ (¬ o = 0 → o - 1 + (zs.length + 1) ≤ 2 * P ∧ ((o - 1 : Nat) : Int) = o + -1))
    (ho : ¬ o = 0) (hk : Keeps (fun _ => False) w wr) (hown : OwnI w.heap.size wr lv zs) (hown2 : OwnI w.heap.size w1 lv' (zs ++ [0])) (hk2 : Keeps (fun k => lv.ownBlock = some k) wr w1) : AnyS w P (zs.length + 1) (o - 1) lv' w1 :=
  AnyS.push (.inl rfl) rfl hZ.1 hZ.2.1 hZ.2.2.1 (by rw [(hZ.2.2.2.2.2 ho).2]; simp) (hZ.2.2.2.2.2 ho).1 hZ.2.2.2.1 hk hown hown2 hk2

end Go.Proofs.YtblkkcpeodoclaaGreatDoor

/- The reference of layer 3: Mates; its plain law. -/
namespace Go.Proofs.YtblkkcpeodoclaaGreatDoor
open Go.RowKit

/-- What Mates knows ahead of place k: ms the mates, rs the rounds, st the open ones. -/
structure MInv (l : List Bool) (k : Nat) (ms rs : List Int) (st : List Nat) : Prop where
  lm : ms.length = l.length
  lr : rs.length = l.length
  hx : ex l k = st.length
  stk : ∀ (j o : Nat), st[j]? = some o → o < k ∧ l.getD o false = true ∧ ex l o = j ∧ ∀ p, o < p → p ≤ k → (j : Int) < ex l p
  done : ∀ p, p < k → (∃ j : Nat, st[j]? = some p) ∨ ∃ m : Nat, ms[p]? = some (m : Int) ∧ MateOf l p m
  rd : ∀ p, p < k → ∃ r : Int, rs[p]? = some r ∧ RoundOf l p r

theorem MInv.start (l : List Bool) : MInv l 0 (List.replicate l.length 0) (List.replicate l.length 0) [] :=
  ⟨by simp, by simp, by rw [ex_zero]; rfl, fun j o h => by simp at h, fun p hp => by omega, fun p hp => by omega⟩

theorem MInv.open {l : List Bool} {k : Nat} {ms rs : List Int} {st : List Nat} (h : MInv l k ms rs st) (hk : k < l.length) (hb : l.getD k false = true) (r : Int)
    (hr : (st = [] ∧ r = -1) ∨ ∃ o, st[st.length - 1]? = some o ∧ 0 < st.length ∧ r = (o : Nat)) : MInv l (k + 1) ms (rs.set k r) (st ++ [k]) := by
  have hs := bit_ex l hk
  rw [hb, if_pos rfl, h.hx] at hs
  have hRA : RoundAt l k r := by
    rcases hr with ⟨rfl, rfl⟩ | ⟨o, ho, hl, rfl⟩
    · exact .inl ⟨h.hx, rfl⟩
    · obtain ⟨h1, h2, h3, h4⟩ := h.stk _ _ ho
      refine .inr ⟨by rw [h.hx]; omega, o, rfl, h1, by omega, by rw [h3, h.hx]; omega, fun p h5 h6 => ?_⟩
      have := h4 p h5 h6
      rw [h.hx]; omega
  refine ⟨h.lm, by simpa using h.lr, by simpa using hs, fun j o hj => ?_, fun p hp => ?_, fun p hp => ?_⟩
  · rw [List.getElem?_append] at hj
    split at hj
    · obtain ⟨h1, h2, h3, h4⟩ := h.stk _ _ hj
      refine ⟨by omega, h2, h3, fun p h5 h6 => ?_⟩
      by_cases hp : p ≤ k
      · exact h4 p h5 hp
      · obtain rfl : p = k + 1 := by omega
        rw [hs]; omega
    · rename_i hlt
      have hj2 : j - st.length = 0 := by
        rcases Nat.eq_zero_or_pos (j - st.length) with h | h
        · exact h
        · rw [List.getElem?_eq_none (by simp; omega)] at hj; cases hj
      rw [hj2] at hj
      simp only [List.getElem?_cons_zero, Option.some.injEq] at hj
      subst hj
      have hjl : j = st.length := by omega
      subst hjl
      refine ⟨by omega, hb, h.hx, fun p h5 h6 => ?_⟩
      obtain rfl : p = k + 1 := by omega
      rw [hs]; omega
  · by_cases hpk : p < k
    · rcases h.done p hpk with ⟨j, hj⟩ | hm
      · refine .inl ⟨j, ?_⟩
        rw [List.getElem?_append_left]
        · exact hj
        · rcases Nat.lt_or_ge j st.length with h' | h'
          · exact h'
          · rw [List.getElem?_eq_none h'] at hj; cases hj
      · exact .inr hm
    · obtain rfl : p = k := by omega
      exact .inl ⟨st.length, by simp⟩
  · by_cases hpk : p < k
    · rw [List.getElem?_set_ne (by omega)]
      exact h.rd p hpk
    · obtain rfl : p = k := by omega
      exact ⟨r, by rw [List.getElem?_set_self (by rw [h.lr]; exact hk)], .inl ⟨hb, hRA⟩⟩

theorem MInv.top {l : List Bool} {k : Nat} {ms rs : List Int} {st : List Nat} (h : MInv l k ms rs st) (hB : Bal l) (hk : k < l.length) (hb : l.getD k false = false) :
    ∃ o, st[st.length - 1]? = some o ∧ 0 < st.length ∧ o < k ∧ IsPair l o k := by
  have hs := bit_ex l hk
  rw [hb, if_neg (by simp), h.hx] at hs
  have h0 := hB.2 (k + 1) (by omega)
  have hl : 0 < st.length := by omega
  obtain ⟨o, ho⟩ : ∃ o, st[st.length - 1]? = some o := ⟨_, List.getElem?_eq_getElem (by omega)⟩
  obtain ⟨h1, h2, h3, h4⟩ := h.stk _ _ ho
  refine ⟨o, ho, hl, h1, h1, hk, by rw [hs, h3]; omega, fun p h5 h6 => ?_⟩
  rw [h3]
  exact h4 p h5 h6

theorem MInv.close {l : List Bool} {k : Nat} {ms rs : List Int} {st : List Nat} (h : MInv l k ms rs st) (hk : k < l.length) (hb : l.getD k false = false) {o : Nat} (ho : st[st.length - 1]? = some o) (hl : 0 < st.length) (hok : o < k) (hP : IsPair l o k) (r : Int) (hr : rs[o]? = some r) :
    MInv l (k + 1) ((ms.set k (o : Int)).set o (k : Int)) (rs.set k r) (st.take (st.length - 1)) := by
  have hs := bit_ex l hk
  rw [hb, if_neg (by simp), h.hx] at hs
  refine ⟨by simpa using h.lm, by simpa using h.lr, by rw [hs, List.length_take]; omega, fun j q hj => ?_, fun p hp => ?_, fun p hp => ?_⟩
  · rw [List.getElem?_take] at hj
    split at hj
    · obtain ⟨h1, h2, h3, h4⟩ := h.stk _ _ hj
      refine ⟨by omega, h2, h3, fun p h5 h6 => ?_⟩
      by_cases hp : p ≤ k
      · exact h4 p h5 hp
      · obtain rfl : p = k + 1 := by omega
        rw [hs]; omega
    · cases hj
  · by_cases hpo : p = o
    · subst hpo
      exact .inr ⟨k, by rw [List.getElem?_set_self (by rw [List.length_set, h.lm]; omega)], hP.mate_l⟩
    · rw [List.getElem?_set_ne (fun e => hpo e.symm)]
      by_cases hpk : p < k
      · rw [List.getElem?_set_ne (by omega)]
        rcases h.done p hpk with ⟨j, hj⟩ | hm
        · refine .inl ⟨j, ?_⟩
          have hjl : j < st.length := by
            rcases Nat.lt_or_ge j st.length with h' | h'
            · exact h'
            · rw [List.getElem?_eq_none h'] at hj; cases hj
          rw [List.getElem?_take, if_pos]
          · exact hj
          · rcases Nat.lt_or_ge j (st.length - 1) with h' | h'
            · exact h'
            · obtain rfl : j = st.length - 1 := by omega
              rw [ho] at hj
              simp only [Option.some.injEq] at hj
              exact absurd hj.symm hpo
        · exact .inr hm
      · obtain rfl : p = k := by omega
        exact .inr ⟨o, by rw [List.getElem?_set_self (by rw [h.lm]; exact hk)], hP.mate_r⟩
  · by_cases hpk : p < k
    · rw [List.getElem?_set_ne (by omega)]
      exact h.rd p hpk
    · obtain rfl : p = k := by omega
      obtain ⟨r', h1, h2⟩ := h.rd o hok
      rw [hr] at h1
      simp only [Option.some.injEq] at h1
      subst h1
      refine ⟨r, by rw [List.getElem?_set_self (by rw [h.lr]; exact hk)], .inr ⟨hb, o, hP, ?_⟩⟩
      rcases h2 with ⟨_, h2⟩ | ⟨h2, _⟩
      · exact h2
      · rw [hP.opens.1] at h2; cases h2

theorem MInv.fin {l : List Bool} {ms rs : List Int} {st : List Nat} (h : MInv l l.length ms rs st) (hB : Bal l) : ∀ p, p < l.length → (∃ m : Nat, ms[p]? = some (m : Int) ∧ MateOf l p m) ∧ ∃ r : Int, rs[p]? = some r ∧ RoundOf l p r := by
  intro p hp
  refine ⟨?_, h.rd p hp⟩
  have hx := h.hx
  rw [hB.1] at hx
  have hst : st = [] := List.eq_nil_of_length_eq_zero (by omega)
  rcases h.done p hp with ⟨j, hj⟩ | hm
  · rw [hst] at hj; simp at hj
  · exact hm

/-! Slices of int that are written. -/

theorem OwnI.set {B : Nat} {w : World} {g n cap : Nat} {zs : List Int} (h : OwnI B w (.slice (some ⟨g, 0, none⟩) n cap) zs) (i : Nat) (z : Int) : OwnI B (w.setCell ⟨g, i, none⟩ (.int .i64 z)) (.slice (some ⟨g, 0, none⟩) n cap) (zs.set i z) := by
  have hn : n = zs.length := by
    obtain ⟨a, c, hv, _⟩ := h.form
    simp only [Value.slice.injEq] at hv
    exact hv.2.1
  subst hn
  have := owns_set h i (.int .i64 z)
  unfold OwnI ints at *
  rw [List.length_set, List.map_set]
  exact this

theorem OwnI.other {B : Nat} {w : World} {v : Value} {zs : List Int} (h : OwnI B w v zs) (a : Addr) (ha : v.ownBlock ≠ some a.block) (u : Value) : OwnI B (w.setCell a u) v zs :=
  ownsRow_setCell_other h ha u

theorem OwnI.cell {B : Nat} {w : World} {g n cap : Nat} {zs : List Int} (h : OwnI B w (.slice (some ⟨g, 0, none⟩) n cap) zs) {i : Nat} {z : Int} (hz : zs[i]? = some z) : w.cell? ⟨g, i, none⟩ = some (.int .i64 z) ∧ w.frozen? ⟨g, i, none⟩ = false := by
  have hi : i < zs.length := by
    rcases Nat.lt_or_ge i zs.length with h' | h'
    · exact h'
    · rw [List.getElem?_eq_none h'] at hz; cases hz
  obtain ⟨g', cap', hv, _, _, hc, _, _⟩ := owns_form h (by omega)
  simp only [Value.slice.injEq, Option.some.injEq, Addr.mk.injEq, and_true] at hv
  obtain ⟨rfl, _⟩ := hv
  exact hc i (.int .i64 z) (by rw [ints, List.getElem?_map, hz]; rfl)

theorem OwnI.has {B : Nat} {w : World} {g n cap : Nat} {zs : List Int} (h : OwnI B w (.slice (some ⟨g, 0, none⟩) n cap) zs) (i : Nat) (hi : i < zs.length) : ∃ z : Int, w.cell? ⟨g, i, none⟩ = some (.int .i64 z) ∧ w.frozen? ⟨g, i, none⟩ = false :=
  ⟨_, h.cell (List.getElem?_eq_getElem hi)⟩

theorem own_some {B : Nat} {w : World} {a : Option Addr} {n cap : Nat} {zs : List Int} (h : OwnI B w (.slice a n cap) zs) (hn : 0 < zs.length) : ∃ g, a = some ⟨g, 0, none⟩ := by
  obtain ⟨g, cap', hv, _⟩ := owns_form h hn
  simp only [Value.slice.injEq] at hv
  exact ⟨g, hv.1⟩

theorem OwnI.take {B : Nat} {w : World} {v : Value} {a : Option Addr} {n cap : Nat} {zs : List Int} (h : OwnI B w v zs) (hv : v = .slice a n cap) (m : Nat) (hm : m ≤ zs.length) : OwnI B w (.slice a m cap) (zs.take m) := by
  obtain ⟨h1, h2⟩ := h
  have hl : (zs.take m).length = m := by simp; omega
  unfold OwnI
  rw [hl]
  refine ⟨by simp [ints]; omega, ?_⟩
  rcases h2 with ⟨h3, h4⟩ | ⟨g, cap', cur, h3, hb, hg, hnc, hcm, hcs, ht⟩
  · rw [hv] at h3
    simp only [Value.slice.injEq] at h3
    obtain ⟨rfl, rfl, rfl⟩ := h3
    refine .inl ⟨?_, by omega⟩
    obtain rfl : m = 0 := by omega
    rfl
  · rw [hv] at h3
    simp only [Value.slice.injEq] at h3
    obtain ⟨rfl, rfl, rfl⟩ := h3
    refine .inr ⟨g, cap, cur, rfl, hb, hg, by omega, hcm, hcs, ?_⟩
    simp only [Nat.mul_one] at ht ⊢
    rw [ints, List.map_take]
    unfold ints at ht
    rw [← ht, List.take_take, Nat.min_eq_left hm]

theorem nats_get {l : List Nat} {i x : Nat} (h : l[i]? = some x) : (nats l)[i]? = some (x : Int) := by simp [nats, h]
theorem nats_len (l : List Nat) : (nats l).length = l.length := by simp [nats]

/-- 'append(l, z)', l of the call's own, its length a letter. -/
theorem append1n {ops : Array Oper} {rest : List Oper} {o : Oper} {a : Act} {Q : Exit → Act → World → Prop} {wr : World} (n : Nat) (hgd : o.guard = none) (s x : Operand)
    (ho : o.op = .call { callee := .builtin .append, args := #[s, x], argTypes := #[33, 33] }) (B : Nat) (v : Value) (zs : List Int) (z : Int) (hn : Hid (zs.length = n)) (H : Nat) (hH : wr.heap.size = H) (hs : a.eval s = v) (hx : a.eval x = .slice (some ⟨H, 0, none⟩) 1 1)
    (hown : OwnI B wr v zs) (hlen : n ≤ 10000000000) (hB : B ≤ wr.heap.size)
    (h : ∀ g cap w', OwnI B w' (.slice (some ⟨g, 0, none⟩) (n + 1) cap) (zs ++ [z]) → Keeps (fun k => v.ownBlock = some k) wr w' → (v.ownBlock = some g ∨ wr.heap.size ≤ g) → B ≤ g →
      wpList Tryz.prog ops Q rest (a.put o.dst (.slice (some ⟨g, 0, none⟩) (n + 1) cap)) w') :
    wpList Tryz.prog ops Q (o :: rest) a (wr.alloc (.cells #[.int .i64 z] 3)) := by
  have hn := hn.out
  subst hn
  exact append1 hgd s x ho B v zs z H hH hs hx hown hlen hB h

/-- What Mates has laid. -/
def MSt (w : World) (l : List Bool) (gm gr k : Nat) (ov : Value) (wr : World) : Prop :=
  ∃ ms rs st, MInv l k ms rs st ∧ OwnI w.heap.size wr (.slice (some ⟨gm, 0, none⟩) l.length l.length) ms ∧ OwnI w.heap.size wr (.slice (some ⟨gr, 0, none⟩) l.length l.length) rs ∧ OwnI w.heap.size wr ov (nats st) ∧
    gm ≠ gr ∧ ov.ownBlock ≠ some gm ∧ ov.ownBlock ≠ some gr ∧ Keeps (fun _ => False) w wr

theorem MSt.start (w : World) (l : List Bool) (hl : l.length ≤ 100000000) (gm gr : Nat) (hg : (gm = w.heap.size ∧ gr = w.heap.size + 1) ∨ (gr = w.heap.size ∧ gm = w.heap.size + 1)) :
    MSt w l gm gr 0 (.slice none 0 0) (((w.alloc (.cells (madeCells #[.int .i64 0] l.length) 3)).alloc (.cells (madeCells #[.int .i64 0] l.length) 3)).drew) := by
  have ht : (madeCells #[.int .i64 0] l.length).toList = ints (List.replicate l.length 0) := by
    rw [toList_madeCells_one]; simp [ints]
  have h1 := World.ownsRow_lit (base := w.heap.size) (e := 3) (size := 1) w (madeCells #[.int .i64 0] l.length) l.length (Nat.le_refl _) (by unfold maxLen; omega) (by rw [size_madeCells]; omega)
  have h2 := World.ownsRow_lit (base := w.heap.size) (e := 3) (size := 1) (w.alloc (.cells (madeCells #[.int .i64 0] l.length) 3)) (madeCells #[.int .i64 0] l.length) l.length (by simp) (by unfold maxLen; omega) (by rw [size_madeCells]; omega)
  rw [ht] at h1 h2
  have hs : (w.alloc (.cells (madeCells #[.int .i64 0] l.length) 3)).heap.size = w.heap.size + 1 := by simp
  rw [hs] at h2
  have q1 : OwnI w.heap.size (((w.alloc (.cells (madeCells #[.int .i64 0] l.length) 3)).alloc (.cells (madeCells #[.int .i64 0] l.length) 3)).drew) (.slice (some ⟨w.heap.size, 0, none⟩) l.length l.length) (List.replicate l.length 0) := by
    have : OwnI w.heap.size (w.alloc (.cells (madeCells #[.int .i64 0] l.length) 3)) (.slice (some ⟨w.heap.size, 0, none⟩) l.length l.length) (List.replicate l.length 0) := by
      unfold OwnI; rw [List.length_replicate]; exact h1
    exact (this.alloc _).keeps ((Keeps.refl (fun _ => False) _).drew) (fun _ _ h => h)
  have q2 : OwnI w.heap.size (((w.alloc (.cells (madeCells #[.int .i64 0] l.length) 3)).alloc (.cells (madeCells #[.int .i64 0] l.length) 3)).drew) (.slice (some ⟨w.heap.size + 1, 0, none⟩) l.length l.length) (List.replicate l.length 0) := by
    have : OwnI w.heap.size ((w.alloc (.cells (madeCells #[.int .i64 0] l.length) 3)).alloc (.cells (madeCells #[.int .i64 0] l.length) 3)) (.slice (some ⟨w.heap.size + 1, 0, none⟩) l.length l.length) (List.replicate l.length 0) := by
      unfold OwnI; rw [List.length_replicate]; exact h2
    exact this.keeps ((Keeps.refl (fun _ => False) _).drew) (fun _ _ h => h)
  have hk : Keeps (fun _ => False) w (((w.alloc (.cells (madeCells #[.int .i64 0] l.length) 3)).alloc (.cells (madeCells #[.int .i64 0] l.length) 3)).drew) := (((Keeps.refl _ w).alloc _).alloc _).drew
  rcases hg with ⟨rfl, rfl⟩ | ⟨rfl, rfl⟩
  · exact ⟨_, _, [], MInv.start l, q1, q2, OwnI.nil _ _, by omega, by simp [Value.ownBlock], by simp [Value.ownBlock], hk⟩
  · exact ⟨_, _, [], MInv.start l, q2, q1, OwnI.nil _ _, by omega, by simp [Value.ownBlock], by simp [Value.ownBlock], hk⟩

theorem MSt.pushed {w w2 w3 : World} {l : List Bool} {gm gr k g2 cap2 n : Nat} {ms rs : List Int} {st : List Nat} {ov : Value} (hI : MInv l (k + 1) ms rs (st ++ [k])) (hm : OwnI w.heap.size w2 (.slice (some ⟨gm, 0, none⟩) l.length l.length) ms) (hr : OwnI w.heap.size w2 (.slice (some ⟨gr, 0, none⟩) l.length l.length) rs)
    (ho : OwnI w.heap.size w3 (.slice (some ⟨g2, 0, none⟩) (n + 1) cap2) (nats st ++ [(k : Int)])) (k3 : Keeps (fun k => ov.ownBlock = some k) w2 w3) (hgg : gm ≠ gr) (hom : ov.ownBlock ≠ some gm) (hor : ov.ownBlock ≠ some gr) (hov : OwnI w.heap.size w2 ov (nats st)) (_ : w.heap.size ≤ gr) (_ : w.heap.size ≤ gm)
    (k2 : Keeps (fun _ => False) w w2) (hat : ov.ownBlock = some g2 ∨ w2.heap.size ≤ g2) (hmg : gm < w2.heap.size) (hrg : gr < w2.heap.size) : MSt w l gm gr (k + 1) (.slice (some ⟨g2, 0, none⟩) (n + 1) cap2) w3 := by
  have hn : nats st ++ [(k : Int)] = nats (st ++ [k]) := by simp [nats]
  rw [hn] at ho
  have h1 : g2 ≠ gm := by
    rcases hat with h | h
    · intro e; rw [e] at h; exact hom h
    · omega
  have h2 : g2 ≠ gr := by
    rcases hat with h | h
    · intro e; rw [e] at h; exact hor h
    · omega
  refine ⟨ms, rs, _, hI, hm.keeps k3 (fun b hb h => ?_), hr.keeps k3 (fun b hb h => ?_), ho, hgg, by simp [Value.ownBlock]; exact h1, by simp [Value.ownBlock]; exact h2, k2.trans k3 (fun x hx h => by have := (hov.lt x h).1; omega)⟩
  · simp only [Value.ownBlock, Option.some.injEq] at hb; subst hb; exact hom h
  · simp only [Value.ownBlock, Option.some.injEq] at hb; subst hb; exact hor h

end Go.Proofs.YtblkkcpeodoclaaGreatDoor

/- Layer 3's statements: made, awake. -/
namespace Go.Proofs.YtblkkcpeodoclaaGreatDoor
open Go.RowKit

def l6 : List Bool := bitsOf [1, 1, 0, 1, 0, 0]
theorem bal6 : Bal (bitsOf [1, 1, 0, 1, 0, 0]) := ⟨by decide, fun p hp => by
  have h : ∀ p, p < 7 → 0 ≤ ex (bitsOf [1, 1, 0, 1, 0, 0]) p := by decide
  exact h p (by have : (bitsOf [1, 1, 0, 1, 0, 0]).length = 6 := rfl; omega)⟩
theorem pair05 : IsPair (bitsOf [1, 1, 0, 1, 0, 0]) 0 5 := ⟨by decide, by decide, by decide, fun p h1 h2 => by
  have h : ∀ p, p < 6 → 0 < p → ex (bitsOf [1, 1, 0, 1, 0, 0]) 0 < ex (bitsOf [1, 1, 0, 1, 0, 0]) p := by decide
  exact h p (by omega) h1⟩
theorem round3 : RoundOf (bitsOf [1, 1, 0, 1, 0, 0]) 3 0 := .inl ⟨by decide, .inr ⟨by decide, 0, rfl, by decide, by decide, by decide, fun p h1 h2 => by
  have h : ∀ p, p < 4 → 0 < p → ex (bitsOf [1, 1, 0, 1, 0, 0]) 3 - 1 < ex (bitsOf [1, 1, 0, 1, 0, 0]) p := by decide
  exact h p (by omega) h1⟩⟩
theorem round0 : RoundOf (bitsOf [1, 1, 0, 1, 0, 0]) 0 (-1) := .inl ⟨by decide, .inl ⟨by decide, rfl⟩⟩
theorem ex62 : ex (bitsOf [1, 1, 0, 1, 0, 0]) 2 = 2 := by decide

theorem Sl.six (w : World) (a b c d e f : Int) (t : TypeId) : Sl .i64 (w.alloc (.cells #[.int .i64 a, .int .i64 b, .int .i64 c, .int .i64 d, .int .i64 e, .int .i64 f] t)) (.slice (some ⟨w.heap.size, 0, none⟩) 6 6) [a, b, c, d, e, f] := by
  refine ⟨_, 6, rfl, by simp, by decide, (fun h => by cases h), fun j x hj => ⟨_, _, rfl, ?_⟩⟩
  rw [World.cell_of_heap (heap_alloc_new w _)]
  have hj6 : j < 6 := by
    rcases Nat.lt_or_ge j 6 with h | h
    · exact h
    · rw [List.getElem?_eq_none (by simpa using h)] at hj; cases hj
  match j, hj6 with
  | 0, _ => cases hj; rfl
  | 1, _ => cases hj; rfl
  | 2, _ => cases hj; rfl
  | 3, _ => cases hj; rfl
  | 4, _ => cases hj; rfl
  | 5, _ => cases hj; rfl

end Go.Proofs.YtblkkcpeodoclaaGreatDoor
