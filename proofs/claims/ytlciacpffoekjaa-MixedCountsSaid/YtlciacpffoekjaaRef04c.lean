/- The references of layer 4: Owners. -/
import Derived.Test.YtlciacpffoekjaaRef04b
namespace Go.Proofs.Ytlciacpffoekjaa
open Go.RowKit

/-- What Owners knows ahead of a place: rs the owners, st where the open round ones stand. -/
structure OInv (ks : List Nat) (i : Nat) (rs : List Int) (st : List Nat) : Prop where
  lr : rs.length = ks.length
  hx : ex (ownB 0 ks) (pr 0 ks i) = st.length
  stk : ∀ (j n : Nat), st[j]? = some n → ∃ o, SelAt 0 ks o n ∧ o < pr 0 ks i ∧ ex (ownB 0 ks) o = j ∧ ∀ p, o < p → p ≤ pr 0 ks i → (j : Int) < ex (ownB 0 ks) p
  rd : ∀ p, p < i → ∃ r : Int, rs[p]? = some r ∧ OwnerOf ks p r

theorem OInv.start (ks : List Nat) : OInv ks 0 (List.replicate ks.length 0) [] :=
  ⟨by simp, by rw [pr_zero, ex_zero]; rfl, fun j n h => by simp at h, fun p hp => by omega⟩

theorem OInv.owner {ks : List Nat} {i : Nat} {rs : List Int} {st : List Nat} (h : OInv ks i rs st) (hi : i ≤ ks.length) (r : Int) (hr : (st = [] ∧ r = -1) ∨ ∃ o, st[st.length - 1]? = some o ∧ 0 < st.length ∧ r = (o : Nat)) : OwnerOf ks i r := by
  rcases hr with ⟨rfl, rfl⟩ | ⟨n, hn, hl, rfl⟩
  · exact .inl ⟨h.hx, rfl⟩
  · obtain ⟨o, h1, h2, h3, h4⟩ := h.stk _ _ hn
    refine .inr ⟨by rw [h.hx]; omega, o, n, ⟨h2, pr_le 0 ks i hi, by rw [h3, h.hx]; omega, fun p h5 h6 => ?_⟩, h1, rfl⟩
    have := h4 p h5 h6
    rw [h.hx]; omega

theorem OInv.set {ks : List Nat} {i k : Nat} {rs : List Int} {st : List Nat} (h : OInv ks i rs st) (hk : ks[i]? = some k) {r : Int} (hr : OwnerOf ks i r) : ∀ p, p < i + 1 → ∃ r' : Int, (rs.set i r)[p]? = some r' ∧ OwnerOf ks p r' := by
  intro p hp
  have hi := lt_of_get hk
  by_cases hpi : p = i
  · subst hpi
    exact ⟨r, by rw [List.getElem?_set_self (by rw [h.lr]; exact hi)], hr⟩
  · rw [List.getElem?_set_ne (fun e => hpi e.symm)]
    exact h.rd p (by omega)

theorem OInv.push {ks : List Nat} {i : Nat} {rs : List Int} {st : List Nat} (h : OInv ks i rs st) (hk : ks[i]? = some 0) {r : Int} (hr : OwnerOf ks i r) : OInv ks (i + 1) (rs.set i r) (st ++ [i]) := by
  have hp := pr_succ 0 hk
  rw [if_pos (by decide)] at hp
  have ho := own_get (s := 0) hk rfl
  have hb := bit_ex (ownB 0 ks) (lt_of_get ho)
  rw [List.getD_eq_getElem?_getD, ho, Option.getD_some, if_pos (by decide), h.hx, ← hp] at hb
  refine ⟨by simpa using h.lr, by simpa using hb, fun j n hj => ?_, h.set hk hr⟩
  rw [List.getElem?_append] at hj
  split at hj
  · obtain ⟨o, h1, h2, h3, h4⟩ := h.stk _ _ hj
    refine ⟨o, h1, by omega, h3, fun p h5 h6 => ?_⟩
    by_cases hpp : p ≤ pr 0 ks i
    · exact h4 p h5 hpp
    · obtain rfl : p = pr 0 ks (i + 1) := by omega
      rw [hb]; omega
  · rename_i hlt
    have hj2 : j - st.length = 0 := by
      rcases Nat.eq_zero_or_pos (j - st.length) with h | h
      · exact h
      · rw [List.getElem?_eq_none (by simp; omega)] at hj; cases hj
    rw [hj2] at hj
    simp only [List.getElem?_cons_zero, Option.some.injEq] at hj
    subst hj
    have hjl : j = st.length := by omega
    subst hjl
    refine ⟨pr 0 ks i, SelAt.at hk rfl, by omega, h.hx, fun p h5 h6 => ?_⟩
    obtain rfl : p = pr 0 ks (i + 1) := by omega
    rw [hb]; omega

theorem OInv.some_open {ks : List Nat} {i : Nat} {rs : List Int} {st : List Nat} (h : OInv ks i rs st) (hB : Bal (ownB 0 ks)) (hk : ks[i]? = some 1) : 0 < st.length := by
  have ho := own_get (s := 0) hk rfl
  have hb := bit_ex (ownB 0 ks) (lt_of_get ho)
  rw [List.getD_eq_getElem?_getD, ho, Option.getD_some, if_neg (by decide), h.hx] at hb
  have := hB.2 (pr 0 ks i + 1) (lt_of_get ho)
  omega

theorem OInv.pop {ks : List Nat} {i : Nat} {rs : List Int} {st : List Nat} (h : OInv ks i rs st) (hk : ks[i]? = some 1) (hl : 0 < st.length) {r : Int} (hr : OwnerOf ks i r) : OInv ks (i + 1) (rs.set i r) (st.take (st.length - 1)) := by
  have hp := pr_succ 0 hk
  rw [if_pos (by decide)] at hp
  have ho := own_get (s := 0) hk rfl
  have hb := bit_ex (ownB 0 ks) (lt_of_get ho)
  rw [List.getD_eq_getElem?_getD, ho, Option.getD_some, if_neg (by decide), h.hx, ← hp] at hb
  refine ⟨by simpa using h.lr, by rw [hb, List.length_take]; omega, fun j n hj => ?_, h.set hk hr⟩
  rw [List.getElem?_take] at hj
  split at hj
  · obtain ⟨o, h1, h2, h3, h4⟩ := h.stk _ _ hj
    refine ⟨o, h1, by omega, h3, fun p h5 h6 => ?_⟩
    by_cases hpp : p ≤ pr 0 ks i
    · exact h4 p h5 hpp
    · obtain rfl : p = pr 0 ks (i + 1) := by omega
      rw [hb]; omega
  · cases hj

theorem OInv.skip {ks : List Nat} {i k : Nat} {rs : List Int} {st : List Nat} (h : OInv ks i rs st) (hk : ks[i]? = some k) (h2 : 2 ≤ k) {r : Int} (hr : OwnerOf ks i r) : OInv ks (i + 1) (rs.set i r) st := by
  have hp := pr_succ 0 hk
  rw [if_neg (by omega), Nat.add_zero] at hp
  refine ⟨by simpa using h.lr, by rw [hp]; exact h.hx, fun j n hj => ?_, h.set hk hr⟩
  rw [hp]
  exact h.stk j n hj

/-- What Owners has laid. -/
def OwnS (w : World) (ks : List Nat) (g i : Nat) (ov : Value) (wr : World) : Prop :=
  ∃ rs st, OInv ks i rs st ∧ OwnI w.heap.size wr (.slice (some ⟨g, 0, none⟩) ks.length ks.length) rs ∧ OwnI w.heap.size wr ov (nats st) ∧ ov.ownBlock ≠ some g ∧ Keeps (fun _ => False) w wr

theorem OwnS.pushed {w w2 w3 : World} {ks : List Nat} {g k g2 cap2 n : Nat} {rs : List Int} {st : List Nat} {ov : Value} (hI : OInv ks (k + 1) rs (st ++ [k])) (hr : OwnI w.heap.size w2 (.slice (some ⟨g, 0, none⟩) ks.length ks.length) rs)
    (ho : OwnI w.heap.size w3 (.slice (some ⟨g2, 0, none⟩) (n + 1) cap2) (nats st ++ [(k : Int)])) (k3 : Keeps (fun k => ov.ownBlock = some k) w2 w3) (hor : ov.ownBlock ≠ some g) (hov : OwnI w.heap.size w2 ov (nats st))
    (k2 : Keeps (fun _ => False) w w2) (hat : ov.ownBlock = some g2 ∨ w2.heap.size ≤ g2) : OwnS w ks g (k + 1) (.slice (some ⟨g2, 0, none⟩) (n + 1) cap2) w3 := by
  have hn : nats st ++ [(k : Int)] = nats (st ++ [k]) := by simp [nats]
  rw [hn] at ho
  have hg := (hr.lt g rfl).2
  have h2 : g2 ≠ g := by
    rcases hat with h | h
    · intro e; rw [e] at h; exact hor h
    · omega
  refine ⟨rs, _, hI, hr.keeps k3 (fun b hb h => ?_), ho, by simp [Value.ownBlock]; exact h2, k2.trans k3 (fun x hx h => by have := (hov.lt x h).1; omega)⟩
  simp only [Value.ownBlock, Option.some.injEq] at hb; subst hb; exact hor h

set_option maxRecDepth 100000 in
set_option maxHeartbeats 8000000 in
theorem refOwners_any (sv : Value) (ks : List Nat) (w : World) (hs : Sl .i64 w sv (nats ks)) (h4 : ∀ k ∈ ks, k < 4) (hl : ks.length ≤ 100000000) (hB : Bal (ownB 0 ks)) :
    Calls Try.prog 61 #[sv] w fun e w' => ∃ g ov, e = .returned (.slice (some ⟨g, 0, none⟩) ks.length ks.length) ∧ OwnS w ks g ks.length ov w' := by
  obtain ⟨a, cap, rfl, hnc, hcm, _, hc⟩ := hs
  rw [nats_len] at hnc ⊢
  obtain ⟨i, hi, hz0, hz1, hz2⟩ := info_parts infoInt
  have hmk := fun w => run_make (P := Try.prog) w 26 3 i _ Try.underlying26 hi hz0 .i64 .i64 (ks.length : Int) (ks.length : Int) (by omega) (Int.le_refl _) (by rw [hz2]; omega) (by omega)
  simp only [hz1, Int.toNat_natCast, Nat.mul_one] at hmk
  have hO := OwnI.made w.heap.size w ks.length (Nat.le_refl _) hl
  have HS := Lib.hid (And.intro hB h4)
  clear hi hz0 hz1 hz2 hB h4
  go_enter Try.func61, Try.ntmps61
  go_wp2_with fail
  have hM0 : OwnS w ks w.heap.size 0 (.slice none 0 0) (w.alloc (.cells (madeCells #[.int .i64 0] ks.length) 3)) := ⟨_, _, OInv.start ks, hO, OwnI.nil _ _, by simp [Value.ownBlock], (Keeps.refl _ w).alloc _⟩
  clear hO hmk
  generalize World.alloc _ _ = wM at *
  obtain ⟨g, hg⟩ : ∃ g, g = w.heap.size := ⟨_, rfl⟩
  rw [← hg] at hM0
  rw [← hg]
  clear hg
  go_loopw [4, 12] (fun ov t wr => ∃ k : Nat, k ≤ ks.length ∧ t = .int .i64 k ∧ OwnS w ks g k ov wr) (fun _ t _ => ks.length - (intOf t).toNat)
  case atStart => exact ⟨0, Nat.zero_le _, rfl, hM0⟩
  case round =>
    obtain ⟨k, hk, rfl, rs, st, hI, hr, ho, hor, hkw⟩ := hrel
    clear hM0
    have hfo := ho.form
    obtain ⟨n, hn⟩ : ∃ n, n = (nats st).length := ⟨_, rfl⟩
    rw [← hn] at hfo
    rw [nats_len] at hn
    obtain ⟨oa, oc, rfl, hoc1, hoc2⟩ := hfo
    have hlr := hI.lr
    by_cases hlt : k < ks.length
    · have hz := List.getElem?_eq_getElem hlt
      obtain ⟨g5, off, rfl, hcell⟩ := hc k _ (nats_get hz)
      have hcell1 := hkw.cellF hcell
      have hk4 := HS.out.2 _ (List.mem_of_getElem? hz)
      generalize ks[k] = x at *
      have hnb : n ≤ 10000000000 := by
        have h1 := ex_abs (ownB 0 ks) (pr 0 ks k) (Nat.le_trans (ownB_le 0 ks) hl)
        rw [hI.hx, ← hn] at h1
        omega
      obtain ⟨x1, hrk, frk⟩ := hr.has k (by omega)
      have HN : Hid ((nats st).length = n) := Lib.hid (by rw [nats_len]; exact hn.symm)
      have hrg := (hr.lt g rfl)
      clear hc hcell
      have hx3 : x ≤ 3 := by omega
      by_cases hs0 : n = 0
      · -- none is open
        have hst0 : st = [] := List.eq_nil_of_length_eq_zero (by omega)
        have hown := hI.owner hk (-1) (.inl ⟨hst0, rfl⟩)
        have hr2 := hr.set k (-1)
        have ho2 := ho.other ⟨g, k, none⟩ hor (.int .i64 (-1))
        have hk2 := hkw.setCell (p := ⟨g, k, none⟩) (.inr hrg.1) (.int .i64 (-1))
        have hsz2 : w.heap.size ≤ (wr.setCell ⟨g, k, none⟩ (.int .i64 (-1))).heap.size := hk2.size
        by_cases hx0 : x = 0
        · subst hx0
          have HI := Lib.hid (And.intro (hI.push hz hown) (And.intro hr2 hk2))
          clear hI hr hr2 ho hk2 hn hst0 hlr hz hown
          subst hs0
          go_wp2_with (at_builtin; refine append1n 0 rfl _ _ rfl w.heap.size (.slice oa 0 oc) (nats st) k HN wr.heap.size (by simp) rfl rfl ho2 hnb hsz2 ?_; intro g2 cap2 w3 hown3 hk3 hat hg)
          have HF := Lib.hid (OwnS.pushed HI.out.1 HI.out.2.1 hown3 hk3 hor ho2 HI.out.2.2 hat)
          clear hown3 hk3 hat
          go_wp2
          go_roundw
          case rel => exact ⟨k + 1, by omega, by go_num, HF.out⟩
          case measure => simp [intOf]; omega
        · have hx1 : ¬ x = 1 := fun e => by
            rw [e] at hz
            have := hI.some_open HS.out.1 hz
            omega
          have hfin : OwnS w ks g (k + 1) (.slice oa n oc) (wr.setCell ⟨g, k, none⟩ (.int .i64 (-1))) := ⟨_, st, hI.skip hz (by omega) hown, hr2, ho2, hor, hk2⟩
          have t0 : ((x : Int) == 0) = false := by rw [beq_eq_false_iff_ne]; omega
          have t1 : ((x : Int) == 1) = false := by rw [beq_eq_false_iff_ne]; omega
          have HF := Lib.hid hfin
          clear hfin hI hr hr2 ho ho2 hk2 hn hst0 hlr hz hown HN hx0 hx1
          subst hs0
          go_wp2
          go_roundw
          case rel => exact ⟨k + 1, by omega, by go_num, HF.out⟩
          case measure => simp [intOf]; omega
      · obtain ⟨o, hso⟩ : ∃ o, st[st.length - 1]? = some o := ⟨_, List.getElem?_eq_getElem (by omega)⟩
        obtain ⟨m, hnm⟩ : ∃ m, n = m + 1 := ⟨n - 1, by omega⟩
        have hown := hI.owner hk o (.inr ⟨o, hso, by omega, rfl⟩)
        rw [← hn, hnm, show m + 1 - 1 = m by omega] at hso
        have hnz := nats_get hso
        obtain ⟨og, rfl⟩ := own_some ho (by rw [nats_len]; omega)
        obtain ⟨hoo, foo⟩ := ho.cell hnz
        have hg2 : og ≠ g := fun e => hor (by rw [e]; rfl)
        have hg4 := hg2.symm
        have hr2 := (hr.set k (-1)).set k o
        rw [List.set_set] at hr2
        have ho2 := (ho.other ⟨g, k, none⟩ hor (.int .i64 (-1))).other ⟨g, k, none⟩ hor (.int .i64 o)
        have hk2 := (hkw.setCell (p := ⟨g, k, none⟩) (.inr hrg.1) (.int .i64 (-1))).setCell (p := ⟨g, k, none⟩) (.inr hrg.1) (.int .i64 o)
        have hsz2 : w.heap.size ≤ ((wr.setCell ⟨g, k, none⟩ (.int .i64 (-1))).setCell ⟨g, k, none⟩ (.int .i64 o)).heap.size := hk2.size
        have q1 : (wr.setCell ⟨g, k, none⟩ (.int .i64 (-1))).cell? ⟨og, m, none⟩ = some (.int .i64 o) := by
          rw [World.cell?_setCell_other _ _ _ _ (by intro e; exact hg4 (congrArg Addr.block e))]; exact hoo
        have q2 : (wr.setCell ⟨g, k, none⟩ (.int .i64 (-1))).cell? ⟨g, k, none⟩ = some (.int .i64 (-1)) := World.cell?_setCell_same _ _ _ hrk
        by_cases hx0 : x = 0
        · subst hx0
          have HI := Lib.hid (And.intro (hI.push hz hown) (And.intro hr2 hk2))
          clear hI hr hr2 ho hk2 hn hlr hz hown hso hnz
          subst hnm
          go_wp2_with (at_builtin; refine append1n (m + 1) rfl _ _ rfl w.heap.size (.slice (some ⟨og, 0, none⟩) (m + 1) oc) (nats st) k HN wr.heap.size (by simp) rfl rfl ho2 hnb hsz2 ?_; intro g2 cap2 w3 hown3 hk3 hat hg)
          have HF := Lib.hid (OwnS.pushed HI.out.1 HI.out.2.1 hown3 hk3 hor ho2 HI.out.2.2 hat)
          clear hown3 hk3 hat
          go_wp2
          go_roundw
          case rel => exact ⟨k + 1, by omega, by go_num, HF.out⟩
          case measure => simp [intOf]; omega
        · have t0 : ((x : Int) == 0) = false := by rw [beq_eq_false_iff_ne]; omega
          by_cases hx1 : x = 1
          · subst hx1
            have hI2 := hI.pop hz (by omega) hown
            have ho3 := ho2.take rfl m (by rw [nats_len]; omega)
            have hnt : (nats st).take m = nats (st.take m) := by simp [nats]
            rw [hnt] at ho3
            rw [← hn, hnm, show m + 1 - 1 = m by omega] at hI2
            have hfin : OwnS w ks g (k + 1) (.slice (some ⟨og, 0, none⟩) m oc) ((wr.setCell ⟨g, k, none⟩ (.int .i64 (-1))).setCell ⟨g, k, none⟩ (.int .i64 o)) := ⟨_, _, hI2, hr2, ho3, by simp [Value.ownBlock]; exact hg2, hk2⟩
            have HF := Lib.hid hfin
            clear hfin hI hI2 hr hr2 ho ho2 ho3 hk2 hn hlr hz hown HN hx0 hso hnz hnt
            subst hnm
            go_wp2
            go_roundw
            case rel => exact ⟨k + 1, by omega, by go_num, HF.out⟩
            case measure => simp [intOf]; omega
          · have t1 : ((x : Int) == 1) = false := by rw [beq_eq_false_iff_ne]; omega
            have hfin : OwnS w ks g (k + 1) (.slice (some ⟨og, 0, none⟩) n oc) ((wr.setCell ⟨g, k, none⟩ (.int .i64 (-1))).setCell ⟨g, k, none⟩ (.int .i64 o)) := ⟨_, st, hI.skip hz (by omega) hown, hr2, ho2, hor, hk2⟩
            have HF := Lib.hid hfin
            clear hfin hI hr hr2 ho ho2 hk2 hn hlr hz hown HN hx0 hx1 hso hnz
            subst hnm
            go_wp2
            go_roundw
            case rel => exact ⟨k + 1, by omega, by go_num, HF.out⟩
            case measure => simp [intOf]; omega
    · obtain rfl : k = ks.length := by omega
      have hfin : OwnS w ks g ks.length (.slice oa n oc) wr := ⟨rs, st, hI, hr, ho, hor, hkw⟩
      have HF := Lib.hid hfin
      clear hfin hI hr ho hor hkw hc hn hlr
      go_wp2
      go_ret
      exact ⟨g, _, rfl, HF.out⟩

end Go.Proofs.Ytlciacpffoekjaa
