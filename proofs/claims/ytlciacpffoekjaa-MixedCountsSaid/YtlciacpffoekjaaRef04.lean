/- The references of layer 4: Count, Sort. -/
import Derived.Test.YtlciacpffoekjaaParse
import Derived.Test.YtlciacpffoekjaaRef02
namespace Go.Proofs.Ytlciacpffoekjaa
open Go.RowKit

theorem Sl.take {k : IntKind} {w : World} {a : Option Addr} {n cap : Nat} {zs : List Int} (h : Sl k w (.slice a n cap) zs) (m : Nat) (hm : m ≤ zs.length) : Sl k w (.slice a m cap) (zs.take m) := by
  obtain ⟨a', cap', hv, h1, h2, h3, h4⟩ := h
  simp only [Value.slice.injEq] at hv
  obtain ⟨rfl, rfl, rfl⟩ := hv
  have hl : (zs.take m).length = m := by simp; omega
  refine ⟨a, cap, by rw [hl], by omega, h2, h3, fun j z hj => ?_⟩
  rw [List.getElem?_take] at hj
  split at hj
  · exact h4 j z hj
  · cases hj

theorem cntZ_nats (ks : List Nat) (kind : Nat) : cntZ (nats ks) kind = cntK ks kind := by
  unfold cntZ nats cntK
  induction ks with
  | nil => rfl
  | cons k ks ih =>
    simp only [List.map_cons, List.filter_cons]
    by_cases h : k = kind
    · subst h; simp [ih]
    · have h1 : ((k : Int) == (kind : Int)) = false := by rw [beq_eq_false_iff_ne]; omega
      have h2 : (k == kind) = false := by rw [beq_eq_false_iff_ne]; exact h
      rw [h1, h2]
      simpa using ih

set_option maxRecDepth 100000 in
set_option maxHeartbeats 1000000 in
theorem refCount_any (sv : Value) (zs : List Int) (kind : Int) (w : World) (hs : Sl .i64 w sv zs) (hl : zs.length ≤ 100000000) :
    Calls Try.prog 67 #[sv, .int .i64 kind] w fun e w' => e = .returned (.int .i64 (cntZ zs kind)) ∧ w = w' := by
  obtain ⟨a, cap, rfl, hnc, hcm, _, hc⟩ := hs
  go_enter Try.func67, Try.ntmps67
  go_wp2_with fail
  go_loop [5, 10] (fun c i => ∃ k : Nat, k ≤ zs.length ∧ i = .int .i64 k ∧ c = .int .i64 (cntZ (zs.take k) kind)) (fun _ i => zs.length - (intOf i).toNat)
  case atStart => exact ⟨0, Nat.zero_le _, rfl, by simp [cntZ]⟩
  case round =>
    obtain ⟨k, hk, rfl, rfl⟩ := hrel
    by_cases hlt : k < zs.length
    · have hz := List.getElem?_eq_getElem (l := zs) (i := k) (by omega)
      have hcs := cntZ_snoc zs kind k _ hz
      have hle := cntZ_le (zs.take k) kind
      have hle2 : (zs.take k).length ≤ k := List.length_take_le _ _
      obtain ⟨g, off, rfl, hcell⟩ := hc k _ hz
      have hp : cntZ (zs.take k) kind ≤ 1000000000 := by omega
      generalize zs[k] = z at *
      by_cases hzb : z = kind
      · have tz : (z == kind) = true := by simp [hzb]
        rw [if_pos hzb] at hcs
        have HC := Lib.hid hcs
        clear hcs hz hc hle hle2 hzb
        generalize cntZ (zs.take k) kind = p at *
        go_wp2
        go_round
        case rel => exact ⟨k + 1, by omega, by go_num, by rw [HC.out]; go_num⟩
        case measure => simp [intOf]; omega
      · have tz : (z == kind) = false := by simp [hzb]
        rw [if_neg hzb] at hcs
        have HC := Lib.hid hcs
        clear hcs hz hc hle hle2 hzb
        generalize cntZ (zs.take k) kind = p at *
        go_wp2
        go_round
        case rel => exact ⟨k + 1, by omega, by go_num, by rw [HC.out]; go_num⟩
        case measure => simp [intOf]; omega
    · obtain rfl : zs.length = k := by omega
      have ht : zs.take zs.length = zs := List.take_of_length_le (Nat.le_refl _)
      rw [ht]
      clear hc ht
      go_wp2
      go_ret
      exact ⟨rfl, rfl⟩

/-- The letters of a sort as noughts and ones. -/
def ownZ (s : Nat) (ks : List Nat) : List Int := (ks.filter fun k => k / 2 == s).map fun k => 1 - (k % 2 : Nat)

theorem ownZ_01 (s : Nat) (ks : List Nat) : ∀ z ∈ ownZ s ks, z = 0 ∨ z = 1 := by
  intro z hz
  simp only [ownZ, List.mem_map] at hz
  obtain ⟨k, _, rfl⟩ := hz
  omega

theorem ownZ_bits (s : Nat) (ks : List Nat) : bitsOf (ownZ s ks) = ownB s ks := by
  unfold bitsOf ownZ ownB
  rw [List.map_map]
  apply List.map_congr_left
  intro k _
  simp only [Function.comp]
  rcases Nat.mod_two_eq_zero_or_one k with h | h <;> rw [h] <;> rfl

theorem ownZ_length (s : Nat) (ks : List Nat) : (ownZ s ks).length = (ownB s ks).length := by simp [ownZ, ownB]

theorem ownZ_step {s : Nat} {ks : List Nat} {i k : Nat} (h : ks[i]? = some k) (hs : k / 2 = s) : ownZ s (ks.take (i + 1)) = ownZ s (ks.take i) ++ [1 - ((k % 2 : Nat) : Int)] := by
  rw [take_get h]; simp [ownZ, hs]
theorem ownZ_not {s : Nat} {ks : List Nat} {i k : Nat} (h : ks[i]? = some k) (hs : ¬ k / 2 = s) : ownZ s (ks.take (i + 1)) = ownZ s (ks.take i) := by
  rw [take_get h]; simp [ownZ, hs]

/-- Where the letters of a sort stand, up to a place. -/
def PosAt (s : Nat) (ks : List Nat) (i : Nat) (ps : List Nat) : Prop := ps.length = pr s ks i ∧ ∀ j n, ps[j]? = some n → SelAt s ks j n

theorem PosAt.step {s : Nat} {ks : List Nat} {i k : Nat} {ps : List Nat} (hp : PosAt s ks i ps) (h : ks[i]? = some k) (hs : k / 2 = s) : PosAt s ks (i + 1) (ps ++ [i]) := by
  refine ⟨by rw [List.length_append, hp.1, pr_succ s h, if_pos hs]; rfl, fun j n hj => ?_⟩
  rw [List.getElem?_append] at hj
  split at hj
  · exact hp.2 j n hj
  · rename_i hlt
    have hj2 : j - ps.length = 0 := by
      rcases Nat.eq_zero_or_pos (j - ps.length) with h | h
      · exact h
      · rw [List.getElem?_eq_none (by simp; omega)] at hj; cases hj
    rw [hj2] at hj
    simp only [List.getElem?_cons_zero, Option.some.injEq] at hj
    subst hj
    have hjl : j = pr s ks i := by rw [← hp.1]; omega
    subst hjl
    exact SelAt.at h hs

theorem PosAt.skip {s : Nat} {ks : List Nat} {i k : Nat} {ps : List Nat} (hp : PosAt s ks i ps) (h : ks[i]? = some k) (hs : ¬ k / 2 = s) : PosAt s ks (i + 1) ps :=
  ⟨by rw [pr_succ s h, if_neg hs]; exact hp.1, hp.2⟩

/-- What Sort has gathered. -/
def SortS (w : World) (s : Nat) (ks : List Nat) (i : Nat) (ov av : Value) (wr : World) : Prop :=
  ∃ ps, OwnI w.heap.size wr ov (ownZ s (ks.take i)) ∧ OwnI w.heap.size wr av (nats ps) ∧ PosAt s ks i ps ∧ (∀ k, ov.ownBlock = some k → av.ownBlock ≠ some k) ∧ Keeps (fun _ => False) w wr

set_option maxRecDepth 100000 in
set_option maxHeartbeats 4000000 in
theorem refSort_any (sv : Value) (ks : List Nat) (s : Nat) (w : World) (hs : Sl .i64 w sv (nats ks)) (h4 : ∀ k ∈ ks, k < 4) (hl : ks.length ≤ 100000000) :
    Calls Try.prog 101 #[sv, .int .i64 s] w fun e w' => ∃ ov av, e = .returned (.tuple #[ov, av]) ∧ SortS w s ks ks.length ov av w' := by
  obtain ⟨a, cap, rfl, hnc, hcm, _, hc⟩ := hs
  rw [nats_len] at hnc ⊢
  go_enter Try.func101, Try.ntmps101
  go_wp2_with fail
  go_loopw [6, 7, 12] (fun ov av i wr => ∃ k : Nat, k ≤ ks.length ∧ i = .int .i64 k ∧ SortS w s ks k ov av wr) (fun _ _ i _ => ks.length - (intOf i).toNat)
  case atStart => exact ⟨0, Nat.zero_le _, rfl, [], OwnI.nil _ _, OwnI.nil _ _, ⟨by rw [pr_zero]; rfl, fun j n h => by simp at h⟩, fun k hk => by simp [Value.ownBlock] at hk, Keeps.refl _ _⟩
  case round =>
    obtain ⟨i, hi, rfl, ps, ho, ha, hp, hd, hkw⟩ := hrel
    have hsz := hkw.size
    obtain ⟨oa, oc, rfl, hoc1, hoc2⟩ := ho.form
    obtain ⟨aa, ac, rfl, hac1, hac2⟩ := ha.form
    obtain ⟨n, hn⟩ : ∃ n, n = (ownZ s (ks.take i)).length := ⟨_, rfl⟩
    obtain ⟨m, hm⟩ : ∃ m, m = (nats ps).length := ⟨_, rfl⟩
    have hnb : n ≤ 10000000000 := by rw [hn, ownZ_length]; have := ownB_le s (ks.take i); have : (ks.take i).length ≤ i := List.length_take_le _ _; omega
    have hmb : m ≤ 10000000000 := by
      rw [hm, nats_len, hp.1]
      have := pr_le s ks i hi
      have := ownB_le s ks
      omega
    rw [← hn] at ho hoc1 hd ⊢
    rw [← hm] at ha hac1 hd ⊢
    have HN := Lib.hid hn.symm
    have HM := Lib.hid hm.symm
    clear hn hm
    by_cases hlt : i < ks.length
    · have hk := List.getElem?_eq_getElem hlt
      have hk4 := h4 _ (List.mem_of_getElem? hk)
      obtain ⟨g, off, rfl, hcell⟩ := hc i _ (nats_get hk)
      have hcell1 := hkw.cellF hcell
      generalize ks[i] = k at *
      clear hc hcell
      by_cases hks : k / 2 = s
      · have tk : ((k : Int) / 2 == (s : Int)) = true := by rw [beq_iff_eq]; omega
        have t1 := ownZ_step hk hks
        have t2 := hp.step hk hks
        have HT := Lib.hid (And.intro t1 t2)
        have hk3 : k ≤ 3 := by omega
        clear t1 t2 hp hk hks
        go_wp2_with (first | (at_builtin; refine append1n n rfl _ _ rfl w.heap.size (.slice oa n oc) (ownZ s (ks.take i)) (1 - (k : Int) % 2) HN _ rfl rfl rfl ho hnb hsz ?_; intro g2 cap2 w3 hown3 hk3 hat hg) | (at_builtin; refine append1n m rfl _ _ rfl w.heap.size (.slice aa m ac) (nats ps) i HM _ rfl rfl rfl (ha.keeps hk3 (fun b hb h => hd b h hb)) hmb (Nat.le_trans hsz hk3.size) ?_; intro g4 cap4 w5 hown5 hk5 hat5 hg5))
        have hfin : SortS w s ks (i + 1) (.slice (some ⟨g2, 0, none⟩) (n + 1) cap2) (.slice (some ⟨g4, 0, none⟩) (m + 1) cap4) w5 := by
          have hgg : g2 ≠ g4 := by
            rcases hat with h | h <;> rcases hat5 with h5 | h5
            · intro e; subst e; exact hd _ h h5
            · have := (ho.lt g2 h).2; have := hk3.size; omega
            · have := (ha.lt g4 h5).2; omega
            · have := (hown3.lt g2 rfl).2; omega
          have hga : Value.ownBlock (.slice aa m ac) ≠ some g2 := by
            intro e
            rcases hat with h | h
            · exact hd _ h e
            · have := (ha.lt g2 e).2; omega
          refine ⟨ps ++ [i], ?_, ?_, HT.out.2, fun x hx hy => ?_, (hkw.trans hk3 (fun x hx h => by have := (ho.lt x h).1; omega)).trans hk5 (fun x hx h => by have := (ha.lt x h).1; omega)⟩
          · rw [HT.out.1]
            have e : (1 : Int) - ((k % 2 : Nat) : Int) = 1 - (k : Int) % 2 := by omega
            rw [e]
            exact hown3.keeps hk5 (fun b hb h => by simp only [Value.ownBlock, Option.some.injEq] at hb; subst hb; exact hga h)
          · have e : nats (ps ++ [i]) = nats ps ++ [(i : Int)] := by simp [nats]
            rw [e]; exact hown5
          · simp only [Value.ownBlock, Option.some.injEq] at hx hy
            omega
        have HF := Lib.hid hfin
        clear hfin hown3 hk3 hat hown5 hk5 hat5 ho ha hd hkw
        go_wp2
        go_roundw
        case rel => exact ⟨i + 1, by omega, by go_num, HF.out⟩
        case measure => simp [intOf]; omega
      · have tk : ((k : Int) / 2 == (s : Int)) = false := by rw [beq_eq_false_iff_ne]; omega
        have hfin : SortS w s ks (i + 1) (.slice oa n oc) (.slice aa m ac) wr := ⟨ps, by rw [ownZ_not hk hks]; exact ho, ha, hp.skip hk hks, hd, hkw⟩
        have HF := Lib.hid hfin
        have hk3 : k ≤ 3 := by omega
        clear hfin ho ha hd hp hk hks hkw
        go_wp2
        go_roundw
        case rel => exact ⟨i + 1, by omega, by go_num, HF.out⟩
        case measure => simp [intOf]; omega
    · obtain rfl : ks.length = i := by omega
      have hfin : SortS w s ks ks.length (.slice oa n oc) (.slice aa m ac) wr := ⟨ps, ho, ha, hp, hd, hkw⟩
      have HF := Lib.hid hfin
      clear hfin ho ha hd hp hc hkw
      go_wp2
      go_ret2
      exact ⟨_, _, rfl, HF.out⟩

end Go.Proofs.Ytlciacpffoekjaa
