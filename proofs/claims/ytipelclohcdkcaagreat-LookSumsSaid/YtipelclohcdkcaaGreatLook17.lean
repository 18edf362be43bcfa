/- look: back; Next, Back, Along, Vertex of a place. -/
import Derived.Test.YtipelclohcdkcaaGreatLaw13c
namespace Go.Proofs.YtipelclohcdkcaaGreat
open Go.RowKit

/-- Back around. -/
noncomputable def bk (ks : List Nat) (i : Nat) : Nat := if ks.getD ((i + ks.length - 1) % ks.length) 0 < 2 then mp ks ((i + ks.length - 1) % ks.length) else (i + ks.length - 1) % ks.length

theorem Wd.mp_tree {ks : List Nat} (h : Wd ks) {i : Nat} (hi : i < ks.length) : ks.getD (mp ks i) 0 < 2 ↔ ks.getD i 0 < 2 := by
  obtain ⟨t, ht, ⟨h1, h2⟩ | ⟨h1, h2⟩⟩ := h.cases (i := i) hi
  · have h3 := h2.closes
    rw [List.getD_eq_getElem?_getD, h3, List.getD_eq_getElem?_getD, h1, Option.getD_some, Option.getD_some]; omega
  · have h3 := h2.opens
    rw [List.getD_eq_getElem?_getD, h3, List.getD_eq_getElem?_getD, h1, Option.getD_some, Option.getD_some]; omega

theorem Wd.tn_bk {ks : List Nat} (h : Wd ks) {i : Nat} (hi : i < ks.length) : tn ks (bk ks i) = i ∧ bk ks i < ks.length := by
  obtain ⟨p, hp⟩ : ∃ p, p = (i + ks.length - 1) % ks.length := ⟨_, rfl⟩
  have hpn : p < ks.length := by rw [hp]; exact Nat.mod_lt _ (by omega)
  have hpi : (p + 1) % ks.length = i := by
    rcases Nat.eq_zero_or_pos i with h0 | h0
    · subst h0
      rw [hp, Nat.zero_add, Nat.mod_eq_of_lt (show ks.length - 1 < ks.length by omega), Nat.sub_add_cancel (by omega), Nat.mod_self]
    · have : p = i - 1 := by rw [hp, show i + ks.length - 1 = (i - 1) + ks.length by omega, Nat.add_mod_right, Nat.mod_eq_of_lt (by omega)]
      rw [this, Nat.sub_add_cancel h0, Nat.mod_eq_of_lt hi]
  unfold bk
  rw [← hp]
  by_cases h2 : ks.getD p 0 < 2
  · rw [if_pos h2]
    refine ⟨?_, h.mp_lt hpn⟩
    unfold tn
    rw [if_pos ((h.mp_tree hpn).2 h2), h.mp_mp hpn, hpi]
  · rw [if_neg h2]
    refine ⟨?_, hpn⟩
    unfold tn
    rw [if_neg h2, hpi]

set_option maxRecDepth 100000 in
set_option maxHeartbeats 1000000 in
theorem lookBack_in {wh wr : World} {bl b bo : Nat} {bi bp : Nat → Nat} {ks : List Nat} {q : Nat} {F : Nat → Prop} {n : Int} (hold : ∀ x, F x → x < wh.heap.size) (h : MixQ wh b bo bi bp ks q F wr) (hb : LkB wh bl b n) (hbF : ¬ F bl) (hw : Wd ks) (i : Nat) (hq : q ≤ 50000000) (hi : i < ks.length) :
    Calls Tryz.prog 129 #[.pointer (some ⟨bl, 0, none⟩), .int .i64 i] wr fun e w' => e = .returned (.int .i64 (bk ks i : Nat)) ∧ MixQ wh b bo bi bp ks (q + 4) F w' := by
  have hle := h.1.le
  obtain ⟨p, hp⟩ : ∃ p, p = (i + ks.length - 1) % ks.length := ⟨_, rfl⟩
  have hpn : p < ks.length := by rw [hp]; exact Nat.mod_lt _ (by omega)
  obtain ⟨k, hk⟩ : ∃ k, ks[p]? = some k := ⟨_, List.getElem?_eq_getElem hpn⟩
  have hT := fun m => lookTree_any (h.drewN m) hb hbF p k hk
  have hM := fun w1 (h1 : MixQ wh b bo bi bp ks q F w1) => lookMate_in hold h1 hb hbF hw p (by omega) hpn
  have c0 := (hb.keeps h.2 hbF).c0
  have hL := fun m => mixLen_any (h.drewN m).1
  have hgd : ks.getD p 0 = k := by rw [List.getD_eq_getElem?_getD, hk]; rfl
  have hbk : bk ks i = if k < 2 then mp ks p else p := by unfold bk; rw [← hp, hgd]
  have HB := Lib.hid (And.intro hbk hp)
  have HM := Lib.hid hM
  have HT := Lib.hid hT
  have e1 : ((i : Int) + (ks.length : Int) - 1).tmod (ks.length : Int) = (p : Int) := by
    have : ((i : Int) + (ks.length : Int) - 1) = ((i + ks.length - 1 : Nat) : Int) := by omega
    rw [hp, Int.tmod_eq_emod_of_nonneg (by omega), this]; simp
  clear h hb hold hw hgd hbk hp hM hT hk
  have hn0 : ¬ ks.length = 0 := by omega
  have hN3 : ks.length ≤ 9000000000 := by omega
  generalize bk ks i = T at *
  generalize mp ks p = m at *
  generalize hn : ks.length = N at *
  have hn0' : ¬ (N : Int) = 0 := by omega
  go_enter Tryz.func129, Tryz.ntmps129
  go_wp2_with fail
  go_quiet ((go_at_call 24; with_reducible exact quiet_eq (hL _)))
  have hT := HT.out nq
  clear hL c0 hle
  go_wp2_with fail
  refine hT.mono ?_
  rintro e w1 ⟨rfl, h1⟩
  clear hT
  by_cases hk2 : k < 2
  · have hd : decide (k < 2) = true := decide_eq_true hk2
    have hM1 := HM.out w1 h1
    clear h1
    go_wp2_with fail
    refine hM1.mono ?_
    rintro e w2 ⟨rfl, h2⟩
    have HF := Lib.hid h2
    clear hM1 h2
    go_wp2
    go_ret
    refine ⟨?_, HF.out⟩
    rw [HB.out.1, if_pos hk2]
    rfl
  · have hd : decide (k < 2) = false := decide_eq_false hk2
    have HF := Lib.hid (h1.more (q' := q + 4) (by omega))
    clear h1
    go_wp2
    go_ret
    refine ⟨?_, HF.out⟩
    rw [HB.out.1, if_neg hk2]
    rfl

end Go.Proofs.YtipelclohcdkcaaGreat
