/- look.first; look.around: the places of a vertex, as an iterator. -/
import Derived.OwnWalkIn
import Derived.TacticsInMore
import Derived.LoopNIn
import Derived.LoopIn
import Derived.Sort.LoopGhostIn
import Derived.Test.YtipelclohcdkcaaGreatLook
namespace Go.Proofs.YtipelclohcdkcaaGreat
open Go.RowKit
attribute [local go_sem] Oper.semAt_some

/-- A vertex's first place. -/
def FirstOf (ks : List Nat) (v : Nat) (f : Int) : Prop :=
  (ks.length = 0 ∧ f = -1) ∨ (0 < ks.length ∧ v = 0 ∧ f = 0) ∨ (0 < ks.length ∧ ∃ u o : Nat, v = u + 1 ∧ SelK ks 0 u o ∧ f = (o + 1 : Nat))

set_option maxRecDepth 100000 in
set_option maxHeartbeats 1000000 in
theorem lookFirst_in {wh wr : World} {bl b bo : Nat} {bi bp : Nat → Nat} {ks : List Nat} {q : Nat} {F : Nat → Prop} {n : Int} (hold : ∀ x, F x → x < wh.heap.size) (h : MixQ wh b bo bi bp ks q F wr) (hb : LkB wh bl b n) (hbF : ¬ F bl) (v : Nat) (f : Int) (hq : q ≤ 50000000) (hf : FirstOf ks v f) :
    Calls Tryz.prog 121 #[.pointer (some ⟨bl, 0, none⟩), .int .i64 v] wr fun e w' => e = .returned (.int .i64 f) ∧ MixQ wh b bo bi bp ks (q + 2 + 2 * ks.length) F w' := by
  have c0 := (hb.keeps h.2 hbF).c0
  have hL := mixLen_any h.1
  have hle := h.1.le
  rcases hf with ⟨h0, rfl⟩ | ⟨h0, rfl, rfl⟩ | ⟨h0, u, o, hv, hs, rfl⟩
  · have HF := Lib.hid (h.more (q' := q + 2 + 2 * ks.length) (by omega))
    clear h hb hold
    rw [h0] at hL
    go_enter Tryz.func121, Tryz.ntmps121
    go_wp2_with fail
    refine hL.mono ?_
    rintro e w1 ⟨rfl, rfl⟩
    clear hL
    go_wp2
    go_ret
    exact ⟨rfl, HF.out⟩
  · have HF := Lib.hid (h.more (q' := q + 2 + 2 * ks.length) (by omega))
    clear h hb hold
    generalize ks.length = N at *
    go_enter Tryz.func121, Tryz.ntmps121
    go_wp2_with fail
    refine hL.mono ?_
    rintro e w1 ⟨rfl, rfl⟩
    clear hL
    go_wp2
    go_ret
    exact ⟨rfl, HF.out⟩
  · have hS := mixSelect_in hold h 0 u o (by omega) hs
    have ho := lt_of_get hs.1
    have e1 : (v : Int) - 1 = (u : Int) := by omega
    have e2 : ¬ (v : Int) = 0 := by omega
    have e3 : v ≤ 100000001 := by
      have h1 := hs.2
      have h2 := cntK_le (ks.take o) 0
      have h3 := List.length_take_le o ks
      omega
    clear hv
    clear h hb hold
    generalize ks.length = N at *
    go_enter Tryz.func121, Tryz.ntmps121
    go_wp2_with fail
    refine hL.mono ?_
    rintro e w1 ⟨rfl, rfl⟩
    clear hL
    go_wp2_with fail
    refine hS.mono ?_
    rintro e w1 ⟨rfl, h1⟩
    have HF := Lib.hid h1
    clear hS h1 c0 e1 hs
    go_wp2
    go_ret
    exact ⟨rfl, HF.out⟩

/-- The ghost of the iterator's state: its steps, the index's count, its footprint. -/
abbrev LkG := Nat × Nat × (Nat → Prop)

def lkSt (b bo : Nat) (bi bp : Nat → Nat) (ks : List Nat) (s : LkG) (A : World) (s' : LkG) (B : World) : Prop :=
  s'.1 = s.1 + 1 ∧ s'.2.1 = s.2.1 + (if s.1 = 0 then 2 + 2 * ks.length else 4) ∧ MixQ A b bo bi bp ks s'.2.1 s.2.2 B ∧ s'.2.2 = grow s.2.2 A B

def lkRd (s s' : LkG) : Prop := s'.1 = s.1

structure LkAt (bl b bo : Nat) (bi bp : Nat → Nat) (ks : List Nat) (n : Int) (B1 B2 v Q0 cb : Nat) (xs : List Nat) (s : LkG) (W : World) : Prop where
  own : LkB W bl b n
  mix : MixP W b bo bi bp ks s.2.1 s.2.2
  sep : ¬ s.2.2 bl
  c1 : W.heap[B1]? = some (.cells #[.pointer (some ⟨bl, 0, none⟩)] 46 (0, 0))
  c2 : W.heap[B2]? = some (.cells #[.int .i64 v] 3 (0, 0))
  s1 : ¬ s.2.2 B1
  s2 : ¬ s.2.2 B2
  q : s.2.1 ≤ Q0 + (if s.1 = 0 then 0 else 2 + 2 * ks.length + 4 * (s.1 - 1)) + cb * xs.length

set_option maxRecDepth 100000 in
set_option maxHeartbeats 2000000 in
theorem around_seq (m : Nat) (bl b bo : Nat) (bi bp : Nat → Nat) (ks : List Nat) (n : Int) (B1 B2 v Q0 cb f0 : Nat) (F0 : Nat → Prop) (hw : Wd ks) (hf : FirstOf ks v (f0 : Nat)) (hf0 : f0 < ks.length) (hL : ks.length ≤ 1000) (hQ : Q0 + cb * 1000 ≤ 9000000) :
    SeqS Fence.wide m Tryz.prog 182 #[.pointer (some ⟨B1, 0, none⟩), .pointer (some ⟨B2, 0, none⟩)] (fun x : Nat => #[.int .i64 x]) (lkSt b bo bi bp ks) lkRd (LkAt bl b bo bi bp ks n B1 B2 v Q0 cb)
      (fun xs s => xs = orb (tn ks) f0 ∧ s.1 = per (tn ks) f0 + 1) (fun pre s => ∃ j, j < per (tn ks) f0 ∧ pre = (orb (tn ks) f0).take (j + 1) ∧ s.1 = j + 1) (per (tn ks) f0) (fun j x s => (orb (tn ks) f0)[j]? = some x ∧ s.1 = j + 1) (0, Q0, F0) := by
  intro l J Jx W hJ hAt hY h0
  refine callsIn_of_wp Tryz.func182 rfl trivial ?_ rfl
  simp only [Tryz.ntmps182, List.size_toArray, List.length_cons, List.length_nil, Nat.reduceAdd, Nat.reduceSub, Array.replicate_succ, Array.replicate_zero, List.push_toArray, List.append_toArray, List.nil_append, List.cons_append]
  have hA := hAt _ _ _ h0
  have d1 := World.cell_of_heap hA.c1 0
  have d2 := World.cell_of_heap hA.c2 0
  have hF := lookFirst_in hA.mix.old hA.mix.after hA.own hA.sep v f0 (by have := Nat.zero_le (cb * 1000); show Q0 ≤ 50000000; omega) hf
  have hP := hw.tn_isP
  have hps := hP.per_spec hf0
  have HP := Lib.hid (And.intro hP (And.intro hps hw))
  have hpL : per (tn ks) f0 ≤ 1000 := by have := hps.2.1; omega
  have hp0 := hps.1
  have HS := Lib.hid (And.intro hJ (And.intro hAt hY))
  have H0 := Lib.hid h0
  clear hJ hAt hY h0 hA hP hps hw hf
  gi_wp2
  refine ⟨trivial, fun h => by (cases h), callsIn_wide.2 (hF.mono ?_)⟩
  rintro e W1 ⟨rfl, h1⟩
  have hJ1 := HS.out.1 [] (0, Q0, F0) W (1, Q0 + (2 + 2 * ks.length), grow F0 W W1) W1 H0.out ⟨rfl, rfl, by rw [← Nat.add_assoc]; exact h1, rfl⟩
  clear d1 d2 hF h1
  gi_wp2
  gi_loopg [5] (per (tn ks) f0) (fun mu t wr => ∃ j : Nat, j < per (tn ks) f0 ∧ mu = per (tn ks) f0 - j ∧ t = .int .i64 (itr (tn ks) j f0 : Nat) ∧ ∃ q F, J ((orb (tn ks) f0).take j) (j + 1, q, F) wr)
  case atStart => exact ⟨0, hp0, rfl, rfl, _, _, hJ1⟩
  case round =>
    obtain ⟨j, hj, hgk, rfl, q, F, hJs⟩ := hrel
    clear hJ1
    have hlt := HP.out.1.itr_lt hf0 j
    obtain ⟨x, hx⟩ : ∃ x, x = itr (tn ks) j f0 := ⟨_, rfl⟩
    rw [← hx] at hlt ⊢
    have hlen : ((orb (tn ks) f0).take j).length = j := by rw [List.length_take, orb_length]; omega
    obtain ⟨fn, tmps, assign, body, hy, hR⟩ := HS.out.2.2 _ x _ _ hJs (by rw [hlen]; exact hj) (by rw [hlen, hx]; exact ⟨orb_get hj, rfl⟩)
    have HX := Lib.hid hx
    have HG := Lib.hid hgk
    clear hx hgk hJs
    gi_wp2
    refine ⟨fun h => by (cases h), hR.mono ?_⟩
    rintro e W' (⟨rfl, ⟨k', q', F'⟩, hrd, hJ'⟩ | ⟨rfl, s', hrd, hJx⟩)
    · obtain rfl : k' = j + 1 := hrd
      have htk : (orb (tn ks) f0).take j ++ [x] = (orb (tn ks) f0).take (j + 1) := by rw [HX.out, take_get (orb_get hj)]
      rw [htk] at hJ'
      have hA := HS.out.2.1 _ _ _ hJ'
      have hlen1 : ((orb (tn ks) f0).take (j + 1)).length = j + 1 := by rw [List.length_take, orb_length]; omega
      have hq : q' ≤ 100000000 := by
        have h1 := hA.q
        rw [hlen1] at h1
        have h2 : cb * (j + 1) ≤ cb * 1000 := Nat.mul_le_mul_left _ (by omega)
        simp at h1
        omega
      have d1 := World.cell_of_heap hA.c1 0
      have hN := lookNext_in hA.mix.old hA.mix.after hA.own hA.sep HP.out.2.2 x hq hlt
      have hsx : tn ks x = itr (tn ks) (j + 1) f0 := by rw [HX.out]; rfl
      have HJ := Lib.hid (And.intro hJ' hsx)
      clear hA hJ' htk hlen1 hsx hR hy
      obtain ⟨y, hy⟩ : ∃ y, y = tn ks x := ⟨_, rfl⟩
      rw [← hy] at hN
      have HY := Lib.hid hy
      clear hy
      gi_wp2
      refine ⟨trivial, fun h => by (cases h), callsIn_wide.2 (hN.mono ?_)⟩
      rintro e W2 ⟨rfl, h2⟩
      have hJ2 := HS.out.1 _ _ W' (j + 1 + 1, q' + 4, grow F' W' W2) W2 HJ.out.1 ⟨rfl, by simp, h2, rfl⟩
      clear hN h2 d1
      have HJ2 := Lib.hid hJ2
      clear hJ2
      by_cases he : j + 1 = per (tn ks) f0
      · have hyf : y = f0 := by rw [HY.out, HJ.out.2, he]; exact HP.out.2.1.2.2.1
        have hdy : ((y : Int) == (f0 : Int)) = true := by simp [hyf]
        have hJf := HJ2.out
        rw [List.take_of_length_le (by rw [orb_length]; omega)] at hJf
        have HF := Lib.hid hJf
        clear hJf hyf
        gi_wp2
        refine bodyPost_ret (results_none rfl _ _ _) rfl ?_
        exact ⟨⟨_, rfl⟩, .inl ⟨_, _, ⟨rfl, by rw [← he]⟩, HF.out⟩⟩
      · have hyf : ¬ y = f0 := by rw [HY.out, HJ.out.2]; exact HP.out.2.1.2.2.2 (j + 1) (by omega) (by omega)
        have hdy : ((y : Int) == (f0 : Int)) = false := by simp; omega
        gi_wp2
        gi_roundg (per (tn ks) f0 - (j + 1))
        case measure => rw [HG.out]; omega
        case rel => exact ⟨j + 1, by omega, rfl, by rw [HY.out, HJ.out.2], _, _, HJ2.out⟩
    · have HF := Lib.hid hJx
      clear hJx hR hy
      gi_wp2
      go_end0
      refine ⟨⟨_, rfl⟩, .inr ⟨_, s', ⟨j, hj, ?_, hrd⟩, HF.out⟩⟩
      rw [HX.out, take_get (orb_get hj)]

end Go.Proofs.YtipelclohcdkcaaGreat
