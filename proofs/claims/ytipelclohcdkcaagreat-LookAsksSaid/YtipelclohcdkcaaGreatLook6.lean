/- look.Degree: what there isn't; nothing. -/
import Derived.Test.YtipelclohcdkcaaGreatLook5
namespace Go.Proofs.YtipelclohcdkcaaGreat
open Go.RowKit
attribute [local go_sem] Oper.semAt_some

set_option maxRecDepth 100000 in
set_option maxHeartbeats 4000000 in
theorem lookDegree_out {w : World} {bl b bo : Nat} {bi bp : Nat → Nat} {ks : List Nat} {q : Nat} {F : Nat → Prop} {n : Nat} (h : LookS w bl b bo bi bp ks q F n) (hn : n ≤ 1000000) (hq : q ≤ 5000000) (v : Int) (hv : ¬ (0 ≤ v ∧ v < nvK ks)) :
    Calls Tryz.prog 39 #[.pointer (some ⟨bl, 0, none⟩), .int .i64 v] w fun e w' => e = .returned (.tuple #[.int .i64 0, .int .i64 1]) ∧ LookQ w bl b bo bi bp ks (q + 2) F (n + 1) w' := by
  have k1 := (Keeps.refl (fun _ => False) w).alloc (.cells #[.int .i64 v] 3)
  have hN := lookNumber_any (h.keeps k1 (fun _ _ h => h)) hn (by omega) (.slice (some ⟨w.heap.size, 0, none⟩) 1 1) [v] (sl_lit1 w v) (fun k e => by simp only [Value.ownBlock, Option.some.injEq] at e; subst e; rintro (hx | hx); exact absurd (h.mix.old _ hx) (by omega); have := h.lt; omega) (by simp)
  have HT : Hid (∀ w2, LookQ (w.alloc (.cells #[.int .i64 v] 3)) bl b bo bi bp ks (q + 2 * [v].length) F (n + 1) w2 → LookQ w bl b bo bi bp ks (q + 2) F (n + 1) w2) := Lib.hid (fun w2 hQ => by
    have hb := h.lt
    have hs1 : (w.alloc (.cells #[.int .i64 v] 3)).heap.size = w.heap.size + 1 := by simp
    have hs2 := hQ.2.size
    refine ⟨⟨hQ.1.own, hQ.1.mix.mono (fun x hx => ?_) (grow_old h.mix.old (by omega)), fun hx => ?_⟩, (k1.mono (fun _ _ h => h.elim)).trans hQ.2 (fun x hx hg => hg)⟩
    · rcases hx with hx | hx
      · exact .inl hx
      · exact .inr ⟨by omega, hx.2⟩
    · rcases hx with hx | hx
      · exact h.sep hx
      · omega)
  clear h k1
  go_enter Tryz.func39, Tryz.ntmps39
  go_wp2_with fail
  refine hN.mono ?_
  rintro e w2 ⟨⟨c, rfl, hc⟩, hQ⟩
  rcases hc with ⟨hok, rfl⟩ | ⟨hno, rfl⟩
  · exact absurd (hok v (by simp)) hv
  · have HF := Lib.hid (HT.out w2 hQ)
    clear hN hQ hno
    go_wp2
    go_ret2
    exact ⟨rfl, HF.out⟩

set_option maxRecDepth 100000 in
set_option maxHeartbeats 2000000 in
/-- Of no letters no place comes. -/
theorem around_nil (m : Nat) (bl b bo : Nat) (bi bp : Nat → Nat) (ks : List Nat) (n : Int) (B1 B2 v Q0 cb : Nat) (F0 : Nat → Prop) (h0 : ks.length = 0) (hQ : Q0 ≤ 9000000) :
    SeqS Fence.wide m Tryz.prog 182 #[.pointer (some ⟨B1, 0, none⟩), .pointer (some ⟨B2, 0, none⟩)] (fun x : Nat => #[.int .i64 x]) (lkSt b bo bi bp ks) lkRd (LkAt bl b bo bi bp ks n B1 B2 v Q0 cb)
      (fun xs s => xs = [] ∧ s.1 = 0 + 1) (fun _ _ => False) 0 (fun _ _ _ => False) (0, Q0, F0) := by
  intro l J Jx W hJ hAt hY h0'
  refine callsIn_of_wp Tryz.func182 rfl trivial ?_ rfl
  simp only [Tryz.ntmps182, List.size_toArray, List.length_cons, List.length_nil, Nat.reduceAdd, Nat.reduceSub, Array.replicate_succ, Array.replicate_zero, List.push_toArray, List.append_toArray, List.nil_append, List.cons_append]
  have hA := hAt _ _ _ h0'
  have d1 := World.cell_of_heap hA.c1 0
  have d2 := World.cell_of_heap hA.c2 0
  have hF := lookFirst_in hA.mix.old hA.mix.after hA.own hA.sep v (-1) (by show Q0 ≤ 50000000; omega) (.inl ⟨h0, rfl⟩)
  have HS := Lib.hid hJ
  have H0 := Lib.hid h0'
  clear hJ hAt hY h0' hA
  gi_wp2
  refine ⟨trivial, fun h => by (cases h), callsIn_wide.2 (hF.mono ?_)⟩
  rintro e W1 ⟨rfl, h1⟩
  have hJ1 := HS.out [] (0, Q0, F0) W (1, Q0 + (2 + 2 * ks.length), grow F0 W W1) W1 H0.out ⟨rfl, rfl, by rw [← Nat.add_assoc]; exact h1, rfl⟩
  have HF := Lib.hid hJ1
  clear d1 d2 hF h1 hJ1
  gi_wp2
  refine bodyPost_ret (results_none rfl _ _ _) rfl ?_
  exact ⟨⟨_, rfl⟩, .inl ⟨_, _, ⟨rfl, rfl⟩, HF.out⟩⟩

theorem lookDegree_nil {w : World} {bl b bo : Nat} {bi bp : Nat → Nat} {ks : List Nat} {q : Nat} {F : Nat → Prop} {n : Nat} (h : LookS w bl b bo bi bp ks q F n) (hn : n ≤ 1000000) (hq : q ≤ 5000000) (h0 : ks.length = 0) :
    Calls Tryz.prog 39 #[.pointer (some ⟨bl, 0, none⟩), .int .i64 (0 : Nat)] w fun e w' => e = .returned (.tuple #[.int .i64 (0 : Nat), .int .i64 0]) ∧ LookQ w bl b bo bi bp ks (q + 10 * ks.length + 10) F (n + 1) w' :=
  lookDegree_gen h hn hq 0 (by unfold nvK; omega) [] (fun _ _ => False) 0 (fun _ _ _ => False) (by omega) (Nat.zero_le _)
    (fun B1 B2 Q0 F0 hQ => around_nil 2 bl b bo bi bp ks (n + 1 : Nat) B1 B2 0 Q0 0 F0 h0 hQ)

end Go.Proofs.YtipelclohcdkcaaGreat
