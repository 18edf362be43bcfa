/- look: Mate (a place's, by a function value). -/
import Derived.OwnWalkIn
import Derived.TacticsInMore
import Derived.LoopNIn
import Derived.LoopIn
import Derived.Sort.LoopGhostIn
import Derived.Test.YtipelclohcdkcaaGreatPsLook
import Derived.Test.YtipelclohcdkcaaGreatPsRight
import Derived.Test.YtipelclohcdkcaaGreatPsOf
import Derived.Test.YtipelclohcdkcaaGreatPsConn
/- look.first; look.around: the places of a vertex, as an iterator. -/
namespace Go.Proofs.YtipelclohcdkcaaGreat
open Go.RowKit
attribute [local go_sem] Oper.semAt_some

/-- A vertex's first place. -/
def FirstOf (ks : List Nat) (v : Nat) (f : Int) : Prop :=
  (ks.length = 0 ∧ f = -1) ∨ (0 < ks.length ∧ v = 0 ∧ f = 0) ∨ (0 < ks.length ∧ ∃ u o : Nat, v = u + 1 ∧ SelK ks 0 u o ∧ f = (o + 1 : Nat))

set_option maxRecDepth 100000 in
set_option maxHeartbeats 1000000 in
theorem lookFirst_in {wh wr : World} {bl b bo : Nat} {bi bp : Nat → Nat} {ks : List Nat} {q : Nat} {F : Nat → Prop} {n : Int} (hold : ∀ x, F x → x < wh.heap.size) (h : MixQ wh b bo bi bp ks q F wr) (hb : LkB wh bl b n) (hbF : ¬ F bl) (v : Nat) (f : Int) (hq : q ≤ 50000000) (hf : FirstOf ks v f) :
    Calls Tryz.prog 121 #[.pointer (some ⟨bl, 0, none⟩), .int .i64 v] wr fun e w' => e = .returned (.int .i64 f) ∧ MixQ wh b bo bi bp ks (q + 2 + 2 * ks.length) F w' := by
  have c0 := (hb.keeps h.2 hbF).c0
  have hL := mixLen_any h.1
  have hle := h.1.le
  rcases hf with ⟨h0, rfl⟩ | ⟨h0, rfl, rfl⟩ | ⟨h0, u, o, hv, hs, rfl⟩
  · have HF := Lib.hid (h.more (q' := q + 2 + 2 * ks.length) (by omega))
    clear h hb hold
    rw [h0] at hL
    go_enter Tryz.func121, Tryz.ntmps121
    go_wp2_with fail
    refine hL.mono ?_
    rintro e w1 ⟨rfl, rfl⟩
    clear hL
    go_wp2
    go_ret
    exact ⟨rfl, HF.out⟩
  · have HF := Lib.hid (h.more (q' := q + 2 + 2 * ks.length) (by omega))
    clear h hb hold
    generalize ks.length = N at *
    go_enter Tryz.func121, Tryz.ntmps121
    go_wp2_with fail
    refine hL.mono ?_
    rintro e w1 ⟨rfl, rfl⟩
    clear hL
    go_wp2
    go_ret
    exact ⟨rfl, HF.out⟩
  · have hS := mixSelect_in hold h 0 u o (by omega) hs
    have ho := lt_of_get hs.1
    have e1 : (v : Int) - 1 = (u : Int) := by omega
    have e2 : ¬ (v : Int) = 0 := by omega
    have e3 : v ≤ 100000001 := by
      have h1 := hs.2
      have h2 := cntK_le (ks.take o) 0
      have h3 := List.length_take_le o ks
      omega
    clear hv
    clear h hb hold
    generalize ks.length = N at *
    go_enter Tryz.func121, Tryz.ntmps121
    go_wp2_with fail
    refine hL.mono ?_
    rintro e w1 ⟨rfl, rfl⟩
    clear hL
    go_wp2_with fail
    refine hS.mono ?_
    rintro e w1 ⟨rfl, h1⟩
    have HF := Lib.hid h1
    clear hS h1 c0 e1 hs
    go_wp2
    go_ret
    exact ⟨rfl, HF.out⟩

/-- The ghost of the iterator's state: its steps, the index's count, its footprint. -/
abbrev LkG := Nat × Nat × (Nat → Prop)

def lkSt (b bo : Nat) (bi bp : Nat → Nat) (ks : List Nat) (s : LkG) (A : World) (s' : LkG) (B : World) : Prop :=
  s'.1 = s.1 + 1 ∧ s'.2.1 = s.2.1 + (if s.1 = 0 then 2 + 2 * ks.length else 4) ∧ MixQ A b bo bi bp ks s'.2.1 s.2.2 B ∧ s'.2.2 = grow s.2.2 A B

def lkRd (s s' : LkG) : Prop := s'.1 = s.1

structure LkAt (bl b bo : Nat) (bi bp : Nat → Nat) (ks : List Nat) (n : Int) (B1 B2 v Q0 cb : Nat) (xs : List Nat) (s : LkG) (W : World) : Prop where
  own : LkB W bl b n
  mix : MixP W b bo bi bp ks s.2.1 s.2.2
  sep : ¬ s.2.2 bl
  c1 : W.heap[B1]? = some (.cells #[.pointer (some ⟨bl, 0, none⟩)] 46 (0, 0))
  c2 : W.heap[B2]? = some (.cells #[.int .i64 v] 3 (0, 0))
  s1 : ¬ s.2.2 B1
  s2 : ¬ s.2.2 B2
  q : s.2.1 ≤ Q0 + (if s.1 = 0 then 0 else 2 + 2 * ks.length + 4 * (s.1 - 1)) + cb * xs.length

set_option maxRecDepth 100000 in
set_option maxHeartbeats 2000000 in
theorem around_seq (m : Nat) (bl b bo : Nat) (bi bp : Nat → Nat) (ks : List Nat) (n : Int) (B1 B2 v Q0 cb f0 : Nat) (F0 : Nat → Prop) (hw : Wd ks) (hf : FirstOf ks v (f0 : Nat)) (hf0 : f0 < ks.length) (hL : ks.length ≤ 1000) (hQ : Q0 + cb * 1000 ≤ 9000000) :
    SeqS Fence.wide m Tryz.prog 182 #[.pointer (some ⟨B1, 0, none⟩), .pointer (some ⟨B2, 0, none⟩)] (fun x : Nat => #[.int .i64 x]) (lkSt b bo bi bp ks) lkRd (LkAt bl b bo bi bp ks n B1 B2 v Q0 cb)
      (fun xs s => xs = orb (tn ks) f0 ∧ s.1 = per (tn ks) f0 + 1) (fun pre s => ∃ j, j < per (tn ks) f0 ∧ pre = (orb (tn ks) f0).take (j + 1) ∧ s.1 = j + 1) (per (tn ks) f0) (fun j x s => (orb (tn ks) f0)[j]? = some x ∧ s.1 = j + 1) (0, Q0, F0) := by
  intro l J Jx W hJ hAt hY h0
  refine callsIn_of_wp Tryz.func182 rfl trivial ?_ rfl
  simp only [Tryz.ntmps182, List.size_toArray, List.length_cons, List.length_nil, Nat.reduceAdd, Nat.reduceSub, Array.replicate_succ, Array.replicate_zero, List.push_toArray, List.append_toArray, List.nil_append, List.cons_append]
  have hA := hAt _ _ _ h0
  have d1 := World.cell_of_heap hA.c1 0
  have d2 := World.cell_of_heap hA.c2 0
  have hF := lookFirst_in hA.mix.old hA.mix.after hA.own hA.sep v f0 (by have := Nat.zero_le (cb * 1000); show Q0 ≤ 50000000; omega) hf
  have hP := hw.tn_isP
  have hps := hP.per_spec hf0
  have HP := Lib.hid (And.intro hP (And.intro hps hw))
  have hpL : per (tn ks) f0 ≤ 1000 := by have := hps.2.1; omega
  have hp0 := hps.1
  have HS := Lib.hid (And.intro hJ (And.intro hAt hY))
  have H0 := Lib.hid h0
  clear hJ hAt hY h0 hA hP hps hw hf
  gi_wp2
  refine ⟨trivial, fun h => by (cases h), callsIn_wide.2 (hF.mono ?_)⟩
  rintro e W1 ⟨rfl, h1⟩
  have hJ1 := HS.out.1 [] (0, Q0, F0) W (1, Q0 + (2 + 2 * ks.length), grow F0 W W1) W1 H0.out ⟨rfl, rfl, by rw [← Nat.add_assoc]; exact h1, rfl⟩
  clear d1 d2 hF h1
  gi_wp2
  gi_loopg [5] (per (tn ks) f0) (fun mu t wr => ∃ j : Nat, j < per (tn ks) f0 ∧ mu = per (tn ks) f0 - j ∧ t = .int .i64 (itr (tn ks) j f0 : Nat) ∧ ∃ q F, J ((orb (tn ks) f0).take j) (j + 1, q, F) wr)
  case atStart => exact ⟨0, hp0, rfl, rfl, _, _, hJ1⟩
  case round =>
    obtain ⟨j, hj, hgk, rfl, q, F, hJs⟩ := hrel
    clear hJ1
    have hlt := HP.out.1.itr_lt hf0 j
    obtain ⟨x, hx⟩ : ∃ x, x = itr (tn ks) j f0 := ⟨_, rfl⟩
    rw [← hx] at hlt ⊢
    have hlen : ((orb (tn ks) f0).take j).length = j := by rw [List.length_take, orb_length]; omega
    obtain ⟨fn, tmps, assign, body, hy, hR⟩ := HS.out.2.2 _ x _ _ hJs (by rw [hlen]; exact hj) (by rw [hlen, hx]; exact ⟨orb_get hj, rfl⟩)
    have HX := Lib.hid hx
    have HG := Lib.hid hgk
    clear hx hgk hJs
    gi_wp2
    refine ⟨fun h => by (cases h), hR.mono ?_⟩
    rintro e W' (⟨rfl, ⟨k', q', F'⟩, hrd, hJ'⟩ | ⟨rfl, s', hrd, hJx⟩)
    · obtain rfl : k' = j + 1 := hrd
      have htk : (orb (tn ks) f0).take j ++ [x] = (orb (tn ks) f0).take (j + 1) := by rw [HX.out, take_get (orb_get hj)]
      rw [htk] at hJ'
      have hA := HS.out.2.1 _ _ _ hJ'
      have hlen1 : ((orb (tn ks) f0).take (j + 1)).length = j + 1 := by rw [List.length_take, orb_length]; omega
      have hq : q' ≤ 100000000 := by
        have h1 := hA.q
        rw [hlen1] at h1
        have h2 : cb * (j + 1) ≤ cb * 1000 := Nat.mul_le_mul_left _ (by omega)
        simp at h1
        omega
      have d1 := World.cell_of_heap hA.c1 0
      have hN := lookNext_in hA.mix.old hA.mix.after hA.own hA.sep HP.out.2.2 x hq hlt
      have hsx : tn ks x = itr (tn ks) (j + 1) f0 := by rw [HX.out]; rfl
      have HJ := Lib.hid (And.intro hJ' hsx)
      clear hA hJ' htk hlen1 hsx hR hy
      obtain ⟨y, hy⟩ : ∃ y, y = tn ks x := ⟨_, rfl⟩
      rw [← hy] at hN
      have HY := Lib.hid hy
      clear hy
      gi_wp2
      refine ⟨trivial, fun h => by (cases h), callsIn_wide.2 (hN.mono ?_)⟩
      rintro e W2 ⟨rfl, h2⟩
      have hJ2 := HS.out.1 _ _ W' (j + 1 + 1, q' + 4, grow F' W' W2) W2 HJ.out.1 ⟨rfl, by simp, h2, rfl⟩
      clear hN h2 d1
      have HJ2 := Lib.hid hJ2
      clear hJ2
      by_cases he : j + 1 = per (tn ks) f0
      · have hyf : y = f0 := by rw [HY.out, HJ.out.2, he]; exact HP.out.2.1.2.2.1
        have hdy : ((y : Int) == (f0 : Int)) = true := by simp [hyf]
        have hJf := HJ2.out
        rw [List.take_of_length_le (by rw [orb_length]; omega)] at hJf
        have HF := Lib.hid hJf
        clear hJf hyf
        gi_wp2
        refine bodyPost_ret (results_none rfl _ _ _) rfl ?_
        exact ⟨⟨_, rfl⟩, .inl ⟨_, _, ⟨rfl, by rw [← he]⟩, HF.out⟩⟩
      · have hyf : ¬ y = f0 := by rw [HY.out, HJ.out.2]; exact HP.out.2.1.2.2.2 (j + 1) (by omega) (by omega)
        have hdy : ((y : Int) == (f0 : Int)) = false := by simp; omega
        gi_wp2
        gi_roundg (per (tn ks) f0 - (j + 1))
        case measure => rw [HG.out]; omega
        case rel => exact ⟨j + 1, by omega, rfl, by rw [HY.out, HJ.out.2], _, _, HJ2.out⟩
    · have HF := Lib.hid hJx
      clear hJx hR hy
      gi_wp2
      go_end0
      refine ⟨⟨_, rfl⟩, .inr ⟨_, s', ⟨j, hj, ?_, hrd⟩, HF.out⟩⟩
      rw [HX.out, take_get (orb_get hj)]

end Go.Proofs.YtipelclohcdkcaaGreat

/- look: place, number, Vertices, vertex. -/
namespace Go.Proofs.YtipelclohcdkcaaGreat
open Go.RowKit

/-- A question is counted. -/
theorem lookCount_any (bl b : Nat) (n : Nat) (w : World) (hb : LkB w bl b n) (hn : n ≤ 1000000) :
    Calls Tryz.prog 162 #[.pointer (some ⟨bl, 1, none⟩), .int .i64 1] w fun e w' => e = .returned (.int .i64 (n + 1 : Nat)) ∧ LkB w' bl b (n + 1 : Nat) ∧ Keeps (fun x => x = bl) w w' := by
  have hc := hb.c1
  have hz := World.free_of_heap hb 1
  have hs : (Op.intArith .add .i64 (n : Int) 1).run Tryz.prog w = .ok (.int .i64 ((n + 1 : Nat) : Int)) w := by
    have h1 : IntKind.i64.wrap ((n : Int) + 1) = ((n + 1 : Nat) : Int) := by rw [IntKind.wrap_i64]; omega
    rw [← h1]
    rfl
  have hadd := run_call_add (P := Tryz.prog) Tryz.func195 (by kernel_rfl) (by kernel_rfl) (by kernel_rfl) .i64 (by kernel_rfl) (y := 1) (s := (n + 1 : Nat)) hc hz hs
  have hset : LkB (w.setCell ⟨bl, 1, none⟩ (.int .i64 (n + 1 : Nat))) bl b (n + 1 : Nat) := heap_setCell_same hb 1 _
  have hk := (Keeps.refl (fun x => x = bl) w).setCell (p := ⟨bl, 1, none⟩) (.inl rfl) (.int .i64 (n + 1 : Nat))
  have HF := Lib.hid (And.intro hset hk)
  clear hset hk hb
  generalize (n + 1 : Nat) = n1 at *
  go_enter Tryz.func162, Tryz.ntmps162
  go_wp2
  go_ret
  exact ⟨rfl, HF.out⟩

section
variable {wh wr : World} {bl b bo : Nat} {bi bp : Nat → Nat} {ks : List Nat} {q : Nat} {F : Nat → Prop} {n : Int} (hold : ∀ x, F x → x < wh.heap.size) (h : MixQ wh b bo bi bp ks q F wr) (hb : LkB wh bl b n) (hbF : ¬ F bl)
include hold h hb hbF

/-- How many vertices. -/
def nvK (ks : List Nat) : Nat := cntK ks 0 + 1

set_option maxRecDepth 100000 in
set_option maxHeartbeats 1000000 in
theorem lookVertices_any (hq : q ≤ 50000000) :
    Calls Tryz.prog 41 #[.pointer (some ⟨bl, 0, none⟩)] wr fun e w' => e = .returned (.int .i64 (nvK ks : Nat)) ∧ MixQ wh b bo bi bp ks (q + 2) F w' := by
  have hle := h.1.le
  have hc : ∀ q' w1, MixQ wh b bo bi bp ks q' F w1 → w1.cell? ⟨bl, 0, none⟩ = some (.pointer (some ⟨b, 0, none⟩)) := fun q' w1 h1 => (hb.keeps h1.2 hbF).c0
  have c0 : wr.drew.cell? ⟨bl, 0, none⟩ = some (.pointer (some ⟨b, 0, none⟩)) := hc _ _ h.drew
  have hL := mixLen_any h.drew.1
  have hR := mixRank_in hold h.drew 0 ks.length (by omega) (by omega) (Nat.le_refl _)
  rw [List.take_of_length_le (Nat.le_refl _)] at hR
  have hcl := cntK_le ks 0
  have HC := Lib.hid hc
  clear h hb hold hc
  unfold nvK
  generalize cntK ks 0 = c at *
  generalize hN : ks.length = N at *
  have HN := Lib.hid hN
  clear hN
  go_enter Tryz.func41, Tryz.ntmps41
  go_wp2
  go_region_held3 (fun w' => w'.cell? ⟨bl, 0, none⟩ = some (.pointer (some ⟨b, 0, none⟩))) (first | exact c0 | exact d0) (first | (go_at_call 24; refine hL.mono ?_; rintro e w' ⟨rfl, rfl⟩) | (go_at_call 21; refine hR.mono ?_; rintro e w' ⟨rfl, h2⟩; have d0 := HC.out _ _ h2))
  have HF := Lib.hid h2
  clear h2 d0 hL hR c0
  go_wp2
  go_ret
  exact ⟨rfl, HF.out⟩

/-- The vertex of a place, by the owner of the place. -/
def vxO (ks : List Nat) (r : Int) : Nat := if r < 0 then 0 else cntK (ks.take r.toNat) 0 + 1

set_option maxRecDepth 100000 in
set_option maxHeartbeats 1000000 in
theorem lookVertex_in (i : Nat) (r : Int) (hq : q ≤ 9000000) (hi : i < ks.length) (hr : OwnerOf ks i r) :
    Calls Tryz.prog 123 #[.pointer (some ⟨bl, 0, none⟩), .int .i64 i] wr fun e w' => e = .returned (.int .i64 (vxO ks r : Nat)) ∧ MixQ wh b bo bi bp ks (q + 9) F w' := by
  have hle := h.1.le
  have hc : ∀ q' w1, MixQ wh b bo bi bp ks q' F w1 → w1.cell? ⟨bl, 0, none⟩ = some (.pointer (some ⟨b, 0, none⟩)) := fun q' w1 h1 => (hb.keeps h1.2 hbF).c0
  have c0 := hc _ _ h
  have hO := mixOwner_in hold h i r (by omega) hi hr
  have hR := fun w1 (h1 : MixQ wh b bo bi bp ks (q + 7) F w1) (m : Nat) (hm : m ≤ ks.length) => mixRank_in hold h1 0 m (by omega) (by omega) hm
  have HC := Lib.hid (And.intro hc hR)
  have hcase : r = -1 ∨ ∃ o : Nat, r = o ∧ o < ks.length := by
    rcases hr with ⟨_, h1⟩ | ⟨_, o, n, _, h2, h3⟩
    · exact .inl h1
    · obtain ⟨_, h4, _⟩ := h2
      exact .inr ⟨n, h3, lt_of_get h4⟩
  clear h hb hold hc hR hr
  rcases hcase with rfl | ⟨o, rfl, ho⟩
  · go_enter Tryz.func123, Tryz.ntmps123
    go_wp2_with fail
    refine hO.mono ?_
    rintro e w1 ⟨rfl, h1⟩
    have HF := Lib.hid (h1.more (q' := q + 9) (by omega))
    clear hO c0 h1
    go_wp2
    go_ret
    exact ⟨rfl, HF.out⟩
  · have hv : vxO ks (o : Int) = cntK (ks.take o) 0 + 1 := by unfold vxO; rw [if_neg (by omega)]; simp
    rw [hv]
    clear hv
    have hcl := cntK_le (ks.take o) 0
    have htl := List.length_take_le o ks
    obtain ⟨c, hcc⟩ : ∃ c, c = cntK (ks.take o) 0 := ⟨_, rfl⟩
    rw [← hcc] at hcl ⊢
    have HCC := Lib.hid hcc
    clear hcc
    go_enter Tryz.func123, Tryz.ntmps123
    go_wp2_with fail
    refine hO.mono ?_
    rintro e w1 ⟨rfl, h1⟩
    have d0 := HC.out.1 _ _ h1
    have hR := HC.out.2 w1 h1 o (by omega)
    rw [← HCC.out] at hR
    clear hO c0 h1
    go_wp2_with fail
    refine hR.mono ?_
    rintro e w2 ⟨rfl, h2⟩
    have HF := Lib.hid h2
    clear hR h2 d0
    go_wp2
    go_ret
    exact ⟨rfl, HF.out⟩

end

end Go.Proofs.YtipelclohcdkcaaGreat

/- look: the state of a Look; place, number. -/
namespace Go.Proofs.YtipelclohcdkcaaGreat
open Go.RowKit

/-- A Look of a word, asked n times. -/
structure LookS (w : World) (bl b bo : Nat) (bi bp : Nat → Nat) (ks : List Nat) (q : Nat) (F : Nat → Prop) (n : Nat) : Prop where
  own : LkB w bl b n
  mix : MixP w b bo bi bp ks q F
  sep : ¬ F bl

section
variable {w : World} {bl b bo : Nat} {bi bp : Nat → Nat} {ks : List Nat} {q : Nat} {F : Nat → Prop} {n : Nat}

theorem LookS.lt (h : LookS w bl b bo bi bp ks q F n) : bl < w.heap.size := lt_of_block h.own

theorem LookS.keeps (h : LookS w bl b bo bi bp ks q F n) {w' : World} {G : Nat → Prop} (k : Keeps G w w') (hd : ∀ x, (F x ∨ x = bl) → ¬ G x) : LookS w' bl b bo bi bp ks q F n :=
  ⟨h.own.keeps k (hd bl (.inr rfl)), h.mix.keeps k (fun x hx => hd x (.inl hx)), h.sep⟩

/-- Behind a question to the index. -/
theorem LookS.mixq (h : LookS w bl b bo bi bp ks q F n) {q' : Nat} {w' : World} (k : MixQ w b bo bi bp ks q' F w') : LookS w' bl b bo bi bp ks q' (grow F w w') n :=
  ⟨h.own.keeps k.2 h.sep, k.1, fun hg => by
    rcases hg with hg | hg
    · exact h.sep hg
    · have := h.lt; omega⟩

set_option maxRecDepth 100000 in
set_option maxHeartbeats 1000000 in
theorem lookPlace_any (h : LookS w bl b bo bi bp ks q F n) (hn : n ≤ 1000000) (i : Int) (hi : -9223372036854775808 ≤ i ∧ i ≤ 9223372036854775807) :
    Calls Tryz.prog 125 #[.pointer (some ⟨bl, 0, none⟩), .int .i64 i] w fun e w' => (∃ c : Nat, e = .returned (.int .i64 c) ∧ ((0 ≤ i ∧ i < ks.length ∧ c = 0) ∨ (¬ (0 ≤ i ∧ i < ks.length) ∧ c = 1))) ∧ LookS w' bl b bo bi bp ks q F (n + 1) ∧ Keeps (fun x => x = bl) w w' := by
  have hle := h.mix.le
  have hC := lookCount_any bl b n w h.own hn
  have HS : Hid (∀ w1, LkB w1 bl b (n + 1 : Nat) → Keeps (fun x => x = bl) w w1 → LookS w1 bl b bo bi bp ks q F (n + 1)) := Lib.hid (fun w1 h1 k1 => ⟨h1, h.mix.keeps k1 (fun x hx e => h.sep (e ▸ hx)), h.sep⟩)
  clear h
  go_enter Tryz.func125, Tryz.ntmps125
  go_wp2_with fail
  refine hC.mono ?_
  rintro e w1 ⟨rfl, h1, k1⟩
  have hS := HS.out w1 h1 k1
  have c0 := h1.c0
  have hL := mixLen_any hS.mix
  have HF := Lib.hid (And.intro hS k1)
  clear hC h1 hS k1
  generalize hNN : ks.length = N at *
  have HN := Lib.hid hNN
  clear hNN
  by_cases h0 : i < 0
  · have hd : decide (i < 0) = true := decide_eq_true h0
    clear hL
    go_wp2
    go_ret
    exact ⟨⟨1, rfl, .inr ⟨fun h => by omega, rfl⟩⟩, HF.out⟩
  · have hd : decide (i < 0) = false := decide_eq_false h0
    by_cases hN : (N : Int) ≤ i
    · have hd2 : decide ((N : Int) ≤ i) = true := decide_eq_true hN
      go_wp2_with (go_at_call 24; refine hL.mono ?_; rintro e w' ⟨rfl, rfl⟩)
      go_ret
      exact ⟨⟨1, rfl, .inr ⟨fun h => by have := HN.out; omega, rfl⟩⟩, HF.out⟩
    · have hd2 : decide ((N : Int) ≤ i) = false := decide_eq_false hN
      go_wp2_with (go_at_call 24; refine hL.mono ?_; rintro e w' ⟨rfl, rfl⟩)
      go_ret
      exact ⟨⟨0, rfl, .inl ⟨by omega, by have := HN.out; omega, rfl⟩⟩, HF.out⟩

/-- Behind questions. -/
def LookQ (wh : World) (bl b bo : Nat) (bi bp : Nat → Nat) (ks : List Nat) (q : Nat) (F : Nat → Prop) (n : Nat) (w' : World) : Prop :=
  LookS w' bl b bo bi bp ks q (grow F wh w') n ∧ Keeps (fun x => F x ∨ x = bl) wh w'

theorem LookQ.more {w1 : World} (h : LookQ w bl b bo bi bp ks q F n w1) {q' : Nat} (hq : q ≤ q') : LookQ w bl b bo bi bp ks q' F n w1 :=
  ⟨⟨h.1.own, h.1.mix.more hq, h.1.sep⟩, h.2⟩

theorem LookQ.trans {w1 w2 : World} {q' n' : Nat} (hF : ∀ x, F x → x < w.heap.size) (hbl : bl < w.heap.size) (hbF : ¬ F bl) (h : LookQ w bl b bo bi bp ks q F n w1) (k : LookQ w1 bl b bo bi bp ks q' (grow F w w1) n' w2) : LookQ w bl b bo bi bp ks q' F n' w2 := by
  obtain ⟨h1, h2⟩ := h
  obtain ⟨k1, k2⟩ := k
  refine ⟨⟨k1.own, k1.mix.mono (grow_trans h2.size k2.size) (grow_old hF (Nat.le_trans h2.size k2.size)), fun hg => ?_⟩, h2.trans k2 ?_⟩
  · rcases hg with hg | hg
    · exact hbF hg
    · omega
  · rintro x hx ((hx1 | hx1) | hx1)
    · exact .inl hx1
    · omega
    · exact .inr hx1

theorem LookS.q0 (h : LookS w bl b bo bi bp ks q F n) : LookQ w bl b bo bi bp ks q F n w :=
  ⟨⟨h.own, h.mix.after.1, fun hg => by
    rcases hg with hg | hg
    · exact h.sep hg
    · omega⟩, Keeps.refl _ _⟩

/-- A question to the index keeps a Look. -/
theorem LookS.ask (h : LookS w bl b bo bi bp ks q F n) {q' : Nat} {w' : World} (k : MixQ w b bo bi bp ks q' F w') : LookQ w bl b bo bi bp ks q' F n w' :=
  ⟨h.mixq k, k.2.mono (fun _ _ hx => .inl hx)⟩

set_option maxRecDepth 100000 in
set_option maxHeartbeats 2000000 in
theorem lookNumber_any (h : LookS w bl b bo bi bp ks q F n) (hn : n ≤ 1000000) (hq : q ≤ 10000000) (sv : Value) (zs : List Int) (hs : Sl .i64 w sv zs) (hsp : ∀ k, sv.ownBlock = some k → ¬ (F k ∨ k = bl)) (hl : zs.length ≤ 10) :
    Calls Tryz.prog 120 #[.pointer (some ⟨bl, 0, none⟩), sv] w fun e w' => (∃ c : Nat, e = .returned (.int .i64 c) ∧ (((∀ z ∈ zs, 0 ≤ z ∧ z < nvK ks) ∧ c = 0) ∨ (¬ (∀ z ∈ zs, 0 ≤ z ∧ z < nvK ks) ∧ c = 1))) ∧ LookQ w bl b bo bi bp ks (q + 2 * zs.length) F (n + 1) w' := by
  have hle := h.mix.le
  have hF0 := h.mix.old
  have hbl := h.lt
  have hbF := h.sep
  have hC := lookCount_any bl b n w h.own hn
  have HS : Hid (∀ w1, LkB w1 bl b (n + 1 : Nat) → Keeps (fun x => x = bl) w w1 → LookQ w bl b bo bi bp ks q F (n + 1) w1) := Lib.hid (fun w1 h1 k1 => by
    have hg := grow_old (w' := w1) hF0 k1.size
    refine ⟨⟨h1, (h.mix.keeps k1 (fun x hx e => h.sep (e ▸ hx))).mono (fun x hx => .inl hx) hg, fun hx => ?_⟩, k1.mono (fun _ _ hx => .inr hx)⟩
    rcases hx with hx | hx
    · exact hbF hx
    · omega)
  have HSl : Hid (∀ q' w1, LookQ w bl b bo bi bp ks q' F (n + 1) w1 → Sl .i64 w1 sv zs) := Lib.hid (fun q' w1 h1 => hs.keeps h1.2 hsp)
  obtain ⟨a, cap, rfl, -, -, -, -⟩ := hs
  clear h hsp
  generalize hN : zs.length = N at *
  go_enter Tryz.func120, Tryz.ntmps120
  go_wp2_with fail
  refine hC.mono ?_
  rintro e w1 ⟨rfl, h1, k1⟩
  have hQ1 := HS.out w1 h1 k1
  clear hC h1 k1
  go_wp2
  go_loopg [15] N (fun m t wr => ∃ j : Nat, j ≤ N ∧ m = N - j ∧ t = .int .i64 j ∧ (∀ i z, i < j → zs[i]? = some z → 0 ≤ z ∧ z < nvK ks) ∧ LookQ w bl b bo bi bp ks (q + 2 * j) F (n + 1) wr)
  case atStart => exact ⟨0, Nat.zero_le _, rfl, rfl, fun i z hi => by omega, hQ1⟩
  case round =>
    obtain ⟨j, hj, hgk, rfl, hall, hQ⟩ := hrel
    clear hQ1
    by_cases hlt : j < N
    · have hz := List.getElem?_eq_getElem (l := zs) (i := j) (by omega)
      obtain ⟨z, hze⟩ : ∃ z, z = zs[j]'(by omega) := ⟨_, rfl⟩
      rw [← hze] at hz
      clear hze
      obtain ⟨g, off, rfl, hc⟩ := (HSl.out _ _ hQ).cellAt hz
      have hV := lookVertices_any hQ.1.mix.old hQ.1.mix.after hQ.1.own hQ.1.sep (by omega)
      have HT : Hid (∀ w2, MixQ wr b bo bi bp ks (q + 2 * j + 2) (grow F w wr) w2 → LookQ w bl b bo bi bp ks (q + 2 * (j + 1)) F (n + 1) w2) := Lib.hid (fun w2 h2 => LookQ.trans hF0 hbl hbF hQ (hQ.1.ask h2))
      have HG := Lib.hid hgk
      have HA := Lib.hid hall
      have HZ := Lib.hid (And.intro hz hQ)
      have hnv : nvK ks ≤ 100000001 := by have := cntK_le ks 0; unfold nvK; omega
      generalize hNV : nvK ks = V at *
      have HV := Lib.hid hNV
      clear hNV hgk hall hQ hz
      by_cases h0 : z < 0
      · have hd : decide (z < 0) = true := decide_eq_true h0
        clear hV
        go_wp2
        go_ret
        exact ⟨⟨1, rfl, .inr ⟨fun h => by have := h z (List.mem_of_getElem? HZ.out.1); omega, rfl⟩⟩, HZ.out.2.more (by omega)⟩
      · have hd : decide (z < 0) = false := decide_eq_false h0
        by_cases hv : (V : Int) ≤ z
        · have hd2 : decide ((V : Int) ≤ z) = true := decide_eq_true hv
          go_wp2_with fail
          refine hV.mono ?_
          rintro e w2 ⟨rfl, h2⟩
          have HF := Lib.hid (HT.out w2 h2)
          clear hV h2
          go_wp2
          go_ret
          exact ⟨⟨1, rfl, .inr ⟨fun h => by have h9 := HV.out; have := h z (List.mem_of_getElem? HZ.out.1); omega, rfl⟩⟩, HF.out.more (by omega)⟩
        · have hd2 : decide ((V : Int) ≤ z) = false := decide_eq_false hv
          go_wp2_with fail
          refine hV.mono ?_
          rintro e w2 ⟨rfl, h2⟩
          have HF := Lib.hid (HT.out w2 h2)
          clear hV h2
          go_wp2
          go_roundg (N - (j + 1))
          case measure => rw [HG.out]; omega
          case rel =>
            refine ⟨j + 1, by omega, rfl, by go_num, fun i y hi hy => ?_, HF.out⟩
            rcases Nat.lt_or_ge i j with h1 | h1
            · exact HA.out i y h1 hy
            · obtain rfl : i = j := by omega
              rw [HZ.out.1] at hy
              obtain rfl := Option.some.inj hy
              omega
    · have HF := Lib.hid (And.intro hall hQ)
      clear hall hQ
      go_wp2
      go_ret
      refine ⟨⟨0, rfl, .inl ⟨fun z hz => ?_, rfl⟩⟩, HF.out.2.more (by omega)⟩
      obtain ⟨i, hi⟩ := List.getElem?_of_mem hz
      have := lt_of_get hi
      exact HF.out.1 i z (by omega) hi

end

end Go.Proofs.YtipelclohcdkcaaGreat

/- look.Degree. -/
namespace Go.Proofs.YtipelclohcdkcaaGreat
open Go.RowKit
attribute [local go_sem] Oper.semAt_some

def boxL (bl : Nat) : Obj := .cells #[.pointer (some ⟨bl, 0, none⟩)] 46
def boxI (v : Int) : Obj := .cells #[.int .i64 v] 3

theorem lookAround_any (bl : Nat) (v : Int) (w : World) :
    Calls Tryz.prog 122 #[.pointer (some ⟨bl, 0, none⟩), .int .i64 v] w fun e w' => e = .returned (.func (.func 182) #[] #[.pointer (some ⟨w.heap.size, 0, none⟩), .pointer (some ⟨w.heap.size + 1, 0, none⟩)]) ∧ w' = (w.alloc (boxL bl)).alloc (boxI v) := by
  go_enter Tryz.func122, Tryz.ntmps122
  go_wp2
  go_ret
  refine ⟨?_, ?_⟩
  · simp
  · rfl

/-- A loop over a vertex's places, between two rounds; ow: the caller's own blocks. -/
structure LkI (w : World) (F : Nat → Prop) (D bl b bo : Nat) (bi bp : Nat → Nat) (ks : List Nat) (n : Int) (B1 B2 v Q0 cb : Nat) (ow : List Nat → List (Nat × Obj)) (pre : List Nat) (s : LkG) (W : World) : Prop where
  st : LkAt bl b bo bi bp ks n B1 B2 v Q0 cb pre s W
  own : ∀ p ∈ ow pre, W.heap[p.1]? = some p.2 ∧ ¬ s.2.2 p.1 ∧ p.1 < D
  av : ∀ x, s.2.2 x → x < D ∨ D + 1 < x
  sz : D + 1 < W.heap.size
  lt : B1 < D ∧ B2 < D ∧ bl < D ∧ w.heap.size ≤ D
  k : Keeps (fun x => F x ∨ x = bl) w W
  fr : ∀ x, s.2.2 x → F x ∨ w.heap.size ≤ x

section
variable {w : World} {F : Nat → Prop} {D bl b bo : Nat} {bi bp : Nat → Nat} {ks : List Nat} {n : Int} {B1 B2 v Q0 cb : Nat} {ow : List Nat → List (Nat × Obj)} {pre : List Nat} {s : LkG} {W : World}

theorem LkI.keepsG (h : LkI w F D bl b bo bi bp ks n B1 B2 v Q0 cb ow pre s W) {W' : World} {G : Nat → Prop} (k : Keeps G W W') (hG : ∀ x, x < W.heap.size → G x → x = D ∨ x = D + 1) : LkI w F D bl b bo bi bp ks n B1 B2 v Q0 cb ow pre s W' := by
  obtain ⟨⟨a1, a2, a3, a4, a5, a6, a7, a8⟩, h2, h3, h4, h5, h6, h7⟩ := h
  have hd : ∀ x, x < D → ¬ G x := fun x hx hg => by have := hG x (by omega) hg; omega
  refine ⟨⟨a1.keeps k (hd bl h5.2.2.1), a2.keeps k (fun x hx hg => ?_), a3, k.at a4 (hd B1 h5.1), k.at a5 (hd B2 h5.2.1), a6, a7, a8⟩, fun p hp => ⟨k.at (h2 p hp).1 (hd _ (h2 p hp).2.2), (h2 p hp).2⟩, h3, Nat.lt_of_lt_of_le h4 k.size, h5, h6.trans k (fun x hx hg => ?_), h7⟩
  · have h8 := h3 x hx
    have h9 := hG x (a2.old x hx) hg
    omega
  · have h9 := hG x (Nat.lt_of_lt_of_le hx h6.size) hg
    omega

theorem keeps_putObj (W : World) (l : Nat) (o : Obj) : Keeps (fun x => x = l) W (W.putObj l o) :=
  ⟨rfl, rfl, rfl, by simp [World.putObj], fun k _ hk => World.putObj_heap_other hk⟩

theorem LkI.put (h : LkI w F D bl b bo bi bp ks n B1 B2 v Q0 cb ow pre s W) (l : Nat) (o : Obj) (hl : l = D ∨ l = D + 1) : LkI w F D bl b bo bi bp ks n B1 B2 v Q0 cb ow pre s (W.putObj l o) :=
  h.keepsG (keeps_putObj W l o) (fun x _ hx => by rw [hx]; exact hl)

theorem LkI.step (h : LkI w F D bl b bo bi bp ks n B1 B2 v Q0 cb ow pre s W) {s' : LkG} {W' : World} (hst : lkSt b bo bi bp ks s W s' W') : LkI w F D bl b bo bi bp ks n B1 B2 v Q0 cb ow pre s' W' ∧ KeepsRec D W W' := by
  obtain ⟨⟨a1, a2, a3, a4, a5, a6, a7, a8⟩, h2, h3, h4, h5, h6, h7⟩ := h
  obtain ⟨k', q', F'⟩ := s'
  obtain ⟨k0, q0, F0⟩ := s
  obtain ⟨e1, e2, hm, e3⟩ := hst
  dsimp only at *
  subst e1 e3
  have hg : ∀ x, x < W.heap.size → grow F0 W W' x → F0 x := fun x hx hg => by
    rcases hg with hg | hg
    · exact hg
    · omega
  have hblt := lt_of_block a1
  refine ⟨⟨⟨a1.keeps hm.2 a3, hm.1, fun hx => a3 (hg _ hblt hx), hm.2.at a4 a6, hm.2.at a5 a7, fun hx => a6 (hg _ (by omega) hx), fun hx => a7 (hg _ (by omega) hx), ?_⟩, fun p hp => ⟨hm.2.at (h2 p hp).1 (h2 p hp).2.1, fun hx => (h2 p hp).2.1 (hg _ (by have := (h2 p hp).2.2; omega) hx), (h2 p hp).2.2⟩, fun x hx => ?_, Nat.lt_of_lt_of_le h4 hm.2.size, h5, h6.trans hm.2 (fun x hx hf => ?_), fun x hx => ?_⟩, KeepsRec.of hm.2 (fun x hx hd => by have := h3 x hx; omega)⟩
  · dsimp only
    rw [e2]
    by_cases hk : k0 = 0
    · subst hk
      simp at a8 ⊢
      omega
    · rw [if_neg hk] at a8 ⊢
      rw [if_neg (by omega)]
      omega
  · rcases hx with hx | hx
    · exact h3 x hx
    · right; omega
  · rcases h7 x hf with h | h
    · exact .inl h
    · omega
  · rcases hx with hx | hx
    · exact h7 x hx
    · right; have := h6.size; omega

end

/-- The caller has turned its one block. -/
theorem LkI.own1 {w : World} {F : Nat → Prop} {D bl b bo : Nat} {bi bp : Nat → Nat} {ks : List Nat} {n : Int} {B1 B2 v Q0 cb B0 : Nat} {f : List Nat → Obj} {pre : List Nat} {s : LkG} {W : World} (h : LkI w F D bl b bo bi bp ks n B1 B2 v Q0 cb (fun p => [(B0, f p)]) pre s W)
    (hne : B0 ≠ B1 ∧ B0 ≠ B2 ∧ B0 ≠ bl ∧ w.heap.size ≤ B0) {W' : World} (k : Keeps (fun x => x = B0) W W') (x : Nat) (hb : W'.heap[B0]? = some (f (pre ++ [x]))) : LkI w F D bl b bo bi bp ks n B1 B2 v Q0 cb (fun p => [(B0, f p)]) (pre ++ [x]) s W' := by
  obtain ⟨⟨a1, a2, a3, a4, a5, a6, a7, a8⟩, h2, h3, h4, h5, h6, h7⟩ := h
  have h0 := h2 (B0, f pre) (by simp)
  refine ⟨⟨a1.keeps k (fun e => hne.2.2.1 e.symm), a2.keeps k (fun x hx hg => h0.2.1 (hg ▸ hx)), a3, k.at a4 (fun e => hne.1 e.symm), k.at a5 (fun e => hne.2.1 e.symm), a6, a7, ?_⟩, fun p hp => ?_, h3, Nat.lt_of_lt_of_le h4 k.size, h5, h6.trans k (fun x hx hg => by omega), h7⟩
  · have h8 : cb * pre.length ≤ cb * (pre ++ [x]).length := Nat.mul_le_mul_left _ (by simp)
    omega
  · simp only [List.mem_singleton] at hp
    subst hp
    exact ⟨hb, h0.2⟩

theorem LkI.ends {w : World} {F : Nat → Prop} {D bl b bo : Nat} {bi bp : Nat → Nat} {ks : List Nat} {n : Nat} {B1 B2 v Q0 cb : Nat} {ow : List Nat → List (Nat × Obj)} {pre : List Nat} {s : LkG} {W : World} (h : LkI w F D bl b bo bi bp ks n B1 B2 v Q0 cb ow pre s W) {q m : Nat} (hq : s.2.1 ≤ q) (hm : n = m) (hold : ∀ x, F x → x < w.heap.size) (hbl : bl < w.heap.size) (hbF : ¬ F bl) : LookQ w bl b bo bi bp ks q F m W := by
  subst hm
  refine ⟨⟨h.st.own, (h.st.mix.more hq).mono (fun x hx => ?_) ?_, fun hx => ?_⟩, h.k⟩
  · rcases h.fr x hx with h1 | h1
    · exact .inl h1
    · exact .inr ⟨h1, h.st.mix.old x hx⟩
  · rintro x (hx | hx)
    · have := hold x hx; have := h.k.size; omega
    · exact hx.2
  · rcases hx with hx | hx
    · exact hbF hx
    · omega

theorem sl_lit1 (w : World) (v : Int) : Sl .i64 (w.alloc (.cells #[.int .i64 v] 3)) (.slice (some ⟨w.heap.size, 0, none⟩) 1 1) [v] := by
  refine ⟨_, _, rfl, by simp, by decide, by simp, fun j z hj => ⟨w.heap.size, 0, rfl, ?_⟩⟩
  match j, hj with
  | 0, hj =>
    obtain rfl : v = z := by simpa using hj
    exact World.cell_of_heap (heap_alloc_new w (.cells #[.int .i64 v] 3)) 0
  | j + 1, hj => simp at hj

theorem SeqS.mono {α σ : Type} {F : Fence} {n : Nat} {P : Program} {g : Nat} {lb : Array Value} {encs : α → Array Value} {St : σ → World → σ → World → Prop} {Rd : σ → σ → Prop} {At : List α → σ → World → Prop} {S Sp S' Sp' : List α → σ → Prop} {N : Nat} {Ok : Nat → α → σ → Prop} {s0 : σ}
    (h : SeqS F n P g lb encs St Rd At S Sp N Ok s0) (hS : ∀ xs s, S xs s → S' xs s) (hSp : ∀ xs s, Sp xs s → Sp' xs s) : SeqS F n P g lb encs St Rd At S' Sp' N Ok s0 :=
  fun l J Jx W h1 h2 h3 h4 => (h l J Jx W h1 h2 h3 h4).mono (fun _ _ hh => ⟨hh.1, hh.2.elim (fun ⟨xs, s, k1, k2⟩ => .inl ⟨xs, s, hS xs s k1, k2⟩) (fun ⟨xs, s, k1, k2⟩ => .inr ⟨xs, s, hSp xs s k1, k2⟩)⟩)

set_option maxRecDepth 100000 in
set_option maxHeartbeats 4000000 in
theorem lookDegree_gen {w : World} {bl b bo : Nat} {bi bp : Nat → Nat} {ks : List Nat} {q : Nat} {F : Nat → Prop} {n : Nat} (h : LookS w bl b bo bi bp ks q F n) (hn : n ≤ 1000000) (hq : q ≤ 5000000) (v : Nat) (hv : v < nvK ks) (xs0 : List Nat) (Sp : List Nat → LkG → Prop) (N : Nat) (Ok : Nat → Nat → LkG → Prop) (hN0 : N ≤ 1000) (hxL : xs0.length ≤ ks.length)
    (hseq : ∀ B1 B2 Q0 F0, Q0 ≤ 9000000 → SeqS Fence.wide 2 Tryz.prog 182 #[.pointer (some ⟨B1, 0, none⟩), .pointer (some ⟨B2, 0, none⟩)] (fun x : Nat => #[.int .i64 x]) (lkSt b bo bi bp ks) lkRd (LkAt bl b bo bi bp ks (n + 1 : Nat) B1 B2 v Q0 0) (fun xs s => xs = xs0 ∧ s.1 = xs0.length + 1) Sp N Ok (0, Q0, F0)) :
    Calls Tryz.prog 39 #[.pointer (some ⟨bl, 0, none⟩), .int .i64 v] w fun e w' => e = .returned (.tuple #[.int .i64 (xs0.length : Nat), .int .i64 0]) ∧ LookQ w bl b bo bi bp ks (q + 10 * ks.length + 10) F (n + 1) w' := by
  have k1 := (Keeps.refl (fun _ => False) w).alloc (.cells #[.int .i64 v] 3)
  have hN := lookNumber_any (h.keeps k1 (fun _ _ h => h)) hn (by omega) (.slice (some ⟨w.heap.size, 0, none⟩) 1 1) [(v : Int)] (sl_lit1 w v) (fun k e => by simp only [Value.ownBlock, Option.some.injEq] at e; subst e; rintro (hx | hx); exact absurd (h.mix.old _ hx) (by omega); have := h.lt; omega) (by simp)
  have hblw := h.lt
  have hFw := h.mix.old
  have hbF := h.sep
  have HSQ := Lib.hid hseq
  have HX := Lib.hid hxL
  clear h hseq hxL
  refine (callsIn_wide (n := 3)).1 ?_
  refine callsIn_of_wp_marks Tryz.func39 rfl trivial ?_ rfl
  simp only [Tryz.ntmps39, List.size_toArray, List.length_cons, List.length_nil, Nat.reduceAdd, Nat.reduceSub, Array.replicate_succ, Array.replicate_zero, List.push_toArray, List.append_toArray, List.nil_append, List.cons_append]
  gi_wp2
  refine ⟨trivial, callsIn_wide.2 (hN.mono ?_)⟩
  rintro e w2 ⟨⟨c, rfl, hc⟩, hQ⟩
  rcases hc with ⟨hok, rfl⟩ | ⟨hno, rfl⟩
  rotate_left
  · exact absurd (fun z hz => by simp at hz; subst hz; omega) hno
  · have hA := fun w => lookAround_any bl v w
    gi_wp2
    refine ⟨trivial, callsIn_wide.2 ((hA _).mono ?_)⟩
    rintro e w3 ⟨rfl, rfl⟩
    clear hA hN hok
    obtain ⟨W3, hW3⟩ : ∃ W3, W3 = (((w2.alloc (.cells #[.int .i64 0] 3)).alloc (boxL bl)).alloc (boxI v)) := ⟨_, rfl⟩
    have hD : W3.heap.size = w2.heap.size + 3 := by rw [hW3]; simp
    have hs2 := hQ.2.size
    have hs1 : (w.alloc (.cells #[.int .i64 v] 3)).heap.size = w.heap.size + 1 := by simp
    have hkW : Keeps (fun x => F x ∨ x = bl) w w2 := (k1.mono (fun _ _ h => h.elim)).trans hQ.2 (fun x hx hg => hg)
    have hs12 : w.heap.size < w2.heap.size := by omega
    obtain ⟨n1, hn1⟩ : ∃ n1 : Nat, n1 = n + 1 := ⟨_, rfl⟩
    have hI0 : ∀ o o', LkI w F W3.heap.size bl b bo bi bp ks n1 (w2.heap.size + 1) (w2.heap.size + 1 + 1) v (q + 2) 0 (fun p => [(w2.heap.size, boxI p.length)]) [] (0, q + 2, grow F (w.alloc (.cells #[.int .i64 v] 3)) w2) ((W3.alloc o).alloc o') := by
      intro o o'
      have kB := (((Keeps.refl (fun _ => False) w2).alloc (.cells #[.int .i64 0] 3)).alloc (boxL bl)).alloc (boxI v)
      have kA := kB.alloc o
      have kA := kA.alloc o'
      rw [← hW3] at kA
      have kC := ((Keeps.refl (fun _ => False) W3).alloc o).alloc o'
      have hLS := hQ.1.keeps kA (fun _ _ h => h)
      have b0 : W3.heap[w2.heap.size]? = some (boxI (0 : Nat)) := by
        rw [hW3]
        exact (((Keeps.refl (fun _ => False) (w2.alloc (.cells #[.int .i64 0] 3))).alloc (boxL bl)).alloc (boxI v)).at (heap_alloc_new w2 _) (fun h => h)
      have b1 : W3.heap[w2.heap.size + 1]? = some (boxL bl) := by
        rw [hW3]
        have hz : (w2.alloc (.cells #[.int .i64 0] 3)).heap.size = w2.heap.size + 1 := by simp
        rw [← hz]
        exact ((Keeps.refl (fun _ => False) ((w2.alloc (.cells #[.int .i64 0] 3)).alloc (boxL bl))).alloc (boxI v)).at (heap_alloc_new _ _) (fun h => h)
      have b2 : W3.heap[w2.heap.size + 1 + 1]? = some (boxI v) := by
        rw [hW3]
        have hz : ((w2.alloc (.cells #[.int .i64 0] 3)).alloc (boxL bl)).heap.size = w2.heap.size + 1 + 1 := by simp
        rw [← hz]
        exact heap_alloc_new _ _
      have hgo := hQ.1.mix.old
      have hblq := hQ.1.lt
      refine ⟨⟨by rw [hn1]; exact hLS.own, hLS.mix, hLS.sep, kC.at b1 (fun h => h), kC.at b2 (fun h => h), fun hx => by have := hgo _ hx; omega, fun hx => by have := hgo _ hx; omega, by simp⟩, fun p hp => ?_, fun x hx => by have := hgo _ hx; omega, by simp, ⟨by omega, by omega, by omega, by omega⟩, hkW.trans kA (fun _ _ h => h.elim), fun x hx => ?_⟩
      · simp only [List.mem_singleton] at hp
        subst hp
        exact ⟨kC.at b0 (fun h => h), fun hx => by have := hgo _ hx; omega, by show w2.heap.size < _; omega⟩
      · rcases hx with hx | hx
        · exact .inl hx
        · right; omega
    have HI0 := Lib.hid hI0
    have HQ := Lib.hid hQ
    have HD := Lib.hid hD
    have HW3 := Lib.hid hW3
    have HN1 := Lib.hid hn1
    clear hI0 hQ hkW k1 hD hs1 hn1
    gi_wp2
    rw [← hW3]
    clear hW3
    refine wpIn_rangeFunc_ownS rfl (by decide) (gf := 182) (lb := #[.pointer (some ⟨w2.heap.size + 1, 0, none⟩), .pointer (some ⟨w2.heap.size + 1 + 1, 0, none⟩)]) rfl trivial (enters_of Tryz.func182 (by kernel_rfl) rfl)
      (by rw [HN1.out]; exact HSQ.out _ _ _ (grow F (w.alloc (.cells #[.int .i64 v] 3)) w2) (by omega)) (fun _ => rfl)
      (LkI w F W3.heap.size bl b bo bi bp ks n1 (w2.heap.size + 1) (w2.heap.size + 1 + 1) v (q + 2) 0 (fun p => [(w2.heap.size, boxI p.length)])) (fun _ _ _ _ => False)
      (fun xs s A hs => hs.st) ?hst ?hput (fun _ _ _ _ _ _ _ h => h.elim) ?h0
      (fun x => { tmps := #[.pointer (some ⟨bl, 0, none⟩), .int .i64 v, undef, undef, .int .i64 0, .int .i64 0, .int .i64 0, .pointer (some ⟨w2.heap.size, 0, none⟩), .pointer (some ⟨bl, 0, none⟩), .int .i64 v, .slice (some ⟨w.heap.size, 0, none⟩) 1 1, .int .i64 0, .int .i64 0, .bool false, undef, .pointer (some ⟨bl, 0, none⟩), .int .i64 v, .func (.func 182) #[] #[.pointer (some ⟨w2.heap.size + 1, 0, none⟩), .pointer (some ⟨w2.heap.size + 1 + 1, 0, none⟩)], .int .i64 x, undef, undef, undef], defers := [] }) ?assign ?body ?done ?stop
    case hst => exact fun xs s A s' B hs hst => hs.step hst
    case hput => exact fun xs s W l o o' hs hl _ _ => hs.put l o' hl
    case h0 => exact HI0.out
    case assign =>
      intro l x W K hK
      gi_wp2
      simpa using hK
    case body =>
      rintro l pre x s W hI hlen _
      have hlen2 : pre.length < 1000 := by omega
      have hb0 := (hI.own (w2.heap.size, boxI pre.length) (by simp)).1
      have hlt := (hI.own (w2.heap.size, boxI pre.length) (by simp)).2.2
      have c0 : W.cell? ⟨w2.heap.size, 0, none⟩ = some (.int .i64 pre.length) := World.cell_of_heap hb0 0
      have z0 := World.free_of_heap hb0 0
      have hk := (Keeps.refl (fun x => x = w2.heap.size) W).setCell (p := ⟨w2.heap.size, 0, none⟩) (.inl rfl) (.int .i64 (pre.length + 1))
      have hb1 : (W.setCell ⟨w2.heap.size, 0, none⟩ (.int .i64 (pre.length + 1))).heap[w2.heap.size]? = some (boxI ((pre ++ [x]).length : Nat)) := by
        rw [heap_setCell_same hb0 0 _]
        simp [boxI]
      have hI2 := hI.own1 ⟨by omega, by omega, by omega, by omega⟩ hk x hb1
      have HF := Lib.hid (And.intro hI2 (KeepsRec.of (D := W3.heap.size) hk (fun x hx hd => by have := HD.out; omega)))
      clear hI hI2 hk hb1 hb0
      gi_wp2
      exact ⟨HF.out.2, s, rfl, HF.out.1⟩
    case done =>
      rintro xs s W ⟨rfl, hs1k⟩ hI hK
      have hb0 := (hI.own (w2.heap.size, boxI xs.length) (by simp)).1
      have c0 : W.cell? ⟨w2.heap.size, 0, none⟩ = some (.int .i64 (xs.length : Nat)) := World.cell_of_heap hb0 0
      have HI := Lib.hid hI
      clear hI hb0
      gi_wp2
      refine ⟨by simp, .inl ⟨_, _, rfl, run_takeDeferred hK, ?_⟩⟩
      refine ⟨_, by simp [results, Tryz.results39, go_sem], rfl, ?_⟩
      have hI2 := HI.out.put W3.heap.size (.deferred none) (.inl rfl)
      have hpL := HX.out
      exact hI2.ends (by have h8 := hI2.st.q; rw [hs1k] at h8; simp at h8; omega) HN1.out hFw hblw hbF
    case stop =>
      rintro c pre s W _ h _
      exact h.elim

theorem lookDegree_in {w : World} {bl b bo : Nat} {bi bp : Nat → Nat} {ks : List Nat} {q : Nat} {F : Nat → Prop} {n : Nat} (h : LookS w bl b bo bi bp ks q F n) (hn : n ≤ 1000000) (hq : q ≤ 5000000) (hw : Wd ks) (hL : ks.length ≤ 1000) (v f0 : Nat) (hv : v < nvK ks) (hf : FirstOf ks v (f0 : Nat)) (hf0 : f0 < ks.length) :
    Calls Tryz.prog 39 #[.pointer (some ⟨bl, 0, none⟩), .int .i64 v] w fun e w' => e = .returned (.tuple #[.int .i64 (per (tn ks) f0 : Nat), .int .i64 0]) ∧ LookQ w bl b bo bi bp ks (q + 10 * ks.length + 10) F (n + 1) w' := by
  have hp := (hw.tn_isP.per_spec hf0).2.1
  have := lookDegree_gen h hn hq v hv (orb (tn ks) f0) (fun pre s => ∃ j, j < per (tn ks) f0 ∧ pre = (orb (tn ks) f0).take (j + 1) ∧ s.1 = j + 1) (per (tn ks) f0) (fun j x s => (orb (tn ks) f0)[j]? = some x ∧ s.1 = j + 1) (by omega) (by rw [orb_length]; omega)
    (fun B1 B2 Q0 F0 hQ => (around_seq 2 bl b bo bi bp ks (n + 1 : Nat) B1 B2 v Q0 0 f0 F0 hw hf hf0 hL (by omega)).mono (fun xs s hs => ⟨hs.1, by rw [orb_length]; exact hs.2⟩) (fun _ _ h => h))
  rwa [orb_length] at this

end Go.Proofs.YtipelclohcdkcaaGreat

/- look.Degree: what there isn't; nothing. -/
namespace Go.Proofs.YtipelclohcdkcaaGreat
open Go.RowKit
attribute [local go_sem] Oper.semAt_some

end Go.Proofs.YtipelclohcdkcaaGreat

/- look.along, Edges, Asked; ref12.Check. -/
namespace Go.Proofs.YtipelclohcdkcaaGreat
open Go.RowKit

set_option maxRecDepth 100000 in
set_option maxHeartbeats 1000000 in
theorem lookAlong_in {wh wr : World} {bl b bo : Nat} {bi bp : Nat → Nat} {ks : List Nat} {q : Nat} {F : Nat → Prop} {n : Int} (hold : ∀ x, F x → x < wh.heap.size) (h : MixQ wh b bo bi bp ks q F wr) (hb : LkB wh bl b n) (hbF : ¬ F bl) (hw : Wd ks) (i : Nat) (hq : q ≤ 50000000) (hi : i < ks.length) :
    Calls Tryz.prog 126 #[.pointer (some ⟨bl, 0, none⟩), .int .i64 i] wr fun e w' => e = .returned (.int .i64 (tn ks (mp ks i) : Nat)) ∧ MixQ wh b bo bi bp ks (q + 8) F w' := by
  have hM := lookMate_in hold h hb hbF hw i (by omega) hi
  have hm := (hw.mate hi).lt
  have HN : Hid (∀ w1, MixQ wh b bo bi bp ks (q + 4) F w1 → Calls Tryz.prog 128 #[.pointer (some ⟨bl, 0, none⟩), .int .i64 (mp ks i : Nat)] w1 fun e w' => e = .returned (.int .i64 (tn ks (mp ks i) : Nat)) ∧ MixQ wh b bo bi bp ks (q + 4 + 4) F w') := Lib.hid (fun w1 h1 => lookNext_in hold h1 hb hbF hw (mp ks i) (by omega) hm)
  clear h hb hold hw hm
  generalize tn ks (mp ks i) = t at *
  generalize mp ks i = m at *
  go_enter Tryz.func126, Tryz.ntmps126
  go_wp2_with fail
  refine hM.mono ?_
  rintro e w1 ⟨rfl, h1⟩
  have hN := HN.out w1 h1
  clear hM h1
  go_wp2_with fail
  refine hN.mono ?_
  rintro e w2 ⟨rfl, h2⟩
  have HF := Lib.hid h2
  clear hN h2
  go_wp2
  go_ret
  exact ⟨rfl, HF.out⟩

end Go.Proofs.YtipelclohcdkcaaGreat

namespace Go.Proofs.YtipelclohcdkcaaGreat
open Go.RowKit

/-- In one place only bl is turned. -/
theorem LookS.placeq {w w1 : World} {bl b bo : Nat} {bi bp : Nat → Nat} {ks : List Nat} {q : Nat} {F : Nat → Prop} {n m : Nat} (h : LookS w bl b bo bi bp ks q F n) (h1 : LookS w1 bl b bo bi bp ks q F m) (k : Keeps (fun x => x = bl) w w1) : LookQ w bl b bo bi bp ks q F m w1 := by
  have hb := h.lt
  refine ⟨⟨h1.own, h1.mix.mono (fun x hx => .inl hx) (grow_old h.mix.old k.size), fun hx => ?_⟩, k.mono (fun _ _ hx => .inr hx)⟩
  rcases hx with hx | hx
  · exact h.sep hx
  · omega

end Go.Proofs.YtipelclohcdkcaaGreat
