/- look: place, number, Vertices, vertex. -/
import Derived.Test.YtipelclohcdkcaaGreatLook2
namespace Go.Proofs.YtipelclohcdkcaaGreat
open Go.RowKit

/-- A question is counted. -/
theorem lookCount_any (bl b : Nat) (n : Nat) (w : World) (hb : LkB w bl b n) (hn : n ≤ 1000000) :
    Calls Tryz.prog 162 #[.pointer (some ⟨bl, 1, none⟩), .int .i64 1] w fun e w' => e = .returned (.int .i64 (n + 1 : Nat)) ∧ LkB w' bl b (n + 1 : Nat) ∧ Keeps (fun x => x = bl) w w' := by
  have hc := hb.c1
  have hz := World.free_of_heap hb 1
  have hs : (Op.intArith .add .i64 (n : Int) 1).run Tryz.prog w = .ok (.int .i64 ((n + 1 : Nat) : Int)) w := by
    have h1 : IntKind.i64.wrap ((n : Int) + 1) = ((n + 1 : Nat) : Int) := by rw [IntKind.wrap_i64]; omega
    rw [← h1]
    rfl
  have hadd := run_call_add (P := Tryz.prog) Tryz.func195 (by kernel_rfl) (by kernel_rfl) (by kernel_rfl) .i64 (by kernel_rfl) (y := 1) (s := (n + 1 : Nat)) hc hz hs
  have hset : LkB (w.setCell ⟨bl, 1, none⟩ (.int .i64 (n + 1 : Nat))) bl b (n + 1 : Nat) := heap_setCell_same hb 1 _
  have hk := (Keeps.refl (fun x => x = bl) w).setCell (p := ⟨bl, 1, none⟩) (.inl rfl) (.int .i64 (n + 1 : Nat))
  have HF := Lib.hid (And.intro hset hk)
  clear hset hk hb
  generalize (n + 1 : Nat) = n1 at *
  go_enter Tryz.func162, Tryz.ntmps162
  go_wp2
  go_ret
  exact ⟨rfl, HF.out⟩

section
variable {wh wr : World} {bl b bo : Nat} {bi bp : Nat → Nat} {ks : List Nat} {q : Nat} {F : Nat → Prop} {n : Int} (hold : ∀ x, F x → x < wh.heap.size) (h : MixQ wh b bo bi bp ks q F wr) (hb : LkB wh bl b n) (hbF : ¬ F bl)
include hold h hb hbF

/-- How many vertices. -/
def nvK (ks : List Nat) : Nat := cntK ks 0 + 1

set_option maxRecDepth 100000 in
set_option maxHeartbeats 1000000 in
theorem lookVertices_any (hq : q ≤ 50000000) :
    Calls Tryz.prog 41 #[.pointer (some ⟨bl, 0, none⟩)] wr fun e w' => e = .returned (.int .i64 (nvK ks : Nat)) ∧ MixQ wh b bo bi bp ks (q + 2) F w' := by
  have hle := h.1.le
  have hc : ∀ q' w1, MixQ wh b bo bi bp ks q' F w1 → w1.cell? ⟨bl, 0, none⟩ = some (.pointer (some ⟨b, 0, none⟩)) := fun q' w1 h1 => (hb.keeps h1.2 hbF).c0
  have c0 : wr.drew.cell? ⟨bl, 0, none⟩ = some (.pointer (some ⟨b, 0, none⟩)) := hc _ _ h.drew
  have hL := mixLen_any h.drew.1
  have hR := mixRank_in hold h.drew 0 ks.length (by omega) (by omega) (Nat.le_refl _)
  rw [List.take_of_length_le (Nat.le_refl _)] at hR
  have hcl := cntK_le ks 0
  have HC := Lib.hid hc
  clear h hb hold hc
  unfold nvK
  generalize cntK ks 0 = c at *
  generalize hN : ks.length = N at *
  have HN := Lib.hid hN
  clear hN
  go_enter Tryz.func41, Tryz.ntmps41
  go_wp2
  go_region_held3 (fun w' => w'.cell? ⟨bl, 0, none⟩ = some (.pointer (some ⟨b, 0, none⟩))) (first | exact c0 | exact d0) (first | (go_at_call 24; refine hL.mono ?_; rintro e w' ⟨rfl, rfl⟩) | (go_at_call 21; refine hR.mono ?_; rintro e w' ⟨rfl, h2⟩; have d0 := HC.out _ _ h2))
  have HF := Lib.hid h2
  clear h2 d0 hL hR c0
  go_wp2
  go_ret
  exact ⟨rfl, HF.out⟩

/-- The vertex of a place, by the owner of the place. -/
def vxO (ks : List Nat) (r : Int) : Nat := if r < 0 then 0 else cntK (ks.take r.toNat) 0 + 1

set_option maxRecDepth 100000 in
set_option maxHeartbeats 1000000 in
theorem lookVertex_in (i : Nat) (r : Int) (hq : q ≤ 9000000) (hi : i < ks.length) (hr : OwnerOf ks i r) :
    Calls Tryz.prog 123 #[.pointer (some ⟨bl, 0, none⟩), .int .i64 i] wr fun e w' => e = .returned (.int .i64 (vxO ks r : Nat)) ∧ MixQ wh b bo bi bp ks (q + 9) F w' := by
  have hle := h.1.le
  have hc : ∀ q' w1, MixQ wh b bo bi bp ks q' F w1 → w1.cell? ⟨bl, 0, none⟩ = some (.pointer (some ⟨b, 0, none⟩)) := fun q' w1 h1 => (hb.keeps h1.2 hbF).c0
  have c0 := hc _ _ h
  have hO := mixOwner_in hold h i r (by omega) hi hr
  have hR := fun w1 (h1 : MixQ wh b bo bi bp ks (q + 7) F w1) (m : Nat) (hm : m ≤ ks.length) => mixRank_in hold h1 0 m (by omega) (by omega) hm
  have HC := Lib.hid (And.intro hc hR)
  have hcase : r = -1 ∨ ∃ o : Nat, r = o ∧ o < ks.length := by
    rcases hr with ⟨_, h1⟩ | ⟨_, o, n, _, h2, h3⟩
    · exact .inl h1
    · obtain ⟨_, h4, _⟩ := h2
      exact .inr ⟨n, h3, lt_of_get h4⟩
  clear h hb hold hc hR hr
  rcases hcase with rfl | ⟨o, rfl, ho⟩
  · go_enter Tryz.func123, Tryz.ntmps123
    go_wp2_with fail
    refine hO.mono ?_
    rintro e w1 ⟨rfl, h1⟩
    have HF := Lib.hid (h1.more (q' := q + 9) (by omega))
    clear hO c0 h1
    go_wp2
    go_ret
    exact ⟨rfl, HF.out⟩
  · have hv : vxO ks (o : Int) = cntK (ks.take o) 0 + 1 := by unfold vxO; rw [if_neg (by omega)]; simp
    rw [hv]
    clear hv
    have hcl := cntK_le (ks.take o) 0
    have htl := List.length_take_le o ks
    obtain ⟨c, hcc⟩ : ∃ c, c = cntK (ks.take o) 0 := ⟨_, rfl⟩
    rw [← hcc] at hcl ⊢
    have HCC := Lib.hid hcc
    clear hcc
    go_enter Tryz.func123, Tryz.ntmps123
    go_wp2_with fail
    refine hO.mono ?_
    rintro e w1 ⟨rfl, h1⟩
    have d0 := HC.out.1 _ _ h1
    have hR := HC.out.2 w1 h1 o (by omega)
    rw [← HCC.out] at hR
    clear hO c0 h1
    go_wp2_with fail
    refine hR.mono ?_
    rintro e w2 ⟨rfl, h2⟩
    have HF := Lib.hid h2
    clear hR h2 d0
    go_wp2
    go_ret
    exact ⟨rfl, HF.out⟩

end

end Go.Proofs.YtipelclohcdkcaaGreat
