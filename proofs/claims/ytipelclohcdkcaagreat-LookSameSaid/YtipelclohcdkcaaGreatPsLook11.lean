/- law13.of: a Look of letters. -/
import Derived.Test.YtipelclohcdkcaaGreatPsLook9
/- look.Face: what there isn't; Edges. -/
namespace Go.Proofs.YtipelclohcdkcaaGreat
open Go.RowKit

end Go.Proofs.YtipelclohcdkcaaGreat

namespace Go.Proofs.YtipelclohcdkcaaGreat
open Go.RowKit

set_option maxRecDepth 100000 in
set_option maxHeartbeats 1000000 in
theorem of13_any (sv : Value) (ks : List Nat) (w : World) (hs : Sl .i64 w sv (nats ks)) (hsv : ∀ k, sv.ownBlock = some k → k < w.heap.size) (h4 : ∀ k ∈ ks, k < 4) (hl : ks.length ≤ 50000) (hB : MBal ks) (hC : CanonOk ks) :
    Calls Tryz.prog 118 #[sv] w fun e w' => ∃ bl b bo bi bp F, e = .returned (.pointer (some ⟨bl, 0, none⟩)) ∧ LookS w' bl b bo bi bp ks 0 F 0 ∧ (∀ x, F x → w.heap.size ≤ x) ∧ w.heap.size ≤ bl ∧ Keeps (fun _ => False) w w' := by
  have k0 := (Keeps.refl (fun _ => False) w).alloc (.cells #[.slice none 0 0] 119)
  have hA := wordAdd_good w.heap.size (.slice none 0 0) [] sv (nats ks) _ (word_new w) (hs.keeps k0 (fun _ _ h => h)) (Kinds4.of h4) (fun k hk => ⟨by have := hsv k hk; omega, by simp [Value.ownBlock]⟩) (by rw [nats_len]; simp; omega)
  rw [toKs_nats, List.nil_append] at hA
  have HB := Lib.hid (And.intro hB hC)
  clear hs hB hC
  go_enter Tryz.func118, Tryz.ntmps118
  go_wp2_with fail
  refine (wordNew_any _).mono ?_
  rintro e w1 ⟨rfl, rfl⟩
  go_wp2_with fail
  refine hA.mono ?_
  rintro e w2 ⟨rfl, hgr⟩
  obtain ⟨v2, hv2, hb2, hvb2, hk2⟩ := ParS.grown (Nat.le_refl _) (fun k hk => by simp [Value.ownBlock] at hk) k0 hgr
  have hBits := wordBits_any _ v2 ks w2 hv2 h4 (by omega)
  clear hA k0 hgr
  go_wp2_with fail
  refine hBits.mono ?_
  rintro e w3 ⟨b3, rfl, v3, hv3, hb3, hvb3, hk3⟩
  clear hBits
  have hwl := wbits_length ks
  have hO := mixOf_even b3 v3 (wbits ks) w3 hv3 (by omega) (by omega)
  rw [pairK_wbits ks h4] at hO
  have hLk := lookOf_any _ ks w3 h4 (by omega) hO
  have hk := hk2.trans hk3 (fun _ _ h => h)
  clear hO hwl hv2 hb2 hvb2 hk2 hk3 hv3 hb3 hvb3
  go_wp2_with fail
  refine hLk.mono ?_
  clear hLk
  intro e w4 h4'
  rcases h4' with ⟨_, _, bl, bm, bo, bi, bp, F, rfl, hLB, hM, hnF, hFw, hbl, hk4⟩ | ⟨c, hc, _⟩
  · have hsz := hk.size
    have HF := Lib.hid (And.intro (LookS.mk (n := 0) hLB hM hnF) (And.intro (fun x hx => Nat.le_trans hsz (hFw x hx) : ∀ x, F x → w.heap.size ≤ x) (hk.trans hk4 (fun _ _ h => h))))
    have hbl2 : w.heap.size ≤ bl := by omega
    clear hLB hM hnF hFw hk hk4 hbl
    go_wp2
    go_ret
    exact ⟨bl, bm, bo, bi, bp, F, rfl, HF.out.1, HF.out.2.1, hbl2, HF.out.2.2⟩
  · rcases hc with ⟨h, _⟩ | ⟨_, h, _⟩
    · exact absurd HB.out.1 h
    · exact absurd HB.out.2 h

end Go.Proofs.YtipelclohcdkcaaGreat
