/- look.Face. -/
import Derived.Test.YtipelclohcdkcaaGreatLook8
import Derived.Test.YtipelclohcdkcaaGreatConn
import Derived.Test.YtipelclohcdkcaaGreatVx
namespace Go.Proofs.YtipelclohcdkcaaGreat
open Go.RowKit

/-- While a face is walked: a Look, and the caller's own slice beside it. -/
def FaceS (w : World) (F : Nat → Prop) (bl b bo : Nat) (bi bp : Nat → Nat) (ks : List Nat) (n q : Nat) (zs : List Nat) (ov : Value) (wr : World) : Prop :=
  ∃ F', LookS wr bl b bo bi bp ks q F' n ∧ (∀ x, F' x → F x ∨ w.heap.size ≤ x) ∧ Keeps (fun x => F x ∨ x = bl) w wr ∧ OwnI w.heap.size wr ov (nats zs) ∧ (∀ g, ov.ownBlock = some g → ¬ F' g ∧ g ≠ bl)

section
variable {w wr : World} {F : Nat → Prop} {bl b bo : Nat} {bi bp : Nat → Nat} {ks : List Nat} {n q : Nat} {zs : List Nat} {ov : Value}

theorem FaceS.along (h : FaceS w F bl b bo bi bp ks n q zs ov wr) (hw : Wd ks) (i : Nat) (hq : q ≤ 50000000) (hi : i < ks.length) :
    Calls Tryz.prog 126 #[.pointer (some ⟨bl, 0, none⟩), .int .i64 i] wr fun e w' => e = .returned (.int .i64 (ph ks i : Nat)) ∧ FaceS w F bl b bo bi bp ks n (q + 8) zs ov w' := by
  obtain ⟨F', hS, hF, hk, hown, hsep⟩ := h
  refine (lookAlong_in hS.mix.old hS.mix.after hS.own hS.sep hw i hq hi).mono ?_
  rintro e w' ⟨rfl, hM⟩
  refine ⟨rfl, grow F' wr w', hS.mixq hM, fun x hx => ?_, hk.trans hM.2 (fun x hx hf => ?_), hown.keeps hM.2 (fun g hg => (hsep g hg).1), fun g hg => ⟨fun hx => ?_, (hsep g hg).2⟩⟩
  · rcases hx with hx | hx
    · exact hF x hx
    · have := hk.size; exact .inr (by omega)
  · rcases hF x hf with h1 | h1
    · exact .inl h1
    · omega
  · rcases hx with hx | hx
    · exact (hsep g hg).1 hx
    · have := (hown.lt g hg).2; omega

theorem FaceS.pushed {x : Nat} {g2 cap2 k1 : Nat} {w3 : World} (h : FaceS w F bl b bo bi bp ks n q zs ov wr)
    (ho : OwnI w.heap.size w3 (.slice (some ⟨g2, 0, none⟩) k1 cap2) (nats zs ++ [(x : Int)])) (hk3 : Keeps (fun p => ov.ownBlock = some p) wr w3) (hat : ov.ownBlock = some g2 ∨ wr.heap.size ≤ g2) :
    FaceS w F bl b bo bi bp ks n q (zs ++ [x]) (.slice (some ⟨g2, 0, none⟩) k1 cap2) w3 := by
  obtain ⟨F', hS, hF, hk, hown, hsep⟩ := h
  have hlt := hS.lt
  have hold := hS.mix.old
  refine ⟨F', hS.keeps hk3 (fun y hy he => ?_), hF, hk.trans hk3 (fun y hy he => ?_), by rw [nats_snoc]; exact ho, fun g hg => ?_⟩
  · rcases hy with hy | hy
    · exact (hsep y he).1 hy
    · exact (hsep y he).2 hy
  · have := (hown.lt y he).1; omega
  · simp only [Value.ownBlock, Option.some.injEq] at hg
    subst hg
    rcases hat with h1 | h1
    · exact hsep _ h1
    · exact ⟨fun hx => by have := hold _ hx; omega, by omega⟩

theorem FaceS.more (h : FaceS w F bl b bo bi bp ks n q zs ov wr) {q' : Nat} (hq : q ≤ q') : FaceS w F bl b bo bi bp ks n q' zs ov wr := by
  obtain ⟨F', hS, h2⟩ := h
  exact ⟨F', ⟨hS.own, hS.mix.more hq, hS.sep⟩, h2⟩

end

theorem own_oneB (B : Nat) (w : World) (d : Nat) (hB : B ≤ w.heap.size) : OwnI B (w.alloc (.cells #[.int .i64 d] 3)) (.slice (some ⟨w.heap.size, 0, none⟩) 1 1) (nats [d]) := by
  have h1 := World.ownsRow_lit (base := B) (e := 3) (size := 1) w #[.int .i64 d] 1 hB (by unfold maxLen; omega) rfl
  exact h1

set_option maxRecDepth 100000 in
set_option maxHeartbeats 4000000 in
theorem lookFace_in {w : World} {bl b bo : Nat} {bi bp : Nat → Nat} {ks : List Nat} {q : Nat} {F : Nat → Prop} {n : Nat} (h : LookS w bl b bo bi bp ks q F n) (hn : n ≤ 1000000) (hq : q ≤ 5000000) (hw : Wd ks) (hL : ks.length ≤ 1000) (i : Nat) (hi : i < ks.length) :
    Calls Tryz.prog 42 #[.pointer (some ⟨bl, 0, none⟩), .int .i64 i] w fun e w' => ∃ ov, e = .returned (.tuple #[ov, .int .i64 0]) ∧ FaceS w F bl b bo bi bp ks (n + 1) (q + 8 * ks.length) (orb (ph ks) i) ov w' := by
  have hP := lookPlace_any h hn (i : Int) (by omega)
  have hph := hw.ph_isP
  obtain ⟨p1, p2, p3, p4⟩ := hph.per_spec hi
  have H := Lib.hid (And.intro h (And.intro hph (And.intro p3 (And.intro p4 hw))))
  clear h hph p3 p4 hw
  go_enter Tryz.func42, Tryz.ntmps42
  go_wp2_with fail
  refine hP.mono ?_
  rintro e w1 ⟨⟨c, rfl, hc⟩, hS, hk⟩
  rcases hc with ⟨_, _, rfl⟩ | ⟨hno, rfl⟩
  rotate_left
  · exact absurd ⟨by omega, by omega⟩ hno
  clear hP
  have hF0 : FaceS w F bl b bo bi bp ks (n + 1) q (orbK (ph ks) i 1) (.slice (some ⟨w1.heap.size, 0, none⟩) 1 1) (w1.alloc (.cells #[.int .i64 i] 3)) := by
    have k1 := (Keeps.refl (fun _ => False) w1).alloc (.cells #[.int .i64 i] 3)
    refine ⟨F, hS.keeps k1 (fun _ _ h => h), fun x hx => .inl hx, (hk.mono (fun _ _ hx => .inr hx)).trans k1 (fun _ _ h => h.elim), ?_, fun g hg => ?_⟩
    · exact own_oneB w.heap.size w1 i hk.size
    · simp only [Value.ownBlock, Option.some.injEq] at hg
      subst hg
      exact ⟨fun hx => by have := hS.mix.old _ hx; omega, by have := hS.lt; omega⟩
  have hA := hF0.along H.out.2.2.2.2 i (by omega) hi
  clear hS hk hF0
  go_wp2_with fail
  refine hA.mono ?_
  rintro e w2 ⟨rfl, hF⟩
  clear hA
  go_wp2
  go_loopg [7, 8] (per (ph ks) i) (fun m ov x wr => ∃ k : Nat, k + 1 ≤ per (ph ks) i ∧ m = per (ph ks) i - k ∧ x = .int .i64 (itr (ph ks) (k + 1) i : Nat) ∧ FaceS w F bl b bo bi bp ks (n + 1) (q + 8 * (k + 1)) (orbK (ph ks) i (k + 1)) ov wr)
  case atStart => exact ⟨0, p1, rfl, rfl, hF⟩
  case round =>
    clear hF
    obtain ⟨k, hk, hgk, rfl, hF⟩ := hrel
    have HG := Lib.hid hgk
    clear hgk
    by_cases hlt : k + 1 < per (ph ks) i
    · have hne := H.out.2.2.2.1 (k + 1) (by omega) hlt
      have hxl := H.out.2.1.itr_lt hi (k + 1)
      have hst := orbK_succ (ph ks) i (k + 1)
      have hlen := orbK_length (ph ks) i (k + 1)
      obtain ⟨F', hS, hFF, hkw, hown, hsep⟩ := hF
      have hfo := hown.form
      rw [nats_len, hlen] at hfo
      obtain ⟨la, lc, rfl, _, _⟩ := hfo
      have HFS : Hid (FaceS w F bl b bo bi bp ks (n + 1) (q + 8 * (k + 1)) (orbK (ph ks) i (k + 1)) (.slice la (k + 1) lc) wr) := Lib.hid ⟨F', hS, hFF, hkw, hown, hsep⟩
      have hnx : ph ks (itr (ph ks) (k + 1) i) = itr (ph ks) (k + 1 + 1) i := rfl
      have HX := Lib.hid (And.intro hst hnx)
      clear hst hnx
      obtain ⟨x, hx⟩ : ∃ x, x = itr (ph ks) (k + 1) i := ⟨_, rfl⟩
      rw [← hx] at hne hxl ⊢
      have HXX := Lib.hid hx
      clear hx
      have hnb : (((x : Nat) : Int) != ((i : Nat) : Int)) = true := by rw [bne_iff_ne]; omega
      have HN : Hid ((nats (orbK (ph ks) i (k + 1))).length = k + 1) := Lib.hid (by rw [nats_len]; exact hlen)
      have hsz := hkw.size
      have hkl : k + 1 ≤ 10000000000 := by omega
      clear hS hFF hkw hsep hlen hne
      go_wp2_with (at_builtin; refine append1n (k + 1) rfl _ _ rfl w.heap.size (.slice la (k + 1) lc) (nats (orbK (ph ks) i (k + 1))) (x : Nat) HN wr.heap.size rfl rfl rfl hown hkl hsz ?_; intro g2 cap2 w3 hown3 hk3 hat hg; have hF3 := HFS.out.pushed hown3 hk3 hat; have hA3 := hF3.along H.out.2.2.2.2 x (by omega) hxl; clear hF3 hown3 hk3 hat hg)
      obtain ⟨y, hy⟩ : ∃ y, y = ph ks x := ⟨_, rfl⟩
      rw [← hy] at hA3
      have HY := Lib.hid hy
      clear hy
      refine hA3.mono ?_
      rintro e w4 ⟨rfl, hF4⟩
      have HF := Lib.hid hF4
      clear hA3 hF4 hown
      go_wp2
      go_roundg (per (ph ks) i - (k + 1))
      case measure => rw [HG.out]; omega
      case rel =>
        refine ⟨k + 1, by omega, rfl, ?_, ?_⟩
        · rw [HY.out, HXX.out, HX.out.2]
        · rw [HX.out.1, ← HXX.out]
          exact HF.out
    · have hpe : k + 1 = per (ph ks) i := by omega
      have hx : itr (ph ks) (k + 1) i = i := by rw [hpe]; exact H.out.2.2.1
      have ho : orbK (ph ks) i (k + 1) = orb (ph ks) i := by rw [hpe]; rfl
      rw [ho] at hF
      rw [hx]
      have HF := Lib.hid (And.intro hF hpe)
      clear hx ho hF hpe
      go_wp2
      go_ret2
      refine ⟨_, rfl, HF.out.1.more ?_⟩
      have := HF.out.2
      omega

end Go.Proofs.YtipelclohcdkcaaGreat
