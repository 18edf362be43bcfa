/- turan.right, turan.Check: a word's index, if it is a map's. -/
import Derived.Test.YtipelclohcdkcaaGreatPsOf
namespace Go.Proofs.YtipelclohcdkcaaGreat
open Go.RowKit

/-- No letter of the second sort closes behind a pair that closes first. -/
def CanonOk (ks : List Nat) : Prop := ∀ (i m : Nat) (r : Int), ks[i]? = some 3 → MixMate ks i m → OwnerOf ks i r → ¬ (m : Int) < r

def CanonTo (ks : List Nat) (n : Nat) : Prop := ∀ (i m : Nat) (r : Int), i < n → ks[i]? = some 3 → MixMate ks i m → OwnerOf ks i r → ¬ (m : Int) < r

theorem CanonTo.zero (ks : List Nat) : CanonTo ks 0 := fun i _ _ h => by omega
theorem CanonTo.skip {ks : List Nat} {n k : Nat} (h : CanonTo ks n) (hk : ks[n]? = some k) (h3 : ¬ k = 3) : CanonTo ks (n + 1) := fun i m r hi hx hm hr => by
  rcases Nat.lt_or_ge i n with h1 | h1
  · exact h i m r h1 hx hm hr
  · obtain rfl : i = n := by omega
    rw [hk] at hx
    exact absurd (Option.some.inj hx) h3
theorem CanonTo.step {ks : List Nat} {n m : Nat} {r : Int} (h : CanonTo ks n) (hm : MixMate ks n m) (hr : OwnerOf ks n r) (hle : ¬ (m : Int) < r) : CanonTo ks (n + 1) := fun i m' r' hi hx hm' hr' => by
  rcases Nat.lt_or_ge i n with h1 | h1
  · exact h i m' r' h1 hx hm' hr'
  · obtain rfl : i = n := by omega
    rw [← hm.unique hm', ← hr.unique hr']
    exact hle
theorem CanonTo.all {ks : List Nat} {n : Nat} (h : CanonTo ks n) (hn : ks.length ≤ n) : CanonOk ks := fun i m r hx hm hr => h i m r (Nat.lt_of_lt_of_le (lt_of_get hx) hn) hx hm hr

def RightPost (w : World) (ks : List Nat) (e : Ending) (w' : World) : Prop :=
  (MBal ks ∧ CanonOk ks ∧ ∃ bm bo bi bp, e = .returned (.tuple #[.agg #[.pointer (some ⟨bm, 0, none⟩)], .int .i64 0]) ∧ MixP w' bm bo bi bp ks (11 * ks.length) (fun x => w.heap.size ≤ x ∧ x < w'.heap.size) ∧ Keeps (fun _ => False) w w') ∨
  (¬ MBal ks ∧ e = .returned (.tuple #[.agg #[.pointer none], .int .i64 9]) ∧ Keeps (fun _ => False) w w') ∨
  (MBal ks ∧ ¬ CanonOk ks ∧ e = .returned (.tuple #[.agg #[.pointer none], .int .i64 10]) ∧ Keeps (fun _ => False) w w')

set_option maxRecDepth 100000 in
set_option maxHeartbeats 4000000 in
theorem turanRight_any (p : Value) (ks : List Nat) (w : World) (hl : ks.length ≤ 100000)
    (hI : ∀ W, Keeps (fun _ => False) w W → Calls Tryz.prog 17 #[p] W (IndexPost W ks)) :
    Calls Tryz.prog 134 #[p] w (RightPost w ks) := by
  have k0 := (Keeps.refl (fun _ => False) w).alloc (.cells #[.pointer none] 150)
  have hI0 := hI _ k0
  have hsz : (w.alloc (.cells #[.pointer none] 150)).heap.size = w.heap.size + 1 := by simp
  have hblk := heap_alloc_new w (.cells #[.pointer none] 150)
  clear hI
  go_enter Tryz.func134, Tryz.ntmps134
  go_wp2_with fail
  refine hI0.mono ?_
  clear hI0
  intro e w1 h1
  generalize w.alloc (.cells #[.pointer none] 150) = W at *
  have hg := Lib.hid (rfl : w.heap.size = w.heap.size)
  generalize hgg : w.heap.size = g at hsz hblk ⊢
  have HGG := Lib.hid hgg
  clear hgg hg
  rcases h1 with ⟨hB, bm, bo, bi, bp, rfl, hM, hk1⟩ | ⟨hB, rfl, hk1⟩
  rotate_left
  · have hb1 := hk1.at hblk (fun h => h)
    have c0 : w1.cell? ⟨g, 0, none⟩ = some (.pointer none) := World.cell_of_heap hb1 0
    have c1 := World.free_of_heap hb1 0
    have hc := World.cell_of_heap (heap_setCell_same hb1 0 (.pointer none)) 0
    have hkS := (k0.trans hk1 (fun _ _ h => h)).trans ((Keeps.refl (fun x => x = g) w1).setCell (p := ⟨g, 0, none⟩) (.inl rfl) (.pointer none)) (fun x hx h => by have := HGG.out; omega)
    have HF := Lib.hid (And.intro hB hkS)
    clear k0 hk1 hblk hb1 hsz hkS hB
    go_wp2
    refine bodyPost_ret (v := .tuple #[.agg #[.pointer none], .int .i64 9]) ?_ rfl (.inr (.inl ⟨HF.out.1, rfl, HF.out.2⟩))
    simp [results, Tryz.results134, go_sem, hc]
  · have hb1 := hk1.at hblk (fun h => h)
    have hM0 := hM.after
    have hold := hM.old
    have hk4 := hM.k4
    have hML := fun n => (mixLen_any (hM.keeps ((Keeps.refl (fun _ => False) w1).drewN n) (fun _ _ h => h)))
    clear hM
    obtain ⟨F, hFE⟩ : ∃ F : Nat → Prop, F = (fun x => W.heap.size ≤ x ∧ x < w1.heap.size) := ⟨_, rfl⟩
    rw [← hFE] at hM0
    have holdF : ∀ x, F x → x < w1.heap.size := by rw [hFE]; exact hold
    have HFE := Lib.hid hFE
    clear hold
    clear hFE
    go_wp2_with fail
    refine (hML 0).mono ?_
    rintro e w2 ⟨rfl, rfl⟩
    clear hML
    go_wp2_with fail
    generalize hn : ks.length = n at *
    go_loopg [22] n (fun m t wr => ∃ k : Nat, k ≤ n ∧ m = n - k ∧ t = .int .i64 k ∧ CanonTo ks k ∧ MixQ w1 bm bo bi bp ks (11 * k) F wr)
    case atStart => exact ⟨0, Nat.zero_le _, rfl, rfl, CanonTo.zero _, hM0.drewN 0⟩
    case round =>
      obtain ⟨k, hk, hgk, rfl, hC, hM⟩ := hrel
      clear hM0
      by_cases hlt : k < n
      · have hx := List.getElem?_eq_getElem (l := ks) (i := k) (by omega)
        obtain ⟨x, hxe⟩ : ∃ x, x = ks[k]'(by omega) := ⟨_, rfl⟩
        rw [← hxe] at hx
        clear hxe
        have hA := mixAt_in hM.1 k x hx
        by_cases h3 : x = 3
        · subst h3
          obtain ⟨m, hm⟩ := hB.mate hk4 (show k < ks.length by omega)
          obtain ⟨r, hr⟩ := hB.owner (i := k) (by omega)
          have hM1 := fun n => mixMate_in holdF (hM.drewN n) k m (by omega) hm
          have HH := Lib.hid (And.intro hgk (And.intro hC (And.intro hx (And.intro hm hr))))
          have hb2 := hk1.at hblk (fun h => h)
          clear hM hgk hC
          go_wp2_with fail
          refine hA.mono ?_
          rintro e w3 ⟨rfl, nq, rfl⟩
          clear hA
          go_wp2_with fail
          refine (hM1 nq).mono ?_
          rintro e w4 ⟨rfl, hM4⟩
          clear hM1
          have hO := mixOwner_in holdF hM4 k r (by omega) (by omega) hr
          clear hM4
          go_wp2_with fail
          refine hO.mono ?_
          rintro e w5 ⟨rfl, hM5⟩
          clear hO
          by_cases hle : (m : Int) < r
          · have hb5 := (hM5.2).at hb2 (fun h => by rw [HFE.out] at h; omega)
            have c0 : w5.cell? ⟨g, 0, none⟩ = some (.pointer none) := World.cell_of_heap hb5 0
            have c1 := World.free_of_heap hb5 0
            have hc := World.cell_of_heap (heap_setCell_same hb5 0 (.pointer none)) 0
            have hkS := ((k0.trans hk1 (fun _ _ h => h)).trans hM5.2 (fun x hx h => by rw [HFE.out] at h; have := HGG.out; omega)).trans ((Keeps.refl (fun x => x = g) w5).setCell (p := ⟨g, 0, none⟩) (.inl rfl) (.pointer none)) (fun x hx h => by have := HGG.out; omega)
            have HF := Lib.hid (And.intro hB hkS)
            clear k0 hk1 hblk hb1 hb2 hb5 hsz hkS hB hM5
            go_wp2
            refine bodyPost_ret (v := .tuple #[.agg #[.pointer none], .int .i64 10]) ?_ rfl (.inr (.inr ⟨HF.out.1, fun hC => hC k m r HH.out.2.2.1 HH.out.2.2.2.1 HH.out.2.2.2.2 hle, rfl, HF.out.2⟩))
            simp [results, Tryz.results134, go_sem, hc]
          · have HG := Lib.hid (And.intro HH.out.1 (And.intro (HH.out.2.1.step hm hr hle) (hM5)))
            clear hM5
            go_wp2
            go_roundg (n - (k + 1))
            case measure => rw [HG.out.1]; omega
            case rel => exact ⟨k + 1, by omega, rfl, by go_num, HG.out.2.1, HG.out.2.2.more (by omega)⟩
        · have h3' : ¬ (x : Int) = 3 := by omega
          go_wp2_with fail
          refine hA.mono ?_
          rintro e w3 ⟨rfl, nq, rfl⟩
          have HG := Lib.hid (And.intro hgk (And.intro (hC.skip hx h3) (hM.drewN nq)))
          clear hA hM hC hgk
          go_wp2
          go_roundg (n - (k + 1))
          case measure => rw [HG.out.1]; omega
          case rel => exact ⟨k + 1, by omega, rfl, by go_num, HG.out.2.1, HG.out.2.2.more (by omega)⟩
      · have hb5 := (hM.2).at (hk1.at hblk (fun h => h)) (fun h => by rw [HFE.out] at h; omega)
        have c0 : wr.cell? ⟨g, 0, none⟩ = some (.pointer none) := World.cell_of_heap hb5 0
        have c1 := World.free_of_heap hb5 0
        have hc := World.cell_of_heap (heap_setCell_same hb5 0 (.pointer (some ⟨bm, 0, none⟩))) 0
        have k1 := (Keeps.refl (fun x => x = g) wr).setCell (p := ⟨g, 0, none⟩) (.inl rfl) (.pointer (some ⟨bm, 0, none⟩))
        have hkS := ((k0.trans hk1 (fun _ _ h => h)).trans hM.2 (fun x hx h => by rw [HFE.out] at h; have := HGG.out; omega)).trans k1 (fun x hx h => by have := HGG.out; omega)
        have hgr : ∀ x, grow F w1 wr x → g < x ∧ x < wr.heap.size := fun x hx => by
          rcases hx with h | h
          · have := hM.2.size
            rw [HFE.out] at h; omega
          · have := hk1.size
            omega
        have hMS := (hM.1.keeps k1 (fun x hx h => by have := hgr x hx; omega)).mono (G := fun x => w.heap.size ≤ x ∧ x < (wr.setCell ⟨g, 0, none⟩ (.pointer (some ⟨bm, 0, none⟩))).heap.size) (fun x hx => by have := hgr x hx; have := HGG.out; simp; omega) (fun x hx => hx.2)
        have HF := Lib.hid (And.intro hB (And.intro (hC.all (by omega)) (And.intro (hMS.more (q' := 11 * n) (by omega)) hkS)))
        clear k0 hk1 hblk hb1 hb5 hsz hkS hB hM k1 hMS hgr hC
        go_wp2
        refine bodyPost_ret (v := .tuple #[.agg #[.pointer (some ⟨bm, 0, none⟩)], .int .i64 0]) ?_ rfl (.inl ⟨HF.out.1, HF.out.2.1, bm, bo, bi, bp, rfl, by rw [hn]; exact HF.out.2.2.1, HF.out.2.2.2⟩)
        simp [results, Tryz.results134, go_sem, hc]

/-- What Check says. -/
def CheckPost (w : World) (ks : List Nat) (e : Ending) (w' : World) : Prop :=
  ∃ c : Nat, e = .returned (.int .i64 c) ∧ (MBal ks ∧ CanonOk ks ∧ c = 0 ∨ ¬ MBal ks ∧ c = 9 ∨ MBal ks ∧ ¬ CanonOk ks ∧ c = 10) ∧ Keeps (fun _ => False) w w'

set_option maxRecDepth 100000 in
set_option maxHeartbeats 1000000 in
theorem turanCheck_any (p : Value) (ks : List Nat) (w : World) (hl : ks.length ≤ 100000)
    (hI : ∀ W, Keeps (fun _ => False) w W → Calls Tryz.prog 17 #[p] W (IndexPost W ks)) :
    Calls Tryz.prog 59 #[p] w (CheckPost w ks) := by
  have hR := turanRight_any p ks w hl hI
  clear hI
  go_enter Tryz.func59, Tryz.ntmps59
  go_wp2_with fail
  refine hR.mono ?_
  clear hR
  intro e w1 h1
  rcases h1 with ⟨hB, hC, bm, bo, bi, bp, rfl, hM, hk1⟩ | ⟨hB, rfl, hk1⟩ | ⟨hB, hC, rfl, hk1⟩
  · have HF := Lib.hid (And.intro hB (And.intro hC (hk1.alloc (.cells #[.pointer (some ⟨bm, 0, none⟩)] 150))))
    clear hB hC hM hk1
    go_wp2
    go_ret
    exact ⟨0, rfl, .inl ⟨HF.out.1, HF.out.2.1, rfl⟩, HF.out.2.2⟩
  · have HF := Lib.hid (And.intro hB (hk1.alloc (.cells #[.pointer none] 150)))
    clear hB hk1
    go_wp2
    go_ret
    exact ⟨9, rfl, .inr (.inl ⟨HF.out.1, rfl⟩), HF.out.2⟩
  · have HF := Lib.hid (And.intro hB (And.intro hC (hk1.alloc (.cells #[.pointer none] 150))))
    clear hB hC hk1
    go_wp2
    go_ret
    exact ⟨10, rfl, .inr (.inr ⟨HF.out.1, HF.out.2.1, rfl⟩), HF.out.2.2⟩

end Go.Proofs.YtipelclohcdkcaaGreat
