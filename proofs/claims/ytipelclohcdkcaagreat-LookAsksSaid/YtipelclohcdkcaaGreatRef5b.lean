/- The references of layers 5, 6: mates, inverses, names. -/
import Derived.Test.YtipelclohcdkcaaGreatRef5
namespace Go.Proofs.YtipelclohcdkcaaGreat
open Go.RowKit

theorem Sl.cellAt {k : IntKind} {w : World} {a : Option Addr} {n cap : Nat} {zs : List Int} (h : Sl k w (.slice a n cap) zs) {j : Nat} {z : Int} (hz : zs[j]? = some z) : ∃ g off, a = some ⟨g, off, none⟩ ∧ w.cell? ⟨g, off + j, none⟩ = some (.int k z) := by
  obtain ⟨a', cap', hq, _, _, _, hc⟩ := h
  simp only [Value.slice.injEq] at hq
  obtain ⟨rfl, -, rfl⟩ := hq
  exact hc j z hz

theorem Sl.cellOf {k : IntKind} {w : World} {g off n cap : Nat} {zs : List Int} (h : Sl k w (.slice (some ⟨g, off, none⟩) n cap) zs) {j : Nat} {z : Int} (hz : zs[j]? = some z) : w.cell? ⟨g, off + j, none⟩ = some (.int k z) := by
  obtain ⟨g', off', hq, hc⟩ := h.cellAt hz
  simp only [Option.some.injEq, Addr.mk.injEq, and_true] at hq
  obtain ⟨rfl, rfl⟩ := hq
  exact hc

theorem Sl.form {k : IntKind} {w : World} {sv : Value} {zs : List Int} (h : Sl k w sv zs) : ∃ a cap, sv = .slice a zs.length cap ∧ zs.length ≤ cap ∧ cap ≤ 9223372036854775807 := by
  obtain ⟨a, cap, h1, h2, h3, _⟩ := h
  exact ⟨a, cap, h1, h2, h3⟩

theorem nats_at {s : List Nat} {d : Nat} (h : d < s.length) : (nats s)[d]? = some ((sg s d : Nat) : Int) := nats_get (sg_get h)

theorem refMate06_any (d : Nat) (w : World) (hd : d ≤ 1000000000) :
    Calls Tryz.prog 180 #[.int .i64 d] w fun e w' => e = .returned (.int .i64 (mt d : Nat)) ∧ w = w' := by
  unfold mt
  by_cases hp : d % 2 = 0
  · rw [if_pos hp]
    have e1 : (((d : Nat) : Int) % 2 == 0) = true := by simp; omega
    have HE : Hid ((((d + 1 : Nat)) : Int) = (d : Int) + 1) := Lib.hid (by omega)
    clear hp
    go_enter Tryz.func180, Tryz.ntmps180
    go_wp2
    go_ret
    exact ⟨by rw [HE.out]; rfl, rfl⟩
  · rw [if_neg hp]
    have e1 : (((d : Nat) : Int) % 2 == 0) = false := by simp; omega
    have HE : Hid ((((d - 1 : Nat)) : Int) = (d : Int) - 1) := Lib.hid (by omega)
    have h1 : 1 ≤ (d : Int) := by omega
    clear hp
    go_enter Tryz.func180, Tryz.ntmps180
    go_wp2
    go_ret
    exact ⟨by rw [HE.out]; rfl, rfl⟩

/-- Who goes there. -/
noncomputable def invP (S : Nat → Nat) (e : Nat) : Nat := itr S (per S e - 1) e

theorem IsP.inv_lt {n : Nat} {S : Nat → Nat} (h : IsP n S) {e : Nat} (he : e < n) : invP S e < n := h.itr_lt he _
theorem IsP.inv_to {n : Nat} {S : Nat → Nat} (h : IsP n S) {e : Nat} (he : e < n) : S (invP S e) = e := by
  have h0 := (h.per_spec he).1
  have : itr S (per S e - 1 + 1) e = e := by rw [Nat.sub_add_cancel h0]; exact (h.per_spec he).2.2.1
  exact this
theorem IsP.inv_of {n : Nat} {S : Nat → Nat} (h : IsP n S) {d : Nat} (hd : d < n) : invP S (S d) = d :=
  h.inj _ _ (h.inv_lt (h.lt d hd)) hd (h.inv_to (h.lt d hd))

/-- What Inverse has laid when the first j have been taken. -/
def InvS (s : List Nat) (j : Nat) (zs : List Int) : Prop := zs.length = s.length ∧ ∀ i, i < j → zs[sg s i]? = some (i : Int)

theorem InvS.step {s : List Nat} {j : Nat} {zs : List Int} (hP : IsP s.length (sg s)) (hj : j < s.length) (h : InvS s j zs) : InvS s (j + 1) (zs.set (sg s j) (j : Int)) := by
  obtain ⟨h1, h2⟩ := h
  refine ⟨by simpa using h1, fun i hi => ?_⟩
  rw [List.getElem?_set]
  by_cases hij : i = j
  · subst hij
    have := hP.lt i hj
    have hb : sg s i < s.length := this
    simp [h1, hb]
  · rw [if_neg (fun e => hij (hP.inj _ _ (by omega) hj e.symm))]
    exact h2 i (by omega)

theorem InvS.done {s : List Nat} {zs : List Int} (hP : IsP s.length (sg s)) (h : InvS s s.length zs) : zs = nats ((List.range s.length).map (invP (sg s))) := by
  apply List.ext_getElem?
  intro e
  rcases Nat.lt_or_ge e s.length with he | he
  · have h1 := h.2 (invP (sg s) e) (hP.inv_lt he)
    rw [hP.inv_to he] at h1
    rw [h1]
    simp [nats, he]
  · rw [List.getElem?_eq_none (by rw [h.1]; exact he), List.getElem?_eq_none (by simp [nats]; exact he)]

/-- A slice of so many ints that a call has made at block g: what it holds. -/
def MadeS (w : World) (g n : Nat) (P : List Int → Prop) (wr : World) : Prop :=
  ∃ zs, zs.length = n ∧ P zs ∧ OwnI w.heap.size wr (.slice (some ⟨g, 0, none⟩) n n) zs ∧ Keeps (fun _ => False) w wr

theorem MadeS.made (w : World) (n : Nat) (P : List Int → Prop) (hP : P (List.replicate n 0)) (hn : n ≤ 100000000) : MadeS w w.heap.size n P (w.alloc (.cells (madeCells #[.int .i64 0] n) 3)) :=
  ⟨_, by simp, hP, OwnI.made w.heap.size w n (Nat.le_refl _) hn, (Keeps.refl _ w).alloc _⟩

theorem MadeS.old {w wr : World} {g n : Nat} {P : List Int → Prop} (h : MadeS w g n P wr) : w.heap.size ≤ g ∧ g < wr.heap.size := by
  obtain ⟨zs, _, _, h3, _⟩ := h
  exact h3.lt g rfl

/-- A store into it. -/
theorem MadeS.set {w wr : World} {g n : Nat} {P Q : List Int → Prop} (h : MadeS w g n P wr) (i : Nat) (z : Int) (hQ : ∀ zs, zs.length = n → P zs → Q (zs.set i z)) : MadeS w g n Q (wr.setCell ⟨g, i, none⟩ (.int .i64 z)) := by
  have ho := h.old.1
  obtain ⟨zs, h1, h2, h3, h4⟩ := h
  exact ⟨zs.set i z, by simpa using h1, hQ zs h1 h2, h3.set i z, h4.setCell (.inr ho) _⟩

theorem MadeS.keeps {w wr w1 : World} {g n : Nat} {P : List Int → Prop} (h : MadeS w g n P wr) (hk : Keeps (fun _ => False) wr w1) : MadeS w g n P w1 := by
  obtain ⟨zs, h1, h2, h3, h4⟩ := h
  exact ⟨zs, h1, h2, h3.keeps hk (fun _ _ h => h), h4.trans hk (fun _ _ h => h)⟩

theorem MadeS.cell {w wr : World} {g n : Nat} {P : List Int → Prop} (h : MadeS w g n P wr) (i : Nat) (hi : i < n) : ∃ z : Int, (∃ zs, zs.length = n ∧ P zs ∧ zs[i]? = some z) ∧ wr.cell? ⟨g, i, none⟩ = some (.int .i64 z) ∧ wr.frozen? ⟨g, i, none⟩ = false := by
  obtain ⟨zs, h1, h2, h3, h4⟩ := h
  have hz := List.getElem?_eq_getElem (l := zs) (i := i) (by omega)
  exact ⟨_, ⟨zs, h1, h2, hz⟩, h3.cell hz⟩

theorem MadeS.mono {w wr : World} {g n : Nat} {P Q : List Int → Prop} (h : MadeS w g n P wr) (hQ : ∀ zs, zs.length = n → P zs → Q zs) : MadeS w g n Q wr := by
  obtain ⟨zs, h1, h2, h3⟩ := h
  exact ⟨zs, h1, hQ zs h1 h2, h3⟩

set_option maxRecDepth 100000 in
set_option maxHeartbeats 2000000 in
theorem refInverse_any (sv : Value) (s : List Nat) (w : World) (hs : Sl .i64 w sv (nats s)) (hP : IsP s.length (sg s)) (hl : s.length ≤ 1000000) :
    Calls Tryz.prog 179 #[sv] w fun e w' => ∃ g, e = .returned (.slice (some ⟨g, 0, none⟩) s.length s.length) ∧ MadeS w g s.length (fun zs => zs = nats ((List.range s.length).map (invP (sg s)))) w' := by
  have HS : Hid (∀ W, Keeps (fun _ => False) w W → Sl .i64 W sv (nats s)) := Lib.hid (fun W hk => hs.keeps hk (fun _ _ h => h))
  obtain ⟨a, cap, rfl, hnc, hcm⟩ := hs.form
  rw [nats_len] at hnc HS ⊢
  have h0 := MadeS.made w s.length (InvS s 0) ⟨by simp, fun i hi => by omega⟩ (by omega)
  have HP := Lib.hid hP
  obtain ⟨i, hi, hz0, hz1, hz2⟩ := info_parts infoInt
  have hmk := fun w => run_make (P := Tryz.prog) w 22 3 i _ Tryz.underlying22 hi hz0 .i64 .i64 (s.length : Int) (s.length : Int) (by omega) (Int.le_refl _) (by rw [hz2]; omega) (by omega)
  simp only [hz1, Int.toNat_natCast, Nat.mul_one] at hmk
  clear hP hs hi hz0 hz1 hz2
  go_enter Tryz.func179, Tryz.ntmps179
  go_wp2_with fail
  clear hmk
  generalize World.alloc _ _ = wM at *
  obtain ⟨g, hg⟩ : ∃ g, g = w.heap.size := ⟨_, rfl⟩
  rw [← hg] at h0
  rw [← hg]
  clear hg
  go_loopg [11] s.length (fun m i wr => ∃ j : Nat, j ≤ s.length ∧ m = s.length - j ∧ i = .int .i64 j ∧ MadeS w g s.length (InvS s j) wr)
  case atStart => exact ⟨0, Nat.zero_le _, rfl, rfl, h0⟩
  case round =>
    clear h0
    obtain ⟨j, hj, hgk, rfl, hM⟩ := hrel
    have HG := Lib.hid hgk
    clear hgk
    by_cases hlt : j < s.length
    · obtain ⟨_, _, _, _, hkw⟩ := id hM
      obtain ⟨gs, off, rfl, hcell⟩ := (HS.out wr hkw).cellAt (nats_at hlt)
      have hxl : sg s j < s.length := HP.out.lt j hlt
      obtain ⟨z, _, hc, hf⟩ := hM.cell (sg s j) hxl
      have hN := hM.set (sg s j) (j : Int) (fun zs _ h => h.step HP.out hlt)
      have HN := Lib.hid hN
      clear hN hM hkw
      generalize sg s j = x at *
      go_wp2
      go_roundg (s.length - (j + 1))
      case measure => rw [HG.out]; omega
      case rel => exact ⟨j + 1, by omega, rfl, by go_num, HN.out⟩
    · obtain rfl : j = s.length := by omega
      have HF := Lib.hid (hM.mono (fun zs _ h => h.done HP.out))
      clear hM
      go_wp2
      go_ret
      exact ⟨g, rfl, HF.out⟩

end Go.Proofs.YtipelclohcdkcaaGreat
