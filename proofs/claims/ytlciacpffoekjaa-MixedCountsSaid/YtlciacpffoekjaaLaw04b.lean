/- Layer 4's statements: the plain laws of MixedSorts. -/
import Derived.Test.YtlciacpffoekjaaLaw04a
namespace Go.Proofs.Ytlciacpffoekjaa
open Go.RowKit

theorem sum4 {ks : List Nat} (h4 : ∀ k ∈ ks, k < 4) (n : Nat) (hn : n ≤ ks.length) : cntK (ks.take n) 0 + cntK (ks.take n) 1 + cntK (ks.take n) 2 + cntK (ks.take n) 3 = n := by
  induction n with
  | zero => simp [cntK]
  | succ n ih =>
    have ih := ih (by omega)
    have hk := List.getElem?_eq_getElem (l := ks) (i := n) (by omega)
    have hk4 := h4 _ (List.mem_of_getElem? hk)
    rw [cntK_get hk, cntK_get hk, cntK_get hk, cntK_get hk]
    generalize ks[n] = k at *
    have : k = 0 ∨ k = 1 ∨ k = 2 ∨ k = 3 := by omega
    rcases this with rfl | rfl | rfl | rfl <;> simp <;> omega

theorem MBal.more {ks : List Nat} (h : MBal ks) (n : Nat) (hn : n ≤ ks.length) : cntK (ks.take n) 1 ≤ cntK (ks.take n) 0 ∧ cntK (ks.take n) 3 ≤ cntK (ks.take n) 2 := by
  have h0 : ex (ownB 0 ks) (pr 0 ks n) = cntK (ks.take n) 0 - (cntK (ks.take n) 1 : Int) := (count_own (ks := ks) 0 n hn).2
  have h1 : ex (ownB 1 ks) (pr 1 ks n) = cntK (ks.take n) 2 - (cntK (ks.take n) 3 : Int) := (count_own (ks := ks) 1 n hn).2
  have a0 := h.1.2 _ (pr_le 0 ks n hn)
  have a1 := h.2.2 _ (pr_le 1 ks n hn)
  omega

/-- Who owns a place stands ahead of it, and its mate behind. -/
theorem owner_law {ks : List Nat} (h : MBal ks) {k x : Nat} {r : Int} (hx : ks[k]? = some x) (hr : OwnerOf ks k r) :
    (r = -1 ∧ cntK (ks.take k) 0 = cntK (ks.take k) 1) ∨
    ∃ o c : Nat, r = o ∧ o < k ∧ ks[o]? = some 0 ∧ MixMate ks o c ∧ k ≤ c ∧ ks[c]? = some 1 ∧ (x = 1 → c = k) := by
  have hk := lt_of_get hx
  have h0 : ex (ownB 0 ks) (pr 0 ks k) = cntK (ks.take k) 0 - (cntK (ks.take k) 1 : Int) := (count_own (ks := ks) 0 k (by omega)).2
  rcases hr with ⟨e, rfl⟩ | ⟨hp, o, n, hb, hs, rfl⟩
  · exact .inl ⟨rfl, by omega⟩
  · right
    have hlt := hb.lt
    have hle := hb.le
    have hhit := hb.hit
    have hjl := hs.jlt
    obtain ⟨c, hc⟩ := h.1.mate hjl
    obtain ⟨m, hm⟩ := sel_ex hc.lt
    have hup := bit_up (ownB 0 ks) hjl (by have := hb.above (o + 1) (by omega) (by omega); omega)
    have hpair : IsPair (ownB 0 ks) o c := by
      rcases hc with ⟨_, hc⟩ | ⟨hf, _⟩
      · exact hc
      · rw [hup] at hf; cases hf
    have hcP : pr 0 ks k ≤ c := by
      rcases Nat.lt_or_ge c (pr 0 ks k) with hlt' | h'
      · have := hb.above (c + 1) (by have := hpair.lt; omega) (by omega)
        have := hpair.hit
        omega
      · exact h'
    have hkm : k ≤ m := by
      rcases Nat.lt_or_ge m k with h' | h'
      · have := (hm.cmp k).2 h'; omega
      · exact h'
    have hkn := List.getElem?_eq_getElem hs.lt
    have hkm' := List.getElem?_eq_getElem hm.lt
    have ho1 := hs.own hkn
    have hm1 := hm.own hkm'
    have hdn := hpair.closes.1
    rw [List.getD_eq_getElem?_getD, ho1.2, Option.getD_some] at hup
    rw [List.getD_eq_getElem?_getD, hm1.2, Option.getD_some] at hdn
    have hn0 : ks[n]'hs.lt = 0 := by have := ho1.1; simp at hup; omega
    have hm0 : ks[m]'hm.lt = 1 := by have := hm1.1; simp at hdn; omega
    refine ⟨n, m, rfl, (hs.cmp k).1 hlt, by rw [hkn, hn0], ⟨0, o, c, by omega, hs, hm, hc⟩, hkm, by rw [hkm', hm0], fun hx1 => ?_⟩
    subst hx1
    have hsk := SelAt.at hx rfl
    have hok := hsk.own hx
    have hb1 := bit_ex (ownB 0 ks) (p := pr 0 ks k) (lt_of_get hok.2)
    rw [List.getD_eq_getElem?_getD, hok.2, Option.getD_some, if_neg (by decide)] at hb1
    have hce : c = pr 0 ks k := by
      rcases Nat.lt_or_ge (pr 0 ks k) c with h' | h'
      · have := hpair.above (pr 0 ks k + 1) (by omega) (by omega)
        omega
      · omega
    subst hce
    exact hm.unique hsk

/-- A Mixed and a block of the caller's own beside it. -/
def SoS (w : World) (g bm bo : Nat) (bi bp : Nat → Nat) (ks : List Nat) (q : Nat) (wr : World) : Prop :=
  ∃ F, MixP wr bm bo bi bp ks q F ∧ ¬ F g ∧ g < wr.heap.size ∧ w.heap.size ≤ g ∧ (∀ x, F x → w.heap.size ≤ x) ∧ Keeps (fun _ => False) w wr

section
variable {w wr : World} {g bm bo : Nat} {bi bp : Nat → Nat} {ks : List Nat} {q : Nat}

theorem SoS.call (h : SoS w g bm bo bi bp ks q wr) (P : FuncId) (args : Array Value) (E : Ending) (q' : Nat)
    (hc : ∀ F, (∀ x, F x → x < wr.heap.size) → MixQ wr bm bo bi bp ks q F wr → Calls Try.prog P args wr fun e w' => e = E ∧ MixQ wr bm bo bi bp ks q' F w') :
    Calls Try.prog P args wr fun e w' => e = E ∧ SoS w g bm bo bi bp ks q' w' ∧ ∀ o, wr.heap[g]? = some o → w'.heap[g]? = some o := by
  obtain ⟨F, hM, hg, hgs, hwg, hFw, hk⟩ := h
  refine (hc F hM.old hM.after).mono ?_
  rintro e w' ⟨rfl, hM', hk'⟩
  refine ⟨rfl, ⟨grow F wr w', hM', ?_, Nat.lt_of_lt_of_le hgs hk'.size, hwg, ?_, hk.trans hk' (fun x hx h => by have := hFw x h; omega)⟩, fun o ho => hk'.at ho hg⟩
  · rintro (h | h)
    · exact hg h
    · omega
  · rintro x (h | h)
    · exact hFw x h
    · have := hk.size; omega

theorem SoS.store (h : SoS w g bm bo bi bp ks q wr) (i : Nat) (v : Value) : SoS w g bm bo bi bp ks q (wr.setCell ⟨g, i, none⟩ v) := by
  obtain ⟨F, hM, hg, hgs, hwg, hFw, hk⟩ := h
  have h1 : Keeps (fun x => x = g) wr (wr.setCell ⟨g, i, none⟩ v) := (Keeps.refl (fun x => x = g) wr).setCell (p := ⟨g, i, none⟩) (.inl rfl) v
  exact ⟨F, hM.keeps h1 (fun x hx e => hg (e ▸ hx)), hg, Nat.lt_of_lt_of_le hgs h1.size, hwg, hFw, hk.setCell (.inr hwg) v⟩

theorem SoS.drewN (h : SoS w g bm bo bi bp ks q wr) (n : Nat) : SoS w g bm bo bi bp ks q (wr.drewN n) := by
  obtain ⟨F, hM, hg, hgs, hwg, hFw, hk⟩ := h
  exact ⟨F, hM.keeps ((Keeps.refl (fun _ => False) wr).drewN n) (fun _ _ h => h), hg, hgs, hwg, hFw, hk.drewN n⟩

theorem SoS.mix (h : SoS w g bm bo bi bp ks q wr) : ∃ F, MixP wr bm bo bi bp ks q F := by
  obtain ⟨F, hM, _⟩ := h; exact ⟨F, hM⟩
end


/-- The counts that are laid so far. -/
def Arr (g : Nat) (f : Nat → Nat) (j : Nat) (w : World) : Prop :=
  ∃ cs, w.heap[g]? = some (.cells cs 71 (0, 0)) ∧ cs.size = 4 ∧ ∀ x, x < 4 → cs[x]? = some (.int .i64 ((if x < j then f x else 0 : Nat) : Int))

theorem Arr.cell {g : Nat} {f : Nat → Nat} {j : Nat} {w : World} (h : Arr g f j w) {x : Nat} (hx : x < 4) : w.cell? ⟨g, x, none⟩ = some (.int .i64 ((if x < j then f x else 0 : Nat) : Int)) ∧ w.frozen? ⟨g, x, none⟩ = false := by
  obtain ⟨cs, h1, h2, h3⟩ := h
  exact ⟨by rw [World.cell_of_heap h1, h3 x hx], World.free_of_heap h1 x⟩

theorem Arr.step {g : Nat} {f : Nat → Nat} {j : Nat} {w : World} (h : Arr g f j w) (hj : j < 4) : Arr g f (j + 1) (w.setCell ⟨g, j, none⟩ (.int .i64 (f j : Nat))) := by
  obtain ⟨cs, h1, h2, h3⟩ := h
  refine ⟨_, heap_setCell_same h1 j _, by simp [h2], fun x hx => ?_⟩
  by_cases hxj : x = j
  · subst hxj
    rw [if_pos (by omega)]
    simp [h2, hx]
  · rw [Array.getElem?_setIfInBounds_ne (by omega), h3 x hx]
    by_cases hlt : x < j
    · rw [if_pos hlt, if_pos (by omega)]
    · rw [if_neg hlt, if_neg (by omega)]

def sumTo (f : Nat → Nat) : Nat → Nat
  | 0 => 0
  | j + 1 => sumTo f j + f j

set_option maxRecDepth 100000 in
set_option maxHeartbeats 4000000 in
theorem walkMixedSorts (a0 : Int) (a1 : Option Addr) (len1 cap1 : Nat) (z1 : List Int) (a2 : Int) (w : World) (w0 : (Lit.int .u16 a0).wf = true) (w1 : RowIn .u8 w a1 len1 cap1 z1) (w2 : (Lit.int .u16 a2).wf = true) :
    Calls Try.prog 13 #[.int .u16 a0, .slice a1 len1 cap1, .int .u16 a2] w fun e w' => e = .returned (.bool true) ∧ Below w.heap.size w w' := by
  have hnot : ∀ (x : Bool) (w : World), (Op.unary .not (.bool x)).run Try.prog w = .ok (.bool (!x)) w := fun _ _ => rfl
  obtain ⟨ps, hp, hps⟩ := w1.bytes
  obtain ⟨n, rfl, hn⟩ := u16_in w0
  obtain ⟨i, rfl, hi⟩ := u16_in w2
  clear w0 w1 w2
  have hA := fun w1 (hk : Keeps (fun _ => False) w w1) => refAny04_any (.slice a1 len1 cap1) ps (1 + n % 600) w1 (hp.keeps hk (fun _ _ h => h)) hps (by omega)
  have e1 : ((1 + n % 600 : Nat) : Int) = 1 + (n : Int) % 600 := by omega
  rw [e1] at hA
  have hm6 : n % 600 < 600 := by omega
  generalize n % 600 = m6 at *
  clear hp hps e1
  go_enter Try.func13, Try.ntmps13
  go_wp2_with fail
  refine (awake04_any _).mono ?_
  rintro e w1 ⟨rfl, hk1⟩
  go_wp2_with fail
  refine (hA _ hk1).mono ?_
  rintro e w2 ⟨sv, ks, rfl, hown, ⟨h4, hkl, hB⟩, hk2⟩
  have k2 := hk1.trans hk2 (fun _ _ h => h)
  have hkl2 : ks.length ≤ 1200 := by omega
  have hkl3 : 0 < ks.length := by omega
  clear hkl
  have hO := of04_any sv ks w2 hown.sl (fun k hk => (hown.lt k hk).2) h4 (by omega)
  clear hA hk1 hk2
  go_wp2_with fail
  refine hO.mono ?_
  rintro e w3 ⟨b, rfl, v, hv, hb, hvb, hk3⟩
  have hown3 := hown.keeps hk3 (fun _ _ h => h)
  have k3 := k2.trans hk3 (fun _ _ h => h)
  have hI := indexOf_word b v ks w3 hv h4 (by omega)
  clear hO hk3 hown k2 hb hvb
  go_wp2_with fail
  refine hI.mono ?_
  clear hI
  intro e w4 h4'
  rcases h4' with ⟨_, bm, bo, bi, bp, rfl, hM, hk4⟩ | ⟨hn, _⟩
  rotate_left
  · exact absurd hB hn
  have hown4 := hown3.keeps hk4 (fun _ _ h => h)
  have k4 := k3.trans hk4 (fun _ _ h => h)
  have hw3 := k3.size
  have hsf := hown4.form
  rw [nats_len] at hsf
  obtain ⟨sa, sc, rfl, hsc1, hsc2⟩ := hsf
  clear hown3 hv hown4 hk4 k3
  have hkk : i % ks.length < ks.length := Nat.mod_lt _ (by omega)
  have hmod : (i : Int).tmod (ks.length : Int) = ((i % ks.length : Nat) : Int) := by rw [Int.tmod_eq_emod_of_nonneg (by omega)]; simp
  generalize i % ks.length = k at *
  have hlz : ¬ ks.length = 0 := by omega
  have HK := Lib.hid (And.intro hB (And.intro h4 hkk))
  clear hB h4
  have hF0 : SoS w w4.heap.size bm bo bi bp ks 0 (w4.alloc (.cells #[.int .i64 0, .int .i64 0, .int .i64 0, .int .i64 0] 71)) :=
    ⟨_, hM.keeps ((Keeps.refl (fun _ => False) w4).alloc _) (fun _ _ h => h), fun h => by omega, by simp, by have := k4.size; omega, fun x hx => by omega, k4.alloc _⟩
  have hA0 : Arr w4.heap.size (fun x => cntK (ks.take k) x) 0 (w4.alloc (.cells #[.int .i64 0, .int .i64 0, .int .i64 0, .int .i64 0] 71)) := by
    refine ⟨_, heap_alloc_new w4 _, rfl, fun x hx => ?_⟩
    rw [if_neg (by omega)]
    match x, hx with
    | 0, _ => rfl
    | 1, _ => rfl
    | 2, _ => rfl
    | 3, _ => rfl
  have hf2 : ∀ x, cntK (ks.take k) x ≤ 1200 := fun x => Nat.le_trans (cntK_le _ x) (Nat.le_trans (List.length_take_le' _ _) hkl2)
  obtain ⟨f, hff⟩ : ∃ f, f = fun x => cntK (ks.take k) x := ⟨_, rfl⟩
  have HE : Hid (∀ x, f x = cntK (ks.take k) x) := Lib.hid (fun x => by rw [hff])
  have HB : Hid (∀ x, f x ≤ 1200) := Lib.hid (fun x => by rw [hff]; exact hf2 x)
  rw [← hff] at hA0
  clear hff hf2 hM k4
  go_wp2_with fail
  generalize w4.alloc _ = w5 at *
  generalize w4.heap.size = g at *
  go_loopg [12, 37] 4 (fun m s t wr => ∃ j : Nat, j ≤ 4 ∧ m = 4 - j ∧ t = .int .i64 j ∧ s = .int .i64 (sumTo f j : Nat) ∧ sumTo f j ≤ 1200 * j ∧ SoS w g bm bo bi bp ks (2 * j) wr ∧ Arr g f j wr)
  case atStart => exact ⟨0, by omega, rfl, rfl, rfl, by simp [sumTo], hF0, hA0⟩
  case round =>
    obtain ⟨j, hj, hgk, rfl, rfl, hsum, hS, hAr⟩ := hrel
    have HG := Lib.hid hgk
    clear hgk hF0 hA0
    by_cases hlt : j < 4
    · have hC := hS.call 54 #[.pointer (some ⟨bm, 0, none⟩), .int .i64 j, .int .i64 k] (.returned (.tuple #[.int .i64 (f j : Nat), .int .i64 0])) (2 * j + 2) (fun F hF hQ => by
        rw [HE.out]; exact mixRank_in hF hQ j k (by omega) hlt (by omega))
      have HA := Lib.hid hAr
      have hfj := HB.out j
      have hs1 : sumTo f (j + 1) = sumTo f j + f j := rfl
      have HS := Lib.hid hs1
      clear hs1 hS hAr
      generalize sumTo f j = sj at *
      generalize hfj' : f j = fj at *
      have HJ := Lib.hid hfj'
      clear hfj'
      go_wp2_with fail
      refine hC.mono ?_
      rintro e w6 ⟨rfl, hS6, hcell⟩
      have hA6 : Arr g f j w6 := by
        obtain ⟨cs, c1, c2⟩ := HA.out
        exact ⟨cs, hcell _ c1, c2⟩
      obtain ⟨hold, hfro⟩ := hA6.cell hlt
      rw [if_neg (by omega)] at hold
      have hS7 := hS6.store j (.int .i64 (fj : Nat))
      have hA7 := hA6.step hlt
      rw [HJ.out] at hA7
      have hnew : (w6.setCell ⟨g, j, none⟩ (.int .i64 (fj : Nat))).cell? ⟨g, j, none⟩ = some (.int .i64 (fj : Nat)) := World.cell?_setCell_same _ _ _ hold
      have HF := Lib.hid (And.intro hS7 hA7)
      clear hC hcell hA6 hS6 hS7 hA7
      go_wp2
      go_roundg (4 - (j + 1))
      case measure => rw [HG.out]; omega
      case rel => exact ⟨j + 1, by omega, rfl, by go_num, by rw [HS.out]; go_num, by rw [HS.out]; omega, HF.out.1, HF.out.2⟩
    · obtain rfl : j = 4 := by omega
      obtain ⟨c0, _⟩ := hAr.cell (x := 0) (by omega)
      obtain ⟨c1, _⟩ := hAr.cell (x := 1) (by omega)
      obtain ⟨c2, _⟩ := hAr.cell (x := 2) (by omega)
      obtain ⟨c3, _⟩ := hAr.cell (x := 3) (by omega)
      rw [if_pos (by omega)] at c0 c1 c2 c3
      obtain ⟨hB, h4, _⟩ := HK.out
      have hs4 : sumTo f 4 = k := by
        have := sum4 h4 k (by omega)
        simp only [sumTo, HE.out]; omega
      have hm1 : f 1 ≤ f 0 ∧ f 3 ≤ f 2 := by rw [HE.out, HE.out, HE.out, HE.out]; exact hB.more k (by omega)
      rw [hs4] at hsum ⊢
      obtain ⟨r, hr⟩ := hB.owner (i := k) (by omega)
      obtain ⟨x, hx⟩ : ∃ x, ks[k]? = some x := ⟨_, List.getElem?_eq_getElem hkk⟩
      have hlaw := owner_law hB hx hr
      rw [← HE.out, ← HE.out] at hlaw
      have hx4 := h4 x (List.mem_of_getElem? hx)
      have hC := hS.call 55 #[.pointer (some ⟨bm, 0, none⟩), .int .i64 k] (.returned (.tuple #[.int .i64 r, .int .i64 0])) (2 * 4 + 7) (fun F hF hQ => mixOwner_in hF hQ k r (by omega) (by omega) hr)
      have HA := Lib.hid hAr
      clear hS hAr hs4 hr hB h4
      have b0 := HB.out 0
      have b1 := HB.out 1
      have b2 := HB.out 2
      have b3 := HB.out 3
      generalize hf0 : f 0 = n0 at *
      generalize hf1 : f 1 = n1 at *
      generalize f 2 = n2 at *
      generalize f 3 = n3 at *
      have HF := Lib.hid (And.intro hf0 hf1)
      clear hf0 hf1
      have hm10 := hm1.1
      have hm11 := hm1.2
      clear hm1
      rcases hlaw with ⟨rfl, hn01⟩ | ⟨o, c, rfl, hok, ho, hmate, hkc, hc, hxc⟩
      · go_wp2_with fail
        refine hC.mono ?_
        rintro e w6 ⟨rfl, hS6, hcell⟩
        have hA6 : Arr g f 4 w6 := by
          obtain ⟨cs, c1, c2⟩ := HA.out
          exact ⟨cs, hcell _ c1, c2⟩
        obtain ⟨d0, _⟩ := hA6.cell (x := 0) (by omega)
        obtain ⟨d1, _⟩ := hA6.cell (x := 1) (by omega)
        rw [if_pos (by omega), HF.out.1] at d0
        rw [if_pos (by omega), HF.out.2] at d1
        have HS := Lib.hid hS6
        clear hC hcell hA6 hS6
        subst hn01
        go_wp2
        go_ret
        obtain ⟨F, _, _, _, _, _, hk⟩ := HS.out
        exact ⟨rfl, hk.below (fun _ _ h => h)⟩
      · have hM : ∀ W, SoS w g bm bo bi bp ks (2 * 4 + 7) W → Calls Try.prog 56 #[.pointer (some ⟨bm, 0, none⟩), .int .i64 o] W fun e w' => e = .returned (.tuple #[.int .i64 c, .int .i64 0]) ∧ SoS w g bm bo bi bp ks (2 * 4 + 7 + 4) w' := fun W hW =>
          (hW.call 56 #[.pointer (some ⟨bm, 0, none⟩), .int .i64 o] (.returned (.tuple #[.int .i64 c, .int .i64 0])) (2 * 4 + 7 + 4) (fun F hF hQ => mixMate_in hF hQ o c (by omega) hmate)).mono fun _ _ h => ⟨h.1, h.2.1⟩
        have hT : ∀ W i k, ks[i]? = some k → SoS w g bm bo bi bp ks (2 * 4 + 7 + 4) W → Calls Try.prog 57 #[.pointer (some ⟨bm, 0, none⟩), .int .i64 (i : Nat)] W fun e w' => e = .returned (.int .i64 (k : Nat)) ∧ SoS w g bm bo bi bp ks (2 * 4 + 7 + 4) w' := by
          intro W i k hi hW
          obtain ⟨F, hMP⟩ := hW.mix
          refine (mixAt_in hMP i k hi).mono ?_
          rintro e w' ⟨rfl, n, rfl⟩
          exact ⟨rfl, hW.drewN n⟩
        have hcl := lt_of_get hc
        have HT := Lib.hid (And.intro hT (And.intro hM (And.intro ho (And.intro hc hx))))
        clear hT hM ho hc hx hmate
        go_wp2_with fail
        refine hC.mono ?_
        rintro e w6 ⟨rfl, hS6, _⟩
        have hM := HT.out.2.1 _ hS6
        clear hC hS6
        go_wp2_with fail
        refine hM.mono ?_
        rintro e w7 ⟨rfl, hS7⟩
        have hT1 := HT.out.1 _ o 0 HT.out.2.2.1 hS7
        clear hM hS7
        go_wp2_with fail
        refine hT1.mono ?_
        rintro e w8 ⟨rfl, hS8⟩
        have hT2 := HT.out.1 _ c 1 HT.out.2.2.2.1 hS8
        clear hT1 hS8
        go_wp2_with fail
        refine hT2.mono ?_
        rintro e w9 ⟨rfl, hS9⟩
        have hT3 := HT.out.1 _ k x HT.out.2.2.2.2 hS9
        clear hT2 hS9
        go_wp2_with fail
        refine hT3.mono ?_
        rintro e wA ⟨rfl, hSA⟩
        have HS := Lib.hid hSA
        clear hT3 hSA
        by_cases hx1 : x = 1
        · have hce := hxc hx1
          subst hx1
          subst hce
          clear hxc
          go_wp2
          go_ret
          obtain ⟨F, _, _, _, _, _, hk⟩ := HS.out
          exact ⟨rfl, hk.below (fun _ _ h => h)⟩
        · clear hxc
          have hxb : ((x : Int) == 1) = false := by rw [beq_eq_false_iff_ne]; omega
          have hxn : ((x : Int) != 1) = true := by simp [bne, hxb]
          go_wp2
          go_ret
          obtain ⟨F, _, _, _, _, _, hk⟩ := HS.out
          exact ⟨rfl, hk.below (fun _ _ h => h)⟩

end Go.Proofs.Ytlciacpffoekjaa
