/- The references of layer 13: Of, a word's map by places. -/
import Derived.Test.YtipelclohcdkcaaGreatPlane
import Derived.Test.YtipelclohcdkcaaGreatVx
namespace Go.Proofs.YtipelclohcdkcaaGreat
open Go.RowKit

noncomputable def nmL (ks : List Nat) : List Nat := (List.range ks.length).map (nmD ks)
noncomputable def tnL (ks : List Nat) : List Nat := (List.range ks.length).map (tn ks)
theorem nmL_length (ks : List Nat) : (nmL ks).length = ks.length := by simp [nmL]
theorem tnL_length (ks : List Nat) : (tnL ks).length = ks.length := by simp [tnL]
theorem sg_nmL {ks : List Nat} {d : Nat} (hd : d < ks.length) : sg (nmL ks) d = nmD ks d := by simp [sg, nmL, hd]
theorem sg_tnL {ks : List Nat} {d : Nat} (hd : d < ks.length) : sg (tnL ks) d = tn ks d := by simp [sg, tnL, hd]
theorem Wd.nmL_isP {ks : List Nat} (h : Wd ks) : IsP (nmL ks).length (sg (nmL ks)) := by
  rw [nmL_length]; exact h.nm_isP.congr (fun d hd => sg_nmL hd)
theorem Wd.tnL_isP {ks : List Nat} (h : Wd ks) : IsP (tnL ks).length (sg (tnL ks)) := by
  rw [tnL_length]; exact h.tn_isP.congr (fun d hd => sg_tnL hd)

/-- The place of a name. -/
theorem Wd.inv_nm {ks : List Nat} (h : Wd ks) {i : Nat} (hi : i < ks.length) : invP (sg (nmL ks)) (nmD ks i) = i := by
  have h1 := h.nmL_isP.inv_of (d := i) (by rw [nmL_length]; exact hi)
  rwa [sg_nmL hi] at h1

/-- What the first j of a slice hold. -/
def Fst13 (f : Nat → Nat) (j : Nat) (zs : List Int) : Prop := ∀ i, i < j → zs[i]? = some ((f i : Nat) : Int)
theorem Fst13.step {f : Nat → Nat} {j : Nat} {zs : List Int} (hj : j < zs.length) (h : Fst13 f j zs) : Fst13 f (j + 1) (zs.set j ((f j : Nat) : Int)) := by
  intro i hi
  rw [List.getElem?_set]
  by_cases hij : j = i
  · subst hij; rw [if_pos rfl, if_pos hj]
  · rw [if_neg hij]; exact h i (by omega)
theorem Fst13.all {f : Nat → Nat} {n : Nat} {zs : List Int} (hl : zs.length = n) (h : Fst13 f n zs) : zs = nats ((List.range n).map f) := by
  apply List.ext_getElem?
  intro e
  rcases Nat.lt_or_ge e n with he | he
  · rw [h e he]; simp [nats, he]
  · rw [List.getElem?_eq_none (by omega), List.getElem?_eq_none (by simp [nats]; exact he)]

def Neg13 (j : Nat) (zs : List Int) : Prop := ∀ i, i < j → zs[i]? = some (-1)
theorem Neg13.step {j : Nat} {zs : List Int} (hj : j < zs.length) (h : Neg13 j zs) : Neg13 (j + 1) (zs.set j (-1)) := by
  intro i hi
  rw [List.getElem?_set]
  by_cases hij : j = i
  · subst hij; rw [if_pos rfl, if_pos hj]
  · rw [if_neg hij]; exact h i (by omega)

/-- The boxed map of places. -/
def B13 (b6 gS gM gV n : Nat) (fv : Value) (wr : World) : Prop := wr.heap[b6]? = some (.cells #[.slice (some ⟨gS, 0, none⟩) n n, .slice (some ⟨gM, 0, none⟩) n n, .slice (some ⟨gV, 0, none⟩) n n, fv] 48 (0, 0))

theorem B13.keeps' {b6 gS gM gV n : Nat} {fv : Value} {w w' : World} (h : B13 b6 gS gM gV n fv w) (k : Keeps (fun _ => False) w w') : B13 b6 gS gM gV n fv w' := k.at h (fun h => h)

/-- Behind the first region. -/
structure O13 (w2 : World) (b6 gS gM gV n : Nat) (wz : World) : Prop where
  s : MadeS w2 gS n (fun _ => True) wz
  m : MadeS w2 gM n (fun _ => True) wz
  v : MadeS w2 gV n (fun _ => True) wz
  b : B13 b6 gS gM gV n (.slice none 0 0) wz
  d : gS ≠ gM ∧ gS ≠ gV ∧ gM ≠ gV ∧ b6 ≠ gS ∧ b6 ≠ gM ∧ b6 ≠ gV ∧ w2.heap.size ≤ b6

/-- Four blocks are made, one behind the other. -/
theorem alloc4 (W : World) (o1 o2 o3 o4 : Obj) : (((((W.alloc o1).alloc o2).alloc o3).alloc o4).drew).heap[W.heap.size]? = some o1 ∧ (((((W.alloc o1).alloc o2).alloc o3).alloc o4).drew).heap[W.heap.size + 1]? = some o2 ∧
    (((((W.alloc o1).alloc o2).alloc o3).alloc o4).drew).heap[W.heap.size + 1 + 1]? = some o3 ∧ (((((W.alloc o1).alloc o2).alloc o3).alloc o4).drew).heap[W.heap.size + 1 + 1 + 1]? = some o4 ∧ Keeps (fun _ => False) W (((((W.alloc o1).alloc o2).alloc o3).alloc o4).drew) := by
  have h1 : (W.alloc o1).heap.size = W.heap.size + 1 := by simp
  have h2 : ((W.alloc o1).alloc o2).heap.size = W.heap.size + 1 + 1 := by simp
  have h3 : (((W.alloc o1).alloc o2).alloc o3).heap.size = W.heap.size + 1 + 1 + 1 := by simp
  have g2 := heap_alloc_new (W.alloc o1) o2
  have g3 := heap_alloc_new ((W.alloc o1).alloc o2) o3
  have g4 := heap_alloc_new (((W.alloc o1).alloc o2).alloc o3) o4
  rw [h1] at g2
  rw [h2] at g3
  rw [h3] at g4
  exact ⟨((((Keeps.refl (fun _ => False) (W.alloc o1)).alloc o2).alloc o3).alloc o4).drew.at (heap_alloc_new W o1) (fun h => h), (((Keeps.refl (fun _ => False) ((W.alloc o1).alloc o2)).alloc o3).alloc o4).drew.at g2 (fun h => h), ((Keeps.refl (fun _ => False) (((W.alloc o1).alloc o2).alloc o3)).alloc o4).drew.at g3 (fun h => h), (Keeps.refl (fun _ => False) ((((W.alloc o1).alloc o2).alloc o3).alloc o4)).drew.at g4 (fun h => h), ((((Keeps.refl (fun _ => False) W).alloc o1).alloc o2).alloc o3).alloc o4 |>.drew⟩

theorem MadeS.ofHeap {w wr : World} {g n : Nat} (hn : n ≤ 100000000) (hg : w.heap.size ≤ g) (h : wr.heap[g]? = some (.cells (madeCells #[.int .i64 0] n) 3 (0, 0))) (hk : Keeps (fun _ => False) w wr) : MadeS w g n (fun _ => True) wr := by
  refine ⟨List.replicate n 0, by simp, trivial, ⟨by simp [ints], .inr ⟨g, n, _, by simp, hg, h, by simp, by unfold maxLen; omega, by rw [size_madeCells]; simp, ?_⟩⟩, hk⟩
  rw [toList_madeCells_one]
  simp [ints]

theorem O13.of {w2 wz : World} {b6 gS gM gV n : Nat} (hb : B13 b6 gS gM gV n (.slice none 0 0) wz) (hs : wz.heap[gS]? = some (.cells (madeCells #[.int .i64 0] n) 3 (0, 0))) (hm : wz.heap[gM]? = some (.cells (madeCells #[.int .i64 0] n) 3 (0, 0))) (hv : wz.heap[gV]? = some (.cells (madeCells #[.int .i64 0] n) 3 (0, 0)))
    (hk : Keeps (fun _ => False) w2 wz) (hn : n ≤ 100000000) (hl : w2.heap.size ≤ gS ∧ w2.heap.size ≤ gM ∧ w2.heap.size ≤ gV) (hd : gS ≠ gM ∧ gS ≠ gV ∧ gM ≠ gV ∧ b6 ≠ gS ∧ b6 ≠ gM ∧ b6 ≠ gV ∧ w2.heap.size ≤ b6) : O13 w2 b6 gS gM gV n wz :=
  ⟨MadeS.ofHeap hn hl.1 hs hk, MadeS.ofHeap hn hl.2.1 hm hk, MadeS.ofHeap hn hl.2.2 hv hk, hb, hd⟩

/-- The first ones of the orbits, below j. -/
noncomputable def fsL (s : List Nat) (j : Nat) : List Nat := (List.range j).filter fun d => rep (sg s) d == d
theorem fsL_length (s : List Nat) (j : Nat) : (fsL s j).length = ldr (sg s) j := rfl
theorem fsL_succ (s : List Nat) (j : Nat) : fsL s (j + 1) = fsL s j ++ if rep (sg s) j = j then [j] else [] := by
  unfold fsL
  rw [List.range_succ, List.filter_append]
  by_cases h : rep (sg s) j = j <;> simp [h]

theorem Wd.vnum_tnL {ks : List Nat} (h : Wd ks) {d : Nat} (hd : d < ks.length) : vnum (sg (tnL ks)) d = vx ks d := by
  have h1 := h.tnL_isP
  rw [tnL_length] at h1
  have he : ∀ d, d < ks.length → sg (tnL ks) d = tn ks d := fun d hd => sg_tnL hd
  have hr := rep_congr h1 h.tn_isP he hd
  have hrl := h.tn_isP.rep_lt hd
  rw [← h.vnum_tn hd]
  unfold vnum
  rw [hr, ldr_congr h1 h.tn_isP he _ (by omega)]

/-- Between two rounds of the last loop. -/
def L13 (wb : World) (gS gM gV b6 n : Nat) (ks : List Nat) (fs : List Nat) (P : List Int → Prop) (fv : Value) (wr : World) : Prop :=
  (MadeS wb gS n (fun zs => zs = nats (tnL ks)) wr ∧ MadeS wb gM n (fun zs => zs = nats ((List.range n).map (mp ks))) wr) ∧ MadeS wb gV n P wr ∧ B13 b6 gS gM gV n fv wr ∧ OwnI wb.heap.size wr fv (nats fs) ∧ ∀ q, fv.ownBlock = some q → q ≠ gS ∧ q ≠ gM ∧ q ≠ gV ∧ q ≠ b6

theorem L13.keeps {wb wr w1 : World} {gS gM gV b6 n : Nat} {ks fs : List Nat} {P : List Int → Prop} {fv : Value} (h : L13 wb gS gM gV b6 n ks fs P fv wr) (k : Keeps (fun _ => False) wr w1) : L13 wb gS gM gV b6 n ks fs P fv w1 :=
  ⟨⟨h.1.1.keeps k, h.1.2.keeps k⟩, h.2.1.keeps k, h.2.2.1.keeps' k, h.2.2.2.1.keeps k (fun _ _ h => h), h.2.2.2.2⟩

theorem L13.set {wb wr : World} {gS gM gV b6 n : Nat} {ks fs : List Nat} {P Q : List Int → Prop} {fv : Value} (h : L13 wb gS gM gV b6 n ks fs P fv wr) (hd : gS ≠ gV ∧ gM ≠ gV ∧ b6 ≠ gV) (i : Nat) (z : Int) (hQ : ∀ zs, zs.length = n → P zs → Q (zs.set i z)) :
    L13 wb gS gM gV b6 n ks fs Q fv (wr.setCell ⟨gV, i, none⟩ (.int .i64 z)) := by
  have kset := (Keeps.refl (fun q => q = gV) wr).setCell (p := ⟨gV, i, none⟩) (.inl rfl) (.int .i64 z)
  have ho := h.2.1.old.1
  exact ⟨⟨h.1.1.keepsF kset hd.1 (fun x hx => by subst hx; exact ho), h.1.2.keepsF kset hd.2.1 (fun x hx => by subst hx; exact ho)⟩, h.2.1.set i z hQ, kset.at h.2.2.1 hd.2.2, h.2.2.2.1.keeps kset (fun q hq e => (h.2.2.2.2 q hq).2.2.1 e), h.2.2.2.2⟩

theorem L13.push {wb wr w9 : World} {gS gM gV b6 n g2 cap2 c : Nat} {ks fs fs' : List Nat} {P : List Int → Prop} {fv : Value} (h : L13 wb gS gM gV b6 n ks fs P fv wr) (hd : b6 ≠ gS ∧ b6 ≠ gM ∧ b6 ≠ gV ∧ wb.heap.size ≤ b6)
    (ho : OwnI wb.heap.size w9 (.slice (some ⟨g2, 0, none⟩) c cap2) (nats fs')) (hk : Keeps (fun q => fv.ownBlock = some q) wr w9) (hat : fv.ownBlock = some g2 ∨ wr.heap.size ≤ g2) :
    B13 b6 gS gM gV n fv w9 ∧ L13 wb gS gM gV b6 n ks fs' P (.slice (some ⟨g2, 0, none⟩) c cap2) (w9.setCell ⟨b6, 3, none⟩ (.slice (some ⟨g2, 0, none⟩) c cap2)) := by
  obtain ⟨⟨h1, h2⟩, h3, h4, h5, h6⟩ := h
  have hbase : ∀ x, fv.ownBlock = some x → wb.heap.size ≤ x := fun x hx => (h5.lt x hx).1
  have h4' := hk.at h4 (fun e => (h6 _ e).2.2.2 rfl)
  have kset := (Keeps.refl (fun q => q = b6) w9).setCell (p := ⟨b6, 3, none⟩) (.inl rfl) (.slice (some ⟨g2, 0, none⟩) c cap2)
  have hg2 : g2 ≠ gS ∧ g2 ≠ gM ∧ g2 ≠ gV ∧ g2 ≠ b6 := by
    rcases hat with h | h
    · exact h6 _ h
    · have := h1.old.2; have := h2.old.2; have := h3.old.2; have := lt_of_block h4
      exact ⟨by omega, by omega, by omega, by omega⟩
  refine ⟨h4', ⟨(h1.keepsF hk (fun e => (h6 _ e).1 rfl) hbase).keepsF kset (fun e => hd.1 e.symm) (fun x hx => by subst hx; exact hd.2.2.2), (h2.keepsF hk (fun e => (h6 _ e).2.1 rfl) hbase).keepsF kset (fun e => hd.2.1 e.symm) (fun x hx => by subst hx; exact hd.2.2.2)⟩, (h3.keepsF hk (fun e => (h6 _ e).2.2.1 rfl) hbase).keepsF kset (fun e => hd.2.2.1 e.symm) (fun x hx => by subst hx; exact hd.2.2.2), heap_setCell_same h4' 3 _, ho.keeps kset (fun q hq e => by
    simp only [Value.ownBlock, Option.some.injEq] at hq
    subst hq
    exact hg2.2.2.2 e), fun q hq => ?_⟩
  simp only [Value.ownBlock, Option.some.injEq] at hq
  subst hq
  exact hg2

/-- What Of gives. -/
def Of13Post (w : World) (ks : List Nat) (e : Ending) (w' : World) : Prop :=
  ∃ vS vM vV vF, e = .returned (.agg #[vS, vM, vV, vF]) ∧ OwnI w.heap.size w' vS (nats (tnL ks)) ∧ OwnI w.heap.size w' vM (nats ((List.range ks.length).map (mp ks))) ∧ OwnI w.heap.size w' vV (nats ((List.range ks.length).map (vx ks))) ∧ OwnI w.heap.size w' vF (nats (fsL (tnL ks) ks.length)) ∧ Keeps (fun _ => False) w w'

theorem res4 {W : World} {B : Nat} {t : TypeId} {a b c d : Value} (h1 : W.heap[B]? = some (.cells #[a, b, c, d] t (0, 0))) (x y z u : Value) :
    ((((W.setCell ⟨B, 0, none⟩ x).setCell ⟨B, 1, none⟩ y).setCell ⟨B, 2, none⟩ z).setCell ⟨B, 3, none⟩ u).heap[B]? = some (.cells #[x, y, z, u] t (0, 0)) ∧ Keeps (fun k => k = B) W ((((W.setCell ⟨B, 0, none⟩ x).setCell ⟨B, 1, none⟩ y).setCell ⟨B, 2, none⟩ z).setCell ⟨B, 3, none⟩ u) :=
  ⟨heap_setCell_same (heap_setCell_same (heap_setCell_same (heap_setCell_same h1 0 x) 1 y) 2 z) 3 u, ((((Keeps.refl (fun k => k = B) W).setCell (p := ⟨B, 0, none⟩) (.inl rfl) x).setCell (p := ⟨B, 1, none⟩) (.inl rfl) y).setCell (p := ⟨B, 2, none⟩) (.inl rfl) z).setCell (p := ⟨B, 3, none⟩) (.inl rfl) u⟩

set_option maxRecDepth 100000 in
set_option maxHeartbeats 8000000 in
theorem refOf13_any (lv : Value) (ks : List Nat) (w : World) (hs : Sl .i64 w lv (nats ks)) (hW : Wd ks) (hl : ks.length ≤ 100000) :
    Calls Tryz.prog 119 #[lv] w (Of13Post w ks) := by
  have k0 := (Keeps.refl (fun _ => False) w).alloc (.cells #[.slice none 0 0, .slice none 0 0, .slice none 0 0, .slice none 0 0] 48)
  have hb0 := heap_alloc_new w (.cells #[.slice none 0 0, .slice none 0 0, .slice none 0 0, .slice none 0 0] 48)
  have hN := refNames12_any lv ks _ (hs.keeps k0 (fun _ _ h => h)) hW (by omega)
  have HS : Hid (∀ W, Keeps (fun _ => False) w W → Sl .i64 W lv (nats ks)) := Lib.hid (fun W hk => hs.keeps hk (fun _ _ h => h))
  obtain ⟨a, cap, rfl, hnc, hcm⟩ := hs.form
  rw [nats_len] at hnc HS hN hs ⊢
  have HK0 := Lib.hid (And.intro k0 hb0)
  clear hs k0 hb0
  go_enter Tryz.func119, Tryz.ntmps119
  go_wp2_with fail
  refine hN.mono ?_
  rintro e w1 ⟨gN, rfl, hM⟩
  have hM' : MadeS (w.alloc (.cells #[.slice none 0 0, .slice none 0 0, .slice none 0 0, .slice none 0 0] 48)) gN ks.length (fun zs => zs = nats (nmL ks)) w1 := hM
  obtain ⟨_, _, _, _, hk1⟩ := id hM
  clear hM hN
  have hnS : Sl .i64 w1 (.slice (some ⟨gN, 0, none⟩) ks.length ks.length) (nats (nmL ks)) := by obtain ⟨zs, _, rfl, ho, _⟩ := hM'; exact ho.sl
  have hI := refInverse_any (.slice (some ⟨gN, 0, none⟩) ks.length ks.length) (nmL ks) w1 hnS hW.nmL_isP (by rw [nmL_length]; omega)
  rw [nmL_length] at hI
  go_wp2_with fail
  refine hI.mono ?_
  rintro e w2 ⟨gI, rfl, hMI⟩
  obtain ⟨_, _, _, _, hk2⟩ := id hMI
  clear hI
  have hk02 := (HK0.out.1.trans hk1 (fun _ _ h => h)).trans hk2 (fun _ _ h => h)
  have hD := refDecode_any (.slice a ks.length cap) ks w2 (HS.out w2 hk02) hW (by omega)
  go_wp2_with fail
  refine hD.mono ?_
  rintro e w3 ⟨sv, rfl, hsv, hk3⟩
  clear hD
  obtain ⟨sa, sc, rfl, _, _⟩ := hsv.form
  rw [nats_len, decL_length] at hsv ⊢
  obtain ⟨rt, hrt⟩ : ∃ rt : Int, rt = (if ks.length = 0 then -1 else 0) := ⟨_, rfl⟩
  obtain ⟨ln, hln⟩ : ∃ ln : Int, ln = (if ks.length = 0 then 1 else 0) := ⟨_, rfl⟩
  rw [← hrt, ← hln]
  unfold mapV
  clear hrt hln
  have hk03 := hk02.trans hk3 (fun _ _ h => h)
  have k5 := (Keeps.refl (fun _ => False) w3).alloc (.cells #[.slice sa ks.length sc, .int .i64 rt, .int .i64 ln] 72)
  have hsz5 : (w3.alloc (.cells #[.slice sa ks.length sc, .int .i64 rt, .int .i64 ln] 72)).heap.size = w3.heap.size + 1 := by simp
  have hb5 := heap_alloc_new w3 (.cells #[.slice sa ks.length sc, .int .i64 rt, .int .i64 ln] 72)
  have hbr := (hk1.trans (hk2.trans hk3 (fun _ _ h => h)) (fun _ _ h => h)).at HK0.out.2 (fun h => h)
  have H3 : Hid (∀ W, Keeps (fun _ => False) (w3.alloc (.cells #[.slice sa ks.length sc, .int .i64 rt, .int .i64 ln] 72)) W → (∀ i, i < ks.length → W.cell? ⟨gN, i, none⟩ = some (.int .i64 (nmD ks i : Nat))) ∧ (∀ i, i < ks.length → W.cell? ⟨gI, nmD ks i, none⟩ = some (.int .i64 i)) ∧ Sl .i64 W (.slice sa ks.length sc) (nats (decL ks)) ∧ W.heap[w3.heap.size]? = some (.cells #[.slice sa ks.length sc, .int .i64 rt, .int .i64 ln] 72 (0, 0)) ∧ W.heap[w.heap.size]? = some (.cells #[.slice none 0 0, .slice none 0 0, .slice none 0 0, .slice none 0 0] 48 (0, 0)) ∧ Keeps (fun _ => False) w W) := Lib.hid (fun W hk => by
    have kk := k5.trans hk (fun _ _ h => h)
    have k23 := hk3.trans kk (fun _ _ h => h)
    refine ⟨fun i hi => ?_, fun i hi => ?_, (hsv.keeps kk (fun _ _ h => h)).sl, hk.at hb5 (fun h => h), kk.at hbr (fun h => h), hk03.trans kk (fun _ _ h => h)⟩
    · obtain ⟨zs, _, rfl, ho, _⟩ := (hM'.keeps hk2).keeps k23
      have := (ho.cell (nats_at (by rw [nmL_length]; exact hi))).1
      rwa [sg_nmL hi] at this
    · obtain ⟨zs, _, rfl, ho, _⟩ := hMI.keeps k23
      have hx := hW.nm_lt hi
      have := (ho.cell (i := nmD ks i) (z := (i : Nat)) (by simp [nats, hx, hW.inv_nm hi])).1
      exact this)
  have H3K := Lib.hid hk03
  clear hM' hMI hsv hb5 hbr hk1 hk2 hk3 hk02 hk03 hnS HK0 HS
  have HWW := Lib.hid hW
  generalize hn : ks.length = n at *
  obtain ⟨ii, hi, hz0, hz1, hz2⟩ := info_parts infoInt
  have hmk := fun w => run_make (P := Tryz.prog) w 22 3 ii _ Tryz.underlying22 hi hz0 .i64 .i64 (n : Int) (n : Int) (by omega) (Int.le_refl _) (by rw [hz2]; omega) (by omega)
  simp only [hz1, Int.toNat_natCast, Nat.mul_one] at hmk
  have HN := Lib.hid hn
  clear hi hz0 hz1 hz2 hn k5
  go_upto_region 4 with fail
  go_cut [6] from 19 to 28 (fun p6 wz => ∃ wx b6 gS gM gV, wx = wz ∧ p6 = .pointer (some ⟨b6, 0, none⟩) ∧ O13 (w3.alloc (.cells #[.slice sa n sc, .int .i64 rt, .int .i64 ln] 72)) b6 gS gM gV n wx)
  case first =>
    go_region
    all_goals
      go_wp2_with fail
      go_meet
      obtain ⟨h1, h2, h3, h4, hk⟩ := alloc4 (w3.alloc (.cells #[.slice sa n sc, .int .i64 rt, .int .i64 ln] 72)) _ _ _ _
      rw [hsz5] at h1 h2 h3 h4
      exact ⟨_, _, _, _, _, rfl, rfl, O13.of (by first | exact h1 | exact h2 | exact h3 | exact h4) (by first | exact h1 | exact h2 | exact h3 | exact h4) (by first | exact h1 | exact h2 | exact h3 | exact h4) (by first | exact h1 | exact h2 | exact h3 | exact h4) hk (by omega) ⟨by omega, by omega, by omega⟩ ⟨by omega, by omega, by omega, by omega, by omega, by omega, by omega⟩⟩
  case rest =>
    obtain ⟨wx, b6, gS, gM, gV, rfl, rfl, hO⟩ := hcut
    obtain ⟨wb, hwb⟩ : ∃ wb, wb = w3.alloc (.cells #[.slice sa n sc, .int .i64 rt, .int .i64 ln] 72) := ⟨_, rfl⟩
    rw [← hwb] at hO H3 hsz5
    have hww3 := H3K.out.size
    clear hmk hwb H3K
    obtain ⟨hd1, hd2, hd3, hd4, hd5, hd6, hd7⟩ := hO.d
    have h0 : (MadeS wb gS n (Fst13 (tn ks) 0) wx ∧ MadeS wb gM n (Fst13 (mp ks) 0) wx) ∧ MadeS wb gV n (fun _ => True) wx ∧ B13 b6 gS gM gV n (.slice none 0 0) wx := ⟨⟨hO.s.mono (fun zs _ _ i hi => by omega), hO.m.mono (fun zs _ _ i hi => by omega)⟩, hO.v, hO.b⟩
    clear hO
    have HB : Hid (∀ (g i : Nat) (v : Value) (W : World), (g = gS ∨ g = gM ∨ g = gV) → ∀ fv, B13 b6 gS gM gV n fv W → B13 b6 gS gM gV n fv (W.setCell ⟨g, i, none⟩ v)) := Lib.hid (fun g i v W hg fv hb => ((Keeps.refl (fun q => q = g) W).setCell (p := ⟨g, i, none⟩) (.inl rfl) v).at hb (by rcases hg with rfl | rfl | rfl <;> omega))
    go_wp2_with fail
    go_loopg [31] n (fun m i wr => ∃ j : Nat, j ≤ n ∧ m = n - j ∧ i = .int .i64 j ∧ (MadeS wb gS n (Fst13 (tn ks) j) wr ∧ MadeS wb gM n (Fst13 (mp ks) j) wr) ∧ MadeS wb gV n (fun _ => True) wr ∧ B13 b6 gS gM gV n (.slice none 0 0) wr)
    case atStart => exact ⟨0, Nat.zero_le _, rfl, rfl, h0⟩
    case round =>
      clear h0
      obtain ⟨j, hj, hgk, rfl, ⟨hMS, hMM⟩, hMV, hB⟩ := hrel
      have HG := Lib.hid hgk
      clear hgk
      by_cases hlt : j < n
      · have hjk : j < ks.length := by rw [HN.out]; exact hlt
        obtain ⟨_, _, _, _, hkw⟩ := id hMS
        have hml := HWW.out.mp_lt hjk
        have htl := HWW.out.tn_isP.lt j hjk
        have hdl := HWW.out.nm_lt hjk
        have hyl := HWW.out.nm_lt htl
        have hnm := HWW.out.nm_mate hjk
        have hsd := HWW.out.sD_nm hjk
        have HC : Hid (∀ W, Keeps (fun _ => False) wb W → W.cell? ⟨gN, j, none⟩ = some (.int .i64 (nmD ks j : Nat)) ∧ W.cell? ⟨gI, nmD ks (tn ks j), none⟩ = some (.int .i64 (tn ks j : Nat)) ∧ W.cell? ⟨gI, mt (nmD ks j), none⟩ = some (.int .i64 (mp ks j : Nat)) ∧ Sl .i64 W (.slice sa n sc) (nats (decL ks)) ∧ W.cell? ⟨w3.heap.size, 0, none⟩ = some (.slice sa n sc)) := Lib.hid (fun W hk => by
          obtain ⟨a1, a2, a3, a4, _, _⟩ := H3.out W hk
          refine ⟨a1 j hlt, a2 _ (by rw [← HN.out]; exact htl), ?_, a3, World.cell_of_heap a4 0⟩
          rw [← hnm]
          exact a2 _ (by rw [← HN.out]; exact hml))
        obtain ⟨d, hd⟩ : ∃ d, d = nmD ks j := ⟨_, rfl⟩
        obtain ⟨y, hy⟩ : ∃ y, y = nmD ks (tn ks j) := ⟨_, rfl⟩
        obtain ⟨t, ht⟩ : ∃ t, t = tn ks j := ⟨_, rfl⟩
        obtain ⟨e, hee⟩ : ∃ e, e = mt (nmD ks j) := ⟨_, rfl⟩
        obtain ⟨m, hm⟩ : ∃ m, m = mp ks j := ⟨_, rfl⟩
        have hdy : (nats (decL ks))[d]? = some ((y : Nat) : Int) := by
          have h1 := nats_at (s := decL ks) (d := d) (by rw [decL_length, hd]; exact hdl)
          rw [h1, sg_decL (by rw [hd]; exact hdl), hd, hsd, hy]
        have hel : e < n := by rw [hee, ← hnm, ← HN.out]; exact HWW.out.nm_lt hml
        rw [← hy, ← ht, ← hee, ← hm, ← hd] at HC
        rw [← hd, HN.out] at hdl
        rw [← hy, HN.out] at hyl
        have hMt := fun W => refMate06_any d W (by omega)
        rw [show mt d = e by rw [hd, hee]] at hMt
        have HE := Lib.hid (And.intro ht hm)
        obtain ⟨c1, c2, c3, c4, c5⟩ := HC.out wr hkw
        obtain ⟨gD, oD, rfl, c6⟩ := c4.cellAt hdy
        have HD := Lib.hid hdy
        have HC2 : Hid (∀ W, Keeps (fun _ => False) wb W → ∀ fv, B13 b6 gS gM gV n fv W → W.cell? ⟨b6, 0, none⟩ = some (.slice (some ⟨gS, 0, none⟩) n n) ∧ W.cell? ⟨w3.heap.size, 0, none⟩ = some (.slice (some ⟨gD, oD, none⟩) n sc) ∧ W.cell? ⟨gD, oD + d, none⟩ = some (.int .i64 y) ∧ W.cell? ⟨gI, y, none⟩ = some (.int .i64 t)) := Lib.hid (fun W hk fv hb => by
          obtain ⟨b1, b2, b3, b4, b5⟩ := HC.out W hk
          exact ⟨World.cell_of_heap hb 0, b5, b4.cellOf HD.out, b2⟩)
        have HC3 : Hid (∀ W, Keeps (fun _ => False) wb W → ∀ fv, B13 b6 gS gM gV n fv W → W.cell? ⟨b6, 1, none⟩ = some (.slice (some ⟨gM, 0, none⟩) n n) ∧ W.cell? ⟨gI, e, none⟩ = some (.int .i64 m)) := Lib.hid (fun W hk fv hb => by
          obtain ⟨b1, b2, b3, b4, b5⟩ := HC.out W hk
          exact ⟨World.cell_of_heap hb 1, b3⟩)
        obtain ⟨zS, _, hzS, hfS⟩ := hMS.cell j hlt
        have hMS1 := (hMS.keeps ((Keeps.refl _ wr).drew)).set (Q := Fst13 (tn ks) (j + 1)) j (t : Int) (fun zs hzl h => by rw [HE.out.1]; exact h.step (by omega))
        obtain ⟨_, _, _, _, hkw1⟩ := id hMS1
        have hB1 := HB.out gS j (.int .i64 (t : Int)) wr.drew (.inl rfl) _ (hB.keeps' (Keeps.refl _ wr).drew)
        have s0 := HC2.out wr.drew (hkw.drew) _ (hB.keeps' (Keeps.refl _ wr).drew)
        have s1 := HC2.out _ hkw1 _ hB1
        have hMM1 := (hMM.keeps ((Keeps.refl _ wr).drew)).keepsF ((Keeps.refl (fun q => q = gS) wr.drew).setCell (p := ⟨gS, j, none⟩) (.inl rfl) (.int .i64 (t : Int))) (by omega) (fun x hx => by subst hx; exact hMS.old.1)
        have hMV1 := (hMV.keeps ((Keeps.refl _ wr).drew)).keepsF ((Keeps.refl (fun q => q = gS) wr.drew).setCell (p := ⟨gS, j, none⟩) (.inl rfl) (.int .i64 (t : Int))) (by omega) (fun x hx => by subst hx; exact hMS.old.1)
        have hzSd : wr.drew.cell? ⟨gS, j, none⟩ = some (.int .i64 zS) := hzS
        have hfSd : wr.drew.frozen? ⟨gS, j, none⟩ = false := hfS
        have H1 := Lib.hid (And.intro hMS1 (And.intro hMM1 (And.intro hMV1 (And.intro hB1 hkw1))))
        have i1 : (0 : Int) ≤ (d : Int) := by omega
        have i2 : (d : Int) < (n : Int) := by omega
        have i3 : (0 : Int) ≤ (y : Int) := by omega
        have i4 : (y : Int) < (n : Int) := by omega
        have i5 : (0 : Int) ≤ (j : Int) := by omega
        have i6 : (j : Int) < (n : Int) := by omega
        have i7 : (0 : Int) ≤ (e : Int) := by omega
        have i8 : (e : Int) < (n : Int) := by omega
        clear hMS hMM hMV hB hMS1 hMM1 hMV1 hB1 hkw hkw1 hd hy ht hee hm hdy c2 c3 c4 c5 c6 hml htl hnm hsd hjk
        go_wp2_with fail
        go_region_held3 (fun w' => w'.cell? ⟨b6, 0, none⟩ = some (.slice (some ⟨gS, 0, none⟩) n n) ∧ w'.cell? ⟨w3.heap.size, 0, none⟩ = some (.slice (some ⟨gD, oD, none⟩) n sc) ∧ w'.cell? ⟨gD, oD + d, none⟩ = some (.int .i64 y) ∧ w'.cell? ⟨gI, y, none⟩ = some (.int .i64 t)) (first | exact s0 | exact s1) (fail)
        obtain ⟨W8, hW8⟩ : ∃ W8, W8 = (wr.setCell ⟨gS, j, none⟩ (.int .i64 (t : Int))).drew := ⟨_, rfl⟩
        rw [← hW8]
        obtain ⟨hMS, hMM, hMV, hB, hkw⟩ : MadeS wb gS n (Fst13 (tn ks) (j + 1)) W8 ∧ MadeS wb gM n (Fst13 (mp ks) j) W8 ∧ MadeS wb gV n (fun _ => True) W8 ∧ B13 b6 gS gM gV n (.slice none 0 0) W8 ∧ Keeps (fun _ => False) wb W8 := by
          rw [hW8]; exact H1.out
        clear hW8 s0 s1 hzS hfS hzSd hfSd H1
        obtain ⟨zM, _, hzM, hfM⟩ := hMM.cell j hlt
        have hMM1 := (hMM.keeps ((Keeps.refl _ W8).drew)).set (Q := Fst13 (mp ks) (j + 1)) j (m : Int) (fun zs hzl h => by rw [HE.out.2]; exact h.step (by omega))
        obtain ⟨_, _, _, _, hkw1⟩ := id hMM1
        have hB1 := HB.out gM j (.int .i64 (m : Int)) W8.drew (.inr (.inl rfl)) _ (hB.keeps' (Keeps.refl _ W8).drew)
        have s0 := HC3.out W8.drew (hkw.drew) _ (hB.keeps' (Keeps.refl _ W8).drew)
        have s1 := HC3.out _ hkw1 _ hB1
        have hMS1 := (hMS.keeps ((Keeps.refl _ W8).drew)).keepsF ((Keeps.refl (fun q => q = gM) W8.drew).setCell (p := ⟨gM, j, none⟩) (.inl rfl) (.int .i64 (m : Int))) (by omega) (fun x hx => by subst hx; exact hMM.old.1)
        have hMV1 := (hMV.keeps ((Keeps.refl _ W8).drew)).keepsF ((Keeps.refl (fun q => q = gM) W8.drew).setCell (p := ⟨gM, j, none⟩) (.inl rfl) (.int .i64 (m : Int))) (by omega) (fun x hx => by subst hx; exact hMM.old.1)
        have hzMd : W8.drew.cell? ⟨gM, j, none⟩ = some (.int .i64 zM) := hzM
        have hfMd : W8.drew.frozen? ⟨gM, j, none⟩ = false := hfM
        have H1 := Lib.hid (And.intro hMS1 (And.intro hMM1 (And.intro hMV1 hB1)))
        clear hMS hMM hMV hB hMS1 hMM1 hMV1 hB1 hkw hkw1
        go_wp2_with fail
        go_region_held3 (fun w' => w'.cell? ⟨b6, 1, none⟩ = some (.slice (some ⟨gM, 0, none⟩) n n) ∧ w'.cell? ⟨gI, e, none⟩ = some (.int .i64 m)) (first | exact s0 | exact s1) ((go_at_call 180; refine (hMt _).mono ?_; rintro e' w' ⟨rfl, rfl⟩))
        obtain ⟨W9, hW9⟩ : ∃ W9, W9 = (W8.setCell ⟨gM, j, none⟩ (.int .i64 (m : Int))).drew := ⟨_, rfl⟩
        rw [← hW9]
        have H2 : Hid (MadeS wb gS n (Fst13 (tn ks) (j + 1)) W9 ∧ MadeS wb gM n (Fst13 (mp ks) (j + 1)) W9 ∧ MadeS wb gV n (fun _ => True) W9 ∧ B13 b6 gS gM gV n (.slice none 0 0) W9) := Lib.hid (by rw [hW9]; exact H1.out)
        clear hW9 s0 s1 hzM hfM hzMd hfMd H1 i1 i2 i3 i4 i5 i6 i7 i8
        go_wp2
        go_roundg (n - (j + 1))
        case measure => rw [HG.out]; omega
        case rel => exact ⟨j + 1, by omega, rfl, by go_num, ⟨H2.out.1, H2.out.2.1⟩, H2.out.2.2⟩
      · obtain rfl : j = n := by omega
        have hSM : MadeS wb gS j (fun zs => zs = nats (tnL ks)) wr ∧ MadeS wb gM j (fun zs => zs = nats ((List.range j).map (mp ks))) wr := ⟨hMS.mono (fun zs hzl h => by unfold tnL; rw [HN.out]; exact h.all hzl), hMM.mono (fun zs hzl h => h.all hzl)⟩
        have h0 : (MadeS wb gS j (fun zs => zs = nats (tnL ks)) wr ∧ MadeS wb gM j (fun zs => zs = nats ((List.range j).map (mp ks))) wr) ∧ MadeS wb gV j (Neg13 0) wr ∧ B13 b6 gS gM gV j (.slice none 0 0) wr := ⟨hSM, hMV.mono (fun zs _ _ i hi => by omega), hB⟩
        have d2 := World.cell_of_heap hB 2
        clear hMS hMM hMV hB hSM hlt hj HG
        go_wp2_with fail
        clear d2
        go_loopg [61] j (fun m i wr => ∃ k : Nat, k ≤ j ∧ m = j - k ∧ i = .int .i64 k ∧ (MadeS wb gS j (fun zs => zs = nats (tnL ks)) wr ∧ MadeS wb gM j (fun zs => zs = nats ((List.range j).map (mp ks))) wr) ∧ MadeS wb gV j (Neg13 k) wr ∧ B13 b6 gS gM gV j (.slice none 0 0) wr)
        case atStart => exact ⟨0, Nat.zero_le _, rfl, rfl, h0⟩
        case round =>
          clear h0
          obtain ⟨k, hk, hgk, rfl, ⟨hMS, hMM⟩, hMV, hB⟩ := hrel
          have HG := Lib.hid hgk
          clear hgk
          have d2 := World.cell_of_heap hB 2
          by_cases hlt : k < j
          · obtain ⟨z, _, hzc, hzf⟩ := hMV.cell k hlt
            have kset := (Keeps.refl (fun q => q = gV) wr).setCell (p := ⟨gV, k, none⟩) (.inl rfl) (.int .i64 (-1))
            have H2 := Lib.hid (And.intro (And.intro (hMS.keepsF kset (by omega) (fun x hx => by subst hx; exact hMV.old.1)) (hMM.keepsF kset (by omega) (fun x hx => by subst hx; exact hMV.old.1))) (And.intro (hMV.set (Q := Neg13 (k + 1)) k (-1) (fun zs hzl h => h.step (by omega))) (HB.out gV k (.int .i64 (-1)) wr (.inr (.inr rfl)) _ hB)))
            clear hMS hMM hMV hB kset
            go_wp2
            go_roundg (j - (k + 1))
            case measure => rw [HG.out]; omega
            case rel => exact ⟨k + 1, by omega, rfl, by go_num, H2.out⟩
          · obtain rfl : k = j := by omega
            have hP := HWW.out.tnL_isP
            rw [tnL_length, HN.out] at hP
            have h0 : L13 wb gS gM gV b6 k ks (fsL (tnL ks) 0) (NmI (tnL ks) 0) (.slice none 0 0) wr := ⟨⟨hMS, hMM⟩, hMV.mono (fun zs hzl h x hx => by rw [tnL_length, HN.out] at hx; rw [if_neg (by omega)]; exact h x hx), hB, OwnI.nil _ _, fun q hq => by simp [Value.ownBlock] at hq⟩
            have HP : Hid (IsP k (sg (tnL ks)) ∧ (gS ≠ gV ∧ gM ≠ gV ∧ b6 ≠ gV) ∧ (b6 ≠ gS ∧ b6 ≠ gM ∧ b6 ≠ gV ∧ wb.heap.size ≤ b6)) := Lib.hid ⟨hP, ⟨hd2, hd3, hd6⟩, hd4, hd5, hd6, hd7⟩
            clear hMS hMM hMV hB d2 hlt hk HG hP
            go_wp2_with fail
            go_loopg [71] k (fun m i wr => ∃ j : Nat, j ≤ k ∧ m = k - j ∧ i = .int .i64 j ∧ ∃ fv, L13 wb gS gM gV b6 k ks (fsL (tnL ks) j) (NmI (tnL ks) j) fv wr)
            case atStart => exact ⟨0, Nat.zero_le _, rfl, rfl, _, h0⟩
            case round =>
              clear h0
              obtain ⟨j, hj, hgk, rfl, fv, hL⟩ := hrel
              have HG := Lib.hid hgk
              clear hgk
              have hB := hL.2.2.1
              have d0 := World.cell_of_heap hB 0
              have d1 := World.cell_of_heap hB 1
              have d2 := World.cell_of_heap hB 2
              have d3 := World.cell_of_heap hB 3
              have hld := ldr_le (sg (tnL ks)) j
              have hfs := fsL_succ (tnL ks) j
              by_cases hlt : j < k
              · obtain ⟨z, ⟨zs, hzl, hzP, hzz⟩, hc, hf⟩ := hL.2.1.cell j hlt
                have htl : (tnL ks).length = k := by rw [tnL_length, HN.out]
                rcases NmI.at (by rw [htl]; exact HP.out.1) (by rw [htl]; exact hlt) hzP hzz with ⟨hr, rfl⟩ | ⟨hr, hz⟩
                · rw [if_pos hr] at hfs
                  have hSl : Sl .i64 wr (.slice (some ⟨gS, 0, none⟩) k k) (nats (tnL ks)) := by obtain ⟨zs, _, rfl, ho, _⟩ := hL.1.1; exact ho.sl
                  have hO := refOrbit_any (.slice (some ⟨gS, 0, none⟩) k k) (tnL ks) j wr hSl (by rw [htl]; exact HP.out.1) (by rw [htl]; exact hlt) (by omega)
                  have tneg : decide ((-1 : Int) < 0) = true := by decide
                  have HLL := Lib.hid (And.intro hL (And.intro hr hfs))
                  clear hL hr hfs hzP hzz hzl hB hSl
                  go_wp2_with fail
                  refine hO.mono ?_
                  rintro e w4 ⟨ov, rfl, hown, hk4⟩
                  have hL4 := HLL.out.1.keeps hk4
                  have hpl : (nats (orb (sg (tnL ks)) j)).length = per (sg (tnL ks)) j := by rw [nats_len, orb_length]
                  have hpb := (HP.out.1.per_spec hlt).2.1
                  have hfo := hown.form
                  rw [hpl] at hfo
                  obtain ⟨oa, oc, rfl, _, _⟩ := hfo
                  have hgVl := HLL.out.1.2.1.old.2
                  have HOw : Hid (∀ W, Keeps (fun q => q = gV) w4 W → Sl .i64 W (.slice oa (per (sg (tnL ks)) j) oc) (nats (orb (sg (tnL ks)) j))) := Lib.hid (fun W hk => (hown.keeps hk (fun q hq e => by have := (hown.lt q hq).1; omega)).sl)
                  have h1 : L13 wb gS gM gV b6 k ks (fsL (tnL ks) j) (NmK (tnL ks) j 0) fv w4 := ⟨hL4.1, hL4.2.1.mono (fun zs _ h => NmK.zero h), hL4.2.2⟩
                  have hk44 := Keeps.refl (fun q => q = gV) w4
                  obtain ⟨c, hcc⟩ : ∃ c, c = ldr (sg (tnL ks)) j := ⟨_, rfl⟩
                  obtain ⟨fa, fc, hfv, _, _⟩ := h1.2.2.2.1.form
                  rw [nats_len, fsL_length, ← hcc] at hfv
                  subst hfv
                  rw [← hcc] at hld
                  have HC := Lib.hid hcc
                  obtain ⟨p, hpp⟩ : ∃ p, p = per (sg (tnL ks)) j := ⟨_, rfl⟩
                  rw [← hpp] at HOw hpb ⊢
                  have HPP := Lib.hid hpp
                  clear hO hown hpl hc hf hL4 hk4 hcc hpp d0 d1 d2 d3
                  go_wp2_with fail
                  go_loopg [85] p (fun m i wr => ∃ t : Nat, t ≤ p ∧ m = p - t ∧ i = .int .i64 t ∧ L13 wb gS gM gV b6 k ks (fsL (tnL ks) j) (NmK (tnL ks) j t) (.slice fa c fc) wr ∧ Keeps (fun q => q = gV) w4 wr)
                  case atStart => exact ⟨0, Nat.zero_le _, rfl, rfl, h1, hk44⟩
                  case round =>
                    clear h1 hk44
                    obtain ⟨t, ht, hgk, rfl, hL, hk4⟩ := hrel
                    have HG4 := Lib.hid hgk
                    clear hgk
                    have hB := hL.2.2.1
                    have d2 := World.cell_of_heap hB 2
                    have d3 := World.cell_of_heap hB 3
                    have z3 := World.free_of_heap hB 3
                    by_cases hkl : t < p
                    · have hox := orb_get (S := sg (tnL ks)) (d := j) (i := t) (by rw [← HPP.out]; exact hkl)
                      have hxn := HP.out.1.itr_lt hlt t
                      obtain ⟨og, oo, rfl, hcell⟩ := (HOw.out _ hk4).cellAt (nats_get hox)
                      obtain ⟨z, _, hc4, hf4⟩ := hL.2.1.cell _ hxn
                      have hN := hL.set (Q := NmK (tnL ks) j (t + 1)) HP.out.2.1 (itr (sg (tnL ks)) t j) ((ldr (sg (tnL ks)) j : Nat) : Int) (fun zs hzl h => NmK.step (by rw [htl]; exact HP.out.1) (by rw [htl]; exact hlt) HLL.out.2.1 hox (by rw [htl]; exact hzl) h)
                      have hkN := hk4.setCell (p := ⟨gV, itr (sg (tnL ks)) t j, none⟩) (.inl rfl) (.int .i64 ((ldr (sg (tnL ks)) j : Nat) : Int))
                      rw [← HC.out] at hN hkN
                      have HNN := Lib.hid (And.intro hN hkN)
                      clear hN hkN hL hk4 hox hB
                      generalize itr (sg (tnL ks)) t j = x at *
                      go_wp2
                      go_roundg (p - (t + 1))
                      case measure => rw [HG4.out]; omega
                      case rel => exact ⟨t + 1, by omega, rfl, by go_num, HNN.out⟩
                    · obtain rfl : t = p := by omega
                      have hLd : L13 wb gS gM gV b6 k ks (fsL (tnL ks) j) (NmI (tnL ks) (j + 1)) (.slice fa c fc) wr := ⟨hL.1, hL.2.1.mono (fun zs _ h => NmK.done (by rw [htl]; exact HP.out.1) (by rw [htl]; exact hlt) HLL.out.2.1 (by rw [← HPP.out]; exact h)), hL.2.2⟩
                      have hown := hLd.2.2.2.1
                      obtain ⟨_, _, _, _, hkb⟩ := id hLd.2.1
                      have hsz := hkb.size
                      have hcb : c ≤ 10000000000 := by omega
                      have HNN : Hid ((nats (fsL (tnL ks) j)).length = c) := Lib.hid (by rw [nats_len, fsL_length, ← HC.out])
                      have HLd := Lib.hid hLd
                      clear hLd hL hk4 hkb hB
                      go_wp2_with (at_builtin; refine append1n c rfl (.tmp 98) (.tmp 100) rfl wb.heap.size (.slice fa c fc) (nats (fsL (tnL ks) j)) (j : Nat) HNN wr.heap.size rfl rfl rfl hown hcb hsz ?_; intro g2 cap2 w9 hown3 hk3 hat hg; have hpu := HLd.out.push (fs' := fsL (tnL ks) j ++ [j]) HP.out.2.2 (by rw [nats_snoc]; exact hown3) hk3 hat; have e3 := World.cell_of_heap hpu.1 3; have y3 := World.free_of_heap hpu.1 3; have HPU := Lib.hid hpu.2; clear hpu hown3 hk3 hat)
                      go_roundg (k - (j + 1))
                      case measure => rw [HG.out]; omega
                      case rel => exact ⟨j + 1, by omega, rfl, by go_num, _, by rw [HLL.out.2.2]; exact HPU.out⟩
                · rw [if_neg hr, List.append_nil] at hfs
                  have tpos : decide ((z : Int) < 0) = false := decide_eq_false (by omega)
                  have HF : Hid (L13 wb gS gM gV b6 k ks (fsL (tnL ks) (j + 1)) (NmI (tnL ks) (j + 1)) fv wr) := Lib.hid (by rw [hfs]; exact ⟨hL.1, hL.2.1.mono (fun zs _ h => NmI.skip (by rw [htl]; exact HP.out.1) hr h), hL.2.2⟩)
                  clear hL hr hfs hzP hzz hzl hB
                  go_wp2
                  go_roundg (k - (j + 1))
                  case measure => rw [HG.out]; omega
                  case rel => exact ⟨j + 1, by omega, rfl, by go_num, _, HF.out⟩
              · obtain rfl : j = k := by omega
                clear hB
                obtain ⟨fa, fc, hfv, _, _⟩ := hL.2.2.2.1.form
                obtain ⟨c, hcc⟩ : ∃ c, (nats (fsL (tnL ks) j)).length = c := ⟨_, rfl⟩
                rw [hcc] at hfv
                subst hfv
                clear hcc
                obtain ⟨_, _, _, _, hkb⟩ := id hL.2.1
                obtain ⟨_, _, _, _, hbr, hkw⟩ := H3.out wr hkb
                have zz := World.free_of_heap hbr
                have e0 := World.cell_of_heap hbr 0
                have e1 := World.cell_of_heap hbr 1
                have e2 := World.cell_of_heap hbr 2
                have e3 := World.cell_of_heap hbr 3
                obtain ⟨r1, r2⟩ := res4 hbr (.slice (some ⟨gS, 0, none⟩) j j) (.slice (some ⟨gM, 0, none⟩) j j) (.slice (some ⟨gV, 0, none⟩) j j) (.slice fa c fc)
                have hwb2 : w.heap.size < wb.heap.size := by omega
                have hfin : OwnI w.heap.size ((((wr.setCell ⟨w.heap.size, 0, none⟩ (.slice (some ⟨gS, 0, none⟩) j j)).setCell ⟨w.heap.size, 1, none⟩ (.slice (some ⟨gM, 0, none⟩) j j)).setCell ⟨w.heap.size, 2, none⟩ (.slice (some ⟨gV, 0, none⟩) j j)).setCell ⟨w.heap.size, 3, none⟩ (.slice fa c fc)) (.slice (some ⟨gS, 0, none⟩) j j) (nats (tnL ks)) ∧ OwnI w.heap.size ((((wr.setCell ⟨w.heap.size, 0, none⟩ (.slice (some ⟨gS, 0, none⟩) j j)).setCell ⟨w.heap.size, 1, none⟩ (.slice (some ⟨gM, 0, none⟩) j j)).setCell ⟨w.heap.size, 2, none⟩ (.slice (some ⟨gV, 0, none⟩) j j)).setCell ⟨w.heap.size, 3, none⟩ (.slice fa c fc)) (.slice (some ⟨gM, 0, none⟩) j j) (nats ((List.range j).map (mp ks))) ∧ OwnI w.heap.size ((((wr.setCell ⟨w.heap.size, 0, none⟩ (.slice (some ⟨gS, 0, none⟩) j j)).setCell ⟨w.heap.size, 1, none⟩ (.slice (some ⟨gM, 0, none⟩) j j)).setCell ⟨w.heap.size, 2, none⟩ (.slice (some ⟨gV, 0, none⟩) j j)).setCell ⟨w.heap.size, 3, none⟩ (.slice fa c fc)) (.slice (some ⟨gV, 0, none⟩) j j) (nats ((List.range j).map (vx ks))) ∧ OwnI w.heap.size ((((wr.setCell ⟨w.heap.size, 0, none⟩ (.slice (some ⟨gS, 0, none⟩) j j)).setCell ⟨w.heap.size, 1, none⟩ (.slice (some ⟨gM, 0, none⟩) j j)).setCell ⟨w.heap.size, 2, none⟩ (.slice (some ⟨gV, 0, none⟩) j j)).setCell ⟨w.heap.size, 3, none⟩ (.slice fa c fc)) (.slice fa c fc) (nats (fsL (tnL ks) j)) := by
                  have key : ∀ {v : Value} {zs : List Int}, OwnI wb.heap.size wr v zs → OwnI w.heap.size ((((wr.setCell ⟨w.heap.size, 0, none⟩ (.slice (some ⟨gS, 0, none⟩) j j)).setCell ⟨w.heap.size, 1, none⟩ (.slice (some ⟨gM, 0, none⟩) j j)).setCell ⟨w.heap.size, 2, none⟩ (.slice (some ⟨gV, 0, none⟩) j j)).setCell ⟨w.heap.size, 3, none⟩ (.slice fa c fc)) v zs := fun {v zs} ho =>
                    (ho.keeps r2 (fun q hq e => by have := (ho.lt q hq).1; omega)).mono (fun q hq => by have := (ho.lt q hq).1; omega)
                  obtain ⟨⟨⟨z1, _, rfl, o1, _⟩, ⟨z2, _, rfl, o2, _⟩⟩, ⟨z3, hz3, hP3, o3, _⟩, _, o4, _⟩ := hL
                  refine ⟨key o1, key o2, ?_, key o4⟩
                  have hj3 : j = (tnL ks).length := by rw [tnL_length, HN.out]
                  have hz4 := NmI.all (by rw [← hj3]; exact HP.out.1) (by rw [← hj3]; exact hz3) (by rw [← hj3]; exact hP3)
                  have hz5 : z3 = nats ((List.range j).map (vx ks)) := by
                    rw [hz4, ← hj3]
                    congr 1
                    exact List.map_congr_left (fun d hd => HWW.out.vnum_tnL (by rw [HN.out]; exact List.mem_range.1 hd))
                  rw [← hz5]
                  exact key o3
                have g0 := World.cell_of_heap r1 0
                have g1 := World.cell_of_heap r1 1
                have g2 := World.cell_of_heap r1 2
                have g3 := World.cell_of_heap r1 3
                have HLL := Lib.hid (And.intro hfin (And.intro (hkw.trans r2 (fun x hx e => by omega)) (And.intro g0 (And.intro g1 (And.intro g2 g3)))))
                clear hL hkb hbr hkw hfs hfin r1 r2 g0 g1 g2 g3
                go_wp2
                obtain ⟨hfin, hkk, g0, g1, g2, g3⟩ := HLL.out
                refine bodyPost_ret (v := .agg #[.slice (some ⟨gS, 0, none⟩) j j, .slice (some ⟨gM, 0, none⟩) j j, .slice (some ⟨gV, 0, none⟩) j j, .slice fa c fc]) ?_ rfl ⟨_, _, _, _, rfl, hfin.1, ?_, ?_, ?_, hkk⟩
                · simp at g0 g1 g2 g3
                  simp [results, Tryz.results119, go_sem, g0, g1, g2, g3]
                · rw [HN.out]; exact hfin.2.1
                · rw [HN.out]; exact hfin.2.2.1
                · rw [HN.out]; exact hfin.2.2.2

end Go.Proofs.YtipelclohcdkcaaGreat
