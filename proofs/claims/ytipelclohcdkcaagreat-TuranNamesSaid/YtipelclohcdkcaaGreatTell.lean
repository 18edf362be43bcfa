/- The contracts of dart's names: the orbits of a permutation are named once, and counted. -/
import Derived.Test.YtipelclohcdkcaaGreatPerms2
namespace Go.Proofs.YtipelclohcdkcaaGreat
open Go.RowKit

/-- How great each orbit is, as far as the numbers below j. -/
noncomputable def szJ (S : Nat → Nat) (j : Nat) : List Nat := (List.range (ldr S j)).map fun k => ((List.range j).filter fun d => vnum S d == k).length
theorem szJ_length (S : Nat → Nat) (j : Nat) : (szJ S j).length = ldr S j := by simp [szJ]
theorem szJ_get {S : Nat → Nat} {j k : Nat} (hk : k < ldr S j) : (szJ S j)[k]? = some ((List.range j).filter fun d => vnum S d == k).length := by simp [szJ, hk]

theorem szJ_cnt (S : Nat → Nat) (j k : Nat) : ((List.range (j + 1)).filter fun d => vnum S d == k).length = ((List.range j).filter fun d => vnum S d == k).length + if vnum S j = k then 1 else 0 := by
  rw [List.range_succ, List.filter_append, List.length_append]
  by_cases h : vnum S j = k <;> simp [h]

theorem IsP.vnum_lt_of {n : Nat} {S : Nat → Nat} (h : IsP n S) {d j : Nat} (hd : d < j) (hj : j ≤ n) : vnum S d < ldr S j := by
  have hr := h.rep_self_le (i := d) (by omega)
  have h1 := ldr_succ S (rep S d)
  rw [if_pos (h.rep_rep (by omega))] at h1
  have h2 := ldr_mono S (show rep S d + 1 ≤ j by omega)
  unfold vnum
  omega

/-- A new orbit: a size more; an old one: its size is one more. -/
theorem szJ_new {n : Nat} {S : Nat → Nat} (h : IsP n S) {j : Nat} (hj : j < n) (hr : rep S j = j) : vnum S j = ldr S j ∧ szJ S (j + 1) = (szJ S j ++ [0]).set (vnum S j) 1 := by
  have hv : vnum S j = ldr S j := by unfold vnum; rw [hr]
  refine ⟨hv, ?_⟩
  have hl : ldr S (j + 1) = ldr S j + 1 := by rw [ldr_succ, if_pos hr]
  apply List.ext_getElem?
  intro k
  rw [hv]
  rcases Nat.lt_trichotomy k (ldr S j) with hk | hk | hk
  · rw [szJ_get (by omega), List.getElem?_set, if_neg (by omega), List.getElem?_append_left (by rw [szJ_length]; exact hk), szJ_get hk, szJ_cnt, if_neg (by omega)]
    rfl
  · rw [szJ_get (by omega), List.getElem?_set, if_pos hk.symm, if_pos (by simp [szJ_length]), szJ_cnt, if_pos (by omega)]
    have : (List.range j).filter (fun d => vnum S d == k) = [] := by
      rw [List.filter_eq_nil_iff]
      intro d hd
      have := h.vnum_lt_of (List.mem_range.1 hd) (by omega)
      simp; omega
    rw [this]; rfl
  · rw [List.getElem?_eq_none (by rw [szJ_length]; omega), List.getElem?_eq_none (by simp [szJ_length]; omega)]

theorem szJ_old {n : Nat} {S : Nat → Nat} (h : IsP n S) {j : Nat} (hj : j < n) (hr : rep S j ≠ j) : ∃ x : Nat, vnum S j < ldr S j ∧ (szJ S j)[vnum S j]? = some x ∧ x ≤ j ∧ szJ S (j + 1) = (szJ S j).set (vnum S j) (x + 1) := by
  have hl : ldr S (j + 1) = ldr S j := by rw [ldr_succ, if_neg hr]; rfl
  have hv : vnum S j < ldr S j := by
    have := h.vnum_lt_of (show j < j + 1 by omega) (by omega)
    omega
  refine ⟨_, hv, szJ_get hv, Nat.le_trans (List.length_filter_le _ _) (by simp), ?_⟩
  apply List.ext_getElem?
  intro k
  rw [List.getElem?_set]
  by_cases hk : k < ldr S j
  · rw [szJ_get (by omega), szJ_cnt]
    by_cases hvk : vnum S j = k
    · rw [if_pos hvk, if_pos hvk, if_pos (by rw [szJ_length]; omega), hvk]
    · rw [if_neg hvk, if_neg hvk, szJ_get hk]; rfl
  · rw [if_neg (by omega), List.getElem?_eq_none (by rw [szJ_length]; omega), List.getElem?_eq_none (by rw [szJ_length]; omega)]

/-- Names in a block, six cells from o on: of the permutation at bp; the block's other cells are cs'. -/
def NB (w : World) (b o : Nat) (t : TypeId) (cs : Array Value) (bp : Nat) (done : Bool) (lock : Int) (ov zv : Value) : Prop :=
  ∃ cur : Array Value, w.heap[b]? = some (.cells cur t (0, 0)) ∧ cur.size = cs.size ∧ o + 5 < cs.size ∧ cur[o]? = some (.pointer (some ⟨bp, 0, none⟩)) ∧ cur[o + 1]? = some (.int .u32 (if done then 1 else 0)) ∧
    cur[o + 2]? = some (.int .i32 lock) ∧ cur[o + 3]? = some (.int .u32 0) ∧ cur[o + 4]? = some ov ∧ cur[o + 5]? = some zv ∧ ∀ i, (i < o ∨ o + 5 < i) → cur[i]? = cs[i]?

section
variable {w : World} {b o : Nat} {t : TypeId} {cs : Array Value} {bp : Nat} {done : Bool} {lock : Int} {ov zv : Value} (h : NB w b o t cs bp done lock ov zv)
include h

theorem NB.lt : b < w.heap.size := by
  obtain ⟨cur, h1, _⟩ := h
  exact lt_of_block h1
theorem NB.c0 : w.cell? ⟨b, o, none⟩ = some (.pointer (some ⟨bp, 0, none⟩)) := by
  obtain ⟨cur, h1, h2, h3, c0, c1, c2, c3, c4, c5, h4⟩ := h
  exact (World.cell_of_heap h1 o).trans c0
theorem NB.c1 : w.cell? ⟨b, o + 1, none⟩ = some (.int .u32 (if done then 1 else 0)) := by
  obtain ⟨cur, h1, h2, h3, c0, c1, c2, c3, c4, c5, h4⟩ := h
  exact (World.cell_of_heap h1 (o + 1)).trans c1
theorem NB.c2 : w.cell? ⟨b, o + 1 + 1, none⟩ = some (.int .i32 lock) := by
  obtain ⟨cur, h1, h2, h3, c0, c1, c2, c3, c4, c5, h4⟩ := h
  exact (World.cell_of_heap h1 (o + 1 + 1)).trans c2
theorem NB.c4 : w.cell? ⟨b, o + 4, none⟩ = some ov := by
  obtain ⟨cur, h1, h2, h3, c0, c1, c2, c3, c4, c5, h4⟩ := h
  exact (World.cell_of_heap h1 (o + 4)).trans c4
theorem NB.c5 : w.cell? ⟨b, o + 5, none⟩ = some zv := by
  obtain ⟨cur, h1, h2, h3, c0, c1, c2, c3, c4, c5, h4⟩ := h
  exact (World.cell_of_heap h1 (o + 5)).trans c5
theorem NB.free (i : Nat) : w.frozen? ⟨b, i, none⟩ = false := by
  obtain ⟨cur, h1, _⟩ := h
  exact World.free_of_heap h1 i
theorem NB.keeps {w' : World} {G : Nat → Prop} (k : Keeps G w w') (hb : ¬ G b) : NB w' b o t cs bp done lock ov zv := by
  obtain ⟨cur, h1, h2⟩ := h
  exact ⟨cur, k.at h1 hb, h2⟩
theorem NB.set1 (x : Bool) : NB (w.setCell ⟨b, o + 1, none⟩ (.int .u32 (if x then 1 else 0))) b o t cs bp x lock ov zv := by
  obtain ⟨cur, h1, h2, h3, c0, c1, c2, c3, c4, c5, h4⟩ := h
  have hq : ∀ i, ¬ o + 1 = i → (cur.setIfInBounds (o + 1) (.int .u32 (if x then 1 else 0)))[i]? = cur[i]? := fun i hi => by rw [Array.getElem?_setIfInBounds, if_neg hi]
  have hp : (cur.setIfInBounds (o + 1) (.int .u32 (if x then 1 else 0)))[o + 1]? = some (.int .u32 (if x then 1 else 0)) := by rw [Array.getElem?_setIfInBounds, if_pos rfl, if_pos (by omega)]
  exact ⟨_, heap_setCell_same h1 (o + 1) _, by simpa using h2, h3, (hq _ (by omega)).trans c0, hp, (hq _ (by omega)).trans c2, (hq _ (by omega)).trans c3, (hq _ (by omega)).trans c4, (hq _ (by omega)).trans c5, fun i hi => (hq i (by omega)).trans (h4 i hi)⟩
theorem NB.set2 (x : Int) : NB (w.setCell ⟨b, o + 1 + 1, none⟩ (.int .i32 x)) b o t cs bp done x ov zv := by
  obtain ⟨cur, h1, h2, h3, c0, c1, c2, c3, c4, c5, h4⟩ := h
  have hq : ∀ i, ¬ o + 1 + 1 = i → (cur.setIfInBounds (o + 1 + 1) (.int .i32 x))[i]? = cur[i]? := fun i hi => by rw [Array.getElem?_setIfInBounds, if_neg hi]
  have hp : (cur.setIfInBounds (o + 1 + 1) (.int .i32 x))[o + 1 + 1]? = some (.int .i32 x) := by rw [Array.getElem?_setIfInBounds, if_pos rfl, if_pos (by omega)]
  exact ⟨_, heap_setCell_same h1 (o + 1 + 1) _, by simpa using h2, h3, (hq _ (by omega)).trans c0, (hq _ (by omega)).trans c1, hp, (hq _ (by omega)).trans c3, (hq _ (by omega)).trans c4, (hq _ (by omega)).trans c5, fun i hi => (hq i (by omega)).trans (h4 i hi)⟩
theorem NB.set4 (x : Value) : NB (w.setCell ⟨b, o + 4, none⟩ x) b o t cs bp done lock x zv := by
  obtain ⟨cur, h1, h2, h3, c0, c1, c2, c3, c4, c5, h4⟩ := h
  have hq : ∀ i, ¬ o + 4 = i → (cur.setIfInBounds (o + 4) x)[i]? = cur[i]? := fun i hi => by rw [Array.getElem?_setIfInBounds, if_neg hi]
  have hp : (cur.setIfInBounds (o + 4) x)[o + 4]? = some x := by rw [Array.getElem?_setIfInBounds, if_pos rfl, if_pos (by omega)]
  exact ⟨_, heap_setCell_same h1 (o + 4) _, by simpa using h2, h3, (hq _ (by omega)).trans c0, (hq _ (by omega)).trans c1, (hq _ (by omega)).trans c2, (hq _ (by omega)).trans c3, hp, (hq _ (by omega)).trans c5, fun i hi => (hq i (by omega)).trans (h4 i hi)⟩
theorem NB.set5 (x : Value) : NB (w.setCell ⟨b, o + 5, none⟩ x) b o t cs bp done lock ov x := by
  obtain ⟨cur, h1, h2, h3, c0, c1, c2, c3, c4, c5, h4⟩ := h
  have hq : ∀ i, ¬ o + 5 = i → (cur.setIfInBounds (o + 5) x)[i]? = cur[i]? := fun i hi => by rw [Array.getElem?_setIfInBounds, if_neg hi]
  have hp : (cur.setIfInBounds (o + 5) x)[o + 5]? = some x := by rw [Array.getElem?_setIfInBounds, if_pos rfl, if_pos (by omega)]
  exact ⟨_, heap_setCell_same h1 (o + 5) _, by simpa using h2, h3, (hq _ (by omega)).trans c0, (hq _ (by omega)).trans c1, (hq _ (by omega)).trans c2, (hq _ (by omega)).trans c3, (hq _ (by omega)).trans c4, hp, fun i hi => (hq i (by omega)).trans (h4 i hi)⟩
end

/-- What telling the names leaves. -/
def ToldAt (w : World) (b o : Nat) (t : TypeId) (cs : Array Value) (bp : Nat) (lock : Int) (s : List Nat) (w' : World) : Prop :=
  ∃ ov zv, NB w' b o t cs bp false lock ov zv ∧ Sl .i64 w' ov (nats ((List.range s.length).map (vnum (sg s)))) ∧ Sl .i64 w' zv (nats (szJ (sg s) s.length)) ∧
    (∀ k, ov.ownBlock = some k → w.heap.size ≤ k ∧ k < w'.heap.size) ∧ (∀ k, zv.ownBlock = some k → w.heap.size ≤ k ∧ k < w'.heap.size) ∧ Keeps (fun k => k = b) w w'

/-- The names told, the sizes so far. -/
structure TS (w : World) (b o : Nat) (t : TypeId) (cs : Array Value) (bp : Nat) (lock : Int) (nm : List Nat) (n g : Nat) (zs : List Int) (zv : Value) (wr : World) : Prop where
  sz : OwnI w.heap.size wr zv zs
  nb : NB wr b o t cs bp false lock (.slice (some ⟨g, 0, none⟩) n n) zv
  nm : OwnI w.heap.size wr (.slice (some ⟨g, 0, none⟩) n n) (nats nm)
  ne : ∀ k, zv.ownBlock = some k → k ≠ g
  gw : w.heap.size ≤ g ∧ g < wr.heap.size
  bw : b < w.heap.size
  kee : Keeps (fun k => k = b) w wr

section
variable {w : World} {b o : Nat} {t : TypeId} {cs : Array Value} {bp : Nat} {lock : Int} {nm : List Nat} {n g : Nat} {zs : List Int} {zv : Value} {wr : World} (h : TS w b o t cs bp lock nm n g zs zv wr)
include h

theorem TS.nb5 {w5 : World} (k : Keeps (fun q => zv.ownBlock = some q) wr w5) : NB w5 b o t cs bp false lock (.slice (some ⟨g, 0, none⟩) n n) zv :=
  h.nb.keeps k (fun e => by have := (h.sz.lt b e).1; have := h.bw; omega)

theorem TS.app {w5 : World} {z : Int} {g5 m cap : Nat} (ho : OwnI w.heap.size w5 (.slice (some ⟨g5, 0, none⟩) m cap) (zs ++ [z])) (k : Keeps (fun q => zv.ownBlock = some q) wr w5) (hg : zv.ownBlock = some g5 ∨ wr.heap.size ≤ g5) :
    TS w b o t cs bp lock nm n g (zs ++ [z]) (.slice (some ⟨g5, 0, none⟩) m cap) (w5.setCell ⟨b, o + 5, none⟩ (.slice (some ⟨g5, 0, none⟩) m cap)) := by
  have hb := h.bw
  have hgw := h.gw
  have kk := (Keeps.refl (fun q => q = b) w5).setCell (p := ⟨b, o + 5, none⟩) (.inl rfl) (.slice (some ⟨g5, 0, none⟩) m cap)
  refine ⟨ho.keeps kk (fun q hq e => by have := (ho.lt q hq).1; omega), (h.nb5 k).set5 _, (h.nm.keeps k (fun q hq e => h.ne q e (by simp only [Value.ownBlock, Option.some.injEq] at hq; exact hq.symm))).keeps kk (fun q hq e => by have := (h.nm.lt q hq).1; omega), fun q hq => ?_, ⟨hgw.1, by have := k.size; have := kk.size; omega⟩, hb, (h.kee.trans k (fun x hx e => by have := (h.sz.lt x e).1; omega)).trans kk (fun _ _ e => e)⟩
  simp only [Value.ownBlock, Option.some.injEq] at hq
  subst hq
  rcases hg with hg | hg
  · exact h.ne _ hg
  · omega
end

theorem TS.put {w : World} {b o : Nat} {t : TypeId} {cs : Array Value} {bp : Nat} {lock : Int} {nm : List Nat} {n g : Nat} {zs : List Int} {g5 m cap : Nat} {wr : World} (h : TS w b o t cs bp lock nm n g zs (.slice (some ⟨g5, 0, none⟩) m cap) wr) (v : Nat) (x : Int) :
    TS w b o t cs bp lock nm n g (zs.set v x) (.slice (some ⟨g5, 0, none⟩) m cap) (wr.setCell ⟨g5, v, none⟩ (.int .i64 x)) := by
  have hb := h.bw
  have hg5 := h.sz.lt g5 rfl
  have hne := h.ne g5 rfl
  have kk := (Keeps.refl (fun q => q = g5) wr).setCell (p := ⟨g5, v, none⟩) (.inl rfl) (.int .i64 x)
  exact ⟨h.sz.set v x, h.nb.keeps kk (fun e => by omega), h.nm.keeps kk (fun q hq e => by simp only [Value.ownBlock, Option.some.injEq] at hq; omega), h.ne, ⟨h.gw.1, by have := h.gw.2; have := kk.size; omega⟩, hb, h.kee.trans kk (fun _ _ e => by omega)⟩

set_option maxRecDepth 100000 in
set_option maxHeartbeats 4000000 in
theorem tell_any (b o : Nat) (t : TypeId) (cs : Array Value) (bp : Nat) (lock : Int) (sv : Value) (s : List Nat) (w : World) (h : NB w b o t cs bp false lock (.slice none 0 0) (.slice none 0 0)) (hp : PermAt w bp sv s) (hP : IsP s.length (sg s)) (hl : s.length ≤ 1000000) :
    Calls Tryz.prog 190 #[.pointer (some ⟨b, o, none⟩)] w fun e w' => e = .returned (.tuple #[]) ∧ ToldAt w b o t cs bp lock s w' := by
  have hN := permNames_any bp sv s w hp hP hl
  have hc0 := h.c0
  have hbw := h.lt
  have HH := Lib.hid (And.intro h hP)
  have hnm : ((List.range s.length).map (vnum (sg s))).length = s.length := by simp
  clear h hp hP
  go_enter Tryz.func190, Tryz.ntmps190
  go_wp2_with fail
  refine hN.mono ?_
  rintro e w1 ⟨g, rfl, hM⟩
  have hM2 := hM
  obtain ⟨zs, hz1, hz2, hz3, hk1⟩ := hM2
  subst hz2
  have hg1 := hM.old
  have nb1 := HH.out.1.keeps hk1 (fun h => h)
  have c4 := nb1.c4
  have f4 := nb1.free (o + 4)
  have kk := (Keeps.refl (fun q => q = b) w1).setCell (p := ⟨b, o + 4, none⟩) (.inl rfl) (.slice (some ⟨g, 0, none⟩) s.length s.length)
  have h0 : TS w b o t cs bp lock ((List.range s.length).map (vnum (sg s))) s.length g (nats (szJ (sg s) 0)) (.slice none 0 0) (w1.setCell ⟨b, o + 4, none⟩ (.slice (some ⟨g, 0, none⟩) s.length s.length)) := by
    refine ⟨OwnI.nil _ _, ?_, ?_, fun k hk => by simp [Value.ownBlock] at hk, ⟨hg1.1, by have := kk.size; omega⟩, hbw, (hk1.mono (fun _ _ h => h.elim)).trans kk (fun _ _ e => e)⟩
    · exact nb1.set4 _
    · exact hz3.keeps kk (fun q hq e => by simp only [Value.ownBlock, Option.some.injEq] at hq; omega)
  have hcc := h0.nb.c4
  have HS0 := Lib.hid h0
  clear hN hM hz1 hz3 hk1 nb1 kk h0 hnm
  go_wp2_with fail
  clear hcc c4 f4 hc0
  generalize w1.setCell ⟨b, o + 4, none⟩ (.slice (some ⟨g, 0, none⟩) s.length s.length) = w2 at *
  go_loopg [17] s.length (fun m i wr => ∃ j : Nat, j ≤ s.length ∧ m = s.length - j ∧ i = .int .i64 j ∧ ∃ zv, TS w b o t cs bp lock ((List.range s.length).map (vnum (sg s))) s.length g (nats (szJ (sg s) j)) zv wr)
  case atStart => exact ⟨0, Nat.zero_le _, rfl, rfl, _, HS0.out⟩
  case round =>
    clear HS0
    obtain ⟨j, hj, hgk, rfl, zv, hT⟩ := hrel
    have HG := Lib.hid hgk
    clear hgk
    obtain ⟨za, zc, rfl, hzl, hzc⟩ := hT.sz.form
    rw [nats_len, szJ_length] at hT hzl
    by_cases hlt : j < s.length
    · have hvn : (nats ((List.range s.length).map (vnum (sg s))))[j]? = some ((vnum (sg s) j : Nat) : Int) := nats_get (by simp [hlt])
      have hk1 := (hT.nm.cell hvn).1
      have hc5 := hT.nb.c5
      have hbb := hT.bw
      have hld := ldr_le (sg s) j
      by_cases hr : rep (sg s) j = j
      · obtain ⟨e1, e2⟩ := szJ_new HH.out.2 hlt hr
        obtain ⟨m, hm⟩ : ∃ m, m = ldr (sg s) j := ⟨_, rfl⟩
        rw [e1] at hk1 e2
        rw [← hm] at hk1 e2 hzl hld
        rw [← hm] at hT hc5
        have HN : Hid ((nats (szJ (sg s) j)).length = m) := Lib.hid (by rw [nats_len, szJ_length]; exact hm.symm)
        have hown := hT.sz
        have hsz := hT.kee.size
        have hml : m ≤ 10000000000 := by omega
        have hts := fun (w5 : World) g5 cap => hT.app (w5 := w5) (z := 0) (g5 := g5) (m := m + 1) (cap := cap)
        have hn5 := fun (w5 : World) => hT.nb5 (w5 := w5)
        have HT := Lib.hid (And.intro hts (And.intro hn5 (And.intro hm e2)))
        clear hT hvn hts hn5 hm e1 e2 hr
        go_wp2_with (at_builtin; refine append1n m rfl _ _ rfl w.heap.size (.slice za m zc) (nats (szJ (sg s) j)) (0 : Int) HN wr.heap.size rfl rfl rfl hown hml hsz ?_; intro g5 cap5 w5 hown5 hk5 hat5 hg5; have hT5 := HT.out.1 w5 g5 cap5 hown5 hk5 hat5; have nb5 := HT.out.2.1 w5 hk5; have c55 := nb5.c5; have f55 := nb5.free (o + 5); have hc6 := hT5.nb.c5; have hel := hT5.sz.cell (i := m) (z := 0) (by rw [List.getElem?_append_right (by rw [HN.out]; omega), HN.out]; simp); have hel1 := hel.1; have hel2 := hel.2; have HT5 := Lib.hid hT5; clear nb5 hown5 hk5 hat5 hel hT5 hown hc5)
        have hfin := HT5.out.put m 1
        have e3 : (nats (szJ (sg s) j) ++ [0]).set m 1 = nats (szJ (sg s) (j + 1)) := by rw [HT.out.2.2.2]; simp [nats, List.map_set]
        rw [e3] at hfin
        have HF := Lib.hid hfin
        clear hfin e3
        go_roundg (s.length - (j + 1))
        case measure => rw [HG.out]; omega
        case rel => exact ⟨j + 1, by omega, rfl, by go_num, _, HF.out⟩
      · obtain ⟨x, e1, e2, hxj, e3⟩ := szJ_old HH.out.2 hlt hr
        obtain ⟨g5, c5, hv5, _, _⟩ := owns_form hT.sz (by rw [nats_len, szJ_length]; omega)
        simp only [Value.slice.injEq] at hv5
        obtain ⟨rfl, _, _⟩ := hv5
        have hel := hT.sz.cell (nats_get e2)
        have hel1 := hel.1
        have hel2 := hel.2
        have e4 : (nats (szJ (sg s) j)).set (vnum (sg s) j) ((x : Int) + 1) = nats (szJ (sg s) (j + 1)) := by rw [e3]; simp [nats, List.map_set]
        have hfin := hT.put (vnum (sg s) j) ((x : Int) + 1)
        rw [e4] at hfin
        have hnb : (((vnum (sg s) j : Nat) : Int) == ((ldr (sg s) j : Nat) : Int)) = false := by rw [beq_eq_false_iff_ne]; omega
        have HF := Lib.hid hfin
        clear hfin e4 e3 e2 hel hT hr hvn
        generalize vnum (sg s) j = v at *
        generalize ldr (sg s) j = m at *
        go_wp2
        go_roundg (s.length - (j + 1))
        case measure => rw [HG.out]; omega
        case rel => exact ⟨j + 1, by omega, rfl, by go_num, _, HF.out⟩
    · obtain rfl : j = s.length := by omega
      have HF := Lib.hid (show ToldAt w b o t cs bp lock s wr from ⟨_, _, hT.nb, hT.nm.sl, hT.sz.sl, hT.nm.lt, hT.sz.lt, hT.kee⟩)
      clear hT
      go_wp2
      go_end0
      exact ⟨rfl, HF.out⟩

end Go.Proofs.YtipelclohcdkcaaGreat
