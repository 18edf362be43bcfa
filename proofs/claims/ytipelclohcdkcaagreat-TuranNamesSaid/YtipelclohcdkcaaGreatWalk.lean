/- The contracts of package walk: a map is walked; the steps' word. -/
import Derived.Test.YtipelclohcdkcaaGreatKind
namespace Go.Proofs.YtipelclohcdkcaaGreat
open Go.RowKit

theorem infoStep : (Tryz.prog.info? 180).map (fun i => (i.zero, i.size, i.bytes)) = some (some (.agg #[.int .i64 0, .int .i64 0]), 2, 16) := by kernel_rfl

theorem cell_two_new (w : World) (a b : Value) (t : TypeId) : ∀ j u, [a, b][j]? = some u → (w.alloc (.cells #[a, b] t)).cell? ((⟨w.heap.size, 0, none⟩ : Addr).add j) = some u := by
  intro j u hj
  match j, hj with
  | 0, hj => simp at hj; subst hj; simp [Addr.add]
  | 1, hj => simp at hj; subst hj; simp [Addr.add]
  | j + 2, hj => simp at hj

/-- 'append(l, s)', of steps. -/
theorem appendStep {ops : Array Oper} {rest : List Oper} {o : Oper} {a : Act} {Q : Exit → Act → World → Prop} {wr : World} (n : Nat) (hgd : o.guard = none) (s x : Operand)
    (ho : o.op = .call { callee := .builtin .append, args := #[s, x], argTypes := #[97, 97] }) (B : Nat) (v : Value) (ps : List (Nat × Nat)) (d k : Nat) (hn : Hid (ps.length = n)) (H : Nat) (hH : wr.heap.size = H) (hs : a.eval s = v) (hx : a.eval x = .slice (some ⟨H, 0, none⟩) 1 1)
    (hown : Own2 B wr v ps) (hlen : n ≤ 100000000) (hB : B ≤ wr.heap.size)
    (h : ∀ g cap w', Own2 B w' (.slice (some ⟨g, 0, none⟩) (n + 1) cap) (ps ++ [(d, k)]) → Keeps (fun k => v.ownBlock = some k) wr w' → (v.ownBlock = some g ∨ wr.heap.size ≤ g) →
      wpList Tryz.prog ops Q rest (a.put o.dst (.slice (some ⟨g, 0, none⟩) (n + 1) cap)) w') :
    wpList Tryz.prog ops Q (o :: rest) a (wr.alloc (.cells #[.int .i64 d, .int .i64 k] 180)) := by
  obtain ⟨i, hi, hz0, hz1, hz2⟩ := info_parts infoStep
  have hn := hn.out
  subst hn
  subst hH
  refine wpList_append_lies _ hgd s x _ ho B 180 i _ 2 16 Tryz.underlying97 hi hz0 hz1 hz2 rfl (by decide) v ps.length _ hs (World.ownsRow.alloc hown _) ⟨wr.heap.size, 0, none⟩ 1 1 [.int .i64 d, .int .i64 k] hx rfl (cell_two_new _ _ _ _) ?_ (by decide) ?_ ?_ ?_ (wr.heap.size + 1) (by simp) ?_
  · intro u hu; simp at hu; rcases hu with rfl | rfl <;> rfl
  · unfold maxLen; omega
  · omega
  · simp; omega
  · intro g cap w1 hown1 hgrow hat _
    refine h g cap w1 ?_ (((Keeps.refl _ wr).alloc _).grown hgrow (fun k hk => .inl hk)) (hat.imp id (fun h => by omega))
    unfold Own2
    rw [List.length_append, List.map_append, List.flatten_append]
    exact hown1

/-- The first dart of an edge opens. -/
theorem fst_kind (S vert : Nat → Nat) (root : Nat) : ∀ j e k, fstK (wlk S vert root j).2 e = some k → k = 0 ∨ k = 2
  | 0, e, k, h => by simp [wlk, fstK] at h
  | j + 1, e, k, h => by
    have h1 : (wlk S vert root (j + 1)).2 = (wlk S vert root j).2 ++ [((wlk S vert root j).1, kindB vert root (wlk S vert root j).2 (wlk S vert root j).1)] := rfl
    rw [h1, fstK_snoc] at h
    cases hf : fstK (wlk S vert root j).2 e with
    | some x =>
      rw [hf] at h
      simp only [Option.some.injEq] at h
      subst h
      exact fst_kind S vert root j e x hf
    | none =>
      rw [hf] at h
      simp only at h
      by_cases he : (wlk S vert root j).1 / 2 = e
      · rw [if_pos he] at h
        simp only [Option.some.injEq] at h
        subst he
        rw [kindB_none hf] at h
        rw [← h]
        split
        · exact .inr rfl
        · exact .inl rfl
      · rw [if_neg he] at h; cases h

/-- What the walk begins with, in memory. -/
structure WR (w : World) (b : Nat) (s : List Nat) (rt ln : Int) (R : Nat → Prop) (bs ge gm nv ne : Nat) (wx : World) : Prop where
  mq : ∃ R', MapAt wx b s rt ln R' ∧ (∀ x, R' x → R x ∨ (w.heap.size ≤ x ∧ x < wx.heap.size)) ∧ ¬ R' bs ∧ ¬ R' ge ∧ ¬ R' gm
  bx : wx.heap[bs]? = some (.cells #[.pointer (some ⟨b, 0, none⟩), .slice (some ⟨ge, 0, none⟩) ne ne, .slice (some ⟨gm, 0, none⟩) nv nv] 186 (0, 0))
  eg : wx.heap[ge]? = some (.cells (madeCells #[.int .i64 0] ne) 3 (0, 0))
  mg : wx.heap[gm]? = some (.cells (madeCells #[.bool false] nv) 4 (0, 0))
  ap : bs ≠ ge ∧ bs ≠ gm ∧ ge ≠ gm ∧ w.heap.size ≤ bs ∧ w.heap.size ≤ ge ∧ w.heap.size ≤ gm
  kee : Keeps (fun k => k = b) w wx

theorem alloc2 (w : World) (a b : Obj) : ((w.alloc a).alloc b).heap[w.heap.size]? = some a ∧ ((w.alloc a).alloc b).heap[w.heap.size + 1]? = some b ∧ Keeps (fun _ => False) w ((w.alloc a).alloc b) ∧ ((w.alloc a).alloc b).heap.size = w.heap.size + 2 := by
  have k := (Keeps.refl (fun _ => False) (w.alloc a)).alloc b
  refine ⟨k.at (heap_alloc_new w a) (fun h => h), ?_, ((Keeps.refl (fun _ => False) w).alloc a).trans k (fun _ _ h => h), by simp⟩
  have := heap_alloc_new (w.alloc a) b
  simpa using this

theorem alloc3 (w : World) (a b c : Obj) : (((w.alloc a).alloc b).alloc c).heap[w.heap.size]? = some a ∧ (((w.alloc a).alloc b).alloc c).heap[w.heap.size + 1]? = some b ∧ (((w.alloc a).alloc b).alloc c).heap[w.heap.size + 2]? = some c ∧ Keeps (fun _ => False) w (((w.alloc a).alloc b).alloc c) ∧ (((w.alloc a).alloc b).alloc c).heap.size = w.heap.size + 3 := by
  obtain ⟨h1, h2, h3, h4⟩ := alloc2 w a b
  have k := (Keeps.refl (fun _ => False) ((w.alloc a).alloc b)).alloc c
  refine ⟨k.at h1 (fun h => h), k.at h2 (fun h => h), ?_, h3.trans k (fun _ _ h => h), by simp⟩
  have := heap_alloc_new ((w.alloc a).alloc b) c
  rw [h4] at this
  exact this

theorem WR.a {w w1 w2 : World} {b : Nat} {s : List Nat} {rt ln : Int} {R : Nat → Prop} {nv ne : Nat} (h : MapAt w b s rt ln R) (hw1 : w1 = (w.alloc (.cells (madeCells #[.int .i64 0] ne) 3)).drew) (hq : MapQ w1 b s rt ln R w2) :
    WR w b s rt ln R (w2.heap.size + 1) w.heap.size w2.heap.size nv ne ((w2.alloc (.cells (madeCells #[.bool false] nv) 4)).alloc (.cells #[.pointer (some ⟨b, 0, none⟩), .slice (some ⟨w.heap.size, 0, none⟩) ne ne, .slice (some ⟨w2.heap.size, 0, none⟩) nv nv] 186)) := by
  obtain ⟨h1, h2, h3, h4⟩ := alloc2 w2 (.cells (madeCells #[.bool false] nv) 4) (.cells #[.pointer (some ⟨b, 0, none⟩), .slice (some ⟨w.heap.size, 0, none⟩) ne ne, .slice (some ⟨w2.heap.size, 0, none⟩) nv nv] 186)
  have hs1 : w1.heap.size = w.heap.size + 1 := by rw [hw1]; simp
  have k01 : Keeps (fun _ => False) w w1 := by rw [hw1]; exact ((Keeps.refl _ w).alloc _).drew
  have he1 : w1.heap[w.heap.size]? = some (.cells (madeCells #[.int .i64 0] ne) 3 (0, 0)) := by rw [hw1]; exact heap_alloc_new w _
  have hs2 := hq.2.size
  have hb := h.lt
  have he2 := (hq.2.at he1 (by omega))
  refine ⟨⟨grow R w1 w2, hq.1.keeps h3 (fun h => h) (fun _ _ h => h), fun x hx => ?_, fun hx => ?_, fun hx => ?_, fun hx => ?_⟩, h2, h3.at he2 (fun h => h), h1, ⟨by omega, by omega, by omega, by omega, by omega, by omega⟩, ((k01.mono (fun _ _ h => h.elim) : Keeps (fun k => k = b) w w1).trans hq.2 (fun _ _ e => e)).trans h3 (fun _ _ e => e.elim)⟩
  · rcases hx with hx | hx
    · exact .inl hx
    · exact .inr ⟨by omega, by omega⟩
  all_goals
    rcases hx with hx | hx
    · have := h.old _ hx; omega
    · omega

theorem WR.b {w w1 w2 : World} {b : Nat} {s : List Nat} {rt ln : Int} {R : Nat → Prop} {nv ne : Nat} (h : MapAt w b s rt ln R) (hw1 : w1 = w.drew) (hq : MapQ w1 b s rt ln R w2) :
    WR w b s rt ln R (w2.heap.size + 2) w2.heap.size (w2.heap.size + 1) nv ne (((w2.alloc (.cells (madeCells #[.int .i64 0] ne) 3)).alloc (.cells (madeCells #[.bool false] nv) 4)).alloc (.cells #[.pointer (some ⟨b, 0, none⟩), .slice (some ⟨w2.heap.size, 0, none⟩) ne ne, .slice (some ⟨w2.heap.size + 1, 0, none⟩) nv nv] 186)) := by
  obtain ⟨h1, h2, h2', h3, h4⟩ := alloc3 w2 (.cells (madeCells #[.int .i64 0] ne) 3) (.cells (madeCells #[.bool false] nv) 4) (.cells #[.pointer (some ⟨b, 0, none⟩), .slice (some ⟨w2.heap.size, 0, none⟩) ne ne, .slice (some ⟨w2.heap.size + 1, 0, none⟩) nv nv] 186)
  subst hw1
  have hs1 : w.drew.heap.size = w.heap.size := rfl
  have hs2 := hq.2.size
  have hb := h.lt
  refine ⟨⟨grow R w.drew w2, hq.1.keeps h3 (fun h => h) (fun _ _ h => h), fun x hx => ?_, fun hx => ?_, fun hx => ?_, fun hx => ?_⟩, h2', h1, h2, ⟨by omega, by omega, by omega, by omega, by omega, by omega⟩, (((Keeps.refl (fun k => k = b) w).drew).trans hq.2 (fun _ _ e => e)).trans h3 (fun _ _ e => e.elim)⟩
  · rcases hx with hx | hx
    · exact .inl hx
    · exact .inr ⟨by omega, by omega⟩
  all_goals
    rcases hx with hx | hx
    · have := h.old _ hx; omega
    · omega

theorem WR.c {w w1 w2 : World} {b : Nat} {s : List Nat} {rt ln : Int} {R : Nat → Prop} {nv ne : Nat} (h : MapAt w b s rt ln R) (hw1 : w1 = w.drew) (hq : MapQ w1 b s rt ln R w2) :
    WR w b s rt ln R (w2.heap.size + 2) (w2.heap.size + 1) w2.heap.size nv ne (((w2.alloc (.cells (madeCells #[.bool false] nv) 4)).alloc (.cells (madeCells #[.int .i64 0] ne) 3)).alloc (.cells #[.pointer (some ⟨b, 0, none⟩), .slice (some ⟨w2.heap.size + 1, 0, none⟩) ne ne, .slice (some ⟨w2.heap.size, 0, none⟩) nv nv] 186)) := by
  obtain ⟨h1, h2, h2', h3, h4⟩ := alloc3 w2 (.cells (madeCells #[.bool false] nv) 4) (.cells (madeCells #[.int .i64 0] ne) 3) (.cells #[.pointer (some ⟨b, 0, none⟩), .slice (some ⟨w2.heap.size + 1, 0, none⟩) ne ne, .slice (some ⟨w2.heap.size, 0, none⟩) nv nv] 186)
  subst hw1
  have hs1 : w.drew.heap.size = w.heap.size := rfl
  have hs2 := hq.2.size
  have hb := h.lt
  refine ⟨⟨grow R w.drew w2, hq.1.keeps h3 (fun h => h) (fun _ _ h => h), fun x hx => ?_, fun hx => ?_, fun hx => ?_, fun hx => ?_⟩, h2', h2, h1, ⟨by omega, by omega, by omega, by omega, by omega, by omega⟩, (((Keeps.refl (fun k => k = b) w).drew).trans hq.2 (fun _ _ e => e)).trans h3 (fun _ _ e => e.elim)⟩
  · rcases hx with hx | hx
    · exact .inl hx
    · exact .inr ⟨by omega, by omega⟩
  all_goals
    rcases hx with hx | hx
    · have := h.old _ hx; omega
    · omega

theorem BoolAt.ofMade {w : World} {g n : Nat} (h : w.heap[g]? = some (.cells (madeCells #[.bool false] n) 4 (0, 0))) : BoolAt w g n (fun _ => False) := by
  have hc : madeCells #[.bool false] n = ((List.replicate n false).map Value.bool).toArray := by
    apply Array.toList_inj.1
    rw [toList_madeCells_one]; simp
  exact ⟨List.replicate n false, by simp, fun x hx => .inr ⟨by simp [hx], fun h => h⟩, by rw [← hc]; exact h⟩

theorem WS.mapq {w : World} {b : Nat} {s : List Nat} {rt ln : Int} {R : Nat → Prop} {bs ge gm nv root : Nat} {out : List (Nat × Nat)} {ov : Value} {so : List (Nat × Nat)} {wr : World} (h : WS w b s rt ln R bs ge gm nv root out ov so wr) (h0 : MapAt w b s rt ln R) : MapQ w b s rt ln R wr := by
  obtain ⟨R', h1, h2, _⟩ := h.mq
  have hb := h.bw
  have hs := h.kee.size
  refine ⟨h1.mono (fun x hx => ?_) (fun x hx => ?_) (fun hx => ?_), h.kee⟩
  · rcases h2 x hx with e | e
    · exact .inl e
    · exact .inr e
  · rcases hx with hx | hx
    · have := h0.old x hx; omega
    · exact hx.2
  · rcases hx with hx | hx
    · exact h0.notb hx
    · omega

/-- The walk begins: the root's vertex is met. -/
theorem WR.start {w wx : World} {b : Nat} {s : List Nat} {rt ln : Int} {R R' : Nat → Prop} {bs ge gm nv ne root : Nat} (h : WR w b s rt ln R bs ge gm nv ne wx) (hR : ∀ x, R' x → R x ∨ (w.heap.size ≤ x ∧ x < wx.heap.size)) (hn1 : ¬ R' bs) (hn2 : ¬ R' ge) (hn3 : ¬ R' gm) (hne : ne = s.length / 2) (hnb : ne ≤ 1000000) (hvl : ldr (sg s) s.length ≤ nv) (hb : b < w.heap.size)
    {w2 : World} (hq : MapQ wx b s rt ln R' w2) (hv : vnum (sg s) root < nv) :
    WS w b s rt ln R bs ge gm nv root [] (.slice none 0 0) [] (w2.setCell ⟨gm, vnum (sg s) root, none⟩ (.bool true)) := by
  obtain ⟨a1, a2, a3, a4, a5, a6⟩ := h.ap
  have l1 := lt_of_block h.bx
  have l2 := lt_of_block h.eg
  have l3 := lt_of_block h.mg
  have hs1 := h.kee.size
  have hs2 := hq.2.size
  have kk := (Keeps.refl (fun q => q = gm) w2).setCell (p := ⟨gm, vnum (sg s) root, none⟩) (.inl rfl) (.bool true)
  have he2 := hq.2.at h.eg (by omega)
  have he3 := kk.at he2 (by omega)
  have hm2 : BoolAt w2 gm nv (fun _ => False) := (BoolAt.ofMade h.mg).keeps hq.2 (by omega)
  subst hne
  refine ⟨⟨grow R' wx w2, hq.1.keeps kk (fun e => by omega) (fun x hx e => ?_), fun x hx => ?_, fun hx => ?_, fun hx => ?_, fun hx => ?_, fun k hk => by simp [Value.ownBlock] at hk⟩, Own2.nil _ _, fun k hk => by simp [Value.ownBlock] at hk, kk.at (hq.2.at h.bx (by omega)) (by omega), ⟨List.replicate (s.length / 2) 0, by simp, ⟨by simp [ints], .inr ⟨ge, s.length / 2, _, by simp, a5, he3, by simp, by unfold maxLen; omega, by rw [size_madeCells]; simp, ?_⟩⟩, fun e he => by simp [fstK, he]⟩, hm2.set hv (fun y _ => ?_), hvl, h.ap, hb, (h.kee.trans hq.2 (fun _ _ e => e)).trans kk (fun x hx e => by omega)⟩
  · rcases hx with hx | hx
    · exact hn3 (e ▸ hx)
    · omega
  · have hs3 := kk.size
    rcases hx with hx | hx
    · rcases hR x hx with e | e
      · exact .inl e
      · exact .inr ⟨e.1, by omega⟩
    · exact .inr ⟨by omega, by omega⟩
  · rcases hx with hx | hx
    · exact hn1 hx
    · omega
  · rcases hx with hx | hx
    · exact hn2 hx
    · omega
  · rcases hx with hx | hx
    · exact hn3 hx
    · omega
  · rw [toList_madeCells_one]; simp [ints]
  · unfold metB
    simp

set_option maxRecDepth 100000 in
set_option maxHeartbeats 8000000 in
theorem walkOf_any {w : World} {b : Nat} {s : List Nat} {rt : Int} {l : Nat} {R : Nat → Prop} (h : MapAt w b s rt l R) {root : Nat} (hr : root < s.length) :
    Calls Tryz.prog 89 #[.pointer (some ⟨b, 0, none⟩), .int .i64 root] w fun e w' => ∃ T ov, e = .returned (.tuple #[ov, .int .i64 0]) ∧ WkEnd s.length (sg s) (vnum (sg s)) root T ∧ WkT s.length (sg s) root T (fun i => (wlk (sg s) (vnum (sg s)) root i).1) (kso (wlk (sg s) (vnum (sg s)) root T).2) ∧
      Own2 w.heap.size w' ov (wlk (sg s) (vnum (sg s)) root T).2 ∧ MapQ w b s rt l R w' := by
  have hP := h.isP
  have hev := h.even
  obtain ⟨T, hE, hend, hT⟩ := wlk_told hP hev (fun x y hx hy => hP.vnum_iff hx hy) hr
  have hD := mapDarts_any h
  have hle := h.le
  have hln := h.ln
  have d0 : decide ((root : Int) < 0) = false := decide_eq_false (by omega)
  have d1 : decide (s.length ≤ root) = false := decide_eq_false (by omega)
  have kd := (Keeps.refl (fun _ => False) w).drew
  have hA0 := h.keeps kd (fun h => h) (fun _ _ h => h)
  obtain ⟨nv, hnv⟩ : ∃ nv, nv = ldr (sg s) s.length + l := ⟨_, rfl⟩
  obtain ⟨ne, hne⟩ : ∃ ne, ne = s.length / 2 := ⟨_, rfl⟩
  have hll := ldr_le (sg s) s.length
  have hnvb : nv ≤ 200000 := by omega
  have hneb : ne ≤ 200000 := by omega
  have hEd : ∀ {W : World} {R' : Nat → Prop}, MapAt W b s rt l R' → Calls Tryz.prog 75 #[.pointer (some ⟨b, 0, none⟩)] W (fun e w' => e = .returned (.int .i64 (ne : Nat)) ∧ W = w') := fun hh => by rw [hne]; exact mapEdges_any hh
  have hVe : ∀ {W : World} {R' : Nat → Prop}, MapAt W b s rt l R' → Calls Tryz.prog 76 #[.pointer (some ⟨b, 0, none⟩)] W (fun e w' => e = .returned (.int .i64 (nv : Nat)) ∧ MapQ W b s rt l R' w') := fun hh => (mapVertices_any hh).mono (fun e w' k => ⟨by rw [k.1, hnv]; simp, k.2⟩)
  obtain ⟨i, hi, hz0, hz1, hz2⟩ := info_parts infoInt
  have hmkI := fun w => run_make (P := Tryz.prog) w 22 3 i _ Tryz.underlying22 hi hz0 .i64 .i64 (ne : Int) (ne : Int) (by omega) (Int.le_refl _) (by rw [hz2]; omega) (by omega)
  simp only [hz1, Int.toNat_natCast, Nat.mul_one] at hmkI
  obtain ⟨ib, hib, hb0, hb1, hb2⟩ := info_parts infoBool
  have hmkB := fun w => run_make (P := Tryz.prog) w 184 4 ib _ Tryz.underlying184 hib hb0 .i64 .i64 (nv : Int) (nv : Int) (by omega) (Int.le_refl _) (by rw [hb2]; omega) (by omega)
  simp only [hb1, Int.toNat_natCast, Nat.mul_one] at hmkB
  have ka := ((Keeps.refl (fun _ => False) w).alloc (.cells (madeCells #[.int .i64 0] ne) 3)).drew
  have hA1 := h.keeps ka (fun h => h) (fun _ _ h => h)
  have HP := Lib.hid (And.intro hP (And.intro hev (And.intro hE (And.intro hend (And.intro hT (And.intro hnv (And.intro hne h)))))))
  clear h hP hev hE hend hT hi hz0 hz1 hz2 hib hb0 hb1 hb2 hnv hne kd ka
  go_enter Tryz.func89, Tryz.ntmps89
  go_wp2_with (go_at_call 71; refine hD.mono ?_; rintro e w' ⟨rfl, rfl⟩)
  clear hD
  go_upto_region 5 with fail
  go_cut [6] from 23 to 31 (fun p6 wz => ∃ wx bs ge gm, wx = wz ∧ p6 = .pointer (some ⟨bs, 0, none⟩) ∧ WR w b s rt l R bs ge gm nv ne wx)
  case first =>
    go_region_with (first | (go_at_call 75; (first | (with_reducible refine (hEd hA0).mono ?_) | (with_reducible refine (hEd hA2).mono ?_) | (with_reducible refine (hEd hA3).mono ?_)); rintro e w' ⟨rfl, rfl⟩) | (go_at_call 76; (first | (with_reducible refine (hVe hA0).mono ?_) | (with_reducible refine (hVe hA1).mono ?_)); rintro e w2 ⟨rfl, hq⟩; have HQ := Lib.hid hq; have hA2 := hq.1; have hA3 := hA2.keeps ((Keeps.refl (fun _ => False) w2).alloc (.cells (madeCells #[.bool false] nv) 4)) (fun h => h) (fun _ _ h => h)))
    all_goals
      go_wp2_with fail
      go_meet
      first
        | exact ⟨_, _, _, _, rfl, rfl, WR.a HP.out.2.2.2.2.2.2.2 rfl HQ.out⟩
        | exact ⟨_, _, _, _, rfl, rfl, WR.b HP.out.2.2.2.2.2.2.2 rfl HQ.out⟩
        | exact ⟨_, _, _, _, rfl, rfl, WR.c HP.out.2.2.2.2.2.2.2 rfl HQ.out⟩
  case rest =>
    obtain ⟨wx, bs, ge, gm, rfl, rfl, hW⟩ := hcut
    obtain ⟨R', hMA, hR1, hR2, hR3, hR4⟩ := hW.mq
    have kd := (Keeps.refl (fun _ => False) wx).drew
    have hVt := mapVertex_in (hMA.keeps kd (fun h => h) (fun _ _ h => h)) root hr
    have hc2 : wx.drew.cell? ⟨bs, 2, none⟩ = some (.slice (some ⟨gm, 0, none⟩) nv nv) := World.cell_of_heap hW.bx 2
    have hvr := HP.out.1.vnum_lt hr
    obtain ⟨v, hv⟩ : ∃ v, v = vnum (sg s) root := ⟨_, rfl⟩
    have hvn : v < nv := by rw [hv, HP.out.2.2.2.2.2.1]; omega
    rw [← hv] at hVt
    have hbw := HP.out.2.2.2.2.2.2.2.lt
    obtain ⟨a1, a2, a3, a4, a5, a6⟩ := hW.ap
    have HV := Lib.hid hv
    have HAX := Lib.hid (And.intro hW (And.intro hR1 (And.intro hR2 (And.intro hR3 (And.intro hR4 kd)))))
    clear hW hMA hR1 hR2 hR3 hR4 kd hmkI hmkB hEd hVe hA0 hA1 hv hvr
    go_wp2_with fail
    go_region_held3 (fun w' => w'.cell? ⟨bs, 2, none⟩ = some (.slice (some ⟨gm, 0, none⟩) nv nv)) (first | exact hc2 | exact hc22 | exact hc23) (first | (go_at_call 78; refine hVt.mono ?_; rintro e w2 ⟨rfl, hq⟩; have hq0 := hq.fromDrew; have hb2 := hq0.2.at HAX.out.1.bx (by omega); have hc22 : w2.cell? ⟨bs, 2, none⟩ = some (.slice (some ⟨gm, 0, none⟩) nv nv) := World.cell_of_heap hb2 2; obtain ⟨t0, ht0, hct, hft⟩ := ((BoolAt.ofMade HAX.out.1.mg).keeps hq0.2 (by omega) : BoolAt w2 gm nv (fun _ => False)).cell hvn; have hc23 : (w2.setCell ⟨gm, v, none⟩ (.bool true)).cell? ⟨bs, 2, none⟩ = some (.slice (some ⟨gm, 0, none⟩) nv nv) := (World.cell?_setCell_other _ ⟨gm, v, none⟩ ⟨bs, 2, none⟩ _ (by simp <;> omega)).trans hc22; have HQ := Lib.hid hq0; clear hq hq0 hb2 ht0))
    have hS0 : WS w b s rt l R bs ge gm nv root [] (.slice none 0 0) [] (w2.setCell ⟨gm, v, none⟩ (.bool true)) := by
      rw [HV.out]
      exact HAX.out.1.start HAX.out.2.1 HAX.out.2.2.1 HAX.out.2.2.2.1 HAX.out.2.2.2.2.1 HP.out.2.2.2.2.2.2.1 (by omega) (by have := HP.out.2.2.2.2.2.1; omega) hbw HQ.out (by rw [← HV.out]; exact hvn)
    have HS0 := Lib.hid hS0
    clear hS0 hVt hc2 hc22 hc23 hct hft
    go_wp2_with fail
    generalize World.setCell _ _ _ = w3 at *
    have HTl := Lib.hid HP.out.2.2.2.2.1.pos
    have hTn : T ≤ 131072 := by have := HP.out.2.2.1.le; omega
    go_loopg [7, 8, 9] T (fun m ov dv tv wr => ∃ j : Nat, j < T ∧ m = T - j ∧ dv = .int .i64 ((wlk (sg s) (vnum (sg s)) root j).1 : Nat) ∧ tv = .int .i64 (DD (kso (wlk (sg s) (vnum (sg s)) root j).2) j) ∧ WS w b s rt l R bs ge gm nv root (wlk (sg s) (vnum (sg s)) root j).2 ov (wlk (sg s) (vnum (sg s)) root j).2 wr)
    case atStart => exact ⟨0, HTl.out, rfl, rfl, rfl, HS0.out⟩
    case round =>
      clear HS0
      obtain ⟨j, hj, hgk, rfl, rfl, hW⟩ := hrel
      have HG := Lib.hid hgk
      clear hgk
      have hfk := fst_kind (sg s) (vnum (sg s)) root j
      have hlen := wlk_length (sg s) (vnum (sg s)) root j
      have hnxt : wlk (sg s) (vnum (sg s)) root (j + 1) = wstep (sg s) (vnum (sg s)) root (wlk (sg s) (vnum (sg s)) root j) := rfl
      obtain ⟨d, hd⟩ : ∃ d, d = (wlk (sg s) (vnum (sg s)) root j).1 := ⟨_, rfl⟩
      obtain ⟨out, hout⟩ : ∃ out, out = (wlk (sg s) (vnum (sg s)) root j).2 := ⟨_, rfl⟩
      have hdn : (wlk (sg s) (vnum (sg s)) root j).1 < s.length := HP.out.2.2.2.2.1.lt j hj
      have hk4 := HP.out.2.2.1.k4 (j + 1) (by omega) (wlk (sg s) (vnum (sg s)) root j).1 (kindB (vnum (sg s)) root (wlk (sg s) (vnum (sg s)) root j).2 (wlk (sg s) (vnum (sg s)) root j).1) (by rw [hnxt]; simp [wstep])
      rw [← hout] at hlen hfk hW hk4
      rw [← hd] at hdn hk4 ⊢
      rw [← hout]
      have hwst : wlk (sg s) (vnum (sg s)) root (j + 1) = (sg s (if kindB (vnum (sg s)) root out d < 2 then mt d else d), out ++ [(d, kindB (vnum (sg s)) root out d)]) := by rw [hnxt, hd, hout]; rfl
      have hK := kind_any hW hdn hfk
      obtain ⟨k, hk⟩ : ∃ k, k = kindB (vnum (sg s)) root out d := ⟨_, rfl⟩
      rw [← hk] at hK hk4 hwst
      have hks : kso (wlk (sg s) (vnum (sg s)) root (j + 1)).2 = kso out ++ [k] := by rw [hwst, kso_snoc]
      have hDD : DD (kso (wlk (sg s) (vnum (sg s)) root (j + 1)).2) (j + 1) = DD (kso out) j + dd k := by
        rw [hks]
        have := DD_new (kso out) k
        rw [kso_length, hlen] at this
        exact this
      have hDb : -(131072 : Int) ≤ DD (kso out) j ∧ DD (kso out) j ≤ 131072 := by
        have h1 := cntK_le ((kso out).take j) 0
        have h2 := cntK_le ((kso out).take j) 1
        rw [List.length_take] at h1 h2
        unfold DD
        omega
      obtain ⟨D, hDv⟩ : ∃ D, D = DD (kso out) j := ⟨_, rfl⟩
      rw [← hDv] at hDD hDb ⊢
      have HX := Lib.hid (And.intro hwst (And.intro hDD (And.intro hlen hk)))
      clear hnxt hd hout hfk hwst hks hDD hk hDv hW hlen
      go_wp2_with fail
      refine hK.mono ?_
      rintro en w4 ⟨rfl, hW4⟩
      clear hK
      obtain ⟨oa, oc, rfl⟩ := hW4.st.form
      rw [HX.out.2.2.1] at hW4 ⊢
      have hown := hW4.st
      have hsz := hW4.kee.size
      have hlen2 : Hid (out.length = j) := Lib.hid HX.out.2.2.1
      have happ := fun (w5 : World) g5 cap => hW4.app (g5 := g5) (m := j + 1) (cap := cap) (w5 := w5) (ps := out ++ [(d, k)])
      have HA := Lib.hid happ
      have hjl : j ≤ 100000000 := by omega
      have hml := mt_lt HP.out.2.1 hdn
      clear happ hW4
      have hk3 : k = 0 ∨ k = 1 ∨ 2 ≤ k := by omega
      have arm : True := trivial
      rcases hk3 with rfl | rfl | hk2
      · go_wp2_with (at_builtin; refine appendStep j rfl _ _ rfl w.heap.size (.slice oa j oc) out d 0 hlen2 w4.heap.size rfl rfl rfl hown hjl hsz ?_; intro g5 cap5 w5 hown5 hk5 hat5; have HT5 := Lib.hid (HA.out w5 g5 cap5 hown5 hk5 hat5); clear hown5 hk5 hat5)
        obtain ⟨R5, hMA5, _⟩ := HT5.out.ask
        have hMt := mapMate_in hMA5 d hdn
        have hSg := mapSigma_in hMA5 (mt d) hml
        have hwn := HX.out.1
        rw [if_pos (by omega)] at hwn
        have hDn := HX.out.2.1
        have hdd : dd 0 = 1 := by simp [dd]
        rw [hdd] at hDn
        clear hMA5 hown hsz hdd
        refine hMt.mono ?_
        rintro en w' ⟨rfl, rfl⟩
        clear hMt
        go_wp2_with fail
        refine hSg.mono ?_
        rintro en w' ⟨rfl, rfl⟩
        clear hSg
        obtain ⟨Y, hY⟩ : ∃ Y, Y = sg s (mt d) := ⟨_, rfl⟩
        rw [← hY] at hwn ⊢
        have HWN := Lib.hid (And.intro hwn hDn)
        clear hwn hDn hY
        by_cases hend : j + 1 = T
        · have hYr : Y = root := by
            have h1 := HP.out.2.2.2.1
            rw [← hend, HWN.out.1] at h1
            exact h1
          have hDz : D + 1 = 0 := by
            have h1 := HP.out.2.2.2.2.1.right.dend
            rw [HP.out.2.2.2.2.1.len, ← hend, HWN.out.2] at h1
            exact h1
          subst hYr
          have hb1 : ((D + 1) == 0) = true := by rw [beq_iff_eq]; exact hDz
          have HF := Lib.hid (And.intro HT5.out.st (HT5.out.mapq HP.out.2.2.2.2.2.2.2))
          have HE := Lib.hid hend
          clear hDz hend
          go_wp2
          go_ret2
          refine ⟨T, _, rfl, HP.out.2.2.1, HP.out.2.2.2.2.1, ?_, HF.out.2⟩
          rw [← HE.out, HWN.out.1]
          exact HF.out.1
        · have hYr : Y ≠ root := fun e => by
            have h1 := HP.out.2.2.2.2.1.inj (j + 1) 0 (by omega) HTl.out (by show (wlk (sg s) (vnum (sg s)) root (j + 1)).1 = root; rw [HWN.out.1]; exact e)
            omega
          have hb2 : ((Y : Int) == (root : Int)) = false := by rw [beq_eq_false_iff_ne]; omega
          have HJ := Lib.hid (show j + 1 < T by omega)
          clear hYr hend
          by_cases hDz : D + 1 = 0
          · have hb1 : ((D + 1) == 0) = true := by rw [beq_iff_eq]; exact hDz
            clear hDz
            go_wp2
            go_roundg (T - (j + 1))
            case measure => rw [HG.out]; omega
            case rel => exact ⟨j + 1, HJ.out, rfl, by rw [HWN.out.1], by rw [HWN.out.2], by rw [HWN.out.1]; exact HT5.out⟩
          · have hb1 : ((D + 1) == 0) = false := by rw [beq_eq_false_iff_ne]; exact hDz
            clear hDz
            go_wp2
            go_roundg (T - (j + 1))
            case measure => rw [HG.out]; omega
            case rel => exact ⟨j + 1, HJ.out, rfl, by rw [HWN.out.1], by rw [HWN.out.2], by rw [HWN.out.1]; exact HT5.out⟩
      · go_wp2_with (at_builtin; refine appendStep j rfl _ _ rfl w.heap.size (.slice oa j oc) out d 1 hlen2 w4.heap.size rfl rfl rfl hown hjl hsz ?_; intro g5 cap5 w5 hown5 hk5 hat5; have HT5 := Lib.hid (HA.out w5 g5 cap5 hown5 hk5 hat5); clear hown5 hk5 hat5)
        obtain ⟨R5, hMA5, _⟩ := HT5.out.ask
        have hMt := mapMate_in hMA5 d hdn
        have hSg := mapSigma_in hMA5 (mt d) hml
        have hwn := HX.out.1
        rw [if_pos (by omega)] at hwn
        have hDn := HX.out.2.1
        have hdd : dd 1 = -1 := by simp [dd]
        rw [hdd] at hDn
        clear hMA5 hown hsz hdd
        refine hMt.mono ?_
        rintro en w' ⟨rfl, rfl⟩
        clear hMt
        go_wp2_with fail
        refine hSg.mono ?_
        rintro en w' ⟨rfl, rfl⟩
        clear hSg
        obtain ⟨Y, hY⟩ : ∃ Y, Y = sg s (mt d) := ⟨_, rfl⟩
        rw [← hY] at hwn ⊢
        have HWN := Lib.hid (And.intro hwn hDn)
        clear hwn hDn hY
        by_cases hend : j + 1 = T
        · have hYr : Y = root := by
            have h1 := HP.out.2.2.2.1
            rw [← hend, HWN.out.1] at h1
            exact h1
          have hDz : D + -1 = 0 := by
            have h1 := HP.out.2.2.2.2.1.right.dend
            rw [HP.out.2.2.2.2.1.len, ← hend, HWN.out.2] at h1
            exact h1
          subst hYr
          have hb1 : ((D + -1) == 0) = true := by rw [beq_iff_eq]; exact hDz
          have HF := Lib.hid (And.intro HT5.out.st (HT5.out.mapq HP.out.2.2.2.2.2.2.2))
          have HE := Lib.hid hend
          clear hDz hend
          go_wp2
          go_ret2
          refine ⟨T, _, rfl, HP.out.2.2.1, HP.out.2.2.2.2.1, ?_, HF.out.2⟩
          rw [← HE.out, HWN.out.1]
          exact HF.out.1
        · have hYr : Y ≠ root := fun e => by
            have h1 := HP.out.2.2.2.2.1.inj (j + 1) 0 (by omega) HTl.out (by show (wlk (sg s) (vnum (sg s)) root (j + 1)).1 = root; rw [HWN.out.1]; exact e)
            omega
          have hb2 : ((Y : Int) == (root : Int)) = false := by rw [beq_eq_false_iff_ne]; omega
          have HJ := Lib.hid (show j + 1 < T by omega)
          clear hYr hend
          by_cases hDz : D + -1 = 0
          · have hb1 : ((D + -1) == 0) = true := by rw [beq_iff_eq]; exact hDz
            clear hDz
            go_wp2
            go_roundg (T - (j + 1))
            case measure => rw [HG.out]; omega
            case rel => exact ⟨j + 1, HJ.out, rfl, by rw [HWN.out.1], by rw [HWN.out.2], by rw [HWN.out.1]; exact HT5.out⟩
          · have hb1 : ((D + -1) == 0) = false := by rw [beq_eq_false_iff_ne]; exact hDz
            clear hDz
            go_wp2
            go_roundg (T - (j + 1))
            case measure => rw [HG.out]; omega
            case rel => exact ⟨j + 1, HJ.out, rfl, by rw [HWN.out.1], by rw [HWN.out.2], by rw [HWN.out.1]; exact HT5.out⟩
      · have q0 : ((k : Int) == 0) = false := by rw [beq_eq_false_iff_ne]; omega
        have q1 : ((k : Int) == 1) = false := by rw [beq_eq_false_iff_ne]; omega
        go_wp2_with (at_builtin; refine appendStep j rfl _ _ rfl w.heap.size (.slice oa j oc) out d k hlen2 w4.heap.size rfl rfl rfl hown hjl hsz ?_; intro g5 cap5 w5 hown5 hk5 hat5; have HT5 := Lib.hid (HA.out w5 g5 cap5 hown5 hk5 hat5); clear hown5 hk5 hat5)
        obtain ⟨R5, hMA5, _⟩ := HT5.out.ask
        have hSg := mapSigma_in hMA5 d hdn
        have hwn := HX.out.1
        rw [if_neg (by omega)] at hwn
        have hDn := HX.out.2.1
        have hdd : dd k = 0 := by unfold dd; rw [if_neg (by omega), if_neg (by omega)]
        rw [hdd, Int.add_zero] at hDn
        clear hMA5 hown hsz hdd
        refine hSg.mono ?_
        rintro en w' ⟨rfl, rfl⟩
        clear hSg
        obtain ⟨Y, hY⟩ : ∃ Y, Y = sg s d := ⟨_, rfl⟩
        rw [← hY] at hwn ⊢
        have HWN := Lib.hid (And.intro hwn hDn)
        clear hwn hDn hY
        by_cases hend : j + 1 = T
        · have hYr : Y = root := by
            have h1 := HP.out.2.2.2.1
            rw [← hend, HWN.out.1] at h1
            exact h1
          have hDz : D = 0 := by
            have h1 := HP.out.2.2.2.2.1.right.dend
            rw [HP.out.2.2.2.2.1.len, ← hend, HWN.out.2] at h1
            exact h1
          subst hYr
          have hb1 : ((D) == 0) = true := by rw [beq_iff_eq]; exact hDz
          have HF := Lib.hid (And.intro HT5.out.st (HT5.out.mapq HP.out.2.2.2.2.2.2.2))
          have HE := Lib.hid hend
          clear hDz hend
          go_wp2
          go_ret2
          refine ⟨T, _, rfl, HP.out.2.2.1, HP.out.2.2.2.2.1, ?_, HF.out.2⟩
          rw [← HE.out, HWN.out.1]
          exact HF.out.1
        · have hYr : Y ≠ root := fun e => by
            have h1 := HP.out.2.2.2.2.1.inj (j + 1) 0 (by omega) HTl.out (by show (wlk (sg s) (vnum (sg s)) root (j + 1)).1 = root; rw [HWN.out.1]; exact e)
            omega
          have hb2 : ((Y : Int) == (root : Int)) = false := by rw [beq_eq_false_iff_ne]; omega
          have HJ := Lib.hid (show j + 1 < T by omega)
          clear hYr hend
          by_cases hDz : D = 0
          · have hb1 : ((D) == 0) = true := by rw [beq_iff_eq]; exact hDz
            clear hDz
            go_wp2
            go_roundg (T - (j + 1))
            case measure => rw [HG.out]; omega
            case rel => exact ⟨j + 1, HJ.out, rfl, by rw [HWN.out.1], by rw [HWN.out.2], by rw [HWN.out.1]; exact HT5.out⟩
          · have hb1 : ((D) == 0) = false := by rw [beq_eq_false_iff_ne]; exact hDz
            clear hDz
            go_wp2
            go_roundg (T - (j + 1))
            case measure => rw [HG.out]; omega
            case rel => exact ⟨j + 1, HJ.out, rfl, by rw [HWN.out.1], by rw [HWN.out.2], by rw [HWN.out.1]; exact HT5.out⟩

end Go.Proofs.YtipelclohcdkcaaGreat
