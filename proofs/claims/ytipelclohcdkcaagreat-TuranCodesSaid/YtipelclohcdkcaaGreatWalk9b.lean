/- The references of layer 9: Walk, from its beginning to the loop. -/
import Derived.Test.YtipelclohcdkcaaGreatParts2
import Derived.Test.YtipelclohcdkcaaGreatWlk
import Derived.Test.YtipelclohcdkcaaGreatMapI
/- The references of layer 9: the walk. -/
namespace Go.Proofs.YtipelclohcdkcaaGreat
open Go.RowKit

/-- Between two steps of the walk. -/
structure WkS (wv : World) (bf bm : Nat) (vert : Nat → Nat) (root : Nat) (out : List (Nat × Nat)) (dv kv : Value) (wr : World) : Prop where
  da : OwnI wv.heap.size wr dv (nats (out.map Prod.fst))
  ka : OwnI wv.heap.size wr kv (nats (kso out))
  mf : MapI wr bf out.length (fstK out)
  mm : MapI wr bm (out.length + 1) (fun v => if metB vert root out v = true then some 1 else none)
  s1 : ∀ q, dv.ownBlock = some q → kv.ownBlock ≠ some q ∧ q ≠ bf ∧ q ≠ bm
  s2 : ∀ q, kv.ownBlock = some q → q ≠ bf ∧ q ≠ bm
  kee : Keeps (fun _ => False) wv wr

theorem WkS.step {wv wr w4 w5 w6 : World} {bf bm : Nat} {vert : Nat → Nat} {root d k n g5 c5 g6 c6 : Nat} {out : List (Nat × Nat)} {dv kv : Value} (h : WkS wv bf bm vert root out dv kv wr) (hbf : wv.heap.size ≤ bf) (hbm : wv.heap.size ≤ bm)
    (K4 : Keeps (fun x => x = bf ∨ x = bm) wr w4) (mf4 : MapI w4 bf (out.length + 1) (fstK (out ++ [(d, k)]))) (mm4 : MapI w4 bm (out.length + 2) (fun v => if metB vert root (out ++ [(d, k)]) v = true then some 1 else none))
    (own5 : OwnI wv.heap.size w5 (.slice (some ⟨g5, 0, none⟩) n c5) (nats (out.map Prod.fst) ++ [(d : Int)])) (K5 : Keeps (fun q => dv.ownBlock = some q) w4 w5) (at5 : dv.ownBlock = some g5 ∨ w4.heap.size ≤ g5)
    (own6 : OwnI wv.heap.size w6 (.slice (some ⟨g6, 0, none⟩) n c6) (nats (kso out) ++ [(k : Int)])) (K6 : Keeps (fun q => kv.ownBlock = some q) w5 w6) (at6 : kv.ownBlock = some g6 ∨ w5.heap.size ≤ g6) :
    WkS wv bf bm vert root (out ++ [(d, k)]) (.slice (some ⟨g5, 0, none⟩) n c5) (.slice (some ⟨g6, 0, none⟩) n c6) w6 := by
  have hs4 := K4.size
  have hs5 := K5.size
  have hbf4 := mf4.lt
  have hbm4 := mm4.lt
  have hkl := fun q hq => h.ka.lt q hq
  have hdl := fun q hq => h.da.lt q hq
  have n1 : ∀ q, kv.ownBlock = some q → q ≠ g5 := fun q hq e => by
    subst e
    rcases at5 with h1 | h1
    · exact (h.s1 _ h1).1 hq
    · have := (hkl _ hq).2; omega
  have hg5 := (own5.lt g5 rfl).2
  refine ⟨?_, ?_, ?_, ?_, fun q hq => ?_, fun q hq => ?_, ?_⟩
  · rw [List.map_append, List.map_cons, List.map_nil, nats_snoc]
    exact own5.keeps K6 (fun q hq e => by simp only [Value.ownBlock, Option.some.injEq] at hq; subst hq; exact n1 _ e rfl)
  · rw [kso_snoc, nats_snoc]
    exact own6
  · rw [List.length_append]
    exact ((mf4.keeps K5 (fun e => (h.s1 _ e).2.1 rfl)).keeps K6 (fun e => (h.s2 _ e).1 rfl))
  · rw [List.length_append]
    exact ((mm4.keeps K5 (fun e => (h.s1 _ e).2.2 rfl)).keeps K6 (fun e => (h.s2 _ e).2 rfl))
  · simp only [Value.ownBlock, Option.some.injEq] at hq ⊢
    subst hq
    refine ⟨fun e => ?_, ?_⟩
    · have e := Option.some.inj e
      subst e
      rcases at6 with h1 | h1
      · exact n1 _ h1 rfl
      · omega
    · rcases at5 with h1 | h1
      · exact (h.s1 _ h1).2
      · exact ⟨by omega, by omega⟩
  · simp only [Value.ownBlock, Option.some.injEq] at hq
    subst hq
    rcases at6 with h1 | h1
    · exact h.s2 _ h1
    · exact ⟨by omega, by omega⟩
  · refine ((h.kee.trans K4 (fun x hx e => by omega)).trans K5 (fun x hx e => by have := (hdl x e).1; omega)).trans K6 (fun x hx e => by have := (hkl x e).1; omega)

noncomputable def vnL (s : List Nat) : List Nat := (List.range s.length).map (vnum (sg s))
theorem vnL_length (s : List Nat) : (vnL s).length = s.length := by simp [vnL]
theorem sg_vnL {s : List Nat} {d : Nat} (hd : d < s.length) : sg (vnL s) d = vnum (sg s) d := by simp [sg, vnL, hd]

theorem fstK_upd {out : List (Nat × Nat)} {d k : Nat} (h : fstK out (d / 2) = none) (e : Nat) : updF (fstK out) (d / 2) k e = fstK (out ++ [(d, k)]) e := by
  rw [fstK_snoc]
  unfold updF
  by_cases he : e = d / 2
  · subst he; rw [if_pos rfl, h]; simp
  · rw [if_neg he, if_neg (fun h => he h.symm)]
    cases fstK out e <;> rfl
theorem fstK_old {out : List (Nat × Nat)} {d k x : Nat} (h : fstK out (d / 2) = some x) (e : Nat) : fstK out e = fstK (out ++ [(d, k)]) e := by
  rw [fstK_snoc]
  by_cases he : d / 2 = e
  · subst he; rw [h]
  · rw [if_neg he]; cases fstK out e <;> rfl
theorem met_upd {vert : Nat → Nat} {root d : Nat} {out : List (Nat × Nat)} (v : Nat) : updF (fun v => if metB vert root out v = true then some 1 else none) (vert (mt d)) 1 v = if metB vert root (out ++ [(d, 0)]) v = true then some 1 else none := by
  unfold updF
  by_cases hv : v = vert (mt d)
  · rw [if_pos hv, if_pos (metB_snoc.2 (.inr ⟨rfl, hv.symm⟩))]
  · rw [if_neg hv]
    dsimp only
    by_cases hm : metB vert root out v = true
    · rw [if_pos hm, if_pos (metB_snoc.2 (.inl hm))]
    · rw [if_neg hm, if_neg (fun hh => by
        rcases metB_snoc.1 hh with h1 | ⟨_, h1⟩
        · exact hm h1
        · exact hv h1.symm)]
theorem met_old {vert : Nat → Nat} {root d k : Nat} {out : List (Nat × Nat)} (hk : k ≠ 0) (v : Nat) : (if metB vert root out v = true then some 1 else none) = if metB vert root (out ++ [(d, k)]) v = true then some 1 else none := by
  by_cases hm : metB vert root out v = true
  · rw [if_pos hm, if_pos (metB_snoc.2 (.inl hm))]
  · rw [if_neg hm, if_neg (fun hh => by
      rcases metB_snoc.1 hh with h1 | ⟨h1, _⟩
      · exact hm h1
      · exact hk h1)]

end Go.Proofs.YtipelclohcdkcaaGreat

namespace Go.Proofs.YtipelclohcdkcaaGreat
open Go.RowKit

/-- What Walk gives. -/
def Walk9Post (w : World) (s : List Nat) (root : Nat) (e : Ending) (w' : World) : Prop :=
  ∃ dv kv T, e = .returned (.tuple #[dv, kv]) ∧ WkEnd s.length (sg s) (vnum (sg s)) root T ∧ OwnI w.heap.size w' dv (nats ((wlk (sg s) (vnum (sg s)) root T).2.map Prod.fst)) ∧ OwnI w.heap.size w' kv (nats (kso (wlk (sg s) (vnum (sg s)) root T).2)) ∧ Keeps (fun _ => False) w w'

set_option maxRecDepth 100000 in
set_option maxHeartbeats 8000000 in
theorem refWalk09_any (sv : Value) (rt ln : Int) (root : Nat) (s : List Nat) (w : World) (hs : Sl .i64 w sv (nats s)) (hsv : ∀ k, sv.ownBlock = some k → k < w.heap.size) (hP : IsP s.length (sg s)) (he : s.length % 2 = 0) (hl : s.length ≤ 1000000) (hr : root < s.length) :
    Calls Tryz.prog 140 #[.agg #[sv, .int .i64 rt, .int .i64 ln], .int .i64 root] w (Walk9Post w s root) := by
  have k0 : Keeps (fun _ => False) w (w.alloc (.cells #[sv, .int .i64 rt, .int .i64 ln] 72)) := (Keeps.refl _ w).alloc _
  have hb0 : BxM w.heap.size sv rt ln (w.alloc (.cells #[sv, .int .i64 rt, .int .i64 ln] 72)) := heap_alloc_new w _
  have hNm := refNames08_any sv rt ln s _ (hs.keeps k0 (fun _ _ h => h)) hP he hl
  have c0 := hb0.cell
  have c1 : (w.alloc (.cells #[sv, .int .i64 rt, .int .i64 ln] 72)).cell? ⟨w.heap.size, 1, none⟩ = some (.int .i64 rt) := World.cell_of_heap hb0 1
  have c2 : (w.alloc (.cells #[sv, .int .i64 rt, .int .i64 ln] 72)).cell? ⟨w.heap.size, 2, none⟩ = some (.int .i64 ln) := World.cell_of_heap hb0 2
  have HS : Hid (∀ W, Keeps (fun _ => False) w W → Sl .i64 W sv (nats s)) := Lib.hid (fun W hk => hs.keeps hk (fun _ _ h => h))
  have HK0 := Lib.hid (And.intro hb0 k0)
  have hsz0 : (w.alloc (.cells #[sv, .int .i64 rt, .int .i64 ln] 72)).heap.size = w.heap.size + 1 := by simp
  generalize hwb : w.alloc (.cells #[sv, .int .i64 rt, .int .i64 ln] 72) = wb at *
  have HP := Lib.hid (And.intro hP hsv)
  have hmm := @run_makeMap Tryz.prog
  obtain ⟨sa, sc, rfl, hsn, hsc⟩ := hs.form
  rw [nats_len] at hs hsn hsv c0 HS HK0 hNm hwb ⊢
  obtain ⟨gS, oS, rfl, _⟩ := hs.cellAt (nats_at hr)
  clear hs hP hb0 k0 hsv
  go_enter Tryz.func140, Tryz.ntmps140
  go_wp2_with fail
  refine hNm.mono ?_
  rintro e w1 ⟨g, rfl, hM⟩
  clear hNm c0 c1 c2 hwb
  obtain ⟨_, _, _, _, hk1⟩ := id hM
  have k1 := HK0.out.2.trans hk1 (fun _ _ h => h)
  have hb1 := HK0.out.1.keeps hk1 (fun h => h)
  have hM' : MadeS wb g s.length (fun zs => zs = nats (cnL s)) w1 := hM
  have hrc : root < (cnL s).length := by rw [cnL_length]; exact hr
  have hcr : w1.cell? ⟨g, root, none⟩ = some (.int .i64 (sg (cnL s) root : Nat)) := by
    obtain ⟨zs, _, rfl, ho, _⟩ := hM'
    exact (ho.cell (nats_at hrc)).1
  obtain ⟨p0, hp0⟩ : ∃ p0, p0 = sg (cnL s) root := ⟨_, rfl⟩
  rw [← hp0] at hcr
  have HP0 := Lib.hid hp0
  have HM1 : Hid (∀ i, i < s.length → w1.cell? ⟨g, i, none⟩ = some (.int .i64 (sg (cnL s) i : Nat))) := Lib.hid (fun i hi => by
    obtain ⟨zs, _, rfl, ho, _⟩ := hM'
    exact (ho.cell (nats_at (by rw [cnL_length]; exact hi))).1)
  have HB1 := Lib.hid (And.intro hb1 k1)
  clear hM hM' hp0 hb1 k1 hrc
  have hr0 : (root : Int) < (s.length : Int) := by omega
  go_wp2_with fail
  go_loopg [7, 24] s.length (fun m c i wr => ∃ j : Nat, j ≤ s.length ∧ m = s.length - j ∧ i = .int .i64 j ∧ c = .int .i64 (cntN (cnL s) p0 j : Nat) ∧ wr = w1)
  case atStart => exact ⟨0, Nat.zero_le _, rfl, rfl, rfl, rfl⟩
  case round =>
    obtain ⟨j, hj, hgk, rfl, rfl, rfl⟩ := hrel
    have HG := Lib.hid hgk
    clear hgk
    have hcs := cntN_succ (cnL s) p0 j
    have hcl := cntN_le (cnL s) p0 j
    by_cases hlt : j < s.length
    · have hcj := HM1.out j hlt
      obtain ⟨y, hy⟩ : ∃ y, y = sg (cnL s) j := ⟨_, rfl⟩
      rw [← hy] at hcj hcs
      have HCS := Lib.hid hcs
      clear hcs hy
      generalize cntN (cnL s) p0 j = c at *
      by_cases hyc : y = p0
      · have hd : (((y : Nat) : Int) == (p0 : Int)) = true := by simp [hyc]
        have HY := Lib.hid hyc
        clear hyc
        go_wp2
        go_roundg (s.length - (j + 1))
        case measure => rw [HG.out]; omega
        case rel => exact ⟨j + 1, by omega, rfl, by go_num, by rw [HCS.out, if_pos HY.out]; go_num, rfl⟩
      · have hd : (((y : Nat) : Int) == (p0 : Int)) = false := by rw [beq_eq_false_iff_ne]; omega
        go_wp2
        go_roundg (s.length - (j + 1))
        case measure => rw [HG.out]; omega
        case rel => exact ⟨j + 1, by omega, rfl, by go_num, by rw [HCS.out, if_neg hyc]; go_num, rfl⟩
    · obtain rfl : j = s.length := by omega
      clear hlt hcs hj HG
      obtain ⟨T, hT⟩ := wlk_end HP.out.1 he (fun x y hx hy => HP.out.1.vnum_iff hx hy) hr
      have htot : cntN (cnL s) p0 s.length = T := by
        refine hT.total (fun d => sg (cnL s) d == p0) (fun x hx => ?_)
        rw [beq_iff_eq, HP0.out, sg_cnL hx, sg_cnL hr, HP.out.1.cnum_iff he hx hr]
        exact ⟨fun hc => HP.out.1.conn_symm he hx hc, fun hc => HP.out.1.conn_symm he hr hc⟩
      rw [htot] at hcl ⊢
      have HT := Lib.hid hT
      clear htot hT hcr hcl
      have c0 := HB1.out.1.cell
      have hV := refNames05_any (.slice (some ⟨gS, oS, none⟩) s.length sc) s wr (HS.out wr HB1.out.2) (fun k hk => by have := HP.out.2 k hk; have := HB1.out.2.size; omega) HP.out.1 hl
      go_wp2_with fail
      refine hV.mono ?_
      rintro e wv ⟨gv, rfl, hMv⟩
      clear hV c0
      obtain ⟨_, _, _, _, hkv⟩ := id hMv
      have hMv' : MadeS wr gv s.length (fun zs => zs = nats (vnL s)) wv := hMv
      have HVT : Hid (∀ W, Keeps (fun _ => False) wv W → (∀ i, i < s.length → W.cell? ⟨gv, i, none⟩ = some (.int .i64 (vnum (sg s) i : Nat))) ∧ W.cell? ⟨w.heap.size, 0, none⟩ = some (.slice (some ⟨gS, oS, none⟩) s.length sc) ∧ Sl .i64 W (.slice (some ⟨gS, oS, none⟩) s.length sc) (nats s)) := Lib.hid (fun W hk => by
        refine ⟨fun i hi => ?_, (HB1.out.1.keeps (hkv.trans hk (fun _ _ h => h)) (fun h => h)).cell, HS.out W (HB1.out.2.trans (hkv.trans hk (fun _ _ h => h)) (fun _ _ h => h))⟩
        obtain ⟨zs, _, rfl, ho, _⟩ := hMv'.keeps hk
        have := (ho.cell (nats_at (by rw [vnL_length]; exact hi))).1
        rwa [sg_vnL hi] at this)
      have HKV := Lib.hid (HB1.out.2.trans hkv (fun _ _ h => h))
      obtain ⟨bf, hbf⟩ : ∃ bf, bf = wv.heap.size := ⟨_, rfl⟩
      obtain ⟨bm, hbm⟩ : ∃ bm, bm = wv.heap.size + 1 := ⟨_, rfl⟩
      have hcv : ((wv.alloc (.map #[] 0)).alloc (.map #[] 0)).cell? ⟨gv, root, none⟩ = some (.int .i64 (vnum (sg s) root : Nat)) := (HVT.out _ (((Keeps.refl (fun _ => False) wv).alloc _).alloc _)).1 root hr
      have hsz1 : (wv.alloc (.map #[] 0)).heap.size = wv.heap.size + 1 := by simp
      have hmm2 := MapI.made (wv.alloc (.map #[] 0))
      have hmf2 := (MapI.made wv).keeps ((Keeps.refl (fun _ => False) (wv.alloc (.map #[] 0))).alloc (.map #[] 0)) (fun h => h)
      rw [hsz1] at hmm2
      have hkk := ((Keeps.refl (fun _ => False) wv).alloc (.map #[] 0)).alloc (.map #[] 0)
      have hvl := HP.out.1.vnum_lt hr
      have hll := ldr_le (sg s) s.length
      obtain ⟨v0, hv0⟩ : ∃ v0, v0 = vnum (sg s) root := ⟨_, rfl⟩
      rw [← hv0] at hcv hvl
      have HBF := Lib.hid (And.intro hbf (And.intro hbm hv0))
      clear hbf hbm hv0
      clear hMv hMv' hkv
      go_wp2_with (first | (refine mapI_put rfl (.tmp 41) (.tmp 45) (.const (.int .i64 1)) (.inr rfl) rfl hmm2 (by omega) v0 (by omega) rfl 1 (by omega) rfl ?_; intro w3 hmm3 hk3))
      have h0 : WkS wv wv.heap.size (wv.heap.size + 1) (vnum (sg s)) root [] (.slice none 0 0) (.slice none 0 0) w3 := by
        refine ⟨OwnI.nil _ _, OwnI.nil _ _, (hmf2.keeps hk3 (by omega)).congr (fun k => rfl), hmm3.congr (fun k => ?_), fun q hq => by simp [Value.ownBlock] at hq, fun q hq => by simp [Value.ownBlock] at hq, hkk.trans hk3 (fun x hx e => by omega)⟩
        unfold updF metB
        rw [HBF.out.2.2]
        by_cases hk : k = vnum (sg s) root <;> simp [hk]
      have HLE := Lib.hid HT.out.le
      have hTl : T ≤ 1000000 := Nat.le_trans HT.out.le hl
      clear hmm3 hk3 hmm2 hmf2 hkk hcv hsz1 hvl hll
      go_loopg [13, 14, 15] T (fun m dv kv d wr => ∃ j : Nat, j ≤ T ∧ m = T - j ∧ d = .int .i64 ((wlk (sg s) (vnum (sg s)) root j).1 : Nat) ∧ WkS wv wv.heap.size (wv.heap.size + 1) (vnum (sg s)) root (wlk (sg s) (vnum (sg s)) root j).2 dv kv wr)
      case atStart => exact ⟨0, Nat.zero_le _, rfl, rfl, h0⟩
      case round =>
        clear h0
        obtain ⟨j, hj, hgk, rfl, hW⟩ := hrel
        have HG := Lib.hid hgk
        clear hgk
        have hlen := wlk_length (sg s) (vnum (sg s)) root j
        obtain ⟨da, dc, rfl, _, _⟩ := hW.da.form
        obtain ⟨ka, kc, rfl, _, _⟩ := hW.ka.form
        have e1 : (nats ((wlk (sg s) (vnum (sg s)) root j).2.map Prod.fst)).length = j := by rw [nats_len, List.length_map]; exact hlen
        have e2 : (nats (kso (wlk (sg s) (vnum (sg s)) root j).2)).length = j := by rw [nats_len, kso_length]; exact hlen
        rw [e1, e2] at hW ⊢
        by_cases hjT : j < T
        · obtain ⟨hdn, hfr⟩ := HT.out.cur j hjT
          have hk4 := HT.out.k4 j (by omega)
          have hnxt : wlk (sg s) (vnum (sg s)) root (j + 1) = wstep (sg s) (vnum (sg s)) root (wlk (sg s) (vnum (sg s)) root j) := rfl
          obtain ⟨d, hd⟩ : ∃ d, d = (wlk (sg s) (vnum (sg s)) root j).1 := ⟨_, rfl⟩
          obtain ⟨out, hout⟩ : ∃ out, out = (wlk (sg s) (vnum (sg s)) root j).2 := ⟨_, rfl⟩
          rw [← hout] at hlen e1 e2 hW hk4
          rw [← hd] at hdn ⊢
          have HN1 := Lib.hid e1
          have HN2 := Lib.hid e2
          have hwst : wstep (sg s) (vnum (sg s)) root (wlk (sg s) (vnum (sg s)) root j) = (sg s (if kindB (vnum (sg s)) root out d < 2 then mt d else d), out ++ [(d, kindB (vnum (sg s)) root out d)]) := by rw [hd, hout]; rfl
          have HX := Lib.hid (And.intro (hnxt.trans hwst) hlen)
          clear hnxt hwst hlen e1 e2 hout hd hfr
          obtain ⟨e, hee⟩ : ∃ e, e = d / 2 := ⟨_, rfl⟩
          have ee : ((d : Nat) : Int).tdiv 2 = (e : Int) := by rw [hee, Int.tdiv_eq_ediv_of_nonneg (by omega)]; simp
          have heb : e ≤ 1000000 := by omega
          have hmtl := mt_lt he hdn
          have hkb := kindB_fst (vnum (sg s)) root out d
          rw [← hee] at hkb
          have HE := Lib.hid hee
          clear hee
          have hcS := fun (W : World) (hk : Keeps (fun _ => False) wv W) => HVT.out W hk
          have HW := Lib.hid hW
          have hown1 := hW.da
          have hmf := hW.mf
          have hsz := hW.kee.size
          have hj10 : j ≤ 10000000000 := by omega
          have hMt := fun W => refMate06_any d W (by omega)
          obtain ⟨y, hy⟩ : ∃ y, y = mt d := ⟨_, rfl⟩
          rw [← hy] at hMt hmtl
          have HY := Lib.hid hy
          clear hy
          have hkw := hW.kee
          have hcw := hcS _ hkw
          have hcv := hcw.1 y hmtl
          have hll := ldr_le (sg s) s.length
          have hvb := HP.out.1.vnum_lt hmtl
          obtain ⟨v, hv⟩ : ∃ v, v = vnum (sg s) y := ⟨_, rfl⟩
          rw [← hv] at hcv hvb
          have HV := Lib.hid hv
          have HCW := Lib.hid (And.intro hkw hcw)
          clear hv hcw hkw hW
          have hd0 : (0 : Int) ≤ (d : Int) := by omega
          have hd1 : (d : Int) < (s.length : Int) := by omega
          have hy0 : (0 : Int) ≤ (y : Int) := by omega
          have hy1 : (y : Int) < (s.length : Int) := by omega
          cases hf : fstK out e with
          | some x =>
            obtain ⟨z, hz⟩ := fstK_mem hf
            have hx4 := hk4 z x hz
            rw [hf] at hkb
            have HF := Lib.hid (And.intro hf hkb)
            clear hkb hz hf
            by_cases hx0 : x = 0
            · subst hx0
              go_wp2_with (first | (at_lookup; refine mapI_look_ok rfl (.tmp 55) (.tmp 56) rfl rfl hmf e (by omega) rfl ?_; simp only [HF.out.1, Option.getD_some, Option.isSome_some]) | (at_builtin; refine append1n j rfl (.tmp 82) (.tmp 84) rfl wv.heap.size (.slice da j dc) (nats (out.map Prod.fst)) (d : Int) HN1 wr.heap.size rfl rfl rfl hown1 hj10 hsz ?_; intro g5 c5 w5 hown5 hk5 hat5 hg5; have hka5 := (HW.out.ka.keeps (Keeps.refl (fun x => x = wv.heap.size ∨ x = wv.heap.size + 1) wr) (fun q hq e5 => by rcases e5 with e5 | e5; exact (HW.out.s2 q hq).1 e5; exact (HW.out.s2 q hq).2 e5)).keeps hk5 (fun q hq e5 => (HW.out.s1 q e5).1 hq); have hs5 := hk5.size; have hsz5 : wv.heap.size ≤ w5.heap.size := (by omega)) | (at_builtin; refine append1n j rfl (.tmp 86) (.tmp 88) rfl wv.heap.size (.slice ka j kc) (nats (kso out)) ((1 : Nat) : Int) HN2 w5.heap.size rfl rfl rfl hka5 hj10 hsz5 ?_; intro g6 c6 w6 hown6 hk6 hat6 hg6; have hW6 := WkS.step (d := d) (k := 1) HW.out (Nat.le_refl _) (by omega) (Keeps.refl (fun x => x = wv.heap.size ∨ x = wv.heap.size + 1) wr) ((HW.out.mf.congr (fstK_old (by rw [← HE.out]; exact HF.out.1))).more (by omega)) ((HW.out.mm.congr (met_old (by omega))).more (by omega)) hown5 hk5 hat5 (by exact hown6) hk6 hat6; have hc6 := hcS w6 hW6.kee; have hb6 := hc6.2.1; have hi6 := hc6.2.2.cellOf (nats_at (hmtl)); clear hown5 hown6 hk5 hk6 hat5 hat6 hka5) | (go_at_call 180; refine (hMt _).mono ?_; rintro e w' ⟨rfl, rfl⟩))
              have HW6 := Lib.hid hW6
              have hkk : kindB (vnum (sg s)) root out d = 1 := HF.out.2
              have hwn := HX.out.1
              rw [hkk, if_pos (by omega), ← HY.out] at hwn
              have HWN := Lib.hid hwn
              clear hW6 hwn hkk hown1 hmf hcS hc6 hb6 hi6 hcv
              go_roundg (T - (j + 1))
              case measure => rw [HG.out]; omega
              case rel => exact ⟨j + 1, by omega, rfl, by rw [HWN.out], by rw [HWN.out]; exact HW6.out⟩
            · have hdk : decide ((x : Int) + 1 < 2) = false := decide_eq_false (by omega)
              go_wp2_with (first | (at_lookup; refine mapI_look_ok rfl (.tmp 55) (.tmp 56) rfl rfl hmf e (by omega) rfl ?_; simp only [HF.out.1, Option.getD_some, Option.isSome_some]) | (at_builtin; refine append1n j rfl (.tmp 82) (.tmp 84) rfl wv.heap.size (.slice da j dc) (nats (out.map Prod.fst)) (d : Int) HN1 wr.heap.size rfl rfl rfl hown1 hj10 hsz ?_; intro g5 c5 w5 hown5 hk5 hat5 hg5; have hka5 := (HW.out.ka.keeps (Keeps.refl (fun x => x = wv.heap.size ∨ x = wv.heap.size + 1) wr) (fun q hq e5 => by rcases e5 with e5 | e5; exact (HW.out.s2 q hq).1 e5; exact (HW.out.s2 q hq).2 e5)).keeps hk5 (fun q hq e5 => (HW.out.s1 q e5).1 hq); have hs5 := hk5.size; have hsz5 : wv.heap.size ≤ w5.heap.size := (by omega)) | (at_builtin; refine append1n j rfl (.tmp 86) (.tmp 88) rfl wv.heap.size (.slice ka j kc) (nats (kso out)) ((x : Int) + 1) HN2 w5.heap.size rfl rfl rfl hka5 hj10 hsz5 ?_; intro g6 c6 w6 hown6 hk6 hat6 hg6; have hW6 := WkS.step (d := d) (k := x + 1) HW.out (Nat.le_refl _) (by omega) (Keeps.refl (fun x => x = wv.heap.size ∨ x = wv.heap.size + 1) wr) ((HW.out.mf.congr (fstK_old (by rw [← HE.out]; exact HF.out.1))).more (by omega)) ((HW.out.mm.congr (met_old (by omega))).more (by omega)) hown5 hk5 hat5 (by exact hown6) hk6 hat6; have hc6 := hcS w6 hW6.kee; have hb6 := hc6.2.1; have hi6 := hc6.2.2.cellOf (nats_at (hdn)); clear hown5 hown6 hk5 hk6 hat5 hat6 hka5))
              have HW6 := Lib.hid hW6
              have hkk : kindB (vnum (sg s)) root out d = x + 1 := HF.out.2
              have hwn := HX.out.1
              rw [hkk, if_neg (by omega)] at hwn
              have HWN := Lib.hid hwn
              clear hW6 hwn hkk hown1 hmf hcS hc6 hb6 hi6 hcv
              go_roundg (T - (j + 1))
              case measure => rw [HG.out]; omega
              case rel => exact ⟨j + 1, by omega, rfl, by rw [HWN.out], by rw [HWN.out]; exact HW6.out⟩
          | none =>
            rw [hf] at hkb
            by_cases hm : metB (vnum (sg s)) root out v = true
            · have HM := Lib.hid hm
              rw [← HY.out, ← HV.out, hm] at hkb
              have HF := Lib.hid (And.intro hf hkb)
              clear hkb hf
              go_wp2_with (first | (at_lookup; refine mapI_look_ok rfl (.tmp 55) (.tmp 56) rfl rfl hmf e (by omega) rfl ?_; simp only [HF.out.1, Option.getD_none, Option.isSome_none]) | (at_lookup; refine mapI_look rfl (.tmp 63) (.tmp 68) rfl rfl HW.out.mm v (by omega) rfl ?_; simp only [if_pos HM.out, Option.getD_some]) | (at_mapUpdate; refine mapI_put rfl (.tmp 79) (.tmp 80) (.tmp 81) (.inl rfl) rfl hmf (by have := HX.out.2; omega) e (by omega) rfl 2 (by omega) rfl ?_; intro w4 hmf4 hk4'; have hown4 := hown1.keeps hk4' (fun q hq e5 => (HW.out.s1 q hq).2.1 e5); have hs4 := hk4'.size; have hsz4 : wv.heap.size ≤ w4.heap.size := (by omega)) | (at_builtin; refine append1n j rfl (.tmp 82) (.tmp 84) rfl wv.heap.size (.slice da j dc) (nats (out.map Prod.fst)) (d : Int) HN1 w4.heap.size rfl rfl rfl hown4 hj10 hsz4 ?_; intro g5 c5 w5 hown5 hk5 hat5 hg5; have hka5 := (HW.out.ka.keeps (hk4'.mono (fun _ _ h => .inl h) : Keeps (fun x => x = wv.heap.size ∨ x = wv.heap.size + 1) wr w4) (fun q hq e5 => by rcases e5 with e5 | e5; exact (HW.out.s2 q hq).1 e5; exact (HW.out.s2 q hq).2 e5)).keeps hk5 (fun q hq e5 => (HW.out.s1 q e5).1 hq); have hs5 := hk5.size; have hsz5 : wv.heap.size ≤ w5.heap.size := (by omega)) | (at_builtin; refine append1n j rfl (.tmp 86) (.tmp 88) rfl wv.heap.size (.slice ka j kc) (nats (kso out)) ((2 : Nat) : Int) HN2 w5.heap.size rfl rfl rfl hka5 hj10 hsz5 ?_; intro g6 c6 w6 hown6 hk6 hat6 hg6; have hW6 := WkS.step (d := d) (k := 2) HW.out (Nat.le_refl _) (by omega) (hk4'.mono (fun _ _ h => .inl h) : Keeps (fun x => x = wv.heap.size ∨ x = wv.heap.size + 1) wr w4) (hmf4.congr (fun z => by rw [HE.out]; exact fstK_upd (by rw [← HE.out]; exact HF.out.1) z)) (((HW.out.mm.keeps hk4' (by omega)).congr (met_old (by omega))).more (by omega)) hown5 hk5 hat5 (by exact hown6) hk6 hat6; have hc6 := hcS w6 hW6.kee; have hb6 := hc6.2.1; have hi6 := hc6.2.2.cellOf (nats_at (hdn)); clear hown5 hown6 hk5 hk6 hat5 hat6 hka5) | (go_at_call 180; refine (hMt _).mono ?_; rintro e w' ⟨rfl, rfl⟩))
              have HW6 := Lib.hid hW6
              have hkk : kindB (vnum (sg s)) root out d = 2 := HF.out.2
              have hwn := HX.out.1
              rw [hkk, if_neg (by omega)] at hwn
              have HWN := Lib.hid hwn
              clear hW6 hwn hkk hown1 hmf hcS hc6 hb6 hi6 hcv
              go_roundg (T - (j + 1))
              case measure => rw [HG.out]; omega
              case rel => exact ⟨j + 1, by omega, rfl, by rw [HWN.out], by rw [HWN.out]; exact HW6.out⟩
            · have HM := Lib.hid hm
              rw [← HY.out, ← HV.out, if_neg hm] at hkb
              have HF := Lib.hid (And.intro hf hkb)
              clear hkb hf
              go_wp2_with (first | (at_lookup; refine mapI_look_ok rfl (.tmp 55) (.tmp 56) rfl rfl hmf e (by omega) rfl ?_; simp only [HF.out.1, Option.getD_none, Option.isSome_none]) | (at_lookup; refine mapI_look rfl (.tmp 63) (.tmp 68) rfl rfl HW.out.mm v (by omega) rfl ?_; simp only [if_neg HM.out, Option.getD_none]) | (at_mapUpdate; refine mapI_put rfl (.tmp 71) (.tmp 76) (.const (.int .i64 1)) (.inl rfl) rfl HW.out.mm (by have := HX.out.2; omega) v (by omega) rfl 1 (by omega) rfl ?_; intro w3 hmm3 hk3; have hmf3 := hmf.keeps hk3 (by omega); have hown3' := hown1.keeps hk3 (fun q hq e5 => (HW.out.s1 q hq).2.2 e5); have hs3 := hk3.size) | (at_mapUpdate; refine mapI_put rfl (.tmp 79) (.tmp 80) (.tmp 81) (.inl rfl) rfl hmf3 (by have := HX.out.2; omega) e (by omega) rfl 0 (by omega) rfl ?_; intro w4 hmf4 hk4'; have hown4 := hown3'.keeps hk4' (fun q hq e5 => (HW.out.s1 q hq).2.1 e5); have hs4 := hk4'.size; have hsz4 : wv.heap.size ≤ w4.heap.size := (by omega)) | (at_builtin; refine append1n j rfl (.tmp 82) (.tmp 84) rfl wv.heap.size (.slice da j dc) (nats (out.map Prod.fst)) (d : Int) HN1 w4.heap.size rfl rfl rfl hown4 hj10 hsz4 ?_; intro g5 c5 w5 hown5 hk5 hat5 hg5; have hka5 := (HW.out.ka.keeps ((hk3.mono (fun _ _ h => .inr h) : Keeps (fun x => x = wv.heap.size ∨ x = wv.heap.size + 1) wr w3).trans hk4' (fun _ _ h => .inl h)) (fun q hq e5 => by rcases e5 with e5 | e5; exact (HW.out.s2 q hq).1 e5; exact (HW.out.s2 q hq).2 e5)).keeps hk5 (fun q hq e5 => (HW.out.s1 q e5).1 hq); have hs5 := hk5.size; have hsz5 : wv.heap.size ≤ w5.heap.size := (by omega)) | (at_builtin; refine append1n j rfl (.tmp 86) (.tmp 88) rfl wv.heap.size (.slice ka j kc) (nats (kso out)) ((0 : Nat) : Int) HN2 w5.heap.size rfl rfl rfl hka5 hj10 hsz5 ?_; intro g6 c6 w6 hown6 hk6 hat6 hg6; have hW6 := WkS.step (d := d) (k := 0) HW.out (Nat.le_refl _) (by omega) ((hk3.mono (fun _ _ h => .inr h) : Keeps (fun x => x = wv.heap.size ∨ x = wv.heap.size + 1) wr w3).trans hk4' (fun _ _ h => .inl h)) (hmf4.congr (fun z => by rw [HE.out]; exact fstK_upd (by rw [← HE.out]; exact HF.out.1) z)) ((hmm3.keeps hk4' (by omega)).congr (fun z => by rw [HV.out, HY.out]; exact met_upd z)) hown5 hk5 hat5 (by exact hown6) hk6 hat6; have hc6 := hcS w6 hW6.kee; have hb6 := hc6.2.1; have hi6 := hc6.2.2.cellOf (nats_at (hmtl)); clear hown5 hown6 hk5 hk6 hat5 hat6 hka5) | (go_at_call 180; refine (hMt _).mono ?_; rintro e w' ⟨rfl, rfl⟩))
              have HW6 := Lib.hid hW6
              have hkk : kindB (vnum (sg s)) root out d = 0 := HF.out.2
              have hwn := HX.out.1
              rw [hkk, if_pos (by omega), ← HY.out] at hwn
              have HWN := Lib.hid hwn
              clear hW6 hwn hkk hown1 hmf hcS hc6 hb6 hi6 hcv
              go_roundg (T - (j + 1))
              case measure => rw [HG.out]; omega
              case rel => exact ⟨j + 1, by omega, rfl, by rw [HWN.out], by rw [HWN.out]; exact HW6.out⟩
        · obtain rfl : j = T := by omega
          have hsz := HKV.out.size
          have HF := Lib.hid (And.intro (hW.da.mono (B' := w.heap.size) (fun q hq => by have := (hW.da.lt q hq).1; omega)) (And.intro (hW.ka.mono (B' := w.heap.size) (fun q hq => by have := (hW.ka.lt q hq).1; omega)) (HKV.out.trans hW.kee (fun _ _ h => h))))
          clear hW
          go_wp2
          go_ret2
          exact ⟨_, _, j, rfl, HT.out, HF.out.1, HF.out.2.1, HF.out.2.2⟩

end Go.Proofs.YtipelclohcdkcaaGreat
