/- RotsTurned. -/
import Derived.Test.YtblkkcpeodoclaaGreatDoorPtTurnS
namespace Go.Proofs.YtblkkcpeodoclaaGreatDoor
open Go.RowKit

/-- Lines in memory, from cell 1 of block g on. -/
def TxM (W : World) (g : Nat) (M : List (List Nat)) : Prop := ∀ (j : Nat) l, M[j]? = some l → W.cell? ⟨g, 1 + j, none⟩ = some (.string (bytesA (rowT l))) ∧ W.frozen? ⟨g, 1 + j, none⟩ = false

theorem TxM.keeps {F : Nat → Prop} {W W' : World} {g : Nat} {M : List (List Nat)} (h : TxM W g M) (k : Keeps F W W') (hg : ¬ F g) (hlt : g < W.heap.size) : TxM W' g M := fun j l hl => by
  have hb := k.block g hlt hg
  refine ⟨by rw [World.cell?_of_block hb]; exact (h j l hl).1, ?_⟩
  have := (h j l hl).2
  unfold World.frozen? at this ⊢
  rw [show W'.heap[(⟨g, 1 + j, none⟩ : Addr).block]? = W.heap[(⟨g, 1 + j, none⟩ : Addr).block]? from hb]
  exact this

theorem TxM.swap {W : World} {g i k : Nat} {M : List (List Nat)} {a b : List Nat} (h : TxM W g M) (hi : M[i]? = some a) (hk : M[k]? = some b) :
    TxM ((W.setCell ⟨g, 1 + i, none⟩ (.string (bytesA (rowT b)))).setCell ⟨g, 1 + k, none⟩ (.string (bytesA (rowT a)))) g (swpM M i k a b) := fun j l hl => by
  obtain ⟨hil, -⟩ := List.getElem?_eq_some_iff.1 hi
  obtain ⟨hkl, -⟩ := List.getElem?_eq_some_iff.1 hk
  have hne : ∀ {x y : Nat}, x ≠ y → (⟨g, 1 + x, none⟩ : Addr) ≠ ⟨g, 1 + y, none⟩ := fun hxy e => by
    simp only [Addr.mk.injEq, true_and, and_true] at e
    omega
  have hck : ∃ u, (W.setCell ⟨g, 1 + i, none⟩ (.string (bytesA (rowT b)))).cell? ⟨g, 1 + k, none⟩ = some u := by
    by_cases e : i = k
    · subst e
      exact ⟨_, World.cell?_setCell_same _ _ _ (h i a hi).1⟩
    · exact ⟨_, (World.cell?_setCell_other _ _ _ _ (hne e)).trans (h k b hk).1⟩
  unfold swpM at hl
  rw [World.frozen?_setCell, World.frozen?_setCell]
  by_cases hjk : j = k
  · subst hjk
    rw [List.getElem?_set_self (by simpa using hkl)] at hl
    cases hl
    obtain ⟨u, hu⟩ := hck
    exact ⟨World.cell?_setCell_same _ _ _ hu, (h j b hk).2⟩
  · rw [List.getElem?_set_ne (fun e => hjk e.symm)] at hl
    rw [World.cell?_setCell_other _ _ _ _ (hne (fun e => hjk e.symm))]
    by_cases hji : j = i
    · subst hji
      rw [List.getElem?_set_self hil] at hl
      cases hl
      exact ⟨World.cell?_setCell_same _ _ _ (h j a hi).1, (h j a hi).2⟩
    · rw [List.getElem?_set_ne (fun e => hji e.symm)] at hl
      rw [World.cell?_setCell_other _ _ _ _ (hne (fun e => hji e.symm))]
      exact h j l hl

theorem swp_at {α : Type} {M : List α} {i k : Nat} {a b : α} (hi : M[i]? = some a) (hk : M[k]? = some b) : (swpM M i k a b)[i]? = some b := by
  have hil := (List.getElem?_eq_some_iff.1 hi).1
  unfold swpM
  by_cases e : k = i
  · subst e
    rw [hi] at hk
    cases hk
    rw [List.getElem?_set_self (by simpa using hil)]
  · rw [List.getElem?_set_ne e, List.getElem?_set_self hil]

theorem rot_cut {l : List Nat} {j : Nat} (h : (rowT l)[j]? = some 32) (hno : ∀ q, q < j → (rowT l)[q]? ≠ some 32) : ((rowT l).drop (j + 1) ++ [32]) ++ (rowT l).take j = rowT (rotL l) := by
  cases l with
  | nil => simp [rowT, nats, joinB] at h
  | cons a r =>
    by_cases hr : r = []
    · subst hr
      exact absurd (List.mem_of_getElem? h) (one_text a).2.2
    · obtain ⟨e1, e2, e3⟩ := rot_text (a := a) hr
      rw [e1] at h hno ⊢
      rw [e2]
      have hj : j = (Lib.itoa (a : Int)).length := by
        rcases Nat.lt_trichotomy j (Lib.itoa (a : Int)).length with hj | hj | hj
        · rw [List.getElem?_append_left hj] at h
          exact absurd (List.mem_of_getElem? h) e3
        · exact hj
        · exact absurd (by rw [List.getElem?_append_right (Nat.le_refl _), Nat.sub_self]; rfl) (hno _ hj)
      subst hj
      rw [List.take_left, List.drop_append]
      simp

theorem row_small {s : List Nat} (hP : IsP s.length (sg s)) (hl : s.length ≤ 22) {l : List Nat} (h : l ∈ linesOf s) : (rowT l).length ≤ 484 := by
  unfold linesOf at h
  obtain ⟨d, hd, rfl⟩ := List.mem_map.1 h
  have hd2 := (mem_firsts.1 hd).1
  have h1 := orb_bound hP (by omega) hd2
  have h2 := join_len21 32 ((nats (orb (sg s) d)).map Lib.itoa) (fun x hx => by
    obtain ⟨z, hz, rfl⟩ := List.mem_map.1 hx
    exact Lib.itoa_length_le z (h1.2 z hz).1 (h1.2 z hz).2)
  rw [List.length_map] at h2
  unfold rowT
  omega

set_option maxRecDepth 100000 in
set_option maxHeartbeats 16000000 in
theorem walkRotsTurned (a0 : Int) (a1 : Option Addr) (len1 cap1 : Nat) (z1 : List Int) (a2 : Int) (a3 : Option Addr) (len3 cap3 : Nat) (z3 : List Int) (w : World) (w0 : (Lit.int .u8 a0).wf = true) (w1 : RowIn .u8 w a1 len1 cap1 z1) (w2 : (Lit.int .u8 a2).wf = true) (w3 : RowIn .u8 w a3 len3 cap3 z3) (hE : EnvR w.heap.size w) :
    Calls Tryz.prog 4 #[.int .u8 a0, .slice a1 len1 cap1, .int .u8 a2, .slice a3 len3 cap3] w fun e w' => e = .returned (.bool true) ∧ Below w.heap.size w w' := by
  obtain ⟨p, rfl, hp8⟩ := u8_in w0
  obtain ⟨ps, hp, hps⟩ := w1.bytes
  obtain ⟨root, rfl, hroot⟩ := u8_in w2
  obtain ⟨os, hos, hosb⟩ := w3.bytes
  have hlen : len3 = os.length ∧ os.length ≤ cap3 ∧ cap3 ≤ 9223372036854775807 := by
    obtain ⟨_, _, e, h1, h2, -, -⟩ := id hos
    simp only [Value.slice.injEq, nats_len] at e h1
    omega
  obtain ⟨rfl, hoc, hom⟩ := hlen
  obtain ⟨no, hno⟩ : ∃ no, no = os.length := ⟨_, rfl⟩
  rw [← hno] at hos hoc ⊢
  have HOS := Lib.hid (And.intro hos (And.intro hosb hno))
  have hA := fun w1 (hk : Keeps (fun _ => False) w w1) => refAny06_any (.slice a1 len1 cap1) ps (p % 12) root w1 (hp.keeps hk (fun _ _ h => h)) hps (by omega) hroot
  have e2 : ((p % 12 : Nat) : Int) = (p : Int) % 12 := by omega
  rw [e2] at hA
  have HE := Lib.hid hE
  clear w0 w1 w2 w3 hp hps hroot e2 hE hos hosb hno
  go_enter Tryz.func4, Tryz.ntmps4
  go_wp2_with fail
  refine (awake07_any w.heap.size w HE.out).mono ?_
  rintro e w1 ⟨rfl, hk1⟩
  have HK1 := Lib.hid hk1
  clear hk1
  go_wp2_with fail
  refine (hA _ HK1.out).mono ?_
  rintro e w2 ⟨sv, s, rt, rfl, ⟨hsl, hP, hr⟩, hown, hk2⟩
  clear hA
  obtain ⟨sa, sc, hsvf, _, _⟩ := hown.form
  rw [nats_len] at hsvf
  obtain ⟨n, hn⟩ : ∃ n, n = s.length := ⟨_, rfl⟩
  rw [← hn] at hsvf
  subst hsvf
  have hn22 : n ≤ 22 := by omega
  have hrtb : -1 ≤ rt ∧ rt ≤ 1000 := by rcases hr with ⟨_, h⟩ | ⟨r, h, _⟩ <;> omega
  have hsz2 : w.heap.size ≤ w2.heap.size := Nat.le_trans HK1.out.size hk2.size
  obtain ⟨wx, hwx⟩ : ∃ wx, wx = w2.alloc (.cells #[.slice sa n sc, .int .i64 rt, .int .i64 0] 35) := ⟨_, rfl⟩
  have hbx : wx.heap[w2.heap.size]? = some (.cells #[.slice sa n sc, .int .i64 rt, .int .i64 0] 35 (0, 0)) := by
    rw [hwx]
    exact heap_alloc_new w2 _
  have kx2 : Keeps (fun _ => False) w2 wx := by
    rw [hwx]
    exact (Keeps.refl (fun _ => False) w2).alloc _
  have kx : Keeps (fun _ => False) w wx := (HK1.out.trans hk2 (fun _ _ h => h)).trans kx2 (fun _ _ h => h)
  obtain ⟨bx, hbxe⟩ : ∃ bx, bx = w2.heap.size := ⟨_, rfl⟩
  rw [← hbxe] at hbx
  have hown2 := hown.keeps kx2 (fun _ _ h => h)
  have hmap : Calls Tryz.prog 15 #[.slice sa n sc, .int .i64 rt, .int .i64 0] wx (MadeMap wx s rt 0) := new_map (ln := 0) hown2.sl hP (by omega) (by omega) (by omega) hr
  have htl := text_len hP (by omega) hrtb (show 0 ≤ 65536 by omega)
  have hbw : w.heap.size ≤ bx := by omega
  have HX := Lib.hid (And.intro kx (And.intro hbx (And.intro hn (And.intro hP (And.intro hr (And.intro hmap (And.intro htl hsl)))))))
  clear hown hk2 kx2 kx hbx hsl hP hr hmap htl hown2 hn
  unfold mapV
  go_upto_region 4 with fail
  rw [← hwx, ← hbxe]
  clear hwx hbxe
  obtain ⟨c0, c1⟩ : wx.cell? ⟨bx, 0, none⟩ = some (.slice sa n sc) ∧ wx.cell? ⟨bx, 1, none⟩ = some (.int .i64 rt) := ⟨World.cell_of_heap HX.out.2.1 0, World.cell_of_heap HX.out.2.1 1⟩
  go_wp2_with fail
  refine HX.out.2.2.2.2.2.1.mono ?_
  rintro e w4 ⟨b, rfl, hma, hbb, hk4⟩
  have hbw4 : w.heap.size ≤ b := by have := HX.out.1.size; omega
  have hPr := print_any hma w.heap.size (HE.out.keeps (HX.out.1.trans hk4 (fun _ _ h => h)) (fun _ h => h.elim)) hbw4
  have HP := Lib.hid (And.intro hPr (And.intro hk4 hbb))
  clear hPr hma hk4 c0 c1
  go_wp2_with fail
  refine HP.out.1.mono ?_
  rintro e w5 ⟨v, rfl, hv, hvb, hmq⟩
  have hk5 : Keeps (fun _ => False) wx w5 := HP.out.2.1.trans hmq.2 (fun x hx e => by have := HP.out.2.2; omega)
  obtain ⟨R5, hR5⟩ : ∃ R5, MapAt w5 b s rt 0 R5 := ⟨_, hmq.1⟩
  obtain ⟨T, hT⟩ : ∃ T, T = textB s rt ((0 : Nat) : Int) := ⟨_, rfl⟩
  have hv2 : Sl .u8 w5 v (nats (natsB T)) := by rw [hT]; exact hv
  clear hv
  have htl : T.length ≤ 300000 := by rw [hT]; exact HX.out.2.2.2.2.2.2.1
  have hcutT : cutB 10 T = (joinB 32 ([((s.length / 2 : Nat) : Int), rt, ((0 : Nat) : Int)].map Lib.itoa) :: (linesOf s).map rowT) ++ [[]] := by rw [hT]; exact cut_text s rt 0
  obtain ⟨va, vc, rfl, hvc, hvm⟩ := hv2.form
  rw [nats_len, natsB_len] at hvc hv2 ⊢
  obtain ⟨tl, htle⟩ : ∃ tl, tl = T.length := ⟨_, rfl⟩
  rw [← htle] at hv2 htl hvc ⊢
  have HR := Lib.hid (And.intro hR5 (And.intro hv2 (And.intro hcutT (And.intro (HX.out.1.trans hk5 (fun _ _ h => h)) htle))))
  clear hmq hT hk5 hR5 hv2 hcutT htle hvb
  go_wp2_with fail
  go_loopg [14, 15, 49] tl (fun mu lv fv iv wr => ∃ (i : Nat) (done : List (List UInt8)) (cur : List UInt8), i ≤ tl ∧ mu = tl - i ∧ iv = .int .i64 i ∧ cutB 10 (T.take i) = done ++ [cur] ∧ cur.length ≤ i ∧ fv = .int .i64 (i - cur.length : Nat) ∧ done.length ≤ i ∧
    OwnT w5.heap.size wr lv ((done.map bytesA).map Value.string) ∧ Keeps (fun _ => False) w5 wr)
  case atStart => exact ⟨0, [], [], Nat.zero_le _, rfl, rfl, by simp [cutB], Nat.le_refl _, rfl, Nat.le_refl _, OwnT.nil _ _, Keeps.refl _ _⟩
  case round =>
    obtain ⟨i, done, cur, hi, hgk, rfl, hcut, hcl, rfl, hdl, hown, hkr⟩ := hrel
    have HG := Lib.hid hgk
    have hvl : ((done.map bytesA).map Value.string).length = done.length := by simp
    obtain ⟨la, lc, rfl, hlc⟩ := hown.form
    rw [hvl] at hown hlc ⊢
    obtain ⟨dn, hdn⟩ : ∃ dn, dn = done.length := ⟨_, rfl⟩
    rw [← hdn] at hdl hown hlc hvl ⊢
    have HN := Lib.hid hvl
    have HO := Lib.hid (And.intro hown (And.intro hkr (And.intro hcut hdn)))
    clear hgk hvl hown hkr hcut hdn
    by_cases hlt : i < tl
    · obtain ⟨x, hx⟩ : ∃ x, T[i]? = some x := ⟨_, List.getElem?_eq_getElem (by rw [← HR.out.2.2.2.2]; exact hlt)⟩
      obtain ⟨g, off, rfl, hc⟩ := (HR.out.2.1.keeps HO.out.2.1 (fun _ _ h => h)).cellAt (show (nats (natsB T))[i]? = some (x.toNat : Int) by unfold nats natsB; rw [List.getElem?_map, List.getElem?_map, hx]; rfl)
      have hsn : cutB 10 (T.take (i + 1)) = if x = 10 then done ++ [cur] ++ [[]] else done ++ [cur ++ [x]] := by rw [List.take_add_one, hx]; exact cut_snoc HO.out.2.2.1
      have HSN := Lib.hid hsn
      clear hsn
      by_cases h10 : x = 10
      · subst h10
        rw [if_pos rfl] at HSN
        have hc10 : wr.cell? ⟨g, off + i, none⟩ = some (.int .u8 10) := hc
        obtain ⟨fr, hfr⟩ : ∃ fr, fr = i - cur.length := ⟨_, rfl⟩
        rw [← hfr]
        have hfi : fr ≤ i := by omega
        obtain ⟨pre, hpre⟩ := cut_tail HO.out.2.2.1
        have hseg : ((nats (natsB T)).take i).drop fr = nats (natsB cur) := by
          unfold nats natsB
          rw [← List.map_take, ← List.map_drop, ← List.map_take, ← List.map_drop, hpre]
          have hpl : pre.length = fr := by
            have := congrArg List.length hpre
            rw [List.length_append, List.length_take, ← HR.out.2.2.2.2] at this
            omega
          rw [← hpl, List.drop_left]
        have hsg := (HR.out.2.1.keeps HO.out.2.1 (fun _ _ h => h)).seg fr i hfi (by omega)
        rw [hseg] at hsg
        have hcv := convB cur hsg
        have hvf : ¬ vc = fr := by omega
        have q1 : (fr : Int) ≤ (i : Int) := by omega
        have q2 : (i : Int) ≤ (vc : Int) := by omega
        have hsz : w5.heap.size ≤ wr.heap.size := HO.out.2.1.size
        have HF0 := Lib.hid hfr
        clear hc hx hseg hsg hpre hfr
        have hown := HO.out.1
        go_wp2_with (at_builtin; go_loud (refine append1t dn rfl _ _ rfl w5.heap.size (.slice la dn lc) ((done.map bytesA).map Value.string) (bytesA cur) HN wr.heap.size rfl rfl rfl hown (by omega) hsz ?_); intro g2 cap2 w3 hown3 hk3 hat hg)
        have hkf : Keeps (fun _ => False) w5 w3 := HO.out.2.1.trans hk3 (fun y hy e => by have := (HO.out.1.lt y e).1; omega)
        have hnx : (done.map bytesA).map Value.string ++ [Value.string (bytesA cur)] = ((done ++ [cur]).map bytesA).map Value.string := by simp
        rw [hnx] at hown3
        have HF := Lib.hid (And.intro hown3 hkf)
        clear hown3 hk3 hkf hnx hat hown
        go_wp2
        go_roundg (tl - (i + 1))
        case measure => rw [HG.out]; omega
        case rel => exact ⟨i + 1, done ++ [cur], [], by omega, rfl, by go_num, HSN.out, Nat.zero_le _, by go_num, by rw [List.length_append, ← HO.out.2.2.2]; simp; omega, HF.out.1, HF.out.2⟩
      · rw [if_neg h10] at HSN
        have hx10 : ¬ x.toNat = 10 := fun e => h10 (UInt8.toNat_inj.1 e)
        have t1 : (((x.toNat : Nat) : Int) == 10) = false := by rw [beq_eq_false_iff_ne]; omega
        have t2 : decide (((x.toNat : Nat) : Int) = 10) = false := decide_eq_false (by omega)
        have hcl2 : i - cur.length = i + 1 - (cur ++ [x]).length := by rw [List.length_append, List.length_singleton]; omega
        have HCL := Lib.hid hcl2
        clear hx h10 hcl2
        generalize x.toNat = xn at *
        go_wp2
        go_roundg (tl - (i + 1))
        case measure => rw [HG.out]; omega
        case rel => exact ⟨i + 1, done, cur ++ [x], by omega, rfl, by go_num, HSN.out, by rw [List.length_append, List.length_singleton]; omega, by rw [HCL.out], by rw [← HO.out.2.2.2]; omega, HO.out.1, HO.out.2.1⟩
    · have hin : i = tl := by omega
      obtain ⟨hT0, hh0⟩ : ∃ hT0, hT0 = joinB 32 ([((s.length / 2 : Nat) : Int), rt, ((0 : Nat) : Int)].map Lib.itoa) := ⟨_, rfl⟩
      have hd : done = hT0 :: (linesOf s).map rowT := by
        have h := HO.out.2.2.1
        rw [hin, HR.out.2.2.2.2, List.take_length, HR.out.2.2.1, ← hh0] at h
        exact (List.append_inj_left' h rfl).symm
      obtain ⟨L, hL⟩ : ∃ L, L = (linesOf s).length := ⟨_, rfl⟩
      have hdnL : dn = L + 1 := by rw [HO.out.2.2.2, hd]; simp [hL]
      have hL22 : L ≤ 22 := by
        have h1 : L = ldr (sg s) s.length := by rw [hL]; unfold linesOf; rw [List.length_map, firsts_len]
        have h2 := ldr_le (sg s) s.length
        have h3 := HX.out.2.2.1
        omega
      obtain ⟨g0, cap0, e0, hc1, hc2, hcells, -, hlt0⟩ := owns_form HO.out.1 (by rw [List.length_map, List.length_map, hd]; simp)
      have hg0 : w5.heap.size ≤ g0 := by
        have := HO.out.1.lt g0 (by rw [e0]; rfl)
        exact this.1
      simp only [Value.slice.injEq] at e0
      obtain ⟨rfl, -, rfl⟩ := e0
      have hvs : ∀ (j : Nat) t, done[j]? = some t → wr.cell? ⟨g0, j, none⟩ = some (.string (bytesA t)) ∧ wr.frozen? ⟨g0, j, none⟩ = false := fun j t ht => hcells j _ (by rw [List.getElem?_map, List.getElem?_map, ht]; rfl)
      have c0 := (hvs 0 hT0 (by rw [hd]; rfl)).1
      have hTx : TxM wr g0 (linesOf s) := fun j l hl => hvs (1 + j) (rowT l) (by rw [hd, Nat.add_comm 1 j, List.getElem?_cons_succ, List.getElem?_map, hl]; rfl)
      obtain ⟨t0, ht0⟩ : ∃ t0, t0 = linesB (s.length / 2) rt 0 [] := ⟨_, rfl⟩
      have ht0e : t0 = hT0 ++ [10] := by rw [ht0, hh0]; unfold linesB rowB; simp
      have ht0l : t0.length ≤ 67 := by
        have h1 : (rowB [((s.length / 2 : Nat) : Int), rt, ((0 : Nat) : Int)]).length ≤ 22 * 3 + 1 := rowB_len (by
          intro z hz
          have h3 := HX.out.2.2.1
          simp only [List.mem_cons, List.not_mem_nil, or_false] at hz
          rcases hz with rfl | rfl | rfl <;> omega)
        rw [ht0]
        unfold linesB
        simpa using h1
      have hadd0 : ∀ W, (Op.stringOp .add (bytesA hT0) ⟨#[10]⟩).run Tryz.prog W = .ok (.string (bytesA t0)) W := by
        rw [ht0e] at ht0l ⊢
        exact add_run hT0 [10] (by rw [List.length_append] at ht0l; simp; omega)
      have hlcL : L + 1 ≤ lc := by omega
      have hlcm : lc ≤ 9223372036854775807 := by unfold maxLen at hc2; omega
      have HT := Lib.hid (And.intro hTx (And.intro ht0 (And.intro hL (And.intro (HR.out.2.2.2.1.trans HO.out.2.1 (fun _ _ h => h)) (And.intro hg0 (And.intro hlt0 HO.out.2.1))))))
      subst hdnL
      have t1 : decide ((i : Int) < (tl : Int)) = false := decide_eq_false (by omega)
      have t1' : decide (i < tl) = false := decide_eq_false hlt
      have q1 : (1 : Int) ≤ ((L + 1 : Nat) : Int) := by omega
      clear hTx ht0 hL hg0 hlt0 hvs hcells hd hh0 hin hlt hc1 hc2 hlc hdl hcl ht0e HN HO HG
      generalize wr = w6 at *
      have hgoal : ∀ (G : Prop), (lc = 1 → G) → (¬ lc = 1 → G) → G := fun G h1 h2 => (Classical.em (lc = 1)).elim h1 h2
      refine hgoal _ (fun hsc => ?a1) (fun hsc => ?a2)
      case' a1 =>
        clear hgoal
        go_wp2_with fail
        obtain ⟨LA, hLA0⟩ : ∃ LA, LA = (some ⟨g0, 0, none⟩ : Option Addr) := ⟨_, rfl⟩
        have hLA : LA = some ⟨g0, 1, none⟩ ∨ L = 0 := .inr (by omega)
        rw [← hLA0]
      case' a2 =>
        clear hgoal
        go_wp2_with fail
        obtain ⟨LA, hLA0⟩ : ∃ LA, LA = (some ⟨g0, 1, none⟩ : Option Addr) := ⟨_, rfl⟩
        have hLA : LA = some ⟨g0, 1, none⟩ ∨ L = 0 := .inl hLA0
        rw [← hLA0]
      all_goals clear hLA0 hsc hlcL hlcm q1 hadd0 c0 t1 t1'
      all_goals (
        have HLA := Lib.hid hLA
        clear hLA
        go_loopg [18, 75] L (fun mu tv iv wr => ∃ (c : Nat) (M C : List (List Nat)), c ≤ L ∧ mu = L - c ∧ iv = .int .i64 c ∧ ConsI s M C c ∧ M.length = L ∧ TxM wr g0 M ∧ tv = .string (bytesA (linesB (s.length / 2) rt 0 C)) ∧ (linesB (s.length / 2) rt 0 C).length ≤ 67 + 1000 * c ∧ Keeps (fun x => x = g0) w6 wr)
        case atStart => exact ⟨0, linesOf s, [], Nat.zero_le _, rfl, rfl, ConsI.start s, HT.out.2.2.1.symm, HT.out.1, by rw [HT.out.2.1], by rw [← HT.out.2.1]; omega, Keeps.refl _ _⟩
        case round =>
          obtain ⟨c, M, C, hi, hgk, rfl, hC, hML, hTx, rfl, hlb, hkr⟩ := hrel
          have HG := Lib.hid hgk
          have hkww : Keeps (fun _ => False) w wr := HT.out.2.2.2.1.trans hkr (fun x hx e => by have := HR.out.2.2.2.1.size; have := HT.out.2.2.2.2.1; omega)
          have hg0wr : g0 < wr.heap.size := Nat.lt_of_lt_of_le HT.out.2.2.2.2.2.1 hkr.size
          have HC := Lib.hid (And.intro hC (And.intro hML (And.intro hTx (And.intro hkr (And.intro hkww hg0wr)))))
          obtain ⟨tx, htx⟩ : ∃ tx, tx = linesB (s.length / 2) rt 0 C := ⟨_, rfl⟩
          rw [← htx] at hlb ⊢
          have HTXT := Lib.hid htx
          clear hgk hC hTx hkr htx hkww hg0wr
          by_cases hlt : c < L
          · have hLAe : LA = some ⟨g0, 1, none⟩ := by
              rcases HLA.out with h | h
              · exact h
              · omega
            subst hLAe
            have t1 : decide ((c : Int) < (L : Int)) = true := decide_eq_true (by omega)
            have t1' : decide (c < L) = true := decide_eq_true hlt
            obtain ⟨ra, hra⟩ : ∃ ra, M[c]? = some ra := ⟨_, List.getElem?_eq_getElem (by omega)⟩
            by_cases hio : c < no
            · obtain ⟨o, ho⟩ : ∃ o, os[c]? = some o := ⟨_, List.getElem?_eq_getElem (by rw [← HOS.out.2.2]; exact hio)⟩
              have hoz : (nats os)[c]? = some (o : Int) := by unfold nats; rw [List.getElem?_map, ho]; rfl
              obtain ⟨go, oo, rfl, hco0⟩ := HOS.out.1.cellAt hoz
              have hgo : go < w.heap.size := World.block_lt_of_cell? _ _ hco0
              have hcoW : ∀ W, Keeps (fun _ => False) w W → W.cell? ⟨go, oo + c, none⟩ = some (.int .u8 (o : Int)) := fun W hk => by
                rw [World.cell?_of_block (hk.block go hgo (fun h => h))]; exact hco0
              have hco := hcoW wr HC.out.2.2.2.2.1
              have ho256 := HOS.out.2.1 o (List.mem_of_getElem? ho)
              obtain ⟨q, hq⟩ : ∃ q, q = o % (L - c) := ⟨_, rfl⟩
              have hqL : q < L - c := by rw [hq]; exact Nat.mod_lt _ (by omega)
              obtain ⟨k, hk⟩ : ∃ k, k = c + q := ⟨_, rfl⟩
              have hkL : k < L := by omega
              obtain ⟨rb, hrb⟩ : ∃ rb, M[k]? = some rb := ⟨_, List.getElem?_eq_getElem (by omega)⟩
              have m2 : (o : Int) % ((L : Int) - (c : Int)) = (q : Int) := by
                rw [show (L : Int) - (c : Int) = ((L - c : Nat) : Int) by omega, hq]
                push_cast
                rfl
              have m1 : (o : Int).tmod ((L : Int) - (c : Int)) = (q : Int) := by rw [Int.tmod_eq_emod_of_nonneg (by omega)]; exact m2
              have m3 : ¬ (L : Int) - (c : Int) = 0 := by omega
              have m4 : (c : Int) + (q : Int) = (k : Int) := by omega
              have tio : decide ((c : Int) < (no : Int)) = true := decide_eq_true (by omega)
              have tio' : decide (c < no) = true := decide_eq_true hio
              obtain ⟨ca, fa⟩ := HC.out.2.2.1 c ra hra
              obtain ⟨cb, fb⟩ := HC.out.2.2.1 k rb hrb
              have hTxs := HC.out.2.2.1.swap hra hrb
              obtain ⟨uk, ck2⟩ : ∃ u, (wr.setCell ⟨g0, 1 + c, none⟩ (.string (bytesA (rowT rb)))).cell? ⟨g0, 1 + k, none⟩ = some u := by
                by_cases e : c = k
                · subst e
                  exact ⟨_, World.cell?_setCell_same _ _ _ ca⟩
                · exact ⟨_, (World.cell?_setCell_other _ _ _ _ (fun e2 => e (by simp only [Addr.mk.injEq, true_and, and_true] at e2; omega))).trans cb⟩
              have fk2 : (wr.setCell ⟨g0, 1 + c, none⟩ (.string (bytesA (rowT rb)))).frozen? ⟨g0, 1 + k, none⟩ = false := by rw [World.frozen?_setCell]; exact fb
              have hkz := ((HC.out.2.2.2.1.setCell (p := ⟨g0, 1 + c, none⟩) (.inl rfl) (.string (bytesA (rowT rb)))).setCell (p := ⟨g0, 1 + k, none⟩) (.inl rfl) (.string (bytesA (rowT ra)))).drew
              have hgw : g0 < ((wr.setCell ⟨g0, 1 + c, none⟩ (.string (bytesA (rowT rb)))).setCell ⟨g0, 1 + k, none⟩ (.string (bytesA (rowT ra)))).drew.heap.size := Nat.lt_of_lt_of_le HT.out.2.2.2.2.2.1 hkz.size
              have hTxd : TxM ((wr.setCell ⟨g0, 1 + c, none⟩ (.string (bytesA (rowT rb)))).setCell ⟨g0, 1 + k, none⟩ (.string (bytesA (rowT ra)))).drew g0 (swpM M c k ra rb) := hTxs.keeps ((Keeps.refl (fun _ => False) _).drew) (fun h => h) hgw
              have hcoz := hcoW ((wr.setCell ⟨g0, 1 + c, none⟩ (.string (bytesA (rowT rb)))).setCell ⟨g0, 1 + k, none⟩ (.string (bytesA (rowT ra)))).drew (HT.out.2.2.2.1.trans hkz (fun x hx e => by have := HR.out.2.2.2.1.size; have := HT.out.2.2.2.2.1; omega))
              have hC1 := HC.out.1.swap hra hrb (by omega : c ≤ k)
              have hM1 : (swpM M c k ra rb).length = L := by rw [swp_len]; exact hML
              have hat := swp_at hra hrb
              obtain ⟨bo, hbo⟩ : ∃ bo, bo = decide (o % 2 = 1) := ⟨_, rfl⟩
              have p1 : ((o : Int) % 2 == 1) = bo := by rw [hbo, Bool.eq_iff_iff, beq_iff_eq, decide_eq_true_iff]; omega
              have p2 : ((o : Int).tmod 2 == 1) = bo := by rw [Int.tmod_eq_emod_of_nonneg (by omega)]; exact p1
              have p3 : decide ((o : Int) % 2 = 1) = bo := by rw [hbo, Bool.eq_iff_iff, decide_eq_true_iff, decide_eq_true_iff]; omega
              obtain ⟨M1, hM1e⟩ : ∃ M1, M1 = swpM M c k ra rb := ⟨_, rfl⟩
              rw [← hM1e] at hTxd hC1 hM1 hat
              have HZ0 := Lib.hid (And.intro hC1 (And.intro hM1 hat))
              clear hoz hcoW hco0 ho hq hk hTxs hC1 hM1 hat hM1e hML hra hrb hbo
              go_wp2_with fail
              go_region
              generalize World.drew _ = wz at *
              have HZ : Hid (ConsI s M1 C c ∧ M1.length = L ∧ M1[c]? = some rb ∧ TxM wz g0 M1 ∧ Keeps (fun x => x = g0) w6 wz) := Lib.hid ⟨HZ0.out.1, HZ0.out.2.1, HZ0.out.2.2, hTxd, hkz⟩
              have HGW := Lib.hid hgw
              clear hTxd hkz hgw hco ca cb fa fb ck2 fk2 m1 m2 m3 m4
              generalize rb = rl at *
              obtain ⟨cz, -⟩ := HZ.out.2.2.2.1 c rl HZ.out.2.2.1
              obtain ⟨Y, hY⟩ : ∃ Y, Y = rowT rl := ⟨_, rfl⟩
              rw [← hY] at cz
              have hYl : Y.length ≤ 484 := by rw [hY]; exact row_small HX.out.2.2.2.1 (by have := HX.out.2.2.1; omega) (HZ.out.1.perm.mem_iff.1 (List.mem_of_getElem? HZ.out.2.2.1))
              obtain ⟨ny, hny⟩ : ∃ ny, ny = Y.length := ⟨_, rfl⟩
              have hYs : (bytesA Y).size = ny := by rw [bytesA_size, hny]
              have HY := Lib.hid (And.intro hY hny)
              rw [← hny] at hYl
              clear hY hny
              go_wp2_with fail
              go_loopg [21, 114] ny (fun mu lv jv wr2 => ∃ j : Nat, j ≤ ny ∧ mu = ny - j ∧ jv = .int .i64 j ∧ lv = .string (bytesA Y) ∧ (∀ q, q < j → Y[q]? ≠ some 32 ∨ bo = false) ∧ wr2 = wz)
              case atStart => exact ⟨0, Nat.zero_le _, rfl, rfl, rfl, fun q hq => absurd hq (by omega), rfl⟩
              case round =>
                obtain ⟨j, hj, hgk, rfl, rfl, hno, rfl⟩ := hrel
                have HG2 := Lib.hid hgk
                have HNO := Lib.hid hno
                clear hgk hno
                by_cases hjn : j < ny
                · obtain ⟨y, hy⟩ : ∃ y, Y[j]? = some y := ⟨_, List.getElem?_eq_getElem (by rw [← HY.out.2]; exact hjn)⟩
                  have hix := str_index hy
                  have t2 : decide ((j : Int) < (ny : Int)) = true := decide_eq_true (by omega)
                  by_cases h32 : y = 32
                  · subst h32
                    have hix2 : ∀ W, (Instr.index 9 (.string (bytesA Y)) (.int .i64 j)).run Tryz.prog W = .ok (.int .u8 32) W := hix
                    clear hix
                    have HYJ := Lib.hid hy
                    clear hy
                    cases bo with
                    | true =>
                      first
                      | (cases hb2; done)
                      | (have hrc := rot_cut (l := rl) (j := j) (by rw [← HY.out.1]; exact HYJ.out) (fun q hq => by
                          rw [← HY.out.1]
                          rcases HNO.out q hq with h | h
                          · exact h
                          · cases h)
                         rw [← HY.out.1] at hrc
                         obtain ⟨j1, hj1⟩ : ∃ j1, j1 = j + 1 := ⟨_, rfl⟩
                         rw [← hj1] at hrc
                         have hx1 : (bytesA Y).extract j1 ny = bytesA (Y.drop j1) := by rw [bytesA_extract, List.take_of_length_le (by rw [HY.out.2]; exact Nat.le_refl _)]
                         have hx2 : (bytesA Y).extract 0 j = bytesA (Y.take j) := by rw [bytesA_extract]; rfl
                         have hadd1 : ∀ W, (Op.stringOp .add ((bytesA Y).extract j1 ny) ⟨#[32]⟩).run Tryz.prog W = .ok (.string (bytesA (Y.drop j1 ++ [32]))) W := by
                           rw [hx1]
                           exact add_run (Y.drop j1) [32] (by rw [List.length_drop, ← HY.out.2]; simp; omega)
                         have hadd2 : ∀ W, (Op.stringOp .add (bytesA (Y.drop j1 ++ [32])) ((bytesA Y).extract 0 j)).run Tryz.prog W = .ok (.string (bytesA (rowT (rotL rl)))) W := by
                           rw [hx2, ← hrc]
                           exact add_run _ _ (by rw [List.length_append, List.length_drop, List.length_take, ← HY.out.2]; simp; omega)
                         have hrl : (rowT (rotL rl)).length = ny := by
                           rw [← hrc, List.length_append, List.length_append, List.length_drop, List.length_take, ← HY.out.2]
                           simp
                           omega
                         have hcons := HZ.out.1.push HX.out.2.2.2.1 HZ.out.2.2.1 (.inr rfl)
                         have hnt : linesB (s.length / 2) rt 0 (C ++ [rotL rl]) = tx ++ (rowT (rotL rl) ++ [10]) := by rw [linesB_snoc, HTXT.out]
                         generalize rowT (rotL rl) = Z at *
                         have hadd3 : ∀ W, (Op.stringOp .add (bytesA Z) ⟨#[10]⟩).run Tryz.prog W = .ok (.string (bytesA (Z ++ [10]))) W := add_run Z [10] (by simp; omega)
                         have hadd4 : ∀ W, (Op.stringOp .add (bytesA tx) (bytesA (Z ++ [10]))).run Tryz.prog W = .ok (.string (bytesA (tx ++ (Z ++ [10])))) W := add_run _ _ (by simp; omega)
                         have hnl : (tx ++ (Z ++ [10])).length ≤ 67 + 1000 * (c + 1) := by simp; omega
                         rw [← hnt] at hnl
                         have HF := Lib.hid (And.intro hcons (And.intro hnt hnl))
                         have q5 : (j1 : Int) ≤ (ny : Int) := by omega
                         have hwj : IntKind.i64.wrap ((j : Int) + 1) = (j1 : Int) := by rw [hj1]; exact IntWalk.i64_in _ (by omega)
                         have q6 : (j : Int) ≤ (ny : Int) := by omega
                         clear hrc hcons hnt hnl hx1 hx2 hrl hj1
                         generalize tx ++ (Z ++ [10]) = tn at *
                         generalize Z ++ [10] = zn at *
                         generalize Y.drop j1 ++ [32] = y1 at *
                         go_upto_region 28 with fail
                         go_region_held3 (fun _ => True) (trivial) (fail)
                         go_wp2
                         go_roundg (L - (c + 1))
                         case measure => rw [HG.out]; omega
                         case rel => exact ⟨c + 1, M1, C ++ [rotL rl], by omega, rfl, by go_num, HF.out.1, HZ.out.2.1, HZ.out.2.2.2.1.keeps ((Keeps.refl (fun _ => False) _).drew) (fun h => h) HGW.out, by rw [HF.out.2.1], HF.out.2.2, HZ.out.2.2.2.2.drew⟩)
                    | false =>
                      go_wp2
                      go_roundg (ny - (j + 1))
                      case measure => rw [HG2.out]; omega
                      case rel => exact ⟨j + 1, by omega, rfl, by go_num, rfl, fun q _ => by simp, rfl⟩
                  · have hy32 : ¬ y.toNat = 32 := fun e => h32 (UInt8.toNat_inj.1 e)
                    have t3 : (((y.toNat : Nat) : Int) == 32) = false := by rw [beq_eq_false_iff_ne]; omega
                    have t4 : decide (((y.toNat : Nat) : Int) = 32) = false := decide_eq_false (by omega)
                    have hno2 : ∀ q, q < j + 1 → Y[q]? ≠ some 32 ∨ bo = false := fun q hq => by
                      by_cases hqj : q = j
                      · subst hqj; exact .inl (fun e => h32 (by rw [hy] at e; exact Option.some.inj e))
                      · exact HNO.out q (by omega)
                    have HN2 := Lib.hid hno2
                    clear hno2 hy h32
                    generalize y.toNat = yn at *
                    go_wp2
                    go_roundg (ny - (j + 1))
                    case measure => rw [HG2.out]; omega
                    case rel => exact ⟨j + 1, by omega, rfl, by go_num, rfl, HN2.out, rfl⟩
                · have hcons := HZ.out.1.push HX.out.2.2.2.1 HZ.out.2.2.1 (.inl rfl)
                  have hnt : linesB (s.length / 2) rt 0 (C ++ [rl]) = tx ++ (Y ++ [10]) := by rw [linesB_snoc, HTXT.out, HY.out.1]
                  have hYll : Y.length = ny := HY.out.2.symm
                  have hadd3 : ∀ W, (Op.stringOp .add (bytesA Y) ⟨#[10]⟩).run Tryz.prog W = .ok (.string (bytesA (Y ++ [10]))) W := add_run Y [10] (by simp; omega)
                  have hadd4 : ∀ W, (Op.stringOp .add (bytesA tx) (bytesA (Y ++ [10]))).run Tryz.prog W = .ok (.string (bytesA (tx ++ (Y ++ [10])))) W := add_run _ _ (by simp; omega)
                  have hnl : (tx ++ (Y ++ [10])).length ≤ 67 + 1000 * (c + 1) := by simp; omega
                  rw [← hnt] at hnl
                  have HF := Lib.hid (And.intro hcons (And.intro hnt hnl))
                  have t2 : decide ((j : Int) < (ny : Int)) = false := decide_eq_false (by omega)
                  have t2' : decide (j < ny) = false := decide_eq_false hjn
                  clear hcons hnt hnl hYll hjn
                  generalize tx ++ (Y ++ [10]) = tn at *
                  generalize Y ++ [10] = yn at *
                  generalize wr = wo at *
                  go_wp2
                  go_roundg (L - (c + 1))
                  case measure => rw [HG.out]; omega
                  case rel => exact ⟨c + 1, M1, C ++ [rl], by omega, rfl, by go_num, HF.out.1, HZ.out.2.1, HZ.out.2.2.2.1, by rw [HF.out.2.1], HF.out.2.2, HZ.out.2.2.2.2⟩
            · have tio : decide ((c : Int) < (no : Int)) = false := decide_eq_false (by omega)
              have tio' : decide (c < no) = false := decide_eq_false hio
              obtain ⟨bo, hb2⟩ : ∃ bo, bo = false := ⟨_, rfl⟩
              have HZ : Hid (ConsI s M C c ∧ M.length = L ∧ M[c]? = some ra ∧ TxM wr g0 M ∧ Keeps (fun x => x = g0) w6 wr) := Lib.hid ⟨HC.out.1, HC.out.2.1, hra, HC.out.2.2.1, HC.out.2.2.2.1⟩
              have HGW := Lib.hid HC.out.2.2.2.2.2
              clear hML hra hio
              generalize ra = rl at *
              generalize M = M1 at *
              generalize wr = wz at *
              obtain ⟨cz, -⟩ := HZ.out.2.2.2.1 c rl HZ.out.2.2.1
              obtain ⟨Y, hY⟩ : ∃ Y, Y = rowT rl := ⟨_, rfl⟩
              rw [← hY] at cz
              have hYl : Y.length ≤ 484 := by rw [hY]; exact row_small HX.out.2.2.2.1 (by have := HX.out.2.2.1; omega) (HZ.out.1.perm.mem_iff.1 (List.mem_of_getElem? HZ.out.2.2.1))
              obtain ⟨ny, hny⟩ : ∃ ny, ny = Y.length := ⟨_, rfl⟩
              have hYs : (bytesA Y).size = ny := by rw [bytesA_size, hny]
              have HY := Lib.hid (And.intro hY hny)
              rw [← hny] at hYl
              clear hY hny
              go_wp2_with fail
              go_loopg [21, 114] ny (fun mu lv jv wr2 => ∃ j : Nat, j ≤ ny ∧ mu = ny - j ∧ jv = .int .i64 j ∧ lv = .string (bytesA Y) ∧ (∀ q, q < j → Y[q]? ≠ some 32 ∨ bo = false) ∧ wr2 = wz)
              case atStart => exact ⟨0, Nat.zero_le _, rfl, rfl, rfl, fun q hq => absurd hq (by omega), rfl⟩
              case round =>
                obtain ⟨j, hj, hgk, rfl, rfl, hno, rfl⟩ := hrel
                have HG2 := Lib.hid hgk
                have HNO := Lib.hid hno
                clear hgk hno
                by_cases hjn : j < ny
                · obtain ⟨y, hy⟩ : ∃ y, Y[j]? = some y := ⟨_, List.getElem?_eq_getElem (by rw [← HY.out.2]; exact hjn)⟩
                  have hix := str_index hy
                  have t2 : decide ((j : Int) < (ny : Int)) = true := decide_eq_true (by omega)
                  by_cases h32 : y = 32
                  · subst h32
                    have hix2 : ∀ W, (Instr.index 9 (.string (bytesA Y)) (.int .i64 j)).run Tryz.prog W = .ok (.int .u8 32) W := hix
                    clear hix
                    have HYJ := Lib.hid hy
                    clear hy
                    cases bo with
                    | true =>
                      first
                      | (cases hb2; done)
                      | (have hrc := rot_cut (l := rl) (j := j) (by rw [← HY.out.1]; exact HYJ.out) (fun q hq => by
                          rw [← HY.out.1]
                          rcases HNO.out q hq with h | h
                          · exact h
                          · cases h)
                         rw [← HY.out.1] at hrc
                         obtain ⟨j1, hj1⟩ : ∃ j1, j1 = j + 1 := ⟨_, rfl⟩
                         rw [← hj1] at hrc
                         have hx1 : (bytesA Y).extract j1 ny = bytesA (Y.drop j1) := by rw [bytesA_extract, List.take_of_length_le (by rw [HY.out.2]; exact Nat.le_refl _)]
                         have hx2 : (bytesA Y).extract 0 j = bytesA (Y.take j) := by rw [bytesA_extract]; rfl
                         have hadd1 : ∀ W, (Op.stringOp .add ((bytesA Y).extract j1 ny) ⟨#[32]⟩).run Tryz.prog W = .ok (.string (bytesA (Y.drop j1 ++ [32]))) W := by
                           rw [hx1]
                           exact add_run (Y.drop j1) [32] (by rw [List.length_drop, ← HY.out.2]; simp; omega)
                         have hadd2 : ∀ W, (Op.stringOp .add (bytesA (Y.drop j1 ++ [32])) ((bytesA Y).extract 0 j)).run Tryz.prog W = .ok (.string (bytesA (rowT (rotL rl)))) W := by
                           rw [hx2, ← hrc]
                           exact add_run _ _ (by rw [List.length_append, List.length_drop, List.length_take, ← HY.out.2]; simp; omega)
                         have hrl : (rowT (rotL rl)).length = ny := by
                           rw [← hrc, List.length_append, List.length_append, List.length_drop, List.length_take, ← HY.out.2]
                           simp
                           omega
                         have hcons := HZ.out.1.push HX.out.2.2.2.1 HZ.out.2.2.1 (.inr rfl)
                         have hnt : linesB (s.length / 2) rt 0 (C ++ [rotL rl]) = tx ++ (rowT (rotL rl) ++ [10]) := by rw [linesB_snoc, HTXT.out]
                         generalize rowT (rotL rl) = Z at *
                         have hadd3 : ∀ W, (Op.stringOp .add (bytesA Z) ⟨#[10]⟩).run Tryz.prog W = .ok (.string (bytesA (Z ++ [10]))) W := add_run Z [10] (by simp; omega)
                         have hadd4 : ∀ W, (Op.stringOp .add (bytesA tx) (bytesA (Z ++ [10]))).run Tryz.prog W = .ok (.string (bytesA (tx ++ (Z ++ [10])))) W := add_run _ _ (by simp; omega)
                         have hnl : (tx ++ (Z ++ [10])).length ≤ 67 + 1000 * (c + 1) := by simp; omega
                         rw [← hnt] at hnl
                         have HF := Lib.hid (And.intro hcons (And.intro hnt hnl))
                         have q5 : (j1 : Int) ≤ (ny : Int) := by omega
                         have hwj : IntKind.i64.wrap ((j : Int) + 1) = (j1 : Int) := by rw [hj1]; exact IntWalk.i64_in _ (by omega)
                         have q6 : (j : Int) ≤ (ny : Int) := by omega
                         clear hrc hcons hnt hnl hx1 hx2 hrl hj1
                         generalize tx ++ (Z ++ [10]) = tn at *
                         generalize Z ++ [10] = zn at *
                         generalize Y.drop j1 ++ [32] = y1 at *
                         go_upto_region 28 with fail
                         go_region_held3 (fun _ => True) (trivial) (fail)
                         go_wp2
                         go_roundg (L - (c + 1))
                         case measure => rw [HG.out]; omega
                         case rel => exact ⟨c + 1, M1, C ++ [rotL rl], by omega, rfl, by go_num, HF.out.1, HZ.out.2.1, HZ.out.2.2.2.1.keeps ((Keeps.refl (fun _ => False) _).drew) (fun h => h) HGW.out, by rw [HF.out.2.1], HF.out.2.2, HZ.out.2.2.2.2.drew⟩)
                    | false =>
                      go_wp2
                      go_roundg (ny - (j + 1))
                      case measure => rw [HG2.out]; omega
                      case rel => exact ⟨j + 1, by omega, rfl, by go_num, rfl, fun q _ => by simp, rfl⟩
                  · have hy32 : ¬ y.toNat = 32 := fun e => h32 (UInt8.toNat_inj.1 e)
                    have t3 : (((y.toNat : Nat) : Int) == 32) = false := by rw [beq_eq_false_iff_ne]; omega
                    have t4 : decide (((y.toNat : Nat) : Int) = 32) = false := decide_eq_false (by omega)
                    have hno2 : ∀ q, q < j + 1 → Y[q]? ≠ some 32 ∨ bo = false := fun q hq => by
                      by_cases hqj : q = j
                      · subst hqj; exact .inl (fun e => h32 (by rw [hy] at e; exact Option.some.inj e))
                      · exact HNO.out q (by omega)
                    have HN2 := Lib.hid hno2
                    clear hno2 hy h32
                    generalize y.toNat = yn at *
                    go_wp2
                    go_roundg (ny - (j + 1))
                    case measure => rw [HG2.out]; omega
                    case rel => exact ⟨j + 1, by omega, rfl, by go_num, rfl, HN2.out, rfl⟩
                · have hcons := HZ.out.1.push HX.out.2.2.2.1 HZ.out.2.2.1 (.inl rfl)
                  have hnt : linesB (s.length / 2) rt 0 (C ++ [rl]) = tx ++ (Y ++ [10]) := by rw [linesB_snoc, HTXT.out, HY.out.1]
                  have hYll : Y.length = ny := HY.out.2.symm
                  have hadd3 : ∀ W, (Op.stringOp .add (bytesA Y) ⟨#[10]⟩).run Tryz.prog W = .ok (.string (bytesA (Y ++ [10]))) W := add_run Y [10] (by simp; omega)
                  have hadd4 : ∀ W, (Op.stringOp .add (bytesA tx) (bytesA (Y ++ [10]))).run Tryz.prog W = .ok (.string (bytesA (tx ++ (Y ++ [10])))) W := add_run _ _ (by simp; omega)
                  have hnl : (tx ++ (Y ++ [10])).length ≤ 67 + 1000 * (c + 1) := by simp; omega
                  rw [← hnt] at hnl
                  have HF := Lib.hid (And.intro hcons (And.intro hnt hnl))
                  have t2 : decide ((j : Int) < (ny : Int)) = false := decide_eq_false (by omega)
                  have t2' : decide (j < ny) = false := decide_eq_false hjn
                  clear hcons hnt hnl hYll hjn
                  generalize tx ++ (Y ++ [10]) = tn at *
                  generalize Y ++ [10] = yn at *
                  generalize wr = wo at *
                  go_wp2
                  go_roundg (L - (c + 1))
                  case measure => rw [HG.out]; omega
                  case rel => exact ⟨c + 1, M1, C ++ [rl], by omega, rfl, by go_num, HF.out.1, HZ.out.2.1, HZ.out.2.2.2.1, by rw [HF.out.2.1], HF.out.2.2, HZ.out.2.2.2.2⟩
          · have hcL : c = L := by omega
            have hC := HC.out.1
            rw [hcL, ← HC.out.2.1] at hC
            have t1 : decide ((c : Int) < (L : Int)) = false := decide_eq_false (by omega)
            have t1' : decide (c < L) = false := decide_eq_false hlt
            have hbig : tx.length ≤ 1048576 := by omega
            have hsl22 := HX.out.2.2.2.2.2.2.2
            have hgood : GoodK tx s rt 0 (C.length + 1) := by
              have h := hC.done HX.out.2.2.2.1 (by omega) (by omega) HX.out.2.2.2.2.1 (by rw [← HTXT.out]; exact hbig)
              rw [← HTXT.out] at h
              exact h
            obtain ⟨hslN, hkN⟩ := sl_conv_new tx wr (by omega)
            have hcv := Lib.run_convert_string_bytes (P := Tryz.prog) wr 9 22 5 (bytesA tx) Tryz.underlying9 Tryz.underlying22 Tryz.underlying5
            rw [bytesA_size] at hcv
            obtain ⟨wB, hwB⟩ : ∃ wB, wB = Lib.bytesWorld wr 5 (bytesA tx) := ⟨_, rfl⟩
            rw [← hwB] at hslN hkN hcv
            generalize grownCap wr tx.length 0 5 = gc at hcv hslN
            obtain ⟨nx, hnx⟩ : ∃ nx, nx = tx.length := ⟨_, rfl⟩
            rw [← hnx] at hcv hslN hbig
            have hkw := HC.out.2.2.2.2.1.trans hkN (fun _ _ h => h)
            have hPa := rotsParse_any (.slice (some ⟨wr.heap.size, 0, none⟩) nx gc) (natsB tx) w.heap.size wB (HE.out.keeps hkw (fun _ h => h.elim)) hslN (by rw [natsB_len]; omega)
            rw [u8s_natsB] at hPa
            have hk5B : Keeps (fun _ => False) w5 wB := (HT.out.2.2.2.2.2.2.trans HC.out.2.2.2.1 (fun x hx e => by have := HT.out.2.2.2.2.1; omega)).trans hkN (fun _ _ h => h)
            have hmB := HR.out.1.keeps hk5B (fun h => h) (fun _ _ h => h)
            have HB := Lib.hid (And.intro hPa (And.intro hgood (And.intro hmB hkw)))
            clear hC hgood hslN hkN hwB hnx hPa hk5B hmB hkw hcL hML
            go_wp2_with fail
            refine HB.out.1.mono ?_
            rintro e w7 ⟨hk7, hcs⟩
            obtain ⟨b2, s2, rt2, ln2, k2, hG2, rfl, hma2, hbb2⟩ : ∃ (b : Nat) (s : List Nat) (rt : Int) (ln k : Nat), GoodK tx s rt ln k ∧ e = .returned (.tuple #[.pointer (some ⟨b, 0, none⟩), .int .i64 k, .int .i64 0]) ∧ MapAt w7 b s rt ln (fun x => wB.heap.size ≤ x ∧ x < w7.heap.size ∧ x ≠ b) ∧ wB.heap.size ≤ b := by
              rcases hcs with ⟨_, _, _, _, _, h⟩ | h
              · exact absurd HB.out.2.1 (h _ _ _ _)
              · exact h
            obtain ⟨e1, e2, e3, -⟩ := hG2.det HB.out.2.1
            rw [e1, e2, e3] at hma2
            have hSame := mapSame_eq hma2 (HB.out.2.2.1.keeps hk7 (fun h => h) (fun _ _ h => h)) (by omega)
            have HSm := Lib.hid (And.intro hSame (HB.out.2.2.2.trans hk7 (fun _ _ h => h)))
            clear hG2 hma2 hbb2 hk7 hcs hSame e1 e2 e3
            go_wp2_with fail
            refine HSm.out.1.mono ?_
            rintro e w8 ⟨rfl, hk8⟩
            have HW8 := Lib.hid (HSm.out.2.trans hk8 (fun _ _ h => h))
            clear hk8
            go_wp2
            go_ret
            exact ⟨rfl, HW8.out.below (fun _ _ h => h)⟩)

end Go.Proofs.YtblkkcpeodoclaaGreatDoor
