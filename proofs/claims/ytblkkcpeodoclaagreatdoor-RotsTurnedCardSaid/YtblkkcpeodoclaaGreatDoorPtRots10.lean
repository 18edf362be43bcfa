/- rots.Parse, of any bytes. -/
import Derived.Test.YtblkkcpeodoclaaGreatDoorPtRots6
import Derived.Test.YtblkkcpeodoclaaGreatDoorPtParseP
import Derived.Test.YtblkkcpeodoclaaGreatDoorPtBytesQ
namespace Go.Proofs.YtblkkcpeodoclaaGreatDoor
open Go.RowKit

/-- dart.New of turns that are right. -/
theorem new_map {s : List Nat} {rt : Int} {ln : Nat} {sv : Value} {W : World} (hs : Sl .i64 W sv (nats s)) (hP : IsP s.length (sg s)) (he : s.length % 2 = 0) (hl : s.length ≤ 131072) (hln : ln ≤ 65536) (hrt : (s.length = 0 ∧ rt = -1) ∨ ∃ r : Nat, rt = r ∧ r < s.length) :
    Calls Tryz.prog 15 #[sv, .int .i64 rt, .int .i64 ln] W (MadeMap W s rt ln) := by
  rcases hrt with ⟨h0, rfl⟩ | ⟨r, rfl, hr⟩
  · obtain rfl : s = [] := List.eq_nil_of_length_eq_zero h0
    exact new_none sv ln W hs hln
  · exact new_some sv s r ln W hs hP he hr hl hln

def u8s (cs : List Nat) : List UInt8 := cs.map fun n => UInt8.ofNat n

theorem cut_nil {xs : List (List UInt8)} {y : List UInt8} (h : cutB 10 [] = xs ++ [y]) : xs = [] ∧ y = [] := by
  have h1 : xs.length = 0 := by have := congrArg List.length h; rw [List.length_append] at this; simpa [cutB] using this.symm
  obtain rfl := List.eq_nil_of_length_eq_zero h1
  simp [cutB] at h
  exact ⟨rfl, h⟩

/-- What rots.Parse answers of the bytes t. -/
def ParseR (t : List UInt8) (w : World) (e : Ending) (w' : World) : Prop :=
  Keeps (fun _ => False) w w' ∧ ((∃ line er : Int, e = .returned (.tuple #[.pointer none, .int .i64 line, .int .i64 er]) ∧ er ≠ 0 ∧ (t = [] → line = 1 ∧ er = 13) ∧ ∀ s rt ln k, ¬ GoodK t s rt ln k) ∨
    (∃ (b : Nat) (s : List Nat) (rt : Int) (ln k : Nat), GoodK t s rt ln k ∧ e = .returned (.tuple #[.pointer (some ⟨b, 0, none⟩), .int .i64 k, .int .i64 0]) ∧ MapAt w' b s rt ln (fun x => w.heap.size ≤ x ∧ x < w'.heap.size ∧ x ≠ b) ∧ w.heap.size ≤ b))

theorem GoodK.rows {t : List UInt8} {s : List Nat} {rt : Int} {ln k : Nat} {xs : List (List UInt8)} {y : List UInt8} (h : GoodK t s rt ln k) (hx : cutB 10 t = xs ++ [y]) : y = [] ∧ ∃ rows, rows ≠ [] ∧ RowsK xs rows := by
  obtain ⟨_, h0, ls, ⟨xs', e, hne, hr⟩, _⟩ := h
  rw [hx] at e
  have e1 := List.append_inj_right' e rfl
  have e2 := List.append_inj_left' e rfl
  subst e2
  exact ⟨by simpa using e1, _, hne, hr⟩

theorem GoodK.bad {t : List UInt8} {xs : List (List UInt8)} {y x : List UInt8} {i : Nat} (hx : cutB 10 t = xs ++ [y]) (hi : xs[i]? = some x) (hb : ∀ l, numsK x = some l → rightK (decide (i = 0)) l = false) (s : List Nat) (rt : Int) (ln k : Nat) : ¬ GoodK t s rt ln k := fun h => by
  obtain ⟨_, rows, _, hr⟩ := h.rows hx
  obtain ⟨l, _, h2, h3⟩ := hr.2 i x hi
  rw [hb l h2] at h3
  cases h3

theorem GoodK.same {t : List UInt8} {h0 n : Nat} {r : Int} {ls : List (List Nat)} (hR : ReadK t ([(h0 : Int), r, (n : Int)] :: ls.map nats)) {s : List Nat} {rt : Int} {ln k : Nat} (h : GoodK t s rt ln k) :
    TurnOk ls (2 * h0) ∧ rt = r ∧ ln = n ∧ s.length = 2 * h0 ∧ s.length ≤ 131072 ∧ ln ≤ 65536 ∧ ((s.length = 0 ∧ rt = -1) ∨ ∃ r : Nat, rt = r ∧ r < s.length) := by
  obtain ⟨_, h1, ls', hR', _, hT, _, hl, _, a, b, c⟩ := h
  have e := hR'.uniq hR
  simp only [List.cons.injEq, Int.ofNat_inj, and_true] at e
  obtain ⟨⟨e1, e2, e3⟩, e4⟩ := e
  have e5 : ls' = ls := by
    apply List.ext_getElem?
    intro i
    have := congrArg (fun z => z[i]?) e4
    simp only [List.getElem?_map] at this
    cases h1 : ls'[i]? with
    | none => rw [h1] at this; cases h2 : ls[i]? with
      | none => rfl
      | some y => rw [h2] at this; cases this
    | some x => rw [h1] at this; cases h2 : ls[i]? with
      | none => rw [h2] at this; cases this
      | some y =>
        rw [h2] at this
        simp only [Option.map_some, Option.some.injEq] at this
        have : x = y := by
          have h3 := congrArg (List.map Int.toNat) this
          simpa [nats, Function.comp_def] using h3
        rw [this]
  subst e1 e2 e3 e5
  exact ⟨hT, rfl, rfl, hl, a, b, c⟩

set_option maxRecDepth 100000 in
set_option maxHeartbeats 4000000 in
theorem rotsParse_any (pv : Value) (cs : List Nat) (B : Nat) (w : World) (hE : EnvR B w) (hp : Sl .u8 w pv (nats cs)) (hlen : cs.length ≤ 10000000000) :
    Calls Tryz.prog 9 #[pv] w (ParseR (u8s cs) w) := by
  have hcv := hp.conv
  obtain ⟨a, cap, rfl, -, -⟩ := hp.form
  rw [nats_len] at hcv ⊢
  have hul : (u8s cs).length = cs.length := by simp [u8s]
  have hst : (strOfNums (nats cs)).data.toList = u8s cs := by rw [← bytes_list]; exact strN_list cs
  obtain ⟨n, hn⟩ : ∃ n, n = cs.length := ⟨_, rfl⟩
  have hsz : (strOfNums (nats cs)).size = n := by
    have := congrArg List.length hst
    rw [Array.length_toList] at this
    rw [hn, ← hul, ← this]; rfl
  rw [← hn] at hul hlen hcv ⊢
  generalize strOfNums (nats cs) = st at *
  generalize u8s cs = t at *
  have HE := Lib.hid (And.intro hE (And.intro hst hul))
  clear hE hst hul hn hp
  by_cases hbig : n ≤ 1048576
  case neg =>
    have t1 : decide ((1048576 : Int) < (n : Int)) = true := decide_eq_true (by omega)
    go_enter Tryz.func9, Tryz.ntmps9
    go_wp2
    refine bodyPost_ret (v := .tuple #[.pointer none, .int .i64 0, .int .i64 6]) (by simp [results, Tryz.results9, go_sem]) rfl ⟨Keeps.refl _ _, .inl ⟨0, 6, rfl, by decide, fun h => ?_, fun s rt ln k h => ?_⟩⟩
    · have := HE.out.2.2; rw [h] at this; simp at this; omega
    · have := h.1; rw [HE.out.2.2] at this; omega
  case pos =>
  have t1 : decide ((1048576 : Int) < (n : Int)) = false := decide_eq_false (by omega)
  go_enter Tryz.func9, Tryz.ntmps9
  go_wp2_with fail
  refine (split_any st 10 B w HE.out.1 (by omega)).mono ?_
  rintro e w1 ⟨ps, rfl, hps, rfl⟩
  obtain ⟨w1, hw1⟩ : ∃ w1, w1 = w.alloc (.cells (ps.map Value.string).toArray 9) := ⟨_, rfl⟩
  have k1 : Keeps (fun _ => False) w w1 := by rw [hw1]; exact (Keeps.refl _ w).alloc _
  have hb : w1.heap[w.heap.size]? = some (.cells (ps.map Value.string).toArray 9 (0, 0)) := by rw [hw1]; exact heap_alloc_new w _
  rw [← hw1]
  have hnl := pieces_len hps
  have hzw : w.heap.size < w1.heap.size := lt_of_block hb
  rw [HE.out.2.1] at hps
  obtain ⟨xs, y, hxy⟩ : ∃ xs y, cutB 10 t = xs ++ [y] := ⟨_, _, (List.dropLast_concat_getLast (cutB_ne 10 t)).symm⟩
  obtain ⟨m, hm⟩ : ∃ m, m = xs.length := ⟨_, rfl⟩
  have hpl : ps.length = m + 1 := by
    have := congrArg List.length hps
    rw [List.length_map, hxy, List.length_append, ← hm] at this
    exact this
  rw [hpl] at hnl ⊢
  have HP := Lib.hid (And.intro hps (And.intro hxy (And.intro hm (And.intro hpl (And.intro hb k1)))))
  clear hw1 k1 hb hps hxy hm hpl hcv
  have u1 : ((m + 1 : Nat) : Int) - 1 = (m : Int) := by omega
  go_wp2_with fail
  go_loopg [6, 28] m (fun mu sv iv wr => ∃ (i : Nat) (rows : List (List Int)) (vs : List Value), i ≤ m ∧ mu = m - i ∧ iv = .int .i64 i ∧ rows.length = i ∧ RowsK (xs.take i) rows ∧ LinesAt w1.heap.size wr sv vs rows ∧ Keeps (fun _ => False) w1 wr)
  case atStart => exact ⟨0, [], [], Nat.zero_le _, rfl, rfl, rfl, by simpa using RowsK.nil, LinesAt.nil _ _, Keeps.refl _ _⟩
  case round =>
    obtain ⟨i, rows, vs, hi, hgk, rfl, hrl, hrk, hlin, hkw⟩ := hrel
    have hvl : vs.length = i := by rw [hlin.len, hrl]
    obtain ⟨sa, sc, rfl, -⟩ := hlin.own.form
    rw [hvl] at hlin ⊢
    have HG := Lib.hid hgk
    have HL := Lib.hid (And.intro hlin (And.intro hkw (And.intro hrk (And.intro hrl hvl))))
    clear hgk hlin hkw hrk hrl hvl
    have hE2 : ∀ w2, Keeps (fun _ => False) wr w2 → EnvR B w2 := fun w2 hk => ((HE.out.1.keeps HP.out.2.2.2.2.2 (fun _ h => h.elim)).keeps HL.out.2.1 (fun _ h => h.elim)).keeps hk (fun _ h => h.elim)
    have HE2 := Lib.hid hE2
    clear hE2
    by_cases hlt : i < m
    · obtain ⟨x, hx⟩ : ∃ x, ps[i]? = some x := ⟨_, List.getElem?_eq_getElem (by rw [HP.out.2.2.2.1]; omega)⟩
      have hc := World.cell_of_heap (HL.out.2.1.at HP.out.2.2.2.2.1 (fun h => h)) i
      rw [show ((ps.map Value.string).toArray)[i]? = some (.string x) by simp [hx]] at hc
      have hxs : x.size ≤ 1048576 := by have := piece_size (s := st) (by rw [HE.out.2.1]; exact HP.out.1) x (List.mem_of_getElem? hx); omega
      have hcx : xs[i]? = some x.data.toList := by
        have h1 : (xs ++ [y])[i]? = some x.data.toList := by rw [← HP.out.2.1, ← HP.out.1, List.getElem?_map, hx]; rfl
        rwa [List.getElem?_append_left (by rw [← HP.out.2.2.1]; exact hlt)] at h1
      obtain ⟨bz, hbz⟩ : ∃ bz, bz = decide (i = 0) := ⟨_, rfl⟩
      have t7 : ((i : Int) == 0) = bz := by rw [hbz, Bool.eq_iff_iff, beq_iff_eq, decide_eq_true_iff]; omega
      have HX := Lib.hid (And.intro hcx hbz)
      clear hcx hbz hx
      go_wp2_with fail
      refine (numbers_any x B wr (HE2.out wr (Keeps.refl _ _)) (by omega)).mono ?_
      rintro e w2 ⟨v, ok, rfl, hk2, hcs⟩
      have HK := Lib.hid hk2
      clear hk2 hc
      cases ok with
      | false =>
        have hnn : numsK x.data.toList = none := by
          rcases hcs with ⟨-, -, h⟩ | ⟨h, -⟩
          · exact h
          · cases h
        have HN := Lib.hid hnn
        clear hcs hnn
        go_wp2
        refine bodyPost_ret (v := .tuple #[.pointer none, .int .i64 ((i + 1 : Nat) : Int), .int .i64 13]) (by simp [results, Tryz.results9, go_sem]) rfl ⟨(HP.out.2.2.2.2.2.trans HL.out.2.1 (fun _ _ h => h)).trans HK.out (fun _ _ h => h), .inl ⟨_, 13, rfl, by decide, fun h => ?_, fun s rt ln k => GoodK.bad HP.out.2.1 HX.out.1 (fun l hl => by rw [HN.out] at hl; cases hl) s rt ln k⟩⟩
        exact absurd (cut_nil (h ▸ HP.out.2.1)).1 (by rw [← List.length_eq_zero_iff, ← HP.out.2.2.1]; omega)
      | true =>
        obtain ⟨l, hnl, hown⟩ : ∃ l, numsK x.data.toList = some l ∧ OwnI wr.heap.size w2 v l := by
          rcases hcs with ⟨h, -⟩ | ⟨-, h⟩
          · cases h
          · exact h
        clear hcs
        obtain ⟨la, lc, rfl, -⟩ := hown.form
        have HO := Lib.hid (And.intro hnl hown)
        clear hnl hown
        have hll : l.length ≤ 10000000000 := by
          have h1 := (numsK_len HO.out.1).1
          have h2 : x.data.toList.length = x.size := by rw [Array.length_toList]; rfl
          omega
        go_wp2_with fail
        refine (rowRight_any _ l bz w2 HO.out.2.sl hll).mono ?_
        rintro e w2 ⟨rfl, rfl⟩
        obtain ⟨rb, hrb⟩ : ∃ rb, rb = rightK bz l := ⟨_, rfl⟩
        rw [← hrb]
        have HRB := Lib.hid hrb
        clear hrb
        cases rb with
        | false =>
          go_wp2
          refine bodyPost_ret (v := .tuple #[.pointer none, .int .i64 ((i + 1 : Nat) : Int), .int .i64 13]) (by simp [results, Tryz.results9, go_sem]) rfl ⟨(HP.out.2.2.2.2.2.trans HL.out.2.1 (fun _ _ h => h)).trans HK.out (fun _ _ h => h), .inl ⟨_, 13, rfl, by decide, fun h => ?_, fun s rt ln k => GoodK.bad HP.out.2.1 HX.out.1 (fun l' hl => by rw [HO.out.1] at hl; cases hl; rw [← HX.out.2]; exact HRB.out.symm) s rt ln k⟩⟩
          exact absurd (cut_nil (h ▸ HP.out.2.1)).1 (by rw [← List.length_eq_zero_iff, ← HP.out.2.2.1]; omega)
        | true =>
          have hown2 := HL.out.1.own.keeps HK.out (fun _ _ h => h)
          have hz2 : w1.heap.size ≤ w2.heap.size := Nat.le_trans HL.out.2.1.size HK.out.size
          have HN : Hid (vs.length = i) := Lib.hid HL.out.2.2.2.2
          go_wp2_with (at_builtin; go_loud (refine append1r i rfl _ _ rfl w1.heap.size (.slice sa i sc) vs la l.length lc HN w2.heap.size rfl rfl rfl hown2 (by omega) hz2 ?_); intro g2 cap2 w3 hown3 hk3 hat hg)
          have hpush := (HL.out.1.keeps HK.out).push (x := .slice la l.length lc) (HO.out.2.mono (fun q hq => by have := (HO.out.2.lt q hq).1; have := HL.out.2.1.size; omega)) (fun q hq e => by have := (HO.out.2.lt q hq).1; have := (HL.out.1.own.lt q e).2; omega) hown3 hk3 hat
          have hkf : Keeps (fun _ => False) w1 w3 := (HL.out.2.1.trans HK.out (fun _ _ h => h)).trans hk3 (fun q hq e => by have := (HL.out.1.own.lt q e).1; omega)
          have hrw := HL.out.2.2.1.push HX.out.1 HO.out.1 (by rw [← HX.out.2]; exact HRB.out.symm)
          have HF := Lib.hid (And.intro hpush (And.intro hkf hrw))
          clear hpush hkf hrw hown3 hk3 hat hown2
          go_wp2
          go_roundg (m - (i + 1))
          case measure => rw [HG.out]; omega
          case rel => exact ⟨i + 1, rows ++ [l], vs ++ [.slice la l.length lc], by omega, rfl, by go_num, by rw [List.length_append, HL.out.2.2.2.1]; rfl, HF.out.2.2, HF.out.1, HF.out.2.1⟩
    · have hin : i = m := by omega
      have hrk : RowsK xs rows := by
        have h := HL.out.2.2.1
        rw [hin, HP.out.2.2.1, List.take_length] at h
        exact h
      obtain ⟨x, hx⟩ : ∃ x, ps[m]? = some x := ⟨_, List.getElem?_eq_getElem (by rw [HP.out.2.2.2.1]; omega)⟩
      have hc := World.cell_of_heap (HL.out.2.1.at HP.out.2.2.2.2.1 (fun h => h)) m
      rw [show ((ps.map Value.string).toArray)[m]? = some (.string x) by simp [hx]] at hc
      have hxy : x.data.toList = y := by
        have h1 : (xs ++ [y])[m]? = some x.data.toList := by rw [← HP.out.2.1, ← HP.out.1, List.getElem?_map, hx]; rfl
        rw [List.getElem?_append_right (by rw [HP.out.2.2.1]; exact Nat.le_refl _), HP.out.2.2.1, Nat.sub_self] at h1
        simpa using h1.symm
      have HX := Lib.hid (And.intro hrk hxy)
      have t1 : decide ((i : Int) < (m : Int)) = false := decide_eq_false (by omega)
      have t1' : decide (i < m) = false := decide_eq_false hlt
      clear hrk hxy hx hlt
      generalize wr = wo at *
      have HK1 : Hid (Keeps (fun _ => False) w wo) := Lib.hid (HP.out.2.2.2.2.2.trans HL.out.2.1 (fun _ _ h => h))
      by_cases hy : y = []
      · have e1 : (x.toList == ([] : List UInt8)) = true := by rw [bytes_list, HX.out.2, hy]; rfl
        by_cases hi0 : i = 0
        · have hm0 : m = 0 := by omega
          have hno : ∀ s rt ln k, ¬ GoodK t s rt ln k := fun s rt ln k h => by
            obtain ⟨_, rows', hne, hr⟩ := h.rows HP.out.2.1
            have h1 := hr.1
            rw [← HP.out.2.2.1, hm0] at h1
            exact hne (List.eq_nil_of_length_eq_zero h1)
          have HNO := Lib.hid hno
          have t2 : ((i : Int) == 0) = true := by rw [beq_iff_eq]; omega
          have t3 : decide ((i : Int) = 0) = true := decide_eq_true (by omega)
          clear hno hi0 hm0 hin
          go_wp2
          refine bodyPost_ret (v := .tuple #[.pointer none, .int .i64 ((m + 1 : Nat) : Int), .int .i64 13]) (by simp [results, Tryz.results9, go_sem]) rfl ⟨HK1.out, .inl ⟨_, 13, rfl, by decide, fun h => ⟨?_, rfl⟩, HNO.out⟩⟩
          have := (cut_nil (h ▸ HP.out.2.1)).1
          have h2 := HP.out.2.2.1
          rw [this] at h2
          simp at h2
          omega
        · have hij : 0 < i := Nat.pos_of_ne_zero hi0
          have hne : rows ≠ [] := fun h => by have := HL.out.2.2.2.1; rw [h, List.length_nil] at this; omega
          obtain ⟨h0, r, nn, ls, hrows, b0, b1, b2, b3⟩ := rows_shape HX.out.1 hne
          have hR : ReadK t ([(h0 : Int), r, (nn : Int)] :: ls.map nats) := ⟨xs, by rw [HP.out.2.1, hy], by simp, hrows ▸ HX.out.1⟩
          have hlsl : ls.length = i - 1 := by have h := HL.out.2.2.2.1; rw [hrows] at h; simp at h; omega
          have hsum : (ls.map List.length).sum ≤ 1000000 := by
            have h1 := RowsK.sum HX.out.1.1 (fun i x hx => by obtain ⟨l, a, b, _⟩ := HX.out.1.2 i x hx; exact ⟨l, a, b⟩)
            have h2 := cut_len 10 t
            rw [HP.out.2.1, List.map_append, List.sum_append] at h2
            rw [hrows] at h1
            simp only [List.map_cons, List.sum_cons, List.map_map] at h1
            have h3 : (ls.map (List.length ∘ nats)).sum = (ls.map List.length).sum := congrArg List.sum (List.map_congr_left fun l _ => by simp [nats])
            rw [h3] at h1
            have := HE.out.2.2
            omega
          obtain ⟨v0, hv0⟩ : ∃ v0, vs[0]? = some v0 := ⟨_, List.getElem?_eq_getElem (by rw [HL.out.2.2.2.2]; omega)⟩
          obtain ⟨hO0, -⟩ := HL.out.1.row 0 v0 [(h0 : Int), r, (nn : Int)] hv0 (by rw [hrows]; rfl)
          obtain ⟨ga, sc', esa, ca⟩ := HL.out.1.own.cell hv0
          simp only [Value.slice.injEq] at esa
          obtain ⟨rfl, -, rfl⟩ := esa
          obtain ⟨la, lc, rfl, -, -⟩ := hO0.form
          obtain ⟨gh, oh, rfl, c0⟩ := hO0.sl.cellAt (show ([(h0 : Int), r, (nn : Int)] : List Int)[0]? = some (h0 : Int) from rfl)
          rw [Nat.add_zero] at c0
          obtain ⟨gh', oh', e2, c1⟩ := hO0.sl.cellAt (show ([(h0 : Int), r, (nn : Int)] : List Int)[1]? = some r from rfl)
          obtain ⟨gh'', oh'', e3, c2⟩ := hO0.sl.cellAt (show ([(h0 : Int), r, (nn : Int)] : List Int)[2]? = some (nn : Int) from rfl)
          simp only [Option.some.injEq, Addr.mk.injEq, and_true] at e2 e3
          obtain ⟨rfl, rfl⟩ := e2
          obtain ⟨rfl, rfl⟩ := e3
          have hLR : ∀ a', (a' = some ⟨ga, 1, none⟩ ∨ ls = []) → LinesR wo a' (i - 1) ls := by
            intro a' ha
            refine ⟨hlsl, fun q l hl => ?_⟩
            rcases ha with rfl | e
            · obtain ⟨vq, hvq⟩ : ∃ v, vs[q + 1]? = some v := ⟨_, List.getElem?_eq_getElem (by rw [HL.out.2.2.2.2]; have := (List.getElem?_eq_some_iff.1 hl).1; omega)⟩
              obtain ⟨hOq, -⟩ := HL.out.1.row (q + 1) vq (nats l) hvq (by rw [hrows, List.getElem?_cons_succ, List.getElem?_map, hl]; rfl)
              obtain ⟨ga', _, e, cq⟩ := HL.out.1.own.cell hvq
              simp only [Value.slice.injEq, Option.some.injEq, Addr.mk.injEq] at e
              obtain ⟨⟨rfl, -⟩, -⟩ := e
              obtain ⟨xa, xc, rfl, -, -⟩ := hOq.form
              rw [nats_len] at cq hOq
              exact ⟨ga, 1, xa, xc, rfl, by rw [Nat.add_comm]; exact cq, hOq.sl⟩
            · rw [e] at hl; simp at hl
          have hT : ∀ W a' cap', Keeps (fun _ => False) wo W → (a' = some ⟨ga, 1, none⟩ ∨ ls = []) → Calls Tryz.prog 22 #[.slice a' (i - 1) cap', .int .i64 (2 * (h0 : Int))] W (TurnsR ls (2 * h0) W) := fun W a' cap' hkW ha => by
            have := turns_any a' (i - 1) cap' ls (2 * h0) W ((hLR a' ha).keeps hkW) (by omega) (by have := HL.out.2.2.2.1; omega) (by omega)
            rwa [show ((2 * h0 : Nat) : Int) = 2 * (h0 : Int) by omega] at this
          have hnt : t ≠ [] := fun h => by
            have := (cut_nil (h ▸ HP.out.2.1)).1
            have h2 := HP.out.2.2.1
            rw [this] at h2
            simp at h2
            omega
          have hcp : i ≤ sc := by
            obtain ⟨_, _, e, h⟩ := HL.out.1.own.form
            simp only [Value.slice.injEq] at e
            rw [HL.out.2.2.2.2] at h
            omega
          have HT := Lib.hid (And.intro hT (And.intro hlsl (And.intro hR (And.intro hnt (And.intro hsum hO0)))))
          have t2 : ((i : Int) == 0) = false := by rw [beq_eq_false_iff_ne]; omega
          have t3 : decide ((i : Int) = 0) = false := decide_eq_false (by omega)
          clear hT hLR hlsl hR hnt hsum hO0 hrows hne hin hv0
          go_upto_region 16 with fail
          have hi1 : (1 : Int) ≤ (i : Int) := by omega
          have hw2 : IntKind.i64.wrap (2 * (h0 : Int)) = 2 * (h0 : Int) := IntWalk.i64_in _ (by omega)
          have hls1 : sc = 1 → ls = [] := fun h => List.eq_nil_of_length_eq_zero (by rw [HT.out.2.1]; omega)
          have hi2 : ((i : Int) - 1).toNat = i - 1 := by omega
          have HLS := Lib.hid hls1
          clear hls1
          have hcc : ∀ w', Keeps (fun _ => False) wo w' → w'.cell? ⟨gh, oh, none⟩ = some (.int .i64 (h0 : Int)) ∧ w'.cell? ⟨gh, oh + 1, none⟩ = some (.int .i64 r) ∧ w'.cell? ⟨gh, oh + 2, none⟩ = some (.int .i64 (nn : Int)) := fun w' hk => by
            have hb := hk.block gh (World.block_lt_of_cell? _ _ c0) (fun h => h)
            exact ⟨by rw [World.cell?_of_block hb]; exact c0, by rw [World.cell?_of_block hb]; exact c1, by rw [World.cell?_of_block hb]; exact c2⟩
          have HC := Lib.hid hcc
          clear hcc
          have hgoal : ∀ (G : Prop), (sc = 1 → G) → (¬ sc = 1 → G) → G := fun G h1 h2 => (Classical.em (sc = 1)).elim h1 h2
          refine hgoal _ (fun hsc => ?_) (fun hsc => ?_)
          all_goals clear hgoal hcp
          all_goals go_region_held3 (fun w' => w'.cell? ⟨gh, oh, none⟩ = some (.int .i64 (h0 : Int))) (first | exact c0 | exact (HC.out _ HK.out.1).1) ((go_at_call 22; refine (HT.out.1 _ _ _ (by first | exact Keeps.refl _ _ | exact (Keeps.refl (fun _ => False) wo).drew) (by first | exact .inl rfl | exact .inr (HLS.out hsc))).mono ?_; rintro e w2 ⟨v, ok, rfl, hk2, hcs⟩; have HK : Hid (Keeps (fun _ => False) wo w2 ∧ _) := Lib.hid ⟨(by first | exact hk2 | exact (Keeps.refl (fun _ => False) wo).drew.trans hk2 (fun _ _ h => h)), hcs⟩; clear hk2 hcs))
          all_goals clear hsc
          all_goals (
            cases ok with
            | false =>
              have hno : ¬ TurnOk ls (2 * h0) := by
                rcases HK.out.2 with ⟨-, -, h⟩ | ⟨h, -⟩
                · exact h
                · cases h
              have HNO := Lib.hid hno
              clear hno
              go_wp2
              exact bodyPost_ret (v := .tuple #[.pointer none, .int .i64 0, .int .i64 4]) (by simp [results, Tryz.results9, go_sem]) rfl ⟨HK1.out.trans HK.out.1 (fun _ _ h => h), .inl ⟨0, 4, rfl, by decide, fun h => absurd h HT.out.2.2.2.1, fun s rt ln k h => HNO.out (GoodK.same HT.out.2.2.1 h).1⟩⟩
            | true =>
              obtain ⟨hTO, zs, hTI, hown⟩ : TurnOk ls (2 * h0) ∧ ∃ zs, TurnI (2 * h0) (linksL ls) zs ∧ OwnI wo.heap.size w2 v zs := by
                rcases HK.out.2 with ⟨h, -⟩ | ⟨-, h⟩
                · cases h
                · exact h
              obtain ⟨s, rfl, hsl, hP, hsg⟩ := hTI.done hTO.1
              obtain ⟨va, vc, rfl, -, -⟩ := hown.form
              rw [nats_len] at hown ⊢
              have hk2 := HK.out.1
              have hsle : s.length ≤ 1000000 := by rw [hsl, ← hTO.1, links_len]; exact HT.out.2.2.2.2.1
              have hSl : Sl .i64 w2 (.slice va s.length vc) (nats s) := hown.sl
              have HS := Lib.hid (And.intro hTO (And.intro hsg (And.intro hsl (And.intro hP hSl))))
              clear hTO hsg hTI hown HK
              have d1 := (HC.out _ hk2).2.1
              have d2 := (HC.out _ hk2).2.2
              have HK := Lib.hid hk2
              clear hk2 c0 c1 c2
              by_cases hgood : s.length ≤ 131072 ∧ nn ≤ 65536 ∧ ((s.length = 0 ∧ r = -1) ∨ ∃ r' : Nat, r = r' ∧ r' < s.length)
              · have hN : ∀ W, Keeps (fun _ => False) w2 W → Calls Tryz.prog 15 #[.slice va s.length vc, .int .i64 r, .int .i64 nn] W (MadeMap W s r nn) := fun W hk => new_map (HS.out.2.2.2.2.keeps hk (fun _ _ h => h)) (by rw [HS.out.2.2.1]; exact HS.out.2.2.2.1) (by rw [HS.out.2.2.1]; omega) hgood.1 hgood.2.1 hgood.2.2
                have HN := Lib.hid (And.intro hN hgood)
                clear hN hgood hsl hP
                go_upto_region 19 with fail
                go_region_held3 (fun w' => w'.cell? ⟨gh, oh + 1, none⟩ = some (.int .i64 r) ∧ w'.cell? ⟨gh, oh + 2, none⟩ = some (.int .i64 (nn : Int))) (first | exact ⟨d1, d2⟩ | exact (HC.out _ HM.out.1).2) ((go_at_call 15; refine (HN.out.1 _ (by first | exact Keeps.refl _ _ | exact (Keeps.refl (fun _ => False) w2).drew)).mono ?_; rintro e w3 ⟨bm, rfl, hma, hbm, hk3⟩; have HM : Hid (Keeps (fun _ => False) wo w3 ∧ _ ∧ _) := Lib.hid ⟨HK.out.trans (by first | exact hk3 | exact (Keeps.refl (fun _ => False) w2).drew.trans hk3 (fun _ _ h => h)) (fun _ _ h => h), hma, hbm⟩; clear hk3 hma hbm))
                go_wp2
                refine bodyPost_ret (v := .tuple #[.pointer (some ⟨bm, 0, none⟩), .int .i64 i, .int .i64 0]) (by simp [results, Tryz.results9, go_sem]) rfl ⟨HK1.out.trans HM.out.1 (fun _ _ h => h), .inr ⟨bm, s, r, nn, i, ⟨by rw [HE.out.2.2]; exact hbig, h0, ls, HT.out.2.2.1, by have := HT.out.2.1; omega, HS.out.1, HS.out.2.1, HS.out.2.2.1, by rw [HS.out.2.2.1]; exact HS.out.2.2.2.1, HN.out.2.1, HN.out.2.2.1, HN.out.2.2.2⟩, rfl, ?_, ?_⟩⟩
                · exact HM.out.2.1.mono (fun x hx => ⟨Nat.le_trans (Nat.le_trans HK1.out.size HK.out.size) hx.1, hx.2⟩) (fun x hx => hx.2.1) (fun h => h.2.2 rfl)
                · exact Nat.le_trans (Nat.le_trans HK1.out.size HK.out.size) HM.out.2.2
              · have hbad : ¬ ((s.length = 0 ∧ r = -1) ∨ (0 ≤ r ∧ r < s.length)) ∨ 131072 < s.length ∨ 65536 < nn := by
                  by_cases q1 : 131072 < s.length
                  · exact .inr (.inl q1)
                  · by_cases q2 : 65536 < nn
                    · exact .inr (.inr q2)
                    · refine .inl (fun h => hgood ⟨by omega, by omega, ?_⟩)
                      rcases h with h | ⟨q3, q4⟩
                      · exact .inl h
                      · exact .inr ⟨r.toNat, by omega, by omega⟩
                have hN : ∀ W, Keeps (fun _ => False) w2 W → Calls Tryz.prog 15 #[.slice va s.length vc, .int .i64 r, .int .i64 nn] W _ := fun W hk => new_bad (.slice va s.length vc) s r nn W (HS.out.2.2.2.2.keeps hk (fun _ _ h => h)) (by rw [HS.out.2.2.1]; exact HS.out.2.2.2.1) (by rw [HS.out.2.2.1]; omega) hsle b1 (by omega) (by omega) hbad
                have hno : ∀ s' rt ln k, ¬ GoodK t s' rt ln k := fun s' rt ln k h => by
                  obtain ⟨_, e1, e2, e3, e4, e5, e6⟩ := GoodK.same HT.out.2.2.1 h
                  subst e1 e2
                  rw [← hsl] at e3
                  rw [e3] at e4 e6
                  exact hgood ⟨e4, e5, e6⟩
                have HN := Lib.hid (And.intro hN hno)
                clear hN hno hgood hsl hP hbad
                go_upto_region 19 with fail
                go_region_held3 (fun w' => w'.cell? ⟨gh, oh + 1, none⟩ = some (.int .i64 r) ∧ w'.cell? ⟨gh, oh + 2, none⟩ = some (.int .i64 (nn : Int))) (first | exact ⟨d1, d2⟩ | exact (HC.out _ HM.out).2) ((go_at_call 15; refine (HN.out.1 _ (by first | exact Keeps.refl _ _ | exact (Keeps.refl (fun _ => False) w2).drew)).mono ?_; rintro e w3 ⟨⟨er, her, rfl⟩, hk3⟩; have HM : Hid (Keeps (fun _ => False) wo w3) := Lib.hid (HK.out.trans (by first | exact hk3 | exact (Keeps.refl (fun _ => False) w2).drew.trans hk3 (fun _ _ h => h)) (fun _ _ h => h)); have HER := Lib.hid her; clear hk3 her))
                have q8 : (er == 0) = false := by rw [beq_eq_false_iff_ne]; rcases HER.out with h | h <;> omega
                have q9 : decide (er = 0) = false := by rw [decide_eq_false_iff_not]; rcases HER.out with h | h <;> omega
                go_wp2
                refine bodyPost_ret (v := .tuple #[.pointer none, .int .i64 0, .int .i64 er]) (by simp [results, Tryz.results9, go_sem]) rfl ⟨HK1.out.trans HM.out (fun _ _ h => h), .inl ⟨0, er, rfl, by rcases HER.out with h | h <;> omega, fun h => absurd h HT.out.2.2.2.1, HN.out.2⟩⟩)
      · have e1 : (x.toList == ([] : List UInt8)) = false := by
          rw [bytes_list, HX.out.2]; exact beq_eq_false_iff_ne.2 hy
        go_wp2
        refine bodyPost_ret (v := .tuple #[.pointer none, .int .i64 ((m + 1 : Nat) : Int), .int .i64 13]) (by simp [results, Tryz.results9, go_sem]) rfl ⟨HK1.out, .inl ⟨_, 13, rfl, by decide, fun h => ?_, fun s rt ln k h => hy (h.rows HP.out.2.1).1⟩⟩
        exact absurd (cut_nil (h ▸ HP.out.2.1)).2 hy

end Go.Proofs.YtblkkcpeodoclaaGreatDoor
