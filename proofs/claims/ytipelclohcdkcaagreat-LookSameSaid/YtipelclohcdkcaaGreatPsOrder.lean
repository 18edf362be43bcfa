/- walk.Order: the vertices, as they are met. -/
import Derived.Test.YtipelclohcdkcaaGreatPsWalks
import Derived.Test.YtipelclohcdkcaaGreatPsSame
namespace Go.Proofs.YtipelclohcdkcaaGreat
open Go.RowKit

set_option maxRecDepth 100000 in
set_option maxHeartbeats 4000000 in
theorem walkTree_any {B : Nat} {lv : Value} {ps : List (Nat × Nat)} {w : World} (hs : Own2 B w lv ps) (hl : ps.length ≤ 1000000) :
    Calls Tryz.prog 155 #[lv] w fun e w' => ∃ v, e = .returned v ∧ OwnI w.heap.size w' v (nats (treeL ps)) ∧ Keeps (fun _ => False) w w' := by
  have HS : Hid (∀ W, Keeps (fun _ => False) w W → Own2 B W lv ps) := Lib.hid (fun W hk => hs.keeps hk (fun _ _ h => h))
  obtain ⟨la, lc, rfl⟩ := hs.form
  have h0 : OwnI w.heap.size w (.slice none 0 0) (nats (treeL (ps.take 0))) ∧ Keeps (fun _ => False) w w := ⟨OwnI.nil _ _, Keeps.refl _ _⟩
  clear hs
  go_enter Tryz.func155, Tryz.ntmps155
  go_wp2_with fail
  generalize hn : ps.length = n at *
  have HN := Lib.hid hn
  clear hn
  go_loopg [3, 8] n (fun m v i wr => ∃ j : Nat, j ≤ n ∧ m = n - j ∧ i = .int .i64 j ∧ OwnI w.heap.size wr v (nats (treeL (ps.take j))) ∧ Keeps (fun _ => False) w wr)
  case atStart => exact ⟨0, Nat.zero_le _, rfl, rfl, h0⟩
  case round =>
    clear h0
    obtain ⟨j, hj, hgk, rfl, hown, hkw⟩ := hrel
    have HG := Lib.hid hgk
    clear hgk
    by_cases hlt : j < n
    · have hp := List.getElem?_eq_getElem (l := ps) (i := j) (by rw [HN.out]; exact hlt)
      obtain ⟨p, hpe⟩ : ∃ p, p = ps[j]'(by rw [HN.out]; exact hlt) := ⟨_, rfl⟩
      rw [← hpe] at hp
      obtain ⟨g, c, hv, hc1, hc2⟩ := (HS.out wr hkw).cell hp
      simp only [Value.slice.injEq] at hv
      obtain ⟨rfl, e5, rfl⟩ := hv
      have hst := treeL_step hp
      have hll := treeL_length_le (ps.take j)
      rw [List.length_take] at hll
      obtain ⟨x, hx⟩ : ∃ x, x = p.1 := ⟨_, rfl⟩
      obtain ⟨k, hk⟩ : ∃ k, k = p.2 := ⟨_, rfl⟩
      rw [← hx] at hc1 hst
      rw [← hk] at hc2 hst
      by_cases hk0 : k = 0
      · rw [if_pos hk0] at hst
        have hc2' : wr.cell? ⟨g, j * 2 + 1, none⟩ = some (.int .i64 0) := by rw [hc2, hk0]; rfl
        have ka := (Keeps.refl (fun _ => False) wr).alloc (.cells #[.int .i64 x, .int .i64 0] 180)
        have hown1 := hown.keeps ka (fun _ _ h => h)
        have hkw1 := hkw.trans ka (fun _ _ h => h)
        clear hc2
        obtain ⟨N, hN⟩ : ∃ N, N = (treeL (ps.take j)).length := ⟨_, rfl⟩
        have hfo := hown1.form
        rw [nats_len, ← hN] at hfo
        obtain ⟨fa, fc, rfl, _, _⟩ := hfo
        have HNN : Hid ((nats (treeL (ps.take j))).length = N) := Lib.hid (by rw [nats_len, hN])
        have hnl : N ≤ 10000000000 := by omega
        have hsz := hkw1.size
        have HK := Lib.hid (And.intro hkw1 hst)
        clear hown hkw hp hpe e5 hst hx hk hk0 ka hkw1 hll hN
        go_wp2_with (at_builtin; go_loud (refine append1n N rfl _ _ rfl w.heap.size (.slice fa N fc) (nats (treeL (ps.take j))) (x : Int) HNN (wr.heap.size + 1) (by simp) rfl rfl hown1 hnl hsz ?_); intro g2 cap2 w3 hown3 hk3 hat hg)
        have HF : Hid (OwnI w.heap.size w3 (.slice (some ⟨g2, 0, none⟩) (N + 1) cap2) (nats (treeL (ps.take (j + 1)))) ∧ Keeps (fun _ => False) w w3) := Lib.hid ⟨by rw [HK.out.2, nats_snoc]; exact hown3, HK.out.1.trans hk3 (fun x hx h => by have := (hown1.lt x h).1; omega)⟩
        clear hown3 hk3 hat hown1 hg
        go_wp2
        go_roundg (n - (j + 1))
        case measure => rw [HG.out]; omega
        case rel => exact ⟨j + 1, by omega, rfl, by go_num, HF.out⟩
      · rw [if_neg hk0, List.append_nil] at hst
        have ka := (Keeps.refl (fun _ => False) wr).alloc (.cells #[.int .i64 x, .int .i64 k] 180)
        have hown1 := hown.keeps ka (fun _ _ h => h)
        have hkw1 := hkw.trans ka (fun _ _ h => h)
        have q0 : ((k : Int) == 0) = false := by rw [beq_eq_false_iff_ne]; omega
        have HF : Hid (OwnI w.heap.size _ _ (nats (treeL (ps.take (j + 1)))) ∧ Keeps (fun _ => False) w _) := Lib.hid ⟨by rw [hst]; exact hown1, hkw1⟩
        clear hown hkw hp hpe e5 hst hx hk ka hkw1 hll hown1
        go_wp2
        go_roundg (n - (j + 1))
        case measure => rw [HG.out]; omega
        case rel => exact ⟨j + 1, by omega, rfl, by go_num, HF.out⟩
    · obtain rfl : j = n := by omega
      rw [List.take_of_length_le (by rw [HN.out]; exact Nat.le_refl _)] at hown
      have HF := Lib.hid (And.intro hown hkw)
      clear hown hkw
      go_wp2
      go_ret
      exact ⟨_, rfl, HF.out⟩

theorem orderBelow_any (v : Nat) (w : World) : Calls Tryz.prog 157 #[.int .i64 v] w fun e w' => e = .returned (.bool false) ∧ w = w' := by
  have q0 : decide ((v : Int) < 0) = false := decide_eq_false (by omega)
  go_enter Tryz.func157, Tryz.ntmps157
  go_wp2
  go_ret
  exact ⟨rfl, rfl⟩

set_option maxRecDepth 100000 in
set_option maxHeartbeats 2000000 in
theorem orderIndex_any {sv : Value} {l : List Nat} {w : World} (hs : Sl .i64 w sv (nats l)) (hl : l.length ≤ 1000000) :
    Calls Tryz.prog 178 #[sv, .func (.func 157) #[] #[]] w fun e w' => e = .returned (.int .i64 (-1)) ∧ w = w' := by
  obtain ⟨a, cap, rfl, hnc, hcm, _, hc⟩ := hs
  rw [nats_len] at hnc ⊢
  generalize hn : l.length = n at *
  have HN := Lib.hid hn
  clear hn
  go_enter Tryz.func178, Tryz.ntmps178
  go_wp2_with fail
  go_loop [5, 8] (fun _x i => ∃ j : Nat, j ≤ n ∧ i = .int .i64 j) (fun _ i => n - (intOf i).toNat)
  case atStart => exact ⟨0, Nat.zero_le _, rfl⟩
  case round =>
    obtain ⟨j, hj, rfl⟩ := hrel
    by_cases hlt : j < n
    · obtain ⟨x, hx⟩ : ∃ x, l[j]? = some x := ⟨_, List.getElem?_eq_getElem (by rw [HN.out]; exact hlt)⟩
      obtain ⟨g, off, rfl, hcell⟩ := hc j _ (nats_get hx)
      clear hc hx
      go_wp2_with (refine (orderBelow_any _ _).mono ?_; rintro e w' ⟨rfl, rfl⟩)
      go_round
      case rel => exact ⟨j + 1, by omega, by go_num⟩
      case measure => simp [intOf]; omega
    · obtain rfl : j = n := by omega
      go_wp2
      go_ret
      exact ⟨rfl, rfl⟩

theorem orderDelete_any {sv : Value} {l : List Nat} {w : World} (hs : Sl .i64 w sv (nats l)) (hl : l.length ≤ 1000000) :
    Calls Tryz.prog 156 #[sv, .func (.func 157) #[] #[]] w fun e w' => e = .returned sv ∧ w = w' := by
  have hI := orderIndex_any hs hl
  obtain ⟨a, cap, rfl, _⟩ := hs
  go_enter Tryz.func156, Tryz.ntmps156
  go_wp2_with fail
  refine hI.mono ?_
  rintro e w' ⟨rfl, rfl⟩
  go_wp2
  go_ret
  exact ⟨rfl, rfl⟩


/-- Order's state: the map as it was asked, the vertices so far, and a slice beside them. -/
def OrS (w : World) (b : Nat) (s : List Nat) (rt ln : Int) (R : Nat → Prop) (tv : Value) (tr acc : List Nat) (ov : Value) (wr : World) : Prop :=
  ∃ R', MapAt wr b s rt ln R' ∧ (∀ x, R' x → R x ∨ (w.heap.size ≤ x ∧ x < wr.heap.size)) ∧ OwnI w.heap.size wr ov (nats acc) ∧ (∀ k, ov.ownBlock = some k → ¬ R' k) ∧
    OwnI w.heap.size wr tv (nats tr) ∧ (∀ k, tv.ownBlock = some k → ¬ R' k ∧ ov.ownBlock ≠ some k) ∧ Keeps (fun k => k = b) w wr

theorem OrS.ask {w wr w' : World} {b : Nat} {s : List Nat} {rt ln : Int} {R : Nat → Prop} {tv : Value} {tr acc : List Nat} {ov : Value} (hb : b < w.heap.size) (h : OrS w b s rt ln R tv tr acc ov wr) (hq : ∀ R', MapAt wr b s rt ln R' → MapQ wr b s rt ln R' w') : OrS w b s rt ln R tv tr acc ov w' := by
  obtain ⟨R', h1, h2, h3, h4, h5, h6, h7⟩ := h
  obtain ⟨q1, q2⟩ := hq R' h1
  have hsz := q2.size
  have hs0 := h7.size
  refine ⟨_, q1, fun x hx => ?_, h3.keeps q2 (fun k hk e => by have := (h3.lt k hk).1; omega), fun k hk hx => ?_, h5.keeps q2 (fun k hk e => by have := (h5.lt k hk).1; omega), fun k hk => ⟨fun hx => ?_, (h6 k hk).2⟩, h7.trans q2 (fun _ _ h => h)⟩
  · rcases hx with hx | hx
    · rcases h2 x hx with e | e
      · exact .inl e
      · exact .inr ⟨e.1, by omega⟩
    · exact .inr ⟨by omega, hx.2⟩
  · rcases hx with hx | hx
    · exact h4 k hk hx
    · have := (h3.lt k hk).2; omega
  · rcases hx with hx | hx
    · exact (h6 k hk).1 hx
    · have := (h5.lt k hk).2; omega

/-- Another number behind the vertices. -/
theorem OrS.push {w wr w3 : World} {b : Nat} {s : List Nat} {rt ln : Int} {R : Nat → Prop} {tv : Value} {tr acc : List Nat} {ov : Value} (hb : b < w.heap.size) (h : OrS w b s rt ln R tv tr acc ov wr) {g N cap x : Nat} (hk : Keeps (fun k => ov.ownBlock = some k) wr w3) (hg : ov.ownBlock = some g ∨ wr.heap.size ≤ g)
    (ho : OwnI w.heap.size w3 (.slice (some ⟨g, 0, none⟩) N cap) (nats (acc ++ [x]))) : OrS w b s rt ln R tv tr (acc ++ [x]) (.slice (some ⟨g, 0, none⟩) N cap) w3 := by
  obtain ⟨R', h1, h2, h3, h4, h5, h6, h7⟩ := h
  have hsz := hk.size
  have hgr : ¬ R' g := by
    rcases hg with e | e
    · exact h4 g e
    · intro hx; have := h1.old g hx; omega
  refine ⟨R', h1.keeps hk (fun e => by have := (h3.lt _ e).1; omega) (fun x hx e => h4 x e hx), fun x hx => (h2 x hx).imp id (fun e => ⟨e.1, by omega⟩), ho, fun k hk2 => ?_, h5.keeps hk (fun k hk2 => (h6 k hk2).2), fun k hk2 => ⟨(h6 k hk2).1, fun e => ?_⟩, h7.trans hk (fun x hx e => by have := (h3.lt x e).1; omega)⟩
  · simp only [Value.ownBlock, Option.some.injEq] at hk2
    subst hk2; exact hgr
  · simp only [Value.ownBlock, Option.some.injEq] at e
    subst e
    rcases hg with e | e
    · exact (h6 g hk2).2 e
    · have := (h5.lt g hk2).2; omega

theorem OrS.still {w wr w' : World} {b : Nat} {s : List Nat} {rt ln : Int} {R : Nat → Prop} {tv : Value} {tr acc : List Nat} {ov : Value} (h : OrS w b s rt ln R tv tr acc ov wr) (k : Keeps (fun _ => False) wr w') : OrS w b s rt ln R tv tr acc ov w' := by
  obtain ⟨R', h1, h2, h3, h4, h5, h6, h7⟩ := h
  exact ⟨R', h1.keeps k (fun h => h) (fun _ _ h => h), fun x hx => (h2 x hx).imp id (fun e => ⟨e.1, Nat.lt_of_lt_of_le e.2 k.size⟩), h3.keeps k (fun _ _ h => h), h4, h5.keeps k (fun _ _ h => h), h6, h7.trans k (fun _ _ h => h.elim)⟩

set_option maxRecDepth 100000 in
set_option maxHeartbeats 4000000 in
theorem walkOrder_any {w : World} {b : Nat} {s : List Nat} {rt : Int} {l : Nat} {R : Nat → Prop} (h : MapAt w b s rt l R) {B : Nat} {lv : Value} {ps : List (Nat × Nat)} (hs : Own2 B w lv ps) (hps : ∀ p ∈ ps, p.1 < s.length) (hl : ps.length ≤ 900000) (hsep : ∀ q, lv.ownBlock = some q → q ≠ b) :
    Calls Tryz.prog 90 #[.pointer (some ⟨b, 0, none⟩), lv] w fun e w' => ∃ v R', e = .returned v ∧ OwnI w.heap.size w' v (nats (ordL (sg s) ps)) ∧ MapAt w' b s rt l R' ∧ (∀ x, R' x → R x ∨ (w.heap.size ≤ x ∧ x < w'.heap.size)) ∧ (∀ k, v.ownBlock = some k → ¬ R' k) ∧ Keeps (fun k => k = b) w w' := by
  have HS : Hid (∀ W, Keeps (fun k => k = b) w W → Own2 B W lv ps) := Lib.hid (fun W hk => hs.keeps hk (fun q hq e => hsep q hq e))
  have hblt := h.lt
  have hO0 : OrS w b s rt l R (.slice none 0 0) [] [] (.slice none 0 0) w := ⟨R, h, fun x hx => .inl hx, OwnI.nil _ _, fun k hk => by simp [Value.ownBlock] at hk, OwnI.nil _ _, fun k hk => by simp [Value.ownBlock] at hk, Keeps.refl _ _⟩
  obtain ⟨la, lc, rfl⟩ := hs.form
  have HH := Lib.hid (And.intro h hps)
  generalize hn : ps.length = n at *
  have HN := Lib.hid hn
  clear h hs hps hsep hn
  go_enter Tryz.func90, Tryz.ntmps90
  go_upto_if 10 with fail
  go_cut [5] from 8 to 19 (fun ov wx => OrS w b s rt l R (.slice none 0 0) [] ((ps.take 1).map (fun p => vnum (sg s) p.1)) ov wx)
  case first =>
    by_cases h0 : 0 < n
    rotate_left
    · have d0 : decide ((0 : Int) < (n : Int)) = false := decide_eq_false (by omega)
      have hp0 : ps = [] := List.eq_nil_of_length_eq_zero (by have := HN.out; omega)
      subst hp0
      have HF := Lib.hid hO0
      clear hO0
      go_wp2
      go_meet
      exact HF.out
    · have d0 : decide ((0 : Int) < (n : Int)) = true := decide_eq_true (by omega)
      obtain ⟨p, hp⟩ : ∃ p, ps[0]? = some p := ⟨_, List.getElem?_eq_getElem (by rw [HN.out]; exact h0)⟩
      obtain ⟨g, c, hv, hc1, hc2⟩ := (HS.out w (Keeps.refl _ _)).cell hp
      simp only [Value.slice.injEq] at hv
      obtain ⟨rfl, -, rfl⟩ := hv
      have hpl := HH.out.2 p (List.mem_of_getElem? hp)
      have ht1 : ps.take 1 = [p] := by have := take_get hp; simpa using this
      have hV := mapVertex_in HH.out.1 p.1 hpl
      have hlist : (ps.take 1).map (fun p => vnum (sg s) p.1) = [vnum (sg s) p.1] := by rw [ht1]; rfl
      simp only [Nat.zero_mul] at hc1
      obtain ⟨x, hx⟩ : ∃ x, x = p.1 := ⟨_, rfl⟩
      rw [← hx] at hc1 hV hlist
      obtain ⟨y, hy⟩ : ∃ y, y = vnum (sg s) x := ⟨_, rfl⟩
      rw [← hy] at hV hlist
      have HL := Lib.hid hlist
      have HO0 := Lib.hid hO0
      clear hp hc2 ht1 hpl hO0 hx hy hlist
      go_wp2_with fail
      refine hV.mono ?_
      rintro e w1 ⟨rfl, hq⟩
      have hO1 : OrS w b s rt l R (.slice none 0 0) [] [] (.slice none 0 0) w1 := by
        obtain ⟨q1, q2⟩ := hq
        exact ⟨_, q1, fun x hx => hx, OwnI.nil _ _, fun k hk => by simp [Value.ownBlock] at hk, OwnI.nil _ _, fun k hk => by simp [Value.ownBlock] at hk, q2⟩
      have hsz := hq.2.size
      have HO1 := Lib.hid hO1
      have hown1 : OwnI w.heap.size w1 (.slice none 0 0) (nats []) := OwnI.nil _ _
      have HN0 : Hid ((nats ([] : List Nat)).length = 0) := Lib.hid rfl
      have hn0 : (0 : Nat) ≤ 10000000000 := by omega
      clear hV hq hO1 HO0
      go_wp2_with (at_builtin; go_loud (refine append1n 0 rfl _ _ rfl w.heap.size (.slice none 0 0) (nats []) (y : Int) HN0 w1.heap.size rfl rfl rfl hown1 hn0 hsz ?_); intro g2 cap2 w3 hown3 hk3 hat hg)
      have hF := HO1.out.push hblt hk3 hat (N := 0 + 1) (x := y) (by rw [nats_snoc]; exact hown3)
      rw [List.nil_append, ← HL.out] at hF
      have HF := Lib.hid hF
      clear hown3 hk3 hat hg hown1 hF
      go_wp2
      go_meet
      exact HF.out
  case rest =>
    obtain ⟨R1, h1, h2, h3, h4, _, _, h7⟩ := id hcut
    have hT := walkTree_any (HS.out _ h7) (by rw [HN.out]; omega)
    have HC := Lib.hid (And.intro hcut h7)
    have hfo := h3.form
    rw [nats_len] at hfo
    obtain ⟨fa, fc, rfl, _, _⟩ := hfo
    clear hcut h1 h2 h3 h4 h7 hO0
    go_wp2_with fail
    refine hT.mono ?_
    rintro e w2 ⟨tv, rfl, htv, hk2⟩
    have hTO : OrS w b s rt l R tv (treeL ps) ((ps.take 1).map (fun p => vnum (sg s) p.1) ++ ((treeL ps).take 0).map (fun d => vnum (sg s) (mt d))) (.slice fa ((ps.take 1).map (fun p => vnum (sg s) p.1)).length fc) w2 := by
      have hs7 := HC.out.2.size
      have hs2 := hk2.size
      obtain ⟨R1, m1, m2, m3, m4, _, _, m7⟩ := HC.out.1
      refine ⟨R1, m1.keeps hk2 (fun h => h) (fun _ _ h => h), fun x hx => (m2 x hx).imp id (fun e => ⟨e.1, by omega⟩), by simpa using m3.keeps hk2 (fun _ _ h => h), m4, htv.mono (fun q hq => by have := (htv.lt q hq).1; omega), fun q hq => ⟨fun hx => ?_, fun e => ?_⟩, m7.trans hk2 (fun _ _ h => h.elim)⟩
      · have := (htv.lt q hq).1; have := m1.old q hx; omega
      · have := (htv.lt q hq).1; have := (m3.lt q e).2; omega
    obtain ⟨tr, htr⟩ : ∃ tr, tr = treeL ps := ⟨_, rfl⟩
    have htl : tr.length ≤ 900000 := by rw [htr]; have := treeL_length_le ps; have := HN.out; omega
    have htd : ∀ d ∈ tr, d < s.length := fun d hd => by
      rw [htr] at hd
      obtain ⟨p, hp, rfl⟩ := List.mem_map.1 hd
      exact HH.out.2 p (List.mem_filter.1 hp).1
    obtain ⟨c1, hc1⟩ : ∃ c1, c1 = (ps.take 1).map (fun p => vnum (sg s) p.1) := ⟨_, rfl⟩
    have hcl : c1.length ≤ 1 := by rw [hc1]; simp; omega
    have hfin : ordL (sg s) ps = c1 ++ tr.map (fun d => vnum (sg s) (mt d)) := by rw [hc1, htr]; rfl
    rw [← htr] at hTO
    rw [← hc1] at hTO
    obtain ⟨ta, tc, htvf, _, _⟩ := htv.form
    rw [nats_len, ← htr] at htvf
    have HF2 := Lib.hid (And.intro htd (And.intro hcl hfin))
    obtain ⟨a5, ha5⟩ : ∃ a5 : Value, a5 = .slice fa ((ps.take 1).map (fun p => vnum (sg s) p.1)).length fc := ⟨_, rfl⟩
    rw [hc1, ← ha5] at hTO
    rw [← hc1] at hTO
    rw [← ha5]
    subst htvf
    clear hT htv hk2 htr hc1 hcl htd hfin HC HS HH ha5
    generalize hm : tr.length = m at *
    have HM := Lib.hid hm
    clear hm
    go_wp2_with fail
    go_loopg [5, 7, 23] m (fun mu ov _x i wr => ∃ j : Nat, j ≤ m ∧ mu = m - j ∧ i = .int .i64 j ∧ OrS w b s rt l R (.slice ta m tc) tr (c1 ++ (tr.take j).map (fun d => vnum (sg s) (mt d))) ov wr)
    case atStart => exact ⟨0, Nat.zero_le _, rfl, rfl, hTO⟩
    case round =>
      clear hTO
      obtain ⟨j, hj, hgk, rfl, hO⟩ := hrel
      have HG := Lib.hid hgk
      clear hgk
      by_cases hlt : j < m
      · obtain ⟨R', h1, h2, h3, h4, h5, h6, h7⟩ := id hO
        obtain ⟨d, hd⟩ : ∃ d, tr[j]? = some d := ⟨_, List.getElem?_eq_getElem (by rw [HM.out]; exact hlt)⟩
        obtain ⟨g, rfl⟩ := own_some h5 (by rw [nats_len, HM.out]; omega)
        obtain ⟨hc, _⟩ := h5.cell (nats_get hd)
        have hdl := HF2.out.1 d (List.mem_of_getElem? hd)
        have hml : mt d < s.length := mt_lt h1.even hdl
        have hMt := mapMate_in h1 d hdl
        have hV := mapVertex_in h1 (mt d) hml
        have hst : (tr.take (j + 1)).map (fun d => vnum (sg s) (mt d)) = (tr.take j).map (fun d => vnum (sg s) (mt d)) ++ [vnum (sg s) (mt d)] := by rw [take_get hd, List.map_append]; rfl
        obtain ⟨y, hy⟩ : ∃ y, y = vnum (sg s) (mt d) := ⟨_, rfl⟩
        rw [← hy] at hV hst
        have hln : (c1 ++ (tr.take j).map (fun d => vnum (sg s) (mt d))).length ≤ 1 + j := by
          rw [List.length_append, List.length_map, List.length_take]; have := HF2.out.2.1; omega
        have hmq : ∀ w', MapQ wr b s rt l R' w' → OrS w b s rt l R (.slice (some ⟨g, 0, none⟩) m tc) tr (c1 ++ (tr.take j).map (fun d => vnum (sg s) (mt d))) _ w' := fun w' hq => by
          have hsz := hq.2.size
          have hs0 := h7.size
          refine ⟨_, hq.1, fun x hx => ?_, h3.keeps hq.2 (fun k hk e => by have := (h3.lt k hk).1; omega), fun k hk hx => ?_, h5.keeps hq.2 (fun k hk e => by have := (h5.lt k hk).1; omega), fun k hk => ⟨fun hx => ?_, (h6 k hk).2⟩, h7.trans hq.2 (fun _ _ h => h)⟩
          · rcases hx with hx | hx
            · exact (h2 x hx).imp id (fun e => ⟨e.1, by omega⟩)
            · exact .inr ⟨by omega, hx.2⟩
          · rcases hx with hx | hx
            · exact h4 k hk hx
            · have := (h3.lt k hk).2; omega
          · rcases hx with hx | hx
            · exact (h6 k hk).1 hx
            · have := (h5.lt k hk).2; omega
        have HMQ := Lib.hid hmq
        obtain ⟨acc, hacc⟩ : ∃ acc, acc = c1 ++ (tr.take j).map (fun d => vnum (sg s) (mt d)) := ⟨_, rfl⟩
        rw [← hacc] at HMQ hln
        have HST : Hid (c1 ++ (tr.take (j + 1)).map (fun d => vnum (sg s) (mt d)) = acc ++ [y]) := Lib.hid (by rw [hst, hacc, List.append_assoc])
        obtain ⟨N, hN⟩ : ∃ N, N = acc.length := ⟨_, rfl⟩
        have hfo := h3.form
        rw [nats_len, ← hacc, ← hN] at hfo
        obtain ⟨fa, fc, rfl, _, _⟩ := hfo
        have HNN : Hid ((nats acc).length = N) := Lib.hid (by rw [nats_len, hN])
        have hnl : N ≤ 10000000000 := by omega
        have hsz0 := h7.size
        clear hO h1 h2 h3 h4 h5 h6 h7 hd hmq hst hy hacc hln hN hdl hml
        generalize mt d = md at *
        go_wp2_with fail
        refine hMt.mono ?_
        rintro e w' ⟨rfl, rfl⟩
        clear hMt
        go_wp2_with fail
        refine hV.mono ?_
        rintro e w4 ⟨rfl, hq⟩
        have hO4 := HMQ.out w4 hq
        obtain ⟨R4, _, _, hown4, _⟩ := id hO4
        have hsz4 : w.heap.size ≤ w4.heap.size := Nat.le_trans hsz0 hq.2.size
        have HO4 := Lib.hid hO4
        clear hV hq hO4
        go_wp2_with (at_builtin; go_loud (refine append1n N rfl _ _ rfl w.heap.size (.slice fa N fc) (nats acc) (y : Int) HNN w4.heap.size rfl rfl rfl hown4 hnl hsz4 ?_); intro g2 cap2 w5 hown5 hk5 hat hg)
        have hF := HO4.out.push hblt hk5 hat (N := N + 1) (x := y) (by rw [nats_snoc]; exact hown5)
        rw [← HST.out] at hF
        have HF := Lib.hid hF
        clear hown5 hk5 hat hg hown4 hF
        go_wp2
        go_roundg (m - (j + 1))
        case measure => rw [HG.out]; omega
        case rel => exact ⟨j + 1, by omega, rfl, by go_num, HF.out⟩
      · obtain rfl : j = m := by omega
        rw [List.take_of_length_le (by rw [HM.out]; exact Nat.le_refl _), ← HF2.out.2.2] at hO
        obtain ⟨R', h1, h2, h3, h4, h5, h6, h7⟩ := hO
        have hol : (ordL (sg s) ps).length ≤ 1000000 := by rw [HF2.out.2.2, List.length_append, List.length_map, HM.out]; have := HF2.out.2.1; omega
        have hD := orderDelete_any h3.sl hol
        have HF := Lib.hid (And.intro h3 (And.intro h1 (And.intro h2 (And.intro h4 h7))))
        clear h1 h2 h3 h4 h5 h6 h7 hol
        go_wp2_with fail
        refine hD.mono ?_
        rintro e w' ⟨rfl, rfl⟩
        clear hD
        go_wp2
        go_ret
        exact ⟨_, R', rfl, HF.out⟩

end Go.Proofs.YtipelclohcdkcaaGreat
