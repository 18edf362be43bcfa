/- The contracts of package euler: parts. -/
import Derived.Test.YtipelclohcdkcaaGreatEuler
import Derived.Test.YtipelclohcdkcaaGreatEulP2
import Derived.StillTailTactics
import Derived.BigRegion
namespace Go.Proofs.YtipelclohcdkcaaGreat
open Go.RowKit

theorem infoPartE : (Tryz.prog.info? 217).map (fun i => (i.zero, i.size, i.bytes)) = some (some (.agg #[.int .i64 0, .int .i64 0, .int .i64 0, .int .i64 0, .int .i64 0]), 5, 40) := by kernel_rfl

/-- 'append(l, p)', of parts. -/
theorem appendPE {ops : Array Oper} {rest : List Oper} {o : Oper} {a : Act} {Q : Exit → Act → World → Prop} {wr : World} (n : Nat) (hgd : o.guard = none) (s x : Operand)
    (ho : o.op = .call { callee := .builtin .append, args := #[s, x], argTypes := #[175, 175] }) (B : Nat) (v : Value) (ps : List (List Int)) (z0 z1 z2 z3 z4 : Int) (hn : Hid (ps.length = n)) (H : Nat) (hH : wr.heap.size = H) (hs : a.eval s = v) (hx : a.eval x = .slice (some ⟨H, 0, none⟩) 1 1)
    (hown : Own5 217 B wr v ps) (hlen : n ≤ 100000000) (hB : B ≤ wr.heap.size)
    (h : ∀ g cap w', Own5 217 B w' (.slice (some ⟨g, 0, none⟩) (n + 1) cap) (ps ++ [[z0, z1, z2, z3, z4]]) → Keeps (fun k => v.ownBlock = some k) wr w' → (v.ownBlock = some g ∨ wr.heap.size ≤ g) →
      wpList Tryz.prog ops Q rest (a.put o.dst (.slice (some ⟨g, 0, none⟩) (n + 1) cap)) w') :
    wpList Tryz.prog ops Q (o :: rest) a (wr.alloc (.cells #[.int .i64 z0, .int .i64 z1, .int .i64 z2, .int .i64 z3, .int .i64 z4] 217)) := by
  obtain ⟨i, hi, hz0, hz1, hz2⟩ := info_parts infoPartE
  have hn := hn.out
  subst hn
  subst hH
  refine wpList_append_lies _ hgd s x _ ho B 217 i _ 5 40 Tryz.underlying175 hi hz0 hz1 hz2 rfl (by decide) v ps.length _ hs (World.ownsRow.alloc hown.1 _) ⟨wr.heap.size, 0, none⟩ 1 1 [.int .i64 z0, .int .i64 z1, .int .i64 z2, .int .i64 z3, .int .i64 z4] hx rfl (cell_five_new _ _ _ _ _ _ _) ?_ (by decide) ?_ ?_ ?_ (wr.heap.size + 1) (by simp) ?_
  · intro u hu; simp at hu; rcases hu with rfl | rfl | rfl | rfl | rfl <;> rfl
  · unfold maxLen; omega
  · omega
  · simp; omega
  · intro g cap w1 hown1 hgrow hat _
    refine h g cap w1 ⟨?_, ?_⟩ (((Keeps.refl _ wr).alloc _).grown hgrow (fun k hk => .inl hk)) (hat.imp id (fun h => by omega))
    · rw [List.length_append, List.flatten_append]
      unfold ints at hown1 ⊢
      rw [List.map_append]
      exact hown1
    · intro p hp
      rcases List.mem_append.1 hp with hp | hp
      · exact hown.2 p hp
      · simp at hp; subst hp; rfl

/-- Parts that are counted, in memory, beside the map that is asked. -/
structure PS (w : World) (b : Nat) (s : List Nat) (root lone : Int) (R : Nat → Prop) (g : Nat) (ps : List (List Int)) (ov : Value) (wr : World) : Prop where
  mq : ∃ R', MapAt wr b s root lone R' ∧ (∀ x, R' x → R x ∨ (w.heap.size ≤ x ∧ x < wr.heap.size)) ∧ ¬ R' g ∧ ∀ k, ov.ownBlock = some k → ¬ R' k
  nm : OwnI w.heap.size wr (.slice (some ⟨g, 0, none⟩) s.length s.length) (nats (cnL s))
  ow : Own5 217 w.heap.size wr ov ps
  ne : ∀ k, ov.ownBlock = some k → k ≠ g
  bw : b < w.heap.size
  kee : Keeps (fun k => k = b) w wr

section
variable {w : World} {b : Nat} {s : List Nat} {root lone : Int} {R : Nat → Prop} {g : Nat} {ps : List (List Int)} {ov : Value} {wr : World} (h : PS w b s root lone R g ps ov wr)
include h

theorem PS.ask : ∃ R', MapAt wr b s root lone R' ∧ ∀ w2, MapQ wr b s root lone R' w2 → PS w b s root lone R g ps ov w2 := by
  obtain ⟨R', h1, h2, h3, h4⟩ := h.mq
  have hb := h.bw
  have hg := h.nm.lt g rfl
  refine ⟨R', h1, fun w2 hq => ⟨⟨grow R' wr w2, hq.1, fun x hx => ?_, fun hx => ?_, fun k hk hx => ?_⟩, h.nm.keeps hq.2 (fun q hq' e => by have := (h.nm.lt q hq').1; omega), h.ow.keeps hq.2 (fun q hq' e => by have := (h.ow.lt q hq').1; omega), h.ne, hb, h.kee.trans hq.2 (fun _ _ e => e)⟩⟩
  · have hs := h.kee.size
    have hs2 := hq.2.size
    rcases hx with hx | hx
    · rcases h2 x hx with e | e
      · exact .inl e
      · exact .inr ⟨e.1, by omega⟩
    · exact .inr ⟨by omega, hx.2⟩
  · rcases hx with hx | hx
    · exact h3 hx
    · omega
  · rcases hx with hx | hx
    · exact h4 k hk hx
    · have := (h.ow.lt k hk).2; omega

theorem PS.app {p : List Int} {g5 m cap : Nat} {w5 : World} (ho : Own5 217 w.heap.size w5 (.slice (some ⟨g5, 0, none⟩) m cap) (ps ++ [p])) (k : Keeps (fun q => ov.ownBlock = some q) wr w5) (hat : ov.ownBlock = some g5 ∨ wr.heap.size ≤ g5) :
    PS w b s root lone R g (ps ++ [p]) (.slice (some ⟨g5, 0, none⟩) m cap) w5 := by
  obtain ⟨R', h1, h2, h3, h4⟩ := h.mq
  have hb := h.bw
  have hg := h.nm.lt g rfl
  have hbo : ¬ ov.ownBlock = some b := fun e => by have := (h.ow.lt b e).1; omega
  refine ⟨⟨R', h1.keeps k hbo (fun x hx e => h4 x e hx), fun x hx => ?_, h3, fun q hq hx => ?_⟩, h.nm.keeps k (fun q hq e => h.ne q e (by simp only [Value.ownBlock, Option.some.injEq] at hq; exact hq.symm)), ho, fun q hq => ?_, hb, h.kee.trans k (fun x hx e => by have := (h.ow.lt x e).1; omega)⟩
  · have hs2 := k.size
    rcases h2 x hx with e | e
    · exact .inl e
    · exact .inr ⟨e.1, by omega⟩
  · simp only [Value.ownBlock, Option.some.injEq] at hq
    subst hq
    rcases hat with e | e
    · exact h4 _ e hx
    · have := h1.old _ hx; omega
  · simp only [Value.ownBlock, Option.some.injEq] at hq
    subst hq
    rcases hat with e | e
    · exact h.ne _ e
    · omega
end

theorem PS.set {w : World} {b : Nat} {s : List Nat} {root lone : Int} {R : Nat → Prop} {g : Nat} {ps : List (List Int)} {g5 m cap : Nat} {wr : World} (h : PS w b s root lone R g ps (.slice (some ⟨g5, 0, none⟩) m cap) wr) {j k : Nat} {p : List Int} (hp : ps[j]? = some p) (hk : k < 5) (z : Int) :
    PS w b s root lone R g (ps.set j (p.set k z)) (.slice (some ⟨g5, 0, none⟩) m cap) (wr.setCell ⟨g5, j * 5 + k, none⟩ (.int .i64 z)) := by
  obtain ⟨R', h1, h2, h3, h4⟩ := h.mq
  have hb := h.bw
  have hg5 := h.ow.lt g5 rfl
  have kk := (Keeps.refl (fun q => q = g5) wr).setCell (p := ⟨g5, j * 5 + k, none⟩) (.inl rfl) (.int .i64 z)
  refine ⟨⟨R', h1.keeps kk (fun e => by omega) (fun x hx e => h4 g5 rfl (e ▸ hx)), fun x hx => ?_, h3, h4⟩, h.nm.keeps kk (fun q hq e => h.ne g5 rfl (by simp only [Value.ownBlock, Option.some.injEq] at hq; omega)), h.ow.set hp hk z, h.ne, hb, h.kee.trans kk (fun x hx e => by omega)⟩
  have hs2 := kk.size
  rcases h2 x hx with e | e
  · exact .inl e
  · exact .inr ⟨e.1, by omega⟩

theorem PS.drewN {w : World} {b : Nat} {s : List Nat} {root lone : Int} {R : Nat → Prop} {g : Nat} {ps : List (List Int)} {ov : Value} {wr : World} (h : PS w b s root lone R g ps ov wr) (n : Nat) : PS w b s root lone R g ps ov (wr.drewN n) := by
  obtain ⟨R', h1, h2, h3, h4⟩ := h.mq
  have kk := (Keeps.refl (fun _ => False) wr).drewN n
  exact ⟨⟨R', h1.keeps kk (fun h => h) (fun _ _ h => h), h2, h3, h4⟩, h.nm.keeps kk (fun _ _ h => h), h.ow.keeps kk (fun _ _ h => h), h.ne, h.bw, h.kee.drewN n⟩

theorem set_same {α : Type} {l : List α} {j : Nat} {x : α} (h : l[j]? = some x) : l.set j x = l := by
  apply List.ext_getElem?
  intro i
  rw [List.getElem?_set]
  by_cases e : j = i
  · subst e; rw [if_pos rfl, if_pos (lt_of_get h), h]
  · rw [if_neg e]

theorem vnum_leader {n : Nat} {S : Nat → Nat} (h : IsP n S) {d : Nat} (hd : d < n) : vnum S d = ldr S d ↔ rep S d = d := by
  have hle := h.rep_self_le hd
  constructor
  · intro hc
    rcases Nat.lt_or_ge (rep S d) d with hlt | hge
    · have h1 := ldr_succ S (rep S d)
      rw [if_pos (h.rep_rep hd)] at h1
      have h2 := ldr_mono S (show rep S d + 1 ≤ d from hlt)
      unfold vnum at hc
      omega
    · omega
  · intro hc
    unfold vnum; rw [hc]

/-- The rows, the genus of the first j reckoned. -/
noncomputable def rowsG (s : List Nat) (j : Nat) : List (List Int) := (partsL s s.length).take j ++ (rowsM s (cldr s.length (sg s) s.length) s.length).drop j

theorem rowsG_length (s : List Nat) (j : Nat) : (rowsG s j).length = cldr s.length (sg s) s.length := by
  unfold rowsG
  rw [List.length_append, List.length_take, List.length_drop, rowsM_length, partsL_length]; omega

theorem rowsG_get {s : List Nat} {j : Nat} (hj : j < cldr s.length (sg s) s.length) : (rowsG s j)[j]? = some (rowJ s s.length j) := by
  unfold rowsG
  rw [List.getElem?_append_right (by rw [List.length_take, partsL_length]; omega), List.length_take, partsL_length, Nat.min_eq_left (by omega), Nat.sub_self, List.getElem?_drop, Nat.add_zero, rowsM_get hj]

theorem rowsG_step {s : List Nat} {j : Nat} {p : List Int} (hj : j < cldr s.length (sg s) s.length) (hp : (partsL s s.length)[j]? = some p) : (rowsG s j).set j p = rowsG s (j + 1) := by
  apply List.ext_getElem?
  intro i
  rw [List.getElem?_set, rowsG_length]
  have hl := partsL_length s s.length
  unfold rowsG
  by_cases e : j = i
  · subst e
    rw [if_pos rfl, if_pos hj, List.getElem?_append_left (by rw [List.length_take]; omega), List.getElem?_take, if_pos (by omega), hp]
  · rw [if_neg e]
    rcases Nat.lt_or_ge i j with h1 | h1
    · rw [List.getElem?_append_left (by rw [List.length_take]; omega), List.getElem?_append_left (by rw [List.length_take]; omega), List.getElem?_take, List.getElem?_take, if_pos h1, if_pos (by omega)]
    · rw [List.getElem?_append_right (by rw [List.length_take]; omega), List.getElem?_append_right (by rw [List.length_take]; omega), List.length_take, List.length_take, hl, Nat.min_eq_left (by omega), Nat.min_eq_left (by omega), List.getElem?_drop, List.getElem?_drop]
      congr 1; omega

theorem rowsG_all (s : List Nat) : rowsG s (cldr s.length (sg s) s.length) = partsL s s.length := by
  unfold rowsG
  rw [List.take_of_length_le (by rw [partsL_length]; exact Nat.le_refl _), List.drop_of_length_le (by rw [rowsM_length]; exact Nat.le_refl _), List.append_nil]

set_option maxRecDepth 100000 in
set_option maxHeartbeats 8000000 in
theorem eulerParts_any {w : World} {b : Nat} {s : List Nat} {root : Int} {l : Nat} {R : Nat → Prop} (h : MapAt w b s root l R) :
    Calls Tryz.prog 147 #[.pointer (some ⟨b, 0, none⟩)] w fun e w' => ∃ ov, e = .returned ov ∧ Own5 217 w.heap.size w' ov (partsA s l) ∧ MapQ w b s root l R w' := by
  have hN := eulerNames_any h
  have hle := h.le
  have hln := h.ln
  have HP := Lib.hid (And.intro h.isP (And.intro h.even (phi_isP h.isP h.even)))
  have HH := Lib.hid h
  clear h
  go_enter Tryz.func147, Tryz.ntmps147
  go_wp2_with fail
  refine hN.mono ?_
  rintro e w1 ⟨g, rfl, hM⟩
  clear hN
  have h0 : PS w b s root l R g (rowsM s (cldr s.length (sg s) 0) 0) (.slice none 0 0) w1 := by
    obtain ⟨zs, h1, h2, h3, h4⟩ := hM
    subst h2
    have hs := h4.size
    refine ⟨⟨R, HH.out.keeps h4 (fun h => h) (fun _ _ h => h), fun x hx => .inl hx, fun hx => by have := HH.out.old g hx; have := (h3.lt g rfl).1; omega, fun k hk => by simp [Value.ownBlock] at hk⟩, h3, Own5.nil _ _ _, fun k hk => by simp [Value.ownBlock] at hk, HH.out.lt, h4.mono (fun _ _ h => h.elim)⟩
  clear hM
  go_wp2_with fail
  go_loopg [3, 4, 5, 14] s.length (fun m ov c1 c2 i wr => ∃ d : Nat, d ≤ s.length ∧ m = s.length - d ∧ i = .int .i64 d ∧ c1 = .int .i64 (ldr (sg s) d : Nat) ∧ c2 = .int .i64 (ldr (sg (phiL s)) d : Nat) ∧ PS w b s root l R g (rowsM s (cldr s.length (sg s) d) d) ov wr)
  case atStart => exact ⟨0, Nat.zero_le _, rfl, rfl, rfl, rfl, h0⟩
  case round =>
    clear h0
    obtain ⟨d, hd, hgk, rfl, rfl, rfl, hT⟩ := hrel
    have HG := Lib.hid hgk
    clear hgk
    by_cases hlt : d < s.length
    · have hl1 := ldr_le (sg s) d
      have hl2 := ldr_le (sg (phiL s)) d
      have hl3 := cldr_le s.length (sg s) d
      have hl4 := cldr_le s.length (sg s) (d + 1)
      have hls := cldr_succ s.length (sg s) d
      obtain ⟨oa, oc, rfl⟩ := hT.ow.form
      rw [rowsM_length] at hT ⊢
      have hnc := (hT.nm.cell (show (nats (cnL s))[d]? = some ((cnum s.length (sg s) d : Nat) : Int) from nats_get (by simp [cnL, hlt]))).1
      obtain ⟨k, hk⟩ : ∃ k, k = cnum s.length (sg s) d := ⟨_, rfl⟩
      obtain ⟨M, hM⟩ : ∃ M, M = cldr s.length (sg s) d := ⟨_, rfl⟩
      rw [← hk] at hnc
      rw [← hM] at hT hl3 hls ⊢
      obtain ⟨A1, hA1⟩ : ∃ A1, A1 = ldr (sg s) d := ⟨_, rfl⟩
      obtain ⟨A2, hA2⟩ : ∃ A2, A2 = ldr (sg (phiL s)) d := ⟨_, rfl⟩
      rw [← hA1] at hl1 ⊢
      rw [← hA2] at hl2 ⊢
      have HA12 := Lib.hid (And.intro hA1 hA2)
      clear hA1 hA2
      have hkM : (k = M ↔ crep s.length (sg s) d = d) := by rw [hk, hM]; exact HP.out.1.cnum_new HP.out.2.1 hlt
      have HK := Lib.hid (And.intro hk (And.intro hM hkM))
      have HT := Lib.hid hT
      clear hT hk hkM hM
      go_upto_if 22 with fail
      generalize htb : ((k : Int) == (M : Int)) = tb
      have HTB := Lib.hid htb
      clear htb
      go_cut [3] from 23 to 27 (fun ov wx => PS w b s root l R g (rowsM s (cldr s.length (sg s) (d + 1)) d) ov wx)
      case first =>
        by_cases hkm : k = M
        · have hcr := HK.out.2.2.1 hkm
          have hrn := rows_new HP.out.1 HP.out.2.1 hlt hcr
          have hlen : Hid ((rowsM s M d).length = M) := Lib.hid (rowsM_length _ _ _)
          have hown := HT.out.ow
          have hsz := HT.out.kee.size
          have hMl : M ≤ 100000000 := by omega
          have happ := fun (w5 : World) g5 cap => HT.out.app (p := [(d : Int), 0, 0, 0, 0]) (g5 := g5) (m := M + 1) (cap := cap) (w5 := w5)
          rw [← HK.out.2.1] at hrn
          have HA := Lib.hid (And.intro happ hrn)
          have HKM := Lib.hid hkm
          obtain rfl : tb = true := by rw [← HTB.out, beq_iff_eq]; omega
          clear happ hrn hcr hkm
          go_wp2_with (at_builtin; refine appendPE M rfl _ _ rfl w.heap.size (.slice oa M oc) (rowsM s M d) (d : Int) 0 0 0 0 hlen wr.heap.size rfl rfl rfl hown hMl hsz ?_; intro g5 cap5 w5 hown5 hk5 hat5; have HT5 := Lib.hid (HA.out.1 w5 g5 cap5 hown5 hk5 hat5); clear hown5 hk5 hat5)
          go_meet
          rw [← HA.out.2]
          exact HT5.out
        · have hcr : ¬ crep s.length (sg s) d = d := fun e => hkm (HK.out.2.2.2 e)
          rw [if_neg hcr] at hls
          obtain rfl : tb = false := by rw [← HTB.out, beq_eq_false_iff_ne]; omega
          have HF := Lib.hid (show PS w b s root l R g (rowsM s (cldr s.length (sg s) (d + 1)) d) (.slice oa M oc) wr by rw [hls]; exact HT.out)
          clear hcr hkm hls
          go_wp2
          go_meet
          exact HF.out
      case rest =>
        rename_i ov wx
        have hT2 := hcut
        clear hcut HT HTB hls
        obtain ⟨M2, hM2⟩ : ∃ M2, M2 = cldr s.length (sg s) (d + 1) := ⟨_, rfl⟩
        have hkM2 : k < M2 := by
          have h5 := cldr_succ s.length (sg s) (crep s.length (sg s) d)
          rw [if_pos (HP.out.1.crep_crep HP.out.2.1 hlt)] at h5
          have h6 := cldr_mono s.length (sg s) (show crep s.length (sg s) d + 1 ≤ d + 1 by have := crep_le (Conn.refl s.length (sg s) d); omega)
          rw [HK.out.1, hM2]; unfold cnum; omega
        rw [← hM2] at hT2 hl4
        have HM2 := Lib.hid hM2
        clear hM2
        obtain ⟨g5, c5, rfl, hcell⟩ := hT2.ow.cell (rowsM_get (s := s) (d := d) hkM2)
        rw [rowsM_length] at *
        obtain ⟨v, hv⟩ : ∃ v, v = ofN s (cnL s) k d := ⟨_, rfl⟩
        obtain ⟨e, hev⟩ : ∃ e, e = oddN (cnL s) k d := ⟨_, rfl⟩
        obtain ⟨q, hq⟩ : ∃ q, q = ofN (phiL s) (cnL s) k d := ⟨_, rfl⟩
        obtain ⟨r0, hr0⟩ : ∃ r0, r0 = rootP s k := ⟨_, rfl⟩
        have hrow : (rowsM s M2 d)[k]? = some [(r0 : Int), v, e, q, 0] := by rw [rowsM_get hkM2, hv, hev, hq, hr0]; rfl
        have hvb : v ≤ 131072 := by have := ofN_le s (cnL s) k d; omega
        have heb : e ≤ 131072 := by have := oddN_le (cnL s) k d; omega
        have hqb : q ≤ 131072 := by have := ofN_le (phiL s) (cnL s) k d; omega
        have HV := Lib.hid (And.intro hv (And.intro hev (And.intro hq (And.intro hr0 hrow))))
        obtain ⟨R', hMA, hask⟩ := hT2.ask
        have hVt := mapVertex_in hMA d hlt
        have HASK := Lib.hid hask
        clear hv hev hq hr0 hrow hcell hT2 hMA hask
        go_wp2_with fail
        refine hVt.mono ?_
        rintro en w2 ⟨rfl, hq2⟩
        have HT2 := Lib.hid (HASK.out w2 hq2)
        clear hVt HASK hq2
        have hvl := vnum_leader HP.out.1 hlt
        rw [← HA12.out.1] at hvl
        obtain ⟨x1, hx1⟩ : ∃ x1, x1 = vnum (sg s) d := ⟨_, rfl⟩
        have hx1l := HP.out.1.vnum_lt hlt
        have hx1n := ldr_le (sg s) s.length
        rw [← hx1] at hvl hx1l ⊢
        have HVL := Lib.hid hvl
        clear hvl hx1
        go_upto_if 35 with fail
        generalize htb : ((x1 : Int) == (A1 : Int)) = tb2
        have HTB2 := Lib.hid htb
        clear htb
        go_cut [4] from 36 to 44 (fun c1 wy => c1 = .int .i64 (ldr (sg s) (d + 1) : Nat) ∧ PS w b s root l R g ((rowsM s M2 d).set k [(r0 : Int), ((v + if rep (sg s) d = d then 1 else 0 : Nat) : Int), e, q, 0]) (.slice (some ⟨g5, 0, none⟩) M2 c5) wy)
        case first =>
          have hls := ldr_succ (sg s) d
          by_cases hr : rep (sg s) d = d
          · obtain rfl : tb2 = true := by rw [← HTB2.out, beq_iff_eq]; have := HVL.out.2 hr; omega
            rw [if_pos hr] at hls
            have HRL := Lib.hid (And.intro hr hls)
            obtain ⟨g6, c6, hv6, hcell⟩ := HT2.out.ow.cell HV.out.2.2.2.2
            rw [rowsM_length] at hv6
            simp only [Value.slice.injEq, Option.some.injEq, Addr.mk.injEq, and_true, true_and] at hv6
            obtain ⟨rfl, rfl⟩ := hv6
            have k1 := hcell 1 (v : Int) rfl
            have f1 := HT2.out.ow.free (k * 5 + 1)
            have hset := HT2.out.set HV.out.2.2.2.2 (k := 1) (by omega) ((v : Int) + 1)
            have HF := Lib.hid hset
            clear hset hcell hr hls
            go_wp2
            go_meet
            exact ⟨by rw [HRL.out.2, ← HA12.out.1]; go_num, by rw [if_pos HRL.out.1]; exact HF.out⟩
          · obtain rfl : tb2 = false := by rw [← HTB2.out, beq_eq_false_iff_ne]; have := HVL.out; intro hh; exact hr (this.1 (by omega))
            rw [if_neg hr] at hls
            have HRL := Lib.hid (And.intro hr hls)
            have HF := Lib.hid (show PS w b s root l R g ((rowsM s M2 d).set k [(r0 : Int), ((v + 0 : Nat) : Int), e, q, 0]) (.slice (some ⟨g5, 0, none⟩) M2 c5) w2 by
              rw [show (rowsM s M2 d).set k [(r0 : Int), ((v + 0 : Nat) : Int), e, q, 0] = rowsM s M2 d from set_same HV.out.2.2.2.2]
              exact HT2.out)
            clear hr hls
            go_wp2
            go_meet
            exact ⟨by rw [HRL.out.2, Nat.add_zero, ← HA12.out.1], by rw [if_neg HRL.out.1]; exact HF.out⟩
        case rest =>
          rename_i c1 wy
          obtain ⟨rfl, hT3⟩ := hcut
          clear HTB2 HT2 HVL hx1l hx1n
          obtain ⟨v1, hv1⟩ : ∃ v1, v1 = v + if rep (sg s) d = d then 1 else 0 := ⟨_, rfl⟩
          have hv1b : v1 ≤ 131073 := by rw [hv1]; split <;> omega
          rw [← hv1] at hT3
          have hrow1 : ((rowsM s M2 d).set k [(r0 : Int), (v1 : Int), e, q, 0])[k]? = some [(r0 : Int), (v1 : Int), e, q, 0] := by rw [List.getElem?_set, if_pos rfl, if_pos (by rw [rowsM_length]; exact hkM2)]
          have HV1 := Lib.hid (And.intro hv1 hrow1)
          obtain ⟨R2, hMA, hask⟩ := hT3.ask
          have hVt := mapFace_in hMA d hlt
          have HASK := Lib.hid hask
          clear hv1 hrow1 hT3 hMA hask
          obtain ⟨B1, hB1⟩ : ∃ B1, B1 = ldr (sg s) (d + 1) := ⟨_, rfl⟩
          have hB1l := ldr_le (sg s) (d + 1)
          rw [← hB1] at hB1l ⊢
          have HB1 := Lib.hid hB1
          clear hB1
          go_wp2_with fail
          refine hVt.mono ?_
          rintro en w3 ⟨rfl, hq2⟩
          have HT3 := Lib.hid (HASK.out w3 hq2)
          clear hVt HASK hq2
          have hlt2 : d < (phiL s).length := by rw [phiL_length]; exact hlt
          have hvl := vnum_leader HP.out.2.2 hlt2
          rw [← HA12.out.2] at hvl
          obtain ⟨x1, hx1⟩ : ∃ x1, x1 = vnum (sg (phiL s)) d := ⟨_, rfl⟩
          have hx1l := HP.out.2.2.vnum_lt hlt2
          have hx1n := ldr_le (sg (phiL s)) (phiL s).length
          rw [phiL_length] at hx1n hx1l
          rw [← hx1] at hvl hx1l ⊢
          have HVL := Lib.hid hvl
          clear hvl hx1
          go_upto_if 49 with fail
          generalize htb : ((x1 : Int) == (A2 : Int)) = tb3
          have HTB3 := Lib.hid htb
          clear htb
          go_cut [5] from 50 to 58 (fun c1 wy => c1 = .int .i64 (ldr (sg (phiL s)) (d + 1) : Nat) ∧ PS w b s root l R g ((rowsM s M2 d).set k [(r0 : Int), (v1 : Int), e, ((q + if rep (sg (phiL s)) d = d then 1 else 0 : Nat) : Int), 0]) (.slice (some ⟨g5, 0, none⟩) M2 c5) wy)
          case first =>
            have hls := ldr_succ (sg (phiL s)) d
            by_cases hr : rep (sg (phiL s)) d = d
            · obtain rfl : tb3 = true := by rw [← HTB3.out, beq_iff_eq]; have := HVL.out.2 hr; omega
              rw [if_pos hr] at hls
              have HRL := Lib.hid (And.intro hr hls)
              obtain ⟨g6, c6, hv6, hcell⟩ := HT3.out.ow.cell HV1.out.2
              rw [List.length_set, rowsM_length] at hv6
              simp only [Value.slice.injEq, Option.some.injEq, Addr.mk.injEq, and_true, true_and] at hv6
              obtain ⟨rfl, rfl⟩ := hv6
              have k1 := hcell 3 (q : Int) rfl
              have f1 := HT3.out.ow.free (k * 5 + 3)
              have hset := HT3.out.set HV1.out.2 (k := 3) (by omega) ((q : Int) + 1)
              rw [List.set_set] at hset
              have HF := Lib.hid hset
              clear hset hcell hr hls
              go_wp2
              go_meet
              exact ⟨by rw [HRL.out.2, ← HA12.out.2]; go_num, by rw [if_pos HRL.out.1]; exact HF.out⟩
            · obtain rfl : tb3 = false := by rw [← HTB3.out, beq_eq_false_iff_ne]; have := HVL.out; intro hh; exact hr (this.1 (by omega))
              rw [if_neg hr] at hls
              have HRL := Lib.hid (And.intro hr hls)
              clear hr hls
              go_wp2
              go_meet
              exact ⟨by rw [HRL.out.2, Nat.add_zero, ← HA12.out.2], by rw [if_neg HRL.out.1]; exact HT3.out⟩
          case rest =>
            rename_i c2 wz
            obtain ⟨rfl, hT4⟩ := hcut
            clear HTB3 HT3 HVL hx1l hx1n
            obtain ⟨q1, hq1⟩ : ∃ q1, q1 = q + if rep (sg (phiL s)) d = d then 1 else 0 := ⟨_, rfl⟩
            have hq1b : q1 ≤ 131073 := by rw [hq1]; split <;> omega
            rw [← hq1] at hT4
            have hrow2 : ((rowsM s M2 d).set k [(r0 : Int), (v1 : Int), e, q1, 0])[k]? = some [(r0 : Int), (v1 : Int), e, q1, 0] := by rw [List.getElem?_set, if_pos rfl, if_pos (by rw [rowsM_length]; exact hkM2)]
            obtain ⟨g6, c6, hv6, hcell⟩ := hT4.ow.cell hrow2
            rw [List.length_set, rowsM_length] at hv6
            simp only [Value.slice.injEq, Option.some.injEq, Addr.mk.injEq, and_true, true_and] at hv6
            obtain ⟨rfl, rfl⟩ := hv6
            have k1 := hcell 2 (e : Int) rfl
            have f1 := hT4.ow.free (k * 5 + 2)
            obtain ⟨o, ho⟩ : ∃ o, o = d % 2 := ⟨_, rfl⟩
            have ho2 : o < 2 := by omega
            have om1 : (d : Int).tmod 2 = (o : Int) := by rw [ho, Int.tmod_eq_emod_of_nonneg (by omega)]; simp
            have om2 : (d : Int) % 2 = (o : Int) := by rw [ho]; simp
            have hset := hT4.set hrow2 (k := 2) (by omega) ((e : Int) + o)
            rw [List.set_set] at hset
            have hstep := rows_step (s := s) (m := M2) hlt (by rw [← HK.out.1]; exact hkM2)
            rw [← HK.out.1, ← HV.out.1, ← HV.out.2.1, ← HV.out.2.2.1, ← HV.out.2.2.2.1, ← HV1.out.1, ← hq1, ← ho] at hstep
            have hm2 : rowsM s M2 (d + 1) = rowsM s (cldr s.length (sg s) (d + 1)) (d + 1) := by rw [HM2.out]
            have e9 : ([(r0 : Int), (v1 : Int), (e : Int), (q1 : Int), 0].set 2 ((e : Int) + o)) = [(r0 : Int), (v1 : Int), ((e + o : Nat) : Int), (q1 : Int), 0] := by simp
            rw [e9, ← hstep, hm2] at hset
            clear e9
            have hfin := hset
            have HF := Lib.hid hfin
            obtain ⟨B2, hB2⟩ : ∃ B2, B2 = ldr (sg (phiL s)) (d + 1) := ⟨_, rfl⟩
            rw [← hB2]
            have HB2 := Lib.hid hB2
            clear hfin hm2 hset hstep hrow2 hcell hT4 hq1 hB2 ho
            go_wp2
            go_roundg (s.length - (d + 1))
            case measure => rw [HG.out]; omega
            case rel => exact ⟨d + 1, by omega, rfl, by go_num, by rw [HB1.out], by rw [HB2.out], HF.out⟩
    · obtain rfl : d = s.length := by omega
      have hcl := cldr_le s.length (sg s) s.length
      have e0 : rowsM s (cldr s.length (sg s) s.length) s.length = rowsG s 0 := by unfold rowsG; simp
      have h1 := hT
      rw [e0] at h1
      clear e0
      obtain ⟨oa, oc, rfl⟩ := h1.ow.form
      rw [rowsG_length] at h1 ⊢
      have HLL := Lib.hid (And.intro hle hln)
      clear hT HG
      obtain ⟨L, hL⟩ : ∃ L, L = cldr s.length (sg s) s.length := ⟨_, rfl⟩
      rw [← hL] at h1 hcl ⊢
      have HL := Lib.hid hL
      clear hL
      obtain ⟨A1, hA1⟩ : ∃ A1, A1 = ldr (sg s) s.length := ⟨_, rfl⟩
      obtain ⟨A2, hA2⟩ : ∃ A2, A2 = ldr (sg (phiL s)) s.length := ⟨_, rfl⟩
      rw [← hA1, ← hA2]
      clear hA1 hA2
      go_wp2_with fail
      go_loopg [71] L (fun m i wr => ∃ j : Nat, j ≤ L ∧ m = L - j ∧ i = .int .i64 j ∧ PS w b s root l R g (rowsG s j) (.slice oa L oc) wr)
      case atStart => exact ⟨0, Nat.zero_le _, rfl, rfl, h1⟩
      case round =>
        clear h1
        obtain ⟨j, hj, hgk, rfl, hT⟩ := hrel
        have HG := Lib.hid hgk
        clear hgk
        by_cases hjl : j < L
        · have hjc : j < cldr s.length (sg s) s.length := by rw [← HL.out]; exact hjl
          obtain ⟨g5, c5, hv5, hcell⟩ := hT.ow.cell (rowsG_get hjc)
          simp only [Value.slice.injEq] at hv5
          obtain ⟨rfl, e5, rfl⟩ := hv5
          clear e5
          obtain ⟨gn, hp, hgn⟩ := rows_end HP.out.1 HP.out.2.1 hjc
          have hstep := rowsG_step hjc hp
          have hset := hT.set (rowsG_get hjc) (k := 4) (by omega) gn
          rw [hstep] at hset
          obtain ⟨v, hv⟩ : ∃ v, v = ofN s (cnL s) j s.length := ⟨_, rfl⟩
          obtain ⟨e, hev⟩ : ∃ e, e = oddN (cnL s) j s.length := ⟨_, rfl⟩
          obtain ⟨q, hq⟩ : ∃ q, q = ofN (phiL s) (cnL s) j s.length := ⟨_, rfl⟩
          have hvb : v ≤ 131072 := by have := ofN_le s (cnL s) j s.length; omega
          have heb : e ≤ 131072 := by have := oddN_le (cnL s) j s.length; omega
          have hqb : q ≤ 131072 := by have := ofN_le (phiL s) (cnL s) j s.length; omega
          rw [← hv, ← hev, ← hq] at hgn
          have k1 : wr.cell? ⟨g5, j * 5 + 1, none⟩ = some (.int .i64 v) := by rw [hv]; exact hcell 1 _ rfl
          have k2 : wr.cell? ⟨g5, j * 5 + 2, none⟩ = some (.int .i64 e) := by rw [hev]; exact hcell 2 _ rfl
          have k3 : wr.cell? ⟨g5, j * 5 + 3, none⟩ = some (.int .i64 q) := by rw [hq]; exact hcell 3 _ rfl
          have k4 : wr.cell? ⟨g5, j * 5 + 4, none⟩ = some (.int .i64 0) := hcell 4 _ rfl
          have f4 := hT.ow.free (j * 5 + 4)
          have HF := Lib.hid hset
          clear hset hstep hp hcell hT hv hev hq
          go_wp2_with fail
          have s1 : IntKind.i64.wrap (2 - (v : Int)) = 2 - (v : Int) := IntWalk.i64_in _ (by omega)
          have s2 : IntKind.i64.wrap (2 - (v : Int) + (e : Int)) = 2 - (v : Int) + (e : Int) := IntWalk.i64_in _ (by omega)
          have s3 : IntKind.i64.wrap (2 - (v : Int) + (e : Int) - (q : Int)) = 2 - (v : Int) + (e : Int) - (q : Int) := IntWalk.i64_in _ (by omega)
          have HGN := Lib.hid hgn
          clear hgn
          go_still_tail 19, (by kernel_rfl)
          change wpList _ _ _ _ _ wr.drew
          go_wp2
          go_roundg (L - (j + 1))
          case measure => rw [HG.out]; omega
          case rel => exact ⟨j + 1, by omega, rfl, by go_num, by have := HF.out.drewN 1; rw [HGN.out] at this; exact this⟩
        · obtain rfl : j = L := by omega
          have e1 : rowsG s j = partsL s s.length := by
            have := HL.out
            subst this
            exact rowsG_all s
          rw [e1] at hT
          have h2 : PS w b s root l R g (partsL s s.length ++ List.replicate 0 [-1, 1, 0, 1, 0]) (.slice oa j oc) wr := by simpa using hT
          have hlon : ∀ W, Keeps (fun k => k = b) w W → True := fun _ _ => trivial
          obtain ⟨R', hMA, _⟩ := hT.ask
          have hLo := mapLone_any hMA
          clear hT e1 hlon hMA HG hjl hj
          go_wp2_with (go_at_call 70; refine hLo.mono ?_; rintro e w' ⟨rfl, rfl⟩)
          clear hLo
          have hjL := Lib.hid (show (partsL s s.length).length = j by rw [partsL_length]; exact HL.out.symm)
          go_loopg [3, 99] l (fun m ov i wr => ∃ q : Nat, q ≤ l ∧ m = l - q ∧ i = .int .i64 q ∧ PS w b s root l R g (partsL s s.length ++ List.replicate q [-1, 1, 0, 1, 0]) ov wr)
          case atStart => exact ⟨0, Nat.zero_le _, rfl, rfl, h2⟩
          case round =>
            clear h2
            obtain ⟨q, hq, hgk, rfl, hT⟩ := hrel
            have HG := Lib.hid hgk
            clear hgk
            obtain ⟨oa, oc, rfl⟩ := hT.ow.form
            have hlen : (partsL s s.length ++ List.replicate q [(-1 : Int), 1, 0, 1, 0]).length = j + q := by rw [List.length_append, hjL.out, List.length_replicate]
            rw [hlen] at hT ⊢
            by_cases hql : q < l
            · have hown := hT.ow
              have hsz := hT.kee.size
              have happ := fun (w5 : World) g5 cap => hT.app (p := [(-1 : Int), 1, 0, 1, 0]) (g5 := g5) (m := j + q + 1) (cap := cap) (w5 := w5)
              have HLN : Hid ((partsL s s.length ++ List.replicate q [(-1 : Int), 1, 0, 1, 0]).length = j + q) := Lib.hid hlen
              have hMl : j + q ≤ 100000000 := by omega
              have hrep : (partsL s s.length ++ List.replicate q [(-1 : Int), 1, 0, 1, 0]) ++ [[(-1 : Int), 1, 0, 1, 0]] = partsL s s.length ++ List.replicate (q + 1) [(-1 : Int), 1, 0, 1, 0] := by rw [List.append_assoc, ← List.replicate_succ']
              have HA := Lib.hid (And.intro happ hrep)
              obtain ⟨J, hJ⟩ : ∃ J, J = j + q := ⟨_, rfl⟩
              rw [← hJ] at hown hMl HLN HA ⊢
              clear happ hrep hT hlen hJ
              go_wp2_with (at_builtin; refine appendPE J rfl _ _ rfl w.heap.size (.slice oa J oc) (partsL s s.length ++ List.replicate q [(-1 : Int), 1, 0, 1, 0]) (-1) 1 0 1 0 HLN wr.heap.size rfl rfl rfl hown hMl hsz ?_; intro g5 cap5 w5 hown5 hk5 hat5; have HT5 := Lib.hid (HA.out.1 w5 g5 cap5 hown5 hk5 hat5); clear hown5 hk5 hat5)
              go_roundg (l - (q + 1))
              case measure => rw [HG.out]; omega
              case rel => exact ⟨q + 1, by omega, rfl, by go_num, by rw [← HA.out.2]; exact HT5.out⟩
            · obtain rfl : q = l := by omega
              obtain ⟨R2, h1, h2, h3, h4⟩ := hT.mq
              have hkee := hT.kee
              have hold := HH.out.old
              have hmq : MapQ w b s root q R wr := by
                refine ⟨h1.mono (fun x hx => ?_) (fun x hx => ?_) (fun hx => ?_), hkee⟩
                · rcases h2 x hx with e | e
                  · exact .inl e
                  · exact .inr e
                · have := hkee.size
                  rcases hx with e | e
                  · have := hold x e; omega
                  · exact e.2
                · have := HH.out.lt
                  rcases hx with e | e
                  · exact HH.out.notb e
                  · omega
              have HF := Lib.hid (And.intro hT.ow hmq)
              clear hT h1 h2 h3 h4 hkee hold hmq hlen
              go_wp2
              go_ret
              exact ⟨_, rfl, HF.out⟩

end Go.Proofs.YtipelclohcdkcaaGreat
