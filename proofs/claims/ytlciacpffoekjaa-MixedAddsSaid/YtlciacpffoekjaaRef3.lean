/- Joined texts: Ref03, Mates, Law03a. -/
import Derived.Test.YtlciacpffoekjaaRanks
import Derived.Test.YtlciacpffoekjaaParens

/- The references of layer 3: Good, Excess, Any. -/
namespace Go.Proofs.Ytlciacpffoekjaa
open Go.RowKit

theorem ex_snoc (l : List Bool) (b : Bool) : ex (l ++ [b]) (l.length + 1) = ex l l.length + if b then 1 else -1 := by
  rw [ex_append_add]
  cases b <;> rfl

theorem bitsOf_getD {zs : List Int} (h : ∀ z ∈ zs, z = 0 ∨ z = 1) {k : Nat} {z : Int} (hz : zs[k]? = some z) : (bitsOf zs).getD k false = (z == 1) := by
  have h1 := bit_back h hz
  have h2 := h z (List.mem_of_getElem? hz)
  cases hb : (bitsOf zs).getD k false <;> rw [hb] at h1 <;> simp at h1 <;> subst h1 <;> rfl

set_option maxRecDepth 100000 in
set_option maxHeartbeats 1000000 in
theorem refGood_any (sv : Value) (zs : List Int) (w : World) (hs : Sl .i64 w sv zs) (h01 : ∀ z ∈ zs, z = 0 ∨ z = 1) (hl : zs.length ≤ 100000000) :
    Calls Try.prog 37 #[sv] w fun e w' => SaysBal (bitsOf zs) e ∧ w = w' := by
  obtain ⟨a, cap, rfl, hnc, hcm, _, hc⟩ := hs
  have hbl := bitsOf_length zs
  go_enter Try.func37, Try.ntmps37
  go_wp2_with fail
  go_loop [3, 8] (fun n i => ∃ k : Nat, k ≤ zs.length ∧ i = .int .i64 k ∧ n = .int .i64 (ex (bitsOf zs) k) ∧ ∀ p, p ≤ k → 0 ≤ ex (bitsOf zs) p) (fun _ i => zs.length - (intOf i).toNat)
  case atStart =>
    refine ⟨0, Nat.zero_le _, rfl, by rw [ex_zero], fun p hp => ?_⟩
    obtain rfl : p = 0 := by omega
    rw [ex_zero]; omega
  case round =>
    obtain ⟨k, hk, rfl, rfl, hall⟩ := hrel
    have hb := ex_abs (bitsOf zs) k (by omega)
    by_cases hlt : k < zs.length
    · have hz := List.getElem?_eq_getElem (l := zs) (i := k) (by omega)
      obtain ⟨g, off, rfl, hcell⟩ := hc k _ hz
      have hs := bit_ex (bitsOf zs) (p := k) (by omega)
      rw [bitsOf_getD h01 hz] at hs
      have hb2 := ex_abs (bitsOf zs) (k + 1) (by omega)
      generalize zs[k] = z at *
      have HA := Lib.hid hall
      clear hall hz hc
      cases hz1 : (z == 1)
      · rw [hz1, if_neg (by simp)] at hs
        by_cases hneg : ex (bitsOf zs) (k + 1) < 0
        · have HN := Lib.hid hneg
          have tn : ex (bitsOf zs) k - 1 < 0 := by omega
          clear hs hneg hb2
          generalize ex (bitsOf zs) k = x at *
          go_wp2
          go_ret
          refine ⟨⟨false, rfl, by simp; intro hB; have := hB.2 (k + 1) (by omega); have := HN.out; omega⟩, rfl⟩
        · have HN := Lib.hid (And.intro hneg hs)
          have tn : 1 ≤ ex (bitsOf zs) k := by omega
          clear hs hneg hb2
          generalize ex (bitsOf zs) k = x at *
          go_wp2
          go_round
          case rel =>
            refine ⟨k + 1, by omega, by go_num, by rw [HN.out.2], fun p hp => ?_⟩
            by_cases hp2 : p ≤ k
            · exact HA.out p hp2
            · obtain rfl : p = k + 1 := by omega
              have := HN.out.1; omega
          case measure => simp [intOf]; omega
      · rw [hz1, if_pos rfl] at hs
        have hx0 : 0 ≤ ex (bitsOf zs) k := HA.out k (Nat.le_refl _)
        have HN := Lib.hid hs
        clear hs hb2
        generalize hxx : ex (bitsOf zs) k = x at *
        have HX := Lib.hid hxx
        clear hxx
        go_wp2
        go_round
        case rel =>
          refine ⟨k + 1, by omega, by go_num, by rw [HN.out], fun p hp => ?_⟩
          by_cases hp2 : p ≤ k
          · exact HA.out p hp2
          · obtain rfl : p = k + 1 := by omega
            have := HN.out; omega
        case measure => simp [intOf]; omega
    · obtain rfl : k = zs.length := by omega
      have HA := Lib.hid hall
      clear hall hc
      generalize hx : ex (bitsOf zs) zs.length = x at *
      have HX := Lib.hid hx
      clear hx
      go_wp2
      go_ret
      refine ⟨⟨_, rfl, ?_⟩, rfl⟩
      simp only [beq_iff_eq]
      unfold Bal
      rw [hbl, HX.out]
      exact ⟨fun h => ⟨h, HA.out⟩, fun h => h.1⟩

set_option maxRecDepth 100000 in
set_option maxHeartbeats 1000000 in
theorem refExcess_any (sv : Value) (zs : List Int) (n : Nat) (w : World) (hs : Sl .i64 w sv zs) (h01 : ∀ z ∈ zs, z = 0 ∨ z = 1) (hl : zs.length ≤ 100000000) (hn : n ≤ zs.length) :
    Calls Try.prog 47 #[sv, .int .i64 n] w fun e w' => e = .returned (.int .i64 (ex (bitsOf zs) n)) ∧ w = w' := by
  obtain ⟨a, cap, rfl, hnc, hcm, _, hc⟩ := hs
  have hbl := bitsOf_length zs
  go_enter Try.func47, Try.ntmps47
  go_wp2_with fail
  go_loop [5, 12] (fun n' i => ∃ k : Nat, k ≤ n ∧ i = .int .i64 k ∧ n' = .int .i64 (ex (bitsOf zs) k)) (fun _ i => n - (intOf i).toNat)
  case atStart => exact ⟨0, Nat.zero_le _, rfl, by rw [ex_zero]⟩
  case round =>
    obtain ⟨k, hk, rfl, rfl⟩ := hrel
    have hb := ex_abs (bitsOf zs) k (by omega)
    by_cases hlt : k < n
    · have hz := List.getElem?_eq_getElem (l := zs) (i := k) (by omega)
      obtain ⟨g, off, rfl, hcell⟩ := hc k _ hz
      have hs := ex_succ (bitsOf zs) (p := k) (by omega)
      unfold stepZ at hs
      rw [bit_back h01 hz] at hs
      have hzb := h01 _ (List.mem_of_getElem? hz)
      generalize zs[k] = z at *
      have hzb2 : 0 ≤ z ∧ z ≤ 1 := by omega
      have HS := Lib.hid hs
      clear hz hc hs hzb
      generalize ex (bitsOf zs) k = x at *
      go_wp2
      go_round
      case rel => exact ⟨k + 1, by omega, by go_num, by rw [HS.out]⟩
      case measure => simp [intOf]; omega
    · obtain rfl : k = n := by omega
      clear hc
      go_wp2
      go_ret
      exact ⟨rfl, rfl⟩

/-- What Any has when it has gone round so often. -/
def AnyS (w : World) (P k o : Nat) (lv : Value) (wr : World) : Prop :=
  ∃ zs, OwnI w.heap.size wr lv zs ∧ zs.length = k ∧ (∀ z ∈ zs, z = 0 ∨ z = 1) ∧ ex (bitsOf zs) k = o ∧ (∀ p, p ≤ k → 0 ≤ ex (bitsOf zs) p) ∧ o + k ≤ 2 * P ∧ (o + k) % 2 = 0 ∧ Keeps (fun _ => False) w wr

theorem AnyS.start (w : World) (P : Nat) : AnyS w P 0 0 (.slice none 0 0) w := by
  refine ⟨[], OwnI.nil _ _, rfl, fun z hz => by simp at hz, by rw [ex_zero]; rfl, fun p hp => ?_, by omega, rfl, Keeps.refl _ _⟩
  obtain rfl : p = 0 := by omega
  rw [ex_zero]; omega

theorem AnyS.push {w wr w1 : World} {P k o o' : Nat} {lv lv' : Value} {zs : List Int} {z : Int} (hz : z = 0 ∨ z = 1) (hl : zs.length = k) (h01 : ∀ z ∈ zs, z = 0 ∨ z = 1) (hx : ex (bitsOf zs) k = o) (h0 : ∀ p, p ≤ k → 0 ≤ ex (bitsOf zs) p)
    (ho : (o' : Int) = o + (if z = 1 then 1 else -1)) (hP : o' + (k + 1) ≤ 2 * P) (hpar : (o + k) % 2 = 0) (hk : Keeps (fun _ => False) w wr) (hown : OwnI w.heap.size wr lv zs)
    (hown2 : OwnI w.heap.size w1 lv' (zs ++ [z])) (hk2 : Keeps (fun k => lv.ownBlock = some k) wr w1) : AnyS w P (k + 1) o' lv' w1 := by
  have hb : bitsOf (zs ++ [z]) = bitsOf zs ++ [z == 1] := by
    rw [bitsOf_append]
    congr 1
    rcases hz with rfl | rfl <;> rfl
  have hbl := bitsOf_length zs
  have hxs := ex_snoc (bitsOf zs) (z == 1)
  rw [hbl, hl, hx] at hxs
  have hi : (if (z == 1) = true then (1 : Int) else -1) = (if z = 1 then 1 else -1) := by rcases hz with rfl | rfl <;> rfl
  rw [hi] at hxs
  refine ⟨zs ++ [z], hown2, by simp [hl], fun y hy => ?_, by rw [hb, hxs, ho], fun p hp => ?_, hP, ?_, hk.trans hk2 (fun x hx h => by have := (hown.lt x h).1; omega)⟩
  · rcases List.mem_append.1 hy with h | h
    · exact h01 y h
    · rw [List.mem_singleton.1 h]; exact hz
  · rw [hb]
    by_cases hpk : p ≤ k
    · rw [ex_append_le _ _ (by omega)]; exact h0 p hpk
    · obtain rfl : p = k + 1 := by omega
      rw [hxs]; omega
  · split at ho <;> omega

theorem AnyS.up {w wr w1 : World} {P o : Nat} {lv lv' : Value} {zs : List Int} (hZ : (∀ z ∈ zs, z = 0 ∨ z = 1) ∧ ex (bitsOf zs) zs.length = o ∧ (∀ p, p ≤ zs.length → 0 ≤ ex (bitsOf zs) p) ∧ (o + zs.length) % 2 = 0 ∧ ((o = 0 ∨ o < 2 * P - zs.length) → o + 1 + (zs.length + 1) ≤ 2 * P) ∧ (¬ o = 0 → o - 1 + (zs.length + 1) ≤ 2 * P ∧ ((o - 1 : Nat) : Int) = o + -1))
    (ho : o = 0 ∨ (o : Int) < 2 * (P : Int) - (zs.length : Int)) (hk : Keeps (fun _ => False) w wr) (hown : OwnI w.heap.size wr lv zs) (hown2 : OwnI w.heap.size w1 lv' (zs ++ [1])) (hk2 : Keeps (fun k => lv.ownBlock = some k) wr w1) : AnyS w P (zs.length + 1) (o + 1) lv' w1 :=
  AnyS.push (.inr rfl) rfl hZ.1 hZ.2.1 hZ.2.2.1 (by simp) (hZ.2.2.2.2.1 (by omega)) hZ.2.2.2.1 hk hown hown2 hk2

theorem AnyS.down {w wr w1 : World} {P o : Nat} {lv lv' : Value} {zs : List Int} (hZ : (∀ z ∈ zs, z = 0 ∨ z = 1) ∧ ex (bitsOf zs) zs.length = o ∧ (∀ p, p ≤ zs.length → 0 ≤ ex (bitsOf zs) p) ∧ (o + zs.length) % 2 = 0 ∧ ((o = 0 ∨ o < 2 * P - zs.length) → o + 1 + (zs.length + 1) ≤ 2 * P) ∧ (¬ o = 0 → o - 1 + (zs.length + 1) ≤ 2 * P ∧ ((o - 1 : Nat) : Int) = o + -1))
    (ho : ¬ o = 0) (hk : Keeps (fun _ => False) w wr) (hown : OwnI w.heap.size wr lv zs) (hown2 : OwnI w.heap.size w1 lv' (zs ++ [0])) (hk2 : Keeps (fun k => lv.ownBlock = some k) wr w1) : AnyS w P (zs.length + 1) (o - 1) lv' w1 :=
  AnyS.push (.inl rfl) rfl hZ.1 hZ.2.1 hZ.2.2.1 (by rw [(hZ.2.2.2.2.2 ho).2]; simp) (hZ.2.2.2.2.2 ho).1 hZ.2.2.2.1 hk hown hown2 hk2

set_option maxRecDepth 100000 in
set_option maxHeartbeats 4000000 in
theorem refAny_any (pv : Value) (ps : List Nat) (P : Nat) (w : World) (hp : Sl .u8 w pv (nats ps)) (hps : ∀ b ∈ ps, b < 256) (hP : P ≤ 100000) :
    Calls Try.prog 41 #[.int .i64 P, pv] w fun e w' => ∃ v zs, e = .returned v ∧ OwnI w.heap.size w' v zs ∧ zs.length = 2 * P ∧ (∀ z ∈ zs, z = 0 ∨ z = 1) ∧ Bal (bitsOf zs) ∧ Keeps (fun _ => False) w w' := by
  obtain ⟨a, cap, rfl, hnc, hcm, _, hc⟩ := hp
  have hnl : (nats ps).length = ps.length := by simp [nats]
  rw [hnl] at hnc ⊢
  clear hnl
  go_enter Try.func41, Try.ntmps41
  go_wp2_with fail
  go_loopw [5, 6, 7] (fun lv o i wr => ∃ k o' : Nat, i = .int .i64 k ∧ o = .int .i64 o' ∧ AnyS w P k o' lv wr) (fun _ _ i _ => 2 * P - (intOf i).toNat)
  case atStart => exact ⟨0, 0, rfl, rfl, AnyS.start _ _⟩
  case round =>
    obtain ⟨k, o, rfl, rfl, zs, hown, rfl, h01, hx, h0, hoP, hpar, hkw⟩ := hrel
    obtain ⟨la, lc, rfl, hlc, hlc2⟩ := hown.form
    have hsz := hkw.size
    have hzl2 : zs.length ≤ 10000000000 := by omega
    by_cases hlt : zs.length < 2 * P
    · have hdec : (o = 0 ∨ o < 2 * P - zs.length) → o + 1 + (zs.length + 1) ≤ 2 * P := by omega
      have hdec2 : ¬ o = 0 → o - 1 + (zs.length + 1) ≤ 2 * P ∧ ((o - 1 : Nat) : Int) = o + -1 := by omega
      have HZ := Lib.hid (And.intro h01 (And.intro hx (And.intro h0 (And.intro hpar (And.intro hdec hdec2)))))
      clear h01 hx h0 hpar hdec hdec2
      by_cases hp0 : 0 < ps.length
      · obtain ⟨r, hr⟩ : ∃ r, r = zs.length % ps.length := ⟨_, rfl⟩
        have hrl : r < ps.length := by rw [hr]; exact Nat.mod_lt _ hp0
        obtain ⟨g, off, rfl, hcell⟩ := hc r ps[r] (by simp [nats, hrl])
        have hb := hps ps[r] (List.getElem_mem hrl)
        have hcell1 : wr.cell? ⟨g, off + r, none⟩ = some (.int .u8 (ps[r] : Nat)) := hkw.cellF hcell
        obtain ⟨d, hd⟩ : ∃ d, d = zs.length / ps.length := ⟨_, rfl⟩
        obtain ⟨t, ht⟩ : ∃ t, t = d % 3 := ⟨_, rfl⟩
        have ht3 : t < 3 := by omega
        have e1 : (zs.length : Int).tmod (ps.length : Int) = (r : Int) := by rw [hr, Int.tmod_eq_emod_of_nonneg (by omega)]; simp
        have e2 : (zs.length : Int).tdiv (ps.length : Int) = (d : Int) := by rw [hd, Int.tdiv_eq_ediv_of_nonneg (by omega)]; simp
        have e3 : (d : Int).tmod 3 = (t : Int) := by rw [ht, Int.tmod_eq_emod_of_nonneg (by omega)]; simp
        have e4 : IntKind.i64.wrap (1 + (t : Int)) = 1 + (t : Int) := IntWalk.i64_in _ (by omega)
        have e5 : IntKind.u8.wrap (1 + (t : Int)) = 1 + (t : Int) := by rw [IntKind.wrap_u8]; omega
        have e6 : ((1 + (t : Int)) == 0) = false := by rw [beq_eq_false_iff_ne]; omega
        have e7 : (0 : Int) ≤ (r : Int) := by omega
        have e8 : (r : Int) < (ps.length : Int) := by omega
        have HR := Lib.hid (And.intro hr (And.intro hd ht))
        clear hr hd ht hc hps hcell
        generalize ps[r] = y at *
        clear hrl
        generalize ps.length = m at *
        have e9 : ¬ m = 0 := by omega
        have e10 : ¬ 1 + (t : Int) = 0 := by omega
        have hd2 : d ≤ zs.length := by rw [HR.out.2.1]; exact Nat.div_le_self _ _
        have e11 : IntKind.i64.wrap (d : Int) = (d : Int) := IntWalk.i64_in _ (by omega)
        obtain ⟨v, hv⟩ : ∃ v, v = y / (1 + t) := ⟨_, rfl⟩
        have hv2 : v ≤ y := by rw [hv]; exact Nat.div_le_self _ _
        have e12 : (y : Int).tdiv (1 + (t : Int)) = (v : Int) := by rw [hv, Int.tdiv_eq_ediv_of_nonneg (by omega)]; simp
        have e13 : IntKind.u8.wrap (v : Int) = (v : Int) := by rw [IntKind.wrap_u8]; omega
        clear hv
        go_wp2_with fail
        go_quiet (fail)
        clear e1 e2 e3 e4 e5 e6 e7 e8 e9 e10 e11 e12 e13
        have hown2 : OwnI w.heap.size (wr.drewN nq) (.slice la zs.length lc) zs := hown.keeps ((Keeps.refl (fun _ => False) wr).drewN nq) (fun _ _ h => h)
        have hsz2 : w.heap.size ≤ (wr.drewN nq).heap.size := hsz
        have hkw2 : Keeps (fun _ => False) w (wr.drewN nq) := hkw.drewN nq
        clear hown hkw hsz hcell1
        generalize wr.drewN nq = w2 at *
        go_wp2_with (at_builtin; refine append1 rfl _ _ rfl w.heap.size (.slice la zs.length lc) zs _ _ rfl rfl rfl hown2 hzl2 hsz2 ?_; intro g2 cap2 w3 hown3 hk3 hat hg)
        all_goals
          (have HO : Hid (OwnI w.heap.size w3 _ _) := Lib.hid hown3
           clear hown3
           first
           | exact ⟨⟨zs.length + 1, o + 1, by go_num, by first | go_num | (simp; omega), AnyS.up HZ.out (by omega) hkw2 hown2 HO.out hk3⟩, by simp [intOf]; omega⟩
           | exact ⟨⟨zs.length + 1, o - 1, by go_num, by go_num, AnyS.down HZ.out (by omega) hkw2 hown2 HO.out hk3⟩, by simp [intOf]; omega⟩)
      · obtain ⟨hown2, hsz2, hkw2⟩ : OwnI w.heap.size wr (.slice la zs.length lc) zs ∧ w.heap.size ≤ wr.heap.size ∧ Keeps (fun _ => False) w wr := ⟨hown, hsz, hkw⟩
        have hp00 : ps.length = 0 := by omega
        clear hown hkw hsz hc hps hp0
        generalize ps.length = m at *
        subst hp00
        go_wp2_with (at_builtin; refine append1 rfl _ _ rfl w.heap.size (.slice la zs.length lc) zs _ _ rfl rfl rfl hown2 hzl2 hsz2 ?_; intro g2 cap2 w3 hown3 hk3 hat hg)
        all_goals
          (have HO : Hid (OwnI w.heap.size w3 _ _) := Lib.hid hown3
           clear hown3
           first
           | exact ⟨⟨zs.length + 1, o + 1, by go_num, by first | go_num | (simp; omega), AnyS.up HZ.out (by omega) hkw2 hown2 HO.out hk3⟩, by simp [intOf]; omega⟩
           | exact ⟨⟨zs.length + 1, o - 1, by go_num, by go_num, AnyS.down HZ.out (by omega) hkw2 hown2 HO.out hk3⟩, by simp [intOf]; omega⟩)
    · obtain rfl : o = 0 := by omega
      have hfin : zs.length = 2 * P ∧ (∀ z ∈ zs, z = 0 ∨ z = 1) ∧ Bal (bitsOf zs) := ⟨by omega, h01, by rw [bitsOf_length, hx]; rfl, fun p hp => h0 p (by rw [bitsOf_length] at hp; omega)⟩
      have HF := Lib.hid hfin
      clear hx h0 h01 hfin hc hps
      go_wp2
      go_ret
      exact ⟨_, zs, rfl, hown, HF.out.1, HF.out.2.1, HF.out.2.2, hkw⟩

end Go.Proofs.Ytlciacpffoekjaa

/- The reference of layer 3: Mates; its plain law. -/
namespace Go.Proofs.Ytlciacpffoekjaa
open Go.RowKit

/-- What Mates knows ahead of place k: ms the mates, rs the rounds, st the open ones. -/
structure MInv (l : List Bool) (k : Nat) (ms rs : List Int) (st : List Nat) : Prop where
  lm : ms.length = l.length
  lr : rs.length = l.length
  hx : ex l k = st.length
  stk : ∀ (j o : Nat), st[j]? = some o → o < k ∧ l.getD o false = true ∧ ex l o = j ∧ ∀ p, o < p → p ≤ k → (j : Int) < ex l p
  done : ∀ p, p < k → (∃ j : Nat, st[j]? = some p) ∨ ∃ m : Nat, ms[p]? = some (m : Int) ∧ MateOf l p m
  rd : ∀ p, p < k → ∃ r : Int, rs[p]? = some r ∧ RoundOf l p r

theorem MInv.start (l : List Bool) : MInv l 0 (List.replicate l.length 0) (List.replicate l.length 0) [] :=
  ⟨by simp, by simp, by rw [ex_zero]; rfl, fun j o h => by simp at h, fun p hp => by omega, fun p hp => by omega⟩

theorem MInv.open {l : List Bool} {k : Nat} {ms rs : List Int} {st : List Nat} (h : MInv l k ms rs st) (hk : k < l.length) (hb : l.getD k false = true) (r : Int)
    (hr : (st = [] ∧ r = -1) ∨ ∃ o, st[st.length - 1]? = some o ∧ 0 < st.length ∧ r = (o : Nat)) : MInv l (k + 1) ms (rs.set k r) (st ++ [k]) := by
  have hs := bit_ex l hk
  rw [hb, if_pos rfl, h.hx] at hs
  have hRA : RoundAt l k r := by
    rcases hr with ⟨rfl, rfl⟩ | ⟨o, ho, hl, rfl⟩
    · exact .inl ⟨h.hx, rfl⟩
    · obtain ⟨h1, h2, h3, h4⟩ := h.stk _ _ ho
      refine .inr ⟨by rw [h.hx]; omega, o, rfl, h1, by omega, by rw [h3, h.hx]; omega, fun p h5 h6 => ?_⟩
      have := h4 p h5 h6
      rw [h.hx]; omega
  refine ⟨h.lm, by simpa using h.lr, by simpa using hs, fun j o hj => ?_, fun p hp => ?_, fun p hp => ?_⟩
  · rw [List.getElem?_append] at hj
    split at hj
    · obtain ⟨h1, h2, h3, h4⟩ := h.stk _ _ hj
      refine ⟨by omega, h2, h3, fun p h5 h6 => ?_⟩
      by_cases hp : p ≤ k
      · exact h4 p h5 hp
      · obtain rfl : p = k + 1 := by omega
        rw [hs]; omega
    · rename_i hlt
      have hj2 : j - st.length = 0 := by
        rcases Nat.eq_zero_or_pos (j - st.length) with h | h
        · exact h
        · rw [List.getElem?_eq_none (by simp; omega)] at hj; cases hj
      rw [hj2] at hj
      simp only [List.getElem?_cons_zero, Option.some.injEq] at hj
      subst hj
      have hjl : j = st.length := by omega
      subst hjl
      refine ⟨by omega, hb, h.hx, fun p h5 h6 => ?_⟩
      obtain rfl : p = k + 1 := by omega
      rw [hs]; omega
  · by_cases hpk : p < k
    · rcases h.done p hpk with ⟨j, hj⟩ | hm
      · refine .inl ⟨j, ?_⟩
        rw [List.getElem?_append_left]
        · exact hj
        · rcases Nat.lt_or_ge j st.length with h' | h'
          · exact h'
          · rw [List.getElem?_eq_none h'] at hj; cases hj
      · exact .inr hm
    · obtain rfl : p = k := by omega
      exact .inl ⟨st.length, by simp⟩
  · by_cases hpk : p < k
    · rw [List.getElem?_set_ne (by omega)]
      exact h.rd p hpk
    · obtain rfl : p = k := by omega
      exact ⟨r, by rw [List.getElem?_set_self (by rw [h.lr]; exact hk)], .inl ⟨hb, hRA⟩⟩

theorem MInv.top {l : List Bool} {k : Nat} {ms rs : List Int} {st : List Nat} (h : MInv l k ms rs st) (hB : Bal l) (hk : k < l.length) (hb : l.getD k false = false) :
    ∃ o, st[st.length - 1]? = some o ∧ 0 < st.length ∧ o < k ∧ IsPair l o k := by
  have hs := bit_ex l hk
  rw [hb, if_neg (by simp), h.hx] at hs
  have h0 := hB.2 (k + 1) (by omega)
  have hl : 0 < st.length := by omega
  obtain ⟨o, ho⟩ : ∃ o, st[st.length - 1]? = some o := ⟨_, List.getElem?_eq_getElem (by omega)⟩
  obtain ⟨h1, h2, h3, h4⟩ := h.stk _ _ ho
  refine ⟨o, ho, hl, h1, h1, hk, by rw [hs, h3]; omega, fun p h5 h6 => ?_⟩
  rw [h3]
  exact h4 p h5 h6

theorem MInv.close {l : List Bool} {k : Nat} {ms rs : List Int} {st : List Nat} (h : MInv l k ms rs st) (hk : k < l.length) (hb : l.getD k false = false) {o : Nat} (ho : st[st.length - 1]? = some o) (hl : 0 < st.length) (hok : o < k) (hP : IsPair l o k) (r : Int) (hr : rs[o]? = some r) :
    MInv l (k + 1) ((ms.set k (o : Int)).set o (k : Int)) (rs.set k r) (st.take (st.length - 1)) := by
  have hs := bit_ex l hk
  rw [hb, if_neg (by simp), h.hx] at hs
  refine ⟨by simpa using h.lm, by simpa using h.lr, by rw [hs, List.length_take]; omega, fun j q hj => ?_, fun p hp => ?_, fun p hp => ?_⟩
  · rw [List.getElem?_take] at hj
    split at hj
    · obtain ⟨h1, h2, h3, h4⟩ := h.stk _ _ hj
      refine ⟨by omega, h2, h3, fun p h5 h6 => ?_⟩
      by_cases hp : p ≤ k
      · exact h4 p h5 hp
      · obtain rfl : p = k + 1 := by omega
        rw [hs]; omega
    · cases hj
  · by_cases hpo : p = o
    · subst hpo
      exact .inr ⟨k, by rw [List.getElem?_set_self (by rw [List.length_set, h.lm]; omega)], hP.mate_l⟩
    · rw [List.getElem?_set_ne (fun e => hpo e.symm)]
      by_cases hpk : p < k
      · rw [List.getElem?_set_ne (by omega)]
        rcases h.done p hpk with ⟨j, hj⟩ | hm
        · refine .inl ⟨j, ?_⟩
          have hjl : j < st.length := by
            rcases Nat.lt_or_ge j st.length with h' | h'
            · exact h'
            · rw [List.getElem?_eq_none h'] at hj; cases hj
          rw [List.getElem?_take, if_pos]
          · exact hj
          · rcases Nat.lt_or_ge j (st.length - 1) with h' | h'
            · exact h'
            · obtain rfl : j = st.length - 1 := by omega
              rw [ho] at hj
              simp only [Option.some.injEq] at hj
              exact absurd hj.symm hpo
        · exact .inr hm
      · obtain rfl : p = k := by omega
        exact .inr ⟨o, by rw [List.getElem?_set_self (by rw [h.lm]; exact hk)], hP.mate_r⟩
  · by_cases hpk : p < k
    · rw [List.getElem?_set_ne (by omega)]
      exact h.rd p hpk
    · obtain rfl : p = k := by omega
      obtain ⟨r', h1, h2⟩ := h.rd o hok
      rw [hr] at h1
      simp only [Option.some.injEq] at h1
      subst h1
      refine ⟨r, by rw [List.getElem?_set_self (by rw [h.lr]; exact hk)], .inr ⟨hb, o, hP, ?_⟩⟩
      rcases h2 with ⟨_, h2⟩ | ⟨h2, _⟩
      · exact h2
      · rw [hP.opens.1] at h2; cases h2

theorem MInv.fin {l : List Bool} {ms rs : List Int} {st : List Nat} (h : MInv l l.length ms rs st) (hB : Bal l) : ∀ p, p < l.length → (∃ m : Nat, ms[p]? = some (m : Int) ∧ MateOf l p m) ∧ ∃ r : Int, rs[p]? = some r ∧ RoundOf l p r := by
  intro p hp
  refine ⟨?_, h.rd p hp⟩
  have hx := h.hx
  rw [hB.1] at hx
  have hst : st = [] := List.eq_nil_of_length_eq_zero (by omega)
  rcases h.done p hp with ⟨j, hj⟩ | hm
  · rw [hst] at hj; simp at hj
  · exact hm

/-! Slices of int that are written. -/

theorem OwnI.set {B : Nat} {w : World} {g n cap : Nat} {zs : List Int} (h : OwnI B w (.slice (some ⟨g, 0, none⟩) n cap) zs) (i : Nat) (z : Int) : OwnI B (w.setCell ⟨g, i, none⟩ (.int .i64 z)) (.slice (some ⟨g, 0, none⟩) n cap) (zs.set i z) := by
  have hn : n = zs.length := by
    obtain ⟨a, c, hv, _⟩ := h.form
    simp only [Value.slice.injEq] at hv
    exact hv.2.1
  subst hn
  have := owns_set h i (.int .i64 z)
  unfold OwnI ints at *
  rw [List.length_set, List.map_set]
  exact this

theorem OwnI.other {B : Nat} {w : World} {v : Value} {zs : List Int} (h : OwnI B w v zs) (a : Addr) (ha : v.ownBlock ≠ some a.block) (u : Value) : OwnI B (w.setCell a u) v zs :=
  ownsRow_setCell_other h ha u

theorem OwnI.cell {B : Nat} {w : World} {g n cap : Nat} {zs : List Int} (h : OwnI B w (.slice (some ⟨g, 0, none⟩) n cap) zs) {i : Nat} {z : Int} (hz : zs[i]? = some z) : w.cell? ⟨g, i, none⟩ = some (.int .i64 z) ∧ w.frozen? ⟨g, i, none⟩ = false := by
  have hi : i < zs.length := by
    rcases Nat.lt_or_ge i zs.length with h' | h'
    · exact h'
    · rw [List.getElem?_eq_none h'] at hz; cases hz
  obtain ⟨g', cap', hv, _, _, hc, _, _⟩ := owns_form h (by omega)
  simp only [Value.slice.injEq, Option.some.injEq, Addr.mk.injEq, and_true] at hv
  obtain ⟨rfl, _⟩ := hv
  exact hc i (.int .i64 z) (by rw [ints, List.getElem?_map, hz]; rfl)

theorem OwnI.has {B : Nat} {w : World} {g n cap : Nat} {zs : List Int} (h : OwnI B w (.slice (some ⟨g, 0, none⟩) n cap) zs) (i : Nat) (hi : i < zs.length) : ∃ z : Int, w.cell? ⟨g, i, none⟩ = some (.int .i64 z) ∧ w.frozen? ⟨g, i, none⟩ = false :=
  ⟨_, h.cell (List.getElem?_eq_getElem hi)⟩

theorem own_some {B : Nat} {w : World} {a : Option Addr} {n cap : Nat} {zs : List Int} (h : OwnI B w (.slice a n cap) zs) (hn : 0 < zs.length) : ∃ g, a = some ⟨g, 0, none⟩ := by
  obtain ⟨g, cap', hv, _⟩ := owns_form h hn
  simp only [Value.slice.injEq] at hv
  exact ⟨g, hv.1⟩

theorem OwnI.take {B : Nat} {w : World} {v : Value} {a : Option Addr} {n cap : Nat} {zs : List Int} (h : OwnI B w v zs) (hv : v = .slice a n cap) (m : Nat) (hm : m ≤ zs.length) : OwnI B w (.slice a m cap) (zs.take m) := by
  obtain ⟨h1, h2⟩ := h
  have hl : (zs.take m).length = m := by simp; omega
  unfold OwnI
  rw [hl]
  refine ⟨by simp [ints]; omega, ?_⟩
  rcases h2 with ⟨h3, h4⟩ | ⟨g, cap', cur, h3, hb, hg, hnc, hcm, hcs, ht⟩
  · rw [hv] at h3
    simp only [Value.slice.injEq] at h3
    obtain ⟨rfl, rfl, rfl⟩ := h3
    refine .inl ⟨?_, by omega⟩
    obtain rfl : m = 0 := by omega
    rfl
  · rw [hv] at h3
    simp only [Value.slice.injEq] at h3
    obtain ⟨rfl, rfl, rfl⟩ := h3
    refine .inr ⟨g, cap, cur, rfl, hb, hg, by omega, hcm, hcs, ?_⟩
    simp only [Nat.mul_one] at ht ⊢
    rw [ints, List.map_take]
    unfold ints at ht
    rw [← ht, List.take_take, Nat.min_eq_left hm]

theorem nats_get {l : List Nat} {i x : Nat} (h : l[i]? = some x) : (nats l)[i]? = some (x : Int) := by simp [nats, h]
theorem nats_len (l : List Nat) : (nats l).length = l.length := by simp [nats]

/-- 'append(l, z)', l of the call's own, its length a letter. -/
theorem append1n {ops : Array Oper} {rest : List Oper} {o : Oper} {a : Act} {Q : Exit → Act → World → Prop} {wr : World} (n : Nat) (hgd : o.guard = none) (s x : Operand)
    (ho : o.op = .call { callee := .builtin .append, args := #[s, x], argTypes := #[26, 26] }) (B : Nat) (v : Value) (zs : List Int) (z : Int) (hn : Hid (zs.length = n)) (H : Nat) (hH : wr.heap.size = H) (hs : a.eval s = v) (hx : a.eval x = .slice (some ⟨H, 0, none⟩) 1 1)
    (hown : OwnI B wr v zs) (hlen : n ≤ 10000000000) (hB : B ≤ wr.heap.size)
    (h : ∀ g cap w', OwnI B w' (.slice (some ⟨g, 0, none⟩) (n + 1) cap) (zs ++ [z]) → Keeps (fun k => v.ownBlock = some k) wr w' → (v.ownBlock = some g ∨ wr.heap.size ≤ g) → B ≤ g →
      wpList Try.prog ops Q rest (a.put o.dst (.slice (some ⟨g, 0, none⟩) (n + 1) cap)) w') :
    wpList Try.prog ops Q (o :: rest) a (wr.alloc (.cells #[.int .i64 z] 3)) := by
  have hn := hn.out
  subst hn
  exact append1 hgd s x ho B v zs z H hH hs hx hown hlen hB h

/-- What Mates has laid. -/
def MSt (w : World) (l : List Bool) (gm gr k : Nat) (ov : Value) (wr : World) : Prop :=
  ∃ ms rs st, MInv l k ms rs st ∧ OwnI w.heap.size wr (.slice (some ⟨gm, 0, none⟩) l.length l.length) ms ∧ OwnI w.heap.size wr (.slice (some ⟨gr, 0, none⟩) l.length l.length) rs ∧ OwnI w.heap.size wr ov (nats st) ∧
    gm ≠ gr ∧ ov.ownBlock ≠ some gm ∧ ov.ownBlock ≠ some gr ∧ Keeps (fun _ => False) w wr

theorem MSt.start (w : World) (l : List Bool) (hl : l.length ≤ 100000000) (gm gr : Nat) (hg : (gm = w.heap.size ∧ gr = w.heap.size + 1) ∨ (gr = w.heap.size ∧ gm = w.heap.size + 1)) :
    MSt w l gm gr 0 (.slice none 0 0) (((w.alloc (.cells (madeCells #[.int .i64 0] l.length) 3)).alloc (.cells (madeCells #[.int .i64 0] l.length) 3)).drew) := by
  have ht : (madeCells #[.int .i64 0] l.length).toList = ints (List.replicate l.length 0) := by
    rw [toList_madeCells_one]; simp [ints]
  have h1 := World.ownsRow_lit (base := w.heap.size) (e := 3) (size := 1) w (madeCells #[.int .i64 0] l.length) l.length (Nat.le_refl _) (by unfold maxLen; omega) (by rw [size_madeCells]; omega)
  have h2 := World.ownsRow_lit (base := w.heap.size) (e := 3) (size := 1) (w.alloc (.cells (madeCells #[.int .i64 0] l.length) 3)) (madeCells #[.int .i64 0] l.length) l.length (by simp) (by unfold maxLen; omega) (by rw [size_madeCells]; omega)
  rw [ht] at h1 h2
  have hs : (w.alloc (.cells (madeCells #[.int .i64 0] l.length) 3)).heap.size = w.heap.size + 1 := by simp
  rw [hs] at h2
  have q1 : OwnI w.heap.size (((w.alloc (.cells (madeCells #[.int .i64 0] l.length) 3)).alloc (.cells (madeCells #[.int .i64 0] l.length) 3)).drew) (.slice (some ⟨w.heap.size, 0, none⟩) l.length l.length) (List.replicate l.length 0) := by
    have : OwnI w.heap.size (w.alloc (.cells (madeCells #[.int .i64 0] l.length) 3)) (.slice (some ⟨w.heap.size, 0, none⟩) l.length l.length) (List.replicate l.length 0) := by
      unfold OwnI; rw [List.length_replicate]; exact h1
    exact (this.alloc _).keeps ((Keeps.refl (fun _ => False) _).drew) (fun _ _ h => h)
  have q2 : OwnI w.heap.size (((w.alloc (.cells (madeCells #[.int .i64 0] l.length) 3)).alloc (.cells (madeCells #[.int .i64 0] l.length) 3)).drew) (.slice (some ⟨w.heap.size + 1, 0, none⟩) l.length l.length) (List.replicate l.length 0) := by
    have : OwnI w.heap.size ((w.alloc (.cells (madeCells #[.int .i64 0] l.length) 3)).alloc (.cells (madeCells #[.int .i64 0] l.length) 3)) (.slice (some ⟨w.heap.size + 1, 0, none⟩) l.length l.length) (List.replicate l.length 0) := by
      unfold OwnI; rw [List.length_replicate]; exact h2
    exact this.keeps ((Keeps.refl (fun _ => False) _).drew) (fun _ _ h => h)
  have hk : Keeps (fun _ => False) w (((w.alloc (.cells (madeCells #[.int .i64 0] l.length) 3)).alloc (.cells (madeCells #[.int .i64 0] l.length) 3)).drew) := (((Keeps.refl _ w).alloc _).alloc _).drew
  rcases hg with ⟨rfl, rfl⟩ | ⟨rfl, rfl⟩
  · exact ⟨_, _, [], MInv.start l, q1, q2, OwnI.nil _ _, by omega, by simp [Value.ownBlock], by simp [Value.ownBlock], hk⟩
  · exact ⟨_, _, [], MInv.start l, q2, q1, OwnI.nil _ _, by omega, by simp [Value.ownBlock], by simp [Value.ownBlock], hk⟩

theorem MSt.pushed {w w2 w3 : World} {l : List Bool} {gm gr k g2 cap2 n : Nat} {ms rs : List Int} {st : List Nat} {ov : Value} (hI : MInv l (k + 1) ms rs (st ++ [k])) (hm : OwnI w.heap.size w2 (.slice (some ⟨gm, 0, none⟩) l.length l.length) ms) (hr : OwnI w.heap.size w2 (.slice (some ⟨gr, 0, none⟩) l.length l.length) rs)
    (ho : OwnI w.heap.size w3 (.slice (some ⟨g2, 0, none⟩) (n + 1) cap2) (nats st ++ [(k : Int)])) (k3 : Keeps (fun k => ov.ownBlock = some k) w2 w3) (hgg : gm ≠ gr) (hom : ov.ownBlock ≠ some gm) (hor : ov.ownBlock ≠ some gr) (hov : OwnI w.heap.size w2 ov (nats st)) (_ : w.heap.size ≤ gr) (_ : w.heap.size ≤ gm)
    (k2 : Keeps (fun _ => False) w w2) (hat : ov.ownBlock = some g2 ∨ w2.heap.size ≤ g2) (hmg : gm < w2.heap.size) (hrg : gr < w2.heap.size) : MSt w l gm gr (k + 1) (.slice (some ⟨g2, 0, none⟩) (n + 1) cap2) w3 := by
  have hn : nats st ++ [(k : Int)] = nats (st ++ [k]) := by simp [nats]
  rw [hn] at ho
  have h1 : g2 ≠ gm := by
    rcases hat with h | h
    · intro e; rw [e] at h; exact hom h
    · omega
  have h2 : g2 ≠ gr := by
    rcases hat with h | h
    · intro e; rw [e] at h; exact hor h
    · omega
  refine ⟨ms, rs, _, hI, hm.keeps k3 (fun b hb h => ?_), hr.keeps k3 (fun b hb h => ?_), ho, hgg, by simp [Value.ownBlock]; exact h1, by simp [Value.ownBlock]; exact h2, k2.trans k3 (fun x hx h => by have := (hov.lt x h).1; omega)⟩
  · simp only [Value.ownBlock, Option.some.injEq] at hb; subst hb; exact hom h
  · simp only [Value.ownBlock, Option.some.injEq] at hb; subst hb; exact hor h

set_option maxRecDepth 100000 in
set_option maxHeartbeats 4000000 in
theorem refMates_any (sv : Value) (zs : List Int) (w : World) (hs : Sl .i64 w sv zs) (h01 : ∀ z ∈ zs, z = 0 ∨ z = 1) (hl : zs.length ≤ 100000000) (hB : Bal (bitsOf zs)) :
    Calls Try.prog 42 #[sv] w fun e w' => ∃ gm gr ov, e = .returned (.tuple #[.slice (some ⟨gm, 0, none⟩) zs.length zs.length, .slice (some ⟨gr, 0, none⟩) zs.length zs.length]) ∧ MSt w (bitsOf zs) gm gr zs.length ov w' := by
  obtain ⟨a, cap, rfl, hnc, hcm, _, hc⟩ := hs
  have hbl := bitsOf_length zs
  obtain ⟨i, hi, hz0, hz1, hz2⟩ := info_parts infoInt
  have hmk := fun w => run_make (P := Try.prog) w 26 3 i _ Try.underlying26 hi hz0 .i64 .i64 (zs.length : Int) (zs.length : Int) (by omega) (Int.le_refl _) (by rw [hz2]; omega) (by omega)
  simp only [hz1, Int.toNat_natCast, Nat.mul_one] at hmk
  have hst1 := MSt.start w (bitsOf zs) (by omega)
  rw [hbl] at hst1
  have HST := Lib.hid hst1
  have HB := Lib.hid (And.intro hB hbl)
  clear hst1 hB hbl hi hz0 hz1 hz2
  go_enter Try.func42, Try.ntmps42
  go_wp2_with fail
  go_region
  case' _ =>
    have hS := HST.out w.heap.size (w.heap.size + 1) (.inl ⟨rfl, rfl⟩)
    obtain ⟨gm, hgm⟩ : ∃ gm, gm = w.heap.size := ⟨_, rfl⟩
    obtain ⟨gr, hgr⟩ : ∃ gr, gr = w.heap.size + 1 := ⟨_, rfl⟩
    rw [← hgr, ← hgm] at hS
    rw [← hgr, ← hgm]
  rotate_left
  case' _ =>
    have hS := HST.out (w.heap.size + 1) w.heap.size (.inr ⟨rfl, rfl⟩)
    obtain ⟨gr, hgr⟩ : ∃ gr, gr = w.heap.size := ⟨_, rfl⟩
    obtain ⟨gm, hgm⟩ : ∃ gm, gm = w.heap.size + 1 := ⟨_, rfl⟩
    rw [← hgm, ← hgr] at hS
    rw [← hgm, ← hgr]
  all_goals
    clear HST hmk hgm hgr
    go_wp2_with fail
    go_loopw [6, 18] (fun ov i wr => ∃ k : Nat, k ≤ zs.length ∧ i = .int .i64 k ∧ MSt w (bitsOf zs) gm gr k ov wr) (fun _ i _ => zs.length - (intOf i).toNat)
    case atStart => exact ⟨0, Nat.zero_le _, rfl, hS⟩
    case round =>
      obtain ⟨k, hk, rfl, ms, rs, st, hI, hm, hr, ho, hgg, hom, hor, hkw⟩ := hrel
      have hsz := hkw.size
      have hfo := ho.form
      obtain ⟨n, hn⟩ : ∃ n, n = (nats st).length := ⟨_, rfl⟩
      rw [← hn] at hfo
      rw [nats_len] at hn
      obtain ⟨oa, oc, rfl, hoc1, hoc2⟩ := hfo
      have hlm := hI.lm
      have hlr := hI.lr
      rw [HB.out.2] at hlm hlr
      by_cases hlt : k < zs.length
      · have hz := List.getElem?_eq_getElem (l := zs) (i := k) (by omega)
        obtain ⟨g, off, rfl, hcell⟩ := hc k _ hz
        have hcell1 := hkw.cellF hcell
        clear hS
        have hbit := bitsOf_getD h01 hz
        generalize zs[k] = z at *
        have hst : n ≤ 10000000000 := by
          have h1 := ex_abs (bitsOf zs) k (by rw [HB.out.2]; exact hl)
          rw [hI.hx, ← hn] at h1
          omega
        obtain ⟨x1, hrk, frk⟩ := hr.has k (by omega)
        obtain ⟨x2, hmk, fmk⟩ := hm.has k (by omega)
        have HN : Hid ((nats st).length = n) := Lib.hid (by rw [nats_len]; exact hn.symm)
        have hrg := (hr.lt gr rfl)
        have hmg := (hm.lt gm rfl)
        clear hc hz hcell
        cases hz1 : (z == 1)
        · rw [hz1] at hbit
          obtain ⟨o, ho1, ho2, hok, hpr⟩ := hI.top HB.out.1 (by rw [HB.out.2]; exact hlt) hbit
          obtain ⟨r, hr1, hrr⟩ := hI.rd o hok
          clear hrr
          have hI2 := hI.close (by rw [HB.out.2]; exact hlt) hbit ho1 ho2 hok hpr r hr1
          obtain ⟨hro, fro⟩ := hr.cell hr1
          obtain ⟨x3, hmo, fmo⟩ := hm.has o (by omega)
          obtain ⟨m, hnm⟩ : ∃ m, n = m + 1 := ⟨n - 1, by omega⟩
          rw [← hn, hnm, show m + 1 - 1 = m by omega] at ho1 hI2
          have hnz := nats_get ho1
          obtain ⟨og, rfl⟩ := own_some ho (by rw [nats_len]; omega)
          obtain ⟨hoo, foo⟩ := ho.cell hnz
          have ho3 := ho.take rfl m (by rw [nats_len]; omega)
          have hnt : (nats st).take m = nats (st.take m) := by simp [nats]
          rw [hnt] at ho3
          have hg1 : og ≠ gm := fun e => hom (by rw [e]; rfl)
          have hg2 : og ≠ gr := fun e => hor (by rw [e]; rfl)
          have hg3 := hg1.symm
          have hg4 := hg2.symm
          have hg5 := hgg.symm
          have hm2 := ((hm.set k o).set o k).other ⟨gr, k, none⟩ (by simp [Value.ownBlock]; exact hgg) (.int .i64 r)
          have hr2 := (((hr.other ⟨gm, k, none⟩ (by simp [Value.ownBlock]; exact hg5) (.int .i64 o)).other ⟨gm, o, none⟩ (by simp [Value.ownBlock]; exact hg5) (.int .i64 k))).set k r
          have ho4 := (((ho3.other ⟨gm, k, none⟩ (by simp [Value.ownBlock]; exact hg1) (.int .i64 o)).other ⟨gm, o, none⟩ (by simp [Value.ownBlock]; exact hg1) (.int .i64 k))).other ⟨gr, k, none⟩ (by simp [Value.ownBlock]; exact hg2) (.int .i64 r)
          have hk2 := ((hkw.setCell (p := ⟨gm, k, none⟩) (.inr hmg.1) (.int .i64 o)).setCell (p := ⟨gm, o, none⟩) (.inr hmg.1) (.int .i64 k)).setCell (p := ⟨gr, k, none⟩) (.inr hrg.1) (.int .i64 r)
          have hoz : o < zs.length := by omega
          have hok1 : ¬ o = k := by omega
          have hok2 : ¬ k = o := by omega
          have q1 : (wr.setCell ⟨gm, k, none⟩ (.int .i64 o)).cell? ⟨gm, o, none⟩ = some (.int .i64 x3) := by
            rw [World.cell?_setCell_other _ _ _ _ (by intro e; exact hok2 (congrArg Addr.off e))]; exact hmo
          have q2 : ((wr.setCell ⟨gm, k, none⟩ (.int .i64 o)).setCell ⟨gm, o, none⟩ (.int .i64 k)).cell? ⟨gr, k, none⟩ = some (.int .i64 x1) := by
            rw [World.cell?_setCell_other _ _ _ _ (by intro e; exact hgg (congrArg Addr.block e)), World.cell?_setCell_other _ _ _ _ (by intro e; exact hgg (congrArg Addr.block e))]; exact hrk
          have HI := Lib.hid (And.intro hI2 (And.intro hm2 (And.intro hr2 (And.intro ho4 hk2))))
          clear hI hI2 hm hm2 hr hr2 ho ho3 ho4 hk2 hbit hnt hnz hn hpr ho1 ho2 hr1 hlm hlr hok HN
          subst hnm
          go_wp2_with fail
          go_roundw
          case rel => exact ⟨k + 1, by omega, by go_num, _, _, _, HI.out.1, HI.out.2.1, HI.out.2.2.1, HI.out.2.2.2.1, hgg, by simp [Value.ownBlock]; exact hg1, by simp [Value.ownBlock]; exact hg2, HI.out.2.2.2.2⟩
          case measure => simp [intOf]; omega
        · rw [hz1] at hbit
          by_cases hs0 : n = 0
          · have hst0 : st = [] := List.eq_nil_of_length_eq_zero (by omega)
            have hI2 := hI.open (by rw [HB.out.2]; exact hlt) hbit (-1) (.inl ⟨hst0, rfl⟩)
            have hm2 := hm.other ⟨gr, k, none⟩ (by simp [Value.ownBlock]; exact hgg) (.int .i64 (-1))
            have hr2 := hr.set k (-1)
            have ho2 := ho.other ⟨gr, k, none⟩ hor (.int .i64 (-1))
            have hk2 := hkw.setCell (p := ⟨gr, k, none⟩) (.inr hrg.1) (.int .i64 (-1))
            have hsz2 : w.heap.size ≤ (wr.setCell ⟨gr, k, none⟩ (.int .i64 (-1))).heap.size := hk2.size
            have HI := Lib.hid (And.intro hI2 (And.intro hm2 (And.intro hr2 hk2)))
            clear hI hI2 hm hm2 hr hr2 ho hk2 hbit hn hst0 hlm hlr
            subst hs0
            go_wp2_with (at_builtin; refine append1n 0 rfl _ _ rfl w.heap.size (.slice oa 0 oc) (nats st) k HN wr.heap.size (by simp) rfl rfl ho2 hst hsz2 ?_; intro g2 cap2 w3 hown3 hk3 hat hg)
            have hfin := MSt.pushed HI.out.1 HI.out.2.1 HI.out.2.2.1 hown3 hk3 hgg hom hor ho2 hrg.1 hmg.1 HI.out.2.2.2 hat (by simpa using hmg.2) (by simpa using hrg.2)
            have HF := Lib.hid hfin
            clear hfin hown3 hk3 hat
            go_wp2
            go_roundw
            case rel => exact ⟨k + 1, by omega, by go_num, HF.out⟩
            case measure => simp [intOf]; omega
          · obtain ⟨o, hso⟩ : ∃ o, st[st.length - 1]? = some o := ⟨_, List.getElem?_eq_getElem (by omega)⟩
            obtain ⟨m, hnm⟩ : ∃ m, n = m + 1 := ⟨n - 1, by omega⟩
            have hI2 := hI.open (by rw [HB.out.2]; exact hlt) hbit o (.inr ⟨o, hso, by omega, rfl⟩)
            rw [← hn, hnm, show m + 1 - 1 = m by omega] at hso
            have hnz := nats_get hso
            obtain ⟨og, rfl⟩ := own_some ho (by rw [nats_len]; omega)
            obtain ⟨hoo, foo⟩ := ho.cell hnz
            have hg1 : og ≠ gm := fun e => hom (by rw [e]; rfl)
            have hg2 : og ≠ gr := fun e => hor (by rw [e]; rfl)
            have hg3 := hg1.symm
            have hg4 := hg2.symm
            have hg5 := hgg.symm
            have hm2 := (hm.other ⟨gr, k, none⟩ (by simp [Value.ownBlock]; exact hgg) (.int .i64 (-1))).other ⟨gr, k, none⟩ (by simp [Value.ownBlock]; exact hgg) (.int .i64 o)
            have hr2 := (hr.set k (-1)).set k o
            rw [List.set_set] at hr2
            have ho2 := (ho.other ⟨gr, k, none⟩ hor (.int .i64 (-1))).other ⟨gr, k, none⟩ hor (.int .i64 o)
            have hk2 := (hkw.setCell (p := ⟨gr, k, none⟩) (.inr hrg.1) (.int .i64 (-1))).setCell (p := ⟨gr, k, none⟩) (.inr hrg.1) (.int .i64 o)
            have hsz2 : w.heap.size ≤ ((wr.setCell ⟨gr, k, none⟩ (.int .i64 (-1))).setCell ⟨gr, k, none⟩ (.int .i64 o)).heap.size := hk2.size
            have q1 : (wr.setCell ⟨gr, k, none⟩ (.int .i64 (-1))).cell? ⟨og, m, none⟩ = some (.int .i64 o) := by
              rw [World.cell?_setCell_other _ _ _ _ (by intro e; exact hg4 (congrArg Addr.block e))]; exact hoo
            have q2 : (wr.setCell ⟨gr, k, none⟩ (.int .i64 (-1))).cell? ⟨gr, k, none⟩ = some (.int .i64 (-1)) := World.cell?_setCell_same _ _ _ hrk
            have HI := Lib.hid (And.intro hI2 (And.intro hm2 (And.intro hr2 hk2)))
            clear hI hI2 hm hm2 hr hr2 ho hk2 hbit hn hlm hlr hso hnz
            subst hnm
            go_wp2_with (at_builtin; refine append1n (m + 1) rfl _ _ rfl w.heap.size (.slice (some ⟨og, 0, none⟩) (m + 1) oc) (nats st) k HN wr.heap.size (by simp) rfl rfl ho2 hst hsz2 ?_; intro g2 cap2 w3 hown3 hk3 hat hg)
            have hfin := MSt.pushed HI.out.1 HI.out.2.1 HI.out.2.2.1 hown3 hk3 hgg hom hor ho2 hrg.1 hmg.1 HI.out.2.2.2 hat (by simpa using hmg.2) (by simpa using hrg.2)
            have HF := Lib.hid hfin
            clear hfin hown3 hk3 hat
            go_wp2
            go_roundw
            case rel => exact ⟨k + 1, by omega, by go_num, HF.out⟩
            case measure => simp [intOf]; omega
      · obtain rfl : k = zs.length := by omega
        have hfin : MSt w (bitsOf zs) gm gr zs.length (.slice oa n oc) wr := ⟨ms, rs, st, hI, hm, hr, ho, hgg, hom, hor, hkw⟩
        have HF := Lib.hid hfin
        clear hfin hS hI hm hr ho hom hor hkw hc h01 hn hlm hlr
        go_wp2
        go_ret2
        exact ⟨gm, gr, _, rfl, HF.out⟩

end Go.Proofs.Ytlciacpffoekjaa

/- Layer 3's statements: made, awake. -/
namespace Go.Proofs.Ytlciacpffoekjaa
open Go.RowKit

set_option maxRecDepth 100000 in
set_option maxHeartbeats 1000000 in
theorem made03_any (sv : Value) (zs : List Int) (w : World) (hs : Sl .i64 w sv zs) (hsv : ∀ k, sv.ownBlock = some k → k < w.heap.size) (hl : zs.length ≤ 1000000) (hB : Bal (bitsOf zs)) :
    Calls Try.prog 40 #[sv] w fun e w' => ∃ b F, e = .returned (.tuple #[.pointer (some ⟨b, 0, none⟩), sv, .bool true]) ∧ ParAt w' b (bitsOf zs) false 0 F ∧ (∀ x, F x → w.heap.size ≤ x) ∧ Keeps (fun _ => False) w w' := by
  have hbl := bitsOf_length zs
  have k0 := (Keeps.refl (fun _ => False) w).alloc (.cells #[.slice none 0 0, .int .i64 0] 111)
  have hA := Add_any w.heap.size (.slice none 0 0) [] sv zs _ (vec_new w) (hs.keeps k0 (fun _ _ h => h)) (fun k hk => ⟨by have := hsv k hk; omega, by simp [Value.ownBlock]⟩) (by simp; omega)
  have HB := Lib.hid hB
  clear hs hB
  go_enter Try.func40, Try.ntmps40
  go_wp2_with fail
  refine (new_any _).mono ?_
  rintro e w1 ⟨rfl, rfl⟩
  go_wp2_with fail
  refine hA.mono ?_
  rintro e w2 ⟨rfl, v2, hv2, hk2, hf2⟩
  simp only [List.nil_append] at hv2
  have k2 := k0.trans hk2 (fun x hx h => by
    rcases h with rfl | h
    · omega
    · simp [Value.ownBlock] at h)
  have hN := parNew_good w.heap.size v2 (bitsOf zs) w2 hv2 (by omega) HB.out
  have hvb : ∀ k, v2.ownBlock = some k → w.heap.size ≤ k := by
    intro k hk
    rcases hf2 with h | ⟨k', h, hk'⟩
    · rw [h] at hk; simp [Value.ownBlock] at hk
    · rw [h] at hk; cases hk; simp at hk'; omega
  clear hA hk2 k0 hf2
  go_wp2_with fail
  refine hN.mono ?_
  rintro e w3 ⟨b, rfl, hP, hk3⟩
  have hv3 := hv2.keeps hk3 (fun h => h) (fun _ _ h => h)
  have hA3 := Add_any w.heap.size v2 (bitsOf zs) (.slice (some ⟨w3.heap.size, 0, none⟩) 1 1) [1] (w3.alloc (.cells #[.int .i64 1] 3))
        (hv3.keeps ((Keeps.refl (fun _ => False) w3).alloc _) (fun h => h) (fun _ _ h => h)) (Sl.one w3 .i64 1 _) (by
          intro x hx
          simp only [Value.ownBlock, Option.some.injEq] at hx
          subst hx
          exact ⟨fun e => by have := hv3.lt; omega, fun e => by have := (hv3.apart _ e).2; omega⟩) (by simp; omega)
  clear hN
  go_wp2_with fail
  refine hA3.mono ?_
  rintro e w4 ⟨rfl, v4, hv4, hk4, hf4⟩
  have hlt2 := hv2.lt
  have hap2 := fun x hx => (hv2.apart x hx).2
  have hk5 : Keeps (fun x => x = w.heap.size ∨ v2.ownBlock = some x) w3 w4 := ((Keeps.refl _ w3).alloc _).trans hk4 (fun _ _ h => h)
  have hfin : ParAt w4 b (bitsOf zs) false 0 (fun k => w2.heap.size ≤ k ∧ k < w3.heap.size) ∧ (∀ x, (w2.heap.size ≤ x ∧ x < w3.heap.size) → w.heap.size ≤ x) ∧ Keeps (fun _ => False) w w4 := by
    refine ⟨hP.keeps hk5 ?_, fun x hx => Nat.le_trans k2.size hx.1, (k2.trans hk3 (fun _ _ h => h)).trans hk5 ?_⟩
    · rintro x hx (rfl | h)
      · omega
      · have := hap2 x h; omega
    · rintro x hx (rfl | h)
      · omega
      · have := hvb x h; omega
  have HF := Lib.hid hfin
  clear hfin hk5 hf4 hk4 hv4 hA3 hv3 hP hk3 k2 hap2
  go_wp2
  refine bodyPost_ret (v := .tuple #[.pointer (some ⟨b, 0, none⟩), sv, .bool true]) (by simp [results, Try.results40, go_sem]) rfl ⟨b, _, rfl, HF.out⟩

def l6 : List Bool := bitsOf [1, 1, 0, 1, 0, 0]
theorem bal6 : Bal (bitsOf [1, 1, 0, 1, 0, 0]) := ⟨by decide, fun p hp => by
  have h : ∀ p, p < 7 → 0 ≤ ex (bitsOf [1, 1, 0, 1, 0, 0]) p := by decide
  exact h p (by have : (bitsOf [1, 1, 0, 1, 0, 0]).length = 6 := rfl; omega)⟩
theorem pair05 : IsPair (bitsOf [1, 1, 0, 1, 0, 0]) 0 5 := ⟨by decide, by decide, by decide, fun p h1 h2 => by
  have h : ∀ p, p < 6 → 0 < p → ex (bitsOf [1, 1, 0, 1, 0, 0]) 0 < ex (bitsOf [1, 1, 0, 1, 0, 0]) p := by decide
  exact h p (by omega) h1⟩
theorem round3 : RoundOf (bitsOf [1, 1, 0, 1, 0, 0]) 3 0 := .inl ⟨by decide, .inr ⟨by decide, 0, rfl, by decide, by decide, by decide, fun p h1 h2 => by
  have h : ∀ p, p < 4 → 0 < p → ex (bitsOf [1, 1, 0, 1, 0, 0]) 3 - 1 < ex (bitsOf [1, 1, 0, 1, 0, 0]) p := by decide
  exact h p (by omega) h1⟩⟩
theorem round0 : RoundOf (bitsOf [1, 1, 0, 1, 0, 0]) 0 (-1) := .inl ⟨by decide, .inl ⟨by decide, rfl⟩⟩
theorem ex62 : ex (bitsOf [1, 1, 0, 1, 0, 0]) 2 = 2 := by decide

theorem Sl.six (w : World) (a b c d e f : Int) (t : TypeId) : Sl .i64 (w.alloc (.cells #[.int .i64 a, .int .i64 b, .int .i64 c, .int .i64 d, .int .i64 e, .int .i64 f] t)) (.slice (some ⟨w.heap.size, 0, none⟩) 6 6) [a, b, c, d, e, f] := by
  refine ⟨_, 6, rfl, by simp, by decide, (fun h => by cases h), fun j x hj => ⟨_, _, rfl, ?_⟩⟩
  rw [World.cell_of_heap (heap_alloc_new w _)]
  have hj6 : j < 6 := by
    rcases Nat.lt_or_ge j 6 with h | h
    · exact h
    · rw [List.getElem?_eq_none (by simpa using h)] at hj; cases hj
  match j, hj6 with
  | 0, _ => cases hj; rfl
  | 1, _ => cases hj; rfl
  | 2, _ => cases hj; rfl
  | 3, _ => cases hj; rfl
  | 4, _ => cases hj; rfl
  | 5, _ => cases hj; rfl

set_option maxRecDepth 100000 in
set_option maxHeartbeats 2000000 in
theorem awake03_any (w : World) :
    Calls Try.prog 32 #[] w fun e w' => e = .returned (.bool true) ∧ Keeps (fun _ => False) w w' := by
  have hnot : ∀ (x : Bool) (w : World), (Op.unary .not (.bool x)).run Try.prog w = .ok (.bool (!x)) w := fun _ _ => rfl
  have hM := made03_any (.slice (some ⟨w.heap.size, 0, none⟩) 6 6) [1, 1, 0, 1, 0, 0] (w.alloc (.cells #[.int .i64 1, .int .i64 1, .int .i64 0, .int .i64 1, .int .i64 0, .int .i64 0] 3)) (Sl.six w 1 1 0 1 0 0 _) (fun k hk => by simp only [Value.ownBlock, Option.some.injEq] at hk; subst hk; simp) (by simp) bal6
  have hlen : (bitsOf [1, 1, 0, 1, 0, 0]).length = 6 := rfl
  go_enter Try.func32, Try.ntmps32
  go_wp2_with fail
  refine hM.mono ?_
  rintro e w1 ⟨b, F, rfl, hP0, hFw, hk⟩
  have hF := hP0.old
  have hP := hP0.after
  clear hM hP0
  have k1 : Keeps (fun _ => False) w w1 := ((Keeps.refl _ w).alloc _).trans hk (fun _ _ h => h)
  have hfin : ∀ W done q, ParAfter w1 b (bitsOf [1, 1, 0, 1, 0, 0]) done q F W → Keeps (fun _ => False) w W := fun W done q h => k1.trans h.2 (fun x hx h => by have := hFw x h; simp at this; omega)
  have HF := Lib.hid hfin
  clear hfin hk k1 hFw
  have q1 := Mate_in hF hP 0 5 (by omega) (by rw [hlen]; omega) pair05.mate_l
  clear hP
  go_wp2_with fail
  refine q1.mono ?_
  rintro e w2 ⟨rfl, hP⟩
  have q2 := Round_in hF hP 3 0 (by omega) (by rw [hlen]; omega) round3
  clear q1 hP
  go_wp2_with fail
  refine q2.mono ?_
  rintro e w3 ⟨rfl, hP⟩
  have q3 := Round_in hF hP 0 (-1) (by omega) (by rw [hlen]; omega) round0
  clear q2 hP
  go_wp2_with fail
  refine q3.mono ?_
  rintro e w4 ⟨rfl, hP⟩
  have q4 := Excess_in hF hP 2 (by omega) (by rw [hlen]; omega)
  rw [ex62] at q4
  clear q3 hP
  go_wp2_with fail
  refine q4.mono ?_
  rintro e w5 ⟨rfl, hP⟩
  have HK := Lib.hid (HF.out _ _ _ hP)
  clear q4 hP HF hF
  go_wp2
  go_ret
  exact ⟨rfl, HK.out⟩

end Go.Proofs.Ytlciacpffoekjaa
