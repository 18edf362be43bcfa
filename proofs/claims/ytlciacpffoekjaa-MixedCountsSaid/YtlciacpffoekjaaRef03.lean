/- The references of layer 3: Good, Excess, Any. -/
import Derived.Test.YtlciacpffoekjaaIdx
import Derived.Test.YtlciacpffoekjaaLow
namespace Go.Proofs.Ytlciacpffoekjaa
open Go.RowKit

theorem ex_snoc (l : List Bool) (b : Bool) : ex (l ++ [b]) (l.length + 1) = ex l l.length + if b then 1 else -1 := by
  rw [ex_append_add]
  cases b <;> rfl

theorem bitsOf_getD {zs : List Int} (h : ∀ z ∈ zs, z = 0 ∨ z = 1) {k : Nat} {z : Int} (hz : zs[k]? = some z) : (bitsOf zs).getD k false = (z == 1) := by
  have h1 := bit_back h hz
  have h2 := h z (List.mem_of_getElem? hz)
  cases hb : (bitsOf zs).getD k false <;> rw [hb] at h1 <;> simp at h1 <;> subst h1 <;> rfl

set_option maxRecDepth 100000 in
set_option maxHeartbeats 1000000 in
theorem refGood_any (sv : Value) (zs : List Int) (w : World) (hs : Sl .i64 w sv zs) (h01 : ∀ z ∈ zs, z = 0 ∨ z = 1) (hl : zs.length ≤ 100000000) :
    Calls Try.prog 37 #[sv] w fun e w' => SaysBal (bitsOf zs) e ∧ w = w' := by
  obtain ⟨a, cap, rfl, hnc, hcm, _, hc⟩ := hs
  have hbl := bitsOf_length zs
  go_enter Try.func37, Try.ntmps37
  go_wp2_with fail
  go_loop [3, 8] (fun n i => ∃ k : Nat, k ≤ zs.length ∧ i = .int .i64 k ∧ n = .int .i64 (ex (bitsOf zs) k) ∧ ∀ p, p ≤ k → 0 ≤ ex (bitsOf zs) p) (fun _ i => zs.length - (intOf i).toNat)
  case atStart =>
    refine ⟨0, Nat.zero_le _, rfl, by rw [ex_zero], fun p hp => ?_⟩
    obtain rfl : p = 0 := by omega
    rw [ex_zero]; omega
  case round =>
    obtain ⟨k, hk, rfl, rfl, hall⟩ := hrel
    have hb := ex_abs (bitsOf zs) k (by omega)
    by_cases hlt : k < zs.length
    · have hz := List.getElem?_eq_getElem (l := zs) (i := k) (by omega)
      obtain ⟨g, off, rfl, hcell⟩ := hc k _ hz
      have hs := bit_ex (bitsOf zs) (p := k) (by omega)
      rw [bitsOf_getD h01 hz] at hs
      have hb2 := ex_abs (bitsOf zs) (k + 1) (by omega)
      generalize zs[k] = z at *
      have HA := Lib.hid hall
      clear hall hz hc
      cases hz1 : (z == 1)
      · rw [hz1, if_neg (by simp)] at hs
        by_cases hneg : ex (bitsOf zs) (k + 1) < 0
        · have HN := Lib.hid hneg
          have tn : ex (bitsOf zs) k - 1 < 0 := by omega
          clear hs hneg hb2
          generalize ex (bitsOf zs) k = x at *
          go_wp2
          go_ret
          refine ⟨⟨false, rfl, by simp; intro hB; have := hB.2 (k + 1) (by omega); have := HN.out; omega⟩, rfl⟩
        · have HN := Lib.hid (And.intro hneg hs)
          have tn : 1 ≤ ex (bitsOf zs) k := by omega
          clear hs hneg hb2
          generalize ex (bitsOf zs) k = x at *
          go_wp2
          go_round
          case rel =>
            refine ⟨k + 1, by omega, by go_num, by rw [HN.out.2], fun p hp => ?_⟩
            by_cases hp2 : p ≤ k
            · exact HA.out p hp2
            · obtain rfl : p = k + 1 := by omega
              have := HN.out.1; omega
          case measure => simp [intOf]; omega
      · rw [hz1, if_pos rfl] at hs
        have hx0 : 0 ≤ ex (bitsOf zs) k := HA.out k (Nat.le_refl _)
        have HN := Lib.hid hs
        clear hs hb2
        generalize hxx : ex (bitsOf zs) k = x at *
        have HX := Lib.hid hxx
        clear hxx
        go_wp2
        go_round
        case rel =>
          refine ⟨k + 1, by omega, by go_num, by rw [HN.out], fun p hp => ?_⟩
          by_cases hp2 : p ≤ k
          · exact HA.out p hp2
          · obtain rfl : p = k + 1 := by omega
            have := HN.out; omega
        case measure => simp [intOf]; omega
    · obtain rfl : k = zs.length := by omega
      have HA := Lib.hid hall
      clear hall hc
      generalize hx : ex (bitsOf zs) zs.length = x at *
      have HX := Lib.hid hx
      clear hx
      go_wp2
      go_ret
      refine ⟨⟨_, rfl, ?_⟩, rfl⟩
      simp only [beq_iff_eq]
      unfold Bal
      rw [hbl, HX.out]
      exact ⟨fun h => ⟨h, HA.out⟩, fun h => h.1⟩

set_option maxRecDepth 100000 in
set_option maxHeartbeats 1000000 in
theorem refExcess_any (sv : Value) (zs : List Int) (n : Nat) (w : World) (hs : Sl .i64 w sv zs) (h01 : ∀ z ∈ zs, z = 0 ∨ z = 1) (hl : zs.length ≤ 100000000) (hn : n ≤ zs.length) :
    Calls Try.prog 47 #[sv, .int .i64 n] w fun e w' => e = .returned (.int .i64 (ex (bitsOf zs) n)) ∧ w = w' := by
  obtain ⟨a, cap, rfl, hnc, hcm, _, hc⟩ := hs
  have hbl := bitsOf_length zs
  go_enter Try.func47, Try.ntmps47
  go_wp2_with fail
  go_loop [5, 12] (fun n' i => ∃ k : Nat, k ≤ n ∧ i = .int .i64 k ∧ n' = .int .i64 (ex (bitsOf zs) k)) (fun _ i => n - (intOf i).toNat)
  case atStart => exact ⟨0, Nat.zero_le _, rfl, by rw [ex_zero]⟩
  case round =>
    obtain ⟨k, hk, rfl, rfl⟩ := hrel
    have hb := ex_abs (bitsOf zs) k (by omega)
    by_cases hlt : k < n
    · have hz := List.getElem?_eq_getElem (l := zs) (i := k) (by omega)
      obtain ⟨g, off, rfl, hcell⟩ := hc k _ hz
      have hs := ex_succ (bitsOf zs) (p := k) (by omega)
      unfold stepZ at hs
      rw [bit_back h01 hz] at hs
      have hzb := h01 _ (List.mem_of_getElem? hz)
      generalize zs[k] = z at *
      have hzb2 : 0 ≤ z ∧ z ≤ 1 := by omega
      have HS := Lib.hid hs
      clear hz hc hs hzb
      generalize ex (bitsOf zs) k = x at *
      go_wp2
      go_round
      case rel => exact ⟨k + 1, by omega, by go_num, by rw [HS.out]⟩
      case measure => simp [intOf]; omega
    · obtain rfl : k = n := by omega
      clear hc
      go_wp2
      go_ret
      exact ⟨rfl, rfl⟩

/-- What Any has when it has gone round so often. -/
def AnyS (w : World) (P k o : Nat) (lv : Value) (wr : World) : Prop :=
  ∃ zs, OwnI w.heap.size wr lv zs ∧ zs.length = k ∧ (∀ z ∈ zs, z = 0 ∨ z = 1) ∧ ex (bitsOf zs) k = o ∧ (∀ p, p ≤ k → 0 ≤ ex (bitsOf zs) p) ∧ o + k ≤ 2 * P ∧ (o + k) % 2 = 0 ∧ Keeps (fun _ => False) w wr

theorem AnyS.start (w : World) (P : Nat) : AnyS w P 0 0 (.slice none 0 0) w := by
  refine ⟨[], OwnI.nil _ _, rfl, fun z hz => by simp at hz, by rw [ex_zero]; rfl, fun p hp => ?_, by omega, rfl, Keeps.refl _ _⟩
  obtain rfl : p = 0 := by omega
  rw [ex_zero]; omega

theorem AnyS.push {w wr w1 : World} {P k o o' : Nat} {lv lv' : Value} {zs : List Int} {z : Int} (hz : z = 0 ∨ z = 1) (hl : zs.length = k) (h01 : ∀ z ∈ zs, z = 0 ∨ z = 1) (hx : ex (bitsOf zs) k = o) (h0 : ∀ p, p ≤ k → 0 ≤ ex (bitsOf zs) p)
    (ho : (o' : Int) = o + (if z = 1 then 1 else -1)) (hP : o' + (k + 1) ≤ 2 * P) (hpar : (o + k) % 2 = 0) (hk : Keeps (fun _ => False) w wr) (hown : OwnI w.heap.size wr lv zs)
    (hown2 : OwnI w.heap.size w1 lv' (zs ++ [z])) (hk2 : Keeps (fun k => lv.ownBlock = some k) wr w1) : AnyS w P (k + 1) o' lv' w1 := by
  have hb : bitsOf (zs ++ [z]) = bitsOf zs ++ [z == 1] := by
    rw [bitsOf_append]
    congr 1
    rcases hz with rfl | rfl <;> rfl
  have hbl := bitsOf_length zs
  have hxs := ex_snoc (bitsOf zs) (z == 1)
  rw [hbl, hl, hx] at hxs
  have hi : (if (z == 1) = true then (1 : Int) else -1) = (if z = 1 then 1 else -1) := by rcases hz with rfl | rfl <;> rfl
  rw [hi] at hxs
  refine ⟨zs ++ [z], hown2, by simp [hl], fun y hy => ?_, by rw [hb, hxs, ho], fun p hp => ?_, hP, ?_, hk.trans hk2 (fun x hx h => by have := (hown.lt x h).1; omega)⟩
  · rcases List.mem_append.1 hy with h | h
    · exact h01 y h
    · rw [List.mem_singleton.1 h]; exact hz
  · rw [hb]
    by_cases hpk : p ≤ k
    · rw [ex_append_le _ _ (by omega)]; exact h0 p hpk
    · obtain rfl : p = k + 1 := by omega
      rw [hxs]; omega
  · split at ho <;> omega

theorem AnyS.up {w wr w1 : World} {P o : Nat} {lv lv' : Value} {zs : List Int} (hZ : (∀ z ∈ zs, z = 0 ∨ z = 1) ∧ ex (bitsOf zs) zs.length = o ∧ (∀ p, p ≤ zs.length → 0 ≤ ex (bitsOf zs) p) ∧ (o + zs.length) % 2 = 0 ∧ ((o = 0 ∨ o < 2 * P - zs.length) → o + 1 + (zs.length + 1) ≤ 2 * P) ∧ (¬ o = 0 → o - 1 + (zs.length + 1) ≤ 2 * P ∧ ((o - 1 : Nat) : Int) = o + -1))
    (ho : o = 0 ∨ (o : Int) < 2 * (P : Int) - (zs.length : Int)) (hk : Keeps (fun _ => False) w wr) (hown : OwnI w.heap.size wr lv zs) (hown2 : OwnI w.heap.size w1 lv' (zs ++ [1])) (hk2 : Keeps (fun k => lv.ownBlock = some k) wr w1) : AnyS w P (zs.length + 1) (o + 1) lv' w1 :=
  AnyS.push (.inr rfl) rfl hZ.1 hZ.2.1 hZ.2.2.1 (by simp) (hZ.2.2.2.2.1 (by omega)) hZ.2.2.2.1 hk hown hown2 hk2

theorem AnyS.down {w wr w1 : World} {P o : Nat} {lv lv' : Value} {zs : List Int} (hZ : (∀ z ∈ zs, z = 0 ∨ z = 1) ∧ ex (bitsOf zs) zs.length = o ∧ (∀ p, p ≤ zs.length → 0 ≤ ex (bitsOf zs) p) ∧ (o + zs.length) % 2 = 0 ∧ ((o = 0 ∨ o < 2 * P - zs.length) → o + 1 + (zs.length + 1) ≤ 2 * P) ∧ (¬ o = 0 → o - 1 + (zs.length + 1) ≤ 2 * P ∧ ((o - 1 : Nat) : Int) = o + -1))
    (ho : ¬ o = 0) (hk : Keeps (fun _ => False) w wr) (hown : OwnI w.heap.size wr lv zs) (hown2 : OwnI w.heap.size w1 lv' (zs ++ [0])) (hk2 : Keeps (fun k => lv.ownBlock = some k) wr w1) : AnyS w P (zs.length + 1) (o - 1) lv' w1 :=
  AnyS.push (.inl rfl) rfl hZ.1 hZ.2.1 hZ.2.2.1 (by rw [(hZ.2.2.2.2.2 ho).2]; simp) (hZ.2.2.2.2.2 ho).1 hZ.2.2.2.1 hk hown hown2 hk2

set_option maxRecDepth 100000 in
set_option maxHeartbeats 4000000 in
theorem refAny_any (pv : Value) (ps : List Nat) (P : Nat) (w : World) (hp : Sl .u8 w pv (nats ps)) (hps : ∀ b ∈ ps, b < 256) (hP : P ≤ 100000) :
    Calls Try.prog 41 #[.int .i64 P, pv] w fun e w' => ∃ v zs, e = .returned v ∧ OwnI w.heap.size w' v zs ∧ zs.length = 2 * P ∧ (∀ z ∈ zs, z = 0 ∨ z = 1) ∧ Bal (bitsOf zs) ∧ Keeps (fun _ => False) w w' := by
  obtain ⟨a, cap, rfl, hnc, hcm, _, hc⟩ := hp
  have hnl : (nats ps).length = ps.length := by simp [nats]
  rw [hnl] at hnc ⊢
  clear hnl
  go_enter Try.func41, Try.ntmps41
  go_wp2_with fail
  go_loopw [5, 6, 7] (fun lv o i wr => ∃ k o' : Nat, i = .int .i64 k ∧ o = .int .i64 o' ∧ AnyS w P k o' lv wr) (fun _ _ i _ => 2 * P - (intOf i).toNat)
  case atStart => exact ⟨0, 0, rfl, rfl, AnyS.start _ _⟩
  case round =>
    obtain ⟨k, o, rfl, rfl, zs, hown, rfl, h01, hx, h0, hoP, hpar, hkw⟩ := hrel
    obtain ⟨la, lc, rfl, hlc, hlc2⟩ := hown.form
    have hsz := hkw.size
    have hzl2 : zs.length ≤ 10000000000 := by omega
    by_cases hlt : zs.length < 2 * P
    · have hdec : (o = 0 ∨ o < 2 * P - zs.length) → o + 1 + (zs.length + 1) ≤ 2 * P := by omega
      have hdec2 : ¬ o = 0 → o - 1 + (zs.length + 1) ≤ 2 * P ∧ ((o - 1 : Nat) : Int) = o + -1 := by omega
      have HZ := Lib.hid (And.intro h01 (And.intro hx (And.intro h0 (And.intro hpar (And.intro hdec hdec2)))))
      clear h01 hx h0 hpar hdec hdec2
      by_cases hp0 : 0 < ps.length
      · obtain ⟨r, hr⟩ : ∃ r, r = zs.length % ps.length := ⟨_, rfl⟩
        have hrl : r < ps.length := by rw [hr]; exact Nat.mod_lt _ hp0
        obtain ⟨g, off, rfl, hcell⟩ := hc r ps[r] (by simp [nats, hrl])
        have hb := hps ps[r] (List.getElem_mem hrl)
        have hcell1 : wr.cell? ⟨g, off + r, none⟩ = some (.int .u8 (ps[r] : Nat)) := hkw.cellF hcell
        obtain ⟨d, hd⟩ : ∃ d, d = zs.length / ps.length := ⟨_, rfl⟩
        obtain ⟨t, ht⟩ : ∃ t, t = d % 3 := ⟨_, rfl⟩
        have ht3 : t < 3 := by omega
        have e1 : (zs.length : Int).tmod (ps.length : Int) = (r : Int) := by rw [hr, Int.tmod_eq_emod_of_nonneg (by omega)]; simp
        have e2 : (zs.length : Int).tdiv (ps.length : Int) = (d : Int) := by rw [hd, Int.tdiv_eq_ediv_of_nonneg (by omega)]; simp
        have e3 : (d : Int).tmod 3 = (t : Int) := by rw [ht, Int.tmod_eq_emod_of_nonneg (by omega)]; simp
        have e4 : IntKind.i64.wrap (1 + (t : Int)) = 1 + (t : Int) := IntWalk.i64_in _ (by omega)
        have e5 : IntKind.u8.wrap (1 + (t : Int)) = 1 + (t : Int) := by rw [IntKind.wrap_u8]; omega
        have e6 : ((1 + (t : Int)) == 0) = false := by rw [beq_eq_false_iff_ne]; omega
        have e7 : (0 : Int) ≤ (r : Int) := by omega
        have e8 : (r : Int) < (ps.length : Int) := by omega
        have HR := Lib.hid (And.intro hr (And.intro hd ht))
        clear hr hd ht hc hps hcell
        generalize ps[r] = y at *
        clear hrl
        generalize ps.length = m at *
        have e9 : ¬ m = 0 := by omega
        have e10 : ¬ 1 + (t : Int) = 0 := by omega
        have hd2 : d ≤ zs.length := by rw [HR.out.2.1]; exact Nat.div_le_self _ _
        have e11 : IntKind.i64.wrap (d : Int) = (d : Int) := IntWalk.i64_in _ (by omega)
        obtain ⟨v, hv⟩ : ∃ v, v = y / (1 + t) := ⟨_, rfl⟩
        have hv2 : v ≤ y := by rw [hv]; exact Nat.div_le_self _ _
        have e12 : (y : Int).tdiv (1 + (t : Int)) = (v : Int) := by rw [hv, Int.tdiv_eq_ediv_of_nonneg (by omega)]; simp
        have e13 : IntKind.u8.wrap (v : Int) = (v : Int) := by rw [IntKind.wrap_u8]; omega
        clear hv
        go_wp2_with fail
        go_quiet (fail)
        clear e1 e2 e3 e4 e5 e6 e7 e8 e9 e10 e11 e12 e13
        have hown2 : OwnI w.heap.size (wr.drewN nq) (.slice la zs.length lc) zs := hown.keeps ((Keeps.refl (fun _ => False) wr).drewN nq) (fun _ _ h => h)
        have hsz2 : w.heap.size ≤ (wr.drewN nq).heap.size := hsz
        have hkw2 : Keeps (fun _ => False) w (wr.drewN nq) := hkw.drewN nq
        clear hown hkw hsz hcell1
        generalize wr.drewN nq = w2 at *
        go_wp2_with (at_builtin; refine append1 rfl _ _ rfl w.heap.size (.slice la zs.length lc) zs _ _ rfl rfl rfl hown2 hzl2 hsz2 ?_; intro g2 cap2 w3 hown3 hk3 hat hg)
        all_goals
          (have HO : Hid (OwnI w.heap.size w3 _ _) := Lib.hid hown3
           clear hown3
           first
           | exact ⟨⟨zs.length + 1, o + 1, by go_num, by first | go_num | (simp; omega), AnyS.up HZ.out (by omega) hkw2 hown2 HO.out hk3⟩, by simp [intOf]; omega⟩
           | exact ⟨⟨zs.length + 1, o - 1, by go_num, by go_num, AnyS.down HZ.out (by omega) hkw2 hown2 HO.out hk3⟩, by simp [intOf]; omega⟩)
      · obtain ⟨hown2, hsz2, hkw2⟩ : OwnI w.heap.size wr (.slice la zs.length lc) zs ∧ w.heap.size ≤ wr.heap.size ∧ Keeps (fun _ => False) w wr := ⟨hown, hsz, hkw⟩
        have hp00 : ps.length = 0 := by omega
        clear hown hkw hsz hc hps hp0
        generalize ps.length = m at *
        subst hp00
        go_wp2_with (at_builtin; refine append1 rfl _ _ rfl w.heap.size (.slice la zs.length lc) zs _ _ rfl rfl rfl hown2 hzl2 hsz2 ?_; intro g2 cap2 w3 hown3 hk3 hat hg)
        all_goals
          (have HO : Hid (OwnI w.heap.size w3 _ _) := Lib.hid hown3
           clear hown3
           first
           | exact ⟨⟨zs.length + 1, o + 1, by go_num, by first | go_num | (simp; omega), AnyS.up HZ.out (by omega) hkw2 hown2 HO.out hk3⟩, by simp [intOf]; omega⟩
           | exact ⟨⟨zs.length + 1, o - 1, by go_num, by go_num, AnyS.down HZ.out (by omega) hkw2 hown2 HO.out hk3⟩, by simp [intOf]; omega⟩)
    · obtain rfl : o = 0 := by omega
      have hfin : zs.length = 2 * P ∧ (∀ z ∈ zs, z = 0 ∨ z = 1) ∧ Bal (bitsOf zs) := ⟨by omega, h01, by rw [bitsOf_length, hx]; rfl, fun p hp => h0 p (by rw [bitsOf_length] at hp; omega)⟩
      have HF := Lib.hid hfin
      clear hx h0 h01 hfin hc hps
      go_wp2
      go_ret
      exact ⟨_, zs, rfl, hown, HF.out.1, HF.out.2.1, HF.out.2.2, hkw⟩

end Go.Proofs.Ytlciacpffoekjaa
