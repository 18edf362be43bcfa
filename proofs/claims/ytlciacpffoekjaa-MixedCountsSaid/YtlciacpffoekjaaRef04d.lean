/- The references of layer 4: Any. -/
import Derived.Test.YtlciacpffoekjaaRef04c
import Derived.Test.YtlciacpffoekjaaRef03
import Derived.Deep.CutRange
namespace Go.Proofs.Ytlciacpffoekjaa
open Go.RowKit

/-- Never below nought, and so much at the end. -/
def NN (l : List Bool) (x : Nat) : Prop := ex l l.length = x ∧ ∀ p, p ≤ l.length → 0 ≤ ex l p

theorem NN.nil : NN [] 0 := ⟨by rw [List.length_nil, ex_zero]; rfl, fun p hp => by
  obtain rfl : p = 0 := by simpa using hp
  rw [ex_zero]; omega⟩

theorem NN.snoc {l : List Bool} {x y : Nat} (h : NN l x) (b : Bool) (hy : (y : Int) = x + if b then 1 else -1) : NN (l ++ [b]) y := by
  have hxs := ex_snoc l b
  rw [h.1, ← hy] at hxs
  refine ⟨by simpa using hxs, fun p hp => ?_⟩
  by_cases hpk : p ≤ l.length
  · rw [ex_append_le _ _ hpk]; exact h.2 p hpk
  · obtain rfl : p = l.length + 1 := by simp at hp; omega
    rw [hxs]; omega

/-- What Any knows when it has laid so many. -/
structure AnyK (P : Nat) (ks : List Nat) (r e : Nat) : Prop where
  k4 : ∀ k ∈ ks, k < 4
  n0 : NN (ownB 0 ks) r
  n1 : NN (ownB 1 ks) e
  le : r + e + ks.length ≤ 2 * P
  par : (r + e + ks.length) % 2 = 0

theorem AnyK.start (P : Nat) : AnyK P [] 0 0 := ⟨fun k h => by simp at h, NN.nil, NN.nil, by simp, rfl⟩

theorem k4_snoc {ks : List Nat} {k : Nat} (h : ∀ k ∈ ks, k < 4) (hk : k < 4) : ∀ x ∈ ks ++ [k], x < 4 := by
  intro x hx
  rcases List.mem_append.1 hx with h' | h'
  · exact h x h'
  · rw [List.mem_singleton.1 h']; exact hk

theorem AnyK.push0 {P : Nat} {ks : List Nat} {r e : Nat} (h : AnyK P ks r e) (hr : r + e + ks.length < 2 * P) : AnyK P (ks ++ [0]) (r + 1) e := by
  have hp := h.par
  refine ⟨k4_snoc h.k4 (by omega), ?_, ?_, by simp; omega, by simp; omega⟩
  · rw [ownB_append]; exact h.n0.snoc true (by simp)
  · rw [ownB_append, show ownB 1 [0] = [] by rfl, List.append_nil]; exact h.n1
theorem AnyK.push2 {P : Nat} {ks : List Nat} {r e : Nat} (h : AnyK P ks r e) (hr : r + e + ks.length < 2 * P) : AnyK P (ks ++ [2]) r (e + 1) := by
  have hp := h.par
  refine ⟨k4_snoc h.k4 (by omega), ?_, ?_, by simp; omega, by simp; omega⟩
  · rw [ownB_append, show ownB 0 [2] = [] by rfl, List.append_nil]; exact h.n0
  · rw [ownB_append]; exact h.n1.snoc true (by simp)
theorem AnyK.push1 {P : Nat} {ks : List Nat} {r e : Nat} (h : AnyK P ks (r + 1) e) : AnyK P (ks ++ [1]) r e := by
  have hp := h.par
  have hl := h.le
  refine ⟨k4_snoc h.k4 (by omega), ?_, ?_, by simp; omega, by simp; omega⟩
  · rw [ownB_append]; exact h.n0.snoc false (by simp; omega)
  · rw [ownB_append, show ownB 1 [1] = [] by rfl, List.append_nil]; exact h.n1
theorem AnyK.push3 {P : Nat} {ks : List Nat} {r e : Nat} (h : AnyK P ks r (e + 1)) : AnyK P (ks ++ [3]) r e := by
  have hp := h.par
  have hl := h.le
  refine ⟨k4_snoc h.k4 (by omega), ?_, ?_, by simp; omega, by simp; omega⟩
  · rw [ownB_append, show ownB 0 [3] = [] by rfl, List.append_nil]; exact h.n0
  · rw [ownB_append]; exact h.n1.snoc false (by simp; omega)

theorem AnyK.done {P : Nat} {ks : List Nat} {r e : Nat} (h : AnyK P ks r e) (hl : ¬ ks.length < 2 * P) : (∀ k ∈ ks, k < 4) ∧ ks.length = 2 * P ∧ MBal ks := by
  have hle := h.le
  obtain rfl : r = 0 := by omega
  obtain rfl : e = 0 := by omega
  exact ⟨h.k4, by omega, ⟨h.n0.1, h.n0.2⟩, ⟨h.n1.1, h.n1.2⟩⟩

/-- What Any has when it has gone round so often. -/
def AnyM (w : World) (P k r e : Nat) (lv : Value) (wr : World) : Prop :=
  ∃ ks, OwnI w.heap.size wr lv (nats ks) ∧ ks.length = k ∧ AnyK P ks r e ∧ Keeps (fun _ => False) w wr

theorem AnyM.start (w : World) (P : Nat) : AnyM w P 0 0 0 (.slice none 0 0) w := ⟨[], OwnI.nil _ _, rfl, AnyK.start P, Keeps.refl _ _⟩

theorem AnyM.push {w wr w1 : World} {P r e k n : Nat} {lv lv' : Value} {ks : List Nat} {x : Int} (hn : ks.length = n) (hx : x = (k : Nat)) (h : AnyK P (ks ++ [k]) r e) (hk : Keeps (fun _ => False) w wr) (hown : OwnI w.heap.size wr lv (nats ks))
    (hown2 : OwnI w.heap.size w1 lv' (nats ks ++ [x])) (hk2 : Keeps (fun k => lv.ownBlock = some k) wr w1) : AnyM w P (n + 1) r e lv' w1 :=
  ⟨ks ++ [k], by simpa [nats, hx] using hown2, by simp [hn], h, hk.trans hk2 (fun x hx h => by have := (hown.lt x h).1; omega)⟩

set_option maxRecDepth 100000 in
set_option maxHeartbeats 8000000 in
theorem refAny04_any (pv : Value) (ps : List Nat) (P : Nat) (w : World) (hp : Sl .u8 w pv (nats ps)) (hps : ∀ b ∈ ps, b < 256) (hP : P ≤ 100000) :
    Calls Try.prog 51 #[.int .i64 P, pv] w fun e w' => ∃ v ks, e = .returned v ∧ OwnI w.heap.size w' v (nats ks) ∧ ((∀ k ∈ ks, k < 4) ∧ ks.length = 2 * P ∧ MBal ks) ∧ Keeps (fun _ => False) w w' := by
  obtain ⟨a, cap, rfl, hnc, hcm, _, hc⟩ := hp
  have hnl : (nats ps).length = ps.length := by simp [nats]
  rw [hnl] at hnc ⊢
  clear hnl
  go_enter Try.func51, Try.ntmps51
  go_wp2_with fail
  go_loopg [5, 6, 7, 8] (2 * P) (fun m lv r e i wr => ∃ k r' e' : Nat, m = 2 * P - k ∧ i = .int .i64 k ∧ r = .int .i64 r' ∧ e = .int .i64 e' ∧ AnyM w P k r' e' lv wr)
  case atStart => exact ⟨0, 0, 0, rfl, rfl, rfl, rfl, AnyM.start _ _⟩
  case round =>
    obtain ⟨k, r, e, hgk, rfl, rfl, rfl, ks, hown, rfl, hK, hkw⟩ := hrel
    have HG := Lib.hid hgk
    clear hgk
    have hfo := hown.form
    rw [nats_len] at hfo
    obtain ⟨la, lc, rfl, hlc, hlc2⟩ := hfo
    have hsz := hkw.size
    have hle := hK.le
    have hpar := hK.par
    have hzl2 : ks.length ≤ 10000000000 := by omega
    have HN : Hid ((nats ks).length = ks.length) := Lib.hid (nats_len ks)
    by_cases hlt : ks.length < 2 * P
    · have HZ := Lib.hid (And.intro hK (And.intro hpar hlt))
      have h00 : r + e = 0 → r = 0 ∧ e = 0 := by omega
      clear hK hpar h00
      generalize hnn : ks.length = n at *
      have HM := Lib.hid hnn
      clear hnn
      go_upto_if 19 with fail
      go_cut [9] from 11 to 92 (fun b wx => ∃ v : Nat, b = .int .u8 v ∧ v < 256 ∧ ∃ nq, wx = wr.drewN nq)
      case first =>
        by_cases hp0 : 0 < ps.length
        · obtain ⟨t0, hr⟩ : ∃ r, r = n % ps.length := ⟨_, rfl⟩
          have hrl : t0 < ps.length := by rw [hr]; exact Nat.mod_lt _ hp0
          obtain ⟨g, off, rfl, hcell⟩ := hc t0 ps[t0] (by simp [nats, hrl])
          have hb := hps ps[t0] (List.getElem_mem hrl)
          have hcell1 : wr.cell? ⟨g, off + t0, none⟩ = some (.int .u8 (ps[t0] : Nat)) := hkw.cellF hcell
          obtain ⟨d, hd⟩ : ∃ d, d = n / ps.length := ⟨_, rfl⟩
          obtain ⟨t, ht⟩ : ∃ t, t = d % 5 := ⟨_, rfl⟩
          have ht3 : t < 5 := by omega
          have e1 : (n : Int).tmod (ps.length : Int) = (t0 : Int) := by rw [hr, Int.tmod_eq_emod_of_nonneg (by omega)]; simp
          have e2 : (n : Int).tdiv (ps.length : Int) = (d : Int) := by rw [hd, Int.tdiv_eq_ediv_of_nonneg (by omega)]; simp
          have e3 : (d : Int).tmod 5 = (t : Int) := by rw [ht, Int.tmod_eq_emod_of_nonneg (by omega)]; simp
          have e4 : IntKind.i64.wrap (1 + (t : Int)) = 1 + (t : Int) := IntWalk.i64_in _ (by omega)
          have e5 : IntKind.u8.wrap (1 + (t : Int)) = 1 + (t : Int) := by rw [IntKind.wrap_u8]; omega
          have e6 : ((1 + (t : Int)) == 0) = false := by rw [beq_eq_false_iff_ne]; omega
          have e7 : (0 : Int) ≤ (t0 : Int) := by omega
          have e8 : (t0 : Int) < (ps.length : Int) := by omega
          have HR := Lib.hid (And.intro hr (And.intro hd ht))
          clear hr hd ht hc hps hcell
          generalize ps[t0] = y at *
          clear hrl
          generalize ps.length = m at *
          have e9 : ¬ m = 0 := by omega
          have e10 : ¬ 1 + (t : Int) = 0 := by omega
          have hd2 : d ≤ n := by rw [HR.out.2.1]; exact Nat.div_le_self _ _
          have e11 : IntKind.i64.wrap (d : Int) = (d : Int) := IntWalk.i64_in _ (by omega)
          obtain ⟨v, hv⟩ : ∃ v, v = y / (1 + t) := ⟨_, rfl⟩
          have hv2 : v ≤ y := by rw [hv]; exact Nat.div_le_self _ _
          have e12 : (y : Int).tdiv (1 + (t : Int)) = (v : Int) := by rw [hv, Int.tdiv_eq_ediv_of_nonneg (by omega)]; simp
          have e13 : IntKind.u8.wrap (v : Int) = (v : Int) := by rw [IntKind.wrap_u8]; omega
          clear hv
          go_wp2_with fail
          go_quiet (fail)
          go_wp2
          go_meet
          exact ⟨v, rfl, by omega, nq, rfl⟩
        · have hp00 : ps.length = 0 := by omega
          clear hown hkw hsz hc hps hp0
          generalize ps.length = m at *
          subst hp00
          go_wp2
          go_meet
          exact ⟨0, rfl, by omega, 0, rfl⟩
      case rest =>
        obtain ⟨v, rfl, hv, nq, rfl⟩ := hcut
        clear hc hps
        have hown2 : OwnI w.heap.size (wr.drewN nq) (.slice la n lc) (nats ks) := hown.keeps ((Keeps.refl (fun _ => False) wr).drewN nq) (fun _ _ h => h)
        have hsz2 : w.heap.size ≤ (wr.drewN nq).heap.size := hsz
        have hkw2 : Keeps (fun _ => False) w (wr.drewN nq) := hkw.drewN nq
        clear hown hkw hsz
        generalize wr.drewN nq = w2 at *
        -- LEAVES
        obtain ⟨h2, hh2⟩ : ∃ h, h = v / 2 := ⟨_, rfl⟩
        obtain ⟨h4, hh4⟩ : ∃ h, h = v / 4 := ⟨_, rfl⟩
        have d2 : (v : Int).tdiv 2 = (h2 : Int) := by rw [hh2, Int.tdiv_eq_ediv_of_nonneg (by omega)]; simp
        have d4 : (v : Int).tdiv 4 = (h4 : Int) := by rw [hh4, Int.tdiv_eq_ediv_of_nonneg (by omega)]; simp
        have w2' : IntKind.u8.wrap (h2 : Int) = (h2 : Int) := by rw [IntKind.wrap_u8]; omega
        have w4' : IntKind.u8.wrap (h4 : Int) = (h4 : Int) := by rw [IntKind.wrap_u8]; omega
        have m0 : (v : Int).tmod 2 = 0 ∨ (v : Int).tmod 2 = 1 := by rw [Int.tmod_eq_emod_of_nonneg (by omega)]; omega
        have m2 : (h2 : Int).tmod 2 = 0 ∨ (h2 : Int).tmod 2 = 1 := by rw [Int.tmod_eq_emod_of_nonneg (by omega)]; omega
        have m4 : (h4 : Int).tmod 2 = 0 ∨ (h4 : Int).tmod 2 = 1 := by rw [Int.tmod_eq_emod_of_nonneg (by omega)]; omega
        have hh : h2 < 128 ∧ h4 < 64 := by omega
        clear hh2 hh4
        have hpar := HZ.out.2.1
        by_cases c1 : r + e + n < 2 * P
        · have c1' : (r : Int) + e < 2 * P - n := by omega
          clear hpar
          rcases m0 with q0 | q0
          · skip
            rcases m2 with q2 | q2
            · skip
              go_wp2_with (at_builtin; refine append1n n rfl _ _ rfl w.heap.size (.slice la n lc) (nats ks) 0 HN w2.heap.size rfl rfl rfl hown2 hzl2 hsz2 ?_; intro g2 cap2 w3 hown3 hk3 hat hg)
              have HO := Lib.hid hown3
              clear hown3
              go_wp2
              go_roundg (2 * P - (n + 1))
              case measure => rw [HG.out]; omega
              case rel => exact ⟨n + 1, r + 1, e, rfl, by go_num, by go_num, by go_num, AnyM.push HM.out (by rfl) (AnyK.push0 HZ.out.1 (by rw [HM.out]; omega)) hkw2 hown2 HO.out hk3⟩
            · skip
              go_wp2_with (at_builtin; refine append1n n rfl _ _ rfl w.heap.size (.slice la n lc) (nats ks) 2 HN w2.heap.size rfl rfl rfl hown2 hzl2 hsz2 ?_; intro g2 cap2 w3 hown3 hk3 hat hg)
              have HO := Lib.hid hown3
              clear hown3
              go_wp2
              go_roundg (2 * P - (n + 1))
              case measure => rw [HG.out]; omega
              case rel => exact ⟨n + 1, r, e + 1, rfl, by go_num, by go_num, by go_num, AnyM.push HM.out (by rfl) (AnyK.push2 HZ.out.1 (by rw [HM.out]; omega)) hkw2 hown2 HO.out hk3⟩
          · by_cases c3 : r + e = 0
            · obtain rfl : r = 0 := by omega
              obtain rfl : e = 0 := by omega
              rcases m2 with q2 | q2
              · skip
                go_wp2_with (at_builtin; refine append1n n rfl _ _ rfl w.heap.size (.slice la n lc) (nats ks) 0 HN w2.heap.size rfl rfl rfl hown2 hzl2 hsz2 ?_; intro g2 cap2 w3 hown3 hk3 hat hg)
                have HO := Lib.hid hown3
                clear hown3
                go_wp2
                go_roundg (2 * P - (n + 1))
                case measure => rw [HG.out]; omega
                case rel => exact ⟨n + 1, 0 + 1, 0, rfl, by go_num, by go_num, by go_num, AnyM.push HM.out (by rfl) (AnyK.push0 HZ.out.1 (by rw [HM.out]; omega)) hkw2 hown2 HO.out hk3⟩
              · skip
                go_wp2_with (at_builtin; refine append1n n rfl _ _ rfl w.heap.size (.slice la n lc) (nats ks) 2 HN w2.heap.size rfl rfl rfl hown2 hzl2 hsz2 ?_; intro g2 cap2 w3 hown3 hk3 hat hg)
                have HO := Lib.hid hown3
                clear hown3
                go_wp2
                go_roundg (2 * P - (n + 1))
                case measure => rw [HG.out]; omega
                case rel => exact ⟨n + 1, 0, 0 + 1, rfl, by go_num, by go_num, by go_num, AnyM.push HM.out (by rfl) (AnyK.push2 HZ.out.1 (by rw [HM.out]; omega)) hkw2 hown2 HO.out hk3⟩
            · skip
              rcases r with _ | r
              · rcases e with _ | e
                · exfalso; omega
                · skip
                  go_wp2_with (at_builtin; refine append1n n rfl _ _ rfl w.heap.size (.slice la n lc) (nats ks) 3 HN w2.heap.size rfl rfl rfl hown2 hzl2 hsz2 ?_; intro g2 cap2 w3 hown3 hk3 hat hg)
                  have HO := Lib.hid hown3
                  clear hown3
                  go_wp2
                  go_roundg (2 * P - (n + 1))
                  case measure => rw [HG.out]; omega
                  case rel => exact ⟨n + 1, 0, e, rfl, by go_num, by go_num, by go_num, AnyM.push HM.out (by rfl) (AnyK.push3 HZ.out.1 ) hkw2 hown2 HO.out hk3⟩
              · rcases m4 with q4 | q4
                · skip
                  go_wp2_with (at_builtin; refine append1n n rfl _ _ rfl w.heap.size (.slice la n lc) (nats ks) 1 HN w2.heap.size rfl rfl rfl hown2 hzl2 hsz2 ?_; intro g2 cap2 w3 hown3 hk3 hat hg)
                  have HO := Lib.hid hown3
                  clear hown3
                  go_wp2
                  go_roundg (2 * P - (n + 1))
                  case measure => rw [HG.out]; omega
                  case rel => exact ⟨n + 1, r, e, rfl, by go_num, by go_num, by go_num, AnyM.push HM.out (by rfl) (AnyK.push1 HZ.out.1 ) hkw2 hown2 HO.out hk3⟩
                · rcases e with _ | e
                  · skip
                    go_wp2_with (at_builtin; refine append1n n rfl _ _ rfl w.heap.size (.slice la n lc) (nats ks) 1 HN w2.heap.size rfl rfl rfl hown2 hzl2 hsz2 ?_; intro g2 cap2 w3 hown3 hk3 hat hg)
                    have HO := Lib.hid hown3
                    clear hown3
                    go_wp2
                    go_roundg (2 * P - (n + 1))
                    case measure => rw [HG.out]; omega
                    case rel => exact ⟨n + 1, r, 0, rfl, by go_num, by go_num, by go_num, AnyM.push HM.out (by rfl) (AnyK.push1 HZ.out.1 ) hkw2 hown2 HO.out hk3⟩
                  · skip
                    go_wp2_with (at_builtin; refine append1n n rfl _ _ rfl w.heap.size (.slice la n lc) (nats ks) 3 HN w2.heap.size rfl rfl rfl hown2 hzl2 hsz2 ?_; intro g2 cap2 w3 hown3 hk3 hat hg)
                    have HO := Lib.hid hown3
                    clear hown3
                    go_wp2
                    go_roundg (2 * P - (n + 1))
                    case measure => rw [HG.out]; omega
                    case rel => exact ⟨n + 1, (r + 1), e, rfl, by go_num, by go_num, by go_num, AnyM.push HM.out (by rfl) (AnyK.push3 HZ.out.1 ) hkw2 hown2 HO.out hk3⟩
        · have c1' : ¬ (r : Int) + e < 2 * P - n := by omega
          have c3 : ¬ r + e = 0 := by omega
          clear hpar
          rcases r with _ | r
          · rcases e with _ | e
            · exfalso; omega
            · skip
              go_wp2_with (at_builtin; refine append1n n rfl _ _ rfl w.heap.size (.slice la n lc) (nats ks) 3 HN w2.heap.size rfl rfl rfl hown2 hzl2 hsz2 ?_; intro g2 cap2 w3 hown3 hk3 hat hg)
              have HO := Lib.hid hown3
              clear hown3
              go_wp2
              go_roundg (2 * P - (n + 1))
              case measure => rw [HG.out]; omega
              case rel => exact ⟨n + 1, 0, e, rfl, by go_num, by go_num, by go_num, AnyM.push HM.out (by rfl) (AnyK.push3 HZ.out.1 ) hkw2 hown2 HO.out hk3⟩
          · rcases m4 with q4 | q4
            · skip
              go_wp2_with (at_builtin; refine append1n n rfl _ _ rfl w.heap.size (.slice la n lc) (nats ks) 1 HN w2.heap.size rfl rfl rfl hown2 hzl2 hsz2 ?_; intro g2 cap2 w3 hown3 hk3 hat hg)
              have HO := Lib.hid hown3
              clear hown3
              go_wp2
              go_roundg (2 * P - (n + 1))
              case measure => rw [HG.out]; omega
              case rel => exact ⟨n + 1, r, e, rfl, by go_num, by go_num, by go_num, AnyM.push HM.out (by rfl) (AnyK.push1 HZ.out.1 ) hkw2 hown2 HO.out hk3⟩
            · rcases e with _ | e
              · skip
                go_wp2_with (at_builtin; refine append1n n rfl _ _ rfl w.heap.size (.slice la n lc) (nats ks) 1 HN w2.heap.size rfl rfl rfl hown2 hzl2 hsz2 ?_; intro g2 cap2 w3 hown3 hk3 hat hg)
                have HO := Lib.hid hown3
                clear hown3
                go_wp2
                go_roundg (2 * P - (n + 1))
                case measure => rw [HG.out]; omega
                case rel => exact ⟨n + 1, r, 0, rfl, by go_num, by go_num, by go_num, AnyM.push HM.out (by rfl) (AnyK.push1 HZ.out.1 ) hkw2 hown2 HO.out hk3⟩
              · skip
                go_wp2_with (at_builtin; refine append1n n rfl _ _ rfl w.heap.size (.slice la n lc) (nats ks) 3 HN w2.heap.size rfl rfl rfl hown2 hzl2 hsz2 ?_; intro g2 cap2 w3 hown3 hk3 hat hg)
                have HO := Lib.hid hown3
                clear hown3
                go_wp2
                go_roundg (2 * P - (n + 1))
                case measure => rw [HG.out]; omega
                case rel => exact ⟨n + 1, (r + 1), e, rfl, by go_num, by go_num, by go_num, AnyM.push HM.out (by rfl) (AnyK.push3 HZ.out.1 ) hkw2 hown2 HO.out hk3⟩
    · have HF := Lib.hid (And.intro (hK.done hlt) (And.intro hown hkw))
      clear hK hown hkw hc hps hpar HN
      go_wp2
      go_ret
      exact ⟨_, ks, rfl, HF.out.2.1, HF.out.1, HF.out.2.2⟩

end Go.Proofs.Ytlciacpffoekjaa
