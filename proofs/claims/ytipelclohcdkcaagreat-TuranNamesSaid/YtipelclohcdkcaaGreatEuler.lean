/- The contracts of package euler: which part each dart is of. -/
import Derived.Test.YtipelclohcdkcaaGreatNew
import Derived.Test.YtipelclohcdkcaaGreatEulP
import Derived.Deep.CutRange
namespace Go.Proofs.YtipelclohcdkcaaGreat
open Go.RowKit

theorem OwnI.dropLast {B : Nat} {w : World} {g n cap : Nat} {zs : List Int} {z : Int} (h : OwnI B w (.slice (some ⟨g, 0, none⟩) (n + 1) cap) (zs ++ [z])) : OwnI B w (.slice (some ⟨g, 0, none⟩) n cap) zs := by
  obtain ⟨h1, h2⟩ := h
  rcases h2 with ⟨h2, _⟩ | ⟨g', cap', cur, hv, hB, hg, hnc, hcm, hcs, ht⟩
  · cases h2
  · simp only [Value.slice.injEq, Option.some.injEq, Addr.mk.injEq, and_true] at hv
    obtain ⟨rfl, e2, rfl⟩ := hv
    have hl : zs.length = n := by simp at e2; omega
    refine ⟨by simp [ints], .inr ⟨g, cap, cur, by rw [hl], hB, hg, by simp at hnc; omega, hcm, hcs, ?_⟩⟩
    have := congrArg (List.take (zs.length * 1)) ht
    rw [List.take_take] at this
    rw [Nat.min_eq_left (by simp)] at this
    rw [this]
    simp [ints]

set_option maxRecDepth 100000 in
set_option maxHeartbeats 1000000 in
theorem last_any (B g n cap : Nat) (zs : List Nat) (x : Nat) (w : World) (h : OwnI B w (.slice (some ⟨g, 0, none⟩) (n + 1) cap) (nats (zs ++ [x]))) (hl : zs.length = n) (hn : n ≤ 1000000000) :
    Calls Tryz.prog 204 #[.slice (some ⟨g, 0, none⟩) (n + 1) cap] w fun e w' => e = .returned (.tuple #[.int .i64 x, .slice (some ⟨g, 0, none⟩) n cap]) ∧ ∃ k, w' = w.drewN k := by
  have hc := (h.cell (i := n) (z := (x : Int)) (by rw [nats_snoc, List.getElem?_append_right (by rw [nats_len]; omega), nats_len, hl]; simp)).1
  obtain ⟨a, c, hv, h1, h2⟩ := h.form
  simp only [Value.slice.injEq] at hv
  obtain ⟨rfl, e2, rfl⟩ := hv
  clear e2
  have h1' : n + 1 ≤ cap := by rw [nats_len] at h1; simp at h1; omega
  have hnc : ¬ n = cap := by omega
  have hcn : ¬ cap = n := by omega
  have hc0 : ¬ cap = 0 := by omega
  have hc00 : ¬ 0 = cap := by omega
  obtain ⟨N, hN⟩ : ∃ N, N = n + 1 := ⟨_, rfl⟩
  rw [← hN] at h1' ⊢
  have hnN : n < N := by omega
  have hnN' : (n : Int) < (N : Int) := by omega
  have hs1 : IntKind.i64.wrap ((N : Int) - 1) = (n : Int) := by rw [show ((N : Int) - 1) = (n : Int) by omega]; exact IntWalk.i64_in _ (by omega)
  have hNc : n ≤ cap := by omega
  have hNb : N ≤ 1000000001 := by omega
  clear h h1 hl hN
  go_enter Tryz.func204, Tryz.ntmps204
  go_wp2
  go_quiet (fail)
  clear hs1
  go_wp2
  go_ret2
  exact ⟨rfl, _, rfl⟩

/-- Names and who waits, in memory. -/
structure ES (w : World) (n : Nat) (S : Nat → Nat) (d g : Nat) (V st : List Nat) (wv : Value) (wr : World) : Prop where
  nm : MadeS w g n (NmE n S d V) wr
  wt : OwnI w.heap.size wr wv (nats st)
  ne : ∀ k, wv.ownBlock = some k → k ≠ g

theorem ES.kee {w : World} {n : Nat} {S : Nat → Nat} {d g : Nat} {V st : List Nat} {wv : Value} {wr : World} (h : ES w n S d g V st wv wr) : Keeps (fun _ => False) w wr := by
  obtain ⟨_, _, _, _, hk⟩ := h.nm
  exact hk

theorem ES.drewN {w : World} {n : Nat} {S : Nat → Nat} {d g : Nat} {V st : List Nat} {wv : Value} {wr : World} (h : ES w n S d g V st wv wr) (k : Nat) : ES w n S d g V st wv (wr.drewN k) := by
  have kk := (Keeps.refl (fun _ => False) wr).drewN k
  exact ⟨h.nm.keeps kk, h.wt.keeps kk (fun _ _ h => h), h.ne⟩

theorem ES.pop {w : World} {n : Nat} {S : Nat → Nat} {d g : Nat} {V st : List Nat} {x wg m cap : Nat} {wr : World} (h : ES w n S d g V (st ++ [x]) (.slice (some ⟨wg, 0, none⟩) (m + 1) cap) wr) : ES w n S d g V st (.slice (some ⟨wg, 0, none⟩) m cap) wr :=
  ⟨h.nm, OwnI.dropLast (z := (x : Int)) (by rw [← nats_snoc]; exact h.wt), fun k hk => h.ne k hk⟩

theorem ES.store {w : World} {n : Nat} {S : Nat → Nat} {d g : Nat} {V st : List Nat} {wv : Value} {wr : World} (h : ES w n S d g V st wv wr) {y : Nat} (hy : y < n) : ES w n S d g (y :: V) st wv (wr.setCell ⟨g, y, none⟩ (.int .i64 ((cldr n S d : Nat) : Int))) := by
  have kk := (Keeps.refl (fun q => q = g) wr).setCell (p := ⟨g, y, none⟩) (.inl rfl) (.int .i64 ((cldr n S d : Nat) : Int))
  exact ⟨h.nm.set y _ (fun zs hzl k => k.push hzl hy), h.wt.keeps kk (fun q hq e => h.ne q hq e), h.ne⟩

theorem ES.app {w : World} {n : Nat} {S : Nat → Nat} {d g : Nat} {V st : List Nat} {wv : Value} {wr : World} (h : ES w n S d g V st wv wr) {y g5 m cap : Nat} {w5 : World}
    (ho : OwnI w.heap.size w5 (.slice (some ⟨g5, 0, none⟩) m cap) (nats st ++ [(y : Int)])) (k : Keeps (fun q => wv.ownBlock = some q) wr w5) (hat : wv.ownBlock = some g5 ∨ wr.heap.size ≤ g5) :
    ES w n S d g V (st ++ [y]) (.slice (some ⟨g5, 0, none⟩) m cap) w5 := by
  have hg := h.nm.old
  refine ⟨h.nm.keepsF k (fun e => h.ne g e rfl) (fun x hx => (h.wt.lt x hx).1), by rw [nats_snoc]; exact ho, fun q hq => ?_⟩
  simp only [Value.ownBlock, Option.some.injEq] at hq
  subst hq
  rcases hat with e | e
  · exact h.ne _ e
  · omega

set_option maxRecDepth 100000 in
set_option maxHeartbeats 8000000 in
theorem eulerNames_any {w : World} {b : Nat} {s : List Nat} {root lone : Int} {R : Nat → Prop} (h : MapAt w b s root lone R) :
    Calls Tryz.prog 191 #[.pointer (some ⟨b, 0, none⟩)] w fun e w' => ∃ g, e = .returned (.slice (some ⟨g, 0, none⟩) s.length s.length) ∧ MadeS w g s.length (fun zs => zs = nats ((List.range s.length).map (cnum s.length (sg s)))) w' := by
  have HMP : Hid (∀ W, Keeps (fun _ => False) w W → MapAt W b s root lone R) := Lib.hid (fun W hk => h.keeps hk (fun h => h) (fun _ _ h => h))
  have hD := mapDarts_any h
  have hle := h.le
  have HP := Lib.hid (And.intro h.isP h.even)
  clear h
  obtain ⟨i, hi, hz0, hz1, hz2⟩ := info_parts infoInt
  have hmk := fun w => run_make (P := Tryz.prog) w 22 3 i _ Tryz.underlying22 hi hz0 .i64 .i64 (s.length : Int) (s.length : Int) (by omega) (Int.le_refl _) (by rw [hz2]; omega) (by omega)
  simp only [hz1, Int.toNat_natCast, Nat.mul_one] at hmk
  have h0 := MadeS.made w s.length (fun zs => ∀ i, i < 0 → zs[i]? = some (-1)) (fun i hi => by omega) (by omega)
  clear hi hz0 hz1 hz2
  go_enter Tryz.func191, Tryz.ntmps191
  go_wp2_with fail
  refine hD.mono ?_
  rintro e w' ⟨rfl, rfl⟩
  clear hD
  go_wp2_with fail
  clear hmk
  generalize hwM : World.alloc _ _ = wM at *
  clear hwM
  obtain ⟨g, hg⟩ : ∃ g, g = w.heap.size := ⟨_, rfl⟩
  rw [← hg] at h0
  rw [← hg]
  clear hg
  go_loopg [17] s.length (fun m i wr => ∃ j : Nat, j ≤ s.length ∧ m = s.length - j ∧ i = .int .i64 j ∧ MadeS w g s.length (fun zs => ∀ i, i < j → zs[i]? = some (-1)) wr)
  case atStart => exact ⟨0, Nat.zero_le _, rfl, rfl, h0⟩
  case round =>
    clear h0
    obtain ⟨j, hj, hgk, rfl, hM⟩ := hrel
    have HG := Lib.hid hgk
    clear hgk
    by_cases hlt : j < s.length
    · obtain ⟨z, _, hc, hf⟩ := hM.cell j hlt
      have HN := Lib.hid (hM.set (Q := fun zs => ∀ i, i < j + 1 → zs[i]? = some (-1)) j (-1) (fun zs hzl h i hi => by
        rw [List.getElem?_set]
        by_cases hij : j = i
        · rw [if_pos hij, if_pos (by omega)]
        · rw [if_neg hij]; exact h i (by omega)))
      clear hM
      go_wp2
      go_roundg (s.length - (j + 1))
      case measure => rw [HG.out]; omega
      case rel => exact ⟨j + 1, by omega, rfl, by go_num, HN.out⟩
    · obtain rfl : j = s.length := by omega
      have h1 : MadeS w g s.length (NmO s.length (sg s) 0) wr := hM.mono (fun zs _ h => NmO.zero h)
      clear hM hlt hj HG
      go_wp2_with fail
      go_loopg [5, 26] s.length (fun m c i wr => ∃ d : Nat, d ≤ s.length ∧ m = s.length - d ∧ i = .int .i64 d ∧ c = .int .i64 (cldr s.length (sg s) d : Nat) ∧ MadeS w g s.length (NmO s.length (sg s) d) wr)
      case atStart => exact ⟨0, Nat.zero_le _, rfl, rfl, rfl, h1⟩
      case round =>
        clear h1
        obtain ⟨d, hd, hgk, rfl, rfl, hM⟩ := hrel
        have HG := Lib.hid hgk
        clear hgk
        have hld := cldr_le s.length (sg s) d
        have hls := cldr_succ s.length (sg s) d
        by_cases hlt : d < s.length
        rotate_left
        · obtain rfl : d = s.length := by omega
          have HF := Lib.hid (hM.mono (fun zs hzl h => NmO.all HP.out.1 HP.out.2 hzl h))
          clear hM hls
          go_wp2
          go_ret
          exact ⟨g, rfl, HF.out⟩
        · obtain ⟨z, ⟨zs, hzl, hzP, hzz⟩, hc, hf⟩ := hM.cell d hlt
          rcases NmO.at hlt hzP hzz with ⟨hr, rfl⟩ | ⟨hr, hz⟩
          rotate_left
          · rw [if_neg hr] at hls
            have HF := Lib.hid (And.intro (hM.mono (fun zs _ h => NmO.skip HP.out.1 HP.out.2 h hr)) hls)
            clear hM hr hls hzP hzz hzl
            generalize cldr s.length (sg s) d = c at *
            go_wp2
            go_roundg (s.length - (d + 1))
            case measure => rw [HG.out]; omega
            case rel => exact ⟨d + 1, by omega, rfl, by go_num, by rw [HF.out.2]; go_num, HF.out.1⟩
          · rw [if_pos hr] at hls
            have tneg : decide ((0 : Int) ≤ -1) = false := by decide
            obtain ⟨_, _, _, _, hkw⟩ := id hM
            have hgr := hM.old
            have kb := (hM.set (Q := NmE s.length (sg s) d [d]) d ((cldr s.length (sg s) d : Nat) : Int) (fun zs hzl k => (NmO.start HP.out.2 hlt hzl k hr).1))
            have ka := (Keeps.refl (fun _ => False) (wr.setCell ⟨g, d, none⟩ (.int .i64 ((cldr s.length (sg s) d : Nat) : Int)))).alloc (.cells #[.int .i64 d] 3)
            have h2 : ES w s.length (sg s) d g [d] [d] (.slice (some ⟨wr.heap.size, 0, none⟩) 1 1) ((wr.setCell ⟨g, d, none⟩ (.int .i64 ((cldr s.length (sg s) d : Nat) : Int))).alloc (.cells #[.int .i64 d] 3)) := by
              have ho : OwnI _ _ _ [(d : Int)] := own_one (wr.setCell ⟨g, d, none⟩ (.int .i64 ((cldr s.length (sg s) d : Nat) : Int))) (d : Int)
              rw [show (wr.setCell ⟨g, d, none⟩ (.int .i64 ((cldr s.length (sg s) d : Nat) : Int))).heap.size = wr.heap.size by simp] at ho
              exact ⟨kb.keeps ka, ho.mono (fun q hq => by simp only [Value.ownBlock, Option.some.injEq] at hq; have := hkw.size; omega), fun k hk => by simp only [Value.ownBlock, Option.some.injEq] at hk; omega⟩
            have hI0 := (NmO.start (zs := zs) HP.out.2 hlt hzl hzP hr).2
            have hca := alloc_cell hc (.cells #[.int .i64 d] 3)
            have hfa : (wr.alloc (.cells #[.int .i64 d] 3)).frozen? ⟨g, d, none⟩ = false := by
              obtain ⟨z2, _, _, hf2⟩ := (hM.keeps ((Keeps.refl (fun _ => False) wr).alloc (.cells #[.int .i64 d] 3))).cell d hlt
              exact hf2
            have HR := Lib.hid (And.intro hr hls)
            have H2 := Lib.hid (And.intro h2 hI0)
            generalize hcc : cldr s.length (sg s) d = c at *
            have HC := Lib.hid hcc
            clear hM hr hls hzP hzz hzl hkw ka kb h2 hI0 hcc
            go_wp2_with fail
            clear hca hfa hc hf
            generalize World.alloc _ _ = w2 at *
            generalize Value.slice (some ⟨wr.heap.size, 0, none⟩) 1 1 = wv0 at *
            go_loopg [7] (2 * (s.length - 1) + 1) (fun m wv wr => ∃ V st, m = 2 * (s.length - V.length) + st.length ∧ EInv s.length (sg s) d V st ∧ (∀ z ∈ V, z ∈ st ∨ (sg s z ∈ V ∧ mt z ∈ V)) ∧ ES w s.length (sg s) d g V st wv wr)
            case atStart =>
              exact ⟨[d], [d], rfl, H2.out.2, fun z hz => .inl hz, H2.out.1⟩
            case round =>
              clear H2
              obtain ⟨V, st, hgk, hI, hclo, hE⟩ := hrel
              have HG3 := Lib.hid hgk
              clear hgk
              rcases List.eq_nil_or_concat st with rfl | ⟨st', x, rfl⟩
              · have hfo := hE.wt.form
                obtain ⟨wa, wc, rfl, _, _⟩ := hfo
                have HF := Lib.hid (hE.nm.mono (fun zs hzl k => k.done HP.out.1 HP.out.2 hlt hI HR.out.1 (fun z hz => (hclo z hz).resolve_left (by simp))))
                have hnl : (nats ([] : List Nat)).length = 0 := rfl
                rw [hnl]
                clear hE hI hclo hnl
                go_wp2
                go_roundg (s.length - (d + 1))
                case measure => rw [HG.out]; omega
                case rel => exact ⟨d + 1, by omega, rfl, by go_num, by rw [HR.out.2]; go_num, HF.out⟩
              · rw [List.concat_eq_append] at *
                obtain ⟨m, hm⟩ : ∃ m, m = st'.length := ⟨_, rfl⟩
                obtain ⟨wg, wc, rfl, hwn, _⟩ := owns_form hE.wt (by rw [nats_len]; simp)
                have hsl : (nats (st' ++ [x])).length = m + 1 := by rw [nats_len, hm]; simp
                rw [hsl] at hE ⊢
                have hVl := hI.len
                have hxV := hI.sub x (by simp)
                have hxn := (hI.cl x hxV).1
                have hxc := (hI.cl x hxV).2
                have hml : m ≤ 131072 := by have h5 := hI.slen; simp at h5; omega
                have hL := last_any w.heap.size wg m wc st' x wr hE.wt hm.symm (by omega)
                have hE2 := hE.pop
                have hI2 := hI.pop
                have hGm : gk = 2 * (s.length - V.length) + (m + 1) := by rw [HG3.out]; simp [hm]
                have hclo2 : ∀ z ∈ V, z ∈ st' ∨ z = x ∨ (sg s z ∈ V ∧ mt z ∈ V) := fun z hz => by
                  rcases hclo z hz with h6 | h6
                  · simp only [List.mem_append, List.mem_singleton] at h6
                    rcases h6 with h6 | h6
                    · exact .inl h6
                    · exact .inr (.inl h6)
                  · exact .inr (.inr h6)
                have hSx := HP.out.1.lt x hxn
                have hMx := mt_lt HP.out.2 hxn
                have hcS := hxc.trans (Conn.turn hxn : Conn s.length (sg s) x (sg s x))
                have hcM := hxc.trans (Conn.mate hxn : Conn s.length (sg s) x (mt x))
                have HE2 := Lib.hid (And.intro hE2 (And.intro hI2 (And.intro hclo2 (And.intro hGm (And.intro hxV (And.intro hcS (And.intro hcM hm)))))))
                have tpos : decide ((0 : Int) < ((m + 1 : Nat) : Int)) = true := decide_eq_true (by omega)
                clear hE hE2 hI hI2 hclo hclo2 hGm hxV hcS hcM hxc hm hsl HG3
                go_wp2_with fail
                refine hL.mono ?_
                rintro e w' ⟨rfl, nq, rfl⟩
                clear hL
                have hMA := HMP.out _ (HE2.out.1.drewN nq).kee
                have hSg := mapSigma_in hMA x hxn
                have hMt := mapMate_in hMA x hxn
                have HE3 := Lib.hid (HE2.out.1.drewN nq)
                clear hMA
                generalize wr.drewN nq = w4 at *
                go_wp2_with (first | (go_at_call 91; refine hSg.mono ?_; rintro e w' ⟨rfl, rfl⟩) | (go_at_call 151; refine hMt.mono ?_; rintro e w' ⟨rfl, rfl⟩))
                clear hSg hMt
                obtain ⟨X0, hX0⟩ : ∃ X0, X0 = sg s x := ⟨_, rfl⟩
                obtain ⟨X1, hX1⟩ : ∃ X1, X1 = mt x := ⟨_, rfl⟩
                rw [← hX0] at hSx ⊢
                rw [← hX1] at hMx ⊢
                have HX := Lib.hid (And.intro hX0 hX1)
                clear hX0 hX1
                have hix : ∀ (k : Nat), k < 2 → ∃ y : Nat, y < s.length ∧ y = (if k = 0 then X0 else X1) ∧ ∀ W, (Instr.index 229 (.agg #[.int .i64 X0, .int .i64 X1]) (.int .i64 (k : Int))).run Tryz.prog W = .ok (.int .i64 y) W := fun k hk => by
                  rcases Nat.eq_zero_or_pos k with rfl | hk0
                  · exact ⟨X0, hSx, rfl, fun W => rfl⟩
                  · obtain rfl : k = 1 := by omega
                    exact ⟨X1, hMx, rfl, fun W => rfl⟩
                have HIX := Lib.hid hix
                clear hix
                go_loopg [7, 56] 2 (fun q wv i wr => ∃ k V2 st2, q = 2 - k ∧ k ≤ 2 ∧ i = .int .i64 (k : Nat) ∧ EInv s.length (sg s) d V2 st2 ∧ x ∈ V2 ∧ (∀ z ∈ V2, z ∈ st2 ∨ z = x ∨ (sg s z ∈ V2 ∧ mt z ∈ V2)) ∧ (1 ≤ k → sg s x ∈ V2) ∧ (2 ≤ k → mt x ∈ V2) ∧ 2 * (s.length - V2.length) + st2.length ≤ 2 * (s.length - V.length) + m ∧ ES w s.length (sg s) d g V2 st2 wv wr)
                case atStart => exact ⟨0, V, st', rfl, by omega, rfl, HE2.out.2.1, HE2.out.2.2.2.2.1, HE2.out.2.2.1, fun h => by omega, fun h => by omega, by rw [HE2.out.2.2.2.2.2.2.2]; exact Nat.le_refl _, HE3.out⟩
                case round =>
                  clear HE3
                  obtain ⟨k, V2, st2, hgk, hk2, rfl, hI, hxV, hclo, h1k, h2k, hms, hE⟩ := hrel
                  have HG4 := Lib.hid hgk
                  clear hgk
                  obtain ⟨m2, hm2⟩ : ∃ m2, m2 = st2.length := ⟨_, rfl⟩
                  obtain ⟨wa, wcc, rfl, _, _⟩ := hE.wt.form
                  rw [show (nats st2).length = m2 by rw [nats_len, hm2]] at hE ⊢
                  have hm2l : m2 ≤ 131072 := by have h5 := hI.slen; have := hI.len; omega
                  by_cases hkl : k < 2
                  · have tk : decide ((k : Int) < 2) = true := decide_eq_true (by omega)
                    obtain ⟨y, hyn, hyk, hidx⟩ := HIX.out k hkl
                    have hcy : Conn s.length (sg s) d y := by
                      rw [hyk]
                      split
                      · rw [HX.out.1]; exact HE2.out.2.2.2.2.2.1
                      · rw [HX.out.2]; exact HE2.out.2.2.2.2.2.2.1
                    obtain ⟨z, ⟨zs, hzl, hzP, hzz⟩, hc, hf⟩ := hE.nm.cell y hyn
                    by_cases hyV : y ∈ V2
                    · have hz0 := hzP.old hyn hyV hzz
                      have tz : decide (z < 0) = false := decide_eq_false (by omega)
                      have HN : Hid (EInv s.length (sg s) d V2 st2 ∧ x ∈ V2 ∧ (∀ z ∈ V2, z ∈ st2 ∨ z = x ∨ (sg s z ∈ V2 ∧ mt z ∈ V2)) ∧ (1 ≤ k + 1 → sg s x ∈ V2) ∧ (2 ≤ k + 1 → mt x ∈ V2) ∧ 2 * (s.length - V2.length) + st2.length ≤ 2 * (s.length - V.length) + m ∧ ES w s.length (sg s) d g V2 st2 (.slice wa m2 wcc) wr) := Lib.hid (by
                        refine ⟨hI, hxV, hclo, fun _ => ?_, fun _ => ?_, hms, hE⟩
                        · by_cases e : k = 0
                          · rw [if_pos e, HX.out.1] at hyk; rw [← hyk]; exact hyV
                          · exact h1k (by omega)
                        · by_cases e : k = 0
                          · omega
                          · rw [if_neg e, HX.out.2] at hyk; rw [← hyk]; exact hyV)
                      clear hI hxV hclo h1k h2k hms hE hzl hzP hzz hyV hyk hcy hm2
                      go_wp2
                      go_roundg (2 - (k + 1))
                      case measure => rw [HG4.out]; omega
                      case rel => exact ⟨k + 1, V2, st2, rfl, by omega, by go_num, HN.out⟩
                    · have hz1 := hzP.fresh HP.out.1 HP.out.2 hlt HR.out.1 hyn hcy hyV hzz
                      subst hz1
                      have tz : decide ((-1 : Int) < 0) = true := by decide
                      have hst := hE.store (y := y) hyn
                      rw [show cldr s.length (sg s) d = c from HC.out] at hst
                      have hown := hst.wt
                      have hsz := hst.kee.size
                      have HNL : Hid ((nats st2).length = m2) := Lib.hid (by rw [nats_len, hm2])
                      have hmq : m2 ≤ 10000000000 := by omega
                      have happ := fun (w5 : World) g5 cap => hst.app (y := y) (g5 := g5) (m := m2 + 1) (cap := cap) (w5 := w5)
                      have hIp := hI.push hyn hcy hyV
                      have hVl2 := hIp.len
                      have HN : Hid (EInv s.length (sg s) d (y :: V2) (st2 ++ [y]) ∧ x ∈ y :: V2 ∧ (∀ z ∈ y :: V2, z ∈ st2 ++ [y] ∨ z = x ∨ (sg s z ∈ y :: V2 ∧ mt z ∈ y :: V2)) ∧ (1 ≤ k + 1 → sg s x ∈ y :: V2) ∧ (2 ≤ k + 1 → mt x ∈ y :: V2) ∧ 2 * (s.length - (y :: V2).length) + (st2 ++ [y]).length ≤ 2 * (s.length - V.length) + m) := Lib.hid (by
                        refine ⟨hIp, List.mem_cons_of_mem _ hxV, fun z hz => ?_, fun _ => ?_, fun _ => ?_, ?_⟩
                        · rcases List.mem_cons.1 hz with rfl | hz
                          · exact .inl (by simp)
                          · rcases hclo z hz with e | e | e
                            · exact .inl (by simp [e])
                            · exact .inr (.inl e)
                            · exact .inr (.inr ⟨List.mem_cons_of_mem _ e.1, List.mem_cons_of_mem _ e.2⟩)
                        · by_cases e : k = 0
                          · rw [if_pos e, HX.out.1] at hyk; rw [← hyk]; simp
                          · exact List.mem_cons_of_mem _ (h1k (by omega))
                        · by_cases e : k = 0
                          · omega
                          · rw [if_neg e, HX.out.2] at hyk; rw [← hyk]; simp
                        · simp only [List.length_cons, List.length_append, List.length_nil] at hVl2 ⊢
                          omega)
                      have HAP := Lib.hid happ
                      clear hI hxV hclo h1k h2k hms hE hzl hzP hzz hyV hyk hcy hm2 hst happ hIp hVl2
                      go_wp2_with (at_builtin; refine append1n m2 rfl _ _ rfl w.heap.size (.slice wa m2 wcc) (nats st2) (y : Nat) HNL (wr.setCell ⟨g, y, none⟩ (.int .i64 (c : Nat))).heap.size (by simp) (by simp [Act.eval]) (by simp [Act.eval]) hown hmq hsz ?_; intro g5 cap5 w5 hown5 hk5 hat5 hg5; have HT5 := Lib.hid (HAP.out w5 g5 cap5 hown5 hk5 hat5); clear hown5 hk5 hat5)
                      go_roundg (2 - (k + 1))
                      case measure => rw [HG4.out]; omega
                      case rel => exact ⟨k + 1, _, _, rfl, by omega, by go_num, HN.out.1, HN.out.2.1, HN.out.2.2.1, HN.out.2.2.2.1, HN.out.2.2.2.2.1, HN.out.2.2.2.2.2, HT5.out⟩
                  · obtain rfl : k = 2 := by omega
                    have HN : Hid (EInv s.length (sg s) d V2 st2 ∧ (∀ z ∈ V2, z ∈ st2 ∨ (sg s z ∈ V2 ∧ mt z ∈ V2)) ∧ 2 * (s.length - V2.length) + st2.length ≤ 2 * (s.length - V.length) + m ∧ ES w s.length (sg s) d g V2 st2 (.slice wa m2 wcc) wr) := Lib.hid ⟨hI, fun z hz => by
                      rcases hclo z hz with e | e | e
                      · exact .inl e
                      · subst e; exact .inr ⟨h1k (by omega), h2k (by omega)⟩
                      · exact .inr e, hms, hE⟩
                    clear hI hxV hclo h1k h2k hms hE hm2
                    go_wp2
                    go_roundg (2 * (s.length - V2.length) + st2.length)
                    case measure => rw [HE2.out.2.2.2.1]; have := HN.out.2.2.1; omega
                    case rel => exact ⟨V2, st2, rfl, HN.out.1, HN.out.2.1, HN.out.2.2.2⟩

end Go.Proofs.YtipelclohcdkcaaGreat
