/- Layer 4's statements: MixedAdds. -/
import Derived.Test.YtlciacpffoekjaaClone
namespace Go.Proofs.Ytlciacpffoekjaa
open Go.RowKit

/-- Rows of numbers that came in, as the frame of a statement's proof tells them. -/
def RowsIn (k : IntKind) (w : World) (a : Option Addr) (len cap : Nat) : Prop :=
  (a = none ∧ len = 0 ∧ cap = 0) ∨
  ∃ (x : Addr) (A : Nat → Option Addr) (L C : Nat → Nat) (Z : Nat → List Int), a = some x ∧ len ≤ cap ∧ cap ≤ maxLen ∧
    ∀ r, r < cap → w.cell? (x.add r) = some (.slice (A r) (L r) (C r)) ∧ L r ≤ C r ∧ C r ≤ maxLen ∧ (Z r).length = C r ∧ (∀ n ∈ Z r, (Lit.int k n).wf = true) ∧ (A r = none → C r = 0) ∧
      ∀ a', A r = some a' → ∀ c, c < C r → w.cell? (a'.add c) = some (.int k ((Z r).getD c 0))

/-- A row of these. -/
theorem RowsIn.row {k : IntKind} {w : World} {a : Option Addr} {len cap : Nat} (h : RowsIn k w a len cap) :
    len ≤ cap ∧ cap ≤ 9223372036854775807 ∧ ∀ r, r < len → ∃ g off sv zs, a = some ⟨g, off, none⟩ ∧ w.cell? ⟨g, off + r, none⟩ = some sv ∧ Sl k w sv zs := by
  rcases h with ⟨rfl, rfl, rfl⟩ | ⟨x, A, L, C, Z, rfl, h1, h2, h3⟩
  · exact ⟨Nat.le_refl _, by decide, fun r hr => by omega⟩
  · refine ⟨h1, h2, fun r hr => ?_⟩
    have h0 := cell_plain (h3 0 (by omega)).1
    have e0 : x.add 0 = x := by simp [Addr.add]
    rw [e0] at h0
    have hadd : x.add r = ⟨x.block, x.off + r, none⟩ := by
      unfold Addr.add
      split
      · rename_i hj0
        subst hj0
        exact h0
      · rfl
    obtain ⟨c1, c2, c3, c4, c5, c6, c7⟩ := h3 r (by omega)
    have hrow : RowIn k w (A r) (L r) (C r) (Z r) := by
      cases hA : A r with
      | none =>
        have hc := c6 hA
        exact .inl ⟨rfl, by omega, hc, List.eq_nil_of_length_eq_zero (by omega)⟩
      | some a' => exact .inr ⟨a', rfl, c2, c3, c4, fun i hi => c7 a' hA i (by omega), c5⟩
    exact ⟨x.block, x.off, _, _, congrArg some h0, by rw [← hadd]; exact c1, hrow.sl.1⟩

/-- What MixedAdds has when it has read so far. -/
def AddS (w : World) (b : Nat) (ks : List Nat) (av : Value) (wr : World) : Prop :=
  ∃ v, WordAt wr b v ks ∧ w.heap.size ≤ b ∧ (∀ k, v.ownBlock = some k → w.heap.size ≤ k) ∧ OwnI w.heap.size wr av (nats ks) ∧ (∀ k, av.ownBlock = some k → k ≠ b ∧ v.ownBlock ≠ some k) ∧ Keeps (fun _ => False) w wr

theorem nats_toKs {zs : List Int} (h : Kinds4 zs) : nats (toKs zs) = zs := by
  induction zs with
  | nil => rfl
  | cons z zs ih =>
    have h1 := h z (by simp)
    have ih := ih (fun x hx => h x (by simp [hx]))
    simp only [toKs, nats, List.map_cons] at *
    rw [ih]
    congr 1
    omega

theorem toKs_lt {zs : List Int} (h : Kinds4 zs) : ∀ k ∈ toKs zs, k < 4 := by
  intro k hk
  obtain ⟨z, hz, rfl⟩ := List.mem_map.1 hk
  have := h z hz
  omega

theorem AddS.add {w wr w1 w2 : World} {b : Nat} {ks : List Nat} {av v v2 : Value} {zs : List Int} (hz : Kinds4 zs) (hv : WordAt wr b v ks) (hb : w.heap.size ≤ b) (hvb : ∀ k, v.ownBlock = some k → w.heap.size ≤ k) (ho : OwnI w.heap.size wr av (nats ks)) (hd : ∀ k, av.ownBlock = some k → k ≠ b ∧ v.ownBlock ≠ some k) (hk : Keeps (fun _ => False) w wr)
    (hg : WordGrown wr b v (ks ++ toKs zs) w1) (ho2 : OwnI w.heap.size w2 v2 (nats ks ++ zs)) (hk2 : Keeps (fun k => av.ownBlock = some k) w1 w2) (hf2 : v2.ownBlock = av.ownBlock ∨ ∃ k, v2.ownBlock = some k ∧ w1.heap.size ≤ k) : AddS w b (ks ++ toKs zs) v2 w2 := by
  obtain ⟨v1, g1, g2, g3⟩ := hg
  have hs1 := g2.size
  have hal := hv.apart
  have hnew : ∀ k, v1.ownBlock = some k → w.heap.size ≤ k := by
    intro k hk1
    rcases g3 with g3 | ⟨k', g3, g4⟩
    · rw [g3] at hk1; exact hvb k hk1
    · rw [g3] at hk1; cases hk1; exact Nat.le_trans hk.size g4
  have hav : ∀ k, av.ownBlock = some k → k ≠ b ∧ v1.ownBlock ≠ some k := by
    intro k hk1
    refine ⟨(hd k hk1).1, fun e => ?_⟩
    rcases g3 with g3 | ⟨k', g3, g4⟩
    · rw [g3] at e; exact (hd k hk1).2 e
    · rw [g3] at e; cases e
      have := (ho.lt k hk1).2; omega
  have k01 : Keeps (fun _ => False) w w1 := hk.trans g2 (fun x hx e => by
    rcases e with rfl | e
    · omega
    · have := hvb x e; omega)
  refine ⟨v1, g1.keeps hk2 (fun e => (hav b e).1 rfl) (fun k e1 e2 => (hav k e2).2 e1), hb, hnew, ?_, ?_, k01.trans hk2 (fun x hx e => by have := (ho.lt x e).1; omega)⟩
  · have : nats (ks ++ toKs zs) = nats ks ++ zs := by
      have h1 : nats (ks ++ toKs zs) = nats ks ++ nats (toKs zs) := by simp [nats]
      rw [h1, nats_toKs hz]
    rw [this]; exact ho2
  · intro k hk1
    rcases hf2 with hf2 | ⟨k', hf2, hf3⟩
    · rw [hf2] at hk1; exact hav k hk1
    · rw [hf2] at hk1; cases hk1
      have h1 := g1.lt
      exact ⟨by omega, fun e => by have := (g1.apart k e).2; omega⟩

theorem AddS.same {w wr w1 : World} {b : Nat} {ks : List Nat} {av : Value} (h : AddS w b ks av wr) (hk : Keeps (fun _ => False) wr w1) : AddS w b ks av w1 := by
  obtain ⟨v, h1, h2, h3, h4, h5, h6⟩ := h
  exact ⟨v, h1.keeps hk (fun h => h) (fun _ _ h => h), h2, h3, h4.keeps hk (fun _ _ h => h), h5, h6.trans hk (fun _ _ h => h)⟩

def allK (zs : List Int) : Bool := zs.all fun z => decide (0 ≤ z) && decide (z < 4)
theorem allK_iff (zs : List Int) : allK zs = true ↔ Kinds4 zs := by
  simp only [allK, List.all_eq_true, Bool.and_eq_true, decide_eq_true_eq, Kinds4]
  exact ⟨fun h z hz => ⟨(h z hz).1, by have := (h z hz).2; omega⟩, fun h z hz => ⟨(h z hz).1, by have := (h z hz).2; omega⟩⟩
theorem allK_step {zs : List Int} {i : Nat} {z : Int} (h : zs[i]? = some z) : allK (zs.take (i + 1)) = (allK (zs.take i) && decide (0 ≤ z) && decide (z < 4)) := by
  rw [take_get h]; simp [allK, List.all_append, Bool.and_assoc]

set_option maxRecDepth 100000 in
set_option maxHeartbeats 8000000 in
theorem walkMixedAdds (a0 : Option Addr) (len0 cap0 : Nat) (a1 : Bool) (w : World) (w0 : RowsIn .i64 w a0 len0 cap0) :
    Calls Try.prog 17 #[.slice a0 len0 cap0, .bool a1] w fun e w' => e = .returned (.bool true) ∧ Below w.heap.size w w' := by
  have hnot : ∀ (x : Bool) (w : World), (Op.unary .not (.bool x)).run Try.prog w = .ok (.bool (!x)) w := fun _ _ => rfl
  obtain ⟨hl1, hl2, hrow⟩ := w0.row
  clear w0
  have HR : Hid (∀ W, Keeps (fun _ => False) w W → ∀ r, r < len0 → ∃ g off sv zs, a0 = some ⟨g, off, none⟩ ∧ W.cell? ⟨g, off + r, none⟩ = some sv ∧ Sl .i64 W sv zs) := Lib.hid (fun W hk r hr => by
    obtain ⟨g, off, sv, zs, h1, h2, h3⟩ := hrow r hr
    refine ⟨g, off, sv, zs, h1, ?_, h3.keeps hk (fun _ _ h => h)⟩
    rw [World.cell?_of_block (w := w) (hk.block g (World.block_lt_of_cell? _ _ h2) (fun h => h))]
    exact h2)
  clear hrow
  go_enter Try.func17, Try.ntmps17
  go_wp2_with fail
  refine (awake04_any _).mono ?_
  rintro e w1 ⟨rfl, hk1⟩
  go_wp2_with fail
  refine (wordNew_any _).mono ?_
  rintro e w2 ⟨rfl, rfl⟩
  have h0 : AddS w w1.heap.size [] (.slice none 0 0) (w1.alloc (.cells #[.slice none 0 0] 131)) := ⟨_, word_new w1, hk1.size, fun k hk => by simp [Value.ownBlock] at hk, OwnI.nil _ _, fun k hk => by simp [Value.ownBlock] at hk, hk1.alloc _⟩
  obtain ⟨b, hb⟩ : ∃ b, b = w1.heap.size := ⟨_, rfl⟩
  rw [← hb] at h0
  rw [← hb]
  clear hb hk1
  generalize World.alloc _ _ = wM at *
  go_wp2_with fail
  go_loopg [6, 21] (len0 + 1) (fun m av i wr => ∃ (j : Nat) (ks : List Nat), j ≤ len0 ∧ j ≤ 10 ∧ m = len0 + 1 - j ∧ i = .int .i64 j ∧ ks.length ≤ 20 * j ∧ (∀ k ∈ ks, k < 4) ∧ AddS w b ks av wr)
  case atStart => exact ⟨0, [], Nat.zero_le _, Nat.zero_le _, rfl, rfl, Nat.zero_le _, (fun k hk => by cases hk), h0⟩
  case round =>
    clear h0
    obtain ⟨j, ks, hj, hj10, hgk, rfl, hkl, hk4, hA⟩ := hrel
    have HG := Lib.hid hgk
    clear hgk
    by_cases hlt : j < len0 ∧ j < 10
    · obtain ⟨hlt, hlt10⟩ := hlt
      obtain ⟨v, hv, hbw, hvw, hown, hap, hkw⟩ := hA
      obtain ⟨g, off, sv, zs, rfl, hcell, hsl⟩ := HR.out wr hkw j hlt
      obtain ⟨ra, rcap, rfl, hrl, hrc, hrn, hrcell⟩ := id hsl
      obtain ⟨n20, hn20⟩ : ∃ n20, n20 = (min (zs.length : Int) 20).toNat := ⟨_, rfl⟩
      have hn1 : n20 ≤ zs.length := by omega
      have hn2 : n20 ≤ 20 := by omega
      have hC := clone_any (.slice ra n20 rcap) (zs.take n20) wr (hsl.take n20 hn1) (by simp; omega)
      have hzl : (zs.take n20).length ≤ 20 := by simp; omega
      have hb1 : decide (10 ≤ (j : Int)) = false := decide_eq_false (by omega)
      have HN := Lib.hid hn20
      have HV := Lib.hid (And.intro hv (And.intro hown hap))
      have HK := Lib.hid (And.intro hbw (And.intro hvw hkw))
      have HK4 := Lib.hid hk4
      clear hn20 hsl hrcell hv hown hap hbw hvw hkw hk4
      go_wp2_with fail
      rw [← HN.out]
      refine hC.mono ?_
      rintro e w2 ⟨cv, rfl, hcv, hk2⟩
      clear hC hcell
      generalize zs.take n20 = ys at *
      have hAdd := hcv.sl
      obtain ⟨ca, ccap, rfl, hcl, hcc, hcn, hccell⟩ := id hAdd
      have hv2 := HV.out.1.keeps hk2 (fun h => h) (fun _ _ h => h)
      have hown2 := HV.out.2.1.keeps hk2 (fun _ _ h => h)
      have hlt2 := hcv.lt
      have hd2 : ∀ k, (Value.slice ca ys.length ccap).ownBlock = some k → k ≠ b ∧ v.ownBlock ≠ some k := fun k hk => by
        have := (hlt2 k hk).1
        have h1 := HV.out.1.lt
        exact ⟨by omega, fun e => by have := (HV.out.1.apart k e).2; omega⟩
      have hk02 := HK.out.2.2.trans hk2 (fun _ _ h => h)
      have HW := Lib.hid (And.intro hv2 (And.intro hown2 (And.intro hd2 (And.intro hk02 hAdd))))
      clear hv2 hown2 hd2 hk02 hAdd hk2 hcv hlt2
      go_wp2_with fail
      go_loop [9, 36] (fun gd i => ∃ k : Nat, k ≤ ys.length ∧ i = .int .i64 k ∧ gd = .bool (allK (ys.take k))) (fun _ i => ys.length - (intOf i).toNat)
      case atStart => exact ⟨0, Nat.zero_le _, rfl, rfl⟩
      case round =>
        obtain ⟨k, hk, rfl, rfl⟩ := hrel
        by_cases hlk : k < ys.length
        · have hz := List.getElem?_eq_getElem hlk
          have hst := allK_step hz
          obtain ⟨cg, co, rfl, hcell⟩ := hccell k _ hz
          generalize ys[k] = z at *
          have HS := Lib.hid hst
          clear hst hz hccell
          generalize allK (ys.take k) = t at *
          cases t
          · go_wp2
            go_round
            case rel => exact ⟨k + 1, by omega, by go_num, by rw [HS.out]; rfl⟩
            case measure => simp [intOf]; omega
          · by_cases h1 : 0 ≤ z
            · by_cases h2 : z < 4
              · go_wp2
                go_round
                case rel => exact ⟨k + 1, by omega, by go_num, by rw [HS.out]; simp [h1, h2]⟩
                case measure => simp [intOf]; omega
              · have h3 : decide (z < 4) = false := decide_eq_false h2
                go_wp2
                go_round
                case rel => exact ⟨k + 1, by omega, by go_num, by rw [HS.out]; simp [h3]⟩
                case measure => simp [intOf]; omega
            · have h3 : decide (0 ≤ z) = false := decide_eq_false h1
              have h4 : z < 0 := by omega
              go_wp2
              go_round
              case rel => exact ⟨k + 1, by omega, by go_num, by rw [HS.out]; simp [h3]⟩
              case measure => simp [intOf]; omega
        · obtain rfl : k = ys.length := by omega
          rw [List.take_of_length_le (Nat.le_refl _)]
          have hi := allK_iff ys
          obtain ⟨f1, f2, f3, f4, f5⟩ := HW.out
          cases hall : allK ys
          · have hbad := wordAdd_bad b _ ys w2 f5 (fun h => by rw [hi.2 h] at hall; cases hall)
            have hsame : AddS w b ks u6 w2 := ⟨v, f1, HK.out.1, HK.out.2.1, f2, HV.out.2.2, f4⟩
            have HA := Lib.hid hsame
            clear hall hi f1 f2 f3 f4 f5 hsame
            go_wp2_with fail
            refine hbad.mono ?_
            rintro e w3 ⟨rfl, rfl⟩
            clear hbad
            go_wp2
            go_roundg (len0 + 1 - (j + 1))
            case measure => rw [HG.out]; omega
            case rel => exact ⟨j + 1, ks, by omega, by omega, rfl, by go_num, by omega, HK4.out, HA.out⟩
          · have hg := hi.1 hall
            have hgood := wordAdd_good b v ks _ ys w2 f1 f5 hg f3 (by omega)
            have HA := Lib.hid (And.intro hg (And.intro f1 (And.intro f2 (And.intro f3 (And.intro f4 f5)))))
            clear hall hi f1 f2 f3 f4 f5 hg
            go_wp2_with fail
            refine hgood.mono ?_
            rintro e w3 ⟨rfl, hgr⟩
            clear hgood
            have hgk : Keeps (fun k => k = b ∨ v.ownBlock = some k) w2 w3 := by obtain ⟨_, _, h, _⟩ := hgr; exact h
            have hown3 := HA.out.2.2.1.keeps hgk (fun k e1 e2 => by
              rcases e2 with rfl | e2
              · exact (HV.out.2.2 _ e1).1 rfl
              · exact (HV.out.2.2 _ e1).2 e2)
            have hsl3 := HA.out.2.2.2.2.2.keeps hgk (fun k e1 e2 => by
              rcases e2 with rfl | e2
              · exact (HA.out.2.2.2.1 _ e1).1 rfl
              · exact (HA.out.2.2.2.1 _ e1).2 e2)
            have hs3 : w.heap.size ≤ w3.heap.size := Nat.le_trans HA.out.2.2.2.2.1.size hgk.size
            have hnl : (nats ks).length + ys.length ≤ 10000000000 := by rw [nats_len]; omega
            have HG2 := Lib.hid hgr
            clear hgr hgk
            go_wp2_with (at_builtin; (refine appendInts rfl _ _ rfl w.heap.size u6 (.slice ca ys.length ccap) (nats ks) ys rfl rfl hown3 hsl3 hnl hs3 ?_); intro v5 w5 hown5 hk5 hf5)
            have hfin := AddS.add HA.out.1 HA.out.2.1 HK.out.1 HK.out.2.1 HA.out.2.2.1 HV.out.2.2 HA.out.2.2.2.2.1 HG2.out hown5 hk5 hf5
            have hkk : ∀ k ∈ ks ++ toKs ys, k < 4 := fun k hk => by
              rcases List.mem_append.1 hk with hk | hk
              · exact HK4.out k hk
              · exact toKs_lt HA.out.1 k hk
            have hll : (ks ++ toKs ys).length ≤ 20 * (j + 1) := by
              have : (toKs ys).length = ys.length := by simp [toKs]
              rw [List.length_append, this]; omega
            have HF := Lib.hid (And.intro hfin hkk)
            clear hfin hkk hown5 hk5 hf5 hown3 hsl3
            go_wp2
            go_roundg (len0 + 1 - (j + 1))
            case measure => rw [HG.out]; omega
            case rel => exact ⟨j + 1, ks ++ toKs ys, by omega, by omega, rfl, by go_num, hll, HF.out.2, HF.out.1⟩
    · obtain ⟨v, hv, hbw, hvw, hown, hap, hkw⟩ := hA
      have hBits := wordBits_any b v ks wr hv hk4 (by omega)
      have hcase : len0 ≤ j ∨ (j < len0 ∧ 10 ≤ j) := by omega
      have hpk := pairK_wbits ks hk4
      have hwl := wbits_length ks
      have hkl2 : ks.length ≤ 1000 := by omega
      have hkwS := Lib.hid hkw.size
      have HA := Lib.hid (And.intro hv (And.intro hown (And.intro hap (And.intro hkw (And.intro hk4 (And.intro hpk hwl))))))
      have hsub : ∃ g off sv, (len0 ≤ j ∨ (a0 = some ⟨g, off, none⟩ ∧ wr.cell? ⟨g, off + j, none⟩ = some sv ∧ ∃ ra n c, sv = .slice ra n c)) := by
        rcases hcase with h1 | ⟨h1, h2⟩
        · exact ⟨0, 0, undef, .inl h1⟩
        · obtain ⟨g, off, sv, zs, h3, h4, h5⟩ := HR.out wr hkw j h1
          obtain ⟨ra, rc, h6, _⟩ := h5
          exact ⟨g, off, sv, .inr ⟨h3, h4, ra, _, rc, h6⟩⟩
      obtain ⟨g, off, sv, hsub⟩ := hsub
      clear hv hbw hvw hown hap hkw hk4 hlt hpk hwl
      rcases hcase with hc1 | ⟨hc1, hc2⟩
      case' inl => clear hsub
      case' inr =>
        obtain ⟨rfl, hcell, ra, rn, rc, rfl⟩ := hsub.resolve_left (by omega)
        clear hsub
        have hb1 : decide (10 ≤ (j : Int)) = true := decide_eq_true (by omega)
      all_goals
        go_wp2_with fail
        refine hBits.mono ?_
        rintro e w2 ⟨b2, rfl, v2, hv2, hb2, hvb2, hk2⟩
        clear hBits
        obtain ⟨hv, hown, hap, hkw, hk4, hpk, hwl⟩ := HA.out
        have hv' := hv.keeps hk2 (fun h => h) (fun _ _ h => h)
        have hown' := hown.keeps hk2 (fun _ _ h => h)
        have hk02 := hkw.trans hk2 (fun _ _ h => h)
        have hbb : b < wr.heap.size := hv.lt
        have hvv := fun k hk => (hv.apart k hk).2
        have hoo := hown.lt
        cases a1
        · have hOf := mixOf_even b2 v2 (wbits ks) w2 hv2 (by omega) (by omega)
          rw [hpk] at hOf
          have HB := Lib.hid (And.intro hv' (And.intro hown' (And.intro hk02 hk4)))
          clear hv hown hap hkw hk4 hpk hwl hv' hown' hk02 hv2 hb2 hvb2 hk2 hvv hoo
          go_wp2_with fail
          refine hOf.mono ?_
          rintro e w3 ⟨b3, rfl, v3, hv3, hb3, hvb3, hk3⟩
          clear hOf
          have hown3 := HB.out.2.1.keeps hk3 (fun _ _ h => h)
          have hvo3 := HB.out.1.keeps hk3 (fun h => h) (fun _ _ h => h)
          have hk03 := HB.out.2.2.1.trans hk3 (fun _ _ h => h)
          have hL1 := like_any b3 v3 u6 ks w3 hv3 hown3.sl (fun k hk => (hown3.lt k hk).2) HB.out.2.2.2 (by omega)
          have HC := Lib.hid (And.intro hown3 (And.intro hvo3 hk03))
          clear hv3 hb3 hvb3 hk3 hown3 hvo3 hk03
          go_wp2_with fail
          refine hL1.mono ?_
          rintro e w4 ⟨rfl, hk4'⟩
          clear hL1
          have hown4 := HC.out.1.keeps hk4' (fun _ _ h => h)
          have hL2 := like_any b v u6 ks w4 (HC.out.2.1.keeps hk4' (fun h => h) (fun _ _ h => h)) hown4.sl (fun k hk => (hown4.lt k hk).2) HB.out.2.2.2 (by omega)
          have HD := Lib.hid (HC.out.2.2.trans hk4' (fun _ _ h => h))
          clear hown4 hk4'
          go_wp2_with fail
          refine hL2.mono ?_
          rintro e w5 ⟨rfl, hk5⟩
          have HE := Lib.hid ((HD.out.trans hk5 (fun _ _ h => h)).below (fun _ _ h => h))
          clear hL2 hk5
          go_wp2
          go_ret
          exact ⟨rfl, HE.out⟩
        · have kA := (Keeps.refl (fun _ => False) w2).alloc (.cells #[.int .i64 1] 3)
          have hAd := Add_any b2 v2 (wbits ks) (.slice (some ⟨w2.heap.size, 0, none⟩) 1 1) [1] (w2.alloc (.cells #[.int .i64 1] 3)) (hv2.keeps kA (fun h => h) (fun _ _ h => h)) (Sl.one w2 .i64 1 _) (by
            intro x hx
            simp only [Value.ownBlock, Option.some.injEq] at hx
            subst hx
            exact ⟨by have := hv2.lt; omega, fun e => by have := (hv2.apart _ e).2; omega⟩) (by simp; omega)
          have hlo : ((wbits ks) ++ bitsOf [1]).length = 2 * ks.length + 1 := by rw [List.length_append, hwl]; rfl
          have hwr2 := hk2.size
          have HB := Lib.hid (And.intro hv' (And.intro hown' (And.intro hk02 (And.intro hk4 (And.intro hlo (And.intro kA (And.intro hb2 hvb2)))))))
          clear hv hown hap hkw hk4 hpk hwl hv' hown' hk02 hv2 hb2 hvb2 hk2 kA hlo
          go_wp2_with fail
          refine hAd.mono ?_
          rintro e w3 ⟨rfl, v3, hv3, hk3, hf3⟩
          clear hAd
          have hlo := HB.out.2.2.2.2.1
          have hOf := mixOf_odd b2 v3 _ w3 hv3 (by omega) (by omega)
          have k23 : Keeps (fun k => k = b2 ∨ v2.ownBlock = some k) w2 w3 := (HB.out.2.2.2.2.2.1.mono (fun _ _ h => h.elim)).trans hk3 (fun _ _ h => h)
          have hb2w := HB.out.2.2.2.2.2.2.1
          have hvb2w := HB.out.2.2.2.2.2.2.2
          have hvo3 := HB.out.1.keeps k23 (by
            rintro (h | h)
            · omega
            · have := hvb2w b h; omega) (by
            rintro k hk (h | h)
            · have := hvv k hk; omega
            · have := hvb2w k h; have := hvv k hk; omega)
          have hown3 := HB.out.2.1.keeps k23 (by
            rintro k hk (h | h)
            · have := (hoo k hk).2; omega
            · have := hvb2w k h; have := (hoo k hk).2; omega)
          have hk03 := HB.out.2.2.1.trans k23 (by
            rintro k hk (h | h)
            · have := HB.out.2.2.1.size; have := hkwS.out; omega
            · have := hvb2w k h; have := hkwS.out; omega)
          have HC := Lib.hid (And.intro hown3 (And.intro hvo3 hk03))
          clear hv3 hk3 hf3 hown3 hvo3 hk03 k23 hb2w hvb2w hlo hvv hoo
          go_wp2_with fail
          refine hOf.mono ?_
          rintro e w4 ⟨rfl, rfl⟩
          clear hOf
          have hL2 := like_any b v u6 ks w3 HC.out.2.1 HC.out.1.sl (fun k hk => (HC.out.1.lt k hk).2) HB.out.2.2.2.1 (by omega)
          go_wp2_with fail
          refine hL2.mono ?_
          rintro e w5 ⟨rfl, hk5⟩
          have HE := Lib.hid ((HC.out.2.2.trans hk5 (fun _ _ h => h)).below (fun _ _ h => h))
          clear hL2 hk5
          go_wp2
          go_ret
          exact ⟨rfl, HE.out⟩

end Go.Proofs.Ytlciacpffoekjaa
