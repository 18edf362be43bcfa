/- Layer 13's statements: LookAsks. -/
import Derived.Test.YtipelclohcdkcaaGreatAwake
namespace Go.Proofs.YtipelclohcdkcaaGreat
open Go.RowKit

theorem few_bits {ps : List Nat} {m x : Nat} (h : x ∈ few ps m) : x = 0 ∨ x = 1 := by
  have h1 := List.mem_of_mem_take h
  obtain ⟨b, _, hb⟩ := List.mem_flatMap.1 h1
  obtain ⟨j, _, rfl⟩ := List.mem_map.1 hb
  omega

theorem few_len (ps : List Nat) (m : Nat) : (few ps m).length ≤ m := by
  unfold few; exact List.length_take_le _ _

/-- Two bits as a letter. -/
theorem pairK_bits {S : List Nat} (h01 : ∀ x ∈ S, x = 0 ∨ x = 1) {j : Nat} (hj : 2 * j + 1 < S.length) : (pairK (bitsOf (nats S)))[j]? = some (S.getD (2 * j) 0 + 2 * S.getD (2 * j + 1) 0) := by
  have hl : (bitsOf (nats S)).length = S.length := by rw [bitsOf_length, nats_len]
  have hb : ∀ i, i < S.length → ((bitsOf (nats S)).getD i false).toNat = S.getD i 0 := by
    intro i hi
    have hx := List.getElem?_eq_getElem hi
    have h2 := h01 _ (List.mem_of_getElem? hx)
    generalize S[i] = x at *
    have h3 : (bitsOf (nats S))[i]? = some (!((x : Int) == 0)) := by simp [bitsOf, nats, hx]
    rw [List.getD_eq_getElem?_getD, h3, List.getD_eq_getElem?_getD, hx]
    rcases h2 with rfl | rfl <;> rfl
  rw [pairK_get _ _ (by omega), hb _ (by omega), hb _ (by omega)]

/-- The letters so far. -/
def AsksS (w3 : World) (K : List Nat) (j : Nat) (kv : Value) (wr : World) : Prop := OwnI w3.heap.size wr kv (nats (K.take j)) ∧ Keeps (fun _ => False) w3 wr

theorem i64_in {z : Int} (h : (Lit.int .i64 z).wf = true) : -9223372036854775808 ≤ z ∧ z ≤ 9223372036854775807 := by
  have h1 : (Lit.int .i64 z).wf = (decide (IntKind.i64.min ≤ z) && decide (z ≤ IntKind.i64.max)) := rfl
  rw [h1, show IntKind.i64.min = -9223372036854775808 by decide, show IntKind.i64.max = 9223372036854775807 by decide] at h
  simpa using h

/-- What Of gives of some bits. -/
def AskLook (w w3 : World) (K : List Nat) (m : Nat) (lv : Option Addr) (ec : Nat) : Prop :=
  (m % 2 = 0 ∧ MBal K ∧ CanonOk K ∧ ec = 0 ∧ ∃ bl bm bo bi bp F, lv = some ⟨bl, 0, none⟩ ∧ LookS w3 bl bm bo bi bp K 0 F 0 ∧ (∀ x, F x → w.heap.size ≤ x) ∧ w.heap.size ≤ bl) ∨
  (lv = none ∧ ((m % 2 = 1 ∧ ec = 3) ∨ (m % 2 = 0 ∧ ¬ MBal K ∧ ec = 9) ∨ (m % 2 = 0 ∧ MBal K ∧ ¬ CanonOk K ∧ ec = 10)))

theorem askOf (w wv : World) (hk : Keeps (fun _ => False) w wv) (b : Nat) (v : Value) (l : List Bool) (hv : VecAt wv b v l) (hl : l.length ≤ 1000) :
    Calls Tryz.prog 53 #[.pointer (some ⟨b, 0, none⟩)] wv fun e w3 => ∃ lv ec, e = .returned (.tuple #[.pointer lv, .int .i64 (ec : Nat)]) ∧ AskLook w w3 (pairK l) l.length lv ec ∧ Keeps (fun _ => False) wv w3 := by
  have hsz := hk.size
  by_cases hp : l.length % 2 = 1
  · refine (lookOf_bad _ 3 wv (by omega) (mixOf_odd b v l wv hv hp (by omega))).mono ?_
    rintro e w' ⟨rfl, rfl⟩
    exact ⟨none, 3, rfl, .inr ⟨rfl, .inl ⟨hp, rfl⟩⟩, Keeps.refl _ _⟩
  · have hpl := pairK_length l
    refine (lookOf_any _ (pairK l) wv (pairK_lt l) (by omega) (mixOf_even b v l wv hv (by omega) (by omega))).mono ?_
    rintro e w' (⟨hB, hC, bl, bm, bo, bi, bp, F, rfl, hb, hm, hs, hF, hbl, hk3⟩ | ⟨c, hc, rfl, hk3⟩)
    · exact ⟨_, 0, rfl, .inl ⟨by omega, hB, hC, rfl, bl, bm, bo, bi, bp, F, rfl, ⟨hb, hm, hs⟩, fun x hx => by have := hF x hx; omega, by omega⟩, hk3⟩
    · refine ⟨none, c, rfl, .inr ⟨rfl, .inr ?_⟩, hk3⟩
      rcases hc with ⟨h1, h2⟩ | ⟨h1, h2, h3⟩
      · exact .inl ⟨by omega, h1, h2⟩
      · exact .inr ⟨by omega, h1, h2, h3⟩

/-- Behind some questions. -/
def AskF (w w3 w5 : World) (K : List Nat) (kv : Value) (bl bm bo : Nat) (bi bp : Nat → Nat) (F : Nat → Prop) (j : Nat) (wr : World) : Prop :=
  (Keeps (fun _ => False) w w5 ∧ w3.heap.size ≤ w5.heap.size ∧ OwnI w3.heap.size w5 kv (nats K) ∧ (∀ x, F x → w.heap.size ≤ x ∧ x < w3.heap.size) ∧ w.heap.size ≤ bl ∧ bl < w3.heap.size ∧ ¬ F bl) ∧ LookQ w5 bl bm bo bi bp K (600 * j) F j wr

theorem AskF.step {w w3 w5 wr wz : World} {K : List Nat} {kv : Value} {bl bm bo : Nat} {bi bp : Nat → Nat} {F : Nat → Prop} {j : Nat} (hK : K.length ≤ 29) (h : AskF w w3 w5 K kv bl bm bo bi bp F j wr) (k : LookQ wr bl bm bo bi bp K (600 * j + 20 * K.length + 10) (grow F w5 wr) (j + 1) wz) : AskF w w3 w5 K kv bl bm bo bi bp F (j + 1) wz := by
  obtain ⟨h0, h1⟩ := h
  obtain ⟨a1, a2, a3, a4, a5, a6, a7⟩ := id h0
  exact ⟨h0, (LookQ.trans (fun x hx => by have := a4 x hx; omega) (by omega) a7 h1 k).more (by omega)⟩

theorem AskF.tail {w w3 w5 wr : World} {K : List Nat} {kv : Value} {bl bm bo : Nat} {bi bp : Nat → Nat} {F : Nat → Prop} {j : Nat} (h : AskF w w3 w5 K kv bl bm bo bi bp F j wr) : OwnI w3.heap.size wr kv (nats K) ∧ Keeps (fun _ => False) w wr ∧ w3.heap.size ≤ wr.heap.size := by
  obtain ⟨⟨a1, a2, a3, a4, a5, a6, a7⟩, h1⟩ := h
  refine ⟨a3.keeps h1.2 (fun q hq hx => ?_), a1.trans h1.2 (fun x hx hh => ?_), Nat.le_trans a2 h1.2.size⟩
  · have := (a3.lt q hq).1
    rcases hx with hx | hx
    · have := a4 q hx; omega
    · omega
  · rcases hh with hh | hh
    · have := a4 x hh; omega
    · omega

set_option maxRecDepth 100000 in
set_option maxHeartbeats 8000000 in
theorem walkLookAsks (a0 : Option Addr) (len0 cap0 : Nat) (z0 : List Int) (a1 : Int) (a2 : Option Addr) (len2 cap2 : Nat) (z2 : List Int) (w : World) (w0 : RowIn .u8 w a0 len0 cap0 z0) (w1 : (Lit.int .u8 a1).wf = true) (w2 : RowIn .i64 w a2 len2 cap2 z2) :
    Calls Tryz.prog 8 #[.slice a0 len0 cap0, .int .u8 a1, .slice a2 len2 cap2] w fun e w' => e = .returned (.bool true) ∧ Below w.heap.size w w' := by
  have hnot : ∀ (x : Bool) (w : World), (Op.unary .not (.bool x)).run Tryz.prog w = .ok (.bool (!x)) w := fun _ _ => rfl
  obtain ⟨ps, hp, hps⟩ := w0.bytes
  obtain ⟨n, rfl, hn⟩ := u8_in w1
  obtain ⟨hz, hzl, hzw, _⟩ := w2.sl
  obtain ⟨zs, hzs⟩ : ∃ zs, zs = z2.take len2 := ⟨_, rfl⟩
  rw [← hzs] at hz hzl hzw
  have HZ : Hid (∀ W, Keeps (fun _ => False) w W → Sl .i64 W (.slice a2 len2 cap2) zs) := Lib.hid (fun W hk => hz.keeps hk (fun _ _ h => h))
  have HZW := Lib.hid (And.intro hzw hzl)
  have hF := fun w1 (hk : Keeps (fun _ => False) w w1) => Few_any (.slice a0 len0 cap0) ps (n % 60) w1 (hp.keeps hk (fun _ _ h => h)) hps (by omega)
  have e1 : ((n % 60 : Nat) : Int) = (n : Int) % 60 := by omega
  rw [e1] at hF
  obtain ⟨_, _, hv2, _, hc2, _, _⟩ := hz
  simp only [Value.slice.injEq] at hv2
  have hc2' : len2 ≤ 9223372036854775807 := by omega
  clear w0 w1 w2 hp hps e1 hzs hzl hzw hv2 hc2
  go_enter Tryz.func8, Tryz.ntmps8
  go_wp2_with fail
  refine (awake13_any _).mono ?_
  rintro e w1 ⟨rfl, hk1⟩
  go_wp2_with fail
  refine (hF _ hk1).mono ?_
  rintro e w2 ⟨sv, rfl, hown, hk2⟩
  have hSl := few_le ps (n % 60)
  have h01 : ∀ x ∈ few ps (n % 60), x = 0 ∨ x = 1 := fun x hx => by have := few_bit ps (n % 60) x hx; omega
  obtain ⟨S, hS⟩ : ∃ S, S = few ps (n % 60) := ⟨_, rfl⟩
  rw [← hS] at hown hSl h01
  have k2 := hk1.trans hk2 (fun _ _ h => h)
  clear hF hS
  go_wp2_with fail
  refine (new_any _).mono ?_
  rintro e w3 ⟨rfl, rfl⟩
  have kN := (Keeps.refl (fun _ => False) w2).alloc (.cells #[.slice none 0 0, .int .i64 0] 130)
  have hsz2 := k2.size
  have hown3 := hown.keeps kN (fun _ _ h => h)
  have hA := Add_any w2.heap.size (.slice none 0 0) [] sv (nats S) _ (vec_new w2) hown3.sl (fun k hk => ⟨by have := (hown.lt k hk).2; omega, by simp [Value.ownBlock]⟩) (by rw [nats_len]; simp; omega)
  obtain ⟨sa, sc, rfl, _, _⟩ := hown.form
  rw [nats_len] at *
  rw [List.nil_append] at hA
  go_wp2_with fail
  refine hA.mono ?_
  rintro e w4 ⟨rfl, v4, hv4, hk4, _⟩
  have k4 : Keeps (fun _ => False) w w4 := (k2.trans kN (fun _ _ h => h)).trans hk4 (fun x hx h => by
    rcases h with h | h
    · omega
    · simp [Value.ownBlock] at h)
  have hown4 := hown3.keeps hk4 (fun q hq h => by
    rcases h with h | h
    · have := (hown.lt q hq).2; omega
    · simp [Value.ownBlock] at h)
  have hbl : (bitsOf (nats S)).length = S.length := by rw [bitsOf_length, nats_len]
  have hOf := askOf w w4 k4 w2.heap.size v4 (bitsOf (nats S)) hv4 (by omega)
  rw [hbl] at hOf
  have hKl := pairK_length (bitsOf (nats S))
  rw [hbl] at hKl
  have HKG : Hid (∀ j, 2 * j + 1 < S.length → (pairK (bitsOf (nats S)))[j]? = some (S.getD (2 * j) 0 + 2 * S.getD (2 * j + 1) 0)) := Lib.hid (fun j hj => pairK_bits h01 hj)
  have HK4 : Hid (∀ k ∈ pairK (bitsOf (nats S)), k < 4) := Lib.hid (pairK_lt _)
  obtain ⟨K, hK⟩ : ∃ K, K = pairK (bitsOf (nats S)) := ⟨_, rfl⟩
  rw [← hK] at hOf hKl HKG HK4
  clear hA hown hown3 hk4 hv4 kN k2 hk1 hk2 hK hbl
  go_wp2_with fail
  refine hOf.mono ?_
  rintro e w5 ⟨lv, ec, rfl, hLk, hk5⟩
  have k5 := k4.trans hk5 (fun _ _ h => h)
  have hown5 := hown4.keeps hk5 (fun _ _ h => h)
  have HS5 : Hid (∀ W, Keeps (fun _ => False) w5 W → Sl .i64 W (.slice sa S.length sc) (nats S)) := Lib.hid (fun W hk => (hown5.keeps hk (fun _ _ h => h)).sl)
  have h0 : AsksS w5 K 0 (.slice none 0 0) w5 := ⟨OwnI.nil _ _, Keeps.refl _ _⟩
  have HLK := Lib.hid (And.intro hLk k5)
  have hecb : ec ≤ 100 := by
    rcases hLk with ⟨_, _, _, h, _⟩ | ⟨_, ⟨_, h⟩ | ⟨_, _, h⟩ | ⟨_, _, _, h⟩⟩ <;> omega
  obtain ⟨m, hm⟩ : ∃ m, m = S.length := ⟨_, rfl⟩
  rw [← hm] at HS5 HKG hKl hSl HLK ⊢
  have hmb : m ≤ 59 := by omega
  have HM := Lib.hid hm
  have hKb : K.length ≤ 29 := by omega
  have HKL := Lib.hid hKl
  clear hOf hown4 hown5 hk5 k4 k5 hLk hm hSl hKl
  go_wp2_with fail
  go_loopg [11, 12] (m - 0) (fun mu kv i wr => ∃ j : Nat, 2 * j ≤ m ∧ mu = m - 2 * j ∧ i = .int .i64 ((2 * j : Nat) : Int) ∧ AsksS w5 K j kv wr)
  case atStart => exact ⟨0, by omega, rfl, rfl, h0⟩
  case round =>
    clear h0
    obtain ⟨j, hj, hgk, rfl, hA⟩ := hrel
    have HG := Lib.hid hgk
    clear hgk
    by_cases hlt : 2 * j + 1 < m
    · obtain ⟨i, hi⟩ : ∃ i, i = 2 * j := ⟨_, rfl⟩
      have hkj := HKG.out j hlt
      rw [← hi] at hlt hkj
      obtain ⟨x, hx⟩ : ∃ x, S[i]? = some x := ⟨_, List.getElem?_eq_getElem (by rw [← HM.out]; omega)⟩
      obtain ⟨y, hy⟩ : ∃ y, S[i + 1]? = some y := ⟨_, List.getElem?_eq_getElem (by rw [← HM.out]; omega)⟩
      rw [List.getD_eq_getElem?_getD, hx, List.getD_eq_getElem?_getD, hy, Option.getD_some, Option.getD_some] at hkj
      have hx2 := h01 x (List.mem_of_getElem? hx)
      have hy2 := h01 y (List.mem_of_getElem? hy)
      obtain ⟨hown, hkw⟩ := hA
      have hlen : (K.take j).length = j := by rw [List.length_take]; have := HKL.out; omega
      have hst : K.take (j + 1) = K.take j ++ [x + 2 * y] := take_get hkj
      have hfo := hown.form
      rw [nats_len, hlen] at hfo
      obtain ⟨la, lc, rfl, _, _⟩ := hfo
      have hS5 := HS5.out wr hkw
      obtain ⟨g, off, rfl, hcx⟩ := hS5.cellAt (nats_get hx)
      have hcy := hS5.cellOf (nats_get hy)
      rw [← hi]
      have HI := Lib.hid (And.intro hi hst)
      have HN : Hid ((nats (K.take j)).length = j) := Lib.hid (by rw [nats_len]; exact hlen)
      obtain ⟨i1, hi1e⟩ : ∃ i1, i1 = i + 1 := ⟨_, rfl⟩
      rw [← hi1e] at hcy hlt
      have ei : (i : Int) + 1 = (i1 : Int) := by omega
      have hdl : decide ((i1 : Int) < (m : Int)) = true := decide_eq_true (by omega)
      have hi10 : (0 : Int) ≤ (i1 : Int) := by omega
      have hi0 : (0 : Int) ≤ (i : Int) := by omega
      have hi1 : (i : Int) < (m : Int) := by omega
      have hi2 : (i1 : Int) < (m : Int) := by omega
      have hxd : wr.drew.cell? ⟨g, off + i, none⟩ = some (.int .i64 x) := hcx
      have hyd : wr.drew.cell? ⟨g, off + i1, none⟩ = some (.int .i64 y) := hcy
      have hA0 := fun (o : Obj) => alloc_cell hcx o
      have hA1 := fun (o : Obj) => alloc_cell hcy o
      have hsz := hkw.size
      have hkl : j ≤ 10000000000 := by omega
      have hgw : ∀ q, (Value.slice la j lc).ownBlock = some q → q ≠ g := fun q hq e => by
        have h1 := (hown.lt q hq).1
        have h2 : g < w5.heap.size := World.block_lt_of_cell? _ _ ((HS5.out w5 (Keeps.refl _ _)).cellOf (nats_get hx))
        omega
      have HCL : Hid (∀ W, Keeps (fun q => (Value.slice la j lc).ownBlock = some q) wr W → W.cell? ⟨g, off + i, none⟩ = some (.int .i64 x) ∧ W.cell? ⟨g, off + i1, none⟩ = some (.int .i64 y)) := Lib.hid (fun W hk => by
        have hblk := hk.block g (World.block_lt_of_cell? _ _ hcx) (fun e => hgw g e rfl)
        exact ⟨by rw [World.cell?_of_block (w := wr) hblk]; exact hcx, by rw [World.cell?_of_block (w := wr) hblk]; exact hcy⟩)
      have HH := Lib.hid (And.intro hown hkw)
      have hownd : OwnI w5.heap.size wr.drew (.slice la j lc) (nats (K.take j)) := hown
      have hxb : (x : Int) ≤ 1 := by omega
      have hyb : (y : Int) ≤ 1 := by omega
      have hib : i ≤ 100 := by omega
      have HLT : Hid (i + 1 < m) := Lib.hid (by omega)
      clear hi1e hi hst hlen hkj hx hy hx2 hy2 hkw hS5 hgw
      have hw1 : IntKind.i64.wrap (i1 : Int) = (i1 : Int) := by rw [IntKind.wrap_i64]; omega
      have hw2 : IntKind.i64.wrap (2 * (y : Int)) = 2 * (y : Int) := by rw [IntKind.wrap_i64]; omega
      have hw3 : IntKind.i64.wrap ((x : Int) + 2 * (y : Int)) = (x : Int) + 2 * (y : Int) := by rw [IntKind.wrap_i64]; omega
      go_wp2_with fail
      go_region_held3 (fun w' => w'.cell? ⟨g, off + i, none⟩ = some (.int .i64 x) ∧ w'.cell? ⟨g, off + i1, none⟩ = some (.int .i64 y)) (first | exact ⟨hxd, hyd⟩ | exact ⟨hA0 _, hA1 _⟩ | exact ⟨hp0, hp1⟩) ((refine step_append1d j (by rfl) (.tmp 51) (.tmp 63) (by rfl) w5.heap.size (.slice la j lc) (nats (K.take j)) ((x : Int) + 2 * (y : Int)) HN wr.heap.size rfl (by simp [Act.eval]) (by simp [Act.eval]) hown hkl hsz ?_; intro g2 cap2' w9 hown3 hk3 hat hg; obtain ⟨hp0, hp1⟩ := HCL.out w9 hk3))
      clear hw1 hw2 hw3 ei
      have hfin : AsksS w5 K (j + 1) (.slice (some ⟨g2, 0, none⟩) (j + 1) cap2') w9 := by
        refine ⟨?_, HH.out.2.trans hk3 (fun q hq e => by have := (HH.out.1.lt q e).1; omega)⟩
        rw [HI.out.2, nats_snoc]
        have hcast : (((x + 2 * y : Nat)) : Int) = (x : Int) + 2 * (y : Int) := by omega
        rw [hcast]
        exact hown3
      have HF := Lib.hid hfin
      clear hfin hown3 hk3 hat hp0 hp1 hownd hown hcx hcy hxd hyd hA0 hA1
      go_wp2
      go_roundg (m - 2 * (j + 1))
      case measure => rw [HG.out]; have := HI.out.1; omega
      case rel => exact ⟨j + 1, by have := HI.out.1; have := HLT.out; omega, rfl, by rw [HI.out.1]; go_num, HF.out⟩
    · obtain ⟨i, hi⟩ : ∃ i, i = 2 * j := ⟨_, rfl⟩
      rw [← hi]
      have hdl : decide ((i : Int) + 1 < (m : Int)) = false := decide_eq_false (by omega)
      have hjK : j = K.length := by have := HKL.out; omega
      have hA2 := hA
      unfold AsksS at hA2
      rw [hjK, List.take_of_length_le (Nat.le_refl _)] at hA2
      obtain ⟨hkv, hkk⟩ := hA2
      have hib : i ≤ 100 := by omega
      obtain ⟨ka, kc, rfl, _, _⟩ := hkv.form
      rw [nats_len] at hkv ⊢
      have hCk := ref12Check_any _ K wr hkv.sl HK4.out (by omega)
      have HKV := Lib.hid (And.intro hkv hkk)
      clear hA hj hlt hi hjK HG hkv hkk
      go_wp2_with fail
      refine hCk.mono ?_
      rintro e w6 ⟨c, rfl, hc, hk6⟩
      clear hCk
      have hcb : c ≤ 10 := by rcases hc with ⟨_, _, h⟩ | ⟨_, h⟩ | ⟨_, _, h⟩ <;> omega
      have hem : ((m : Nat) : Int).tmod 2 = ((m % 2 : Nat) : Int) := by rw [Int.tmod_eq_emod_of_nonneg (by omega)]; simp
      have hkf := (HLK.out.2.trans HKV.out.2 (fun _ _ h => h)).trans hk6 (fun _ _ h => h)
      have hfinB := hkf.below (fun _ _ h => h)
      have HKF := Lib.hid (And.intro hkf (And.intro hfinB hk6))
      clear hkf hfinB hk6
      by_cases hodd : m % 2 = 1
      · have hbe : ((m : Int) % 2 == 1) = true := by simp; omega
        obtain ⟨hlv, hec⟩ : lv = none ∧ ec = 3 := by
          rcases HLK.out.1 with ⟨h, _⟩ | ⟨h1, ⟨_, h2⟩ | ⟨h2, _⟩ | ⟨h2, _⟩⟩
          · omega
          · exact ⟨h1, h2⟩
          · omega
          · omega
        subst hlv
        subst hec
        clear hc hodd hem
        go_wp2
        go_ret
        exact ⟨rfl, HKF.out.2.1⟩
      · have hbe : ((m : Int) % 2 == 1) = false := by simp; omega
        by_cases hgood : MBal K ∧ CanonOk K
        · obtain rfl : c = 0 := by
            rcases hc with ⟨_, _, h⟩ | ⟨h, _⟩ | ⟨_, h, _⟩
            · exact h
            · exact absurd hgood.1 h
            · exact absurd hgood.2 h
          obtain ⟨bl, bm, bo, bi, bp, F, hlv, hLS, hFw, hblw, hec⟩ : ∃ bl bm bo bi bp F, lv = some ⟨bl, 0, none⟩ ∧ LookS w5 bl bm bo bi bp K 0 F 0 ∧ (∀ x, F x → w.heap.size ≤ x) ∧ w.heap.size ≤ bl ∧ ec = 0 := by
            rcases HLK.out.1 with ⟨_, _, _, h4, bl, bm, bo, bi, bp, F, h5, h6, h7, h8⟩ | ⟨_, ⟨h, _⟩ | ⟨_, h, _⟩ | ⟨_, _, h, _⟩⟩
            · exact ⟨bl, bm, bo, bi, bp, F, h5, h6, h7, h8, h4⟩
            · omega
            · exact absurd hgood.1 h
            · exact absurd hgood.2 h
          subst hlv
          subst hec
          have hW : Wd K := ⟨HK4.out, hgood.1⟩
          have hk56 := HKV.out.2.trans HKF.out.2.2 (fun _ _ h => h)
          have hLS6 := hLS.keeps hk56 (fun _ _ h => h)
          have hA0 : AskF w w5 w6 K (.slice ka K.length kc) bl bm bo bi bp F 0 w6 :=
            ⟨⟨HKF.out.1, hk56.size, HKV.out.1.keeps HKF.out.2.2 (fun _ _ h => h), fun x hx => ⟨hFw x hx, hLS.mix.old x hx⟩, hblw, hLS.lt, hLS.sep⟩, hLS6.q0.more (by omega)⟩
          have HW := Lib.hid hW
          clear hc hodd hem hgood hLS hLS6 hFw hblw hk56 hW HKF HKV HLK HM HKG HS5 h01
          generalize hkvv : (Value.slice ka K.length kc) = kv at *
          go_wp2_with fail
          go_loopg [14, 82] len2 (fun mu ct ix wr => ∃ j : Nat, j ≤ len2 ∧ j ≤ 20 ∧ mu = len2 - j ∧ ix = .int .i64 j ∧ ct = .int .i64 j ∧ AskF w w5 w6 K kv bl bm bo bi bp F j wr)
          case atStart => exact ⟨0, Nat.zero_le _, by omega, rfl, rfl, rfl, hA0⟩
          case round =>
            clear hA0
            obtain ⟨j, hj, hj20, hgk, rfl, rfl, hAF⟩ := hrel
            have HG := Lib.hid hgk
            clear hgk
            by_cases hltn : j < len2
            · by_cases hjl : j < 20
              · have hAF2 := hAF.2
                obtain ⟨zi, hzi⟩ : ∃ zi, zs[j]? = some zi := ⟨_, List.getElem?_eq_getElem (by rw [HZW.out.2]; exact hltn)⟩
                have hzb := i64_in (HZW.out.1 zi (List.mem_of_getElem? hzi))
                obtain ⟨ga, oa, rfl, hca⟩ := (HZ.out wr hAF.tail.2.1).cellAt hzi
                have hLS := hAF2.1
                have hq2 : 600 * j ≤ 5000000 := by omega
                have hd20 : decide ((20 : Int) ≤ (j : Int)) = false := decide_eq_false (by omega)
                have h4 : j % 4 = 0 ∨ j % 4 = 1 ∨ j % 4 = 2 ∨ j % 4 = 3 := by omega
                clear hzi
                rcases h4 with h4 | h4 | h4 | h4
                · have hq := askMate hLS (by omega) hq2 HW.out (by omega) zi hzb
                  go_wp2_with fail
                  refine hq.mono ?_
                  rintro e w7 ⟨⟨rv, rfl⟩, hQ⟩
                  have hA7 := hAF.step hKb hQ
                  have hAs := lookAsked_any hA7.2.1
                  have HA7 := Lib.hid hA7
                  clear hq hQ hA7 hAF hLS hAF2
                  go_wp2_with fail
                  refine hAs.mono ?_
                  rintro e w8 ⟨rfl, rfl⟩
                  clear hAs
                  have hbn : ((((j + 1 : Nat)) : Int) != (j : Int) + 1) = false := by simp
                  go_wp2
                  go_roundg (len2 - (j + 1))
                  case measure => rw [HG.out]; omega
                  case rel => exact ⟨j + 1, by omega, by omega, rfl, by go_num, by go_num, HA7.out⟩
                · have hq := askDegree hLS (by omega) hq2 HW.out (by omega) zi
                  go_wp2_with fail
                  refine hq.mono ?_
                  rintro e w7 ⟨⟨rv, rfl⟩, hQ⟩
                  have hA7 := hAF.step hKb hQ
                  have hAs := lookAsked_any hA7.2.1
                  have HA7 := Lib.hid hA7
                  clear hq hQ hA7 hAF hLS hAF2
                  go_wp2_with fail
                  refine hAs.mono ?_
                  rintro e w8 ⟨rfl, rfl⟩
                  clear hAs
                  have hbn : ((((j + 1 : Nat)) : Int) != (j : Int) + 1) = false := by simp
                  go_wp2
                  go_roundg (len2 - (j + 1))
                  case measure => rw [HG.out]; omega
                  case rel => exact ⟨j + 1, by omega, by omega, rfl, by go_num, by go_num, HA7.out⟩
                · have hq := askAdjacent hLS (by omega) hq2 HW.out (by omega) zi
                  go_wp2_with fail
                  refine hq.mono ?_
                  rintro e w7 ⟨⟨rv, rfl⟩, hQ⟩
                  have hA7 := hAF.step hKb hQ
                  have hAs := lookAsked_any hA7.2.1
                  have HA7 := Lib.hid hA7
                  clear hq hQ hA7 hAF hLS hAF2
                  go_wp2_with fail
                  refine hAs.mono ?_
                  rintro e w8 ⟨rfl, rfl⟩
                  clear hAs
                  have hbn : ((((j + 1 : Nat)) : Int) != (j : Int) + 1) = false := by simp
                  go_wp2
                  go_roundg (len2 - (j + 1))
                  case measure => rw [HG.out]; omega
                  case rel => exact ⟨j + 1, by omega, by omega, rfl, by go_num, by go_num, HA7.out⟩
                · have hq := askFace hLS (by omega) hq2 HW.out (by omega) zi hzb
                  go_wp2_with fail
                  refine hq.mono ?_
                  rintro e w7 ⟨⟨rv, rfl⟩, hQ⟩
                  have hA7 := hAF.step hKb hQ
                  have hAs := lookAsked_any hA7.2.1
                  have HA7 := Lib.hid hA7
                  clear hq hQ hA7 hAF hLS hAF2
                  go_wp2_with fail
                  refine hAs.mono ?_
                  rintro e w8 ⟨rfl, rfl⟩
                  clear hAs
                  have hbn : ((((j + 1 : Nat)) : Int) != (j : Int) + 1) = false := by simp
                  go_wp2
                  go_roundg (len2 - (j + 1))
                  case measure => rw [HG.out]; omega
                  case rel => exact ⟨j + 1, by omega, by omega, rfl, by go_num, by go_num, HA7.out⟩
              · have hd20 : decide ((20 : Int) ≤ (j : Int)) = true := decide_eq_true (by omega)
                obtain ⟨zi, hzi⟩ : ∃ zi, zs[j]? = some zi := ⟨_, List.getElem?_eq_getElem (by rw [HZW.out.2]; exact hltn)⟩
                obtain ⟨ga, oa, rfl, hca⟩ := (HZ.out wr hAF.tail.2.1).cellAt hzi
                clear hzi
                have hkb := AskF.tail hAF
                obtain ⟨hK, hkt, hsz⟩ := hkb
                have HKT := Lib.hid (And.intro hK (And.intro hkt hsz))
                clear hAF hK hkt hsz
                go_wp2_with fail
                refine (lookMateQ_nil 0 _).mono ?_
                rintro e w7 ⟨rfl, rfl⟩
                go_wp2_with fail
                refine (lookDegreeQ_nil 0 _).mono ?_
                rintro e w8 ⟨rfl, hk8⟩
                go_wp2_with fail
                refine (lookAdjacent_nil 0 0 _).mono ?_
                rintro e w9 ⟨rfl, hk9⟩
                go_wp2_with fail
                refine (lookFace_nil 0 _).mono ?_
                rintro e w10 ⟨rfl, rfl⟩
                go_wp2_with fail
                have hLn := lookOf_any (.pointer none) [] w9 (fun k hk => by cases hk) (by simp) (mixOf_nil w9)
                refine hLn.mono ?_
                rintro e w11 (⟨_, _, bl', bm', bo', bi', bp', F', rfl, hb', hm', hs', hF', hbl', hk11⟩ | ⟨c', hc', _⟩)
                rotate_left
                · rcases hc' with ⟨h, _⟩ | ⟨_, h, _⟩
                  · exact absurd WRight.nil.bal h
                  · exact absurd (fun _ _ _ h1 h2 h3 => WRight.nil.check h1 h2 h3) h
                have hV := lookVertices_any hm'.old hm'.after hb' hs' (by omega)
                have hE := fun w12 (h12 : MixQ w11 bm' bo' bi' bp' [] (0 + 2) F' w12) => lookEdges_any (LookS.mixq (LookS.mk (n := 0) hb' hm' hs') h12)
                have hk12 := ((hk8.trans hk9 (fun _ _ h => h)).trans hk11 (fun _ _ h => h))
                have HFin : Hid (∀ w12, MixQ w11 bm' bo' bi' bp' [] (0 + 2) F' w12 → Sl .i64 w12 kv (nats K) ∧ Keeps (fun _ => False) w w12) := Lib.hid (fun w12 h12 => by
                  have k1 := hk12.trans h12.2 (fun x hx h => by have := hF' x h; have := (hk8.trans hk9 (fun _ _ h => h)).size; omega)
                  exact ⟨(HKT.out.1.keeps k1 (fun _ _ h => h)).sl, HKT.out.2.1.trans k1 (fun _ _ h => h)⟩)
                have hT := fun w12 (h12 : Sl .i64 w12 kv (nats K)) => refText04_any kv K w12 h12 HK4.out (by omega)
                obtain ⟨ka, kc, rfl, _, _⟩ := HKT.out.1.form
                rw [nats_len] at *
                clear hLn hk11 hk12 hk8 hk9 hb' hm' hs' hF'
                go_wp2_with (first | (go_at_call 43; first | (with_reducible refine (lookEdges_nil _).mono ?_; rintro e w' ⟨rfl, rfl⟩) | (refine (hE _ h12).mono ?_; rintro e w' ⟨rfl, rfl⟩)) | (go_at_call 41; first | (with_reducible refine (lookVertices_nil _).mono ?_; rintro e w' ⟨rfl, rfl⟩) | (refine hV.mono ?_; rintro e w12 ⟨rfl, h12⟩; obtain ⟨hs12, hkf⟩ := HFin.out _ h12; have hT2 := hT _ hs12)) | (go_at_call 56; refine (lookSize_nil _).mono ?_; rintro e w' ⟨rfl, rfl⟩) | (go_at_call 55; refine (lookAsked_nil _).mono ?_; rintro e w' ⟨rfl, rfl⟩) | (go_at_call 57; refine hT2.mono ?_; rintro e w' ⟨rfl, rfl⟩))
                have HFB := Lib.hid (hkf.below (fun _ _ h => h))
                have hkl : (((kbytes K).length : Nat) : Int) = ((K.length : Nat) : Int) := by simp [kbytes]
                rw [hkl]
                have hbb : (((K.length : Nat) : Int) == ((K.length : Nat) : Int)) = true := by simp
                rw [hbb]
                go_ret
                exact ⟨rfl, HFB.out⟩
            · have hkb := AskF.tail hAF
              obtain ⟨hK, hkt, hsz⟩ := hkb
              have HKT := Lib.hid (And.intro hK (And.intro hkt hsz))
              clear hAF hK hkt hsz
              go_wp2_with fail
              refine (lookMateQ_nil 0 _).mono ?_
              rintro e w7 ⟨rfl, rfl⟩
              go_wp2_with fail
              refine (lookDegreeQ_nil 0 _).mono ?_
              rintro e w8 ⟨rfl, hk8⟩
              go_wp2_with fail
              refine (lookAdjacent_nil 0 0 _).mono ?_
              rintro e w9 ⟨rfl, hk9⟩
              go_wp2_with fail
              refine (lookFace_nil 0 _).mono ?_
              rintro e w10 ⟨rfl, rfl⟩
              go_wp2_with fail
              have hLn := lookOf_any (.pointer none) [] w9 (fun k hk => by cases hk) (by simp) (mixOf_nil w9)
              refine hLn.mono ?_
              rintro e w11 (⟨_, _, bl', bm', bo', bi', bp', F', rfl, hb', hm', hs', hF', hbl', hk11⟩ | ⟨c', hc', _⟩)
              rotate_left
              · rcases hc' with ⟨h, _⟩ | ⟨_, h, _⟩
                · exact absurd WRight.nil.bal h
                · exact absurd (fun _ _ _ h1 h2 h3 => WRight.nil.check h1 h2 h3) h
              have hV := lookVertices_any hm'.old hm'.after hb' hs' (by omega)
              have hE := fun w12 (h12 : MixQ w11 bm' bo' bi' bp' [] (0 + 2) F' w12) => lookEdges_any (LookS.mixq (LookS.mk (n := 0) hb' hm' hs') h12)
              have hk12 := ((hk8.trans hk9 (fun _ _ h => h)).trans hk11 (fun _ _ h => h))
              have HFin : Hid (∀ w12, MixQ w11 bm' bo' bi' bp' [] (0 + 2) F' w12 → Sl .i64 w12 kv (nats K) ∧ Keeps (fun _ => False) w w12) := Lib.hid (fun w12 h12 => by
                have k1 := hk12.trans h12.2 (fun x hx h => by have := hF' x h; have := (hk8.trans hk9 (fun _ _ h => h)).size; omega)
                exact ⟨(HKT.out.1.keeps k1 (fun _ _ h => h)).sl, HKT.out.2.1.trans k1 (fun _ _ h => h)⟩)
              have hT := fun w12 (h12 : Sl .i64 w12 kv (nats K)) => refText04_any kv K w12 h12 HK4.out (by omega)
              obtain ⟨ka, kc, rfl, _, _⟩ := HKT.out.1.form
              rw [nats_len] at *
              clear hLn hk11 hk12 hk8 hk9 hb' hm' hs' hF'
              go_wp2_with (first | (go_at_call 43; first | (with_reducible refine (lookEdges_nil _).mono ?_; rintro e w' ⟨rfl, rfl⟩) | (refine (hE _ h12).mono ?_; rintro e w' ⟨rfl, rfl⟩)) | (go_at_call 41; first | (with_reducible refine (lookVertices_nil _).mono ?_; rintro e w' ⟨rfl, rfl⟩) | (refine hV.mono ?_; rintro e w12 ⟨rfl, h12⟩; obtain ⟨hs12, hkf⟩ := HFin.out _ h12; have hT2 := hT _ hs12)) | (go_at_call 56; refine (lookSize_nil _).mono ?_; rintro e w' ⟨rfl, rfl⟩) | (go_at_call 55; refine (lookAsked_nil _).mono ?_; rintro e w' ⟨rfl, rfl⟩) | (go_at_call 57; refine hT2.mono ?_; rintro e w' ⟨rfl, rfl⟩))
              have HFB := Lib.hid (hkf.below (fun _ _ h => h))
              have hkl : (((kbytes K).length : Nat) : Int) = ((K.length : Nat) : Int) := by simp [kbytes]
              rw [hkl]
              have hbb : (((K.length : Nat) : Int) == ((K.length : Nat) : Int)) = true := by simp
              rw [hbb]
              go_ret
              exact ⟨rfl, HFB.out⟩
        · have hc0 : c ≠ 0 := by
            rintro rfl
            rcases hc with ⟨h1, h2, _⟩ | ⟨_, h⟩ | ⟨_, _, h⟩
            · exact hgood ⟨h1, h2⟩
            · omega
            · omega
          obtain ⟨hlv, hec⟩ : lv = none ∧ ec = c := by
            rcases HLK.out.1 with ⟨_, h1, h2, _⟩ | ⟨h1, ⟨h2, _⟩ | ⟨_, h2, h3⟩ | ⟨_, h2, h3, h4⟩⟩
            · exact absurd ⟨h1, h2⟩ hgood
            · omega
            · refine ⟨h1, ?_⟩
              rcases hc with ⟨h5, _⟩ | ⟨_, h5⟩ | ⟨h5, _⟩
              · exact absurd h5 h2
              · omega
              · exact absurd h5 h2
            · refine ⟨h1, ?_⟩
              rcases hc with ⟨_, h5, _⟩ | ⟨h5, _⟩ | ⟨_, _, h5⟩
              · exact absurd h5 h3
              · exact absurd h2 h5
              · omega
          subst hlv
          subst hec
          have hbc : (((ec : Nat) : Int) != 0) = true := by rw [bne_iff_ne]; omega
          clear hc hodd hem hgood
          go_wp2
          go_ret
          exact ⟨rfl, HKF.out.2.1⟩

end Go.Proofs.YtipelclohcdkcaaGreat
