/- look: the state of a Look; place, number. -/
import Derived.Test.YtipelclohcdkcaaGreatLook3
namespace Go.Proofs.YtipelclohcdkcaaGreat
open Go.RowKit

/-- A Look of a word, asked n times. -/
structure LookS (w : World) (bl b bo : Nat) (bi bp : Nat → Nat) (ks : List Nat) (q : Nat) (F : Nat → Prop) (n : Nat) : Prop where
  own : LkB w bl b n
  mix : MixP w b bo bi bp ks q F
  sep : ¬ F bl

section
variable {w : World} {bl b bo : Nat} {bi bp : Nat → Nat} {ks : List Nat} {q : Nat} {F : Nat → Prop} {n : Nat}

theorem LookS.lt (h : LookS w bl b bo bi bp ks q F n) : bl < w.heap.size := lt_of_block h.own

theorem LookS.keeps (h : LookS w bl b bo bi bp ks q F n) {w' : World} {G : Nat → Prop} (k : Keeps G w w') (hd : ∀ x, (F x ∨ x = bl) → ¬ G x) : LookS w' bl b bo bi bp ks q F n :=
  ⟨h.own.keeps k (hd bl (.inr rfl)), h.mix.keeps k (fun x hx => hd x (.inl hx)), h.sep⟩

/-- Behind a question to the index. -/
theorem LookS.mixq (h : LookS w bl b bo bi bp ks q F n) {q' : Nat} {w' : World} (k : MixQ w b bo bi bp ks q' F w') : LookS w' bl b bo bi bp ks q' (grow F w w') n :=
  ⟨h.own.keeps k.2 h.sep, k.1, fun hg => by
    rcases hg with hg | hg
    · exact h.sep hg
    · have := h.lt; omega⟩

set_option maxRecDepth 100000 in
set_option maxHeartbeats 1000000 in
theorem lookPlace_any (h : LookS w bl b bo bi bp ks q F n) (hn : n ≤ 1000000) (i : Int) (hi : -9223372036854775808 ≤ i ∧ i ≤ 9223372036854775807) :
    Calls Tryz.prog 125 #[.pointer (some ⟨bl, 0, none⟩), .int .i64 i] w fun e w' => (∃ c : Nat, e = .returned (.int .i64 c) ∧ ((0 ≤ i ∧ i < ks.length ∧ c = 0) ∨ (¬ (0 ≤ i ∧ i < ks.length) ∧ c = 1))) ∧ LookS w' bl b bo bi bp ks q F (n + 1) ∧ Keeps (fun x => x = bl) w w' := by
  have hle := h.mix.le
  have hC := lookCount_any bl b n w h.own hn
  have HS : Hid (∀ w1, LkB w1 bl b (n + 1 : Nat) → Keeps (fun x => x = bl) w w1 → LookS w1 bl b bo bi bp ks q F (n + 1)) := Lib.hid (fun w1 h1 k1 => ⟨h1, h.mix.keeps k1 (fun x hx e => h.sep (e ▸ hx)), h.sep⟩)
  clear h
  go_enter Tryz.func125, Tryz.ntmps125
  go_wp2_with fail
  refine hC.mono ?_
  rintro e w1 ⟨rfl, h1, k1⟩
  have hS := HS.out w1 h1 k1
  have c0 := h1.c0
  have hL := mixLen_any hS.mix
  have HF := Lib.hid (And.intro hS k1)
  clear hC h1 hS k1
  generalize hNN : ks.length = N at *
  have HN := Lib.hid hNN
  clear hNN
  by_cases h0 : i < 0
  · have hd : decide (i < 0) = true := decide_eq_true h0
    clear hL
    go_wp2
    go_ret
    exact ⟨⟨1, rfl, .inr ⟨fun h => by omega, rfl⟩⟩, HF.out⟩
  · have hd : decide (i < 0) = false := decide_eq_false h0
    by_cases hN : (N : Int) ≤ i
    · have hd2 : decide ((N : Int) ≤ i) = true := decide_eq_true hN
      go_wp2_with (go_at_call 24; refine hL.mono ?_; rintro e w' ⟨rfl, rfl⟩)
      go_ret
      exact ⟨⟨1, rfl, .inr ⟨fun h => by have := HN.out; omega, rfl⟩⟩, HF.out⟩
    · have hd2 : decide ((N : Int) ≤ i) = false := decide_eq_false hN
      go_wp2_with (go_at_call 24; refine hL.mono ?_; rintro e w' ⟨rfl, rfl⟩)
      go_ret
      exact ⟨⟨0, rfl, .inl ⟨by omega, by have := HN.out; omega, rfl⟩⟩, HF.out⟩

/-- Behind questions. -/
def LookQ (wh : World) (bl b bo : Nat) (bi bp : Nat → Nat) (ks : List Nat) (q : Nat) (F : Nat → Prop) (n : Nat) (w' : World) : Prop :=
  LookS w' bl b bo bi bp ks q (grow F wh w') n ∧ Keeps (fun x => F x ∨ x = bl) wh w'

theorem LookQ.more {w1 : World} (h : LookQ w bl b bo bi bp ks q F n w1) {q' : Nat} (hq : q ≤ q') : LookQ w bl b bo bi bp ks q' F n w1 :=
  ⟨⟨h.1.own, h.1.mix.more hq, h.1.sep⟩, h.2⟩

theorem LookQ.trans {w1 w2 : World} {q' n' : Nat} (hF : ∀ x, F x → x < w.heap.size) (hbl : bl < w.heap.size) (hbF : ¬ F bl) (h : LookQ w bl b bo bi bp ks q F n w1) (k : LookQ w1 bl b bo bi bp ks q' (grow F w w1) n' w2) : LookQ w bl b bo bi bp ks q' F n' w2 := by
  obtain ⟨h1, h2⟩ := h
  obtain ⟨k1, k2⟩ := k
  refine ⟨⟨k1.own, k1.mix.mono (grow_trans h2.size k2.size) (grow_old hF (Nat.le_trans h2.size k2.size)), fun hg => ?_⟩, h2.trans k2 ?_⟩
  · rcases hg with hg | hg
    · exact hbF hg
    · omega
  · rintro x hx ((hx1 | hx1) | hx1)
    · exact .inl hx1
    · omega
    · exact .inr hx1

theorem LookS.q0 (h : LookS w bl b bo bi bp ks q F n) : LookQ w bl b bo bi bp ks q F n w :=
  ⟨⟨h.own, h.mix.after.1, fun hg => by
    rcases hg with hg | hg
    · exact h.sep hg
    · omega⟩, Keeps.refl _ _⟩

/-- A question to the index keeps a Look. -/
theorem LookS.ask (h : LookS w bl b bo bi bp ks q F n) {q' : Nat} {w' : World} (k : MixQ w b bo bi bp ks q' F w') : LookQ w bl b bo bi bp ks q' F n w' :=
  ⟨h.mixq k, k.2.mono (fun _ _ hx => .inl hx)⟩

set_option maxRecDepth 100000 in
set_option maxHeartbeats 2000000 in
theorem lookNumber_any (h : LookS w bl b bo bi bp ks q F n) (hn : n ≤ 1000000) (hq : q ≤ 10000000) (sv : Value) (zs : List Int) (hs : Sl .i64 w sv zs) (hsp : ∀ k, sv.ownBlock = some k → ¬ (F k ∨ k = bl)) (hl : zs.length ≤ 10) :
    Calls Tryz.prog 120 #[.pointer (some ⟨bl, 0, none⟩), sv] w fun e w' => (∃ c : Nat, e = .returned (.int .i64 c) ∧ (((∀ z ∈ zs, 0 ≤ z ∧ z < nvK ks) ∧ c = 0) ∨ (¬ (∀ z ∈ zs, 0 ≤ z ∧ z < nvK ks) ∧ c = 1))) ∧ LookQ w bl b bo bi bp ks (q + 2 * zs.length) F (n + 1) w' := by
  have hle := h.mix.le
  have hF0 := h.mix.old
  have hbl := h.lt
  have hbF := h.sep
  have hC := lookCount_any bl b n w h.own hn
  have HS : Hid (∀ w1, LkB w1 bl b (n + 1 : Nat) → Keeps (fun x => x = bl) w w1 → LookQ w bl b bo bi bp ks q F (n + 1) w1) := Lib.hid (fun w1 h1 k1 => by
    have hg := grow_old (w' := w1) hF0 k1.size
    refine ⟨⟨h1, (h.mix.keeps k1 (fun x hx e => h.sep (e ▸ hx))).mono (fun x hx => .inl hx) hg, fun hx => ?_⟩, k1.mono (fun _ _ hx => .inr hx)⟩
    rcases hx with hx | hx
    · exact hbF hx
    · omega)
  have HSl : Hid (∀ q' w1, LookQ w bl b bo bi bp ks q' F (n + 1) w1 → Sl .i64 w1 sv zs) := Lib.hid (fun q' w1 h1 => hs.keeps h1.2 hsp)
  obtain ⟨a, cap, rfl, -, -, -, -⟩ := hs
  clear h hsp
  generalize hN : zs.length = N at *
  go_enter Tryz.func120, Tryz.ntmps120
  go_wp2_with fail
  refine hC.mono ?_
  rintro e w1 ⟨rfl, h1, k1⟩
  have hQ1 := HS.out w1 h1 k1
  clear hC h1 k1
  go_wp2
  go_loopg [15] N (fun m t wr => ∃ j : Nat, j ≤ N ∧ m = N - j ∧ t = .int .i64 j ∧ (∀ i z, i < j → zs[i]? = some z → 0 ≤ z ∧ z < nvK ks) ∧ LookQ w bl b bo bi bp ks (q + 2 * j) F (n + 1) wr)
  case atStart => exact ⟨0, Nat.zero_le _, rfl, rfl, fun i z hi => by omega, hQ1⟩
  case round =>
    obtain ⟨j, hj, hgk, rfl, hall, hQ⟩ := hrel
    clear hQ1
    by_cases hlt : j < N
    · have hz := List.getElem?_eq_getElem (l := zs) (i := j) (by omega)
      obtain ⟨z, hze⟩ : ∃ z, z = zs[j]'(by omega) := ⟨_, rfl⟩
      rw [← hze] at hz
      clear hze
      obtain ⟨g, off, rfl, hc⟩ := (HSl.out _ _ hQ).cellAt hz
      have hV := lookVertices_any hQ.1.mix.old hQ.1.mix.after hQ.1.own hQ.1.sep (by omega)
      have HT : Hid (∀ w2, MixQ wr b bo bi bp ks (q + 2 * j + 2) (grow F w wr) w2 → LookQ w bl b bo bi bp ks (q + 2 * (j + 1)) F (n + 1) w2) := Lib.hid (fun w2 h2 => LookQ.trans hF0 hbl hbF hQ (hQ.1.ask h2))
      have HG := Lib.hid hgk
      have HA := Lib.hid hall
      have HZ := Lib.hid (And.intro hz hQ)
      have hnv : nvK ks ≤ 100000001 := by have := cntK_le ks 0; unfold nvK; omega
      generalize hNV : nvK ks = V at *
      have HV := Lib.hid hNV
      clear hNV hgk hall hQ hz
      by_cases h0 : z < 0
      · have hd : decide (z < 0) = true := decide_eq_true h0
        clear hV
        go_wp2
        go_ret
        exact ⟨⟨1, rfl, .inr ⟨fun h => by have := h z (List.mem_of_getElem? HZ.out.1); omega, rfl⟩⟩, HZ.out.2.more (by omega)⟩
      · have hd : decide (z < 0) = false := decide_eq_false h0
        by_cases hv : (V : Int) ≤ z
        · have hd2 : decide ((V : Int) ≤ z) = true := decide_eq_true hv
          go_wp2_with fail
          refine hV.mono ?_
          rintro e w2 ⟨rfl, h2⟩
          have HF := Lib.hid (HT.out w2 h2)
          clear hV h2
          go_wp2
          go_ret
          exact ⟨⟨1, rfl, .inr ⟨fun h => by have h9 := HV.out; have := h z (List.mem_of_getElem? HZ.out.1); omega, rfl⟩⟩, HF.out.more (by omega)⟩
        · have hd2 : decide ((V : Int) ≤ z) = false := decide_eq_false hv
          go_wp2_with fail
          refine hV.mono ?_
          rintro e w2 ⟨rfl, h2⟩
          have HF := Lib.hid (HT.out w2 h2)
          clear hV h2
          go_wp2
          go_roundg (N - (j + 1))
          case measure => rw [HG.out]; omega
          case rel =>
            refine ⟨j + 1, by omega, rfl, by go_num, fun i y hi hy => ?_, HF.out⟩
            rcases Nat.lt_or_ge i j with h1 | h1
            · exact HA.out i y h1 hy
            · obtain rfl : i = j := by omega
              rw [HZ.out.1] at hy
              obtain rfl := Option.some.inj hy
              omega
    · have HF := Lib.hid (And.intro hall hQ)
      clear hall hQ
      go_wp2
      go_ret
      refine ⟨⟨0, rfl, .inl ⟨fun z hz => ?_, rfl⟩⟩, HF.out.2.more (by omega)⟩
      obtain ⟨i, hi⟩ := List.getElem?_of_mem hz
      have := lt_of_get hi
      exact HF.out.1 i z (by omega) hi

end

end Go.Proofs.YtipelclohcdkcaaGreat
