/- Layer 2's statements: RankAll. -/
import Derived.Test.YtlciacpffoekjaaRef02
namespace Go.Proofs.Ytlciacpffoekjaa
open Go.RowKit

/-- An index behind questions, while one block more may turn. -/
def IdxOn (wh : World) (b : Nat) (l : List Bool) (done : Bool) (asked : Nat) (F : Nat → Prop) (A : Nat) (wr : World) : Prop :=
  IdxAt wr b l done asked (grow F wh wr) ∧ Keeps (fun x => F x ∨ x = A) wh wr

theorem IdxOn.start {w : World} {b : Nat} {l : List Bool} {done : Bool} {asked : Nat} {F : Nat → Prop} (h : IdxAt w b l done asked F) (A : Nat) : IdxOn w b l done asked F A w :=
  ⟨h.mono (fun _ hx => .inl hx) (grow_old h.old (Nat.le_refl _)), Keeps.refl _ _⟩

theorem IdxOn.trans {wh w1 w2 : World} {b : Nat} {l : List Bool} {done done' : Bool} {asked asked' : Nat} {F : Nat → Prop} {A : Nat} (hF : ∀ x, F x → x < wh.heap.size) (h : IdxOn wh b l done asked F A w1) (k : IdxAfter w1 b l done' asked' (grow F wh w1) w2) : IdxOn wh b l done' asked' F A w2 := by
  obtain ⟨h1, h2⟩ := h
  obtain ⟨k1, k2⟩ := k
  refine ⟨k1.mono (grow_trans h2.size k2.size) (grow_old hF (Nat.le_trans h2.size k2.size)), h2.trans k2 ?_⟩
  rintro x hx (h | h)
  · exact .inl h
  · omega

theorem IdxOn.set {wh wr : World} {b : Nat} {l : List Bool} {done : Bool} {asked : Nat} {F : Nat → Prop} {A : Nat} (h : IdxOn wh b l done asked F A wr) (hA : ¬ F A) (hAl : A < wh.heap.size) (i : Nat) (u : Value) : IdxOn wh b l done asked F A (wr.setCell ⟨A, i, none⟩ u) := by
  obtain ⟨h1, h2⟩ := h
  have k : Keeps (fun x => x = A) wr (wr.setCell ⟨A, i, none⟩ u) := (Keeps.refl (fun x => x = A) wr).setCell (p := ⟨A, i, none⟩) (.inl rfl) u
  refine ⟨(h1.keeps k ?_).mono (fun x hx => by rcases hx with hx | hx; exact .inl hx; exact .inr ⟨hx.1, by simpa using hx.2⟩) ?_, h2.trans k (fun x _ hx => .inr hx)⟩
  · rintro x (hx | hx) rfl
    · exact hA hx
    · omega
  · rintro x (hx | hx)
    · have := h1.old x (.inl hx); simpa using this
    · exact hx.2

theorem IdxOn.block {wh wr : World} {b : Nat} {l : List Bool} {F : Nat → Prop} {A : Nat} (hA : ¬ F A) (hAl : A < wh.heap.size) {w2 : World} {done' : Bool} {asked' : Nat} (k : IdxAfter wr b l done' asked' (grow F wh wr) w2) {o : Obj} (ho : wr.heap[A]? = some o) : w2.heap[A]? = some o :=
  k.2.at ho (by rintro (hx | hx); exact hA hx; omega)

/-- The sum of a list. -/
def sumZ : List Int → Int
  | [] => 0
  | z :: l => z + sumZ l

theorem sumZ_snoc (zs : List Int) (k : Nat) (z : Int) (h : zs[k]? = some z) : sumZ (zs.take (k + 1)) = sumZ (zs.take k) + z := by
  have ha : ∀ a b : List Int, sumZ (a ++ b) = sumZ a + sumZ b := by
    intro a b
    induction a with
    | nil => simp [sumZ]
    | cons x a ih => simp only [List.cons_append, sumZ, ih]; omega
  have hk : k < zs.length := by
    rcases Nat.lt_or_ge k zs.length with h' | h'
    · exact h'
    · rw [List.getElem?_eq_none h'] at h; cases h
  rw [List.getElem?_eq_getElem hk] at h
  simp only [Option.some.injEq] at h
  rw [List.take_succ_eq_append_getElem hk, h, ha]
  simp [sumZ]

theorem sumZ_cnt (zs : List Int) (h : ∀ z ∈ zs, z = 0 ∨ z = 1) : sumZ zs = cnt (bitsOf zs) := by
  induction zs with
  | nil => rfl
  | cons z l ih =>
    have h1 := ih (fun y hy => h y (by simp [hy]))
    have h2 := h z (by simp)
    simp only [sumZ, h1]
    rcases h2 with rfl | rfl <;> simp [bitsOf, cnt]

theorem sumZ_take (zs : List Int) (h : ∀ z ∈ zs, z = 0 ∨ z = 1) (k : Nat) : 0 ≤ sumZ (zs.take k) ∧ sumZ (zs.take k) ≤ zs.length := by
  have h1 := sumZ_cnt (zs.take k) (fun z hz => h z (List.mem_of_mem_take hz))
  have h2 := cnt_le (bitsOf (zs.take k))
  have h3 : (bitsOf (zs.take k)).length ≤ zs.length := by rw [bitsOf_length, List.length_take]; omega
  omega

set_option maxHeartbeats 1000000 in
theorem refOnes_any (sv : Value) (zs : List Int) (w : World) (hs : Sl .i64 w sv zs) (h01 : ∀ z ∈ zs, z = 0 ∨ z = 1) (hl : zs.length ≤ 1000000000) :
    Calls Try.prog 27 #[sv] w fun e w' => e = .returned (.int .i64 (cnt (bitsOf zs))) ∧ w = w' := by
  obtain ⟨a, cap, rfl, hnc, hcm, _, hc⟩ := hs
  have HS := Lib.hid (And.intro (sumZ_take zs h01) (sumZ_cnt zs h01))
  have H01 := Lib.hid h01
  clear h01
  go_enter Try.func27, Try.ntmps27
  go_wp2_with fail
  go_loop [3, 8] (fun c i => ∃ k : Nat, k ≤ zs.length ∧ i = .int .i64 k ∧ c = .int .i64 (sumZ (zs.take k))) (fun _ i => zs.length - (intOf i).toNat)
  case atStart => exact ⟨0, Nat.zero_le _, rfl, rfl⟩
  case round =>
    obtain ⟨k, hk, rfl, rfl⟩ := hrel
    have hb := HS.out.1 k
    by_cases hlt : k < zs.length
    · have hz := List.getElem?_eq_getElem (l := zs) (i := k) hlt
      have hcs := sumZ_snoc zs k _ hz
      have hz2 := H01.out _ (List.getElem_mem hlt)
      have hz3 : 0 ≤ zs[k] ∧ zs[k] ≤ 1 := by omega
      obtain ⟨g, off, rfl, hcell⟩ := hc k _ hz
      clear hz2 hz
      generalize zs[k] = z at *
      generalize sumZ (zs.take k) = p at *
      have HC := Lib.hid hcs
      clear hcs hc
      go_wp2
      go_round
      case rel => exact ⟨k + 1, by omega, by go_num, by rw [HC.out]⟩
      case measure => simp [intOf]; omega
    · obtain rfl : k = zs.length := by omega
      clear hc hb
      go_wp2
      go_ret
      exact ⟨ret_int HS.out.2, rfl⟩

/-- What stands ahead, one place on. -/
theorem arr_step {l : List Bool} {i zn : Nat} (hi : i < l.length) (hz : zn < 2) (h : ((l.getD i false).toNat : Int) = zn) :
    (#[Value.int .i64 (rk l 0 i), Value.int .i64 (rk l 1 i)] : Array Value).setIfInBounds zn (.int .i64 (rk l zn i + 1)) = #[.int .i64 (rk l 0 (i + 1)), .int .i64 (rk l 1 (i + 1))] := by
  have h0 := rk_succ l 0 i (.inl rfl) hi
  have h1 := rk_succ l 1 i (.inr rfl) hi
  rw [h] at h0 h1
  match zn, hz with
  | 0, _ => simp at h0 h1; rw [h0, h1]; rfl
  | 1, _ => simp at h0 h1; rw [h0, h1]; rfl

/-- What stands ahead of a place, of either bit. -/
theorem arr_cell {l : List Bool} {i A : Nat} {w : World} {t : TypeId} (h : w.heap[A]? = some (.cells #[.int .i64 (rk l 0 i), .int .i64 (rk l 1 i)] t (0, 0))) (j : Nat) (hj : j < 2) :
    w.cell? ⟨A, j, none⟩ = some (.int .i64 (rk l j i)) := by
  rw [World.cell_of_heap h]
  match j, hj with
  | 0, _ => rfl
  | 1, _ => rfl

set_option maxRecDepth 100000 in
set_option maxHeartbeats 4000000 in
theorem walkRankAll (a0 : Option Addr) (len0 cap0 : Nat) (z0 : List Int) (a1 : Int) (a2 : Int) (a3 : Int) (w : World) (w0 : RowIn .u8 w a0 len0 cap0 z0) (w1 : (Lit.int .u8 a1).wf = true) (w2 : (Lit.int .u16 a2).wf = true) (w3 : (Lit.int .u8 a3).wf = true) :
    Calls Try.prog 5 #[.slice a0 len0 cap0, .int .u8 a1, .int .u16 a2, .int .u8 a3] w fun e w' => e = .returned (.bool true) ∧ Below w.heap.size w w' := by
  have hnot : ∀ (x : Bool) (w : World), (Op.unary .not (.bool x)).run Try.prog w = .ok (.bool (!x)) w := fun _ _ => rfl
  obtain ⟨ps, hp, hps⟩ := w0.bytes
  obtain ⟨most, rfl, hm⟩ := u8_in w1
  obtain ⟨times, rfl, ht⟩ := u16_in w2
  obtain ⟨step, rfl, hst⟩ := u8_in w3
  clear w0 w1 w2 w3
  go_enter Try.func5, Try.ntmps5
  go_wp2_with (go_at_call 18; refine (awake02_any _).mono ?_; rintro e w1 ⟨rfl, hk1⟩)
  refine (made02_law _ ps most times w1 (hp.keeps hk1 (fun _ _ h => h)) hps hm ht).mono ?_
  rintro e w2 ⟨b, lv, F, zs, rfl, hzs, h01, hzl, hI, hF, hFw, hl, hlF, hk2⟩
  clear hzs hp hps
  have hlb := bitsOf_length zs
  have hFw2 : ∀ x, F x → w.heap.size ≤ x := fun x hx => Nat.le_trans hk1.size (hFw x hx)
  have hL := idxLen_any b _ _ _ _ w2 hI.1
  have hO := idxOnes_any b _ _ _ _ w2 hI.1
  have hRO := refOnes_any lv zs w2 hl.sl h01 (by omega)
  rw [hlb] at hL
  have hs12 := hk2.size
  have hwk := hk1.trans hk2 (fun _ _ h => h)
  have HW := Lib.hid (And.intro hwk (And.intro hFw2 (And.intro hlF hk1.size)))
  clear hwk hFw2 hlF hk1 hk2 hFw
  obtain ⟨la, lc, rfl, hlc, hlc2⟩ := hl.form
  have H01 := Lib.hid h01
  clear h01
  generalize cnt (bitsOf zs) = cc at *
  go_wp2_with (first | (go_at_call 25; refine hL.mono ?_; rintro e w' ⟨rfl, rfl⟩) | (go_at_call 26; refine hO.mono ?_; rintro e w' ⟨rfl, rfl⟩) | (go_at_call 27; refine hRO.mono ?_; rintro e w' ⟨rfl, rfl⟩) | (at_builtin; go_loud (refine append1 rfl _ _ rfl w1.heap.size (.slice la zs.length lc) zs (-1) (w2.heap.size + 1) (by simp) rfl rfl (hl.alloc _) (by omega) (by simp; omega) ?_); intro g cap w3 hl3 hk3 hat hg))
  obtain ⟨A, hAd⟩ : ∃ A, A = w2.heap.size := ⟨_, rfl⟩
  obtain ⟨F2, hF2d⟩ : ∃ F2, F2 = grow F w2 w2 := ⟨_, rfl⟩
  have hF2 : ∀ x, F2 x → x < w2.heap.size := fun x hx => by rw [hF2d] at hx; rcases hx with h | h; exact hF x h; omega
  have hF2w : ∀ x, F2 x → w.heap.size ≤ x := fun x hx => by rw [hF2d] at hx; rcases hx with h | h; exact HW.out.2.1 x h; omega
  have hlF2 : ∀ k, (Value.slice la zs.length lc).ownBlock = some k → ¬ F2 k := fun k hk hx => by rw [hF2d] at hx; rcases hx with h | h; exact HW.out.2.2.1 k hk h; omega
  have hlk : ∀ k, (Value.slice la zs.length lc).ownBlock = some k → w1.heap.size ≤ k ∧ k < w2.heap.size := hl.lt
  have hAF : ¬ F2 A := fun h => by have := hF2 A h; omega
  have hs3 := hk3.size
  simp only [World.size_alloc] at hs3 hat
  have hA3 : A < w3.heap.size := by omega
  have hF3 : ∀ x, F2 x → x < w3.heap.size := fun x hx => by have := hF2 x hx; omega
  have hI3 : IdxAt w3 b (bitsOf zs) false 0 F2 := by
    rw [hF2d]
    rw [hF2d] at hlF2
    exact (hI.1.keeps ((Keeps.refl (fun _ => False) w2).alloc _) (fun _ _ h => h)).keeps hk3 (fun x hx hk => hlF2 x hk hx)
  have hAb0 : w3.heap[A]? = some (.cells #[.int .i64 0, .int .i64 0] 39 (0, 0)) := by
    have := heap_alloc_new w2 (.cells #[.int .i64 0, .int .i64 0] 39)
    rw [hAd]
    exact hk3.at this (fun hk => by have := (hlk _ hk).2; omega)
  have hAb0 : w3.heap[A]? = some (.cells #[.int .i64 (rk (bitsOf zs) 0 0), .int .i64 (rk (bitsOf zs) 1 0)] 39 (0, 0)) := by rw [rk_zero, rk_zero]; exact hAb0
  have hgF : ¬ (F2 g ∨ g = A) := by
    rintro (h | h)
    · rcases hat with h2 | h2
      · exact hlF2 g h2 h
      · have := hF2 g h; omega
    · rcases hat with h2 | h2
      · have := (hlk g h2).2; omega
      · omega
  have hkw3 : Keeps (fun _ => False) w w3 := (HW.out.1.alloc _).trans hk3 (fun x hx hk => by have := (hlk x hk).1; have := HW.out.2.2.2; omega)
  have hfin : ∀ wr, Keeps (fun x => F2 x ∨ x = A) w3 wr → Below w.heap.size w wr := fun wr hk => (hkw3.trans hk (by
    rintro x hx (h | h)
    · have := hF2w x h; omega
    · have := HW.out.2.2.2; omega)).below (fun _ _ h => h)
  obtain ⟨ga, gc, hgv, _, _, _, hgc⟩ := hl3.sl
  have hcz : ∀ wr, Keeps (fun x => F2 x ∨ x = A) w3 wr → ∀ j z, (zs ++ [-1])[j]? = some z → wr.cell? ⟨g, j, none⟩ = some (.int .i64 z) := by
    intro wr hk j z hz
    obtain ⟨g', off', h1, h2⟩ := hgc j z hz
    simp only [Value.slice.injEq] at hgv
    rw [← hgv.1] at h1
    simp only [Option.some.injEq, Addr.mk.injEq] at h1
    obtain ⟨rfl, rfl, _⟩ := h1
    rw [Nat.zero_add] at h2
    rw [World.cell?_of_block (w := w3) (hk.block _ (World.block_lt_of_cell? w3 ⟨g, j, none⟩ h2) hgF)]
    exact h2
  have hcap : zs.length + 1 ≤ cap ∧ cap ≤ 9223372036854775807 := by
    obtain ⟨_, c', h1, h2, h3⟩ := hl3.form
    simp only [Value.slice.injEq] at h1
    rw [List.length_append, List.length_singleton] at h2
    omega
  have HC := Lib.hid (And.intro hcz (And.intro hfin (And.intro hAd hF2d)))
  have hOn0 := IdxOn.start hI3 A
  rw [← hAd]
  clear hcz hfin hAd hF2d hgc hgv hkw3 hgF hI3 hs3 hlk hlF2 hF2w hF2 hk3 hat hg hl3 hI hF HW hs12 hl hL hO hRO
  have hle10 : (bitsOf zs).length ≤ 10200 := by omega
  obtain ⟨hcap1, hcap2⟩ := hcap
  go_loopw [48] (fun iv wr => ∃ (i asked : Nat) (done : Bool), i ≤ zs.length ∧ iv = .int .i64 i ∧ asked ≤ 4 * i ∧ IdxOn w3 b (bitsOf zs) done asked F2 A wr ∧ wr.heap[A]? = some (.cells #[.int .i64 (rk (bitsOf zs) 0 i), .int .i64 (rk (bitsOf zs) 1 i)] 39 (0, 0))) (fun iv _ => zs.length + 1 - (intOf iv).toNat)
  case atStart => exact ⟨0, 0, false, by omega, rfl, by omega, hOn0, hAb0⟩
  case round =>
    obtain ⟨i, asked, done, hi, rfl, hask, hOn, hAb⟩ := hrel
    clear hOn0 hAb0
    by_cases hlt : i < zs.length
    · have hzi := List.getElem?_eq_getElem (l := zs) (i := i) hlt
      have h01 := H01.out _ (List.getElem_mem hlt)
      have hz := HC.out.1 wr hOn.2 i zs[i] (by rw [List.getElem?_append_left hlt]; exact hzi)
      obtain ⟨zn, hzn0⟩ : ∃ zn : Nat, zs[i] = zn := ⟨zs[i].toNat, by omega⟩
      rw [hzn0] at hzi hz h01
      have hbit : (zn : Int) = 0 ∨ (zn : Int) = 1 := h01
      have hzn : zn < 2 := by omega
      have tie : ((i : Int) == (zs.length : Int)) = false := by simp only [beq_eq_false_iff_ne]; omega
      clear hzn0 h01
      have tl : decide ((i : Int) < (zs.length : Int) + 1) = true := decide_eq_true (by omega)
      by_cases hmod : (i : Int) % (1 + (step : Int) % 30) = 0
      · have tm : ((i : Int) % (1 + (step : Int) % 30) == 0) = true := by simp only [beq_iff_eq]; exact hmod
        clear hmod
        go_wp2_with fail
        go_loopw [66] (fun jv ws => ∃ (j : Nat) (done' : Bool), j ≤ 2 ∧ jv = .int .i64 j ∧ IdxOn w3 b (bitsOf zs) done' (asked + j) F2 A ws ∧ ws.heap[A]? = some (.cells #[.int .i64 (rk (bitsOf zs) 0 i), .int .i64 (rk (bitsOf zs) 1 i)] 39 (0, 0))) (fun jv _ => 2 - (intOf jv).toNat)
        case atStart => exact ⟨0, done, by omega, rfl, hOn, hAb⟩
        case round =>
          obtain ⟨j, done', hj, rfl, hOn2, hAb2⟩ := hrel
          clear hOn hAb
          by_cases hj2 : j < 2
          · have hbit : (j : Int) = 0 ∨ (j : Int) = 1 := by omega
            have hR := Rank_in b _ done' _ _ j i _ hOn2.1 (by omega) hbit (by omega)
            clear hz
            go_wp2_with fail
            refine hR.mono ?_
            rintro e w5 ⟨rfl, hI5⟩
            have hAb5 := IdxOn.block hAF hA3 hI5 hAb2
            have hOn5 := hOn2.trans hF3 hI5
            have hc5 : w5.cell? ⟨A, j, none⟩ = some (.int .i64 (rk (bitsOf zs) j i)) := arr_cell hAb5 j hj2
            clear hR hI5 hOn2 hAb2
            have H5 := Lib.hid (And.intro hOn5 hAb5)
            clear hOn5 hAb5
            generalize rk (bitsOf zs) j i = r at *
            go_wp2
            go_roundw
            case rel => exact ⟨j + 1, true, by omega, by go_num, H5.out.1, H5.out.2⟩
            case measure => simp [intOf]; omega
          · obtain rfl : j = 2 := by omega
            have hge := bit_back H01.out hzi
            have hlL : i < (bitsOf zs).length := by omega
            have hsel : IsSel (bitsOf zs) zn (rk (bitsOf zs) zn i) i := ⟨hlL, hge, rfl⟩
            have hrb := rk_bounds (bitsOf zs) zn hbit i (by omega)
            have hrl : rk (bitsOf zs) zn i < rk (bitsOf zs) zn (bitsOf zs).length := by
              have h1 := rk_succ (bitsOf zs) zn i hbit hlL
              rw [if_pos hge] at h1
              have h2 := rk_le (bitsOf zs) zn hbit (a := i + 1) (c := (bitsOf zs).length) (by omega) (Nat.le_refl _)
              omega
            have hat : atZ (bitsOf zs) i = zn := by
              unfold atZ
              rw [if_pos (by omega), Int.toNat_natCast]
              exact hge
            have hst := arr_step hlL hzn hge
            have hA := idxAt_any b _ _ _ _ i _ hOn2.1
            rw [hat] at hA
            have hS := Select_in b _ _ _ _ zn (rk (bitsOf zs) zn i) _ hOn2.1 (by omega) hbit hrb.1 hrl
            have hc2 : wr.cell? ⟨A, zn, none⟩ = some (.int .i64 (rk (bitsOf zs) zn i)) := arr_cell hAb2 zn hzn
            have H2 := Lib.hid (And.intro hOn2 (And.intro hAb2 (And.intro hsel hst)))
            clear hOn2 hAb2 hsel hge hrl hat hst hzi hz
            generalize rk (bitsOf zs) zn i = r at *
            go_wp2_with fail
            refine hA.mono ?_
            rintro e w5 ⟨rfl, rfl⟩
            go_wp2_with fail
            refine hS.mono ?_
            rintro e w6 ⟨m, rfl, hm, hI6⟩
            obtain rfl := hm.unique hbit H2.out.2.2.1
            have hAb6 := IdxOn.block hAF hA3 hI6 H2.out.2.1
            have hOn6 := (H2.out.1.trans hF3 hI6).set hAF hA3 zn (.int .i64 (r + 1))
            have hAb7 := heap_setCell_same hAb6 zn (.int .i64 (r + 1))
            rw [H2.out.2.2.2] at hAb7
            have hc6 : w6.cell? ⟨A, zn, none⟩ = some (.int .i64 r) := (World.cell?_of_block (w := wr) (a := ⟨A, zn, none⟩) (by rw [hAb6, H2.out.2.1])).trans hc2
            have hf6 : w6.frozen? ⟨A, zn, none⟩ = false := World.free_of_heap hAb6 zn
            have H6 := Lib.hid (And.intro hOn6 hAb7)
            clear hA hS hm hI6 hAb6 hOn6 hAb7 H2 hc2
            go_wp2
            go_roundw
            case rel => exact ⟨m + 1, asked + 2 + 1, true, by omega, by go_num, by omega, H6.out.1, H6.out.2⟩
            case measure => simp [intOf]; omega
      · have tm : ((i : Int) % (1 + (step : Int) % 30) == 0) = false := by simp only [beq_eq_false_iff_ne]; exact hmod
        clear hmod
        have hge := bit_back H01.out hzi
        have hlL : i < (bitsOf zs).length := by omega
        have hsel : IsSel (bitsOf zs) zn (rk (bitsOf zs) zn i) i := ⟨hlL, hge, rfl⟩
        have hrb := rk_bounds (bitsOf zs) zn hbit i (by omega)
        have hrl : rk (bitsOf zs) zn i < rk (bitsOf zs) zn (bitsOf zs).length := by
          have h1 := rk_succ (bitsOf zs) zn i hbit hlL
          rw [if_pos hge] at h1
          have h2 := rk_le (bitsOf zs) zn hbit (a := i + 1) (c := (bitsOf zs).length) (by omega) (Nat.le_refl _)
          omega
        have hat : atZ (bitsOf zs) i = zn := by
          unfold atZ
          rw [if_pos (by omega), Int.toNat_natCast]
          exact hge
        have hst := arr_step hlL hzn hge
        have hA := idxAt_any b _ _ _ _ i _ hOn.1
        rw [hat] at hA
        have hc6 : wr.cell? ⟨A, zn, none⟩ = some (.int .i64 (rk (bitsOf zs) zn i)) := arr_cell hAb zn hzn
        have hf6 : wr.frozen? ⟨A, zn, none⟩ = false := World.free_of_heap hAb zn
        have hOn6 := hOn.set hAF hA3 zn (.int .i64 (rk (bitsOf zs) zn i + 1))
        have hAb7 := heap_setCell_same hAb zn (.int .i64 (rk (bitsOf zs) zn i + 1))
        rw [hst] at hAb7
        have H6 := Lib.hid (And.intro hOn6 hAb7)
        clear hOn hAb hsel hge hrl hat hst hzi hOn6 hAb7
        generalize rk (bitsOf zs) zn i = r at *
        go_wp2_with fail
        refine hA.mono ?_
        rintro e w5 ⟨rfl, rfl⟩
        clear hA
        go_wp2
        go_roundw
        case rel => exact ⟨i + 1, asked, done, by omega, by go_num, by omega, H6.out.1, H6.out.2⟩
        case measure => simp [intOf]; omega
    · obtain rfl : i = zs.length := by omega
      have hz := HC.out.1 wr hOn.2 zs.length (-1) (by simp)
      have tl : decide ((zs.length : Int) < (zs.length : Int) + 1) = true := decide_eq_true (by omega)
      by_cases hmod : (zs.length : Int) % (1 + (step : Int) % 30) = 0
      · have tm : ((zs.length : Int) % (1 + (step : Int) % 30) == 0) = true := by simp only [beq_iff_eq]; exact hmod
        clear hmod
        go_wp2_with fail
        go_loopw [66] (fun jv ws => ∃ (j : Nat) (done' : Bool), j ≤ 2 ∧ jv = .int .i64 j ∧ IdxOn w3 b (bitsOf zs) done' (asked + j) F2 A ws ∧ ws.heap[A]? = some (.cells #[.int .i64 (rk (bitsOf zs) 0 zs.length), .int .i64 (rk (bitsOf zs) 1 zs.length)] 39 (0, 0))) (fun jv _ => 2 - (intOf jv).toNat)
        case atStart => exact ⟨0, done, by omega, rfl, hOn, hAb⟩
        case round =>
          obtain ⟨j, done', hj, rfl, hOn2, hAb2⟩ := hrel
          clear hOn hAb
          by_cases hj2 : j < 2
          · have hbit : (j : Int) = 0 ∨ (j : Int) = 1 := by omega
            have hR := Rank_in b _ done' _ _ j zs.length _ hOn2.1 (by omega) hbit (by omega)
            clear hz
            go_wp2_with fail
            refine hR.mono ?_
            rintro e w5 ⟨rfl, hI5⟩
            have hAb5 := IdxOn.block hAF hA3 hI5 hAb2
            have hOn5 := hOn2.trans hF3 hI5
            have hc5 : w5.cell? ⟨A, j, none⟩ = some (.int .i64 (rk (bitsOf zs) j zs.length)) := arr_cell hAb5 j hj2
            clear hR hI5 hOn2 hAb2
            have H5 := Lib.hid (And.intro hOn5 hAb5)
            clear hOn5 hAb5
            generalize rk (bitsOf zs) j zs.length = r at *
            go_wp2
            go_roundw
            case rel => exact ⟨j + 1, true, by omega, by go_num, H5.out.1, H5.out.2⟩
            case measure => simp [intOf]; omega
          · have tj : decide ((j : Int) < 2) = false := decide_eq_false (by omega)
            have hje : j ≤ 2 := hj
            clear hz
            go_wp2_with fail
            go_loopw [122] (fun jv ws => ∃ (j asked' : Nat) (done'' : Bool), j ≤ 2 ∧ jv = .int .i64 j ∧ 1 ≤ asked' ∧ asked' ≤ 100000 + j ∧ IdxOn w3 b (bitsOf zs) done'' asked' F2 A ws ∧ ws.heap[A]? = some (.cells #[.int .i64 (rk (bitsOf zs) 0 zs.length), .int .i64 (rk (bitsOf zs) 1 zs.length)] 39 (0, 0))) (fun jv _ => 2 - (intOf jv).toNat)
            case atStart => exact ⟨0, asked + j, done', by omega, rfl, by omega, by omega, hOn2, hAb2⟩
            case round =>
              obtain ⟨j, asked', done'', hj, rfl, ha1, ha2, hOn3, hAb3⟩ := hrel
              clear hOn2 hAb2
              by_cases hj2 : j < 2
              · have hS := Select_out b _ done'' _ _ j (rk (bitsOf zs) j zs.length) _ hOn3.1 (by omega) (by rw [hlb]; omega)
                have hc3 : wr.cell? ⟨A, j, none⟩ = some (.int .i64 (rk (bitsOf zs) j zs.length)) := arr_cell hAb3 j hj2
                have H3 := Lib.hid (And.intro hOn3 hAb3)
                clear hOn3 hAb3
                generalize rk (bitsOf zs) j zs.length = r at *
                go_wp2_with fail
                refine hS.mono ?_
                rintro e w6 ⟨rfl, hI6⟩
                have hAb6 := IdxOn.block hAF hA3 hI6 H3.out.2
                have hOn6 := H3.out.1.trans hF3 hI6
                clear hS hI6
                go_wp2
                go_roundw
                case rel => exact ⟨j + 1, asked' + 1, done'', by omega, by go_num, by omega, by omega, hOn6, hAb6⟩
                case measure => simp [intOf]; omega
              · obtain rfl : j = 2 := by omega
                have hA := idxAsked_any b _ _ _ _ _ hOn3.1
                have H3 := Lib.hid hOn3
                clear hOn3 hAb3
                go_wp2_with (go_at_call 24; refine hA.mono ?_; rintro e w6 ⟨rfl, rfl⟩)
                go_ret
                exact ⟨by first | rfl | (show Ending.returned (.bool (decide (0 < asked'))) = _; rw [decide_eq_true (show 0 < asked' by omega)]), HC.out.2.1 _ H3.out.2⟩
      · have tm : ((zs.length : Int) % (1 + (step : Int) % 30) == 0) = false := by simp only [beq_eq_false_iff_ne]; exact hmod
        clear hmod
        go_wp2_with fail
        go_loopw [66] (fun jv ws => ∃ (j : Nat) (done' : Bool), j ≤ 2 ∧ jv = .int .i64 j ∧ IdxOn w3 b (bitsOf zs) done' (asked + j) F2 A ws ∧ ws.heap[A]? = some (.cells #[.int .i64 (rk (bitsOf zs) 0 zs.length), .int .i64 (rk (bitsOf zs) 1 zs.length)] 39 (0, 0))) (fun jv _ => 2 - (intOf jv).toNat)
        case atStart => exact ⟨0, done, by omega, rfl, hOn, hAb⟩
        case round =>
          obtain ⟨j, done', hj, rfl, hOn2, hAb2⟩ := hrel
          clear hOn hAb
          by_cases hj2 : j < 2
          · have hbit : (j : Int) = 0 ∨ (j : Int) = 1 := by omega
            have hR := Rank_in b _ done' _ _ j zs.length _ hOn2.1 (by omega) hbit (by omega)
            clear hz
            go_wp2_with fail
            refine hR.mono ?_
            rintro e w5 ⟨rfl, hI5⟩
            have hAb5 := IdxOn.block hAF hA3 hI5 hAb2
            have hOn5 := hOn2.trans hF3 hI5
            have hc5 : w5.cell? ⟨A, j, none⟩ = some (.int .i64 (rk (bitsOf zs) j zs.length)) := arr_cell hAb5 j hj2
            clear hR hI5 hOn2 hAb2
            have H5 := Lib.hid (And.intro hOn5 hAb5)
            clear hOn5 hAb5
            generalize rk (bitsOf zs) j zs.length = r at *
            go_wp2
            go_roundw
            case rel => exact ⟨j + 1, true, by omega, by go_num, H5.out.1, H5.out.2⟩
            case measure => simp [intOf]; omega
          · have tj : decide ((j : Int) < 2) = false := decide_eq_false (by omega)
            have hje : j ≤ 2 := hj
            clear hz
            go_wp2_with fail
            go_loopw [122] (fun jv ws => ∃ (j asked' : Nat) (done'' : Bool), j ≤ 2 ∧ jv = .int .i64 j ∧ 1 ≤ asked' ∧ asked' ≤ 100000 + j ∧ IdxOn w3 b (bitsOf zs) done'' asked' F2 A ws ∧ ws.heap[A]? = some (.cells #[.int .i64 (rk (bitsOf zs) 0 zs.length), .int .i64 (rk (bitsOf zs) 1 zs.length)] 39 (0, 0))) (fun jv _ => 2 - (intOf jv).toNat)
            case atStart => exact ⟨0, asked + j, done', by omega, rfl, by omega, by omega, hOn2, hAb2⟩
            case round =>
              obtain ⟨j, asked', done'', hj, rfl, ha1, ha2, hOn3, hAb3⟩ := hrel
              clear hOn2 hAb2
              by_cases hj2 : j < 2
              · have hS := Select_out b _ done'' _ _ j (rk (bitsOf zs) j zs.length) _ hOn3.1 (by omega) (by rw [hlb]; omega)
                have hc3 : wr.cell? ⟨A, j, none⟩ = some (.int .i64 (rk (bitsOf zs) j zs.length)) := arr_cell hAb3 j hj2
                have H3 := Lib.hid (And.intro hOn3 hAb3)
                clear hOn3 hAb3
                generalize rk (bitsOf zs) j zs.length = r at *
                go_wp2_with fail
                refine hS.mono ?_
                rintro e w6 ⟨rfl, hI6⟩
                have hAb6 := IdxOn.block hAF hA3 hI6 H3.out.2
                have hOn6 := H3.out.1.trans hF3 hI6
                clear hS hI6
                go_wp2
                go_roundw
                case rel => exact ⟨j + 1, asked' + 1, done'', by omega, by go_num, by omega, by omega, hOn6, hAb6⟩
                case measure => simp [intOf]; omega
              · obtain rfl : j = 2 := by omega
                have hA := idxAsked_any b _ _ _ _ _ hOn3.1
                have H3 := Lib.hid hOn3
                clear hOn3 hAb3
                go_wp2_with (go_at_call 24; refine hA.mono ?_; rintro e w6 ⟨rfl, rfl⟩)
                go_ret
                exact ⟨by first | rfl | (show Ending.returned (.bool (decide (0 < asked'))) = _; rw [decide_eq_true (show 0 < asked' by omega)]), HC.out.2.1 _ H3.out.2⟩

end Go.Proofs.Ytlciacpffoekjaa
