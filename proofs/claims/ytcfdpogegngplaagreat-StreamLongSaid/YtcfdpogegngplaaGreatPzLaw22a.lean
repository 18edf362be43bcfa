/- Layer 22's statements: StreamLong. -/
import Derived.Test.YtcfdpogegngplaaGreatPzDecZ
import Derived.Test.YtcfdpogegngplaaGreatPzDone
import Derived.Test.YtcfdpogegngplaaGreatPzStream2
import Derived.Test.YtcfdpogegngplaaGreatPzVecB
import Derived.Test.YtcfdpogegngplaaGreatPzPack
namespace Go.Proofs.YtcfdpogegngplaaGreat
open Go.RowKit

theorem OwnY.lit2 (w : World) (y z : Nat) : OwnY w.heap.size (w.alloc (.cells #[.int .u8 (y : Int), .int .u8 (z : Int)] 5)) (.slice (some ⟨w.heap.size, 0, none⟩) 2 2) [y, z] :=
  World.ownsRow_lit (base := w.heap.size) (e := 5) (size := 1) w #[.int .u8 y, .int .u8 z] 2 (Nat.le_refl _) (by unfold maxLen; omega) rfl

theorem OwnY.ge {B : Nat} {w : World} {v : Value} {bs : List Nat} (h : OwnY B w v bs) {q : Nat} (hq : v.ownBlock = some q) : B ≤ q := by
  obtain ⟨hl, h2⟩ := h
  rcases h2 with ⟨h0, -⟩ | ⟨g, cap, cur, rfl, hb, -⟩
  · rw [h0] at hq; simp [Value.ownBlock] at hq
  · simp [Value.ownBlock] at hq; omega

theorem OwnY.ltq {B : Nat} {w : World} {v : Value} {bs : List Nat} (h : OwnY B w v bs) {q : Nat} (hq : v.ownBlock = some q) : q < w.heap.size := by
  obtain ⟨hl, h2⟩ := h
  rcases h2 with ⟨h0, -⟩ | ⟨g, cap, cur, rfl, hb, hg, -⟩
  · rw [h0] at hq; simp [Value.ownBlock] at hq
  · simp [Value.ownBlock] at hq; subst hq; exact lt_of_block hg

/-- Feed, on a stream that the call made. -/
theorem feedIn {w0 w : World} {b : Nat} {lim : Int} {pv sv : Value} {cs ds : List Nat} {n : Nat} (hw : Keeps (fun _ => False) w0 w) (hS : StrAt w w0.heap.size b lim pv cs n false) (hp : Sl .u8 w sv (nats ds)) (hcl : cs.length ≤ 2097153) (hdl : ds.length ≤ 100000000) (hn : n ≤ 1000000000) (hsb : sv.ownBlock ≠ some b) :
    Calls Tryz.prog 43 #[.pointer (some ⟨b, 0, none⟩), sv] w fun e w' => e = .returned (.int .i64 0) ∧ ∃ pv', StrAt w' w0.heap.size b lim pv' (cs ++ ds.take (2097153 - cs.length)) (n + ds.length) false ∧ Keeps (fun _ => False) w0 w' ∧ Keeps (fun k => k = b ∨ pv.ownBlock = some k) w w' ∧ (pv'.ownBlock = pv.ownBlock ∨ ∃ k, pv'.ownBlock = some k ∧ w.heap.size ≤ k) := by
  refine (strFeed_any b w0.heap.size lim pv sv cs ds n w hS hp hcl hdl hn hsb hw.size).mono ?_
  rintro e w' ⟨rfl, pv', h1, h2, h3⟩
  refine ⟨rfl, pv', h1, hw.trans h2 (fun k hk h => ?_), h2, h3⟩
  rcases h with rfl | h
  · have := hS.le; omega
  · have := hS.own.ge h; omega

theorem awake_any (w : World) :
    Calls Tryz.prog 40 #[] w fun e w' => e = .returned (.bool true) ∧ Keeps (fun _ => False) w w' := by
  have hN1 := strNew_any 5 w
  go_enter Tryz.func40, Tryz.ntmps40
  go_wp2_with fail
  refine hN1.mono ?_
  clear hN1
  rintro e w1 ⟨rfl, hS1, k1⟩
  have hN2 := strNew_any 5 w1
  have hsz1 := lt_of_block hS1.blk
  go_wp2_with fail
  refine hN2.mono ?_
  clear hN2
  rintro e w2 ⟨rfl, hT2, k2⟩
  have hS2 := hS1.keeps k2 (fun h => h) (fun _ _ h => h)
  have hsz2 := hT2.lt
  have k02 := k1.trans k2 (fun _ _ h => h)
  clear hS1 k1
  -- P
  have l3 : OwnY w2.heap.size (w2.alloc (.cells #[.int .u8 80] 5)) (.slice (some ⟨w2.heap.size, 0, none⟩) 1 1) [80] := OwnY.lit1 w2 80
  have k3 := (Keeps.refl (fun _ => False) w2).alloc (.cells #[.int .u8 80] 5)
  have hF3 := feedIn (k02.trans k3 (fun _ _ h => h)) (hS2.keeps k3 (fun h => h) (fun _ _ h => h)) l3.sl (by simp) (by simp) (by omega) (by simp [Value.ownBlock]; omega)
  have hT3 := hT2.keeps k3 (fun h => h) (fun _ _ h => h)
  have hs3 := k3.size
  clear hS2 hT2 l3 k3 k2 k02
  go_wp2_with fail
  refine hF3.mono ?_
  clear hF3
  rintro e w4 ⟨rfl, pv4, hS4, k04, k34, ho4⟩
  have hT4 := hT3.keeps k34 (fun h => by simp [Value.ownBlock] at h; omega) (fun q hq => by simp [Value.ownBlock] at hq)
  have hb4 : pv4.ownBlock ≠ some w1.heap.size := fun e => by
    rcases ho4 with h | ⟨k, h, hk⟩
    · rw [h] at e; simp [Value.ownBlock] at e
    · rw [h] at e; have := Option.some.inj e; omega
  have hsz4 := k34.size
  clear hT3 ho4 k34
  -- Q
  have l5 : OwnY w4.heap.size (w4.alloc (.cells #[.int .u8 81] 5)) (.slice (some ⟨w4.heap.size, 0, none⟩) 1 1) [81] := OwnY.lit1 w4 81
  have k5 := (Keeps.refl (fun _ => False) w4).alloc (.cells #[.int .u8 81] 5)
  have hF5 := feedIn (k04.trans k5 (fun _ _ h => h)) (hS4.keeps k5 (fun h => h) (fun _ _ h => h)) l5.sl (by simp) (by simp) (by simp) (by simp [Value.ownBlock]; omega)
  have hT5 := hT4.keeps k5 (fun h => h) (fun _ _ h => h)
  have hs5 := k5.size
  clear hS4 hT4 l5 k5 k04
  go_wp2_with fail
  refine hF5.mono ?_
  clear hF5
  rintro e w6 ⟨rfl, pv6, hS6, k06, k56, ho6⟩
  have hT6 := hT5.keeps k56 (fun h => by rcases h with h | h; omega; exact hb4 h) (fun q hq => by simp [Value.ownBlock] at hq)
  have hb6 : pv6.ownBlock ≠ some w1.heap.size := fun e => by
    rcases ho6 with h | ⟨k, h, hk⟩
    · exact hb4 (by rw [← h]; exact e)
    · rw [h] at e; have := Option.some.inj e; omega
  have hsz6 := k56.size
  clear hT5 ho6 k56 hb4
  -- PP
  have l7 : OwnY w6.heap.size (w6.alloc (.cells #[.int .u8 80, .int .u8 80] 5)) (.slice (some ⟨w6.heap.size, 0, none⟩) 2 2) [80, 80] := OwnY.lit2 w6 80 80
  have k7 := (Keeps.refl (fun _ => False) w6).alloc (.cells #[.int .u8 80, .int .u8 80] 5)
  have hF7 := strFeed_any w1.heap.size w1.heap.size 5 (.slice none 0 0) _ [] [80, 80] 0 _ (hT6.keeps k7 (fun h => h) (fun _ _ h => h)) l7.sl (by simp) (by simp) (by omega) (by simp [Value.ownBlock]; omega) (by have := k7.size; omega)
  have hS7 := hS6.keeps k7 (fun h => h) (fun _ _ h => h)
  have k07 := k06.trans k7 (fun _ _ h => h)
  clear hS6 hT6 l7 k7 k06
  go_wp2_with fail
  refine hF7.mono ?_
  clear hF7
  rintro e w8 ⟨rfl, pv8, hT8, k78, ho8⟩
  have hS8 := hS7.keeps k78 (fun h => by simp [Value.ownBlock] at h; omega) (fun q hq h => by simp [Value.ownBlock] at h; exact hb6 (by rw [hq, h]))
  have k08 := k07.trans k78 (fun q hq h => by simp [Value.ownBlock] at h; omega)
  clear hS7 k07 k78 ho8 hb6
  have hS8 : StrAt w8 w.heap.size w.heap.size 5 pv6 [80, 81] 2 false := hS8
  have hT8 : StrAt w8 w1.heap.size w1.heap.size 5 pv8 [80, 80] 2 false := hT8
  have hA := strSure_any w.heap.size w.heap.size 5 pv6 [80, 81] 2 false w8 hS8 (by decide) (by decide)
  rw [show sureC [80, 81] false = 0 by decide +kernel] at hA
  have HT := Lib.hid (And.intro hS8 (And.intro hT8 k08))
  clear hS8 hT8 k08
  go_wp2_with fail
  refine hA.mono ?_
  clear hA
  rintro e w9 ⟨rfl, k9⟩
  have hB := strSure_any w1.heap.size w1.heap.size 5 pv8 [80, 80] 2 false w9 (HT.out.2.1.keeps k9 (fun h => h) (fun _ _ h => h)) (by decide) (by decide)
  rw [show sureC [80, 80] false = 3 by decide +kernel] at hB
  have HK9 := Lib.hid k9
  clear k9
  go_wp2_with fail
  refine hB.mono ?_
  clear hB
  rintro e w10 ⟨rfl, k10⟩
  have hC := strLen_any w.heap.size w.heap.size 5 pv6 [80, 81] 2 false w10 ((HT.out.1.keeps HK9.out (fun h => h) (fun _ _ h => h)).keeps k10 (fun h => h) (fun _ _ h => h))
  have HK := Lib.hid ((HT.out.2.2.trans HK9.out (fun _ _ h => h)).trans k10 (fun _ _ h => h))
  clear k10
  go_wp2_with fail
  refine hC.mono ?_
  clear hC
  rintro e w11 ⟨rfl, rfl⟩
  go_wp2_with fail
  go_ret
  exact ⟨rfl, HK.out⟩

/-! What comes, piece by piece. -/

/-- The piece number j, of L bytes. -/
def chunkZ (L j : Nat) : List Nat := if j = 0 then zcs L else if L = 1 ∧ j = 1 then [81] else List.replicate L 0

theorem chunkZ_length (L j : Nat) : (chunkZ L j).length = L := by
  unfold chunkZ
  split
  · exact zcs_length L
  · split
    · rename_i h; simp [h.1]
    · simp

theorem zcs_app (n m : Nat) : zcs (n + 2) ++ List.replicate m 0 = zcs (n + m + 2) := by
  rw [zcs_big, zcs_big, List.cons_append, List.cons_append, List.replicate_append_replicate]

theorem chunk_app {L j : Nat} (hL : 1 ≤ L) (hL' : L ≤ 1048576) {nn : Nat} (hn : nn = j * L) : zcs (min nn 2097153) ++ (chunkZ L j).take (2097153 - min nn 2097153) = zcs (min (nn + L) 2097153) := by
  unfold chunkZ
  by_cases h0 : j = 0
  · subst h0
    obtain rfl : nn = 0 := by simpa using hn
    rw [if_pos rfl, List.take_of_length_le (by rw [zcs_length]; omega), Nat.zero_add, Nat.zero_min, Nat.min_eq_left (by omega)]
    rfl
  rw [if_neg h0]
  by_cases h1 : L = 1 ∧ j = 1
  · obtain ⟨rfl, rfl⟩ := h1
    subst hn
    rw [if_pos ⟨rfl, rfl⟩]
    decide +kernel
  rw [if_neg h1, List.take_replicate]
  have h2 : 2 ≤ nn := by
    rw [hn]
    by_cases hL1 : L = 1
    · subst hL1; have : j ≠ 1 := fun h => h1 ⟨rfl, h⟩; omega
    · have : 1 * 2 ≤ j * L := Nat.mul_le_mul (by omega) (by omega)
      omega
  obtain ⟨p, hp⟩ : ∃ p, min nn 2097153 = p + 2 := ⟨min nn 2097153 - 2, by omega⟩
  rw [hp, zcs_app]
  congr 1
  omega

theorem fillZ (k : Nat) : fillH (zcs k) = [80, 81, 0] := by
  unfold fillH
  rw [zcs_length]
  by_cases h : k < 3
  · obtain rfl | rfl | rfl : k = 0 ∨ k = 1 ∨ k = 2 := by omega
    · rfl
    · rfl
    · rfl
  · obtain ⟨p, rfl⟩ : ∃ p, k = p + 1 + 2 := ⟨k - 3, by omega⟩
    rw [zcs_big, List.replicate_succ, Nat.min_eq_right (by omega)]
    simp
theorem sureZ (k : Nat) : sureC (zcs k) false = if 2097152 < k then 6 else 0 := by
  unfold sureC
  rw [if_neg (by decide), zcs_length, fillZ]
  rw [show headC [80, 81, 0] = 0 by decide +kernel]

theorem zcs_set1 {L : Nat} (h : L ≤ 1) (h1 : 1 ≤ L) : (List.replicate L 0).set 0 80 = zcs L := by
  obtain rfl : L = 1 := by omega
  rfl
theorem zcs_set2 {L : Nat} (h : 1 < L) : ((List.replicate L 0).set 0 80).set 1 81 = zcs L := by
  obtain ⟨p, rfl⟩ : ∃ p, L = p + 2 := ⟨L - 2, by omega⟩
  rw [zcs_big, List.replicate_succ, List.replicate_succ]
  rfl

/-- The loop's state: the piece b, the stream. -/
def LongS (w1 : World) (g bS L nn : Nat) (wr : World) : Prop :=
  OwnY w1.heap.size wr (.slice (some ⟨g, 0, none⟩) L L) (zcs L) ∧ Keeps (fun _ => False) w1 wr ∧ ∃ pv, StrAt wr w1.heap.size bS 1 pv (zcs (min nn 2097153)) nn false ∧ pv.ownBlock ≠ some g

theorem LongS.keep {w1 W W' : World} {g bS L nn : Nat} (h : LongS w1 g bS L nn W) (k : Keeps (fun _ => False) W W') : LongS w1 g bS L nn W' := by
  obtain ⟨h1, h2, pv, h3, h4⟩ := h
  exact ⟨h1.keeps k (fun _ _ h => h), h2.trans k (fun _ _ h => h), pv, h3.keeps k (fun h => h) (fun _ _ h => h), h4⟩

/-- Behind a Feed. -/
theorem LongS.feed {w1 W : World} {g gc bS L nn j : Nat} (h : LongS w1 g bS L nn W) (ho : OwnY w1.heap.size W (.slice (some ⟨gc, 0, none⟩) L L) (chunkZ L j)) (hgc : gc ≠ bS) (hgb : g ≠ bS) (hgl : g < W.heap.size) (hL : 1 ≤ L) (hL' : L ≤ 1048576) (hn : nn = j * L) (hj : j < 6) :
    Calls Tryz.prog 43 #[.pointer (some ⟨bS, 0, none⟩), .slice (some ⟨gc, 0, none⟩) L L] W fun e w' => e = .returned (.int .i64 0) ∧ LongS w1 g bS L (nn + L) w' := by
  obtain ⟨h1, h2, pv, h3, h4⟩ := h
  have hnn : nn ≤ 5 * 1048576 := by rw [hn]; exact Nat.mul_le_mul (by omega) hL'
  refine (feedIn h2 h3 ho.sl (by rw [zcs_length]; omega) (by rw [chunkZ_length]; omega) (by omega) (by simp [Value.ownBlock]; exact hgc)).mono ?_
  rintro e w' ⟨rfl, pv', g1, g2, g3, g4⟩
  rw [zcs_length, chunk_app hL hL' hn, chunkZ_length] at g1
  refine ⟨rfl, h1.keeps g3 (fun q hq h => ?_), g2, pv', g1, fun e => ?_⟩
  · simp [Value.ownBlock] at hq
    subst hq
    rcases h with h | h
    · exact hgb h
    · exact h4 h
  · rcases g4 with h | ⟨k, h, hk⟩
    · exact h4 (by rw [← h]; exact e)
    · rw [h] at e; have := Option.some.inj e; omega

theorem LongS.sure {w1 W : World} {g bS L nn : Nat} (h : LongS w1 g bS L nn W) :
    Calls Tryz.prog 44 #[.pointer (some ⟨bS, 0, none⟩)] W fun e w' => e = .returned (.int .i64 ((if 2097152 < nn then 6 else 0 : Nat) : Int)) ∧ LongS w1 g bS L nn w' := by
  have h' := h
  obtain ⟨h1, h2, pv, h3, h4⟩ := h
  refine (strSure_any bS w1.heap.size 1 pv _ nn false W h3 (zcs_lt _) (by rw [zcs_length]; omega)).mono ?_
  rintro e w' ⟨rfl, hk⟩
  refine ⟨?_, h'.keep hk⟩
  rw [sureZ]
  by_cases h5 : 2097152 < nn
  · rw [if_pos h5, if_pos (by omega)]
  · rw [if_neg h5, if_neg (by omega)]

theorem LongS.len {w1 W : World} {g bS L nn : Nat} (h : LongS w1 g bS L nn W) :
    Calls Tryz.prog 45 #[.pointer (some ⟨bS, 0, none⟩)] W fun e w' => e = .returned (.int .i64 (nn : Nat)) ∧ W = w' := by
  obtain ⟨h1, h2, pv, h3, h4⟩ := h
  exact strLen_any bS w1.heap.size 1 pv _ nn false W h3

/-- Done. -/
theorem LongS.done {w1 W : World} {g bS L nn : Nat} (h : LongS w1 g bS L nn W) :
    Calls Tryz.prog 46 #[.pointer (some ⟨bS, 0, none⟩)] W fun e w' => ∃ P x y z c, e = .returned (.tuple #[P, .agg #[.bool x, .bool y, .bool z], .int .i64 c]) ∧ (c ≠ 0 ∧ (c = 6 ↔ 2097152 < nn)) ∧ Keeps (fun _ => False) w1 w' := by
  obtain ⟨h1, h2, pv, h3, h4⟩ := h
  refine (strDone_any bS w1.heap.size 1 pv _ nn W h3 (fun _ _ _ _ c _ => c ≠ 0 ∧ (c = 6 ↔ 2097152 < nn)) (fun V hV => ?_)).mono ?_
  · refine (decZ pv (min nn 2097153) 1 V ((h3.own.keeps hV (fun q hq e => h3.ne (by rw [hq, e]))).sl) (by omega) (by omega)).mono ?_
    rintro e w' ⟨P, x, y, z, c, rfl, hk, hc0, hc6⟩
    refine ⟨P, x, y, z, c, rfl, hk, hc0, hc6.trans ⟨fun h => by omega, fun h => by omega⟩⟩
  · rintro e w' ⟨P, x, y, z, c, rfl, ⟨_, hc, -⟩, hk, -⟩
    exact ⟨P, x, y, z, c, rfl, hc, h2.trans hk (fun q hq e => by have := h3.le; omega)⟩

set_option maxRecDepth 100000 in
set_option maxHeartbeats 4000000 in
theorem walkStreamLong (a0 a1 : Int) (w : World) (w0 : (Lit.int .u8 a0).wf = true) (w1 : (Lit.int .u32 a1).wf = true) :
    Calls Tryz.prog 11 #[.int .u8 a0, .int .u32 a1] w fun e w' => e = .returned (.bool true) ∧ Below w.heap.size w w' := by
  have hnot : ∀ (x : Bool) (w : World), (Op.unary .not (.bool x)).run Tryz.prog w = .ok (.bool (!x)) w := fun _ _ => rfl
  obtain ⟨f, rfl, hf⟩ := u8_in w0
  obtain ⟨nl, rfl, hnl⟩ : ∃ nl : Nat, a1 = (nl : Int) ∧ nl < 4294967296 := by
    have h1 : (Lit.int .u32 a1).wf = (decide (IntKind.u32.min ≤ a1) && decide (a1 ≤ IntKind.u32.max)) := rfl
    rw [h1, show IntKind.u32.min = 0 by decide, show IntKind.u32.max = 4294967295 by decide] at w1
    simp at w1
    exact ⟨a1.toNat, by omega, by omega⟩
  obtain ⟨R, hR⟩ : ∃ R, R = f % 6 := ⟨_, rfl⟩
  have m1 : (f : Int) % 6 = (R : Int) := by rw [hR]; simp
  have m2 : (f : Int).tmod 6 = (R : Int) := by rw [hR, Int.tmod_eq_emod_of_nonneg (by omega)]; simp
  have hR6 : R < 6 := by omega
  obtain ⟨l0, hl0⟩ : ∃ l0, l0 = nl % 1048576 := ⟨_, rfl⟩
  have m3 : (nl : Int) % 1048576 = (l0 : Int) := by rw [hl0]; simp
  have m4 : (nl : Int).tmod 1048576 = (l0 : Int) := by rw [hl0, Int.tmod_eq_emod_of_nonneg (by omega)]; simp
  obtain ⟨L, hL⟩ : ∃ L, L = 1 + l0 := ⟨_, rfl⟩
  have m5 : 1 + (l0 : Int) = (L : Int) := by omega
  have hL1 : 1 ≤ L := by omega
  have hL2 : L ≤ 1048576 := by omega
  have m6 : IntKind.i64.wrap (nl : Int) = (nl : Int) := IntWalk.i64_in _ (by omega)
  have m7 : IntKind.i64.wrap (R : Int) = (R : Int) := IntWalk.i64_in _ (by omega)
  have m8 : IntKind.i64.wrap (L : Int) = (L : Int) := IntWalk.i64_in _ (by omega)
  have m9 : IntKind.i64.wrap (l0 : Int) = (l0 : Int) := IntWalk.i64_in _ (by omega)
  obtain ⟨i, hi, hz0, hz1, hz2⟩ := info_parts infoY
  have hmk := fun w => run_make (P := Tryz.prog) w 30 5 i _ Tryz.underlying30 hi hz0 .i64 .i64 (L : Int) (L : Int) (by omega) (Int.le_refl _) (by rw [hz2]; omega) (by omega)
  simp only [hz1, Int.toNat_natCast, Nat.mul_one] at hmk
  have hmk0 := hmk
  clear w0 w1 hR hl0 hL hi hz0 hz1 hz2
  go_enter Tryz.func11, Tryz.ntmps11
  go_wp2_with fail
  refine (awake_any w).mono ?_
  rintro e w1 ⟨rfl, k1⟩
  have hN := strNew_any 1 w1
  have K1 := Lib.hid k1
  clear k1
  go_wp2_with fail
  refine hN.mono ?_
  clear hN
  rintro e w2 ⟨rfl, hS2, k2⟩
  have hsz2 := hS2.lt
  -- the piece
  have oM := OwnY.made w1.heap.size w2 L (by omega) (by omega)
  have kM := (Keeps.refl (fun _ => False) w2).alloc (.cells (madeCells #[.int .u8 0] L) 5)
  go_upto_region 5 with fail
  clear hmk
  have hmk0 := Lib.hid hmk0
  obtain ⟨g, hg⟩ : ∃ g, g = w2.heap.size := ⟨_, rfl⟩
  rw [← hg] at oM
  rw [← hg]
  generalize World.alloc _ _ = wM at *
  have hgb : w1.heap.size < g := by omega
  have hS3 := hS2.keeps kM (fun h => h) (fun _ _ h => h)
  have kg := k2.trans kM (fun _ _ h => h)
  have c0 := oM.cell (i := 0) (z := 0) (by rw [List.getElem?_replicate, if_pos (by omega)])
  have o80 : OwnY w1.heap.size (wM.setCell ⟨g, 0, none⟩ (.int .u8 80)) (.slice (some ⟨g, 0, none⟩) L L) ((List.replicate L 0).set 0 80) := oM.set 0 80
  have kN := kg.setCell (p := ⟨g, 0, none⟩) (Or.inr (Nat.le_of_lt hgb)) (.int .u8 80)
  have sN := hS3.keeps ((Keeps.refl (fun k => k = g) wM).setCell (p := ⟨g, 0, none⟩) (Or.inl rfl) (.int .u8 80)) (fun h => by omega) (fun q hq => by simp [Value.ownBlock] at hq)
  clear hS2 k2 hsz2 oM kM hg hS3 kg
  go_upto_region 6 with fail
  generalize wM.setCell _ _ = wN at *
  clear c0
  go_upto_if 29 with fail
  go_cut [] from 30 to 31 (fun wx => LongS w1 g w1.heap.size L 0 wx)
  case first =>
    by_cases h1 : L = 1
    · have t1 : decide ((1 : Int) < (L : Int)) = false := decide_eq_false (by omega)
      have HF : Hid (LongS w1 g w1.heap.size L 0 wN) := Lib.hid ⟨by rw [← zcs_set1 (by omega) hL1]; exact o80, kN, _, sN, by simp [Value.ownBlock]⟩
      clear o80 kN sN
      go_wp2_with fail
      go_meet
      case rel => exact HF.out
    · have t1 : decide ((1 : Int) < (L : Int)) = true := decide_eq_true (by omega)
      have c1 := o80.cell (i := 1) (z := 0) (by rw [List.getElem?_set_ne (by decide), List.getElem?_replicate, if_pos (by omega)])
      have o81 : OwnY w1.heap.size (wN.setCell ⟨g, 1, none⟩ (.int .u8 81)) (.slice (some ⟨g, 0, none⟩) L L) (((List.replicate L 0).set 0 80).set 1 81) := o80.set 1 81
      rw [zcs_set2 (by omega)] at o81
      have kO := kN.setCell (p := ⟨g, 1, none⟩) (Or.inr (Nat.le_of_lt hgb)) (.int .u8 81)
      have sO := sN.keeps ((Keeps.refl (fun k => k = g) wN).setCell (p := ⟨g, 1, none⟩) (Or.inl rfl) (.int .u8 81)) (fun h => by omega) (fun q hq => by simp [Value.ownBlock] at hq)
      have HF : Hid (LongS w1 g w1.heap.size L 0 (wN.setCell ⟨g, 1, none⟩ (.int .u8 81))) := Lib.hid ⟨o81, kO, _, sO, by simp [Value.ownBlock]⟩
      clear o80 kN sN o81 kO sO
      go_wp2_with fail
      go_meet
      case rel => exact HF.out
  case rest =>
    have HC := Lib.hid hcut
    clear hcut o80 kN sN
    go_wp2_with fail
    go_loopg [7, 8, 9, 36] R (fun m cv nv kv iv wr => ∃ j nn : Nat, j ≤ R ∧ m = R - j ∧ nn = j * L ∧ nv = .int .i64 nn ∧ iv = .int .i64 j ∧ LongS w1 g w1.heap.size L nn wr ∧ (j = 0 → cv = .slice (some ⟨g, 0, none⟩) L L))
    case atStart => exact ⟨0, 0, by omega, by omega, by omega, rfl, rfl, HC.out, fun _ => rfl⟩
    case round =>
      obtain ⟨j, nn, hj, hgk, hnn, rfl, rfl, hLS, hcv⟩ := hrel
      clear HC
      have HG := Lib.hid (And.intro hgk (And.intro hnn (And.intro hLS hcv)))
      clear hgk hnn hLS hcv
      by_cases hlt : j < R
      · have t2 : decide ((j : Int) < (R : Int)) = true := decide_eq_true (by omega)
        have hLen := Lib.hid (HG.out.2.2.1.1.form)
        have hmk := hmk0.out wr
        go_upto_if 40 with fail
        go_cut [7] from 41 to 43 (fun cv wx => ∃ gc, cv = .slice (some ⟨gc, 0, none⟩) L L ∧ gc ≠ w1.heap.size ∧ w1.heap.size < wx.heap.size ∧ g < wx.heap.size ∧ LongS w1 g w1.heap.size L nn wx ∧ OwnY w1.heap.size wx (.slice (some ⟨gc, 0, none⟩) L L) (if j = 0 then zcs L else List.replicate L 0) ∧ (j ≠ 0 → LongS w1 g w1.heap.size L nn (wx.setCell ⟨gc, 0, none⟩ (.int .u8 81))))
        case first =>
          obtain ⟨b0, kb, pv, sS, hpv⟩ := HG.out.2.2.1
          have hpk := HG.out.2.2.1
          by_cases hj0 : j = 0
          · have t3 : decide (0 < j) = false := decide_eq_false (by omega)
            have t4 : decide ((0 : Int) < (j : Int)) = false := decide_eq_false (by omega)
            have HF := Lib.hid (And.intro hpk (And.intro (HG.out.2.2.2 hj0) (And.intro sS.lt (b0.ltq (q := g) rfl))))
            clear b0 kb sS hpv hpk
            go_wp2_with fail
            go_meet
            case rel =>
              refine ⟨g, HF.out.2.1, by omega, HF.out.2.2.1, HF.out.2.2.2, HF.out.1, ?_, fun h => absurd hj0 h⟩
              rw [if_pos hj0]
              exact HF.out.1.1
          · have t3 : decide (0 < j) = true := decide_eq_true (by omega)
            have t4 : decide ((0 : Int) < (j : Int)) = true := decide_eq_true (by omega)
            have oM := OwnY.made w1.heap.size wr L kb.size (by omega)
            have kM := (Keeps.refl (fun _ => False) wr).alloc (.cells (madeCells #[.int .u8 0] L) 5)
            have hlt1 := sS.lt
            have HF := Lib.hid (And.intro hpk (And.intro oM (And.intro kM (And.intro hlt1 (b0.ltq (q := g) rfl)))))
            clear b0 kb sS hpv hpk oM kM
            go_wp2_with fail
            go_meet
            case rel =>
              have hz := HF.out.2.2.1.size
              refine ⟨wr.heap.size, rfl, by omega, by omega, by have := HF.out.2.2.2.2; omega, HF.out.1.keep HF.out.2.2.1, ?_, fun _ => HF.out.1.keep (HF.out.2.2.1.setCell (p := ⟨wr.heap.size, 0, none⟩) (Or.inr (Nat.le_refl _)) _)⟩
              rw [if_neg hj0]
              exact HF.out.2.1
        case rest =>
          obtain ⟨gc, rfl, HCC⟩ := hcut
          have HCC := Lib.hid HCC
          clear hmk
          obtain ⟨bL, hbL⟩ : ∃ bL, bL = decide (L = 1) := ⟨_, rfl⟩
          obtain ⟨bj, hbj⟩ : ∃ bj, bj = decide (j = 1) := ⟨_, rfl⟩
          have tL : ((L : Int) == 1) = bL := by rw [hbL]; by_cases h : L = 1 <;> simp [h] <;> omega
          have tj : ((j : Int) == 1) = bj := by rw [hbj]; by_cases h : j = 1 <;> simp [h] <;> omega
          obtain ⟨z0, hz0⟩ : ∃ z0, (if j = 0 then zcs L else List.replicate L 0)[0]? = some z0 := ⟨_, List.getElem?_eq_getElem (by split; rw [zcs_length]; omega; rw [List.length_replicate]; omega)⟩
          have c5 := HCC.out.2.2.2.2.1.cell hz0
          have HF1 : Hid (bL = false ∨ bj = false → OwnY w1.heap.size wc (.slice (some ⟨gc, 0, none⟩) L L) (chunkZ L j)) := Lib.hid (fun h => by
            have h1 := HCC.out.2.2.2.2.1
            have h2 : chunkZ L j = if j = 0 then zcs L else List.replicate L 0 := by
              unfold chunkZ
              by_cases h3 : j = 0
              · rw [if_pos h3, if_pos h3]
              · rw [if_neg h3, if_neg h3, if_neg (by rintro ⟨h4, h5⟩; rw [hbL, hbj, h4, h5] at h; simp at h)]
            rw [h2]
            exact h1)
          have HF2 : Hid (bL = true → bj = true → OwnY w1.heap.size (wc.setCell ⟨gc, 0, none⟩ (.int .u8 81)) (.slice (some ⟨gc, 0, none⟩) L L) (chunkZ L j) ∧ LongS w1 g w1.heap.size L nn (wc.setCell ⟨gc, 0, none⟩ (.int .u8 81)) ∧ g < (wc.setCell ⟨gc, 0, none⟩ (.int .u8 81)).heap.size) := Lib.hid (fun h h' => by
            have h1 : L = 1 := by rw [hbL] at h; exact of_decide_eq_true h
            have h2 : j = 1 := by rw [hbj] at h'; exact of_decide_eq_true h'
            have h3 := HCC.out.2.2.2.2.1.set 0 81
            have h4 : (if j = 0 then zcs L else List.replicate L 0).set 0 81 = chunkZ L j := by rw [h1, h2]; rfl
            rw [h4] at h3
            refine ⟨h3, HCC.out.2.2.2.2.2 (by omega), ?_⟩
            have := ((Keeps.refl (fun k => k = gc) wc).setCell (p := ⟨gc, 0, none⟩) (Or.inl rfl) (.int .u8 81)).size
            have := HCC.out.2.2.1
            omega)
          obtain ⟨n2, hn2⟩ : ∃ n2, n2 = nn + L := ⟨_, rfl⟩
          have hnn5 : nn ≤ 5 * 1048576 := by rw [HG.out.2.1]; exact Nat.mul_le_mul (by omega) hL2
          have e2 : (nn : Int) + (L : Int) = (n2 : Int) := by omega
          have e3 : IntKind.i64.wrap (n2 : Int) = (n2 : Int) := IntWalk.i64_in _ (by omega)
          have HN := Lib.hid hn2
          clear hz0 hn2
          have HB := Lib.hid (And.intro hbL hbj)
          clear hbL hbj
          cases bL <;> cases bj
          all_goals
            go_wp2_with fail
            first
              | refine (LongS.feed HCC.out.2.2.2.1 (HF1.out (by simp)) HCC.out.1 (by omega) HCC.out.2.2.1 hL1 hL2 HG.out.2.1 (by omega)).mono ?_
              | refine (LongS.feed (HF2.out (by simp) (by simp)).2.1 (HF2.out (by simp) (by simp)).1 HCC.out.1 (by omega) (HF2.out (by simp) (by simp)).2.2 hL1 hL2 HG.out.2.1 (by omega)).mono ?_
            rintro e w5 ⟨rfl, hL5⟩
            rw [← HN.out] at hL5
            have hSu := hL5.sure
            go_wp2_with fail
            refine hSu.mono ?_
            clear hSu
            rintro e w6 ⟨rfl, hL6⟩
            have hLn := hL6.len
            have HL6 := Lib.hid hL6
            clear hL5 hL6
            have hEnd : Hid (∃ j' nn' : Nat, j' ≤ R ∧ R - (j + 1) = R - j' ∧ nn' = j' * L ∧ Value.int .i64 (n2 : Nat) = .int .i64 (nn' : Nat) ∧ Value.int .i64 ((j : Int) + 1) = .int .i64 (j' : Nat) ∧ LongS w1 g w1.heap.size L nn' w6 ∧ (j' = 0 → Value.slice (some ⟨gc, 0, none⟩) L L = .slice (some ⟨g, 0, none⟩) L L)) :=
              Lib.hid ⟨j + 1, n2, by omega, rfl, by rw [HN.out, HG.out.2.1, Nat.add_mul, Nat.one_mul], rfl, rfl, HL6.out, fun h => by omega⟩
            have hgk1 : R - (j + 1) < gk := by rw [HG.out.1]; omega
            by_cases hbig : 2097152 < n2
            · have x2 : decide ((2097152 : Int) < (n2 : Int)) = true := decide_eq_true (by omega)
              have x4 : decide (2097152 < n2) = true := decide_eq_true hbig
              rw [if_pos hbig]
              go_wp2_with fail
              refine hLn.mono ?_
              rintro e w7 ⟨rfl, rfl⟩
              go_wp2_with fail
              go_roundg (R - (j + 1))
              case measure => exact hgk1
              case rel => exact hEnd.out
            · have x2 : decide ((2097152 : Int) < (n2 : Int)) = false := decide_eq_false (by omega)
              have x4 : decide (2097152 < n2) = false := decide_eq_false hbig
              rw [if_neg hbig]
              go_wp2_with fail
              refine hLn.mono ?_
              rintro e w7 ⟨rfl, rfl⟩
              go_wp2_with fail
              go_roundg (R - (j + 1))
              case measure => exact hgk1
              case rel => exact hEnd.out
      · obtain rfl : j = R := by omega
        have t2 : decide ((j : Int) < (j : Int)) = false := decide_eq_false (by omega)
        have hDn := HG.out.2.2.1.done
        go_wp2_with fail
        refine hDn.mono ?_
        clear hDn
        rintro e w3 ⟨P, x, y, z, c, rfl, ⟨hc0, hc6⟩, hk3⟩
        have HK := Lib.hid (K1.out.trans hk3 (fun _ _ h => h))
        clear hk3
        have HB : Hid (∀ W, Keeps (fun _ => False) w3 W → Below w.heap.size w W) := Lib.hid (fun W hW => (HK.out.trans hW (fun _ _ h => h)).below (fun _ _ h => h))
        go_wp2_with fail
        refine (strDone_nil _).mono ?_
        rintro e w4 ⟨rfl, hk4⟩
        have hkA := (((Keeps.refl (fun _ => False) w3).alloc (.cells #[.bool x, .bool y, .bool z] 35)).trans hk4 (fun _ _ h => h)).alloc (.cells #[.bool false, .bool false, .bool false] 35)
        have HA := Lib.hid hkA
        clear hk4 hkA
        have hFd := fun W => strFeed_nil (.slice none 0 0) W
        have hSu := fun W => strSure_nil W
        have hLe := fun W => strLen_nil W
        have hOv := fun W => strOver_nil W
        have x0 : (c != 0) = true := by simp [hc0]
        have x3 : decide (c = 0) = false := decide_eq_false hc0
        have x5 : (c == 6) = decide (2097152 < nn) := by
          by_cases h : 2097152 < nn
          · rw [hc6.2 h, decide_eq_true h]; rfl
          · rw [decide_eq_false h]; simpa using fun h' => h (hc6.1 h')
        have x2 : decide ((2097152 : Int) < (nn : Int)) = decide (2097152 < nn) := by
          by_cases h : 2097152 < nn
          · rw [decide_eq_true h, decide_eq_true (by omega)]
          · rw [decide_eq_false h, decide_eq_false (by omega)]
        clear hc6
        have HC := Lib.hid hLe
        by_cases hbig : 2097152 < nn
        all_goals
          first
            | rw [decide_eq_true hbig] at x5 x2
            | rw [decide_eq_false hbig] at x5 x2
          first
            | have x4 := decide_eq_true hbig
            | have x4 := decide_eq_false hbig
          go_wp2_with fail
          refine (strFeed_nil _ _).mono ?_
          rintro e w5 ⟨rfl, rfl⟩
          go_wp2_with fail
          refine (strSure_nil _).mono ?_
          rintro e w5 ⟨rfl, rfl⟩
          go_wp2_with fail
          refine (strLen_nil _).mono ?_
          rintro e w5 ⟨rfl, rfl⟩
          go_wp2_with fail
          refine (strOver_nil _).mono ?_
          rintro e w5 ⟨rfl, rfl⟩
          go_wp2_with fail
          go_ret
          exact ⟨rfl, HB.out _ HA.out⟩

end Go.Proofs.YtcfdpogegngplaaGreat
