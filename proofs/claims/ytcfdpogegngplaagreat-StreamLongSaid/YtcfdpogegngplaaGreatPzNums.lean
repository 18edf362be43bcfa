/- Rows of bytes that are full or the call's own; crc.Put, crc.Get, pack.Num. -/
import Derived.Laws.BitsAllLaws
import Derived.Test.YtcfdpogegngplaaGreatPzCrc
import Derived.Test.YtcfdpogegngplaaGreatPzCoder
import Derived.Test.YtcfdpogegngplaaGreatPzVarP
namespace Go.Proofs.YtcfdpogegngplaaGreat
open Go.RowKit

/-- A slice of bytes that is full: whoever appends makes a new row. -/
def FullY (w : World) (v : Value) (bs : List Nat) : Prop := ∃ ao, v = .slice ao bs.length bs.length ∧ Sl .u8 w v (nats bs)
/-- A slice that whoever appends may have: full, or the call's own. -/
def RowY (B : Nat) (w : World) (v : Value) (bs : List Nat) : Prop := OwnY B w v bs ∨ FullY w v bs

theorem RowY.sl {B : Nat} {w : World} {v : Value} {bs : List Nat} (h : RowY B w v bs) : Sl .u8 w v (nats bs) := by
  rcases h with h | ⟨_, _, h⟩
  · exact h.sl
  · exact h
theorem Sl.formY {w : World} {v : Value} {bs : List Nat} (h : Sl .u8 w v (nats bs)) : ∃ a cap, v = .slice a bs.length cap ∧ bs.length ≤ cap ∧ cap ≤ 9223372036854775807 := by
  obtain ⟨a, cap, hv, h1, h2, _, _⟩ := h
  rw [show (nats bs).length = bs.length by simp [nats]] at hv h1
  exact ⟨a, cap, hv, h1, h2⟩
theorem RowY.form {B : Nat} {w : World} {v : Value} {bs : List Nat} (h : RowY B w v bs) : ∃ a cap, v = .slice a bs.length cap ∧ bs.length ≤ cap ∧ cap ≤ 9223372036854775807 := by
  obtain ⟨a, cap, hv, h1, h2, _, _⟩ := h.sl
  rw [show (nats bs).length = bs.length by simp [nats]] at hv h1
  exact ⟨a, cap, hv, h1, h2⟩
theorem OwnY.row {B : Nat} {w : World} {v : Value} {bs : List Nat} (h : OwnY B w v bs) (h0 : 0 < bs.length) : ∃ g cap, v = .slice (some ⟨g, 0, none⟩) bs.length cap ∧ B ≤ g ∧ g < w.heap.size ∧ bs.length ≤ cap ∧ cap ≤ 9223372036854775807 := by
  obtain ⟨g, cap, hv, h1, h2, _, ho, hg⟩ := owns_form h h0
  exact ⟨g, cap, hv, (OwnY.lt h g ho).1, hg, h1, by unfold maxLen at h2; omega⟩

theorem Sl.full {w : World} {a : Option Addr} {n cap : Nat} {bs : List Nat} (h : Sl .u8 w (.slice a n cap) (nats bs)) : FullY w (.slice a n n) bs := by
  obtain ⟨a', cap', hv, h1, h2, h3, h4⟩ := h
  simp only [Value.slice.injEq] at hv
  obtain ⟨rfl, rfl, rfl⟩ := hv
  have e : (nats bs).length = bs.length := by simp [nats]
  refine ⟨a, by rw [e], a, (nats bs).length, rfl, Nat.le_refl _, by omega, fun hn => ?_, h4⟩
  have := h3 hn
  omega

/-- 'append(l, b)', l full or of the call's own. -/
theorem appendRY1 {ops : Array Oper} {rest : List Oper} {o : Oper} {a : Act} {Q : Exit → Act → World → Prop} {wr : World} (n : Nat) (hgd : o.guard = none) (s x : Operand)
    (ho : o.op = .call { callee := .builtin .append, args := #[s, x], argTypes := #[30, 30] }) (B : Nat) (v : Value) (bs : List Nat) (z : Nat) (hn : Hid (bs.length = n)) (H : Nat) (hH : wr.heap.size = H) (hs : a.eval s = v) (hx : a.eval x = .slice (some ⟨H, 0, none⟩) 1 1)
    (hown : RowY B wr v bs) (hlen : n ≤ 1000000000) (hB : B ≤ wr.heap.size)
    (h : ∀ g cap w', OwnY B w' (.slice (some ⟨g, 0, none⟩) (n + 1) cap) (bs ++ [z]) → Keeps (fun k => B ≤ k) wr w' →
      wpList Tryz.prog ops Q rest (a.put o.dst (.slice (some ⟨g, 0, none⟩) (n + 1) cap)) w') :
    wpList Tryz.prog ops Q (o :: rest) a (wr.alloc (.cells #[.int .u8 (z : Int)] 5)) := by
  rcases hown with hO | ⟨ao, hv, hsl⟩
  · exact append1y n hgd s x ho B v bs z hn H hH hs hx hO (by omega) hB (fun g cap w' h1 h2 _ _ => h g cap w' h1 (h2.mono (fun q _ e => (hO.lt q e).1)))
  · have ka := (Keeps.refl (fun _ => False) wr).alloc (.cells #[.int .u8 (z : Int)] 5)
    subst hH
    rw [hv] at hs hsl
    refine growY hgd s x ho ao bs.length 1 1 ⟨wr.heap.size, 0, none⟩ bs [z] hs hx (hsl.keeps ka (fun _ _ h => h)) (Sl.one wr .u8 (z : Int) 5) (by decide) (by rw [hn.out]; omega) (fun v' w' h1 h2 => ?_)
    obtain ⟨g, cap, rfl, hg, _, _, _⟩ := h1.row (by simp)
    have e : (bs ++ [z]).length = n + 1 := by rw [List.length_append, hn.out]; rfl
    rw [e] at h1 ⊢
    refine h g cap w' (h1.mono (fun k hk => ?_)) ((ka.mono (fun _ _ h => h.elim)).trans h2 (fun _ _ h => h.elim))
    have := (h1.lt k hk).1
    simp at this
    omega

set_option maxRecDepth 100000 in
set_option maxHeartbeats 2000000 in
theorem packNum_any (pv : Value) (bs : List Nat) (x : Nat) (w : World) (hp : Sl .u8 w pv (nats bs)) (hl : bs.length ≤ 100000000) (hx : x < 18446744073709551616) :
    Calls Tryz.prog 97 #[pv, .int .u64 x] w fun e w' => ∃ v, e = .returned v ∧ OwnY w.heap.size w' v (bs ++ vaB x) ∧ Keeps (fun _ => False) w w' := by
  obtain ⟨pa, pc, rfl, hpc, hpm⟩ := hp.formY
  have hF := hp.full
  generalize hn : bs.length = n at *
  have HN := Lib.hid hn
  have HF := Lib.hid hF
  clear hn hp hF
  go_enter Tryz.func97, Tryz.ntmps97
  go_wp2_with fail
  go_loopg [0, 1] x (fun m pv yv wr => ∃ (pre : List Nat) (y : Nat), m = y ∧ yv = .int .u64 y ∧ bs ++ vaB x = pre ++ vaB y ∧ y < 18446744073709551616 ∧ RowY w.heap.size wr pv pre ∧ Keeps (fun _ => False) w wr)
  case atStart => exact ⟨bs, x, rfl, rfl, rfl, hx, .inr HF.out, Keeps.refl _ _⟩
  case round =>
    obtain ⟨pre, y, hgk, rfl, he, hy, hR, hk⟩ := hrel
    have hpl : pre.length ≤ n + 10 := by
      have h1 := congrArg List.length he
      rw [List.length_append, List.length_append, HN.out] at h1
      have := vaB_len10 hx
      omega
    have hsz := hk.size
    obtain ⟨ra, rc, rfl, hr1, hr2⟩ := hR.form
    have HG := Lib.hid hgk
    clear hgk
    generalize hm : pre.length = m at *
    have HM := Lib.hid hm
    clear hm
    have e1 : IntKind.u8.wrap (y : Int) = ((y % 256 : Nat) : Int) := by rw [IntKind.wrap_u8]; omega
    by_cases hlt : y < 128
    · rw [vaB_small hlt] at he
      have HE := Lib.hid he
      have e2 : ((y % 256 : Nat) : Int) = (y : Int) := by omega
      rw [e2] at e1
      clear he e2
      go_wp2_with (at_builtin; refine appendRY1 m rfl _ _ rfl w.heap.size (.slice ra m rc) pre y HM _ rfl rfl rfl hR (by omega) hsz ?_; intro g2 cap2 w1 hown hk1)
      have HF2 : Hid (OwnY w.heap.size w1 (.slice (some ⟨g2, 0, none⟩) (m + 1) cap2) (bs ++ vaB x) ∧ Keeps (fun _ => False) w w1) := Lib.hid ⟨by rw [HE.out]; exact hown, hk.trans hk1 (fun q hq e => by omega)⟩
      clear hown hk1 hk
      go_wp2
      go_ret
      exact ⟨_, rfl, HF2.out⟩
    · rw [vaB_more hlt] at he
      have HE := Lib.hid he
      have e2 : bits .or .u8 ((y % 256 : Nat) : Int) 128 = ((y % 128 + 128 : Nat) : Int) := by
        have h1 := u8_or_nat (y % 256) 128 (by omega) (by decide)
        have h2 : ∀ z : Fin 256, z.val ||| 128 = z.val % 128 + 128 := by decide +kernel
        have h3 := h2 ⟨y % 256, by omega⟩
        simp only at h3
        rw [h3, show y % 256 % 128 = y % 128 by omega] at h1
        exact h1
      obtain ⟨z, hz⟩ : ∃ z, z = y % 128 + 128 := ⟨_, rfl⟩
      obtain ⟨q, hq⟩ : ∃ q, q = y % 256 := ⟨_, rfl⟩
      rw [← hz] at e2 HE
      rw [← hq] at e1 e2
      clear he hz hq
      go_wp2_with (at_builtin; refine appendRY1 m rfl _ _ rfl w.heap.size (.slice ra m rc) pre z HM _ rfl rfl rfl hR (by omega) hsz ?_; intro g2 cap2 w1 hown hk1)
      have HF2 : Hid (OwnY w.heap.size w1 (.slice (some ⟨g2, 0, none⟩) (m + 1) cap2) (pre ++ [z]) ∧ Keeps (fun _ => False) w w1) := Lib.hid ⟨hown, hk.trans hk1 (fun q hq e => by omega)⟩
      clear hown hk1 hk
      go_wp2
      go_roundg (y / 128)
      case measure => rw [HG.out]; omega
      case rel => exact ⟨pre ++ [z], y / 128, rfl, by first | rfl | go_num | (congr 1), by rw [HE.out, List.append_assoc]; rfl, by omega, .inl HF2.out.1, HF2.out.2⟩

set_option maxRecDepth 100000 in
set_option maxHeartbeats 2000000 in
theorem crcPut_any (pv : Value) (bs : List Nat) (x : Nat) (w : World) (hp : Sl .u8 w pv (nats bs)) (hl : bs.length ≤ 100000000) (hx : x < 4294967296) :
    Calls Tryz.prog 104 #[pv, .int .u32 x] w fun e w' => ∃ v, e = .returned v ∧ OwnY w.heap.size w' v (bs ++ four x) ∧ Keeps (fun _ => False) w w' := by
  obtain ⟨pa, pc, rfl, hpc, hpm⟩ := hp.formY
  have hF := hp.full
  obtain ⟨y0, y1, y2, y3, h4, z0, z1, z2, z3⟩ : ∃ y0 y1 y2 y3 : Nat, four x = [y0, y1, y2, y3] ∧ (x : Int) % 256 = y0 ∧ (x : Int) / 256 % 256 = y1 ∧ (x : Int) / 65536 % 256 = y2 ∧ (x : Int) / 16777216 = y3 := ⟨_, _, _, _, rfl, by omega, by omega, by omega, by omega⟩
  have k0 := (Keeps.refl (fun _ => False) w).alloc (.cells #[.int .u8 y0, .int .u8 y1, .int .u8 y2, .int .u8 y3] 5)
  have hsc : Sl .u8 (w.alloc (.cells #[.int .u8 y0, .int .u8 y1, .int .u8 y2, .int .u8 y3] 5)) (.slice (some ⟨w.heap.size, 0, none⟩) 4 4) (nats [y0, y1, y2, y3]) := by
    refine ⟨_, 4, rfl, Nat.le_refl _, by decide, (fun h => by cases h), fun j z hj => ⟨w.heap.size, 0, rfl, ?_⟩⟩
    have hb := heap_alloc_new w (.cells #[.int .u8 y0, .int .u8 y1, .int .u8 y2, .int .u8 y3] 5)
    rw [Nat.zero_add, World.cell_of_heap hb]
    match j, hj with
    | 0, hj => simp [nats] at hj; subst hj; rfl
    | 1, hj => simp [nats] at hj; subst hj; rfl
    | 2, hj => simp [nats] at hj; subst hj; rfl
    | 3, hj => simp [nats] at hj; subst hj; rfl
    | j + 4, hj => simp [nats] at hj
  generalize hn : bs.length = n at *
  have HN := Lib.hid hn
  have hF2 := hF
  obtain ⟨ao, hao, hsl⟩ := hF2
  rw [hn] at hao
  have hslA := hsl.keeps k0 (fun _ _ h => h)
  have H4 := Lib.hid h4
  have HK := Lib.hid k0
  clear hn hp hF hao hsl h4 k0
  go_enter Tryz.func104, Tryz.ntmps104
  go_wp2_with (at_builtin; go_loud (refine growY rfl _ _ rfl pa n 4 4 ⟨w.heap.size, 0, none⟩ bs [y0, y1, y2, y3] rfl rfl hslA hsc (by decide) (by omega) ?_; intro v' w1 hown hk1))
  have HF : Hid (OwnY w.heap.size w1 v' (bs ++ four x) ∧ Keeps (fun _ => False) w w1) := Lib.hid ⟨by
    rw [H4.out]
    refine hown.mono (fun k hk => ?_)
    have := (hown.lt k hk).1
    simp at this
    omega, HK.out.trans hk1 (fun _ _ h => h)⟩
  clear hown hk1 hslA hsc
  go_wp2
  go_ret
  exact ⟨_, rfl, HF.out⟩

set_option maxRecDepth 100000 in
set_option maxHeartbeats 2000000 in
theorem crcGet_any (pv : Value) (x : Nat) (w : World) (hp : Sl .u8 w pv (nats (four x))) (hx : x < 4294967296) :
    Calls Tryz.prog 77 #[pv] w fun e w' => e = .returned (.tuple #[.int .u32 x, .int .i64 0]) ∧ Keeps (fun _ => False) w w' := by
  obtain ⟨y0, y1, y2, y3, h4, hx4⟩ : ∃ y0 y1 y2 y3 : Nat, four x = [y0, y1, y2, y3] ∧ y0 < 256 ∧ y1 < 256 ∧ y2 < 256 ∧ y3 < 256 ∧ x = y0 + 256 * y1 + 65536 * y2 + 16777216 * y3 := ⟨_, _, _, _, rfl, by omega, by omega, by omega, by omega, by omega⟩
  obtain ⟨hy0, hy1, hy2, hy3, hxx⟩ := hx4
  rw [h4] at hp
  obtain ⟨pa, pc, rfl, hpc, hpm, _, hc⟩ := hp
  obtain ⟨g, off, rfl, c0⟩ := hc 0 (y0 : Int) rfl
  obtain ⟨g', off', hg, c1⟩ := hc 1 (y1 : Int) rfl
  obtain ⟨g'', off'', hg', c2⟩ := hc 2 (y2 : Int) rfl
  obtain ⟨g3, off3, hg3, c3⟩ := hc 3 (y3 : Int) rfl
  simp only [Option.some.injEq, Addr.mk.injEq] at hg hg' hg3
  obtain ⟨rfl, rfl, _⟩ := hg
  obtain ⟨rfl, rfl, _⟩ := hg'
  obtain ⟨rfl, rfl, _⟩ := hg3
  rw [Nat.add_zero] at c0
  rw [show (nats [y0, y1, y2, y3]).length = 4 from rfl] at hpc ⊢
  have or1 : ∀ (a b k : Nat), a < 2 ^ k → a + b * 2 ^ k < 4294967296 → bits .or .u32 (a : Int) ((b : Int) * 2 ^ k) = ((a + b * 2 ^ k : Nat) : Int) := fun a b k h1 h2 => by
    have h3 := u32_or_nat a (b * 2 ^ k) (by omega) (by omega)
    rw [Nat.or_comm, Nat.mul_comm, ← Nat.two_pow_add_eq_or_of_lt h1, Nat.add_comm, Nat.mul_comm] at h3
    push_cast at h3 ⊢
    exact h3
  have f1 := or1 y0 y1 8 (by omega) (by omega)
  have f2 := or1 (y0 + y1 * 2 ^ 8) y2 16 (by omega) (by omega)
  have f3 := or1 (y0 + y1 * 2 ^ 8 + y2 * 2 ^ 16) y3 24 (by omega) (by omega)
  have hxe : y0 + y1 * 2 ^ 8 + y2 * 2 ^ 16 + y3 * 2 ^ 24 = x := by omega
  rw [hxe] at f3
  generalize y0 + y1 * 2 ^ 8 + y2 * 2 ^ 16 = p2 at *
  generalize y0 + y1 * 2 ^ 8 = p1 at *
  simp only [Int.reducePow] at f1 f2 f3
  clear hc or1 hxe hxx h4
  go_enter Tryz.func77, Tryz.ntmps77
  go_wp2_with fail
  go_quiet (fail)
  have HK := Lib.hid ((Keeps.refl (fun _ => False) w).drewN nq)
  go_wp2
  refine bodyPost_ret (v := .tuple #[.int .u32 x, .int .i64 0]) (by simp [results, Tryz.results77, go_sem]) rfl ?_
  exact ⟨rfl, HK.out⟩

end Go.Proofs.YtcfdpogegngplaaGreat
