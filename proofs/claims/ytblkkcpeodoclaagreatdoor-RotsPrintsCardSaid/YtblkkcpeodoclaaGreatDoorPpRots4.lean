/- rots.Lines. -/
import Derived.Shelf.Bytes.SlCountOne
import Derived.Lib.SlBytesConst
import Derived.Test.YtblkkcpeodoclaaGreatDoorPpRots2
import Derived.Test.YtblkkcpeodoclaaGreatDoorPpLays07
namespace Go.Proofs.YtblkkcpeodoclaaGreatDoor
open Go.RowKit Go.Shelf

theorem Sl.addAt {k : IntKind} {w : World} {a : Addr} {n c : Nat} {zs : List Int} (h : Sl k w (.slice (some a) n c) zs) : zs.length = n ∧ ∀ i, i < n → w.cell? (a.add i) = some (.int k (zs.getD i 0)) := by
  obtain ⟨a', cap, e, -, -, -, hc⟩ := h
  simp only [Value.slice.injEq] at e
  obtain ⟨rfl, e2, rfl⟩ := e
  refine ⟨e2.symm, fun i hi => ?_⟩
  obtain ⟨z, hz⟩ : ∃ z, zs[i]? = some z := ⟨_, List.getElem?_eq_getElem (by omega)⟩
  obtain ⟨g, off, e3, hcell⟩ := hc i z hz
  simp only [Option.some.injEq] at e3
  subst e3
  have : (⟨g, off, none⟩ : Addr).add i = ⟨g, off + i, none⟩ := by unfold Addr.add; split <;> simp_all
  rw [this, hcell, List.getD_eq_getElem?_getD, hz]
  rfl

theorem count_nats (ps : List Nat) (hps : ∀ b ∈ ps, b < 256) : Lib.countByte (Lib.bytesOf (nats ps)) (10 : Int).toNat.toUInt8 = ps.count 10 := by
  unfold Lib.countByte Lib.bytesOf nats
  rw [List.map_map]
  induction ps with
  | nil => rfl
  | cons b l ih =>
    have h1 := ih (fun x hx => hps x (List.mem_cons_of_mem _ hx))
    have hb := hps b (List.mem_cons_self ..)
    rw [List.map_cons, List.count_cons, List.count_cons, h1]
    congr 1
    have e : (((fun n : Int => UInt8.ofNat n.toNat) ∘ fun n : Nat => (n : Int)) b == (10 : Int).toNat.toUInt8) = (b == 10) := by
      rw [Bool.eq_iff_iff, beq_iff_eq, beq_iff_eq]
      show UInt8.ofNat ((b : Int).toNat) = (10 : Int).toNat.toUInt8 ↔ b = 10
      rw [Int.toNat_natCast]
      constructor
      · intro h
        have := congrArg UInt8.toNat h
        rw [u8_toNat hb] at this
        exact this
      · rintro rfl; rfl
    rw [e]

set_option maxRecDepth 100000 in
theorem lines_any (pv : Value) (ps : List Nat) (w : World) (hp : Sl .u8 w pv (nats ps)) (hps : ∀ b ∈ ps, b < 256) :
    Calls Tryz.prog 17 #[pv] w fun e w' => e = .returned (.int .i64 (ps.count 10 : Nat)) ∧ Keeps (fun _ => False) w w' := by
  obtain ⟨a, cap, rfl, -, -, hn, -⟩ := id hp
  have hC : ∀ w1, Sl .u8 w1 (.slice a (nats ps).length cap) (nats ps) → Keeps (fun _ => False) w w1 → w1.cell? ⟨w.heap.size, 0, none⟩ = some (.int .u8 10) →
      Calls Tryz.prog 36 #[.slice a (nats ps).length cap, .slice (some ⟨w.heap.size, 0, none⟩) 1 1] w1 fun e w' => e = .returned (.int .i64 (ps.count 10 : Nat)) ∧ Keeps (fun _ => False) w w' := by
    intro w1 hs hk hc
    cases a with
    | some a =>
      obtain ⟨-, hcell⟩ := hs.addAt
      refine (Any.bytes_Count_one_at Tryz.lays13 a _ cap w.heap.size 0 1 (nats ps) 10 w1 rfl hcell hc).mono ?_
      rintro e w' ⟨rfl, rfl⟩
      rw [count_nats ps hps]
      exact ⟨rfl, hk⟩
    | none =>
      have hz := hn rfl
      subst hz
      have hl : ps = [] := by
        cases ps with
        | nil => rfl
        | cons b l =>
          obtain ⟨a', cap', e, -, -, hn', hc'⟩ := hs
          obtain ⟨g, off, e', -⟩ := hc' 0 (b : Int) rfl
          simp only [Value.slice.injEq] at e
          rw [← e.1] at e'
          cases e'
      subst hl
      refine (Any.bytes_Count_one_nil Tryz.lays13 w.heap.size 0 1 10 w1 hc).mono ?_
      rintro e w' ⟨rfl, rfl⟩
      exact ⟨rfl, hk⟩
  obtain ⟨w1, hw1⟩ : ∃ w1, w1 = w.alloc (.cells #[.int .u8 10] 5 (1, 2)) := ⟨_, rfl⟩
  have k1 : Keeps (fun _ => False) w w1 := by rw [hw1]; exact (Keeps.refl (fun _ => False) w).alloc _
  have hp1 := hp.keeps k1 (fun _ _ h => h)
  have hc2 : w1.cell? ⟨w.heap.size, 0, none⟩ = some (.int .u8 10) := by rw [hw1]; exact World.cell_of_heap (heap_alloc_new w _) 0
  have hcv := Lib.run_convert_bytes_const (P := Tryz.prog) w 22 5 #[.int .u8 10] 1 1 Tryz.underlying22 Tryz.underlying5
  rw [show (#[Value.int .u8 10] : Array Value).size = 1 from rfl, ← hw1] at hcv
  have HC := Lib.hid (hC _ hp1 k1 hc2)
  clear hC hp1 k1 hc2 hp hn hw1
  go_enter Tryz.func17, Tryz.ntmps17
  go_wp2_with fail
  refine HC.out.mono ?_
  rintro e w' ⟨rfl, hk⟩
  have HK := Lib.hid hk
  clear hk
  go_wp2
  go_ret
  exact ⟨rfl, HK.out⟩

end Go.Proofs.YtblkkcpeodoclaaGreatDoor
