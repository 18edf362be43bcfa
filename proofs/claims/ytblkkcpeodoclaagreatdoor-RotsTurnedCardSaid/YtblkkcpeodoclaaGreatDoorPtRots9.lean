/- rots.line. -/
import Derived.Test.YtblkkcpeodoclaaGreatDoorPtRots8
import Derived.Test.YtblkkcpeodoclaaGreatDoorPtConn
namespace Go.Proofs.YtblkkcpeodoclaaGreatDoor
open Go.RowKit

def txtI (z : Int) : ByteArray := ⟨(Lib.itoa z).toArray⟩

theorem join_len (c : UInt8) : ∀ (xs : List (List UInt8)), (∀ x ∈ xs, x.length ≤ 21) → (joinB c xs).length ≤ 22 * xs.length
  | [], _ => by simp [joinB]
  | [x], h => by have := h x (List.mem_cons_self ..); simp only [joinB, List.length_singleton]; omega
  | x :: y :: r, h => by
    have h1 := h x (List.mem_cons_self ..)
    have h2 := join_len c (y :: r) (fun z hz => h z (List.mem_cons_of_mem _ hz))
    simp only [joinB, List.length_append, List.length_cons] at h2 ⊢
    omega

set_option maxRecDepth 100000 in
set_option maxHeartbeats 2000000 in
theorem line_any (v : Value) (zs : List Int) (B : Nat) (w : World) (hE : EnvR B w) (hs : Sl .i64 w v zs) (hl : zs.length ≤ 1000000) (hz : ∀ z ∈ zs, -9223372036854775808 ≤ z ∧ z ≤ 9223372036854775807) :
    Calls Tryz.prog 24 #[v] w fun e w' => e = .returned (.string ⟨(joinB 32 (zs.map Lib.itoa) ++ [10]).toArray⟩) ∧ Keeps (fun _ => False) w w' := by
  obtain ⟨a, cap, rfl, -, -⟩ := hs.form
  obtain ⟨n, hn⟩ : ∃ n, n = zs.length := ⟨_, rfl⟩
  rw [← hn] at hl hs ⊢
  have HS := Lib.hid (And.intro hs (And.intro hn (And.intro hz hE)))
  clear hs hn hz hE
  go_enter Tryz.func24, Tryz.ntmps24
  go_wp2_with fail
  go_loopg [3, 8] n (fun mu sv iv wr => ∃ i : Nat, i ≤ n ∧ mu = n - i ∧ iv = .int .i64 i ∧ OwnT w.heap.size wr sv (((zs.take i).map txtI).map Value.string) ∧ Keeps (fun _ => False) w wr)
  case atStart => exact ⟨0, Nat.zero_le _, rfl, rfl, OwnT.nil _ _, Keeps.refl _ _⟩
  case round =>
    obtain ⟨i, hi, hgk, rfl, hown, hkw⟩ := hrel
    have hlen : (((zs.take i).map txtI).map Value.string).length = i := by rw [List.length_map, List.length_map, List.length_take, ← HS.out.2.1]; omega
    obtain ⟨sa, sc, rfl, -⟩ := hown.form
    rw [hlen] at hown ⊢
    have HN := Lib.hid hlen
    have HG := Lib.hid hgk
    have HO := Lib.hid (And.intro hown hkw)
    clear hlen hgk hown hkw
    by_cases hlt : i < n
    · obtain ⟨z, hz⟩ : ∃ z, zs[i]? = some z := ⟨_, List.getElem?_eq_getElem (by rw [← HS.out.2.1]; exact hlt)⟩
      obtain ⟨g, off, rfl, hc⟩ := (HS.out.1.keeps HO.out.2 (fun _ _ h => h)).cellAt hz
      have hzb := HS.out.2.2.1 z (List.mem_of_getElem? hz)
      have HZ := Lib.hid hz
      clear hz
      go_wp2_with fail
      refine (itoa_any z B wr (HS.out.2.2.2.keeps HO.out.2 (fun _ h => h.elim)) hzb.1 hzb.2).mono ?_
      rintro e w2 ⟨rfl, hk2⟩
      have hown2 := HO.out.1.keeps hk2 (fun _ _ h => h)
      have hz2 : w.heap.size ≤ w2.heap.size := Nat.le_trans HO.out.2.size hk2.size
      have HK2 := Lib.hid hk2
      clear hk2 hc
      go_wp2_with (at_builtin; go_loud (refine append1t i rfl _ _ rfl w.heap.size (.slice sa i sc) (((zs.take i).map txtI).map Value.string) (txtI z) HN w2.heap.size rfl rfl rfl hown2 (by omega) hz2 ?_); intro g2 cap2 w3 hown3 hk3 hat hg)
      have hkf : Keeps (fun _ => False) w w3 := (HO.out.2.trans HK2.out (fun _ _ h => h)).trans hk3 (fun y hy e => by have := (HO.out.1.lt y e).1; omega)
      have hnx : ((zs.take i).map txtI).map Value.string ++ [Value.string (txtI z)] = ((zs.take (i + 1)).map txtI).map Value.string := by
        rw [List.take_add_one, HZ.out]; simp
      rw [hnx] at hown3
      have HF := Lib.hid (And.intro hown3 hkf)
      clear hown3 hk3 hkf hnx hown2 hat
      go_wp2
      go_roundg (n - (i + 1))
      case measure => rw [HG.out]; omega
      case rel => exact ⟨i + 1, by omega, rfl, by go_num, HF.out.1, HF.out.2⟩
    · have hin : i = n := by omega
      have t1 : decide ((i : Int) < (n : Int)) = false := decide_eq_false (by omega)
      have hx : ((zs.take i).map txtI).map (·.data.toList) = zs.map Lib.itoa := by
        rw [hin, List.take_of_length_le (by rw [HS.out.2.1]; exact Nat.le_refl _), List.map_map]
        exact List.map_congr_left fun z _ => by simp [txtI]
      have hj := join_any w.heap.size (.slice sa i sc) ((zs.take i).map txtI) 32 wr HO.out.1 (by rw [List.length_map, List.length_take, ← HS.out.2.1]; omega) (by
        rw [hx]
        have := join_len 32 (zs.map Lib.itoa) (fun x hx => by
          obtain ⟨z, hz, rfl⟩ := List.mem_map.1 hx
          exact Lib.itoa_length_le z (HS.out.2.2.1 z hz).1 (HS.out.2.2.1 z hz).2)
        rw [List.length_map, ← HS.out.2.1] at this
        omega)
      rw [hx] at hj
      have hJL := join_len 32 (zs.map Lib.itoa) (fun x hx => by
        obtain ⟨z, hz, rfl⟩ := List.mem_map.1 hx
        exact Lib.itoa_length_le z (HS.out.2.2.1 z hz).1 (HS.out.2.2.1 z hz).2)
      rw [List.length_map, ← HS.out.2.1] at hJL
      have HJ := Lib.hid hj
      clear hj hx hin
      obtain ⟨x, hxx⟩ : ∃ x, x = joinB 32 (zs.map Lib.itoa) := ⟨_, rfl⟩
      rw [← hxx] at HJ hJL
      have hadd : ∀ W, (Op.stringOp .add (⟨x.toArray⟩ : ByteArray) ⟨#[10]⟩).run Tryz.prog W = .ok (.string ((⟨x.toArray⟩ : ByteArray) ++ ⟨#[10]⟩)) W := fun W => run_string_add_sum _ _ _ (by
        have h1 : (⟨x.toArray⟩ : ByteArray).size = x.length := by show x.toArray.size = _; simp
        have h2 : (⟨#[10]⟩ : ByteArray).size = 1 := rfl
        omega)
      have hap : (⟨x.toArray⟩ : ByteArray) ++ ⟨#[10]⟩ = ⟨(x ++ [10]).toArray⟩ := by
        apply Go.WideShapes.bytes_inj
        simp
      rw [hap] at hadd
      have HXX := Lib.hid hxx
      clear hap hJL hxx
      go_wp2_with fail
      refine HJ.out.mono ?_
      rintro e w2 ⟨rfl, hk2⟩
      have HK2 := Lib.hid hk2
      clear hk2
      go_wp2
      go_ret
      exact ⟨by rw [← HXX.out]; rfl, HO.out.2.trans HK2.out (fun _ _ h => h)⟩

end Go.Proofs.YtblkkcpeodoclaaGreatDoor
