/- bytes.Equal, bytes.HasPrefix. -/
import Derived.Test.YtblkkcpeodoclaaGreatDoorOwnY
import Derived.Test.YtblkkcpeodoclaaGreatDoorConn
import Derived.Test.YtblkkcpeodoclaaGreatDoorRef4
import Derived.Laws.BytesArg
import Derived.Lib.Bytes
import Derived.Shelf.Bytes.SlSmallAll
namespace Go.Proofs.YtblkkcpeodoclaaGreatDoor
open Go.RowKit

theorem Sl.conv {w : World} {sv : Value} {cs : List Nat} (h : Sl .u8 w sv (nats cs)) : (convert 22 9 sv).run Tryz.prog w = .ok (.string (strOfNums (nats cs))) w := by
  obtain ⟨a, cap, rfl, h1, h2, h3, hc⟩ := h
  cases cs with
  | nil => exact run_convert_bytes_zero w _ _ Tryz.underlying22 Tryz.underlying5 a cap _ Tryz.underlying9
  | cons x cs =>
    obtain ⟨g, off, rfl, _⟩ := hc 0 (x : Int) rfl
    refine run_convert_bytes_arg (P := Tryz.prog) w _ _ Tryz.underlying22 Tryz.underlying5 g off _ cap (nats (x :: cs)) rfl (fun i hi => ?_) _ Tryz.underlying9
    obtain ⟨z, hz⟩ : ∃ z, (nats (x :: cs))[i]? = some z := ⟨_, List.getElem?_eq_getElem hi⟩
    obtain ⟨g', off', he, hcell⟩ := hc i z hz
    simp only [Option.some.injEq, Addr.mk.injEq] at he
    obtain ⟨rfl, rfl, _⟩ := he
    rw [hcell, List.getD_eq_getElem?_getD, hz]; rfl

theorem u8s_inj {cs ds : List Nat} (hc : ∀ x ∈ cs, x < 256) (hd : ∀ x ∈ ds, x < 256) (h : cs.map (fun n => UInt8.ofNat n) = ds.map (fun n => UInt8.ofNat n)) : cs = ds := by
  have h2 := congrArg (List.map UInt8.toNat) h
  rw [List.map_map, List.map_map] at h2
  have e : ∀ l : List Nat, (∀ x ∈ l, x < 256) → l.map (UInt8.toNat ∘ fun n => UInt8.ofNat n) = l := by
    intro l hl
    conv => rhs; rw [← List.map_id l]
    refine List.map_congr_left fun x hx => ?_
    have := hl x hx
    simp [UInt8.toNat_ofNat']
    omega
  rwa [e cs hc, e ds hd] at h2

theorem strN_list (cs : List Nat) : (strOfNums (nats cs)).toList = cs.map (fun n => UInt8.ofNat n) := by
  rw [Lib.strOfNums_toList]
  unfold Lib.bytesOf nats
  rw [List.map_map]
  exact List.map_congr_left fun x _ => by simp

theorem strN_inj {cs ds : List Nat} (hc : ∀ x ∈ cs, x < 256) (hd : ∀ x ∈ ds, x < 256) : (strOfNums (nats cs)).toList = (strOfNums (nats ds)).toList ↔ cs = ds := by
  refine ⟨fun h => ?_, fun h => by rw [h]⟩
  rw [strN_list, strN_list] at h
  exact u8s_inj hc hd h

theorem bytesEqual_any (p q : Value) (cs ds : List Nat) (w : World) (hp : Sl .u8 w p (nats cs)) (hq : Sl .u8 w q (nats ds)) (hc : ∀ x ∈ cs, x < 256) (hd : ∀ x ∈ ds, x < 256) :
    Calls Tryz.prog 72 #[p, q] w fun e w' => e = .returned (.bool (decide (cs = ds))) ∧ w = w' := by
  have k1 := hp.conv
  have k2 := hq.conv
  obtain ⟨b, hb⟩ : ∃ b, decide (cs = ds) = b := ⟨_, rfl⟩
  have hb2 : ((strOfNums (nats cs)).toList == (strOfNums (nats ds)).toList) = b := by
    rw [← hb]
    by_cases h : cs = ds
    · rw [h, beq_self_eq_true]; simp
    · rw [beq_eq_false_iff_ne.2 ((not_congr (strN_inj hc hd)).2 h), decide_eq_false h]
  rw [hb]
  clear hp hq hc hd hb
  generalize strOfNums (nats cs) = s1 at *
  generalize strOfNums (nats ds) = s2 at *
  go_enter Tryz.func72, Tryz.ntmps72
  go_wp2_with fail
  go_ret
  exact ⟨rfl, rfl⟩

end Go.Proofs.YtblkkcpeodoclaaGreatDoor
