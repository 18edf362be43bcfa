/- bytes.Equal, bytes.HasPrefix. -/
import Derived.Laws.BytesArg
import Derived.Lib.Bytes
import Derived.Shelf.Bytes.SlSmallAll
import Derived.Test.YtblkkcpeodoclaaGreatDoorPtOwnY
import Derived.Test.YtblkkcpeodoclaaGreatDoorPtConn
import Derived.Test.YtblkkcpeodoclaaGreatDoorPtRef4
namespace Go.Proofs.YtblkkcpeodoclaaGreatDoor
open Go.RowKit

theorem Sl.conv {w : World} {sv : Value} {cs : List Nat} (h : Sl .u8 w sv (nats cs)) : (convert 22 9 sv).run Tryz.prog w = .ok (.string (strOfNums (nats cs))) w := by
  obtain ⟨a, cap, rfl, h1, h2, h3, hc⟩ := h
  cases cs with
  | nil => exact run_convert_bytes_zero w _ _ Tryz.underlying22 Tryz.underlying5 a cap _ Tryz.underlying9
  | cons x cs =>
    obtain ⟨g, off, rfl, _⟩ := hc 0 (x : Int) rfl
    refine run_convert_bytes_arg (P := Tryz.prog) w _ _ Tryz.underlying22 Tryz.underlying5 g off _ cap (nats (x :: cs)) rfl (fun i hi => ?_) _ Tryz.underlying9
    obtain ⟨z, hz⟩ : ∃ z, (nats (x :: cs))[i]? = some z := ⟨_, List.getElem?_eq_getElem hi⟩
    obtain ⟨g', off', he, hcell⟩ := hc i z hz
    simp only [Option.some.injEq, Addr.mk.injEq] at he
    obtain ⟨rfl, rfl, _⟩ := he
    rw [hcell, List.getD_eq_getElem?_getD, hz]; rfl

theorem strN_list (cs : List Nat) : (strOfNums (nats cs)).toList = cs.map (fun n => UInt8.ofNat n) := by
  rw [Lib.strOfNums_toList]
  unfold Lib.bytesOf nats
  rw [List.map_map]
  exact List.map_congr_left fun x _ => by simp

end Go.Proofs.YtblkkcpeodoclaaGreatDoor
