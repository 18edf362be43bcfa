/- dart.Map.Around. -/
import Derived.Test.YtblkkcpeodoclaaGreatDoorPtDarts
namespace Go.Proofs.YtblkkcpeodoclaaGreatDoor
open Go.RowKit

set_option maxRecDepth 100000 in
theorem mapAround_any {w : World} {b : Nat} {s : List Nat} {root lone : Int} {R : Nat → Prop} (h : MapAt w b s root lone R) (d : Nat) (hd : d < s.length) :
    Calls Tryz.prog 29 #[.pointer (some ⟨b, 0, none⟩), .int .i64 d] w fun e w' => ∃ v, e = .returned v ∧ OwnI w.heap.size w' v (nats (orb (sg s) d)) ∧ Keeps (fun _ => False) w w' := by
  obtain ⟨bp, bq, sv, tv, d1, d2, o1, z1, o2, z2, h1, h2, h3, _⟩ := h.ex
  have c0 : w.cell? ⟨b, 0, none⟩ = some (.pointer (some ⟨bp, 0, none⟩)) := World.cell_of_heap h1 0
  have hO := permOrbit_any bp sv s d w h2 h.isP hd (by have := h.le; omega)
  have HO := Lib.hid hO
  clear h h1 h2 h3 hO
  go_enter Tryz.func29, Tryz.ntmps29
  go_wp2_with fail
  refine HO.out.mono ?_
  rintro e w' ⟨v, rfl, hv, hk⟩
  have HV := Lib.hid (And.intro hv hk)
  clear hv hk
  obtain ⟨va, vc, rfl, -, -⟩ := HV.out.1.form
  go_wp2
  go_ret
  exact ⟨_, rfl, HV.out⟩

end Go.Proofs.YtblkkcpeodoclaaGreatDoor
