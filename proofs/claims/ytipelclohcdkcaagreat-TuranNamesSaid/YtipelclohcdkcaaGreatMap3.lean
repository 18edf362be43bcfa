/- The contracts of package dart: how many vertices, degrees; alike maps; a map is made. -/
import Derived.Test.YtipelclohcdkcaaGreatMap2
import Derived.Deep.RegionHeld3
namespace Go.Proofs.YtipelclohcdkcaaGreat
open Go.RowKit

theorem NmDone.ofDrew {w w' : World} {b o : Nat} {t : TypeId} {cs : Array Value} {bp : Nat} {ov zv : Value} {s : List Nat} (h : NmDone w.drew b o t cs bp ov zv s w') : NmDone w b o t cs bp ov zv s w' := by
  obtain ⟨ov', zv', h1, h2, h3, h4, k⟩ := h
  exact ⟨ov', zv', h1, h2, h3, h4, ((Keeps.refl (fun x => x = b) w).drew).trans k (fun _ _ e => e)⟩

section
variable {w : World} {b : Nat} {s : List Nat} {root lone : Int} {R : Nat → Prop} (h : MapAt w b s root lone R)
include h

set_option maxRecDepth 100000 in
set_option maxHeartbeats 1000000 in
theorem mapVertices_any : Calls Tryz.prog 76 #[.pointer (some ⟨b, 0, none⟩)] w fun e w' => e = .returned (.int .i64 ((ldr (sg s) s.length : Nat) + lone)) ∧ MapQ w b s root lone R w' := by
  obtain ⟨bp, sv, d1, o1, z1, nb, hp, hT, hbp, hsv, hfin⟩ := h.nb1
  have hN : Calls Tryz.prog 143 #[.pointer (some ⟨b, 0, none⟩)] w.drew _ := count_any b 0 _ _ bp d1 o1 z1 sv s w.drew nb (hT.keeps ((Keeps.refl (fun _ => False) w).drew) (fun _ _ h => h)) (hp.keeps ((Keeps.refl (fun _ => False) w).drew) (fun h => h) (fun _ _ h => h)) hbp hsv h.isP (by have := h.le; omega)
  obtain ⟨bp', bq, sv', tv, d1', d2, o1', z1', o2, z2, h1, _⟩ := h.ex
  have c13 : w.drew.cell? ⟨b, 13, none⟩ = some (.int .i64 lone) := World.cell_of_heap h1 13
  have hll := ldr_le (sg s) s.length
  have hle := h.le
  have hln := h.ln
  have hN2 : Calls Tryz.prog 143 #[.pointer (some ⟨b, 0, none⟩)] w.drew fun e w' => e = .returned (.int .i64 (ldr (sg s) s.length : Nat)) ∧ MapQ w b s root lone R w' := hN.mono (fun e w' hh => ⟨hh.1, hfin w' hh.2.ofDrew⟩)
  have HC : Hid (∀ w', MapQ w b s root lone R w' → w'.cell? ⟨b, 13, none⟩ = some (.int .i64 lone)) := Lib.hid (fun w' hq => by
    obtain ⟨_, _, _, _, _, _, _, _, _, _, h1, _⟩ := hq.1.ex
    exact World.cell_of_heap h1 13)
  clear h nb hT hp hbp hsv hfin h1 hN
  generalize ldr (sg s) s.length = v at *
  go_enter Tryz.func76, Tryz.ntmps76
  go_wp2_with fail
  have hsum : IntKind.i64.wrap ((v : Int) + lone) = (v : Int) + lone := IntWalk.i64_in _ (by omega)
  go_region_held3 (fun w' => w'.cell? ⟨b, 13, none⟩ = some (.int .i64 lone)) (first | exact c13 | exact d13) (first | (go_at_call 143; refine hN2.mono ?_; rintro e w' ⟨rfl, hq⟩; have d13 := HC.out _ hq; have HQ := Lib.hid hq; clear hq))
  clear hsum
  all_goals
    go_wp2
    go_ret
    exact ⟨rfl, HQ.out⟩
end

set_option maxRecDepth 100000 in
set_option maxHeartbeats 2000000 in
theorem mapSame_eq {w : World} {b c : Nat} {s : List Nat} {root lone : Int} {R Q : Nat → Prop} (h : MapAt w b s root lone R) (k : MapAt w c s root lone Q) (hl : s.length ≤ 100000) :
    Calls Tryz.prog 88 #[.pointer (some ⟨b, 0, none⟩), .pointer (some ⟨c, 0, none⟩)] w fun e w' => e = .returned (.bool true) ∧ Keeps (fun _ => False) w w' := by
  obtain ⟨bp, bq, sv, tv, d1, d2, o1, z1, o2, z2, h1, h2, h3, _⟩ := h.ex
  obtain ⟨bp', bq', sv', tv', d1', d2', o1', z1', o2', z2', k1, k2, k3, _⟩ := k.ex
  have HC : Hid (∀ w', Keeps (fun _ => False) w w' → w'.cell? ⟨b, 0, none⟩ = some (.pointer (some ⟨bp, 0, none⟩)) ∧ w'.cell? ⟨b, 12, none⟩ = some (.int .i64 root) ∧ w'.cell? ⟨b, 13, none⟩ = some (.int .i64 lone) ∧
      w'.cell? ⟨c, 0, none⟩ = some (.pointer (some ⟨bp', 0, none⟩)) ∧ w'.cell? ⟨c, 12, none⟩ = some (.int .i64 root) ∧ w'.cell? ⟨c, 13, none⟩ = some (.int .i64 lone)) := Lib.hid (fun w' hk =>
    ⟨World.cell_of_heap (hk.at h1 (fun h => h)) 0, World.cell_of_heap (hk.at h1 (fun h => h)) 12, World.cell_of_heap (hk.at h1 (fun h => h)) 13, World.cell_of_heap (hk.at k1 (fun h => h)) 0, World.cell_of_heap (hk.at k1 (fun h => h)) 12, World.cell_of_heap (hk.at k1 (fun h => h)) 13⟩)
  have kd := (Keeps.refl (fun _ => False) w).drew
  have hS := permSame_eq bp bp' sv sv' s w.drew (h2.keeps kd (fun h => h) (fun _ _ h => h)) (k2.keeps kd (fun h => h) (fun _ _ h => h)) hl
  obtain ⟨e1, e2, e3, e4, e5, e6⟩ := HC.out _ kd
  clear h k h1 h2 h3 k1 k2 k3
  have hr : (root == root) = true := by simp
  have hn : (lone == lone) = true := by simp
  have HKD := Lib.hid kd
  clear kd
  go_enter Tryz.func88, Tryz.ntmps88
  go_wp2_with fail
  go_region_held3 (fun w' => w'.cell? ⟨b, 0, none⟩ = some (.pointer (some ⟨bp, 0, none⟩)) ∧ w'.cell? ⟨b, 12, none⟩ = some (.int .i64 root) ∧ w'.cell? ⟨b, 13, none⟩ = some (.int .i64 lone) ∧ w'.cell? ⟨c, 0, none⟩ = some (.pointer (some ⟨bp', 0, none⟩)) ∧ w'.cell? ⟨c, 12, none⟩ = some (.int .i64 root) ∧ w'.cell? ⟨c, 13, none⟩ = some (.int .i64 lone)) (first | exact ⟨e1, e2, e3, e4, e5, e6⟩ | exact ⟨f1, f2, f3, f4, f5, f6⟩) (first | (go_at_call 153; refine hS.mono ?_; rintro e w' ⟨rfl, hk⟩; obtain ⟨f1, f2, f3, f4, f5, f6⟩ := HC.out _ (HKD.out.trans hk (fun _ _ h => h)); have HK := Lib.hid (HKD.out.trans hk (fun _ _ h => h)); clear hk))
  all_goals
    go_wp2
    go_ret
    exact ⟨rfl, HK.out⟩

end Go.Proofs.YtipelclohcdkcaaGreat
