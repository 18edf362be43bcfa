/- The references of layers 5, 6: orbits, names, inverses, mates. -/
import Derived.Test.YtipelclohcdkcaaGreatNil
import Derived.Test.YtipelclohcdkcaaGreatDfsW
namespace Go.Proofs.YtipelclohcdkcaaGreat
open Go.RowKit

/-- A list as what it takes numbers to. -/
def sg (s : List Nat) (d : Nat) : Nat := s.getD d 0
theorem sg_get {s : List Nat} {d : Nat} (h : d < s.length) : s[d]? = some (sg s d) := by
  rw [sg, List.getD_eq_getElem?_getD, List.getElem?_eq_getElem h]; rfl

/-- The first so many of an orbit. -/
def orbK (S : Nat → Nat) (d k : Nat) : List Nat := (List.range k).map fun i => itr S i d
theorem orbK_succ (S : Nat → Nat) (d k : Nat) : orbK S d (k + 1) = orbK S d k ++ [itr S k d] := by simp [orbK, List.range_succ]
theorem orbK_length (S : Nat → Nat) (d k : Nat) : (orbK S d k).length = k := by simp [orbK]
theorem nats_snoc (l : List Nat) (x : Nat) : nats (l ++ [x]) = nats l ++ [(x : Int)] := by simp [nats]

theorem own_one (w : World) (z : Int) : OwnI w.heap.size (w.alloc (.cells #[.int .i64 z] 3)) (.slice (some ⟨w.heap.size, 0, none⟩) 1 1) [z] := by
  have h1 := World.ownsRow_lit (base := w.heap.size) (e := 3) (size := 1) w #[.int .i64 z] 1 (Nat.le_refl _) (by unfold maxLen; omega) rfl
  exact h1

set_option maxRecDepth 100000 in
set_option maxHeartbeats 2000000 in
theorem refOrbit_any (sv : Value) (s : List Nat) (d : Nat) (w : World) (hs : Sl .i64 w sv (nats s)) (hP : IsP s.length (sg s)) (hd : d < s.length) (hl : s.length ≤ 1000000) :
    Calls Tryz.prog 181 #[sv, .int .i64 d] w fun e w' => ∃ v, e = .returned v ∧ OwnI w.heap.size w' v (nats (orb (sg s) d)) ∧ Keeps (fun _ => False) w w' := by
  have HS : Hid (∀ W, Keeps (fun _ => False) w W → Sl .i64 W sv (nats s)) := Lib.hid (fun W hk => hs.keeps hk (fun _ _ h => h))
  obtain ⟨a, cap, rfl, hnc, hcm, _, hc⟩ := hs
  rw [nats_len] at hnc HS ⊢
  obtain ⟨p1, p2, p3, p4⟩ := hP.per_spec hd
  obtain ⟨g, off, rfl, hcell⟩ := hc d _ (nats_get (sg_get hd))
  have hgw := World.block_lt_of_cell? _ _ hcell
  have HP := Lib.hid (And.intro hP (And.intro p3 p4))
  have h0 : OwnI w.heap.size (w.alloc (.cells #[.int .i64 d] 3)) (.slice (some ⟨w.heap.size, 0, none⟩) 1 1) (nats (orbK (sg s) d 1)) ∧ Keeps (fun _ => False) w (w.alloc (.cells #[.int .i64 d] 3)) :=
    ⟨own_one w d, (Keeps.refl _ w).alloc _⟩
  have hcA := alloc_cell hcell (.cells #[.int .i64 d] 3)
  clear hc hP p3 p4 hcell
  go_enter Tryz.func181, Tryz.ntmps181
  go_wp2_with fail
  clear hcA
  generalize World.alloc _ _ = wM at *
  go_loopg [5, 6] (per (sg s) d) (fun m ov x wr => ∃ k : Nat, k + 1 ≤ per (sg s) d ∧ m = per (sg s) d - k ∧ x = .int .i64 (itr (sg s) (k + 1) d : Nat) ∧ OwnI w.heap.size wr ov (nats (orbK (sg s) d (k + 1))) ∧ Keeps (fun _ => False) w wr)
  case atStart => exact ⟨0, p1, rfl, rfl, h0⟩
  case round =>
    clear h0
    obtain ⟨k, hk, hgk, rfl, hown, hkw⟩ := hrel
    have HG := Lib.hid hgk
    clear hgk
    by_cases hlt : k + 1 < per (sg s) d
    · have hne := HP.out.2.2 (k + 1) (by omega) hlt
      have hxl := HP.out.1.itr_lt hd (k + 1)
      have hst := orbK_succ (sg s) d (k + 1)
      have hlen := orbK_length (sg s) d (k + 1)
      obtain ⟨a', cap', hsv', _, _, _, hc⟩ := HS.out wr hkw
      simp only [Value.slice.injEq] at hsv'
      obtain ⟨hq, -, rfl⟩ := hsv'
      subst hq
      obtain ⟨g', off', hgo, hcell⟩ := hc _ _ (nats_get (sg_get hxl))
      simp only [Option.some.injEq, Addr.mk.injEq, and_true] at hgo
      obtain ⟨rfl, rfl⟩ := hgo
      have hnext : sg s (itr (sg s) (k + 1) d) = itr (sg s) (k + 1 + 1) d := rfl
      rw [hnext] at hcell
      have hfo := hown.form
      rw [nats_len, hlen] at hfo
      obtain ⟨la, lc, rfl, _, _⟩ := hfo
      generalize hy : itr (sg s) (k + 1 + 1) d = y at *
      generalize hx : itr (sg s) (k + 1) d = x at *
      have hnb : (((x : Nat) : Int) != ((d : Nat) : Int)) = true := by rw [bne_iff_ne]; omega
      have HN : Hid ((nats (orbK (sg s) d (k + 1))).length = k + 1) := Lib.hid (by rw [nats_len]; exact hlen)
      have hsz := hkw.size
      have HH := Lib.hid (And.intro hx (And.intro hst hkw))
      have HY := Lib.hid hy
      have hkl : k + 1 ≤ 10000000000 := by omega
      clear hc hx hy hst hlen hkw hne hnext
      have HCL : Hid (∀ W, Keeps (fun q => (Value.slice la (k + 1) lc).ownBlock = some q) wr W → W.cell? ⟨g, off + x, none⟩ = some (.int .i64 y)) := Lib.hid (fun W hk => by
        rw [World.cell?_of_block (w := wr) (hk.block g (World.block_lt_of_cell? _ _ hcell) (fun e => by have := (hown.lt g e).1; omega))]
        exact hcell)
      clear hcell
      go_wp2_with (at_builtin; refine append1n (k + 1) rfl _ _ rfl w.heap.size (.slice la (k + 1) lc) (nats (orbK (sg s) d (k + 1))) (x : Nat) HN wr.heap.size rfl rfl rfl hown hkl hsz ?_; intro g2 cap2 w3 hown3 hk3 hat hg; have hcell3 := HCL.out w3 hk3)
      have hkf := HH.out.2.2.trans hk3 (fun y hy h => by have := (hown.lt y h).1; omega)
      rw [← nats_snoc] at hown3
      have hst := HH.out.2.1
      rw [← hst] at hown3
      have HF := Lib.hid (And.intro hown3 hkf)
      clear hown3 hkf hk3 hat hown hst hcell3
      go_roundg (per (sg s) d - (k + 1))
      case measure => rw [HG.out]; omega
      case rel => exact ⟨k + 1, by omega, rfl, by rw [HY.out], HF.out⟩
    · have hpe : k + 1 = per (sg s) d := by omega
      have hx : itr (sg s) (k + 1) d = d := by rw [hpe]; exact HP.out.2.1
      have ho : orbK (sg s) d (k + 1) = orb (sg s) d := by rw [hpe]; rfl
      rw [ho] at hown
      rw [hx]
      have HF := Lib.hid (And.intro hown hkw)
      clear hx ho hown hkw
      go_wp2
      go_ret
      exact ⟨_, rfl, HF.out⟩

end Go.Proofs.YtipelclohcdkcaaGreat
