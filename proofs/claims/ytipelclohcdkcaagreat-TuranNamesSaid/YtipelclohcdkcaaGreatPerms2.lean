/- The contracts of package perm: names of orbits; a permutation is made. -/
import Derived.Test.YtipelclohcdkcaaGreatRep
namespace Go.Proofs.YtipelclohcdkcaaGreat
open Go.RowKit

set_option maxRecDepth 100000 in
set_option maxHeartbeats 4000000 in
theorem permNames_any (b : Nat) (sv : Value) (s : List Nat) (w : World) (hp : PermAt w b sv s) (hP : IsP s.length (sg s)) (hl : s.length ≤ 1000000) :
    Calls Tryz.prog 203 #[.pointer (some ⟨b, 0, none⟩)] w fun e w' => ∃ g, e = .returned (.slice (some ⟨g, 0, none⟩) s.length s.length) ∧ MadeS w g s.length (fun zs => zs = nats ((List.range s.length).map (vnum (sg s)))) w' := by
  have HS : Hid (∀ W, Keeps (fun _ => False) w W → PermAt W b sv s) := Lib.hid (fun W hk => hp.keeps hk (fun h => h) (fun _ _ h => h))
  have k0 := (Keeps.refl (fun _ => False) w).alloc (.cells #[.int .i64 (-1)] 3)
  have hx := (own_one w (-1)).sl
  have hL := permLen_any b sv s _ (HS.out _ k0)
  have hR := repeat_any (.slice (some ⟨w.heap.size, 0, none⟩) 1 1) (-1) s.length _ hx (by omega)
  have HP := Lib.hid hP
  have HK0 := Lib.hid k0
  clear hP hp k0 hx
  go_enter Tryz.func203, Tryz.ntmps203
  go_wp2_with fail
  refine hL.mono ?_
  rintro e w1 ⟨rfl, rfl⟩
  go_wp2_with fail
  refine hR.mono ?_
  rintro e w1 ⟨g, rfl, hM⟩
  have h1 : MadeS w g s.length (NmI s 0) w1 := by
    obtain ⟨zs, h1, h2, h3, h4⟩ := hM
    refine ⟨zs, h1, fun x hx => ?_, h3.mono (fun k hk => by have := (h3.lt k hk).1; simp at this; omega), HK0.out.trans h4 (fun _ _ h => h)⟩
    rw [if_neg (by omega), h2, List.getElem?_replicate, if_pos hx]
  clear hL hR hM
  go_wp2_with fail
  go_loopg [4, 14] s.length (fun m c i wr => ∃ j : Nat, j ≤ s.length ∧ m = s.length - j ∧ i = .int .i64 j ∧ c = .int .i64 (ldr (sg s) j : Nat) ∧ MadeS w g s.length (NmI s j) wr)
  case atStart => exact ⟨0, Nat.zero_le _, rfl, rfl, rfl, h1⟩
  case round =>
    clear h1
    obtain ⟨j, hj, hgk, rfl, rfl, hM⟩ := hrel
    have HG := Lib.hid hgk
    clear hgk
    have hld := ldr_le (sg s) j
    have hls := ldr_succ (sg s) j
    by_cases hlt : j < s.length
    · obtain ⟨z, ⟨zs, hzl, hzP, hzz⟩, hc, hf⟩ := hM.cell j hlt
      obtain ⟨_, _, _, _, hkw⟩ := id hM
      rcases NmI.at HP.out hlt hzP hzz with ⟨hr, rfl⟩ | ⟨hr, hz⟩
      · rw [if_pos hr] at hls
        have hO := permOrbit_any b sv s j wr (HS.out wr hkw) HP.out hlt hl
        have HM := Lib.hid (And.intro hM (And.intro hr hls))
        generalize hcc : ldr (sg s) j = c at *
        have HC := Lib.hid hcc
        clear hM hr hls hzP hzz hzl hcc
        have tneg : decide ((0 : Int) ≤ -1) = false := by decide
        go_wp2_with fail
        refine hO.mono ?_
        rintro e w3 ⟨ov, rfl, hown, hk3⟩
        have hpl : (nats (orb (sg s) j)).length = per (sg s) j := by rw [nats_len, orb_length]
        have hfo := hown.form
        rw [hpl] at hfo
        obtain ⟨oa, oc, rfl, _, hoc⟩ := hfo
        have hg3 : g < wr.heap.size := HM.out.1.old.2
        have HOw : Hid (∀ W, Keeps (fun q => q = g) w3 W → Sl .i64 W (.slice oa (per (sg s) j) oc) (nats (orb (sg s) j))) := Lib.hid (fun W hk => (hown.keeps hk (fun q hq e => by have := (hown.lt q hq).1; omega)).sl)
        have hM3 : MadeS w g s.length (NmK s j 0) w3 := (HM.out.1.keeps hk3).mono (fun zs _ h => NmK.zero h)
        have hk33 := Keeps.refl (fun q => q = g) w3
        have hppn : per (sg s) j ≤ 1000000 := Nat.le_trans (HP.out.per_spec hlt).2.1 hl
        clear hO hown hpl hc hf hkw
        go_wp2_with fail
        go_loopg [26] (per (sg s) j) (fun m i wr => ∃ k : Nat, k ≤ per (sg s) j ∧ m = per (sg s) j - k ∧ i = .int .i64 k ∧ MadeS w g s.length (NmK s j k) wr ∧ Keeps (fun q => q = g) w3 wr)
        case atStart => exact ⟨0, Nat.zero_le _, rfl, rfl, hM3, hk33⟩
        case round =>
          clear hM3 hk33
          obtain ⟨k, hk, hgk, rfl, hM4, hk4⟩ := hrel
          have HG4 := Lib.hid hgk
          clear hgk
          by_cases hkl : k < per (sg s) j
          · have hox := orb_get (S := sg s) (d := j) hkl
            have hxn := HP.out.itr_lt hlt k
            obtain ⟨og, oo, rfl, hcell⟩ := (HOw.out _ hk4).cellAt (nats_get hox)
            obtain ⟨z, _, hc4, hf4⟩ := hM4.cell _ hxn
            have hN := hM4.set (Q := NmK s j (k + 1)) (itr (sg s) k j) ((ldr (sg s) j : Nat) : Int) (fun zs hzl h => NmK.step HP.out hlt HM.out.2.1 hox hzl h)
            have hkN := hk4.setCell (p := ⟨g, itr (sg s) k j, none⟩) (.inl rfl) (.int .i64 ((ldr (sg s) j : Nat) : Int))
            rw [show ldr (sg s) j = c from HC.out] at hN hkN
            have HN := Lib.hid (And.intro hN hkN)
            clear hN hkN hM4 hk4 hox
            generalize itr (sg s) k j = x at *
            go_wp2
            go_roundg (per (sg s) j - (k + 1))
            case measure => rw [HG4.out]; omega
            case rel => exact ⟨k + 1, by omega, rfl, by go_num, HN.out⟩
          · obtain rfl : k = per (sg s) j := by omega
            have HF := Lib.hid (hM4.mono (fun zs _ h => NmK.done HP.out hlt HM.out.2.1 h))
            clear hM4 hk4
            go_wp2
            go_roundg (s.length - (j + 1))
            case measure => rw [HG.out]; omega
            case rel => exact ⟨j + 1, by omega, rfl, by go_num, by rw [HM.out.2.2]; go_num, HF.out⟩
      · rw [if_neg hr] at hls
        have HF := Lib.hid (And.intro (hM.mono (fun zs _ h => NmI.skip HP.out hr h)) hls)
        clear hM hr hls hzP hzz hzl hkw
        generalize ldr (sg s) j = c at *
        go_wp2
        go_roundg (s.length - (j + 1))
        case measure => rw [HG.out]; omega
        case rel => exact ⟨j + 1, by omega, rfl, by go_num, by rw [HF.out.2]; go_num, HF.out.1⟩
    · obtain rfl : j = s.length := by omega
      have HF := Lib.hid (hM.mono (fun zs hzl h => NmI.all HP.out hzl h))
      clear hM
      go_wp2
      go_ret
      exact ⟨g, rfl, HF.out⟩

theorem infoBool : (Tryz.prog.info? 4).map (fun i => (i.zero, i.size, i.bytes)) = some (some (.bool false), 1, 1) := by kernel_rfl

/-- A row of n marks at block g: of just those numbers that have P. -/
def SeenS (w : World) (g n : Nat) (P : Nat → Prop) (wr : World) : Prop :=
  ∃ bs : List Bool, bs.length = n ∧ (∀ x, x < n → (bs[x]? = some true ∧ P x) ∨ (bs[x]? = some false ∧ ¬ P x)) ∧ wr.heap[g]? = some (.cells (bs.map Value.bool).toArray 4 (0, 0)) ∧ w.heap.size ≤ g ∧ Keeps (fun _ => False) w wr

theorem SeenS.made (w : World) (n : Nat) {P : Nat → Prop} (hP : ∀ x, x < n → ¬ P x) : SeenS w w.heap.size n P (w.alloc (.cells (madeCells #[.bool false] n) 4)) := by
  have hc : madeCells #[.bool false] n = ((List.replicate n false).map Value.bool).toArray := by
    apply Array.toList_inj.1
    rw [toList_madeCells_one]; simp
  refine ⟨List.replicate n false, by simp, fun x hx => .inr ⟨by simp [hx], hP x hx⟩, ?_, Nat.le_refl _, (Keeps.refl _ w).alloc _⟩
  rw [← hc]; exact heap_alloc_new w _

theorem SeenS.cell {w wr : World} {g n : Nat} {P : Nat → Prop} (h : SeenS w g n P wr) {x : Nat} (hx : x < n) : ∃ t : Bool, (t = true ↔ P x) ∧ wr.cell? ⟨g, x, none⟩ = some (.bool t) ∧ wr.frozen? ⟨g, x, none⟩ = false := by
  obtain ⟨bs, h1, h2, h3, _⟩ := h
  have hc := World.cell_of_heap h3 x
  have hf := World.free_of_heap h3 x
  rcases h2 x hx with ⟨a, b⟩ | ⟨a, b⟩
  · exact ⟨true, by simp [b], by rw [hc]; simp [a], hf⟩
  · exact ⟨false, by simp [b], by rw [hc]; simp [a], hf⟩

theorem SeenS.set {w wr : World} {g n : Nat} {P Q : Nat → Prop} (h : SeenS w g n P wr) {x : Nat} (hx : x < n) (hQ : ∀ y, y < n → (Q y ↔ P y ∨ y = x)) : SeenS w g n Q (wr.setCell ⟨g, x, none⟩ (.bool true)) := by
  obtain ⟨bs, h1, h2, h3, h4, h5⟩ := h
  refine ⟨bs.set x true, by simpa using h1, fun y hy => ?_, ?_, h4, h5.setCell (.inr h4) _⟩
  · rw [List.getElem?_set]
    by_cases hxy : x = y
    · subst hxy
      left
      rw [if_pos rfl, if_pos (by omega)]
      exact ⟨rfl, (hQ x hx).2 (.inr rfl)⟩
    · rw [if_neg hxy]
      rcases h2 y hy with ⟨a, b⟩ | ⟨a, b⟩
      · exact .inl ⟨a, (hQ y hy).2 (.inl b)⟩
      · exact .inr ⟨a, fun hq => by rcases (hQ y hy).1 hq with c | c; exact b c; exact hxy c.symm⟩
  · rw [heap_setCell_same h3 x (.bool true)]
    simp [List.map_set]

set_option maxRecDepth 100000 in
set_option maxHeartbeats 2000000 in
theorem permOf_any (lv : Value) (s : List Nat) (w : World) (hs : Sl .i64 w lv (nats s)) (hP : IsP s.length (sg s)) (hl : s.length ≤ 1000000) :
    Calls Tryz.prog 135 #[lv] w fun e w' => ∃ b sv, e = .returned (.tuple #[.pointer (some ⟨b, 0, none⟩), .int .i64 0]) ∧ PermAt w' b sv s ∧ w.heap.size ≤ b ∧ (∀ k, sv.ownBlock = some k → w.heap.size ≤ k) ∧ Keeps (fun _ => False) w w' := by
  have HS : Hid (∀ W, Keeps (fun _ => False) w W → Sl .i64 W lv (nats s)) := Lib.hid (fun W hk => hs.keeps hk (fun _ _ h => h))
  obtain ⟨a, cap, rfl, hnc, hcm⟩ := hs.form
  rw [nats_len] at hnc HS ⊢
  have h0 := SeenS.made w s.length (P := fun x => ∃ i, i < 0 ∧ sg s i = x) (fun x _ ⟨i, hi, _⟩ => by omega)
  have HP := Lib.hid hP
  obtain ⟨i, hi, hz0, hz1, hz2⟩ := info_parts infoBool
  have hmk := fun w => run_make (P := Tryz.prog) w 184 4 i _ Tryz.underlying184 hi hz0 .i64 .i64 (s.length : Int) (s.length : Int) (by omega) (Int.le_refl _) (by rw [hz2]; omega) (by omega)
  simp only [hz1, Int.toNat_natCast, Nat.mul_one] at hmk
  clear hP hs hi hz0 hz1 hz2
  go_enter Tryz.func135, Tryz.ntmps135
  go_wp2_with fail
  clear hmk
  generalize World.alloc _ _ = wM at *
  obtain ⟨g, hg⟩ : ∃ g, g = w.heap.size := ⟨_, rfl⟩
  rw [← hg] at h0
  rw [← hg]
  clear hg
  go_loopg [12] s.length (fun m i wr => ∃ j : Nat, j ≤ s.length ∧ m = s.length - j ∧ i = .int .i64 j ∧ SeenS w g s.length (fun x => ∃ i, i < j ∧ sg s i = x) wr)
  case atStart => exact ⟨0, Nat.zero_le _, rfl, rfl, h0⟩
  case round =>
    clear h0
    obtain ⟨j, hj, hgk, rfl, hM⟩ := hrel
    have HG := Lib.hid hgk
    clear hgk
    by_cases hlt : j < s.length
    · obtain ⟨_, _, _, _, _, hkw⟩ := id hM
      obtain ⟨gs, off, rfl, hcell⟩ := (HS.out wr hkw).cellAt (nats_at hlt)
      have hxl : sg s j < s.length := HP.out.lt j hlt
      obtain ⟨t, ht, hc, hf⟩ := hM.cell hxl
      have htf : t = false := by
        cases t with
        | false => rfl
        | true =>
          obtain ⟨i, hij, hix⟩ := ht.1 rfl
          have := HP.out.inj i j (by omega) hlt hix
          omega
      subst htf
      have hN := hM.set (Q := fun x => ∃ i, i < j + 1 ∧ sg s i = x) hxl (fun y hy => ⟨fun ⟨i, h1, h2⟩ => by
        rcases Nat.lt_or_ge i j with h3 | h3
        · exact .inl ⟨i, h3, h2⟩
        · obtain rfl : i = j := by omega
          exact .inr h2.symm, fun h => by
        rcases h with ⟨i, h1, h2⟩ | h
        · exact ⟨i, by omega, h2⟩
        · exact ⟨j, by omega, h.symm⟩⟩)
      have HN := Lib.hid hN
      have d1 : decide (((sg s j : Nat) : Int) < 0) = false := decide_eq_false (by omega)
      have d2 : decide (s.length ≤ sg s j) = false := decide_eq_false (by omega)
      clear hN hM hkw ht
      generalize sg s j = x at *
      go_wp2
      go_roundg (s.length - (j + 1))
      case measure => rw [HG.out]; omega
      case rel => exact ⟨j + 1, by omega, rfl, by go_num, HN.out⟩
    · obtain rfl : j = s.length := by omega
      obtain ⟨_, _, _, _, _, hkw⟩ := id hM
      have hC := clone_any _ (nats s) wr (HS.out wr hkw) (by rw [nats_len]; omega)
      have HK := Lib.hid hkw
      clear hM hkw
      go_wp2_with fail
      refine hC.mono ?_
      rintro e w3 ⟨v, rfl, hown, hk3⟩
      obtain ⟨va, vc, rfl, _, _⟩ := hown.form
      rw [nats_len] at hown ⊢
      obtain ⟨v, hv⟩ : ∃ v, v = Value.slice va s.length vc := ⟨_, rfl⟩
      rw [← hv] at hown
      have HV := Lib.hid hv
      clear hv
      have k4 := (Keeps.refl (fun _ => False) w3).alloc (.cells #[v, .int .u32 0, .int .i32 0, .int .u32 0, .slice none 0 0] 210)
      have hb := heap_alloc_new w3 (.cells #[v, .int .u32 0, .int .i32 0, .int .u32 0, .slice none 0 0] 210)
      have hPA : PermAt (w3.alloc (.cells #[v, .int .u32 0, .int .i32 0, .int .u32 0, .slice none 0 0] 210)) w3.heap.size v s := ⟨⟨_, _, _, _, hb⟩, (hown.keeps k4 (fun _ _ h => h)).sl, fun k hk => by have := (hown.lt k hk).2; simp; omega⟩
      have hfin := (HK.out.trans hk3 (fun _ _ h => h)).trans k4 (fun _ _ h => h)
      have hsz := HK.out.size
      have hsz3 := hk3.size
      have HF := Lib.hid (And.intro hPA (And.intro (show w.heap.size ≤ w3.heap.size by omega) (And.intro (show ∀ k, v.ownBlock = some k → w.heap.size ≤ k from fun k hk => by have := (hown.lt k hk).1; omega) hfin)))
      clear hC hown hk3 k4 hb hPA hfin
      rw [HV.out] at HF
      go_wp2
      go_ret2
      exact ⟨_, _, rfl, HF.out⟩

theorem permSame_eq (b c : Nat) (sv tv : Value) (s : List Nat) (w : World) (h : PermAt w b sv s) (k : PermAt w c tv s) (hl : s.length ≤ 100000) :
    Calls Tryz.prog 153 #[.pointer (some ⟨b, 0, none⟩), .pointer (some ⟨c, 0, none⟩)] w fun e w' => e = .returned (.bool true) ∧ Keeps (fun _ => False) w w' := by
  have h1 := permList_any b sv s w h (by omega)
  have HK := Lib.hid (fun W hk => k.keeps (F := fun _ => False) (w' := W) hk (fun h => h) (fun _ _ h => h))
  clear h k
  go_enter Tryz.func153, Tryz.ntmps153
  go_wp2_with fail
  refine h1.mono ?_
  rintro e w1 ⟨v1, rfl, ho1, hk1⟩
  have h2 := permList_any c tv s w1 (HK.out w1 hk1) (by omega)
  have H1 := Lib.hid (And.intro ho1 hk1)
  clear h1 ho1 hk1
  go_wp2_with fail
  refine h2.mono ?_
  rintro e w2 ⟨v2, rfl, ho2, hk2⟩
  have hE := equal_same v1 v2 (nats s) w2 (H1.out.1.keeps hk2 (fun _ _ h => h)).sl ho2.sl (by rw [nats_len]; exact hl)
  have H2 := Lib.hid hk2
  clear h2 ho2 hk2
  go_wp2_with fail
  refine hE.mono ?_
  rintro e w3 ⟨rfl, hk3⟩
  have HF := Lib.hid ((H1.out.2.trans H2.out (fun _ _ h => h)).trans hk3 (fun _ _ h => h))
  clear hE hk3
  go_wp2
  go_ret
  exact ⟨rfl, HF.out⟩

end Go.Proofs.YtipelclohcdkcaaGreat
