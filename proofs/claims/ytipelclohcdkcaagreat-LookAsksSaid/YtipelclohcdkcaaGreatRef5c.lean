/- The references of layers 5, 6: names of orbits, the darts along faces. -/
import Derived.Test.YtipelclohcdkcaaGreatRef5b
namespace Go.Proofs.YtipelclohcdkcaaGreat
open Go.RowKit

def NmI (s : List Nat) (i : Nat) (zs : List Int) : Prop := ∀ x, x < s.length → zs[x]? = some (if rep (sg s) x < i then ((vnum (sg s) x : Nat) : Int) else -1)
def NmK (s : List Nat) (i k : Nat) (zs : List Int) : Prop := ∀ x, x < s.length → zs[x]? = some (if rep (sg s) x < i then ((vnum (sg s) x : Nat) : Int) else if x ∈ (orb (sg s) i).take k then ((ldr (sg s) i : Nat) : Int) else -1)

theorem NmK.zero {s : List Nat} {i : Nat} {zs : List Int} (h : NmI s i zs) : NmK s i 0 zs := fun x hx => by rw [h x hx]; simp
theorem NmK.step {s : List Nat} {i k x : Nat} {zs : List Int} (hP : IsP s.length (sg s)) (hi : i < s.length) (hr : rep (sg s) i = i) (hx : (orb (sg s) i)[k]? = some x) (hl : zs.length = s.length) (h : NmK s i k zs) : NmK s i (k + 1) (zs.set x ((ldr (sg s) i : Nat) : Int)) := by
  have hxo : x ∈ orb (sg s) i := List.mem_of_getElem? hx
  have hxn : x < s.length := hP.sameO_lt hi ((hP.mem_orb hi).1 hxo)
  intro y hy
  rw [List.getElem?_set, take_get hx]
  have h1 := (hP.mark_step hi hxn hr).2 hxo
  by_cases hxy : x = y
  · subst hxy
    rw [if_pos rfl, if_pos (by omega), if_neg h1.2, if_pos (by simp)]
  · rw [if_neg hxy, h y hy]
    have : (y ∈ (orb (sg s) i).take k ++ [x]) ↔ y ∈ (orb (sg s) i).take k := by
      simp only [List.mem_append, List.mem_singleton]
      exact ⟨fun h => h.resolve_right (fun e => hxy e.symm), .inl⟩
    simp only [this]
theorem NmK.done {s : List Nat} {i : Nat} {zs : List Int} (hP : IsP s.length (sg s)) (hi : i < s.length) (hr : rep (sg s) i = i) (h : NmK s i (per (sg s) i) zs) : NmI s (i + 1) zs := by
  intro y hy
  rw [h y hy, List.take_of_length_le (by rw [orb_length]; exact Nat.le_refl _)]
  obtain ⟨h1, h2⟩ := hP.mark_step hi hy hr
  by_cases a : rep (sg s) y < i
  · rw [if_pos a, if_pos (by omega)]
  · rw [if_neg a]
    by_cases b : y ∈ orb (sg s) i
    · rw [if_pos b, if_pos (h1.2 (.inr b)), (h2 b).1]
    · rw [if_neg b, if_neg (fun e => (h1.1 e).elim a b)]
theorem NmI.skip {s : List Nat} {i : Nat} {zs : List Int} (hP : IsP s.length (sg s)) (hr : rep (sg s) i ≠ i) (h : NmI s i zs) : NmI s (i + 1) zs := by
  intro y hy
  rw [h y hy]
  have := hP.mark_skip (i := i) hy hr
  by_cases a : rep (sg s) y < i
  · rw [if_pos a, if_pos (this.2 a)]
  · rw [if_neg a, if_neg (fun e => a (this.1 e))]
theorem NmI.all {s : List Nat} {zs : List Int} (hP : IsP s.length (sg s)) (hl : zs.length = s.length) (h : NmI s s.length zs) : zs = nats ((List.range s.length).map (vnum (sg s))) := by
  apply List.ext_getElem?
  intro e
  rcases Nat.lt_or_ge e s.length with he | he
  · rw [h e he, if_pos (hP.rep_lt he)]
    simp [nats, he]
  · rw [List.getElem?_eq_none (by omega), List.getElem?_eq_none (by simp [nats]; exact he)]
theorem NmI.at {s : List Nat} {i : Nat} {zs : List Int} {z : Int} (hP : IsP s.length (sg s)) (hi : i < s.length) (h : NmI s i zs) (hz : zs[i]? = some z) : (rep (sg s) i = i ∧ z = -1) ∨ (rep (sg s) i ≠ i ∧ 0 ≤ z) := by
  rw [h i hi] at hz
  have hle := hP.rep_self_le hi
  simp only [Option.some.injEq] at hz
  by_cases a : rep (sg s) i < i
  · rw [if_pos a] at hz; exact .inr ⟨by omega, by omega⟩
  · rw [if_neg a] at hz; exact .inl ⟨by omega, hz.symm⟩

set_option maxRecDepth 100000 in
set_option maxHeartbeats 4000000 in
theorem refNames05_any (sv : Value) (s : List Nat) (w : World) (hs : Sl .i64 w sv (nats s)) (hsv : ∀ k, sv.ownBlock = some k → k < w.heap.size) (hP : IsP s.length (sg s)) (hl : s.length ≤ 1000000) :
    Calls Tryz.prog 189 #[sv] w fun e w' => ∃ g, e = .returned (.slice (some ⟨g, 0, none⟩) s.length s.length) ∧ MadeS w g s.length (fun zs => zs = nats ((List.range s.length).map (vnum (sg s)))) w' := by
  have HS : Hid (∀ W, Keeps (fun _ => False) w W → Sl .i64 W sv (nats s)) := Lib.hid (fun W hk => hs.keeps hk (fun _ _ h => h))
  obtain ⟨a, cap, rfl, hnc, hcm⟩ := hs.form
  rw [nats_len] at hnc HS hsv ⊢
  have h0 := MadeS.made w s.length (fun zs => ∀ i, i < 0 → zs[i]? = some (-1)) (fun i hi => by omega) (by omega)
  have HP := Lib.hid hP
  obtain ⟨i, hi, hz0, hz1, hz2⟩ := info_parts infoInt
  have hmk := fun w => run_make (P := Tryz.prog) w 22 3 i _ Tryz.underlying22 hi hz0 .i64 .i64 (s.length : Int) (s.length : Int) (by omega) (Int.le_refl _) (by rw [hz2]; omega) (by omega)
  simp only [hz1, Int.toNat_natCast, Nat.mul_one] at hmk
  clear hP hs hi hz0 hz1 hz2
  go_enter Tryz.func189, Tryz.ntmps189
  go_wp2_with fail
  clear hmk
  generalize World.alloc _ _ = wM at *
  obtain ⟨g, hg⟩ : ∃ g, g = w.heap.size := ⟨_, rfl⟩
  rw [← hg] at h0
  rw [← hg]
  have HGG := Lib.hid hg
  clear hg
  go_loopg [14] s.length (fun m i wr => ∃ j : Nat, j ≤ s.length ∧ m = s.length - j ∧ i = .int .i64 j ∧ MadeS w g s.length (fun zs => ∀ i, i < j → zs[i]? = some (-1)) wr)
  case atStart => exact ⟨0, Nat.zero_le _, rfl, rfl, h0⟩
  case round =>
    clear h0
    obtain ⟨j, hj, hgk, rfl, hM⟩ := hrel
    have HG := Lib.hid hgk
    clear hgk
    by_cases hlt : j < s.length
    · obtain ⟨z, _, hc, hf⟩ := hM.cell j hlt
      have HN := Lib.hid (hM.set (Q := fun zs => ∀ i, i < j + 1 → zs[i]? = some (-1)) j (-1) (fun zs hzl h i hi => by
        rw [List.getElem?_set]
        by_cases hij : j = i
        · rw [if_pos hij, if_pos (by omega)]
        · rw [if_neg hij]; exact h i (by omega)))
      clear hM
      go_wp2
      go_roundg (s.length - (j + 1))
      case measure => rw [HG.out]; omega
      case rel => exact ⟨j + 1, by omega, rfl, by go_num, HN.out⟩
    · obtain rfl : j = s.length := by omega
      have h1 : MadeS w g s.length (NmI s 0) wr := hM.mono (fun zs _ h x hx => by rw [if_neg (by omega)]; exact h x hx)
      clear hM hlt hj
      go_wp2_with fail
      go_loopg [5, 23] s.length (fun m c i wr => ∃ j : Nat, j ≤ s.length ∧ m = s.length - j ∧ i = .int .i64 j ∧ c = .int .i64 (ldr (sg s) j : Nat) ∧ MadeS w g s.length (NmI s j) wr)
      case atStart => exact ⟨0, Nat.zero_le _, rfl, rfl, rfl, h1⟩
      case round =>
        clear h1 HG
        obtain ⟨j, hj, hgk, rfl, rfl, hM⟩ := hrel
        have HG := Lib.hid hgk
        clear hgk
        have hld := ldr_le (sg s) j
        have hls := ldr_succ (sg s) j
        by_cases hlt : j < s.length
        · obtain ⟨z, ⟨zs, hzl, hzP, hzz⟩, hc, hf⟩ := hM.cell j hlt
          obtain ⟨_, _, _, _, hkw⟩ := id hM
          rcases NmI.at HP.out hlt hzP hzz with ⟨hr, rfl⟩ | ⟨hr, hz⟩
          · rw [if_pos hr] at hls
            have hO := refOrbit_any (.slice a s.length cap) s j wr (HS.out wr hkw) HP.out hlt hl
            have HM := Lib.hid (And.intro hM (And.intro hr hls))
            generalize hcc : ldr (sg s) j = c at *
            have HC := Lib.hid hcc
            clear hM hr hls hzP hzz hzl hcc
            have tneg : decide ((0 : Int) ≤ -1) = false := by decide
            go_wp2_with fail
            refine hO.mono ?_
            rintro e w3 ⟨ov, rfl, hown, hk3⟩
            have hpl : (nats (orb (sg s) j)).length = per (sg s) j := by rw [nats_len, orb_length]
            have hfo := hown.form
            rw [hpl] at hfo
            obtain ⟨oa, oc, rfl, _, hoc⟩ := hfo
            have hg3 : g < wr.heap.size := HM.out.1.old.2
            have HOw : Hid (∀ W, Keeps (fun q => q = g) w3 W → Sl .i64 W (.slice oa (per (sg s) j) oc) (nats (orb (sg s) j))) := Lib.hid (fun W hk => (hown.keeps hk (fun q hq e => by have := (hown.lt q hq).1; omega)).sl)
            have hM3 : MadeS w g s.length (NmK s j 0) w3 := (HM.out.1.keeps hk3).mono (fun zs _ h => NmK.zero h)
            have hk33 := Keeps.refl (fun q => q = g) w3
            have hppn : per (sg s) j ≤ 1000000 := Nat.le_trans (HP.out.per_spec hlt).2.1 hl
            clear hO hown hpl hc hf hkw
            go_wp2_with fail
            go_loopg [35] (per (sg s) j) (fun m i wr => ∃ k : Nat, k ≤ per (sg s) j ∧ m = per (sg s) j - k ∧ i = .int .i64 k ∧ MadeS w g s.length (NmK s j k) wr ∧ Keeps (fun q => q = g) w3 wr)
            case atStart => exact ⟨0, Nat.zero_le _, rfl, rfl, hM3, hk33⟩
            case round =>
              clear hM3 hk33
              obtain ⟨k, hk, hgk, rfl, hM4, hk4⟩ := hrel
              have HG4 := Lib.hid hgk
              clear hgk
              by_cases hkl : k < per (sg s) j
              · have hox := orb_get (S := sg s) (d := j) hkl
                have hxn := HP.out.itr_lt hlt k
                obtain ⟨og, oo, rfl, hcell⟩ := (HOw.out _ hk4).cellAt (nats_get hox)
                obtain ⟨z, _, hc4, hf4⟩ := hM4.cell _ hxn
                have hN := hM4.set (Q := NmK s j (k + 1)) (itr (sg s) k j) ((ldr (sg s) j : Nat) : Int) (fun zs hzl h => NmK.step HP.out hlt HM.out.2.1 hox hzl h)
                have hkN := hk4.setCell (p := ⟨g, itr (sg s) k j, none⟩) (.inl rfl) (.int .i64 ((ldr (sg s) j : Nat) : Int))
                rw [show ldr (sg s) j = c from HC.out] at hN hkN
                have HN := Lib.hid (And.intro hN hkN)
                clear hN hkN hM4 hk4 hox
                generalize itr (sg s) k j = x at *
                go_wp2
                go_roundg (per (sg s) j - (k + 1))
                case measure => rw [HG4.out]; omega
                case rel => exact ⟨k + 1, by omega, rfl, by go_num, HN.out⟩
              · obtain rfl : k = per (sg s) j := by omega
                have HF := Lib.hid (hM4.mono (fun zs _ h => NmK.done HP.out hlt HM.out.2.1 h))
                clear hM4 hk4
                go_wp2
                go_roundg (s.length - (j + 1))
                case measure => rw [HG.out]; omega
                case rel => exact ⟨j + 1, by omega, rfl, by go_num, by rw [HM.out.2.2]; go_num, HF.out⟩
          · rw [if_neg hr] at hls
            have HF := Lib.hid (And.intro (hM.mono (fun zs _ h => NmI.skip HP.out hr h)) hls)
            clear hM hr hls hzP hzz hzl hkw
            generalize ldr (sg s) j = c at *
            go_wp2
            go_roundg (s.length - (j + 1))
            case measure => rw [HG.out]; omega
            case rel => exact ⟨j + 1, by omega, rfl, by go_num, by rw [HF.out.2]; go_num, HF.out.1⟩
        · obtain rfl : j = s.length := by omega
          have HF := Lib.hid (hM.mono (fun zs hzl h => NmI.all HP.out hzl h))
          clear hM
          go_wp2
          go_ret
          exact ⟨g, rfl, HF.out⟩

end Go.Proofs.YtipelclohcdkcaaGreat
