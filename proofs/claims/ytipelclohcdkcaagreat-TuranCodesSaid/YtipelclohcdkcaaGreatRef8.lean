/- The references of layer 8: the parts' names. -/
import Derived.Test.YtipelclohcdkcaaGreatConn
import Derived.Deep.CutRange
namespace Go.Proofs.YtipelclohcdkcaaGreat
open Go.RowKit

/-- A map that lies boxed. -/
def BxM (bx : Nat) (sv : Value) (rt ln : Int) (wr : World) : Prop := wr.heap[bx]? = some (.cells #[sv, .int .i64 rt, .int .i64 ln] 72 (0, 0))
theorem BxM.keeps {bx : Nat} {sv : Value} {rt ln : Int} {wr w1 : World} {F : Nat → Prop} (h : BxM bx sv rt ln wr) (hk : Keeps F wr w1) (hF : ¬ F bx) : BxM bx sv rt ln w1 := hk.at h hF
theorem BxM.cell {bx : Nat} {sv : Value} {rt ln : Int} {wr : World} (h : BxM bx sv rt ln wr) : wr.cell? ⟨bx, 0, none⟩ = some sv := World.cell_of_heap h 0
theorem BxM.set {bx g : Nat} {sv : Value} {rt ln : Int} {wr : World} (h : BxM bx sv rt ln wr) (hg : g ≠ bx) (i : Nat) (u : Value) : BxM bx sv rt ln (wr.setCell ⟨g, i, none⟩ u) :=
  ((Keeps.refl (fun q => q = g) wr).setCell (p := ⟨g, i, none⟩) (.inl rfl) u).at h (fun e => hg e.symm)

theorem MadeS.made' {w wr : World} (hk : Keeps (fun _ => False) w wr) (n : Nat) (P : List Int → Prop) (hP : P (List.replicate n 0)) (hn : n ≤ 100000000) : MadeS w wr.heap.size n P (wr.alloc (.cells (madeCells #[.int .i64 0] n) 3)) :=
  ⟨_, by simp, hP, OwnI.made w.heap.size wr n hk.size hn, hk.alloc _⟩

theorem MadeS.keepsF {w wr w1 : World} {g n : Nat} {P : List Int → Prop} {F : Nat → Prop} (h : MadeS w g n P wr) (hk : Keeps F wr w1) (hg : ¬ F g) (hF : ∀ x, F x → w.heap.size ≤ x) : MadeS w g n P w1 := by
  obtain ⟨zs, h1, h2, h3, h4⟩ := h
  exact ⟨zs, h1, h2, h3.keeps hk (fun x hx e => by simp only [Value.ownBlock, Option.some.injEq] at hx; subst hx; exact hg e), h4.trans hk (fun x hx e => by have := hF x e; omega)⟩

/-- One pass over the darts, and the two neighbours of one. -/
structure PassS (n : Nat) (S : Nat → Nat) (nm0 : List Nat) (d k : Nat) (t : Bool) (nm : List Nat) : Prop where
  nmc : NmC n S nm
  same : t = false → nm = nm0 ∧ (∀ e, e < d → nm0.getD (S e) 0 = nm0.getD e 0 ∧ nm0.getD (mt e) 0 = nm0.getD e 0) ∧ (1 ≤ k → nm0.getD (S d) 0 = nm0.getD d 0) ∧ (2 ≤ k → nm0.getD (mt d) 0 = nm0.getD d 0)
  less : t = true → nm.sum < nm0.sum

theorem PassS.sum_le {n : Nat} {S : Nat → Nat} {nm0 nm : List Nat} {d k : Nat} {t : Bool} (h : PassS n S nm0 d k t nm) : nm.sum ≤ nm0.sum := by
  cases t
  · rw [(h.same rfl).1]; exact Nat.le_refl _
  · exact Nat.le_of_lt (h.less rfl)

theorem PassS.lower {n : Nat} {S : Nat → Nat} {nm0 nm : List Nat} {d k a v : Nat} {t : Bool} (h : PassS n S nm0 d k t nm) (ha : a < n) (hv : v < nm.getD a 0) (hc : Conn n S a v) : PassS n S nm0 d (k + 1) true (nm.set a v) := by
  obtain ⟨g1, g2, g3⟩ := h.nmc.get ha
  refine ⟨h.nmc.set ha (by omega) hc, (fun e => by cases e), fun _ => ?_⟩
  have := sum_set_lt g1 hv
  have := h.sum_le
  omega

theorem PassS.equal {n : Nat} {S : Nat → Nat} {nm0 nm : List Nat} {d k x : Nat} {t : Bool} (h : PassS n S nm0 d k t nm) (hx : (k = 0 ∧ x = S d) ∨ (k = 1 ∧ x = mt d)) (heq : nm.getD x 0 = nm.getD d 0) : PassS n S nm0 d (k + 1) t nm := by
  refine ⟨h.nmc, fun ht => ?_, h.less⟩
  obtain ⟨h1, h2, h3, h4⟩ := h.same ht
  subst h1
  refine ⟨rfl, h2, fun _ => ?_, fun hk => ?_⟩
  · rcases hx with ⟨rfl, rfl⟩ | ⟨rfl, rfl⟩
    · exact heq
    · exact h3 (by omega)
  · rcases hx with ⟨rfl, rfl⟩ | ⟨rfl, rfl⟩
    · omega
    · exact heq

theorem PassS.next {n : Nat} {S : Nat → Nat} {nm0 nm : List Nat} {d : Nat} {t : Bool} (h : PassS n S nm0 d 2 t nm) : PassS n S nm0 (d + 1) 0 t nm := by
  refine ⟨h.nmc, fun ht => ?_, h.less⟩
  obtain ⟨h1, h2, h3, h4⟩ := h.same ht
  refine ⟨h1, fun e he => ?_, fun hk => by omega, fun hk => by omega⟩
  by_cases hed : e = d
  · subst hed; exact ⟨h3 (by omega), h4 (by omega)⟩
  · exact h2 e (by omega)

/-- What the second half has laid. -/
def OutP (s : List Nat) (j : Nat) (zs : List Int) : Prop := ∀ i, i < j → zs[i]? = some ((cnum s.length (sg s) i : Nat) : Int)

theorem OutP.step {s : List Nat} {j : Nat} {zs : List Int} (hl : zs.length = s.length) (hj : j < s.length) (h : OutP s j zs) : OutP s (j + 1) (zs.set j ((cnum s.length (sg s) j : Nat) : Int)) := by
  intro i hi
  rw [List.getElem?_set]
  by_cases hij : j = i
  · subst hij; rw [if_pos rfl, if_pos (by omega)]
  · rw [if_neg hij]; exact h i (by omega)

theorem OutP.all {s : List Nat} {zs : List Int} (hl : zs.length = s.length) (h : OutP s s.length zs) : zs = nats ((List.range s.length).map (cnum s.length (sg s))) := by
  apply List.ext_getElem?
  intro e
  rcases Nat.lt_or_ge e s.length with he | he
  · rw [h e he]; simp [nats, he]
  · rw [List.getElem?_eq_none (by omega), List.getElem?_eq_none (by simp [nats]; exact he)]

def IniP (j : Nat) (zs : List Int) : Prop := ∀ i : Nat, i < j → zs[i]? = some (i : Int)
theorem IniP.step {j : Nat} {zs : List Int} (hj : j < zs.length) (h : IniP j zs) : IniP (j + 1) (zs.set j (j : Int)) := by
  intro i hi
  rw [List.getElem?_set]
  by_cases hij : j = i
  · subst hij; rw [if_pos rfl, if_pos hj]
  · rw [if_neg hij]; exact h i (by omega)
theorem IniP.all {n : Nat} {zs : List Int} (hl : zs.length = n) (h : IniP n zs) : zs = nats (List.range n) := by
  apply List.ext_getElem?
  intro e
  rcases Nat.lt_or_ge e n with he | he
  · rw [h e he]; simp [nats, he]
  · rw [List.getElem?_eq_none (by omega), List.getElem?_eq_none (by simp [nats]; exact he)]

/-- Names that lie at a block. -/
def NamAt (w : World) (g n : Nat) (S : Nat → Nat) (nm : List Nat) (wr : World) : Prop := MadeS w g n (fun zs => zs = nats nm) wr ∧ NmC n S nm

theorem NamAt.cell {w wr : World} {g n : Nat} {S : Nat → Nat} {nm : List Nat} (h : NamAt w g n S nm wr) {d : Nat} (hd : d < n) : wr.cell? ⟨g, d, none⟩ = some (.int .i64 (nm.getD d 0 : Nat)) ∧ wr.frozen? ⟨g, d, none⟩ = false := by
  obtain ⟨z, ⟨zs, _, rfl, hz⟩, h1, h2⟩ := h.1.cell d hd
  rw [nats_get (h.2.get hd).1] at hz
  simp only [Option.some.injEq] at hz
  subst hz
  exact ⟨h1, h2⟩

theorem NamAt.set {w wr : World} {g n : Nat} {S : Nat → Nat} {nm : List Nat} (h : NamAt w g n S nm wr) {d v : Nat} (hn : NmC n S (nm.set d v)) : NamAt w g n S (nm.set d v) (wr.setCell ⟨g, d, none⟩ (.int .i64 v)) := by
  refine ⟨h.1.set d v (fun zs _ h => ?_), hn⟩
  rw [h]; simp [nats, List.map_set]

theorem NamAt.keeps {w wr w1 : World} {g n : Nat} {S : Nat → Nat} {nm : List Nat} (h : NamAt w g n S nm wr) (hk : Keeps (fun _ => False) wr w1) : NamAt w g n S nm w1 := ⟨h.1.keeps hk, h.2⟩

set_option maxRecDepth 100000 in
set_option maxHeartbeats 8000000 in
theorem refNames08_any (sv : Value) (rt ln : Int) (s : List Nat) (w : World) (hs : Sl .i64 w sv (nats s)) (hP : IsP s.length (sg s)) (he : s.length % 2 = 0) (hl : s.length ≤ 1000000) :
    Calls Tryz.prog 186 #[.agg #[sv, .int .i64 rt, .int .i64 ln]] w fun e w' => ∃ g, e = .returned (.slice (some ⟨g, 0, none⟩) s.length s.length) ∧ MadeS w g s.length (fun zs => zs = nats ((List.range s.length).map (cnum s.length (sg s)))) w' := by
  obtain ⟨bx, hbx⟩ : ∃ bx, bx = w.heap.size := ⟨_, rfl⟩
  obtain ⟨g, hg⟩ : ∃ g, g = w.heap.size + 1 := ⟨_, rfl⟩
  have k0 : Keeps (fun _ => False) w (w.alloc (.cells #[sv, .int .i64 rt, .int .i64 ln] 72)) := (Keeps.refl _ w).alloc _
  have hb0 : BxM bx sv rt ln (w.alloc (.cells #[sv, .int .i64 rt, .int .i64 ln] 72)) := by rw [hbx]; exact heap_alloc_new w _
  have hM0 := MadeS.made' k0 s.length (IniP 0) (fun i hi => by omega) (by omega)
  have hb1 := hb0.keeps ((Keeps.refl (fun _ => False) _).alloc (.cells (madeCells #[.int .i64 0] s.length) 3)) (fun h => h)
  have HS : Hid (∀ W, Keeps (fun _ => False) w W → Sl .i64 W sv (nats s)) := Lib.hid (fun W hk => hs.keeps hk (fun _ _ h => h))
  obtain ⟨a, cap, rfl, hnc, hcm⟩ := hs.form
  rw [nats_len] at hnc HS hb0 k0 hM0 hb1 ⊢
  have hgs : (w.alloc (.cells #[.slice a s.length cap, .int .i64 rt, .int .i64 ln] 72)).heap.size = g := by rw [hg]; simp
  rw [hgs] at hM0
  have HBX := Lib.hid (And.intro hbx (And.intro hg hgs))
  have hgb : g ≠ bx := by omega
  have hgw : w.heap.size ≤ g := by omega
  have hbw : w.heap.size ≤ bx := by omega
  have HP := Lib.hid hP
  obtain ⟨i, hi, hz0, hz1, hz2⟩ := info_parts infoInt
  have hmk := fun w => run_make (P := Tryz.prog) w 22 3 i _ Tryz.underlying22 hi hz0 .i64 .i64 (s.length : Int) (s.length : Int) (by omega) (Int.le_refl _) (by rw [hz2]; omega) (by omega)
  simp only [hz1, Int.toNat_natCast, Nat.mul_one] at hmk
  clear hs hP hi hz0 hz1 hz2 hbx hg hgs k0 hb0
  go_enter Tryz.func186, Tryz.ntmps186
  go_wp2_with fail
  clear hmk
  rw [← HBX.out.1, show bx + 1 = g by have := HBX.out.1; have := HBX.out.2.1; omega]
  generalize World.alloc (World.alloc _ _) _ = wM at *
  go_loopg [19] s.length (fun m i wr => ∃ j : Nat, j ≤ s.length ∧ m = s.length - j ∧ i = .int .i64 j ∧ MadeS w g s.length (IniP j) wr ∧ BxM bx (.slice a s.length cap) rt ln wr)
  case atStart => exact ⟨0, Nat.zero_le _, rfl, rfl, hM0, hb1⟩
  case round =>
    clear hM0 hb1
    obtain ⟨j, hj, hgk, rfl, hM, hB⟩ := hrel
    have HG := Lib.hid hgk
    clear hgk
    by_cases hlt : j < s.length
    · obtain ⟨z, _, hc, hf⟩ := hM.cell j hlt
      have HN := Lib.hid (And.intro (hM.set (Q := IniP (j + 1)) j (j : Int) (fun zs hzl h => h.step (by omega))) (hB.set hgb j (.int .i64 j)))
      clear hM hB
      go_wp2
      go_roundg (s.length - (j + 1))
      case measure => rw [HG.out]; omega
      case rel => exact ⟨j + 1, by omega, rfl, by go_num, HN.out⟩
    · obtain rfl : j = s.length := by omega
      have h1 : NamAt w g s.length (sg s) (List.range s.length) wr ∧ BxM bx (.slice a s.length cap) rt ln wr := ⟨⟨hM.mono (fun zs hzl h => h.all hzl), NmC.init _ _⟩, hB⟩
      clear hM hB hlt hj
      go_wp2_with fail
      go_loopg [5] ((List.range s.length).sum + 1) (fun m tv wr => ∃ (t : Bool) (nm : List Nat), tv = .bool t ∧ m = (if t = true then nm.sum + 1 else 0) ∧ (NamAt w g s.length (sg s) nm wr ∧ BxM bx (.slice a s.length cap) rt ln wr) ∧ (t = false → ∀ d, d < s.length → nm.getD (sg s d) 0 = nm.getD d 0 ∧ nm.getD (mt d) 0 = nm.getD d 0))
      case atStart => exact ⟨true, _, rfl, rfl, h1, (fun h => by cases h)⟩
      case round =>
        clear h1 HG
        obtain ⟨t, nm0, rfl, hgk, ⟨hN, hB⟩, hfix⟩ := hrel
        have HG := Lib.hid hgk
        have HX := Lib.hid hfix
        clear hgk hfix
        cases t
        · have hfx := HX.out (by trivial)
          have hcr : ∀ d, d < s.length → nm0.getD d 0 = crep s.length (sg s) d := fun d hd => hN.2.fixed HP.out he hfx hd
          have hN' : MadeS w g s.length (fun zs => zs = nats ((List.range s.length).map (crep s.length (sg s)))) wr := hN.1.mono (fun zs hzl h => by
            rw [h]
            congr 1
            apply List.ext_getElem?
            intro e
            rcases Nat.lt_or_ge e s.length with he2 | he2
            · rw [(hN.2.get he2).1, hcr e he2]; simp [he2]
            · rw [List.getElem?_eq_none (by rw [hN.2.len]; exact he2), List.getElem?_eq_none (by simpa using he2)])
          have hkw : Keeps (fun _ => False) w wr := by obtain ⟨_, _, _, _, h⟩ := hN.1; exact h
          obtain ⟨go, hgo⟩ : ∃ go, go = wr.heap.size := ⟨_, rfl⟩
          have hO := MadeS.made' hkw s.length (OutP s 0) (fun i hi => by omega) (by omega)
          have hgo2 : g < go := by have := hN.1.old.2; omega
          have hN2 : MadeS w g s.length (fun zs => zs = nats ((List.range s.length).map (crep s.length (sg s)))) (wr.alloc (.cells (madeCells #[.int .i64 0] s.length) 3)) := hN'.keeps ((Keeps.refl _ wr).alloc _)
          rw [← hgo] at hO
          have HGO := Lib.hid hgo
          obtain ⟨ii, hi, hz0, hz1, hz2⟩ := info_parts infoInt
          have hmk := fun w => run_make (P := Tryz.prog) w 22 3 ii _ Tryz.underlying22 hi hz0 .i64 .i64 (s.length : Int) (s.length : Int) (by omega) (Int.le_refl _) (by rw [hz2]; omega) (by omega)
          simp only [hz1, Int.toNat_natCast, Nat.mul_one] at hmk
          have h5 := And.intro hN2 hO
          clear hN hB hN' hO hN2 hfx hcr hkw hgo HX HG hi hz0 hz1 hz2
          go_wp2_with fail
          clear hmk
          rw [← HGO.out]
          generalize World.alloc _ _ = wM at *
          go_loopg [10, 85] s.length (fun m c i wr => ∃ j : Nat, j ≤ s.length ∧ m = s.length - j ∧ i = .int .i64 j ∧ c = .int .i64 (cldr s.length (sg s) j : Nat) ∧ MadeS w g s.length (fun zs => zs = nats ((List.range s.length).map (crep s.length (sg s)))) wr ∧ MadeS w go s.length (OutP s j) wr)
          case atStart => exact ⟨0, Nat.zero_le _, rfl, rfl, rfl, h5⟩
          case round =>
            clear h5
            obtain ⟨j, hj, hgk, rfl, rfl, hN, hO⟩ := hrel
            have HG := Lib.hid hgk
            clear hgk
            have hls := cldr_succ s.length (sg s) j
            have hll := cldr_le s.length (sg s) j
            have hgow := hO.old.1
            by_cases hlt : j < s.length
            · obtain ⟨z, ⟨zs, _, rfl, hz⟩, hc1, hf1⟩ := hN.cell j hlt
              have hz' : z = (crep s.length (sg s) j : Nat) := by
                simp [nats, hlt] at hz; exact hz.symm
              subst hz'
              clear hz
              have hcl := HP.out.crep_lt he hlt
              have hcle : crep s.length (sg s) j ≤ j := crep_le (Conn.refl _ _ _)
              obtain ⟨zo, ⟨zso, hzol, hzoP, hzo⟩, hc2, hf2⟩ := hO.cell (crep s.length (sg s) j) hcl
              obtain ⟨zj, _, hc3, hf3⟩ := hO.cell j hlt
              have hkeep : ∀ v : Value, Keeps (fun q => q = go) wr (wr.setCell ⟨go, j, none⟩ v) := fun v => (Keeps.refl (fun q => q = go) wr).setCell (p := ⟨go, j, none⟩) (.inl rfl) v
              have hNf : ∀ v : Value, MadeS w g s.length (fun zs => zs = nats ((List.range s.length).map (crep s.length (sg s)))) (wr.setCell ⟨go, j, none⟩ v) := fun v => hN.keepsF (hkeep v) (by omega) (fun x hx => by subst hx; exact hgow)
              have hOf := hO.set (Q := OutP s (j + 1)) j ((cnum s.length (sg s) j : Nat) : Int) (fun zs hzl h => h.step hzl hlt)
              by_cases hr : crep s.length (sg s) j = j
              · have hcn : cnum s.length (sg s) j = cldr s.length (sg s) j := by unfold cnum; rw [hr]
                rw [if_pos hr] at hls
                rw [hcn] at hOf
                rw [hr] at hc1
                have HF := Lib.hid (And.intro (hNf (.int .i64 ((cldr s.length (sg s) j : Nat) : Int))) (And.intro hOf hls))
                clear hNf hOf hls hkeep hN hO hzoP hzo hc2 hf2 hr hcn hcl hcle
                generalize hcd : cldr s.length (sg s) j = c at *
                have HC := Lib.hid hcd
                clear hcd
                have bt : (((j : Nat) : Int) == ((j : Nat) : Int)) = true := by simp
                go_wp2
                go_roundg (s.length - (j + 1))
                case measure => rw [HG.out]; omega
                case rel => exact ⟨j + 1, by omega, rfl, by go_num, by rw [HF.out.2.2]; go_num, HF.out.1, HF.out.2.1⟩
              · have hlt2 : crep s.length (sg s) j < j := by omega
                have hzv : zo = (cnum s.length (sg s) j : Nat) := by
                  rw [hzoP _ hlt2] at hzo
                  simp only [Option.some.injEq] at hzo
                  rw [← hzo]
                  unfold cnum
                  rw [HP.out.crep_crep he hlt]
                subst hzv
                rw [if_neg hr] at hls
                have HF := Lib.hid (And.intro (hNf (.int .i64 ((cnum s.length (sg s) j : Nat) : Int))) (And.intro hOf hls))
                have bt : (((crep s.length (sg s) j : Nat) : Int) == ((j : Nat) : Int)) = false := by rw [beq_eq_false_iff_ne]; omega
                clear hNf hOf hls hkeep hN hO hzoP hzo hr
                generalize crep s.length (sg s) j = y at *
                generalize cldr s.length (sg s) j = c at *
                generalize cnum s.length (sg s) j = v at *
                go_wp2
                go_roundg (s.length - (j + 1))
                case measure => rw [HG.out]; omega
                case rel => exact ⟨j + 1, by omega, rfl, by go_num, by rw [HF.out.2.2]; go_num, HF.out.1, HF.out.2.1⟩
            · obtain rfl : j = s.length := by omega
              have HF := Lib.hid (hO.mono (fun zs hzl h => h.all hzl))
              clear hN hO
              go_wp2
              go_ret
              exact ⟨go, rfl, HF.out⟩
        · clear HX
          have hp0 : PassS s.length (sg s) nm0 0 0 false nm0 := ⟨hN.2, fun _ => ⟨rfl, fun e he => by omega, fun hk => by omega, fun hk => by omega⟩, fun h => by cases h⟩
          have h2 : ∃ nm, NamAt w g s.length (sg s) nm wr ∧ BxM bx (.slice a s.length cap) rt ln wr ∧ PassS s.length (sg s) nm0 0 0 false nm := ⟨nm0, hN, hB, hp0⟩
          clear hN hB hp0
          go_wp2_with fail
          go_loopg [5, 30] s.length (fun m tv i wr => ∃ (t : Bool) (d : Nat), d ≤ s.length ∧ m = s.length - d ∧ i = .int .i64 d ∧ tv = .bool t ∧ ∃ nm, NamAt w g s.length (sg s) nm wr ∧ BxM bx (.slice a s.length cap) rt ln wr ∧ PassS s.length (sg s) nm0 d 0 t nm)
          case atStart => exact ⟨false, 0, Nat.zero_le _, rfl, rfl, rfl, h2⟩
          case round =>
            clear h2
            obtain ⟨t, d, hd, hgk, rfl, rfl, nm, hN, hB, hPS⟩ := hrel
            have HG2 := Lib.hid hgk
            clear hgk
            by_cases hlt : d < s.length
            · obtain ⟨_, _, _, _, hkw⟩ := hN.1
              obtain ⟨ag, off, rfl, hcell⟩ := (HS.out wr hkw).cellAt (nats_at hlt)
              have hMt := fun W => refMate06_any d W (by omega)
              have hb := hB.cell
              have hbd : wr.drew.cell? ⟨bx, 0, none⟩ = some (.slice (some ⟨ag, off, none⟩) s.length cap) := hb
              have hcd : wr.drew.cell? ⟨ag, off + d, none⟩ = some (.int .i64 (sg s d : Nat)) := hcell
              have hA0 := fun (o : Obj) => alloc_cell hb o
              have hA1 := fun (o : Obj) => alloc_cell hcell o
              have HH := Lib.hid (And.intro hN (And.intro hB hPS))
              clear hN hB hPS hkw
              obtain ⟨x0, hx0⟩ : ∃ x0, x0 = sg s d := ⟨_, rfl⟩
              obtain ⟨x1, hx1⟩ : ∃ x1, x1 = mt d := ⟨_, rfl⟩
              rw [← hx0] at hcell hcd hA1
              rw [← hx1] at hMt
              have HXX := Lib.hid (And.intro hx0 hx1)
              clear hx0 hx1
              have hd0 : (0 : Int) ≤ (d : Int) := by omega
              have hd1 : (d : Int) < (s.length : Int) := by omega
              go_wp2_with fail
              go_region_held3 (fun w' => w'.cell? ⟨bx, 0, none⟩ = some (.slice (some ⟨ag, off, none⟩) s.length cap) ∧ w'.cell? ⟨ag, off + d, none⟩ = some (.int .i64 (x0 : Nat))) (first | exact ⟨hbd, hcd⟩ | exact ⟨hA0 _, hA1 _⟩) ((go_at_call 180; refine (hMt _).mono ?_; rintro e w' ⟨rfl, rfl⟩))
              clear hbd hcd hA0 hA1 hMt hb hcell
              obtain ⟨p2, hp2⟩ : ∃ p2, p2 = wr.heap.size := ⟨_, rfl⟩
              obtain ⟨hN, hB, hPS⟩ := HH.out
              have hk2 : Keeps (fun _ => False) wr (wr.alloc (.cells #[.int .i64 (x0 : Nat), .int .i64 (x1 : Nat)] 3)).drew := ((Keeps.refl _ wr).alloc _).drew
              have hT2 : (wr.alloc (.cells #[.int .i64 (x0 : Nat), .int .i64 (x1 : Nat)] 3)).drew.heap[p2]? = some (.cells #[.int .i64 (x0 : Nat), .int .i64 (x1 : Nat)] 3 (0, 0)) := by rw [hp2]; exact heap_alloc_new wr _
              have hg2 : g ≠ p2 := by have := hN.1.old.2; omega
              rw [← hp2]
              have h3 : ∃ nm, NamAt w g s.length (sg s) nm (wr.alloc (.cells #[.int .i64 (x0 : Nat), .int .i64 (x1 : Nat)] 3)).drew ∧ BxM bx (.slice (some ⟨ag, off, none⟩) s.length cap) rt ln (wr.alloc (.cells #[.int .i64 (x0 : Nat), .int .i64 (x1 : Nat)] 3)).drew ∧ PassS s.length (sg s) nm0 d 0 t nm ∧ (wr.alloc (.cells #[.int .i64 (x0 : Nat), .int .i64 (x1 : Nat)] 3)).drew.heap[p2]? = some (.cells #[.int .i64 (x0 : Nat), .int .i64 (x1 : Nat)] 3 (0, 0)) :=
                ⟨nm, hN.keeps hk2, hB.keeps hk2 (fun h => h), hPS, hT2⟩
              clear hN hB hPS hk2 hT2 hp2 HH
              generalize World.drew _ = w3 at *
              go_wp2_with fail
              go_loopg [5, 42] 2 (fun m tv i wr => ∃ (t : Bool) (k : Nat), k ≤ 2 ∧ m = 2 - k ∧ i = .int .i64 k ∧ tv = .bool t ∧ ∃ nm, NamAt w g s.length (sg s) nm wr ∧ BxM bx (.slice (some ⟨ag, off, none⟩) s.length cap) rt ln wr ∧ PassS s.length (sg s) nm0 d k t nm ∧ wr.heap[p2]? = some (.cells #[.int .i64 (x0 : Nat), .int .i64 (x1 : Nat)] 3 (0, 0)))
              case atStart => exact ⟨t, 0, by omega, rfl, rfl, rfl, h3⟩
              case round =>
                clear h3
                obtain ⟨t, k, hk, hgk, rfl, rfl, nm, hN, hB, hPS, hT⟩ := hrel
                have HG3 := Lib.hid hgk
                clear hgk
                by_cases hk2 : k < 2
                · obtain ⟨x, hx, hxc⟩ : ∃ x, ((k = 0 ∧ x = sg s d) ∨ (k = 1 ∧ x = mt d)) ∧ ∀ W : World, W.heap[p2]? = some (.cells #[.int .i64 (x0 : Nat), .int .i64 (x1 : Nat)] 3 (0, 0)) → W.cell? ⟨p2, k, none⟩ = some (.int .i64 (x : Nat)) := by
                    have hkc : k = 0 ∨ k = 1 := by omega
                    rcases hkc with rfl | rfl
                    · exact ⟨x0, .inl ⟨rfl, HXX.out.1⟩, fun W h => World.cell_of_heap h 0⟩
                    · exact ⟨x1, .inr ⟨rfl, HXX.out.2⟩, fun W h => World.cell_of_heap h 1⟩
                  have hxn : x < s.length := by
                    rcases hx with ⟨_, rfl⟩ | ⟨_, rfl⟩
                    · exact HP.out.lt d hlt
                    · exact mt_lt he hlt
                  have hcon : Conn s.length (sg s) d x := by
                    rcases hx with ⟨_, rfl⟩ | ⟨_, rfl⟩
                    · exact Conn.turn hlt
                    · exact Conn.mate hlt
                  have hc1 := hxc wr hT
                  obtain ⟨hcx, hfx⟩ := hN.cell hxn
                  obtain ⟨hcd, hfd⟩ := hN.cell hlt
                  obtain ⟨_, hv1, hv2⟩ := hN.2.get hxn
                  obtain ⟨_, hd1', hd2⟩ := hN.2.get hlt
                  have HX := Lib.hid (And.intro hx (And.intro hcon (And.intro hv2 hd2)))
                  have HS3 := Lib.hid (And.intro hN (And.intro hB (And.intro hPS hT)))
                  clear hx hxc hcon hv2 hd2 hN hB hPS hT
                  obtain ⟨vx, hvx⟩ : ∃ vx, vx = nm.getD x 0 := ⟨_, rfl⟩
                  obtain ⟨vd, hvd⟩ : ∃ vd, vd = nm.getD d 0 := ⟨_, rfl⟩
                  rw [← hvx] at hcx hv1
                  rw [← hvd] at hcd hd1'
                  have HV := Lib.hid (And.intro hvx hvd)
                  clear hvx hvd
                  have hxi : (x : Int) < (s.length : Int) := by omega
                  have hdi : (d : Int) < (s.length : Int) := by omega
                  have hx00 : (0 : Int) ≤ (x : Int) := by omega
                  have hd00 : (0 : Int) ≤ (d : Int) := by omega
                  by_cases hl1 : vx < vd
                  · have b1 : decide (vx < vd) = true := decide_eq_true hl1
                    have hlow := HS3.out.2.2.1.lower hlt (by rw [← HV.out.2]; exact hl1) (HX.out.2.1.trans (by rw [HV.out.1]; exact HX.out.2.2.1))
                    go_wp2_with fail
                    go_quiet (fail)
                    go_wp2_with fail
                    obtain ⟨hN, hB, hPS, hT⟩ := HS3.out
                    have kq := (Keeps.refl (fun _ => False) wr).drewN nq
                    have hN5 := (hN.keeps kq).set (d := d) (v := vx) hlow.nmc
                    have hB5 := (hB.keeps kq (fun h => h)).set hgb d (.int .i64 (vx : Nat))
                    have hT5 : ((wr.drewN nq).setCell ⟨g, d, none⟩ (.int .i64 (vx : Nat))).heap[p2]? = some (.cells #[.int .i64 (x0 : Nat), .int .i64 (x1 : Nat)] 3 (0, 0)) :=
                      (kq.mono (fun x _ h => h.elim) : Keeps (fun q => q = g) wr (wr.drewN nq)).setCell (p := ⟨g, d, none⟩) (.inl rfl) (.int .i64 (vx : Nat)) |>.at hT (fun e => hg2 e.symm)
                    have e1 : (nm.set d vx).getD d 0 = vx := by rw [List.getD_eq_getElem?_getD, List.getElem?_set, if_pos rfl, if_pos (by rw [hN.2.len]; exact hlt)]; rfl
                    have e2 : (nm.set d vx).getD x 0 = vx := by
                      rw [List.getD_eq_getElem?_getD, List.getElem?_set]
                      by_cases hdx : d = x
                      · rw [if_pos hdx, if_pos (by rw [hN.2.len]; exact hlt)]; rfl
                      · rw [if_neg hdx, ← List.getD_eq_getElem?_getD, HV.out.1]
                    obtain ⟨hcx5, _⟩ := hN5.cell hxn
                    obtain ⟨hcd5, _⟩ := hN5.cell hlt
                    rw [e2] at hcx5
                    rw [e1] at hcd5
                    have HS5 := Lib.hid (And.intro hN5 (And.intro hB5 (And.intro hlow hT5)))
                    have b2 : decide (vx < vx) = false := decide_eq_false (by omega)
                    clear hN hB hPS hT kq hN5 hB5 hT5 hlow hcx hcd hfx hfd e1 e2 hc1
                    generalize World.setCell _ _ _ = w5 at *
                    go_quiet (fail)
                    have HS6 := Lib.hid (HS5.out.1.keeps ((Keeps.refl (fun _ => False) w5).drewN nq))
                    have HB6 := Lib.hid (HS5.out.2.1.keeps ((Keeps.refl (fun _ => False) w5).drewN nq) (fun h => h))
                    have HT6 := Lib.hid (HS5.out.2.2.2)
                    clear hcx5 hcd5
                    go_wp2
                    go_roundg (2 - (k + 1))
                    case measure => rw [HG3.out]; omega
                    case rel => exact ⟨true, k + 1, by omega, rfl, by go_num, rfl, _, HS6.out, HB6.out, HS5.out.2.2.1, HT6.out⟩
                  · have b1 : decide (vx < vd) = false := decide_eq_false hl1
                    by_cases hl2 : vd < vx
                    · have b2 : decide (vd < vx) = true := decide_eq_true hl2
                      have hlow := HS3.out.2.2.1.lower hxn (by rw [← HV.out.1]; exact hl2) ((HP.out.conn_symm he hlt HX.out.2.1).trans (by rw [HV.out.2]; exact HX.out.2.2.2))
                      go_wp2_with fail
                      go_quiet (fail)
                      go_wp2_with fail
                      have kq0 := (Keeps.refl (fun _ => False) wr).drewN nq
                      have hcx' : (wr.drewN nq).cell? ⟨g, x, none⟩ = some (.int .i64 (vx : Nat)) := hcx
                      have hcd' : (wr.drewN nq).cell? ⟨g, d, none⟩ = some (.int .i64 (vd : Nat)) := hcd
                      have hfx' : (wr.drewN nq).frozen? ⟨g, x, none⟩ = false := hfx
                      have KQ := Lib.hid kq0
                      clear kq0 hcx hcd hfx hfd hc1
                      generalize wr.drewN nq = wq at *
                      go_quiet (fail)
                      have HF2 : Hid ((wq.drewN nq).frozen? ⟨g, x, none⟩ = false ∧ (wq.drewN nq).cell? ⟨g, x, none⟩ = some (.int .i64 (vx : Nat)) ∧ (wq.drewN nq).cell? ⟨g, d, none⟩ = some (.int .i64 (vd : Nat))) := Lib.hid ⟨hfx', hcx', hcd'⟩
                      have KQ2 := Lib.hid (KQ.out.trans ((Keeps.refl (fun _ => False) wq).drewN nq) (fun _ _ h => h))
                      clear hcx' hcd' hfx'
                      generalize wq.drewN nq = wz at *
                      obtain ⟨hf6, hcx6, hcd6⟩ := HF2.out
                      go_wp2_with fail
                      obtain ⟨hN, hB, hPS, hT⟩ := HS3.out
                      have hN5 := (hN.keeps KQ2.out).set (d := x) (v := vd) hlow.nmc
                      have hB5 := (hB.keeps KQ2.out (fun h => h)).set hgb x (.int .i64 (vd : Nat))
                      have hT5 : (wz.setCell ⟨g, x, none⟩ (.int .i64 (vd : Nat))).heap[p2]? = some (.cells #[.int .i64 (x0 : Nat), .int .i64 (x1 : Nat)] 3 (0, 0)) :=
                        (KQ2.out.mono (fun x _ h => h.elim) : Keeps (fun q => q = g) wr wz).setCell (p := ⟨g, x, none⟩) (.inl rfl) (.int .i64 (vd : Nat)) |>.at hT (fun e => hg2 e.symm)
                      have HS5 := Lib.hid (And.intro hN5 (And.intro hB5 (And.intro hlow hT5)))
                      clear hN hB hPS hT hN5 hB5 hT5 hlow hf6 hcx6 hcd6
                      go_roundg (2 - (k + 1))
                      case measure => rw [HG3.out]; omega
                      case rel => exact ⟨true, k + 1, by omega, rfl, by go_num, rfl, _, HS5.out.1, HS5.out.2.1, HS5.out.2.2.1, HS5.out.2.2.2⟩
                    · have b2 : decide (vd < vx) = false := decide_eq_false hl2
                      have heq := HS3.out.2.2.1.equal HX.out.1 (by rw [← HV.out.1, ← HV.out.2]; omega)
                      have HE := Lib.hid heq
                      clear heq
                      go_wp2_with fail
                      go_quiet (fail)
                      go_wp2_with fail
                      have hcx' : (wr.drewN nq).cell? ⟨g, x, none⟩ = some (.int .i64 (vx : Nat)) := hcx
                      have hcd' : (wr.drewN nq).cell? ⟨g, d, none⟩ = some (.int .i64 (vd : Nat)) := hcd
                      have KQ := Lib.hid ((Keeps.refl (fun _ => False) wr).drewN nq)
                      clear hcx hcd hfx hfd hc1
                      generalize wr.drewN nq = wq at *
                      go_quiet (fail)
                      have KQ2 := Lib.hid (KQ.out.trans ((Keeps.refl (fun _ => False) wq).drewN nq) (fun _ _ h => h))
                      clear hcx' hcd'
                      generalize wq.drewN nq = wz at *
                      go_wp2_with fail
                      go_roundg (2 - (k + 1))
                      case measure => rw [HG3.out]; omega
                      case rel => exact ⟨t, k + 1, by omega, rfl, by go_num, rfl, _, HS3.out.1.keeps KQ2.out, HS3.out.2.1.keeps KQ2.out (fun h => h), HE.out, KQ2.out.at HS3.out.2.2.2 (fun h => h)⟩
                · obtain rfl : k = 2 := by omega
                  have HF := Lib.hid (And.intro hN (And.intro hB hPS.next))
                  clear hN hB hPS hT hk2
                  go_wp2
                  go_roundg (s.length - (d + 1))
                  case measure => rw [HG2.out]; omega
                  case rel => exact ⟨t, d + 1, by omega, rfl, by go_num, rfl, nm, HF.out⟩
            · obtain rfl : d = s.length := by omega
              have HF := Lib.hid (And.intro hN (And.intro hB hPS))
              clear hN hB hPS hlt hd
              go_wp2
              go_roundg (if t = true then nm.sum + 1 else 0)
              case measure =>
                rw [HG.out, if_pos trivial]
                cases t
                · rw [if_neg (by decide)]; omega
                · rw [if_pos rfl]; have := HF.out.2.2.less rfl; omega
              case rel => exact ⟨t, nm, rfl, rfl, ⟨HF.out.1, HF.out.2.1⟩, fun ht d hd => by
                obtain ⟨h1, h2, _⟩ := HF.out.2.2.same ht
                rw [h1]
                exact h2 d hd⟩

end Go.Proofs.YtipelclohcdkcaaGreat
