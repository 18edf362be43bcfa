/- look.Adjacent. -/
import Derived.Test.YtipelclohcdkcaaGreatPsLook12
namespace Go.Proofs.YtipelclohcdkcaaGreat
open Go.RowKit
attribute [local go_sem] Oper.semAt_some

/-- What Adjacent says of a list of places. -/
def AdjPost (ks xs0 : List Nat) (v : Nat) (e : Ending) : Prop := ∃ t : Bool, e = .returned (.tuple #[.bool t, .int .i64 0]) ∧ (t = true ↔ ∃ x ∈ xs0, vx ks (mp ks x) = v)

set_option maxRecDepth 100000 in
set_option maxHeartbeats 8000000 in
theorem lookAdjacent_gen {w : World} {bl b bo : Nat} {bi bp : Nat → Nat} {ks : List Nat} {q : Nat} {F : Nat → Prop} {n : Nat} (h : LookS w bl b bo bi bp ks q F n) (hn : n ≤ 1000000) (hq : q ≤ 5000000) (u v : Nat) (hu : u < nvK ks) (hv : v < nvK ks) (hw : Wd ks) (hL : ks.length ≤ 1000)
    (xs0 : List Nat) (Sp : List Nat → LkG → Prop) (Ok : Nat → Nat → LkG → Prop) (hxL : xs0.length ≤ ks.length) (hlt : ∀ x ∈ xs0, x < ks.length)
    (hSp : ∀ pre s, Sp pre s → ∃ j, j < xs0.length ∧ pre = xs0.take (j + 1) ∧ s.1 = j + 1) (hOk : ∀ j x s, Ok j x s → xs0[j]? = some x ∧ s.1 = j + 1)
    (hseq : ∀ B1 B2 Q0 F0, Q0 + 13 * 1000 ≤ 9000000 → SeqS Fence.wide 2 Tryz.prog 182 #[.pointer (some ⟨B1, 0, none⟩), .pointer (some ⟨B2, 0, none⟩)] (fun x : Nat => #[.int .i64 x]) (lkSt b bo bi bp ks) lkRd (LkAt bl b bo bi bp ks (n + 1 : Nat) B1 B2 u Q0 13) (fun xs s => xs = xs0 ∧ s.1 = xs0.length + 1) Sp xs0.length Ok (0, Q0, F0)) :
    Calls Tryz.prog 44 #[.pointer (some ⟨bl, 0, none⟩), .int .i64 u, .int .i64 v] w fun e w' => AdjPost ks xs0 v e ∧ LookQ w bl b bo bi bp ks (q + 20 * ks.length + 10) F (n + 1) w' := by
  have hk0 := adjW_keeps w bl u v
  have hsW := adjW_size w bl u v
  have hN := lookNumber_any (h.keeps hk0 (fun _ _ h => h)) hn (by omega) (.slice (some ⟨w.heap.size + 1 + 1 + 1 + 1, 0, none⟩) 2 2) [(u : Int), (v : Int)] (by
      have h0 := sl_lit2 ((((w.alloc (boxL bl)).alloc (boxI v)).alloc (.cells #[.bool false] 4)).alloc (.cells #[.int .i64 0] 26)) u v
      simpa [adjW] using h0) (fun k e => by simp only [Value.ownBlock, Option.some.injEq] at e; subst e; rintro (hx | hx); exact absurd (h.mix.old _ hx) (by omega); have := h.lt; omega) (by simp)
  have hblw := h.lt
  have hFw := h.mix.old
  have hbF := h.sep
  have HSQ := Lib.hid hseq
  have HX := Lib.hid (And.intro hxL (And.intro hlt (And.intro hSp (And.intro hOk hw))))
  clear h hseq hxL hlt hSp hOk hw
  refine (callsIn_wide (n := 3)).1 ?_
  refine callsIn_of_wp_marks Tryz.func44 rfl trivial ?_ rfl
  simp only [Tryz.ntmps44, List.size_toArray, List.length_cons, List.length_nil, Nat.reduceAdd, Nat.reduceSub, Array.replicate_succ, Array.replicate_zero, List.push_toArray, List.append_toArray, List.nil_append, List.cons_append]
  gi_wp2
  refine ⟨trivial, callsIn_wide.2 (hN.mono ?_)⟩
  rintro e w2 ⟨⟨c, rfl, hc⟩, hQ⟩
  rcases hc with ⟨hok, rfl⟩ | ⟨hno, rfl⟩
  rotate_left
  · exact absurd (fun z hz => by simp at hz; rcases hz with rfl | rfl <;> omega) hno
  · have hA := fun w => lookAround_any bl u w
    have hown2 := lookAdj_blocks hQ.2 (fun x hx => by rcases hx with hx | hx; exact hFw x hx; omega)
    have c0 : w2.cell? ⟨w.heap.size, 0, none⟩ = some (.pointer (some ⟨bl, 0, none⟩)) := World.cell_of_heap (hown2 (w.heap.size, boxL bl) (by simp [adjO])) 0
    gi_wp2
    refine ⟨trivial, callsIn_wide.2 ((hA _).mono ?_)⟩
    rintro e w3 ⟨rfl, rfl⟩
    clear hA hN hok
    obtain ⟨W3, hW3⟩ : ∃ W3, W3 = ((w2.alloc (boxL bl)).alloc (boxI u)) := ⟨_, rfl⟩
    have hD : W3.heap.size = w2.heap.size + 1 + 1 := by rw [hW3]; simp
    have hs2 := hQ.2.size
    have hs12 : w.heap.size + 1 + 1 + 1 + 1 < w2.heap.size := by omega
    have hkW : Keeps (fun x => F x ∨ x = bl) w w2 := (hk0.mono (fun _ _ h => h.elim)).trans hQ.2 (fun x hx hg => hg)
    obtain ⟨n1, hn1⟩ : ∃ n1 : Nat, n1 = n + 1 := ⟨_, rfl⟩
    obtain ⟨F0, hF0⟩ : ∃ F0, F0 = grow F (adjW w bl u v) w2 := ⟨_, rfl⟩
    have hI0 : ∀ o o', LkI w F W3.heap.size bl b bo bi bp ks n1 w2.heap.size (w2.heap.size + 1) u (q + 4) 13 (fun _ => adjO w.heap.size bl v false) [] (0, q + 4, F0) ((W3.alloc o).alloc o') := by
      intro o o'
      have kB := ((Keeps.refl (fun _ => False) w2).alloc (boxL bl)).alloc (boxI u)
      have kA := kB.alloc o
      have kA := kA.alloc o'
      rw [← hW3] at kA
      have kC := ((Keeps.refl (fun _ => False) W3).alloc o).alloc o'
      have hLS := hQ.1.keeps kA (fun _ _ h => h)
      have b1 : W3.heap[w2.heap.size]? = some (boxL bl) := by
        rw [hW3]
        exact ((Keeps.refl (fun _ => False) (w2.alloc (boxL bl))).alloc (boxI u)).at (heap_alloc_new w2 _) (fun h => h)
      have b2 : W3.heap[w2.heap.size + 1]? = some (boxI u) := by
        rw [hW3]
        have hz : (w2.alloc (boxL bl)).heap.size = w2.heap.size + 1 := by simp
        rw [← hz]
        exact heap_alloc_new _ _
      have hgo := hQ.1.mix.old
      have hblq := hQ.1.lt
      refine ⟨⟨by rw [hn1]; exact hLS.own, by rw [hF0]; exact hLS.mix, by rw [hF0]; exact hLS.sep, kC.at b1 (fun h => h), kC.at b2 (fun h => h), fun hx => by rw [hF0] at hx; have := hgo _ hx; omega, fun hx => by rw [hF0] at hx; have := hgo _ hx; omega, by simp⟩, fun p hp => ?_, fun x hx => by rw [hF0] at hx; have := hgo _ hx; omega, by simp, ⟨by omega, by omega, by omega, by omega⟩, hkW.trans kA (fun _ _ h => h.elim), fun x hx => ?_⟩
      · refine ⟨kA.at (hown2 p hp) (fun h => h), fun hx => ?_, ?_⟩
        · rw [hF0] at hx
          simp only [adjO, List.mem_cons, List.not_mem_nil, or_false] at hp
          rcases hx with hx | hx
          · have := hFw _ hx
            rcases hp with rfl | rfl | rfl | rfl <;> (dsimp only at this; omega)
          · rw [hsW] at hx
            rcases hp with rfl | rfl | rfl | rfl <;> (dsimp only at hx; omega)
        · simp only [adjO, List.mem_cons, List.not_mem_nil, or_false] at hp
          rcases hp with rfl | rfl | rfl | rfl <;> (dsimp only; omega)
      · rw [hF0] at hx
        rcases hx with hx | hx
        · exact .inl hx
        · right; rw [hsW] at hx; omega
    have HI0 := Lib.hid hI0
    have HQ := Lib.hid hQ
    have HD := Lib.hid hD
    have HW3 := Lib.hid hW3
    have HN1 := Lib.hid hn1
    clear hI0 hQ hkW hk0 hD hn1 hF0 hsW
    gi_wp2
    rw [← hW3]
    clear hW3
    refine wpIn_rangeFunc_ownS rfl (by decide) (gf := 182) (lb := #[.pointer (some ⟨w2.heap.size, 0, none⟩), .pointer (some ⟨w2.heap.size + 1, 0, none⟩)]) rfl trivial (enters_of Tryz.func182 (by kernel_rfl) rfl)
      (by rw [HN1.out]; exact HSQ.out _ _ (q + 4) F0 (by omega)) (fun _ => rfl)
      (fun pre s W => LkI w F W3.heap.size bl b bo bi bp ks n1 w2.heap.size (w2.heap.size + 1) u (q + 4) 13 (fun _ => adjO w.heap.size bl v false) pre s W ∧ ∀ x ∈ pre, vx ks (mp ks x) ≠ v)
      (fun c pre s W => c = .ret ∧ LkI w F W3.heap.size bl b bo bi bp ks n1 w2.heap.size (w2.heap.size + 1) u (q + 4) 13 (fun _ => adjO w.heap.size bl v true) pre s W ∧ ∃ x ∈ pre, vx ks (mp ks x) = v)
      (fun xs s A hs => hs.1.st) ?hst ?hput ?hxput ?h0
      (fun x => { tmps := #[.pointer (some ⟨bl, 0, none⟩), .int .i64 u, .int .i64 v, .pointer (some ⟨w.heap.size, 0, none⟩), undef, .pointer (some ⟨w.heap.size + 1, 0, none⟩), .pointer (some ⟨w.heap.size + 1 + 1, 0, none⟩), .pointer (some ⟨w.heap.size + 1 + 1 + 1, 0, none⟩), .int .i64 0, .int .i64 x, .pointer (some ⟨bl, 0, none⟩), .int .i64 u, .int .i64 v, .slice (some ⟨w.heap.size + 1 + 1 + 1 + 1, 0, none⟩) 2 2, .int .i64 0, .int .i64 0, .bool false, undef, .pointer (some ⟨bl, 0, none⟩), .int .i64 u, .func (.func 182) #[] #[.pointer (some ⟨w2.heap.size, 0, none⟩), .pointer (some ⟨w2.heap.size + 1, 0, none⟩)], .int .i64 x, undef, undef, undef, undef, undef, undef, undef], defers := [] }) ?assign ?body ?done ?stop
    case hst => exact fun xs s A s' B hs hst => ⟨⟨(hs.1.step hst).1, hs.2⟩, (hs.1.step hst).2⟩
    case hput => exact fun xs s W l o o' hs hl _ _ => ⟨hs.1.put l o' hl, hs.2⟩
    case hxput => exact fun c xs s W l o o' hs hl _ _ => ⟨hs.1, hs.2.1.put l o' hl, hs.2.2⟩
    case h0 => exact fun o o' => ⟨HI0.out o o', fun x hx => by simp at hx⟩
    case assign =>
      intro l x W K hK
      gi_wp2
      exact hK
    case body =>
      rintro l pre x s W ⟨hI, hall⟩ hlen hok
      obtain ⟨hx0, hs1⟩ := HX.out.2.2.2.1 _ _ _ hok
      have hx := HX.out.2.1 x (List.mem_of_getElem? hx0)
      have hpl : pre.length < 1000 := by have := HX.out.1; omega
      have hqb : s.2.1 ≤ 8000000 := by
        have h8 := hI.st.q
        rw [hs1] at h8
        simp at h8
        omega
      have hml := HX.out.2.2.2.2.mp_lt hx
      have hM := lookMate_in hI.st.mix.old (hI.st.mix.after.drewN 1) hI.st.own hI.st.sep HX.out.2.2.2.2 x (by omega) hx
      have HVx : Hid (∀ w1, MixQ W b bo bi bp ks (s.2.1 + 4) s.2.2 w1 → Calls Tryz.prog 123 #[.pointer (some ⟨bl, 0, none⟩), .int .i64 (mp ks x : Nat)] w1 fun e w' => e = .returned (.int .i64 (vx ks (mp ks x) : Nat)) ∧ MixQ W b bo bi bp ks (s.2.1 + 4 + 9) s.2.2 w') := Lib.hid (fun w1 h1 => lookVertexV_in hI.st.mix.old h1 hI.st.own hI.st.sep HX.out.2.2.2.2 (mp ks x) (by omega) hml)
      have o1 := hI.own (w.heap.size, boxL bl) (by simp [adjO])
      have o2 := hI.own (w.heap.size + 1, boxI v) (by simp [adjO])
      have HC : Hid (∀ q' w1, MixQ W b bo bi bp ks q' s.2.2 w1 → w1.cell? ⟨w.heap.size, 0, none⟩ = some (.pointer (some ⟨bl, 0, none⟩)) ∧ w1.cell? ⟨w.heap.size + 1, 0, none⟩ = some (.int .i64 v)) := Lib.hid (fun q' w1 h1 => ⟨World.cell_of_heap (h1.2.at o1.1 o1.2.1) 0, World.cell_of_heap (h1.2.at o2.1 o2.2.1) 0⟩)
      have d0 : W.drew.cell? ⟨w.heap.size, 0, none⟩ = some (.pointer (some ⟨bl, 0, none⟩)) := World.cell_of_heap o1.1 0
      have d1 : W.drew.cell? ⟨w.heap.size + 1, 0, none⟩ = some (.int .i64 v) := World.cell_of_heap o2.1 0
      have HI := Lib.hid (And.intro hI (And.intro hall hx))
      clear hI hall hok hx0 o1 o2
      obtain ⟨m, hm⟩ : ∃ m, m = mp ks x := ⟨_, rfl⟩
      obtain ⟨y, hy⟩ : ∃ y, y = vx ks (mp ks x) := ⟨_, rfl⟩
      rw [← hy, ← hm] at HVx
      rw [← hm] at hM
      have HY := Lib.hid (And.intro hm hy)
      clear hm hy
      gi_wp2
      refine Code.wpIn_mono (Q := fun e a w9 => e = .normal ∧ a = ({ tmps := #[.pointer (some ⟨bl, 0, none⟩), .int .i64 u, .int .i64 v, .pointer (some ⟨w.heap.size, 0, none⟩), undef, .pointer (some ⟨w.heap.size + 1, 0, none⟩), .pointer (some ⟨w.heap.size + 1 + 1, 0, none⟩), .pointer (some ⟨w.heap.size + 1 + 1 + 1, 0, none⟩), .int .i64 0, .int .i64 x, .pointer (some ⟨bl, 0, none⟩), .int .i64 u, .int .i64 v, .slice (some ⟨w.heap.size + 1 + 1 + 1 + 1, 0, none⟩) 2 2, .int .i64 0, .int .i64 0, .bool false, undef, .pointer (some ⟨bl, 0, none⟩), .int .i64 u, .func (.func 182) #[] #[.pointer (some ⟨w2.heap.size, 0, none⟩), .pointer (some ⟨w2.heap.size + 1, 0, none⟩)], .int .i64 x, .pointer (some ⟨bl, 0, none⟩), .pointer (some ⟨bl, 0, none⟩), .int .i64 x, .int .i64 m, .int .i64 y, .int .i64 v, .bool (((y : Nat) : Int) == (v : Int))], defers := [] } : Act) ∧ MixQ W b bo bi bp ks (s.2.1 + 4 + 9) s.2.2 w9) ?after ?reg
      case reg =>
        gi_region_with (first | (refine ⟨trivial, (callsIn_round l hM).mono ?_⟩; rintro e w1 ⟨rfl, h1⟩; obtain ⟨c1, c2⟩ := HC.out _ _ h1; have hVc := HVx.out _ h1; clear h1) | (refine ⟨trivial, (callsIn_round l hVc).mono ?_⟩; rintro e w9 ⟨rfl, h2⟩; obtain ⟨c3, c4⟩ := HC.out _ _ h2))
        all_goals exact ⟨rfl, rfl, h2⟩
      case after =>
        rintro e a w9 ⟨rfl, rfl, h2⟩
        have HA := Lib.hid (HI.out.1.asked (cb := 13) h2 x)
        obtain ⟨_, hz1⟩ := HY.out
        clear hM HVx HC d0 d1 h2
        have hvxy : vx ks (mp ks x) = y := hz1.symm
        have HV := Lib.hid hvxy
        clear hvxy hz1
        by_cases hyv : y = v
        · have hb : (((y : Nat) : Int) == (v : Int)) = true := by simp [hyv]
          have p2 := HA.out.1.own (w.heap.size + 1 + 1, .cells #[.bool false] 4) (by simp [adjO])
          have p3 := HA.out.1.own (w.heap.size + 1 + 1 + 1, .cells #[.int .i64 0] 26) (by simp [adjO])
          obtain ⟨r1, r2, r3, r4⟩ := res2 p2.1 p3.1 (.bool true) (.int .i64 0)
          have c2 := World.cell_of_heap p2.1 0
          have c3 := World.cell_of_heap p3.1 0
          have f2 := World.free_of_heap p2.1 0
          have f3 := World.free_of_heap p3.1 0
          have hlt4 := HA.out.1.lt
          have hre := HA.out.1.reown (o' := adjO w.heap.size bl v true) r3 (fun x hx => by
            rcases hx with rfl | rfl
            · exact ⟨⟨(w.heap.size + 1 + 1, .cells #[.bool false] 4), by simp [adjO], rfl⟩, by omega, by omega, by omega, by omega⟩
            · exact ⟨⟨(w.heap.size + 1 + 1 + 1, .cells #[.int .i64 0] 26), by simp [adjO], rfl⟩, by omega, by omega, by omega, by omega⟩) (fun p hp => by
            simp only [adjO, List.mem_cons, List.not_mem_nil, or_false] at hp
            rcases hp with rfl | rfl | rfl | rfl
            · exact ⟨r3.at (HA.out.1.own (w.heap.size, boxL bl) (by simp [adjO])).1 (by dsimp only; omega), _, by simp [adjO], rfl⟩
            · exact ⟨r3.at (HA.out.1.own (w.heap.size + 1, boxI v) (by simp [adjO])).1 (by dsimp only; omega), _, by simp [adjO], rfl⟩
            · exact ⟨r4, (w.heap.size + 1 + 1, .cells #[.bool false] 4), by simp [adjO], rfl⟩
            · exact ⟨heap_setCell_same (((Keeps.refl (fun k => k = w.heap.size + 1 + 1) w9).setCell (p := ⟨w.heap.size + 1 + 1, 0, none⟩) (.inl rfl) (.bool true)).at p3.1 (by dsimp only; omega)) 0 (.int .i64 0), (w.heap.size + 1 + 1 + 1, .cells #[.int .i64 0] 26), by simp [adjO], rfl⟩)
          have hkr := HA.out.2.trans (KeepsRec.of (D := W3.heap.size) r3 (fun x hx hd => by have := p2.2.2; have := p3.2.2; dsimp only at *; omega))
          have HR := Lib.hid (And.intro hre hkr)
          have HEX : Hid (∃ z ∈ pre ++ [x], vx ks (mp ks z) = v) := Lib.hid ⟨x, by simp, by rw [HV.out]; exact hyv⟩
          clear p2 p3 r1 r2 r3 r4 hre hkr hyv hlt4
          gi_wp2
          exact ⟨HR.out.2, (s.1, s.2.1 + 13, _), rfl, rfl, HR.out.1, HEX.out⟩
        · have hb : (((y : Nat) : Int) == (v : Int)) = false := by rw [beq_eq_false_iff_ne]; omega
          have HAL : Hid (∀ z ∈ pre ++ [x], vx ks (mp ks z) ≠ v) := Lib.hid (fun z hz => by
            rcases List.mem_append.1 hz with hz | hz
            · exact HI.out.2.1 z hz
            · simp at hz; subst hz; rw [HV.out]; exact hyv)
          gi_wp2
          exact ⟨HA.out.2, (s.1, s.2.1 + 13, _), rfl, HA.out.1, HAL.out⟩
    case done =>
      rintro xs s W ⟨hxs, hs1k⟩ ⟨hI, hall⟩ hK
      have p2 := hI.own (w.heap.size + 1 + 1, .cells #[.bool false] 4) (by simp [adjO])
      have p3 := hI.own (w.heap.size + 1 + 1 + 1, .cells #[.int .i64 0] 26) (by simp [adjO])
      obtain ⟨r1, r2, r3, r4⟩ := res2 p2.1 p3.1 (.bool false) (.int .i64 0)
      have c2 := World.cell_of_heap p2.1 0
      have c3 := World.cell_of_heap p3.1 0
      have f2 := World.free_of_heap p2.1 0
      have f3 := World.free_of_heap p3.1 0
      have hlt4 := hI.lt
      have r5 : (((W.setCell ⟨w.heap.size + 1 + 1, 0, none⟩ (.bool false)).setCell ⟨w.heap.size + 1 + 1 + 1, 0, none⟩ (.int .i64 0))).heap[w.heap.size + 1 + 1 + 1]? = some (.cells #[.int .i64 0] 26 (0, 0)) := heap_setCell_same (((Keeps.refl (fun k => k = w.heap.size + 1 + 1) W).setCell (p := ⟨w.heap.size + 1 + 1, 0, none⟩) (.inl rfl) (.bool false)).at p3.1 (by dsimp only; omega)) 0 (.int .i64 0)
      have hre := hI.reown (o' := adjO w.heap.size bl v false) r3 (fun x hx => by
        rcases hx with rfl | rfl
        · exact ⟨⟨(w.heap.size + 1 + 1, .cells #[.bool false] 4), by simp [adjO], rfl⟩, by omega, by omega, by omega, by omega⟩
        · exact ⟨⟨(w.heap.size + 1 + 1 + 1, .cells #[.int .i64 0] 26), by simp [adjO], rfl⟩, by omega, by omega, by omega, by omega⟩) (fun p hp => by
        simp only [adjO, List.mem_cons, List.not_mem_nil, or_false] at hp
        rcases hp with rfl | rfl | rfl | rfl
        · exact ⟨r3.at (hI.own (w.heap.size, boxL bl) (by simp [adjO])).1 (by dsimp only; omega), _, by simp [adjO], rfl⟩
        · exact ⟨r3.at (hI.own (w.heap.size + 1, boxI v) (by simp [adjO])).1 (by dsimp only; omega), _, by simp [adjO], rfl⟩
        · exact ⟨r4, (w.heap.size + 1 + 1, .cells #[.bool false] 4), by simp [adjO], rfl⟩
        · exact ⟨r5, (w.heap.size + 1 + 1 + 1, .cells #[.int .i64 0] 26), by simp [adjO], rfl⟩)
      have hK9 := r3.at hK (by have := p2.2.2; have := p3.2.2; dsimp only at *; omega)
      have hpD2 := p2.2.2
      have hpD3 := p3.2.2
      dsimp only at hpD2 hpD3
      have g2 := World.cell_of_heap ((keeps_putObj _ W3.heap.size (.deferred none)).at r4 (by omega)) 0
      have g3 := World.cell_of_heap ((keeps_putObj _ W3.heap.size (.deferred none)).at r5 (by omega)) 0
      have HG := Lib.hid (And.intro hre (And.intro hall (And.intro hK9 (And.intro g2 g3))))
      clear hI hre hall r1 r2 r3 r4 r5 hK9 g2 g3 p2 p3
      gi_wp2
      refine ⟨by simp, .inl ⟨_, _, rfl, run_takeDeferred HG.out.2.2.1, ?_⟩⟩
      obtain ⟨hre, hall, hK9, g2, g3⟩ := HG.out
      simp at g2 g3
      refine ⟨.tuple #[.bool false, .int .i64 0], by simp [results, Tryz.results44, go_sem, g2, g3], ⟨false, rfl, ?_⟩, ?_⟩
      · refine ⟨fun h => by (cases h), fun ⟨z, hz, he⟩ => absurd he (hall z (by rw [hxs]; exact hz))⟩
      · have hI2 := hre.put W3.heap.size (.deferred none) (.inl rfl)
        have hxl := HX.out.1
        exact hI2.ends (by have h8 := hI2.st.q; rw [hs1k] at h8; have h9 : xs.length = xs0.length := (by rw [hxs]); rw [h9] at h8; simp at h8; omega) HN1.out hFw hblw hbF
    case stop =>
      rintro c pre s W hsp ⟨rfl, hI, hex⟩ hK
      obtain ⟨j, hj, hpre, hs1⟩ := HX.out.2.2.1 pre s hsp
      have p2 := hI.own (w.heap.size + 1 + 1, .cells #[.bool true] 4) (by simp [adjO])
      have p3 := hI.own (w.heap.size + 1 + 1 + 1, .cells #[.int .i64 0] 26) (by simp [adjO])
      have hpD2 := p2.2.2
      have hpD3 := p3.2.2
      dsimp only at hpD2 hpD3
      have g2 := World.cell_of_heap ((keeps_putObj _ W3.heap.size (.deferred none)).at p2.1 (by dsimp only; omega)) 0
      have g3 := World.cell_of_heap ((keeps_putObj _ W3.heap.size (.deferred none)).at p3.1 (by dsimp only; omega)) 0
      have HG := Lib.hid (And.intro hI (And.intro hex (And.intro hK (And.intro g2 g3))))
      clear hI hex hK g2 g3 p2 p3
      gi_wp2
      refine ⟨by simp, .inl ⟨_, _, rfl, run_takeDeferred HG.out.2.2.1, ?_⟩⟩
      obtain ⟨hI, hex, hK, g2, g3⟩ := HG.out
      simp at g2 g3
      refine ⟨.tuple #[.bool true, .int .i64 0], by simp [results, Tryz.results44, go_sem, g2, g3], ⟨true, rfl, ?_⟩, ?_⟩
      · refine ⟨fun _ => ?_, fun _ => rfl⟩
        obtain ⟨z, hz, he⟩ := hex
        rw [hpre] at hz
        exact ⟨z, List.mem_of_mem_take hz, he⟩
      · have hI2 := hI.put W3.heap.size (.deferred none) (.inl rfl)
        have hxl := HX.out.1
        have hpl : pre.length ≤ xs0.length := by rw [hpre]; exact List.length_take_le' _ _
        exact hI2.ends (by have h8 := hI2.st.q; rw [hs1] at h8; simp at h8; omega) HN1.out hFw hblw hbF

theorem lookAdjacent_in {w : World} {bl b bo : Nat} {bi bp : Nat → Nat} {ks : List Nat} {q : Nat} {F : Nat → Prop} {n : Nat} (h : LookS w bl b bo bi bp ks q F n) (hn : n ≤ 1000000) (hq : q ≤ 5000000) (hw : Wd ks) (hL : ks.length ≤ 1000) (u v f0 : Nat) (hu : u < nvK ks) (hv : v < nvK ks) (hf : FirstOf ks u (f0 : Nat)) (hf0 : f0 < ks.length) :
    Calls Tryz.prog 44 #[.pointer (some ⟨bl, 0, none⟩), .int .i64 u, .int .i64 v] w fun e w' => AdjPost ks (orb (tn ks) f0) v e ∧ LookQ w bl b bo bi bp ks (q + 20 * ks.length + 10) F (n + 1) w' := by
  have hp := (hw.tn_isP.per_spec hf0).2.1
  refine lookAdjacent_gen h hn hq u v hu hv hw hL (orb (tn ks) f0) (fun pre s => ∃ j, j < per (tn ks) f0 ∧ pre = (orb (tn ks) f0).take (j + 1) ∧ s.1 = j + 1) (fun j x s => (orb (tn ks) f0)[j]? = some x ∧ s.1 = j + 1) (by rw [orb_length]; omega) (fun x hx => hw.tn_isP.sameO_lt hf0 ((hw.tn_isP.mem_orb hf0).1 hx)) (fun pre s hs => by rw [orb_length]; exact hs) (fun _ _ _ h => h) (fun B1 B2 Q0 F0 hQ => ?_)
  rw [orb_length]
  exact around_seq 2 bl b bo bi bp ks (n + 1 : Nat) B1 B2 u Q0 13 f0 F0 hw hf hf0 hL hQ

end Go.Proofs.YtipelclohcdkcaaGreat
