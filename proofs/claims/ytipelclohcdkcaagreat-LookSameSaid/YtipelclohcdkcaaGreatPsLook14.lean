/- look.Nth. -/
import Derived.Test.YtipelclohcdkcaaGreatPsLook13
namespace Go.Proofs.YtipelclohcdkcaaGreat
open Go.RowKit
attribute [local go_sem] Oper.semAt_some

/-- The blocks of Nth. -/
def nthO (B : Nat) (bl k r : Nat) : List (Nat × Obj) :=
  [(B, boxL bl), (B + 1, boxI k), (B + 1 + 1, boxI r), (B + 1 + 1 + 1, .cells #[.int .i64 0] 26)]

def nthW (w : World) (bl v k : Nat) : World :=
  ((((w.alloc (boxL bl)).alloc (boxI k)).alloc (boxI 0)).alloc (.cells #[.int .i64 0] 26)).alloc (.cells #[.int .i64 v] 3)

theorem nthW_size (w : World) (bl v k : Nat) : (nthW w bl v k).heap.size = w.heap.size + 1 + 1 + 1 + 1 + 1 := by simp [nthW]

theorem nthW_keeps (w : World) (bl v k : Nat) : Keeps (fun _ => False) w (nthW w bl v k) :=
  (((((Keeps.refl (fun _ => False) w).alloc _).alloc _).alloc _).alloc _).alloc _

theorem nthW_own (w : World) (bl v k : Nat) : ∀ p ∈ nthO w.heap.size bl k 0, (nthW w bl v k).heap[p.1]? = some p.2 := by
  intro p hp
  have h1 : ((w.alloc (boxL bl))).heap.size = w.heap.size + 1 := by simp
  have h2 : ((w.alloc (boxL bl)).alloc (boxI k)).heap.size = w.heap.size + 1 + 1 := by simp
  have h3 : (((w.alloc (boxL bl)).alloc (boxI k)).alloc (boxI 0)).heap.size = w.heap.size + 1 + 1 + 1 := by simp
  simp only [nthO, List.mem_cons, List.not_mem_nil, or_false] at hp
  rcases hp with rfl | rfl | rfl | rfl
  · exact (((((Keeps.refl (fun _ => False) (w.alloc (boxL bl))).alloc (boxI k)).alloc (boxI 0)).alloc (.cells #[.int .i64 0] 26)).alloc (.cells #[.int .i64 v] 3)).at (heap_alloc_new w _) (fun h => h)
  · have h0 := heap_alloc_new (w.alloc (boxL bl)) (boxI k)
    rw [h1] at h0
    exact ((((Keeps.refl (fun _ => False) ((w.alloc (boxL bl)).alloc (boxI k))).alloc (boxI 0)).alloc (.cells #[.int .i64 0] 26)).alloc (.cells #[.int .i64 v] 3)).at h0 (fun h => h)
  · have h0 := heap_alloc_new ((w.alloc (boxL bl)).alloc (boxI k)) (boxI 0)
    rw [h2] at h0
    exact (((Keeps.refl (fun _ => False) (((w.alloc (boxL bl)).alloc (boxI k)).alloc (boxI 0))).alloc (.cells #[.int .i64 0] 26)).alloc (.cells #[.int .i64 v] 3)).at h0 (fun h => h)
  · have h0 := heap_alloc_new (((w.alloc (boxL bl)).alloc (boxI k)).alloc (boxI 0)) (.cells #[.int .i64 0] 26)
    rw [h3] at h0
    exact ((Keeps.refl (fun _ => False) ((((w.alloc (boxL bl)).alloc (boxI k)).alloc (boxI 0)).alloc (.cells #[.int .i64 0] 26))).alloc (.cells #[.int .i64 v] 3)).at h0 (fun h => h)

theorem nth_blocks {w w2 : World} {bl v k : Nat} {G : Nat → Prop} (hk : Keeps G (nthW w bl v k) w2) (hG : ∀ x, G x → x < w.heap.size) : ∀ p ∈ nthO w.heap.size bl k 0, w2.heap[p.1]? = some p.2 := fun p hp => by
  refine hk.at (nthW_own w bl v k p hp) (fun hx => ?_)
  have hp1 : w.heap.size ≤ p.1 := by
    simp only [nthO, List.mem_cons, List.not_mem_nil, or_false] at hp
    rcases hp with rfl | rfl | rfl | rfl <;> (dsimp only; omega)
  have := hG _ hx
  omega

theorem LkI.push {w : World} {F : Nat → Prop} {D bl b bo : Nat} {bi bp : Nat → Nat} {ks : List Nat} {n : Int} {B1 B2 v Q0 cb : Nat} {o : List (Nat × Obj)} {pre : List Nat} {s : LkG} {W : World} (h : LkI w F D bl b bo bi bp ks n B1 B2 v Q0 cb (fun _ => o) pre s W) (x : Nat) : LkI w F D bl b bo bi bp ks n B1 B2 v Q0 cb (fun _ => o) (pre ++ [x]) s W := by
  obtain ⟨⟨a1, a2, a3, a4, a5, a6, a7, a8⟩, h2, h3, h4, h5, h6, h7⟩ := h
  refine ⟨⟨a1, a2, a3, a4, a5, a6, a7, ?_⟩, h2, h3, h4, h5, h6, h7⟩
  have h8 : cb * pre.length ≤ cb * (pre ++ [x]).length := Nat.mul_le_mul_left _ (by simp)
  omega

/-- What Nth says of a list of places. -/
def NthPost (ks xs0 : List Nat) (k : Nat) (e : Ending) : Prop := ∃ z c : Nat, e = .returned (.tuple #[.int .i64 z, .int .i64 c]) ∧ ((∃ x, xs0[k]? = some x ∧ z = vx ks (mp ks x) ∧ c = 0) ∨ (xs0.length ≤ k ∧ z = 0 ∧ c = 1))

set_option maxRecDepth 100000 in
set_option maxHeartbeats 8000000 in
theorem lookNth_gen {w : World} {bl b bo : Nat} {bi bp : Nat → Nat} {ks : List Nat} {q : Nat} {F : Nat → Prop} {n : Nat} (h : LookS w bl b bo bi bp ks q F n) (hn : n ≤ 1000000) (hq : q ≤ 5000000) (v k : Nat) (hv : v < nvK ks) (hk63 : k ≤ 9223372036854775807) (hw : Wd ks) (hL : ks.length ≤ 1000)
    (xs0 : List Nat) (Sp : List Nat → LkG → Prop) (Ok : Nat → Nat → LkG → Prop) (hxL : xs0.length ≤ ks.length) (hlt : ∀ x ∈ xs0, x < ks.length)
    (hSp : ∀ pre s, Sp pre s → ∃ j, j < xs0.length ∧ pre = xs0.take (j + 1) ∧ s.1 = j + 1) (hOk : ∀ j x s, Ok j x s → xs0[j]? = some x ∧ s.1 = j + 1)
    (hseq : ∀ B1 B2 Q0 F0, Q0 + 13 * 1000 ≤ 9000000 → SeqS Fence.wide 2 Tryz.prog 182 #[.pointer (some ⟨B1, 0, none⟩), .pointer (some ⟨B2, 0, none⟩)] (fun x : Nat => #[.int .i64 x]) (lkSt b bo bi bp ks) lkRd (LkAt bl b bo bi bp ks (n + 1 : Nat) B1 B2 v Q0 13) (fun xs s => xs = xs0 ∧ s.1 = xs0.length + 1) Sp xs0.length Ok (0, Q0, F0)) :
    Calls Tryz.prog 40 #[.pointer (some ⟨bl, 0, none⟩), .int .i64 v, .int .i64 k] w fun e w' => NthPost ks xs0 k e ∧ LookQ w bl b bo bi bp ks (q + 20 * ks.length + 10) F (n + 1) w' := by
  have hk0 := nthW_keeps w bl v k
  have hsW := nthW_size w bl v k
  have hN := lookNumber_any (h.keeps hk0 (fun _ _ h => h)) hn (by omega) (.slice (some ⟨w.heap.size + 1 + 1 + 1 + 1, 0, none⟩) 1 1) [(v : Int)] (by
      have h0 := sl_lit1 ((((w.alloc (boxL bl)).alloc (boxI k)).alloc (boxI 0)).alloc (.cells #[.int .i64 0] 26)) v
      simpa [nthW] using h0) (fun k e => by simp only [Value.ownBlock, Option.some.injEq] at e; subst e; rintro (hx | hx); exact absurd (h.mix.old _ hx) (by omega); have := h.lt; omega) (by simp)
  have hblw := h.lt
  have hFw := h.mix.old
  have hbF := h.sep
  have HSQ := Lib.hid hseq
  have HX := Lib.hid (And.intro hxL (And.intro hlt (And.intro hSp (And.intro hOk hw))))
  have hdk : decide ((k : Int) < 0) = false := decide_eq_false (by omega)
  clear h hseq hxL hlt hSp hOk hw
  refine (callsIn_wide (n := 3)).1 ?_
  refine callsIn_of_wp_marks Tryz.func40 rfl trivial ?_ rfl
  simp only [Tryz.ntmps40, List.size_toArray, List.length_cons, List.length_nil, Nat.reduceAdd, Nat.reduceSub, Array.replicate_succ, Array.replicate_zero, List.push_toArray, List.append_toArray, List.nil_append, List.cons_append]
  gi_wp2
  refine ⟨trivial, callsIn_wide.2 (hN.mono ?_)⟩
  rintro e w2 ⟨⟨c, rfl, hc⟩, hQ⟩
  rcases hc with ⟨hok, rfl⟩ | ⟨hno, rfl⟩
  rotate_left
  · exact absurd (fun z hz => by simp at hz; subst hz; omega) hno
  · have hA := fun w => lookAround_any bl v w
    have hown2 := nth_blocks hQ.2 (fun x hx => by rcases hx with hx | hx; exact hFw x hx; omega)
    have c0 : w2.cell? ⟨w.heap.size, 0, none⟩ = some (.pointer (some ⟨bl, 0, none⟩)) := World.cell_of_heap (hown2 (w.heap.size, boxL bl) (by simp [nthO])) 0
    have ck : w2.cell? ⟨w.heap.size + 1, 0, none⟩ = some (.int .i64 k) := World.cell_of_heap (hown2 (w.heap.size + 1, boxI k) (by simp [nthO])) 0
    gi_wp2
    refine ⟨trivial, callsIn_wide.2 ((hA _).mono ?_)⟩
    rintro e w3 ⟨rfl, rfl⟩
    clear hA hN hok
    obtain ⟨W3, hW3⟩ : ∃ W3, W3 = ((w2.alloc (boxL bl)).alloc (boxI v)) := ⟨_, rfl⟩
    have hD : W3.heap.size = w2.heap.size + 1 + 1 := by rw [hW3]; simp
    have hs2 := hQ.2.size
    have hs12 : w.heap.size + 1 + 1 + 1 + 1 < w2.heap.size := by omega
    have hkW : Keeps (fun x => F x ∨ x = bl) w w2 := (hk0.mono (fun _ _ h => h.elim)).trans hQ.2 (fun x hx hg => hg)
    obtain ⟨n1, hn1⟩ : ∃ n1 : Nat, n1 = n + 1 := ⟨_, rfl⟩
    obtain ⟨F0, hF0⟩ : ∃ F0, F0 = grow F (nthW w bl v k) w2 := ⟨_, rfl⟩
    have hI0 : ∀ o o', LkI w F W3.heap.size bl b bo bi bp ks n1 w2.heap.size (w2.heap.size + 1) v (q + 2) 13 (fun _ => nthO w.heap.size bl k 0) [] (0, q + 2, F0) ((W3.alloc o).alloc o') := by
      intro o o'
      have kB := ((Keeps.refl (fun _ => False) w2).alloc (boxL bl)).alloc (boxI v)
      have kA := kB.alloc o
      have kA := kA.alloc o'
      rw [← hW3] at kA
      have kC := ((Keeps.refl (fun _ => False) W3).alloc o).alloc o'
      have hLS := hQ.1.keeps kA (fun _ _ h => h)
      have b1 : W3.heap[w2.heap.size]? = some (boxL bl) := by
        rw [hW3]
        exact ((Keeps.refl (fun _ => False) (w2.alloc (boxL bl))).alloc (boxI v)).at (heap_alloc_new w2 _) (fun h => h)
      have b2 : W3.heap[w2.heap.size + 1]? = some (boxI v) := by
        rw [hW3]
        have hz : (w2.alloc (boxL bl)).heap.size = w2.heap.size + 1 := by simp
        rw [← hz]
        exact heap_alloc_new _ _
      have hgo := hQ.1.mix.old
      have hblq := hQ.1.lt
      refine ⟨⟨by rw [hn1]; exact hLS.own, by rw [hF0]; exact hLS.mix, by rw [hF0]; exact hLS.sep, kC.at b1 (fun h => h), kC.at b2 (fun h => h), fun hx => by rw [hF0] at hx; have := hgo _ hx; omega, fun hx => by rw [hF0] at hx; have := hgo _ hx; omega, by simp⟩, fun p hp => ?_, fun x hx => by rw [hF0] at hx; have := hgo _ hx; omega, by simp, ⟨by omega, by omega, by omega, by omega⟩, hkW.trans kA (fun _ _ h => h.elim), fun x hx => ?_⟩
      · refine ⟨kA.at (hown2 p hp) (fun h => h), fun hx => ?_, ?_⟩
        · rw [hF0] at hx
          simp only [nthO, List.mem_cons, List.not_mem_nil, or_false] at hp
          rcases hx with hx | hx
          · have := hFw _ hx
            rcases hp with rfl | rfl | rfl | rfl <;> (dsimp only at this; omega)
          · rw [hsW] at hx
            rcases hp with rfl | rfl | rfl | rfl <;> (dsimp only at hx; omega)
        · simp only [nthO, List.mem_cons, List.not_mem_nil, or_false] at hp
          rcases hp with rfl | rfl | rfl | rfl <;> (dsimp only; omega)
      · rw [hF0] at hx
        rcases hx with hx | hx
        · exact .inl hx
        · right; rw [hsW] at hx; omega
    have HI0 := Lib.hid hI0
    have HQ := Lib.hid hQ
    have HD := Lib.hid hD
    have HW3 := Lib.hid hW3
    have HN1 := Lib.hid hn1
    clear hI0 hQ hkW hk0 hD hn1 hF0 hsW hown2
    gi_wp2
    rw [← hW3]
    clear hW3 ck
    refine wpIn_rangeFunc_ownS rfl (by decide) (gf := 182) (lb := #[.pointer (some ⟨w2.heap.size, 0, none⟩), .pointer (some ⟨w2.heap.size + 1, 0, none⟩)]) rfl trivial (enters_of Tryz.func182 (by kernel_rfl) rfl)
      (by rw [HN1.out]; exact HSQ.out _ _ (q + 2) F0 (by omega)) (fun _ => rfl)
      (fun pre s W => LkI w F W3.heap.size bl b bo bi bp ks n1 w2.heap.size (w2.heap.size + 1) v (q + 2) 13 (fun _ => nthO w.heap.size bl (k - pre.length) 0) pre s W ∧ pre.length ≤ k)
      (fun c pre s W => c = .ret ∧ pre.length = k + 1 ∧ ∃ x, xs0[k]? = some x ∧ LkI w F W3.heap.size bl b bo bi bp ks n1 w2.heap.size (w2.heap.size + 1) v (q + 2) 13 (fun _ => nthO w.heap.size bl 0 (vx ks (mp ks x))) pre s W)
      (fun xs s A hs => hs.1.st) ?hst ?hput ?hxput ?h0
      (fun x => { tmps := #[.pointer (some ⟨bl, 0, none⟩), .int .i64 v, .int .i64 k, .pointer (some ⟨w.heap.size, 0, none⟩), undef, .pointer (some ⟨w.heap.size + 1, 0, none⟩), .pointer (some ⟨w.heap.size + 1 + 1, 0, none⟩), .pointer (some ⟨w.heap.size + 1 + 1 + 1, 0, none⟩), .int .i64 0, .int .i64 x, .pointer (some ⟨bl, 0, none⟩), .int .i64 v, .slice (some ⟨w.heap.size + 1 + 1 + 1 + 1, 0, none⟩) 1 1, .int .i64 0, .int .i64 0, .bool false, undef, .int .i64 k, .bool false, .pointer (some ⟨bl, 0, none⟩), .int .i64 v, .func (.func 182) #[] #[.pointer (some ⟨w2.heap.size, 0, none⟩), .pointer (some ⟨w2.heap.size + 1, 0, none⟩)], .int .i64 x, undef, undef, undef, undef, undef, undef, undef, undef, undef], defers := [] }) ?assign ?body ?done ?stop
    case hst => exact fun xs s A s' B hs hst => ⟨⟨(hs.1.step hst).1, hs.2⟩, (hs.1.step hst).2⟩
    case hput => exact fun xs s W l o o' hs hl _ _ => ⟨hs.1.put l o' hl, hs.2⟩
    case hxput => exact fun c xs s W l o o' hs hl _ _ => ⟨hs.1, hs.2.1, hs.2.2.choose, hs.2.2.choose_spec.1, hs.2.2.choose_spec.2.put l o' hl⟩
    case h0 => exact fun o o' => ⟨HI0.out o o', Nat.zero_le _⟩
    case assign =>
      intro l x W K hK
      gi_wp2
      exact hK
    case body =>
      rintro l pre x s W ⟨hI, hall⟩ hlen hok
      obtain ⟨hx0, hs1⟩ := HX.out.2.2.2.1 _ _ _ hok
      have hx := HX.out.2.1 x (List.mem_of_getElem? hx0)
      have hpl : pre.length < 1000 := by have := HX.out.1; omega
      have hqb : s.2.1 ≤ 8000000 := by
        have h8 := hI.st.q
        rw [hs1] at h8
        simp at h8
        omega
      have hml := HX.out.2.2.2.2.mp_lt hx
      obtain ⟨kr, hkr⟩ : ∃ kr, kr = k - pre.length := ⟨_, rfl⟩
      rw [← hkr] at hI
      have o2 := hI.own (w.heap.size + 1, boxI kr) (by simp [nthO])
      have e1 : W.cell? ⟨w.heap.size + 1, 0, none⟩ = some (.int .i64 kr) := World.cell_of_heap o2.1 0
      have z1 := World.free_of_heap o2.1 0
      have hkrb : (kr : Int) ≤ 9223372036854775807 := by omega
      have HKR := Lib.hid hkr
      clear hkr
      by_cases hk0 : kr = 0
      · have hb : (((kr : Nat) : Int) == 0) = true := by simp [hk0]
        have hM := lookMate_in hI.st.mix.old (hI.st.mix.after.drewN 1) hI.st.own hI.st.sep HX.out.2.2.2.2 x (by omega) hx
        have HVx : Hid (∀ w1, MixQ W b bo bi bp ks (s.2.1 + 4) s.2.2 w1 → Calls Tryz.prog 123 #[.pointer (some ⟨bl, 0, none⟩), .int .i64 (mp ks x : Nat)] w1 fun e w' => e = .returned (.int .i64 (vx ks (mp ks x) : Nat)) ∧ MixQ W b bo bi bp ks (s.2.1 + 4 + 9) s.2.2 w') := Lib.hid (fun w1 h1 => lookVertexV_in hI.st.mix.old h1 hI.st.own hI.st.sep HX.out.2.2.2.2 (mp ks x) (by omega) hml)
        have o1 := hI.own (w.heap.size, boxL bl) (by simp [nthO])
        have o3 := hI.own (w.heap.size + 1 + 1, boxI 0) (by simp [nthO])
        have o4 := hI.own (w.heap.size + 1 + 1 + 1, .cells #[.int .i64 0] 26) (by simp [nthO])
        have HC : Hid (∀ q' w1, MixQ W b bo bi bp ks q' s.2.2 w1 → w1.cell? ⟨w.heap.size, 0, none⟩ = some (.pointer (some ⟨bl, 0, none⟩)) ∧ w1.cell? ⟨w.heap.size + 1 + 1, 0, none⟩ = some (.int .i64 0) ∧ w1.cell? ⟨w.heap.size + 1 + 1 + 1, 0, none⟩ = some (.int .i64 0) ∧ w1.frozen? ⟨w.heap.size + 1 + 1, 0, none⟩ = false ∧ w1.frozen? ⟨w.heap.size + 1 + 1 + 1, 0, none⟩ = false) := Lib.hid (fun q' w1 h1 => ⟨World.cell_of_heap (h1.2.at o1.1 o1.2.1) 0, World.cell_of_heap (h1.2.at o3.1 o3.2.1) 0, World.cell_of_heap (h1.2.at o4.1 o4.2.1) 0, World.free_of_heap (h1.2.at o3.1 o3.2.1) 0, World.free_of_heap (h1.2.at o4.1 o4.2.1) 0⟩)
        have d0 : W.drew.cell? ⟨w.heap.size, 0, none⟩ = some (.pointer (some ⟨bl, 0, none⟩)) := World.cell_of_heap o1.1 0
        have HI := Lib.hid (And.intro hI (And.intro hx0 hk0))
        clear hI hok hx0 o1 o2 o3 o4 hk0
        obtain ⟨m, hm⟩ : ∃ m, m = mp ks x := ⟨_, rfl⟩
        obtain ⟨y, hy⟩ : ∃ y, y = vx ks (mp ks x) := ⟨_, rfl⟩
        rw [← hy, ← hm] at HVx
        rw [← hm] at hM
        have HY := Lib.hid (And.intro hm hy)
        clear hm hy
        gi_wp2
        refine Code.wpIn_mono (Q := fun e _ w10 => e = .normal ∧ ∃ w9, MixQ W b bo bi bp ks (s.2.1 + 4 + 9) s.2.2 w9 ∧ w10 = (w9.setCell ⟨w.heap.size + 1 + 1, 0, none⟩ (.int .i64 y)).setCell ⟨w.heap.size + 1 + 1 + 1, 0, none⟩ (.int .i64 0)) ?after ?reg
        case reg =>
          gi_region_with (first | (refine ⟨trivial, (callsIn_round l hM).mono ?_⟩; rintro e w1 ⟨rfl, h1⟩; obtain ⟨c1, _⟩ := HC.out _ _ h1; have hVc := HVx.out _ h1; clear h1) | (refine ⟨trivial, (callsIn_round l hVc).mono ?_⟩; rintro e w9 ⟨rfl, h2⟩; obtain ⟨c3, c4, c5, c6, c7⟩ := HC.out _ _ h2))
          all_goals exact ⟨rfl, w9, h2, rfl⟩
        case after =>
          rintro e a w10 ⟨rfl, w9, h2, rfl⟩
          have HA := HI.out.1.asked (cb := 13) h2 x
          obtain ⟨_, hz1⟩ := HY.out
          clear hM HVx HC d0 h2
          have p1 := HA.1.own (w.heap.size + 1, boxI kr) (by simp [nthO])
          have p2 := HA.1.own (w.heap.size + 1 + 1, boxI 0) (by simp [nthO])
          have p3 := HA.1.own (w.heap.size + 1 + 1 + 1, .cells #[.int .i64 0] 26) (by simp [nthO])
          obtain ⟨r1, r2, r3, r4⟩ := res2 p2.1 p3.1 (.int .i64 y) (.int .i64 0)
          have hlt4 := HA.1.lt
          have r5 : ((w9.setCell ⟨w.heap.size + 1 + 1, 0, none⟩ (.int .i64 y)).setCell ⟨w.heap.size + 1 + 1 + 1, 0, none⟩ (.int .i64 0)).heap[w.heap.size + 1 + 1 + 1]? = some (.cells #[.int .i64 0] 26 (0, 0)) := heap_setCell_same (((Keeps.refl (fun k => k = w.heap.size + 1 + 1) w9).setCell (p := ⟨w.heap.size + 1 + 1, 0, none⟩) (.inl rfl) (.int .i64 y)).at p3.1 (by dsimp only; omega)) 0 (.int .i64 0)
          have hre := HA.1.reown (o' := nthO w.heap.size bl 0 y) r3 (fun x hx => by
            rcases hx with rfl | rfl
            · exact ⟨⟨(w.heap.size + 1 + 1, boxI 0), by simp [nthO], rfl⟩, by omega, by omega, by omega, by omega⟩
            · exact ⟨⟨(w.heap.size + 1 + 1 + 1, .cells #[.int .i64 0] 26), by simp [nthO], rfl⟩, by omega, by omega, by omega, by omega⟩) (fun p hp => by
            simp only [nthO, List.mem_cons, List.not_mem_nil, or_false] at hp
            rcases hp with rfl | rfl | rfl | rfl
            · exact ⟨r3.at (HA.1.own (w.heap.size, boxL bl) (by simp [nthO])).1 (by dsimp only; omega), (w.heap.size, boxL bl), by simp [nthO], rfl⟩
            · exact ⟨by have hh := r3.at p1.1 (by dsimp only; omega); rw [show kr = 0 from HI.out.2.2] at hh; exact hh, (w.heap.size + 1, boxI kr), by simp [nthO], rfl⟩
            · exact ⟨r4, (w.heap.size + 1 + 1, boxI 0), by simp [nthO], rfl⟩
            · exact ⟨r5, (w.heap.size + 1 + 1 + 1, .cells #[.int .i64 0] 26), by simp [nthO], rfl⟩)
          have hkr2 := HA.2.trans (KeepsRec.of (D := W3.heap.size) r3 (fun x hx hd => by have := p2.2.2; have := p3.2.2; dsimp only at *; omega))
          have hkk : pre.length = k := by have := HKR.out; have := HI.out.2.2; omega
          have HR := Lib.hid (And.intro hre (And.intro hkr2 (And.intro hkk hz1)))
          clear HA p1 p2 p3 r1 r2 r3 r4 r5 hre hkr2 hkk hz1 hlt4
          gi_wp2
          refine ⟨HR.out.2.1, (s.1, s.2.1 + 13, grow s.2.2 W w9), rfl, rfl, by rw [List.length_append, HR.out.2.2.1]; rfl, x, by rw [← HR.out.2.2.1]; exact HI.out.2.1, ?_⟩
          rw [← HR.out.2.2.2]
          exact HR.out.1
      · have hb : (((kr : Nat) : Int) == 0) = false := by rw [beq_eq_false_iff_ne]; omega
        have hkk : kr = k - pre.length := HKR.out
        obtain ⟨kq, hkq⟩ : ∃ kq, kq = k - (pre ++ [x]).length := ⟨_, rfl⟩
        have hkq2 : (kr : Int) - 1 = (kq : Int) := by rw [hkq, List.length_append]; simp only [List.length_cons, List.length_nil]; omega
        have r4 : (W.setCell ⟨w.heap.size + 1, 0, none⟩ (.int .i64 kq)).heap[w.heap.size + 1]? = some (boxI kq) := heap_setCell_same o2.1 0 _
        have r3 := (Keeps.refl (fun q => q = w.heap.size + 1) W).setCell (p := ⟨w.heap.size + 1, 0, none⟩) (.inl rfl) (.int .i64 kq)
        have hlt4 := hI.lt
        have hre := (hI.push x).reown (o' := nthO w.heap.size bl kq 0) r3 (fun x hx => by
            subst hx
            exact ⟨⟨(w.heap.size + 1, boxI kr), by simp [nthO], rfl⟩, by omega, by omega, by omega, by omega⟩) (fun p hp => by
            simp only [nthO, List.mem_cons, List.not_mem_nil, or_false] at hp
            rcases hp with rfl | rfl | rfl | rfl
            · exact ⟨r3.at (hI.own (w.heap.size, boxL bl) (by simp [nthO])).1 (by dsimp only; omega), (w.heap.size, boxL bl), by simp [nthO], rfl⟩
            · exact ⟨r4, (w.heap.size + 1, boxI kr), by simp [nthO], rfl⟩
            · exact ⟨r3.at (hI.own (w.heap.size + 1 + 1, boxI 0) (by simp [nthO])).1 (by dsimp only; omega), (w.heap.size + 1 + 1, boxI 0), by simp [nthO], rfl⟩
            · exact ⟨r3.at (hI.own (w.heap.size + 1 + 1 + 1, .cells #[.int .i64 0] 26) (by simp [nthO])).1 (by dsimp only; omega), (w.heap.size + 1 + 1 + 1, .cells #[.int .i64 0] 26), by simp [nthO], rfl⟩)
        have hkr2 := KeepsRec.of (D := W3.heap.size) r3 (fun x hx hd => by have := o2.2.2; dsimp only at *; omega)
        have hle : (pre ++ [x]).length ≤ k := by rw [List.length_append]; simp only [List.length_cons, List.length_nil]; omega
        have HR := Lib.hid (And.intro hre (And.intro hkr2 (And.intro hle hkq)))
        have hd0 : (0 : Int) ≤ (kq : Int) := by omega
        clear hre hkr2 hle hkq r3 r4 hI hkk o2 hk0 hlt4 hall
        gi_wp2
        refine ⟨HR.out.2.1, s, rfl, ?_, HR.out.2.2.1⟩
        rw [← HR.out.2.2.2]
        exact HR.out.1
    case done =>
      rintro xs s W ⟨hxs, hs1k⟩ ⟨hI, hall⟩ hK
      obtain ⟨kr, hkr⟩ : ∃ kr, kr = k - xs.length := ⟨_, rfl⟩
      rw [← hkr] at hI
      clear hkr
      have p2 := hI.own (w.heap.size + 1 + 1, boxI 0) (by simp [nthO])
      have p3 := hI.own (w.heap.size + 1 + 1 + 1, .cells #[.int .i64 0] 26) (by simp [nthO])
      obtain ⟨r1, r2, r3, r4⟩ := res2 p2.1 p3.1 (.int .i64 0) (.int .i64 1)
      have c2 := World.cell_of_heap p2.1 0
      have c3 := World.cell_of_heap p3.1 0
      have f2 := World.free_of_heap p2.1 0
      have f3 := World.free_of_heap p3.1 0
      have hlt4 := hI.lt
      have r5 : (((W.setCell ⟨w.heap.size + 1 + 1, 0, none⟩ (.int .i64 0)).setCell ⟨w.heap.size + 1 + 1 + 1, 0, none⟩ (.int .i64 1))).heap[w.heap.size + 1 + 1 + 1]? = some (.cells #[.int .i64 1] 26 (0, 0)) := heap_setCell_same (((Keeps.refl (fun k => k = w.heap.size + 1 + 1) W).setCell (p := ⟨w.heap.size + 1 + 1, 0, none⟩) (.inl rfl) (.int .i64 0)).at p3.1 (by dsimp only; omega)) 0 (.int .i64 1)
      have hre := hI.reown (o' := [(w.heap.size, boxL bl)]) r3 (fun x hx => by
        rcases hx with rfl | rfl
        · exact ⟨⟨(w.heap.size + 1 + 1, boxI 0), by simp [nthO], rfl⟩, by omega, by omega, by omega, by omega⟩
        · exact ⟨⟨(w.heap.size + 1 + 1 + 1, .cells #[.int .i64 0] 26), by simp [nthO], rfl⟩, by omega, by omega, by omega, by omega⟩) (fun p hp => by
        simp only [List.mem_cons, List.not_mem_nil, or_false] at hp
        subst hp
        exact ⟨r3.at (hI.own (w.heap.size, boxL bl) (by simp [nthO])).1 (by dsimp only; omega), (w.heap.size, boxL bl), by simp [nthO], rfl⟩)
      have hK9 := r3.at hK (by have := p2.2.2; have := p3.2.2; dsimp only at *; omega)
      have hpD2 := p2.2.2
      have hpD3 := p3.2.2
      dsimp only at hpD2 hpD3
      have g2 := World.cell_of_heap ((keeps_putObj _ W3.heap.size (.deferred none)).at r4 (by omega)) 0
      have g3 := World.cell_of_heap ((keeps_putObj _ W3.heap.size (.deferred none)).at r5 (by omega)) 0
      have HG := Lib.hid (And.intro hre (And.intro hall (And.intro hK9 (And.intro g2 g3))))
      clear hI hre hall r1 r2 r3 r4 r5 hK9 g2 g3 p2 p3
      gi_wp2
      refine ⟨by simp, .inl ⟨_, _, rfl, run_takeDeferred HG.out.2.2.1, ?_⟩⟩
      obtain ⟨hre, hall, hK9, g2, g3⟩ := HG.out
      simp at g2 g3
      refine ⟨.tuple #[.int .i64 0, .int .i64 1], by simp [results, Tryz.results40, go_sem, g2, g3], ⟨0, 1, rfl, .inr ⟨by rw [← hxs]; exact hall, rfl, rfl⟩⟩, ?_⟩
      have hI2 := hre.put W3.heap.size (.deferred none) (.inl rfl)
      have hxl := HX.out.1
      exact hI2.ends (by have h8 := hI2.st.q; rw [hs1k] at h8; have h9 : xs.length = xs0.length := (by rw [hxs]); rw [h9] at h8; simp at h8; omega) HN1.out hFw hblw hbF
    case stop =>
      rintro c pre s W hsp ⟨rfl, hprek, x, hxk, hI⟩ hK
      obtain ⟨j, hj, hpre, hs1⟩ := HX.out.2.2.1 pre s hsp
      obtain ⟨y, hy⟩ : ∃ y, y = vx ks (mp ks x) := ⟨_, rfl⟩
      rw [← hy] at hI
      have p2 := hI.own (w.heap.size + 1 + 1, boxI y) (by simp [nthO])
      have p3 := hI.own (w.heap.size + 1 + 1 + 1, .cells #[.int .i64 0] 26) (by simp [nthO])
      have hpD2 := p2.2.2
      have hpD3 := p3.2.2
      dsimp only at hpD2 hpD3
      have g2 := World.cell_of_heap ((keeps_putObj _ W3.heap.size (.deferred none)).at p2.1 (by dsimp only; omega)) 0
      have g3 := World.cell_of_heap ((keeps_putObj _ W3.heap.size (.deferred none)).at p3.1 (by dsimp only; omega)) 0
      have HG := Lib.hid (And.intro hI (And.intro hxk (And.intro hK (And.intro g2 (And.intro g3 hy)))))
      clear hI hxk hK g2 g3 p2 p3 hy
      gi_wp2
      refine ⟨by simp, .inl ⟨_, _, rfl, run_takeDeferred HG.out.2.2.1, ?_⟩⟩
      obtain ⟨hI, hxk, hK, g2, g3, hy⟩ := HG.out
      simp at g2 g3
      refine ⟨.tuple #[.int .i64 y, .int .i64 0], by simp [results, Tryz.results40, go_sem, g2, g3], ⟨y, 0, rfl, .inl ⟨x, hxk, hy, rfl⟩⟩, ?_⟩
      have hI2 := hI.put W3.heap.size (.deferred none) (.inl rfl)
      have hxl := HX.out.1
      have hpl : pre.length ≤ xs0.length := by rw [hpre]; exact List.length_take_le' _ _
      exact hI2.ends (by have h8 := hI2.st.q; rw [hs1] at h8; simp at h8; omega) HN1.out hFw hblw hbF

theorem lookNth_in {w : World} {bl b bo : Nat} {bi bp : Nat → Nat} {ks : List Nat} {q : Nat} {F : Nat → Prop} {n : Nat} (h : LookS w bl b bo bi bp ks q F n) (hn : n ≤ 1000000) (hq : q ≤ 5000000) (hw : Wd ks) (hL : ks.length ≤ 1000) (v k f0 : Nat) (hv : v < nvK ks) (hk : k ≤ 9223372036854775807) (hf : FirstOf ks v (f0 : Nat)) (hf0 : f0 < ks.length) :
    Calls Tryz.prog 40 #[.pointer (some ⟨bl, 0, none⟩), .int .i64 v, .int .i64 k] w fun e w' => NthPost ks (orb (tn ks) f0) k e ∧ LookQ w bl b bo bi bp ks (q + 20 * ks.length + 10) F (n + 1) w' := by
  have hp := (hw.tn_isP.per_spec hf0).2.1
  refine lookNth_gen h hn hq v k hv hk hw hL (orb (tn ks) f0) (fun pre s => ∃ j, j < per (tn ks) f0 ∧ pre = (orb (tn ks) f0).take (j + 1) ∧ s.1 = j + 1) (fun j x s => (orb (tn ks) f0)[j]? = some x ∧ s.1 = j + 1) (by rw [orb_length]; omega) (fun x hx => hw.tn_isP.sameO_lt hf0 ((hw.tn_isP.mem_orb hf0).1 hx)) (fun pre s hs => by rw [orb_length]; exact hs) (fun _ _ _ h => h) (fun B1 B2 Q0 F0 hQ => ?_)
  rw [orb_length]
  exact around_seq 2 bl b bo bi bp ks (n + 1 : Nat) B1 B2 v Q0 13 f0 F0 hw hf hf0 hL hQ

end Go.Proofs.YtipelclohcdkcaaGreat
