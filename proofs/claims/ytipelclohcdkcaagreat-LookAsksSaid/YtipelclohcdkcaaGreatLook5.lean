/- look.Degree. -/
import Derived.Test.YtipelclohcdkcaaGreatLook4
namespace Go.Proofs.YtipelclohcdkcaaGreat
open Go.RowKit
attribute [local go_sem] Oper.semAt_some

def boxL (bl : Nat) : Obj := .cells #[.pointer (some ⟨bl, 0, none⟩)] 46
def boxI (v : Int) : Obj := .cells #[.int .i64 v] 3

theorem lookAround_any (bl : Nat) (v : Int) (w : World) :
    Calls Tryz.prog 122 #[.pointer (some ⟨bl, 0, none⟩), .int .i64 v] w fun e w' => e = .returned (.func (.func 182) #[] #[.pointer (some ⟨w.heap.size, 0, none⟩), .pointer (some ⟨w.heap.size + 1, 0, none⟩)]) ∧ w' = (w.alloc (boxL bl)).alloc (boxI v) := by
  go_enter Tryz.func122, Tryz.ntmps122
  go_wp2
  go_ret
  refine ⟨?_, ?_⟩
  · simp
  · rfl

/-- A loop over a vertex's places, between two rounds; ow: the caller's own blocks. -/
structure LkI (w : World) (F : Nat → Prop) (D bl b bo : Nat) (bi bp : Nat → Nat) (ks : List Nat) (n : Int) (B1 B2 v Q0 cb : Nat) (ow : List Nat → List (Nat × Obj)) (pre : List Nat) (s : LkG) (W : World) : Prop where
  st : LkAt bl b bo bi bp ks n B1 B2 v Q0 cb pre s W
  own : ∀ p ∈ ow pre, W.heap[p.1]? = some p.2 ∧ ¬ s.2.2 p.1 ∧ p.1 < D
  av : ∀ x, s.2.2 x → x < D ∨ D + 1 < x
  sz : D + 1 < W.heap.size
  lt : B1 < D ∧ B2 < D ∧ bl < D ∧ w.heap.size ≤ D
  k : Keeps (fun x => F x ∨ x = bl) w W
  fr : ∀ x, s.2.2 x → F x ∨ w.heap.size ≤ x

section
variable {w : World} {F : Nat → Prop} {D bl b bo : Nat} {bi bp : Nat → Nat} {ks : List Nat} {n : Int} {B1 B2 v Q0 cb : Nat} {ow : List Nat → List (Nat × Obj)} {pre : List Nat} {s : LkG} {W : World}

theorem LkI.keepsG (h : LkI w F D bl b bo bi bp ks n B1 B2 v Q0 cb ow pre s W) {W' : World} {G : Nat → Prop} (k : Keeps G W W') (hG : ∀ x, x < W.heap.size → G x → x = D ∨ x = D + 1) : LkI w F D bl b bo bi bp ks n B1 B2 v Q0 cb ow pre s W' := by
  obtain ⟨⟨a1, a2, a3, a4, a5, a6, a7, a8⟩, h2, h3, h4, h5, h6, h7⟩ := h
  have hd : ∀ x, x < D → ¬ G x := fun x hx hg => by have := hG x (by omega) hg; omega
  refine ⟨⟨a1.keeps k (hd bl h5.2.2.1), a2.keeps k (fun x hx hg => ?_), a3, k.at a4 (hd B1 h5.1), k.at a5 (hd B2 h5.2.1), a6, a7, a8⟩, fun p hp => ⟨k.at (h2 p hp).1 (hd _ (h2 p hp).2.2), (h2 p hp).2⟩, h3, Nat.lt_of_lt_of_le h4 k.size, h5, h6.trans k (fun x hx hg => ?_), h7⟩
  · have h8 := h3 x hx
    have h9 := hG x (a2.old x hx) hg
    omega
  · have h9 := hG x (Nat.lt_of_lt_of_le hx h6.size) hg
    omega

theorem keeps_putObj (W : World) (l : Nat) (o : Obj) : Keeps (fun x => x = l) W (W.putObj l o) :=
  ⟨rfl, rfl, rfl, by simp [World.putObj], fun k _ hk => World.putObj_heap_other hk⟩

theorem LkI.put (h : LkI w F D bl b bo bi bp ks n B1 B2 v Q0 cb ow pre s W) (l : Nat) (o : Obj) (hl : l = D ∨ l = D + 1) : LkI w F D bl b bo bi bp ks n B1 B2 v Q0 cb ow pre s (W.putObj l o) :=
  h.keepsG (keeps_putObj W l o) (fun x _ hx => by rw [hx]; exact hl)

theorem LkI.step (h : LkI w F D bl b bo bi bp ks n B1 B2 v Q0 cb ow pre s W) {s' : LkG} {W' : World} (hst : lkSt b bo bi bp ks s W s' W') : LkI w F D bl b bo bi bp ks n B1 B2 v Q0 cb ow pre s' W' ∧ KeepsRec D W W' := by
  obtain ⟨⟨a1, a2, a3, a4, a5, a6, a7, a8⟩, h2, h3, h4, h5, h6, h7⟩ := h
  obtain ⟨k', q', F'⟩ := s'
  obtain ⟨k0, q0, F0⟩ := s
  obtain ⟨e1, e2, hm, e3⟩ := hst
  dsimp only at *
  subst e1 e3
  have hg : ∀ x, x < W.heap.size → grow F0 W W' x → F0 x := fun x hx hg => by
    rcases hg with hg | hg
    · exact hg
    · omega
  have hblt := lt_of_block a1
  refine ⟨⟨⟨a1.keeps hm.2 a3, hm.1, fun hx => a3 (hg _ hblt hx), hm.2.at a4 a6, hm.2.at a5 a7, fun hx => a6 (hg _ (by omega) hx), fun hx => a7 (hg _ (by omega) hx), ?_⟩, fun p hp => ⟨hm.2.at (h2 p hp).1 (h2 p hp).2.1, fun hx => (h2 p hp).2.1 (hg _ (by have := (h2 p hp).2.2; omega) hx), (h2 p hp).2.2⟩, fun x hx => ?_, Nat.lt_of_lt_of_le h4 hm.2.size, h5, h6.trans hm.2 (fun x hx hf => ?_), fun x hx => ?_⟩, KeepsRec.of hm.2 (fun x hx hd => by have := h3 x hx; omega)⟩
  · dsimp only
    rw [e2]
    by_cases hk : k0 = 0
    · subst hk
      simp at a8 ⊢
      omega
    · rw [if_neg hk] at a8 ⊢
      rw [if_neg (by omega)]
      omega
  · rcases hx with hx | hx
    · exact h3 x hx
    · right; omega
  · rcases h7 x hf with h | h
    · exact .inl h
    · omega
  · rcases hx with hx | hx
    · exact h7 x hx
    · right; have := h6.size; omega

end

/-- The caller has turned its one block. -/
theorem LkI.own1 {w : World} {F : Nat → Prop} {D bl b bo : Nat} {bi bp : Nat → Nat} {ks : List Nat} {n : Int} {B1 B2 v Q0 cb B0 : Nat} {f : List Nat → Obj} {pre : List Nat} {s : LkG} {W : World} (h : LkI w F D bl b bo bi bp ks n B1 B2 v Q0 cb (fun p => [(B0, f p)]) pre s W)
    (hne : B0 ≠ B1 ∧ B0 ≠ B2 ∧ B0 ≠ bl ∧ w.heap.size ≤ B0) {W' : World} (k : Keeps (fun x => x = B0) W W') (x : Nat) (hb : W'.heap[B0]? = some (f (pre ++ [x]))) : LkI w F D bl b bo bi bp ks n B1 B2 v Q0 cb (fun p => [(B0, f p)]) (pre ++ [x]) s W' := by
  obtain ⟨⟨a1, a2, a3, a4, a5, a6, a7, a8⟩, h2, h3, h4, h5, h6, h7⟩ := h
  have h0 := h2 (B0, f pre) (by simp)
  refine ⟨⟨a1.keeps k (fun e => hne.2.2.1 e.symm), a2.keeps k (fun x hx hg => h0.2.1 (hg ▸ hx)), a3, k.at a4 (fun e => hne.1 e.symm), k.at a5 (fun e => hne.2.1 e.symm), a6, a7, ?_⟩, fun p hp => ?_, h3, Nat.lt_of_lt_of_le h4 k.size, h5, h6.trans k (fun x hx hg => by omega), h7⟩
  · have h8 : cb * pre.length ≤ cb * (pre ++ [x]).length := Nat.mul_le_mul_left _ (by simp)
    omega
  · simp only [List.mem_singleton] at hp
    subst hp
    exact ⟨hb, h0.2⟩

theorem LkI.ends {w : World} {F : Nat → Prop} {D bl b bo : Nat} {bi bp : Nat → Nat} {ks : List Nat} {n : Nat} {B1 B2 v Q0 cb : Nat} {ow : List Nat → List (Nat × Obj)} {pre : List Nat} {s : LkG} {W : World} (h : LkI w F D bl b bo bi bp ks n B1 B2 v Q0 cb ow pre s W) {q m : Nat} (hq : s.2.1 ≤ q) (hm : n = m) (hold : ∀ x, F x → x < w.heap.size) (hbl : bl < w.heap.size) (hbF : ¬ F bl) : LookQ w bl b bo bi bp ks q F m W := by
  subst hm
  refine ⟨⟨h.st.own, (h.st.mix.more hq).mono (fun x hx => ?_) ?_, fun hx => ?_⟩, h.k⟩
  · rcases h.fr x hx with h1 | h1
    · exact .inl h1
    · exact .inr ⟨h1, h.st.mix.old x hx⟩
  · rintro x (hx | hx)
    · have := hold x hx; have := h.k.size; omega
    · exact hx.2
  · rcases hx with hx | hx
    · exact hbF hx
    · omega

theorem sl_lit1 (w : World) (v : Int) : Sl .i64 (w.alloc (.cells #[.int .i64 v] 3)) (.slice (some ⟨w.heap.size, 0, none⟩) 1 1) [v] := by
  refine ⟨_, _, rfl, by simp, by decide, by simp, fun j z hj => ⟨w.heap.size, 0, rfl, ?_⟩⟩
  match j, hj with
  | 0, hj =>
    obtain rfl : v = z := by simpa using hj
    exact World.cell_of_heap (heap_alloc_new w (.cells #[.int .i64 v] 3)) 0
  | j + 1, hj => simp at hj

theorem SeqS.mono {α σ : Type} {F : Fence} {n : Nat} {P : Program} {g : Nat} {lb : Array Value} {encs : α → Array Value} {St : σ → World → σ → World → Prop} {Rd : σ → σ → Prop} {At : List α → σ → World → Prop} {S Sp S' Sp' : List α → σ → Prop} {N : Nat} {Ok : Nat → α → σ → Prop} {s0 : σ}
    (h : SeqS F n P g lb encs St Rd At S Sp N Ok s0) (hS : ∀ xs s, S xs s → S' xs s) (hSp : ∀ xs s, Sp xs s → Sp' xs s) : SeqS F n P g lb encs St Rd At S' Sp' N Ok s0 :=
  fun l J Jx W h1 h2 h3 h4 => (h l J Jx W h1 h2 h3 h4).mono (fun _ _ hh => ⟨hh.1, hh.2.elim (fun ⟨xs, s, k1, k2⟩ => .inl ⟨xs, s, hS xs s k1, k2⟩) (fun ⟨xs, s, k1, k2⟩ => .inr ⟨xs, s, hSp xs s k1, k2⟩)⟩)

set_option maxRecDepth 100000 in
set_option maxHeartbeats 4000000 in
theorem lookDegree_gen {w : World} {bl b bo : Nat} {bi bp : Nat → Nat} {ks : List Nat} {q : Nat} {F : Nat → Prop} {n : Nat} (h : LookS w bl b bo bi bp ks q F n) (hn : n ≤ 1000000) (hq : q ≤ 5000000) (v : Nat) (hv : v < nvK ks) (xs0 : List Nat) (Sp : List Nat → LkG → Prop) (N : Nat) (Ok : Nat → Nat → LkG → Prop) (hN0 : N ≤ 1000) (hxL : xs0.length ≤ ks.length)
    (hseq : ∀ B1 B2 Q0 F0, Q0 ≤ 9000000 → SeqS Fence.wide 2 Tryz.prog 182 #[.pointer (some ⟨B1, 0, none⟩), .pointer (some ⟨B2, 0, none⟩)] (fun x : Nat => #[.int .i64 x]) (lkSt b bo bi bp ks) lkRd (LkAt bl b bo bi bp ks (n + 1 : Nat) B1 B2 v Q0 0) (fun xs s => xs = xs0 ∧ s.1 = xs0.length + 1) Sp N Ok (0, Q0, F0)) :
    Calls Tryz.prog 39 #[.pointer (some ⟨bl, 0, none⟩), .int .i64 v] w fun e w' => e = .returned (.tuple #[.int .i64 (xs0.length : Nat), .int .i64 0]) ∧ LookQ w bl b bo bi bp ks (q + 10 * ks.length + 10) F (n + 1) w' := by
  have k1 := (Keeps.refl (fun _ => False) w).alloc (.cells #[.int .i64 v] 3)
  have hN := lookNumber_any (h.keeps k1 (fun _ _ h => h)) hn (by omega) (.slice (some ⟨w.heap.size, 0, none⟩) 1 1) [(v : Int)] (sl_lit1 w v) (fun k e => by simp only [Value.ownBlock, Option.some.injEq] at e; subst e; rintro (hx | hx); exact absurd (h.mix.old _ hx) (by omega); have := h.lt; omega) (by simp)
  have hblw := h.lt
  have hFw := h.mix.old
  have hbF := h.sep
  have HSQ := Lib.hid hseq
  have HX := Lib.hid hxL
  clear h hseq hxL
  refine (callsIn_wide (n := 3)).1 ?_
  refine callsIn_of_wp_marks Tryz.func39 rfl trivial ?_ rfl
  simp only [Tryz.ntmps39, List.size_toArray, List.length_cons, List.length_nil, Nat.reduceAdd, Nat.reduceSub, Array.replicate_succ, Array.replicate_zero, List.push_toArray, List.append_toArray, List.nil_append, List.cons_append]
  gi_wp2
  refine ⟨trivial, callsIn_wide.2 (hN.mono ?_)⟩
  rintro e w2 ⟨⟨c, rfl, hc⟩, hQ⟩
  rcases hc with ⟨hok, rfl⟩ | ⟨hno, rfl⟩
  rotate_left
  · exact absurd (fun z hz => by simp at hz; subst hz; omega) hno
  · have hA := fun w => lookAround_any bl v w
    gi_wp2
    refine ⟨trivial, callsIn_wide.2 ((hA _).mono ?_)⟩
    rintro e w3 ⟨rfl, rfl⟩
    clear hA hN hok
    obtain ⟨W3, hW3⟩ : ∃ W3, W3 = (((w2.alloc (.cells #[.int .i64 0] 3)).alloc (boxL bl)).alloc (boxI v)) := ⟨_, rfl⟩
    have hD : W3.heap.size = w2.heap.size + 3 := by rw [hW3]; simp
    have hs2 := hQ.2.size
    have hs1 : (w.alloc (.cells #[.int .i64 v] 3)).heap.size = w.heap.size + 1 := by simp
    have hkW : Keeps (fun x => F x ∨ x = bl) w w2 := (k1.mono (fun _ _ h => h.elim)).trans hQ.2 (fun x hx hg => hg)
    have hs12 : w.heap.size < w2.heap.size := by omega
    obtain ⟨n1, hn1⟩ : ∃ n1 : Nat, n1 = n + 1 := ⟨_, rfl⟩
    have hI0 : ∀ o o', LkI w F W3.heap.size bl b bo bi bp ks n1 (w2.heap.size + 1) (w2.heap.size + 1 + 1) v (q + 2) 0 (fun p => [(w2.heap.size, boxI p.length)]) [] (0, q + 2, grow F (w.alloc (.cells #[.int .i64 v] 3)) w2) ((W3.alloc o).alloc o') := by
      intro o o'
      have kB := (((Keeps.refl (fun _ => False) w2).alloc (.cells #[.int .i64 0] 3)).alloc (boxL bl)).alloc (boxI v)
      have kA := kB.alloc o
      have kA := kA.alloc o'
      rw [← hW3] at kA
      have kC := ((Keeps.refl (fun _ => False) W3).alloc o).alloc o'
      have hLS := hQ.1.keeps kA (fun _ _ h => h)
      have b0 : W3.heap[w2.heap.size]? = some (boxI (0 : Nat)) := by
        rw [hW3]
        exact (((Keeps.refl (fun _ => False) (w2.alloc (.cells #[.int .i64 0] 3))).alloc (boxL bl)).alloc (boxI v)).at (heap_alloc_new w2 _) (fun h => h)
      have b1 : W3.heap[w2.heap.size + 1]? = some (boxL bl) := by
        rw [hW3]
        have hz : (w2.alloc (.cells #[.int .i64 0] 3)).heap.size = w2.heap.size + 1 := by simp
        rw [← hz]
        exact ((Keeps.refl (fun _ => False) ((w2.alloc (.cells #[.int .i64 0] 3)).alloc (boxL bl))).alloc (boxI v)).at (heap_alloc_new _ _) (fun h => h)
      have b2 : W3.heap[w2.heap.size + 1 + 1]? = some (boxI v) := by
        rw [hW3]
        have hz : ((w2.alloc (.cells #[.int .i64 0] 3)).alloc (boxL bl)).heap.size = w2.heap.size + 1 + 1 := by simp
        rw [← hz]
        exact heap_alloc_new _ _
      have hgo := hQ.1.mix.old
      have hblq := hQ.1.lt
      refine ⟨⟨by rw [hn1]; exact hLS.own, hLS.mix, hLS.sep, kC.at b1 (fun h => h), kC.at b2 (fun h => h), fun hx => by have := hgo _ hx; omega, fun hx => by have := hgo _ hx; omega, by simp⟩, fun p hp => ?_, fun x hx => by have := hgo _ hx; omega, by simp, ⟨by omega, by omega, by omega, by omega⟩, hkW.trans kA (fun _ _ h => h.elim), fun x hx => ?_⟩
      · simp only [List.mem_singleton] at hp
        subst hp
        exact ⟨kC.at b0 (fun h => h), fun hx => by have := hgo _ hx; omega, by show w2.heap.size < _; omega⟩
      · rcases hx with hx | hx
        · exact .inl hx
        · right; omega
    have HI0 := Lib.hid hI0
    have HQ := Lib.hid hQ
    have HD := Lib.hid hD
    have HW3 := Lib.hid hW3
    have HN1 := Lib.hid hn1
    clear hI0 hQ hkW k1 hD hs1 hn1
    gi_wp2
    rw [← hW3]
    clear hW3
    refine wpIn_rangeFunc_ownS rfl (by decide) (gf := 182) (lb := #[.pointer (some ⟨w2.heap.size + 1, 0, none⟩), .pointer (some ⟨w2.heap.size + 1 + 1, 0, none⟩)]) rfl trivial (enters_of Tryz.func182 (by kernel_rfl) rfl)
      (by rw [HN1.out]; exact HSQ.out _ _ _ (grow F (w.alloc (.cells #[.int .i64 v] 3)) w2) (by omega)) (fun _ => rfl)
      (LkI w F W3.heap.size bl b bo bi bp ks n1 (w2.heap.size + 1) (w2.heap.size + 1 + 1) v (q + 2) 0 (fun p => [(w2.heap.size, boxI p.length)])) (fun _ _ _ _ => False)
      (fun xs s A hs => hs.st) ?hst ?hput (fun _ _ _ _ _ _ _ h => h.elim) ?h0
      (fun x => { tmps := #[.pointer (some ⟨bl, 0, none⟩), .int .i64 v, undef, undef, .int .i64 0, .int .i64 0, .int .i64 0, .pointer (some ⟨w2.heap.size, 0, none⟩), .pointer (some ⟨bl, 0, none⟩), .int .i64 v, .slice (some ⟨w.heap.size, 0, none⟩) 1 1, .int .i64 0, .int .i64 0, .bool false, undef, .pointer (some ⟨bl, 0, none⟩), .int .i64 v, .func (.func 182) #[] #[.pointer (some ⟨w2.heap.size + 1, 0, none⟩), .pointer (some ⟨w2.heap.size + 1 + 1, 0, none⟩)], .int .i64 x, undef, undef, undef], defers := [] }) ?assign ?body ?done ?stop
    case hst => exact fun xs s A s' B hs hst => hs.step hst
    case hput => exact fun xs s W l o o' hs hl _ _ => hs.put l o' hl
    case h0 => exact HI0.out
    case assign =>
      intro l x W K hK
      gi_wp2
      simpa using hK
    case body =>
      rintro l pre x s W hI hlen _
      have hlen2 : pre.length < 1000 := by omega
      have hb0 := (hI.own (w2.heap.size, boxI pre.length) (by simp)).1
      have hlt := (hI.own (w2.heap.size, boxI pre.length) (by simp)).2.2
      have c0 : W.cell? ⟨w2.heap.size, 0, none⟩ = some (.int .i64 pre.length) := World.cell_of_heap hb0 0
      have z0 := World.free_of_heap hb0 0
      have hk := (Keeps.refl (fun x => x = w2.heap.size) W).setCell (p := ⟨w2.heap.size, 0, none⟩) (.inl rfl) (.int .i64 (pre.length + 1))
      have hb1 : (W.setCell ⟨w2.heap.size, 0, none⟩ (.int .i64 (pre.length + 1))).heap[w2.heap.size]? = some (boxI ((pre ++ [x]).length : Nat)) := by
        rw [heap_setCell_same hb0 0 _]
        simp [boxI]
      have hI2 := hI.own1 ⟨by omega, by omega, by omega, by omega⟩ hk x hb1
      have HF := Lib.hid (And.intro hI2 (KeepsRec.of (D := W3.heap.size) hk (fun x hx hd => by have := HD.out; omega)))
      clear hI hI2 hk hb1 hb0
      gi_wp2
      exact ⟨HF.out.2, s, rfl, HF.out.1⟩
    case done =>
      rintro xs s W ⟨rfl, hs1k⟩ hI hK
      have hb0 := (hI.own (w2.heap.size, boxI xs.length) (by simp)).1
      have c0 : W.cell? ⟨w2.heap.size, 0, none⟩ = some (.int .i64 (xs.length : Nat)) := World.cell_of_heap hb0 0
      have HI := Lib.hid hI
      clear hI hb0
      gi_wp2
      refine ⟨by simp, .inl ⟨_, _, rfl, run_takeDeferred hK, ?_⟩⟩
      refine ⟨_, by simp [results, Tryz.results39, go_sem], rfl, ?_⟩
      have hI2 := HI.out.put W3.heap.size (.deferred none) (.inl rfl)
      have hpL := HX.out
      exact hI2.ends (by have h8 := hI2.st.q; rw [hs1k] at h8; simp at h8; omega) HN1.out hFw hblw hbF
    case stop =>
      rintro c pre s W _ h _
      exact h.elim

theorem lookDegree_in {w : World} {bl b bo : Nat} {bi bp : Nat → Nat} {ks : List Nat} {q : Nat} {F : Nat → Prop} {n : Nat} (h : LookS w bl b bo bi bp ks q F n) (hn : n ≤ 1000000) (hq : q ≤ 5000000) (hw : Wd ks) (hL : ks.length ≤ 1000) (v f0 : Nat) (hv : v < nvK ks) (hf : FirstOf ks v (f0 : Nat)) (hf0 : f0 < ks.length) :
    Calls Tryz.prog 39 #[.pointer (some ⟨bl, 0, none⟩), .int .i64 v] w fun e w' => e = .returned (.tuple #[.int .i64 (per (tn ks) f0 : Nat), .int .i64 0]) ∧ LookQ w bl b bo bi bp ks (q + 10 * ks.length + 10) F (n + 1) w' := by
  have hp := (hw.tn_isP.per_spec hf0).2.1
  have := lookDegree_gen h hn hq v hv (orb (tn ks) f0) (fun pre s => ∃ j, j < per (tn ks) f0 ∧ pre = (orb (tn ks) f0).take (j + 1) ∧ s.1 = j + 1) (per (tn ks) f0) (fun j x s => (orb (tn ks) f0)[j]? = some x ∧ s.1 = j + 1) (by omega) (by rw [orb_length]; omega)
    (fun B1 B2 Q0 F0 hQ => (around_seq 2 bl b bo bi bp ks (n + 1 : Nat) B1 B2 v Q0 0 f0 F0 hw hf hf0 hL (by omega)).mono (fun xs s hs => ⟨hs.1, by rw [orb_length]; exact hs.2⟩) (fun _ _ h => h))
  rwa [orb_length] at this

end Go.Proofs.YtipelclohcdkcaaGreat
