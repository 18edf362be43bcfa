/- Layer 13's statements: LookVertices. -/
import Derived.Test.YtipelclohcdkcaaGreatLook16
import Derived.Test.YtipelclohcdkcaaGreatLaw13a
namespace Go.Proofs.YtipelclohcdkcaaGreat
open Go.RowKit

/-- What is read behind the questions. -/
def Rd13 (b12 : Nat) (vS vM vV vF : Value) (ks : List Nat) (W : World) : Prop :=
  W.heap[b12]? = some (.cells #[vS, vM, vV, vF] 48 (0, 0)) ∧ Sl .i64 W vS (nats (tnL ks)) ∧ Sl .i64 W vM (nats ((List.range ks.length).map (mp ks))) ∧ Sl .i64 W vV (nats ((List.range ks.length).map (vx ks))) ∧ Sl .i64 W vF (nats (fsL (tnL ks) ks.length))

theorem Rd13.keeps {b12 : Nat} {vS vM vV vF : Value} {ks : List Nat} {W W' : World} (h : Rd13 b12 vS vM vV vF ks W) {G : Nat → Prop} (k : Keeps G W W') (h12 : ¬ G b12) (hq : ∀ q, (vS.ownBlock = some q ∨ vM.ownBlock = some q ∨ vV.ownBlock = some q ∨ vF.ownBlock = some q) → ¬ G q) : Rd13 b12 vS vM vV vF ks W' :=
  ⟨k.at h.1 h12, h.2.1.keeps k (fun q h => hq q (.inl h)), h.2.2.1.keeps k (fun q h => hq q (.inr (.inl h))), h.2.2.2.1.keeps k (fun q h => hq q (.inr (.inr (.inl h)))), h.2.2.2.2.keeps k (fun q h => hq q (.inr (.inr (.inr h))))⟩

/-- Behind made, with the document's map boxed. -/
structure Asked13 (w wb : World) (ks : List Nat) (bl b bo : Nat) (bi bp : Nat → Nat) (F : Nat → Prop) (vS vM vV vF : Value) (b12 q n : Nat) (wr : World) : Prop where
  lq : LookQ wb bl b bo bi bp ks q F n wr
  fold : ∀ x, F x → w.heap.size ≤ x ∧ x < wb.heap.size
  blo : w.heap.size ≤ bl ∧ bl < wb.heap.size
  blF : ¬ F bl
  rd : Rd13 b12 vS vM vV vF ks wr
  b12o : b12 < wb.heap.size ∧ ¬ F b12 ∧ b12 ≠ bl
  sep : ∀ q, (vS.ownBlock = some q ∨ vM.ownBlock = some q ∨ vV.ownBlock = some q ∨ vF.ownBlock = some q) → ¬ F q ∧ q ≠ bl ∧ q < wb.heap.size
  kee : Keeps (fun _ => False) w wr

theorem MadeL.boxed {w w1 : World} {ks : List Nat} {bl b bo : Nat} {bi bp : Nat → Nat} {F : Nat → Prop} {vS vM vV vF : Value} (h : MadeL w ks bl b bo bi bp F vS vM vV vF w1) :
    Asked13 w (w1.alloc (.cells #[vS, vM, vV, vF] 48)) ks bl b bo bi bp F vS vM vV vF w1.heap.size 0 0 (w1.alloc (.cells #[vS, vM, vV, vF] 48)) := by
  have k := (Keeps.refl (fun _ => False) w1).alloc (.cells #[vS, vM, vV, vF] 48)
  have hsz : (w1.alloc (.cells #[vS, vM, vV, vF] 48)).heap.size = w1.heap.size + 1 := by simp
  have hS := h.look.keeps k (fun _ _ h => h)
  have hold := h.look.mix.old
  have hb := h.look.lt
  have hlt : ∀ q, (vS.ownBlock = some q ∨ vM.ownBlock = some q ∨ vV.ownBlock = some q ∨ vF.ownBlock = some q) → q < w1.heap.size := fun q hq => by
    rcases hq with hq | hq | hq | hq
    · exact (h.s.lt q hq).2
    · exact (h.m.lt q hq).2
    · exact (h.v.lt q hq).2
    · exact (h.f.lt q hq).2
  exact ⟨hS.q0, fun x hx => ⟨h.fr x hx, by have := hold x hx; omega⟩, ⟨h.lo, by omega⟩, h.look.sep,
    ⟨heap_alloc_new _ _, (h.s.keeps k (fun _ _ h => h)).sl, (h.m.keeps k (fun _ _ h => h)).sl, (h.v.keeps k (fun _ _ h => h)).sl, (h.f.keeps k (fun _ _ h => h)).sl⟩,
    ⟨by omega, fun hx => by have := hold _ hx; omega, by omega⟩, fun q hq => ⟨(h.sep q hq).1, (h.sep q hq).2, by have := hlt q hq; omega⟩, h.kee.trans k (fun _ _ h => h)⟩

theorem Asked13.ask {w wb wr wz : World} {ks : List Nat} {bl b bo : Nat} {bi bp : Nat → Nat} {F : Nat → Prop} {vS vM vV vF : Value} {b12 q n q' n' : Nat} (h : Asked13 w wb ks bl b bo bi bp F vS vM vV vF b12 q n wr) (k : LookQ wr bl b bo bi bp ks q' (grow F wb wr) n' wz) :
    Asked13 w wb ks bl b bo bi bp F vS vM vV vF b12 q' n' wz := by
  have hsz := h.lq.2.size
  have hg : ∀ x, x < wb.heap.size → ¬ F x → x ≠ bl → ¬ (grow F wb wr x ∨ x = bl) := fun x hx hF hb hh => by
    rcases hh with hh | hh
    · rcases hh with hh | hh
      · exact hF hh
      · omega
    · exact hb hh
  refine ⟨LookQ.trans (fun x hx => (h.fold x hx).2) h.blo.2 h.blF h.lq k, h.fold, h.blo, h.blF, h.rd.keeps k.2 (hg _ h.b12o.1 h.b12o.2.1 h.b12o.2.2) (fun q hq => ?_), h.b12o, h.sep, h.kee.trans k.2 (fun x hx hh => ?_)⟩
  · obtain ⟨h1, h2, h3⟩ := h.sep q hq
    exact hg q h3 h1 h2
  · rcases hh with hh | hh
    · rcases hh with hh | hh
      · have := (h.fold x hh).1; omega
      · have := h.kee.size; have := h.blo; have := h.lq.2.size; omega
    · have := h.blo; omega

/-- What the questions of a vertex give. -/
def VDesc (ks : List Nat) (v k r1 c1 r2 c2 r3 c3 : Int) : Prop :=
  (¬ (0 ≤ v ∧ v < nvK ks) ∧ r1 = 0 ∧ c1 = 1 ∧ r2 = 0 ∧ c2 = 1 ∧ r3 = 0 ∧ c3 = 1) ∨
  (v = 0 ∧ ks.length = 0 ∧ r1 = 0 ∧ c1 = 1 ∧ r2 = 0 ∧ c2 = 0 ∧ r3 = 0 ∧ c3 = 1) ∨
  (∃ u f : Nat, v = u ∧ 0 < ks.length ∧ u < nvK ks ∧ FirstOf ks u f ∧ f < ks.length ∧ r1 = f ∧ c1 = 0 ∧ r2 = per (tn ks) f ∧ c2 = 0 ∧
    ((k < 0 ∨ (per (tn ks) f : Nat) ≤ k) ∧ r3 = 0 ∧ c3 = 1 ∨ ∃ m : Nat, k = m ∧ m < per (tn ks) f ∧ r3 = vx ks (mp ks (itr (tn ks) m f)) ∧ c3 = 0))

theorem vAsk (bl b bo : Nat) (bi bp : Nat → Nat) {ks : List Nat} (hw : Wd ks) (hL : ks.length ≤ 1000) (v k : Int) (hk : k ≤ 9223372036854775807) : ∃ r1 c1 r2 c2 r3 c3 : Int, VDesc ks v k r1 c1 r2 c2 r3 c3 ∧
    (∀ w q F n, LookS w bl b bo bi bp ks q F n → n ≤ 1000000 → q ≤ 5000000 → Calls Tryz.prog 38 #[.pointer (some ⟨bl, 0, none⟩), .int .i64 v] w fun e w' => e = .returned (.tuple #[.int .i64 r1, .int .i64 c1]) ∧ LookQ w bl b bo bi bp ks (q + 20 * ks.length + 10) F (n + 1) w') ∧
    (∀ w q F n, LookS w bl b bo bi bp ks q F n → n ≤ 1000000 → q ≤ 5000000 → Calls Tryz.prog 39 #[.pointer (some ⟨bl, 0, none⟩), .int .i64 v] w fun e w' => e = .returned (.tuple #[.int .i64 r2, .int .i64 c2]) ∧ LookQ w bl b bo bi bp ks (q + 20 * ks.length + 10) F (n + 1) w') ∧
    (∀ w q F n, LookS w bl b bo bi bp ks q F n → n ≤ 1000000 → q ≤ 5000000 → Calls Tryz.prog 40 #[.pointer (some ⟨bl, 0, none⟩), .int .i64 v, .int .i64 k] w fun e w' => e = .returned (.tuple #[.int .i64 r3, .int .i64 c3]) ∧ LookQ w bl b bo bi bp ks (q + 20 * ks.length + 10) F (n + 1) w') := by
  by_cases hv : 0 ≤ v ∧ v < nvK ks
  · obtain ⟨h0, h1⟩ := hv
    obtain ⟨u, rfl⟩ := Int.eq_ofNat_of_zero_le h0
    have hu : u < nvK ks := by omega
    by_cases h00 : ks.length = 0
    · obtain rfl : u = 0 := by unfold nvK at hu; have := cntK_le ks 0; omega
      refine ⟨0, 1, 0, 0, 0, 1, .inr (.inl ⟨rfl, h00, rfl, rfl, rfl, rfl, rfl, rfl⟩), fun w q F n h hn hq => ?_, fun w q F n h hn hq => ?_, fun w q F n h hn hq => ?_⟩
      · refine (lookFirstQ_any h hn hq hL 0 (-1) 0 1 hu (.inl ⟨h00, rfl⟩) (.inl ⟨by omega, rfl, rfl⟩)).mono ?_
        rintro e w' ⟨rfl, hQ⟩
        exact ⟨rfl, hQ.more (by omega)⟩
      · refine (lookDegree_nil h hn hq h00).mono ?_
        rintro e w' ⟨rfl, hQ⟩
        exact ⟨rfl, hQ.more (by omega)⟩
      · by_cases hk0 : k < 0
        · refine (lookNth_out h hn hq _ k (.inr hk0)).mono ?_
          rintro e w' ⟨rfl, hQ⟩
          exact ⟨rfl, hQ.more (by omega)⟩
        · obtain ⟨m, rfl⟩ := Int.eq_ofNat_of_zero_le (show 0 ≤ k by omega)
          refine (lookNth_none h hn hq hw h00 m (by omega)).mono ?_
          rintro e w' ⟨⟨z, c, rfl, ⟨x, hx, _⟩ | ⟨_, rfl, rfl⟩⟩, hQ⟩
          · simp at hx
          · exact ⟨rfl, hQ.more (by omega)⟩
    · obtain ⟨f, hf, hfn⟩ := first_ex hw (by omega) hu
      have hF := fun w q F n (h : LookS w bl b bo bi bp ks q F n) hn hq => (lookFirstQ_any h hn hq hL u f f 0 hu hf (.inr ⟨by omega, rfl, rfl⟩)).mono (R' := fun e w' => e = .returned (.tuple #[.int .i64 f, .int .i64 0]) ∧ LookQ w bl b bo bi bp ks (q + 20 * ks.length + 10) F (n + 1) w') (by
        rintro e w' ⟨rfl, hQ⟩
        exact ⟨rfl, hQ.more (by omega)⟩)
      have hD := fun w q F n (h : LookS w bl b bo bi bp ks q F n) hn hq => (lookDegree_in h hn hq hw hL u f hu hf hfn).mono (R' := fun e w' => e = .returned (.tuple #[.int .i64 (per (tn ks) f : Nat), .int .i64 0]) ∧ LookQ w bl b bo bi bp ks (q + 20 * ks.length + 10) F (n + 1) w') (by
        rintro e w' ⟨rfl, hQ⟩
        exact ⟨rfl, hQ.more (by omega)⟩)
      by_cases hk0 : k < 0
      · refine ⟨f, 0, (per (tn ks) f : Nat), 0, 0, 1, .inr (.inr ⟨u, f, rfl, by omega, hu, hf, hfn, rfl, rfl, rfl, rfl, .inl ⟨.inl hk0, rfl, rfl⟩⟩), hF, hD, fun w q F n h hn hq => ?_⟩
        refine (lookNth_out h hn hq _ k (.inr hk0)).mono ?_
        rintro e w' ⟨rfl, hQ⟩
        exact ⟨rfl, hQ.more (by omega)⟩
      · obtain ⟨m, rfl⟩ := Int.eq_ofNat_of_zero_le (show 0 ≤ k by omega)
        by_cases hm : m < per (tn ks) f
        · refine ⟨f, 0, (per (tn ks) f : Nat), 0, (vx ks (mp ks (itr (tn ks) m f)) : Nat), 0, .inr (.inr ⟨u, f, rfl, by omega, hu, hf, hfn, rfl, rfl, rfl, rfl, .inr ⟨m, rfl, hm, rfl, rfl⟩⟩), hF, hD, fun w q F n h hn hq => ?_⟩
          refine (lookNth_in h hn hq hw hL u m f hu (by omega) hf hfn).mono ?_
          rintro e w' ⟨⟨z, c, rfl, ⟨x, hx, rfl, rfl⟩ | ⟨h1, rfl, rfl⟩⟩, hQ⟩
          · unfold orb at hx
            rw [List.getElem?_map, List.getElem?_range hm] at hx
            obtain rfl : itr (tn ks) m f = x := by simpa using hx
            exact ⟨rfl, hQ⟩
          · rw [orb_length] at h1; omega
        · refine ⟨f, 0, (per (tn ks) f : Nat), 0, 0, 1, .inr (.inr ⟨u, f, rfl, by omega, hu, hf, hfn, rfl, rfl, rfl, rfl, .inl ⟨.inr (by omega), rfl, rfl⟩⟩), hF, hD, fun w q F n h hn hq => ?_⟩
          refine (lookNth_in h hn hq hw hL u m f hu (by omega) hf hfn).mono ?_
          rintro e w' ⟨⟨z, c, rfl, ⟨x, hx, rfl, rfl⟩ | ⟨h1, rfl, rfl⟩⟩, hQ⟩
          · have := lt_of_get hx; rw [orb_length] at this; omega
          · exact ⟨rfl, hQ⟩
  · refine ⟨0, 1, 0, 1, 0, 1, .inl ⟨hv, rfl, rfl, rfl, rfl, rfl, rfl⟩, fun w q F n h hn hq => ?_, fun w q F n h hn hq => ?_, fun w q F n h hn hq => ?_⟩
    · refine (lookFirstQ_out h hn hq v hv).mono ?_
      rintro e w' ⟨rfl, hQ⟩
      exact ⟨rfl, hQ.more (by omega)⟩
    · refine (lookDegree_out h hn hq v hv).mono ?_
      rintro e w' ⟨rfl, hQ⟩
      exact ⟨rfl, hQ.more (by omega)⟩
    · refine (lookNth_out h hn hq v k (.inl hv)).mono ?_
      rintro e w' ⟨rfl, hQ⟩
      exact ⟨rfl, hQ.more (by omega)⟩

end Go.Proofs.YtipelclohcdkcaaGreat
