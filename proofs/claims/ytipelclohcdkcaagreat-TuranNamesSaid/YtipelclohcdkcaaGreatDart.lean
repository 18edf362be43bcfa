/- The contracts of package dart: a map in memory, and what it is asked. -/
import Derived.Test.YtipelclohcdkcaaGreatTell
import Derived.Laws.BitsLemmas
import Derived.Laws.Bits64
namespace Go.Proofs.YtipelclohcdkcaaGreat
open Go.RowKit

theorem xor1 (a : Nat) : a ^^^ 1 = mt a := by
  have h1 : (a ^^^ 1) / 2 = a / 2 := by
    have := Nat.xor_div_two (a := a) (b := 1)
    simpa using this
  have h2 : (decide ((a ^^^ 1) % 2 = 1)) = (decide (a % 2 = 1) ^^ true) := by
    rw [← Nat.testBit_zero, Nat.testBit_xor, Nat.testBit_zero, Nat.testBit_zero]; rfl
  unfold mt
  by_cases h : a % 2 = 1
  · have h3 : ¬ (a ^^^ 1) % 2 = 1 := fun e => by rw [decide_eq_true e, decide_eq_true h] at h2; cases h2
    rw [if_neg (by omega)]; omega
  · have h3 : (a ^^^ 1) % 2 = 1 := Classical.byContradiction (fun e => by rw [decide_eq_false e, decide_eq_false h] at h2; cases h2)
    rw [if_pos (by omega)]; omega

theorem xor_i64 (a : Nat) (ha : a ≤ 1000000000) : bits .xor .i64 (a : Int) 1 = ((mt a : Nat) : Int) := by
  have hx : a ^^^ 1 < 2 ^ 63 := Nat.xor_lt_two_pow (by omega) (by omega)
  have h1 : (BitVec.ofInt 64 (a : Int)).toNat = a := by
    rw [BitVec.ofInt_natCast, BitVec.toNat_ofNat]; exact Nat.mod_eq_of_lt (by omega)
  have h2 : (BitVec.ofInt 64 (1 : Int)).toNat = 1 := by decide
  show IntKind.i64.wrap ((BitVec.ofInt 64 (a : Int) ^^^ BitVec.ofInt 64 (1 : Int)).toNat : Int) = _
  rw [BitVec.toNat_xor, h1, h2, ← xor1]
  exact IntWalk.i64_in _ (by omega)

/-- Names, told or not. -/
def NmT (w : World) (done : Bool) (ov zv : Value) (s : List Nat) : Prop :=
  if done then Sl .i64 w ov (nats ((List.range s.length).map (vnum (sg s)))) ∧ Sl .i64 w zv (nats (szJ (sg s) s.length)) else ov = .slice none 0 0 ∧ zv = .slice none 0 0

theorem NmT.keeps {w w' : World} {G : Nat → Prop} {done : Bool} {ov zv : Value} {s : List Nat} (h : NmT w done ov zv s) (k : Keeps G w w') (ho : ∀ q, (ov.ownBlock = some q ∨ zv.ownBlock = some q) → ¬ G q) : NmT w' done ov zv s := by
  cases done with
  | true => exact ⟨h.1.keeps k (fun q hq => ho q (.inl hq)), h.2.keeps k (fun q hq => ho q (.inr hq))⟩
  | false => exact h

theorem tellEnter (b o : Nat) (W : World) : (callFunc 190 #[.pointer (some ⟨b, o, none⟩)]).run Tryz.prog W = .ok (.enter 190 #[.pointer (some ⟨b, o, none⟩)]) W := by
  go_simp

/-- What Do leaves. -/
def NmDone (w : World) (b o : Nat) (t : TypeId) (cs : Array Value) (bp : Nat) (ov zv : Value) (s : List Nat) (w' : World) : Prop :=
  ∃ ov' zv', NB w' b o t cs bp true 0 ov' zv' ∧ NmT w' true ov' zv' s ∧ (∀ k, ov'.ownBlock = some k → ov.ownBlock = some k ∨ (w.heap.size ≤ k ∧ k < w'.heap.size)) ∧ (∀ k, zv'.ownBlock = some k → zv.ownBlock = some k ∨ (w.heap.size ≤ k ∧ k < w'.heap.size)) ∧ Keeps (fun k => k = b) w w'

set_option maxHeartbeats 400000 in
theorem nmDo_any (b o : Nat) (t : TypeId) (cs : Array Value) (bp : Nat) (done : Bool) (ov zv sv : Value) (s : List Nat) (w : World) (h : NB w b o t cs bp done 0 ov zv) (hT : NmT w done ov zv s) (hp : PermAt w bp sv s) (hbp : bp ≠ b) (hsv : sv.ownBlock ≠ some b) (hP : IsP s.length (sg s)) (hl : s.length ≤ 1000000) :
    Calls Tryz.prog 168 #[.pointer (some ⟨b, o + 1, none⟩), .func (.func 190) #[.pointer (some ⟨b, o, none⟩)] #[]] w fun e w' => e = .returned (.tuple #[]) ∧ NmDone w b o t cs bp ov zv s w' := by
  cases done with
  | true =>
    have c1 : w.cell? ⟨b, o + 1, none⟩ = some (.int .u32 1) := h.c1
    refine (do_done ⟨b, o + 1, none⟩ _ w c1).mono ?_
    rintro e w' ⟨rfl, rfl⟩
    exact ⟨rfl, _, _, h, hT, fun k hk => .inl hk, fun k hk => .inl hk, Keeps.refl _ _⟩
  | false =>
    obtain ⟨rfl, rfl⟩ : ov = .slice none 0 0 ∧ zv = .slice none 0 0 := hT
    have c1 : w.cell? ⟨b, o + 1, none⟩ = some (.int .u32 0) := h.c1
    have c2 : w.cell? ⟨b, o + 1 + 1, none⟩ = some (.int .i32 0) := h.c2
    have n0 := h.set2 1
    have k0 : Keeps (fun k => k = b) w (w.setCell ⟨b, o + 1 + 1, none⟩ (.int .i32 1)) := (Keeps.refl (fun k => k = b) w).setCell (p := ⟨b, o + 1 + 1, none⟩) (.inl rfl) _
    have hp0 := hp.keeps k0 hbp (fun k hk h => hsv (by rw [← h]; exact hk))
    have hM := tell_any b o t cs bp 1 sv s _ n0 hp0 hP hl
    refine (do_first b (o + 1) 190 #[.pointer (some ⟨b, o, none⟩)] (fun w1 => ToldAt (w.setCell ⟨b, o + 1 + 1, none⟩ (.int .i32 1)) b o t cs bp 1 s w1) w (tellEnter b o) c1 c2 (h.free _) (hM.mono ?_)).mono ?_
    · rintro e w1 ⟨rfl, hm⟩
      obtain ⟨ov, zv, nb, _⟩ := id hm
      exact ⟨rfl, nb.c1, nb.c2, nb.free _, nb.free _, hm⟩
    · rintro e w' ⟨rfl, w1, ⟨ov, zv, nb, h1, h2, h3, h4, k1⟩, rfl⟩
      have nb1 : NB w1.drew b o t cs bp false 1 ov zv := nb
      have nb2 := (nb1.set1 true).set2 0
      have k2 : Keeps (fun k => k = b) w1 ((w1.drew.setCell ⟨b, o + 1, none⟩ (.int .u32 1)).setCell ⟨b, o + 1 + 1, none⟩ (.int .i32 0)) := ((Keeps.refl (fun k => k = b) w1).drew.setCell (p := ⟨b, o + 1, none⟩) (.inl rfl) _).setCell (p := ⟨b, o + 1 + 1, none⟩) (.inl rfl) _
      have k3 := (k0.trans k1 (fun x _ h => h)).trans k2 (fun x _ h => h)
      have hbw := h.lt
      have hs : (w.setCell ⟨b, o + 1 + 1, none⟩ (.int .i32 1)).heap.size = w.heap.size := by simp
      rw [hs] at h3 h4
      refine ⟨rfl, ov, zv, nb2, ⟨h1.keeps k2 (fun q hq e => by have := (h3 q hq).1; omega), h2.keeps k2 (fun q hq e => by have := (h4 q hq).1; omega)⟩, fun k hk => .inr ⟨(h3 k hk).1, ?_⟩, fun k hk => .inr ⟨(h4 k hk).1, ?_⟩, k3⟩
      · exact Nat.lt_of_lt_of_le (h3 k hk).2 k2.size
      · exact Nat.lt_of_lt_of_le (h4 k hk).2 k2.size

set_option maxRecDepth 100000 in
set_option maxHeartbeats 1000000 in
theorem name_in (b o : Nat) (t : TypeId) (cs : Array Value) (bp : Nat) (done : Bool) (ov zv sv : Value) (s : List Nat) (d : Nat) (w : World) (h : NB w b o t cs bp done 0 ov zv) (hT : NmT w done ov zv s) (hp : PermAt w bp sv s) (hbp : bp ≠ b) (hsv : sv.ownBlock ≠ some b) (hP : IsP s.length (sg s)) (hl : s.length ≤ 1000000) (hd : d < s.length) :
    Calls Tryz.prog 144 #[.pointer (some ⟨b, o, none⟩), .int .i64 d] w fun e w' => e = .returned (.int .i64 (vnum (sg s) d : Nat)) ∧ NmDone w b o t cs bp ov zv s w' := by
  have hD := nmDo_any b o t cs bp done ov zv sv s w h hT hp hbp hsv hP hl
  have d0 : decide ((d : Int) < 0) = false := decide_eq_false (by omega)
  have d1 : decide (s.length ≤ d) = false := decide_eq_false (by omega)
  clear h hT hp hbp hsv hP
  go_enter Tryz.func144, Tryz.ntmps144
  go_wp2_with fail
  refine hD.mono ?_
  rintro e w1 ⟨rfl, ov', zv', nb, hT, h3, h4, hk⟩
  have hc4 := nb.c4
  obtain ⟨oa, oc, rfl, _, _⟩ := hT.1.form
  rw [nats_len, List.length_map, List.length_range] at hc4
  have hTO := hT.1
  rw [nats_len, List.length_map, List.length_range] at hTO
  obtain ⟨og, oo, rfl, hcell⟩ := hTO.cellAt (nats_get (show ((List.range s.length).map (vnum (sg s)))[d]? = some (vnum (sg s) d) by simp [hd]))
  have HF := Lib.hid (show NmDone w b o t cs bp ov zv s w1 from ⟨_, zv', nb, hT, h3, h4, hk⟩)
  clear hD nb hT h3 h4 hk hTO
  go_wp2
  go_ret
  exact ⟨rfl, HF.out⟩

set_option maxRecDepth 100000 in
set_option maxHeartbeats 1000000 in
theorem count_any (b o : Nat) (t : TypeId) (cs : Array Value) (bp : Nat) (done : Bool) (ov zv sv : Value) (s : List Nat) (w : World) (h : NB w b o t cs bp done 0 ov zv) (hT : NmT w done ov zv s) (hp : PermAt w bp sv s) (hbp : bp ≠ b) (hsv : sv.ownBlock ≠ some b) (hP : IsP s.length (sg s)) (hl : s.length ≤ 1000000) :
    Calls Tryz.prog 143 #[.pointer (some ⟨b, o, none⟩)] w fun e w' => e = .returned (.int .i64 (ldr (sg s) s.length : Nat)) ∧ NmDone w b o t cs bp ov zv s w' := by
  have hD := nmDo_any b o t cs bp done ov zv sv s w h hT hp hbp hsv hP hl
  clear h hT hp hbp hsv hP
  go_enter Tryz.func143, Tryz.ntmps143
  go_wp2_with fail
  refine hD.mono ?_
  rintro e w1 ⟨rfl, ov', zv', nb, hT, h3, h4, hk⟩
  have hc5 := nb.c5
  obtain ⟨za, zc, rfl, _, _⟩ := hT.2.form
  rw [nats_len, szJ_length] at hc5
  have HF := Lib.hid (show NmDone w b o t cs bp ov zv s w1 from ⟨ov', _, nb, hT, h3, h4, hk⟩)
  clear hD nb hT h3 h4 hk
  go_wp2
  go_ret
  exact ⟨rfl, HF.out⟩

end Go.Proofs.YtipelclohcdkcaaGreat
