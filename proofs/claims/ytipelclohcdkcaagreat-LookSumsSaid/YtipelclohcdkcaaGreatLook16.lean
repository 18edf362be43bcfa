/- look.First; what the document says of first places. -/
import Derived.Test.YtipelclohcdkcaaGreatMade13
namespace Go.Proofs.YtipelclohcdkcaaGreat
open Go.RowKit

theorem fsL_get {s : List Nat} {f : Nat} (hr : rep (sg s) f = f) : ∀ j, f < j → (fsL s j)[ldr (sg s) f]? = some f := by
  intro j
  induction j with
  | zero => intro h; omega
  | succ j ih =>
    intro h
    rw [fsL_succ]
    rcases Nat.lt_or_ge f j with h1 | h1
    · have := ih h1
      rw [List.getElem?_append_left (lt_of_get this)]
      exact this
    · obtain rfl : f = j := by omega
      rw [if_pos hr, List.getElem?_append_right (by rw [fsL_length]; exact Nat.le_refl _), fsL_length, Nat.sub_self]
      rfl

theorem Wd.fs_get {ks : List Nat} (h : Wd ks) {v f : Nat} (hf : FirstOf ks v f) (hfn : f < ks.length) : (fsL (tnL ks) ks.length)[v]? = some f := by
  have h1 := h.tnL_isP
  rw [tnL_length] at h1
  have he : ∀ d, d < ks.length → sg (tnL ks) d = tn ks d := fun d hd => sg_tnL hd
  have hrs : rep (tn ks) f = f ∧ ldr (tn ks) f = v := by
    rw [h.ldr_tn f (by omega), h.rep_self hfn]
    rcases hf with ⟨h0, h2⟩ | ⟨h0, rfl, h2⟩ | ⟨h0, u, o, rfl, hs, h2⟩
    · omega
    · obtain rfl : f = 0 := by omega
      exact ⟨.inl rfl, by rw [if_pos rfl]⟩
    · obtain rfl : f = o + 1 := by omega
      exact ⟨.inr ⟨by omega, hs.1⟩, by rw [if_neg (by omega), Nat.add_sub_cancel, hs.2]⟩
  have h2 := fsL_get (s := tnL ks) (f := f) (by rw [rep_congr h1 h.tn_isP he hfn]; exact hrs.1) ks.length hfn
  rwa [ldr_congr h1 h.tn_isP he f (by omega), hrs.2] at h2

theorem Wd.fs_len {ks : List Nat} (h : Wd ks) (hn : 0 < ks.length) : (fsL (tnL ks) ks.length).length = nvK ks := by
  have h1 := h.tnL_isP
  rw [tnL_length] at h1
  rw [fsL_length, ldr_congr h1 h.tn_isP (fun d hd => sg_tnL hd) _ (Nat.le_refl _), h.ldr_all hn]
  rfl

section
variable {w : World} {bl b bo : Nat} {bi bp : Nat → Nat} {ks : List Nat} {q : Nat} {F : Nat → Prop} {n : Nat}

set_option maxRecDepth 100000 in
set_option maxHeartbeats 4000000 in
theorem lookFirstQ_any (h : LookS w bl b bo bi bp ks q F n) (hn : n ≤ 1000000) (hq : q ≤ 5000000) (hL : ks.length ≤ 1000) (v : Nat) (f r c : Int) (hv : v < nvK ks) (hf : FirstOf ks v f) (hrc : (f < 0 ∧ r = 0 ∧ c = 1) ∨ (0 ≤ f ∧ r = f ∧ c = 0)) :
    Calls Tryz.prog 38 #[.pointer (some ⟨bl, 0, none⟩), .int .i64 v] w fun e w' => e = .returned (.tuple #[.int .i64 r, .int .i64 c]) ∧ LookQ w bl b bo bi bp ks (q + 4 * ks.length + 10) F (n + 1) w' := by
  have k1 := (Keeps.refl (fun _ => False) w).alloc (.cells #[.int .i64 v] 3)
  have hN := lookNumber_any (h.keeps k1 (fun _ _ h => h)) hn (by omega) (.slice (some ⟨w.heap.size, 0, none⟩) 1 1) [(v : Int)] (sl_lit1 w v) (fun k e => by simp only [Value.ownBlock, Option.some.injEq] at e; subst e; rintro (hx | hx); exact absurd (h.mix.old _ hx) (by omega); have := h.lt; omega) (by simp)
  have HH := Lib.hid (And.intro h k1)
  have hfb : -1 ≤ f ∧ f ≤ 100000 := by
    rcases hf with ⟨_, rfl⟩ | ⟨_, _, rfl⟩ | ⟨_, u, o, _, hs, rfl⟩
    · omega
    · omega
    · have := lt_of_get hs.1; omega
  clear h k1
  go_enter Tryz.func38, Tryz.ntmps38
  go_wp2_with fail
  refine hN.mono ?_
  rintro e w2 ⟨⟨c, rfl, hc⟩, hQ⟩
  rcases hc with ⟨hok, rfl⟩ | ⟨hno, rfl⟩
  rotate_left
  · exact absurd (fun z hz => by simp at hz; subst hz; omega) hno
  · have hF1 := lookFirst_in hQ.1.mix.old hQ.1.mix.after hQ.1.own hQ.1.sep v f (by simp; omega) hf
    clear hN hok
    go_wp2_with fail
    refine hF1.mono ?_
    rintro e w3 ⟨rfl, h3⟩
    clear hF1
    have hoW : ∀ x, F x → x < (w.alloc (.cells #[.int .i64 v] 3)).heap.size := fun x hx => by have := HH.out.1.mix.old x hx; simp; omega
    have hbW : bl < (w.alloc (.cells #[.int .i64 v] 3)).heap.size := by have := HH.out.1.lt; simp; omega
    have L3 := LookQ.trans hoW hbW HH.out.1.sep hQ (hQ.1.ask h3)
    rcases hrc with ⟨hf0, rfl, rfl⟩ | ⟨hf0, rfl, rfl⟩
    · have hd : decide (f < 0) = true := decide_eq_true hf0
      have HF := Lib.hid ((LookQ.fresh HH.out.1 HH.out.2 L3).more (q' := q + 4 * ks.length + 10) (by simp; omega))
      clear hQ h3 L3 hoW hbW
      go_wp2
      go_ret2
      exact ⟨rfl, HF.out⟩
    · have hd : decide (r < 0) = false := decide_eq_false (by omega)
      have hF2 := lookFirst_in L3.1.mix.old L3.1.mix.after L3.1.own L3.1.sep v r (by simp; omega) hf
      have HL : Hid (∀ w4, MixQ w3 b bo bi bp ks (q + 2 * [(v : Int)].length + 2 + 2 * ks.length + 2 + 2 * ks.length) (grow F (w.alloc (.cells #[.int .i64 v] 3)) w3) w4 → LookQ w bl b bo bi bp ks (q + 4 * ks.length + 10) F (n + 1) w4) := Lib.hid (fun w4 h4 => (LookQ.fresh HH.out.1 HH.out.2 (LookQ.trans hoW hbW HH.out.1.sep L3 (L3.1.ask h4))).more (by simp; omega))
      clear hQ h3 L3 hoW hbW
      go_wp2_with fail
      refine hF2.mono ?_
      rintro e w4 ⟨rfl, h4⟩
      have HF := Lib.hid (HL.out w4 h4)
      clear hF2 h4
      go_wp2
      go_ret2
      exact ⟨rfl, HF.out⟩

set_option maxRecDepth 100000 in
set_option maxHeartbeats 4000000 in
theorem lookFirstQ_out (h : LookS w bl b bo bi bp ks q F n) (hn : n ≤ 1000000) (hq : q ≤ 5000000) (v : Int) (hv : ¬ (0 ≤ v ∧ v < nvK ks)) :
    Calls Tryz.prog 38 #[.pointer (some ⟨bl, 0, none⟩), .int .i64 v] w fun e w' => e = .returned (.tuple #[.int .i64 0, .int .i64 1]) ∧ LookQ w bl b bo bi bp ks (q + 2) F (n + 1) w' := by
  have k1 := (Keeps.refl (fun _ => False) w).alloc (.cells #[.int .i64 v] 3)
  have hN := lookNumber_any (h.keeps k1 (fun _ _ h => h)) hn (by omega) (.slice (some ⟨w.heap.size, 0, none⟩) 1 1) [v] (sl_lit1 w v) (fun k e => by simp only [Value.ownBlock, Option.some.injEq] at e; subst e; rintro (hx | hx); exact absurd (h.mix.old _ hx) (by omega); have := h.lt; omega) (by simp)
  have HH := Lib.hid (And.intro h k1)
  clear h k1
  go_enter Tryz.func38, Tryz.ntmps38
  go_wp2_with fail
  refine hN.mono ?_
  rintro e w2 ⟨⟨c, rfl, hc⟩, hQ⟩
  rcases hc with ⟨hok, rfl⟩ | ⟨hno, rfl⟩
  · exact absurd (hok v (by simp)) hv
  · have HF := Lib.hid (LookQ.fresh HH.out.1 HH.out.2 hQ)
    clear hN hQ hno
    go_wp2
    go_ret2
    exact ⟨rfl, HF.out⟩
end

end Go.Proofs.YtipelclohcdkcaaGreat
