/- The contract of a map's degrees; four maps that are asked in turns. -/
import Derived.Test.YtcfdpogegngplaaGreatPzTurans
import Derived.Test.YtcfdpogegngplaaGreatPzJoins
namespace Go.Proofs.YtcfdpogegngplaaGreat
open Go.RowKit





/-- Maps of words, that are asked in turns. -/
def M4 (w wr : World) (B : Nat → Nat) (K : Nat → List Nat) (n : Nat) : Prop :=
  (∀ k, k < n → ∃ R, MapAt wr (B k) (decL (K k)) (if (K k).length = 0 then -1 else 0) (if (K k).length = 0 then 1 else 0) R ∧ ∀ i, i < n → ¬ R (B i)) ∧ (∀ k, k < n → w.heap.size ≤ B k) ∧
    (∀ i k, i < n → k < n → i ≠ k → B i ≠ B k) ∧ Keeps (fun _ => False) w wr

theorem M4.zero {w wr : World} {B : Nat → Nat} {K : Nat → List Nat} (k : Keeps (fun _ => False) w wr) : M4 w wr B K 0 := ⟨fun k hk => by omega, fun k hk => by omega, fun i k hi => by omega, k⟩

section
variable {w wr : World} {B : Nat → Nat} {K : Nat → List Nat} {n : Nat} (h : M4 w wr B K n)
include h

theorem M4.still {w' : World} (k : Keeps (fun _ => False) wr w') : M4 w w' B K n := by
  refine ⟨fun i hi => ?_, h.2.1, h.2.2.1, h.2.2.2.trans k (fun _ _ h => h)⟩
  obtain ⟨R, hA, hR⟩ := h.1 i hi
  exact ⟨R, hA.keeps k (fun h => h) (fun _ _ h => h), hR⟩

theorem M4.lt {k : Nat} (hk : k < n) : B k < wr.heap.size := by
  obtain ⟨R, hA, hR⟩ := h.1 k hk
  exact hA.lt

theorem M4.put {k : Nat} {w' : World} {R : Nat → Prop} (hk : k < n) (hR : ∀ i, i < n → ¬ R (B i)) (hq : MapQ wr (B k) (decL (K k)) (if (K k).length = 0 then -1 else 0) (if (K k).length = 0 then 1 else 0) R w') : M4 w w' B K n := by
  refine ⟨fun i hi => ?_, h.2.1, h.2.2.1, h.2.2.2.trans hq.2 (fun x hx e => by have := h.2.1 k hk; omega)⟩
  by_cases hik : i = k
  · subst hik
    refine ⟨_, hq.1, fun j hj e => ?_⟩
    rcases e with e | e
    · exact hR j hj e
    · have := h.lt hj; omega
  · obtain ⟨Q, hA, hQ⟩ := h.1 i hi
    exact ⟨Q, hA.keeps hq.2 (h.2.2.1 i k hi hk hik) (fun x hx e => hQ k hk (e ▸ hx)), hQ⟩

theorem M4.add {e : Ending} {w' : World} (hm : MadeMap wr (decL (K n)) (if (K n).length = 0 then -1 else 0) (if (K n).length = 0 then 1 else 0) e w') :
    ∃ b B', e = .returned (.tuple #[.pointer (some ⟨b, 0, none⟩), .int .i64 0]) ∧ B' n = b ∧ (∀ i, i < n → B' i = B i) ∧ M4 w w' B' K (n + 1) := by
  obtain ⟨b, rfl, hA, hb, hk⟩ := hm
  have hw := h.2.2.2.size
  have hbl := hA.lt
  refine ⟨b, fun i => if i = n then b else B i, rfl, by simp, fun i hi => by simp [show ¬ i = n by omega], fun i hi => ?_, fun i hi => ?_, fun i j hi hj hij => ?_, h.2.2.2.trans hk (fun _ _ h => h)⟩
  · by_cases hin : i = n
    · subst hin
      simp only [if_pos]
      refine ⟨_, hA, fun j hj e => ?_⟩
      by_cases hjn : j = i
      · rw [if_pos hjn] at e; exact e.2.2 rfl
      · rw [if_neg hjn] at e
        have := h.lt (k := j) (by omega)
        omega
    · simp only [if_neg hin]
      obtain ⟨Q, hQA, hQ⟩ := h.1 i (by omega)
      refine ⟨Q, hQA.keeps hk (fun h => h) (fun _ _ h => h), fun j hj e => ?_⟩
      by_cases hjn : j = n
      · simp only [if_pos hjn] at e
        have := hQA.old _ e
        omega
      · simp only [if_neg hjn] at e
        exact hQ j (by omega) e
  · by_cases hin : i = n
    · simp only [if_pos hin]; omega
    · simp only [if_neg hin]; exact h.2.1 i (by omega)
  · by_cases hin : i = n
    · have hjn : ¬ j = n := by omega
      simp only [if_pos hin, if_neg hjn]
      have := h.lt (k := j) (by omega)
      omega
    · by_cases hjn : j = n
      · simp only [if_neg hin, if_pos hjn]
        have := h.lt (k := i) (by omega)
        omega
      · simp only [if_neg hin, if_neg hjn]
        exact h.2.2.1 i j (by omega) (by omega) hij

theorem M4.verts {k : Nat} (hk : k < n) (hW : Wd (K k)) : Calls Tryz.prog 24 #[.pointer (some ⟨B k, 0, none⟩)] wr fun e w' => e = .returned (.int .i64 ((cntK (K k) 0 : Int) + 1)) ∧ M4 w w' B K n := by
  obtain ⟨R, hA, hR⟩ := h.1 k hk
  refine (mapVertices_any hA).mono ?_
  rintro e w' ⟨rfl, hq⟩
  rw [decL_length, hW.dec_verts]
  exact ⟨rfl, h.put hk hR hq⟩

end

end Go.Proofs.YtcfdpogegngplaaGreat
