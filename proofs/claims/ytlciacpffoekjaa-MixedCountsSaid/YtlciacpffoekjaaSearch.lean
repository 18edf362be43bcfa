/- The contract of sort.Search, of a test that only reads. -/
import Derived.Test.YtlciacpffoekjaaSelPure
namespace Go.Proofs.Ytlciacpffoekjaa
open Go.RowKit

theorem quiet_left {P : Program} {f : FuncId} {args : Array Value} {w : World} {n : Nat} {v : Value}
    (h : Calls P f args (w.drewN n) fun e w' => e = .returned v ∧ w.drewN n = w') : Calls P f args (w.drewN n) fun e w'' => e = .returned v ∧ ∃ m, w'' = w.drewN m :=
  h.mono fun _ _ ⟨he, hm⟩ => ⟨he, n, hm.symm⟩

set_option maxRecDepth 100000 in
set_option maxHeartbeats 1000000 in
theorem search_any (K : FuncId) (a1 a2 a3 : Addr) (p : Nat → Bool) (n : Nat) (I : World → Prop) (w : World) (hn : n ≤ 1000000000) (hw : I w)
    (hfn : ∀ (i : Int) W, (callFunc K #[.int .i64 i, .pointer (some a1), .pointer (some a2), .pointer (some a3)]).run Try.prog W = .ok (.enter K #[.int .i64 i, .pointer (some a1), .pointer (some a2), .pointer (some a3)]) W)
    (hcall : ∀ (i : Nat) W, i < n → I W → Calls Try.prog K #[.int .i64 i, .pointer (some a1), .pointer (some a2), .pointer (some a3)] W fun e W' => e = .returned (.bool (p i)) ∧ I W')
    (hmono : ∀ i j, i ≤ j → p i = true → p j = true) :
    Calls Try.prog 77 #[.int .i64 n, .func (.func K) #[] #[.pointer (some a1), .pointer (some a2), .pointer (some a3)]] w fun e w' => ∃ r, e = .returned (.int .i64 (r : Nat)) ∧ IsFirst p n r ∧ I w' := by
  have hnot : ∀ (x : Bool) (w : World), (Op.unary .not (.bool x)).run Try.prog w = .ok (.bool (!x)) w := fun _ _ => rfl
  have HC := Lib.hid hcall
  have HM := Lib.hid hmono
  clear hcall hmono
  go_enter Try.func77, Try.ntmps77
  go_wp2_with fail
  go_loopw [5, 6] (fun i j wr => ∃ x y : Nat, i = .int .i64 x ∧ j = .int .i64 y ∧ x ≤ y ∧ y ≤ n ∧ (∀ k, k < x → p k = false) ∧ (y < n → p y = true) ∧ I wr) (fun i j _ => ((intOf j) - (intOf i)).toNat)
  case atStart => exact ⟨0, n, rfl, rfl, Nat.zero_le _, Nat.le_refl _, fun k hk => by omega, fun h => by omega, hw⟩
  case round =>
    obtain ⟨x, y, rfl, rfl, hxy, hy, hlo, hhi, hI⟩ := hrel
    have HL := Lib.hid (And.intro hlo hhi)
    clear hlo hhi hw
    by_cases hlt : x < y
    · have hc := HC.out ((x + y) / 2) wr (by omega) hI
      have hm : (((x + y) / 2 : Nat) : Int) = ((x : Int) + (y : Int)) / 2 := by omega
      rw [hm] at hc
      clear hm
      cases hp : p ((x + y) / 2)
      · rw [hp] at hc
        have HP := Lib.hid hp
        clear hp
        go_wp2_with fail
        refine hc.mono ?_
        rintro e w2 ⟨rfl, hI2⟩
        clear hc
        go_wp2
        go_roundw
        case rel =>
          refine ⟨(x + y) / 2 + 1, y, by go_num, rfl, by omega, hy, fun k hk => ?_, HL.out.2, hI2⟩
          cases hq : p k
          · rfl
          · have := HM.out k ((x + y) / 2) (by omega) hq
            rw [HP.out] at this
            cases this
        case measure => simp [intOf]; omega
      · rw [hp] at hc
        have HP := Lib.hid hp
        clear hp
        go_wp2_with fail
        refine hc.mono ?_
        rintro e w2 ⟨rfl, hI2⟩
        clear hc
        go_wp2
        go_roundw
        case rel => exact ⟨x, (x + y) / 2, rfl, by go_num, by omega, by omega, HL.out.1, fun _ => HP.out, hI2⟩
        case measure => simp [intOf]; omega
    · obtain rfl : x = y := by omega
      go_wp2
      go_ret
      exact ⟨x, rfl, ⟨hy, HL.out.1, HL.out.2⟩, hI⟩

/-- The directory's test, as the closure in Select has it. -/
theorem sel1_any (bx bb bk b : Nat) (l : List Bool) (asked : Nat) (F : Nat → Prop) (bit k : Int) (i : Nat) (w : World) (h : IdxAt w b l true asked F)
    (hx : w.cell? ⟨bx, 0, none⟩ = some (.pointer (some ⟨b, 0, none⟩))) (hb : w.cell? ⟨bb, 0, none⟩ = some (.int .i64 bit)) (hk : w.cell? ⟨bk, 0, none⟩ = some (.int .i64 k))
    (hi : i < (l.length + 511) / 512 + 1) :
    Calls Try.prog 78 #[.int .i64 i, .pointer (some ⟨bx, 0, none⟩), .pointer (some ⟨bb, 0, none⟩), .pointer (some ⟨bk, 0, none⟩)] w fun e w' =>
      e = .returned (.bool (decide (k < ofZ bit (cnt (l.take (512 * i))) (min (512 * i) l.length : Nat)))) ∧ ∃ n, w' = w.drewN n := by
  have hle := h.le
  have hlen := idxLen_any b l true asked F w h
  obtain ⟨bv, v, ga, cap, c0, hv, c4, hnc, hcm, hal, hcell⟩ := h.read
  have hck := hcell i (by omega)
  have hcl := cnt_le (l.take (512 * i))
  have hcl2 : (l.take (512 * i)).length ≤ l.length := List.length_take_le' _ _
  have hcl3 : cnt (l.take (512 * i)) ≤ 100000000 := by omega
  have him : i < (ahead l).length := by omega
  have hof := fun z hz W => of_any bit (cnt (l.take (512 * i))) z W hz
  clear hcell hcl hcl2 h hv hal
  generalize (ahead l).length = m at *
  generalize cnt (l.take (512 * i)) = y at *
  by_cases hmin : 512 * i ≤ l.length
  · rw [Nat.min_eq_left hmin]
    have hof := hof ((i : Int) * 512) (by omega)
    have e1 : (((512 * i : Nat)) : Int) = (i : Int) * 512 := by omega
    rw [e1]
    have h2 : (i : Int) * 512 ≤ (l.length : Int) := by omega
    clear e1
    go_enter Try.func78, Try.ntmps78
    go_wp2_with (go_at_call 25; refine hlen.mono ?_; rintro e w' ⟨rfl, rfl⟩)
    all_goals
      go_quiet ((go_at_call 73; exact quiet_left (hof _)))
      go_wp2
      go_ret
      exact ⟨rfl, _, rfl⟩
  · rw [Nat.min_eq_right (by omega)]
    have hof := hof (l.length : Int) (by omega)
    have h2 : (l.length : Int) < (i : Int) * 512 := by omega
    go_enter Try.func78, Try.ntmps78
    go_wp2_with (go_at_call 25; refine hlen.mono ?_; rintro e w' ⟨rfl, rfl⟩)
    all_goals
      go_quiet ((go_at_call 73; exact quiet_left (hof _)))
      go_wp2
      go_ret
      exact ⟨rfl, _, rfl⟩

end Go.Proofs.Ytlciacpffoekjaa
