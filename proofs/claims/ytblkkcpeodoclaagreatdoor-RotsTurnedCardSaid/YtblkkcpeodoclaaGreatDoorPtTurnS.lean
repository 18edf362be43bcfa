/- Strings and bytes, cut and read (RotsTurned). -/
import Derived.Test.YtblkkcpeodoclaaGreatDoorPtLaw07c
import Derived.Test.YtblkkcpeodoclaaGreatDoorPtTurnR
namespace Go.Proofs.YtblkkcpeodoclaaGreatDoor
open Go.RowKit

theorem str_index {Y : List UInt8} {j : Nat} {x : UInt8} (h : Y[j]? = some x) (W : World) : (Instr.index 9 (.string (bytesA Y)) (.int .i64 j)).run Tryz.prog W = .ok (.int .u8 (x.toNat : Int)) W := by
  have h1 : (bytesA Y)[j]? = some x := by
    show (bytesA Y).data[j]? = some x
    simp [bytesA, h]
  simp [Instr.index, asIntOf, run_underlying Tryz.underlying9, h1]

theorem bytesA_extract (Y : List UInt8) (a b : Nat) : (bytesA Y).extract a b = bytesA ((Y.take b).drop a) := by
  apply Go.WideShapes.bytes_inj
  simp [bytesA, List.drop_take]

theorem Sl.seg {k : IntKind} {w : World} {g off n cap : Nat} {zs : List Int} (h : Sl k w (.slice (some ⟨g, off, none⟩) n cap) zs) (f m : Nat) (hfm : f ≤ m) (hm : m ≤ n) : Sl k w (.slice (some ⟨g, off + f, none⟩) (m - f) (cap - f)) ((zs.take m).drop f) := by
  obtain ⟨a', cap', hv, h1, h2, h3, h4⟩ := h
  simp only [Value.slice.injEq] at hv
  obtain ⟨rfl, rfl, rfl⟩ := hv
  have hl : ((zs.take m).drop f).length = m - f := by rw [List.length_drop, List.length_take]; omega
  refine ⟨some ⟨g, off + f, none⟩, cap - f, (by rw [hl]), (by rw [hl]; omega), (by omega), (fun e => nomatch e), fun j z hj => ⟨g, off + f, rfl, ?_⟩⟩
  rw [List.getElem?_drop, List.getElem?_take] at hj
  split at hj
  · obtain ⟨g', off', e, hc⟩ := h4 (f + j) z hj
    simp only [Option.some.injEq, Addr.mk.injEq, and_true] at e
    obtain ⟨rfl, rfl⟩ := e
    rw [Nat.add_assoc]
    exact hc
  · cases hj

/-- '[]byte(s)', s no constant. -/
theorem sl_conv_new (T : List UInt8) (w : World) (hl : T.length ≤ 1000000000) : Sl .u8 (Lib.bytesWorld w 5 (bytesA T)) (.slice (some ⟨w.heap.size, 0, none⟩) T.length (grownCap w T.length 0 5)) (nats (natsB T)) ∧ Keeps (fun _ => False) w (Lib.bytesWorld w 5 (bytesA T)) := by
  have hgc := grownCap_ge w T.length 0 5
  have hgm := grownCap_le_maxLen w T.length 0 5 (by unfold maxLen; omega)
  have hsz := Lib.bytesWorld_size w 5 (bytesA T)
  refine ⟨⟨some ⟨w.heap.size, 0, none⟩, _, (by rw [nats_len, natsB_len]), (by rw [nats_len, natsB_len]; exact hgc), (by unfold maxLen at hgm; omega), (fun e => nomatch e), fun j z hz => ⟨w.heap.size, 0, rfl, ?_⟩⟩, ⟨rfl, rfl, rfl, (by rw [hsz]; omega), fun k hk _ => Lib.bytesWorld_at_old w _ _ k hk⟩⟩
  unfold nats natsB at hz
  rw [List.getElem?_map, List.getElem?_map] at hz
  cases hx : T[j]? with
  | none => rw [hx] at hz; cases hz
  | some x =>
    rw [hx] at hz
    simp only [Option.map_some, Option.some.injEq] at hz
    have hj := (List.getElem?_eq_some_iff.1 hx).1
    rw [Nat.zero_add, Lib.bytesWorld_cell _ _ _ _ (by rw [bytesA_size]; exact hj), bytesA_list, List.getD_eq_getElem?_getD, hx, ← hz]
    rfl

theorem linesB_snoc (ed : Nat) (rt : Int) (ln : Nat) (C : List (List Nat)) (r : List Nat) : linesB ed rt ln (C ++ [r]) = linesB ed rt ln C ++ (rowT r ++ [10]) := by
  unfold linesB
  rw [List.flatMap_append, ← List.append_assoc]
  congr 1
  simp [rowT, rowB]

/-- The lines of a map's text, cut. -/
theorem cut_text (s : List Nat) (rt : Int) (ln : Nat) : cutB 10 (textB s rt ln) = (joinB 32 ([((s.length / 2 : Nat) : Int), rt, (ln : Int)].map Lib.itoa) :: (linesOf s).map rowT) ++ [[]] := by
  have e : textB s rt ln = (joinB 32 ([((s.length / 2 : Nat) : Int), rt, (ln : Int)].map Lib.itoa) :: (linesOf s).map rowT).flatMap fun x => x ++ [10] := by
    rw [textB_lines]
    unfold linesB rowB
    rw [List.flatMap_cons, List.flatMap_map]
    rfl
  rw [e]
  refine cut_lines (fun x hx => ?_)
  rcases List.mem_cons.1 hx with rfl | hx
  · exact join_no (by decide) (fun y hy => by obtain ⟨z, -, rfl⟩ := List.mem_map.1 hy; exact itoa_no (.inr rfl) z)
  · obtain ⟨l, -, rfl⟩ := List.mem_map.1 hx
    exact join_no (by decide) (fun y hy => by obtain ⟨z, -, rfl⟩ := List.mem_map.1 hy; exact itoa_no (.inr rfl) z)

end Go.Proofs.YtblkkcpeodoclaaGreatDoor
