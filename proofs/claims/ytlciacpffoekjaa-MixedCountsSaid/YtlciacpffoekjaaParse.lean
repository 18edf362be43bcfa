/- The contracts of package mixed: Parse; of the library: IndexByte. -/
import Derived.Test.YtlciacpffoekjaaIndex
import Derived.Laws.StandIn
import Derived.Lib.Bytealg
namespace Go.Proofs.Ytlciacpffoekjaa
open Go.RowKit

/-- The kind of a sign; below nought: none. -/
def kindZ (c : UInt8) : Int := Lib.indexByte [40, 41, 91, 93] c

theorem indexByte_up (l : List UInt8) (c : UInt8) : Lib.indexByte l c < l.length := by
  induction l with
  | nil => simp [Lib.indexByte]
  | cons b l ih =>
    simp only [Lib.indexByte, List.length_cons]
    split
    · omega
    · split <;> omega

theorem kindZ_bd (c : UInt8) : -1 ≤ kindZ c ∧ kindZ c ≤ 3 := by
  have h1 := Lib.indexByte_ge [40, 41, 91, 93] c
  have h2 := indexByte_up [40, 41, 91, 93] c
  simp at h2
  unfold kindZ
  omega

set_option maxHeartbeats 1000000 in
theorem strlite_any (c : Int) (w : World) :
    Calls Try.prog 117 #[.string { data := #[40, 41, 91, 93] }, .int .u8 c] w fun e w' => e = .returned (.int .i64 (kindZ c.toNat.toUInt8)) ∧ w = w' := by
  have he := run_callFunc_indexByte (P := Try.prog) Try.func124 (by kernel_rfl) (by kernel_rfl) (by kernel_rfl) (by kernel_rfl) #[.string { data := #[40, 41, 91, 93] }, .int .u8 c] w
  rw [Lib.run_indexByteString] at he
  simp only [Result.andThen] at he
  go_enter Try.func117, Try.ntmps117
  go_wp2
  go_ret
  exact ⟨rfl, rfl⟩

theorem indexByte_any (c : Int) (w : World) :
    Calls Try.prog 102 #[.string { data := #[40, 41, 91, 93] }, .int .u8 c] w fun e w' => e = .returned (.int .i64 (kindZ c.toNat.toUInt8)) ∧ w = w' := by
  have h := strlite_any c w
  go_enter Try.func102, Try.ntmps102
  go_wp2_with (go_at_call 117; refine h.mono ?_; rintro e w' ⟨rfl, rfl⟩)
  go_ret
  exact ⟨rfl, rfl⟩

/-- What Parse has when it has read so far. -/
def ParS (w : World) (b : Nat) (ks : List Nat) (wr : World) : Prop := ∃ v, WordAt wr b v ks ∧ w.heap.size ≤ b ∧ (∀ k, v.ownBlock = some k → w.heap.size ≤ k) ∧ Keeps (fun _ => False) w wr

theorem ParS.grown {w wr w1 : World} {b : Nat} {ks' : List Nat} {v : Value} (hb : w.heap.size ≤ b) (hv : ∀ k, v.ownBlock = some k → w.heap.size ≤ k) (hk : Keeps (fun _ => False) w wr) (h : WordGrown wr b v ks' w1) : ParS w b ks' w1 := by
  obtain ⟨v1, h1, h2, h3⟩ := h
  refine ⟨v1, h1, hb, fun k hk' => ?_, hk.trans h2 (fun x hx e => ?_)⟩
  · rcases h3 with h3 | ⟨k', h3, hk''⟩
    · rw [h3] at hk'; exact hv k hk'
    · rw [h3] at hk'; cases hk'; exact Nat.le_trans hk.size hk''
  · rcases e with rfl | e
    · omega
    · have := hv x e; omega

/-- What Parse hands back. -/
def ParsePost (w : World) (s : ByteArray) (e : Ending) (w' : World) : Prop :=
  (∃ b ks, s.data.toList.map kindZ = nats ks ∧ e = .returned (.tuple #[.pointer (some ⟨b, 0, none⟩), .int .i64 s.size, .int .i64 0]) ∧ ParS w b ks w') ∨
  (∃ i : Nat, i < s.size ∧ (∀ j, j < i → ∀ c, s.data.toList[j]? = some c → 0 ≤ kindZ c) ∧ (∃ c, s.data.toList[i]? = some c ∧ kindZ c < 0) ∧ e = .returned (.tuple #[.pointer none, .int .i64 i, .int .i64 13]) ∧ Keeps (fun _ => False) w w')

set_option maxRecDepth 100000 in
set_option maxHeartbeats 4000000 in
theorem parse_any (s : ByteArray) (w : World) (hs : s.size ≤ 100000000) :
    Calls Try.prog 63 #[.string s] w (ParsePost w s) := by
  obtain ⟨ii, hi, hz0, hz1, hz2⟩ := info_parts infoU8
  go_enter Try.func63, Try.ntmps63
  go_wp2_with fail
  refine (wordNew_any _).mono ?_
  rintro e w1 ⟨rfl, rfl⟩
  have h0 : ParS w w.heap.size [] (w.alloc (.cells #[.slice none 0 0] 131)) := ⟨_, word_new w, Nat.le_refl _, fun k hk => by simp [Value.ownBlock] at hk, (Keeps.refl _ w).alloc _⟩
  obtain ⟨b, hb⟩ : ∃ b, b = w.heap.size := ⟨_, rfl⟩
  rw [← hb] at h0
  rw [← hb]
  clear hb
  generalize World.alloc _ _ = wM at *
  go_wp2_with fail
  go_loopw [11] (fun i wr => ∃ (k : Nat) (ks : List Nat), k ≤ s.size ∧ i = .int .i64 k ∧ ks.length = k ∧ (s.data.toList.take k).map kindZ = nats ks ∧ ParS w b ks wr) (fun i _ => s.size - (intOf i).toNat)
  case atStart => exact ⟨0, [], Nat.zero_le _, rfl, rfl, rfl, h0⟩
  case round =>
    obtain ⟨k, ks, hk, rfl, rfl, hmap, hP⟩ := hrel
    clear h0
    by_cases hlt : ks.length < s.size
    · have hsl : s.data.toList[ks.length]? = some s[ks.length] := by
        rw [List.getElem?_eq_getElem (by simpa using hlt)]; rfl
      have htk := take_get hsl
      have hI := indexByte_any (s[ks.length].toNat : Nat)
      have hcc : ((s[ks.length].toNat : Nat) : Int).toNat.toUInt8 = s[ks.length] := by simp
      rw [hcc] at hI
      have hbd := kindZ_bd s[ks.length]
      have HM := Lib.hid (And.intro hmap (And.intro hsl htk))
      clear hmap hsl htk hcc
      generalize hcd : s[ks.length] = c at *
      obtain ⟨z, hz⟩ : ∃ z, z = kindZ c := ⟨_, rfl⟩
      rw [← hz] at hI hbd
      have HZ := Lib.hid (And.intro hz hcd)
      clear hz
      by_cases hneg : z < 0
      · have hfin : ∃ i : Nat, i = ks.length ∧ i < s.size ∧ (∀ j, j < i → ∀ c, s.data.toList[j]? = some c → 0 ≤ kindZ c) ∧ (∃ c, s.data.toList[i]? = some c ∧ kindZ c < 0) := by
          refine ⟨ks.length, rfl, hlt, fun j hj c' hc' => ?_, s[ks.length], HM.out.2.1.trans (by rw [HZ.out.2]), by rw [HZ.out.2, ← HZ.out.1]; exact hneg⟩
          have hm := HM.out.1
          have h1 : ((s.data.toList.take ks.length).map kindZ)[j]? = some (kindZ c') := by rw [List.getElem?_map, List.getElem?_take, if_pos hj, hc']; rfl
          rw [hm, nats, List.getElem?_map, List.getElem?_eq_getElem hj] at h1
          simp only [Option.map_some, Option.some.injEq] at h1
          omega
        have HP := Lib.hid (And.intro hP hfin)
        clear hP hfin
        go_wp2_with (go_at_call 102; refine (hI _).mono ?_; rintro e w' ⟨rfl, rfl⟩)
        obtain ⟨i, hi1, hi2, hi3, hi4⟩ := HP.out.2
        have hret : ParsePost w s (.returned (.tuple #[.pointer none, .int .i64 ks.length, .int .i64 13])) wr := .inr ⟨i, hi2, hi3, hi4, by rw [hi1], HP.out.1.choose_spec.2.2.2⟩
        refine bodyPost_ret (v := .tuple #[.pointer none, .int .i64 ks.length, .int .i64 13]) (by simp [results, Try.results63, go_sem]) rfl hret
      · obtain ⟨n, rfl⟩ := Int.eq_ofNat_of_zero_le (show 0 ≤ z by omega)
        have hn : n ≤ 3 := by omega
        obtain ⟨v1, hv1, hbw, hvw, hkw⟩ := hP
        have hlen : ks.length ≤ 100000000 := by omega
        have hown := hv1.2
        have c0 : wr.cell? ⟨b, 0, none⟩ = some v1 := World.cell_of_heap hv1.1 0
        have HV := Lib.hid hv1
        clear hv1
        go_wp2_with (first | (go_at_call 102; refine (hI _).mono ?_; rintro e w' ⟨rfl, rfl⟩) | (at_builtin; refine wpList_append_lies _ rfl _ _ _ rfl 0 5 ii (.int .u8 0) 1 1 Try.underlying22 hi hz0 hz1 hz2 rfl (by decide) v1 ks.length _ rfl (hown.alloc _) ⟨wr.heap.size, 0, none⟩ 1 1 [.int .u8 (n : Nat)] rfl rfl (cell_one_new _ _ _) ?c2 (by decide) ?c3 ?c4 ?c5 (wr.heap.size + 1) (by simp) ?_))
        case c2 => intro u hu; simp at hu; subst hu; rfl
        case c3 => unfold maxLen; omega
        case c4 => omega
        case c5 => simp
        intro g2 cap2 w1 hown1 hgrow hat hgl
        have hP := HV.out.push hown1 hgrow hat
        have d0 : w1.cell? ⟨b, 0, none⟩ = some v1 := World.cell_of_heap hP.2 0
        have f0 : w1.frozen? ⟨b, 0, none⟩ = false := World.free_of_heap hP.2 0
        have hW := ParS.grown hbw hvw hkw hP.1
        have HW := Lib.hid hW
        clear hP hW hown1 hgrow hat c0 hown
        go_wp2
        go_roundw
        case rel => exact ⟨ks.length + 1, ks ++ [n], by omega, by go_num, by simp, by rw [HM.out.2.2, List.map_append, HM.out.1, List.map_singleton, ← HZ.out.1]; simp [nats], HW.out⟩
        case measure => simp [intOf]; omega
    · have he : ks.length = s.size := by omega
      have hm : s.data.toList.map kindZ = nats ks := by
        rw [he, List.take_of_length_le (by simp)] at hmap
        exact hmap
      have HP := Lib.hid (And.intro hP (And.intro hm he))
      clear hP hm hmap he
      go_wp2
      have hret : ParsePost w s (.returned (.tuple #[.pointer (some ⟨b, 0, none⟩), .int .i64 s.size, .int .i64 0])) wr := .inl ⟨b, ks, HP.out.2.1, rfl, HP.out.1⟩
      refine bodyPost_ret (v := .tuple #[.pointer (some ⟨b, 0, none⟩), .int .i64 s.size, .int .i64 0]) (by simp [results, Try.results63, go_sem]) rfl hret

end Go.Proofs.Ytlciacpffoekjaa
