/- rots.number, rots.numbers. -/
import Derived.Test.YtblkkcpeodoclaaGreatDoorStrs
namespace Go.Proofs.YtblkkcpeodoclaaGreatDoor
open Go.RowKit

theorem bytes_list (s : ByteArray) : s.toList = s.data.toList := ByteArray.toList_eq s

/-- What rots.number answers. -/
def NumR (s : ByteArray) (w : World) (e : Ending) (w' : World) : Prop :=
  ∃ (n : Int) (ok : Bool), e = .returned (.tuple #[.int .i64 n, .bool ok]) ∧ Keeps (fun _ => False) w w' ∧ -9223372036854775808 ≤ n ∧ n ≤ 9223372036854775807 ∧ numK s.data.toList = if ok then some n else none

theorem number_any (s : ByteArray) (B : Nat) (w : World) (hE : EnvR B w) (hs : s.size ≤ 281474976710656) : Calls Tryz.prog 41 #[.string s] w (NumR s w) := by
  have HE := Lib.hid hE
  clear hE
  go_enter Tryz.func41, Tryz.ntmps41
  go_wp2_with fail
  refine (atoi_any s B w HE.out hs).mono ?_
  rintro e w1 ⟨n, ev, rfl, hk, h0, h1, hc⟩
  have hsz : s.data.toList.length = s.size := by rw [Array.length_toList]; rfl
  have HK := Lib.hid hk
  have HC := Lib.hid hc
  have HSZ := Lib.hid hsz
  clear hk hc hsz
  by_cases hnil : ev = .nilIface
  · have ha : Hid (Lib.atoiAll s.data.toList = .ok n) := by
      rcases HC.out with ⟨ha, -⟩ | ⟨-, t, N, e⟩
      · exact ha
      · rw [hnil] at e; cases e
    subst hnil
    by_cases hl : s.size ≤ 9
    · by_cases hn : -1 ≤ n
      · have t1 : decide ((s.size : Int) ≤ 9) = true := decide_eq_true (by omega)
        have t2 : decide (-1 ≤ n) = true := decide_eq_true hn
        go_wp2_with fail
        refine (itoa_any n B w1 (HE.out.keeps HK.out (fun _ h => h.elim)) h0 h1).mono ?_
        rintro e w2 ⟨rfl, hk2⟩
        have HK2 := Lib.hid hk2
        clear hk2
        go_wp2
        refine bodyPost_ret (v := .tuple #[.int .i64 n, .bool (Lib.itoa n == s.toList)]) (by simp [results, Tryz.results41, go_sem]) rfl ⟨n, Lib.itoa n == s.toList, rfl, HK.out.trans HK2.out (fun _ _ h => h), h0, h1, ?_⟩
        unfold numK
        rw [ha.out]
        show (if _ then _ else _) = _
        rw [bytes_list]
        by_cases he : Lib.itoa n = s.data.toList
        · rw [if_pos ⟨by rw [HSZ.out]; omega, hn, he⟩, beq_iff_eq.2 he, if_pos rfl]
        · rw [if_neg (fun h => he h.2.2), beq_eq_false_iff_ne.2 he, if_neg (by decide)]
      · have t1 : decide ((s.size : Int) ≤ 9) = true := decide_eq_true (by omega)
        have t2 : decide (-1 ≤ n) = false := decide_eq_false hn
        go_wp2
        refine bodyPost_ret (v := .tuple #[.int .i64 n, .bool false]) (by simp [results, Tryz.results41, go_sem]) rfl ⟨n, false, rfl, HK.out, h0, h1, ?_⟩
        unfold numK
        rw [ha.out]
        show (if _ then _ else _) = _
        rw [if_neg (fun h => by omega), if_neg (by decide)]
    · have t1 : decide ((s.size : Int) ≤ 9) = false := decide_eq_false (by omega)
      go_wp2
      refine bodyPost_ret (v := .tuple #[.int .i64 n, .bool false]) (by simp [results, Tryz.results41, go_sem]) rfl ⟨n, false, rfl, HK.out, h0, h1, ?_⟩
      unfold numK
      rw [ha.out]
      show (if _ then _ else _) = _
      rw [if_neg (fun h => by rw [HSZ.out] at h; omega), if_neg (by decide)]
  · obtain ⟨t, N, rfl⟩ : ∃ t N, ev = .iface t (.pointer (some ⟨N, 0, none⟩)) := by
      rcases HC.out with ⟨-, e⟩ | ⟨-, t, N, e⟩
      · exact absurd e hnil
      · exact ⟨t, N, e⟩
    go_wp2
    refine bodyPost_ret (v := .tuple #[.int .i64 n, .bool false]) (by simp [results, Tryz.results41, go_sem]) rfl ⟨n, false, rfl, HK.out, h0, h1, ?_⟩
    have hno : ∀ m, Lib.atoiAll s.data.toList ≠ .ok m := by
      rcases HC.out with ⟨-, e⟩ | ⟨h, -⟩
      · exact absurd e hnil
      · exact h
    unfold numK
    rw [if_neg (by decide)]
    split
    · rename_i m e
      exact absurd e (hno m)
    · rfl

end Go.Proofs.YtblkkcpeodoclaaGreatDoor
