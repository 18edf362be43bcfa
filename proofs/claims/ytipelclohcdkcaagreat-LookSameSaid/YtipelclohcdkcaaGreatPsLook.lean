/- look.Of; the small questions. -/
import Derived.Test.YtipelclohcdkcaaGreatPsIter
import Derived.Test.YtipelclohcdkcaaGreatPsOf
import Derived.Test.YtipelclohcdkcaaGreatPsTuran3
namespace Go.Proofs.YtipelclohcdkcaaGreat
open Go.RowKit

/-- A Look's own block. -/
def LkB (w : World) (bl b : Nat) (n : Int) : Prop := w.heap[bl]? = some (.cells #[.pointer (some ⟨b, 0, none⟩), .int .i64 n] 145 (0, 0))

theorem LkB.c0 {w : World} {bl b : Nat} {n : Int} (h : LkB w bl b n) : w.cell? ⟨bl, 0, none⟩ = some (.pointer (some ⟨b, 0, none⟩)) := World.cell_of_heap h 0
theorem LkB.c1 {w : World} {bl b : Nat} {n : Int} (h : LkB w bl b n) : w.cell? ⟨bl, 1, none⟩ = some (.int .i64 n) := World.cell_of_heap h 1
theorem LkB.keeps {w w' : World} {bl b : Nat} {n : Int} {G : Nat → Prop} (h : LkB w bl b n) (k : Keeps G w w') (hG : ¬ G bl) : LkB w' bl b n := k.at h hG

section
variable {wh wr : World} {bl b bo : Nat} {bi bp : Nat → Nat} {ks : List Nat} {q : Nat} {F : Nat → Prop} {n : Int} (hold : ∀ x, F x → x < wh.heap.size) (h : MixQ wh b bo bi bp ks q F wr) (hb : LkB wh bl b n) (hbF : ¬ F bl) (hw : Wd ks)
include hold h hb hbF hw

set_option maxRecDepth 100000 in
set_option maxHeartbeats 1000000 in
omit hold hw in
theorem lookTree_any (i k : Nat) (hk : ks[i]? = some k) :
    Calls Tryz.prog 183 #[.pointer (some ⟨bl, 0, none⟩), .int .i64 i] wr fun e w' => e = .returned (.bool (decide (k < 2))) ∧ MixQ wh b bo bi bp ks q F w' := by
  have c0 := (hb.keeps h.2 hbF).c0
  have hA := mixAt_in h.1 i k hk
  have HD := Lib.hid (fun n => h.drewN n)
  clear h hb
  go_enter Tryz.func183, Tryz.ntmps183
  go_wp2_with fail
  refine hA.mono ?_
  rintro e w1 ⟨rfl, nq, rfl⟩
  clear hA c0
  go_wp2
  go_ret
  refine ⟨?_, HD.out nq⟩
  show Ending.returned (Value.bool (decide ((k : Int) < 2))) = _
  have e1 : decide ((k : Int) < 2) = decide (k < 2) := by rw [decide_eq_decide]; omega
  rw [e1]

set_option maxRecDepth 100000 in
set_option maxHeartbeats 1000000 in
theorem lookMate_in (i : Nat) (hq : q ≤ 100000000) (hi : i < ks.length) :
    Calls Tryz.prog 124 #[.pointer (some ⟨bl, 0, none⟩), .int .i64 i] wr fun e w' => e = .returned (.int .i64 (mp ks i : Nat)) ∧ MixQ wh b bo bi bp ks (q + 4) F w' := by
  have c0 := (hb.keeps h.2 hbF).c0
  have hM := mixMate_in hold h i (mp ks i) hq (hw.mate hi)
  clear h hb hold hw
  go_enter Tryz.func124, Tryz.ntmps124
  go_wp2_with fail
  refine hM.mono ?_
  rintro e w1 ⟨rfl, h1⟩
  have HF := Lib.hid h1
  clear hM c0 h1
  go_wp2
  go_ret
  exact ⟨rfl, HF.out⟩

set_option maxRecDepth 100000 in
set_option maxHeartbeats 1000000 in
theorem lookNext_in (i : Nat) (hq : q ≤ 100000000) (hi : i < ks.length) :
    Calls Tryz.prog 128 #[.pointer (some ⟨bl, 0, none⟩), .int .i64 i] wr fun e w' => e = .returned (.int .i64 (tn ks i : Nat)) ∧ MixQ wh b bo bi bp ks (q + 4) F w' := by
  have hle := h.1.le
  obtain ⟨k, hk⟩ : ∃ k, ks[i]? = some k := ⟨_, List.getElem?_eq_getElem hi⟩
  have hT := lookTree_any h hb hbF i k hk
  have hM := fun w1 (h1 : MixQ wh b bo bi bp ks q F w1) => lookMate_in hold h1 hb hbF hw i hq hi
  have hC := fun w1 q1 (h1 : MixQ wh b bo bi bp ks q1 F w1) => (hb.keeps h1.2 hbF).c0
  have hL := fun w1 q1 (h1 : MixQ wh b bo bi bp ks q1 F w1) => mixLen_any h1.1
  have hgd : ks.getD i 0 = k := by rw [List.getD_eq_getElem?_getD, hk]; rfl
  have hml : mp ks i < ks.length := (hw.mate hi).lt
  have HH := Lib.hid (And.intro hM (And.intro hC hL))
  have htn : tn ks i = ((if k < 2 then mp ks i else i) + 1) % ks.length := by unfold tn; rw [hgd]
  have HTN := Lib.hid htn
  clear h hb hold hw hM hC hL hgd htn
  have hn0 : ¬ ks.length = 0 := by omega
  generalize tn ks i = T at *
  generalize mp ks i = m at *
  generalize hn : ks.length = N at *
  have hn0' : ¬ (N : Int) = 0 := by omega
  go_enter Tryz.func128, Tryz.ntmps128
  go_wp2_with fail
  refine hT.mono ?_
  rintro e w1 ⟨rfl, h1⟩
  clear hT
  by_cases hk2 : k < 2
  · have hd : decide (k < 2) = true := decide_eq_true hk2
    have hM1 := HH.out.1 w1 h1
    go_wp2_with fail
    refine hM1.mono ?_
    rintro e w2 ⟨rfl, h2⟩
    have c0 := HH.out.2.1 w2 _ h2
    have hL := HH.out.2.2 w2 _ h2
    clear hM1 h1
    go_wp2_with fail
    refine hL.mono ?_
    rintro e w3 ⟨rfl, rfl⟩
    have HF := Lib.hid h2
    clear h2 hL c0
    obtain ⟨r, hr⟩ : ∃ r, r = (m + 1) % N := ⟨_, rfl⟩
    have hrN : r < N := by rw [hr]; exact Nat.mod_lt _ (by omega)
    have e1 : ((m : Int) + 1).tmod (N : Int) = (r : Int) := by rw [hr, Int.tmod_eq_emod_of_nonneg (by omega)]; simp
    have HR := Lib.hid hr
    clear hr
    go_wp2
    go_ret
    refine ⟨?_, HF.out⟩
    have e2 : T = r := by rw [HTN.out, HR.out, if_pos hk2]
    rw [e2]
    rfl
  · have hd : decide (k < 2) = false := decide_eq_false hk2
    have c0 := HH.out.2.1 w1 _ h1
    have hL := HH.out.2.2 w1 _ h1
    go_wp2_with fail
    refine hL.mono ?_
    rintro e w3 ⟨rfl, rfl⟩
    have HF := Lib.hid (h1.more (q' := q + 4) (by omega))
    clear h1 hL c0
    obtain ⟨r, hr⟩ : ∃ r, r = (i + 1) % N := ⟨_, rfl⟩
    have hrN : r < N := by rw [hr]; exact Nat.mod_lt _ (by omega)
    have e1 : ((i : Int) + 1).tmod (N : Int) = (r : Int) := by rw [hr, Int.tmod_eq_emod_of_nonneg (by omega)]; simp
    have HR := Lib.hid hr
    clear hr
    go_wp2
    go_ret
    refine ⟨?_, HF.out⟩
    have e2 : T = r := by rw [HTN.out, HR.out, if_neg hk2]
    rw [e2]
    rfl

end

/-- What look.Of gives of letters. -/
def LookPost (w : World) (ks : List Nat) (e : Ending) (w' : World) : Prop :=
  (MBal ks ∧ CanonOk ks ∧ ∃ bl bm bo bi bp F, e = .returned (.tuple #[.pointer (some ⟨bl, 0, none⟩), .int .i64 0]) ∧ LkB w' bl bm 0 ∧ MixP w' bm bo bi bp ks 0 F ∧ ¬ F bl ∧ (∀ x, F x → w.heap.size ≤ x) ∧ w.heap.size ≤ bl ∧ Keeps (fun _ => False) w w') ∨
  (∃ c : Nat, (¬ MBal ks ∧ c = 9 ∨ MBal ks ∧ ¬ CanonOk ks ∧ c = 10) ∧ e = .returned (.tuple #[.pointer none, .int .i64 c]) ∧ Keeps (fun _ => False) w w')

set_option maxRecDepth 100000 in
set_option maxHeartbeats 1000000 in
theorem lookOf_any (p : Value) (ks : List Nat) (w : World) (h4 : ∀ k ∈ ks, k < 4) (hkl : ks.length ≤ 100000)
    (hO : Calls Tryz.prog 23 #[p] w fun e w' => ∃ b2, e = .returned (.tuple #[.pointer (some ⟨b2, 0, none⟩), .int .i64 0]) ∧ ParS w b2 ks w') :
    Calls Tryz.prog 53 #[p] w (LookPost w ks) := by
  go_enter Tryz.func53, Tryz.ntmps53
  go_wp2_with fail
  refine hO.mono ?_
  rintro e w1 ⟨b2, rfl, v2, hv2, hb2, hvb2, hk1⟩
  clear hO hb2 hvb2
  have hC := turanCheck_any (.pointer (some ⟨b2, 0, none⟩)) ks w1 hkl (fun W hk => indexOf_word b2 v2 _ W (hv2.keeps hk (fun h => h) (fun _ _ h => h)) h4 (by omega))
  go_wp2_with fail
  refine hC.mono ?_
  rintro e w2 ⟨c, rfl, hc, hk2⟩
  clear hC
  rcases hc with ⟨hB, hCn, rfl⟩ | hcc
  · have hI := indexOf_word b2 v2 _ w2 (hv2.keeps hk2 (fun h => h) (fun _ _ h => h)) h4 (by omega)
    go_wp2_with fail
    refine hI.mono ?_
    clear hI
    intro e w3 h3
    rcases h3 with ⟨_, bm, bo, bi, bp, rfl, hM, hk3⟩ | ⟨hn, _⟩
    · have hk := ((hk1.trans hk2 (fun _ _ h => h)).trans hk3 (fun _ _ h => h)).alloc (.cells #[.pointer (some ⟨bm, 0, none⟩), .int .i64 0] 145)
      have hMA := hM.keeps ((Keeps.refl (fun _ => False) w3).alloc (.cells #[.pointer (some ⟨bm, 0, none⟩), .int .i64 0] 145)) (fun _ _ h => h)
      have hbl := heap_alloc_new w3 (.cells #[.pointer (some ⟨bm, 0, none⟩), .int .i64 0] 145)
      have hs1 := hk1.size
      have hs2 := hk2.size
      have hs3 := hk3.size
      have HF := Lib.hid (And.intro hk (And.intro hMA (And.intro hbl (And.intro hB hCn))))
      clear hk hMA hbl hB hCn hM hv2 hk1 hk2 hk3
      go_wp2
      go_ret2
      exact .inl ⟨HF.out.2.2.2.1, HF.out.2.2.2.2, w3.heap.size, bm, bo, bi, bp, _, rfl, HF.out.2.2.1, HF.out.2.1, fun h => by omega, fun x hx => by omega, by omega, HF.out.1⟩
    · exact absurd hB hn
  · have h0 : ¬ c = 0 := by rcases hcc with ⟨_, h⟩ | ⟨_, _, h⟩ <;> omega
    have HF := Lib.hid (And.intro hcc (hk1.trans hk2 (fun _ _ h => h)))
    clear hcc hk1 hk2 hv2
    go_wp2
    go_ret2
    exact .inr ⟨c, HF.out.1, rfl, HF.out.2⟩

end Go.Proofs.YtipelclohcdkcaaGreat
