/- file.reader.num. -/
import Derived.Test.YtcfdpogegngplaaGreatPzHead
import Derived.Test.YtcfdpogegngplaaGreatPzPack
import Derived.Test.YtcfdpogegngplaaGreatPzFileP
namespace Go.Proofs.YtcfdpogegngplaaGreat
open Go.RowKit

theorem getN_pos {cs : List Nat} {x u : Nat} (h : getN cs 0 0 = some (x, u)) : 1 ≤ u := by
  cases cs with
  | nil => cases h
  | cons b cs =>
    rw [getN_cons] at h
    split at h
    · cases h
    · next hn =>
      split at h
      · cases h; omega
      · exact (getN_some cs 1 _ x u h (by
          have : b % 128 < 128 := Nat.mod_lt _ (by decide)
          simp; omega) (by simp; omega)).2.1

/-- The reader's block. -/
def RdF (W : World) (br : Nat) (t p l : Bool) (pv sv : Value) (ok : Bool) : Prop := W.heap[br]? = some (.cells #[.bool t, .bool p, .bool l, pv, sv, .bool ok] 134 (0, 0))

theorem RdF.keeps {W W' : World} {br : Nat} {t p l : Bool} {pv sv : Value} {ok : Bool} {G : Nat → Prop} (h : RdF W br t p l pv sv ok) (k : Keeps G W W') (hG : ¬ G br) : RdF W' br t p l pv sv ok := k.at h hG

/-- What the reader's num leaves. -/
def RdNumPost (w : World) (br : Nat) (t p l ok : Bool) (pv sv : Value) (o : Option (Nat × List Nat)) (e : Ending) (w' : World) : Prop :=
  (∃ x cs' pv', ok = true ∧ o = some (x, cs') ∧ e = .returned (.int .i64 (x : Nat)) ∧ RdF w' br t p l pv' sv true ∧ (∀ q, pv'.ownBlock = some q → pv.ownBlock = some q) ∧ Sl .u8 w' pv' (nats cs') ∧ Keeps (fun k => k = br) w w') ∨
  ((ok = false ∨ o = none) ∧ e = .returned (.int .i64 0) ∧ RdF w' br t p l pv sv false ∧ Keeps (fun k => k = br) w w')

set_option maxRecDepth 100000 in
set_option maxHeartbeats 4000000 in
theorem rdNum_any (br : Nat) (t p l ok : Bool) (pv sv : Value) (cs : List Nat) (most : Nat) (w : World) (hR : RdF w br t p l pv sv ok) (hpb : pv.ownBlock ≠ some br) (hp : Sl .u8 w pv (nats cs)) (hcs : ∀ x ∈ cs, x < 256) (hl : cs.length ≤ 10000000) (hm : most ≤ 1000000) :
    Calls Tryz.prog 122 #[.pointer (some ⟨br, 0, none⟩), .int .i64 most] w (RdNumPost w br t p l ok pv sv (numV cs most)) := by
  have hnot : ∀ (x : Bool) (w : World), (Op.unary .not (.bool x)).run Tryz.prog w = .ok (.bool (!x)) w := fun _ _ => rfl
  obtain ⟨pa, pc, rfl, hpc, hpm⟩ := hp.formY
  have hG := getNum_any _ cs w hp hcs
  have c3 : w.cell? ⟨br, 3, none⟩ = some (.slice pa cs.length pc) := World.cell_of_heap hR 3
  have HR := Lib.hid (And.intro hR hp)
  cases hg : getN cs 0 0 with
  | none =>
    rw [hg] at hG
    unfold gotN at hG
    simp only at hG
    have HN : Hid (numV cs most = none) := Lib.hid (by unfold numV; rw [hg])
    clear hR hp hcs hg
    generalize cs.length = n at *
    go_enter Tryz.func122, Tryz.ntmps122
    go_wp2_with fail
    refine hG.mono ?_
    clear hG
    rintro e w1 ⟨rfl, hk1⟩
    have h1 := HR.out.1.keeps hk1 (fun h => h)
    have d5 : w1.cell? ⟨br, 5, none⟩ = some (.bool ok) := World.cell_of_heap h1 5
    have df := World.free_of_heap h1
    have h2 := heap_setCell_same h1 5 (.bool false)
    have HF : Hid (RdF (w1.setCell ⟨br, 5, none⟩ (.bool false)) br t p l (.slice pa n pc) sv false ∧ Keeps (fun k => k = br) w (w1.setCell ⟨br, 5, none⟩ (.bool false))) := Lib.hid ⟨by simpa [RdF] using h2, (hk1.mono (fun _ _ h => h.elim) : Keeps (fun k => k = br) w w1).setCell (p := ⟨br, 5, none⟩) (.inl rfl) _⟩
    clear h1 h2 hk1 c3
    cases ok
    all_goals
      go_wp2_with fail
      go_ret
      exact .inr ⟨.inr HN.out, rfl, HF.out⟩
  | some xu =>
    obtain ⟨x, u⟩ := xu
    rw [hg] at hG
    unfold gotN at hG
    simp only at hG
    obtain ⟨hx64, hu⟩ := getN_in hg
    by_cases hok : ok = true ∧ x ≤ most
    rotate_left
    · have HN : Hid (ok = false ∨ numV cs most = none) := Lib.hid (by
        by_cases h1 : ok = true
        · right; unfold numV; rw [hg]; simp only; rw [if_neg (fun h2 => hok ⟨h1, h2⟩)]
        · left; simpa using h1)
      have t1 : ok = true → decide ((most : Int) < (x : Int)) = true ∧ decide (most < x) = true := fun h => ⟨decide_eq_true (by
        have : ¬ x ≤ most := fun h2 => hok ⟨h, h2⟩
        omega), decide_eq_true (by
        have : ¬ x ≤ most := fun h2 => hok ⟨h, h2⟩
        omega)⟩
      clear hR hp hcs hg
      generalize cs.length = n at *
      go_enter Tryz.func122, Tryz.ntmps122
      go_wp2_with fail
      refine hG.mono ?_
      clear hG
      rintro e w1 ⟨rfl, hk1⟩
      have h1 := HR.out.1.keeps hk1 (fun h => h)
      have d5 : w1.cell? ⟨br, 5, none⟩ = some (.bool ok) := World.cell_of_heap h1 5
      have df := World.free_of_heap h1
      have h2 := heap_setCell_same h1 5 (.bool false)
      have HF : Hid (RdF (w1.setCell ⟨br, 5, none⟩ (.bool false)) br t p l (.slice pa n pc) sv false ∧ Keeps (fun k => k = br) w (w1.setCell ⟨br, 5, none⟩ (.bool false))) := Lib.hid ⟨by simpa [RdF] using h2, (hk1.mono (fun _ _ h => h.elim) : Keeps (fun k => k = br) w w1).setCell (p := ⟨br, 5, none⟩) (.inl rfl) _⟩
      clear h1 h2 hk1 c3
      cases ok
      · go_wp2_with fail
        go_ret
        exact .inr ⟨.inl rfl, rfl, HF.out⟩
      · obtain ⟨t2, t3⟩ := t1 rfl
        clear t1
        go_wp2_with fail
        go_ret
        exact .inr ⟨HN.out, rfl, HF.out⟩
    · obtain ⟨rfl, hxm⟩ := hok
      have HN : Hid (numV cs most = some (x, cs.drop u)) := Lib.hid (by unfold numV; rw [hg]; simp only; rw [if_pos hxm])
      have t1 : decide ((most : Int) < (x : Int)) = false := decide_eq_false (by omega)
      have hxb : x ≤ 1000000 := by omega
      have hcl : cs.length = (cs.drop u).length + u := by rw [List.length_drop]; omega
      -- the bytes are there
      have h1u : 1 ≤ u := getN_pos hg
      obtain ⟨pa', pc', hv, -, -, -, hc⟩ := id hp
      simp only [Value.slice.injEq] at hv
      obtain ⟨rfl, -, rfl⟩ := hv
      obtain ⟨y, hy⟩ : ∃ y, cs[0]? = some y := ⟨_, List.getElem?_eq_getElem (by omega)⟩
      obtain ⟨g, off, rfl, -⟩ := hc 0 (y : Int) (by simp [nats, hy])
      have ht := fun W (hW : Keeps (fun k => k = br) w W) => (hp.keeps hW (fun q hq e => hpb (by rw [hq, e]))).tailY u hu
      have HT := Lib.hid ht
      have HP := Lib.hid hpb
      have HU := Lib.hid hu
      generalize hn : cs.length = n at *
      have HNN := Lib.hid hn
      clear hn hR hp hcs hg hx64 hc hy ht hpb hcl
      go_enter Tryz.func122, Tryz.ntmps122
      go_wp2_with fail
      refine hG.mono ?_
      clear hG
      rintro e w1 ⟨rfl, hk1⟩
      have h1 := HR.out.1.keeps hk1 (fun h => h)
      have d5 : w1.cell? ⟨br, 5, none⟩ = some (.bool true) := World.cell_of_heap h1 5
      have d3 : w1.cell? ⟨br, 3, none⟩ = some _ := World.cell_of_heap h1 3
      have df := World.free_of_heap h1
      have HB := Lib.hid (And.intro h1 hk1)
      clear h1 hk1 c3
      have hfin : ∀ pv', RdF (w1.setCell ⟨br, 3, none⟩ pv') br t p l pv' sv true ∧ Keeps (fun k => k = br) w (w1.setCell ⟨br, 3, none⟩ pv') := fun pv' => by
        have h2 := heap_setCell_same HB.out.1 3 pv'
        exact ⟨by simpa [RdF] using h2, (HB.out.2.mono (fun _ _ h => h.elim) : Keeps (fun k => k = br) w w1).setCell (p := ⟨br, 3, none⟩) (.inl rfl) _⟩
      have HF := Lib.hid hfin
      clear hfin
      go_wp2_with fail
      · refine bodyPost_ret (v := .int .i64 x) (by simp [results, Tryz.results122, go_sem]) rfl ?_
        have hnu : n - u = 0 := by omega
        rw [hnu]
        obtain ⟨f1, f2⟩ := HF.out (.slice (some ⟨g, off, none⟩) 0 0)
        refine .inl ⟨x, cs.drop u, .slice (some ⟨g, off, none⟩) 0 0, rfl, HN.out, rfl, f1, fun q hq => by simpa [Value.ownBlock] using hq, ?_, f2⟩
        rw [List.drop_of_length_le (by rw [HNN.out]; omega)]
        exact Sl.emptyY _ _
      · refine bodyPost_ret (v := .int .i64 x) (by simp [results, Tryz.results122, go_sem]) rfl ?_
        obtain ⟨f1, f2⟩ := HF.out (.slice (some ⟨g, off + u, none⟩) (n - u) (pc - u))
        exact .inl ⟨x, cs.drop u, .slice (some ⟨g, off + u, none⟩) (n - u) (pc - u), rfl, HN.out, rfl, f1, fun q hq => by simpa [Value.ownBlock] using hq, HT.out _ f2, f2⟩

end Go.Proofs.YtcfdpogegngplaaGreat
