/- Joined texts. -/
import Derived.Test.YtblkkcpeodoclaaGreatDoorPtStrs
import Derived.Test.YtblkkcpeodoclaaGreatDoorPtConn

/- rots.number, rots.numbers. -/
namespace Go.Proofs.YtblkkcpeodoclaaGreatDoor
open Go.RowKit

theorem bytes_list (s : ByteArray) : s.toList = s.data.toList := ByteArray.toList_eq s

/-- What rots.number answers. -/
def NumR (s : ByteArray) (w : World) (e : Ending) (w' : World) : Prop :=
  ∃ (n : Int) (ok : Bool), e = .returned (.tuple #[.int .i64 n, .bool ok]) ∧ Keeps (fun _ => False) w w' ∧ -9223372036854775808 ≤ n ∧ n ≤ 9223372036854775807 ∧ numK s.data.toList = if ok then some n else none

theorem number_any (s : ByteArray) (B : Nat) (w : World) (hE : EnvR B w) (hs : s.size ≤ 281474976710656) : Calls Tryz.prog 41 #[.string s] w (NumR s w) := by
  have HE := Lib.hid hE
  clear hE
  go_enter Tryz.func41, Tryz.ntmps41
  go_wp2_with fail
  refine (atoi_any s B w HE.out hs).mono ?_
  rintro e w1 ⟨n, ev, rfl, hk, h0, h1, hc⟩
  have hsz : s.data.toList.length = s.size := by rw [Array.length_toList]; rfl
  have HK := Lib.hid hk
  have HC := Lib.hid hc
  have HSZ := Lib.hid hsz
  clear hk hc hsz
  by_cases hnil : ev = .nilIface
  · have ha : Hid (Lib.atoiAll s.data.toList = .ok n) := by
      rcases HC.out with ⟨ha, -⟩ | ⟨-, t, N, e⟩
      · exact ha
      · rw [hnil] at e; cases e
    subst hnil
    by_cases hl : s.size ≤ 9
    · by_cases hn : -1 ≤ n
      · have t1 : decide ((s.size : Int) ≤ 9) = true := decide_eq_true (by omega)
        have t2 : decide (-1 ≤ n) = true := decide_eq_true hn
        go_wp2_with fail
        refine (itoa_any n B w1 (HE.out.keeps HK.out (fun _ h => h.elim)) h0 h1).mono ?_
        rintro e w2 ⟨rfl, hk2⟩
        have HK2 := Lib.hid hk2
        clear hk2
        go_wp2
        refine bodyPost_ret (v := .tuple #[.int .i64 n, .bool (Lib.itoa n == s.toList)]) (by simp [results, Tryz.results41, go_sem]) rfl ⟨n, Lib.itoa n == s.toList, rfl, HK.out.trans HK2.out (fun _ _ h => h), h0, h1, ?_⟩
        unfold numK
        rw [ha.out]
        show (if _ then _ else _) = _
        rw [bytes_list]
        by_cases he : Lib.itoa n = s.data.toList
        · rw [if_pos ⟨by rw [HSZ.out]; omega, hn, he⟩, beq_iff_eq.2 he, if_pos rfl]
        · rw [if_neg (fun h => he h.2.2), beq_eq_false_iff_ne.2 he, if_neg (by decide)]
      · have t1 : decide ((s.size : Int) ≤ 9) = true := decide_eq_true (by omega)
        have t2 : decide (-1 ≤ n) = false := decide_eq_false hn
        go_wp2
        refine bodyPost_ret (v := .tuple #[.int .i64 n, .bool false]) (by simp [results, Tryz.results41, go_sem]) rfl ⟨n, false, rfl, HK.out, h0, h1, ?_⟩
        unfold numK
        rw [ha.out]
        show (if _ then _ else _) = _
        rw [if_neg (fun h => by omega), if_neg (by decide)]
    · have t1 : decide ((s.size : Int) ≤ 9) = false := decide_eq_false (by omega)
      go_wp2
      refine bodyPost_ret (v := .tuple #[.int .i64 n, .bool false]) (by simp [results, Tryz.results41, go_sem]) rfl ⟨n, false, rfl, HK.out, h0, h1, ?_⟩
      unfold numK
      rw [ha.out]
      show (if _ then _ else _) = _
      rw [if_neg (fun h => by rw [HSZ.out] at h; omega), if_neg (by decide)]
  · obtain ⟨t, N, rfl⟩ : ∃ t N, ev = .iface t (.pointer (some ⟨N, 0, none⟩)) := by
      rcases HC.out with ⟨-, e⟩ | ⟨-, t, N, e⟩
      · exact absurd e hnil
      · exact ⟨t, N, e⟩
    go_wp2
    refine bodyPost_ret (v := .tuple #[.int .i64 n, .bool false]) (by simp [results, Tryz.results41, go_sem]) rfl ⟨n, false, rfl, HK.out, h0, h1, ?_⟩
    have hno : ∀ m, Lib.atoiAll s.data.toList ≠ .ok m := by
      rcases HC.out with ⟨-, e⟩ | ⟨h, -⟩
      · exact absurd e hnil
      · exact h
    unfold numK
    rw [if_neg (by decide)]
    split
    · rename_i m e
      exact absurd e (hno m)
    · rfl

end Go.Proofs.YtblkkcpeodoclaaGreatDoor

/- rots.numbers, rots.right. -/
namespace Go.Proofs.YtblkkcpeodoclaaGreatDoor
open Go.RowKit

/-- What rots.numbers makes of a line. -/
def numsK (s : List UInt8) : Option (List Int) := (cutB 32 s).mapM numK

theorem mapM_take {α β : Type} {f : α → Option β} {l : List α} {i : Nat} {x : α} {r : List β} (hx : l[i]? = some x) (hr : (l.take i).mapM f = some r) :
    (l.take (i + 1)).mapM f = (f x).map fun y => r ++ [y] := by
  rw [List.take_add_one, hx]
  simp only [Option.toList_some]
  rw [List.mapM_append]
  simp [hr]
  cases f x <;> rfl

theorem mapM_none {α β : Type} {f : α → Option β} {l : List α} {i : Nat} {x : α} (hx : l[i]? = some x) (h : f x = none) : l.mapM f = none := by
  induction l generalizing i with
  | nil => simp at hx
  | cons a l ih =>
    cases i with
    | zero =>
      simp at hx
      subst hx
      simp [h]
    | succ i =>
      have := ih (by simpa using hx)
      cases hfa : f a <;> simp [hfa, this]

/-- What rots.numbers answers. -/
def NumsR (s : ByteArray) (w : World) (e : Ending) (w' : World) : Prop :=
  ∃ (v : Value) (ok : Bool), e = .returned (.tuple #[v, .bool ok]) ∧ Keeps (fun _ => False) w w' ∧
    ((ok = false ∧ v = .slice none 0 0 ∧ numsK s.data.toList = none) ∨ (ok = true ∧ ∃ l, numsK s.data.toList = some l ∧ OwnI w.heap.size w' v l))

theorem piece_size {c : UInt8} {s : ByteArray} {ps : List ByteArray} (h : ps.map (·.data.toList) = cutB c s.data.toList) : ∀ x ∈ ps, x.size ≤ s.size := by
  have key : ∀ l : List UInt8, ∀ y ∈ cutB c l, y.length ≤ l.length := by
    intro l
    induction l with
    | nil => intro y hy; simp [cutB] at hy; subst hy; simp
    | cons b l ih =>
      intro y hy
      unfold cutB at hy
      split at hy
      · rcases List.mem_cons.1 hy with rfl | hy
        · simp
        · have := ih y hy; simp; omega
      · split at hy
        · rename_i z zs hz
          rcases List.mem_cons.1 hy with rfl | hy
          · have := ih z (by rw [hz]; exact List.mem_cons_self ..); simp; omega
          · have := ih y (by rw [hz]; exact List.mem_cons_of_mem _ hy); simp; omega
        · rw [List.mem_singleton] at hy; subst hy; simp
  intro x hx
  have := key s.data.toList x.data.toList (by rw [← h]; exact List.mem_map.2 ⟨x, hx, rfl⟩)
  rw [Array.length_toList, Array.length_toList] at this
  exact this

theorem pieces_len {c : UInt8} {s : ByteArray} {ps : List ByteArray} (h : ps.map (·.data.toList) = cutB c s.data.toList) : ps.length ≤ s.size + 1 := by
  have key : ∀ l : List UInt8, (cutB c l).length ≤ l.length + 1 := by
    intro l
    induction l with
    | nil => simp [cutB]
    | cons b l ih =>
      unfold cutB
      split
      · simp; omega
      · split
        · rename_i z zs hz; rw [hz] at ih; simp at ih ⊢; omega
        · simp
  have := key s.data.toList
  rw [← h, List.length_map, Array.length_toList] at this
  exact this

set_option maxRecDepth 100000 in
set_option maxHeartbeats 2000000 in
theorem numbers_any (s : ByteArray) (B : Nat) (w : World) (hE : EnvR B w) (hs : s.size ≤ 1000000000) : Calls Tryz.prog 20 #[.string s] w (NumsR s w) := by
  have HE := Lib.hid hE
  clear hE
  go_enter Tryz.func20, Tryz.ntmps20
  go_wp2_with fail
  refine (split_any s 32 B w HE.out (by omega)).mono ?_
  rintro e w1 ⟨ps, rfl, hps, rfl⟩
  obtain ⟨w1, hw1⟩ : ∃ w1, w1 = w.alloc (.cells (ps.map Value.string).toArray 9) := ⟨_, rfl⟩
  have k1 : Keeps (fun _ => False) w w1 := by rw [hw1]; exact (Keeps.refl _ w).alloc _
  have hb : w1.heap[w.heap.size]? = some (.cells (ps.map Value.string).toArray 9 (0, 0)) := by rw [hw1]; exact heap_alloc_new w _
  rw [← hw1]
  obtain ⟨n, hn⟩ : ∃ n, n = ps.length := ⟨_, rfl⟩
  rw [← hn]
  have hnl : n ≤ 1000000001 := by have := pieces_len hps; omega
  have hzw : w.heap.size < w1.heap.size := lt_of_block hb
  have HP := Lib.hid (And.intro hps (And.intro hn (And.intro hb k1)))
  clear hw1 k1 hb hps hn
  go_wp2_with fail
  go_loopg [4, 12] n (fun mu sv iv wr => ∃ (i : Nat) (l : List Int), i ≤ n ∧ mu = n - i ∧ iv = .int .i64 i ∧ ((cutB 32 s.data.toList).take i).mapM numK = some l ∧ l.length = i ∧ OwnI w1.heap.size wr sv l ∧ Keeps (fun _ => False) w1 wr)
  case atStart => exact ⟨0, [], Nat.zero_le _, rfl, rfl, by simp, rfl, OwnI.nil _ _, Keeps.refl _ _⟩
  case round =>
    obtain ⟨i, l, hi, hgk, rfl, hl, hll, hown, hkw⟩ := hrel
    have HG := Lib.hid hgk
    have HL := Lib.hid (And.intro hl hll)
    clear hgk hl
    obtain ⟨sa, sc, rfl, -, -⟩ := hown.form
    rw [hll] at hown ⊢
    clear hll
    by_cases hlt : i < n
    · obtain ⟨x, hx⟩ : ∃ x, ps[i]? = some x := ⟨_, List.getElem?_eq_getElem (by rw [← HP.out.2.1]; exact hlt)⟩
      have hc := World.cell_of_heap (hkw.at HP.out.2.2.1 (fun h => h)) i
      rw [show ((ps.map Value.string).toArray)[i]? = some (.string x) by simp [hx]] at hc
      have hxs : x.size ≤ 1000000000 := by have := piece_size HP.out.1 x (List.mem_of_getElem? hx); omega
      have hcx : (cutB 32 s.data.toList)[i]? = some x.data.toList := by rw [← HP.out.1]; simp [hx]
      have HX := Lib.hid hcx
      have HO := Lib.hid (And.intro hown hkw)
      clear hcx hx hown hkw
      have h32 : (32 : Nat) ≤ 32 := Nat.le_refl _
      go_wp2_with fail
      refine (number_any x B wr ((HE.out.keeps HP.out.2.2.2 (fun _ h => h.elim)).keeps HO.out.2 (fun _ h => h.elim)) (by omega)).mono ?_
      rintro e w2 ⟨m, ok, rfl, hk2, h0, h1, hnk⟩
      have HK := Lib.hid (And.intro hk2 hnk)
      clear hk2 hnk hc
      cases ok with
      | false =>
        go_wp2
        refine bodyPost_ret (v := .tuple #[.slice none 0 0, .bool false]) (by simp [results, Tryz.results20, go_sem]) rfl ⟨_, false, rfl, (HP.out.2.2.2.trans HO.out.2 (fun _ _ h => h)).trans HK.out.1 (fun _ _ h => h), .inl ⟨rfl, rfl, ?_⟩⟩
        exact mapM_none HX.out (by rw [HK.out.2]; rfl)
      | true =>
        have HN : Hid (l.length = i) := Lib.hid HL.out.2
        have hown2 := HO.out.1.keeps HK.out.1 (fun _ _ h => h)
        have hzw2 : w1.heap.size ≤ w2.heap.size := Nat.le_trans HO.out.2.size HK.out.1.size
        go_wp2_with (at_builtin; go_loud (refine append1n i rfl _ _ rfl w1.heap.size (.slice sa i sc) l m HN w2.heap.size rfl rfl rfl hown2 (by omega) hzw2 ?_); intro g cap w3 hown3 hk3 hat hg)
        have hkf : Keeps (fun _ => False) w1 w3 := (HO.out.2.trans HK.out.1 (fun _ _ h => h)).trans hk3 (fun y hy e => by have := (HO.out.1.lt y e).1; omega)
        have hm := mapM_take HX.out HL.out.1
        rw [HK.out.2] at hm
        have HF := Lib.hid (And.intro hown3 (And.intro hkf hm))
        clear hown3 hk3 hkf hm hown2 hat
        go_wp2
        go_roundg (n - (i + 1))
        case measure => rw [HG.out]; omega
        case rel => exact ⟨i + 1, l ++ [m], by omega, rfl, by go_num, HF.out.2.2, by rw [List.length_append, HL.out.2]; rfl, HF.out.1, HF.out.2.1⟩
    · have hin : i = n := by omega
      have hfin : numsK s.data.toList = some l := by
        have h1 := HL.out.1
        rw [hin, HP.out.2.1, List.take_of_length_le (by rw [← HP.out.1, List.length_map]; exact Nat.le_refl _)] at h1
        exact h1
      have HF := Lib.hid (And.intro hfin (And.intro hown hkw))
      have t1 : decide ((i : Int) < (n : Int)) = false := decide_eq_false (by omega)
      have t2 : decide (i < n) = false := decide_eq_false hlt
      clear hfin hown hkw hin
      go_wp2
      refine bodyPost_ret (v := .tuple #[.slice sa i sc, .bool true]) (by simp [results, Tryz.results20, go_sem]) rfl ⟨_, true, rfl, HP.out.2.2.2.trans HF.out.2.2 (fun _ _ h => h), .inr ⟨rfl, l, HF.out.1, HF.out.2.1.mono (fun q hq => by have := (HF.out.2.1.lt q hq).1; omega)⟩⟩

/-- What rots.right answers. -/
def rightK (first : Bool) (l : List Int) : Bool := if first then decide (l.length = 3 ∧ 0 ≤ l.getD 0 0 ∧ 0 ≤ l.getD 2 0) else l.all (fun n => decide (0 ≤ n))

set_option maxRecDepth 100000 in
theorem rowRight_any (v : Value) (l : List Int) (first : Bool) (w : World) (hv : Sl .i64 w v l) (hl : l.length ≤ 10000000000) :
    Calls Tryz.prog 21 #[v, .bool first] w fun e w' => e = .returned (.bool (rightK first l)) ∧ w' = w := by
  obtain ⟨a, cap, rfl, -, hcap, -, hc⟩ := id hv
  obtain ⟨n, hn⟩ : ∃ n, n = l.length := ⟨_, rfl⟩
  rw [← hn]
  have HN := Lib.hid hn
  have HV := Lib.hid hv
  have hnl : n ≤ 10000000000 := by omega
  clear hc hv
  go_enter Tryz.func21, Tryz.ntmps21
  cases first with
  | true =>
    by_cases h3 : n = 3
    · have hg : ∀ i, i < 3 → ∃ z, l[i]? = some z := fun i hi => ⟨_, List.getElem?_eq_getElem (by rw [← hn]; omega)⟩
      obtain ⟨x, hx⟩ := hg 0 (by omega)
      obtain ⟨z, hz⟩ := hg 2 (by omega)
      obtain ⟨g, off, rfl, cx⟩ := HV.out.cellAt hx
      rw [Nat.add_zero] at cx
      obtain ⟨g', off', e', cz⟩ := HV.out.cellAt hz
      simp only [Option.some.injEq, Addr.mk.injEq, and_true] at e'
      obtain ⟨rfl, rfl⟩ := e'
      have HX := Lib.hid (And.intro hx hz)
      have ex : l.getD 0 0 = x := by rw [List.getD_eq_getElem?_getD, hx]; rfl
      have ez : l.getD 2 0 = z := by rw [List.getD_eq_getElem?_getD, hz]; rfl
      have hr : rightK true l = decide (0 ≤ x ∧ 0 ≤ z) := by
        unfold rightK
        rw [if_pos rfl, ex, ez]
        have : l.length = 3 := by omega
        simp [this]
      rw [hr]
      subst h3
      clear hx hz ex ez hr hg hn hl
      by_cases hx0 : 0 ≤ x
      · by_cases hz0 : 0 ≤ z
        · have t1 : decide (0 ≤ x) = true := decide_eq_true hx0
          have t2 : decide (0 ≤ z) = true := decide_eq_true hz0
          have t3 : decide (0 ≤ x ∧ 0 ≤ z) = true := decide_eq_true ⟨hx0, hz0⟩
          rw [t3]
          go_wp2
          go_ret
          exact ⟨rfl, rfl⟩
        · have t1 : decide (0 ≤ x) = true := decide_eq_true hx0
          have t2 : decide (0 ≤ z) = false := decide_eq_false hz0
          have t3 : decide (0 ≤ x ∧ 0 ≤ z) = false := decide_eq_false (fun h => hz0 h.2)
          rw [t3]
          go_wp2
          go_ret
          exact ⟨rfl, rfl⟩
      · have t1 : decide (0 ≤ x) = false := decide_eq_false hx0
        have t3 : decide (0 ≤ x ∧ 0 ≤ z) = false := decide_eq_false (fun h => hx0 h.1)
        rw [t3]
        go_wp2
        go_ret
        exact ⟨rfl, rfl⟩
    · have hr : rightK true l = false := by
        unfold rightK
        rw [if_pos rfl]
        exact decide_eq_false (fun h => by omega)
      rw [hr]
      have t1 : decide ((n : Int) = 3) = false := decide_eq_false (by omega)
      have t2 : ((n : Int) == 3) = false := beq_eq_false_iff_ne.2 (by omega)
      clear hr hn hl
      go_wp2
      go_ret
      exact ⟨rfl, rfl⟩
  | false =>
    have hr : rightK false l = l.all (fun n => decide (0 ≤ n)) := by unfold rightK; rw [if_neg (by decide)]
    rw [hr]
    have HR := Lib.hid hr
    clear hr hn hl
    go_wp2_with fail
    go_loopg [25] n (fun mu iv wr => ∃ i : Nat, i ≤ n ∧ mu = n - i ∧ iv = .int .i64 i ∧ (∀ j, j < i → ∀ z, l[j]? = some z → 0 ≤ z) ∧ wr = w)
    case atStart => exact ⟨0, Nat.zero_le _, rfl, rfl, fun j hj => absurd hj (by omega), rfl⟩
    case round =>
      obtain ⟨i, hi, hgk, rfl, hall, rfl⟩ := hrel
      have HG := Lib.hid hgk
      have HA := Lib.hid hall
      clear hgk hall
      by_cases hlt : i < n
      · obtain ⟨x, hx⟩ : ∃ x, l[i]? = some x := ⟨_, List.getElem?_eq_getElem (by rw [← HN.out]; exact hlt)⟩
        obtain ⟨g, off, rfl, cx⟩ := HV.out.cellAt hx
        have HX := Lib.hid hx
        clear hx
        by_cases hx0 : x < 0
        · have t1 : decide (x < 0) = true := decide_eq_true hx0
          have hf : l.all (fun n => decide (0 ≤ n)) = false := by
            rw [List.all_eq_false]
            exact ⟨x, List.mem_of_getElem? HX.out, by simpa using hx0⟩
          have HF := Lib.hid hf
          clear hf
          go_wp2
          go_ret
          exact ⟨by rw [HF.out]; rfl, rfl⟩
        · have t1 : decide (x < 0) = false := decide_eq_false hx0
          go_wp2
          go_roundg (n - (i + 1))
          case measure => rw [HG.out]; omega
          case rel => exact ⟨i + 1, by omega, rfl, by go_num, fun j hj z hz => by
            by_cases hji : j = i
            · subst hji; rw [HX.out] at hz; cases hz; omega
            · exact HA.out j (by omega) z hz, rfl⟩
      · have hf : l.all (fun n => decide (0 ≤ n)) = true := by
          rw [List.all_eq_true]
          intro z hz
          obtain ⟨j, hj⟩ := List.mem_iff_getElem?.1 hz
          have hjl : j < l.length := (List.getElem?_eq_some_iff.1 hj).1
          exact decide_eq_true (HA.out j (by have := HN.out; omega) z hj)
        have HF := Lib.hid hf
        have t1 : decide ((i : Int) < (n : Int)) = false := decide_eq_false (by omega)
        clear hf
        go_wp2
        go_ret
        exact ⟨by rw [HF.out]; rfl, rfl⟩

end Go.Proofs.YtblkkcpeodoclaaGreatDoor
