/- rots.turns. -/
import Derived.Test.YtblkkcpeodoclaaGreatDoorPtRots3
import Derived.Test.YtblkkcpeodoclaaGreatDoorPtTurnQ
import Derived.Test.YtblkkcpeodoclaaGreatDoorPtWalks
namespace Go.Proofs.YtblkkcpeodoclaaGreatDoor
open Go.RowKit

/-- Lines of darts, as rots.turns reads them. -/
def LinesR (w : World) (a : Option Addr) (n : Nat) (ls : List (List Nat)) : Prop :=
  ls.length = n ∧ ∀ j l, ls[j]? = some l → ∃ g off xa xc, a = some ⟨g, off, none⟩ ∧ w.cell? ⟨g, off + j, none⟩ = some (.slice xa l.length xc) ∧ Sl .i64 w (.slice xa l.length xc) (nats l)

theorem LinesR.keeps {w w' : World} {a : Option Addr} {n : Nat} {ls : List (List Nat)} (h : LinesR w a n ls) (k : Keeps (fun _ => False) w w') : LinesR w' a n ls :=
  ⟨h.1, fun j l hl => by
    obtain ⟨g, off, xa, xc, rfl, hc, hs⟩ := h.2 j l hl
    exact ⟨g, off, xa, xc, rfl, by rw [World.cell?_of_block (k.block g (World.block_lt_of_cell? _ _ hc) (fun h => h))]; exact hc, hs.keeps k (fun _ _ h => h)⟩⟩

def TurnsR (ls : List (List Nat)) (D : Nat) (w : World) (e : Ending) (w' : World) : Prop :=
  ∃ (v : Value) (ok : Bool), e = .returned (.tuple #[v, .bool ok]) ∧ Keeps (fun _ => False) w w' ∧
    ((ok = false ∧ v = .slice none 0 0 ∧ ¬ TurnOk ls D) ∨ (ok = true ∧ TurnOk ls D ∧ ∃ zs, TurnI D (linksL ls) zs ∧ OwnI w.heap.size w' v zs))

theorem links_len (ls : List (List Nat)) : (linksL ls).length = (ls.map List.length).sum := by
  rw [← List.length_map (f := Prod.fst), links_fst, List.length_flatten]

theorem sum_take {ls : List (List Nat)} {i : Nat} {l : List Nat} (h : ls[i]? = some l) : ((ls.take (i + 1)).map List.length).sum = ((ls.take i).map List.length).sum + l.length := by
  rw [List.take_add_one, h]
  simp

theorem sum_le : ∀ (ls : List (List Nat)) (i : Nat), ((ls.take i).map List.length).sum ≤ (ls.map List.length).sum
  | [], i => by simp
  | l :: ls, 0 => by simp
  | l :: ls, i + 1 => by have := sum_le ls i; simp only [List.take_succ_cons, List.map_cons, List.sum_cons]; omega

theorem linkV_get {l : List Nat} {j : Nat} (hj : j < l.length) : (linkV l)[j]? = some (l.getD j 0, l.getD ((j + 1) % l.length) 0) := by
  unfold linkV
  rw [List.getElem?_map, List.getElem?_range hj]
  rfl

theorem linkV_len (l : List Nat) : (linkV l).length = l.length := by simp [linkV]

theorem linksL_take {ls : List (List Nat)} {i : Nat} {l : List Nat} (h : ls[i]? = some l) : linksL (ls.take (i + 1)) = linksL (ls.take i) ++ linkV l := by
  unfold linksL
  rw [List.take_add_one, h]
  simp

theorem links_at {ls : List (List Nat)} {i j : Nat} {l : List Nat} (h : ls[i]? = some l) (hj : j < l.length) :
    ∃ rest, linksL ls = (linksL (ls.take i) ++ (linkV l).take j) ++ (l.getD j 0, l.getD ((j + 1) % l.length) 0) :: rest := by
  have e1 : ls = ls.take (i + 1) ++ ls.drop (i + 1) := (List.take_append_drop _ _).symm
  have e2 : linkV l = (linkV l).take j ++ (l.getD j 0, l.getD ((j + 1) % l.length) 0) :: (linkV l).drop (j + 1) := by
    conv => lhs; rw [← List.take_append_drop (j + 1) (linkV l), List.take_add_one, linkV_get hj]
    simp
  refine ⟨(linkV l).drop (j + 1) ++ linksL (ls.drop (i + 1)), ?_⟩
  conv => lhs; rw [e1]
  unfold linksL
  rw [List.flatMap_append]
  show linksL (ls.take (i + 1)) ++ _ = _
  rw [linksL_take h]
  conv => lhs; rw [e2]
  simp [linksL]

theorem TurnOk.next {ls : List (List Nat)} {D i j : Nat} {l : List Nat} (h : TurnOk ls D) (hl : ls[i]? = some l) (hj : j < l.length) : l.getD j 0 < D ∧ l.getD j 0 ∉ (linksL (ls.take i) ++ (linkV l).take j).map Prod.fst := by
  obtain ⟨rest, e⟩ := links_at hl hj
  obtain ⟨_, h2, h3⟩ := h
  refine ⟨h3 (l.getD j 0, l.getD ((j + 1) % l.length) 0) (by rw [e]; simp), fun hm => ?_⟩
  rw [e, List.map_append, List.map_cons, List.nodup_append] at h2
  exact h2.2.2 _ hm _ (List.mem_cons_self ..) rfl

/-- The two rows while the turns are told. -/
def TSt (wo : World) (S : Nat) (done : List (Nat × Nat)) (wr : World) : Prop :=
  ∃ zs, TurnI S done zs ∧ OwnI wo.heap.size wr (.slice (some ⟨wo.heap.size, 0, none⟩) S S) zs ∧ BoolAt wr (wo.heap.size + 1) S (fun x => x ∈ done.map Prod.fst) ∧ Keeps (fun _ => False) wo wr

theorem TSt.start (wo : World) (S : Nat) (hS : S ≤ 100000000) : TSt wo S [] ((wo.alloc (.cells (madeCells #[.int .i64 0] S) 3)).alloc (.cells (madeCells #[.bool false] S) 4)) := by
  have h1 := (OwnI.made wo.heap.size wo S (Nat.le_refl _) hS).alloc (.cells (madeCells #[.bool false] S) 4)
  have h2 := BoolAt.made (wo.alloc (.cells (madeCells #[.int .i64 0] S) 3)) S (P := fun x => x ∈ ([] : List (Nat × Nat)).map Prod.fst) (fun x _ h => by simp at h)
  refine ⟨_, TurnI.start S, h1, ?_, ((Keeps.refl _ wo).alloc _).alloc _⟩
  simpa using h2

theorem TSt.put {wo wr : World} {S d y : Nat} {done : List (Nat × Nat)} (h : TSt wo S done wr) (hd : d < S) (hn : d ∉ done.map Prod.fst) :
    TSt wo S (done ++ [(d, y)]) ((wr.setCell ⟨wo.heap.size + 1, d, none⟩ (.bool true)).setCell ⟨wo.heap.size, d, none⟩ (.int .i64 y)) := by
  obtain ⟨zs, h1, h2, h3, h4⟩ := h
  have e1 := h2.other ⟨wo.heap.size + 1, d, none⟩ (by simp [Value.ownBlock]) (.bool true)
  have e2 := e1.set d (y : Int)
  have b1 := h3.set (Q := fun x => x ∈ (done ++ [(d, y)]).map Prod.fst) hd (fun x hx => by simp)
  have b2 := b1.keeps ((Keeps.refl (fun x => x = wo.heap.size) _).setCell (p := ⟨wo.heap.size, d, none⟩) (.inl rfl) (.int .i64 y)) (by omega)
  exact ⟨_, h1.put hd hn, e2, b2, ((h4.setCell (p := ⟨wo.heap.size + 1, d, none⟩) (.inr (by simp)) _).setCell (p := ⟨wo.heap.size, d, none⟩) (.inr (Nat.le_refl _)) _)⟩

set_option maxRecDepth 100000 in
set_option maxHeartbeats 4000000 in
theorem turns_any (a : Option Addr) (n cap : Nat) (ls : List (List Nat)) (D : Nat) (w : World) (hL : LinesR w a n ls) (hsum : (ls.map List.length).sum ≤ 100000000) (hn : n ≤ 100000000) (hD : D ≤ 4000000000) :
    Calls Tryz.prog 22 #[.slice a n cap, .int .i64 D] w (TurnsR ls D w) := by
  have HL := Lib.hid hL
  have hll := links_len ls
  obtain ⟨S, hS⟩ : ∃ S, S = (ls.map List.length).sum := ⟨_, rfl⟩
  rw [← hS] at hsum hll
  have HS := Lib.hid (And.intro hS hll)
  clear hL hS hll
  go_enter Tryz.func22, Tryz.ntmps22
  go_wp2_with fail
  go_loopg [6, 17] n (fun mu sv iv wr => ∃ i : Nat, i ≤ n ∧ mu = n - i ∧ iv = .int .i64 i ∧ sv = .int .i64 (((ls.take i).map List.length).sum : Nat) ∧ wr = w)
  case atStart => exact ⟨0, Nat.zero_le _, rfl, rfl, rfl, rfl⟩
  case round =>
    obtain ⟨i, hi, hgk, rfl, rfl, rfl⟩ := hrel
    have HG := Lib.hid hgk
    clear hgk
    by_cases hlt : i < n
    · obtain ⟨l, hl⟩ : ∃ l, ls[i]? = some l := ⟨_, List.getElem?_eq_getElem (by rw [HL.out.1]; exact hlt)⟩
      obtain ⟨g, off, xa, xc, rfl, hc, hsl⟩ := HL.out.2 i l hl
      have hs1 := sum_take hl
      have hs2 := sum_le ls (i + 1)
      rw [← HS.out.1] at hs2
      have HX := Lib.hid hs1
      generalize hq : ((ls.take i).map List.length).sum = q at *
      have hql : q + l.length ≤ 100000000 := by rw [hs1] at hs2; omega
      clear hs1 hs2 hq hl hsl
      go_wp2
      go_roundg (n - (i + 1))
      case measure => rw [HG.out]; omega
      case rel => exact ⟨i + 1, by omega, rfl, by go_num, by rw [HX.out]; go_num, rfl⟩
    · have hin : i = n := by omega
      have hq : ((ls.take i).map List.length).sum = S := by rw [hin, List.take_of_length_le (by rw [HL.out.1]; exact Nat.le_refl _), HS.out.1]
      rw [hq]
      clear hq hin
      by_cases hSD : S = D
      · subst hSD
        generalize wr = wo at *
        have t3 : decide ((i : Int) < (n : Int)) = false := decide_eq_false (by omega)
        obtain ⟨i1, hi1, hz0, hz1, hz2⟩ := info_parts infoInt
        have hmk := fun w => run_make (P := Tryz.prog) w 33 3 i1 _ Tryz.underlying33 hi1 hz0 .i64 .i64 (S : Int) (S : Int) (by omega) (Int.le_refl _) (by rw [hz2]; omega) (by omega)
        obtain ⟨i2, hi2, hb0, hb1, hb2⟩ := info_parts infoBool
        have hmb := fun w => run_make (P := Tryz.prog) w 89 4 i2 _ Tryz.underlying89 hi2 hb0 .i64 .i64 (S : Int) (S : Int) (by omega) (Int.le_refl _) (by rw [hb2]; omega) (by omega)
        simp only [hz1, Int.toNat_natCast, Nat.mul_one] at hmk
        simp only [hb1, Int.toNat_natCast, Nat.mul_one] at hmb
        clear hi1 hz0 hz1 hz2 hi2 hb0 hb1 hb2
        go_wp2_with fail
        clear hmk hmb
        have h0 := TSt.start wo S hsum
        generalize World.alloc _ _ = wM at *
        have H0 := Lib.hid h0
        clear h0
        go_loopg [35] n (fun mu iv wr => ∃ i : Nat, i ≤ n ∧ mu = n - i ∧ iv = .int .i64 i ∧ TSt wo S (linksL (ls.take i)) wr)
        case atStart => exact ⟨0, Nat.zero_le _, rfl, rfl, by simpa [linksL] using H0.out⟩
        case round =>
          obtain ⟨k, hk, hgk, rfl, hT⟩ := hrel
          have HG2 := Lib.hid hgk
          have HT := Lib.hid hT
          clear hgk hT
          by_cases hkn : k < n
          · obtain ⟨l, hl⟩ : ∃ l, ls[k]? = some l := ⟨_, List.getElem?_eq_getElem (by rw [HL.out.1]; exact hkn)⟩
            have hkw : Keeps (fun _ => False) wo wr := by obtain ⟨_, _, _, _, h⟩ := HT.out; exact h
            obtain ⟨g, off, xa, xc, rfl, hc0, hsl⟩ := HL.out.2 k l hl
            obtain ⟨m, hm⟩ : ∃ m, m = l.length := ⟨_, rfl⟩
            rw [← hm] at hc0 hsl
            have hc : wr.cell? ⟨g, off + k, none⟩ = some (.slice xa m xc) := by rw [World.cell?_of_block (hkw.block g (World.block_lt_of_cell? _ _ hc0) (fun h => h))]; exact hc0
            have HSL := Lib.hid hsl
            clear hc0
            have hm8 : m ≤ 100000000 := by
              have h1 := sum_take hl
              have h2 := sum_le ls (k + 1)
              rw [← HS.out.1] at h2
              omega
            have HX := Lib.hid (And.intro hl hm)
            have t4 : decide ((k : Int) < (n : Int)) = true := decide_eq_true (by omega)
            clear hl hm hsl hkw
            generalize wr = wk at *
            go_wp2_with fail
            clear hc
            go_loopg [41] m (fun mu jv wz => ∃ j : Nat, j ≤ m ∧ mu = m - j ∧ jv = .int .i64 j ∧ TSt wo S (linksL (ls.take k) ++ (linkV l).take j) wz)
            case atStart => exact ⟨0, Nat.zero_le _, rfl, rfl, by simpa using HT.out⟩
            case round =>
              obtain ⟨j, hj, hgk, rfl, hT⟩ := hrel
              have HG3 := Lib.hid hgk
              have HT2 := Lib.hid hT
              clear hgk hT
              by_cases hjm : j < m
              · obtain ⟨zs, h1, h2, h3, h4⟩ := HT2.out
                have hs2 := HSL.out.keeps h4 (fun _ _ h => h)
                obtain ⟨r, hr⟩ : ∃ r, r = (j + 1) % m := ⟨_, rfl⟩
                have hrm : r < m := by rw [hr]; exact Nat.mod_lt _ (by omega)
                obtain ⟨d, hd⟩ : ∃ d, l[j]? = some d := ⟨_, List.getElem?_eq_getElem (by rw [← HX.out.2]; exact hjm)⟩
                obtain ⟨y, hy⟩ : ∃ y, l[r]? = some y := ⟨_, List.getElem?_eq_getElem (by rw [← HX.out.2]; exact hrm)⟩
                have hlk : (linkV l)[j]? = some (d, y) := by
                  rw [linkV_get (by rw [← HX.out.2]; exact hjm), ← HX.out.2, ← hr, List.getD_eq_getElem?_getD, List.getD_eq_getElem?_getD, hd, hy]; rfl
                have hgd : l.getD j 0 = d := by rw [List.getD_eq_getElem?_getD, hd]; rfl
                obtain ⟨g3, off3, rfl, c1⟩ := hs2.cellAt (nats_get hd)
                obtain ⟨g4, off4, e4, c2⟩ := hs2.cellAt (nats_get hy)
                simp only [Option.some.injEq, Addr.mk.injEq, and_true] at e4
                obtain ⟨rfl, rfl⟩ := e4
                obtain ⟨g5, off5, e5, c5⟩ := HSL.out.cellAt (nats_get hd)
                simp only [Option.some.injEq, Addr.mk.injEq, and_true] at e5
                obtain ⟨rfl, rfl⟩ := e5
                have hg3 : g3 < wo.heap.size := World.block_lt_of_cell? _ _ c5
                have m2 : ((j : Int) + 1) % (m : Int) = (r : Int) := by rw [hr]; simp
                have m1 : ((j : Int) + 1).tmod (m : Int) = (r : Int) := by rw [Int.tmod_eq_emod_of_nonneg (by omega)]; exact m2
                have m3 : ¬ (m : Int) = 0 := by omega
                have m4 : IntKind.i64.wrap (r : Int) = (r : Int) := IntWalk.i64_in _ (by omega)
                have t5 : decide ((j : Int) < (m : Int)) = true := decide_eq_true (by omega)
                have HK4 := Lib.hid h4
                have HH := Lib.hid (And.intro hlk (And.intro hgd hr))
                clear hlk hgd hr hd hy c5 hs2 h4
                by_cases hdS : d < S
                · obtain ⟨tb, htb, cb, fb⟩ := h3.cell hdS
                  have t6 : decide ((S : Int) ≤ (d : Int)) = false := decide_eq_false (by omega)
                  have t7 : decide (S ≤ d) = false := decide_eq_false (by omega)
                  cases tb with
                  | true =>
                    have hin := htb.1 rfl
                    have hno : ¬ TurnOk ls S := fun h => by
                      have := (h.next HX.out.1 (j := j) (by rw [← HX.out.2]; exact hjm)).2
                      rw [HH.out.2.1] at this
                      exact this hin
                    have HNO := Lib.hid hno
                    clear hno hin htb h1 h2 h3
                    go_wp2
                    refine bodyPost_ret (v := .tuple #[.slice none 0 0, .bool false]) (by simp [results, Tryz.results22, go_sem]) rfl ⟨_, false, rfl, HK4.out, .inl ⟨rfl, rfl, HNO.out⟩⟩
                  | false =>
                    have hni : d ∉ (linksL (ls.take k) ++ (linkV l).take j).map Prod.fst := fun h => by have := htb.2 h; cases this
                    have hput := HT2.out.put (y := y) hdS hni
                    have hdz : d < zs.length := by rw [h1.len]; exact hdS
                    obtain ⟨z0, cz, fz⟩ := h2.has d hdz
                    have w1 : ∀ v, (wr.setCell ⟨wo.heap.size + 1, d, none⟩ v).cell? ⟨g3, off3 + r, none⟩ = some (.int .i64 y) := fun v => by
                      rw [World.cell?_setCell_other _ _ _ _ (fun e => by have h := congrArg Addr.block e; have h2 : wo.heap.size + 1 = g3 := h; omega)]; exact c2
                    have w2 : ∀ v, (wr.setCell ⟨wo.heap.size + 1, d, none⟩ v).cell? ⟨wo.heap.size, d, none⟩ = some (.int .i64 z0) := fun v => by
                      rw [World.cell?_setCell_other _ _ _ _ (fun e => by have h := congrArg Addr.block e; have h2 : wo.heap.size + 1 = wo.heap.size := h; omega)]; exact cz
                    have HP := Lib.hid hput
                    clear hput hni htb h1 h2 h3
                    go_wp2
                    go_roundg (m - (j + 1))
                    case measure => rw [HG3.out]; omega
                    case rel => exact ⟨j + 1, by omega, rfl, by go_num, by
                      rw [List.take_add_one, HH.out.1]
                      simpa using HP.out⟩
                · have hno : ¬ TurnOk ls S := fun h => by
                    have := (h.next HX.out.1 (j := j) (by rw [← HX.out.2]; exact hjm)).1
                    rw [HH.out.2.1] at this
                    exact hdS this
                  have HNO := Lib.hid hno
                  have t6 : decide ((S : Int) ≤ (d : Int)) = true := decide_eq_true (by omega)
                  have t7 : decide (S ≤ d) = true := decide_eq_true (by omega)
                  clear hno h1 h2 h3
                  go_wp2
                  refine bodyPost_ret (v := .tuple #[.slice none 0 0, .bool false]) (by simp [results, Tryz.results22, go_sem]) rfl ⟨_, false, rfl, HK4.out, .inl ⟨rfl, rfl, HNO.out⟩⟩
              · have hjm2 : j = m := by omega
                have hf : TSt wo S (linksL (ls.take (k + 1))) wr := by
                  rw [linksL_take HX.out.1]
                  have := HT2.out
                  rw [show (linkV l).take j = linkV l from List.take_of_length_le (by rw [linkV_len, ← HX.out.2]; omega)] at this
                  exact this
                have HF := Lib.hid hf
                have t5 : decide ((j : Int) < (m : Int)) = false := decide_eq_false (by omega)
                clear hf hjm2
                go_wp2
                go_roundg (n - (k + 1))
                case measure => rw [HG2.out]; omega
                case rel => exact ⟨k + 1, by omega, rfl, by go_num, HF.out⟩
          · have hkn2 : k = n := by omega
            have hf : TSt wo S (linksL ls) wr := by
              have := HT.out
              rw [hkn2, List.take_of_length_le (by rw [HL.out.1]; exact Nat.le_refl _)] at this
              exact this
            have HF := Lib.hid hf
            have t5 : decide ((k : Int) < (n : Int)) = false := decide_eq_false (by omega)
            clear hf hkn2
            go_wp2
            obtain ⟨zs, h1, h2, h3, h4⟩ := HF.out
            refine bodyPost_ret (v := .tuple #[.slice (some ⟨wo.heap.size, 0, none⟩) S S, .bool true]) (by simp [results, Tryz.results22, go_sem]) rfl ⟨_, true, rfl, h4, .inr ⟨rfl, ⟨HS.out.2, h1.nodup, h1.lt⟩, zs, h1, h2⟩⟩
      · have t1 : decide ((S : Int) = (D : Int)) = false := decide_eq_false (by omega)
        have t2 : ((S : Int) == (D : Int)) = false := beq_eq_false_iff_ne.2 (by omega)
        have t3 : decide ((i : Int) < (n : Int)) = false := decide_eq_false (by omega)
        go_wp2
        refine bodyPost_ret (v := .tuple #[.slice none 0 0, .bool false]) (by simp [results, Tryz.results22, go_sem]) rfl ⟨_, false, rfl, Keeps.refl _ _, .inl ⟨rfl, rfl, fun h => hSD (by rw [← HS.out.2]; exact h.1)⟩⟩

end Go.Proofs.YtblkkcpeodoclaaGreatDoor
