/- The references of layer 8: Parts. -/
import Derived.Test.YtipelclohcdkcaaGreatRef8
/- The references of layer 8: how many orbits have their least number in a part. -/
namespace Go.Proofs.YtipelclohcdkcaaGreat
open Go.RowKit

/-- How many orbits have their least number in a part, below i. -/
noncomputable def ofN (l nm : List Nat) (part i : Nat) : Nat := ((List.range i).filter fun d => rep (sg l) d == d && sg nm d == part).length
theorem ofN_zero (l nm : List Nat) (part : Nat) : ofN l nm part 0 = 0 := rfl
theorem ofN_succ (l nm : List Nat) (part i : Nat) : ofN l nm part (i + 1) = ofN l nm part i + if rep (sg l) i = i ∧ sg nm i = part then 1 else 0 := by
  unfold ofN
  rw [List.range_succ, List.filter_append, List.length_append]
  by_cases h1 : rep (sg l) i = i <;> by_cases h2 : sg nm i = part <;> simp [h1, h2]
theorem ofN_le (l nm : List Nat) (part i : Nat) : ofN l nm part i ≤ i := by
  unfold ofN
  have := List.length_filter_le (fun d => rep (sg l) d == d && sg nm d == part) (List.range i)
  simpa using this

theorem IsP.least_iff {n : Nat} {S : Nat → Nat} (h : IsP n S) {d : Nat} (hd : d < n) : rep S d = d ↔ ∀ i, i < per S d → d ≤ itr S i d := by
  constructor
  · intro hr i hi
    have := h.rep_le hd (e := itr S i d) ⟨i, rfl⟩
    omega
  · intro ha
    obtain ⟨i, hi, he⟩ := h.sameO_ex hd (h.rep_same hd)
    have h1 := ha i hi
    have h2 := h.rep_self_le hd
    omega

set_option maxRecDepth 100000 in
set_option maxHeartbeats 4000000 in
theorem refOf08_any (lv nv : Value) (l nm : List Nat) (part : Nat) (w : World) (hl : Sl .i64 w lv (nats l)) (hn : Sl .i64 w nv (nats nm)) (hlen : nm.length = l.length) (hP : IsP l.length (sg l)) (hb : l.length ≤ 1000000) :
    Calls Tryz.prog 188 #[lv, nv, .int .i64 part] w fun e w' => e = .returned (.int .i64 (ofN l nm part l.length : Nat)) ∧ Keeps (fun _ => False) w w' := by
  have HS : Hid (∀ W, Keeps (fun _ => False) w W → Sl .i64 W lv (nats l)) := Lib.hid (fun W hk => hl.keeps hk (fun _ _ h => h))
  have HN : Hid (∀ W, Keeps (fun _ => False) w W → Sl .i64 W nv (nats nm)) := Lib.hid (fun W hk => hn.keeps hk (fun _ _ h => h))
  obtain ⟨a, cap, rfl, hnc, hcm⟩ := hl.form
  obtain ⟨a2, cap2, rfl, hnc2, hcm2⟩ := hn.form
  rw [nats_len] at hnc HS
  rw [nats_len] at hnc2 HN
  rw [hlen] at HN
  simp only [nats_len, hlen]
  have HP := Lib.hid (And.intro hP hlen)
  clear hP hl hn hlen hnc2 hcm2
  have h0 := Keeps.refl (fun _ => False) w
  generalize hLL : l.length = L at *
  have HLL := Lib.hid hLL
  clear hLL
  go_enter Tryz.func188, Tryz.ntmps188
  go_wp2_with fail
  go_loopg [7, 14] L (fun m c i wr => ∃ j : Nat, j ≤ L ∧ m = L - j ∧ i = .int .i64 j ∧ c = .int .i64 (ofN l nm part j : Nat) ∧ Keeps (fun _ => False) w wr)
  case atStart => exact ⟨0, Nat.zero_le _, rfl, rfl, rfl, h0⟩
  case round =>
    clear h0
    obtain ⟨j, hj, hgk, rfl, rfl, hkw⟩ := hrel
    have HG := Lib.hid hgk
    have hos := ofN_succ l nm part j
    have hol := ofN_le l nm part j
    clear hgk
    by_cases hlt : j < L
    · have hjl : j < l.length := by rw [HLL.out]; exact hlt
      have hO := refOrbit_any (.slice a L cap) l j wr (HS.out wr hkw) (by rw [HLL.out]; exact HP.out.1) hjl (by rw [HLL.out]; exact hb)
      have hpb := (HP.out.1.per_spec hlt).2.1
      have hle := HP.out.1.least_iff hlt
      have HLE := Lib.hid (And.intro hle hos)
      have hnj : j < nm.length := by rw [HP.out.2]; exact hlt
      have hgn := nats_at hnj
      clear hle hos
      obtain ⟨x, hx⟩ : ∃ x, x = sg nm j := ⟨_, rfl⟩
      rw [← hx] at hgn
      have HX := Lib.hid (And.intro hx hgn)
      clear hx hgn
      generalize hcc : ofN l nm part j = c at *
      have HC := Lib.hid hcc
      clear hcc
      go_wp2_with fail
      refine hO.mono ?_
      rintro e w3 ⟨ov, rfl, hown, hk3⟩
      have hpl : (nats (orb (sg l) j)).length = per (sg l) j := by rw [nats_len, orb_length]
      have hfo := hown.form
      rw [hpl] at hfo
      obtain ⟨oa, oc, rfl, _, hoc⟩ := hfo
      have hkw3 := hkw.trans hk3 (fun _ _ h => h)
      have HOw : Hid (∀ W, Keeps (fun _ => False) w3 W → Sl .i64 W (.slice oa (per (sg l) j) oc) (nats (orb (sg l) j))) := Lib.hid (fun W hk => (hown.keeps hk (fun _ _ h => h)).sl)
      have h3 := Keeps.refl (fun _ => False) w3
      have HK3 := Lib.hid hkw3
      clear hO hown hpl hk3 hkw hkw3
      generalize hpp : per (sg l) j = p at *
      have HPP := Lib.hid hpp
      clear hpp
      go_wp2_with fail
      go_loopg [9, 21] p (fun m tv i wr => ∃ k : Nat, k ≤ p ∧ m = p - k ∧ i = .int .i64 k ∧ ∃ t : Bool, tv = .bool t ∧ (t = true ↔ ∀ i, i < k → j ≤ itr (sg l) i j) ∧ Keeps (fun _ => False) w3 wr)
      case atStart => exact ⟨0, Nat.zero_le _, rfl, rfl, true, rfl, ⟨fun _ i hi => by omega, fun _ => rfl⟩, h3⟩
      case round =>
        clear h3
        obtain ⟨k, hk, hgk, rfl, t, rfl, ht, hk4⟩ := hrel
        have HG4 := Lib.hid hgk
        clear hgk
        by_cases hkl : k < p
        · have hox := orb_get (S := sg l) (d := j) (by rw [HPP.out]; exact hkl)
          obtain ⟨og, oo, rfl, hcell⟩ := (HOw.out _ hk4).cellAt (nats_get hox)
          obtain ⟨y, hy⟩ : ∃ y, y = itr (sg l) k j := ⟨_, rfl⟩
          rw [← hy] at hcell
          have HT : Hid (∀ t2 : Bool, (t2 = true ↔ (t = true ∧ j ≤ y)) → (t2 = true ↔ ∀ i, i < k + 1 → j ≤ itr (sg l) i j)) := Lib.hid (fun t2 h2 => by
            rw [h2, ht]
            constructor
            · rintro ⟨h5, h6⟩ i hi
              rcases Nat.lt_or_ge i k with h7 | h7
              · exact h5 i h7
              · obtain rfl : i = k := by omega
                rw [← hy]; exact h6
            · intro h5
              exact ⟨fun i hi => h5 i (by omega), by rw [hy]; exact h5 k (by omega)⟩)
          have HK4 := Lib.hid hk4
          clear ht hox hy hk4
          cases t
          · go_wp2
            go_roundg (p - (k + 1))
            case measure => rw [HG4.out]; omega
            case rel => exact ⟨k + 1, by omega, rfl, by go_num, false, rfl, HT.out false (by simp), HK4.out⟩
          · by_cases hjy : j ≤ y
            · have hd : decide ((j : Int) ≤ (y : Int)) = true := decide_eq_true (by omega)
              go_wp2
              go_roundg (p - (k + 1))
              case measure => rw [HG4.out]; omega
              case rel => exact ⟨k + 1, by omega, rfl, by go_num, true, rfl, HT.out true (by simp; exact hjy), HK4.out⟩
            · have hd : decide ((j : Int) ≤ (y : Int)) = false := decide_eq_false (by omega)
              go_wp2
              go_roundg (p - (k + 1))
              case measure => rw [HG4.out]; omega
              case rel => exact ⟨k + 1, by omega, rfl, by go_num, false, rfl, HT.out false (by simp; omega), HK4.out⟩
        · obtain rfl : k = p := by omega
          have hkf := HK3.out.trans hk4 (fun _ _ h => h)
          obtain ⟨ng, noff, rfl, hcell⟩ := (HN.out _ hkf).cellAt HX.out.2
          have HF := Lib.hid (And.intro ht hkf)
          clear ht hk4 hkf
          have hr : t = true ↔ rep (sg l) j = j := by rw [HF.out.1, HLE.out.1]
          have HR := Lib.hid hr
          clear hr
          cases t
          · go_wp2
            go_roundg (L - (j + 1))
            case measure => rw [HG.out]; omega
            case rel => exact ⟨j + 1, by omega, rfl, by go_num, by rw [HLE.out.2, if_neg (fun h => by have := HR.out.2 h.1; cases this)]; go_num, HF.out.2⟩
          · by_cases hxp : x = part
            · have hd : (((x : Nat) : Int) == (part : Int)) = true := by simp [hxp]
              have HXP := Lib.hid hxp
              clear hxp
              go_wp2
              go_roundg (L - (j + 1))
              case measure => rw [HG.out]; omega
              case rel => exact ⟨j + 1, by omega, rfl, by go_num, by rw [HLE.out.2, if_pos ⟨HR.out.1 (by trivial), by rw [← HX.out.1]; exact HXP.out⟩]; go_num, HF.out.2⟩
            · have hd : (((x : Nat) : Int) == (part : Int)) = false := by rw [beq_eq_false_iff_ne]; omega
              go_wp2
              go_roundg (L - (j + 1))
              case measure => rw [HG.out]; omega
              case rel => exact ⟨j + 1, by omega, rfl, by go_num, by rw [HLE.out.2, if_neg (fun h => hxp (by rw [HX.out.1]; exact h.2))]; go_num, HF.out.2⟩
    · obtain rfl : j = L := by omega
      have HF := Lib.hid hkw
      clear hkw
      go_wp2
      go_ret
      exact ⟨rfl, HF.out⟩

end Go.Proofs.YtipelclohcdkcaaGreat

/- The references of layer 8: the parts, and their genus. -/
namespace Go.Proofs.YtipelclohcdkcaaGreat
open Go.RowKit

theorem cell_five_new (w : World) (a b c d e : Value) (t : TypeId) : ∀ j u, [a, b, c, d, e][j]? = some u → (w.alloc (.cells #[a, b, c, d, e] t)).cell? ((⟨w.heap.size, 0, none⟩ : Addr).add j) = some u := by
  intro j u hj
  match j, hj with
  | 0, hj => simp at hj; subst hj; simp [Addr.add]
  | 1, hj => simp at hj; subst hj; simp [Addr.add]
  | 2, hj => simp at hj; subst hj; simp [Addr.add]
  | 3, hj => simp at hj; subst hj; simp [Addr.add]
  | 4, hj => simp at hj; subst hj; simp [Addr.add]
  | j + 5, hj => simp at hj

/-- A slice of the call's own, of structs of five numbers. -/
def Own5 (t : TypeId) (B : Nat) (w : World) (v : Value) (ps : List (List Int)) : Prop := w.ownsRow B t 5 v ps.length (ints ps.flatten) ∧ ∀ p ∈ ps, p.length = 5

theorem flatten5_get : ∀ {ps : List (List Int)} {j k : Nat} {p : List Int}, (∀ p ∈ ps, p.length = 5) → ps[j]? = some p → k < 5 → ps.flatten[j * 5 + k]? = p[k]? := by
  intro ps
  induction ps with
  | nil => intro j k p _ h; simp at h
  | cons q ps ih =>
    intro j k p h5 hp hk
    have hq := h5 q (by simp)
    cases j with
    | zero =>
      obtain rfl : q = p := by simpa using hp
      rw [List.flatten_cons, List.getElem?_append_left (by omega)]
      congr 1; omega
    | succ j =>
      rw [List.flatten_cons, List.getElem?_append_right (by omega), hq]
      have := ih (j := j) (k := k) (p := p) (fun p hp => h5 p (by simp [hp])) (by simpa using hp) hk
      rw [← this]
      congr 1; omega

theorem Own5.nil (t : TypeId) (B : Nat) (w : World) : Own5 t B w (.slice none 0 0) [] := ⟨World.ownsRow_nil _ _ _ _, fun p hp => by cases hp⟩
theorem Own5.keeps {t : TypeId} {B : Nat} {w w' : World} {v : Value} {ps : List (List Int)} {F : Nat → Prop} (h : Own5 t B w v ps) (k : Keeps F w w') (hf : ∀ b, v.ownBlock = some b → ¬ F b) : Own5 t B w' v ps := ⟨k.owns h.1 hf, h.2⟩
theorem Own5.lt {t : TypeId} {B : Nat} {w : World} {v : Value} {ps : List (List Int)} (h : Own5 t B w v ps) : ∀ k, v.ownBlock = some k → B ≤ k ∧ k < w.heap.size := World.ownsRow.lt h.1
theorem Own5.mono {t : TypeId} {B B' : Nat} {w : World} {v : Value} {ps : List (List Int)} (h : Own5 t B w v ps) (hB : B' ≤ B) : Own5 t B' w v ps := by
  obtain ⟨⟨h0, h⟩, h5⟩ := h
  refine ⟨⟨h0, ?_⟩, h5⟩
  rcases h with h | ⟨g, cap, cur, h1, h2, h3⟩
  · exact .inl h
  · exact .inr ⟨g, cap, cur, h1, Nat.le_trans hB h2, h3⟩
theorem Own5.form {t : TypeId} {B : Nat} {w : World} {v : Value} {ps : List (List Int)} (h : Own5 t B w v ps) : ∃ a cap, v = .slice a ps.length cap := by
  obtain ⟨⟨_, h⟩, _⟩ := h
  rcases h with ⟨rfl, h0⟩ | ⟨g, cap, cur, rfl, _⟩
  · exact ⟨none, 0, by rw [h0]⟩
  · exact ⟨_, cap, rfl⟩
theorem Own5.cell {t : TypeId} {B : Nat} {w : World} {v : Value} {ps : List (List Int)} (h : Own5 t B w v ps) {j : Nat} {p : List Int} (hp : ps[j]? = some p) : ∃ g cap, v = .slice (some ⟨g, 0, none⟩) ps.length cap ∧ ∀ k z, p[k]? = some z → w.cell? ⟨g, j * 5 + k, none⟩ = some (.int .i64 z) := by
  obtain ⟨h1, h5⟩ := h
  have hj := lt_of_get hp
  obtain ⟨h0, h2⟩ := id h1
  rcases h2 with ⟨_, h2⟩ | ⟨g, cap, cur, rfl, _⟩
  · omega
  · refine ⟨g, cap, rfl, fun k z hk => ?_⟩
    have hk5 : k < 5 := by have := lt_of_get hk; have := h5 p (List.mem_of_getElem? hp); omega
    rw [World.ownsRow.cellAt h1 _ (by omega)]
    unfold ints
    rw [List.getElem?_map, flatten5_get h5 hp hk5, hk]
    rfl

theorem infoPart8 : (Tryz.prog.info? 214).map (fun i => (i.zero, i.size, i.bytes)) = some (some (.agg #[.int .i64 0, .int .i64 0, .int .i64 0, .int .i64 0, .int .i64 0]), 5, 40) := by kernel_rfl

/-- 'append(l, p)', of parts. -/
theorem appendP8 {ops : Array Oper} {rest : List Oper} {o : Oper} {a : Act} {Q : Exit → Act → World → Prop} {wr : World} (n : Nat) (hgd : o.guard = none) (s x : Operand)
    (ho : o.op = .call { callee := .builtin .append, args := #[s, x], argTypes := #[170, 170] }) (B : Nat) (v : Value) (ps : List (List Int)) (z0 z1 z2 z3 z4 : Int) (hn : Hid (ps.length = n)) (H : Nat) (hH : wr.heap.size = H) (hs : a.eval s = v) (hx : a.eval x = .slice (some ⟨H, 0, none⟩) 1 1)
    (hown : Own5 214 B wr v ps) (hlen : n ≤ 100000000) (hB : B ≤ wr.heap.size)
    (h : ∀ g cap w', Own5 214 B w' (.slice (some ⟨g, 0, none⟩) (n + 1) cap) (ps ++ [[z0, z1, z2, z3, z4]]) → Keeps (fun k => v.ownBlock = some k) wr w' →
      wpList Tryz.prog ops Q rest (a.put o.dst (.slice (some ⟨g, 0, none⟩) (n + 1) cap)) w') :
    wpList Tryz.prog ops Q (o :: rest) a (wr.alloc (.cells #[.int .i64 z0, .int .i64 z1, .int .i64 z2, .int .i64 z3, .int .i64 z4] 214)) := by
  obtain ⟨i, hi, hz0, hz1, hz2⟩ := info_parts infoPart8
  have hn := hn.out
  subst hn
  subst hH
  refine wpList_append_lies _ hgd s x _ ho B 214 i _ 5 40 Tryz.underlying170 hi hz0 hz1 hz2 rfl (by decide) v ps.length _ hs (World.ownsRow.alloc hown.1 _) ⟨wr.heap.size, 0, none⟩ 1 1 [.int .i64 z0, .int .i64 z1, .int .i64 z2, .int .i64 z3, .int .i64 z4] hx rfl (cell_five_new _ _ _ _ _ _ _) ?_ (by decide) ?_ ?_ ?_ (wr.heap.size + 1) (by simp) ?_
  · intro u hu; simp at hu; rcases hu with rfl | rfl | rfl | rfl | rfl <;> rfl
  · unfold maxLen; omega
  · omega
  · simp; omega
  · intro g cap w1 hown1 hgrow hat _
    refine h g cap w1 ⟨?_, ?_⟩ (((Keeps.refl _ wr).alloc _).grown hgrow (fun k hk => .inl hk))
    · rw [List.length_append, List.flatten_append]
      unfold ints at hown1 ⊢
      rw [List.map_append]
      exact hown1
    · intro p hp
      rcases List.mem_append.1 hp with hp | hp
      · exact hown.2 p hp
      · simp at hp; subst hp; rfl

/-- Names of parts. -/
noncomputable def cnL (s : List Nat) : List Nat := (List.range s.length).map (cnum s.length (sg s))
theorem cnL_length (s : List Nat) : (cnL s).length = s.length := by simp [cnL]
theorem sg_cnL {s : List Nat} {d : Nat} (hd : d < s.length) : sg (cnL s) d = cnum s.length (sg s) d := by simp [sg, cnL, hd]

/-- How many have a name, below i. -/
def cntN (nm : List Nat) (k i : Nat) : Nat := ((List.range i).filter fun d => sg nm d == k).length
theorem cntN_succ (nm : List Nat) (k i : Nat) : cntN nm k (i + 1) = cntN nm k i + if sg nm i = k then 1 else 0 := by
  unfold cntN
  rw [List.range_succ, List.filter_append, List.length_append]
  by_cases h2 : sg nm i = k <;> simp [h2]
theorem cntN_le (nm : List Nat) (k i : Nat) : cntN nm k i ≤ i := by
  unfold cntN
  have := List.length_filter_le (fun d => sg nm d == k) (List.range i)
  simpa using this

noncomputable def ptV (s : List Nat) (k : Nat) : Nat := ofN s (cnL s) k s.length
noncomputable def ptB (s : List Nat) (k : Nat) : Nat := ofN (phiL s) (cnL s) k s.length
noncomputable def ptE (s : List Nat) (k : Nat) : Nat := cntN (cnL s) k s.length / 2
noncomputable def ptG (s : List Nat) (k : Nat) : Int := (2 - (ptV s k : Int) + ptE s k - ptB s k).tdiv 2
/-- The part whose least dart is d. -/
noncomputable def partI (s : List Nat) (d : Nat) : List Int := [(d : Int), ptV s (cnum s.length (sg s) d), ptE s (cnum s.length (sg s) d), ptB s (cnum s.length (sg s) d), ptG s (cnum s.length (sg s) d)]
/-- The parts whose least darts are below j. -/
noncomputable def partsL (s : List Nat) (j : Nat) : List (List Int) := ((List.range j).filter fun d => crep s.length (sg s) d == d).map (partI s)
theorem partsL_length (s : List Nat) (j : Nat) : (partsL s j).length = cldr s.length (sg s) j := by simp [partsL, cldr]
theorem partsL_succ (s : List Nat) (j : Nat) : partsL s (j + 1) = partsL s j ++ if crep s.length (sg s) j = j then [partI s j] else [] := by
  unfold partsL
  rw [List.range_succ, List.filter_append, List.map_append]
  by_cases h : crep s.length (sg s) j = j <;> simp [h]
noncomputable def partsA (s : List Nat) (lone : Nat) : List (List Int) := partsL s s.length ++ List.replicate lone [-1, 1, 0, 1, 0]

theorem IsP.cnum_new {n : Nat} {S : Nat → Nat} (h : IsP n S) (he : n % 2 = 0) {j : Nat} (hj : j < n) : cnum n S j = cldr n S j ↔ crep n S j = j := by
  have hle : crep n S j ≤ j := crep_le (Conn.refl _ _ _)
  constructor
  · intro hc
    rcases Nat.lt_or_ge (crep n S j) j with hlt | hge
    · have h1 := cldr_succ n S (crep n S j)
      rw [if_pos (h.crep_crep he hj)] at h1
      have h2 := cldr_mono n S (show crep n S j + 1 ≤ j from hlt)
      unfold cnum at hc
      omega
    · omega
  · intro hc
    unfold cnum
    rw [hc]

end Go.Proofs.YtipelclohcdkcaaGreat

namespace Go.Proofs.YtipelclohcdkcaaGreat
open Go.RowKit

theorem phiL_isP {s : List Nat} (hP : IsP s.length (sg s)) (he : s.length % 2 = 0) : IsP (phiL s).length (sg (phiL s)) := by
  have hg : ∀ d, d < s.length → sg (phiL s) d = sg s (mt d) := fun d hd => by simp [sg, phiL, hd]
  rw [phiL_length]
  refine ⟨fun d hd => by rw [hg d hd]; exact hP.lt _ (mt_lt he hd), fun d e hd hde hh => ?_⟩
  rw [hg d hd, hg e hde] at hh
  have := hP.inj _ _ (mt_lt he hd) (mt_lt he hde) hh
  rw [← mt_mt d, this, mt_mt]

theorem tdiv2_bound {a M : Int} (h1 : -M ≤ a) (h2 : a ≤ M) : -M ≤ a.tdiv 2 ∧ a.tdiv 2 ≤ M := by
  rcases Int.le_total 0 a with h | h
  · rw [Int.tdiv_eq_ediv_of_nonneg h]; omega
  · have h3 : a.tdiv 2 = -((-a).tdiv 2) := by rw [Int.neg_tdiv, Int.neg_neg]
    rw [h3, Int.tdiv_eq_ediv_of_nonneg (by omega)]; omega

set_option maxRecDepth 100000 in
set_option maxHeartbeats 8000000 in
theorem refParts08_any (sv : Value) (rt : Int) (lone : Nat) (s : List Nat) (w : World) (hs : Sl .i64 w sv (nats s)) (hP : IsP s.length (sg s)) (he : s.length % 2 = 0) (hl : s.length ≤ 1000000) (hlo : lone ≤ 1000000) :
    Calls Tryz.prog 138 #[.agg #[sv, .int .i64 rt, .int .i64 lone]] w fun e w' => ∃ v, e = .returned v ∧ Own5 214 w.heap.size w' v (partsA s lone) ∧ Keeps (fun _ => False) w w' := by
  have k0 : Keeps (fun _ => False) w (w.alloc (.cells #[sv, .int .i64 rt, .int .i64 lone] 72)) := (Keeps.refl _ w).alloc _
  have hb0 : BxM w.heap.size sv rt lone (w.alloc (.cells #[sv, .int .i64 rt, .int .i64 lone] 72)) := heap_alloc_new w _
  have hNm := refNames08_any sv rt lone s _ (hs.keeps k0 (fun _ _ h => h)) hP he hl
  have hbc := hb0.cell
  have HS : Hid (∀ W, Keeps (fun _ => False) w W → Sl .i64 W sv (nats s)) := Lib.hid (fun W hk => hs.keeps hk (fun _ _ h => h))
  have HB0 := Lib.hid hb0
  have HK0 := Lib.hid k0
  have HP := Lib.hid hP
  have c1 : (w.alloc (.cells #[sv, .int .i64 rt, .int .i64 lone] 72)).cell? ⟨w.heap.size, 1, none⟩ = some (.int .i64 rt) := World.cell_of_heap hb0 1
  have c2 : (w.alloc (.cells #[sv, .int .i64 rt, .int .i64 lone] 72)).cell? ⟨w.heap.size, 2, none⟩ = some (.int .i64 lone) := World.cell_of_heap hb0 2
  clear hs hP hb0 k0
  go_enter Tryz.func138, Tryz.ntmps138
  go_wp2_with fail
  refine hNm.mono ?_
  rintro e w1 ⟨g, rfl, hM⟩
  clear hNm c1 c2 hbc
  obtain ⟨_, _, _, _, hk1⟩ := id hM
  have k1 := HK0.out.trans hk1 (fun _ _ h => h)
  have hb1 := HB0.out.keeps hk1 (fun h => h)
  have c0 := World.cell_of_heap hb1 0
  have c1 := World.cell_of_heap hb1 1
  have c2 := World.cell_of_heap hb1 2
  have hPh := refPhi_any sv rt lone s w1 (HS.out w1 k1) he hl
  go_wp2_with fail
  refine hPh.mono ?_
  rintro e w2 ⟨pv, rfl, hpv, hk2⟩
  clear hPh c0 c1 c2
  have hnmE : nats ((List.range s.length).map (cnum s.length (sg s))) = nats (cnL s) := rfl
  rw [hnmE] at hM
  have HW2 : Hid (∀ W, Keeps (fun _ => False) w2 W → Sl .i64 W sv (nats s) ∧ MadeS (w.alloc (.cells #[sv, .int .i64 rt, .int .i64 lone] 72)) g s.length (fun zs => zs = nats (cnL s)) W ∧ Sl .i64 W pv (nats (phiL s)) ∧ BxM w.heap.size sv rt lone W) := Lib.hid (fun W hk => by
    have kk := hk2.trans hk (fun _ _ h => h)
    exact ⟨HS.out W (k1.trans kk (fun _ _ h => h)), hM.keeps kk, (hpv.keeps hk (fun _ _ h => h)).sl, hb1.keeps kk (fun h => h)⟩)
  have HK2 := Lib.hid (k1.trans hk2 (fun _ _ h => h))
  obtain ⟨pa, pc, rfl, hpn, hpc⟩ := hpv.form
  rw [nats_len, phiL_length] at HW2 ⊢
  have h0 : Own5 214 w2.heap.size w2 (.slice none 0 0) (partsL s 0) ∧ Keeps (fun _ => False) w2 w2 := ⟨Own5.nil _ _ _, Keeps.refl _ _⟩
  have hpL := phiL_length s
  have HPH := Lib.hid (phiL_isP HP.out he)
  generalize hPP : phiL s = P at *
  clear hM hpv hb1 k1 hk1 hk2 HB0 HK0 hnmE hpn
  go_wp2_with fail
  go_loopg [3, 18] s.length (fun m ov i wr => ∃ j : Nat, j ≤ s.length ∧ m = s.length - j ∧ i = .int .i64 j ∧ Own5 214 w2.heap.size wr ov (partsL s j) ∧ Keeps (fun _ => False) w2 wr)
  case atStart => exact ⟨0, Nat.zero_le _, rfl, rfl, h0⟩
  case round =>
    clear h0
    obtain ⟨j, hj, hgk, rfl, hown, hkw⟩ := hrel
    have HG := Lib.hid hgk
    clear hgk
    by_cases hlt : j < s.length
    · obtain ⟨hsS, hnS, hpS, hbS⟩ := HW2.out wr hkw
      obtain ⟨z, ⟨zs, hzl, rfl, hz⟩, hc, hf⟩ := hnS.cell j hlt
      have hz' : z = (cnum s.length (sg s) j : Nat) := by
        simp [nats, cnL, hlt] at hz; exact hz.symm
      subst hz'
      clear hz hzl
      have hnew := HP.out.cnum_new he hlt
      have hps := partsL_succ s j
      obtain ⟨oa, oc, rfl⟩ := hown.form
      rw [partsL_length] at *
      have hcl := cldr_le s.length (sg s) j
      obtain ⟨c, hcc⟩ : ∃ c, c = cldr s.length (sg s) j := ⟨_, rfl⟩
      rw [← hcc] at hown hnew hcl ⊢
      have HC := Lib.hid hcc
      clear hcc
      by_cases hr : crep s.length (sg s) j = j
      · have hk := hnew.2 hr
        rw [hk] at hc
        rw [if_pos hr] at hps
        have HR := Lib.hid (And.intro hr (And.intro hk hps))
        have bt : (((c : Nat) : Int) != ((c : Nat) : Int)) = false := by simp
        have hO1 := refOf08_any sv (.slice (some ⟨g, 0, none⟩) s.length s.length) s (cnL s) c wr hsS (by obtain ⟨zs, _, rfl, ho, _⟩ := hnS; exact ho.sl) (cnL_length s) HP.out hl
        have c0 := World.cell_of_heap hbS 0
        have HB := Lib.hid hbS
        have HO := Lib.hid hown
        clear hnew hr hk hps hsS hpS hbS
        go_wp2_with fail
        refine hO1.mono ?_
        rintro e w3 ⟨rfl, hk3⟩
        clear hO1 hc hf hnS c0
        have hk23 := hkw.trans hk3 (fun _ _ h => h)
        obtain ⟨hsS, hnS, hpS, hbS⟩ := HW2.out w3 hk23
        have hO2 := refOf08_any (.slice pa s.length pc) (.slice (some ⟨g, 0, none⟩) s.length s.length) P (cnL s) c w3 hpS (by obtain ⟨zs, _, rfl, ho, _⟩ := hnS; exact ho.sl) (by rw [cnL_length, hpL]) HPH.out (by rw [hpL]; exact hl)
        rw [hpL] at hO2
        clear hsS hpS hbS hnS
        go_wp2_with fail
        refine hO2.mono ?_
        rintro e w4 ⟨rfl, hk4⟩
        clear hO2
        have hVl := ofN_le s (cnL s) c s.length
        have hBl := ofN_le P (cnL s) c s.length
        have HV : Hid (partI s j = [(j : Int), (ofN s (cnL s) c s.length : Nat), (cntN (cnL s) c s.length / 2 : Nat), (ofN P (cnL s) c s.length : Nat), (2 - (ofN s (cnL s) c s.length : Int) + (cntN (cnL s) c s.length / 2 : Nat) - (ofN P (cnL s) c s.length : Nat)).tdiv 2]) := Lib.hid (by
          unfold partI ptG ptV ptB ptE
          rw [HR.out.2.1, hPP])
        generalize ofN s (cnL s) c s.length = V at *
        generalize ofN P (cnL s) c s.length = B at *
        have hk24 := hk23.trans hk4 (fun _ _ h => h)
        obtain ⟨bp, hbp⟩ : ∃ bp, bp = w4.heap.size := ⟨_, rfl⟩
        have hs24 := hk24.size
        have h5 : (w4.alloc (.cells #[.int .i64 j, .int .i64 V, .int .i64 0, .int .i64 B, .int .i64 0] 214)).heap[bp]? = some (.cells #[.int .i64 j, .int .i64 V, .int .i64 (cntN (cnL s) c 0 : Nat), .int .i64 B, .int .i64 0] 214 (0, 0)) := by rw [hbp]; exact heap_alloc_new w4 _
        have k5 := hk4.alloc (.cells #[.int .i64 j, .int .i64 V, .int .i64 0, .int .i64 B, .int .i64 0] 214)
        have hk25 := hk23.trans k5 (fun _ _ h => h)
        have HK25 := Lib.hid (And.intro hk25 ((hk3.trans k5 (fun _ _ h => h))))
        have hkr := Keeps.refl (fun q => q = bp) (w4.alloc (.cells #[.int .i64 j, .int .i64 V, .int .i64 0, .int .i64 B, .int .i64 0] 214))
        have hbp2 : w2.heap.size ≤ bp := by omega
        have hsw := (hkw.trans hk3 (fun _ _ h => h)).size
        have hwrb : wr.heap.size ≤ bp := by have := hk3.size; have := hk4.size; omega
        clear hk3 hk4 hk23 hk24 k5 hk25
        go_wp2_with fail
        rw [← hbp]
        have HBP := Lib.hid hbp
        clear hbp hs24 hsw
        generalize (w4.alloc (.cells #[.int .i64 j, .int .i64 V, .int .i64 0, .int .i64 B, .int .i64 0] 214)) = w5 at *
        go_loopg [40] s.length (fun m t wr => ∃ i : Nat, i ≤ s.length ∧ m = s.length - i ∧ t = .int .i64 i ∧ wr.heap[bp]? = some (.cells #[.int .i64 j, .int .i64 V, .int .i64 (cntN (cnL s) c i : Nat), .int .i64 B, .int .i64 0] 214 (0, 0)) ∧ Keeps (fun q => q = bp) w5 wr)
        case atStart => exact ⟨0, Nat.zero_le _, rfl, rfl, h5, hkr⟩
        case round =>
          clear h5 hkr
          obtain ⟨i, hi, hgk, rfl, hb5, hk5⟩ := hrel
          have HG2 := Lib.hid hgk
          clear hgk
          have hcs := cntN_succ (cnL s) c i
          have hcl2 := cntN_le (cnL s) c i
          have hk2r := HK25.out.1.trans hk5 (fun x hx h => by omega)
          obtain ⟨e, he2⟩ : ∃ e, e = cntN (cnL s) c i := ⟨_, rfl⟩
          rw [← he2] at hb5 hcs hcl2
          have HE := Lib.hid he2
          clear he2
          by_cases hil : i < s.length
          · obtain ⟨_, hnS, _, _⟩ := HW2.out _ hk2r
            obtain ⟨z, ⟨zs, hzl, rfl, hz⟩, hc, hf⟩ := hnS.cell i hil
            have hz' : z = (sg (cnL s) i : Nat) := by
              rw [nats_at (by rw [cnL_length]; exact hil)] at hz
              exact (Option.some.inj hz).symm
            subst hz'
            have d2 := World.cell_of_heap hb5 2
            have z2 := World.free_of_heap hb5 2
            have hset := heap_setCell_same hb5 2 (.int .i64 ((e + 1 : Nat) : Int))
            have hks := hk5.setCell (p := ⟨bp, 2, none⟩) (.inl rfl) (.int .i64 ((e + 1 : Nat) : Int))
            have HS5 := Lib.hid (And.intro hset hks)
            have HB5 := Lib.hid (And.intro hb5 hk5)
            clear hnS hz hzl hset hks hb5 hk5 hk2r
            obtain ⟨y, hy⟩ : ∃ y, y = sg (cnL s) i := ⟨_, rfl⟩
            rw [← hy] at hc
            have HY := Lib.hid hy
            clear hy
            by_cases hyc : y = c
            · have hd : (((y : Nat) : Int) == (c : Int)) = true := by simp [hyc]
              rw [if_pos (by rw [← HY.out]; exact hyc)] at hcs
              have HCS := Lib.hid (And.intro hyc hcs)
              clear hyc hcs
              go_wp2
              go_roundg (s.length - (i + 1))
              case measure => rw [HG2.out]; omega
              case rel => exact ⟨i + 1, by omega, rfl, by go_num, by rw [HCS.out.2]; exact HS5.out.1, HS5.out.2⟩
            · have hd : (((y : Nat) : Int) == (c : Int)) = false := by rw [beq_eq_false_iff_ne]; omega
              rw [if_neg (by rw [← HY.out]; exact hyc)] at hcs
              have HCS := Lib.hid hcs
              clear hcs
              go_wp2
              go_roundg (s.length - (i + 1))
              case measure => rw [HG2.out]; omega
              case rel => exact ⟨i + 1, by omega, rfl, by go_num, by rw [HCS.out]; exact HB5.out.1, HB5.out.2⟩
          · obtain rfl : i = s.length := by omega
            have d0 := World.cell_of_heap hb5 0
            have d1 := World.cell_of_heap hb5 1
            have d2 := World.cell_of_heap hb5 2
            have d3 := World.cell_of_heap hb5 3
            have d4 := World.cell_of_heap hb5 4
            have z2 := World.free_of_heap hb5 2
            have z4 := World.free_of_heap hb5 4
            obtain ⟨e2, he2⟩ : ∃ e2, e2 = e / 2 := ⟨_, rfl⟩
            have ee : ((e : Nat) : Int).tdiv 2 = (e2 : Int) := by rw [he2, Int.tdiv_eq_ediv_of_nonneg (by omega)]; simp
            have he2l : e2 ≤ s.length := by omega
            obtain ⟨G, hG⟩ : ∃ G : Int, G = (2 - (V : Int) + e2 - B).tdiv 2 := ⟨_, rfl⟩
            have hHO := HO.out
            have hownR := (hHO.keeps HK25.out.2 (fun _ _ h => h)).keeps hk5 (fun q hq e => by have := (hHO.lt q hq).2; omega)
            have hset1 : (wr.setCell ⟨bp, 2, none⟩ (.int .i64 (e2 : Int))).heap[bp]? = some (.cells #[.int .i64 j, .int .i64 V, .int .i64 e2, .int .i64 B, .int .i64 0] 214 (0, 0)) := heap_setCell_same hb5 2 (.int .i64 (e2 : Int))
            have hset2 : ((wr.setCell ⟨bp, 2, none⟩ (.int .i64 (e2 : Int))).setCell ⟨bp, 4, none⟩ (.int .i64 G)).heap[bp]? = some (.cells #[.int .i64 j, .int .i64 V, .int .i64 e2, .int .i64 B, .int .i64 G] 214 (0, 0)) := heap_setCell_same hset1 4 (.int .i64 G)
            have kk1 := (Keeps.refl (fun q => q = bp) wr).setCell (p := ⟨bp, 2, none⟩) (.inl rfl) (.int .i64 (e2 : Int))
            have kk2 := kk1.setCell (p := ⟨bp, 4, none⟩) (.inl rfl) (.int .i64 G)
            have own7 := hownR.keeps kk2 (fun q hq e => by have := (hHO.lt q hq).2; omega)
            have f1 := World.cell_of_heap hset1 1
            have f2 := World.cell_of_heap hset1 2
            have f3 := World.cell_of_heap hset1 3
            have q0 := World.cell_of_heap hset2 0
            have q1 := World.cell_of_heap hset2 1
            have q2 := World.cell_of_heap hset2 2
            have q3 := World.cell_of_heap hset2 3
            have q4 := World.cell_of_heap hset2 4
            have y4 := World.free_of_heap hset1 4
            have hcb : c ≤ 100000000 := by omega
            have HN : Hid ((partsL s j).length = c) := Lib.hid (by rw [partsL_length]; exact HC.out.symm)
            have hsz : w2.heap.size ≤ ((wr.setCell ⟨bp, 2, none⟩ (.int .i64 (e2 : Int))).setCell ⟨bp, 4, none⟩ (.int .i64 G)).heap.size := by
              have := hk2r.size; have := kk2.size; omega
            have HKF := Lib.hid (And.intro hk2r (And.intro kk2 (And.intro he2 hG)))
            have hPI := HV.out
            rw [← HE.out, ← he2, ← hG] at hPI
            have HPI := Lib.hid hPI
            have eG : (2 - (V : Int) + (e2 : Int) - (B : Int)).tdiv 2 = G := hG.symm
            have hGb := tdiv2_bound (a := 2 - (V : Int) + (e2 : Int) - (B : Int)) (M := 9000000) (by omega) (by omega)
            rw [eG] at hGb
            obtain ⟨hG1, hG2⟩ := hGb
            clear hG hPI hHO hownR hset1 hset2 kk1 kk2 he2 hk2r hk5 hb5 hcs
            go_wp2_with (at_builtin; go_loud (refine appendP8 c rfl _ _ rfl w2.heap.size (.slice oa c oc) (partsL s j) j V e2 B G HN wr.heap.size (by simp) rfl rfl own7 hcb hsz ?_); intro g2 cap2 w9 hown3 hk3)
            have HF := Lib.hid (And.intro (by rw [HR.out.2.2, HPI.out]; exact hown3 : Own5 214 w2.heap.size w9 (.slice (some ⟨g2, 0, none⟩) (c + 1) cap2) (partsL s (j + 1))) ((HKF.out.1.trans HKF.out.2.1 (fun x hx h => by omega)).trans hk3 (fun y hy h => by have := (HO.out.lt y h).1; omega)))
            clear hown3 hk3 own7
            go_roundg (s.length - (j + 1))
            case measure => rw [HG.out]; omega
            case rel => exact ⟨j + 1, by omega, rfl, by go_num, HF.out⟩
      · have hnk : cnum s.length (sg s) j ≠ c := fun h => hr (hnew.1 h)
        rw [if_neg hr, List.append_nil] at hps
        rw [← hps] at hown
        have bt : (((cnum s.length (sg s) j : Nat) : Int) != ((c : Nat) : Int)) = true := by rw [bne_iff_ne]; omega
        have HF := Lib.hid (And.intro hown hkw)
        clear hnew hr hps hsS hpS hbS hnS hown hkw hf hnk
        generalize cnum s.length (sg s) j = y at *
        go_wp2
        go_roundg (s.length - (j + 1))
        case measure => rw [HG.out]; omega
        case rel => exact ⟨j + 1, by omega, rfl, by go_num, HF.out⟩
    · obtain rfl : j = s.length := by omega
      have h3 : Own5 214 w2.heap.size wr _ (partsL s s.length ++ List.replicate 0 [-1, 1, 0, 1, 0]) ∧ Keeps (fun _ => False) w2 wr := ⟨by simpa using hown, hkw⟩
      clear hown hkw hlt hj HG
      go_wp2_with fail
      go_loopg [3, 11] lone (fun m ov t wr => ∃ i : Nat, i ≤ lone ∧ m = lone - i ∧ t = .int .i64 i ∧ Own5 214 w2.heap.size wr ov (partsL s s.length ++ List.replicate i [-1, 1, 0, 1, 0]) ∧ Keeps (fun _ => False) w2 wr)
      case atStart => exact ⟨0, Nat.zero_le _, rfl, rfl, h3⟩
      case round =>
        clear h3
        obtain ⟨i, hi, hgk, rfl, hown, hkw⟩ := hrel
        have HG2 := Lib.hid hgk
        clear hgk
        obtain ⟨_, _, _, hbS⟩ := HW2.out wr hkw
        have c2 := World.cell_of_heap hbS 2
        have hcl := cldr_le s.length (sg s) s.length
        obtain ⟨oa, oc, rfl⟩ := hown.form
        have hlen : (partsL s s.length ++ List.replicate i [-1, 1, 0, 1, 0]).length = cldr s.length (sg s) s.length + i := by rw [List.length_append, partsL_length, List.length_replicate]
        rw [hlen] at hown ⊢
        obtain ⟨c, hcc⟩ : ∃ c, c = cldr s.length (sg s) s.length + i := ⟨_, rfl⟩
        rw [← hcc] at hown hlen ⊢
        have hcb : c ≤ 100000000 := by omega
        have HN := Lib.hid hlen
        clear hlen hbS hcc hcl
        by_cases hil : i < lone
        · have hsz := hkw.size
          have HKW := Lib.hid hkw
          clear hkw
          go_wp2_with (at_builtin; go_loud (refine appendP8 c rfl _ _ rfl w2.heap.size (.slice oa c oc) _ (-1) 1 0 1 0 HN wr.heap.size rfl rfl rfl hown hcb hsz ?_); intro g2 cap2 w3 hown3 hk3)
          have HF := Lib.hid (And.intro (by rw [List.replicate_succ', ← List.append_assoc]; exact hown3 : Own5 214 w2.heap.size w3 (.slice (some ⟨g2, 0, none⟩) (c + 1) cap2) (partsL s s.length ++ List.replicate (i + 1) [-1, 1, 0, 1, 0])) (HKW.out.trans hk3 (fun y hy h => by have := (hown.lt y h).1; omega)))
          clear hown3 hk3 hown c2
          go_roundg (lone - (i + 1))
          case measure => rw [HG2.out]; omega
          case rel => exact ⟨i + 1, by omega, rfl, by go_num, HF.out⟩
        · obtain rfl : i = lone := by omega
          have hsz := HK2.out.size
          have HF := Lib.hid (And.intro hown (HK2.out.trans hkw (fun _ _ h => h)))
          clear hown hkw
          go_wp2
          go_ret
          have ho := HF.out.1.mono (B' := w.heap.size) hsz
          exact ⟨_, rfl, ho, HF.out.2⟩

end Go.Proofs.YtipelclohcdkcaaGreat
