/- rots.Print. -/
import Derived.Test.YtblkkcpeodoclaaGreatDoorPtRots7
import Derived.Test.YtblkkcpeodoclaaGreatDoorPtRots9
import Derived.Test.YtblkkcpeodoclaaGreatDoorPtBuf3
import Derived.Test.YtblkkcpeodoclaaGreatDoorPtBuf4
import Derived.Test.YtblkkcpeodoclaaGreatDoorPtCountP
namespace Go.Proofs.YtblkkcpeodoclaaGreatDoor
open Go.RowKit

def bytesA (t : List UInt8) : ByteArray := ⟨t.toArray⟩
theorem bytesA_list (t : List UInt8) : (bytesA t).data.toList = t := by simp [bytesA]
theorem bytesA_size (t : List UInt8) : (bytesA t).size = t.length := by show t.toArray.size = _; simp

/-- Between two rounds of Print: the buffer bb, the map's blocks R'. -/
structure PrS (w : World) (b bb : Nat) (s : List Nat) (root lone : Int) (R : Nat → Prop) (t : List UInt8) (wr : World) : Prop where
  ex : ∃ g R', BufAt wr bb g t ∧ MapAt wr b s root lone R' ∧ (∀ x, R' x → (R x ∨ w.heap.size ≤ x) ∧ x ≠ bb ∧ x ≠ g) ∧ w.heap.size ≤ g
  bb : w.heap.size ≤ bb
  k : Keeps (fun k => k = b) w wr

theorem PrS.still {w : World} {b bb : Nat} {s : List Nat} {root lone : Int} {R : Nat → Prop} {t : List UInt8} {wr w' : World} (h : PrS w b bb s root lone R t wr) (k : Keeps (fun _ => False) wr w') : PrS w b bb s root lone R t w' := by
  obtain ⟨⟨g, R', h1, h2, h3, h4⟩, h5, h6⟩ := h
  exact ⟨⟨g, R', h1.keeps k (fun h => h) (fun h => h), h2.keeps k (fun h => h) (fun _ _ h => h), h3, h4⟩, h5, h6.trans k (fun _ _ h => h.elim)⟩

theorem lineRow_any (v : Value) (zs : List Int) (B : Nat) (w : World) (hE : EnvR B w) (hs : Sl .i64 w v zs) (hl : zs.length ≤ 1000000) (hz : ∀ z ∈ zs, -9223372036854775808 ≤ z ∧ z ≤ 9223372036854775807) :
    Calls Tryz.prog 24 #[v] w fun e w' => e = .returned (.string (bytesA (rowB zs))) ∧ Keeps (fun _ => False) w w' := line_any v zs B w hE hs hl hz

theorem sl_lit3 (w : World) (x y z : Int) : Sl .i64 (w.alloc (.cells #[.int .i64 x, .int .i64 y, .int .i64 z] 3)) (.slice (some ⟨w.heap.size, 0, none⟩) 3 3) [x, y, z] := by
  refine ⟨some ⟨w.heap.size, 0, none⟩, 3, rfl, (by simp), (by omega), (fun h => nomatch h), fun j u hu => ⟨w.heap.size, 0, rfl, ?_⟩⟩
  have hb := heap_alloc_new w (.cells #[.int .i64 x, .int .i64 y, .int .i64 z] 3)
  rw [World.cell_of_heap hb]
  match j, hu with
  | 0, hu => simp at hu; subst hu; rfl
  | 1, hu => simp at hu; subst hu; rfl
  | 2, hu => simp at hu; subst hu; rfl
  | j + 3, hu => simp at hu

set_option maxRecDepth 100000 in
set_option maxHeartbeats 4000000 in
theorem print_any {w : World} {b : Nat} {s : List Nat} {root lone : Int} {R : Nat → Prop} (h : MapAt w b s root lone R) (B : Nat) (hE : EnvR B w) (hB : B ≤ b) :
    Calls Tryz.prog 10 #[.pointer (some ⟨b, 0, none⟩)] w fun e w' => ∃ v, e = .returned (.tuple #[v, .int .i64 0]) ∧ Sl .u8 w' v (nats (natsB (textB s root lone))) ∧ (∀ k, v.ownBlock = some k → w.heap.size ≤ k) ∧ MapQ w b s root lone R w' := by
  obtain ⟨n, hn⟩ : ∃ n, n = s.length := ⟨_, rfl⟩
  have hEd := mapEdges_any h
  have hRo := mapRoot_any h
  have hLo := mapLone_any h
  have hnle := h.le
  have hbw := h.lt
  have hroot : -1 ≤ root ∧ root ≤ 131072 := by rcases h.rt with ⟨_, h2⟩ | ⟨h1, h2⟩ <;> omega
  have hlone := h.ln
  obtain ⟨ed, hed⟩ : ∃ ed, ed = s.length / 2 := ⟨_, rfl⟩
  rw [← hed] at hEd
  rw [← hn] at hnle
  have hDa : ∀ wr R', MapAt wr b s root lone R' → Calls Tryz.prog 13 #[.pointer (some ⟨b, 0, none⟩)] wr fun e w' => e = .returned (.int .i64 n) ∧ wr = w' := fun wr R' h' => by rw [hn]; exact mapDarts_any h'
  have HM := Lib.hid (And.intro h (And.intro hn (And.intro hE (And.intro hed hDa))))
  have HX := Lib.hid (And.intro hEd (And.intro hRo hLo))
  have hTx : textB s root lone = rowB [(ed : Int), root, lone] ++ bodyB (sg s) n := by unfold textB; rw [hed, hn]
  have hP : IsP n (sg s) := by rw [hn]; exact h.isP
  have hedl : ed ≤ 65536 := by omega
  have HT := Lib.hid (And.intro hTx hP)
  clear h hEd hRo hLo hn hE hed hDa hTx hP
  go_enter Tryz.func10, Tryz.ntmps10
  go_wp2_with fail
  refine HX.out.1.mono ?_
  rintro e w0 ⟨rfl, rfl⟩
  go_wp2_with fail
  refine HX.out.2.1.mono ?_
  rintro e w0 ⟨rfl, rfl⟩
  go_wp2_with fail
  refine HX.out.2.2.mono ?_
  rintro e w0 ⟨rfl, rfl⟩
  go_wp2_with fail
  have hS1 := sl_lit3 w ed root lone
  have k1 : Keeps (fun _ => False) w (w.alloc (.cells #[.int .i64 (ed : Int), .int .i64 root, .int .i64 lone] 3)) := (Keeps.refl _ w).alloc _
  refine (lineRow_any (.slice (some ⟨w.heap.size, 0, none⟩) 3 3) [(ed : Int), root, lone] B _ (HM.out.2.2.1.keeps k1 (fun _ h => h.elim)) hS1 (by simp) (by
    intro z hz
    simp only [List.mem_cons, List.not_mem_nil, or_false] at hz
    rcases hz with rfl | rfl | rfl <;> omega)).mono ?_
  rintro e w1 ⟨rfl, hk1⟩
  have HK1 := Lib.hid (k1.trans hk1 (fun _ _ h => h))
  clear hk1 k1 hS1
  obtain ⟨t0, ht0⟩ : ∃ t0, t0 = rowB [(ed : Int), root, lone] := ⟨_, rfl⟩
  have ht0l : t0.length ≤ 67 := by
    have h1 : (rowB [(ed : Int), root, lone]).length ≤ 22 * [(ed : Int), root, lone].length + 1 := rowB_len (by
      intro z hz
      simp only [List.mem_cons, List.not_mem_nil, or_false] at hz
      rcases hz with rfl | rfl | rfl <;> omega)
    rw [← ht0] at h1
    simpa using h1
  have ht0p : 0 < t0.length := by rw [ht0]; exact rowB_pos _
  rw [← ht0]
  have HT0 := Lib.hid ht0
  clear ht0
  go_wp2_with fail
  refine (newBuffer_any (bytesA t0) w1 (by rw [bytesA_size]; omega)).mono ?_
  rintro e w2 ⟨bb, g, rfl, hbuf, hbb, hg, hk2⟩
  rw [bytesA_list] at hbuf
  have hkw : Keeps (fun _ => False) w w2 := HK1.out.trans hk2 (fun _ _ h => h)
  have hsz1 := HK1.out.size
  have hPr : PrS w b bb s root lone R t0 w2 := by
    refine ⟨⟨g, R, hbuf, HM.out.1.keeps hkw (fun h => h) (fun _ _ h => h), fun x hx => ?_, by omega⟩, by omega, hkw.mono (fun _ _ h => h.elim)⟩
    have := HM.out.1.old x hx
    exact ⟨.inl hx, by omega, by omega⟩
  have HPr := Lib.hid hPr
  clear hPr hbuf hbb hg hk2 hkw hsz1
  go_wp2_with fail
  obtain ⟨⟨_, R0, _, hma0, _⟩, _⟩ := HPr.out
  refine (HM.out.2.2.2.2 w2 R0 hma0).mono ?_
  rintro e w2 ⟨rfl, rfl⟩
  clear hma0
  go_wp2_with fail
  go_loopg [5, 20] n (fun mu nv iv wr => ∃ i : Nat, i ≤ n ∧ mu = n - i ∧ iv = .int .i64 i ∧ nv = .int .i64 (ldr (sg s) i : Nat) ∧ PrS w b bb s root lone R (t0 ++ bodyB (sg s) i) wr)
  case atStart => exact ⟨0, Nat.zero_le _, rfl, rfl, rfl, by rw [bodyB_zero, List.append_nil]; exact HPr.out⟩
  case round =>
    obtain ⟨i, hi, hgk, rfl, rfl, hpr⟩ := hrel
    have HG := Lib.hid hgk
    have HR := Lib.hid hpr
    clear hgk hpr
    have hle := ldr_le (sg s) i
    by_cases hlt : i < n
    · have hbl := HT.out.2
      have hV : Calls Tryz.prog 27 #[.pointer (some ⟨b, 0, none⟩), .int .i64 i] wr fun e w' => e = .returned (.int .i64 (vnum (sg s) i : Nat)) ∧ PrS w b bb s root lone R (t0 ++ bodyB (sg s) i) w' := by
        obtain ⟨⟨g, R', h1, h2, h3, h4⟩, h5, h6⟩ := id HR.out
        refine (mapVertex_in h2 i (by rw [← HM.out.2.1]; exact hlt)).mono ?_
        rintro e w' ⟨rfl, q1, q2⟩
        have hbl : bb < wr.heap.size := by obtain ⟨_, _, hh, _⟩ := h1.ex; exact lt_of_block hh
        refine ⟨rfl, ⟨g, _, h1.keeps q2 (fun e => by omega) (fun e => by omega), q1, fun x hx => ?_, h4⟩, h5, h6.trans q2 (fun _ _ h => h)⟩
        rcases hx with hx | hx
        · exact h3 x hx
        · have := h1.lt
          have := h6.size
          exact ⟨.inr (by omega), by omega, by omega⟩
      have HV := Lib.hid hV
      have HB := Lib.hid (And.intro hbl hlt)
      have hvn : vnum (sg s) i ≤ 131072 := by
        have h1 := hbl.vnum_lt hlt
        have h2 := ldr_le (sg s) n
        omega
      clear hV hbl
      go_wp2_with fail
      refine HV.out.mono ?_
      rintro e w3 ⟨rfl, hpr⟩
      have HR3 := Lib.hid hpr
      clear hpr
      by_cases hrep : rep (sg s) i = i
      · have hvl : vnum (sg s) i = ldr (sg s) i := (vnum_first HB.out.1 HB.out.2).2 hrep
        rw [hvl]
        have hbody : bodyB (sg s) (i + 1) = bodyB (sg s) i ++ rowB (nats (orb (sg s) i)) := by rw [bodyB_succ, if_pos hrep]
        have hldr : ldr (sg s) (i + 1) = ldr (sg s) i + 1 := by rw [ldr_succ, if_pos hrep]
        have hob := orb_bound HB.out.1 hnle HB.out.2
        have hbt := body_len HB.out.1 hnle i (by omega)
        have hA : Calls Tryz.prog 29 #[.pointer (some ⟨b, 0, none⟩), .int .i64 i] w3 fun e w' => ∃ v, e = .returned v ∧ Sl .i64 w' v (nats (orb (sg s) i)) ∧ Keeps (fun _ => False) w3 w' := by
          obtain ⟨⟨g, R', h1, h2, h3, h4⟩, h5, h6⟩ := id HR3.out
          refine (mapAround_any h2 i (by rw [← HM.out.2.1]; exact hlt)).mono ?_
          rintro e w' ⟨v, rfl, hv, hk⟩
          exact ⟨v, rfl, hv.sl, hk⟩
        obtain ⟨zo, hzo⟩ : ∃ zo, zo = nats (orb (sg s) i) := ⟨_, rfl⟩
        rw [← hzo] at hA hob hbody
        have HA := Lib.hid (And.intro hA (And.intro hob (And.intro hbody (And.intro hldr hbt))))
        clear hA hob hbody hldr hbt hvl hzo hrep
        generalize ldr (sg s) i = nx at *
        go_wp2_with fail
        refine HA.out.1.mono ?_
        rintro e w4 ⟨v, rfl, hv, hk4⟩
        have hE4 : EnvR B w4 := (HM.out.2.2.1.keeps (HR3.out.k.trans hk4 (fun _ _ h => h.elim)) (fun x e => by omega))
        have hr4 := HR3.out.still hk4
        have HV4 := Lib.hid (And.intro hv (And.intro hE4 hr4))
        clear hv hk4 hE4 hr4
        go_wp2_with fail
        refine (lineRow_any v zo B w4 HV4.out.2.1 HV4.out.1 (by have := HA.out.2.1.1; omega) HA.out.2.1.2).mono ?_
        rintro e w5 ⟨rfl, hk5⟩
        have hr5 := HV4.out.2.2.still hk5
        have HR5 := Lib.hid hr5
        clear hr5 hk5
        have hrl := rowB_len HA.out.2.1.2
        have hrp := rowB_pos zo
        have hW : Calls Tryz.prog 28 #[.pointer (some ⟨bb, 0, none⟩), .string (bytesA (rowB zo))] w5 fun e w' => (∃ v, e = .returned v) ∧ PrS w b bb s root lone R (t0 ++ bodyB (sg s) (i + 1)) w' := by
          obtain ⟨⟨g, R', h1, h2, h3, h4⟩, h5, h6⟩ := id HR5.out
          refine (bufWrite_any bb g (t0 ++ bodyB (sg s) i) (bytesA (rowB zo)) w5 h1 (by rw [List.length_append]; omega) (by rw [bytesA_size]; exact hrp) (by
            rw [List.length_append, bytesA_size]
            have := HA.out.2.2.2.2
            have := HA.out.2.1.1
            omega)).mono ?_
          rintro e w' ⟨he, g', q1, q2, q3⟩
          rw [bytesA_list, List.append_assoc, ← HA.out.2.2.1] at q1
          refine ⟨he, ⟨g', R', q1, h2.keeps q2 (fun e => by omega) (fun x hx e => by have := h3 x hx; omega), fun x hx => ⟨(h3 x hx).1, (h3 x hx).2.1, ?_⟩, ?_⟩, h5, h6.trans q2 (fun x hx e => by omega)⟩
          · have h7 := h2.old x hx
            have h8 := (h3 x hx).2.2
            rcases q3 with e | e
            · rw [e]; exact h8
            · omega
          · have := h6.size; omega
        have HW := Lib.hid hW
        clear hW hrl hrp
        go_wp2_with fail
        refine HW.out.mono ?_
        rintro e w6 ⟨⟨vv, rfl⟩, hpr6⟩
        have HR6 := Lib.hid hpr6
        clear hpr6
        go_wp2
        go_roundg (n - (i + 1))
        case measure => rw [HG.out]; omega
        case rel => exact ⟨i + 1, by omega, rfl, by go_num, by rw [HA.out.2.2.2.1]; go_num, HR6.out⟩
      · have hvl : ¬ vnum (sg s) i = ldr (sg s) i := fun h => hrep ((vnum_first HB.out.1 HB.out.2).1 h)
        have hbody : bodyB (sg s) (i + 1) = bodyB (sg s) i := by rw [bodyB_succ, if_neg hrep, List.append_nil]
        have hldr : ldr (sg s) (i + 1) = ldr (sg s) i := by rw [ldr_succ, if_neg hrep]; rfl
        have t2 : (((vnum (sg s) i : Nat) : Int) == ((ldr (sg s) i : Nat) : Int)) = false := by rw [beq_eq_false_iff_ne]; omega
        have t3 : decide (((vnum (sg s) i : Nat) : Int) = ((ldr (sg s) i : Nat) : Int)) = false := decide_eq_false (by omega)
        have HA := Lib.hid (And.intro hbody hldr)
        clear hvl hbody hldr hrep
        go_wp2
        go_roundg (n - (i + 1))
        case measure => rw [HG.out]; omega
        case rel => exact ⟨i + 1, by omega, rfl, by go_num, by rw [HA.out.2], by rw [HA.out.1]; exact HR3.out⟩
    · have hin : i = n := by omega
      have t1 : decide ((i : Int) < (n : Int)) = false := decide_eq_false (by omega)
      have t1' : decide (i < n) = false := decide_eq_false hlt
      have htx : t0 ++ bodyB (sg s) i = textB s root lone := by rw [HT.out.1, HT0.out, hin]
      have HTX := Lib.hid htx
      have hB2 : Calls Tryz.prog 30 #[.pointer (some ⟨bb, 0, none⟩)] wr fun e w' => ∃ v, e = .returned v ∧ Sl .u8 w' v (nats (natsB (textB s root lone))) ∧ (∀ k, v.ownBlock = some k → w.heap.size ≤ k) ∧ MapQ w b s root lone R w' := by
        obtain ⟨⟨g, R', h1, h2, h3, h4⟩, h5, h6⟩ := id HR.out
        refine (bufBytes_any bb g _ wr h1 (by rw [List.length_append]; omega)).mono ?_
        rintro e w' ⟨v, rfl, q1, q2, q3⟩
        rw [htx] at q1
        have hk' := h6.trans q3 (fun _ _ h => h.elim)
        refine ⟨v, rfl, q1, fun k hk => ?_, (h2.keeps q3 (fun h => h) (fun _ _ h => h)).mono (fun x hx => ?_) (fun x hx => ?_) (fun hx => ?_), hk'⟩
        · rw [q2] at hk
          cases hk
          exact h4
        · rcases (h3 x hx).1 with e | e
          · exact .inl e
          · exact .inr ⟨e, Nat.lt_of_lt_of_le (h2.old x hx) q3.size⟩
        · rcases hx with e | e
          · exact Nat.lt_of_lt_of_le (HM.out.1.old x e) hk'.size
          · exact e.2
        · rcases hx with e | e
          · exact HM.out.1.notb e
          · omega
      have HB2 := Lib.hid hB2
      clear hB2 htx hin hlt
      go_wp2_with fail
      refine HB2.out.mono ?_
      rintro e w' ⟨v, rfl, q1, q2, q3⟩
      have HQ := Lib.hid (And.intro q1 (And.intro q2 q3))
      clear q1 q2 q3
      go_wp2
      exact bodyPost_ret (v := .tuple #[v, .int .i64 0]) (by simp [results, Tryz.results10, go_sem]) rfl ⟨v, rfl, HQ.out⟩

end Go.Proofs.YtblkkcpeodoclaaGreatDoor
