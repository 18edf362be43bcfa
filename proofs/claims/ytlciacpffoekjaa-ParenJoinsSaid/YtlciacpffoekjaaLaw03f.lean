/- Layer 3's statements: ParenJoins. -/
import Derived.Test.YtlciacpffoekjaaLaw03b
namespace Go.Proofs.Ytlciacpffoekjaa
open Go.RowKit

theorem OwnI.lit (B : Nat) (w : World) (zs : List Int) (hB : B ≤ w.heap.size) (hl : zs.length ≤ 1000) : OwnI B (w.alloc (.cells (ints zs).toArray 3)) (.slice (some ⟨w.heap.size, 0, none⟩) zs.length zs.length) zs := by
  have := World.ownsRow_lit (base := B) (e := 3) (size := 1) w (ints zs).toArray zs.length hB (by unfold maxLen; omega) (by simp [ints])
  simpa [OwnI] using this

theorem OwnI.lit0 (B : Nat) (w : World) (hB : B ≤ w.heap.size) : OwnI B (w.alloc (.cells #[] 3)) (.slice (some ⟨w.heap.size, 0, none⟩) 0 0) [] := OwnI.lit B w [] hB (by simp)
theorem OwnI.lit1 (B : Nat) (w : World) (z : Int) (hB : B ≤ w.heap.size) : OwnI B (w.alloc (.cells #[.int .i64 z] 3)) (.slice (some ⟨w.heap.size, 0, none⟩) 1 1) [z] := OwnI.lit B w [z] hB (by simp)

set_option maxRecDepth 100000 in
set_option maxHeartbeats 2000000 in
theorem walkParenJoins (a0 : Int) (a1 : Int) (a2 : Option Addr) (len2 cap2 : Nat) (z2 : List Int) (a3 : Option Addr) (len3 cap3 : Nat) (z3 : List Int) (a4 : Int) (w : World) (w0 : (Lit.int .u16 a0).wf = true) (w1 : (Lit.int .u16 a1).wf = true) (w2 : RowIn .u8 w a2 len2 cap2 z2) (w3 : RowIn .u8 w a3 len3 cap3 z3) (w4 : (Lit.int .u16 a4).wf = true) :
    Calls Try.prog 10 #[.int .u16 a0, .int .u16 a1, .slice a2 len2 cap2, .slice a3 len3 cap3, .int .u16 a4] w fun e w' => e = .returned (.bool true) ∧ Below w.heap.size w w' := by
  have hnot : ∀ (x : Bool) (w : World), (Op.unary .not (.bool x)).run Try.prog w = .ok (.bool (!x)) w := fun _ _ => rfl
  obtain ⟨ps, hp, hps⟩ := w2.bytes
  obtain ⟨qs, hq, hqs⟩ := w3.bytes
  obtain ⟨n, rfl, hn⟩ := u16_in w0
  obtain ⟨m, rfl, hm⟩ := u16_in w1
  obtain ⟨i, rfl, hi⟩ := u16_in w4
  clear w0 w1 w2 w3 w4
  have hA := fun w1 (hk : Keeps (fun _ => False) w w1) => refAny_any (.slice a2 len2 cap2) ps (n % 300) w1 (hp.keeps hk (fun _ _ h => h)) hps (by omega)
  have hA2 := fun w1 (hk : Keeps (fun _ => False) w w1) => refAny_any (.slice a3 len3 cap3) qs (m % 300) w1 (hq.keeps hk (fun _ _ h => h)) hqs (by omega)
  have e1 : ((n % 300 : Nat) : Int) = (n : Int) % 300 := by omega
  have e2 : ((m % 300 : Nat) : Int) = (m : Int) % 300 := by omega
  rw [e1] at hA
  rw [e2] at hA2
  clear hp hps hq hqs e1 e2
  go_enter Try.func10, Try.ntmps10
  go_wp2_with fail
  refine (awake03_any _).mono ?_
  rintro e w1 ⟨rfl, hk1⟩
  go_wp2_with fail
  refine (hA _ hk1).mono ?_
  rintro e w2 ⟨sa, za, rfl, hoa, hzl, h01, hB, hk2⟩
  have k2 := hk1.trans hk2 (fun _ _ h => h)
  have hla : za.length ≤ 600 := by omega
  clear hA hk1 hk2 hzl
  go_wp2_with fail
  refine (hA2 _ k2).mono ?_
  rintro e w3 ⟨sb, zb, rfl, hob, hzl, h01b, hBb, hk3⟩
  have k3 := k2.trans hk3 (fun _ _ h => h)
  have hlb : zb.length ≤ 600 := by omega
  have hoa3 := hoa.keeps hk3 (fun _ _ h => h)
  have hM1 := made03_any sa za w3 hoa3.sl (fun k hk => (hoa3.lt k hk).2) (by omega) hB
  clear hA2 hk3 k2
  go_wp2_with fail
  refine hM1.mono ?_
  rintro e w4 ⟨bp, Fp, rfl, hP, hFp, hk4⟩
  have k4 := k3.trans hk4 (fun _ _ h => h)
  have hoa4 := hoa3.keeps hk4 (fun _ _ h => h)
  have hob4 := hob.keeps hk4 (fun _ _ h => h)
  have hM2 := made03_any sb zb w4 hob4.sl (fun k hk => (hob4.lt k hk).2) (by omega) hBb
  clear hM1 hoa3 hob hoa
  go_wp2_with fail
  refine hM2.mono ?_
  rintro e w5 ⟨bq, Fq, rfl, hQ, hFq, hk5⟩
  have k5 := k4.trans hk5 (fun _ _ h => h)
  have hoa5 := hoa4.keeps hk5 (fun _ _ h => h)
  have hob5 := hob4.keeps hk5 (fun _ _ h => h)
  have hP5 := hP.keeps hk5 (fun _ _ h => h)
  have hFp5 := hP.old
  have hl0 := OwnI.lit0 w5.heap.size w5 (Nat.le_refl _)
  have ha0 := (hoa5.alloc (.cells #[] 3)).sl
  have hbal := hB.append hBb
  rw [← bitsOf_append] at hbal
  have hbal2 := hB.wrap
  have hwr : true :: bitsOf za ++ [false] = bitsOf ([1] ++ za ++ [0]) := by rw [bitsOf_append, bitsOf_append]; rfl
  rw [hwr] at hbal2
  have HB := Lib.hid (And.intro hB (And.intro hBb (And.intro hbal (And.intro hbal2 hwr))))
  clear hM2 hoa4 hob4 hB hBb hbal hbal2 hwr hP
  have hsz5 : w5.heap.size ≤ (w5.alloc (.cells #[] 3)).heap.size := by simp
  have hlen5 : ([] : List Int).length + za.length ≤ 10000000000 := by simp; omega
  have hfmb := hob5.form
  have hob5a := hob5.alloc (.cells #[] 3)
  have hlen5b : ([] ++ za).length + zb.length ≤ 10000000000 := by simp; omega
  go_wp2_with (first | (at_builtin; refine appendInts rfl _ _ rfl w5.heap.size (.slice (some ⟨w5.heap.size, 0, none⟩) 0 0) sa [] za rfl rfl hl0 ha0 hlen5 hsz5 ?_; intro v6 w6 hown6 hk6 hf6) | (at_builtin; refine appendInts rfl _ _ rfl w5.heap.size v6 sb ([] ++ za) zb rfl rfl hown6 (hob5a.keeps hk6 (fun b hb h => by simp only [Value.ownBlock, Option.some.injEq] at h; have := (hob5.lt b hb).2; omega)).sl hlen5b (Nat.le_trans hsz5 hk6.size) ?_; intro v7 w7 hown7 hk7 hf7))
  have kA : Keeps (fun _ => False) w5 w7 := (((Keeps.refl (fun _ => False) w5).alloc _).trans hk6 (fun x hx h => by simp only [Value.ownBlock, Option.some.injEq] at h; omega)).trans hk7 (fun x hx h => by have := (hown6.lt x h).1; omega)
  simp only [List.nil_append] at hown7
  have hM3 := made03_any v7 (za ++ zb) w7 hown7.sl (fun k hk => (hown7.lt k hk).2) (by simp; omega) HB.out.2.2.1
  have k7 := k5.trans kA (fun _ _ h => h)
  have hP7 := hP5.keeps kA (fun _ _ h => h)
  have hQ7 := hQ.keeps kA (fun _ _ h => h)
  have hoa7 := hoa5.keeps kA (fun _ _ h => h)
  have hsz7 := kA.size
  have hFq5 := hQ.old
  clear hown7 hk7 hf7 hown6 hk6 hf6 kA hob5a hob5 hl0 ha0 hsz5 hlen5 hlen5b hoa5 hP5 hQ
  refine hM3.mono ?_
  rintro e w8 ⟨bj, Fj, rfl, hJ, hFj, hk8⟩
  have k8 := k7.trans hk8 (fun _ _ h => h)
  have hP8 := hP7.keeps hk8 (fun _ _ h => h)
  have hQ8 := hQ7.keeps hk8 (fun _ _ h => h)
  have hoa8 := hoa7.keeps hk8 (fun _ _ h => h)
  have hsz8 := hk8.size
  have hFj8 := hJ.old
  have hl1 := OwnI.lit1 w8.heap.size w8 1 (Nat.le_refl _)
  have ha1 := (hoa8.alloc (.cells #[.int .i64 1] 3)).sl
  have hszA : w8.heap.size ≤ (w8.alloc (.cells #[.int .i64 1] 3)).heap.size := by simp
  have hlenA : [(1 : Int)].length + za.length ≤ 10000000000 := by simp; omega
  have hlenB : ([(1 : Int)] ++ za).length ≤ 10000000000 := by simp; omega
  clear hM3 hP7 hQ7 hoa7 hk8
  go_wp2_with (first | (at_builtin; refine appendInts rfl _ _ rfl w8.heap.size (.slice (some ⟨w8.heap.size, 0, none⟩) 1 1) sa [1] za rfl rfl hl1 ha1 hlenA hszA ?_; intro v9 w9 hown9 hk9 hf9) | (at_builtin; refine append1 rfl _ _ rfl w8.heap.size v9 ([1] ++ za) 0 _ rfl rfl rfl hown9 hlenB (Nat.le_trans hszA hk9.size) ?_; intro g10 c10 w10 hown10 hk10 hat10 hge10))
  have kA : Keeps (fun _ => False) w8 w10 := (((Keeps.refl (fun _ => False) w8).alloc _).trans hk9 (fun x hx h => by simp only [Value.ownBlock, Option.some.injEq] at h; omega)).trans hk10 (fun x hx h => by have := (hown9.lt x h).1; omega)
  have hM4 := made03_any _ ([1] ++ za ++ [0]) w10 hown10.sl (fun k hk => (hown10.lt k hk).2) (by simp; omega) HB.out.2.2.2.1.1
  have k10 := k8.trans kA (fun _ _ h => h)
  have hP10 := hP8.keeps kA (fun _ _ h => h)
  have hQ10 := hQ8.keeps kA (fun _ _ h => h)
  have hJ10 := hJ.keeps kA (fun _ _ h => h)
  have hsz10 := kA.size
  clear hown10 hk10 hat10 hge10 hown9 hk9 hf9 kA hl1 ha1 hszA hlenA hlenB hP8 hQ8 hJ
  refine hM4.mono ?_
  rintro e w11 ⟨bw, Fw, rfl, hW, hFw, hk11⟩
  have k11 := k10.trans hk11 (fun _ _ h => h)
  have hP11 := hP10.keeps hk11 (fun _ _ h => h)
  have hQ11 := hQ10.keeps hk11 (fun _ _ h => h)
  have hJ11 := hJ10.keeps hk11 (fun _ _ h => h)
  have hfma := hoa8.form
  have hsz11 := hk11.size
  have hzlz : (bitsOf ([1] ++ za ++ [0])).length = za.length + 2 := by rw [bitsOf_length]; simp
  have hzj : (bitsOf (za ++ zb)).length = za.length + zb.length := by rw [bitsOf_length]; simp
  have hwal : w.heap.size ≤ w3.heap.size := k3.size
  have hw34 := hk4.size
  have hw45 := hk5.size
  clear hM4 hP10 hQ10 hJ10 hoa8 hk11 hk4 hk5 k3 k4 k5 k7 k8 k10 hzl
  -- four of them; whose blocks lie apart
  have hW0 := Mate_in hW.old hW.after 0 (za.length + 1) (by omega) (by rw [hzlz]; omega) (by have := HB.out.2.2.2.1.2.mate_l; rwa [bitsOf_length] at this)
  obtain ⟨sa1, sa2, rfl, hsa3, hsa4⟩ := hfma
  obtain ⟨sb1, sb2, rfl, hsb3, hsb4⟩ := hfmb
  have eL : ((za.length + 1 : Nat) : Int) = (za.length : Int) + 1 := by omega
  rw [eL] at hW0
  clear eL
  have HJZ := Lib.hid (And.intro hzlz hzj)
  clear hzlz hzj
  go_wp2_with fail
  refine hW0.mono ?_
  rintro e w12 ⟨rfl, hW12⟩
  have hP12 := hP11.keeps hW12.2 (fun x hx h => by have := hFp5 x hx; have := hFw x h; omega)
  have hQ12 := hQ11.keeps hW12.2 (fun x hx h => by have := hFq5 x hx; have := hFw x h; omega)
  have hJ12 := hJ11.keeps hW12.2 (fun x hx h => by have := hFj8 x hx; have := hFw x h; omega)
  have k12 := k11.trans hW12.2 (fun x hx h => by have := hFw x h; omega)
  have hw12 : ParAt w12 bw (bitsOf ([1] ++ za ++ [0])) true 2 (grow Fw w11 w12) := hW12.1
  have hsz12 := hW12.2.size
  have hFw12 : ∀ x, grow Fw w11 w12 x → w10.heap.size ≤ x := fun x h => by
    rcases h with h | h
    · exact hFw x h
    · omega
  have hFwo := hw12.old
  clear hW0 hW12 hP11 hQ11 hJ11 hW hFw
  have hza : (bitsOf za).length = za.length := bitsOf_length za
  have hzb : (bitsOf zb).length = zb.length := bitsOf_length zb
  have HZ := Lib.hid (And.intro hza hzb)
  clear hza hzb
  generalize za.length = la at *
  generalize zb.length = lb at *
  by_cases h0 : 0 < la
  case' neg =>
    have hJA : ∃ dj qj FJ, ParAt w12 bj (bitsOf (za ++ zb)) dj qj FJ ∧ (∀ x, FJ x → w5.heap.size ≤ x) ∧ qj ≤ 100 := ⟨_, _, _, hJ12, fun x hx => by have := hFj x hx; omega, by omega⟩
    have hQA := hQ12
    have kA := k12
    clear hP12 hQ12 hJ12 hw12 k12 hsz12 hFw12 hFwo hFj hFp hFp5 hsz11 hsz10 hsz8 hFj8
    generalize w12 = wA at *
  case' pos =>
    obtain ⟨k, hk⟩ : ∃ k, k = i % la := ⟨_, rfl⟩
    have hkl : k < la := by rw [hk]; exact Nat.mod_lt _ (by omega)
    have ekk : (i : Int) % (la : Int) = (k : Int) := by rw [hk]; simp
    clear hk
    obtain ⟨m', hm'⟩ := HB.out.1.mate (i := k) (by rw [HZ.out.1]; exact hkl)
    have q1 := Mate_in hP12.old hP12.after k m' (by omega) (by rw [HZ.out.1]; exact hkl) hm'
    have hmj : MateOf (bitsOf (za ++ zb)) k m' := by rw [bitsOf_append]; exact hm'.inl _
    have hmw : MateOf (bitsOf ([1] ++ za ++ [0])) (k + 1) (m' + 1) := by rw [← HB.out.2.2.2.2]; exact hm'.wrap
    have hml := hm'.lt
    rw [HZ.out.1] at hml
    have HM := Lib.hid (And.intro hmj hmw)
    clear hmj hmw hm'
    go_wp2_with fail
    refine q1.mono ?_
    rintro e w13 ⟨rfl, h13⟩
    have hQ13 := hQ12.keeps h13.2 (fun x hx h => by have := hFq x hx; have := hFp5 x h; omega)
    have hJ13 := hJ12.keeps h13.2 (fun x hx h => by have := hFj x hx; have := hFp5 x h; omega)
    have hW13 := hw12.keeps h13.2 (fun x hx h => by have := hFw12 x hx; have := hFp5 x h; omega)
    have k13 := k12.trans h13.2 (fun x hx h => by have := hFp x h; omega)
    have hsz13 := h13.2.size
    have q2 := Mate_in hJ13.old hJ13.after k m' (by omega) (by rw [HJZ.out.2]; omega) HM.out.1
    clear q1 h13 hQ12 hJ12 hw12 k12 hP12
    go_wp2_with fail
    refine q2.mono ?_
    rintro e w14 ⟨rfl, h14⟩
    have hQ14 := hQ13.keeps h14.2 (fun x hx h => by have := hFq5 x hx; have := hFj x h; omega)
    have hW14 := hW13.keeps h14.2 (fun x hx h => by have := hFw12 x hx; have := hFj8 x h; omega)
    have k14 := k13.trans h14.2 (fun x hx h => by have := hFj x h; omega)
    have hsz14 := h14.2.size
    have hJ14 : ParAt w14 bj (bitsOf (za ++ zb)) true (0 + 2) (grow Fj w13 w14) := h14.1
    have q3 := Mate_in hW14.old hW14.after (k + 1) (m' + 1) (by omega) (by rw [HJZ.out.1]; omega) HM.out.2
    rw [show ((k + 1 : Nat) : Int) = (k : Int) + 1 by omega, show ((m' + 1 : Nat) : Int) = (m' : Int) + 1 by omega] at q3
    clear q2 h14 hQ13 hJ13 hW13 k13
    go_wp2_with fail
    refine q3.mono ?_
    rintro e wA ⟨rfl, h15⟩
    have hQA := hQ14.keeps h15.2 (fun x hx h => by have := hFq5 x hx; have := hFw12 x h; omega)
    have hJA : ∃ dj qj FJ, ParAt wA bj (bitsOf (za ++ zb)) dj qj FJ ∧ (∀ x, FJ x → w5.heap.size ≤ x) ∧ qj ≤ 100 := ⟨_, _, _, hJ14.keeps h15.2 (fun x hx h => by
      have h1 := hFw12 x h
      rcases hx with hx | hx
      · have := hFj8 x hx; omega
      · have := hFwo x h; omega), fun x hx => by rcases hx with hx | hx; (have := hFj x hx; omega); omega, by omega⟩
    have kA := k14.trans h15.2 (fun x hx h => by have := hFw12 x h; omega)
    clear q3 h15 hQ14 hJ14 hW14 k14 hFw12 hFwo hFj hFp hFp5 hsz11 hsz10 hsz8 hFj8 hsz12 hsz13 hsz14 ekk HM
  all_goals
    obtain ⟨dj, qj, FJ, hJA, hFJ, hqj⟩ := hJA
    by_cases hb0 : 0 < lb
    rotate_left
    · have HK := Lib.hid kA
      clear hQA hJA kA
      go_wp2
      go_ret
      exact ⟨rfl, HK.out.below (fun _ _ h => h)⟩
    · obtain ⟨k2, hk2⟩ : ∃ k, k = i % lb := ⟨_, rfl⟩
      have hkl2 : k2 < lb := by rw [hk2]; exact Nat.mod_lt _ (by omega)
      have ekk2 : (i : Int) % (lb : Int) = (k2 : Int) := by rw [hk2]; simp
      clear hk2
      obtain ⟨m2, hm2⟩ := HB.out.2.1.mate (i := k2) (by rw [HZ.out.2]; exact hkl2)
      have p1 := Mate_in hQA.old hQA.after k2 m2 (by omega) (by rw [HZ.out.2]; exact hkl2) hm2
      have hmj2 : MateOf (bitsOf (za ++ zb)) (la + k2) (la + m2) := by have := hm2.inr (bitsOf za); rw [← bitsOf_append, HZ.out.1] at this; exact this
      have hml2 := hm2.lt
      rw [HZ.out.2] at hml2
      have HM2 := Lib.hid hmj2
      clear hmj2 hm2
      go_wp2_with fail
      refine p1.mono ?_
      rintro e wB ⟨rfl, hB⟩
      have hJB := hJA.keeps hB.2 (fun x hx h => by have := hFJ x hx; have := hFq5 x h; omega)
      have kB := kA.trans hB.2 (fun x hx h => by have := hFq x h; omega)
      have p2 := Mate_in hJB.old hJB.after (la + k2) (la + m2) (by omega) (by rw [HJZ.out.2]; omega) HM2.out
      rw [show ((la + k2 : Nat) : Int) = (la : Int) + (k2 : Int) by omega, show ((la + m2 : Nat) : Int) = (la : Int) + (m2 : Int) by omega] at p2
      clear p1 hB hQA hJA kA
      go_wp2_with fail
      refine p2.mono ?_
      rintro e wC ⟨rfl, hC⟩
      have HK := Lib.hid (kB.trans hC.2 (fun x hx h => by have := hFJ x h; omega))
      clear p2 hC hJB kB
      go_wp2
      go_ret
      exact ⟨rfl, HK.out.below (fun _ _ h => h)⟩

end Go.Proofs.Ytlciacpffoekjaa
