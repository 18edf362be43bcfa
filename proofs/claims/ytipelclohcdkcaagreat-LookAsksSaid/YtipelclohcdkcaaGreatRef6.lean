/- The references of layer 6: the darts along faces. -/
import Derived.Test.YtipelclohcdkcaaGreatRef5c
import Derived.Deep.RegionLaw
namespace Go.Proofs.YtipelclohcdkcaaGreat
open Go.RowKit

/-- 'append(l, z)', l of the call's own, as a step of a region that draws its order. -/
theorem step_append1 {ops : Array Oper} {o : Oper} {a : Act} {K : Act → World → Prop} {Q : Exit → Act → World → Prop} {E : Prop} {wr : World} (n : Nat) (hgd : o.guard = none) (s x : Operand)
    (ho : o.op = .call { callee := .builtin .append, args := #[s, x], argTypes := #[22, 22] }) (B : Nat) (v : Value) (zs : List Int) (z : Int) (hn : Hid (zs.length = n)) (H : Nat) (hH : wr.heap.size = H) (hs : a.eval s = v) (hx : a.eval x = .slice (some ⟨H, 0, none⟩) 1 1)
    (hown : OwnI B wr v zs) (hlen : n ≤ 10000000000) (hB : B ≤ wr.heap.size)
    (h : ∀ g cap w', OwnI B w' (.slice (some ⟨g, 0, none⟩) (n + 1) cap) (zs ++ [z]) → Keeps (fun k => v.ownBlock = some k) wr w' → (v.ownBlock = some g ∨ wr.heap.size ≤ g) → B ≤ g → K (a.put o.dst (.slice (some ⟨g, 0, none⟩) (n + 1) cap)) w') :
    if Region.wanted o (yielded ops a.tmps) = true then Oper.wp Tryz.prog o a (wr.alloc (.cells #[.int .i64 z] 3)) K Q else E := by
  obtain ⟨i, hi, hz0, hz1, hz2⟩ := info_parts infoInt
  have hn := hn.out
  subst hn
  subst hH
  refine step_append_lies _ hgd s x _ ho B 3 i (.int .i64 0) 1 8 Tryz.underlying22 hi hz0 hz1 hz2 rfl (by decide) v zs.length _ hs (hown.alloc _) ⟨wr.heap.size, 0, none⟩ 1 1 [.int .i64 z] hx rfl (cell_one_new _ _ _) ?_ (by decide) ?_ ?_ ?_ (wr.heap.size + 1) (by simp) ?_
  · intro u hu; simp at hu; subst hu; rfl
  · unfold maxLen; omega
  · omega
  · simp; omega
  · intro g cap w1 hown1 hgrow hat _
    refine h g cap w1 ?_ (((Keeps.refl _ wr).alloc _).grown hgrow (fun k hk => .inl hk)) (hat.imp id (fun h => by omega)) ?_
    · unfold OwnI ints
      rw [List.length_append, List.map_append]
      exact hown1
    · exact (hown1.lt g rfl).1

/-- 'append(l, z)', l of the call's own, as a step behind a draw of a region that draws its order. -/
theorem step_append1d {ops : Array Oper} {o : Oper} {a : Act} {K : Act → World → Prop} {Q : Exit → Act → World → Prop} {E : Prop} {wr : World} (n : Nat) (hgd : o.guard = none) (s x : Operand)
    (ho : o.op = .call { callee := .builtin .append, args := #[s, x], argTypes := #[22, 22] }) (B : Nat) (v : Value) (zs : List Int) (z : Int) (hn : Hid (zs.length = n)) (H : Nat) (hH : wr.heap.size = H) (hs : a.eval s = v) (hx : a.eval x = .slice (some ⟨H, 0, none⟩) 1 1)
    (hown : OwnI B wr v zs) (hlen : n ≤ 10000000000) (hB : B ≤ wr.heap.size)
    (h : ∀ g cap w', OwnI B w' (.slice (some ⟨g, 0, none⟩) (n + 1) cap) (zs ++ [z]) → Keeps (fun k => v.ownBlock = some k) wr w' → (v.ownBlock = some g ∨ wr.heap.size ≤ g) → B ≤ g → K (a.put o.dst (.slice (some ⟨g, 0, none⟩) (n + 1) cap)) w') :
    if Region.wanted o (yielded ops a.tmps) = true then Oper.wp Tryz.prog o a (wr.alloc (.cells #[.int .i64 z] 3)).drew K Q else E := by
  obtain ⟨i, hi, hz0, hz1, hz2⟩ := info_parts infoInt
  have hn := hn.out
  subst hn
  subst hH
  refine step_append_lies _ hgd s x _ ho B 3 i (.int .i64 0) 1 8 Tryz.underlying22 hi hz0 hz1 hz2 rfl (by decide) v zs.length _ hs (hown.alloc _).drew ⟨wr.heap.size, 0, none⟩ 1 1 [.int .i64 z] hx rfl (fun j u h => cell_one_new wr _ _ j u h) ?_ (by decide) ?_ ?_ ?_ (wr.heap.size + 1) (by simp) ?_
  · intro u hu; simp at hu; subst hu; rfl
  · unfold maxLen; omega
  · omega
  · simp; omega
  · intro g cap w1 hown1 hgrow hat _
    refine h g cap w1 ?_ (((Keeps.refl _ wr).alloc _).drew.grown hgrow (fun k hk => .inl hk)) (hat.imp id (fun h => by omega)) ?_
    · unfold OwnI ints
      rw [List.length_append, List.map_append]
      exact hown1
    · exact (hown1.lt g rfl).1

/-- The darts along faces. -/
def phiL (s : List Nat) : List Nat := (List.range s.length).map fun d => sg s (mt d)
theorem phiL_length (s : List Nat) : (phiL s).length = s.length := by simp [phiL]
theorem phiL_step {s : List Nat} {j : Nat} (hj : j < s.length) : (phiL s).take (j + 1) = (phiL s).take j ++ [sg s (mt j)] := take_get (by simp [phiL, hj])

set_option maxRecDepth 100000 in
set_option maxHeartbeats 4000000 in
theorem refPhi_any (sv : Value) (rt ln : Int) (s : List Nat) (w : World) (hs : Sl .i64 w sv (nats s)) (he : s.length % 2 = 0) (hl : s.length ≤ 1000000) :
    Calls Tryz.prog 187 #[.agg #[sv, .int .i64 rt, .int .i64 ln]] w fun e w' => ∃ v, e = .returned v ∧ OwnI w.heap.size w' v (nats (phiL s)) ∧ Keeps (fun _ => False) w w' := by
  obtain ⟨bx, hbx⟩ : ∃ bx, bx = w.heap.size := ⟨_, rfl⟩
  have k0 : Keeps (fun _ => False) w (w.alloc (.cells #[sv, .int .i64 rt, .int .i64 ln] 72)) := (Keeps.refl _ w).alloc _
  have hb0 : (w.alloc (.cells #[sv, .int .i64 rt, .int .i64 ln] 72)).heap[bx]? = some (.cells #[sv, .int .i64 rt, .int .i64 ln] 72 (0, 0)) := by rw [hbx]; exact heap_alloc_new w _
  have HS : Hid (∀ W, Keeps (fun _ => False) w W → Sl .i64 W sv (nats s)) := Lib.hid (fun W hk => hs.keeps hk (fun _ _ h => h))
  obtain ⟨a, cap, rfl, hnc, hcm⟩ := hs.form
  rw [nats_len] at hnc HS hb0 k0 ⊢
  have HBX := Lib.hid hbx
  clear hs hbx
  go_enter Tryz.func187, Tryz.ntmps187
  go_wp2_with fail
  rw [← HBX.out]
  have h0 : OwnI w.heap.size (w.alloc (.cells #[.slice a s.length cap, .int .i64 rt, .int .i64 ln] 72)) (.slice none 0 0) (nats ((phiL s).take 0)) := OwnI.nil _ _
  have hbw : w.heap.size ≤ bx := by have := HBX.out; omega
  generalize World.alloc _ _ = wM at *
  go_loopg [3, 8] s.length (fun m ov i wr => ∃ j : Nat, j ≤ s.length ∧ m = s.length - j ∧ i = .int .i64 j ∧ OwnI w.heap.size wr ov (nats ((phiL s).take j)) ∧ (∀ q, ov.ownBlock = some q → q ≠ bx) ∧ wr.heap[bx]? = some (.cells #[.slice a s.length cap, .int .i64 rt, .int .i64 ln] 72 (0, 0)) ∧ Keeps (fun _ => False) w wr)
  case atStart => exact ⟨0, Nat.zero_le _, rfl, rfl, h0, (fun q hq => by simp [Value.ownBlock] at hq), hb0, k0⟩
  case round =>
    clear h0 k0 hb0
    obtain ⟨j, hj, hgk, rfl, hown, hob, hbb, hkw⟩ := hrel
    have HG := Lib.hid hgk
    clear hgk
    by_cases hlt : j < s.length
    · have hml := mt_lt he hlt
      obtain ⟨g, off, rfl, hcell⟩ := (HS.out wr hkw).cellAt (nats_at hml)
      have hst := phiL_step hlt
      have hlen : ((phiL s).take j).length = j := by rw [List.length_take, phiL_length]; omega
      have hfo := hown.form
      rw [nats_len, hlen] at hfo
      obtain ⟨la, lc, rfl, _, _⟩ := hfo
      have hM := fun W => refMate06_any j W (by omega)
      have hb := World.cell_of_heap hbb 0
      have hbd : wr.drew.cell? ⟨bx, 0, none⟩ = some (.slice (some ⟨g, off, none⟩) s.length cap) := hb
      have hcd : wr.drew.cell? ⟨g, off + mt j, none⟩ = some (.int .i64 (sg s (mt j) : Nat)) := hcell
      have hm0 : (0 : Int) ≤ ((mt j : Nat) : Int) := by omega
      have hm1 : ((mt j : Nat) : Int) < (s.length : Int) := by omega
      have HN : Hid ((nats ((phiL s).take j)).length = j) := Lib.hid (by rw [nats_len]; exact hlen)
      have hgw : g < w.heap.size := World.block_lt_of_cell? _ _ ((HS.out w (Keeps.refl _ w)).cellOf (nats_at hml))
      have HCL : Hid (∀ W, Keeps (fun q => (Value.slice la j lc).ownBlock = some q) wr W → W.heap[bx]? = some (.cells #[.slice (some ⟨g, off, none⟩) s.length cap, .int .i64 rt, .int .i64 ln] 72 (0, 0)) ∧ W.cell? ⟨g, off + mt j, none⟩ = some (.int .i64 (sg s (mt j) : Nat))) := Lib.hid (fun W hk => ⟨hk.at hbb (fun e => hob _ e rfl), by
        rw [World.cell?_of_block (w := wr) (hk.block g (World.block_lt_of_cell? _ _ hcell) (fun e => by have := (hown.lt g e).1; omega))]
        exact hcell⟩)
      have HH := Lib.hid (And.intro hst (And.intro hob (And.intro hbb hkw)))
      have hsz := hkw.size
      have hownd : OwnI w.heap.size wr.drew (.slice la j lc) (nats ((phiL s).take j)) := hown
      have hkl : j ≤ 10000000000 := by omega
      clear hst hob hbb hkw hlen hml
      generalize hxx : sg s (mt j) = x at *
      generalize hmm : mt j = mj at *
      have HX := Lib.hid (And.intro hxx hmm)
      clear hxx hmm
      have hA0 := fun (o : Obj) => alloc_cell hb o
      have hA1 := fun (o : Obj) => alloc_cell hcell o
      go_wp2_with fail
      go_region_held3 (fun w' => w'.cell? ⟨bx, 0, none⟩ = some (.slice (some ⟨g, off, none⟩) s.length cap) ∧ w'.cell? ⟨g, off + mj, none⟩ = some (.int .i64 (x : Nat))) (first | exact ⟨hbd, hcd⟩ | exact ⟨hA0 _, hA1 _⟩ | exact ⟨hp0, hp1⟩) (first | ((go_at_call 180; refine (hM _).mono ?_; rintro e w' ⟨rfl, rfl⟩)) | ((refine step_append1d j (by rfl) (.tmp 11) (.tmp 18) (by rfl) w.heap.size (.slice la j lc) (nats ((phiL s).take j)) (x : Nat) HN wr.heap.size rfl (by simp [Act.eval]) (by simp [Act.eval]) hown hkl hsz ?_; intro g2 cap2 w3 hown3 hk3 hat hg; have hp0 : w3.cell? ⟨bx, 0, none⟩ = some (.slice (some ⟨g, off, none⟩) s.length cap) := World.cell_of_heap (HCL.out w3 hk3).1 0; have hp1 : w3.cell? ⟨g, off + mj, none⟩ = some (.int .i64 (x : Nat)) := (HCL.out w3 hk3).2)))
      have hbf := (HCL.out w3 hk3).1
      have hkf := HH.out.2.2.2.trans hk3 (fun y hy h => by have := (hown.lt y h).1; omega)
      have hst := HH.out.1
      rw [← nats_snoc] at hown3
      rw [← hst] at hown3
      have hob3 : ∀ q, (Value.slice (some ⟨g2, 0, none⟩) (j + 1) cap2).ownBlock = some q → q ≠ bx := by
        intro q hq
        simp only [Value.ownBlock, Option.some.injEq] at hq
        subst hq
        rcases hat with h | h
        · exact HH.out.2.1 _ h
        · have := lt_of_block HH.out.2.2.1; omega
      have HF := Lib.hid (And.intro hown3 (And.intro hob3 (And.intro hbf hkf)))
      clear hown3 hob3 hbf hkf hst hk3 hat hown hownd hp0 hp1 hb hbd hcd hcell hA0 hA1 hM
      go_wp2
      go_roundg (s.length - (j + 1))
      case measure => rw [HG.out]; omega
      case rel => exact ⟨j + 1, by omega, rfl, by go_num, HF.out⟩
    · obtain rfl : j = s.length := by omega
      rw [List.take_of_length_le (by rw [phiL_length]; exact Nat.le_refl _)] at hown
      have HF := Lib.hid (And.intro hown hkw)
      clear hown hkw hbb hob
      go_wp2
      go_ret
      exact ⟨_, rfl, HF.out⟩

end Go.Proofs.YtipelclohcdkcaaGreat
