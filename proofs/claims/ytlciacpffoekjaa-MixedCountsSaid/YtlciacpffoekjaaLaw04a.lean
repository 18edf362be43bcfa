/- Layer 4's statements: of, Index of a word, awake. -/
import Derived.Test.YtlciacpffoekjaaRef04d
namespace Go.Proofs.Ytlciacpffoekjaa
open Go.RowKit

theorem indexOf_word (b : Nat) (v : Value) (ks : List Nat) (w : World) (h : WordAt w b v ks) (h4 : ∀ k ∈ ks, k < 4) (hl : ks.length ≤ 100000000) :
    Calls Try.prog 52 #[.pointer (some ⟨b, 0, none⟩)] w (IndexPost w ks) :=
  index_any _ ks w h4 hl (fun W k => wordLen_any b v ks W (h.keeps k (fun h => h) (fun _ _ h => h)))
    (fun W i k hk hi => wordAt_in b v ks i k W (h.keeps hk (fun h => h) (fun _ _ h => h)) hi (by have := h4 k (List.mem_of_getElem? hi); omega))

theorem indexOf_nil (w : World) : Calls Try.prog 52 #[.pointer none] w (IndexPost w []) :=
  index_any _ [] w (fun k h => by simp at h) (by simp) (fun W _ => wordLen_nil W) (fun W i k _ hi => by simp at hi)

theorem toKs_nats (ks : List Nat) : toKs (nats ks) = ks := by
  induction ks with
  | nil => rfl
  | cons k ks ih => simp only [toKs, nats, List.map_cons, Int.toNat_natCast] at *; rw [ih]

theorem Kinds4.of {ks : List Nat} (h : ∀ k ∈ ks, k < 4) : Kinds4 (nats ks) := by
  intro z hz
  obtain ⟨k, hk, rfl⟩ := List.mem_map.1 hz
  have := h k hk
  exact ⟨by omega, by show (k : Int) ≤ 3; omega⟩

set_option maxRecDepth 100000 in
set_option maxHeartbeats 1000000 in
theorem of04_any (sv : Value) (ks : List Nat) (w : World) (hs : Sl .i64 w sv (nats ks)) (hsv : ∀ k, sv.ownBlock = some k → k < w.heap.size) (h4 : ∀ k ∈ ks, k < 4) (hl : ks.length ≤ 100000000) :
    Calls Try.prog 53 #[sv] w fun e w' => ∃ b, e = .returned (.pointer (some ⟨b, 0, none⟩)) ∧ ParS w b ks w' := by
  have k0 := (Keeps.refl (fun _ => False) w).alloc (.cells #[.slice none 0 0] 131)
  have hA := wordAdd_good w.heap.size (.slice none 0 0) [] sv (nats ks) _ (word_new w) (hs.keeps k0 (fun _ _ h => h)) (Kinds4.of h4) (fun k hk => ⟨by have := hsv k hk; omega, by simp [Value.ownBlock]⟩) (by rw [nats_len]; simp; omega)
  rw [toKs_nats, List.nil_append] at hA
  have HH := Lib.hid h4
  clear hs h4
  go_enter Try.func53, Try.ntmps53
  go_wp2_with fail
  refine (wordNew_any _).mono ?_
  rintro e w1 ⟨rfl, rfl⟩
  go_wp2_with fail
  refine hA.mono ?_
  rintro e w2 ⟨rfl, hgr⟩
  have HF : Hid (ParS w w.heap.size ks w2) := Lib.hid (ParS.grown (Nat.le_refl _) (fun k hk => by simp [Value.ownBlock] at hk) k0 hgr)
  clear hA k0 hgr
  go_wp2
  go_ret
  exact ⟨_, rfl, HF.out⟩

theorem balTF : Bal [true, false] := ⟨by decide, fun p hp => by
  have h : ∀ p, p < 3 → 0 ≤ ex [true, false] p := by decide
  exact h p (by simp at hp; omega)⟩
theorem pairTF : IsPair [true, false] 0 1 := ⟨by decide, by decide, by decide, fun p h1 h2 => by
  obtain rfl : p = 1 := by omega
  decide⟩
theorem awake_bal : MBal [0, 2, 1, 3] := ⟨balTF, balTF⟩
theorem awake_mate : MixMate [0, 2, 1, 3] 1 3 := ⟨1, 0, 1, by decide, ⟨2, rfl, rfl, rfl⟩, ⟨3, rfl, rfl, rfl⟩, pairTF.mate_l⟩
theorem awake_own2 : OwnerOf [0, 2, 1, 3] 2 0 := .inr ⟨by decide, 0, 0, ⟨by decide, by decide, by decide, fun p h1 h2 => by
  have h2' : p ≤ 1 := h2
  obtain rfl : p = 1 := by omega
  decide⟩, ⟨0, rfl, rfl, rfl⟩, rfl⟩
theorem awake_own3 : OwnerOf [0, 2, 1, 3] 3 (-1) := .inl ⟨by decide, rfl⟩

theorem awake_ks {ks : List Nat} (h : (⟨#[40, 91, 41, 93]⟩ : ByteArray).data.toList.map kindZ = nats ks) : ks = [0, 2, 1, 3] := by
  have h1 : (⟨#[40, 91, 41, 93]⟩ : ByteArray).data.toList.map kindZ = nats [0, 2, 1, 3] := by decide
  rw [h1] at h
  have h2 := congrArg toKs h
  rw [toKs_nats, toKs_nats] at h2
  exact h2.symm

theorem awake_good {i : Nat} {c : UInt8} (h : (⟨#[40, 91, 41, 93]⟩ : ByteArray).data.toList[i]? = some c) : 0 ≤ kindZ c := by
  have h1 : ∀ c ∈ (⟨#[40, 91, 41, 93]⟩ : ByteArray).data.toList, 0 ≤ kindZ c := by decide
  exact h1 c (List.mem_of_getElem? h)

set_option maxRecDepth 100000 in
set_option maxHeartbeats 1000000 in
theorem awake04_any (w : World) :
    Calls Try.prog 50 #[] w fun e w' => e = .returned (.bool true) ∧ Keeps (fun _ => False) w w' := by
  have hP := parse_any ⟨#[40, 91, 41, 93]⟩ w (by decide)
  go_enter Try.func50, Try.ntmps50
  go_wp2_with fail
  refine hP.mono ?_
  clear hP
  intro e w1 h1
  rcases h1 with ⟨b, ks, hks, rfl, v, hv, hb, hvb, hk1⟩ | ⟨i, _, _, ⟨c, hc, hneg⟩, _⟩
  · obtain rfl := awake_ks hks
    clear hks
    have hI := indexOf_word b v [0, 2, 1, 3] w1 hv (by decide) (by decide)
    clear hv hb hvb
    go_wp2_with fail
    refine hI.mono ?_
    clear hI
    intro e w2 h2
    rcases h2 with ⟨_, bm, bo, bi, bp, rfl, hM, hk2⟩ | ⟨hn, _⟩
    · have hM0 := hM.after
      have hold := hM.old
      clear hM
      have h1 := mixMate_in hold hM0 1 3 (by decide) awake_mate
      clear hM0
      go_wp2_with fail
      refine h1.mono ?_
      rintro e w3 ⟨rfl, hM3⟩
      clear h1
      have h1 := mixOwner_in hold hM3 2 0 (by decide) (by decide) awake_own2
      clear hM3
      go_wp2_with fail
      refine h1.mono ?_
      rintro e w4 ⟨rfl, hM4⟩
      clear h1
      have h1 := mixOwner_in hold hM4 3 (-1) (by decide) (by decide) awake_own3
      clear hM4
      go_wp2_with fail
      refine h1.mono ?_
      rintro e w5 ⟨rfl, hM5⟩
      clear h1
      have hk := (hk1.trans hk2 (fun _ _ h => h)).trans hM5.2 (fun x hx h => by have := h.1; have := hk1.size; omega)
      have HF := Lib.hid hk
      clear hk hk1 hk2 hM5 hold
      go_wp2
      go_ret
      exact ⟨rfl, HF.out⟩
    · exact absurd awake_bal hn
  · have := awake_good hc
    omega

end Go.Proofs.Ytlciacpffoekjaa
