/- Joined texts. -/
import Derived.Test.YtblkkcpeodoclaaGreatDoorPtParseP

/- Plain: the text that rots.Print makes. -/
namespace Go.Proofs.YtblkkcpeodoclaaGreatDoor

theorem vnum_first {n : Nat} {S : Nat → Nat} (h : IsP n S) {d : Nat} (hd : d < n) : vnum S d = ldr S d ↔ rep S d = d := by
  constructor
  · intro he
    have hle := h.rep_self_le hd
    rcases Nat.lt_or_ge (rep S d) d with hlt | hge
    · exfalso
      have h1 := ldr_succ S (rep S d)
      rw [if_pos (h.rep_rep hd)] at h1
      have h2 := ldr_mono S (show rep S d + 1 ≤ d from hlt)
      unfold vnum at he
      omega
    · omega
  · intro he
    unfold vnum
    rw [he]

/-- A line. -/
def rowB (zs : List Int) : List UInt8 := joinB 32 (zs.map Lib.itoa) ++ [10]
/-- The first darts of vertices, below i. -/
noncomputable def firsts (S : Nat → Nat) (i : Nat) : List Nat := (List.range i).filter fun x => rep S x == x
noncomputable def bodyB (S : Nat → Nat) (i : Nat) : List UInt8 := (firsts S i).flatMap fun d => rowB (nats (orb S d))
/-- A map's text. -/
noncomputable def textB (s : List Nat) (rt ln : Int) : List UInt8 := rowB [((s.length / 2 : Nat) : Int), rt, ln] ++ bodyB (sg s) s.length

theorem firsts_succ (S : Nat → Nat) (i : Nat) : firsts S (i + 1) = firsts S i ++ if rep S i = i then [i] else [] := by
  unfold firsts
  rw [List.range_succ, List.filter_append]
  congr 1
  by_cases h : rep S i = i
  · simp [h]
  · simp [h]

theorem bodyB_zero (S : Nat → Nat) : bodyB S 0 = [] := rfl

theorem bodyB_succ (S : Nat → Nat) (i : Nat) : bodyB S (i + 1) = bodyB S i ++ if rep S i = i then rowB (nats (orb S i)) else [] := by
  unfold bodyB
  rw [firsts_succ, List.flatMap_append]
  split <;> simp

theorem join_len21 (c : UInt8) : ∀ (xs : List (List UInt8)), (∀ x ∈ xs, x.length ≤ 21) → (joinB c xs).length ≤ 22 * xs.length
  | [], _ => by simp [joinB]
  | [x], h => by have := h x (List.mem_cons_self ..); simp only [joinB, List.length_singleton]; omega
  | x :: y :: r, h => by
    have h1 := h x (List.mem_cons_self ..)
    have h2 := join_len21 c (y :: r) (fun z hz => h z (List.mem_cons_of_mem _ hz))
    simp only [joinB, List.length_append, List.length_cons] at h2 ⊢
    omega

theorem rowB_len {zs : List Int} (h : ∀ z ∈ zs, -9223372036854775808 ≤ z ∧ z ≤ 9223372036854775807) : (rowB zs).length ≤ 22 * zs.length + 1 := by
  have := join_len21 32 (zs.map Lib.itoa) (fun x hx => by
    obtain ⟨z, hz, rfl⟩ := List.mem_map.1 hx
    exact Lib.itoa_length_le z (h z hz).1 (h z hz).2)
  rw [List.length_map] at this
  unfold rowB
  rw [List.length_append, List.length_singleton]
  omega

theorem rowB_pos (zs : List Int) : 0 < (rowB zs).length := by unfold rowB; simp

theorem orb_bound {n : Nat} {S : Nat → Nat} (h : IsP n S) (hn : n ≤ 131072) {d : Nat} (hd : d < n) : (nats (orb S d)).length ≤ n ∧ ∀ z ∈ nats (orb S d), -9223372036854775808 ≤ z ∧ z ≤ 9223372036854775807 := by
  constructor
  · rw [nats_len, orb_length]; exact (h.per_spec hd).2.1
  · intro z hz
    unfold nats at hz
    obtain ⟨x, hx, rfl⟩ := List.mem_map.1 hz
    have := h.sameO_lt hd ((h.mem_orb hd).1 hx)
    omega

theorem body_len {n : Nat} {S : Nat → Nat} (h : IsP n S) (hn : n ≤ 131072) : ∀ i, i ≤ n → (bodyB S i).length ≤ 2883585 * i
  | 0, _ => by simp [bodyB_zero]
  | i + 1, hi => by
    have h1 := body_len h hn i (by omega)
    rw [bodyB_succ, List.length_append]
    split
    · have h2 := orb_bound h hn (show i < n by omega)
      have h3 := rowB_len h2.2
      omega
    · simp only [List.length_nil]; omega

end Go.Proofs.YtblkkcpeodoclaaGreatDoor

/- Plain: a text of lines that hold each dart once is read as its map. -/
namespace Go.Proofs.YtblkkcpeodoclaaGreatDoor

theorem itoa_len9 {n : Int} (h0 : -1 ≤ n) (h : n < 1000000000) : (Lib.itoa n).length ≤ 9 := by
  unfold Lib.itoa
  split
  · have : n.natAbs = 1 := by omega
    rw [this, List.length_cons]
    have := decDigits_len (k := 0) (u := 1) (by decide)
    omega
  · exact decDigits_len (k := 8) (u := n.toNat) (by have : (10 : Nat) ^ 9 = 1000000000 := by decide
                                                    omega)

theorem mapM_itoa : ∀ {zs : List Int}, (∀ z ∈ zs, -1 ≤ z ∧ z < 1000000000) → (zs.map Lib.itoa).mapM numK = some zs
  | [], _ => rfl
  | z :: zs, h => by
    have h1 := h z (List.mem_cons_self ..)
    have h2 := mapM_itoa (zs := zs) (fun y hy => h y (List.mem_cons_of_mem _ hy))
    simp only [List.map_cons, List.mapM_cons, numK_itoa h1.1 (itoa_len9 h1.1 h1.2), h2]
    rfl

theorem itoa_no {c : UInt8} (hc : c = 32 ∨ c = 10) (n : Int) : c ∉ Lib.itoa n := fun h => by
  have := itoa_bytes n c h
  rcases hc with rfl | rfl
  · have : (32 : UInt8).toNat = 32 := rfl
    omega
  · have : (10 : UInt8).toNat = 10 := rfl
    omega

theorem numsK_join {zs : List Int} (hne : zs ≠ []) (h : ∀ z ∈ zs, -1 ≤ z ∧ z < 1000000000) : numsK (joinB 32 (zs.map Lib.itoa)) = some zs := by
  unfold numsK
  rw [cutB_join (by simpa using hne) (fun x hx => by obtain ⟨z, -, rfl⟩ := List.mem_map.1 hx; exact itoa_no (.inl rfl) z)]
  exact mapM_itoa h

theorem join_no {c d : UInt8} (hcd : c ≠ d) : ∀ {xs : List (List UInt8)}, (∀ x ∈ xs, c ∉ x) → c ∉ joinB d xs
  | [], _ => by simp [joinB]
  | [x], h => h x (List.mem_cons_self ..)
  | x :: y :: r, h => by
    have ih := join_no hcd (xs := y :: r) (fun z hz => h z (List.mem_cons_of_mem _ hz))
    rw [joinB, List.mem_append, List.mem_cons]
    rintro (e | e | e)
    · exact h x (List.mem_cons_self ..) e
    · exact hcd e
    · exact ih e

theorem cut_lines : ∀ {xs : List (List UInt8)}, (∀ x ∈ xs, (10 : UInt8) ∉ x) → cutB 10 (xs.flatMap fun x => x ++ [10]) = xs ++ [[]]
  | [], _ => rfl
  | x :: xs, h => by
    rw [List.flatMap_cons, List.append_assoc]
    show cutB 10 (x ++ 10 :: xs.flatMap fun x => x ++ [10]) = _
    rw [cutB_app (h x (List.mem_cons_self ..)), cut_lines (fun y hy => h y (List.mem_cons_of_mem _ hy))]
    rfl

/-- Lines of darts as text. -/
def linesB (ed : Nat) (rt : Int) (ln : Nat) (ls : List (List Nat)) : List UInt8 := rowB [(ed : Int), rt, (ln : Int)] ++ ls.flatMap fun l => rowB (nats l)

theorem read_lines {ed ln : Nat} {rt : Int} {ls : List (List Nat)} (he : ed < 1000000000) (hln : ln < 1000000000) (hrt : -1 ≤ rt ∧ rt < 1000000000) (hne : ∀ l ∈ ls, l ≠ []) (hlt : ∀ l ∈ ls, ∀ x ∈ l, x < 1000000000) :
    ReadK (linesB ed rt ln ls) ([(ed : Int), rt, (ln : Int)] :: ls.map nats) := by
  obtain ⟨rows, hrows⟩ : ∃ rows : List (List Int), rows = [(ed : Int), rt, (ln : Int)] :: ls.map nats := ⟨_, rfl⟩
  have hb : linesB ed rt ln ls = (rows.map fun zs => joinB 32 (zs.map Lib.itoa)).flatMap fun x => x ++ [10] := by
    rw [hrows]
    unfold linesB rowB
    simp [List.flatMap_map, Function.comp_def]
  rw [← hrows, hb]
  refine ⟨rows.map fun zs => joinB 32 (zs.map Lib.itoa), cut_lines (fun x hx => ?_), by rw [hrows]; simp, by simp, fun i x hx => ?_⟩
  · obtain ⟨zs, -, rfl⟩ := List.mem_map.1 hx
    exact join_no (by decide) (fun y hy => by obtain ⟨z, -, rfl⟩ := List.mem_map.1 hy; exact itoa_no (.inr rfl) z)
  · rw [List.getElem?_map] at hx
    cases hz : rows[i]? with
    | none => rw [hz] at hx; cases hx
    | some zs =>
      rw [hz] at hx
      simp only [Option.map_some, Option.some.injEq] at hx
      subst hx
      rw [hrows] at hz
      cases i with
      | zero =>
        simp at hz
        subst hz
        refine ⟨_, rfl, numsK_join (by simp) (fun z hz => ?_), ?_⟩
        · simp only [List.mem_cons, List.not_mem_nil, or_false] at hz
          rcases hz with rfl | rfl | rfl <;> omega
        · unfold rightK
          simp
      | succ i =>
        rw [List.getElem?_cons_succ, List.getElem?_map] at hz
        cases hl : ls[i]? with
        | none => rw [hl] at hz; cases hz
        | some l =>
          rw [hl] at hz
          simp only [Option.map_some, Option.some.injEq] at hz
          subst hz
          have hm := List.mem_of_getElem? hl
          refine ⟨_, rfl, numsK_join (by unfold nats; simpa using hne l hm) (fun z hz => ?_), ?_⟩
          · unfold nats at hz
            obtain ⟨x, hx, rfl⟩ := List.mem_map.1 hz
            have := hlt l hm x hx
            omega
          · unfold rightK
            simp [nats]

theorem good_lines {s : List Nat} {rt : Int} {ln : Nat} {ls : List (List Nat)} (hP : IsP s.length (sg s)) (he : s.length % 2 = 0) (hl : s.length ≤ 131072) (hln : ln ≤ 65536) (hrt : (s.length = 0 ∧ rt = -1) ∨ ∃ r : Nat, rt = r ∧ r < s.length)
    (hne : ∀ l ∈ ls, l ≠ []) (hT : TurnOk ls s.length) (hS : ∀ p ∈ linksL ls, sg s p.1 = p.2) (htl : (linesB (s.length / 2) rt ln ls).length ≤ 1048576) : GoodK (linesB (s.length / 2) rt ln ls) s rt ln (ls.length + 1) := by
  have h2 : 2 * (s.length / 2) = s.length := by omega
  refine ⟨htl, s.length / 2, ls, read_lines (by omega) (by omega) (by rcases hrt with ⟨_, h⟩ | ⟨r, h, _⟩ <;> omega) hne (fun l hl2 x hx => ?_), rfl, by rw [h2]; exact hT, hS, by omega, hP, hl, hln, hrt⟩
  have : x ∈ (linksL ls).map Prod.fst := by rw [links_fst]; exact List.mem_flatten.2 ⟨l, hl2, hx⟩
  obtain ⟨p, hp, rfl⟩ := List.mem_map.1 this
  have := hT.2.2 p hp
  omega

/-- The lines of a map's own text. -/
noncomputable def linesOf (s : List Nat) : List (List Nat) := (firsts (sg s) s.length).map fun d => orb (sg s) d

theorem textB_lines (s : List Nat) (rt : Int) (ln : Nat) : textB s rt ln = linesB (s.length / 2) rt ln (linesOf s) := by
  unfold textB linesB bodyB linesOf
  rw [List.flatMap_map]

theorem mem_firsts {S : Nat → Nat} {i d : Nat} : d ∈ firsts S i ↔ d < i ∧ rep S d = d := by
  unfold firsts
  rw [List.mem_filter, List.mem_range, beq_iff_eq]

theorem firsts_len (S : Nat → Nat) (i : Nat) : (firsts S i).length = ldr S i := rfl

theorem nodup_append_of {l m : List Nat} (h1 : l.Nodup) (h2 : m.Nodup) (h : ∀ x ∈ l, x ∉ m) : (l ++ m).Nodup := by
  rw [List.nodup_append]
  exact ⟨h1, h2, fun a ha b hb e => h a ha (e ▸ hb)⟩

theorem orbs_nodup {n : Nat} {S : Nat → Nat} (h : IsP n S) : ∀ (fs : List Nat), fs.Nodup → (∀ d ∈ fs, d < n ∧ rep S d = d) → (fs.map fun d => orb S d).flatten.Nodup
  | [], _, _ => by simp
  | d :: fs, hn, hm => by
    rw [List.nodup_cons] at hn
    obtain ⟨h1, h2⟩ := hm d (List.mem_cons_self ..)
    rw [List.map_cons, List.flatten_cons]
    refine nodup_append_of (h.orb_nodup h1) (orbs_nodup h fs hn.2 (fun e he => hm e (List.mem_cons_of_mem _ he))) (fun x hx hx2 => ?_)
    obtain ⟨l, hl, hxl⟩ := List.mem_flatten.1 hx2
    obtain ⟨e, he, rfl⟩ := List.mem_map.1 hl
    obtain ⟨h3, h4⟩ := hm e (List.mem_cons_of_mem _ he)
    have s1 := (h.mem_orb h1).1 hx
    have s2 := (h.mem_orb h3).1 hxl
    have := (h.rep_iff h1 h3).2 (s1.trans (h.sameO_symm h3 s2))
    rw [h2, h4] at this
    subst this
    exact hn.1 he

theorem orb_mod {n : Nat} {S : Nat → Nat} (h : IsP n S) {d : Nat} (hd : d < n) : ∀ p ∈ linkV (orb S d), S p.1 = p.2 := by
  intro p hp
  unfold linkV at hp
  obtain ⟨i, hi, rfl⟩ := List.mem_map.1 hp
  rw [List.mem_range, orb_length] at hi
  have hp := (h.per_spec hd).1
  have hm : (i + 1) % per S d < per S d := Nat.mod_lt _ hp
  rw [orb_length, List.getD_eq_getElem?_getD, List.getD_eq_getElem?_getD, orb_get hi, orb_get hm]
  show S (itr S i d) = itr S ((i + 1) % per S d) d
  rw [← h.itr_mod hd (i + 1)]
  rfl

theorem lines_turn {s : List Nat} (hP : IsP s.length (sg s)) : TurnOk (linesOf s) s.length ∧ (∀ p ∈ linksL (linesOf s), sg s p.1 = p.2) ∧ ∀ l ∈ linesOf s, l ≠ [] := by
  have hfs : ∀ d ∈ firsts (sg s) s.length, d < s.length ∧ rep (sg s) d = d := fun d hd => mem_firsts.1 hd
  have hfn : (firsts (sg s) s.length).Nodup := by unfold firsts; exact List.Nodup.sublist List.filter_sublist List.nodup_range
  have hnd := orbs_nodup hP _ hfn hfs
  have hmem : ∀ x, x ∈ ((firsts (sg s) s.length).map fun d => orb (sg s) d).flatten ↔ x < s.length := fun x => by
    constructor
    · intro hx
      obtain ⟨l, hl, hxl⟩ := List.mem_flatten.1 hx
      obtain ⟨d, hd, rfl⟩ := List.mem_map.1 hl
      exact hP.sameO_lt (hfs d hd).1 ((hP.mem_orb (hfs d hd).1).1 hxl)
    · intro hx
      refine List.mem_flatten.2 ⟨orb (sg s) (rep (sg s) x), List.mem_map.2 ⟨rep (sg s) x, mem_firsts.2 ⟨hP.rep_lt hx, hP.rep_rep hx⟩, rfl⟩, ?_⟩
      exact (hP.mem_orb (hP.rep_lt hx)).2 (hP.sameO_symm hx (hP.rep_same hx))
  refine ⟨⟨?_, ?_, fun p hp => ?_⟩, fun p hp => ?_, fun l hl e => ?_⟩
  · rw [← List.length_map (f := Prod.fst), links_fst]
    have := nodup_eq_len hnd (List.nodup_range (n := s.length)) (fun x => by rw [hmem, List.mem_range])
    rw [List.length_range] at this
    exact this
  · rw [links_fst]; exact hnd
  · have : p.1 ∈ (linksL (linesOf s)).map Prod.fst := List.mem_map.2 ⟨p, hp, rfl⟩
    rw [links_fst] at this
    exact (hmem p.1).1 this
  · unfold linksL linesOf at hp
    obtain ⟨l, hl, hpl⟩ := List.mem_flatMap.1 hp
    obtain ⟨d, hd, rfl⟩ := List.mem_map.1 hl
    exact orb_mod hP (hfs d hd).1 p hpl
  · unfold linesOf at hl
    obtain ⟨d, hd, rfl⟩ := List.mem_map.1 hl
    have := congrArg List.length e
    rw [orb_length] at this
    have := (hP.per_spec (hfs d hd).1).1
    simp at *
    omega

theorem nats_map_inj : ∀ {ls ms : List (List Nat)}, ls.map nats = ms.map nats → ls = ms := fun {ls ms} h => by
  have h2 := congrArg (List.map (List.map Int.toNat)) h
  simpa [nats, Function.comp_def] using h2

/-- A text is one map at most. -/
theorem GoodK.det {t : List UInt8} {s s' : List Nat} {rt rt' : Int} {ln ln' k k' : Nat} (h : GoodK t s rt ln k) (h' : GoodK t s' rt' ln' k') : s = s' ∧ rt = rt' ∧ ln = ln' ∧ k = k' := by
  obtain ⟨_, a, ls, hR, hk, hT, hS, hl, _⟩ := h
  obtain ⟨_, a', ls', hR', hk', hT', hS', hl', _⟩ := h'
  have e := hR.uniq hR'
  simp only [List.cons.injEq, Int.ofNat_inj, and_true] at e
  obtain ⟨⟨e1, e2, e3⟩, e4⟩ := e
  have e5 := nats_map_inj e4
  subst e1 e2 e3 e5
  refine ⟨?_, rfl, rfl, by rw [hk, hk']⟩
  apply List.ext_getElem (by rw [hl, hl'])
  intro d h1 h2
  have hd : d < 2 * a := by omega
  have hm : d ∈ (linksL ls).map Prod.fst := by
    by_cases hm : d ∈ (linksL ls).map Prod.fst
    · exact hm
    · exfalso
      have := nodup_le (2 * a) (d :: (linksL ls).map Prod.fst) (List.nodup_cons.2 ⟨hm, hT.2.1⟩) (fun x hx => by
        rcases List.mem_cons.1 hx with rfl | hx
        · exact hd
        · obtain ⟨p, hp, rfl⟩ := List.mem_map.1 hx
          exact hT.2.2 p hp)
      rw [List.length_cons, List.length_map, hT.1] at this
      omega
  obtain ⟨p, hp, rfl⟩ := List.mem_map.1 hm
  have e6 := (hS p hp).trans (hS' p hp).symm
  unfold sg at e6
  rw [List.getD_eq_getElem?_getD, List.getD_eq_getElem?_getD, List.getElem?_eq_getElem h1, List.getElem?_eq_getElem h2] at e6
  exact e6

end Go.Proofs.YtblkkcpeodoclaaGreatDoor

/- Plain: a text that is a map has a line for each vertex. -/
namespace Go.Proofs.YtblkkcpeodoclaaGreatDoor

theorem links_mem {ls : List (List Nat)} {l : List Nat} (hl : l ∈ ls) {i : Nat} (hi : i < l.length) : (l.getD i 0, l.getD ((i + 1) % l.length) 0) ∈ linksL ls := by
  unfold linksL
  refine List.mem_flatMap.2 ⟨l, hl, ?_⟩
  unfold linkV
  exact List.mem_map.2 ⟨i, List.mem_range.2 hi, rfl⟩

theorem line_itr {S : Nat → Nat} {ls : List (List Nat)} (hS : ∀ p ∈ linksL ls, S p.1 = p.2) {l : List Nat} (hl : l ∈ ls) : ∀ i, i < l.length → l.getD i 0 = itr S i (l.getD 0 0)
  | 0, _ => rfl
  | i + 1, hi => by
    have ih := line_itr hS hl i (by omega)
    have h1 := hS _ (links_mem hl (show i < l.length by omega))
    simp only at h1
    rw [Nat.mod_eq_of_lt hi] at h1
    rw [← h1, ih]
    rfl

theorem line_closed {S : Nat → Nat} {ls : List (List Nat)} (hS : ∀ p ∈ linksL ls, S p.1 = p.2) {l : List Nat} (hl : l ∈ ls) : ∀ (k : Nat) {x : Nat}, x ∈ l → itr S k x ∈ l
  | 0, x, hx => hx
  | k + 1, x, hx => by
    have ih := line_closed hS hl k hx
    obtain ⟨i, hi⟩ := List.mem_iff_getElem?.1 ih
    obtain ⟨hil, hie⟩ := List.getElem?_eq_some_iff.1 hi
    have h1 := hS _ (links_mem hl hil)
    simp only at h1
    rw [List.getD_eq_getElem?_getD, hi] at h1
    show S (itr S k x) ∈ l
    have h2 : S (itr S k x) = l.getD ((i + 1) % l.length) 0 := h1
    rw [h2, List.getD_eq_getElem?_getD, List.getElem?_eq_getElem (Nat.mod_lt _ (by omega))]
    exact List.getElem_mem _

theorem reps_nodup {n : Nat} {S : Nat → Nat} (h : IsP n S) : ∀ (ls : List (List Nat)), (∀ l ∈ ls, l ≠ []) → ls.flatten.Nodup → (∀ l ∈ ls, ∀ x ∈ l, x < n ∧ ∀ k, itr S k x ∈ l) → (ls.map fun l => rep S (l.getD 0 0)).Nodup
  | [], _, _, _ => by simp
  | l :: ls, hne, hn, hc => by
    rw [List.flatten_cons, List.nodup_append] at hn
    rw [List.map_cons, List.nodup_cons]
    refine ⟨fun hm => ?_, reps_nodup h ls (fun m hm => hne m (List.mem_cons_of_mem _ hm)) hn.2.1 (fun m hm => hc m (List.mem_cons_of_mem _ hm))⟩
    obtain ⟨m, hm, he⟩ := List.mem_map.1 hm
    have hhead : ∀ q : List Nat, q ≠ [] → q.getD 0 0 ∈ q := fun q hq => by
      cases q with
      | nil => exact absurd rfl hq
      | cons a q => simp
    have h1 := hhead l (hne l (List.mem_cons_self ..))
    have h2 := hhead m (hne m (List.mem_cons_of_mem _ hm))
    have h3 := (hc l (List.mem_cons_self ..) _ h1)
    have h4 := (hc m (List.mem_cons_of_mem _ hm) _ h2).1
    obtain ⟨k, hk⟩ := (h.rep_iff h3.1 h4).1 he.symm
    have h5 := h3.2 k
    rw [hk] at h5
    exact hn.2.2 _ h5 _ (List.mem_flatten.2 ⟨m, hm, h2⟩) rfl

theorem read_ne {t : List UInt8} {h0 r n0 : Int} {ls : List (List Nat)} (hR : ReadK t ([h0, r, n0] :: ls.map nats)) : ∀ l ∈ ls, l ≠ [] := by
  rintro l hl rfl
  obtain ⟨xs, _, _, hr⟩ := hR
  obtain ⟨i, hi⟩ := List.mem_iff_getElem?.1 hl
  have hlen : i + 1 < xs.length := by
    have h1 := hr.1
    have := (List.getElem?_eq_some_iff.1 hi).1
    rw [List.length_cons, List.length_map] at h1
    omega
  obtain ⟨m, h1, h2, _⟩ := hr.2 (i + 1) _ (List.getElem?_eq_getElem hlen)
  rw [List.getElem?_cons_succ, List.getElem?_map, hi] at h1
  simp only [Option.map_some, Option.some.injEq] at h1
  subst h1
  obtain ⟨h3, _⟩ := mapM_get h2
  have := cutB_ne 32 xs[i + 1]
  simp [nats] at h3
  exact this (List.eq_nil_of_length_eq_zero h3.symm)

theorem turn_all {ls : List (List Nat)} {D : Nat} (hT : TurnOk ls D) {d : Nat} (hd : d < D) : d ∈ ls.flatten := by
  rw [← links_fst]
  by_cases hm : d ∈ (linksL ls).map Prod.fst
  · exact hm
  · exfalso
    have := nodup_le D (d :: (linksL ls).map Prod.fst) (List.nodup_cons.2 ⟨hm, hT.2.1⟩) (fun x hx => by
      rcases List.mem_cons.1 hx with rfl | hx
      · exact hd
      · obtain ⟨p, hp, rfl⟩ := List.mem_map.1 hx
        exact hT.2.2 p hp)
    rw [List.length_cons, List.length_map, hT.1] at this
    omega

theorem lines_count {s : List Nat} {ls : List (List Nat)} (hP : IsP s.length (sg s)) (hne : ∀ l ∈ ls, l ≠ []) (hT : TurnOk ls s.length) (hS : ∀ p ∈ linksL ls, sg s p.1 = p.2) : ls.length = ldr (sg s) s.length := by
  have hlt : ∀ l ∈ ls, ∀ x ∈ l, x < s.length := fun l hl x hx => by
    have : x ∈ (linksL ls).map Prod.fst := by rw [links_fst]; exact List.mem_flatten.2 ⟨l, hl, hx⟩
    obtain ⟨p, hp, rfl⟩ := List.mem_map.1 this
    exact hT.2.2 p hp
  have hhead : ∀ q : List Nat, q ≠ [] → q.getD 0 0 ∈ q := fun q hq => by
    cases q with
    | nil => exact absurd rfl hq
    | cons a q => simp
  have hn := reps_nodup hP ls hne (by rw [← links_fst]; exact hT.2.1) (fun l hl x hx => ⟨hlt l hl x hx, fun k => line_closed hS hl k hx⟩)
  have hf : (firsts (sg s) s.length).Nodup := by unfold firsts; exact List.Nodup.sublist List.filter_sublist List.nodup_range
  have := nodup_eq_len hn hf (fun x => by
    rw [mem_firsts]
    constructor
    · intro hx
      obtain ⟨l, hl, rfl⟩ := List.mem_map.1 hx
      have h1 := hlt l hl _ (hhead l (hne l hl))
      exact ⟨hP.rep_lt h1, hP.rep_rep h1⟩
    · rintro ⟨hx, hr⟩
      obtain ⟨l, hl, hxl⟩ := List.mem_flatten.1 (turn_all hT hx)
      refine List.mem_map.2 ⟨l, hl, ?_⟩
      obtain ⟨i, hi⟩ := List.mem_iff_getElem?.1 hxl
      have hil := (List.getElem?_eq_some_iff.1 hi).1
      have h1 := line_itr hS hl i hil
      rw [List.getD_eq_getElem?_getD, hi] at h1
      have h2 := hlt l hl _ (hhead l (hne l hl))
      have := (hP.rep_iff h2 hx).2 ⟨i, h1.symm⟩
      rw [this, hr])
  rw [List.length_map, firsts_len] at this
  exact this

theorem GoodK.count {t : List UInt8} {s : List Nat} {rt : Int} {ln k : Nat} (h : GoodK t s rt ln k) : k = ldr (sg s) s.length + 1 := by
  obtain ⟨_, a, ls, hR, hk, hT, hS, hl, hP, _⟩ := h
  rw [← hl] at hT
  have := lines_count hP (read_ne hR) hT hS
  omega

end Go.Proofs.YtblkkcpeodoclaaGreatDoor
