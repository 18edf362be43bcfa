/- Slices of bytes of the call's own. -/
import Derived.ArgAppend
import Derived.Test.YtblkkcpeodoclaaGreatDoorPcBase
namespace Go.Proofs.YtblkkcpeodoclaaGreatDoor
open Go.RowKit

theorem infoY : (Tryz.prog.info? 5).map (fun i => (i.zero, i.size, i.bytes)) = some (some (.int .u8 0), 1, 1) := by kernel_rfl

def ys (bs : List Nat) : List Value := (nats bs).map fun z => Value.int .u8 z
theorem ys_length (bs : List Nat) : (ys bs).length = bs.length := by simp [ys, nats]
theorem ys_app (a c : List Nat) : ys (a ++ c) = ys a ++ ys c := by simp [ys, nats]

/-- A slice of bytes that owns its cells, in blocks from B on. -/
def OwnY (B : Nat) (w : World) (v : Value) (bs : List Nat) : Prop := w.ownsRow B 5 1 v bs.length (ys bs)

theorem OwnY.nil (B : Nat) (w : World) : OwnY B w (.slice none 0 0) [] := World.ownsRow_nil _ _ _ _
theorem OwnY.sl {B : Nat} {w : World} {v : Value} {bs : List Nat} (h : OwnY B w v bs) : Sl .u8 w v (nats bs) := Sl.of_owns h
theorem OwnY.form {B : Nat} {w : World} {v : Value} {bs : List Nat} (h : OwnY B w v bs) : ∃ a cap, v = .slice a bs.length cap ∧ bs.length ≤ cap ∧ cap ≤ 9223372036854775807 := by
  obtain ⟨a, cap, hv, h1, h2, _, _⟩ := h.sl
  rw [show (nats bs).length = bs.length by simp [nats]] at hv h1
  exact ⟨a, cap, hv, h1, h2⟩
/-- The cells of a slice that reads as bytes. -/
theorem Sl.cellsY {w : World} {ad : Addr} {n cap : Nat} {bs : List Nat} (h : Sl .u8 w (.slice (some ad) n cap) (nats bs)) : n = bs.length ∧ ∀ j u, (ys bs)[j]? = some u → w.cell? (ad.add j) = some u := by
  obtain ⟨a', cap', hv, _, _, _, hc⟩ := h
  simp only [Value.slice.injEq] at hv
  obtain ⟨rfl, rfl, rfl⟩ := hv
  refine ⟨by simp [nats], fun j u hj => ?_⟩
  simp only [ys, List.getElem?_map, Option.map_eq_some_iff] at hj
  obtain ⟨z, hz, rfl⟩ := hj
  obtain ⟨g', off', hg, hcell⟩ := hc j z hz
  simp only [Option.some.injEq] at hg
  subst hg
  have hadd : (⟨g', off', none⟩ : Addr).add j = ⟨g', off' + j, none⟩ := by
    unfold Addr.add
    split <;> simp_all
  rw [hadd]
  exact hcell

theorem Sl.noneY {w : World} {n cap : Nat} {bs : List Nat} (h : Sl .u8 w (.slice none n cap) (nats bs)) : bs = [] ∧ n = 0 ∧ cap = 0 := by
  obtain ⟨a', cap', hv, _, _, hn, hc⟩ := h
  simp only [Value.slice.injEq] at hv
  obtain ⟨rfl, rfl, rfl⟩ := hv
  have hb : bs = [] := by
    cases bs with
    | nil => rfl
    | cons y bs => obtain ⟨g, off, h, _⟩ := hc 0 (y : Int) rfl; cases h
  subst hb
  exact ⟨rfl, rfl, hn rfl⟩

theorem ys_one (bs : List Nat) : ∀ u ∈ ys bs, u.oneCell' = true := by
  intro u hu
  simp only [ys, List.mem_map] at hu
  obtain ⟨z, _, rfl⟩ := hu
  rfl

/-- 'append(l, c...)', l of the call's own, c any slice of bytes. -/
theorem appendY {ops : Array Oper} {rest : List Oper} {o : Oper} {a : Act} {Q : Exit → Act → World → Prop} {wr : World} (hgd : o.guard = none) (s x : Operand)
    (ho : o.op = .call { callee := .builtin .append, args := #[s, x], argTypes := #[22, 22] }) (B : Nat) (v sv : Value) (bs cs : List Nat) (hs : a.eval s = v) (hx : a.eval x = sv)
    (hown : OwnY B wr v bs) (hsl : Sl .u8 wr sv (nats cs)) (hlen : bs.length + cs.length ≤ 10000000000) (hB : B ≤ wr.heap.size)
    (h : ∀ v' w', OwnY B w' v' (bs ++ cs) → Keeps (fun k => v.ownBlock = some k) wr w' → (v'.ownBlock = v.ownBlock ∨ ∃ k, v'.ownBlock = some k ∧ wr.heap.size ≤ k) → wpList Tryz.prog ops Q rest (a.put o.dst v') w') :
    wpList Tryz.prog ops Q (o :: rest) a wr := by
  obtain ⟨i, hi, hz0, hz1, hz2⟩ := info_parts infoY
  obtain ⟨ad, cap, rfl, _⟩ := id hsl
  cases ad with
  | none =>
    obtain ⟨rfl, hn0, hc0⟩ := hsl.noneY
    rw [hc0] at hx
    refine wpList_append_own_none hgd s x _ ho B 5 i 1 Tryz.underlying22 hi v bs.length _ hs hown hx ?_
    exact h v wr (by simpa using hown) (Keeps.refl _ _) (.inl rfl)
  | some ad =>
    obtain ⟨hm, hcell⟩ := hsl.cellsY
    refine wpList_append_own_at _ hgd s x _ ho B 5 i (.int .u8 0) 1 1 Tryz.underlying22 hi hz0 hz1 hz2 rfl (by decide) v bs.length _ hs hown ad cs.length cap (ys cs) (by rw [hx, hm]) (by simp [ys_length]) hcell (ys_one cs) ?_ ?_ hB ?_
    · unfold maxLen; omega
    · omega
    · intro v' w' hown' hgrow _ hat
      refine h v' w' ?_ ((Keeps.refl _ wr).grown hgrow (fun k hk => .inl hk)) (hat.imp id (fun h => ⟨_, h, Nat.le_refl _⟩))
      unfold OwnY
      rw [List.length_append, ys_app]
      exact hown'

end Go.Proofs.YtblkkcpeodoclaaGreatDoor
