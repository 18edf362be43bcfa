import Derived.Test.YtcfdpogegngplaaGreatZlRelab
import Derived.Test.YtcfdpogegngplaaGreatZlDecPl
namespace Go.Proofs.YtcfdpogegngplaaGreat
open Go.RowKit
def CS (w w3:World) (n:Nat) (D:Nat→Nat) (ks:List Nat) (g j:Nat) (wr:World):Prop :=
 ∃ zs,zs.length=n∧CJ n D ks j zs∧OwnI w.heap.size wr (.slice (some ⟨g,0,none⟩) n n) zs∧Keeps (fun k=>k=g) w3 wr
theorem CS.still {w w3 wr w':World} {n:Nat} {D:Nat→Nat} {ks:List Nat} {g j:Nat} (h:CS w w3 n D ks g j wr) (k:Keeps (fun _=>False) wr w'):CS w w3 n D ks g j w':=by
 obtain ⟨zs,h1,h2,h3,h4⟩:=h
 exact ⟨zs,h1,h2,h3.keeps k (fun _ _ h=>h),h4.trans k (fun _ _ h=>h.elim)⟩
theorem CS.cell {w w3 wr:World} {n:Nat} {D:Nat→Nat} {ks:List Nat} {g j i:Nat} (h:CS w w3 n D ks g j wr) (hi:i < n):wr.cell? ⟨g,D i,none⟩=some (.int .i64 (if i < j∨mp ks i < j then (nmD ks i:Int) else -1))∧wr.frozen? ⟨g,D i,none⟩=false:=by
 obtain ⟨zs,h1,h2,h3,h4⟩:=h
 exact h3.cell (h2 i hi)
theorem CS.other {w w3 wr:World} {n:Nat} {D:Nat→Nat} {ks:List Nat} {g j i d:Nat} (h:CS w w3 n D ks g j wr) (hi:i < n) (hd:d≠D i) (v:Int) {W:World} (hk:Keeps (fun _=>False) (wr.setCell ⟨g,d,none⟩ (.int .i64 v)) W) :
  W.cell? ⟨g,D i,none⟩=some (.int .i64 (if i < j∨mp ks i < j then (nmD ks i:Int) else -1))∧W.frozen? ⟨g,D i,none⟩=false:=by
 obtain ⟨zs,h1,h2,h3,h4⟩:=h
 exact ((h3.set d v).keeps hk (fun _ _ h=>h)).cell (by rw [List.getElem?_set,if_neg hd];exact h2 i hi)
theorem CS.keep {w w3 wr:World} {n:Nat} {D:Nat→Nat} {ks:List Nat} {g j:Nat} (k:CnA n D ks) (h:CS w w3 n D ks g j wr) (hj:j < n) (hm:mp ks j < j):CS w w3 n D ks g (j+1) wr:=by
 obtain ⟨zs,h1,h2,h3,h4⟩:=h
 exact ⟨zs,h1,k.keepJ hj hm h2,h3,h4⟩
theorem CS.step {w w3 wr:World} {n:Nat} {D:Nat→Nat} {ks:List Nat} {g j:Nat} (k:CnA n D ks) (h:CS w w3 n D ks g j wr) (hj:j < n) (hm:j < mp ks j) :
  CS w w3 n D ks g (j+1) ((wr.setCell ⟨g,D j,none⟩ (.int .i64 (nmD ks j:Int))).setCell ⟨g,mt (D j),none⟩ (.int .i64 ((nmD ks j:Int)+1))):=by
 obtain ⟨zs,h1,h2,h3,h4⟩:=h
 exact ⟨_,by simpa using h1,k.stepJ hj h1 hm h2,(h3.set _ _).set _ _,(h4.setCell (p:=⟨g,D j,none⟩) (.inl rfl) _).setCell (p:=⟨g,mt (D j),none⟩) (.inl rfl) _⟩
end Go.Proofs.YtcfdpogegngplaaGreat
namespace Go.Proofs.YtcfdpogegngplaaGreat
open Go.RowKit
theorem IsP.none {S:Nat→Nat}:IsP 0 S:=⟨fun d hd=>by omega,fun d e hd=>by omega⟩
end Go.Proofs.YtcfdpogegngplaaGreat
