import Derived.Lib.BitFns
import Derived.Test.YtcfdpogegngplaaGreatZlRight
namespace Go.Proofs.YtcfdpogegngplaaGreat
theorem bitLenAux_le:∀ (f x:Nat),Lib.bitLenAux f x≤f:=by
 intro f
 induction f with
 | zero=>intro x;exact Nat.le_refl _
 | succ f ih =>
  intro x
  unfold Lib.bitLenAux
  split
  ·omega
  ·have:=ih (x / 2);omega
def widN (n:Nat):Nat:=if n < 2 then 0 else Lib.bitLen (n - 1)
theorem widN_le (n:Nat):widN n≤64:=by
 unfold widN
 split
 ·omega
 ·exact bitLenAux_le 64 _
def lab1 (n x:Nat):List Bool:=numB (x / 2) (widN n) ++ [x % 2 == 1]
theorem lab1_length (n x:Nat):(lab1 n x).length=widN n+1:=by simp [lab1,numB_length]
def labB (n:Nat) (f:Nat→Nat) (m:Nat):List Bool:=(List.range m).flatMap fun e=>lab1 n (f e)
theorem labB_succ (n:Nat) (f:Nat→Nat) (m:Nat):labB n f (m+1)=labB n f m ++ lab1 n (f m):=by simp [labB,List.range_succ]
theorem labB_length (n:Nat) (f:Nat→Nat) (m:Nat):(labB n f m).length=m * (widN n+1):=by
 induction m with
 | zero=>simp [labB]
 | succ m ih=>rw [labB_succ,List.length_append,ih,lab1_length,Nat.succ_mul]
end Go.Proofs.YtcfdpogegngplaaGreat
