import Derived.Lib.BitFns
import Derived.Test.YtcfdpogegngplaaGreatZaRight
set_option maxRecDepth 100000
set_option maxHeartbeats 4000000
namespace Go.Proofs.YtcfdpogegngplaaGreat
theorem qcg:∀ (f x:Nat),x<2 ^ f→x<2 ^ Lib.bitLenAux f x:=by
 intro f
 induction f with
 | zero=>intro x h;exact h
 | succ f ih =>
  intro x h
  unfold Lib.bitLenAux
  split
  ·next h0=>rw[h0];exact Nat.two_pow_pos _
  ·have h1:=ih (x / 2) (by rw[Nat.pow_succ] at h;omega)
   rw[Nat.add_comm,Nat.pow_succ]
   omega
theorem qch:∀ (f x:Nat),Lib.bitLenAux f x≤f:=by
 intro f
 induction f with
 | zero=>intro x;exact Nat.le_refl _
 | succ f ih =>
  intro x
  unfold Lib.bitLenAux
  split
  ·omega
  ·have:=ih (x / 2);omega
def widN (n:Nat):Nat:=if n<2 then 0 else Lib.bitLen (n - 1)
theorem q6o (n:Nat):widN n≤64:=by
 unfold widN
 split
 ·omega
 ·exact qch 64 _
theorem qn7 {e n:Nat} (h:e<n) (hn:n≤18446744073709551616):e<2 ^ widN n:=by
 unfold widN
 split
 ·have:e=0:=by omega
  subst this
  exact Nat.two_pow_pos _
 ·exact Nat.lt_of_le_of_lt (by omega) (qcg 64 (n - 1) (by omega))
def rdN (l:List Bool) (u:Nat):Nat→Nat
 | 0=>0
 | k+1=>rdN l u k+(l.getD (u+k) false).toNat * 2 ^ k
theorem qo4 (l:List Bool) (u:Nat):∀ k,rdN l u k<2 ^ k:=by
 intro k
 induction k with
 | zero=>exact Nat.one_pos
 | succ k ih =>
  unfold rdN
  have:(l.getD (u+k) false).toNat≤1:=by cases l.getD (u+k) false <;> simp
  have h2:(l.getD (u+k) false).toNat * 2 ^ k≤1 * 2 ^ k:=Nat.mul_le_mul_right _ this
  rw[Nat.pow_succ]
  omega
theorem qli (l:List Bool) (u x w:Nat) (h:∀ i,i<w→l.getD (u+i) false=(x / 2 ^ i % 2 == 1)):∀ k,k≤w→rdN l u k=x % 2 ^ k:=by
 intro k
 induction k with
 | zero=>intro _;simp[rdN,Nat.mod_one]
 | succ k ih =>
  intro hk
  unfold rdN
  rw[ih (by omega),h k (by omega),Nat.mod_pow_succ]
  have:x / 2 ^ k % 2<2:=Nat.mod_lt _ (by decide)
  rcases Nat.lt_or_ge (x / 2 ^ k % 2) 1 with h0|h0
  ·rw[show x / 2 ^ k % 2=0 by omega];simp
  ·rw[show x / 2 ^ k % 2=1 by omega];simp
def lab1 (n x:Nat):List Bool:=numB (x / 2) (widN n) ++ [x % 2 == 1]
theorem qec (n x:Nat):(lab1 n x).length=widN n+1:=by simp[lab1,q1p]
def labB (n:Nat) (f:Nat→Nat) (m:Nat):List Bool:=(List.range m).flatMap fun e=>lab1 n (f e)
theorem q8q (n:Nat) (f:Nat→Nat) (m:Nat):labB n f (m+1)=labB n f m ++ lab1 n (f m):=by simp[labB,List.range_succ]
theorem q13 (n:Nat) (f:Nat→Nat) (m:Nat):(labB n f m).length=m * (widN n+1):=by
 induction m with
 | zero=>simp[labB]
 | succ m ih=>rw[q8q,List.length_append,ih,qec,Nat.succ_mul]
theorem qfu (n:Nat) (f:Nat→Nat):∀ (m e i:Nat),e<m→i<widN n+1→(labB n f m).getD (e * (widN n+1)+i) false=(lab1 n (f e)).getD i false:=by
 intro m
 induction m with
 | zero=>intro e i h;omega
 | succ m ih =>
  intro e i he hi
  rw[q8q]
  rcases Nat.lt_or_ge e m with h|h
  ·have hlt:e * (widN n+1)+i<(labB n f m).length:=by
    rw[q13]
    calc e * (widN n+1)+i<e * (widN n+1)+(widN n+1):=by omega
     _=(e+1) * (widN n+1):=by rw[Nat.succ_mul]
     _≤m * (widN n+1):=Nat.mul_le_mul_right _ h
   rw[List.getD_eq_getElem?_getD,List.getElem?_append_left hlt,← List.getD_eq_getElem?_getD]
   exact ih e i h hi
  ·obtain rfl:e=m:=by omega
   rw[List.getD_eq_getElem?_getD,List.getElem?_append_right (by rw[q13];omega),q13,Nat.add_sub_cancel_left,← List.getD_eq_getElem?_getD]
theorem qlj {n x i:Nat} (h:i<widN n):(lab1 n x).getD i false=(x / 2 / 2 ^ i % 2 == 1):=by
 unfold lab1
 rw[List.getD_eq_getElem?_getD,List.getElem?_append_left (by rw[q1p];exact h)]
 unfold numB
 rw[List.getElem?_map,List.getElem?_range h]
 rfl
theorem qj0 (n x:Nat):(lab1 n x).getD (widN n) false=(x % 2 == 1):=by
 unfold lab1
 rw[List.getD_eq_getElem?_getD,List.getElem?_append_right (by rw[q1p];exact Nat.le_refl _),q1p,Nat.sub_self]
 rfl
theorem qj1 (n:Nat) (f:Nat→Nat) (m e:Nat) (he:e<m) (hf:f e / 2<n) (hn:n≤18446744073709551616):rdN (labB n f m) (e * (widN n+1)) (widN n)=f e / 2∧rdN (labB n f m) (e * (widN n+1)+widN n) 1=f e % 2:=by
 constructor
 ·rw[qli _ _ (f e / 2) (widN n) (fun i hi=>by rw[qfu n f m e i he (by omega),qlj hi]) _ (Nat.le_refl _)]
  exact Nat.mod_eq_of_lt (qn7 hf hn)
 ·have h:=qfu n f m e (widN n) he (by omega)
  show 0+((labB n f m).getD (e * (widN n+1)+widN n+0) false).toNat * 2 ^ 0=_
  rw[Nat.add_zero,h,qj0]
  have:f e % 2<2:=Nat.mod_lt _ (by decide)
  rcases Nat.lt_or_ge (f e % 2) 1 with h0|h0
  ·rw[show f e % 2=0 by omega];rfl
  ·rw[show f e % 2=1 by omega];rfl
end Go.Proofs.YtcfdpogegngplaaGreat
