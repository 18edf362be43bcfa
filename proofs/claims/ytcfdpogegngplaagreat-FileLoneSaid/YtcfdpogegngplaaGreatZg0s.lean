import Derived.Lib.BitFns
import Derived.Test.YtcfdpogegngplaaGreatZg0i
set_option maxRecDepth 100000
set_option maxHeartbeats 4000000
namespace Go.Proofs.YtcfdpogegngplaaGreat
theorem qdd:∀ (f x:Nat),x<2 ^ f→x<2 ^ Lib.bitLenAux f x:=by
 intro f
 induction f with
 | zero=>intro x h;exact h
 | succ f ih =>
  intro x h
  unfold Lib.bitLenAux
  split
  ·next h0=>rw[h0];exact Nat.two_pow_pos _
  ·have h1:=ih (x / 2) (by rw[Nat.pow_succ] at h;omega)
   rw[Nat.add_comm,Nat.pow_succ]
   omega
theorem qde:∀ (f x:Nat),Lib.bitLenAux f x≤f:=by
 intro f
 induction f with
 | zero=>intro x;exact Nat.le_refl _
 | succ f ih =>
  intro x
  unfold Lib.bitLenAux
  split
  ·omega
  ·have:=ih (x / 2);omega
def dN(n:Nat):Nat:=if n<2 then 0 else Lib.bitLen (n - 1)
theorem Kv(n:Nat):dN n≤64:=by
 unfold dN
 split
 ·omega
 ·exact qde 64 _
theorem qo5{e n:Nat}(h:e<n)(hn:n≤18446744073709551616):e<2 ^ dN n:=by
 unfold dN
 split
 ·have:e=0:=by omega
  subst this
  exact Nat.two_pow_pos _
 ·exact Nat.lt_of_le_of_lt (by omega) (qdd 64 (n - 1) (by omega))
def vZ(l:List Bool)(u:Nat):Nat→Nat
 | 0=>0
 | k+1=>vZ l u k+(l.getD (u+k) false).toNat * 2 ^ k
theorem qp3(l:List Bool)(u:Nat):∀ k,vZ l u k<2 ^ k:=by
 intro k
 induction k with
 | zero=>exact Nat.one_pos
 | succ k ih =>
  unfold vZ
  have:(l.getD (u+k) false).toNat≤1:=by cases l.getD (u+k) false <;> simp
  have h2:(l.getD (u+k) false).toNat * 2 ^ k≤1 * 2 ^ k:=Nat.mul_le_mul_right _ this
  rw[Nat.pow_succ]
  omega
theorem qmc(l:List Bool)(u x w:Nat)(h:∀ i,i<w→l.getD (u+i) false=(x / 2 ^ i % 2 == 1)):∀ k,k≤w→vZ l u k=x % 2 ^ k:=by
 intro k
 induction k with
 | zero=>intro _;simp[vZ,Nat.mod_one]
 | succ k ih =>
  intro hk
  unfold vZ
  rw[ih (by omega),h k (by omega),Nat.mod_pow_succ]
  have:x / 2 ^ k % 2<2:=Nat.mod_lt _ (by decide)
  rcases Nat.lt_or_ge (x / 2 ^ k % 2) 1 with h0|h0
  ·rw[show x / 2 ^ k % 2=0 by omega];simp
  ·rw[show x / 2 ^ k % 2=1 by omega];simp
def pK(n x:Nat):List Bool:=jN (x / 2) (dN n) ++ [x % 2 == 1]
theorem qf6(n x:Nat):(pK n x).length=dN n+1:=by simp[pK,Iu]
def iY(n:Nat)(f:Nat→Nat)(m:Nat):List Bool:=(List.range m).flatMap fun e=>pK n (f e)
theorem Xd(n:Nat)(f:Nat→Nat)(m:Nat):iY n f (m+1)=iY n f m ++ pK n (f m):=by simp[iY,List.range_succ]
theorem BG(n:Nat)(f:Nat→Nat)(m:Nat):(iY n f m).length=m * (dN n+1):=by
 induction m with
 | zero=>simp[iY]
 | succ m ih=>rw[Xd,List.length_append,ih,qf6,Nat.succ_mul]
theorem qgf(n:Nat)(f:Nat→Nat):∀ (m e i:Nat),e<m→i<dN n+1→(iY n f m).getD (e * (dN n+1)+i) false=(pK n (f e)).getD i false:=by
 intro m
 induction m with
 | zero=>intro e i h;omega
 | succ m ih =>
  intro e i he hi
  rw[Xd]
  rcases Nat.lt_or_ge e m with h|h
  ·have hlt:e * (dN n+1)+i<(iY n f m).length:=by
    rw[BG]
    calc e * (dN n+1)+i<e * (dN n+1)+(dN n+1):=by omega
     _=(e+1) * (dN n+1):=by rw[Nat.succ_mul]
     _≤m * (dN n+1):=Nat.mul_le_mul_right _ h
   rw[List.getD_eq_getElem?_getD,List.getElem?_append_left hlt,← List.getD_eq_getElem?_getD]
   exact ih e i h hi
  ·obtain rfl:e=m:=by omega
   rw[List.getD_eq_getElem?_getD,List.getElem?_append_right (by rw[BG];omega),BG,Nat.add_sub_cancel_left,← List.getD_eq_getElem?_getD]
theorem qmd{n x i:Nat}(h:i<dN n):(pK n x).getD i false=(x / 2 / 2 ^ i % 2 == 1):=by
 unfold pK
 rw[List.getD_eq_getElem?_getD,List.getElem?_append_left (by rw[Iu];exact h)]
 unfold jN
 rw[List.getElem?_map,List.getElem?_range h]
 rfl
theorem qk7(n x:Nat):(pK n x).getD (dN n) false=(x % 2 == 1):=by
 unfold pK
 rw[List.getD_eq_getElem?_getD,List.getElem?_append_right (by rw[Iu];exact Nat.le_refl _),Iu,Nat.sub_self]
 rfl
theorem qk8(n:Nat)(f:Nat→Nat)(m e:Nat)(he:e<m)(hf:f e / 2<n)(hn:n≤18446744073709551616):vZ (iY n f m) (e * (dN n+1)) (dN n)=f e / 2∧vZ (iY n f m) (e * (dN n+1)+dN n) 1=f e % 2:=by
 constructor
 ·rw[qmc _ _ (f e / 2) (dN n) (fun i hi=>by rw[qgf n f m e i he (by omega),qmd hi]) _ (Nat.le_refl _)]
  exact Nat.mod_eq_of_lt (qo5 hf hn)
 ·have h:=qgf n f m e (dN n) he (by omega)
  show 0+((iY n f m).getD (e * (dN n+1)+dN n+0) false).toNat * 2 ^ 0=_
  rw[Nat.add_zero,h,qk7]
  have:f e % 2<2:=Nat.mod_lt _ (by decide)
  rcases Nat.lt_or_ge (f e % 2) 1 with h0|h0
  ·rw[show f e % 2=0 by omega];rfl
  ·rw[show f e % 2=1 by omega];rfl
