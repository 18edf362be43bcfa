import Derived.Test.YtcfdpogegngplaaGreatZg02
set_option maxRecDepth 100000
set_option maxHeartbeats 4000000
namespace Go.Proofs.YtcfdpogegngplaaGreat
section
def bg(S:Nat→Nat):Nat→Nat→Nat
 | 0,d=>d
 | k+1,d=>S (bg S k d)
theorem AY(S:Nat→Nat)(a b d:Nat):bg S (a+b) d=bg S a (bg S b d):=by
 induction a with
 | zero=>simp[bg]
 | succ a ih=>rw[Nat.succ_add];simp only [bg,ih]
theorem qim(S:Nat→Nat)(k d:Nat):bg S (k+1) d=bg S k (S d):=AY S k 1 d
structure aM (n:Nat)(S:Nat→Nat):Prop where
 lt:∀ d,d<n→S d<n
 inj:∀ d e,d<n→e<n→S d=S e→d=e
theorem Zn(n:Nat):∀ l:List Nat,l.Nodup→l.length≤(l.filter (fun x=>x != n)).length+1
 | [],_=>by simp
 | x :: l,h=>by
  rw[List.nodup_cons] at h
  by_cases hx:x=n
  ·subst hx
   have:l.filter (fun y=>y != x)=l:=List.filter_eq_self.2 (fun y hy=>by
    rw[bne_iff_ne];rintro rfl;exact h.1 hy)
   rw[List.filter_cons,if_neg (by simp),this]
   simp
  ·have:=Zn n l h.2
   rw[List.filter_cons,if_pos (by simpa using hx)]
   simp only [List.length_cons]
   omega
theorem QA:∀ (n:Nat) (l:List Nat),l.Nodup→(∀ x ∈ l,x<n)→l.length≤n
 | 0,l,_,h=>by
  cases l with
  | nil=>simp
  | cons x l=>exact absurd (h x (by simp)) (by omega)
 | n+1,l,hd,h=>by
  have h1:=QA n (l.filter (fun x=>x != n)) (hd.filter _) (fun x hx=>by
   obtain⟨h1,h2⟩:=List.mem_filter.1 hx
   have:=h x h1
   have h3:x≠n:=by simpa using h2
   omega)
  have h2:=Zn n l hd
  omega
theorem uj:∀ (l m:List Nat),l.Nodup→(∀ x ∈ l,x ∈ m)→l.length≤m.length
 | [],m,_,_=>by simp
 | x :: l,m,hd,h=>by
  rw[List.nodup_cons] at hd
  have hx:=h x (by simp)
  have h1:=uj l (m.erase x) hd.2 (fun y hy=>(List.mem_erase_of_ne (by rintro rfl;exact hd.1 hy)).2 (h y (by simp[hy])))
  rw[List.length_erase_of_mem hx] at h1
  have:0<m.length:=List.length_pos_of_mem hx
  simp only [List.length_cons]
  omega
theorem Ur{l m:List Nat}(hl:l.Nodup)(hm:m.Nodup)(h:∀ x,x ∈ l↔x ∈ m):l.length=m.length :=
 Nat.le_antisymm (uj l m hl (fun x hx=>(h x).1 hx)) (uj m l hm (fun x hx=>(h x).2 hx))
section
variable {n:Nat} {S:Nat→Nat} (h:aM n S)
include h
theorem aM.bV{d:Nat}(hd:d<n)(k:Nat):bg S k d<n:=by
 induction k with
 | zero=>exact hd
 | succ k ih=>exact h.lt _ ih
theorem aM.qE{d e:Nat}(hd:d<n)(he:e<n)(k:Nat)(hk:bg S k d=bg S k e):d=e:=by
 induction k with
 | zero=>exact hk
 | succ k ih=>exact ih (h.inj _ _ (h.bV hd k) (h.bV he k) hk)
theorem aM.ret{d:Nat}(hd:d<n):∃ p,0<p∧p≤n∧bg S p d=d:=by
 apply Classical.byContradiction
 intro hno
 have hne:∀ i j,i<j→j≤n→bg S i d≠bg S j d:=by
  intro i j hij hj he
  refine hno ⟨j - i,by omega,by omega,?_⟩
  have e1:bg S j d=bg S i (bg S (j - i) d):=by rw[← AY];congr 1;omega
  rw[e1] at he
  exact (h.qE hd (h.bV hd _) i he).symm
 have hnd:((List.range (n+1)).map fun i=>bg S i d).Nodup:=by
  rw[List.Nodup,List.pairwise_iff_getElem]
  intro i j hi hj hij
  simp only [List.length_map,List.length_range] at hi hj
  simp only [List.getElem_map,List.getElem_range]
  exact hne i j hij (by omega)
 have:=QA n _ hnd (fun x hx=>by
  obtain⟨i,_,rfl⟩:=List.mem_map.1 hx
  exact h.bV hd i)
 simp at this
 omega
end
noncomputable def per(S:Nat→Nat)(d:Nat):Nat :=
 open Classical in if h:∃ p,0<p∧bg S p d=d∧∀ i,0<i→i<p→bg S i d≠d then h.choose else 0
section
variable {n:Nat} {S:Nat→Nat} (h:aM n S)
include h
theorem aM.aZ{d:Nat}(hd:d<n):0<per S d∧per S d≤n∧bg S (per S d) d=d∧∀ i,0<i→i<per S d→bg S i d≠d:=by
 obtain⟨p,hp0,hpn,hp⟩:=h.ret hd
 have hex:∃ p,0<p∧bg S p d=d∧∀ i,0<i→i<p→bg S i d≠d:=by
  obtain⟨q,h1,h2,h3,h4⟩:=KZ (fun i=>bg S i d=d) 1 (p - 1) (by rw[show 1+(p - 1)=p by omega];exact hp)
  exact⟨q,h1,h3,fun i hi hq=>h4 i hi hq⟩
 have Gq:per S d=hex.choose:=by unfold per;rw[dif_pos hex]
 obtain⟨h1,h2,h3⟩:=hex.choose_spec
 rw[← Gq] at h1 h2 h3
 refine⟨h1,?_,h2,h3⟩
 rcases Nat.lt_or_ge p (per S d) with hlt|hge
 ·exact absurd hp (h3 p hp0 hlt)
 ·omega
theorem aM.u6{d:Nat}(hd:d<n)(q:Nat):bg S (per S d * q) d=d:=by
 induction q with
 | zero=>rfl
 | succ q ih=>rw[Nat.mul_succ,Nat.add_comm,AY,ih,(h.aZ hd).2.2.1]
theorem aM.BU{d:Nat}(hd:d<n)(k:Nat):bg S k d=bg S (k % per S d) d:=by
 conv=>lhs;rw[← Nat.mod_add_div k (per S d),AY,h.u6 hd]
theorem aM.lH{d:Nat}(hd:d<n){i j:Nat}(hi:i<per S d)(hj:j<per S d)(he:bg S i d=bg S j d):i=j:=by
 rcases Nat.lt_trichotomy i j with hlt|rfl|hlt
 ·have e1:bg S j d=bg S i (bg S (j - i) d):=by rw[← AY];congr 1;omega
  rw[e1] at he
  exact absurd (h.qE hd (h.bV hd _) i he).symm ((h.aZ hd).2.2.2 _ (by omega) (by omega))
 ·rfl
 ·have e1:bg S i d=bg S j (bg S (i - j) d):=by rw[← AY];congr 1;omega
  rw[e1] at he
  exact absurd (h.qE (h.bV hd _) hd j he) ((h.aZ hd).2.2.2 _ (by omega) (by omega))
end
def aH(S:Nat→Nat)(d e:Nat):Prop:=∃ k,bg S k d=e
theorem aH.refl(S:Nat→Nat)(d:Nat):aH S d d:=⟨0,rfl⟩
theorem aH.trans{S:Nat→Nat}{d e f:Nat}(h:aH S d e)(k:aH S e f):aH S d f:=by
 obtain⟨i,rfl⟩:=h
 obtain⟨j,rfl⟩:=k
 exact⟨j+i,AY S j i d⟩
theorem aH.step(S:Nat→Nat)(d:Nat):aH S d (S d):=⟨1,rfl⟩
section
variable {n:Nat} {S:Nat→Nat} (h:aM n S)
include h
theorem aM.bF{d e:Nat}(hd:d<n)(hs:aH S d e):aH S e d:=by
 obtain⟨k,rfl⟩:=hs
 have h0:=(h.aZ hd).1
 refine⟨per S d * (k+1) - k,?_⟩
 rw[← AY]
 have:k≤per S d * (k+1):=Nat.le_trans (by omega) (Nat.le_mul_of_pos_left (k+1) h0)
 rw[Nat.sub_add_cancel this,h.u6 hd]
theorem aM.nT{d e:Nat}(hd:d<n)(hs:aH S d e):e<n:=by
 obtain⟨k,rfl⟩:=hs
 exact h.bV hd k
theorem aM.jW{d e:Nat}(hd:d<n)(hs:aH S d e):∃ i,i<per S d∧bg S i d=e:=by
 obtain⟨k,rfl⟩:=hs
 exact⟨k % per S d,Nat.mod_lt _ (h.aZ hd).1,(h.BU hd k).symm⟩
theorem aM.back{d:Nat}(hd:d<n):∃ e,e<n∧S e=d:=by
 obtain⟨h0,_,h1,_⟩:=h.aZ hd
 refine⟨bg S (per S d - 1) d,h.bV hd _,?_⟩
 have:bg S (per S d - 1+1) d=d:=by rw[Nat.sub_add_cancel h0];exact h1
 exact this
theorem aM.yY{d e:Nat}(hd:d<n)(hs:aH S d e):per S e=per S d:=by
 have he:=h.nT hd hs
 have hs':=h.bF hd hs
 have key:∀ {x y:Nat},x<n→aH S x y→y<n→per S y≤per S x:=by
  intro x y hx hxy hy
  obtain⟨k,rfl⟩:=hxy
  have h1:bg S (per S x) (bg S k x)=bg S k x:=by rw[← AY,Nat.add_comm,AY,(h.aZ hx).2.2.1]
  rcases Nat.lt_or_ge (per S x) (per S (bg S k x)) with hlt|hge
  ·exact absurd h1 ((h.aZ hy).2.2.2 _ (h.aZ hx).1 hlt)
  ·exact hge
 exact Nat.le_antisymm (key hd hs he) (key he hs' hd)
end
noncomputable def lu(S:Nat→Nat)(d:Nat):List Nat:=(List.range (per S d)).map fun i=>bg S i d
theorem Us(S:Nat→Nat)(d:Nat):(lu S d).length=per S d:=by simp[lu]
theorem Zo{S:Nat→Nat}{d i:Nat}(hi:i<per S d):(lu S d)[i]? = some (bg S i d):=by simp[lu,hi]
section
variable {n:Nat} {S:Nat→Nat} (h:aM n S)
include h
theorem aM.nH{d e:Nat}(hd:d<n):e ∈ lu S d↔aH S d e:=by
 constructor
 ·intro he
  obtain⟨i,_,rfl⟩:=List.mem_map.1 he
  exact⟨i,rfl⟩
 ·intro hs
  obtain⟨i,hi,rfl⟩:=h.jW hd hs
  exact List.mem_map.2 ⟨i,List.mem_range.2 hi,rfl⟩
end
theorem Zp:∀ (l:List Nat) (a:Nat),l.foldl min a≤a∧∀ x ∈ l,l.foldl min a≤x
 | [],a=>⟨Nat.le_refl _,fun x h=>by cases h⟩
 | y :: l,a=>by
  obtain⟨h1,h2⟩:=Zp l (min a y)
  refine⟨by simp only [List.foldl_cons];omega,fun x hx=>?_⟩
  simp only [List.foldl_cons]
  rcases List.mem_cons.1 hx with rfl|hx
  ·omega
  ·exact h2 x hx
theorem Zq:∀ (l:List Nat) (a:Nat),l.foldl min a=a∨l.foldl min a ∈ l
 | [],a=>.inl rfl
 | y :: l,a=>by
  simp only [List.foldl_cons]
  rcases Zq l (min a y) with h|h
  ·rw[h]
   rcases Nat.le_total a y with hle|hle
   ·exact .inl (Nat.min_eq_left hle)
   ·exact .inr (by rw[Nat.min_eq_right hle];simp)
  ·exact .inr (by simp[h])
noncomputable def rep(S:Nat→Nat)(d:Nat):Nat:=(lu S d).foldl min d
section
variable {n:Nat} {S:Nat→Nat} (h:aM n S)
include h
theorem aM.cO{d:Nat}(hd:d<n):aH S d (rep S d):=by
 rcases Zq (lu S d) d with h1|h1
 ·unfold rep;rw[h1];exact aH.refl S d
 ·exact (h.nH hd).1 h1
theorem aM.iP{d e:Nat}(hd:d<n)(hs:aH S d e):rep S d≤e:=(Zp (lu S d) d).2 e ((h.nH hd).2 hs)
theorem aM.jg{d:Nat}(hd:d<n):rep S d<n:=h.nT hd (h.cO hd)
theorem aM.eF{d e:Nat}(hd:d<n)(he:e<n):rep S d=rep S e↔aH S d e:=by
 constructor
 ·intro hr
  have h1:=h.cO hd
  rw[hr] at h1
  exact h1.trans (h.bF he (h.cO he))
 ·intro hs
  exact Nat.le_antisymm (h.iP hd (hs.trans (h.cO he))) (h.iP he ((h.bF hd hs).trans (h.cO hd)))
theorem aM.gV{d:Nat}(hd:d<n):rep S (rep S d)=rep S d:=((h.eF hd (h.jg hd)).2 (h.cO hd)).symm
end
noncomputable def bT(S:Nat→Nat)(i:Nat):Nat:=((List.range i).filter fun x=>rep S x == x).length
noncomputable def aD(S:Nat→Nat)(d:Nat):Nat:=bT S (rep S d)
theorem um(S:Nat→Nat)(i:Nat):bT S (i+1)=bT S i+if rep S i=i then 1 else 0:=by
 unfold bT
 rw[List.range_succ,List.filter_append,List.length_append]
 by_cases hi:rep S i=i <;> simp[hi]
theorem Lr(S:Nat→Nat){i j:Nat}(hij:i≤j):bT S i≤bT S j:=by
 induction j with
 | zero=>rw[show i=0 by omega];exact Nat.le_refl _
 | succ j ih =>
  rcases Nat.lt_or_ge i (j+1) with hlt|hge
  ·have:=um S j
   have:=ih (by omega)
   omega
  ·rw[show i=j+1 by omega];exact Nat.le_refl _
theorem yZ(S:Nat→Nat)(i:Nat):bT S i≤i:=by
 unfold bT
 exact Nat.le_trans (List.length_filter_le _ _) (by simp)
section
variable {n:Nat} {S:Nat→Nat} (h:aM n S)
include h
theorem aM.dX{d e:Nat}(hd:d<n)(he:e<n):aD S d=aD S e↔aH S d e:=by
 rw[← h.eF hd he]
 constructor
 ·intro hv
  unfold aD at hv
  rcases Nat.lt_trichotomy (rep S d) (rep S e) with hlt|heq|hlt
  ·have h1:=um S (rep S d)
   rw[if_pos (h.gV hd)] at h1
   have h2:=Lr S (show rep S d+1≤rep S e from hlt)
   omega
  ·exact heq
  ·have h1:=um S (rep S e)
   rw[if_pos (h.gV he)] at h1
   have h2:=Lr S (show rep S e+1≤rep S d from hlt)
   omega
 ·intro hr
  unfold aD;rw[hr]
theorem aM.lG{d:Nat}(hd:d<n):aD S d<bT S n:=by
 have h1:=um S (rep S d)
 rw[if_pos (h.gV hd)] at h1
 have h2:=Lr S (show rep S d+1≤n from h.jg hd)
 unfold aD
 omega
theorem aM.pW{i x:Nat}(hi:i<n)(hx:x<n)(hr:rep S i=i):(rep S x<i+1↔rep S x<i∨x ∈ lu S i)∧(x ∈ lu S i→aD S x=bT S i∧¬ rep S x<i):=by
 have h1:x ∈ lu S i↔rep S x=i:=by
  rw[h.nH hi,← h.eF hi hx,hr]
  exact eq_comm
 refine⟨?_,fun hm=>?_⟩
 ·rw[h1];omega
 ·have:=h1.1 hm
  exact⟨by unfold aD;rw[this],by omega⟩
theorem aM.wL{i x:Nat}(hx:x<n)(hr:rep S i≠i):rep S x<i+1↔rep S x<i:=by
 constructor
 ·intro hlt
  rcases Nat.lt_or_ge (rep S x) i with h1|h1
  ·exact h1
  ·have:rep S x=i:=by omega
   exact absurd (by rw[← this];exact h.gV hx) hr
 ·omega
theorem aM.jd{i:Nat}(hi:i<n):rep S i≤i:=h.iP hi (aH.refl S i)
end
def mt(d:Nat):Nat:=if d % 2=0 then d+1 else d - 1
theorem bD(d:Nat):mt (mt d)=d:=by unfold mt;split <;> split <;> omega
theorem y5(d:Nat):mt d≠d:=by unfold mt;split <;> omega
theorem Ut(d:Nat):mt d / 2=d / 2:=by unfold mt;split <;> omega
theorem aU{n d:Nat}(he:n % 2=0)(h:d<n):mt d<n:=by unfold mt;split <;> omega
theorem Uu{d e:Nat}(h:d / 2=e / 2):e=d∨e=mt d:=by unfold mt;split <;> omega
def aJ(n:Nat)(S:Nat→Nat)(x y:Nat):Prop:=∀ P:Nat→Prop,P x→(∀ z,z<n→P z→P (S z)∧P (mt z))→P y
theorem aJ.refl(n:Nat)(S:Nat→Nat)(x:Nat):aJ n S x x:=fun _ h _=>h
theorem aJ.trans{n:Nat}{S:Nat→Nat}{x y z:Nat}(h:aJ n S x y)(k:aJ n S y z):aJ n S x z:=fun P hx hP=>k P (h P hx hP) hP
theorem aJ.turn{n:Nat}{S:Nat→Nat}{x:Nat}(h:x<n):aJ n S x (S x):=fun _ hx hP=>(hP x h hx).1
theorem aJ.mate{n:Nat}{S:Nat→Nat}{x:Nat}(h:x<n):aJ n S x (mt x):=fun _ hx hP=>(hP x h hx).2
section
variable {n:Nat} {S:Nat→Nat} (h:aM n S) (he:n % 2=0)
include h
theorem aM.lW{x y:Nat}(hx:x<n)(hs:aH S x y):aJ n S x y:=by
 obtain⟨k,rfl⟩:=hs
 induction k with
 | zero=>exact aJ.refl _ _ _
 | succ k ih=>exact ih.trans (aJ.turn (h.bV hx k))
include he
theorem aM.qF{x y:Nat}(hx:x<n)(hc:aJ n S x y):y<n:=hc (fun z=>z<n) hx (fun z hz _=>⟨h.lt z hz,aU he hz⟩)
theorem aM.gP{x y:Nat}(hx:x<n)(hc:aJ n S x y):aJ n S y x:=by
 have:=hc (fun z=>z<n∧aJ n S z x) ⟨hx,aJ.refl _ _ _⟩ (fun z hz hP=>by
  refine⟨⟨h.lt z hz,aJ.trans ?_ hP.2⟩,⟨aU he hz,aJ.trans ?_ hP.2⟩⟩
  ·exact h.lW (h.lt z hz) (h.bF hz (aH.step S z))
  ·have:=aJ.mate (S:=S) (aU he hz)
   rwa [bD] at this)
 exact this.2
end
end
section
open Go.RowKit
theorem qnh(l:List Bool)(b:Bool):ex (l ++ [b]) (l.length+1)=ex l l.length+if b then 1 else -1:=by
 rw[qau]
 cases b <;> rfl
theorem qej{zs:List Int}(h:∀ z ∈ zs,z=0∨z=1){k:Nat}{z:Int}(hz:zs[k]? = some z):(lF zs).getD k false=(z == 1):=by
 have h1:=qlf h hz
 have h2:=h z (List.mem_of_getElem? hz)
 cases hb:(lF zs).getD k false <;> rw[hb] at h1 <;> simp at h1 <;> subst h1 <;> rfl
end
section
open Go.RowKit
structure MInv (l:List Bool)(k:Nat)(ms rs:List Int)(st:List Nat):Prop where
 lm:ms.length=l.length
 lr:rs.length=l.length
 hx:ex l k=st.length
 stk:∀ (j o:Nat),st[j]? = some o→o<k∧l.getD o false=true∧ex l o=j∧∀ p,o<p→p≤k→(j:Int)<ex l p
 done:∀ p,p<k→(∃ j:Nat,st[j]? = some p)∨∃ m:Nat,ms[p]? = some (m:Int)∧dV l p m
 rd:∀ p,p<k→∃ r:Int,rs[p]? = some r∧La l p r
theorem MInv.start(l:List Bool):MInv l 0 (List.replicate l.length 0) (List.replicate l.length 0) [] :=
 ⟨by simp,by simp,by rw[FT];rfl,fun j o h=>by simp at h,fun p hp=>by omega,fun p hp=>by omega⟩
theorem MInv.open{l:List Bool}{k:Nat}{ms rs:List Int}{st:List Nat}(h:MInv l k ms rs st)(hk:k<l.length)(hb:l.getD k false=true)(r:Int)
  (hr:(st=[]∧r=-1)∨∃ o,st[st.length - 1]? = some o∧0<st.length∧r=(o:Nat)):MInv l (k+1) ms (rs.set k r) (st ++ [k]):=by
 have hs:=yV l hk
 rw[hb,if_pos rfl,h.hx] at hs
 have hRA:qed l k r:=by
  rcases hr with⟨rfl,rfl⟩|⟨o,ho,hl,rfl⟩
  ·exact .inl ⟨h.hx,rfl⟩
  ·obtain⟨h1,h2,h3,h4⟩:=h.stk _ _ ho
   refine .inr ⟨by rw[h.hx];omega,o,rfl,h1,by omega,by rw[h3,h.hx];omega,fun p h5 h6=>?_⟩
   have:=h4 p h5 h6
   rw[h.hx];omega
 refine⟨h.lm,by simpa using h.lr,by simpa using hs,fun j o hj=>?_,fun p hp=>?_,fun p hp=>?_⟩
 ·rw[List.getElem?_append] at hj
  split at hj
  ·obtain⟨h1,h2,h3,h4⟩:=h.stk _ _ hj
   refine⟨by omega,h2,h3,fun p h5 h6=>?_⟩
   by_cases hp:p≤k
   ·exact h4 p h5 hp
   ·obtain rfl:p=k+1:=by omega
    rw[hs];omega
  ·rename_i hlt
   have hj2:j - st.length=0:=by
    rcases Nat.eq_zero_or_pos (j - st.length) with h|h
    ·exact h
    ·rw[List.getElem?_eq_none (by simp;omega)] at hj;cases hj
   rw[hj2] at hj
   simp only [List.getElem?_cons_zero,Option.some.injEq] at hj
   subst hj
   have hjl:j=st.length:=by omega
   subst hjl
   refine⟨by omega,hb,h.hx,fun p h5 h6=>?_⟩
   obtain rfl:p=k+1:=by omega
   rw[hs];omega
 ·by_cases hpk:p<k
  ·rcases h.done p hpk with⟨j,hj⟩|hm
   ·refine .inl ⟨j,?_⟩
    rw[List.getElem?_append_left]
    ·exact hj
    ·rcases Nat.lt_or_ge j st.length with h' | h'
     ·exact h'
     ·rw[List.getElem?_eq_none h'] at hj;cases hj
   ·exact .inr hm
  ·obtain rfl:p=k:=by omega
   exact .inl ⟨st.length,by simp⟩
 ·by_cases hpk:p<k
  ·rw[List.getElem?_set_ne (by omega)]
   exact h.rd p hpk
  ·obtain rfl:p=k:=by omega
   exact⟨r,by rw[List.getElem?_set_self (by rw[h.lr];exact hk)],.inl ⟨hb,hRA⟩⟩
theorem MInv.top{l:List Bool}{k:Nat}{ms rs:List Int}{st:List Nat}(h:MInv l k ms rs st)(hB:Bal l)(hk:k<l.length)(hb:l.getD k false=false) :
  ∃ o,st[st.length - 1]? = some o∧0<st.length∧o<k∧bQ l o k:=by
 have hs:=yV l hk
 rw[hb,if_neg (by simp),h.hx] at hs
 have h0:=hB.2 (k+1) (by omega)
 have hl:0<st.length:=by omega
 obtain⟨o,ho⟩:∃ o,st[st.length - 1]? = some o:=⟨_,List.getElem?_eq_getElem (by omega)⟩
 obtain⟨h1,h2,h3,h4⟩:=h.stk _ _ ho
 refine⟨o,ho,hl,h1,h1,hk,by rw[hs,h3];omega,fun p h5 h6=>?_⟩
 rw[h3]
 exact h4 p h5 h6
theorem MInv.close{l:List Bool}{k:Nat}{ms rs:List Int}{st:List Nat}(h:MInv l k ms rs st)(hk:k<l.length)(hb:l.getD k false=false){o:Nat}(ho:st[st.length - 1]? = some o)(hl:0<st.length)(hok:o<k)(hP:bQ l o k)(r:Int)(hr:rs[o]? = some r) :
  MInv l (k+1) ((ms.set k (o:Int)).set o (k:Int)) (rs.set k r) (st.take (st.length - 1)):=by
 have hs:=yV l hk
 rw[hb,if_neg (by simp),h.hx] at hs
 refine⟨by simpa using h.lm,by simpa using h.lr,by rw[hs,List.length_take];omega,fun j q hj=>?_,fun p hp=>?_,fun p hp=>?_⟩
 ·rw[List.getElem?_take] at hj
  split at hj
  ·obtain⟨h1,h2,h3,h4⟩:=h.stk _ _ hj
   refine⟨by omega,h2,h3,fun p h5 h6=>?_⟩
   by_cases hp:p≤k
   ·exact h4 p h5 hp
   ·obtain rfl:p=k+1:=by omega
    rw[hs];omega
  ·cases hj
 ·by_cases hpo:p=o
  ·subst hpo
   exact .inr ⟨k,by rw[List.getElem?_set_self (by rw[List.length_set,h.lm];omega)],hP.yX⟩
  ·rw[List.getElem?_set_ne (fun e=>hpo e.symm)]
   by_cases hpk:p<k
   ·rw[List.getElem?_set_ne (by omega)]
    rcases h.done p hpk with⟨j,hj⟩|hm
    ·refine .inl ⟨j,?_⟩
     have hjl:j<st.length:=by
      rcases Nat.lt_or_ge j st.length with h' | h'
      ·exact h'
      ·rw[List.getElem?_eq_none h'] at hj;cases hj
     rw[List.getElem?_take,if_pos]
     ·exact hj
     ·rcases Nat.lt_or_ge j (st.length - 1) with h' | h'
      ·exact h'
      ·obtain rfl:j=st.length - 1:=by omega
       rw[ho] at hj
       simp only [Option.some.injEq] at hj
       exact absurd hj.symm hpo
    ·exact .inr hm
   ·obtain rfl:p=k:=by omega
    exact .inr ⟨o,by rw[List.getElem?_set_self (by rw[h.lm];exact hk)],hP.nS⟩
 ·by_cases hpk:p<k
  ·rw[List.getElem?_set_ne (by omega)]
   exact h.rd p hpk
  ·obtain rfl:p=k:=by omega
   obtain⟨r',h1,h2⟩:=h.rd o hok
   rw[hr] at h1
   simp only [Option.some.injEq] at h1
   subst h1
   refine⟨r,by rw[List.getElem?_set_self (by rw[h.lr];exact hk)],.inr ⟨hb,o,hP,?_⟩⟩
   rcases h2 with⟨_,h2⟩|⟨h2,_⟩
   ·exact h2
   ·rw[hP.opens.1] at h2;cases h2
theorem MInv.fin{l:List Bool}{ms rs:List Int}{st:List Nat}(h:MInv l l.length ms rs st)(hB:Bal l):∀ p,p<l.length→(∃ m:Nat,ms[p]? = some (m:Int)∧dV l p m)∧∃ r:Int,rs[p]? = some r∧La l p r:=by
 intro p hp
 refine⟨?_,h.rd p hp⟩
 have hx:=h.hx
 rw[hB.1] at hx
 have hst:st=[]:=List.eq_nil_of_length_eq_zero (by omega)
 rcases h.done p hp with⟨j,hj⟩|hm
 ·rw[hst] at hj;simp at hj
 ·exact hm
theorem aF.set{B:Nat}{w:World}{g n cap:Nat}{zs:List Int}(h:aF B w (.slice (some ⟨g,0,none⟩) n cap) zs)(i:Nat)(z:Int):aF B (w.setCell ⟨g,i,none⟩ (.int .i64 z)) (.slice (some ⟨g,0,none⟩) n cap) (zs.set i z):=by
 have hn:n=zs.length:=by
  obtain⟨a,c,hv,_⟩:=h.form
  simp only [Value.slice.injEq] at hv
  exact hv.2.1
 subst hn
 have:=Ql h i (.int .i64 z)
 unfold aF ints at *
 rw[List.length_set,List.map_set]
 exact this
theorem aF.other{B:Nat}{w:World}{v:Value}{zs:List Int}(h:aF B w v zs)(a:Addr)(ha:v.ownBlock≠some a.block)(u:Value):aF B (w.setCell a u) v zs :=
 ownsRow_setCell_other h ha u
theorem aF.cell{B:Nat}{w:World}{g n cap:Nat}{zs:List Int}(h:aF B w (.slice (some ⟨g,0,none⟩) n cap) zs){i:Nat}{z:Int}(hz:zs[i]? = some z):w.cell? ⟨g,i,none⟩=some (.int .i64 z)∧w.frozen? ⟨g,i,none⟩=false:=by
 have hi:i<zs.length:=by
  rcases Nat.lt_or_ge i zs.length with h' | h'
  ·exact h'
  ·rw[List.getElem?_eq_none h'] at hz;cases hz
 obtain⟨g',cap',hv,_,_,hc,_,_⟩:=o7 h (by omega)
 simp only [Value.slice.injEq,Option.some.injEq,Addr.mk.injEq,and_true] at hv
 obtain⟨rfl,_⟩:=hv
 exact hc i (.int .i64 z) (by rw[ints,List.getElem?_map,hz];rfl)
theorem aF.has{B:Nat}{w:World}{g n cap:Nat}{zs:List Int}(h:aF B w (.slice (some ⟨g,0,none⟩) n cap) zs)(i:Nat)(hi:i<zs.length):∃ z:Int,w.cell? ⟨g,i,none⟩=some (.int .i64 z)∧w.frozen? ⟨g,i,none⟩=false :=
 ⟨_,h.cell (List.getElem?_eq_getElem hi)⟩
theorem AZ{B:Nat}{w:World}{a:Option Addr}{n cap:Nat}{zs:List Int}(h:aF B w (.slice a n cap) zs)(hn:0<zs.length):∃ g,a=some ⟨g,0,none⟩:=by
 obtain⟨g,cap',hv,_⟩:=o7 h hn
 simp only [Value.slice.injEq] at hv
 exact⟨g,hv.1⟩
theorem aF.take{B:Nat}{w:World}{v:Value}{a:Option Addr}{n cap:Nat}{zs:List Int}(h:aF B w v zs)(hv:v=.slice a n cap)(m:Nat)(hm:m≤zs.length):aF B w (.slice a m cap) (zs.take m):=by
 obtain⟨h1,h2⟩:=h
 have hl:(zs.take m).length=m:=by simp;omega
 unfold aF
 rw[hl]
 refine⟨by simp[ints];omega,?_⟩
 rcases h2 with⟨h3,h4⟩|⟨g,cap',cur,h3,hb,hg,hnc,hcm,hcs,ht⟩
 ·rw[hv] at h3
  simp only [Value.slice.injEq] at h3
  obtain⟨rfl,rfl,rfl⟩:=h3
  refine .inl ⟨?_,by omega⟩
  obtain rfl:m=0:=by omega
  rfl
 ·rw[hv] at h3
  simp only [Value.slice.injEq] at h3
  obtain⟨rfl,rfl,rfl⟩:=h3
  refine .inr ⟨g,cap,cur,rfl,hb,hg,by omega,hcm,hcs,?_⟩
  simp only [Nat.mul_one] at ht ⊢
  rw[ints,List.map_take]
  unfold ints at ht
  rw[← ht,List.take_take,Nat.min_eq_left hm]
theorem jq{l:List Nat}{i x:Nat}(h:l[i]? = some x):(aB l)[i]? = some (x:Int):=by simp[aB,h]
theorem q01(l:List Nat):(aB l).length=l.length:=by simp[aB]
theorem mP{ops:Array Oper}{rest:List Oper}{o:Oper}{a:Act}{Q:Exit→Act→World→Prop}{wr:World}(n:Nat)(hgd:o.guard=none)(s x:Operand)
  (ho:o.op=.call { callee:=.builtin .append,args:=#[s,x],argTypes:=#[25,25] })(B:Nat)(v:Value)(zs:List Int)(z:Int)(hn:Hid (zs.length=n))(H:Nat)(hH:wr.heap.size=H)(hs:a.eval s=v)(hx:a.eval x=.slice (some ⟨H,0,none⟩) 1 1)
  (hown:aF B wr v zs)(hlen:n≤10000000000)(hB:B≤wr.heap.size)
  (h:∀ g cap w',aF B w' (.slice (some ⟨g,0,none⟩) (n+1) cap) (zs ++ [z])→Keeps (fun k=>v.ownBlock=some k) wr w'→(v.ownBlock=some g∨wr.heap.size≤g)→B≤g →
   wpList Tryz.prog ops Q rest (a.put o.dst (.slice (some ⟨g,0,none⟩) (n+1) cap)) w') :
  wpList Tryz.prog ops Q (o :: rest) a (wr.alloc (.cells #[.int .i64 z] 3)):=by
 have hn:=hn.out
 subst hn
 exact qnc hgd s x ho B v zs z H hH hs hx hown hlen hB h
def A8(w:World)(l:List Bool)(gm gr k:Nat)(ov:Value)(wr:World):Prop :=
 ∃ ms rs st,MInv l k ms rs st∧aF w.heap.size wr (.slice (some ⟨gm,0,none⟩) l.length l.length) ms∧aF w.heap.size wr (.slice (some ⟨gr,0,none⟩) l.length l.length) rs∧aF w.heap.size wr ov (aB st) ∧
  gm≠gr∧ov.ownBlock≠some gm∧ov.ownBlock≠some gr∧Keeps (fun _=>False) w wr
theorem A8.start(w:World)(l:List Bool)(hl:l.length≤100000000)(gm gr:Nat)(hg:(gm=w.heap.size∧gr=w.heap.size+1)∨(gr=w.heap.size∧gm=w.heap.size+1)) :
  A8 w l gm gr 0 (.slice none 0 0) (((w.alloc (.cells (madeCells #[.int .i64 0] l.length) 3)).alloc (.cells (madeCells #[.int .i64 0] l.length) 3)).drew):=by
 have ht:(madeCells #[.int .i64 0] l.length).toList=ints (List.replicate l.length 0):=by
  rw[toList_madeCells_one];simp[ints]
 have h1:=World.ownsRow_lit (base:=w.heap.size) (e:=3) (size:=1) w (madeCells #[.int .i64 0] l.length) l.length (Nat.le_refl _) (by unfold maxLen;omega) (by rw[size_madeCells];omega)
 have h2:=World.ownsRow_lit (base:=w.heap.size) (e:=3) (size:=1) (w.alloc (.cells (madeCells #[.int .i64 0] l.length) 3)) (madeCells #[.int .i64 0] l.length) l.length (by simp) (by unfold maxLen;omega) (by rw[size_madeCells];omega)
 rw[ht] at h1 h2
 have hs:(w.alloc (.cells (madeCells #[.int .i64 0] l.length) 3)).heap.size=w.heap.size+1:=by simp
 rw[hs] at h2
 have q1:aF w.heap.size (((w.alloc (.cells (madeCells #[.int .i64 0] l.length) 3)).alloc (.cells (madeCells #[.int .i64 0] l.length) 3)).drew) (.slice (some ⟨w.heap.size,0,none⟩) l.length l.length) (List.replicate l.length 0):=by
  have:aF w.heap.size (w.alloc (.cells (madeCells #[.int .i64 0] l.length) 3)) (.slice (some ⟨w.heap.size,0,none⟩) l.length l.length) (List.replicate l.length 0):=by
   unfold aF;rw[List.length_replicate];exact h1
  exact (this.alloc _).keeps ((Keeps.refl (fun _=>False) _).drew) (fun _ _ h=>h)
 have q2:aF w.heap.size (((w.alloc (.cells (madeCells #[.int .i64 0] l.length) 3)).alloc (.cells (madeCells #[.int .i64 0] l.length) 3)).drew) (.slice (some ⟨w.heap.size+1,0,none⟩) l.length l.length) (List.replicate l.length 0):=by
  have:aF w.heap.size ((w.alloc (.cells (madeCells #[.int .i64 0] l.length) 3)).alloc (.cells (madeCells #[.int .i64 0] l.length) 3)) (.slice (some ⟨w.heap.size+1,0,none⟩) l.length l.length) (List.replicate l.length 0):=by
   unfold aF;rw[List.length_replicate];exact h2
  exact this.keeps ((Keeps.refl (fun _=>False) _).drew) (fun _ _ h=>h)
 have hk:Keeps (fun _=>False) w (((w.alloc (.cells (madeCells #[.int .i64 0] l.length) 3)).alloc (.cells (madeCells #[.int .i64 0] l.length) 3)).drew):=(((Keeps.refl _ w).alloc _).alloc _).drew
 rcases hg with⟨rfl,rfl⟩|⟨rfl,rfl⟩
 ·exact⟨_,_,[],MInv.start l,q1,q2,aF.nil _ _,by omega,by simp[Value.ownBlock],by simp[Value.ownBlock],hk⟩
 ·exact⟨_,_,[],MInv.start l,q2,q1,aF.nil _ _,by omega,by simp[Value.ownBlock],by simp[Value.ownBlock],hk⟩
theorem A8.pushed{w w2 w3:World}{l:List Bool}{gm gr k g2 cap2 n:Nat}{ms rs:List Int}{st:List Nat}{ov:Value}(hI:MInv l (k+1) ms rs (st ++ [k]))(hm:aF w.heap.size w2 (.slice (some ⟨gm,0,none⟩) l.length l.length) ms)(hr:aF w.heap.size w2 (.slice (some ⟨gr,0,none⟩) l.length l.length) rs)
  (ho:aF w.heap.size w3 (.slice (some ⟨g2,0,none⟩) (n+1) cap2) (aB st ++ [(k:Int)]))(k3:Keeps (fun k=>ov.ownBlock=some k) w2 w3)(hgg:gm≠gr)(BX:ov.ownBlock≠some gm)(hor:ov.ownBlock≠some gr)(hov:aF w.heap.size w2 ov (aB st))(_:w.heap.size≤gr)(_:w.heap.size≤gm)
  (k2:Keeps (fun _=>False) w w2)(hat:ov.ownBlock=some g2∨w2.heap.size≤g2)(A9:gm<w2.heap.size)(hrg:gr<w2.heap.size):A8 w l gm gr (k+1) (.slice (some ⟨g2,0,none⟩) (n+1) cap2) w3:=by
 have hn:aB st ++ [(k:Int)]=aB (st ++ [k]):=by simp[aB]
 rw[hn] at ho
 have h1:g2≠gm:=by
  rcases hat with h|h
  ·intro e;rw[e] at h;exact BX h
  ·omega
 have h2:g2≠gr:=by
  rcases hat with h|h
  ·intro e;rw[e] at h;exact hor h
  ·omega
 refine⟨ms,rs,_,hI,hm.keeps k3 (fun b hb h=>?_),hr.keeps k3 (fun b hb h=>?_),ho,hgg,by simp[Value.ownBlock];exact h1,by simp[Value.ownBlock];exact h2,k2.trans k3 (fun x hx h=>by have:=(hov.lt x h).1;omega)⟩
 ·simp only [Value.ownBlock,Option.some.injEq] at hb;subst hb;exact BX h
 ·simp only [Value.ownBlock,Option.some.injEq] at hb;subst hb;exact hor h
theorem qcc(sv:Value)(zs:List Int)(w:World)(hs:Sl .i64 w sv zs)(h01:∀ z ∈ zs,z=0∨z=1)(hl:zs.length≤100000000)(hB:Bal (lF zs)) :
  Calls Tryz.prog 188 #[sv] w fun e w'=>∃ gm gr ov,e=.returned (.tuple #[.slice (some ⟨gm,0,none⟩) zs.length zs.length,.slice (some ⟨gr,0,none⟩) zs.length zs.length])∧A8 w (lF zs) gm gr zs.length ov w':=by
 obtain⟨a,cap,rfl,hnc,hcm,_,hc⟩:=hs
 have hbl:=Ub zs
 obtain⟨i,hi,hz0,hz1,hz2⟩:=info_parts pU
 have hmk:=fun w=>run_make (P:=Tryz.prog) w 25 3 i _ Tryz.underlying25 hi hz0 .i64 .i64 (zs.length:Int) (zs.length:Int) (by omega) (Int.le_refl _) (by rw[hz2];omega) (by omega)
 simp only [hz1,Int.toNat_natCast,Nat.mul_one] at hmk
 have wO:=A8.start w (lF zs) (by omega)
 rw[hbl] at wO
 have HST:=ah wO
 have HB:=ah (aj hB hbl)
 clear wO hB hbl hi hz0 hz1 hz2
 go_enter Tryz.func188,Tryz.ntmps188
 go_wp2_with fail
 go_region
 case' _ =>
  have hS:=HST.out w.heap.size (w.heap.size+1) (.inl ⟨rfl,rfl⟩)
  obtain⟨gm,hgm⟩:∃ gm,gm=w.heap.size:=⟨_,rfl⟩
  obtain⟨gr,hgr⟩:∃ gr,gr=w.heap.size+1:=⟨_,rfl⟩
  rw[← hgr,← hgm] at hS
  rw[← hgr,← hgm]
 rotate_left
 case' _ =>
  have hS:=HST.out (w.heap.size+1) w.heap.size (.inr ⟨rfl,rfl⟩)
  obtain⟨gr,hgr⟩:∃ gr,gr=w.heap.size:=⟨_,rfl⟩
  obtain⟨gm,hgm⟩:∃ gm,gm=w.heap.size+1:=⟨_,rfl⟩
  rw[← hgm,← hgr] at hS
  rw[← hgm,← hgr]
 all_goals
  clear HST hmk hgm hgr
  go_wp2_with fail
  go_loopw [6,18] (fun ov i wr=>∃ k:Nat,k≤zs.length∧i=.int .i64 k∧A8 w (lF zs) gm gr k ov wr) (fun _ i _=>zs.length - (intOf i).toNat)
  case atStart=>exact⟨0,Nat.zero_le _,rfl,hS⟩
  case round =>
   obtain⟨k,hk,rfl,ms,rs,st,hI,hm,hr,ho,hgg,BX,hor,aT⟩:=hrel
   have hsz:=aT.size
   have hfo:=ho.form
   obtain⟨n,hn⟩:∃ n,n=(aB st).length:=⟨_,rfl⟩
   rw[← hn] at hfo
   rw[q01] at hn
   obtain⟨oa,oc,rfl,Gs,Ls⟩:=hfo
   have hlm:=hI.lm
   have hlr:=hI.lr
   rw[HB.out.2] at hlm hlr
   by_cases hlt:k<zs.length
   ·have hz:=List.getElem?_eq_getElem (l:=zs) (i:=k) (by omega)
    obtain⟨g,off,rfl,hcell⟩:=hc k _ hz
    have hcell1:=aT.fV hcell
    clear hS
    have hbit:=qej h01 hz
    generalize zs[k]=z at *
    have hst:n≤10000000000:=by
     have h1:=nR (lF zs) k (by rw[HB.out.2];exact hl)
     rw[hI.hx,← hn] at h1
     omega
    obtain⟨x1,hrk,frk⟩:=hr.has k (by omega)
    obtain⟨x2,hmk,fmk⟩:=hm.has k (by omega)
    have HN:Hid ((aB st).length=n):=ah (by rw[q01];exact hn.symm)
    have hrg:=(hr.lt gr rfl)
    have A9:=(hm.lt gm rfl)
    clear hc hz hcell
    cases hz1:(z == 1)
    ·rw[hz1] at hbit
     obtain⟨o,ho1,ho2,hok,hpr⟩:=hI.top HB.out.1 (by rw[HB.out.2];exact hlt) hbit
     obtain⟨r,hr1,hrr⟩:=hI.rd o hok
     clear hrr
     have hI2:=hI.close (by rw[HB.out.2];exact hlt) hbit ho1 ho2 hok hpr r hr1
     obtain⟨hro,fro⟩:=hr.cell hr1
     obtain⟨x3,hmo,fmo⟩:=hm.has o (by omega)
     obtain⟨m,hnm⟩:∃ m,n=m+1:=⟨n - 1,by omega⟩
     rw[← hn,hnm,show m+1 - 1=m by omega] at ho1 hI2
     have hnz:=jq ho1
     obtain⟨og,rfl⟩:=AZ ho (by rw[q01];omega)
     obtain⟨wP,foo⟩:=ho.cell hnz
     have ho3:=ho.take rfl m (by rw[q01];omega)
     have hnt:(aB st).take m=aB (st.take m):=by simp[aB]
     rw[hnt] at ho3
     have hg1:og≠gm:=fun e=>BX (by rw[e];rfl)
     have hg2:og≠gr:=fun e=>hor (by rw[e];rfl)
     have hg3:=hg1.symm
     have hg4:=hg2.symm
     have hg5:=hgg.symm
     have hm2:=((hm.set k o).set o k).other ⟨gr,k,none⟩ (by simp[Value.ownBlock];exact hgg) (.int .i64 r)
     have hr2:=(((hr.other ⟨gm,k,none⟩ (by simp[Value.ownBlock];exact hg5) (.int .i64 o)).other ⟨gm,o,none⟩ (by simp[Value.ownBlock];exact hg5) (.int .i64 k))).set k r
     have Zr:=(((ho3.other ⟨gm,k,none⟩ (by simp[Value.ownBlock];exact hg1) (.int .i64 o)).other ⟨gm,o,none⟩ (by simp[Value.ownBlock];exact hg1) (.int .i64 k))).other ⟨gr,k,none⟩ (by simp[Value.ownBlock];exact hg2) (.int .i64 r)
     have hk2:=((aT.setCell (p:=⟨gm,k,none⟩) (.inr A9.1) (.int .i64 o)).setCell (p:=⟨gm,o,none⟩) (.inr A9.1) (.int .i64 k)).setCell (p:=⟨gr,k,none⟩) (.inr hrg.1) (.int .i64 r)
     have hoz:o<zs.length:=by omega
     have hok1:¬ o=k:=by omega
     have hok2:¬ k=o:=by omega
     have q1:(wr.setCell ⟨gm,k,none⟩ (.int .i64 o)).cell? ⟨gm,o,none⟩=some (.int .i64 x3):=by
      rw[World.cell?_setCell_other _ _ _ _ (by intro e;exact hok2 (congrArg Addr.off e))];exact hmo
     have q2:((wr.setCell ⟨gm,k,none⟩ (.int .i64 o)).setCell ⟨gm,o,none⟩ (.int .i64 k)).cell? ⟨gr,k,none⟩=some (.int .i64 x1):=by
      rw[World.cell?_setCell_other _ _ _ _ (by intro e;exact hgg (congrArg Addr.block e)),World.cell?_setCell_other _ _ _ _ (by intro e;exact hgg (congrArg Addr.block e))];exact hrk
     have HI:=ah (aj hI2 (aj hm2 (aj hr2 (aj Zr hk2))))
     clear hI hI2 hm hm2 hr hr2 ho ho3 Zr hk2 hbit hnt hnz hn hpr ho1 ho2 hr1 hlm hlr hok HN
     subst hnm
     go_wp2_with fail
     go_roundw
     case rel=>exact⟨k+1,by omega,by go_num,_,_,_,HI.out.1,HI.out.2.1,HI.out.2.2.1,HI.out.2.2.2.1,hgg,by simp[Value.ownBlock];exact hg1,by simp[Value.ownBlock];exact hg2,HI.out.2.2.2.2⟩
     case measure=>simp[intOf];omega
    ·rw[hz1] at hbit
     by_cases hs0:n=0
     ·have Lu:st=[]:=List.eq_nil_of_length_eq_zero (by omega)
      have hI2:=hI.open (by rw[HB.out.2];exact hlt) hbit (-1) (.inl ⟨Lu,rfl⟩)
      have hm2:=hm.other ⟨gr,k,none⟩ (by simp[Value.ownBlock];exact hgg) (.int .i64 (-1))
      have hr2:=hr.set k (-1)
      have ho2:=ho.other ⟨gr,k,none⟩ hor (.int .i64 (-1))
      have hk2:=aT.setCell (p:=⟨gr,k,none⟩) (.inr hrg.1) (.int .i64 (-1))
      have hsz2:w.heap.size≤(wr.setCell ⟨gr,k,none⟩ (.int .i64 (-1))).heap.size:=hk2.size
      have HI:=ah (aj hI2 (aj hm2 (aj hr2 hk2)))
      clear hI hI2 hm hm2 hr hr2 ho hk2 hbit hn Lu hlm hlr
      subst hs0
      go_wp2_with (at_builtin;refine mP 0 rfl _ _ rfl w.heap.size (.slice oa 0 oc) (aB st) k HN wr.heap.size (by simp) rfl rfl ho2 hst hsz2 ?_;intro g2 cap2 w3 hown3 hk3 hat hg)
      have hfin:=A8.pushed HI.out.1 HI.out.2.1 HI.out.2.2.1 hown3 hk3 hgg BX hor ho2 hrg.1 A9.1 HI.out.2.2.2 hat (by simpa using A9.2) (by simpa using hrg.2)
      have HF:=ah hfin
      clear hfin hown3 hk3 hat
      go_wp2
      go_roundw
      case rel=>exact⟨k+1,by omega,by go_num,HF.out⟩
      case measure=>simp[intOf];omega
     ·obtain⟨o,hso⟩:∃ o,st[st.length - 1]? = some o:=⟨_,List.getElem?_eq_getElem (by omega)⟩
      obtain⟨m,hnm⟩:∃ m,n=m+1:=⟨n - 1,by omega⟩
      have hI2:=hI.open (by rw[HB.out.2];exact hlt) hbit o (.inr ⟨o,hso,by omega,rfl⟩)
      rw[← hn,hnm,show m+1 - 1=m by omega] at hso
      have hnz:=jq hso
      obtain⟨og,rfl⟩:=AZ ho (by rw[q01];omega)
      obtain⟨wP,foo⟩:=ho.cell hnz
      have hg1:og≠gm:=fun e=>BX (by rw[e];rfl)
      have hg2:og≠gr:=fun e=>hor (by rw[e];rfl)
      have hg3:=hg1.symm
      have hg4:=hg2.symm
      have hg5:=hgg.symm
      have hm2:=(hm.other ⟨gr,k,none⟩ (by simp[Value.ownBlock];exact hgg) (.int .i64 (-1))).other ⟨gr,k,none⟩ (by simp[Value.ownBlock];exact hgg) (.int .i64 o)
      have hr2:=(hr.set k (-1)).set k o
      rw[List.set_set] at hr2
      have ho2:=(ho.other ⟨gr,k,none⟩ hor (.int .i64 (-1))).other ⟨gr,k,none⟩ hor (.int .i64 o)
      have hk2:=(aT.setCell (p:=⟨gr,k,none⟩) (.inr hrg.1) (.int .i64 (-1))).setCell (p:=⟨gr,k,none⟩) (.inr hrg.1) (.int .i64 o)
      have hsz2:w.heap.size≤((wr.setCell ⟨gr,k,none⟩ (.int .i64 (-1))).setCell ⟨gr,k,none⟩ (.int .i64 o)).heap.size:=hk2.size
      have q1:(wr.setCell ⟨gr,k,none⟩ (.int .i64 (-1))).cell? ⟨og,m,none⟩=some (.int .i64 o):=by
       rw[World.cell?_setCell_other _ _ _ _ (by intro e;exact hg4 (congrArg Addr.block e))];exact wP
      have q2:(wr.setCell ⟨gr,k,none⟩ (.int .i64 (-1))).cell? ⟨gr,k,none⟩=some (.int .i64 (-1)):=World.cell?_setCell_same _ _ _ hrk
      have HI:=ah (aj hI2 (aj hm2 (aj hr2 hk2)))
      clear hI hI2 hm hm2 hr hr2 ho hk2 hbit hn hlm hlr hso hnz
      subst hnm
      go_wp2_with (at_builtin;refine mP (m+1) rfl _ _ rfl w.heap.size (.slice (some ⟨og,0,none⟩) (m+1) oc) (aB st) k HN wr.heap.size (by simp) rfl rfl ho2 hst hsz2 ?_;intro g2 cap2 w3 hown3 hk3 hat hg)
      have hfin:=A8.pushed HI.out.1 HI.out.2.1 HI.out.2.2.1 hown3 hk3 hgg BX hor ho2 hrg.1 A9.1 HI.out.2.2.2 hat (by simpa using A9.2) (by simpa using hrg.2)
      have HF:=ah hfin
      clear hfin hown3 hk3 hat
      go_wp2
      go_roundw
      case rel=>exact⟨k+1,by omega,by go_num,HF.out⟩
      case measure=>simp[intOf];omega
   ·obtain rfl:k=zs.length:=by omega
    have hfin:A8 w (lF zs) gm gr zs.length (.slice oa n oc) wr:=⟨ms,rs,st,hI,hm,hr,ho,hgg,BX,hor,aT⟩
    have HF:=ah hfin
    clear hfin hS hI hm hr ho BX hor aT hc h01 hn hlm hlr
    go_wp2
    go_ret2
    exact⟨gm,gr,_,rfl,HF.out⟩
end
section
open Go.RowKit
def l6:List Bool:=lF [1,1,0,1,0,0]
end
