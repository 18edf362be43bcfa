import Derived.Test.YtcfdpogegngplaaGreatZg0c
set_option maxRecDepth 100000
set_option maxHeartbeats 4000000
namespace Go.Proofs.YtcfdpogegngplaaGreat
section
def iO(i j d:Nat):Nat:=if d=i then j else if d=j then i else d
theorem QO{n i j d:Nat}(hi:i<n)(hj:j<n)(hd:d<n):iO i j d<n:=by
 unfold iO
 split
 ·exact hj
 ·split
  ·exact hi
  ·exact hd
theorem U1(i j d:Nat):iO i j (iO i j d)=d:=by
 unfold iO
 by_cases h1:d=i
 ·by_cases h2:j=i
  ·simp[h1,h2]
  ·simp[h1,h2]
 ·by_cases h2:d=j
  ·simp[h2]
  ·simp[h1,h2]
theorem qj{i j d:Nat}(hi:d≠i)(hj:d≠j):iO i j d=d:=by unfold iO;rw[if_neg hi,if_neg hj]
theorem aM.tw{n:Nat}{S:Nat→Nat}(h:aM n S){i j:Nat}(hi:i<n)(hj:j<n):aM n (fun d=>S (iO i j d)) :=
 ⟨fun d hd=>h.lt _ (QO hi hj hd),fun d e hd he hh=>by
  have:=h.inj _ _ (QO hi hj hd) (QO hi hj he) hh
  rw[← U1 i j d,this,U1]⟩
theorem QS{S:Nat→Nat}{i j d:Nat}(h1:¬ aH S d i)(h2:¬ aH S d j)(k:Nat):bg (fun x=>S (iO i j x)) k d=bg S k d:=by
 induction k with
 | zero=>rfl
 | succ k ih =>
  show S (iO i j (bg (fun x=>S (iO i j x)) k d))=S (bg S k d)
  rw[ih,qj (fun e=>h1 ⟨k,e⟩) (fun e=>h2 ⟨k,e⟩)]
theorem LP(S:Nat→Nat)(i j:Nat):(fun x=>(fun y=>S (iO i j y)) (iO i j x))=S:=by
 funext x
 show S (iO i j (iO i j x))=S x
 rw[U1]
theorem ZX{S:Nat→Nat}{i j d:Nat}(h1:¬ aH S d i)(h2:¬ aH S d j):¬ aH (fun x=>S (iO i j x)) d i∧¬ aH (fun x=>S (iO i j x)) d j:=by
 refine⟨?_,?_⟩
 ·rintro⟨k,hk⟩
  exact h1 ⟨k,by rw[← QS h1 h2 k];exact hk⟩
 ·rintro⟨k,hk⟩
  exact h2 ⟨k,by rw[← QS h1 h2 k];exact hk⟩
theorem qj0{S:Nat→Nat}{i j d:Nat}(h1:¬ aH (fun x=>S (iO i j x)) d i)(h2:¬ aH (fun x=>S (iO i j x)) d j):¬ aH S d i∧¬ aH S d j:=by
 have h:=ZX h1 h2
 rwa [LP] at h
theorem qor{n:Nat}{S:Nat→Nat}(h:aM n S){i j d:Nat}(hi:i<n)(hj:j<n)(hd:d<n)(h1:¬ aH S d i)(h2:¬ aH S d j):rep (fun x=>S (iO i j x)) d=rep S d:=by
 have hT:=h.tw hi hj
 refine Nat.le_antisymm (hT.iP hd ?_) (h.iP hd ?_)
 ·obtain⟨k,hk⟩:=h.cO hd
  exact⟨k,by rw[QS h1 h2];exact hk⟩
 ·obtain⟨k,hk⟩:=hT.cO hd
  exact⟨k,by rw[← QS h1 h2 k];exact hk⟩
noncomputable def LQ(n:Nat)(S:Nat→Nat)(i j:Nat):List Nat:=open Classical in (List.range n).filter fun x=>decide (rep S x=x∧¬ aH S x i∧¬ aH S x j)
noncomputable def vD(n:Nat)(S:Nat→Nat)(i j:Nat):List Nat:=open Classical in (List.range n).filter fun x=>decide (rep S x=x∧¬ (¬ aH S x i∧¬ aH S x j))
theorem LU{α:Type}(p q r:α→Bool)(h:∀ x,p x=(q x || r x))(hd:∀ x,¬ (q x=true∧r x=true)):∀ l:List α,(l.filter p).length=(l.filter q).length+(l.filter r).length
 | []=>rfl
 | x :: l=>by
  have ih:=LU p q r h hd l
  have h1:=h x
  have h2:=hd x
  simp only [List.filter_cons]
  cases hq:q x <;> cases hr:r x <;> simp[hq,hr] at h1 h2 <;> simp[h1,ih] <;> omega
theorem QT(n:Nat)(S:Nat→Nat)(i j:Nat):bT S n=(LQ n S i j).length+(vD n S i j).length:=by
 unfold bT LQ vD
 refine LU _ _ _ (fun x=>?_) (fun x=>?_) _
 ·by_cases h1:rep S x=x <;> by_cases h2:(¬ aH S x i∧¬ aH S x j) <;> simp[h1,h2]
 ·simp only [decide_eq_true_eq]
  rintro⟨⟨_,a⟩,_,b⟩
  exact b a
theorem ZY{n:Nat}{S:Nat→Nat}(h:aM n S){i j:Nat}(hi:i<n)(hj:j<n):LQ n (fun x=>S (iO i j x)) i j=LQ n S i j:=by
 unfold LQ
 refine List.filter_congr (fun x hx=>?_)
 have hx:=List.mem_range.1 hx
 by_cases h2:(¬ aH S x i∧¬ aH S x j)
 ·have h3:=ZX h2.1 h2.2
  have h4:=qor h hi hj hx h2.1 h2.2
  simp only [h2,h3,h4]
 ·have h3:¬ (¬ aH (fun y=>S (iO i j y)) x i∧¬ aH (fun y=>S (iO i j y)) x j):=fun hh=>h2 (qj0 hh.1 hh.2)
  simp[h2,h3]
theorem Z0{n:Nat}{S:Nat→Nat}(h:aM n S){i j x:Nat}(hi:i<n)(hj:j<n)(hx:x ∈ vD n S i j):x=rep S i∨x=rep S j:=by
 unfold vD at hx
 simp only [List.mem_filter,List.mem_range,decide_eq_true_eq] at hx
 obtain⟨hx,hr,ho⟩:=hx
 by_cases h1:aH S x i
 ·left;rw[← hr];exact (h.eF hx hi).2 h1
 ·by_cases h2:aH S x j
  ·right;rw[← hr];exact (h.eF hx hj).2 h2
  ·exact absurd ⟨h1,h2⟩ ho
theorem qos{n:Nat}{S:Nat→Nat}(h:aM n S){i j:Nat}(hi:i<n)(hj:j<n):(vD n S i j).length≤2:=by
 have:=uj (vD n S i j) [rep S i,rep S j] (List.Pairwise.filter _ List.nodup_range) (fun x hx=>by
  rcases Z0 h hi hj hx with e|e <;> simp[e])
 simpa using this
theorem qnl{n:Nat}{S:Nat→Nat}(h:aM n S){i j:Nat}(hi:i<n)(hj:j<n)(hs:aH S i j):(vD n S i j).length≤1:=by
 have e:=(h.eF hi hj).2 hs
 have:=uj (vD n S i j) [rep S i] (List.Pairwise.filter _ List.nodup_range) (fun x hx=>by
  rcases Z0 h hi hj hx with e' | e' <;> simp[e',e])
 simpa using this
theorem Z4{n:Nat}{S:Nat→Nat}(h:aM n S){i j:Nat}(hi:i<n)(hj:j<n):rep S i ∈ vD n S i j∧rep S j ∈ vD n S i j:=by
 unfold vD
 simp only [List.mem_filter,List.mem_range,decide_eq_true_eq]
 exact⟨⟨h.jg hi,h.gV hi,fun hh=>hh.1 (h.bF hi (h.cO hi))⟩,⟨h.jg hj,h.gV hj,fun hh=>hh.2 (h.bF hj (h.cO hj))⟩⟩
theorem qot{n:Nat}{S:Nat→Nat}(h:aM n S){i j:Nat}(hi:i<n)(hj:j<n):1≤(vD n S i j).length :=
 List.length_pos_of_mem (Z4 h hi hj).1
theorem qnm{n:Nat}{S:Nat→Nat}(h:aM n S){i j:Nat}(hi:i<n)(hj:j<n)(hs:¬ aH S i j):2≤(vD n S i j).length:=by
 have hne:rep S i≠rep S j:=fun e=>hs ((h.eF hi hj).1 e)
 have:=uj [rep S i,rep S j] (vD n S i j) (by simp[hne]) (fun x hx=>by
  have hb:=Z4 h hi hj
  simp only [List.mem_cons,List.not_mem_nil,or_false] at hx
  rcases hx with rfl|rfl
  ·exact hb.1
  ·exact hb.2)
 simpa using this
theorem Z5{n:Nat}{S:Nat→Nat}(h:aM n S){i j:Nat}(hi:i<n)(hj:j<n):bT (fun x=>S (iO i j x)) n≤bT S n+1:=by
 rw[QT n _ i j,QT n S i j,ZY h hi hj]
 have h1:=qos (h.tw hi hj) hi hj
 have h2:=qot h hi hj
 omega
theorem qnn{n:Nat}{S:Nat→Nat}(h:aM n S){i j:Nat}(_hi:i<n)(hj:j<n)(hs:¬ aH S i j):aH (fun x=>S (iO i j x)) i j:=by
 obtain⟨p0,_,p1,p2⟩:=h.aZ hj
 have key:∀ k,k+1≤per S j→bg (fun x=>S (iO i j x)) (k+1) i=bg S (k+1) j:=by
  intro k
  induction k with
  | zero =>
   intro _
   show S (iO i j i)=S j
   unfold iO
   rw[if_pos rfl]
  | succ k ih =>
   intro hk
   show S (iO i j (bg (fun x=>S (iO i j x)) (k+1) i))=S (bg S (k+1) j)
   rw[ih (by omega),qj]
   ·intro e
    exact hs (h.bF hj ⟨k+1,e⟩)
   ·exact p2 (k+1) (by omega) (by omega)
 have:=key (per S j - 1) (by omega)
 rw[Nat.sub_add_cancel p0,p1] at this
 exact⟨_,this⟩
theorem qeq{n:Nat}{S:Nat→Nat}(h:aM n S){i j:Nat}(hi:i<n)(hj:j<n)(hs:¬ aH S i j):bT (fun x=>S (iO i j x)) n+1≤bT S n:=by
 rw[QT n _ i j,QT n S i j,ZY h hi hj]
 have h1:=qnl (h.tw hi hj) hi hj (qnn h hi hj hs)
 have h2:=qnm h hi hj hs
 omega
theorem U2{n:Nat}(hn:0<n):aM n (fun i=>(i+1) % n) :=
 ⟨fun _ _=>Nat.mod_lt _ hn,fun _ _ hd he hh=>U3 hd he hh⟩
theorem Z7{n:Nat}:∀ k,k<n→bg (fun i=>(i+1) % n) k 0=k
 | 0,_=>rfl
 | k+1,hk=>by
  show (bg (fun i=>(i+1) % n) k 0+1) % n=k+1
  rw[Z7 k (by omega),Nat.mod_eq_of_lt hk]
theorem Z8{n:Nat}(hn:0<n):bT (fun i=>(i+1) % n) n≤1:=by
 have h:=U2 hn
 have:=uj ((List.range n).filter fun x=>rep (fun i=>(i+1) % n) x == x) [0] (List.Pairwise.filter _ List.nodup_range) (fun x hx=>by
  simp only [List.mem_filter,List.mem_range,beq_iff_eq] at hx
  obtain⟨hx,hr⟩:=hx
  have h1:rep (fun i=>(i+1) % n) x≤0:=h.iP hx (h.bF hn ⟨x,Z7 x hx⟩)
  simp;omega)
 simpa [bT] using this
structure JI (n:Nat)(al:Nat→Nat):Prop where
 lt:∀ i,i<n→al i<n
 inv:∀ i,i<n→al (al i)=i
def mR(al:Nat→Nat)(P:Nat→Bool)(i:Nat):Nat:=if P (min i (al i)) then al i else i
theorem U4{n:Nat}{al:Nat→Nat}(h:JI n al)(P:Nat→Bool){j:Nat}(hj:j<n)(hjl:j<al j)(hP:P j=false){x:Nat}(hx:x<n) :
  mR al (fun y=>P y || y == j) x=mR al P (iO j (al j) x):=by
 have hi:=h.inv j hj
 unfold mR iO
 by_cases h1:x=j
 ·subst h1
  rw[if_pos rfl,hi,Nat.min_eq_left (Nat.le_of_lt hjl),Nat.min_eq_right (Nat.le_of_lt hjl),hP]
  simp
 ·rw[if_neg h1]
  by_cases h2:x=al j
  ·subst h2
   rw[if_pos rfl,hi,Nat.min_eq_right (Nat.le_of_lt hjl),Nat.min_eq_left (Nat.le_of_lt hjl),hP]
   simp
  ·rw[if_neg h2]
   have h3:al x≠j:=fun e=>h2 (by rw[← e,h.inv x hx])
   have h4:min x (al x)≠j:=by omega
   simp[h4]
theorem Bg{n:Nat}{al:Nat→Nat}(h:JI n al)(hn:0<n)(P:Nat→Bool):aM n (fun i=>(mR al P i+1) % n):=by
 have hlt:∀ i,i<n→mR al P i<n:=fun i hi=>by
  unfold mR
  split
  ·exact h.lt i hi
  ·exact hi
 have hinv:∀ i,i<n→mR al P (mR al P i)=i:=fun i hi=>by
  unfold mR
  by_cases hp:P (min i (al i))=true
  ·rw[if_pos hp,h.inv i hi,Nat.min_comm,if_pos hp]
  ·rw[if_neg hp,if_neg hp]
 refine⟨fun i _=>Nat.mod_lt _ hn,fun d e hd he hh=>?_⟩
 have:=U3 (hlt d hd) (hlt e he) hh
 rw[← hinv d hd,this,hinv e he]
def qK(al:Nat→Nat)(a b j:Nat):Nat:=((List.range j).filter fun i=>decide (i<al i) && !(i == a || i == b)).length
theorem qj2(al:Nat→Nat)(a b j:Nat):qK al a b (j+1)=qK al a b j+if j<al j∧¬ (j=a∨j=b) then 1 else 0:=by
 unfold qK
 rw[List.range_succ,List.filter_append,List.length_append]
 by_cases h1:j<al j <;> by_cases h2:j=a <;> by_cases h3:j=b <;> simp[h1,h2,h3]
theorem Z9{n:Nat}{al:Nat→Nat}(h:JI n al)(hn:0<n)(a b:Nat):∀ j,j≤n →
  bT (fun i=>(mR al (fun y=>decide (y<j) || (y == a || y == b)) i+1) % n) n≤bT (fun i=>(mR al (fun y=>y == a || y == b) i+1) % n) n+qK al a b j:=by
 intro j
 induction j with
 | zero =>
  intro _
  have e:(fun y:Nat=>decide (y<0) || (y == a || y == b))=(fun y=>y == a || y == b):=by funext y;simp
  rw[e];exact Nat.le_add_right _ _
 | succ j ih =>
  intro hj
  have ih:=ih (by omega)
  rw[qj2]
  by_cases hab:j=a∨j=b
  ·have e:(fun y:Nat=>decide (y<j+1) || (y == a || y == b))=(fun y=>decide (y<j) || (y == a || y == b)):=by
    funext y
    by_cases hy:y=j
    ·subst hy
     rcases hab with e|e <;> simp[e]
    ·have:decide (y<j+1)=decide (y<j):=by congr 1;apply propext;omega
     rw[this]
   rw[e,if_neg (fun hh=>hh.2 hab)]
   exact ih
  ·by_cases hjl:j<al j
   ·rw[if_pos ⟨hjl,hab⟩]
    have e:∀ x,x<n→(mR al (fun y=>decide (y<j+1) || (y == a || y == b)) x+1) % n=(mR al (fun y=>decide (y<j) || (y == a || y == b)) (iO j (al j) x)+1) % n:=by
     intro x hx
     have hP:(decide (j<j) || (j == a || j == b))=false:=by simp;omega
     rw[← U4 h (fun y=>decide (y<j) || (y == a || y == b)) (by omega) hjl hP hx]
     have e2:(fun y:Nat=>decide (y<j+1) || (y == a || y == b))=(fun y=>(decide (y<j) || (y == a || y == b)) || y == j):=by
      funext y
      rcases Nat.lt_trichotomy y j with h1|h1|h1
      ·have h2:y<j+1:=by omega
       simp[h1,h2]
      ·subst h1;simp
      ·have h2:¬ y<j+1:=by omega
       have h3:¬ y<j:=by omega
       have h4:¬ y=j:=by omega
       simp[h2,h3,h4]
     rw[e2]
    have h1:=Bg h hn (fun y=>decide (y<j) || (y == a || y == b))
    have h2:=Bg h hn (fun y=>decide (y<j+1) || (y == a || y == b))
    have h3:=h1.tw (i:=j) (j:=al j) (by omega) (h.lt j (by omega))
    rw[CK h2 h3 e n (Nat.le_refl _)]
    have:=Z5 h1 (i:=j) (j:=al j) (by omega) (h.lt j (by omega))
    omega
   ·rw[if_neg (fun hh=>hjl hh.1)]
    have e:∀ x,x<n→(mR al (fun y=>decide (y<j+1) || (y == a || y == b)) x+1) % n=(mR al (fun y=>decide (y<j) || (y == a || y == b)) x+1) % n:=by
     intro x hx
     unfold mR
     by_cases h1:min x (al x)=j
     ·have h2:al x=x:=by
       have CO:=h.inv x hx
       rcases Nat.lt_trichotomy x (al x) with h2|h2|h2
       ·exfalso;apply hjl;rw[← h1,Nat.min_eq_left (Nat.le_of_lt h2)];exact h2
       ·exact h2.symm
       ·exfalso;apply hjl;rw[← h1,Nat.min_eq_right (Nat.le_of_lt h2),CO];exact h2
      rw[h2];simp
     ·have:decide (min x (al x)<j+1)=decide (min x (al x)<j):=by congr 1;apply propext;omega
      simp only [this]
    rw[CK (Bg h hn _) (Bg h hn _) e n (Nat.le_refl _)]
    exact ih
theorem qlq{n:Nat}{al:Nat→Nat}{a b:Nat}(ha:a<n)(hb:b<n)(hab:a≠b)(hal:a<al a)(hbl:b<al b):qK al a b n+2=((List.range n).filter fun i=>decide (i<al i)).length:=by
 have h1:((List.range n).filter fun i=>decide (i<al i)).length=qK al a b n+((List.range n).filter fun i=>decide (i<al i) && (i == a || i == b)).length:=by
  unfold qK
  refine LU _ _ _ (fun x=>?_) (fun x=>?_) _
  ·cases decide (x<al x) <;> cases (x == a || x == b) <;> rfl
  ·cases decide (x<al x) <;> cases (x == a || x == b) <;> simp
 have h2:2≤((List.range n).filter fun i=>decide (i<al i) && (i == a || i == b)).length:=by
  have:=uj [a,b] ((List.range n).filter fun i=>decide (i<al i) && (i == a || i == b)) (by simp[hab]) (fun x hx=>by
   simp only [List.mem_cons,List.not_mem_nil,or_false] at hx
   rcases hx with rfl|rfl
   ·simp[ha,hal]
   ·simp[hb,hbl])
  simpa using this
 have h3:((List.range n).filter fun i=>decide (i<al i) && (i == a || i == b)).length≤2:=by
  have:=uj ((List.range n).filter fun i=>decide (i<al i) && (i == a || i == b)) [a,b] (List.Pairwise.filter _ List.nodup_range) (fun x hx=>by
   simp only [List.mem_filter,Bool.and_eq_true,Bool.or_eq_true,beq_iff_eq] at hx
   rcases hx.2.2 with e|e <;> simp[e])
  simpa using this
 omega
theorem qfy{n:Nat}{al:Nat→Nat}(h:JI n al)(hF:((List.range n).filter fun i=>decide (i<al i)).length≤bT (fun i=>(al i+1) % n) n)
  {a b:Nat}(hb:b<n)(hab:a<b)(h1:b<al a)(h2:al a<al b):False:=by
 have hn:0<n:=by omega
 have ha:a<n:=by omega
 have hal:al a<n:=h.lt a ha
 have hbl:al b<n:=h.lt b hb
 have hm:=Z9 h hn a b n (Nat.le_refl _)
 have e1:∀ x,x<n→(mR al (fun y=>decide (y<n) || (y == a || y == b)) x+1) % n=(al x+1) % n:=by
  intro x hx
  unfold mR
  have:min x (al x)<n:=by omega
  simp[this]
 have U5:aM n (fun i=>(al i+1) % n):=(Bg h hn (fun y=>decide (y<n) || (y == a || y == b))).congr (fun d hd=>(e1 d hd).symm)
 rw[CK (Bg h hn _) U5 e1 n (Nat.le_refl _)] at hm
 have hc:=U2 hn
 have hT1:=hc.tw (i:=a) (j:=al a) ha hal
 have CP:=hT1.tw (i:=b) (j:=al b) hb hbl
 have e2:∀ x,x<n→(mR al (fun y=>y == a || y == b) x+1) % n=(fun d=>(fun i=>(i+1) % n) (iO a (al a) d)) (iO b (al b) x):=by
  intro x hx
  show (mR al (fun y=>y == a || y == b) x+1) % n=(iO a (al a) (iO b (al b) x)+1) % n
  have ia:=h.inv a ha
  have ib:=h.inv b hb
  have s1:=U4 h (fun y=>y == a) hb (by omega) (by simp;omega) hx
  rw[s1]
  have s2:=U4 h (fun _=>false) ha (by omega) rfl (x:=iO b (al b) x) (QO hb hbl hx)
  have e3:(fun y:Nat=>false || y == a)=(fun y=>y == a):=by funext y;simp
  rw[e3] at s2
  rw[s2]
  unfold mR
  simp
 rw[CK (Bg h hn _) CP e2 n (Nat.le_refl _)] at hm
 have c1:=Z8 hn
 have c2:=Z5 hc (i:=a) (j:=al a) ha hal
 have hsep:¬ aH (fun x=>(fun i=>(i+1) % n) (iO a (al a) x)) b (al b):=by
  rintro⟨k,hk⟩
  have inv:∀ k,a<bg (fun x=>(fun i=>(i+1) % n) (iO a (al a) x)) k b∧bg (fun x=>(fun i=>(i+1) % n) (iO a (al a) x)) k b≤al a:=by
   intro k
   induction k with
   | zero=>exact⟨hab,Nat.le_of_lt h1⟩
   | succ k ih =>
    obtain⟨i1,i2⟩:=ih
    generalize hx:bg (fun x=>(fun i=>(i+1) % n) (iO a (al a) x)) k b=x at i1 i2
    have e4:bg (fun x=>(fun i=>(i+1) % n) (iO a (al a) x)) (k+1) b=(iO a (al a) x+1) % n:=by rw[← hx];rfl
    rw[e4]
    unfold iO
    rw[if_neg (by omega)]
    by_cases hxa:x=al a
    ·rw[if_pos hxa,Nat.mod_eq_of_lt (by omega)]
     omega
    ·rw[if_neg hxa,Nat.mod_eq_of_lt (by omega)]
     omega
  have:=(inv k).2
  rw[hk] at this
  omega
 have c3:=qeq hT1 hb hbl hsep
 have c4:=qlq ha hb (by omega) (by omega:a<al a) (by omega:b<al b)
 omega
end
section
structure qL (n:Nat)(S:Nat→Nat)(root T:Nat)(D:Nat→Nat)(ks:List Nat):Prop where
 len:ks.length=T
 pos:0<T
 zero:D 0=root
 lt:∀ i,i<T→D i<n
 inj:∀ i j,i<T→j<T→D i=D j→i=j
 sN:∀ x,x<n→aJ n S root x→∃ i,i<T∧D i=x
 next:∀ i,i<T→D ((i+1) % T)=S (if ks.getD i 0<2 then mt (D i) else D i)
 right:bZ ks
 close:∀ i,ks[i]? = some 1→∃ j,fO ks 0 j i∧D j=mt (D i)
 rgt:∀ i,ks[i]? = some 3→∃ j,j<i∧ks[j]? = some 2∧D j=mt (D i)
 fst:∀ i k,ks[i]? = some k→k % 2=0→∀ j,j<i→D j≠mt (D i)
 met:∀ i,i<T→aH S (D i) root∨∃ j,ks[j]? = some 0∧aH S (D i) (mt (D j))
 new:∀ i j,ks[i]? = some 0→j<i→¬ aH S (D j) (mt (D i))
theorem U6(S aC:Nat→Nat)(root:Nat):∀ m j,∃ l,(aX S aC root (j+m)).2=(aX S aC root j).2 ++ l
 | 0,j=>⟨[],by simp⟩
 | m+1,j=>by
  obtain⟨l,hl⟩:=U6 S aC root m j
  refine⟨l ++ [((aX S aC root (j+m)).1,bJ aC root (aX S aC root (j+m)).2 (aX S aC root (j+m)).1)],?_⟩
  rw[← List.append_assoc,← hl]
  rfl
theorem En(S aC:Nat→Nat)(root:Nat){i T:Nat}(hi:i<T):(aX S aC root T).2[i]? = some ((aX S aC root i).1,bJ aC root (aX S aC root i).2 (aX S aC root i).1):=by
 obtain⟨l,hl⟩:=U6 S aC root (T - (i+1)) (i+1)
 rw[show i+1+(T - (i+1))=T by omega] at hl
 rw[hl,List.getElem?_append_left (by rw[rO];omega)]
 show ((aX S aC root i).2 ++ [_])[i]? = _
 rw[List.getElem?_append_right (by rw[rO];omega),rO]
 simp
theorem qno(S aC:Nat→Nat)(root:Nat){i T:Nat}(hi:i≤T):(aX S aC root T).2.take i=(aX S aC root i).2:=by
 obtain⟨l,hl⟩:=U6 S aC root (T - i) i
 rw[show i+(T - i)=T by omega] at hl
 rw[hl,List.take_append_of_le_length (by rw[rO];omega),List.take_of_length_le (by rw[rO];omega)]
theorem U7(S aC:Nat→Nat)(root:Nat){i:Nat}{x k:Nat}(h:(x,k) ∈ (aX S aC root i).2):∃ j,j<i∧(aX S aC root j).1=x∧bJ aC root (aX S aC root j).2 (aX S aC root j).1=k:=by
 obtain⟨j,hj,hjx⟩:=List.mem_iff_getElem.1 h
 rw[rO] at hj
 have:=En S aC root hj
 rw[List.getElem?_eq_getElem (by rw[rO];exact hj),hjx] at this
 simp only [Option.some.injEq,Prod.mk.injEq] at this
 exact⟨j,hj,this.1.symm,this.2.symm⟩
theorem dZ.wW{n:Nat}{S aC:Nat→Nat}(h:aM n S){root r:Nat}{f:Fr}{rest:List Fr}{d:Nat}{out:List (Nat × Nat)}(I:dZ n S aC root r (f :: rest) d out)(hd:¬ vis out d)(hm:(mt d,0) ∈ out) :
  f.k+1=per S f.a∧out[f.o]? = some (mt d,0):=by
 have hc:=I.chain
 have hcur:d=bg S f.k f.a:=I.cur
 have hlast:f.k+1=per S f.a:=by
  rcases I.half (mt d) 0 hm (by rw[bD];exact hd) with⟨_,g,hg,hgl⟩|h2
  ·rw[bD] at hgl
   rcases List.mem_cons.1 hg with rfl|hg
   ·have hfa:=hc.1.1
    have hp:=(h.aZ hfa).1
    have:=h.lH hfa (i:=per S g.a - 1) (j:=g.k) (by omega) hc.1.2.1 (by rw[hgl,hcur])
    omega
   ·exfalso
    have h1:=(List.pairwise_cons.1 I.apart).1 g hg
    have hga:=(hc.2.lt g hg).1
    exact h1 (aH.trans (show aH S f.a d from ⟨f.k,hcur.symm⟩) (h.bF hga ⟨_,hgl⟩))
  ·omega
 refine⟨hlast,?_⟩
 have h1:=hc.1.2.2.2.1
 have h2:=hc.1.2.2.2.2
 have h3:per S f.a - 1=f.k:=by omega
 rw[h3,← hcur] at h1
 rw[h2,h1,bD]
theorem QU{n:Nat}{S aC:Nat→Nat}(h:aM n S)(he:n % 2=0)(hv:∀ x y,x<n→y<n→(aC x=aC y↔aH S x y)){root:Nat}(hr:root<n) :
  ∃ T,eu n S aC root T∧(aX S aC root T).1=root∧qL n S root T (fun i=>(aX S aC root i).1) (gq (aX S aC root T).2):=by
 have Bd:∀ x,x<n→aC (S x)=aC x:=fun x hx=>((hv x (S x) hx (h.lt x hx)).2 (aH.step S x)).symm
 obtain⟨T,r,I,hd,hall⟩:=ZT h he hv hr n 0 0 [] (by omega) (QN hv hr) (fun i hi=>by omega)
 have key:∀ j,j≤T→∃ r st pend,dZ n S aC root r st (aX S aC root j).1 (aX S aC root j).2∧sJ (aX S aC root j).2 st pend:=by
  intro j
  induction j with
  | zero=>intro _;exact⟨0,[],[],QN hv hr,ZU⟩
  | succ j ih =>
   intro hj
   obtain⟨r1,st1,pend,I1,W1⟩:=ih (by omega)
   obtain⟨r2,st2,I2,hn2⟩:=hall j (by omega)
   obtain⟨f1,f2,f3⟩:=I2.fresh h hr hn2
   have hn1:¬ gZ S root r1 st1:=fun hd1=>f3 (I1.all h hr hd1 Bd f2)
   obtain⟨r3,oQ,hs,I3⟩:=I1.step h he hv hr hn1
   obtain⟨sK,W3⟩:=W1.step h hr I1 f3 hs
   exact⟨r3,oQ,sK,I3,W3⟩
 have hcur:∀ j,j<T→(aX S aC root j).1<n∧¬ vis (aX S aC root j).2 (aX S aC root j).1:=fun j hj=>by
  obtain⟨r2,st2,I2,hn2⟩:=hall j hj
  obtain⟨f1,f2,f3⟩:=I2.fresh h hr hn2
  exact⟨f1,f3⟩
 have hT0:0<T:=by
  rcases Nat.eq_zero_or_pos T with h0|h0
  ·exfalso
   subst h0
   have:=I.all h hr hd Bd (aJ.refl n S root)
   exact QM _ this
  ·exact h0
 obtain⟨T',hE⟩:=qnr h he hv hr
 have hend:(aX S aC root T).1=root:=by
  have h1:=I.cur
  rw[h1]
  show bg S r root=root
  rw[hd.2]
  exact (h.aZ hr).2.2.1
 have LV:T'=T:=by
  have h2:(aX S aC root T').1=(aX S aC root T').1:=rfl
  rcases Nat.lt_trichotomy T' T with hlt|heq|hlt
  ·exfalso
   obtain⟨h3,h4⟩:=hcur T' hlt
   have h5:=(hall T' hlt)
   obtain⟨r2,st2,I2,hn2⟩:=h5
   obtain⟨f1,f2,f3⟩:=I2.fresh h hr hn2
   exact f3 ((hE.sN _ f1).1 f2)
  ·exact heq
  ·exfalso
   obtain⟨h3,h4⟩:=hE.cur T hlt
   exact h4 (I.all h hr hd Bd (by rw[hend];exact aJ.refl n S root))
 subst LV
 have hks:(gq (aX S aC root T').2).length=T':=by rw[GL,rO]
 have sO:∀ i,i<T'→(gq (aX S aC root T').2)[i]? = some (bJ aC root (aX S aC root i).2 (aX S aC root i).1):=fun i hi=>by
  unfold gq
  rw[List.getElem?_map,En S aC root hi];rfl
 have hkt:∀ i,i≤T'→(gq (aX S aC root T').2).take i=gq (aX S aC root i).2:=fun i hi=>by
  unfold gq
  rw[← List.map_take,qno S aC root hi]
 have hinj:∀ i j,i<j→j<T'→(aX S aC root i).1≠(aX S aC root j).1:=fun i j hij hj e=>by
  have:=En S aC root (T:=j) hij
  exact (hcur j hj).2 ⟨_,e ▸ List.mem_of_getElem? this⟩
 refine⟨T',hE,hend,?_⟩
 refine { len:=hks,pos:=hT0,zero:=rfl,lt:=fun i hi=>(hcur i hi).1,inj:=?_,sN:=?_,next:=?_,right:=hE.right,close:=?_,rgt:=?_,fst:=?_,met:=?_,new:=?_ }
 ·intro i j hi hj e
  rcases Nat.lt_trichotomy i j with hlt|heq|hlt
  ·exact absurd e (hinj i j hlt hj)
  ·exact heq
  ·exact absurd e.symm (hinj j i hlt hi)
 ·intro x hx hc
  obtain⟨k,hk⟩:=(hE.sN x hx).1 hc
  obtain⟨j,hj,h1,_⟩:=U7 S aC root hk
  exact⟨j,hj,h1⟩
 ·intro i hi
  have h1:(aX S aC root (i+1)).1=S (if bJ aC root (aX S aC root i).2 (aX S aC root i).1<2 then mt (aX S aC root i).1 else (aX S aC root i).1):=rfl
  rw[iE (sO i hi),← h1]
  rcases Nat.lt_or_ge (i+1) T' with h2|h2
  ·rw[Nat.mod_eq_of_lt h2]
  ·obtain rfl:i+1=T':=by omega
   rw[Nat.mod_self,hend];rfl
 ·intro i hi
  have hil:i<T':=by have:=fK hi;omega
  have hki:=sO i hil
  rw[hki] at hi
  have hk1:=Option.some.inj hi
  obtain⟨r1,st1,pend,I1,W1⟩:=key i (by omega)
  obtain⟨r2,st2,I2,hn2⟩:=hall i hil
  obtain⟨f1,f2,f3⟩:=I2.fresh h hr hn2
  have hn1:¬ gZ S root r1 st1:=fun hd1=>f3 (I1.all h hr hd1 Bd f2)
  obtain⟨r3,oQ,hs,I3⟩:=I1.step h he hv hr hn1
  rw[hk1] at hs
  cases hs with
  | close f rest hst hm =>
   subst hst
   obtain⟨_,hfo⟩:=I1.wW h f3 hm
   have hfl:f.o<i:=by have:=fK hfo;rwa [rO] at this
   have hO:=W1.own.1
   have sM:=W1.dep
   rw[rO] at sM
   have zl:∀ p,p≤i→DD (gq (aX S aC root T').2) p=DD (gq (aX S aC root i).2) p:=fun p hp=>by
    unfold DD
    rw[← hkt i (by omega),List.take_take,Nat.min_eq_left hp]
   have hat:=En S aC root (T:=i) hfl
   rw[hfo] at hat
   simp only [Option.some.injEq,Prod.mk.injEq] at hat
   refine⟨f.o,⟨hfl,by omega,?_,by rw[hki,hk1],?_,?_⟩,hat.1.symm⟩
   ·rw[sO f.o (by omega),← hat.2]
   ·rw[dF (show i+1≤_ by omega),dF (show f.o≤_ by omega),yx (by rw[hki,hk1]),zl i (Nat.le_refl _),zl f.o (by omega),hO.2.1,sM]
    simp[dd]
    omega
   ·intro p hp1 hp2
    rw[dF (show p≤_ by omega),dF (show f.o≤_ by omega),zl p hp2,zl f.o (by omega),hO.2.1]
    exact hO.2.2 p hp1 (by rw[GL,rO];exact hp2)
 ·intro i hi
  have hil:i<T':=by have:=fK hi;omega
  have hki:=sO i hil
  rw[hki] at hi
  have hk3:=Option.some.inj hi
  unfold bJ at hk3
  rcases GH (hcur i hil).2 with⟨k,hf,hm⟩|⟨hf,_⟩
  ·rw[hf] at hk3
   simp only at hk3
   obtain⟨j,hj,h1,h2⟩:=U7 S aC root hm
   refine⟨j,hj,?_,h1⟩
   rw[sO j (by omega),h2];congr 1;omega
  ·rw[hf] at hk3
   simp only at hk3
   split at hk3 <;> omega
 ·intro i k hi hk j hj e
  have hil:i<T':=by have:=fK hi;omega
  have hki:=sO i hil
  rw[hki] at hi
  have hk3:=Option.some.inj hi
  unfold bJ at hk3
  rcases GH (hcur i hil).2 with⟨k',hf,hm⟩|⟨hf,hm⟩
  ·rw[hf] at hk3
   simp only at hk3
   obtain⟨r1,st1,pend,I1,W1⟩:=key i (by omega)
   rcases I1.half _ _ hm (by rw[bD];exact (hcur i hil).2) with⟨h0,_⟩|h2
   ·omega
   ·omega
  ·have:=En S aC root (T:=i) hj
   exact hm ⟨_,e ▸ List.mem_of_getElem? this⟩
 ·intro i hi
  obtain⟨r1,st1,pend,I1,W1⟩:=key T' (Nat.le_refl _)
  have U8:vis (aX S aC root T').2 (aX S aC root i).1:=⟨_,List.mem_of_getElem? (En S aC root hi)⟩
  have hmt:dB aC root (aX S aC root T').2 (aC (aX S aC root i).1)=true:=by
   cases hb:dB aC root (aX S aC root T').2 (aC (aX S aC root i).1)
   ·exact absurd U8 (I1.jY _ (hcur i hi).1 hb)
   ·rfl
  unfold dB at hmt
  rw[Bool.or_eq_true,beq_iff_eq,List.any_eq_true] at hmt
  rcases hmt with e|⟨⟨x,k⟩,hx,hxk⟩
  ·exact .inl ((hv _ _ (hcur i hi).1 hr).1 e)
  ·rw[Bool.and_eq_true,beq_iff_eq,beq_iff_eq] at hxk
   obtain⟨j,hj,h1,h2⟩:=U7 S aC root hx
   have h3:k=0:=hxk.1
   refine .inr ⟨j,by rw[sO j hj,h2,h3],?_⟩
   have h4:aC (mt x)=aC (aX S aC root i).1:=hxk.2
   show aH S (aX S aC root i).1 (mt (aX S aC root j).1)
   rw[h1]
   exact (hv _ _ (hcur i hi).1 (aU he (by rw[← h1];exact (hcur j hj).1))).1 h4.symm
 ·intro i j hi hj e
  have hil:i<T':=by have:=fK hi;omega
  have hki:=sO i hil
  rw[hki] at hi
  have hk0:=Option.some.inj hi
  unfold bJ at hk0
  rcases GH (hcur i hil).2 with⟨k',hf,hm⟩|⟨hf,hm⟩
  ·rw[hf] at hk0;simp only at hk0;omega
  ·rw[hf] at hk0
   simp only at hk0
   obtain⟨r1,st1,pend,I1,W1⟩:=key i (by omega)
   have hnm:dB aC root (aX S aC root i).2 (aC (mt (aX S aC root i).1))=false:=by
    cases hb:dB aC root (aX S aC root i).2 (aC (mt (aX S aC root i).1))
    ·rfl
    ·rw[hb] at hk0;simp at hk0
   have U8:vis (aX S aC root i).2 (aX S aC root j).1:=⟨_,List.mem_of_getElem? (En S aC root hj)⟩
   have hjl:=(hcur j (by omega)).1
   rw[← (hv _ _ hjl (aU he (hcur i hil).1)).2 e] at hnm
   exact I1.jY _ hjl hnm U8
section
variable {n:Nat} {S:Nat→Nat} {root T:Nat} {D:Nat→Nat} {ks:List Nat} (k:qL n S root T D ks)
include k
theorem qL.wd:Wd ks:=⟨k.right.k4,k.right.bal⟩
theorem qL.GN{i:Nat}(hi:i<T)(h2:ks.getD i 0<2):D (mp ks i)=mt (D i):=by
 have hw:=k.wd
 have hil:i<ks.length:=by rw[k.len];exact hi
 have key:∀ i,ks[i]? = some 1→D (mp ks i)=mt (D i):=by
  intro i h1
  obtain⟨j,hp,hj⟩:=k.close i h1
  have h3:=hw.lJ hp
  have h4:=hw.eX (i:=j) (by have:=hp.lt;have:=hp.le;omega)
  rw[h3] at h4
  rw[h4]
  exact hj
 obtain⟨s,hs,⟨h1,h3⟩|⟨h1,h3⟩⟩:=hw.cases hil
 ·rw[iE h1] at h2
  obtain rfl:s=0:=by omega
  have:=key _ h3.closes
  rw[hw.eX hil] at this
  rw[this,bD]
 ·rw[iE h1] at h2
  obtain rfl:s=0:=by omega
  exact key i h1
open Classical in
theorem qL.Eo(h:aM n S)(hr:root<n)(he:n % 2=0):((List.range n).filter fun x=>rep S x == x && decide (aJ n S root x)).length≤aW ks 0+1:=by
 have hlen:∀ m,m≤ks.length→(((List.range m).filter fun q=>ks[q]? == some 0).map fun q=>rep S (mt (D q))).length=aW (ks.take m) 0:=by
  intro m
  induction m with
  | zero=>intro _;simp[aW]
  | succ m ih =>
   intro hm
   have ih:=ih (by omega)
   rw[List.length_map] at ih ⊢
   have hg:=List.getElem?_eq_getElem (l:=ks) (i:=m) (by omega)
   rw[yj hg,← ih,List.range_succ,List.filter_append,List.length_append]
   by_cases h0:ks[m]=0 <;> simp[hg,h0]
 have h1:=uj ((List.range n).filter fun x=>rep S x == x && decide (aJ n S root x)) (rep S root :: (((List.range ks.length).filter fun q=>ks[q]? == some 0).map fun q=>rep S (mt (D q)))) (List.Pairwise.filter _ List.nodup_range) (fun x hx=>by
  simp only [List.mem_filter,List.mem_range,Bool.and_eq_true,beq_iff_eq,decide_eq_true_eq] at hx
  obtain⟨hx,hxr,hxc⟩:=hx
  obtain⟨i,hi,rfl⟩:=k.sN x hx hxc
  rcases k.met i hi with h2|⟨j,h2,h3⟩
  ·rw[← hxr,(h.eF hx hr).2 h2];simp
  ·have hj:=fK h2
   rw[← hxr,(h.eF hx (aU he (k.lt j (by rw[← k.len];exact hj)))).2 h3]
   exact List.mem_cons_of_mem _ (List.mem_map.2 ⟨j,List.mem_filter.2 ⟨List.mem_range.2 hj,by rw[h2];rfl⟩,rfl⟩))
 rw[List.length_cons,hlen ks.length (Nat.le_refl _),List.take_of_length_le (Nat.le_refl _)] at h1
 exact h1
noncomputable def wX(T:Nat)(D:Nat→Nat)(x:Nat):Nat:=open Classical in if h:∃ i,i<T∧D i=x then h.choose else 0
omit k in
theorem q5z{x:Nat}(hx:∃ i,i<T∧D i=x):wX T D x<T∧D (wX T D x)=x:=by
 unfold wX
 rw[dif_pos hx]
 exact hx.choose_spec
noncomputable def fq(T:Nat)(D:Nat→Nat)(ks:List Nat)(i:Nat):Nat:=if ks.getD i 0<2 then i else wX T D (mt (D i))
theorem qL.conn(he:n % 2=0):∀ i,i<T→aJ n S root (D i):=by
 intro i
 induction i with
 | zero=>intro _;rw[k.zero];exact aJ.refl _ _ _
 | succ i ih =>
  intro hi
  have ih:=ih (by omega)
  have h1:=k.next i (by omega)
  rw[Nat.mod_eq_of_lt hi] at h1
  rw[h1]
  have h2:=k.lt i (by omega)
  split
  ·exact (ih.trans (aJ.mate h2)).trans (aJ.turn (aU he h2))
  ·exact ih.trans (aJ.turn h2)
theorem qL.bR(he:n % 2=0){i:Nat}(hi:i<T):(ks[i]? = some 2→i<fq T D ks i∧fq T D ks i<T∧D (fq T D ks i)=mt (D i)∧ks[fq T D ks i]? = some 3) ∧
  (ks[i]? = some 3→fq T D ks i<i∧D (fq T D ks i)=mt (D i)∧ks[fq T D ks i]? = some 2):=by
 have hil:i<ks.length:=by rw[k.len];exact hi
 have hex:∃ j,j<T∧D j=mt (D i):=k.sN _ (aU he (k.lt i hi)) ((k.conn he i hi).trans (aJ.mate (k.lt i hi)))
 obtain⟨p1,p2⟩:=q5z hex
 refine⟨fun h2=>?_,fun h3=>?_⟩
 ·unfold fq
  rw[iE h2,if_neg (by omega)]
  generalize wX T D (mt (D i))=j at p1 p2
  have hj:=List.getElem?_eq_getElem (l:=ks) (i:=j) (by rw[k.len];exact p1)
  have hij:i<j:=by
   rcases Nat.lt_trichotomy i j with h1|h1|h1
   ·exact h1
   ·subst h1;exact absurd p2.symm (y5 _)
   ·exact absurd p2 (k.fst i 2 h2 (by omega) j h1)
  refine⟨hij,p1,p2,?_⟩
  have h4:=k.right.k4 _ (List.mem_of_getElem? hj)
  have hc4:ks[j]'(by rw[k.len];exact p1)=0∨ks[j]'(by rw[k.len];exact p1)=1∨ks[j]'(by rw[k.len];exact p1)=2∨ks[j]'(by rw[k.len];exact p1)=3:=by omega
  rcases hc4 with e|e|e|e
  ·rw[e] at hj
   exact absurd (by rw[p2,bD]) (k.fst j 0 hj (by omega) i hij)
  ·rw[e] at hj
   obtain⟨q,hq,hqj⟩:=k.close j hj
   rw[p2,bD] at hqj
   have:=k.inj q i (by have:=hq.lt;have:=hq.le;rw[← k.len];omega) hi hqj
   subst this
   have:=hq.opens
   rw[h2] at this
   simp at this
  ·rw[e] at hj
   exact absurd (by rw[p2,bD]) (k.fst j 2 hj (by omega) i hij)
  ·rw[hj,e]
 ·unfold fq
  rw[iE h3,if_neg (by omega)]
  obtain⟨j,hj,h4,h5⟩:=k.rgt i h3
  have:=k.inj _ j p1 (by omega) (by rw[p2,h5])
  rw[this]
  exact⟨hj,h5,h4⟩
theorem qL.U9(he:n % 2=0):JI T (fq T D ks):=by
 have key:∀ i,i<T→(ks.getD i 0<2∧fq T D ks i=i)∨ks[i]? = some 2∨ks[i]? = some 3:=by
  intro i hi
  have hg:=List.getElem?_eq_getElem (l:=ks) (i:=i) (by rw[k.len];exact hi)
  have h4:=k.right.k4 _ (List.mem_of_getElem? hg)
  by_cases h2:ks.getD i 0<2
  ·exact .inl ⟨h2,by unfold fq;rw[if_pos h2]⟩
  ·rw[iE hg] at h2
   right
   rw[hg]
   simp only [Option.some.injEq]
   omega
 refine⟨fun i hi=>?_,fun i hi=>?_⟩
 ·rcases key i hi with⟨_,e⟩|h2|h3
  ·omega
  ·exact ((k.bR he hi).1 h2).2.1
  ·have:=((k.bR he hi).2 h3).1
   omega
 ·rcases key i hi with⟨_,e⟩|h2|h3
  ·rw[e,e]
  ·obtain⟨h4,h5,h6,h7⟩:=(k.bR he hi).1 h2
   obtain⟨g4,g5,g6⟩:=(k.bR he h5).2 h7
   exact k.inj _ _ (by omega) hi (by rw[g5,h6,bD])
  ·obtain⟨h4,h5,h6⟩:=(k.bR he hi).2 h3
   obtain⟨g4,g5,g6,g7⟩:=(k.bR he (show fq T D ks i<T by omega)).1 h6
   exact k.inj _ _ g5 hi (by rw[g6,h5,bD])
theorem qL.face(he:n % 2=0){i:Nat}(hi:i<T):D ((fq T D ks i+1) % T)=S (mt (D i)):=by
 by_cases h2:ks.getD i 0<2
 ·have h1:fq T D ks i=i:=by unfold fq;rw[if_pos h2]
  rw[h1,k.next i hi,if_pos h2]
 ·have hg:=List.getElem?_eq_getElem (l:=ks) (i:=i) (by rw[k.len];exact hi)
  have h4:=k.right.k4 _ (List.mem_of_getElem? hg)
  rw[iE hg] at h2
  have h23:ks[i]'(by rw[k.len];exact hi)=2∨ks[i]'(by rw[k.len];exact hi)=3:=by omega
  rcases h23 with e|e
  ·rw[e] at hg
   obtain⟨h4,h5,h6,h7⟩:=(k.bR he hi).1 hg
   rw[k.next _ h5,iE h7,if_neg (by omega),h6]
  ·rw[e] at hg
   obtain⟨h4,h5,h6⟩:=(k.bR he hi).2 hg
   rw[k.next _ (by omega),iE h6,if_neg (by omega),h5]
open Classical in
theorem qL.faces(h:aM n S)(he:n % 2=0):((List.range n).filter fun x=>rep (fun d=>S (mt d)) x == x && decide (aJ n S root x)).length≤bT (fun i=>(fq T D ks i+1) % T) T:=by
 have hcd:=k.U9 he
 have hP:aM n (fun d=>S (mt d)):=⟨fun d hd=>h.lt _ (aU he hd),fun d e hd hen hh=>by
  have:=h.inj _ _ (aU he hd) (aU he hen) hh
  rw[← bD d,this,bD]⟩
 have hQ:aM T (fun i=>(fq T D ks i+1) % T):=(Bg hcd k.pos (fun _=>true)).congr (fun d _=>by simp[mR])
 have wY:∀ m i,i<T→D (bg (fun i=>(fq T D ks i+1) % T) m i)=bg (fun d=>S (mt d)) m (D i):=by
  intro m i hi
  induction m with
  | zero=>rfl
  | succ m ih =>
   show D ((fq T D ks (bg (fun i=>(fq T D ks i+1) % T) m i)+1) % T)=S (mt (bg (fun d=>S (mt d)) m (D i)))
   rw[k.face he (hQ.bV hi m),ih]
 have h1:=uj (((List.range n).filter fun x=>rep (fun d=>S (mt d)) x == x && decide (aJ n S root x)).map fun x=>rep (fun i=>(fq T D ks i+1) % T) (wX T D x)) ((List.range T).filter fun x=>rep (fun i=>(fq T D ks i+1) % T) x == x) (by
  rw[List.Nodup,List.pairwise_map]
  have hn:((List.range n).filter fun x=>rep (fun d=>S (mt d)) x == x && decide (aJ n S root x)).Nodup:=List.Pairwise.filter _ List.nodup_range
  refine List.Pairwise.imp_of_mem (fun {x y} hx hy hxy e=>hxy ?_) hn
  simp only [List.mem_filter,List.mem_range,Bool.and_eq_true,beq_iff_eq,decide_eq_true_eq] at hx hy
  obtain⟨p1,p2⟩:=q5z (k.sN x hx.1 hx.2.2)
  obtain⟨q1,q2⟩:=q5z (k.sN y hy.1 hy.2.2)
  obtain⟨m,hm⟩:=(hQ.eF p1 q1).1 e
  have h2:=wY m _ p1
  rw[hm,p2,q2] at h2
  rw[← hx.2.1,← hy.2.1]
  exact (hP.eF hx.1 hy.1).2 ⟨m,h2.symm⟩) (fun z hz=>by
  obtain⟨x,hx,rfl⟩:=List.mem_map.1 hz
  simp only [List.mem_filter,List.mem_range,Bool.and_eq_true,beq_iff_eq,decide_eq_true_eq] at hx ⊢
  obtain⟨p1,p2⟩:=q5z (k.sN x hx.1 hx.2.2)
  exact⟨hQ.jg p1,hQ.gV p1⟩)
 rw[List.length_map] at h1
 exact h1
omit k in
theorem QV{ks:List Nat}(x:Nat):∀ m,m≤ks.length→aW (ks.take m) x=((List.range m).filter fun q=>ks[q]? == some x).length:=by
 intro m
 induction m with
 | zero=>intro _;simp[aW]
 | succ m ih =>
  intro hm
  have hg:=List.getElem?_eq_getElem (l:=ks) (i:=m) (by omega)
  rw[yj hg,ih (by omega),List.range_succ,List.filter_append,List.length_append]
  by_cases h0:ks[m]=x <;> simp[hg,h0]
omit k in
theorem QW{ks:List Nat}(x:Nat){a m:Nat}(ham:a≤m)(hm:m≤ks.length):aW (ks.take m) x=aW (ks.take a) x+((List.range m).filter fun q=>decide (a≤q) && (ks[q]? == some x)).length:=by
 rw[QV x m hm,QV x a (by omega)]
 rw[LU (fun q=>ks[q]? == some x) (fun q=>decide (q<a) && (ks[q]? == some x)) (fun q=>decide (a≤q) && (ks[q]? == some x)) (fun q=>by
  by_cases h1:q<a
  ·have:¬ a≤q:=by omega
   simp[h1,this]
  ·have:a≤q:=by omega
   simp[h1,this]) (fun q=>by simp;omega)]
 congr 1
 obtain⟨c,rfl⟩:∃ c,m=a+c:=⟨m - a,by omega⟩
 rw[List.range_add,List.filter_append,List.length_append]
 have e1:(List.range a).filter (fun q=>decide (q<a) && (ks[q]? == some x))=(List.range a).filter (fun q=>ks[q]? == some x):=List.filter_congr (fun q hq=>by
  have:=List.mem_range.1 hq
  simp[this])
 have e2:((List.range c).map (a + ·)).filter (fun q=>decide (q<a) && (ks[q]? == some x))=[]:=by
  rw[List.filter_eq_nil_iff]
  intro q hq
  obtain⟨z,_,rfl⟩:=List.mem_map.1 hq
  simp;omega
 rw[e1,e2]
 rfl
theorem qL.GR(he:n % 2=0){V F:Nat}(hvs:V≤aW ks 0+1)(hfs:F≤bT (fun i=>(fq T D ks i+1) % T) T)(hpl:T / 2+1≤V+F){i:Nat}(hi:i<T):D (mp ks i)=mt (D i):=by
 have hw:=k.wd
 have hil:i<ks.length:=by rw[k.len];exact hi
 by_cases h2:ks.getD i 0<2
 ·exact k.GN hi h2
 have hcd:=k.U9 he
 have hoh:=hw.jB
 have hlen:=k.len
 have hcount:((List.range T).filter fun i=>decide (i<fq T D ks i)).length=aW ks 2:=by
  have h3:=QV 2 (ks:=ks) ks.length (Nat.le_refl _)
  rw[List.take_of_length_le (Nat.le_refl _)] at h3
  rw[h3,hlen]
  congr 1
  refine List.filter_congr (fun q hq=>?_)
  have hq:=List.mem_range.1 hq
  have hg:=List.getElem?_eq_getElem (l:=ks) (i:=q) (by omega)
  have h4:=k.right.k4 _ (List.mem_of_getElem? hg)
  by_cases h5:ks[q]'(by omega)=2
  ·rw[h5] at hg
   have:=((k.bR he hq).1 hg).1
   simp[hg,this]
  ·by_cases h6:ks[q]'(by omega)=3
   ·have hg3:=hg
    rw[h6] at hg3
    have h7:=((k.bR he hq).2 hg3).1
    have:¬ q<fq T D ks q:=by omega
    simp[hg3,this]
   ·have h7:fq T D ks q=q:=by
     unfold fq
     rw[iE hg,if_pos (by omega)]
    simp[hg,h5,h7]
 have hF:((List.range T).filter fun i=>decide (i<fq T D ks i)).length≤bT (fun i=>(fq T D ks i+1) % T) T:=by
  rw[hcount]
  omega
 have key:∀ i,i<T→ks[i]? = some 2→mp ks i=fq T D ks i:=by
  intro i hi h2
  obtain⟨h4,h5,h6,h7⟩:=(k.bR he hi).1 h2
  have hB1:=qb h2
  have LW:∀ q,i<q→q<fq T D ks i→ks[q]? = some 3→i<fq T D ks q∧fq T D ks q<q∧ks[fq T D ks q]? = some 2:=by
   intro q h8 h9 h10
   obtain⟨g1,g2,g3⟩:=(k.bR he (show q<T by omega)).2 h10
   have hne:fq T D ks q≠i:=fun e=>by
    have:=hcd.inv q (by omega)
    rw[e] at this;omega
   refine⟨?_,g1,g3⟩
   rcases Nat.lt_or_ge i (fq T D ks q) with g4|g4
   ·exact g4
   ·exfalso
    have hinv:=hcd.inv q (by omega)
    exact qfy hcd hF (a:=fq T D ks q) (b:=i) hi (by omega) (by rw[hinv];exact h8) (by rw[hinv];exact h9)
  have LX:∀ q,i<q→q<fq T D ks i→ks[q]? = some 2→q<fq T D ks q∧fq T D ks q<fq T D ks i∧ks[fq T D ks q]? = some 3:=by
   intro q h8 h9 h10
   obtain⟨g1,g2,g3,g4⟩:=(k.bR he (show q<T by omega)).1 h10
   have hne:fq T D ks q≠fq T D ks i:=fun e=>by
    have a1:=hcd.inv q (by omega)
    have a2:=hcd.inv i hi
    rw[e,a2] at a1;omega
   refine⟨g1,?_,g4⟩
   rcases Nat.lt_or_ge (fq T D ks q) (fq T D ks i) with g5|g5
   ·exact g5
   ·exfalso
    exact qfy hcd hF (a:=i) (b:=q) (by omega) h8 h9 (by omega)
  have hinj:∀ a b,a<T→b<T→fq T D ks a=fq T D ks b→a=b:=fun a b ha hb e=>by
   rw[← hcd.inv a ha,e,hcd.inv b hb]
  have zm:∀ p,i<p→p≤fq T D ks i→BB ks i<BB ks p:=by
   intro p hp1 hp2
   have c3:=QW (ks:=ks) 3 (a:=i+1) (m:=p) (by omega) (by omega)
   have c2:=QW (ks:=ks) 2 (a:=i+1) (m:=p) (by omega) (by omega)
   have hle:=uj (((List.range p).filter fun q=>decide (i+1≤q) && (ks[q]? == some 3)).map (fq T D ks)) ((List.range p).filter fun q=>decide (i+1≤q) && (ks[q]? == some 2)) (by
    rw[List.Nodup,List.pairwise_map]
    refine List.Pairwise.imp_of_mem (fun {x y} hx hy hxy e=>hxy ?_) ((List.Pairwise.filter _ List.nodup_range:((List.range p).filter fun q=>decide (i+1≤q) && (ks[q]? == some 3)).Nodup))
    simp only [List.mem_filter,List.mem_range] at hx hy
    exact hinj x y (by omega) (by omega) e) (fun z hz=>by
    obtain⟨x,hx,rfl⟩:=List.mem_map.1 hz
    simp only [List.mem_filter,List.mem_range,Bool.and_eq_true,decide_eq_true_eq,beq_iff_eq] at hx ⊢
    obtain⟨g1,g2,g3⟩:=LW x (by omega) (by omega) hx.2.2
    exact⟨by omega,by omega,g3⟩)
   rw[List.length_map] at hle
   have e1:bb 2=1:=rfl
   rw[e1] at hB1
   have b1:BB ks p=(aW (ks.take p) 2:Int) - aW (ks.take p) 3:=rfl
   have b2:BB ks (i+1)=(aW (ks.take (i+1)) 2:Int) - aW (ks.take (i+1)) 3:=rfl
   omega
  have hhit:BB ks (fq T D ks i+1)=BB ks i:=by
   have c3:=QW (ks:=ks) 3 (a:=i+1) (m:=fq T D ks i) (by omega) (by omega)
   have c2:=QW (ks:=ks) 2 (a:=i+1) (m:=fq T D ks i) (by omega) (by omega)
   have hle:=uj (((List.range (fq T D ks i)).filter fun q=>decide (i+1≤q) && (ks[q]? == some 2)).map (fq T D ks)) ((List.range (fq T D ks i)).filter fun q=>decide (i+1≤q) && (ks[q]? == some 3)) (by
    rw[List.Nodup,List.pairwise_map]
    refine List.Pairwise.imp_of_mem (fun {x y} hx hy hxy e=>hxy ?_) ((List.Pairwise.filter _ List.nodup_range:((List.range (fq T D ks i)).filter fun q=>decide (i+1≤q) && (ks[q]? == some 2)).Nodup))
    simp only [List.mem_filter,List.mem_range] at hx hy
    exact hinj x y (by omega) (by omega) e) (fun z hz=>by
    obtain⟨x,hx,rfl⟩:=List.mem_map.1 hz
    simp only [List.mem_filter,List.mem_range,Bool.and_eq_true,decide_eq_true_eq,beq_iff_eq] at hx ⊢
    obtain⟨g1,g2,g3⟩:=LX x (by omega) (by omega) hx.2.2
    exact⟨by omega,by omega,g3⟩)
   rw[List.length_map] at hle
   have hB3:=qb h7
   have hab:=zm (fq T D ks i) h4 (Nat.le_refl _)
   have e1:bb 2=1:=rfl
   have e3:bb 3=-1:=rfl
   rw[e1] at hB1
   rw[e3] at hB3
   have b1:BB ks (fq T D ks i)=(aW (ks.take (fq T D ks i)) 2:Int) - aW (ks.take (fq T D ks i)) 3:=rfl
   have b2:BB ks (i+1)=(aW (ks.take (i+1)) 2:Int) - aW (ks.take (i+1)) 3:=rfl
   omega
  refine hw.lJ (s:=1) ⟨h4,by omega,h2,h7,?_,fun p hp1 hp2=>?_⟩
  ·rw[fA (by omega),fA (by omega)];exact hhit
  ·rw[fA (by omega),fA (by omega)];exact zm p hp1 hp2
 have hg:=List.getElem?_eq_getElem (l:=ks) (i:=i) hil
 have h4:=k.right.k4 _ (List.mem_of_getElem? hg)
 rw[iE hg] at h2
 have h23:ks[i]=2∨ks[i]=3:=by omega
 rcases h23 with e|e
 ·rw[e] at hg
  rw[key i hi hg]
  exact ((k.bR he hi).1 hg).2.2.1
 ·rw[e] at hg
  obtain⟨g1,g2,g3⟩:=(k.bR he hi).2 hg
  have h5:=key _ (by omega) g3
  rw[hcd.inv i hi] at h5
  have h6:=hw.eX (i:=fq T D ks i) (by omega)
  rw[h5] at h6
  rw[h6]
  exact g2
theorem qL.GU(he:n % 2=0):((List.range T).filter fun i=>decide (i<fq T D ks i)).length=aW ks 2:=by
 have h3:=QV 2 (ks:=ks) ks.length (Nat.le_refl _)
 rw[List.take_of_length_le (Nat.le_refl _)] at h3
 rw[h3,k.len]
 congr 1
 refine List.filter_congr (fun q hq=>?_)
 have hq:=List.mem_range.1 hq
 have hg:=List.getElem?_eq_getElem (l:=ks) (i:=q) (by rw[k.len];exact hq)
 have h4:=k.right.k4 _ (List.mem_of_getElem? hg)
 by_cases h5:ks[q]'(by rw[k.len];exact hq)=2
 ·rw[h5] at hg
  have:=((k.bR he hq).1 hg).1
  simp[hg,this]
 ·by_cases h6:ks[q]'(by rw[k.len];exact hq)=3
  ·have hg3:=hg
   rw[h6] at hg3
   have h7:=((k.bR he hq).2 hg3).1
   have:¬ q<fq T D ks q:=by omega
   simp[hg3,this]
  ·have h7:fq T D ks q=q:=by
    unfold fq
    rw[iE hg,if_pos (by omega)]
   simp[hg,h5,h7]
omit k in
theorem qou{n:Nat}{al:Nat→Nat}(h:JI n al)(hn:0<n):bT (fun i=>(al i+1) % n) n≤((List.range n).filter fun i=>decide (i<al i)).length+1:=by
 have hm:=Z9 h hn n n n (Nat.le_refl _)
 have e1:∀ x,x<n→(mR al (fun y=>decide (y<n) || (y == n || y == n)) x+1) % n=(al x+1) % n:=by
  intro x hx
  unfold mR
  have:min x (al x)<n:=by omega
  simp[this]
 have hP:=Bg h hn (fun y=>decide (y<n) || (y == n || y == n))
 have U5:aM n (fun i=>(al i+1) % n):=hP.congr (fun d hd=>(e1 d hd).symm)
 rw[CK hP U5 e1 n (Nat.le_refl _)] at hm
 have e2:∀ x,x<n→(mR al (fun y=>y == n || y == n) x+1) % n=(x+1) % n:=by
  intro x hx
  unfold mR
  have h1:min x (al x)≠n:=by omega
  have h2:(min x (al x) == n)=false:=by rw[beq_eq_false_iff_ne];exact h1
  simp[h2]
 rw[CK (Bg h hn _) (U2 hn) e2 n (Nat.le_refl _)] at hm
 have c1:=Z8 hn
 have c2:qK al n n n≤((List.range n).filter fun i=>decide (i<al i)).length:=by
  have:=LU (fun i=>decide (i<al i)) (fun i=>decide (i<al i) && !(i == n || i == n)) (fun i=>decide (i<al i) && (i == n || i == n)) (fun x=>by cases decide (x<al x) <;> cases (x == n || x == n) <;> rfl) (fun x=>by cases decide (x<al x) <;> cases (x == n || x == n) <;> simp) (List.range n)
  unfold qK
  omega
 omega
open Classical in
theorem qL.zo(h:aM n S)(hr:root<n)(he:n % 2=0):((List.range n).filter fun x=>rep S x == x && decide (aJ n S root x)).length+((List.range n).filter fun x=>rep (fun d=>S (mt d)) x == x && decide (aJ n S root x)).length≤T / 2+2:=by
 have h1:=k.Eo h hr he
 have h2:=k.faces h he
 have h3:=qou (k.U9 he) k.pos
 rw[k.GU he] at h3
 have h4:=k.wd.jB
 have h5:=k.len
 omega
end
end
