import Derived.Lib.SmallJoins
import Derived.Test.YtalhcfjcbbkpgaaGreatZt0g
set_option maxRecDepth 100000
set_option maxHeartbeats 4000000
namespace Go.Proofs.YtalhcfjcbbkpgaaGreat
section
def kG(i j d:Nat):Nat:=if d=i then j else if d=j then i else d
theorem GK{n i j d:Nat}(a:i<n)(b:j<n)(c:d<n):kG i j d<n:=by
 unfold kG;split
 ·exact b
 ·split
  ·exact a
  ·exact c
theorem Jd(i j d:Nat):kG i j (kG i j d)=d:=by
 unfold kG;by_cases b:d=i
 ·by_cases a:j=i
  ·simp[b,a]
  ·simp[b,a]
 ·by_cases a:d=j
  ·simp[a]
  ·simp[b,a]
theorem Nj{i j d:Nat}(a:d≠i)(b:d≠j):kG i j d=d:=by unfold kG;rw[if_neg a,if_neg b]
theorem dU.tw{n:Nat}{S:Nat->Nat}(h:dU n S){i j:Nat}(a:i<n)(b:j<n):dU n (fun d=>S (kG i j d)) :=
 ⟨fun d c=>h.lt _ (GK a b c),fun d e c f g=>by have:=h.inj _ _ (GK a b c) (GK a b f) g;rw[<-Jd i j d,this,Jd]⟩
theorem GL{S:Nat->Nat}{i j d:Nat}(a:¬dK S d i)(b:¬dK S d j)(k:Nat):dN (fun x=>S (kG i j x)) k d=dN S k d:=by
 induction k with
 | zero=>rfl
 | succ k c =>
  show S (kG i j (dN (fun x=>S (kG i j x)) k d))=S (dN S k d);rw[c,Nj (fun e=>a ⟨k,e⟩) (fun e=>b ⟨k,e⟩)]
theorem ED(S:Nat->Nat)(i j:Nat):(fun x=>(fun y=>S (kG i j y)) (kG i j x))=S:=by funext x;show S (kG i j (kG i j x))=S x;rw[Jd]
theorem Nk{S:Nat->Nat}{i j d:Nat}(a:¬dK S d i)(b:¬dK S d j):¬dK (fun x=>S (kG i j x)) d i/\¬dK (fun x=>S (kG i j x)) d j:=by
 refine⟨?_,?_⟩
 ·rintro⟨k,hk⟩;exact a ⟨k,by rw[<-GL a b k];exact hk⟩
 ·rintro⟨k,hk⟩;exact b ⟨k,by rw[<-GL a b k];exact hk⟩
theorem TK{S:Nat->Nat}{i j d:Nat}(a:¬dK (fun x=>S (kG i j x)) d i)(b:¬dK (fun x=>S (kG i j x)) d j):¬dK S d i/\¬dK S d j:=by have h:=Nk a b;rwa [ED]at h
theorem TL{n:Nat}{S:Nat->Nat}(h:dU n S){i j d:Nat}(g:i<n)(l:j<n)(a:d<n)(c:¬dK S d i)(e:¬dK S d j):rep (fun x=>S (kG i j x)) d=rep S d:=by
 have f:=h.tw g l;refine Nat.le_antisymm (f.jU a ?_) (h.jU a ?_)
 ·obtain⟨k,b⟩:=h.fM a;exact⟨k,by rw[GL c e];exact b⟩
 ·obtain⟨k,b⟩:=f.fM a;exact⟨k,by rw[<-GL c e k];exact b⟩
noncomputable def EF(n:Nat)(S:Nat->Nat)(i j:Nat):List Nat:=open Classical in (List.range n).filter fun x=>decide (rep S x=x/\¬dK S x i/\¬dK S x j)
noncomputable def vG(n:Nat)(S:Nat->Nat)(i j:Nat):List Nat:=open Classical in (List.range n).filter fun x=>decide (rep S x=x/\¬(¬dK S x i/\¬dK S x j))
theorem EG{α:Type}(p q r:α->Bool)(h:∀x,p x=(q x || r x))(a:∀x,¬(q x=true/\r x=true)):∀l:List α,(l.filter p).length=(l.filter q).length+(l.filter r).length
 | []=>rfl
 | x :: l=>by have c:=EG p q r h a l;have b:=h x;have d:=a x;simp only [List.filter_cons];cases hq:q x <;> cases hr:r x <;> simp[hq,hr]at b d <;> simp[b,c] <;> omega
theorem GN(n:Nat)(S:Nat->Nat)(i j:Nat):dY S n=(EF n S i j).length+(vG n S i j).length:=by
 unfold dY EF vG;refine EG _ _ _ (fun x=>?_) (fun x=>?_) _
 ·by_cases c:rep S x=x <;> by_cases d:(¬dK S x i/\¬dK S x j) <;> simp[c,d]
 ·simp only [decide_eq_true_eq];rintro⟨⟨_,a⟩,_,b⟩;exact b a
theorem Nl{n:Nat}{S:Nat->Nat}(h:dU n S){i j:Nat}(e:i<n)(f:j<n):EF n (fun x=>S (kG i j x)) i j=EF n S i j:=by
 unfold EF;refine List.filter_congr (fun x b=>?_);have b:=List.mem_range.1 b;by_cases a:(¬dK S x i/\¬dK S x j)
 ·have c:=Nk a.1 a.2;have g:=TL h e f b a.1 a.2;simp only [a,c,g]
 ·have c:¬(¬dK (fun y=>S (kG i j y)) x i/\¬dK (fun y=>S (kG i j y)) x j):=fun d=>a (TK d.1 d.2);simp[a,c]
theorem qh{n:Nat}{S:Nat->Nat}(h:dU n S){i j x:Nat}(d:i<n)(e:j<n)(a:x ∈ vG n S i j):x=rep S i\/x=rep S j:=by
 unfold vG at a;simp only [List.mem_filter,List.mem_range,decide_eq_true_eq]at a;obtain⟨a,hr,f⟩:=a;by_cases b:dK S x i
 ·left;rw[<-hr];exact(h.iN a d).2 b
 ·by_cases c:dK S x j
  ·right;rw[<-hr];exact(h.iN a e).2 c
  ·exact absurd ⟨b,c⟩ f
theorem TM{n:Nat}{S:Nat->Nat}(h:dU n S){i j:Nat}(a:i<n)(b:j<n):(vG n S i j).length<=2:=by have:=sV (vG n S i j) [rep S i,rep S j] (List.Pairwise.filter _ List.nodup_range) (fun x c=>by rcases qh h a b c with e|e <;> simp[e]);simpa using this
theorem TN{n:Nat}{S:Nat->Nat}(h:dU n S){i j:Nat}(a:i<n)(b:j<n)(d:dK S i j):(vG n S i j).length<=1:=by have e:=(h.iN a b).2 d;have:=sV (vG n S i j) [rep S i] (List.Pairwise.filter _ List.nodup_range) (fun x f=>by rcases qh h a b f with c | c <;> simp[c,e]);simpa using this
theorem Nn{n:Nat}{S:Nat->Nat}(h:dU n S){i j:Nat}(a:i<n)(b:j<n):rep S i ∈ vG n S i j/\rep S j ∈ vG n S i j:=by unfold vG;simp only [List.mem_filter,List.mem_range,decide_eq_true_eq];exact⟨⟨h.lg a,h.iO a,fun c=>c.1 (h.eU a (h.fM a))⟩,⟨h.lg b,h.iO b,fun c=>c.2 (h.eU b (h.fM b))⟩⟩
theorem TP{n:Nat}{S:Nat->Nat}(h:dU n S){i j:Nat}(a:i<n)(b:j<n):1<=(vG n S i j).length :=
 List.length_pos_of_mem (Nn h a b).1
theorem TQ{n:Nat}{S:Nat->Nat}(h:dU n S){i j:Nat}(b:i<n)(c:j<n)(g:¬dK S i j):2<=(vG n S i j).length:=by
 have a:rep S i≠rep S j:=fun e=>g ((h.iN b c).1 e)
 have:=sV [rep S i,rep S j] (vG n S i j) (by simp[a]) (fun x d=>by
  have f:=Nn h b c;simp only [List.mem_cons,List.not_mem_nil,or_false]at d;rcases d with rfl|rfl
  ·exact f.1
  ·exact f.2)
 simpa using this
theorem Np{n:Nat}{S:Nat->Nat}(h:dU n S){i j:Nat}(a:i<n)(b:j<n):dY (fun x=>S (kG i j x)) n<=dY S n+1:=by rw[GN n _ i j,GN n S i j,Nl h a b];have c:=TM (h.tw a b) a b;have d:=TP h a b;omega
theorem TR{n:Nat}{S:Nat->Nat}(h:dU n S){i j:Nat}(_hi:i<n)(b:j<n)(c:¬dK S i j):dK (fun x=>S (kG i j x)) i j:=by
 obtain⟨d,_,f,g⟩:=h.dQ b
 have a:∀k,k+1<=per S j->dN (fun x=>S (kG i j x)) (k+1) i=dN S (k+1) j:=by
  intro k
  induction k with
  | zero =>
   intro _;show S (kG i j i)=S j;unfold kG;rw[if_pos rfl]
  | succ k l =>
   intro m;show S (kG i j (dN (fun x=>S (kG i j x)) (k+1) i))=S (dN S (k+1) j);rw[l (by omega),Nj]
   ·intro e;exact c (h.eU b ⟨k+1,e⟩)
   ·exact g (k+1) (by omega) (by omega)
 have:=a (per S j - 1) (by omega);rw[Nat.sub_add_cancel d,f]at this;exact⟨_,this⟩
theorem TT{n:Nat}{S:Nat->Nat}(h:dU n S){i j:Nat}(a:i<n)(b:j<n)(c:¬dK S i j):dY (fun x=>S (kG i j x)) n+1<=dY S n:=by rw[GN n _ i j,GN n S i j,Nl h a b];have d:=TN (h.tw a b) a b (TR h a b c);have e:=TQ h a b c;omega
theorem Je{n:Nat}(a:0<n):dU n (fun i=>(i+1) % n) :=
 ⟨fun _ _=>Nat.mod_lt _ a,fun _ _ b c d=>IV b c d⟩
theorem Nq{n:Nat}:∀k,k<n->dN (fun i=>(i+1) % n) k 0=k
 | 0,_=>rfl
 | k+1,a=>by show (dN (fun i=>(i+1) % n) k 0+1) % n=k+1;rw[Nq k (by omega),Nat.mod_eq_of_lt a]
theorem Nr{n:Nat}(b:0<n):dY (fun i=>(i+1) % n) n<=1:=by have h:=Je b;have:=sV ((List.range n).filter fun x=>rep (fun i=>(i+1) % n) x == x) [0] (List.Pairwise.filter _ List.nodup_range) (fun x a=>by simp only [List.mem_filter,List.mem_range,beq_iff_eq]at a;obtain⟨a,hr⟩:=a;have c:rep (fun i=>(i+1) % n) x<=0:=h.jU a (h.eU b ⟨x,Nq x a⟩);simp;omega);simpa [dY]using this
structure DF (n:Nat)(al:Nat->Nat):Prop where
 lt:∀i,i<n->al i<n
 inv:∀i,i<n->al (al i)=i
def oN(a:Nat->Nat)(P:Nat->Bool)(i:Nat):Nat:=if P (min i (a i))then a i else i
theorem Jf{n:Nat}{b:Nat->Nat}(h:DF n b)(P:Nat->Bool){j:Nat}(i:j<n)(a:j<b j)(d:P j=false){x:Nat}(l:x<n) :
  oN b (fun y=>P y || y == j) x=oN b P (kG j (b j) x):=by
 have f:=h.inv j i;unfold oN kG;by_cases g:x=j
 ·subst g;rw[if_pos rfl,f,Nat.min_eq_left (Nat.le_of_lt a),Nat.min_eq_right (Nat.le_of_lt a),d];simp
 ·rw[if_neg g];by_cases c:x=b j
  ·subst c;rw[if_pos rfl,f,Nat.min_eq_right (Nat.le_of_lt a),Nat.min_eq_left (Nat.le_of_lt a),d];simp
  ·rw[if_neg c];have o:b x≠j:=fun e=>c (by rw[<-e,h.inv x l]);have m:min x (b x)≠j:=by omega
   simp[m]
theorem zh{n:Nat}{b:Nat->Nat}(h:DF n b)(m:0<n)(P:Nat->Bool):dU n (fun i=>(oN b P i+1) % n):=by
 have c:∀i,i<n->oN b P i<n:=fun i f=>by
  unfold oN;split
  ·exact h.lt i f
  ·exact f
 have a:∀i,i<n->oN b P (oN b P i)=i:=fun i f=>by
  unfold oN;by_cases g:P (min i (b i))=true
  ·rw[if_pos g,h.inv i f,Nat.min_comm,if_pos g]
  ·rw[if_neg g,if_neg g]
 refine⟨fun i _=>Nat.mod_lt _ m,fun d e j l o=>?_⟩;have:=IV (c d j) (c e l) o;rw[<-a d j,this,a e l]
def su(c:Nat->Nat)(a b j:Nat):Nat:=((List.range j).filter fun i=>decide (i<c i) && !(i == a || i == b)).length
theorem TU(c:Nat->Nat)(a b j:Nat):su c a b (j+1)=su c a b j+if j<c j/\¬(j=a\/j=b)then 1 else 0:=by unfold su;rw[List.range_succ,List.filter_append,List.length_append];by_cases d:j<c j <;> by_cases e:j=a <;> by_cases f:j=b <;> simp[d,e,f]
theorem Ns{n:Nat}{c:Nat->Nat}(h:DF n c)(m:0<n)(a b:Nat):∀j,j<=n ->
  dY (fun i=>(oN c (fun y=>decide (y<j) || (y == a || y == b)) i+1) % n) n<=dY (fun i=>(oN c (fun y=>y == a || y == b) i+1) % n) n+su c a b j:=by
 intro j
 induction j with
 | zero =>
  intro _;have e:(fun y:Nat=>decide (y<0) || (y == a || y == b))=(fun y=>y == a || y == b):=by funext y;simp
  rw[e];exact Nat.le_add_right _ _
 | succ j o =>
  intro A;have o:=o (by omega);rw[TU];by_cases l:j=a\/j=b
  ·have e:(fun y:Nat=>decide (y<j+1) || (y == a || y == b))=(fun y=>decide (y<j) || (y == a || y == b)):=by
    funext y;by_cases u:y=j
    ·subst u;rcases l with e|e <;> simp[e]
    ·have:decide (y<j+1)=decide (y<j):=by congr 1;apply propext;omega
     rw[this]
   rw[e,if_neg (fun p=>p.2 l)];exact o
  ·by_cases f:j<c j
   ·rw[if_pos ⟨f,l⟩]
    have e:∀x,x<n->(oN c (fun y=>decide (y<j+1) || (y == a || y == b)) x+1) % n=(oN c (fun y=>decide (y<j) || (y == a || y == b)) (kG j (c j) x)+1) % n:=by
     intro x q;have v:(decide (j<j) || (j == a || j == b))=false:=by simp;omega
     rw[<-Jf h (fun y=>decide (y<j) || (y == a || y == b)) (by omega) f v q]
     have w:(fun y:Nat=>decide (y<j+1) || (y == a || y == b))=(fun y=>(decide (y<j) || (y == a || y == b)) || y == j):=by
      funext y;rcases Nat.lt_trichotomy y j with g|g|g
      ·have d:y<j+1:=by omega
       simp[g,d]
      ·subst g;simp
      ·have d:¬y<j+1:=by omega
       have s:¬y<j:=by omega
       have z:¬y=j:=by omega
       simp[d,s,z]
     rw[w]
    have g:=zh h m (fun y=>decide (y<j) || (y == a || y == b));have d:=zh h m (fun y=>decide (y<j+1) || (y == a || y == b));have s:=g.tw (i:=j) (j:=c j) (by omega) (h.lt j (by omega));rw[x8 d s e n (Nat.le_refl _)];have:=Np g (i:=j) (j:=c j) (by omega) (h.lt j (by omega));omega
   ·rw[if_neg (fun p=>f p.1)]
    have e:∀x,x<n->(oN c (fun y=>decide (y<j+1) || (y == a || y == b)) x+1) % n=(oN c (fun y=>decide (y<j) || (y == a || y == b)) x+1) % n:=by
     intro x q;unfold oN;by_cases g:min x (c x)=j
     ·have d:c x=x:=by
       have t:=h.inv x q;rcases Nat.lt_trichotomy x (c x)with d|d|d
       ·exfalso;apply f;rw[<-g,Nat.min_eq_left (Nat.le_of_lt d)];exact d
       ·exact d.symm
       ·exfalso;apply f;rw[<-g,Nat.min_eq_right (Nat.le_of_lt d),t];exact d
      rw[d];simp
     ·have:decide (min x (c x)<j+1)=decide (min x (c x)<j):=by congr 1;apply propext;omega
      simp only [this]
    rw[x8 (zh h m _) (zh h m _) e n (Nat.le_refl _)];exact o
theorem TV{n:Nat}{c:Nat->Nat}{a b:Nat}(l:a<n)(m:b<n)(f:a≠b)(g:a<c a)(j:b<c b):su c a b n+2=((List.range n).filter fun i=>decide (i<c i)).length:=by
 have o:((List.range n).filter fun i=>decide (i<c i)).length=su c a b n+((List.range n).filter fun i=>decide (i<c i) && (i == a || i == b)).length:=by
  unfold su;refine EG _ _ _ (fun x=>?_) (fun x=>?_) _
  ·cases decide (x<c x) <;> cases (x == a || x == b) <;> rfl
  ·cases decide (x<c x) <;> cases (x == a || x == b) <;> simp
 have p:2<=((List.range n).filter fun i=>decide (i<c i) && (i == a || i == b)).length:=by
  have:=sV [a,b] ((List.range n).filter fun i=>decide (i<c i) && (i == a || i == b)) (by simp[f]) (fun x d=>by
   simp only [List.mem_cons,List.not_mem_nil,or_false]at d;rcases d with rfl|rfl
   ·simp[l,g]
   ·simp[m,j])
  simpa using this
 have q:((List.range n).filter fun i=>decide (i<c i) && (i == a || i == b)).length<=2:=by have:=sV ((List.range n).filter fun i=>decide (i<c i) && (i == a || i == b)) [a,b] (List.Pairwise.filter _ List.nodup_range) (fun x d=>by simp only [List.mem_filter,Bool.and_eq_true,Bool.or_eq_true,beq_iff_eq]at d;rcases d.2.2 with e|e <;> simp[e]);simpa using this
 omega
theorem Nu{n:Nat}{c:Nat->Nat}(h:DF n c)(hF:((List.range n).filter fun i=>decide (i<c i)).length<=dY (fun i=>(c i+1) % n) n)
  {a b:Nat}(e:b<n)(t:a<b)(C:b<c a)(M:c a<c b):False:=by
 have g:0<n:=by omega
 have l:a<n:=by omega
 have m:c a<n:=h.lt a l;have f:c b<n:=h.lt b e;have z:=Ns h g a b n (Nat.le_refl _)
 have A:∀x,x<n->(oN c (fun y=>decide (y<n) || (y == a || y == b)) x+1) % n=(c x+1) % n:=by
  intro x o;unfold oN;have:min x (c x)<n:=by omega
  simp[this]
 have u:dU n (fun i=>(c i+1) % n):=(zh h g (fun y=>decide (y<n) || (y == a || y == b))).congr (fun d E=>(A d E).symm);rw[x8 (zh h g _) u A n (Nat.le_refl _)]at z;have B:=Je g;have p:=B.tw (i:=a) (j:=c a) l m;have v:=p.tw (i:=b) (j:=c b) e f
 have F:∀x,x<n->(oN c (fun y=>y == a || y == b) x+1) % n=(fun d=>(fun i=>(i+1) % n) (kG a (c a) d)) (kG b (c b) x):=by
  intro x o;show (oN c (fun y=>y == a || y == b) x+1) % n=(kG a (c a) (kG b (c b) x)+1) % n;have N:=h.inv a l;have O:=h.inv b e;have s1:=Jf h (fun y=>y == a) e (by omega) (by simp;omega) o;rw[s1];have s2:=Jf h (fun _=>false) l (by omega) rfl (x:=kG b (c b) x) (GK e f o);have H:(fun y:Nat=>false || y == a)=(fun y=>y == a):=by funext y;simp
  rw[H]at s2;rw[s2];unfold oN;simp
 rw[x8 (zh h g _) v F n (Nat.le_refl _)]at z;have P:=Nr g;have Q:=Np B (i:=a) (j:=c a) l m
 have q:¬dK (fun x=>(fun i=>(i+1) % n) (kG a (c a) x)) b (c b):=by
  rintro⟨k,hk⟩
  have w:∀k,a<dN (fun x=>(fun i=>(i+1) % n) (kG a (c a) x)) k b/\dN (fun x=>(fun i=>(i+1) % n) (kG a (c a) x)) k b<=c a:=by
   intro k
   induction k with
   | zero=>exact⟨t,Nat.le_of_lt C⟩
   | succ k I =>
    obtain⟨J,K⟩:=I;generalize o:dN (fun x=>(fun i=>(i+1) % n) (kG a (c a) x)) k b=x at J K;have L:dN (fun x=>(fun i=>(i+1) % n) (kG a (c a) x)) (k+1) b=(kG a (c a) x+1) % n:=by rw[<-o];rfl
    rw[L];unfold kG;rw[if_neg (by omega)];by_cases s:x=c a
    ·rw[if_pos s,Nat.mod_eq_of_lt (by omega)];omega
    ·rw[if_neg s,Nat.mod_eq_of_lt (by omega)];omega
  have:=(w k).2;rw[hk]at this;omega
 have R:=TT p e f q;have U:=TV l e (by omega) (by omega:a<c a) (by omega:b<c b);omega
end
section
structure wL (n:Nat)(S:Nat->Nat)(root T:Nat)(D:Nat->Nat)(ks:List Nat):Prop where
 len:ks.length=T
 pos:0<T
 zero:D 0=root
 lt:∀i,i<T->D i<n
 inj:∀i j,i<T->j<T->D i=D j->i=j
 uD:∀x,x<n->dJ n S root x->∃i,i<T/\D i=x
 next:∀i,i<T->D ((i+1) % T)=S (if ks.getD i 0<2 then mt (D i)else D i)
 wd:Wd ks
 close:∀i,ks[i]? = some 1->∃j,iH ks 0 j i/\D j=mt (D i)
 Nv:∀i,ks[i]? = some 3->∃j,j<i/\ks[j]? = some 2/\D j=mt (D i)
 fst:∀i k,ks[i]? = some k->k % 2=0->∀j,j<i->D j≠mt (D i)
 met:∀i,i<T->dK S (D i) root\/∃j,ks[j]? = some 0/\dK S (D i) (mt (D j))
structure CV (n:Nat)(S:Nat->Nat)(root T:Nat)(D:Nat->Nat)(ks:List Nat):Prop extends wL n S root T D ks where
 right:gB ks
 new:∀i j,ks[i]? = some 0->j<i->¬dK S (D j) (mt (D i))
theorem Jg(S dH:Nat->Nat)(root:Nat):∀m j,∃l,(fC S dH root (j+m)).2=(fC S dH root j).2 ++ l
 | 0,j=>⟨[],by simp⟩
 | m+1,j=>by obtain⟨l,a⟩:=Jg S dH root m j;refine⟨l ++ [((fC S dH root (j+m)).1,fH dH root (fC S dH root (j+m)).2 (fC S dH root (j+m)).1)],?_⟩;rw[<-List.append_assoc,<-a];rfl
theorem Bj(S dH:Nat->Nat)(root:Nat){i T:Nat}(b:i<T):(fC S dH root T).2[i]? = some ((fC S dH root i).1,fH dH root (fC S dH root i).2 (fC S dH root i).1):=by obtain⟨l,a⟩:=Jg S dH root (T - (i+1)) (i+1);rw[show i+1+(T - (i+1))=T by omega]at a;rw[a,List.getElem?_append_left (by rw[sN];omega)];show ((fC S dH root i).2 ++ [_])[i]? = _;rw[List.getElem?_append_right (by rw[sN];omega),sN];simp
theorem TW(S dH:Nat->Nat)(root:Nat){i T:Nat}(b:i<=T):(fC S dH root T).2.take i=(fC S dH root i).2:=by obtain⟨l,a⟩:=Jg S dH root (T - i) i;rw[show i+(T - i)=T by omega]at a;rw[a,List.take_append_of_le_length (by rw[sN];omega),List.take_of_length_le (by rw[sN];omega)]
theorem Jh(S dH:Nat->Nat)(root:Nat){i:Nat}{x k:Nat}(h:(x,k) ∈ (fC S dH root i).2):∃j,j<i/\(fC S dH root j).1=x/\fH dH root (fC S dH root j).2 (fC S dH root j).1=k:=by obtain⟨j,a,b⟩:=List.mem_iff_getElem.1 h;rw[sN]at a;have:=Bj S dH root a;rw[List.getElem?_eq_getElem (by rw[sN];exact a),b]at this;simp only [Option.some.injEq,Prod.mk.injEq]at this;exact⟨j,a,this.1.symm,this.2.symm⟩
theorem iK.wN{n:Nat}{S dH:Nat->Nat}(h:dU n S){root r:Nat}{f:Fr}{rest:List Fr}{d:Nat}{c:List (Nat × Nat)}(I:iK n S dH root r (f :: rest) d c)(v:¬vis c d)(w:(mt d,0) ∈ c) :
  f.k+1=per S f.a/\c[f.o]? = some (mt d,0):=by
 have m:=I.chain;have b:d=dN S f.k f.a:=I.cur
 have e:f.k+1=per S f.a:=by
  rcases I.half (mt d) 0 w (by rw[dG];exact v) with⟨_,g,q,l⟩|u
  ·rw[dG]at l;rcases List.mem_cons.1 q with rfl|q
   ·have p:=m.1.1;have y:=(h.dQ p).1;have:=h.fE p (i:=per S g.a - 1) (j:=g.k) (by omega) m.1.2.1 (by rw[l,b]);omega
   ·exfalso;have s:=(List.pairwise_cons.1 I.apart).1 g q;have t:=(m.2.lt g q).1;exact s (dK.trans (show dK S f.a d from ⟨f.k,b.symm⟩) (h.eU t ⟨_,l⟩))
  ·omega
 refine⟨e,?_⟩;have s:=m.1.2.2.2.1;have u:=m.1.2.2.2.2;have x:per S f.a - 1=f.k:=by omega
 rw[x,<-b]at s;rw[u,s,dG]
theorem EH{n:Nat}{S dH:Nat->Nat}(h:dU n S)(he:n % 2=0)(B:∀x y,x<n->y<n->(dH x=dH y↔dK S x y)){root:Nat}(hr:root<n) :
  ∃T,jS n S dH root T/\(fC S dH root T).1=root/\CV n S root T (fun i=>(fC S dH root i).1) (jJ (fC S dH root T).2):=by
 have F:∀x,x<n->dH (S x)=dH x:=fun x hx=>((B x (S x) hx (h.lt x hx)).2 (dK.step S x)).symm;obtain⟨T,r,I,hd,w⟩:=LV h he B hr n 0 0 [] (by omega) (Gl B hr) (fun i b=>by omega)
 have H:∀j,j<=T->∃r st m,iK n S dH root r st (fC S dH root j).1 (fC S dH root j).2/\tq (fC S dH root j).2 st m:=by
  intro j
  induction j with
  | zero=>intro _;exact⟨0,[],[],Gl B hr,LY⟩
  | succ j ih =>
   intro s;obtain⟨r1,st1,m,z,Q⟩:=ih (by omega);obtain⟨r2,st2,R,u⟩:=w j (by omega);obtain⟨f1,f2,J⟩:=R.fresh h hr u;have U:¬jO S root r1 st1:=fun V=>J (z.all h hr V F f2);obtain⟨r3,sU,hs,I3⟩:=z.step h he B hr U;obtain⟨W,W3⟩:=Q.step h hr z J hs;exact⟨r3,sU,W,I3,W3⟩
 have a:∀j,j<T->(fC S dH root j).1<n/\¬vis (fC S dH root j).2 (fC S dH root j).1:=fun j s=>by obtain⟨r2,st2,R,u⟩:=w j s;obtain⟨f1,f2,J⟩:=R.fresh h hr u;exact⟨f1,J⟩
 have aj:0<T:=by
  rcases Nat.eq_zero_or_pos T with h0|h0
  ·exfalso;subst h0;have:=I.all h hr hd F (dJ.refl n S root);exact Gj _ this
  ·exact h0
 obtain⟨g,X⟩:=Sr h he B hr;have A:(fC S dH root T).1=root:=by have C:=I.cur;rw[C];show dN S r root=root;rw[hd.2];exact(h.dQ hr).2.2.1
 have ak:g=T:=by
  have N:(fC S dH root g).1=(fC S dH root g).1:=rfl;rcases Nat.lt_trichotomy g T with t|Y|t
  ·exfalso;obtain⟨h3,h4⟩:=a g t;have h5:=(w g t)
   obtain⟨r2,st2,R,u⟩:=h5;obtain⟨f1,f2,J⟩:=R.fresh h hr u;exact J ((X.uD _ f1).1 f2)
  ·exact Y
  ·exfalso;obtain⟨h3,h4⟩:=X.cur T t;exact h4 (I.all h hr hd F (by rw[A];exact dJ.refl n S root))
 subst ak;have al:(jJ (fC S dH root g).2).length=g:=by rw[Cc,sN]
 have d:∀i,i<g->(jJ (fC S dH root g).2)[i]? = some (fH dH root (fC S dH root i).2 (fC S dH root i).1):=fun i b=>by unfold jJ;rw[List.getElem?_map,Bj S dH root b];rfl
 have am:∀i,i<=g->(jJ (fC S dH root g).2).take i=jJ (fC S dH root i).2:=fun i b=>by unfold jJ;rw[<-List.map_take,TW S dH root b]
 have O:∀i j,i<j->j<g->(fC S dH root i).1≠(fC S dH root j).1:=fun i j an s e=>by have:=Bj S dH root (T:=j) an;exact(a j s).2 ⟨_,e ▸ List.mem_of_getElem? this⟩
 refine⟨g,X,A,?_⟩;refine { len:=al,pos:=aj,zero:=rfl,lt:=fun i b=>(a i b).1,inj:=?_,uD:=?_,next:=?_,wd:=⟨X.right.k4,X.right.bal⟩,right:=X.right,close:=?_,Nv:=?_,fst:=?_,met:=?_,new:=?_ }
 ·intro i j b s e;rcases Nat.lt_trichotomy i j with t|Y|t
  ·exact absurd e (O i j t s)
  ·exact Y
  ·exact absurd e.symm (O j i t b)
 ·intro x hx hc;obtain⟨k,hk⟩:=(X.uD x hx).1 hc;obtain⟨j,s,C,_⟩:=Jh S dH root hk;exact⟨j,s,C⟩
 ·intro i b;have C:(fC S dH root (i+1)).1=S (if fH dH root (fC S dH root i).2 (fC S dH root i).1<2 then mt (fC S dH root i).1 else (fC S dH root i).1):=rfl;rw[iQ (d i b),<-C];rcases Nat.lt_or_ge (i+1) g with N|N
  ·rw[Nat.mod_eq_of_lt N]
  ·obtain rfl:i+1=g:=by omega
   rw[Nat.mod_self,A];rfl
 ·intro i b;have c:i<g:=by have:=iE b;omega
  have q:=d i c;rw[q]at b;have Z:=Option.some.inj b;obtain⟨r1,st1,m,z,Q⟩:=H i (by omega);obtain⟨r2,st2,R,u⟩:=w i c;obtain⟨f1,f2,J⟩:=R.fresh h hr u;have U:¬jO S root r1 st1:=fun V=>J (z.all h hr V F f2);obtain⟨r3,sU,hs,I3⟩:=z.step h he B hr U;rw[Z]at hs;cases hs with
  | close f rest ao K =>
   subst ao;obtain⟨_,ae⟩:=z.wN h J K;have af:f.o<i:=by have:=iE ae;rwa [sN]at this
   have hO:=Q.own.1;have P:=Q.dep;rw[sN]at P;have L:∀p,p<=i->DD (jJ (fC S dH root g).2) p=DD (jJ (fC S dH root i).2) p:=fun p hp=>by unfold DD;rw[<-am i (by omega),List.take_take,Nat.min_eq_left hp]
   have M:=Bj S dH root (T:=i) af;rw[ae]at M;simp only [Option.some.injEq,Prod.mk.injEq]at M;refine⟨f.o,⟨af,by omega,?_,by rw[q,Z],?_,?_⟩,M.1.symm⟩
   ·rw[d f.o (by omega),<-M.2]
   ·rw[gU (show i+1<=_ by omega),gU (show f.o<=_ by omega),q24 (by rw[q,Z]),L i (Nat.le_refl _),L f.o (by omega),hO.2.1,P];simp[dd];omega
   ·intro p ap ag;rw[gU (show p<=_ by omega),gU (show f.o<=_ by omega),L p ag,L f.o (by omega),hO.2.1];exact hO.2.2 p ap (by rw[Cc,sN];exact ag)
 ·intro i b;have c:i<g:=by have:=iE b;omega
  have q:=d i c;rw[q]at b;have l:=Option.some.inj b;unfold fH at l;rcases BZ (a i c).2 with⟨k,E,K⟩|⟨E,_⟩
  ·rw[E]at l;simp only at l;obtain⟨j,s,C,N⟩:=Jh S dH root K;refine⟨j,s,?_,C⟩;rw[d j (by omega),N];congr 1;omega
  ·rw[E]at l;simp only at l;split at l <;> omega
 ·intro i k b hk j s e;have c:i<g:=by have:=iE b;omega
  have q:=d i c;rw[q]at b;have l:=Option.some.inj b;unfold fH at l;rcases BZ (a i c).2 with⟨k',E,K⟩|⟨E,K⟩
  ·rw[E]at l;simp only at l;obtain⟨r1,st1,m,z,Q⟩:=H i (by omega);rcases z.half _ _ K (by rw[dG];exact(a i c).2) with⟨h0,_⟩|N
   ·omega
   ·omega
  ·have:=Bj S dH root (T:=i) s;exact K ⟨_,e ▸ List.mem_of_getElem? this⟩
 ·intro i b;obtain⟨r1,st1,m,z,Q⟩:=H g (Nat.le_refl _);have aa:vis (fC S dH root g).2 (fC S dH root i).1:=⟨_,List.mem_of_getElem? (Bj S dH root b)⟩
  have ab:iB dH root (fC S dH root g).2 (dH (fC S dH root i).1)=true:=by
   cases hb:iB dH root (fC S dH root g).2 (dH (fC S dH root i).1)
   ·exact absurd aa (z.mH _ (a i b).1 hb)
   ·rfl
  unfold iB at ab;rw[Bool.or_eq_true,beq_iff_eq,List.any_eq_true]at ab;rcases ab with e|⟨⟨x,k⟩,hx,ad⟩
  ·exact .inl ((B _ _ (a i b).1 hr).1 e)
  ·rw[Bool.and_eq_true,beq_iff_eq,beq_iff_eq]at ad;obtain⟨j,s,C,N⟩:=Jh S dH root hx;have h3:k=0:=ad.1;refine .inr ⟨j,by rw[d j s,N,h3],?_⟩;have h4:dH (mt x)=dH (fC S dH root i).1:=ad.2;show dK S (fC S dH root i).1 (mt (fC S dH root j).1);rw[C];exact(B _ _ (a i b).1 (dR he (by rw[<-C];exact(a j s).1))).1 h4.symm
 ·intro i j b s e;have c:i<g:=by have:=iE b;omega
  have q:=d i c;rw[q]at b;have v:=Option.some.inj b;unfold fH at v;rcases BZ (a i c).2 with⟨k',E,K⟩|⟨E,K⟩
  ·rw[E]at v;simp only at v;omega
  ·rw[E]at v;simp only at v;obtain⟨r1,st1,m,z,Q⟩:=H i (by omega)
   have ah:iB dH root (fC S dH root i).2 (dH (mt (fC S dH root i).1))=false:=by
    cases hb:iB dH root (fC S dH root i).2 (dH (mt (fC S dH root i).1))
    ·rfl
    ·rw[hb]at v;simp at v
   have aa:vis (fC S dH root i).2 (fC S dH root j).1:=⟨_,List.mem_of_getElem? (Bj S dH root s)⟩
   have ai:=(a j (by omega)).1;rw[<-(B _ _ ai (dR he (a i c).1)).2 e]at ah;exact z.mH _ ai ah aa
section
variable {n:Nat} {S:Nat->Nat} {root T:Nat} {D:Nat->Nat} {ks:List Nat} (k:wL n S root T D ks)
include k
theorem wL.CW{i:Nat}(m:i<T)(g:ks.getD i 0<2):D (mp ks i)=mt (D i):=by
 have d:=k.wd;have b:i<ks.length:=by rw[k.len];exact m
 have c:∀i,ks[i]? = some 1->D (mp ks i)=mt (D i):=by intro i a;obtain⟨j,f,o⟩:=k.close i a;have e:=d.lX f;have l:=d.iC (i:=j) (by have:=f.lt;have:=f.le;omega);rw[e]at l;rw[l];exact o
 obtain⟨s,p,⟨a,e⟩|⟨a,e⟩⟩:=d.cases b
 ·rw[iQ a]at g;obtain rfl:s=0:=by omega
  have:=c _ e.closes;rw[d.iC b]at this;rw[this,dG]
 ·rw[iQ a]at g;obtain rfl:s=0:=by omega
  exact c i a
open Classical in
theorem wL.yh(h:dU n S)(hr:root<n)(s:n % 2=0):((List.range n).filter fun x=>rep S x == x && decide (dJ n S root x)).length<=eO ks 0+1:=by
 have b:∀m,m<=ks.length->(((List.range m).filter fun q=>ks[q]? == some 0).map fun q=>rep S (mt (D q))).length=eO (ks.take m) 0:=by
  intro m
  induction m with
  | zero=>intro _;simp[eO]
  | succ m d =>
   intro w;have d:=d (by omega);rw[List.length_map]at d ⊢;have g:=List.getElem?_eq_getElem (l:=ks) (i:=m) (by omega);rw[xC g,<-d,List.range_succ,List.filter_append,List.length_append];by_cases t:ks[m]=0 <;> simp[g,t]
 have o:=sV ((List.range n).filter fun x=>rep S x == x && decide (dJ n S root x)) (rep S root :: (((List.range ks.length).filter fun q=>ks[q]? == some 0).map fun q=>rep S (mt (D q)))) (List.Pairwise.filter _ List.nodup_range) (fun x a=>by
  simp only [List.mem_filter,List.mem_range,Bool.and_eq_true,beq_iff_eq,decide_eq_true_eq]at a;obtain⟨a,c,f⟩:=a;obtain⟨i,u,rfl⟩:=k.uD x a f;rcases k.met i u with e|⟨j,e,v⟩
  ·rw[<-c,(h.iN a hr).2 e];simp
  ·have p:=iE e;rw[<-c,(h.iN a (dR s (k.lt j (by rw[<-k.len];exact p)))).2 v];exact List.mem_cons_of_mem _ (List.mem_map.2 ⟨j,List.mem_filter.2 ⟨List.mem_range.2 p,by rw[e];rfl⟩,rfl⟩))
 rw[List.length_cons,b ks.length (Nat.le_refl _),List.take_of_length_le (Nat.le_refl _)]at o;exact o
noncomputable def jf(T:Nat)(D:Nat->Nat)(x:Nat):Nat:=open Classical in if h:∃i,i<T/\D i=x then h.choose else 0
omit k in
theorem EI{x:Nat}(a:∃i,i<T/\D i=x):jf T D x<T/\D (jf T D x)=x:=by unfold jf;rw[dif_pos a];exact a.choose_spec
noncomputable def iX(T:Nat)(D:Nat->Nat)(ks:List Nat)(i:Nat):Nat:=if ks.getD i 0<2 then i else jf T D (mt (D i))
theorem wL.conn(d:n % 2=0):∀i,i<T->dJ n S root (D i):=by
 intro i
 induction i with
 | zero=>intro _;rw[k.zero];exact dJ.refl _ _ _
 | succ i a =>
  intro e;have a:=a (by omega);have c:=k.next i (by omega);rw[Nat.mod_eq_of_lt e]at c;rw[c];have b:=k.lt i (by omega);split
  ·exact(a.trans (dJ.mate b)).trans (dJ.turn (dR d b))
  ·exact a.trans (dJ.turn b)
theorem wL.fI(u:n % 2=0){i:Nat}(f:i<T):(ks[i]? = some 2->i<iX T D ks i/\iX T D ks i<T/\D (iX T D ks i)=mt (D i)/\ks[iX T D ks i]? = some 3) /\
  (ks[i]? = some 3->iX T D ks i<i/\D (iX T D ks i)=mt (D i)/\ks[iX T D ks i]? = some 2):=by
 have y:i<ks.length:=by rw[k.len];exact f
 have o:∃j,j<T/\D j=mt (D i):=k.uD _ (dR u (k.lt i f)) ((k.conn u i f).trans (dJ.mate (k.lt i f)));obtain⟨b,c⟩:=EI o;refine⟨fun p=>?_,fun v=>?_⟩
 ·unfold iX;rw[iQ p,if_neg (by omega)];generalize jf T D (mt (D i))=j at b c;have a:=List.getElem?_eq_getElem (l:=ks) (i:=j) (by rw[k.len];exact b)
  have d:i<j:=by
   rcases Nat.lt_trichotomy i j with g|g|g
   ·exact g
   ·subst g;exact absurd c.symm (uV _)
   ·exact absurd c (k.fst i 2 p (by omega) j g)
  refine⟨d,b,c,?_⟩;have w:=k.wd.k4 _ (List.mem_of_getElem? a);have s:ks[j]'(by rw[k.len];exact b)=0\/ks[j]'(by rw[k.len];exact b)=1\/ks[j]'(by rw[k.len];exact b)=2\/ks[j]'(by rw[k.len];exact b)=3:=by omega
  rcases s with e|e|e|e
  ·rw[e]at a;exact absurd (by rw[c,dG]) (k.fst j 0 a (by omega) i d)
  ·rw[e]at a;obtain⟨q,t,m⟩:=k.close j a;rw[c,dG]at m;have:=k.inj q i (by have:=t.lt;have:=t.le;rw[<-k.len];omega) f m;subst this;have:=t.opens;rw[p]at this;simp at this
  ·rw[e]at a;exact absurd (by rw[c,dG]) (k.fst j 2 a (by omega) i d)
  ·rw[a,e]
 ·unfold iX;rw[iQ v,if_neg (by omega)];obtain⟨j,a,w,x⟩:=k.Nv i v;have:=k.inj _ j b (by omega) (by rw[c,x]);rw[this];exact⟨a,x,w⟩
theorem wL.Ji(c:n % 2=0):DF T (iX T D ks):=by
 have d:∀i,i<T->(ks.getD i 0<2/\iX T D ks i=i)\/ks[i]? = some 2\/ks[i]? = some 3:=by
  intro i a;have f:=List.getElem?_eq_getElem (l:=ks) (i:=i) (by rw[k.len];exact a);have o:=k.wd.k4 _ (List.mem_of_getElem? f);by_cases b:ks.getD i 0<2
  ·exact .inl ⟨b,by unfold iX;rw[if_pos b]⟩
  ·rw[iQ f]at b;right;rw[f];simp only [Option.some.injEq];omega
 refine⟨fun i a=>?_,fun i a=>?_⟩
 ·rcases d i a with⟨_,e⟩|b|g
  ·omega
  ·exact((k.fI c a).1 b).2.1
  ·have:=((k.fI c a).2 g).1;omega
 ·rcases d i a with⟨_,e⟩|b|g
  ·rw[e,e]
  ·obtain⟨o,j,m,q⟩:=(k.fI c a).1 b;obtain⟨s,g5,p⟩:=(k.fI c j).2 q;exact k.inj _ _ (by omega) a (by rw[g5,m,dG])
  ·obtain⟨o,j,m⟩:=(k.fI c a).2 g;obtain⟨s,g5,p,t⟩:=(k.fI c (show iX T D ks i<T by omega)).1 m;exact k.inj _ _ g5 a (by rw[p,j,dG])
theorem wL.face(j:n % 2=0){i:Nat}(a:i<T):D ((iX T D ks i+1) % T)=S (mt (D i)):=by
 by_cases c:ks.getD i 0<2
 ·have o:iX T D ks i=i:=by unfold iX;rw[if_pos c]
  rw[o,k.next i a,if_pos c]
 ·have b:=List.getElem?_eq_getElem (l:=ks) (i:=i) (by rw[k.len];exact a);have m:=k.wd.k4 _ (List.mem_of_getElem? b);rw[iQ b]at c;have d:ks[i]'(by rw[k.len];exact a)=2\/ks[i]'(by rw[k.len];exact a)=3:=by omega
  rcases d with e|e
  ·rw[e]at b;obtain⟨m,f,g,p⟩:=(k.fI j a).1 b;rw[k.next _ f,iQ p,if_neg (by omega),g]
  ·rw[e]at b;obtain⟨m,f,g⟩:=(k.fI j a).2 b;rw[k.next _ (by omega),iQ g,if_neg (by omega),f]
open Classical in
theorem wL.faces(h:dU n S)(b:n % 2=0):((List.range n).filter fun x=>rep (fun d=>S (mt d)) x == x && decide (dJ n S root x)).length<=dY (fun i=>(iX T D ks i+1) % T) T:=by
 have l:=k.Ji b;have v:dU n (fun d=>S (mt d)):=⟨fun d o=>h.lt _ (dR b o),fun d e o p w=>by have:=h.inj _ _ (dR b o) (dR b p) w;rw[<-dG d,this,dG]⟩
 have j:dU T (fun i=>(iX T D ks i+1) % T):=(zh l k.pos (fun _=>true)).congr (fun d _=>by simp[oN])
 have c:∀m i,i<T->D (dN (fun i=>(iX T D ks i+1) % T) m i)=dN (fun d=>S (mt d)) m (D i):=by
  intro m i A
  induction m with
  | zero=>rfl
  | succ m B =>
   show D ((iX T D ks (dN (fun i=>(iX T D ks i+1) % T) m i)+1) % T)=S (mt (dN (fun d=>S (mt d)) m (D i)));rw[k.face b (j.eD A m),B]
 have s:=sV (((List.range n).filter fun x=>rep (fun d=>S (mt d)) x == x && decide (dJ n S root x)).map fun x=>rep (fun i=>(iX T D ks i+1) % T) (jf T D x)) ((List.range T).filter fun x=>rep (fun i=>(iX T D ks i+1) % T) x == x) (by
  rw[List.Nodup,List.pairwise_map];have C:((List.range n).filter fun x=>rep (fun d=>S (mt d)) x == x && decide (dJ n S root x)).Nodup:=List.Pairwise.filter _ List.nodup_range;refine List.Pairwise.imp_of_mem (fun {x y} a f q e=>q ?_) C;simp only [List.mem_filter,List.mem_range,Bool.and_eq_true,beq_iff_eq,decide_eq_true_eq]at a f;obtain⟨g,t⟩:=EI (k.uD x a.1 a.2.2);obtain⟨E,F⟩:=EI (k.uD y f.1 f.2.2);obtain⟨m,H⟩:=(j.iN g E).1 e;have u:=c m _ g;rw[H,t,F]at u;rw[<-a.2.1,<-f.2.1];exact(v.iN a.1 f.1).2 ⟨m,u.symm⟩) (fun z I=>by
  obtain⟨x,a,rfl⟩:=List.mem_map.1 I;simp only [List.mem_filter,List.mem_range,Bool.and_eq_true,beq_iff_eq,decide_eq_true_eq]at a ⊢;obtain⟨g,t⟩:=EI (k.uD x a.1 a.2.2);exact⟨j.lg g,j.iO g⟩)
 rw[List.length_map]at s;exact s
omit k in
theorem GR{ks:List Nat}(x:Nat):∀m,m<=ks.length->eO (ks.take m) x=((List.range m).filter fun q=>ks[q]? == some x).length:=by
 intro m
 induction m with
 | zero=>intro _;simp[eO]
 | succ m b =>
  intro d;have a:=List.getElem?_eq_getElem (l:=ks) (i:=m) (by omega);rw[xC a,b (by omega),List.range_succ,List.filter_append,List.length_append];by_cases c:ks[m]=x <;> simp[a,c]
omit k in
theorem GU{ks:List Nat}(x:Nat){a m:Nat}(e:a<=m)(f:m<=ks.length):eO (ks.take m) x=eO (ks.take a) x+((List.range m).filter fun q=>decide (a<=q) && (ks[q]? == some x)).length:=by
 rw[GR x m f,GR x a (by omega)]
 rw[EG (fun q=>ks[q]? == some x) (fun q=>decide (q<a) && (ks[q]? == some x)) (fun q=>decide (a<=q) && (ks[q]? == some x)) (fun q=>by
  by_cases d:q<a
  ·have:¬a<=q:=by omega
   simp[d,this]
  ·have:a<=q:=by omega
   simp[d,this]) (fun q=>by simp;omega)]
 congr 1;obtain⟨c,rfl⟩:∃c,m=a+c:=⟨m - a,by omega⟩
 rw[List.range_add,List.filter_append,List.length_append];have g:(List.range a).filter (fun q=>decide (q<a) && (ks[q]? == some x))=(List.range a).filter (fun q=>ks[q]? == some x):=List.filter_congr (fun q b=>by have:=List.mem_range.1 b;simp[this]);have i:((List.range c).map (a + ·)).filter (fun q=>decide (q<a) && (ks[q]? == some x))=[]:=by rw[List.filter_eq_nil_iff];intro q b;obtain⟨z,_,rfl⟩:=List.mem_map.1 b;simp;omega
 rw[g,i];rfl
theorem wL.yj(t:n % 2=0){V F:Nat}(af:V<=eO ks 0+1)(ag:F<=dY (fun i=>(iX T D ks i+1) % T) T)(ah:T / 2+1<=V+F){i:Nat}(g:i<T):D (mp ks i)=mt (D i):=by
 have hw:=k.wd;have aa:i<ks.length:=by rw[k.len];exact g
 by_cases J:ks.getD i 0<2
 ·exact k.CW g J
 have c:=k.Ji t;have ai:=hw.kJ;have M:=k.len
 have j:((List.range T).filter fun i=>decide (i<iX T D ks i)).length=eO ks 2:=by
  have h3:=GR 2 (ks:=ks) ks.length (Nat.le_refl _);rw[List.take_of_length_le (Nat.le_refl _)]at h3;rw[h3,M];congr 1;refine List.filter_congr (fun q Y=>?_);have Y:=List.mem_range.1 Y;have d:=List.getElem?_eq_getElem (l:=ks) (i:=q) (by omega);have Z:=k.wd.k4 _ (List.mem_of_getElem? d);by_cases K:ks[q]'(by omega)=2
  ·rw[K]at d;have:=((k.fI t Y).1 d).1;simp[d,this]
  ·by_cases N:ks[q]'(by omega)=3
   ·have A:=d;rw[N]at A;have O:=((k.fI t Y).2 A).1;have:¬q<iX T D ks q:=by omega
    simp[A,this]
   ·have O:iX T D ks q=q:=by unfold iX;rw[iQ d,if_pos (by omega)]
    simp[d,K,O]
 have hF:((List.range T).filter fun i=>decide (i<iX T D ks i)).length<=dY (fun i=>(iX T D ks i+1) % T) T:=by rw[j];omega
 have P:∀i,i<T->ks[i]? = some 2->mp ks i=iX T D ks i:=by
  intro i g J;obtain⟨Z,K,N,O⟩:=(k.fI t g).1 J;have Q:=Gs J
  have B:∀q,i<q->q<iX T D ks i->ks[q]? = some 3->i<iX T D ks q/\iX T D ks q<q/\ks[iX T D ks q]? = some 2:=by
   intro q h8 h9 C;obtain⟨L,R,u⟩:=(k.fI t (show q<T by omega)).2 C;have ab:iX T D ks q≠i:=fun e=>by have:=c.inv q (by omega);rw[e]at this;omega
   refine⟨?_,L,u⟩;rcases Nat.lt_or_ge i (iX T D ks q)with g4|g4
   ·exact g4
   ·exfalso;have v:=c.inv q (by omega);exact Nu c hF (a:=iX T D ks q) (b:=i) g (by omega) (by rw[v];exact h8) (by rw[v];exact h9)
  have E:∀q,i<q->q<iX T D ks i->ks[q]? = some 2->q<iX T D ks q/\iX T D ks q<iX T D ks i/\ks[iX T D ks q]? = some 3:=by
   intro q h8 h9 C;obtain⟨L,R,u,g4⟩:=(k.fI t (show q<T by omega)).1 C;have ab:iX T D ks q≠iX T D ks i:=fun e=>by have a1:=c.inv q (by omega);have a2:=c.inv i g;rw[e,a2]at a1;omega
   refine⟨L,?_,g4⟩;rcases Nat.lt_or_ge (iX T D ks q) (iX T D ks i)with g5|g5
   ·exact g5
   ·exfalso;exact Nu c hF (a:=i) (b:=q) (by omega) h8 h9 (by omega)
  have w:∀a b,a<T->b<T->iX T D ks a=iX T D ks b->a=b:=fun a b ha hb e=>by rw[<-c.inv a ha,e,c.inv b hb]
  have f:∀p,i<p->p<=iX T D ks i->BB ks i<BB ks p:=by
   intro p U W;have c3:=GU (ks:=ks) 3 (a:=i+1) (m:=p) (by omega) (by omega);have c2:=GU (ks:=ks) 2 (a:=i+1) (m:=p) (by omega) (by omega)
   have H:=sV (((List.range p).filter fun q=>decide (i+1<=q) && (ks[q]? == some 3)).map (iX T D ks)) ((List.range p).filter fun q=>decide (i+1<=q) && (ks[q]? == some 2)) (by
    rw[List.Nodup,List.pairwise_map];refine List.Pairwise.imp_of_mem (fun {x y} o hy I e=>I ?_) ((List.Pairwise.filter _ List.nodup_range:((List.range p).filter fun q=>decide (i+1<=q) && (ks[q]? == some 3)).Nodup));simp only [List.mem_filter,List.mem_range]at o hy;exact w x y (by omega) (by omega) e) (fun z hz=>by
    obtain⟨x,o,rfl⟩:=List.mem_map.1 hz;simp only [List.mem_filter,List.mem_range,Bool.and_eq_true,decide_eq_true_eq,beq_iff_eq]at o ⊢;obtain⟨L,R,u⟩:=B x (by omega) (by omega) o.2.2;exact⟨by omega,by omega,u⟩)
   rw[List.length_map]at H;have e1:bb 2=1:=rfl;rw[e1]at Q;have b1:BB ks p=(eO (ks.take p) 2:Int) - eO (ks.take p) 3:=rfl;have b2:BB ks (i+1)=(eO (ks.take (i+1)) 2:Int) - eO (ks.take (i+1)) 3:=rfl;omega
  have X:BB ks (iX T D ks i+1)=BB ks i:=by
   have c3:=GU (ks:=ks) 3 (a:=i+1) (m:=iX T D ks i) (by omega) (by omega);have c2:=GU (ks:=ks) 2 (a:=i+1) (m:=iX T D ks i) (by omega) (by omega)
   have H:=sV (((List.range (iX T D ks i)).filter fun q=>decide (i+1<=q) && (ks[q]? == some 2)).map (iX T D ks)) ((List.range (iX T D ks i)).filter fun q=>decide (i+1<=q) && (ks[q]? == some 3)) (by
    rw[List.Nodup,List.pairwise_map];refine List.Pairwise.imp_of_mem (fun {x y} o hy I e=>I ?_) ((List.Pairwise.filter _ List.nodup_range:((List.range (iX T D ks i)).filter fun q=>decide (i+1<=q) && (ks[q]? == some 2)).Nodup));simp only [List.mem_filter,List.mem_range]at o hy;exact w x y (by omega) (by omega) e) (fun z hz=>by
    obtain⟨x,o,rfl⟩:=List.mem_map.1 hz;simp only [List.mem_filter,List.mem_range,Bool.and_eq_true,decide_eq_true_eq,beq_iff_eq]at o ⊢;obtain⟨L,R,u⟩:=E x (by omega) (by omega) o.2.2;exact⟨by omega,by omega,u⟩)
   rw[List.length_map]at H;have ad:=Gs O;have aj:=f (iX T D ks i) Z (Nat.le_refl _);have e1:bb 2=1:=rfl;have e3:bb 3=-1:=rfl;rw[e1]at Q;rw[e3]at ad;have b1:BB ks (iX T D ks i)=(eO (ks.take (iX T D ks i)) 2:Int) - eO (ks.take (iX T D ks i)) 3:=rfl;have b2:BB ks (i+1)=(eO (ks.take (i+1)) 2:Int) - eO (ks.take (i+1)) 3:=rfl;omega
  refine hw.lX (s:=1) ⟨Z,by omega,J,O,?_,fun p U W=>?_⟩
  ·rw[jc (by omega),jc (by omega)];exact X
  ·rw[jc (by omega),jc (by omega)];exact f p U W
 have d:=List.getElem?_eq_getElem (l:=ks) (i:=i) aa;have Z:=k.wd.k4 _ (List.mem_of_getElem? d);rw[iQ d]at J;have ae:ks[i]=2\/ks[i]=3:=by omega
 rcases ae with e|e
 ·rw[e]at d;rw[P i g d];exact((k.fI t g).1 d).2.2.1
 ·rw[e]at d;obtain⟨L,R,u⟩:=(k.fI t g).2 d;have K:=P _ (by omega) u;rw[c.inv i g]at K;have N:=hw.iC (i:=iX T D ks i) (by omega);rw[K]at N;rw[N];exact R
omit k in
open Classical in
theorem TY{n:Nat}{S P:Nat->Nat}{root:Nat}(a:∀x,x<n->dJ n S root x):((List.range n).filter fun x=>rep P x == x && decide (dJ n S root x)).length=dY P n:=by unfold dY;congr 1;refine List.filter_congr (fun x b=>?_);rw[decide_eq_true (a x (List.mem_range.1 b)),Bool.and_true]
theorem wL.oO(h:dU n S)(hr:root<n)(a:n % 2=0)(e:∀x,x<n->dJ n S root x)(j:T=n)(f:n / 2+1<=dY S n+dY (fun d=>S (mt d)) n){i:Nat}(g:i<T):D (mp ks i)=mt (D i):=by have b:=k.yh h hr a;have c:=k.faces h a;rw[TY e]at b c;exact k.yj a b c (by omega) g
theorem wL.CX(d:n % 2=0):((List.range T).filter fun i=>decide (i<iX T D ks i)).length=eO ks 2:=by
 have e:=GR 2 (ks:=ks) ks.length (Nat.le_refl _);rw[List.take_of_length_le (Nat.le_refl _)]at e;rw[e,k.len];congr 1;refine List.filter_congr (fun q a=>?_);have a:=List.mem_range.1 a;have b:=List.getElem?_eq_getElem (l:=ks) (i:=q) (by rw[k.len];exact a);have m:=k.wd.k4 _ (List.mem_of_getElem? b);by_cases f:ks[q]'(by rw[k.len];exact a)=2
 ·rw[f]at b;have:=((k.fI d a).1 b).1;simp[b,this]
 ·by_cases j:ks[q]'(by rw[k.len];exact a)=3
  ·have c:=b;rw[j]at c;have g:=((k.fI d a).2 c).1;have:¬q<iX T D ks q:=by omega
   simp[c,this]
  ·have g:iX T D ks q=q:=by unfold iX;rw[iQ b,if_pos (by omega)]
   simp[b,f,g]
omit k in
theorem T9{n:Nat}{a:Nat->Nat}(h:DF n a)(b:0<n):dY (fun i=>(a i+1) % n) n<=((List.range n).filter fun i=>decide (i<a i)).length+1:=by
 have e:=Ns h b n n n (Nat.le_refl _)
 have f:∀x,x<n->(oN a (fun y=>decide (y<n) || (y == n || y == n)) x+1) % n=(a x+1) % n:=by
  intro x j;unfold oN;have:min x (a x)<n:=by omega
  simp[this]
 have g:=zh h b (fun y=>decide (y<n) || (y == n || y == n));have c:dU n (fun i=>(a i+1) % n):=g.congr (fun d l=>(f d l).symm);rw[x8 g c f n (Nat.le_refl _)]at e
 have m:∀x,x<n->(oN a (fun y=>y == n || y == n) x+1) % n=(x+1) % n:=by
  intro x j;unfold oN;have o:min x (a x)≠n:=by omega
  have p:(min x (a x) == n)=false:=by rw[beq_eq_false_iff_ne];exact o
  simp[p]
 rw[x8 (zh h b _) (Je b) m n (Nat.le_refl _)]at e;have q:=Nr b;have s:su a n n n<=((List.range n).filter fun i=>decide (i<a i)).length:=by have:=EG (fun i=>decide (i<a i)) (fun i=>decide (i<a i) && !(i == n || i == n)) (fun i=>decide (i<a i) && (i == n || i == n)) (fun x=>by cases decide (x<a x) <;> cases (x == n || x == n) <;> rfl) (fun x=>by cases decide (x<a x) <;> cases (x == n || x == n) <;> simp) (List.range n);unfold su;omega
 omega
open Classical in
theorem wL.yt(h:dU n S)(hr:root<n)(a:n % 2=0):((List.range n).filter fun x=>rep S x == x && decide (dJ n S root x)).length+((List.range n).filter fun x=>rep (fun d=>S (mt d)) x == x && decide (dJ n S root x)).length<=T / 2+2:=by have c:=k.yh h hr a;have e:=k.faces h a;have b:=T9 (k.Ji a) k.pos;rw[k.CX a]at b;have f:=k.wd.kJ;have g:=k.len;omega
end
end
section
open Go.RowKit
def gY(t p l:Bool):Value:=.agg #[.bool t,.bool p,.bool l]
def uJ(t p l:Bool):Nat:=t.toNat+2 * p.toNat+4 * l.toNat
theorem Ua(t p l:Bool):uJ t p l<8:=by cases t <;> cases p <;> cases l <;> decide
theorem Ub(t p l:Bool)(w:World) :
  Calls Tryz.prog 87 #[gY t p l] w fun e w'=>e=.returned (.int .u8 (uJ t p l:Nat))/\Keeps (fun _=>False) w w':=by
 obtain⟨b,c,a3,u,v,x,H,I,J,K,L⟩:∃b c a3:Nat,b=t.toNat/\c=t.toNat+2 * p.toNat/\a3=uJ t p l/\b<256/\c<256/\(t=true->bits .or .u8 0 1=(b:Int))/\(p=true->bits .or .u8 (b:Int) 2=(c:Int))/\(l=true->bits .or .u8 (c:Int) 4=(a3:Int)):=by
  refine⟨_,_,_,rfl,rfl,rfl,?_,?_,?_,?_,?_⟩
  ·cases t <;> decide
  ·cases t <;> cases p <;> decide
  ·rintro rfl;decide
  ·rintro rfl;cases t <;> decide
  ·rintro rfl;cases t <;> cases p <;> decide
 rw[<-x];have M:t=false->b=0:=by rintro rfl;exact u
 have N:p=false->c=b:=by rintro rfl;rw[u,v];rfl
 have O:l=false->a3=c:=by rintro rfl;rw[v,x];rfl
 clear u v x;unfold gY;have B:=((Keeps.refl (fun _=>False) w).alloc (.cells #[.bool t,.bool p,.bool l] 35))
 go_enter Tryz.func87,Tryz.ntmps87;go_wp2_with fail;generalize y:World.alloc _ _=W1
 have a:∃T,W1.heap[w.heap.size+1]? = some (.cells #[.bool t,.int .u8 1,.bool p,.int .u8 2,.bool l,.int .u8 4] T (0,0)):=by
  rw[<-y];have C:=fun o=>heap_alloc_new (w.alloc (.cells #[.bool t,.bool p,.bool l] 35)) o;have P:(w.alloc (.cells #[.bool t,.bool p,.bool l] 35)).heap.size=w.heap.size+1:=by simp
  rw[P]at C;exact⟨_,C _⟩
 have m:Keeps (fun _=>False) w W1:=by rw[<-y];exact B.alloc _
 obtain⟨T,a⟩:=a;obtain⟨g,E⟩:∃g,g=w.heap.size+1:=⟨_,rfl⟩
 rw[<-E]at a ⊢;have F:=dh (dn a m);clear y a m B E;go_loopg [3,17] 3 (fun Q s R wr=>∃j:Nat,j<=3/\Q=3 - j/\R=.int .i64 j/\((j=0/\s=.int .u8 0)\/(j=1/\s=.int .u8 b)\/(j=2/\s=.int .u8 c)\/(j=3/\s=.int .u8 a3))/\wr.heap[g]? = some (.cells #[.bool t,.int .u8 1,.bool p,.int .u8 2,.bool l,.int .u8 4] T (0,0))/\Keeps (fun _=>False) w wr)
 case atStart=>exact⟨0,by omega,rfl,rfl,.inl ⟨rfl,rfl⟩,F.out⟩
 case round =>
  clear F;obtain⟨j,V,q,rfl,z,d,A⟩:=hrel;have f:=dh q;have W:=dw d 0;have X:=dw d 1;have Y:=dw d 2;have Z:=dw d 3;have c4:=dw d 4;have c5:=dw d 5;clear q;have i:=dh (show ∀o,(wr.alloc o).heap[g]? = some (.cells #[.bool t,.int .u8 1,.bool p,.int .u8 2,.bool l,.int .u8 4] T (0,0))/\Keeps (fun _=>False) w (wr.alloc o)from fun o=>⟨((Keeps.refl (fun _=>False) wr).alloc o).at d (fun h=>h),A.alloc o⟩);have U:=dh A;clear d A;rcases z with⟨rfl,rfl⟩|⟨rfl,rfl⟩|⟨rfl,rfl⟩|⟨rfl,rfl⟩
  ·cases t
   ·have:=M rfl;subst this;go_wp2_with fail;go_roundg 2
    case measure=>rw[f.out];omega
    case rel=>exact⟨1,by omega,rfl,rfl,.inr (.inl ⟨rfl,rfl⟩),i.out _⟩
   ·have:=J rfl;go_wp2_with fail;go_roundg 2
    case measure=>rw[f.out];omega
    case rel=>exact⟨1,by omega,rfl,rfl,.inr (.inl ⟨rfl,rfl⟩),i.out _⟩
  ·cases p
   ·have:=N rfl;subst this;go_wp2_with fail;go_roundg 1
    case measure=>rw[f.out];omega
    case rel=>exact⟨2,by omega,rfl,rfl,.inr (.inr (.inl ⟨rfl,rfl⟩)),i.out _⟩
   ·have:=K rfl;go_wp2_with fail;go_roundg 1
    case measure=>rw[f.out];omega
    case rel=>exact⟨2,by omega,rfl,rfl,.inr (.inr (.inl ⟨rfl,rfl⟩)),i.out _⟩
  ·cases l
   ·have:=O rfl;subst this;go_wp2_with fail;go_roundg 0
    case measure=>rw[f.out];omega
    case rel=>exact⟨3,by omega,rfl,rfl,.inr (.inr (.inr ⟨rfl,rfl⟩)),i.out _⟩
   ·have:=L rfl;go_wp2_with fail;go_roundg 0
    case measure=>rw[f.out];omega
    case rel=>exact⟨3,by omega,rfl,rfl,.inr (.inr (.inr ⟨rfl,rfl⟩)),i.out _⟩
  ·go_wp2;go_ret
   exact⟨rfl,U.out⟩
theorem EJ(w:World)(y z:Nat):Sl .u8 (w.alloc (.cells #[.int .u8 (y:Int),.int .u8 (z:Int)] 5 (2,3))) (.slice (some ⟨w.heap.size,0,none⟩) 2 2) (dD [y,z]):=by
 have b:=heap_alloc_new w (.cells #[.int .u8 (y:Int),.int .u8 (z:Int)] 5 (2,3));refine⟨_,2,rfl,Nat.le_refl _,by decide,(fun h=>by cases h),fun j x a=>⟨w.heap.size,0,rfl,?_⟩⟩;rw[Nat.zero_add,dw b]
 match j,a with
 | 0,a=>simp[dD]at a;subst a;rfl
 | 1,a=>simp[dD]at a;subst a;rfl
 | j+2,a=>simp[dD]at a
end
section
def es0(S:Nat->Nat)(r:Nat):List Nat:=[mt (fc S (fc S r)),mt (fc S r),mt r]
section
variable {n:Nat} {S:Nat->Nat} (T:jB n S)
include T
theorem jB.EK{x:Nat}(a:x<n):mt x≠fc S x:=fun h=>by have b:=T.loop _ (T.gJ (T.gJ a));rw[T.zT a,T.vf (T.gJ a),<-h,dG]at b;exact b rfl
theorem jB.CY{x:Nat}(a:x<n):mt x≠fc S (fc S x):=fun h=>by have b:=T.loop _ (T.gJ a);rw[<-T.vf (T.gJ a),<-h,T.vf a]at b;exact b rfl
variable {r:Nat} (hr:r<n)
include hr
theorem jB.zZ:dB S r≠dB S (fc S r)/\dB S (fc S r)≠dB S (fc S (fc S r))/\dB S r≠dB S (fc S (fc S r)):=by
 refine⟨?_,?_,?_⟩
 ·rw[T.vf hr];exact T.loop r hr
 ·rw[T.vf (T.gJ hr)];exact T.loop _ (T.gJ hr)
 ·have:=T.loop _ (T.gJ (T.gJ hr));rw[T.zT hr]at this;exact this.symm
omit T hr in
theorem Jj(x:Nat):eT S r (fun _=>False) x↔x=r\/x=fc S r\/x=fc S (fc S r):=by unfold eT;simp
theorem Shl.init:Shl n S r (es0 S r) (fun _=>False):=by
 have m:=T.gJ hr;have A:=T.gJ m;obtain⟨E,F,H⟩:=T.zZ hr;have u:dB S (mt (fc S (fc S r)))=dB S r:=T.zT hr;have v:dB S (mt (fc S r))=dB S (fc S (fc S r)):=(T.vf m).symm;have w:dB S (mt r)=dB S (fc S r):=(T.vf hr).symm;have c:=fun x=>Jj (S:=S) (r:=r) x
 have p:∀x,x<n->eT S r (fun _=>False) x->¬eT S r (fun _=>False) (mt x):=fun x d s b=>by
  rw[c]at s b;have z:=uV x;have t:=T.EK d;have q:=T.CY d;rcases s with rfl|rfl|rfl
  ·rcases b with b|b|b
   ·exact z b
   ·exact t b
   ·exact q b
  ·rw[T.f3 hr]at q;rcases b with b|b|b
   ·exact q b
   ·exact z b
   ·exact t b
  ·rw[T.f3 hr]at t q;rcases b with b|b|b
   ·exact t b
   ·exact q b
   ·exact z b
 refine⟨by simp[es0],?_,⟨[mt (fc S (fc S r)),mt (fc S r)],rfl⟩,?_,?_,?_,?_,fun _ _ h=>h,?_,?_,?_⟩
 ·intro e B;simp only [es0,List.mem_cons,List.not_mem_nil,or_false]at B;rcases B with rfl|rfl|rfl
  ·exact T.mlt A
  ·exact T.mlt m
  ·exact T.mlt hr
 ·simp only [es0,List.map_cons,List.map_nil,u,v,w];simp[E,H,F.symm]
 ·exact⟨by rw[dG];exact v.symm,by rw[dG];exact w.symm,trivial⟩
 ·intro a l h;simp only [es0,List.cons.injEq]at h;rw[<-h.1,u]
 ·intro x d;constructor
  ·intro C;simp only [es0,List.mem_cons,List.not_mem_nil,or_false]at C;have f:∀y,y<n->eT S r (fun _=>False) y->x=mt y->¬eT S r (fun _=>False) x/\eT S r (fun _=>False) (mt x):=fun y I o h=>by subst h;rw[dG];exact⟨p y I o,o⟩
   rcases C with h|h|h
   ·exact f _ A ((c _).2 (.inr (.inr rfl))) h
   ·exact f _ m ((c _).2 (.inr (.inl rfl))) h
   ·exact f _ hr ((c _).2 (.inl rfl)) h
  ·rintro⟨-,o⟩;rw[c]at o;simp only [es0,List.mem_cons,List.not_mem_nil,or_false];rcases o with o|o|o
   ·exact .inr (.inr (by rw[<-o,dG]))
   ·exact .inr (.inl (by rw[<-o,dG]))
   ·exact .inl (by rw[<-o,dG])
 ·intro x d _ g o;rw[c]at o;rcases o with rfl|rfl|rfl
  ·exact g (mt (fc S (fc S x))) (by simp[es0]) u.symm
  ·exact g (mt r) (by simp[es0]) w.symm
  ·exact g (mt (fc S r)) (by simp[es0]) v.symm
 ·intro x d s b;exact absurd b (p x d s)
 ·intro P i _ j x d o;rw[c]at o;rcases o with rfl|rfl|rfl
  ·exact j
  ·exact i _ hr j
  ·exact i _ m (i _ hr j)
end
section
variable {n:Nat} {S:Nat->Nat} {r:Nat} {es:List Nat} {G:Nat->Prop} (h:Shl n S r es G) (T:jB n S) (hr:r<n)
include h T hr
theorem Shl.fin{p q b:Nat}(a:es=[p,q,b])(H:S (mt p)=q):∀x,x<n->G (dB S x)\/dB S x=dB S p\/dB S x=dB S q\/dB S x=dB S b:=by
 have I:p ∈ es:=by rw[a];simp
 have J:q ∈ es:=by rw[a];simp
 have U:b ∈ es:=by rw[a];simp
 have l:=h.lt p I;have c:=h.lt q J;obtain⟨C,K⟩:=h.last;have f:b=mt r:=by have:=K;rw[a,show [p,q,b]=[p,q] ++ [b]from rfl]at this;have:=(List.append_inj' this rfl).2;simpa using this
 have m:fc S (fc S q)=p:=by rw[<-H,T.I7 (T.mlt l),dG]
 have s:dB S (mt q)=dB S b:=iW.at (A:=[p]) (B:=[]) (by have:=h.path;rw[a]at this;exact this);have w:fc S q=mt r:=by refine T.xI _ _ (T.gJ c) (T.mlt hr) (by rw[T.vf c,s,f]) ?_;rw[<-T.vf (T.gJ c),m,dG];exact(h.zU p _ a).symm
 have hF:∀z,z=q\/z=fc S q\/z=fc S (fc S q)->z ∈ es:=by rw[m,w,<-f,a];rintro z (rfl|rfl|rfl) <;> simp
 intro x t;apply Classical.byContradiction;intro y;simp only [not_or]at y;obtain⟨L,M,N,O⟩:=y
 have j:∀e ∈ es,dB S x≠dB S e:=by
  rw[a];intro e E;simp only [List.mem_cons,List.not_mem_nil,or_false]at E;rcases E with rfl|rfl|rfl
  ·exact M
  ·exact N
  ·exact O
 have P:=h.inn x t L j
 have u:=T.conn x r t hr (fun z=>z<n/\¬eT S r G z/\¬(z=q\/z=fc S q\/z=fc S (fc S q))) ⟨t,P,fun g=>j x (hF x g) rfl⟩ (fun z _ Q=>by
  obtain⟨g,F,R⟩:=Q
  have i:mt z<n/\¬eT S r G (mt z)/\¬(mt z=q\/mt z=fc S q\/mt z=fc S (fc S q)):=by
   refine⟨T.mlt g,fun o=>R ?_,fun v=>?_⟩
   ·have:=(h.wH z g).2 ⟨F,o⟩;rw[a]at this;simp only [List.mem_cons,List.not_mem_nil,or_false]at this;rw[m,w,<-f];rcases this with h|h|h
    ·exact .inr (.inr h)
    ·exact .inl h
    ·exact .inr (.inl h)
   ·have:=(h.fF (hF _ v)).2;rw[dG]at this;exact F this
  refine⟨⟨T.slt g,fun o=>?_,fun d=>?_⟩,i⟩
  ·exact i.2.1 ((T.ru hr g).1 o)
  ·refine i.2.2 ?_;rw[<-zS S z]at d;rcases d with d|d|d
   ·exact .inr (.inr (by rw[<-d,T.f3 i.1]))
   ·exact .inl (T.Eu i.1 c d)
   ·exact .inr (.inl (T.Eu i.1 (T.gJ c) d)))
 exact u.2.1 (.inl (.inl rfl))
noncomputable def zi(S:Nat->Nat)(es:List Nat)(d:Nat):Nat:=((jg S d).filter fun y=>(es.map (dB S)).contains (dB S (mt y))).length
omit hr in
theorem Shl.yu{A B:List Nat}{p q d:Nat}(c:es=A ++ p :: q :: B)(O:B≠[])(m:d<n)(o:dB S d=dB S q):zi S es d=2↔mD n S r es G q:=by
 have u:p ∈ es:=by rw[c];simp
 have w:q ∈ es:=by rw[c];simp
 have x:=h.lt p u;have C:=h.lt q w;have E:=T.mlt x;have F:dB S (mt p)=dB S q:=iW.at (c ▸ h.path)
 obtain⟨b,B',rfl⟩:∃b B',B=b :: B':=by
  cases B with
  | nil=>exact absurd rfl O
  | cons b B'=>exact⟨b,B',rfl⟩
 have H:dB S (mt q)=dB S b:=by have g:=h.path;rw[c,show A ++ p :: q :: b :: B'=(A ++ [p]) ++ q :: b :: B' by simp]at g;exact iW.at g
 have P:b ∈ es:=by rw[c];simp
 have s:mt p≠q:=fun t=>by have g:=(h.fF u).2;rw[t]at g;exact(h.fF w).1 g
 have a:∀y,y ∈ (jg S d).filter (fun y=>(es.map (dB S)).contains (dB S (mt y)))↔y<n/\dB S y=dB S q/\∃e,e ∈ es/\dB S (mt y)=dB S e:=by
  intro y;rw[List.mem_filter,T.dW.gF m];constructor
  ·rintro⟨g,h2⟩;have j:=T.dW.fK m g;rw[List.contains_iff_mem,List.mem_map]at h2;obtain⟨e,i,f⟩:=h2;exact⟨j,by rw[<-o];exact((T.dW.eY m j).2 g).symm,e,i,f.symm⟩
  ·rintro⟨j,g,e,i,f⟩;refine⟨(T.dW.eY m j).1 (by rw[o,g]),?_⟩;rw[List.contains_iff_mem,List.mem_map];exact⟨e,i,f.symm⟩
 have I:((jg S d).filter (fun y=>(es.map (dB S)).contains (dB S (mt y)))).Nodup:=List.Pairwise.filter _ (T.dW.lJ m);have M:=(a (mt p)).2 ⟨E,F,p,u,by rw[dG]⟩;have N:=(a q).2 ⟨C,rfl,b,P,H⟩;unfold zi;generalize (jg S d).filter (fun y=>(es.map (dB S)).contains (dB S (mt y)))=l at *;constructor
 ·intro hl y j Q R U e i J;have V:=(a y).2 ⟨j,Q,e,i,J⟩
  have K:[mt p,q,y].length<=l.length:=sV _ _ (by
   have W:mt p≠y:=fun t=>R (by rw[<-t];exact(h.fF u).2);have X:q≠y:=fun t=>U (by rw[<-t];exact(h.fF w).2)
   simp[s,W,X]) (fun z v=>by
    simp only [List.mem_cons,List.not_mem_nil,or_false]at v;rcases v with rfl|rfl|rfl
    ·exact M
    ·exact N
    ·exact V)
  simp at K;omega
 ·intro L
  have K:l.length=[mt p,q].length:=vY I (by simp[s]) (fun z=>by
   simp only [List.mem_cons,List.not_mem_nil,or_false];constructor
   ·intro v;obtain⟨Y,Z,e,i,f⟩:=(a z).1 v;exact h.lN T c L Y Z i f
   ·rintro (rfl|rfl)
    ·exact M
    ·exact N)
  rw[K];rfl
end
end
