import Derived.Test.YtalhcfjcbbkpgaaGreatZp0h
import Derived.Lib.SmallJoins
set_option maxRecDepth 100000
set_option maxHeartbeats 4000000
namespace Go.Proofs.YtalhcfjcbbkpgaaGreat
section
def j6(i j d:Nat):Nat:=if d=i then j else if d=j then i else d
theorem Gj{n i j d:Nat}(a:i<n)(b:j<n)(c:d<n):j6 i j d<n:=by
 unfold j6;split
 ·exact b
 ·split
  ·exact a
  ·exact c
theorem IL(i j d:Nat):j6 i j (j6 i j d)=d:=by
 unfold j6;by_cases b:d=i
 ·by_cases a:j=i
  ·simp[b,a]
  ·simp[b,a]
 ·by_cases a:d=j
  ·simp[a]
  ·simp[b,a]
theorem Mc{i j d:Nat}(a:d≠i)(b:d≠j):j6 i j d=d:=by unfold j6;rw[if_neg a,if_neg b]
theorem dO.tw{n:Nat}{S:Nat->Nat}(h:dO n S){i j:Nat}(a:i<n)(b:j<n):dO n (fun d=>S (j6 i j d)) :=
 ⟨fun d c=>h.lt _ (Gj a b c),fun d e c f g=>by have:=h.inj _ _ (Gj a b c) (Gj a b f) g;rw[<-IL i j d,this,IL]⟩
theorem Gl{S:Nat->Nat}{i j d:Nat}(a:¬dK S d i)(b:¬dK S d j)(k:Nat):itr (fun x=>S (j6 i j x)) k d=itr S k d:=by
 induction k with
 | zero=>rfl
 | succ k c =>
  show S (j6 i j (itr (fun x=>S (j6 i j x)) k d))=S (itr S k d);rw[c,Mc (fun e=>a ⟨k,e⟩) (fun e=>b ⟨k,e⟩)]
theorem Em(S:Nat->Nat)(i j:Nat):(fun x=>(fun y=>S (j6 i j y)) (j6 i j x))=S:=by funext x;show S (j6 i j (j6 i j x))=S x;rw[IL]
theorem Md{S:Nat->Nat}{i j d:Nat}(a:¬dK S d i)(b:¬dK S d j):¬dK (fun x=>S (j6 i j x)) d i/\¬dK (fun x=>S (j6 i j x)) d j:=by
 refine⟨?_,?_⟩
 ·rintro⟨k,hk⟩;exact a ⟨k,by rw[<-Gl a b k];exact hk⟩
 ·rintro⟨k,hk⟩;exact b ⟨k,by rw[<-Gl a b k];exact hk⟩
theorem SH{S:Nat->Nat}{i j d:Nat}(a:¬dK (fun x=>S (j6 i j x)) d i)(b:¬dK (fun x=>S (j6 i j x)) d j):¬dK S d i/\¬dK S d j:=by have h:=Md a b;rwa [Em]at h
theorem SI{n:Nat}{S:Nat->Nat}(h:dO n S){i j d:Nat}(g:i<n)(l:j<n)(a:d<n)(c:¬dK S d i)(e:¬dK S d j):rep (fun x=>S (j6 i j x)) d=rep S d:=by
 have f:=h.tw g l;refine Nat.le_antisymm (f.mY a ?_) (h.mY a ?_)
 ·obtain⟨k,b⟩:=h.iA a;exact⟨k,by rw[Gl c e];exact b⟩
 ·obtain⟨k,b⟩:=f.iA a;exact⟨k,by rw[<-Gl c e k];exact b⟩
noncomputable def En(n:Nat)(S:Nat->Nat)(i j:Nat):List Nat:=open Classical in (List.range n).filter fun x=>decide (rep S x=x/\¬dK S x i/\¬dK S x j)
noncomputable def uR(n:Nat)(S:Nat->Nat)(i j:Nat):List Nat:=open Classical in (List.range n).filter fun x=>decide (rep S x=x/\¬(¬dK S x i/\¬dK S x j))
theorem Eo{α:Type}(p q r:α->Bool)(h:∀x,p x=(q x || r x))(a:∀x,¬(q x=true/\r x=true)):∀l:List α,(l.filter p).length=(l.filter q).length+(l.filter r).length
 | []=>rfl
 | x :: l=>by have c:=Eo p q r h a l;have b:=h x;have d:=a x;simp only [List.filter_cons];cases hq:q x <;> cases hr:r x <;> simp[hq,hr]at b d <;> simp[b,c] <;> omega
theorem Gm(n:Nat)(S:Nat->Nat)(i j:Nat):eu S n=(En n S i j).length+(uR n S i j).length:=by
 unfold eu En uR;refine Eo _ _ _ (fun x=>?_) (fun x=>?_) _
 ·by_cases c:rep S x=x <;> by_cases d:(¬dK S x i/\¬dK S x j) <;> simp[c,d]
 ·simp only [decide_eq_true_eq];rintro⟨⟨_,a⟩,_,b⟩;exact b a
theorem Me{n:Nat}{S:Nat->Nat}(h:dO n S){i j:Nat}(e:i<n)(f:j<n):En n (fun x=>S (j6 i j x)) i j=En n S i j:=by
 unfold En;refine List.filter_congr (fun x b=>?_);have b:=List.mem_range.1 b;by_cases a:(¬dK S x i/\¬dK S x j)
 ·have c:=Md a.1 a.2;have g:=SI h e f b a.1 a.2;simp only [a,c,g]
 ·have c:¬(¬dK (fun y=>S (j6 i j y)) x i/\¬dK (fun y=>S (j6 i j y)) x j):=fun d=>a (SH d.1 d.2);simp[a,c]
theorem MB{n:Nat}{S:Nat->Nat}(h:dO n S){i j x:Nat}(d:i<n)(e:j<n)(a:x ∈ uR n S i j):x=rep S i\/x=rep S j:=by
 unfold uR at a;simp only [List.mem_filter,List.mem_range,decide_eq_true_eq]at a;obtain⟨a,hr,f⟩:=a;by_cases b:dK S x i
 ·left;rw[<-hr];exact(h.iF a d).2 b
 ·by_cases c:dK S x j
  ·right;rw[<-hr];exact(h.iF a e).2 c
  ·exact absurd ⟨b,c⟩ f
theorem SK{n:Nat}{S:Nat->Nat}(h:dO n S){i j:Nat}(a:i<n)(b:j<n):(uR n S i j).length<=2:=by have:=sK (uR n S i j) [rep S i,rep S j] (List.Pairwise.filter _ List.nodup_range) (fun x c=>by rcases MB h a b c with e|e <;> simp[e]);simpa using this
theorem SL{n:Nat}{S:Nat->Nat}(h:dO n S){i j:Nat}(a:i<n)(b:j<n)(d:dK S i j):(uR n S i j).length<=1:=by have e:=(h.iF a b).2 d;have:=sK (uR n S i j) [rep S i] (List.Pairwise.filter _ List.nodup_range) (fun x f=>by rcases MB h a b f with c | c <;> simp[c,e]);simpa using this
theorem MC{n:Nat}{S:Nat->Nat}(h:dO n S){i j:Nat}(a:i<n)(b:j<n):rep S i ∈ uR n S i j/\rep S j ∈ uR n S i j:=by unfold uR;simp only [List.mem_filter,List.mem_range,decide_eq_true_eq];exact⟨⟨h.kQ a,h.iY a,fun c=>c.1 (h.eO a (h.iA a))⟩,⟨h.kQ b,h.iY b,fun c=>c.2 (h.eO b (h.iA b))⟩⟩
theorem SN{n:Nat}{S:Nat->Nat}(h:dO n S){i j:Nat}(a:i<n)(b:j<n):1<=(uR n S i j).length :=
 List.length_pos_of_mem (MC h a b).1
theorem SQ{n:Nat}{S:Nat->Nat}(h:dO n S){i j:Nat}(b:i<n)(c:j<n)(g:¬dK S i j):2<=(uR n S i j).length:=by
 have a:rep S i≠rep S j:=fun e=>g ((h.iF b c).1 e)
 have:=sK [rep S i,rep S j] (uR n S i j) (by simp[a]) (fun x d=>by
  have f:=MC h b c;simp only [List.mem_cons,List.not_mem_nil,or_false]at d;rcases d with rfl|rfl
  ·exact f.1
  ·exact f.2)
 simpa using this
theorem MF{n:Nat}{S:Nat->Nat}(h:dO n S){i j:Nat}(a:i<n)(b:j<n):eu (fun x=>S (j6 i j x)) n<=eu S n+1:=by rw[Gm n _ i j,Gm n S i j,Me h a b];have c:=SK (h.tw a b) a b;have d:=SN h a b;omega
theorem SV{n:Nat}{S:Nat->Nat}(h:dO n S){i j:Nat}(_hi:i<n)(a:j<n)(b:¬dK S i j):dK (fun x=>S (j6 i j x)) i j:=by
 obtain⟨c,_,d,f⟩:=h.dM a
 have key:∀k,k+1<=per S j->itr (fun x=>S (j6 i j x)) (k+1) i=itr S (k+1) j:=by
  intro k
  induction k with
  | zero =>
   intro _;show S (j6 i j i)=S j;unfold j6;rw[if_pos rfl]
  | succ k g =>
   intro l;show S (j6 i j (itr (fun x=>S (j6 i j x)) (k+1) i))=S (itr S (k+1) j);rw[g (by omega),Mc]
   ·intro e;exact b (h.eO a ⟨k+1,e⟩)
   ·exact f (k+1) (by omega) (by omega)
 have:=key (per S j - 1) (by omega);rw[Nat.sub_add_cancel c,d]at this;exact⟨_,this⟩
theorem SX{n:Nat}{S:Nat->Nat}(h:dO n S){i j:Nat}(a:i<n)(b:j<n)(c:¬dK S i j):eu (fun x=>S (j6 i j x)) n+1<=eu S n:=by rw[Gm n _ i j,Gm n S i j,Me h a b];have d:=SL (h.tw a b) a b (SV h a b c);have e:=SQ h a b c;omega
theorem IQ{n:Nat}(a:0<n):dO n (fun i=>(i+1) % n) :=
 ⟨fun _ _=>Nat.mod_lt _ a,fun _ _ b c d=>IB b c d⟩
theorem MG{n:Nat}:∀k,k<n->itr (fun i=>(i+1) % n) k 0=k
 | 0,_=>rfl
 | k+1,a=>by show (itr (fun i=>(i+1) % n) k 0+1) % n=k+1;rw[MG k (by omega),Nat.mod_eq_of_lt a]
theorem MH{n:Nat}(b:0<n):eu (fun i=>(i+1) % n) n<=1:=by have h:=IQ b;have:=sK ((List.range n).filter fun x=>rep (fun i=>(i+1) % n) x == x) [0] (List.Pairwise.filter _ List.nodup_range) (fun x a=>by simp only [List.mem_filter,List.mem_range,beq_iff_eq]at a;obtain⟨a,hr⟩:=a;have c:rep (fun i=>(i+1) % n) x<=0:=h.mY a (h.eO b ⟨x,MG x a⟩);simp;omega);simpa [eu]using this
structure Dj (n:Nat)(al:Nat->Nat):Prop where
 lt:∀i,i<n->al i<n
 inv:∀i,i<n->al (al i)=i
def nZ(a:Nat->Nat)(P:Nat->Bool)(i:Nat):Nat:=if P (min i (a i))then a i else i
theorem IU{n:Nat}{b:Nat->Nat}(h:Dj n b)(P:Nat->Bool){j:Nat}(i:j<n)(a:j<b j)(d:P j=false){x:Nat}(l:x<n) :
  nZ b (fun y=>P y || y == j) x=nZ b P (j6 j (b j) x):=by
 have f:=h.inv j i;unfold nZ j6;by_cases g:x=j
 ·subst g;rw[if_pos rfl,f,Nat.min_eq_left (Nat.le_of_lt a),Nat.min_eq_right (Nat.le_of_lt a),d];simp
 ·rw[if_neg g];by_cases c:x=b j
  ·subst c;rw[if_pos rfl,f,Nat.min_eq_right (Nat.le_of_lt a),Nat.min_eq_left (Nat.le_of_lt a),d];simp
  ·rw[if_neg c];have o:b x≠j:=fun e=>c (by rw[<-e,h.inv x l]);have m:min x (b x)≠j:=by omega
   simp[m]
theorem yN{n:Nat}{b:Nat->Nat}(h:Dj n b)(m:0<n)(P:Nat->Bool):dO n (fun i=>(nZ b P i+1) % n):=by
 have c:∀i,i<n->nZ b P i<n:=fun i f=>by
  unfold nZ;split
  ·exact h.lt i f
  ·exact f
 have a:∀i,i<n->nZ b P (nZ b P i)=i:=fun i f=>by
  unfold nZ;by_cases g:P (min i (b i))=true
  ·rw[if_pos g,h.inv i f,Nat.min_comm,if_pos g]
  ·rw[if_neg g,if_neg g]
 refine⟨fun i _=>Nat.mod_lt _ m,fun d e j l o=>?_⟩;have:=IB (c d j) (c e l) o;rw[<-a d j,this,a e l]
def rT(c:Nat->Nat)(a b j:Nat):Nat:=((List.range j).filter fun i=>decide (i<c i) && !(i == a || i == b)).length
theorem SY(c:Nat->Nat)(a b j:Nat):rT c a b (j+1)=rT c a b j+if j<c j/\¬(j=a\/j=b)then 1 else 0:=by unfold rT;rw[List.range_succ,List.filter_append,List.length_append];by_cases d:j<c j <;> by_cases e:j=a <;> by_cases f:j=b <;> simp[d,e,f]
theorem MI{n:Nat}{c:Nat->Nat}(h:Dj n c)(m:0<n)(a b:Nat):∀j,j<=n ->
  eu (fun i=>(nZ c (fun y=>decide (y<j) || (y == a || y == b)) i+1) % n) n<=eu (fun i=>(nZ c (fun y=>y == a || y == b) i+1) % n) n+rT c a b j:=by
 intro j
 induction j with
 | zero =>
  intro _;have e:(fun y:Nat=>decide (y<0) || (y == a || y == b))=(fun y=>y == a || y == b):=by funext y;simp
  rw[e];exact Nat.le_add_right _ _
 | succ j o =>
  intro A;have o:=o (by omega);rw[SY];by_cases l:j=a\/j=b
  ·have e:(fun y:Nat=>decide (y<j+1) || (y == a || y == b))=(fun y=>decide (y<j) || (y == a || y == b)):=by
    funext y;by_cases u:y=j
    ·subst u;rcases l with e|e <;> simp[e]
    ·have:decide (y<j+1)=decide (y<j):=by congr 1;apply propext;omega
     rw[this]
   rw[e,if_neg (fun p=>p.2 l)];exact o
  ·by_cases f:j<c j
   ·rw[if_pos ⟨f,l⟩]
    have e:∀x,x<n->(nZ c (fun y=>decide (y<j+1) || (y == a || y == b)) x+1) % n=(nZ c (fun y=>decide (y<j) || (y == a || y == b)) (j6 j (c j) x)+1) % n:=by
     intro x q;have v:(decide (j<j) || (j == a || j == b))=false:=by simp;omega
     rw[<-IU h (fun y=>decide (y<j) || (y == a || y == b)) (by omega) f v q]
     have w:(fun y:Nat=>decide (y<j+1) || (y == a || y == b))=(fun y=>(decide (y<j) || (y == a || y == b)) || y == j):=by
      funext y;rcases Nat.lt_trichotomy y j with g|g|g
      ·have d:y<j+1:=by omega
       simp[g,d]
      ·subst g;simp
      ·have d:¬y<j+1:=by omega
       have s:¬y<j:=by omega
       have z:¬y=j:=by omega
       simp[d,s,z]
     rw[w]
    have g:=yN h m (fun y=>decide (y<j) || (y == a || y == b));have d:=yN h m (fun y=>decide (y<j+1) || (y == a || y == b));have s:=g.tw (i:=j) (j:=c j) (by omega) (h.lt j (by omega));rw[yM d s e n (Nat.le_refl _)];have:=MF g (i:=j) (j:=c j) (by omega) (h.lt j (by omega));omega
   ·rw[if_neg (fun p=>f p.1)]
    have e:∀x,x<n->(nZ c (fun y=>decide (y<j+1) || (y == a || y == b)) x+1) % n=(nZ c (fun y=>decide (y<j) || (y == a || y == b)) x+1) % n:=by
     intro x q;unfold nZ;by_cases g:min x (c x)=j
     ·have d:c x=x:=by
       have t:=h.inv x q;rcases Nat.lt_trichotomy x (c x)with d|d|d
       ·exfalso;apply f;rw[<-g,Nat.min_eq_left (Nat.le_of_lt d)];exact d
       ·exact d.symm
       ·exfalso;apply f;rw[<-g,Nat.min_eq_right (Nat.le_of_lt d),t];exact d
      rw[d];simp
     ·have:decide (min x (c x)<j+1)=decide (min x (c x)<j):=by congr 1;apply propext;omega
      simp only [this]
    rw[yM (yN h m _) (yN h m _) e n (Nat.le_refl _)];exact o
theorem S9{n:Nat}{c:Nat->Nat}{a b:Nat}(l:a<n)(m:b<n)(f:a≠b)(g:a<c a)(j:b<c b):rT c a b n+2=((List.range n).filter fun i=>decide (i<c i)).length:=by
 have o:((List.range n).filter fun i=>decide (i<c i)).length=rT c a b n+((List.range n).filter fun i=>decide (i<c i) && (i == a || i == b)).length:=by
  unfold rT;refine Eo _ _ _ (fun x=>?_) (fun x=>?_) _
  ·cases decide (x<c x) <;> cases (x == a || x == b) <;> rfl
  ·cases decide (x<c x) <;> cases (x == a || x == b) <;> simp
 have p:2<=((List.range n).filter fun i=>decide (i<c i) && (i == a || i == b)).length:=by
  have:=sK [a,b] ((List.range n).filter fun i=>decide (i<c i) && (i == a || i == b)) (by simp[f]) (fun x d=>by
   simp only [List.mem_cons,List.not_mem_nil,or_false]at d;rcases d with rfl|rfl
   ·simp[l,g]
   ·simp[m,j])
  simpa using this
 have q:((List.range n).filter fun i=>decide (i<c i) && (i == a || i == b)).length<=2:=by have:=sK ((List.range n).filter fun i=>decide (i<c i) && (i == a || i == b)) [a,b] (List.Pairwise.filter _ List.nodup_range) (fun x d=>by simp only [List.mem_filter,Bool.and_eq_true,Bool.or_eq_true,beq_iff_eq]at d;rcases d.2.2 with e|e <;> simp[e]);simpa using this
 omega
theorem MJ{n:Nat}{c:Nat->Nat}(h:Dj n c)(hF:((List.range n).filter fun i=>decide (i<c i)).length<=eu (fun i=>(c i+1) % n) n)
  {a b:Nat}(e:b<n)(t:a<b)(C:b<c a)(M:c a<c b):False:=by
 have g:0<n:=by omega
 have l:a<n:=by omega
 have m:c a<n:=h.lt a l;have f:c b<n:=h.lt b e;have z:=MI h g a b n (Nat.le_refl _)
 have A:∀x,x<n->(nZ c (fun y=>decide (y<n) || (y == a || y == b)) x+1) % n=(c x+1) % n:=by
  intro x o;unfold nZ;have:min x (c x)<n:=by omega
  simp[this]
 have u:dO n (fun i=>(c i+1) % n):=(yN h g (fun y=>decide (y<n) || (y == a || y == b))).congr (fun d E=>(A d E).symm);rw[yM (yN h g _) u A n (Nat.le_refl _)]at z;have B:=IQ g;have p:=B.tw (i:=a) (j:=c a) l m;have v:=p.tw (i:=b) (j:=c b) e f
 have F:∀x,x<n->(nZ c (fun y=>y == a || y == b) x+1) % n=(fun d=>(fun i=>(i+1) % n) (j6 a (c a) d)) (j6 b (c b) x):=by
  intro x o;show (nZ c (fun y=>y == a || y == b) x+1) % n=(j6 a (c a) (j6 b (c b) x)+1) % n;have N:=h.inv a l;have O:=h.inv b e;have s1:=IU h (fun y=>y == a) e (by omega) (by simp;omega) o;rw[s1];have s2:=IU h (fun _=>false) l (by omega) rfl (x:=j6 b (c b) x) (Gj e f o);have H:(fun y:Nat=>false || y == a)=(fun y=>y == a):=by funext y;simp
  rw[H]at s2;rw[s2];unfold nZ;simp
 rw[yM (yN h g _) v F n (Nat.le_refl _)]at z;have P:=MH g;have Q:=MF B (i:=a) (j:=c a) l m
 have q:¬dK (fun x=>(fun i=>(i+1) % n) (j6 a (c a) x)) b (c b):=by
  rintro⟨k,hk⟩
  have w:∀k,a<itr (fun x=>(fun i=>(i+1) % n) (j6 a (c a) x)) k b/\itr (fun x=>(fun i=>(i+1) % n) (j6 a (c a) x)) k b<=c a:=by
   intro k
   induction k with
   | zero=>exact⟨t,Nat.le_of_lt C⟩
   | succ k I =>
    obtain⟨J,K⟩:=I;generalize o:itr (fun x=>(fun i=>(i+1) % n) (j6 a (c a) x)) k b=x at J K;have L:itr (fun x=>(fun i=>(i+1) % n) (j6 a (c a) x)) (k+1) b=(j6 a (c a) x+1) % n:=by rw[<-o];rfl
    rw[L];unfold j6;rw[if_neg (by omega)];by_cases s:x=c a
    ·rw[if_pos s,Nat.mod_eq_of_lt (by omega)];omega
    ·rw[if_neg s,Nat.mod_eq_of_lt (by omega)];omega
  have:=(w k).2;rw[hk]at this;omega
 have R:=SX p e f q;have U:=S9 l e (by omega) (by omega:a<c a) (by omega:b<c b);omega
end
section
structure vT (n:Nat)(S:Nat->Nat)(root T:Nat)(D:Nat->Nat)(ks:List Nat):Prop where
 len:ks.length=T
 pos:0<T
 zero:D 0=root
 lt:∀i,i<T->D i<n
 inj:∀i j,i<T->j<T->D i=D j->i=j
 rR:∀x,x<n->dI n S root x->∃i,i<T/\D i=x
 next:∀i,i<T->D ((i+1) % T)=S (if ks.getD i 0<2 then mt (D i)else D i)
 wd:Wd ks
 close:∀i,ks[i]? = some 1->∃j,iw ks 0 j i/\D j=mt (D i)
 MK:∀i,ks[i]? = some 3->∃j,j<i/\ks[j]? = some 2/\D j=mt (D i)
 fst:∀i k,ks[i]? = some k->k % 2=0->∀j,j<i->D j≠mt (D i)
 met:∀i,i<T->dK S (D i) root\/∃j,ks[j]? = some 0/\dK S (D i) (mt (D j))
structure BR (n:Nat)(S:Nat->Nat)(root T:Nat)(D:Nat->Nat)(ks:List Nat):Prop extends vT n S root T D ks where
 right:gH ks
 new:∀i j,ks[i]? = some 0->j<i->¬dK S (D j) (mt (D i))
theorem IV(S dG:Nat->Nat)(root:Nat):∀m j,∃l,(eD S dG root (j+m)).2=(eD S dG root j).2 ++ l
 | 0,j=>⟨[],by simp⟩
 | m+1,j=>by obtain⟨l,a⟩:=IV S dG root m j;refine⟨l ++ [((eD S dG root (j+m)).1,eZ dG root (eD S dG root (j+m)).2 (eD S dG root (j+m)).1)],?_⟩;rw[<-List.append_assoc,<-a];rfl
theorem Az(S dG:Nat->Nat)(root:Nat){i T:Nat}(b:i<T):(eD S dG root T).2[i]? = some ((eD S dG root i).1,eZ dG root (eD S dG root i).2 (eD S dG root i).1):=by obtain⟨l,a⟩:=IV S dG root (T - (i+1)) (i+1);rw[show i+1+(T - (i+1))=T by omega]at a;rw[a,List.getElem?_append_left (by rw[sF];omega)];show ((eD S dG root i).2 ++ [_])[i]? = _;rw[List.getElem?_append_right (by rw[sF];omega),sF];simp
theorem Ta(S dG:Nat->Nat)(root:Nat){i T:Nat}(b:i<=T):(eD S dG root T).2.take i=(eD S dG root i).2:=by obtain⟨l,a⟩:=IV S dG root (T - i) i;rw[show i+(T - i)=T by omega]at a;rw[a,List.take_append_of_le_length (by rw[sF];omega),List.take_of_length_le (by rw[sF];omega)]
theorem IW(S dG:Nat->Nat)(root:Nat){i:Nat}{x k:Nat}(h:(x,k) ∈ (eD S dG root i).2):∃j,j<i/\(eD S dG root j).1=x/\eZ dG root (eD S dG root j).2 (eD S dG root j).1=k:=by obtain⟨j,a,b⟩:=List.mem_iff_getElem.1 h;rw[sF]at a;have:=Az S dG root a;rw[List.getElem?_eq_getElem (by rw[sF];exact a),b]at this;simp only [Option.some.injEq,Prod.mk.injEq]at this;exact⟨j,a,this.1.symm,this.2.symm⟩
theorem iC.vU{n:Nat}{S dG:Nat->Nat}(h:dO n S){root r:Nat}{f:Fr}{rest:List Fr}{d:Nat}{c:List (Nat × Nat)}(I:iC n S dG root r (f :: rest) d c)(v:¬vis c d)(w:(mt d,0) ∈ c) :
  f.k+1=per S f.a/\c[f.o]? = some (mt d,0):=by
 have m:=I.chain;have b:d=itr S f.k f.a:=I.cur
 have e:f.k+1=per S f.a:=by
  rcases I.half (mt d) 0 w (by rw[dF];exact v) with⟨_,g,q,l⟩|u
  ·rw[dF]at l;rcases List.mem_cons.1 q with rfl|q
   ·have p:=m.1.1;have y:=(h.dM p).1;have:=h.fB p (i:=per S g.a - 1) (j:=g.k) (by omega) m.1.2.1 (by rw[l,b]);omega
   ·exfalso;have s:=(List.pairwise_cons.1 I.apart).1 g q;have t:=(m.2.lt g q).1;exact s (dK.trans (show dK S f.a d from ⟨f.k,b.symm⟩) (h.eO t ⟨_,l⟩))
  ·omega
 refine⟨e,?_⟩;have s:=m.1.2.2.2.1;have u:=m.1.2.2.2.2;have x:per S f.a - 1=f.k:=by omega
 rw[x,<-b]at s;rw[u,s,dF]
theorem Ep{n:Nat}{S dG:Nat->Nat}(h:dO n S)(he:n % 2=0)(B:∀x y,x<n->y<n->(dG x=dG y↔dK S x y)){root:Nat}(hr:root<n) :
  ∃T,iV n S dG root T/\(eD S dG root T).1=root/\BR n S root T (fun i=>(eD S dG root i).1) (jk (eD S dG root T).2):=by
 have F:∀x,x<n->dG (S x)=dG x:=fun x hx=>((B x (S x) hx (h.lt x hx)).2 (dK.step S x)).symm;obtain⟨T,r,I,hd,w⟩:=KX h he B hr n 0 0 [] (by omega) (FU B hr) (fun i b=>by omega)
 have key:∀j,j<=T->∃r st m,iC n S dG root r st (eD S dG root j).1 (eD S dG root j).2/\sP (eD S dG root j).2 st m:=by
  intro j
  induction j with
  | zero=>intro _;exact⟨0,[],[],FU B hr,KY⟩
  | succ j ih =>
   intro s;obtain⟨r1,st1,m,z,P⟩:=ih (by omega);obtain⟨r2,st2,Q,u⟩:=w j (by omega);obtain⟨f1,f2,H⟩:=Q.fresh h hr u;have R:¬jE S root r1 st1:=fun U=>H (z.all h hr U F f2);obtain⟨r3,sI,hs,I3⟩:=z.step h he B hr R;obtain⟨V,W3⟩:=P.step h hr z H hs;exact⟨r3,sI,V,I3,W3⟩
 have a:∀j,j<T->(eD S dG root j).1<n/\¬vis (eD S dG root j).2 (eD S dG root j).1:=fun j s=>by obtain⟨r2,st2,Q,u⟩:=w j s;obtain⟨f1,f2,H⟩:=Q.fresh h hr u;exact⟨f1,H⟩
 have ai:0<T:=by
  rcases Nat.eq_zero_or_pos T with h0|h0
  ·exfalso;subst h0;have:=I.all h hr hd F (dI.refl n S root);exact FT _ this
  ·exact h0
 obtain⟨g,W⟩:=RI h he B hr;have A:(eD S dG root T).1=root:=by have C:=I.cur;rw[C];show itr S r root=root;rw[hd.2];exact(h.dM hr).2.2.1
 have aj:g=T:=by
  have M:(eD S dG root g).1=(eD S dG root g).1:=rfl;rcases Nat.lt_trichotomy g T with t|X|t
  ·exfalso;obtain⟨h3,h4⟩:=a g t;have h5:=(w g t)
   obtain⟨r2,st2,Q,u⟩:=h5;obtain⟨f1,f2,H⟩:=Q.fresh h hr u;exact H ((W.rR _ f1).1 f2)
  ·exact X
  ·exfalso;obtain⟨h3,h4⟩:=W.cur T t;exact h4 (I.all h hr hd F (by rw[A];exact dI.refl n S root))
 subst aj;have ak:(jk (eD S dG root g).2).length=g:=by rw[Bz,sF]
 have d:∀i,i<g->(jk (eD S dG root g).2)[i]? = some (eZ dG root (eD S dG root i).2 (eD S dG root i).1):=fun i b=>by unfold jk;rw[List.getElem?_map,Az S dG root b];rfl
 have al:∀i,i<=g->(jk (eD S dG root g).2).take i=jk (eD S dG root i).2:=fun i b=>by unfold jk;rw[<-List.map_take,Ta S dG root b]
 have N:∀i j,i<j->j<g->(eD S dG root i).1≠(eD S dG root j).1:=fun i j am s e=>by have:=Az S dG root (T:=j) am;exact(a j s).2 ⟨_,e ▸ List.mem_of_getElem? this⟩
 refine⟨g,W,A,?_⟩;refine { len:=ak,pos:=ai,zero:=rfl,lt:=fun i b=>(a i b).1,inj:=?_,rR:=?_,next:=?_,wd:=⟨W.right.k4,W.right.bal⟩,right:=W.right,close:=?_,MK:=?_,fst:=?_,met:=?_,new:=?_ }
 ·intro i j b s e;rcases Nat.lt_trichotomy i j with t|X|t
  ·exact absurd e (N i j t s)
  ·exact X
  ·exact absurd e.symm (N j i t b)
 ·intro x hx hc;obtain⟨k,hk⟩:=(W.rR x hx).1 hc;obtain⟨j,s,C,_⟩:=IW S dG root hk;exact⟨j,s,C⟩
 ·intro i b;have C:(eD S dG root (i+1)).1=S (if eZ dG root (eD S dG root i).2 (eD S dG root i).1<2 then mt (eD S dG root i).1 else (eD S dG root i).1):=rfl;rw[iG (d i b),<-C];rcases Nat.lt_or_ge (i+1) g with M|M
  ·rw[Nat.mod_eq_of_lt M]
  ·obtain rfl:i+1=g:=by omega
   rw[Nat.mod_self,A];rfl
 ·intro i b;have c:i<g:=by have:=gX b;omega
  have q:=d i c;rw[q]at b;have Y:=Option.some.inj b;obtain⟨r1,st1,m,z,P⟩:=key i (by omega);obtain⟨r2,st2,Q,u⟩:=w i c;obtain⟨f1,f2,H⟩:=Q.fresh h hr u;have R:¬jE S root r1 st1:=fun U=>H (z.all h hr U F f2);obtain⟨r3,sI,hs,I3⟩:=z.step h he B hr R;rw[Y]at hs;cases hs with
  | close f rest an J =>
   subst an;obtain⟨_,ad⟩:=z.vU h H J;have ae:f.o<i:=by have:=gX ad;rwa [sF]at this
   have hO:=P.own.1;have O:=P.dep;rw[sF]at O;have K:∀p,p<=i->DD (jk (eD S dG root g).2) p=DD (jk (eD S dG root i).2) p:=fun p hp=>by unfold DD;rw[<-al i (by omega),List.take_take,Nat.min_eq_left hp]
   have L:=Az S dG root (T:=i) ae;rw[ad]at L;simp only [Option.some.injEq,Prod.mk.injEq]at L;refine⟨f.o,⟨ae,by omega,?_,by rw[q,Y],?_,?_⟩,L.1.symm⟩
   ·rw[d f.o (by omega),<-L.2]
   ·rw[gI (show i+1<=_ by omega),gI (show f.o<=_ by omega),wN (by rw[q,Y]),K i (Nat.le_refl _),K f.o (by omega),hO.2.1,O];simp[dd];omega
   ·intro p ao af;rw[gI (show p<=_ by omega),gI (show f.o<=_ by omega),K p af,K f.o (by omega),hO.2.1];exact hO.2.2 p ao (by rw[Bz,sF];exact af)
 ·intro i b;have c:i<g:=by have:=gX b;omega
  have q:=d i c;rw[q]at b;have l:=Option.some.inj b;unfold eZ at l;rcases Bv (a i c).2 with⟨k,E,J⟩|⟨E,_⟩
  ·rw[E]at l;simp only at l;obtain⟨j,s,C,M⟩:=IW S dG root J;refine⟨j,s,?_,C⟩;rw[d j (by omega),M];congr 1;omega
  ·rw[E]at l;simp only at l;split at l <;> omega
 ·intro i k b hk j s e;have c:i<g:=by have:=gX b;omega
  have q:=d i c;rw[q]at b;have l:=Option.some.inj b;unfold eZ at l;rcases Bv (a i c).2 with⟨k',E,J⟩|⟨E,J⟩
  ·rw[E]at l;simp only at l;obtain⟨r1,st1,m,z,P⟩:=key i (by omega);rcases z.half _ _ J (by rw[dF];exact(a i c).2) with⟨h0,_⟩|M
   ·omega
   ·omega
  ·have:=Az S dG root (T:=i) s;exact J ⟨_,e ▸ List.mem_of_getElem? this⟩
 ·intro i b;obtain⟨r1,st1,m,z,P⟩:=key g (Nat.le_refl _);have Z:vis (eD S dG root g).2 (eD S dG root i).1:=⟨_,List.mem_of_getElem? (Az S dG root b)⟩
  have aa:gG dG root (eD S dG root g).2 (dG (eD S dG root i).1)=true:=by
   cases hb:gG dG root (eD S dG root g).2 (dG (eD S dG root i).1)
   ·exact absurd Z (z.lZ _ (a i b).1 hb)
   ·rfl
  unfold gG at aa;rw[Bool.or_eq_true,beq_iff_eq,List.any_eq_true]at aa;rcases aa with e|⟨⟨x,k⟩,hx,ab⟩
  ·exact .inl ((B _ _ (a i b).1 hr).1 e)
  ·rw[Bool.and_eq_true,beq_iff_eq,beq_iff_eq]at ab;obtain⟨j,s,C,M⟩:=IW S dG root hx;have h3:k=0:=ab.1;refine .inr ⟨j,by rw[d j s,M,h3],?_⟩;have h4:dG (mt x)=dG (eD S dG root i).1:=ab.2;show dK S (eD S dG root i).1 (mt (eD S dG root j).1);rw[C];exact(B _ _ (a i b).1 (dQ he (by rw[<-C];exact(a j s).1))).1 h4.symm
 ·intro i j b s e;have c:i<g:=by have:=gX b;omega
  have q:=d i c;rw[q]at b;have v:=Option.some.inj b;unfold eZ at v;rcases Bv (a i c).2 with⟨k',E,J⟩|⟨E,J⟩
  ·rw[E]at v;simp only at v;omega
  ·rw[E]at v;simp only at v;obtain⟨r1,st1,m,z,P⟩:=key i (by omega)
   have ag:gG dG root (eD S dG root i).2 (dG (mt (eD S dG root i).1))=false:=by
    cases hb:gG dG root (eD S dG root i).2 (dG (mt (eD S dG root i).1))
    ·rfl
    ·rw[hb]at v;simp at v
   have Z:vis (eD S dG root i).2 (eD S dG root j).1:=⟨_,List.mem_of_getElem? (Az S dG root s)⟩
   have ah:=(a j (by omega)).1;rw[<-(B _ _ ah (dQ he (a i c).1)).2 e]at ag;exact z.lZ _ ah ag Z
section
variable {n:Nat} {S:Nat->Nat} {root T:Nat} {D:Nat->Nat} {ks:List Nat} (k:vT n S root T D ks)
include k
theorem vT.BS{i:Nat}(l:i<T)(f:ks.getD i 0<2):D (mp ks i)=mt (D i):=by
 have c:=k.wd;have b:i<ks.length:=by rw[k.len];exact l
 have key:∀i,ks[i]? = some 1->D (mp ks i)=mt (D i):=by intro i a;obtain⟨j,e,m⟩:=k.close i a;have d:=c.lJ e;have g:=c.gW (i:=j) (by have:=e.lt;have:=e.le;omega);rw[d]at g;rw[g];exact m
 obtain⟨s,o,⟨a,d⟩|⟨a,d⟩⟩:=c.cases b
 ·rw[iG a]at f;obtain rfl:s=0:=by omega
  have:=key _ d.closes;rw[c.gW b]at this;rw[this,dF]
 ·rw[iG a]at f;obtain rfl:s=0:=by omega
  exact key i a
open Classical in
theorem vT.xI(h:dO n S)(hr:root<n)(s:n % 2=0):((List.range n).filter fun x=>rep S x == x && decide (dI n S root x)).length<=eG ks 0+1:=by
 have b:∀m,m<=ks.length->(((List.range m).filter fun q=>ks[q]? == some 0).map fun q=>rep S (mt (D q))).length=eG (ks.take m) 0:=by
  intro m
  induction m with
  | zero=>intro _;simp[eG]
  | succ m d =>
   intro w;have d:=d (by omega);rw[List.length_map]at d ⊢;have g:=List.getElem?_eq_getElem (l:=ks) (i:=m) (by omega);rw[wL g,<-d,List.range_succ,List.filter_append,List.length_append];by_cases t:ks[m]=0 <;> simp[g,t]
 have o:=sK ((List.range n).filter fun x=>rep S x == x && decide (dI n S root x)) (rep S root :: (((List.range ks.length).filter fun q=>ks[q]? == some 0).map fun q=>rep S (mt (D q)))) (List.Pairwise.filter _ List.nodup_range) (fun x a=>by
  simp only [List.mem_filter,List.mem_range,Bool.and_eq_true,beq_iff_eq,decide_eq_true_eq]at a;obtain⟨a,c,f⟩:=a;obtain⟨i,u,rfl⟩:=k.rR x a f;rcases k.met i u with e|⟨j,e,v⟩
  ·rw[<-c,(h.iF a hr).2 e];simp
  ·have p:=gX e;rw[<-c,(h.iF a (dQ s (k.lt j (by rw[<-k.len];exact p)))).2 v];exact List.mem_cons_of_mem _ (List.mem_map.2 ⟨j,List.mem_filter.2 ⟨List.mem_range.2 p,by rw[e];rfl⟩,rfl⟩))
 rw[List.length_cons,b ks.length (Nat.le_refl _),List.take_of_length_le (Nat.le_refl _)]at o;exact o
noncomputable def iW(T:Nat)(D:Nat->Nat)(x:Nat):Nat:=open Classical in if h:∃i,i<T/\D i=x then h.choose else 0
omit k in
theorem Es{x:Nat}(a:∃i,i<T/\D i=x):iW T D x<T/\D (iW T D x)=x:=by unfold iW;rw[dif_pos a];exact a.choose_spec
noncomputable def iK(T:Nat)(D:Nat->Nat)(ks:List Nat)(i:Nat):Nat:=if ks.getD i 0<2 then i else iW T D (mt (D i))
theorem vT.conn(d:n % 2=0):∀i,i<T->dI n S root (D i):=by
 intro i
 induction i with
 | zero=>intro _;rw[k.zero];exact dI.refl _ _ _
 | succ i a =>
  intro e;have a:=a (by omega);have c:=k.next i (by omega);rw[Nat.mod_eq_of_lt e]at c;rw[c];have b:=k.lt i (by omega);split
  ·exact(a.trans (dI.mate b)).trans (dI.turn (dQ d b))
  ·exact a.trans (dI.turn b)
theorem vT.fG(u:n % 2=0){i:Nat}(f:i<T):(ks[i]? = some 2->i<iK T D ks i/\iK T D ks i<T/\D (iK T D ks i)=mt (D i)/\ks[iK T D ks i]? = some 3) /\
  (ks[i]? = some 3->iK T D ks i<i/\D (iK T D ks i)=mt (D i)/\ks[iK T D ks i]? = some 2):=by
 have y:i<ks.length:=by rw[k.len];exact f
 have o:∃j,j<T/\D j=mt (D i):=k.rR _ (dQ u (k.lt i f)) ((k.conn u i f).trans (dI.mate (k.lt i f)));obtain⟨b,c⟩:=Es o;refine⟨fun p=>?_,fun v=>?_⟩
 ·unfold iK;rw[iG p,if_neg (by omega)];generalize iW T D (mt (D i))=j at b c;have a:=List.getElem?_eq_getElem (l:=ks) (i:=j) (by rw[k.len];exact b)
  have d:i<j:=by
   rcases Nat.lt_trichotomy i j with g|g|g
   ·exact g
   ·subst g;exact absurd c.symm (sM _)
   ·exact absurd c (k.fst i 2 p (by omega) j g)
  refine⟨d,b,c,?_⟩;have w:=k.wd.k4 _ (List.mem_of_getElem? a);have s:ks[j]'(by rw[k.len];exact b)=0\/ks[j]'(by rw[k.len];exact b)=1\/ks[j]'(by rw[k.len];exact b)=2\/ks[j]'(by rw[k.len];exact b)=3:=by omega
  rcases s with e|e|e|e
  ·rw[e]at a;exact absurd (by rw[c,dF]) (k.fst j 0 a (by omega) i d)
  ·rw[e]at a;obtain⟨q,t,m⟩:=k.close j a;rw[c,dF]at m;have:=k.inj q i (by have:=t.lt;have:=t.le;rw[<-k.len];omega) f m;subst this;have:=t.opens;rw[p]at this;simp at this
  ·rw[e]at a;exact absurd (by rw[c,dF]) (k.fst j 2 a (by omega) i d)
  ·rw[a,e]
 ·unfold iK;rw[iG v,if_neg (by omega)];obtain⟨j,a,w,x⟩:=k.MK i v;have:=k.inj _ j b (by omega) (by rw[c,x]);rw[this];exact⟨a,x,w⟩
theorem vT.IX(c:n % 2=0):Dj T (iK T D ks):=by
 have key:∀i,i<T->(ks.getD i 0<2/\iK T D ks i=i)\/ks[i]? = some 2\/ks[i]? = some 3:=by
  intro i a;have d:=List.getElem?_eq_getElem (l:=ks) (i:=i) (by rw[k.len];exact a);have m:=k.wd.k4 _ (List.mem_of_getElem? d);by_cases b:ks.getD i 0<2
  ·exact .inl ⟨b,by unfold iK;rw[if_pos b]⟩
  ·rw[iG d]at b;right;rw[d];simp only [Option.some.injEq];omega
 refine⟨fun i a=>?_,fun i a=>?_⟩
 ·rcases key i a with⟨_,e⟩|b|f
  ·omega
  ·exact((k.fG c a).1 b).2.1
  ·have:=((k.fG c a).2 f).1;omega
 ·rcases key i a with⟨_,e⟩|b|f
  ·rw[e,e]
  ·obtain⟨m,g,j,p⟩:=(k.fG c a).1 b;obtain⟨q,g5,o⟩:=(k.fG c g).2 p;exact k.inj _ _ (by omega) a (by rw[g5,j,dF])
  ·obtain⟨m,g,j⟩:=(k.fG c a).2 f;obtain⟨q,g5,o,s⟩:=(k.fG c (show iK T D ks i<T by omega)).1 j;exact k.inj _ _ g5 a (by rw[o,g,dF])
theorem vT.face(j:n % 2=0){i:Nat}(a:i<T):D ((iK T D ks i+1) % T)=S (mt (D i)):=by
 by_cases c:ks.getD i 0<2
 ·have o:iK T D ks i=i:=by unfold iK;rw[if_pos c]
  rw[o,k.next i a,if_pos c]
 ·have b:=List.getElem?_eq_getElem (l:=ks) (i:=i) (by rw[k.len];exact a);have m:=k.wd.k4 _ (List.mem_of_getElem? b);rw[iG b]at c;have d:ks[i]'(by rw[k.len];exact a)=2\/ks[i]'(by rw[k.len];exact a)=3:=by omega
  rcases d with e|e
  ·rw[e]at b;obtain⟨m,f,g,p⟩:=(k.fG j a).1 b;rw[k.next _ f,iG p,if_neg (by omega),g]
  ·rw[e]at b;obtain⟨m,f,g⟩:=(k.fG j a).2 b;rw[k.next _ (by omega),iG g,if_neg (by omega),f]
open Classical in
theorem vT.faces(h:dO n S)(b:n % 2=0):((List.range n).filter fun x=>rep (fun d=>S (mt d)) x == x && decide (dI n S root x)).length<=eu (fun i=>(iK T D ks i+1) % T) T:=by
 have l:=k.IX b;have v:dO n (fun d=>S (mt d)):=⟨fun d o=>h.lt _ (dQ b o),fun d e o p w=>by have:=h.inj _ _ (dQ b o) (dQ b p) w;rw[<-dF d,this,dF]⟩
 have j:dO T (fun i=>(iK T D ks i+1) % T):=(yN l k.pos (fun _=>true)).congr (fun d _=>by simp[nZ])
 have c:∀m i,i<T->D (itr (fun i=>(iK T D ks i+1) % T) m i)=itr (fun d=>S (mt d)) m (D i):=by
  intro m i A
  induction m with
  | zero=>rfl
  | succ m B =>
   show D ((iK T D ks (itr (fun i=>(iK T D ks i+1) % T) m i)+1) % T)=S (mt (itr (fun d=>S (mt d)) m (D i)));rw[k.face b (j.dW A m),B]
 have s:=sK (((List.range n).filter fun x=>rep (fun d=>S (mt d)) x == x && decide (dI n S root x)).map fun x=>rep (fun i=>(iK T D ks i+1) % T) (iW T D x)) ((List.range T).filter fun x=>rep (fun i=>(iK T D ks i+1) % T) x == x) (by
  rw[List.Nodup,List.pairwise_map];have C:((List.range n).filter fun x=>rep (fun d=>S (mt d)) x == x && decide (dI n S root x)).Nodup:=List.Pairwise.filter _ List.nodup_range;refine List.Pairwise.imp_of_mem (fun {x y} a f q e=>q ?_) C;simp only [List.mem_filter,List.mem_range,Bool.and_eq_true,beq_iff_eq,decide_eq_true_eq]at a f;obtain⟨g,t⟩:=Es (k.rR x a.1 a.2.2);obtain⟨E,F⟩:=Es (k.rR y f.1 f.2.2);obtain⟨m,H⟩:=(j.iF g E).1 e;have u:=c m _ g;rw[H,t,F]at u;rw[<-a.2.1,<-f.2.1];exact(v.iF a.1 f.1).2 ⟨m,u.symm⟩) (fun z I=>by
  obtain⟨x,a,rfl⟩:=List.mem_map.1 I;simp only [List.mem_filter,List.mem_range,Bool.and_eq_true,beq_iff_eq,decide_eq_true_eq]at a ⊢;obtain⟨g,t⟩:=Es (k.rR x a.1 a.2.2);exact⟨j.kQ g,j.iY g⟩)
 rw[List.length_map]at s;exact s
omit k in
theorem Gn{ks:List Nat}(x:Nat):∀m,m<=ks.length->eG (ks.take m) x=((List.range m).filter fun q=>ks[q]? == some x).length:=by
 intro m
 induction m with
 | zero=>intro _;simp[eG]
 | succ m b =>
  intro d;have a:=List.getElem?_eq_getElem (l:=ks) (i:=m) (by omega);rw[wL a,b (by omega),List.range_succ,List.filter_append,List.length_append];by_cases c:ks[m]=x <;> simp[a,c]
omit k in
theorem q2z{ks:List Nat}(x:Nat){a m:Nat}(e:a<=m)(f:m<=ks.length):eG (ks.take m) x=eG (ks.take a) x+((List.range m).filter fun q=>decide (a<=q) && (ks[q]? == some x)).length:=by
 rw[Gn x m f,Gn x a (by omega)]
 rw[Eo (fun q=>ks[q]? == some x) (fun q=>decide (q<a) && (ks[q]? == some x)) (fun q=>decide (a<=q) && (ks[q]? == some x)) (fun q=>by
  by_cases d:q<a
  ·have:¬a<=q:=by omega
   simp[d,this]
  ·have:a<=q:=by omega
   simp[d,this]) (fun q=>by simp;omega)]
 congr 1;obtain⟨c,rfl⟩:∃c,m=a+c:=⟨m - a,by omega⟩
 rw[List.range_add,List.filter_append,List.length_append];have g:(List.range a).filter (fun q=>decide (q<a) && (ks[q]? == some x))=(List.range a).filter (fun q=>ks[q]? == some x):=List.filter_congr (fun q b=>by have:=List.mem_range.1 b;simp[this]);have i:((List.range c).map (a + ·)).filter (fun q=>decide (q<a) && (ks[q]? == some x))=[]:=by rw[List.filter_eq_nil_iff];intro q b;obtain⟨z,_,rfl⟩:=List.mem_map.1 b;simp;omega
 rw[g,i];rfl
theorem vT.xJ(t:n % 2=0){V F:Nat}(af:V<=eG ks 0+1)(ag:F<=eu (fun i=>(iK T D ks i+1) % T) T)(ah:T / 2+1<=V+F){i:Nat}(g:i<T):D (mp ks i)=mt (D i):=by
 have hw:=k.wd;have aa:i<ks.length:=by rw[k.len];exact g
 by_cases J:ks.getD i 0<2
 ·exact k.BS g J
 have c:=k.IX t;have ai:=hw.lI;have M:=k.len
 have j:((List.range T).filter fun i=>decide (i<iK T D ks i)).length=eG ks 2:=by
  have h3:=Gn 2 (ks:=ks) ks.length (Nat.le_refl _);rw[List.take_of_length_le (Nat.le_refl _)]at h3;rw[h3,M];congr 1;refine List.filter_congr (fun q X=>?_);have X:=List.mem_range.1 X;have d:=List.getElem?_eq_getElem (l:=ks) (i:=q) (by omega);have Y:=k.wd.k4 _ (List.mem_of_getElem? d);by_cases K:ks[q]'(by omega)=2
  ·rw[K]at d;have:=((k.fG t X).1 d).1;simp[d,this]
  ·by_cases N:ks[q]'(by omega)=3
   ·have A:=d;rw[N]at A;have O:=((k.fG t X).2 A).1;have:¬q<iK T D ks q:=by omega
    simp[A,this]
   ·have O:iK T D ks q=q:=by unfold iK;rw[iG d,if_pos (by omega)]
    simp[d,K,O]
 have hF:((List.range T).filter fun i=>decide (i<iK T D ks i)).length<=eu (fun i=>(iK T D ks i+1) % T) T:=by rw[j];omega
 have key:∀i,i<T->ks[i]? = some 2->mp ks i=iK T D ks i:=by
  intro i g J;obtain⟨Y,K,N,O⟩:=(k.fG t g).1 J;have P:=FV J
  have B:∀q,i<q->q<iK T D ks i->ks[q]? = some 3->i<iK T D ks q/\iK T D ks q<q/\ks[iK T D ks q]? = some 2:=by
   intro q h8 h9 C;obtain⟨L,Q,u⟩:=(k.fG t (show q<T by omega)).2 C;have ab:iK T D ks q≠i:=fun e=>by have:=c.inv q (by omega);rw[e]at this;omega
   refine⟨?_,L,u⟩;rcases Nat.lt_or_ge i (iK T D ks q)with Z|Z
   ·exact Z
   ·exfalso;have v:=c.inv q (by omega);exact MJ c hF (a:=iK T D ks q) (b:=i) g (by omega) (by rw[v];exact h8) (by rw[v];exact h9)
  have E:∀q,i<q->q<iK T D ks i->ks[q]? = some 2->q<iK T D ks q/\iK T D ks q<iK T D ks i/\ks[iK T D ks q]? = some 3:=by
   intro q h8 h9 C;obtain⟨L,Q,u,Z⟩:=(k.fG t (show q<T by omega)).1 C;have ab:iK T D ks q≠iK T D ks i:=fun e=>by have a1:=c.inv q (by omega);have a2:=c.inv i g;rw[e,a2]at a1;omega
   refine⟨L,?_,Z⟩;rcases Nat.lt_or_ge (iK T D ks q) (iK T D ks i)with g5|g5
   ·exact g5
   ·exfalso;exact MJ c hF (a:=i) (b:=q) (by omega) h8 h9 (by omega)
  have w:∀a b,a<T->b<T->iK T D ks a=iK T D ks b->a=b:=fun a b ha hb e=>by rw[<-c.inv a ha,e,c.inv b hb]
  have f:∀p,i<p->p<=iK T D ks i->BB ks i<BB ks p:=by
   intro p R U;have c3:=q2z (ks:=ks) 3 (a:=i+1) (m:=p) (by omega) (by omega);have c2:=q2z (ks:=ks) 2 (a:=i+1) (m:=p) (by omega) (by omega)
   have H:=sK (((List.range p).filter fun q=>decide (i+1<=q) && (ks[q]? == some 3)).map (iK T D ks)) ((List.range p).filter fun q=>decide (i+1<=q) && (ks[q]? == some 2)) (by
    rw[List.Nodup,List.pairwise_map];refine List.Pairwise.imp_of_mem (fun {x y} o hy I e=>I ?_) ((List.Pairwise.filter _ List.nodup_range:((List.range p).filter fun q=>decide (i+1<=q) && (ks[q]? == some 3)).Nodup));simp only [List.mem_filter,List.mem_range]at o hy;exact w x y (by omega) (by omega) e) (fun z hz=>by
    obtain⟨x,o,rfl⟩:=List.mem_map.1 hz;simp only [List.mem_filter,List.mem_range,Bool.and_eq_true,decide_eq_true_eq,beq_iff_eq]at o ⊢;obtain⟨L,Q,u⟩:=B x (by omega) (by omega) o.2.2;exact⟨by omega,by omega,u⟩)
   rw[List.length_map]at H;have e1:bb 2=1:=rfl;rw[e1]at P;have b1:BB ks p=(eG (ks.take p) 2:Int) - eG (ks.take p) 3:=rfl;have b2:BB ks (i+1)=(eG (ks.take (i+1)) 2:Int) - eG (ks.take (i+1)) 3:=rfl;omega
  have W:BB ks (iK T D ks i+1)=BB ks i:=by
   have c3:=q2z (ks:=ks) 3 (a:=i+1) (m:=iK T D ks i) (by omega) (by omega);have c2:=q2z (ks:=ks) 2 (a:=i+1) (m:=iK T D ks i) (by omega) (by omega)
   have H:=sK (((List.range (iK T D ks i)).filter fun q=>decide (i+1<=q) && (ks[q]? == some 2)).map (iK T D ks)) ((List.range (iK T D ks i)).filter fun q=>decide (i+1<=q) && (ks[q]? == some 3)) (by
    rw[List.Nodup,List.pairwise_map];refine List.Pairwise.imp_of_mem (fun {x y} o hy I e=>I ?_) ((List.Pairwise.filter _ List.nodup_range:((List.range (iK T D ks i)).filter fun q=>decide (i+1<=q) && (ks[q]? == some 2)).Nodup));simp only [List.mem_filter,List.mem_range]at o hy;exact w x y (by omega) (by omega) e) (fun z hz=>by
    obtain⟨x,o,rfl⟩:=List.mem_map.1 hz;simp only [List.mem_filter,List.mem_range,Bool.and_eq_true,decide_eq_true_eq,beq_iff_eq]at o ⊢;obtain⟨L,Q,u⟩:=E x (by omega) (by omega) o.2.2;exact⟨by omega,by omega,u⟩)
   rw[List.length_map]at H;have ad:=FV O;have aj:=f (iK T D ks i) Y (Nat.le_refl _);have e1:bb 2=1:=rfl;have e3:bb 3=-1:=rfl;rw[e1]at P;rw[e3]at ad;have b1:BB ks (iK T D ks i)=(eG (ks.take (iK T D ks i)) 2:Int) - eG (ks.take (iK T D ks i)) 3:=rfl;have b2:BB ks (i+1)=(eG (ks.take (i+1)) 2:Int) - eG (ks.take (i+1)) 3:=rfl;omega
  refine hw.lJ (s:=1) ⟨Y,by omega,J,O,?_,fun p R U=>?_⟩
  ·rw[iR (by omega),iR (by omega)];exact W
  ·rw[iR (by omega),iR (by omega)];exact f p R U
 have d:=List.getElem?_eq_getElem (l:=ks) (i:=i) aa;have Y:=k.wd.k4 _ (List.mem_of_getElem? d);rw[iG d]at J;have ae:ks[i]=2\/ks[i]=3:=by omega
 rcases ae with e|e
 ·rw[e]at d;rw[key i g d];exact((k.fG t g).1 d).2.2.1
 ·rw[e]at d;obtain⟨L,Q,u⟩:=(k.fG t g).2 d;have K:=key _ (by omega) u;rw[c.inv i g]at K;have N:=hw.gW (i:=iK T D ks i) (by omega);rw[K]at N;rw[N];exact Q
omit k in
open Classical in
theorem Tc{n:Nat}{S P:Nat->Nat}{root:Nat}(a:∀x,x<n->dI n S root x):((List.range n).filter fun x=>rep P x == x && decide (dI n S root x)).length=eu P n:=by unfold eu;congr 1;refine List.filter_congr (fun x b=>?_);rw[decide_eq_true (a x (List.mem_range.1 b)),Bool.and_true]
theorem vT.oh(h:dO n S)(hr:root<n)(a:n % 2=0)(e:∀x,x<n->dI n S root x)(j:T=n)(f:n / 2+1<=eu S n+eu (fun d=>S (mt d)) n){i:Nat}(g:i<T):D (mp ks i)=mt (D i):=by have b:=k.xI h hr a;have c:=k.faces h a;rw[Tc e]at b c;exact k.xJ a b c (by omega) g
theorem vT.BU(d:n % 2=0):((List.range T).filter fun i=>decide (i<iK T D ks i)).length=eG ks 2:=by
 have e:=Gn 2 (ks:=ks) ks.length (Nat.le_refl _);rw[List.take_of_length_le (Nat.le_refl _)]at e;rw[e,k.len];congr 1;refine List.filter_congr (fun q a=>?_);have a:=List.mem_range.1 a;have b:=List.getElem?_eq_getElem (l:=ks) (i:=q) (by rw[k.len];exact a);have m:=k.wd.k4 _ (List.mem_of_getElem? b);by_cases f:ks[q]'(by rw[k.len];exact a)=2
 ·rw[f]at b;have:=((k.fG d a).1 b).1;simp[b,this]
 ·by_cases j:ks[q]'(by rw[k.len];exact a)=3
  ·have c:=b;rw[j]at c;have g:=((k.fG d a).2 c).1;have:¬q<iK T D ks q:=by omega
   simp[c,this]
  ·have g:iK T D ks q=q:=by unfold iK;rw[iG b,if_pos (by omega)]
   simp[b,f,g]
omit k in
theorem Td{n:Nat}{a:Nat->Nat}(h:Dj n a)(b:0<n):eu (fun i=>(a i+1) % n) n<=((List.range n).filter fun i=>decide (i<a i)).length+1:=by
 have e:=MI h b n n n (Nat.le_refl _)
 have f:∀x,x<n->(nZ a (fun y=>decide (y<n) || (y == n || y == n)) x+1) % n=(a x+1) % n:=by
  intro x j;unfold nZ;have:min x (a x)<n:=by omega
  simp[this]
 have g:=yN h b (fun y=>decide (y<n) || (y == n || y == n));have c:dO n (fun i=>(a i+1) % n):=g.congr (fun d l=>(f d l).symm);rw[yM g c f n (Nat.le_refl _)]at e
 have m:∀x,x<n->(nZ a (fun y=>y == n || y == n) x+1) % n=(x+1) % n:=by
  intro x j;unfold nZ;have o:min x (a x)≠n:=by omega
  have p:(min x (a x) == n)=false:=by rw[beq_eq_false_iff_ne];exact o
  simp[p]
 rw[yM (yN h b _) (IQ b) m n (Nat.le_refl _)]at e;have q:=MH b;have s:rT a n n n<=((List.range n).filter fun i=>decide (i<a i)).length:=by have:=Eo (fun i=>decide (i<a i)) (fun i=>decide (i<a i) && !(i == n || i == n)) (fun i=>decide (i<a i) && (i == n || i == n)) (fun x=>by cases decide (x<a x) <;> cases (x == n || x == n) <;> rfl) (fun x=>by cases decide (x<a x) <;> cases (x == n || x == n) <;> simp) (List.range n);unfold rT;omega
 omega
open Classical in
theorem vT.xK(h:dO n S)(hr:root<n)(a:n % 2=0):((List.range n).filter fun x=>rep S x == x && decide (dI n S root x)).length+((List.range n).filter fun x=>rep (fun d=>S (mt d)) x == x && decide (dI n S root x)).length<=T / 2+2:=by have c:=k.xI h hr a;have e:=k.faces h a;have b:=Td (k.IX a) k.pos;rw[k.BU a]at b;have f:=k.wd.lI;have g:=k.len;omega
end
end
section
open Go.RowKit
def iL(t p l:Bool):Value:=.agg #[.bool t,.bool p,.bool l]
def um(t p l:Bool):Nat:=t.toNat+2 * p.toNat+4 * l.toNat
theorem Tf(t p l:Bool):um t p l<8:=by cases t <;> cases p <;> cases l <;> decide
theorem Ti(t p l:Bool)(w:World) :
  Calls Tryz.prog 87 #[iL t p l] w fun e w'=>e=.returned (.int .u8 (um t p l:Nat))/\Keeps (fun _=>False) w w':=by
 obtain⟨b,c,a3,u,v,x,H,I,J,K,L⟩:∃b c a3:Nat,b=t.toNat/\c=t.toNat+2 * p.toNat/\a3=um t p l/\b<256/\c<256/\(t=true->bits .or .u8 0 1=(b:Int))/\(p=true->bits .or .u8 (b:Int) 2=(c:Int))/\(l=true->bits .or .u8 (c:Int) 4=(a3:Int)):=by
  refine⟨_,_,_,rfl,rfl,rfl,?_,?_,?_,?_,?_⟩
  ·cases t <;> decide
  ·cases t <;> cases p <;> decide
  ·rintro rfl;decide
  ·rintro rfl;cases t <;> decide
  ·rintro rfl;cases t <;> cases p <;> decide
 rw[<-x];have M:t=false->b=0:=by rintro rfl;exact u
 have N:p=false->c=b:=by rintro rfl;rw[u,v];rfl
 have O:l=false->a3=c:=by rintro rfl;rw[v,x];rfl
 clear u v x;unfold iL;have B:=((Keeps.refl (fun _=>False) w).alloc (.cells #[.bool t,.bool p,.bool l] 35))
 go_enter Tryz.func87,Tryz.ntmps87;go_wp2_with fail;generalize y:World.alloc _ _=W1
 have a:∃T,W1.heap[w.heap.size+1]? = some (.cells #[.bool t,.int .u8 1,.bool p,.int .u8 2,.bool l,.int .u8 4] T (0,0)):=by
  rw[<-y];have C:=fun o=>heap_alloc_new (w.alloc (.cells #[.bool t,.bool p,.bool l] 35)) o;have P:(w.alloc (.cells #[.bool t,.bool p,.bool l] 35)).heap.size=w.heap.size+1:=by simp
  rw[P]at C;exact⟨_,C _⟩
 have m:Keeps (fun _=>False) w W1:=by rw[<-y];exact B.alloc _
 obtain⟨T,a⟩:=a;obtain⟨g,E⟩:∃g,g=w.heap.size+1:=⟨_,rfl⟩
 rw[<-E]at a ⊢;have F:=dh (dn a m);clear y a m B E;go_loopg [3,17] 3 (fun Q s R wr=>∃j:Nat,j<=3/\Q=3 - j/\R=.int .i64 j/\((j=0/\s=.int .u8 0)\/(j=1/\s=.int .u8 b)\/(j=2/\s=.int .u8 c)\/(j=3/\s=.int .u8 a3))/\wr.heap[g]? = some (.cells #[.bool t,.int .u8 1,.bool p,.int .u8 2,.bool l,.int .u8 4] T (0,0))/\Keeps (fun _=>False) w wr)
 case atStart=>exact⟨0,by omega,rfl,rfl,.inl ⟨rfl,rfl⟩,F.out⟩
 case round =>
  clear F;obtain⟨j,V,q,rfl,z,d,A⟩:=hrel;have f:=dh q;have W:=dw d 0;have X:=dw d 1;have Y:=dw d 2;have Z:=dw d 3;have c4:=dw d 4;have c5:=dw d 5;clear q;have i:=dh (show ∀o,(wr.alloc o).heap[g]? = some (.cells #[.bool t,.int .u8 1,.bool p,.int .u8 2,.bool l,.int .u8 4] T (0,0))/\Keeps (fun _=>False) w (wr.alloc o)from fun o=>⟨((Keeps.refl (fun _=>False) wr).alloc o).at d (fun h=>h),A.alloc o⟩);have U:=dh A;clear d A;rcases z with⟨rfl,rfl⟩|⟨rfl,rfl⟩|⟨rfl,rfl⟩|⟨rfl,rfl⟩
  ·cases t
   ·have:=M rfl;subst this;go_wp2_with fail;go_roundg 2
    case measure=>rw[f.out];omega
    case rel=>exact⟨1,by omega,rfl,rfl,.inr (.inl ⟨rfl,rfl⟩),i.out _⟩
   ·have:=J rfl;go_wp2_with fail;go_roundg 2
    case measure=>rw[f.out];omega
    case rel=>exact⟨1,by omega,rfl,rfl,.inr (.inl ⟨rfl,rfl⟩),i.out _⟩
  ·cases p
   ·have:=N rfl;subst this;go_wp2_with fail;go_roundg 1
    case measure=>rw[f.out];omega
    case rel=>exact⟨2,by omega,rfl,rfl,.inr (.inr (.inl ⟨rfl,rfl⟩)),i.out _⟩
   ·have:=K rfl;go_wp2_with fail;go_roundg 1
    case measure=>rw[f.out];omega
    case rel=>exact⟨2,by omega,rfl,rfl,.inr (.inr (.inl ⟨rfl,rfl⟩)),i.out _⟩
  ·cases l
   ·have:=O rfl;subst this;go_wp2_with fail;go_roundg 0
    case measure=>rw[f.out];omega
    case rel=>exact⟨3,by omega,rfl,rfl,.inr (.inr (.inr ⟨rfl,rfl⟩)),i.out _⟩
   ·have:=L rfl;go_wp2_with fail;go_roundg 0
    case measure=>rw[f.out];omega
    case rel=>exact⟨3,by omega,rfl,rfl,.inr (.inr (.inr ⟨rfl,rfl⟩)),i.out _⟩
  ·go_wp2;go_ret
   exact⟨rfl,U.out⟩
theorem Et(w:World)(y z:Nat):Sl .u8 (w.alloc (.cells #[.int .u8 (y:Int),.int .u8 (z:Int)] 5 (2,3))) (.slice (some ⟨w.heap.size,0,none⟩) 2 2) (dD [y,z]):=by
 have b:=heap_alloc_new w (.cells #[.int .u8 (y:Int),.int .u8 (z:Int)] 5 (2,3));refine⟨_,2,rfl,Nat.le_refl _,by decide,(fun h=>by cases h),fun j x a=>⟨w.heap.size,0,rfl,?_⟩⟩;rw[Nat.zero_add,dw b]
 match j,a with
 | 0,a=>simp[dD]at a;subst a;rfl
 | 1,a=>simp[dD]at a;subst a;rfl
 | j+2,a=>simp[dD]at a
end
section
def es0(S:Nat->Nat)(r:Nat):List Nat:=[mt (fc S (fc S r)),mt (fc S r),mt r]
section
variable {n:Nat} {S:Nat->Nat} (T:jO n S)
include T
theorem jO.Eu{x:Nat}(a:x<n):mt x≠fc S x:=fun h=>by have b:=T.loop _ (T.gD (T.gD a));rw[T.zq a,T.vf (T.gD a),<-h,dF]at b;exact b rfl
theorem jO.BX{x:Nat}(a:x<n):mt x≠fc S (fc S x):=fun h=>by have b:=T.loop _ (T.gD a);rw[<-T.vf (T.gD a),<-h,T.vf a]at b;exact b rfl
variable {r:Nat} (hr:r<n)
include hr
theorem jO.zG:vnum S r≠vnum S (fc S r)/\vnum S (fc S r)≠vnum S (fc S (fc S r))/\vnum S r≠vnum S (fc S (fc S r)):=by
 refine⟨?_,?_,?_⟩
 ·rw[T.vf hr];exact T.loop r hr
 ·rw[T.vf (T.gD hr)];exact T.loop _ (T.gD hr)
 ·have:=T.loop _ (T.gD (T.gD hr));rw[T.zq hr]at this;exact this.symm
omit T hr in
theorem IY(x:Nat):eH S r (fun _=>False) x↔x=r\/x=fc S r\/x=fc S (fc S r):=by unfold eH;simp
theorem Shl.init:Shl n S r (es0 S r) (fun _=>False):=by
 have j:=T.gD hr;have z:=T.gD j;obtain⟨C,E,F⟩:=T.zG hr;have t:vnum S (mt (fc S (fc S r)))=vnum S r:=T.zq hr;have u:vnum S (mt (fc S r))=vnum S (fc S (fc S r)):=(T.vf j).symm;have v:vnum S (mt r)=vnum S (fc S r):=(T.vf hr).symm;have c:=fun x=>IY (S:=S) (r:=r) x
 have m:∀x,x<n->eH S r (fun _=>False) x->¬eH S r (fun _=>False) (mt x):=fun x d q b=>by
  rw[c]at q b;have w:=sM x;have s:=T.Eu d;have p:=T.BX d;rcases q with rfl|rfl|rfl
  ·rcases b with b|b|b
   ·exact w b
   ·exact s b
   ·exact p b
  ·rw[T.f3 hr]at p;rcases b with b|b|b
   ·exact p b
   ·exact w b
   ·exact s b
  ·rw[T.f3 hr]at s p;rcases b with b|b|b
   ·exact s b
   ·exact p b
   ·exact w b
 refine⟨by simp[es0],?_,⟨[mt (fc S (fc S r)),mt (fc S r)],rfl⟩,?_,?_,?_,?_,fun _ _ h=>h,?_,?_,?_⟩
 ·intro e A;simp only [es0,List.mem_cons,List.not_mem_nil,or_false]at A;rcases A with rfl|rfl|rfl
  ·exact T.mlt z
  ·exact T.mlt j
  ·exact T.mlt hr
 ·simp only [es0,List.map_cons,List.map_nil,t,u,v];simp[C,F,E.symm]
 ·exact⟨by rw[dF];exact u.symm,by rw[dF];exact v.symm,trivial⟩
 ·intro a l h;simp only [es0,List.cons.injEq]at h;rw[<-h.1,t]
 ·intro x d;constructor
  ·intro B;simp only [es0,List.mem_cons,List.not_mem_nil,or_false]at B;have key:∀y,y<n->eH S r (fun _=>False) y->x=mt y->¬eH S r (fun _=>False) x/\eH S r (fun _=>False) (mt x):=fun y H o h=>by subst h;rw[dF];exact⟨m y H o,o⟩
   rcases B with h|h|h
   ·exact key _ z ((c _).2 (.inr (.inr rfl))) h
   ·exact key _ j ((c _).2 (.inr (.inl rfl))) h
   ·exact key _ hr ((c _).2 (.inl rfl)) h
  ·rintro⟨-,o⟩;rw[c]at o;simp only [es0,List.mem_cons,List.not_mem_nil,or_false];rcases o with o|o|o
   ·exact .inr (.inr (by rw[<-o,dF]))
   ·exact .inr (.inl (by rw[<-o,dF]))
   ·exact .inl (by rw[<-o,dF])
 ·intro x d _ f o;rw[c]at o;rcases o with rfl|rfl|rfl
  ·exact f (mt (fc S (fc S x))) (by simp[es0]) t.symm
  ·exact f (mt r) (by simp[es0]) v.symm
  ·exact f (mt (fc S r)) (by simp[es0]) u.symm
 ·intro x d q b;exact absurd b (m x d q)
 ·intro P g _ i x d o;rw[c]at o;rcases o with rfl|rfl|rfl
  ·exact i
  ·exact g _ hr i
  ·exact g _ j (g _ hr i)
end
section
variable {n:Nat} {S:Nat->Nat} {r:Nat} {es:List Nat} {G:Nat->Prop} (h:Shl n S r es G) (T:jO n S) (hr:r<n)
include h T hr
theorem Shl.fin{p q b:Nat}(a:es=[p,q,b])(F:S (mt p)=q):∀x,x<n->G (vnum S x)\/vnum S x=vnum S p\/vnum S x=vnum S q\/vnum S x=vnum S b:=by
 have H:p ∈ es:=by rw[a];simp
 have I:q ∈ es:=by rw[a];simp
 have R:b ∈ es:=by rw[a];simp
 have l:=h.lt p H;have c:=h.lt q I;obtain⟨C,J⟩:=h.last;have f:b=mt r:=by have:=J;rw[a,show [p,q,b]=[p,q] ++ [b]from rfl]at this;have:=(List.append_inj' this rfl).2;simpa using this
 have m:fc S (fc S q)=p:=by rw[<-F,T.Iu (T.mlt l),dF]
 have s:vnum S (mt q)=vnum S b:=iJ.at (A:=[p]) (B:=[]) (by have:=h.path;rw[a]at this;exact this);have v:fc S q=mt r:=by refine T.zm _ _ (T.gD c) (T.mlt hr) (by rw[T.vf c,s,f]) ?_;rw[<-T.vf (T.gD c),m,dF];exact(h.zu p _ a).symm
 have hF:∀z,z=q\/z=fc S q\/z=fc S (fc S q)->z ∈ es:=by rw[m,v,<-f,a];rintro z (rfl|rfl|rfl) <;> simp
 intro x t;apply Classical.byContradiction;intro w;simp only [not_or]at w;obtain⟨K,L,M,N⟩:=w
 have j:∀e ∈ es,vnum S x≠vnum S e:=by
  rw[a];intro e y;simp only [List.mem_cons,List.not_mem_nil,or_false]at y;rcases y with rfl|rfl|rfl
  ·exact L
  ·exact M
  ·exact N
 have O:=h.inn x t K j
 have key:=T.conn x r t hr (fun z=>z<n/\¬eH S r G z/\¬(z=q\/z=fc S q\/z=fc S (fc S q))) ⟨t,O,fun g=>j x (hF x g) rfl⟩ (fun z _ P=>by
  obtain⟨g,E,Q⟩:=P
  have i:mt z<n/\¬eH S r G (mt z)/\¬(mt z=q\/mt z=fc S q\/mt z=fc S (fc S q)):=by
   refine⟨T.mlt g,fun o=>Q ?_,fun u=>?_⟩
   ·have:=(h.vN z g).2 ⟨E,o⟩;rw[a]at this;simp only [List.mem_cons,List.not_mem_nil,or_false]at this;rw[m,v,<-f];rcases this with h|h|h
    ·exact .inr (.inr h)
    ·exact .inl h
    ·exact .inr (.inl h)
   ·have:=(h.fE (hF _ u)).2;rw[dF]at this;exact E this
  refine⟨⟨T.slt g,fun o=>?_,fun d=>?_⟩,i⟩
  ·exact i.2.1 ((T.qQ hr g).1 o)
  ·refine i.2.2 ?_;rw[<-zo S z]at d;rcases d with d|d|d
   ·exact .inr (.inr (by rw[<-d,T.f3 i.1]))
   ·exact .inl (T.D8 i.1 c d)
   ·exact .inr (.inl (T.D8 i.1 (T.gD c) d)))
 exact key.2.1 (.inl (.inl rfl))
noncomputable def yO(S:Nat->Nat)(es:List Nat)(d:Nat):Nat:=((jg S d).filter fun y=>(es.map (vnum S)).contains (vnum S (mt y))).length
omit hr in
theorem Shl.xL{A B:List Nat}{p q d:Nat}(c:es=A ++ p :: q :: B)(O:B≠[])(m:d<n)(o:vnum S d=vnum S q):yO S es d=2↔lS n S r es G q:=by
 have u:p ∈ es:=by rw[c];simp
 have w:q ∈ es:=by rw[c];simp
 have x:=h.lt p u;have C:=h.lt q w;have E:=T.mlt x;have F:vnum S (mt p)=vnum S q:=iJ.at (c ▸ h.path)
 obtain⟨b,B',rfl⟩:∃b B',B=b :: B':=by
  cases B with
  | nil=>exact absurd rfl O
  | cons b B'=>exact⟨b,B',rfl⟩
 have H:vnum S (mt q)=vnum S b:=by have g:=h.path;rw[c,show A ++ p :: q :: b :: B'=(A ++ [p]) ++ q :: b :: B' by simp]at g;exact iJ.at g
 have P:b ∈ es:=by rw[c];simp
 have s:mt p≠q:=fun t=>by have g:=(h.fE u).2;rw[t]at g;exact(h.fE w).1 g
 have a:∀y,y ∈ (jg S d).filter (fun y=>(es.map (vnum S)).contains (vnum S (mt y)))↔y<n/\vnum S y=vnum S q/\∃e,e ∈ es/\vnum S (mt y)=vnum S e:=by
  intro y;rw[List.mem_filter,T.dR.fU m];constructor
  ·rintro⟨g,h2⟩;have j:=T.dR.fK m g;rw[List.contains_iff_mem,List.mem_map]at h2;obtain⟨e,i,f⟩:=h2;exact⟨j,by rw[<-o];exact((T.dR.eT m j).2 g).symm,e,i,f.symm⟩
  ·rintro⟨j,g,e,i,f⟩;refine⟨(T.dR.eT m j).1 (by rw[o,g]),?_⟩;rw[List.contains_iff_mem,List.mem_map];exact⟨e,i,f.symm⟩
 have I:((jg S d).filter (fun y=>(es.map (vnum S)).contains (vnum S (mt y)))).Nodup:=List.Pairwise.filter _ (T.dR.kY m);have M:=(a (mt p)).2 ⟨E,F,p,u,by rw[dF]⟩;have N:=(a q).2 ⟨C,rfl,b,P,H⟩;unfold yO;generalize (jg S d).filter (fun y=>(es.map (vnum S)).contains (vnum S (mt y)))=l at *;constructor
 ·intro hl y j Q R U e i J;have V:=(a y).2 ⟨j,Q,e,i,J⟩
  have K:[mt p,q,y].length<=l.length:=sK _ _ (by
   have W:mt p≠y:=fun t=>R (by rw[<-t];exact(h.fE u).2);have X:q≠y:=fun t=>U (by rw[<-t];exact(h.fE w).2)
   simp[s,W,X]) (fun z v=>by
    simp only [List.mem_cons,List.not_mem_nil,or_false]at v;rcases v with rfl|rfl|rfl
    ·exact M
    ·exact N
    ·exact V)
  simp at K;omega
 ·intro L
  have K:l.length=[mt p,q].length:=vI I (by simp[s]) (fun z=>by
   simp only [List.mem_cons,List.not_mem_nil,or_false];constructor
   ·intro v;obtain⟨Y,Z,e,i,f⟩:=(a z).1 v;exact h.lg T c L Y Z i f
   ·rintro (rfl|rfl)
    ·exact M
    ·exact N)
  rw[K];rfl
end
end
