import Derived.Lib.Bytealg
import Derived.Test.YtalhcfjcbbkpgaaGreatZp02
set_option maxRecDepth 100000
set_option maxHeartbeats 4000000
namespace Go.Proofs.YtalhcfjcbbkpgaaGreat
section
def itr(S:Nat->Nat):Nat->Nat->Nat
 | 0,d=>d
 | k+1,d=>S (itr S k d)
theorem yF(S:Nat->Nat)(a b d:Nat):itr S (a+b) d=itr S a (itr S b d):=by
 induction a with
 | zero=>simp[itr]
 | succ a c=>rw[Nat.succ_add];simp only [itr,c]
theorem DU(S:Nat->Nat)(k d:Nat):itr S (k+1) d=itr S k (S d):=yF S k 1 d
structure dO (n:Nat)(S:Nat->Nat):Prop where
 lt:∀d,d<n->S d<n
 inj:∀d e,d<n->e<n->S d=S e->d=e
theorem KJ(n:Nat):∀l:List Nat,l.Nodup->l.length<=(l.filter (fun x=>x != n)).length+1
 | [],_=>by simp
 | x :: l,h=>by
  rw[List.nodup_cons]at h;by_cases a:x=n
  ·subst a;have:l.filter (fun y=>y != x)=l:=List.filter_eq_self.2 (fun y b=>by rw[bne_iff_ne];rintro rfl;exact h.1 b);rw[List.filter_cons,if_neg (by simp),this];simp
  ·have:=KJ n l h.2;rw[List.filter_cons,if_pos (by simpa using a)];simp only [List.length_cons];omega
theorem Bl:∀(n:Nat) (l:List Nat),l.Nodup->(∀x ∈ l,x<n)->l.length<=n
 | 0,l,_,h=>by
  cases l with
  | nil=>simp
  | cons x l=>exact absurd (h x (by simp)) (by omega)
 | n+1,l,a,h=>by
  have b:=Bl n (l.filter (fun x=>x != n)) (a.filter _) (fun x d=>by
   obtain⟨b,c⟩:=List.mem_filter.1 d;have:=h x b;have e:x≠n:=by simpa using c
   omega)
  have c:=KJ n l a;omega
theorem sK:∀(l m:List Nat),l.Nodup->(∀x ∈ l,x ∈ m)->l.length<=m.length
 | [],m,_,_=>by simp
 | x :: l,m,a,h=>by rw[List.nodup_cons]at a;have b:=h x (by simp);have d:=sK l (m.erase x) a.2 (fun y c=>(List.mem_erase_of_ne (by rintro rfl;exact a.1 c)).2 (h y (by simp[c])));rw[List.length_erase_of_mem b]at d;have:0<m.length:=List.length_pos_of_mem b;simp only [List.length_cons];omega
theorem vI{l m:List Nat}(b:l.Nodup)(c:m.Nodup)(h:∀x,x ∈ l↔x ∈ m):l.length=m.length :=
 Nat.le_antisymm (sK l m b (fun x a=>(h x).1 a)) (sK m l c (fun x a=>(h x).2 a))
section
variable {n:Nat} {S:Nat->Nat} (h:dO n S)
include h
theorem dO.dW{d:Nat}(a:d<n)(k:Nat):itr S k d<n:=by
 induction k with
 | zero=>exact a
 | succ k b=>exact h.lt _ b
theorem dO.rC{d e:Nat}(b:d<n)(he:e<n)(k:Nat)(a:itr S k d=itr S k e):d=e:=by
 induction k with
 | zero=>exact a
 | succ k c=>exact c (h.inj _ _ (h.dW b k) (h.dW he k) a)
theorem dO.ret{d:Nat}(b:d<n):∃p,0<p/\p<=n/\itr S p d=d:=by
 apply Classical.byContradiction;intro c
 have e:∀i j,i<j->j<=n->itr S i d≠itr S j d:=by
  intro i j a g he;refine c ⟨j - i,by omega,by omega,?_⟩;have k:itr S j d=itr S i (itr S (j - i) d):=by rw[<-yF];congr 1;omega
  rw[k]at he;exact(h.rC b (h.dW b _) i he).symm
 have f:((List.range (n+1)).map fun i=>itr S i d).Nodup:=by rw[List.Nodup,List.pairwise_iff_getElem];intro i j l g a;simp only [List.length_map,List.length_range]at l g;simp only [List.getElem_map,List.getElem_range];exact e i j a (by omega)
 have:=Bl n _ f (fun x m=>by obtain⟨i,_,rfl⟩:=List.mem_map.1 m;exact h.dW b i);simp at this;omega
end
noncomputable def per(S:Nat->Nat)(d:Nat):Nat :=
 open Classical in if h:∃p,0<p/\itr S p d=d/\∀i,0<i->i<p->itr S i d≠d then h.choose else 0
section
variable {n:Nat} {S:Nat->Nat} (h:dO n S)
include h
theorem dO.dM{d:Nat}(l:d<n):0<per S d/\per S d<=n/\itr S (per S d) d=d/\∀i,0<i->i<per S d->itr S i d≠d:=by
 obtain⟨p,f,m,k⟩:=h.ret l;have a:∃p,0<p/\itr S p d=d/\∀i,0<i->i<p->itr S i d≠d:=by obtain⟨q,e,g,b,o⟩:=Bj (fun i=>itr S i d=d) 1 (p - 1) (by rw[show 1+(p - 1)=p by omega];exact k);exact⟨q,e,b,fun i r s=>o i r s⟩
 have c:per S d=a.choose:=by unfold per;rw[dif_pos a]
 obtain⟨e,g,b⟩:=a.choose_spec;rw[<-c]at e g b;refine⟨e,?_,g,b⟩;rcases Nat.lt_or_ge p (per S d)with j|t
 ·exact absurd k (b p f j)
 ·omega
theorem dO.uJ{d:Nat}(a:d<n)(q:Nat):itr S (per S d * q) d=d:=by
 induction q with
 | zero=>rfl
 | succ q b=>rw[Nat.mul_succ,Nat.add_comm,yF,b,(h.dM a).2.2.1]
theorem dO.yX{d:Nat}(a:d<n)(k:Nat):itr S k d=itr S (k % per S d) d:=by
 conv=>lhs;rw[<-Nat.mod_add_div k (per S d),yF,h.uJ a]
theorem dO.fB{d:Nat}(a:d<n){i j:Nat}(e:i<per S d)(f:j<per S d)(he:itr S i d=itr S j d):i=j:=by
 rcases Nat.lt_trichotomy i j with b|rfl|b
 ·have c:itr S j d=itr S i (itr S (j - i) d):=by rw[<-yF];congr 1;omega
  rw[c]at he;exact absurd (h.rC a (h.dW a _) i he).symm ((h.dM a).2.2.2 _ (by omega) (by omega))
 ·rfl
 ·have c:itr S i d=itr S j (itr S (i - j) d):=by rw[<-yF];congr 1;omega
  rw[c]at he;exact absurd (h.rC (h.dW a _) a j he) ((h.dM a).2.2.2 _ (by omega) (by omega))
end
def dK(S:Nat->Nat)(d e:Nat):Prop:=∃k,itr S k d=e
theorem dK.refl(S:Nat->Nat)(d:Nat):dK S d d:=⟨0,rfl⟩
theorem dK.trans{S:Nat->Nat}{d e f:Nat}(h:dK S d e)(k:dK S e f):dK S d f:=by obtain⟨i,rfl⟩:=h;obtain⟨j,rfl⟩:=k;exact⟨j+i,yF S j i d⟩
theorem dK.step(S:Nat->Nat)(d:Nat):dK S d (S d):=⟨1,rfl⟩
section
variable {n:Nat} {S:Nat->Nat} (h:dO n S)
include h
theorem dO.eO{d e:Nat}(a:d<n)(b:dK S d e):dK S e d:=by obtain⟨k,rfl⟩:=b;have c:=(h.dM a).1;refine⟨per S d * (k+1) - k,?_⟩;rw[<-yF];have:k<=per S d * (k+1):=Nat.le_trans (by omega) (Nat.le_mul_of_pos_left (k+1) c);rw[Nat.sub_add_cancel this,h.uJ a]
theorem dO.fK{d e:Nat}(a:d<n)(b:dK S d e):e<n:=by obtain⟨k,rfl⟩:=b;exact h.dW a k
theorem dO.iQ{d e:Nat}(a:d<n)(b:dK S d e):∃i,i<per S d/\itr S i d=e:=by obtain⟨k,rfl⟩:=b;exact⟨k % per S d,Nat.mod_lt _ (h.dM a).1,(h.yX a k).symm⟩
theorem dO.back{d:Nat}(a:d<n):∃e,e<n/\S e=d:=by
 obtain⟨b,_,c,_⟩:=h.dM a;refine⟨itr S (per S d - 1) d,h.dW a _,?_⟩;have:itr S (per S d - 1+1) d=d:=by rw[Nat.sub_add_cancel b];exact c
 exact this
theorem dO.xq{d e:Nat}(a:d<n)(b:dK S d e):per S e=per S d:=by
 have he:=h.fK a b;have c:=h.eO a b
 have key:∀{x y:Nat},x<n->dK S x y->y<n->per S y<=per S x:=by
  intro x y j f l;obtain⟨k,rfl⟩:=f;have m:itr S (per S x) (itr S k x)=itr S k x:=by rw[<-yF,Nat.add_comm,yF,(h.dM j).2.2.1]
  rcases Nat.lt_or_ge (per S x) (per S (itr S k x))with g|i
  ·exact absurd m ((h.dM l).2.2.2 _ (h.dM j).1 g)
  ·exact i
 exact Nat.le_antisymm (key a b he) (key he c a)
end
noncomputable def jg(S:Nat->Nat)(d:Nat):List Nat:=(List.range (per S d)).map fun i=>itr S i d
theorem yG(S:Nat->Nat)(d:Nat):(jg S d).length=per S d:=by simp[jg]
theorem FK{S:Nat->Nat}{d i:Nat}(a:i<per S d):(jg S d)[i]? = some (itr S i d):=by simp[jg,a]
section
variable {n:Nat} {S:Nat->Nat} (h:dO n S)
include h
theorem dO.fU{d e:Nat}(a:d<n):e ∈ jg S d↔dK S d e:=by
 constructor
 ·intro he;obtain⟨i,_,rfl⟩:=List.mem_map.1 he;exact⟨i,rfl⟩
 ·intro b;obtain⟨i,c,rfl⟩:=h.iQ a b;exact List.mem_map.2 ⟨i,List.mem_range.2 c,rfl⟩
theorem dO.kY{d:Nat}(c:d<n):(jg S d).Nodup:=by rw[List.Nodup,List.pairwise_iff_getElem];intro i j a b e he;rw[yG]at a b;simp only [jg,List.getElem_map,List.getElem_range]at he;have:=h.fB c a b he;omega
end
theorem KL:∀(l:List Nat) (a:Nat),l.foldl min a<=a/\∀x ∈ l,l.foldl min a<=x
 | [],a=>⟨Nat.le_refl _,fun x h=>by cases h⟩
 | y :: l,a=>by
  obtain⟨d,c⟩:=KL l (min a y);refine⟨by simp only [List.foldl_cons];omega,fun x b=>?_⟩;simp only [List.foldl_cons];rcases List.mem_cons.1 b with rfl|b
  ·omega
  ·exact c x b
theorem KM:∀(l:List Nat) (a:Nat),l.foldl min a=a\/l.foldl min a ∈ l
 | [],a=>.inl rfl
 | y :: l,a=>by
  simp only [List.foldl_cons];rcases KM l (min a y)with h|h
  ·rw[h];rcases Nat.le_total a y with b|b
   ·exact .inl (Nat.min_eq_left b)
   ·exact .inr (by rw[Nat.min_eq_right b];simp)
  ·exact .inr (by simp[h])
noncomputable def rep(S:Nat->Nat)(d:Nat):Nat:=(jg S d).foldl min d
section
variable {n:Nat} {S:Nat->Nat} (h:dO n S)
include h
theorem dO.iA{d:Nat}(b:d<n):dK S d (rep S d):=by
 rcases KM (jg S d) d with a|a
 ·unfold rep;rw[a];exact dK.refl S d
 ·exact(h.fU b).1 a
theorem dO.mY{d e:Nat}(a:d<n)(b:dK S d e):rep S d<=e:=(KL (jg S d) d).2 e ((h.fU a).2 b)
theorem dO.kQ{d:Nat}(a:d<n):rep S d<n:=h.fK a (h.iA a)
theorem dO.iF{d e:Nat}(a:d<n)(he:e<n):rep S d=rep S e↔dK S d e:=by
 constructor
 ·intro hr;have b:=h.iA a;rw[hr]at b;exact b.trans (h.eO he (h.iA he))
 ·intro c;exact Nat.le_antisymm (h.mY a (c.trans (h.iA he))) (h.mY he ((h.eO a c).trans (h.iA a)))
theorem dO.iY{d:Nat}(a:d<n):rep S (rep S d)=rep S d:=((h.iF a (h.kQ a)).2 (h.iA a)).symm
end
noncomputable def eu(S:Nat->Nat)(i:Nat):Nat:=((List.range i).filter fun x=>rep S x == x).length
noncomputable def vnum(S:Nat->Nat)(d:Nat):Nat:=eu S (rep S d)
theorem Qw(S:Nat->Nat):eu S 0=0:=rfl
theorem sw(S:Nat->Nat)(i:Nat):eu S (i+1)=eu S i+if rep S i=i then 1 else 0:=by unfold eu;rw[List.range_succ,List.filter_append,List.length_append];by_cases a:rep S i=i <;> simp[a]
theorem CY(S:Nat->Nat){i j:Nat}(a:i<=j):eu S i<=eu S j:=by
 induction j with
 | zero=>rw[show i=0 by omega];exact Nat.le_refl _
 | succ j b =>
  rcases Nat.lt_or_ge i (j+1)with c|d
  ·have:=sw S j;have:=b (by omega);omega
  ·rw[show i=j+1 by omega];exact Nat.le_refl _
theorem oV(S:Nat->Nat)(i:Nat):eu S i<=i:=by unfold eu;exact Nat.le_trans (List.length_filter_le _ _) (by simp)
section
variable {n:Nat} {S:Nat->Nat} (h:dO n S)
include h
theorem dO.eT{d e:Nat}(f:d<n)(he:e<n):vnum S d=vnum S e↔dK S d e:=by
 rw[<-h.iF f he];constructor
 ·intro g;unfold vnum at g;rcases Nat.lt_trichotomy (rep S d) (rep S e)with a|b|a
  ·have c:=sw S (rep S d);rw[if_pos (h.iY f)]at c;have i:=CY S (show rep S d+1<=rep S e from a);omega
  ·exact b
  ·have c:=sw S (rep S e);rw[if_pos (h.iY he)]at c;have i:=CY S (show rep S e+1<=rep S d from a);omega
 ·intro hr;unfold vnum;rw[hr]
theorem dO.gK{d:Nat}(a:d<n):vnum S d<eu S n:=by have b:=sw S (rep S d);rw[if_pos (h.iY a)]at b;have c:=CY S (show rep S d+1<=n from h.kQ a);unfold vnum;omega
theorem dO.qO{i x:Nat}(a:i<n)(c:x<n)(hr:rep S i=i):(rep S x<i+1↔rep S x<i\/x ∈ jg S i)/\(x ∈ jg S i->vnum S x=eu S i/\¬rep S x<i):=by
 have b:x ∈ jg S i↔rep S x=i:=by rw[h.fU a,<-h.iF a c,hr];exact eq_comm
 refine⟨?_,fun d=>?_⟩
 ·rw[b];omega
 ·have:=b.1 d;exact⟨by unfold vnum;rw[this],by omega⟩
theorem dO.vJ{i x:Nat}(b:x<n)(hr:rep S i≠i):rep S x<i+1↔rep S x<i:=by
 constructor
 ·intro c;rcases Nat.lt_or_ge (rep S x) i with a|a
  ·exact a
  ·have:rep S x=i:=by omega
   exact absurd (by rw[<-this];exact h.iY b) hr
 ·omega
theorem dO.iB{i:Nat}(a:i<n):rep S i<=i:=h.mY a (dK.refl S i)
end
def mt(d:Nat):Nat:=if d % 2=0 then d+1 else d - 1
theorem dF(d:Nat):mt (mt d)=d:=by unfold mt;split <;> split <;> omega
theorem sM(d:Nat):mt d≠d:=by unfold mt;split <;> omega
theorem DV(d:Nat):mt d / 2=d / 2:=by unfold mt;split <;> omega
theorem dQ{n d:Nat}(he:n % 2=0)(h:d<n):mt d<n:=by unfold mt;split <;> omega
theorem FL{d e:Nat}(h:d / 2=e / 2):e=d\/e=mt d:=by unfold mt;split <;> omega
def dI(n:Nat)(S:Nat->Nat)(x y:Nat):Prop:=∀P:Nat->Prop,P x->(∀z,z<n->P z->P (S z)/\P (mt z))->P y
theorem dI.refl(n:Nat)(S:Nat->Nat)(x:Nat):dI n S x x:=fun _ h _=>h
theorem dI.trans{n:Nat}{S:Nat->Nat}{x y z:Nat}(h:dI n S x y)(k:dI n S y z):dI n S x z:=fun P b a=>k P (h P b a) a
theorem dI.turn{n:Nat}{S:Nat->Nat}{x:Nat}(h:x<n):dI n S x (S x):=fun _ a b=>(b x h a).1
theorem dI.mate{n:Nat}{S:Nat->Nat}{x:Nat}(h:x<n):dI n S x (mt x):=fun _ a b=>(b x h a).2
section
variable {n:Nat} {S:Nat->Nat} (h:dO n S) (he:n % 2=0)
include h
theorem dO.nP{x y:Nat}(a:x<n)(b:dK S x y):dI n S x y:=by
 obtain⟨k,rfl⟩:=b
 induction k with
 | zero=>exact dI.refl _ _ _
 | succ k c=>exact c.trans (dI.turn (h.dW a k))
include he
theorem dO.yY{x y:Nat}(b:x<n)(c:dI n S x y):y<n:=c (fun z=>z<n) b (fun z a _=>⟨h.lt z a,dQ he a⟩)
theorem dO.gL{x y:Nat}(c:x<n)(d:dI n S x y):dI n S y x:=by
 have:=d (fun z=>z<n/\dI n S z x) ⟨c,dI.refl _ _ _⟩ (fun z a b=>by
  refine⟨⟨h.lt z a,dI.trans ?_ b.2⟩,⟨dQ he a,dI.trans ?_ b.2⟩⟩
  ·exact h.nP (h.lt z a) (h.eO a (dK.step S z))
  ·have:=dI.mate (S:=S) (dQ he a);rwa [dF]at this)
 exact this.2
end
end
section
open Go.RowKit
theorem Qx:(Tryz.prog.info? 5).map (fun i=>(i.zero,i.size,i.bytes))=some (some (.int .u8 0),1,1):=by kernel_rfl
def FM(ks:List Nat):List Value:=ks.map fun k:Nat=>Value.int .u8 k
def gF(w:World)(b:Nat)(v:Value)(ks:List Nat):Prop :=
 w.heap[b]? = some (.cells #[v] 231 (0,0))/\w.ownsRow 0 5 1 v ks.length (FM ks)
theorem gF.lt{w:World}{b:Nat}{v:Value}{ks:List Nat}(h:gF w b v ks):b<w.heap.size:=lt_of_block h.1
theorem gF.apart{w:World}{b:Nat}{v:Value}{ks:List Nat}(h:gF w b v ks):∀k,v.ownBlock=some k->k≠b/\k<w.heap.size:=by
 intro k a;obtain⟨d,_,e⟩:=h;rcases e with⟨rfl,_⟩|⟨g,cap,cur,rfl,_,c,_⟩
 ·simp[Value.ownBlock]at a
 ·simp only [Value.ownBlock,Option.some.injEq]at a;subst a;refine⟨?_,lt_of_block c⟩;rintro rfl;rw[d]at c;simp at c
theorem gF.keeps{w w':World}{F:Nat->Prop}{b:Nat}{v:Value}{ks:List Nat}(h:gF w b v ks)(k:Keeps F w w')(a:¬F b)(c:∀k,v.ownBlock=some k->¬F k):gF w' b v ks :=
 ⟨k.at h.1 a,k.owns h.2 c⟩
theorem gF.form{w:World}{b:Nat}{v:Value}{ks:List Nat}(h:gF w b v ks):∃a cap,v=.slice a ks.length cap/\ks.length<=cap/\cap<=9223372036854775807/\∀j k,ks[j]? = some k->∃g,a=some ⟨g,0,none⟩/\w.cell? ⟨g,j,none⟩=some (.int .u8 (k:Nat)):=by
 by_cases f:0<ks.length
 ·obtain⟨g,cap,rfl,i,d,l,_,_⟩:=ru h.2 f;refine⟨_,cap,rfl,i,by unfold maxLen at d;omega,fun j k c=>⟨g,rfl,?_⟩⟩;exact(l j (.int .u8 (k:Nat)) (by rw[FM,List.getElem?_map,c];rfl)).1
 ·have m:ks=[]:=List.eq_nil_of_length_eq_zero (by omega);subst m;obtain⟨_,_,d⟩:=h;rcases d with⟨rfl,_⟩|⟨g,cap,cur,rfl,_,p,o,e,_⟩
  ·exact⟨none,0,rfl,by simp,by decide,fun j k c=>by simp at c⟩
  ·exact⟨_,cap,rfl,by simp,by unfold maxLen at e;omega,fun j k c=>by simp at c⟩
theorem Qy(w:World):gF (w.alloc (.cells #[.slice none 0 0] 231)) w.heap.size (.slice none 0 0) [] :=
 ⟨heap_alloc_new w _,World.ownsRow_nil _ _ _ _⟩
theorem KN(w:World) :
  Calls Tryz.prog 164 #[] w fun e w'=>e=.returned (.pointer (some ⟨w.heap.size,0,none⟩))/\w'=w.alloc (.cells #[.slice none 0 0] 231):=by
 go_enter Tryz.func164,Tryz.ntmps164;go_wp2;go_ret;exact⟨rfl,rfl⟩
theorem qc2(b:Nat)(v:Value)(ks:List Nat)(w:World)(h:gF w b v ks) :
  Calls Tryz.prog 166 #[.pointer (some ⟨b,0,none⟩)] w fun e w'=>e=.returned (.int .i64 ks.length)/\w=w':=by
 have c:w.cell? ⟨b,0,none⟩=some v:=dw h.1 0;obtain⟨a,cap,rfl,d,f,_⟩:=h.form;clear h;go_enter Tryz.func166,Tryz.ntmps166;go_wp2;go_ret;exact⟨rfl,rfl⟩
def jd(w:World)(b:Nat)(v:Value)(a:List Nat)(w':World):Prop :=
 ∃v',gF w' b v' a/\Keeps (fun k=>k=b\/v.ownBlock=some k) w w'/\(v'.ownBlock=v.ownBlock\/∃k,v'.ownBlock=some k/\w.heap.size<=k)
theorem jd.trans{w w1 j:World}{b:Nat}{v f:Value}{d:List Nat}(g:Keeps (fun k=>k=b\/v.ownBlock=some k) w w1)
  (c:f.ownBlock=v.ownBlock\/∃k,f.ownBlock=some k/\w.heap.size<=k)(h:jd w1 b f d j):jd w b v d j:=by
 obtain⟨l,m,o,e⟩:=h;refine⟨l,m,g.trans o ?_,?_⟩
 ·rintro x p (rfl|a)
  ·exact .inl rfl
  ·rcases c with c|⟨k,c,g⟩
   ·exact .inr (by rw[<-c];exact a)
   ·rw[c]at a;cases a;omega
 ·rcases e with e|⟨k,e,i⟩
  ·rw[e];exact c
  ·exact .inr ⟨k,e,Nat.le_trans g.size i⟩
theorem gF.grown{w:World}{b:Nat}{v:Value}{ks:List Nat}(h:gF w b v ks):jd w b v ks w:=⟨v,h,Keeps.refl _ _,.inl rfl⟩
theorem gF.push{wr w1:World}{b:Nat}{v:Value}{ks:List Nat}{o:Obj}{k g cap:Nat}(h:gF wr b v ks)
  (d:w1.ownsRow 0 5 1 (.slice (some ⟨g,0,none⟩) (ks.length+1) cap) (ks.length+1) (FM ks ++ [.int .u8 k]))(c:(wr.alloc o).grownBy w1 v.ownBlock)(f:v.ownBlock=some g\/g=wr.heap.size+1) :
  jd wr b v (ks ++ [k]) (w1.setCell ⟨b,0,none⟩ (.slice (some ⟨g,0,none⟩) (ks.length+1) cap))/\w1.heap[b]? = some (.cells #[v] 231 (0,0)):=by
 have q:=h.lt;have i:=h.apart;have m:Keeps (fun k=>v.ownBlock=some k) wr w1:=((Keeps.refl _ wr).alloc _).grown c (fun k p=>.inl p);have j:=m.at h.1 (fun e=>(i b e).1 rfl)
 have l:g≠b:=by
  rcases f with h|h
  ·exact(i g h).1
  ·omega
 refine⟨⟨_,⟨jM j 0 _,?_⟩,(m.mono (fun x _ h=>.inr h)).setCell (.inl (.inl rfl)) _,?_⟩,j⟩
 ·have:=ownsRow_setCell_other d (a:=⟨b,0,none⟩) (by simp[Value.ownBlock];exact l) (.slice (some ⟨g,0,none⟩) (ks.length+1) cap);simpa [FM]using this
 ·rcases f with h|h
  ·exact .inl h.symm
  ·exact .inr ⟨g,rfl,by omega⟩
def Hw(zs:List Int):Prop:=∀z ∈ zs,0<=z/\z<=3
theorem Qz(z:Int)(t:Bool)(w:World)(d:t=decide (0<=z/\z<=3)) :
  Calls Tryz.prog 233 #[.int .i64 z] w fun e w'=>e=.returned (.bool t)/\w=w':=by
 subst d;by_cases c:0<=z
 ·by_cases b:z<=3
  ·have a:decide (0<=z/\z<=3)=true:=decide_eq_true ⟨c,b⟩;rw[a];clear a;go_enter Tryz.func233,Tryz.ntmps233;go_wp2;go_ret;exact⟨rfl,rfl⟩
  ·have a:decide (0<=z/\z<=3)=false:=decide_eq_false (fun h=>b h.2);rw[a];have f:decide (z<=3)=false:=decide_eq_false b;clear a b;go_enter Tryz.func233,Tryz.ntmps233;go_wp2;go_ret;exact⟨rfl,rfl⟩
 ·have a:decide (0<=z/\z<=3)=false:=decide_eq_false (fun h=>c h.1);rw[a];have f:z<0:=by omega
  clear a c;go_enter Tryz.func233,Tryz.ntmps233;go_wp2;go_ret;exact⟨rfl,rfl⟩
theorem QA(z:Int)(t:Bool)(w:World)(a:t=decide (0<=z/\z<=3)) :
  Calls Tryz.prog 232 #[.int .i64 z] w fun e w'=>e=.returned (.bool (!t))/\w=w':=by
 have b:∀(x:Bool) (w:World),(Op.unary .not (.bool x)).run Tryz.prog w=.ok (.bool (!x)) w:=fun _ _=>rfl;have c:=Qz z t w a;clear a;go_enter Tryz.func232,Tryz.ntmps232;go_wp2_with (go_at_call 233;refine c.mono ?_;rintro e w' ⟨rfl,rfl⟩)
 go_ret;exact⟨rfl,rfl⟩
theorem QB(sv:Value)(zs:List Int)(w:World)(o:Sl .i64 w sv zs)(c:Hw zs) :
  Calls Tryz.prog 264 #[sv,.func (.func 232) #[] #[]] w fun e w'=>e=.returned (.int .i64 (-1))/\w=w':=by
 obtain⟨a,cap,rfl,p,q,_,d⟩:=o;go_enter Tryz.func264,Tryz.ntmps264;go_wp2_with fail;go_loop [8] (fun i=>∃k:Nat,k<=zs.length/\i=.int .i64 k) (fun i=>zs.length - (intOf i).toNat)
 case atStart=>exact⟨0,Nat.zero_le _,rfl⟩
 case round =>
  obtain⟨k,s,rfl⟩:=hrel;by_cases f:k<zs.length
  ·have j:=List.getElem?_eq_getElem (l:=zs) (i:=k) f;obtain⟨g,off,rfl,m⟩:=d k _ j;have b:=c _ (List.mem_of_getElem? j);have r:=QA zs[k] true w (decide_eq_true b).symm;clear d j c b;generalize zs[k]=z at *;go_wp2_with (go_at_call 232;refine r.mono ?_;rintro e w' ⟨rfl,rfl⟩)
   go_round
   case rel=>exact⟨k+1,by omega,by go_num⟩
   case measure=>simp[intOf];omega
  ·obtain rfl:k=zs.length:=by omega
   clear d c;go_wp2;go_ret;exact⟨rfl,rfl⟩
theorem QC(sv:Value)(zs:List Int)(w:World)(a:Sl .i64 w sv zs)(b:Hw zs) :
  Calls Tryz.prog 231 #[sv,.func (.func 232) #[] #[]] w fun e w'=>e=.returned (.bool false)/\w=w':=by
 have c:=QB sv zs w a b;clear a b;go_enter Tryz.func231,Tryz.ntmps231;go_wp2_with (go_at_call 264;refine c.mono ?_;rintro e w' ⟨rfl,rfl⟩)
 go_ret;exact⟨rfl,rfl⟩
def rD(zs:List Int):List Nat:=zs.map Int.toNat
theorem QD(b:Nat)(v:Value)(ks:List Nat)(sv:Value)(zs:List Int)(w:World)(h:gF w b v ks)(J:Sl .i64 w sv zs)(y:Hw zs)
  (K:∀k,sv.ownBlock=some k->k≠b/\v.ownBlock≠some k)(hl:ks.length+zs.length<1000000000) :
  Calls Tryz.prog 191 #[.pointer (some ⟨b,0,none⟩),sv] w fun e w'=>e=.returned (.int .i64 0)/\jd w b v (ks ++ rD zs) w':=by
 have M:=QC sv zs w J y;obtain⟨a,cap,rfl,Q,R,_,C⟩:=J;obtain⟨i,T,D,E,F⟩:=info_parts Qx;go_enter Tryz.func191,Tryz.ntmps191;go_wp2_with (go_at_call 231;refine M.mono ?_;rintro e w' ⟨rfl,rfl⟩)
 clear M;go_loopw [15] (fun i wr=>∃k:Nat,k<=zs.length/\i=.int .i64 k/\jd w b v (ks ++ rD (zs.take k)) wr) (fun i _=>zs.length - (intOf i).toNat)
 case atStart=>exact⟨0,Nat.zero_le _,rfl,by simpa [rD]using h.grown⟩
 case round =>
  obtain⟨k,hk,rfl,l⟩:=hrel;by_cases o:k<zs.length
  ·obtain⟨z,q⟩:∃z,zs[k]? = some z:=⟨_,List.getElem?_eq_getElem o⟩
   obtain⟨g,off,rfl,c⟩:=C k z q;obtain⟨G,d,r,H⟩:=l;have A:wr.cell? ⟨g,off+k,none⟩=some (.int .i64 z):=by rw[World.cell?_of_block (w:=w) (r.block g (World.block_lt_of_cell? _ _ c) (by rintro (h|h);exact(K g rfl).1 h;exact(K g rfl).2 h))];exact c
   have s:=y z (List.mem_of_getElem? q);obtain⟨n,rfl⟩:=Int.eq_ofNat_of_zero_le s.1;have hn:n<=3:=by omega
   have t:ks ++ rD (zs.take (k+1))=(ks ++ rD (zs.take k)) ++ [n]:=by rw[List.take_succ_eq_append_getElem o];rw[List.getElem?_eq_getElem o]at q;simp only [Option.some.injEq]at q;simp[rD,q]
   have U:=dh t;have N:(ks ++ rD (zs.take k)).length<1000000000:=by simp[rD];omega
   have V:=d.apart;have m:=d.2;have p:=d.1;have W:wr.cell? ⟨b,0,none⟩=some G:=dw p 0;have X:=dh d;clear t C q c h y s d;generalize ks ++ rD (zs.take k)=L at *;have HB:=dh p;clear p;go_wp2_with (at_builtin;refine wpList_append_lies _ rfl _ _ _ rfl 0 5 i (.int .u8 0) 1 1 Tryz.underlying30 T D E F rfl (by decide) G L.length _ rfl (m.alloc _) ⟨wr.heap.size,0,none⟩ 1 1 [.int .u8 (n:Nat)] rfl rfl (cell_one_new _ _ _) ?c2 (by decide) ?c3 ?c4 ?c5 (wr.heap.size+1) (by simp) ?_)
   case c2=>intro u O;simp at O;subst O;rfl
   case c3=>unfold maxLen;omega
   case c4=>omega
   case c5=>simp
   intro g2 P w1 f j x Y;have B:=X.out.push f j x;have d0:w1.cell? ⟨b,0,none⟩=some G:=dw B.2 0;have f0:w1.frozen? ⟨b,0,none⟩=false:=dx B.2 0;have I:=jd.trans r H B.1;rw[<-U.out]at I;have Z:=dh I;clear B I f j x W m;go_wp2;go_roundw
   case rel=>exact⟨k+1,by omega,by go_num,Z.out⟩
   case measure=>simp[intOf];omega
  ·obtain rfl:k=zs.length:=by omega
   rw[List.take_of_length_le (Nat.le_refl _)]at l;have HG:=dh l;clear l y C;go_wp2;go_ret;exact⟨rfl,HG.out⟩
end
section
def Bn(s:Nat)(ks:List Nat):List Bool:=ks.map fun k=>k / 2 == s
def ownB(s:Nat)(ks:List Nat):List Bool:=(ks.filter fun k=>k / 2 == s).map fun k=>k % 2 == 0
def pr(s:Nat)(ks:List Nat)(n:Nat):Nat:=((ks.take n).filter fun k=>k / 2 == s).length
def eG(ks:List Nat)(a:Nat):Nat:=(ks.filter fun k=>k == a).length
theorem gX{α:Type}{l:List α}{i:Nat}{x:α}(h:l[i]? = some x):i<l.length:=by
 rcases Nat.lt_or_ge i l.length with a | a
 ·exact a
 ·rw[List.getElem?_eq_none a]at h;cases h
theorem oW{α:Type}{l:List α}{i:Nat}{x:α}(h:l[i]? = some x):l.take (i+1)=l.take i ++ [x]:=by have a:=gX h;rw[List.getElem?_eq_getElem a]at h;simp only [Option.some.injEq]at h;rw[List.take_succ_eq_append_getElem a,h]
theorem QE(ks:List Nat)(p:Nat->Bool):cnt (ks.map p)=(ks.filter p).length:=by
 induction ks with
 | nil=>rfl
 | cons k ks a=>simp only [List.map_cons,cnt,a,List.filter_cons];cases p k <;> simp <;> omega
theorem KO(s:Nat)(ks:List Nat)(n:Nat):rk (Bn s ks) 1 n=pr s ks n:=by unfold rk DL Bn pr;rw[if_pos rfl,<-List.map_take,QE]
theorem KP(s:Nat)(ks:List Nat):(Bn s ks).length=ks.length:=by simp[Bn]
theorem yH(s:Nat)(ks:List Nat):(ownB s ks).length=pr s ks ks.length:=by simp[ownB,pr]
theorem qc3(s:Nat)(ks:List Nat):(ownB s ks).length<=ks.length:=by unfold ownB;rw[List.length_map];exact List.length_filter_le _ _
theorem KQ(s:Nat){ks:List Nat}{i k:Nat}(h:ks[i]? = some k):(Bn s ks).getD i false=(k / 2 == s):=by simp[Bn,List.getD_eq_getElem?_getD,h]
theorem qc4(s:Nat)(ks:List Nat):pr s ks 0=0:=by simp[pr]
theorem Bo(s:Nat){ks:List Nat}{i k:Nat}(h:ks[i]? = some k):pr s ks (i+1)=pr s ks i+if k / 2=s then 1 else 0:=by unfold pr;rw[oW h,List.filter_append,List.length_append];by_cases a:k / 2=s <;> simp[a]
theorem Bq(s:Nat)(ks:List Nat){a c:Nat}(h:a<=c):pr s ks a<=pr s ks c:=by
 unfold pr
 have:ks.take c=ks.take a ++ (ks.take c).drop a:=by
  conv=>lhs;rw[<-List.take_append_drop a (ks.take c)]
  rw[List.take_take,Nat.min_eq_left h]
 rw[this,List.filter_append,List.length_append];omega
theorem uK(s:Nat)(ks:List Nat)(n:Nat)(h:n<=ks.length):pr s ks n<=(ownB s ks).length:=by rw[yH];exact Bq s ks h
theorem yZ(s:Nat)(a c:List Nat):ownB s (a ++ c)=ownB s a ++ ownB s c:=by simp[ownB]
theorem KR{s:Nat}{ks:List Nat}{i k:Nat}(h:ks[i]? = some k)(a:k / 2=s):(ownB s ks)[pr s ks i]? = some (k % 2 == 0):=by
 have d:=gX h
 have b:ks=ks.take i ++ (k :: ks.drop (i+1)):=by
  conv=>lhs;rw[<-List.take_append_drop (i+1) ks,oW h,List.append_assoc]
  rfl
 have c:(ownB s (ks.take i)).length=pr s ks i:=by simp[ownB,pr]
 conv=>lhs;arg 1;rw[b,yZ]
 rw[List.getElem?_append_right (by omega),c,Nat.sub_self];simp[ownB,a]
def fM(s:Nat)(ks:List Nat)(j n:Nat):Prop:=∃k,ks[n]? = some k/\k / 2=s/\pr s ks n=j
theorem fM.lt{s:Nat}{ks:List Nat}{j n:Nat}(h:fM s ks j n):n<ks.length:=by obtain⟨k,a,_⟩:=h;exact gX a
theorem fM.own{s:Nat}{ks:List Nat}{j n k:Nat}(h:fM s ks j n)(b:ks[n]? = some k):k / 2=s/\(ownB s ks)[j]? = some (k % 2 == 0):=by obtain⟨e,a,c,d⟩:=h;rw[b]at a;simp only [Option.some.injEq]at a;subst a;exact⟨c,by rw[<-d];exact KR b c⟩
theorem fM.Hy{s:Nat}{ks:List Nat}{j n:Nat}(h:fM s ks j n):j<(ownB s ks).length:=by obtain⟨k,a,_⟩:=id h;exact gX (h.own a).2
theorem fM.Ae{s:Nat}{ks:List Nat}{j n:Nat}:fM s ks j n↔uH (Bn s ks) 1 j n:=by
 constructor
 ·rintro⟨k,h1,h2,h3⟩;refine⟨by rw[KP];exact gX h1,by rw[KQ s h1,h2];simp,by rw[KO,h3]⟩
 ·rintro⟨h1,h2,h3⟩;rw[KP]at h1;have a:=List.getElem?_eq_getElem h1;rw[KQ s a]at h2;refine⟨_,a,?_,by rw[KO]at h3;omega⟩;by_cases he:ks[n] / 2=s
  ·exact he
  ·rw[show (ks[n] / 2 == s)=false by simp[he]]at h2;cases h2
theorem fM.unique{s:Nat}{ks:List Nat}{j n m:Nat}(h:fM s ks j n)(k:fM s ks j m):n=m :=
 (fM.Ae.1 h).unique (.inr rfl) (fM.Ae.1 k)
theorem fM.at{s:Nat}{ks:List Nat}{i k:Nat}(h:ks[i]? = some k)(a:k / 2=s):fM s ks (pr s ks i) i:=⟨k,h,a,rfl⟩
theorem fM.cmp{s:Nat}{ks:List Nat}{j n:Nat}(h:fM s ks j n)(i:Nat):j<pr s ks i↔n<i:=by
 obtain⟨k,a,b,e⟩:=h;have c:=Bo s a;rw[if_pos b]at c;constructor
 ·intro f;rcases Nat.lt_or_ge n i with h|h
  ·exact h
  ·have:=Bq s ks h;omega
 ·intro d;have:=Bq s ks (show n+1<=i from d);omega
def fF(ks:List Nat)(i m:Nat):Prop:=∃s a c,s<2/\fM s ks a i/\fM s ks c m/\jl (ownB s ks) a c
theorem fF.symm{ks:List Nat}{i m:Nat}(h:fF ks i m):fF ks m i:=by obtain⟨s,a,c,b,d,e,f⟩:=h;exact⟨s,c,a,b,e,d,f.symm⟩
theorem fF.lt{ks:List Nat}{i m:Nat}(h:fF ks i m):m<ks.length:=by obtain⟨s,a,c,_,d,b,e⟩:=h;exact b.lt
theorem fF.unique{ks:List Nat}{i m n:Nat}(h:fF ks i m)(k:fF ks i n):m=n:=by obtain⟨s,a,c,_,l,j,o⟩:=h;obtain⟨u,v,w,_,p,q,r⟩:=k;obtain⟨x,t,e,f⟩:=l;obtain⟨y,g,b,d⟩:=p;rw[t]at g;simp only [Option.some.injEq]at g;subst g;rw[e]at b;subst b;rw[f]at d;subst d;rw[o.unique r]at j;exact j.unique q
def nD(ks:List Nat)(i:Nat)(r:Int):Prop :=
 (ex (ownB 0 ks) (pr 0 ks i)=0/\r=-1)\/(0<ex (ownB 0 ks) (pr 0 ks i)/\∃o n:Nat,ko (ownB 0 ks) (pr 0 ks i) (ex (ownB 0 ks) (pr 0 ks i) - 1) o/\fM 0 ks o n/\r=n)
theorem Hz{s:Nat}{ks:List Nat}{j:Nat}(b:j<(ownB s ks).length):∃n,fM s ks j n:=by
 rw[yH]at b;obtain⟨n,i,k,e,f⟩:=Bj (fun n=>j<pr s ks n) 0 ks.length (by simpa using b)
 obtain⟨m,rfl⟩:∃m,n=m+1:=⟨n - 1,by
  rcases Nat.eq_zero_or_pos n with h|h
  ·rw[h,qc4]at e;omega
  ·omega⟩
 have g:m<ks.length:=by omega
 have c:=List.getElem?_eq_getElem g;have d:=Bo s c;have l:=f m (by omega) (by omega);by_cases a:ks[m] / 2=s
 ·rw[if_pos a]at d;exact⟨m,_,c,a,by omega⟩
 ·rw[if_neg a]at d;omega
def oZ(ks:List Nat):Prop:=Bal (ownB 0 ks)/\Bal (ownB 1 ks)
theorem oZ.get{ks:List Nat}(h:oZ ks){s:Nat}(a:s<2):Bal (ownB s ks):=by
 match s,a with
 | 0,_=>exact h.1
 | 1,_=>exact h.2
theorem oZ.mate{ks:List Nat}(h:oZ ks)(f:∀k ∈ ks,k<4){i:Nat}(g:i<ks.length):∃m,fF ks i m:=by
 have a:=List.getElem?_eq_getElem g;have b:ks[i] / 2<2:=by have:=f _ (List.mem_of_getElem? a);omega
 have d:=fM.at a rfl;obtain⟨c,e⟩:=(h.get b).mate d.Hy;obtain⟨m,j⟩:=Hz e.lt;exact⟨m,_,_,c,b,d,j,e⟩
theorem oZ.owner{ks:List Nat}(h:oZ ks){i:Nat}(b:i<=ks.length):∃r,nD ks i r:=by
 have e:=h.1.2 (pr 0 ks i) (uK 0 ks i b);by_cases c:ex (ownB 0 ks) (pr 0 ks i)=0
 ·exact⟨-1,.inl ⟨c,rfl⟩⟩
 ·obtain⟨o,a⟩:=KH (ownB 0 ks) (pr 0 ks i) (uK 0 ks i b) (by omega) _ rfl;obtain⟨n,d⟩:=Hz (s:=0) (ks:=ks) (j:=o) (by have:=a.lt;have:=a.le;omega);exact⟨n,.inr ⟨by omega,o,n,a,d,rfl⟩⟩
theorem wL{ks:List Nat}{i k:Nat}(h:ks[i]? = some k)(a:Nat):eG (ks.take (i+1)) a=eG (ks.take i) a+if k=a then 1 else 0:=by unfold eG;rw[oW h,List.filter_append,List.length_append];by_cases b:k=a <;> simp[b]
theorem KS{ks:List Nat}(s:Nat)(n:Nat)(p:n<=ks.length) :
  pr s ks n=eG (ks.take n) (2 * s)+eG (ks.take n) (2 * s+1)/\ex (ownB s ks) (pr s ks n)=eG (ks.take n) (2 * s) - (eG (ks.take n) (2 * s+1):Int):=by
 induction n with
 | zero=>simp[qc4,eG,DR]
 | succ n m =>
  obtain⟨q,o⟩:=m (by omega);have g:=List.getElem?_eq_getElem (l:=ks) (i:=n) (by omega);have b:=Bo s g;have c:=wL g (2 * s);have d:=wL g (2 * s+1);generalize ks[n]=k at *;by_cases a:k / 2=s
  ·rw[if_pos a]at b;have j:=KR g a;have e:=yV (ownB s ks) (gX j);rw[List.getD_eq_getElem?_getD,j,Option.getD_some,<-b]at e;by_cases f:k % 2=0
   ·rw[if_pos (by simp[f])]at e;rw[if_pos (by omega)]at c;rw[if_neg (by omega)]at d;rw[e,c,d,b];omega
   ·rw[if_neg (by simp[f])]at e;rw[if_neg (by omega)]at c;rw[if_pos (by omega)]at d;rw[e,c,d,b];omega
  ·rw[if_neg a]at b;rw[if_neg (by omega)]at c;rw[if_neg (by omega)]at d;rw[b,c,d];exact⟨by omega,by rw[Nat.add_zero,o];omega⟩
theorem FN(ks:List Nat)(a:Nat):eG ks a<=ks.length:=List.length_filter_le _ _
end
section
open Go.RowKit
theorem nN{P:Program}{f:FuncId}{args:Array Value}{w:World}{n:Nat}{v:Value}
  (h:Calls P f args (w.drewN n) fun e w'=>e=.returned v/\w.drewN n=w'):Calls P f args (w.drewN n) fun e a=>e=.returned v/\∃m,a=w.drewN m :=
 h.mono fun _ _ ⟨he,hm⟩=>⟨he,n,hm.symm⟩
end
section
open Go.RowKit
theorem vK{w:World}{a:Addr}{v:Value}(h:w.cell? a=some v)(o:Obj):(w.alloc o).cell? a=some v:=((Keeps.refl (fun _=>False) w).alloc o).oQ h
end
section
open Go.RowKit
end
section
open Go.RowKit
theorem Ia(ks:List Nat)(b:Nat){a c:Nat}(h:a<=c):eG (ks.take a) b<=eG (ks.take c) b:=by
 have:ks.take c=ks.take a ++ (ks.take c).drop a:=by
  conv=>lhs;rw[<-List.take_append_drop a (ks.take c)]
  rw[List.take_take,Nat.min_eq_left h]
 rw[this];unfold eG;rw[List.filter_append,List.length_append];omega
end
section
open Go.RowKit
end
section
open Go.RowKit
end
section
open Go.RowKit
end
