import Derived.Deep.RegionHeld3
import Derived.OpenShut
import Derived.Test.YtalhcfjcbbkpgaaGreatZt00
set_option maxRecDepth 100000
set_option maxHeartbeats 4000000
namespace Go.Proofs.YtalhcfjcbbkpgaaGreat
section
open Go.RowKit
def ahead(l:List Bool):List Nat:=(List.range ((l.length+511) / 512+1)).map fun b=>cnt (l.take (512 * b))
theorem QN(l:List Bool)(k:Nat)(h:k<l.length):cnt (l.take (k+1))=cnt (l.take k)+(l.getD k false).toNat:=by rw[Le l k h,La];simp[cnt]
end
section
open Go.RowKit
def grow(F:Nat->Prop)(w w':World):Nat->Prop:=fun k=>F k\/(w.heap.size<=k/\k<w'.heap.size)
def D8(b a c:Int):Int:=if b=1 then a else c - a
end
section
open Go.RowKit
theorem Lj{F:Nat->Prop}{w w1 a:World}(b:w.heap.size<=w1.heap.size)(c:w1.heap.size<=a.heap.size):∀x,grow (grow F w w1) w1 a x->grow F w a x:=by
 rintro x ((h|h)|h)
 ·exact .inl h
 ·exact .inr ⟨h.1,by omega⟩
 ·exact .inr ⟨by omega,h.2⟩
theorem Du{F:Nat->Prop}{w w':World}(hF:∀x,F x->x<w.heap.size)(a:w.heap.size<=w'.heap.size):∀x,grow F w w' x->x<w'.heap.size:=by
 rintro x (h|h)
 ·exact Nat.lt_of_lt_of_le (hF x h) a
 ·exact h.2
def rk(l:List Bool)(a:Int)(n:Nat):Int:=D8 a (cnt (l.take n)) n
end
section
theorem Lm(l:List Bool)(a:Int):rk l a 0=0:=by unfold rk D8;split <;> simp[cnt]
theorem D9(l:List Bool)(a:Int)(n:Nat)(b:a=0\/a=1)(h:n<l.length):rk l a (n+1)=rk l a n+(if ((l.getD n false).toNat:Int)=a then 1 else 0):=by
 have c:=QN l n h;unfold rk D8;rw[c];rcases b with rfl|rfl
 ·cases l.getD n false <;> simp <;> omega
 ·cases l.getD n false <;> simp
theorem QO(l:List Bool)(b:Int)(c:b=0\/b=1)(a:Nat):∀d,a+d<=l.length->rk l b a<=rk l b (a+d):=by
 intro d
 induction d with
 | zero=>intro _;exact Int.le_refl _
 | succ d e =>
  intro h;have g:=e (by omega);have f:=D9 l b (a+d) c (by omega);rw[show a+(d+1)=a+d+1 by omega,f];split <;> omega
theorem AL(l:List Bool)(b:Int)(d:b=0\/b=1){a c:Nat}(h:a<=c)(e:c<=l.length):rk l b a<=rk l b c:=by have:=QO l b d a (c - a) (by omega);rwa [show a+(c - a)=c by omega]at this
theorem qg(l:List Bool)(a:Int)(b:a=0\/a=1)(n:Nat)(h:n<=l.length):0<=rk l a n/\rk l a n<=n:=by
 induction n with
 | zero=>rw[Lm];omega
 | succ n c =>
  have e:=c (by omega);have d:=D9 l a n b (by omega);rw[d];split <;> omega
theorem QS(l:List Bool)(n:Nat):cnt (l.take n)=cnt (l.take (min n l.length)):=by
 by_cases h:n<=l.length
 ·rw[Nat.min_eq_left h]
 ·rw[Nat.min_eq_right (by omega),List.take_of_length_le (by omega),List.take_of_length_le (by omega)]
def uT(l:List Bool)(a k:Int)(n:Nat):Prop:=n<l.length/\((l.getD n false).toNat:Int)=a/\rk l a n=k
theorem uT.unique{l:List Bool}{b k:Int}(f:b=0\/b=1){a c:Nat}(d:uT l b k a)(e:uT l b k c):a=c:=by
 rcases Nat.lt_trichotomy a c with h|h|h
 ·have g:=D9 l b a f d.1;rw[if_pos d.2.1,d.2.2]at g;have i:=AL l b f (a:=a+1) (c:=c) (by omega) (by have:=e.1;omega);rw[e.2.2]at i;omega
 ·exact h
 ·have g:=D9 l b c f e.1;rw[if_pos e.2.1,e.2.2]at g;have i:=AL l b f (a:=c+1) (c:=a) (by omega) (by have:=d.1;omega);rw[d.2.2]at i;omega
end
section
open Go.RowKit
end
section
open Go.RowKit
end
section
open Go.RowKit
end
section
open Go.RowKit
end
section
open Go.RowKit
end
section
open Go.RowKit
theorem QT{zs:List Int}(h:∀z ∈ zs,z=0\/z=1){n:Nat}{z:Int}(a:zs[n]? = some z):(((nM zs).getD n false).toNat:Int)=z:=by have b:=List.mem_of_getElem? a;simp only [nM,List.getD_eq_getElem?_getD,List.getElem?_map,a,Option.map_some,Option.getD_some];rcases h z b with rfl|rfl <;> rfl
theorem q2z(zs:List Int):(nM zs).length=zs.length:=by simp[nM]
theorem qU.bytes{w:World}{a:Option Addr}{len cap:Nat}{zs:List Int}(h:qU .u8 w a len cap zs):∃ps:List Nat,Sl .u8 w (.slice a len cap) (dD ps)/\∀b ∈ ps,b<256:=by
 obtain⟨e,_,d,_⟩:=h.sl;refine⟨(zs.take len).map Int.toNat,?_,?_⟩
 ·have:dD ((zs.take len).map Int.toNat)=zs.take len:=by
   unfold dD;rw[List.map_map]
   conv=>rhs;rw[<-List.map_id (zs.take len)]
   apply List.map_congr_left;intro n c;have:=bounds_u8 (d n c);simp;omega
  rw[this];exact e
 ·intro b f;obtain⟨n,c,rfl⟩:=List.mem_map.1 f;have:=bounds_u8 (d n c);omega
theorem u8_in{n:Int}(h:(Lit.int .u8 n).wf=true):∃m:Nat,n=m/\m<256:=by have:=bounds_u8 h;exact⟨n.toNat,by omega,by omega⟩
end
section
open Go.RowKit
end
section
def ex(l:List Bool)(p:Nat):Int:=2 * rk l 1 (min p l.length) - (min p l.length:Nat)
def qV(l:List Bool)(p:Nat):Int:=2 * ((l.getD p false).toNat:Int) - 1
theorem Ea(l:List Bool):ex l 0=0:=by simp[ex,Lm]
theorem Lp(l:List Bool){p:Nat}(h:p<l.length):ex l (p+1)=ex l p+qV l p:=by have:=D9 l 1 p (.inr rfl) h;unfold ex qV;rw[Nat.min_eq_left (by omega),Nat.min_eq_left (by omega),this];cases l.getD p false <;> simp <;> omega
theorem Lr(l:List Bool){p:Nat}(h:l.length<=p):ex l p=ex l l.length:=by unfold ex;rw[Nat.min_eq_right h,Nat.min_self]
theorem QU(l:List Bool)(p:Nat):qV l p=1\/qV l p=-1:=by unfold qV;cases l.getD p false <;> simp
theorem Ls(l:List Bool)(p:Nat):ex l p - 1<=ex l (p+1)/\ex l (p+1)<=ex l p+1:=by
 by_cases h:p<l.length
 ·have a:=Lp l h;have b:=QU l p;omega
 ·rw[Lr l (p:=p) (by omega),Lr l (p:=p+1) (by omega)];omega
theorem QV(l:List Bool)(p:Nat):-(l.length:Int)<=ex l p/\ex l p<=l.length:=by have h:=qg l 1 (.inr rfl) (min p l.length) (by omega);unfold ex;omega
structure kH (l:List Bool)(i:Nat)(want:Int)(B:Nat):Prop where
 lt:B<i
 le:i<=l.length
 hit:ex l B=want
 above:∀p,B<p->p<=i->want<ex l p
end
section
open Go.RowKit
def Bal(l:List Bool):Prop:=ex l l.length=0/\∀p,p<=l.length->0<=ex l p
theorem QW(l:List Bool)(p:Nat)(h:l.length<=100000000):-100000000<=ex l p/\ex l p<=100000000:=by have:=QV l p;omega
end
section
open Go.RowKit
end
section
open Go.RowKit
end
section
open Go.RowKit
end
section
theorem Eb(l:List Bool)(p:Nat):ex l p=2 * (cnt (l.take p):Int) - (min p l.length:Nat):=by unfold ex rk D8;rw[if_pos rfl,QS l p]
theorem QX(a b:List Bool){p:Nat}(h:p<=a.length):ex (a ++ b) p=ex a p:=by rw[Eb,Eb,List.take_append_of_le_length h,List.length_append];omega
theorem QY(a b:List Bool)(q:Nat):ex (a ++ b) (a.length+q)=ex a a.length+ex b q:=by rw[Eb,Eb,Eb,List.take_append,List.take_of_length_le (l:=a) (i:=a.length+q) (by omega),List.take_of_length_le (l:=a) (i:=a.length) (by omega),show a.length+q - a.length=q by omega,La,List.length_append];omega
theorem zy(l:List Bool){p:Nat}(h:p<l.length):ex l (p+1)=if l.getD p false then ex l p+1 else ex l p - 1:=by rw[Lp l h];unfold qV;cases l.getD p false <;> simp <;> omega
theorem Lu(l:List Bool){p:Nat}(h:p<l.length)(a:ex l p<ex l (p+1)):l.getD p false=true:=by
 have:=zy l h;cases hb:l.getD p false with
 | true=>rfl
 | false=>rw[hb,if_neg (by simp)]at this;omega
theorem QZ(l:List Bool){p:Nat}(h:p<l.length)(a:ex l (p+1)<ex l p):l.getD p false=false:=by
 have:=zy l h;cases hb:l.getD p false with
 | false=>rfl
 | true=>rw[hb,if_pos rfl]at this;omega
structure gq (l:List Bool)(i j:Nat):Prop where
 lt:i<j
 le:j<l.length
 hit:ex l (j+1)=ex l i
 above:∀p,i<p->p<=j->ex l i<ex l p
theorem gq.opens{l:List Bool}{i j:Nat}(h:gq l i j):l.getD i false=true/\ex l (i+1)=ex l i+1:=by have b:=h.above (i+1) (by omega) (by have:=h.lt;omega);have a:=Lu l (by have:=h.lt;have:=h.le;omega) b;refine⟨a,?_⟩;have:=zy l (p:=i) (by have:=h.lt;have:=h.le;omega);rw[a,if_pos rfl]at this;exact this
theorem gq.closes{l:List Bool}{i j:Nat}(h:gq l i j):l.getD j false=false/\ex l (j+1)=ex l j - 1:=by have b:=h.above j h.lt (Nat.le_refl _);have c:=h.hit;have a:=QZ l h.le (by omega);refine⟨a,?_⟩;have:=zy l h.le;rw[a,if_neg (by simp)]at this;exact this
theorem gq.behind{l:List Bool}{i j:Nat}(h:gq l i j):kH l j (ex l (j+1)) i :=
 ⟨h.lt,by have:=h.le;omega,h.hit.symm,fun p a b=>by rw[h.hit];exact h.above p a b⟩
theorem kH.unique{l:List Bool}{i:Nat}{a:Int}{B C:Nat}(h:kH l i a B)(k:kH l i a C):B=C:=by
 rcases Nat.lt_trichotomy B C with b|b|b
 ·have:=h.above C b (by have:=k.lt;omega);have:=k.hit;omega
 ·exact b
 ·have:=k.above B b (by have:=h.lt;omega);have:=h.hit;omega
theorem gq.right{l:List Bool}{i j k:Nat}(h:gq l i j)(b:gq l i k):j=k:=by
 have c:=h.hit;have d:=b.hit;rcases Nat.lt_trichotomy j k with a|a|a
 ·have:=b.above (j+1) (by have:=h.lt;omega) a;omega
 ·exact a
 ·have:=h.above (k+1) (by have:=b.lt;omega) a;omega
theorem gq.left{l:List Bool}{i j k:Nat}(h:gq l i k)(a:gq l j k):i=j:=h.behind.unique a.behind
def jq(l:List Bool)(i m:Nat):Prop:=(l.getD i false=true/\gq l i m)\/(l.getD i false=false/\gq l m i)
theorem gq.xP{l:List Bool}{i j:Nat}(h:gq l i j):jq l i j:=.inl ⟨h.opens.1,h⟩
theorem gq.xQ{l:List Bool}{i j:Nat}(h:gq l i j):jq l j i:=.inr ⟨h.closes.1,h⟩
theorem jq.symm{l:List Bool}{i m:Nat}(h:jq l i m):jq l m i:=by
 rcases h with⟨_,h⟩|⟨_,h⟩
 ·exact h.xQ
 ·exact h.xP
theorem jq.lt{l:List Bool}{i m:Nat}(h:jq l i m):m<l.length:=by
 rcases h with⟨_,h⟩|⟨_,h⟩
 ·exact h.le
 ·have:=h.lt;have:=h.le;omega
theorem jq.unique{l:List Bool}{i m n:Nat}(h:jq l i m)(k:jq l i n):m=n:=by
 rcases h with⟨b,h⟩|⟨b,h⟩ <;> rcases k with⟨a,k⟩|⟨a,k⟩
 ·exact h.right k
 ·rw[b]at a;cases a
 ·rw[b]at a;cases a
 ·exact h.left k
theorem BP(P:Nat->Prop)[DecidablePred P](a:Nat):∀d,P (a+d)->∃n,a<=n/\n<=a+d/\P n/\∀p,a<=p->p<n->¬P p
 | 0,h=>⟨a,Nat.le_refl _,Nat.le_refl _,h,fun p b c=>by omega⟩
 | d+1,h=>by
  by_cases f:∃e,e<=d/\P (a+e)
  ·obtain⟨e,he,g⟩:=f;obtain⟨n,b,c,i,j⟩:=BP P a e g;exact⟨n,b,by omega,i,j⟩
  ·refine⟨a+(d+1),by omega,Nat.le_refl _,h,fun p b c g=>f ⟨p - a,by omega,?_⟩⟩;rwa [show a+(p - a)=p by omega]
termination_by d=>d
decreasing_by all_goals omega
theorem Lx(P:Nat->Prop)[DecidablePred P]:∀a,P 0->∃n,n<=a/\P n/\∀p,n<p->p<=a->¬P p
 | 0,h=>⟨0,Nat.le_refl _,h,fun p c b=>by omega⟩
 | a+1,h=>by
  by_cases d:P (a+1)
  ·exact⟨a+1,Nat.le_refl _,d,fun p c b=>by omega⟩
  ·obtain⟨n,c,b,e⟩:=Lx P a h;refine⟨n,by omega,b,fun p f i=>?_⟩;by_cases g:p=a+1
   ·rw[g];exact d
   ·exact e p f (by omega)
theorem LA(l:List Bool)(i:Nat)(e:i<=l.length)(f:0<ex l i)(w:Int)(g:w=ex l i - 1):∃B,kH l i w B:=by
 obtain⟨n,j,k,a⟩:=Lx (fun p=>ex l p<=w) i (by rw[Ea];omega)
 have b:n<i:=by
  rcases Nat.lt_or_ge n i with h|h
  ·exact h
  ·obtain rfl:n=i:=by omega
   omega
 refine⟨n,b,e,?_,fun p c d=>by have:=a p c d;omega⟩;have c:=a (n+1) (by omega) b;have d:=Ls l n;omega
theorem Bal.mate{l:List Bool}(h:Bal l){i:Nat}(b:i<l.length):∃m,jq l i m:=by
 have c:=zy l b;cases hl:l.getD i false with
 | true =>
  rw[hl,if_pos rfl]at c;have d:=h.2 i (by omega);obtain⟨n,j,k,o,e⟩:=BP (fun p=>ex l p<=ex l i) (i+1) (l.length - (i+1)) (by simp only [show i+1+(l.length - (i+1))=l.length by omega,h.1];exact d)
  have q:i+1<n:=by
   rcases Nat.lt_or_ge (i+1) n with h|h
   ·exact h
   ·obtain rfl:n=i+1:=by omega
    omega
  obtain⟨m,rfl⟩:∃m,n=m+1:=⟨n - 1,by omega⟩
  have r:=e m (by omega) (by omega);have s:=Ls l m;refine⟨m,.inl ⟨hl,by omega,by omega,by omega,fun p f g=>by have:=e p (by omega) (by omega);omega⟩⟩
 | false =>
  rw[hl,if_neg (by simp)]at c;have d:=h.2 (i+1) (by omega);obtain⟨B,a⟩:=LA l i (by omega) (by omega) (ex l (i+1)) (by omega);refine⟨B,.inr ⟨hl,a.lt,b,a.hit.symm,fun p f g=>?_⟩⟩;rw[a.hit];exact a.above p f g
def Ik(l:List Bool)(o:Nat)(r:Int):Prop:=(ex l o=0/\r=-1)\/(0<ex l o/\∃B:Nat,r=B/\kH l o (ex l o - 1) B)
def LB(l:List Bool)(i:Nat)(r:Int):Prop:=(l.getD i false=true/\Ik l i r)\/(l.getD i false=false/\∃o,gq l o i/\Ik l o r)
end
section
open Go.RowKit
end
section
open Go.RowKit
theorem Keeps.jY{w w':World}(k:Keeps (fun _=>False) w w'){a:Addr}{v:Value}(h:w.cell? a=some v):w'.cell? a=some v:=by rw[World.cell?_of_block (w:=w) (k.block a.block (World.block_lt_of_cell? _ _ h) (fun h=>h))];exact h
end
section
open Go.RowKit
end
section
open Go.RowKit
end
section
def dN(S:Nat->Nat):Nat->Nat->Nat
 | 0,d=>d
 | k+1,d=>S (dN S k d)
theorem yV(S:Nat->Nat)(a b d:Nat):dN S (a+b) d=dN S a (dN S b d):=by
 induction a with
 | zero=>simp[dN]
 | succ a c=>rw[Nat.succ_add];simp only [dN,c]
theorem Ec(S:Nat->Nat)(k d:Nat):dN S (k+1) d=dN S k (S d):=yV S k 1 d
structure dU (n:Nat)(S:Nat->Nat):Prop where
 lt:∀d,d<n->S d<n
 inj:∀d e,d<n->e<n->S d=S e->d=e
theorem LC(n:Nat):∀l:List Nat,l.Nodup->l.length<=(l.filter (fun x=>x != n)).length+1
 | [],_=>by simp
 | x :: l,h=>by
  rw[List.nodup_cons]at h;by_cases a:x=n
  ·subst a;have:l.filter (fun y=>y != x)=l:=List.filter_eq_self.2 (fun y b=>by rw[bne_iff_ne];rintro rfl;exact h.1 b);rw[List.filter_cons,if_neg (by simp),this];simp
  ·have:=LC n l h.2;rw[List.filter_cons,if_pos (by simpa using a)];simp only [List.length_cons];omega
theorem BQ:∀(n:Nat) (l:List Nat),l.Nodup->(∀x ∈ l,x<n)->l.length<=n
 | 0,l,_,h=>by
  cases l with
  | nil=>simp
  | cons x l=>exact absurd (h x (by simp)) (by omega)
 | n+1,l,a,h=>by
  have b:=BQ n (l.filter (fun x=>x != n)) (a.filter _) (fun x d=>by
   obtain⟨b,c⟩:=List.mem_filter.1 d;have:=h x b;have e:x≠n:=by simpa using c
   omega)
  have c:=LC n l a;omega
theorem sV:∀(l m:List Nat),l.Nodup->(∀x ∈ l,x ∈ m)->l.length<=m.length
 | [],m,_,_=>by simp
 | x :: l,m,a,h=>by rw[List.nodup_cons]at a;have b:=h x (by simp);have d:=sV l (m.erase x) a.2 (fun y c=>(List.mem_erase_of_ne (by rintro rfl;exact a.1 c)).2 (h y (by simp[c])));rw[List.length_erase_of_mem b]at d;have:0<m.length:=List.length_pos_of_mem b;simp only [List.length_cons];omega
theorem vY{l m:List Nat}(b:l.Nodup)(c:m.Nodup)(h:∀x,x ∈ l↔x ∈ m):l.length=m.length :=
 Nat.le_antisymm (sV l m b (fun x a=>(h x).1 a)) (sV m l c (fun x a=>(h x).2 a))
section
variable {n:Nat} {S:Nat->Nat} (h:dU n S)
include h
theorem dU.eD{d:Nat}(a:d<n)(k:Nat):dN S k d<n:=by
 induction k with
 | zero=>exact a
 | succ k b=>exact h.lt _ b
theorem dU.rM{d e:Nat}(b:d<n)(he:e<n)(k:Nat)(a:dN S k d=dN S k e):d=e:=by
 induction k with
 | zero=>exact a
 | succ k c=>exact c (h.inj _ _ (h.eD b k) (h.eD he k) a)
theorem dU.ret{d:Nat}(b:d<n):∃p,0<p/\p<=n/\dN S p d=d:=by
 apply Classical.byContradiction;intro c
 have e:∀i j,i<j->j<=n->dN S i d≠dN S j d:=by
  intro i j a g he;refine c ⟨j - i,by omega,by omega,?_⟩;have k:dN S j d=dN S i (dN S (j - i) d):=by rw[<-yV];congr 1;omega
  rw[k]at he;exact(h.rM b (h.eD b _) i he).symm
 have f:((List.range (n+1)).map fun i=>dN S i d).Nodup:=by rw[List.Nodup,List.pairwise_iff_getElem];intro i j l g a;simp only [List.length_map,List.length_range]at l g;simp only [List.getElem_map,List.getElem_range];exact e i j a (by omega)
 have:=BQ n _ f (fun x m=>by obtain⟨i,_,rfl⟩:=List.mem_map.1 m;exact h.eD b i);simp at this;omega
end
noncomputable def per(S:Nat->Nat)(d:Nat):Nat :=
 open Classical in if h:∃p,0<p/\dN S p d=d/\∀i,0<i->i<p->dN S i d≠d then h.choose else 0
section
variable {n:Nat} {S:Nat->Nat} (h:dU n S)
include h
theorem dU.dQ{d:Nat}(l:d<n):0<per S d/\per S d<=n/\dN S (per S d) d=d/\∀i,0<i->i<per S d->dN S i d≠d:=by
 obtain⟨p,f,m,k⟩:=h.ret l;have a:∃p,0<p/\dN S p d=d/\∀i,0<i->i<p->dN S i d≠d:=by obtain⟨q,e,g,b,o⟩:=BP (fun i=>dN S i d=d) 1 (p - 1) (by rw[show 1+(p - 1)=p by omega];exact k);exact⟨q,e,b,fun i r s=>o i r s⟩
 have c:per S d=a.choose:=by unfold per;rw[dif_pos a]
 obtain⟨e,g,b⟩:=a.choose_spec;rw[<-c]at e g b;refine⟨e,?_,g,b⟩;rcases Nat.lt_or_ge p (per S d)with j|t
 ·exact absurd k (b p f j)
 ·omega
theorem dU.uU{d:Nat}(a:d<n)(q:Nat):dN S (per S d * q) d=d:=by
 induction q with
 | zero=>rfl
 | succ q b=>rw[Nat.mul_succ,Nat.add_comm,yV,b,(h.dQ a).2.2.1]
theorem dU.zA{d:Nat}(a:d<n)(k:Nat):dN S k d=dN S (k % per S d) d:=by
 conv=>lhs;rw[<-Nat.mod_add_div k (per S d),yV,h.uU a]
theorem dU.fE{d:Nat}(a:d<n){i j:Nat}(e:i<per S d)(f:j<per S d)(he:dN S i d=dN S j d):i=j:=by
 rcases Nat.lt_trichotomy i j with b|rfl|b
 ·have c:dN S j d=dN S i (dN S (j - i) d):=by rw[<-yV];congr 1;omega
  rw[c]at he;exact absurd (h.rM a (h.eD a _) i he).symm ((h.dQ a).2.2.2 _ (by omega) (by omega))
 ·rfl
 ·have c:dN S i d=dN S j (dN S (i - j) d):=by rw[<-yV];congr 1;omega
  rw[c]at he;exact absurd (h.rM (h.eD a _) a j he) ((h.dQ a).2.2.2 _ (by omega) (by omega))
end
def dK(S:Nat->Nat)(d e:Nat):Prop:=∃k,dN S k d=e
theorem dK.refl(S:Nat->Nat)(d:Nat):dK S d d:=⟨0,rfl⟩
theorem dK.trans{S:Nat->Nat}{d e f:Nat}(h:dK S d e)(k:dK S e f):dK S d f:=by obtain⟨i,rfl⟩:=h;obtain⟨j,rfl⟩:=k;exact⟨j+i,yV S j i d⟩
theorem dK.step(S:Nat->Nat)(d:Nat):dK S d (S d):=⟨1,rfl⟩
section
variable {n:Nat} {S:Nat->Nat} (h:dU n S)
include h
theorem dU.eU{d e:Nat}(a:d<n)(b:dK S d e):dK S e d:=by obtain⟨k,rfl⟩:=b;have c:=(h.dQ a).1;refine⟨per S d * (k+1) - k,?_⟩;rw[<-yV];have:k<=per S d * (k+1):=Nat.le_trans (by omega) (Nat.le_mul_of_pos_left (k+1) c);rw[Nat.sub_add_cancel this,h.uU a]
theorem dU.fK{d e:Nat}(a:d<n)(b:dK S d e):e<n:=by obtain⟨k,rfl⟩:=b;exact h.eD a k
theorem dU.iJ{d e:Nat}(a:d<n)(b:dK S d e):∃i,i<per S d/\dN S i d=e:=by obtain⟨k,rfl⟩:=b;exact⟨k % per S d,Nat.mod_lt _ (h.dQ a).1,(h.zA a k).symm⟩
theorem dU.back{d:Nat}(a:d<n):∃e,e<n/\S e=d:=by
 obtain⟨b,_,c,_⟩:=h.dQ a;refine⟨dN S (per S d - 1) d,h.eD a _,?_⟩;have:dN S (per S d - 1+1) d=d:=by rw[Nat.sub_add_cancel b];exact c
 exact this
theorem dU.xR{d e:Nat}(b:d<n)(c:dK S d e):per S e=per S d:=by
 have he:=h.fK b c;have f:=h.eU b c
 have a:∀{x y:Nat},x<n->dK S x y->y<n->per S y<=per S x:=by
  intro x y l g m;obtain⟨k,rfl⟩:=g;have o:dN S (per S x) (dN S k x)=dN S k x:=by rw[<-yV,Nat.add_comm,yV,(h.dQ l).2.2.1]
  rcases Nat.lt_or_ge (per S x) (per S (dN S k x))with i|j
  ·exact absurd o ((h.dQ m).2.2.2 _ (h.dQ l).1 i)
  ·exact j
 exact Nat.le_antisymm (a b c he) (a he f b)
end
noncomputable def jg(S:Nat->Nat)(d:Nat):List Nat:=(List.range (per S d)).map fun i=>dN S i d
theorem q0z(S:Nat->Nat)(d:Nat):(jg S d).length=per S d:=by simp[jg]
theorem Ed{S:Nat->Nat}{d i:Nat}(a:i<per S d):(jg S d)[i]? = some (dN S i d):=by simp[jg,a]
section
variable {n:Nat} {S:Nat->Nat} (h:dU n S)
include h
theorem dU.gF{d e:Nat}(a:d<n):e ∈ jg S d↔dK S d e:=by
 constructor
 ·intro he;obtain⟨i,_,rfl⟩:=List.mem_map.1 he;exact⟨i,rfl⟩
 ·intro b;obtain⟨i,c,rfl⟩:=h.iJ a b;exact List.mem_map.2 ⟨i,List.mem_range.2 c,rfl⟩
theorem dU.lJ{d:Nat}(c:d<n):(jg S d).Nodup:=by rw[List.Nodup,List.pairwise_iff_getElem];intro i j a b e he;rw[q0z]at a b;simp only [jg,List.getElem_map,List.getElem_range]at he;have:=h.fE c a b he;omega
end
theorem LD:∀(l:List Nat) (a:Nat),l.foldl min a<=a/\∀x ∈ l,l.foldl min a<=x
 | [],a=>⟨Nat.le_refl _,fun x h=>by cases h⟩
 | y :: l,a=>by
  obtain⟨d,c⟩:=LD l (min a y);refine⟨by simp only [List.foldl_cons];omega,fun x b=>?_⟩;simp only [List.foldl_cons];rcases List.mem_cons.1 b with rfl|b
  ·omega
  ·exact c x b
theorem LG:∀(l:List Nat) (a:Nat),l.foldl min a=a\/l.foldl min a ∈ l
 | [],a=>.inl rfl
 | y :: l,a=>by
  simp only [List.foldl_cons];rcases LG l (min a y)with h|h
  ·rw[h];rcases Nat.le_total a y with b|b
   ·exact .inl (Nat.min_eq_left b)
   ·exact .inr (by rw[Nat.min_eq_right b];simp)
  ·exact .inr (by simp[h])
noncomputable def rep(S:Nat->Nat)(d:Nat):Nat:=(jg S d).foldl min d
section
variable {n:Nat} {S:Nat->Nat} (h:dU n S)
include h
theorem dU.fM{d:Nat}(b:d<n):dK S d (rep S d):=by
 rcases LG (jg S d) d with a|a
 ·unfold rep;rw[a];exact dK.refl S d
 ·exact(h.gF b).1 a
theorem dU.jU{d e:Nat}(a:d<n)(b:dK S d e):rep S d<=e:=(LD (jg S d) d).2 e ((h.gF a).2 b)
theorem dU.lg{d:Nat}(a:d<n):rep S d<n:=h.fK a (h.fM a)
theorem dU.iN{d e:Nat}(a:d<n)(he:e<n):rep S d=rep S e↔dK S d e:=by
 constructor
 ·intro hr;have b:=h.fM a;rw[hr]at b;exact b.trans (h.eU he (h.fM he))
 ·intro c;exact Nat.le_antisymm (h.jU a (c.trans (h.fM he))) (h.jU he ((h.eU a c).trans (h.fM a)))
theorem dU.iO{d:Nat}(a:d<n):rep S (rep S d)=rep S d:=((h.iN a (h.lg a)).2 (h.fM a)).symm
end
noncomputable def dY(S:Nat->Nat)(i:Nat):Nat:=((List.range i).filter fun x=>rep S x == x).length
noncomputable def dB(S:Nat->Nat)(d:Nat):Nat:=dY S (rep S d)
theorem Q0(S:Nat->Nat):dY S 0=0:=rfl
theorem qW(S:Nat->Nat)(i:Nat):dY S (i+1)=dY S i+if rep S i=i then 1 else 0:=by unfold dY;rw[List.range_succ,List.filter_append,List.length_append];by_cases a:rep S i=i <;> simp[a]
theorem q32(S:Nat->Nat){i j:Nat}(a:i<=j):dY S i<=dY S j:=by
 induction j with
 | zero=>rw[show i=0 by omega];exact Nat.le_refl _
 | succ j b =>
  rcases Nat.lt_or_ge i (j+1)with c|d
  ·have:=qW S j;have:=b (by omega);omega
  ·rw[show i=j+1 by omega];exact Nat.le_refl _
theorem nY(S:Nat->Nat)(i:Nat):dY S i<=i:=by unfold dY;exact Nat.le_trans (List.length_filter_le _ _) (by simp)
section
variable {n:Nat} {S:Nat->Nat} (h:dU n S)
include h
theorem dU.eY{d e:Nat}(f:d<n)(he:e<n):dB S d=dB S e↔dK S d e:=by
 rw[<-h.iN f he];constructor
 ·intro g;unfold dB at g;rcases Nat.lt_trichotomy (rep S d) (rep S e)with a|b|a
  ·have c:=qW S (rep S d);rw[if_pos (h.iO f)]at c;have i:=q32 S (show rep S d+1<=rep S e from a);omega
  ·exact b
  ·have c:=qW S (rep S e);rw[if_pos (h.iO he)]at c;have i:=q32 S (show rep S e+1<=rep S d from a);omega
 ·intro hr;unfold dB;rw[hr]
theorem dU.fT{d:Nat}(a:d<n):dB S d<dY S n:=by have b:=qW S (rep S d);rw[if_pos (h.iO a)]at b;have c:=q32 S (show rep S d+1<=n from h.lg a);unfold dB;omega
theorem dU.qX{i x:Nat}(a:i<n)(c:x<n)(hr:rep S i=i):(rep S x<i+1↔rep S x<i\/x ∈ jg S i)/\(x ∈ jg S i->dB S x=dY S i/\¬rep S x<i):=by
 have b:x ∈ jg S i↔rep S x=i:=by rw[h.gF a,<-h.iN a c,hr];exact eq_comm
 refine⟨?_,fun d=>?_⟩
 ·rw[b];omega
 ·have:=b.1 d;exact⟨by unfold dB;rw[this],by omega⟩
theorem dU.vZ{i x:Nat}(b:x<n)(hr:rep S i≠i):rep S x<i+1↔rep S x<i:=by
 constructor
 ·intro c;rcases Nat.lt_or_ge (rep S x) i with a|a
  ·exact a
  ·have:rep S x=i:=by omega
   exact absurd (by rw[<-this];exact h.iO b) hr
 ·omega
theorem dU.gK{i:Nat}(a:i<n):rep S i<=i:=h.jU a (dK.refl S i)
end
def mt(d:Nat):Nat:=if d % 2=0 then d+1 else d - 1
theorem dG(d:Nat):mt (mt d)=d:=by unfold mt;split <;> split <;> omega
theorem uV(d:Nat):mt d≠d:=by unfold mt;split <;> omega
theorem Q5(d:Nat):mt d / 2=d / 2:=by unfold mt;split <;> omega
theorem dR{n d:Nat}(he:n % 2=0)(h:d<n):mt d<n:=by unfold mt;split <;> omega
theorem Q7{d e:Nat}(h:d / 2=e / 2):e=d\/e=mt d:=by unfold mt;split <;> omega
def dJ(n:Nat)(S:Nat->Nat)(x y:Nat):Prop:=∀P:Nat->Prop,P x->(∀z,z<n->P z->P (S z)/\P (mt z))->P y
theorem dJ.refl(n:Nat)(S:Nat->Nat)(x:Nat):dJ n S x x:=fun _ h _=>h
theorem dJ.trans{n:Nat}{S:Nat->Nat}{x y z:Nat}(h:dJ n S x y)(k:dJ n S y z):dJ n S x z:=fun P b a=>k P (h P b a) a
theorem dJ.turn{n:Nat}{S:Nat->Nat}{x:Nat}(h:x<n):dJ n S x (S x):=fun _ a b=>(b x h a).1
theorem dJ.mate{n:Nat}{S:Nat->Nat}{x:Nat}(h:x<n):dJ n S x (mt x):=fun _ a b=>(b x h a).2
section
variable {n:Nat} {S:Nat->Nat} (h:dU n S) (he:n % 2=0)
include h
theorem dU.oq{x y:Nat}(a:x<n)(b:dK S x y):dJ n S x y:=by
 obtain⟨k,rfl⟩:=b
 induction k with
 | zero=>exact dJ.refl _ _ _
 | succ k c=>exact c.trans (dJ.turn (h.eD a k))
include he
theorem dU.zB{x y:Nat}(b:x<n)(c:dJ n S x y):y<n:=c (fun z=>z<n) b (fun z a _=>⟨h.lt z a,dR he a⟩)
theorem dU.iD{x y:Nat}(c:x<n)(d:dJ n S x y):dJ n S y x:=by
 have:=d (fun z=>z<n/\dJ n S z x) ⟨c,dJ.refl _ _ _⟩ (fun z a b=>by
  refine⟨⟨h.lt z a,dJ.trans ?_ b.2⟩,⟨dR he a,dJ.trans ?_ b.2⟩⟩
  ·exact h.oq (h.lt z a) (h.eU a (dK.step S z))
  ·have:=dJ.mate (S:=S) (dR he a);rwa [dG]at this)
 exact this.2
end
end
