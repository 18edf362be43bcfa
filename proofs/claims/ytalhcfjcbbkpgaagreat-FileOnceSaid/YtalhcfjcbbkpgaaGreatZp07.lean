import Derived.Test.YtalhcfjcbbkpgaaGreatZp06
set_option maxRecDepth 100000
set_option maxHeartbeats 4000000
namespace Go.Proofs.YtalhcfjcbbkpgaaGreat
def DD(ks:List Nat)(p:Nat):Int:=(eG (ks.take p) 0:Int) - eG (ks.take p) 1
def BB(ks:List Nat)(p:Nat):Int:=(eG (ks.take p) 2:Int) - eG (ks.take p) 3
def dd(k:Nat):Int:=if k=0 then 1 else if k=1 then -1 else 0
def bb(k:Nat):Int:=if k=2 then 1 else if k=3 then -1 else 0
theorem C8(ks:List Nat):DD ks 0=0:=by simp[DD,eG]
theorem qc6(ks:List Nat):BB ks 0=0:=by simp[BB,eG]
theorem wN{ks:List Nat}{i k:Nat}(h:ks[i]? = some k):DD ks (i+1)=DD ks i+dd k:=by
 unfold DD dd;rw[wL h 0,wL h 1];by_cases a:k=0
 ·subst a;simp;omega
 ·by_cases b:k=1
  ·subst b;simp;omega
  ·simp[a,b]
theorem FV{ks:List Nat}{i k:Nat}(h:ks[i]? = some k):BB ks (i+1)=BB ks i+bb k:=by
 unfold BB bb;rw[wL h 2,wL h 3];by_cases a:k=2
 ·subst a;simp;omega
 ·by_cases b:k=3
  ·subst b;simp;omega
  ·simp[a,b]
theorem y7{ks:List Nat}{k p:Nat}(a:p<=ks.length):DD (ks ++ [k]) p=DD ks p:=by unfold DD;rw[List.take_append_of_le_length a]
theorem yI{ks:List Nat}{k p:Nat}(a:p<=ks.length):BB (ks ++ [k]) p=BB ks p:=by unfold BB;rw[List.take_append_of_le_length a]
theorem Ak(ks:List Nat)(k:Nat):DD (ks ++ [k]) (ks.length+1)=DD ks ks.length+dd k:=by rw[wN (k:=k) (by simp),y7 (Nat.le_refl _)]
theorem y8(ks:List Nat)(k:Nat):BB (ks ++ [k]) (ks.length+1)=BB ks ks.length+bb k:=by rw[FV (k:=k) (by simp),yI (Nat.le_refl _)]
structure OwnAt (ks:List Nat)(i o:Nat):Prop where
 lt:o<i
 opens:ks[o]? = some 0
 hit:DD ks o+1=DD ks i
 above:∀p,o<p->p<=i->DD ks o<DD ks p
theorem OwnAt.unique{ks:List Nat}{i o q:Nat}(h:OwnAt ks i o)(k:OwnAt ks i q):o=q:=by
 rcases Nat.lt_trichotomy o q with a|rfl|a
 ·have:=h.above q a (Nat.le_of_lt k.lt);have:=h.hit;have:=k.hit;omega
 ·rfl
 ·have:=k.above o a (Nat.le_of_lt h.lt);have:=h.hit;have:=k.hit;omega
theorem OwnAt.old{ks:List Nat}{k i o:Nat}(e:i<=ks.length)(h:OwnAt (ks ++ [k]) i o):OwnAt ks i o:=by obtain⟨f,c,d,g⟩:=h;rw[List.getElem?_append_left (by omega)]at c;rw[y7 (by omega),y7 e]at d;refine⟨f,c,d,fun p a b=>?_⟩;have:=g p a b;rwa [y7 (by omega),y7 (by omega)]at this
structure rF (ks:List Nat):Prop where
 k4:∀k ∈ ks,k<4
 l8:∀p,p<=ks.length->0<=DD ks p
 bpos:∀p,p<=ks.length->0<=BB ks p
 right:∀i,ks[i]? = some 3->∀o,OwnAt ks i o->BB ks (o+1)<BB ks i
structure gH (ks:List Nat):Prop extends rF ks where
 nE:DD ks ks.length=0
 qE:BB ks ks.length=0
theorem rF.nil:rF []:=⟨(fun k h=>by cases h),fun p h=>by
 obtain rfl:p=0:=by simpa using h
 rw[C8];omega,fun p h=>by
 obtain rfl:p=0:=by simpa using h
 rw[qc6];omega,fun i h=>by simp at h⟩
theorem rF.snoc{ks:List Nat}{k:Nat}(h:rF ks)(r:k<4)(j:0<=DD ks ks.length+dd k)(l:0<=BB ks ks.length+bb k)
  (hr:k=3->∀o,OwnAt (ks ++ [k]) ks.length o->BB ks (o+1)<BB ks ks.length):rF (ks ++ [k]) where
 k4:=fun x a=>by
  rcases List.mem_append.1 a with a|a
  ·exact h.k4 x a
  ·simp only [List.mem_singleton]at a;omega
 l8:=fun p d=>by
  rcases Nat.lt_or_ge p (ks.length+1)with e|f
  ·rw[y7 (by omega)];exact h.l8 p (by omega)
  ·obtain rfl:p=ks.length+1:=by simp at d;omega
   rw[Ak];exact j
 bpos:=fun p d=>by
  rcases Nat.lt_or_ge p (ks.length+1)with e|f
  ·rw[yI (by omega)];exact h.bpos p (by omega)
  ·obtain rfl:p=ks.length+1:=by simp at d;omega
   rw[y8];exact l
 right:=fun i c o g=>by
  rcases q22 c with c|⟨rfl,m⟩
  ·have q:=gX c;have b:=g.old (by omega);have:=b.lt;rw[yI (by omega),yI (by omega)];exact h.right i c o b
  ·have:=g.lt;rw[yI (by omega),yI (Nat.le_refl _)];exact hr m.symm o g
def jF(ks:List Nat):List Fr->Prop
 | []=>True
 | f :: rest=>(ks[f.o]? = some 0/\DD ks f.o=rest.length/\∀p,f.o<p->p<=ks.length->(rest.length:Int)<DD ks p)/\jF ks rest
theorem jF.snoc{ks:List Nat}{k:Nat}:∀{a:List Fr},jF ks a->(a.length:Int)<=DD ks ks.length+dd k->jF (ks ++ [k]) a
 | [],_,_=>trivial
 | f :: rest,⟨⟨e,i,j⟩,l⟩,g=>by
  have b:=gX e;refine⟨⟨by rw[List.getElem?_append_left b];exact e,by rw[y7 (by omega)];exact i,fun p c d=>?_⟩,l.snoc (by simp only [List.length_cons]at g;omega)⟩;rcases Nat.lt_or_ge p (ks.length+1)with m|m
  ·rw[y7 (by omega)];exact j p c (by omega)
  ·obtain rfl:p=ks.length+1:=by simp at d;omega
   rw[Ak];simp only [List.length_cons]at g;omega
theorem jF.bump{ks:List Nat}{a:List Fr}(h:jF ks a):jF ks (je a):=by cases a <;> exact h
theorem QS{d:List (Nat × Nat)}(h:(d.map Prod.fst).Nodup){x a b:Nat}(e:(x,a) ∈ d)(c:(x,b) ∈ d):a=b:=by
 induction d with
 | nil=>cases e
 | cons p d f =>
  rw[List.map_cons,List.nodup_cons]at h;rcases List.mem_cons.1 e with e|e
  ·rcases List.mem_cons.1 c with c|c
   ·rw[<-e]at c;simp only [Prod.mk.injEq,true_and]at c;exact c.symm
   ·exact absurd (List.mem_map.2 ⟨_,c,by rw[<-e]⟩) h.1
  ·rcases List.mem_cons.1 c with c|c
   ·exact absurd (List.mem_map.2 ⟨_,e,by rw[<-c]⟩) h.1
   ·exact f h.2 e c
theorem QT{c:List (Nat × Nat)}(h:(c.map Prod.fst).Nodup){i j x a b:Nat}(e:c[i]? = some (x,a))(f:c[j]? = some (x,b)):i=j:=by
 have g:=gX e;have k:=gX f;rw[List.getElem?_eq_getElem g]at e;rw[List.getElem?_eq_getElem k]at f;simp only [Option.some.injEq]at e f;rw[List.Nodup,List.pairwise_iff_getElem]at h;rcases Nat.lt_trichotomy i j with d|rfl|d
 ·exact absurd (by rw[List.getElem_map,List.getElem_map,e,f]) (h i j (by simpa using g) (by simpa using k) d)
 ·rfl
 ·exact absurd (by rw[List.getElem_map,List.getElem_map,e,f]) (h j i (by simpa using k) (by simpa using g) d)
def jk(a:List (Nat × Nat)):List Nat:=a.map Prod.snd
theorem Bz(a:List (Nat × Nat)):(jk a).length=a.length:=by simp[jk]
theorem qF(a:List (Nat × Nat))(d k:Nat):jk (a ++ [(d,k)])=jk a ++ [k]:=by simp[jk]
structure sP (out:List (Nat × Nat))(st:List Fr)(pend:List Nat):Prop where
 pre:rF (jk out)
 dep:DD (jk out) out.length=st.length
 own:jF (jk out) st
 ord:st.Pairwise (fun f g=>g.o<f.o)
 brk:BB (jk out) out.length=pend.length
 y9:pend.Nodup
 oC:∀l,l ∈ pend↔∃x,out[l]? = some (x,2)/\¬vis out (mt x)
 zf:∀f ∈ st,BB (jk out) out.length - BB (jk out) (f.o+1)=(pend.filter fun l=>decide (f.o<l)).length
theorem KY:sP [] [] []:=⟨rF.nil,C8 _,trivial,List.Pairwise.nil,qc6 _,List.nodup_nil,fun l=>⟨fun h=>(by cases h),fun ⟨x,h,_⟩=>(by simp at h)⟩,fun f h=>(by cases h)⟩
theorem KZ{a:List (Nat × Nat)}{b:List Nat}{d k:Nat}(g:∀l,l ∈ b↔∃x,a[l]? = some (x,2)/\¬vis a (mt x))(i:k≠2)(j:(mt d,2) ∉ a) :
  ∀l,l ∈ b↔∃x,(a ++ [(d,k)])[l]? = some (x,2)/\¬vis (a ++ [(d,k)]) (mt x):=by
 intro l;rw[g l];constructor
 ·rintro⟨x,c,h2⟩;refine⟨x,by rw[List.getElem?_append_left (gX c)];exact c,fun e=>?_⟩;rcases mQ.1 e with e|e
  ·exact h2 e
  ·refine j ?_;rw[<-e,dF];exact List.mem_of_getElem? c
 ·rintro⟨x,c,h2⟩;rcases q22 c with c|⟨_,f⟩
  ·exact⟨x,c,fun e=>h2 (mQ.2 (.inl e))⟩
  ·simp only [Prod.mk.injEq]at f;exact absurd f.2.symm i
theorem QU{l:List Nat}{x:Nat}(p:Nat->Bool)(c:x ∈ l)(e:p x=true):(l.filter p).length=((l.erase x).filter p).length+1:=by
 induction l with
 | nil=>cases c
 | cons y l d =>
  by_cases b:y=x
  ·subst b;rw[List.erase_cons_head,List.filter_cons,if_pos e];rfl
  ·have a:x ∈ l:=by
    rcases List.mem_cons.1 c with h|h
    ·exact absurd h.symm b
    ·exact h
   rw[List.erase_cons_tail (by simpa using b),List.filter_cons,List.filter_cons];split
   ·simp only [List.length_cons,d a]
   ·exact d a
section
variable {n:Nat} {S dG:Nat->Nat} (h:dO n S) {root:Nat} (hr:root<n)
include h hr
theorem sP.step{r:Nat}{A:List Fr}{d:Nat}{a:List (Nat × Nat)}{b:List Nat}(W:sP a A b)(I:iC n S dG root r A d a)(t:¬vis a d)
  {k r':Nat}{st':List Fr}(hs:qP n S dG root r A d a k r' st'):∃G,sP (a ++ [(d,k)]) st' G:=by
 have z:(jk a).length=a.length:=Bz a;have m:(a ++ [(d,k)]).length=(jk a).length+1:=by simp[z]
 have u:=W.dep;have L:=W.brk;rw[<-z]at u L;cases hs with
 | close f rest R E =>
  subst R;have H:(mt d,2) ∉ a:=fun e=>by have:=QS I.nd E e;omega
  have c:dd 1=-1:=rfl;have j:bb 1=0:=rfl;simp only [List.length_cons]at u;refine⟨b,?_⟩
  exact {
   pre:=by rw[qF];exact W.pre.snoc (by omega) (by rw[c];omega) (by rw[j];omega) (fun e=>by omega)
   dep:=by rw[m,qF,Ak,c];omega
   own:=by rw[qF];exact W.own.2.snoc (by rw[c];omega)
   ord:=(List.pairwise_cons.1 W.ord).2
   brk:=by rw[m,qF,y8,j];omega
   y9:=W.y9
   oC:=KZ W.oC (by omega) H
   zf:=fun g q=>by have B:=I.chain.old g (by simp[q]);have:=W.zf g (by simp[q]);rw[m,qF,y8,j,yI (by omega),z];omega }
 | right E =>
  obtain⟨F,T,M⟩:=List.mem_iff_getElem.1 E;have C:a[F]? = some (mt d,2):=by rw[List.getElem?_eq_getElem T,M]
  have D:F ∈ b:=(W.oC F).2 ⟨mt d,C,by rw[dF];exact t⟩;have ab:=List.length_pos_of_mem D;have c:dd 3=0:=rfl;have j:bb 3=-1:=rfl
  have w:∀f ∈ A,f.o<F:=by
   rcases I.late F (mt d) C (by rw[dF];exact t)with i|⟨g,q,i,y⟩
   ·rw[dF]at i;cases A with
    | nil=>intro f t;cases t
    | cons f rest =>
     exfalso;exact I.kR f (by simp) ((I.oM rfl).trans (h.eO hr i))
   ·rw[dF]at i;cases A with
    | nil=>cases q
    | cons f rest =>
     have U:g=f:=by
      rcases List.mem_cons.1 q with rfl|q
      ·rfl
      ·exfalso;have V:=(I.chain.2.lt g q).1;exact(List.pairwise_cons.1 I.apart).1 g q ((I.oM rfl).trans (h.eO V i))
     subst U;intro f t;rcases List.mem_cons.1 t with rfl|t
     ·exact y
     ·have:=(List.pairwise_cons.1 W.ord).1 f t;omega
  have ad:(b.erase F).length=b.length - 1:=List.length_erase_of_mem D;refine⟨b.erase F,?_⟩
  exact {
   pre:=by
    rw[qF];refine W.pre.snoc (by omega) (by rw[c];omega) (by rw[j];omega) (fun _ o N=>?_);have N:=N.old (Nat.le_refl _);cases A with
    | nil =>
     have i:=N.hit;have y:=W.pre.l8 o (by have:=N.lt;omega);simp only [List.length_nil]at u;omega
    | cons f rest =>
     obtain⟨⟨o1,o2,o3⟩,_⟩:=W.own;have v:OwnAt (jk a) (jk a).length f.o:=⟨gX o1,o1,by simp only [List.length_cons]at u;omega,fun p J K=>by have:=o3 p J K;omega⟩
     obtain rfl:=N.unique v;have i:=W.zf f (by simp);have y:0<(b.filter fun l=>decide (f.o<l)).length:=List.length_pos_of_mem (List.mem_filter.2 ⟨D,by simpa using w f (by simp)⟩);rw[z];omega
   dep:=by rw[m,qF,Ak,c,Aj];omega
   own:=by rw[qF];exact(W.own.bump).snoc (by rw[c,Aj];omega)
   ord:=by
    have:=W.ord;cases A with
    | nil=>exact this
    | cons f rest=>exact List.pairwise_cons.2 ⟨fun g q=>(List.pairwise_cons.1 this).1 g q,(List.pairwise_cons.1 this).2⟩
   brk:=by rw[m,qF,y8,j];omega
   y9:=W.y9.erase F
   oC:=fun l=>by
    rw[W.y9.mem_erase_iff,W.oC l];constructor
    ·rintro⟨hne,x,i,y⟩;refine⟨x,by rw[List.getElem?_append_left (gX i)];exact i,fun s=>?_⟩;rcases mQ.1 s with s|s
     ·exact y s
     ·have hx:x=mt d:=by rw[<-s,dF]
      subst hx;exact hne (QT I.nd i C)
    ·rintro⟨x,i,y⟩;rcases q22 i with i|⟨_,X⟩
     ·refine⟨?_,x,i,fun s=>y (mQ.2 (.inl s))⟩;rintro rfl;rw[C]at i;simp only [Option.some.injEq,Prod.mk.injEq]at i;refine y (mQ.2 (.inr ?_));rw[<-i.1,dF]
     ·simp only [Prod.mk.injEq]at X;omega
   zf:=fun g q=>by obtain⟨f,t,_,v⟩:=DW q;rw[<-v];have B:=I.chain.old f t;have i:=W.zf f t;have y:=QU (fun l=>decide (f.o<l)) D (by simpa using w f t);rw[m,qF,y8,j,yI (by omega),z];omega }
 | left E O =>
  have c:dd 2=0:=rfl;have j:bb 2=1:=rfl;have Y:a.length ∉ b:=fun e=>by obtain⟨x,i,_⟩:=(W.oC _).1 e;have:=gX i;omega
  refine⟨a.length :: b,?_⟩
  exact {
   pre:=by rw[qF];exact W.pre.snoc (by omega) (by rw[c];omega) (by rw[j];omega) (fun e=>by omega)
   dep:=by rw[m,qF,Ak,c,Aj];omega
   own:=by rw[qF];exact(W.own.bump).snoc (by rw[c,Aj];omega)
   ord:=by
    have:=W.ord;cases A with
    | nil=>exact this
    | cons f rest=>exact List.pairwise_cons.2 ⟨fun g q=>(List.pairwise_cons.1 this).1 g q,(List.pairwise_cons.1 this).2⟩
   brk:=by rw[m,qF,y8,j,List.length_cons];omega
   y9:=List.nodup_cons.2 ⟨Y,W.y9⟩
   oC:=fun l=>by
    rw[List.mem_cons,W.oC l];constructor
    ·rintro (rfl|⟨x,i,y⟩)
     ·refine⟨d,by simp,fun s=>?_⟩;rcases mQ.1 s with s|s
      ·exact E s
      ·exact sM d s
     ·refine⟨x,by rw[List.getElem?_append_left (gX i)];exact i,fun s=>?_⟩;rcases mQ.1 s with s|s
      ·exact y s
      ·refine E ?_;rw[<-s,dF];exact⟨2,List.mem_of_getElem? i⟩
    ·rintro⟨x,i,y⟩;rcases q22 i with i|⟨X,_⟩
     ·exact .inr ⟨x,i,fun s=>y (mQ.2 (.inl s))⟩
     ·exact .inl X
   zf:=fun g q=>by obtain⟨f,t,_,v⟩:=DW q;rw[<-v];have B:=I.chain.old f t;have i:=W.zf f t;rw[m,qF,y8,j,yI (by omega),z,List.filter_cons,if_pos (by simpa using B),List.length_cons];omega }
 | opens E O =>
  have c:dd 0=1:=rfl;have j:bb 0=0:=rfl;have H:(mt d,2) ∉ a:=fun e=>E ⟨2,e⟩;refine⟨b,?_⟩;have P:rF (jk a ++ [0]):=W.pre.snoc (by omega) (by rw[c];omega) (by rw[j];omega) (fun e=>by omega)
  exact {
   pre:=by rw[qF];exact P
   dep:=by rw[m,qF,Ak,c,List.length_cons,Aj];omega
   own:=by
    rw[qF];refine⟨⟨by simp[<-z],?_,fun p J K=>?_⟩,(W.own.bump).snoc (by rw[c,Aj];omega)⟩
    ·show DD _ a.length=_;rw[<-z,y7 (Nat.le_refl _),Aj];exact u
    ·have aa:a.length<p:=J;obtain rfl:p=(jk a).length+1:=by simp[z]at K;omega
     rw[Ak,c,Aj];omega
   ord:=by
    refine List.pairwise_cons.2 ⟨fun g q=>?_,?_⟩
    ·obtain⟨f,t,_,v⟩:=DW q;have:=I.chain.old f t;show g.o<a.length;omega
    ·have:=W.ord;cases A with
     | nil=>exact this
     | cons f rest=>exact List.pairwise_cons.2 ⟨fun g q=>(List.pairwise_cons.1 this).1 g q,(List.pairwise_cons.1 this).2⟩
   brk:=by rw[m,qF,y8,j];omega
   y9:=W.y9
   oC:=KZ W.oC (by omega) H
   zf:=fun g q=>by
    rcases List.mem_cons.1 q with rfl|q
    ·have Q:(b.filter fun l=>decide (a.length<l))=[]:=List.filter_eq_nil_iff.2 (fun l Z=>by obtain⟨x,i,_⟩:=(W.oC l).1 Z;have:=gX i;simp;omega);show BB _ _ - BB _ (a.length+1)=((b.filter fun l=>decide (a.length<l)).length:Int);rw[Q,m,z];simp
    ·obtain⟨f,t,_,v⟩:=DW q;rw[<-v];have B:=I.chain.old f t;have i:=W.zf f t;rw[m,qF,y8,j,yI (by omega),z];omega }
theorem sP.done{r:Nat}{d:Nat}{b:List (Nat × Nat)}{a:List Nat}(W:sP b [] a)(I:iC n S dG root r [] d b)(k:jE S root r []):gH (jk b):=by
 have m:a=[]:=by
  cases a with
  | nil=>rfl
  | cons l a =>
   exfalso;obtain⟨x,e,c⟩:=(W.oC l).1 (by simp);rcases I.late l x e c with o|⟨g,p,_⟩
   ·obtain⟨i,j,f⟩:=h.iQ hr o;refine c (f ▸ (I.qD i j).2 ?_);rw[k.2];exact j
   ·cases p
 have e:=W.dep;have c:=W.brk;rw[m]at c;rw[<-Bz]at e c;exact { W.pre with nE:=e,qE:=c }
end
theorem gI{ks:List Nat}{p:Nat}(a:p<=ks.length):ex (ownB 0 ks) (pr 0 ks p)=DD ks p:=(KS (ks:=ks) 0 p a).2
theorem iR{ks:List Nat}{p:Nat}(a:p<=ks.length):ex (ownB 1 ks) (pr 1 ks p)=BB ks p:=(KS (ks:=ks) 1 p a).2
theorem La{ks:List Nat}{s p:Nat}(e:p<=(ownB s ks).length):∃q,q<=ks.length/\pr s ks q=p:=by
 rcases Nat.lt_or_ge p (ownB s ks).length with a|c
 ·obtain⟨q,b⟩:=Hz (s:=s) (ks:=ks) a;obtain⟨k,_,_,d⟩:=id b;exact⟨q,Nat.le_of_lt b.lt,d⟩
 ·exact⟨ks.length,Nat.le_refl _,by rw[<-yH];omega⟩
theorem gH.bal{ks:List Nat}(h:gH ks):oZ ks:=by
 refine⟨⟨?_,fun p b=>?_⟩,⟨?_,fun p b=>?_⟩⟩
 ·rw[yH,gI (Nat.le_refl _)];exact h.nE
 ·obtain⟨q,a,rfl⟩:=La b;rw[gI a];exact h.l8 q a
 ·rw[yH,iR (Nat.le_refl _)];exact h.qE
 ·obtain⟨q,a,rfl⟩:=La b;rw[iR a];exact h.bpos q a
theorem nD.own{ks:List Nat}{i n:Nat}(v:i<=ks.length)(h:nD ks i (n:Nat)):OwnAt ks i n:=by
 rcases h with⟨_,h⟩|⟨z,o,m,f,b,A⟩
 ·omega
 ·obtain rfl:n=m:=by omega
  have B:=b.lt;have c:=(b.cmp i).1 f.lt;obtain⟨k,g,j,d⟩:=id b;have w:=gI (ks:=ks) (p:=n) (by omega);have x:=gI (ks:=ks) v;rw[d]at w;have t:=f.hit
  have l:ks[n]? = some 0:=by
   have y:=b.own g;have u:=Bo 0 g;rw[if_pos j,d]at u;have e:=f.above (o+1) (by omega) (by rw[<-u];exact Bq 0 ks c);have a:=KF (ownB 0 ks) (p:=o) b.Hy (by omega);rw[List.getD_eq_getElem?_getD,y.2,Option.getD_some]at a;have:k % 2=0:=by simpa using a
   rw[g];congr 1;omega
  refine⟨c,l,by omega,fun p q r=>?_⟩;have s:=(b.cmp p).2 q;have e:=f.above (pr 0 ks p) s (Bq 0 ks r);rw[gI (show p<=ks.length by omega)]at e;omega
theorem gH.check{ks:List Nat}(h:gH ks){i m:Nat}{r:Int}(d:ks[i]? = some 3)(t:fF ks i m)(hr:nD ks i r):¬(m:Int)<r:=by
 intro u;have v:=gX d;obtain⟨n,rfl⟩:=Int.eq_ofNat_of_zero_le (show 0<=r by omega);have g:=hr.own (by omega);have E:=h.right i d n g;obtain⟨s,a,c,F,o,w,x⟩:=t;obtain⟨k,j,y,b⟩:=id o;rw[d]at j;simp only [Option.some.injEq]at j;subst j;obtain rfl:s=1:=by omega
 have z:=(o.own d).2
 have l:fT (ownB 1 ks) c a:=by
  rcases x with⟨e,_⟩|⟨_,f⟩
  ·rw[List.getD_eq_getElem?_getD,z]at e;simp at e
  ·exact f
 have A:=l.closes.2;have q:=l.hit;have e:=(w.cmp (n+1)).2 (by omega);have f:=Bq 1 ks (show n+1<=i from g.lt);rw[b]at f;have B:=l.above (pr 1 ks (n+1)) e f;have C:=iR (ks:=ks) (p:=n+1) (by have:=g.lt;omega);have D:=iR (ks:=ks) (p:=i) (by omega);rw[b]at D;rw[C]at B;omega
