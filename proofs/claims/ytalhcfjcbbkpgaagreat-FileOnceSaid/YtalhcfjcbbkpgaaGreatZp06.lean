import Derived.Test.YtalhcfjcbbkpgaaGreatZp03
set_option maxRecDepth 100000
set_option maxHeartbeats 4000000
namespace Go.Proofs.YtalhcfjcbbkpgaaGreat
def gG(dG:Nat->Nat)(root:Nat)(a:List (Nat × Nat))(v:Nat):Bool:=v == dG root || a.any fun p=>p.2 == 0 && dG (mt p.1) == v
def eZ(dG:Nat->Nat)(root:Nat)(a:List (Nat × Nat))(d:Nat):Nat :=
 match a.find? (fun p=>p.1 / 2 == d / 2) with
 | some p=>p.2+1
 | none=>if gG dG root a (dG (mt d))then 2 else 0
def o9(S dG:Nat->Nat)(root:Nat)(s:Nat × List (Nat × Nat)):Nat × List (Nat × Nat) :=
 (S (if eZ dG root s.2 s.1<2 then mt s.1 else s.1),s.2 ++ [(s.1,eZ dG root s.2 s.1)])
def eD(S dG:Nat->Nat)(root:Nat):Nat->Nat × List (Nat × Nat)
 | 0=>(root,[])
 | j+1=>o9 S dG root (eD S dG root j)
theorem sF(S dG:Nat->Nat)(root j:Nat):(eD S dG root j).2.length=j:=by
 induction j with
 | zero=>rfl
 | succ j a=>simp[eD,o9,a]
def vis(a:List (Nat × Nat))(x:Nat):Prop:=∃k,(x,k) ∈ a
theorem mQ{a:List (Nat × Nat)}{d k x:Nat}:vis (a ++ [(d,k)]) x↔vis a x\/x=d:=by
 constructor
 ·rintro⟨b,hk⟩;rcases List.mem_append.1 hk with h|h
  ·exact .inl ⟨b,h⟩
  ·simp at h;exact .inr h.1
 ·rintro (⟨b,h⟩|rfl)
  ·exact⟨b,by simp[h]⟩
  ·exact⟨k,by simp⟩
theorem FT(x:Nat):¬vis [] x:=by rintro⟨k,hk⟩;cases hk
theorem CZ{a:List (Nat × Nat)}{x:Nat}:vis a x↔x ∈ a.map Prod.fst:=by
 constructor
 ·rintro⟨k,b⟩;exact List.mem_map.2 ⟨(x,k),b,rfl⟩
 ·intro c;obtain⟨⟨y,k⟩,b,rfl⟩:=List.mem_map.1 c;exact⟨k,b⟩
theorem q16{dG:Nat->Nat}{root d k v:Nat}{a:List (Nat × Nat)}:gG dG root (a ++ [(d,k)]) v=true↔gG dG root a v=true\/(k=0/\dG (mt d)=v):=by unfold gG;rw[List.any_append];simp only [Bool.or_eq_true,List.any_cons,List.any_nil,Bool.or_false,Bool.and_eq_true,beq_iff_eq];exact or_assoc.symm
structure Fr where
 a:Nat
 k:Nat
 o:Nat
def y5(S:Nat->Nat)(root r:Nat):List Fr->Nat
 | []=>itr S r root
 | f :: _=>itr S f.k f.a
def sO(S:Nat->Nat)(root r:Nat):List Fr->Nat
 | []=>itr S (r - 1) root
 | f :: _=>itr S (f.k - 1) f.a
def Bt(r:Nat):List Fr->Nat
 | []=>r
 | f :: _=>f.k
def Chain(n:Nat)(S:Nat->Nat)(root r:Nat)(b:List (Nat × Nat)):List Fr->Prop
 | []=>True
 | f :: rest=>(f.a<n/\f.k<per S f.a/\1<=Bt r rest/\itr S (per S f.a - 1) f.a=mt (sO S root r rest)/\b[f.o]? = some (sO S root r rest,0))/\Chain n S root r b rest
theorem Chain.append{n:Nat}{S:Nat->Nat}{root r:Nat}{a:List (Nat × Nat)}(p:Nat × Nat):∀{b:List Fr},Chain n S root r a b->Chain n S root r (a ++ [p]) b
 | [],_=>trivial
 | _ :: _,⟨⟨d,e,f,g,c⟩,i⟩=>⟨⟨d,e,f,g,by rw[List.getElem?_append_left (gX c)];exact c⟩,i.append p⟩
theorem Chain.lt{n:Nat}{S:Nat->Nat}{root r:Nat}{c:List (Nat × Nat)}:∀{d:List Fr},Chain n S root r c d->∀f ∈ d,f.a<n/\f.k<per S f.a
 | [],_,f,b=>by cases b
 | g :: d,⟨e,i⟩,f,b=>by
  rcases List.mem_cons.1 b with rfl|b
  ·exact⟨e.1,e.2.1⟩
  ·exact i.lt f b
theorem Chain.old{n:Nat}{S:Nat->Nat}{root r:Nat}{a:List (Nat × Nat)}:∀{c:List Fr},Chain n S root r a c->∀f ∈ c,f.o<a.length
 | [],_,f,b=>by cases b
 | g :: c,⟨d,e⟩,f,b=>by
  rcases List.mem_cons.1 b with rfl|b
  ·exact gX d.2.2.2.2
  ·exact e.old f b
structure iC (n:Nat)(S dG:Nat->Nat)(root r:Nat)(st:List Fr)(d:Nat)(out:List (Nat × Nat)):Prop where
 cur:d=y5 S root r st
 Ai:r<=per S root
 chain:Chain n S root r out st
 nd:(out.map Prod.fst).Nodup
 conn:∀x,vis out x->x<n/\dI n S root x
 qC:∀f ∈ st,∀i,i<per S f.a->(vis out (itr S i f.a)↔i<f.k)
 qD:∀i,i<per S root->(vis out (itr S i root)↔i<r)
 apart:st.Pairwise (fun f g=>¬dK S f.a g.a)
 kR:∀f ∈ st,¬dK S f.a root
 rE:∀f ∈ st,gG dG root out (dG f.a)=true
 met:∀x,x<n->gG dG root out (dG x)=true->dK S root x\/(∃f ∈ st,dK S f.a x)\/vis out x
 lZ:∀x,x<n->gG dG root out (dG x)=false->¬vis out x
 half:∀x k,(x,k) ∈ out->¬vis out (mt x)->(k=0/\∃f ∈ st,itr S (per S f.a - 1) f.a=mt x)\/k=2
 late:∀l x,out[l]? = some (x,2)->¬vis out (mt x)->dK S root (mt x)\/∃f ∈ st,dK S f.a (mt x)/\f.o<l
 k4:∀x k,(x,k) ∈ out->k<4
def jE(S:Nat->Nat)(root r:Nat)(a:List Fr):Prop:=a=[]/\r=per S root
theorem Bv{a:List (Nat × Nat)}{d:Nat}(e:¬vis a d):(∃k,a.find? (fun p=>p.1 / 2 == d / 2)=some (mt d,k)/\(mt d,k) ∈ a)\/(a.find? (fun p=>p.1 / 2 == d / 2)=none/\¬vis a (mt d)):=by
 cases hf:a.find? (fun p=>p.1 / 2 == d / 2) with
 | none =>
  refine .inr ⟨rfl,?_⟩;rintro⟨k,hk⟩;have:=List.find?_eq_none.1 hf _ hk;simp[DV]at this
 | some p =>
  obtain⟨x,k⟩:=p;have b:=List.find?_some hf;have c:=List.mem_of_find?_eq_some hf;simp only [beq_iff_eq]at b;rcases FL b.symm with rfl|rfl
  ·exact absurd ⟨k,c⟩ e
  ·exact .inl ⟨k,rfl,c⟩
def je:List Fr->List Fr
 | []=>[]
 | f :: rest=>⟨f.a,f.k+1,f.o⟩ :: rest
def lQ(r:Nat):List Fr->Nat
 | []=>r+1
 | _ :: _=>r
theorem QN(S:Nat->Nat)(root r:Nat)(a:List Fr):y5 S root (lQ r a) (je a)=S (y5 S root r a):=by cases a <;> rfl
theorem KW(S:Nat->Nat)(root r:Nat)(a:List Fr):sO S root (lQ r a) (je a)=y5 S root r a:=by cases a <;> rfl
theorem QO(r:Nat)(a:List Fr):1<=Bt (lQ r a) (je a):=by cases a <;> simp[Bt,lQ,je]
theorem Aj(a:List Fr):(je a).length=a.length:=by cases a <;> rfl
theorem DW{c:List Fr}{g:Fr}(b:g ∈ je c):∃f ∈ c,f.a=g.a/\f.o=g.o:=by
 cases c with
 | nil=>cases b
 | cons f rest =>
  rcases List.mem_cons.1 b with rfl|b
  ·exact⟨f,by simp,rfl,rfl⟩
  ·exact⟨g,by simp[b],rfl,rfl⟩
theorem Bw{c:List Fr}{f:Fr}(b:f ∈ c):∃g ∈ je c,g.a=f.a/\g.o=f.o:=by
 cases c with
 | nil=>cases b
 | cons d rest =>
  rcases List.mem_cons.1 b with rfl|b
  ·exact⟨⟨f.a,f.k+1,f.o⟩,by simp[je],rfl,rfl⟩
  ·exact⟨f,by simp[je,b],rfl,rfl⟩
theorem q22{α:Type}{l:List α}{x y:α}{i:Nat}(h:(l ++ [x])[i]? = some y):l[i]? = some y\/(i=l.length/\y=x):=by
 rcases Nat.lt_trichotomy i l.length with a|rfl|a
 ·rw[List.getElem?_append_left a]at h;exact .inl h
 ·rw[List.getElem?_append_right (Nat.le_refl _),Nat.sub_self]at h;simp at h;exact .inr ⟨rfl,h.symm⟩
 ·rw[List.getElem?_eq_none (by simp;omega)]at h;cases h
theorem Ic{l:List Nat}{x:Nat}(h:l.Nodup)(d:x ∉ l):(l ++ [x]).Nodup:=by rw[List.Nodup,List.pairwise_append];exact⟨h,List.pairwise_singleton _ _,fun a e b c=>by simp only [List.mem_singleton]at c;rintro rfl;exact d (c ▸ e)⟩
section
variable {n:Nat} {S dG:Nat->Nat} (h:dO n S) (he:n % 2=0) (hv:∀x y,x<n->y<n->(dG x=dG y↔dK S x y)) {root:Nat} (hr:root<n)
include h hr
omit h in
include hv in
theorem FU:iC n S dG root 0 [] root [] where
 cur:=rfl
 Ai:=Nat.zero_le _
 chain:=trivial
 nd:=List.nodup_nil
 conn:=fun x a=>absurd a (FT x)
 qC:=fun f b=>by cases b
 qD:=fun i _=>⟨fun a=>absurd a (FT _),fun e=>by omega⟩
 apart:=List.Pairwise.nil
 kR:=fun f b=>by cases b
 rE:=fun f b=>by cases b
 met:=fun x a d=>by
  have:dG root=dG x:=by have c:(dG x == dG root || false)=true:=d;rw[Bool.or_false,beq_iff_eq]at c;exact c.symm
  exact .inl ((hv root x hr a).1 this)
 lZ:=fun x _ _=>FT x
 half:=fun x k a=>by cases a
 late:=fun l x a=>by simp at a
 k4:=fun x k a=>by cases a
include he
omit he hr in
theorem Chain.conn{r:Nat}{b:List (Nat × Nat)}(i:∀x,vis b x->x<n/\dI n S root x):∀{d:List Fr},Chain n S root r b d->∀f ∈ d,dI n S root f.a
 | [],_,f,c=>by cases c
 | g :: d,⟨⟨e,s,t,k,l⟩,m⟩,f,c=>by
  rcases List.mem_cons.1 c with rfl|c
  ·obtain⟨o,p⟩:=i _ ⟨0,List.mem_of_getElem? l⟩;have j:=p.trans (dI.mate o);rw[<-k]at j;have k4:=j.trans (dI.turn (h.dW e _))
   have:S (itr S (per S f.a - 1) f.a)=f.a:=by
    have q:=(h.dM e).1;have:itr S (per S f.a - 1+1) f.a=f.a:=by rw[Nat.sub_add_cancel q];exact(h.dM e).2.2.1
    exact this
   rwa [this]at k4
  ·exact Chain.conn i m f c
omit he in
theorem iC.fresh{r:Nat}{c:List Fr}{d:Nat}{b:List (Nat × Nat)}(I:iC n S dG root r c d b)(j:¬jE S root r c):d<n/\dI n S root d/\¬vis b d:=by
 cases c with
 | nil =>
  have g:r<per S root:=by have:=I.Ai;have:r≠per S root:=fun e=>j ⟨rfl,e⟩;omega
  rw[I.cur];exact⟨h.dW hr r,h.nP hr ⟨r,rfl⟩,fun a=>by have:=(I.qD r g).1 a;omega⟩
 | cons f rest =>
  obtain⟨i,l,m,o,p⟩:=I.chain.1;rw[I.cur];exact⟨h.dW i f.k,(I.chain.conn h I.conn f (by simp)).trans (h.nP i ⟨f.k,rfl⟩),fun a=>by have:=(I.qC f (by simp) f.k l).1 a;omega⟩
omit h hr he in
theorem iC.oM{r:Nat}{c:List Fr}{d:Nat}{b:List (Nat × Nat)}(I:iC n S dG root r c d b):∀{f:Fr} {rest:List Fr},c=f :: rest->dK S f.a d:=by rintro f rest rfl;exact⟨f.k,I.cur.symm⟩
omit he in
theorem iC.bump{r:Nat}{j:List Fr}{d:Nat}{b:List (Nat × Nat)}(I:iC n S dG root r j d b)(E:¬jE S root r j)(k:Nat)
  (J:∀f rest,j=f :: rest->f.k+1<per S f.a) :
  lQ r j<=per S root/\Chain n S root (lQ r j) (b ++ [(d,k)]) (je j)/\((b ++ [(d,k)]).map Prod.fst).Nodup /\
  (∀x,vis (b ++ [(d,k)]) x->x<n/\dI n S root x)/\(∀f ∈ je j,∀i,i<per S f.a->(vis (b ++ [(d,k)]) (itr S i f.a)↔i<f.k)) /\
  (∀i,i<per S root->(vis (b ++ [(d,k)]) (itr S i root)↔i<lQ r j))/\(je j).Pairwise (fun f g=>¬dK S f.a g.a) /\
  (∀f ∈ je j,¬dK S f.a root)/\(∀f ∈ je j,gG dG root (b ++ [(d,k)]) (dG f.a)=true):=by
 obtain⟨K,L,M⟩:=I.fresh h hr E;have u:((b ++ [(d,k)]).map Prod.fst).Nodup:=by rw[List.map_append];exact Ic I.nd (fun N=>M (CZ.2 N))
 have q:∀x,vis (b ++ [(d,k)]) x->x<n/\dI n S root x:=by
  intro x A;rcases mQ.1 A with A|rfl
  ·exact I.conn x A
  ·exact⟨K,L⟩
 cases j with
 | nil =>
  have v:r<per S root:=by have:=I.Ai;have:r≠per S root:=fun e=>E ⟨rfl,e⟩;omega
  refine⟨v,trivial,u,q,(fun f w=>by cases w),fun i s=>?_,List.Pairwise.nil,(fun f w=>by cases w),(fun f w=>by cases w)⟩;rw[mQ,I.qD i s,I.cur];show i<r\/itr S i root=itr S r root↔i<r+1;constructor
  ·rintro (l|l)
   ·omega
   ·have:=h.fB hr s v l;omega
  ·intro l;by_cases B:i<r
   ·exact .inl B
   ·obtain rfl:i=r:=by omega
    exact .inr rfl
 | cons f rest =>
  obtain⟨⟨F,O,P,Q,G⟩,H⟩:=I.chain;have C:=J f rest rfl;have t:=List.pairwise_cons.1 I.apart;have m:d=itr S f.k f.a:=I.cur;have p:∀g ∈ rest,∀i,itr S i g.a≠d:=by intro g c i e;refine t.1 g c ?_;have D:=(H.lt g c).1;exact dK.trans (⟨f.k,m.symm.trans e.symm⟩:dK S f.a (itr S i g.a)) (h.eO D ⟨i,rfl⟩)
  refine⟨I.Ai,⟨⟨F,C,P,Q,?_⟩,H.append _⟩,u,q,?_,?_,?_,?_,?_⟩
  ·show (b ++ [(d,k)])[f.o]? = _;rw[List.getElem?_append_left (gX G)];exact G
  ·intro g c i s;rcases List.mem_cons.1 c with rfl|c
   ·show vis _ (itr S i f.a)↔i<f.k+1;have z:i<per S f.a:=s;rw[mQ,I.qC f (by simp) i z,m];constructor
    ·rintro (l|l)
     ·omega
     ·have:=h.fB F z O l;omega
    ·intro l;by_cases B:i<f.k
     ·exact .inl B
     ·obtain rfl:i=f.k:=by omega
      exact .inr rfl
   ·rw[mQ,I.qC g (by simp[c]) i s];exact⟨fun l=>l.resolve_right (p g c i),.inl⟩
  ·intro i s;show _↔i<r;rw[mQ,I.qD i s];refine⟨fun l=>l.resolve_right (fun e=>?_),.inl⟩;refine I.kR f (by simp) ?_;exact dK.trans (⟨f.k,m.symm.trans e.symm⟩:dK S f.a (itr S i root)) (h.eO hr ⟨i,rfl⟩)
  ·exact List.pairwise_cons.2 ⟨fun g c=>t.1 g c,t.2⟩
  ·intro g c;rcases List.mem_cons.1 c with rfl|c
   ·exact I.kR f (by simp)
   ·exact I.kR g (by simp[c])
  ·intro g c;refine q16.2 (.inl ?_);rcases List.mem_cons.1 c with rfl|c
   ·exact I.rE f (by simp)
   ·exact I.rE g (by simp[c])
include hv
omit h he in
theorem iC.tY{r:Nat}{e:List Fr}{d:Nat}{b:List (Nat × Nat)}(I:iC n S dG root r e d b)(c:d<n):gG dG root b (dG d)=true:=by
 cases e with
 | nil =>
  have:dG root=dG d:=(hv root d hr c).2 (by rw[I.cur];exact⟨r,rfl⟩);unfold gG;simp[this]
 | cons f rest =>
  have:dG f.a=dG d:=(hv f.a d I.chain.1.1 c).2 (I.oM rfl);rw[<-this];exact I.rE f (by simp)
omit he in
theorem iC.close{r:Nat}{f:Fr}{rest:List Fr}{d:Nat}{m:List (Nat × Nat)}(I:iC n S dG root r (f :: rest) d m)(W:f.k+1=per S f.a) :
  mt d=sO S root r rest/\(mt d,0) ∈ m/\iC n S dG root r rest (S (mt d)) (m ++ [(d,1)]):=by
 have Q:¬jE S root r (f :: rest):=fun e=>by have:=e.1;cases this
 obtain⟨M,R,T⟩:=I.fresh h hr Q;obtain⟨⟨N,X,O,U,V⟩,P⟩:=I.chain;have o:d=itr S f.k f.a:=I.cur;have q:itr S (per S f.a - 1) f.a=d:=by rw[o];congr 1;omega
 have z:mt d=sO S root r rest:=by rw[<-q,U,dF]
 have v:(mt d,0) ∈ m:=by rw[z];exact List.mem_of_getElem? V
 have D:=List.pairwise_cons.1 I.apart;have u:∀g ∈ rest,∀i,itr S i g.a≠d:=by intro g c i e;refine D.1 g c ?_;have H:=(P.lt g c).1;exact dK.trans (⟨f.k,o.symm.trans e.symm⟩:dK S f.a (itr S i g.a)) (h.eO H ⟨i,rfl⟩)
 refine⟨z,v,?_⟩
 exact {
  cur:=by
   rw[z];cases rest with
   | nil =>
    show S (itr S (r - 1) root)=itr S r root;obtain⟨E,rfl⟩:∃E,r=E+1:=⟨r - 1,by have:1<=r:=O;omega⟩
    rfl
   | cons g rest =>
    show S (itr S (g.k - 1) g.a)=itr S g.k g.a;have:1<=g.k:=O;obtain⟨E,J⟩:∃E,g.k=E+1:=⟨g.k - 1,by omega⟩
    rw[J];rfl
  Ai:=I.Ai
  chain:=P.append _
  nd:=by rw[List.map_append];exact Ic I.nd (fun w=>T (CZ.2 w))
  conn:=fun x j=>by
   rcases mQ.1 j with j|rfl
   ·exact I.conn x j
   ·exact⟨M,R⟩
  qC:=fun g c i A=>by rw[mQ,I.qC g (by simp[c]) i A];exact⟨fun b=>b.resolve_right (u g c i),.inl⟩
  qD:=fun i A=>by rw[mQ,I.qD i A];refine⟨fun b=>b.resolve_right (fun e=>?_),.inl⟩;refine I.kR f (by simp) ?_;exact dK.trans (⟨f.k,o.symm.trans e.symm⟩:dK S f.a (itr S i root)) (h.eO hr ⟨i,rfl⟩)
  apart:=D.2
  kR:=fun g c=>I.kR g (by simp[c])
  rE:=fun g c=>q16.2 (.inl (I.rE g (by simp[c])))
  met:=fun x j w=>by
   rcases q16.1 w with w|⟨b,_⟩
   ·rcases I.met x j w with b|⟨g,c,b⟩|b
    ·exact .inl b
    ·rcases List.mem_cons.1 c with rfl|c
     ·obtain⟨i,A,rfl⟩:=h.iQ N b;refine .inr (.inr (mQ.2 ?_));by_cases B:i<g.k
      ·exact .inl ((I.qC g (by simp) i A).2 B)
      ·obtain rfl:i=g.k:=by omega
       exact .inr o.symm
     ·exact .inr (.inl ⟨g,c,b⟩)
    ·exact .inr (.inr (mQ.2 (.inl b)))
   ·cases b
  lZ:=fun x j w K=>by
   have C:gG dG root m (dG x)=false:=by
    cases hb:gG dG root m (dG x)
    ·rfl
    ·rw[q16.2 (.inl hb)]at w;cases w
   rcases mQ.1 K with b|rfl
   ·exact I.lZ x j C b
   ·rw[I.tY hv hr M]at C;cases C
  half:=fun x k j s=>by
   have p:¬vis m (mt x):=fun b=>s (mQ.2 (.inl b));have t:mt x≠d:=fun b=>s (mQ.2 (.inr b));rcases List.mem_append.1 j with j|j
   ·rcases I.half x k j p with⟨b,g,c,G⟩|b
    ·rcases List.mem_cons.1 c with rfl|c
     ·exact absurd (G.symm.trans q) t
     ·exact .inl ⟨b,g,c,G⟩
    ·exact .inr b
   ·simp only [List.mem_singleton,Prod.mk.injEq]at j;obtain⟨rfl,rfl⟩:=j;exact absurd ⟨0,v⟩ p
  late:=fun l x L s=>by
   have p:¬vis m (mt x):=fun b=>s (mQ.2 (.inl b));have t:mt x≠d:=fun b=>s (mQ.2 (.inr b));rcases q22 L with L|⟨_,b⟩
   ·rcases I.late l x L p with b|⟨g,c,b,G⟩
    ·exact .inl b
    ·rcases List.mem_cons.1 c with rfl|c
     ·exfalso;obtain⟨i,A,F⟩:=h.iQ N b;by_cases B:i<g.k
      ·exact p (F ▸ (I.qC g (by simp) i A).2 B)
      ·obtain rfl:i=g.k:=by omega
       exact t (F.symm.trans o.symm)
     ·exact .inr ⟨g,c,b,G⟩
   ·simp only [Prod.mk.injEq]at b;omega
  k4:=fun x k j=>by
   rcases List.mem_append.1 j with j|j
   ·exact I.k4 x k j
   ·simp only [List.mem_singleton,Prod.mk.injEq]at j;omega }
theorem iC.pass{r:Nat}{t:List Fr}{d:Nat}{c:List (Nat × Nat)}(I:iC n S dG root r t d c)(F:¬jE S root r t)(k:Nat)
  (H:∀f rest,t=f :: rest->f.k+1<per S f.a)(u:(k=3/\vis c (mt d))\/(k=2/\gG dG root c (dG (mt d))=true)) :
  iC n S dG root (lQ r t) (je t) (S d) (c ++ [(d,k)]):=by
 obtain⟨G,T,U⟩:=I.fresh h hr F;obtain⟨J,K,L,M,N,O,P,Q,R⟩:=I.bump h hr F k H;have z:k≠0:=by omega
 exact {
  cur:=by rw[QN,<-I.cur]
  Ai:=J,chain:=K,nd:=L,conn:=M,qC:=N,qD:=O,apart:=P,kR:=Q,rE:=R
  met:=fun x i m=>by
   rcases q16.1 m with m|⟨b,_⟩
   ·rcases I.met x i m with b|⟨g,o,b⟩|b
    ·exact .inl b
    ·obtain⟨p,j,v,_⟩:=Bw o;exact .inr (.inl ⟨p,j,by rw[v];exact b⟩)
    ·exact .inr (.inr (mQ.2 (.inl b)))
   ·exact absurd b z
  lZ:=fun x i m A=>by
   have q:gG dG root c (dG x)=false:=by
    cases hb:gG dG root c (dG x)
    ·rfl
    ·rw[q16.2 (.inl hb)]at m;cases m
   rcases mQ.1 A with b|rfl
   ·exact I.lZ x i q b
   ·rw[I.tY hv hr G]at q;cases q
  half:=fun x B i s=>by
   have e:¬vis c (mt x):=fun b=>s (mQ.2 (.inl b));rcases List.mem_append.1 i with i|i
   ·rcases I.half x B i e with⟨b,g,o,v⟩|b
    ·obtain⟨p,j,w,_⟩:=Bw o;exact .inl ⟨b,p,j,by rw[w];exact v⟩
    ·exact .inr b
   ·simp only [List.mem_singleton,Prod.mk.injEq]at i;obtain⟨rfl,rfl⟩:=i;rcases u with⟨_,b⟩|⟨b,_⟩
    ·exact absurd b e
    ·exact .inr b
  late:=fun l x C s=>by
   have e:¬vis c (mt x):=fun b=>s (mQ.2 (.inl b));rcases q22 C with C|⟨D,b⟩
   ·rcases I.late l x C e with b|⟨g,o,b,v⟩
    ·exact .inl b
    ·obtain⟨p,j,w,E⟩:=Bw o;exact .inr ⟨p,j,by rw[w];exact b,by rw[E];exact v⟩
   ·simp only [Prod.mk.injEq]at b;obtain⟨rfl,rfl⟩:=b;rcases u with⟨b,_⟩|⟨_,m⟩
    ·omega
    ·rcases I.met _ (dQ he G) m with b|⟨g,o,b⟩|b
     ·exact .inl b
     ·obtain⟨p,j,w,E⟩:=Bw o;exact .inr ⟨p,j,by rw[w];exact b,by rw[E,D];exact I.chain.old g o⟩
     ·exact absurd b e
  k4:=fun x B i=>by
   rcases List.mem_append.1 i with i|i
   ·exact I.k4 x B i
   ·simp only [List.mem_singleton,Prod.mk.injEq]at i;omega }
theorem iC.opens{r:Nat}{z:List Fr}{d:Nat}{c:List (Nat × Nat)}(I:iC n S dG root r z d c)(U:¬jE S root r z)
  (V:∀f rest,z=f :: rest->f.k+1<per S f.a)(D:gG dG root c (dG (mt d))=false) :
  iC n S dG root (lQ r z) (⟨S (mt d),0,c.length⟩ :: je z) (S (mt d)) (c ++ [(d,0)]):=by
 obtain⟨K,f2,f3⟩:=I.fresh h hr U;obtain⟨W,X,Y,Z,b5,b6,b7,b8,b9⟩:=I.bump h hr U 0 V;have q:=dQ he K;have m:=h.lt _ q;have A:dK S (S (mt d)) (mt d):=h.eO q (dK.step S _);have E:=h.xq q (dK.step S (mt d));have F:=(h.dM q).1;have s:dG (S (mt d))=dG (mt d):=(hv _ _ m q).2 A;have L:∀x,dK S (S (mt d)) x->x<n->¬vis c x:=by intro x j G;refine I.lZ x G ?_;rw[<-(hv _ x m G).2 j,s];exact D
 have p:=I.tY hv hr K;have M:¬dK S (S (mt d)) d:=fun H=>by rw[<-(hv _ d m K).2 H,s,D]at p;cases p
 have N:∀g ∈ z,g.a<n->¬dK S (S (mt d)) g.a:=by intro g e O H;have b:=I.rE g e;rw[<-(hv _ g.a m O).2 H,s,D]at b;cases b
 have u:itr S (per S (S (mt d)) - 1) (S (mt d))=mt d:=by rw[E,<-DU,Nat.sub_add_cancel F];exact(h.dM q).2.2.1
 exact {
  cur:=rfl
  Ai:=W
  chain:=⟨⟨m,by rw[E];exact F,QO r z,by rw[u,KW,<-I.cur],by rw[KW,<-I.cur];simp⟩,X⟩
  nd:=Y
  conn:=Z
  qC:=fun g e i hi=>by
   rcases List.mem_cons.1 e with rfl|e
   ·show vis _ (itr S i (S (mt d)))↔i<0;rw[mQ];constructor
    ·rintro (b|b)
     ·exact absurd b (L _ ⟨i,rfl⟩ (h.dW m i))
     ·exact absurd ⟨i,b⟩ M
    ·omega
   ·exact b5 g e i hi
  qD:=b6
  apart:=List.pairwise_cons.2 ⟨fun g e=>by obtain⟨w,o,b,_⟩:=DW e;show ¬dK S (S (mt d)) g.a;rw[<-b];exact N w o (I.chain.lt w o).1,b7⟩
  kR:=fun g e=>by
   rcases List.mem_cons.1 e with rfl|e
   ·show ¬dK S (S (mt d)) root;intro H;have:dG root=dG (mt d):=by rw[<-s];exact((hv _ root m hr).2 H).symm
    unfold gG at D;rw[<-this]at D;simp at D
   ·exact b8 g e
  rE:=fun g e=>by
   rcases List.mem_cons.1 e with rfl|e
   ·exact q16.2 (.inr ⟨rfl,s.symm⟩)
   ·exact b9 g e
  met:=fun x j t=>by
   rcases q16.1 t with t|⟨_,b⟩
   ·rcases I.met x j t with b|⟨g,e,b⟩|b
    ·exact .inl b
    ·obtain⟨w,o,J,_⟩:=Bw e;exact .inr (.inl ⟨w,by simp[o],by rw[J];exact b⟩)
    ·exact .inr (.inr (mQ.2 (.inl b)))
   ·exact .inr (.inl ⟨⟨S (mt d),0,c.length⟩,by simp,(hv _ x m j).1 (s.trans b)⟩)
  lZ:=fun x j t P=>by
   have B:gG dG root c (dG x)=false:=by
    cases hb:gG dG root c (dG x)
    ·rfl
    ·rw[q16.2 (.inl hb)]at t;cases t
   rcases mQ.1 P with b|rfl
   ·exact I.lZ x j B b
   ·rw[p]at B;cases B
  half:=fun x Q j C=>by
   have v:¬vis c (mt x):=fun b=>C (mQ.2 (.inl b));rcases List.mem_append.1 j with j|j
   ·rcases I.half x Q j v with⟨b,g,e,J⟩|b
    ·obtain⟨w,o,R,_⟩:=Bw e;exact .inl ⟨b,w,by simp[o],by rw[R];exact J⟩
    ·exact .inr b
   ·simp only [List.mem_singleton,Prod.mk.injEq]at j;obtain⟨rfl,rfl⟩:=j;exact .inl ⟨rfl,⟨S (mt x),0,c.length⟩,by simp,u⟩
  late:=fun l x T C=>by
   have v:¬vis c (mt x):=fun b=>C (mQ.2 (.inl b));rcases q22 T with T|⟨aa,b⟩
   ·rcases I.late l x T v with b|⟨g,e,b,J⟩
    ·exact .inl b
    ·obtain⟨w,o,R,h4⟩:=Bw e;exact .inr ⟨w,by simp[o],by rw[R];exact b,by rw[h4];exact J⟩
   ·simp only [Prod.mk.injEq]at b;omega
  k4:=fun x Q j=>by
   rcases List.mem_append.1 j with j|j
   ·exact I.k4 x Q j
   ·simp only [List.mem_singleton,Prod.mk.injEq]at j;omega }
inductive qP (n:Nat) (S dG:Nat->Nat) (root r:Nat) (st:List Fr) (d:Nat) (out:List (Nat × Nat)):Nat->Nat->List Fr->Prop
 | close (f:Fr) (rest:List Fr):st=f :: rest->(mt d,0) ∈ out->qP n S dG root r st d out 1 r rest
 | right:(mt d,2) ∈ out->qP n S dG root r st d out 3 (lQ r st) (je st)
 | left:¬vis out (mt d)->gG dG root out (dG (mt d))=true->qP n S dG root r st d out 2 (lQ r st) (je st)
 | opens:¬vis out (mt d)->gG dG root out (dG (mt d))=false->qP n S dG root r st d out 0 (lQ r st) (⟨S (mt d),0,out.length⟩ :: je st)
theorem iC.step{r:Nat}{s:List Fr}{d:Nat}{c:List (Nat × Nat)}(I:iC n S dG root r s d c)(C:¬jE S root r s) :
  ∃J st',qP n S dG root r s d c (eZ dG root c d) J st'/\iC n S dG root J st' (S (if eZ dG root c d<2 then mt d else d)) (c ++ [(d,eZ dG root c d)]):=by
 obtain⟨N,O,E⟩:=I.fresh h hr C;by_cases v:∃f rest,s=f :: rest/\f.k+1=per S f.a
 ·obtain⟨f,rest,rfl,t⟩:=v;obtain⟨K,o,L⟩:=I.close h hv hr t
  have i:eZ dG root c d=1:=by
   unfold eZ;rcases Bv E with⟨k,u,m⟩|⟨_,m⟩
   ·rw[u]
    have:k=0:=by
     have w:=I.nd;rw[List.Nodup,List.pairwise_map]at w;apply Classical.byContradiction;intro F
     have key:∀l:List (Nat × Nat),l.Pairwise (fun a b=>a.1≠b.1)->(mt d,k) ∈ l->(mt d,0) ∈ l->False:=by
      intro l
      induction l with
      | nil=>intro _ h;cases h
      | cons p l M =>
       intro D q j;rw[List.pairwise_cons]at D;rcases List.mem_cons.1 q with q|q
       ·rcases List.mem_cons.1 j with j|j
        ·rw[<-q]at j;simp only [Prod.mk.injEq,true_and]at j;exact F j.symm
        ·exact D.1 _ j (by rw[<-q])
       ·rcases List.mem_cons.1 j with j|j
        ·exact D.1 _ q (by rw[<-j])
        ·exact M D.2 q j
     exact key c w m o
    rw[this]
   ·exact absurd ⟨0,o⟩ m
  rw[i];exact⟨r,rest,.close f rest rfl o,by simpa using L⟩
 ·have t:∀f rest,s=f :: rest->f.k+1<per S f.a:=by rintro f rest rfl;have:=I.chain.1.2.1;have:f.k+1≠per S f.a:=fun e=>v ⟨f,rest,rfl,e⟩;omega
  rcases Bv E with⟨k,u,m⟩|⟨u,m⟩
  ·have G:k=2:=by
    rcases I.half _ _ m (by rw[dF];exact E) with⟨_,g,z,o⟩|K
    ·exfalso;rw[dF]at o;cases s with
     | nil=>cases z
     | cons f rest =>
      rcases List.mem_cons.1 z with rfl|z
      ·have A:d=itr S g.k g.a:=I.cur;rw[A]at o;have B:=I.chain.1;have:=h.fB B.1 (by omega) B.2.1 o;have:=t g rest rfl;omega
      ·refine(List.pairwise_cons.1 I.apart).1 g z ?_;have H:=(I.chain.2.lt g z).1;exact(I.oM rfl).trans (h.eO H ⟨_,o⟩)
    ·exact K
   subst G;have i:eZ dG root c d=3:=by unfold eZ;rw[u]
   rw[i];exact⟨_,_,.right m,by simpa using I.pass h he hv hr C 3 t (.inl ⟨rfl,2,m⟩)⟩
  ·cases hmet:gG dG root c (dG (mt d))
   ·have i:eZ dG root c d=0:=by unfold eZ;rw[u];simp[hmet]
    rw[i];exact⟨_,_,.opens m hmet,by simpa using I.opens h he hv hr C t hmet⟩
   ·have i:eZ dG root c d=2:=by unfold eZ;rw[u];simp[hmet]
    rw[i];exact⟨_,_,.left m hmet,by simpa using I.pass h he hv hr C 2 t (.inr ⟨rfl,hmet⟩)⟩
omit hv he in
theorem iC.all{r:Nat}{p:List Fr}{d:Nat}{b:List (Nat × Nat)}(I:iC n S dG root r p d b)(u:jE S root r p)
  (f:∀x,x<n->dG (S x)=dG x){x:Nat}(v:dI n S root x):vis b x:=by
 obtain⟨rfl,rfl⟩:=u;have a:∀y,dK S root y->vis b y:=by intro y w;obtain⟨i,q,rfl⟩:=h.iQ hr w;exact(I.qD i q).2 q
 refine v (vis b) (a root (dK.refl S root)) (fun z j s=>⟨?_,?_⟩)
 ·have A:gG dG root b (dG (S z))=true:=by
   cases hb:gG dG root b (dG (S z))
   ·rw[f z j]at hb;exact absurd s (I.lZ z j hb)
   ·rfl
  rcases I.met (S z) (h.lt z j) A with c|⟨g,e,_⟩|c
  ·exact a _ c
  ·cases e
  ·exact c
 ·apply Classical.byContradiction;intro m;obtain⟨k,t⟩:=s;rcases I.half z k t m with⟨_,g,e,_⟩|B
  ·cases e
  ·subst B;obtain⟨l,C,o⟩:=List.mem_iff_getElem.1 t;rcases I.late l z (by rw[List.getElem?_eq_getElem C,o]) m with c|⟨g,e,_⟩
   ·exact m (a _ c)
   ·cases e
omit h he hv hr in
theorem iC.len{r:Nat}{b:List Fr}{d:Nat}{a:List (Nat × Nat)}(I:iC n S dG root r b d a):a.length<=n:=by have:=Bl n _ I.nd (fun x c=>(I.conn x (CZ.2 c)).1);simpa using this
theorem KX:∀m j r b,n<=j+m->iC n S dG root r b (eD S dG root j).1 (eD S dG root j).2->(∀i,i<j->∃r b,iC n S dG root r b (eD S dG root i).1 (eD S dG root i).2/\¬jE S root r b) ->
  ∃T r,iC n S dG root r [] (eD S dG root T).1 (eD S dG root T).2/\jE S root r []/\∀i,i<T->∃r b,iC n S dG root r b (eD S dG root i).1 (eD S dG root i).2/\¬jE S root r b:=by
 intro m
 induction m with
 | zero =>
  intro j r b g I a;by_cases c:jE S root r b
  ·obtain⟨rfl,k⟩:=id c;exact⟨j,r,I,c,a⟩
  ·exfalso;obtain⟨f,st',_,d⟩:=I.step h he hv hr c;have:=d.len;rw[List.length_append,sF]at this;simp at this;omega
 | succ m l =>
  intro j r b g I a;by_cases c:jE S root r b
  ·obtain⟨rfl,k⟩:=id c;exact⟨j,r,I,c,a⟩
  ·obtain⟨f,st',_,d⟩:=I.step h he hv hr c;refine l (j+1) f st' (by omega) d (fun i p=>?_);rcases Nat.lt_or_ge i j with e|o
   ·exact a i e
   ·obtain rfl:i=j:=by omega
    exact⟨r,b,I,c⟩
end
