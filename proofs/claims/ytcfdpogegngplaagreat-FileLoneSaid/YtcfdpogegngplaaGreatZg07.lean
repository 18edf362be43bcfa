import Derived.Test.YtcfdpogegngplaaGreatZg05
set_option maxRecDepth 100000
set_option maxHeartbeats 4000000
namespace Go.Proofs.YtcfdpogegngplaaGreat
section
def dB(aC:Nat→Nat)(root:Nat)(out:List (Nat × Nat))(v:Nat):Bool:=v == aC root || out.any fun p=>p.2 == 0 && aC (mt p.1) == v
def bJ(aC:Nat→Nat)(root:Nat)(out:List (Nat × Nat))(d:Nat):Nat :=
 match out.find? (fun p=>p.1 / 2 == d / 2) with
 | some p=>p.2+1
 | none=>if dB aC root out (aC (mt d)) then 2 else 0
def nX(S aC:Nat→Nat)(root:Nat)(s:Nat × List (Nat × Nat)):Nat × List (Nat × Nat) :=
 (S (if bJ aC root s.2 s.1<2 then mt s.1 else s.1),s.2 ++ [(s.1,bJ aC root s.2 s.1)])
def aX(S aC:Nat→Nat)(root:Nat):Nat→Nat × List (Nat × Nat)
 | 0=>(root,[])
 | j+1=>nX S aC root (aX S aC root j)
theorem rO(S aC:Nat→Nat)(root j:Nat):(aX S aC root j).2.length=j:=by
 induction j with
 | zero=>rfl
 | succ j ih=>simp[aX,nX,ih]
def vis(out:List (Nat × Nat))(x:Nat):Prop:=∃ k,(x,k) ∈ out
theorem kM{out:List (Nat × Nat)}{d k x:Nat}:vis (out ++ [(d,k)]) x↔vis out x∨x=d:=by
 constructor
 ·rintro⟨k',hk⟩
  rcases List.mem_append.1 hk with h|h
  ·exact .inl ⟨k',h⟩
  ·simp at h;exact .inr h.1
 ·rintro (⟨k',h⟩|rfl)
  ·exact⟨k',by simp[h]⟩
  ·exact⟨k,by simp⟩
theorem QM(x:Nat):¬ vis [] x:=by rintro⟨k,hk⟩;cases hk
theorem JF{out:List (Nat × Nat)}{x:Nat}:vis out x↔x ∈ out.map Prod.fst:=by
 constructor
 ·rintro⟨k,hk⟩;exact List.mem_map.2 ⟨(x,k),hk,rfl⟩
 ·intro hx
  obtain⟨⟨y,k⟩,hk,rfl⟩:=List.mem_map.1 hx
  exact⟨k,hk⟩
theorem yw{aC:Nat→Nat}{root d k v:Nat}{out:List (Nat × Nat)}:dB aC root (out ++ [(d,k)]) v=true↔dB aC root out v=true∨(k=0∧aC (mt d)=v):=by
 unfold dB
 rw[List.any_append]
 simp only [Bool.or_eq_true,List.any_cons,List.any_nil,Bool.or_false,Bool.and_eq_true,beq_iff_eq]
 exact or_assoc.symm
structure Fr where
 a:Nat
 k:Nat
 o:Nat
def Ci(S:Nat→Nat)(root r:Nat):List Fr→Nat
 | []=>bg S r root
 | f :: _=>bg S f.k f.a
def sH(S:Nat→Nat)(root r:Nat):List Fr→Nat
 | []=>bg S (r - 1) root
 | f :: _=>bg S (f.k - 1) f.a
def GD(r:Nat):List Fr→Nat
 | []=>r
 | f :: _=>f.k
def Chain(n:Nat)(S:Nat→Nat)(root r:Nat)(out:List (Nat × Nat)):List Fr→Prop
 | []=>True
 | f :: rest=>(f.a<n∧f.k<per S f.a∧1≤GD r rest∧bg S (per S f.a - 1) f.a=mt (sH S root r rest)∧out[f.o]? = some (sH S root r rest,0))∧Chain n S root r out rest
theorem Chain.append{n:Nat}{S:Nat→Nat}{root r:Nat}{out:List (Nat × Nat)}(p:Nat × Nat):∀ {st:List Fr},Chain n S root r out st→Chain n S root r (out ++ [p]) st
 | [],_=>trivial
 | _ :: _,⟨⟨h1,h2,h3,h4,h5⟩,h6⟩=>⟨⟨h1,h2,h3,h4,by rw[List.getElem?_append_left (fK h5)];exact h5⟩,h6.append p⟩
theorem Chain.lt{n:Nat}{S:Nat→Nat}{root r:Nat}{out:List (Nat × Nat)}:∀ {st:List Fr},Chain n S root r out st→∀ f ∈ st,f.a<n∧f.k<per S f.a
 | [],_,f,hf=>by cases hf
 | g :: st,⟨h1,h2⟩,f,hf=>by
  rcases List.mem_cons.1 hf with rfl|hf
  ·exact⟨h1.1,h1.2.1⟩
  ·exact h2.lt f hf
theorem Chain.old{n:Nat}{S:Nat→Nat}{root r:Nat}{out:List (Nat × Nat)}:∀ {st:List Fr},Chain n S root r out st→∀ f ∈ st,f.o<out.length
 | [],_,f,hf=>by cases hf
 | g :: st,⟨h1,h2⟩,f,hf=>by
  rcases List.mem_cons.1 hf with rfl|hf
  ·exact fK h1.2.2.2.2
  ·exact h2.old f hf
structure dZ (n:Nat)(S aC:Nat→Nat)(root r:Nat)(st:List Fr)(d:Nat)(out:List (Nat × Nat)):Prop where
 cur:d=Ci S root r st
 Ei:r≤per S root
 chain:Chain n S root r out st
 nd:(out.map Prod.fst).Nodup
 conn:∀ x,vis out x→x<n∧aJ n S root x
 pq:∀ f ∈ st,∀ i,i<per S f.a→(vis out (bg S i f.a)↔i<f.k)
 pz:∀ i,i<per S root→(vis out (bg S i root)↔i<r)
 apart:st.Pairwise (fun f g=>¬ aH S f.a g.a)
 jh:∀ f ∈ st,¬ aH S f.a root
 qI:∀ f ∈ st,dB aC root out (aC f.a)=true
 met:∀ x,x<n→dB aC root out (aC x)=true→aH S root x∨(∃ f ∈ st,aH S f.a x)∨vis out x
 jY:∀ x,x<n→dB aC root out (aC x)=false→¬ vis out x
 half:∀ x k,(x,k) ∈ out→¬ vis out (mt x)→(k=0∧∃ f ∈ st,bg S (per S f.a - 1) f.a=mt x)∨k=2
 late:∀ l x,out[l]? = some (x,2)→¬ vis out (mt x)→aH S root (mt x)∨∃ f ∈ st,aH S f.a (mt x)∧f.o<l
 k4:∀ x k,(x,k) ∈ out→k<4
def gZ(S:Nat→Nat)(root r:Nat)(st:List Fr):Prop:=st=[]∧r=per S root
theorem GH{out:List (Nat × Nat)}{d:Nat}(hd:¬ vis out d):(∃ k,out.find? (fun p=>p.1 / 2 == d / 2)=some (mt d,k)∧(mt d,k) ∈ out)∨(out.find? (fun p=>p.1 / 2 == d / 2)=none∧¬ vis out (mt d)):=by
 cases hf:out.find? (fun p=>p.1 / 2 == d / 2) with
 | none =>
  refine .inr ⟨rfl,?_⟩
  rintro⟨k,hk⟩
  have:=List.find?_eq_none.1 hf _ hk
  simp[Ut] at this
 | some p =>
  obtain⟨x,k⟩:=p
  have h1:=List.find?_some hf
  have h2:=List.mem_of_find?_eq_some hf
  simp only [beq_iff_eq] at h1
  rcases Uu h1.symm with rfl|rfl
  ·exact absurd ⟨k,h2⟩ hd
  ·exact .inl ⟨k,rfl,h2⟩
def fM:List Fr→List Fr
 | []=>[]
 | f :: rest=>⟨f.a,f.k+1,f.o⟩ :: rest
def jH(r:Nat):List Fr→Nat
 | []=>r+1
 | _ :: _=>r
theorem qlp(S:Nat→Nat)(root r:Nat)(st:List Fr):Ci S root (jH r st) (fM st)=S (Ci S root r st):=by cases st <;> rfl
theorem ZR(S:Nat→Nat)(root r:Nat)(st:List Fr):sH S root (jH r st) (fM st)=Ci S root r st:=by cases st <;> rfl
theorem qiy(r:Nat)(st:List Fr):1≤GD (jH r st) (fM st):=by cases st <;> simp[GD,jH,fM]
theorem Ej(st:List Fr):(fM st).length=st.length:=by cases st <;> rfl
theorem LM{st:List Fr}{g:Fr}(hg:g ∈ fM st):∃ f ∈ st,f.a=g.a∧f.o=g.o:=by
 cases st with
 | nil=>cases hg
 | cons f rest =>
  rcases List.mem_cons.1 hg with rfl|hg
  ·exact⟨f,by simp,rfl,rfl⟩
  ·exact⟨g,by simp[hg],rfl,rfl⟩
theorem GI{st:List Fr}{f:Fr}(hf:f ∈ st):∃ g ∈ fM st,g.a=f.a∧g.o=f.o:=by
 cases st with
 | nil=>cases hf
 | cons f0 rest =>
  rcases List.mem_cons.1 hf with rfl|hf
  ·exact⟨⟨f.a,f.k+1,f.o⟩,by simp[fM],rfl,rfl⟩
  ·exact⟨f,by simp[fM,hf],rfl,rfl⟩
theorem Cj{α:Type}{l:List α}{x y:α}{i:Nat}(h:(l ++ [x])[i]? = some y):l[i]? = some y∨(i=l.length∧y=x):=by
 rcases Nat.lt_trichotomy i l.length with hlt|rfl|hlt
 ·rw[List.getElem?_append_left hlt] at h;exact .inl h
 ·rw[List.getElem?_append_right (Nat.le_refl _),Nat.sub_self] at h
  simp at h
  exact .inr ⟨rfl,h.symm⟩
 ·rw[List.getElem?_eq_none (by simp;omega)] at h;cases h
theorem UW{l:List Nat}{x:Nat}(h:l.Nodup)(hx:x ∉ l):(l ++ [x]).Nodup:=by
 rw[List.Nodup,List.pairwise_append]
 exact⟨h,List.pairwise_singleton _ _,fun a ha b hb=>by
  simp only [List.mem_singleton] at hb
  rintro rfl
  exact hx (hb ▸ ha)⟩
section
variable {n:Nat} {S aC:Nat→Nat} (h:aM n S) (he:n % 2=0) (hv:∀ x y,x<n→y<n→(aC x=aC y↔aH S x y)) {root:Nat} (hr:root<n)
include h hr
omit h in
include hv in
theorem QN:dZ n S aC root 0 [] root [] where
 cur:=rfl
 Ei:=Nat.zero_le _
 chain:=trivial
 nd:=List.nodup_nil
 conn:=fun x hx=>absurd hx (QM x)
 pq:=fun f hf=>by cases hf
 pz:=fun i _=>⟨fun hx=>absurd hx (QM _),fun hi=>by omega⟩
 apart:=List.Pairwise.nil
 jh:=fun f hf=>by cases hf
 qI:=fun f hf=>by cases hf
 met:=fun x hx hm=>by
  have:aC root=aC x:=by
   have h1:(aC x == aC root || false)=true:=hm
   rw[Bool.or_false,beq_iff_eq] at h1
   exact h1.symm
  exact .inl ((hv root x hr hx).1 this)
 jY:=fun x _ _=>QM x
 half:=fun x k hx=>by cases hx
 late:=fun l x hx=>by simp at hx
 k4:=fun x k hx=>by cases hx
include he
omit he hr in
theorem Chain.conn{r:Nat}{out:List (Nat × Nat)}(hc:∀ x,vis out x→x<n∧aJ n S root x):∀ {st:List Fr},Chain n S root r out st→∀ f ∈ st,aJ n S root f.a
 | [],_,f,hf=>by cases hf
 | g :: st,⟨⟨h1,h2,h3,h4,h5⟩,h6⟩,f,hf=>by
  rcases List.mem_cons.1 hf with rfl|hf
  ·obtain⟨k1,k2⟩:=hc _ ⟨0,List.mem_of_getElem? h5⟩
   have k3:=k2.trans (aJ.mate k1)
   rw[← h4] at k3
   have k4:=k3.trans (aJ.turn (h.bV h1 _))
   have:S (bg S (per S f.a - 1) f.a)=f.a:=by
    have h0:=(h.aZ h1).1
    have:bg S (per S f.a - 1+1) f.a=f.a:=by rw[Nat.sub_add_cancel h0];exact (h.aZ h1).2.2.1
    exact this
   rwa [this] at k4
  ·exact Chain.conn hc h6 f hf
omit he in
theorem dZ.fresh{r:Nat}{st:List Fr}{d:Nat}{out:List (Nat × Nat)}(I:dZ n S aC root r st d out)(hd:¬ gZ S root r st):d<n∧aJ n S root d∧¬ vis out d:=by
 cases st with
 | nil =>
  have hlt:r<per S root:=by
   have:=I.Ei
   have:r≠per S root:=fun e=>hd ⟨rfl,e⟩
   omega
  rw[I.cur]
  exact⟨h.bV hr r,h.lW hr ⟨r,rfl⟩,fun nY=>by have:=(I.pz r hlt).1 nY;omega⟩
 | cons f rest =>
  obtain⟨h1,h2,h3,h4,h5⟩:=I.chain.1
  rw[I.cur]
  exact⟨h.bV h1 f.k,(I.chain.conn h I.conn f (by simp)).trans (h.lW h1 ⟨f.k,rfl⟩),fun nY=>by have:=(I.pq f (by simp) f.k h2).1 nY;omega⟩
omit h hr he in
theorem dZ.nI{r:Nat}{st:List Fr}{d:Nat}{out:List (Nat × Nat)}(I:dZ n S aC root r st d out):∀ {f:Fr} {rest:List Fr},st=f :: rest→aH S f.a d:=by
 rintro f rest rfl
 exact⟨f.k,I.cur.symm⟩
omit he in
theorem dZ.bump{r:Nat}{st:List Fr}{d:Nat}{out:List (Nat × Nat)}(I:dZ n S aC root r st d out)(hd:¬ gZ S root r st)(k:Nat)
  (hk:∀ f rest,st=f :: rest→f.k+1<per S f.a) :
  jH r st≤per S root∧Chain n S root (jH r st) (out ++ [(d,k)]) (fM st)∧((out ++ [(d,k)]).map Prod.fst).Nodup ∧
  (∀ x,vis (out ++ [(d,k)]) x→x<n∧aJ n S root x)∧(∀ f ∈ fM st,∀ i,i<per S f.a→(vis (out ++ [(d,k)]) (bg S i f.a)↔i<f.k)) ∧
  (∀ i,i<per S root→(vis (out ++ [(d,k)]) (bg S i root)↔i<jH r st))∧(fM st).Pairwise (fun f g=>¬ aH S f.a g.a) ∧
  (∀ f ∈ fM st,¬ aH S f.a root)∧(∀ f ∈ fM st,dB aC root (out ++ [(d,k)]) (aC f.a)=true):=by
 obtain⟨f1,f2,f3⟩:=I.fresh h hr hd
 have hnd:((out ++ [(d,k)]).map Prod.fst).Nodup:=by
  rw[List.map_append]
  exact UW I.nd (fun hm=>f3 (JF.2 hm))
 have hcon:∀ x,vis (out ++ [(d,k)]) x→x<n∧aJ n S root x:=by
  intro x hx
  rcases kM.1 hx with hx|rfl
  ·exact I.conn x hx
  ·exact⟨f1,f2⟩
 cases st with
 | nil =>
  have hlt:r<per S root:=by
   have:=I.Ei
   have:r≠per S root:=fun e=>hd ⟨rfl,e⟩
   omega
  refine⟨hlt,trivial,hnd,hcon,(fun f hf=>by cases hf),fun i hi=>?_,List.Pairwise.nil,(fun f hf=>by cases hf),(fun f hf=>by cases hf)⟩
  rw[kM,I.pz i hi,I.cur]
  show i<r∨bg S i root=bg S r root↔i<r+1
  constructor
  ·rintro (h1|h1)
   ·omega
   ·have:=h.lH hr hi hlt h1
    omega
  ·intro h1
   by_cases h2:i<r
   ·exact .inl h2
   ·obtain rfl:i=r:=by omega
    exact .inr rfl
 | cons f rest =>
  obtain⟨⟨c1,c2,c3,c4,c5⟩,c6⟩:=I.chain
  have hk':=hk f rest rfl
  have hap:=List.pairwise_cons.1 I.apart
  have hcur:d=bg S f.k f.a:=I.cur
  have hother:∀ g ∈ rest,∀ i,bg S i g.a≠d:=by
   intro g hg i e
   refine hap.1 g hg ?_
   have hga:=(c6.lt g hg).1
   exact aH.trans (⟨f.k,hcur.symm.trans e.symm⟩:aH S f.a (bg S i g.a)) (h.bF hga ⟨i,rfl⟩)
  refine⟨I.Ei,⟨⟨c1,hk',c3,c4,?_⟩,c6.append _⟩,hnd,hcon,?_,?_,?_,?_,?_⟩
  ·show (out ++ [(d,k)])[f.o]? = _
   rw[List.getElem?_append_left (fK c5)];exact c5
  ·intro g hg i hi
   rcases List.mem_cons.1 hg with rfl|hg
   ·show vis _ (bg S i f.a)↔i<f.k+1
    have hi':i<per S f.a:=hi
    rw[kM,I.pq f (by simp) i hi',hcur]
    constructor
    ·rintro (h1|h1)
     ·omega
     ·have:=h.lH c1 hi' c2 h1
      omega
    ·intro h1
     by_cases h2:i<f.k
     ·exact .inl h2
     ·obtain rfl:i=f.k:=by omega
      exact .inr rfl
   ·rw[kM,I.pq g (by simp[hg]) i hi]
    exact⟨fun h1=>h1.resolve_right (hother g hg i),.inl⟩
  ·intro i hi
   show _↔i<r
   rw[kM,I.pz i hi]
   refine⟨fun h1=>h1.resolve_right (fun e=>?_),.inl⟩
   refine I.jh f (by simp) ?_
   exact aH.trans (⟨f.k,hcur.symm.trans e.symm⟩:aH S f.a (bg S i root)) (h.bF hr ⟨i,rfl⟩)
  ·exact List.pairwise_cons.2 ⟨fun g hg=>hap.1 g hg,hap.2⟩
  ·intro g hg
   rcases List.mem_cons.1 hg with rfl|hg
   ·exact I.jh f (by simp)
   ·exact I.jh g (by simp[hg])
  ·intro g hg
   refine yw.2 (.inl ?_)
   rcases List.mem_cons.1 hg with rfl|hg
   ·exact I.qI f (by simp)
   ·exact I.qI g (by simp[hg])
include hv
omit h he in
theorem dZ.uz{r:Nat}{st:List Fr}{d:Nat}{out:List (Nat × Nat)}(I:dZ n S aC root r st d out)(hdn:d<n):dB aC root out (aC d)=true:=by
 cases st with
 | nil =>
  have:aC root=aC d:=(hv root d hr hdn).2 (by rw[I.cur];exact⟨r,rfl⟩)
  unfold dB;simp[this]
 | cons f rest =>
  have:aC f.a=aC d:=(hv f.a d I.chain.1.1 hdn).2 (I.nI rfl)
  rw[← this];exact I.qI f (by simp)
omit he in
theorem dZ.close{r:Nat}{f:Fr}{rest:List Fr}{d:Nat}{out:List (Nat × Nat)}(I:dZ n S aC root r (f :: rest) d out)(hk:f.k+1=per S f.a) :
  mt d=sH S root r rest∧(mt d,0) ∈ out∧dZ n S aC root r rest (S (mt d)) (out ++ [(d,1)]):=by
 have hd:¬ gZ S root r (f :: rest):=fun e=>by have:=e.1;cases this
 obtain⟨f1,f2,f3⟩:=I.fresh h hr hd
 obtain⟨⟨c1,c2,c3,c4,c5⟩,c6⟩:=I.chain
 have hcur:d=bg S f.k f.a:=I.cur
 have sI:bg S (per S f.a - 1) f.a=d:=by rw[hcur];congr 1;omega
 have hmd:mt d=sH S root r rest:=by rw[← sI,c4,bD]
 have hmem:(mt d,0) ∈ out:=by rw[hmd];exact List.mem_of_getElem? c5
 have hap:=List.pairwise_cons.1 I.apart
 have hother:∀ g ∈ rest,∀ i,bg S i g.a≠d:=by
  intro g hg i e
  refine hap.1 g hg ?_
  have hga:=(c6.lt g hg).1
  exact aH.trans (⟨f.k,hcur.symm.trans e.symm⟩:aH S f.a (bg S i g.a)) (h.bF hga ⟨i,rfl⟩)
 refine⟨hmd,hmem,?_⟩
 exact {
  cur:=by
   rw[hmd]
   cases rest with
   | nil =>
    show S (bg S (r - 1) root)=bg S r root
    obtain⟨r',rfl⟩:∃ r',r=r'+1:=⟨r - 1,by have:1≤r:=c3;omega⟩
    rfl
   | cons g rest =>
    show S (bg S (g.k - 1) g.a)=bg S g.k g.a
    have:1≤g.k:=c3
    obtain⟨r',hr'⟩:∃ r',g.k=r'+1:=⟨g.k - 1,by omega⟩
    rw[hr']
    rfl
  Ei:=I.Ei
  chain:=c6.append _
  nd:=by
   rw[List.map_append]
   exact UW I.nd (fun hm=>f3 (JF.2 hm))
  conn:=fun x hx=>by
   rcases kM.1 hx with hx|rfl
   ·exact I.conn x hx
   ·exact⟨f1,f2⟩
  pq:=fun g hg i hi=>by
   rw[kM,I.pq g (by simp[hg]) i hi]
   exact⟨fun h1=>h1.resolve_right (hother g hg i),.inl⟩
  pz:=fun i hi=>by
   rw[kM,I.pz i hi]
   refine⟨fun h1=>h1.resolve_right (fun e=>?_),.inl⟩
   refine I.jh f (by simp) ?_
   exact aH.trans (⟨f.k,hcur.symm.trans e.symm⟩:aH S f.a (bg S i root)) (h.bF hr ⟨i,rfl⟩)
  apart:=hap.2
  jh:=fun g hg=>I.jh g (by simp[hg])
  qI:=fun g hg=>yw.2 (.inl (I.qI g (by simp[hg])))
  met:=fun x hx hm=>by
   rcases yw.1 hm with hm|⟨h1,_⟩
   ·rcases I.met x hx hm with h1|⟨g,hg,h1⟩|h1
    ·exact .inl h1
    ·rcases List.mem_cons.1 hg with rfl|hg
     ·obtain⟨i,hi,rfl⟩:=h.jW c1 h1
      refine .inr (.inr (kM.2 ?_))
      by_cases hik:i<g.k
      ·exact .inl ((I.pq g (by simp) i hi).2 hik)
      ·obtain rfl:i=g.k:=by omega
       exact .inr hcur.symm
     ·exact .inr (.inl ⟨g,hg,h1⟩)
    ·exact .inr (.inr (kM.2 (.inl h1)))
   ·cases h1
  jY:=fun x hx hm GJ=>by
   have hm0:dB aC root out (aC x)=false:=by
    cases hb:dB aC root out (aC x)
    ·rfl
    ·rw[yw.2 (.inl hb)] at hm;cases hm
   rcases kM.1 GJ with h1|rfl
   ·exact I.jY x hx hm0 h1
   ·rw[I.uz hv hr f1] at hm0;cases hm0
  half:=fun x k hx nJ=>by
   have kT:¬ vis out (mt x):=fun h1=>nJ (kM.2 (.inl h1))
   have GK:mt x≠d:=fun h1=>nJ (kM.2 (.inr h1))
   rcases List.mem_append.1 hx with hx|hx
   ·rcases I.half x k hx kT with⟨h1,g,hg,h2⟩|h1
    ·rcases List.mem_cons.1 hg with rfl|hg
     ·exact absurd (h2.symm.trans sI) GK
     ·exact .inl ⟨h1,g,hg,h2⟩
    ·exact .inr h1
   ·simp only [List.mem_singleton,Prod.mk.injEq] at hx
    obtain⟨rfl,rfl⟩:=hx
    exact absurd ⟨0,hmem⟩ kT
  late:=fun l x hl nJ=>by
   have kT:¬ vis out (mt x):=fun h1=>nJ (kM.2 (.inl h1))
   have GK:mt x≠d:=fun h1=>nJ (kM.2 (.inr h1))
   rcases Cj hl with hl|⟨_,h1⟩
   ·rcases I.late l x hl kT with h1|⟨g,hg,h1,h2⟩
    ·exact .inl h1
    ·rcases List.mem_cons.1 hg with rfl|hg
     ·exfalso
      obtain⟨i,hi,hix⟩:=h.jW c1 h1
      by_cases hik:i<g.k
      ·exact kT (hix ▸ (I.pq g (by simp) i hi).2 hik)
      ·obtain rfl:i=g.k:=by omega
       exact GK (hix.symm.trans hcur.symm)
     ·exact .inr ⟨g,hg,h1,h2⟩
   ·simp only [Prod.mk.injEq] at h1;omega
  k4:=fun x k hx=>by
   rcases List.mem_append.1 hx with hx|hx
   ·exact I.k4 x k hx
   ·simp only [List.mem_singleton,Prod.mk.injEq] at hx
    omega }
theorem dZ.pass{r:Nat}{st:List Fr}{d:Nat}{out:List (Nat × Nat)}(I:dZ n S aC root r st d out)(hd:¬ gZ S root r st)(k:Nat)
  (hk:∀ f rest,st=f :: rest→f.k+1<per S f.a)(hkk:(k=3∧vis out (mt d))∨(k=2∧dB aC root out (aC (mt d))=true)) :
  dZ n S aC root (jH r st) (fM st) (S d) (out ++ [(d,k)]):=by
 obtain⟨f1,f2,f3⟩:=I.fresh h hr hd
 obtain⟨b1,b2,b3,b4,b5,b6,b7,b8,b9⟩:=I.bump h hr hd k hk
 have hk0:k≠0:=by omega
 exact {
  cur:=by rw[qlp,← I.cur]
  Ei:=b1,chain:=b2,nd:=b3,conn:=b4,pq:=b5,pz:=b6,apart:=b7,jh:=b8,qI:=b9
  met:=fun x hx hm=>by
   rcases yw.1 hm with hm|⟨h1,_⟩
   ·rcases I.met x hx hm with h1|⟨g,hg,h1⟩|h1
    ·exact .inl h1
    ·obtain⟨g',hg',h2,_⟩:=GI hg
     exact .inr (.inl ⟨g',hg',by rw[h2];exact h1⟩)
    ·exact .inr (.inr (kM.2 (.inl h1)))
   ·exact absurd h1 hk0
  jY:=fun x hx hm GJ=>by
   have hm0:dB aC root out (aC x)=false:=by
    cases hb:dB aC root out (aC x)
    ·rfl
    ·rw[yw.2 (.inl hb)] at hm;cases hm
   rcases kM.1 GJ with h1|rfl
   ·exact I.jY x hx hm0 h1
   ·rw[I.uz hv hr f1] at hm0;cases hm0
  half:=fun x k' hx nJ=>by
   have kT:¬ vis out (mt x):=fun h1=>nJ (kM.2 (.inl h1))
   rcases List.mem_append.1 hx with hx|hx
   ·rcases I.half x k' hx kT with⟨h1,g,hg,h2⟩|h1
    ·obtain⟨g',hg',h3,_⟩:=GI hg
     exact .inl ⟨h1,g',hg',by rw[h3];exact h2⟩
    ·exact .inr h1
   ·simp only [List.mem_singleton,Prod.mk.injEq] at hx
    obtain⟨rfl,rfl⟩:=hx
    rcases hkk with⟨_,h1⟩|⟨h1,_⟩
    ·exact absurd h1 kT
    ·exact .inr h1
  late:=fun l x hl nJ=>by
   have kT:¬ vis out (mt x):=fun h1=>nJ (kM.2 (.inl h1))
   rcases Cj hl with hl|⟨hll,h1⟩
   ·rcases I.late l x hl kT with h1|⟨g,hg,h1,h2⟩
    ·exact .inl h1
    ·obtain⟨g',hg',h3,h4⟩:=GI hg
     exact .inr ⟨g',hg',by rw[h3];exact h1,by rw[h4];exact h2⟩
   ·simp only [Prod.mk.injEq] at h1
    obtain⟨rfl,rfl⟩:=h1
    rcases hkk with⟨h1,_⟩|⟨_,hm⟩
    ·omega
    ·rcases I.met _ (aU he f1) hm with h1|⟨g,hg,h1⟩|h1
     ·exact .inl h1
     ·obtain⟨g',hg',h3,h4⟩:=GI hg
      exact .inr ⟨g',hg',by rw[h3];exact h1,by rw[h4,hll];exact I.chain.old g hg⟩
     ·exact absurd h1 kT
  k4:=fun x k' hx=>by
   rcases List.mem_append.1 hx with hx|hx
   ·exact I.k4 x k' hx
   ·simp only [List.mem_singleton,Prod.mk.injEq] at hx
    omega }
theorem dZ.opens{r:Nat}{st:List Fr}{d:Nat}{out:List (Nat × Nat)}(I:dZ n S aC root r st d out)(hd:¬ gZ S root r st)
  (hk:∀ f rest,st=f :: rest→f.k+1<per S f.a)(hm:dB aC root out (aC (mt d))=false) :
  dZ n S aC root (jH r st) (⟨S (mt d),0,out.length⟩ :: fM st) (S (mt d)) (out ++ [(d,0)]):=by
 obtain⟨f1,f2,f3⟩:=I.fresh h hr hd
 obtain⟨b1,b2,b3,b4,b5,b6,b7,b8,b9⟩:=I.bump h hr hd 0 hk
 have hmn:=aU he f1
 have hsn:=h.lt _ hmn
 have hsame:aH S (S (mt d)) (mt d):=h.bF hmn (aH.step S _)
 have hps:=h.yY hmn (aH.step S (mt d))
 have hp0:=(h.aZ hmn).1
 have JG:aC (S (mt d))=aC (mt d):=(hv _ _ hsn hmn).2 hsame
 have hun:∀ x,aH S (S (mt d)) x→x<n→¬ vis out x:=by
  intro x hx hxn
  refine I.jY x hxn ?_
  rw[← (hv _ x hsn hxn).2 hx,JG];exact hm
 have zi:=I.uz hv hr f1
 have hmd:¬ aH S (S (mt d)) d:=fun hs=>by
  rw[← (hv _ d hsn f1).2 hs,JG,hm] at zi;cases zi
 have hnf:∀ g ∈ st,g.a<n→¬ aH S (S (mt d)) g.a:=by
  intro g hg hgn hs
  have h1:=I.qI g hg
  rw[← (hv _ g.a hsn hgn).2 hs,JG,hm] at h1;cases h1
 have sI:bg S (per S (S (mt d)) - 1) (S (mt d))=mt d:=by
  rw[hps,← qim,Nat.sub_add_cancel hp0];exact (h.aZ hmn).2.2.1
 exact {
  cur:=rfl
  Ei:=b1
  chain:=⟨⟨hsn,by rw[hps];exact hp0,qiy r st,by rw[sI,ZR,← I.cur],by rw[ZR,← I.cur];simp⟩,b2⟩
  nd:=b3
  conn:=b4
  pq:=fun g hg i hi=>by
   rcases List.mem_cons.1 hg with rfl|hg
   ·show vis _ (bg S i (S (mt d)))↔i<0
    rw[kM]
    constructor
    ·rintro (h1|h1)
     ·exact absurd h1 (hun _ ⟨i,rfl⟩ (h.bV hsn i))
     ·exact absurd ⟨i,h1⟩ hmd
    ·omega
   ·exact b5 g hg i hi
  pz:=b6
  apart:=List.pairwise_cons.2 ⟨fun g hg=>by
   obtain⟨g',hg',h1,_⟩:=LM hg
   show ¬ aH S (S (mt d)) g.a
   rw[← h1]
   exact hnf g' hg' (I.chain.lt g' hg').1,b7⟩
  jh:=fun g hg=>by
   rcases List.mem_cons.1 hg with rfl|hg
   ·show ¬ aH S (S (mt d)) root
    intro hs
    have:aC root=aC (mt d):=by rw[← JG];exact ((hv _ root hsn hr).2 hs).symm
    unfold dB at hm
    rw[← this] at hm
    simp at hm
   ·exact b8 g hg
  qI:=fun g hg=>by
   rcases List.mem_cons.1 hg with rfl|hg
   ·exact yw.2 (.inr ⟨rfl,JG.symm⟩)
   ·exact b9 g hg
  met:=fun x hx hm1=>by
   rcases yw.1 hm1 with hm1|⟨_,h1⟩
   ·rcases I.met x hx hm1 with h1|⟨g,hg,h1⟩|h1
    ·exact .inl h1
    ·obtain⟨g',hg',h2,_⟩:=GI hg
     exact .inr (.inl ⟨g',by simp[hg'],by rw[h2];exact h1⟩)
    ·exact .inr (.inr (kM.2 (.inl h1)))
   ·exact .inr (.inl ⟨⟨S (mt d),0,out.length⟩,by simp,(hv _ x hsn hx).1 (JG.trans h1)⟩)
  jY:=fun x hx hm1 GJ=>by
   have hm0:dB aC root out (aC x)=false:=by
    cases hb:dB aC root out (aC x)
    ·rfl
    ·rw[yw.2 (.inl hb)] at hm1;cases hm1
   rcases kM.1 GJ with h1|rfl
   ·exact I.jY x hx hm0 h1
   ·rw[zi] at hm0;cases hm0
  half:=fun x k' hx nJ=>by
   have kT:¬ vis out (mt x):=fun h1=>nJ (kM.2 (.inl h1))
   rcases List.mem_append.1 hx with hx|hx
   ·rcases I.half x k' hx kT with⟨h1,g,hg,h2⟩|h1
    ·obtain⟨g',hg',h3,_⟩:=GI hg
     exact .inl ⟨h1,g',by simp[hg'],by rw[h3];exact h2⟩
    ·exact .inr h1
   ·simp only [List.mem_singleton,Prod.mk.injEq] at hx
    obtain⟨rfl,rfl⟩:=hx
    exact .inl ⟨rfl,⟨S (mt x),0,out.length⟩,by simp,sI⟩
  late:=fun l x hl nJ=>by
   have kT:¬ vis out (mt x):=fun h1=>nJ (kM.2 (.inl h1))
   rcases Cj hl with hl|⟨hll,h1⟩
   ·rcases I.late l x hl kT with h1|⟨g,hg,h1,h2⟩
    ·exact .inl h1
    ·obtain⟨g',hg',h3,h4⟩:=GI hg
     exact .inr ⟨g',by simp[hg'],by rw[h3];exact h1,by rw[h4];exact h2⟩
   ·simp only [Prod.mk.injEq] at h1;omega
  k4:=fun x k' hx=>by
   rcases List.mem_append.1 hx with hx|hx
   ·exact I.k4 x k' hx
   ·simp only [List.mem_singleton,Prod.mk.injEq] at hx
    omega }
inductive pX (n:Nat) (S aC:Nat→Nat) (root r:Nat) (st:List Fr) (d:Nat) (out:List (Nat × Nat)):Nat→Nat→List Fr→Prop
 | close (f:Fr) (rest:List Fr):st=f :: rest→(mt d,0) ∈ out→pX n S aC root r st d out 1 r rest
 | right:(mt d,2) ∈ out→pX n S aC root r st d out 3 (jH r st) (fM st)
 | left:¬ vis out (mt d)→dB aC root out (aC (mt d))=true→pX n S aC root r st d out 2 (jH r st) (fM st)
 | opens:¬ vis out (mt d)→dB aC root out (aC (mt d))=false→pX n S aC root r st d out 0 (jH r st) (⟨S (mt d),0,out.length⟩ :: fM st)
theorem dZ.step{r:Nat}{st:List Fr}{d:Nat}{out:List (Nat × Nat)}(I:dZ n S aC root r st d out)(hd:¬ gZ S root r st) :
  ∃ r' st',pX n S aC root r st d out (bJ aC root out d) r' st'∧dZ n S aC root r' st' (S (if bJ aC root out d<2 then mt d else d)) (out ++ [(d,bJ aC root out d)]):=by
 obtain⟨f1,f2,f3⟩:=I.fresh h hr hd
 by_cases hcl:∃ f rest,st=f :: rest∧f.k+1=per S f.a
 ·obtain⟨f,rest,rfl,hk⟩:=hcl
  obtain⟨h1,h2,h3⟩:=I.close h hv hr hk
  have hkd:bJ aC root out d=1:=by
   unfold bJ
   rcases GH f3 with⟨k,hf,hm⟩|⟨_,hm⟩
   ·rw[hf]
    have:k=0:=by
     have hnd:=I.nd
     rw[List.Nodup,List.pairwise_map] at hnd
     apply Classical.byContradiction
     intro hk0
     have key:∀ l:List (Nat × Nat),l.Pairwise (fun a b=>a.1≠b.1)→(mt d,k) ∈ l→(mt d,0) ∈ l→False:=by
      intro l
      induction l with
      | nil=>intro _ h;cases h
      | cons p l ih =>
       intro hp ha hb
       rw[List.pairwise_cons] at hp
       rcases List.mem_cons.1 ha with ha|ha
       ·rcases List.mem_cons.1 hb with hb|hb
        ·rw[← ha] at hb;simp only [Prod.mk.injEq,true_and] at hb;exact hk0 hb.symm
        ·exact hp.1 _ hb (by rw[← ha])
       ·rcases List.mem_cons.1 hb with hb|hb
        ·exact hp.1 _ ha (by rw[← hb])
        ·exact ih hp.2 ha hb
     exact key out hnd hm h2
    rw[this]
   ·exact absurd ⟨0,h2⟩ hm
  rw[hkd]
  exact⟨r,rest,.close f rest rfl h2,by simpa using h3⟩
 ·have hk:∀ f rest,st=f :: rest→f.k+1<per S f.a:=by
   rintro f rest rfl
   have:=I.chain.1.2.1
   have:f.k+1≠per S f.a:=fun e=>hcl ⟨f,rest,rfl,e⟩
   omega
  rcases GH f3 with⟨k,hf,hm⟩|⟨hf,hm⟩
  ·have hk2:k=2:=by
    rcases I.half _ _ hm (by rw[bD];exact f3) with⟨_,g,hg,h2⟩|h1
    ·exfalso
     rw[bD] at h2
     cases st with
     | nil=>cases hg
     | cons f rest =>
      rcases List.mem_cons.1 hg with rfl|hg
      ·have hcur:d=bg S g.k g.a:=I.cur
       rw[hcur] at h2
       have hg1:=I.chain.1
       have:=h.lH hg1.1 (by omega) hg1.2.1 h2
       have:=hk g rest rfl
       omega
      ·refine (List.pairwise_cons.1 I.apart).1 g hg ?_
       have hgn:=(I.chain.2.lt g hg).1
       exact (I.nI rfl).trans (h.bF hgn ⟨_,h2⟩)
    ·exact h1
   subst hk2
   have hkd:bJ aC root out d=3:=by unfold bJ;rw[hf]
   rw[hkd]
   exact⟨_,_,.right hm,by simpa using I.pass h he hv hr hd 3 hk (.inl ⟨rfl,2,hm⟩)⟩
  ·cases hmet:dB aC root out (aC (mt d))
   ·have hkd:bJ aC root out d=0:=by unfold bJ;rw[hf];simp[hmet]
    rw[hkd]
    exact⟨_,_,.opens hm hmet,by simpa using I.opens h he hv hr hd hk hmet⟩
   ·have hkd:bJ aC root out d=2:=by unfold bJ;rw[hf];simp[hmet]
    rw[hkd]
    exact⟨_,_,.left hm hmet,by simpa using I.pass h he hv hr hd 2 hk (.inr ⟨rfl,hmet⟩)⟩
omit hv he in
theorem dZ.all{r:Nat}{st:List Fr}{d:Nat}{out:List (Nat × Nat)}(I:dZ n S aC root r st d out)(hd:gZ S root r st)
  (Bd:∀ x,x<n→aC (S x)=aC x){x:Nat}(hx:aJ n S root x):vis out x:=by
 obtain⟨rfl,rfl⟩:=hd
 have hroot:∀ y,aH S root y→vis out y:=by
  intro y hy
  obtain⟨i,hi,rfl⟩:=h.jW hr hy
  exact (I.pz i hi).2 hi
 refine hx (vis out) (hroot root (aH.refl S root)) (fun z hz hP=>⟨?_,?_⟩)
 ·have hm:dB aC root out (aC (S z))=true:=by
   cases hb:dB aC root out (aC (S z))
   ·rw[Bd z hz] at hb
    exact absurd hP (I.jY z hz hb)
   ·rfl
  rcases I.met (S z) (h.lt z hz) hm with h1|⟨g,hg,_⟩|h1
  ·exact hroot _ h1
  ·cases hg
  ·exact h1
 ·apply Classical.byContradiction
  intro hn
  obtain⟨k,hk⟩:=hP
  rcases I.half z k hk hn with⟨_,g,hg,_⟩|h2
  ·cases hg
  ·subst h2
   obtain⟨l,hl,hl2⟩:=List.mem_iff_getElem.1 hk
   rcases I.late l z (by rw[List.getElem?_eq_getElem hl,hl2]) hn with h1|⟨g,hg,_⟩
   ·exact hn (hroot _ h1)
   ·cases hg
omit h he hv hr in
theorem dZ.len{r:Nat}{st:List Fr}{d:Nat}{out:List (Nat × Nat)}(I:dZ n S aC root r st d out):out.length≤n:=by
 have:=QA n _ I.nd (fun x hx=>(I.conn x (JF.2 hx)).1)
 simpa using this
theorem ZT:∀ m j r st,n≤j+m→dZ n S aC root r st (aX S aC root j).1 (aX S aC root j).2→(∀ i,i<j→∃ r st,dZ n S aC root r st (aX S aC root i).1 (aX S aC root i).2∧¬ gZ S root r st) →
  ∃ T r,dZ n S aC root r [] (aX S aC root T).1 (aX S aC root T).2∧gZ S root r []∧∀ i,i<T→∃ r st,dZ n S aC root r st (aX S aC root i).1 (aX S aC root i).2∧¬ gZ S root r st:=by
 intro m
 induction m with
 | zero =>
  intro j r st hm I hall
  by_cases hd:gZ S root r st
  ·obtain⟨rfl,h2⟩:=id hd
   exact⟨j,r,I,hd,hall⟩
  ·exfalso
   obtain⟨r',st',_,I'⟩:=I.step h he hv hr hd
   have:=I'.len
   rw[List.length_append,rO] at this
   simp at this
   omega
 | succ m ih =>
  intro j r st hm I hall
  by_cases hd:gZ S root r st
  ·obtain⟨rfl,h2⟩:=id hd
   exact⟨j,r,I,hd,hall⟩
  ·obtain⟨r',st',_,I'⟩:=I.step h he hv hr hd
   refine ih (j+1) r' st' (by omega) I' (fun i hi=>?_)
   rcases Nat.lt_or_ge i j with hlt|hge
   ·exact hall i hlt
   ·obtain rfl:i=j:=by omega
    exact⟨r,st,I,hd⟩
end
end
section
def DD(ks:List Nat)(p:Nat):Int:=(aW (ks.take p) 0:Int) - aW (ks.take p) 1
def BB(ks:List Nat)(p:Nat):Int:=(aW (ks.take p) 2:Int) - aW (ks.take p) 3
def dd(k:Nat):Int:=if k=0 then 1 else if k=1 then -1 else 0
def bb(k:Nat):Int:=if k=2 then 1 else if k=3 then -1 else 0
theorem JH(ks:List Nat):DD ks 0=0:=by simp[DD,aW]
theorem UY(ks:List Nat):BB ks 0=0:=by simp[BB,aW]
theorem yx{ks:List Nat}{i k:Nat}(h:ks[i]? = some k):DD ks (i+1)=DD ks i+dd k:=by
 unfold DD dd
 rw[yj h 0,yj h 1]
 by_cases h0:k=0
 ·subst h0;simp;omega
 ·by_cases h1:k=1
  ·subst h1;simp;omega
  ·simp[h0,h1]
theorem qb{ks:List Nat}{i k:Nat}(h:ks[i]? = some k):BB ks (i+1)=BB ks i+bb k:=by
 unfold BB bb
 rw[yj h 2,yj h 3]
 by_cases h0:k=2
 ·subst h0;simp;omega
 ·by_cases h1:k=3
  ·subst h1;simp;omega
  ·simp[h0,h1]
theorem Cm{ks:List Nat}{k p:Nat}(hp:p≤ks.length):DD (ks ++ [k]) p=DD ks p:=by
 unfold DD;rw[List.take_append_of_le_length hp]
theorem Bf{ks:List Nat}{k p:Nat}(hp:p≤ks.length):BB (ks ++ [k]) p=BB ks p:=by
 unfold BB;rw[List.take_append_of_le_length hp]
theorem Em(ks:List Nat)(k:Nat):DD (ks ++ [k]) (ks.length+1)=DD ks ks.length+dd k:=by
 rw[yx (k:=k) (by simp),Cm (Nat.le_refl _)]
theorem CB(ks:List Nat)(k:Nat):BB (ks ++ [k]) (ks.length+1)=BB ks ks.length+bb k:=by
 rw[qb (k:=k) (by simp),Bf (Nat.le_refl _)]
structure OwnAt (ks:List Nat)(i o:Nat):Prop where
 lt:o<i
 opens:ks[o]? = some 0
 hit:DD ks o+1=DD ks i
 above:∀ p,o<p→p≤i→DD ks o<DD ks p
theorem OwnAt.unique{ks:List Nat}{i o q:Nat}(h:OwnAt ks i o)(k:OwnAt ks i q):o=q:=by
 rcases Nat.lt_trichotomy o q with hlt|rfl|hlt
 ·have:=h.above q hlt (Nat.le_of_lt k.lt);have:=h.hit;have:=k.hit;omega
 ·rfl
 ·have:=k.above o hlt (Nat.le_of_lt h.lt);have:=h.hit;have:=k.hit;omega
theorem OwnAt.old{ks:List Nat}{k i o:Nat}(hi:i≤ks.length)(h:OwnAt (ks ++ [k]) i o):OwnAt ks i o:=by
 obtain⟨h1,h2,h3,h4⟩:=h
 rw[List.getElem?_append_left (by omega)] at h2
 rw[Cm (by omega),Cm hi] at h3
 refine⟨h1,h2,h3,fun p hp1 hp2=>?_⟩
 have:=h4 p hp1 hp2
 rwa [Cm (by omega),Cm (by omega)] at this
structure qJ (ks:List Nat):Prop where
 k4:∀ k ∈ ks,k<4
 jZ:∀ p,p≤ks.length→0≤DD ks p
 bpos:∀ p,p≤ks.length→0≤BB ks p
 right:∀ i,ks[i]? = some 3→∀ o,OwnAt ks i o→BB ks (o+1)<BB ks i
structure bZ (ks:List Nat):Prop extends qJ ks where
 lI:DD ks ks.length=0
 pE:BB ks ks.length=0
theorem qJ.nil:qJ []:=⟨(fun k h=>by cases h),fun p h=>by
 obtain rfl:p=0:=by simpa using h
 rw[JH];omega,fun p h=>by
 obtain rfl:p=0:=by simpa using h
 rw[UY];omega,fun i h=>by simp at h⟩
theorem qJ.snoc{ks:List Nat}{k:Nat}(h:qJ ks)(hk:k<4)(hd:0≤DD ks ks.length+dd k)(hb:0≤BB ks ks.length+bb k)
  (hr:k=3→∀ o,OwnAt (ks ++ [k]) ks.length o→BB ks (o+1)<BB ks ks.length):qJ (ks ++ [k]) where
 k4:=fun x hx=>by
  rcases List.mem_append.1 hx with hx|hx
  ·exact h.k4 x hx
  ·simp only [List.mem_singleton] at hx;omega
 jZ:=fun p hp=>by
  rcases Nat.lt_or_ge p (ks.length+1) with hlt|hge
  ·rw[Cm (by omega)];exact h.jZ p (by omega)
  ·obtain rfl:p=ks.length+1:=by simp at hp;omega
   rw[Em];exact hd
 bpos:=fun p hp=>by
  rcases Nat.lt_or_ge p (ks.length+1) with hlt|hge
  ·rw[Bf (by omega)];exact h.bpos p (by omega)
  ·obtain rfl:p=ks.length+1:=by simp at hp;omega
   rw[CB];exact hb
 right:=fun i hi o ho=>by
  rcases Cj hi with hi|⟨rfl,h3⟩
  ·have hil:=fK hi
   have ho':=ho.old (by omega)
   have:=ho'.lt
   rw[Bf (by omega),Bf (by omega)]
   exact h.right i hi o ho'
  ·have:=ho.lt
   rw[Bf (by omega),Bf (Nat.le_refl _)]
   exact hr h3.symm o ho
def ig(ks:List Nat):List Fr→Prop
 | []=>True
 | f :: rest=>(ks[f.o]? = some 0∧DD ks f.o=rest.length∧∀ p,f.o<p→p≤ks.length→(rest.length:Int)<DD ks p)∧ig ks rest
theorem ig.snoc{ks:List Nat}{k:Nat}:∀ {st:List Fr},ig ks st→(st.length:Int)≤DD ks ks.length+dd k→ig (ks ++ [k]) st
 | [],_,_=>trivial
 | f :: rest,⟨⟨h1,h2,h3⟩,h4⟩,hd=>by
  have hlt:=fK h1
  refine⟨⟨by rw[List.getElem?_append_left hlt];exact h1,by rw[Cm (by omega)];exact h2,fun p hp1 hp2=>?_⟩,h4.snoc (by simp only [List.length_cons] at hd;omega)⟩
  rcases Nat.lt_or_ge p (ks.length+1) with h5|h5
  ·rw[Cm (by omega)];exact h3 p hp1 (by omega)
  ·obtain rfl:p=ks.length+1:=by simp at hp2;omega
   rw[Em]
   simp only [List.length_cons] at hd
   omega
theorem ig.bump{ks:List Nat}{st:List Fr}(h:ig ks st):ig ks (fM st):=by cases st <;> exact h
theorem qop{out:List (Nat × Nat)}(h:(out.map Prod.fst).Nodup){x a b:Nat}(ha:(x,a) ∈ out)(hb:(x,b) ∈ out):a=b:=by
 induction out with
 | nil=>cases ha
 | cons p out ih =>
  rw[List.map_cons,List.nodup_cons] at h
  rcases List.mem_cons.1 ha with ha|ha
  ·rcases List.mem_cons.1 hb with hb|hb
   ·rw[← ha] at hb;simp only [Prod.mk.injEq,true_and] at hb;exact hb.symm
   ·exact absurd (List.mem_map.2 ⟨_,hb,by rw[← ha]⟩) h.1
  ·rcases List.mem_cons.1 hb with hb|hb
   ·exact absurd (List.mem_map.2 ⟨_,ha,by rw[← hb]⟩) h.1
   ·exact ih h.2 ha hb
theorem qoq{out:List (Nat × Nat)}(h:(out.map Prod.fst).Nodup){i j x a b:Nat}(ha:out[i]? = some (x,a))(hb:out[j]? = some (x,b)):i=j:=by
 have hi:=fK ha
 have hj:=fK hb
 rw[List.getElem?_eq_getElem hi] at ha
 rw[List.getElem?_eq_getElem hj] at hb
 simp only [Option.some.injEq] at ha hb
 rw[List.Nodup,List.pairwise_iff_getElem] at h
 rcases Nat.lt_trichotomy i j with hlt|rfl|hlt
 ·exact absurd (by rw[List.getElem_map,List.getElem_map,ha,hb]) (h i j (by simpa using hi) (by simpa using hj) hlt)
 ·rfl
 ·exact absurd (by rw[List.getElem_map,List.getElem_map,ha,hb]) (h j i (by simpa using hj) (by simpa using hi) hlt)
def gq(out:List (Nat × Nat)):List Nat:=out.map Prod.snd
theorem GL(out:List (Nat × Nat)):(gq out).length=out.length:=by simp[gq]
theorem pF(out:List (Nat × Nat))(d k:Nat):gq (out ++ [(d,k)])=gq out ++ [k]:=by simp[gq]
structure sJ (out:List (Nat × Nat))(st:List Fr)(pend:List Nat):Prop where
 pre:qJ (gq out)
 dep:DD (gq out) out.length=st.length
 own:ig (gq out) st
 ord:st.Pairwise (fun f g=>g.o<f.o)
 brk:BB (gq out) out.length=pend.length
 CF:pend.Nodup
 ng:∀ l,l ∈ pend↔∃ x,out[l]? = some (x,2)∧¬ vis out (mt x)
 CG:∀ f ∈ st,BB (gq out) out.length - BB (gq out) (f.o+1)=(pend.filter fun l=>decide (f.o<l)).length
theorem ZU:sJ [] [] []:=⟨qJ.nil,JH _,trivial,List.Pairwise.nil,UY _,List.nodup_nil,fun l=>⟨fun h=>(by cases h),fun ⟨x,h,_⟩=>(by simp at h)⟩,fun f h=>(by cases h)⟩
theorem ZV{out:List (Nat × Nat)}{pend:List Nat}{d k:Nat}(hp:∀ l,l ∈ pend↔∃ x,out[l]? = some (x,2)∧¬ vis out (mt x))(hk:k≠2)(hm:(mt d,2) ∉ out) :
  ∀ l,l ∈ pend↔∃ x,(out ++ [(d,k)])[l]? = some (x,2)∧¬ vis (out ++ [(d,k)]) (mt x):=by
 intro l
 rw[hp l]
 constructor
 ·rintro⟨x,h1,h2⟩
  refine⟨x,by rw[List.getElem?_append_left (fK h1)];exact h1,fun hv=>?_⟩
  rcases kM.1 hv with hv|hv
  ·exact h2 hv
  ·refine hm ?_
   rw[← hv,bD]
   exact List.mem_of_getElem? h1
 ·rintro⟨x,h1,h2⟩
  rcases Cj h1 with h1|⟨_,h3⟩
  ·exact⟨x,h1,fun hv=>h2 (kM.2 (.inl hv))⟩
  ·simp only [Prod.mk.injEq] at h3
   exact absurd h3.2.symm hk
theorem q7s{l:List Nat}{x:Nat}(p:Nat→Bool)(hx:x ∈ l)(hp:p x=true):(l.filter p).length=((l.erase x).filter p).length+1:=by
 induction l with
 | nil=>cases hx
 | cons y l ih =>
  by_cases hy:y=x
  ·subst hy
   rw[List.erase_cons_head,List.filter_cons,if_pos hp]
   rfl
  ·have hx':x ∈ l:=by
    rcases List.mem_cons.1 hx with h|h
    ·exact absurd h.symm hy
    ·exact h
   rw[List.erase_cons_tail (by simpa using hy),List.filter_cons,List.filter_cons]
   split
   ·simp only [List.length_cons,ih hx']
   ·exact ih hx'
section
variable {n:Nat} {S aC:Nat→Nat} (h:aM n S) {root:Nat} (hr:root<n)
include h hr
theorem sJ.step{r:Nat}{st:List Fr}{d:Nat}{out:List (Nat × Nat)}{pend:List Nat}(W:sJ out st pend)(I:dZ n S aC root r st d out)(hf:¬ vis out d)
  {k r':Nat}{st':List Fr}(hs:pX n S aC root r st d out k r' st'):∃ sK,sJ (out ++ [(d,k)]) st' sK:=by
 have hl:(gq out).length=out.length:=GL out
 have hll:(out ++ [(d,k)]).length=(gq out).length+1:=by simp[hl]
 have sM:=W.dep
 have UZ:=W.brk
 rw[← hl] at sM UZ
 cases hs with
 | close f rest hst hm =>
  subst hst
  have hnm:(mt d,2) ∉ out:=fun e=>by have:=qop I.nd hm e;omega
  have hdd:dd 1=-1:=rfl
  have hbb:bb 1=0:=rfl
  simp only [List.length_cons] at sM
  refine⟨pend,?_⟩
  exact {
   pre:=by rw[pF];exact W.pre.snoc (by omega) (by rw[hdd];omega) (by rw[hbb];omega) (fun e=>by omega)
   dep:=by rw[hll,pF,Em,hdd];omega
   own:=by rw[pF];exact W.own.2.snoc (by rw[hdd];omega)
   ord:=(List.pairwise_cons.1 W.ord).2
   brk:=by rw[hll,pF,CB,hbb];omega
   CF:=W.CF
   ng:=ZV W.ng (by omega) hnm
   CG:=fun g hg=>by
    have hgo:=I.chain.old g (by simp[hg])
    have:=W.CG g (by simp[hg])
    rw[hll,pF,CB,hbb,Bf (by omega),hl]
    omega }
 | right hm =>
  obtain⟨l0,hl0,U0⟩:=List.mem_iff_getElem.1 hm
  have hg0:out[l0]? = some (mt d,2):=by rw[List.getElem?_eq_getElem hl0,U0]
  have hp0:l0 ∈ pend:=(W.ng l0).2 ⟨mt d,hg0,by rw[bD];exact hf⟩
  have hpl:=List.length_pos_of_mem hp0
  have hdd:dd 3=0:=rfl
  have hbb:bb 3=-1:=rfl
  have hafter:∀ f ∈ st,f.o<l0:=by
   rcases I.late l0 (mt d) hg0 (by rw[bD];exact hf) with h1|⟨g,hg,h1,h2⟩
   ·rw[bD] at h1
    cases st with
    | nil=>intro f hf;cases hf
    | cons f rest =>
     exfalso
     exact I.jh f (by simp) ((I.nI rfl).trans (h.bF hr h1))
   ·rw[bD] at h1
    cases st with
    | nil=>cases hg
    | cons f rest =>
     have hgf:g=f:=by
      rcases List.mem_cons.1 hg with rfl|hg
      ·rfl
      ·exfalso
       have hgn:=(I.chain.2.lt g hg).1
       exact (List.pairwise_cons.1 I.apart).1 g hg ((I.nI rfl).trans (h.bF hgn h1))
     subst hgf
     intro f hf
     rcases List.mem_cons.1 hf with rfl|hf
     ·exact h2
     ·have:=(List.pairwise_cons.1 W.ord).1 f hf;omega
  have hel:(pend.erase l0).length=pend.length - 1:=List.length_erase_of_mem hp0
  refine⟨pend.erase l0,?_⟩
  exact {
   pre:=by
    rw[pF]
    refine W.pre.snoc (by omega) (by rw[hdd];omega) (by rw[hbb];omega) (fun _ o ho=>?_)
    have ho:=ho.old (Nat.le_refl _)
    cases st with
    | nil =>
     have h1:=ho.hit
     have h2:=W.pre.jZ o (by have:=ho.lt;omega)
     simp only [List.length_nil] at sM
     omega
    | cons f rest =>
     obtain⟨⟨o1,o2,o3⟩,_⟩:=W.own
     have hfo:OwnAt (gq out) (gq out).length f.o:=⟨fK o1,o1,by simp only [List.length_cons] at sM;omega,fun p hp1 hp2=>by have:=o3 p hp1 hp2;omega⟩
     obtain rfl:=ho.unique hfo
     have h1:=W.CG f (by simp)
     have h2:0<(pend.filter fun l=>decide (f.o<l)).length:=List.length_pos_of_mem (List.mem_filter.2 ⟨hp0,by simpa using hafter f (by simp)⟩)
     rw[hl]
     omega
   dep:=by rw[hll,pF,Em,hdd,Ej];omega
   own:=by rw[pF];exact (W.own.bump).snoc (by rw[hdd,Ej];omega)
   ord:=by
    have:=W.ord
    cases st with
    | nil=>exact this
    | cons f rest=>exact List.pairwise_cons.2 ⟨fun g hg=>(List.pairwise_cons.1 this).1 g hg,(List.pairwise_cons.1 this).2⟩
   brk:=by rw[hll,pF,CB,hbb];omega
   CF:=W.CF.erase l0
   ng:=fun l=>by
    rw[W.CF.mem_erase_iff,W.ng l]
    constructor
    ·rintro⟨hne,x,h1,h2⟩
     refine⟨x,by rw[List.getElem?_append_left (fK h1)];exact h1,fun hv=>?_⟩
     rcases kM.1 hv with hv|hv
     ·exact h2 hv
     ·have hx:x=mt d:=by rw[← hv,bD]
      subst hx
      exact hne (qoq I.nd h1 hg0)
    ·rintro⟨x,h1,h2⟩
     rcases Cj h1 with h1|⟨_,h3⟩
     ·refine⟨?_,x,h1,fun hv=>h2 (kM.2 (.inl hv))⟩
      rintro rfl
      rw[hg0] at h1
      simp only [Option.some.injEq,Prod.mk.injEq] at h1
      refine h2 (kM.2 (.inr ?_))
      rw[← h1.1,bD]
     ·simp only [Prod.mk.injEq] at h3;omega
   CG:=fun g hg=>by
    obtain⟨f,hf,_,hfo⟩:=LM hg
    rw[← hfo]
    have hgo:=I.chain.old f hf
    have h1:=W.CG f hf
    have h2:=q7s (fun l=>decide (f.o<l)) hp0 (by simpa using hafter f hf)
    rw[hll,pF,CB,hbb,Bf (by omega),hl]
    omega }
 | left hm hmet =>
  have hdd:dd 2=0:=rfl
  have hbb:bb 2=1:=rfl
  have hnl:out.length ∉ pend:=fun e=>by
   obtain⟨x,h1,_⟩:=(W.ng _).1 e
   have:=fK h1;omega
  refine⟨out.length :: pend,?_⟩
  exact {
   pre:=by rw[pF];exact W.pre.snoc (by omega) (by rw[hdd];omega) (by rw[hbb];omega) (fun e=>by omega)
   dep:=by rw[hll,pF,Em,hdd,Ej];omega
   own:=by rw[pF];exact (W.own.bump).snoc (by rw[hdd,Ej];omega)
   ord:=by
    have:=W.ord
    cases st with
    | nil=>exact this
    | cons f rest=>exact List.pairwise_cons.2 ⟨fun g hg=>(List.pairwise_cons.1 this).1 g hg,(List.pairwise_cons.1 this).2⟩
   brk:=by rw[hll,pF,CB,hbb,List.length_cons];omega
   CF:=List.nodup_cons.2 ⟨hnl,W.CF⟩
   ng:=fun l=>by
    rw[List.mem_cons,W.ng l]
    constructor
    ·rintro (rfl|⟨x,h1,h2⟩)
     ·refine⟨d,by simp,fun hv=>?_⟩
      rcases kM.1 hv with hv|hv
      ·exact hm hv
      ·exact y5 d hv
     ·refine⟨x,by rw[List.getElem?_append_left (fK h1)];exact h1,fun hv=>?_⟩
      rcases kM.1 hv with hv|hv
      ·exact h2 hv
      ·refine hm ?_
       rw[← hv,bD]
       exact⟨2,List.mem_of_getElem? h1⟩
    ·rintro⟨x,h1,h2⟩
     rcases Cj h1 with h1|⟨h3,_⟩
     ·exact .inr ⟨x,h1,fun hv=>h2 (kM.2 (.inl hv))⟩
     ·exact .inl h3
   CG:=fun g hg=>by
    obtain⟨f,hf,_,hfo⟩:=LM hg
    rw[← hfo]
    have hgo:=I.chain.old f hf
    have h1:=W.CG f hf
    rw[hll,pF,CB,hbb,Bf (by omega),hl,List.filter_cons,if_pos (by simpa using hgo),List.length_cons]
    omega }
 | opens hm hmet =>
  have hdd:dd 0=1:=rfl
  have hbb:bb 0=0:=rfl
  have hnm:(mt d,2) ∉ out:=fun e=>hm ⟨2,e⟩
  refine⟨pend,?_⟩
  have hpre:qJ (gq out ++ [0]):=W.pre.snoc (by omega) (by rw[hdd];omega) (by rw[hbb];omega) (fun e=>by omega)
  exact {
   pre:=by rw[pF];exact hpre
   dep:=by rw[hll,pF,Em,hdd,List.length_cons,Ej];omega
   own:=by
    rw[pF]
    refine⟨⟨by simp[← hl],?_,fun p hp1 hp2=>?_⟩,(W.own.bump).snoc (by rw[hdd,Ej];omega)⟩
    ·show DD _ out.length=_
     rw[← hl,Cm (Nat.le_refl _),Ej];exact sM
    ·have hp1':out.length<p:=hp1
     obtain rfl:p=(gq out).length+1:=by simp[hl] at hp2;omega
     rw[Em,hdd,Ej];omega
   ord:=by
    refine List.pairwise_cons.2 ⟨fun g hg=>?_,?_⟩
    ·obtain⟨f,hf,_,hfo⟩:=LM hg
     have:=I.chain.old f hf
     show g.o<out.length
     omega
    ·have:=W.ord
     cases st with
     | nil=>exact this
     | cons f rest=>exact List.pairwise_cons.2 ⟨fun g hg=>(List.pairwise_cons.1 this).1 g hg,(List.pairwise_cons.1 this).2⟩
   brk:=by rw[hll,pF,CB,hbb];omega
   CF:=W.CF
   ng:=ZV W.ng (by omega) hnm
   CG:=fun g hg=>by
    rcases List.mem_cons.1 hg with rfl|hg
    ·have hnil:(pend.filter fun l=>decide (out.length<l))=[]:=List.filter_eq_nil_iff.2 (fun l hl2=>by
      obtain⟨x,h1,_⟩:=(W.ng l).1 hl2
      have:=fK h1
      simp;omega)
     show BB _ _ - BB _ (out.length+1)=((pend.filter fun l=>decide (out.length<l)).length:Int)
     rw[hnil,hll,hl]
     simp
    ·obtain⟨f,hf,_,hfo⟩:=LM hg
     rw[← hfo]
     have hgo:=I.chain.old f hf
     have h1:=W.CG f hf
     rw[hll,pF,CB,hbb,Bf (by omega),hl]
     omega }
theorem sJ.done{r:Nat}{d:Nat}{out:List (Nat × Nat)}{pend:List Nat}(W:sJ out [] pend)(I:dZ n S aC root r [] d out)(hd:gZ S root r []):bZ (gq out):=by
 have hp:pend=[]:=by
  cases pend with
  | nil=>rfl
  | cons l pend =>
   exfalso
   obtain⟨x,h1,h2⟩:=(W.ng l).1 (by simp)
   rcases I.late l x h1 h2 with h3|⟨g,hg,_⟩
   ·obtain⟨i,hi,hix⟩:=h.jW hr h3
    refine h2 (hix ▸ (I.pz i hi).2 ?_)
    rw[hd.2];exact hi
   ·cases hg
 have h1:=W.dep
 have h2:=W.brk
 rw[hp] at h2
 rw[← GL] at h1 h2
 exact { W.pre with lI:=h1,pE:=h2 }
end
theorem dF{ks:List Nat}{p:Nat}(hp:p≤ks.length):ex (ownB 0 ks) (pr 0 ks p)=DD ks p:=(Zw (ks:=ks) 0 p hp).2
theorem fA{ks:List Nat}{p:Nat}(hp:p≤ks.length):ex (ownB 1 ks) (pr 1 ks p)=BB ks p:=(Zw (ks:=ks) 1 p hp).2
theorem ZW{ks:List Nat}{s p:Nat}(hp:p≤(ownB s ks).length):∃ q,q≤ks.length∧pr s ks q=p:=by
 rcases Nat.lt_or_ge p (ownB s ks).length with hlt|hge
 ·obtain⟨q,hq⟩:=UC (s:=s) (ks:=ks) hlt
  obtain⟨k,_,_,h3⟩:=id hq
  exact⟨q,Nat.le_of_lt hq.lt,h3⟩
 ·exact⟨ks.length,Nat.le_refl _,by rw[← y7];omega⟩
theorem bZ.bal{ks:List Nat}(h:bZ ks):iQ ks:=by
 refine⟨⟨?_,fun p hp=>?_⟩,⟨?_,fun p hp=>?_⟩⟩
 ·rw[y7,dF (Nat.le_refl _)];exact h.lI
 ·obtain⟨q,hq,rfl⟩:=ZW hp
  rw[dF hq];exact h.jZ q hq
 ·rw[y7,fA (Nat.le_refl _)];exact h.pE
 ·obtain⟨q,hq,rfl⟩:=ZW hp
  rw[fA hq];exact h.bpos q hq
theorem fC.own{ks:List Nat}{i n:Nat}(hi:i≤ks.length)(h:fC ks i (n:Nat)):OwnAt ks i n:=by
 rcases h with⟨_,h⟩|⟨h0,o,m,h1,h2,h3⟩
 ·omega
 ·obtain rfl:n=m:=by omega
  have hn:=h2.lt
  have hni:=(h2.cmp i).1 h1.lt
  obtain⟨k,hk,hks,hpr⟩:=id h2
  have hd:=dF (ks:=ks) (p:=n) (by omega)
  have hd1:=dF (ks:=ks) hi
  rw[hpr] at hd
  have hhit:=h1.hit
  have hup:ks[n]? = some 0:=by
   have hb:=h2.own hk
   have hs:=Gv 0 hk
   rw[if_pos hks,hpr] at hs
   have hab:=h1.above (o+1) (by omega) (by rw[← hs];exact Gw 0 ks hni)
   have hbit:=Zb (ownB 0 ks) (p:=o) h2.Lx (by omega)
   rw[List.getD_eq_getElem?_getD,hb.2,Option.getD_some] at hbit
   have:k % 2=0:=by simpa using hbit
   rw[hk];congr 1;omega
  refine⟨hni,hup,by omega,fun p hp1 hp2=>?_⟩
  have hp3:=(h2.cmp p).2 hp1
  have hab:=h1.above (pr 0 ks p) hp3 (Gw 0 ks hp2)
  rw[dF (show p≤ks.length by omega)] at hab
  omega
theorem bZ.check{ks:List Nat}(h:bZ ks){i m:Nat}{r:Int}(hi:ks[i]? = some 3)(hm:bK ks i m)(hr:fC ks i r):¬ (m:Int)<r:=by
 intro hlt
 have hil:=fK hi
 obtain⟨n,rfl⟩:=Int.eq_ofNat_of_zero_le (show 0≤r by omega)
 have ho:=hr.own (by omega)
 have hB:=h.right i hi n ho
 obtain⟨s,a,c,hs,h1,h2,h3⟩:=hm
 obtain⟨k,hk,hks,hpr⟩:=id h1
 rw[hi] at hk
 simp only [Option.some.injEq] at hk
 subst hk
 obtain rfl:s=1:=by omega
 have hb:=(h1.own hi).2
 have hp:bQ (ownB 1 ks) c a:=by
  rcases h3 with⟨h4,_⟩|⟨_,h5⟩
  ·rw[List.getD_eq_getElem?_getD,hb] at h4;simp at h4
  ·exact h5
 have hcl:=hp.closes.2
 have hhit:=hp.hit
 have h4:=(h2.cmp (n+1)).2 (by omega)
 have h5:=Gw 1 ks (show n+1≤i from ho.lt)
 rw[hpr] at h5
 have h6:=hp.above (pr 1 ks (n+1)) h4 h5
 have e1:=fA (ks:=ks) (p:=n+1) (by have:=ho.lt;omega)
 have e2:=fA (ks:=ks) (p:=i) (by omega)
 rw[hpr] at e2
 rw[e1] at h6
 omega
end
