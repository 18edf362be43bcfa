import Derived.Test.YtcfdpogegngplaaGreatZaPerm
import Derived.Test.YtcfdpogegngplaaGreatZaMixed
set_option maxRecDepth 100000
set_option maxHeartbeats 4000000
namespace Go.Proofs.YtcfdpogegngplaaGreat
section
def metB (vert:Nat→Nat) (root:Nat) (out:List (Nat × Nat)) (v:Nat):Bool:=v == vert root || out.any fun p=>p.2 == 0 && vert (mt p.1) == v
def kindB (vert:Nat→Nat) (root:Nat) (out:List (Nat × Nat)) (d:Nat):Nat :=
 match out.find? (fun p=>p.1 / 2 == d / 2) with
 | some p=>p.2+1
 | none=>if metB vert root out (vert (mt d)) then 2 else 0
def wstep (S vert:Nat→Nat) (root:Nat) (s:Nat × List (Nat × Nat)):Nat × List (Nat × Nat) :=
 (S (if kindB vert root s.2 s.1<2 then mt s.1 else s.1),s.2 ++ [(s.1,kindB vert root s.2 s.1)])
def wlk (S vert:Nat→Nat) (root:Nat):Nat→Nat × List (Nat × Nat)
 | 0=>(root,[])
 | j+1=>wstep S vert root (wlk S vert root j)
theorem q0c (S vert:Nat→Nat) (root j:Nat):(wlk S vert root j).2.length=j:=by
 induction j with
 | zero=>rfl
 | succ j ih=>simp[wlk,wstep,ih]
def vis (out:List (Nat × Nat)) (x:Nat):Prop:=∃ k,(x,k) ∈ out
theorem q09 {out:List (Nat × Nat)} {d k x:Nat}:vis (out ++ [(d,k)]) x↔vis out x∨x=d:=by
 constructor
 ·rintro⟨k',hk⟩
  rcases List.mem_append.1 hk with h|h
  ·exact .inl ⟨k',h⟩
  ·simp at h;exact .inr h.1
 ·rintro (⟨k',h⟩|rfl)
  ·exact⟨k',by simp[h]⟩
  ·exact⟨k,by simp⟩
theorem qat (x:Nat):¬ vis [] x:=by rintro⟨k,hk⟩;cases hk
theorem q6i {out:List (Nat × Nat)} {x:Nat}:vis out x↔x ∈ out.map Prod.fst:=by
 constructor
 ·rintro⟨k,hk⟩;exact List.mem_map.2 ⟨(x,k),hk,rfl⟩
 ·intro hx
  obtain⟨⟨y,k⟩,hk,rfl⟩:=List.mem_map.1 hx
  exact⟨k,hk⟩
theorem q15 {vert:Nat→Nat} {root d k v:Nat} {out:List (Nat × Nat)}:metB vert root (out ++ [(d,k)]) v=true↔metB vert root out v=true∨(k=0∧vert (mt d)=v):=by
 unfold metB
 rw[List.any_append]
 simp only [Bool.or_eq_true,List.any_cons,List.any_nil,Bool.or_false,Bool.and_eq_true,beq_iff_eq]
 exact or_assoc.symm
structure Fr where
 a:Nat
 k:Nat
 o:Nat
def topD (S:Nat→Nat) (root r:Nat):List Fr→Nat
 | []=>itr S r root
 | f :: _=>itr S f.k f.a
def lastD (S:Nat→Nat) (root r:Nat):List Fr→Nat
 | []=>itr S (r - 1) root
 | f :: _=>itr S (f.k - 1) f.a
def topK (r:Nat):List Fr→Nat
 | []=>r
 | f :: _=>f.k
def Chain (n:Nat) (S:Nat→Nat) (root r:Nat) (out:List (Nat × Nat)):List Fr→Prop
 | []=>True
 | f :: rest=>(f.a<n∧f.k<per S f.a∧1≤topK r rest∧itr S (per S f.a - 1) f.a=mt (lastD S root r rest)∧out[f.o]? = some (lastD S root r rest,0))∧Chain n S root r out rest
theorem Chain.append {n:Nat} {S:Nat→Nat} {root r:Nat} {out:List (Nat × Nat)} (p:Nat × Nat):∀ {st:List Fr},Chain n S root r out st→Chain n S root r (out ++ [p]) st
 | [],_=>trivial
 | _ :: _,⟨⟨h1,h2,h3,h4,h5⟩,h6⟩=>⟨⟨h1,h2,h3,h4,by rw[List.getElem?_append_left (q01 h5)];exact h5⟩,h6.append p⟩
theorem Chain.lt {n:Nat} {S:Nat→Nat} {root r:Nat} {out:List (Nat × Nat)}:∀ {st:List Fr},Chain n S root r out st→∀ f ∈ st,f.a<n∧f.k<per S f.a
 | [],_,f,hf=>by cases hf
 | g :: st,⟨h1,h2⟩,f,hf=>by
  rcases List.mem_cons.1 hf with rfl|hf
  ·exact⟨h1.1,h1.2.1⟩
  ·exact h2.lt f hf
theorem Chain.old {n:Nat} {S:Nat→Nat} {root r:Nat} {out:List (Nat × Nat)}:∀ {st:List Fr},Chain n S root r out st→∀ f ∈ st,f.o<out.length
 | [],_,f,hf=>by cases hf
 | g :: st,⟨h1,h2⟩,f,hf=>by
  rcases List.mem_cons.1 hf with rfl|hf
  ·exact q01 h1.2.2.2.2
  ·exact h2.old f hf
structure DInv (n:Nat) (S vert:Nat→Nat) (root r:Nat) (st:List Fr) (d:Nat) (out:List (Nat × Nat)):Prop where
 cur:d=topD S root r st
 rle:r≤per S root
 chain:Chain n S root r out st
 nd:(out.map Prod.fst).Nodup
 conn:∀ x,vis out x→x<n∧Conn n S root x
 fvis:∀ f ∈ st,∀ i,i<per S f.a→(vis out (itr S i f.a)↔i<f.k)
 rvis:∀ i,i<per S root→(vis out (itr S i root)↔i<r)
 apart:st.Pairwise (fun f g=>¬ SameO S f.a g.a)
 rapart:∀ f ∈ st,¬ SameO S f.a root
 fmet:∀ f ∈ st,metB vert root out (vert f.a)=true
 met:∀ x,x<n→metB vert root out (vert x)=true→SameO S root x∨(∃ f ∈ st,SameO S f.a x)∨vis out x
 unmet:∀ x,x<n→metB vert root out (vert x)=false→¬ vis out x
 half:∀ x k,(x,k) ∈ out→¬ vis out (mt x)→(k=0∧∃ f ∈ st,itr S (per S f.a - 1) f.a=mt x)∨k=2
 late:∀ l x,out[l]? = some (x,2)→¬ vis out (mt x)→SameO S root (mt x)∨∃ f ∈ st,SameO S f.a (mt x)∧f.o<l
 k4:∀ x k,(x,k) ∈ out→k<4
def DDone (S:Nat→Nat) (root r:Nat) (st:List Fr):Prop:=st=[]∧r=per S root
theorem q2u {out:List (Nat × Nat)} {d:Nat} (hd:¬ vis out d):(∃ k,out.find? (fun p=>p.1 / 2 == d / 2)=some (mt d,k)∧(mt d,k) ∈ out)∨(out.find? (fun p=>p.1 / 2 == d / 2)=none∧¬ vis out (mt d)):=by
 cases hf:out.find? (fun p=>p.1 / 2 == d / 2) with
 | none =>
  refine .inr ⟨rfl,?_⟩
  rintro⟨k,hk⟩
  have:=List.find?_eq_none.1 hf _ hk
  simp[qen] at this
 | some p =>
  obtain⟨x,k⟩:=p
  have h1:=List.find?_some hf
  have h2:=List.mem_of_find?_eq_some hf
  simp only [beq_iff_eq] at h1
  rcases qeo h1.symm with rfl|rfl
  ·exact absurd ⟨k,h2⟩ hd
  ·exact .inl ⟨k,rfl,h2⟩
def bumpS:List Fr→List Fr
 | []=>[]
 | f :: rest=>⟨f.a,f.k+1,f.o⟩ :: rest
def bumpR (r:Nat):List Fr→Nat
 | []=>r+1
 | _ :: _=>r
theorem ql4 (S:Nat→Nat) (root r:Nat) (st:List Fr):topD S root (bumpR r st) (bumpS st)=S (topD S root r st):=by cases st <;> rfl
theorem qbv (S:Nat→Nat) (root r:Nat) (st:List Fr):lastD S root (bumpR r st) (bumpS st)=topD S root r st:=by cases st <;> rfl
theorem qib (r:Nat) (st:List Fr):1≤topK (bumpR r st) (bumpS st):=by cases st <;> simp[topK,bumpR,bumpS]
theorem q1e (st:List Fr):(bumpS st).length=st.length:=by cases st <;> rfl
theorem q5p {st:List Fr} {g:Fr} (hg:g ∈ bumpS st):∃ f ∈ st,f.a=g.a∧f.o=g.o:=by
 cases st with
 | nil=>cases hg
 | cons f rest =>
  rcases List.mem_cons.1 hg with rfl|hg
  ·exact⟨f,by simp,rfl,rfl⟩
  ·exact⟨g,by simp[hg],rfl,rfl⟩
theorem q54 {st:List Fr} {f:Fr} (hf:f ∈ st):∃ g ∈ bumpS st,g.a=f.a∧g.o=f.o:=by
 cases st with
 | nil=>cases hf
 | cons f0 rest =>
  rcases List.mem_cons.1 hf with rfl|hf
  ·exact⟨⟨f.a,f.k+1,f.o⟩,by simp[bumpS],rfl,rfl⟩
  ·exact⟨f,by simp[bumpS,hf],rfl,rfl⟩
theorem q2i {α:Type} {l:List α} {x y:α} {i:Nat} (h:(l ++ [x])[i]? = some y):l[i]? = some y∨(i=l.length∧y=x):=by
 rcases Nat.lt_trichotomy i l.length with hlt|rfl|hlt
 ·rw[List.getElem?_append_left hlt] at h;exact .inl h
 ·rw[List.getElem?_append_right (Nat.le_refl _),Nat.sub_self] at h
  simp at h
  exact .inr ⟨rfl,h.symm⟩
 ·rw[List.getElem?_eq_none (by simp;omega)] at h;cases h
theorem q6j {l:List Nat} {x:Nat} (h:l.Nodup) (hx:x ∉ l):(l ++ [x]).Nodup:=by
 rw[List.Nodup,List.pairwise_append]
 exact⟨h,List.pairwise_singleton _ _,fun a ha b hb=>by
  simp only [List.mem_singleton] at hb
  rintro rfl
  exact hx (hb ▸ ha)⟩
section
variable {n:Nat} {S vert:Nat→Nat} (h:IsP n S) (he:n % 2=0) (hv:∀ x y,x<n→y<n→(vert x=vert y↔SameO S x y)) {root:Nat} (hr:root<n)
include h hr
omit h in
include hv in
theorem q5q:DInv n S vert root 0 [] root [] where
 cur:=rfl
 rle:=Nat.zero_le _
 chain:=trivial
 nd:=List.nodup_nil
 conn:=fun x hx=>absurd hx (qat x)
 fvis:=fun f hf=>by cases hf
 rvis:=fun i _=>⟨fun hx=>absurd hx (qat _),fun hi=>by omega⟩
 apart:=List.Pairwise.nil
 rapart:=fun f hf=>by cases hf
 fmet:=fun f hf=>by cases hf
 met:=fun x hx hm=>by
  have:vert root=vert x:=by
   have h1:(vert x == vert root || false)=true:=hm
   rw[Bool.or_false,beq_iff_eq] at h1
   exact h1.symm
  exact .inl ((hv root x hr hx).1 this)
 unmet:=fun x _ _=>qat x
 half:=fun x k hx=>by cases hx
 late:=fun l x hx=>by simp at hx
 k4:=fun x k hx=>by cases hx
include he
omit he hr in
theorem Chain.conn {r:Nat} {out:List (Nat × Nat)} (hc:∀ x,vis out x→x<n∧Conn n S root x):∀ {st:List Fr},Chain n S root r out st→∀ f ∈ st,Conn n S root f.a
 | [],_,f,hf=>by cases hf
 | g :: st,⟨⟨h1,h2,h3,h4,h5⟩,h6⟩,f,hf=>by
  rcases List.mem_cons.1 hf with rfl|hf
  ·obtain⟨k1,k2⟩:=hc _ ⟨0,List.mem_of_getElem? h5⟩
   have k3:=k2.trans (Conn.mate k1)
   rw[← h4] at k3
   have k4:=k3.trans (Conn.turn (h.itr_lt h1 _))
   have:S (itr S (per S f.a - 1) f.a)=f.a:=by
    have h0:=(h.per_spec h1).1
    have:itr S (per S f.a - 1+1) f.a=f.a:=by rw[Nat.sub_add_cancel h0];exact (h.per_spec h1).2.2.1
    exact this
   rwa [this] at k4
  ·exact Chain.conn hc h6 f hf
omit he in
theorem DInv.fresh {r:Nat} {st:List Fr} {d:Nat} {out:List (Nat × Nat)} (I:DInv n S vert root r st d out) (hd:¬ DDone S root r st):d<n∧Conn n S root d∧¬ vis out d:=by
 cases st with
 | nil =>
  have hlt:r<per S root:=by
   have:=I.rle
   have:r≠per S root:=fun e=>hd ⟨rfl,e⟩
   omega
  rw[I.cur]
  exact⟨h.itr_lt hr r,h.conn_same hr ⟨r,rfl⟩,fun hvis=>by have:=(I.rvis r hlt).1 hvis;omega⟩
 | cons f rest =>
  obtain⟨h1,h2,h3,h4,h5⟩:=I.chain.1
  rw[I.cur]
  exact⟨h.itr_lt h1 f.k,(I.chain.conn h I.conn f (by simp)).trans (h.conn_same h1 ⟨f.k,rfl⟩),fun hvis=>by have:=(I.fvis f (by simp) f.k h2).1 hvis;omega⟩
omit h hr he in
theorem DInv.topSame {r:Nat} {st:List Fr} {d:Nat} {out:List (Nat × Nat)} (I:DInv n S vert root r st d out):∀ {f:Fr} {rest:List Fr},st=f :: rest→SameO S f.a d:=by
 rintro f rest rfl
 exact⟨f.k,I.cur.symm⟩
omit he in
theorem DInv.bump {r:Nat} {st:List Fr} {d:Nat} {out:List (Nat × Nat)} (I:DInv n S vert root r st d out) (hd:¬ DDone S root r st) (k:Nat)
  (hk:∀ f rest,st=f :: rest→f.k+1<per S f.a) :
  bumpR r st≤per S root∧Chain n S root (bumpR r st) (out ++ [(d,k)]) (bumpS st)∧((out ++ [(d,k)]).map Prod.fst).Nodup ∧
  (∀ x,vis (out ++ [(d,k)]) x→x<n∧Conn n S root x)∧(∀ f ∈ bumpS st,∀ i,i<per S f.a→(vis (out ++ [(d,k)]) (itr S i f.a)↔i<f.k)) ∧
  (∀ i,i<per S root→(vis (out ++ [(d,k)]) (itr S i root)↔i<bumpR r st))∧(bumpS st).Pairwise (fun f g=>¬ SameO S f.a g.a) ∧
  (∀ f ∈ bumpS st,¬ SameO S f.a root)∧(∀ f ∈ bumpS st,metB vert root (out ++ [(d,k)]) (vert f.a)=true):=by
 obtain⟨f1,f2,f3⟩:=I.fresh h hr hd
 have hnd:((out ++ [(d,k)]).map Prod.fst).Nodup:=by
  rw[List.map_append]
  exact q6j I.nd (fun hm=>f3 (q6i.2 hm))
 have hcon:∀ x,vis (out ++ [(d,k)]) x→x<n∧Conn n S root x:=by
  intro x hx
  rcases q09.1 hx with hx|rfl
  ·exact I.conn x hx
  ·exact⟨f1,f2⟩
 cases st with
 | nil =>
  have hlt:r<per S root:=by
   have:=I.rle
   have:r≠per S root:=fun e=>hd ⟨rfl,e⟩
   omega
  refine⟨hlt,trivial,hnd,hcon,(fun f hf=>by cases hf),fun i hi=>?_,List.Pairwise.nil,(fun f hf=>by cases hf),(fun f hf=>by cases hf)⟩
  rw[q09,I.rvis i hi,I.cur]
  show i<r∨itr S i root=itr S r root↔i<r+1
  constructor
  ·rintro (h1|h1)
   ·omega
   ·have:=h.itr_diff hr hi hlt h1
    omega
  ·intro h1
   by_cases h2:i<r
   ·exact .inl h2
   ·obtain rfl:i=r:=by omega
    exact .inr rfl
 | cons f rest =>
  obtain⟨⟨c1,c2,c3,c4,c5⟩,c6⟩:=I.chain
  have hk':=hk f rest rfl
  have hap:=List.pairwise_cons.1 I.apart
  have hcur:d=itr S f.k f.a:=I.cur
  have hother:∀ g ∈ rest,∀ i,itr S i g.a≠d:=by
   intro g hg i e
   refine hap.1 g hg ?_
   have hga:=(c6.lt g hg).1
   exact SameO.trans (⟨f.k,hcur.symm.trans e.symm⟩:SameO S f.a (itr S i g.a)) (h.sameO_symm hga ⟨i,rfl⟩)
  refine⟨I.rle,⟨⟨c1,hk',c3,c4,?_⟩,c6.append _⟩,hnd,hcon,?_,?_,?_,?_,?_⟩
  ·show (out ++ [(d,k)])[f.o]? = _
   rw[List.getElem?_append_left (q01 c5)];exact c5
  ·intro g hg i hi
   rcases List.mem_cons.1 hg with rfl|hg
   ·show vis _ (itr S i f.a)↔i<f.k+1
    have hi':i<per S f.a:=hi
    rw[q09,I.fvis f (by simp) i hi',hcur]
    constructor
    ·rintro (h1|h1)
     ·omega
     ·have:=h.itr_diff c1 hi' c2 h1
      omega
    ·intro h1
     by_cases h2:i<f.k
     ·exact .inl h2
     ·obtain rfl:i=f.k:=by omega
      exact .inr rfl
   ·rw[q09,I.fvis g (by simp[hg]) i hi]
    exact⟨fun h1=>h1.resolve_right (hother g hg i),.inl⟩
  ·intro i hi
   show _↔i<r
   rw[q09,I.rvis i hi]
   refine⟨fun h1=>h1.resolve_right (fun e=>?_),.inl⟩
   refine I.rapart f (by simp) ?_
   exact SameO.trans (⟨f.k,hcur.symm.trans e.symm⟩:SameO S f.a (itr S i root)) (h.sameO_symm hr ⟨i,rfl⟩)
  ·exact List.pairwise_cons.2 ⟨fun g hg=>hap.1 g hg,hap.2⟩
  ·intro g hg
   rcases List.mem_cons.1 hg with rfl|hg
   ·exact I.rapart f (by simp)
   ·exact I.rapart g (by simp[hg])
  ·intro g hg
   refine q15.2 (.inl ?_)
   rcases List.mem_cons.1 hg with rfl|hg
   ·exact I.fmet f (by simp)
   ·exact I.fmet g (by simp[hg])
include hv
omit h he in
theorem DInv.metTop {r:Nat} {st:List Fr} {d:Nat} {out:List (Nat × Nat)} (I:DInv n S vert root r st d out) (hdn:d<n):metB vert root out (vert d)=true:=by
 cases st with
 | nil =>
  have:vert root=vert d:=(hv root d hr hdn).2 (by rw[I.cur];exact⟨r,rfl⟩)
  unfold metB;simp[this]
 | cons f rest =>
  have:vert f.a=vert d:=(hv f.a d I.chain.1.1 hdn).2 (I.topSame rfl)
  rw[← this];exact I.fmet f (by simp)
omit he in
theorem DInv.close {r:Nat} {f:Fr} {rest:List Fr} {d:Nat} {out:List (Nat × Nat)} (I:DInv n S vert root r (f :: rest) d out) (hk:f.k+1=per S f.a) :
  mt d=lastD S root r rest∧(mt d,0) ∈ out∧DInv n S vert root r rest (S (mt d)) (out ++ [(d,1)]):=by
 have hd:¬ DDone S root r (f :: rest):=fun e=>by have:=e.1;cases this
 obtain⟨f1,f2,f3⟩:=I.fresh h hr hd
 obtain⟨⟨c1,c2,c3,c4,c5⟩,c6⟩:=I.chain
 have hcur:d=itr S f.k f.a:=I.cur
 have hterm:itr S (per S f.a - 1) f.a=d:=by rw[hcur];congr 1;omega
 have hmd:mt d=lastD S root r rest:=by rw[← hterm,c4,mt_mt]
 have hmem:(mt d,0) ∈ out:=by rw[hmd];exact List.mem_of_getElem? c5
 have hap:=List.pairwise_cons.1 I.apart
 have hother:∀ g ∈ rest,∀ i,itr S i g.a≠d:=by
  intro g hg i e
  refine hap.1 g hg ?_
  have hga:=(c6.lt g hg).1
  exact SameO.trans (⟨f.k,hcur.symm.trans e.symm⟩:SameO S f.a (itr S i g.a)) (h.sameO_symm hga ⟨i,rfl⟩)
 refine⟨hmd,hmem,?_⟩
 exact {
  cur:=by
   rw[hmd]
   cases rest with
   | nil =>
    show S (itr S (r - 1) root)=itr S r root
    obtain⟨r',rfl⟩:∃ r',r=r'+1:=⟨r - 1,by have:1≤r:=c3;omega⟩
    rfl
   | cons g rest =>
    show S (itr S (g.k - 1) g.a)=itr S g.k g.a
    have:1≤g.k:=c3
    obtain⟨r',hr'⟩:∃ r',g.k=r'+1:=⟨g.k - 1,by omega⟩
    rw[hr']
    rfl
  rle:=I.rle
  chain:=c6.append _
  nd:=by
   rw[List.map_append]
   exact q6j I.nd (fun hm=>f3 (q6i.2 hm))
  conn:=fun x hx=>by
   rcases q09.1 hx with hx|rfl
   ·exact I.conn x hx
   ·exact⟨f1,f2⟩
  fvis:=fun g hg i hi=>by
   rw[q09,I.fvis g (by simp[hg]) i hi]
   exact⟨fun h1=>h1.resolve_right (hother g hg i),.inl⟩
  rvis:=fun i hi=>by
   rw[q09,I.rvis i hi]
   refine⟨fun h1=>h1.resolve_right (fun e=>?_),.inl⟩
   refine I.rapart f (by simp) ?_
   exact SameO.trans (⟨f.k,hcur.symm.trans e.symm⟩:SameO S f.a (itr S i root)) (h.sameO_symm hr ⟨i,rfl⟩)
  apart:=hap.2
  rapart:=fun g hg=>I.rapart g (by simp[hg])
  fmet:=fun g hg=>q15.2 (.inl (I.fmet g (by simp[hg])))
  met:=fun x hx hm=>by
   rcases q15.1 hm with hm|⟨h1,_⟩
   ·rcases I.met x hx hm with h1|⟨g,hg,h1⟩|h1
    ·exact .inl h1
    ·rcases List.mem_cons.1 hg with rfl|hg
     ·obtain⟨i,hi,rfl⟩:=h.sameO_ex c1 h1
      refine .inr (.inr (q09.2 ?_))
      by_cases hik:i<g.k
      ·exact .inl ((I.fvis g (by simp) i hi).2 hik)
      ·obtain rfl:i=g.k:=by omega
       exact .inr hcur.symm
     ·exact .inr (.inl ⟨g,hg,h1⟩)
    ·exact .inr (.inr (q09.2 (.inl h1)))
   ·cases h1
  unmet:=fun x hx hm hvx=>by
   have hm0:metB vert root out (vert x)=false:=by
    cases hb:metB vert root out (vert x)
    ·rfl
    ·rw[q15.2 (.inl hb)] at hm;cases hm
   rcases q09.1 hvx with h1|rfl
   ·exact I.unmet x hx hm0 h1
   ·rw[I.metTop hv hr f1] at hm0;cases hm0
  half:=fun x k hx hnv=>by
   have hnv0:¬ vis out (mt x):=fun h1=>hnv (q09.2 (.inl h1))
   have hnvd:mt x≠d:=fun h1=>hnv (q09.2 (.inr h1))
   rcases List.mem_append.1 hx with hx|hx
   ·rcases I.half x k hx hnv0 with⟨h1,g,hg,h2⟩|h1
    ·rcases List.mem_cons.1 hg with rfl|hg
     ·exact absurd (h2.symm.trans hterm) hnvd
     ·exact .inl ⟨h1,g,hg,h2⟩
    ·exact .inr h1
   ·simp only [List.mem_singleton,Prod.mk.injEq] at hx
    obtain⟨rfl,rfl⟩:=hx
    exact absurd ⟨0,hmem⟩ hnv0
  late:=fun l x hl hnv=>by
   have hnv0:¬ vis out (mt x):=fun h1=>hnv (q09.2 (.inl h1))
   have hnvd:mt x≠d:=fun h1=>hnv (q09.2 (.inr h1))
   rcases q2i hl with hl|⟨_,h1⟩
   ·rcases I.late l x hl hnv0 with h1|⟨g,hg,h1,h2⟩
    ·exact .inl h1
    ·rcases List.mem_cons.1 hg with rfl|hg
     ·exfalso
      obtain⟨i,hi,hix⟩:=h.sameO_ex c1 h1
      by_cases hik:i<g.k
      ·exact hnv0 (hix ▸ (I.fvis g (by simp) i hi).2 hik)
      ·obtain rfl:i=g.k:=by omega
       exact hnvd (hix.symm.trans hcur.symm)
     ·exact .inr ⟨g,hg,h1,h2⟩
   ·simp only [Prod.mk.injEq] at h1;omega
  k4:=fun x k hx=>by
   rcases List.mem_append.1 hx with hx|hx
   ·exact I.k4 x k hx
   ·simp only [List.mem_singleton,Prod.mk.injEq] at hx
    omega }
theorem DInv.pass {r:Nat} {st:List Fr} {d:Nat} {out:List (Nat × Nat)} (I:DInv n S vert root r st d out) (hd:¬ DDone S root r st) (k:Nat)
  (hk:∀ f rest,st=f :: rest→f.k+1<per S f.a) (hkk:(k=3∧vis out (mt d))∨(k=2∧metB vert root out (vert (mt d))=true)) :
  DInv n S vert root (bumpR r st) (bumpS st) (S d) (out ++ [(d,k)]):=by
 obtain⟨f1,f2,f3⟩:=I.fresh h hr hd
 obtain⟨b1,b2,b3,b4,b5,b6,b7,b8,b9⟩:=I.bump h hr hd k hk
 have hk0:k≠0:=by omega
 exact {
  cur:=by rw[ql4,← I.cur]
  rle:=b1,chain:=b2,nd:=b3,conn:=b4,fvis:=b5,rvis:=b6,apart:=b7,rapart:=b8,fmet:=b9
  met:=fun x hx hm=>by
   rcases q15.1 hm with hm|⟨h1,_⟩
   ·rcases I.met x hx hm with h1|⟨g,hg,h1⟩|h1
    ·exact .inl h1
    ·obtain⟨g',hg',h2,_⟩:=q54 hg
     exact .inr (.inl ⟨g',hg',by rw[h2];exact h1⟩)
    ·exact .inr (.inr (q09.2 (.inl h1)))
   ·exact absurd h1 hk0
  unmet:=fun x hx hm hvx=>by
   have hm0:metB vert root out (vert x)=false:=by
    cases hb:metB vert root out (vert x)
    ·rfl
    ·rw[q15.2 (.inl hb)] at hm;cases hm
   rcases q09.1 hvx with h1|rfl
   ·exact I.unmet x hx hm0 h1
   ·rw[I.metTop hv hr f1] at hm0;cases hm0
  half:=fun x k' hx hnv=>by
   have hnv0:¬ vis out (mt x):=fun h1=>hnv (q09.2 (.inl h1))
   rcases List.mem_append.1 hx with hx|hx
   ·rcases I.half x k' hx hnv0 with⟨h1,g,hg,h2⟩|h1
    ·obtain⟨g',hg',h3,_⟩:=q54 hg
     exact .inl ⟨h1,g',hg',by rw[h3];exact h2⟩
    ·exact .inr h1
   ·simp only [List.mem_singleton,Prod.mk.injEq] at hx
    obtain⟨rfl,rfl⟩:=hx
    rcases hkk with⟨_,h1⟩|⟨h1,_⟩
    ·exact absurd h1 hnv0
    ·exact .inr h1
  late:=fun l x hl hnv=>by
   have hnv0:¬ vis out (mt x):=fun h1=>hnv (q09.2 (.inl h1))
   rcases q2i hl with hl|⟨hll,h1⟩
   ·rcases I.late l x hl hnv0 with h1|⟨g,hg,h1,h2⟩
    ·exact .inl h1
    ·obtain⟨g',hg',h3,h4⟩:=q54 hg
     exact .inr ⟨g',hg',by rw[h3];exact h1,by rw[h4];exact h2⟩
   ·simp only [Prod.mk.injEq] at h1
    obtain⟨rfl,rfl⟩:=h1
    rcases hkk with⟨h1,_⟩|⟨_,hm⟩
    ·omega
    ·rcases I.met _ (mt_lt he f1) hm with h1|⟨g,hg,h1⟩|h1
     ·exact .inl h1
     ·obtain⟨g',hg',h3,h4⟩:=q54 hg
      exact .inr ⟨g',hg',by rw[h3];exact h1,by rw[h4,hll];exact I.chain.old g hg⟩
     ·exact absurd h1 hnv0
  k4:=fun x k' hx=>by
   rcases List.mem_append.1 hx with hx|hx
   ·exact I.k4 x k' hx
   ·simp only [List.mem_singleton,Prod.mk.injEq] at hx
    omega }
theorem DInv.opens {r:Nat} {st:List Fr} {d:Nat} {out:List (Nat × Nat)} (I:DInv n S vert root r st d out) (hd:¬ DDone S root r st)
  (hk:∀ f rest,st=f :: rest→f.k+1<per S f.a) (hm:metB vert root out (vert (mt d))=false) :
  DInv n S vert root (bumpR r st) (⟨S (mt d),0,out.length⟩ :: bumpS st) (S (mt d)) (out ++ [(d,0)]):=by
 obtain⟨f1,f2,f3⟩:=I.fresh h hr hd
 obtain⟨b1,b2,b3,b4,b5,b6,b7,b8,b9⟩:=I.bump h hr hd 0 hk
 have hmn:=mt_lt he f1
 have hsn:=h.lt _ hmn
 have hsame:SameO S (S (mt d)) (mt d):=h.sameO_symm hmn (SameO.step S _)
 have hps:=h.per_same hmn (SameO.step S (mt d))
 have hp0:=(h.per_spec hmn).1
 have hvm:vert (S (mt d))=vert (mt d):=(hv _ _ hsn hmn).2 hsame
 have hun:∀ x,SameO S (S (mt d)) x→x<n→¬ vis out x:=by
  intro x hx hxn
  refine I.unmet x hxn ?_
  rw[← (hv _ x hsn hxn).2 hx,hvm];exact hm
 have hmetd:=I.metTop hv hr f1
 have hmd:¬ SameO S (S (mt d)) d:=fun hs=>by
  rw[← (hv _ d hsn f1).2 hs,hvm,hm] at hmetd;cases hmetd
 have hnf:∀ g ∈ st,g.a<n→¬ SameO S (S (mt d)) g.a:=by
  intro g hg hgn hs
  have h1:=I.fmet g hg
  rw[← (hv _ g.a hsn hgn).2 hs,hvm,hm] at h1;cases h1
 have hterm:itr S (per S (S (mt d)) - 1) (S (mt d))=mt d:=by
  rw[hps,← qjq,Nat.sub_add_cancel hp0];exact (h.per_spec hmn).2.2.1
 exact {
  cur:=rfl
  rle:=b1
  chain:=⟨⟨hsn,by rw[hps];exact hp0,qib r st,by rw[hterm,qbv,← I.cur],by rw[qbv,← I.cur];simp⟩,b2⟩
  nd:=b3
  conn:=b4
  fvis:=fun g hg i hi=>by
   rcases List.mem_cons.1 hg with rfl|hg
   ·show vis _ (itr S i (S (mt d)))↔i<0
    rw[q09]
    constructor
    ·rintro (h1|h1)
     ·exact absurd h1 (hun _ ⟨i,rfl⟩ (h.itr_lt hsn i))
     ·exact absurd ⟨i,h1⟩ hmd
    ·omega
   ·exact b5 g hg i hi
  rvis:=b6
  apart:=List.pairwise_cons.2 ⟨fun g hg=>by
   obtain⟨g',hg',h1,_⟩:=q5p hg
   show ¬ SameO S (S (mt d)) g.a
   rw[← h1]
   exact hnf g' hg' (I.chain.lt g' hg').1,b7⟩
  rapart:=fun g hg=>by
   rcases List.mem_cons.1 hg with rfl|hg
   ·show ¬ SameO S (S (mt d)) root
    intro hs
    have:vert root=vert (mt d):=by rw[← hvm];exact ((hv _ root hsn hr).2 hs).symm
    unfold metB at hm
    rw[← this] at hm
    simp at hm
   ·exact b8 g hg
  fmet:=fun g hg=>by
   rcases List.mem_cons.1 hg with rfl|hg
   ·exact q15.2 (.inr ⟨rfl,hvm.symm⟩)
   ·exact b9 g hg
  met:=fun x hx hm1=>by
   rcases q15.1 hm1 with hm1|⟨_,h1⟩
   ·rcases I.met x hx hm1 with h1|⟨g,hg,h1⟩|h1
    ·exact .inl h1
    ·obtain⟨g',hg',h2,_⟩:=q54 hg
     exact .inr (.inl ⟨g',by simp[hg'],by rw[h2];exact h1⟩)
    ·exact .inr (.inr (q09.2 (.inl h1)))
   ·exact .inr (.inl ⟨⟨S (mt d),0,out.length⟩,by simp,(hv _ x hsn hx).1 (hvm.trans h1)⟩)
  unmet:=fun x hx hm1 hvx=>by
   have hm0:metB vert root out (vert x)=false:=by
    cases hb:metB vert root out (vert x)
    ·rfl
    ·rw[q15.2 (.inl hb)] at hm1;cases hm1
   rcases q09.1 hvx with h1|rfl
   ·exact I.unmet x hx hm0 h1
   ·rw[hmetd] at hm0;cases hm0
  half:=fun x k' hx hnv=>by
   have hnv0:¬ vis out (mt x):=fun h1=>hnv (q09.2 (.inl h1))
   rcases List.mem_append.1 hx with hx|hx
   ·rcases I.half x k' hx hnv0 with⟨h1,g,hg,h2⟩|h1
    ·obtain⟨g',hg',h3,_⟩:=q54 hg
     exact .inl ⟨h1,g',by simp[hg'],by rw[h3];exact h2⟩
    ·exact .inr h1
   ·simp only [List.mem_singleton,Prod.mk.injEq] at hx
    obtain⟨rfl,rfl⟩:=hx
    exact .inl ⟨rfl,⟨S (mt x),0,out.length⟩,by simp,hterm⟩
  late:=fun l x hl hnv=>by
   have hnv0:¬ vis out (mt x):=fun h1=>hnv (q09.2 (.inl h1))
   rcases q2i hl with hl|⟨hll,h1⟩
   ·rcases I.late l x hl hnv0 with h1|⟨g,hg,h1,h2⟩
    ·exact .inl h1
    ·obtain⟨g',hg',h3,h4⟩:=q54 hg
     exact .inr ⟨g',by simp[hg'],by rw[h3];exact h1,by rw[h4];exact h2⟩
   ·simp only [Prod.mk.injEq] at h1;omega
  k4:=fun x k' hx=>by
   rcases List.mem_append.1 hx with hx|hx
   ·exact I.k4 x k' hx
   ·simp only [List.mem_singleton,Prod.mk.injEq] at hx
    omega }
inductive StepK (n:Nat) (S vert:Nat→Nat) (root r:Nat) (st:List Fr) (d:Nat) (out:List (Nat × Nat)):Nat→Nat→List Fr→Prop
 | close (f:Fr) (rest:List Fr):st=f :: rest→(mt d,0) ∈ out→StepK n S vert root r st d out 1 r rest
 | right:(mt d,2) ∈ out→StepK n S vert root r st d out 3 (bumpR r st) (bumpS st)
 | left:¬ vis out (mt d)→metB vert root out (vert (mt d))=true→StepK n S vert root r st d out 2 (bumpR r st) (bumpS st)
 | opens:¬ vis out (mt d)→metB vert root out (vert (mt d))=false→StepK n S vert root r st d out 0 (bumpR r st) (⟨S (mt d),0,out.length⟩ :: bumpS st)
theorem DInv.step {r:Nat} {st:List Fr} {d:Nat} {out:List (Nat × Nat)} (I:DInv n S vert root r st d out) (hd:¬ DDone S root r st) :
  ∃ r' st',StepK n S vert root r st d out (kindB vert root out d) r' st'∧DInv n S vert root r' st' (S (if kindB vert root out d<2 then mt d else d)) (out ++ [(d,kindB vert root out d)]):=by
 obtain⟨f1,f2,f3⟩:=I.fresh h hr hd
 by_cases hcl:∃ f rest,st=f :: rest∧f.k+1=per S f.a
 ·obtain⟨f,rest,rfl,hk⟩:=hcl
  obtain⟨h1,h2,h3⟩:=I.close h hv hr hk
  have hkd:kindB vert root out d=1:=by
   unfold kindB
   rcases q2u f3 with⟨k,hf,hm⟩|⟨_,hm⟩
   ·rw[hf]
    have:k=0:=by
     have hnd:=I.nd
     rw[List.Nodup,List.pairwise_map] at hnd
     apply Classical.byContradiction
     intro hk0
     have key:∀ l:List (Nat × Nat),l.Pairwise (fun a b=>a.1≠b.1)→(mt d,k) ∈ l→(mt d,0) ∈ l→False:=by
      intro l
      induction l with
      | nil=>intro _ h;cases h
      | cons p l ih =>
       intro hp ha hb
       rw[List.pairwise_cons] at hp
       rcases List.mem_cons.1 ha with ha|ha
       ·rcases List.mem_cons.1 hb with hb|hb
        ·rw[← ha] at hb;simp only [Prod.mk.injEq,true_and] at hb;exact hk0 hb.symm
        ·exact hp.1 _ hb (by rw[← ha])
       ·rcases List.mem_cons.1 hb with hb|hb
        ·exact hp.1 _ ha (by rw[← hb])
        ·exact ih hp.2 ha hb
     exact key out hnd hm h2
    rw[this]
   ·exact absurd ⟨0,h2⟩ hm
  rw[hkd]
  exact⟨r,rest,.close f rest rfl h2,by simpa using h3⟩
 ·have hk:∀ f rest,st=f :: rest→f.k+1<per S f.a:=by
   rintro f rest rfl
   have:=I.chain.1.2.1
   have:f.k+1≠per S f.a:=fun e=>hcl ⟨f,rest,rfl,e⟩
   omega
  rcases q2u f3 with⟨k,hf,hm⟩|⟨hf,hm⟩
  ·have hk2:k=2:=by
    rcases I.half _ _ hm (by rw[mt_mt];exact f3) with⟨_,g,hg,h2⟩|h1
    ·exfalso
     rw[mt_mt] at h2
     cases st with
     | nil=>cases hg
     | cons f rest =>
      rcases List.mem_cons.1 hg with rfl|hg
      ·have hcur:d=itr S g.k g.a:=I.cur
       rw[hcur] at h2
       have hg1:=I.chain.1
       have:=h.itr_diff hg1.1 (by omega) hg1.2.1 h2
       have:=hk g rest rfl
       omega
      ·refine (List.pairwise_cons.1 I.apart).1 g hg ?_
       have hgn:=(I.chain.2.lt g hg).1
       exact (I.topSame rfl).trans (h.sameO_symm hgn ⟨_,h2⟩)
    ·exact h1
   subst hk2
   have hkd:kindB vert root out d=3:=by unfold kindB;rw[hf]
   rw[hkd]
   exact⟨_,_,.right hm,by simpa using I.pass h he hv hr hd 3 hk (.inl ⟨rfl,2,hm⟩)⟩
  ·cases hmet:metB vert root out (vert (mt d))
   ·have hkd:kindB vert root out d=0:=by unfold kindB;rw[hf];simp[hmet]
    rw[hkd]
    exact⟨_,_,.opens hm hmet,by simpa using I.opens h he hv hr hd hk hmet⟩
   ·have hkd:kindB vert root out d=2:=by unfold kindB;rw[hf];simp[hmet]
    rw[hkd]
    exact⟨_,_,.left hm hmet,by simpa using I.pass h he hv hr hd 2 hk (.inr ⟨rfl,hmet⟩)⟩
omit hv he in
theorem DInv.all {r:Nat} {st:List Fr} {d:Nat} {out:List (Nat × Nat)} (I:DInv n S vert root r st d out) (hd:DDone S root r st)
  (hvt:∀ x,x<n→vert (S x)=vert x) {x:Nat} (hx:Conn n S root x):vis out x:=by
 obtain⟨rfl,rfl⟩:=hd
 have hroot:∀ y,SameO S root y→vis out y:=by
  intro y hy
  obtain⟨i,hi,rfl⟩:=h.sameO_ex hr hy
  exact (I.rvis i hi).2 hi
 refine hx (vis out) (hroot root (SameO.refl S root)) (fun z hz hP=>⟨?_,?_⟩)
 ·have hm:metB vert root out (vert (S z))=true:=by
   cases hb:metB vert root out (vert (S z))
   ·rw[hvt z hz] at hb
    exact absurd hP (I.unmet z hz hb)
   ·rfl
  rcases I.met (S z) (h.lt z hz) hm with h1|⟨g,hg,_⟩|h1
  ·exact hroot _ h1
  ·cases hg
  ·exact h1
 ·apply Classical.byContradiction
  intro hn
  obtain⟨k,hk⟩:=hP
  rcases I.half z k hk hn with⟨_,g,hg,_⟩|h2
  ·cases hg
  ·subst h2
   obtain⟨l,hl,hl2⟩:=List.mem_iff_getElem.1 hk
   rcases I.late l z (by rw[List.getElem?_eq_getElem hl,hl2]) hn with h1|⟨g,hg,_⟩
   ·exact hn (hroot _ h1)
   ·cases hg
omit h he hv hr in
theorem DInv.len {r:Nat} {st:List Fr} {d:Nat} {out:List (Nat × Nat)} (I:DInv n S vert root r st d out):out.length≤n:=by
 have:=q7y n _ I.nd (fun x hx=>(I.conn x (q6i.2 hx)).1)
 simpa using this
theorem qic:∀ m j r st,n≤j+m→DInv n S vert root r st (wlk S vert root j).1 (wlk S vert root j).2→(∀ i,i<j→∃ r st,DInv n S vert root r st (wlk S vert root i).1 (wlk S vert root i).2∧¬ DDone S root r st) →
  ∃ T r,DInv n S vert root r [] (wlk S vert root T).1 (wlk S vert root T).2∧DDone S root r []∧∀ i,i<T→∃ r st,DInv n S vert root r st (wlk S vert root i).1 (wlk S vert root i).2∧¬ DDone S root r st:=by
 intro m
 induction m with
 | zero =>
  intro j r st hm I hall
  by_cases hd:DDone S root r st
  ·obtain⟨rfl,h2⟩:=id hd
   exact⟨j,r,I,hd,hall⟩
  ·exfalso
   obtain⟨r',st',_,I'⟩:=I.step h he hv hr hd
   have:=I'.len
   rw[List.length_append,q0c] at this
   simp at this
   omega
 | succ m ih =>
  intro j r st hm I hall
  by_cases hd:DDone S root r st
  ·obtain⟨rfl,h2⟩:=id hd
   exact⟨j,r,I,hd,hall⟩
  ·obtain⟨r',st',_,I'⟩:=I.step h he hv hr hd
   refine ih (j+1) r' st' (by omega) I' (fun i hi=>?_)
   rcases Nat.lt_or_ge i j with hlt|hge
   ·exact hall i hlt
   ·obtain rfl:i=j:=by omega
    exact⟨r,st,I,hd⟩
end
end
section
def DD (ks:List Nat) (p:Nat):Int:=(cntK (ks.take p) 0:Int) - cntK (ks.take p) 1
def BB (ks:List Nat) (p:Nat):Int:=(cntK (ks.take p) 2:Int) - cntK (ks.take p) 3
def dd (k:Nat):Int:=if k=0 then 1 else if k=1 then -1 else 0
def bb (k:Nat):Int:=if k=2 then 1 else if k=3 then -1 else 0
theorem q6k (ks:List Nat):DD ks 0=0:=by simp[DD,cntK]
theorem qe3 (ks:List Nat):BB ks 0=0:=by simp[BB,cntK]
theorem q2d {ks:List Nat} {i k:Nat} (h:ks[i]? = some k):DD ks (i+1)=DD ks i+dd k:=by
 unfold DD dd
 rw[q1l h 0,q1l h 1]
 by_cases h0:k=0
 ·subst h0;simp;omega
 ·by_cases h1:k=1
  ·subst h1;simp;omega
  ·simp[h0,h1]
theorem qau {ks:List Nat} {i k:Nat} (h:ks[i]? = some k):BB ks (i+1)=BB ks i+bb k:=by
 unfold BB bb
 rw[q1l h 2,q1l h 3]
 by_cases h0:k=2
 ·subst h0;simp;omega
 ·by_cases h1:k=3
  ·subst h1;simp;omega
  ·simp[h0,h1]
theorem q5r {ks:List Nat} {k p:Nat} (hp:p≤ks.length):DD (ks ++ [k]) p=DD ks p:=by
 unfold DD;rw[List.take_append_of_le_length hp]
theorem q4u {ks:List Nat} {k p:Nat} (hp:p≤ks.length):BB (ks ++ [k]) p=BB ks p:=by
 unfold BB;rw[List.take_append_of_le_length hp]
theorem q71 (ks:List Nat) (k:Nat):DD (ks ++ [k]) (ks.length+1)=DD ks ks.length+dd k:=by
 rw[q2d (k:=k) (by simp),q5r (Nat.le_refl _)]
theorem q5s (ks:List Nat) (k:Nat):BB (ks ++ [k]) (ks.length+1)=BB ks ks.length+bb k:=by
 rw[qau (k:=k) (by simp),q4u (Nat.le_refl _)]
structure OwnAt (ks:List Nat) (i o:Nat):Prop where
 lt:o<i
 opens:ks[o]? = some 0
 hit:DD ks o+1=DD ks i
 above:∀ p,o<p→p≤i→DD ks o<DD ks p
theorem OwnAt.unique {ks:List Nat} {i o q:Nat} (h:OwnAt ks i o) (k:OwnAt ks i q):o=q:=by
 rcases Nat.lt_trichotomy o q with hlt|rfl|hlt
 ·have:=h.above q hlt (Nat.le_of_lt k.lt);have:=h.hit;have:=k.hit;omega
 ·rfl
 ·have:=k.above o hlt (Nat.le_of_lt h.lt);have:=h.hit;have:=k.hit;omega
theorem OwnAt.old {ks:List Nat} {k i o:Nat} (hi:i≤ks.length) (h:OwnAt (ks ++ [k]) i o):OwnAt ks i o:=by
 obtain⟨h1,h2,h3,h4⟩:=h
 rw[List.getElem?_append_left (by omega)] at h2
 rw[q5r (by omega),q5r hi] at h3
 refine⟨h1,h2,h3,fun p hp1 hp2=>?_⟩
 have:=h4 p hp1 hp2
 rwa [q5r (by omega),q5r (by omega)] at this
structure WPre (ks:List Nat):Prop where
 k4:∀ k ∈ ks,k<4
 dpos:∀ p,p≤ks.length→0≤DD ks p
 bpos:∀ p,p≤ks.length→0≤BB ks p
 right:∀ i,ks[i]? = some 3→∀ o,OwnAt ks i o→BB ks (o+1)<BB ks i
structure WRight (ks:List Nat):Prop extends WPre ks where
 dend:DD ks ks.length=0
 bend:BB ks ks.length=0
theorem WPre.nil:WPre []:=⟨(fun k h=>by cases h),fun p h=>by
 obtain rfl:p=0:=by simpa using h
 rw[q6k];omega,fun p h=>by
 obtain rfl:p=0:=by simpa using h
 rw[qe3];omega,fun i h=>by simp at h⟩
theorem WPre.snoc {ks:List Nat} {k:Nat} (h:WPre ks) (hk:k<4) (hd:0≤DD ks ks.length+dd k) (hb:0≤BB ks ks.length+bb k)
  (hr:k=3→∀ o,OwnAt (ks ++ [k]) ks.length o→BB ks (o+1)<BB ks ks.length):WPre (ks ++ [k]) where
 k4:=fun x hx=>by
  rcases List.mem_append.1 hx with hx|hx
  ·exact h.k4 x hx
  ·simp only [List.mem_singleton] at hx;omega
 dpos:=fun p hp=>by
  rcases Nat.lt_or_ge p (ks.length+1) with hlt|hge
  ·rw[q5r (by omega)];exact h.dpos p (by omega)
  ·obtain rfl:p=ks.length+1:=by simp at hp;omega
   rw[q71];exact hd
 bpos:=fun p hp=>by
  rcases Nat.lt_or_ge p (ks.length+1) with hlt|hge
  ·rw[q4u (by omega)];exact h.bpos p (by omega)
  ·obtain rfl:p=ks.length+1:=by simp at hp;omega
   rw[q5s];exact hb
 right:=fun i hi o ho=>by
  rcases q2i hi with hi|⟨rfl,h3⟩
  ·have hil:=q01 hi
   have ho':=ho.old (by omega)
   have:=ho'.lt
   rw[q4u (by omega),q4u (by omega)]
   exact h.right i hi o ho'
  ·have:=ho.lt
   rw[q4u (by omega),q4u (Nat.le_refl _)]
   exact hr h3.symm o ho
def OwnChain (ks:List Nat):List Fr→Prop
 | []=>True
 | f :: rest=>(ks[f.o]? = some 0∧DD ks f.o=rest.length∧∀ p,f.o<p→p≤ks.length→(rest.length:Int)<DD ks p)∧OwnChain ks rest
theorem OwnChain.snoc {ks:List Nat} {k:Nat}:∀ {st:List Fr},OwnChain ks st→(st.length:Int)≤DD ks ks.length+dd k→OwnChain (ks ++ [k]) st
 | [],_,_=>trivial
 | f :: rest,⟨⟨h1,h2,h3⟩,h4⟩,hd=>by
  have hlt:=q01 h1
  refine⟨⟨by rw[List.getElem?_append_left hlt];exact h1,by rw[q5r (by omega)];exact h2,fun p hp1 hp2=>?_⟩,h4.snoc (by simp only [List.length_cons] at hd;omega)⟩
  rcases Nat.lt_or_ge p (ks.length+1) with h5|h5
  ·rw[q5r (by omega)];exact h3 p hp1 (by omega)
  ·obtain rfl:p=ks.length+1:=by simp at hp2;omega
   rw[q71]
   simp only [List.length_cons] at hd
   omega
theorem OwnChain.bump {ks:List Nat} {st:List Fr} (h:OwnChain ks st):OwnChain ks (bumpS st):=by cases st <;> exact h
theorem qo1 {out:List (Nat × Nat)} (h:(out.map Prod.fst).Nodup) {x a b:Nat} (ha:(x,a) ∈ out) (hb:(x,b) ∈ out):a=b:=by
 induction out with
 | nil=>cases ha
 | cons p out ih =>
  rw[List.map_cons,List.nodup_cons] at h
  rcases List.mem_cons.1 ha with ha|ha
  ·rcases List.mem_cons.1 hb with hb|hb
   ·rw[← ha] at hb;simp only [Prod.mk.injEq,true_and] at hb;exact hb.symm
   ·exact absurd (List.mem_map.2 ⟨_,hb,by rw[← ha]⟩) h.1
  ·rcases List.mem_cons.1 hb with hb|hb
   ·exact absurd (List.mem_map.2 ⟨_,ha,by rw[← hb]⟩) h.1
   ·exact ih h.2 ha hb
theorem qo2 {out:List (Nat × Nat)} (h:(out.map Prod.fst).Nodup) {i j x a b:Nat} (ha:out[i]? = some (x,a)) (hb:out[j]? = some (x,b)):i=j:=by
 have hi:=q01 ha
 have hj:=q01 hb
 rw[List.getElem?_eq_getElem hi] at ha
 rw[List.getElem?_eq_getElem hj] at hb
 simp only [Option.some.injEq] at ha hb
 rw[List.Nodup,List.pairwise_iff_getElem] at h
 rcases Nat.lt_trichotomy i j with hlt|rfl|hlt
 ·exact absurd (by rw[List.getElem_map,List.getElem_map,ha,hb]) (h i j (by simpa using hi) (by simpa using hj) hlt)
 ·rfl
 ·exact absurd (by rw[List.getElem_map,List.getElem_map,ha,hb]) (h j i (by simpa using hj) (by simpa using hi) hlt)
def kso (out:List (Nat × Nat)):List Nat:=out.map Prod.snd
theorem q23 (out:List (Nat × Nat)):(kso out).length=out.length:=by simp[kso]
theorem q0o (out:List (Nat × Nat)) (d k:Nat):kso (out ++ [(d,k)])=kso out ++ [k]:=by simp[kso]
structure WInv (out:List (Nat × Nat)) (st:List Fr) (pend:List Nat):Prop where
 pre:WPre (kso out)
 dep:DD (kso out) out.length=st.length
 own:OwnChain (kso out) st
 ord:st.Pairwise (fun f g=>g.o<f.o)
 brk:BB (kso out) out.length=pend.length
 pnd:pend.Nodup
 pmem:∀ l,l ∈ pend↔∃ x,out[l]? = some (x,2)∧¬ vis out (mt x)
 lev:∀ f ∈ st,BB (kso out) out.length - BB (kso out) (f.o+1)=(pend.filter fun l=>decide (f.o<l)).length
theorem qbw:WInv [] [] []:=⟨WPre.nil,q6k _,trivial,List.Pairwise.nil,qe3 _,List.nodup_nil,fun l=>⟨fun h=>(by cases h),fun ⟨x,h,_⟩=>(by simp at h)⟩,fun f h=>(by cases h)⟩
theorem qbx {out:List (Nat × Nat)} {pend:List Nat} {d k:Nat} (hp:∀ l,l ∈ pend↔∃ x,out[l]? = some (x,2)∧¬ vis out (mt x)) (hk:k≠2) (hm:(mt d,2) ∉ out) :
  ∀ l,l ∈ pend↔∃ x,(out ++ [(d,k)])[l]? = some (x,2)∧¬ vis (out ++ [(d,k)]) (mt x):=by
 intro l
 rw[hp l]
 constructor
 ·rintro⟨x,h1,h2⟩
  refine⟨x,by rw[List.getElem?_append_left (q01 h1)];exact h1,fun hv=>?_⟩
  rcases q09.1 hv with hv|hv
  ·exact h2 hv
  ·refine hm ?_
   rw[← hv,mt_mt]
   exact List.mem_of_getElem? h1
 ·rintro⟨x,h1,h2⟩
  rcases q2i h1 with h1|⟨_,h3⟩
  ·exact⟨x,h1,fun hv=>h2 (q09.2 (.inl hv))⟩
  ·simp only [Prod.mk.injEq] at h3
   exact absurd h3.2.symm hk
theorem q7i {l:List Nat} {x:Nat} (p:Nat→Bool) (hx:x ∈ l) (hp:p x=true):(l.filter p).length=((l.erase x).filter p).length+1:=by
 induction l with
 | nil=>cases hx
 | cons y l ih =>
  by_cases hy:y=x
  ·subst hy
   rw[List.erase_cons_head,List.filter_cons,if_pos hp]
   rfl
  ·have hx':x ∈ l:=by
    rcases List.mem_cons.1 hx with h|h
    ·exact absurd h.symm hy
    ·exact h
   rw[List.erase_cons_tail (by simpa using hy),List.filter_cons,List.filter_cons]
   split
   ·simp only [List.length_cons,ih hx']
   ·exact ih hx'
section
variable {n:Nat} {S vert:Nat→Nat} (h:IsP n S) {root:Nat} (hr:root<n)
include h hr
theorem WInv.step {r:Nat} {st:List Fr} {d:Nat} {out:List (Nat × Nat)} {pend:List Nat} (W:WInv out st pend) (I:DInv n S vert root r st d out) (hf:¬ vis out d)
  {k r':Nat} {st':List Fr} (hs:StepK n S vert root r st d out k r' st'):∃ pend',WInv (out ++ [(d,k)]) st' pend':=by
 have hl:(kso out).length=out.length:=q23 out
 have hll:(out ++ [(d,k)]).length=(kso out).length+1:=by simp[hl]
 have hdep:=W.dep
 have hbrk:=W.brk
 rw[← hl] at hdep hbrk
 cases hs with
 | close f rest hst hm =>
  subst hst
  have hnm:(mt d,2) ∉ out:=fun e=>by have:=qo1 I.nd hm e;omega
  have hdd:dd 1=-1:=rfl
  have hbb:bb 1=0:=rfl
  simp only [List.length_cons] at hdep
  refine⟨pend,?_⟩
  exact {
   pre:=by rw[q0o];exact W.pre.snoc (by omega) (by rw[hdd];omega) (by rw[hbb];omega) (fun e=>by omega)
   dep:=by rw[hll,q0o,q71,hdd];omega
   own:=by rw[q0o];exact W.own.2.snoc (by rw[hdd];omega)
   ord:=(List.pairwise_cons.1 W.ord).2
   brk:=by rw[hll,q0o,q5s,hbb];omega
   pnd:=W.pnd
   pmem:=qbx W.pmem (by omega) hnm
   lev:=fun g hg=>by
    have hgo:=I.chain.old g (by simp[hg])
    have:=W.lev g (by simp[hg])
    rw[hll,q0o,q5s,hbb,q4u (by omega),hl]
    omega }
 | right hm =>
  obtain⟨l0,hl0,hl0e⟩:=List.mem_iff_getElem.1 hm
  have hg0:out[l0]? = some (mt d,2):=by rw[List.getElem?_eq_getElem hl0,hl0e]
  have hp0:l0 ∈ pend:=(W.pmem l0).2 ⟨mt d,hg0,by rw[mt_mt];exact hf⟩
  have hpl:=List.length_pos_of_mem hp0
  have hdd:dd 3=0:=rfl
  have hbb:bb 3=-1:=rfl
  have hafter:∀ f ∈ st,f.o<l0:=by
   rcases I.late l0 (mt d) hg0 (by rw[mt_mt];exact hf) with h1|⟨g,hg,h1,h2⟩
   ·rw[mt_mt] at h1
    cases st with
    | nil=>intro f hf;cases hf
    | cons f rest =>
     exfalso
     exact I.rapart f (by simp) ((I.topSame rfl).trans (h.sameO_symm hr h1))
   ·rw[mt_mt] at h1
    cases st with
    | nil=>cases hg
    | cons f rest =>
     have hgf:g=f:=by
      rcases List.mem_cons.1 hg with rfl|hg
      ·rfl
      ·exfalso
       have hgn:=(I.chain.2.lt g hg).1
       exact (List.pairwise_cons.1 I.apart).1 g hg ((I.topSame rfl).trans (h.sameO_symm hgn h1))
     subst hgf
     intro f hf
     rcases List.mem_cons.1 hf with rfl|hf
     ·exact h2
     ·have:=(List.pairwise_cons.1 W.ord).1 f hf;omega
  have hel:(pend.erase l0).length=pend.length - 1:=List.length_erase_of_mem hp0
  refine⟨pend.erase l0,?_⟩
  exact {
   pre:=by
    rw[q0o]
    refine W.pre.snoc (by omega) (by rw[hdd];omega) (by rw[hbb];omega) (fun _ o ho=>?_)
    have ho:=ho.old (Nat.le_refl _)
    cases st with
    | nil =>
     have h1:=ho.hit
     have h2:=W.pre.dpos o (by have:=ho.lt;omega)
     simp only [List.length_nil] at hdep
     omega
    | cons f rest =>
     obtain⟨⟨o1,o2,o3⟩,_⟩:=W.own
     have hfo:OwnAt (kso out) (kso out).length f.o:=⟨q01 o1,o1,by simp only [List.length_cons] at hdep;omega,fun p hp1 hp2=>by have:=o3 p hp1 hp2;omega⟩
     obtain rfl:=ho.unique hfo
     have h1:=W.lev f (by simp)
     have h2:0<(pend.filter fun l=>decide (f.o<l)).length:=List.length_pos_of_mem (List.mem_filter.2 ⟨hp0,by simpa using hafter f (by simp)⟩)
     rw[hl]
     omega
   dep:=by rw[hll,q0o,q71,hdd,q1e];omega
   own:=by rw[q0o];exact (W.own.bump).snoc (by rw[hdd,q1e];omega)
   ord:=by
    have:=W.ord
    cases st with
    | nil=>exact this
    | cons f rest=>exact List.pairwise_cons.2 ⟨fun g hg=>(List.pairwise_cons.1 this).1 g hg,(List.pairwise_cons.1 this).2⟩
   brk:=by rw[hll,q0o,q5s,hbb];omega
   pnd:=W.pnd.erase l0
   pmem:=fun l=>by
    rw[W.pnd.mem_erase_iff,W.pmem l]
    constructor
    ·rintro⟨hne,x,h1,h2⟩
     refine⟨x,by rw[List.getElem?_append_left (q01 h1)];exact h1,fun hv=>?_⟩
     rcases q09.1 hv with hv|hv
     ·exact h2 hv
     ·have hx:x=mt d:=by rw[← hv,mt_mt]
      subst hx
      exact hne (qo2 I.nd h1 hg0)
    ·rintro⟨x,h1,h2⟩
     rcases q2i h1 with h1|⟨_,h3⟩
     ·refine⟨?_,x,h1,fun hv=>h2 (q09.2 (.inl hv))⟩
      rintro rfl
      rw[hg0] at h1
      simp only [Option.some.injEq,Prod.mk.injEq] at h1
      refine h2 (q09.2 (.inr ?_))
      rw[← h1.1,mt_mt]
     ·simp only [Prod.mk.injEq] at h3;omega
   lev:=fun g hg=>by
    obtain⟨f,hf,_,hfo⟩:=q5p hg
    rw[← hfo]
    have hgo:=I.chain.old f hf
    have h1:=W.lev f hf
    have h2:=q7i (fun l=>decide (f.o<l)) hp0 (by simpa using hafter f hf)
    rw[hll,q0o,q5s,hbb,q4u (by omega),hl]
    omega }
 | left hm hmet =>
  have hdd:dd 2=0:=rfl
  have hbb:bb 2=1:=rfl
  have hnl:out.length ∉ pend:=fun e=>by
   obtain⟨x,h1,_⟩:=(W.pmem _).1 e
   have:=q01 h1;omega
  refine⟨out.length :: pend,?_⟩
  exact {
   pre:=by rw[q0o];exact W.pre.snoc (by omega) (by rw[hdd];omega) (by rw[hbb];omega) (fun e=>by omega)
   dep:=by rw[hll,q0o,q71,hdd,q1e];omega
   own:=by rw[q0o];exact (W.own.bump).snoc (by rw[hdd,q1e];omega)
   ord:=by
    have:=W.ord
    cases st with
    | nil=>exact this
    | cons f rest=>exact List.pairwise_cons.2 ⟨fun g hg=>(List.pairwise_cons.1 this).1 g hg,(List.pairwise_cons.1 this).2⟩
   brk:=by rw[hll,q0o,q5s,hbb,List.length_cons];omega
   pnd:=List.nodup_cons.2 ⟨hnl,W.pnd⟩
   pmem:=fun l=>by
    rw[List.mem_cons,W.pmem l]
    constructor
    ·rintro (rfl|⟨x,h1,h2⟩)
     ·refine⟨d,by simp,fun hv=>?_⟩
      rcases q09.1 hv with hv|hv
      ·exact hm hv
      ·exact mt_ne d hv
     ·refine⟨x,by rw[List.getElem?_append_left (q01 h1)];exact h1,fun hv=>?_⟩
      rcases q09.1 hv with hv|hv
      ·exact h2 hv
      ·refine hm ?_
       rw[← hv,mt_mt]
       exact⟨2,List.mem_of_getElem? h1⟩
    ·rintro⟨x,h1,h2⟩
     rcases q2i h1 with h1|⟨h3,_⟩
     ·exact .inr ⟨x,h1,fun hv=>h2 (q09.2 (.inl hv))⟩
     ·exact .inl h3
   lev:=fun g hg=>by
    obtain⟨f,hf,_,hfo⟩:=q5p hg
    rw[← hfo]
    have hgo:=I.chain.old f hf
    have h1:=W.lev f hf
    rw[hll,q0o,q5s,hbb,q4u (by omega),hl,List.filter_cons,if_pos (by simpa using hgo),List.length_cons]
    omega }
 | opens hm hmet =>
  have hdd:dd 0=1:=rfl
  have hbb:bb 0=0:=rfl
  have hnm:(mt d,2) ∉ out:=fun e=>hm ⟨2,e⟩
  refine⟨pend,?_⟩
  have hpre:WPre (kso out ++ [0]):=W.pre.snoc (by omega) (by rw[hdd];omega) (by rw[hbb];omega) (fun e=>by omega)
  exact {
   pre:=by rw[q0o];exact hpre
   dep:=by rw[hll,q0o,q71,hdd,List.length_cons,q1e];omega
   own:=by
    rw[q0o]
    refine⟨⟨by simp[← hl],?_,fun p hp1 hp2=>?_⟩,(W.own.bump).snoc (by rw[hdd,q1e];omega)⟩
    ·show DD _ out.length=_
     rw[← hl,q5r (Nat.le_refl _),q1e];exact hdep
    ·have hp1':out.length<p:=hp1
     obtain rfl:p=(kso out).length+1:=by simp[hl] at hp2;omega
     rw[q71,hdd,q1e];omega
   ord:=by
    refine List.pairwise_cons.2 ⟨fun g hg=>?_,?_⟩
    ·obtain⟨f,hf,_,hfo⟩:=q5p hg
     have:=I.chain.old f hf
     show g.o<out.length
     omega
    ·have:=W.ord
     cases st with
     | nil=>exact this
     | cons f rest=>exact List.pairwise_cons.2 ⟨fun g hg=>(List.pairwise_cons.1 this).1 g hg,(List.pairwise_cons.1 this).2⟩
   brk:=by rw[hll,q0o,q5s,hbb];omega
   pnd:=W.pnd
   pmem:=qbx W.pmem (by omega) hnm
   lev:=fun g hg=>by
    rcases List.mem_cons.1 hg with rfl|hg
    ·have hnil:(pend.filter fun l=>decide (out.length<l))=[]:=List.filter_eq_nil_iff.2 (fun l hl2=>by
      obtain⟨x,h1,_⟩:=(W.pmem l).1 hl2
      have:=q01 h1
      simp;omega)
     show BB _ _ - BB _ (out.length+1)=((pend.filter fun l=>decide (out.length<l)).length:Int)
     rw[hnil,hll,hl]
     simp
    ·obtain⟨f,hf,_,hfo⟩:=q5p hg
     rw[← hfo]
     have hgo:=I.chain.old f hf
     have h1:=W.lev f hf
     rw[hll,q0o,q5s,hbb,q4u (by omega),hl]
     omega }
theorem WInv.done {r:Nat} {d:Nat} {out:List (Nat × Nat)} {pend:List Nat} (W:WInv out [] pend) (I:DInv n S vert root r [] d out) (hd:DDone S root r []):WRight (kso out):=by
 have hp:pend=[]:=by
  cases pend with
  | nil=>rfl
  | cons l pend =>
   exfalso
   obtain⟨x,h1,h2⟩:=(W.pmem l).1 (by simp)
   rcases I.late l x h1 h2 with h3|⟨g,hg,_⟩
   ·obtain⟨i,hi,hix⟩:=h.sameO_ex hr h3
    refine h2 (hix ▸ (I.rvis i hi).2 ?_)
    rw[hd.2];exact hi
   ·cases hg
 have h1:=W.dep
 have h2:=W.brk
 rw[hp] at h2
 rw[← q23] at h1 h2
 exact { W.pre with dend:=h1,bend:=h2 }
end
theorem ex_DD {ks:List Nat} {p:Nat} (hp:p≤ks.length):ex (ownB 0 ks) (pr 0 ks p)=DD ks p:=(qco (ks:=ks) 0 p hp).2
theorem ex_BB {ks:List Nat} {p:Nat} (hp:p≤ks.length):ex (ownB 1 ks) (pr 1 ks p)=BB ks p:=(qco (ks:=ks) 1 p hp).2
theorem qby {ks:List Nat} {s p:Nat} (hp:p≤(ownB s ks).length):∃ q,q≤ks.length∧pr s ks q=p:=by
 rcases Nat.lt_or_ge p (ownB s ks).length with hlt|hge
 ·obtain⟨q,hq⟩:=qjb (s:=s) (ks:=ks) hlt
  obtain⟨k,_,_,h3⟩:=id hq
  exact⟨q,Nat.le_of_lt hq.lt,h3⟩
 ·exact⟨ks.length,Nat.le_refl _,by rw[← q0r];omega⟩
theorem WRight.bal {ks:List Nat} (h:WRight ks):MBal ks:=by
 refine⟨⟨?_,fun p hp=>?_⟩,⟨?_,fun p hp=>?_⟩⟩
 ·rw[q0r,ex_DD (Nat.le_refl _)];exact h.dend
 ·obtain⟨q,hq,rfl⟩:=qby hp
  rw[ex_DD hq];exact h.dpos q hq
 ·rw[q0r,ex_BB (Nat.le_refl _)];exact h.bend
 ·obtain⟨q,hq,rfl⟩:=qby hp
  rw[ex_BB hq];exact h.bpos q hq
theorem OwnerOf.own {ks:List Nat} {i n:Nat} (hi:i≤ks.length) (h:OwnerOf ks i (n:Nat)):OwnAt ks i n:=by
 rcases h with⟨_,h⟩|⟨h0,o,m,h1,h2,h3⟩
 ·omega
 ·obtain rfl:n=m:=by omega
  have hn:=h2.lt
  have hni:=(h2.cmp i).1 h1.lt
  obtain⟨k,hk,hks,hpr⟩:=id h2
  have hd:=ex_DD (ks:=ks) (p:=n) (by omega)
  have hd1:=ex_DD (ks:=ks) hi
  rw[hpr] at hd
  have hhit:=h1.hit
  have hup:ks[n]? = some 0:=by
   have hb:=h2.own hk
   have hs:=q59 0 hk
   rw[if_pos hks,hpr] at hs
   have hab:=h1.above (o+1) (by omega) (by rw[← hs];exact q5a 0 ks hni)
   have hbit:=qma (ownB 0 ks) (p:=o) h2.jlt (by omega)
   rw[List.getD_eq_getElem?_getD,hb.2,Option.getD_some] at hbit
   have:k % 2=0:=by simpa using hbit
   rw[hk];congr 1;omega
  refine⟨hni,hup,by omega,fun p hp1 hp2=>?_⟩
  have hp3:=(h2.cmp p).2 hp1
  have hab:=h1.above (pr 0 ks p) hp3 (q5a 0 ks hp2)
  rw[ex_DD (show p≤ks.length by omega)] at hab
  omega
theorem WRight.check {ks:List Nat} (h:WRight ks) {i m:Nat} {r:Int} (hi:ks[i]? = some 3) (hm:MixMate ks i m) (hr:OwnerOf ks i r):¬ (m:Int)<r:=by
 intro hlt
 have hil:=q01 hi
 obtain⟨n,rfl⟩:=Int.eq_ofNat_of_zero_le (show 0≤r by omega)
 have ho:=hr.own (by omega)
 have hB:=h.right i hi n ho
 obtain⟨s,a,c,hs,h1,h2,h3⟩:=hm
 obtain⟨k,hk,hks,hpr⟩:=id h1
 rw[hi] at hk
 simp only [Option.some.injEq] at hk
 subst hk
 obtain rfl:s=1:=by omega
 have hb:=(h1.own hi).2
 have hp:IsPair (ownB 1 ks) c a:=by
  rcases h3 with⟨h4,_⟩|⟨_,h5⟩
  ·rw[List.getD_eq_getElem?_getD,hb] at h4;simp at h4
  ·exact h5
 have hcl:=hp.closes.2
 have hhit:=hp.hit
 have h4:=(h2.cmp (n+1)).2 (by omega)
 have h5:=q5a 1 ks (show n+1≤i from ho.lt)
 rw[hpr] at h5
 have h6:=hp.above (pr 1 ks (n+1)) h4 h5
 have e1:=ex_BB (ks:=ks) (p:=n+1) (by have:=ho.lt;omega)
 have e2:=ex_BB (ks:=ks) (p:=i) (by omega)
 rw[hpr] at e2
 rw[e1] at h6
 omega
end
end Go.Proofs.YtcfdpogegngplaaGreat
