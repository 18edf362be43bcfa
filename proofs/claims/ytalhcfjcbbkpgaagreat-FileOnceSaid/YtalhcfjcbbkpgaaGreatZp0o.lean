import Derived.Test.YtalhcfjcbbkpgaaGreatZp0n
import Derived.Lib.BitFns
import Derived.WideKeyEntry
set_option maxRecDepth 100000
set_option maxHeartbeats 4000000
namespace Go.Proofs.YtalhcfjcbbkpgaaGreat
section
open Go.RowKit
def Dm(ks:List Nat):Prop:=∀(i m:Nat) (r:Int),ks[i]? = some 3->fF ks i m->nD ks i r->¬(m:Int)<r
end
section
open Go.RowKit
end
section
open Go.RowKit
theorem jC.base{c w w':World}{s:List Nat}{root lone:Int}{e:Ending}(h:jC w s root lone e w')(k:Keeps (fun _=>False) c w):jC c s root lone e w':=by obtain⟨b,d,g,j,i⟩:=h;have l:=k.size;exact⟨b,d,g.mono (fun x a=>⟨by omega,a.2⟩) (fun x a=>a.2.1) (fun a=>a.2.2 rfl),by omega,k.trans i (fun _ _ h=>h)⟩
end
section
theorem iw.own{ks:List Nat}{o i:Nat}(h:iw ks 0 o i):OwnAt ks i o:=by obtain⟨d,a⟩:=h.DD;have c:=wN h.closes;have e:dd (2 * 0+1)=-1:=rfl;rw[e]at c;exact⟨h.lt,h.opens,by omega,a⟩
theorem Nj{n:Nat}{S T D:Nat->Nat}(p:dO n S)(j:dO n T)(c:dO n D)(q:∀i,i<n->S (D i)=D (T i)):eu S n<=eu T n:=by
 have d:∀m i,i<n->itr S m (D i)=D (itr T m i):=by
  intro m i s
  induction m with
  | zero=>rfl
  | succ m t =>
   show S (itr S m (D i))=D (T (itr T m i));rw[t,q _ (j.dW s m)]
 have l:=sK (((List.range n).filter fun x=>rep S x == x).map fun x=>rep T (gq D x)) ((List.range n).filter fun x=>rep T x == x) (by
  rw[List.Nodup,List.pairwise_map];have hn:((List.range n).filter fun x=>rep S x == x).Nodup:=List.Pairwise.filter _ List.nodup_range;refine List.Pairwise.imp_of_mem (fun {x y} a g k e=>k ?_) hn;simp only [List.mem_filter,List.mem_range,beq_iff_eq]at a g;obtain⟨m,u⟩:=(j.iF (c.eF a.1) (c.eF g.1)).1 e;have o:=d m _ (c.eF a.1);rw[u,c.fD a.1,c.fD g.1]at o;rw[<-a.2,<-g.2];exact(p.iF a.1 g.1).2 ⟨m,o⟩) (fun z v=>by
  obtain⟨x,a,rfl⟩:=List.mem_map.1 v;simp only [List.mem_filter,List.mem_range,beq_iff_eq]at a ⊢;exact⟨j.kQ (c.eF a.1),j.iY (c.eF a.1)⟩)
 rw[List.length_map]at l;exact l
theorem Nk{n:Nat}{D:Nat->Nat}(h:dO n D):dO n (gq D) :=
 ⟨fun _ a=>h.eF a,fun d e a c g=>by rw[<-h.fD a,g,h.fD c]⟩
theorem Dn{n:Nat}{S T D:Nat->Nat}(e:dO n S)(c:dO n T)(a:dO n D)(g:∀i,i<n->S (D i)=D (T i)):eu S n=eu T n:=by refine Nat.le_antisymm (Nj e c a g) (Nj c e (Nk a) (fun i d=>?_));have j:=g _ (a.eF d);rw[a.fD d]at j;rw[j,a.inv_of (c.lt _ (a.eF d))]
section
variable {ks:List Nat} (h:Wd ks)
include h
theorem Wd.vY:dO ks.length (sg (dN ks)):=by have:=h.iD;rwa [pG]at this
theorem Wd.kV{i:Nat}(a:i<ks.length):sg (dN ks) (fA ks i)=fA ks (tn ks i):=by rw[LM (h.jI a),h.Ee a]
theorem Wd.nI(hn:0<ks.length):fA ks 0=0:=by
 obtain⟨s,d,⟨a,c⟩|⟨a,c⟩⟩:=h.cases hn
 ·unfold fA;rw[iG a,if_pos (by omega)];simp[oc]
 ·have:=c.lt;omega
theorem Wd.rW{i j:Nat}(c:i<ks.length)(d:j<ks.length):vnum (sg (dN ks)) (fA ks i)=vnum (sg (dN ks)) (fA ks j)↔vx ks i=vx ks j:=by
 rw[h.vY.eT (h.jI c) (h.jI d),<-h.pQ c d]
 have a:∀m,itr (sg (dN ks)) m (fA ks i)=fA ks (itr (tn ks) m i):=by
  intro m
  induction m with
  | zero=>rfl
  | succ m e =>
   show sg (dN ks) (itr (sg (dN ks)) m (fA ks i))=fA ks (tn ks (itr (tn ks) m i));rw[e,h.kV (h.jc.dW c m)]
 constructor
 ·rintro⟨m,hm⟩;rw[a]at hm;exact⟨m,h.ig.inj _ _ (h.jc.dW c m) d hm⟩
 ·rintro⟨m,hm⟩;exact⟨m,by rw[a,hm]⟩
theorem Wd.pV(hC:Dm ks)(hn:0<ks.length):∀j,j<=ks.length->eD (sg (dN ks)) (vnum (sg (dN ks))) 0 j=(fA ks (j % ks.length),(List.range j).map fun i=>(fA ks i,ks.getD i 0)):=by
 intro j
 induction j with
 | zero =>
  intro _;rw[Nat.zero_mod,h.nI hn];rfl
 | succ j N =>
  intro hj;have N:=N (by omega);have c:j<ks.length:=by omega
  have O:j % ks.length=j:=Nat.mod_eq_of_lt c;rw[O]at N;show o9 _ _ _ (eD _ _ _ j)=_;rw[N]
  have q:∀x,x<ks.length->(vis ((List.range j).map fun i=>(fA ks i,ks.getD i 0)) (fA ks x)↔x<j):=by
   intro x F;rw[CZ,List.map_map];simp only [List.mem_map,List.mem_range,Function.comp];constructor
   ·rintro⟨y,hy,A⟩;have:=h.ig.inj _ _ (by omega) F A;omega
   ·intro P;exact⟨x,P,rfl⟩
  have d:=h.gP c;have t:=h.lH c;have H:¬vis ((List.range j).map fun i=>(fA ks i,ks.getD i 0)) (fA ks j):=fun e=>by have:=(q j c).1 e;omega
  have B:eZ (vnum (sg (dN ks))) 0 ((List.range j).map fun i=>(fA ks i,ks.getD i 0)) (fA ks j)=ks.getD j 0:=by
   obtain⟨s,hs,⟨I,g⟩|⟨I,g⟩⟩:=h.cases c
   ·rw[iG I];unfold eZ;rcases Bv H with⟨k,J,C⟩|⟨J,C⟩
    ·exfalso;have:vis ((List.range j).map fun i=>(fA ks i,ks.getD i 0)) (fA ks (mp ks j)):=⟨k,by rw[t];exact C⟩
     have:=(q _ d).1 this;have:=g.lt;omega
    ·rw[J];simp only;rw[<-t]
     have z:gG (vnum (sg (dN ks))) 0 ((List.range j).map fun i=>(fA ks i,ks.getD i 0)) (vnum (sg (dN ks)) (fA ks (mp ks j)))=true↔(vx ks (mp ks j)=0\/∃o,o<j/\ks[o]? = some 0/\vx ks (mp ks j)=vo ks o):=by
      unfold gG;rw[Bool.or_eq_true,beq_iff_eq,List.any_eq_true];have Y:=h.rW d hn;rw[h.nI hn,h.zF]at Y;rw[Y];refine or_congr Iff.rfl ⟨?_,?_⟩
      ·rintro⟨⟨x,k⟩,F,hk⟩;obtain⟨o,u,A⟩:=List.mem_map.1 F;have Q:=List.mem_range.1 u;simp only [Prod.mk.injEq]at A;obtain⟨rfl,rfl⟩:=A;rw[Bool.and_eq_true,beq_iff_eq,beq_iff_eq]at hk;have K:ks.getD o 0=0:=hk.1;have D:vnum (sg (dN ks)) (mt (fA ks o))=vnum (sg (dN ks)) (fA ks (mp ks j)):=hk.2;have a:=List.getElem?_eq_getElem (l:=ks) (i:=o) (by omega);rw[iG a]at K;rw[K]at a;refine⟨o,Q,a,?_⟩;rw[<-h.lH (by omega:o<ks.length)]at D;rw[<-(h.rW (h.gP (by omega:o<ks.length)) d).1 D];obtain⟨R,U,⟨v,E⟩|⟨v,E⟩⟩:=h.cases (i:=o) (by omega)
       ·rw[a]at v;obtain rfl:R=0:=by have:=Option.some.inj v;omega
        exact h.jP (Nat.le_of_lt E.le) E.own
       ·rw[a]at v;have:=Option.some.inj v;omega
      ·rintro⟨o,u,a,D⟩;refine⟨(fA ks o,ks.getD o 0),List.mem_map.2 ⟨o,List.mem_range.2 u,rfl⟩,?_⟩;rw[Bool.and_eq_true,beq_iff_eq,beq_iff_eq];refine⟨iG a,?_⟩;show vnum (sg (dN ks)) (mt (fA ks o))=_;rw[<-h.lH (by omega:o<ks.length)];refine(h.rW (h.gP (by omega:o<ks.length)) d).2 ?_;rw[D];obtain⟨R,U,⟨v,E⟩|⟨v,E⟩⟩:=h.cases (i:=o) (by omega)
       ·rw[a]at v;obtain rfl:R=0:=by have:=Option.some.inj v;omega
        exact h.jP (Nat.le_of_lt E.le) E.own
       ·rw[a]at v;have:=Option.some.inj v;omega
     have L:s=0\/s=1:=by omega
     rcases L with rfl|rfl
     ·have D:vx ks (mp ks j)=vo ks j:=h.jP (Nat.le_of_lt g.le) g.own;rw[if_neg (fun e=>?_)];rcases z.1 e with e|⟨o,u,a,e⟩
      ·rw[D]at e;unfold vo at e;omega
      ·rw[D]at e;have:=LP I a e;omega
     ·rw[if_pos (z.2 ?_)];rcases h.pI (j:=mp ks j) (by omega)with e|⟨o,u⟩
      ·exact .inl (h.jW (by omega) e)
      ·refine .inr ⟨o,?_,u.opens,h.jP (by omega) u⟩;obtain⟨r,hr⟩:=h.bal.owner (i:=mp ks j) (by omega);have hc:=hC (mp ks j) j r g.closes (h.mate c).symm hr
       have V:r=(o:Nat):=by
        rcases Int.lt_or_le r 0 with Z|M
        ·exfalso;rcases hr with⟨W,_⟩|⟨_,o',n',_,_,rfl⟩
         ·rw[gI (by omega)]at W;have:=u.hit;have:=h.l8 (p:=o) (by have:=u.lt;omega);omega
         ·omega
        ·obtain⟨m,rfl⟩:=Int.eq_ofNat_of_zero_le M;rw[(hr.own (by omega)).unique u]
       rw[V]at hc;have aa:o≠j:=fun e=>by have:=u.opens;rw[e,I]at this;have:=Option.some.inj this;omega
       omega
   ·rw[iG I];unfold eZ;rcases Bv H with⟨k,J,C⟩|⟨J,C⟩
    ·rw[J];simp only;rw[<-t]at C;obtain⟨x,F,A⟩:=List.mem_map.1 C;have ab:=List.mem_range.1 F;simp only [Prod.mk.injEq]at A;obtain⟨W,e2⟩:=A;have:=h.ig.inj _ _ (by omega) d W;subst this;rw[<-e2,iG g.opens]
    ·exfalso;apply C;rw[<-t];exact(q _ d).2 g.lt
  have X:o9 (sg (dN ks)) (vnum (sg (dN ks))) 0 (fA ks j,(List.range j).map fun i=>(fA ks i,ks.getD i 0))=(sg (dN ks) (if ks.getD j 0<2 then mt (fA ks j)else fA ks j),((List.range j).map fun i=>(fA ks i,ks.getD i 0)) ++ [(fA ks j,ks.getD j 0)]):=by unfold o9;simp only [B]
  rw[X,List.range_succ,List.map_append];congr 1;by_cases g:ks.getD j 0<2
  ·rw[if_pos g,<-t,h.kV d];unfold tn;rw[if_pos ((h.j5 c).2 g),h.gW c]
  ·rw[if_neg g,h.kV c];unfold tn;rw[if_neg g]
theorem Wd.zK(hC:Dm ks)(hn:0<ks.length):jk (eD (sg (dN ks)) (vnum (sg (dN ks))) 0 ks.length).2=ks:=by
 rw[h.pV hC hn _ (Nat.le_refl _)];unfold jk;rw[List.map_map];apply List.ext_getElem?;intro i;rcases Nat.lt_or_ge i ks.length with a|a
 ·rw[List.getElem?_map,List.getElem?_range a];simp[List.getD_eq_getElem?_getD,a]
 ·rw[List.getElem?_eq_none (by simp;omega),List.getElem?_eq_none a]
end
theorem iV.unique{n:Nat}{S dG:Nat->Nat}{root T a:Nat}(h:iV n S dG root T)(c:iV n S dG root a):T=a:=by
 classical
 have d:=h.total (fun x=>decide (dI n S root x)) (fun x _=>by simp);have e:=c.total (fun x=>decide (dI n S root x)) (fun x _=>by simp);omega
section
variable {ks:List Nat} (h:Wd ks) (hC:Dm ks) (hn:0<ks.length)
include h hC hn
theorem Wd.uT:iV ks.length (sg (dN ks)) (vnum (sg (dN ks))) 0 ks.length/\∀x,x<ks.length->dI ks.length (sg (dN ks)) 0 x:=by
 have k:=h.vY;obtain⟨T,e,a,l⟩:=Ep k h.mD (fun x y d m=>k.eT d m) hn
 have g:T=ks.length:=by
  rcases Nat.lt_trichotomy T ks.length with c|j|c
  ·exfalso;rw[h.pV hC hn T (by omega),Nat.mod_eq_of_lt c]at a;have p:=h.ig.inj T 0 c hn (by rw[h.nI hn];exact a);have:=l.pos;omega
  ·exact j
  ·exfalso;have:=e.le;omega
 subst g;refine⟨e,fun x d=>?_⟩;refine(e.rR x d).2 ?_;rw[h.pV hC hn _ (Nat.le_refl _),CZ,List.map_map];obtain⟨i,o,rfl⟩:=h.ig.back d;exact List.mem_map.2 ⟨i,List.mem_range.2 o,rfl⟩
end
theorem Gw{n:Nat}{S:Nat->Nat}(h:dO n S)(a:n % 2=0)(hn:0<n)(c:∀x,x<n->dI n S 0 x):dX n S n=1:=by
 have d:∀x,x<n->eU n S x=0:=fun x g=>Nat.le_zero.1 (xu (h.gL a hn (c x g)))
 have i:∀m,m<=n->dX n S m=if m=0 then 0 else 1:=by
  intro m
  induction m with
  | zero=>intro _;rfl
  | succ m j =>
   intro k;rw[ug,j (by omega),d m (by omega)];by_cases e:m=0
   ·subst e;rfl
   ·rw[if_neg e,if_neg (by omega),if_neg (by omega)]
 rw[i n (Nat.le_refl _),if_neg (by omega)]
theorem Ul{n:Nat}{S:Nat->Nat}(h:dO n S)(a:n % 2=0)(e:dX n S n=1){x y:Nat}(c:x<n)(d:y<n):dI n S x y:=by have g:=h.lG a c;have i:=h.lG a d;exact(h.iT a c d).1 (by omega)
theorem EC{s:List Nat}(h:dO s.length (sg s))(m:s.length % 2=0)(q:dX s.length (sg s) s.length=1) :
  fV (jN s 0)=(2 - ((eu (sg s) s.length:Nat):Int)+((s.length / 2:Nat):Int) - ((eu (sg (dS s)) s.length:Nat):Int)).tdiv 2:=by
 have c:∀x,x<s.length->sg (kS s) x=0:=fun x a=>by rw[Aq a];have:=h.lG m a;omega
 have e:∀l:List Nat,qB l (kS s) 0 s.length=eu (sg l) s.length:=fun l=>by unfold qB eu;congr 1;refine List.filter_congr (fun x a=>?_);rw[c x (List.mem_range.1 a)];simp
 have g:oF (kS s) 0 s.length=s.length:=by unfold oF;rw[List.filter_eq_self.2 (fun x a=>by rw[c x (List.mem_range.1 a)];rfl),List.length_range]
 obtain⟨p,o⟩:∃p,pK s s.length=[p]:=by have:=xF s s.length;rw[q]at this;exact List.length_eq_one_iff.1 this
 have i:p ∈ pK s s.length:=by rw[o];simp
 obtain⟨d,t,rfl⟩:=List.mem_map.1 i;have j:=List.mem_range.1 (List.mem_filter.1 t).1;have k:eP s.length (sg s) d=0:=by have:=h.lG m j;omega
 unfold jN;rw[o];unfold fV xE vO Df Dh BJ;rw[k,e,e,g];simp
section
variable {ks:List Nat} (h:Wd ks) (hC:Dm ks) (hn:0<ks.length)
include h hC hn
theorem Wd.uo:dX (dN ks).length (sg (dN ks)) (dN ks).length=1/\fV (jN (dN ks) 0)=0:=by
 have j:=h.iD;have a:=h.mD;have e:=Gw h.vY a hn (h.uT hC hn).2;have c:=pG ks;rw[<-c]at e;refine⟨e,?_⟩;rw[EC j (by rw[c];exact a) e,c];have k:eu (sg (dN ks)) ks.length=eu (tn ks) ks.length:=Dn h.vY h.jc h.ig (fun i d=>h.kV d);have g:dO ks.length (sg (dS (dN ks))):=by have:=F3 j (by rw[c];exact a);rwa [oD,c]at this
 have l:eu (sg (dS (dN ks))) ks.length=eu (ph ks) ks.length:=Dn g h.uj h.ig (fun i d=>by
  have m:sg (dS (dN ks)) (fA ks i)=sg (dN ks) (mt (fA ks i)):=by simp[sg,dS,c,h.jI d]
  rw[m,<-h.lH d,h.kV (h.gP d)];rfl)
 have o:=h.Aw hn;rw[k,l];have:(2 - ((eu (tn ks) ks.length:Nat):Int)+((ks.length / 2:Nat):Int) - ((eu (ph ks) ks.length:Nat):Int))=0:=by omega
 rw[this];rfl
end
theorem vP.unique{s:List Nat}{lone:Nat}{rt:Int}{ks i:List Nat}{c l:Nat}(h:vP s lone rt ks c)(o:vP s lone rt i l):ks=i/\c=l:=by
 rcases h with⟨a,e,a3⟩|⟨a,e,a3,a4⟩|⟨a,e,a3,a4,a5⟩|⟨a,e,a3,r,T,a4,a5,p,q⟩ <;>
  rcases o with⟨d,g,j⟩|⟨d,g,j,k⟩|⟨d,g,j,k,m⟩|⟨d,g,j,t,x,k,m,u,v⟩
 ·exact⟨by rw[a3,j],by omega⟩
 ·exact absurd d a
 ·exact absurd d a
 ·exact absurd d a
 ·exact absurd a d
 ·exact⟨by rw[a4,k],by omega⟩
 ·exact absurd g e
 ·exact absurd g e
 ·exact absurd a d
 ·exact absurd e g
 ·exact⟨by rw[a5,m],by omega⟩
 ·omega
 ·exact absurd a d
 ·exact absurd e g
 ·omega
 ·obtain rfl:r=t:=by omega
  obtain rfl:=p.unique u;exact⟨by rw[q,v],by omega⟩
theorem Wd.zL{ks:List Nat}(h:Wd ks)(hC:Dm ks):vP (dN ks) (if ks.length=0 then 1 else 0) (if ks.length=0 then -1 else 0) ks 0:=by
 by_cases hn:ks.length=0
 ·rw[if_pos hn,if_pos hn];have a:ks=[]:=List.eq_nil_of_length_eq_zero hn;subst a;have c:dN []=[]:=rfl;rw[c];refine .inr (.inr (.inl ⟨rfl,?_,rfl,rfl,rfl⟩));simp[jN,pK,fV]
 ·rw[if_neg hn,if_neg hn];obtain⟨d,e⟩:=h.uo hC (by omega);have g:=(h.uT hC (by omega)).1;refine .inr (.inr (.inr ⟨by rw[d],e,rfl,0,ks.length,rfl,by rw[pG];omega,by rw[pG];exact g,(h.zK hC (by omega)).symm⟩))
theorem gH.wd{ks:List Nat}(h:gH ks):Wd ks:=⟨h.k4,h.bal⟩
theorem gH.canon{ks:List Nat}(h:gH ks):Dm ks:=fun _ _ _ a c d=>h.check a c d
end
section
theorem Gx(a b:List Nat)(k:Nat):eG (a ++ b) k=eG a k+eG b k:=by unfold eG;rw[List.filter_append,List.length_append]
theorem xQ{a b:List Nat}{p:Nat}(c:p<=a.length):DD (a ++ b) p=DD a p:=by unfold DD;rw[List.take_append_of_le_length c]
theorem Ce{a b:List Nat}{p:Nat}(c:p<=a.length):BB (a ++ b) p=BB a p:=by unfold BB;rw[List.take_append_of_le_length c]
theorem yP{a b:List Nat}{q:Nat}:DD (a ++ b) (a.length+q)=DD a a.length+DD b q:=by unfold DD;rw[List.take_length_add_append,Gx,Gx,List.take_length];omega
theorem AO{a b:List Nat}{q:Nat}:BB (a ++ b) (a.length+q)=BB a a.length+BB b q:=by unfold BB;rw[List.take_length_add_append,Gx,Gx,List.take_length];omega
theorem gH.app{a b:List Nat}(c:gH a)(d:gH b):gH (a ++ b):=by
 have v:=c.nE;have C:=c.qE;refine { k4:=?_,l8:=?_,bpos:=?_,right:=?_,nE:=?_,qE:=?_ }
 ·intro k E;rcases List.mem_append.1 E with h|h
  ·exact c.k4 k h
  ·exact d.k4 k h
 ·intro p x;rw[List.length_append]at x;rcases Nat.le_total p a.length with h|h
  ·rw[xQ h];exact c.l8 p h
  ·obtain⟨q,rfl⟩:=Nat.exists_eq_add_of_le h;rw[yP,v];have:=d.l8 q (by omega);omega
 ·intro p x;rw[List.length_append]at x;rcases Nat.le_total p a.length with h|h
  ·rw[Ce h];exact c.bpos p h
  ·obtain⟨q,rfl⟩:=Nat.exists_eq_add_of_le h;rw[AO,C];have:=d.bpos q (by omega);omega
 ·intro i e o y;rcases Nat.lt_or_ge i a.length with h|h
  ·have F:=y.lt;rw[List.getElem?_append_left h]at e;have z:OwnAt a i o:=by obtain⟨D,g,s,t⟩:=y;rw[List.getElem?_append_left (by omega)]at g;rw[xQ (by omega),xQ (by omega)]at s;refine⟨D,g,s,fun p l m=>?_⟩;have:=t p l m;rwa [xQ (by omega),xQ (by omega)]at this
   rw[Ce (by omega),Ce (by omega)];exact c.right i e o z
  ·obtain⟨j,rfl⟩:=Nat.exists_eq_add_of_le h;rw[List.getElem?_append_right (by omega),Nat.add_sub_cancel_left]at e;have H:=gX e;obtain⟨D,g,s,t⟩:=y;rcases Nat.lt_or_ge o a.length with A|A
   ·exfalso;have:=t a.length A (by omega);rw[xQ (by omega),xQ (Nat.le_refl _),v]at this;have:=c.l8 o (by omega);omega
   ·obtain⟨u,rfl⟩:=Nat.exists_eq_add_of_le A;rw[List.getElem?_append_right (by omega),Nat.add_sub_cancel_left]at g;rw[yP,yP]at s;have B:OwnAt b j u:=⟨by omega,g,by omega,fun p l m=>by have:=t (a.length+p) (by omega) (by omega);rw[yP,yP]at this;omega⟩
    have:=d.right j e u B;rw[show a.length+u+1=a.length+(u+1) by omega,AO,AO];omega
 ·rw[List.length_append,yP,v,d.nE];rfl
 ·rw[List.length_append,AO,C,d.qE];rfl
end
section
theorem Um:∀(f x:Nat),x<2 ^ f->x<2 ^ Lib.bitLenAux f x:=by
 intro f
 induction f with
 | zero=>intro x h;exact h
 | succ f a =>
  intro x h;unfold Lib.bitLenAux;split
  ·next c=>rw[c];exact Nat.two_pow_pos _
  ·have d:=a (x / 2) (by rw[Nat.pow_succ]at h;omega);rw[Nat.add_comm,Nat.pow_succ];omega
theorem Un:∀(f x:Nat),Lib.bitLenAux f x<=f:=by
 intro f
 induction f with
 | zero=>intro x;exact Nat.le_refl _
 | succ f a =>
  intro x;unfold Lib.bitLenAux;split
  ·omega
  ·have:=a (x / 2);omega
def iM(n:Nat):Nat:=if n<2 then 0 else Lib.bitLen (n - 1)
theorem qh(n:Nat):iM n<=64:=by
 unfold iM;split
 ·omega
 ·exact Un 64 _
theorem Uo{e n:Nat}(h:e<n)(hn:n<=18446744073709551616):e<2 ^ iM n:=by
 unfold iM;split
 ·have:e=0:=by omega
  subst this;exact Nat.two_pow_pos _
 ·exact Nat.lt_of_le_of_lt (by omega) (Um 64 (n - 1) (by omega))
def Dp(l:List Bool)(u:Nat):Nat->Nat
 | 0=>0
 | k+1=>Dp l u k+(l.getD (u+k) false).toNat * 2 ^ k
theorem Ur(l:List Bool)(u x w:Nat)(h:∀i,i<w->l.getD (u+i) false=(x / 2 ^ i % 2 == 1)):∀k,k<=w->Dp l u k=x % 2 ^ k:=by
 intro k
 induction k with
 | zero=>intro _;simp[Dp,Nat.mod_one]
 | succ k a =>
  intro d;unfold Dp;rw[a (by omega),h k (by omega),Nat.mod_pow_succ];have:x / 2 ^ k % 2<2:=Nat.mod_lt _ (by decide);rcases Nat.lt_or_ge (x / 2 ^ k % 2) 1 with c|c
  ·rw[show x / 2 ^ k % 2=0 by omega];simp
  ·rw[show x / 2 ^ k % 2=1 by omega];simp
def qJ(n x:Nat):List Bool:=mK (x / 2) (iM n) ++ [x % 2 == 1]
theorem Us(n x:Nat):(qJ n x).length=iM n+1:=by simp[qJ,Br]
def lK(n:Nat)(f:Nat->Nat)(m:Nat):List Bool:=(List.range m).flatMap fun e=>qJ n (f e)
theorem Jj(n:Nat)(f:Nat->Nat)(m:Nat):lK n f (m+1)=lK n f m ++ qJ n (f m):=by simp[lK,List.range_succ]
theorem Ci(n:Nat)(f:Nat->Nat)(m:Nat):(lK n f m).length=m * (iM n+1):=by
 induction m with
 | zero=>simp[lK]
 | succ m a=>rw[Jj,List.length_append,a,Us,Nat.succ_mul]
theorem Nl(n:Nat)(f:Nat->Nat):∀(m e i:Nat),e<m->i<iM n+1->(lK n f m).getD (e * (iM n+1)+i) false=(qJ n (f e)).getD i false:=by
 intro m
 induction m with
 | zero=>intro e i h;omega
 | succ m c =>
  intro e i g d;rw[Jj];rcases Nat.lt_or_ge e m with h|h
  ·have a:e * (iM n+1)+i<(lK n f m).length:=by
    rw[Ci]
    calc e * (iM n+1)+i<e * (iM n+1)+(iM n+1):=by omega
     _=(e+1) * (iM n+1):=by rw[Nat.succ_mul]
     _<=m * (iM n+1):=Nat.mul_le_mul_right _ h
   rw[List.getD_eq_getElem?_getD,List.getElem?_append_left a,<-List.getD_eq_getElem?_getD];exact c e i h d
  ·obtain rfl:e=m:=by omega
   rw[List.getD_eq_getElem?_getD,List.getElem?_append_right (by rw[Ci];omega),Ci,Nat.add_sub_cancel_left,<-List.getD_eq_getElem?_getD]
theorem Ut{n x i:Nat}(h:i<iM n):(qJ n x).getD i false=(x / 2 / 2 ^ i % 2 == 1):=by unfold qJ;rw[List.getD_eq_getElem?_getD,List.getElem?_append_left (by rw[Br];exact h)];unfold mK;rw[List.getElem?_map,List.getElem?_range h];rfl
theorem Uu(n x:Nat):(qJ n x).getD (iM n) false=(x % 2 == 1):=by unfold qJ;rw[List.getD_eq_getElem?_getD,List.getElem?_append_right (by rw[Br];exact Nat.le_refl _),Br,Nat.sub_self];rfl
theorem Nn(n:Nat)(f:Nat->Nat)(m e:Nat)(a:e<m)(c:f e / 2<n)(hn:n<=18446744073709551616):Dp (lK n f m) (e * (iM n+1)) (iM n)=f e / 2/\Dp (lK n f m) (e * (iM n+1)+iM n) 1=f e % 2:=by
 constructor
 ·rw[Ur _ _ (f e / 2) (iM n) (fun i d=>by rw[Nl n f m e i a (by omega),Ut d]) _ (Nat.le_refl _)];exact Nat.mod_eq_of_lt (Uo c hn)
 ·have h:=Nl n f m e (iM n) a (by omega);show 0+((lK n f m).getD (e * (iM n+1)+iM n+0) false).toNat * 2 ^ 0=_;rw[Nat.add_zero,h,Uu];have:f e % 2<2:=Nat.mod_lt _ (by decide);rcases Nat.lt_or_ge (f e % 2) 1 with g|g
  ·rw[show f e % 2=0 by omega];rfl
  ·rw[show f e % 2=1 by omega];rfl
end
section
def Jk(a:Bool)(c:List (List Bool)):List Nat:=c.flatMap fun l=>mM (l.length / 4) ++ mR a l
def xR(a:Bool)(lone:Nat)(c:List (List Bool)):List Nat:=mM lone ++ (mM c.length ++ Jk a c)
end
section
open Go.RowKit
theorem Uw(l:TypeId){wr:World}(B:Nat)(v sv:Value)(bs j:List Nat)(a:dZ B wr v bs)(c:Sl .u8 wr sv (dD j))(u:bs.length+j.length<=10000000000)(y:B<=wr.heap.size) :
  ∃v' w',(Builtin.append_ #[30,30] l #[v,sv]).run Tryz.prog wr=.ok v' w'/\dZ B w' v' (bs ++ j)/\Keeps (fun k=>v.ownBlock=some k) wr w'/\(v'.ownBlock=v.ownBlock\/∃k,v'.ownBlock=some k/\wr.heap.size<=k):=by
 obtain⟨i,x,m,o,p⟩:=info_parts sJ;obtain⟨q,cap,rfl,_⟩:=id c;cases q with
 | none =>
  obtain⟨rfl,z,s⟩:=c.uI;have hr:=run_append_owned_none (P:=Tryz.prog) (w:=wr) B 30 l 5 i 1 Tryz.underlying30 x v bs.length _ a;rw[s];exact⟨v,wr,hr,by simpa using a,Keeps.refl _ _,.inl rfl⟩
 | some q =>
  obtain⟨A,d⟩:=c.rA;obtain⟨v',w',hr,e,g,_,t⟩:=run_append_own_at (P:=Tryz.prog) (w:=wr) B 30 l 5 i (.int .u8 0) 1 1 Tryz.underlying30 x m o p rfl (by decide) v bs.length _ a q j.length cap (ys j) (by simp[FI]) d (Ht j) (by unfold maxLen;omega) (by omega) y;refine⟨v',w',by rw[A];exact hr,?_,(Keeps.refl _ wr).grown g (fun k C=>.inl C),t.imp id (fun h=>⟨_,h,Nat.le_refl _⟩)⟩;unfold dZ;rw[List.length_append,FJ];exact e
theorem Ux{c:Array Oper}{o:Oper}{a:Act}{K:Act->World->Prop}{Q:Exit->Act->World->Prop}{E:Prop}{wr:World}(i:o.guard=none)(s x:Operand)
  (l:o.op=.call { callee:=.builtin .append,args:=#[s,x],argTypes:=#[30,30] })(B:Nat)(v sv:Value)(bs g:List Nat)(m:a.eval s=v)(p:a.eval x=sv)
  (d:dZ B wr v bs)(j:Sl .u8 wr sv (dD g))(e:bs.length+g.length<=10000000000)(q:B<=wr.heap.size)
  (h:∀v' w',dZ B w' v' (bs ++ g)->Keeps (fun k=>v.ownBlock=some k) wr w'->(v'.ownBlock=v.ownBlock\/∃k,v'.ownBlock=some k/\wr.heap.size<=k)->K (a.put o.dst v') w') :
  if Region.wanted o (yielded c a.tmps)=true then Oper.wp Tryz.prog o a wr K Q else E:=by
 have t:Region.wanted o (yielded c a.tmps)=true:=by simp[Region.wanted,i]
 rw[if_pos t];obtain⟨v',w',hr,u,y,z⟩:=Uw o.type B v sv bs g d j e q;unfold Oper.wp execOp;simp only [l,resolve,invoke,builtin,Sem.run_bind,Sem.run_pure,Result.andThen_ok,List.map_toArray,List.map_cons,List.map_nil,m,p,hr];exact h v' w' u y z
end
section
open Go.RowKit
open Go.Maps (Keyed)
theorem ED:laidOutB Tryz.prog=true:=by kernel_rfl
theorem Uy:(359:TypeId)<Tryz.prog.types.size:=of_decide_eq_true (by kernel_rfl)
theorem Np:WideMaps.KeyLaw Tryz.prog 359:=deep_law_laid ED (m:=2) (by omega) Uy (by kernel_rfl) (by rw[Tryz.underlying359])
theorem vZ:Keyed Tryz.prog 359:=Keyed.of_law Np
def kp(x y:Nat):Lit:=.string (keyBytes [.int .i64 (x:Int),.int .i64 (y:Int)])
theorem Uz:Tryz.prog.keyType 359=true:=by kernel_rfl
theorem UA:Tryz.prog.cellsOf 3=1:=by kernel_rfl
theorem qb:Tryz.prog.cellsOf 359=2:=by kernel_rfl
theorem UC:∃m,Tryz.prog.types.size=m+1:=⟨Tryz.prog.types.size - 1,by kernel_rfl⟩
theorem Gy{x y:Nat}(a:x<=1000000000000)(c:y<=1000000000000):keyOf Tryz.prog 359 (.agg #[.int .i64 x,.int .i64 y])=some (kp x y):=by
 have d:=Gf a;have e:=Gf c;have g:(Value.agg #[.int .i64 (x:Int),.int .i64 (y:Int)]).formed Tryz.prog 359=true:=by simp[Value.formed,Tryz.underlying359,qb]
 obtain⟨m,i⟩:=UC;unfold keyOf kp;simp only [Tryz.underlying359];rw[if_pos (by rw[Uz,g];rfl),i];unfold Program.keyLits;simp only [Tryz.underlying359,Value.cells];rw[if_pos ⟨by rw[qb];rfl,by simp⟩];simp[Program.keyLits,Tryz.underlying3,d,e,UA]
theorem UD{x y u v:Nat}(c:x<=1000000000000)(d:y<=1000000000000)(e:u<=1000000000000)(g:v<=1000000000000)(h:kp x y=kp u v):x=u/\y=v:=by have i:=Gy c d;have a:=Gy e g;rw[<-h]at a;have:=vZ.inj i a;simp only [Value.agg.injEq,Array.mk.injEq,List.cons.injEq,Value.int.injEq,true_and,and_true]at this;omega
def nR(w:World)(b n:Nat)(f:Nat->Nat->Nat):Prop :=
 ∃D:DataW Unit,w.ownsMap Tryz.prog 359 (plainElem Tryz.prog 3) b n D/\Maps.IsMap D /\
  ∀x y:Nat,x<=1000000->y<=1000000->D.atKey (kp x y) (.lit (.int .i64 0))=.lit (.int .i64 (f x y:Nat))
def kv(x y:Nat):Value:=.agg #[.int .i64 (x:Int),.int .i64 (y:Int)]
def wu(f:Nat->Nat->Nat)(x y z:Nat)(u v:Nat):Nat:=if u=x/\v=y then z else f u v
theorem nR.made(w:World):nR (w.alloc (.map #[] 0)) w.heap.size 0 (fun _ _=>0) :=
 ⟨.map [],World.ownsMap_made _ _ _ _,Maps.isMap_empty,fun _ _ _ _=>rfl⟩
section
variable {w:World} {b n:Nat} {f:Nat->Nat->Nat} (h:nR w b n f)
include h
theorem nR.more{a:Nat}(hn:n<=a):nR w b a f:=by obtain⟨D,c,d⟩:=h;exact⟨D,c.mono hn,d⟩
theorem nR.keeps{w':World}{F:Nat->Prop}(k:Keeps F w w')(c:¬F b):nR w' b n f:=by obtain⟨D,⟨es,a,d,e⟩,g⟩:=h;exact⟨D,⟨es,a,k.at d c,e⟩,g⟩
theorem nR.look{x y:Nat}(e:x<=1000000)(g:y<=1000000):(Instr.lookup 357 (.map (some b)) (kv x y) false).run Tryz.prog w=.ok (.int .i64 (f x y:Nat)) w:=by obtain⟨D,i,k,j⟩:=h;obtain⟨c,d,a,_⟩:=i.lookup_int vZ Tryz.underlying357 Tryz.underlying3 (F6 w) (Gy (x:=x) (y:=y) (by omega) (by omega));rw[j x y e g]at a;simp only [DataW.lit.injEq,Lit.int.injEq,true_and]at a;rw[a];exact d
theorem nR.entry{x y:Nat}(hn:n<=1000000)(hx:x<=1000000)(hy:y<=1000000):∃R w1,∃O:Nat,(Instr.mapEntry 357 (.map (some b)) (kv x y)).run Tryz.prog w=.ok (.tuple #[R,.int .i64 O]) w1/\Keeps (fun q=>q=b) w w1 /\
  (Instr.lookup 357 (.map (some b)) (kv x y) false).run Tryz.prog w1=.ok (.int .i64 (f x y:Nat)) w1 /\
  ∀z:Nat,z<=1000000->∃U,(Instr.entryStore 357 (.map (some b)) (.int .i64 O) (.int .i64 z)).run Tryz.prog w1=.ok () U/\nR U b (n+1) (wu f x y z)/\Keeps (fun q=>q=b) w U:=by
 have hh:=h;obtain⟨D,V,P,h3⟩:=h;have m:=Gy (x:=x) (y:=y) (by omega) (by omega);obtain⟨es,a,p,F,hs,hD⟩:=id V;obtain⟨R,O,A,d,W,e2,e3⟩:=WideElems.entry_then_store Np Tryz.underlying357 F6 p F m;have K:(ChangeMaps.setBlock w b (.map A d)).heap[b]? = some (.map A d):=ChangeMaps.heap_setBlock_same p _;have B:∀o,Keeps (fun q=>q=b) w (ChangeMaps.setBlock w b o):=fun o=>(Keeps.refl (fun q=>q=b) w).grown (row:=some b) ⟨rfl,rfl,rfl,by simp[ChangeMaps.setBlock],fun i _ hi=>ChangeMaps.heap_setBlock_other p _ (fun e=>hi (by rw[e]))⟩ (fun q X=>.inl (Option.some.inj X).symm);refine⟨R,_,O,W,B _,?_,fun z hz=>?_⟩
 ·obtain⟨s1,s2,_⟩:=F.stamped;rcases vZ.find w m es.toList F.keys with⟨Q,C⟩|⟨j,t,Q,E,L⟩
  ·have Y:(Instr.mapEntry 357 (.map (some b)) (kv x y)).run Tryz.prog w=.ok (.tuple #[.int .i64 0,goInt a]) (ChangeMaps.setBlock w b (.map (es.push ⟨kv x y,.int .i64 0,a⟩) (a+1))):=by simp[Instr.mapEntry,run_underlying Tryz.underlying357,MapKept.run_getObj_map p,vZ.check w false m,Q,MapKept.run_setObj_map _ p,Result.andThen,ChangeMaps.setBlock,kv]
   have r2:(Instr.mapUpdate 357 (.map (some b)) (kv x y) (.int .i64 0)).run Tryz.prog w=.ok () (ChangeMaps.setBlock w b (.map (es.push ⟨kv x y,.int .i64 0,a⟩) (a+1))):=by simp[Instr.mapUpdate,run_underlying Tryz.underlying357,MapKept.run_getObj_map p,vZ.check w false m,Q,MapKept.run_setObj_map _ p,Result.andThen,ChangeMaps.setBlock,kv]
   obtain⟨w',g,Z,_⟩:=V.update vZ Tryz.underlying357 (by unfold maxLen;omega) m (plainElem_int Tryz.underlying3 (Gf (k:=0) (by omega)));have M:=r2.symm.trans g;simp only [Result.ok.injEq,true_and]at M;have N:=Y.symm.trans W;simp only [Result.ok.injEq]at N;rw[<-N.2,M];obtain⟨c,H,I,_⟩:=Z.lookup_int vZ Tryz.underlying357 Tryz.underlying3 (F6 w') m;rw[Maps.atKey_put_same P (vZ.key m)]at I;simp only [DataW.lit.injEq,Lit.int.injEq,true_and]at I;have h0:=hh.look (x:=x) (y:=y) hx hy
   have r0:(Instr.lookup 357 (.map (some b)) (kv x y) false).run Tryz.prog w=.ok (.int .i64 0) w:=by
    rcases Maps.fit_look false vZ Tryz.underlying357 (F6 w) p F m with⟨g,_,_⟩|⟨t,y0,aa,ab,_⟩
    ·exact g
    ·exact absurd ab (C t aa)
   rw[r0]at h0;simp only [Result.ok.injEq,and_true]at h0;rw[<-h0,show (0:Int)=c from I];exact H
  ·have hj:es[j]? = some t:=by simpa using E
   have J:es.modify j (fun e=>{ e with key:=kv x y })=es:=by
    apply Array.ext';rw[Array.toList_modify,ChangeMaps.modify_eq_set _ _ _ _ E];have:({ t with key:=kv x y }:MapEntry)=t:=by rw[show kv x y=t.key from L.symm]
    rw[this];exact WideElems.set_self _ _ _ E
   have Y:(Instr.mapEntry 357 (.map (some b)) (kv x y)).run Tryz.prog w=.ok (.tuple #[t.val,goInt t.born]) (ChangeMaps.setBlock w b (.map es a)):=by have l:=J;unfold kv at l ⊢;simp[Instr.mapEntry,run_underlying Tryz.underlying357,MapKept.run_getObj_map p,vZ.check w false m,Q,hj,L,vZ.stays w m,l,MapKept.run_setObj_map _ p,Result.andThen,ChangeMaps.setBlock]
   have N:=Y.symm.trans W;simp only [Result.ok.injEq]at N;rw[<-N.2];refine nR.look (h:=⟨D,⟨es,a,ChangeMaps.heap_setBlock_same p _,F,hs,hD⟩,P,h3⟩) hx hy
 ·obtain⟨ad,s,q1,q2⟩:=e3 _ (.int .i64 z) K;obtain⟨w',g,Z,g2⟩:=V.update vZ Tryz.underlying357 (by unfold maxLen;omega) m (plainElem_int Tryz.underlying3 (Gf (k:=z) (by omega)));have M:=q2.symm.trans g;simp only [Result.ok.injEq,true_and]at M;have hE:(ChangeMaps.setBlock (ChangeMaps.setBlock w b (.map A d)) b (.map ad s))=w':=by rw[<-M];unfold ChangeMaps.setBlock;simp
  refine⟨_,q1,?_,?_⟩
  ·rw[hE];refine⟨_,Z,P.put _ _,fun u v hu hv=>?_⟩;unfold wu;by_cases hc:u=x/\v=y
   ·obtain⟨rfl,rfl⟩:=hc;rw[if_pos ⟨rfl,rfl⟩];exact Maps.atKey_put_same P (vZ.key m) _ _
   ·rw[if_neg hc,Maps.atKey_put_other (fun e=>hc (UD (by omega) (by omega) (by omega) (by omega) e))];exact h3 u v hu hv
  ·rw[hE];exact(Keeps.refl (fun q=>q=b) w).grown g2 (fun q X=>.inl (Option.some.inj X).symm)
end
end
section
def uw(S:Nat->Nat)(es:List Nat)(i:Nat):Prop:=1<=i/\i+1<es.length/\yO S es (es.getD i 0)=2/\∀j,1<=j->j<i->yO S es (es.getD j 0)≠2
noncomputable def fidx(S:Nat->Nat)(es:List Nat):Nat:=open Classical in if h:∃i,uw S es i then h.choose else 0
theorem uw.eq{S:Nat->Nat}{es:List Nat}{i:Nat}(h:uw S es i):fidx S es=i:=by
 have a:∃i,uw S es i:=⟨i,h⟩
 unfold fidx;rw[dif_pos a];have d:=a.choose_spec;generalize a.choose=k at *;rcases Nat.lt_trichotomy k i with c|rfl|c
 ·exact absurd d.2.2.1 (h.2.2.2 k d.1 c)
 ·rfl
 ·exact absurd h.2.2.1 (d.2.2.2 i h.1 c)
noncomputable def EF(S:Nat->Nat)(a b:Nat):Nat:=open Classical in if h:∃m,m<per S a/\itr S m a=b then h.choose else 0
theorem UE{n:Nat}{S:Nat->Nat}(h:dO n S){a b m:Nat}(g:a<n)(d:m<per S a)(e:itr S m a=b):EF S a b=m:=by
 have c:∃m,m<per S a/\itr S m a=b:=⟨m,d,e⟩
 unfold EF;rw[dif_pos c];exact h.fB g c.choose_spec.1 d (by rw[c.choose_spec.2,e])
noncomputable def Jl(S:Nat->Nat)(es:List Nat):List Nat :=
 es.take (fidx S es - 1) ++ (mI S (mt (es.getD (fidx S es - 1) 0)) (EF S (mt (es.getD (fidx S es - 1) 0)) (es.getD (fidx S es) 0)) ++ es.drop (fidx S es+1))
section
variable {n:Nat} {S:Nat->Nat} {r:Nat} {es:List Nat} {G:Nat->Prop} (h:Shl n S r es G) (T:jO n S) (hr:r<n)
include h T hr
theorem Shl.next:∃A p q B M,es=A ++ p :: q :: B/\B≠[]/\uw S es (A.length+1)/\lS n S r es G q/\0<M/\M<per S (mt p)/\itr S M (mt p)=q/\EF S (mt p) q=M /\
  es.getD (fidx S es - 1) 0=p/\es.getD (fidx S es) 0=q/\fidx S es=A.length+1/\Jl S es=A ++ (mI S (mt p) M ++ B):=by
 have hcut:∀i,1<=i->i+1<es.length->∃A p q B,es=A ++ p :: q :: B/\B≠[]/\A.length+1=i/\es.getD i 0=q:=by
  intro i v x;obtain⟨k,rfl⟩:∃k,i=k+1:=⟨i - 1,by omega⟩
  have I:es.drop k=es[k] :: es[k+1] :: es.drop (k+2):=by rw[List.drop_eq_getElem_cons (by omega),List.drop_eq_getElem_cons (by omega)]
  refine⟨es.take k,es[k],es[k+1],es.drop (k+2),?_,?_,?_,?_⟩
  ·rw[<-I,List.take_append_drop]
  ·intro J;have:=congrArg List.length J;simp at this;omega
  ·rw[List.length_take];omega
  ·rw[List.getD_eq_getElem?_getD,List.getElem?_eq_getElem (by omega),Option.getD_some]
 obtain⟨A0,P,y,Q,c,g,o⟩:=h.zw T hr;have s:es.getD (A0.length+1) 0=y:=by rw[c,List.getD_eq_getElem?_getD];simp
 have UF:1<=A0.length+1/\A0.length+1+1<es.length/\yO S es (es.getD (A0.length+1) 0)=2:=by
  refine⟨by omega,?_,?_⟩
  ·rw[c];have:=List.length_pos_iff.2 g;simp;omega
  ·rw[s];exact(h.xL T c g (h.lt y (by rw[c];simp)) rfl).2 o
 obtain⟨i,z,R,t,K⟩:=open Classical in Bj (fun i=>yO S es (es.getD i 0)=2) 1 A0.length (by rw[Nat.add_comm];exact UF.2.2);have hF:uw S es i:=⟨z,by omega,t,fun j v x=>K j v x⟩
 obtain⟨A,p,q,B,a,C,d,l⟩:=hcut i z (by omega);have L:p ∈ es:=by rw[a];simp
 have N:q ∈ es:=by rw[a];simp
 obtain⟨M,O,D,E,-,-⟩:=h.run T hr a;have m:=UE T.dR (T.mlt (h.lt p L)) D E;have u:lS n S r es G q:=by rw[l]at t;exact(h.xL T a C (h.lt q N) rfl).1 t
 have e:=hF.eq;have F:es.getD (fidx S es - 1) 0=p:=by rw[e,<-d,a,List.getD_eq_getElem?_getD];simp
 have H:es.getD (fidx S es) 0=q:=by rw[e];exact l
 refine⟨A,p,q,B,M,a,C,by rw[d];exact hF,u,O,D,E,m,F,H,by rw[e,d],?_⟩;unfold Jl;rw[F,H,m,e,<-d,a];congr 1
 ·simp
 ·congr 1;rw[show A.length+1+1=A.length+2 by omega,List.drop_append];simp
end
noncomputable def jU(S:Nat->Nat)(r:Nat):Nat->List Nat
 | 0=>es0 S r
 | j+1=>Jl S (jU S r j)
noncomputable def oI(S:Nat->Nat)(r j:Nat):Nat:=(jU S r j).getD (fidx S (jU S r j)) 0
noncomputable def iN(S:Nat->Nat)(r j:Nat):Nat:=mt ((jU S r j).getD (fidx S (jU S r j) - 1) 0)
noncomputable def kX(S:Nat->Nat)(r j:Nat):Nat:=vnum S (oI S r j)
noncomputable def iP(S:Nat->Nat)(r j:Nat):List Nat:=(List.range j).map (kX S r)
theorem Cj(S:Nat->Nat)(r j:Nat):iP S r (j+1)=iP S r j ++ [kX S r j]:=by unfold iP;rw[List.range_succ,List.map_append];rfl
theorem oO{S:Nat->Nat}{r j v:Nat}:v ∈ iP S r j↔∃i,i<j/\kX S r i=v:=by unfold iP;rw[List.mem_map];exact⟨fun ⟨i,h1,h2⟩=>⟨i,List.mem_range.1 h1,h2⟩,fun ⟨i,h1,h2⟩=>⟨i,List.mem_range.2 h1,h2⟩⟩
theorem Nq{n:Nat}{S:Nat->Nat}{v:Nat}(e:v<eu S n):∃x,x<n/\vnum S x=v:=by
 have key:∀m,m<=n->v<eu S m->∃x,x<m/\vnum S x=v:=by
  intro m
  induction m with
  | zero=>intro _ g;rw[Qw]at g;omega
  | succ m d =>
   intro k a;rw[sw]at a;by_cases hr:rep S m=m
   ·rw[if_pos hr]at a;by_cases i:v<eu S m
    ·obtain⟨x,j,c⟩:=d (by omega) i;exact⟨x,by omega,c⟩
    ·exact⟨m,by omega,by unfold vnum;rw[hr];omega⟩
   ·rw[if_neg hr]at a;obtain⟨x,j,c⟩:=d (by omega) a;exact⟨x,by omega,c⟩
 exact key n (Nat.le_refl _) e
structure dJ (n:Nat)(S:Nat->Nat)(r N:Nat):Prop where
 shl:∀j,j<N->Shl n S r (jU S r j) (fun v=>v ∈ iP S r j)
 two:∃a b,jU S r N=[a,b]
 pos:0<N
 Nr:(iP S r N).Nodup
 all:∀x,x<n->vnum S x ∈ iP S r N\/vnum S x=vnum S r\/vnum S x=vnum S (mt r)
 one:vnum S r ∉ iP S r N
 Dq:vnum S (mt r) ∉ iP S r N
 cnt:N+2=eu S n
section
variable {n:Nat} {S:Nat->Nat} (T:jO n S) {r:Nat} (hr:r<n)
include T hr
theorem jO.oP:∃N,dJ n S r N:=by
 obtain⟨P,hP⟩:∃P:Nat->Prop,P=fun j=>(jU S r j).length<3:=⟨_,rfl⟩
 have t:∀j,(∀i,i<=j->3<=(jU S r i).length)->Shl n S r (jU S r j) (fun v=>v ∈ iP S r j):=by
  intro j
  induction j with
  | zero =>
   intro _;have:(fun v=>v ∈ iP S r 0)=fun _=>False:=by funext v;simp[iP]
   rw[this];exact Shl.init T hr
  | succ j ih =>
   intro e;have I:=ih (fun i E=>e i (by omega));obtain⟨A,p,q,B,M,d,W,hF,hq,m0,m1,X,H,g1,J,K,k⟩:=I.next T hr;have h3:=e (j+1) (Nat.le_refl _);have F:jU S r (j+1)=A ++ (mI S (mt p) M ++ B):=k;rw[F]at h3 ⊢;have:=I.step T hr d W hq m1 X h3
   have e2:(fun v=>v ∈ iP S r (j+1))=fun v=>v ∈ iP S r j\/v=vnum S q:=by
    funext v;have:kX S r j=vnum S q:=by unfold kX oI;rw[J]
    rw[Cj,List.mem_append,List.mem_singleton,this]
   rw[e2];exact this
 have l:∀j,(∀i,i<j->3<=(jU S r i).length)->(iP S r j).Nodup/\∀v ∈ iP S r j,v<eu S n:=by
  intro j
  induction j with
  | zero=>intro _;simp[iP]
  | succ j ih =>
   intro e;obtain⟨c,h2⟩:=ih (fun i E=>e i (by omega));have I:=t j (fun i E=>e i (by omega));obtain⟨A,p,q,B,M,d,W,hF,hq,m0,m1,X,H,g1,J,K,k⟩:=I.next T hr;have u:q ∈ jU S r j:=by rw[d];simp
   have F:kX S r j=vnum S q:=by unfold kX oI;rw[J]
   rw[Cj,F];refine⟨List.nodup_append.2 ⟨c,by simp,fun a ha b Y aa=>?_⟩,fun v o=>?_⟩
   ·rw[List.mem_singleton]at Y;rw[aa,Y]at ha;exact I.live q u ha
   ·rcases List.mem_append.1 o with o|o
    ·exact h2 v o
    ·rw[List.mem_singleton]at o;rw[o];exact T.dR.gK (I.lt q u)
 have L:∃j,P j:=by apply Classical.byContradiction;intro y;have e:∀i,3<=(jU S r i).length:=fun i=>Nat.not_lt.1 (fun ab=>y ⟨i,by rw[hP];exact ab⟩);obtain⟨c,h2⟩:=l (eu S n+1) (fun i _=>e i);have:=Bl _ _ c h2;simp[iP]at this;omega
 obtain⟨j0,hj0⟩:=L;obtain⟨N,-,-,g,O⟩:=open Classical in Bj P 0 j0 (by rw[Nat.zero_add];exact hj0);have e:∀i,i<N->3<=(jU S r i).length:=fun i E=>by have:=O i (Nat.zero_le _) E;rw[hP]at this;exact Nat.not_lt.1 this
 have g:(jU S r N).length<3:=by rw[hP]at g;exact g
 have Q:0<N:=by
  rcases Nat.eq_zero_or_pos N with h0|h0
  ·rw[h0]at g;simp[jU,es0]at g
  ·exact h0
 obtain⟨m,hm⟩:∃m,N=m+1:=⟨N - 1,by omega⟩
 have I:=t m (fun i E=>e i (by omega));obtain⟨A,p,q,B,M,d,W,hF,hq,m0,m1,X,H,g1,J,K,k⟩:=I.next T hr;have F:jU S r N=A ++ (mI S (mt p) M ++ B):=by rw[hm];exact k
 have ad:=List.length_pos_iff.2 W;rw[F]at g;simp only [List.length_append,q4z]at g;have hA:A=[]:=List.eq_nil_of_length_eq_zero (by omega);have hM:M=1:=by omega
 obtain⟨b,Y⟩:∃b,B=[b]:=by
  match B,ad,g with
  | [b],_,_=>exact⟨b,rfl⟩
  | _ :: _ :: _,_,g=>simp at g;omega
 subst hA hM Y;have d:jU S r m=[p,q,b]:=d;have u:q ∈ jU S r m:=by rw[d];simp
 have z:iP S r N=iP S r m ++ [vnum S q]:=by rw[hm,Cj];unfold kX oI;rw[J]
 have R:=I.fin T hr d X;have U:vnum S r=vnum S p:=I.zu p _ d;have V:b=mt r:=by obtain⟨C,Z⟩:=I.last;rw[d,show [p,q,b]=[p,q] ++ [b]from rfl]at Z;have:=(List.append_inj' Z rfl).2;simpa using this
 obtain⟨n1,n2⟩:=l N e;have hd:=I.dist;rw[d]at hd;simp at hd
 have o1:vnum S r ∉ iP S r N:=by
  rw[z,List.mem_append,List.mem_singleton,U];rintro (c|c)
  ·exact I.live p (by rw[d];simp) c
  ·exact hd.1.1 c
 have o2:vnum S (mt r) ∉ iP S r N:=by
  rw[z,List.mem_append,List.mem_singleton,<-V];rintro (c|c)
  ·exact I.live b (by rw[d];simp) c
  ·exact hd.2 c.symm
 have s:∀x,x<n->vnum S x ∈ iP S r N\/vnum S x=vnum S r\/vnum S x=vnum S (mt r):=by
  intro x hx;rw[z,List.mem_append,List.mem_singleton,U,<-V];rcases R x hx with c|c|c|c
  ·exact .inl (.inl c)
  ·exact .inr (.inl c)
  ·exact .inl (.inr c)
  ·exact .inr (.inr c)
 refine⟨N,fun j hj=>t j (fun i E=>e i (by omega)),⟨_,_,by rw[F];rfl⟩,Q,n1,s,o1,o2,?_⟩;have D:=T.loop r hr
 have Z:(vnum S r :: vnum S (mt r) :: iP S r N).Nodup:=by
  rw[List.nodup_cons,List.nodup_cons];refine⟨fun y=>?_,o2,n1⟩;rcases List.mem_cons.1 y with y|y
  ·exact D y
  ·exact o1 y
 have c:=vI Z (List.nodup_range (n:=eu S n)) (fun v=>by
  rw[List.mem_range,List.mem_cons,List.mem_cons];constructor
  ·rintro (c|c|c)
   ·rw[c];exact T.dR.gK hr
   ·rw[c];exact T.dR.gK (T.mlt hr)
   ·exact n2 v c
  ·intro o;obtain⟨x,hx,rfl⟩:=Nq o;rcases s x hx with c|c|c
   ·exact .inr (.inr c)
   ·exact .inl c
   ·exact .inr (.inl c))
 simp[iP]at c;omega
end
end
