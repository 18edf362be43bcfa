import Derived.Test.YtalhcfjcbbkpgaaGreatZt17
import Derived.Test.YtalhcfjcbbkpgaaGreatZt19
set_option maxRecDepth 100000
set_option maxHeartbeats 4000000
namespace Go.Proofs.YtalhcfjcbbkpgaaGreat
section
noncomputable def jC(S:Nat->Nat)(r N k:Nat):Nat:=dN (kQ S r N) k (fc S (fc S r))
noncomputable def qQ(S:Nat->Nat)(r N x:Nat):List Bool:=open Classical in if kid S r N x then [true]else if kid S r N (mt x)then [false]else []
noncomputable def qE(S:Nat->Nat)(r N x:Nat):List Nat:=(jg S x).filter fun y=>col S r N (mt y) == 1
noncomputable def FQ(S:Nat->Nat)(r N x:Nat):List Bool:=(if mt x=fc S (fc S r)then [true]else []) ++ (List.replicate (qE S r N x).length true ++ [false])
noncomputable def uh(S:Nat->Nat)(r N x:Nat):List Bool:=open Classical in if kid S r N (mt x)then FQ S r N x else []
noncomputable def iR(S:Nat->Nat)(r N:Nat):Nat->List Bool
 | 0=>[]
 | k+1=>iR S r N k ++ qQ S r N (jC S r N k)
noncomputable def iM(S:Nat->Nat)(r N:Nat):Nat->List Bool
 | 0=>[]
 | k+1=>iM S r N k ++ uh S r N (jC S r N k)
noncomputable def fZ(S:Nat->Nat)(r N:Nat):Nat->List Nat
 | 0=>[]
 | k+1=>open Classical in if kid S r N (jC S r N k)then jC S r N k :: fZ S r N k else if kid S r N (mt (jC S r N k))then (fZ S r N k).tail else fZ S r N k
noncomputable def mV(S:Nat->Nat)(r N:Nat):List Nat->Prop
 | []=>True
 | [y]=>kid S r N y/\dB S y=dB S (fc S (fc S r))
 | y :: z :: l=>kid S r N y/\dB S y=dB S (mt z)/\mV S r N (z :: l)
noncomputable def Dm(S:Nat->Nat)(r:Nat):List Nat->Nat
 | []=>dB S (fc S (fc S r))
 | y :: _=>dB S (mt y)
theorem Hz(S:Nat->Nat)(r N k:Nat):jC S r N (k+1)=kQ S r N (jC S r N k):=rfl
theorem mV.tail{S:Nat->Nat}{r N y:Nat}{l:List Nat}(h:mV S r N (y :: l)):mV S r N l/\kid S r N y/\dB S y=Dm S r l:=by
 rcases l with _|⟨z,l⟩
 ·exact⟨trivial,h.1,h.2⟩
 ·exact⟨h.2.2,h.1,h.2.1⟩
theorem mV.cons{S:Nat->Nat}{r N y:Nat}{l:List Nat}(h:mV S r N l)(a:kid S r N y)(c:dB S y=Dm S r l):mV S r N (y :: l):=by
 rcases l with _|⟨z,l⟩
 ·exact⟨a,c⟩
 ·exact⟨a,c,h⟩
theorem KH(S:Nat->Nat)(r N:Nat):∀k,(fZ S r N k).length<=k
 | 0=>Nat.le_refl _
 | k+1=>by
  have:=KH S r N k;unfold fZ;split
  ·simp only [List.length_cons];omega
  ·split
   ·simp only [List.length_tail];omega
   ·omega
section
variable {n:Nat} {S:Nat->Nat} (T:jB n S) {r:Nat} (hr:r<n) {N:Nat} (K:dL n S r N)
include T hr K
omit K in
theorem jB.sM(k:Nat):jC S r N k<n:=(T.oH (r:=r) (N:=N)).eD (T.gJ (T.gJ hr)) k
theorem dL.vQ{i j:Nat}(a:i<n)(c:j<n)(h:jC S r N i=jC S r N j):i=j :=
 (T.oH (r:=r) (N:=N)).fE (T.gJ (T.gJ hr)) (by rw[K.qC T hr];exact a) (by rw[K.qC T hr];exact c) h
theorem dL.vR:jC S r N n=fc S (fc S r):=by have:=((T.oH (r:=r) (N:=N)).dQ (T.gJ (T.gJ hr))).2.2.1;rw[K.qC T hr]at this;exact this
theorem dL.yR:((List.range n).map (jC S r N)).Perm (List.range n):=by
 rw[List.perm_ext_iff_of_nodup _ List.nodup_range]
 ·intro x;rw[List.mem_map,List.mem_range];constructor
  ·rintro⟨k,-,rfl⟩;exact T.sM hr k
  ·intro f;obtain⟨i,e,c⟩:=(T.oH (r:=r) (N:=N)).iJ (T.gJ (T.gJ hr)) (K.span T hr x f);rw[K.qC T hr]at e;exact⟨i,List.mem_range.2 e,c⟩
 ·rw[List.Nodup,List.pairwise_map];refine List.Pairwise.imp_of_mem ?_ (List.nodup_range (n:=n));intro a b g j d c;exact d (K.vQ T hr (List.mem_range.1 g) (List.mem_range.1 j) c)
theorem dL.stk:∀k,k<=n->mV S r N (fZ S r N k)/\dB S (jC S r N k)=Dm S r (fZ S r N k):=by
 intro k
 induction k with
 | zero=>exact fun _=>⟨trivial,rfl⟩
 | succ k j =>
  intro p;obtain⟨g,a⟩:=j (by omega);have i:=T.sM hr (N:=N) k;rw[Hz];by_cases c:kid S r N (jC S r N k)
  ·have e:fZ S r N (k+1)=jC S r N k :: fZ S r N k:=by rw[fZ];exact if_pos c
   have f:kQ S r N (jC S r N k)=S (mt (jC S r N k)):=by unfold kQ;exact if_pos (.inl c)
   rw[e,f];exact⟨g.cons c a,T.vS (T.mlt i)⟩
  ·by_cases d:kid S r N (mt (jC S r N k))
   ·have e:fZ S r N (k+1)=(fZ S r N k).tail:=by rw[fZ,if_neg c];exact if_pos d
    have f:kQ S r N (jC S r N k)=S (mt (jC S r N k)):=by unfold kQ;exact if_pos (.inr d)
    rw[e,f,T.vS (T.mlt i)];rcases hst:fZ S r N k with _|⟨y,l⟩
    ·rw[hst]at a;exact absurd a (K.qB T hr d)
    ·rw[hst]at g a;obtain⟨m,o,t3⟩:=g.tail;have:jC S r N k=mt y:=K.nX T hr a d (by rw[dG];exact o);rw[this,dG];exact⟨m,t3⟩
   ·have e:fZ S r N (k+1)=fZ S r N k:=by rw[fZ,if_neg c];exact if_neg d
    have f:kQ S r N (jC S r N k)=S (jC S r N k):=by unfold kQ;exact if_neg (by rintro (h|h);exact c h;exact d h)
    rw[e,f,T.vS i];exact⟨g,a⟩
theorem dL.uQ{k y:Nat}{l:List Nat}(f:k<=n)(h:fZ S r N k=y :: l):(kid S r N (mt (jC S r N k))↔jC S r N k=mt y)/\kid S r N y:=by obtain⟨c,d⟩:=K.stk T hr k f;rw[h]at c d;obtain⟨-,a,-⟩:=c.tail;refine⟨⟨fun g=>K.nX T hr d g (by rw[dG];exact a),fun e=>by rw[e,dG];exact a⟩,a⟩
theorem dL.Ap{k:Nat}(c:k<=n)(h:fZ S r N k=[]):¬kid S r N (mt (jC S r N k)):=by obtain⟨e,a⟩:=K.stk T hr k c;rw[h]at a;exact fun d=>K.qB T hr d a
theorem dL.vT:fZ S r N n=[]:=by
 obtain⟨c,a⟩:=K.stk T hr n (Nat.le_refl _);rw[K.vR T hr]at a;rcases hst:fZ S r N n with _|⟨y,l⟩
 ·rfl
 ·rw[hst]at c a;exact absurd a.symm (K.qB T hr (y:=mt y) (by rw[dG];exact c.tail.2.1))
theorem dL.BN{v:Nat}(l:v<dY S n)(m:v≠dB S (fc S (fc S r))):∃x,x<n/\kid S r N x/\dB S (mt x)=v:=by
 obtain⟨t,o,t3⟩:=T.twins (hr:=hr);obtain⟨x,p,rfl⟩:=Nz l;have a:kid S r N (fc S (fc S r)):=.inr (.inl rfl);have c:kid S r N (mt (fc S r)):=.inr (.inr rfl);rcases K.all x p with h|h|h
 ·obtain⟨j,d,g⟩:=o9.1 h
  have f:¬qp S r (lI S r j):=by
   rintro (e|e|e)
   ·exact K.one (by rw[<-e];exact o9.2 ⟨j,d,rfl⟩)
   ·rw[T.vf hr]at e;exact K.DJ (by rw[<-e];exact o9.2 ⟨j,d,rfl⟩)
   ·exact m (by rw[<-g,e])
  obtain⟨i,y,u,k,q⟩:=K.parent T hr d f;exact⟨y,(K.ins T hr (by omega) k).1,(K.kD T hr).2 (.inl ⟨i,by omega,k⟩),by rw[q,g]⟩
 ·exact⟨_,T.gJ (T.gJ hr),a,by rw[o,h]⟩
 ·exact⟨_,T.mlt (T.gJ hr),c,by rw[t3,h]⟩
omit T hr K in
theorem FR{P:Nat->Prop}[DecidablePred P](c:Nat->Nat):∀l:List Nat,(l.map fun x=>if P x then c x else 0).sum=((l.filter fun x=>decide (P x)).map c).sum
 | []=>rfl
 | x :: l=>by
  rw[List.map_cons,List.sum_cons,FR c l];by_cases h:P x
  ·rw[if_pos h,List.filter_cons_of_pos (by simpa using h),List.map_cons,List.sum_cons]
  ·rw[if_neg h,List.filter_cons_of_neg (by simpa using h)];omega
omit T hr K in
theorem Ia(f g:Nat->Nat):∀l:List Nat,(l.map fun x=>f x+g x).sum=(l.map f).sum+(l.map g).sum
 | []=>rfl
 | x :: l=>by simp only [List.map_cons,List.sum_cons,Ia f g l];omega
omit T hr K in
theorem FT:∀l:List Nat,(l.map fun _=>1).sum=l.length
 | []=>rfl
 | x :: l=>by simp only [List.map_cons,List.sum_cons,FT l,List.length_cons];omega
omit T hr K in
theorem P7(f:Nat->List Nat):∀l:List Nat,(l.flatMap f).length=(l.map fun x=>(f x).length).sum
 | []=>rfl
 | x :: l=>by simp only [List.flatMap_cons,List.length_append,List.map_cons,List.sum_cons,P7 f l]
noncomputable def vU(S:Nat->Nat)(r N n:Nat):List Nat:=open Classical in (List.range n).filter fun x=>decide (kid S r N (mt x))
omit T hr K in
theorem xA{x:Nat}:x ∈ vU S r N n↔x<n/\kid S r N (mt x):=by simp[vU]
omit T hr K in
theorem q4z:(vU S r N n).Nodup:=List.Nodup.sublist List.filter_sublist List.nodup_range
theorem dL.vV:(vU S r N n).length+1=dY S n:=by
 have f:dB S (fc S (fc S r))<dY S n:=T.dW.fT (T.gJ (T.gJ hr));have g:((vU S r N n).map (dB S)).Nodup:=by rw[List.Nodup,List.pairwise_map];refine List.Pairwise.imp_of_mem ?_ (q4z (n:=n));intro a b i j c k;exact c (K.nX T hr k (xA.1 i).2 (xA.1 j).2)
 have d:((List.range (dY S n)).filter fun v=>v != dB S (fc S (fc S r))).Nodup:=List.Nodup.sublist List.filter_sublist List.nodup_range
 have l:=vY g d (fun v=>by
  rw[List.mem_map,List.mem_filter,List.mem_range];constructor
  ·rintro⟨x,hx,rfl⟩;obtain⟨a,b⟩:=xA.1 hx;exact⟨T.dW.fT a,by simpa using K.qB T hr b⟩
  ·rintro⟨a,b⟩;obtain⟨x,m,o,p⟩:=K.BN T hr a (by simpa using b);exact⟨mt x,xA.2 ⟨T.mlt m,by rw[dG];exact o⟩,p⟩)
 rw[List.length_map]at l
 have q:(dB S (fc S (fc S r)) :: (List.range (dY S n)).filter fun v=>v != dB S (fc S (fc S r))).length=(List.range (dY S n)).length:=by
  refine vY ?_ List.nodup_range (fun v=>?_)
  ·rw[List.nodup_cons];exact⟨by simp,d⟩
  ·rw[List.mem_cons,List.mem_filter,List.mem_range];constructor
   ·rintro (rfl|h)
    ·exact f
    ·exact h.1
   ·intro h;by_cases e:v=dB S (fc S (fc S r))
    ·exact .inl e
    ·exact .inr ⟨h,by simpa using e⟩
 rw[List.length_cons,List.length_range]at q;omega
omit hr K in
theorem jB.Aq:(open Classical in (List.range n).filter fun x=>decide (kid S r N x)).length=(vU S r N n).length:=by
 have d:((vU S r N n).map mt).length=(vU S r N n).length:=List.length_map ..;rw[<-d];refine vY (List.Nodup.sublist List.filter_sublist List.nodup_range) ?_ (fun x=>?_)
 ·rw[List.Nodup,List.pairwise_map];refine List.Pairwise.imp ?_ (q4z (n:=n));intro a b c e;exact c (by rw[<-dG a,e,dG])
 ·simp only [List.mem_filter,List.mem_range,decide_eq_true_eq,List.mem_map];constructor
  ·intro ⟨a,b⟩;exact⟨mt x,xA.2 ⟨T.mlt a,by rw[dG];exact b⟩,dG x⟩
  ·rintro⟨y,hy,rfl⟩;obtain⟨a,b⟩:=xA.1 hy;exact⟨T.mlt a,b⟩
theorem dL.uj(c:Nat->Nat):((List.range n).map fun k=>c (jC S r N k)).sum=((List.range n).map c).sum:=by have:=((K.yR T hr).map c).sum_nat;rw[List.map_map]at this;exact this
omit T hr K in
theorem XP(k:Nat):(iR S r N k).length=((List.range k).map fun i=>(qQ S r N (jC S r N i)).length).sum:=by
 induction k with
 | zero=>rfl
 | succ k a=>rw[iR,List.length_append,a,List.range_succ,List.map_append,List.sum_append];simp
omit T hr K in
theorem XQ(k:Nat):(iM S r N k).length=((List.range k).map fun i=>(uh S r N (jC S r N i)).length).sum:=by
 induction k with
 | zero=>rfl
 | succ k a=>rw[iM,List.length_append,a,List.range_succ,List.map_append,List.sum_append];simp
theorem dL.rH:(iR S r N n).length+2=2 * dY S n:=by
 classical
 have e:∀x,(qQ S r N x).length=(open Classical in if kid S r N x then 1 else 0)+(open Classical in if kid S r N (mt x)then 1 else 0):=fun x=>by
  unfold qQ;by_cases c:kid S r N x
  ·have a:¬kid S r N (mt x):=fun a=>K.uP T hr c a;simp[c,a]
  ·by_cases a:kid S r N (mt x) <;> simp[c,a]
 rw[XP,K.uj T hr (fun x=>(qQ S r N x).length)];simp only [e];rw[Ia,FR (P:=kid S r N) (fun _=>1),FR (P:=fun x=>kid S r N (mt x)) (fun _=>1),FT,FT];have c:=T.Aq (r:=r) (N:=N);have a:=K.vV T hr;have d:((List.range n).filter fun x=>open Classical in decide (kid S r N (mt x)))=vU S r N n:=rfl;rw[d];omega
theorem dL.yS{j:Nat}(a:j<N)(h:col S r N (iY S r j)=1):dB S (mt (iY S r j))≠dB S (fc S (fc S r))/\0<j:=by
 obtain⟨c,-,-⟩:=Ah.1 h;obtain⟨f,l,g⟩:=K.first T hr
 have d:0<j:=by
  rcases Nat.eq_zero_or_pos j with e|e
  ·subst e;rw[f]at c;obtain⟨m,i,t3⟩:=T.twins (hr:=hr);exact absurd ⟨.inr (.inr rfl),.inl i⟩ c
  ·exact e
 refine⟨?_,d⟩;obtain⟨A,p,q,B,G⟩:=K.goes T hr a;have k:p ∈ j3 S r j:=by rw[G.es];simp
 rw[G.lf,dG];intro e;exact(K.shl j a).live p k (o9.2 ⟨0,d,by rw[g,e]⟩)
theorem dL.Ar:(open Classical in (List.range n).filter fun y=>col S r N (mt y) == 1).length+1=N:=by
 have p:=K.pos;have e:((List.range (N - 1)).map fun j=>mt (iY S r (j+1))).Nodup:=by rw[List.Nodup,List.pairwise_map];refine List.Pairwise.imp_of_mem ?_ (List.nodup_range (n:=N - 1));intro a b g k l m;rw[List.mem_range]at g k;have:=K.Di T hr (i:=a+1) (j:=b+1) (by omega) (by omega) (by rw[<-dG (iY S r (a+1)),m,dG]);omega
 have:=vY (List.Nodup.sublist List.filter_sublist (List.nodup_range (n:=n)):((List.range n).filter fun y=>col S r N (mt y) == 1).Nodup) e (fun y=>by
  simp only [List.mem_filter,List.mem_range,beq_iff_eq,List.mem_map];constructor
  ·rintro⟨a,b⟩;obtain⟨q,j,d,f⟩:=Ah.1 b;rw[f]at b;obtain⟨-,t⟩:=K.yS T hr d b;exact⟨j - 1,by omega,by rw[show j - 1+1=j by omega,<-f,dG]⟩
  ·rintro⟨j,d,rfl⟩;refine⟨T.mlt (K.nC T hr (by omega)),?_⟩;rw[dG];refine Ah.2 ⟨?_,j+1,by omega,rfl⟩;rintro⟨c,-⟩;rw[K.tZ T hr (by omega)]at c;obtain⟨u,v,o⟩:=K.first T hr;rcases c with c|c|c
   ·exact K.one (by rw[<-c];exact o9.2 ⟨_,by omega,rfl⟩)
   ·rw[T.vf hr]at c;exact K.DJ (by rw[<-c];exact o9.2 ⟨_,by omega,rfl⟩)
   ·rw[<-o]at c;have:=K.inj (by omega) (by omega) c;omega)
 rw[List.length_map,List.length_range]at this;omega
theorem dL.Dn:((vU S r N n).map fun x=>(qE S r N x).length).sum+1=N:=by
 rw[<-P7];have p:=K.Ar T hr
 suffices h:((vU S r N n).flatMap (qE S r N)).length=((List.range n).filter fun y=>col S r N (mt y) == 1).length by rw[h];exact p
 refine vY ?_ (List.Nodup.sublist List.filter_sublist (List.nodup_range (n:=n))) (fun y=>?_)
 ·rw[List.Nodup,List.pairwise_flatMap];constructor
  ·intro x f;exact List.Nodup.sublist List.filter_sublist (T.dW.lJ (xA.1 f).1)
  ·refine List.Pairwise.imp_of_mem ?_ (q4z (n:=n));intro a b q t g u w v z i;subst i;obtain⟨k,A⟩:=xA.1 q;obtain⟨o,B⟩:=xA.1 t;have s1:=(T.dW.gF k).1 (List.mem_filter.1 w).1;have s2:=(T.dW.gF o).1 (List.mem_filter.1 z).1;have c:=T.dW.fK k s1;exact g (K.nX T hr (by rw[(T.dW.eY k c).2 s1,(T.dW.eY o c).2 s2]) A B)
 ·simp only [List.mem_flatMap,List.mem_filter,List.mem_range,qE];constructor
  ·rintro⟨x,f,h1,h2⟩;exact⟨T.dW.fK (xA.1 f).1 ((T.dW.gF (xA.1 f).1).1 h1),h2⟩
  ·rintro⟨hy,h2⟩;have l:col S r N (mt y)=1:=by simpa using h2
   obtain⟨F,j,C,d⟩:=Ah.1 l;rw[d]at l;obtain⟨e,-⟩:=K.yS T hr C l;rw[<-d,dG]at e;obtain⟨x,m,D,E⟩:=K.BN T hr (T.dW.fT hy) e;exact⟨mt x,xA.2 ⟨T.mlt m,by rw[dG];exact D⟩,(T.dW.gF (T.mlt m)).2 ((T.dW.eY (T.mlt m) hy).1 E),h2⟩
theorem dL.oI:(iM S r N n).length+3=2 * dY S n:=by
 classical
 have e:∀x,(uh S r N x).length=(open Classical in if kid S r N (mt x)then ((if mt x=fc S (fc S r)then 1 else 0)+((qE S r N x).length+1))else 0):=fun x=>by
  unfold uh FQ;by_cases a:kid S r N (mt x)
  ·rw[if_pos a,if_pos a];by_cases c:mt x=fc S (fc S r) <;> simp[c] <;> omega
  ·rw[if_neg a,if_neg a];rfl
 rw[XQ,K.uj T hr (fun x=>(uh S r N x).length)];simp only [e];rw[FR (P:=fun x=>kid S r N (mt x)) (fun x=>(if mt x=fc S (fc S r)then 1 else 0)+((qE S r N x).length+1))];have d:((List.range n).filter fun x=>open Classical in decide (kid S r N (mt x)))=vU S r N n:=rfl;rw[d,Ia,Ia,FT,FR (P:=fun x=>mt x=fc S (fc S r)) (fun _=>1),FT];have f:=K.Dn T hr;have g:=K.vV T hr
 have i:((vU S r N n).filter fun x=>decide (mt x=fc S (fc S r))).length=1:=by
  have:=vY (l:=(vU S r N n).filter fun x=>decide (mt x=fc S (fc S r))) (m:=[mt (fc S (fc S r))]) (List.Nodup.sublist List.filter_sublist q4z) (by simp) (fun x=>by
   rw[List.mem_filter,List.mem_singleton,xA];constructor
   ·rintro⟨-,h⟩;rw[<-of_decide_eq_true h,dG]
   ·rintro rfl;exact⟨⟨T.mlt (T.gJ (T.gJ hr)),by rw[dG];exact .inr (.inl rfl)⟩,by simp[dG]⟩)
  exact this
 have j:=K.cnt;omega
theorem dL.xB:(iR S r N n ++ iM S r N n).length+5=4 * dY S n:=by have a:=K.rH T hr;have c:=K.oI T hr;rw[List.length_append];omega
end
end
section
open Go.RowKit
def kS(gt go:Nat)(vt vo:Value)(wr:World)(a c:Value)(w':World):Prop:=Keeps (fun k=>k=gt\/k=go\/vt.ownBlock=some k\/vo.ownBlock=some k) wr w' /\
 (∀q,a.ownBlock=some q->vt.ownBlock=some q\/wr.heap.size<=q)/\∀q,c.ownBlock=some q->vo.ownBlock=some q\/wr.heap.size<=q
theorem kS.refl(gt go:Nat)(vt vo:Value)(wr:World):kS gt go vt vo wr vt vo wr:=⟨Keeps.refl _ _,fun _ h=>.inl h,fun _ h=>.inl h⟩
theorem kS.still{gt go:Nat}{vt vo a c:Value}{wr w1 d:World}(h:kS gt go vt vo wr a c w1)(k:Keeps (fun _=>False) w1 d):kS gt go vt vo wr a c d:=⟨h.1.trans k (fun _ _ e=>e.elim),h.2⟩
theorem kS.trans{gt go:Nat}{vt vo a c d f:Value}{wr w1 i:World}(h:kS gt go vt vo wr a c w1)(k:kS gt go a c w1 d f i):kS gt go vt vo wr d f i:=by
 have j:=h.1.size;refine⟨h.1.trans k.1 (fun x l e=>?_),fun q g=>?_,fun q g=>?_⟩
 ·rcases e with e|e|e|e
  ·exact .inl e
  ·exact .inr (.inl e)
  ·rcases h.2.1 x e with e|e
   ·exact .inr (.inr (.inl e))
   ·omega
  ·rcases h.2.2 x e with e|e
   ·exact .inr (.inr (.inr e))
   ·omega
 ·rcases k.2.1 q g with e|e
  ·exact h.2.1 q e
  ·exact .inr (by omega)
 ·rcases k.2.2 q g with e|e
  ·exact h.2.2 q e
  ·exact .inr (by omega)
structure iI (w0:World)(b:Nat)(s:List Nat)(root lone:Int)(R Mw:Nat->Prop)(bw dO:Nat)(dv:Value)(k0 k1 k2:Nat)(ol:List Int)(ds:List Nat)(bt gt go fst lst:Nat)(vt vo:Value)(tw ow:List Bool)(wr:World):Prop where
 wm:WM w0 b s root lone R (fun x=>Mw x\/x=bt\/x=gt\/x=go\/vt.ownBlock=some x\/vo.ownBlock=some x) bw dO dv k0 k1 k2 ol ds wr
 mw:Mw bw/\Mw dO/\∀q,dv.ownBlock=some q->Mw q
 tb:wr.heap[bt]? = some (.cells #[.pointer (some ⟨bw,0,none⟩),.pointer (some ⟨b,0,none⟩),.pointer (some ⟨gt,0,none⟩),.pointer (some ⟨go,0,none⟩),.int .i64 fst,.int .i64 lst] 225 (0,0))
 tr:fq wr gt vt tw
 on:fq wr go vo ow
 ne:¬Mw bt/\¬Mw gt/\¬Mw go/\bt≠gt/\bt≠go/\gt≠go
 nt:∀q,vt.ownBlock=some q->¬Mw q/\q≠bt/\q≠gt/\q≠go/\¬vo.ownBlock=some q
 no:∀q,vo.ownBlock=some q->¬Mw q/\q≠bt/\q≠gt/\q≠go
section
variable {w0:World} {b:Nat} {s:List Nat} {root lone:Int} {R Mw:Nat->Prop} {bw dO:Nat} {dv:Value} {k0 k1 k2:Nat} {ol:List Int} {ds:List Nat} {bt gt go fst lst:Nat} {vt vo:Value} {tw ow:List Bool} {wr:World} (h:iI w0 b s root lone R Mw bw dO dv k0 k1 k2 ol ds bt gt go fst lst vt vo tw ow wr)
include h
theorem iI.still{a:World}(k:Keeps (fun _=>False) wr a):iI w0 b s root lone R Mw bw dO dv k0 k1 k2 ol ds bt gt go fst lst vt vo tw ow a :=
 ⟨h.wm.still k,h.mw,k.at h.tb (fun h=>h),h.tr.keeps k (fun h=>h) (fun _ _ h=>h),h.on.keeps k (fun h=>h) (fun _ _ h=>h),h.ne,h.nt,h.no⟩
theorem iI.drewN(q:Nat):iI w0 b s root lone R Mw bw dO dv k0 k1 k2 ol ds bt gt go fst lst vt vo tw ow (wr.drewN q):=h.still ((Keeps.refl _ wr).drewN q)
theorem iI.old{x:Nat}(a:Mw x):x<wr.heap.size:=(h.wm.m.mb x (.inl a)).2
theorem iI.c0:wr.cell? ⟨bt,0,none⟩=some (.pointer (some ⟨bw,0,none⟩)):=dw h.tb 0
theorem iI.c1:wr.cell? ⟨bt,1,none⟩=some (.pointer (some ⟨b,0,none⟩)):=dw h.tb 1
theorem iI.c2:wr.cell? ⟨bt,2,none⟩=some (.pointer (some ⟨gt,0,none⟩)):=dw h.tb 2
theorem iI.c3:wr.cell? ⟨bt,3,none⟩=some (.pointer (some ⟨go,0,none⟩)):=dw h.tb 3
theorem iI.c4:wr.cell? ⟨bt,4,none⟩=some (.int .i64 fst):=dw h.tb 4
theorem iI.c5:wr.cell? ⟨bt,5,none⟩=some (.int .i64 lst):=dw h.tb 5
theorem iI.yT{W i:World}{l:List Bool}(p:Keeps (fun _=>False) wr W)(A:fA W gt vt l i):∃g,iI w0 b s root lone R Mw bw dO dv k0 k1 k2 ol ds bt gt go fst lst g vo l ow i/\kS gt go vt vo wr g vo i:=by
 obtain⟨u,v,w,B⟩:=A;have f:Keeps (fun k=>k=gt\/vt.ownBlock=some k) wr i:=(p.mono (fun _ _ e=>e.elim)).trans w (fun _ _ e=>e);obtain⟨G,o,H,C,I,D⟩:=h.ne;have E:=p.size;have y:=w.size;have F:=h.wm.m.bw;have z:∀x,(Mw x\/x=bt\/x=gt\/x=go\/vt.ownBlock=some x\/vo.ownBlock=some x)->x≠b:=fun x a=>h.wm.nb a
 have d:∀q,u.ownBlock=some q->(vt.ownBlock=some q\/wr.heap.size<=q):=fun q c=>by
  rcases B with e|⟨k,e,j⟩
  ·exact .inl (by rw[<-e];exact c)
  ·rw[c]at e;obtain rfl:=Option.some.inj e;exact .inr (by omega)
 refine⟨u,⟨⟨h.wm.m.own (f.mono (fun x _ e=>?_)) (fun x a=>?_),h.wm.t.keeps f (fun e=>?_),h.wm.W.keeps f (fun e=>?_) (fun e=>?_) (fun q c e=>?_),.inl h.mw.1,.inl h.mw.2.1,fun q c=>.inl (h.mw.2.2 q c)⟩,h.mw,f.at h.tb (fun e=>?_),v,h.on.keeps f (fun e=>?_) (fun q c e=>?_),h.ne,fun q c=>?_,h.no⟩,f.mono (fun x _ e=>by rcases e with e|e;exact .inl e;exact .inr (.inr (.inl e))),d,fun q c=>.inl c⟩
 ·rcases e with e|e
  ·exact .inr (.inr (.inl e))
  ·exact .inr (.inr (.inr (.inr (.inl e))))
 ·rcases a with a|a|a|a|a|a
  ·exact .inl (.inl a)
  ·exact .inl (.inr (.inl a))
  ·exact .inl (.inr (.inr (.inl a)))
  ·exact .inl (.inr (.inr (.inr (.inl a))))
  ·rcases d x a with e|e
   ·exact .inl (.inr (.inr (.inr (.inr (.inl e)))))
   ·exact .inr ⟨e,(v.apart x a).2⟩
  ·exact .inl (.inr (.inr (.inr (.inr (.inr a)))))
 ·rcases e with e|e
  ·exact z gt (.inr (.inr (.inl rfl))) e.symm
  ·exact z b (.inr (.inr (.inr (.inr (.inl e))))) rfl
 ·rcases e with e|e
  ·exact o (e ▸ h.mw.1)
  ·exact(h.nt _ e).1 h.mw.1
 ·rcases e with e|e
  ·exact o (e ▸ h.mw.2.1)
  ·exact(h.nt _ e).1 h.mw.2.1
 ·rcases e with e|e
  ·exact o (e ▸ h.mw.2.2 q c)
  ·exact(h.nt _ e).1 (h.mw.2.2 q c)
 ·rcases e with e|e
  ·exact C e
  ·exact(h.nt _ e).2.1 rfl
 ·rcases e with e|e
  ·exact D e.symm
  ·exact(h.nt _ e).2.2.2.1 rfl
 ·rcases e with e|e
  ·exact(h.no q c).2.2.1 e
  ·exact(h.nt q e).2.2.2.2 c
 ·rcases d q c with e|e
  ·exact h.nt q e
  ·have J:=lt_of_block h.tb;have L:=h.tr.lt;have M:=h.on.lt;refine⟨fun j=>by have:=h.old j;omega,by omega,by omega,by omega,fun j=>by have:=(h.on.apart q j).2;omega⟩
theorem iI.Dp{W j:World}{l:List Bool}(p:Keeps (fun _=>False) wr W)(A:fA W go vo l j):∃g,iI w0 b s root lone R Mw bw dO dv k0 k1 k2 ol ds bt gt go fst lst vt g tw l j/\kS gt go vt vo wr vt g j:=by
 obtain⟨u,v,w,B⟩:=A;have f:Keeps (fun k=>k=go\/vo.ownBlock=some k) wr j:=(p.mono (fun _ _ e=>e.elim)).trans w (fun _ _ e=>e);obtain⟨H,I,o,J,C,D⟩:=h.ne;have E:=p.size;have y:=w.size;have z:∀x,(Mw x\/x=bt\/x=gt\/x=go\/vt.ownBlock=some x\/vo.ownBlock=some x)->x≠b:=fun x c=>h.wm.nb c
 have d:∀q,u.ownBlock=some q->(vo.ownBlock=some q\/wr.heap.size<=q):=fun q a=>by
  rcases B with e|⟨k,e,i⟩
  ·exact .inl (by rw[<-e];exact a)
  ·rw[a]at e;obtain rfl:=Option.some.inj e;exact .inr (by omega)
 refine⟨u,⟨⟨h.wm.m.own (f.mono (fun x _ e=>?_)) (fun x c=>?_),h.wm.t.keeps f (fun e=>?_),h.wm.W.keeps f (fun e=>?_) (fun e=>?_) (fun q a e=>?_),.inl h.mw.1,.inl h.mw.2.1,fun q a=>.inl (h.mw.2.2 q a)⟩,h.mw,f.at h.tb (fun e=>?_),h.tr.keeps f (fun e=>?_) (fun q a e=>?_),v,h.ne,fun q a=>?_,fun q a=>?_⟩,f.mono (fun x _ e=>by rcases e with e|e;exact .inr (.inl e);exact .inr (.inr (.inr e))),fun q a=>.inl a,d⟩
 ·rcases e with e|e
  ·exact .inr (.inr (.inr (.inl e)))
  ·exact .inr (.inr (.inr (.inr (.inr e))))
 ·rcases c with c|c|c|c|c|c
  ·exact .inl (.inl c)
  ·exact .inl (.inr (.inl c))
  ·exact .inl (.inr (.inr (.inl c)))
  ·exact .inl (.inr (.inr (.inr (.inl c))))
  ·exact .inl (.inr (.inr (.inr (.inr (.inl c)))))
  ·rcases d x c with e|e
   ·exact .inl (.inr (.inr (.inr (.inr (.inr e)))))
   ·exact .inr ⟨e,(v.apart x c).2⟩
 ·rcases e with e|e
  ·exact z go (.inr (.inr (.inr (.inl rfl)))) e.symm
  ·exact z b (.inr (.inr (.inr (.inr (.inr e))))) rfl
 ·rcases e with e|e
  ·exact o (e ▸ h.mw.1)
  ·exact(h.no _ e).1 h.mw.1
 ·rcases e with e|e
  ·exact o (e ▸ h.mw.2.1)
  ·exact(h.no _ e).1 h.mw.2.1
 ·rcases e with e|e
  ·exact o (e ▸ h.mw.2.2 q a)
  ·exact(h.no _ e).1 (h.mw.2.2 q a)
 ·rcases e with e|e
  ·exact C e
  ·exact(h.no _ e).2.1 rfl
 ·rcases e with e|e
  ·exact D e
  ·exact(h.no _ e).2.2.1 rfl
 ·rcases e with e|e
  ·exact(h.nt q a).2.2.2.1 e
  ·exact(h.nt q a).2.2.2.2 e
 ·obtain⟨F,G,a3,a4,a5⟩:=h.nt q a;refine⟨F,G,a3,a4,fun e=>?_⟩;rcases d q e with i|i
  ·exact a5 i
  ·have:=(h.tr.apart q a).2;omega
 ·rcases d q a with e|e
  ·exact h.no q e
  ·have L:=lt_of_block h.tb;have M:=h.tr.lt;have O:=h.on.lt;exact⟨fun i=>by have:=h.old i;omega,by omega,by omega,by omega⟩
theorem iI.FU(z:Int)(x:Bool)(g:x=!(z == 0))(i:tw.length<900000000) :
  Calls Tryz.prog 136 #[.pointer (some ⟨gt,0,none⟩),.slice (some ⟨wr.heap.size,0,none⟩) 1 1] (wr.alloc (.cells #[.int .i64 z] 3)) fun e w'=>e=.returned (.tuple #[])/\∃a,iI w0 b s root lone R Mw bw dO dv k0 k1 k2 ol ds bt gt go fst lst a vo (tw ++ [x]) ow w'/\kS gt go vt vo wr a vo w':=by
 have c:=(Keeps.refl (fun _=>False) wr).alloc (.cells #[.int .i64 z] 3);refine(D7 gt vt tw (.slice (some ⟨wr.heap.size,0,none⟩) 1 1) [z] _ (h.tr.keeps c (fun h=>h) (fun _ _ h=>h)) (Sl.one wr .i64 z _) (fun q d=>?_) (by simp;omega)).mono ?_
 ·simp only [Value.ownBlock,Option.some.injEq]at d;subst d;exact⟨by have:=h.tr.lt;omega,fun e=>by have:=(h.tr.apart _ e).2;omega⟩
 ·rintro e w' ⟨rfl,f⟩;rw[show nM [z]=[x] by rw[g];rfl]at f;exact⟨rfl,h.yT c f⟩
theorem iI.Dq(z:Int)(x:Bool)(g:x=!(z == 0))(i:ow.length<900000000) :
  Calls Tryz.prog 136 #[.pointer (some ⟨go,0,none⟩),.slice (some ⟨wr.heap.size,0,none⟩) 1 1] (wr.alloc (.cells #[.int .i64 z] 3)) fun e w'=>e=.returned (.tuple #[])/\∃a,iI w0 b s root lone R Mw bw dO dv k0 k1 k2 ol ds bt gt go fst lst vt a tw (ow ++ [x]) w'/\kS gt go vt vo wr vt a w':=by
 have c:=(Keeps.refl (fun _=>False) wr).alloc (.cells #[.int .i64 z] 3);refine(D7 go vo ow (.slice (some ⟨wr.heap.size,0,none⟩) 1 1) [z] _ (h.on.keeps c (fun h=>h) (fun _ _ h=>h)) (Sl.one wr .i64 z _) (fun q d=>?_) (by simp;omega)).mono ?_
 ·simp only [Value.ownBlock,Option.some.injEq]at d;subst d;exact⟨by have:=h.on.lt;omega,fun e=>by have:=(h.on.apart _ e).2;omega⟩
 ·rintro e w' ⟨rfl,f⟩;rw[show nM [z]=[x] by rw[g];rfl]at f;exact⟨rfl,h.Dp c f⟩
end
end
section
open Go.RowKit
theorem P8{w:World}{bw b n dO:Nat}{dv:Value}{k0 k1 k2:Nat}{ol:List Int}{ds:List Nat}(h:lH w bw b n dO dv k0 k1 k2 ol ds)(d:Nat)(z:Int)(a:ol[d]? = some z) :
  Calls Tryz.prog 230 #[.pointer (some ⟨bw,0,none⟩),.int .i64 d] w fun e w'=>e=.returned (.int .i64 z)/\w=w':=by
 have c:d<n:=by rw[<-h.DW];exact iE a
 have f:=h.c4;have g:=(h.out.cell a).1;have i:decide ((d:Int)<0)=false:=decide_eq_false (by omega);have j:decide (n<=d)=false:=decide_eq_false (by omega);have k:decide ((n:Int)<=(d:Int))=false:=decide_eq_false (by omega);clear h a;go_enter Tryz.func230,Tryz.ntmps230;go_wp2;go_ret;exact⟨rfl,rfl⟩
section
variable {w0:World} {b:Nat} {s:List Nat} {root lone:Int} {R Mw:Nat->Prop} {bw dO:Nat} {dv:Value} {k0 k1 k2:Nat} {ol:List Int} {ds:List Nat} {bt gt go fst lst:Nat} {vt vo:Value} {tw ow:List Bool} {wr:World} (h:iI w0 b s root lone R Mw bw dO dv k0 k1 k2 ol ds bt gt go fst lst vt vo tw ow wr)
include h
theorem XR(d:Nat)(l:d<s.length)(z:Int)(k:ol[mt d]? = some z) :
  Calls Tryz.prog 189 #[.pointer (some ⟨bt,0,none⟩),.int .i64 d] wr fun e w'=>(∃q,w'=wr.drewN q)/\∃t:Bool,e=.returned (.bool t)/\(t=true↔z=0\/d=fst\/d=lst):=by
 have g:∀n,Calls Tryz.prog 77 #[.pointer (some ⟨b,0,none⟩),.int .i64 d] (wr.drewN n) fun e w'=>e=.returned (.int .i64 (mt d:Nat))/\wr.drewN n=w':=fun n=>by obtain⟨v,o,-,-⟩:=(h.drewN n).wm.m.mp;exact tO o d l
 have i:∀n,Calls Tryz.prog 230 #[.pointer (some ⟨bw,0,none⟩),.int .i64 (mt d:Nat)] (wr.drewN n) fun e w'=>e=.returned (.int .i64 z)/\wr.drewN n=w':=fun n=>P8 (h.drewN n).wm.W _ z k;have w:=h.c0;have x:=h.c1;have y:=h.c4;have A:=h.c5;clear h k;generalize mt d=m at *;by_cases c:z=0
 ·have p:(z == 0)=true:=by rw[c];rfl
  have j:=dh c;clear c;go_enter Tryz.func189,Tryz.ntmps189;go_wp2_with fail;go_quiet (first | (go_at_call 77;with_reducible exact nZ (g _)) | (go_at_call 230;with_reducible exact nZ (i _)));go_wp2;go_ret;exact⟨⟨_,rfl⟩,_,rfl,by simp[j.out]⟩
 ·have p:(z == 0)=false:=by rw[beq_eq_false_iff_ne];exact c
  have j:=dh c;clear c;by_cases f:d=fst
  ·have u:((d:Int) == (fst:Int))=true:=by rw[f];exact beq_self_eq_true _
   have a:=dh f;clear f;go_enter Tryz.func189,Tryz.ntmps189;go_wp2_with fail;go_quiet (first | (go_at_call 77;with_reducible exact nZ (g _)) | (go_at_call 230;with_reducible exact nZ (i _)));go_wp2;go_ret;exact⟨⟨_,rfl⟩,_,rfl,by simp[a.out]⟩
  ·have u:((d:Int) == (fst:Int))=false:=by rw[beq_eq_false_iff_ne];omega
   have a:=dh f;clear f
   have B:((d:Int) == (lst:Int))=decide (d=lst):=by
    by_cases e:d=lst
    ·rw[e];simp
    ·rw[decide_eq_false e,beq_eq_false_iff_ne];omega
   go_enter Tryz.func189,Tryz.ntmps189;go_wp2_with fail;go_quiet (first | (go_at_call 77;with_reducible exact nZ (g _)) | (go_at_call 230;with_reducible exact nZ (i _)));go_wp2;go_ret;exact⟨⟨_,rfl⟩,_,rfl,by simp[j.out,a.out]⟩
def vW(ol:List Int)(l:List Nat):Nat:=(l.filter fun y=>ol.getD (mt y) 0 == 1).length
omit h in
theorem XT(ol:List Int){l:List Nat}{j y:Nat}{z:Int}(c:l[j]? = some y)(d:ol[mt y]? = some z):vW ol (l.take (j+1))=vW ol (l.take j)+if z=1 then 1 else 0:=by
 unfold vW;rw[pE c,List.filter_append,List.length_append];congr 1;have e:ol.getD (mt y) 0=z:=by rw[List.getD_eq_getElem?_getD,d];rfl
 by_cases a:z=1
 ·rw[if_pos a,List.filter_cons_of_pos (by rw[e,a];rfl)];rfl
 ·rw[if_neg a,List.filter_cons_of_neg (by rw[e];simpa using a)];rfl
omit h in
theorem XU(ol:List Int)(l:List Nat)(j:Nat):vW ol (l.take j)<=j:=by unfold vW;have:=List.length_filter_le (fun y=>ol.getD (mt y) 0 == 1) (l.take j);rw[List.length_take]at this;omega
def FV(ol:List Int)(l:List Nat)(d fst:Nat):List Bool:=(if d=fst then [true]else []) ++ (List.replicate (vW ol l) true ++ [false])
def XV(w0:World)(b:Nat)(s:List Nat)(root lone:Int)(R Mw:Nat->Prop)(bw dO:Nat)(dv:Value)(k0 k1 k2:Nat)(ol:List Int)(ds:List Nat)(bt gt go fst lst:Nat)(vt vo:Value)(tw ow:List Bool)(wr:World)(e:Ending)(w':World):Prop :=
 e=.returned (.tuple #[])/\∃a c,iI w0 b s root lone R Mw bw dO dv k0 k1 k2 ol ds bt gt go fst lst a c tw ow w'/\kS gt go vt vo wr a c w'
theorem XW(d:Nat)(hd:d<s.length)(av:tw.length<800000000)(aw:ow.length<800000000) :
  Calls Tryz.prog 188 #[.pointer (some ⟨bt,0,none⟩),.int .i64 d] wr (XV w0 b s root lone R Mw bw dO dv k0 k1 k2 ol ds bt gt go fst lst vt vo (tw ++ [false]) (ow ++ FV ol (jg (sg s) (mt d)) d fst) wr):=by
 obtain⟨R0,A,-,-⟩:=h.wm.m.mp;have HP:=dh (dn A.dW (dn A.even A.le));have ax:=A.le;have M:=dR A.even hd;have ab:=h.wm.W.DW;have al:=dh ab;have a:=h.FU 0 false rfl (by omega);have c2:=h.c2;have HH:=dh h;clear h A ab;go_enter Tryz.func188,Tryz.ntmps188;go_wp2_with fail;refine a.mono ?_;rintro e w1 ⟨rfl,c,X,ad⟩;clear a c2;have c4:=X.c4;obtain⟨tb,ae⟩:∃tb:Bool,((d:Int) == (fst:Int))=tb:=⟨_,rfl⟩
 have Y:Hid (tb=true↔d=fst):=dh (by rw[<-ae,beq_iff_eq];omega);have E:=dh (dn X ad);clear X ad;go_upto_if 17 with fail;go_cut []from 18 to 24 (fun wz=>∃wx k,wx=wz/\iI w0 b s root lone R Mw bw dO dv k0 k1 k2 ol ds bt gt go fst lst c k (tw ++ [false]) (ow ++ if d=fst then [true]else []) wx/\kS gt go vt vo wr c k wx)
 case first =>
  cases tb
  ·have hn:¬d=fst:=fun e=>by cases Y.out.2 e
   have O:Hid (iI w0 b s root lone R Mw bw dO dv k0 k1 k2 ol ds bt gt go fst lst c vo (tw ++ [false]) (ow ++ if d=fst then [true]else []) w1/\kS gt go vt vo wr c vo w1):=dh (by rw[if_neg hn,List.append_nil];exact E.out);clear hn;go_wp2_with fail;go_meet;exact⟨_,_,rfl,O.out⟩
  ·have hp:d=fst:=Y.out.1 rfl;have a:=E.out.1.Dq 1 true rfl (by omega);have c3:=E.out.1.c3;have HE:Hid ((ow ++ if d=fst then [true]else [])=ow ++ [true]):=dh (by rw[if_pos hp]);clear hp;go_wp2_with fail;refine a.mono ?_;rintro e J ⟨rfl,k,f,F⟩;have O:Hid (iI w0 b s root lone R Mw bw dO dv k0 k1 k2 ol ds bt gt go fst lst c k (tw ++ [false]) (ow ++ if d=fst then [true]else []) J/\kS gt go vt vo wr c k J):=dh (by rw[HE.out];exact⟨f,E.out.2.trans F⟩);clear a f F;go_wp2_with fail;go_meet;exact⟨_,_,rfl,O.out⟩
 case rest =>
  obtain⟨J,k,rfl,f,F⟩:=hcut;obtain⟨G,u⟩:∃o,o=ow ++ if d=fst then [true]else []:=⟨_,rfl⟩
  rw[<-u]at f
  have au:G.length<800000002:=by
   rw[u,List.length_append];have:(if d=fst then [true]else []:List Bool).length<=1:=by split <;> simp
   omega
  obtain⟨l,hl⟩:∃l,l=jg (sg s) (mt d):=⟨_,rfl⟩
  have am:Hid (ow ++ FV ol (jg (sg s) (mt d)) d fst=(G ++ List.replicate (vW ol l) true) ++ [false]):=dh (by rw[u,hl];unfold FV;simp only [List.append_assoc]);have an:l.length<=1000000:=by rw[hl,q0z];have:=(HP.out.1.dQ M).2.1;omega
  have ao:Hid (∀x ∈ l,x<s.length/\mt x<s.length):=dh (fun x hx=>by rw[hl]at hx;have:=HP.out.1.fK M ((HP.out.1.gF M).1 hx);exact⟨this,dR HP.out.2.1 this⟩);have HA:Hid (∀W,Keeps (fun _=>False) J W->Calls Tryz.prog 229 #[.pointer (some ⟨b,0,none⟩),.int .i64 (mt d:Nat)] W fun e w'=>∃v,e=.returned v/\dI W.heap.size w' v (dD l)/\Keeps (fun _=>False) W w'):=dh (fun W Q=>by obtain⟨R',hA,-,-⟩:=(f.still Q).wm.m.mp;rw[hl];exact Ov hA (mt d) M);have HM:Hid (∀W,Keeps (fun _=>False) J W->Calls Tryz.prog 77 #[.pointer (some ⟨b,0,none⟩),.int .i64 d] W fun e w'=>e=.returned (.int .i64 (mt d:Nat))/\W=w'):=dh (fun W Q=>by obtain⟨R',hA,-,-⟩:=(f.still Q).wm.m.mp;exact tO hA d hd);have kr:=Keeps.refl (fun _=>False) J;have c1:=f.c1;have af:Hid (∀W,Keeps (fun _=>False) J W->W.cell? ⟨bt,1,none⟩=some (.pointer (some ⟨b,0,none⟩))):=dh (fun W Q=>(f.still Q).c1);have B:=dh (dn f F);clear f F u hl E Y ae c4;go_wp2_with fail;go_region_held3 (fun w'=>w'.cell? ⟨bt,1,none⟩=some (.pointer (some ⟨b,0,none⟩))) (first|exact c1|exact af.out _ kr.drew|exact af.out _ k3) (first | (go_at_call 77;refine(HM.out _ kr.drew).mono ?_;rintro e w' ⟨rfl,rfl⟩) | (go_at_call 229;refine(HA.out _ kr.drew).mono ?_;rintro e w3 ⟨v,rfl,w,Q⟩;have k3:Keeps (fun _=>False) J w3:=kr.drew.trans Q (fun _ _ h=>h);obtain⟨va,vc,rfl,-,-⟩:=w.form))
  all_goals
   have ag:=B.out.1.still k3;have Z:=B.out.2.still k3;have ap:wr.heap.size<=w3.heap.size:=Z.1.size
   have HS:Hid (∀W p,kS gt go c k w3 c p W->Sl .i64 W (.slice va l.length vc) (dD l)):=dh (fun W p hg=>by
    have:=w.keeps hg.1 (fun q hq e=>by
     have h1:=(w.lt q hq).1;have h2:=B.out.1.tr.lt;have h3:=B.out.1.on.lt;have ay:J.drew.heap.size=J.heap.size:=rfl;rcases e with e|e|e|e
     ·omega
     ·omega
     ·have:=(B.out.1.tr.apart q e).2;omega
     ·have:=(B.out.1.on.apart q e).2;omega)
    rw[q01]at this;exact this.sl)
   rw[q01];clear w Q k3 c1 kr ap;obtain⟨N,hN⟩:∃N,N=l.length:=⟨_,rfl⟩
   rw[<-hN]at HS an ⊢;have HN:=dh hN;clear hN;go_wp2_with fail;go_loopg [36] N (fun mu i wr=>∃j:Nat,j<=N/\mu=N - j/\i=.int .i64 j/\∃p,iI w0 b s root lone R Mw bw dO dv k0 k1 k2 ol ds bt gt go fst lst c p (tw ++ [false]) (G ++ List.replicate (vW ol (l.take j)) true) wr/\kS gt go c k w3 c p wr)
   case atStart=>exact⟨0,Nat.zero_le _,rfl,rfl,k,by simpa [vW]using ag,kS.refl _ _ _ _ _⟩
   case round =>
    clear ag;obtain⟨j,hj,ah,rfl,p,L,hg⟩:=hrel;have HG:=dh ah;clear ah;have aq:=XU ol l j;by_cases U:j<N
    ·obtain⟨y,hy⟩:∃y,l[j]? = some y:=⟨_,List.getElem?_eq_getElem (by rw[<-HN.out];exact U)⟩
     have ai:=ao.out y (List.mem_of_getElem? hy);obtain⟨g,off,rfl,ar⟩:=(HS.out wr p hg).cellAt (jI hy);obtain⟨z,hz⟩:∃z,ol[mt y]? = some z:=⟨_,List.getElem?_eq_getElem (by rw[al.out];exact ai.2)⟩
     have H:=XT ol hy hz;have hM:∀n,Calls Tryz.prog 77 #[.pointer (some ⟨b,0,none⟩),.int .i64 y] (wr.drewN n) fun e w'=>e=.returned (.int .i64 (mt y:Nat))/\wr.drewN n=w':=fun n=>by obtain⟨R',hA,-,-⟩:=(L.drewN n).wm.m.mp;exact tO hA y ai.1
     have hO:∀n,Calls Tryz.prog 230 #[.pointer (some ⟨bw,0,none⟩),.int .i64 (mt y:Nat)] (wr.drewN n) fun e w'=>e=.returned (.int .i64 z)/\wr.drewN n=w':=fun n=>P8 (L.drewN n).wm.W _ z hz;have c0:=L.c0;have c1:=L.c1;have aj:=dh (dn L hg);clear L hg hy hz;generalize mt y=my at *;go_wp2_with fail;go_quiet (first | (go_at_call 77;with_reducible exact nZ (hM _)) | (go_at_call 230;with_reducible exact nZ (hO _)));have C:=aj.out.1.drewN nq;have P:=aj.out.2.still ((Keeps.refl (fun _=>False) wr).drewN nq);clear hM hO c0 c1 ar;generalize wr.drewN nq=w4 at *;by_cases D:z=1
     ·have tz:(z == 1)=true:=by rw[D];rfl
      rw[if_pos D]at H;have a:=C.Dq 1 true rfl (by rw[List.length_append,List.length_replicate];omega);have c3:=C.c3;have HE:Hid ((G ++ List.replicate (vW ol (l.take j)) true) ++ [true]=G ++ List.replicate (vW ol (l.take (j+1))) true):=dh (by rw[H,List.replicate_succ',List.append_assoc]);have aa:=dh P;clear D H C P;go_wp2_with fail;refine a.mono ?_;rintro e w5 ⟨rfl,ak,t,I⟩;rw[HE.out]at t;have O:=dh (dn t (aa.out.trans I));clear a t I;go_wp2_with fail;go_roundg (N - (j+1))
      case measure=>rw[HG.out];omega
      case rel=>exact⟨j+1,by omega,rfl,by go_num,ak,O.out⟩
     ·have tz:(z == 1)=false:=by rw[beq_eq_false_iff_ne];exact D
      rw[if_neg D]at H;have V:vW ol (l.take j)=vW ol (l.take (j+1)):=by omega
      rw[V]at C;clear V;have O:=dh (dn C P);clear D H C P;go_wp2_with fail;go_roundg (N - (j+1))
      case measure=>rw[HG.out];omega
      case rel=>exact⟨j+1,by omega,rfl,by go_num,p,O.out⟩
    ·obtain rfl:j=N:=by omega
     rw[List.take_of_length_le (by rw[HN.out];exact Nat.le_refl _)]at L aq;have a:=L.Dq 0 false rfl (by rw[List.length_append,List.length_replicate];omega);have c3:=L.c3;have aa:=dh (Z.trans hg);clear L hg U Z;go_wp2_with fail;refine a.mono ?_;rintro e w5 ⟨rfl,ak,t,I⟩;rw[<-am.out]at t;have O:=dh (dn t (aa.out.trans I));clear a t I;go_wp2;go_end0;exact⟨rfl,_,_,O.out⟩
end
end
section
open Go.RowKit
def sS(S:Nat->Nat):List Nat->Int->Int->List (Int × Int)
 | [],cur,a=>[(cur,a)]
 | y :: l,cur,a=>(cur,((mt y:Nat):Int)) :: sS S l ((S y:Nat):Int) a
theorem zw(S:Nat->Nat):∀(l:List Nat) (c a:Int),(sS S l c a).length=l.length+1
 | [],_,_=>rfl
 | y :: l,c,a=>by simp only [sS,List.length_cons,zw S l]
noncomputable def jD(S:Nat->Nat)(r N k:Nat):Int:=open Classical in if ∃i,i<k/\S (jC S r N i)=fc S (fc S r)then ((fc S (fc S r):Nat):Int)else -1
theorem qc(S:Nat->Nat)(r N:Nat):jD S r N 0=-1:=by unfold jD;exact if_neg (fun ⟨i,h,_⟩=>by omega)
theorem P9{S:Nat->Nat}{r N k:Nat}(h:S (jC S r N k)=fc S (fc S r)):jD S r N (k+1)=((fc S (fc S r):Nat):Int):=by unfold jD;exact if_pos ⟨k,by omega,h⟩
theorem Qa{S:Nat->Nat}{r N k:Nat}(h:S (jC S r N k)≠fc S (fc S r)):jD S r N (k+1)=jD S r N k:=by
 unfold jD;by_cases e:∃i,i<k/\S (jC S r N i)=fc S (fc S r)
 ·obtain⟨i,c,a⟩:=e;rw[if_pos ⟨i,by omega,a⟩,if_pos ⟨i,c,a⟩]
 ·rw[if_neg e,if_neg];rintro⟨i,c,a⟩;rcases Nat.lt_or_ge i k with d|d
  ·exact e ⟨i,d,a⟩
  ·obtain rfl:i=k:=by omega
   exact h a
theorem Qb(S:Nat->Nat)(r N k:Nat):jD S r N k=-1\/jD S r N k=((fc S (fc S r):Nat):Int):=by
 unfold jD;by_cases e:∃i,i<k/\S (jC S r N i)=fc S (fc S r)
 ·exact .inr (if_pos e)
 ·exact .inl (if_neg e)
noncomputable def kP(S:Nat->Nat)(r N k:Nat):List (Int × Int):=(sS S (fZ S r N k) ((jC S r N k:Nat):Int) (jD S r N k)).reverse
theorem Qc(S:Nat->Nat)(l:List Nat)(c a:Int):∃t,(sS S l c a).reverse[l.length]? = some (c,t)/\(∀d,(sS S l c a).reverse.set l.length (d,t)=(sS S l d a).reverse)/\((l=[]/\t=a)\/∃y l',l=y :: l'/\t=((mt y:Nat):Int)):=by
 rcases l with _|⟨y,l⟩
 ·exact⟨a,rfl,fun _=>rfl,.inl ⟨rfl,rfl⟩⟩
 ·refine⟨((mt y:Nat):Int),?_,fun d=>?_,.inr ⟨y,l,rfl,rfl⟩⟩
  ·simp only [sS,List.reverse_cons,List.length_cons];rw[List.getElem?_append_right (by rw[List.length_reverse,zw];omega)];simp[zw]
  ·simp only [sS,List.reverse_cons,List.length_cons];rw[List.set_append_right _ _ (by rw[List.length_reverse,zw];omega)];simp[zw]
section
variable {n:Nat} {S:Nat->Nat} (T:jB n S) {r:Nat} (hr:r<n) {N:Nat} (K:dL n S r N)
include T hr K
theorem dL.FW:∃k,k<n/\S (jC S r N k)=fc S (fc S r):=by obtain⟨x,d,e⟩:=T.dW.back (T.gJ (T.gJ hr));obtain⟨i,c,a⟩:=(T.oH (r:=r) (N:=N)).iJ (T.gJ (T.gJ hr)) (K.span T hr x d);rw[K.qC T hr]at c;exact⟨i,c,by show S (dN _ _ _)=_;rw[a];exact e⟩
theorem dL.Au:jD S r N n=((fc S (fc S r):Nat):Int):=by obtain⟨k,a,c⟩:=K.FW T hr;unfold jD;exact if_pos ⟨k,a,c⟩
theorem dL.um{k y:Nat}{l:List Nat}(a:k<=n)(h:fZ S r N k=y :: l):S (jC S r N k)≠fc S (fc S r):=by
 intro e;obtain⟨g,c⟩:=K.stk T hr k a;obtain⟨-,d⟩:=K.uQ T hr a h;rw[h]at c;have f:dB S (jC S r N k)=dB S (fc S (fc S r)):=by rw[<-T.vS (T.sM hr k),e]
 exact K.qB T hr (y:=mt y) (by rw[dG];exact d) (by rw[<-f,c];rfl)
theorem dL.Av{k y:Nat}{l:List Nat}(d:k<=n)(h:fZ S r N k=y :: l)(e:jC S r N k=mt y) :
  jC S r N (k+1)=S y/\fZ S r N (k+1)=l/\jD S r N (k+1)=jD S r N k/\iR S r N (k+1)=iR S r N k ++ [false]/\iM S r N (k+1)=iM S r N k ++ FQ S r N (jC S r N k):=by
 obtain⟨u1,u2⟩:=K.uQ T hr d h;have a:kid S r N (mt (jC S r N k)):=u1.2 e;have c:¬kid S r N (jC S r N k):=fun c=>K.uP T hr c a;refine⟨?_,?_,Qa (K.um T hr d h),?_,?_⟩
 ·rw[Hz];unfold kQ;rw[if_pos (.inr a),e,dG]
 ·rw[fZ,if_neg c,if_pos a,h];rfl
 ·rw[iR];congr 1;unfold qQ;rw[if_neg c,if_pos a]
 ·rw[iM];congr 1;unfold uh;rw[if_pos a]
theorem dL.yU{k:Nat}(a:kid S r N (jC S r N k)) :
  jC S r N (k+1)=S (mt (jC S r N k))/\fZ S r N (k+1)=jC S r N k :: fZ S r N k/\iR S r N (k+1)=iR S r N k ++ [true]/\iM S r N (k+1)=iM S r N k:=by
 have c:¬kid S r N (mt (jC S r N k)):=fun c=>K.uP T hr a c;refine⟨?_,?_,?_,?_⟩
 ·rw[Hz];unfold kQ;rw[if_pos (.inl a)]
 ·rw[fZ,if_pos a]
 ·rw[iR];congr 1;unfold qQ;rw[if_pos a]
 ·rw[iM];unfold uh;rw[if_neg c,List.append_nil]
omit T hr K in
theorem XY{k:Nat}(c:¬kid S r N (jC S r N k))(a:¬kid S r N (mt (jC S r N k))) :
  jC S r N (k+1)=S (jC S r N k)/\fZ S r N (k+1)=fZ S r N k/\iR S r N (k+1)=iR S r N k/\iM S r N (k+1)=iM S r N k:=by
 refine⟨?_,?_,?_,?_⟩
 ·rw[Hz];unfold kQ;rw[if_neg (by rintro (h|h);exact c h;exact a h)]
 ·rw[fZ,if_neg c,if_neg a]
 ·rw[iR];unfold qQ;rw[if_neg c,if_neg a,List.append_nil]
 ·rw[iM];unfold uh;rw[if_neg a,List.append_nil]
end
theorem iI.wait{w0:World}{b:Nat}{s:List Nat}{root lone:Int}{R Mw:Nat->Prop}{bw dO:Nat}{dv:Value}{k0 k1 k2:Nat}{ol:List Int}{ds:List Nat}{bt gt go fst lst:Nat}{vt vo:Value}{tw ow:List Bool}{wr j:World}{v v':Value}
  (h:iI w0 b s root lone R (fun x=>Mw x\/v.ownBlock=some x) bw dO dv k0 k1 k2 ol ds bt gt go fst lst vt vo tw ow wr)(k:Keeps (fun q=>v.ownBlock=some q) wr j)(g:Mw bw/\Mw dO/\∀q,dv.ownBlock=some q->Mw q)(l:∀q,v.ownBlock=some q->¬Mw q)
  (c:∀q,v'.ownBlock=some q->v.ownBlock=some q\/(wr.heap.size<=q/\q<j.heap.size)):iI w0 b s root lone R (fun x=>Mw x\/v'.ownBlock=some x) bw dO dv k0 k1 k2 ol ds bt gt go fst lst vt vo tw ow j:=by
 obtain⟨o,p,u,y,z,A⟩:=h.ne;have B:=lt_of_block h.tb;have C:=h.tr.lt;have D:=h.on.lt
 have f:∀x,v.ownBlock=some x->x≠bt/\x≠gt/\x≠go/\¬vt.ownBlock=some x/\¬vo.ownBlock=some x:=fun x d =>
  ⟨fun e=>o (.inr (e ▸ d)),fun e=>p (.inr (e ▸ d)),fun e=>u (.inr (e ▸ d)),fun e=>(h.nt x e).1 (.inr d),fun e=>(h.no x e).1 (.inr d)⟩
 refine⟨⟨h.wm.m.own (k.mono (fun x _ e=>.inl (.inr e))) (fun x d=>?_),h.wm.t.keeps k (fun e=>h.wm.nb (.inl (.inr e)) rfl),h.wm.W.keeps k (fun e=>l _ e g.1) (fun e=>l _ e g.2.1) (fun q a e=>l _ e (g.2.2 q a)),.inl (.inl g.1),.inl (.inl g.2.1),fun q a=>.inl (.inl (g.2.2 q a))⟩,
  ⟨.inl g.1,.inl g.2.1,fun q a=>.inl (g.2.2 q a)⟩,k.at h.tb (fun e=>(f _ e).1 rfl),h.tr.keeps k (fun e=>(f _ e).2.1 rfl) (fun q a e=>(f _ e).2.2.2.1 a),h.on.keeps k (fun e=>(f _ e).2.2.1 rfl) (fun q a e=>(f _ e).2.2.2.2 a),?_,fun q a=>?_,fun q a=>?_⟩
 ·rcases d with (d|d)|d
  ·exact .inl (.inl (.inl d))
  ·rcases c x d with e|e
   ·exact .inl (.inl (.inr e))
   ·exact .inr e
  ·exact .inl (.inr d)
 ·refine⟨?_,?_,?_,y,z,A⟩
  ·rintro (e|e)
   ·exact o (.inl e)
   ·rcases c _ e with e|e
    ·exact o (.inr e)
    ·omega
  ·rintro (e|e)
   ·exact p (.inl e)
   ·rcases c _ e with e|e
    ·exact p (.inr e)
    ·omega
  ·rintro (e|e)
   ·exact u (.inl e)
   ·rcases c _ e with e|e
    ·exact u (.inr e)
    ·omega
 ·obtain⟨i,w⟩:=h.nt q a;refine⟨?_,w⟩;rintro (e|e)
  ·exact i (.inl e)
  ·rcases c _ e with e|e
   ·exact i (.inr e)
   ·have:=(h.tr.apart q a).2;omega
 ·obtain⟨i,w⟩:=h.no q a;refine⟨?_,w⟩;rintro (e|e)
  ·exact i (.inl e)
  ·rcases c _ e with e|e
   ·exact i (.inr e)
   ·have:=(h.on.apart q a).2;omega
theorem KI{S:Nat->Nat}{r n N x:Nat}(a:x<n):(jT S r n N 0)[x]? = some (col S r N x):=by unfold jT col;rw[List.getElem?_map,List.getElem?_range a];rfl
theorem XZ{n:Nat}{S:Nat->Nat}(T:jB n S){r N x:Nat}(c:x<n):FV (jT S r n N 0) (jg S x) (mt x) (fc S (fc S r))=FQ S r N x:=by unfold FV FQ vW qE;congr 3;congr 1;apply List.filter_congr;intro y d;have a:=T.dW.fK c ((T.dW.gF c).1 d);rw[List.getD_eq_getElem?_getD,KI (T.mlt a)];rfl
theorem KJ(S:Nat->Nat)(r N:Nat):∀k,(iR S r N k).length<=k
 | 0=>Nat.le_refl _
 | k+1=>by
  have:=KJ S r N k;rw[iR,List.length_append];have:(qQ S r N (jC S r N k)).length<=1:=by unfold qQ;split <;> (try split) <;> simp
  omega
theorem qc1(S:Nat->Nat)(r N:Nat){j:Nat}:∀k,(iM S r N j).length<=(iM S r N (j+k)).length
 | 0=>Nat.le_refl _
 | k+1=>by have:=qc1 S r N (j:=j) k;rw[<-Nat.add_assoc,iM,List.length_append];omega
end
