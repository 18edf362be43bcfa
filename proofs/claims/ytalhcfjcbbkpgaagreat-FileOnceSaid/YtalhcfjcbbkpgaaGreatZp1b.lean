import Derived.Test.YtalhcfjcbbkpgaaGreatZp1a
set_option maxRecDepth 100000
set_option maxHeartbeats 4000000
namespace Go.Proofs.YtalhcfjcbbkpgaaGreat
section
noncomputable def jw(S:Nat->Nat)(r N k:Nat):Nat:=itr (kH S r N) k (fc S (fc S r))
noncomputable def qM(S:Nat->Nat)(r N x:Nat):List Bool:=open Classical in if kid S r N x then [true]else if kid S r N (mt x)then [false]else []
noncomputable def qz(S:Nat->Nat)(r N x:Nat):List Nat:=(jg S x).filter fun y=>col S r N (mt y) == 1
noncomputable def Fe(S:Nat->Nat)(r N x:Nat):List Bool:=(if mt x=fc S (fc S r)then [true]else []) ++ (List.replicate (qz S r N x).length true ++ [false])
noncomputable def tN(S:Nat->Nat)(r N x:Nat):List Bool:=open Classical in if kid S r N (mt x)then Fe S r N x else []
noncomputable def iH(S:Nat->Nat)(r N:Nat):Nat->List Bool
 | 0=>[]
 | k+1=>iH S r N k ++ qM S r N (jw S r N k)
noncomputable def iE(S:Nat->Nat)(r N:Nat):Nat->List Bool
 | 0=>[]
 | k+1=>iE S r N k ++ tN S r N (jw S r N k)
noncomputable def fQ(S:Nat->Nat)(r N:Nat):Nat->List Nat
 | 0=>[]
 | k+1=>open Classical in if kid S r N (jw S r N k)then jw S r N k :: fQ S r N k else if kid S r N (mt (jw S r N k))then (fQ S r N k).tail else fQ S r N k
noncomputable def mH(S:Nat->Nat)(r N:Nat):List Nat->Prop
 | []=>True
 | [y]=>kid S r N y/\vnum S y=vnum S (fc S (fc S r))
 | y :: z :: l=>kid S r N y/\vnum S y=vnum S (mt z)/\mH S r N (z :: l)
noncomputable def CQ(S:Nat->Nat)(r:Nat):List Nat->Nat
 | []=>vnum S (fc S (fc S r))
 | y :: _=>vnum S (mt y)
theorem G5(S:Nat->Nat)(r N k:Nat):jw S r N (k+1)=kH S r N (jw S r N k):=rfl
theorem mH.tail{S:Nat->Nat}{r N y:Nat}{l:List Nat}(h:mH S r N (y :: l)):mH S r N l/\kid S r N y/\vnum S y=CQ S r l:=by
 rcases l with _|⟨z,l⟩
 ·exact⟨trivial,h.1,h.2⟩
 ·exact⟨h.2.2,h.1,h.2.1⟩
theorem mH.cons{S:Nat->Nat}{r N y:Nat}{l:List Nat}(h:mH S r N l)(a:kid S r N y)(b:vnum S y=CQ S r l):mH S r N (y :: l):=by
 rcases l with _|⟨z,l⟩
 ·exact⟨a,b⟩
 ·exact⟨a,b,h⟩
theorem J2(S:Nat->Nat)(r N:Nat):∀k,(fQ S r N k).length<=k
 | 0=>Nat.le_refl _
 | k+1=>by
  have:=J2 S r N k;unfold fQ;split
  ·simp only [List.length_cons];omega
  ·split
   ·simp only [List.length_tail];omega
   ·omega
section
variable {n:Nat} {S:Nat->Nat} (T:jO n S) {r:Nat} (hr:r<n) {N:Nat} (K:dJ n S r N)
include T hr K
omit K in
theorem jO.sj(k:Nat):jw S r N k<n:=(T.nU (r:=r) (N:=N)).dW (T.gD (T.gD hr)) k
theorem dJ.vw{i j:Nat}(a:i<n)(b:j<n)(h:jw S r N i=jw S r N j):i=j :=
 (T.nU (r:=r) (N:=N)).fB (T.gD (T.gD hr)) (by rw[K.qy T hr];exact a) (by rw[K.qy T hr];exact b) h
theorem dJ.vB:jw S r N n=fc S (fc S r):=by have:=((T.nU (r:=r) (N:=N)).dM (T.gD (T.gD hr))).2.2.1;rw[K.qy T hr]at this;exact this
theorem dJ.yw:((List.range n).map (jw S r N)).Perm (List.range n):=by
 rw[List.perm_ext_iff_of_nodup _ List.nodup_range]
 ·intro x;rw[List.mem_map,List.mem_range];constructor
  ·rintro⟨k,-,rfl⟩;exact T.sj hr k
  ·intro f;obtain⟨i,e,c⟩:=(T.nU (r:=r) (N:=N)).iQ (T.gD (T.gD hr)) (K.span T hr x f);rw[K.qy T hr]at e;exact⟨i,List.mem_range.2 e,c⟩
 ·rw[List.Nodup,List.pairwise_map];refine List.Pairwise.imp_of_mem ?_ (List.nodup_range (n:=n));intro a b g h d c;exact d (K.vw T hr (List.mem_range.1 g) (List.mem_range.1 h) c)
theorem dJ.stk:∀k,k<=n->mH S r N (fQ S r N k)/\vnum S (jw S r N k)=CQ S r (fQ S r N k):=by
 intro k
 induction k with
 | zero=>exact fun _=>⟨trivial,rfl⟩
 | succ k i =>
  intro o;obtain⟨f,a⟩:=i (by omega);have g:=T.sj hr (N:=N) k;rw[G5];by_cases b:kid S r N (jw S r N k)
  ·have d:fQ S r N (k+1)=jw S r N k :: fQ S r N k:=by rw[fQ];exact if_pos b
   have e:kH S r N (jw S r N k)=S (mt (jw S r N k)):=by unfold kH;exact if_pos (.inl b)
   rw[d,e];exact⟨f.cons b a,T.vS (T.mlt g)⟩
  ·by_cases c:kid S r N (mt (jw S r N k))
   ·have d:fQ S r N (k+1)=(fQ S r N k).tail:=by rw[fQ,if_neg b];exact if_pos c
    have e:kH S r N (jw S r N k)=S (mt (jw S r N k)):=by unfold kH;exact if_pos (.inr c)
    rw[d,e,T.vS (T.mlt g)];rcases hst:fQ S r N k with _|⟨y,l⟩
    ·rw[hst]at a;exact absurd a (K.qx T hr c)
    ·rw[hst]at f a;obtain⟨j,m,t3⟩:=f.tail;have:jw S r N k=mt y:=K.nL T hr a c (by rw[dF];exact m);rw[this,dF];exact⟨j,t3⟩
   ·have d:fQ S r N (k+1)=fQ S r N k:=by rw[fQ,if_neg b];exact if_neg c
    have e:kH S r N (jw S r N k)=S (jw S r N k):=by unfold kH;exact if_neg (by rintro (h|h);exact b h;exact c h)
    rw[d,e,T.vS g];exact⟨f,a⟩
theorem dJ.uG{k y:Nat}{l:List Nat}(d:k<=n)(h:fQ S r N k=y :: l):(kid S r N (mt (jw S r N k))↔jw S r N k=mt y)/\kid S r N y:=by obtain⟨b,c⟩:=K.stk T hr k d;rw[h]at b c;obtain⟨-,a,-⟩:=b.tail;refine⟨⟨fun f=>K.nL T hr c f (by rw[dF];exact a),fun e=>by rw[e,dF];exact a⟩,a⟩
theorem dJ.zU{k:Nat}(b:k<=n)(h:fQ S r N k=[]):¬kid S r N (mt (jw S r N k)):=by obtain⟨d,a⟩:=K.stk T hr k b;rw[h]at a;exact fun c=>K.qx T hr c a
theorem dJ.vC:fQ S r N n=[]:=by
 obtain⟨b,a⟩:=K.stk T hr n (Nat.le_refl _);rw[K.vB T hr]at a;rcases hst:fQ S r N n with _|⟨y,l⟩
 ·rfl
 ·rw[hst]at b a;exact absurd a.symm (K.qx T hr (y:=mt y) (by rw[dF];exact b.tail.2.1))
theorem dJ.Bf{v:Nat}(k:v<eu S n)(l:v≠vnum S (fc S (fc S r))):∃x,x<n/\kid S r N x/\vnum S (mt x)=v:=by
 obtain⟨q,m,t3⟩:=T.twins (hr:=hr);obtain⟨x,o,rfl⟩:=Nq k;have a:kid S r N (fc S (fc S r)):=.inr (.inl rfl);have b:kid S r N (mt (fc S r)):=.inr (.inr rfl);rcases K.all x o with h|h|h
 ·obtain⟨j,c,f⟩:=oO.1 h
  have d:¬p9 S r (kX S r j):=by
   rintro (e|e|e)
   ·exact K.one (by rw[<-e];exact oO.2 ⟨j,c,rfl⟩)
   ·rw[T.vf hr]at e;exact K.Dq (by rw[<-e];exact oO.2 ⟨j,c,rfl⟩)
   ·exact l (by rw[<-f,e])
  obtain⟨i,y,s,g,p⟩:=K.parent T hr c d;exact⟨y,(K.ins T hr (by omega) g).1,(K.j3 T hr).2 (.inl ⟨i,by omega,g⟩),by rw[p,f]⟩
 ·exact⟨_,T.gD (T.gD hr),a,by rw[m,h]⟩
 ·exact⟨_,T.mlt (T.gD hr),b,by rw[t3,h]⟩
omit T hr K in
theorem Fg{P:Nat->Prop}[DecidablePred P](c:Nat->Nat):∀l:List Nat,(l.map fun x=>if P x then c x else 0).sum=((l.filter fun x=>decide (P x)).map c).sum
 | []=>rfl
 | x :: l=>by
  rw[List.map_cons,List.sum_cons,Fg c l];by_cases h:P x
  ·rw[if_pos h,List.filter_cons_of_pos (by simpa using h),List.map_cons,List.sum_cons]
  ·rw[if_neg h,List.filter_cons_of_neg (by simpa using h)];omega
omit T hr K in
theorem G6(f g:Nat->Nat):∀l:List Nat,(l.map fun x=>f x+g x).sum=(l.map f).sum+(l.map g).sum
 | []=>rfl
 | x :: l=>by simp only [List.map_cons,List.sum_cons,G6 f g l];omega
omit T hr K in
theorem Fh:∀l:List Nat,(l.map fun _=>1).sum=l.length
 | []=>rfl
 | x :: l=>by simp only [List.map_cons,List.sum_cons,Fh l,List.length_cons];omega
omit T hr K in
theorem O5(f:Nat->List Nat):∀l:List Nat,(l.flatMap f).length=(l.map fun x=>(f x).length).sum
 | []=>rfl
 | x :: l=>by simp only [List.flatMap_cons,List.length_append,List.map_cons,List.sum_cons,O5 f l]
noncomputable def vD(S:Nat->Nat)(r N n:Nat):List Nat:=open Classical in (List.range n).filter fun x=>decide (kid S r N (mt x))
omit T hr K in
theorem wI{x:Nat}:x ∈ vD S r N n↔x<n/\kid S r N (mt x):=by simp[vD]
omit T hr K in
theorem G7:(vD S r N n).Nodup:=List.Nodup.sublist List.filter_sublist List.nodup_range
theorem dJ.vE:(vD S r N n).length+1=eu S n:=by
 have f:vnum S (fc S (fc S r))<eu S n:=T.dR.gK (T.gD (T.gD hr));have g:((vD S r N n).map (vnum S)).Nodup:=by rw[List.Nodup,List.pairwise_map];refine List.Pairwise.imp_of_mem ?_ (G7 (n:=n));intro a b i j c k;exact c (K.nL T hr k (wI.1 i).2 (wI.1 j).2)
 have d:((List.range (eu S n)).filter fun v=>v != vnum S (fc S (fc S r))).Nodup:=List.Nodup.sublist List.filter_sublist List.nodup_range
 have l:=vI g d (fun v=>by
  rw[List.mem_map,List.mem_filter,List.mem_range];constructor
  ·rintro⟨x,hx,rfl⟩;obtain⟨a,b⟩:=wI.1 hx;exact⟨T.dR.gK a,by simpa using K.qx T hr b⟩
  ·rintro⟨a,b⟩;obtain⟨x,m,o,p⟩:=K.Bf T hr a (by simpa using b);exact⟨mt x,wI.2 ⟨T.mlt m,by rw[dF];exact o⟩,p⟩)
 rw[List.length_map]at l
 have q:(vnum S (fc S (fc S r)) :: (List.range (eu S n)).filter fun v=>v != vnum S (fc S (fc S r))).length=(List.range (eu S n)).length:=by
  refine vI ?_ List.nodup_range (fun v=>?_)
  ·rw[List.nodup_cons];exact⟨by simp,d⟩
  ·rw[List.mem_cons,List.mem_filter,List.mem_range];constructor
   ·rintro (rfl|h)
    ·exact f
    ·exact h.1
   ·intro h;by_cases e:v=vnum S (fc S (fc S r))
    ·exact .inl e
    ·exact .inr ⟨h,by simpa using e⟩
 rw[List.length_cons,List.length_range]at q;omega
omit hr K in
theorem jO.zV:(open Classical in (List.range n).filter fun x=>decide (kid S r N x)).length=(vD S r N n).length:=by
 have d:((vD S r N n).map mt).length=(vD S r N n).length:=List.length_map ..;rw[<-d];refine vI (List.Nodup.sublist List.filter_sublist List.nodup_range) ?_ (fun x=>?_)
 ·rw[List.Nodup,List.pairwise_map];refine List.Pairwise.imp ?_ (G7 (n:=n));intro a b c e;exact c (by rw[<-dF a,e,dF])
 ·simp only [List.mem_filter,List.mem_range,decide_eq_true_eq,List.mem_map];constructor
  ·intro ⟨a,b⟩;exact⟨mt x,wI.2 ⟨T.mlt a,by rw[dF];exact b⟩,dF x⟩
  ·rintro⟨y,hy,rfl⟩;obtain⟨a,b⟩:=wI.1 hy;exact⟨T.mlt a,b⟩
theorem dJ.tO(c:Nat->Nat):((List.range n).map fun k=>c (jw S r N k)).sum=((List.range n).map c).sum:=by have:=((K.yw T hr).map c).sum_nat;rw[List.map_map]at this;exact this
omit T hr K in
theorem Xf(k:Nat):(iH S r N k).length=((List.range k).map fun i=>(qM S r N (jw S r N i)).length).sum:=by
 induction k with
 | zero=>rfl
 | succ k a=>rw[iH,List.length_append,a,List.range_succ,List.map_append,List.sum_append];simp
omit T hr K in
theorem Xg(k:Nat):(iE S r N k).length=((List.range k).map fun i=>(tN S r N (jw S r N i)).length).sum:=by
 induction k with
 | zero=>rfl
 | succ k a=>rw[iE,List.length_append,a,List.range_succ,List.map_append,List.sum_append];simp
theorem dJ.qZ:(iH S r N n).length+2=2 * eu S n:=by
 classical
 have e:∀x,(qM S r N x).length=(open Classical in if kid S r N x then 1 else 0)+(open Classical in if kid S r N (mt x)then 1 else 0):=fun x=>by
  unfold qM;by_cases b:kid S r N x
  ·have a:¬kid S r N (mt x):=fun a=>K.uF T hr b a;simp[b,a]
  ·by_cases a:kid S r N (mt x) <;> simp[b,a]
 rw[Xf,K.tO T hr (fun x=>(qM S r N x).length)];simp only [e];rw[G6,Fg (P:=kid S r N) (fun _=>1),Fg (P:=fun x=>kid S r N (mt x)) (fun _=>1),Fh,Fh];have b:=T.zV (r:=r) (N:=N);have a:=K.vE T hr;have c:((List.range n).filter fun x=>open Classical in decide (kid S r N (mt x)))=vD S r N n:=rfl;rw[c];omega
theorem dJ.yx{j:Nat}(a:j<N)(h:col S r N (iN S r j)=1):vnum S (mt (iN S r j))≠vnum S (fc S (fc S r))/\0<j:=by
 obtain⟨b,-,-⟩:=zP.1 h;obtain⟨d,k,f⟩:=K.first T hr
 have c:0<j:=by
  rcases Nat.eq_zero_or_pos j with e|e
  ·subst e;rw[d]at b;obtain⟨l,g,t3⟩:=T.twins (hr:=hr);exact absurd ⟨.inr (.inr rfl),.inl g⟩ b
  ·exact e
 refine⟨?_,c⟩;obtain⟨A,p,q,B,G⟩:=K.goes T hr a;have i:p ∈ jU S r j:=by rw[G.es];simp
 rw[G.lf,dF];intro e;exact(K.shl j a).live p i (oO.2 ⟨0,c,by rw[f,e]⟩)
theorem dJ.zW:(open Classical in (List.range n).filter fun y=>col S r N (mt y) == 1).length+1=N:=by
 have o:=K.pos;have e:((List.range (N - 1)).map fun j=>mt (iN S r (j+1))).Nodup:=by rw[List.Nodup,List.pairwise_map];refine List.Pairwise.imp_of_mem ?_ (List.nodup_range (n:=N - 1));intro a b g h k l;rw[List.mem_range]at g h;have:=K.CO T hr (i:=a+1) (j:=b+1) (by omega) (by omega) (by rw[<-dF (iN S r (a+1)),l,dF]);omega
 have:=vI (List.Nodup.sublist List.filter_sublist (List.nodup_range (n:=n)):((List.range n).filter fun y=>col S r N (mt y) == 1).Nodup) e (fun y=>by
  simp only [List.mem_filter,List.mem_range,beq_iff_eq,List.mem_map];constructor
  ·rintro⟨a,b⟩;obtain⟨p,j,d,f⟩:=zP.1 b;rw[f]at b;obtain⟨-,q⟩:=K.yx T hr d b;exact⟨j - 1,by omega,by rw[show j - 1+1=j by omega,<-f,dF]⟩
  ·rintro⟨j,d,rfl⟩;refine⟨T.mlt (K.mW T hr (by omega)),?_⟩;rw[dF];refine zP.2 ⟨?_,j+1,by omega,rfl⟩;rintro⟨c,-⟩;rw[K.tJ T hr (by omega)]at c;obtain⟨s,t,m⟩:=K.first T hr;rcases c with c|c|c
   ·exact K.one (by rw[<-c];exact oO.2 ⟨_,by omega,rfl⟩)
   ·rw[T.vf hr]at c;exact K.Dq (by rw[<-c];exact oO.2 ⟨_,by omega,rfl⟩)
   ·rw[<-m]at c;have:=K.inj (by omega) (by omega) c;omega)
 rw[List.length_map,List.length_range]at this;omega
theorem dJ.CR:((vD S r N n).map fun x=>(qz S r N x).length).sum+1=N:=by
 rw[<-O5];have p:=K.zW T hr
 suffices h:((vD S r N n).flatMap (qz S r N)).length=((List.range n).filter fun y=>col S r N (mt y) == 1).length by rw[h];exact p
 refine vI ?_ (List.Nodup.sublist List.filter_sublist (List.nodup_range (n:=n))) (fun y=>?_)
 ·rw[List.Nodup,List.pairwise_flatMap];constructor
  ·intro x f;exact List.Nodup.sublist List.filter_sublist (T.dR.kY (wI.1 f).1)
  ·refine List.Pairwise.imp_of_mem ?_ (G7 (n:=n));intro a b q s g u t v w i;subst i;obtain⟨k,z⟩:=wI.1 q;obtain⟨o,A⟩:=wI.1 s;have s1:=(T.dR.fU k).1 (List.mem_filter.1 t).1;have s2:=(T.dR.fU o).1 (List.mem_filter.1 w).1;have c:=T.dR.fK k s1;exact g (K.nL T hr (by rw[(T.dR.eT k c).2 s1,(T.dR.eT o c).2 s2]) z A)
 ·simp only [List.mem_flatMap,List.mem_filter,List.mem_range,qz];constructor
  ·rintro⟨x,f,h1,h2⟩;exact⟨T.dR.fK (wI.1 f).1 ((T.dR.fU (wI.1 f).1).1 h1),h2⟩
  ·rintro⟨hy,h2⟩;have l:col S r N (mt y)=1:=by simpa using h2
   obtain⟨E,j,B,d⟩:=zP.1 l;rw[d]at l;obtain⟨e,-⟩:=K.yx T hr B l;rw[<-d,dF]at e;obtain⟨x,m,C,D⟩:=K.Bf T hr (T.dR.gK hy) e;exact⟨mt x,wI.2 ⟨T.mlt m,by rw[dF];exact C⟩,(T.dR.fU (T.mlt m)).2 ((T.dR.eT (T.mlt m) hy).1 D),h2⟩
theorem dJ.nV:(iE S r N n).length+3=2 * eu S n:=by
 classical
 have e:∀x,(tN S r N x).length=(open Classical in if kid S r N (mt x)then ((if mt x=fc S (fc S r)then 1 else 0)+((qz S r N x).length+1))else 0):=fun x=>by
  unfold tN Fe;by_cases a:kid S r N (mt x)
  ·rw[if_pos a,if_pos a];by_cases b:mt x=fc S (fc S r) <;> simp[b] <;> omega
  ·rw[if_neg a,if_neg a];rfl
 rw[Xg,K.tO T hr (fun x=>(tN S r N x).length)];simp only [e];rw[Fg (P:=fun x=>kid S r N (mt x)) (fun x=>(if mt x=fc S (fc S r)then 1 else 0)+((qz S r N x).length+1))];have c:((List.range n).filter fun x=>open Classical in decide (kid S r N (mt x)))=vD S r N n:=rfl;rw[c,G6,G6,Fh,Fg (P:=fun x=>mt x=fc S (fc S r)) (fun _=>1),Fh];have d:=K.CR T hr;have f:=K.vE T hr
 have g:((vD S r N n).filter fun x=>decide (mt x=fc S (fc S r))).length=1:=by
  have:=vI (l:=(vD S r N n).filter fun x=>decide (mt x=fc S (fc S r))) (m:=[mt (fc S (fc S r))]) (List.Nodup.sublist List.filter_sublist G7) (by simp) (fun x=>by
   rw[List.mem_filter,List.mem_singleton,wI];constructor
   ·rintro⟨-,h⟩;rw[<-of_decide_eq_true h,dF]
   ·rintro rfl;exact⟨⟨T.mlt (T.gD (T.gD hr)),by rw[dF];exact .inr (.inl rfl)⟩,by simp[dF]⟩)
  exact this
 have i:=K.cnt;omega
theorem dJ.wJ:(iH S r N n ++ iE S r N n).length+5=4 * eu S n:=by have a:=K.qZ T hr;have b:=K.nV T hr;rw[List.length_append];omega
end
end
section
open Go.RowKit
theorem Xh(sv I:Value)(d zs:List Nat)(w:World)(A:Sl .i64 w sv (dD d))(C:Sl .i64 w I (dD zs))(hl:d.length<=100000000) :
  Calls Tryz.prog 114 #[sv,I] w fun e w'=>e=.returned (.bool (decide (d=zs)))/\∃q,w'=w.drewN q:=by
 have D:=dh (dn A C);obtain⟨a,c,rfl,R,p2⟩:=A.form;obtain⟨a',c',rfl,J,q2⟩:=C.form;rw[q01]at R J;rw[q01,q01]at D;rw[q01,q01];by_cases b:d.length=zs.length
 rotate_left
 ·have L:decide (d=zs)=false:=decide_eq_false (fun e=>b (by rw[e]));rw[L];have t0:((d.length:Int) != (zs.length:Int))=true:=by rw[bne_iff_ne];omega
  generalize d.length=m at *;generalize zs.length=n at *;clear A C b L;go_enter Tryz.func114,Tryz.ntmps114;go_wp2_with fail;go_ret;exact⟨rfl,0,rfl⟩
 ·have M:=dh b;rw[<-b]at D J;rw[<-b];generalize O:d.length=m at *;have P:=dh O;obtain⟨B,F⟩:∃B,B=decide (d=zs):=⟨_,rfl⟩
  rw[<-F];have Q:=dh F;clear A C O b F;go_enter Tryz.func114,Tryz.ntmps114;go_wp2_with fail;go_loopg [13] (m - 0) (fun U i wr=>∃j:Nat,j<=m/\U=m - j/\i=.int .i64 j/\(∀i,i<j->d[i]? = zs[i]?)/\∃q,wr=w.drewN q)
  case atStart=>exact⟨0,Nat.zero_le _,rfl,rfl,fun i h=>by omega,0,rfl⟩
  case round =>
   obtain⟨j,hj,p,rfl,s,E,k⟩:=hrel;have V:=dh p;have t:Keeps (fun _=>False) w wr:=by rw[k];exact(Keeps.refl _ w).drewN E
   have G:=dh k;clear p k;by_cases H:j<m
   ·obtain⟨x,l⟩:∃x,d[j]? = some x:=⟨_,List.getElem?_eq_getElem (by rw[P.out];exact H)⟩
    obtain⟨z,u⟩:∃z,zs[j]? = some z:=⟨_,List.getElem?_eq_getElem (by have:=M.out;omega)⟩
    obtain⟨g,o,rfl,W⟩:=(D.out.1.keeps t (fun _ _ h=>h)).cellAt (jA l);obtain⟨X,Y,rfl,Z⟩:=(D.out.2.keeps t (fun _ _ h=>h)).cellAt (jA u);have d1:wr.drew.cell? ⟨g,o+j,none⟩=some (.int .i64 (x:Int)):=W;have d2:wr.drew.cell? ⟨X,Y+j,none⟩=some (.int .i64 (z:Int)):=Z;by_cases f:x=z
    ·have t1:((x:Int) != (z:Int))=false:=by rw[f];simp
     have v:=dh ((show ∀i,i<j+1->d[i]? = zs[i]? from fun i hi=>by
      rcases Nat.lt_or_ge i j with h|h
      ·exact s i h
      ·obtain rfl:i=j:=by omega
       rw[l,u,f]))
     clear u t s l f;go_wp2_with fail;go_quiet (fail);go_wp2_with fail;go_roundg (m - (j+1))
     case measure=>rw[V.out];omega
     case rel=>exact⟨j+1,by omega,rfl,by go_num,v.out,E+nq,by rw[G.out,World.drewN_drewN]⟩
    ·have t1:((x:Int) != (z:Int))=true:=by rw[bne_iff_ne];omega
     have y:B=false:=by rw[Q.out];refine decide_eq_false (fun e=>?_);rw[e,u]at l;exact f (Option.some.inj l).symm
     have v:=dh y;clear u t s l f y;go_wp2_with fail;go_quiet (fail);go_wp2_with fail;go_ret;exact⟨by rw[v.out];rfl,E+nq,by rw[G.out,World.drewN_drewN]⟩
   ·obtain rfl:j=m:=by omega
    have y:B=true:=by
     rw[Q.out];refine decide_eq_true (List.ext_getElem? (fun i=>?_));rcases Nat.lt_or_ge i j with h|h
     ·exact s i h
     ·rw[List.getElem?_eq_none (by rw[P.out];exact h),List.getElem?_eq_none (by have:=M.out;omega)]
    have v:=dh y;clear t s y;go_wp2_with fail;go_ret;exact⟨by rw[v.out];rfl,E,G.out⟩
theorem Xi(b c:Nat)(sv l:Value)(s t:List Nat)(w:World)(h:PermAt w b sv s)(k:PermAt w c l t)(G:s.length<=100000)(v:t.length<=100000) :
  Calls Tryz.prog 69 #[.pointer (some ⟨b,0,none⟩),.pointer (some ⟨c,0,none⟩)] w fun e w'=>e=.returned (.bool (decide (s=t)))/\Keeps (fun _=>False) w w':=by
 have m:=q1z b sv s w h (by omega);have x:=dh (fun W y=>k.keeps (F:=fun _=>False) (w':=W) y (fun h=>h) (fun _ _ h=>h));generalize o:decide (s=t)=d at *;have z:=dh o;clear h k o;go_enter Tryz.func69,Tryz.ntmps69;go_wp2_with fail;refine m.mono ?_;rintro e w1 ⟨A,rfl,g,a⟩;have p:=q1z c l t w1 (x.out w1 a) (by omega);have u:=dh (dn g a);clear m g a;go_wp2_with fail;refine p.mono ?_;rintro e B ⟨C,rfl,i,f⟩;have j:=Xh A C s t B (u.out.1.keeps f (fun _ _ h=>h)).sl i.sl (by omega);rw[z.out]at j;have D:=dh f;clear p i f;go_wp2_with fail;refine j.mono ?_;clear j;rintro e H ⟨rfl,q,rfl⟩;have E:=dh (u.out.2.trans D.out (fun _ _ h=>h));go_wp2;go_ret;exact⟨rfl,E.out.drewN q⟩
theorem Xj{w:World}{b c:Nat}{s t:List Nat}{lone:Int}{r g:Nat}{R Q:Nat->Prop}(h:MapAt w b s (r:Nat) lone R)(k:MapAt w c t (g:Nat) lone Q)(B:s.length<=100000)(q:t.length<=100000) :
  Calls Tryz.prog 26 #[.pointer (some ⟨b,0,none⟩),.pointer (some ⟨c,0,none⟩)] w fun e w'=>e=.returned (.bool (decide (s=t/\r=g)))/\Keeps (fun _=>False) w w':=by
 obtain⟨u,bq,sv,tv,d1,d2,o1,z1,o2,z2,o,y,C,_⟩:=h.ex;obtain⟨i,D,nC,E,F,G,H,I,J,L,p,z,M,_⟩:=k.ex
 have A:Hid (∀w',Keeps (fun _=>False) w w'->w'.cell? ⟨b,0,none⟩=some (.pointer (some ⟨u,0,none⟩))/\w'.cell? ⟨b,12,none⟩=some (.int .i64 (r:Nat))/\w'.cell? ⟨b,13,none⟩=some (.int .i64 lone) /\
   w'.cell? ⟨c,0,none⟩=some (.pointer (some ⟨i,0,none⟩))/\w'.cell? ⟨c,12,none⟩=some (.int .i64 (g:Nat))/\w'.cell? ⟨c,13,none⟩=some (.int .i64 lone)):=dh (fun w' f =>
  ⟨dw (f.at o (fun h=>h)) 0,dw (f.at o (fun h=>h)) 12,dw (f.at o (fun h=>h)) 13,dw (f.at p (fun h=>h)) 0,dw (f.at p (fun h=>h)) 12,dw (f.at p (fun h=>h)) 13⟩)
 have l:=(Keeps.refl (fun _=>False) w).drew;have v:=Xi u i sv nC s t w.drew (y.keeps l (fun h=>h) (fun _ _ h=>h)) (z.keeps l (fun h=>h) (fun _ _ h=>h)) B q;obtain⟨O,P,U,V,W,X⟩:=A.out _ l;clear h k o y C p z M;have hn:(lone == lone)=true:=by simp
 have j:=dh l;clear l;by_cases a:r=g
 ·have hr:((r:Int) == (g:Int))=true:=by simp[a]
  obtain⟨d,x⟩:∃d,d=decide (s=t):=⟨_,rfl⟩
  have m:decide (s=t/\r=g)=d:=by rw[x];simp[a]
  rw[<-x]at v;rw[m];clear x m a;go_enter Tryz.func26,Tryz.ntmps26;go_wp2_with fail;go_region_held3 (fun w'=>w'.cell? ⟨b,0,none⟩=some (.pointer (some ⟨u,0,none⟩))/\w'.cell? ⟨b,12,none⟩=some (.int .i64 (r:Nat))/\w'.cell? ⟨b,13,none⟩=some (.int .i64 lone)/\w'.cell? ⟨c,0,none⟩=some (.pointer (some ⟨i,0,none⟩))/\w'.cell? ⟨c,12,none⟩=some (.int .i64 (g:Nat))/\w'.cell? ⟨c,13,none⟩=some (.int .i64 lone)) (first|exact⟨O,P,U,V,W,X⟩|exact⟨Y,Z,f3,f4,f5,f6⟩) (first | (go_at_call 69;refine v.mono ?_;rintro e w' ⟨rfl,f⟩;obtain⟨Y,Z,f3,f4,f5,f6⟩:=A.out _ (j.out.trans f (fun _ _ h=>h));have HK:=dh (j.out.trans f (fun _ _ h=>h));clear f))
  all_goals
   go_wp2;go_ret
   exact⟨rfl,HK.out⟩
 ·have hr:((r:Int) == (g:Int))=false:=by rw[beq_eq_false_iff_ne];omega
  have m:decide (s=t/\r=g)=false:=decide_eq_false (fun h=>a h.2);rw[m];clear m v a;go_enter Tryz.func26,Tryz.ntmps26;go_wp2_with fail;go_region
  all_goals
   go_wp2;go_ret
   exact⟨rfl,j.out⟩
end
