import Derived.Test.YtalhcfjcbbkpgaaGreatZp0y
import Derived.Test.YtalhcfjcbbkpgaaGreatZp15
set_option maxRecDepth 100000
set_option maxHeartbeats 4000000
namespace Go.Proofs.YtalhcfjcbbkpgaaGreat
section
open Go.RowKit
theorem O3(o a b c:Nat)(t p l:Bool)(w:World)(g:bits .and .u8 (o:Int) 1=(a:Int))(h:bits .and .u8 (o:Int) 2=(b:Int))(i:bits .and .u8 (o:Int) 4=(c:Int))(d:decide (0<a)=t)(f:decide (0<b)=p)(t4:decide (0<c)=l) :
  Calls Tryz.prog 13 #[.int .u8 o] w fun e w'=>e=.returned (iL t p l)/\Keeps (fun _=>False) w w':=by
 have s1:decide ((0:Int)<(a:Int))=t:=by rw[<-d];simp
 have s2:decide ((0:Int)<(b:Int))=p:=by rw[<-f];simp
 have j:decide ((0:Int)<(c:Int))=l:=by rw[<-t4];simp
 unfold iL;go_enter Tryz.func13,Tryz.ntmps13;go_wp2;refine bodyPost_ret (v:=.agg #[.bool t,.bool p,.bool l]) ?_ rfl ⟨rfl,(Keeps.refl (fun _=>False) w).alloc _⟩;simp[results,Tryz.results13,go_sem]
theorem Xd(lab:List Bool)(p:Bool):∃c,CK p false 1 [] lab=[80,81,um false p false,1,0] ++ c/\c.length=4:=by refine⟨four (mO (80 :: 81 :: um false p false :: wG p false 1 [] lab)),?_,rfl⟩;rw[WC];unfold wG xR;rw[List.map_nil,List.length_nil,Db (by decide),Db (by decide)];rfl
theorem Xe(w:World):Calls Tryz.prog 10 #[] w fun e w'=>e=.returned (.bool true)/\Keeps (fun _=>False) w w':=by
 have O:=EJ (s:=[]) (rt:=-1) (ln:=1) (sv:=.slice none 0 0) (W:=w) ⟨none,0,rfl,by simp[dD],by decide,fun _=>rfl,fun j z q=>by simp[dD]at q⟩ ⟨fun d H=>absurd H (by simp),fun d e H=>absurd H (by simp)⟩ rfl (by simp) (by decide) (.inl ⟨rfl,rfl⟩);go_enter Tryz.func10,Tryz.ntmps10;go_wp2_with fail;refine O.mono ?_;clear O;rintro e w1 ⟨b,rfl,P,U,t⟩;have u:fV (jN [] 1)=0:=by simp[jN,pK,fV]
 have f:dY [] (-1)=[]:=by simp[dY]
 have y:=Wy false false false P u wE (OW false false (by rw[f];exact fun k I=>by cases I)) (by rw[f,JQ];simp) (by rw[f];exact fun k I=>by cases I);rw[f]at y;obtain⟨A,i⟩:∃A,A=jJ false false false 1 (([]:List (List Nat)).map wE) (jR [] (-1)):=⟨_,rfl⟩
 rw[<-i]at y;obtain⟨c,B,C⟩:=Xd (jR [] (-1)) false;have l:A=[80,81,0,1,0] ++ c:=by rw[i];exact B
 have a:A.length=9:=by rw[l,List.length_append,C];rfl
 have J:=dh (dn t (dn U (dn l a)));unfold iL at y;clear P u f i B C t;go_wp2_with fail;refine y.mono ?_;clear y;rintro e p ⟨v,rfl,L,-,D⟩;obtain⟨g,vc,Q,V,X,E,R⟩:=L.row (by rw[a];decide);rw[a]at Q E;subst Q;have m:=L.sl.take 5 (by rw[q01,a];decide);have M:=(Keeps.refl (fun _=>False) p).alloc (.cells #[.int .u8 80,.int .u8 81,.int .u8 0,.int .u8 1,.int .u8 0] 5);have F:Sl .u8 (p.alloc (.cells #[.int .u8 80,.int .u8 81,.int .u8 0,.int .u8 1,.int .u8 0] 5)) (.slice (some ⟨p.heap.size,0,none⟩) 5 5) (dD [80,81,0,1,0]):=by refine⟨some ⟨p.heap.size,0,none⟩,5,rfl,by simp[dD],by decide,(fun h=>by cases h),fun j z q=>⟨p.heap.size,0,rfl,?_⟩⟩;have Y:=dw (heap_alloc_new p (.cells #[.int .u8 80,.int .u8 81,.int .u8 0,.int .u8 1,.int .u8 0] 5)) (0+j);rw[Y];have Z:j<5:=gX q;rcases(show j=0\/j=1\/j=2\/j=3\/j=4 by omega)with rfl|rfl|rfl|rfl|rfl <;> (simp[dD]at q;subst q;rfl)
 have G:(dD A).take 5=dD [80,81,0,1,0]:=by rw[J.out.2.2.1];simp[dD]
 rw[G]at m;have o:=Ir _ _ _ _ _ (m.keeps M (fun _ _ h=>h)) F (by decide) (by decide);rw[decide_eq_true rfl]at o;have H2:=dh ((J.out.1.trans D (fun x hx e=>by have:=J.out.2.1;omega)).trans M (fun _ _ h=>h));clear L m F G D M a l;go_wp2_with fail;refine o.mono ?_;clear o;rintro e w3 ⟨rfl,rfl⟩;go_wp2_with fail;go_ret;exact⟨by simp,H2.out⟩
end
section
def kid(S:Nat->Nat)(r N x:Nat):Prop:=col S r N (mt x)=0\/x=fc S (fc S r)\/x=mt (fc S r)
noncomputable def kH(S:Nat->Nat)(r N x:Nat):Nat:=open Classical in if kid S r N x\/kid S r N (mt x)then S (mt x)else S x
section
variable {n:Nat} {S:Nat->Nat} (T:jO n S) {r:Nat} (hr:r<n) {N:Nat} (K:dJ n S r N)
include T hr K
theorem dJ.j3{x:Nat}:kid S r N x↔(∃j,j<N/\lu S r j x)\/x=fc S (fc S r)\/x=mt (fc S r):=by unfold kid;rw[K.JR T hr,dF]
omit hr K in
theorem jO.twins{hr:r<n}:vnum S (fc S (fc S r))=vnum S (mt (fc S r))/\vnum S (mt (fc S (fc S r)))=vnum S r/\vnum S (mt (mt (fc S r)))=vnum S (mt r) :=
 ⟨T.vf (T.gD hr),T.zq hr,by rw[dF];exact T.vf hr⟩
theorem dJ.nL{y z:Nat}(c:vnum S y=vnum S z)(b:kid S r N (mt y))(a:kid S r N (mt z)):y=z:=by
 obtain⟨w1,e,f⟩:=T.twins (hr:=hr);obtain⟨m,o,t3⟩:=T.zG hr
 have key:∀y z,vnum S y=vnum S z->(∃j,j<N/\lu S r j (mt y))->(mt z=fc S (fc S r)\/mt z=mt (fc S r))->False:=fun y z c b a=>by
  obtain⟨j,g,h⟩:=b;have:=K.nK T hr g h;rw[dF,c,<-dF z]at this;rcases a with a|a
  ·rw[a,e]at this;exact this (.inl rfl)
  ·rw[a,f]at this;exact this (.inr (.inl (T.vf hr).symm))
 rcases(K.j3 T hr).1 b with b|b <;> rcases(K.j3 T hr).1 a with a|a
 ·obtain⟨i,h,k⟩:=b;obtain⟨j,g,l⟩:=a;have:=K.yj T hr h g k l (by rw[dF,dF];exact c);rw[<-dF y,this,dF]
 ·exact(key y z c b a).elim
 ·exact(key z y c.symm a b).elim
 ·have d:vnum S r≠vnum S (mt r):=T.loop r hr;rcases b with b|b <;> rcases a with a|a
  ·rw[<-dF y,b,<-a,dF]
  ·rw[<-dF y,<-dF z,b,a,e,f]at c;exact absurd c d
  ·rw[<-dF y,<-dF z,b,a,e,f]at c;exact absurd c.symm d
  ·rw[<-dF y,b,<-a,dF]
theorem dJ.qx{y:Nat}(h:kid S r N (mt y)):vnum S y≠vnum S (fc S (fc S r)):=fun a=>by
 obtain⟨w1,b,c⟩:=T.twins (hr:=hr);obtain⟨g,d,t3⟩:=T.zG hr;rcases(K.j3 T hr).1 h with⟨j,e,f⟩|h|h
 ·have:=K.nK T hr e f;rw[dF,a]at this;exact this (.inr (.inr rfl))
 ·rw[<-dF y,h,b]at a;exact t3 a
 ·rw[<-dF y,h,c,<-T.vf hr]at a;exact d a
theorem dJ.uF{x:Nat}(b:kid S r N x)(a:kid S r N (mt x)):False:=by
 obtain⟨w1,p,q⟩:=T.twins (hr:=hr);have d:=K.qx T hr a;rcases(K.j3 T hr).1 b with⟨i,f,b⟩|b|b
 ·rcases(K.j3 T hr).1 a with⟨j,m,a⟩|a
  ·obtain⟨-,g,a3,-⟩:=K.ins T hr f b;obtain⟨-,k,l,-⟩:=K.ins T hr m a;rw[dF]at l;have o:i≠j:=fun e=>by subst e;have:=T.loop x (by obtain⟨c,-⟩:=K.ins T hr f b;exact c);rw[g,k]at this;exact this rfl
   rcases Nat.lt_or_ge i j with h|h
   ·exact l (by rw[g];exact oO.2 ⟨i,h,rfl⟩)
   ·exact a3 (by rw[k];exact oO.2 ⟨j,by omega,rfl⟩)
  ·have:=K.nK T hr f b;rcases a with a|a
   ·rw[a]at this;exact this (.inr (.inr rfl))
   ·rw[a,<-w1]at this;exact this (.inr (.inr rfl))
 ·rw[b]at d;exact d rfl
 ·rw[b,<-w1]at d;exact d rfl
omit hr K in
theorem jO.nU:dO n (kH S r N):=by
 have e:∀x,kH S r N x=S (open Classical in if kid S r N x\/kid S r N (mt x)then mt x else x):=fun x=>by unfold kH;split <;> rfl
 refine⟨fun x d=>?_,fun x y d f a=>?_⟩
 ·rw[e];split
  ·exact T.slt (T.mlt d)
  ·exact T.slt d
 ·rw[e,e]at a;have a:=T.dR.inj _ _ (by split;exact T.mlt d;exact d) (by split;exact T.mlt f;exact f) a;by_cases b:kid S r N x\/kid S r N (mt x) <;> by_cases c:kid S r N y\/kid S r N (mt y)
  ·rw[if_pos b,if_pos c]at a;rw[<-dF x,a,dF]
  ·rw[if_pos b,if_neg c]at a;exact absurd (by rw[<-a,dF];exact b.symm) c
  ·rw[if_neg b,if_pos c]at a;exact absurd (by rw[a,dF];exact c.symm) b
  ·rw[if_neg b,if_neg c]at a;exact a
theorem dJ.around{u:Nat}(d:u<n)(k:kid S r N (mt u))(l:∀y,y<n->vnum S y=vnum S u->kid S r N y->dK (kH S r N) (S (mt y)) (mt y)) :
  ∀t,t+1<=per S u->dK (kH S r N) (S u) (itr S (t+1) u):=by
 intro t
 induction t with
 | zero=>intro _;exact dK.refl _ _
 | succ t e =>
  intro p;have e:=e (by omega);have m:=T.dR.dW d (t+1);have a:=T.pE d (t+1);have f:itr S (t+1) u≠u:=(T.dR.dM d).2.2.2 (t+1) (by omega) (by omega);refine e.trans ?_;show dK _ (itr S (t+1) u) (S (itr S (t+1) u));generalize itr S (t+1) u=y at *;by_cases b:kid S r N y
  ·have g:kH S r N y=S (mt y):=by unfold kH;rw[if_pos (.inl b)]
   have o:kH S r N (mt y)=S y:=by unfold kH;rw[if_pos (.inr (by rw[dF];exact b)),dF]
   have c:=dK.step (kH S r N) y;rw[g]at c;have j:=dK.step (kH S r N) (mt y);rw[o]at j;exact(c.trans (l y m a b)).trans j
  ·have i:¬kid S r N (mt y):=fun i=>f (K.nL T hr a i k);have g:kH S r N y=S y:=by unfold kH;rw[if_neg (by rintro (h|h);exact b h;exact i h)]
   have c:=dK.step (kH S r N) y;rwa [g]at c
theorem dJ.ret{y:Nat}(b:y<n)(c:kid S r N y):dK (kH S r N) (S (mt y)) (mt y):=by
 have key:∀m y,y<n->kid S r N y->(∀j,j<N->kX S r j=vnum S (mt y)->N<=j+m)->dK (kH S r N) (S (mt y)) (mt y):=by
  intro m
  induction m with
  | zero =>
   intro y b c l;have o:∀j,j<N->kX S r j≠vnum S (mt y):=fun j f u=>by have:=l j f u;omega
   have g:=K.around T hr (T.mlt b) (by rw[dF];exact c) (fun z p a d=>by
    exfalso;rcases(K.j3 T hr).1 d with⟨j,f,s⟩|h|h
    ·exact o j f (by rw[<-a];exact(K.ins T hr f s).2.1.symm)
    ·exact K.qx T hr (y:=mt y) (by rw[dF];exact c) (by rw[<-a,h])
    ·exact K.qx T hr (y:=mt y) (by rw[dF];exact c) (by rw[<-a,h,<-(T.twins (hr:=hr)).1])) (per S (mt y) - 1) (by have:=(T.dR.dM (T.mlt b)).1;omega)
   rw[show per S (mt y) - 1+1=per S (mt y) by have:=(T.dR.dM (T.mlt b)).1;omega,(T.dR.dM (T.mlt b)).2.2.1]at g;exact g
  | succ m v =>
   intro y b c l
   have g:=K.around T hr (T.mlt b) (by rw[dF];exact c) (fun z p a d=>by
    refine v z p d (fun i s k=>?_);rcases(K.j3 T hr).1 d with⟨j,f,q⟩|h|h
    ·obtain⟨-,t,w,-⟩:=K.ins T hr f q;have x:=l j f (by rw[<-a];exact t.symm);have A:i≠j:=fun e=>by subst e;have:=T.loop z p;rw[t,k]at this;exact this rfl
     rcases Nat.lt_or_ge i j with h|h
     ·exact absurd (by rw[<-k];exact oO.2 ⟨i,h,rfl⟩) w
     ·omega
    ·exact absurd (by rw[<-a,h]) (K.qx T hr (y:=mt y) (by rw[dF];exact c))
    ·exact absurd (by rw[<-a,h,<-(T.twins (hr:=hr)).1]) (K.qx T hr (y:=mt y) (by rw[dF];exact c))) (per S (mt y) - 1) (by have:=(T.dR.dM (T.mlt b)).1;omega)
   rw[show per S (mt y) - 1+1=per S (mt y) by have:=(T.dR.dM (T.mlt b)).1;omega,(T.dR.dM (T.mlt b)).2.2.1]at g;exact g
 exact key N y b c (fun j f _=>by omega)
theorem dJ.span:∀x,x<n->dK (kH S r N) (fc S (fc S r)) x:=by
 have m:=T.gD (T.gD hr)
 have H:∀t,dK (kH S r N) (fc S (fc S r)) (itr S t (fc S (fc S r))):=by
  intro t
  induction t with
  | zero=>exact dK.refl _ _
  | succ t q =>
   refine q.trans ?_;have o:=T.dR.dW m t;have b:=T.pE m t;show dK _ (itr S t (fc S (fc S r))) (S (itr S t (fc S (fc S r))));generalize itr S t (fc S (fc S r))=y at *;by_cases p:kid S r N y
   ·have e:kH S r N y=S (mt y):=by unfold kH;rw[if_pos (.inl p)]
    have I:kH S r N (mt y)=S y:=by unfold kH;rw[if_pos (.inr (by rw[dF];exact p)),dF]
    have c:=dK.step (kH S r N) y;rw[e]at c;have C:=dK.step (kH S r N) (mt y);rw[I]at C;exact(c.trans (K.ret T hr o p)).trans C
   ·have s:¬kid S r N (mt y):=fun s=>K.qx T hr s b;have e:kH S r N y=S y:=by unfold kH;rw[if_neg (by rintro (h|h);exact p h;exact s h)]
    have c:=dK.step (kH S r N) y;rwa [e]at c
 have f:∀x,x<n->vnum S x=vnum S (fc S (fc S r))->dK (kH S r N) (fc S (fc S r)) x:=fun x a d=>by obtain⟨t,-,J⟩:=T.turn m a d.symm;have:=H t;rwa [J]at this
 have u:∀y x,y<n->x<n->kid S r N y->dK (kH S r N) (fc S (fc S r)) y->vnum S x=vnum S (mt y)->dK (kH S r N) (fc S (fc S r)) x:=fun y x o a v L d=>by
  have e:kH S r N y=S (mt y):=by unfold kH;rw[if_pos (.inl v)]
  have c:=dK.step (kH S r N) y;rw[e]at c;refine(L.trans c).trans ?_;have D:=T.mlt o;obtain⟨t,V,g⟩:=T.turn D a d.symm;have M:=fun t h=>K.around T hr D (by rw[dF];exact v) (fun z O _ w=>K.ret T hr O w) t h;rcases Nat.eq_zero_or_pos t with E|E
  ·rw[E]at g;have g:mt y=x:=g;rw[<-g];exact K.ret T hr o v
  ·have:=M (t - 1) (by omega);rwa [show t - 1+1=t by omega,g]at this
 obtain⟨w1,P,Q⟩:=T.twins (hr:=hr)
 have R:∀j,j<N->∀x,x<n->vnum S x=kX S r j->dK (kH S r N) (fc S (fc S r)) x:=by
  intro j
  induction j using Nat.strongRecOn with
  | ind j q =>
   intro k x a d;by_cases l:p9 S r (kX S r j)
   ·rcases l with h|h|h
    ·exact absurd (by rw[<-h];exact oO.2 ⟨j,k,rfl⟩) K.one
    ·exact absurd (by rw[<-T.vf hr,<-h];exact oO.2 ⟨j,k,rfl⟩) K.Dq
    ·exact f x a (by rw[d,h])
   ·obtain⟨i,y,A,F,b⟩:=K.parent T hr k l;obtain⟨G,U,-⟩:=K.ins T hr (show i<N by omega) F;exact u y x G a ((K.j3 T hr).2 (.inl ⟨i,by omega,F⟩)) (q i A (by omega) y G U) (by rw[d,b])
 intro x a;rcases K.all x a with h|h|h
 ·obtain⟨j,k,B⟩:=oO.1 h;exact R j k x a B.symm
 ·exact u (fc S (fc S r)) x m a (.inr (.inl rfl)) (dK.refl _ _) (by rw[h,P])
 ·exact u (mt (fc S r)) x (T.mlt (T.gD hr)) a (.inr (.inr rfl)) (f _ (T.mlt (T.gD hr)) w1.symm) (by rw[h,Q])
theorem dJ.qy:per (kH S r N) (fc S (fc S r))=n:=by have a:=T.nU (r:=r) (N:=N);have b:=T.gD (T.gD hr);have c:=vI (a.kY b) (List.nodup_range (n:=n)) (fun x=>by rw[a.fU b,List.mem_range];exact⟨fun h=>a.fK b h,fun h=>K.span T hr x h⟩);rwa [yG,List.length_range]at c
end
end
