import Derived.Test.YtalhcfjcbbkpgaaGreatZp0u
set_option maxRecDepth 100000
set_option maxHeartbeats 4000000
namespace Go.Proofs.YtalhcfjcbbkpgaaGreat
section
structure jY (n:Nat)(S:Nat->Nat):Prop where
 dR:dO n S
 even:n % 2=0
 tri:∀x,x<n->S (mt (S (mt (S (mt x)))))=x
 loop:∀x,x<n->vnum S x≠vnum S (mt x)
 conn:∀x y,x<n->y<n->dI n S x y
theorem JA{n m:Nat}{S F:Nat->Nat}(a:∀x y,x<n->y<n->dI n S x y)(b:n<=m)(h:∀z,z<n->dI m F z (S z)){x y:Nat}(c:x<n)(d:y<n):dI m F x y :=
 a x y c d (fun z=>dI m F x z) (dI.refl _ _ _) (fun z e k=>⟨k.trans (h z e),k.trans (dI.mate (by omega))⟩)
theorem dI.to{n:Nat}{S:Nat->Nat}{x y:Nat}(h:x<n)(e:S x=y):dI n S x y:=e ▸ dI.turn h
theorem dI.EW{n:Nat}{S F:Nat->Nat}(b:∀x,x<n->F x=S x)(c:∀x y,x<n->y<n->dI n S x y):∀x y,x<n->y<n->dI n F x y:=fun _ _ d e =>
 JA c (Nat.le_refl _) (fun z a=>dI.to a (b z a)) d e
def gV(a b c z:Nat):Nat:=if z=a then b else if z=b then c else if z=c then a else z
theorem Ob{a b c:Nat}(g:a≠b)(h:b≠c)(i:a≠c)(z:Nat):gV a c b (gV a b c z)=z:=by
 unfold gV;by_cases d:z=a
 ·subst d;rw[if_pos rfl,if_neg g.symm,if_neg h,if_pos rfl]
 ·rw[if_neg d];by_cases e:z=b
  ·subst e;rw[if_pos rfl,if_neg i.symm,if_pos rfl]
  ·rw[if_neg e];by_cases f:z=c
   ·subst f;rw[if_pos rfl,if_pos rfl]
   ·rw[if_neg f,if_neg d,if_neg f,if_neg e]
theorem JB{n a b c z:Nat}(d:a<n)(e:b<n)(f:c<n)(g:z<n):gV a b c z<n:=by
 unfold gV;split
 ·exact e
 ·split
  ·exact f
  ·split
   ·exact d
   ·exact g
theorem dO.Oc{n:Nat}{S:Nat->Nat}(h:dO n S){a b c:Nat}(f:a<n)(g:b<n)(i:c<n)(l:a≠b)(m:b≠c)(o:a≠c):dO n (fun z=>S (gV a b c z)) :=
 ⟨fun d j=>h.lt _ (JB f g i j),fun d e j p k=>by have:=h.inj _ _ (JB f g i j) (JB f g i p) k;rw[<-Ob l m o d,this,Ob l m o]⟩
theorem JC{n:Nat}{S:Nat->Nat}(h:dO n S)(b:n % 2=0)(L:Nat->Nat)(c:∀z,z<n->L (S z)=L z)(d:∀z,z<n->L z≠L (mt z)):∀x,x<n->vnum S x≠vnum S (mt x):=by
 intro x a e;obtain⟨k,f⟩:=(h.eT a (dQ b a)).1 e
 have key:∀k,L (itr S k x)=L x:=by
  intro k
  induction k with
  | zero=>rfl
  | succ k g=>show L (S (itr S k x))=_;rw[c _ (h.dW a k),g]
 exact d x a (by rw[<-f,key])
section
variable {n:Nat} {S:Nat->Nat} (T:jY n S)
include T
theorem jY.mlt{x:Nat}(h:x<n):mt x<n:=dQ T.even h
theorem jY.vS{x:Nat}(h:x<n):vnum S (S x)=vnum S x:=((T.dR.eT h (T.dR.lt x h)).2 (dK.step S x)).symm
theorem jY.flip{d i c:Nat}(I:d<n)(B:i<n)(C:c<n)(G:S i=d)(E:S c=mt d)(M:vnum S (S (mt (S (mt d))))≠vnum S (S (mt (S d)))) :
  ∃F:Nat->Nat,F=(fun z=>S (gV i d (mt (S (mt d))) (gV c (mt d) (mt (S d)) z)))/\jY n F/\i≠d/\d≠mt (S (mt d))/\i≠mt (S (mt d))/\c≠mt d/\mt d≠mt (S d)/\c≠mt (S d) /\
   (∀z,(z=i\/z=d\/z=mt (S (mt d)))->¬(z=c\/z=mt d\/z=mt (S d))) /\
   F i=S d/\F d=S (mt (S (mt d)))/\F (mt (S (mt d)))=d/\F c=S (mt d)/\F (mt d)=S (mt (S d))/\F (mt (S d))=mt d /\
   ∀z,¬(z=i\/z=d\/z=mt (S (mt d)))->¬(z=c\/z=mt d\/z=mt (S d))->F z=S z:=by
 obtain⟨e,q⟩:∃e,e=mt d:=⟨_,rfl⟩
 have k:mt e=d:=by rw[q,dF]
 have o:e<n:=by rw[q];exact T.mlt I
 obtain⟨f,J⟩:∃f,f=S e:=⟨_,rfl⟩
 obtain⟨g,K⟩:∃g,g=S d:=⟨_,rfl⟩
 have l:f<n:=by rw[J];exact T.dR.lt e o
 have m:g<n:=by rw[K];exact T.dR.lt d I
 obtain⟨a,O⟩:∃a,a=S (mt f):=⟨_,rfl⟩
 obtain⟨b,P⟩:∃b,b=S (mt g):=⟨_,rfl⟩
 have Q:a<n:=by rw[O];exact T.dR.lt _ (T.mlt l)
 have R:b<n:=by rw[P];exact T.dR.lt _ (T.mlt m)
 rw[<-q,<-J,<-K,<-O,<-P]at M;rw[<-q]at E;rw[<-q,<-J,<-K,<-O,<-P];have t1:S (mt a)=d:=by have:=T.tri d I;rw[<-q,<-J,<-O]at this;exact this
 have t2:S (mt b)=e:=by have:=T.tri e o;rw[k,<-K,<-P]at this;exact this
 have Z:mt a=i:=T.dR.inj _ _ (T.mlt Q) B (by rw[t1,G]);have mb:mt b=c:=T.dR.inj _ _ (T.mlt R) C (by rw[t2,E]);have r:vnum S i=vnum S d:=by rw[<-T.vS B,G]
 have s:vnum S c=vnum S e:=by rw[<-T.vS C,E]
 have vf:vnum S f=vnum S e:=by rw[J,T.vS o]
 have vg:vnum S g=vnum S d:=by rw[K,T.vS I]
 have vx:vnum S (mt f)=vnum S a:=by rw[O,T.vS (T.mlt l)]
 have H:vnum S (mt g)=vnum S b:=by rw[P,T.vS (T.mlt m)]
 have L:vnum S d≠vnum S e:=by rw[q];exact T.loop d I
 have wp:vnum S e≠vnum S a:=by rw[<-vf,<-vx];exact T.loop f l
 have uq:vnum S d≠vnum S b:=by rw[<-vg,<-H];exact T.loop g m
 have pu:vnum S a≠vnum S d:=by have:=T.loop a Q;rw[Z,r]at this;exact this
 have qw:vnum S b≠vnum S e:=by have:=T.loop b R;rw[mb,s]at this;exact this
 have j:∀{x y:Nat},vnum S x≠vnum S y->x≠y:=fun h e=>h (by rw[e])
 have k1:i≠d:=fun hc=>by
  rw[hc]at G;have:g=d:=by rw[K,G]
  rw[this]at H;rw[show mt d=e from q.symm]at H;exact qw H.symm
 have k2:c≠e:=fun hc=>by
  rw[hc]at E;have:f=e:=by rw[J,E]
  rw[this,k]at vx;exact pu vx.symm
 have k3:d≠mt f:=j (by rw[vx];exact pu.symm);have k4:i≠mt f:=j (by rw[vx,r];exact pu.symm);have k5:e≠mt g:=j (by rw[H];exact qw.symm);have k6:c≠mt g:=j (by rw[H,s];exact qw.symm)
 have kx:∀z,(z=i\/z=d\/z=mt f)->¬(z=c\/z=e\/z=mt g):=by
  rintro z (rfl|rfl|rfl) (h|h|h)
  ·exact j (by rw[r,s];exact L) h
  ·exact j (by rw[r];exact L) h
  ·exact j (by rw[r,H];exact uq) h
  ·exact j (by rw[s];exact L) h
  ·exact j L h
  ·exact j (by rw[H];exact uq) h
  ·exact j (by rw[vx,s];exact wp.symm) h
  ·exact j (by rw[vx];exact wp.symm) h
  ·exact j (by rw[vx,H];exact M) h
 obtain⟨F,hF⟩:∃F:Nat->Nat,F=fun z=>S (gV i d (mt f) (gV c e (mt g) z)):=⟨_,rfl⟩
 have N:∀z,¬(z=c\/z=e\/z=mt g)->gV c e (mt g) z=z:=fun z p=>by unfold gV;rw[if_neg (fun h=>p (.inl h)),if_neg (fun h=>p (.inr (.inl h))),if_neg (fun h=>p (.inr (.inr h)))]
 have w:∀z,¬(z=i\/z=d\/z=mt f)->gV i d (mt f) z=z:=fun z p=>by unfold gV;rw[if_neg (fun h=>p (.inl h)),if_neg (fun h=>p (.inr (.inl h))),if_neg (fun h=>p (.inr (.inr h)))]
 have U:∀z,(z=c\/z=e\/z=mt g)->¬(z=i\/z=d\/z=mt f):=fun z h h'=>kx z h' h;have F1:F i=g:=by rw[hF];show S (gV _ _ _ (gV _ _ _ i))=_;rw[N i (kx i (.inl rfl))];unfold gV;rw[if_pos rfl,K]
 have F2:F d=a:=by rw[hF];show S (gV _ _ _ (gV _ _ _ d))=_;rw[N d (kx d (.inr (.inl rfl)))];unfold gV;rw[if_neg k1.symm,if_pos rfl,O]
 have V:F (mt f)=d:=by rw[hF];show S (gV _ _ _ (gV _ _ _ (mt f)))=_;rw[N _ (kx _ (.inr (.inr rfl)))];unfold gV;rw[if_neg k4.symm,if_neg k3.symm,if_pos rfl,G]
 have F4:F c=f:=by rw[hF];show S (gV _ _ _ (gV _ _ _ c))=_;rw[show gV c e (mt g) c=e by unfold gV;rw[if_pos rfl],w e (U e (.inr (.inl rfl))),J]
 have F5:F e=b:=by rw[hF];show S (gV _ _ _ (gV _ _ _ e))=_;rw[show gV c e (mt g) e=mt g by unfold gV;rw[if_neg k2.symm,if_pos rfl],w _ (U _ (.inr (.inr rfl))),P]
 have W:F (mt g)=e:=by rw[hF];show S (gV _ _ _ (gV _ _ _ (mt g)))=_;rw[show gV c e (mt g) (mt g)=c by unfold gV;rw[if_neg k6.symm,if_neg k5.symm,if_pos rfl],w _ (U _ (.inl rfl)),E]
 have F0:∀z,¬(z=i\/z=d\/z=mt f)->¬(z=c\/z=e\/z=mt g)->F z=S z:=fun z t A=>by rw[hF];show S (gV _ _ _ (gV _ _ _ z))=_;rw[N z A,w z t]
 have hI:dO n F:=by have:=(T.dR.Oc B I (T.mlt l) k1 k3 k4).Oc C o (T.mlt m) k2 k5 k6;rw[hF];exact this
 refine⟨F,hF,?_,k1,k3,k4,k2,k5,k6,kx,F1,F2,V,F4,F5,W,F0⟩;have aa:dI n F g d:=((dI.mate m).trans (dI.to (T.mlt m) W)).trans (k ▸ dI.mate o);have ab:dI n F f e:=((dI.mate l).trans (dI.to (T.mlt l) V)).trans (q ▸ dI.mate I)
 have ad:∀z,z<n->dI n F z (S z):=fun z p=>by
  by_cases t:z=i\/z=d\/z=mt f
  ·rcases t with h|h|h
   ·rw[h,G];exact(dI.to B F1).trans aa
   ·rw[h,<-K];exact hI.gL T.even m aa
   ·rw[h,<-O];exact(dI.to (T.mlt l) V).trans (dI.to I F2)
  ·by_cases A:z=c\/z=e\/z=mt g
   ·rcases A with h|h|h
    ·rw[h,E];exact(dI.to C F4).trans ab
    ·rw[h,<-J];exact hI.gL T.even l ab
    ·rw[h,<-P];exact(dI.to (T.mlt m) W).trans (dI.to o F5)
   ·exact dI.to p (F0 z t A)
 refine⟨hI,T.even,fun x hx=>?_,JC hI T.even (fun z=>if z=d then vnum S a else if z=e then vnum S b else vnum S z) (fun z p=>?_) (fun z p=>?_),fun x y hx hy=>JA T.conn (Nat.le_refl _) ad hx hy⟩
 ·
  have ae:∀x,x<n->(x=d\/x=f\/x=a)\/(x=e\/x=g\/x=b)\/(¬(mt x=i\/mt x=d\/mt x=mt f)/\¬(mt x=c\/mt x=e\/mt x=mt g)):=fun x _=>by
   have D:∀y,mt x=mt y->x=y:=fun y h=>by rw[<-dF x,h,dF]
   by_cases G:mt x=i\/mt x=d\/mt x=mt f
   ·rcases G with h|h|h
    ·rw[<-Z]at h;exact .inl (.inr (.inr (D _ h)))
    ·rw[<-k]at h;exact .inr (.inl (.inl (D _ h)))
    ·exact .inl (.inr (.inl (D _ h)))
   ·by_cases E:mt x=c\/mt x=e\/mt x=mt g
    ·rcases E with h|h|h
     ·rw[<-mb]at h;exact .inr (.inl (.inr (.inr (D _ h))))
     ·rw[q]at h;exact .inl (.inl (D _ h))
     ·exact .inr (.inl (.inr (.inl (D _ h))))
    ·exact .inr (.inr ⟨G,E⟩)
  have fd:F (mt d)=b:=by rw[<-q];exact F5
  have fb:F (mt b)=f:=by rw[mb];exact F4
  have fe:F (mt e)=a:=by rw[k];exact F2
  have fa:F (mt a)=g:=by rw[Z];exact F1
  rcases ae x hx with (h|h|h) | (h|h|h)|⟨h1',h2'⟩
  ·rw[h,fd,fb,V]
  ·rw[h,V,fd,fb]
  ·rw[h,fa,W,fe]
  ·rw[h,fe,fa,W]
  ·rw[h,W,fe,fa]
  ·rw[h,fb,V,fd]
  ·
   have st:∀y,y<n->¬(mt y=i\/mt y=d\/mt y=mt f)->¬(mt y=c\/mt y=e\/mt y=mt g)->F (mt y)=S (mt y)/\S (mt y)<n/\¬(mt (S (mt y))=i\/mt (S (mt y))=d\/mt (S (mt y))=mt f)/\¬(mt (S (mt y))=c\/mt (S (mt y))=e\/mt (S (mt y))=mt g):=by
    intro y hy X Y;have inj:∀z,z<n->S (mt y)=S (mt z)->y=z:=fun z p h=>by have:=T.dR.inj _ _ (T.mlt hy) (T.mlt p) h;rw[<-dF y,this,dF]
    have D:∀u v,mt u=v->u=mt v:=fun u v h=>by rw[<-h,dF]
    have sd:S (mt d)=f:=by rw[<-q,J]
    have se:S (mt e)=g:=by rw[k,K]
    refine⟨F0 _ X Y,T.dR.lt _ (T.mlt hy),?_,?_⟩
    ·rintro (h|h|h)
     ·
      have h:=D _ _ h;rw[<-Z,dF,O]at h;have:=inj f l h;exact X (.inr (.inr (by rw[this])))
     ·have h:=D _ _ h;rw[<-q,<-t2]at h;have:=inj b R h;exact Y (.inl (by rw[this,mb]))
     ·have h:=D _ _ h;rw[dF,<-sd]at h;have:=inj d I h;exact Y (.inr (.inl (by rw[this,<-q])))
    ·rintro (h|h|h)
     ·have h:=D _ _ h;rw[<-mb,dF,P]at h;have:=inj g m h;exact Y (.inr (.inr (by rw[this])))
     ·have h:=D _ _ h;rw[k,<-t1]at h;have:=inj a Q h;exact X (.inl (by rw[this,Z]))
     ·have h:=D _ _ h;rw[dF,<-se]at h;have:=inj e o h;exact X (.inr (.inl (by rw[this,k])))
   obtain⟨s1,s2,s3,s4⟩:=st x hx h1' h2';obtain⟨u1,u2,u3,u4⟩:=st _ s2 s3 s4;obtain⟨w1,-,-,-⟩:=st _ u2 u3 u4;rw[s1,u1,w1];exact T.tri x hx
 ·
  have lab:∀y,y≠d->y≠e->(if y=d then vnum S a else if y=e then vnum S b else vnum S y)=vnum S y:=fun y X Y=>by rw[if_neg X,if_neg Y]
  show (if F z=d then vnum S a else if F z=e then vnum S b else vnum S (F z))=if z=d then vnum S a else if z=e then vnum S b else vnum S z
  have le:(if e=d then vnum S a else if e=e then vnum S b else vnum S e)=vnum S b:=by rw[if_neg (j L).symm,if_pos rfl]
  have ld:(if d=d then vnum S a else if d=e then vnum S b else vnum S d)=vnum S a:=if_pos rfl;by_cases t:z=i\/z=d\/z=mt f
  ·rcases t with h|h|h <;> rw[h]
   ·rw[F1,lab g (fun h=>k1 (T.dR.inj _ _ B I (by rw[G,<-K,h]))) (j (by rw[vg];exact L)),lab i k1 (j (by rw[r];exact L)),vg,r]
   ·rw[F2,lab a (j pu) (j wp.symm),ld]
   ·rw[V,ld,lab _ k3.symm (j (by rw[vx];exact wp.symm)),vx]
  ·by_cases A:z=c\/z=e\/z=mt g
   ·rcases A with h|h|h <;> rw[h]
    ·rw[F4,lab f (j (by rw[vf];exact L.symm)) (fun h=>k2 (T.dR.inj _ _ C o (by rw[E,<-J,h]))),lab c (j (by rw[s];exact L.symm)) k2,vf,s]
    ·rw[F5,lab b (j uq.symm) (j qw),le]
    ·rw[W,le,lab _ (j (by rw[H];exact uq.symm)) k5.symm,H]
   ·rw[F0 z t A,lab (S z) (fun h=>t (.inl (T.dR.inj _ _ p B (by rw[h,G])))) (fun h=>A (.inl (T.dR.inj _ _ p C (by rw[h,E])))),lab z (fun h=>t (.inr (.inl h))) (fun h=>A (.inr (.inl h))),T.vS p]
 ·show (if z=d then vnum S a else if z=e then vnum S b else vnum S z)≠if mt z=d then vnum S a else if mt z=e then vnum S b else vnum S (mt z)
  by_cases t:z=d
  ·rw[if_pos t,t,<-q,if_neg (j L).symm,if_pos rfl];exact M
  ·by_cases A:z=e
   ·rw[if_neg t,if_pos A,A,k,if_pos rfl];exact M.symm
   ·rw[if_neg t,if_neg A,if_neg (fun h=>A (by rw[q,<-h,dF])),if_neg (fun h=>t (by rw[<-k,<-h,dF]))];exact T.loop z p
end
def jZ(a b z:Nat):Nat:=if z=a then b else if z=b then a else z
theorem EX(a b:Nat):jZ a b a=b:=by unfold jZ;rw[if_pos rfl]
theorem EY(a b:Nat):jZ a b b=a:=by
 unfold jZ;by_cases h:b=a
 ·rw[if_pos h,h]
 ·rw[if_neg h,if_pos rfl]
theorem qU{a b z:Nat}(c:z≠a)(d:z≠b):jZ a b z=z:=by unfold jZ;rw[if_neg c,if_neg d]
theorem JD{n a b z:Nat}(c:a<n)(d:b<n)(e:z<n):jZ a b z<n:=by
 unfold jZ;split
 ·exact d
 ·split
  ·exact c
  ·exact e
theorem Oe(a b z:Nat):jZ a b (jZ a b z)=z:=by
 by_cases c:z=a
 ·subst c;rw[EX,EY]
 ·by_cases d:z=b
  ·subst d;rw[EY,EX]
  ·rw[qU c d,qU c d]
theorem dO.jZ{n:Nat}{S:Nat->Nat}(h:dO n S){a b:Nat}(c:a<n)(f:b<n):dO n (fun z=>S (jZ a b z)) :=
 ⟨fun d g=>h.lt _ (JD c f g),fun d e g j i=>by have:=h.inj _ _ (JD c f g) (JD c f j) i;rw[<-Oe a b d,this,Oe]⟩
def ny(n:Nat)(S:Nat->Nat)(z:Nat):Nat :=
 if z<n then S z else if z=n+1 then n+5 else if z=n+3 then n+1 else if z=n+5 then n+3 else z
theorem Vi{n:Nat}{S:Nat->Nat}(h:dO n S):dO (n+6) (ny n S):=by
 refine⟨fun d f=>?_,fun d e f g a=>?_⟩
 ·unfold ny;split
  ·have:=h.lt d (by assumption);omega
  ·repeat' split
   all_goals omega
 ·unfold ny at a;by_cases b:d<n <;> by_cases c:e<n
  ·rw[if_pos b,if_pos c]at a;exact h.inj d e b c a
  ·rw[if_pos b,if_neg c]at a;have:=h.lt d b
   repeat' split at a
   all_goals omega
  ·rw[if_neg b,if_pos c]at a;have:=h.lt e c
   repeat' split at a
   all_goals omega
  ·rw[if_neg b,if_neg c]at a
   repeat' split at a
   all_goals omega
def jh(n:Nat)(S:Nat->Nat)(d z:Nat):Nat :=
 ny n S (jZ (mt (S (mt (S (mt d))))) n (jZ (mt d) (n+2) (jZ (mt (S (mt d))) (n+4) z)))
section
variable {n:Nat} {S:Nat->Nat} (T:jY n S)
include T
theorem jY.put{d:Nat}(o:d<n):jY (n+6) (jh n S d)/\S (mt d)≠d/\S (mt (S (mt d)))≠d/\S (mt (S (mt d)))≠S (mt d) /\
  jh n S d (mt (S (mt (S (mt d)))))=n/\jh n S d (mt d)=n+2/\jh n S d (mt (S (mt d)))=n+4/\jh n S d n=d/\jh n S d (n+2)=S (mt d)/\jh n S d (n+4)=S (mt (S (mt d))) /\
  jh n S d (n+1)=n+5/\jh n S d (n+3)=n+1/\jh n S d (n+5)=n+3/\(∀z,z<n->z≠mt d->z≠mt (S (mt d))->z≠mt (S (mt (S (mt d))))->jh n S d z=S z):=by
 obtain⟨f,r⟩:∃f,f=S (mt d):=⟨_,rfl⟩
 obtain⟨g,s⟩:∃g,g=S (mt f):=⟨_,rfl⟩
 have i:f<n:=by rw[r];exact T.dR.lt _ (T.mlt o)
 have l:g<n:=by rw[s];exact T.dR.lt _ (T.mlt i)
 have O:S (mt g)=d:=by have:=T.tri d o;rw[<-r,<-s]at this;exact this
 rw[<-r,<-s];have y0:=T.mlt o;have y1:=T.mlt i;have y2:=T.mlt l;have va:vnum S f=vnum S (mt d):=by rw[r,T.vS y0]
 have vb:vnum S g=vnum S (mt f):=by rw[s,T.vS y1]
 have vc:vnum S d=vnum S (mt g):=by have:=T.vS y2;rw[O]at this;exact this
 have l0:=T.loop d o;have l1:=T.loop f i;have l2:=T.loop g l;have n1:f≠d:=fun e=>l0 (by rw[<-va,e]);have n2:g≠d:=fun e=>l2 (by rw[<-vc,e]);have n3:g≠f:=fun e=>l1 (by rw[<-vb,e]);have w:∀u v,mt u=mt v->u=v:=fun u v h=>by rw[<-dF u,h,dF]
 have m1:mt f≠mt d:=fun e=>n1 (w _ _ e);have m2:mt g≠mt d:=fun e=>n2 (w _ _ e);have m3:mt g≠mt f:=fun e=>n3 (w _ _ e);obtain⟨F,hF⟩:∃F:Nat->Nat,F=fun z=>ny n S (jZ (mt g) n (jZ (mt d) (n+2) (jZ (mt f) (n+4) z))):=⟨_,rfl⟩
 have aa:jh n S d=F:=by rw[hF];funext z;unfold jh;rw[<-r,<-s]
 rw[aa];have t:∀z,F z=ny n S (jZ (mt g) n (jZ (mt d) (n+2) (jZ (mt f) (n+4) z))):=fun z=>by rw[hF]
 have P:∀z,z<n->ny n S z=S z:=fun z j=>by unfold ny;rw[if_pos j]
 have B:F (mt g)=n:=by rw[t,qU (a:=mt f) m3 (by omega),qU (a:=mt d) m2 (by omega),EX];unfold ny;rw[if_neg (by omega),if_neg (by omega),if_neg (by omega),if_neg (by omega)]
 have C:F (mt d)=n+2:=by rw[t,qU (a:=mt f) m1.symm (by omega),EX,qU (by omega) (by omega)];unfold ny;rw[if_neg (by omega),if_neg (by omega),if_neg (by omega),if_neg (by omega)]
 have D:F (mt f)=n+4:=by rw[t,EX,qU (a:=mt d) (by omega) (by omega),qU (a:=mt g) (by omega) (by omega)];unfold ny;rw[if_neg (by omega),if_neg (by omega),if_neg (by omega),if_neg (by omega)]
 have I:F n=d:=by rw[t,qU (a:=mt f) (by omega) (by omega),qU (a:=mt d) (by omega) (by omega),EY,P _ y2,O]
 have J:F (n+2)=f:=by rw[t,qU (a:=mt f) (by omega) (by omega),EY,qU m2.symm (by omega),P _ y0,r]
 have K:F (n+4)=g:=by rw[t,EY,qU m1 (by omega),qU m3.symm (by omega),P _ y1,s]
 have A:∀z,n<=z->z≠n->z≠n+2->z≠n+4->F z=ny n S z:=fun z a b c e=>by rw[t,qU (a:=mt f) (by omega) (by omega),qU (a:=mt d) (by omega) (by omega),qU (by omega) (by omega)]
 have F7:F (n+1)=n+5:=by rw[A _ (by omega) (by omega) (by omega) (by omega)];unfold ny;rw[if_neg (by omega),if_pos rfl]
 have F8:F (n+3)=n+1:=by rw[A _ (by omega) (by omega) (by omega) (by omega)];unfold ny;rw[if_neg (by omega),if_neg (by omega),if_pos rfl]
 have F9:F (n+5)=n+3:=by rw[A _ (by omega) (by omega) (by omega) (by omega)];unfold ny;rw[if_neg (by omega),if_neg (by omega),if_neg (by omega),if_pos rfl]
 have Q:∀z,z<n->z≠mt d->z≠mt f->z≠mt g->F z=S z:=fun z j a b c=>by rw[t,qU (a:=mt f) b (by omega),qU (a:=mt d) a (by omega),qU c (by omega),P z j]
 refine⟨?_,n1,n2,n3,B,C,D,I,J,K,F7,F8,F9,Q⟩;have ad:=T.even;have hI:dO (n+6) F:=by have:=(((Vi T.dR).jZ (a:=mt g) (b:=n) (by omega) (by omega)).jZ (a:=mt d) (b:=n+2) (by omega) (by omega)).jZ (a:=mt f) (b:=n+4) (by omega) (by omega);rw[hF];exact this
 have mn:∀k,k % 2=0->mt (n+k)=n+k+1/\mt (n+k+1)=n+k:=fun k hk=>by unfold mt;rw[if_pos (by omega),if_neg (by omega)];exact⟨rfl,by omega⟩
 have M:=mn 0 rfl;have R:=mn 2 rfl;have U:=mn 4 rfl;rw[Nat.add_zero]at M;have c1:F (mt n)=n+5:=by rw[M.1,F7]
 have c2:F (mt (n+2))=n+1:=by rw[R.1,F8]
 have c3:F (mt (n+4))=n+3:=by rw[U.1,F9]
 have V:F (mt (n+1))=d:=by rw[M.2,I]
 have W:F (mt (n+3))=f:=by rw[show n+3=n+2+1 from rfl,R.2,J]
 have X:F (mt (n+5))=g:=by rw[show n+5=n+4+1 from rfl,U.2,K]
 obtain⟨L,E⟩:∃L:Nat->Nat,L=fun z=>if z<n then vnum S z else if z=n then vnum S d else if z=n+2 then vnum S f else if z=n+4 then vnum S g else eu S n:=⟨_,rfl⟩
 have p:∀y,y<n->L y=vnum S y:=fun y q=>by rw[E];exact if_pos q
 have Y:L n=vnum S d:=by rw[E];show (if n<n then _ else if n=n then _ else _)=_;rw[if_neg (by omega),if_pos rfl]
 have Z:L (n+2)=vnum S f:=by rw[E];show (if n+2<n then _ else if n+2=n then _ else if n+2=n+2 then _ else _)=_;rw[if_neg (by omega),if_neg (by omega),if_pos rfl]
 have q4:L (n+4)=vnum S g:=by rw[E];show (if n+4<n then _ else if n+4=n then _ else if n+4=n+2 then _ else if n+4=n+4 then _ else _)=_;rw[if_neg (by omega),if_neg (by omega),if_neg (by omega),if_pos rfl]
 have m:∀k,k % 2=1->L (n+k)=eu S n:=fun k hk=>by rw[E];show (if n+k<n then _ else if n+k=n then _ else if n+k=n+2 then _ else if n+k=n+4 then _ else _)=_;rw[if_neg (by omega),if_neg (by omega),if_neg (by omega),if_neg (by omega)]
 have G:∀y,y<n->vnum S y≠eu S n:=fun y q=>by have:=T.dR.gK q;omega
 clear E
 have ab:∀z,z<n->dI (n+6) F z (S z):=fun z j=>by
  by_cases a:z=mt d
  ·rw[a,<-r];exact(dI.to (by omega) C).trans (dI.to (by omega) J)
  ·by_cases b:z=mt f
   ·rw[b,<-s];exact(dI.to (by omega) D).trans (dI.to (by omega) K)
   ·by_cases c:z=mt g
    ·rw[c,O];exact(dI.to (by omega) B).trans (dI.to (by omega) I)
    ·exact dI.to (by omega) (Q z j a b c)
 have N:∀z,z<n+6->∃u,u<n/\dI (n+6) F z u:=fun z j=>by
  rcases(show z=n\/z=n+1\/z=n+2\/z=n+3\/z=n+4\/z=n+5\/z<n by omega)with h|h|h|h|h|h|h
  ·exact⟨d,o,dI.to j (by rw[h,I])⟩
  ·exact⟨d,o,(dI.mate j).trans (dI.to (dQ (by omega) j) (by rw[h,V]))⟩
  ·exact⟨f,i,dI.to j (by rw[h,J])⟩
  ·exact⟨f,i,(dI.mate j).trans (dI.to (dQ (by omega) j) (by rw[h,W]))⟩
  ·exact⟨g,l,dI.to j (by rw[h,K])⟩
  ·exact⟨g,l,(dI.mate j).trans (dI.to (dQ (by omega) j) (by rw[h,X]))⟩
  ·exact⟨z,h,dI.refl _ _ _⟩
 refine⟨hI,by omega,fun x hx=>?_,JC hI (by omega) L (fun z j=>?_) (fun z j=>?_),fun x y hx q=>by obtain⟨u,hu,cu⟩:=N x hx;obtain⟨v,hv,cv⟩:=N y q;exact(cu.trans (JA T.conn (by omega) ab hu hv)).trans (hI.gL (by omega) q cv)⟩
 ·rcases(show x=n\/x=n+1\/x=n+2\/x=n+3\/x=n+4\/x=n+5\/x<n by omega)with h|h|h|h|h|h|h
  ·rw[h,c1,X,B]
  ·rw[h,V,C,c2]
  ·rw[h,c2,V,C]
  ·rw[h,W,D,c3]
  ·rw[h,c3,W,D]
  ·rw[h,X,B,c1]
  ·by_cases a:x=d\/x=f\/x=g
   ·rcases a with a|a|a
    ·rw[a,C,c2,V]
    ·rw[a,D,c3,W]
    ·rw[a,B,c1,X]
   ·have st:∀y,y<n->¬(y=d\/y=f\/y=g)->F (mt y)=S (mt y)/\S (mt y)<n/\¬(S (mt y)=d\/S (mt y)=f\/S (mt y)=g):=fun y q H=>by
     have inj:∀z,z<n->S (mt y)=S (mt z)->y=z:=fun z j h=>w _ _ (T.dR.inj _ _ (T.mlt q) (T.mlt j) h);refine⟨Q _ (T.mlt q) (fun e=>H (.inl (w _ _ e))) (fun e=>H (.inr (.inl (w _ _ e)))) (fun e=>H (.inr (.inr (w _ _ e)))),T.dR.lt _ (T.mlt q),?_⟩;rintro (e|e|e)
     ·exact H (.inr (.inr (inj g l (by rw[e,O]))))
     ·exact H (.inl (inj d o (by rw[e,r])))
     ·exact H (.inr (.inl (inj f i (by rw[e,s]))))
    obtain⟨s1,s2,s3⟩:=st x h a;obtain⟨u1,u2,u3⟩:=st _ s2 s3;obtain⟨w1,-,-⟩:=st _ u2 u3;rw[s1,u1,w1];exact T.tri x h
 ·rcases(show z=n\/z=n+1\/z=n+2\/z=n+3\/z=n+4\/z=n+5\/z<n by omega)with h|h|h|h|h|h|h
  ·rw[h,I,p d o,Y]
  ·rw[h,F7,m 5 rfl,m 1 rfl]
  ·rw[h,J,p f i,Z]
  ·rw[h,F8,m 1 rfl,m 3 rfl]
  ·rw[h,K,p g l,q4]
  ·rw[h,F9,m 3 rfl,m 5 rfl]
  ·by_cases a:z=mt d
   ·rw[a,C,Z,p _ y0,va]
   ·by_cases b:z=mt f
    ·rw[b,D,q4,p _ y1,vb]
    ·by_cases c:z=mt g
     ·rw[c,B,Y,p _ y2,vc]
     ·rw[Q z h a b c,p _ (T.dR.lt z h),p z h,T.vS h]
 ·rcases(show z=n\/z=n+1\/z=n+2\/z=n+3\/z=n+4\/z=n+5\/z<n by omega)with h|h|h|h|h|h|h
  ·rw[h,M.1,Y,m 1 rfl];exact G d o
  ·rw[h,M.2,Y,m 1 rfl];exact(G d o).symm
  ·rw[h,R.1,Z,m 3 rfl];exact G f i
  ·rw[h,show n+3=n+2+1 from rfl,R.2,Z,show n+2+1=n+3 from rfl,m 3 rfl];exact(G f i).symm
  ·rw[h,U.1,q4,m 5 rfl];exact G g l
  ·rw[h,show n+5=n+4+1 from rfl,U.2,q4,show n+4+1=n+5 from rfl,m 5 rfl];exact(G g l).symm
  ·rw[p z h,p _ (T.mlt h)];exact T.loop z h
end
end
section
open Go.RowKit
theorem dZ.CF(w:World)(z:Nat):dZ w.heap.size (w.alloc (.cells #[.int .u8 (z:Int)] 5)) (.slice (some ⟨w.heap.size,0,none⟩) 1 1) [z] :=
 World.ownsRow_lit (base:=w.heap.size) (e:=5) (size:=1) w #[.int .u8 z] 1 (Nat.le_refl _) (by unfold maxLen;omega) rfl
theorem Vj(C:Nat)(J:Value)(l:List Bool)(k:Nat)(w:World)(K:eX w C J l)(V:l.length<=1000000)(W:k<=8) :
  Calls Tryz.prog 132 #[.pointer (some ⟨C,0,none⟩),.int .i64 k] w fun e w'=>∃v,e=.returned v/\dZ w.heap.size w' v (uh l k)/\Keeps (fun _=>False) w w':=by
 have m:=Vh C J l k w K V W;have o:=LG k l;clear K;go_enter Tryz.func132,Tryz.ntmps132;go_wp2_with fail;refine m.mono ?_;clear m;rintro e w1 ⟨L,vo,rfl,M,D,E,f⟩;have A:=(Keeps.refl (fun _=>False) w1).alloc (.cells #[.int .u8 ((k+1:Nat):Int)] 5);have b:=dZ.CF w1 (k+1);have c:=M.keeps A (fun h=>h) (fun _ _ h=>h);have N:((k+1:Nat):Int)=(k:Int)+1:=by omega
 rw[N]at A b c;have p:=Bh L vo (kZ k l) _ c;have e2:IntKind.u8.wrap ((k:Int)+1)=(k:Int)+1:=by rw[IntKind.wrap_u8];omega
 have r:=Gg (.slice (some ⟨w1.heap.size,0,none⟩) 1 1) [k+1] (kZ k l).length _ b.sl (by simp) (by omega);have O:=dh (dn (f.trans A (fun _ _ h=>h)) (dn c b));have X:Hid ((kZ k l).length<=100000000):=dh (by omega);have Y:=dh (show w.heap.size<=w1.heap.size from f.size);have F:(kZ k l).length<=100000000:=by omega
 clear M D E f A b c N o;generalize P:(kZ k l).length=n at *;have G:=dh P;clear P;go_wp2_with fail;refine p.mono ?_;clear p;rintro e B ⟨rfl,rfl⟩;go_wp2_with fail;refine r.mono ?_;clear r;rintro e B ⟨Q,rfl,a,g⟩;have s:=O.out.2.1.keeps g (fun h=>h) (fun _ _ h=>h);have t:=IK L vo (kZ k l) B s (by rw[G.out];exact X.out);have R:Hid (dZ w.heap.size B Q ([k+1] ++ mM n)/\Keeps (fun _=>False) w B):=dh ⟨a.mono (fun q Z=>by have:=(a.lt q Z).1;have:=Y.out;simp at *;omega),O.out.1.trans g (fun _ _ h=>h)⟩;clear a g s;go_wp2_with fail;refine t.mono ?_;clear t;rintro e w3 ⟨v3,rfl,u,i⟩;have a:=R.out.1.keeps i (fun _ _ h=>h);have j:=R.out.2.trans i (fun _ _ h=>h);have H:=j.size;have aa:(fH (kZ k l)).length<=100000000:=by rw[yJ,G.out];omega
 have ab:([k+1] ++ mM n).length<=100:=by have:=xw (x:=n) (by omega);simp;omega
 have d:=u.sl;have HK:=dh j;clear i j u;go_wp2_with (at_builtin;refine Hu rfl _ _ rfl w.heap.size Q v3 ([k+1] ++ mM n) (fH (kZ k l)) rfl rfl a d (by omega) H ?_;intro v4 U y z I)
 have HF:Hid (dZ w.heap.size U v4 (uh l k)/\Keeps (fun _=>False) w U):=dh ⟨by unfold uh;rw[G.out];exact y,HK.out.trans z (fun x hx e=>by have:=(a.lt x e).1;omega)⟩;clear y z I a d;go_wp2;go_ret;exact⟨_,rfl,HF.out⟩
theorem Vk(l:List Bool){k:Nat}(a:l.length<=1000000):(uh l k).length<=10000000:=by have b:=LG k l;have c:=xw (x:=(kZ k l).length) (by omega);unfold uh;rw[List.length_cons,List.length_append,yJ];omega
theorem Vl(t:Nat)(K:Value)(l:List Bool)(a:Bool)(w:World)(Q:eX w t K l)(R:l.length<=1000000) :
  Calls Tryz.prog 92 #[.pointer (some ⟨t,0,none⟩),.bool a] w fun e w'=>∃v,e=.returned v/\dZ w.heap.size w' v (mR a l)/\Keeps (fun _=>False) w w':=by
 have U:∀(x:Bool) (w:World),(Op.unary .not (.bool x)).run Tryz.prog w=.ok (.bool (!x)) w:=fun _ _=>rfl;have V:Hid (∀W,Keeps (fun _=>False) w W->eX W t K l):=dh (fun W m=>Q.keeps m (fun h=>h) (fun _ _ h=>h));have L:=(Keeps.refl (fun _=>False) w).alloc (.cells #[.int .u8 ((0:Nat):Int)] 5);have f:=dZ.CF w 0;have u:=IK t K l _ (V.out _ L) (by omega);have M:=dh (dn L f);clear Q L f;go_enter Tryz.func92,Tryz.ntmps92;go_wp2_with fail;refine u.mono ?_;clear u;rintro e w1 ⟨v1,rfl,y,o⟩;have p:=(M.out.2.keeps o (fun _ _ h=>h))
 have r:=M.out.1.trans o (fun _ _ h=>h);have N:=r.size;have aa:(fH l).length<=1000000:=by rw[yJ];omega
 have g:=y.sl;have HK:=dh r;clear o r y M;go_wp2_with (at_builtin;refine Hu rfl _ _ rfl w.heap.size (.slice (some ⟨w.heap.size,0,none⟩) 1 1) v1 [0] (fH l) rfl rfl p g (by simp;omega) N ?_;intro v2 X z A O)
 have Y:dZ w.heap.size X v2 ((List.range 0).foldl (qI a l) (0 :: fH l))/\Keeps (fun _=>False) w X:=⟨z,HK.out.trans A (fun x hx e=>by have:=(p.lt x e).1;omega)⟩
 have Z:=dh Y;clear z A O p g Y;go_wp2_with fail;go_loopg [5,12] 9 (fun mu bv iv wr=>∃j:Nat,j<=9/\mu=9 - j/\iv=.int .i64 j/\dZ w.heap.size wr bv ((List.range j).foldl (qI a l) (0 :: fH l))/\Keeps (fun _=>False) w wr)
 case atStart=>exact⟨0,by omega,rfl,rfl,Z.out⟩
 case round =>
  clear Z;obtain⟨j,hj,B,rfl,C,m⟩:=hrel;have P:=dh B;clear B;obtain⟨ba,bc,rfl,ab,ad⟩:=C.form;by_cases ae:j<9
  ·have D:=Vj t K l j wr (V.out wr m) R (by omega);have E:(List.range (j+1)).foldl (qI a l) (0 :: fH l)=qI a l ((List.range j).foldl (qI a l) (0 :: fH l)) j:=by rw[List.range_succ,List.foldl_append];rfl
   generalize (List.range j).foldl (qI a l) (0 :: fH l)=best at *;have af:=Vk l (k:=j) R;have b:=dh (dn C (dn m E));clear C m E;go_wp2_with fail;refine D.mono ?_;clear D;rintro e w5 ⟨v5,rfl,c,s⟩;obtain⟨ca,cc,rfl,ag,ah⟩:=c.form;have ai:=b.out.2.1.size;have d:Hid (dZ w.heap.size w5 (.slice ca (uh l j).length cc) (uh l j)/\Keeps (fun _=>False) w w5):=dh ⟨c.mono (fun q hq=>by have:=(c.lt q hq).1;omega),b.out.2.1.trans s (fun _ _ h=>h)⟩;have F:=b.out.1.keeps s (fun _ _ h=>h);have G:=dh F;clear c s F;have H:qI a l best j=if a=false/\(uh l j).length<best.length then uh l j else best:=rfl
   rw[H]at b;clear H;generalize I:(uh l j).length=nc at *;have aj:=dh I;generalize J:best.length=nb at *;have ak:=dh J;clear I J;cases a
   ·by_cases i:nc<nb
    ·rw[if_pos ⟨rfl,i⟩]at b;go_wp2_with fail;go_roundg (9 - (j+1))
     case measure=>rw[P.out];omega
     case rel=>exact⟨j+1,by omega,rfl,by go_num,by rw[b.out.2.2];exact d.out.1,d.out.2⟩
    ·rw[if_neg (fun h=>i h.2)]at b;go_wp2_with fail;go_roundg (9 - (j+1))
     case measure=>rw[P.out];omega
     case rel=>exact⟨j+1,by omega,rfl,by go_num,by rw[b.out.2.2];exact G.out,d.out.2⟩
   ·rw[if_neg (fun h=>by cases h.1)]at b;go_wp2_with fail;go_roundg (9 - (j+1))
    case measure=>rw[P.out];omega
    case rel=>exact⟨j+1,by omega,rfl,by go_num,by rw[b.out.2.2];exact G.out,d.out.2⟩
  ·obtain rfl:j=9:=by omega
   have HF:=dh (dn C m);clear C m;go_wp2;go_ret;exact⟨_,rfl,HF.out⟩
end
