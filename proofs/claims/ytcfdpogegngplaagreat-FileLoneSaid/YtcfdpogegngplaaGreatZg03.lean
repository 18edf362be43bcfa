import Derived.Test.YtcfdpogegngplaaGreatZg04
set_option maxRecDepth 100000
set_option maxHeartbeats 4000000
namespace Go.Proofs.YtcfdpogegngplaaGreat
structure iG (n:Nat)(S:Nat→Nat):Prop where
 dH:aM n S
 even:n % 2=0
 tri:∀ x,x<n→S (mt (S (mt (S (mt x)))))=x
 loop:∀ x,x<n→aD S x≠aD S (mt x)
def dQ(a b c z:Nat):Nat:=if z=a then b else if z=b then c else if z=c then a else z
theorem Zk{a b c:Nat}(h1:a≠b)(h2:b≠c)(h3:a≠c)(z:Nat):dQ a c b (dQ a b c z)=z:=by
 unfold dQ
 by_cases e1:z=a
 ·subst e1;rw[if_pos rfl,if_neg h1.symm,if_neg h2,if_pos rfl]
 ·rw[if_neg e1]
  by_cases e2:z=b
  ·subst e2;rw[if_pos rfl,if_neg h3.symm,if_pos rfl]
  ·rw[if_neg e2]
   by_cases e3:z=c
   ·subst e3;rw[if_pos rfl,if_pos rfl]
   ·rw[if_neg e3,if_neg e1,if_neg e3,if_neg e2]
theorem Ul{n a b c z:Nat}(ha:a<n)(hb:b<n)(hc:c<n)(hz:z<n):dQ a b c z<n:=by
 unfold dQ;split
 ·exact hb
 ·split
  ·exact hc
  ·split
   ·exact ha
   ·exact hz
theorem aM.Zl{n:Nat}{S:Nat→Nat}(h:aM n S){a b c:Nat}(ha:a<n)(hb:b<n)(hc:c<n)(h1:a≠b)(h2:b≠c)(h3:a≠c):aM n (fun z=>S (dQ a b c z)) :=
 ⟨fun d hd=>h.lt _ (Ul ha hb hc hd),fun d e hd he hde=>by
  have:=h.inj _ _ (Ul ha hb hc hd) (Ul ha hb hc he) hde
  rw[← Zk h1 h2 h3 d,this,Zk h1 h2 h3]⟩
theorem Um{n:Nat}{S:Nat→Nat}(h:aM n S)(he:n % 2=0)(L:Nat→Nat)(h1:∀ z,z<n→L (S z)=L z)(h2:∀ z,z<n→L z≠L (mt z)):∀ x,x<n→aD S x≠aD S (mt x):=by
 intro x hx hv
 obtain⟨k,hk⟩:=(h.dX hx (aU he hx)).1 hv
 have key:∀ k,L (bg S k x)=L x:=by
  intro k
  induction k with
  | zero=>rfl
  | succ k ih=>show L (S (bg S k x))=_;rw[h1 _ (h.bV hx k),ih]
 exact h2 x hx (by rw[← hk,key])
section
variable {n:Nat} {S:Nat→Nat} (T:iG n S)
include T
theorem iG.mlt{x:Nat}(h:x<n):mt x<n:=aU T.even h
theorem iG.vS{x:Nat}(h:x<n):aD S (S x)=aD S x:=((T.dH.dX h (T.dH.lt x h)).2 (aH.step S x)).symm
theorem iG.flip{d bd be:Nat}(hd:d<n)(hbd:bd<n)(hbe:be<n)(h1:S bd=d)(h2:S be=mt d)(hne:aD S (S (mt (S (mt d))))≠aD S (S (mt (S d)))) :
  ∃ F:Nat→Nat,F=(fun z=>S (dQ bd d (mt (S (mt d))) (dQ be (mt d) (mt (S d)) z)))∧iG n F∧bd≠d∧d≠mt (S (mt d))∧bd≠mt (S (mt d))∧be≠mt d∧mt d≠mt (S d)∧be≠mt (S d) ∧
   (∀ z,(z=bd∨z=d∨z=mt (S (mt d)))→¬ (z=be∨z=mt d∨z=mt (S d))) ∧
   F bd=S d∧F d=S (mt (S (mt d)))∧F (mt (S (mt d)))=d∧F be=S (mt d)∧F (mt d)=S (mt (S d))∧F (mt (S d))=mt d ∧
   ∀ z,¬ (z=bd∨z=d∨z=mt (S (mt d)))→¬ (z=be∨z=mt d∨z=mt (S d))→F z=S z:=by
 obtain⟨e,he⟩:∃ e,e=mt d:=⟨_,rfl⟩
 have hed:mt e=d:=by rw[he,bD]
 have hel:e<n:=by rw[he];exact T.mlt hd
 obtain⟨f,hf⟩:∃ f,f=S e:=⟨_,rfl⟩
 obtain⟨g,hg⟩:∃ g,g=S d:=⟨_,rfl⟩
 have hfl:f<n:=by rw[hf];exact T.dH.lt e hel
 have hgl:g<n:=by rw[hg];exact T.dH.lt d hd
 obtain⟨a,ha⟩:∃ a,a=S (mt f):=⟨_,rfl⟩
 obtain⟨b,hb⟩:∃ b,b=S (mt g):=⟨_,rfl⟩
 have hal:a<n:=by rw[ha];exact T.dH.lt _ (T.mlt hfl)
 have hbl:b<n:=by rw[hb];exact T.dH.lt _ (T.mlt hgl)
 rw[← he,← hf,← hg,← ha,← hb] at hne
 rw[← he] at h2
 rw[← he,← hf,← hg,← ha,← hb]
 have t1:S (mt a)=d:=by have:=T.tri d hd;rw[← he,← hf,← ha] at this;exact this
 have t2:S (mt b)=e:=by have:=T.tri e hel;rw[hed,← hg,← hb] at this;exact this
 have ma:mt a=bd:=T.dH.inj _ _ (T.mlt hal) hbd (by rw[t1,h1])
 have mb:mt b=be:=T.dH.inj _ _ (T.mlt hbl) hbe (by rw[t2,h2])
 have Gn:aD S bd=aD S d:=by rw[← T.vS hbd,h1]
 have Gp:aD S be=aD S e:=by rw[← T.vS hbe,h2]
 have vf:aD S f=aD S e:=by rw[hf,T.vS hel]
 have vg:aD S g=aD S d:=by rw[hg,T.vS hd]
 have vx:aD S (mt f)=aD S a:=by rw[ha,T.vS (T.mlt hfl)]
 have vy:aD S (mt g)=aD S b:=by rw[hb,T.vS (T.mlt hgl)]
 have uw:aD S d≠aD S e:=by rw[he];exact T.loop d hd
 have wp:aD S e≠aD S a:=by rw[← vf,← vx];exact T.loop f hfl
 have uq:aD S d≠aD S b:=by rw[← vg,← vy];exact T.loop g hgl
 have pu:aD S a≠aD S d:=by have:=T.loop a hal;rw[ma,Gn] at this;exact this
 have qw:aD S b≠aD S e:=by have:=T.loop b hbl;rw[mb,Gp] at this;exact this
 have ne:∀ {x y:Nat},aD S x≠aD S y→x≠y:=fun h e=>h (by rw[e])
 have k1:bd≠d:=fun hc=>by
  rw[hc] at h1
  have:g=d:=by rw[hg,h1]
  rw[this] at vy
  rw[show mt d=e from he.symm] at vy
  exact qw vy.symm
 have k2:be≠e:=fun hc=>by
  rw[hc] at h2
  have:f=e:=by rw[hf,h2]
  rw[this,hed] at vx
  exact pu vx.symm
 have k3:d≠mt f:=ne (by rw[vx];exact pu.symm)
 have k4:bd≠mt f:=ne (by rw[vx,Gn];exact pu.symm)
 have k5:e≠mt g:=ne (by rw[vy];exact qw.symm)
 have k6:be≠mt g:=ne (by rw[vy,Gp];exact qw.symm)
 have kx:∀ z,(z=bd∨z=d∨z=mt f)→¬ (z=be∨z=e∨z=mt g):=by
  rintro z (rfl|rfl|rfl) (h|h|h)
  ·exact ne (by rw[Gn,Gp];exact uw) h
  ·exact ne (by rw[Gn];exact uw) h
  ·exact ne (by rw[Gn,vy];exact uq) h
  ·exact ne (by rw[Gp];exact uw) h
  ·exact ne uw h
  ·exact ne (by rw[vy];exact uq) h
  ·exact ne (by rw[vx,Gp];exact wp.symm) h
  ·exact ne (by rw[vx];exact wp.symm) h
  ·exact ne (by rw[vx,vy];exact hne) h
 obtain⟨F,hF⟩:∃ F:Nat→Nat,F=fun z=>S (dQ bd d (mt f) (dQ be e (mt g) z)):=⟨_,rfl⟩
 have hin:∀ z,¬ (z=be∨z=e∨z=mt g)→dQ be e (mt g) z=z:=fun z hz=>by
  unfold dQ
  rw[if_neg (fun h=>hz (.inl h)),if_neg (fun h=>hz (.inr (.inl h))),if_neg (fun h=>hz (.inr (.inr h)))]
 have hin2:∀ z,¬ (z=bd∨z=d∨z=mt f)→dQ bd d (mt f) z=z:=fun z hz=>by
  unfold dQ
  rw[if_neg (fun h=>hz (.inl h)),if_neg (fun h=>hz (.inr (.inl h))),if_neg (fun h=>hz (.inr (.inr h)))]
 have Un:∀ z,(z=be∨z=e∨z=mt g)→¬ (z=bd∨z=d∨z=mt f):=fun z h h'=>kx z h' h
 have F1:F bd=g:=by rw[hF];show S (dQ _ _ _ (dQ _ _ _ bd))=_;rw[hin bd (kx bd (.inl rfl))];unfold dQ;rw[if_pos rfl,hg]
 have F2:F d=a:=by rw[hF];show S (dQ _ _ _ (dQ _ _ _ d))=_;rw[hin d (kx d (.inr (.inl rfl)))];unfold dQ;rw[if_neg k1.symm,if_pos rfl,ha]
 have F3:F (mt f)=d:=by rw[hF];show S (dQ _ _ _ (dQ _ _ _ (mt f)))=_;rw[hin _ (kx _ (.inr (.inr rfl)))];unfold dQ;rw[if_neg k4.symm,if_neg k3.symm,if_pos rfl,h1]
 have F4:F be=f:=by
  rw[hF];show S (dQ _ _ _ (dQ _ _ _ be))=_
  rw[show dQ be e (mt g) be=e by unfold dQ;rw[if_pos rfl],hin2 e (Un e (.inr (.inl rfl))),hf]
 have F5:F e=b:=by
  rw[hF];show S (dQ _ _ _ (dQ _ _ _ e))=_
  rw[show dQ be e (mt g) e=mt g by unfold dQ;rw[if_neg k2.symm,if_pos rfl],hin2 _ (Un _ (.inr (.inr rfl))),hb]
 have F6:F (mt g)=e:=by
  rw[hF];show S (dQ _ _ _ (dQ _ _ _ (mt g)))=_
  rw[show dQ be e (mt g) (mt g)=be by unfold dQ;rw[if_neg k6.symm,if_neg k5.symm,if_pos rfl],hin2 _ (Un _ (.inl rfl)),h2]
 have F0:∀ z,¬ (z=bd∨z=d∨z=mt f)→¬ (z=be∨z=e∨z=mt g)→F z=S z:=fun z z1 z2=>by
  rw[hF];show S (dQ _ _ _ (dQ _ _ _ z))=_;rw[hin z z2,hin2 z z1]
 have hI:aM n F:=by
  have:=(T.dH.Zl hbd hd (T.mlt hfl) k1 k3 k4).Zl hbe hel (T.mlt hgl) k2 k5 k6
  rw[hF];exact this
 refine⟨F,hF,?_,k1,k3,k4,k2,k5,k6,kx,F1,F2,F3,F4,F5,F6,F0⟩
 refine⟨hI,T.even,fun x hx=>?_,Um hI T.even (fun z=>if z=d then aD S a else if z=e then aD S b else aD S z) (fun z hz=>?_) (fun z hz=>?_)⟩
 ·
  have six:∀ x,x<n→(x=d∨x=f∨x=a)∨(x=e∨x=g∨x=b)∨(¬ (mt x=bd∨mt x=d∨mt x=mt f)∧¬ (mt x=be∨mt x=e∨mt x=mt g)):=fun x _=>by
   have mm:∀ y,mt x=mt y→x=y:=fun y h=>by rw[← bD x,h,bD]
   by_cases h1:mt x=bd∨mt x=d∨mt x=mt f
   ·rcases h1 with h|h|h
    ·rw[← ma] at h;exact .inl (.inr (.inr (mm _ h)))
    ·rw[← hed] at h;exact .inr (.inl (.inl (mm _ h)))
    ·exact .inl (.inr (.inl (mm _ h)))
   ·by_cases h2:mt x=be∨mt x=e∨mt x=mt g
    ·rcases h2 with h|h|h
     ·rw[← mb] at h;exact .inr (.inl (.inr (.inr (mm _ h))))
     ·rw[he] at h;exact .inl (.inl (mm _ h))
     ·exact .inr (.inl (.inr (.inl (mm _ h))))
    ·exact .inr (.inr ⟨h1,h2⟩)
  have fd:F (mt d)=b:=by rw[← he];exact F5
  have fb:F (mt b)=f:=by rw[mb];exact F4
  have fe:F (mt e)=a:=by rw[hed];exact F2
  have fa:F (mt a)=g:=by rw[ma];exact F1
  rcases six x hx with (h|h|h) | (h|h|h)|⟨h1',h2'⟩
  ·rw[h,fd,fb,F3]
  ·rw[h,F3,fd,fb]
  ·rw[h,fa,F6,fe]
  ·rw[h,fe,fa,F6]
  ·rw[h,F6,fe,fa]
  ·rw[h,fb,F3,fd]
  ·
   have st:∀ y,y<n→¬ (mt y=bd∨mt y=d∨mt y=mt f)→¬ (mt y=be∨mt y=e∨mt y=mt g)→F (mt y)=S (mt y)∧S (mt y)<n∧¬ (mt (S (mt y))=bd∨mt (S (mt y))=d∨mt (S (mt y))=mt f)∧¬ (mt (S (mt y))=be∨mt (S (mt y))=e∨mt (S (mt y))=mt g):=by
    intro y hy y1 y2
    have inj:∀ z,z<n→S (mt y)=S (mt z)→y=z:=fun z hz h=>by
     have:=T.dH.inj _ _ (T.mlt hy) (T.mlt hz) h
     rw[← bD y,this,bD]
    have mm:∀ u v,mt u=v→u=mt v:=fun u v h=>by rw[← h,bD]
    have sd:S (mt d)=f:=by rw[← he,hf]
    have se:S (mt e)=g:=by rw[hed,hg]
    refine⟨F0 _ y1 y2,T.dH.lt _ (T.mlt hy),?_,?_⟩
    ·rintro (h|h|h)
     ·
      have h:=mm _ _ h
      rw[← ma,bD,ha] at h
      have:=inj f hfl h
      exact y1 (.inr (.inr (by rw[this])))
     ·have h:=mm _ _ h
      rw[← he,← t2] at h
      have:=inj b hbl h
      exact y2 (.inl (by rw[this,mb]))
     ·have h:=mm _ _ h
      rw[bD,← sd] at h
      have:=inj d hd h
      exact y2 (.inr (.inl (by rw[this,← he])))
    ·rintro (h|h|h)
     ·have h:=mm _ _ h
      rw[← mb,bD,hb] at h
      have:=inj g hgl h
      exact y2 (.inr (.inr (by rw[this])))
     ·have h:=mm _ _ h
      rw[hed,← t1] at h
      have:=inj a hal h
      exact y1 (.inl (by rw[this,ma]))
     ·have h:=mm _ _ h
      rw[bD,← se] at h
      have:=inj e hel h
      exact y1 (.inr (.inl (by rw[this,hed])))
   obtain⟨s1,s2,s3,s4⟩:=st x hx h1' h2'
   obtain⟨u1,u2,u3,u4⟩:=st _ s2 s3 s4
   obtain⟨w1,-,-,-⟩:=st _ u2 u3 u4
   rw[s1,u1,w1]
   exact T.tri x hx
 ·
  have lab:∀ y,y≠d→y≠e→(if y=d then aD S a else if y=e then aD S b else aD S y)=aD S y:=fun y y1 y2=>by rw[if_neg y1,if_neg y2]
  show (if F z=d then aD S a else if F z=e then aD S b else aD S (F z))=if z=d then aD S a else if z=e then aD S b else aD S z
  have le:(if e=d then aD S a else if e=e then aD S b else aD S e)=aD S b:=by rw[if_neg (ne uw).symm,if_pos rfl]
  have ld:(if d=d then aD S a else if d=e then aD S b else aD S d)=aD S a:=if_pos rfl
  by_cases z1:z=bd∨z=d∨z=mt f
  ·rcases z1 with h|h|h <;> rw[h]
   ·rw[F1,lab g (fun h=>k1 (T.dH.inj _ _ hbd hd (by rw[h1,← hg,h]))) (ne (by rw[vg];exact uw)),lab bd k1 (ne (by rw[Gn];exact uw)),vg,Gn]
   ·rw[F2,lab a (ne pu) (ne wp.symm),ld]
   ·rw[F3,ld,lab _ k3.symm (ne (by rw[vx];exact wp.symm)),vx]
  ·by_cases z2:z=be∨z=e∨z=mt g
   ·rcases z2 with h|h|h <;> rw[h]
    ·rw[F4,lab f (ne (by rw[vf];exact uw.symm)) (fun h=>k2 (T.dH.inj _ _ hbe hel (by rw[h2,← hf,h]))),lab be (ne (by rw[Gp];exact uw.symm)) k2,vf,Gp]
    ·rw[F5,lab b (ne uq.symm) (ne qw),le]
    ·rw[F6,le,lab _ (ne (by rw[vy];exact uq.symm)) k5.symm,vy]
   ·rw[F0 z z1 z2,lab (S z) (fun h=>z1 (.inl (T.dH.inj _ _ hz hbd (by rw[h,h1])))) (fun h=>z2 (.inl (T.dH.inj _ _ hz hbe (by rw[h,h2])))),lab z (fun h=>z1 (.inr (.inl h))) (fun h=>z2 (.inr (.inl h))),T.vS hz]
 ·show (if z=d then aD S a else if z=e then aD S b else aD S z)≠if mt z=d then aD S a else if mt z=e then aD S b else aD S (mt z)
  by_cases z1:z=d
  ·rw[if_pos z1,z1,← he,if_neg (ne uw).symm,if_pos rfl];exact hne
  ·by_cases z2:z=e
   ·rw[if_neg z1,if_pos z2,z2,hed,if_pos rfl];exact hne.symm
   ·rw[if_neg z1,if_neg z2,if_neg (fun h=>z2 (by rw[he,← h,bD])),if_neg (fun h=>z1 (by rw[← hed,← h,bD]))]
    exact T.loop z hz
end
def iH(a b z:Nat):Nat:=if z=a then b else if z=b then a else z
theorem Lm(a b:Nat):iH a b a=b:=by unfold iH;rw[if_pos rfl]
theorem Lp(a b:Nat):iH a b b=a:=by
 unfold iH
 by_cases h:b=a
 ·rw[if_pos h,h]
 ·rw[if_neg h,if_pos rfl]
theorem pV{a b z:Nat}(h1:z≠a)(h2:z≠b):iH a b z=z:=by unfold iH;rw[if_neg h1,if_neg h2]
theorem Uo{n a b z:Nat}(ha:a<n)(hb:b<n)(hz:z<n):iH a b z<n:=by
 unfold iH;split
 ·exact hb
 ·split
  ·exact ha
  ·exact hz
theorem Zm(a b z:Nat):iH a b (iH a b z)=z:=by
 by_cases h1:z=a
 ·subst h1;rw[Lm,Lp]
 ·by_cases h2:z=b
  ·subst h2;rw[Lp,Lm]
  ·rw[pV h1 h2,pV h1 h2]
theorem aM.iH{n:Nat}{S:Nat→Nat}(h:aM n S){a b:Nat}(ha:a<n)(hb:b<n):aM n (fun z=>S (iH a b z)) :=
 ⟨fun d hd=>h.lt _ (Uo ha hb hd),fun d e hd he hde=>by
  have:=h.inj _ _ (Uo ha hb hd) (Uo ha hb he) hde
  rw[← Zm a b d,this,Zm]⟩
def kR(n:Nat)(S:Nat→Nat)(z:Nat):Nat :=
 if z<n then S z else if z=n+1 then n+5 else if z=n+3 then n+1 else if z=n+5 then n+3 else z
theorem qll{n:Nat}{S:Nat→Nat}(h:aM n S):aM (n+6) (kR n S):=by
 refine⟨fun d hd=>?_,fun d e hd he hde=>?_⟩
 ·unfold kR
  split
  ·have:=h.lt d (by assumption);omega
  ·repeat' split
   all_goals omega
 ·unfold kR at hde
  by_cases h1:d<n <;> by_cases h2:e<n
  ·rw[if_pos h1,if_pos h2] at hde
   exact h.inj d e h1 h2 hde
  ·rw[if_pos h1,if_neg h2] at hde
   have:=h.lt d h1
   repeat' split at hde
   all_goals omega
  ·rw[if_neg h1,if_pos h2] at hde
   have:=h.lt e h2
   repeat' split at hde
   all_goals omega
  ·rw[if_neg h1,if_neg h2] at hde
   repeat' split at hde
   all_goals omega
def fQ(n:Nat)(S:Nat→Nat)(d z:Nat):Nat :=
 kR n S (iH (mt (S (mt (S (mt d))))) n (iH (mt d) (n+2) (iH (mt (S (mt d))) (n+4) z)))
section
variable {n:Nat} {S:Nat→Nat} (T:iG n S)
include T
theorem iG.put{d:Nat}(hd:d<n):iG (n+6) (fQ n S d)∧S (mt d)≠d∧S (mt (S (mt d)))≠d∧S (mt (S (mt d)))≠S (mt d) ∧
  fQ n S d (mt (S (mt (S (mt d)))))=n∧fQ n S d (mt d)=n+2∧fQ n S d (mt (S (mt d)))=n+4∧fQ n S d n=d∧fQ n S d (n+2)=S (mt d)∧fQ n S d (n+4)=S (mt (S (mt d))) ∧
  fQ n S d (n+1)=n+5∧fQ n S d (n+3)=n+1∧fQ n S d (n+5)=n+3∧(∀ z,z<n→z≠mt d→z≠mt (S (mt d))→z≠mt (S (mt (S (mt d))))→fQ n S d z=S z):=by
 obtain⟨x1,h1⟩:∃ x1,x1=S (mt d):=⟨_,rfl⟩
 obtain⟨x2,h2⟩:∃ x2,x2=S (mt x1):=⟨_,rfl⟩
 have hx1:x1<n:=by rw[h1];exact T.dH.lt _ (T.mlt hd)
 have hx2:x2<n:=by rw[h2];exact T.dH.lt _ (T.mlt hx1)
 have h0:S (mt x2)=d:=by have:=T.tri d hd;rw[← h1,← h2] at this;exact this
 rw[← h1,← h2]
 have y0:=T.mlt hd
 have y1:=T.mlt hx1
 have y2:=T.mlt hx2
 have va:aD S x1=aD S (mt d):=by rw[h1,T.vS y0]
 have vb:aD S x2=aD S (mt x1):=by rw[h2,T.vS y1]
 have vc:aD S d=aD S (mt x2):=by have:=T.vS y2;rw[h0] at this;exact this
 have l0:=T.loop d hd
 have l1:=T.loop x1 hx1
 have l2:=T.loop x2 hx2
 have n1:x1≠d:=fun e=>l0 (by rw[← va,e])
 have n2:x2≠d:=fun e=>l2 (by rw[← vc,e])
 have n3:x2≠x1:=fun e=>l1 (by rw[← vb,e])
 have mm:∀ u v,mt u=mt v→u=v:=fun u v h=>by rw[← bD u,h,bD]
 have m1:mt x1≠mt d:=fun e=>n1 (mm _ _ e)
 have m2:mt x2≠mt d:=fun e=>n2 (mm _ _ e)
 have m3:mt x2≠mt x1:=fun e=>n3 (mm _ _ e)
 obtain⟨F,hF⟩:∃ F:Nat→Nat,F=fun z=>kR n S (iH (mt x2) n (iH (mt d) (n+2) (iH (mt x1) (n+4) z))):=⟨_,rfl⟩
 have hFp:fQ n S d=F:=by rw[hF];funext z;unfold fQ;rw[← h1,← h2]
 rw[hFp]
 have ev:∀ z,F z=kR n S (iH (mt x2) n (iH (mt d) (n+2) (iH (mt x1) (n+4) z))):=fun z=>by rw[hF]
 have eo:∀ z,z<n→kR n S z=S z:=fun z hz=>by unfold kR;rw[if_pos hz]
 have F1:F (mt x2)=n:=by
  rw[ev,pV (a:=mt x1) m3 (by omega),pV (a:=mt d) m2 (by omega),Lm]
  unfold kR;rw[if_neg (by omega),if_neg (by omega),if_neg (by omega),if_neg (by omega)]
 have F2:F (mt d)=n+2:=by
  rw[ev,pV (a:=mt x1) m1.symm (by omega),Lm,pV (by omega) (by omega)]
  unfold kR;rw[if_neg (by omega),if_neg (by omega),if_neg (by omega),if_neg (by omega)]
 have F3:F (mt x1)=n+4:=by
  rw[ev,Lm,pV (a:=mt d) (by omega) (by omega),pV (a:=mt x2) (by omega) (by omega)]
  unfold kR;rw[if_neg (by omega),if_neg (by omega),if_neg (by omega),if_neg (by omega)]
 have F4:F n=d:=by
  rw[ev,pV (a:=mt x1) (by omega) (by omega),pV (a:=mt d) (by omega) (by omega),Lp,eo _ y2,h0]
 have F5:F (n+2)=x1:=by
  rw[ev,pV (a:=mt x1) (by omega) (by omega),Lp,pV m2.symm (by omega),eo _ y0,h1]
 have F6:F (n+4)=x2:=by
  rw[ev,Lp,pV m1 (by omega),pV m3.symm (by omega),eo _ y1,h2]
 have odd:∀ z,n≤z→z≠n→z≠n+2→z≠n+4→F z=kR n S z:=fun z a b c e=>by
  rw[ev,pV (a:=mt x1) (by omega) (by omega),pV (a:=mt d) (by omega) (by omega),pV (by omega) (by omega)]
 have F7:F (n+1)=n+5:=by rw[odd _ (by omega) (by omega) (by omega) (by omega)];unfold kR;rw[if_neg (by omega),if_pos rfl]
 have F8:F (n+3)=n+1:=by rw[odd _ (by omega) (by omega) (by omega) (by omega)];unfold kR;rw[if_neg (by omega),if_neg (by omega),if_pos rfl]
 have F9:F (n+5)=n+3:=by rw[odd _ (by omega) (by omega) (by omega) (by omega)];unfold kR;rw[if_neg (by omega),if_neg (by omega),if_neg (by omega),if_pos rfl]
 have F0:∀ z,z<n→z≠mt d→z≠mt x1→z≠mt x2→F z=S z:=fun z hz a b c=>by
  rw[ev,pV (a:=mt x1) b (by omega),pV (a:=mt d) a (by omega),pV c (by omega),eo z hz]
 refine⟨?_,n1,n2,n3,F1,F2,F3,F4,F5,F6,F7,F8,F9,F0⟩
 have hev:=T.even
 have hI:aM (n+6) F:=by
  have:=(((qll T.dH).iH (a:=mt x2) (b:=n) (by omega) (by omega)).iH (a:=mt d) (b:=n+2) (by omega) (by omega)).iH (a:=mt x1) (b:=n+4) (by omega) (by omega)
  rw[hF];exact this
 have mn:∀ k,k % 2=0→mt (n+k)=n+k+1∧mt (n+k+1)=n+k:=fun k hk=>by
  unfold mt
  rw[if_pos (by omega),if_neg (by omega)]
  exact⟨rfl,by omega⟩
 have ma:=mn 0 rfl
 have mb:=mn 2 rfl
 have mc:=mn 4 rfl
 rw[Nat.add_zero] at ma
 have c1:F (mt n)=n+5:=by rw[ma.1,F7]
 have c2:F (mt (n+2))=n+1:=by rw[mb.1,F8]
 have c3:F (mt (n+4))=n+3:=by rw[mc.1,F9]
 have c4:F (mt (n+1))=d:=by rw[ma.2,F4]
 have c5:F (mt (n+3))=x1:=by rw[show n+3=n+2+1 from rfl,mb.2,F5]
 have c6:F (mt (n+5))=x2:=by rw[show n+5=n+4+1 from rfl,mc.2,F6]
 obtain⟨L,hL⟩:∃ L:Nat→Nat,L=fun z=>if z<n then aD S z else if z=n then aD S d else if z=n+2 then aD S x1 else if z=n+4 then aD S x2 else bT S n:=⟨_,rfl⟩
 have lo:∀ y,y<n→L y=aD S y:=fun y hy=>by rw[hL];exact if_pos hy
 have q0:L n=aD S d:=by rw[hL];show (if n<n then _ else if n=n then _ else _)=_;rw[if_neg (by omega),if_pos rfl]
 have q2:L (n+2)=aD S x1:=by rw[hL];show (if n+2<n then _ else if n+2=n then _ else if n+2=n+2 then _ else _)=_;rw[if_neg (by omega),if_neg (by omega),if_pos rfl]
 have q4:L (n+4)=aD S x2:=by rw[hL];show (if n+4<n then _ else if n+4=n then _ else if n+4=n+2 then _ else if n+4=n+4 then _ else _)=_;rw[if_neg (by omega),if_neg (by omega),if_neg (by omega),if_pos rfl]
 have qo:∀ k,k % 2=1→L (n+k)=bT S n:=fun k hk=>by rw[hL];show (if n+k<n then _ else if n+k=n then _ else if n+k=n+2 then _ else if n+k=n+4 then _ else _)=_;rw[if_neg (by omega),if_neg (by omega),if_neg (by omega),if_neg (by omega)]
 have hl:∀ y,y<n→aD S y≠bT S n:=fun y hy=>by have:=T.dH.lG hy;omega
 clear hL
 refine⟨hI,by omega,fun x hx=>?_,Um hI (by omega) L (fun z hz=>?_) (fun z hz=>?_)⟩
 ·rcases (show x=n∨x=n+1∨x=n+2∨x=n+3∨x=n+4∨x=n+5∨x<n by omega) with h|h|h|h|h|h|h
  ·rw[h,c1,c6,F1]
  ·rw[h,c4,F2,c2]
  ·rw[h,c2,c4,F2]
  ·rw[h,c5,F3,c3]
  ·rw[h,c3,c5,F3]
  ·rw[h,c6,F1,c1]
  ·by_cases a:x=d∨x=x1∨x=x2
   ·rcases a with a|a|a
    ·rw[a,F2,c2,c4]
    ·rw[a,F3,c3,c5]
    ·rw[a,F1,c1,c6]
   ·have st:∀ y,y<n→¬ (y=d∨y=x1∨y=x2)→F (mt y)=S (mt y)∧S (mt y)<n∧¬ (S (mt y)=d∨S (mt y)=x1∨S (mt y)=x2):=fun y hy hn=>by
     have inj:∀ z,z<n→S (mt y)=S (mt z)→y=z:=fun z hz h=>mm _ _ (T.dH.inj _ _ (T.mlt hy) (T.mlt hz) h)
     refine⟨F0 _ (T.mlt hy) (fun e=>hn (.inl (mm _ _ e))) (fun e=>hn (.inr (.inl (mm _ _ e)))) (fun e=>hn (.inr (.inr (mm _ _ e)))),T.dH.lt _ (T.mlt hy),?_⟩
     rintro (e|e|e)
     ·exact hn (.inr (.inr (inj x2 hx2 (by rw[e,h0]))))
     ·exact hn (.inl (inj d hd (by rw[e,h1])))
     ·exact hn (.inr (.inl (inj x1 hx1 (by rw[e,h2]))))
    obtain⟨s1,s2,s3⟩:=st x h a
    obtain⟨u1,u2,u3⟩:=st _ s2 s3
    obtain⟨w1,-,-⟩:=st _ u2 u3
    rw[s1,u1,w1]
    exact T.tri x h
 ·rcases (show z=n∨z=n+1∨z=n+2∨z=n+3∨z=n+4∨z=n+5∨z<n by omega) with h|h|h|h|h|h|h
  ·rw[h,F4,lo d hd,q0]
  ·rw[h,F7,qo 5 rfl,qo 1 rfl]
  ·rw[h,F5,lo x1 hx1,q2]
  ·rw[h,F8,qo 1 rfl,qo 3 rfl]
  ·rw[h,F6,lo x2 hx2,q4]
  ·rw[h,F9,qo 3 rfl,qo 5 rfl]
  ·by_cases a:z=mt d
   ·rw[a,F2,q2,lo _ y0,va]
   ·by_cases b:z=mt x1
    ·rw[b,F3,q4,lo _ y1,vb]
    ·by_cases c:z=mt x2
     ·rw[c,F1,q0,lo _ y2,vc]
     ·rw[F0 z h a b c,lo _ (T.dH.lt z h),lo z h,T.vS h]
 ·rcases (show z=n∨z=n+1∨z=n+2∨z=n+3∨z=n+4∨z=n+5∨z<n by omega) with h|h|h|h|h|h|h
  ·rw[h,ma.1,q0,qo 1 rfl];exact hl d hd
  ·rw[h,ma.2,q0,qo 1 rfl];exact (hl d hd).symm
  ·rw[h,mb.1,q2,qo 3 rfl];exact hl x1 hx1
  ·rw[h,show n+3=n+2+1 from rfl,mb.2,q2,show n+2+1=n+3 from rfl,qo 3 rfl];exact (hl x1 hx1).symm
  ·rw[h,mc.1,q4,qo 5 rfl];exact hl x2 hx2
  ·rw[h,show n+5=n+4+1 from rfl,mc.2,q4,show n+4+1=n+5 from rfl,qo 5 rfl];exact (hl x2 hx2).symm
  ·rw[lo z h,lo _ (T.mlt h)];exact T.loop z h
end
