import Derived.Test.YtalhcfjcbbkpgaaGreatZt0n
set_option maxRecDepth 100000
set_option maxHeartbeats 4000000
namespace Go.Proofs.YtalhcfjcbbkpgaaGreat
section
theorem iH.own{ks:List Nat}{o i:Nat}(h:iH ks 0 o i):OwnAt ks i o:=by obtain⟨c,a⟩:=h.DD;have b:=q24 h.closes;have e:dd (2 * 0+1)=-1:=rfl;rw[e]at b;exact⟨h.lt,h.opens,by omega,a⟩
theorem Oa{n:Nat}{S T D:Nat->Nat}(o:dU n S)(f:dU n T)(b:dU n D)(p:∀i,i<n->S (D i)=D (T i)):dY S n<=dY T n:=by
 have c:∀m i,i<n->dN S m (D i)=D (dN T m i):=by
  intro m i q
  induction m with
  | zero=>rfl
  | succ m r =>
   show S (dN S m (D i))=D (T (dN T m i));rw[r,p _ (f.eD q m)]
 have j:=sV (((List.range n).filter fun x=>rep S x == x).map fun x=>rep T (iq D x)) ((List.range n).filter fun x=>rep T x == x) (by
  rw[List.Nodup,List.pairwise_map];have hn:((List.range n).filter fun x=>rep S x == x).Nodup:=List.Pairwise.filter _ List.nodup_range;refine List.Pairwise.imp_of_mem (fun {x y} a d g e=>g ?_) hn;simp only [List.mem_filter,List.mem_range,beq_iff_eq]at a d;obtain⟨m,s⟩:=(f.iN (b.eZ a.1) (b.eZ d.1)).1 e;have l:=c m _ (b.eZ a.1);rw[s,b.gD a.1,b.gD d.1]at l;rw[<-a.2,<-d.2];exact(o.iN a.1 d.1).2 ⟨m,l⟩) (fun z t=>by
  obtain⟨x,a,rfl⟩:=List.mem_map.1 t;simp only [List.mem_filter,List.mem_range,beq_iff_eq]at a ⊢;exact⟨f.lg (b.eZ a.1),f.iO (b.eZ a.1)⟩)
 rw[List.length_map]at j;exact j
theorem Ob{n:Nat}{D:Nat->Nat}(h:dU n D):dU n (iq D) :=
 ⟨fun _ a=>h.eZ a,fun d e a b c=>by rw[<-h.gD a,c,h.gD b]⟩
theorem Bq{n:Nat}{S T D:Nat->Nat}(d:dU n S)(b:dU n T)(a:dU n D)(e:∀i,i<n->S (D i)=D (T i)):dY S n=dY T n:=by refine Nat.le_antisymm (Oa d b a e) (Oa b d (Ob a) (fun i c=>?_));have f:=e _ (a.eZ c);rw[a.gD c]at f;rw[f,a.inv_of (b.lt _ (a.eZ c))]
section
variable {ks:List Nat} (h:Wd ks)
include h
theorem Wd.tT:dU ks.length (sg (dM ks)):=by have:=h.gL;rwa [oL]at this
theorem Wd.jW{i:Nat}(a:i<ks.length):sg (dM ks) (fD ks i)=fD ks (tn ks i):=by rw[MI (h.jF a),h.En a]
theorem Wd.nS(hn:0<ks.length):fD ks 0=0:=by
 obtain⟨s,c,⟨a,b⟩|⟨a,b⟩⟩:=h.cases hn
 ·unfold fD;rw[iQ a,if_pos (by omega)];simp[oc]
 ·have:=b.lt;omega
theorem Wd.sG{i j:Nat}(b:i<ks.length)(c:j<ks.length):dB (sg (dM ks)) (fD ks i)=dB (sg (dM ks)) (fD ks j)↔vx ks i=vx ks j:=by
 rw[h.tT.eY (h.jF b) (h.jF c),<-h.pV b c]
 have a:∀m,dN (sg (dM ks)) m (fD ks i)=fD ks (dN (tn ks) m i):=by
  intro m
  induction m with
  | zero=>rfl
  | succ m d =>
   show sg (dM ks) (dN (sg (dM ks)) m (fD ks i))=fD ks (tn ks (dN (tn ks) m i));rw[d,h.jW (h.iU.eD b m)]
 constructor
 ·rintro⟨m,hm⟩;rw[a]at hm;exact⟨m,h.gX.inj _ _ (h.iU.eD b m) c hm⟩
 ·rintro⟨m,hm⟩;exact⟨m,by rw[a,hm]⟩
theorem Wd.pY(hC:DN ks)(hn:0<ks.length):∀j,j<=ks.length->fC (sg (dM ks)) (dB (sg (dM ks))) 0 j=(fD ks (j % ks.length),(List.range j).map fun i=>(fD ks i,ks.getD i 0)):=by
 intro j
 induction j with
 | zero =>
  intro _;rw[Nat.zero_mod,h.nS hn];rfl
 | succ j K =>
  intro Z;have K:=K (by omega);have b:j<ks.length:=by omega
  have L:j % ks.length=j:=Nat.mod_eq_of_lt b;rw[L]at K;show pG _ _ _ (fC _ _ _ j)=_;rw[K]
  have f:∀x,x<ks.length->(vis ((List.range j).map fun i=>(fD ks i,ks.getD i 0)) (fD ks x)↔x<j):=by
   intro x C;rw[Dv,List.map_map];simp only [List.mem_map,List.mem_range,Function.comp];constructor
   ·rintro⟨y,hy,v⟩;have:=h.gX.inj _ _ (by omega) C v;omega
   ·intro M;exact⟨x,M,rfl⟩
  have c:=h.gW b;have g:=h.kW b;have E:¬vis ((List.range j).map fun i=>(fD ks i,ks.getD i 0)) (fD ks j):=fun e=>by have:=(f j b).1 e;omega
  have w:fH (dB (sg (dM ks))) 0 ((List.range j).map fun i=>(fD ks i,ks.getD i 0)) (fD ks j)=ks.getD j 0:=by
   obtain⟨s,hs,⟨F,d⟩|⟨F,d⟩⟩:=h.cases b
   ·rw[iQ F];unfold fH;rcases BZ E with⟨k,G,z⟩|⟨G,z⟩
    ·exfalso;have:vis ((List.range j).map fun i=>(fD ks i,ks.getD i 0)) (fD ks (mp ks j)):=⟨k,by rw[g];exact z⟩
     have:=(f _ c).1 this;have:=d.lt;omega
    ·rw[G];simp only;rw[<-g]
     have u:iB (dB (sg (dM ks))) 0 ((List.range j).map fun i=>(fD ks i,ks.getD i 0)) (dB (sg (dM ks)) (fD ks (mp ks j)))=true↔(vx ks (mp ks j)=0\/∃o,o<j/\ks[o]? = some 0/\vx ks (mp ks j)=vo ks o):=by
      unfold iB;rw[Bool.or_eq_true,beq_iff_eq,List.any_eq_true];have T:=h.sG c hn;rw[h.nS hn,h.zY]at T;rw[T];refine or_congr Iff.rfl ⟨?_,?_⟩
      ·rintro⟨⟨x,k⟩,C,hk⟩;obtain⟨o,q,v⟩:=List.mem_map.1 C;have N:=List.mem_range.1 q;simp only [Prod.mk.injEq]at v;obtain⟨rfl,rfl⟩:=v;rw[Bool.and_eq_true,beq_iff_eq,beq_iff_eq]at hk;have H:ks.getD o 0=0:=hk.1;have A:dB (sg (dM ks)) (mt (fD ks o))=dB (sg (dM ks)) (fD ks (mp ks j)):=hk.2;have a:=List.getElem?_eq_getElem (l:=ks) (i:=o) (by omega);rw[iQ a]at H;rw[H]at a;refine⟨o,N,a,?_⟩;rw[<-h.kW (by omega:o<ks.length)]at A;rw[<-(h.sG (h.gW (by omega:o<ks.length)) c).1 A];obtain⟨O,P,⟨t,B⟩|⟨t,B⟩⟩:=h.cases (i:=o) (by omega)
       ·rw[a]at t;obtain rfl:O=0:=by have:=Option.some.inj t;omega
        exact h.jV (Nat.le_of_lt B.le) B.own
       ·rw[a]at t;have:=Option.some.inj t;omega
      ·rintro⟨o,q,a,A⟩;refine⟨(fD ks o,ks.getD o 0),List.mem_map.2 ⟨o,List.mem_range.2 q,rfl⟩,?_⟩;rw[Bool.and_eq_true,beq_iff_eq,beq_iff_eq];refine⟨iQ a,?_⟩;show dB (sg (dM ks)) (mt (fD ks o))=_;rw[<-h.kW (by omega:o<ks.length)];refine(h.sG (h.gW (by omega:o<ks.length)) c).2 ?_;rw[A];obtain⟨O,P,⟨t,B⟩|⟨t,B⟩⟩:=h.cases (i:=o) (by omega)
       ·rw[a]at t;obtain rfl:O=0:=by have:=Option.some.inj t;omega
        exact h.jV (Nat.le_of_lt B.le) B.own
       ·rw[a]at t;have:=Option.some.inj t;omega
     have I:s=0\/s=1:=by omega
     rcases I with rfl|rfl
     ·have A:vx ks (mp ks j)=vo ks j:=h.jV (Nat.le_of_lt d.le) d.own;rw[if_neg (fun e=>?_)];rcases u.1 e with e|⟨o,q,a,e⟩
      ·rw[A]at e;unfold vo at e;omega
      ·rw[A]at e;have:=MJ F a e;omega
     ·rw[if_pos (u.2 ?_)];rcases h.pQ (j:=mp ks j) (by omega)with e|⟨o,q⟩
      ·exact .inl (h.j5 (by omega) e)
      ·refine .inr ⟨o,?_,q.opens,h.jV (by omega) q⟩;obtain⟨r,hr⟩:=h.bal.owner (i:=mp ks j) (by omega);have V:=hC (mp ks j) j r d.closes (h.mate b).symm hr
       have Q:r=(o:Nat):=by
        rcases Int.lt_or_le r 0 with U|J
        ·exfalso;rcases hr with⟨R,_⟩|⟨_,o',n',_,_,rfl⟩
         ·rw[gU (by omega)]at R;have:=q.hit;have:=h.mI (p:=o) (by have:=q.lt;omega);omega
         ·omega
        ·obtain⟨m,rfl⟩:=Int.eq_ofNat_of_zero_le J;rw[(hr.own (by omega)).unique q]
       rw[Q]at V;have W:o≠j:=fun e=>by have:=q.opens;rw[e,F]at this;have:=Option.some.inj this;omega
       omega
   ·rw[iQ F];unfold fH;rcases BZ E with⟨k,G,z⟩|⟨G,z⟩
    ·rw[G];simp only;rw[<-g]at z;obtain⟨x,C,v⟩:=List.mem_map.1 z;have X:=List.mem_range.1 C;simp only [Prod.mk.injEq]at v;obtain⟨R,Y⟩:=v;have:=h.gX.inj _ _ (by omega) c R;subst this;rw[<-Y,iQ d.opens]
    ·exfalso;apply z;rw[<-g];exact(f _ c).2 d.lt
  have S:pG (sg (dM ks)) (dB (sg (dM ks))) 0 (fD ks j,(List.range j).map fun i=>(fD ks i,ks.getD i 0))=(sg (dM ks) (if ks.getD j 0<2 then mt (fD ks j)else fD ks j),((List.range j).map fun i=>(fD ks i,ks.getD i 0)) ++ [(fD ks j,ks.getD j 0)]):=by unfold pG;simp only [w]
  rw[S,List.range_succ,List.map_append];congr 1;by_cases d:ks.getD j 0<2
  ·rw[if_pos d,<-g,h.jW c];unfold tn;rw[if_pos ((h.kF b).2 d),h.iC b]
  ·rw[if_neg d,h.jW b];unfold tn;rw[if_neg d]
theorem Wd.Ad(hC:DN ks)(hn:0<ks.length):jJ (fC (sg (dM ks)) (dB (sg (dM ks))) 0 ks.length).2=ks:=by
 rw[h.pY hC hn _ (Nat.le_refl _)];unfold jJ;rw[List.map_map];apply List.ext_getElem?;intro i;rcases Nat.lt_or_ge i ks.length with a|a
 ·rw[List.getElem?_map,List.getElem?_range a];simp[List.getD_eq_getElem?_getD,a]
 ·rw[List.getElem?_eq_none (by simp;omega),List.getElem?_eq_none a]
end
theorem jS.unique{n:Nat}{S dH:Nat->Nat}{root T a:Nat}(h:jS n S dH root T)(b:jS n S dH root a):T=a:=by
 classical
 have c:=h.total (fun x=>decide (dJ n S root x)) (fun x _=>by simp);have d:=b.total (fun x=>decide (dJ n S root x)) (fun x _=>by simp);omega
section
variable {ks:List Nat} (h:Wd ks) (hC:DN ks) (hn:0<ks.length)
include h hC hn
theorem Wd.vI:jS ks.length (sg (dM ks)) (dB (sg (dM ks))) 0 ks.length/\∀x,x<ks.length->dJ ks.length (sg (dM ks)) 0 x:=by
 have g:=h.tT;obtain⟨T,d,a,j⟩:=EH g h.lM (fun x y c l=>g.eY c l) hn
 have e:T=ks.length:=by
  rcases Nat.lt_trichotomy T ks.length with b|f|b
  ·exfalso;rw[h.pY hC hn T (by omega),Nat.mod_eq_of_lt b]at a;have o:=h.gX.inj T 0 b hn (by rw[h.nS hn];exact a);have:=j.pos;omega
  ·exact f
  ·exfalso;have:=d.le;omega
 subst e;refine⟨d,fun x c=>?_⟩;refine(d.uD x c).2 ?_;rw[h.pY hC hn _ (Nat.le_refl _),Dv,List.map_map];obtain⟨i,m,rfl⟩:=h.gX.back c;exact List.mem_map.2 ⟨i,List.mem_range.2 m,rfl⟩
end
theorem JF{n:Nat}{S:Nat->Nat}(h:dU n S)(a:n % 2=0)(hn:0<n)(b:∀x,x<n->dJ n S 0 x):dZ n S n=1:=by
 have c:∀x,x<n->eH n S x=0:=fun x d=>Nat.le_zero.1 (wC (h.iD a hn (b x d)))
 have f:∀m,m<=n->dZ n S m=if m=0 then 0 else 1:=by
  intro m
  induction m with
  | zero=>intro _;rfl
  | succ m g =>
   intro i;rw[uz,g (by omega),c m (by omega)];by_cases e:m=0
   ·subst e;rfl
   ·rw[if_neg e,if_neg (by omega),if_neg (by omega)]
 rw[f n (Nat.le_refl _),if_neg (by omega)]
theorem U8{n:Nat}{S:Nat->Nat}(h:dU n S)(a:n % 2=0)(d:dZ n S n=1){x y:Nat}(b:x<n)(c:y<n):dJ n S x y:=by have e:=h.lW a b;have f:=h.lW a c;exact(h.jd a b c).1 (by omega)
theorem JG{s:List Nat}(h:dU s.length (sg s))(j:s.length % 2=0)(o:dZ s.length (sg s) s.length=1) :
  fU (jG s 0)=(2 - ((dY (sg s) s.length:Nat):Int)+((s.length / 2:Nat):Int) - ((dY (sg (dS s)) s.length:Nat):Int)).tdiv 2:=by
 have b:∀x,x<s.length->sg (iV s) x=0:=fun x a=>by rw[Ba a];have:=h.lW j a;omega
 have c:∀l:List Nat,nI l (iV s) 0 s.length=dY (sg l) s.length:=fun l=>by unfold nI dY;congr 1;refine List.filter_congr (fun x a=>?_);rw[b x (List.mem_range.1 a)];simp
 have e:mM (iV s) 0 s.length=s.length:=by unfold mM;rw[List.filter_eq_self.2 (fun x a=>by rw[b x (List.mem_range.1 a)];rfl),List.length_range]
 obtain⟨p,m⟩:∃p,mO s s.length=[p]:=by have:=vw s s.length;rw[o]at this;exact List.length_eq_one_iff.1 this
 have f:p ∈ mO s s.length:=by rw[m];simp
 obtain⟨d,q,rfl⟩:=List.mem_map.1 f;have g:=List.mem_range.1 (List.mem_filter.1 q).1;have i:eF s.length (sg s) d=0:=by have:=h.lW j g;omega
 unfold jG;rw[m];unfold fU qZ vk CF CG Bc;rw[i,c,c,e];simp
section
variable {ks:List Nat} (h:Wd ks) (hC:DN ks) (hn:0<ks.length)
include h hC hn
theorem Wd.uL:dZ (dM ks).length (sg (dM ks)) (dM ks).length=1/\fU (jG (dM ks) 0)=0:=by
 have f:=h.gL;have a:=h.lM;have d:=JF h.tT a hn (h.vI hC hn).2;have b:=oL ks;rw[<-b]at d;refine⟨d,?_⟩;rw[JG f (by rw[b];exact a) d,b];have g:dY (sg (dM ks)) ks.length=dY (tn ks) ks.length:=Bq h.tT h.iU h.gX (fun i c=>h.jW c);have e:dU ks.length (sg (dS (dM ks))):=by have:=Bd f (by rw[b];exact a);rwa [mK,b]at this
 have j:dY (sg (dS (dM ks))) ks.length=dY (ph ks) ks.length:=Bq e h.sj h.gX (fun i c=>by
  have l:sg (dS (dM ks)) (fD ks i)=sg (dM ks) (mt (fD ks i)):=by simp[sg,dS,b,h.jF c]
  rw[l,<-h.kW c,h.jW (h.gW c)];rfl)
 have m:=h.Bf hn;rw[g,j];have:(2 - ((dY (tn ks) ks.length:Nat):Int)+((ks.length / 2:Nat):Int) - ((dY (ph ks) ks.length:Nat):Int))=0:=by omega
 rw[this];rfl
end
theorem wO.unique{s:List Nat}{lone:Nat}{rt:Int}{ks f:List Nat}{c j:Nat}(h:wO s lone rt ks c)(m:wO s lone rt f j):ks=f/\c=j:=by
 rcases h with⟨a,d,a3⟩|⟨a,d,a3,a4⟩|⟨a,d,a3,a4,a5⟩|⟨a,d,a3,r,T,a4,a5,o,p⟩ <;>
  rcases m with⟨b,e,g⟩|⟨b,e,g,i⟩|⟨b,e,g,i,l⟩|⟨b,e,g,q,v,i,l,t,u⟩
 ·exact⟨by rw[a3,g],by omega⟩
 ·exact absurd b a
 ·exact absurd b a
 ·exact absurd b a
 ·exact absurd a b
 ·exact⟨by rw[a4,i],by omega⟩
 ·exact absurd e d
 ·exact absurd e d
 ·exact absurd a b
 ·exact absurd d e
 ·exact⟨by rw[a5,l],by omega⟩
 ·omega
 ·exact absurd a b
 ·exact absurd d e
 ·omega
 ·obtain rfl:r=q:=by omega
  obtain rfl:=o.unique t;exact⟨by rw[p,u],by omega⟩
theorem Wd.Ae{ks:List Nat}(h:Wd ks)(hC:DN ks):wO (dM ks) (if ks.length=0 then 1 else 0) (if ks.length=0 then -1 else 0) ks 0:=by
 by_cases hn:ks.length=0
 ·rw[if_pos hn,if_pos hn];have a:ks=[]:=List.eq_nil_of_length_eq_zero hn;subst a;have b:dM []=[]:=rfl;rw[b];refine .inr (.inr (.inl ⟨rfl,?_,rfl,rfl,rfl⟩));simp[jG,mO,fU]
 ·rw[if_neg hn,if_neg hn];obtain⟨c,d⟩:=h.uL hC (by omega);have e:=(h.vI hC (by omega)).1;refine .inr (.inr (.inr ⟨by rw[c],d,rfl,0,ks.length,rfl,by rw[oL];omega,by rw[oL];exact e,(h.Ad hC (by omega)).symm⟩))
theorem gB.wd{ks:List Nat}(h:gB ks):Wd ks:=⟨h.k4,h.bal⟩
theorem gB.canon{ks:List Nat}(h:gB ks):DN ks:=fun _ _ _ a b c=>h.check a b c
end
section
theorem G5(a b:List Nat)(k:Nat):eO (a ++ b) k=eO a k+eO b k:=by unfold eO;rw[List.filter_append,List.length_append]
theorem yB{a b:List Nat}{p:Nat}(c:p<=a.length):DD (a ++ b) p=DD a p:=by unfold DD;rw[List.take_append_of_le_length c]
theorem Db{a b:List Nat}{p:Nat}(c:p<=a.length):BB (a ++ b) p=BB a p:=by unfold BB;rw[List.take_append_of_le_length c]
theorem zl{a b:List Nat}{q:Nat}:DD (a ++ b) (a.length+q)=DD a a.length+DD b q:=by unfold DD;rw[List.take_length_add_append,G5,G5,List.take_length];omega
theorem Br{a b:List Nat}{q:Nat}:BB (a ++ b) (a.length+q)=BB a a.length+BB b q:=by unfold BB;rw[List.take_length_add_append,G5,G5,List.take_length];omega
theorem gB.app{a b:List Nat}(c:gB a)(d:gB b):gB (a ++ b):=by
 have s:=c.nO;have z:=c.qI;refine { k4:=?_,mI:=?_,bpos:=?_,right:=?_,nO:=?_,qI:=?_ }
 ·intro k B;rcases List.mem_append.1 B with h|h
  ·exact c.k4 k h
  ·exact d.k4 k h
 ·intro p t;rw[List.length_append]at t;rcases Nat.le_total p a.length with h|h
  ·rw[yB h];exact c.mI p h
  ·obtain⟨q,rfl⟩:=Nat.exists_eq_add_of_le h;rw[zl,s];have:=d.mI q (by omega);omega
 ·intro p t;rw[List.length_append]at t;rcases Nat.le_total p a.length with h|h
  ·rw[Db h];exact c.bpos p h
  ·obtain⟨q,rfl⟩:=Nat.exists_eq_add_of_le h;rw[Br,z];have:=d.bpos q (by omega);omega
 ·intro i e o v;rcases Nat.lt_or_ge i a.length with h|h
  ·have C:=v.lt;rw[List.getElem?_append_left h]at e;have w:OwnAt a i o:=by obtain⟨A,f,m,r⟩:=v;rw[List.getElem?_append_left (by omega)]at f;rw[yB (by omega),yB (by omega)]at m;refine⟨A,f,m,fun p g l=>?_⟩;have:=r p g l;rwa [yB (by omega),yB (by omega)]at this
   rw[Db (by omega),Db (by omega)];exact c.right i e o w
  ·obtain⟨j,rfl⟩:=Nat.exists_eq_add_of_le h;rw[List.getElem?_append_right (by omega),Nat.add_sub_cancel_left]at e;have E:=iE e;obtain⟨A,f,m,r⟩:=v;rcases Nat.lt_or_ge o a.length with x|x
   ·exfalso;have:=r a.length x (by omega);rw[yB (by omega),yB (Nat.le_refl _),s]at this;have:=c.mI o (by omega);omega
   ·obtain⟨u,rfl⟩:=Nat.exists_eq_add_of_le x;rw[List.getElem?_append_right (by omega),Nat.add_sub_cancel_left]at f;rw[zl,zl]at m;have y:OwnAt b j u:=⟨by omega,f,by omega,fun p g l=>by have:=r (a.length+p) (by omega) (by omega);rw[zl,zl]at this;omega⟩
    have:=d.right j e u y;rw[show a.length+u+1=a.length+(u+1) by omega,Br,Br];omega
 ·rw[List.length_append,zl,s,d.nO];rfl
 ·rw[List.length_append,Br,z,d.qI];rfl
theorem Wd.wW{ks:List Nat}(h:Wd ks):((dY (sg (dM ks)) ks.length:Nat):Int)+(if ks.length=0 then 1 else 0)=(eO ks 0:Int)+1:=by
 by_cases hn:ks.length=0
 ·obtain rfl:ks=[]:=List.eq_nil_of_length_eq_zero hn;rfl
 ·rw[if_neg hn,Bq h.tT h.iU h.gX (fun i a=>h.jW a),h.r9 (by omega)];omega
theorem Wd.wX{ks:List Nat}(h:Wd ks):((dY (sg (dS (dM ks))) ks.length:Nat):Int)+(if ks.length=0 then 1 else 0)=(eO ks 2:Int)+1:=by
 by_cases hn:ks.length=0
 ·obtain rfl:ks=[]:=List.eq_nil_of_length_eq_zero hn;rfl
 ·have e:=h.gL;have a:=h.lM;have b:=oL ks;have c:dU ks.length (sg (dS (dM ks))):=by have:=Bd e (by rw[b];exact a);rwa [mK,b]at this
  rw[if_neg hn,Bq c h.sj h.gX (fun i d=>by
   have f:sg (dS (dM ks)) (fD ks i)=sg (dM ks) (mt (fD ks i)):=by simp[sg,dS,b,h.jF d]
   rw[f,<-h.kW d,h.jW (h.gW d)];rfl),h.x9 (by omega)]
  omega
end
section
open Go.RowKit
def zm(P:Nat->Nat)(t:List Nat)(j:Nat)(zs:List Int):Prop:=∀i,i<j->zs[P i]? = some ((sg t (P i):Nat):Int)
theorem zm.step{n:Nat}{P:Nat->Nat}{t:List Nat}{j:Nat}{zs:List Int}(a:dU n P)(b:j<n)(c:zs.length=n)(h:zm P t j zs):zm P t (j+1) (zs.set (P j) ((sg t (P j):Nat):Int)):=fun i d=>by
 rw[List.getElem?_set];by_cases e:P j=P i
 ·rw[if_pos e,if_pos (by rw[c];exact a.lt _ b),e]
 ·rw[if_neg e];have:i≠j:=fun x=>e (by rw[x]);exact h i (by omega)
theorem zm.done{n:Nat}{P:Nat->Nat}{t:List Nat}{zs:List Int}(b:dU n P)(d:t.length=n)(e:zs.length=n)(h:zm P t n zs):zs=dD t:=by
 apply List.ext_getElem?;intro i;rcases Nat.lt_or_ge i n with a|a
 ·have c:=h (iq P i) (b.eZ a);rw[b.gD a]at c;rw[c,uG (by omega)]
 ·rw[List.getElem?_eq_none (by omega),List.getElem?_eq_none (by rw[q01];omega)]
theorem U9{w:World}{b C:Nat}{s ps t:List Nat}{r l:Nat}{R:Nat->Prop}{sv:Value}(h:MapAt w b s r l R)(f:PermAt w C sv ps)(hn:0<s.length)(Y:ps.length=s.length)(hP:dU s.length (sg ps))
  (J:∀d,d<s.length->sg ps (mt d)=mt (sg ps d))(o:t.length=s.length)(ht:∀d,d<s.length->sg t (sg ps d)=sg ps (sg s d))(hT:dU s.length (sg t)) :
  Calls Tryz.prog 78 #[.pointer (some ⟨b,0,none⟩),.pointer (some ⟨C,0,none⟩)] w (j6 w t ((sg ps r:Nat):Int) l):=by
 have hr:r<s.length:=by rcases h.rt with⟨S,_⟩|⟨_,h1⟩ <;> omega
 have K:=h.le;have aj:=h.ln;have F:=h.even;have HH:Hid (∀W,Keeps (fun _=>False) w W->MapAt W b s r l R/\PermAt W C sv ps):=dh (fun W T=>⟨h.keeps T (fun h=>h) (fun _ _ h=>h),f.keeps T (fun h=>h) (fun _ _ h=>h)⟩);have hS:∀d,d<s.length->sg s d<s.length:=fun d hd=>h.dW.lt d hd;have E:=dh (dn ht (dn hT (dn hP (dn J hS))));obtain⟨n,p⟩:∃n,n=s.length:=⟨_,rfl⟩
 have U:=vH h;have Z:=Bl C sv ps w f;rw[Y,<-p]at Z;rw[<-p]at U;have B:=dh p;rw[<-p]at K hr hn F;clear h f ht hT hP J hS p;obtain⟨i,hi,L,q,A⟩:=info_parts om;have M:=fun w=>run_make (P:=Tryz.prog) w 25 3 i _ Tryz.underlying25 hi L .i64 .i64 (n:Int) (n:Int) (by omega) (Int.le_refl _) (by rw[A];omega) (by omega);simp only [q,Int.toNat_natCast,Nat.mul_one]at M;have S:=dV.made w n (zm (sg ps) t 0) (fun i hi=>by omega) (by omega);clear hi L q A;go_enter Tryz.func78,Tryz.ntmps78;go_wp2_with fail;refine Z.mono ?_;rintro e w' ⟨rfl,rfl⟩;go_wp2_with fail;refine U.mono ?_;rintro e w' ⟨rfl,rfl⟩;go_wp2_with fail;refine U.mono ?_;rintro e w' ⟨rfl,rfl⟩;clear U Z;go_wp2_with fail;clear M;obtain⟨g,V⟩:∃g,g=w.heap.size:=⟨_,rfl⟩
 rw[<-V]at S;rw[<-V];generalize World.alloc _ _=wM at *;have ak:=dh V;clear V;go_loopg [26] n (fun m i wr=>∃j:Nat,j<=n/\m=n - j/\i=.int .i64 j/\dV w g n (zm (sg ps) t j) wr)
 case atStart=>exact⟨0,Nat.zero_le _,rfl,rfl,S⟩
 case round =>
  clear S;obtain⟨j,hj,N,rfl,H⟩:=hrel;have HG:=dh N;clear N;by_cases aa:j<n
  ·have a:j<s.length:=by rw[<-B.out];exact aa
   obtain⟨I,f⟩:=HH.out wr (by obtain⟨_,_,_,_,T⟩:=id H;exact T);have ab:mt j<s.length:=dR (by rw[<-B.out];exact F) a;have hx:=EO j (by omega);obtain⟨P,c⟩:∃P,P=sg ps j:=⟨_,rfl⟩
   have ad:P<n:=by rw[c,B.out];exact E.out.2.2.1.lt _ a
   have al:=EO P (by omega);have c1:=q22 C sv ps (mt j) wr f (by omega);have X:=q22 C sv ps j wr f (by omega);have c3:=wR I j a;have ae:=E.out.2.2.2.2 j a;have c4:=q22 C sv ps (sg s j) wr f (by omega);rw[E.out.2.2.2.1 j a,<-c]at c1;rw[<-c]at X;rw[<-E.out.1 j a,<-c]at c4;obtain⟨z,_,hc,hf⟩:=H.cell P ad;have HS:=dh (H.set (Q:=zm (sg ps) t (j+1)) P ((sg t P:Nat):Int) (fun zs af h=>by rw[c];exact zm.step E.out.2.2.1 a (by rw[af,B.out]) h));clear H I f c ab ae;generalize sg t P=x at *;generalize sg s j=y at *;generalize mt j=u at *;generalize mt P=v at *;go_wp2_with fail;refine c1.mono ?_;rintro e w' ⟨rfl,rfl⟩;go_wp2_with fail;refine X.mono ?_;rintro e w' ⟨rfl,rfl⟩;go_wp2_with fail;refine X.mono ?_;rintro e w' ⟨rfl,rfl⟩;go_wp2_with fail;refine c3.mono ?_;rintro e w' ⟨rfl,rfl⟩;go_wp2_with fail;refine c4.mono ?_;rintro e w' ⟨rfl,rfl⟩;clear c1 X c3 c4;go_wp2;go_roundg (n - (j+1))
   case measure=>rw[HG.out];omega
   case rel=>exact⟨j+1,by omega,rfl,by go_num,HS.out⟩
  ·obtain rfl:j=n:=by omega
   obtain⟨zs,q,A,O,G⟩:=id H;have ag:=zm.done (n:=j) (by rw[B.out];exact E.out.2.2.1) (by rw[B.out];exact o) q A;subst ag;obtain⟨I,f⟩:=HH.out wr G;have cR:=DL I;have cL:=Jy I;have cP:=q22 C sv ps r wr f (by have:=B.out;omega);have ah:sg ps r<t.length:=by rw[o];exact E.out.2.2.1.lt _ (by have:=B.out;omega)
   have cN:=NJ (.slice (some ⟨g,0,none⟩) j j) t (sg ps r) l wr O.sl (by rw[o];exact E.out.2.1) (by rw[o,<-B.out];exact F) ah (by rw[o,<-B.out];exact K) (by omega);have HK:=dh G;clear H q A O G I f;generalize sg ps r=x at *;go_wp2_with fail;refine cR.mono ?_;rintro e w' ⟨rfl,rfl⟩;go_wp2_with fail;refine cP.mono ?_;rintro e w' ⟨rfl,rfl⟩;go_wp2_with fail;refine cL.mono ?_;rintro e w' ⟨rfl,rfl⟩;clear cR cP cL;go_wp2_with fail;refine cN.mono ?_;rintro e w3 J;have ai:=J.base HK.out;obtain⟨b2,rfl,h2⟩:=ai;have H2:=dh h2;clear cN J h2;go_wp2;go_ret2;exact⟨b2,rfl,H2.out⟩
end
section
structure tV (n:Nat)(D:Nat->Nat)(ks:List Nat):Prop where
 wd:Wd ks
 len:ks.length=n
 dP:dU n D
 oO:∀i,i<n->D (mp ks i)=mt (D i)
theorem Wd.Af{ks:List Nat}(h:Wd ks){i:Nat}(d:i<ks.length):ks.getD (mp ks i) 0<2↔ks.getD i 0<2:=by
 obtain⟨t,e,⟨a,b⟩|⟨a,b⟩⟩:=h.cases (i:=i) d
 ·have c:=b.closes;rw[List.getD_eq_getElem?_getD,c,List.getD_eq_getElem?_getD,a,Option.getD_some,Option.getD_some];omega
 ·have c:=b.opens;rw[List.getD_eq_getElem?_getD,c,List.getD_eq_getElem?_getD,a,Option.getD_some,Option.getD_some];omega
section
variable {n:Nat} {D:Nat->Nat} {ks:List Nat} (k:tV n D ks)
include k
def CJ(n:Nat)(D:Nat->Nat)(ks:List Nat)(j:Nat)(zs:List Int):Prop:=∀i,i<n->zs[D i]? = some (if i<j\/mp ks i<j then (fD ks i:Int)else -1)
theorem tV.EY:CJ n D ks 0 (List.replicate n (-1)):=fun i a=>by rw[if_neg (by omega),List.getElem?_replicate,if_pos (k.dP.lt i a)]
theorem tV.nT{j:Nat}(c:j<n):(ks.getD j 0 % 2=0/\j<mp ks j)\/(ks.getD j 0 % 2=1/\mp ks j<j):=by
 obtain⟨t,d,⟨a,b⟩|⟨a,b⟩⟩:=k.wd.cases (i:=j) (by rw[k.len];exact c)
 ·exact .inl ⟨by rw[iQ a];omega,b.lt⟩
 ·exact .inr ⟨by rw[iQ a];omega,b.lt⟩
theorem tV.EZ{j:Nat}{zs:List Int}(l:j<n)(f:mp ks j<j)(h:CJ n D ks j zs):CJ n D ks (j+1) zs:=fun i d=>by
 rw[h i d];have a:i<ks.length:=by rw[k.len];exact d
 have b:=k.wd.iC a;congr 1;by_cases c:i<j\/mp ks i<j
 ·rw[if_pos c,if_pos (by omega)]
 ·rw[if_neg c,if_neg];rintro (g|g)
  ·obtain rfl:i=j:=by omega
   exact c (.inr f)
  ·have e:mp ks i=j:=by omega
   rw[e]at b;omega
theorem tV.stepJ{j:Nat}{zs:List Int}(d:j<n)(q:zs.length=n)(t:j<mp ks j)(h:CJ n D ks j zs):CJ n D ks (j+1) ((zs.set (D j) (fD ks j:Int)).set (mt (D j)) ((fD ks j:Int)+1)):=fun i g=>by
 have f:j<ks.length:=by rw[k.len];exact d
 have m:i<ks.length:=by rw[k.len];exact g
 have b:mp ks j<n:=by rw[<-k.len];exact k.wd.gW f
 have o:=k.wd.iC m;have c:=k.wd.iC f
 have p:ks.getD j 0 % 2=0:=by
  rcases k.nT d with a|a
  ·exact a.1
  ·omega
 have s:ks.getD (mp ks j) 0 % 2=1:=by
  rcases k.nT b with a|a
  ·rw[c]at a;omega
  ·exact a.1
 rw[<-k.oO j d,List.getElem?_set,List.length_set];by_cases a:D (mp ks j)=D i
 ·have e:=k.dP.inj _ _ b g a;rw[if_pos a,if_pos (by rw[q];exact k.dP.lt _ b),<-e,if_pos (.inr (by rw[c];omega))];congr 1;unfold fD;rw[if_pos p,if_neg (by omega),c];omega
 ·rw[if_neg a,List.getElem?_set];by_cases l:D j=D i
  ·have e:=k.dP.inj _ _ d g l;rw[if_pos l,if_pos (by rw[q];exact k.dP.lt _ d),<-e,if_pos (.inl (by omega))]
  ·rw[if_neg l,h i g];congr 1;have u:¬i=j:=fun e=>l (by rw[e]);have v:¬mp ks i=j:=fun e=>a (by rw[<-e,o]);by_cases r:i<j\/mp ks i<j
   ·rw[if_pos r,if_pos (by omega)]
   ·rw[if_neg r,if_neg (by omega)]
noncomputable def qO(n:Nat)(D:Nat->Nat)(ks:List Nat):List Nat:=(List.range n).map fun x=>fD ks (iq D x)
omit k in
theorem DR(n:Nat)(D:Nat->Nat)(ks:List Nat):(qO n D ks).length=n:=by simp[qO]
theorem tV.vJ{i:Nat}(a:i<n):sg (qO n D ks) (D i)=fD ks i:=by have b:=k.dP.lt i a;unfold sg qO;rw[List.getD_eq_getElem?_getD,List.getElem?_map,List.getElem?_range b];show fD ks (iq D (D i))=_;rw[k.dP.inv_of a]
theorem tV.oF{x:Nat}(a:x<n):∃i,i<n/\D i=x/\sg (qO n D ks) x=fD ks i :=
 ⟨iq D x,k.dP.eZ a,k.dP.gD a,by have:=k.vJ (k.dP.eZ a);rwa [k.dP.gD a]at this⟩
theorem tV.E5{zs:List Int}(f:zs.length=n)(h:CJ n D ks n zs):zs=dD (qO n D ks):=by
 apply List.ext_getElem?;intro x;rcases Nat.lt_or_ge x n with a|a
 ·obtain⟨i,b,e,d⟩:=k.oF a;have c:=h i b;rw[e,if_pos (.inl b)]at c;rw[c,uG (by rw[DR];exact a),d]
 ·rw[List.getElem?_eq_none (by omega),List.getElem?_eq_none (by rw[q01,DR];omega)]
theorem tV.jF{i:Nat}(a:i<n):fD ks i<n:=by have:=k.wd.jF (i:=i) (by rw[k.len];exact a);rwa [k.len]at this
theorem tV.uM:dU n (sg (qO n D ks)):=by
 refine⟨fun x a=>?_,fun x y a e d=>?_⟩
 ·obtain⟨i,b,_,c⟩:=k.oF a;rw[c];exact k.jF b
 ·obtain⟨i,b,f,c⟩:=k.oF a;obtain⟨j,g,l,m⟩:=k.oF e;rw[c,m]at d;rw[<-f,<-l,k.wd.gX.inj i j (by rw[k.len];exact b) (by rw[k.len];exact g) d]
theorem tV.vK{x:Nat}(c:x<n):sg (qO n D ks) (mt x)=mt (sg (qO n D ks) x):=by
 obtain⟨i,b,e,d⟩:=k.oF c;have a:i<ks.length:=by rw[k.len];exact b
 rw[d,<-e,<-k.oO i b,k.vJ (by rw[<-k.len];exact k.wd.gW a),k.wd.kW a]
theorem tV.wY{j:Nat}(c:j<n)(f:j<mp ks j):fD ks j=2 * oc ks j/\oc ks (j+1)=oc ks j+1:=by
 have b:j<ks.length:=by rw[k.len];exact c
 have a:ks.getD j 0 % 2=0:=by
  rcases k.nT c with d|d
  ·exact d.1
  ·omega
 refine⟨by unfold fD;rw[if_pos a],?_⟩;have e:=List.getElem?_eq_getElem b;rw[iQ e]at a;rw[Cm e,if_pos a]
theorem tV.yC{j:Nat}(c:j<n)(f:mp ks j<j):oc ks (j+1)=oc ks j:=by
 have a:j<ks.length:=by rw[k.len];exact c
 have b:ks.getD j 0 % 2=1:=by
  rcases k.nT c with d|d
  ·omega
  ·exact d.1
 have e:=List.getElem?_eq_getElem a;rw[iQ e]at b;rw[Cm e,if_neg (by omega)];rfl
end
end
