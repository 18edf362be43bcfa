import Derived.Test.YtalhcfjcbbkpgaaGreatZp13
set_option maxRecDepth 100000
set_option maxHeartbeats 4000000
namespace Go.Proofs.YtalhcfjcbbkpgaaGreat
section
open Go.RowKit
theorem Wy{w:World}{b:Nat}{s:List Nat}{rt:Int}{ln:Nat}{R:Nat->Prop}(t p l:Bool)(h:MapAt w b s rt ln R)(y:fV (jN s ln)=0)(a:List Nat->List Bool × Nat)(z:p8 t p l a (dY s rt))(A:fC ((dY s rt).map a)<=1000000)(B:∀k ∈ dY s rt,(a k).2<=1000000) :
  Calls Tryz.prog 12 #[.pointer (some ⟨b,0,none⟩),iL t p l] w fun e w'=>∃v,e=.returned (.tuple #[v,.int .i64 0])/\dZ w.heap.size w' v (jJ t p l ln ((dY s rt).map a) (jR s rt))/\(∃c,MapAt w' b s rt ln c/\∀x,c x->R x\/w.heap.size<=x)/\Keeps (fun k=>k=b) w w':=by
 have j:=(Keeps.refl (fun _=>False) w).alloc (.cells #[.bool t,.bool p,.bool l] 35);have i:=Wj t p l (h.keeps j (fun h=>h) (fun _ _ h=>h)) y a z A B;obtain⟨m,d⟩:∃m,m=jJ t p l ln ((dY s rt).map a) (jR s rt):=⟨_,rfl⟩
 obtain⟨C,f⟩:∃C,C=fC ((dY s rt).map a)+if l then (jR s rt).length else 0:=⟨_,rfl⟩
 rw[<-d,<-f]at i;rw[<-d];have o:=dh j;clear h j d f z A B y;unfold iL at i ⊢;go_enter Tryz.func12,Tryz.ntmps12;go_wp2_with fail;refine i.mono ?_;clear i;rintro e w1 ⟨v,rfl,u,⟨c,D,g⟩,E⟩;have F:Hid (dZ w.heap.size w1 v m/\(∃c,MapAt w1 b s rt ln c/\∀x,c x->R x\/w.heap.size<=x)/\Keeps (fun k=>k=b) w w1):=dh ⟨u.mono (fun q G=>by have I:=(u.lt q G).1;have:=o.out.size;omega),⟨c,D,fun x H=>(g x H).imp id (fun h=>by have:=o.out.size;omega)⟩,(o.out.mono (fun _ _ h=>h.elim):Keeps (fun k=>k=b) w _).trans E (fun _ _ h=>h)⟩;clear u E D g;go_wp2_with fail;refine bodyPost_ret (v:=.tuple #[v,.int .i64 0]) (by simp[results,Tryz.results12,go_sem]) rfl ?_;exact⟨v,rfl,F.out⟩
def wE(k:List Nat):List Bool × Nat:=(jT k,k.length / 2)
theorem OW(p l:Bool){ks:List (List Nat)}(h:kJ ks):p8 false p l wE ks:=fun k a _ _ _ b=>(UL p l b (h k a).1 (h k a).2).mono fun _ _ c=>c
theorem Wz(p:Bool)(ks:List (List Nat)):tH p (ks.map wE)=Jk p (ks.map jT):=by unfold tH Jk;rw[List.flatMap_map,List.flatMap_map];congr 1;funext k;unfold ou wE;simp only;rw[Ib,show 2 * k.length / 4=k.length / 2 by omega]
theorem JQ:∀(ks:List (List Nat)),fC (ks.map wE)=2 * ks.flatten.length
 | []=>rfl
 | k :: ks=>by
  have a:=JQ ks;have e:fC ((k :: ks).map wE)=(jT k).length+fC (ks.map wE):=by simp[fC,wE]
  rw[e,a,Ib,List.flatten_cons,List.length_append];omega
theorem WA{ks:List (List Nat)}{k:List Nat}(b:k ∈ ks):k.length<=ks.flatten.length:=by
 induction ks with
 | nil=>cases b
 | cons a ks c =>
  rw[List.flatten_cons,List.length_append];rcases List.mem_cons.1 b with rfl|h
  ·omega
  ·have:=c h;omega
def CK(p l:Bool)(ln:Nat)(ks:List (List Nat))(lab:List Bool):List Nat:=jJ false p l ln (ks.map wE) lab
def wG(p l:Bool)(ln:Nat)(ks:List (List Nat))(lab:List Bool):List Nat:=xR p ln (ks.map jT) ++ if l then fH lab else []
theorem WB(p l:Bool)(ln:Nat)(ks:List (List Nat))(lab:List Bool):oJ false p l ln (ks.map wE) lab=80 :: 81 :: um false p l :: wG p l ln ks lab:=by unfold oJ wG xR;rw[Wz,List.length_map,List.length_map];simp
section
variable (p l:Bool) (ln:Nat) (ks:List (List Nat)) (lab:List Bool)
theorem WC:CK p l ln ks lab=(80 :: 81 :: um false p l :: wG p l ln ks lab) ++ four (mO (80 :: 81 :: um false p l :: wG p l ln ks lab)):=by unfold CK jJ;rw[WB]
end
end
section
noncomputable def runN(S:Nat->Nat)(r j:Nat):Nat:=EF S (iN S r j) (oI S r j)
def lu(S:Nat->Nat)(r j y:Nat):Prop:=∃t,0<t/\t<runN S r j/\itr S t (iN S r j)=y
def zO(S:Nat->Nat)(r j v:Nat):Prop:=∃e,e ∈ jU S r j/\vnum S e=v
structure Goes (n:Nat)(S:Nat->Nat)(r j:Nat)(A:List Nat)(p q:Nat)(B:List Nat):Prop where
 es:jU S r j=A ++ p :: q :: B
 ne:B≠[]
 free:lS n S r (jU S r j) (fun v=>v ∈ iP S r j) q
 lf:iN S r j=mt p
 rt:oI S r j=q
 idx:fidx S (jU S r j)=A.length+1
 fst:uw S (jU S r j) (A.length+1)
 pos:0<runN S r j
 lt:runN S r j<per S (mt p)
 hit:itr S (runN S r j) (mt p)=q
 nx:jU S r (j+1)=A ++ (mI S (mt p) (runN S r j) ++ B)
section
variable {n:Nat} {S:Nat->Nat} (T:jO n S) {r:Nat} (hr:r<n) {N:Nat} (K:dJ n S r N)
include T hr K
theorem dJ.goes{j:Nat}(h:j<N):∃A p q B,Goes n S r j A p q B:=by
 obtain⟨A,p,q,B,M,d,i,hF,k,m,o,s,e,t,u,f,g⟩:=(K.shl j h).next T hr;have a:iN S r j=mt p:=by unfold iN;rw[t]
 have b:oI S r j=q:=u;have c:runN S r j=M:=by unfold runN;rw[a,b];exact e
 exact⟨A,p,q,B,d,i,k,a,b,f,hF,by rw[c];exact m,by rw[c];exact o,by rw[c];exact s,by rw[c];exact g⟩
theorem dJ.mW{j:Nat}(a:j<N):iN S r j<n:=by obtain⟨A,p,q,B,g⟩:=K.goes T hr a;rw[g.lf];exact T.mlt ((K.shl j a).lt p (by rw[g.es];simp))
theorem dJ.Ba{j:Nat}(a:j<N):oI S r j<n:=by obtain⟨A,p,q,B,g⟩:=K.goes T hr a;rw[g.rt];exact(K.shl j a).lt q (by rw[g.es];simp)
theorem dJ.tJ{j:Nat}(a:j<N):vnum S (iN S r j)=kX S r j:=by obtain⟨A,p,q,B,g⟩:=K.goes T hr a;unfold kX;rw[g.lf,g.rt];exact iJ.at (g.es ▸ (K.shl j a).path)
omit T hr in
theorem dJ.inj{i j:Nat}(b:i<N)(c:j<N)(h:kX S r i=kX S r j):i=j:=by
 have:=List.pairwise_iff_getElem.1 K.Nr;unfold iP at this;simp only [List.length_map,List.length_range,List.getElem_map,List.getElem_range]at this;rcases Nat.lt_trichotomy i j with a|d|a
 ·exact absurd h (this i j b c a)
 ·exact d
 ·exact absurd h.symm (this j i c b a)
theorem dJ.rZ{j:Nat}(a:j<N):0<runN S r j/\runN S r j<per S (iN S r j)/\itr S (runN S r j) (iN S r j)=oI S r j:=by obtain⟨A,p,q,B,g⟩:=K.goes T hr a;rw[g.lf,g.rt];exact⟨g.pos,g.lt,g.hit⟩
theorem dJ.ahead{j t:Nat}(k:j<N)(m:t<per S (iN S r j)):vnum S (mt (itr S t (iN S r j))) ∈ iP S r j↔runN S r j<t:=by
 obtain⟨A,p,q,B,g⟩:=K.goes T hr k;have I:=K.shl j k;obtain⟨M,D,x,o,f,c⟩:=I.run T hr g.es;have y:p ∈ jU S r j:=by rw[g.es];simp
 have s:q ∈ jU S r j:=by rw[g.es];simp
 have b:=T.mlt (I.lt p y);have z:runN S r j=M:=T.dR.fB b g.lt x (by rw[g.hit,o]);rw[g.lf]at m ⊢;rw[z];have h:vnum S (mt p)=vnum S q:=iJ.at (g.es ▸ I.path);have u:=T.dR.dW b t;have C:=(T.pE b t).trans h;constructor
 ·intro w;rcases Nat.lt_or_ge M t with d|d
  ·exact d
  ·exfalso;have i:eH S r (fun v=>v ∈ iP S r j) (mt (itr S t (mt p))):=.inr (.inl w);rcases(show t<M\/t=M by omega)with a|a
   ·exact(f t a).1 i
   ·have e:eH S r (fun v=>v ∈ iP S r j) (itr S t (mt p)):=.inr (.inr (.inl (by rw[T.vf u];exact w)));rw[a,o]at e;exact(I.fE s).1 e
 ·intro d;obtain⟨e,i⟩:=c t d m;rcases I.both _ u e i with a|a
  ·rw[C]at a;exact absurd a (I.live q s)
  ·exact a
theorem dJ.ins{j y:Nat}(c:j<N)(h:lu S r j y):y<n/\vnum S y=kX S r j/\vnum S (mt y) ∉ iP S r j/\¬zO S r j (vnum S (mt y))/\zO S r (j+1) (vnum S (mt y)):=by
 obtain⟨t,v,k,rfl⟩:=h;obtain⟨A,p,q,B,g⟩:=K.goes T hr c;have I:=K.shl j c;have m:p ∈ jU S r j:=by rw[g.es];simp
 have w:q ∈ jU S r j:=by rw[g.es];simp
 have a:=K.mW T hr c;have f:=T.dR.dW a t;have i:=(T.pE a t).trans (K.tJ T hr c);have b:t<per S (iN S r j):=by rw[g.lf];have:=g.lt;omega
 refine⟨f,i,fun o=>?_,?_,?_⟩
 ·have:=(K.ahead T hr c b).1 o;omega
 ·rintro⟨e,he,hee⟩;rcases I.lg T g.es g.free f (by rw[i];unfold kX;rw[g.rt]) he hee.symm with d|d
  ·rw[<-g.lf]at d;have:=T.dR.fB a b (show 0<per S (iN S r j) by omega) d;omega
  ·have s:itr S t (iN S r j)=itr S (runN S r j) (iN S r j):=by rw[d,g.lf,g.hit]
   have:=T.dR.fB a b (by rw[g.lf];exact g.lt) s;omega
 ·have u:mt (fc S (S (itr S t (mt p)))) ∈ mI S (mt p) (runN S r j):=Ea.2 ⟨t,k,rfl⟩;refine⟨mt (fc S (S (itr S t (mt p)))),by rw[g.nx];simp[u],?_⟩;rw[g.lf];exact(T.jo (T.dR.dW (T.mlt (I.lt p m)) t)).1
theorem dJ.hold{j v:Nat}(b:j<N)(h:zO S r j v):v=kX S r j\/zO S r (j+1) v:=by
 obtain⟨e,a,rfl⟩:=h;obtain⟨A,p,q,B,g⟩:=K.goes T hr b;have I:=K.shl j b;have c:p ∈ jU S r j:=by rw[g.es];simp
 rw[g.es,List.mem_append,List.mem_cons,List.mem_cons]at a;rcases a with a|rfl|rfl|a
 ·exact .inr ⟨e,by rw[g.nx];simp[a],rfl⟩
 ·refine .inr ⟨mt (fc S (S (mt e))),by rw[g.nx];have:=(Ea (S:=S) (d:=mt e)).2 ⟨0,g.pos,rfl⟩;simp only [itr]at this;simp[this],?_⟩;rw[(T.jo (T.mlt (I.lt e c))).1,dF]
 ·exact .inl (by unfold kX;rw[g.rt])
 ·exact .inr ⟨e,by rw[g.nx];simp[a],rfl⟩
theorem dJ.holds{i v:Nat}(h:zO S r i v):∀k,i+k<=N->v ∈ iP S r (i+k)\/zO S r (i+k) v
 | 0,_=>.inr h
 | k+1,c=>by
  rcases dJ.holds h k (by omega)with a|a
  ·refine .inl ?_;rw[show i+(k+1)=(i+k)+1 from rfl,Cj,List.mem_append];exact .inl a
  ·rcases K.hold T hr (show i+k<N by omega) a with b|b
   ·refine .inl ?_;rw[show i+(k+1)=(i+k)+1 from rfl,Cj,List.mem_append];exact .inr (by rw[b];simp)
   ·exact .inr b
theorem dJ.yj{i j x y:Nat}(b:i<N)(c:j<N)(d:lu S r i x)(e:lu S r j y)(h:vnum S (mt x)=vnum S (mt y)):x=y:=by
 have key:∀{i j x y:Nat},i<N->j<N->lu S r i x->lu S r j y->vnum S (mt x)=vnum S (mt y)->¬i<j:=by
  intro i j x y b c d e h g;obtain⟨-,-,-,-,k⟩:=K.ins T hr b d;obtain⟨-,-,m,o,-⟩:=K.ins T hr c e;rcases K.holds T hr k (j - (i+1)) (by omega)with a|a
  ·rw[show i+1+(j - (i+1))=j by omega,h]at a;exact m a
  ·rw[show i+1+(j - (i+1))=j by omega,h]at a;exact o a
 have f:i=j:=by have a:=key b c d e h;have v:=key c b e d h.symm;omega
 subst f;obtain⟨q,s,-⟩:=K.ins T hr b d;obtain⟨t,u,-⟩:=K.ins T hr c e;exact T.zm x y q t (by rw[s,u]) h
omit T hr in
theorem dJ.Fa{j:Nat}(b:j<N):zO S r j (vnum S r)/\zO S r j (vnum S (mt r)):=by
 have I:=K.shl j b;constructor
 ·rcases he:jU S r j with _|⟨a,l⟩
  ·have:=I.Iw;rw[he]at this;simp at this
  ·exact⟨a,by rw[he];simp,(I.zu a l he).symm⟩
 ·obtain⟨C,c⟩:=I.last;exact⟨mt r,by rw[c];simp,rfl⟩
end
def p9(S:Nat->Nat)(r v:Nat):Prop:=v=vnum S r\/v=vnum S (fc S r)\/v=vnum S (fc S (fc S r))
section
variable {n:Nat} {S:Nat->Nat} (T:jO n S) {r:Nat} (hr:r<n) {N:Nat} (K:dJ n S r N)
include T hr K
theorem dJ.nK{j y:Nat}(d:j<N)(h:lu S r j y):¬p9 S r (vnum S (mt y)):=by
 obtain⟨-,-,e,a,-⟩:=K.ins T hr d h;obtain⟨f,g⟩:=K.Fa d;rintro (b|b|b)
 ·rw[b]at a;exact a f
 ·rw[b,T.vf hr]at a;exact a g
 ·have i:zO S r 0 (vnum S (fc S (fc S r))):=⟨mt (fc S r),by simp[jU,es0],(T.vf (T.gD hr)).symm⟩
  rw[b]at e a;rcases K.holds T hr i j (by omega)with c|c
  ·rw[Nat.zero_add]at c;exact e c
  ·rw[Nat.zero_add]at c;exact a c
theorem dJ.first:iN S r 0=fc S (fc S r)/\oI S r 0=mt (fc S r)/\kX S r 0=vnum S (fc S (fc S r)):=by
 obtain⟨A,p,q,B,g⟩:=K.goes T hr K.pos;have h:=g.fst.1;have c:=g.fst.2.1;have e:A.length=0:=by rw[show jU S r 0=es0 S r from rfl]at c;simp[es0]at c;omega
 have f:A=[]:=List.eq_nil_of_length_eq_zero e;have a:=g.es;rw[f,show jU S r 0=es0 S r from rfl]at a;simp only [es0,List.nil_append,List.cons.injEq]at a;have d:=g.lf;have b:=g.rt;rw[<-a.1,dF]at d;rw[<-a.2.1]at b;exact⟨d,b,by unfold kX;rw[b];exact(T.vf (T.gD hr)).symm⟩
theorem dJ.entered:∀j,j<N->∀e,e ∈ jU S r j->p9 S r (vnum S e)\/∃i y,i<j/\lu S r i y/\vnum S (mt y)=vnum S e:=by
 intro j
 induction j with
 | zero =>
  intro _ e a;simp only [jU,es0,List.mem_cons,List.not_mem_nil,or_false]at a;rcases a with rfl|rfl|rfl
  ·exact .inl (.inl (T.zq hr))
  ·exact .inl (.inr (.inr (T.vf (T.gD hr)).symm))
  ·exact .inl (.inr (.inl (T.vf hr).symm))
 | succ j d =>
  intro x e a;have d:=d (by omega);have I:=K.shl j (by omega);obtain⟨A,p,q,B,g⟩:=K.goes T hr (show j<N by omega);have k:p ∈ jU S r j:=by rw[g.es];simp
  have h:=T.mlt (I.lt p k)
  have b:∀f,f ∈ jU S r j->vnum S f=vnum S e->p9 S r (vnum S e)\/∃i y,i<j+1/\lu S r i y/\vnum S (mt y)=vnum S e:=fun f o c=>by
   rcases d f o with m|⟨i,y,z,s,u⟩
   ·rw[c]at m;exact .inl m
   ·exact .inr ⟨i,y,by omega,s,by rw[u,c]⟩
  rw[g.nx,List.mem_append,List.mem_append]at a;rcases a with a|a|a
  ·exact b e (by rw[g.es];simp[a]) rfl
  ·obtain⟨t,v,rfl⟩:=Ea.1 a;have c:=(T.jo (T.dR.dW h t)).1;rcases Nat.eq_zero_or_pos t with rfl|w
   ·exact b p k (by rw[show itr S (0+1) (mt p)=S (itr S 0 (mt p))from rfl,c,show itr S 0 (mt p)=mt p from rfl,dF])
   ·exact .inr ⟨j,itr S t (mt p),by omega,⟨t,w,v,by rw[g.lf]⟩,by rw[show itr S (t+1) (mt p)=S (itr S t (mt p))from rfl,c]⟩
  ·exact b e (by rw[g.es];simp[a]) rfl
theorem dJ.parent{j:Nat}(b:j<N)(c:¬p9 S r (kX S r j)):∃i y,i<j/\lu S r i y/\vnum S (mt y)=kX S r j:=by
 obtain⟨A,p,q,B,g⟩:=K.goes T hr b;have d:q ∈ jU S r j:=by rw[g.es];simp
 have a:kX S r j=vnum S q:=by unfold kX;rw[g.rt]
 rw[a]at c ⊢;exact(K.entered T hr j b q d).resolve_left c
theorem dJ.yt{j:Nat}(a:j<N)(d:¬p9 S r (kX S r j)):runN S r j+1<per S (iN S r j):=by obtain⟨i,y,b,e,f⟩:=K.parent T hr a d;obtain⟨g,h,-⟩:=K.ins T hr (show i<N by omega) e;have c:=K.mW T hr a;obtain⟨t,k,m⟩:=T.turn c (T.mlt g) (by rw[K.tJ T hr a,f]);have o:=(K.ahead T hr a k).1 (by rw[m,dF,h];exact oO.2 ⟨i,b,rfl⟩);omega
theorem dJ.CO{i j:Nat}(a:i<N)(b:j<N)(h:iN S r i=iN S r j):i=j :=
 K.inj a b (by rw[<-K.tJ T hr a,<-K.tJ T hr b,h])
theorem dJ.Bc{i j:Nat}(a:i<N)(c:j<N):iN S r i≠oI S r j:=fun h=>by have d:i=j:=K.inj a c (by rw[<-K.tJ T hr a,h];rfl);subst d;obtain⟨f,e,b⟩:=K.rZ T hr a;rw[<-h]at b;have:=T.dR.fB (K.mW T hr a) e (show 0<per S (iN S r i) by omega) b;omega
theorem dJ.lC{i j x:Nat}(u:i<N)(b:j<N)(h:lu S r i (mt x)):x≠iN S r j/\x≠oI S r j:=by
 obtain⟨v,m,o,w,y⟩:=K.ins T hr u h;rw[dF]at o w y;obtain⟨A,B,z⟩:=K.rZ T hr b;have c:=K.mW T hr b
 have key:∀t,t<=runN S r j->x=itr S t (iN S r j)->False:=fun t C q=>by
  have a:vnum S x=kX S r j:=by rw[q,T.pE c t,K.tJ T hr b]
  have d:i<j:=by
   rcases Nat.lt_or_ge i j with f|g
   ·exact f
   ·exfalso;rcases Nat.eq_or_lt_of_le g with k|k
    ·subst k;have:=T.loop _ v;rw[m,dF,a]at this;exact this rfl
    ·exact o (by rw[a];exact oO.2 ⟨j,k,rfl⟩)
  have s:vnum S (mt x) ∈ iP S r j:=by rw[m];exact oO.2 ⟨i,d,rfl⟩
  rw[q]at s;have:=(K.ahead T hr b (by omega)).1 s;omega
 exact⟨fun e=>key 0 (by omega) e,fun e=>key _ (Nat.le_refl _) (by rw[z];exact e)⟩
end
def uD(S:Nat->Nat)(r x:Nat):Prop:=p9 S r (vnum S x)/\p9 S r (vnum S (mt x))
noncomputable def qo(S:Nat->Nat)(r N J x:Nat):Int:=open Classical in
 if uD S r x then -1
 else if ∃j,J<=j/\j<N/\x=iN S r j then 1
 else if ∃j,J<=j/\j<N/\x=oI S r j then 2
 else if ∃j,J<=j/\j<N/\lu S r j (mt x)then 0
 else -1
noncomputable def tK(S:Nat->Nat)(r:Nat)(o:List Int)(dc:Nat × Int):List Int:=open Classical in if uD S r dc.1 then o else o.set dc.1 dc.2
noncomputable def jK(S:Nat->Nat)(r n N J:Nat):List Int:=(List.range n).map (qo S r N J)
noncomputable def Bd(S:Nat->Nat)(r j:Nat):List (Nat × Int):=(iN S r j,1) :: ((List.range (runN S r j - 1)).map (fun t=>(mt (itr S (t+1) (iN S r j)),(0:Int))) ++ [(oI S r j,2)])
theorem OX{S:Nat->Nat}{r:Nat}(o:List Int)(a:Nat × Int):(tK S r o a).length=o.length:=by unfold tK;split <;> simp
theorem OY{S:Nat->Nat}{r:Nat}:∀(l:List (Nat × Int)) (o:List Int),(l.foldl (tK S r) o).length=o.length
 | [],_=>rfl
 | a :: l,o=>by rw[List.foldl_cons,OY l,OX]
theorem GX{S:Nat->Nat}{r x:Nat}:∀(l:List (Nat × Int)) (o:List Int),(uD S r x\/∀a ∈ l,a.1≠x)->(l.foldl (tK S r) o)[x]? = o[x]?
 | [],_,_=>rfl
 | a :: l,o,h=>by
  rw[List.foldl_cons,GX l _ (h.imp id (fun h b d=>h b (List.mem_cons_of_mem _ d)))];unfold tK;split
  ·rfl
  ·rename_i e
   have c:a.1≠x:=by
    rcases h with h|h
    ·rintro rfl;exact e h
    ·exact h a (by simp)
   rw[List.getElem?_set_ne c]
theorem GY{S:Nat->Nat}{r x:Nat}{c:Int}(d:¬uD S r x):∀(l:List (Nat × Int)) (o:List Int),(l.map Prod.fst).Nodup->(x,c) ∈ l->x<o.length->(l.foldl (tK S r) o)[x]? = some c
 | [],_,_,h,_=>by cases h
 | i :: l,o,a,h,f=>by
  rw[List.map_cons,List.nodup_cons]at a;rw[List.foldl_cons];rcases List.mem_cons.1 h with h|h
  ·subst h;rw[GX l _ (.inr (fun b g e=>a.1 (List.mem_map.2 ⟨b,g,e⟩)))];unfold tK;rw[if_neg d,List.getElem?_set_self f]
  ·exact GY d l _ a.2 h (by rw[OX];exact f)
section
variable {n:Nat} {S:Nat->Nat} (T:jO n S) {r:Nat} (hr:r<n) {N:Nat} (K:dJ n S r N)
include T hr K
theorem dJ.qp{j:Nat}(g:j<N):(Bd S r j).foldl (tK S r) (jK S r n N (j+1))=jK S r n N j:=by
 obtain⟨O,Q,R⟩:=K.rZ T hr g;have C:=K.mW T hr g;have h:∀t,t<runN S r j - 1->lu S r j (mt (mt (itr S (t+1) (iN S r j)))):=fun t s=>⟨t+1,by omega,by omega,by rw[dF]⟩
 have f:((Bd S r j).map Prod.fst).Nodup:=by
  unfold Bd;rw[List.map_cons,List.map_append,List.map_map,List.nodup_cons,List.nodup_append];refine⟨fun u=>?_,?_,by simp,fun a D b z w=>?_⟩
  ·rcases List.mem_append.1 u with u|u
   ·obtain⟨t,s,d⟩:=List.mem_map.1 u;have d:mt (itr S (t+1) (iN S r j))=iN S r j:=d;exact(K.lC T hr g g (h t (List.mem_range.1 s))).1 d
   ·simp at u;exact K.Bc T hr g g u
  ·rw[List.Nodup,List.pairwise_iff_getElem];intro a b D z w d;simp only [List.length_map,List.length_range]at D z;simp only [List.getElem_map,List.getElem_range,Function.comp_apply]at d;have d:itr S (a+1) (iN S r j)=itr S (b+1) (iN S r j):=by rw[<-dF (itr S (a+1) _),d,dF]
   have:=T.dR.fB C (by omega) (by omega) d;omega
  ·obtain⟨t,s,d⟩:=List.mem_map.1 D;have d:mt (itr S (t+1) (iN S r j))=a:=d;simp at z;exact(K.lC T hr g g (h t (List.mem_range.1 s))).2 (by rw[d,w,z])
 apply List.ext_getElem?;intro x;by_cases A:x<n
 ·have E:∀J,(jK S r n N J)[x]? = some (qo S r N J x):=fun J=>by simp[jK,A]
  have k:(jK S r n N (j+1)).length=n:=by simp[jK]
  rw[E];by_cases o:uD S r x
  ·rw[GX _ _ (.inl o),E];unfold qo;rw[if_pos o,if_pos o]
  ·by_cases B:x=iN S r j
   ·rw[GY (c:=1) o _ _ f (by rw[B];simp[Bd]) (by rw[k];exact A)];unfold qo;rw[if_neg o,if_pos ⟨j,Nat.le_refl _,g,B⟩]
   ·by_cases y:x=oI S r j
    ·rw[GY (c:=2) o _ _ f (by rw[y];simp[Bd]) (by rw[k];exact A)];unfold qo;rw[if_neg o,if_neg (by rintro⟨i,_,hi,d⟩;exact K.Bc T hr hi g (by rw[<-d,y])),if_pos ⟨j,Nat.le_refl _,g,y⟩]
    ·by_cases v:lu S r j (mt x)
     ·obtain⟨t,U,V,G⟩:=id v;rw[GY (c:=0) o _ _ f (by unfold Bd;refine List.mem_cons_of_mem _ (List.mem_append.2 (.inl (List.mem_map.2 ⟨t - 1,List.mem_range.2 (by omega),?_⟩)));rw[show t - 1+1=t by omega,G,dF]) (by rw[k];exact A)];unfold qo;rw[if_neg o,if_neg (by rintro⟨i,_,hi,d⟩;exact(K.lC T hr g hi v).1 d),if_neg (by rintro⟨i,_,hi,d⟩;exact(K.lC T hr g hi v).2 d),if_pos ⟨j,Nat.le_refl _,g,v⟩]
     ·rw[GX _ _ (.inr (fun W m d=>by
       unfold Bd at m;rcases List.mem_cons.1 m with m|m
       ·rw[m]at d;exact B d.symm
       ·rcases List.mem_append.1 m with m|m
        ·obtain⟨t,s,F⟩:=List.mem_map.1 m;rw[<-F]at d;have:=h t (List.mem_range.1 s);rw[show mt (itr S (t+1) (iN S r j))=x from d]at this;exact v this
        ·simp at m;rw[m]at d;exact y d.symm)),E]
      have q:∀P:Nat->Prop,¬P j->((∃i,j+1<=i/\i<N/\P i)↔∃i,j<=i/\i<N/\P i):=fun P H =>
       ⟨fun ⟨i,a,b,c⟩=>⟨i,by omega,b,c⟩,fun ⟨i,a,b,c⟩=>⟨i,by
        rcases Nat.eq_or_lt_of_le a with e|e
        ·subst e;exact absurd c H
        ·exact e,b,c⟩⟩
      congr 1;unfold qo;have I:(∃i,j+1<=i/\i<N/\x=iN S r i)=∃i,j<=i/\i<N/\x=iN S r i:=propext (q (fun i=>x=iN S r i) B);have L:(∃i,j+1<=i/\i<N/\x=oI S r i)=∃i,j<=i/\i<N/\x=oI S r i:=propext (q (fun i=>x=oI S r i) y);have M:(∃i,j+1<=i/\i<N/\lu S r i (mt x))=∃i,j<=i/\i<N/\lu S r i (mt x):=propext (q (fun i=>lu S r i (mt x)) v);rw[I,L,M]
 ·rw[List.getElem?_eq_none (by rw[OY];simp[jK];omega),List.getElem?_eq_none (by simp[jK];omega)]
omit T hr K in
theorem WE:jK S r n N N=List.replicate n (-1):=by unfold jK;rw[List.eq_replicate_iff];refine⟨by simp,fun b a=>?_⟩;obtain⟨x,_,rfl⟩:=List.mem_map.1 a;unfold qo;rw[if_neg (c:=∃j,N<=j/\j<N/\x=iN S r j) (by rintro⟨j,h1,h2,-⟩;omega),if_neg (c:=∃j,N<=j/\j<N/\x=oI S r j) (by rintro⟨j,h1,h2,-⟩;omega),if_neg (c:=∃j,N<=j/\j<N/\lu S r j (mt x)) (by rintro⟨j,h1,h2,-⟩;omega)];split <;> rfl
end
noncomputable def col(S:Nat->Nat)(r N x:Nat):Int:=qo S r N 0 x
section
variable {n:Nat} {S:Nat->Nat} (T:jO n S) {r:Nat} (hr:r<n) {N:Nat} (K:dJ n S r N)
include T hr K
theorem dJ.JR{x:Nat}:col S r N x=0↔∃j,j<N/\lu S r j (mt x):=by
 unfold col qo;constructor
 ·intro h;split at h
  ·cases h
  ·split at h
   ·cases h
   ·split at h
    ·cases h
    ·split at h
     ·rename_i d;obtain⟨j,_,a,b⟩:=d;exact⟨j,a,b⟩
     ·cases h
 ·rintro⟨j,a,b⟩;have c:=K.nK T hr a b;rw[dF]at c;rw[if_neg (fun h=>c h.1),if_neg (by rintro⟨i,_,hi',he⟩;exact(K.lC T hr a hi' b).1 he),if_neg (by rintro⟨i,_,hi',he⟩;exact(K.lC T hr a hi' b).2 he),if_pos ⟨j,Nat.zero_le _,a,b⟩]
omit T hr K in
theorem zP{x:Nat}:col S r N x=1↔¬uD S r x/\∃j,j<N/\x=iN S r j:=by
 unfold col qo;constructor
 ·intro h;split at h
  ·cases h
  ·rename_i a;split at h
   ·rename_i d;obtain⟨j,_,b,c⟩:=d;exact⟨a,j,b,c⟩
   ·split at h
    ·cases h
    ·split at h <;> cases h
 ·rintro⟨a,j,b,c⟩;rw[if_neg a,if_pos ⟨j,Nat.zero_le _,b,c⟩]
end
end
