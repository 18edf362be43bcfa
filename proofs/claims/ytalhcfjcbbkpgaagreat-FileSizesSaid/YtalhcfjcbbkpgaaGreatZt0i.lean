import Derived.Test.YtalhcfjcbbkpgaaGreatZt0h
set_option maxRecDepth 100000
set_option maxHeartbeats 4000000
namespace Go.Proofs.YtalhcfjcbbkpgaaGreat
section
open Go.RowKit
def fU(ps:List (List Int)):Int:=(ps.map fun p=>p.getD 4 0).sum
theorem Jk{ps:List (List Int)}{j:Nat}{p:List Int}(h:ps[j]? = some p):fU (ps.take (j+1))=fU (ps.take j)+p.getD 4 0:=by unfold fU;rw[pE h,List.map_append,List.sum_append];simp
def EL(ps:List (List Int)):Prop:=∀p ∈ ps,∃a b c z3 z4:Int,p=[a,b,c,z3,z4]/\-9000000<=z4/\z4<=9000000
theorem Nw{ps:List (List Int)}(h:EL ps):∀j,j<=ps.length->-9000000 * (j:Int)<=fU (ps.take j)/\fU (ps.take j)<=9000000 * (j:Int):=by
 intro j
 induction j with
 | zero=>intro _;simp[fU]
 | succ j b =>
  intro d;obtain⟨e,f⟩:=b (by omega);have a:=List.getElem?_eq_getElem (l:=ps) (i:=j) (by omega);rw[Jk a];obtain⟨g,k,m,z3,z4,c,o,p⟩:=h _ (List.mem_of_getElem? a);rw[c];simp only [List.getD_cons_succ,List.getD_cons_zero];omega
theorem Ny(s:List Nat)(b:s.length<=1000000)(lone:Nat):EL (jG s lone):=by
 intro p a;rcases List.mem_append.1 a with a|a
 ·obtain⟨d,_,rfl⟩:=List.mem_map.1 a;have c:=zP s (iV s) (eF s.length (sg s) d) s.length;have e:=zP (dS s) (iV s) (eF s.length (sg s) d) s.length;have f:=MO (iV s) (eF s.length (sg s) d) s.length;refine⟨_,_,_,_,_,rfl,?_⟩;unfold vk CF CG Bc;exact MP (M:=9000000) (by omega) (by omega)
 ·obtain⟨_,rfl⟩:=List.mem_replicate.1 a;exact⟨_,_,_,_,_,rfl,by decide,by decide⟩
theorem DI(s:List Nat)(lone:Nat):(jG s lone).length=dZ s.length (sg s) s.length+lone:=by unfold jG;rw[List.length_append,vw,List.length_replicate]
theorem q3z(sv:Value)(rt:Int)(lone:Nat)(s:List Nat)(w:World)(I:Sl .i64 w sv (dD s))(J:dU s.length (sg s))(R:s.length % 2=0)(K:s.length<=1000000)(A:lone<=1000000) :
  Calls Tryz.prog 17 #[.agg #[sv,.int .i64 rt,.int .i64 lone]] w fun e w'=>e=.returned (.int .i64 (fU (jG s lone)))/\Keeps (fun _=>False) w w':=by
 have B:Keeps (fun _=>False) w (w.alloc (.cells #[sv,.int .i64 rt,.int .i64 lone] 27)):=(Keeps.refl _ w).alloc _;have d:pK w.heap.size sv rt lone (w.alloc (.cells #[sv,.int .i64 rt,.int .i64 lone] 27)):=heap_alloc_new w _;have o:=MQ sv rt lone s _ (I.keeps B (fun _ _ h=>h)) J R K A;have C:=Ny s K lone;have hn:(jG s lone).length<=2000000:=by rw[DI];have:=xG s.length (sg s) s.length;omega
 have U:=d.cell;have V:(w.alloc (.cells #[sv,.int .i64 rt,.int .i64 lone] 27)).cell? ⟨w.heap.size,1,none⟩=some (.int .i64 rt):=dw d 1;have X:(w.alloc (.cells #[sv,.int .i64 rt,.int .i64 lone] 27)).cell? ⟨w.heap.size,2,none⟩=some (.int .i64 lone):=dw d 2;have D:=dh B;generalize jG s lone=ps at *;clear I J d B;go_enter Tryz.func17,Tryz.ntmps17;go_wp2_with fail;refine o.mono ?_;rintro e w1 ⟨pv,rfl,b,q⟩;obtain⟨Y,Z,rfl⟩:=b.form;have HO:Hid (∀W,Keeps (fun _=>False) w1 W->Own5 97 (w.alloc (.cells #[sv,.int .i64 rt,.int .i64 lone] 27)).heap.size W (.slice Y ps.length Z) ps):=dh (fun W f=>b.keeps f (fun _ _ h=>h));have t:=D.out.trans q (fun _ _ h=>h);have E:=dh (dn C (dn (Nw C) t));have L:=Keeps.refl (fun _=>False) w1;clear o b q t U V X C;generalize M:ps.length=N at *;have F:=dh M;clear M;go_wp2_with fail;go_loopg [3,9] N (fun m c i wr=>∃j:Nat,j<=N/\m=N - j/\i=.int .i64 j/\c=.int .i64 (fU (ps.take j))/\Keeps (fun _=>False) w1 wr)
 case atStart=>exact⟨0,Nat.zero_le _,rfl,rfl,rfl,L⟩
 case round =>
  clear L;obtain⟨j,hj,u,rfl,rfl,f⟩:=hrel;have HG:=dh u;clear u;obtain⟨aa,ab⟩:=E.out.2.1 j hj;by_cases v:j<N
  ·have x:=List.getElem?_eq_getElem (l:=ps) (i:=j) (by rw[F.out];exact v);obtain⟨p,y⟩:∃p,p=ps[j]'(by rw[F.out];exact v):=⟨_,rfl⟩
   rw[<-y]at x;clear y;obtain⟨H,O,P,z3,z4,rfl,ad,ae⟩:=E.out.1 p (List.mem_of_getElem? x);have k:=Jk x;simp only [List.getD_cons_succ,List.getD_cons_zero]at k;obtain⟨g,cap,Q,a⟩:=(HO.out wr f).cell x;simp only [Value.slice.injEq]at Q;obtain⟨rfl,-,rfl⟩:=Q;have d0:wr.cell? ⟨g,j * 5,none⟩=some (.int .i64 H):=a 0 H rfl;have d1:=a 1 O rfl;have d2:=a 2 P rfl;have d3:=a 3 z3 rfl;have d4:=a 4 z4 rfl;have z:=dh (dn k (f.alloc (.cells #[.int .i64 H,.int .i64 O,.int .i64 P,.int .i64 z3,.int .i64 z4] 97)));clear k f a x;generalize fU (ps.take j)=S at *;go_wp2;go_roundg (N - (j+1))
   case measure=>rw[HG.out];omega
   case rel=>exact⟨j+1,by omega,rfl,by go_num,by rw[z.out.1],z.out.2⟩
  ·obtain rfl:j=N:=by omega
   rw[List.take_of_length_le (by rw[F.out];exact Nat.le_refl _)];have z:=dh (E.out.2.2.trans f (fun _ _ h=>h));clear f;go_wp2;go_ret;exact⟨rfl,z.out⟩
def wO(s:List Nat)(lone:Nat)(rt:Int)(ks:List Nat)(c:Nat):Prop :=
 (dZ s.length (sg s) s.length+lone≠1/\c=8/\ks=[]) \/
 (dZ s.length (sg s) s.length+lone=1/\fU (jG s lone)≠0/\c=7/\ks=[]) \/
 (dZ s.length (sg s) s.length+lone=1/\fU (jG s lone)=0/\c=0/\s.length=0/\ks=[]) \/
 (dZ s.length (sg s) s.length+lone=1/\fU (jG s lone)=0/\c=0/\∃root T:Nat,rt=root/\root<s.length/\jS s.length (sg s) (dB (sg s)) root T/\ks=jJ (fC (sg s) (dB (sg s)) root T).2)
end
section
def uK(S:Nat->Nat)(es:List Nat)(i:Nat):Prop:=1<=i/\i+1<es.length/\zi S es (es.getD i 0)=2/\∀j,1<=j->j<i->zi S es (es.getD j 0)≠2
noncomputable def fidx(S:Nat->Nat)(es:List Nat):Nat:=open Classical in if h:∃i,uK S es i then h.choose else 0
theorem uK.eq{S:Nat->Nat}{es:List Nat}{i:Nat}(h:uK S es i):fidx S es=i:=by
 have a:∃i,uK S es i:=⟨i,h⟩
 unfold fidx;rw[dif_pos a];have c:=a.choose_spec;generalize a.choose=k at *;rcases Nat.lt_trichotomy k i with b|rfl|b
 ·exact absurd c.2.2.1 (h.2.2.2 k c.1 b)
 ·rfl
 ·exact absurd h.2.2.1 (c.2.2.2 i h.1 b)
noncomputable def EM(S:Nat->Nat)(a b:Nat):Nat:=open Classical in if h:∃m,m<per S a/\dN S m a=b then h.choose else 0
theorem qn{n:Nat}{S:Nat->Nat}(h:dU n S){a b m:Nat}(f:a<n)(d:m<per S a)(e:dN S m a=b):EM S a b=m:=by
 have c:∃m,m<per S a/\dN S m a=b:=⟨m,d,e⟩
 unfold EM;rw[dif_pos c];exact h.fE f c.choose_spec.1 d (by rw[c.choose_spec.2,e])
noncomputable def Jl(S:Nat->Nat)(es:List Nat):List Nat :=
 es.take (fidx S es - 1) ++ (mX S (mt (es.getD (fidx S es - 1) 0)) (EM S (mt (es.getD (fidx S es - 1) 0)) (es.getD (fidx S es) 0)) ++ es.drop (fidx S es+1))
section
variable {n:Nat} {S:Nat->Nat} {r:Nat} {es:List Nat} {G:Nat->Prop} (h:Shl n S r es G) (T:jB n S) (hr:r<n)
include h T hr
theorem Shl.next:∃A p q B M,es=A ++ p :: q :: B/\B≠[]/\uK S es (A.length+1)/\mD n S r es G q/\0<M/\M<per S (mt p)/\dN S M (mt p)=q/\EM S (mt p) q=M /\
  es.getD (fidx S es - 1) 0=p/\es.getD (fidx S es) 0=q/\fidx S es=A.length+1/\Jl S es=A ++ (mX S (mt p) M ++ B):=by
 have hcut:∀i,1<=i->i+1<es.length->∃A p q B,es=A ++ p :: q :: B/\B≠[]/\A.length+1=i/\es.getD i 0=q:=by
  intro i t u;obtain⟨k,rfl⟩:∃k,i=k+1:=⟨i - 1,by omega⟩
  have E:es.drop k=es[k] :: es[k+1] :: es.drop (k+2):=by rw[List.drop_eq_getElem_cons (by omega),List.drop_eq_getElem_cons (by omega)]
  refine⟨es.take k,es[k],es[k+1],es.drop (k+2),?_,?_,?_,?_⟩
  ·rw[<-E,List.take_append_drop]
  ·intro F;have:=congrArg List.length F;simp at this;omega
  ·rw[List.length_take];omega
  ·rw[List.getD_eq_getElem?_getD,List.getElem?_eq_getElem (by omega),Option.getD_some]
 obtain⟨A0,L,v,N,b,e,l⟩:=h.zV T hr;have m:es.getD (A0.length+1) 0=v:=by rw[b,List.getD_eq_getElem?_getD];simp
 have Uc:1<=A0.length+1/\A0.length+1+1<es.length/\zi S es (es.getD (A0.length+1) 0)=2:=by
  refine⟨by omega,?_,?_⟩
  ·rw[b];have:=List.length_pos_iff.2 e;simp;omega
  ·rw[m];exact(h.yu T b e (h.lt v (by rw[b];simp)) rfl).2 l
 obtain⟨i,w,O,o,H⟩:=open Classical in BP (fun i=>zi S es (es.getD i 0)=2) 1 A0.length (by rw[Nat.add_comm];exact Uc.2.2);have hF:uK S es i:=⟨w,by omega,o,fun j t u=>H j t u⟩
 obtain⟨A,p,q,B,a,x,c,f⟩:=hcut i w (by omega);have I:p ∈ es:=by rw[a];simp
 have J:q ∈ es:=by rw[a];simp
 obtain⟨M,K,y,z,-,-⟩:=h.run T hr a;have g:=qn T.dW (T.mlt (h.lt p I)) y z;have s:mD n S r es G q:=by rw[f]at o;exact(h.yu T a x (h.lt q J) rfl).1 o
 have d:=hF.eq;have C:es.getD (fidx S es - 1) 0=p:=by rw[d,<-c,a,List.getD_eq_getElem?_getD];simp
 have D:es.getD (fidx S es) 0=q:=by rw[d];exact f
 refine⟨A,p,q,B,M,a,x,by rw[c];exact hF,s,K,y,z,g,C,D,by rw[d,c],?_⟩;unfold Jl;rw[C,D,g,d,<-c,a];congr 1
 ·simp
 ·congr 1;rw[show A.length+1+1=A.length+2 by omega,List.drop_append];simp
end
noncomputable def j3(S:Nat->Nat)(r:Nat):Nat->List Nat
 | 0=>es0 S r
 | j+1=>Jl S (j3 S r j)
noncomputable def oW(S:Nat->Nat)(r j:Nat):Nat:=(j3 S r j).getD (fidx S (j3 S r j)) 0
noncomputable def iY(S:Nat->Nat)(r j:Nat):Nat:=mt ((j3 S r j).getD (fidx S (j3 S r j) - 1) 0)
noncomputable def lI(S:Nat->Nat)(r j:Nat):Nat:=dB S (oW S r j)
noncomputable def iZ(S:Nat->Nat)(r j:Nat):List Nat:=(List.range j).map (lI S r)
theorem CZ(S:Nat->Nat)(r j:Nat):iZ S r (j+1)=iZ S r j ++ [lI S r j]:=by unfold iZ;rw[List.range_succ,List.map_append];rfl
theorem o9{S:Nat->Nat}{r j v:Nat}:v ∈ iZ S r j↔∃i,i<j/\lI S r i=v:=by unfold iZ;rw[List.mem_map];exact⟨fun ⟨i,h1,h2⟩=>⟨i,List.mem_range.1 h1,h2⟩,fun ⟨i,h1,h2⟩=>⟨i,List.mem_range.2 h1,h2⟩⟩
theorem Nz{n:Nat}{S:Nat->Nat}{v:Nat}(e:v<dY S n):∃x,x<n/\dB S x=v:=by
 have b:∀m,m<=n->v<dY S m->∃x,x<m/\dB S x=v:=by
  intro m
  induction m with
  | zero=>intro _ f;rw[Q0]at f;omega
  | succ m d =>
   intro j a;rw[qW]at a;by_cases hr:rep S m=m
   ·rw[if_pos hr]at a;by_cases g:v<dY S m
    ·obtain⟨x,i,c⟩:=d (by omega) g;exact⟨x,by omega,c⟩
    ·exact⟨m,by omega,by unfold dB;rw[hr];omega⟩
   ·rw[if_neg hr]at a;obtain⟨x,i,c⟩:=d (by omega) a;exact⟨x,by omega,c⟩
 exact b n (Nat.le_refl _) e
structure dL (n:Nat)(S:Nat->Nat)(r N:Nat):Prop where
 shl:∀j,j<N->Shl n S r (j3 S r j) (fun v=>v ∈ iZ S r j)
 two:∃a b,j3 S r N=[a,b]
 pos:0<N
 NA:(iZ S r N).Nodup
 all:∀x,x<n->dB S x ∈ iZ S r N\/dB S x=dB S r\/dB S x=dB S (mt r)
 one:dB S r ∉ iZ S r N
 DJ:dB S (mt r) ∉ iZ S r N
 cnt:N+2=dY S n
section
variable {n:Nat} {S:Nat->Nat} (T:jB n S) {r:Nat} (hr:r<n)
include T hr
theorem jB.pq:∃N,dL n S r N:=by
 obtain⟨P,Z⟩:∃P:Nat->Prop,P=fun j=>(j3 S r j).length<3:=⟨_,rfl⟩
 have s:∀j,(∀i,i<=j->3<=(j3 S r i).length)->Shl n S r (j3 S r j) (fun v=>v ∈ iZ S r j):=by
  intro j
  induction j with
  | zero =>
   intro _;have:(fun v=>v ∈ iZ S r 0)=fun _=>False:=by funext v;simp[iZ]
   rw[this];exact Shl.init T hr
  | succ j ih =>
   intro e;have I:=ih (fun i z=>e i (by omega));obtain⟨A,p,q,B,M,d,U,hF,hq,m0,m1,V,E,g1,F,H,g⟩:=I.next T hr;have h3:=e (j+1) (Nat.le_refl _);have D:j3 S r (j+1)=A ++ (mX S (mt p) M ++ B):=g;rw[D]at h3 ⊢;have:=I.step T hr d U hq m1 V h3
   have e2:(fun v=>v ∈ iZ S r (j+1))=fun v=>v ∈ iZ S r j\/v=dB S q:=by
    funext v;have:lI S r j=dB S q:=by unfold lI oW;rw[F]
    rw[CZ,List.mem_append,List.mem_singleton,this]
   rw[e2];exact this
 have k:∀j,(∀i,i<j->3<=(j3 S r i).length)->(iZ S r j).Nodup/\∀v ∈ iZ S r j,v<dY S n:=by
  intro j
  induction j with
  | zero=>intro _;simp[iZ]
  | succ j ih =>
   intro e;obtain⟨c,h2⟩:=ih (fun i z=>e i (by omega));have I:=s j (fun i z=>e i (by omega));obtain⟨A,p,q,B,M,d,U,hF,hq,m0,m1,V,E,g1,F,H,g⟩:=I.next T hr;have t:q ∈ j3 S r j:=by rw[d];simp
   have D:lI S r j=dB S q:=by unfold lI oW;rw[F]
   rw[CZ,D];refine⟨List.nodup_append.2 ⟨c,by simp,fun a ha b W aa=>?_⟩,fun v l=>?_⟩
   ·rw[List.mem_singleton]at W;rw[aa,W]at ha;exact I.live q t ha
   ·rcases List.mem_append.1 l with l|l
    ·exact h2 v l
    ·rw[List.mem_singleton]at l;rw[l];exact T.dW.fT (I.lt q t)
 have J:∃j,P j:=by apply Classical.byContradiction;intro u;have e:∀i,3<=(j3 S r i).length:=fun i=>Nat.not_lt.1 (fun ab=>u ⟨i,by rw[Z];exact ab⟩);obtain⟨c,h2⟩:=k (dY S n+1) (fun i _=>e i);have:=BQ _ _ c h2;simp[iZ]at this;omega
 obtain⟨j0,hj0⟩:=J;obtain⟨N,-,-,f,K⟩:=open Classical in BP P 0 j0 (by rw[Nat.zero_add];exact hj0);have e:∀i,i<N->3<=(j3 S r i).length:=fun i z=>by have:=K i (Nat.zero_le _) z;rw[Z]at this;exact Nat.not_lt.1 this
 have f:(j3 S r N).length<3:=by rw[Z]at f;exact f
 have L:0<N:=by
  rcases Nat.eq_zero_or_pos N with h0|h0
  ·rw[h0]at f;simp[j3,es0]at f
  ·exact h0
 obtain⟨m,hm⟩:∃m,N=m+1:=⟨N - 1,by omega⟩
 have I:=s m (fun i z=>e i (by omega));obtain⟨A,p,q,B,M,d,U,hF,hq,m0,m1,V,E,g1,F,H,g⟩:=I.next T hr;have D:j3 S r N=A ++ (mX S (mt p) M ++ B):=by rw[hm];exact g
 have ad:=List.length_pos_iff.2 U;rw[D]at f;simp only [List.length_append,Jb]at f;have hA:A=[]:=List.eq_nil_of_length_eq_zero (by omega);have hM:M=1:=by omega
 obtain⟨b,W⟩:∃b,B=[b]:=by
  match B,ad,f with
  | [b],_,_=>exact⟨b,rfl⟩
  | _ :: _ :: _,_,f=>simp at f;omega
 subst hA hM W;have d:j3 S r m=[p,q,b]:=d;have t:q ∈ j3 S r m:=by rw[d];simp
 have w:iZ S r N=iZ S r m ++ [dB S q]:=by rw[hm,CZ];unfold lI oW;rw[F]
 have O:=I.fin T hr d V;have Q:dB S r=dB S p:=I.zU p _ d;have R:b=mt r:=by obtain⟨C,X⟩:=I.last;rw[d,show [p,q,b]=[p,q] ++ [b]from rfl]at X;have:=(List.append_inj' X rfl).2;simpa using this
 obtain⟨n1,n2⟩:=k N e;have Y:=I.dist;rw[d]at Y;simp at Y
 have o1:dB S r ∉ iZ S r N:=by
  rw[w,List.mem_append,List.mem_singleton,Q];rintro (c|c)
  ·exact I.live p (by rw[d];simp) c
  ·exact Y.1.1 c
 have o2:dB S (mt r) ∉ iZ S r N:=by
  rw[w,List.mem_append,List.mem_singleton,<-R];rintro (c|c)
  ·exact I.live b (by rw[d];simp) c
  ·exact Y.2 c.symm
 have o:∀x,x<n->dB S x ∈ iZ S r N\/dB S x=dB S r\/dB S x=dB S (mt r):=by
  intro x hx;rw[w,List.mem_append,List.mem_singleton,Q,<-R];rcases O x hx with c|c|c|c
  ·exact .inl (.inl c)
  ·exact .inr (.inl c)
  ·exact .inl (.inr c)
  ·exact .inr (.inr c)
 refine⟨N,fun j hj=>s j (fun i z=>e i (by omega)),⟨_,_,by rw[D];rfl⟩,L,n1,o,o1,o2,?_⟩;have y:=T.loop r hr
 have X:(dB S r :: dB S (mt r) :: iZ S r N).Nodup:=by
  rw[List.nodup_cons,List.nodup_cons];refine⟨fun u=>?_,o2,n1⟩;rcases List.mem_cons.1 u with u|u
  ·exact y u
  ·exact o1 u
 have c:=vY X (List.nodup_range (n:=dY S n)) (fun v=>by
  rw[List.mem_range,List.mem_cons,List.mem_cons];constructor
  ·rintro (c|c|c)
   ·rw[c];exact T.dW.fT hr
   ·rw[c];exact T.dW.fT (T.mlt hr)
   ·exact n2 v c
  ·intro l;obtain⟨x,hx,rfl⟩:=Nz l;rcases o x hx with c|c|c
   ·exact .inr (.inr c)
   ·exact .inl c
   ·exact .inr (.inl c))
 simp[iZ]at c;omega
end
end
