import Derived.Test.YtalhcfjcbbkpgaaGreatZt12
set_option maxRecDepth 100000
set_option maxHeartbeats 4000000
namespace Go.Proofs.YtalhcfjcbbkpgaaGreat
section
def kZ(a:Bool)(q:List Bool × Nat):List Nat:=mZ q.2 ++ mP a q.1
def rD(a:Bool)(b:List (List Bool × Nat)):List Nat:=b.flatMap (kZ a)
def eX(a:List (List Bool × Nat)):Nat:=(a.map fun q=>q.1.length).sum
def qz(t p l:Bool)(ln:Nat)(a:List (List Bool × Nat))(lab:List Bool):List Nat:=([80,81] ++ [uJ t p l] ++ mZ ln ++ mZ a.length ++ rD p a) ++ if l then gH lab else []
def jH(t p l:Bool)(ln:Nat)(a:List (List Bool × Nat))(lab:List Bool):List Nat:=qz t p l ln a lab ++ four (lC (qz t p l ln a lab))
theorem Kr(a:Bool)(l:List Bool):(mP a l).length<=(l.length+7) / 8+1:=by have:=Tz a l 9;rw[CK]at this;exact this
theorem WT(a:Bool)(q:List Bool × Nat)(h:q.2<=1000000):(kZ a q).length<=q.1.length+12:=by have b:=Kr a q.1;have c:=xW (x:=q.2) (by omega);unfold kZ;rw[List.length_append];omega
theorem WU(a:Bool)(b:List (List Bool × Nat))(q:List Bool × Nat):rD a (b ++ [q])=rD a b ++ kZ a q:=by simp[rD]
theorem WV(a:List (List Bool × Nat))(q:List Bool × Nat):eX (a ++ [q])=eX a+q.1.length:=by simp[eX]
theorem PI(a:List (List Bool × Nat))(i:Nat):eX (a.take i)<=eX a:=by
 conv=>rhs;rw[<-List.take_append_drop i a]
 unfold eX;rw[List.map_append,List.sum_append];omega
theorem Kt(a:Bool):∀(b:List (List Bool × Nat)),(∀q ∈ b,q.2<=1000000)->(rD a b).length<=eX b+12 * b.length
 | [],_=>by simp[rD,eX]
 | q :: b,h=>by
  have g:=WT a q (h q (by simp));have i:=Kt a b (fun x c=>h x (by simp[c]));have d:rD a (q :: b)=kZ a q ++ rD a b:=by simp[rD]
  have e:eX (q :: b)=q.1.length+eX b:=by simp[eX]
  rw[d,e,List.length_append,List.length_cons];omega
theorem WW(a:Bool)(d:List (List Bool × Nat)):∀b ∈ rD a d,b<256:=fun b c=>by
 unfold rD at c;rw[List.mem_flatMap]at c;obtain⟨q,_,c⟩:=c;unfold kZ at c;rcases List.mem_append.1 c with h|h
 ·exact qe _ _ h
 ·exact Tv a _ _ h
theorem Ku(t p l:Bool)(ln:Nat)(a:List (List Bool × Nat))(lab:List Bool):∀b ∈ qz t p l ln a lab,b<256:=fun b c=>by
 unfold qz at c;have d:=Ua t p l;rcases List.mem_append.1 c with h|h
 ·rcases List.mem_append.1 h with h|h
  ·rcases List.mem_append.1 h with h|h
   ·rcases List.mem_append.1 h with h|h
    ·simp at h;omega
    ·exact qe _ _ h
   ·exact qe _ _ h
  ·exact WW p a b h
 ·cases l
  ·simp at h
  ·exact I6 _ _ h
theorem FK{s:List Nat}{rt:Int}{ln:Nat}(i:dU s.length (sg s))(j:s.length % 2=0)(l:fU (jG s ln)=0)(m:(s.length=0/\rt=-1)\/(0<=rt/\rt<s.length)):jL (eu s rt)/\(eu s rt).flatten.length=s.length/\(kC s rt).length=s.length/\dU s.length (sg (kC s rt))/\(∀d,d<s.length->sg (kC s rt) (mt d)=mt (sg (kC s rt) d))/\(∀d,d<s.length->sg (iy ((eu s rt).map dM)) (sg (kC s rt) d)=sg (kC s rt) (sg s d))/\(0<s.length->sg (kC s rt) rt.toNat=0):=by
 by_cases a:s.length=0
 ·have c:eu s rt=[]:=by unfold eu;rw[if_pos a]
  have e:kC s rt=[]:=by unfold kC;rw[if_pos a]
  rw[c,e,a];exact⟨fun k o=>by simp at o,rfl,rfl,GX _,fun d b=>by omega,fun d b=>by omega,fun h=>by omega⟩
 ·obtain⟨r,rfl⟩:∃r:Nat,rt=r:=⟨rt.toNat,by omega⟩
  have hr:r<s.length:=by omega
  have c:eu s (r:Nat)=fQ s r:=by unfold eu;rw[if_neg a];simp
  have e:kC s (r:Nat)=qO s.length (DA s (lV s r)) (fQ s r).flatten:=by unfold kC;rw[if_neg a];simp
  obtain⟨k,p⟩:=walks_all i j l hr;have g:=k.vM (by omega);rw[p]at g;rw[c,e];refine⟨k.ok,k.len,DR _ _ _,k.uM,fun d b=>k.vK b,fun d b=>k.vL b,fun _=>?_⟩;rw[Int.toNat_natCast];exact g
theorem WX{n:Nat}{P:Nat->Nat}(h:dU n P)(b:n % 2=0)(e:∀d,d<n->P (mt d)=mt (P d)){d:Nat}(a:d<n):iq P (mt d)=mt (iq P d):=by have c:=h.eZ a;refine h.inj _ _ (h.eZ (dR b a)) (dR b c) ?_;rw[h.gD (dR b a),e _ c,h.gD a]
theorem Kv{s:List Nat}{d:Nat}(a:d<s.length):sg (lQ s) d=iq (sg s) d:=by simp[sg,lQ,a]
noncomputable def lG(s:List Nat)(rt:Int):List Bool:=oV (s.length / 2) (fun e=>sg (lQ (kC s rt)) (2 * e)) (s.length / 2)
end
section
section
variable {n:Nat} {S0 S f:Nat->Nat}
theorem jB.WY(T:jB n S0)(t:dU n S)(i:dU n f)(o:∀d,d<n->S (f d)=f (S0 d))(l:∀d,d<n->f (mt d)=mt (f d))(A:0<n)(u:n / 2+1<=dY S n+dY (fun d=>S (mt d)) n):jB n S:=by
 have B:∀k d,d<n->dN S k (f d)=f (dN S0 k d):=by
  intro k d E
  induction k with
  | zero=>rfl
  | succ k F =>
   show S (dN S k (f d))=f (S0 (dN S0 k d));rw[F,o _ (T.dW.eD E k)]
 have v:∀x y,x<n->y<n->(dB S (f x)=dB S (f y)↔dB S0 x=dB S0 y):=fun x y c j=>by
  rw[t.eY (i.lt _ c) (i.lt _ j),T.dW.eY c j];constructor
  ·rintro⟨k,hk⟩;rw[B k x c]at hk;exact⟨k,i.inj _ _ (T.dW.eD c k) j hk⟩
  ·rintro⟨k,hk⟩;exact⟨k,by rw[B k x c,hk]⟩
 have G:∀x y,x<n->y<n->dJ n S (f x) (f y):=fun x y c j P w p =>
  (T.conn x y c j (fun z=>z<n/\P (f z)) ⟨c,w⟩ (fun z _ h=>⟨⟨T.dW.lt _ h.1,by rw[<-o z h.1];exact(p _ (i.lt _ h.1) h.2).1⟩,⟨dR T.even h.1,by rw[l z h.1];exact(p _ (i.lt _ h.1) h.2).2⟩⟩)).2
 have q:∀x y,x<n->y<n->dJ n S x y:=fun x y c j=>by obtain⟨a,g,rfl⟩:=i.back c;obtain⟨b,m,rfl⟩:=i.back j;exact G a b g m
 refine⟨t,T.even,q,OE t T.even A (fun x c=>q 0 x A c) u,fun x c=>?_,fun x c=>?_,fun x y c j s r=>?_⟩
 ·obtain⟨a,g,rfl⟩:=i.back c;have s:=dR T.even g;have r:=T.dW.lt _ s;have C:=dR T.even r;have D:=T.dW.lt _ C;have H:=dR T.even D;rw[<-l a g,o _ s,<-l _ r,o _ C,<-l _ D,o _ H,T.tri a g]
 ·obtain⟨a,g,rfl⟩:=i.back c;rw[<-l a g];exact fun e=>T.loop a g ((v _ _ g (dR T.even g)).1 e)
 ·obtain⟨a,g,rfl⟩:=i.back c;obtain⟨b,m,rfl⟩:=i.back j;rw[<-l a g,<-l b m]at r;rw[T.xI a b g m ((v _ _ g m).1 s) ((v _ _ (dR T.even g) (dR T.even m)).1 r)]
end
theorem jB.Kw{s:List Nat}(T:jB s.length (sg s))(b:0<s.length)(o:fU (jG s 0)=0):jl s 0:=by
 have p:=T.even;have a:∀e,mt (2 * e)=2 * e+1:=fun e=>by unfold mt;rw[if_pos (by omega)]
 have z:=JF T.dW T.even b (fun x q=>T.conn 0 x b q);have A:3<=dY (sg s) s.length:=by have i:=T.gJ b;have k:=T.gJ i;have r:=T.loop 0 b;have t:=T.loop _ i;have u:=T.loop _ k;rw[<-T.vf b]at r;rw[<-T.vf i]at t;rw[<-T.vf k,T.f3 b]at u;have B:=T.dW.fT b;have C:=T.dW.fT i;have D:=T.dW.fT k;omega
 refine⟨by omega,by omega,o,⟨Fp.2 (fun e v h=>?_),DU.2 (fun e g v w m j E=>?_)⟩,fun d l=>⟨T.tri d l,fun h=>?_⟩⟩
 ·have:=T.loop (2 * e) (by omega);rw[a]at this;exact this h
 ·have y:∀e,mt (2 * e+1)=2 * e:=fun e=>by unfold mt;rw[if_neg (by omega)];omega
  by_cases c:eA s e=eA s g
  ·have:=T.xI (2 * e) (2 * g) (by omega) (by omega) c (by rw[a,a];show eB s e=eB s g;omega);omega
  ·have:=T.xI (2 * e) (2 * g+1) (by omega) (by omega) (by show eA s e=eB s g;omega) (by rw[a,y];show eB s e=eA s g;omega);omega
 ·have m:=T.loop d l;have j:=T.vf l;unfold fc at j;rw[h]at j;exact m j
theorem jl.word{s:List Nat}{rt:Int}{l:Nat}(r:dU s.length (sg s))(x:s.length % 2=0)(y:jl s l)(t:(s.length=0/\rt=-1)\/(0<=rt/\rt<s.length)) :
  ∃k,eu s rt=[k]/\k.length=s.length/\jl (dM k) 0/\dY (sg (dM k)) (dM k).length=dY (sg s) s.length:=by
 obtain⟨B,C,T⟩:=y.Bw r x;subst B;obtain⟨z,e,D,j,u,b,-⟩:=FK r x y.2.2.1 t;have hr:rt.toNat<s.length:=by omega
 have A:eu s rt=[wK s rt.toNat]:=by have m:(lV s rt.toNat).tail=[]:=List.eq_nil_iff_forall_not_mem.2 (fun d g=>by obtain⟨a,-,c⟩:=Fh g;exact c (T.conn _ d hr a));have h:lV s rt.toNat=rt.toNat :: (lV s rt.toNat).tail:=rfl;unfold eu fQ;rw[if_neg (by omega),h,m];rfl
 rw[A]at z e b;generalize wK s rt.toNat=k at *;have v:=z k (by simp);have o:k.length=s.length:=by simpa using e
 have w:=v.1.wd;have g:=oL k;have p:iy ([k].map dM)=dM k:=by show dM k ++ (iy []).map _=dM k;simp[iy]
 rw[p]at b;have q:=w.wZ v.2;have i:=w.gL;rw[g,o]at q i;have E:=T.WY i j b u C (by rw[g,o]at *;exact q);have F:=(w.p8 v.2).2;refine⟨k,A,o,jB.Kw (by rw[g,o];exact E) (by rw[g];omega) F,by rw[g,o];exact Bq i r j b⟩
end
