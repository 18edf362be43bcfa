import Derived.Test.YtalhcfjcbbkpgaaGreatZt10
import Derived.Test.YtalhcfjcbbkpgaaGreatZt11
import Derived.Test.YtalhcfjcbbkpgaaGreatZt0x
set_option maxRecDepth 100000
set_option maxHeartbeats 4000000
namespace Go.Proofs.YtalhcfjcbbkpgaaGreat
section
open Go.RowKit
noncomputable def eu(s:List Nat)(rt:Int):List (List Nat):=if s.length=0 then []else fQ s rt.toNat
noncomputable def kC(s:List Nat)(rt:Int):List Nat:=if s.length=0 then []else qO s.length (DA s (lV s rt.toNat)) (fQ s rt.toNat).flatten
def J9(n:Nat):Int:=if n=0 then -1 else 0
def Ko(w:World)(b:Nat)(s:List Nat)(rt ln:Int)(R:Nat->Prop)(e:Ending)(w':World):Prop :=
 ∃c a f g d,e=.returned (.tuple #[.pointer (some ⟨c,0,none⟩),.pointer (some ⟨a,0,none⟩),.int .i64 0]) /\
  MapAt w' c (iy ((eu s rt).map dM)) (J9 s.length) ln g/\kY w' a f (kC s rt)/\MapAt w' b s rt ln d /\
  (c≠a/\¬g a)/\(b≠a/\¬d a/\∀x,d x->R x\/w.heap.size<=x)/\w.heap.size<=a/\(∀k,f.ownBlock=some k->w.heap.size<=k)/\Keeps (fun k=>k=b) w w'
theorem WL{w:World}{b:Nat}{rt ln:Int}{R:Nat->Prop}(h:MapAt w b [] rt ln R) :
  Calls Tryz.prog 31 #[.pointer (some ⟨b,0,none⟩)] w fun e w'=>∃a m,e=.returned (.tuple #[.pointer (some ⟨b,0,none⟩),.pointer (some ⟨a,0,none⟩),.int .i64 0])/\kY w' a m []/\w.heap.size<=a/\(∀k,m.ownBlock=some k->w.heap.size<=k)/\Keeps (fun _=>False) w w':=by
 have E:Hid (∀W,Keeps (fun _=>False) w W->MapAt W b [] rt ln R):=dh (fun W o=>h.keeps o (fun h=>h) (fun _ _ h=>h));have z:=(Keeps.refl (fun _=>False) w).alloc (.cells #[.int .i64 (-1)] 3);have f:dI w.heap.size (w.alloc (.cells #[.int .i64 (-1)] 3)) (.slice (some ⟨w.heap.size,0,none⟩) 1 1) [-1]:=by refine⟨rfl,.inr ⟨w.heap.size,1,#[.int .i64 (-1)],rfl,Nat.le_refl _,heap_alloc_new w _,Nat.le_refl _,by decide,?_,?_⟩⟩ <;> simp[ints]
 have A:=vH (E.out _ z);have j:=GV (.slice (some ⟨w.heap.size,0,none⟩) 1 1) (-1) 0 _ f.sl (by omega);have p:∀W,Keeps (fun _=>False) w W->Calls Tryz.prog 75 #[.pointer (some ⟨b,0,none⟩)] W fun e w'=>e=.returned (.slice none 0 0)/\W=w':=by intro W o;have A:=vH (E.out _ o);clear j f z h;go_enter Tryz.func75,Tryz.ntmps75;go_wp2_with fail;refine A.mono ?_;rintro e w' ⟨rfl,rfl⟩;go_wp2;go_ret;exact⟨rfl,rfl⟩
 have H:=dh z;clear h f z;go_enter Tryz.func31,Tryz.ntmps31;go_wp2_with fail;refine A.mono ?_;rintro e w' ⟨rfl,rfl⟩;clear A;go_wp2_with fail;refine j.mono ?_;rintro e w1 ⟨g,rfl,I⟩;clear j;obtain⟨zs,B,rfl,d,q⟩:=I;have l:=H.out.trans q (fun _ _ h=>h);have s:=p w1 l;have t:=EN (.slice (some ⟨g,0,none⟩) 0 0) [] w1 d.sl dU.none (by simp);have F:=dh l;clear p B d q l;go_wp2_with fail;refine s.mono ?_;rintro e w' ⟨rfl,rfl⟩;clear s;go_wp2_with fail;go_loopw [6,26] (fun c i wr=>i=.int .i64 0/\c=.int .i64 0/\w1=wr) (fun _ i _=>1 - (intOf i).toNat)
 case atStart=>exact⟨rfl,rfl,rfl⟩
 case round =>
  obtain⟨rfl,rfl,rfl⟩:=hrel;go_wp2_with fail;refine t.mono ?_;rintro e G ⟨a,m,rfl,u,C,x,y⟩;have D:=F.out.size;have J:Hid (kY G a m []/\w.heap.size<=a/\(∀k,m.ownBlock=some k->w.heap.size<=k)/\Keeps (fun _=>False) w G):=dh ⟨u,by omega,fun k o=>by have:=x k o;omega,F.out.trans y (fun _ _ h=>h)⟩;clear t u C x y D;go_wp2;refine bodyPost_ret (v:=.tuple #[.pointer (some ⟨b,0,none⟩),.pointer (some ⟨a,0,none⟩),.int .i64 0]) (by simp[results,Tryz.results31,go_sem]) rfl ?_;exact⟨a,m,rfl,J.out⟩
theorem WO{w:World}{b:Nat}{s:List Nat}{rt:Int}{ln:Nat}{R:Nat->Prop}(h:MapAt w b s rt ln R)(z:fU (jG s ln)=0) :
  Calls Tryz.prog 31 #[.pointer (some ⟨b,0,none⟩)] w (Ko w b s rt ln R):=by
 by_cases g:s.length=0
 ·obtain rfl:s=[]:=List.eq_nil_of_length_eq_zero g
  have l:rt=-1:=by
   rcases h.rt with⟨_,i⟩|⟨i,A⟩
   ·exact i
   ·simp at A;omega
  subst l;refine(WL h).mono ?_;rintro e w' ⟨m,o,rfl,p,c,d,f⟩;have v:=h.keeps f (fun h=>h) (fun _ _ h=>h);have q:=h.lt;exact⟨b,m,o,R,R,rfl,v,p,v,⟨by omega,fun a=>by have:=h.old _ a;omega⟩,⟨by omega,fun a=>by have:=h.old _ a;omega,fun x a=>.inl a⟩,c,d,f.mono (fun _ _ h=>h.elim)⟩
 ·obtain⟨r,rfl⟩:∃r:Nat,rt=r:=by
   rcases h.rt with⟨i,_⟩|⟨i,_⟩
   ·exact absurd i g
   ·exact⟨rt.toNat,by omega⟩
  refine(WH h (by omega) z).mono ?_;rintro e w' ⟨B,C,m,o,rfl,t,D,p,c,y,d,⟨E,u,j⟩,f⟩;have q:=h.lt;have F:eu s (r:Nat)=fQ s r:=by unfold eu;rw[if_neg g];simp
  have G:kC s (r:Nat)=qO s.length (DA s (lV s r)) (fQ s r).flatten:=by unfold kC;rw[if_neg g];simp
  have H:J9 s.length=0:=by unfold J9;rw[if_neg g]
  refine⟨C,m,o,_,E,rfl,by rw[F,H];exact t,by rw[G];exact p,u,⟨by omega,fun a=>by have:=a.1;omega⟩,⟨by omega,fun a=>by have:=(j _ a).1;omega,fun x a=>(j x a).2⟩,c,fun k f=>(d k f).1,f⟩
end
section
noncomputable def runN(S:Nat->Nat)(r j:Nat):Nat:=EM S (iY S r j) (oW S r j)
def lT(S:Nat->Nat)(r j y:Nat):Prop:=∃t,0<t/\t<runN S r j/\dN S t (iY S r j)=y
def Ag(S:Nat->Nat)(r j v:Nat):Prop:=∃e,e ∈ j3 S r j/\dB S e=v
structure Goes (n:Nat)(S:Nat->Nat)(r j:Nat)(A:List Nat)(p q:Nat)(B:List Nat):Prop where
 es:j3 S r j=A ++ p :: q :: B
 ne:B≠[]
 free:mD n S r (j3 S r j) (fun v=>v ∈ iZ S r j) q
 lf:iY S r j=mt p
 rt:oW S r j=q
 idx:fidx S (j3 S r j)=A.length+1
 fst:uK S (j3 S r j) (A.length+1)
 pos:0<runN S r j
 lt:runN S r j<per S (mt p)
 hit:dN S (runN S r j) (mt p)=q
 nx:j3 S r (j+1)=A ++ (mX S (mt p) (runN S r j) ++ B)
section
variable {n:Nat} {S:Nat->Nat} (T:jB n S) {r:Nat} (hr:r<n) {N:Nat} (K:dL n S r N)
include T hr K
theorem dL.goes{j:Nat}(h:j<N):∃A p q B,Goes n S r j A p q B:=by
 obtain⟨A,p,q,B,M,d,i,hF,k,l,m,o,e,s,t,f,g⟩:=(K.shl j h).next T hr;have a:iY S r j=mt p:=by unfold iY;rw[s]
 have b:oW S r j=q:=t;have c:runN S r j=M:=by unfold runN;rw[a,b];exact e
 exact⟨A,p,q,B,d,i,k,a,b,f,hF,by rw[c];exact l,by rw[c];exact m,by rw[c];exact o,by rw[c];exact g⟩
theorem dL.nC{j:Nat}(a:j<N):iY S r j<n:=by obtain⟨A,p,q,B,g⟩:=K.goes T hr a;rw[g.lf];exact T.mlt ((K.shl j a).lt p (by rw[g.es];simp))
theorem dL.BF{j:Nat}(a:j<N):oW S r j<n:=by obtain⟨A,p,q,B,g⟩:=K.goes T hr a;rw[g.rt];exact(K.shl j a).lt q (by rw[g.es];simp)
theorem dL.tZ{j:Nat}(a:j<N):dB S (iY S r j)=lI S r j:=by obtain⟨A,p,q,B,g⟩:=K.goes T hr a;unfold lI;rw[g.lf,g.rt];exact iW.at (g.es ▸ (K.shl j a).path)
omit T hr in
theorem dL.inj{i j:Nat}(b:i<N)(c:j<N)(h:lI S r i=lI S r j):i=j:=by
 have:=List.pairwise_iff_getElem.1 K.NA;unfold iZ at this;simp only [List.length_map,List.length_range,List.getElem_map,List.getElem_range]at this;rcases Nat.lt_trichotomy i j with a|d|a
 ·exact absurd h (this i j b c a)
 ·exact d
 ·exact absurd h.symm (this j i c b a)
theorem dL.sJ{j:Nat}(a:j<N):0<runN S r j/\runN S r j<per S (iY S r j)/\dN S (runN S r j) (iY S r j)=oW S r j:=by obtain⟨A,p,q,B,g⟩:=K.goes T hr a;rw[g.lf,g.rt];exact⟨g.pos,g.lt,g.hit⟩
theorem dL.ahead{j t:Nat}(k:j<N)(l:t<per S (iY S r j)):dB S (mt (dN S t (iY S r j))) ∈ iZ S r j↔runN S r j<t:=by
 obtain⟨A,p,q,B,g⟩:=K.goes T hr k;have I:=K.shl j k;obtain⟨M,C,w,m,f,c⟩:=I.run T hr g.es;have x:p ∈ j3 S r j:=by rw[g.es];simp
 have o:q ∈ j3 S r j:=by rw[g.es];simp
 have b:=T.mlt (I.lt p x);have y:runN S r j=M:=T.dW.fE b g.lt w (by rw[g.hit,m]);rw[g.lf]at l ⊢;rw[y];have h:dB S (mt p)=dB S q:=iW.at (g.es ▸ I.path);have s:=T.dW.eD b t;have z:=(T.pU b t).trans h;constructor
 ·intro u;rcases Nat.lt_or_ge M t with d|d
  ·exact d
  ·exfalso;have i:eT S r (fun v=>v ∈ iZ S r j) (mt (dN S t (mt p))):=.inr (.inl u);rcases(show t<M\/t=M by omega)with a|a
   ·exact(f t a).1 i
   ·have e:eT S r (fun v=>v ∈ iZ S r j) (dN S t (mt p)):=.inr (.inr (.inl (by rw[T.vf s];exact u)));rw[a,m]at e;exact(I.fF o).1 e
 ·intro d;obtain⟨e,i⟩:=c t d l;rcases I.both _ s e i with a|a
  ·rw[z]at a;exact absurd a (I.live q o)
  ·exact a
theorem dL.ins{j y:Nat}(c:j<N)(h:lT S r j y):y<n/\dB S y=lI S r j/\dB S (mt y) ∉ iZ S r j/\¬Ag S r j (dB S (mt y))/\Ag S r (j+1) (dB S (mt y)):=by
 obtain⟨t,u,k,rfl⟩:=h;obtain⟨A,p,q,B,g⟩:=K.goes T hr c;have I:=K.shl j c;have l:p ∈ j3 S r j:=by rw[g.es];simp
 have v:q ∈ j3 S r j:=by rw[g.es];simp
 have a:=K.nC T hr c;have f:=T.dW.eD a t;have i:=(T.pU a t).trans (K.tZ T hr c);have b:t<per S (iY S r j):=by rw[g.lf];have:=g.lt;omega
 refine⟨f,i,fun m=>?_,?_,?_⟩
 ·have:=(K.ahead T hr c b).1 m;omega
 ·rintro⟨e,he,hee⟩;rcases I.lN T g.es g.free f (by rw[i];unfold lI;rw[g.rt]) he hee.symm with d|d
  ·rw[<-g.lf]at d;have:=T.dW.fE a b (show 0<per S (iY S r j) by omega) d;omega
  ·have o:dN S t (iY S r j)=dN S (runN S r j) (iY S r j):=by rw[d,g.lf,g.hit]
   have:=T.dW.fE a b (by rw[g.lf];exact g.lt) o;omega
 ·have s:mt (fc S (S (dN S t (mt p)))) ∈ mX S (mt p) (runN S r j):=Ey.2 ⟨t,k,rfl⟩;refine⟨mt (fc S (S (dN S t (mt p)))),by rw[g.nx];simp[s],?_⟩;rw[g.lf];exact(T.jw (T.dW.eD (T.mlt (I.lt p l)) t)).1
theorem dL.hold{j v:Nat}(b:j<N)(h:Ag S r j v):v=lI S r j\/Ag S r (j+1) v:=by
 obtain⟨e,a,rfl⟩:=h;obtain⟨A,p,q,B,g⟩:=K.goes T hr b;have I:=K.shl j b;have c:p ∈ j3 S r j:=by rw[g.es];simp
 rw[g.es,List.mem_append,List.mem_cons,List.mem_cons]at a;rcases a with a|rfl|rfl|a
 ·exact .inr ⟨e,by rw[g.nx];simp[a],rfl⟩
 ·refine .inr ⟨mt (fc S (S (mt e))),by rw[g.nx];have:=(Ey (S:=S) (d:=mt e)).2 ⟨0,g.pos,rfl⟩;simp only [dN]at this;simp[this],?_⟩;rw[(T.jw (T.mlt (I.lt e c))).1,dG]
 ·exact .inl (by unfold lI;rw[g.rt])
 ·exact .inr ⟨e,by rw[g.nx];simp[a],rfl⟩
theorem dL.holds{i v:Nat}(h:Ag S r i v):∀k,i+k<=N->v ∈ iZ S r (i+k)\/Ag S r (i+k) v
 | 0,_=>.inr h
 | k+1,c=>by
  rcases dL.holds h k (by omega)with a|a
  ·refine .inl ?_;rw[show i+(k+1)=(i+k)+1 from rfl,CZ,List.mem_append];exact .inl a
  ·rcases K.hold T hr (show i+k<N by omega) a with b|b
   ·refine .inl ?_;rw[show i+(k+1)=(i+k)+1 from rfl,CZ,List.mem_append];exact .inr (by rw[b];simp)
   ·exact .inr b
theorem dL.yK{i j x y:Nat}(b:i<N)(c:j<N)(d:lT S r i x)(e:lT S r j y)(h:dB S (mt x)=dB S (mt y)):x=y:=by
 have f:∀{i j x y:Nat},i<N->j<N->lT S r i x->lT S r j y->dB S (mt x)=dB S (mt y)->¬i<j:=by
  intro i j x y b c d e h k;obtain⟨-,-,-,-,l⟩:=K.ins T hr b d;obtain⟨-,-,m,o,-⟩:=K.ins T hr c e;rcases K.holds T hr l (j - (i+1)) (by omega)with a|a
  ·rw[show i+1+(j - (i+1))=j by omega,h]at a;exact m a
  ·rw[show i+1+(j - (i+1))=j by omega,h]at a;exact o a
 have g:i=j:=by have a:=f b c d e h;have u:=f c b e d h.symm;omega
 subst g;obtain⟨p,q,-⟩:=K.ins T hr b d;obtain⟨s,t,-⟩:=K.ins T hr c e;exact T.xI x y p s (by rw[q,t]) h
omit T hr in
theorem dL.FJ{j:Nat}(b:j<N):Ag S r j (dB S r)/\Ag S r j (dB S (mt r)):=by
 have I:=K.shl j b;constructor
 ·rcases he:j3 S r j with _|⟨a,l⟩
  ·have:=I.I8;rw[he]at this;simp at this
  ·exact⟨a,by rw[he];simp,(I.zU a l he).symm⟩
 ·obtain⟨C,c⟩:=I.last;exact⟨mt r,by rw[c];simp,rfl⟩
end
def qp(S:Nat->Nat)(r v:Nat):Prop:=v=dB S r\/v=dB S (fc S r)\/v=dB S (fc S (fc S r))
section
variable {n:Nat} {S:Nat->Nat} (T:jB n S) {r:Nat} (hr:r<n) {N:Nat} (K:dL n S r N)
include T hr K
theorem dL.nW{j y:Nat}(d:j<N)(h:lT S r j y):¬qp S r (dB S (mt y)):=by
 obtain⟨-,-,e,a,-⟩:=K.ins T hr d h;obtain⟨f,g⟩:=K.FJ d;rintro (b|b|b)
 ·rw[b]at a;exact a f
 ·rw[b,T.vf hr]at a;exact a g
 ·have i:Ag S r 0 (dB S (fc S (fc S r))):=⟨mt (fc S r),by simp[j3,es0],(T.vf (T.gJ hr)).symm⟩
  rw[b]at e a;rcases K.holds T hr i j (by omega)with c|c
  ·rw[Nat.zero_add]at c;exact e c
  ·rw[Nat.zero_add]at c;exact a c
theorem dL.first:iY S r 0=fc S (fc S r)/\oW S r 0=mt (fc S r)/\lI S r 0=dB S (fc S (fc S r)):=by
 obtain⟨A,p,q,B,g⟩:=K.goes T hr K.pos;have h:=g.fst.1;have c:=g.fst.2.1;have e:A.length=0:=by rw[show j3 S r 0=es0 S r from rfl]at c;simp[es0]at c;omega
 have f:A=[]:=List.eq_nil_of_length_eq_zero e;have a:=g.es;rw[f,show j3 S r 0=es0 S r from rfl]at a;simp only [es0,List.nil_append,List.cons.injEq]at a;have d:=g.lf;have b:=g.rt;rw[<-a.1,dG]at d;rw[<-a.2.1]at b;exact⟨d,b,by unfold lI;rw[b];exact(T.vf (T.gJ hr)).symm⟩
theorem dL.entered:∀j,j<N->∀e,e ∈ j3 S r j->qp S r (dB S e)\/∃i y,i<j/\lT S r i y/\dB S (mt y)=dB S e:=by
 intro j
 induction j with
 | zero =>
  intro _ e a;simp only [j3,es0,List.mem_cons,List.not_mem_nil,or_false]at a;rcases a with rfl|rfl|rfl
  ·exact .inl (.inl (T.zT hr))
  ·exact .inl (.inr (.inr (T.vf (T.gJ hr)).symm))
  ·exact .inl (.inr (.inl (T.vf hr).symm))
 | succ j d =>
  intro w e a;have d:=d (by omega);have I:=K.shl j (by omega);obtain⟨A,p,q,B,g⟩:=K.goes T hr (show j<N by omega);have k:p ∈ j3 S r j:=by rw[g.es];simp
  have h:=T.mlt (I.lt p k)
  have b:∀f,f ∈ j3 S r j->dB S f=dB S e->qp S r (dB S e)\/∃i y,i<j+1/\lT S r i y/\dB S (mt y)=dB S e:=fun f m c=>by
   rcases d f m with l|⟨i,y,x,o,s⟩
   ·rw[c]at l;exact .inl l
   ·exact .inr ⟨i,y,by omega,o,by rw[s,c]⟩
  rw[g.nx,List.mem_append,List.mem_append]at a;rcases a with a|a|a
  ·exact b e (by rw[g.es];simp[a]) rfl
  ·obtain⟨t,u,rfl⟩:=Ey.1 a;have c:=(T.jw (T.dW.eD h t)).1;rcases Nat.eq_zero_or_pos t with rfl|v
   ·exact b p k (by rw[show dN S (0+1) (mt p)=S (dN S 0 (mt p))from rfl,c,show dN S 0 (mt p)=mt p from rfl,dG])
   ·exact .inr ⟨j,dN S t (mt p),by omega,⟨t,v,u,by rw[g.lf]⟩,by rw[show dN S (t+1) (mt p)=S (dN S t (mt p))from rfl,c]⟩
  ·exact b e (by rw[g.es];simp[a]) rfl
theorem dL.parent{j:Nat}(b:j<N)(c:¬qp S r (lI S r j)):∃i y,i<j/\lT S r i y/\dB S (mt y)=lI S r j:=by
 obtain⟨A,p,q,B,g⟩:=K.goes T hr b;have d:q ∈ j3 S r j:=by rw[g.es];simp
 have a:lI S r j=dB S q:=by unfold lI;rw[g.rt]
 rw[a]at c ⊢;exact(K.entered T hr j b q d).resolve_left c
theorem dL.yL{j:Nat}(a:j<N)(d:¬qp S r (lI S r j)):runN S r j+1<per S (iY S r j):=by obtain⟨i,y,b,e,f⟩:=K.parent T hr a d;obtain⟨g,h,-⟩:=K.ins T hr (show i<N by omega) e;have c:=K.nC T hr a;obtain⟨t,k,l⟩:=T.turn c (T.mlt g) (by rw[K.tZ T hr a,f]);have m:=(K.ahead T hr a k).1 (by rw[l,dG,h];exact o9.2 ⟨i,b,rfl⟩);omega
theorem dL.Di{i j:Nat}(a:i<N)(b:j<N)(h:iY S r i=iY S r j):i=j :=
 K.inj a b (by rw[<-K.tZ T hr a,<-K.tZ T hr b,h])
theorem dL.BG{i j:Nat}(a:i<N)(c:j<N):iY S r i≠oW S r j:=fun h=>by have d:i=j:=K.inj a c (by rw[<-K.tZ T hr a,h];rfl);subst d;obtain⟨f,e,b⟩:=K.sJ T hr a;rw[<-h]at b;have:=T.dW.fE (K.nC T hr a) e (show 0<per S (iY S r i) by omega) b;omega
theorem dL.lU{i j x:Nat}(s:i<N)(c:j<N)(h:lT S r i (mt x)):x≠iY S r j/\x≠oW S r j:=by
 obtain⟨u,m,o,v,w⟩:=K.ins T hr s h;rw[dG]at o v w;obtain⟨z,A,y⟩:=K.sJ T hr c;have d:=K.nC T hr c
 have a:∀t,t<=runN S r j->x=dN S t (iY S r j)->False:=fun t B p=>by
  have b:dB S x=lI S r j:=by rw[p,T.pU d t,K.tZ T hr c]
  have f:i<j:=by
   rcases Nat.lt_or_ge i j with g|k
   ·exact g
   ·exfalso;rcases Nat.eq_or_lt_of_le k with l|l
    ·subst l;have:=T.loop _ u;rw[m,dG,b]at this;exact this rfl
    ·exact o (by rw[b];exact o9.2 ⟨j,l,rfl⟩)
  have q:dB S (mt x) ∈ iZ S r j:=by rw[m];exact o9.2 ⟨i,f,rfl⟩
  rw[p]at q;have:=(K.ahead T hr c (by omega)).1 q;omega
 exact⟨fun e=>a 0 (by omega) e,fun e=>a _ (Nat.le_refl _) (by rw[y];exact e)⟩
end
def uN(S:Nat->Nat)(r x:Nat):Prop:=qp S r (dB S x)/\qp S r (dB S (mt x))
noncomputable def qx(S:Nat->Nat)(r N J x:Nat):Int:=open Classical in
 if uN S r x then -1
 else if ∃j,J<=j/\j<N/\x=iY S r j then 1
 else if ∃j,J<=j/\j<N/\x=oW S r j then 2
 else if ∃j,J<=j/\j<N/\lT S r j (mt x)then 0
 else -1
noncomputable def uf(S:Nat->Nat)(r:Nat)(o:List Int)(dc:Nat × Int):List Int:=open Classical in if uN S r dc.1 then o else o.set dc.1 dc.2
noncomputable def jT(S:Nat->Nat)(r n N J:Nat):List Int:=(List.range n).map (qx S r N J)
noncomputable def BH(S:Nat->Nat)(r j:Nat):List (Nat × Int):=(iY S r j,1) :: ((List.range (runN S r j - 1)).map (fun t=>(mt (dN S (t+1) (iY S r j)),(0:Int))) ++ [(oW S r j,2)])
theorem PE{S:Nat->Nat}{r:Nat}(o:List Int)(a:Nat × Int):(uf S r o a).length=o.length:=by unfold uf;split <;> simp
theorem PG{S:Nat->Nat}{r:Nat}:∀(l:List (Nat × Int)) (o:List Int),(l.foldl (uf S r) o).length=o.length
 | [],_=>rfl
 | a :: l,o=>by rw[List.foldl_cons,PG l,PE]
theorem Hr{S:Nat->Nat}{r x:Nat}:∀(l:List (Nat × Int)) (o:List Int),(uN S r x\/∀a ∈ l,a.1≠x)->(l.foldl (uf S r) o)[x]? = o[x]?
 | [],_,_=>rfl
 | a :: l,o,h=>by
  rw[List.foldl_cons,Hr l _ (h.imp id (fun h b d=>h b (List.mem_cons_of_mem _ d)))];unfold uf;split
  ·rfl
  ·rename_i e
   have c:a.1≠x:=by
    rcases h with h|h
    ·rintro rfl;exact e h
    ·exact h a (by simp)
   rw[List.getElem?_set_ne c]
theorem Ht{S:Nat->Nat}{r x:Nat}{c:Int}(d:¬uN S r x):∀(l:List (Nat × Int)) (o:List Int),(l.map Prod.fst).Nodup->(x,c) ∈ l->x<o.length->(l.foldl (uf S r) o)[x]? = some c
 | [],_,_,h,_=>by cases h
 | i :: l,o,a,h,f=>by
  rw[List.map_cons,List.nodup_cons]at a;rw[List.foldl_cons];rcases List.mem_cons.1 h with h|h
  ·subst h;rw[Hr l _ (.inr (fun b g e=>a.1 (List.mem_map.2 ⟨b,g,e⟩)))];unfold uf;rw[if_neg d,List.getElem?_set_self f]
  ·exact Ht d l _ a.2 h (by rw[PE];exact f)
section
variable {n:Nat} {S:Nat->Nat} (T:jB n S) {r:Nat} (hr:r<n) {N:Nat} (K:dL n S r N)
include T hr K
theorem dL.qy{j:Nat}(g:j<N):(BH S r j).foldl (uf S r) (jT S r n N (j+1))=jT S r n N j:=by
 obtain⟨L,M,O⟩:=K.sJ T hr g;have A:=K.nC T hr g;have h:∀t,t<runN S r j - 1->lT S r j (mt (mt (dN S (t+1) (iY S r j)))):=fun t p=>⟨t+1,by omega,by omega,by rw[dG]⟩
 have f:((BH S r j).map Prod.fst).Nodup:=by
  unfold BH;rw[List.map_cons,List.map_append,List.map_map,List.nodup_cons,List.nodup_append];refine⟨fun q=>?_,?_,by simp,fun a B b w u=>?_⟩
  ·rcases List.mem_append.1 q with q|q
   ·obtain⟨t,p,d⟩:=List.mem_map.1 q;have d:mt (dN S (t+1) (iY S r j))=iY S r j:=d;exact(K.lU T hr g g (h t (List.mem_range.1 p))).1 d
   ·simp at q;exact K.BG T hr g g q
  ·rw[List.Nodup,List.pairwise_iff_getElem];intro a b B w u d;simp only [List.length_map,List.length_range]at B w;simp only [List.getElem_map,List.getElem_range,Function.comp_apply]at d;have d:dN S (a+1) (iY S r j)=dN S (b+1) (iY S r j):=by rw[<-dG (dN S (a+1) _),d,dG]
   have:=T.dW.fE A (by omega) (by omega) d;omega
  ·obtain⟨t,p,d⟩:=List.mem_map.1 B;have d:mt (dN S (t+1) (iY S r j))=a:=d;simp at w;exact(K.lU T hr g g (h t (List.mem_range.1 p))).2 (by rw[d,u,w])
 apply List.ext_getElem?;intro x;by_cases y:x<n
 ·have C:∀J,(jT S r n N J)[x]? = some (qx S r N J x):=fun J=>by simp[jT,y]
  have k:(jT S r n N (j+1)).length=n:=by simp[jT]
  rw[C];by_cases m:uN S r x
  ·rw[Hr _ _ (.inl m),C];unfold qx;rw[if_pos m,if_pos m]
  ·by_cases z:x=iY S r j
   ·rw[Ht (c:=1) m _ _ f (by rw[z];simp[BH]) (by rw[k];exact y)];unfold qx;rw[if_neg m,if_pos ⟨j,Nat.le_refl _,g,z⟩]
   ·by_cases v:x=oW S r j
    ·rw[Ht (c:=2) m _ _ f (by rw[v];simp[BH]) (by rw[k];exact y)];unfold qx;rw[if_neg m,if_neg (by rintro⟨i,_,hi,d⟩;exact K.BG T hr hi g (by rw[<-d,v])),if_pos ⟨j,Nat.le_refl _,g,v⟩]
    ·by_cases s:lT S r j (mt x)
     ·obtain⟨t,Q,R,E⟩:=id s;rw[Ht (c:=0) m _ _ f (by unfold BH;refine List.mem_cons_of_mem _ (List.mem_append.2 (.inl (List.mem_map.2 ⟨t - 1,List.mem_range.2 (by omega),?_⟩)));rw[show t - 1+1=t by omega,E,dG]) (by rw[k];exact y)];unfold qx;rw[if_neg m,if_neg (by rintro⟨i,_,hi,d⟩;exact(K.lU T hr g hi s).1 d),if_neg (by rintro⟨i,_,hi,d⟩;exact(K.lU T hr g hi s).2 d),if_pos ⟨j,Nat.le_refl _,g,s⟩]
     ·rw[Hr _ _ (.inr (fun U l d=>by
       unfold BH at l;rcases List.mem_cons.1 l with l|l
       ·rw[l]at d;exact z d.symm
       ·rcases List.mem_append.1 l with l|l
        ·obtain⟨t,p,D⟩:=List.mem_map.1 l;rw[<-D]at d;have:=h t (List.mem_range.1 p);rw[show mt (dN S (t+1) (iY S r j))=x from d]at this;exact s this
        ·simp at l;rw[l]at d;exact v d.symm)),C]
      have o:∀P:Nat->Prop,¬P j->((∃i,j+1<=i/\i<N/\P i)↔∃i,j<=i/\i<N/\P i):=fun P F =>
       ⟨fun ⟨i,a,b,c⟩=>⟨i,by omega,b,c⟩,fun ⟨i,a,b,c⟩=>⟨i,by
        rcases Nat.eq_or_lt_of_le a with e|e
        ·subst e;exact absurd c F
        ·exact e,b,c⟩⟩
      congr 1;unfold qx;have G:(∃i,j+1<=i/\i<N/\x=iY S r i)=∃i,j<=i/\i<N/\x=iY S r i:=propext (o (fun i=>x=iY S r i) z);have H:(∃i,j+1<=i/\i<N/\x=oW S r i)=∃i,j<=i/\i<N/\x=oW S r i:=propext (o (fun i=>x=oW S r i) v);have I:(∃i,j+1<=i/\i<N/\lT S r i (mt x))=∃i,j<=i/\i<N/\lT S r i (mt x):=propext (o (fun i=>lT S r i (mt x)) s);rw[G,H,I]
 ·rw[List.getElem?_eq_none (by rw[PG];simp[jT];omega),List.getElem?_eq_none (by simp[jT];omega)]
omit T hr K in
theorem WQ:jT S r n N N=List.replicate n (-1):=by unfold jT;rw[List.eq_replicate_iff];refine⟨by simp,fun b a=>?_⟩;obtain⟨x,_,rfl⟩:=List.mem_map.1 a;unfold qx;rw[if_neg (c:=∃j,N<=j/\j<N/\x=iY S r j) (by rintro⟨j,h1,h2,-⟩;omega),if_neg (c:=∃j,N<=j/\j<N/\x=oW S r j) (by rintro⟨j,h1,h2,-⟩;omega),if_neg (c:=∃j,N<=j/\j<N/\lT S r j (mt x)) (by rintro⟨j,h1,h2,-⟩;omega)];split <;> rfl
end
noncomputable def col(S:Nat->Nat)(r N x:Nat):Int:=qx S r N 0 x
section
variable {n:Nat} {S:Nat->Nat} (T:jB n S) {r:Nat} (hr:r<n) {N:Nat} (K:dL n S r N)
include T hr K
theorem dL.Kq{x:Nat}:col S r N x=0↔∃j,j<N/\lT S r j (mt x):=by
 unfold col qx;constructor
 ·intro h;split at h
  ·cases h
  ·split at h
   ·cases h
   ·split at h
    ·cases h
    ·split at h
     ·rename_i d;obtain⟨j,_,a,b⟩:=d;exact⟨j,a,b⟩
     ·cases h
 ·rintro⟨j,a,b⟩;have c:=K.nW T hr a b;rw[dG]at c;rw[if_neg (fun h=>c h.1),if_neg (by rintro⟨i,_,hi',he⟩;exact(K.lU T hr a hi' b).1 he),if_neg (by rintro⟨i,_,hi',he⟩;exact(K.lU T hr a hi' b).2 he),if_pos ⟨j,Nat.zero_le _,a,b⟩]
omit T hr K in
theorem Ah{x:Nat}:col S r N x=1↔¬uN S r x/\∃j,j<N/\x=iY S r j:=by
 unfold col qx;constructor
 ·intro h;split at h
  ·cases h
  ·rename_i a;split at h
   ·rename_i d;obtain⟨j,_,b,c⟩:=d;exact⟨a,j,b,c⟩
   ·split at h
    ·cases h
    ·split at h <;> cases h
 ·rintro⟨a,j,b,c⟩;rw[if_neg a,if_pos ⟨j,Nat.zero_le _,b,c⟩]
end
end
