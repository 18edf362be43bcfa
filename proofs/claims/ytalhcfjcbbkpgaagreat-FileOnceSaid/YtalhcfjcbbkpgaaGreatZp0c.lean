import Derived.Test.YtalhcfjcbbkpgaaGreatZp08
import Derived.Shelf.Bytes.SlSmallAll
import Derived.Test.YtalhcfjcbbkpgaaGreatZp0b
set_option maxRecDepth 100000
set_option maxHeartbeats 4000000
namespace Go.Proofs.YtalhcfjcbbkpgaaGreat
section
open Go.RowKit
theorem dV.made'{w wr:World}(a:Keeps (fun _=>False) w wr)(n:Nat)(P:List Int->Prop)(b:P (List.replicate n 0))(c:n<=100000000):dV w wr.heap.size n P (wr.alloc (.cells (madeCells #[.int .i64 0] n) 3)) :=
 ⟨_,by simp,b,dH.made w.heap.size wr n a.size c,a.alloc _⟩
theorem dV.xA{w wr w1:World}{g n:Nat}{P:List Int->Prop}{F:Nat->Prop}(h:dV w g n P wr)(b:Keeps F wr w1)(c:¬F g)(hF:∀x,F x->w.heap.size<=x):dV w g n P w1:=by obtain⟨zs,d,f,i,j⟩:=h;exact⟨zs,d,f,i.keeps b (fun x a e=>by simp only [Value.ownBlock,Option.some.injEq]at a;subst a;exact c e),j.trans b (fun x a e=>by have:=hF x e;omega)⟩
end
section
open Go.RowKit
theorem Sl.conv{w:World}{sv:Value}{c:List Nat}(h:Sl .u8 w sv (dD c)):(convert 30 9 sv).run Tryz.prog w=.ok (.string (strOfNums (dD c))) w:=by
 obtain⟨a,cap,rfl,l,m,o,d⟩:=h;cases c with
 | nil=>exact run_convert_bytes_zero w _ _ Tryz.underlying30 Tryz.underlying5 a cap _ Tryz.underlying9
 | cons x c =>
  obtain⟨g,off,rfl,_⟩:=d 0 (x:Int) rfl;refine run_convert_bytes_arg (P:=Tryz.prog) w _ _ Tryz.underlying30 Tryz.underlying5 g off _ cap (dD (x :: c)) rfl (fun i k=>?_) _ Tryz.underlying9;obtain⟨z,e⟩:∃z,(dD (x :: c))[i]? = some z:=⟨_,List.getElem?_eq_getElem k⟩
  obtain⟨p,f,j,b⟩:=d i z e;simp only [Option.some.injEq,Addr.mk.injEq]at j;obtain⟨rfl,rfl,_⟩:=j;rw[b,List.getD_eq_getElem?_getD,e];rfl
theorem Rt{a b:List Nat}(d:∀x ∈ a,x<256)(f:∀x ∈ b,x<256)(h:a.map (fun n=>UInt8.ofNat n)=b.map (fun n=>UInt8.ofNat n)):a=b:=by
 have c:=congrArg (List.map UInt8.toNat) h;rw[List.map_map,List.map_map]at c
 have e:∀l:List Nat,(∀x ∈ l,x<256)->l.map (UInt8.toNat ∘ fun n=>UInt8.ofNat n)=l:=by
  intro l g
  conv=>rhs;rw[<-List.map_id l]
  refine List.map_congr_left fun x i=>?_;have:=g x i;simp[UInt8.toNat_ofNat'];omega
 rwa [e a d,e b f]at c
theorem LC(a:List Nat):(strOfNums (dD a)).toList=a.map (fun n=>UInt8.ofNat n):=by rw[Lib.strOfNums_toList];unfold Lib.bytesOf dD;rw[List.map_map];exact List.map_congr_left fun x _=>by simp
theorem Ru{a b:List Nat}(c:∀x ∈ a,x<256)(d:∀x ∈ b,x<256):(strOfNums (dD a)).toList=(strOfNums (dD b)).toList↔a=b:=by refine⟨fun h=>?_,fun h=>by rw[h]⟩;rw[LC,LC]at h;exact Rt c d h
theorem Ir(p q:Value)(a c:List Nat)(w:World)(f:Sl .u8 w p (dD a))(g:Sl .u8 w q (dD c))(i:∀x ∈ a,x<256)(j:∀x ∈ c,x<256) :
  Calls Tryz.prog 16 #[p,q] w fun e w'=>e=.returned (.bool (decide (a=c)))/\w=w':=by
 have l:=f.conv;have m:=g.conv;obtain⟨b,d⟩:∃b,decide (a=c)=b:=⟨_,rfl⟩
 have k:((strOfNums (dD a)).toList == (strOfNums (dD c)).toList)=b:=by
  rw[<-d];by_cases h:a=c
  ·rw[h,beq_self_eq_true];simp
  ·rw[beq_eq_false_iff_ne.2 ((not_congr (Ru i j)).2 h),decide_eq_false h]
 rw[d];clear f g i j d;generalize strOfNums (dD a)=s1 at *;generalize strOfNums (dD c)=s2 at *;go_enter Tryz.func16,Tryz.ntmps16;go_wp2_with fail;go_ret;exact⟨rfl,rfl⟩
end
section
def uh(l:List Bool)(k:Nat):List Nat:=(k+1) :: (mM (kZ k l).length ++ fH (kZ k l))
def qI(b:Bool)(l:List Bool)(a:List Nat)(k:Nat):List Nat:=if b=false/\(uh l k).length<a.length then uh l k else a
def mR(a:Bool)(l:List Bool):List Nat:=(List.range 9).foldl (qI a l) (0 :: fH l)
theorem Rw{l:List Bool}{k:Nat}(c:k<9):∀b ∈ uh l k,b<256:=by
 intro b a;rcases List.mem_cons.1 a with rfl|a
 ·omega
 ·rcases List.mem_append.1 a with a|a
  ·exact FX _ b a
  ·exact Iq _ b a
theorem Rx(a:Bool)(l:List Bool):∀j,j<=9->(List.range j).foldl (qI a l) (0 :: fH l)=0 :: fH l\/(a=false/\∃k,k<9/\(List.range j).foldl (qI a l) (0 :: fH l)=uh l k):=by
 intro j
 induction j with
 | zero=>intro _;exact .inl rfl
 | succ j b =>
  intro c;rw[List.range_succ,List.foldl_append];show qI a l ((List.range j).foldl (qI a l) (0 :: fH l)) j=_\/_;have b:=b (by omega);generalize (List.range j).foldl (qI a l) (0 :: fH l)=best at *;show qI a l best j=0 :: fH l\/(a=false/\∃k,k<9/\qI a l best j=uh l k);unfold qI;split
  ·next h=>exact .inr ⟨h.1,j,by omega,rfl⟩
  ·exact b
theorem Ry(a:Bool)(l:List Bool):∀b ∈ mR a l,b<256:=by
 intro b c;rcases Rx a l 9 (Nat.le_refl _)with h|⟨_,k,d,h⟩
 ·unfold mR at c;rw[h]at c;rcases List.mem_cons.1 c with rfl|c
  ·omega
  ·exact Iq _ b c
 ·unfold mR at c;rw[h]at c;exact Rw d b c
theorem Rz(a:Bool)(l:List Bool):∀j,((List.range j).foldl (qI a l) (0 :: fH l)).length<=(fH l).length+1:=by
 intro j
 induction j with
 | zero=>simp
 | succ j b =>
  rw[List.range_succ,List.foldl_append];show (qI a l ((List.range j).foldl (qI a l) (0 :: fH l)) j).length<=_;generalize (List.range j).foldl (qI a l) (0 :: fH l)=best at *;unfold qI;split
  ·next h=>omega
  ·exact b
theorem RA:∀n (s:gZ),jm (jH n s)<=jm s+n:=by
 intro n
 induction n with
 | zero=>intro s;exact Nat.le_refl _
 | succ n a =>
  intro s;unfold jH;split
  ·omega
  ·next b =>
   have c:=a (dU s);have d:=(Lr s b).2;omega
theorem LD(k:Nat)(l:List Bool):jm (encS k l).2<=33 * l.length:=by
 refine Ig (P:=fun l=>jm (encS k l).2<=33 * l.length) (by simp[encS,jm]) (fun l b a=>?_) l;unfold encS at a ⊢;rw[List.foldl_append];show jm (Ao (List.foldl Ao _ l) b).2<=_;generalize List.foldl Ao (CM.new (2 ^ k),(⟨0,4294967295,0,[]⟩:gZ)) l=x at *;have c:=RA 33 (kM x.1.cur b x.2);have d:jm (kM x.1.cur b x.2)=jm x.2:=by cases b <;> rfl
 rw[List.length_append,List.length_singleton];show jm (jH 33 (kM x.1.cur b x.2))<=_;omega
theorem LG(k:Nat)(l:List Bool):(kZ k l).length<=33 * l.length+2:=by have h:=LD k l;unfold kZ zi;unfold jm at h;split <;> (simp only [List.length_append,List.length_cons,List.length_replicate];omega)
end
section
def RB(a:List Nat)(i:Nat):Bool:=a.getD (i / 8) 0 / 2 ^ (i % 8) % 2 == 1
def D5(a:List Nat)(n:Nat):Prop:=n<=8 * a.length/\8 * a.length<n+8
def D6(a:List Nat)(n:Nat):Prop:=∀i,n<=i->i<8 * a.length->RB a i=false
instance (cs:List Nat) (n:Nat):Decidable (D5 cs n):=by unfold D5;infer_instance
noncomputable instance (cs:List Nat) (n:Nat):Decidable (D6 cs n):=Classical.propDecidable _
end
section
open Go.RowKit
structure rJ (W:World)(bw bv:Nat)(vv:Value)(s:gZ):Prop where
 sp:gJ W bw 261 s.l s.h [.pointer (some ⟨bv,0,none⟩),.int .i64 s.w]
 vec:eX W bv vv s.o
 ne:bw≠bv
 no:vv.ownBlock≠some bw
theorem rJ.c2{W:World}{a b:Nat}{c:Value}{s:gZ}(h:rJ W a b c s):W.cell? ⟨a,2,none⟩=some (.pointer (some ⟨b,0,none⟩)):=by have:=dw h.sp 2;simpa using this
theorem rJ.c3{W:World}{a b:Nat}{c:Value}{s:gZ}(h:rJ W a b c s):W.cell? ⟨a,3,none⟩=some (.int .i64 s.w):=by have:=dw h.sp 3;simpa using this
theorem rJ.free{W:World}{a b:Nat}{c:Value}{s:gZ}(h:rJ W a b c s):∀i,W.frozen? ⟨a,i,none⟩=false:=dx h.sp
theorem rJ.keeps{W d:World}{a b:Nat}{c:Value}{s:gZ}{G:Nat->Prop}(h:rJ W a b c s)(k:Keeps G W d)(e:¬G a)(f:¬G b)(g:∀q,c.ownBlock=some q->¬G q):rJ d a b c s:=⟨h.sp.keeps k e,h.vec.keeps k f g,h.ne,h.no⟩
def vM(w:World)(b c:Nat)(d:Value)(s:gZ)(w':World):Prop :=
 ∃a,rJ w' b c a s/\Keeps (fun k=>k=b\/k=c\/d.ownBlock=some k) w w'/\(a.ownBlock=d.ownBlock\/∃k,a.ownBlock=some k/\w.heap.size<=k)
theorem rJ.grown{w w1:World}{a b:Nat}{c:Value}{s:gZ}{o:List Bool}(h:rJ w a b c s)(j:a<w.heap.size)(g:eY w b c o w1):vM w a b c { s with o:=o } w1:=by
 obtain⟨v',l,f,i⟩:=g;refine⟨v',⟨h.sp.keeps f (fun e=>?_),l,h.ne,fun e=>?_⟩,f.mono (fun _ _ e=>.inr e),i⟩
 ·rcases e with e|e
  ·exact h.ne e
  ·exact h.no e
 ·rcases i with d|⟨k,d,m⟩
  ·exact h.no (by rw[<-d];exact e)
  ·rw[d]at e;have:=Option.some.inj e;omega
theorem vM.trans{w w1 j:World}{f g:Nat}{i a:Value}{s:gZ}(k:Keeps (fun k=>k=f\/k=g\/i.ownBlock=some k) w w1)(l:a.ownBlock=i.ownBlock\/∃k,a.ownBlock=some k/\w.heap.size<=k)(h:vM w1 f g a s j):vM w f g i s j:=by
 obtain⟨m,o,p,t⟩:=h;refine⟨m,o,k.trans p (fun x u e=>?_),?_⟩
 ·rcases e with e|e|e
  ·exact .inl e
  ·exact .inr (.inl e)
  ·rcases l with b|⟨q,b,c⟩
   ·exact .inr (.inr (by rw[<-b];exact e))
   ·rw[b]at e;have:=Option.some.inj e;omega
 ·rcases t with d|⟨q,d,c⟩
  ·rcases l with b|⟨q,b,c⟩
   ·exact .inl (d.trans b)
   ·exact .inr ⟨q,d.trans b,c⟩
  ·exact .inr ⟨q,d,Nat.le_trans k.size c⟩
end
section
def iJ(S:Nat->Nat):List Nat->Prop
 | []=>True
 | [_]=>True
 | e :: f :: l=>vnum S (mt e)=vnum S f/\iJ S (f :: l)
theorem iJ.tail{S:Nat->Nat}{e:Nat}:∀{l:List Nat},iJ S (e :: l)->iJ S l
 | [],_=>trivial
 | _ :: _,h=>h.2
theorem iJ.right{S:Nat->Nat}{B:List Nat}:∀{A:List Nat},iJ S (A ++ B)->iJ S B
 | [],h=>h
 | _ :: _,h=>iJ.right (iJ.tail h)
theorem iJ.left{S:Nat->Nat}{B:List Nat}:∀{A:List Nat},iJ S (A ++ B)->iJ S A
 | [],_=>trivial
 | [_],_=>trivial
 | _ :: f :: A,h=>⟨h.1,iJ.left (A:=f :: A) h.2⟩
theorem iJ.at{S:Nat->Nat}{A B:List Nat}{e f:Nat}(h:iJ S (A ++ e :: f :: B)):vnum S (mt e)=vnum S f:=(iJ.right h).1
def uN(S:Nat->Nat)(L:List Nat):Prop:=iJ S L/\∀a z l m,L=a :: l->L=m ++ [z]->vnum S (mt z)=vnum S a
def D7(n:Nat)(S:Nat->Nat):Prop:=∀L:List Nat,(∀e ∈ L,e<n)->uN S L->∃h:Nat->Nat,∀x,x<n->h (S (mt x))=h x/\(h (mt x)+h x) % 2=(L.count x+L.count (mt x)) % 2
structure jO (n:Nat)(S:Nat->Nat):Prop where
 dR:dO n S
 even:n % 2=0
 conn:∀x y,x<n->y<n->dI n S x y
 BG:D7 n S
 tri:∀x,x<n->S (mt (S (mt (S (mt x)))))=x
 loop:∀x,x<n->vnum S x≠vnum S (mt x)
 zm:∀x y,x<n->y<n->vnum S x=vnum S y->vnum S (mt x)=vnum S (mt y)->x=y
def fc(S:Nat->Nat)(x:Nat):Nat:=S (mt x)
theorem zo(S:Nat->Nat)(x:Nat):fc S (mt x)=S x:=by unfold fc;rw[dF]
theorem LH{f:Nat}{B B':List Nat}:∀{X Y:List Nat},(X ++ f :: B).Nodup->X ++ f :: B=Y ++ f :: B'->X=Y
 | [],[],_,_=>rfl
 | [],y :: Y,a,h=>by rw[List.nil_append,List.cons_append,List.cons.injEq]at h;obtain⟨rfl,rfl⟩:=h;simp at a
 | x :: X,[],a,h=>by rw[List.nil_append,List.cons_append,List.cons.injEq]at h;obtain⟨rfl,rfl⟩:=h;simp at a
 | x :: X,y :: Y,a,h=>by rw[List.cons_append,List.cons_append,List.cons.injEq]at h;obtain⟨rfl,h⟩:=h;rw[LH (List.nodup_cons.1 a).2 h]
section
variable {n:Nat} {S:Nat->Nat} (T:jO n S)
include T
theorem jO.mlt{x:Nat}(h:x<n):mt x<n:=dQ T.even h
theorem jO.slt{x:Nat}(h:x<n):S x<n:=T.dR.lt x h
theorem jO.gD{x:Nat}(h:x<n):fc S x<n:=T.slt (T.mlt h)
theorem jO.vS{x:Nat}(h:x<n):vnum S (S x)=vnum S x:=((T.dR.eT h (T.slt h)).2 (dK.step S x)).symm
theorem jO.pE{x:Nat}(h:x<n)(k:Nat):vnum S (itr S k x)=vnum S x:=((T.dR.eT h (T.dR.dW h k)).2 ⟨k,rfl⟩).symm
theorem jO.vf{x:Nat}(h:x<n):vnum S (fc S x)=vnum S (mt x):=T.vS (T.mlt h)
theorem jO.f3{x:Nat}(h:x<n):fc S (fc S (fc S x))=x:=T.tri x h
theorem jO.zq{x:Nat}(h:x<n):vnum S (mt (fc S (fc S x)))=vnum S x:=by rw[<-T.vf (T.gD (T.gD h)),T.f3 h]
theorem jO.D8{x y:Nat}(a:x<n)(b:y<n)(h:fc S x=fc S y):x=y:=by rw[<-T.f3 a,h,T.f3 b]
theorem jO.Iu{x:Nat}(h:x<n):fc S (fc S (S x))=mt x:=by have:=T.f3 (T.mlt h);rwa [zo]at this
theorem jO.turn{x y:Nat}(a:x<n)(b:y<n)(h:vnum S x=vnum S y):∃k,k<per S x/\itr S k x=y:=T.dR.iQ a ((T.dR.eT a b).1 h)
end
def eH(S:Nat->Nat)(r:Nat)(G:Nat->Prop)(x:Nat):Prop :=
 (x=r\/x=fc S r\/x=fc S (fc S r))\/G (vnum S x)\/G (vnum S (fc S x))\/G (vnum S (fc S (fc S x)))
structure Shl (n:Nat)(S:Nat->Nat)(r:Nat)(es:List Nat)(G:Nat->Prop):Prop where
 Iw:3<=es.length
 lt:∀e ∈ es,e<n
 last:∃A,es=A ++ [mt r]
 dist:(es.map (vnum S)).Nodup
 path:iJ S es
 zu:∀a l,es=a :: l->vnum S r=vnum S a
 vN:∀x,x<n->(x ∈ es↔¬eH S r G x/\eH S r G (mt x))
 live:∀e ∈ es,¬G (vnum S e)
 inn:∀x,x<n->¬G (vnum S x)->(∀e ∈ es,vnum S x≠vnum S e)->¬eH S r G x
 both:∀x,x<n->eH S r G x->eH S r G (mt x)->G (vnum S x)\/G (vnum S (mt x))
 D9:∀P:Nat->Prop,(∀x,x<n->P x->P (fc S x))->(∀x,x<n->eH S r G x->eH S r G (mt x)->P x->P (mt x))->P r->∀x,x<n->eH S r G x->P x
def lS(n:Nat)(S:Nat->Nat)(r:Nat)(es:List Nat)(G:Nat->Prop)(q:Nat):Prop :=
 ∀y,y<n->vnum S y=vnum S q->¬eH S r G y->¬eH S r G (mt y)->∀e ∈ es,vnum S (mt y)≠vnum S e
section
variable {n:Nat} {S:Nat->Nat} (T:jO n S) {r:Nat} (hr:r<n) {G:Nat->Prop}
include T hr
theorem jO.xB{x:Nat}(a:x<n)(h:eH S r G x):eH S r G (fc S x):=by
 rcases h with (h|h|h)|h|h|h
 ·exact .inl (.inr (.inl (by rw[h])))
 ·exact .inl (.inr (.inr (by rw[h])))
 ·exact .inl (.inl (by rw[h,T.f3 hr]))
 ·exact .inr (.inr (.inr (by rw[T.f3 a];exact h)))
 ·exact .inr (.inl h)
 ·exact .inr (.inr (.inl h))
theorem jO.kN{x:Nat}(a:x<n):eH S r G (fc S x)↔eH S r G x:=by refine⟨fun h=>?_,T.xB hr a⟩;have:=T.xB hr (T.gD (T.gD a)) (T.xB hr (T.gD a) h);rwa [T.f3 a]at this
theorem jO.qQ{x:Nat}(a:x<n):eH S r G (S x)↔eH S r G (mt x):=by rw[<-zo S x];exact T.kN hr (T.mlt a)
end
section
variable {n:Nat} {S:Nat->Nat} {r:Nat} {es:List Nat} {G:Nat->Prop} (h:Shl n S r es G) (T:jO n S) (hr:r<n)
include h
theorem Shl.eqv{e f:Nat}(g:e ∈ es)(k:f ∈ es)(b:vnum S e=vnum S f):e=f:=by
 obtain⟨i,c,rfl⟩:=List.mem_iff_getElem.1 g;obtain⟨j,d,rfl⟩:=List.mem_iff_getElem.1 k;have:=(List.pairwise_iff_getElem.1 h.dist)
 rcases Nat.lt_trichotomy i j with a|rfl|a
 ·exact absurd (by rw[List.getElem_map,List.getElem_map];exact b) (this i j (by simpa using c) (by simpa using d) a)
 ·rfl
 ·exact absurd (by rw[List.getElem_map,List.getElem_map];exact b.symm) (this j i (by simpa using d) (by simpa using c) a)
theorem Shl.fE{e:Nat}(a:e ∈ es):¬eH S r G e/\eH S r G (mt e):=(h.vN e (h.lt e a)).1 a
theorem Shl.ahead{A B:List Nat}{p q e:Nat}(c:es=A ++ p :: q :: B)(t:e ∈ es)(j:vnum S (mt e)=vnum S q):e=p:=by
 obtain⟨o,B',d⟩:=List.append_of_mem t;have u:p ∈ es:=by rw[c];simp
 have s:q ∈ es:=by rw[c];simp
 rcases B' with _|⟨f,B'⟩
 ·
  obtain⟨v,w⟩:=h.last;have k:e=mt r:=by have:=d.symm.trans w;exact(List.append_inj' this rfl).2 |> fun x=>by simpa using x
  rw[k,dF]at j;rcases A with _|⟨a,A⟩
  ·have g:=h.zu p _ c;have i:=h.eqv u s (by rw[<-g,j]);exact absurd i (by rintro rfl;have:=h.dist;rw[c]at this;simp at this)
  ·have g:=h.zu a _ (by rw[c];rfl);have i:vnum S a=vnum S q:=by rw[<-g,j]
   have:=h.dist;rw[c]at this;simp at this;exact absurd i this.1.2.2.1
 ·have k:vnum S (mt e)=vnum S f:=iJ.at (d ▸ h.path);have y:f ∈ es:=by rw[d];simp
  have g:f=q:=h.eqv y s (by rw[<-k,j]);subst g;have i:(o ++ [e]) ++ f :: B'=(A ++ [p]) ++ f :: B:=by rw[List.append_assoc,List.append_assoc];exact d.symm.trans c
  have l:es.Nodup:=List.Pairwise.imp (fun {a b} m e=>m (by rw[e])) (List.pairwise_map.1 h.dist);have z:o ++ [e]=A ++ [p]:=LH (by rw[List.append_assoc];exact d ▸ l) i;have:=(List.append_inj' z rfl).2;simpa using this
include T hr
omit hr in
theorem Shl.Iy{A B:List Nat}{p q y:Nat}(a:es=A ++ p :: q :: B)(b:y<n)(c:vnum S y=vnum S q)(d:eH S r G y)(e:¬eH S r G (mt y)):y=mt p:=by have f:=(h.vN (mt y) (T.mlt b)).2 ⟨e,by rw[dF];exact d⟩;rw[<-h.ahead a f (by rw[dF];exact c),dF]
omit hr T in
theorem Shl.Iz{q y:Nat}(a:q ∈ es)(b:y<n)(c:vnum S y=vnum S q)(d:¬eH S r G y)(e:eH S r G (mt y)):y=q :=
 h.eqv ((h.vN y b).2 ⟨d,e⟩) a c
theorem Shl.run{A B:List Nat}{p q:Nat}(d:es=A ++ p :: q :: B) :
  ∃M,0<M/\M<per S (mt p)/\itr S M (mt p)=q/\(∀t,t<M->¬eH S r G (mt (itr S t (mt p)))/\¬eH S r G (itr S (t+1) (mt p))) /\
   ∀t,M<t->t<per S (mt p)->eH S r G (itr S t (mt p))/\eH S r G (mt (itr S t (mt p))):=by
 have y:p ∈ es:=by rw[d];simp
 have v:q ∈ es:=by rw[d];simp
 have w:=h.lt p y;have m:=h.lt q v;have a:=T.mlt w;have o:vnum S (mt p)=vnum S q:=iJ.at (d ▸ h.path);obtain⟨M,z,i⟩:=T.turn a m o;obtain⟨E,C⟩:=h.fE y;obtain⟨F,H⟩:=h.fE v
 have f:0<M:=by
  rcases Nat.eq_zero_or_pos M with rfl|f
  ·have i:mt p=q:=i;rw[i]at C;exact absurd C F
  ·exact f
 have b:=fun t=>T.dR.dW a t;have s:=fun t=>(T.pE a t).trans o;refine⟨M,f,z,i,?_,?_⟩
 ·intro t
  induction t with
  | zero =>
   intro _;have D:¬eH S r G (mt (itr S 0 (mt p))):=by rw[show itr S 0 (mt p)=mt p from rfl,dF];exact E
   exact⟨D,fun e=>D ((T.qQ hr (b 0)).1 e)⟩
  | succ t x =>
   intro J;have j:=(x (by omega)).2;have l:¬eH S r G (mt (itr S (t+1) (mt p))):=fun e=>by have g:=h.Iz v (b _) (s _) j e;have:=T.dR.fB a (show t+1<per S (mt p) by omega) z (by rw[g,i]);omega
   exact⟨l,fun e=>l ((T.qQ hr (b (t+1))).1 e)⟩
 ·have c:∀t,M<t->t<per S (mt p)->eH S r G (itr S t (mt p))->eH S r G (mt (itr S t (mt p))):=fun t j l g=>by
   by_cases e:eH S r G (mt (itr S t (mt p)))
   ·exact e
   ·have I:=h.Iy T d (b t) (s t) g e;have:=T.dR.fB a l (show 0<per S (mt p) by omega) I;omega
  have u:∀k,M+1+k<per S (mt p)->eH S r G (itr S (M+1+k) (mt p)):=by
   intro k
   induction k with
   | zero =>
    intro _;have:=(T.qQ hr m).2 H;rw[<-i]at this;exact this
   | succ k x =>
    intro K;have j:=c _ (by omega) (by omega) (x (by omega));exact(T.qQ hr (b (M+1+k))).2 j
  intro t j l;have g:=u (t - (M+1)) (by omega);rw[show M+1+(t - (M+1))=t by omega]at g;exact⟨g,c t j l g⟩
omit hr in
theorem Shl.inside{A B:List Nat}{p q y M:Nat}(b:es=A ++ p :: q :: B)(k:itr S M (mt p)=q)
  (c:∀t,M<t->t<per S (mt p)->eH S r G (itr S t (mt p))/\eH S r G (mt (itr S t (mt p))))(l:y<n)(m:vnum S y=vnum S q)(d:¬eH S r G y)(i:¬eH S r G (mt y)) :
  ∃t,0<t/\t<M/\itr S t (mt p)=y:=by
 have j:p ∈ es:=by rw[b];simp
 have o:q ∈ es:=by rw[b];simp
 have e:=T.mlt (h.lt p j);have f:vnum S (mt p)=vnum S q:=iJ.at (b ▸ h.path);obtain⟨t,s,a⟩:=T.turn e l (f.trans m.symm);refine⟨t,?_,?_,a⟩
 ·rcases Nat.eq_zero_or_pos t with rfl|u
  ·have a:mt p=y:=a;rw[<-a]at d;exact absurd (h.fE j).2 d
  ·exact u
 ·rcases Nat.lt_trichotomy t M with g|rfl|g
  ·exact g
  ·rw[<-a,k]at i;exact absurd (h.fE o).2 i
  ·have:=(c t g s).1;rw[a]at this;exact absurd this d
omit h T hr
theorem iJ.swap{b z:Nat}{B:List Nat}(a:vnum S b=vnum S z):∀{Y:List Nat},iJ S (Y ++ b :: B)->iJ S (Y ++ [z])
 | [],_=>trivial
 | [_],h=>⟨h.1.trans a,trivial⟩
 | _ :: f :: Y,h=>⟨h.1,iJ.swap a (Y:=f :: Y) h.2⟩
theorem iJ.next{b e:Nat}{B:List Nat}:∀{Y:List Nat},iJ S (Y ++ b :: B)->e ∈ Y->∃f,f ∈ Y.tail ++ [b]/\vnum S (mt e)=vnum S f
 | [],_,c=>by cases c
 | [a],h,c=>by rw[List.mem_singleton]at c;subst c;exact⟨b,by simp,h.1⟩
 | a :: f :: Y,h,c=>by
  rcases List.mem_cons.1 c with rfl|c
  ·exact⟨f,by simp,h.1⟩
  ·obtain⟨g,d,i⟩:=iJ.next (Y:=f :: Y) h.2 c;refine⟨g,?_,i⟩;rw[List.tail_cons]at d ⊢;exact List.mem_append.2 ((List.mem_append.1 d).elim (fun h=>.inl (List.mem_cons_of_mem _ h)) .inr)
include h T hr
theorem Shl.cross{A X B:List Nat}{p q b x y e:Nat}(D:es=A ++ p :: q :: (X ++ b :: B))(hx:x<n)(O:vnum S x=vnum S p)(P:vnum S (mt x)=vnum S b)(x1:¬eH S r G x)(x2:¬eH S r G (mt x))
  (hy:y<n)(ag:vnum S y=vnum S q)(y1:¬eH S r G y)(y2:¬eH S r G (mt y))(Z:vnum S (mt y)=vnum S e)(v:e ∈ A\/e ∈ B):False:=by
 obtain⟨Y,K⟩:∃Y,Y=p :: q :: X:=⟨_,rfl⟩
 have i:es=A ++ (Y ++ b :: B):=by rw[D,K];rfl
 have j:∀z,z ∈ Y->z ∈ es:=fun z d=>by rw[i];simp[d]
 have s:e ∈ es:=by rw[i];rcases v with v|v <;> simp[v]
 have E:p ∈ es:=j p (by rw[K];simp);have hq:q ∈ es:=j q (by rw[K];simp);have hb:b ∈ es:=by rw[i];simp
 have Q:es.Nodup:=List.Pairwise.imp (fun {a b} ah e=>ah (by rw[e])) (List.pairwise_map.1 h.dist)
 have w:e ∉ Y/\e≠b:=by
  have N:=Q;rw[i,List.nodup_append,List.nodup_append,List.nodup_cons]at N;obtain⟨-,⟨-,⟨n1,-⟩,n2⟩,n3⟩:=N;rcases v with v|v
  ·exact⟨fun u=>n3 e v e (by simp[u]) rfl,fun u=>n3 e v b (by simp) u⟩
  ·exact⟨fun u=>n2 e u e (by simp[v]) rfl,fun u=>n1 (u ▸ v)⟩
 have ai:b ∉ Y:=by have N:=Q;rw[i,List.nodup_append,List.nodup_append,List.nodup_cons]at N;exact fun u=>N.2.1.2.2 b u b (by simp) rfl
 have aa:p ∉ q :: X:=by have N:=Q;rw[i,K,List.nodup_append,List.nodup_append,List.nodup_cons]at N;exact N.2.1.1.1
 have C:iJ S (Y ++ b :: B):=iJ.right (i ▸ h.path);obtain⟨L,hL⟩:∃L,L=Y ++ [mt x]:=⟨_,rfl⟩
 have o:∀z,z ∈ L->z ∈ Y\/z=mt x:=fun z d=>by rw[hL,List.mem_append,List.mem_singleton]at d;exact d
 obtain⟨f,hf⟩:=T.BG L (fun z d=>(o z d).elim (fun u=>h.lt z (j z u)) (fun u=>by rw[u];exact T.mlt hx)) (by
  refine⟨hL ▸ iJ.swap P.symm C,fun a z l m h1 h2=>?_⟩;rw[hL]at h1 h2;have e1:a=p:=by rw[K]at h1;simp at h1;exact h1.1.symm
  have e2:z=mt x:=by have:=(List.append_inj' h2 rfl).2;simp at this;exact this.symm
  rw[e1,e2,dF,O])
 have h0:∀z,z<n->z ∉ L->mt z ∉ L->f (mt z) % 2=f z % 2:=fun z d z1 z2=>by have:=(hf z d).2;rw[List.count_eq_zero.2 z1,List.count_eq_zero.2 z2]at this;omega
 have hS:∀z,z<n->f (S z)=f (mt z):=fun z d=>by have:=(hf (mt z) (T.mlt d)).1;rwa [dF]at this
 obtain⟨M,ap,aq,aj,ab,ad⟩:=h.run T hr D;obtain⟨t,ar,ak,al⟩:=h.inside T D aj ad hy ag y1 y2;have F:=T.mlt (h.lt p E);have am:vnum S (mt p)=vnum S q:=iJ.at (D ▸ h.path)
 have ae:∀t,t<M->f (mt (itr S t (mt p))) % 2=f p % 2:=by
  intro t
  induction t with
  | zero=>intro _;rw[show itr S 0 (mt p)=mt p from rfl,dF]
  | succ t V =>
   intro ht;have V:=V (by omega);have hl:=T.dR.dW F t;have an:=T.dR.dW F (t+1);rw[<-hS _ hl]at V;have H:=(T.pE F (t+1)).trans am;have b1:=(ab t (by omega)).2;have b2:=(ab (t+1) ht).1;rw[h0 _ an (fun d=>?_) (fun d=>?_)]
   ·exact V
   ·rcases o _ d with d|d
    ·exact b2 (h.fE (j _ d)).2
    ·rw[d,P]at H;exact ai (by rw[h.eqv hb hq H,K];simp)
   ·rcases o _ d with d|d
    ·have:=(h.fE (j _ d)).2;rw[dF]at this;exact b1 this
    ·have d:itr S (t+1) (mt p)=x:=by rw[<-dF (itr S (t+1) (mt p)),d,dF]
     rw[d,O]at H;exact aa (by rw[h.eqv E hq H];simp)
 have e1:f (mt y) % 2=f p % 2:=by rw[<-al];exact ae t ak
 have af:∀z,z<n->vnum S z=vnum S e->z ∉ L/\mt z ∉ L:=fun z d W=>by
  refine⟨fun c=>?_,fun c=>?_⟩
  ·rcases o _ c with c|c
   ·exact w.1 (by rw[<-h.eqv (j _ c) s W];exact c)
   ·rw[c,P]at W;exact w.2 (h.eqv s hb W.symm)
  ·rcases o _ c with c|c
   ·obtain⟨g,I,R⟩:=iJ.next C c;rw[dF,W]at R;rcases List.mem_append.1 I with I|I
    ·have I:g ∈ Y:=List.mem_of_mem_tail I;exact w.1 (by rw[h.eqv s (j _ I) R];exact I)
    ·rw[List.mem_singleton]at I;exact w.2 (h.eqv s hb (by rw[R,I]))
   ·have c:z=x:=by rw[<-dF z,c,dF]
    rw[c,O]at W;exact w.1 (by rw[<-h.eqv E s W,K];simp)
 have U:=T.mlt hy;have J:=h.lt e s;obtain⟨k,-,hk⟩:=T.turn U J Z
 have ao:∀k,f (itr S k (mt y)) % 2=f (mt y) % 2:=by
  intro k
  induction k with
  | zero=>rfl
  | succ k V =>
   have hl:=T.dR.dW U k;obtain⟨z1,z2⟩:=af _ hl ((T.pE U k).trans Z);show f (S (itr S k (mt y))) % 2=_;rw[hS _ hl,h0 _ hl z1 z2,V]
 have e2:f e % 2=f p % 2:=by rw[<-hk,ao,e1]
 obtain⟨z1,z2⟩:=af e J rfl;have e3:=h0 e J z1 z2
 have hO:=h.D9 (fun z=>f z % 2=f r % 2) (fun z d hP=>by
  show f (S (mt z)) % 2=_;rw[(hf z d).1];exact hP) (fun z d o1 o2 hP=>by
  refine(h0 z d (fun c=>?_) (fun c=>?_)).trans hP
  ·rcases o _ c with c|c
   ·exact(h.fE (j _ c)).1 o1
   ·rw[c]at o1;exact x2 o1
  ·rcases o _ c with c|c
   ·exact(h.fE (j _ c)).1 o2
   ·rw[c]at o2;exact x2 o2) rfl
 have e4:=hO (mt e) (T.mlt J) (h.fE s).2;have e5:=hO (mt p) F (h.fE E).2;have e6:=(hf p (h.lt p E)).2
 have c1:L.count p=1:=by
  rw[hL,K,List.cons_append,List.count_cons_self,List.count_eq_zero.2];intro c;rcases List.mem_append.1 c with c|c
  ·exact aa c
  ·rw[List.mem_singleton]at c;exact(h.fE E).1 |> fun _=>x1 (by have:=(h.fE E).2;rwa [c,dF]at this)
 have c2:L.count (mt p)=0:=by
  rw[List.count_eq_zero];intro c;rcases o _ c with c|c
  ·exact(h.fE (j _ c)).1 (h.fE E).2
  ·have c:p=x:=by rw[<-dF p,c,dF]
   rw[<-c]at x2;exact x2 (h.fE E).2
 rw[c1,c2]at e6;have e4:f (mt e) % 2=f r % 2:=e4;have e5:f (mt p) % 2=f r % 2:=e5;omega
theorem Shl.ng:∀(m:Nat) {A X B:List Nat} {p b x:Nat},es=A ++ p :: (X ++ b :: B)->X.length<=m->x<n->vnum S x=vnum S p->vnum S (mt x)=vnum S b->¬eH S r G x->¬eH S r G (mt x) ->
  ∃A p q B,es=A ++ p :: q :: B/\B≠[]/\lS n S r es G q
 | m,A,[],B,p,b,x,a,_,o,g,i,t,j=>by
  have v:p ∈ es:=by rw[a];simp
  have:=T.zm x p o (h.lt p v) g (i.trans (iJ.at (a ▸ h.path)).symm);rw[this]at j;exact absurd (h.fE v).2 j
 | 0,A,q :: X,B,p,b,x,a,w,o,g,i,t,j=>by simp at w
 | m+1,A,q :: X,B,p,b,x,a,w,o,g,i,t,j=>by
  by_cases k:lS n S r es G q
  ·exact⟨A,p,q,X ++ b :: B,a,by simp,k⟩
  ·have C:X.length<=m:=by simpa using w
   unfold lS at k;obtain⟨y,k⟩:=Classical.not_forall.1 k;simp only [not_imp,Classical.not_forall,Classical.not_not]at k;obtain⟨l,d,s,u,e,z,f⟩:=k;have v:p ∈ es:=by rw[a];simp
   have c:=z;rw[a,List.mem_append,List.mem_cons,List.cons_append,List.mem_cons,List.mem_append,List.mem_cons]at c;rcases c with c | rfl|rfl|c | rfl|c
   ·exact(h.cross T hr a o g i t j l d s u f (.inl c)).elim
   ·
    have E:vnum S (mt y)=vnum S e:=f;have:=T.zm (mt y) e (T.mlt l) (h.lt e z) E (by rw[dF,d];exact(iJ.at (a ▸ h.path)).symm);have D:=(h.fE z).2;rw[<-this,dF]at D;exact absurd D s
   ·exact absurd (d.trans f.symm) (T.loop y l)
   ·obtain⟨F,H,rfl⟩:=List.append_of_mem c;exact Shl.ng m (A:=A ++ [p]) (X:=F) (B:=H ++ b :: B) (p:=q) (b:=e) (x:=y) (by rw[a];simp) (by simp at C;omega) l d f s u
   ·exact Shl.ng m (A:=A ++ [p]) (X:=X) (B:=B) (p:=q) (b:=e) (x:=y) (by rw[a];simp) C l d f s u
   ·exact(h.cross T hr a o g i t j l d s u f (.inr c)).elim
theorem Shl.zw:∃A p q B,es=A ++ p :: q :: B/\B≠[]/\lS n S r es G q:=by
 have g:=h.Iw;rcases hes:es with _|⟨p,_|⟨q,_|⟨b,B⟩⟩⟩
 ·rw[hes]at g;simp at g
 ·rw[hes]at g;simp at g
 ·rw[hes]at g;simp at g
 ·rw[<-hes];by_cases i:lS n S r es G q
  ·exact⟨[],p,q,b :: B,hes,by simp,i⟩
  ·unfold lS at i;obtain⟨y,i⟩:=Classical.not_forall.1 i;simp only [not_imp,Classical.not_forall,Classical.not_not]at i;obtain⟨j,c,l,s,e,k,d⟩:=i;have a:=k;rw[hes,List.mem_cons,List.mem_cons]at a;have f:iJ S ([] ++ p :: q :: b :: B):=by have:=h.path;rw[hes]at this;exact this
   rcases a with rfl|rfl|a
   ·have:=T.zm (mt y) e (T.mlt j) (h.lt e k) d (by rw[dF,c];exact(iJ.at f).symm);have m:=(h.fE k).2;rw[<-this,dF]at m;exact absurd m l
   ·exact absurd (c.trans d.symm) (T.loop y j)
   ·obtain⟨o,t,u⟩:=List.append_of_mem a;exact h.ng T hr o.length (A:=[p]) (X:=o) (B:=t) (p:=q) (b:=e) (x:=y) (by rw[hes,u];rfl) (Nat.le_refl _) j c d l s
end
def mI(S:Nat->Nat)(d:Nat):Nat->List Nat
 | 0=>[]
 | m+1=>mt (fc S (S d)) :: mI S (S d) m
theorem Ea{S:Nat->Nat}{x:Nat}:∀{m d:Nat},x ∈ mI S d m↔∃t,t<m/\x=mt (fc S (itr S (t+1) d))
 | 0,d=>by simp[mI]
 | m+1,d=>by
  rw[mI,List.mem_cons,Ea (m:=m)];constructor
  ·rintro (h|⟨t,a,h⟩)
   ·exact⟨0,by omega,h⟩
   ·exact⟨t+1,by omega,by rw[h,DU S (t+1) d]⟩
  ·rintro⟨t,a,h⟩;rcases t with _|t
   ·exact .inl h
   ·exact .inr ⟨t,by omega,by rw[h,DU S (t+1) d]⟩
theorem q4z{S:Nat->Nat}:∀(m d:Nat),(mI S d m).length=m
 | 0,_=>rfl
 | m+1,d=>by rw[mI,List.length_cons,q4z m]
section
variable {n:Nat} {S:Nat->Nat} (T:jO n S)
include T
theorem jO.jo{d:Nat}(a:d<n):vnum S (mt (fc S (S d)))=vnum S (mt d)/\vnum S (mt (mt (fc S (S d))))=vnum S (mt (S d)):=by
 have b:=T.slt a;constructor
 ·rw[<-T.Iu a,T.vf (T.gD b)]
 ·rw[dF,T.vf b]
theorem jO.sS:∀{m d:Nat},d<n->iJ S (mI S d m)
 | 0,_,_=>trivial
 | 1,_,_=>trivial
 | m+2,d,a=>by refine⟨?_,jO.sS (m:=m+1) (T.slt a)⟩;rw[(T.jo a).2,(T.jo (T.slt a)).1]
theorem jO.rM:∀{m d:Nat},d<n->(mI S d m).map (vnum S)=(List.range m).map fun t=>vnum S (mt (itr S t d))
 | 0,_,_=>rfl
 | m+1,d,a=>by rw[mI,List.map_cons,jO.rM (T.slt a),List.range_succ_eq_map,List.map_cons,List.map_map,(T.jo a).1];congr 1;apply List.map_congr_left;intro t _;show vnum S (mt (itr S t (S d)))=vnum S (mt (itr S (t+1) d));rw[DU]
end
theorem iJ.app{S:Nat->Nat}{B:List Nat}{f:Nat}(c:iJ S (f :: B)):∀{A:List Nat},iJ S A->(∀C e,A=C ++ [e]->vnum S (mt e)=vnum S f)->iJ S (A ++ f :: B)
 | [],_,_=>c
 | [a],_,h=>⟨h [] a rfl,c⟩
 | a :: b :: A,h,d=>⟨h.1,iJ.app c (A:=b :: A) h.2 (fun C e g=>d (a :: C) e (by rw[g];rfl))⟩
theorem LJ{S:Nat->Nat}:∀{m d:Nat} {C:List Nat} {e:Nat},mI S d m=C ++ [e]->∃t,m=t+1/\e=mt (fc S (itr S (t+1) d))
 | 0,d,C,e,h=>by simp[mI]at h
 | 1,d,C,e,h=>by rw[mI,mI]at h;have:=(List.append_inj' (s₁:=[]) h rfl).2;simp at this;exact⟨0,rfl,this.symm⟩
 | m+2,d,[],e,h=>by have:=congrArg List.length h;simp[mI]at this
 | m+2,d,c :: C,e,h=>by rw[mI,List.cons_append,List.cons.injEq]at h;obtain⟨t,b,a⟩:=LJ h.2;exact⟨t+1,by omega,by rw[a,DU S (t+1) d]⟩
section
variable {n:Nat} {S:Nat->Nat} {r:Nat} {es:List Nat} {G:Nat->Prop} (h:Shl n S r es G) (T:jO n S) (hr:r<n)
include h T hr
omit hr in
theorem Shl.lg{A B:List Nat}{p q y e:Nat}(a:es=A ++ p :: q :: B)(l:lS n S r es G q)(f:y<n)(g:vnum S y=vnum S q)(k:e ∈ es)(b:vnum S (mt y)=vnum S e):y=mt p\/y=q:=by
 have c:q ∈ es:=by rw[a];simp
 by_cases i:eH S r G y <;> by_cases j:eH S r G (mt y)
 ·rcases h.both y f i j with d|d
  ·rw[g]at d;exact absurd d (h.live q c)
  ·rw[b]at d;exact absurd d (h.live e k)
 ·exact .inl (h.Iy T a f g i j)
 ·exact .inr (h.Iz c f g i j)
 ·exact absurd b (l y f g i j e k)
theorem Shl.step{A B:List Nat}{p q M:Nat}(z:es=A ++ p :: q :: B)(hB:B≠[])(hq:lS n S r es G q)(hM:M<per S (mt p))(aw:itr S M (mt p)=q)(ax:3<=(A ++ (mI S (mt p) M ++ B)).length) :
  Shl n S r (A ++ (mI S (mt p) M ++ B)) (fun v=>G v\/v=vnum S q):=by
 have hp:p ∈ es:=by rw[z];simp
 have am:q ∈ es:=by rw[z];simp
 have a4:=h.lt p hp;have a5:=h.lt q am;have R:=T.mlt a4;have ay:vnum S (mt p)=vnum S q:=iJ.at (z ▸ h.path);obtain⟨M',a6,aM,av,a7,aN⟩:=h.run T hr z;obtain rfl:M=M':=T.dR.fB R hM aM (by rw[aw,av]);clear av aM
 obtain⟨b,B',O⟩:∃b B',B=b :: B':=by
  cases B with
  | nil=>exact absurd rfl hB
  | cons b B'=>exact⟨b,B',rfl⟩
 have aO:b ∈ es:=by rw[z,O];simp
 have az:vnum S (mt q)=vnum S b:=by have w:=h.path;rw[z,O,show A ++ p :: q :: b :: B'=(A ++ [p]) ++ q :: b :: B' by simp]at w;exact iJ.at w
 obtain⟨d,hd⟩:∃d:Nat->Nat,d=fun t=>itr S t (mt p):=⟨_,rfl⟩
 have E:∀t,d t<n:=fun t=>by rw[hd];exact T.dR.dW R t
 have U:∀t,vnum S (d t)=vnum S q:=fun t=>by rw[hd];exact(T.pE R t).trans ay
 have an:d 0=mt p:=by rw[hd];rfl
 have af:d M=q:=by rw[hd];exact aw
 have ag:∀t,S (d t)=d (t+1):=fun t=>by rw[hd];rfl
 have a8:∀t,t<M->¬eH S r G (mt (d t))/\¬eH S r G (d (t+1)):=by rw[hd];exact a7
 have V:∀s t,s<per S (mt p)->t<per S (mt p)->d s=d t->s=t:=fun s t w L W=>T.dR.fB R w L (by rw[hd]at W;exact W)
 have aA:∀y,y<n->vnum S y=vnum S q->¬eH S r G y->∃t,t<M/\y=d (t+1):=fun y hy hv J=>by
  by_cases Y:eH S r G (mt y)
  ·exact⟨M - 1,by omega,by rw[show M - 1+1=M by omega,af];exact h.Iz am hy hv J Y⟩
  ·obtain⟨t,t1,t2,t3⟩:=h.inside T z aw aN hy hv J Y;exact⟨t - 1,by omega,by rw[show t - 1+1=t by omega,hd];exact t3.symm⟩
 have aP:∀s t,s<per S (mt p)->t<per S (mt p)->vnum S (mt (d s))=vnum S (mt (d t))->s=t:=fun s t w L W=>V s t w L (T.zm _ _ (E s) (E t) ((U s).trans (U t).symm) W)
 have aB:∀t e,t<per S (mt p)->e ∈ es->vnum S (mt (d t))=vnum S e->t=0\/t=M:=fun t e w he L=>by
  rcases h.lg T z hq (E t) (U t) he L with W|W
  ·exact .inl (V t 0 w (by omega) (by rw[W,an]))
  ·exact .inr (V t M w hM (by rw[W,af]))
 have aC:vnum S (mt (d 0))=vnum S p:=by rw[an,dF]
 have ah:vnum S (mt (d M))=vnum S b:=by rw[af,az]
 have X:∀t,vnum S (mt (fc S (d (t+1))))=vnum S (mt (d t))/\vnum S (fc S (d (t+1)))=vnum S (mt (d (t+1)))/\fc S (fc S (d (t+1)))=mt (d t):=fun t=>by rw[<-ag];exact⟨(T.jo (E t)).1,T.vf (T.slt (E t)),T.Iu (E t)⟩
 have K:∀x,x ∈ mI S (mt p) M↔∃t,t<M/\x=mt (fc S (d (t+1))):=fun x=>by rw[Ea,hd]
 obtain⟨G',aQ⟩:∃G':Nat->Prop,G'=fun v=>G v\/v=vnum S q:=⟨_,rfl⟩
 have Z:∀v,G' v↔G v\/v=vnum S q:=fun v=>by rw[aQ]
 have I:∀x,eH S r G' x↔eH S r G x\/vnum S x=vnum S q\/vnum S (fc S x)=vnum S q\/vnum S (fc S (fc S x))=vnum S q:=fun x=>by
  unfold eH;rw[Z,Z,Z];constructor
  ·rintro (w | (w|w) | (w|w) | (w|w))
   ·exact .inl (.inl w)
   ·exact .inl (.inr (.inl w))
   ·exact .inr (.inl w)
   ·exact .inl (.inr (.inr (.inl w)))
   ·exact .inr (.inr (.inl w))
   ·exact .inl (.inr (.inr (.inr w)))
   ·exact .inr (.inr (.inr w))
  ·rintro ((w|w|w|w)|w|w|w)
   ·exact .inl w
   ·exact .inr (.inl (.inl w))
   ·exact .inr (.inr (.inl (.inl w)))
   ·exact .inr (.inr (.inr (.inl w)))
   ·exact .inr (.inl (.inr w))
   ·exact .inr (.inr (.inl (.inr w)))
   ·exact .inr (.inr (.inr (.inr w)))
 have a9:∀x,x<n->(eH S r G' (fc S x)↔eH S r G' x):=fun x u=>T.kN hr u;have aD:(es.map (vnum S)).Nodup:=h.dist;rw[z,List.map_append,List.map_cons,List.map_cons,O,List.map_cons]at aD;rw[List.nodup_append]at aD;obtain⟨nA,nB,ao⟩:=aD;rw[List.nodup_cons,List.nodup_cons,List.nodup_cons]at nB;obtain⟨ap,aE,ba,bc⟩:=nB
 have aF:∀x,x ∈ es->x≠p->x≠q->x ∈ A\/x ∈ B:=fun x u w L=>by
  rw[z,List.mem_append,List.mem_cons,List.mem_cons]at u;rcases u with u|u|u|u
  ·exact .inl u
  ·exact absurd u w
  ·exact absurd u L
  ·exact .inr u
 have Q:∀x,x ∈ A\/x ∈ B->x ∈ es/\vnum S x≠vnum S p/\vnum S x≠vnum S q:=fun x u=>by
  rcases u with u|u
  ·refine⟨by rw[z];simp[u],fun w=>?_,fun w=>?_⟩
   ·exact ao _ (List.mem_map.2 ⟨x,u,rfl⟩) _ (by simp) w
   ·exact ao _ (List.mem_map.2 ⟨x,u,rfl⟩) _ (by simp) w
  ·refine⟨by rw[z];simp[u],fun w=>?_,fun w=>?_⟩
   ·rw[O,List.mem_cons]at u;rcases u with rfl|u
    ·exact ap (by rw[<-w];simp)
    ·exact ap (by rw[<-w];simp;exact .inr (.inr ⟨x,u,rfl⟩))
   ·rw[O,List.mem_cons]at u;rcases u with rfl|u
    ·exact aE (by rw[<-w];simp)
    ·exact aE (by rw[<-w];simp;exact .inr ⟨x,u,rfl⟩)
 have ai:∀x,(x ∈ A\/x ∈ B)->vnum S x=vnum S b->vnum S (mt x)=vnum S p->A=[]/\B=[b]:=fun x u w L=>by
  have aq:x=b:=h.eqv (Q x u).1 aO w;subst aq
  have hA:A=[]:=by
   rcases A with _|⟨a,A⟩
   ·rfl
   ·exfalso;obtain⟨C,c,hC⟩:∃C c,a :: A=C ++ [c]:=⟨_,_,(List.dropLast_concat_getLast (by simp)).symm⟩
    have W:es=C ++ c :: p :: (q :: B):=by rw[z,hC];simp
    have h4:=h.ahead W (Q x u).1 L;have h5:c ∈ a :: A:=by rw[hC];simp
    exact ao _ (List.mem_map.2 ⟨c,h5,rfl⟩) _ (by rw[<-h4];simp) rfl
  refine⟨hA,?_⟩;rw[O];congr 1;rcases Eb:B' with _|⟨f,F⟩
  ·rfl
  ·exfalso;have W:=h.path;rw[z,hA,O,Eb]at W;have h4:vnum S (mt x)=vnum S f:=W.2.2.1;exact ap (by rw[<-L,h4,Eb];simp)
 have aj:¬(A=[]/\B=[b]/\M=1):=by rintro⟨hA,hB,hM1⟩;rw[hA,hB,hM1]at ax;simp[q4z]at ax
 have aa:∀x,x<n->(x ∈ A ++ (mI S (mt p) M ++ B)↔¬eH S r G' x/\eH S r G' (mt x)):=by
  intro x u;constructor
  ·intro H;rw[List.mem_append,List.mem_append]at H
   have key:(x ∈ A\/x ∈ B)\/x ∈ mI S (mt p) M:=by
    rcases H with H|H|H
    ·exact .inl (.inl H)
    ·exact .inr H
    ·exact .inl (.inr H)
   clear H;rcases key with H|H
   ·obtain⟨k1,k2,k3⟩:=Q x H;obtain⟨J,Y⟩:=h.fE k1;refine⟨fun g=>?_,(I _).2 (.inl Y)⟩;rcases(I x).1 g with g|g|g|g
    ·exact J g
    ·exact k3 g
    ·
     rw[T.vf u]at g;exact k2 (by rw[h.ahead z k1 g])
    ·
     have y1:=T.gD (T.gD u);have e1:=h.lg T z hq y1 g k1 (T.zq u);have z1:mt (fc S x)<n:=T.mlt (T.gD u);have z2:vnum S (mt (fc S x))=vnum S q:=by rw[<-T.vf (T.gD u)];exact g
     have aG:∃e,e ∈ es/\vnum S (mt x)=vnum S e:=by
      obtain⟨C,D,ab⟩:=List.append_of_mem k1;cases D with
      | cons f D=>exact⟨f,by rw[ab];simp,iJ.at (ab ▸ h.path)⟩
      | nil =>
       obtain⟨C',hl⟩:=h.last;have e3:=(List.append_inj' (ab.symm.trans hl) rfl).2;simp at e3;rcases hE:es with _|⟨a,l⟩
       ·rw[hE]at k1;cases k1
       ·exact⟨a,by simp,by rw[e3,dF];exact h.zu a l hE⟩
     obtain⟨e,he,bd⟩:=aG;have e2:=h.lg T z hq z1 z2 he (by rw[dF,T.vf u];exact bd);have aR:vnum S x≠vnum S p:=k2;rcases e1 with e1|e1
     ·have:=T.zq u;rw[e1,dF]at this;exact aR this.symm
     ·have aq:vnum S x=vnum S b:=by have:=T.zq u;rw[e1,az]at this;exact this.symm
      rcases e2 with e2|e2
      ·have e3:vnum S (mt x)=vnum S p:=by have:=T.vf u;rw[<-this,<-dF (fc S x),e2,dF]
       obtain⟨hA,aH⟩:=ai x H aq e3;refine aj ⟨hA,aH,?_⟩;have e4:d 1=q:=by have h5:S (mt (fc S x))=fc S (fc S x):=rfl;rw[e2,e1]at h5;rw[<-ag,an];exact h5
       exact(V 1 M (by omega) hM (by rw[e4,af])).symm
      ·have e3:vnum S (mt x)=vnum S b:=by have:=T.vf u;rw[<-this,<-dF (fc S x),e2,az]
       exact T.loop x u (by rw[aq,e3])
   ·obtain⟨t,ht,rfl⟩:=(K x).1 H;obtain⟨v1,v2,v3⟩:=X t;refine⟨fun g=>?_,?_⟩
    ·have aI:¬eH S r G (mt (fc S (d (t+1)))):=fun J=>by
      have Y:¬eH S r G (fc S (d (t+1))):=fun o=>(a8 t ht).2 ((T.kN hr (E _)).1 o);have H:=(h.vN _ (T.gD (E (t+1)))).2 ⟨Y,J⟩;have w1:=aB (t+1) _ (by omega) H v2.symm;have w1:t+1=M:=by omega
      have aG:∃e,e ∈ es/\vnum S (mt (fc S (d (t+1))))=vnum S e:=by
       obtain⟨C,D,ab⟩:=List.append_of_mem H;cases D with
       | cons f D=>exact⟨f,by rw[ab];simp,iJ.at (ab ▸ h.path)⟩
       | nil =>
        obtain⟨C',hl⟩:=h.last;have e3:=(List.append_inj' (ab.symm.trans hl) rfl).2;simp at e3;rcases hE:es with _|⟨a,l⟩
        ·rw[hE]at H;cases H
        ·exact⟨a,by simp,by rw[e3,dF];exact h.zu a l hE⟩
      obtain⟨e,he,be⟩:=aG;have w2:=aB t e (by omega) he (by rw[<-v1,be]);have w2:t=0:=by omega
      subst w2
      have bf:fc S (d 1) ∈ A\/fc S (d 1) ∈ B:=by
       refine aF _ H (fun g=>?_) (fun g=>?_)
       ·have:vnum S p=vnum S b:=by rw[<-g,v2,w1,ah]
        exact ap (by rw[this];simp)
       ·have:vnum S q=vnum S b:=by rw[<-g,v2,w1,ah]
        exact aE (by rw[this];simp)
      obtain⟨hA,aH⟩:=ai _ bf (by rw[v2,w1,ah]) (by rw[v1,aC]);exact aj ⟨hA,aH,w1.symm⟩
     have aS:=T.mlt (T.gD (E (t+1)));rcases(I _).1 g with g|g|g|g
     ·exact aI g
     ·rw[v1]at g;exact T.loop _ (E t) (by rw[U,g])
     ·rw[zo,T.vS (T.gD (E _)),v2]at g;exact T.loop _ (E (t+1)) (by rw[U,g])
     ·
      have aT:=T.gD aS;have e1:fc S (mt (fc S (d (t+1))))=mt (d (t+1)):=by refine T.zm _ _ aT (T.mlt (E _)) (by rw[zo,T.vS (T.gD (E _)),v2]) ?_;rw[dF,U,<-T.vf aT,g]
      have e2:mt (fc S (d (t+1)))=fc S (d (t+2)):=by have W:=T.f3 aS;rw[e1,zo,ag]at W;exact W.symm
      have e3:vnum S (mt (d t))=vnum S (mt (d (t+2))):=by rw[<-v1,e2,T.vf (E _)]
      rcases(show t+1<M\/t+1=M by omega)with h4|h4
      ·have:=aP t (t+2) (by omega) (by omega) e3;omega
      ·
       have J:eH S r G (d (t+2)):=by rw[<-ag,h4,af];exact(T.qQ hr a5).2 (h.fE am).2
       rw[e2]at aI;exact aI ((T.kN hr (E _)).2 J)
    ·rw[dF];exact(a9 _ (E _)).2 ((I _).2 (.inr (.inl (U _))))
  ·rintro⟨J,Y⟩;rw[List.mem_append,List.mem_append];have n1:¬eH S r G x:=fun g=>J ((I _).2 (.inl g));have nq:vnum S x≠vnum S q:=fun g=>J ((I _).2 (.inr (.inl g)));have aU:vnum S (mt x)≠vnum S q:=fun g=>J ((I _).2 (.inr (.inr (.inl (by rw[T.vf u];exact g)))));by_cases o3:eH S r G (mt x)
   ·have H:=(h.vN x u).2 ⟨n1,o3⟩;rcases aF x H (fun g=>aU (by rw[g,ay])) (fun g=>nq (by rw[g]))with H|H
    ·exact .inl H
    ·exact .inr (.inr H)
   ·refine .inr (.inl ((K x).2 ?_));have ar:=T.mlt u;rcases(I _).1 Y with g|g|g|g
    ·exact absurd g o3
    ·exact absurd g aU
    ·rw[zo,T.vS u]at g;exact absurd g nq
    ·obtain⟨t,ht,aJ⟩:=aA _ (T.gD (T.gD ar)) g (fun o=>o3 ((T.kN hr ar).1 ((T.kN hr (T.gD ar)).1 o)));exact⟨t,ht,by rw[<-aJ,T.f3 ar,dF]⟩
 have ad:∀e,e ∈ A ++ (mI S (mt p) M ++ B)->vnum S e≠vnum S q/\¬G (vnum S e)/\e<n:=by
  intro e H
  have aV:e<n:=by
   rw[List.mem_append,List.mem_append]at H;rcases H with H|H|H
   ·exact h.lt e (Q e (.inl H)).1
   ·obtain⟨t,ht,rfl⟩:=(K e).1 H;exact T.mlt (T.gD (E _))
   ·exact h.lt e (Q e (.inr H)).1
  have J:=((aa e aV).1 H).1;exact⟨fun g=>J ((I _).2 (.inr (.inl g))),fun g=>J ((I _).2 (.inl (.inr (.inl g)))),aV⟩
 have aW:∀e,e ∈ es->vnum S e≠vnum S q->∃f,f ∈ A ++ (mI S (mt p) M ++ B)/\vnum S f=vnum S e:=by
  intro e he au;by_cases aX:e=p
  ·exact⟨mt (fc S (d 1)),by rw[List.mem_append,List.mem_append];exact .inr (.inl ((K _).2 ⟨0,a6,rfl⟩)),by rw[(X 0).1,aC,aX]⟩
  ·rcases aF e he aX (fun g=>au (by rw[g]))with H|H
   ·exact⟨e,by simp[H],rfl⟩
   ·exact⟨e,by simp[H],rfl⟩
 rw[<-aQ];refine⟨ax,fun e he=>(ad e he).2.2,?_,?_,?_,?_,aa,?_,?_,?_,?_⟩
 ·
  obtain⟨C,hl⟩:=h.last;obtain⟨D,c,hD⟩:∃D c,B=D ++ [c]:=⟨_,_,(List.dropLast_concat_getLast hB).symm⟩
  have w:(A ++ p :: q :: D) ++ [c]=C ++ [mt r]:=by rw[<-hl,z,hD];simp
  have L:=(List.append_inj' w rfl).2;simp at L;exact⟨A ++ (mI S (mt p) M ++ D),by rw[hD,L];simp⟩
 ·
  rw[List.map_append,List.map_append,T.rM R,List.nodup_append,List.nodup_append];have aY:∀v,v ∈ (List.range M).map (fun t=>vnum S (mt (itr S t (mt p))))->∃t,t<M/\v=vnum S (mt (d t)):=fun v hv=>by obtain⟨t,ht,rfl⟩:=List.mem_map.1 hv;exact⟨t,List.mem_range.1 ht,by rw[hd]⟩
  have aZ:∀t x,t<M->(x ∈ A\/x ∈ B)->vnum S (mt (d t))≠vnum S x:=fun t x ht u g=>by
   obtain⟨k1,k2,k3⟩:=Q x u;rcases aB t x (by omega) k1 g with rfl|rfl
   ·rw[aC]at g;exact k2 g.symm
   ·omega
  refine⟨nA,⟨?_,?_,?_⟩,?_⟩
  ·rw[List.Nodup,List.pairwise_iff_getElem];intro i j hi hj bj g;simp only [List.length_map,List.length_range]at hi hj;simp only [List.getElem_map,List.getElem_range]at g;have:=aP i j (by omega) (by omega) (by rw[hd];exact g);omega
  ·rw[O,List.map_cons];exact List.nodup_cons.2 ⟨ba,bc⟩
  ·intro v hv v2 N g;obtain⟨t,ht,rfl⟩:=aY v hv;obtain⟨x,u,rfl⟩:=List.mem_map.1 N;exact aZ t x ht (.inr u) g
  ·intro v hv v2 N g;obtain⟨x,u,rfl⟩:=List.mem_map.1 hv;rcases List.mem_append.1 N with N|N
   ·obtain⟨t,ht,rfl⟩:=aY v2 N;exact aZ t x ht (.inl u) g.symm
   ·exact ao _ (List.mem_map.2 ⟨x,u,rfl⟩) v2 (by rw[O,List.map_cons]at N;simp at N ⊢;rcases N with N|N <;> simp[N]) g
 ·
  have w:iJ S B:=by have L:=h.path;rw[z,show A ++ p :: q :: B=(A ++ [p,q]) ++ B by simp]at L;exact iJ.right L
  have L:iJ S (A ++ [p]):=by have L:=h.path;rw[z,show A ++ p :: q :: B=(A ++ [p]) ++ (q :: B) by simp]at L;exact iJ.left L
  have W:iJ S (mI S (mt p) M ++ B):=by rw[O]at w ⊢;refine iJ.app w (T.sS R) (fun C e hC=>?_);obtain⟨t,ht,rfl⟩:=LJ hC;rw[dF];have:=(X t).2.1;rw[hd]at this;rw[this];have h4:=ah;rw[hd,ht]at h4;exact h4
  obtain⟨m,H⟩:∃m,M=m+1:=⟨M - 1,by omega⟩
  rw[H,mI]at W ⊢;refine iJ.app W (iJ.left L) (fun C e hC=>?_);rw[hC,show C ++ [e] ++ [p]=C ++ e :: p :: [] by simp]at L;rw[iJ.at L,(T.jo R).1,dF]
 ·
  intro a l hl;rcases A with _|⟨a0,A⟩
  ·obtain⟨m,H⟩:∃m,M=m+1:=⟨M - 1,by omega⟩
   rw[H,mI,List.nil_append,List.cons_append,List.cons.injEq]at hl;rw[<-hl.1,(T.jo R).1,dF];exact h.zu p _ z
  ·rw[List.cons_append,List.cons.injEq]at hl;rw[<-hl.1];exact h.zu a0 _ z
 ·exact fun e he g=>((Z _).1 g).elim (ad e he).2.1 (ad e he).1
 ·intro x u hg au g;have g1:¬G (vnum S x):=fun hh=>hg ((Z _).2 (.inl hh));have g2:vnum S x≠vnum S q:=fun hh=>hg ((Z _).2 (.inr hh));have aK:∀e ∈ es,vnum S x≠vnum S e:=fun e he hh=>by obtain⟨f,hf,bg⟩:=aW e he (by rw[<-hh];exact g2);exact au f hf (by rw[hh,bg])
  have n1:=h.inn x u g1 aK
  have ak:∀y,y<n->vnum S y=vnum S q->vnum S (mt y)=vnum S x->False:=fun y hy hv ae=>by
   by_cases J:eH S r G y
   ·by_cases Y:eH S r G (mt y)
    ·rcases h.both y hy J Y with w|w
     ·rw[hv]at w;exact h.live q am w
     ·rw[ae]at w;exact g1 w
    ·have:=h.Iy T z hy hv J Y;rw[this,dF]at ae;exact aK p hp ae.symm
   ·obtain⟨t,ht,rfl⟩:=aA y hy hv J;rcases(show t+1<M\/t+1=M by omega)with h4|h4
    ·exact au (mt (fc S (d (t+2)))) (by rw[List.mem_append,List.mem_append];exact .inr (.inl ((K _).2 ⟨t+1,h4,rfl⟩))) (by rw[(X (t+1)).1,ae])
    ·rw[h4,ah]at ae;exact aK b aO ae.symm
  rcases(I x).1 g with g|g|g|g
  ·exact n1 g
  ·exact g2 g
  ·exact ak (mt x) (T.mlt u) (by rw[<-T.vf u];exact g) (by rw[dF])
  ·exact ak _ (T.gD (T.gD u)) g (T.zq u)
 ·intro x u J Y;rw[Z,Z]
  have key:∀x,x<n->eH S r G' x->eH S r G' (mt x)->¬eH S r G x->(G (vnum S x)\/vnum S x=vnum S q)\/(G (vnum S (mt x))\/vnum S (mt x)=vnum S q):=by
   intro x u J Y n1;rcases(I x).1 J with g|g|g|g
   ·exact absurd g n1
   ·exact .inl (.inr g)
   ·rw[T.vf u]at g;exact .inr (.inr g)
   ·obtain⟨t,ht,aJ⟩:=aA _ (T.gD (T.gD u)) g (fun o=>n1 ((T.kN hr u).1 ((T.kN hr (T.gD u)).1 o)));have e1:mt x ∈ A ++ (mI S (mt p) M ++ B):=by rw[List.mem_append,List.mem_append];exact .inr (.inl ((K _).2 ⟨t,ht,by rw[<-aJ,T.f3 u]⟩))
    exact absurd Y ((aa _ (T.mlt u)).1 e1).1
  by_cases n1:eH S r G x
  ·by_cases n2:eH S r G (mt x)
   ·rcases h.both x u n1 n2 with w|w
    ·exact .inl (.inl w)
    ·exact .inr (.inl w)
   ·have:=key (mt x) (T.mlt u) Y (by rw[dF];exact J) n2;rw[dF]at this;exact this.elim .inr .inl
  ·exact key x u J Y n1
 ·intro P al a1 bh;have a2:=h.D9 P al (fun x u J Y=>a1 x u ((I _).2 (.inl J)) ((I _).2 (.inl Y))) bh;have a3:∀t,eH S r G' (d t)/\eH S r G' (mt (d t)):=fun t=>⟨(I _).2 (.inr (.inl (U t))),(I _).2 (.inr (.inr (.inl (by rw[zo,T.vS (E t)];exact U t))))⟩
  have bi:∀t,P (d t):=by
   intro t
   induction t with
   | zero=>exact a2 _ (E 0) (by rw[an];exact(h.fE hp).2)
   | succ t ih =>
    have w:=a1 _ (E t) (a3 t).1 (a3 t).2 ih;have L:=al _ (T.mlt (E t)) w;rwa [zo,ag]at L
  have aL:∀y,y<n->vnum S y=vnum S q->P y:=fun y hy hv=>by obtain⟨k,-,hk⟩:=T.turn R hy (ay.trans hv.symm);have:=bi k;rw[hd]at this;rw[<-hk];exact this
  intro x u J;rcases(I x).1 J with g|g|g|g
  ·exact a2 x u g
  ·exact aL x u g
  ·have:=al _ (T.gD (T.gD u)) (al _ (T.gD u) (aL _ (T.gD u) g));rwa [T.f3 u]at this
  ·have:=al _ (T.gD (T.gD u)) (aL _ (T.gD (T.gD u)) g);rwa [T.f3 u]at this
end
end
