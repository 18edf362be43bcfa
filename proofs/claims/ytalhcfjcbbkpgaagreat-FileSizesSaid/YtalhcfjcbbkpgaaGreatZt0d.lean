import Derived.Test.YtalhcfjcbbkpgaaGreatZt0b
import Derived.Lib.BitFns
set_option maxRecDepth 100000
set_option maxHeartbeats 4000000
namespace Go.Proofs.YtalhcfjcbbkpgaaGreat
section
open Go.RowKit
open Go.Maps (Keyed)
theorem Gy(w:World):(zeroValue 3).run Tryz.prog w=.ok (.int .i64 0) w:=by kernel_rfl
theorem Gz{k:Nat}(b:k<=1000000000000):(Lit.int .i64 (k:Int)).wf=true:=by have a:(Lit.int .i64 (k:Int)).wf=(decide (IntKind.i64.min<=(k:Int)) && decide ((k:Int)<=IntKind.i64.max)):=rfl;rw[a,show IntKind.i64.min=-9223372036854775808 by decide,show IntKind.i64.max=9223372036854775807 by decide];simp;omega
end
section
open Go.RowKit
theorem SQ{a:List (Nat × Nat)}{d k x:Nat}(h:j4 a (d / 2)=some x)(e:Nat):j4 a e=j4 (a ++ [(d,k)]) e:=by
 rw[IL];by_cases b:d / 2=e
 ·subst b;rw[h]
 ·rw[if_neg b];cases j4 a e <;> rfl
end
section
open Go.RowKit
end
section
open Go.RowKit
theorem vB{α:Type}{l:List α}{i:Nat}{x:α}(h:l[i]? = some x):l.take (i+1)=l.take i ++ [x]:=by rw[List.take_add_one,h];rfl
theorem tL:(Tryz.prog.info? 5).map (fun i=>(i.zero,i.size,i.bytes))=some (some (.int .u8 0),1,1):=by kernel_rfl
def ys(bs:List Nat):List Value:=(dD bs).map fun z=>Value.int .u8 z
theorem GA(bs:List Nat):(ys bs).length=bs.length:=by simp[ys,dD]
theorem GD(a c:List Nat):ys (a ++ c)=ys a ++ ys c:=by simp[ys,dD]
def eP(B:Nat)(w:World)(v:Value)(bs:List Nat):Prop:=w.ownsRow B 5 1 v bs.length (ys bs)
theorem eP.nil(B:Nat)(w:World):eP B w (.slice none 0 0) []:=World.ownsRow_nil _ _ _ _
theorem eP.sl{B:Nat}{w:World}{v:Value}{bs:List Nat}(h:eP B w v bs):Sl .u8 w v (dD bs):=Sl.rJ h
theorem eP.keeps{B:Nat}{w w':World}{v:Value}{bs:List Nat}{F:Nat->Prop}(h:eP B w v bs)(k:Keeps F w w')(a:∀b,v.ownBlock=some b->¬F b):eP B w' v bs:=k.owns h a
theorem eP.lt{B:Nat}{w:World}{v:Value}{bs:List Nat}(h:eP B w v bs):∀k,v.ownBlock=some k->B<=k/\k<w.heap.size:=World.ownsRow.lt h
theorem eP.alloc{B:Nat}{w:World}{v:Value}{bs:List Nat}(h:eP B w v bs)(o:Obj):eP B (w.alloc o) v bs:=World.ownsRow.alloc h o
theorem eP.form{B:Nat}{w:World}{v:Value}{bs:List Nat}(h:eP B w v bs):∃a cap,v=.slice a bs.length cap/\bs.length<=cap/\cap<=9223372036854775807:=by obtain⟨a,cap,b,c,d,_,_⟩:=h.sl;rw[show (dD bs).length=bs.length by simp[dD]]at b c;exact⟨a,cap,b,c,d⟩
theorem eP.mono{B B':Nat}{w:World}{v:Value}{bs:List Nat}(h:eP B w v bs)(b:∀k,v.ownBlock=some k->B'<=k):eP B' w v bs:=by
 obtain⟨c,a⟩:=h;refine⟨c,?_⟩;rcases a with a|⟨g,cap,cur,rfl,d,r⟩
 ·exact .inl a
 ·exact .inr ⟨g,cap,cur,rfl,b g rfl,r⟩
theorem SV{d:Array Oper}{rest:List Oper}{o:Oper}{a:Act}{Q:Exit->Act->World->Prop}{wr:World}(n:Nat)(f:o.guard=none)(s x:Operand)
  (y:o.op=.call { callee:=.builtin .append,args:=#[s,x],argTypes:=#[30,30] })(B:Nat)(v:Value)(bs:List Nat)(z:Nat)(j:Hid (bs.length=n))(H:Nat)(A:wr.heap.size=H)(C:a.eval s=v)(D:a.eval x=.slice (some ⟨H,0,none⟩) 1 1)
  (e:eP B wr v bs)(t:n<=10000000000)(I:B<=wr.heap.size)
  (h:∀g cap w',eP B w' (.slice (some ⟨g,0,none⟩) (n+1) cap) (bs ++ [z])->Keeps (fun k=>v.ownBlock=some k) wr w'->(v.ownBlock=some g\/wr.heap.size<=g)->B<=g ->
   wpList Tryz.prog d Q rest (a.put o.dst (.slice (some ⟨g,0,none⟩) (n+1) cap)) w') :
  wpList Tryz.prog d Q (o :: rest) a (wr.alloc (.cells #[.int .u8 (z:Int)] 5)):=by
 obtain⟨i,E,l,m,p⟩:=info_parts tL;have j:=j.out;subst j;subst A;refine wpList_append_lies _ f s x _ y B 5 i (.int .u8 0) 1 1 Tryz.underlying30 E l m p rfl (by decide) v bs.length _ C (e.alloc _) ⟨wr.heap.size,0,none⟩ 1 1 [.int .u8 (z:Int)] D rfl (cell_one_new _ _ _) ?_ (by decide) ?_ ?_ ?_ (wr.heap.size+1) (by simp) ?_
 ·intro u w;simp at w;subst w;rfl
 ·unfold maxLen;omega
 ·omega
 ·simp;omega
 ·intro g cap w1 b c q _;refine h g cap w1 ?_ (((Keeps.refl _ wr).alloc _).grown c (fun k F=>.inl F)) (q.imp id (fun h=>by omega)) ?_
  ·unfold eP;rw[List.length_append,GD];exact b
  ·exact(b.lt g rfl).1
theorem Sl.rY{w:World}{d:Addr}{n cap:Nat}{bs:List Nat}(h:Sl .u8 w (.slice (some d) n cap) (dD bs)):n=bs.length/\∀j u,(ys bs)[j]? = some u->w.cell? (d.add j)=some u:=by
 obtain⟨o,e,f,_,_,_,l⟩:=h;simp only [Value.slice.injEq]at f;obtain⟨rfl,rfl,rfl⟩:=f;refine⟨by simp[dD],fun j u g=>?_⟩;simp only [ys,List.getElem?_map,Option.map_eq_some_iff]at g;obtain⟨z,m,rfl⟩:=g;obtain⟨i,a,k,b⟩:=l j z m;simp only [Option.some.injEq]at k;subst k;have c:(⟨i,a,none⟩:Addr).add j=⟨i,a+j,none⟩:=by unfold Addr.add;split <;> simp_all
 rw[c];exact b
theorem Sl.vC{w:World}{n cap:Nat}{bs:List Nat}(h:Sl .u8 w (.slice none n cap) (dD bs)):bs=[]/\n=0/\cap=0:=by
 obtain⟨f,a,b,_,_,c,d⟩:=h;simp only [Value.slice.injEq]at b;obtain⟨rfl,rfl,rfl⟩:=b
 have e:bs=[]:=by
  cases bs with
  | nil=>rfl
  | cons y bs=>obtain⟨g,off,h,_⟩:=d 0 (y:Int) rfl;cases h
 subst e;exact⟨rfl,rfl,c rfl⟩
theorem IZ(bs:List Nat):∀u ∈ ys bs,u.oneCell'=true:=by intro u a;simp only [ys,List.mem_map]at a;obtain⟨z,_,rfl⟩:=a;rfl
theorem I4{j:Array Oper}{rest:List Oper}{o:Oper}{a:Act}{Q:Exit->Act->World->Prop}{wr:World}(l:o.guard=none)(s x:Operand)
  (z:o.op=.call { callee:=.builtin .append,args:=#[s,x],argTypes:=#[30,30] })(B:Nat)(v sv:Value)(bs g:List Nat)(A:a.eval s=v)(m:a.eval x=sv)
  (b:eP B wr v bs)(c:Sl .u8 wr sv (dD g))(C:bs.length+g.length<=10000000000)(E:B<=wr.heap.size)
  (h:∀v' w',eP B w' v' (bs ++ g)->Keeps (fun k=>v.ownBlock=some k) wr w'->(v'.ownBlock=v.ownBlock\/∃k,v'.ownBlock=some k/\wr.heap.size<=k)->wpList Tryz.prog j Q rest (a.put o.dst v') w') :
  wpList Tryz.prog j Q (o :: rest) a wr:=by
 obtain⟨i,D,p,q,t⟩:=info_parts tL;obtain⟨u,cap,rfl,_⟩:=id c;cases u with
 | none =>
  obtain⟨rfl,F,w⟩:=c.vC;rw[w]at m;refine wpList_append_own_none l s x _ z B 5 i 1 Tryz.underlying30 D v bs.length _ A b m ?_;exact h v wr (by simpa using b) (Keeps.refl _ _) (.inl rfl)
 | some u =>
  obtain⟨H,d⟩:=c.rY;refine wpList_append_own_at _ l s x _ z B 5 i (.int .u8 0) 1 1 Tryz.underlying30 D p q t rfl (by decide) v bs.length _ A b u g.length cap (ys g) (by rw[m,H]) (by simp[GA]) d (IZ g) ?_ ?_ E ?_
  ·unfold maxLen;omega
  ·omega
  ·intro v' w' e f _ y;refine h v' w' ?_ ((Keeps.refl _ wr).grown f (fun k I=>.inl I)) (y.imp id (fun h=>⟨_,h,Nat.le_refl _⟩));unfold eP;rw[List.length_append,GD];exact e
theorem xV{g:Array Oper}{rest:List Oper}{o:Oper}{a:Act}{Q:Exit->Act->World->Prop}{wr:World}(p:o.guard=none)(s x:Operand)
  (D:o.op=.call { callee:=.builtin .append,args:=#[s,x],argTypes:=#[30,30] })(q:Option Addr)(n m c:Nat)(t:Addr)(bs l:List Nat)(E:a.eval s=.slice q n n)(F:a.eval x=.slice (some t) m c)
  (d:Sl .u8 wr (.slice q n n) (dD bs))(u:Sl .u8 wr (.slice (some t) m c) (dD l))(H:0<m)(z:n+m<=10000000000)
  (h:∀v' w',eP wr.heap.size w' v' (bs ++ l)->Keeps (fun _=>False) wr w'->wpList Tryz.prog g Q rest (a.put o.dst v') w') :
  wpList Tryz.prog g Q (o :: rest) a wr:=by
 obtain⟨i,I,v,w,y⟩:=info_parts tL;obtain⟨A,e⟩:=u.rY;have B:n=bs.length:=by obtain⟨_,_,C,_⟩:=d;simp only [Value.slice.injEq]at C;rw[C.2.1];simp[dD]
 refine wpList_append_grows wr p s x _ D 5 i (.int .u8 0) 1 1 Tryz.underlying30 I v w y rfl (by decide) q n n (ys bs) E ?_ (by rw[GA,B];omega) ?_ t m c (ys l) F (by rw[GA,A];omega) e (IZ l) (by omega) (by unfold maxLen;omega) (by omega) ?_
 ·rintro rfl;exact⟨d.vC.2.1,d.vC.2.1⟩
 ·rintro b rfl;exact d.rY.2
 ·intro v' w' j f;refine h v' w' ?_ ((Keeps.refl _ wr).grown f (fun k J=>by cases J));unfold eP;rw[List.length_append,GD,<-B,<-A];exact j
end
section
def mZ(x:Nat):List Nat:=if x<128 then [x]else (x % 128+128) :: mZ (x / 128)
termination_by x
decreasing_by omega
theorem zR{x:Nat}(h:x<128):mZ x=[x]:=by unfold mZ;rw[if_pos h]
theorem I5{x:Nat}(h:¬x<128):mZ x=(x % 128+128) :: mZ (x / 128):=by rw[mZ];rw[if_neg h]
theorem qe(x:Nat):∀b ∈ mZ x,b<256:=by
 induction x using Nat.strongRecOn with
 | ind x c =>
  intro b a;by_cases h:x<128
  ·rw[zR h]at a;simp at a;omega
  ·rw[I5 h]at a;rcases List.mem_cons.1 a with rfl|a
   ·omega
   ·exact c (x / 128) (by omega) b a
theorem SX:∀(k x:Nat),x<128 ^ (k+1)->(mZ x).length<=k+1:=by
 intro k
 induction k with
 | zero=>intro x h;rw[zR (by omega)];simp
 | succ k b =>
  intro x h;by_cases a:x<128
  ·rw[zR a];simp
  ·rw[I5 a,List.length_cons];have:=b (x / 128) (by rw[Nat.pow_succ]at h;omega);omega
theorem xW{x:Nat}(h:x<18446744073709551616):(mZ x).length<=10:=SX 9 x (Nat.lt_of_lt_of_le h (by decide))
def qM(l:List Bool):Nat:=(List.range 8).foldr (fun i a=>(l.getD i false).toNat+2 * a) 0
def gH(l:List Bool):List Nat:=(List.range ((l.length+7) / 8)).map fun j=>qM (l.drop (8 * j))
theorem CK(l:List Bool):(gH l).length=(l.length+7) / 8:=by simp[gH]
theorem MR(l:List Bool):qM l<256:=by
 have h:∀i,(l.getD i false).toNat<=1:=fun i=>by cases l.getD i false <;> simp
 have:=h 0;have:=h 1;have:=h 2;have:=h 3;have:=h 4;have:=h 5;have:=h 6;have:=h 7;show (l.getD 0 false).toNat+2 * ((l.getD 1 false).toNat+2 * ((l.getD 2 false).toNat+2 * ((l.getD 3 false).toNat+2 * ((l.getD 4 false).toNat+2 * ((l.getD 5 false).toNat+2 * ((l.getD 6 false).toNat+2 * ((l.getD 7 false).toNat+2 * 0)))))))<256;omega
theorem SY(l:List Bool){i:Nat}(a:i<8):qM l / 2 ^ i % 2=(l.getD i false).toNat:=by
 have h:∀i,(l.getD i false).toNat<=1:=fun i=>by cases l.getD i false <;> simp
 have:=h 0;have:=h 1;have:=h 2;have:=h 3;have:=h 4;have:=h 5;have:=h 6;have:=h 7;show ((l.getD 0 false).toNat+2 * ((l.getD 1 false).toNat+2 * ((l.getD 2 false).toNat+2 * ((l.getD 3 false).toNat+2 * ((l.getD 4 false).toNat+2 * ((l.getD 5 false).toNat+2 * ((l.getD 6 false).toNat+2 * ((l.getD 7 false).toNat+2 * 0)))))))) / 2 ^ i % 2=_
 match i,a with
 | 0,_=>simp only [Nat.pow_zero];omega
 | 1,_=>simp only [show 2 ^ 1=2 from rfl];omega
 | 2,_=>simp only [show 2 ^ 2=4 from rfl];omega
 | 3,_=>simp only [show 2 ^ 3=8 from rfl];omega
 | 4,_=>simp only [show 2 ^ 4=16 from rfl];omega
 | 5,_=>simp only [show 2 ^ 5=32 from rfl];omega
 | 6,_=>simp only [show 2 ^ 6=64 from rfl];omega
 | 7,_=>simp only [show 2 ^ 7=128 from rfl];omega
theorem I6(l:List Bool):∀b ∈ gH l,b<256:=fun b a=>by obtain⟨j,_,rfl⟩:=List.mem_map.1 a;exact MR _
end
section
theorem S9:∀(f x:Nat),Lib.bitLenAux f x<=f:=by
 intro f
 induction f with
 | zero=>intro x;exact Nat.le_refl _
 | succ f a =>
  intro x;unfold Lib.bitLenAux;split
  ·omega
  ·have:=a (x / 2);omega
def ou(n:Nat):Nat:=if n<2 then 0 else Lib.bitLen (n - 1)
theorem MS(n:Nat):ou n<=64:=by
 unfold ou;split
 ·omega
 ·exact S9 64 _
def xX(n x:Nat):List Bool:=nE (x / 2) (ou n) ++ [x % 2 == 1]
theorem Ta(n x:Nat):(xX n x).length=ou n+1:=by simp[xX,Gp]
def oV(n:Nat)(f:Nat->Nat)(m:Nat):List Bool:=(List.range m).flatMap fun e=>xX n (f e)
theorem qb(n:Nat)(f:Nat->Nat)(m:Nat):oV n f (m+1)=oV n f m ++ xX n (f m):=by simp[oV,List.range_succ]
theorem q6z(n:Nat)(f:Nat->Nat)(m:Nat):(oV n f m).length=m * (ou n+1):=by
 induction m with
 | zero=>simp[oV]
 | succ m a=>rw[qb,List.length_append,a,Ta,Nat.succ_mul]
end
section
def iW(S:Nat->Nat):List Nat->Prop
 | []=>True
 | [_]=>True
 | e :: f :: l=>dB S (mt e)=dB S f/\iW S (f :: l)
theorem iW.tail{S:Nat->Nat}{e:Nat}:∀{l:List Nat},iW S (e :: l)->iW S l
 | [],_=>trivial
 | _ :: _,h=>h.2
theorem iW.right{S:Nat->Nat}{B:List Nat}:∀{A:List Nat},iW S (A ++ B)->iW S B
 | [],h=>h
 | _ :: _,h=>iW.right (iW.tail h)
theorem iW.left{S:Nat->Nat}{B:List Nat}:∀{A:List Nat},iW S (A ++ B)->iW S A
 | [],_=>trivial
 | [_],_=>trivial
 | _ :: f :: A,h=>⟨h.1,iW.left (A:=f :: A) h.2⟩
theorem iW.at{S:Nat->Nat}{A B:List Nat}{e f:Nat}(h:iW S (A ++ e :: f :: B)):dB S (mt e)=dB S f:=(iW.right h).1
def vD(S:Nat->Nat)(L:List Nat):Prop:=iW S L/\∀a z l m,L=a :: l->L=m ++ [z]->dB S (mt z)=dB S a
def Et(n:Nat)(S:Nat->Nat):Prop:=∀L:List Nat,(∀e ∈ L,e<n)->vD S L->∃h:Nat->Nat,∀x,x<n->h (S (mt x))=h x/\(h (mt x)+h x) % 2=(L.count x+L.count (mt x)) % 2
structure jB (n:Nat)(S:Nat->Nat):Prop where
 dW:dU n S
 even:n % 2=0
 conn:∀x y,x<n->y<n->dJ n S x y
 CO:Et n S
 tri:∀x,x<n->S (mt (S (mt (S (mt x)))))=x
 loop:∀x,x<n->dB S x≠dB S (mt x)
 xI:∀x y,x<n->y<n->dB S x=dB S y->dB S (mt x)=dB S (mt y)->x=y
def fc(S:Nat->Nat)(x:Nat):Nat:=S (mt x)
theorem zS(S:Nat->Nat)(x:Nat):fc S (mt x)=S x:=by unfold fc;rw[dG]
theorem MX{f:Nat}{B B':List Nat}:∀{X Y:List Nat},(X ++ f :: B).Nodup->X ++ f :: B=Y ++ f :: B'->X=Y
 | [],[],_,_=>rfl
 | [],y :: Y,a,h=>by rw[List.nil_append,List.cons_append,List.cons.injEq]at h;obtain⟨rfl,rfl⟩:=h;simp at a
 | x :: X,[],a,h=>by rw[List.nil_append,List.cons_append,List.cons.injEq]at h;obtain⟨rfl,rfl⟩:=h;simp at a
 | x :: X,y :: Y,a,h=>by rw[List.cons_append,List.cons_append,List.cons.injEq]at h;obtain⟨rfl,h⟩:=h;rw[MX (List.nodup_cons.1 a).2 h]
section
variable {n:Nat} {S:Nat->Nat} (T:jB n S)
include T
theorem jB.mlt{x:Nat}(h:x<n):mt x<n:=dR T.even h
theorem jB.slt{x:Nat}(h:x<n):S x<n:=T.dW.lt x h
theorem jB.gJ{x:Nat}(h:x<n):fc S x<n:=T.slt (T.mlt h)
theorem jB.vS{x:Nat}(h:x<n):dB S (S x)=dB S x:=((T.dW.eY h (T.slt h)).2 (dK.step S x)).symm
theorem jB.pU{x:Nat}(h:x<n)(k:Nat):dB S (dN S k x)=dB S x:=((T.dW.eY h (T.dW.eD h k)).2 ⟨k,rfl⟩).symm
theorem jB.vf{x:Nat}(h:x<n):dB S (fc S x)=dB S (mt x):=T.vS (T.mlt h)
theorem jB.f3{x:Nat}(h:x<n):fc S (fc S (fc S x))=x:=T.tri x h
theorem jB.zT{x:Nat}(h:x<n):dB S (mt (fc S (fc S x)))=dB S x:=by rw[<-T.vf (T.gJ (T.gJ h)),T.f3 h]
theorem jB.Eu{x y:Nat}(a:x<n)(b:y<n)(h:fc S x=fc S y):x=y:=by rw[<-T.f3 a,h,T.f3 b]
theorem jB.I7{x:Nat}(h:x<n):fc S (fc S (S x))=mt x:=by have:=T.f3 (T.mlt h);rwa [zS]at this
theorem jB.turn{x y:Nat}(a:x<n)(b:y<n)(h:dB S x=dB S y):∃k,k<per S x/\dN S k x=y:=T.dW.iJ a ((T.dW.eY a b).1 h)
end
def eT(S:Nat->Nat)(r:Nat)(G:Nat->Prop)(x:Nat):Prop :=
 (x=r\/x=fc S r\/x=fc S (fc S r))\/G (dB S x)\/G (dB S (fc S x))\/G (dB S (fc S (fc S x)))
structure Shl (n:Nat)(S:Nat->Nat)(r:Nat)(es:List Nat)(G:Nat->Prop):Prop where
 I8:3<=es.length
 lt:∀e ∈ es,e<n
 last:∃A,es=A ++ [mt r]
 dist:(es.map (dB S)).Nodup
 path:iW S es
 zU:∀a l,es=a :: l->dB S r=dB S a
 wH:∀x,x<n->(x ∈ es↔¬eT S r G x/\eT S r G (mt x))
 live:∀e ∈ es,¬G (dB S e)
 inn:∀x,x<n->¬G (dB S x)->(∀e ∈ es,dB S x≠dB S e)->¬eT S r G x
 both:∀x,x<n->eT S r G x->eT S r G (mt x)->G (dB S x)\/G (dB S (mt x))
 Ew:∀P:Nat->Prop,(∀x,x<n->P x->P (fc S x))->(∀x,x<n->eT S r G x->eT S r G (mt x)->P x->P (mt x))->P r->∀x,x<n->eT S r G x->P x
def mD(n:Nat)(S:Nat->Nat)(r:Nat)(es:List Nat)(G:Nat->Prop)(q:Nat):Prop :=
 ∀y,y<n->dB S y=dB S q->¬eT S r G y->¬eT S r G (mt y)->∀e ∈ es,dB S (mt y)≠dB S e
section
variable {n:Nat} {S:Nat->Nat} (T:jB n S) {r:Nat} (hr:r<n) {G:Nat->Prop}
include T hr
theorem jB.xY{x:Nat}(a:x<n)(h:eT S r G x):eT S r G (fc S x):=by
 rcases h with (h|h|h)|h|h|h
 ·exact .inl (.inr (.inl (by rw[h])))
 ·exact .inl (.inr (.inr (by rw[h])))
 ·exact .inl (.inl (by rw[h,T.f3 hr]))
 ·exact .inr (.inr (.inr (by rw[T.f3 a];exact h)))
 ·exact .inr (.inl h)
 ·exact .inr (.inr (.inl h))
theorem jB.kX{x:Nat}(a:x<n):eT S r G (fc S x)↔eT S r G x:=by refine⟨fun h=>?_,T.xY hr a⟩;have:=T.xY hr (T.gJ (T.gJ a)) (T.xY hr (T.gJ a) h);rwa [T.f3 a]at this
theorem jB.ru{x:Nat}(a:x<n):eT S r G (S x)↔eT S r G (mt x):=by rw[<-zS S x];exact T.kX hr (T.mlt a)
end
section
variable {n:Nat} {S:Nat->Nat} {r:Nat} {es:List Nat} {G:Nat->Prop} (h:Shl n S r es G) (T:jB n S) (hr:r<n)
include h
theorem Shl.eqv{e f:Nat}(g:e ∈ es)(k:f ∈ es)(b:dB S e=dB S f):e=f:=by
 obtain⟨i,c,rfl⟩:=List.mem_iff_getElem.1 g;obtain⟨j,d,rfl⟩:=List.mem_iff_getElem.1 k;have:=(List.pairwise_iff_getElem.1 h.dist)
 rcases Nat.lt_trichotomy i j with a|rfl|a
 ·exact absurd (by rw[List.getElem_map,List.getElem_map];exact b) (this i j (by simpa using c) (by simpa using d) a)
 ·rfl
 ·exact absurd (by rw[List.getElem_map,List.getElem_map];exact b.symm) (this j i (by simpa using d) (by simpa using c) a)
theorem Shl.fF{e:Nat}(a:e ∈ es):¬eT S r G e/\eT S r G (mt e):=(h.wH e (h.lt e a)).1 a
theorem Shl.ahead{A B:List Nat}{p q e:Nat}(c:es=A ++ p :: q :: B)(t:e ∈ es)(j:dB S (mt e)=dB S q):e=p:=by
 obtain⟨o,B',d⟩:=List.append_of_mem t;have u:p ∈ es:=by rw[c];simp
 have s:q ∈ es:=by rw[c];simp
 rcases B' with _|⟨f,B'⟩
 ·
  obtain⟨v,w⟩:=h.last;have k:e=mt r:=by have:=d.symm.trans w;exact(List.append_inj' this rfl).2 |> fun x=>by simpa using x
  rw[k,dG]at j;rcases A with _|⟨a,A⟩
  ·have g:=h.zU p _ c;have i:=h.eqv u s (by rw[<-g,j]);exact absurd i (by rintro rfl;have:=h.dist;rw[c]at this;simp at this)
  ·have g:=h.zU a _ (by rw[c];rfl);have i:dB S a=dB S q:=by rw[<-g,j]
   have:=h.dist;rw[c]at this;simp at this;exact absurd i this.1.2.2.1
 ·have k:dB S (mt e)=dB S f:=iW.at (d ▸ h.path);have y:f ∈ es:=by rw[d];simp
  have g:f=q:=h.eqv y s (by rw[<-k,j]);subst g;have i:(o ++ [e]) ++ f :: B'=(A ++ [p]) ++ f :: B:=by rw[List.append_assoc,List.append_assoc];exact d.symm.trans c
  have l:es.Nodup:=List.Pairwise.imp (fun {a b} m e=>m (by rw[e])) (List.pairwise_map.1 h.dist);have z:o ++ [e]=A ++ [p]:=MX (by rw[List.append_assoc];exact d ▸ l) i;have:=(List.append_inj' z rfl).2;simpa using this
include T hr
omit hr in
theorem Shl.I9{A B:List Nat}{p q y:Nat}(a:es=A ++ p :: q :: B)(b:y<n)(c:dB S y=dB S q)(d:eT S r G y)(e:¬eT S r G (mt y)):y=mt p:=by have f:=(h.wH (mt y) (T.mlt b)).2 ⟨e,by rw[dG];exact d⟩;rw[<-h.ahead a f (by rw[dG];exact c),dG]
omit hr T in
theorem Shl.Ja{q y:Nat}(a:q ∈ es)(b:y<n)(c:dB S y=dB S q)(d:¬eT S r G y)(e:eT S r G (mt y)):y=q :=
 h.eqv ((h.wH y b).2 ⟨d,e⟩) a c
theorem Shl.run{A B:List Nat}{p q:Nat}(d:es=A ++ p :: q :: B) :
  ∃M,0<M/\M<per S (mt p)/\dN S M (mt p)=q/\(∀t,t<M->¬eT S r G (mt (dN S t (mt p)))/\¬eT S r G (dN S (t+1) (mt p))) /\
   ∀t,M<t->t<per S (mt p)->eT S r G (dN S t (mt p))/\eT S r G (mt (dN S t (mt p))):=by
 have y:p ∈ es:=by rw[d];simp
 have v:q ∈ es:=by rw[d];simp
 have w:=h.lt p y;have m:=h.lt q v;have a:=T.mlt w;have o:dB S (mt p)=dB S q:=iW.at (d ▸ h.path);obtain⟨M,z,i⟩:=T.turn a m o;obtain⟨E,C⟩:=h.fF y;obtain⟨F,H⟩:=h.fF v
 have f:0<M:=by
  rcases Nat.eq_zero_or_pos M with rfl|f
  ·have i:mt p=q:=i;rw[i]at C;exact absurd C F
  ·exact f
 have b:=fun t=>T.dW.eD a t;have s:=fun t=>(T.pU a t).trans o;refine⟨M,f,z,i,?_,?_⟩
 ·intro t
  induction t with
  | zero =>
   intro _;have D:¬eT S r G (mt (dN S 0 (mt p))):=by rw[show dN S 0 (mt p)=mt p from rfl,dG];exact E
   exact⟨D,fun e=>D ((T.ru hr (b 0)).1 e)⟩
  | succ t x =>
   intro J;have j:=(x (by omega)).2;have l:¬eT S r G (mt (dN S (t+1) (mt p))):=fun e=>by have g:=h.Ja v (b _) (s _) j e;have:=T.dW.fE a (show t+1<per S (mt p) by omega) z (by rw[g,i]);omega
   exact⟨l,fun e=>l ((T.ru hr (b (t+1))).1 e)⟩
 ·have c:∀t,M<t->t<per S (mt p)->eT S r G (dN S t (mt p))->eT S r G (mt (dN S t (mt p))):=fun t j l g=>by
   by_cases e:eT S r G (mt (dN S t (mt p)))
   ·exact e
   ·have I:=h.I9 T d (b t) (s t) g e;have:=T.dW.fE a l (show 0<per S (mt p) by omega) I;omega
  have u:∀k,M+1+k<per S (mt p)->eT S r G (dN S (M+1+k) (mt p)):=by
   intro k
   induction k with
   | zero =>
    intro _;have:=(T.ru hr m).2 H;rw[<-i]at this;exact this
   | succ k x =>
    intro K;have j:=c _ (by omega) (by omega) (x (by omega));exact(T.ru hr (b (M+1+k))).2 j
  intro t j l;have g:=u (t - (M+1)) (by omega);rw[show M+1+(t - (M+1))=t by omega]at g;exact⟨g,c t j l g⟩
omit hr in
theorem Shl.inside{A B:List Nat}{p q y M:Nat}(b:es=A ++ p :: q :: B)(k:dN S M (mt p)=q)
  (c:∀t,M<t->t<per S (mt p)->eT S r G (dN S t (mt p))/\eT S r G (mt (dN S t (mt p))))(l:y<n)(m:dB S y=dB S q)(d:¬eT S r G y)(i:¬eT S r G (mt y)) :
  ∃t,0<t/\t<M/\dN S t (mt p)=y:=by
 have j:p ∈ es:=by rw[b];simp
 have o:q ∈ es:=by rw[b];simp
 have e:=T.mlt (h.lt p j);have f:dB S (mt p)=dB S q:=iW.at (b ▸ h.path);obtain⟨t,s,a⟩:=T.turn e l (f.trans m.symm);refine⟨t,?_,?_,a⟩
 ·rcases Nat.eq_zero_or_pos t with rfl|u
  ·have a:mt p=y:=a;rw[<-a]at d;exact absurd (h.fF j).2 d
  ·exact u
 ·rcases Nat.lt_trichotomy t M with g|rfl|g
  ·exact g
  ·rw[<-a,k]at i;exact absurd (h.fF o).2 i
  ·have:=(c t g s).1;rw[a]at this;exact absurd this d
omit h T hr
theorem iW.swap{b z:Nat}{B:List Nat}(a:dB S b=dB S z):∀{Y:List Nat},iW S (Y ++ b :: B)->iW S (Y ++ [z])
 | [],_=>trivial
 | [_],h=>⟨h.1.trans a,trivial⟩
 | _ :: f :: Y,h=>⟨h.1,iW.swap a (Y:=f :: Y) h.2⟩
theorem iW.next{b e:Nat}{B:List Nat}:∀{Y:List Nat},iW S (Y ++ b :: B)->e ∈ Y->∃f,f ∈ Y.tail ++ [b]/\dB S (mt e)=dB S f
 | [],_,c=>by cases c
 | [a],h,c=>by rw[List.mem_singleton]at c;subst c;exact⟨b,by simp,h.1⟩
 | a :: f :: Y,h,c=>by
  rcases List.mem_cons.1 c with rfl|c
  ·exact⟨f,by simp,h.1⟩
  ·obtain⟨g,d,i⟩:=iW.next (Y:=f :: Y) h.2 c;refine⟨g,?_,i⟩;rw[List.tail_cons]at d ⊢;exact List.mem_append.2 ((List.mem_append.1 d).elim (fun h=>.inl (List.mem_cons_of_mem _ h)) .inr)
include h T hr
theorem Shl.cross{A X B:List Nat}{p q b x y e:Nat}(D:es=A ++ p :: q :: (X ++ b :: B))(hx:x<n)(O:dB S x=dB S p)(P:dB S (mt x)=dB S b)(x1:¬eT S r G x)(x2:¬eT S r G (mt x))
  (hy:y<n)(ag:dB S y=dB S q)(y1:¬eT S r G y)(y2:¬eT S r G (mt y))(Z:dB S (mt y)=dB S e)(v:e ∈ A\/e ∈ B):False:=by
 obtain⟨Y,K⟩:∃Y,Y=p :: q :: X:=⟨_,rfl⟩
 have i:es=A ++ (Y ++ b :: B):=by rw[D,K];rfl
 have j:∀z,z ∈ Y->z ∈ es:=fun z d=>by rw[i];simp[d]
 have s:e ∈ es:=by rw[i];rcases v with v|v <;> simp[v]
 have E:p ∈ es:=j p (by rw[K];simp);have hq:q ∈ es:=j q (by rw[K];simp);have hb:b ∈ es:=by rw[i];simp
 have Q:es.Nodup:=List.Pairwise.imp (fun {a b} ah e=>ah (by rw[e])) (List.pairwise_map.1 h.dist)
 have w:e ∉ Y/\e≠b:=by
  have N:=Q;rw[i,List.nodup_append,List.nodup_append,List.nodup_cons]at N;obtain⟨-,⟨-,⟨n1,-⟩,n2⟩,n3⟩:=N;rcases v with v|v
  ·exact⟨fun u=>n3 e v e (by simp[u]) rfl,fun u=>n3 e v b (by simp) u⟩
  ·exact⟨fun u=>n2 e u e (by simp[v]) rfl,fun u=>n1 (u ▸ v)⟩
 have ai:b ∉ Y:=by have N:=Q;rw[i,List.nodup_append,List.nodup_append,List.nodup_cons]at N;exact fun u=>N.2.1.2.2 b u b (by simp) rfl
 have aa:p ∉ q :: X:=by have N:=Q;rw[i,K,List.nodup_append,List.nodup_append,List.nodup_cons]at N;exact N.2.1.1.1
 have C:iW S (Y ++ b :: B):=iW.right (i ▸ h.path);obtain⟨L,hL⟩:∃L,L=Y ++ [mt x]:=⟨_,rfl⟩
 have o:∀z,z ∈ L->z ∈ Y\/z=mt x:=fun z d=>by rw[hL,List.mem_append,List.mem_singleton]at d;exact d
 obtain⟨f,hf⟩:=T.CO L (fun z d=>(o z d).elim (fun u=>h.lt z (j z u)) (fun u=>by rw[u];exact T.mlt hx)) (by
  refine⟨hL ▸ iW.swap P.symm C,fun a z l m h1 h2=>?_⟩;rw[hL]at h1 h2;have e1:a=p:=by rw[K]at h1;simp at h1;exact h1.1.symm
  have e2:z=mt x:=by have:=(List.append_inj' h2 rfl).2;simp at this;exact this.symm
  rw[e1,e2,dG,O])
 have h0:∀z,z<n->z ∉ L->mt z ∉ L->f (mt z) % 2=f z % 2:=fun z d z1 z2=>by have:=(hf z d).2;rw[List.count_eq_zero.2 z1,List.count_eq_zero.2 z2]at this;omega
 have hS:∀z,z<n->f (S z)=f (mt z):=fun z d=>by have:=(hf (mt z) (T.mlt d)).1;rwa [dG]at this
 obtain⟨M,ap,aq,aj,ab,ad⟩:=h.run T hr D;obtain⟨t,ar,ak,al⟩:=h.inside T D aj ad hy ag y1 y2;have F:=T.mlt (h.lt p E);have am:dB S (mt p)=dB S q:=iW.at (D ▸ h.path)
 have ae:∀t,t<M->f (mt (dN S t (mt p))) % 2=f p % 2:=by
  intro t
  induction t with
  | zero=>intro _;rw[show dN S 0 (mt p)=mt p from rfl,dG]
  | succ t V =>
   intro ht;have V:=V (by omega);have hl:=T.dW.eD F t;have an:=T.dW.eD F (t+1);rw[<-hS _ hl]at V;have H:=(T.pU F (t+1)).trans am;have b1:=(ab t (by omega)).2;have b2:=(ab (t+1) ht).1;rw[h0 _ an (fun d=>?_) (fun d=>?_)]
   ·exact V
   ·rcases o _ d with d|d
    ·exact b2 (h.fF (j _ d)).2
    ·rw[d,P]at H;exact ai (by rw[h.eqv hb hq H,K];simp)
   ·rcases o _ d with d|d
    ·have:=(h.fF (j _ d)).2;rw[dG]at this;exact b1 this
    ·have d:dN S (t+1) (mt p)=x:=by rw[<-dG (dN S (t+1) (mt p)),d,dG]
     rw[d,O]at H;exact aa (by rw[h.eqv E hq H];simp)
 have e1:f (mt y) % 2=f p % 2:=by rw[<-al];exact ae t ak
 have af:∀z,z<n->dB S z=dB S e->z ∉ L/\mt z ∉ L:=fun z d W=>by
  refine⟨fun c=>?_,fun c=>?_⟩
  ·rcases o _ c with c|c
   ·exact w.1 (by rw[<-h.eqv (j _ c) s W];exact c)
   ·rw[c,P]at W;exact w.2 (h.eqv s hb W.symm)
  ·rcases o _ c with c|c
   ·obtain⟨g,I,R⟩:=iW.next C c;rw[dG,W]at R;rcases List.mem_append.1 I with I|I
    ·have I:g ∈ Y:=List.mem_of_mem_tail I;exact w.1 (by rw[h.eqv s (j _ I) R];exact I)
    ·rw[List.mem_singleton]at I;exact w.2 (h.eqv s hb (by rw[R,I]))
   ·have c:z=x:=by rw[<-dG z,c,dG]
    rw[c,O]at W;exact w.1 (by rw[<-h.eqv E s W,K];simp)
 have U:=T.mlt hy;have J:=h.lt e s;obtain⟨k,-,hk⟩:=T.turn U J Z
 have ao:∀k,f (dN S k (mt y)) % 2=f (mt y) % 2:=by
  intro k
  induction k with
  | zero=>rfl
  | succ k V =>
   have hl:=T.dW.eD U k;obtain⟨z1,z2⟩:=af _ hl ((T.pU U k).trans Z);show f (S (dN S k (mt y))) % 2=_;rw[hS _ hl,h0 _ hl z1 z2,V]
 have e2:f e % 2=f p % 2:=by rw[<-hk,ao,e1]
 obtain⟨z1,z2⟩:=af e J rfl;have e3:=h0 e J z1 z2
 have hO:=h.Ew (fun z=>f z % 2=f r % 2) (fun z d hP=>by
  show f (S (mt z)) % 2=_;rw[(hf z d).1];exact hP) (fun z d o1 o2 hP=>by
  refine(h0 z d (fun c=>?_) (fun c=>?_)).trans hP
  ·rcases o _ c with c|c
   ·exact(h.fF (j _ c)).1 o1
   ·rw[c]at o1;exact x2 o1
  ·rcases o _ c with c|c
   ·exact(h.fF (j _ c)).1 o2
   ·rw[c]at o2;exact x2 o2) rfl
 have e4:=hO (mt e) (T.mlt J) (h.fF s).2;have e5:=hO (mt p) F (h.fF E).2;have e6:=(hf p (h.lt p E)).2
 have c1:L.count p=1:=by
  rw[hL,K,List.cons_append,List.count_cons_self,List.count_eq_zero.2];intro c;rcases List.mem_append.1 c with c|c
  ·exact aa c
  ·rw[List.mem_singleton]at c;exact(h.fF E).1 |> fun _=>x1 (by have:=(h.fF E).2;rwa [c,dG]at this)
 have c2:L.count (mt p)=0:=by
  rw[List.count_eq_zero];intro c;rcases o _ c with c|c
  ·exact(h.fF (j _ c)).1 (h.fF E).2
  ·have c:p=x:=by rw[<-dG p,c,dG]
   rw[<-c]at x2;exact x2 (h.fF E).2
 rw[c1,c2]at e6;have e4:f (mt e) % 2=f r % 2:=e4;have e5:f (mt p) % 2=f r % 2:=e5;omega
theorem Shl.nK:∀(m:Nat) {A X B:List Nat} {p b x:Nat},es=A ++ p :: (X ++ b :: B)->X.length<=m->x<n->dB S x=dB S p->dB S (mt x)=dB S b->¬eT S r G x->¬eT S r G (mt x) ->
  ∃A p q B,es=A ++ p :: q :: B/\B≠[]/\mD n S r es G q
 | m,A,[],B,p,b,x,a,_,o,g,i,t,j=>by
  have v:p ∈ es:=by rw[a];simp
  have:=T.xI x p o (h.lt p v) g (i.trans (iW.at (a ▸ h.path)).symm);rw[this]at j;exact absurd (h.fF v).2 j
 | 0,A,q :: X,B,p,b,x,a,w,o,g,i,t,j=>by simp at w
 | m+1,A,q :: X,B,p,b,x,a,w,o,g,i,t,j=>by
  by_cases k:mD n S r es G q
  ·exact⟨A,p,q,X ++ b :: B,a,by simp,k⟩
  ·have C:X.length<=m:=by simpa using w
   unfold mD at k;obtain⟨y,k⟩:=Classical.not_forall.1 k;simp only [not_imp,Classical.not_forall,Classical.not_not]at k;obtain⟨l,d,s,u,e,z,f⟩:=k;have v:p ∈ es:=by rw[a];simp
   have c:=z;rw[a,List.mem_append,List.mem_cons,List.cons_append,List.mem_cons,List.mem_append,List.mem_cons]at c;rcases c with c | rfl|rfl|c | rfl|c
   ·exact(h.cross T hr a o g i t j l d s u f (.inl c)).elim
   ·
    have E:dB S (mt y)=dB S e:=f;have:=T.xI (mt y) e (T.mlt l) (h.lt e z) E (by rw[dG,d];exact(iW.at (a ▸ h.path)).symm);have D:=(h.fF z).2;rw[<-this,dG]at D;exact absurd D s
   ·exact absurd (d.trans f.symm) (T.loop y l)
   ·obtain⟨F,H,rfl⟩:=List.append_of_mem c;exact Shl.nK m (A:=A ++ [p]) (X:=F) (B:=H ++ b :: B) (p:=q) (b:=e) (x:=y) (by rw[a];simp) (by simp at C;omega) l d f s u
   ·exact Shl.nK m (A:=A ++ [p]) (X:=X) (B:=B) (p:=q) (b:=e) (x:=y) (by rw[a];simp) C l d f s u
   ·exact(h.cross T hr a o g i t j l d s u f (.inr c)).elim
theorem Shl.zV:∃A p q B,es=A ++ p :: q :: B/\B≠[]/\mD n S r es G q:=by
 have g:=h.I8;rcases hes:es with _|⟨p,_|⟨q,_|⟨b,B⟩⟩⟩
 ·rw[hes]at g;simp at g
 ·rw[hes]at g;simp at g
 ·rw[hes]at g;simp at g
 ·rw[<-hes];by_cases i:mD n S r es G q
  ·exact⟨[],p,q,b :: B,hes,by simp,i⟩
  ·unfold mD at i;obtain⟨y,i⟩:=Classical.not_forall.1 i;simp only [not_imp,Classical.not_forall,Classical.not_not]at i;obtain⟨j,c,l,s,e,k,d⟩:=i;have a:=k;rw[hes,List.mem_cons,List.mem_cons]at a;have f:iW S ([] ++ p :: q :: b :: B):=by have:=h.path;rw[hes]at this;exact this
   rcases a with rfl|rfl|a
   ·have:=T.xI (mt y) e (T.mlt j) (h.lt e k) d (by rw[dG,c];exact(iW.at f).symm);have m:=(h.fF k).2;rw[<-this,dG]at m;exact absurd m l
   ·exact absurd (c.trans d.symm) (T.loop y j)
   ·obtain⟨o,t,u⟩:=List.append_of_mem a;exact h.nK T hr o.length (A:=[p]) (X:=o) (B:=t) (p:=q) (b:=e) (x:=y) (by rw[hes,u];rfl) (Nat.le_refl _) j c d l s
end
def mX(S:Nat->Nat)(d:Nat):Nat->List Nat
 | 0=>[]
 | m+1=>mt (fc S (S d)) :: mX S (S d) m
theorem Ey{S:Nat->Nat}{x:Nat}:∀{m d:Nat},x ∈ mX S d m↔∃t,t<m/\x=mt (fc S (dN S (t+1) d))
 | 0,d=>by simp[mX]
 | m+1,d=>by
  rw[mX,List.mem_cons,Ey (m:=m)];constructor
  ·rintro (h|⟨t,a,h⟩)
   ·exact⟨0,by omega,h⟩
   ·exact⟨t+1,by omega,by rw[h,Ec S (t+1) d]⟩
  ·rintro⟨t,a,h⟩;rcases t with _|t
   ·exact .inl h
   ·exact .inr ⟨t,by omega,by rw[h,Ec S (t+1) d]⟩
theorem Jb{S:Nat->Nat}:∀(m d:Nat),(mX S d m).length=m
 | 0,_=>rfl
 | m+1,d=>by rw[mX,List.length_cons,Jb m]
section
variable {n:Nat} {S:Nat->Nat} (T:jB n S)
include T
theorem jB.jw{d:Nat}(a:d<n):dB S (mt (fc S (S d)))=dB S (mt d)/\dB S (mt (mt (fc S (S d))))=dB S (mt (S d)):=by
 have b:=T.slt a;constructor
 ·rw[<-T.I7 a,T.vf (T.gJ b)]
 ·rw[dG,T.vf b]
theorem jB.tN:∀{m d:Nat},d<n->iW S (mX S d m)
 | 0,_,_=>trivial
 | 1,_,_=>trivial
 | m+2,d,a=>by refine⟨?_,jB.tN (m:=m+1) (T.slt a)⟩;rw[(T.jw a).2,(T.jw (T.slt a)).1]
theorem jB.rZ:∀{m d:Nat},d<n->(mX S d m).map (dB S)=(List.range m).map fun t=>dB S (mt (dN S t d))
 | 0,_,_=>rfl
 | m+1,d,a=>by rw[mX,List.map_cons,jB.rZ (T.slt a),List.range_succ_eq_map,List.map_cons,List.map_map,(T.jw a).1];congr 1;apply List.map_congr_left;intro t _;show dB S (mt (dN S t (S d)))=dB S (mt (dN S (t+1) d));rw[Ec]
end
theorem iW.app{S:Nat->Nat}{B:List Nat}{f:Nat}(c:iW S (f :: B)):∀{A:List Nat},iW S A->(∀C e,A=C ++ [e]->dB S (mt e)=dB S f)->iW S (A ++ f :: B)
 | [],_,_=>c
 | [a],_,h=>⟨h [] a rfl,c⟩
 | a :: b :: A,h,d=>⟨h.1,iW.app c (A:=b :: A) h.2 (fun C e g=>d (a :: C) e (by rw[g];rfl))⟩
theorem MZ{S:Nat->Nat}:∀{m d:Nat} {C:List Nat} {e:Nat},mX S d m=C ++ [e]->∃t,m=t+1/\e=mt (fc S (dN S (t+1) d))
 | 0,d,C,e,h=>by simp[mX]at h
 | 1,d,C,e,h=>by rw[mX,mX]at h;have:=(List.append_inj' (s₁:=[]) h rfl).2;simp at this;exact⟨0,rfl,this.symm⟩
 | m+2,d,[],e,h=>by have:=congrArg List.length h;simp[mX]at this
 | m+2,d,c :: C,e,h=>by rw[mX,List.cons_append,List.cons.injEq]at h;obtain⟨t,b,a⟩:=MZ h.2;exact⟨t+1,by omega,by rw[a,Ec S (t+1) d]⟩
section
variable {n:Nat} {S:Nat->Nat} {r:Nat} {es:List Nat} {G:Nat->Prop} (h:Shl n S r es G) (T:jB n S) (hr:r<n)
include h T hr
omit hr in
theorem Shl.lN{A B:List Nat}{p q y e:Nat}(a:es=A ++ p :: q :: B)(l:mD n S r es G q)(f:y<n)(g:dB S y=dB S q)(k:e ∈ es)(b:dB S (mt y)=dB S e):y=mt p\/y=q:=by
 have c:q ∈ es:=by rw[a];simp
 by_cases i:eT S r G y <;> by_cases j:eT S r G (mt y)
 ·rcases h.both y f i j with d|d
  ·rw[g]at d;exact absurd d (h.live q c)
  ·rw[b]at d;exact absurd d (h.live e k)
 ·exact .inl (h.I9 T a f g i j)
 ·exact .inr (h.Ja c f g i j)
 ·exact absurd b (l y f g i j e k)
theorem Shl.step{A B:List Nat}{p q M:Nat}(z:es=A ++ p :: q :: B)(hB:B≠[])(hq:mD n S r es G q)(hM:M<per S (mt p))(ax:dN S M (mt p)=q)(ay:3<=(A ++ (mX S (mt p) M ++ B)).length) :
  Shl n S r (A ++ (mX S (mt p) M ++ B)) (fun v=>G v\/v=dB S q):=by
 have hp:p ∈ es:=by rw[z];simp
 have am:q ∈ es:=by rw[z];simp
 have a5:=h.lt p hp;have a6:=h.lt q am;have R:=T.mlt a5;have az:dB S (mt p)=dB S q:=iW.at (z ▸ h.path);obtain⟨M',a7,aN,aw,a8,aO⟩:=h.run T hr z;obtain rfl:M=M':=T.dW.fE R hM aN (by rw[ax,aw]);clear aw aN
 obtain⟨b,B',O⟩:∃b B',B=b :: B':=by
  cases B with
  | nil=>exact absurd rfl hB
  | cons b B'=>exact⟨b,B',rfl⟩
 have aP:b ∈ es:=by rw[z,O];simp
 have aA:dB S (mt q)=dB S b:=by have w:=h.path;rw[z,O,show A ++ p :: q :: b :: B'=(A ++ [p]) ++ q :: b :: B' by simp]at w;exact iW.at w
 obtain⟨d,hd⟩:∃d:Nat->Nat,d=fun t=>dN S t (mt p):=⟨_,rfl⟩
 have E:∀t,d t<n:=fun t=>by rw[hd];exact T.dW.eD R t
 have U:∀t,dB S (d t)=dB S q:=fun t=>by rw[hd];exact(T.pU R t).trans az
 have an:d 0=mt p:=by rw[hd];rfl
 have af:d M=q:=by rw[hd];exact ax
 have ag:∀t,S (d t)=d (t+1):=fun t=>by rw[hd];rfl
 have a9:∀t,t<M->¬eT S r G (mt (d t))/\¬eT S r G (d (t+1)):=by rw[hd];exact a8
 have V:∀s t,s<per S (mt p)->t<per S (mt p)->d s=d t->s=t:=fun s t w L W=>T.dW.fE R w L (by rw[hd]at W;exact W)
 have aB:∀y,y<n->dB S y=dB S q->¬eT S r G y->∃t,t<M/\y=d (t+1):=fun y hy hv J=>by
  by_cases Y:eT S r G (mt y)
  ·exact⟨M - 1,by omega,by rw[show M - 1+1=M by omega,af];exact h.Ja am hy hv J Y⟩
  ·obtain⟨t,t1,t2,t3⟩:=h.inside T z ax aO hy hv J Y;exact⟨t - 1,by omega,by rw[show t - 1+1=t by omega,hd];exact t3.symm⟩
 have aQ:∀s t,s<per S (mt p)->t<per S (mt p)->dB S (mt (d s))=dB S (mt (d t))->s=t:=fun s t w L W=>V s t w L (T.xI _ _ (E s) (E t) ((U s).trans (U t).symm) W)
 have aC:∀t e,t<per S (mt p)->e ∈ es->dB S (mt (d t))=dB S e->t=0\/t=M:=fun t e w he L=>by
  rcases h.lN T z hq (E t) (U t) he L with W|W
  ·exact .inl (V t 0 w (by omega) (by rw[W,an]))
  ·exact .inr (V t M w hM (by rw[W,af]))
 have aD:dB S (mt (d 0))=dB S p:=by rw[an,dG]
 have ah:dB S (mt (d M))=dB S b:=by rw[af,aA]
 have X:∀t,dB S (mt (fc S (d (t+1))))=dB S (mt (d t))/\dB S (fc S (d (t+1)))=dB S (mt (d (t+1)))/\fc S (fc S (d (t+1)))=mt (d t):=fun t=>by rw[<-ag];exact⟨(T.jw (E t)).1,T.vf (T.slt (E t)),T.I7 (E t)⟩
 have K:∀x,x ∈ mX S (mt p) M↔∃t,t<M/\x=mt (fc S (d (t+1))):=fun x=>by rw[Ey,hd]
 obtain⟨G',aR⟩:∃G':Nat->Prop,G'=fun v=>G v\/v=dB S q:=⟨_,rfl⟩
 have Z:∀v,G' v↔G v\/v=dB S q:=fun v=>by rw[aR]
 have I:∀x,eT S r G' x↔eT S r G x\/dB S x=dB S q\/dB S (fc S x)=dB S q\/dB S (fc S (fc S x))=dB S q:=fun x=>by
  unfold eT;rw[Z,Z,Z];constructor
  ·rintro (w | (w|w) | (w|w) | (w|w))
   ·exact .inl (.inl w)
   ·exact .inl (.inr (.inl w))
   ·exact .inr (.inl w)
   ·exact .inl (.inr (.inr (.inl w)))
   ·exact .inr (.inr (.inl w))
   ·exact .inl (.inr (.inr (.inr w)))
   ·exact .inr (.inr (.inr w))
  ·rintro ((w|w|w|w)|w|w|w)
   ·exact .inl w
   ·exact .inr (.inl (.inl w))
   ·exact .inr (.inr (.inl (.inl w)))
   ·exact .inr (.inr (.inr (.inl w)))
   ·exact .inr (.inl (.inr w))
   ·exact .inr (.inr (.inl (.inr w)))
   ·exact .inr (.inr (.inr (.inr w)))
 have ba:∀x,x<n->(eT S r G' (fc S x)↔eT S r G' x):=fun x u=>T.kX hr u;have aE:(es.map (dB S)).Nodup:=h.dist;rw[z,List.map_append,List.map_cons,List.map_cons,O,List.map_cons]at aE;rw[List.nodup_append]at aE;obtain⟨nA,nB,ao⟩:=aE;rw[List.nodup_cons,List.nodup_cons,List.nodup_cons]at nB;obtain⟨ap,aF,bc,bd⟩:=nB
 have aG:∀x,x ∈ es->x≠p->x≠q->x ∈ A\/x ∈ B:=fun x u w L=>by
  rw[z,List.mem_append,List.mem_cons,List.mem_cons]at u;rcases u with u|u|u|u
  ·exact .inl u
  ·exact absurd u w
  ·exact absurd u L
  ·exact .inr u
 have Q:∀x,x ∈ A\/x ∈ B->x ∈ es/\dB S x≠dB S p/\dB S x≠dB S q:=fun x u=>by
  rcases u with u|u
  ·refine⟨by rw[z];simp[u],fun w=>?_,fun w=>?_⟩
   ·exact ao _ (List.mem_map.2 ⟨x,u,rfl⟩) _ (by simp) w
   ·exact ao _ (List.mem_map.2 ⟨x,u,rfl⟩) _ (by simp) w
  ·refine⟨by rw[z];simp[u],fun w=>?_,fun w=>?_⟩
   ·rw[O,List.mem_cons]at u;rcases u with rfl|u
    ·exact ap (by rw[<-w];simp)
    ·exact ap (by rw[<-w];simp;exact .inr (.inr ⟨x,u,rfl⟩))
   ·rw[O,List.mem_cons]at u;rcases u with rfl|u
    ·exact aF (by rw[<-w];simp)
    ·exact aF (by rw[<-w];simp;exact .inr ⟨x,u,rfl⟩)
 have ai:∀x,(x ∈ A\/x ∈ B)->dB S x=dB S b->dB S (mt x)=dB S p->A=[]/\B=[b]:=fun x u w L=>by
  have aq:x=b:=h.eqv (Q x u).1 aP w;subst aq
  have hA:A=[]:=by
   rcases A with _|⟨a,A⟩
   ·rfl
   ·exfalso;obtain⟨C,c,hC⟩:∃C c,a :: A=C ++ [c]:=⟨_,_,(List.dropLast_concat_getLast (by simp)).symm⟩
    have W:es=C ++ c :: p :: (q :: B):=by rw[z,hC];simp
    have h4:=h.ahead W (Q x u).1 L;have h5:c ∈ a :: A:=by rw[hC];simp
    exact ao _ (List.mem_map.2 ⟨c,h5,rfl⟩) _ (by rw[<-h4];simp) rfl
  refine⟨hA,?_⟩;rw[O];congr 1;rcases Ez:B' with _|⟨f,F⟩
  ·rfl
  ·exfalso;have W:=h.path;rw[z,hA,O,Ez]at W;have h4:dB S (mt x)=dB S f:=W.2.2.1;exact ap (by rw[<-L,h4,Ez];simp)
 have aj:¬(A=[]/\B=[b]/\M=1):=by rintro⟨hA,hB,hM1⟩;rw[hA,hB,hM1]at ay;simp[Jb]at ay
 have aa:∀x,x<n->(x ∈ A ++ (mX S (mt p) M ++ B)↔¬eT S r G' x/\eT S r G' (mt x)):=by
  intro x u;constructor
  ·intro H;rw[List.mem_append,List.mem_append]at H
   have ar:(x ∈ A\/x ∈ B)\/x ∈ mX S (mt p) M:=by
    rcases H with H|H|H
    ·exact .inl (.inl H)
    ·exact .inr H
    ·exact .inl (.inr H)
   clear H;rcases ar with H|H
   ·obtain⟨k1,k2,k3⟩:=Q x H;obtain⟨J,Y⟩:=h.fF k1;refine⟨fun g=>?_,(I _).2 (.inl Y)⟩;rcases(I x).1 g with g|g|g|g
    ·exact J g
    ·exact k3 g
    ·
     rw[T.vf u]at g;exact k2 (by rw[h.ahead z k1 g])
    ·
     have y1:=T.gJ (T.gJ u);have e1:=h.lN T z hq y1 g k1 (T.zT u);have z1:mt (fc S x)<n:=T.mlt (T.gJ u);have z2:dB S (mt (fc S x))=dB S q:=by rw[<-T.vf (T.gJ u)];exact g
     have aH:∃e,e ∈ es/\dB S (mt x)=dB S e:=by
      obtain⟨C,D,ab⟩:=List.append_of_mem k1;cases D with
      | cons f D=>exact⟨f,by rw[ab];simp,iW.at (ab ▸ h.path)⟩
      | nil =>
       obtain⟨C',hl⟩:=h.last;have e3:=(List.append_inj' (ab.symm.trans hl) rfl).2;simp at e3;rcases hE:es with _|⟨a,l⟩
       ·rw[hE]at k1;cases k1
       ·exact⟨a,by simp,by rw[e3,dG];exact h.zU a l hE⟩
     obtain⟨e,he,be⟩:=aH;have e2:=h.lN T z hq z1 z2 he (by rw[dG,T.vf u];exact be);have aS:dB S x≠dB S p:=k2;rcases e1 with e1|e1
     ·have:=T.zT u;rw[e1,dG]at this;exact aS this.symm
     ·have aq:dB S x=dB S b:=by have:=T.zT u;rw[e1,aA]at this;exact this.symm
      rcases e2 with e2|e2
      ·have e3:dB S (mt x)=dB S p:=by have:=T.vf u;rw[<-this,<-dG (fc S x),e2,dG]
       obtain⟨hA,aI⟩:=ai x H aq e3;refine aj ⟨hA,aI,?_⟩;have e4:d 1=q:=by have h5:S (mt (fc S x))=fc S (fc S x):=rfl;rw[e2,e1]at h5;rw[<-ag,an];exact h5
       exact(V 1 M (by omega) hM (by rw[e4,af])).symm
      ·have e3:dB S (mt x)=dB S b:=by have:=T.vf u;rw[<-this,<-dG (fc S x),e2,aA]
       exact T.loop x u (by rw[aq,e3])
   ·obtain⟨t,ht,rfl⟩:=(K x).1 H;obtain⟨v1,v2,v3⟩:=X t;refine⟨fun g=>?_,?_⟩
    ·have aJ:¬eT S r G (mt (fc S (d (t+1)))):=fun J=>by
      have Y:¬eT S r G (fc S (d (t+1))):=fun o=>(a9 t ht).2 ((T.kX hr (E _)).1 o);have H:=(h.wH _ (T.gJ (E (t+1)))).2 ⟨Y,J⟩;have w1:=aC (t+1) _ (by omega) H v2.symm;have w1:t+1=M:=by omega
      have aH:∃e,e ∈ es/\dB S (mt (fc S (d (t+1))))=dB S e:=by
       obtain⟨C,D,ab⟩:=List.append_of_mem H;cases D with
       | cons f D=>exact⟨f,by rw[ab];simp,iW.at (ab ▸ h.path)⟩
       | nil =>
        obtain⟨C',hl⟩:=h.last;have e3:=(List.append_inj' (ab.symm.trans hl) rfl).2;simp at e3;rcases hE:es with _|⟨a,l⟩
        ·rw[hE]at H;cases H
        ·exact⟨a,by simp,by rw[e3,dG];exact h.zU a l hE⟩
      obtain⟨e,he,bf⟩:=aH;have w2:=aC t e (by omega) he (by rw[<-v1,bf]);have w2:t=0:=by omega
      subst w2
      have bg:fc S (d 1) ∈ A\/fc S (d 1) ∈ B:=by
       refine aG _ H (fun g=>?_) (fun g=>?_)
       ·have:dB S p=dB S b:=by rw[<-g,v2,w1,ah]
        exact ap (by rw[this];simp)
       ·have:dB S q=dB S b:=by rw[<-g,v2,w1,ah]
        exact aF (by rw[this];simp)
      obtain⟨hA,aI⟩:=ai _ bg (by rw[v2,w1,ah]) (by rw[v1,aD]);exact aj ⟨hA,aI,w1.symm⟩
     have aT:=T.mlt (T.gJ (E (t+1)));rcases(I _).1 g with g|g|g|g
     ·exact aJ g
     ·rw[v1]at g;exact T.loop _ (E t) (by rw[U,g])
     ·rw[zS,T.vS (T.gJ (E _)),v2]at g;exact T.loop _ (E (t+1)) (by rw[U,g])
     ·
      have aU:=T.gJ aT;have e1:fc S (mt (fc S (d (t+1))))=mt (d (t+1)):=by refine T.xI _ _ aU (T.mlt (E _)) (by rw[zS,T.vS (T.gJ (E _)),v2]) ?_;rw[dG,U,<-T.vf aU,g]
      have e2:mt (fc S (d (t+1)))=fc S (d (t+2)):=by have W:=T.f3 aT;rw[e1,zS,ag]at W;exact W.symm
      have e3:dB S (mt (d t))=dB S (mt (d (t+2))):=by rw[<-v1,e2,T.vf (E _)]
      rcases(show t+1<M\/t+1=M by omega)with h4|h4
      ·have:=aQ t (t+2) (by omega) (by omega) e3;omega
      ·
       have J:eT S r G (d (t+2)):=by rw[<-ag,h4,af];exact(T.ru hr a6).2 (h.fF am).2
       rw[e2]at aJ;exact aJ ((T.kX hr (E _)).2 J)
    ·rw[dG];exact(ba _ (E _)).2 ((I _).2 (.inr (.inl (U _))))
  ·rintro⟨J,Y⟩;rw[List.mem_append,List.mem_append];have n1:¬eT S r G x:=fun g=>J ((I _).2 (.inl g));have nq:dB S x≠dB S q:=fun g=>J ((I _).2 (.inr (.inl g)));have aV:dB S (mt x)≠dB S q:=fun g=>J ((I _).2 (.inr (.inr (.inl (by rw[T.vf u];exact g)))));by_cases o3:eT S r G (mt x)
   ·have H:=(h.wH x u).2 ⟨n1,o3⟩;rcases aG x H (fun g=>aV (by rw[g,az])) (fun g=>nq (by rw[g]))with H|H
    ·exact .inl H
    ·exact .inr (.inr H)
   ·refine .inr (.inl ((K x).2 ?_));have au:=T.mlt u;rcases(I _).1 Y with g|g|g|g
    ·exact absurd g o3
    ·exact absurd g aV
    ·rw[zS,T.vS u]at g;exact absurd g nq
    ·obtain⟨t,ht,aK⟩:=aB _ (T.gJ (T.gJ au)) g (fun o=>o3 ((T.kX hr au).1 ((T.kX hr (T.gJ au)).1 o)));exact⟨t,ht,by rw[<-aK,T.f3 au,dG]⟩
 have ad:∀e,e ∈ A ++ (mX S (mt p) M ++ B)->dB S e≠dB S q/\¬G (dB S e)/\e<n:=by
  intro e H
  have aW:e<n:=by
   rw[List.mem_append,List.mem_append]at H;rcases H with H|H|H
   ·exact h.lt e (Q e (.inl H)).1
   ·obtain⟨t,ht,rfl⟩:=(K e).1 H;exact T.mlt (T.gJ (E _))
   ·exact h.lt e (Q e (.inr H)).1
  have J:=((aa e aW).1 H).1;exact⟨fun g=>J ((I _).2 (.inr (.inl g))),fun g=>J ((I _).2 (.inl (.inr (.inl g)))),aW⟩
 have aX:∀e,e ∈ es->dB S e≠dB S q->∃f,f ∈ A ++ (mX S (mt p) M ++ B)/\dB S f=dB S e:=by
  intro e he av;by_cases aY:e=p
  ·exact⟨mt (fc S (d 1)),by rw[List.mem_append,List.mem_append];exact .inr (.inl ((K _).2 ⟨0,a7,rfl⟩)),by rw[(X 0).1,aD,aY]⟩
  ·rcases aG e he aY (fun g=>av (by rw[g]))with H|H
   ·exact⟨e,by simp[H],rfl⟩
   ·exact⟨e,by simp[H],rfl⟩
 rw[<-aR];refine⟨ay,fun e he=>(ad e he).2.2,?_,?_,?_,?_,aa,?_,?_,?_,?_⟩
 ·
  obtain⟨C,hl⟩:=h.last;obtain⟨D,c,hD⟩:∃D c,B=D ++ [c]:=⟨_,_,(List.dropLast_concat_getLast hB).symm⟩
  have w:(A ++ p :: q :: D) ++ [c]=C ++ [mt r]:=by rw[<-hl,z,hD];simp
  have L:=(List.append_inj' w rfl).2;simp at L;exact⟨A ++ (mX S (mt p) M ++ D),by rw[hD,L];simp⟩
 ·
  rw[List.map_append,List.map_append,T.rZ R,List.nodup_append,List.nodup_append];have aZ:∀v,v ∈ (List.range M).map (fun t=>dB S (mt (dN S t (mt p))))->∃t,t<M/\v=dB S (mt (d t)):=fun v hv=>by obtain⟨t,ht,rfl⟩:=List.mem_map.1 hv;exact⟨t,List.mem_range.1 ht,by rw[hd]⟩
  have a1:∀t x,t<M->(x ∈ A\/x ∈ B)->dB S (mt (d t))≠dB S x:=fun t x ht u g=>by
   obtain⟨k1,k2,k3⟩:=Q x u;rcases aC t x (by omega) k1 g with rfl|rfl
   ·rw[aD]at g;exact k2 g.symm
   ·omega
  refine⟨nA,⟨?_,?_,?_⟩,?_⟩
  ·rw[List.Nodup,List.pairwise_iff_getElem];intro i j hi hj bk g;simp only [List.length_map,List.length_range]at hi hj;simp only [List.getElem_map,List.getElem_range]at g;have:=aQ i j (by omega) (by omega) (by rw[hd];exact g);omega
  ·rw[O,List.map_cons];exact List.nodup_cons.2 ⟨bc,bd⟩
  ·intro v hv v2 N g;obtain⟨t,ht,rfl⟩:=aZ v hv;obtain⟨x,u,rfl⟩:=List.mem_map.1 N;exact a1 t x ht (.inr u) g
  ·intro v hv v2 N g;obtain⟨x,u,rfl⟩:=List.mem_map.1 hv;rcases List.mem_append.1 N with N|N
   ·obtain⟨t,ht,rfl⟩:=aZ v2 N;exact a1 t x ht (.inl u) g.symm
   ·exact ao _ (List.mem_map.2 ⟨x,u,rfl⟩) v2 (by rw[O,List.map_cons]at N;simp at N ⊢;rcases N with N|N <;> simp[N]) g
 ·
  have w:iW S B:=by have L:=h.path;rw[z,show A ++ p :: q :: B=(A ++ [p,q]) ++ B by simp]at L;exact iW.right L
  have L:iW S (A ++ [p]):=by have L:=h.path;rw[z,show A ++ p :: q :: B=(A ++ [p]) ++ (q :: B) by simp]at L;exact iW.left L
  have W:iW S (mX S (mt p) M ++ B):=by rw[O]at w ⊢;refine iW.app w (T.tN R) (fun C e hC=>?_);obtain⟨t,ht,rfl⟩:=MZ hC;rw[dG];have:=(X t).2.1;rw[hd]at this;rw[this];have h4:=ah;rw[hd,ht]at h4;exact h4
  obtain⟨m,H⟩:∃m,M=m+1:=⟨M - 1,by omega⟩
  rw[H,mX]at W ⊢;refine iW.app W (iW.left L) (fun C e hC=>?_);rw[hC,show C ++ [e] ++ [p]=C ++ e :: p :: [] by simp]at L;rw[iW.at L,(T.jw R).1,dG]
 ·
  intro a l hl;rcases A with _|⟨a0,A⟩
  ·obtain⟨m,H⟩:∃m,M=m+1:=⟨M - 1,by omega⟩
   rw[H,mX,List.nil_append,List.cons_append,List.cons.injEq]at hl;rw[<-hl.1,(T.jw R).1,dG];exact h.zU p _ z
  ·rw[List.cons_append,List.cons.injEq]at hl;rw[<-hl.1];exact h.zU a0 _ z
 ·exact fun e he g=>((Z _).1 g).elim (ad e he).2.1 (ad e he).1
 ·intro x u hg av g;have g1:¬G (dB S x):=fun hh=>hg ((Z _).2 (.inl hh));have g2:dB S x≠dB S q:=fun hh=>hg ((Z _).2 (.inr hh));have aL:∀e ∈ es,dB S x≠dB S e:=fun e he hh=>by obtain⟨f,hf,bh⟩:=aX e he (by rw[<-hh];exact g2);exact av f hf (by rw[hh,bh])
  have n1:=h.inn x u g1 aL
  have ak:∀y,y<n->dB S y=dB S q->dB S (mt y)=dB S x->False:=fun y hy hv ae=>by
   by_cases J:eT S r G y
   ·by_cases Y:eT S r G (mt y)
    ·rcases h.both y hy J Y with w|w
     ·rw[hv]at w;exact h.live q am w
     ·rw[ae]at w;exact g1 w
    ·have:=h.I9 T z hy hv J Y;rw[this,dG]at ae;exact aL p hp ae.symm
   ·obtain⟨t,ht,rfl⟩:=aB y hy hv J;rcases(show t+1<M\/t+1=M by omega)with h4|h4
    ·exact av (mt (fc S (d (t+2)))) (by rw[List.mem_append,List.mem_append];exact .inr (.inl ((K _).2 ⟨t+1,h4,rfl⟩))) (by rw[(X (t+1)).1,ae])
    ·rw[h4,ah]at ae;exact aL b aP ae.symm
  rcases(I x).1 g with g|g|g|g
  ·exact n1 g
  ·exact g2 g
  ·exact ak (mt x) (T.mlt u) (by rw[<-T.vf u];exact g) (by rw[dG])
  ·exact ak _ (T.gJ (T.gJ u)) g (T.zT u)
 ·intro x u J Y;rw[Z,Z]
  have ar:∀x,x<n->eT S r G' x->eT S r G' (mt x)->¬eT S r G x->(G (dB S x)\/dB S x=dB S q)\/(G (dB S (mt x))\/dB S (mt x)=dB S q):=by
   intro x u J Y n1;rcases(I x).1 J with g|g|g|g
   ·exact absurd g n1
   ·exact .inl (.inr g)
   ·rw[T.vf u]at g;exact .inr (.inr g)
   ·obtain⟨t,ht,aK⟩:=aB _ (T.gJ (T.gJ u)) g (fun o=>n1 ((T.kX hr u).1 ((T.kX hr (T.gJ u)).1 o)));have e1:mt x ∈ A ++ (mX S (mt p) M ++ B):=by rw[List.mem_append,List.mem_append];exact .inr (.inl ((K _).2 ⟨t,ht,by rw[<-aK,T.f3 u]⟩))
    exact absurd Y ((aa _ (T.mlt u)).1 e1).1
  by_cases n1:eT S r G x
  ·by_cases n2:eT S r G (mt x)
   ·rcases h.both x u n1 n2 with w|w
    ·exact .inl (.inl w)
    ·exact .inr (.inl w)
   ·have:=ar (mt x) (T.mlt u) Y (by rw[dG];exact J) n2;rw[dG]at this;exact this.elim .inr .inl
  ·exact ar x u J Y n1
 ·intro P al a2 bi;have a3:=h.Ew P al (fun x u J Y=>a2 x u ((I _).2 (.inl J)) ((I _).2 (.inl Y))) bi;have a4:∀t,eT S r G' (d t)/\eT S r G' (mt (d t)):=fun t=>⟨(I _).2 (.inr (.inl (U t))),(I _).2 (.inr (.inr (.inl (by rw[zS,T.vS (E t)];exact U t))))⟩
  have bj:∀t,P (d t):=by
   intro t
   induction t with
   | zero=>exact a3 _ (E 0) (by rw[an];exact(h.fF hp).2)
   | succ t ih =>
    have w:=a2 _ (E t) (a4 t).1 (a4 t).2 ih;have L:=al _ (T.mlt (E t)) w;rwa [zS,ag]at L
  have aM:∀y,y<n->dB S y=dB S q->P y:=fun y hy hv=>by obtain⟨k,-,hk⟩:=T.turn R hy (az.trans hv.symm);have:=bj k;rw[hd]at this;rw[<-hk];exact this
  intro x u J;rcases(I x).1 J with g|g|g|g
  ·exact a3 x u g
  ·exact aM x u g
  ·have:=al _ (T.gJ (T.gJ u)) (al _ (T.gJ u) (aM _ (T.gJ u) g));rwa [T.f3 u]at this
  ·have:=al _ (T.gJ (T.gJ u)) (aM _ (T.gJ (T.gJ u)) g);rwa [T.f3 u]at this
end
end
