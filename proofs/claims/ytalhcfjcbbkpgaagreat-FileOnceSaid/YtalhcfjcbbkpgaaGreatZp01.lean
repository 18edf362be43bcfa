import Derived.Deep.RegionHeld3
import Derived.OpenShut
import Derived.Test.YtalhcfjcbbkpgaaGreatZp00
set_option maxRecDepth 100000
set_option maxHeartbeats 4000000
namespace Go.Proofs.YtalhcfjcbbkpgaaGreat
section
open Go.RowKit
def ahead(l:List Bool):List Nat:=(List.range ((l.length+511) / 512+1)).map fun b=>cnt (l.take (512 * b))
theorem Qi(l:List Bool)(k:Nat)(h:k<l.length):cnt (l.take (k+1))=cnt (l.take k)+(l.getD k false).toNat:=by rw[Kw l k h,Ku];simp[cnt]
end
section
open Go.RowKit
def grow(F:Nat->Prop)(w w':World):Nat->Prop:=fun k=>F k\/(w.heap.size<=k/\k<w'.heap.size)
def DL(b a c:Int):Int:=if b=1 then a else c - a
end
section
open Go.RowKit
theorem Kz{F:Nat->Prop}{w w1 a:World}(b:w.heap.size<=w1.heap.size)(c:w1.heap.size<=a.heap.size):∀x,grow (grow F w w1) w1 a x->grow F w a x:=by
 rintro x ((h|h)|h)
 ·exact .inl h
 ·exact .inr ⟨h.1,by omega⟩
 ·exact .inr ⟨by omega,h.2⟩
theorem CX{F:Nat->Prop}{w w':World}(hF:∀x,F x->x<w.heap.size)(a:w.heap.size<=w'.heap.size):∀x,grow F w w' x->x<w'.heap.size:=by
 rintro x (h|h)
 ·exact Nat.lt_of_lt_of_le (hF x h) a
 ·exact h.2
def rk(l:List Bool)(a:Int)(n:Nat):Int:=DL a (cnt (l.take n)) n
end
section
theorem KA(l:List Bool)(a:Int):rk l a 0=0:=by unfold rk DL;split <;> simp[cnt]
theorem DN(l:List Bool)(a:Int)(n:Nat)(b:a=0\/a=1)(h:n<l.length):rk l a (n+1)=rk l a n+(if ((l.getD n false).toNat:Int)=a then 1 else 0):=by
 have c:=Qi l n h;unfold rk DL;rw[c];rcases b with rfl|rfl
 ·cases l.getD n false <;> simp <;> omega
 ·cases l.getD n false <;> simp
theorem Qj(l:List Bool)(b:Int)(c:b=0\/b=1)(a:Nat):∀d,a+d<=l.length->rk l b a<=rk l b (a+d):=by
 intro d
 induction d with
 | zero=>intro _;exact Int.le_refl _
 | succ d e =>
  intro h;have g:=e (by omega);have f:=DN l b (a+d) c (by omega);rw[show a+(d+1)=a+d+1 by omega,f];split <;> omega
theorem Ad(l:List Bool)(b:Int)(d:b=0\/b=1){a c:Nat}(h:a<=c)(e:c<=l.length):rk l b a<=rk l b c:=by have:=Qj l b d a (c - a) (by omega);rwa [show a+(c - a)=c by omega]at this
theorem Qk(l:List Bool)(a:Int)(b:a=0\/a=1)(n:Nat)(h:n<=l.length):0<=rk l a n/\rk l a n<=n:=by
 induction n with
 | zero=>rw[KA];omega
 | succ n c =>
  have e:=c (by omega);have d:=DN l a n b (by omega);rw[d];split <;> omega
theorem Ql(l:List Bool)(n:Nat):cnt (l.take n)=cnt (l.take (min n l.length)):=by
 by_cases h:n<=l.length
 ·rw[Nat.min_eq_left h]
 ·rw[Nat.min_eq_right (by omega),List.take_of_length_le (by omega),List.take_of_length_le (by omega)]
def uH(l:List Bool)(a k:Int)(n:Nat):Prop:=n<l.length/\((l.getD n false).toNat:Int)=a/\rk l a n=k
theorem uH.unique{l:List Bool}{b k:Int}(f:b=0\/b=1){a c:Nat}(d:uH l b k a)(e:uH l b k c):a=c:=by
 rcases Nat.lt_trichotomy a c with h|h|h
 ·have g:=DN l b a f d.1;rw[if_pos d.2.1,d.2.2]at g;have i:=Ad l b f (a:=a+1) (c:=c) (by omega) (by have:=e.1;omega);rw[e.2.2]at i;omega
 ·exact h
 ·have g:=DN l b c f e.1;rw[if_pos e.2.1,e.2.2]at g;have i:=Ad l b f (a:=c+1) (c:=a) (by omega) (by have:=d.1;omega);rw[d.2.2]at i;omega
end
section
open Go.RowKit
end
section
open Go.RowKit
end
section
open Go.RowKit
end
section
open Go.RowKit
end
section
open Go.RowKit
end
section
open Go.RowKit
theorem Qm{zs:List Int}(h:∀z ∈ zs,z=0\/z=1){n:Nat}{z:Int}(a:zs[n]? = some z):(((q0z zs).getD n false).toNat:Int)=z:=by have b:=List.mem_of_getElem? a;simp only [q0z,List.getD_eq_getElem?_getD,List.getElem?_map,a,Option.map_some,Option.getD_some];rcases h z b with rfl|rfl <;> rfl
theorem Hq(zs:List Int):(q0z zs).length=zs.length:=by simp[q0z]
theorem RowIn.bytes{w:World}{a:Option Addr}{len cap:Nat}{zs:List Int}(h:RowIn .u8 w a len cap zs):∃ps:List Nat,Sl .u8 w (.slice a len cap) (dD ps)/\∀b ∈ ps,b<256:=by
 obtain⟨e,_,d,_⟩:=h.sl;refine⟨(zs.take len).map Int.toNat,?_,?_⟩
 ·have:dD ((zs.take len).map Int.toNat)=zs.take len:=by
   unfold dD;rw[List.map_map]
   conv=>rhs;rw[<-List.map_id (zs.take len)]
   apply List.map_congr_left;intro n c;have:=bounds_u8 (d n c);simp;omega
  rw[this];exact e
 ·intro b f;obtain⟨n,c,rfl⟩:=List.mem_map.1 f;have:=bounds_u8 (d n c);omega
theorem u8_in{n:Int}(h:(Lit.int .u8 n).wf=true):∃m:Nat,n=m/\m<256:=by have:=bounds_u8 h;exact⟨n.toNat,by omega,by omega⟩
end
section
open Go.RowKit
end
section
def ex(l:List Bool)(p:Nat):Int:=2 * rk l 1 (min p l.length) - (min p l.length:Nat)
def qN(l:List Bool)(p:Nat):Int:=2 * ((l.getD p false).toNat:Int) - 1
theorem DR(l:List Bool):ex l 0=0:=by simp[ex,KA]
theorem KC(l:List Bool){p:Nat}(h:p<l.length):ex l (p+1)=ex l p+qN l p:=by have:=DN l 1 p (.inr rfl) h;unfold ex qN;rw[Nat.min_eq_left (by omega),Nat.min_eq_left (by omega),this];cases l.getD p false <;> simp <;> omega
theorem KD(l:List Bool){p:Nat}(h:l.length<=p):ex l p=ex l l.length:=by unfold ex;rw[Nat.min_eq_right h,Nat.min_self]
theorem Qn(l:List Bool)(p:Nat):qN l p=1\/qN l p=-1:=by unfold qN;cases l.getD p false <;> simp
theorem KE(l:List Bool)(p:Nat):ex l p - 1<=ex l (p+1)/\ex l (p+1)<=ex l p+1:=by
 by_cases h:p<l.length
 ·have a:=KC l h;have b:=Qn l p;omega
 ·rw[KD l (p:=p) (by omega),KD l (p:=p+1) (by omega)];omega
theorem Qo(l:List Bool)(p:Nat):-(l.length:Int)<=ex l p/\ex l p<=l.length:=by have h:=Qk l 1 (.inr rfl) (min p l.length) (by omega);unfold ex;omega
structure ko (l:List Bool)(i:Nat)(want:Int)(B:Nat):Prop where
 lt:B<i
 le:i<=l.length
 hit:ex l B=want
 above:∀p,B<p->p<=i->want<ex l p
end
section
open Go.RowKit
def Bal(l:List Bool):Prop:=ex l l.length=0/\∀p,p<=l.length->0<=ex l p
theorem Qp(l:List Bool)(p:Nat)(h:l.length<=100000000):-100000000<=ex l p/\ex l p<=100000000:=by have:=Qo l p;omega
end
section
open Go.RowKit
end
section
open Go.RowKit
end
section
open Go.RowKit
end
section
theorem DT(l:List Bool)(p:Nat):ex l p=2 * (cnt (l.take p):Int) - (min p l.length:Nat):=by unfold ex rk DL;rw[if_pos rfl,Ql l p]
theorem Qq(a b:List Bool){p:Nat}(h:p<=a.length):ex (a ++ b) p=ex a p:=by rw[DT,DT,List.take_append_of_le_length h,List.length_append];omega
theorem Qr(a b:List Bool)(q:Nat):ex (a ++ b) (a.length+q)=ex a a.length+ex b q:=by rw[DT,DT,DT,List.take_append,List.take_of_length_le (l:=a) (i:=a.length+q) (by omega),List.take_of_length_le (l:=a) (i:=a.length) (by omega),show a.length+q - a.length=q by omega,Ku,List.length_append];omega
theorem yV(l:List Bool){p:Nat}(h:p<l.length):ex l (p+1)=if l.getD p false then ex l p+1 else ex l p - 1:=by rw[KC l h];unfold qN;cases l.getD p false <;> simp <;> omega
theorem KF(l:List Bool){p:Nat}(h:p<l.length)(a:ex l p<ex l (p+1)):l.getD p false=true:=by
 have:=yV l h;cases hb:l.getD p false with
 | true=>rfl
 | false=>rw[hb,if_neg (by simp)]at this;omega
theorem Qs(l:List Bool){p:Nat}(h:p<l.length)(a:ex l (p+1)<ex l p):l.getD p false=false:=by
 have:=yV l h;cases hb:l.getD p false with
 | false=>rfl
 | true=>rw[hb,if_pos rfl]at this;omega
structure fT (l:List Bool)(i j:Nat):Prop where
 lt:i<j
 le:j<l.length
 hit:ex l (j+1)=ex l i
 above:∀p,i<p->p<=j->ex l i<ex l p
theorem fT.opens{l:List Bool}{i j:Nat}(h:fT l i j):l.getD i false=true/\ex l (i+1)=ex l i+1:=by have b:=h.above (i+1) (by omega) (by have:=h.lt;omega);have a:=KF l (by have:=h.lt;have:=h.le;omega) b;refine⟨a,?_⟩;have:=yV l (p:=i) (by have:=h.lt;have:=h.le;omega);rw[a,if_pos rfl]at this;exact this
theorem fT.closes{l:List Bool}{i j:Nat}(h:fT l i j):l.getD j false=false/\ex l (j+1)=ex l j - 1:=by have b:=h.above j h.lt (Nat.le_refl _);have c:=h.hit;have a:=Qs l h.le (by omega);refine⟨a,?_⟩;have:=yV l h.le;rw[a,if_neg (by simp)]at this;exact this
theorem fT.behind{l:List Bool}{i j:Nat}(h:fT l i j):ko l j (ex l (j+1)) i :=
 ⟨h.lt,by have:=h.le;omega,h.hit.symm,fun p a b=>by rw[h.hit];exact h.above p a b⟩
theorem ko.unique{l:List Bool}{i:Nat}{a:Int}{B C:Nat}(h:ko l i a B)(k:ko l i a C):B=C:=by
 rcases Nat.lt_trichotomy B C with b|b|b
 ·have:=h.above C b (by have:=k.lt;omega);have:=k.hit;omega
 ·exact b
 ·have:=k.above B b (by have:=h.lt;omega);have:=h.hit;omega
theorem fT.right{l:List Bool}{i j k:Nat}(h:fT l i j)(b:fT l i k):j=k:=by
 have c:=h.hit;have d:=b.hit;rcases Nat.lt_trichotomy j k with a|a|a
 ·have:=b.above (j+1) (by have:=h.lt;omega) a;omega
 ·exact a
 ·have:=h.above (k+1) (by have:=b.lt;omega) a;omega
theorem fT.left{l:List Bool}{i j k:Nat}(h:fT l i k)(a:fT l j k):i=j:=h.behind.unique a.behind
def jl(l:List Bool)(i m:Nat):Prop:=(l.getD i false=true/\fT l i m)\/(l.getD i false=false/\fT l m i)
theorem fT.wX{l:List Bool}{i j:Nat}(h:fT l i j):jl l i j:=.inl ⟨h.opens.1,h⟩
theorem fT.wY{l:List Bool}{i j:Nat}(h:fT l i j):jl l j i:=.inr ⟨h.closes.1,h⟩
theorem jl.symm{l:List Bool}{i m:Nat}(h:jl l i m):jl l m i:=by
 rcases h with⟨_,h⟩|⟨_,h⟩
 ·exact h.wY
 ·exact h.wX
theorem jl.lt{l:List Bool}{i m:Nat}(h:jl l i m):m<l.length:=by
 rcases h with⟨_,h⟩|⟨_,h⟩
 ·exact h.le
 ·have:=h.lt;have:=h.le;omega
theorem jl.unique{l:List Bool}{i m n:Nat}(h:jl l i m)(k:jl l i n):m=n:=by
 rcases h with⟨b,h⟩|⟨b,h⟩ <;> rcases k with⟨a,k⟩|⟨a,k⟩
 ·exact h.right k
 ·rw[b]at a;cases a
 ·rw[b]at a;cases a
 ·exact h.left k
theorem Bj(P:Nat->Prop)[DecidablePred P](a:Nat):∀d,P (a+d)->∃n,a<=n/\n<=a+d/\P n/\∀p,a<=p->p<n->¬P p
 | 0,h=>⟨a,Nat.le_refl _,Nat.le_refl _,h,fun p b c=>by omega⟩
 | d+1,h=>by
  by_cases f:∃e,e<=d/\P (a+e)
  ·obtain⟨e,k,g⟩:=f;obtain⟨n,b,c,i,j⟩:=Bj P a e g;exact⟨n,b,by omega,i,j⟩
  ·refine⟨a+(d+1),by omega,Nat.le_refl _,h,fun p b c g=>f ⟨p - a,by omega,?_⟩⟩;rwa [show a+(p - a)=p by omega]
termination_by d=>d
decreasing_by all_goals omega
theorem KG(P:Nat->Prop)[DecidablePred P]:∀a,P 0->∃n,n<=a/\P n/\∀p,n<p->p<=a->¬P p
 | 0,h=>⟨0,Nat.le_refl _,h,fun p c b=>by omega⟩
 | a+1,h=>by
  by_cases d:P (a+1)
  ·exact⟨a+1,Nat.le_refl _,d,fun p c b=>by omega⟩
  ·obtain⟨n,c,b,e⟩:=KG P a h;refine⟨n,by omega,b,fun p f i=>?_⟩;by_cases g:p=a+1
   ·rw[g];exact d
   ·exact e p f (by omega)
theorem KH(l:List Bool)(i:Nat)(e:i<=l.length)(f:0<ex l i)(w:Int)(g:w=ex l i - 1):∃B,ko l i w B:=by
 obtain⟨n,j,k,a⟩:=KG (fun p=>ex l p<=w) i (by rw[DR];omega)
 have b:n<i:=by
  rcases Nat.lt_or_ge n i with h|h
  ·exact h
  ·obtain rfl:n=i:=by omega
   omega
 refine⟨n,b,e,?_,fun p c d=>by have:=a p c d;omega⟩;have c:=a (n+1) (by omega) b;have d:=KE l n;omega
theorem Bal.mate{l:List Bool}(h:Bal l){i:Nat}(b:i<l.length):∃m,jl l i m:=by
 have c:=yV l b;cases hl:l.getD i false with
 | true =>
  rw[hl,if_pos rfl]at c;have d:=h.2 i (by omega);obtain⟨n,j,k,o,e⟩:=Bj (fun p=>ex l p<=ex l i) (i+1) (l.length - (i+1)) (by simp only [show i+1+(l.length - (i+1))=l.length by omega,h.1];exact d)
  have q:i+1<n:=by
   rcases Nat.lt_or_ge (i+1) n with h|h
   ·exact h
   ·obtain rfl:n=i+1:=by omega
    omega
  obtain⟨m,rfl⟩:∃m,n=m+1:=⟨n - 1,by omega⟩
  have r:=e m (by omega) (by omega);have s:=KE l m;refine⟨m,.inl ⟨hl,by omega,by omega,by omega,fun p f g=>by have:=e p (by omega) (by omega);omega⟩⟩
 | false =>
  rw[hl,if_neg (by simp)]at c;have d:=h.2 (i+1) (by omega);obtain⟨B,a⟩:=KH l i (by omega) (by omega) (ex l (i+1)) (by omega);refine⟨B,.inr ⟨hl,a.lt,b,a.hit.symm,fun p f g=>?_⟩⟩;rw[a.hit];exact a.above p f g
def Hr(l:List Bool)(o:Nat)(r:Int):Prop:=(ex l o=0/\r=-1)\/(0<ex l o/\∃B:Nat,r=B/\ko l o (ex l o - 1) B)
def KI(l:List Bool)(i:Nat)(r:Int):Prop:=(l.getD i false=true/\Hr l i r)\/(l.getD i false=false/\∃o,fT l o i/\Hr l o r)
end
section
open Go.RowKit
end
section
open Go.RowKit
theorem Keeps.oQ{w w':World}(k:Keeps (fun _=>False) w w'){a:Addr}{v:Value}(h:w.cell? a=some v):w'.cell? a=some v:=by rw[World.cell?_of_block (w:=w) (k.block a.block (World.block_lt_of_cell? _ _ h) (fun h=>h))];exact h
end
section
open Go.RowKit
end
section
open Go.RowKit
end
section
open Go.RowKit
theorem wZ{α:Type}{l:List α}{i:Nat}{x:α}(h:l[i]? = some x):l.take (i+1)=l.take i ++ [x]:=by rw[List.take_add_one,h];rfl
theorem sJ:(Tryz.prog.info? 5).map (fun i=>(i.zero,i.size,i.bytes))=some (some (.int .u8 0),1,1):=by kernel_rfl
def ys(bs:List Nat):List Value:=(dD bs).map fun z=>Value.int .u8 z
theorem FI(bs:List Nat):(ys bs).length=bs.length:=by simp[ys,dD]
theorem FJ(a c:List Nat):ys (a ++ c)=ys a ++ ys c:=by simp[ys,dD]
def dZ(B:Nat)(w:World)(v:Value)(bs:List Nat):Prop:=w.ownsRow B 5 1 v bs.length (ys bs)
theorem dZ.nil(B:Nat)(w:World):dZ B w (.slice none 0 0) []:=World.ownsRow_nil _ _ _ _
theorem dZ.sl{B:Nat}{w:World}{v:Value}{bs:List Nat}(h:dZ B w v bs):Sl .u8 w v (dD bs):=Sl.rz h
theorem dZ.keeps{B:Nat}{w w':World}{v:Value}{bs:List Nat}{F:Nat->Prop}(h:dZ B w v bs)(k:Keeps F w w')(a:∀b,v.ownBlock=some b->¬F b):dZ B w' v bs:=k.owns h a
theorem dZ.lt{B:Nat}{w:World}{v:Value}{bs:List Nat}(h:dZ B w v bs):∀k,v.ownBlock=some k->B<=k/\k<w.heap.size:=World.ownsRow.lt h
theorem dZ.alloc{B:Nat}{w:World}{v:Value}{bs:List Nat}(h:dZ B w v bs)(o:Obj):dZ B (w.alloc o) v bs:=World.ownsRow.alloc h o
theorem dZ.form{B:Nat}{w:World}{v:Value}{bs:List Nat}(h:dZ B w v bs):∃a cap,v=.slice a bs.length cap/\bs.length<=cap/\cap<=9223372036854775807:=by obtain⟨a,cap,b,c,d,_,_⟩:=h.sl;rw[show (dD bs).length=bs.length by simp[dD]]at b c;exact⟨a,cap,b,c,d⟩
theorem dZ.mono{B B':Nat}{w:World}{v:Value}{bs:List Nat}(h:dZ B w v bs)(b:∀k,v.ownBlock=some k->B'<=k):dZ B' w v bs:=by
 obtain⟨c,a⟩:=h;refine⟨c,?_⟩;rcases a with a|⟨g,cap,cur,rfl,d,r⟩
 ·exact .inl a
 ·exact .inr ⟨g,cap,cur,rfl,b g rfl,r⟩
theorem Qt{d:Array Oper}{rest:List Oper}{o:Oper}{a:Act}{Q:Exit->Act->World->Prop}{wr:World}(n:Nat)(f:o.guard=none)(s x:Operand)
  (w:o.op=.call { callee:=.builtin .append,args:=#[s,x],argTypes:=#[30,30] })(B:Nat)(v:Value)(bs:List Nat)(z:Nat)(j:Hid (bs.length=n))(H:Nat)(y:wr.heap.size=H)(A:a.eval s=v)(C:a.eval x=.slice (some ⟨H,0,none⟩) 1 1)
  (e:dZ B wr v bs)(r:n<=10000000000)(F:B<=wr.heap.size)
  (h:∀g cap w',dZ B w' (.slice (some ⟨g,0,none⟩) (n+1) cap) (bs ++ [z])->Keeps (fun k=>v.ownBlock=some k) wr w'->(v.ownBlock=some g\/wr.heap.size<=g)->B<=g ->
   wpList Tryz.prog d Q rest (a.put o.dst (.slice (some ⟨g,0,none⟩) (n+1) cap)) w') :
  wpList Tryz.prog d Q (o :: rest) a (wr.alloc (.cells #[.int .u8 (z:Int)] 5)):=by
 obtain⟨i,D,l,m,p⟩:=info_parts sJ;have j:=j.out;subst j;subst y;refine wpList_append_lies _ f s x _ w B 5 i (.int .u8 0) 1 1 Tryz.underlying30 D l m p rfl (by decide) v bs.length _ A (e.alloc _) ⟨wr.heap.size,0,none⟩ 1 1 [.int .u8 (z:Int)] C rfl (cell_one_new _ _ _) ?_ (by decide) ?_ ?_ ?_ (wr.heap.size+1) (by simp) ?_
 ·intro u t;simp at t;subst t;rfl
 ·unfold maxLen;omega
 ·omega
 ·simp;omega
 ·intro g cap w1 b c q _;refine h g cap w1 ?_ (((Keeps.refl _ wr).alloc _).grown c (fun k E=>.inl E)) (q.imp id (fun h=>by omega)) ?_
  ·unfold dZ;rw[List.length_append,FJ];exact b
  ·exact(b.lt g rfl).1
theorem Sl.rA{w:World}{d:Addr}{n cap:Nat}{bs:List Nat}(h:Sl .u8 w (.slice (some d) n cap) (dD bs)):n=bs.length/\∀j u,(ys bs)[j]? = some u->w.cell? (d.add j)=some u:=by
 obtain⟨o,e,f,_,_,_,l⟩:=h;simp only [Value.slice.injEq]at f;obtain⟨rfl,rfl,rfl⟩:=f;refine⟨by simp[dD],fun j u g=>?_⟩;simp only [ys,List.getElem?_map,Option.map_eq_some_iff]at g;obtain⟨z,m,rfl⟩:=g;obtain⟨i,a,k,b⟩:=l j z m;simp only [Option.some.injEq]at k;subst k;have c:(⟨i,a,none⟩:Addr).add j=⟨i,a+j,none⟩:=by unfold Addr.add;split <;> simp_all
 rw[c];exact b
theorem Sl.uI{w:World}{n cap:Nat}{bs:List Nat}(h:Sl .u8 w (.slice none n cap) (dD bs)):bs=[]/\n=0/\cap=0:=by
 obtain⟨f,a,b,_,_,c,d⟩:=h;simp only [Value.slice.injEq]at b;obtain⟨rfl,rfl,rfl⟩:=b
 have e:bs=[]:=by
  cases bs with
  | nil=>rfl
  | cons y bs=>obtain⟨g,off,h,_⟩:=d 0 (y:Int) rfl;cases h
 subst e;exact⟨rfl,rfl,c rfl⟩
theorem Ht(bs:List Nat):∀u ∈ ys bs,u.oneCell'=true:=by intro u a;simp only [ys,List.mem_map]at a;obtain⟨z,_,rfl⟩:=a;rfl
theorem Hu{j:Array Oper}{rest:List Oper}{o:Oper}{a:Act}{Q:Exit->Act->World->Prop}{wr:World}(l:o.guard=none)(s x:Operand)
  (w:o.op=.call { callee:=.builtin .append,args:=#[s,x],argTypes:=#[30,30] })(B:Nat)(v sv:Value)(bs g:List Nat)(y:a.eval s=v)(m:a.eval x=sv)
  (b:dZ B wr v bs)(c:Sl .u8 wr sv (dD g))(z:bs.length+g.length<=10000000000)(C:B<=wr.heap.size)
  (h:∀v' w',dZ B w' v' (bs ++ g)->Keeps (fun k=>v.ownBlock=some k) wr w'->(v'.ownBlock=v.ownBlock\/∃k,v'.ownBlock=some k/\wr.heap.size<=k)->wpList Tryz.prog j Q rest (a.put o.dst v') w') :
  wpList Tryz.prog j Q (o :: rest) a wr:=by
 obtain⟨i,A,n,p,q⟩:=info_parts sJ;obtain⟨r,cap,rfl,_⟩:=id c;cases r with
 | none =>
  obtain⟨rfl,D,t⟩:=c.uI;rw[t]at m;refine wpList_append_own_none l s x _ w B 5 i 1 Tryz.underlying30 A v bs.length _ y b m ?_;exact h v wr (by simpa using b) (Keeps.refl _ _) (.inl rfl)
 | some r =>
  obtain⟨E,d⟩:=c.rA;refine wpList_append_own_at _ l s x _ w B 5 i (.int .u8 0) 1 1 Tryz.underlying30 A n p q rfl (by decide) v bs.length _ y b r g.length cap (ys g) (by rw[m,E]) (by simp[FI]) d (Ht g) ?_ ?_ C ?_
  ·unfold maxLen;omega
  ·omega
  ·intro v' w' e f _ u;refine h v' w' ?_ ((Keeps.refl _ wr).grown f (fun k F=>.inl F)) (u.imp id (fun h=>⟨_,h,Nat.le_refl _⟩));unfold dZ;rw[List.length_append,FJ];exact e
theorem xk{g:Array Oper}{rest:List Oper}{o:Oper}{a:Act}{Q:Exit->Act->World->Prop}{wr:World}(p:o.guard=none)(s x:Operand)
  (C:o.op=.call { callee:=.builtin .append,args:=#[s,x],argTypes:=#[30,30] })(q:Option Addr)(n m c:Nat)(r:Addr)(bs l:List Nat)(D:a.eval s=.slice q n n)(E:a.eval x=.slice (some r) m c)
  (d:Sl .u8 wr (.slice q n n) (dD bs))(t:Sl .u8 wr (.slice (some r) m c) (dD l))(F:0<m)(y:n+m<=10000000000)
  (h:∀v' w',dZ wr.heap.size w' v' (bs ++ l)->Keeps (fun _=>False) wr w'->wpList Tryz.prog g Q rest (a.put o.dst v') w') :
  wpList Tryz.prog g Q (o :: rest) a wr:=by
 obtain⟨i,G,u,v,w⟩:=info_parts sJ;obtain⟨z,e⟩:=t.rA;have A:n=bs.length:=by obtain⟨_,_,B,_⟩:=d;simp only [Value.slice.injEq]at B;rw[B.2.1];simp[dD]
 refine wpList_append_grows wr p s x _ C 5 i (.int .u8 0) 1 1 Tryz.underlying30 G u v w rfl (by decide) q n n (ys bs) D ?_ (by rw[FI,A];omega) ?_ r m c (ys l) E (by rw[FI,z];omega) e (Ht l) (by omega) (by unfold maxLen;omega) (by omega) ?_
 ·rintro rfl;exact⟨d.uI.2.1,d.uI.2.1⟩
 ·rintro b rfl;exact d.rA.2
 ·intro v' w' j f;refine h v' w' ?_ ((Keeps.refl _ wr).grown f (fun k H=>by cases H));unfold dZ;rw[List.length_append,FJ,<-A,<-z];exact j
end
