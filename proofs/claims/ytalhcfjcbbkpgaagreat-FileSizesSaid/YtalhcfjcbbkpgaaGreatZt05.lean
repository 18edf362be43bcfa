import Derived.Shelf.Strings.Builder1
import Derived.Test.YtalhcfjcbbkpgaaGreatZt04
set_option maxRecDepth 100000
set_option maxHeartbeats 4000000
namespace Go.Proofs
open Go.Shelf
end Go.Proofs
namespace Go.Proofs.YtalhcfjcbbkpgaaGreat
section
open Go.RowKit
end
section
open Go.RowKit
end
section
open Go.RowKit
def nE(x k:Nat):List Bool:=(List.range k).map fun i=>x / 2 ^ i % 2 == 1
theorem RD(x k:Nat):nE x (k+1)=nE x k ++ [x / 2 ^ k % 2 == 1]:=by simp[nE,List.range_succ]
theorem Gp(x k:Nat):(nE x k).length=k:=by simp[nE]
theorem fq.grown{w:World}{b:Nat}{v:Value}{l:List Bool}(h:fq w b v l):fA w b v l w:=⟨v,h,Keeps.refl _ _,.inl rfl⟩
theorem RF(y:Nat)(b:y<18446744073709551616):bits BinOp.and IntKind.u64 (y:Int) 1=(((y % 2 == 1).toNat:Nat):Int):=by
 have h:=bits_and_u64_nat y 1 b (by omega);rw[show ((1:Nat):Int)=1 from rfl]at h;rw[h,Nat.and_one_is_mod];have a:y % 2=0\/y % 2=1:=by omega
 rcases a with a|a <;> rw[a] <;> rfl
theorem LX(b:Nat)(v:Value)(l:List Bool)(x k:Nat)(w:World)(h:fq w b v l)(H:l.length+64<1000000000)(A:x<18446744073709551616)(I:k<=64) :
  Calls Tryz.prog 134 #[.pointer (some ⟨b,0,none⟩),.int .u64 x,.int .i64 k] w fun e w'=>e=.returned (.tuple #[])/\fA w b v (l ++ nE x k) w':=by
 have B:min (k:Int) 64=k:=by omega
 go_enter Tryz.func134,Tryz.ntmps134;go_wp2_with fail;clear B;go_loopg [12] k (fun m i wr=>∃j:Nat,j<=k/\m=k - j/\i=.int .i64 j/\fA w b v (l ++ nE x j) wr)
 case atStart=>exact⟨0,Nat.zero_le _,rfl,rfl,by simpa [nE]using h.grown⟩
 case round =>
  obtain⟨j,J,c,rfl,q,d,f,g⟩:=hrel;have C:=dh c;clear c;by_cases D:j<k
  ·have r:=Ie b q (l ++ nE x j) (x / 2 ^ j % 2 == 1) wr d (by simp[Gp];omega);have s:=dh (dn f g);clear d f g;have o:=RF (x / 2 ^ j) (Nat.lt_of_le_of_lt (Nat.div_le_self _ _) A);have t:(x:Int) / 2 ^ j=((x / 2 ^ j:Nat):Int):=by simp
   rw[<-t]at o;have E:=dh o;clear o t;go_wp2_with fail;rw[E.out];refine r.mono ?_;rintro e F ⟨rfl,G,u,y,z⟩;have a:fA w b v (l ++ nE x (j+1)) F:=fA.trans s.out.1 s.out.2 ⟨G,by rw[RD,<-List.append_assoc];exact u,y,z⟩;have p:=dh a;clear r u y z a;go_wp2;go_roundg (k - (j+1))
   case measure=>rw[C.out];omega
   case rel=>exact⟨j+1,by omega,rfl,by go_num,p.out⟩
  ·obtain rfl:j=k:=by omega
   have p:Hid (fA w b v (l ++ nE x j) wr):=dh ⟨q,d,f,g⟩;clear d f g;go_wp2;go_end0;exact⟨rfl,p.out⟩
end
section
open Go.RowKit
def jE(ks:List Nat):List Bool:=ks.flatMap fun k=>nE k 2
theorem RG{ks:List Nat}{i x:Nat}(h:ks[i]? = some x):jE (ks.take (i+1))=jE (ks.take i) ++ nE x 2:=by unfold jE;rw[pE h,List.flatMap_append];simp
theorem Gq(ks:List Nat):(jE ks).length=2 * ks.length:=by
 induction ks with
 | nil=>rfl
 | cons k ks a=>simp only [jE,List.flatMap_cons,List.length_append,Gp,List.length_cons]at *;omega
def iF(w:World)(b:Nat)(l:List Bool)(w':World):Prop:=∃v,fq w' b v l/\w.heap.size<=b/\(∀k,v.ownBlock=some k->w.heap.size<=k)/\Keeps (fun _=>False) w w'
theorem iF.grown{w wr w1:World}{b:Nat}{l:List Bool}{v:Value}(i:w.heap.size<=b)(f:∀k,v.ownBlock=some k->w.heap.size<=k)(g:Keeps (fun _=>False) w wr)(h:fA wr b v l w1):iF w b l w1:=by
 obtain⟨j,m,o,c⟩:=h;refine⟨j,m,i,fun k a=>?_,g.trans o (fun x p e=>?_)⟩
 ·rcases c with c|⟨q,c,d⟩
  ·rw[c]at a;exact f k a
  ·rw[c]at a;cases a;exact Nat.le_trans g.size d
 ·rcases e with rfl|e
  ·omega
  ·have:=f x e;omega
theorem RH(b:Nat)(v:Value)(ks:List Nat)(w:World)(H:gQ w b v ks)(I:∀k ∈ ks,k<4)(T:ks.length<=1000000) :
  Calls Tryz.prog 131 #[.pointer (some ⟨b,0,none⟩)] w fun e w'=>∃d,e=.returned (.pointer (some ⟨d,0,none⟩))/\iF w d (jE ks) w':=by
 have B:=(Keeps.refl (fun _=>False) w).alloc (.cells #[.slice none 0 0,.int .i64 0] 198);have J:Hid (∀W,Keeps (fun _=>False) w W->gQ W b v ks):=dh (fun W C=>H.keeps C (fun h=>h) (fun _ _ h=>h));have K:=Ri b v ks _ (J.out _ B);have l:iF w w.heap.size [] (w.alloc (.cells #[.slice none 0 0,.int .i64 0] 198)):=⟨_,Ic w,Nat.le_refl _,fun k C=>by simp[Value.ownBlock]at C,B⟩
 have M:=dh I;clear H I B;go_enter Tryz.func131,Tryz.ntmps131;go_wp2_with fail;refine(F6 _).mono ?_;rintro e w1 ⟨rfl,rfl⟩;go_wp2_with fail;refine K.mono ?_;rintro e w1 ⟨rfl,rfl⟩;clear K;go_wp2_with fail;generalize World.alloc _ _=wM at *;obtain⟨d,o⟩:∃d,d=w.heap.size:=⟨_,rfl⟩
 rw[<-o]at l;rw[<-o];clear o;go_loopg [8] ks.length (fun m i wr=>∃j:Nat,j<=ks.length/\m=ks.length - j/\i=.int .i64 j/\iF w d (jE (ks.take j)) wr)
 case atStart=>exact⟨0,Nat.zero_le _,rfl,rfl,l⟩
 case round =>
  obtain⟨j,U,q,rfl,L,u,x,z,r⟩:=hrel;have N:=dh q;clear q l;by_cases D:j<ks.length
  ·have p:=J.out wr r;obtain⟨a,cap,rfl,O,P,c⟩:=p.form;have V:wr.cell? ⟨b,0,none⟩=some (.slice a ks.length cap):=dw p.1 0;have A:=List.getElem?_eq_getElem D;obtain⟨g,rfl,X⟩:=c j _ A;have Q:=M.out _ (List.mem_of_getElem? A);have s:=RG A;have f:=Gq (ks.take j);have E:=LX d L (jE (ks.take j)) ks[j] 2 wr u (by rw[f,List.length_take];omega) (by omega) (by omega);rw[<-s]at E;generalize ks[j]=y at *;have F:=dh (dn x (dn z r));clear A s c p u x z r f;go_wp2_with fail;refine E.mono ?_;rintro e R ⟨rfl,t⟩;have G:Hid (iF w d (jE (ks.take (j+1))) R):=dh (iF.grown F.out.1 F.out.2.1 F.out.2.2 t);clear E t;go_wp2;go_roundg (ks.length - (j+1))
   case measure=>rw[N.out];omega
   case rel=>exact⟨j+1,by omega,rfl,by go_num,G.out⟩
  ·obtain rfl:j=ks.length:=by omega
   have G:Hid (iF w d (jE (ks.take ks.length)) wr):=dh ⟨L,u,x,z,r⟩;clear u x z r;go_wp2;go_ret;refine⟨d,rfl,?_⟩;have:=G.out;rwa [List.take_of_length_le (Nat.le_refl _)]at this
end
section
open Go.RowKit
end
section
open Go.RowKit
end
section
def DD(ks:List Nat)(p:Nat):Int:=(eO (ks.take p) 0:Int) - eO (ks.take p) 1
def BB(ks:List Nat)(p:Nat):Int:=(eO (ks.take p) 2:Int) - eO (ks.take p) 3
def dd(k:Nat):Int:=if k=0 then 1 else if k=1 then -1 else 0
def bb(k:Nat):Int:=if k=2 then 1 else if k=3 then -1 else 0
theorem Dw(ks:List Nat):DD ks 0=0:=by simp[DD,eO]
theorem Iy(ks:List Nat):BB ks 0=0:=by simp[BB,eO]
theorem q24{ks:List Nat}{i k:Nat}(h:ks[i]? = some k):DD ks (i+1)=DD ks i+dd k:=by
 unfold DD dd;rw[xC h 0,xC h 1];by_cases a:k=0
 ·subst a;simp;omega
 ·by_cases b:k=1
  ·subst b;simp;omega
  ·simp[a,b]
theorem Gs{ks:List Nat}{i k:Nat}(h:ks[i]? = some k):BB ks (i+1)=BB ks i+bb k:=by
 unfold BB bb;rw[xC h 2,xC h 3];by_cases a:k=2
 ·subst a;simp;omega
 ·by_cases b:k=3
  ·subst b;simp;omega
  ·simp[a,b]
theorem zG{ks:List Nat}{k p:Nat}(a:p<=ks.length):DD (ks ++ [k]) p=DD ks p:=by unfold DD;rw[List.take_append_of_le_length a]
theorem y5{ks:List Nat}{k p:Nat}(a:p<=ks.length):BB (ks ++ [k]) p=BB ks p:=by unfold BB;rw[List.take_append_of_le_length a]
theorem AX(ks:List Nat)(k:Nat):DD (ks ++ [k]) (ks.length+1)=DD ks ks.length+dd k:=by rw[q24 (k:=k) (by simp),zG (Nat.le_refl _)]
theorem zH(ks:List Nat)(k:Nat):BB (ks ++ [k]) (ks.length+1)=BB ks ks.length+bb k:=by rw[Gs (k:=k) (by simp),y5 (Nat.le_refl _)]
structure OwnAt (ks:List Nat)(i o:Nat):Prop where
 lt:o<i
 opens:ks[o]? = some 0
 hit:DD ks o+1=DD ks i
 above:∀p,o<p->p<=i->DD ks o<DD ks p
theorem OwnAt.unique{ks:List Nat}{i o q:Nat}(h:OwnAt ks i o)(k:OwnAt ks i q):o=q:=by
 rcases Nat.lt_trichotomy o q with a|rfl|a
 ·have:=h.above q a (Nat.le_of_lt k.lt);have:=h.hit;have:=k.hit;omega
 ·rfl
 ·have:=k.above o a (Nat.le_of_lt h.lt);have:=h.hit;have:=k.hit;omega
theorem OwnAt.old{ks:List Nat}{k i o:Nat}(e:i<=ks.length)(h:OwnAt (ks ++ [k]) i o):OwnAt ks i o:=by obtain⟨f,c,d,g⟩:=h;rw[List.getElem?_append_left (by omega)]at c;rw[zG (by omega),zG e]at d;refine⟨f,c,d,fun p a b=>?_⟩;have:=g p a b;rwa [zG (by omega),zG (by omega)]at this
structure rQ (ks:List Nat):Prop where
 k4:∀k ∈ ks,k<4
 mI:∀p,p<=ks.length->0<=DD ks p
 bpos:∀p,p<=ks.length->0<=BB ks p
 right:∀i,ks[i]? = some 3->∀o,OwnAt ks i o->BB ks (o+1)<BB ks i
structure gB (ks:List Nat):Prop extends rQ ks where
 nO:DD ks ks.length=0
 qI:BB ks ks.length=0
theorem rQ.nil:rQ []:=⟨(fun k h=>by cases h),fun p h=>by
 obtain rfl:p=0:=by simpa using h
 rw[Dw];omega,fun p h=>by
 obtain rfl:p=0:=by simpa using h
 rw[Iy];omega,fun i h=>by simp at h⟩
theorem rQ.snoc{ks:List Nat}{k:Nat}(h:rQ ks)(r:k<4)(j:0<=DD ks ks.length+dd k)(l:0<=BB ks ks.length+bb k)
  (hr:k=3->∀o,OwnAt (ks ++ [k]) ks.length o->BB ks (o+1)<BB ks ks.length):rQ (ks ++ [k]) where
 k4:=fun x a=>by
  rcases List.mem_append.1 a with a|a
  ·exact h.k4 x a
  ·simp only [List.mem_singleton]at a;omega
 mI:=fun p d=>by
  rcases Nat.lt_or_ge p (ks.length+1)with e|f
  ·rw[zG (by omega)];exact h.mI p (by omega)
  ·obtain rfl:p=ks.length+1:=by simp at d;omega
   rw[AX];exact j
 bpos:=fun p d=>by
  rcases Nat.lt_or_ge p (ks.length+1)with e|f
  ·rw[y5 (by omega)];exact h.bpos p (by omega)
  ·obtain rfl:p=ks.length+1:=by simp at d;omega
   rw[zH];exact l
 right:=fun i c o g=>by
  rcases zF c with c|⟨rfl,m⟩
  ·have q:=iE c;have b:=g.old (by omega);have:=b.lt;rw[y5 (by omega),y5 (by omega)];exact h.right i c o b
  ·have:=g.lt;rw[y5 (by omega),y5 (Nat.le_refl _)];exact hr m.symm o g
def jP(ks:List Nat):List Fr->Prop
 | []=>True
 | f :: rest=>(ks[f.o]? = some 0/\DD ks f.o=rest.length/\∀p,f.o<p->p<=ks.length->(rest.length:Int)<DD ks p)/\jP ks rest
theorem jP.snoc{ks:List Nat}{k:Nat}:∀{a:List Fr},jP ks a->(a.length:Int)<=DD ks ks.length+dd k->jP (ks ++ [k]) a
 | [],_,_=>trivial
 | f :: rest,⟨⟨e,i,j⟩,l⟩,g=>by
  have b:=iE e;refine⟨⟨by rw[List.getElem?_append_left b];exact e,by rw[zG (by omega)];exact i,fun p c d=>?_⟩,l.snoc (by simp only [List.length_cons]at g;omega)⟩;rcases Nat.lt_or_ge p (ks.length+1)with m|m
  ·rw[zG (by omega)];exact j p c (by omega)
  ·obtain rfl:p=ks.length+1:=by simp at d;omega
   rw[AX];simp only [List.length_cons]at g;omega
theorem jP.bump{ks:List Nat}{a:List Fr}(h:jP ks a):jP ks (jk a):=by cases a <;> exact h
theorem RI{d:List (Nat × Nat)}(h:(d.map Prod.fst).Nodup){x a b:Nat}(e:(x,a) ∈ d)(c:(x,b) ∈ d):a=b:=by
 induction d with
 | nil=>cases e
 | cons p d f =>
  rw[List.map_cons,List.nodup_cons]at h;rcases List.mem_cons.1 e with e|e
  ·rcases List.mem_cons.1 c with c|c
   ·rw[<-e]at c;simp only [Prod.mk.injEq,true_and]at c;exact c.symm
   ·exact absurd (List.mem_map.2 ⟨_,c,by rw[<-e]⟩) h.1
  ·rcases List.mem_cons.1 c with c|c
   ·exact absurd (List.mem_map.2 ⟨_,e,by rw[<-c]⟩) h.1
   ·exact f h.2 e c
theorem RJ{c:List (Nat × Nat)}(h:(c.map Prod.fst).Nodup){i j x a b:Nat}(e:c[i]? = some (x,a))(f:c[j]? = some (x,b)):i=j:=by
 have g:=iE e;have k:=iE f;rw[List.getElem?_eq_getElem g]at e;rw[List.getElem?_eq_getElem k]at f;simp only [Option.some.injEq]at e f;rw[List.Nodup,List.pairwise_iff_getElem]at h;rcases Nat.lt_trichotomy i j with d|rfl|d
 ·exact absurd (by rw[List.getElem_map,List.getElem_map,e,f]) (h i j (by simpa using g) (by simpa using k) d)
 ·rfl
 ·exact absurd (by rw[List.getElem_map,List.getElem_map,e,f]) (h j i (by simpa using k) (by simpa using g) d)
def jJ(a:List (Nat × Nat)):List Nat:=a.map Prod.snd
theorem Cc(a:List (Nat × Nat)):(jJ a).length=a.length:=by simp[jJ]
theorem qJ(a:List (Nat × Nat))(d k:Nat):jJ (a ++ [(d,k)])=jJ a ++ [k]:=by simp[jJ]
structure tq (out:List (Nat × Nat))(st:List Fr)(pend:List Nat):Prop where
 pre:rQ (jJ out)
 dep:DD (jJ out) out.length=st.length
 own:jP (jJ out) st
 ord:st.Pairwise (fun f g=>g.o<f.o)
 brk:BB (jJ out) out.length=pend.length
 zI:pend.Nodup
 oQ:∀l,l ∈ pend↔∃x,out[l]? = some (x,2)/\¬vis out (mt x)
 zJ:∀f ∈ st,BB (jJ out) out.length - BB (jJ out) (f.o+1)=(pend.filter fun l=>decide (f.o<l)).length
theorem LY:tq [] [] []:=⟨rQ.nil,Dw _,trivial,List.Pairwise.nil,Iy _,List.nodup_nil,fun l=>⟨fun h=>(by cases h),fun ⟨x,h,_⟩=>(by simp at h)⟩,fun f h=>(by cases h)⟩
theorem LZ{a:List (Nat × Nat)}{b:List Nat}{d k:Nat}(g:∀l,l ∈ b↔∃x,a[l]? = some (x,2)/\¬vis a (mt x))(i:k≠2)(j:(mt d,2) ∉ a) :
  ∀l,l ∈ b↔∃x,(a ++ [(d,k)])[l]? = some (x,2)/\¬vis (a ++ [(d,k)]) (mt x):=by
 intro l;rw[g l];constructor
 ·rintro⟨x,c,h2⟩;refine⟨x,by rw[List.getElem?_append_left (iE c)];exact c,fun e=>?_⟩;rcases nu.1 e with e|e
  ·exact h2 e
  ·refine j ?_;rw[<-e,dG];exact List.mem_of_getElem? c
 ·rintro⟨x,c,h2⟩;rcases zF c with c|⟨_,f⟩
  ·exact⟨x,c,fun e=>h2 (nu.2 (.inl e))⟩
  ·simp only [Prod.mk.injEq]at f;exact absurd f.2.symm i
theorem RL{l:List Nat}{x:Nat}(p:Nat->Bool)(c:x ∈ l)(e:p x=true):(l.filter p).length=((l.erase x).filter p).length+1:=by
 induction l with
 | nil=>cases c
 | cons y l d =>
  by_cases b:y=x
  ·subst b;rw[List.erase_cons_head,List.filter_cons,if_pos e];rfl
  ·have a:x ∈ l:=by
    rcases List.mem_cons.1 c with h|h
    ·exact absurd h.symm b
    ·exact h
   rw[List.erase_cons_tail (by simpa using b),List.filter_cons,List.filter_cons];split
   ·simp only [List.length_cons,d a]
   ·exact d a
section
variable {n:Nat} {S dH:Nat->Nat} (h:dU n S) {root:Nat} (hr:root<n)
include h hr
theorem tq.step{r:Nat}{A:List Fr}{d:Nat}{a:List (Nat × Nat)}{b:List Nat}(W:tq a A b)(I:iK n S dH root r A d a)(t:¬vis a d)
  {k r':Nat}{st':List Fr}(hs:qY n S dH root r A d a k r' st'):∃G,tq (a ++ [(d,k)]) st' G:=by
 have z:(jJ a).length=a.length:=Cc a;have m:(a ++ [(d,k)]).length=(jJ a).length+1:=by simp[z]
 have u:=W.dep;have L:=W.brk;rw[<-z]at u L;cases hs with
 | close f rest R E =>
  subst R;have H:(mt d,2) ∉ a:=fun e=>by have:=RI I.nd E e;omega
  have c:dd 1=-1:=rfl;have j:bb 1=0:=rfl;simp only [List.length_cons]at u;refine⟨b,?_⟩
  exact {
   pre:=by rw[qJ];exact W.pre.snoc (by omega) (by rw[c];omega) (by rw[j];omega) (fun e=>by omega)
   dep:=by rw[m,qJ,AX,c];omega
   own:=by rw[qJ];exact W.own.2.snoc (by rw[c];omega)
   ord:=(List.pairwise_cons.1 W.ord).2
   brk:=by rw[m,qJ,zH,j];omega
   zI:=W.zI
   oQ:=LZ W.oQ (by omega) H
   zJ:=fun g q=>by have B:=I.chain.old g (by simp[q]);have:=W.zJ g (by simp[q]);rw[m,qJ,zH,j,y5 (by omega),z];omega }
 | right E =>
  obtain⟨F,T,M⟩:=List.mem_iff_getElem.1 E;have C:a[F]? = some (mt d,2):=by rw[List.getElem?_eq_getElem T,M]
  have D:F ∈ b:=(W.oQ F).2 ⟨mt d,C,by rw[dG];exact t⟩;have ab:=List.length_pos_of_mem D;have c:dd 3=0:=rfl;have j:bb 3=-1:=rfl
  have w:∀f ∈ A,f.o<F:=by
   rcases I.late F (mt d) C (by rw[dG];exact t)with i|⟨g,q,i,y⟩
   ·rw[dG]at i;cases A with
    | nil=>intro f t;cases t
    | cons f rest =>
     exfalso;exact I.lq f (by simp) ((I.o7 rfl).trans (h.eU hr i))
   ·rw[dG]at i;cases A with
    | nil=>cases q
    | cons f rest =>
     have U:g=f:=by
      rcases List.mem_cons.1 q with rfl|q
      ·rfl
      ·exfalso;have V:=(I.chain.2.lt g q).1;exact(List.pairwise_cons.1 I.apart).1 g q ((I.o7 rfl).trans (h.eU V i))
     subst U;intro f t;rcases List.mem_cons.1 t with rfl|t
     ·exact y
     ·have:=(List.pairwise_cons.1 W.ord).1 f t;omega
  have ad:(b.erase F).length=b.length - 1:=List.length_erase_of_mem D;refine⟨b.erase F,?_⟩
  exact {
   pre:=by
    rw[qJ];refine W.pre.snoc (by omega) (by rw[c];omega) (by rw[j];omega) (fun _ o N=>?_);have N:=N.old (Nat.le_refl _);cases A with
    | nil =>
     have i:=N.hit;have y:=W.pre.mI o (by have:=N.lt;omega);simp only [List.length_nil]at u;omega
    | cons f rest =>
     obtain⟨⟨o1,o2,o3⟩,_⟩:=W.own;have v:OwnAt (jJ a) (jJ a).length f.o:=⟨iE o1,o1,by simp only [List.length_cons]at u;omega,fun p J K=>by have:=o3 p J K;omega⟩
     obtain rfl:=N.unique v;have i:=W.zJ f (by simp);have y:0<(b.filter fun l=>decide (f.o<l)).length:=List.length_pos_of_mem (List.mem_filter.2 ⟨D,by simpa using w f (by simp)⟩);rw[z];omega
   dep:=by rw[m,qJ,AX,c,AQ];omega
   own:=by rw[qJ];exact(W.own.bump).snoc (by rw[c,AQ];omega)
   ord:=by
    have:=W.ord;cases A with
    | nil=>exact this
    | cons f rest=>exact List.pairwise_cons.2 ⟨fun g q=>(List.pairwise_cons.1 this).1 g q,(List.pairwise_cons.1 this).2⟩
   brk:=by rw[m,qJ,zH,j];omega
   zI:=W.zI.erase F
   oQ:=fun l=>by
    rw[W.zI.mem_erase_iff,W.oQ l];constructor
    ·rintro⟨hne,x,i,y⟩;refine⟨x,by rw[List.getElem?_append_left (iE i)];exact i,fun s=>?_⟩;rcases nu.1 s with s|s
     ·exact y s
     ·have hx:x=mt d:=by rw[<-s,dG]
      subst hx;exact hne (RJ I.nd i C)
    ·rintro⟨x,i,y⟩;rcases zF i with i|⟨_,X⟩
     ·refine⟨?_,x,i,fun s=>y (nu.2 (.inl s))⟩;rintro rfl;rw[C]at i;simp only [Option.some.injEq,Prod.mk.injEq]at i;refine y (nu.2 (.inr ?_));rw[<-i.1,dG]
     ·simp only [Prod.mk.injEq]at X;omega
   zJ:=fun g q=>by obtain⟨f,t,_,v⟩:=Ee q;rw[<-v];have B:=I.chain.old f t;have i:=W.zJ f t;have y:=RL (fun l=>decide (f.o<l)) D (by simpa using w f t);rw[m,qJ,zH,j,y5 (by omega),z];omega }
 | left E O =>
  have c:dd 2=0:=rfl;have j:bb 2=1:=rfl;have Y:a.length ∉ b:=fun e=>by obtain⟨x,i,_⟩:=(W.oQ _).1 e;have:=iE i;omega
  refine⟨a.length :: b,?_⟩
  exact {
   pre:=by rw[qJ];exact W.pre.snoc (by omega) (by rw[c];omega) (by rw[j];omega) (fun e=>by omega)
   dep:=by rw[m,qJ,AX,c,AQ];omega
   own:=by rw[qJ];exact(W.own.bump).snoc (by rw[c,AQ];omega)
   ord:=by
    have:=W.ord;cases A with
    | nil=>exact this
    | cons f rest=>exact List.pairwise_cons.2 ⟨fun g q=>(List.pairwise_cons.1 this).1 g q,(List.pairwise_cons.1 this).2⟩
   brk:=by rw[m,qJ,zH,j,List.length_cons];omega
   zI:=List.nodup_cons.2 ⟨Y,W.zI⟩
   oQ:=fun l=>by
    rw[List.mem_cons,W.oQ l];constructor
    ·rintro (rfl|⟨x,i,y⟩)
     ·refine⟨d,by simp,fun s=>?_⟩;rcases nu.1 s with s|s
      ·exact E s
      ·exact uV d s
     ·refine⟨x,by rw[List.getElem?_append_left (iE i)];exact i,fun s=>?_⟩;rcases nu.1 s with s|s
      ·exact y s
      ·refine E ?_;rw[<-s,dG];exact⟨2,List.mem_of_getElem? i⟩
    ·rintro⟨x,i,y⟩;rcases zF i with i|⟨X,_⟩
     ·exact .inr ⟨x,i,fun s=>y (nu.2 (.inl s))⟩
     ·exact .inl X
   zJ:=fun g q=>by obtain⟨f,t,_,v⟩:=Ee q;rw[<-v];have B:=I.chain.old f t;have i:=W.zJ f t;rw[m,qJ,zH,j,y5 (by omega),z,List.filter_cons,if_pos (by simpa using B),List.length_cons];omega }
 | opens E O =>
  have c:dd 0=1:=rfl;have j:bb 0=0:=rfl;have H:(mt d,2) ∉ a:=fun e=>E ⟨2,e⟩;refine⟨b,?_⟩;have P:rQ (jJ a ++ [0]):=W.pre.snoc (by omega) (by rw[c];omega) (by rw[j];omega) (fun e=>by omega)
  exact {
   pre:=by rw[qJ];exact P
   dep:=by rw[m,qJ,AX,c,List.length_cons,AQ];omega
   own:=by
    rw[qJ];refine⟨⟨by simp[<-z],?_,fun p J K=>?_⟩,(W.own.bump).snoc (by rw[c,AQ];omega)⟩
    ·show DD _ a.length=_;rw[<-z,zG (Nat.le_refl _),AQ];exact u
    ·have aa:a.length<p:=J;obtain rfl:p=(jJ a).length+1:=by simp[z]at K;omega
     rw[AX,c,AQ];omega
   ord:=by
    refine List.pairwise_cons.2 ⟨fun g q=>?_,?_⟩
    ·obtain⟨f,t,_,v⟩:=Ee q;have:=I.chain.old f t;show g.o<a.length;omega
    ·have:=W.ord;cases A with
     | nil=>exact this
     | cons f rest=>exact List.pairwise_cons.2 ⟨fun g q=>(List.pairwise_cons.1 this).1 g q,(List.pairwise_cons.1 this).2⟩
   brk:=by rw[m,qJ,zH,j];omega
   zI:=W.zI
   oQ:=LZ W.oQ (by omega) H
   zJ:=fun g q=>by
    rcases List.mem_cons.1 q with rfl|q
    ·have Q:(b.filter fun l=>decide (a.length<l))=[]:=List.filter_eq_nil_iff.2 (fun l Z=>by obtain⟨x,i,_⟩:=(W.oQ l).1 Z;have:=iE i;simp;omega);show BB _ _ - BB _ (a.length+1)=((b.filter fun l=>decide (a.length<l)).length:Int);rw[Q,m,z];simp
    ·obtain⟨f,t,_,v⟩:=Ee q;rw[<-v];have B:=I.chain.old f t;have i:=W.zJ f t;rw[m,qJ,zH,j,y5 (by omega),z];omega }
theorem tq.done{r:Nat}{d:Nat}{b:List (Nat × Nat)}{a:List Nat}(W:tq b [] a)(I:iK n S dH root r [] d b)(k:jO S root r []):gB (jJ b):=by
 have m:a=[]:=by
  cases a with
  | nil=>rfl
  | cons l a =>
   exfalso;obtain⟨x,e,c⟩:=(W.oQ l).1 (by simp);rcases I.late l x e c with o|⟨g,p,_⟩
   ·obtain⟨i,j,f⟩:=h.iJ hr o;refine c (f ▸ (I.qH i j).2 ?_);rw[k.2];exact j
   ·cases p
 have e:=W.dep;have c:=W.brk;rw[m]at c;rw[<-Cc]at e c;exact { W.pre with nO:=e,qI:=c }
end
theorem gU{ks:List Nat}{p:Nat}(a:p<=ks.length):ex (ownB 0 ks) (pr 0 ks p)=DD ks p:=(LQ (ks:=ks) 0 p a).2
theorem jc{ks:List Nat}{p:Nat}(a:p<=ks.length):ex (ownB 1 ks) (pr 1 ks p)=BB ks p:=(LQ (ks:=ks) 1 p a).2
theorem L6{ks:List Nat}{s p:Nat}(e:p<=(ownB s ks).length):∃q,q<=ks.length/\pr s ks q=p:=by
 rcases Nat.lt_or_ge p (ownB s ks).length with a|c
 ·obtain⟨q,b⟩:=Ir (s:=s) (ks:=ks) a;obtain⟨k,_,_,d⟩:=id b;exact⟨q,Nat.le_of_lt b.lt,d⟩
 ·exact⟨ks.length,Nat.le_refl _,by rw[<-yY];omega⟩
theorem gB.bal{ks:List Nat}(h:gB ks):pF ks:=by
 refine⟨⟨?_,fun p b=>?_⟩,⟨?_,fun p b=>?_⟩⟩
 ·rw[yY,gU (Nat.le_refl _)];exact h.nO
 ·obtain⟨q,a,rfl⟩:=L6 b;rw[gU a];exact h.mI q a
 ·rw[yY,jc (Nat.le_refl _)];exact h.qI
 ·obtain⟨q,a,rfl⟩:=L6 b;rw[jc a];exact h.bpos q a
theorem nN.own{ks:List Nat}{i n:Nat}(v:i<=ks.length)(h:nN ks i (n:Nat)):OwnAt ks i n:=by
 rcases h with⟨_,h⟩|⟨z,o,m,f,b,A⟩
 ·omega
 ·obtain rfl:n=m:=by omega
  have B:=b.lt;have c:=(b.cmp i).1 f.lt;obtain⟨k,g,j,d⟩:=id b;have w:=gU (ks:=ks) (p:=n) (by omega);have x:=gU (ks:=ks) v;rw[d]at w;have t:=f.hit
  have l:ks[n]? = some 0:=by
   have y:=b.own g;have u:=BS 0 g;rw[if_pos j,d]at u;have e:=f.above (o+1) (by omega) (by rw[<-u];exact BU 0 ks c);have a:=Lu (ownB 0 ks) (p:=o) b.Iq (by omega);rw[List.getD_eq_getElem?_getD,y.2,Option.getD_some]at a;have:k % 2=0:=by simpa using a
   rw[g];congr 1;omega
  refine⟨c,l,by omega,fun p q r=>?_⟩;have s:=(b.cmp p).2 q;have e:=f.above (pr 0 ks p) s (BU 0 ks r);rw[gU (show p<=ks.length by omega)]at e;omega
theorem gB.check{ks:List Nat}(h:gB ks){i m:Nat}{r:Int}(d:ks[i]? = some 3)(t:fG ks i m)(hr:nN ks i r):¬(m:Int)<r:=by
 intro u;have v:=iE d;obtain⟨n,rfl⟩:=Int.eq_ofNat_of_zero_le (show 0<=r by omega);have g:=hr.own (by omega);have E:=h.right i d n g;obtain⟨s,a,c,F,o,w,x⟩:=t;obtain⟨k,j,y,b⟩:=id o;rw[d]at j;simp only [Option.some.injEq]at j;subst j;obtain rfl:s=1:=by omega
 have z:=(o.own d).2
 have l:gq (ownB 1 ks) c a:=by
  rcases x with⟨e,_⟩|⟨_,f⟩
  ·rw[List.getD_eq_getElem?_getD,z]at e;simp at e
  ·exact f
 have A:=l.closes.2;have q:=l.hit;have e:=(w.cmp (n+1)).2 (by omega);have f:=BU 1 ks (show n+1<=i from g.lt);rw[b]at f;have B:=l.above (pr 1 ks (n+1)) e f;have C:=jc (ks:=ks) (p:=n+1) (by have:=g.lt;omega);have D:=jc (ks:=ks) (p:=i) (by omega);rw[b]at D;rw[C]at B;omega
end
section
def kR(l:List Bool):Nat:=l.foldl (fun a b=>2 * a+b.toNat) 0
theorem AY{α:Type}{l:List α}{i:Nat}{x:α}(h:l[i]? = some x):i<l.length:=by
 rcases Nat.lt_or_ge i l.length with a | a
 ·exact a
 ·rw[List.getElem?_eq_none a]at h;cases h
theorem Gt(l:List Bool)(b:Bool):kR (l ++ [b])=2 * kR l+b.toNat:=by simp[kR]
theorem Iz{α:Type}{P:List α->Prop}(c:P [])(d:∀l x,P l->P (l ++ [x]))(l:List α):P l:=by
 have:∀n,∀l:List α,l.length=n->P l:=by
  intro n
  induction n with
  | zero=>intro l a;rw[List.eq_nil_of_length_eq_zero a];exact c
  | succ n f =>
   intro l a;have b:l≠[]:=by intro e;rw[e]at a;simp at a
   rw[<-List.dropLast_concat_getLast b];exact d _ _ (f _ (by simp[a]))
 exact this _ l rfl
theorem IB(l m:List Bool):kR (l ++ m)=kR l * 2 ^ m.length+kR m:=by refine Iz (P:=fun m=>kR (l ++ m)=kR l * 2 ^ m.length+kR m) (by simp[kR]) (fun m b a=>?_) m;rw[<-List.append_assoc,Gt,a,Gt,List.length_append,List.length_singleton,Nat.pow_succ,Nat.mul_add,<-Nat.mul_assoc (kR l),Nat.mul_comm (kR l * 2 ^ m.length) 2];omega
theorem qf(n:Nat):kR (List.replicate n false)=0:=by
 induction n with
 | zero=>rfl
 | succ n a=>rw[List.replicate_succ',Gt,a];rfl
theorem RN(n:Nat):kR (List.replicate n true)+1=2 ^ n:=by
 induction n with
 | zero=>rfl
 | succ n a =>
  rw[List.replicate_succ',Gt,Nat.pow_succ,<-a];have:true.toNat=1:=rfl;omega
theorem L8(b:Bool)(l:List Bool):kR (b :: l)=b.toNat * 2 ^ l.length+kR l:=by have h:=IB [b] l;rw[List.singleton_append]at h;rw[h];congr 2;simp[kR]
structure iG where
 l:Nat
 h:Nat
 w:Nat
 o:List Bool
def way(l h:Nat):Nat:=if h<2147483648 then 1 else if 2147483648<=l then 2 else if 1073741824<=l/\h<3221225472 then 3 else 0
def mJ(k:Nat):Nat:=if k=2 then 2147483648 else if k=3 then 1073741824 else 0
theorem Dx(l h:Nat):(way l h=1/\h<2147483648)\/(way l h=2/\2147483648<=h/\2147483648<=l)\/(way l h=3/\2147483648<=h/\l<2147483648/\1073741824<=l/\h<3221225472)\/(way l h=0/\2147483648<=h/\l<2147483648/\(l<1073741824\/3221225472<=h)):=by
 unfold way;by_cases b:h<2147483648
 ·rw[if_pos b];exact .inl ⟨rfl,b⟩
 ·rw[if_neg b];by_cases c:2147483648<=l
  ·rw[if_pos c];exact .inr (.inl ⟨rfl,by omega,c⟩)
  ·rw[if_neg c];by_cases a:1073741824<=l/\h<3221225472
   ·rw[if_pos a];exact .inr (.inr (.inl ⟨rfl,by omega,by omega,a.1,a.2⟩))
   ·rw[if_neg a];exact .inr (.inr (.inr ⟨rfl,by omega,by omega,by omega⟩))
def dX(s:iG):iG :=
 ⟨2 * (s.l - mJ (way s.l s.h)),2 * (s.h - mJ (way s.l s.h))+1,if way s.l s.h=3 then s.w+1 else 0,
  if way s.l s.h=1 then s.o ++ false :: List.replicate s.w true else if way s.l s.h=2 then s.o ++ true :: List.replicate s.w false else s.o⟩
def qK(s:iG):Nat:=kR s.o * 2 ^ (32+s.w)+(2 ^ s.w - 1) * 2147483648
def jr(s:iG):Nat:=s.o.length+s.w
theorem RO{l h:Nat}(_hlh:l<=h):mJ (way l h)<=l:=by rcases Dx l h with⟨e,_⟩|⟨e,_,a⟩|⟨e,_,_,a,_⟩|⟨e,_⟩ <;> rw[e] <;> unfold mJ <;> simp <;> omega
theorem IC(P Y X H:Nat)(h:X+1=Y):(P * (Y * 2)+X) * (2 * H)+0=2 * (P * (2 * H * Y)+(Y - 1) * H+0):=by
 subst h;have a:P * ((X+1) * 2) * (2 * H)=2 * (P * (2 * H * (X+1))):=by ac_rfl
 have b:X * (2 * H)=2 * (X * H):=by ac_rfl
 rw[Nat.add_sub_cancel,Nat.add_mul,a,b];omega
theorem IE(P Y H:Nat)(h:0<Y):(P * (Y * 2)+Y) * (2 * H)+0=2 * (P * (2 * H * Y)+(Y - 1) * H+H):=by
 obtain⟨Z,rfl⟩:∃Z,Y=Z+1:=⟨Y - 1,by omega⟩
 have a:P * ((Z+1) * 2) * (2 * H)=2 * (P * (2 * H * (Z+1))):=by ac_rfl
 have b:(Z+1) * (2 * H)=2 * (Z * H+H):=by rw[show Z * H+H=(Z+1) * H by rw[Nat.add_mul,Nat.one_mul]];ac_rfl
 rw[Nat.add_sub_cancel,Nat.add_mul,a,b];omega
theorem IG(P Y H Q:Nat)(h:0<Y)(a:2 * Q=H):P * (2 * H * (Y * 2))+(Y * 2 - 1) * H=2 * (P * (2 * H * Y)+(Y - 1) * H+Q):=by
 obtain⟨Z,rfl⟩:∃Z,Y=Z+1:=⟨Y - 1,by omega⟩
 rw[Nat.add_sub_cancel,show (Z+1) * 2 - 1=Z * 2+1 by omega,Nat.add_mul (Z * 2),Nat.one_mul,Nat.mul_add,Nat.mul_add,a,Nat.add_assoc];congr 1
 ·ac_rfl
 ·congr 1
  ac_rfl
theorem II(H w:Nat)(a:H=2147483648):2 ^ (32+w)=2 * H * 2 ^ w:=by rw[Nat.pow_add,a]
theorem L9(s:iG)(j:way s.l s.h≠0):qK (dX s)=2 * (qK s+mJ (way s.l s.h))/\jr (dX s)=jr s+1:=by
 obtain⟨H,d⟩:∃H,H=2147483648:=⟨_,rfl⟩
 obtain⟨Q,k⟩:∃Q,Q=1073741824:=⟨_,rfl⟩
 have m:2 * Q=H:=by omega
 have i:0<2 ^ s.w:=Nat.two_pow_pos _;have p:=II H s.w d;have f:2 ^ (32+0)=2 * H:=by rw[II H 0 d,Nat.pow_zero,Nat.mul_one]
 have g:2 ^ (32+(s.w+1))=2 * H * (2 ^ s.w * 2):=by rw[II H _ d,Nat.pow_succ]
 have q:mJ 2=H:=by rw[d];rfl
 have r:mJ 3=Q:=by rw[k];rfl
 have t:mJ 1=0:=rfl;have u:qK s=kR s.o * (2 * H * 2 ^ s.w)+(2 ^ s.w - 1) * H:=by unfold qK;rw[p,d]
 have v:jr s=s.o.length+s.w:=rfl;rw[u,v];rcases Dx s.l s.h with⟨e,_⟩|⟨e,_⟩|⟨e,_⟩|⟨e,_⟩
 ·have b:(dX s).o=s.o ++ false :: List.replicate s.w true:=by unfold dX;rw[e];rfl
  have c:(dX s).w=0:=by unfold dX;rw[e];rfl
  have a:qK (dX s)=kR (s.o ++ false :: List.replicate s.w true) * 2 ^ (32+0)+0:=by unfold qK;rw[b,c,Nat.pow_zero,Nat.sub_self,Nat.zero_mul]
  have x:=RN s.w;refine⟨?_,?_⟩
  ·rw[a,e,t,IB,L8,f,List.length_cons,List.length_replicate,Bool.toNat_false,Nat.zero_mul,Nat.zero_add,Nat.pow_succ];exact IC _ _ _ _ x
  ·unfold jr;rw[b,c,List.length_append,List.length_cons,List.length_replicate];omega
 ·have b:(dX s).o=s.o ++ true :: List.replicate s.w false:=by unfold dX;rw[e];rfl
  have c:(dX s).w=0:=by unfold dX;rw[e];rfl
  have a:qK (dX s)=kR (s.o ++ true :: List.replicate s.w false) * 2 ^ (32+0)+0:=by unfold qK;rw[b,c,Nat.pow_zero,Nat.sub_self,Nat.zero_mul]
  refine⟨?_,?_⟩
  ·rw[a,e,q,IB,L8,qf,f,List.length_cons,List.length_replicate,Bool.toNat_true,Nat.one_mul,Nat.add_zero,Nat.pow_succ];exact IE _ _ _ i
  ·unfold jr;rw[b,c,List.length_append,List.length_cons,List.length_replicate];omega
 ·have b:(dX s).o=s.o:=by unfold dX;rw[e];rfl
  have c:(dX s).w=s.w+1:=by unfold dX;rw[e];rfl
  have a:qK (dX s)=kR s.o * (2 * H * (2 ^ s.w * 2))+(2 ^ s.w * 2 - 1) * H:=by unfold qK;rw[b,c,g,Nat.pow_succ,d]
  refine⟨?_,?_⟩
  ·rw[a,e,r];exact IG _ _ _ _ i m
  ·unfold jr;rw[b,c];omega
 ·exact absurd e j
def pJ(l h:Nat)(c:Nat × Nat):Nat:=l+(h - l+1) * c.1 / (c.1+c.2) - 1
def zK(c:Nat × Nat):Prop:=1<=c.1/\1<=c.2/\c.1+c.2<65536
def xE(l h:Nat):Prop:=l<=h/\h<4294967296/\way l h=0
def kT(c:Nat × Nat)(b:Bool)(s:iG):iG:=if b then { s with l:=pJ s.l s.h c+1 } else { s with h:=pJ s.l s.h c }
theorem xE.wide{l h:Nat}(d:xE l h):1073741824<h - l+1:=by obtain⟨f,g,i⟩:=d;rcases Dx l h with⟨e,_⟩|⟨e,_⟩|⟨e,_⟩|⟨_,a,b,c⟩ <;> omega
theorem IJ{l h:Nat}{c:Nat × Nat}(a:xE l h)(b:zK c):l<=pJ l h c/\pJ l h c+1<=h/\1<=(h - l+1) * c.1 / (c.1+c.2):=by
 have f:=a.wide;obtain⟨d,g,i⟩:=b
 have e:1<=(h - l+1) * c.1 / (c.1+c.2):=by
  rw[Nat.le_div_iff_mul_le (by omega),Nat.one_mul]
  calc c.1+c.2<=h - l+1:=by omega
   _=(h - l+1) * 1:=by omega
   _<=(h - l+1) * c.1:=Nat.mul_le_mul_left _ d
 have j:(h - l+1) * c.1 / (c.1+c.2)<h - l+1:=by rw[Nat.div_lt_iff_lt_mul (by omega)];exact Nat.mul_lt_mul_of_pos_left (by omega) (by omega)
 unfold pJ;have:=a.1;refine⟨by omega,by omega,e⟩
theorem Mc{c:Nat × Nat}{b:Bool}{s:iG}(a:xE s.l s.h)(e:zK c):(kT c b s).l<=(kT c b s).h/\(kT c b s).h<4294967296:=by
 have d:=IJ a e;have:=a.2.1;unfold kT;cases b
 ·exact⟨d.1,by simp only [Bool.false_eq_true,if_false];omega⟩
 ·exact⟨d.2.1,by simp only [if_true];omega⟩
def jQ:Nat->iG->iG
 | 0,s=>s
 | n+1,s=>if way s.l s.h=0 then s else jQ n (dX s)
theorem Md{s:iG}(f:s.l<=s.h)(k:s.h<4294967296)(g:way s.l s.h≠0):(dX s).l<=(dX s).h/\(dX s).h<4294967296/\(dX s).h - (dX s).l+1=2 * (s.h - s.l+1):=by
 have m:=RO f;have i:(dX s).l=2 * (s.l - mJ (way s.l s.h)):=rfl;have j:(dX s).h=2 * (s.h - mJ (way s.l s.h))+1:=rfl;rw[i,j];refine⟨by omega,?_,by omega⟩;rcases Dx s.l s.h with⟨e,a⟩|⟨e,a,b⟩|⟨e,a,b,c,d⟩|⟨e,_⟩
 ·omega
 ·rw[e];unfold mJ;simp;omega
 ·rw[e];unfold mJ;simp;omega
 ·exact absurd e g
theorem RP:∀n s,s.l<=s.h->s.h<4294967296->4294967296<(s.h - s.l+1) * 2 ^ n->xE (jQ n s).l (jQ n s).h:=by
 intro n
 induction n with
 | zero=>intro s e f g;rw[Nat.pow_zero,Nat.mul_one]at g;omega
 | succ n i =>
  intro s e f g;unfold jQ;by_cases d:way s.l s.h=0
  ·rw[if_pos d];exact⟨e,f,d⟩
  ·rw[if_neg d];obtain⟨a,b,c⟩:=Md e f d;refine i _ a b ?_;rw[c,Nat.mul_comm 2,Nat.mul_assoc,<-Nat.pow_succ'];exact g
def wu(c:Nat × Nat)(b:Bool):Nat × Nat :=
 let d:=if b then (c.1,c.2+1)else (c.1+1,c.2)
 if d.1+d.2=65536 then ((d.1+1) / 2,(d.2+1) / 2)else d
theorem RQ{c:Nat × Nat}(h:zK c)(b:Bool):zK (wu c b):=by
 obtain⟨a,d,f⟩:=h;unfold wu zK;cases b
 ·simp only [Bool.false_eq_true,if_false];by_cases e:c.1+1+c.2=65536
  ·rw[if_pos e];simp only;omega
  ·rw[if_neg e];simp only;omega
 ·simp only [if_true];by_cases e:c.1+(c.2+1)=65536
  ·rw[if_pos e];simp only;omega
  ·rw[if_neg e];simp only;omega
structure CM where
 cs:List (Nat × Nat)
 now:Nat
def CM.cur(m:CM):Nat × Nat:=m.cs.getD m.now (1,1)
def CM.see(m:CM)(b:Bool):CM:=⟨m.cs.set m.now (wu m.cur b),(2 * m.now+b.toNat) % m.cs.length⟩
def CM.new(N:Nat):CM:=⟨List.replicate N (1,1),0⟩
structure CM.Ok (m:CM)(N:Nat):Prop where
 len:m.cs.length=N
 ok:∀c ∈ m.cs,zK c
 lt:m.now<N
theorem CM.Ok.cur{m:CM}{N:Nat}(h:m.Ok N):zK m.cur/\m.cs[m.now]? = some m.cur:=by
 have a:=List.getElem?_eq_getElem (l:=m.cs) (i:=m.now) (by rw[h.len];exact h.lt);have b:m.cur=m.cs[m.now]'(by rw[h.len];exact h.lt):=by unfold CM.cur;rw[List.getD_eq_getElem?_getD,a];rfl
 rw[b];exact⟨h.ok _ (List.getElem_mem _),a⟩
theorem CM.Ok.see{m:CM}{N:Nat}(h:m.Ok N)(b:Bool):(m.see b).Ok N:=by
 refine⟨by simp[CM.see,h.len],fun c a=>?_,?_⟩
 ·rcases List.mem_or_eq_of_mem_set a with a|rfl
  ·exact h.ok c a
  ·exact RQ h.cur.1 b
 ·show (2 * m.now+b.toNat) % m.cs.length<N;rw[h.len];exact Nat.mod_lt _ (by have:=h.lt;omega)
theorem CM.Ce{N:Nat}(h:0<N):(CM.new N).Ok N :=
 ⟨by simp[CM.new],fun c a=>by rw[List.eq_of_mem_replicate a];exact⟨by decide,by decide,by decide⟩,h⟩
def AZ(x:CM × iG)(b:Bool):CM × iG:=(x.1.see b,jQ 33 (kT x.1.cur b x.2))
def encS(k:Nat)(l:List Bool):CM × iG:=l.foldl AZ (CM.new (2 ^ k),⟨0,4294967295,0,[]⟩)
def zL(s:iG):List Bool:=if s.l<1073741824 then s.o ++ false :: List.replicate (s.w+1) true else s.o ++ true :: List.replicate (s.w+1) false
def lK(k:Nat)(l:List Bool):List Bool:=zL (encS k l).2
theorem RS{N:Nat}{x:CM × iG}(d:x.1.Ok N)(e:xE x.2.l x.2.h)(b:Bool):(AZ x b).1.Ok N/\xE (AZ x b).2.l (AZ x b).2.h:=by
 obtain⟨a,c⟩:=Mc (b:=b) e d.cur.1;refine⟨d.see b,RP 33 _ a c ?_⟩
 calc 4294967296<1 * 2 ^ 33:=by decide
  _<=_:=Nat.mul_le_mul_right _ (by omega)
theorem RU:xE 0 4294967295:=⟨by decide,by decide,by decide⟩
theorem RV(k:Nat)(l:List Bool):(encS k l).1.Ok (2 ^ k)/\xE (encS k l).2.l (encS k l).2.h:=by refine Iz (P:=fun l=>(encS k l).1.Ok (2 ^ k)/\xE (encS k l).2.l (encS k l).2.h) ⟨CM.Ce (Nat.two_pow_pos k),RU⟩ (fun l b a=>?_) l;unfold encS at a ⊢;rw[List.foldl_append];exact RS a.1 a.2 b
end
