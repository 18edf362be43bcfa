import Derived.Lib.AppendZerosOnto
import Derived.Test.YtalhcfjcbbkpgaaGreatZp02
set_option maxRecDepth 100000
set_option maxHeartbeats 4000000
namespace Go.Proofs.YtalhcfjcbbkpgaaGreat
section
open Go.RowKit
theorem Lm(z:Value)(k:Nat):Builtin.zeroCells #[z] k=(List.replicate k z).toArray:=by
 apply Array.ext
 ·simp[Builtin.zeroCells]
 ·intro i a b;simp[Builtin.zeroCells,Nat.mod_one]
theorem QZ{P:Program}{w:World}(base:Nat)(t tn K e:TypeId)(i:TypeInfo)(z:Value)(L M:IntKind)(N:P.underlying t=some (.slice e))(s:P.underlying tn=some (.int M))(O:P.info? e=some i)(Q:i.zero=some z)
  (c:i.size=1)(E:z.cells=#[z])(F:z.oneCell'=true)
  (g cap n:Nat)(l:List Value)(a:w.ownsRow base e 1 (.slice (some ⟨g,0,none⟩) n cap) n l)
  (k:Nat)(T:0<k)(v:n+k<=maxLen)(h:(n+k) * i.bytes<=140737488355328)(o:base<=w.heap.size) :
  ∃v' w',(Builtin.append_ #[t,tn] K #[.slice (some ⟨g,0,none⟩) n cap,.int L k]).run P w=.ok v' w'/\w'.ownsRow base e 1 v' (n+k) (l ++ List.replicate k z)/\w.grownBy w' (some g) /\
   (v'.ownBlock=some g\/v'.ownBlock=some w.heap.size):=by
 have p:∀m,Builtin.zeroCells z.cells m=(List.replicate m z).toArray:=fun m=>by rw[E];exact Lm z m
 have C:n+k<=9223372036854775807:=by simp only [maxLen]at v;omega
 have b:(l ++ List.replicate k z).length=(n+k) * 1:=by rw[List.length_append,a.1,List.length_replicate];omega
 have U:IntKind.i64.wrap (k:Int)=k:=by rw[IntKind.wrap_i64];omega
 have V:k * i.bytes<=(n+k) * i.bytes:=Nat.mul_le_mul_right _ (by omega);rcases a.2 with⟨D,_⟩|⟨g',R,cur,D,G,S,W,H,X,d⟩
 ·cases D
 ·simp only [Value.slice.injEq,Option.some.injEq,Addr.mk.injEq,and_true,true_and]at D;obtain⟨rfl,rfl⟩:=D;by_cases f:n+k<=cap
  ·have x:=run_storeCells_at P g n e (List.replicate k z) 0 cur w S (by rw[List.length_replicate];omega) (fun u Y=>by rw[List.eq_of_mem_replicate Y];exact F);simp only [Nat.add_zero]at x;have y:¬((k:Int)<0):=by omega
   have A:¬(281474976710656<(k:Int) * (i.bytes:Int)):=by rw[<-Int.natCast_mul];omega
   have I:¬k=0:=by omega
   refine⟨.slice (some ⟨g,0,none⟩) (n+k) cap,w.setRow g (cur.toList.take n ++ List.replicate k z ++ cur.toList.drop (n+(List.replicate k z).length)).toArray,?_,⟨b,.inr ⟨g,cap,_,rfl,G,setRow_heap w g cur _ e _ S,f,H,?_,?_⟩⟩,⟨rfl,rfl,rfl,by simp,fun q _ Z=>setRow_other w g q _ (fun e=>Z (by rw[e]))⟩,.inl rfl⟩
   ·simp[Builtin.append_,run_underlying N,run_underlying s,sizeOf,typeInfo,zeroValue,O,Q,asInt,asIntOf,U,f,y,A,c,I,p,Addr.add_lit,x]
   ·simp only [List.size_toArray,List.length_append,List.length_take,List.length_drop,Array.length_toList,List.length_replicate];omega
   ·rw[Nat.mul_one]at d;rw[d,<-b];exact List.take_left
  ·have r:∀j u,l[j]? = some u->w.cell? ((⟨g,0,none⟩:Addr).add j)=some u:=a.cells (g:=g) rfl;have hf:(Builtin.firstCells i.size n (.slice (some ⟨g,0,none⟩) n cap)).run P w.drew=.ok l.toArray w.drew:=by have:=run_firstCells_some (P:=P) w.drew i.size n ⟨g,0,none⟩ n cap l (by rw[c];have:=a.1;omega) (fun j u hj=>r j u hj);exact this
   have hr:=Go.Lib.run_append_grow_zeros (P:=P) w t tn K e i z L M N s O Q (some ⟨g,0,none⟩) n cap l hf k T (by omega) (by omega) (by omega) (by omega) (growslice_fits (by omega) h);have J:=grownCap_ge w (n+k) cap e;have B:grownCap w (n+k) cap e<=maxLen:=grownCap_le_maxLen w (n+k) cap e v;refine⟨_,_,hr,⟨b,.inr ⟨w.heap.size,_,_,rfl,o,heap_alloc_new w.drew _,J,B,?_,?_⟩⟩,⟨rfl,rfl,rfl,by simp,fun q hq _=>heap_alloc_old w.drew _ hq⟩,.inr rfl⟩
   ·have:=a.1;simp only [Array.size_append,List.size_toArray,p,List.length_replicate];omega
   ·simp only [p,Array.toList_append,List.append_assoc];rw[<-List.append_assoc,<-b];exact List.take_left
theorem Q0{j:Array Oper}{rest:List Oper}{o:Oper}{a:Act}{Q:Exit->Act->World->Prop}{wr:World}(m:o.guard=none)(s x:Operand)
  (A:o.op=.call { callee:=.builtin .append,args:=#[s,x],argTypes:=#[25,3] })(B g cap n:Nat)(zs:List Int)(k:Nat)(C:a.eval s=.slice (some ⟨g,0,none⟩) n cap)(D:a.eval x=.int .i64 k)(v:zs.length=n)
  (d:dH B wr (.slice (some ⟨g,0,none⟩) n cap) zs)(E:0<k)(y:n+k<=10000000000)(F:B<=wr.heap.size)
  (h:∀c b w',dH B w' (.slice (some ⟨c,0,none⟩) (n+k) b) (zs ++ List.replicate k 0)->Keeps (fun q=>q=g) wr w'->(c=g\/wr.heap.size<=c)->wpList Tryz.prog j Q rest (a.put o.dst (.slice (some ⟨c,0,none⟩) (n+k) b)) w') :
  wpList Tryz.prog j Q (o :: rest) a wr:=by
 obtain⟨i,G,p,r,t⟩:=info_parts nX;have e:wr.ownsRow B 3 1 (.slice (some ⟨g,0,none⟩) n cap) n (ints zs):=by rw[<-v]at d ⊢;exact d
 obtain⟨v',w',hr,z,H,l⟩:=QZ (P:=Tryz.prog) (w:=wr) B 25 3 o.type 3 i (.int .i64 0) .i64 .i64 Tryz.underlying25 Tryz.underlying3 G p r rfl rfl g cap n (ints zs) e k E (by unfold maxLen;omega) (by rw[t];omega) F;refine Go.Lib.wpList_append_run _ m s x _ _ A _ _ C D _ _ hr ?_
 have f:dH B w' v' (zs ++ List.replicate k 0):=by
  unfold dH;rw[List.length_append,List.length_replicate,v];have:ints (zs ++ List.replicate k 0)=ints zs ++ List.replicate k (.int .i64 0):=by simp[ints]
  rw[this];exact z
 obtain⟨c,b,rfl⟩:∃c b,v'=.slice (some ⟨c,0,none⟩) (n+k) b:=by
  rcases z.2 with⟨-,u⟩|⟨c,b,_,u,_⟩
  ·omega
  ·exact⟨c,b,u⟩
 refine h c b w' f ((Keeps.refl (fun q=>q=g) wr).grown H (fun q I=>.inl (Option.some.inj I).symm)) ?_;rcases l with l|l
 ·exact .inl (Option.some.inj l)
 ·exact .inr (by have u:c=wr.heap.size:=Option.some.inj l;omega)
end
section
def kI(l:List Bool):Nat:=l.foldl (fun a b=>2 * a+b.toNat) 0
theorem Am{α:Type}{l:List α}{i:Nat}{x:α}(h:l[i]? = some x):i<l.length:=by
 rcases Nat.lt_or_ge i l.length with a | a
 ·exact a
 ·rw[List.getElem?_eq_none a]at h;cases h
theorem FW(l:List Bool)(b:Bool):kI (l ++ [b])=2 * kI l+b.toNat:=by simp[kI]
theorem Ig{α:Type}{P:List α->Prop}(c:P [])(d:∀l x,P l->P (l ++ [x]))(l:List α):P l:=by
 have:∀n,∀l:List α,l.length=n->P l:=by
  intro n
  induction n with
  | zero=>intro l a;rw[List.eq_nil_of_length_eq_zero a];exact c
  | succ n f =>
   intro l a;have b:l≠[]:=by intro e;rw[e]at a;simp at a
   rw[<-List.dropLast_concat_getLast b];exact d _ _ (f _ (by simp[a]))
 exact this _ l rfl
theorem Ih(l m:List Bool):kI (l ++ m)=kI l * 2 ^ m.length+kI m:=by refine Ig (P:=fun m=>kI (l ++ m)=kI l * 2 ^ m.length+kI m) (by simp[kI]) (fun m b a=>?_) m;rw[<-List.append_assoc,FW,a,FW,List.length_append,List.length_singleton,Nat.pow_succ,Nat.mul_add,<-Nat.mul_assoc (kI l),Nat.mul_comm (kI l * 2 ^ m.length) 2];omega
theorem Q5(n:Nat):kI (List.replicate n false)=0:=by
 induction n with
 | zero=>rfl
 | succ n a=>rw[List.replicate_succ',FW,a];rfl
theorem Q7(n:Nat):kI (List.replicate n true)+1=2 ^ n:=by
 induction n with
 | zero=>rfl
 | succ n a =>
  rw[List.replicate_succ',FW,Nat.pow_succ,<-a];have:true.toNat=1:=rfl;omega
theorem Lp(b:Bool)(l:List Bool):kI (b :: l)=b.toNat * 2 ^ l.length+kI l:=by have h:=Ih [b] l;rw[List.singleton_append]at h;rw[h];congr 2;simp[kI]
structure gZ where
 l:Nat
 h:Nat
 w:Nat
 o:List Bool
def way(l h:Nat):Nat:=if h<2147483648 then 1 else if 2147483648<=l then 2 else if 1073741824<=l/\h<3221225472 then 3 else 0
def l9(k:Nat):Nat:=if k=2 then 2147483648 else if k=3 then 1073741824 else 0
theorem Da(l h:Nat):(way l h=1/\h<2147483648)\/(way l h=2/\2147483648<=h/\2147483648<=l)\/(way l h=3/\2147483648<=h/\l<2147483648/\1073741824<=l/\h<3221225472)\/(way l h=0/\2147483648<=h/\l<2147483648/\(l<1073741824\/3221225472<=h)):=by
 unfold way;by_cases b:h<2147483648
 ·rw[if_pos b];exact .inl ⟨rfl,b⟩
 ·rw[if_neg b];by_cases c:2147483648<=l
  ·rw[if_pos c];exact .inr (.inl ⟨rfl,by omega,c⟩)
  ·rw[if_neg c];by_cases a:1073741824<=l/\h<3221225472
   ·rw[if_pos a];exact .inr (.inr (.inl ⟨rfl,by omega,by omega,a.1,a.2⟩))
   ·rw[if_neg a];exact .inr (.inr (.inr ⟨rfl,by omega,by omega,by omega⟩))
def dU(s:gZ):gZ :=
 ⟨2 * (s.l - l9 (way s.l s.h)),2 * (s.h - l9 (way s.l s.h))+1,if way s.l s.h=3 then s.w+1 else 0,
  if way s.l s.h=1 then s.o ++ false :: List.replicate s.w true else if way s.l s.h=2 then s.o ++ true :: List.replicate s.w false else s.o⟩
def qG(s:gZ):Nat:=kI s.o * 2 ^ (32+s.w)+(2 ^ s.w - 1) * 2147483648
def jm(s:gZ):Nat:=s.o.length+s.w
theorem Q8{l h:Nat}(_hlh:l<=h):l9 (way l h)<=l:=by rcases Da l h with⟨e,_⟩|⟨e,_,a⟩|⟨e,_,_,a,_⟩|⟨e,_⟩ <;> rw[e] <;> unfold l9 <;> simp <;> omega
theorem Ii(P Y X H:Nat)(h:X+1=Y):(P * (Y * 2)+X) * (2 * H)+0=2 * (P * (2 * H * Y)+(Y - 1) * H+0):=by
 subst h;have a:P * ((X+1) * 2) * (2 * H)=2 * (P * (2 * H * (X+1))):=by ac_rfl
 have b:X * (2 * H)=2 * (X * H):=by ac_rfl
 rw[Nat.add_sub_cancel,Nat.add_mul,a,b];omega
theorem Ij(P Y H:Nat)(h:0<Y):(P * (Y * 2)+Y) * (2 * H)+0=2 * (P * (2 * H * Y)+(Y - 1) * H+H):=by
 obtain⟨Z,rfl⟩:∃Z,Y=Z+1:=⟨Y - 1,by omega⟩
 have a:P * ((Z+1) * 2) * (2 * H)=2 * (P * (2 * H * (Z+1))):=by ac_rfl
 have b:(Z+1) * (2 * H)=2 * (Z * H+H):=by rw[show Z * H+H=(Z+1) * H by rw[Nat.add_mul,Nat.one_mul]];ac_rfl
 rw[Nat.add_sub_cancel,Nat.add_mul,a,b];omega
theorem Ik(P Y H Q:Nat)(h:0<Y)(a:2 * Q=H):P * (2 * H * (Y * 2))+(Y * 2 - 1) * H=2 * (P * (2 * H * Y)+(Y - 1) * H+Q):=by
 obtain⟨Z,rfl⟩:∃Z,Y=Z+1:=⟨Y - 1,by omega⟩
 rw[Nat.add_sub_cancel,show (Z+1) * 2 - 1=Z * 2+1 by omega,Nat.add_mul (Z * 2),Nat.one_mul,Nat.mul_add,Nat.mul_add,a,Nat.add_assoc];congr 1
 ·ac_rfl
 ·congr 1
  ac_rfl
theorem Il(H w:Nat)(a:H=2147483648):2 ^ (32+w)=2 * H * 2 ^ w:=by rw[Nat.pow_add,a]
theorem Lr(s:gZ)(j:way s.l s.h≠0):qG (dU s)=2 * (qG s+l9 (way s.l s.h))/\jm (dU s)=jm s+1:=by
 obtain⟨H,d⟩:∃H,H=2147483648:=⟨_,rfl⟩
 obtain⟨Q,k⟩:∃Q,Q=1073741824:=⟨_,rfl⟩
 have m:2 * Q=H:=by omega
 have i:0<2 ^ s.w:=Nat.two_pow_pos _;have n:=Il H s.w d;have f:2 ^ (32+0)=2 * H:=by rw[Il H 0 d,Nat.pow_zero,Nat.mul_one]
 have g:2 ^ (32+(s.w+1))=2 * H * (2 ^ s.w * 2):=by rw[Il H _ d,Nat.pow_succ]
 have p:l9 2=H:=by rw[d];rfl
 have q:l9 3=Q:=by rw[k];rfl
 have r:l9 1=0:=rfl;have t:qG s=kI s.o * (2 * H * 2 ^ s.w)+(2 ^ s.w - 1) * H:=by unfold qG;rw[n,d]
 have u:jm s=s.o.length+s.w:=rfl;rw[t,u];rcases Da s.l s.h with⟨e,_⟩|⟨e,_⟩|⟨e,_⟩|⟨e,_⟩
 ·have b:(dU s).o=s.o ++ false :: List.replicate s.w true:=by unfold dU;rw[e];rfl
  have c:(dU s).w=0:=by unfold dU;rw[e];rfl
  have a:qG (dU s)=kI (s.o ++ false :: List.replicate s.w true) * 2 ^ (32+0)+0:=by unfold qG;rw[b,c,Nat.pow_zero,Nat.sub_self,Nat.zero_mul]
  have v:=Q7 s.w;refine⟨?_,?_⟩
  ·rw[a,e,r,Ih,Lp,f,List.length_cons,List.length_replicate,Bool.toNat_false,Nat.zero_mul,Nat.zero_add,Nat.pow_succ];exact Ii _ _ _ _ v
  ·unfold jm;rw[b,c,List.length_append,List.length_cons,List.length_replicate];omega
 ·have b:(dU s).o=s.o ++ true :: List.replicate s.w false:=by unfold dU;rw[e];rfl
  have c:(dU s).w=0:=by unfold dU;rw[e];rfl
  have a:qG (dU s)=kI (s.o ++ true :: List.replicate s.w false) * 2 ^ (32+0)+0:=by unfold qG;rw[b,c,Nat.pow_zero,Nat.sub_self,Nat.zero_mul]
  refine⟨?_,?_⟩
  ·rw[a,e,p,Ih,Lp,Q5,f,List.length_cons,List.length_replicate,Bool.toNat_true,Nat.one_mul,Nat.add_zero,Nat.pow_succ];exact Ij _ _ _ i
  ·unfold jm;rw[b,c,List.length_append,List.length_cons,List.length_replicate];omega
 ·have b:(dU s).o=s.o:=by unfold dU;rw[e];rfl
  have c:(dU s).w=s.w+1:=by unfold dU;rw[e];rfl
  have a:qG (dU s)=kI s.o * (2 * H * (2 ^ s.w * 2))+(2 ^ s.w * 2 - 1) * H:=by unfold qG;rw[b,c,g,Nat.pow_succ,d]
  refine⟨?_,?_⟩
  ·rw[a,e,q];exact Ik _ _ _ _ i m
  ·unfold jm;rw[b,c];omega
 ·exact absurd e j
def pq(l h:Nat)(c:Nat × Nat):Nat:=l+(h - l+1) * c.1 / (c.1+c.2) - 1
def zh(c:Nat × Nat):Prop:=1<=c.1/\1<=c.2/\c.1+c.2<65536
def wP(l h:Nat):Prop:=l<=h/\h<4294967296/\way l h=0
def kM(c:Nat × Nat)(b:Bool)(s:gZ):gZ:=if b then { s with l:=pq s.l s.h c+1 } else { s with h:=pq s.l s.h c }
theorem wP.wide{l h:Nat}(d:wP l h):1073741824<h - l+1:=by obtain⟨f,g,i⟩:=d;rcases Da l h with⟨e,_⟩|⟨e,_⟩|⟨e,_⟩|⟨_,a,b,c⟩ <;> omega
theorem Io{l h:Nat}{c:Nat × Nat}(a:wP l h)(b:zh c):l<=pq l h c/\pq l h c+1<=h/\1<=(h - l+1) * c.1 / (c.1+c.2):=by
 have f:=a.wide;obtain⟨d,g,i⟩:=b
 have e:1<=(h - l+1) * c.1 / (c.1+c.2):=by
  rw[Nat.le_div_iff_mul_le (by omega),Nat.one_mul]
  calc c.1+c.2<=h - l+1:=by omega
   _=(h - l+1) * 1:=by omega
   _<=(h - l+1) * c.1:=Nat.mul_le_mul_left _ d
 have j:(h - l+1) * c.1 / (c.1+c.2)<h - l+1:=by rw[Nat.div_lt_iff_lt_mul (by omega)];exact Nat.mul_lt_mul_of_pos_left (by omega) (by omega)
 unfold pq;have:=a.1;refine⟨by omega,by omega,e⟩
theorem Ls{c:Nat × Nat}{b:Bool}{s:gZ}(a:wP s.l s.h)(e:zh c):(kM c b s).l<=(kM c b s).h/\(kM c b s).h<4294967296:=by
 have d:=Io a e;have:=a.2.1;unfold kM;cases b
 ·exact⟨d.1,by simp only [Bool.false_eq_true,if_false];omega⟩
 ·exact⟨d.2.1,by simp only [if_true];omega⟩
def jH:Nat->gZ->gZ
 | 0,s=>s
 | n+1,s=>if way s.l s.h=0 then s else jH n (dU s)
theorem Lu{s:gZ}(f:s.l<=s.h)(k:s.h<4294967296)(g:way s.l s.h≠0):(dU s).l<=(dU s).h/\(dU s).h<4294967296/\(dU s).h - (dU s).l+1=2 * (s.h - s.l+1):=by
 have m:=Q8 f;have i:(dU s).l=2 * (s.l - l9 (way s.l s.h)):=rfl;have j:(dU s).h=2 * (s.h - l9 (way s.l s.h))+1:=rfl;rw[i,j];refine⟨by omega,?_,by omega⟩;rcases Da s.l s.h with⟨e,a⟩|⟨e,a,b⟩|⟨e,a,b,c,d⟩|⟨e,_⟩
 ·omega
 ·rw[e];unfold l9;simp;omega
 ·rw[e];unfold l9;simp;omega
 ·exact absurd e g
theorem Q9:∀n s,s.l<=s.h->s.h<4294967296->4294967296<(s.h - s.l+1) * 2 ^ n->wP (jH n s).l (jH n s).h:=by
 intro n
 induction n with
 | zero=>intro s e f g;rw[Nat.pow_zero,Nat.mul_one]at g;omega
 | succ n i =>
  intro s e f g;unfold jH;by_cases d:way s.l s.h=0
  ·rw[if_pos d];exact⟨e,f,d⟩
  ·rw[if_neg d];obtain⟨a,b,c⟩:=Lu e f d;refine i _ a b ?_;rw[c,Nat.mul_comm 2,Nat.mul_assoc,<-Nat.pow_succ'];exact g
def vL(c:Nat × Nat)(b:Bool):Nat × Nat :=
 let d:=if b then (c.1,c.2+1)else (c.1+1,c.2)
 if d.1+d.2=65536 then ((d.1+1) / 2,(d.2+1) / 2)else d
theorem Rb{c:Nat × Nat}(h:zh c)(b:Bool):zh (vL c b):=by
 obtain⟨a,d,f⟩:=h;unfold vL zh;cases b
 ·simp only [Bool.false_eq_true,if_false];by_cases e:c.1+1+c.2=65536
  ·rw[if_pos e];simp only;omega
  ·rw[if_neg e];simp only;omega
 ·simp only [if_true];by_cases e:c.1+(c.2+1)=65536
  ·rw[if_pos e];simp only;omega
  ·rw[if_neg e];simp only;omega
structure CM where
 cs:List (Nat × Nat)
 now:Nat
def CM.cur(m:CM):Nat × Nat:=m.cs.getD m.now (1,1)
def CM.see(m:CM)(b:Bool):CM:=⟨m.cs.set m.now (vL m.cur b),(2 * m.now+b.toNat) % m.cs.length⟩
def CM.new(N:Nat):CM:=⟨List.replicate N (1,1),0⟩
structure CM.Ok (m:CM)(N:Nat):Prop where
 len:m.cs.length=N
 ok:∀c ∈ m.cs,zh c
 lt:m.now<N
theorem CM.Ok.cur{m:CM}{N:Nat}(h:m.Ok N):zh m.cur/\m.cs[m.now]? = some m.cur:=by
 have a:=List.getElem?_eq_getElem (l:=m.cs) (i:=m.now) (by rw[h.len];exact h.lt);have b:m.cur=m.cs[m.now]'(by rw[h.len];exact h.lt):=by unfold CM.cur;rw[List.getD_eq_getElem?_getD,a];rfl
 rw[b];exact⟨h.ok _ (List.getElem_mem _),a⟩
theorem CM.Ok.see{m:CM}{N:Nat}(h:m.Ok N)(b:Bool):(m.see b).Ok N:=by
 refine⟨by simp[CM.see,h.len],fun c a=>?_,?_⟩
 ·rcases List.mem_or_eq_of_mem_set a with a|rfl
  ·exact h.ok c a
  ·exact Rb h.cur.1 b
 ·show (2 * m.now+b.toNat) % m.cs.length<N;rw[h.len];exact Nat.mod_lt _ (by have:=h.lt;omega)
theorem CM.BF{N:Nat}(h:0<N):(CM.new N).Ok N :=
 ⟨by simp[CM.new],fun c a=>by rw[List.eq_of_mem_replicate a];exact⟨by decide,by decide,by decide⟩,h⟩
def Ao(x:CM × gZ)(b:Bool):CM × gZ:=(x.1.see b,jH 33 (kM x.1.cur b x.2))
def encS(k:Nat)(l:List Bool):CM × gZ:=l.foldl Ao (CM.new (2 ^ k),⟨0,4294967295,0,[]⟩)
def zi(s:gZ):List Bool:=if s.l<1073741824 then s.o ++ false :: List.replicate (s.w+1) true else s.o ++ true :: List.replicate (s.w+1) false
def kZ(k:Nat)(l:List Bool):List Bool:=zi (encS k l).2
theorem Rf{N:Nat}{x:CM × gZ}(d:x.1.Ok N)(e:wP x.2.l x.2.h)(b:Bool):(Ao x b).1.Ok N/\wP (Ao x b).2.l (Ao x b).2.h:=by
 obtain⟨a,c⟩:=Ls (b:=b) e d.cur.1;refine⟨d.see b,Q9 33 _ a c ?_⟩
 calc 4294967296<1 * 2 ^ 33:=by decide
  _<=_:=Nat.mul_le_mul_right _ (by omega)
theorem Rh:wP 0 4294967295:=⟨by decide,by decide,by decide⟩
theorem ql(k:Nat)(l:List Bool):(encS k l).1.Ok (2 ^ k)/\wP (encS k l).2.l (encS k l).2.h:=by refine Ig (P:=fun l=>(encS k l).1.Ok (2 ^ k)/\wP (encS k l).2.l (encS k l).2.h) ⟨CM.BF (Nat.two_pow_pos k),Rh⟩ (fun l b a=>?_) l;unfold encS at a ⊢;rw[List.foldl_append];exact Rf a.1 a.2 b
end
section
def mM(x:Nat):List Nat:=if x<128 then [x]else (x % 128+128) :: mM (x / 128)
termination_by x
decreasing_by omega
theorem Db{x:Nat}(h:x<128):mM x=[x]:=by unfold mM;rw[if_pos h]
theorem Ip{x:Nat}(h:¬x<128):mM x=(x % 128+128) :: mM (x / 128):=by rw[mM];rw[if_neg h]
theorem FX(x:Nat):∀b ∈ mM x,b<256:=by
 induction x using Nat.strongRecOn with
 | ind x c =>
  intro b a;by_cases h:x<128
  ·rw[Db h]at a;simp at a;omega
  ·rw[Ip h]at a;rcases List.mem_cons.1 a with rfl|a
   ·omega
   ·exact c (x / 128) (by omega) b a
theorem Ri:∀(k x:Nat),x<128 ^ (k+1)->(mM x).length<=k+1:=by
 intro k
 induction k with
 | zero=>intro x h;rw[Db (by omega)];simp
 | succ k b =>
  intro x h;by_cases a:x<128
  ·rw[Db a];simp
  ·rw[Ip a,List.length_cons];have:=b (x / 128) (by rw[Nat.pow_succ]at h;omega);omega
theorem xw{x:Nat}(h:x<18446744073709551616):(mM x).length<=10:=Ri 9 x (Nat.lt_of_lt_of_le h (by decide))
def pz(l:List Bool):Nat:=(List.range 8).foldr (fun i a=>(l.getD i false).toNat+2 * a) 0
def fH(l:List Bool):List Nat:=(List.range ((l.length+7) / 8)).map fun j=>pz (l.drop (8 * j))
theorem yJ(l:List Bool):(fH l).length=(l.length+7) / 8:=by simp[fH]
theorem Lx(l:List Bool):pz l<256:=by
 have h:∀i,(l.getD i false).toNat<=1:=fun i=>by cases l.getD i false <;> simp
 have:=h 0;have:=h 1;have:=h 2;have:=h 3;have:=h 4;have:=h 5;have:=h 6;have:=h 7;show (l.getD 0 false).toNat+2 * ((l.getD 1 false).toNat+2 * ((l.getD 2 false).toNat+2 * ((l.getD 3 false).toNat+2 * ((l.getD 4 false).toNat+2 * ((l.getD 5 false).toNat+2 * ((l.getD 6 false).toNat+2 * ((l.getD 7 false).toNat+2 * 0)))))))<256;omega
theorem LA(l:List Bool){i:Nat}(a:i<8):pz l / 2 ^ i % 2=(l.getD i false).toNat:=by
 have h:∀i,(l.getD i false).toNat<=1:=fun i=>by cases l.getD i false <;> simp
 have:=h 0;have:=h 1;have:=h 2;have:=h 3;have:=h 4;have:=h 5;have:=h 6;have:=h 7;show ((l.getD 0 false).toNat+2 * ((l.getD 1 false).toNat+2 * ((l.getD 2 false).toNat+2 * ((l.getD 3 false).toNat+2 * ((l.getD 4 false).toNat+2 * ((l.getD 5 false).toNat+2 * ((l.getD 6 false).toNat+2 * ((l.getD 7 false).toNat+2 * 0)))))))) / 2 ^ i % 2=_
 match i,a with
 | 0,_=>simp only [Nat.pow_zero];omega
 | 1,_=>simp only [show 2 ^ 1=2 from rfl];omega
 | 2,_=>simp only [show 2 ^ 2=4 from rfl];omega
 | 3,_=>simp only [show 2 ^ 3=8 from rfl];omega
 | 4,_=>simp only [show 2 ^ 4=16 from rfl];omega
 | 5,_=>simp only [show 2 ^ 5=32 from rfl];omega
 | 6,_=>simp only [show 2 ^ 6=64 from rfl];omega
 | 7,_=>simp only [show 2 ^ 7=128 from rfl];omega
theorem Iq(l:List Bool):∀b ∈ fH l,b<256:=fun b a=>by obtain⟨j,_,rfl⟩:=List.mem_map.1 a;exact Lx _
theorem LB(l:List Bool){i:Nat}(a:i<8 * (fH l).length):(fH l).getD (i / 8) 0 / 2 ^ (i % 8) % 2=(l.getD i false).toNat:=by
 have b:i / 8<(l.length+7) / 8:=by rw[yJ]at a;omega
 have c:(fH l).getD (i / 8) 0=pz (l.drop (8 * (i / 8))):=by unfold fH;rw[List.getD_eq_getElem?_getD,List.getElem?_map,List.getElem?_range b];rfl
 rw[c,LA _ (Nat.mod_lt _ (by omega))];congr 1;rw[List.getD_eq_getElem?_getD,List.getD_eq_getElem?_getD,List.getElem?_drop];congr 2;omega
end
