import Derived.Test.YtalhcfjcbbkpgaaGreatZt0a
import Derived.Shelf.Bytes.SlSmallAll
import Derived.Test.YtalhcfjcbbkpgaaGreatZt0d
set_option maxRecDepth 100000
set_option maxHeartbeats 4000000
namespace Go.Proofs.YtalhcfjcbbkpgaaGreat
section
section
variable {ks:List Nat} (h:Wd ks)
include h
theorem Wd.vE{v a p:Nat}(c:(pl ks v)[a]? = some p):∀m,a+m<(pl ks v).length->(pl ks v)[a+m]? = some (dN (tn ks) m p):=by
 intro m
 induction m with
 | zero=>intro _;exact c
 | succ m b =>
  intro d;have b:=b (by omega);exact(h.rX b).1 (by omega)
theorem Wd.zW{v a p:Nat}(b:(pl ks v)[a]? = some p):(pl ks v)[0]? = some (dN (tn ks) ((pl ks v).length - a) p):=by
 have f:=iE b;have c:=h.vE b ((pl ks v).length - 1 - a) (by omega);have d:=(h.rX c).2 (by omega);have e:(pl ks v).length - a=((pl ks v).length - 1 - a)+1:=by omega
 rw[d,e];rfl
theorem Wd.CP{i:Nat}(b:i<ks.length)(k:Nat):dN (tn ks) k i<ks.length/\vx ks (dN (tn ks) k i)=vx ks i:=by
 induction k with
 | zero=>exact⟨b,rfl⟩
 | succ k a =>
  obtain⟨c,d,_⟩:=h.o8 a.1;exact⟨c,d.trans a.2⟩
theorem Wd.pV{i j:Nat}(e:i<ks.length)(g:j<ks.length):dK (tn ks) i j↔vx ks i=vx ks j:=by
 constructor
 ·rintro⟨k,hk⟩;rw[<-hk];exact(h.CP e k).2.symm
 ·intro l;obtain⟨a,m,c⟩:=List.mem_iff_getElem.1 (y8.2 ⟨e,rfl⟩:i ∈ pl ks (vx ks i));obtain⟨b,n,d⟩:=List.mem_iff_getElem.1 (y8.2 ⟨g,l.symm⟩:j ∈ pl ks (vx ks i));have o:(pl ks (vx ks i))[a]? = some i:=by rw[List.getElem?_eq_getElem m,c]
  have p:(pl ks (vx ks i))[b]? = some j:=by rw[List.getElem?_eq_getElem n,d]
  have q:=h.zW o;have f:=h.vE q b (by omega);rw[Nat.zero_add,p]at f;exact dK.trans ⟨_,rfl⟩ ⟨b,(Option.some.inj f).symm⟩
theorem Wd.zX{o:Nat}(a:ks[o]? = some 0):vx ks (o+1)=vo ks o:=by
 have b:=q24 a;simp[dd]at b;refine h.jV (iE a) ⟨by omega,a,by omega,fun p c d=>?_⟩;obtain rfl:p=o+1:=by omega
 omega
theorem Wd.zY:vx ks 0=0:=h.j5 (by omega) (Dw _)
theorem Wd.wI{o:Nat}(c:ks[o]? = some 0):o+1<ks.length:=by
 obtain⟨s,d,⟨a,b⟩|⟨a,b⟩⟩:=h.cases (iE c)
 ·have:=b.lt;have:=b.le;omega
 ·rw[c]at a;have:=Option.some.inj a;omega
theorem Wd.xZ{i:Nat}(b:i<ks.length):rep (tn ks) i=i↔i=0\/(0<i/\ks[i - 1]? = some 0):=by
 have g:=h.iU;constructor
 ·intro hr;rcases Nat.eq_zero_or_pos i with d|d
  ·exact .inl d
  refine .inr ⟨d,?_⟩;have e:=List.getElem?_eq_getElem (l:=ks) (i:=i - 1) (by omega);have A:=h.k4 _ (List.mem_of_getElem? e);generalize ks[i - 1]=k at *;have f:∀p,p<i->vx ks p≠vx ks i:=fun p B t=>by have:=g.jU b ((h.pV b (by omega)).2 t.symm);omega
  by_cases u:k=0
  ·rw[e,u]
  exfalso;by_cases v:k=1
  ·subst v;obtain⟨s,r,⟨a,m⟩|⟨a,m⟩⟩:=h.cases (i:=i - 1) (by omega)
   ·rw[e]at a;have:=Option.some.inj a;omega
   ·have n:s=0:=by rw[e]at a;have:=Option.some.inj a;omega
    subst n;have o:=m.lt;obtain⟨_,c,_⟩:=h.o8 (i:=mp ks (i - 1)) (by omega);have q:tn ks (mp ks (i - 1))=i:=by unfold tn;rw[iQ m.opens,if_pos (by omega),h.iC (by omega),Nat.mod_eq_of_lt (by omega)];omega
    rw[q]at c;exact f _ (by omega) c.symm
  ·obtain⟨_,c,_⟩:=h.o8 (i:=i - 1) (by omega);have q:tn ks (i - 1)=i:=by unfold tn;rw[iQ e,if_neg (by omega),Nat.mod_eq_of_lt (by omega)];omega
   rw[q]at c;exact f _ (by omega) c.symm
 ·intro w;have x:=g.gK b;have r:=g.fM b;have c:=(h.pV b (g.lg b)).1 r;rcases w with d|⟨d,y⟩
  ·omega
  ·rcases Nat.lt_or_ge (rep (tn ks) i) i with o|z
   ·have a:=h.zX y;have m:=h.tK (p:=rep (tn ks) i) (j:=i - 1) (by omega) (by omega);rw[show i - 1+1=i by omega]at a;unfold vo at a;omega
   ·omega
theorem Wd.CQ:∀i,i<=ks.length->dY (tn ks) i=if i=0 then 0 else eO (ks.take (i - 1)) 0+1:=by
 intro i
 induction i with
 | zero=>intro _;rfl
 | succ i e =>
  intro j;rw[qW,e (by omega),if_neg (show ¬i+1=0 by omega),Nat.add_sub_cancel];have hr:=h.xZ (i:=i) (by omega);rcases Nat.eq_zero_or_pos i with rfl|f
  ·rw[if_pos rfl,if_pos (hr.2 (.inl rfl))];simp[eO]
  ·rw[if_neg (by omega)];have b:=List.getElem?_eq_getElem (l:=ks) (i:=i - 1) (by omega);have d:=xC b 0;rw[show i - 1+1=i by omega]at d;generalize ks[i - 1]=k at *;rw[d];by_cases a:k=0
   ·rw[if_pos a,if_pos (hr.2 (.inr ⟨f,by rw[b,a]⟩))]
   ·rw[if_neg a,if_neg (fun g=>by
     rcases hr.1 g with c|⟨_,c⟩
     ·omega
     ·rw[b]at c;exact a (Option.some.inj c))]
theorem Wd.r9(d:0<ks.length):dY (tn ks) ks.length=eO ks 0+1:=by
 rw[h.CQ _ (Nat.le_refl _),if_neg (by omega)];have a:=List.getElem?_eq_getElem (l:=ks) (i:=ks.length - 1) (by omega);have b:=xC a 0;rw[show ks.length - 1+1=ks.length by omega,List.take_of_length_le (Nat.le_refl _)]at b;rw[b,if_neg]
 ·intro c;rw[c]at a;have:=h.wI a;omega
end
def swp(ks:List Nat):List Nat:=ks.map fun k=>if k<2 then k+2 else k - 2
theorem EA(ks:List Nat):(swp ks).length=ks.length:=by simp[swp]
theorem M4{ks:List Nat}{i k:Nat}(h:ks[i]? = some k):(swp ks)[i]? = some (if k<2 then k+2 else k - 2):=by simp[swp,h]
theorem Tc:∀(ks:List Nat) (k:Nat),(∀x ∈ ks,x<4)->k<2->eO (swp ks) k=eO ks (k+2)/\eO (swp ks) (k+2)=eO ks k:=by
 intro ks k a f
 induction ks with
 | nil=>exact⟨rfl,rfl⟩
 | cons x ks b =>
  obtain⟨g,i⟩:=b (fun y c=>a y (by simp[c]));have j:=a x (by simp);unfold eO swp at *;simp only [List.map_cons,List.filter_cons];have d:(x=0\/x=1\/x=2\/x=3):=by omega
  have e:(k=0\/k=1):=by omega
  rcases d with rfl|rfl|rfl|rfl <;> rcases e with rfl|rfl <;> simp_all
theorem GH(s:Nat)(f:s<2):∀ks:List Nat,(∀x ∈ ks,x<4)->ownB (1 - s) (swp ks)=ownB s ks:=by
 intro ks a
 induction ks with
 | nil=>rfl
 | cons x ks b =>
  have g:=b (fun y c=>a y (by simp[c]));have i:=a x (by simp);unfold ownB swp at *;have d:(x=0\/x=1\/x=2\/x=3):=by omega
  have e:(s=0\/s=1):=by omega
  rcases d with rfl|rfl|rfl|rfl <;> rcases e with rfl|rfl <;> simp_all
theorem M5(ks:List Nat)(n:Nat):(swp ks).take n=swp (ks.take n):=by simp[swp,List.map_take]
theorem Td(s:Nat)(b:s<2)(ks:List Nat)(c:∀x ∈ ks,x<4)(n:Nat):pr (1 - s) (swp ks) n=pr s ks n:=by have d:=GH s b (ks.take n) (fun x e=>c x (List.mem_of_mem_take e));have a:=yY (1 - s) ((swp ks).take n);have f:=yY s (ks.take n);rw[M5,d,f]at a;unfold pr at a ⊢;rw[List.take_of_length_le (Nat.le_refl _),List.take_of_length_le (Nat.le_refl _),<-M5]at a;exact a.symm
theorem fO.swapped{s:Nat}(c:s<2){ks:List Nat}(a:∀x ∈ ks,x<4){j n:Nat}(h:fO s ks j n):fO (1 - s) (swp ks) j n:=by obtain⟨k,b,e,d⟩:=h;refine⟨_,M4 b,?_,by rw[Td s c ks a,d]⟩;have:=a k (List.mem_of_getElem? b);split <;> omega
theorem fG.swapped{ks:List Nat}(b:∀x ∈ ks,x<4){i m:Nat}(h:fG ks i m):fG (swp ks) i m:=by obtain⟨s,a,c,d,e,f,g⟩:=h;exact⟨1 - s,a,c,by omega,e.swapped d b,f.swapped d b,by rw[GH s d ks b];exact g⟩
section
variable {ks:List Nat} (h:Wd ks)
include h
theorem Wd.swapped:Wd (swp ks):=by
 refine⟨fun k a=>?_,?_,?_⟩
 ·simp only [swp,List.mem_map]at a;obtain⟨x,b,rfl⟩:=a;have:=h.k4 x b;split <;> omega
 ·have:=GH 1 (by omega) ks h.k4;rw[show 1 - 1=0 from rfl]at this;rw[this];exact h.bal.2
 ·have:=GH 0 (by omega) ks h.k4;rw[show 1 - 0=1 from rfl]at this;rw[this];exact h.bal.1
theorem Wd.CR{i:Nat}(a:i<ks.length):mp (swp ks) i=mp ks i :=
 h.swapped.xS (by rw[EA];exact a) ((h.mate a).swapped h.k4)
end
noncomputable def ph(ks:List Nat)(i:Nat):Nat:=tn ks (mp ks i)
theorem Wd.sj{ks:List Nat}(h:Wd ks):dU ks.length (ph ks) :=
 ⟨fun d a=>h.iU.lt _ (h.gW a),fun d e a b c=>by have f:=h.iU.inj _ _ (h.gW a) (h.gW b) c;rw[<-h.iC a,f,h.iC b]⟩
theorem Wd.CU{ks:List Nat}(h:Wd ks){i:Nat}(a:i<ks.length):ph ks i=tn (swp ks) i:=by
 unfold ph tn;rw[EA,h.CR a];have c:=List.getElem?_eq_getElem a;have f:=h.k4 _ (List.mem_of_getElem? c);rw[iQ (M4 c)];have d:=h.kF a;rw[iQ c]at d;generalize ks[i]=k at *;by_cases b:k<2
 ·rw[if_pos (d.2 b),h.iC a,if_pos b,if_neg (by omega)]
 ·rw[if_neg (fun e=>b (d.1 e)),if_neg b,if_pos (by omega)]
theorem Jc{n:Nat}{S T:Nat->Nat}(b:∀d,d<n->T d<n)(c:∀d,d<n->S d=T d){d:Nat}(e:d<n)(k:Nat):dN S k d=dN T k d/\dN T k d<n:=by
 induction k with
 | zero=>exact⟨rfl,e⟩
 | succ k a =>
  have f:dN S (k+1) d=S (dN S k d):=rfl;have g:dN T (k+1) d=T (dN T k d):=rfl;rw[f,g,a.1];exact⟨c _ a.2,b _ a.2⟩
theorem Tf{n:Nat}{S T:Nat->Nat}(i:dU n S)(c:dU n T)(f:∀d,d<n->S d=T d){d:Nat}(b:d<n):per S d=per T d:=by
 obtain⟨j,m,a3,a4⟩:=i.dQ b;obtain⟨k,o,g,l⟩:=c.dQ b;rw[(Jc c.lt f b _).1]at a3;rw[<-(Jc c.lt f b _).1]at g;rcases Nat.lt_trichotomy (per S d) (per T d)with a|e|a
 ·exact absurd a3 (l _ j a)
 ·exact e
 ·exact absurd g (a4 _ k a)
theorem Ti{n:Nat}{S T:Nat->Nat}(e:dU n S)(a:dU n T)(b:∀d,d<n->S d=T d){d:Nat}(c:d<n):jg S d=jg T d:=by unfold jg;rw[Tf e a b c];exact List.map_congr_left (fun i _=>(Jc a.lt b c i).1)
theorem GI{n:Nat}{S T:Nat->Nat}(a:dU n S)(b:dU n T)(c:∀d,d<n->S d=T d){d:Nat}(e:d<n):rep S d=rep T d:=by unfold rep;rw[Ti a b c e]
theorem x8{n:Nat}{S T:Nat->Nat}(a:dU n S)(b:dU n T)(c:∀d,d<n->S d=T d):∀i,i<=n->dY S i=dY T i:=by
 intro i
 induction i with
 | zero=>intro _;rfl
 | succ i e =>
  intro f;rw[qW,qW,e (by omega),GI a b c (by omega)]
theorem Wd.x9{ks:List Nat}(h:Wd ks)(c:0<ks.length):dY (ph ks) ks.length=eO ks 2+1:=by have a:=h.swapped.iU;rw[EA]at a;rw[x8 h.sj a (fun d e=>h.CU e) _ (Nat.le_refl _)];have b:=h.swapped.r9 (by rw[EA];exact c);rw[EA,(Tc ks 0 h.k4 (by omega)).1]at b;exact b
theorem Wd.kJ{ks:List Nat}(h:Wd ks):2 * (eO ks 0+eO ks 2)=ks.length:=by
 have a:=h.nO;have b:=h.qI;unfold DD at a;unfold BB at b;rw[List.take_of_length_le (Nat.le_refl _)]at a b
 have d:∀l:List Nat,(∀k ∈ l,k<4)->eO l 0+eO l 1+eO l 2+eO l 3=l.length:=by
  intro l
  induction l with
  | nil=>intro _;rfl
  | cons x l e =>
   intro c;have a:=e (fun y f=>c y (by simp[f]));have i:=c x (by simp);unfold eO at *;have g:(x=0\/x=1\/x=2\/x=3):=by omega
   rcases g with rfl|rfl|rfl|rfl <;> simp <;> omega
 have:=d ks h.k4;omega
theorem Wd.Bf{ks:List Nat}(h:Wd ks)(a:0<ks.length):dY (tn ks) ks.length+dY (ph ks) ks.length=ks.length / 2+2:=by rw[h.r9 a,h.x9 a];have:=h.kJ;omega
theorem iH.unique{ks:List Nat}{s i j m:Nat}(h:iH ks s i j)(k:iH ks s i m):j=m:=by
 rcases Nat.lt_trichotomy j m with a|rfl|a
 ·have:=k.above (j+1) (by have:=h.lt;omega) a;have:=h.hit;omega
 ·rfl
 ·have:=h.above (m+1) (by have:=k.lt;omega) a;have:=k.hit;omega
theorem Wd.lX{ks:List Nat}(d:Wd ks){s i j:Nat}(h:iH ks s i j):mp ks i=j:=by
 obtain⟨t,e,⟨b,c⟩|⟨b,c⟩⟩:=d.cases (i:=i) (by have:=h.lt;have:=h.le;omega)
 ·have a:=h.opens;rw[b]at a;obtain rfl:t=s:=by have:=Option.some.inj a;omega
  exact c.unique h
 ·have a:=h.opens;rw[b]at a;have:=Option.some.inj a;omega
end
section
open Go.RowKit
theorem Sl.conv{w:World}{sv:Value}{c:List Nat}(h:Sl .u8 w sv (dD c)):(convert 30 9 sv).run Tryz.prog w=.ok (.string (strOfNums (dD c))) w:=by
 obtain⟨a,cap,rfl,l,m,n,d⟩:=h;cases c with
 | nil=>exact run_convert_bytes_zero w _ _ Tryz.underlying30 Tryz.underlying5 a cap _ Tryz.underlying9
 | cons x c =>
  obtain⟨g,off,rfl,_⟩:=d 0 (x:Int) rfl;refine run_convert_bytes_arg (P:=Tryz.prog) w _ _ Tryz.underlying30 Tryz.underlying5 g off _ cap (dD (x :: c)) rfl (fun i k=>?_) _ Tryz.underlying9;obtain⟨z,e⟩:∃z,(dD (x :: c))[i]? = some z:=⟨_,List.getElem?_eq_getElem k⟩
  obtain⟨o,f,j,b⟩:=d i z e;simp only [Option.some.injEq,Addr.mk.injEq]at j;obtain⟨rfl,rfl,_⟩:=j;rw[b,List.getD_eq_getElem?_getD,e];rfl
theorem Tj{a b:List Nat}(d:∀x ∈ a,x<256)(f:∀x ∈ b,x<256)(h:a.map (fun n=>UInt8.ofNat n)=b.map (fun n=>UInt8.ofNat n)):a=b:=by
 have c:=congrArg (List.map UInt8.toNat) h;rw[List.map_map,List.map_map]at c
 have e:∀l:List Nat,(∀x ∈ l,x<256)->l.map (UInt8.toNat ∘ fun n=>UInt8.ofNat n)=l:=by
  intro l g
  conv=>rhs;rw[<-List.map_id l]
  refine List.map_congr_left fun x i=>?_;have:=g x i;simp[UInt8.toNat_ofNat'];omega
 rwa [e a d,e b f]at c
theorem M6(a:List Nat):(strOfNums (dD a)).toList=a.map (fun n=>UInt8.ofNat n):=by rw[Lib.strOfNums_toList];unfold Lib.bytesOf dD;rw[List.map_map];exact List.map_congr_left fun x _=>by simp
theorem Tm{a b:List Nat}(c:∀x ∈ a,x<256)(d:∀x ∈ b,x<256):(strOfNums (dD a)).toList=(strOfNums (dD b)).toList↔a=b:=by refine⟨fun h=>?_,fun h=>by rw[h]⟩;rw[M6,M6]at h;exact Tj c d h
theorem Tn(p q:Value)(a c:List Nat)(w:World)(f:Sl .u8 w p (dD a))(g:Sl .u8 w q (dD c))(i:∀x ∈ a,x<256)(j:∀x ∈ c,x<256) :
  Calls Tryz.prog 16 #[p,q] w fun e w'=>e=.returned (.bool (decide (a=c)))/\w=w':=by
 have l:=f.conv;have m:=g.conv;obtain⟨b,d⟩:∃b,decide (a=c)=b:=⟨_,rfl⟩
 have k:((strOfNums (dD a)).toList == (strOfNums (dD c)).toList)=b:=by
  rw[<-d];by_cases h:a=c
  ·rw[h,beq_self_eq_true];simp
  ·rw[beq_eq_false_iff_ne.2 ((not_congr (Tm i j)).2 h),decide_eq_false h]
 rw[d];clear f g i j d;generalize strOfNums (dD a)=s1 at *;generalize strOfNums (dD c)=s2 at *;go_enter Tryz.func16,Tryz.ntmps16;go_wp2_with fail;go_ret;exact⟨rfl,rfl⟩
end
section
def uI(l:List Bool)(k:Nat):List Nat:=(k+1) :: (mZ (lK k l).length ++ gH (lK k l))
def qN(b:Bool)(l:List Bool)(a:List Nat)(k:Nat):List Nat:=if b=false/\(uI l k).length<a.length then uI l k else a
def mP(a:Bool)(l:List Bool):List Nat:=(List.range 9).foldl (qN a l) (0 :: gH l)
theorem Tq{l:List Bool}{k:Nat}(c:k<9):∀b ∈ uI l k,b<256:=by
 intro b a;rcases List.mem_cons.1 a with rfl|a
 ·omega
 ·rcases List.mem_append.1 a with a|a
  ·exact qe _ b a
  ·exact I6 _ b a
theorem Tt(a:Bool)(l:List Bool):∀j,j<=9->(List.range j).foldl (qN a l) (0 :: gH l)=0 :: gH l\/(a=false/\∃k,k<9/\(List.range j).foldl (qN a l) (0 :: gH l)=uI l k):=by
 intro j
 induction j with
 | zero=>intro _;exact .inl rfl
 | succ j b =>
  intro c;rw[List.range_succ,List.foldl_append];show qN a l ((List.range j).foldl (qN a l) (0 :: gH l)) j=_\/_;have b:=b (by omega);generalize (List.range j).foldl (qN a l) (0 :: gH l)=best at *;show qN a l best j=0 :: gH l\/(a=false/\∃k,k<9/\qN a l best j=uI l k);unfold qN;split
  ·next h=>exact .inr ⟨h.1,j,by omega,rfl⟩
  ·exact b
theorem Tv(a:Bool)(l:List Bool):∀b ∈ mP a l,b<256:=by
 intro b c;rcases Tt a l 9 (Nat.le_refl _)with h|⟨_,k,d,h⟩
 ·unfold mP at c;rw[h]at c;rcases List.mem_cons.1 c with rfl|c
  ·omega
  ·exact I6 _ b c
 ·unfold mP at c;rw[h]at c;exact Tq d b c
theorem Tz(a:Bool)(l:List Bool):∀j,((List.range j).foldl (qN a l) (0 :: gH l)).length<=(gH l).length+1:=by
 intro j
 induction j with
 | zero=>simp
 | succ j b =>
  rw[List.range_succ,List.foldl_append];show (qN a l ((List.range j).foldl (qN a l) (0 :: gH l)) j).length<=_;generalize (List.range j).foldl (qN a l) (0 :: gH l)=best at *;unfold qN;split
  ·next h=>omega
  ·exact b
theorem TA:∀n (s:iG),jr (jQ n s)<=jr s+n:=by
 intro n
 induction n with
 | zero=>intro s;exact Nat.le_refl _
 | succ n a =>
  intro s;unfold jQ;split
  ·omega
  ·next b =>
   have c:=a (dX s);have d:=(L9 s b).2;omega
theorem M7(k:Nat)(l:List Bool):jr (encS k l).2<=33 * l.length:=by
 refine Iz (P:=fun l=>jr (encS k l).2<=33 * l.length) (by simp[encS,jr]) (fun l b a=>?_) l;unfold encS at a ⊢;rw[List.foldl_append];show jr (AZ (List.foldl AZ _ l) b).2<=_;generalize List.foldl AZ (CM.new (2 ^ k),(⟨0,4294967295,0,[]⟩:iG)) l=x at *;have c:=TA 33 (kT x.1.cur b x.2);have d:jr (kT x.1.cur b x.2)=jr x.2:=by cases b <;> rfl
 rw[List.length_append,List.length_singleton];show jr (jQ 33 (kT x.1.cur b x.2))<=_;omega
theorem M8(k:Nat)(l:List Bool):(lK k l).length<=33 * l.length+2:=by have h:=M7 k l;unfold lK zL;unfold jr at h;split <;> (simp only [List.length_append,List.length_cons,List.length_replicate];omega)
end
