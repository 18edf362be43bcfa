import Derived.Test.YtalhcfjcbbkpgaaGreatZp0g
set_option maxRecDepth 100000
set_option maxHeartbeats 4000000
namespace Go.Proofs.YtalhcfjcbbkpgaaGreat
section
section
variable {ks:List Nat} (h:Wd ks)
include h
theorem Wd.uP{v a p:Nat}(c:(pl ks v)[a]? = some p):∀m,a+m<(pl ks v).length->(pl ks v)[a+m]? = some (itr (tn ks) m p):=by
 intro m
 induction m with
 | zero=>intro _;exact c
 | succ m b =>
  intro d;have b:=b (by omega);exact(h.rQ b).1 (by omega)
theorem Wd.zC{v a p:Nat}(b:(pl ks v)[a]? = some p):(pl ks v)[0]? = some (itr (tn ks) ((pl ks v).length - a) p):=by
 have f:=gX b;have c:=h.uP b ((pl ks v).length - 1 - a) (by omega);have d:=(h.rQ c).2 (by omega);have e:(pl ks v).length - a=((pl ks v).length - 1 - a)+1:=by omega
 rw[d,e];rfl
theorem Wd.BM{i:Nat}(b:i<ks.length)(k:Nat):itr (tn ks) k i<ks.length/\vx ks (itr (tn ks) k i)=vx ks i:=by
 induction k with
 | zero=>exact⟨b,rfl⟩
 | succ k a =>
  obtain⟨c,d,_⟩:=h.oN a.1;exact⟨c,d.trans a.2⟩
theorem Wd.pQ{i j:Nat}(e:i<ks.length)(g:j<ks.length):dK (tn ks) i j↔vx ks i=vx ks j:=by
 constructor
 ·rintro⟨k,hk⟩;rw[<-hk];exact(h.BM e k).2.symm
 ·intro l;obtain⟨a,m,c⟩:=List.mem_iff_getElem.1 (yK.2 ⟨e,rfl⟩:i ∈ pl ks (vx ks i));obtain⟨b,n,d⟩:=List.mem_iff_getElem.1 (yK.2 ⟨g,l.symm⟩:j ∈ pl ks (vx ks i));have o:(pl ks (vx ks i))[a]? = some i:=by rw[List.getElem?_eq_getElem m,c]
  have p:(pl ks (vx ks i))[b]? = some j:=by rw[List.getElem?_eq_getElem n,d]
  have q:=h.zC o;have f:=h.uP q b (by omega);rw[Nat.zero_add,p]at f;exact dK.trans ⟨_,rfl⟩ ⟨b,(Option.some.inj f).symm⟩
theorem Wd.zD{o:Nat}(a:ks[o]? = some 0):vx ks (o+1)=vo ks o:=by
 have b:=wN a;simp[dd]at b;refine h.jP (gX a) ⟨by omega,a,by omega,fun p c d=>?_⟩;obtain rfl:p=o+1:=by omega
 omega
theorem Wd.zF:vx ks 0=0:=h.jW (by omega) (C8 _)
theorem Wd.vR{o:Nat}(c:ks[o]? = some 0):o+1<ks.length:=by
 obtain⟨s,d,⟨a,b⟩|⟨a,b⟩⟩:=h.cases (gX c)
 ·have:=b.lt;have:=b.le;omega
 ·rw[c]at a;have:=Option.some.inj a;omega
theorem Wd.xH{i:Nat}(b:i<ks.length):rep (tn ks) i=i↔i=0\/(0<i/\ks[i - 1]? = some 0):=by
 have g:=h.jc;constructor
 ·intro hr;rcases Nat.eq_zero_or_pos i with d|d
  ·exact .inl d
  refine .inr ⟨d,?_⟩;have e:=List.getElem?_eq_getElem (l:=ks) (i:=i - 1) (by omega);have A:=h.k4 _ (List.mem_of_getElem? e);generalize ks[i - 1]=k at *;have f:∀p,p<i->vx ks p≠vx ks i:=fun p B t=>by have:=g.mY b ((h.pQ b (by omega)).2 t.symm);omega
  by_cases u:k=0
  ·rw[e,u]
  exfalso;by_cases v:k=1
  ·subst v;obtain⟨s,r,⟨a,m⟩|⟨a,m⟩⟩:=h.cases (i:=i - 1) (by omega)
   ·rw[e]at a;have:=Option.some.inj a;omega
   ·have n:s=0:=by rw[e]at a;have:=Option.some.inj a;omega
    subst n;have o:=m.lt;obtain⟨_,c,_⟩:=h.oN (i:=mp ks (i - 1)) (by omega);have q:tn ks (mp ks (i - 1))=i:=by unfold tn;rw[iG m.opens,if_pos (by omega),h.gW (by omega),Nat.mod_eq_of_lt (by omega)];omega
    rw[q]at c;exact f _ (by omega) c.symm
  ·obtain⟨_,c,_⟩:=h.oN (i:=i - 1) (by omega);have q:tn ks (i - 1)=i:=by unfold tn;rw[iG e,if_neg (by omega),Nat.mod_eq_of_lt (by omega)];omega
   rw[q]at c;exact f _ (by omega) c.symm
 ·intro w;have x:=g.iB b;have r:=g.iA b;have c:=(h.pQ b (g.kQ b)).1 r;rcases w with d|⟨d,y⟩
  ·omega
  ·rcases Nat.lt_or_ge (rep (tn ks) i) i with o|z
   ·have a:=h.zD y;have m:=h.sW (p:=rep (tn ks) i) (j:=i - 1) (by omega) (by omega);rw[show i - 1+1=i by omega]at a;unfold vo at a;omega
   ·omega
theorem Wd.BN:∀i,i<=ks.length->eu (tn ks) i=if i=0 then 0 else eG (ks.take (i - 1)) 0+1:=by
 intro i
 induction i with
 | zero=>intro _;rfl
 | succ i e =>
  intro j;rw[sw,e (by omega),if_neg (show ¬i+1=0 by omega),Nat.add_sub_cancel];have hr:=h.xH (i:=i) (by omega);rcases Nat.eq_zero_or_pos i with rfl|f
  ·rw[if_pos rfl,if_pos (hr.2 (.inl rfl))];simp[eG]
  ·rw[if_neg (by omega)];have b:=List.getElem?_eq_getElem (l:=ks) (i:=i - 1) (by omega);have d:=wL b 0;rw[show i - 1+1=i by omega]at d;generalize ks[i - 1]=k at *;rw[d];by_cases a:k=0
   ·rw[if_pos a,if_pos (hr.2 (.inr ⟨f,by rw[b,a]⟩))]
   ·rw[if_neg a,if_neg (fun g=>by
     rcases hr.1 g with c|⟨_,c⟩
     ·omega
     ·rw[b]at c;exact a (Option.some.inj c))]
theorem Wd.uQ(d:0<ks.length):eu (tn ks) ks.length=eG ks 0+1:=by
 rw[h.BN _ (Nat.le_refl _),if_neg (by omega)];have a:=List.getElem?_eq_getElem (l:=ks) (i:=ks.length - 1) (by omega);have b:=wL a 0;rw[show ks.length - 1+1=ks.length by omega,List.take_of_length_le (Nat.le_refl _)]at b;rw[b,if_neg]
 ·intro c;rw[c]at a;have:=h.vR a;omega
end
def swp(ks:List Nat):List Nat:=ks.map fun k=>if k<2 then k+2 else k - 2
theorem Ej(ks:List Nat):(swp ks).length=ks.length:=by simp[swp]
theorem L8{ks:List Nat}{i k:Nat}(h:ks[i]? = some k):(swp ks)[i]? = some (if k<2 then k+2 else k - 2):=by simp[swp,h]
theorem Sz:∀(ks:List Nat) (k:Nat),(∀x ∈ ks,x<4)->k<2->eG (swp ks) k=eG ks (k+2)/\eG (swp ks) (k+2)=eG ks k:=by
 intro ks k a f
 induction ks with
 | nil=>exact⟨rfl,rfl⟩
 | cons x ks b =>
  obtain⟨g,i⟩:=b (fun y c=>a y (by simp[c]));have j:=a x (by simp);unfold eG swp at *;simp only [List.map_cons,List.filter_cons];have d:(x=0\/x=1\/x=2\/x=3):=by omega
  have e:(k=0\/k=1):=by omega
  rcases d with rfl|rfl|rfl|rfl <;> rcases e with rfl|rfl <;> simp_all
theorem Gh(s:Nat)(f:s<2):∀ks:List Nat,(∀x ∈ ks,x<4)->ownB (1 - s) (swp ks)=ownB s ks:=by
 intro ks a
 induction ks with
 | nil=>rfl
 | cons x ks b =>
  have g:=b (fun y c=>a y (by simp[c]));have i:=a x (by simp);unfold ownB swp at *;have d:(x=0\/x=1\/x=2\/x=3):=by omega
  have e:(s=0\/s=1):=by omega
  rcases d with rfl|rfl|rfl|rfl <;> rcases e with rfl|rfl <;> simp_all
theorem L9(ks:List Nat)(n:Nat):(swp ks).take n=swp (ks.take n):=by simp[swp,List.map_take]
theorem SA(s:Nat)(b:s<2)(ks:List Nat)(c:∀x ∈ ks,x<4)(n:Nat):pr (1 - s) (swp ks) n=pr s ks n:=by have d:=Gh s b (ks.take n) (fun x e=>c x (List.mem_of_mem_take e));have a:=yH (1 - s) ((swp ks).take n);have f:=yH s (ks.take n);rw[L9,d,f]at a;unfold pr at a ⊢;rw[List.take_of_length_le (Nat.le_refl _),List.take_of_length_le (Nat.le_refl _),<-L9]at a;exact a.symm
theorem fM.swapped{s:Nat}(c:s<2){ks:List Nat}(a:∀x ∈ ks,x<4){j n:Nat}(h:fM s ks j n):fM (1 - s) (swp ks) j n:=by obtain⟨k,b,e,d⟩:=h;refine⟨_,L8 b,?_,by rw[SA s c ks a,d]⟩;have:=a k (List.mem_of_getElem? b);split <;> omega
theorem fF.swapped{ks:List Nat}(b:∀x ∈ ks,x<4){i m:Nat}(h:fF ks i m):fF (swp ks) i m:=by obtain⟨s,a,c,d,e,f,g⟩:=h;exact⟨1 - s,a,c,by omega,e.swapped d b,f.swapped d b,by rw[Gh s d ks b];exact g⟩
section
variable {ks:List Nat} (h:Wd ks)
include h
theorem Wd.swapped:Wd (swp ks):=by
 refine⟨fun k a=>?_,?_,?_⟩
 ·simp only [swp,List.mem_map]at a;obtain⟨x,b,rfl⟩:=a;have:=h.k4 x b;split <;> omega
 ·have:=Gh 1 (by omega) ks h.k4;rw[show 1 - 1=0 from rfl]at this;rw[this];exact h.bal.2
 ·have:=Gh 0 (by omega) ks h.k4;rw[show 1 - 0=1 from rfl]at this;rw[this];exact h.bal.1
theorem Wd.BO{i:Nat}(a:i<ks.length):mp (swp ks) i=mp ks i :=
 h.swapped.xC (by rw[Ej];exact a) ((h.mate a).swapped h.k4)
end
noncomputable def ph(ks:List Nat)(i:Nat):Nat:=tn ks (mp ks i)
theorem Wd.uj{ks:List Nat}(h:Wd ks):dO ks.length (ph ks) :=
 ⟨fun d a=>h.jc.lt _ (h.gP a),fun d e a b c=>by have f:=h.jc.inj _ _ (h.gP a) (h.gP b) c;rw[<-h.gW a,f,h.gW b]⟩
theorem Wd.BP{ks:List Nat}(h:Wd ks){i:Nat}(a:i<ks.length):ph ks i=tn (swp ks) i:=by
 unfold ph tn;rw[Ej,h.BO a];have c:=List.getElem?_eq_getElem a;have f:=h.k4 _ (List.mem_of_getElem? c);rw[iG (L8 c)];have d:=h.j5 a;rw[iG c]at d;generalize ks[i]=k at *;by_cases b:k<2
 ·rw[if_pos (d.2 b),h.gW a,if_pos b,if_neg (by omega)]
 ·rw[if_neg (fun e=>b (d.1 e)),if_neg b,if_pos (by omega)]
theorem IJ{n:Nat}{S T:Nat->Nat}(b:∀d,d<n->T d<n)(c:∀d,d<n->S d=T d){d:Nat}(e:d<n)(k:Nat):itr S k d=itr T k d/\itr T k d<n:=by
 induction k with
 | zero=>exact⟨rfl,e⟩
 | succ k a =>
  have f:itr S (k+1) d=S (itr S k d):=rfl;have g:itr T (k+1) d=T (itr T k d):=rfl;rw[f,g,a.1];exact⟨c _ a.2,b _ a.2⟩
theorem SB{n:Nat}{S T:Nat->Nat}(i:dO n S)(c:dO n T)(f:∀d,d<n->S d=T d){d:Nat}(b:d<n):per S d=per T d:=by
 obtain⟨j,m,a3,a4⟩:=i.dM b;obtain⟨k,o,g,l⟩:=c.dM b;rw[(IJ c.lt f b _).1]at a3;rw[<-(IJ c.lt f b _).1]at g;rcases Nat.lt_trichotomy (per S d) (per T d)with a|e|a
 ·exact absurd a3 (l _ j a)
 ·exact e
 ·exact absurd g (a4 _ k a)
theorem SC{n:Nat}{S T:Nat->Nat}(e:dO n S)(a:dO n T)(b:∀d,d<n->S d=T d){d:Nat}(c:d<n):jg S d=jg T d:=by unfold jg;rw[SB e a b c];exact List.map_congr_left (fun i _=>(IJ a.lt b c i).1)
theorem Gi{n:Nat}{S T:Nat->Nat}(a:dO n S)(b:dO n T)(c:∀d,d<n->S d=T d){d:Nat}(e:d<n):rep S d=rep T d:=by unfold rep;rw[SC a b c e]
theorem yM{n:Nat}{S T:Nat->Nat}(a:dO n S)(b:dO n T)(c:∀d,d<n->S d=T d):∀i,i<=n->eu S i=eu T i:=by
 intro i
 induction i with
 | zero=>intro _;rfl
 | succ i e =>
  intro f;rw[sw,sw,e (by omega),Gi a b c (by omega)]
theorem Wd.BQ{ks:List Nat}(h:Wd ks)(c:0<ks.length):eu (ph ks) ks.length=eG ks 2+1:=by have a:=h.swapped.jc;rw[Ej]at a;rw[yM h.uj a (fun d e=>h.BP e) _ (Nat.le_refl _)];have b:=h.swapped.uQ (by rw[Ej];exact c);rw[Ej,(Sz ks 0 h.k4 (by omega)).1]at b;exact b
theorem Wd.lI{ks:List Nat}(h:Wd ks):2 * (eG ks 0+eG ks 2)=ks.length:=by
 have a:=h.nE;have b:=h.qE;unfold DD at a;unfold BB at b;rw[List.take_of_length_le (Nat.le_refl _)]at a b
 have d:∀l:List Nat,(∀k ∈ l,k<4)->eG l 0+eG l 1+eG l 2+eG l 3=l.length:=by
  intro l
  induction l with
  | nil=>intro _;rfl
  | cons x l e =>
   intro c;have a:=e (fun y f=>c y (by simp[f]));have i:=c x (by simp);unfold eG at *;have g:(x=0\/x=1\/x=2\/x=3):=by omega
   rcases g with rfl|rfl|rfl|rfl <;> simp <;> omega
 have:=d ks h.k4;omega
theorem Wd.Aw{ks:List Nat}(h:Wd ks)(a:0<ks.length):eu (tn ks) ks.length+eu (ph ks) ks.length=ks.length / 2+2:=by rw[h.uQ a,h.BQ a];have:=h.lI;omega
theorem iw.unique{ks:List Nat}{s i j m:Nat}(h:iw ks s i j)(k:iw ks s i m):j=m:=by
 rcases Nat.lt_trichotomy j m with a|rfl|a
 ·have:=k.above (j+1) (by have:=h.lt;omega) a;have:=h.hit;omega
 ·rfl
 ·have:=h.above (m+1) (by have:=k.lt;omega) a;have:=k.hit;omega
theorem Wd.lJ{ks:List Nat}(d:Wd ks){s i j:Nat}(h:iw ks s i j):mp ks i=j:=by
 obtain⟨t,e,⟨b,c⟩|⟨b,c⟩⟩:=d.cases (i:=i) (by have:=h.lt;have:=h.le;omega)
 ·have a:=h.opens;rw[b]at a;obtain rfl:t=s:=by have:=Option.some.inj a;omega
  exact c.unique h
 ·have a:=h.opens;rw[b]at a;have:=Option.some.inj a;omega
end
section
open Go.RowKit
theorem dZ.made(B:Nat)(w:World)(n:Nat)(b:B<=w.heap.size)(d:n<=100000000):dZ B (w.alloc (.cells (madeCells #[.int .u8 0] n) 5)) (.slice (some ⟨w.heap.size,0,none⟩) n n) (List.replicate n 0):=by
 have c:(madeCells #[.int .u8 0] n).toList=ys (List.replicate n 0):=by rw[toList_madeCells_one];simp[ys,dD]
 have a:=World.ownsRow_lit (base:=B) (e:=5) (size:=1) w (madeCells #[.int .u8 0] n) n b (by unfold maxLen;omega) (by rw[size_madeCells];omega);rw[c]at a;unfold dZ;rw[List.length_replicate];exact a
theorem dZ.set{B:Nat}{w:World}{g n cap:Nat}{bs:List Nat}(h:dZ B w (.slice (some ⟨g,0,none⟩) n cap) bs)(i z:Nat):dZ B (w.setCell ⟨g,i,none⟩ (.int .u8 (z:Int))) (.slice (some ⟨g,0,none⟩) n cap) (bs.set i z):=by
 have d:n=bs.length:=by obtain⟨a,c,b,_⟩:=h.form;simp only [Value.slice.injEq]at b;exact b.2.1
 subst d;have:=q5z h i (.int .u8 (z:Int));unfold dZ;rw[List.length_set];have e:ys (bs.set i z)=(ys bs).set i (.int .u8 (z:Int)):=by simp[ys,dD,List.map_set]
 rw[e];exact this
theorem dZ.cell{B:Nat}{w:World}{g n cap:Nat}{bs:List Nat}(h:dZ B w (.slice (some ⟨g,0,none⟩) n cap) bs){i z:Nat}(a:bs[i]? = some z):w.cell? ⟨g,i,none⟩=some (.int .u8 (z:Int))/\w.frozen? ⟨g,i,none⟩=false:=by
 have f:i<bs.length:=by
  rcases Nat.lt_or_ge i bs.length with b | b
  ·exact b
  ·rw[List.getElem?_eq_none b]at a;cases a
 obtain⟨j,c,d,_,_,e,_,_⟩:=ru h (by omega);simp only [Value.slice.injEq,Option.some.injEq,Addr.mk.injEq,and_true]at d;obtain⟨rfl,_,_⟩:=d;exact e i (.int .u8 (z:Int)) (by simp[ys,dD,a])
theorem SE{x y:Nat}(a:x<256)(b:y<256)(h:∀i,i<8->x / 2 ^ i % 2=y / 2 ^ i % 2):x=y:=by have c:=h 0 (by decide);have d:=h 1 (by decide);have e:=h 2 (by decide);have f:=h 3 (by decide);have g:=h 4 (by decide);have j:=h 5 (by decide);have k:=h 6 (by decide);have l:=h 7 (by decide);simp only [Nat.reducePow]at *;omega
theorem SF(l:List Bool)(j:Nat):mX l (j / 8) / 2 ^ (j % 8 * 8) % 256=pz (l.drop (8 * j)):=by
 refine SE (Nat.mod_lt _ (by decide)) (Lx _) (fun i b=>?_);rw[LA _ b,List.getD_eq_getElem?_getD,List.getElem?_drop,<-List.getD_eq_getElem?_getD];have a:=Kq l (8 * j+i);have c:(8 * j+i) / 64=j / 8:=by omega
 have d:(8 * j+i) % 64=j % 8 * 8+i:=by omega
 rw[c,d,Nat.pow_add,<-Nat.div_div_eq_div_mul]at a;rw[<-a];generalize mX l (j / 8) / 2 ^ (j % 8 * 8)=y;have e:y % 256 / 2 ^ i % 2=y / 2 ^ i % 2:=by have:=Nat.mod_mul_right_div_self y (2 ^ i) (2 ^ (8 - i));rw[<-Nat.pow_add,show i+(8 - i)=8 by omega,show (2:Nat) ^ 8=256 by decide]at this;rw[this,Nat.mod_mod_of_dvd];exact⟨2 ^ (8 - i - 1),by rw[<-Nat.pow_succ'];congr 1;omega⟩
 exact e
theorem SG(l:List Bool){N j:Nat}(c:N=(fH l).length)(a:j<N):((fH l).take j ++ List.replicate (N - j) 0).set j (pz (l.drop (8 * j)))=(fH l).take (j+1) ++ List.replicate (N - (j+1)) 0:=by
 have d:(fH l)[j]? = some (pz (l.drop (8 * j))):=by unfold fH;rw[List.getElem?_map,List.getElem?_range (by rw[c,yJ]at a;exact a)];rfl
 have b:((fH l).take j).length=j:=by rw[List.length_take];omega
 rw[List.set_append_right _ _ (by rw[b];exact Nat.le_refl _),b,Nat.sub_self,show N - j=(N - (j+1))+1 by omega,List.replicate_succ,List.set_cons_zero,wZ d,List.append_assoc];rfl
theorem IK(b:Nat)(v:Value)(l:List Bool)(w:World)(h:eX w b v l)(hl:l.length<=100000000) :
  Calls Tryz.prog 95 #[.pointer (some ⟨b,0,none⟩)] w fun e w'=>∃v',e=.returned v'/\dZ w.heap.size w' v' (fH l)/\Keeps (fun _=>False) w w':=by
 have q:=Bh b v l w h;obtain⟨N,G⟩:∃N,N=(fH l).length:=⟨_,rfl⟩
 have r:N=(l.length+7) / 8:=by rw[G,yJ]
 have Z:((l.length:Int)+8 - 1) / 8=(N:Int):=by omega
 have R:((l.length:Int)+7) / 8=(N:Int):=by omega
 obtain⟨i,S,s,t,u⟩:=info_parts sJ;have A:=fun w=>run_make (P:=Tryz.prog) w 30 5 i _ Tryz.underlying30 S s .i64 .i64 (N:Int) (N:Int) (by omega) (Int.le_refl _) (by rw[u];omega) (by omega);simp only [t,Int.toNat_natCast,Nat.mul_one]at A;have H:=dZ.made w.heap.size w N (Nat.le_refl _) (by omega);have T:=(Keeps.refl (fun _=>False) w).alloc (.cells (madeCells #[.int .u8 0] N) 5);have HV:Hid (∀W,Keeps (fun _=>False) w W->eX W b v l):=dh (fun W a=>h.keeps a (fun h=>h) (fun _ _ h=>h));have E:=dh (dn G r);generalize U:l.length=n at *;have V:=dh U;clear h S s t u G r U;go_enter Tryz.func95,Tryz.ntmps95;go_wp2_with fail;refine q.mono ?_;rintro e w' ⟨rfl,rfl⟩;clear q;go_wp2_with fail;clear A;obtain⟨g,F⟩:∃g,g=w.heap.size:=⟨_,rfl⟩
 rw[<-F]at H;rw[<-F];generalize World.alloc _ _=wM at *;have I:w.heap.size<=g:=by omega
 have B:dZ w.heap.size wM (.slice (some ⟨g,0,none⟩) N N) ((fH l).take 0 ++ List.replicate (N - 0) 0):=by simpa [F]using H
 have C:=dh (dn B T);clear H B T F;go_loopg [13] N (fun m iv wr=>∃j:Nat,j<=N/\m=N - j/\iv=.int .i64 j/\dZ w.heap.size wr (.slice (some ⟨g,0,none⟩) N N) ((fH l).take j ++ List.replicate (N - j) 0)/\Keeps (fun _=>False) w wr)
 case atStart=>exact⟨0,by omega,rfl,rfl,C.out⟩
 case round =>
  clear C;obtain⟨j,hj,D,rfl,o,a⟩:=hrel;have HG:=dh D;clear D;by_cases J:j<N
  ·have K:=HV.out wr a;have c:(words l).length=(l.length+63) / 64:=vH l;have d:j / 8<(l.length+63) / 64:=by have:=E.out.2;rw[V.out];omega
   obtain⟨gw,cw,rfl,aa,L,X,_,ab⟩:=ru K.2 (by omega);have hx:=(X (j / 8) (.int .u64 (mX l (j / 8):Nat)) (by rw[List.getElem?_map,Aa d];rfl)).1;have c0:wr.cell? ⟨b,0,none⟩=some (.slice (some ⟨gw,0,none⟩) (words l).length cw):=dw K.1 0;have M:=SF l j;have O:=FB l (j / 8);obtain⟨y,Q⟩:∃y,y=mX l (j / 8) / 2 ^ (j % 8 * 8):=⟨_,rfl⟩
   have e1:((mX l (j / 8):Nat):Int) / 2 ^ (j % 8 * 8)=(y:Int):=by rw[Q];push_cast;rfl
   rw[<-Q]at M;have e2:IntKind.u8.wrap (y:Int)=((pz (l.drop (8 * j)):Nat):Int):=by rw[IntKind.wrap_u8,<-M];omega
   have f:=(o.cell (i:=j) (z:=0) (by rw[List.getElem?_append_right (by rw[List.length_take];omega),List.length_take,<-E.out.1,Nat.min_eq_left (by omega),Nat.sub_self,List.getElem?_replicate,if_pos (by omega)]))
   have k:=o.set j (pz (l.drop (8 * j)));rw[SG l E.out.1 J]at k;have ks:=a.setCell (p:=⟨g,j,none⟩) (.inr I) (.int .u8 ((pz (l.drop (8 * j)):Nat):Int));have HS:=dh (dn k ks);obtain⟨ad,ae⟩:=f;have Y:j / 8<(words l).length:=by rw[c];exact d
   have af:(words l).length<=100000000:=by rw[c,V.out];omega
   unfold maxLen at L;clear X K M Q k ks o a c d;generalize mX l (j / 8)=x at *;generalize pz (l.drop (8 * j))=z at *;generalize (words l).length=wl at *;go_wp2_with fail;go_roundg (N - (j+1))
   case measure=>rw[HG.out];omega
   case rel=>exact⟨j+1,by omega,rfl,by go_num,HS.out⟩
  ·obtain rfl:j=N:=by omega
   rw[Nat.sub_self,List.replicate_zero,List.append_nil,List.take_of_length_le (by have:=E.out.1;omega)]at o;have HF:=dh (dn o a);clear o a;go_wp2;go_ret;exact⟨_,rfl,HF.out⟩
end
