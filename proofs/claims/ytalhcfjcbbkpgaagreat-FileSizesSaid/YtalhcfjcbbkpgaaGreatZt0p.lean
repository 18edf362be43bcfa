import Derived.Test.YtalhcfjcbbkpgaaGreatZt0o
set_option maxRecDepth 100000
set_option maxHeartbeats 4000000
namespace Go.Proofs.YtalhcfjcbbkpgaaGreat
section
open Go.RowKit
def CS(w a:World)(n:Nat)(D:Nat->Nat)(ks:List Nat)(g j:Nat)(wr:World):Prop :=
 ∃zs,zs.length=n/\CJ n D ks j zs/\dI w.heap.size wr (.slice (some ⟨g,0,none⟩) n n) zs/\Keeps (fun k=>k=g) a wr
theorem CS.still{w a wr w':World}{n:Nat}{D:Nat->Nat}{ks:List Nat}{g j:Nat}(h:CS w a n D ks g j wr)(k:Keeps (fun _=>False) wr w'):CS w a n D ks g j w':=by obtain⟨zs,b,c,d,e⟩:=h;exact⟨zs,b,c,d.keeps k (fun _ _ h=>h),e.trans k (fun _ _ h=>h.elim)⟩
theorem CS.cell{w a wr:World}{n:Nat}{D:Nat->Nat}{ks:List Nat}{g j i:Nat}(h:CS w a n D ks g j wr)(b:i<n):wr.cell? ⟨g,D i,none⟩=some (.int .i64 (if i<j\/mp ks i<j then (fD ks i:Int)else -1))/\wr.frozen? ⟨g,D i,none⟩=false:=by obtain⟨zs,e,c,d,f⟩:=h;exact d.cell (c i b)
theorem CS.other{w a wr:World}{n:Nat}{D:Nat->Nat}{ks:List Nat}{g j i d:Nat}(h:CS w a n D ks g j wr)(b:i<n)(c:d≠D i)(v:Int){W:World}(e:Keeps (fun _=>False) (wr.setCell ⟨g,d,none⟩ (.int .i64 v)) W) :
  W.cell? ⟨g,D i,none⟩=some (.int .i64 (if i<j\/mp ks i<j then (fD ks i:Int)else -1))/\W.frozen? ⟨g,D i,none⟩=false:=by
 obtain⟨zs,l,f,k,m⟩:=h;exact((k.set d v).keeps e (fun _ _ h=>h)).cell (by rw[List.getElem?_set,if_neg c];exact f i b)
theorem CS.keep{w a wr:World}{n:Nat}{D:Nat->Nat}{ks:List Nat}{g j:Nat}(k:tV n D ks)(h:CS w a n D ks g j wr)(b:j<n)(c:mp ks j<j):CS w a n D ks g (j+1) wr:=by obtain⟨zs,d,e,f,i⟩:=h;exact⟨zs,d,k.EZ b c e,f,i⟩
theorem CS.step{w a wr:World}{n:Nat}{D:Nat->Nat}{ks:List Nat}{g j:Nat}(k:tV n D ks)(h:CS w a n D ks g j wr)(c:j<n)(d:j<mp ks j) :
  CS w a n D ks g (j+1) ((wr.setCell ⟨g,D j,none⟩ (.int .i64 (fD ks j:Int))).setCell ⟨g,mt (D j),none⟩ (.int .i64 ((fD ks j:Int)+1))):=by
 obtain⟨zs,b,e,f,i⟩:=h;exact⟨_,by simpa using b,k.stepJ c b d e,(f.set _ _).set _ _,(i.setCell (p:=⟨g,D j,none⟩) (.inl rfl) _).setCell (p:=⟨g,mt (D j),none⟩) (.inl rfl) _⟩
end
section
open Go.RowKit
theorem dU.none{S:Nat->Nat}:dU 0 S:=⟨fun d a=>by omega,fun d e a=>by omega⟩
end
section
open Go.RowKit
theorem Wd.wZ{ks:List Nat}(h:Wd ks)(hn:0<ks.length):(dM ks).length / 2+1<=dY (sg (dM ks)) (dM ks).length+dY (fun d=>sg (dM ks) (mt d)) (dM ks).length:=by
 have c:=oL ks;have g:=h.tT;have a:=h.lM;have i:dU ks.length (fun d=>sg (dM ks) (mt d)):=⟨fun d b=>g.lt _ (dR a b),fun d e b j k=>by have:=g.inj _ _ (dR a b) (dR a j) k;rw[<-dG d,this,dG]⟩
 have f:dU ks.length (sg (dS (dM ks))):=by have:=Bd h.gL (by rw[c];exact a);rwa [mK,c]at this
 have l:dY (fun d=>sg (dM ks) (mt d)) ks.length=dY (sg (dS (dM ks))) ks.length:=x8 i f (fun d b=>(wQ (by rw[c];exact b)).symm) _ (Nat.le_refl _);have m:=h.wW;have n:=h.wX;have o:=h.kJ;rw[if_neg (by omega)]at m n;rw[c,l];omega
end
section
open Go.RowKit
theorem G6{s:List Nat}{rt:Int}{ln:Nat}{sv:Value}{W:World}(c:Sl .i64 W sv (dD s))(d:dU s.length (sg s))(e:s.length % 2=0)(f:s.length<=131072)(a:ln<=65536)(b:(s.length=0/\rt=-1)\/∃r:Nat,rt=r/\r<s.length) :
  Calls Tryz.prog 25 #[sv,.int .i64 rt,.int .i64 ln] W (j6 W s rt ln):=by
 rcases b with⟨g,rfl⟩|⟨r,rfl,hr⟩
 ·obtain rfl:s=[]:=List.eq_nil_of_length_eq_zero g;exact Uy sv ln W c a
 ·exact NJ sv s r ln W c d e hr f a
end
section
theorem G7{ks:List Nat}{s i j:Nat}(h:iH ks s i j)(k:s<2):(s=0/\DD ks (j+1)=DD ks i/\∀p,i<p->p<=j->DD ks i<DD ks p)\/(s=1/\BB ks (j+1)=BB ks i/\∀p,i<p->p<=j->BB ks i<BB ks p):=by
 have f:=h.le;have g:=h.lt;have c:=h.hit;have e:=h.above;have d:s=0\/s=1:=by omega
 rcases d with rfl|rfl
 ·refine .inl ⟨rfl,?_,fun p a b=>?_⟩
  ·rw[gU (by omega),gU (by omega)]at c;exact c
  ·have:=e p a b;rw[gU (by omega),gU (by omega)]at this;exact this
 ·refine .inr ⟨rfl,?_,fun p a b=>?_⟩
  ·rw[jc (by omega),jc (by omega)]at c;exact c
  ·have:=e p a b;rw[jc (by omega),jc (by omega)]at this;exact this
theorem Oc{a:List Nat}(b:List Nat){s i j:Nat}(h:iH a s i j)(g:s<2):iH (a ++ b) s i j:=by
 have k:=h.le;have f:=h.lt;have l:(a ++ b).length=a.length+b.length:=List.length_append;refine⟨f,by omega,by rw[List.getElem?_append_left (by omega)];exact h.opens,by rw[List.getElem?_append_left (by omega)];exact h.closes,?_,fun p d e=>?_⟩
 ·rcases G7 h g with⟨rfl,c,_⟩|⟨rfl,c,_⟩
  ·rw[gU (by omega),gU (by omega),yB (by omega),yB (by omega)];exact c
  ·rw[jc (by omega),jc (by omega),Db (by omega),Db (by omega)];exact c
 ·rcases G7 h g with⟨rfl,_,c⟩|⟨rfl,_,c⟩
  ·rw[gU (by omega),gU (by omega),yB (by omega),yB (by omega)];exact c p d e
  ·rw[jc (by omega),jc (by omega),Db (by omega),Db (by omega)];exact c p d e
theorem Oe{a b:List Nat}{s i j:Nat}(d:Wd a)(h:iH b s i j)(e:s<2):iH (a ++ b) s (a.length+i) (a.length+j):=by
 have f:=h.le;have g:=h.lt;have m:=d.nO;have n:=d.qI;have o:(a ++ b).length=a.length+b.length:=List.length_append;refine⟨by omega,by omega,by rw[List.getElem?_append_right (by omega),Nat.add_sub_cancel_left];exact h.opens,by rw[List.getElem?_append_right (by omega),Nat.add_sub_cancel_left];exact h.closes,?_,fun p k l=>?_⟩
 ·rw[Nat.add_assoc];rcases G7 h e with⟨rfl,c,_⟩|⟨rfl,c,_⟩
  ·rw[gU (by omega),gU (by omega),zl,zl,c]
  ·rw[jc (by omega),jc (by omega),Br,Br,c]
 ·obtain⟨q,rfl⟩:=Nat.exists_eq_add_of_le (show a.length<=p by omega);rcases G7 h e with⟨rfl,_,c⟩|⟨rfl,_,c⟩
  ·have:=c q (by omega) (by omega);rw[gU (by omega),gU (by omega),zl,zl];omega
  ·have:=c q (by omega) (by omega);rw[jc (by omega),jc (by omega),Br,Br];omega
theorem Wd.tX{ks:List Nat}(a:Wd ks){s i j:Nat}(h:iH ks s i j):mp ks j=i:=by have b:=a.lX h;have:=a.iC (i:=i) (by have:=h.lt;have:=h.le;omega);rwa [b]at this
theorem Og{a b:List Nat}(e:Wd a)(c:Wd (a ++ b)){i:Nat}(f:i<a.length):mp (a ++ b) i=mp a i:=by
 obtain⟨s,d,⟨_,h⟩|⟨_,h⟩⟩:=e.cases f
 ·exact c.lX (Oc b h d)
 ·exact c.tX (Oc b h d)
theorem Oh{a b:List Nat}(d:Wd a)(f:Wd b)(c:Wd (a ++ b)){i:Nat}(g:i<b.length):mp (a ++ b) (a.length+i)=a.length+mp b i:=by
 obtain⟨s,e,⟨_,h⟩|⟨_,h⟩⟩:=f.cases g
 ·exact c.lX (Oe d h e)
 ·exact c.tX (Oe d h e)
theorem Oi{a b:List Nat}{i:Nat}(c:i<=a.length):oc (a ++ b) i=oc a i:=by unfold oc;rw[List.take_append_of_le_length c]
theorem Oj{ks:List Nat}(h:Wd ks):2 * oc ks ks.length=ks.length:=by
 have d:=h.kJ
 have e:∀l:List Nat,(∀k ∈ l,k<4)->(l.filter fun k=>k % 2 == 0).length=eO l 0+eO l 2:=by
  intro l
  induction l with
  | nil=>intro _;simp[eO]
  | cons x l a =>
   intro c;have a:=a (fun k f=>c k (by simp[f]));have g:=c x (by simp);have b:x=0\/x=1\/x=2\/x=3:=by omega
   unfold eO at a ⊢;rcases b with rfl|rfl|rfl|rfl <;> simp[a] <;> omega
 unfold oc;rw[List.take_of_length_le (Nat.le_refl _),e ks h.k4];exact d
theorem Ol{a b:List Nat}(c:Wd a){i:Nat}:2 * oc (a ++ b) (a.length+i)=a.length+2 * oc b i:=by have d:=Oj c;unfold oc at *;rw[List.take_append,List.filter_append,List.length_append,List.take_of_length_le (by omega),Nat.add_sub_cancel_left];rw[List.take_of_length_le (Nat.le_refl _)]at d;omega
theorem Om{a b:List Nat}(e:Wd a)(c:Wd (a ++ b)){i:Nat}(d:i<a.length):fD (a ++ b) i=fD a i:=by unfold fD;have f:=e.gW d;rw[Og e c d,Oi (by omega),Oi (by omega),List.getD_eq_getElem?_getD,List.getElem?_append_left d,<-List.getD_eq_getElem?_getD]
theorem Oo{a b:List Nat}(c:Wd a)(e:Wd b)(d:Wd (a ++ b)){i:Nat}(f:i<b.length):fD (a ++ b) (a.length+i)=a.length+fD b i:=by have g:=e.gW f;have j:=Ol (b:=b) c (i:=i);have k:=Ol (b:=b) c (i:=mp b i);unfold fD;rw[Oh c e d f,List.getD_eq_getElem?_getD,List.getElem?_append_right (by omega),Nat.add_sub_cancel_left,<-List.getD_eq_getElem?_getD];split <;> omega
def iy:List (List Nat)->List Nat
 | []=>[]
 | p :: ps=>p ++ (iy ps).map (p.length + ·)
theorem Oq:∀ps:List (List Nat),(iy ps).length=(ps.map List.length).sum
 | []=>rfl
 | p :: ps=>by simp[iy,Oq ps]
theorem Va{p:List Nat}{ps:List (List Nat)}{x:Nat}(h:x<p.length):sg (iy (p :: ps)) x=sg p x:=by unfold sg iy;rw[List.getD_eq_getElem?_getD,List.getElem?_append_left h,<-List.getD_eq_getElem?_getD]
theorem Vb{p:List Nat}{ps:List (List Nat)}{x:Nat}(h:x<(iy ps).length):sg (iy (p :: ps)) (p.length+x)=p.length+sg (iy ps) x:=by unfold sg;show (p ++ (iy ps).map (p.length + ·)).getD _ 0=_;rw[List.getD_eq_getElem?_getD,List.getElem?_append_right (by omega),Nat.add_sub_cancel_left,List.getElem?_map,List.getElem?_eq_getElem h,List.getD_eq_getElem?_getD,List.getElem?_eq_getElem h];rfl
noncomputable def yD:List (List Nat)->Nat->Nat
 | [],i=>i
 | k :: l,i=>if i<k.length then tn k i else k.length+yD l (i - k.length)
def jL(l:List (List Nat)):Prop:=∀k ∈ l,gB k/\0<k.length
theorem jL.flat:∀{l:List (List Nat)},jL l->gB l.flatten
 | [],_=>by
  refine { k4:=by simp,mI:=fun p a=>?_,bpos:=fun p a=>?_,right:=fun i b=>by simp at b,nO:=rfl,qI:=rfl }
  ·have:p=0:=by simpa using a
   subst this;exact Int.le_refl _
  ·have:p=0:=by simpa using a
   subst this;exact Int.le_refl _
 | k :: l,h=>by rw[List.flatten_cons];exact(h k (by simp)).1.app (jL.flat (fun x c=>h x (by simp[c])))
theorem E8(l:List (List Nat)):(iy (l.map dM)).length=l.flatten.length:=by rw[Oq,List.length_flatten,List.map_map];congr 1;exact List.map_congr_left (fun k _=>oL k)
theorem DT:∀{l:List (List Nat)},jL l->∀i,i<l.flatten.length->yD l i<l.flatten.length
 | [],_,i,a=>by simp at a
 | k :: l,h,i,a=>by
  rw[List.flatten_cons,List.length_append]at a ⊢;unfold yD;split
  ·next b=>have:=((h k (by simp)).1.wd.iU).lt i b;omega
  ·next b =>
   have c:jL l:=fun x d=>h x (by simp[d]);have:=DT c (i - k.length) (by omega);omega
theorem E9:∀{l:List (List Nat)},jL l->∀i,i<l.flatten.length->sg (iy (l.map dM)) (fD l.flatten i)=fD l.flatten (yD l i)
 | [],_,i,f=>by simp at f
 | k :: l,h,i,f=>by
  have b:=(h k (by simp)).1;have d:jL l:=fun x m=>h x (by simp[m]);have a:=(jL.flat h).wd;rw[List.flatten_cons]at f a ⊢;rw[List.length_append]at f;rw[List.map_cons];unfold yD;by_cases c:i<k.length
  ·have g:=(b.wd.iU).lt i c;rw[if_pos c,Om b.wd a c,Om b.wd a g,Va (by rw[oL];exact b.wd.jF c),b.wd.jW c]
  ·obtain⟨j,rfl⟩:=Nat.exists_eq_add_of_le (show k.length<=i by omega);have g:=DT d j (by omega);have n:=(d.flat.wd).jF (i:=j) (by omega);rw[if_neg c,Nat.add_sub_cancel_left,Oo b.wd d.flat.wd a (by omega),Oo b.wd d.flat.wd a g];have e:=Vb (p:=dM k) (ps:=l.map dM) (x:=fD l.flatten j) (by rw[E8];exact n);rw[oL]at e;rw[e,E9 d j (by omega)]
theorem G8{l:List (List Nat)}(h:jL l):dU (iy (l.map dM)).length (sg (iy (l.map dM))):=by
 rw[E8];have o:=h.flat.wd
 have f:∀{l:List (List Nat)},jL l->∀i j,i<l.flatten.length->j<l.flatten.length->yD l i=yD l j->i=j:=by
  intro l
  induction l with
  | nil=>intro _ i j m;simp at m
  | cons k l p =>
   intro h i j m q d;have n:=(h k (by simp)).1.wd.iU;rw[List.flatten_cons,List.length_append]at m q;unfold yD at d;by_cases b:i<k.length <;> by_cases e:j<k.length
   ·rw[if_pos b,if_pos e]at d;exact n.inj _ _ b e d
   ·rw[if_pos b,if_neg e]at d;have:=n.lt i b;omega
   ·rw[if_neg b,if_pos e]at d;have:=n.lt j e;omega
   ·rw[if_neg b,if_neg e]at d;have:=p (fun x c=>h x (by simp[c])) (i - k.length) (j - k.length) (by omega) (by omega) (by omega);omega
 have a:=o.gX;refine⟨fun x c=>?_,fun x y c g d=>?_⟩
 ·have b:=E9 h _ (a.eZ c);rw[a.gD c]at b;rw[b];exact a.lt _ (DT h _ (a.eZ c))
 ·have b:=E9 h _ (a.eZ c);have e:=E9 h _ (a.eZ g);rw[a.gD c]at b;rw[a.gD g]at e;rw[b,e]at d;have:=f h _ _ (a.eZ c) (a.eZ g) (a.inj _ _ (DT h _ (a.eZ c)) (DT h _ (a.eZ g)) d);rw[<-a.gD c,this,a.gD g]
structure Fa (n:Nat)(S D:Nat->Nat)(l:List (List Nat)):Prop extends tV n D l.flatten where
 ok:jL l
 next:∀i,i<n->S (D i)=D (yD l i)
theorem Fa.vL{n:Nat}{S D:Nat->Nat}{l:List (List Nat)}(k:Fa n S D l){x:Nat}(c:x<n):sg (iy (l.map dM)) (sg (qO n D l.flatten) x)=sg (qO n D l.flatten) (S x):=by
 obtain⟨i,b,e,d⟩:=k.oF c;have a:i<l.flatten.length:=by rw[k.len];exact b
 rw[d,E9 k.ok i a,<-e,k.next i b,k.vJ (by rw[<-k.len];exact DT k.ok i a)]
theorem Fa.vM{n:Nat}{S D:Nat->Nat}{l:List (List Nat)}(k:Fa n S D l)(hn:0<n):sg (qO n D l.flatten) (D 0)=0:=by rw[k.vJ hn,k.wd.nS (by rw[k.len];exact hn)]
end
section
theorem Wd.yE{ks:List Nat}(h:Wd ks){i:Nat}(d:i<ks.length):ks.getD (mp ks i) 0<2↔ks.getD i 0<2:=by
 obtain⟨t,e,⟨a,b⟩|⟨a,b⟩⟩:=h.cases (i:=i) d
 ·have c:=b.closes;rw[List.getD_eq_getElem?_getD,c,List.getD_eq_getElem?_getD,a,Option.getD_some,Option.getD_some];omega
 ·have c:=b.opens;rw[List.getD_eq_getElem?_getD,c,List.getD_eq_getElem?_getD,a,Option.getD_some,Option.getD_some];omega
section
variable {ks:List Nat} (h:Wd ks) (hn:0<ks.length)
include h hn
theorem Wd.yF:∀x,x<ks.length->dJ ks.length (sg (dM ks)) 0 x:=by
 have b:∀i,i<ks.length->dJ ks.length (sg (dM ks)) 0 (fD ks i):=by
  intro i
  induction i with
  | zero=>intro _;rw[h.nS hn];exact dJ.refl _ _ _
  | succ i l =>
   intro m;have e:=l (by omega);have a:(i+1) % ks.length=i+1:=Nat.mod_eq_of_lt m;by_cases f:ks.getD i 0<2
   ·have g:=h.gW (i:=i) (by omega);have c:tn ks (mp ks i)=i+1:=by unfold tn;rw[if_pos ((h.yE (by omega)).2 f),h.iC (by omega),a]
    have j:=e.trans (dJ.mate (h.jF (i:=i) (by omega)));rw[<-h.kW (by omega)]at j;have d:=j.trans (dJ.turn (S:=sg (dM ks)) (h.jF g));rwa [h.jW g,c]at d
   ·have c:tn ks i=i+1:=by unfold tn;rw[if_neg f,a]
    have d:=e.trans (dJ.turn (S:=sg (dM ks)) (h.jF (i:=i) (by omega)));rwa [h.jW (by omega),c]at d
 intro x k;have:=b _ (h.gX.eZ k);rwa [h.gX.gD k]at this
theorem Wd.p8:dZ (dM ks).length (sg (dM ks)) (dM ks).length=1/\fU (jG (dM ks) 0)=0:=by
 have f:=h.gL;have a:=h.lM;have d:=JF h.tT a hn (h.yF hn);have b:=oL ks;rw[<-b]at d;refine⟨d,?_⟩;rw[JG f (by rw[b];exact a) d,b];have g:dY (sg (dM ks)) ks.length=dY (tn ks) ks.length:=Bq h.tT h.iU h.gX (fun i c=>h.jW c);have e:dU ks.length (sg (dS (dM ks))):=by have:=Bd f (by rw[b];exact a);rwa [mK,b]at this
 have j:dY (sg (dS (dM ks))) ks.length=dY (ph ks) ks.length:=Bq e h.sj h.gX (fun i c=>by
  have k:sg (dS (dM ks)) (fD ks i)=sg (dM ks) (mt (fD ks i)):=by simp[sg,dS,b,h.jF c]
  rw[k,<-h.kW c,h.jW (h.gW c)];rfl)
 have l:=h.Bf hn;rw[g,j];have:(2 - ((dY (tn ks) ks.length:Nat):Int)+((ks.length / 2:Nat):Int) - ((dY (ph ks) ks.length:Nat):Int))=0:=by omega
 rw[this];rfl
end
end
section
open Go.RowKit
def yG(w:World)(b a:Nat)(l:List Bool)(w':World):Prop:=∃c,fq w' a c l/\w.heap.size<=a/\(∀q,c.ownBlock=some q->w.heap.size<=q)/\Keeps (fun x=>x=b) w w'
theorem gB.encR{k:List Nat}(h:gB k)(hn:0<k.length):wO (dM k) 0 0 k 0:=by have:=h.wd.Ae h.canon;rwa [if_neg (by omega),if_neg (by omega)]at this
theorem Vd{w:World}{b:Nat}{k:List Nat}{R:Nat->Prop}(p l:Bool)(h:MapAt w b (dM k) 0 0 R)(t:gB k)(hn:0<k.length) :
  Calls Tryz.prog 90 #[gY false p l,.pointer (some ⟨b,0,none⟩)] w fun e w'=>∃E,e=.returned (.tuple #[.pointer (some ⟨E,0,none⟩),.int .i64 (k.length / 2:Nat),.int .i64 0])/\yG w b E (jE k) w':=by
 have u:=(Keeps.refl (fun _=>False) w).alloc (.cells #[.bool false,.bool p,.bool l] 35);have F:=h.keeps u (fun h=>h) (fun _ _ h=>h);have f:=U0 (l:=0) F;have y:=h.le;have I:=h.lt;rw[oL]at y;have o:=dh (dn u (dn t hn));have J:=t.k4;clear h F u t;unfold gY;go_enter Tryz.func90,Tryz.ntmps90;go_wp2_with fail;refine f.mono ?_;clear f;rintro e w1 ⟨O,c,ks,rfl,f,r,z⟩;obtain⟨rfl,rfl⟩:=(o.out.2.1.encR o.out.2.2).unique f;rcases z with⟨_,K,rfl,A⟩|⟨z,_⟩
 rotate_left
 ·exact absurd rfl z
 obtain⟨L,g,i,B,a⟩:=A;have j:=RH K L k w1 g J (by omega)
 have s:Hid (Keeps (fun x=>x=b) w w1/\w.heap.size<=w1.heap.size/\∀W,Keeps (fun _=>False) w1 W->Calls Tryz.prog 20 #[.pointer (some ⟨b,0,none⟩)] W fun e w'=>e=.returned (.int .i64 (k.length / 2:Nat))/\W=w'):=by
  refine dh ⟨(show Keeps (fun x=>x=b) w _ from o.out.1.mono (fun _ _ h=>h.elim)).trans a (fun _ _ h=>h),?_,fun W A=>?_⟩
  ·have:=o.out.1.size;have:=a.size;omega
  ·have:=EP (r.1.keeps A (fun h=>h) (fun _ _ h=>h));rwa [oL]at this
 clear r g i B a f;go_wp2_with fail;refine j.mono ?_;clear j;rintro e G ⟨C,rfl,M,H,D,m,d⟩;have n:=s.out.2.2 G d;have N:Hid (yG w b C (jE k) G):=dh ⟨M,H,by have:=s.out.2.1;omega,fun q r=>by have:=m q r;have:=s.out.2.1;omega,s.out.1.trans d (fun _ _ h=>h.elim)⟩;clear H D m d;go_wp2_with fail;refine n.mono ?_;clear n;rintro e w' ⟨rfl,rfl⟩;go_wp2;refine bodyPost_ret (v:=.tuple #[.pointer (some ⟨C,0,none⟩),.int .i64 (k.length / 2:Nat),.int .i64 0]) (by simp[results,Tryz.results90,go_sem]) rfl ?_;exact⟨C,rfl,N.out⟩
end
