import Derived.Test.YtalhcfjcbbkpgaaGreatZp0p
set_option maxRecDepth 100000
set_option maxHeartbeats 4000000
namespace Go.Proofs.YtalhcfjcbbkpgaaGreat
section
open Go.RowKit
def CS(w a:World)(n:Nat)(D:Nat->Nat)(ks:List Nat)(g j:Nat)(wr:World):Prop :=
 ∃zs,zs.length=n/\CJ n D ks j zs/\dH w.heap.size wr (.slice (some ⟨g,0,none⟩) n n) zs/\Keeps (fun k=>k=g) a wr
theorem CS.still{w a wr w':World}{n:Nat}{D:Nat->Nat}{ks:List Nat}{g j:Nat}(h:CS w a n D ks g j wr)(k:Keeps (fun _=>False) wr w'):CS w a n D ks g j w':=by obtain⟨zs,b,c,d,e⟩:=h;exact⟨zs,b,c,d.keeps k (fun _ _ h=>h),e.trans k (fun _ _ h=>h.elim)⟩
theorem CS.cell{w a wr:World}{n:Nat}{D:Nat->Nat}{ks:List Nat}{g j i:Nat}(h:CS w a n D ks g j wr)(b:i<n):wr.cell? ⟨g,D i,none⟩=some (.int .i64 (if i<j\/mp ks i<j then (fA ks i:Int)else -1))/\wr.frozen? ⟨g,D i,none⟩=false:=by obtain⟨zs,e,c,d,f⟩:=h;exact d.cell (c i b)
theorem CS.other{w a wr:World}{n:Nat}{D:Nat->Nat}{ks:List Nat}{g j i d:Nat}(h:CS w a n D ks g j wr)(b:i<n)(c:d≠D i)(v:Int){W:World}(e:Keeps (fun _=>False) (wr.setCell ⟨g,d,none⟩ (.int .i64 v)) W) :
  W.cell? ⟨g,D i,none⟩=some (.int .i64 (if i<j\/mp ks i<j then (fA ks i:Int)else -1))/\W.frozen? ⟨g,D i,none⟩=false:=by
 obtain⟨zs,l,f,k,m⟩:=h;exact((k.set d v).keeps e (fun _ _ h=>h)).cell (by rw[List.getElem?_set,if_neg c];exact f i b)
theorem CS.keep{w a wr:World}{n:Nat}{D:Nat->Nat}{ks:List Nat}{g j:Nat}(k:tu n D ks)(h:CS w a n D ks g j wr)(b:j<n)(c:mp ks j<j):CS w a n D ks g (j+1) wr:=by obtain⟨zs,d,e,f,i⟩:=h;exact⟨zs,d,k.EH b c e,f,i⟩
theorem CS.step{w a wr:World}{n:Nat}{D:Nat->Nat}{ks:List Nat}{g j:Nat}(k:tu n D ks)(h:CS w a n D ks g j wr)(c:j<n)(d:j<mp ks j) :
  CS w a n D ks g (j+1) ((wr.setCell ⟨g,D j,none⟩ (.int .i64 (fA ks j:Int))).setCell ⟨g,mt (D j),none⟩ (.int .i64 ((fA ks j:Int)+1))):=by
 obtain⟨zs,b,e,f,i⟩:=h;exact⟨_,by simpa using b,k.stepJ c b d e,(f.set _ _).set _ _,(i.setCell (p:=⟨g,D j,none⟩) (.inl rfl) _).setCell (p:=⟨g,mt (D j),none⟩) (.inl rfl) _⟩
end
section
open Go.RowKit
theorem dO.none{S:Nat->Nat}:dO 0 S:=⟨fun d a=>by omega,fun d e a=>by omega⟩
end
section
open Go.RowKit
theorem EJ{s:List Nat}{rt:Int}{ln:Nat}{sv:Value}{W:World}(c:Sl .i64 W sv (dD s))(d:dO s.length (sg s))(e:s.length % 2=0)(f:s.length<=131072)(a:ln<=65536)(b:(s.length=0/\rt=-1)\/∃r:Nat,rt=r/\r<s.length) :
  Calls Tryz.prog 25 #[sv,.int .i64 rt,.int .i64 ln] W (jC W s rt ln):=by
 rcases b with⟨g,rfl⟩|⟨r,rfl,hr⟩
 ·obtain rfl:s=[]:=List.eq_nil_of_length_eq_zero g;exact TL sv ln W c a
 ·exact MS sv s r ln W c d e hr f a
end
section
theorem GA{ks:List Nat}{s i j:Nat}(h:iw ks s i j)(k:s<2):(s=0/\DD ks (j+1)=DD ks i/\∀p,i<p->p<=j->DD ks i<DD ks p)\/(s=1/\BB ks (j+1)=BB ks i/\∀p,i<p->p<=j->BB ks i<BB ks p):=by
 have f:=h.le;have g:=h.lt;have c:=h.hit;have e:=h.above;have d:s=0\/s=1:=by omega
 rcases d with rfl|rfl
 ·refine .inl ⟨rfl,?_,fun p a b=>?_⟩
  ·rw[gI (by omega),gI (by omega)]at c;exact c
  ·have:=e p a b;rw[gI (by omega),gI (by omega)]at this;exact this
 ·refine .inr ⟨rfl,?_,fun p a b=>?_⟩
  ·rw[iR (by omega),iR (by omega)]at c;exact c
  ·have:=e p a b;rw[iR (by omega),iR (by omega)]at this;exact this
theorem NA{a:List Nat}(b:List Nat){s i j:Nat}(h:iw a s i j)(g:s<2):iw (a ++ b) s i j:=by
 have k:=h.le;have f:=h.lt;have l:(a ++ b).length=a.length+b.length:=List.length_append;refine⟨f,by omega,by rw[List.getElem?_append_left (by omega)];exact h.opens,by rw[List.getElem?_append_left (by omega)];exact h.closes,?_,fun p d e=>?_⟩
 ·rcases GA h g with⟨rfl,c,_⟩|⟨rfl,c,_⟩
  ·rw[gI (by omega),gI (by omega),xQ (by omega),xQ (by omega)];exact c
  ·rw[iR (by omega),iR (by omega),Ce (by omega),Ce (by omega)];exact c
 ·rcases GA h g with⟨rfl,_,c⟩|⟨rfl,_,c⟩
  ·rw[gI (by omega),gI (by omega),xQ (by omega),xQ (by omega)];exact c p d e
  ·rw[iR (by omega),iR (by omega),Ce (by omega),Ce (by omega)];exact c p d e
theorem NC{a b:List Nat}{s i j:Nat}(d:Wd a)(h:iw b s i j)(e:s<2):iw (a ++ b) s (a.length+i) (a.length+j):=by
 have f:=h.le;have g:=h.lt;have m:=d.nE;have n:=d.qE;have o:(a ++ b).length=a.length+b.length:=List.length_append;refine⟨by omega,by omega,by rw[List.getElem?_append_right (by omega),Nat.add_sub_cancel_left];exact h.opens,by rw[List.getElem?_append_right (by omega),Nat.add_sub_cancel_left];exact h.closes,?_,fun p k l=>?_⟩
 ·rw[Nat.add_assoc];rcases GA h e with⟨rfl,c,_⟩|⟨rfl,c,_⟩
  ·rw[gI (by omega),gI (by omega),yP,yP,c]
  ·rw[iR (by omega),iR (by omega),AO,AO,c]
 ·obtain⟨q,rfl⟩:=Nat.exists_eq_add_of_le (show a.length<=p by omega);rcases GA h e with⟨rfl,_,c⟩|⟨rfl,_,c⟩
  ·have:=c q (by omega) (by omega);rw[gI (by omega),gI (by omega),yP,yP];omega
  ·have:=c q (by omega) (by omega);rw[iR (by omega),iR (by omega),AO,AO];omega
theorem Wd.tC{ks:List Nat}(a:Wd ks){s i j:Nat}(h:iw ks s i j):mp ks j=i:=by have b:=a.lJ h;have:=a.gW (i:=i) (by have:=h.lt;have:=h.le;omega);rwa [b]at this
theorem ND{a b:List Nat}(e:Wd a)(c:Wd (a ++ b)){i:Nat}(f:i<a.length):mp (a ++ b) i=mp a i:=by
 obtain⟨s,d,⟨_,h⟩|⟨_,h⟩⟩:=e.cases f
 ·exact c.lJ (NA b h d)
 ·exact c.tC (NA b h d)
theorem NG{a b:List Nat}(d:Wd a)(f:Wd b)(c:Wd (a ++ b)){i:Nat}(g:i<b.length):mp (a ++ b) (a.length+i)=a.length+mp b i:=by
 obtain⟨s,e,⟨_,h⟩|⟨_,h⟩⟩:=f.cases g
 ·exact c.lJ (NC d h e)
 ·exact c.tC (NC d h e)
theorem NH{a b:List Nat}{i:Nat}(c:i<=a.length):oc (a ++ b) i=oc a i:=by unfold oc;rw[List.take_append_of_le_length c]
theorem NI{ks:List Nat}(h:Wd ks):2 * oc ks ks.length=ks.length:=by
 have d:=h.lI
 have e:∀l:List Nat,(∀k ∈ l,k<4)->(l.filter fun k=>k % 2 == 0).length=eG l 0+eG l 2:=by
  intro l
  induction l with
  | nil=>intro _;simp[eG]
  | cons x l a =>
   intro c;have a:=a (fun k f=>c k (by simp[f]));have g:=c x (by simp);have b:x=0\/x=1\/x=2\/x=3:=by omega
   unfold eG at a ⊢;rcases b with rfl|rfl|rfl|rfl <;> simp[a] <;> omega
 unfold oc;rw[List.take_of_length_le (Nat.le_refl _),e ks h.k4];exact d
theorem NJ{a b:List Nat}(c:Wd a){i:Nat}:2 * oc (a ++ b) (a.length+i)=a.length+2 * oc b i:=by have d:=NI c;unfold oc at *;rw[List.take_append,List.filter_append,List.length_append,List.take_of_length_le (by omega),Nat.add_sub_cancel_left];rw[List.take_of_length_le (Nat.le_refl _)]at d;omega
theorem NK{a b:List Nat}(e:Wd a)(c:Wd (a ++ b)){i:Nat}(d:i<a.length):fA (a ++ b) i=fA a i:=by unfold fA;have f:=e.gP d;rw[ND e c d,NH (by omega),NH (by omega),List.getD_eq_getElem?_getD,List.getElem?_append_left d,<-List.getD_eq_getElem?_getD]
theorem NM{a b:List Nat}(c:Wd a)(e:Wd b)(d:Wd (a ++ b)){i:Nat}(f:i<b.length):fA (a ++ b) (a.length+i)=a.length+fA b i:=by have g:=e.gP f;have j:=NJ (b:=b) c (i:=i);have k:=NJ (b:=b) c (i:=mp b i);unfold fA;rw[NG c e d f,List.getD_eq_getElem?_getD,List.getElem?_append_right (by omega),Nat.add_sub_cancel_left,<-List.getD_eq_getElem?_getD];split <;> omega
def iO:List (List Nat)->List Nat
 | []=>[]
 | p :: ps=>p ++ (iO ps).map (p.length + ·)
theorem q6z:∀ps:List (List Nat),(iO ps).length=(ps.map List.length).sum
 | []=>rfl
 | p :: ps=>by simp[iO,q6z ps]
theorem UJ{p:List Nat}{ps:List (List Nat)}{x:Nat}(h:x<p.length):sg (iO (p :: ps)) x=sg p x:=by unfold sg iO;rw[List.getD_eq_getElem?_getD,List.getElem?_append_left h,<-List.getD_eq_getElem?_getD]
theorem UK{p:List Nat}{ps:List (List Nat)}{x:Nat}(h:x<(iO ps).length):sg (iO (p :: ps)) (p.length+x)=p.length+sg (iO ps) x:=by unfold sg;show (p ++ (iO ps).map (p.length + ·)).getD _ 0=_;rw[List.getD_eq_getElem?_getD,List.getElem?_append_right (by omega),Nat.add_sub_cancel_left,List.getElem?_map,List.getElem?_eq_getElem h,List.getD_eq_getElem?_getD,List.getElem?_eq_getElem h];rfl
noncomputable def xU:List (List Nat)->Nat->Nat
 | [],i=>i
 | k :: l,i=>if i<k.length then tn k i else k.length+xU l (i - k.length)
def kJ(l:List (List Nat)):Prop:=∀k ∈ l,gH k/\0<k.length
theorem kJ.flat:∀{l:List (List Nat)},kJ l->gH l.flatten
 | [],_=>by
  refine { k4:=by simp,l8:=fun p a=>?_,bpos:=fun p a=>?_,right:=fun i b=>by simp at b,nE:=rfl,qE:=rfl }
  ·have:p=0:=by simpa using a
   subst this;exact Int.le_refl _
  ·have:p=0:=by simpa using a
   subst this;exact Int.le_refl _
 | k :: l,h=>by rw[List.flatten_cons];exact(h k (by simp)).1.app (kJ.flat (fun x c=>h x (by simp[c])))
theorem GD(l:List (List Nat)):(iO (l.map dN)).length=l.flatten.length:=by rw[q6z,List.length_flatten,List.map_map];congr 1;exact List.map_congr_left (fun k _=>pG k)
theorem Dt:∀{l:List (List Nat)},kJ l->∀i,i<l.flatten.length->xU l i<l.flatten.length
 | [],_,i,a=>by simp at a
 | k :: l,h,i,a=>by
  rw[List.flatten_cons,List.length_append]at a ⊢;unfold xU;split
  ·next b=>have:=((h k (by simp)).1.wd.jc).lt i b;omega
  ·next b =>
   have c:kJ l:=fun x d=>h x (by simp[d]);have:=Dt c (i - k.length) (by omega);omega
theorem EK:∀{l:List (List Nat)},kJ l->∀i,i<l.flatten.length->sg (iO (l.map dN)) (fA l.flatten i)=fA l.flatten (xU l i)
 | [],_,i,f=>by simp at f
 | k :: l,h,i,f=>by
  have b:=(h k (by simp)).1;have d:kJ l:=fun x m=>h x (by simp[m]);have a:=(kJ.flat h).wd;rw[List.flatten_cons]at f a ⊢;rw[List.length_append]at f;rw[List.map_cons];unfold xU;by_cases c:i<k.length
  ·have g:=(b.wd.jc).lt i c;rw[if_pos c,NK b.wd a c,NK b.wd a g,UJ (by rw[pG];exact b.wd.jI c),b.wd.kV c]
  ·obtain⟨j,rfl⟩:=Nat.exists_eq_add_of_le (show k.length<=i by omega);have g:=Dt d j (by omega);have n:=(d.flat.wd).jI (i:=j) (by omega);rw[if_neg c,Nat.add_sub_cancel_left,NM b.wd d.flat.wd a (by omega),NM b.wd d.flat.wd a g];have e:=UK (p:=dN k) (ps:=l.map dN) (x:=fA l.flatten j) (by rw[GD];exact n);rw[pG]at e;rw[e,EK d j (by omega)]
theorem NP{l:List (List Nat)}(h:kJ l):dO (iO (l.map dN)).length (sg (iO (l.map dN))):=by
 rw[GD];have o:=h.flat.wd
 have f:∀{l:List (List Nat)},kJ l->∀i j,i<l.flatten.length->j<l.flatten.length->xU l i=xU l j->i=j:=by
  intro l
  induction l with
  | nil=>intro _ i j m;simp at m
  | cons k l p =>
   intro h i j m q d;have n:=(h k (by simp)).1.wd.jc;rw[List.flatten_cons,List.length_append]at m q;unfold xU at d;by_cases b:i<k.length <;> by_cases e:j<k.length
   ·rw[if_pos b,if_pos e]at d;exact n.inj _ _ b e d
   ·rw[if_pos b,if_neg e]at d;have:=n.lt i b;omega
   ·rw[if_neg b,if_pos e]at d;have:=n.lt j e;omega
   ·rw[if_neg b,if_neg e]at d;have:=p (fun x c=>h x (by simp[c])) (i - k.length) (j - k.length) (by omega) (by omega) (by omega);omega
 have a:=o.ig;refine⟨fun x c=>?_,fun x y c g d=>?_⟩
 ·have b:=EK h _ (a.eF c);rw[a.fD c]at b;rw[b];exact a.lt _ (Dt h _ (a.eF c))
 ·have b:=EK h _ (a.eF c);have e:=EK h _ (a.eF g);rw[a.fD c]at b;rw[a.fD g]at e;rw[b,e]at d;have:=f h _ _ (a.eF c) (a.eF g) (a.inj _ _ (Dt h _ (a.eF c)) (Dt h _ (a.eF g)) d);rw[<-a.fD c,this,a.fD g]
structure EL (n:Nat)(S D:Nat->Nat)(l:List (List Nat)):Prop extends tu n D l.flatten where
 ok:kJ l
 next:∀i,i<n->S (D i)=D (xU l i)
theorem EL.uW{n:Nat}{S D:Nat->Nat}{l:List (List Nat)}(k:EL n S D l){x:Nat}(c:x<n):sg (iO (l.map dN)) (sg (qK n D l.flatten) x)=sg (qK n D l.flatten) (S x):=by
 obtain⟨i,b,e,d⟩:=k.nS c;have a:i<l.flatten.length:=by rw[k.len];exact b
 rw[d,EK k.ok i a,<-e,k.next i b,k.uU (by rw[<-k.len];exact Dt k.ok i a)]
theorem EL.uX{n:Nat}{S D:Nat->Nat}{l:List (List Nat)}(k:EL n S D l)(hn:0<n):sg (qK n D l.flatten) (D 0)=0:=by rw[k.uU hn,k.wd.nI (by rw[k.len];exact hn)]
end
section
theorem Wd.xV{ks:List Nat}(h:Wd ks){i:Nat}(d:i<ks.length):ks.getD (mp ks i) 0<2↔ks.getD i 0<2:=by
 obtain⟨t,e,⟨a,b⟩|⟨a,b⟩⟩:=h.cases (i:=i) d
 ·have c:=b.closes;rw[List.getD_eq_getElem?_getD,c,List.getD_eq_getElem?_getD,a,Option.getD_some,Option.getD_some];omega
 ·have c:=b.opens;rw[List.getD_eq_getElem?_getD,c,List.getD_eq_getElem?_getD,a,Option.getD_some,Option.getD_some];omega
section
variable {ks:List Nat} (h:Wd ks) (hn:0<ks.length)
include h hn
theorem Wd.pW:∀x,x<ks.length->dI ks.length (sg (dN ks)) 0 x:=by
 have key:∀i,i<ks.length->dI ks.length (sg (dN ks)) 0 (fA ks i):=by
  intro i
  induction i with
  | zero=>intro _;rw[h.nI hn];exact dI.refl _ _ _
  | succ i k =>
   intro l;have d:=k (by omega);have a:(i+1) % ks.length=i+1:=Nat.mod_eq_of_lt l;by_cases e:ks.getD i 0<2
   ·have f:=h.gP (i:=i) (by omega);have b:tn ks (mp ks i)=i+1:=by unfold tn;rw[if_pos ((h.xV (by omega)).2 e),h.gW (by omega),a]
    have g:=d.trans (dI.mate (h.jI (i:=i) (by omega)));rw[<-h.lH (by omega)]at g;have c:=g.trans (dI.turn (S:=sg (dN ks)) (h.jI f));rwa [h.kV f,b]at c
   ·have b:tn ks i=i+1:=by unfold tn;rw[if_neg e,a]
    have c:=d.trans (dI.turn (S:=sg (dN ks)) (h.jI (i:=i) (by omega)));rwa [h.kV (by omega),b]at c
 intro x j;have:=key _ (h.ig.eF j);rwa [h.ig.fD j]at this
theorem Wd.uz:dX (dN ks).length (sg (dN ks)) (dN ks).length=1/\fV (jN (dN ks) 0)=0:=by
 have f:=h.iD;have a:=h.mD;have d:=Gw h.vY a hn (h.pW hn);have b:=pG ks;rw[<-b]at d;refine⟨d,?_⟩;rw[EC f (by rw[b];exact a) d,b];have g:eu (sg (dN ks)) ks.length=eu (tn ks) ks.length:=Dn h.vY h.jc h.ig (fun i c=>h.kV c);have e:dO ks.length (sg (dS (dN ks))):=by have:=F3 f (by rw[b];exact a);rwa [oD,b]at this
 have j:eu (sg (dS (dN ks))) ks.length=eu (ph ks) ks.length:=Dn e h.uj h.ig (fun i c=>by
  have k:sg (dS (dN ks)) (fA ks i)=sg (dN ks) (mt (fA ks i)):=by simp[sg,dS,b,h.jI c]
  rw[k,<-h.lH c,h.kV (h.gP c)];rfl)
 have l:=h.Aw hn;rw[g,j];have:(2 - ((eu (tn ks) ks.length:Nat):Int)+((ks.length / 2:Nat):Int) - ((eu (ph ks) ks.length:Nat):Int))=0:=by omega
 rw[this];rfl
end
end
section
open Go.RowKit
def xW(w:World)(b a:Nat)(l:List Bool)(w':World):Prop:=∃c,eX w' a c l/\w.heap.size<=a/\(∀q,c.ownBlock=some q->w.heap.size<=q)/\Keeps (fun x=>x=b) w w'
theorem gH.encR{k:List Nat}(h:gH k)(hn:0<k.length):vP (dN k) 0 0 k 0:=by have:=h.wd.zL h.canon;rwa [if_neg (by omega),if_neg (by omega)]at this
theorem UL{w:World}{b:Nat}{k:List Nat}{R:Nat->Prop}(p l:Bool)(h:MapAt w b (dN k) 0 0 R)(t:gH k)(hn:0<k.length) :
  Calls Tryz.prog 90 #[iL false p l,.pointer (some ⟨b,0,none⟩)] w fun e w'=>∃E,e=.returned (.tuple #[.pointer (some ⟨E,0,none⟩),.int .i64 (k.length / 2:Nat),.int .i64 0])/\xW w b E (jT k) w':=by
 have u:=(Keeps.refl (fun _=>False) w).alloc (.cells #[.bool false,.bool p,.bool l] 35);have F:=h.keeps u (fun h=>h) (fun _ _ h=>h);have f:=Uk (l:=0) F;have y:=h.le;have I:=h.lt;rw[pG]at y;have o:=dh (dn u (dn t hn));have J:=t.k4;clear h F u t;unfold iL;go_enter Tryz.func90,Tryz.ntmps90;go_wp2_with fail;refine f.mono ?_;clear f;rintro e w1 ⟨O,c,ks,rfl,f,r,z⟩;obtain⟨rfl,rfl⟩:=(o.out.2.1.encR o.out.2.2).unique f;rcases z with⟨_,K,rfl,A⟩|⟨z,_⟩
 rotate_left
 ·exact absurd rfl z
 obtain⟨L,g,i,B,a⟩:=A;have j:=QM K L k w1 g J (by omega)
 have s:Hid (Keeps (fun x=>x=b) w w1/\w.heap.size<=w1.heap.size/\∀W,Keeps (fun _=>False) w1 W->Calls Tryz.prog 20 #[.pointer (some ⟨b,0,none⟩)] W fun e w'=>e=.returned (.int .i64 (k.length / 2:Nat))/\W=w'):=by
  refine dh ⟨(show Keeps (fun x=>x=b) w _ from o.out.1.mono (fun _ _ h=>h.elim)).trans a (fun _ _ h=>h),?_,fun W A=>?_⟩
  ·have:=o.out.1.size;have:=a.size;omega
  ·have:=Gq (r.1.keeps A (fun h=>h) (fun _ _ h=>h));rwa [pG]at this
 clear r g i B a f;go_wp2_with fail;refine j.mono ?_;clear j;rintro e G ⟨C,rfl,M,H,D,m,d⟩;have n:=s.out.2.2 G d;have N:Hid (xW w b C (jT k) G):=dh ⟨M,H,by have:=s.out.2.1;omega,fun q r=>by have:=m q r;have:=s.out.2.1;omega,s.out.1.trans d (fun _ _ h=>h.elim)⟩;clear H D m d;go_wp2_with fail;refine n.mono ?_;clear n;rintro e w' ⟨rfl,rfl⟩;go_wp2;refine bodyPost_ret (v:=.tuple #[.pointer (some ⟨C,0,none⟩),.int .i64 (k.length / 2:Nat),.int .i64 0]) (by simp[results,Tryz.results90,go_sem]) rfl ?_;exact⟨C,rfl,N.out⟩
end
section
open Go.RowKit
def BoolsIn(w:World)(a:Option Addr)(len cap:Nat):Prop :=
 (a=none/\len=0/\cap=0)\/∃(x:Addr) (B:Nat->Bool),a=some x/\len<=cap/\cap<=maxLen/\∀i,i<cap->w.cell? (x.add i)=some (.bool (B i))
theorem BoolsIn.at{w:World}{a:Option Addr}{len cap:Nat}(h:BoolsIn w a len cap):len<=9223372036854775807/\∀i,i<len->∃g off b,a=some ⟨g,off,none⟩/\g<w.heap.size/\w.cell? ⟨g,off+i,none⟩=some (.bool b):=by
 rcases h with⟨rfl,rfl,rfl⟩|⟨x,B,rfl,n,k,j⟩
 ·exact⟨by decide,fun i l=>by omega⟩
 ·refine⟨by unfold maxLen at k;omega,fun i l=>?_⟩;have d:=He (j 0 (by omega));have m:x.add 0=x:=by simp[Addr.add]
  rw[m]at d
  have c:x.add i=⟨x.block,x.off+i,none⟩:=by
   unfold Addr.add;split
   ·rename_i e;subst e;exact d
   ·rfl
  have f:=j i (by omega);rw[c]at f;exact⟨x.block,x.off,B i,by rw[<-d],World.block_lt_of_cell? _ ⟨x.block,x.off+i,none⟩ f,f⟩
end
