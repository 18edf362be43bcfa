import Derived.Test.YtalhcfjcbbkpgaaGreatZp0c
set_option maxRecDepth 100000
set_option maxHeartbeats 4000000
namespace Go.Proofs.YtalhcfjcbbkpgaaGreat
section
structure Wd (ks:List Nat):Prop where
 k4:∀k ∈ ks,k<4
 bal:oZ ks
noncomputable def mp(ks:List Nat)(i:Nat):Nat:=open Classical in if h:∃m,fF ks i m then h.choose else i
section
variable {ks:List Nat} (h:Wd ks)
include h
theorem Wd.mate{i:Nat}(b:i<ks.length):fF ks i (mp ks i):=by have a:=h.bal.mate h.k4 b;unfold mp;rw[dif_pos a];exact a.choose_spec
theorem Wd.xC{i m:Nat}(a:i<ks.length)(b:fF ks i m):mp ks i=m:=(h.mate a).unique b
theorem Wd.gP{i:Nat}(a:i<ks.length):mp ks i<ks.length:=(h.mate a).lt
theorem Wd.gW{i:Nat}(a:i<ks.length):mp ks (mp ks i)=i:=h.xC (h.gP a) (h.mate a).symm
end
structure iw (ks:List Nat)(s i j:Nat):Prop where
 lt:i<j
 le:j<ks.length
 opens:ks[i]? = some (2 * s)
 closes:ks[j]? = some (2 * s+1)
 hit:ex (ownB s ks) (pr s ks (j+1))=ex (ownB s ks) (pr s ks i)
 above:∀p,i<p->p<=j->ex (ownB s ks) (pr s ks i)<ex (ownB s ks) (pr s ks p)
theorem fF.Ec{ks:List Nat}{i m:Nat}(h:fF ks i m):∃s,s<2/\(iw ks s i m\/iw ks s m i):=by
 obtain⟨s,a,c,u,d,f,A⟩:=h
 have key:∀{i m a c:Nat},fM s ks a i->fM s ks c m->fT (ownB s ks) a c->iw ks s i m:=by
  intro i m a c d f b;obtain⟨x,v,B,g⟩:=id d;obtain⟨y,k,l,e⟩:=id f;have n:=(d.own v).2;have o:=(f.own k).2;have w:=b.opens.1;have z:=b.closes.1;rw[List.getD_eq_getElem?_getD,n,Option.getD_some]at w;rw[List.getD_eq_getElem?_getD,o,Option.getD_some]at z;have C:x % 2=0:=by simpa using w
  have D:y % 2=1:=by
   have:¬y % 2=0:=by simpa using z
   omega
  have q:i<m:=by have:=(d.cmp m).1 (by rw[e];exact b.lt);exact this
  have j:=Bo s k;rw[if_pos l,e]at j;refine⟨q,gX k,by rw[v];congr 1;omega,by rw[k];congr 1;omega,by rw[j,g];exact b.hit,fun p r t=>?_⟩;rw[g];refine b.above _ ((d.cmp p).2 r) ?_;rw[<-e];exact Bq s ks t
 rcases A with⟨_,b⟩|⟨_,b⟩
 ·exact⟨s,u,.inl (key d f b)⟩
 ·exact⟨s,u,.inr (key f d b)⟩
theorem iw.DD{ks:List Nat}{i j:Nat}(h:iw ks 0 i j):DD ks (j+1)=DD ks i/\∀p,i<p->p<=j->DD ks i<DD ks p:=by have d:=h.lt;have e:=h.le;have c:=h.hit;rw[gI (show j+1<=ks.length by omega),gI (show i<=ks.length by omega)]at c;refine⟨c,fun p a b=>?_⟩;have:=h.above p a b;rwa [gI (show i<=ks.length by omega),gI (show p<=ks.length by omega)]at this
section
variable {ks:List Nat} (h:Wd ks)
include h
theorem Wd.l8{p:Nat}(a:p<=ks.length):0<=DD ks p:=by rw[<-gI a];exact h.bal.1.2 _ (uK 0 ks p a)
theorem Wd.nE:DD ks ks.length=0:=by rw[<-gI (Nat.le_refl _),<-yH];exact h.bal.1.1
theorem Wd.qE:BB ks ks.length=0:=by rw[<-iR (Nat.le_refl _),<-yH];exact h.bal.2.1
theorem Wd.cases{i:Nat}(c:i<ks.length):∃s,s<2/\((ks[i]? = some (2 * s)/\iw ks s i (mp ks i))\/(ks[i]? = some (2 * s+1)/\iw ks s (mp ks i) i)):=by
 obtain⟨s,b,a|a⟩:=(h.mate c).Ec
 ·exact⟨s,b,.inl ⟨a.opens,a⟩⟩
 ·exact⟨s,b,.inr ⟨a.closes,a⟩⟩
end
def oc(ks:List Nat)(i:Nat):Nat:=((ks.take i).filter fun k=>k % 2 == 0).length
theorem BH{ks:List Nat}{i k:Nat}(h:ks[i]? = some k):oc ks (i+1)=oc ks i+if k % 2=0 then 1 else 0:=by unfold oc;rw[oW h,List.filter_append,List.length_append];by_cases a:k % 2=0 <;> simp[a]
theorem FY(ks:List Nat){a c:Nat}(h:a<=c):oc ks a<=oc ks c:=by
 unfold oc
 have:ks.take c=ks.take a ++ (ks.take c).drop a:=by
  conv=>lhs;rw[<-List.take_append_drop a (ks.take c)]
  rw[List.take_take,Nat.min_eq_left h]
 rw[this,List.filter_append,List.length_append];omega
noncomputable def fA(ks:List Nat)(i:Nat):Nat:=if (ks.getD i 0) % 2=0 then 2 * oc ks i else 2 * oc ks (mp ks i)+1
theorem iG{ks:List Nat}{i k:Nat}(h:ks[i]? = some k):ks.getD i 0=k:=by rw[List.getD_eq_getElem?_getD,h];rfl
section
variable {ks:List Nat} (h:Wd ks)
include h
theorem Wd.lH{i:Nat}(e:i<ks.length):fA ks (mp ks i)=mt (fA ks i):=by
 obtain⟨s,f,⟨b,c⟩|⟨b,c⟩⟩:=h.cases e
 ·have d:=iG c.closes;have a:=iG b;unfold fA;rw[d,a,if_neg (by omega),if_pos (by omega),h.gW e];unfold mt;rw[if_pos (by omega)]
 ·have d:=iG c.opens;have a:=iG b;unfold fA;rw[d,a,if_pos (by omega),if_neg (by omega)];unfold mt;rw[if_neg (by omega)];omega
omit h in
theorem Ed:∀p,p<=ks.length->(∀k ∈ ks,k<4)->2 * (oc ks p:Int)=p+DD ks p+BB ks p:=by
 intro p j c
 induction p with
 | zero=>simp[oc,C8,qc6]
 | succ p b =>
  have a:=List.getElem?_eq_getElem (l:=ks) (i:=p) (by omega);have d:=BH a;have e:=wN a;have f:=FV a;have m:=c _ (List.mem_of_getElem? a);have b:=b (by omega);generalize ks[p]=k at *;have g:k=0\/k=1\/k=2\/k=3:=by omega
  rcases g with rfl|rfl|rfl|rfl <;> simp[dd,bb]at d e f <;> omega
theorem Wd.even:2 * oc ks ks.length=ks.length:=by have a:=Ed (ks:=ks) ks.length (Nat.le_refl _) h.k4;rw[h.nE,h.qE]at a;omega
theorem Wd.pF{i k:Nat}(a:ks[i]? = some k)(b:k % 2=0):2 * oc ks i+1<ks.length:=by have c:=BH a;rw[if_pos b]at c;have d:=FY ks (show i+1<=ks.length from gX a);have:=h.even;omega
theorem Wd.jI{i:Nat}(c:i<ks.length):fA ks i<ks.length:=by
 obtain⟨s,d,⟨a,b⟩|⟨a,b⟩⟩:=h.cases c
 ·have:=h.pF a (by omega);unfold fA;rw[iG a,if_pos (by omega)];omega
 ·have:=h.pF b.opens (by omega);unfold fA;rw[iG a,if_neg (by omega)];exact this
omit h in
theorem LK{i j k l:Nat}(c:ks[i]? = some k)(d:k % 2=0)(e:ks[j]? = some l)(f:l % 2=0)(g:oc ks i=oc ks j):i=j:=by
 rcases Nat.lt_trichotomy i j with a|rfl|a
 ·have b:=BH c;rw[if_pos d]at b;have:=FY ks (show i+1<=j from a);omega
 ·rfl
 ·have b:=BH e;rw[if_pos f]at b;have:=FY ks (show j+1<=i from a);omega
theorem Wd.ig:dO ks.length (fA ks):=by
 refine⟨fun d e=>h.jI e,fun i j f g c=>?_⟩;obtain⟨s,n,m⟩:=h.cases f;obtain⟨t,o,e⟩:=h.cases g;unfold fA at c;rcases m with⟨a,k⟩|⟨a,k⟩ <;> rcases e with⟨b,l⟩|⟨b,l⟩
 ·rw[iG a,iG b,if_pos (by omega),if_pos (by omega)]at c;exact LK a (by omega) b (by omega) (by omega)
 ·rw[iG a,iG b,if_pos (by omega),if_neg (by omega)]at c;omega
 ·rw[iG a,iG b,if_neg (by omega),if_pos (by omega)]at c;omega
 ·rw[iG a,iG b,if_neg (by omega),if_neg (by omega)]at c;have:=LK k.opens (by omega) l.opens (by omega) (by omega);rw[<-h.gW f,this,h.gW g]
end
noncomputable def tn(ks:List Nat)(i:Nat):Nat:=((if ks.getD i 0<2 then mp ks i else i)+1) % ks.length
theorem IB{n a c:Nat}(e:a<n)(f:c<n)(b:(a+1) % n=(c+1) % n):a=c:=by
 have d:∀x,x<n->(x+1) % n=if x+1=n then 0 else x+1:=by
  intro x g;split
  ·rename_i h;rw[h,Nat.mod_self]
  ·exact Nat.mod_eq_of_lt (by omega)
 rw[d a e,d c f]at b;split at b <;> split at b <;> omega
section
variable {ks:List Nat} (h:Wd ks)
include h
theorem Wd.j5{i:Nat}(c:i<ks.length):ks.getD (mp ks i) 0<2↔ks.getD i 0<2:=by
 obtain⟨s,d,⟨a,b⟩|⟨a,b⟩⟩:=h.cases c
 ·rw[iG a,iG b.closes];omega
 ·rw[iG a,iG b.opens];omega
theorem Wd.jc:dO ks.length (tn ks):=by
 have b:∀i,i<ks.length->(if ks.getD i 0<2 then mp ks i else i)<ks.length:=by
  intro i f;split
  ·exact h.gP f
  ·exact f
 refine⟨fun d k=>Nat.mod_lt _ (by omega),fun i j f g e=>?_⟩;have e:=IB (b i f) (b j g) e;by_cases a:ks.getD i 0<2 <;> by_cases c:ks.getD j 0<2
 ·rw[if_pos a,if_pos c]at e;rw[<-h.gW f,e,h.gW g]
 ·rw[if_pos a,if_neg c]at e;have:=(h.j5 f).2 a;rw[e]at this;exact absurd this c
 ·rw[if_neg a,if_pos c]at e;have:=(h.j5 g).2 c;rw[<-e]at this;exact absurd this a
 ·rw[if_neg a,if_neg c]at e;exact e
end
noncomputable def sD(ks:List Nat)(d:Nat):Nat:=fA ks (tn ks (gq (fA ks) d))
noncomputable def dN(ks:List Nat):List Nat:=(List.range ks.length).map (sD ks)
theorem pG(ks:List Nat):(dN ks).length=ks.length:=by simp[dN]
theorem LM{ks:List Nat}{d:Nat}(a:d<ks.length):sg (dN ks) d=sD ks d:=by simp[sg,dN,a]
theorem dO.congr{n:Nat}{S T:Nat->Nat}(h:dO n S)(c:∀d,d<n->T d=S d):dO n T :=
 ⟨fun d a=>by rw[c d a];exact h.lt d a,fun d e a b f=>h.inj d e a b (by rw[<-c d a,<-c e b];exact f)⟩
section
variable {ks:List Nat} (h:Wd ks)
include h
theorem Wd.BI:dO ks.length (sD ks):=by have a:=h.ig;have c:=h.jc;refine⟨fun d b=>h.jI (c.lt _ (a.eF b)),fun d e b f g=>?_⟩;have i:=a.inj _ _ (c.lt _ (a.eF b)) (c.lt _ (a.eF f)) g;have j:=c.inj _ _ (a.eF b) (a.eF f) i;rw[<-a.fD b,j,a.fD f]
theorem Wd.iD:dO (dN ks).length (sg (dN ks)):=by rw[pG];exact h.BI.congr (fun d a=>LM a)
theorem Wd.Ee{i:Nat}(a:i<ks.length):sD ks (fA ks i)=fA ks (tn ks i):=by unfold sD;rw[h.ig.inv_of a]
theorem Wd.mD:ks.length % 2=0:=by have:=h.even;omega
end
end
section
open Go.RowKit
def wQ(ks:List Nat)(j:Nat)(zs:List Int):Prop:=∀i k,i<j->ks[i]? = some k->k % 2=0->zs[i]? = some ((2 * oc ks i:Nat):Int)/\zs[mp ks i]? = some ((2 * oc ks i+1:Nat):Int)
theorem wQ.skip{ks:List Nat}{j k:Nat}{zs:List Int}(c:ks[j]? = some k)(e:k % 2=1)(h:wQ ks j zs):wQ ks (j+1) zs:=by
 intro i x f a d;by_cases b:i=j
 ·subst b;rw[c]at a;simp only [Option.some.injEq]at a;omega
 ·exact h i x (by omega) a d
theorem wQ.step{ks:List Nat}{j k:Nat}{zs:List Int}(b:Wd ks)(B:zs.length=ks.length)(m:ks[j]? = some k)(t:k % 2=0)(h:wQ ks j zs):wQ ks (j+1) ((zs.set j ((2 * oc ks j:Nat):Int)).set (mp ks j) ((2 * oc ks j+1:Nat):Int)):=by
 have n:=gX m;have C:=b.gP n
 have o:mp ks j≠j:=by
  obtain⟨s,u,⟨_,g⟩|⟨_,g⟩⟩:=b.cases n
  ·have:=g.lt;omega
  ·have:=g.lt;omega
 have a:∀i x,ks[i]? = some x->x % 2=0->i≠mp ks j:=by
  intro i x l c e;subst e;obtain⟨s,u,⟨p,g⟩|⟨p,g⟩⟩:=b.cases n
  ·rw[g.closes]at l;simp only [Option.some.injEq]at l;omega
  ·rw[p]at m;simp only [Option.some.injEq]at m;omega
 intro i x D l c;have d:=gX l;have v:=b.gP d;by_cases f:i=j
 ·subst f;constructor
  ·rw[List.getElem?_set,if_neg o,List.getElem?_set,if_pos rfl,if_pos (by omega)]
  ·rw[List.getElem?_set,if_pos rfl,if_pos (by simp;omega)]
 ·obtain⟨w,y⟩:=h i x (by omega) l c;have q:=a i x l c;have z:mp ks i≠j:=fun e=>by have:=a j k m t;have r:=b.gW d;rw[e]at r;exact q r.symm
  have A:mp ks i≠mp ks j:=fun e=>f (by rw[<-b.gW d,e,b.gW n]);constructor
  ·rw[List.getElem?_set,if_neg (fun e=>q e.symm),List.getElem?_set,if_neg (fun e=>f e.symm)];exact w
  ·rw[List.getElem?_set,if_neg (fun e=>A e.symm),List.getElem?_set,if_neg (fun e=>z e.symm)];exact y
theorem wQ.all{ks:List Nat}{zs:List Int}(c:Wd ks)(f:zs.length=ks.length)(h:wQ ks ks.length zs):zs=dD ((List.range ks.length).map (fA ks)):=by
 apply List.ext_getElem?;intro e;rcases Nat.lt_or_ge e ks.length with a|a
 ·have hr:(dD ((List.range ks.length).map (fA ks)))[e]? = some ((fA ks e:Nat):Int):=by simp[dD,a]
  rw[hr];obtain⟨s,g,⟨b,d⟩|⟨b,d⟩⟩:=c.cases a
  ·rw[(h e _ a b (by omega)).1];unfold fA;rw[iG b,if_pos (by omega)]
  ·have:=(h (mp ks e) _ (c.gP a) d.opens (by omega)).2;rw[c.gW a]at this;rw[this];unfold fA;rw[iG b,if_neg (by omega)]
 ·rw[List.getElem?_eq_none (by omega),List.getElem?_eq_none (by simp[dD];exact a)]
theorem RD(sv:Value)(ks:List Nat)(w:World)(V:Sl .i64 w sv (dD ks))(T:Wd ks)(hl:ks.length<=1000000) :
  Calls Tryz.prog 127 #[sv] w fun e w'=>∃g,e=.returned (.slice (some ⟨g,0,none⟩) ks.length ks.length)/\dV w g ks.length (fun zs=>zs=dD ((List.range ks.length).map (fA ks))) w':=by
 have X:Hid (∀W,Keeps (fun _=>False) w W->Sl .i64 W sv (dD ks)):=dh (fun W Y=>V.keeps Y (fun _ _ h=>h));obtain⟨a,cap,rfl,Z,ak⟩:=V.form;rw[q01]at Z X ⊢;have k0:Keeps (fun _=>False) w (w.alloc (.cells (madeCells #[.int .i64 0] ks.length) 3)):=(Keeps.refl _ w).alloc _;have h0:=dV.made w ks.length (wQ ks 0) (fun i k D=>by omega) (by omega);have hM:=QI (.slice a ks.length cap) ks _ (X.out _ k0) T.k4 (by omega) T.bal;have E:=dh T;have F:=dh (dn h0 k0);obtain⟨ii,D,G,H,I⟩:=info_parts nX;have J:=fun w=>run_make (P:=Tryz.prog) w 25 3 ii _ Tryz.underlying25 D G .i64 .i64 (ks.length:Int) (ks.length:Int) (by omega) (Int.le_refl _) (by rw[I];omega) (by omega);simp only [H,Int.toNat_natCast,Nat.mul_one]at J;clear V T D G H I h0 k0;go_enter Tryz.func127,Tryz.ntmps127;go_wp2_with fail;refine hM.mono ?_;rintro e w1 ⟨gm,rfl,ms,A,al,K,L⟩;clear hM J;obtain⟨g,U⟩:∃g,g=w.heap.size:=⟨_,rfl⟩
 have M:=F.out.1.keeps L;have am:g<gm:=by have:=(A.lt gm rfl).1;simp at this;omega
 have N:∀W,Keeps (fun q=>q=g) w1 W->∀i,i<ks.length->W.cell? ⟨gm,i,none⟩=some (.int .i64 (mp ks i:Nat)):=by intro W Y i D;have ho:=A.keeps Y (fun q hq e=>by simp only [Value.ownBlock,Option.some.injEq]at hq;omega);obtain⟨m,aa,ab⟩:=K i D;rw[E.out.xC D ab];exact(ho.cell aa).1
 have HM:=dh N;have v:=Keeps.refl (fun q=>q=g) w1;rw[<-U]at M;rw[<-U];have an:=dh U;clear A K L U N F;go_wp2_with fail;go_loopg [5,15] ks.length (fun m c i wr=>∃j:Nat,j<=ks.length/\m=ks.length - j/\i=.int .i64 j/\c=.int .i64 (2 * oc ks j:Nat)/\dV w g ks.length (wQ ks j) wr/\Keeps (fun q=>q=g) w1 wr)
 case atStart=>exact⟨0,Nat.zero_le _,rfl,rfl,by simp[oc],M,v⟩
 case round =>
  clear M v;obtain⟨j,hj,O,rfl,rfl,r,f⟩:=hrel;have HG:=dh O;clear O;by_cases s:j<ks.length
  ·have b:=List.getElem?_eq_getElem s;have l:=BH b;have aj:oc ks j<=1000000:=by have:=List.length_filter_le (fun k=>k % 2 == 0) (ks.take j);have:(ks.take j).length<=j:=List.length_take_le _ _;unfold oc;omega
   obtain⟨_,_,_,_,B⟩:=id r;obtain⟨ag,off,rfl,ad⟩:=(X.out wr B).cellAt (jA b);have ao:=E.out.k4 _ (List.mem_of_getElem? b);have ae:=HM.out wr f j s;have z:=E.out.gP s;generalize ks[j]=x at *;by_cases n:x % 2=0
   ·rw[if_pos n]at l;obtain⟨z1,_,ap,aq⟩:=r.cell j s;obtain⟨z2,_,ar,au⟩:=r.cell (mp ks j) z;have C:=r.set (Q:=fun zs=>∃t,t.length=ks.length/\wQ ks j t/\zs=t.set j ((2 * oc ks j:Nat):Int)) j ((2 * oc ks j:Nat):Int) (fun zs u h=>⟨zs,u,h,rfl⟩);have R:=C.set (Q:=wQ ks (j+1)) (mp ks j) ((2 * oc ks j+1:Nat):Int) (fun zs u h=>by obtain⟨t,M,h2,h3⟩:=h;rw[h3];exact h2.step E.out M b n);obtain⟨z3,_,af,ah⟩:=C.cell (mp ks j) z;have S:=(f.setCell (p:=⟨g,j,none⟩) (.inl rfl) (.int .i64 ((2 * oc ks j:Nat):Int))).setCell (p:=⟨g,mp ks j,none⟩) (.inl rfl) (.int .i64 ((2 * oc ks j+1:Nat):Int));have o:=dh (dn R (dn S l));have ai:(((x:Nat):Int) % 2 == 0)=true:=by simp;omega
    have e1:((2 * oc ks j+1:Nat):Int)=((2 * oc ks j:Nat):Int)+1:=by omega
    rw[e1]at o;have e2:((2 * oc ks j:Nat):Int)<=2000000:=by omega
    have e3:(0:Int)<=((2 * oc ks j:Nat):Int):=by omega
    clear r C R S l f B e1 b n;obtain⟨c,d⟩:∃c:Nat,c=2 * oc ks j:=⟨_,rfl⟩
    have HC:=dh d;rw[<-d]at o af ah e2 e3;rw[<-d];clear d;generalize mp ks j=y at *;go_wp2;go_roundg (ks.length - (j+1))
    case measure=>rw[HG.out];omega
    case rel=>exact⟨j+1,by omega,rfl,by go_num,by rw[o.out.2.2,HC.out];go_num,o.out.1,o.out.2.1⟩
   ·rw[if_neg n]at l;have o:=dh (dn (r.mono (fun zs _ h=>h.skip b (by omega))) (dn f l));have ai:(((x:Nat):Int) % 2 == 0)=false:=by simp;omega
    clear r l f B ae b n;generalize d:oc ks j=c at *;have HC:=dh d;clear d;go_wp2;go_roundg (ks.length - (j+1))
    case measure=>rw[HG.out];omega
    case rel=>exact⟨j+1,by omega,rfl,by go_num,by rw[o.out.2.2,Nat.add_zero],o.out.1,o.out.2.1⟩
  ·obtain rfl:j=ks.length:=by omega
   have o:=dh (r.mono (fun zs u h=>h.all E.out u));clear r f;go_wp2;go_ret;exact⟨g,rfl,o.out⟩
end
section
def stk(ks:List Nat):Nat->List Nat
 | 0=>[]
 | j+1=>if ks.getD j 9=0 then stk ks j ++ [j]else if ks.getD j 9=1 then (stk ks j).dropLast else stk ks j
def vo(ks:List Nat)(o:Nat):Nat:=eG (ks.take o) 0+1
theorem Ap{ks:List Nat}{j k:Nat}(h:ks[j]? = some k):ks.getD j 9=k:=by rw[List.getD_eq_getElem?_getD,h];rfl
theorem ni{l:List Nat}{t x:Nat}(h:l.dropLast[t]? = some x):l[t]? = some x/\t+1<l.length:=by
 have b:=gX h;rw[List.length_dropLast]at b;rw[List.getElem?_dropLast]at h;by_cases a:t<l.length - 1
 ·rw[if_pos a]at h;exact⟨h,by omega⟩
 ·rw[if_neg a]at h;cases h
section
variable {ks:List Nat} (h:Wd ks)
include h
theorem Wd.nG:∀j,j<=ks.length->((stk ks j).length:Int)=DD ks j/\∀(t o:Nat),(stk ks j)[t]? = some o->o<j/\ks[o]? = some 0/\DD ks o=(t:Int)/\∀p,o<p->p<=j->(t:Int)<DD ks p:=by
 intro j
 induction j with
 | zero=>intro _;exact⟨by simp[stk,C8],fun t o a=>by simp[stk]at a⟩
 | succ j y =>
  intro z;obtain⟨A,n⟩:=y (by omega);have q:=List.getElem?_eq_getElem (l:=ks) (i:=j) (by omega);have r:=wN q;have B:=Ap q;have w:=h.l8 z;generalize ks[j]=k at *;unfold stk;rw[B];by_cases s:k=0
  ·subst s;simp only [dd,if_true]at r;rw[if_pos rfl];refine⟨by rw[List.length_append,List.length_singleton];omega,fun t o a=>?_⟩;rcases q22 a with a|⟨rfl,rfl⟩
   ·obtain⟨x,d,e,f⟩:=n t o a;have:=gX a;refine⟨by omega,d,e,fun p b c=>?_⟩;rcases Nat.lt_or_ge p (j+1)with g|m
    ·exact f p b (by omega)
    ·obtain rfl:p=j+1:=by omega
     omega
   ·refine⟨by omega,q,A.symm,fun p b c=>?_⟩;obtain rfl:p=o+1:=by omega
    omega
  ·rw[if_neg s];by_cases u:k=1
   ·subst u;simp[dd]at r;rw[if_pos rfl];have C:0<(stk ks j).length:=by omega
    refine⟨by rw[List.length_dropLast];omega,fun t o a=>?_⟩;obtain⟨a,D⟩:=ni a;obtain⟨x,d,e,f⟩:=n t o a;refine⟨by omega,d,e,fun p b c=>?_⟩;rcases Nat.lt_or_ge p (j+1)with g|m
    ·exact f p b (by omega)
    ·obtain rfl:p=j+1:=by omega
     omega
   ·rw[if_neg u];have v:dd k=0:=by simp[dd,s,u]
    rw[v]at r;refine⟨by omega,fun t o a=>?_⟩;obtain⟨x,d,e,f⟩:=n t o a;have:=gX a;refine⟨by omega,d,e,fun p b c=>?_⟩;rcases Nat.lt_or_ge p (j+1)with g|m
    ·exact f p b (by omega)
    ·obtain rfl:p=j+1:=by omega
     omega
theorem Wd.sU{j:Nat}(d:j<=ks.length)(e:0<DD ks j):∃o,(stk ks j).getLast? = some o/\OwnAt ks j o:=by
 obtain⟨n,f⟩:=h.nG j d;have q:0<(stk ks j).length:=by omega
 have c:=List.getElem?_eq_getElem (l:=stk ks j) (i:=(stk ks j).length - 1) (by omega);obtain⟨g,k,r,m⟩:=f _ _ c;refine⟨_,by rw[List.getLast?_eq_getElem?];exact c,g,k,by omega,fun p a b=>by have:=m p a b;omega⟩
end
def vx(ks:List Nat)(j:Nat):Nat:=match (stk ks j).getLast? with
 | some o=>vo ks o
 | none=>0
theorem IC{ks:List Nat}{i:Nat}(h:ks[i]? = some 0):eG (ks.take (i+1)) 0=eG (ks.take i) 0+1:=by rw[wL h 0,if_pos rfl]
theorem LP{ks:List Nat}{o q:Nat}(b:ks[o]? = some 0)(c:ks[q]? = some 0)(d:vo ks o=vo ks q):o=q:=by
 unfold vo at d;rcases Nat.lt_trichotomy o q with a|rfl|a
 ·have e:=IC b;have f:=Ia ks 0 (show o+1<=q from a);omega
 ·rfl
 ·have e:=IC c;have f:=Ia ks 0 (show q+1<=o from a);omega
section
variable {ks:List Nat} (h:Wd ks)
include h
theorem Wd.jP{j o:Nat}(c:j<=ks.length)(a:OwnAt ks j o):vx ks j=vo ks o:=by have e:=h.l8 (p:=o) (by have:=a.lt;omega);obtain⟨q,d,b⟩:=h.sU c (by have:=a.hit;omega);unfold vx;rw[d,a.unique b]
theorem Wd.jW{j:Nat}(a:j<=ks.length)(b:DD ks j=0):vx ks j=0:=by have:=(h.nG j a).1;have:stk ks j=[]:=List.eq_nil_of_length_eq_zero (by omega);unfold vx;rw[this];rfl
theorem Wd.pI{j:Nat}(a:j<=ks.length):DD ks j=0\/∃o,OwnAt ks j o:=by
 have:=h.l8 a;by_cases b:DD ks j=0
 ·exact .inl b
 ·obtain⟨o,_,c⟩:=h.sU a (by omega);exact .inr ⟨o,c⟩
theorem Wd.rO{i j:Nat}(a:i<=ks.length)(b:j<=ks.length):vx ks i=vx ks j↔(DD ks i=0/\DD ks j=0)\/∃o,OwnAt ks i o/\OwnAt ks j o:=by
 constructor
 ·intro c;rcases h.pI a with d|⟨o,f⟩ <;> rcases h.pI b with e|⟨q,g⟩
  ·exact .inl ⟨d,e⟩
  ·rw[h.jW a d,h.jP b g]at c;unfold vo at c;omega
  ·rw[h.jP a f,h.jW b e]at c;unfold vo at c;omega
  ·rw[h.jP a f,h.jP b g]at c;have:=LP f.opens g.opens c;subst this;exact .inr ⟨o,f,g⟩
 ·rintro (⟨d,e⟩|⟨o,d,e⟩)
  ·rw[h.jW a d,h.jW b e]
  ·rw[h.jP a d,h.jP b e]
theorem Wd.pJ{i j:Nat}(e:i<=j)(f:j<=ks.length)(m:DD ks i=DD ks j)(b:∀p,i<=p->p<=j->DD ks i<=DD ks p):vx ks i=vx ks j:=by
 rw[h.rO (by omega) f];rcases h.pI (show i<=ks.length by omega)with g|⟨o,a⟩
 ·exact .inl ⟨g,by omega⟩
 ·refine .inr ⟨o,a,by have:=a.lt;omega,a.opens,by have:=a.hit;omega,fun p c d=>?_⟩;rcases Nat.lt_or_ge i p with k|l
  ·have:=b p (by omega) d;have:=a.hit;omega
  ·exact a.above p c (by omega)
theorem Wd.zy{i p:Nat}(a:i<p)(f:p<=ks.length)(b:∀q,i<q->q<=p->DD ks i<DD ks q):vx ks p≠vx ks i:=by
 intro c;rw[h.rO f (by omega)]at c;have g:=b p a (Nat.le_refl _);rcases c with⟨d,e⟩|⟨o,d,e⟩
 ·omega
 ·have:=d.hit;have:=e.hit;omega
theorem Wd.zA{i o p:Nat}(a:OwnAt ks i o)(b:ks[i]? = some 1)(e:i<p)(f:p<=ks.length):vx ks p≠vx ks i:=by
 intro c;have g:=gX b;rw[h.rO f (by omega)]at c;have j:=wN b;simp[dd]at j;have:=a.hit;have:=h.l8 (p:=o) (by have:=a.lt;omega);rcases c with⟨_,d⟩|⟨q,k,d⟩
 ·omega
 ·have:=a.unique d;subst this;have:=k.above (i+1) (by have:=a.lt;omega) (by omega);omega
theorem Wd.oN{i:Nat}(G:i<ks.length):tn ks i<ks.length/\vx ks (tn ks i)=vx ks i /\
  ((i<tn ks i/\∀p,i<p->p<tn ks i->vx ks p≠vx ks i)\/((∀p,i<p->p<ks.length->vx ks p≠vx ks i)/\tn ks i<=i/\∀p,p<tn ks i->vx ks p≠vx ks i)):=by
 have o:=h.nE
 have k:∀m,m+1=ks.length->i<=m->DD ks i=0->(∀p,i<p->p<ks.length->vx ks p≠vx ks i)->tn ks i=(m+1) % ks.length ->
   tn ks i<ks.length/\vx ks (tn ks i)=vx ks i/\((i<tn ks i/\∀p,i<p->p<tn ks i->vx ks p≠vx ks i)\/((∀p,i<p->p<ks.length->vx ks p≠vx ks i)/\tn ks i<=i/\∀p,p<tn ks i->vx ks p≠vx ks i)):=by
  intro m E H v r j;rw[E,Nat.mod_self]at j;rw[j];refine⟨by omega,?_,.inr ⟨r,by omega,fun p e=>by omega⟩⟩;rw[h.jW (by omega) (C8 _),h.jW (by omega) v]
 obtain⟨s,J,w⟩:=h.cases G;by_cases x:s=0
 ·subst x;rcases w with⟨d,e⟩|⟨d,e⟩
  ·
   obtain⟨y,t⟩:=e.DD;have E:=e.le;have j:tn ks i=(mp ks i+1) % ks.length:=by unfold tn;rw[iG d,if_pos (by omega)]
   have f:∀p,i<p->p<=mp ks i->vx ks p≠vx ks i:=fun p a b=>h.zy a (by omega) (fun q z I=>t q z (by omega));rcases Nat.lt_or_ge (mp ks i+1) ks.length with c|A
   ·rw[j,Nat.mod_eq_of_lt c];refine⟨c,?_,.inl ⟨by have:=e.lt;omega,fun p a b=>f p a (by omega)⟩⟩;refine(h.pJ (by have:=e.lt;omega) (by omega) y.symm (fun p a b=>?_)).symm;rcases Nat.lt_or_ge i p with u|l
    ·rcases Nat.lt_or_ge p (mp ks i+1)with n|n
     ·have:=t p u (by omega);omega
     ·obtain rfl:p=mp ks i+1:=by omega
      omega
    ·obtain rfl:p=i:=by omega
     exact Int.le_refl _
   ·have g:mp ks i+1=ks.length:=by omega
    refine k (mp ks i) g (by have:=e.lt;omega) ?_ (fun p a b=>f p a (by omega)) j;rw[g]at y;omega
  ·
   obtain⟨y,t⟩:=e.DD;have c:=e.lt;have j:tn ks i=mp ks i+1:=by unfold tn;rw[iG d,if_pos (by omega),Nat.mod_eq_of_lt (by omega)]
   have B:=wN d;simp[dd]at B;have C:=wN e.opens;simp[dd]at C;have D:OwnAt ks i (mp ks i):=⟨c,e.opens,by omega,fun p a b=>t p a b⟩
   rw[j];refine⟨by omega,?_,.inr ⟨fun p a b=>h.zA D (by simpa using d) a (by omega),by omega,fun p b F=>?_⟩⟩
   ·refine h.pJ (by omega) (by omega) (by omega) (fun p a b=>?_);have:=t p (by omega) b;omega
   ·rw[h.rO (by omega) (by omega)]at F;rcases F with⟨_,n⟩|⟨q,x,n⟩
    ·have:=D.hit;have:=h.l8 (p:=mp ks i) (by omega);omega
    ·have:=n.unique D;subst this;have:=x.lt;omega
 ·
  have l:¬ks.getD i 0<2:=by rcases w with⟨d,_⟩|⟨d,_⟩ <;> rw[iG d] <;> omega
  have j:tn ks i=(i+1) % ks.length:=by unfold tn;rw[if_neg l]
  have v:DD ks (i+1)=DD ks i:=by
   obtain rfl:s=1:=by omega
   rcases w with⟨d,_⟩|⟨d,_⟩
   ·have:=wN d;rw[this];simp[dd]
   ·have:=wN d;rw[this];simp[dd]
  rcases Nat.lt_or_ge (i+1) ks.length with c|A
  ·rw[j,Nat.mod_eq_of_lt c];refine⟨c,(h.pJ (by omega) (by omega) v.symm (fun p a b=>?_)).symm,.inl ⟨by omega,fun p a b=>by omega⟩⟩;rcases Nat.lt_or_ge i p with n|n
   ·obtain rfl:p=i+1:=by omega
    omega
   ·obtain rfl:p=i:=by omega
    exact Int.le_refl _
  ·have g:i+1=ks.length:=by omega
   refine k i g (by omega) ?_ (fun p a b=>by omega) j;rw[g,o]at v;omega
end
end
section
def rP(ks:List Nat)(j v:Nat):List Nat:=(List.range j).filter fun p=>vx ks p == v
def pl(ks:List Nat)(v:Nat):List Nat:=rP ks ks.length v
theorem RF(ks:List Nat)(j v:Nat):rP ks (j+1) v=rP ks j v ++ if vx ks j=v then [j]else []:=by unfold rP;rw[List.range_succ,List.filter_append];congr 1;by_cases a:vx ks j=v <;> simp[a]
theorem yK{ks:List Nat}{v p:Nat}:p ∈ pl ks v↔p<ks.length/\vx ks p=v:=by unfold pl rP;simp[List.mem_filter]
theorem RG(ks:List Nat)(v:Nat):(pl ks v).Pairwise (·<·):=List.Pairwise.filter _ (List.pairwise_lt_range)
theorem sV{ks:List Nat}{v i j a c:Nat}(b:(pl ks v)[i]? = some a)(d:(pl ks v)[j]? = some c):i<j↔a<c:=by
 have e:=gX b;have f:=gX d;rw[List.getElem?_eq_getElem e]at b;rw[List.getElem?_eq_getElem f]at d;simp only [Option.some.injEq]at b d;have k:=List.pairwise_iff_getElem.1 (RG ks v);subst b;subst d;constructor
 ·intro h;exact k i j e f h
 ·intro h;rcases Nat.lt_trichotomy i j with g|rfl|g
  ·exact g
  ·omega
  ·have:=k j i f e g;omega
section
variable {ks:List Nat} (h:Wd ks)
include h
theorem Wd.rQ{v i p:Nat}(g:(pl ks v)[i]? = some p):(i+1<(pl ks v).length->(pl ks v)[i+1]? = some (tn ks p))/\(¬i+1<(pl ks v).length->(pl ks v)[0]? = some (tn ks p)):=by
 obtain⟨m,b⟩:=yK.1 (List.mem_of_getElem? g);obtain⟨y,n,u⟩:=h.oN m;have o:tn ks p ∈ pl ks v:=yK.2 ⟨y,n.trans b⟩;obtain⟨k,z,r⟩:=List.mem_iff_getElem.1 o;have c:(pl ks v)[k]? = some (tn ks p):=by rw[List.getElem?_eq_getElem z,r]
 have A:=gX g;constructor
 ·intro s;have e:=List.getElem?_eq_getElem s;generalize (pl ks v)[i+1]=q at *;obtain⟨j,d⟩:=yK.1 (List.mem_of_getElem? e);have w:=(sV g e).1 (by omega);rcases u with⟨f,t⟩|⟨f,_⟩
  ·have x:=(sV g c).2 f;rw[e];congr 1;rcases Nat.lt_trichotomy q (tn ks p)with a|a|a
   ·exact absurd (d.trans b.symm) (t q w a)
   ·exact a
   ·have:=(sV c e).2 a;omega
  ·exact absurd (d.trans b.symm) (f q w j)
 ·intro B;have e:=List.getElem?_eq_getElem (l:=pl ks v) (i:=0) (by omega);generalize (pl ks v)[0]=q at *;obtain⟨j,d⟩:=yK.1 (List.mem_of_getElem? e);rcases u with⟨f,t⟩|⟨f,t,x⟩
  ·have:=(sV g c).2 f;omega
  ·rw[e];congr 1;rcases Nat.lt_trichotomy q (tn ks p)with a|a|a
   ·exact absurd (d.trans b.symm) (x q a)
   ·exact a
   ·have:=(sV c e).2 a;omega
theorem Wd.sW{j p:Nat}(d:p<=j)(c:j<=ks.length):vx ks p<eG (ks.take j) 0+1:=by
 rcases h.pI (show p<=ks.length by omega)with b|⟨o,a⟩
 ·rw[h.jW (by omega) b];omega
 ·rw[h.jP (by omega) a];have b:=IC a.opens;have e:=Ia ks 0 (show o+1<=j by have:=a.lt;omega);unfold vo;omega
omit h in
theorem RH(j:Nat):((0 :: (stk ks j).map (vo ks)).getLast?)=some (vx ks j):=by unfold vx;rw[List.getLast?_cons,List.getLast?_map];cases hl:(stk ks j).getLast? <;> simp
end
noncomputable def uO(ks:List Nat)(j:Nat):List (List Nat):=(List.range (eG (ks.take j) 0+1)).map fun v=>(rP ks j v).map (fA ks)
theorem yL(ks:List Nat)(j:Nat):(uO ks j).length=eG (ks.take j) 0+1:=by simp[uO]
theorem Ef{ks:List Nat}{j v:Nat}(a:v<eG (ks.take j) 0+1):(uO ks j)[v]? = some ((rP ks j v).map (fA ks)):=by simp[uO,a]
section
variable {ks:List Nat} (h:Wd ks)
include h
theorem Wd.xD{j k:Nat}(g:ks[j]? = some k):uO ks (j+1)=(uO ks j).set (vx ks j) ((rP ks j (vx ks j)).map (fA ks) ++ [fA ks j]) ++ if k=0 then [[]]else []:=by
 have o:=gX g;have q:=h.sW (Nat.le_refl j) (by omega);have i:eG (ks.take (j+1)) 0=eG (ks.take j) 0+if k=0 then 1 else 0:=wL g 0
 apply List.ext_getElem?;intro v;have d:∀v,v=eG (ks.take j) 0+1->rP ks (j+1) v=[]:=by intro v m;apply List.filter_eq_nil_iff.2;intro p l;have l:=List.mem_range.1 l;have:=h.sW (show p<=j by omega) (show j<=ks.length by omega);simp;omega
 rcases Nat.lt_or_ge v (eG (ks.take j) 0+1)with b|f
 ·rw[List.getElem?_append_left (by simp[yL];exact b),Ef (by omega),RF];rw[List.getElem?_set];by_cases c:vx ks j=v
  ·subst c;rw[if_pos rfl,if_pos rfl,if_pos (by rw[yL];exact b)];simp
  ·rw[if_neg c,if_neg c,Ef b];simp
 ·rw[List.getElem?_append_right (by simp[yL];exact f)];simp only [List.length_set,yL];by_cases a:k=0
  ·rw[if_pos a]at i;rw[if_pos a];rcases Nat.lt_or_ge v (eG (ks.take j) 0+2)with n|n
   ·have e:v=eG (ks.take j) 0+1:=by omega
    rw[Ef (by omega),d v e,e,Nat.sub_self];rfl
   ·rw[List.getElem?_eq_none (by rw[yL];omega),List.getElem?_eq_none (by simp;omega)]
  ·rw[if_neg a]at i;rw[if_neg a,List.getElem?_eq_none (by rw[yL];omega)];simp
end
end
section
structure iV (n:Nat)(S dG:Nat->Nat)(root T:Nat):Prop where
 right:gH (jk (eD S dG root T).2)
 nd:((eD S dG root T).2.map Prod.fst).Nodup
 rR:∀x,x<n->(dI n S root x↔vis (eD S dG root T).2 x)
 lt:∀x,vis (eD S dG root T).2 x->x<n
 cur:∀j,j<T->(eD S dG root j).1<n/\¬vis (eD S dG root j).2 (eD S dG root j).1
 k4:∀j,j<=T->∀x k,(x,k) ∈ (eD S dG root j).2->k<4
 le:T<=n
theorem RI{n:Nat}{S dG:Nat->Nat}(h:dO n S)(z:n % 2=0)(l:∀x y,x<n->y<n->(dG x=dG y↔dK S x y)){root:Nat}(hr:root<n):∃T,iV n S dG root T:=by
 have c:∀x,x<n->dG (S x)=dG x:=fun x m=>((l x (S x) m (h.lt x m)).2 (dK.step S x)).symm;obtain⟨T,r,I,A,b⟩:=KX h z l hr n 0 0 [] (by omega) (FU l hr) (fun i M=>by omega)
 have key:∀j,j<=T->∃r B a,iC n S dG root r B (eD S dG root j).1 (eD S dG root j).2/\sP (eD S dG root j).2 B a:=by
  intro j
  induction j with
  | zero=>intro _;exact⟨0,[],[],FU l hr,KY⟩
  | succ j E =>
   intro p;obtain⟨s,st1,a,g,t⟩:=E (by omega);obtain⟨C,st2,o,d⟩:=b j (by omega);obtain⟨D,q,k⟩:=o.fresh h hr d;have u:¬jE S root s st1:=fun e=>k (g.all h hr e c q);obtain⟨F,sI,G,H⟩:=g.step h z l hr u;obtain⟨f,J⟩:=t.step h hr g k G;exact⟨F,sI,f,H,J⟩
 obtain⟨s,st1,a,g,t⟩:=key T (Nat.le_refl _);have e:jE S root s st1:=by apply Classical.byContradiction;intro K;obtain⟨_,q,k⟩:=g.fresh h hr K;exact k (I.all h hr A c q)
 obtain⟨rfl,v⟩:=id e;refine⟨T,⟨t.done h hr g ⟨rfl,v⟩,I.nd,fun x m=>⟨fun L=>I.all h hr A c L,fun w=>(I.conn x w).2⟩,fun x m=>(I.conn x m).1,fun j p=>?_,fun j p=>?_,?_⟩⟩
 ·obtain⟨C,st2,o,d⟩:=b j p;obtain⟨D,q,k⟩:=o.fresh h hr d;exact⟨D,k⟩
 ·obtain⟨C,st2,_,o,_⟩:=key j p;exact o.k4
 ·have:=I.len;rwa [sF]at this
theorem iV.total{n:Nat}{S dG:Nat->Nat}{root T:Nat}(h:iV n S dG root T)(p:Nat->Bool)(c:∀x,x<n->(p x=true↔dI n S root x)):((List.range n).filter p).length=T:=by
 have d:((List.range n).filter p).length=((eD S dG root T).2.map Prod.fst).length:=by
  refine vI (List.Pairwise.filter _ List.nodup_range) h.nd (fun x=>?_);rw[List.mem_filter,List.mem_range,<-CZ];constructor
  ·rintro⟨a,h3⟩;exact(h.rR x a).1 ((c x a).1 h3)
  ·intro a;have b:=h.lt x a;exact⟨b,(c x b).2 ((h.rR x b).2 a)⟩
 rw[d,List.length_map,sF]
def jX(a:List (Nat × Nat))(e:Nat):Option Nat:=(a.find? (fun p=>p.1 / 2 == e)).map Prod.snd
theorem IE(a:List (Nat × Nat))(d k e:Nat):jX (a ++ [(d,k)]) e=match jX a e with|some x=>some x|none=>if d / 2=e then some k else none:=by
 unfold jX;rw[List.find?_append];cases a.find? (fun p=>p.1 / 2 == e) with
 | some p=>rfl
 | none =>
  by_cases h:d / 2=e
  ·simp[h]
  ·simp[h]
theorem LQ(dG:Nat->Nat)(root:Nat)(a:List (Nat × Nat))(d:Nat):eZ dG root a d=match jX a (d / 2) with|some x=>x+1|none=>if gG dG root a (dG (mt d))then 2 else 0:=by unfold eZ jX;cases a.find? (fun p=>p.1 / 2 == d / 2) <;> rfl
end
section
open Go.RowKit
noncomputable def qB(l nm:List Nat)(part i:Nat):Nat:=((List.range i).filter fun d=>rep (sg l) d == d && sg nm d == part).length
theorem FZ(l nm:List Nat)(part i:Nat):qB l nm part (i+1)=qB l nm part i+if rep (sg l) i=i/\sg nm i=part then 1 else 0:=by unfold qB;rw[List.range_succ,List.filter_append,List.length_append];by_cases a:rep (sg l) i=i <;> by_cases b:sg nm i=part <;> simp[a,b]
theorem Dc(l nm:List Nat)(part i:Nat):qB l nm part i<=i:=by unfold qB;have:=List.length_filter_le (fun d=>rep (sg l) d == d && sg nm d == part) (List.range i);simpa using this
end
section
open Go.RowKit
theorem RJ(w:World)(a b c d e:Value)(t:TypeId):∀j u,[a,b,c,d,e][j]? = some u->(w.alloc (.cells #[a,b,c,d,e] t)).cell? ((⟨w.heap.size,0,none⟩:Addr).add j)=some u:=by
 intro j u f
 match j,f with
 | 0,f=>simp at f;subst f;simp[Addr.add]
 | 1,f=>simp at f;subst f;simp[Addr.add]
 | 2,f=>simp at f;subst f;simp[Addr.add]
 | 3,f=>simp at f;subst f;simp[Addr.add]
 | 4,f=>simp at f;subst f;simp[Addr.add]
 | j+5,f=>simp at f
def Own5(t:TypeId)(B:Nat)(w:World)(v:Value)(ps:List (List Int)):Prop:=w.ownsRow B t 5 v ps.length (ints ps.flatten)/\∀p ∈ ps,p.length=5
theorem RL:∀{ps:List (List Int)} {j k:Nat} {p:List Int},(∀p ∈ ps,p.length=5)->ps[j]? = some p->k<5->ps.flatten[j * 5+k]? = p[k]?:=by
 intro ps
 induction ps with
 | nil=>intro j k p _ h;simp at h
 | cons q ps c =>
  intro j k p b a d;have e:=b q (by simp);cases j with
  | zero =>
   obtain rfl:q=p:=by simpa using a
   rw[List.flatten_cons,List.getElem?_append_left (by omega)];congr 1;omega
  | succ j =>
   rw[List.flatten_cons,List.getElem?_append_right (by omega),e];have:=c (j:=j) (k:=k) (p:=p) (fun p a=>b p (by simp[a])) (by simpa using a) d;rw[<-this];congr 1;omega
theorem Own5.nil(t:TypeId)(B:Nat)(w:World):Own5 t B w (.slice none 0 0) []:=⟨World.ownsRow_nil _ _ _ _,fun p a=>by cases a⟩
theorem Own5.keeps{t:TypeId}{B:Nat}{w w':World}{v:Value}{ps:List (List Int)}{F:Nat->Prop}(h:Own5 t B w v ps)(k:Keeps F w w')(a:∀b,v.ownBlock=some b->¬F b):Own5 t B w' v ps:=⟨k.owns h.1 a,h.2⟩
theorem Own5.lt{t:TypeId}{B:Nat}{w:World}{v:Value}{ps:List (List Int)}(h:Own5 t B w v ps):∀k,v.ownBlock=some k->B<=k/\k<w.heap.size:=World.ownsRow.lt h.1
theorem Own5.form{t:TypeId}{B:Nat}{w:World}{v:Value}{ps:List (List Int)}(h:Own5 t B w v ps):∃a cap,v=.slice a ps.length cap:=by
 obtain⟨⟨_,h⟩,_⟩:=h;rcases h with⟨rfl,b⟩|⟨g,cap,cur,rfl,_⟩
 ·exact⟨none,0,by rw[b]⟩
 ·exact⟨_,cap,rfl⟩
theorem Own5.cell{t:TypeId}{B:Nat}{w:World}{v:Value}{ps:List (List Int)}(h:Own5 t B w v ps){j:Nat}{p:List Int}(a:ps[j]? = some p):∃g cap,v=.slice (some ⟨g,0,none⟩) ps.length cap/\∀k z,p[k]? = some z->w.cell? ⟨g,j * 5+k,none⟩=some (.int .i64 z):=by
 obtain⟨c,d⟩:=h;have i:=gX a;obtain⟨l,e⟩:=id c;rcases e with⟨_,e⟩|⟨g,cap,cur,rfl,_⟩
 ·omega
 ·refine⟨g,cap,rfl,fun k z f=>?_⟩;have b:k<5:=by have:=gX f;have:=d p (List.mem_of_getElem? a);omega
  rw[World.ownsRow.cellAt c _ (by omega)];unfold ints;rw[List.getElem?_map,RL d a b,f];rfl
noncomputable def kS(s:List Nat):List Nat:=(List.range s.length).map (eP s.length (sg s))
theorem Aq{s:List Nat}{d:Nat}(a:d<s.length):sg (kS s) d=eP s.length (sg s) d:=by simp[sg,kS,a]
def oF(nm:List Nat)(k i:Nat):Nat:=((List.range i).filter fun d=>sg nm d == k).length
theorem LU(nm:List Nat)(k i:Nat):oF nm k (i+1)=oF nm k i+if sg nm i=k then 1 else 0:=by unfold oF;rw[List.range_succ,List.filter_append,List.length_append];by_cases a:sg nm i=k <;> simp[a]
theorem RN(nm:List Nat)(k i:Nat):oF nm k i<=i:=by unfold oF;have:=List.length_filter_le (fun d=>sg nm d == k) (List.range i);simpa using this
noncomputable def Df(s:List Nat)(k:Nat):Nat:=qB s (kS s) k s.length
noncomputable def Dh(s:List Nat)(k:Nat):Nat:=qB (dS s) (kS s) k s.length
noncomputable def BJ(s:List Nat)(k:Nat):Nat:=oF (kS s) k s.length / 2
noncomputable def vO(s:List Nat)(k:Nat):Int:=(2 - (Df s k:Int)+BJ s k - Dh s k).tdiv 2
noncomputable def xE(s:List Nat)(d:Nat):List Int:=[(d:Int),Df s (eP s.length (sg s) d),BJ s (eP s.length (sg s) d),Dh s (eP s.length (sg s) d),vO s (eP s.length (sg s) d)]
noncomputable def pK(s:List Nat)(j:Nat):List (List Int):=((List.range j).filter fun d=>eU s.length (sg s) d == d).map (xE s)
theorem xF(s:List Nat)(j:Nat):(pK s j).length=dX s.length (sg s) j:=by simp[pK,dX]
noncomputable def jN(s:List Nat)(lone:Nat):List (List Int):=pK s s.length ++ List.replicate lone [-1,1,0,1,0]
theorem dO.pO{n:Nat}{S:Nat->Nat}(h:dO n S)(c:n % 2=0){j:Nat}(d:j<n):eP n S j=dX n S j↔eU n S j=j:=by
 have e:eU n S j<=j:=xu (dI.refl _ _ _);constructor
 ·intro a;rcases Nat.lt_or_ge (eU n S j) j with b|f
  ·have g:=ug n S (eU n S j);rw[if_pos (h.jf c d)]at g;have i:=C9 n S (show eU n S j+1<=j from b);unfold eP at a;omega
  ·omega
 ·intro a;unfold eP;rw[a]
end
section
open Go.RowKit
theorem F3{s:List Nat}(g:dO s.length (sg s))(c:s.length % 2=0):dO (dS s).length (sg (dS s)):=by
 have f:∀d,d<s.length->sg (dS s) d=sg s (mt d):=fun d a=>by simp[sg,dS,a]
 rw[oD];refine⟨fun d a=>by rw[f d a];exact g.lt _ (dQ c a),fun d e a b i=>?_⟩;rw[f d a,f e b]at i;have:=g.inj _ _ (dQ c a) (dQ c b) i;rw[<-dF d,this,dF]
theorem RO{a M:Int}(c:-M<=a)(d:a<=M):-M<=a.tdiv 2/\a.tdiv 2<=M:=by
 rcases Int.le_total 0 a with h|h
 ·rw[Int.tdiv_eq_ediv_of_nonneg h];omega
 ·have b:a.tdiv 2=-((-a).tdiv 2):=by rw[Int.neg_tdiv,Int.neg_neg]
  rw[b,Int.tdiv_eq_ediv_of_nonneg (by omega)];omega
end
section
open Go.RowKit
theorem IG(w:World):dH w.heap.size (w.alloc (.cells #[] 3)) (.slice (some ⟨w.heap.size,0,none⟩) 0 0) []:=by refine⟨rfl,.inr ⟨w.heap.size,0,#[],rfl,Nat.le_refl _,heap_alloc_new w _,Nat.le_refl _,Nat.zero_le _,?_,?_⟩⟩ <;> simp[ints]
theorem II(sv:Value)(zs:List Int)(w:World)(p:Sl .i64 w sv zs)(A:zs.length<=1000000000) :
  Calls Tryz.prog 113 #[sv] w fun e w'=>∃v,e=.returned v/\dH w.heap.size w' v zs/\Keeps (fun _=>False) w w':=by
 have q:=fun (w:World) (a:Option Addr) (n c:Nat)=>Lib.run_eql_slice_nil (P:=Tryz.prog) w 25 3 a n c 0 0 Tryz.underlying25;have f:=p;obtain⟨a,cap,rfl,s,t,b,k⟩:=p;cases a with
 | none =>
  have u:zs=[]:=by
   cases zs with
   | nil=>rfl
   | cons y ys=>obtain⟨g,off,h,_⟩:=k 0 y rfl;cases h
  subst u;obtain rfl:=b rfl;clear k f b;go_enter Tryz.func113,Tryz.ntmps113;go_wp2;go_ret;exact⟨_,rfl,dH.nil _ _,Keeps.refl _ _⟩
 | some a =>
  have l:=(Keeps.refl (fun _=>False) w).alloc (.cells #[] 3);have i:=f.keeps l (fun _ _ h=>h);have r:=IG w;have m:=dh (dn i (dn r l));clear k f b i r l;go_enter Tryz.func113,Tryz.ntmps113;go_wp2_with (at_builtin;(refine FH rfl _ _ rfl w.heap.size (.slice (some ⟨w.heap.size,0,none⟩) 0 0) (.slice (some a) zs.length cap) [] zs rfl rfl m.out.2.1 m.out.1 (by simp;omega) (by simp) ?_);intro v5 w5 d j o)
  have z:Hid (dH w.heap.size w5 v5 zs/\Keeps (fun _=>False) w w5):=dh ⟨by simpa using d,m.out.2.2.trans j (fun x B h=>by simp only [Value.ownBlock,Option.some.injEq]at h;omega)⟩;clear d j o;go_wp2;go_ret;exact⟨_,rfl,z.out⟩
theorem RP(sv q:Value)(zs:List Int)(w:World)(f:Sl .i64 w sv zs)(k:Sl .i64 w q zs)(D:zs.length<=100000) :
  Calls Tryz.prog 114 #[sv,q] w fun e w'=>e=.returned (.bool true)/\Keeps (fun _=>False) w w':=by
 have r:=dh (dn f k);obtain⟨a,c,rfl,_,_⟩:=f.form;obtain⟨E,F,rfl,_,_⟩:=k.form;generalize s:zs.length=m at *;have t:=dh s;clear f k s;go_enter Tryz.func114,Tryz.ntmps114;go_wp2_with fail;go_loopg [13] (m - 0) (fun u i wr=>∃j:Nat,j<=m/\u=m - j/\i=.int .i64 j/\Keeps (fun _=>False) w wr)
 case atStart=>exact⟨0,Nat.zero_le _,rfl,rfl,Keeps.refl _ _⟩
 case round =>
  obtain⟨j,G,d,rfl,b⟩:=hrel;have v:=dh d;clear d;by_cases l:j<m
  ·obtain⟨z,n⟩:∃z,zs[j]? = some z:=⟨_,List.getElem?_eq_getElem (by rw[t.out];exact l)⟩
   have x:Keeps (fun _=>False) wr wr.drew:=(Keeps.refl _ wr).drew;obtain⟨g,o,rfl,y⟩:=(r.out.1.keeps b (fun _ _ h=>h)).cellAt n;obtain⟨A,B,rfl,C⟩:=(r.out.2.keeps b (fun _ _ h=>h)).cellAt n;have H:wr.drew.cell? ⟨g,o+j,none⟩=some (.int .i64 z):=y;have I:wr.drew.cell? ⟨A,B+j,none⟩=some (.int .i64 z):=C;have p:=dh b;clear n x b;go_wp2_with fail;go_quiet (fail);go_wp2_with fail;go_roundg (m - (j+1))
   case measure=>rw[v.out];omega
   case rel=>exact⟨j+1,by omega,rfl,by go_num,p.out.drewN nq⟩
  ·have p:=dh b;clear b;go_wp2_with fail;go_ret;exact⟨rfl,p.out⟩
end
