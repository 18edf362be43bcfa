import Derived.Test.YtalhcfjcbbkpgaaGreatZt09
set_option maxRecDepth 100000
set_option maxHeartbeats 4000000
namespace Go.Proofs.YtalhcfjcbbkpgaaGreat
section
structure Wd (ks:List Nat):Prop where
 k4:∀k ∈ ks,k<4
 bal:pF ks
noncomputable def mp(ks:List Nat)(i:Nat):Nat:=open Classical in if h:∃m,fG ks i m then h.choose else i
section
variable {ks:List Nat} (h:Wd ks)
include h
theorem Wd.mate{i:Nat}(b:i<ks.length):fG ks i (mp ks i):=by have a:=h.bal.mate h.k4 b;unfold mp;rw[dif_pos a];exact a.choose_spec
theorem Wd.xS{i m:Nat}(a:i<ks.length)(b:fG ks i m):mp ks i=m:=(h.mate a).unique b
theorem Wd.gW{i:Nat}(a:i<ks.length):mp ks i<ks.length:=(h.mate a).lt
theorem Wd.iC{i:Nat}(a:i<ks.length):mp ks (mp ks i)=i:=h.xS (h.gW a) (h.mate a).symm
end
structure iH (ks:List Nat)(s i j:Nat):Prop where
 lt:i<j
 le:j<ks.length
 opens:ks[i]? = some (2 * s)
 closes:ks[j]? = some (2 * s+1)
 hit:ex (ownB s ks) (pr s ks (j+1))=ex (ownB s ks) (pr s ks i)
 above:∀p,i<p->p<=j->ex (ownB s ks) (pr s ks i)<ex (ownB s ks) (pr s ks p)
theorem fG.Ej{ks:List Nat}{i m:Nat}(h:fG ks i m):∃s,s<2/\(iH ks s i m\/iH ks s m i):=by
 obtain⟨s,a,c,v,d,f,B⟩:=h
 have g:∀{i m a c:Nat},fO s ks a i->fO s ks c m->gq (ownB s ks) a c->iH ks s i m:=by
  intro i m a c d f b;obtain⟨x,w,C,j⟩:=id d;obtain⟨y,l,n,e⟩:=id f;have o:=(d.own w).2;have q:=(f.own l).2;have z:=b.opens.1;have A:=b.closes.1;rw[List.getD_eq_getElem?_getD,o,Option.getD_some]at z;rw[List.getD_eq_getElem?_getD,q,Option.getD_some]at A;have D:x % 2=0:=by simpa using z
  have E:y % 2=1:=by
   have:¬y % 2=0:=by simpa using A
   omega
  have r:i<m:=by have:=(d.cmp m).1 (by rw[e];exact b.lt);exact this
  have k:=BS s l;rw[if_pos n,e]at k;refine⟨r,iE l,by rw[w];congr 1;omega,by rw[l];congr 1;omega,by rw[k,j];exact b.hit,fun p t u=>?_⟩;rw[j];refine b.above _ ((d.cmp p).2 t) ?_;rw[<-e];exact BU s ks u
 rcases B with⟨_,b⟩|⟨_,b⟩
 ·exact⟨s,v,.inl (g d f b)⟩
 ·exact⟨s,v,.inr (g f d b)⟩
theorem iH.DD{ks:List Nat}{i j:Nat}(h:iH ks 0 i j):DD ks (j+1)=DD ks i/\∀p,i<p->p<=j->DD ks i<DD ks p:=by have d:=h.lt;have e:=h.le;have c:=h.hit;rw[gU (show j+1<=ks.length by omega),gU (show i<=ks.length by omega)]at c;refine⟨c,fun p a b=>?_⟩;have:=h.above p a b;rwa [gU (show i<=ks.length by omega),gU (show p<=ks.length by omega)]at this
section
variable {ks:List Nat} (h:Wd ks)
include h
theorem Wd.mI{p:Nat}(a:p<=ks.length):0<=DD ks p:=by rw[<-gU a];exact h.bal.1.2 _ (uW 0 ks p a)
theorem Wd.nO:DD ks ks.length=0:=by rw[<-gU (Nat.le_refl _),<-yY];exact h.bal.1.1
theorem Wd.qI:BB ks ks.length=0:=by rw[<-jc (Nat.le_refl _),<-yY];exact h.bal.2.1
theorem Wd.cases{i:Nat}(c:i<ks.length):∃s,s<2/\((ks[i]? = some (2 * s)/\iH ks s i (mp ks i))\/(ks[i]? = some (2 * s+1)/\iH ks s (mp ks i) i)):=by
 obtain⟨s,b,a|a⟩:=(h.mate c).Ej
 ·exact⟨s,b,.inl ⟨a.opens,a⟩⟩
 ·exact⟨s,b,.inr ⟨a.closes,a⟩⟩
end
def oc(ks:List Nat)(i:Nat):Nat:=((ks.take i).filter fun k=>k % 2 == 0).length
theorem Cm{ks:List Nat}{i k:Nat}(h:ks[i]? = some k):oc ks (i+1)=oc ks i+if k % 2=0 then 1 else 0:=by unfold oc;rw[pE h,List.filter_append,List.length_append];by_cases a:k % 2=0 <;> simp[a]
theorem Gx(ks:List Nat){a c:Nat}(h:a<=c):oc ks a<=oc ks c:=by
 unfold oc
 have:ks.take c=ks.take a ++ (ks.take c).drop a:=by
  conv=>lhs;rw[<-List.take_append_drop a (ks.take c)]
  rw[List.take_take,Nat.min_eq_left h]
 rw[this,List.filter_append,List.length_append];omega
noncomputable def fD(ks:List Nat)(i:Nat):Nat:=if (ks.getD i 0) % 2=0 then 2 * oc ks i else 2 * oc ks (mp ks i)+1
theorem iQ{ks:List Nat}{i k:Nat}(h:ks[i]? = some k):ks.getD i 0=k:=by rw[List.getD_eq_getElem?_getD,h];rfl
section
variable {ks:List Nat} (h:Wd ks)
include h
theorem Wd.kW{i:Nat}(e:i<ks.length):fD ks (mp ks i)=mt (fD ks i):=by
 obtain⟨s,f,⟨b,c⟩|⟨b,c⟩⟩:=h.cases e
 ·have d:=iQ c.closes;have a:=iQ b;unfold fD;rw[d,a,if_neg (by omega),if_pos (by omega),h.iC e];unfold mt;rw[if_pos (by omega)]
 ·have d:=iQ c.opens;have a:=iQ b;unfold fD;rw[d,a,if_pos (by omega),if_neg (by omega)];unfold mt;rw[if_neg (by omega)];omega
omit h in
theorem Em:∀p,p<=ks.length->(∀k ∈ ks,k<4)->2 * (oc ks p:Int)=p+DD ks p+BB ks p:=by
 intro p j c
 induction p with
 | zero=>simp[oc,Dw,Iy]
 | succ p b =>
  have a:=List.getElem?_eq_getElem (l:=ks) (i:=p) (by omega);have d:=Cm a;have e:=q24 a;have f:=Gs a;have m:=c _ (List.mem_of_getElem? a);have b:=b (by omega);generalize ks[p]=k at *;have g:k=0\/k=1\/k=2\/k=3:=by omega
  rcases g with rfl|rfl|rfl|rfl <;> simp[dd,bb]at d e f <;> omega
theorem Wd.even:2 * oc ks ks.length=ks.length:=by have a:=Em (ks:=ks) ks.length (Nat.le_refl _) h.k4;rw[h.nO,h.qI]at a;omega
theorem Wd.pO{i k:Nat}(a:ks[i]? = some k)(b:k % 2=0):2 * oc ks i+1<ks.length:=by have c:=Cm a;rw[if_pos b]at c;have d:=Gx ks (show i+1<=ks.length from iE a);have:=h.even;omega
theorem Wd.jF{i:Nat}(c:i<ks.length):fD ks i<ks.length:=by
 obtain⟨s,d,⟨a,b⟩|⟨a,b⟩⟩:=h.cases c
 ·have:=h.pO a (by omega);unfold fD;rw[iQ a,if_pos (by omega)];omega
 ·have:=h.pO b.opens (by omega);unfold fD;rw[iQ a,if_neg (by omega)];exact this
omit h in
theorem MH{i j k l:Nat}(c:ks[i]? = some k)(d:k % 2=0)(e:ks[j]? = some l)(f:l % 2=0)(g:oc ks i=oc ks j):i=j:=by
 rcases Nat.lt_trichotomy i j with a|rfl|a
 ·have b:=Cm c;rw[if_pos d]at b;have:=Gx ks (show i+1<=j from a);omega
 ·rfl
 ·have b:=Cm e;rw[if_pos f]at b;have:=Gx ks (show j+1<=i from a);omega
theorem Wd.gX:dU ks.length (fD ks):=by
 refine⟨fun d e=>h.jF e,fun i j f g c=>?_⟩;obtain⟨s,n,m⟩:=h.cases f;obtain⟨t,o,e⟩:=h.cases g;unfold fD at c;rcases m with⟨a,k⟩|⟨a,k⟩ <;> rcases e with⟨b,l⟩|⟨b,l⟩
 ·rw[iQ a,iQ b,if_pos (by omega),if_pos (by omega)]at c;exact MH a (by omega) b (by omega) (by omega)
 ·rw[iQ a,iQ b,if_pos (by omega),if_neg (by omega)]at c;omega
 ·rw[iQ a,iQ b,if_neg (by omega),if_pos (by omega)]at c;omega
 ·rw[iQ a,iQ b,if_neg (by omega),if_neg (by omega)]at c;have:=MH k.opens (by omega) l.opens (by omega) (by omega);rw[<-h.iC f,this,h.iC g]
end
noncomputable def tn(ks:List Nat)(i:Nat):Nat:=((if ks.getD i 0<2 then mp ks i else i)+1) % ks.length
theorem IV{n a c:Nat}(e:a<n)(f:c<n)(b:(a+1) % n=(c+1) % n):a=c:=by
 have d:∀x,x<n->(x+1) % n=if x+1=n then 0 else x+1:=by
  intro x g;split
  ·rename_i h;rw[h,Nat.mod_self]
  ·exact Nat.mod_eq_of_lt (by omega)
 rw[d a e,d c f]at b;split at b <;> split at b <;> omega
section
variable {ks:List Nat} (h:Wd ks)
include h
theorem Wd.kF{i:Nat}(c:i<ks.length):ks.getD (mp ks i) 0<2↔ks.getD i 0<2:=by
 obtain⟨s,d,⟨a,b⟩|⟨a,b⟩⟩:=h.cases c
 ·rw[iQ a,iQ b.closes];omega
 ·rw[iQ a,iQ b.opens];omega
theorem Wd.iU:dU ks.length (tn ks):=by
 have b:∀i,i<ks.length->(if ks.getD i 0<2 then mp ks i else i)<ks.length:=by
  intro i f;split
  ·exact h.gW f
  ·exact f
 refine⟨fun d k=>Nat.mod_lt _ (by omega),fun i j f g e=>?_⟩;have e:=IV (b i f) (b j g) e;by_cases a:ks.getD i 0<2 <;> by_cases c:ks.getD j 0<2
 ·rw[if_pos a,if_pos c]at e;rw[<-h.iC f,e,h.iC g]
 ·rw[if_pos a,if_neg c]at e;have:=(h.kF f).2 a;rw[e]at this;exact absurd this c
 ·rw[if_neg a,if_pos c]at e;have:=(h.kF g).2 c;rw[<-e]at this;exact absurd this a
 ·rw[if_neg a,if_neg c]at e;exact e
end
noncomputable def sD(ks:List Nat)(d:Nat):Nat:=fD ks (tn ks (iq (fD ks) d))
noncomputable def dM(ks:List Nat):List Nat:=(List.range ks.length).map (sD ks)
theorem oL(ks:List Nat):(dM ks).length=ks.length:=by simp[dM]
theorem MI{ks:List Nat}{d:Nat}(a:d<ks.length):sg (dM ks) d=sD ks d:=by simp[sg,dM,a]
theorem dU.congr{n:Nat}{S T:Nat->Nat}(h:dU n S)(c:∀d,d<n->T d=S d):dU n T :=
 ⟨fun d a=>by rw[c d a];exact h.lt d a,fun d e a b f=>h.inj d e a b (by rw[<-c d a,<-c e b];exact f)⟩
section
variable {ks:List Nat} (h:Wd ks)
include h
theorem Wd.CB:dU ks.length (sD ks):=by have a:=h.gX;have c:=h.iU;refine⟨fun d b=>h.jF (c.lt _ (a.eZ b)),fun d e b f g=>?_⟩;have i:=a.inj _ _ (c.lt _ (a.eZ b)) (c.lt _ (a.eZ f)) g;have j:=c.inj _ _ (a.eZ b) (a.eZ f) i;rw[<-a.gD b,j,a.gD f]
theorem Wd.gL:dU (dM ks).length (sg (dM ks)):=by rw[oL];exact h.CB.congr (fun d a=>MI a)
theorem Wd.En{i:Nat}(a:i<ks.length):sD ks (fD ks i)=fD ks (tn ks i):=by unfold sD;rw[h.gX.inv_of a]
theorem Wd.lM:ks.length % 2=0:=by have:=h.even;omega
end
end
section
open Go.RowKit
def xH(ks:List Nat)(j:Nat)(zs:List Int):Prop:=∀i k,i<j->ks[i]? = some k->k % 2=0->zs[i]? = some ((2 * oc ks i:Nat):Int)/\zs[mp ks i]? = some ((2 * oc ks i+1:Nat):Int)
theorem xH.skip{ks:List Nat}{j k:Nat}{zs:List Int}(c:ks[j]? = some k)(e:k % 2=1)(h:xH ks j zs):xH ks (j+1) zs:=by
 intro i x f a d;by_cases b:i=j
 ·subst b;rw[c]at a;simp only [Option.some.injEq]at a;omega
 ·exact h i x (by omega) a d
theorem xH.step{ks:List Nat}{j k:Nat}{zs:List Int}(b:Wd ks)(B:zs.length=ks.length)(m:ks[j]? = some k)(t:k % 2=0)(h:xH ks j zs):xH ks (j+1) ((zs.set j ((2 * oc ks j:Nat):Int)).set (mp ks j) ((2 * oc ks j+1:Nat):Int)):=by
 have n:=iE m;have C:=b.gW n
 have o:mp ks j≠j:=by
  obtain⟨s,u,⟨_,g⟩|⟨_,g⟩⟩:=b.cases n
  ·have:=g.lt;omega
  ·have:=g.lt;omega
 have a:∀i x,ks[i]? = some x->x % 2=0->i≠mp ks j:=by
  intro i x l c e;subst e;obtain⟨s,u,⟨p,g⟩|⟨p,g⟩⟩:=b.cases n
  ·rw[g.closes]at l;simp only [Option.some.injEq]at l;omega
  ·rw[p]at m;simp only [Option.some.injEq]at m;omega
 intro i x D l c;have d:=iE l;have v:=b.gW d;by_cases f:i=j
 ·subst f;constructor
  ·rw[List.getElem?_set,if_neg o,List.getElem?_set,if_pos rfl,if_pos (by omega)]
  ·rw[List.getElem?_set,if_pos rfl,if_pos (by simp;omega)]
 ·obtain⟨w,y⟩:=h i x (by omega) l c;have q:=a i x l c;have z:mp ks i≠j:=fun e=>by have:=a j k m t;have r:=b.iC d;rw[e]at r;exact q r.symm
  have A:mp ks i≠mp ks j:=fun e=>f (by rw[<-b.iC d,e,b.iC n]);constructor
  ·rw[List.getElem?_set,if_neg (fun e=>q e.symm),List.getElem?_set,if_neg (fun e=>f e.symm)];exact w
  ·rw[List.getElem?_set,if_neg (fun e=>A e.symm),List.getElem?_set,if_neg (fun e=>z e.symm)];exact y
theorem xH.all{ks:List Nat}{zs:List Int}(c:Wd ks)(f:zs.length=ks.length)(h:xH ks ks.length zs):zs=dD ((List.range ks.length).map (fD ks)):=by
 apply List.ext_getElem?;intro e;rcases Nat.lt_or_ge e ks.length with a|a
 ·have hr:(dD ((List.range ks.length).map (fD ks)))[e]? = some ((fD ks e:Nat):Int):=by simp[dD,a]
  rw[hr];obtain⟨s,g,⟨b,d⟩|⟨b,d⟩⟩:=c.cases a
  ·rw[(h e _ a b (by omega)).1];unfold fD;rw[iQ b,if_pos (by omega)]
  ·have:=(h (mp ks e) _ (c.gW a) d.opens (by omega)).2;rw[c.iC a]at this;rw[this];unfold fD;rw[iQ b,if_neg (by omega)]
 ·rw[List.getElem?_eq_none (by omega),List.getElem?_eq_none (by simp[dD];exact a)]
theorem Sv(sv:Value)(ks:List Nat)(w:World)(V:Sl .i64 w sv (dD ks))(T:Wd ks)(hl:ks.length<=1000000) :
  Calls Tryz.prog 127 #[sv] w fun e w'=>∃g,e=.returned (.slice (some ⟨g,0,none⟩) ks.length ks.length)/\dV w g ks.length (fun zs=>zs=dD ((List.range ks.length).map (fD ks))) w':=by
 have X:Hid (∀W,Keeps (fun _=>False) w W->Sl .i64 W sv (dD ks)):=dh (fun W Y=>V.keeps Y (fun _ _ h=>h));obtain⟨a,cap,rfl,Z,ak⟩:=V.form;rw[q01]at Z X ⊢;have k0:Keeps (fun _=>False) w (w.alloc (.cells (madeCells #[.int .i64 0] ks.length) 3)):=(Keeps.refl _ w).alloc _;have h0:=dV.made w ks.length (xH ks 0) (fun i k D=>by omega) (by omega);have hM:=RA (.slice a ks.length cap) ks _ (X.out _ k0) T.k4 (by omega) T.bal;have E:=dh T;have F:=dh (dn h0 k0);obtain⟨ii,D,G,H,I⟩:=info_parts om;have J:=fun w=>run_make (P:=Tryz.prog) w 25 3 ii _ Tryz.underlying25 D G .i64 .i64 (ks.length:Int) (ks.length:Int) (by omega) (Int.le_refl _) (by rw[I];omega) (by omega);simp only [H,Int.toNat_natCast,Nat.mul_one]at J;clear V T D G H I h0 k0;go_enter Tryz.func127,Tryz.ntmps127;go_wp2_with fail;refine hM.mono ?_;rintro e w1 ⟨gm,rfl,ms,A,al,K,L⟩;clear hM J;obtain⟨g,U⟩:∃g,g=w.heap.size:=⟨_,rfl⟩
 have M:=F.out.1.keeps L;have am:g<gm:=by have:=(A.lt gm rfl).1;simp at this;omega
 have N:∀W,Keeps (fun q=>q=g) w1 W->∀i,i<ks.length->W.cell? ⟨gm,i,none⟩=some (.int .i64 (mp ks i:Nat)):=by intro W Y i D;have ho:=A.keeps Y (fun q hq e=>by simp only [Value.ownBlock,Option.some.injEq]at hq;omega);obtain⟨m,aa,ab⟩:=K i D;rw[E.out.xS D ab];exact(ho.cell aa).1
 have HM:=dh N;have v:=Keeps.refl (fun q=>q=g) w1;rw[<-U]at M;rw[<-U];have an:=dh U;clear A K L U N F;go_wp2_with fail;go_loopg [5,15] ks.length (fun m c i wr=>∃j:Nat,j<=ks.length/\m=ks.length - j/\i=.int .i64 j/\c=.int .i64 (2 * oc ks j:Nat)/\dV w g ks.length (xH ks j) wr/\Keeps (fun q=>q=g) w1 wr)
 case atStart=>exact⟨0,Nat.zero_le _,rfl,rfl,by simp[oc],M,v⟩
 case round =>
  clear M v;obtain⟨j,hj,O,rfl,rfl,r,f⟩:=hrel;have HG:=dh O;clear O;by_cases s:j<ks.length
  ·have b:=List.getElem?_eq_getElem s;have l:=Cm b;have aj:oc ks j<=1000000:=by have:=List.length_filter_le (fun k=>k % 2 == 0) (ks.take j);have:(ks.take j).length<=j:=List.length_take_le _ _;unfold oc;omega
   obtain⟨_,_,_,_,B⟩:=id r;obtain⟨ag,off,rfl,ad⟩:=(X.out wr B).cellAt (jI b);have ao:=E.out.k4 _ (List.mem_of_getElem? b);have ae:=HM.out wr f j s;have z:=E.out.gW s;generalize ks[j]=x at *;by_cases n:x % 2=0
   ·rw[if_pos n]at l;obtain⟨z1,_,ap,aq⟩:=r.cell j s;obtain⟨z2,_,ar,au⟩:=r.cell (mp ks j) z;have C:=r.set (Q:=fun zs=>∃t,t.length=ks.length/\xH ks j t/\zs=t.set j ((2 * oc ks j:Nat):Int)) j ((2 * oc ks j:Nat):Int) (fun zs u h=>⟨zs,u,h,rfl⟩);have R:=C.set (Q:=xH ks (j+1)) (mp ks j) ((2 * oc ks j+1:Nat):Int) (fun zs u h=>by obtain⟨t,M,h2,h3⟩:=h;rw[h3];exact h2.step E.out M b n);obtain⟨z3,_,af,ah⟩:=C.cell (mp ks j) z;have S:=(f.setCell (p:=⟨g,j,none⟩) (.inl rfl) (.int .i64 ((2 * oc ks j:Nat):Int))).setCell (p:=⟨g,mp ks j,none⟩) (.inl rfl) (.int .i64 ((2 * oc ks j+1:Nat):Int));have o:=dh (dn R (dn S l));have ai:(((x:Nat):Int) % 2 == 0)=true:=by simp;omega
    have e1:((2 * oc ks j+1:Nat):Int)=((2 * oc ks j:Nat):Int)+1:=by omega
    rw[e1]at o;have e2:((2 * oc ks j:Nat):Int)<=2000000:=by omega
    have e3:(0:Int)<=((2 * oc ks j:Nat):Int):=by omega
    clear r C R S l f B e1 b n;obtain⟨c,d⟩:∃c:Nat,c=2 * oc ks j:=⟨_,rfl⟩
    have HC:=dh d;rw[<-d]at o af ah e2 e3;rw[<-d];clear d;generalize mp ks j=y at *;go_wp2;go_roundg (ks.length - (j+1))
    case measure=>rw[HG.out];omega
    case rel=>exact⟨j+1,by omega,rfl,by go_num,by rw[o.out.2.2,HC.out];go_num,o.out.1,o.out.2.1⟩
   ·rw[if_neg n]at l;have o:=dh (dn (r.mono (fun zs _ h=>h.skip b (by omega))) (dn f l));have ai:(((x:Nat):Int) % 2 == 0)=false:=by simp;omega
    clear r l f B ae b n;generalize d:oc ks j=c at *;have HC:=dh d;clear d;go_wp2;go_roundg (ks.length - (j+1))
    case measure=>rw[HG.out];omega
    case rel=>exact⟨j+1,by omega,rfl,by go_num,by rw[o.out.2.2,Nat.add_zero],o.out.1,o.out.2.1⟩
  ·obtain rfl:j=ks.length:=by omega
   have o:=dh (r.mono (fun zs u h=>h.all E.out u));clear r f;go_wp2;go_ret;exact⟨g,rfl,o.out⟩
end
section
def stk(ks:List Nat):Nat->List Nat
 | 0=>[]
 | j+1=>if ks.getD j 9=0 then stk ks j ++ [j]else if ks.getD j 9=1 then (stk ks j).dropLast else stk ks j
def vo(ks:List Nat)(o:Nat):Nat:=eO (ks.take o) 0+1
theorem A9{ks:List Nat}{j k:Nat}(h:ks[j]? = some k):ks.getD j 9=k:=by rw[List.getD_eq_getElem?_getD,h];rfl
theorem nH{l:List Nat}{t x:Nat}(h:l.dropLast[t]? = some x):l[t]? = some x/\t+1<l.length:=by
 have b:=iE h;rw[List.length_dropLast]at b;rw[List.getElem?_dropLast]at h;by_cases a:t<l.length - 1
 ·rw[if_pos a]at h;exact⟨h,by omega⟩
 ·rw[if_neg a]at h;cases h
section
variable {ks:List Nat} (h:Wd ks)
include h
theorem Wd.nP:∀j,j<=ks.length->((stk ks j).length:Int)=DD ks j/\∀(t o:Nat),(stk ks j)[t]? = some o->o<j/\ks[o]? = some 0/\DD ks o=(t:Int)/\∀p,o<p->p<=j->(t:Int)<DD ks p:=by
 intro j
 induction j with
 | zero=>intro _;exact⟨by simp[stk,Dw],fun t o a=>by simp[stk]at a⟩
 | succ j y =>
  intro z;obtain⟨A,n⟩:=y (by omega);have q:=List.getElem?_eq_getElem (l:=ks) (i:=j) (by omega);have r:=q24 q;have B:=A9 q;have w:=h.mI z;generalize ks[j]=k at *;unfold stk;rw[B];by_cases s:k=0
  ·subst s;simp only [dd,if_true]at r;rw[if_pos rfl];refine⟨by rw[List.length_append,List.length_singleton];omega,fun t o a=>?_⟩;rcases zF a with a|⟨rfl,rfl⟩
   ·obtain⟨x,d,e,f⟩:=n t o a;have:=iE a;refine⟨by omega,d,e,fun p b c=>?_⟩;rcases Nat.lt_or_ge p (j+1)with g|m
    ·exact f p b (by omega)
    ·obtain rfl:p=j+1:=by omega
     omega
   ·refine⟨by omega,q,A.symm,fun p b c=>?_⟩;obtain rfl:p=o+1:=by omega
    omega
  ·rw[if_neg s];by_cases u:k=1
   ·subst u;simp[dd]at r;rw[if_pos rfl];have C:0<(stk ks j).length:=by omega
    refine⟨by rw[List.length_dropLast];omega,fun t o a=>?_⟩;obtain⟨a,D⟩:=nH a;obtain⟨x,d,e,f⟩:=n t o a;refine⟨by omega,d,e,fun p b c=>?_⟩;rcases Nat.lt_or_ge p (j+1)with g|m
    ·exact f p b (by omega)
    ·obtain rfl:p=j+1:=by omega
     omega
   ·rw[if_neg u];have v:dd k=0:=by simp[dd,s,u]
    rw[v]at r;refine⟨by omega,fun t o a=>?_⟩;obtain⟨x,d,e,f⟩:=n t o a;have:=iE a;refine⟨by omega,d,e,fun p b c=>?_⟩;rcases Nat.lt_or_ge p (j+1)with g|m
    ·exact f p b (by omega)
    ·obtain rfl:p=j+1:=by omega
     omega
theorem Wd.tH{j:Nat}(d:j<=ks.length)(e:0<DD ks j):∃o,(stk ks j).getLast? = some o/\OwnAt ks j o:=by
 obtain⟨n,f⟩:=h.nP j d;have q:0<(stk ks j).length:=by omega
 have c:=List.getElem?_eq_getElem (l:=stk ks j) (i:=(stk ks j).length - 1) (by omega);obtain⟨g,k,r,m⟩:=f _ _ c;refine⟨_,by rw[List.getLast?_eq_getElem?];exact c,g,k,by omega,fun p a b=>by have:=m p a b;omega⟩
end
def vx(ks:List Nat)(j:Nat):Nat:=match (stk ks j).getLast? with
 | some o=>vo ks o
 | none=>0
theorem IW{ks:List Nat}{i:Nat}(h:ks[i]? = some 0):eO (ks.take (i+1)) 0=eO (ks.take i) 0+1:=by rw[xC h 0,if_pos rfl]
theorem MJ{ks:List Nat}{o q:Nat}(b:ks[o]? = some 0)(c:ks[q]? = some 0)(d:vo ks o=vo ks q):o=q:=by
 unfold vo at d;rcases Nat.lt_trichotomy o q with a|rfl|a
 ·have e:=IW b;have f:=Iu ks 0 (show o+1<=q from a);omega
 ·rfl
 ·have e:=IW c;have f:=Iu ks 0 (show q+1<=o from a);omega
section
variable {ks:List Nat} (h:Wd ks)
include h
theorem Wd.jV{j o:Nat}(c:j<=ks.length)(a:OwnAt ks j o):vx ks j=vo ks o:=by have e:=h.mI (p:=o) (by have:=a.lt;omega);obtain⟨q,d,b⟩:=h.tH c (by have:=a.hit;omega);unfold vx;rw[d,a.unique b]
theorem Wd.j5{j:Nat}(a:j<=ks.length)(b:DD ks j=0):vx ks j=0:=by have:=(h.nP j a).1;have:stk ks j=[]:=List.eq_nil_of_length_eq_zero (by omega);unfold vx;rw[this];rfl
theorem Wd.pQ{j:Nat}(a:j<=ks.length):DD ks j=0\/∃o,OwnAt ks j o:=by
 have:=h.mI a;by_cases b:DD ks j=0
 ·exact .inl b
 ·obtain⟨o,_,c⟩:=h.tH a (by omega);exact .inr ⟨o,c⟩
theorem Wd.rV{i j:Nat}(a:i<=ks.length)(b:j<=ks.length):vx ks i=vx ks j↔(DD ks i=0/\DD ks j=0)\/∃o,OwnAt ks i o/\OwnAt ks j o:=by
 constructor
 ·intro c;rcases h.pQ a with d|⟨o,f⟩ <;> rcases h.pQ b with e|⟨q,g⟩
  ·exact .inl ⟨d,e⟩
  ·rw[h.j5 a d,h.jV b g]at c;unfold vo at c;omega
  ·rw[h.jV a f,h.j5 b e]at c;unfold vo at c;omega
  ·rw[h.jV a f,h.jV b g]at c;have:=MJ f.opens g.opens c;subst this;exact .inr ⟨o,f,g⟩
 ·rintro (⟨d,e⟩|⟨o,d,e⟩)
  ·rw[h.j5 a d,h.j5 b e]
  ·rw[h.jV a d,h.jV b e]
theorem Wd.pR{i j:Nat}(e:i<=j)(f:j<=ks.length)(m:DD ks i=DD ks j)(b:∀p,i<=p->p<=j->DD ks i<=DD ks p):vx ks i=vx ks j:=by
 rw[h.rV (by omega) f];rcases h.pQ (show i<=ks.length by omega)with g|⟨o,a⟩
 ·exact .inl ⟨g,by omega⟩
 ·refine .inr ⟨o,a,by have:=a.lt;omega,a.opens,by have:=a.hit;omega,fun p c d=>?_⟩;rcases Nat.lt_or_ge i p with k|l
  ·have:=b p (by omega) d;have:=a.hit;omega
  ·exact a.above p c (by omega)
theorem Wd.zN{i p:Nat}(a:i<p)(f:p<=ks.length)(b:∀q,i<q->q<=p->DD ks i<DD ks q):vx ks p≠vx ks i:=by
 intro c;rw[h.rV f (by omega)]at c;have g:=b p a (Nat.le_refl _);rcases c with⟨d,e⟩|⟨o,d,e⟩
 ·omega
 ·have:=d.hit;have:=e.hit;omega
theorem Wd.zO{i o p:Nat}(a:OwnAt ks i o)(b:ks[i]? = some 1)(e:i<p)(f:p<=ks.length):vx ks p≠vx ks i:=by
 intro c;have g:=iE b;rw[h.rV f (by omega)]at c;have j:=q24 b;simp[dd]at j;have:=a.hit;have:=h.mI (p:=o) (by have:=a.lt;omega);rcases c with⟨_,d⟩|⟨q,k,d⟩
 ·omega
 ·have:=a.unique d;subst this;have:=k.above (i+1) (by have:=a.lt;omega) (by omega);omega
theorem Wd.o8{i:Nat}(G:i<ks.length):tn ks i<ks.length/\vx ks (tn ks i)=vx ks i /\
  ((i<tn ks i/\∀p,i<p->p<tn ks i->vx ks p≠vx ks i)\/((∀p,i<p->p<ks.length->vx ks p≠vx ks i)/\tn ks i<=i/\∀p,p<tn ks i->vx ks p≠vx ks i)):=by
 have o:=h.nO
 have k:∀m,m+1=ks.length->i<=m->DD ks i=0->(∀p,i<p->p<ks.length->vx ks p≠vx ks i)->tn ks i=(m+1) % ks.length ->
   tn ks i<ks.length/\vx ks (tn ks i)=vx ks i/\((i<tn ks i/\∀p,i<p->p<tn ks i->vx ks p≠vx ks i)\/((∀p,i<p->p<ks.length->vx ks p≠vx ks i)/\tn ks i<=i/\∀p,p<tn ks i->vx ks p≠vx ks i)):=by
  intro m E H v r j;rw[E,Nat.mod_self]at j;rw[j];refine⟨by omega,?_,.inr ⟨r,by omega,fun p e=>by omega⟩⟩;rw[h.j5 (by omega) (Dw _),h.j5 (by omega) v]
 obtain⟨s,J,w⟩:=h.cases G;by_cases x:s=0
 ·subst x;rcases w with⟨d,e⟩|⟨d,e⟩
  ·
   obtain⟨y,t⟩:=e.DD;have E:=e.le;have j:tn ks i=(mp ks i+1) % ks.length:=by unfold tn;rw[iQ d,if_pos (by omega)]
   have f:∀p,i<p->p<=mp ks i->vx ks p≠vx ks i:=fun p a b=>h.zN a (by omega) (fun q z I=>t q z (by omega));rcases Nat.lt_or_ge (mp ks i+1) ks.length with c|A
   ·rw[j,Nat.mod_eq_of_lt c];refine⟨c,?_,.inl ⟨by have:=e.lt;omega,fun p a b=>f p a (by omega)⟩⟩;refine(h.pR (by have:=e.lt;omega) (by omega) y.symm (fun p a b=>?_)).symm;rcases Nat.lt_or_ge i p with u|l
    ·rcases Nat.lt_or_ge p (mp ks i+1)with n|n
     ·have:=t p u (by omega);omega
     ·obtain rfl:p=mp ks i+1:=by omega
      omega
    ·obtain rfl:p=i:=by omega
     exact Int.le_refl _
   ·have g:mp ks i+1=ks.length:=by omega
    refine k (mp ks i) g (by have:=e.lt;omega) ?_ (fun p a b=>f p a (by omega)) j;rw[g]at y;omega
  ·
   obtain⟨y,t⟩:=e.DD;have c:=e.lt;have j:tn ks i=mp ks i+1:=by unfold tn;rw[iQ d,if_pos (by omega),Nat.mod_eq_of_lt (by omega)]
   have B:=q24 d;simp[dd]at B;have C:=q24 e.opens;simp[dd]at C;have D:OwnAt ks i (mp ks i):=⟨c,e.opens,by omega,fun p a b=>t p a b⟩
   rw[j];refine⟨by omega,?_,.inr ⟨fun p a b=>h.zO D (by simpa using d) a (by omega),by omega,fun p b F=>?_⟩⟩
   ·refine h.pR (by omega) (by omega) (by omega) (fun p a b=>?_);have:=t p (by omega) b;omega
   ·rw[h.rV (by omega) (by omega)]at F;rcases F with⟨_,n⟩|⟨q,x,n⟩
    ·have:=D.hit;have:=h.mI (p:=mp ks i) (by omega);omega
    ·have:=n.unique D;subst this;have:=x.lt;omega
 ·
  have l:¬ks.getD i 0<2:=by rcases w with⟨d,_⟩|⟨d,_⟩ <;> rw[iQ d] <;> omega
  have j:tn ks i=(i+1) % ks.length:=by unfold tn;rw[if_neg l]
  have v:DD ks (i+1)=DD ks i:=by
   obtain rfl:s=1:=by omega
   rcases w with⟨d,_⟩|⟨d,_⟩
   ·have:=q24 d;rw[this];simp[dd]
   ·have:=q24 d;rw[this];simp[dd]
  rcases Nat.lt_or_ge (i+1) ks.length with c|A
  ·rw[j,Nat.mod_eq_of_lt c];refine⟨c,(h.pR (by omega) (by omega) v.symm (fun p a b=>?_)).symm,.inl ⟨by omega,fun p a b=>by omega⟩⟩;rcases Nat.lt_or_ge i p with n|n
   ·obtain rfl:p=i+1:=by omega
    omega
   ·obtain rfl:p=i:=by omega
    exact Int.le_refl _
  ·have g:i+1=ks.length:=by omega
   refine k i g (by omega) ?_ (fun p a b=>by omega) j;rw[g,o]at v;omega
end
end
section
def rW(ks:List Nat)(j v:Nat):List Nat:=(List.range j).filter fun p=>vx ks p == v
def pl(ks:List Nat)(v:Nat):List Nat:=rW ks ks.length v
theorem Sz(ks:List Nat)(j v:Nat):rW ks (j+1) v=rW ks j v ++ if vx ks j=v then [j]else []:=by unfold rW;rw[List.range_succ,List.filter_append];congr 1;by_cases a:vx ks j=v <;> simp[a]
theorem y8{ks:List Nat}{v p:Nat}:p ∈ pl ks v↔p<ks.length/\vx ks p=v:=by unfold pl rW;simp[List.mem_filter]
theorem SA(ks:List Nat)(v:Nat):(pl ks v).Pairwise (·<·):=List.Pairwise.filter _ (List.pairwise_lt_range)
theorem tJ{ks:List Nat}{v i j a c:Nat}(b:(pl ks v)[i]? = some a)(d:(pl ks v)[j]? = some c):i<j↔a<c:=by
 have e:=iE b;have f:=iE d;rw[List.getElem?_eq_getElem e]at b;rw[List.getElem?_eq_getElem f]at d;simp only [Option.some.injEq]at b d;have k:=List.pairwise_iff_getElem.1 (SA ks v);subst b;subst d;constructor
 ·intro h;exact k i j e f h
 ·intro h;rcases Nat.lt_trichotomy i j with g|rfl|g
  ·exact g
  ·omega
  ·have:=k j i f e g;omega
section
variable {ks:List Nat} (h:Wd ks)
include h
theorem Wd.rX{v i p:Nat}(g:(pl ks v)[i]? = some p):(i+1<(pl ks v).length->(pl ks v)[i+1]? = some (tn ks p))/\(¬i+1<(pl ks v).length->(pl ks v)[0]? = some (tn ks p)):=by
 obtain⟨m,b⟩:=y8.1 (List.mem_of_getElem? g);obtain⟨y,n,u⟩:=h.o8 m;have o:tn ks p ∈ pl ks v:=y8.2 ⟨y,n.trans b⟩;obtain⟨k,z,r⟩:=List.mem_iff_getElem.1 o;have c:(pl ks v)[k]? = some (tn ks p):=by rw[List.getElem?_eq_getElem z,r]
 have A:=iE g;constructor
 ·intro s;have e:=List.getElem?_eq_getElem s;generalize (pl ks v)[i+1]=q at *;obtain⟨j,d⟩:=y8.1 (List.mem_of_getElem? e);have w:=(tJ g e).1 (by omega);rcases u with⟨f,t⟩|⟨f,_⟩
  ·have x:=(tJ g c).2 f;rw[e];congr 1;rcases Nat.lt_trichotomy q (tn ks p)with a|a|a
   ·exact absurd (d.trans b.symm) (t q w a)
   ·exact a
   ·have:=(tJ c e).2 a;omega
  ·exact absurd (d.trans b.symm) (f q w j)
 ·intro B;have e:=List.getElem?_eq_getElem (l:=pl ks v) (i:=0) (by omega);generalize (pl ks v)[0]=q at *;obtain⟨j,d⟩:=y8.1 (List.mem_of_getElem? e);rcases u with⟨f,t⟩|⟨f,t,x⟩
  ·have:=(tJ g c).2 f;omega
  ·rw[e];congr 1;rcases Nat.lt_trichotomy q (tn ks p)with a|a|a
   ·exact absurd (d.trans b.symm) (x q a)
   ·exact a
   ·have:=(tJ c e).2 a;omega
theorem Wd.tK{j p:Nat}(d:p<=j)(c:j<=ks.length):vx ks p<eO (ks.take j) 0+1:=by
 rcases h.pQ (show p<=ks.length by omega)with b|⟨o,a⟩
 ·rw[h.j5 (by omega) b];omega
 ·rw[h.jV (by omega) a];have b:=IW a.opens;have e:=Iu ks 0 (show o+1<=j by have:=a.lt;omega);unfold vo;omega
omit h in
theorem SB(j:Nat):((0 :: (stk ks j).map (vo ks)).getLast?)=some (vx ks j):=by unfold vx;rw[List.getLast?_cons,List.getLast?_map];cases hl:(stk ks j).getLast? <;> simp
end
noncomputable def uZ(ks:List Nat)(j:Nat):List (List Nat):=(List.range (eO (ks.take j) 0+1)).map fun v=>(rW ks j v).map (fD ks)
theorem y9(ks:List Nat)(j:Nat):(uZ ks j).length=eO (ks.take j) 0+1:=by simp[uZ]
theorem Eo{ks:List Nat}{j v:Nat}(a:v<eO (ks.take j) 0+1):(uZ ks j)[v]? = some ((rW ks j v).map (fD ks)):=by simp[uZ,a]
section
variable {ks:List Nat} (h:Wd ks)
include h
theorem Wd.xU{j k:Nat}(g:ks[j]? = some k):uZ ks (j+1)=(uZ ks j).set (vx ks j) ((rW ks j (vx ks j)).map (fD ks) ++ [fD ks j]) ++ if k=0 then [[]]else []:=by
 have o:=iE g;have q:=h.tK (Nat.le_refl j) (by omega);have i:eO (ks.take (j+1)) 0=eO (ks.take j) 0+if k=0 then 1 else 0:=xC g 0
 apply List.ext_getElem?;intro v;have d:∀v,v=eO (ks.take j) 0+1->rW ks (j+1) v=[]:=by intro v m;apply List.filter_eq_nil_iff.2;intro p l;have l:=List.mem_range.1 l;have:=h.tK (show p<=j by omega) (show j<=ks.length by omega);simp;omega
 rcases Nat.lt_or_ge v (eO (ks.take j) 0+1)with b|f
 ·rw[List.getElem?_append_left (by simp[y9];exact b),Eo (by omega),Sz];rw[List.getElem?_set];by_cases c:vx ks j=v
  ·subst c;rw[if_pos rfl,if_pos rfl,if_pos (by rw[y9];exact b)];simp
  ·rw[if_neg c,if_neg c,Eo b];simp
 ·rw[List.getElem?_append_right (by simp[y9];exact f)];simp only [List.length_set,y9];by_cases a:k=0
  ·rw[if_pos a]at i;rw[if_pos a];rcases Nat.lt_or_ge v (eO (ks.take j) 0+2)with n|n
   ·have e:v=eO (ks.take j) 0+1:=by omega
    rw[Eo (by omega),d v e,e,Nat.sub_self];rfl
   ·rw[List.getElem?_eq_none (by rw[y9];omega),List.getElem?_eq_none (by simp;omega)]
  ·rw[if_neg a]at i;rw[if_neg a,List.getElem?_eq_none (by rw[y9];omega)];simp
end
end
