import Derived.Test.YtalhcfjcbbkpgaaGreatZp0o
set_option maxRecDepth 100000
set_option maxHeartbeats 4000000
namespace Go.Proofs.YtalhcfjcbbkpgaaGreat
section
open Go.RowKit
def yQ(P:Nat->Nat)(t:List Nat)(j:Nat)(zs:List Int):Prop:=∀i,i<j->zs[P i]? = some ((sg t (P i):Nat):Int)
theorem yQ.step{n:Nat}{P:Nat->Nat}{t:List Nat}{j:Nat}{zs:List Int}(a:dO n P)(b:j<n)(c:zs.length=n)(h:yQ P t j zs):yQ P t (j+1) (zs.set (P j) ((sg t (P j):Nat):Int)):=fun i d=>by
 rw[List.getElem?_set];by_cases e:P j=P i
 ·rw[if_pos e,if_pos (by rw[c];exact a.lt _ b),e]
 ·rw[if_neg e];have:i≠j:=fun x=>e (by rw[x]);exact h i (by omega)
theorem yQ.done{n:Nat}{P:Nat->Nat}{t:List Nat}{zs:List Int}(b:dO n P)(d:t.length=n)(e:zs.length=n)(h:yQ P t n zs):zs=dD t:=by
 apply List.ext_getElem?;intro i;rcases Nat.lt_or_ge i n with a|a
 ·have c:=h (gq P i) (b.eF a);rw[b.fD a]at c;rw[c,uf (by omega)]
 ·rw[List.getElem?_eq_none (by omega),List.getElem?_eq_none (by rw[q01];omega)]
theorem UG{w:World}{b C:Nat}{s ps t:List Nat}{r l:Nat}{R:Nat->Prop}{sv:Value}(h:MapAt w b s r l R)(f:PermAt w C sv ps)(hn:0<s.length)(Y:ps.length=s.length)(hP:dO s.length (sg ps))
  (J:∀d,d<s.length->sg ps (mt d)=mt (sg ps d))(o:t.length=s.length)(ht:∀d,d<s.length->sg t (sg ps d)=sg ps (sg s d))(hT:dO s.length (sg t)) :
  Calls Tryz.prog 78 #[.pointer (some ⟨b,0,none⟩),.pointer (some ⟨C,0,none⟩)] w (jC w t ((sg ps r:Nat):Int) l):=by
 have hr:r<s.length:=by rcases h.rt with⟨S,_⟩|⟨_,h1⟩ <;> omega
 have K:=h.le;have aj:=h.ln;have F:=h.even;have HH:Hid (∀W,Keeps (fun _=>False) w W->MapAt W b s r l R/\PermAt W C sv ps):=dh (fun W T=>⟨h.keeps T (fun h=>h) (fun _ _ h=>h),f.keeps T (fun h=>h) (fun _ _ h=>h)⟩);have hS:∀d,d<s.length->sg s d<s.length:=fun d hd=>h.dR.lt d hd;have E:=dh (dn ht (dn hT (dn hP (dn J hS))));obtain⟨n,p⟩:∃n,n=s.length:=⟨_,rfl⟩
 have U:=uS h;have Z:=AA C sv ps w f;rw[Y,<-p]at Z;rw[<-p]at U;have B:=dh p;rw[<-p]at K hr hn F;clear h f ht hT hP J hS p;obtain⟨i,hi,L,q,A⟩:=info_parts nX;have M:=fun w=>run_make (P:=Tryz.prog) w 25 3 i _ Tryz.underlying25 hi L .i64 .i64 (n:Int) (n:Int) (by omega) (Int.le_refl _) (by rw[A];omega) (by omega);simp only [q,Int.toNat_natCast,Nat.mul_one]at M;have S:=dV.made w n (yQ (sg ps) t 0) (fun i hi=>by omega) (by omega);clear hi L q A;go_enter Tryz.func78,Tryz.ntmps78;go_wp2_with fail;refine Z.mono ?_;rintro e w' ⟨rfl,rfl⟩;go_wp2_with fail;refine U.mono ?_;rintro e w' ⟨rfl,rfl⟩;go_wp2_with fail;refine U.mono ?_;rintro e w' ⟨rfl,rfl⟩;clear U Z;go_wp2_with fail;clear M;obtain⟨g,V⟩:∃g,g=w.heap.size:=⟨_,rfl⟩
 rw[<-V]at S;rw[<-V];generalize World.alloc _ _=wM at *;have ak:=dh V;clear V;go_loopg [26] n (fun m i wr=>∃j:Nat,j<=n/\m=n - j/\i=.int .i64 j/\dV w g n (yQ (sg ps) t j) wr)
 case atStart=>exact⟨0,Nat.zero_le _,rfl,rfl,S⟩
 case round =>
  clear S;obtain⟨j,hj,N,rfl,H⟩:=hrel;have HG:=dh N;clear N;by_cases aa:j<n
  ·have a:j<s.length:=by rw[<-B.out];exact aa
   obtain⟨I,f⟩:=HH.out wr (by obtain⟨_,_,_,_,T⟩:=id H;exact T);have ab:mt j<s.length:=dQ (by rw[<-B.out];exact F) a;have hx:=Ey j (by omega);obtain⟨P,c⟩:∃P,P=sg ps j:=⟨_,rfl⟩
   have ad:P<n:=by rw[c,B.out];exact E.out.2.2.1.lt _ a
   have al:=Ey P (by omega);have c1:=AB C sv ps (mt j) wr f (by omega);have X:=AB C sv ps j wr f (by omega);have c3:=vW I j a;have ae:=E.out.2.2.2.2 j a;have c4:=AB C sv ps (sg s j) wr f (by omega);rw[E.out.2.2.2.1 j a,<-c]at c1;rw[<-c]at X;rw[<-E.out.1 j a,<-c]at c4;obtain⟨z,_,hc,hf⟩:=H.cell P ad;have HS:=dh (H.set (Q:=yQ (sg ps) t (j+1)) P ((sg t P:Nat):Int) (fun zs af h=>by rw[c];exact yQ.step E.out.2.2.1 a (by rw[af,B.out]) h));clear H I f c ab ae;generalize sg t P=x at *;generalize sg s j=y at *;generalize mt j=u at *;generalize mt P=v at *;go_wp2_with fail;refine c1.mono ?_;rintro e w' ⟨rfl,rfl⟩;go_wp2_with fail;refine X.mono ?_;rintro e w' ⟨rfl,rfl⟩;go_wp2_with fail;refine X.mono ?_;rintro e w' ⟨rfl,rfl⟩;go_wp2_with fail;refine c3.mono ?_;rintro e w' ⟨rfl,rfl⟩;go_wp2_with fail;refine c4.mono ?_;rintro e w' ⟨rfl,rfl⟩;clear c1 X c3 c4;go_wp2;go_roundg (n - (j+1))
   case measure=>rw[HG.out];omega
   case rel=>exact⟨j+1,by omega,rfl,by go_num,HS.out⟩
  ·obtain rfl:j=n:=by omega
   obtain⟨zs,q,A,O,G⟩:=id H;have ag:=yQ.done (n:=j) (by rw[B.out];exact E.out.2.2.1) (by rw[B.out];exact o) q A;subst ag;obtain⟨I,f⟩:=HH.out wr G;have cR:=Dl I;have cL:=Jd I;have cP:=AB C sv ps r wr f (by have:=B.out;omega);have ah:sg ps r<t.length:=by rw[o];exact E.out.2.2.1.lt _ (by have:=B.out;omega)
   have cN:=MS (.slice (some ⟨g,0,none⟩) j j) t (sg ps r) l wr O.sl (by rw[o];exact E.out.2.1) (by rw[o,<-B.out];exact F) ah (by rw[o,<-B.out];exact K) (by omega);have HK:=dh G;clear H q A O G I f;generalize sg ps r=x at *;go_wp2_with fail;refine cR.mono ?_;rintro e w' ⟨rfl,rfl⟩;go_wp2_with fail;refine cP.mono ?_;rintro e w' ⟨rfl,rfl⟩;go_wp2_with fail;refine cL.mono ?_;rintro e w' ⟨rfl,rfl⟩;clear cR cP cL;go_wp2_with fail;refine cN.mono ?_;rintro e w3 J;have ai:=J.base HK.out;obtain⟨b2,rfl,h2⟩:=ai;have H2:=dh h2;clear cN J h2;go_wp2;go_ret2;exact⟨b2,rfl,H2.out⟩
end
section
structure tu (n:Nat)(D:Nat->Nat)(ks:List Nat):Prop where
 wd:Wd ks
 len:ks.length=n
 dP:dO n D
 oh:∀i,i<n->D (mp ks i)=mt (D i)
theorem Wd.zM{ks:List Nat}(h:Wd ks){i:Nat}(d:i<ks.length):ks.getD (mp ks i) 0<2↔ks.getD i 0<2:=by
 obtain⟨t,e,⟨a,b⟩|⟨a,b⟩⟩:=h.cases (i:=i) d
 ·have c:=b.closes;rw[List.getD_eq_getElem?_getD,c,List.getD_eq_getElem?_getD,a,Option.getD_some,Option.getD_some];omega
 ·have c:=b.opens;rw[List.getD_eq_getElem?_getD,c,List.getD_eq_getElem?_getD,a,Option.getD_some,Option.getD_some];omega
section
variable {n:Nat} {D:Nat->Nat} {ks:List Nat} (k:tu n D ks)
include k
def CJ(n:Nat)(D:Nat->Nat)(ks:List Nat)(j:Nat)(zs:List Int):Prop:=∀i,i<n->zs[D i]? = some (if i<j\/mp ks i<j then (fA ks i:Int)else -1)
theorem tu.EG:CJ n D ks 0 (List.replicate n (-1)):=fun i a=>by rw[if_neg (by omega),List.getElem?_replicate,if_pos (k.dP.lt i a)]
theorem tu.nJ{j:Nat}(c:j<n):(ks.getD j 0 % 2=0/\j<mp ks j)\/(ks.getD j 0 % 2=1/\mp ks j<j):=by
 obtain⟨t,d,⟨a,b⟩|⟨a,b⟩⟩:=k.wd.cases (i:=j) (by rw[k.len];exact c)
 ·exact .inl ⟨by rw[iG a];omega,b.lt⟩
 ·exact .inr ⟨by rw[iG a];omega,b.lt⟩
theorem tu.EH{j:Nat}{zs:List Int}(l:j<n)(f:mp ks j<j)(h:CJ n D ks j zs):CJ n D ks (j+1) zs:=fun i d=>by
 rw[h i d];have a:i<ks.length:=by rw[k.len];exact d
 have b:=k.wd.gW a;congr 1;by_cases c:i<j\/mp ks i<j
 ·rw[if_pos c,if_pos (by omega)]
 ·rw[if_neg c,if_neg];rintro (g|g)
  ·obtain rfl:i=j:=by omega
   exact c (.inr f)
  ·have e:mp ks i=j:=by omega
   rw[e]at b;omega
theorem tu.stepJ{j:Nat}{zs:List Int}(d:j<n)(q:zs.length=n)(t:j<mp ks j)(h:CJ n D ks j zs):CJ n D ks (j+1) ((zs.set (D j) (fA ks j:Int)).set (mt (D j)) ((fA ks j:Int)+1)):=fun i g=>by
 have f:j<ks.length:=by rw[k.len];exact d
 have m:i<ks.length:=by rw[k.len];exact g
 have b:mp ks j<n:=by rw[<-k.len];exact k.wd.gP f
 have o:=k.wd.gW m;have c:=k.wd.gW f
 have p:ks.getD j 0 % 2=0:=by
  rcases k.nJ d with a|a
  ·exact a.1
  ·omega
 have s:ks.getD (mp ks j) 0 % 2=1:=by
  rcases k.nJ b with a|a
  ·rw[c]at a;omega
  ·exact a.1
 rw[<-k.oh j d,List.getElem?_set,List.length_set];by_cases a:D (mp ks j)=D i
 ·have e:=k.dP.inj _ _ b g a;rw[if_pos a,if_pos (by rw[q];exact k.dP.lt _ b),<-e,if_pos (.inr (by rw[c];omega))];congr 1;unfold fA;rw[if_pos p,if_neg (by omega),c];omega
 ·rw[if_neg a,List.getElem?_set];by_cases l:D j=D i
  ·have e:=k.dP.inj _ _ d g l;rw[if_pos l,if_pos (by rw[q];exact k.dP.lt _ d),<-e,if_pos (.inl (by omega))]
  ·rw[if_neg l,h i g];congr 1;have u:¬i=j:=fun e=>l (by rw[e]);have v:¬mp ks i=j:=fun e=>a (by rw[<-e,o]);by_cases r:i<j\/mp ks i<j
   ·rw[if_pos r,if_pos (by omega)]
   ·rw[if_neg r,if_neg (by omega)]
noncomputable def qK(n:Nat)(D:Nat->Nat)(ks:List Nat):List Nat:=(List.range n).map fun x=>fA ks (gq D x)
omit k in
theorem Dr(n:Nat)(D:Nat->Nat)(ks:List Nat):(qK n D ks).length=n:=by simp[qK]
theorem tu.uU{i:Nat}(a:i<n):sg (qK n D ks) (D i)=fA ks i:=by have b:=k.dP.lt i a;unfold sg qK;rw[List.getD_eq_getElem?_getD,List.getElem?_map,List.getElem?_range b];show fA ks (gq D (D i))=_;rw[k.dP.inv_of a]
theorem tu.nS{x:Nat}(a:x<n):∃i,i<n/\D i=x/\sg (qK n D ks) x=fA ks i :=
 ⟨gq D x,k.dP.eF a,k.dP.fD a,by have:=k.uU (k.dP.eF a);rwa [k.dP.fD a]at this⟩
theorem tu.EI{zs:List Int}(f:zs.length=n)(h:CJ n D ks n zs):zs=dD (qK n D ks):=by
 apply List.ext_getElem?;intro x;rcases Nat.lt_or_ge x n with a|a
 ·obtain⟨i,b,e,d⟩:=k.nS a;have c:=h i b;rw[e,if_pos (.inl b)]at c;rw[c,uf (by rw[Dr];exact a),d]
 ·rw[List.getElem?_eq_none (by omega),List.getElem?_eq_none (by rw[q01,Dr];omega)]
theorem tu.jI{i:Nat}(a:i<n):fA ks i<n:=by have:=k.wd.jI (i:=i) (by rw[k.len];exact a);rwa [k.len]at this
theorem tu.uy:dO n (sg (qK n D ks)):=by
 refine⟨fun x a=>?_,fun x y a e d=>?_⟩
 ·obtain⟨i,b,_,c⟩:=k.nS a;rw[c];exact k.jI b
 ·obtain⟨i,b,f,c⟩:=k.nS a;obtain⟨j,g,l,m⟩:=k.nS e;rw[c,m]at d;rw[<-f,<-l,k.wd.ig.inj i j (by rw[k.len];exact b) (by rw[k.len];exact g) d]
theorem tu.uV{x:Nat}(c:x<n):sg (qK n D ks) (mt x)=mt (sg (qK n D ks) x):=by
 obtain⟨i,b,e,d⟩:=k.nS c;have a:i<ks.length:=by rw[k.len];exact b
 rw[d,<-e,<-k.oh i b,k.uU (by rw[<-k.len];exact k.wd.gP a),k.wd.lH a]
theorem tu.wB{j:Nat}(c:j<n)(f:j<mp ks j):fA ks j=2 * oc ks j/\oc ks (j+1)=oc ks j+1:=by
 have b:j<ks.length:=by rw[k.len];exact c
 have a:ks.getD j 0 % 2=0:=by
  rcases k.nJ c with d|d
  ·exact d.1
  ·omega
 refine⟨by unfold fA;rw[if_pos a],?_⟩;have e:=List.getElem?_eq_getElem b;rw[iG e]at a;rw[BH e,if_pos a]
theorem tu.xS{j:Nat}(c:j<n)(f:mp ks j<j):oc ks (j+1)=oc ks j:=by
 have a:j<ks.length:=by rw[k.len];exact c
 have b:ks.getD j 0 % 2=1:=by
  rcases k.nJ c with d|d
  ·omega
  ·exact d.1
 have e:=List.getElem?_eq_getElem a;rw[iG e]at b;rw[BH e,if_neg (by omega)];rfl
end
end
section
def sm(n:Nat)(c:Nat->Nat)(P:Nat->Bool):Nat:=(((List.range n).filter P).map c).sum
theorem Ns(c:Nat->Nat)(P Q:Nat->Bool):∀l:List Nat,((l.filter P).map c).sum=((l.filter fun j=>P j && Q j).map c).sum+((l.filter fun j=>P j && !Q j).map c).sum
 | []=>rfl
 | x :: l=>by have a:=Ns c P Q l;rw[List.filter_cons,List.filter_cons,List.filter_cons];cases hP:P x <;> cases hQ:Q x <;> simp[a] <;> omega
theorem Gz(n:Nat)(c:Nat->Nat)(P Q:Nat->Bool):sm n c P=sm n c (fun j=>P j && Q j)+sm n c (fun j=>P j && !Q j):=Ns c P Q _
theorem q32{n:Nat}{c:Nat->Nat}{P Q:Nat->Bool}(h:∀j,j<n->P j=Q j):sm n c P=sm n c Q:=by unfold sm;rw[List.filter_congr (fun x a=>h x (List.mem_range.1 a))]
theorem Nu{n:Nat}(c e:Nat->Nat)(P:Nat->Bool):sm n (fun j=>c j+e j) P=sm n c P+sm n e P:=by
 unfold sm;generalize (List.range n).filter P=l
 induction l with
 | nil=>rfl
 | cons x l a=>simp only [List.map_cons,List.sum_cons,a];omega
theorem Nv{c:Nat->Nat}{i:Nat}:∀{l:List Nat},l.Nodup->i ∈ l->((l.filter fun j=>j == i).map c).sum=c i
 | [],_,h=>by cases h
 | x :: l,a,h=>by
  rw[List.nodup_cons]at a;rw[List.filter_cons];by_cases b:x=i
  ·subst b;have:l.filter (fun j=>j == x)=[]:=List.filter_eq_nil_iff.2 (fun y d f=>a.1 (by rw[<-eq_of_beq f];exact d));rw[if_pos (by simp),this];simp
  ·rw[if_neg (by simpa using b)];exact Nv a.2 ((List.mem_cons.1 h).resolve_left (fun e=>b e.symm))
theorem Jm{n:Nat}(c:Nat->Nat){i:Nat}(a:i<n):sm n c (fun j=>j == i)=c i:=Nv List.nodup_range (List.mem_range.2 a)
theorem Jo{n:Nat}{c:Nat->Nat}{P:Nat->Bool}(h:∀j,j<n->P j=false):sm n c P=0:=by rw[q32 (Q:=fun _=>false) h];unfold sm;rw[List.filter_eq_nil_iff.2 (by simp)];rfl
theorem Nw{c:Nat->Nat}{a:Nat}:∀{l:List Nat},a ∈ l->(l.map c).sum=c a+((l.erase a).map c).sum
 | [],h=>by cases h
 | x :: l,h=>by
  by_cases b:x=a
  ·subst b;simp
  ·rw[List.erase_cons_tail (by simpa using b),List.map_cons,List.map_cons,List.sum_cons,List.sum_cons,Nw ((List.mem_cons.1 h).resolve_left (fun e=>b e.symm))];omega
theorem Ny(f c:Nat->Nat):∀(m:Nat) (l:List Nat),l.length<=m->l.Nodup->(∀x ∈ l,f x ∈ l/\f x≠x/\f (f x)=x/\c (f x)=c x)->(l.map c).sum % 2=0
 | _,[],_,_,_=>rfl
 | 0,x :: t,b,_,_=>by simp at b
 | m+1,x :: t,b,a,h=>by rw[List.nodup_cons]at a;obtain⟨i,j,o,p⟩:=h x (by simp);have d:f x ∈ t:=(List.mem_cons.1 i).resolve_left j;have z:=Ny f c m (t.erase (f x)) (by rw[List.length_erase_of_mem d];simp at b;omega) (a.2.erase _) (fun y q=>by obtain⟨r,g⟩:=(List.Nodup.mem_erase_iff a.2).1 q;obtain⟨s,u,z3,z4⟩:=h y (List.mem_cons_of_mem _ g);have v:f y≠x:=fun e=>r (by rw[<-z3,e]);have w:f y≠f x:=fun e=>a.1 (by rw[<-o,<-e,z3];exact g);exact⟨(List.Nodup.mem_erase_iff a.2).2 ⟨w,(List.mem_cons.1 s).resolve_left v⟩,u,z3,z4⟩);rw[List.map_cons,List.sum_cons,Nw d,p];omega
theorem Jp{n:Nat}{c:Nat->Nat}{P:Nat->Bool}(f:Nat->Nat)(h:∀x,x<n->P x=true->f x<n/\P (f x)=true/\f x≠x/\f (f x)=x/\c (f x)=c x):sm n c P % 2=0:=by refine Ny f c _ _ (Nat.le_refl _) (List.Pairwise.filter _ List.nodup_range) (fun x a=>?_);obtain⟨b,d⟩:=List.mem_filter.1 a;obtain⟨e,g,i⟩:=h x (List.mem_range.1 b) d;exact⟨List.mem_filter.2 ⟨List.mem_range.2 e,g⟩,i⟩
section
variable {ks:List Nat} (h:Wd ks)
include h
theorem Wd.nest{s i m j:Nat}(H:s<2)(f:iw ks s i m)(I:i<j)(J:j<m)(q:ks.getD j 0 / 2=s):i<mp ks j/\mp ks j<m/\ks.getD (mp ks j) 0 / 2=s:=by
 have g:j<ks.length:=by have:=f.le;omega
 have y:mp ks j≠i/\mp ks j≠m:=by have r:=h.lJ f;have t:=h.gW (i:=i) (by have:=f.le;omega);rw[r]at t;have u:=h.gW g;exact⟨fun e=>by rw[e,r]at u;omega,fun e=>by rw[e,t]at u;omega⟩
 have key:∀a b,iw ks s a b->(a=j\/b=j)->i<a/\b<m\/(a=i\/a=m\/b=i\/b=m):=by
  intro a b c z;have v:=c.lt;have w:=c.le;have A:=f.le;by_cases B:b<m
  ·by_cases C:i<a
   ·exact .inl ⟨C,B⟩
   ·by_cases p:a=i
    ·exact .inr (.inl p)
    ·
     have E:b=j:=by omega
     have l:=c.hit;have d:=c.above i (by omega) (by omega);have o:=f.above (b+1) (by omega) (by omega);omega
  ·by_cases p:b=m
   ·exact .inr (.inr (.inr (.inr p)))
   ·
    by_cases E:b=j
    ·omega
    ·have K:a=j:=by omega
     have l:=f.hit;have d:=c.above (m+1) (by omega) (by omega);have o:=f.above a (by omega) (by omega);omega
 obtain⟨x,F,⟨l,d⟩|⟨l,d⟩⟩:=h.cases g
 ·rw[iG l]at q;obtain rfl:x=s:=by omega
  have:=key j (mp ks j) d (.inl rfl);have o:=d.closes;have G:=d.lt;rw[iG o];omega
 ·rw[iG l]at q;obtain rfl:x=s:=by omega
  have:=key (mp ks j) j d (.inr rfl);have o:=d.opens;have G:=d.lt;rw[iG o];omega
theorem Wd.BG(c:Nat->Nat)(L:∀i,i<ks.length->c (mp ks i)=c i)
  (hX:∀X:Nat->Bool,(∀i,i<ks.length->X i=true->X (tn ks i)=true)->sm ks.length c X % 2=0) :
  ∃f:Nat->Nat,∀i,i<ks.length->f (ph ks i)=f i/\(f (mp ks i)+f i) % 2=c i % 2:=by
 obtain⟨n,C⟩:∃n,n=ks.length:=⟨_,rfl⟩
 rw[<-C]at L hX ⊢;have v:∀i,i<n->mp ks i<n:=fun i o=>by rw[C]at o ⊢;exact h.gP o
 have z:∀i,i<n->mp ks (mp ks i)=i:=fun i o=>h.gW (by rw[<-C];exact o);have N:∀i,i<n->mp ks i≠i:=fun i o=>by obtain⟨s,_,⟨_,g⟩|⟨_,g⟩⟩:=h.cases (i:=i) (by rw[<-C];exact o) <;> (have:=g.lt;omega)
 obtain⟨q,r⟩:∃q:Nat->Bool,q=fun j=>ks.getD j 0 / 2 == 1:=⟨_,rfl⟩
 obtain⟨W,V⟩:∃W:Nat->Nat,W=fun i=>sm n c (fun j=>decide (j<i) && q j):=⟨_,rfl⟩
 have E:∀a b,a<=b->W b=W a+sm n c (fun j=>decide (a<=j) && decide (j<b) && q j):=fun a b O=>by
  rw[V];show sm n c _=sm n c _+_;rw[Gz n c _ (fun j=>decide (j<a))];congr 1
  ·refine q32 (fun j _=>?_);by_cases p:j<a
   ·rw[decide_eq_true p,decide_eq_true (show j<b by omega)];simp
   ·rw[decide_eq_false p];simp
  ·refine q32 (fun j _=>?_);by_cases p:j<a
   ·rw[decide_eq_true p,decide_eq_false (show ¬a<=j by omega)];simp
   ·rw[decide_eq_false p,decide_eq_true (show a<=j by omega)];simp
 have d:∀i,i<n->W (i+1)=W i+if q i=true then c i else 0:=fun i o=>by
  rw[E i (i+1) (by omega)];congr 1;by_cases p:q i=true
  ·rw[if_pos p,<-Jm c o];refine q32 (fun j _=>?_);by_cases H:j=i
   ·subst H;rw[p];simp
   ·rw[show (j == i)=false by simpa using H];by_cases P:i<=j
    ·rw[decide_eq_false (show ¬j<i+1 by omega)];simp
    ·rw[decide_eq_false P];simp
  ·rw[if_neg p];refine Jo (fun j _=>?_);by_cases H:j=i
   ·subst H;simp at p;rw[p];simp
   ·by_cases P:i<=j
    ·rw[decide_eq_false (show ¬j<i+1 by omega)];simp
    ·rw[decide_eq_false P];simp
 have w:∀j,j<n->q (mp ks j)=q j:=fun j Q=>by
  rw[r];obtain⟨s,hs,⟨A,I⟩|⟨A,I⟩⟩:=h.cases (i:=j) (by rw[<-C];exact Q)
  ·have Y:=I.closes;show (ks.getD _ 0 / 2 == 1)=(ks.getD j 0 / 2 == 1);rw[iG A,iG Y,show (2 * s+1) / 2=2 * s / 2 by omega]
  ·have Y:=I.opens;show (ks.getD _ 0 / 2 == 1)=(ks.getD j 0 / 2 == 1);rw[iG A,iG Y,show (2 * s+1) / 2=2 * s / 2 by omega]
 have R:W n % 2=0:=by rw[V];refine Jp (mp ks) (fun x u M=>⟨v x u,?_,N x u,z x u,L x u⟩);rw[w x u,decide_eq_true (v x u)];simp at M ⊢;exact M.2
 have F:∀i m,iw ks 1 i m->W m % 2=(W (i+1)) % 2:=fun i m B=>by
  have p:=B.lt;have H:=B.le;rw[E (i+1) m (by omega)]
  have:sm n c (fun j=>decide (i+1<=j) && decide (j<m) && q j) % 2=0:=by
   refine Jp (mp ks) (fun x u M=>?_);simp only [Bool.and_eq_true,decide_eq_true_eq]at M;obtain⟨⟨p1,p2⟩,J⟩:=M;have p4:ks.getD x 0 / 2=1:=by rw[r]at J;exact eq_of_beq J
   obtain⟨q1,Z,q3⟩:=h.nest (by decide) B (by omega) p2 p4;refine⟨v x u,?_,N x u,z x u,L x u⟩;rw[w x u,J,decide_eq_true (show i+1<=mp ks x by omega),decide_eq_true Z];rfl
  omega
 have G:∀a b,iw ks 0 a b->(W b+W a) % 2=c a % 2:=fun a b B=>by
  have p:=B.lt;have H:=B.le;have ha:q a=false:=by rw[r];show (ks.getD a 0 / 2 == 1)=false;rw[iG B.opens];rfl
  have hb:q b=false:=by rw[r];show (ks.getD b 0 / 2 == 1)=false;rw[iG B.closes];rfl
  have O:=h.lJ B;have aa:mp ks b=a:=by rw[<-O,z a (by omega)]
  have S:=hX (fun j=>decide (a+1<=j) && decide (j<=b)) (fun i o ab=>by
   simp only [Bool.and_eq_true,decide_eq_true_eq]at ab ⊢;unfold tn;by_cases ht:ks.getD i 0<2
   ·rw[if_pos ht];by_cases T:i=b
    ·rw[T,aa,Nat.mod_eq_of_lt (by omega)];omega
    ·obtain⟨q1,Z,-⟩:=h.nest (by decide) B (by omega) (show i<b by omega) (by omega);rw[Nat.mod_eq_of_lt (by omega)];omega
   ·rw[if_neg ht];have T:i≠b:=fun e=>by rw[e,iG B.closes]at ht;omega
    rw[Nat.mod_eq_of_lt (by omega)];omega)
  rw[Gz n c _ q]at S
  have e1:sm n c (fun j=>(decide (a+1<=j) && decide (j<=b)) && q j)=sm n c (fun j=>decide (a+1<=j) && decide (j<b) && q j):=q32 (fun j _=>by
   by_cases Q:j=b
   ·subst Q;rw[hb];simp
   ·rw[show decide (j<=b)=decide (j<b)from by simp;omega])
  rw[e1]at S
  have e2:sm n c (fun j=>(decide (a+1<=j) && decide (j<=b)) && !q j) % 2=c a % 2:=by
   rw[Gz n c _ (fun j=>j == b)]
   have e3:sm n c (fun j=>((decide (a+1<=j) && decide (j<=b)) && !q j) && (j == b))=c b:=by
    rw[<-Jm c (show b<n by omega)];refine q32 (fun j _=>?_);by_cases Q:j=b
    ·subst Q;rw[hb];simp;omega
    ·rw[show (j == b)=false by simpa using Q];simp
   have e4:sm n c (fun j=>((decide (a+1<=j) && decide (j<=b)) && !q j) && !(j == b)) % 2=0:=by
    refine Jp (mp ks) (fun x u M=>?_);simp only [Bool.and_eq_true,decide_eq_true_eq,Bool.not_eq_true',beq_eq_false_iff_ne]at M;obtain⟨⟨⟨p1,p2⟩,J⟩,p4⟩:=M
    have p5:ks.getD x 0 / 2=0:=by
     have hl:=h.k4 _ (List.getElem_mem (l:=ks) (n:=x) (by omega));rw[List.getD_eq_getElem?_getD,List.getElem?_eq_getElem (by omega),Option.getD_some];rw[r]at J;have J:(ks.getD x 0 / 2 == 1)=false:=J;have:¬(ks.getD x 0 / 2 == 1)=true:=by rw[J];decide
     rw[List.getD_eq_getElem?_getD,List.getElem?_eq_getElem (by omega),Option.getD_some]at this;have:¬ks[x] / 2=1:=fun e=>this (by rw[e];rfl);omega
    obtain⟨q1,Z,q3⟩:=h.nest (by decide) B (by omega) (show x<b by omega) p5;refine⟨v x u,?_,N x u,z x u,L x u⟩;rw[w x u,J,decide_eq_true (show a+1<=mp ks x by omega),decide_eq_true (show mp ks x<=b by omega)];simp;omega
   rw[e3];have e5:=L a (by omega);rw[O]at e5;omega
  have e6:=E (a+1) b (by omega);have e7:=d a (by omega);rw[ha,if_neg (by decide)]at e7;omega
 refine⟨fun i=>W i % 2,fun i o=>?_⟩;have ad:W 0=0:=by rw[V];exact Jo (fun j _=>by simp)
 have t:∀j,j<n->W ((j+1) % n) % 2=W (j+1) % 2:=fun j Q=>by
  rcases(show j+1<n\/j+1=n by omega)with p|p
  ·rw[Nat.mod_eq_of_lt p]
  ·rw[p,Nat.mod_self,ad,R]
 have K:=h.j5 (i:=i) (by rw[<-C];exact o);obtain⟨s,hs,⟨A,I⟩|⟨A,I⟩⟩:=h.cases (i:=i) (by rw[<-C];exact o)
 ·obtain rfl|rfl:s=0\/s=1:=by omega
  ·have p:=G _ _ I;have y:ks.getD i 0<2:=by rw[iG A];decide
   refine⟨?_,by show (W (mp ks i) % 2+W i % 2) % 2=c i % 2;omega⟩;show W (tn ks (mp ks i)) % 2=W i % 2;unfold tn;rw[if_pos (K.2 y),z i o,<-C,t i o,d i o,if_neg (by rw[r];show ¬(ks.getD i 0 / 2 == 1)=true;rw[iG A];decide)];rfl
  ·have p:=F _ _ I;have y:¬ks.getD i 0<2:=by rw[iG A];decide
   have U:q i=true:=by rw[r];show (ks.getD i 0 / 2 == 1)=true;rw[iG A];rfl
   have H:=d i o;have P:=d (mp ks i) (v i o);rw[if_pos U]at H;rw[w i o,if_pos U,L i o]at P;refine⟨?_,by show (W (mp ks i) % 2+W i % 2) % 2=c i % 2;omega⟩;show W (tn ks (mp ks i)) % 2=W i % 2;unfold tn;rw[if_neg (fun e=>y (K.1 e)),<-C,t _ (v i o)];omega
 ·obtain rfl|rfl:s=0\/s=1:=by omega
  ·have p:=G _ _ I;have y:ks.getD i 0<2:=by rw[iG A];decide
   rw[L i o]at p;refine⟨?_,by show (W (mp ks i) % 2+W i % 2) % 2=c i % 2;omega⟩;show W (tn ks (mp ks i)) % 2=W i % 2;unfold tn;rw[if_pos (K.2 y),z i o,<-C,t i o,d i o,if_neg (by rw[r];show ¬(ks.getD i 0 / 2 == 1)=true;rw[iG A];decide)];rfl
  ·have p:=F _ _ I;have y:¬ks.getD i 0<2:=by rw[iG A];decide
   have U:q i=true:=by rw[r];show (ks.getD i 0 / 2 == 1)=true;rw[iG A];rfl
   have H:=d i o;have P:=d (mp ks i) (v i o);rw[if_pos U]at H;rw[w i o,if_pos U,L i o]at P;refine⟨?_,by show (W (mp ks i) % 2+W i % 2) % 2=c i % 2;omega⟩;show W (tn ks (mp ks i)) % 2=W i % 2;unfold tn;rw[if_neg (fun e=>y (K.1 e)),<-C,t _ (v i o)];omega
end
theorem Nz:∀(L:List Nat) (y:Nat),(L.map mt).count y=L.count (mt y)
 | [],_=>rfl
 | e :: L,y=>by
  rw[List.map_cons,List.count_cons,List.count_cons,Nz L y];congr 1;by_cases a:e=mt y
  ·rw[a,dF];simp
  ·rw[if_neg (by simpa using fun b=>a (by rw[<-b,dF])),if_neg (by simpa using a)]
theorem iJ.count{S:Nat->Nat}{Y:Nat->Bool}(f:∀x y,vnum S x=vnum S y->Y x=Y y):∀{l m:List Nat} {a z:Nat},iJ S (a :: l)->a :: l=m ++ [z] ->
  (a :: l).countP (fun x=>Y (mt x))+(if Y a then 1 else 0)=(a :: l).countP Y+if Y (mt z)then 1 else 0
 | [],m,a,z,_,d=>by have g:=(List.append_inj' (s₁:=[]) d rfl).2;simp at g;subst g;simp[List.countP_cons];omega
 | b :: l,m,a,z,i,d=>by
  obtain⟨j,e⟩:∃j,b :: l=j ++ [z]:=by
   cases m with
   | nil=>simp at d
   | cons c m=>rw[List.cons_append,List.cons.injEq]at d;exact⟨m,d.2⟩
  have o:=iJ.count f (l:=l) i.2 e;have p:=f _ _ i.1;simp only [List.countP_cons]at o ⊢;rw[p];omega
theorem uN.even{S:Nat->Nat}{Y:Nat->Bool}(b:∀x y,vnum S x=vnum S y->Y x=Y y){L:List Nat}(h:uN S L):L.countP (fun x=>Y (mt x))=L.countP Y:=by
 rcases hL:L with _|⟨a,l⟩
 ·rfl
 ·obtain⟨m,z,c⟩:∃m z,a :: l=m ++ [z]:=⟨_,_,(List.dropLast_concat_getLast (by simp)).symm⟩
  have d:=iJ.count b (hL ▸ h.1) c;have e:=h.2 a z l m hL (by rw[hL];exact c);rw[b _ _ e]at d;omega
theorem UH{n:Nat}{S:Nat->Nat}(h:dO n S)(N:n % 2=0)(hn:0<n)(Q:∀x,x<n->dI n S 0 x)(R:n / 2+1<=eu S n+eu (fun d=>S (mt d)) n):D7 n S:=by
 obtain⟨T,-,-,k⟩:=Ep h N (fun x y a q=>h.eT a q) hn;generalize (fun i=>(eD S (vnum S) 0 i).1)=D at k;generalize jk (eD S (vnum S) 0 T).2=ks at k
 have hT:T=n:=by
  have o:T<=n:=by
   have:=Bl n ((List.range T).map D) (by
    rw[List.Nodup,List.pairwise_iff_getElem];intro i j c s aj z;simp only [List.length_map,List.length_range]at c s;simp only [List.getElem_map,List.getElem_range]at z;have:=k.inj i j c s z;omega) (fun x a=>by
    obtain⟨i,c,rfl⟩:=List.mem_map.1 a;exact k.lt i (List.mem_range.1 c))
   simpa using this
  have g:n<=T:=by have:=sK (List.range n) ((List.range T).map D) List.nodup_range (fun x a=>by obtain⟨i,c,rfl⟩:=k.rR x (List.mem_range.1 a) (Q x (List.mem_range.1 a));exact List.mem_map.2 ⟨i,List.mem_range.2 c,rfl⟩);simpa using this
  omega
 have U:=fun i (c:i<T)=>k.oh h hn N Q hT R c;have A:=k.wd;have b:=k.len;subst hT;have m:∀x,x<T->iW T D x<T/\D (iW T D x)=x:=fun x a=>Es (k.rR x a (Q x a));have t:∀i,i<T->iW T D (D i)=i:=fun i c=>by obtain⟨o,g⟩:=m (D i) (k.lt i c);exact k.inj _ _ o c g
 have w:∀i,i<T->D (tn ks i)=S (D i):=fun i c=>by
  unfold tn;by_cases O:ks.getD i 0<2
  ·rw[if_pos O,b];have F:=A.gP (i:=i) (by omega);rw[k.next _ (by omega),if_pos ((A.j5 (by omega)).2 O),U i c,dF]
  ·rw[if_neg O,b,k.next i c,if_neg O]
 intro L B hL
 have p:∀X:Nat->Bool,∀L:List Nat,(∀e ∈ L,e<T)->sm T (fun i=>L.count (D i)) X=L.countP (fun e=>X (iW T D e)):=fun X L=>by
  induction L with
  | nil=>intro _;show sm T (fun _=>0) X=0;unfold sm;generalize (List.range T).filter X=l;induction l <;> simp_all
  | cons e L C =>
   intro F;have C:=C (fun x a=>F x (List.mem_cons_of_mem _ a));obtain⟨o,g⟩:=m e (F e (by simp));have G:sm T (fun i=>(e :: L).count (D i)) X=sm T (fun i=>L.count (D i)+if e == D i then 1 else 0) X:=by unfold sm;congr 1;exact List.map_congr_left (fun x _=>List.count_cons)
   rw[G,Nu,C,List.countP_cons];congr 1;rw[Gz T _ X (fun j=>j == iW T D e)]
   have V:sm T (fun i=>if e == D i then 1 else 0) (fun j=>X j && !(j == iW T D e))=0:=by
    unfold sm
    have:∀l:List Nat,(∀x ∈ l,(if e == D x then 1 else 0)=0)->(l.map fun i=>if e == D i then 1 else 0).sum=0:=by
     intro l
     induction l with
     | nil=>intro _;rfl
     | cons x l C=>intro z;rw[List.map_cons,List.sum_cons,z x (by simp),C (fun y q=>z y (List.mem_cons_of_mem _ q))]
    refine this _ (fun x a=>?_);obtain⟨W,I⟩:=List.mem_filter.1 a;rw[if_neg];intro z;rw[eq_of_beq z,t x (List.mem_range.1 W)]at I;simp at I
   rw[V,Nat.add_zero];by_cases a:X (iW T D e)=true
   ·rw[if_pos a]
    have e3:sm T (fun i=>if e == D i then 1 else 0) (fun j=>X j && (j == iW T D e))=sm T (fun i=>if e == D i then 1 else 0) (fun j=>j == iW T D e):=q32 (fun j _=>by
     by_cases s:j=iW T D e
     ·rw[s,a];rfl
     ·rw[show (j == iW T D e)=false by simpa using s];simp)
    rw[e3,Jm _ o,g];simp
   ·rw[if_neg a];refine Jo (fun j _=>?_);by_cases s:j=iW T D e
    ·rw[s];simp at a;rw[a];rfl
    ·rw[show (j == iW T D e)=false by simpa using s];simp
 obtain⟨f,hf⟩:=A.BG (fun i=>L.count (D i)+L.count (mt (D i))) (fun i c=>by
  show _+_=_+_;rw[U i (by omega),dF];omega) (fun X hX=>by
  rw[b]at hX ⊢
  have J:∀k i,i<T->X i=true->X (itr (tn ks) k i)=true/\itr (tn ks) k i<T/\D (itr (tn ks) k i)=itr S k (D i):=fun k=>by
   induction k with
   | zero=>intro i c a;exact⟨a,c,rfl⟩
   | succ k C =>
    intro i c a;obtain⟨o,g,h3⟩:=C i c a;exact⟨hX _ g o,by rw[<-b]at g ⊢;exact A.jc.lt _ g,by show D (tn ks _)=S _;rw[w _ g,h3]⟩
  obtain⟨Y,hY⟩:∃Y:Nat->Bool,Y=fun x=>decide (x<T) && X (iW T D x):=⟨_,rfl⟩
  have aa:∀x y,x<T->y<T->vnum S x=vnum S y->Y x=true->Y y=true:=fun x y a q H o=>by rw[hY]at o ⊢;simp only [Bool.and_eq_true,decide_eq_true_eq]at o ⊢;obtain⟨q1,q2⟩:=m x a;obtain⟨j,s⟩:=(h.eT a q).1 H;obtain⟨r1,r2,r3⟩:=J j _ q1 o.2;rw[q2,s]at r3;refine⟨q,?_⟩;rw[<-r3,t _ r2];exact r1
  have K:∀e ∈ L,mt e<T:=fun e E=>dQ N (B e E);obtain⟨Z,P⟩:∃Z:Nat->Bool,∀x,Z x=true↔∃y,y<T/\vnum S y=vnum S x/\Y y=true:=⟨fun x=>open Classical in decide (∃y,y<T/\vnum S y=vnum S x/\Y y=true),fun x=>by simp⟩
  have M:∀x,x<T->Z x=Y x:=fun x a=>by
   by_cases q:Y x=true
   ·rw[q];exact(P x).2 ⟨x,a,rfl,q⟩
   ·have:¬Z x=true:=fun v=>by obtain⟨y,ab,ad,ae⟩:=(P x).1 v;exact q (aa y x ab a ad ae)
    simp at q this;rw[q,this]
  have af:=uN.even (Y:=Z) (fun x y H=>by
   have:∀x y,vnum S x=vnum S y->Z x=true->Z y=true:=fun x y H v=>by obtain⟨u,o,g,h3⟩:=(P x).1 v;exact(P y).2 ⟨u,o,g.trans H,h3⟩
   by_cases v:Z x=true
   ·rw[v,this x y H v]
   ·have g:¬Z y=true:=fun ag=>v (this y x H.symm ag);simp at v g;rw[v,g]) hL
  have s1:=p X L B;have s2:=p X (L.map mt) (fun e E=>by obtain⟨x,a,rfl⟩:=List.mem_map.1 E;exact K x a);have s3:sm T (fun i=>(L.map mt).count (D i)) X=sm T (fun i=>L.count (mt (D i))) X:=by unfold sm;congr 1;refine List.map_congr_left (fun x _=>?_);exact Nz L (D x)
  rw[Nu,s1,<-s3,s2,List.countP_map];have t1:L.countP (fun e=>X (iW T D e))=L.countP Z:=List.countP_congr (fun x a=>by have r:=B x a;rw[M x r,hY];simp[r]);have t2:L.countP ((fun e=>X (iW T D e)) ∘ mt)=L.countP (fun x=>Z (mt x)):=List.countP_congr (fun x a=>by have r:=K x a;rw[M _ r,hY];simp[r]);rw[t1,t2,af];omega)
 rw[b]at hf;refine⟨fun x=>f (iW T D x),fun x a=>?_⟩;obtain⟨o,g⟩:=m x a;have ah:=dQ N a;have G:iW T D (mt x)=mp ks (iW T D x):=by have:=U _ o;rw[g]at this;rw[<-this,t];have:=A.gP (i:=iW T D x) (by omega);omega
 have V:iW T D (S (mt x))=ph ks (iW T D x):=by
  have F:mp ks (iW T D x)<T:=by have:=A.gP (i:=iW T D x) (by omega);omega
  have:=w _ F;rw[<-G,(m _ ah).2]at this;unfold ph;have ai:tn ks (iW T D (mt x))<T:=by have:=A.jc.lt (iW T D (mt x)) (by rw[b,G];exact F);rwa [b]at this
  rw[<-G,<-this,t _ ai]
 obtain⟨W,I⟩:=hf _ o;rw[g]at I;exact⟨by show f _=f _;rw[V,W],by show (f _+f _) % 2=_;rw[G];exact I⟩
end
