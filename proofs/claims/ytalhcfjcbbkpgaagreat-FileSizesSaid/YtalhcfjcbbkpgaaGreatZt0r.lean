import Derived.Test.YtalhcfjcbbkpgaaGreatZt0h
set_option maxRecDepth 100000
set_option maxHeartbeats 4000000
namespace Go.Proofs.YtalhcfjcbbkpgaaGreat
section
open Go.RowKit
theorem eP.made(B:Nat)(w:World)(n:Nat)(b:B<=w.heap.size)(d:n<=100000000):eP B (w.alloc (.cells (madeCells #[.int .u8 0] n) 5)) (.slice (some ⟨w.heap.size,0,none⟩) n n) (List.replicate n 0):=by
 have c:(madeCells #[.int .u8 0] n).toList=ys (List.replicate n 0):=by rw[toList_madeCells_one];simp[ys,dD]
 have a:=World.ownsRow_lit (base:=B) (e:=5) (size:=1) w (madeCells #[.int .u8 0] n) n b (by unfold maxLen;omega) (by rw[size_madeCells];omega);rw[c]at a;unfold eP;rw[List.length_replicate];exact a
theorem eP.set{B:Nat}{w:World}{g n cap:Nat}{bs:List Nat}(h:eP B w (.slice (some ⟨g,0,none⟩) n cap) bs)(i z:Nat):eP B (w.setCell ⟨g,i,none⟩ (.int .u8 (z:Int))) (.slice (some ⟨g,0,none⟩) n cap) (bs.set i z):=by
 have d:n=bs.length:=by obtain⟨a,c,b,_⟩:=h.form;simp only [Value.slice.injEq]at b;exact b.2.1
 subst d;have:=F3 h i (.int .u8 (z:Int));unfold eP;rw[List.length_set];have e:ys (bs.set i z)=(ys bs).set i (.int .u8 (z:Int)):=by simp[ys,dD,List.map_set]
 rw[e];exact this
theorem eP.cell{B:Nat}{w:World}{g n cap:Nat}{bs:List Nat}(h:eP B w (.slice (some ⟨g,0,none⟩) n cap) bs){i z:Nat}(a:bs[i]? = some z):w.cell? ⟨g,i,none⟩=some (.int .u8 (z:Int))/\w.frozen? ⟨g,i,none⟩=false:=by
 have f:i<bs.length:=by
  rcases Nat.lt_or_ge i bs.length with b | b
  ·exact b
  ·rw[List.getElem?_eq_none b]at a;cases a
 obtain⟨j,c,d,_,_,e,_,_⟩:=qR h (by omega);simp only [Value.slice.injEq,Option.some.injEq,Addr.mk.injEq,and_true]at d;obtain⟨rfl,_,_⟩:=d;exact e i (.int .u8 (z:Int)) (by simp[ys,dD,a])
theorem Vl{x y:Nat}(a:x<256)(b:y<256)(h:∀i,i<8->x / 2 ^ i % 2=y / 2 ^ i % 2):x=y:=by have c:=h 0 (by decide);have d:=h 1 (by decide);have e:=h 2 (by decide);have f:=h 3 (by decide);have g:=h 4 (by decide);have j:=h 5 (by decide);have k:=h 6 (by decide);have l:=h 7 (by decide);simp only [Nat.reducePow]at *;omega
theorem Vm(l:List Bool)(j:Nat):nD l (j / 8) / 2 ^ (j % 8 * 8) % 256=qM (l.drop (8 * j)):=by
 refine Vl (Nat.mod_lt _ (by decide)) (MR _) (fun i b=>?_);rw[SY _ b,List.getD_eq_getElem?_getD,List.getElem?_drop,<-List.getD_eq_getElem?_getD];have a:=KX l (8 * j+i);have c:(8 * j+i) / 64=j / 8:=by omega
 have d:(8 * j+i) % 64=j % 8 * 8+i:=by omega
 rw[c,d,Nat.pow_add,<-Nat.div_div_eq_div_mul]at a;rw[<-a];generalize nD l (j / 8) / 2 ^ (j % 8 * 8)=y;have e:y % 256 / 2 ^ i % 2=y / 2 ^ i % 2:=by have:=Nat.mod_mul_right_div_self y (2 ^ i) (2 ^ (8 - i));rw[<-Nat.pow_add,show i+(8 - i)=8 by omega,show (2:Nat) ^ 8=256 by decide]at this;rw[this,Nat.mod_mod_of_dvd];exact⟨2 ^ (8 - i - 1),by rw[<-Nat.pow_succ'];congr 1;omega⟩
 exact e
theorem Vn(l:List Bool){N j:Nat}(c:N=(gH l).length)(a:j<N):((gH l).take j ++ List.replicate (N - j) 0).set j (qM (l.drop (8 * j)))=(gH l).take (j+1) ++ List.replicate (N - (j+1)) 0:=by
 have d:(gH l)[j]? = some (qM (l.drop (8 * j))):=by unfold gH;rw[List.getElem?_map,List.getElem?_range (by rw[c,CK]at a;exact a)];rfl
 have b:((gH l).take j).length=j:=by rw[List.length_take];omega
 rw[List.set_append_right _ _ (by rw[b];exact Nat.le_refl _),b,Nat.sub_self,show N - j=(N - (j+1))+1 by omega,List.replicate_succ,List.set_cons_zero,vB d,List.append_assoc];rfl
theorem JJ(b:Nat)(v:Value)(l:List Bool)(w:World)(h:fq w b v l)(hl:l.length<=100000000) :
  Calls Tryz.prog 95 #[.pointer (some ⟨b,0,none⟩)] w fun e w'=>∃v',e=.returned v'/\eP w.heap.size w' v' (gH l)/\Keeps (fun _=>False) w w':=by
 have q:=BO b v l w h;obtain⟨N,G⟩:∃N,N=(gH l).length:=⟨_,rfl⟩
 have r:N=(l.length+7) / 8:=by rw[G,CK]
 have Z:((l.length:Int)+8 - 1) / 8=(N:Int):=by omega
 have R:((l.length:Int)+7) / 8=(N:Int):=by omega
 obtain⟨i,S,s,t,u⟩:=info_parts tL;have A:=fun w=>run_make (P:=Tryz.prog) w 30 5 i _ Tryz.underlying30 S s .i64 .i64 (N:Int) (N:Int) (by omega) (Int.le_refl _) (by rw[u];omega) (by omega);simp only [t,Int.toNat_natCast,Nat.mul_one]at A;have H:=eP.made w.heap.size w N (Nat.le_refl _) (by omega);have T:=(Keeps.refl (fun _=>False) w).alloc (.cells (madeCells #[.int .u8 0] N) 5);have HV:Hid (∀W,Keeps (fun _=>False) w W->fq W b v l):=dh (fun W a=>h.keeps a (fun h=>h) (fun _ _ h=>h));have E:=dh (dn G r);generalize U:l.length=n at *;have V:=dh U;clear h S s t u G r U;go_enter Tryz.func95,Tryz.ntmps95;go_wp2_with fail;refine q.mono ?_;rintro e w' ⟨rfl,rfl⟩;clear q;go_wp2_with fail;clear A;obtain⟨g,F⟩:∃g,g=w.heap.size:=⟨_,rfl⟩
 rw[<-F]at H;rw[<-F];generalize World.alloc _ _=wM at *;have I:w.heap.size<=g:=by omega
 have B:eP w.heap.size wM (.slice (some ⟨g,0,none⟩) N N) ((gH l).take 0 ++ List.replicate (N - 0) 0):=by simpa [F]using H
 have C:=dh (dn B T);clear H B T F;go_loopg [13] N (fun m iv wr=>∃j:Nat,j<=N/\m=N - j/\iv=.int .i64 j/\eP w.heap.size wr (.slice (some ⟨g,0,none⟩) N N) ((gH l).take j ++ List.replicate (N - j) 0)/\Keeps (fun _=>False) w wr)
 case atStart=>exact⟨0,by omega,rfl,rfl,C.out⟩
 case round =>
  clear C;obtain⟨j,hj,D,rfl,o,a⟩:=hrel;have HG:=dh D;clear D;by_cases J:j<N
  ·have K:=HV.out wr a;have c:(words l).length=(l.length+63) / 64:=vX l;have d:j / 8<(l.length+63) / 64:=by have:=E.out.2;rw[V.out];omega
   obtain⟨gw,cw,rfl,aa,L,X,_,ab⟩:=qR K.2 (by omega);have hx:=(X (j / 8) (.int .u64 (nD l (j / 8):Nat)) (by rw[List.getElem?_map,AA d];rfl)).1;have c0:wr.cell? ⟨b,0,none⟩=some (.slice (some ⟨gw,0,none⟩) (words l).length cw):=dw K.1 0;have M:=Vm l j;have O:=FZ l (j / 8);obtain⟨y,Q⟩:∃y,y=nD l (j / 8) / 2 ^ (j % 8 * 8):=⟨_,rfl⟩
   have e1:((nD l (j / 8):Nat):Int) / 2 ^ (j % 8 * 8)=(y:Int):=by rw[Q];push_cast;rfl
   rw[<-Q]at M;have e2:IntKind.u8.wrap (y:Int)=((qM (l.drop (8 * j)):Nat):Int):=by rw[IntKind.wrap_u8,<-M];omega
   have f:=(o.cell (i:=j) (z:=0) (by rw[List.getElem?_append_right (by rw[List.length_take];omega),List.length_take,<-E.out.1,Nat.min_eq_left (by omega),Nat.sub_self,List.getElem?_replicate,if_pos (by omega)]))
   have k:=o.set j (qM (l.drop (8 * j)));rw[Vn l E.out.1 J]at k;have ks:=a.setCell (p:=⟨g,j,none⟩) (.inr I) (.int .u8 ((qM (l.drop (8 * j)):Nat):Int));have HS:=dh (dn k ks);obtain⟨ad,ae⟩:=f;have Y:j / 8<(words l).length:=by rw[c];exact d
   have af:(words l).length<=100000000:=by rw[c,V.out];omega
   unfold maxLen at L;clear X K M Q k ks o a c d;generalize nD l (j / 8)=x at *;generalize qM (l.drop (8 * j))=z at *;generalize (words l).length=wl at *;go_wp2_with fail;go_roundg (N - (j+1))
   case measure=>rw[HG.out];omega
   case rel=>exact⟨j+1,by omega,rfl,by go_num,HS.out⟩
  ·obtain rfl:j=N:=by omega
   rw[Nat.sub_self,List.replicate_zero,List.append_nil,List.take_of_length_le (by have:=E.out.1;omega)]at o;have HF:=dh (dn o a);clear o a;go_wp2;go_ret;exact⟨_,rfl,HF.out⟩
end
section
def sm(n:Nat)(c:Nat->Nat)(P:Nat->Bool):Nat:=(((List.range n).filter P).map c).sum
theorem Oy(c:Nat->Nat)(P Q:Nat->Bool):∀l:List Nat,((l.filter P).map c).sum=((l.filter fun j=>P j && Q j).map c).sum+((l.filter fun j=>P j && !Q j).map c).sum
 | []=>rfl
 | x :: l=>by have a:=Oy c P Q l;rw[List.filter_cons,List.filter_cons,List.filter_cons];cases hP:P x <;> cases hQ:Q x <;> simp[a] <;> omega
theorem G9(n:Nat)(c:Nat->Nat)(P Q:Nat->Bool):sm n c P=sm n c (fun j=>P j && Q j)+sm n c (fun j=>P j && !Q j):=Oy c P Q _
theorem Df{n:Nat}{c:Nat->Nat}{P Q:Nat->Bool}(h:∀j,j<n->P j=Q j):sm n c P=sm n c Q:=by unfold sm;rw[List.filter_congr (fun x a=>h x (List.mem_range.1 a))]
theorem Oz{n:Nat}(c e:Nat->Nat)(P:Nat->Bool):sm n (fun j=>c j+e j) P=sm n c P+sm n e P:=by
 unfold sm;generalize (List.range n).filter P=l
 induction l with
 | nil=>rfl
 | cons x l a=>simp only [List.map_cons,List.sum_cons,a];omega
theorem OA{c:Nat->Nat}{i:Nat}:∀{l:List Nat},l.Nodup->i ∈ l->((l.filter fun j=>j == i).map c).sum=c i
 | [],_,h=>by cases h
 | x :: l,a,h=>by
  rw[List.nodup_cons]at a;rw[List.filter_cons];by_cases b:x=i
  ·subst b;have:l.filter (fun j=>j == x)=[]:=List.filter_eq_nil_iff.2 (fun y d f=>a.1 (by rw[<-eq_of_beq f];exact d));rw[if_pos (by simp),this];simp
  ·rw[if_neg (by simpa using b)];exact OA a.2 ((List.mem_cons.1 h).resolve_left (fun e=>b e.symm))
theorem JK{n:Nat}(c:Nat->Nat){i:Nat}(a:i<n):sm n c (fun j=>j == i)=c i:=OA List.nodup_range (List.mem_range.2 a)
theorem JL{n:Nat}{c:Nat->Nat}{P:Nat->Bool}(h:∀j,j<n->P j=false):sm n c P=0:=by rw[Df (Q:=fun _=>false) h];unfold sm;rw[List.filter_eq_nil_iff.2 (by simp)];rfl
theorem OB{c:Nat->Nat}{a:Nat}:∀{l:List Nat},a ∈ l->(l.map c).sum=c a+((l.erase a).map c).sum
 | [],h=>by cases h
 | x :: l,h=>by
  by_cases b:x=a
  ·subst b;simp
  ·rw[List.erase_cons_tail (by simpa using b),List.map_cons,List.map_cons,List.sum_cons,List.sum_cons,OB ((List.mem_cons.1 h).resolve_left (fun e=>b e.symm))];omega
theorem OC(f c:Nat->Nat):∀(m:Nat) (l:List Nat),l.length<=m->l.Nodup->(∀x ∈ l,f x ∈ l/\f x≠x/\f (f x)=x/\c (f x)=c x)->(l.map c).sum % 2=0
 | _,[],_,_,_=>rfl
 | 0,x :: t,b,_,_=>by simp at b
 | m+1,x :: t,b,a,h=>by rw[List.nodup_cons]at a;obtain⟨i,j,k,n⟩:=h x (by simp);have d:f x ∈ t:=(List.mem_cons.1 i).resolve_left j;have v:=OC f c m (t.erase (f x)) (by rw[List.length_erase_of_mem d];simp at b;omega) (a.2.erase _) (fun y o=>by obtain⟨p,g⟩:=(List.Nodup.mem_erase_iff a.2).1 o;obtain⟨q,r,z3,z4⟩:=h y (List.mem_cons_of_mem _ g);have s:f y≠x:=fun e=>p (by rw[<-z3,e]);have u:f y≠f x:=fun e=>a.1 (by rw[<-k,<-e,z3];exact g);exact⟨(List.Nodup.mem_erase_iff a.2).2 ⟨u,(List.mem_cons.1 q).resolve_left s⟩,r,z3,z4⟩);rw[List.map_cons,List.sum_cons,OB d,n];omega
theorem JM{n:Nat}{c:Nat->Nat}{P:Nat->Bool}(f:Nat->Nat)(h:∀x,x<n->P x=true->f x<n/\P (f x)=true/\f x≠x/\f (f x)=x/\c (f x)=c x):sm n c P % 2=0:=by refine OC f c _ _ (Nat.le_refl _) (List.Pairwise.filter _ List.nodup_range) (fun x a=>?_);obtain⟨b,d⟩:=List.mem_filter.1 a;obtain⟨e,g,i⟩:=h x (List.mem_range.1 b) d;exact⟨List.mem_filter.2 ⟨List.mem_range.2 e,g⟩,i⟩
section
variable {ks:List Nat} (h:Wd ks)
include h
theorem Wd.nest{s i m j:Nat}(F:s<2)(f:iH ks s i m)(G:i<j)(H:j<m)(p:ks.getD j 0 / 2=s):i<mp ks j/\mp ks j<m/\ks.getD (mp ks j) 0 / 2=s:=by
 have g:j<ks.length:=by have:=f.le;omega
 have x:mp ks j≠i/\mp ks j≠m:=by have q:=h.lX f;have r:=h.iC (i:=i) (by have:=f.le;omega);rw[q]at r;have t:=h.iC g;exact⟨fun e=>by rw[e,q]at t;omega,fun e=>by rw[e,r]at t;omega⟩
 have k:∀a b,iH ks s a b->(a=j\/b=j)->i<a/\b<m\/(a=i\/a=m\/b=i\/b=m):=by
  intro a b c y;have u:=c.lt;have v:=c.le;have z:=f.le;by_cases A:b<m
  ·by_cases B:i<a
   ·exact .inl ⟨B,A⟩
   ·by_cases o:a=i
    ·exact .inr (.inl o)
    ·
     have C:b=j:=by omega
     have l:=c.hit;have d:=c.above i (by omega) (by omega);have n:=f.above (b+1) (by omega) (by omega);omega
  ·by_cases o:b=m
   ·exact .inr (.inr (.inr (.inr o)))
   ·
    by_cases C:b=j
    ·omega
    ·have I:a=j:=by omega
     have l:=f.hit;have d:=c.above (m+1) (by omega) (by omega);have n:=f.above a (by omega) (by omega);omega
 obtain⟨w,D,⟨l,d⟩|⟨l,d⟩⟩:=h.cases g
 ·rw[iQ l]at p;obtain rfl:w=s:=by omega
  have:=k j (mp ks j) d (.inl rfl);have n:=d.closes;have E:=d.lt;rw[iQ n];omega
 ·rw[iQ l]at p;obtain rfl:w=s:=by omega
  have:=k (mp ks j) j d (.inr rfl);have n:=d.opens;have E:=d.lt;rw[iQ n];omega
theorem Wd.CO(c:Nat->Nat)(J:∀i,i<ks.length->c (mp ks i)=c i)
  (hX:∀X:Nat->Bool,(∀i,i<ks.length->X i=true->X (tn ks i)=true)->sm ks.length c X % 2=0) :
  ∃f:Nat->Nat,∀i,i<ks.length->f (ph ks i)=f i/\(f (mp ks i)+f i) % 2=c i % 2:=by
 obtain⟨n,B⟩:∃n,n=ks.length:=⟨_,rfl⟩
 rw[<-B]at J hX ⊢;have u:∀i,i<n->mp ks i<n:=fun i k=>by rw[B]at k ⊢;exact h.gW k
 have y:∀i,i<n->mp ks (mp ks i)=i:=fun i k=>h.iC (by rw[<-B];exact k);have L:∀i,i<n->mp ks i≠i:=fun i k=>by obtain⟨s,_,⟨_,g⟩|⟨_,g⟩⟩:=h.cases (i:=i) (by rw[<-B];exact k) <;> (have:=g.lt;omega)
 obtain⟨p,q⟩:∃p:Nat->Bool,p=fun j=>ks.getD j 0 / 2 == 1:=⟨_,rfl⟩
 obtain⟨W,T⟩:∃W:Nat->Nat,W=fun i=>sm n c (fun j=>decide (j<i) && p j):=⟨_,rfl⟩
 have C:∀a b,a<=b->W b=W a+sm n c (fun j=>decide (a<=j) && decide (j<b) && p j):=fun a b M=>by
  rw[T];show sm n c _=sm n c _+_;rw[G9 n c _ (fun j=>decide (j<a))];congr 1
  ·refine Df (fun j _=>?_);by_cases o:j<a
   ·rw[decide_eq_true o,decide_eq_true (show j<b by omega)];simp
   ·rw[decide_eq_false o];simp
  ·refine Df (fun j _=>?_);by_cases o:j<a
   ·rw[decide_eq_true o,decide_eq_false (show ¬a<=j by omega)];simp
   ·rw[decide_eq_false o,decide_eq_true (show a<=j by omega)];simp
 have d:∀i,i<n->W (i+1)=W i+if p i=true then c i else 0:=fun i k=>by
  rw[C i (i+1) (by omega)];congr 1;by_cases o:p i=true
  ·rw[if_pos o,<-JK c k];refine Df (fun j _=>?_);by_cases F:j=i
   ·subst F;rw[o];simp
   ·rw[show (j == i)=false by simpa using F];by_cases N:i<=j
    ·rw[decide_eq_false (show ¬j<i+1 by omega)];simp
    ·rw[decide_eq_false N];simp
  ·rw[if_neg o];refine JL (fun j _=>?_);by_cases F:j=i
   ·subst F;simp at o;rw[o];simp
   ·by_cases N:i<=j
    ·rw[decide_eq_false (show ¬j<i+1 by omega)];simp
    ·rw[decide_eq_false N];simp
 have v:∀j,j<n->p (mp ks j)=p j:=fun j O=>by
  rw[q];obtain⟨s,hs,⟨z,G⟩|⟨z,G⟩⟩:=h.cases (i:=j) (by rw[<-B];exact O)
  ·have U:=G.closes;show (ks.getD _ 0 / 2 == 1)=(ks.getD j 0 / 2 == 1);rw[iQ z,iQ U,show (2 * s+1) / 2=2 * s / 2 by omega]
  ·have U:=G.opens;show (ks.getD _ 0 / 2 == 1)=(ks.getD j 0 / 2 == 1);rw[iQ z,iQ U,show (2 * s+1) / 2=2 * s / 2 by omega]
 have P:W n % 2=0:=by rw[T];refine JM (mp ks) (fun x t K=>⟨u x t,?_,L x t,y x t,J x t⟩);rw[v x t,decide_eq_true (u x t)];simp at K ⊢;exact K.2
 have D:∀i m,iH ks 1 i m->W m % 2=(W (i+1)) % 2:=fun i m A=>by
  have o:=A.lt;have F:=A.le;rw[C (i+1) m (by omega)]
  have:sm n c (fun j=>decide (i+1<=j) && decide (j<m) && p j) % 2=0:=by
   refine JM (mp ks) (fun x t K=>?_);simp only [Bool.and_eq_true,decide_eq_true_eq]at K;obtain⟨⟨p1,p2⟩,H⟩:=K;have p4:ks.getD x 0 / 2=1:=by rw[q]at H;exact eq_of_beq H
   obtain⟨q1,V,q3⟩:=h.nest (by decide) A (by omega) p2 p4;refine⟨u x t,?_,L x t,y x t,J x t⟩;rw[v x t,H,decide_eq_true (show i+1<=mp ks x by omega),decide_eq_true V];rfl
  omega
 have E:∀a b,iH ks 0 a b->(W b+W a) % 2=c a % 2:=fun a b A=>by
  have o:=A.lt;have F:=A.le;have ha:p a=false:=by rw[q];show (ks.getD a 0 / 2 == 1)=false;rw[iQ A.opens];rfl
  have hb:p b=false:=by rw[q];show (ks.getD b 0 / 2 == 1)=false;rw[iQ A.closes];rfl
  have M:=h.lX A;have Y:mp ks b=a:=by rw[<-M,y a (by omega)]
  have Q:=hX (fun j=>decide (a+1<=j) && decide (j<=b)) (fun i k Z=>by
   simp only [Bool.and_eq_true,decide_eq_true_eq]at Z ⊢;unfold tn;by_cases ht:ks.getD i 0<2
   ·rw[if_pos ht];by_cases R:i=b
    ·rw[R,Y,Nat.mod_eq_of_lt (by omega)];omega
    ·obtain⟨q1,V,-⟩:=h.nest (by decide) A (by omega) (show i<b by omega) (by omega);rw[Nat.mod_eq_of_lt (by omega)];omega
   ·rw[if_neg ht];have R:i≠b:=fun e=>by rw[e,iQ A.closes]at ht;omega
    rw[Nat.mod_eq_of_lt (by omega)];omega)
  rw[G9 n c _ p]at Q
  have e1:sm n c (fun j=>(decide (a+1<=j) && decide (j<=b)) && p j)=sm n c (fun j=>decide (a+1<=j) && decide (j<b) && p j):=Df (fun j _=>by
   by_cases O:j=b
   ·subst O;rw[hb];simp
   ·rw[show decide (j<=b)=decide (j<b)from by simp;omega])
  rw[e1]at Q
  have e2:sm n c (fun j=>(decide (a+1<=j) && decide (j<=b)) && !p j) % 2=c a % 2:=by
   rw[G9 n c _ (fun j=>j == b)]
   have e3:sm n c (fun j=>((decide (a+1<=j) && decide (j<=b)) && !p j) && (j == b))=c b:=by
    rw[<-JK c (show b<n by omega)];refine Df (fun j _=>?_);by_cases O:j=b
    ·subst O;rw[hb];simp;omega
    ·rw[show (j == b)=false by simpa using O];simp
   have e4:sm n c (fun j=>((decide (a+1<=j) && decide (j<=b)) && !p j) && !(j == b)) % 2=0:=by
    refine JM (mp ks) (fun x t K=>?_);simp only [Bool.and_eq_true,decide_eq_true_eq,Bool.not_eq_true',beq_eq_false_iff_ne]at K;obtain⟨⟨⟨p1,p2⟩,H⟩,p4⟩:=K
    have p5:ks.getD x 0 / 2=0:=by
     have hl:=h.k4 _ (List.getElem_mem (l:=ks) (n:=x) (by omega));rw[List.getD_eq_getElem?_getD,List.getElem?_eq_getElem (by omega),Option.getD_some];rw[q]at H;have H:(ks.getD x 0 / 2 == 1)=false:=H;have:¬(ks.getD x 0 / 2 == 1)=true:=by rw[H];decide
     rw[List.getD_eq_getElem?_getD,List.getElem?_eq_getElem (by omega),Option.getD_some]at this;have:¬ks[x] / 2=1:=fun e=>this (by rw[e];rfl);omega
    obtain⟨q1,V,q3⟩:=h.nest (by decide) A (by omega) (show x<b by omega) p5;refine⟨u x t,?_,L x t,y x t,J x t⟩;rw[v x t,H,decide_eq_true (show a+1<=mp ks x by omega),decide_eq_true (show mp ks x<=b by omega)];simp;omega
   rw[e3];have e5:=J a (by omega);rw[M]at e5;omega
  have e6:=C (a+1) b (by omega);have e7:=d a (by omega);rw[ha,if_neg (by decide)]at e7;omega
 refine⟨fun i=>W i % 2,fun i k=>?_⟩;have aa:W 0=0:=by rw[T];exact JL (fun j _=>by simp)
 have r:∀j,j<n->W ((j+1) % n) % 2=W (j+1) % 2:=fun j O=>by
  rcases(show j+1<n\/j+1=n by omega)with o|o
  ·rw[Nat.mod_eq_of_lt o]
  ·rw[o,Nat.mod_self,aa,P]
 have I:=h.kF (i:=i) (by rw[<-B];exact k);obtain⟨s,hs,⟨z,G⟩|⟨z,G⟩⟩:=h.cases (i:=i) (by rw[<-B];exact k)
 ·obtain rfl|rfl:s=0\/s=1:=by omega
  ·have o:=E _ _ G;have w:ks.getD i 0<2:=by rw[iQ z];decide
   refine⟨?_,by show (W (mp ks i) % 2+W i % 2) % 2=c i % 2;omega⟩;show W (tn ks (mp ks i)) % 2=W i % 2;unfold tn;rw[if_pos (I.2 w),y i k,<-B,r i k,d i k,if_neg (by rw[q];show ¬(ks.getD i 0 / 2 == 1)=true;rw[iQ z];decide)];rfl
  ·have o:=D _ _ G;have w:¬ks.getD i 0<2:=by rw[iQ z];decide
   have S:p i=true:=by rw[q];show (ks.getD i 0 / 2 == 1)=true;rw[iQ z];rfl
   have F:=d i k;have N:=d (mp ks i) (u i k);rw[if_pos S]at F;rw[v i k,if_pos S,J i k]at N;refine⟨?_,by show (W (mp ks i) % 2+W i % 2) % 2=c i % 2;omega⟩;show W (tn ks (mp ks i)) % 2=W i % 2;unfold tn;rw[if_neg (fun e=>w (I.1 e)),<-B,r _ (u i k)];omega
 ·obtain rfl|rfl:s=0\/s=1:=by omega
  ·have o:=E _ _ G;have w:ks.getD i 0<2:=by rw[iQ z];decide
   rw[J i k]at o;refine⟨?_,by show (W (mp ks i) % 2+W i % 2) % 2=c i % 2;omega⟩;show W (tn ks (mp ks i)) % 2=W i % 2;unfold tn;rw[if_pos (I.2 w),y i k,<-B,r i k,d i k,if_neg (by rw[q];show ¬(ks.getD i 0 / 2 == 1)=true;rw[iQ z];decide)];rfl
  ·have o:=D _ _ G;have w:¬ks.getD i 0<2:=by rw[iQ z];decide
   have S:p i=true:=by rw[q];show (ks.getD i 0 / 2 == 1)=true;rw[iQ z];rfl
   have F:=d i k;have N:=d (mp ks i) (u i k);rw[if_pos S]at F;rw[v i k,if_pos S,J i k]at N;refine⟨?_,by show (W (mp ks i) % 2+W i % 2) % 2=c i % 2;omega⟩;show W (tn ks (mp ks i)) % 2=W i % 2;unfold tn;rw[if_neg (fun e=>w (I.1 e)),<-B,r _ (u i k)];omega
end
theorem OD:∀(L:List Nat) (y:Nat),(L.map mt).count y=L.count (mt y)
 | [],_=>rfl
 | e :: L,y=>by
  rw[List.map_cons,List.count_cons,List.count_cons,OD L y];congr 1;by_cases a:e=mt y
  ·rw[a,dG];simp
  ·rw[if_neg (by simpa using fun b=>a (by rw[<-b,dG])),if_neg (by simpa using a)]
theorem iW.count{S:Nat->Nat}{Y:Nat->Bool}(f:∀x y,dB S x=dB S y->Y x=Y y):∀{l m:List Nat} {a z:Nat},iW S (a :: l)->a :: l=m ++ [z] ->
  (a :: l).countP (fun x=>Y (mt x))+(if Y a then 1 else 0)=(a :: l).countP Y+if Y (mt z)then 1 else 0
 | [],m,a,z,_,d=>by have g:=(List.append_inj' (s₁:=[]) d rfl).2;simp at g;subst g;simp[List.countP_cons];omega
 | b :: l,m,a,z,i,d=>by
  obtain⟨j,e⟩:∃j,b :: l=j ++ [z]:=by
   cases m with
   | nil=>simp at d
   | cons c m=>rw[List.cons_append,List.cons.injEq]at d;exact⟨m,d.2⟩
  have k:=iW.count f (l:=l) i.2 e;have n:=f _ _ i.1;simp only [List.countP_cons]at k ⊢;rw[n];omega
theorem vD.even{S:Nat->Nat}{Y:Nat->Bool}(b:∀x y,dB S x=dB S y->Y x=Y y){L:List Nat}(h:vD S L):L.countP (fun x=>Y (mt x))=L.countP Y:=by
 rcases hL:L with _|⟨a,l⟩
 ·rfl
 ·obtain⟨m,z,c⟩:∃m z,a :: l=m ++ [z]:=⟨_,_,(List.dropLast_concat_getLast (by simp)).symm⟩
  have d:=iW.count b (hL ▸ h.1) c;have e:=h.2 a z l m hL (by rw[hL];exact c);rw[b _ _ e]at d;omega
theorem OE{n:Nat}{S:Nat->Nat}(h:dU n S)(N:n % 2=0)(hn:0<n)(Q:∀x,x<n->dJ n S 0 x)(R:n / 2+1<=dY S n+dY (fun d=>S (mt d)) n):Et n S:=by
 obtain⟨T,-,-,k⟩:=EH h N (fun x y a q=>h.eY a q) hn;generalize (fun i=>(fC S (dB S) 0 i).1)=D at k;generalize jJ (fC S (dB S) 0 T).2=ks at k
 have hT:T=n:=by
  have o:T<=n:=by
   have:=BQ n ((List.range T).map D) (by
    rw[List.Nodup,List.pairwise_iff_getElem];intro i j c s aj z;simp only [List.length_map,List.length_range]at c s;simp only [List.getElem_map,List.getElem_range]at z;have:=k.inj i j c s z;omega) (fun x a=>by
    obtain⟨i,c,rfl⟩:=List.mem_map.1 a;exact k.lt i (List.mem_range.1 c))
   simpa using this
  have g:n<=T:=by have:=sV (List.range n) ((List.range T).map D) List.nodup_range (fun x a=>by obtain⟨i,c,rfl⟩:=k.uD x (List.mem_range.1 a) (Q x (List.mem_range.1 a));exact List.mem_map.2 ⟨i,List.mem_range.2 c,rfl⟩);simpa using this
  omega
 have U:=fun i (c:i<T)=>k.oO h hn N Q hT R c;have A:=k.wd;have b:=k.len;subst hT;have m:∀x,x<T->jf T D x<T/\D (jf T D x)=x:=fun x a=>EI (k.uD x a (Q x a));have t:∀i,i<T->jf T D (D i)=i:=fun i c=>by obtain⟨o,g⟩:=m (D i) (k.lt i c);exact k.inj _ _ o c g
 have w:∀i,i<T->D (tn ks i)=S (D i):=fun i c=>by
  unfold tn;by_cases O:ks.getD i 0<2
  ·rw[if_pos O,b];have F:=A.gW (i:=i) (by omega);rw[k.next _ (by omega),if_pos ((A.kF (by omega)).2 O),U i c,dG]
  ·rw[if_neg O,b,k.next i c,if_neg O]
 intro L B hL
 have p:∀X:Nat->Bool,∀L:List Nat,(∀e ∈ L,e<T)->sm T (fun i=>L.count (D i)) X=L.countP (fun e=>X (jf T D e)):=fun X L=>by
  induction L with
  | nil=>intro _;show sm T (fun _=>0) X=0;unfold sm;generalize (List.range T).filter X=l;induction l <;> simp_all
  | cons e L C =>
   intro F;have C:=C (fun x a=>F x (List.mem_cons_of_mem _ a));obtain⟨o,g⟩:=m e (F e (by simp));have G:sm T (fun i=>(e :: L).count (D i)) X=sm T (fun i=>L.count (D i)+if e == D i then 1 else 0) X:=by unfold sm;congr 1;exact List.map_congr_left (fun x _=>List.count_cons)
   rw[G,Oz,C,List.countP_cons];congr 1;rw[G9 T _ X (fun j=>j == jf T D e)]
   have V:sm T (fun i=>if e == D i then 1 else 0) (fun j=>X j && !(j == jf T D e))=0:=by
    unfold sm
    have:∀l:List Nat,(∀x ∈ l,(if e == D x then 1 else 0)=0)->(l.map fun i=>if e == D i then 1 else 0).sum=0:=by
     intro l
     induction l with
     | nil=>intro _;rfl
     | cons x l C=>intro z;rw[List.map_cons,List.sum_cons,z x (by simp),C (fun y q=>z y (List.mem_cons_of_mem _ q))]
    refine this _ (fun x a=>?_);obtain⟨W,I⟩:=List.mem_filter.1 a;rw[if_neg];intro z;rw[eq_of_beq z,t x (List.mem_range.1 W)]at I;simp at I
   rw[V,Nat.add_zero];by_cases a:X (jf T D e)=true
   ·rw[if_pos a]
    have e3:sm T (fun i=>if e == D i then 1 else 0) (fun j=>X j && (j == jf T D e))=sm T (fun i=>if e == D i then 1 else 0) (fun j=>j == jf T D e):=Df (fun j _=>by
     by_cases s:j=jf T D e
     ·rw[s,a];rfl
     ·rw[show (j == jf T D e)=false by simpa using s];simp)
    rw[e3,JK _ o,g];simp
   ·rw[if_neg a];refine JL (fun j _=>?_);by_cases s:j=jf T D e
    ·rw[s];simp at a;rw[a];rfl
    ·rw[show (j == jf T D e)=false by simpa using s];simp
 obtain⟨f,hf⟩:=A.CO (fun i=>L.count (D i)+L.count (mt (D i))) (fun i c=>by
  show _+_=_+_;rw[U i (by omega),dG];omega) (fun X hX=>by
  rw[b]at hX ⊢
  have J:∀k i,i<T->X i=true->X (dN (tn ks) k i)=true/\dN (tn ks) k i<T/\D (dN (tn ks) k i)=dN S k (D i):=fun k=>by
   induction k with
   | zero=>intro i c a;exact⟨a,c,rfl⟩
   | succ k C =>
    intro i c a;obtain⟨o,g,h3⟩:=C i c a;exact⟨hX _ g o,by rw[<-b]at g ⊢;exact A.iU.lt _ g,by show D (tn ks _)=S _;rw[w _ g,h3]⟩
  obtain⟨Y,hY⟩:∃Y:Nat->Bool,Y=fun x=>decide (x<T) && X (jf T D x):=⟨_,rfl⟩
  have aa:∀x y,x<T->y<T->dB S x=dB S y->Y x=true->Y y=true:=fun x y a q H o=>by rw[hY]at o ⊢;simp only [Bool.and_eq_true,decide_eq_true_eq]at o ⊢;obtain⟨q1,q2⟩:=m x a;obtain⟨j,s⟩:=(h.eY a q).1 H;obtain⟨r1,r2,r3⟩:=J j _ q1 o.2;rw[q2,s]at r3;refine⟨q,?_⟩;rw[<-r3,t _ r2];exact r1
  have K:∀e ∈ L,mt e<T:=fun e E=>dR N (B e E);obtain⟨Z,P⟩:∃Z:Nat->Bool,∀x,Z x=true↔∃y,y<T/\dB S y=dB S x/\Y y=true:=⟨fun x=>open Classical in decide (∃y,y<T/\dB S y=dB S x/\Y y=true),fun x=>by simp⟩
  have M:∀x,x<T->Z x=Y x:=fun x a=>by
   by_cases q:Y x=true
   ·rw[q];exact(P x).2 ⟨x,a,rfl,q⟩
   ·have:¬Z x=true:=fun v=>by obtain⟨y,ab,ad,ae⟩:=(P x).1 v;exact q (aa y x ab a ad ae)
    simp at q this;rw[q,this]
  have af:=vD.even (Y:=Z) (fun x y H=>by
   have:∀x y,dB S x=dB S y->Z x=true->Z y=true:=fun x y H v=>by obtain⟨u,o,g,h3⟩:=(P x).1 v;exact(P y).2 ⟨u,o,g.trans H,h3⟩
   by_cases v:Z x=true
   ·rw[v,this x y H v]
   ·have g:¬Z y=true:=fun ag=>v (this y x H.symm ag);simp at v g;rw[v,g]) hL
  have s1:=p X L B;have s2:=p X (L.map mt) (fun e E=>by obtain⟨x,a,rfl⟩:=List.mem_map.1 E;exact K x a);have s3:sm T (fun i=>(L.map mt).count (D i)) X=sm T (fun i=>L.count (mt (D i))) X:=by unfold sm;congr 1;refine List.map_congr_left (fun x _=>?_);exact OD L (D x)
  rw[Oz,s1,<-s3,s2,List.countP_map];have t1:L.countP (fun e=>X (jf T D e))=L.countP Z:=List.countP_congr (fun x a=>by have r:=B x a;rw[M x r,hY];simp[r]);have t2:L.countP ((fun e=>X (jf T D e)) ∘ mt)=L.countP (fun x=>Z (mt x)):=List.countP_congr (fun x a=>by have r:=K x a;rw[M _ r,hY];simp[r]);rw[t1,t2,af];omega)
 rw[b]at hf;refine⟨fun x=>f (jf T D x),fun x a=>?_⟩;obtain⟨o,g⟩:=m x a;have ah:=dR N a;have G:jf T D (mt x)=mp ks (jf T D x):=by have:=U _ o;rw[g]at this;rw[<-this,t];have:=A.gW (i:=jf T D x) (by omega);omega
 have V:jf T D (S (mt x))=ph ks (jf T D x):=by
  have F:mp ks (jf T D x)<T:=by have:=A.gW (i:=jf T D x) (by omega);omega
  have:=w _ F;rw[<-G,(m _ ah).2]at this;unfold ph;have ai:tn ks (jf T D (mt x))<T:=by have:=A.iU.lt (jf T D (mt x)) (by rw[b,G];exact F);rwa [b]at this
  rw[<-G,<-this,t _ ai]
 obtain⟨W,I⟩:=hf _ o;rw[g]at I;exact⟨by show f _=f _;rw[V,W],by show (f _+f _) % 2=_;rw[G];exact I⟩
end
