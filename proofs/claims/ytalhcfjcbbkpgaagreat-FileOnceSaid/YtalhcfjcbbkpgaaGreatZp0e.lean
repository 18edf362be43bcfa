import Derived.Test.YtalhcfjcbbkpgaaGreatZp0d
set_option maxRecDepth 100000
set_option maxHeartbeats 4000000
namespace Go.Proofs.YtalhcfjcbbkpgaaGreat
section
open Go.RowKit
theorem RQ:(Tryz.prog.info? 25).map (fun i=>(i.zero,i.size,i.bytes))=some (some (.slice none 0 0),1,24):=by kernel_rfl
def SS(B:Nat)(lab:Nat->Nat)(c:Nat)(w:World)(av:Value)(ls:List (List Nat)):Prop :=
 ∃a,a.length=ls.length/\w.ownsRow B 25 1 av a.length a/\(∀q,av.ownBlock=some q->lab q=c) /\
  ∀i l,ls[i]? = some l->∃v,a[i]? = some v/\dH B w v (dD l)/\∀q,v.ownBlock=some q->lab q=c+1+i
theorem SS.keeps{B:Nat}{lab:Nat->Nat}{c:Nat}{w w1:World}{av:Value}{ls:List (List Nat)}{F:Nat->Prop}(h:SS B lab c w av ls)(b:Keeps F w w1)(hF:∀q,F q->q<w.heap.size->lab q<c):SS B lab c w1 av ls:=by
 obtain⟨k,m,d,f,n⟩:=h;refine⟨k,m,b.owns d (fun q a e=>?_),f,fun i l o=>?_⟩
 ·have:=f q a;have:=hF q e (World.ownsRow.lt d q a).2;omega
 ·obtain⟨v,p,g,j⟩:=n i l o;exact⟨v,p,g.keeps b (fun q a e=>by have:=j q a;have:=hF q e (g.lt q a).2;omega),j⟩
theorem SS.Eh{B:Nat}{lab lab':Nat->Nat}{c:Nat}{w:World}{av:Value}{ls:List (List Nat)}(h:SS B lab c w av ls)(b:∀q,q<w.heap.size->lab' q=lab q):SS B lab' c w av ls:=by obtain⟨f,g,d,j,k⟩:=h;refine⟨f,g,d,fun q a=>by rw[b q (World.ownsRow.lt d q a).2];exact j q a,fun i l m=>?_⟩;obtain⟨v,n,e,o⟩:=k i l m;exact⟨v,n,e,fun q a=>by rw[b q (e.lt q a).2];exact o q a⟩
theorem SS.row{B:Nat}{lab:Nat->Nat}{c:Nat}{w:World}{av:Value}{ls:List (List Nat)}(h:SS B lab c w av ls){i:Nat}{l:List Nat}(f:ls[i]? = some l) :
  ∃g cap v,av=.slice (some ⟨g,0,none⟩) ls.length cap/\w.cell? ⟨g,i,none⟩=some v/\w.frozen? ⟨g,i,none⟩=false/\dH B w v (dD l)/\(∀q,v.ownBlock=some q->lab q=c+1+i)/\lab g=c/\B<=g/\g<w.heap.size:=by
 obtain⟨u,j,b,k,m⟩:=h;obtain⟨v,d,n,o⟩:=m i l f;obtain⟨g,cap,a,_,_,p,e,r⟩:=ru b (by have:=gX d;omega);obtain⟨s,t⟩:=p i v d;exact⟨g,cap,v,by rw[a,j],s,t,n,o,k g e,(World.ownsRow.lt b g e).1,r⟩
theorem SS.form{B:Nat}{lab:Nat->Nat}{c:Nat}{w:World}{av:Value}{ls:List (List Nat)}(h:SS B lab c w av ls)(f:0<ls.length):∃g cap,av=.slice (some ⟨g,0,none⟩) ls.length cap/\ls.length<=cap/\cap<=9223372036854775807:=by obtain⟨i,b,d,_,_⟩:=h;obtain⟨g,cap,a,j,e,_⟩:=ru d (by omega);exact⟨g,cap,by rw[a,b],by omega,by unfold maxLen at e;omega⟩
def oG(lab:Nat->Nat)(n c:Nat)(x:Nat):Nat:=if x<n then lab x else c
theorem zB{lab:Nat->Nat}{n c x:Nat}(h:x<n):oG lab n c x=lab x:=if_pos h
theorem SS.grow{B:Nat}{lab:Nat->Nat}{c:Nat}{w w1:World}{av v v':Value}{ls:List (List Nat)}{i g cap:Nat}{l:List Nat}(h:SS B lab c w av ls)(P:ls[i]? = some l)(b:av=.slice (some ⟨g,0,none⟩) ls.length cap)(p:w.cell? ⟨g,i,none⟩=some v)
  (l':List Nat)(y:dH B w1 v' (dD l'))(Q:Keeps (fun q=>v.ownBlock=some q) w w1)(z:∀q,v'.ownBlock=some q->v.ownBlock=some q\/w.heap.size<=q) :
  SS B (oG lab w.heap.size (c+1+i)) c (w1.setCell ⟨g,i,none⟩ v') av (ls.set i l')/\w1.cell? ⟨g,i,none⟩=some v/\w1.frozen? ⟨g,i,none⟩=false:=by
 obtain⟨T,G,H,U,R⟩:=h;obtain⟨u,A,V,I⟩:=R i l P;have W:(Value.slice (some ⟨g,0,none⟩) ls.length cap).ownBlock=some g:=rfl;have J:=U g (by rw[b];rfl);have K:=World.ownsRow.lt H g (by rw[b];rfl);obtain⟨X,C,d,_,_,Y,_,_⟩:=ru H (by have:=gX A;omega);rw[b]at d;simp only [Value.slice.injEq,Option.some.injEq,Addr.mk.injEq,and_true]at d;obtain⟨rfl,-,rfl⟩:=d;obtain⟨L,c2⟩:=Y i u A;rw[p]at L;simp only [Option.some.injEq]at L;subst L;have D:¬v.ownBlock=some g:=fun e=>by have:=I g e;omega
 have o:=Q.owns H (fun q a e=>by rw[b]at a;simp only [Value.ownBlock,Option.some.injEq]at a;subst a;exact D e);rw[b,<-G]at o;have E:=q5z o i v';have f:=fun q (a:q<w.heap.size)=>zB (lab:=lab) (n:=w.heap.size) (c:=c+1+i) a;obtain⟨_,_,_,_,_,F,_,_⟩:=ru o (by have:=gX A;omega);have M:w1.cell? ⟨g,i,none⟩=some v/\w1.frozen? ⟨g,i,none⟩=false:=by obtain⟨X,C,a,_,_,F,_,_⟩:=ru o (by have:=gX A;omega);simp only [Value.slice.injEq,Option.some.injEq,Addr.mk.injEq,and_true]at a;obtain⟨rfl,-,rfl⟩:=a;exact F i v A
 refine⟨⟨T.set i v',by simp[G],?_,fun q a=>?_,fun j m s=>?_⟩,M⟩
 ·rw[List.length_set,b,<-G];exact E
 ·rw[b]at a;simp only [Value.ownBlock,Option.some.injEq]at a;subst a;rw[f g K.2];exact J
 ·rw[List.getElem?_set]at s;have k:∀{x:Value} {zs:List Int},dH B w1 x zs->x.ownBlock≠some g->dH B (w1.setCell ⟨g,i,none⟩ v') x zs:=fun Z hn=>Z.other ⟨g,i,none⟩ hn v';by_cases r:i=j
  ·subst r;have N:=gX P;rw[if_pos rfl,if_pos N]at s;simp only [Option.some.injEq]at s;subst s;refine⟨v',by rw[List.getElem?_set,if_pos rfl,if_pos (by omega)],k y (fun e=>?_),fun q a=>?_⟩
   ·rcases z g e with t|t
    ·exact D t
    ·omega
   ·rcases z q a with t|t
    ·rw[f q (V.lt q t).2];exact I q t
    ·unfold oG;rw[if_neg (by omega)]
  ·rw[if_neg r]at s;obtain⟨u,m1,S,O⟩:=R j m s;refine⟨u,by rw[List.getElem?_set,if_neg r];exact m1,k (S.keeps Q (fun q a e=>?_)) (fun e=>?_),fun q a=>?_⟩
   ·have:=O q a;have:=I q e;omega
   ·have:=O g e;omega
   ·rw[f q (S.lt q a).2];exact O q a
theorem SS.push{B:Nat}{lab:Nat->Nat}{c:Nat}{w w1:World}{av:Value}{ls:List (List Nat)}{o:Obj}{g cap:Nat}(h:SS B lab c w av ls)
  (j:∀d,d.length=ls.length->w.ownsRow B 25 1 av d.length d->w1.ownsRow B 25 1 (.slice (some ⟨g,0,none⟩) (ls.length+1) cap) (ls.length+1) (d ++ [.slice none 0 0]))(f:(w.alloc o).grownBy w1 av.ownBlock)(p:av.ownBlock=some g\/w.heap.size<=g) :
  SS B (oG lab w.heap.size c) c w1 (.slice (some ⟨g,0,none⟩) (ls.length+1) cap) (ls ++ [[]]):=by
 obtain⟨d,m,u,x,C⟩:=h;have r:Keeps (fun q=>av.ownBlock=some q) w w1:=((Keeps.refl _ w).alloc _).grown f (fun k r=>.inl r);have b:=fun q (a:q<w.heap.size)=>zB (lab:=lab) (n:=w.heap.size) (c:=c) a;refine⟨d ++ [.slice none 0 0],by simp[m],?_,fun q a=>?_,fun i l s=>?_⟩
 ·rw[List.length_append,m];exact j d m u
 ·simp only [Value.ownBlock,Option.some.injEq]at a;subst a;rcases p with t|t
  ·rw[b g (World.ownsRow.lt u g t).2];exact x g t
  ·unfold oG;rw[if_neg (by omega)]
 ·rcases q22 s with s|⟨rfl,rfl⟩
  ·obtain⟨v,y,z,A⟩:=C i l s;refine⟨v,by rw[List.getElem?_append_left (gX y)];exact y,z.keeps r (fun q a e=>?_),fun q a=>by rw[b q (z.lt q a).2];exact A q a⟩;have:=x q e;have:=A q a;omega
  ·exact⟨.slice none 0 0,by rw[<-m];simp,dH.nil _ _,fun q a=>by simp[Value.ownBlock]at a⟩
end
section
open Go.RowKit
structure nk (w:World)(br gN:Nat)(ks st:List Nat)(ls:List (List Nat))(sv av:Value)(lab:Nat->Nat)(wr:World):Prop where
 res:wr.heap[br]? = some (.cells #[.slice none 0 0,.int .i64 0,.int .i64 0] 27 (0,0))/\lab br=1
 Di:dV w gN ks.length (fun zs=>zs=dD ((List.range ks.length).map (fA ks))) wr/\lab gN=2
 stk:dH w.heap.size wr sv (dD st)/\∀q,sv.ownBlock=some q->lab q=3
 out:SS w.heap.size lab 4 wr av ls
 fJ:Keeps (fun _=>False) w wr
section
variable {w wr w1:World} {br gN:Nat} {ks st:List Nat} {ls:List (List Nat)} {sv av:Value} {lab:Nat->Nat} (h:nk w br gN ks st ls sv av lab wr)
include h
theorem nk.rest{F:Nat->Prop}(a:Keeps F wr w1)(hF:∀q,F q->q<wr.heap.size->3<=lab q)(b:∀q,F q->w.heap.size<=q)(c:Nat) :
  (w1.heap[br]? = some (.cells #[.slice none 0 0,.int .i64 0,.int .i64 0] 27 (0,0))/\oG lab wr.heap.size c br=1) /\
  (dV w gN ks.length (fun zs=>zs=dD ((List.range ks.length).map (fA ks))) w1/\oG lab wr.heap.size c gN=2)/\Keeps (fun _=>False) w w1:=by
 have d:=lt_of_block h.res.1;have f:=h.Di.1.old.2;refine⟨⟨a.at h.res.1 (fun e=>by have:=hF br e d;have:=h.res.2;omega),by rw[zB d];exact h.res.2⟩,⟨h.Di.1.xA a (fun e=>by have:=hF gN e f;have:=h.Di.2;omega) b,by rw[zB f];exact h.Di.2⟩,h.fJ.trans a (fun q g e=>by have:=b q e;omega)⟩
theorem nk.grow{v v':Value}{i g cap:Nat}{l l':List Nat}(o:ls[i]? = some l)(f:av=.slice (some ⟨g,0,none⟩) ls.length cap)(a:wr.cell? ⟨g,i,none⟩=some v)
  (j:dH w.heap.size w1 v' (dD l'))(r:Keeps (fun q=>v.ownBlock=some q) wr w1)(m:∀q,v'.ownBlock=some q->v.ownBlock=some q\/wr.heap.size<=q) :
  nk w br gN ks st (ls.set i l') sv av (oG lab wr.heap.size (4+1+i)) (w1.setCell ⟨g,i,none⟩ v')/\w1.cell? ⟨g,i,none⟩=some v/\w1.frozen? ⟨g,i,none⟩=false:=by
 obtain⟨s1,s2,s3⟩:=h.out.grow o f a l' j r m;obtain⟨C,s,u,b,d,_,t,c,x,n,y⟩:=h.out.row o;rw[f]at b;simp only [Value.slice.injEq,Option.some.injEq,Addr.mk.injEq,and_true]at b;obtain⟨rfl,-,rfl⟩:=b;rw[a]at d;simp only [Option.some.injEq]at d;subst d;have k:Keeps (fun q=>v.ownBlock=some q\/q=g) wr (w1.setCell ⟨g,i,none⟩ v'):=(r.mono (fun q _ e=>.inl e)).setCell (p:=⟨g,i,none⟩) (.inl (.inr rfl)) v'
 obtain⟨z,A,B⟩:=h.rest k (fun q e b=>by
  rcases e with e|rfl
  ·have:=c q e;omega
  ·omega) (fun q e=>by
  rcases e with e|rfl
  ·exact(t.lt q e).1
  ·exact n) (4+1+i)
 refine⟨⟨z,A,⟨h.stk.1.keeps k (fun q b e=>?_),fun q b=>?_⟩,s1,B⟩,s2,s3⟩
 ·have:=h.stk.2 q b;rcases e with e|rfl
  ·have:=c q e;omega
  ·omega
 ·rw[zB (h.stk.1.lt q b).2];exact h.stk.2 q b
theorem nk.deeper{nC:Value}{st':List Nat}(b:dH w.heap.size w1 nC (dD st'))(d:Keeps (fun q=>sv.ownBlock=some q) wr w1)(c:∀q,nC.ownBlock=some q->sv.ownBlock=some q\/wr.heap.size<=q) :
  nk w br gN ks st' ls nC av (oG lab wr.heap.size 3) w1:=by
 obtain⟨f,g,i⟩:=h.rest d (fun q e a=>by have:=h.stk.2 q e;omega) (fun q e=>(h.stk.1.lt q e).1) 3;have j:=(SS.Eh (lab':=oG lab wr.heap.size 3) h.out (fun q a=>zB a)).keeps d (fun q e a=>by rw[zB a];have:=h.stk.2 q e;omega);refine⟨f,g,⟨b,fun q a=>?_⟩,j,i⟩;rcases c q a with e|e
 ·rw[zB (h.stk.1.lt q e).2];exact h.stk.2 q e
 ·unfold oG;rw[if_neg (by omega)]
theorem nk.higher{nC:Value}{st':List Nat}(a:dH w.heap.size wr nC (dD st'))(b:nC.ownBlock=sv.ownBlock):nk w br gN ks st' ls nC av lab wr :=
 ⟨h.res,h.Di,⟨a,fun q c=>h.stk.2 q (by rw[<-b];exact c)⟩,h.out,h.fJ⟩
theorem nk.push{o:Obj}{g cap:Nat}(b:∀c,c.length=ls.length->wr.ownsRow w.heap.size 25 1 av c.length c->w1.ownsRow w.heap.size 25 1 (.slice (some ⟨g,0,none⟩) (ls.length+1) cap) (ls.length+1) (c ++ [.slice none 0 0]))(a:(wr.alloc o).grownBy w1 av.ownBlock)(j:av.ownBlock=some g\/wr.heap.size<=g) :
  nk w br gN ks st (ls ++ [[]]) sv (.slice (some ⟨g,0,none⟩) (ls.length+1) cap) (oG lab wr.heap.size 4) w1:=by
 have m:=h.out.push b a j;have d:=h.out;obtain⟨c,t,n,l,u⟩:=d;have i:Keeps (fun q=>av.ownBlock=some q) wr w1:=((Keeps.refl _ wr).alloc _).grown a (fun k i=>.inl i);obtain⟨p,r,s⟩:=h.rest i (fun q e f=>by have:=l q e;omega) (fun q e=>(World.ownsRow.lt n q e).1) 4;refine⟨p,r,⟨h.stk.1.keeps i (fun q f e=>?_),fun q f=>by rw[zB (h.stk.1.lt q f).2];exact h.stk.2 q f⟩,m,s⟩;have:=h.stk.2 q f;have:=l q e;omega
end
theorem dV.base{w b wr:World}{g n:Nat}{P:List Int->Prop}(h:dV b g n P wr)(a:Keeps (fun _=>False) w b):dV w g n P wr:=by have:=a.size;obtain⟨zs,d,e,c,f⟩:=h;exact⟨zs,d,e,c.mono (fun k a=>by have:=(c.lt k a).1;omega),a.trans f (fun _ _ h=>h)⟩
theorem RS{w f w1:World}{br gN:Nat}{ks:List Nat}(n:br=w.heap.size)(b:Keeps (fun _=>False) w f)(o:br<f.heap.size)(k:f.heap[br]? = some (.cells #[.slice none 0 0,.int .i64 0,.int .i64 0] 27 (0,0)))(m:dV f gN ks.length (fun zs=>zs=dD ((List.range ks.length).map (fA ks))) w1) :
  ∃lab,nk w br gN ks (0 :: (stk ks 0).map (vo ks)) (uO ks 0) (.slice (some ⟨w1.heap.size+1,0,none⟩) 1 1) (.slice (some ⟨w1.heap.size,0,none⟩) 1 1) lab ((w1.alloc (.cells #[.slice none 0 0] 25)).alloc (.cells #[.int .i64 0] 3)):=by
 have t:=m.old;have c:Keeps (fun _=>False) f w1:=by obtain⟨_,_,_,_,h⟩:=m;exact h
 have d:Keeps (fun _=>False) w1 ((w1.alloc (.cells #[.slice none 0 0] 25)).alloc (.cells #[.int .i64 0] 3)):=((Keeps.refl _ w1).alloc _).alloc _;have p:=b.size;have hsz1:=c.size;refine⟨fun x=>if x=br then 1 else if x=gN then 2 else if x=w1.heap.size+1 then 3 else 4,⟨d.at (c.at k (fun h=>h)) (fun h=>h),if_pos rfl⟩,⟨(m.base b).keeps d,?_⟩,⟨?_,?_⟩,⟨[.slice none 0 0],rfl,?_,?_,?_⟩,(b.trans c (fun _ _ h=>h)).trans d (fun _ _ h=>h)⟩
 ·show (if gN=br then 1 else if gN=gN then 2 else if gN=w1.heap.size+1 then 3 else 4)=2;rw[if_neg (by omega),if_pos rfl]
 ·have g:=q3z (w1.alloc (.cells #[.slice none 0 0] 25)) 0;have r:(w1.alloc (.cells #[.slice none 0 0] 25)).heap.size=w1.heap.size+1:=by simp
  rw[r]at g;exact g.mono (fun q a=>by simp only [Value.ownBlock,Option.some.injEq]at a;omega)
 ·intro q a;simp only [Value.ownBlock,Option.some.injEq]at a;show (if q=br then 1 else if q=gN then 2 else if q=w1.heap.size+1 then 3 else 4)=3;rw[if_neg (by omega),if_neg (by omega),if_pos a.symm]
 ·have g:=World.ownsRow_lit (base:=w.heap.size) (e:=25) (size:=1) w1 #[.slice none 0 0] 1 (by omega) (by unfold maxLen;omega) rfl;exact World.ownsRow.alloc g _
 ·intro q a;simp only [Value.ownBlock,Option.some.injEq]at a;show (if q=br then 1 else if q=gN then 2 else if q=w1.heap.size+1 then 3 else 4)=4;rw[if_neg (by omega),if_neg (by omega),if_neg (by omega)]
 ·intro i l j
  have:i=0/\l=[]:=by
   have s:uO ks 0=[[]]:=rfl;rw[s]at j;cases i with
   | zero=>simp at j;exact⟨rfl,j⟩
   | succ i=>simp at j
  obtain⟨rfl,rfl⟩:=this;exact⟨_,rfl,dH.nil _ _,fun q a=>by simp[Value.ownBlock]at a⟩
theorem RU(ks:List Nat)(m:Nat):(dD ks).take m=dD (ks.take m):=by simp[dD]
theorem RV{w:World}{base:Nat}{e:TypeId}{v:Value}{n:Nat}{b ys:List Value}(h:w.ownsRow base e 1 v n b)(k:w.ownsRow base e 1 v n ys):b=ys:=by
 have t:=h.1;have u:=k.1;apply List.ext_getElem?;intro j;rcases Nat.lt_or_ge j n with p|p
 ·obtain⟨g,cap,q,_,_,r,_⟩:=ru h (by omega);obtain⟨x,d,a,_,_,c,_⟩:=ru k (by omega);rw[q]at a;simp only [Value.slice.injEq,Option.some.injEq,Addr.mk.injEq,and_true]at a;obtain⟨rfl,-,rfl⟩:=a;have f:=List.getElem?_eq_getElem (l:=b) (i:=j) (by omega);have m:=List.getElem?_eq_getElem (l:=ys) (i:=j) (by omega);have s:=(r j _ f).1;have o:=(c j _ m).1;rw[s]at o;rw[f,m];exact o
 ·rw[List.getElem?_eq_none (by omega),List.getElem?_eq_none (by omega)]
def fI(sv:Value)(rt ln:Int):Value:=.agg #[sv,.int .i64 rt,.int .i64 ln]
theorem RX(ks:List Nat)(j:Nat):(dD (0 :: (stk ks j).map (vo ks)))[(stk ks j).length]? = some ((vx ks j:Nat):Int):=by refine jA ?_;have:=RH (ks:=ks) j;rw[List.getLast?_eq_getElem?]at this;simpa using this
def FP(ks:List Nat)(v k:Nat)(zs:List Int):Prop:=∀u i p,(u<v\/(u=v/\i<k))->(pl ks u)[i]? = some p->zs[fA ks p]? = some ((fA ks (tn ks p):Nat):Int)
theorem FP.step{ks:List Nat}{v k p:Nat}{zs:List Int}(f:Wd ks)(l:zs.length=ks.length)(g:(pl ks v)[k]? = some p)(h:FP ks v k zs):FP ks v (k+1) (zs.set (fA ks p) ((fA ks (tn ks p):Nat):Int)):=by
 intro u i q m b;obtain⟨c,n⟩:=yK.1 (List.mem_of_getElem? g);obtain⟨d,o⟩:=yK.1 (List.mem_of_getElem? b);rw[List.getElem?_set];by_cases a:fA ks p=fA ks q
 ·have:=f.ig.inj _ _ c d a;subst this;rw[if_pos rfl,if_pos (by rw[l];exact f.jI c)]
 ·rw[if_neg a];refine h u i q ?_ b;rcases m with j|⟨rfl,j⟩
  ·exact .inl j
  ·refine .inr ⟨rfl,?_⟩;have:i≠k:=fun e=>by subst e;rw[g]at b;simp only [Option.some.injEq]at b;exact a (by rw[b])
   omega
theorem FP.next{ks:List Nat}{v:Nat}{zs:List Int}(h:FP ks v (pl ks v).length zs):FP ks (v+1) 0 zs:=by
 intro u i p c b;refine h u i p ?_ b;rcases c with d|⟨_,d⟩
 ·by_cases a:u=v
  ·subst a;exact .inr ⟨rfl,gX b⟩
  ·exact .inl (by omega)
 ·omega
theorem FP.all{ks:List Nat}{zs:List Int}(b:Wd ks)(n:zs.length=ks.length)(h:FP ks (eG ks 0+1) 0 zs):zs=dD (dN ks):=by
 apply List.ext_getElem?;intro d;rcases Nat.lt_or_ge d ks.length with a|a
 ·have g:=b.ig.eF a;have c:=b.ig.fD a;generalize e:gq (fA ks) d=p at *;have k:p ∈ pl ks (vx ks p):=yK.2 ⟨g,rfl⟩;obtain⟨i,l,f⟩:=List.mem_iff_getElem.1 k;have j:=b.sW (Nat.le_of_lt g) (Nat.le_refl ks.length);rw[List.take_of_length_le (Nat.le_refl _)]at j;have:=h (vx ks p) i p (.inl j) (by rw[List.getElem?_eq_getElem l,f]);rw[c]at this;rw[this];have m:sD ks d=fA ks (tn ks p):=by unfold sD;rw[e]
  simp[dD,dN,a,m]
 ·rw[List.getElem?_eq_none (by omega),List.getElem?_eq_none (by simp[dD,dN];exact a)]
theorem RY(lv:Value)(ks:List Nat)(w:World)(hs:Sl .i64 w lv (dD ks))(hW:Wd ks)(hl:ks.length<=1000000) :
  Calls Tryz.prog 83 #[lv] w fun e w'=>∃sv,e=.returned (fI sv (if ks.length=0 then -1 else 0) (if ks.length=0 then 1 else 0))/\dH w.heap.size w' sv (dD (dN ks))/\Keeps (fun _=>False) w w':=by
 have HS:Hid (∀W,Keeps (fun _=>False) w W->Sl .i64 W lv (dD ks)):=dh (fun W hk=>hs.keeps hk (fun _ _ h=>h));obtain⟨a,cap,rfl,bN,cr⟩:=hs.form;rw[q01]at bN HS ⊢;clear hs;by_cases h0:ks.length=0
 ·rw[if_pos h0,if_pos h0];have hz:ks=[]:=List.eq_nil_of_length_eq_zero h0;subst hz;have b:dN ([]:List Nat)=[]:=rfl;have HF:=dh b;clear HS h0 b hW;go_enter Tryz.func83,Tryz.ntmps83;go_wp2;refine bodyPost_ret (v:=fI (.slice none 0 0) (-1) 1) (by simp[results,Tryz.results83,go_sem,fI]) rfl ?_;refine⟨_,rfl,by rw[HF.out];exact dH.nil _ _,?_⟩
  repeat (first|exact Keeps.refl _ _|refine Keeps.setCell ?_ (.inr (by simp)) _|refine Keeps.alloc ?_ _)
 ·rw[if_neg h0,if_neg h0];obtain⟨br,c⟩:∃br,br=w.heap.size:=⟨_,rfl⟩
  have k0:Keeps (fun _=>False) w (w.alloc (.cells #[.slice none 0 0,.int .i64 0,.int .i64 0] 27)):=(Keeps.refl _ w).alloc _;have ae:(w.alloc (.cells #[.slice none 0 0,.int .i64 0,.int .i64 0] 27)).heap[br]? = some (.cells #[.slice none 0 0,.int .i64 0,.int .i64 0] 27 (0,0)):=by rw[c];exact heap_alloc_new w _
  have hN:=RD (.slice a ks.length cap) ks _ (HS.out _ k0) hW hl;have HB:=dh (dn c (dn k0 ae));have HW:=dh hW;have bc:Hid (w.heap.size<=br):=dh (by omega);have cs:(((ks.length:Nat):Int) == 0)=false:=by rw[beq_eq_false_iff_ne];omega
  clear c k0 ae hW;go_enter Tryz.func83,Tryz.ntmps83;go_wp2_with fail;refine hN.mono ?_;rintro e w1 ⟨gN,rfl,bd⟩;clear hN;obtain⟨lab,K⟩:=RS HB.out.1 HB.out.2.1 (lt_of_block HB.out.2.2) HB.out.2.2 bd;have aJ:=HB.out.1;clear bd HB;go_wp2_with fail;rw[<-aJ];clear aJ;have h5:∃lab,nk w br gN ks (0 :: (stk ks 0).map (vo ks)) (uO ks 0) (.slice (some ⟨w1.heap.size+1,0,none⟩) 1 1) (.slice (some ⟨w1.heap.size,0,none⟩) 1 1) lab ((w1.alloc (.cells #[.slice none 0 0] 25)).alloc (.cells #[.int .i64 0] 3)):=⟨lab,K⟩
  clear K;generalize World.alloc (World.alloc _ _) _=wM at *;go_loopg [4,5,25] ks.length (fun m av sv i wr=>∃j:Nat,j<=ks.length/\m=ks.length - j/\i=.int .i64 j/\∃lab,nk w br gN ks (0 :: (stk ks j).map (vo ks)) (uO ks j) sv av lab wr)
  case atStart=>exact⟨0,Nat.zero_le _,rfl,rfl,h5⟩
  case round =>
   clear h5;obtain⟨j,hj,M,rfl,lab,K⟩:=hrel;have HG:=dh M;clear M;by_cases F:j<ks.length
   ·have af:=List.getElem?_eq_getElem F;obtain⟨ag,off,rfl,aU⟩:=(HS.out wr K.fJ).cellAt (jA af);have ct:=HW.out.k4 _ (List.mem_of_getElem? af);have aA:=K.stk.1;have ah:(dD (0 :: (stk ks j).map (vo ks))).length=(stk ks j).length+1:=by simp[dD]
    have be:=aA.form;rw[ah]at be;obtain⟨sa,sc,rfl,bf,ci⟩:=be;obtain⟨aB,rfl⟩:=oU aA (by rw[ah];omega);have ai:=(aA.cell (RX ks j)).1;have aa:=HW.out.sW (Nat.le_refl j) (Nat.le_of_lt F);have bO:eG (ks.take j) 0<=1000000:=by have:=FN (ks.take j) 0;have:(ks.take j).length<=j:=List.length_take_le _ _;omega
    have aj:=Ef aa;obtain⟨H,ca,rv,aC,N,aD,aE,bP,_,cj,ck⟩:=K.out.row aj;have aK:=aC;rw[yL]at aK;obtain rfl:=aK;obtain⟨zn,⟨zs,_,rfl,bg⟩,ak,_⟩:=K.Di.1.cell j F;have bh:zn=(fA ks j:Nat):=by simp[dD,F]at bg;exact bg.symm
    obtain rfl:=bh;have al:=HW.out.xD af;have bi:=aE.form;obtain⟨ra,rc,rfl,aL,cl⟩:=bi
    have t:(stk ks j).length<=1000000:=by
                          have:=(HW.out.nG j hj).1;have h2:DD ks j<=eG (ks.take j) 0:=by unfold DD;omega
                          omega
    have bQ:=K.fJ.size;obtain⟨n1,O⟩:∃n1,n1=(dD ((rP ks j (vx ks j)).map (fA ks))).length:=⟨_,rfl⟩
    have bj:n1<=10000000000:=by
     rw[O];have U:(rP ks j (vx ks j)).length<=j:=by have:=List.length_filter_le (fun p=>vx ks p == vx ks j) (List.range j);simpa [rP]using this
     simp[dD];omega
    have am:=aE;rw[<-O]at am N aL;have an:=fun (w1:World) (v':Value) (l':List Nat)=>K.grow (w1:=w1) (v':=v') (l':=l') (cap:=ca) aj (by rw[yL]) N;have bk:=dh (dn an (dn al aE));have HN:Hid ((dD ((rP ks j (vx ks j)).map (fA ks))).length=n1):=dh O.symm;have HD:=dh K;clear O aE an al aj aA ah K;obtain⟨V,hV⟩:∃V,V=vx ks j:=⟨_,rfl⟩
    obtain⟨y,hy⟩:∃y,y=fA ks j:=⟨_,rfl⟩
    obtain⟨L,hL⟩:∃L,L=(stk ks j).length:=⟨_,rfl⟩
    obtain⟨B,J⟩:∃B,B=eG (ks.take j) 0:=⟨_,rfl⟩
    have n:=dh (dn hV (dn hy (dn hL J)));rw[<-hV]at ai aa N aD;rw[<-hy]at ak;rw[<-hL]at ai t bf;rw[<-J]at aa bO;rw[<-hL,<-J];clear hV hy hL J bP aL;generalize bl:ks[j]=x at *;have HX:=dh (dn af bl);clear af bl;have cu:(0:Int)<=(V:Int):=by omega
    have cv:(V:Int)<(B:Int)+1:=by omega
    have cw:(0:Int)<=(j:Int):=by omega
    have cx:(j:Int)<(ks.length:Int):=by omega
    have bR:=fun (o:Obj)=>vK N o;have bS:=fun (o:Obj)=>vK ak o;go_upto_region 10 with fail;go_cut []from 36 to 48 (fun wz=>∃wx,wx=wz/\∃lab,nk w br gN ks (0 :: (stk ks j).map (vo ks)) ((uO ks j).set (vx ks j) ((rP ks j (vx ks j)).map (fA ks) ++ [fA ks j])) (.slice (some ⟨aB,0,none⟩) (L+1) sc) (.slice (some ⟨H,0,none⟩) (B+1) ca) lab wx)
    case first =>
     go_region_law ((refine Lh n1 rfl (.tmp 41) (.tmp 46) rfl w.heap.size (.slice ra n1 rc) (dD ((rP ks j (vx ks j)).map (fA ks))) (y:Nat) HN wr.heap.size rfl (by simp[Act.eval]) (by simp[Act.eval]) am bj bQ ?_);intro g2 s X D ao ap hg;have hG:=bk.out.1 X (.slice (some ⟨g2,0,none⟩) (n1+1) s) ((rP ks j (vx ks j)).map (fA ks) ++ [fA ks j]) (by rw[tV,<-n.out.2.1];exact D) ao (fun q hq=>by simp only [Value.ownBlock,Option.some.injEq]at hq;subst hq;exact ap);have d0:X.cell? ⟨H,V,none⟩=some (.slice ra n1 rc):=(by rw[n.out.1];exact hG.2.1);have f0:X.frozen? ⟨H,V,none⟩=false:=(by rw[n.out.1];exact hG.2.2);have HP:=dh hG.1;clear hG D ao ap)
     all_goals
      have b:=HP.out;rw[<-n.out.1]at b;have HF:=dh b;clear b d0 f0;go_wp2_with fail;go_meet;exact⟨_,rfl,_,by rw[<-n.out.1,n.out.2.2.1,n.out.2.2.2];exact HF.out⟩
    case rest =>
     obtain⟨wx,rfl,cm,A⟩:=hcut;have f:=bk.out.2.1;have ab:=Ap HX.out.1;clear bR bS N aD ak ai aU am;have bm:=A.fJ.size;have E:=A.stk.1;have bT:x=0\/x=1\/2<=x:=by omega
     rcases bT with rfl|rfl|cy
     ·rw[if_pos rfl]at f;have R:stk ks (j+1)=stk ks j ++ [j]:=by rw[stk];rw[ab,if_pos rfl]
      have bn:vo ks j=B+1:=by rw[n.out.2.2.2];rfl
      have aM:(0 :: (stk ks (j+1)).map (vo ks))=(0 :: (stk ks j).map (vo ks)) ++ [B+1]:=by rw[R];simp[bn]
      have bU:Hid ((dD (0 :: (stk ks j).map (vo ks))).length=L+1):=dh (by rw[n.out.2.2.1];simp[dD]);have bV:L+1<=10000000000:=by omega
      have bW:=dh A;have bo:=dh (dn f aM);clear f ab R bn aM A;obtain⟨i2,bX,bY,bZ,b0⟩:=info_parts RQ;have aN:((uO ks j).set (vx ks j) ((rP ks j (vx ks j)).map (fA ks) ++ [fA ks j])).length=B+1:=by rw[List.length_set,yL,n.out.2.2.2]
      have aV:=dh aN;clear aN
      have b1:Hid (∀(g2 s:Nat) (X:World),dH w.heap.size X (.slice (some ⟨g2,0,none⟩) (L+1+1) s) (dD (0 :: (stk ks j).map (vo ks)) ++ [(B:Int)+1])->Keeps (fun q=>(Value.slice (some ⟨aB,0,none⟩) (L+1) sc).ownBlock=some q) wx X->((Value.slice (some ⟨aB,0,none⟩) (L+1) sc).ownBlock=some g2\/wx.heap.size<=g2) ->
        ∃vs aO,nk w br gN ks (0 :: (stk ks (j+1)).map (vo ks)) ((uO ks j).set (vx ks j) ((rP ks j (vx ks j)).map (fA ks) ++ [fA ks j])) (.slice (some ⟨g2,0,none⟩) (L+1+1) s) (.slice (some ⟨H,0,none⟩) (B+1) ca) aO X/\X.ownsRow w.heap.size 25 1 (.slice (some ⟨H,0,none⟩) (B+1) ca) (B+1) vs/\vs.length=B+1):=dh (fun g2 s X U h2 h3=>by
       have hh:=bW.out.deeper (st':=0 :: (stk ks (j+1)).map (vo ks)) (nC:=.slice (some ⟨g2,0,none⟩) (L+1+1) s) (w1:=X) (by rw[bo.out.2,tV];exact U) h2 (fun q hq=>by simp only [Value.ownBlock,Option.some.injEq]at hq;subst hq;exact h3);obtain⟨vs,k1,k2,_⟩:=id hh.out;rw[aV.out]at k1;rw[k1]at k2;exact⟨vs,_,hh,k2,k1⟩)
      go_wp2_with (first | (at_builtin;refine oz (L+1) rfl (.tmp 51) (.tmp 54) rfl w.heap.size (.slice (some ⟨aB,0,none⟩) (L+1) sc) (dD (0 :: (stk ks j).map (vo ks))) ((B:Int)+1) bU wx.heap.size rfl rfl rfl E bV bm ?_;intro g2 s X D ao ap hg;obtain⟨vs,aO,aW,aX,aa⟩:=b1.out g2 s X D ao ap;have b2:=dh aW;have cz:=dh aa;have cA:=aW.fJ.size;clear D ao ap aW aa) | (at_builtin;go_loud (refine wpList_append_lies _ rfl (.tmp 56) (.tmp 57) 187 rfl w.heap.size 25 i2 (.slice none 0 0) 1 24 Tryz.underlying187 bX bY bZ b0 rfl (by decide) (.slice (some ⟨H,0,none⟩) (B+1) ca) (B+1) vs rfl (aX.alloc _) ⟨X.heap.size,0,none⟩ 1 1 [.slice none 0 0] rfl rfl (cell_one_new _ _ _) (by intro u hu;simp at hu;subst hu;rfl) (by decide) (by unfold maxLen;omega) (by omega) (by simp;omega) (X.heap.size+1) (by simp) ?_);intro g4 bp w4 aq Y aP co))
      have b:=b2.out.push (o:=.cells #[.slice none 0 0] 25) (w1:=w4) (g:=g4) (cap:=bp) (fun cB U h2=>by rw[aV.out]at U ⊢;rw[U]at h2;rw[RV h2 aX];exact aq) Y (aP.imp id (fun h=>by omega));rw[aV.out,<-bo.out.1]at b;have HF:=dh b;clear b aq Y aP aX E;go_roundg (ks.length - (j+1))
      case measure=>rw[HG.out];omega
      case rel=>exact⟨j+1,by omega,rfl,by go_num,_,HF.out⟩
     ·rw[if_neg (by omega),List.append_nil]at f;have R:stk ks (j+1)=(stk ks j).dropLast:=by rw[stk];rw[ab,if_neg (by omega),if_pos rfl]
      have cC:0<L:=by have U:=wN HX.out.1;simp[dd]at U;have h2:=HW.out.l8 (p:=j+1) (by omega);have h3:=(HW.out.nG j (by omega)).1;rw[<-n.out.2.2.1]at h3;omega
      have aY:=E.take rfl L (by rw[show (dD (0 :: (stk ks j).map (vo ks))).length=L+1 by rw[n.out.2.2.1];simp[dD]];omega)
      have aQ:(dD (0 :: (stk ks j).map (vo ks))).take L=dD (0 :: (stk ks (j+1)).map (vo ks)):=by
       rw[R,RU];congr 1;obtain⟨L',rfl⟩:∃L',L=L'+1:=⟨L - 1,by omega⟩
       have b3:=n.out.2.2.1;rw[List.take_succ_cons,List.dropLast_eq_take,<-List.map_take,<-b3];rfl
      rw[aQ]at aY;have b:=A.higher aY rfl;rw[<-f]at b;have HF:=dh b;clear b aY aQ R E f ab A;go_wp2;go_roundg (ks.length - (j+1))
      case measure=>rw[HG.out];omega
      case rel=>exact⟨j+1,by omega,rfl,by go_num,_,HF.out⟩
     ·rw[if_neg (by omega),List.append_nil]at f;have R:stk ks (j+1)=stk ks j:=by rw[stk];rw[ab,if_neg (by omega),if_neg (by omega)]
      rw[<-f,<-R]at A;have ae:(((x:Nat):Int) == 0)=false:=by rw[beq_eq_false_iff_ne];omega
      have bq:(((x:Nat):Int) == 1)=false:=by rw[beq_eq_false_iff_ne];omega
      have HF:=dh A;clear A R E f ab;go_wp2;go_roundg (ks.length - (j+1))
      case measure=>rw[HG.out];omega
      case rel=>exact⟨j+1,by omega,rfl,by go_num,_,HF.out⟩
   ·obtain rfl:j=ks.length:=by omega
    obtain⟨C,aF⟩:∃C,C=wr.heap.size:=⟨_,rfl⟩
    have hO:=dV.made' K.fJ ks.length (FP ks 0 0) (fun u i p hu=>by omega) (by omega);have aZ:(uO ks ks.length).length=eG ks 0+1:=by rw[yL,List.take_of_length_le (Nat.le_refl _)]
    obtain⟨H,ca,rfl,aR,cp⟩:=K.out.form (by omega);rw[aZ]at aR;have b4:eG ks 0<=1000000:=Nat.le_trans (FN ks 0) hl;have bs:∀v,v<eG ks 0+1->∃rv,wr.cell? ⟨H,v,none⟩=some rv/\dH w.heap.size wr rv (dD ((pl ks v).map (fA ks))):=by intro v hv;have aj:=Ef (ks:=ks) (j:=ks.length) (v:=v) (by rw[List.take_of_length_le (Nat.le_refl _)];exact hv);obtain⟨g,cap,rv,aC,U,_,h2,_⟩:=K.out.row aj;simp only [Value.slice.injEq,Option.some.injEq,Addr.mk.injEq,and_true]at aC;obtain⟨rfl,-⟩:=aC;exact⟨rv,U,h2⟩
    have ar:=K.res.1;have bt:=lt_of_block ar;have A:=K.fJ;rw[<-aF]at hO;have aS:C=wr.heap.size:=aF;have b5:=dh aF;rw[aZ];clear aF aZ F hj HG K;obtain⟨ii,hi,bu,bv,bw⟩:=info_parts nX;have b6:=fun w=>run_make (P:=Tryz.prog) w 25 3 ii _ Tryz.underlying25 hi bu .i64 .i64 (ks.length:Int) (ks.length:Int) (by omega) (Int.le_refl _) (by rw[bw];omega) (by omega);simp only [bv,Int.toNat_natCast,Nat.mul_one]at b6;clear hi bu bv bw;have b7:∃w5:World,w5=(wr.alloc (.cells (madeCells #[.int .i64 0] ks.length) 3)).alloc (.cells #[.slice (some ⟨C,0,none⟩) ks.length ks.length,.int .i64 0,.int .i64 0] 27):=⟨_,rfl⟩
    obtain⟨w5,au⟩:=b7;have a0:Keeps (fun _=>False) wr w5:=by rw[au];exact((Keeps.refl _ wr).alloc _).alloc _
    have bx:dV w C ks.length (FP ks 0 0) w5:=by rw[au];exact hO.keeps ((Keeps.refl _ _).alloc _)
    have bz:w5.heap[C+1]? = some (.cells #[.slice (some ⟨C,0,none⟩) ks.length ks.length,.int .i64 0,.int .i64 0] 27 (0,0)):=by rw[au,aS];have:=heap_alloc_new (wr.alloc (.cells (madeCells #[.int .i64 0] ks.length) 3)) (.cells #[.slice (some ⟨wr.heap.size,0,none⟩) ks.length ks.length,.int .i64 0,.int .i64 0] 27);simpa using this
    have aw:Hid (∀W,Keeps (fun q=>q=C) w5 W->W.heap[C+1]? = some (.cells #[.slice (some ⟨C,0,none⟩) ks.length ks.length,.int .i64 0,.int .i64 0] 27 (0,0))/\W.heap[br]? = some (.cells #[.slice none 0 0,.int .i64 0,.int .i64 0] 27 (0,0)) /\
      ∀v,v<eG ks 0+1->∃rv,W.cell? ⟨H,v,none⟩=some rv/\Sl .i64 W rv (dD ((pl ks v).map (fA ks)))):=dh (fun W hk=>by
     have a1:Keeps (fun q=>q=C) wr W:=(a0.mono (fun _ _ h=>h.elim)).trans hk (fun _ _ h=>h);refine⟨hk.at bz (by omega),a1.at ar (by omega),fun v hv=>?_⟩;obtain⟨rv,U,h2⟩:=bs v hv;refine⟨rv,?_,(h2.keeps a1 (fun q hq e=>by have:=(h2.lt q hq).2;omega)).sl⟩;have aG:H<wr.heap.size:=World.block_lt_of_cell? _ _ U;rw[World.cell?_of_block (w:=wr) (a1.block H aG (fun e=>by omega))];exact U)
    have b8:=dh (dn au (dn A a0));have bA:=Keeps.refl (fun q=>q=C) w5;clear hO bs ar A au a0 bz aS;go_wp2_with fail;rw[<-b5.out,<-b8.out.1];clear bt;obtain⟨B,J⟩:∃B,B=eG ks 0:=⟨_,rfl⟩
    rw[<-J]at b4 aR aw;rw[<-J];have b9:=dh J;clear J;go_loopg [73] (B+1) (fun m i wr=>∃v:Nat,v<=B+1/\m=B+1 - v/\i=.int .i64 v/\dV w C ks.length (FP ks v 0) wr/\Keeps (fun q=>q=C) w5 wr)
    case atStart=>exact⟨0,Nat.zero_le _,rfl,rfl,bx,bA⟩
    case round =>
     clear bx bA;obtain⟨v,hv,M,rfl,hM,r⟩:=hrel;have HG:=dh M;clear M;obtain⟨G,c,T⟩:=aw.out _ r;by_cases F:v<B+1
     ·obtain⟨rv,a2,t⟩:=T v F;obtain⟨ra,rc,rfl,a3,bB⟩:=t.form;have bC:(dD ((pl ks v).map (fA ks))).length=(pl ks v).length:=by simp[dD]
      rw[bC]at a2 a3 t;have cq:(pl ks v).length<=1000000:=by have:=List.length_filter_le (fun p=>vx ks p == v) (List.range ks.length);simp[pl,rP]at this ⊢;omega
      have HC:Hid (∀W,Keeps (fun q=>q=C) w5 W->Sl .i64 W (.slice ra (pl ks v).length rc) (dD ((pl ks v).map (fA ks)))/\W.heap[C+1]? = some (.cells #[.slice (some ⟨C,0,none⟩) ks.length ks.length,.int .i64 0,.int .i64 0] 27 (0,0))):=dh (fun W hk=>by
       obtain⟨U,_,h3⟩:=aw.out W hk;obtain⟨cb,h4,h5⟩:=h3 v F;refine⟨?_,U⟩;obtain⟨_,_,h6⟩:=aw.out wr r;obtain⟨cD,h7,h8⟩:=h6 v F
       have a4:cb=.slice ra (pl ks v).length rc:=by
        obtain⟨cE,h9,_⟩:=(aw.out w5 (Keeps.refl _ _)).2.2 v F;have aG:H<w5.heap.size:=World.block_lt_of_cell? _ _ h9;have bD:H≠C:=fun e=>by obtain⟨zs,_,_,ho,_⟩:=hM;subst e;have hz:=h7;obtain⟨z,_,a5,_⟩:=(show dV w H ks.length (FP ks v 0) wr from ⟨zs,by assumption,by assumption,ho,by assumption⟩).cell 0 (by omega);obtain⟨_,hx,_⟩:=h6 0 (by omega);rw[a5]at hx;obtain⟨rr,a6,cc⟩:=h6 0 (by omega);rw[a5]at a6;simp only [Option.some.injEq]at a6;subst a6;obtain⟨_,_,bE,_⟩:=cc;cases bE
        have e1:W.cell? ⟨H,v,none⟩=w5.cell? ⟨H,v,none⟩:=World.cell?_of_block (w:=w5) (hk.block H aG bD);have e2:wr.cell? ⟨H,v,none⟩=w5.cell? ⟨H,v,none⟩:=World.cell?_of_block (w:=w5) (r.block H aG bD);rw[e1]at h4;rw[e2]at a2;rw[a2]at h4;simp only [Option.some.injEq]at h4;exact h4.symm
       rw[a4]at h5;exact h5)
      have bF:=dn hM r;clear hM r G c T t bC;go_wp2_with fail;go_loopg [79] (pl ks v).length (fun m i wr=>∃k:Nat,k<=(pl ks v).length/\m=(pl ks v).length - k/\i=.int .i64 k/\dV w C ks.length (FP ks v k) wr/\Keeps (fun q=>q=C) w5 wr)
      case atStart=>exact⟨0,Nat.zero_le _,rfl,rfl,bF⟩
      case round =>
       clear bF;obtain⟨k,hk,M,rfl,hM,r⟩:=hrel;have bG:=dh M;clear M;obtain⟨t,G⟩:=HC.out _ r;have cd:=dw G 0;by_cases ce:k<(pl ks v).length
       ·have ad:=List.getElem?_eq_getElem ce;obtain⟨a7,bH⟩:=yK.1 (List.mem_of_getElem? ad);obtain⟨O,a8⟩:=HW.out.rQ ad;have S:∀i q,(pl ks v)[i]? = some q->(dD ((pl ks v).map (fA ks)))[i]? = some ((fA ks q:Nat):Int):=fun i q h=>jA (by rw[List.getElem?_map,h];rfl);obtain⟨rg,ro,rfl,cF⟩:=t.cellAt (S _ _ ad);have aH:=List.getElem?_eq_getElem (l:=pl ks v) (i:=0) (by omega);have bI:=t.cellOf (S _ _ aH);rw[Nat.add_zero]at bI;have cf:=HW.out.jI a7;obtain⟨z,_,a5,cG⟩:=hM.cell _ cf;have hN:=hM.set (Q:=FP ks v (k+1)) (fA ks (pl ks v)[k]) ((fA ks (tn ks (pl ks v)[k]):Nat):Int) (fun zs ax h=>h.step HW.out ax ad);have a9:=r.setCell (p:=⟨C,fA ks (pl ks v)[k],none⟩) (.inl rfl) (.int .i64 ((fA ks (tn ks (pl ks v)[k]):Nat):Int));have bJ:=dh (dn hN a9);by_cases bK:k+1<(pl ks v).length
        ·have cH:=t.cellOf (S _ _ (O bK));clear hN a9 hM r t G O a8 S ad aH a7 bH;generalize fA ks (tn ks (pl ks v)[k])=y at *;generalize fA ks (pl ks v)[k]=d at *;generalize fA ks (pl ks v)[0]=d0 at *;have cI:(k:Int)+1<((pl ks v).length:Int):=by omega
         go_wp2;go_roundg ((pl ks v).length - (k+1))
         case measure=>rw[bG.out];omega
         case rel=>exact⟨k+1,by omega,rfl,by go_num,bJ.out⟩
        ·have aI:=a8 bK;rw[aH]at aI;simp only [Option.some.injEq]at aI;rw[aI]at bI;have cJ:decide ((k:Int)+1<((pl ks v).length:Int))=false:=decide_eq_false (by omega);clear hN a9 hM r t G O a8 S ad aH a7 bH aI;generalize fA ks (tn ks (pl ks v)[k])=y at *;generalize fA ks (pl ks v)[k]=d at *;go_wp2;go_roundg ((pl ks v).length - (k+1))
         case measure=>rw[bG.out];omega
         case rel=>exact⟨k+1,by omega,rfl,by go_num,bJ.out⟩
       ·obtain rfl:k=(pl ks v).length:=by omega
        have HF:=dh (dn (hM.mono (fun zs _ h=>h.next)) r);clear hM r t G cd;go_wp2;go_roundg (B+1 - (v+1))
        case measure=>rw[HG.out];omega
        case rel=>exact⟨v+1,by omega,rfl,by go_num,HF.out⟩
     ·obtain rfl:v=B+1:=by omega
      have b:=hM.mono (Q:=fun zs=>zs=dD (dN ks)) (fun zs ax h=>FP.all HW.out ax (by rw[<-b9.out];exact h));obtain⟨zs,ax,rfl,I,ay⟩:=b;have ae:=dw G 0;have bq:=dw G 1;have cg:=dw G 2;have ch:=dw c 0;have a3:=dw c 1;have bB:=dw c 2;have aD:=dx c;have HF:=dh (dn I (dn ay (dn c hM.old)));clear hM r T I ay G;go_wp2;obtain⟨I,ay,c,bL⟩:=HF.out;have Z:=jM (jM (jM c 0 (.slice (some ⟨C,0,none⟩) ks.length ks.length)) 1 (.int .i64 0)) 2 (.int .i64 0)
      have ba:Keeps (fun q=>q=br) wr (((wr.setCell ⟨br,0,none⟩ (.slice (some ⟨C,0,none⟩) ks.length ks.length)).setCell ⟨br,1,none⟩ (.int .i64 0)).setCell ⟨br,2,none⟩ (.int .i64 0)) :=
       (((Keeps.refl (fun q=>q=br) wr).setCell (p:=⟨br,0,none⟩) (.inl rfl) _).setCell (p:=⟨br,1,none⟩) (.inl rfl) _).setCell (p:=⟨br,2,none⟩) (.inl rfl) _
      have az:=I.keeps ba (fun q hq e=>by simp only [Value.ownBlock,Option.some.injEq]at hq;have hx:=c;subst hq;subst e;obtain⟨z,hz⟩:=I.has 0 (by rw[ax];omega);rw[dw hx 0]at hz;simp at hz);have aT:=ay.trans ba (fun x hx e=>by have:=bc.out;omega);have c0:=dw Z 0;have c1:=dw Z 1;have c2:=dw Z 2;have bM:=dh (dn az aT);clear I ay c bL Z ba az aT ae bq cg ch a3 bB aD;generalize World.setCell (World.setCell (World.setCell _ _ _) _ _) _ _=w9 at *;refine bodyPost_ret (v:=fI (.slice (some ⟨C,0,none⟩) ks.length ks.length) 0 0) ?_ rfl ⟨_,rfl,bM.out.1,bM.out.2⟩;simp at c0 c1 c2;simp[results,Tryz.results83,go_sem,fI,c0,c1,c2]
end
