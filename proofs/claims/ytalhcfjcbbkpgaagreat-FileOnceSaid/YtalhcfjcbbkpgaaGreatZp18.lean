import Derived.Test.YtalhcfjcbbkpgaaGreatZp17
set_option maxRecDepth 100000
set_option maxHeartbeats 4000000
namespace Go.Proofs.YtalhcfjcbbkpgaaGreat
open Go.RowKit
theorem WM.more{w0:World}{b:Nat}{s:List Nat}{root lone:Int}{R M M':Nat->Prop}{bw dL:Nat}{dv:Value}{k0 k1 k2:Nat}{ol:List Int}{ds:List Nat}{wr a:World}(h:WM w0 b s root lone R M bw dL dv k0 k1 k2 ol ds wr)
  (k:Keeps (fun _=>False) wr a)(c:∀x,M x->M' x)(d:∀x,M' x->M x\/(wr.heap.size<=x/\x<a.heap.size)):WM w0 b s root lone R M' bw dL dv k0 k1 k2 ol ds a :=
 ⟨h.m.fresh k d,h.t.keeps k (fun h=>h),h.W.keeps k (fun h=>h) (fun h=>h) (fun _ _ h=>h),c _ h.own.1,c _ h.own.2.1,fun q e=>c _ (h.own.2.2 q e)⟩
theorem WM.less{w0:World}{b:Nat}{s:List Nat}{root lone:Int}{R M M':Nat->Prop}{bw dL:Nat}{dv:Value}{k0 k1 k2:Nat}{ol:List Int}{ds:List Nat}{wr:World}(h:WM w0 b s root lone R M' bw dL dv k0 k1 k2 ol ds wr)
  (a:∀x,M x->M' x)(own:M bw/\M dL/\∀q,dv.ownBlock=some q->M q):WM w0 b s root lone R M bw dL dv k0 k1 k2 ol ds wr :=
 ⟨h.m.fresh (Keeps.refl _ wr) (fun x c=>.inl (a x c)),h.t,h.W,own⟩
structure lW (w0:World)(b:Nat)(s:List Nat)(root lone:Int)(R M:Nat->Prop)(bw dL:Nat)(dv:Value)(k0 k1 k2:Nat)(ol:List Int)(ds:List Nat)(h0 h1 h2 v gp:Nat)(pl:List Nat)(W:World):Prop where
 wm:WM w0 b s root lone R M bw dL dv k0 k1 k2 ol ds W
 b0:W.heap[h0]? = some (.cells #[.pointer (some ⟨bw,0,none⟩)] 219 (0,0))
 b1:W.heap[h1]? = some (.cells #[.int .i64 v] 3 (0,0))
 b2:W.heap[h2]? = some (.cells #[.slice (some ⟨gp,0,none⟩) pl.length pl.length] 25 (0,0))
 pl:dH 0 W (.slice (some ⟨gp,0,none⟩) pl.length pl.length) (dD pl)
 mm:M h0/\M h1/\M h2/\M gp
section
variable {w0:World} {b:Nat} {s:List Nat} {root lone:Int} {R M:Nat->Prop} {bw dL:Nat} {dv:Value} {k0 k1 k2:Nat} {ol:List Int} {ds:List Nat} {h0 h1 h2 v gp:Nat} {pl:List Nat} {W:World} (h:lW w0 b s root lone R M bw dL dv k0 k1 k2 ol ds h0 h1 h2 v gp pl W)
include h
theorem lW.step{a:World}(d:WM w0 b s root lone R M bw dL dv k0 k1 k2 ol ds a)(k:Keeps (fun k=>¬M k) W a):lW w0 b s root lone R M bw dL dv k0 k1 k2 ol ds h0 h1 h2 v gp pl a :=
 ⟨d,k.at h.b0 (fun e=>e h.mm.1),k.at h.b1 (fun e=>e h.mm.2.1),k.at h.b2 (fun e=>e h.mm.2.2.1),h.pl.keeps k (fun q c e=>by simp only [Value.ownBlock,Option.some.injEq]at c;subst c;exact e h.mm.2.2.2),h.mm⟩
theorem lW.drewN(q:Nat):lW w0 b s root lone R M bw dL dv k0 k1 k2 ol ds h0 h1 h2 v gp pl (W.drewN q):=h.step (h.wm.drewN q) ((Keeps.refl _ W).drewN q)
theorem WX(d x a i:Nat)(j:d<s.length)(k:vnum (sg s) (mt d)=x)(g:pl[x]? = some a)(c:pl[v]? = some i) :
  Calls Tryz.prog 226 #[.int .i64 d,.pointer (some ⟨h2,0,none⟩),.pointer (some ⟨h0,0,none⟩),.pointer (some ⟨h1,0,none⟩)] W fun e w'=>e=.returned (.bool (decide (a<i)))/\∃q,w'=W.drewN q:=by
 have o:∀n,Calls Tryz.prog 123 #[.pointer (some ⟨b,0,none⟩),.int .i64 (mt d:Nat)] (W.drewN n) fun e w'=>e=.returned (.int .i64 x)/\W.drewN n=w':=fun n=>by have l:=(h.drewN n).wm;obtain⟨p,f,-,-⟩:=l.m.mp;rw[<-k];exact GK f l.t _ (dQ f.even j)
 have r:∀n,Calls Tryz.prog 77 #[.pointer (some ⟨b,0,none⟩),.int .i64 d] (W.drewN n) fun e w'=>e=.returned (.int .i64 (mt d:Nat))/\W.drewN n=w':=fun n=>by obtain⟨p,f,-,-⟩:=(h.drewN n).wm.m.mp;exact sZ f d j
 have u:W.cell? ⟨bw,0,none⟩=some (.pointer (some ⟨b,0,none⟩)):=h.wm.W.c0;have w:W.cell? ⟨h0,0,none⟩=some (.pointer (some ⟨bw,0,none⟩)):=dw h.b0 0;have y:W.cell? ⟨h1,0,none⟩=some (.int .i64 v):=dw h.b1 0;have z:W.cell? ⟨h2,0,none⟩=some (.slice (some ⟨gp,0,none⟩) pl.length pl.length):=dw h.b2 0;have A:=(h.pl.cell (jA g)).1;have B:=(h.pl.cell (jA c)).1;have C:x<pl.length:=gX g;have D:v<pl.length:=gX c;have E:(x:Int)<(pl.length:Int):=by omega
 have F:(v:Int)<(pl.length:Int):=by omega
 clear h k g c;generalize pl.length=V at *;generalize mt d=m at *;go_enter Tryz.func226,Tryz.ntmps226;go_wp2_with fail;go_quiet (first | (go_at_call 123;with_reducible exact nN (o _)) | (go_at_call 77;with_reducible exact nN (r _)));go_wp2;go_ret;exact⟨by simp,_,rfl⟩
end
theorem GZ(W:World)(a c d:Obj):(((W.alloc a).alloc c).alloc d).heap[W.heap.size]? = some a/\(((W.alloc a).alloc c).alloc d).heap[W.heap.size+1]? = some c/\(((W.alloc a).alloc c).alloc d).heap[W.heap.size+1+1]? = some d/\Keeps (fun _=>False) W (((W.alloc a).alloc c).alloc d):=by
 have h1:(W.alloc a).heap.size=W.heap.size+1:=by simp
 have h2:((W.alloc a).alloc c).heap.size=W.heap.size+1+1:=by simp
 have e:=heap_alloc_new (W.alloc a) c;have f:=heap_alloc_new ((W.alloc a).alloc c) d;rw[h1]at e;rw[h2]at f;exact⟨(((Keeps.refl (fun _=>False) (W.alloc a)).alloc c).alloc d).at (heap_alloc_new W a) (fun h=>h),((Keeps.refl (fun _=>False) ((W.alloc a).alloc c)).alloc d).at e (fun h=>h),f,(((Keeps.refl (fun _=>False) W).alloc a).alloc c).alloc d⟩
section
variable {w0:World} {b:Nat} {s:List Nat} {root lone:Int} {R M:Nat->Prop} {bw dL:Nat} {dv:Value} {k0 k1 k2:Nat} {ol:List Int} {ds:List Nat} {W:World} (h:WM w0 b s root lone R M bw dL dv k0 k1 k2 ol ds W)
include h
theorem lW.start{gp:Nat}{pl:List Nat}(c:dH 0 W (.slice (some ⟨gp,0,none⟩) pl.length pl.length) (dD pl))(d:M gp)(v:Nat) :
  lW w0 b s root lone R (fun x=>M x\/(W.heap.size<=x/\x<W.heap.size+3)) bw dL dv k0 k1 k2 ol ds W.heap.size (W.heap.size+1) (W.heap.size+1+1) v gp pl (((W.alloc (.cells #[.pointer (some ⟨bw,0,none⟩)] 219)).alloc (.cells #[.int .i64 v] 3)).alloc (.cells #[.slice (some ⟨gp,0,none⟩) pl.length pl.length] 25)):=by
 obtain⟨f,g,e,k⟩:=GZ W (.cells #[.pointer (some ⟨bw,0,none⟩)] 219) (.cells #[.int .i64 v] 3) (.cells #[.slice (some ⟨gp,0,none⟩) pl.length pl.length] 25);have i:=lt_of_block e;refine⟨h.more k (fun x a=>.inl a) (fun x a=>?_),f,g,e,c.keeps k (fun _ _ h=>h),.inr (by omega),.inr (by omega),.inr (by omega),.inl d⟩;rcases a with a|a
 ·exact .inl a
 ·exact .inr (by omega)
def JY(w0:World)(b:Nat)(s:List Nat)(root lone:Int)(R M:Nat->Prop)(bw dL:Nat)(dv:Value)(k0 k1 k2:Nat)(ol:List Int)(ds:List Nat)(W:World)(a rt:Nat)(e:Ending)(w':World):Prop :=
 e=.returned (.tuple #[.int .i64 a,.int .i64 rt])/\WM w0 b s root lone R M bw dL dv k0 k1 k2 ol ds w'/\Keeps (fun k=>¬M k) W w'
omit h in
theorem lW.fin{h0 h1 h2 v gp:Nat}{pl:List Nat}{H:Nat}{a:World}(c:lW w0 b s root lone R (fun x=>M x\/(H<=x/\x<H+3)) bw dL dv k0 k1 k2 ol ds h0 h1 h2 v gp pl a)(own:M bw/\M dL/\∀q,dv.ownBlock=some q->M q):WM w0 b s root lone R M bw dL dv k0 k1 k2 ol ds a :=
 c.wm.less (fun _ d=>.inl d) own
theorem WY{gp:Nat}{pl:List Nat}(am:dH 0 W (.slice (some ⟨gp,0,none⟩) pl.length pl.length) (dD pl))(aD:M gp)(v l a0 m n:Nat)(hv:v≠k0)(hd:ds[v]? = some l)(Z:l<s.length)(an:pl[v]? = some a0)
  (A:Nat->Prop)(hA:∀x,dK (sg s) l x->∃a,pl[vnum (sg s) (mt x)]? = some a/\(a<a0↔A x))(hm:∀t,t<m->¬(A (itr (sg s) t l)/\¬A (gq (sg s) (itr (sg s) t l))))(ao:A (itr (sg s) m l)/\¬A (gq (sg s) (itr (sg s) m l)))
  (T:∀t,t<n->A (itr (sg s) (t+1) (itr (sg s) m l)))(C:¬A (itr (sg s) (n+1) (itr (sg s) m l))) :
  Calls Tryz.prog 186 #[.pointer (some ⟨bw,0,none⟩),.int .i64 v,.slice (some ⟨gp,0,none⟩) pl.length pl.length] W (JY w0 b s root lone R M bw dL dv k0 k1 k2 ol ds W (itr (sg s) m l) (itr (sg s) n (itr (sg s) m l))):=by
 have d:=lW.start h am aD v;have kE:=(GZ W (.cells #[.pointer (some ⟨bw,0,none⟩)] 219) (.cells #[.int .i64 v] 3) (.cells #[.slice (some ⟨gp,0,none⟩) pl.length pl.length] 25)).2.2.2;have HO:=dh h.own;obtain⟨R0,aa,-,-⟩:=h.m.mp;have HP:=dh (dn aa.dR aa.le);obtain⟨H,hH⟩:∃H,H=W.heap.size:=⟨_,rfl⟩
 rw[<-hH]at d;have HH:=dh hH;have aT:((v:Int) == (k0:Int))=false:=by rw[beq_eq_false_iff_ne];omega
 have aU:∀(fn:Fn) (first cap:Array Value) (w:World),(Instr.makeFunc fn first cap).run Tryz.prog w=.ok (.func fn first cap) w:=fun _ _ _ _=>rfl;have aV:v<ds.length:=gX hd;go_enter Tryz.func186,Tryz.ntmps186;go_wp2_with fail;rw[<-hH];generalize ((W.alloc _).alloc _).alloc _=W1 at *;obtain⟨J,ab⟩:∃x,x=H+1:=⟨_,rfl⟩
 rw[<-ab]at d ⊢;obtain⟨H2,ad⟩:∃x,x=J+1:=⟨_,rfl⟩
 rw[<-ad]at d ⊢;have aW:=dh (dn ab ad);have hM:∀x,M x->x<H:=fun x hx=>by rw[hH];exact(h.m.mb x hx).2
 have KK:Hid (∀g,Keeps (fun k=>¬(M k\/(H<=k/\k<H+3))) W1 g->Keeps (fun k=>¬M k) W g):=dh (fun g T=>(kE.mono (fun _ _ e=>e.elim):Keeps (fun k=>¬M k) W W1).trans T (fun x _ e e2=>e (.inl e2)));clear ab ad hH kE h am aa;have L:W1.cell? ⟨H,0,none⟩=some (.pointer (some ⟨bw,0,none⟩)):=dw d.b0 0;have N:W1.cell? ⟨J,0,none⟩=some (.int .i64 v):=dw d.b1 0;have c3:W1.cell? ⟨bw,1,none⟩=some (.int .i64 k0):=d.wm.W.c1;go_quiet (fail);obtain⟨da,dc,E,aE,-⟩:=d.wm.W.wW.form;rw[q01]at E aE;have aF:=dh d;have O:=d.wm.W.wW;have c5:=d.wm.W.c5;rw[E]at O c5;obtain⟨dg,rfl⟩:=oU O (by rw[q01];omega);have c6:=(O.cell (jA hd)).1;have aS:(v:Int)<(ds.length:Int):=by omega
 clear d O hd E;have aG:(W1.drewN nq).cell? ⟨H,0,none⟩=some (.pointer (some ⟨bw,0,none⟩)):=L;have aH:(W1.drewN nq).cell? ⟨J,0,none⟩=some (.int .i64 v):=N;have aI:(W1.drewN nq).cell? ⟨bw,5,none⟩=some (.slice (some ⟨dg,0,none⟩) ds.length dc):=c5;have aJ:(W1.drewN nq).cell? ⟨dg,v,none⟩=some (.int .i64 l):=c6;have aK:=dh (aF.out.drewN nq);have aL:Hid (∀g,Keeps (fun k=>¬(M k\/(H<=k/\k<H+3))) (W1.drewN nq) g->Keeps (fun k=>¬M k) W g):=dh (fun g T=>KK.out g (((Keeps.refl (fun k=>¬(M k\/(H<=k/\k<H+3))) W1).drewN nq).trans T (fun _ _ e=>e)));clear L N c3 c5 c6;generalize W1.drewN nq=W2 at *;generalize ds.length=D at *;go_wp2_with fail;go_quiet (fail);have aM:=dh (aK.out.drewN nq);have aN:Hid (∀g,Keeps (fun k=>¬(M k\/(H<=k/\k<H+3))) (W2.drewN nq) g->Keeps (fun k=>¬M k) W g):=dh (fun g T=>aL.out g (((Keeps.refl (fun k=>¬(M k\/(H<=k/\k<H+3))) W2).drewN nq).trans T (fun _ _ e=>e)));clear aG aH aI aJ;generalize W2.drewN nq=W3 at *;have F:=dh (dn hA (dn hm (dn ao (dn T C))));have aO:=dh an;have HC:Hid (∀g y,dK (sg s) l y->lW w0 b s root lone R (fun x=>M x\/(H<=x/\x<H+3)) bw dL dv k0 k1 k2 ol ds H J H2 v gp pl g->∃t:Bool,(t=true↔A y)/\Calls Tryz.prog 226 #[.int .i64 y,.pointer (some ⟨H2,0,none⟩),.pointer (some ⟨H,0,none⟩),.pointer (some ⟨J,0,none⟩)] g fun e w'=>e=.returned (.bool t)/\∃q,w'=g.drewN q):=dh (fun g y K d=>by obtain⟨a,ha,ap⟩:=F.out.1 y K;exact⟨_,by rw[decide_eq_true_eq];exact ap,WX d y _ a a0 (HP.out.1.fK Z K) rfl ha aO.out⟩);have HS:Hid (∀g y,dK (sg s) l y->lW w0 b s root lone R (fun x=>M x\/(H<=x/\x<H+3)) bw dL dv k0 k1 k2 ol ds H J H2 v gp pl g->Calls Tryz.prog 125 #[.pointer (some ⟨b,0,none⟩),.int .i64 y] g fun e w'=>e=.returned (.int .i64 (sg s y:Nat))/\g=w'):=dh (fun g y K d=>by obtain⟨R',hA,-,-⟩:=d.wm.m.mp;exact vW hA y (HP.out.1.fK Z K));have HB:Hid (∀g y,dK (sg s) l y->lW w0 b s root lone R (fun x=>M x\/(H<=x/\x<H+3)) bw dL dv k0 k1 k2 ol ds H J H2 v gp pl g->Calls Tryz.prog 227 #[.pointer (some ⟨b,0,none⟩),.int .i64 y] g fun e w'=>e=.returned (.int .i64 (gq (sg s) y:Nat))/\lW w0 b s root lone R (fun x=>M x\/(H<=x/\x<H+3)) bw dL dv k0 k1 k2 ol ds H J H2 v gp pl w'/\Keeps (fun k=>¬(M k\/(H<=k/\k<H+3))) g w'):=dh (fun g y K d=>by obtain⟨R',hA,hq⟩:=d.wm.m.ask;refine(VD hA y (HP.out.1.fK Z K)).mono ?_;rintro e w' ⟨e1,e2,e3⟩;obtain⟨m1,n⟩:=hq w' e2;exact⟨e1,d.step (d.wm.step m1 (d.wm.t.keeps e3 hA.kC) n) n,n⟩);clear hA hm ao T C an;go_wp2_with fail;go_loopg [10] m (fun mu dd wr=>∃t:Nat,t<=m/\mu=m - t/\dd=.int .i64 (itr (sg s) t l:Nat)/\lW w0 b s root lone R (fun x=>M x\/(H<=x/\x<H+3)) bw dL dv k0 k1 k2 ol ds H J H2 v gp pl wr/\Keeps (fun k=>¬(M k\/(H<=k/\k<H+3))) W3 wr)
 case atStart=>exact⟨0,Nat.zero_le _,rfl,rfl,aM.out,Keeps.refl _ _⟩
 case round =>
  obtain⟨t,ht,aq,rfl,d,G⟩:=hrel;have HG:=dh aq;have f:dK (sg s) l (itr (sg s) t l):=⟨t,rfl⟩
  obtain⟨y,K⟩:∃y,y=itr (sg s) t l:=⟨_,rfl⟩
  rw[<-K]at f ⊢;have U:=dh K;have r:dK (sg s) l (gq (sg s) y):=f.trans ⟨_,rfl⟩;obtain⟨t1,P,ar⟩:=HC.out wr y f d;have o:=dh (dn d G);clear aq K d G;go_wp2_with fail;refine ar.mono ?_;rintro e w1 ⟨rfl,Q,rfl⟩;clear ar;have c:=o.out.1.drewN Q;have j:Keeps (fun k=>¬(M k\/(H<=k/\k<H+3))) W3 (wr.drewN Q):=o.out.2.drewN Q;cases t1
  ·have B:¬A y:=fun e=>by cases P.2 e
   have p:t<m:=by
    rcases Nat.lt_or_ge t m with e|e
    ·exact e
    ·obtain rfl:t=m:=by omega
     rw[U.out]at B;exact absurd F.out.2.2.1.1 B
   have L:(wr.drewN Q).cell? ⟨H,0,none⟩=some (.pointer (some ⟨bw,0,none⟩)):=dw c.b0 0;have N:(wr.drewN Q).cell? ⟨bw,0,none⟩=some (.pointer (some ⟨b,0,none⟩)):=c.wm.W.c0;have i:=HS.out _ y f c;have HF:=dh (dn c j);have HT:=dh p;clear c j B p P o;generalize wr.drewN Q=w1 at *;go_wp2_with fail;refine i.mono ?_;rintro e w' ⟨rfl,rfl⟩;go_wp2_with fail;go_roundg (m - (t+1))
   case measure=>rw[HG.out];have:=HT.out;omega
   case rel=>exact⟨t+1,HT.out,rfl,by rw[U.out];rfl,HF.out⟩
  ·have B:A y:=P.1 rfl;have L:(wr.drewN Q).cell? ⟨H,0,none⟩=some (.pointer (some ⟨bw,0,none⟩)):=dw c.b0 0;have N:(wr.drewN Q).cell? ⟨bw,0,none⟩=some (.pointer (some ⟨b,0,none⟩)):=c.wm.W.c0;have au:=HB.out _ y f c;have HF:=dh (dn j B);clear c j B P o;generalize wr.drewN Q=w1 at *;go_wp2_with fail;refine au.mono ?_;rintro e w2 ⟨rfl,ae,C⟩;have av:=HF.out.1.trans C (fun _ _ e=>e);obtain⟨t2,I,af⟩:=HC.out w2 _ r ae;have S:=dh (dn ae av);clear au ae C av L N;obtain⟨z,hz⟩:∃z,z=gq (sg s) y:=⟨_,rfl⟩
   rw[<-hz]at r I af ⊢;have HZ:=dh hz;clear hz;go_wp2_with fail;refine af.mono ?_;rintro e w3 ⟨rfl,q2,rfl⟩;clear af;have c:=S.out.1.drewN q2;have j:Keeps (fun k=>¬(M k\/(H<=k/\k<H+3))) W3 (w2.drewN q2):=S.out.2.drewN q2;cases t2
   ·have aw:¬A z:=fun e=>by cases I.2 e
    have p:t=m:=by
     rcases Nat.lt_or_ge t m with e|e
     ·have:=F.out.2.1 t e;rw[<-U.out,<-HZ.out]at this;exact absurd ⟨HF.out.2,aw⟩ this
     ·omega
    subst p;have aP:=dh (dn c j);clear c j aw I S;generalize w2.drewN q2=w4 at *;have ax:Hid (∀q,dK (sg s) l (itr (sg s) q y)):=dh (fun q=>f.trans ⟨q,rfl⟩);have HR:Hid ((∀q,q<n->A (itr (sg s) (q+1) y))/\¬A (itr (sg s) (n+1) y)):=dh (by rw[U.out];exact F.out.2.2.2);rw[<-U.out];go_wp2_with fail;go_loopg [10] n (fun mu dd wr=>∃q:Nat,q<=n/\mu=n - q/\dd=.int .i64 (itr (sg s) q y:Nat)/\lW w0 b s root lone R (fun x=>M x\/(H<=x/\x<H+3)) bw dL dv k0 k1 k2 ol ds H J H2 v gp pl wr/\Keeps (fun k=>¬(M k\/(H<=k/\k<H+3))) W3 wr)
    case atStart=>exact⟨0,Nat.zero_le _,rfl,rfl,aP.out⟩
    case round =>
     obtain⟨q,hq,V,rfl,d,G⟩:=hrel;have aQ:=dh V;have ag:=ax.out q;have ay:=ax.out (q+1);have i:=HS.out wr _ ag d;rw[show sg s (itr (sg s) q y)=itr (sg s) (q+1) y from rfl]at i;obtain⟨t3,az,ah⟩:=HC.out wr _ ay d;have L:wr.cell? ⟨H,0,none⟩=some (.pointer (some ⟨bw,0,none⟩)):=dw d.b0 0;have N:wr.cell? ⟨bw,0,none⟩=some (.pointer (some ⟨b,0,none⟩)):=d.wm.W.c0;have o:=dh (dn d G)
     have X:t3=true↔q<n:=by
      rw[az];constructor
      ·intro e;rcases Nat.lt_or_ge q n with e2|e2
       ·exact e2
       ·obtain rfl:q=n:=by omega
        exact absurd e HR.out.2
      ·exact HR.out.1 q
     have aA:=dh X;have aR:=HS.out;obtain⟨y1,ai⟩:∃y1,y1=itr (sg s) q y:=⟨_,rfl⟩
     obtain⟨y2,aj⟩:∃y2,y2=itr (sg s) (q+1) y:=⟨_,rfl⟩
     rw[<-ai]at i ag ⊢;rw[<-aj]at i ah;have u:=dh (dn ai aj);clear V d G az X ai aj ay aR;go_wp2_with fail;refine i.mono ?_;rintro e w' ⟨rfl,rfl⟩;go_wp2_with fail;refine ah.mono ?_;rintro e w5 ⟨rfl,q3,rfl⟩;clear ah i;have c:=o.out.1.drewN q3;have j:Keeps (fun k=>¬(M k\/(H<=k/\k<H+3))) W3 (wr.drewN q3):=o.out.2.drewN q3;have c3:(wr.drewN q3).cell? ⟨H,0,none⟩=some (.pointer (some ⟨bw,0,none⟩)):=L;have c4:(wr.drewN q3).cell? ⟨bw,0,none⟩=some (.pointer (some ⟨b,0,none⟩)):=N;have i:=HS.out _ y1 ag c;have Y:sg s y1=y2:=by rw[u.out.1,u.out.2];rfl
     rw[Y]at i;have ak:=dh (dn c j);clear c j L N Y o;generalize wr.drewN q3=w6 at *;cases t3
     ·obtain rfl:q=n:=by
       have:¬q<n:=fun e=>by cases aA.out.2 e
       omega
      have al:=dh (dn (ak.out.1.fin HO.out) (aN.out w6 ak.out.2));clear i;go_wp2;go_ret2;exact⟨by rw[u.out.1,<-U.out];rfl,al.out⟩
     ·have aB:=aA.out.1 rfl;have aC:=dh aB;clear aB;go_wp2_with fail;refine i.mono ?_;rintro e w' ⟨rfl,rfl⟩;go_wp2_with fail;go_roundg (n - (q+1))
      case measure=>rw[aQ.out];have:=aC.out;omega
      case rel=>exact⟨q+1,aC.out,rfl,by rw[u.out.2],ak.out⟩
   ·have p:t<m:=by
     rcases Nat.lt_or_ge t m with e|e
     ·exact e
     ·obtain rfl:t=m:=by omega
      have h5:=F.out.2.2.1.2;rw[<-U.out,<-HZ.out]at h5;exact absurd (I.1 rfl) h5
    have L:(w2.drewN q2).cell? ⟨H,0,none⟩=some (.pointer (some ⟨bw,0,none⟩)):=dw c.b0 0;have N:(w2.drewN q2).cell? ⟨bw,0,none⟩=some (.pointer (some ⟨b,0,none⟩)):=c.wm.W.c0;have i:=HS.out _ y f c;have al:=dh (dn c j);have HT:=dh p;clear c j p I S;generalize w2.drewN q2=w4 at *;go_wp2_with fail;refine i.mono ?_;rintro e w' ⟨rfl,rfl⟩;go_wp2_with fail;go_roundg (m - (t+1))
    case measure=>rw[HG.out];have:=HT.out;omega
    case rel=>exact⟨t+1,HT.out,rfl,by rw[U.out];rfl,al.out⟩
theorem WZ{gp:Nat}{pl:List Nat}(u:dH 0 W (.slice (some ⟨gp,0,none⟩) pl.length pl.length) (dD pl))(L:M gp)(r g l:Nat)(o:root=(r:Int))(hr:r<s.length)(w:jg (sg (dS s)) r=[r,g,l])(y:g<s.length) :
  Calls Tryz.prog 186 #[.pointer (some ⟨bw,0,none⟩),.int .i64 k0,.slice (some ⟨gp,0,none⟩) pl.length pl.length] W (JY w0 b s root lone R M bw dL dv k0 k1 k2 ol ds W l (mt g)):=by
 have n:=lW.start h u L k0;have U:=(GZ W (.cells #[.pointer (some ⟨bw,0,none⟩)] 219) (.cells #[.int .i64 k0] 3) (.cells #[.slice (some ⟨gp,0,none⟩) pl.length pl.length] 25)).2.2.2;have Z:=dh h.own;obtain⟨H,z⟩:∃H,H=W.heap.size:=⟨_,rfl⟩
 rw[<-z]at n;have aa:((k0:Int) == (k0:Int))=true:=beq_self_eq_true _;have V:∀x,M x->x<H:=fun x hx=>by rw[z];exact(h.m.mb x hx).2
 have ab:=dh z;clear h u;go_enter Tryz.func186,Tryz.ntmps186;go_wp2_with fail;rw[<-z];generalize ((W.alloc _).alloc _).alloc _=W1 at *;obtain⟨N,A⟩:∃x,x=H+1:=⟨_,rfl⟩
 rw[<-A]at n ⊢;obtain⟨H2,B⟩:∃x,x=N+1:=⟨_,rfl⟩
 rw[<-B]at n ⊢;have KK:Hid (∀a,Keeps (fun k=>¬(M k\/(H<=k/\k<H+3))) W1 a->Keeps (fun k=>¬M k) W a):=dh (fun a c=>(U.mono (fun _ _ e=>e.elim):Keeps (fun k=>¬M k) W W1).trans c (fun x _ e l=>e (.inl l)));clear A B z U;have I:W1.cell? ⟨H,0,none⟩=some (.pointer (some ⟨bw,0,none⟩)):=dw n.b0 0;have J:W1.cell? ⟨N,0,none⟩=some (.int .i64 k0):=dw n.b1 0;have c3:W1.cell? ⟨bw,1,none⟩=some (.int .i64 k0):=n.wm.W.c1;go_quiet (fail);have C:=dh (n.drewN nq);have O:Hid (∀a,Keeps (fun k=>¬(M k\/(H<=k/\k<H+3))) (W1.drewN nq) a->Keeps (fun k=>¬M k) W a):=dh (fun a c=>KK.out a (((Keeps.refl (fun k=>¬(M k\/(H<=k/\k<H+3))) W1).drewN nq).trans c (fun _ _ e=>e)));clear I J c3 n;generalize W1.drewN nq=W2 at *;have f:Hid (∀a,Keeps (fun _=>False) W2 a->lW w0 b s root lone R (fun x=>M x\/(H<=x/\x<H+3)) bw dL dv k0 k1 k2 ol ds H N H2 k0 gp pl a):=dh (fun a c=>C.out.step (C.out.wm.still c) (c.mono (fun _ _ e=>e.elim)));have HR:Hid (∀a,Keeps (fun _=>False) W2 a->Calls Tryz.prog 121 #[.pointer (some ⟨b,0,none⟩)] a fun e w'=>e=.returned (.int .i64 r)/\a=w'):=dh (fun a c=>by obtain⟨X,D,-,-⟩:=(f.out a c).wm.m.mp;have:=Dl D;rw[o]at this;exact this);have P:Hid (∀a,Keeps (fun _=>False) W2 a->Calls Tryz.prog 160 #[.pointer (some ⟨b,0,none⟩),.int .i64 r] a fun e w'=>∃v,e=.returned v/\dH a.heap.size w' v (dD [r,g,l])/\Keeps (fun _=>False) a w'):=dh (fun a c=>by obtain⟨X,D,-,-⟩:=(f.out a c).wm.m.mp;rw[<-w];exact Jq D r hr);have Q:Hid (∀a,Keeps (fun _=>False) W2 a->Calls Tryz.prog 77 #[.pointer (some ⟨b,0,none⟩),.int .i64 g] a fun e w'=>e=.returned (.int .i64 (mt g:Nat))/\a=w'):=dh (fun a c=>by obtain⟨X,D,-,-⟩:=(f.out a c).wm.m.mp;exact sZ D g y);have q:=Keeps.refl (fun _=>False) W2;have j:Hid (∀a,Keeps (fun _=>False) W2 a->a.cell? ⟨H,0,none⟩=some (.pointer (some ⟨bw,0,none⟩))/\a.cell? ⟨bw,0,none⟩=some (.pointer (some ⟨b,0,none⟩))):=dh (fun a c=>⟨dw (f.out a c).b0 0,(f.out a c).wm.W.c0⟩);obtain⟨I,J⟩:=j.out W2 q;have ad:∀x,M x->x<H:=V;clear w y hr V;go_wp2_with fail;go_region_held3 (fun w'=>w'.cell? ⟨H,0,none⟩=some (.pointer (some ⟨bw,0,none⟩))/\w'.cell? ⟨bw,0,none⟩=some (.pointer (some ⟨b,0,none⟩))) (first|exact⟨I,J⟩|exact j.out _ q.drew|exact j.out _ E) (first | (go_at_call 121;refine(HR.out _ q.drew).mono ?_;rintro e w' ⟨rfl,rfl⟩) | (go_at_call 160;refine(P.out _ q.drew).mono ?_;rintro e t ⟨v,rfl,d,c⟩;have E:Keeps (fun _=>False) W2 t:=q.drew.trans c (fun _ _ h=>h)));obtain⟨la,lc,rfl,-,-⟩:=d.form;obtain⟨K,rfl⟩:=oU d (Nat.zero_lt_succ 2);rw[show (dD [r,g,l]).length=3 from rfl];have F:Hid (∀a,Keeps (fun _=>False) t a->a.cell? ⟨H,0,none⟩=some (.pointer (some ⟨bw,0,none⟩))/\a.cell? ⟨bw,0,none⟩=some (.pointer (some ⟨b,0,none⟩))/\a.cell? ⟨K,2,none⟩=some (.int .i64 l)/\a.cell? ⟨K,1,none⟩=some (.int .i64 g)):=dh (fun a c=>by have Y:=d.keeps c (fun _ _ h=>h);obtain⟨a1,a2⟩:=j.out a (E.trans c (fun _ _ h=>h));exact⟨a1,a2,(Y.cell (i:=2) rfl).1,(Y.cell (i:=1) rfl).1⟩);obtain⟨f1,f2,f3,f4⟩:=F.out t (Keeps.refl _ _);have p:=Keeps.refl (fun _=>False) t;have HF:Hid (∀a,Keeps (fun _=>False) t a->WM w0 b s root lone R M bw dL dv k0 k1 k2 ol ds a/\Keeps (fun k=>¬M k) W a):=dh (fun a c=>by have G:=E.trans c (fun _ _ h=>h);exact⟨(f.out a G).fin Z.out,O.out a (G.mono (fun _ _ e=>e.elim))⟩);have S:Hid (∀a,Keeps (fun _=>False) t a->Calls Tryz.prog 77 #[.pointer (some ⟨b,0,none⟩),.int .i64 g] a fun e w'=>e=.returned (.int .i64 (mt g:Nat))/\a=w'):=dh (fun a c=>Q.out a (E.trans c (fun _ _ h=>h)));clear d c E I J q;go_wp2_with fail;go_region_held3 (fun w'=>w'.cell? ⟨H,0,none⟩=some (.pointer (some ⟨bw,0,none⟩))/\w'.cell? ⟨bw,0,none⟩=some (.pointer (some ⟨b,0,none⟩))/\w'.cell? ⟨K,2,none⟩=some (.int .i64 l)/\w'.cell? ⟨K,1,none⟩=some (.int .i64 g)) (first|exact⟨f1,f2,f3,f4⟩|exact F.out _ p.drew) (first | (go_at_call 77;refine(S.out _ p.drew).mono ?_;rintro e w' ⟨rfl,rfl⟩))
 all_goals
  have T:=dh (HF.out _ p.drew);go_wp2;go_ret2;exact⟨rfl,T.out⟩
end
