import Derived.Test.YtalhcfjcbbkpgaaGreatZp0v
import Derived.Test.YtalhcfjcbbkpgaaGreatZp0j
set_option maxRecDepth 100000
set_option maxHeartbeats 4000000
namespace Go.Proofs.YtalhcfjcbbkpgaaGreat
section
open Go.RowKit
theorem Vm(p:Value)(ps:List Nat)(m:Nat)(w:World)(s:Sl .u8 w p (dD ps))(d:∀b ∈ ps,b<256)(z:m<=100000) :
  Calls Tryz.prog 81 #[p,.int .i64 m] w fun e w'=>∃q k:Nat,e=.returned (.int .i64 q)/\q<=m+255/\w'=w.drewN k:=by
 obtain⟨a,cap,rfl,h,t,-,i⟩:=s;rw[q01]at *;obtain⟨L,r⟩:∃L,L=ps.length:=⟨_,rfl⟩
 rw[<-r]at h ⊢;by_cases v:L=0
 ·subst v;clear i;go_enter Tryz.func81,Tryz.ntmps81;go_wp2;go_ret;exact⟨0,0,rfl,by omega,rfl⟩
 ·have f:=Nat.mod_lt m (show 0<L by omega);obtain⟨b,j⟩:∃b,ps[m % L]? = some b:=⟨_,List.getElem?_eq_getElem (by omega)⟩
  have l:=d b (List.mem_of_getElem? j);obtain⟨g,off,rfl,c⟩:=i _ _ (jA j);obtain⟨k,n⟩:∃k,k=m % L:=⟨_,rfl⟩
  obtain⟨u,o⟩:∃u,u=m / L:=⟨_,rfl⟩
  have x:u<=m:=by rw[o];exact Nat.div_le_self _ _
  have A:(m:Int).tmod (L:Int)=(k:Int):=by rw[Int.tmod_eq_emod_of_nonneg (by omega),n];simp
  have B:(m:Int).tdiv (L:Int)=(u:Int):=by rw[Int.tdiv_eq_ediv_of_nonneg (by omega),o];simp
  have y:¬(L:Int)=0:=by omega
  have C:IntKind.i64.wrap (k:Int)=(k:Int):=IntWalk.i64_in _ (by omega);have D:IntKind.i64.wrap (u:Int)=(u:Int):=IntWalk.i64_in _ (by omega);have E:IntKind.i64.wrap (b:Int)=(b:Int):=IntWalk.i64_in _ (by omega);have F:IntKind.i64.wrap ((b:Int)+(u:Int))=((b+u:Nat):Int):=by rw[IntWalk.i64_in _ (by omega)];omega
  have G:((L:Int) == 0)=false:=by rw[beq_eq_false_iff_ne];exact y
  rw[<-n]at c f;clear i j n o d r;go_enter Tryz.func81,Tryz.ntmps81;go_wp2_with fail;go_region
  all_goals
   go_wp2;go_ret
   exact⟨b+u,1,by go_num,by omega,rfl⟩
def fx(s:List Nat)(d j:Nat):Nat:=itr (fun x=>sg s (mt x)) j d
theorem EZ{s:List Nat}(T:jY s.length (sg s)){d:Nat}(f:d<s.length):jg (sg (dS s)) d=[fx s d 0,fx s d 1,fx s d 2]/\fx s d 0=d/\(∀j,fx s d j<s.length)/\fx s d 3=d:=by
 have b:∀j,fx s d j<s.length:=by
  intro j
  induction j with
  | zero=>exact f
  | succ j i=>exact T.dR.lt _ (T.mlt i)
 have k:fx s d 3=d:=T.tri d f;have c:=AJ T.dR T.even;rw[oD]at c
 have a:∀j,itr (sg (dS s)) j d=fx s d j:=by
  intro j
  induction j with
  | zero=>rfl
  | succ j i=>show sg (dS s) (itr (sg (dS s)) j d)=_;rw[i,wU (b j)];rfl
 obtain⟨-,l,m,-⟩:=T.put f
 have e:per (sg (dS s)) d=3:=by
  obtain⟨o,-,g,n⟩:=c.dM f;rcases(show per (sg (dS s)) d=1\/per (sg (dS s)) d=2\/per (sg (dS s)) d=3\/3<per (sg (dS s)) d by omega)with h|h|h|h
  ·rw[h,a]at g;exact absurd g l
  ·rw[h,a]at g;exact absurd g m
  ·exact h
  ·exact absurd (by rw[a,k]) (n 3 (by omega) h)
 refine⟨?_,rfl,b,k⟩;unfold jg;rw[e];show [itr (sg (dS s)) 0 d,itr (sg (dS s)) 1 d,itr (sg (dS s)) 2 d]=_;rw[a,a,a]
def yR(s:List Nat)(d:Nat):Nat->List Int
 | 0=>dD s ++ List.replicate 6 0
 | i+1=>(((yR s d i).set (mt (fx s d ((i+2) % 3))) ((s.length+2 * i:Nat):Int)).set (s.length+2 * i) ((fx s d i:Nat):Int)).set (s.length+2 * i+1) ((s.length+2 * ((i+2) % 3)+1:Nat):Int)
theorem JE(s:List Nat)(d:Nat):∀i,(yR s d i).length=s.length+6
 | 0=>by simp[yR,dD]
 | i+1=>by simp[yR,JE s d i]
noncomputable def nT(s:List Nat)(d:Nat):List Nat:=(List.range (s.length+6)).map (jh s.length (sg s) d)
theorem GJ(s:List Nat)(d:Nat):(nT s d).length=s.length+6:=by simp[nT]
theorem Vn{s:List Nat}(T:jY s.length (sg s)){d:Nat}(i:d<s.length):jY (nT s d).length (sg (nT s d)):=by
 obtain⟨h,-⟩:=T.put i;rw[GJ];have b:∀x,x<s.length+6->sg (nT s d) x=jh s.length (sg s) d x:=fun x a=>by simp[sg,nT,a]
 have c:=h.dR.congr b;refine⟨c,h.even,fun x a=>?_,fun x a=>?_,dI.EW b h.conn⟩
 ·have e:=dQ h.even a;have j:=h.dR.lt _ e;have f:=dQ h.even j;have k:=h.dR.lt _ f;have l:=dQ h.even k;rw[b _ e,b _ f,b _ l];exact h.tri x a
 ·have g:∀x,x<s.length+6->vnum (sg (nT s d)) x=vnum (jh s.length (sg s) d) x:=fun x a=>by unfold vnum;rw[Gi c h.dR b a,yM c h.dR b _ (Nat.le_of_lt (h.dR.kQ a))]
  rw[g x a,g _ (dQ h.even a)];exact h.loop x a
theorem Vo{s:List Nat}(T:jY s.length (sg s)){d:Nat}(C:d<s.length):yR s d 3=dD (nT s d):=by
 obtain⟨-,l,m,n,o,p,q,r,t,w,D,E,F,y⟩:=T.put C;obtain⟨-,I,i,-⟩:=EZ T C;have l:fx s d 1≠fx s d 0:=l;have m:fx s d 2≠fx s d 0:=m;have n:fx s d 2≠fx s d 1:=n;have o:jh s.length (sg s) d (mt (fx s d 2))=s.length:=o;have p:jh s.length (sg s) d (mt (fx s d 0))=s.length+2:=p;have q:jh s.length (sg s) d (mt (fx s d 1))=s.length+4:=q;have r:jh s.length (sg s) d s.length=fx s d 0:=r;have t:jh s.length (sg s) d (s.length+2)=fx s d 1:=t;have w:jh s.length (sg s) d (s.length+4)=fx s d 2:=w;have y:∀z,z<s.length->z≠mt (fx s d 0)->z≠mt (fx s d 1)->z≠mt (fx s d 2)->jh s.length (sg s) d z=sg s z:=y;have J:=T.mlt (i 0);have K:=T.mlt (i 1);have L:=T.mlt (i 2);have A:∀u v,u≠v->mt u≠mt v:=fun u v h e=>h (by rw[<-dF u,e,dF]);have M:=A _ _ l;have N:=A _ _ m;have O:=A _ _ n;have j:=JE s d 3;have B:∀x,x<s.length->(dD s)[x]? = some ((sg s x:Nat):Int):=fun x k=>jA (tZ k);have G:∀x,x<s.length+6->(dD (nT s d))[x]? = some ((jh s.length (sg s) d x:Nat):Int):=fun x k=>jA (by simp[nT,k]);have H:yR s d 3=(((((((((dD s ++ List.replicate 6 0).set (mt (fx s d 2)) ((s.length+2 * 0:Nat):Int)).set (s.length+2 * 0) ((fx s d 0:Nat):Int)).set (s.length+2 * 0+1) ((s.length+2 * 2+1:Nat):Int)).set (mt (fx s d 0)) ((s.length+2 * 1:Nat):Int)).set (s.length+2 * 1) ((fx s d 1:Nat):Int)).set (s.length+2 * 1+1) ((s.length+2 * 0+1:Nat):Int)).set (mt (fx s d 1)) ((s.length+2 * 2:Nat):Int)).set (s.length+2 * 2) ((fx s d 2:Nat):Int)).set (s.length+2 * 2+1) ((s.length+2 * 1+1:Nat):Int):=rfl;have f:=q01 s;rw[H]at j ⊢;clear H T l m n i I A;generalize fx s d 0=x0 at *;generalize fx s d 1=x1 at *;generalize fx s d 2=x2 at *;generalize mt x0=y0' at *;generalize mt x1=y1' at *;generalize mt x2=y2' at *;have g:Hid _:=dh (dn r (dn t (dn w (dn D (dn E (dn F (dn p (dn q (dn o y)))))))));clear r t w D E F o p q y;apply List.ext_getElem?;intro x;by_cases k:x<s.length+6
 ·rw[G x k];clear G j;rcases(show x=s.length\/x=s.length+1\/x=s.length+2\/x=s.length+3\/x=s.length+4\/x=s.length+5\/x<s.length by omega)with h|h|h|h|h|h|h
  ·rw[show x=s.length+2 * 0 by omega];rw[List.getElem?_set_ne (by omega),List.getElem?_set_ne (by omega),List.getElem?_set_ne (by omega),List.getElem?_set_ne (by omega),List.getElem?_set_ne (by omega),List.getElem?_set_ne (by omega),List.getElem?_set_ne (by omega),List.getElem?_set_self (by simp only [List.length_set,List.length_append,List.length_replicate,f];omega)];have e:jh s.length (sg s) d (s.length+2 * 0)=x0:=g.out.1;rw[e]
  ·rw[show x=s.length+2 * 0+1 by omega];rw[List.getElem?_set_ne (by omega),List.getElem?_set_ne (by omega),List.getElem?_set_ne (by omega),List.getElem?_set_ne (by omega),List.getElem?_set_ne (by omega),List.getElem?_set_ne (by omega),List.getElem?_set_self (by simp only [List.length_set,List.length_append,List.length_replicate,f];omega)];have e:jh s.length (sg s) d (s.length+2 * 0+1)=s.length+2 * 2+1:=g.out.2.2.2.1;rw[e]
  ·rw[show x=s.length+2 * 1 by omega];rw[List.getElem?_set_ne (by omega),List.getElem?_set_ne (by omega),List.getElem?_set_ne (by omega),List.getElem?_set_ne (by omega),List.getElem?_set_self (by simp only [List.length_set,List.length_append,List.length_replicate,f];omega)];have e:jh s.length (sg s) d (s.length+2 * 1)=x1:=g.out.2.1;rw[e]
  ·rw[show x=s.length+2 * 1+1 by omega];rw[List.getElem?_set_ne (by omega),List.getElem?_set_ne (by omega),List.getElem?_set_ne (by omega),List.getElem?_set_self (by simp only [List.length_set,List.length_append,List.length_replicate,f];omega)];have e:jh s.length (sg s) d (s.length+2 * 1+1)=s.length+2 * 0+1:=g.out.2.2.2.2.1;rw[e]
  ·rw[show x=s.length+2 * 2 by omega];rw[List.getElem?_set_ne (by omega),List.getElem?_set_self (by simp only [List.length_set,List.length_append,List.length_replicate,f];omega)];have e:jh s.length (sg s) d (s.length+2 * 2)=x2:=g.out.2.2.1;rw[e]
  ·rw[show x=s.length+2 * 2+1 by omega];rw[List.getElem?_set_self (by simp only [List.length_set,List.length_append,List.length_replicate,f];omega)];have e:jh s.length (sg s) d (s.length+2 * 2+1)=s.length+2 * 1+1:=g.out.2.2.2.2.2.1;rw[e]
  ·by_cases a:x=y0'
   ·rw[a,g.out.2.2.2.2.2.2.1,List.getElem?_set_ne (by omega),List.getElem?_set_ne (by omega),List.getElem?_set_ne (by omega),List.getElem?_set_ne (by omega),List.getElem?_set_ne (by omega),List.getElem?_set_self (by simp only [List.length_set,List.length_append,List.length_replicate,f];omega)]
   ·by_cases b:x=y1'
    ·rw[b,g.out.2.2.2.2.2.2.2.1,List.getElem?_set_ne (by omega),List.getElem?_set_ne (by omega),List.getElem?_set_self (by simp only [List.length_set,List.length_append,List.length_replicate,f];omega)]
    ·by_cases c:x=y2'
     ·rw[c,g.out.2.2.2.2.2.2.2.2.1,List.getElem?_set_ne (by omega),List.getElem?_set_ne (by omega),List.getElem?_set_ne (by omega),List.getElem?_set_ne (by omega),List.getElem?_set_ne (by omega),List.getElem?_set_ne (by omega),List.getElem?_set_ne (by omega),List.getElem?_set_ne (by omega),List.getElem?_set_self (by simp only [List.length_append,List.length_replicate,f];omega)];rfl
     ·rw[g.out.2.2.2.2.2.2.2.2.2 x h a b c,List.getElem?_set_ne (by omega),List.getElem?_set_ne (by omega),List.getElem?_set_ne (by omega),List.getElem?_set_ne (by omega),List.getElem?_set_ne (by omega),List.getElem?_set_ne (by omega),List.getElem?_set_ne (by omega),List.getElem?_set_ne (by omega),List.getElem?_set_ne (by omega),List.getElem?_append_left (by rw[f];exact h)];exact B x h
 ·rw[List.getElem?_eq_none (by omega),List.getElem?_eq_none (by rw[q01,GJ];omega)]
theorem Vp(sv:Value)(rt ln:Int)(s:List Nat)(d:Nat)(w:World)(hs:Sl .i64 w sv (dD s))(ak:∀q,sv.ownBlock=some q->q<w.heap.size)(T:jY s.length (sg s))(hd:d<s.length)(hl:s.length<=1000) :
  Calls Tryz.prog 80 #[fI sv rt ln,.int .i64 d] w fun e w'=>∃nC,e=.returned (fI nC rt 0)/\dH w.heap.size w' nC (dD (nT s d))/\Keeps (fun _=>False) w w':=by
 obtain⟨J,m⟩:∃J,J=(w.alloc (.cells #[sv,.int .i64 rt,.int .i64 ln] 27)).alloc (.cells #[.slice none 0 0,.int .i64 0,.int .i64 0] 27):=⟨_,rfl⟩
 have k0:Keeps (fun _=>False) w J:=by rw[m];exact((Keeps.refl _ w).alloc _).alloc _
 have c:J.heap[w.heap.size]? = some (.cells #[sv,.int .i64 rt,.int .i64 ln] 27 (0,0)):=by rw[m];exact((Keeps.refl (fun _=>False) _).alloc _).at (heap_alloc_new w _) (fun h=>h)
 have b:J.heap[w.heap.size+1]? = some (.cells #[.slice none 0 0,.int .i64 0,.int .i64 0] 27 (0,0)):=by rw[m];have:=heap_alloc_new (w.alloc (.cells #[sv,.int .i64 rt,.int .i64 ln] 27)) (.cells #[.slice none 0 0,.int .i64 0,.int .i64 0] 27);simpa using this
 have ad:J.heap.size=w.heap.size+2:=by rw[m];simp
 have hP:=Lj sv rt ln s J (hs.keeps k0 (fun _ _ h=>h)) T.even (by omega);obtain⟨ho,-,D,-⟩:=EZ T hd;have Q:=AJ T.dR T.even;have C:=dh (dn T (dn hd (dn ho (dn D (dn Q hs)))));have E:=dh (dn k0 (dn c b));have d0:=dw c 0;have d1:=dw c 1;have d2:=dw c 2;obtain⟨a,cap,rfl,al,am⟩:=hs.form;rw[q01]at *;unfold fI;clear T ho D Q hs k0 c b;go_enter Tryz.func80,Tryz.ntmps80;go_wp2_with fail;rw[<-m];clear m;refine hP.mono ?_;clear hP;rintro e w1 ⟨pv,rfl,R,t⟩;have hO:=Le pv (dS s) d w1 R.sl C.out.2.2.2.2.1 (by rw[oD];exact C.out.2.1) (by rw[oD];omega);rw[C.out.2.2.1]at hO;have G:=E.out.1.trans t (fun _ _ h=>h);have K:=dh (dn (t.at E.out.2.1 (fun h=>h)) (t.at E.out.2.2 (fun h=>h)));have an:w.heap.size+2<=w1.heap.size:=by have:=t.size;omega
 clear t d0 d1 d2 R ad;go_wp2_with fail;refine hO.mono ?_;clear hO;rintro e u ⟨fv,rfl,n,z⟩;have c:=z.at K.out.1 (fun h=>h);have b:=z.at K.out.2 (fun h=>h);have A:=G.trans z (fun _ _ h=>h);have ao:w1.heap.size<=u.heap.size:=z.size;obtain⟨fa,fc,rfl,-,-⟩:=n.form;obtain⟨gf,rfl⟩:=oU n (by simp[dD]);have ap:=n.lt gf rfl;have o:=C.out.2.2.2.2.2.keeps A (fun _ _ h=>h);have e3:(dD [fx s d 0,fx s d 1,fx s d 2]).length=3:=rfl;rw[e3]at n ⊢;have ka:=(Keeps.refl (fun _=>False) u).alloc (.cells #[] 3);have r:=o.keeps ka (fun _ _ h=>h);have S:=IG u;have H:u.heap.size<=(u.alloc (.cells #[] 3)).heap.size:=by simp
 have d0:=dw c 0;have d3:=dw (ka.at c (fun h=>h)) 0;have L:=dh (dn A (dn c (dn b (dn n ka))));clear G z K c b A n e3 ka o
 go_wp2_with (first
  | (at_builtin;(refine FH rfl _ _ rfl u.heap.size (.slice (some ⟨u.heap.size,0,none⟩) 0 0) (.slice a s.length cap) [] (dD s) rfl rfl S r (by simp[dD];omega) H ?_);intro v5 w5 f M ae;rw[List.nil_append]at f;have af:=M.size;have U:=f.form;rw[q01]at U;obtain⟨a5,c5,rfl,-,-⟩:=U;obtain⟨g5,rfl⟩:=oU f (by rw[q01];omega))
  | (at_builtin;(refine Q0 rfl _ _ rfl u.heap.size g5 c5 s.length (dD s) 6 rfl rfl (q01 s) f (by decide) (by omega) (by omega) ?_);intro F c6 w6 k V ag))
 have aq:=(f.lt g5 rfl).1;have X:Keeps (fun _=>False) u w6:=(L.out.2.2.2.2.trans M (fun x hx e=>by simp only [Value.ownBlock,Option.some.injEq]at e;omega)).trans V (fun x hx e=>by omega);have Y:=dh (dn k X);have ar:=k.lt F rfl;clear M af f V ae ag k X S H d0 d3 r E;go_wp2_with fail;go_loopg [31] 3 (fun mu iv wr=>∃i:Nat,i<=3/\mu=3 - i/\iv=.int .i64 i/\dH u.heap.size wr (.slice (some ⟨F,0,none⟩) (s.length+6) c6) (yR s d i)/\Keeps (fun _=>False) u wr)
 case atStart=>exact⟨0,by omega,rfl,rfl,Y.out⟩
 case round =>
  obtain⟨i,hi,Z,rfl,g,l⟩:=hrel;have HG:=dh Z;clear Z Y;by_cases D:i<3
  ·obtain⟨p,hp⟩:∃p,p=(i+2) % 3:=⟨_,rfl⟩
   have ah:p<3:=by rw[hp];exact Nat.mod_lt _ (by decide)
   have N:=L.out.2.2.2.1.keeps l (fun _ _ h=>h);have O:∀j,j<3->(dD [fx s d 0,fx s d 1,fx s d 2])[j]? = some ((fx s d j:Nat):Int):=fun j hj=>by rcases(show j=0\/j=1\/j=2 by omega)with rfl|rfl|rfl <;> rfl
   obtain⟨ci,-⟩:=N.cell (O i D);obtain⟨cp,-⟩:=N.cell (O p ah);have au:=C.out.2.2.2.1 i;have ai:=C.out.2.2.2.1 p;have aj:=C.out.1.even;have av:mt (fx s d p)<s.length:=dQ aj ai;have B:=fun W=>BA (fx s d p) W (by omega);have m1:((i:Int)+3 - 1).tmod 3=(p:Int):=by rw[show (i:Int)+3 - 1=((i+2:Nat):Int) by omega,Int.tmod_eq_emod_of_nonneg (by omega),hp];rfl
   have aa:=JE s d i;obtain⟨z1,q1,f1⟩:=g.has (mt (fx s d p)) (by omega);have P:=g.set (mt (fx s d p)) ((s.length:Int)+2 * (i:Int));obtain⟨z2,q2,f2⟩:=P.has (s.length+2 * i) (by rw[List.length_set];omega);have o:=P.set (s.length+2 * i) ((fx s d i:Nat):Int);obtain⟨z3,q3,f3⟩:=o.has (s.length+2 * i+1) (by rw[List.length_set,List.length_set];omega);have r:=o.set (s.length+2 * i+1) ((s.length:Int)+2 * (p:Int)+1);have ab:yR s d (i+1)=((((yR s d i).set (mt (fx s d p)) ((s.length:Int)+2 * (i:Int))).set (s.length+2 * i) ((fx s d i:Nat):Int)).set (s.length+2 * i+1) ((s.length:Int)+2 * (p:Int)+1)):=by show (((yR s d i).set (mt (fx s d ((i+2) % 3))) ((s.length+2 * i:Nat):Int)).set (s.length+2 * i) ((fx s d i:Nat):Int)).set (s.length+2 * i+1) ((s.length+2 * ((i+2) % 3)+1:Nat):Int)=_;rw[<-hp,show ((s.length+2 * i:Nat):Int)=(s.length:Int)+2 * (i:Int) by omega,show ((s.length+2 * p+1:Nat):Int)=(s.length:Int)+2 * (p:Int)+1 by omega]
   rw[<-ab]at r;have I:=dh (dn r l);clear g N O P o r l aa hp C L ab;generalize fx s d p=xp at *;generalize fx s d i=xi at *;generalize hy:mt xp=y at *;go_wp2_with fail;refine(B _).mono ?_;clear B;rintro e w7 ⟨rfl,rfl⟩;go_wp2;go_roundg (3 - (i+1))
   case measure=>rw[HG.out];omega
   case rel=>exact⟨i+1,by omega,rfl,by go_num,I.out.1,(I.out.2.trans ((((Keeps.refl (fun x=>x=F) wr).setCell (p:=⟨F,y,none⟩) (.inl rfl) _).setCell (p:=⟨F,s.length+2 * i,none⟩) (.inl rfl) _).setCell (p:=⟨F,s.length+2 * i+1,none⟩) (.inl rfl) _) (fun x hx e=>by omega))⟩
  ·obtain rfl:i=3:=by omega
   rw[Vo C.out.1 hd]at g;have c:=l.at L.out.2.1 (fun h=>h);have b:=l.at L.out.2.2.1 (fun h=>h);have d1:=dw c 1;have c0:=dw b 0;have c1:=dw b 1;have c2:=dw b 2;have f0:=dx b 0;have f1:=dx b 1;have f2:=dx b 2;have I:=dh (dn g (dn (L.out.1.trans l (fun _ _ h=>h)) b));have aw:=(g.lt F rfl).1;clear g l c b L C;go_wp2;obtain⟨r1,r2⟩:=nu I.out.2.2 (.slice (some ⟨F,0,none⟩) (s.length+6) c6) (.int .i64 rt) (.int .i64 0);have e0:=dw r1 0;have e1:=dw r1 1;have e2:=dw r1 2;refine bodyPost_ret (v:=fI (.slice (some ⟨F,0,none⟩) (s.length+6) c6) rt 0) ?_ rfl ⟨_,rfl,(I.out.1.keeps r2 (fun q hq e=>by have:=(I.out.1.lt q hq).1;omega)).mono (fun q hq=>by have:=(I.out.1.lt q hq).1;omega),I.out.2.1.trans r2 (fun x hx e=>by omega)⟩;simp at e0 e1 e2;simp[results,Tryz.results80,go_sem,fI,e0,e1,e2]
end
section
open Go.RowKit
noncomputable def kD(s:List Nat)(d:Nat):List Nat:=(List.range s.length).map fun z=>sg s (gV (gq (sg s) d) d (mt (sg s (mt d))) (gV (gq (sg s) (mt d)) (mt d) (mt (sg s d)) z))
theorem JF(s:List Nat)(d:Nat):(kD s d).length=s.length:=by simp[kD]
def tX(s:List Nat)(d:Nat):Nat:=sg s (mt (sg s (mt d)))
theorem Vq{s:List Nat}(T:jY s.length (sg s)){d:Nat}(i:d<s.length)(h:vnum (sg s) (tX s d)≠vnum (sg s) (tX s (mt d))) :
  jY (kD s d).length (sg (kD s d)) /\
   ((((((dD s).set (gq (sg s) d) ((sg s d:Nat):Int)).set (gq (sg s) (mt d)) ((sg s (mt d):Nat):Int)).set (mt (sg s (mt d))) (d:Int)).set d ((tX s d:Nat):Int)).set (mt (sg s d)) ((mt d:Nat):Int)).set (mt d) ((tX s (mt d):Nat):Int)=dD (kD s d):=by
 have o:=T.dR.eF i;have p:=T.dR.eF (T.mlt i);have j:vnum (sg s) (sg s (mt (sg s (mt d))))≠vnum (sg s) (sg s (mt (sg s d))):=by unfold tX at h;rw[dF]at h;exact h
 obtain⟨F,hF,g,P,Q,R,k4,S,U,m,u,q,v,w,r,y,z⟩:=T.flip i o p (T.dR.fD i) (T.dR.fD (T.mlt i)) j;have k:∀x,x<s.length->sg (kD s d) x=F x:=fun x f=>by rw[hF];simp[sg,kD,f]
 have A:∀x,x<s.length->(dD (kD s d))[x]? = some ((F x:Nat):Int):=fun x f=>jA (by rw[hF];simp[kD,f]);have n:dO s.length (sg (kD s d)):=g.dR.congr k;refine⟨?_,?_⟩
 ·rw[JF];refine⟨n,T.even,fun x f=>?_,fun x f=>?_,dI.EW k g.conn⟩
  ·have B:=dQ T.even f;have J:=g.dR.lt _ B;have C:=dQ T.even J;have K:=g.dR.lt _ C;have L:=dQ T.even K;rw[k _ B,k _ C,k _ L];exact g.tri x f
  ·have D:∀x,x<s.length->vnum (sg (kD s d)) x=vnum F x:=fun x f=>by unfold vnum;rw[Gi n g.dR k f,yM n g.dR k _ (Nat.le_of_lt (g.dR.kQ f))]
   rw[D x f,D _ (dQ T.even f)];exact g.loop x f
 ·have M:mt (sg s (mt d))<s.length:=T.mlt (T.dR.lt _ (T.mlt i));have N:mt (sg s d)<s.length:=T.mlt (T.dR.lt _ i);have O:=T.mlt i;have E:tX s d=sg s (mt (sg s (mt d))):=rfl;have G:tX s (mt d)=sg s (mt (sg s d)):=by unfold tX;rw[dF]
  have t:∀x,x<s.length->(dD s)[x]? = some ((sg s x:Nat):Int):=fun x f=>jA (tZ f);have V:=q01 s;rw[<-E]at q;rw[<-G]at r;clear hF g T n k h j E G;have W:=m _ (.inl rfl);have X:=m _ (.inr (.inl rfl));have a3:=m _ (.inr (.inr rfl));have l:=dh (dn u (dn q (dn v (dn w (dn r (dn y z))))));clear u q v w r y z m;generalize gq (sg s) d=bd at *;generalize gq (sg s) (mt d)=be at *;generalize mt (sg s (mt d))=x0 at *;generalize mt (sg s d)=y0 at *;generalize mt d=e at *;generalize tX s d=a at *;generalize tX s e=b at *;apply List.ext_getElem?;intro x;by_cases f:x<s.length
  ·rw[A x f];clear A;by_cases H:x=bd\/x=d\/x=x0
   ·rcases H with c|c|c
    ·rw[c,l.out.1,List.getElem?_set_ne (by omega),List.getElem?_set_ne (by omega),List.getElem?_set_ne (by omega),List.getElem?_set_ne (by omega),List.getElem?_set_ne (by omega),List.getElem?_set_self (by omega)]
    ·rw[c,l.out.2.1,List.getElem?_set_ne (by omega),List.getElem?_set_ne (by omega),List.getElem?_set_self (by simp only [List.length_set];omega)]
    ·rw[c,l.out.2.2.1,List.getElem?_set_ne (by omega),List.getElem?_set_ne (by omega),List.getElem?_set_ne (by omega),List.getElem?_set_self (by simp only [List.length_set];omega)]
   ·by_cases I:x=be\/x=e\/x=y0
    ·rcases I with c|c|c
     ·rw[c,l.out.2.2.2.1,List.getElem?_set_ne (by omega),List.getElem?_set_ne (by omega),List.getElem?_set_ne (by omega),List.getElem?_set_ne (by omega),List.getElem?_set_self (by simp only [List.length_set];omega)]
     ·rw[c,l.out.2.2.2.2.1,List.getElem?_set_self (by simp only [List.length_set];omega)]
     ·rw[c,l.out.2.2.2.2.2.1,List.getElem?_set_ne (by omega),List.getElem?_set_self (by simp only [List.length_set];omega)]
    ·rw[l.out.2.2.2.2.2.2 x H I,List.getElem?_set_ne (by omega),List.getElem?_set_ne (by omega),List.getElem?_set_ne (by omega),List.getElem?_set_ne (by omega),List.getElem?_set_ne (by omega),List.getElem?_set_ne (by omega)];exact t x f
  ·rw[List.getElem?_eq_none (by simp only [List.length_set];omega),List.getElem?_eq_none (by rw[q01,JF];omega)]
def Og(B:Nat)(w:World)(rt:Int)(s:List Nat)(e:Ending)(w':World):Prop :=
 ∃nC a,e=.returned (fI nC rt 0)/\jY a.length (sg a)/\a.length=s.length/\dH B w' nC (dD a)/\Keeps (fun _=>False) w w'
theorem Vr(B:Nat)(sv:Value)(rt:Int)(s:List Nat)(d:Nat)(w:World)(hs:dH B w sv (dD s))(T:jY s.length (sg s))(Z:d<s.length)(hl:s.length<=1000) :
  Calls Tryz.prog 82 #[fI sv rt 0,.int .i64 d] w (Og B w rt s):=by
 obtain⟨W0,A⟩:∃W0,W0=(w.alloc (.cells #[sv,.int .i64 rt,.int .i64 0] 27)).alloc (.cells #[.slice none 0 0,.int .i64 0,.int .i64 0] 27):=⟨_,rfl⟩
 have k0:Keeps (fun _=>False) w W0:=by rw[A];exact((Keeps.refl _ w).alloc _).alloc _
 have J:W0.heap[w.heap.size]? = some (.cells #[sv,.int .i64 rt,.int .i64 0] 27 (0,0)):=by rw[A];exact((Keeps.refl (fun _=>False) _).alloc _).at (heap_alloc_new w _) (fun h=>h)
 have aK:W0.heap[w.heap.size+1]? = some (.cells #[.slice none 0 0,.int .i64 0,.int .i64 0] 27 (0,0)):=by rw[A];have:=heap_alloc_new (w.alloc (.cells #[sv,.int .i64 rt,.int .i64 0] 27)) (.cells #[.slice none 0 0,.int .i64 0,.int .i64 0] 27);simpa using this
 have a8:W0.heap.size=w.heap.size+2:=by rw[A];simp
 have hP:=Lj sv rt 0 s W0 (hs.keeps k0 (fun _ _ h=>h)).sl T.even (by omega);obtain⟨a0,cap,rfl,bl,bm⟩:=hs.form;rw[q01]at *;obtain⟨K,rfl⟩:=oU hs (by rw[q01];omega);have bn:=hs.lt K rfl;have I:=dh (dn T (dn Z hs));have ao:=dh (dn k0 (dn J aK));have d0:=dw J 0;have d1:=dw J 1;have d2:=dw J 2;unfold fI;clear T hs k0 J aK;go_enter Tryz.func82,Tryz.ntmps82;go_wp2_with fail;rw[<-A];clear A;refine hP.mono ?_;clear hP;rintro e1 w1 ⟨pv,rfl,L,M⟩;have ai:=ao.out.1.trans M (fun _ _ h=>h);have ap:=dh (dn (M.at ao.out.2.1 (fun h=>h)) (M.at ao.out.2.2 (fun h=>h)));have bo:w.heap.size+2<=w1.heap.size:=by have:=M.size;omega
 obtain⟨pa,pc,rfl,-,-⟩:=L.form;rw[q01,oD]at L ⊢;obtain⟨gp,rfl⟩:=oU L (by rw[q01,oD];omega);have o:∀j,j<s.length->w1.cell? ⟨gp,j,none⟩=some (.int .i64 (sg s (mt j):Nat)):=fun j hj=>by have:=(L.cell (jA (tZ (s:=dS s) (d:=j) (by rw[oD];exact hj)))).1;rwa [wU hj]at this
 have y:=I.out.1.even;have m:mt d<s.length:=dQ y Z;have C:sg s (mt d)<s.length:=I.out.1.dR.lt _ m;have D:sg s (mt (mt d))<s.length:=I.out.1.dR.lt _ (dQ y m);have c1:=o d Z;have c2:=o _ C;have c3:=o _ m;have c4:=o _ D;have aa:tX s d<s.length:=I.out.1.dR.lt _ (dQ y C);have N:tX s (mt d)<s.length:=I.out.1.dR.lt _ (dQ y D);have hm:=BA d w1 (by omega);have aq:=dh o;clear M d0 d1 d2 L a8 o;rw[show sg s (mt (sg s (mt d)))=tX s d from rfl]at c2;rw[show sg s (mt (sg s (mt (mt d))))=tX s (mt d)from rfl]at c4;have HE:=dh (dn m (dn C (dn D (dn aa N))));obtain⟨e,he⟩:∃e,e=mt d:=⟨_,rfl⟩
 obtain⟨f,hf⟩:∃f,f=sg s e:=⟨_,rfl⟩
 obtain⟨g,hg⟩:∃g,g=sg s (mt e):=⟨_,rfl⟩
 obtain⟨a,ha⟩:∃a,a=tX s d:=⟨_,rfl⟩
 obtain⟨b,hb⟩:∃b,b=tX s e:=⟨_,rfl⟩
 rw[<-he]at m C D N c1 c2 c3 c4 hm;rw[<-hf]at C c1 c2;rw[<-hg]at D c3 c4;rw[<-ha]at aa c2;rw[<-hb]at N c4;have E:=dh (dn he (dn hf (dn hg (dn ha hb))));clear he hf hg ha hb;go_wp2_with fail;refine hm.mono ?_;clear hm;rintro e2 w2 ⟨rfl,rfl⟩;go_wp2_with fail;go_quiet (fail);clear c1 c2 c3 c4;obtain⟨wq,ar⟩:∃wq,wq=w1.drewN nq:=⟨_,rfl⟩
 have G:Keeps (fun _=>False) w1 wq:=by rw[ar];exact(Keeps.refl _ w1).drewN nq
 have O:=ai.trans G (fun _ _ h=>h);have au:=I.out.2.2.keeps O (fun _ _ h=>h);have bp:w.heap.size+2<=wq.heap.size:=by have:=G.size;omega
 have aL:=QW (.slice (some ⟨K,0,none⟩) s.length cap) s wq au.sl (fun q hq=>by simp only [Value.ownBlock,Option.some.injEq]at hq;omega) I.out.1.dR (by omega);have P:=G.at ap.out.1 (fun h=>h);have aj:=G.at ap.out.2 (fun h=>h);have HQ:=dh (dn O (dn P (dn aj (dn au G))));have d0:=dw P 0;clear au ai P aj G O ap;rw[<-ar];clear ar;go_wp2_with fail;refine aL.mono ?_;clear aL d0;rintro e3 n ⟨gn,rfl,zs,av,aw,aM,r⟩;subst aw;have ak:=r.at HQ.out.2.1 (fun h=>h);have Q:=r.at HQ.out.2.2.1 (fun h=>h);have R:=HQ.out.1.trans r (fun _ _ h=>h);have H:=HQ.out.2.2.2.1.keeps r (fun _ _ h=>h);have bq:w.heap.size+2<=n.heap.size:=by have:=r.size;omega
 have z:∀W,Keeps (fun _=>False) n W->∀j,j<s.length->W.cell? ⟨gn,j,none⟩=some (.int .i64 (vnum (sg s) j:Nat)):=fun W t j hj=>((aM.keeps t (fun _ _ h=>h)).cell (jA (by simp[hj]))).1
 have S:∀W,Keeps (fun _=>False) n W->Og B w rt s (.returned (fI (.slice (some ⟨K,0,none⟩) s.length cap) rt 0)) (((W.setCell ⟨w.heap.size+1,0,none⟩ (.slice (some ⟨K,0,none⟩) s.length cap)).setCell ⟨w.heap.size+1,1,none⟩ (.int .i64 rt)).setCell ⟨w.heap.size+1,2,none⟩ (.int .i64 0)) /\
   (((W.setCell ⟨w.heap.size+1,0,none⟩ (.slice (some ⟨K,0,none⟩) s.length cap)).setCell ⟨w.heap.size+1,1,none⟩ (.int .i64 rt)).setCell ⟨w.heap.size+1,2,none⟩ (.int .i64 0)).heap[w.heap.size+1]? = some (.cells #[.slice (some ⟨K,0,none⟩) s.length cap,.int .i64 rt,.int .i64 0] 27 (0,0)):=fun W t=>by
  obtain⟨r1,r2⟩:=nu (t.at Q (fun h=>h)) (.slice (some ⟨K,0,none⟩) s.length cap) (.int .i64 rt) (.int .i64 0);exact⟨⟨_,s,rfl,I.out.1,rfl,(H.keeps t (fun _ _ h=>h)).keeps r2 (fun q hq e=>by simp only [Value.ownBlock,Option.some.injEq]at hq;omega),(R.trans t (fun _ _ h=>h)).trans r2 (fun x hx e=>by omega)⟩,r1⟩
 have aN:=dh S;have k:=dh (dn ak (dn Q (dn R H)));have ca:=z n (Keeps.refl _ _) a aa;have cb:=z n (Keeps.refl _ _) b N;have ab:=dh z;have ax:=World.block_lt_of_cell? _ _ (aq.out d Z);have al:∀j,j<s.length->n.cell? ⟨gp,j,none⟩=some (.int .i64 (sg s (mt j):Nat)):=fun j hj=>(World.cell?_of_block ((HQ.out.2.2.2.2.trans r (fun _ _ h=>h)).block gp ax (fun h=>h))).trans (aq.out j hj);have aO:gp<n.heap.size:=by have:=(HQ.out.2.2.2.2.trans r (fun _ _ h=>h)).size;have:gp<w1.heap.size:=ax;omega
 have a9:=dh al;clear S ak Q R H z aM r av HQ ax al aq;by_cases ay:vnum (sg s) a=vnum (sg s) b
 ·have t1:((vnum (sg s) a:Int) == (vnum (sg s) b:Int))=true:=by rw[ay];simp
  clear ay;go_wp2_with fail;go_quiet (fail);clear ca cb t1;obtain⟨W,t⟩:∃W,W=n.drewN nq:=⟨_,rfl⟩
  have c:Keeps (fun _=>False) n W:=by rw[t];exact(Keeps.refl _ n).drewN nq
  rw[<-t];clear t;have p0:=dw (c.at k.out.1 (fun h=>h)) 0;have p1:=dw (c.at k.out.1 (fun h=>h)) 1;have p2:=dw (c.at k.out.1 (fun h=>h)) 2;have q0:=dw (c.at k.out.2.1 (fun h=>h)) 0;have q1:=dw (c.at k.out.2.1 (fun h=>h)) 1;have q2:=dw (c.at k.out.2.1 (fun h=>h)) 2;have r0:=dx (c.at k.out.2.1 (fun h=>h)) 0;have r1:=dx (c.at k.out.2.1 (fun h=>h)) 1;have r2:=dx (c.at k.out.2.1 (fun h=>h)) 2;have HS:=dh (aN.out W c);clear c;go_wp2;obtain⟨s1,s2⟩:=HS.out;have e0:=dw s2 0;have e1:=dw s2 1;have e2:=dw s2 2;refine bodyPost_ret (v:=fI (.slice (some ⟨K,0,none⟩) s.length cap) rt 0) ?_ rfl s1;simp at e0 e1 e2;simp[results,Tryz.results82,go_sem,fI,e0,e1,e2]
 ·have t1:((vnum (sg s) a:Int) == (vnum (sg s) b:Int))=false:=by rw[beq_eq_false_iff_ne];omega
  go_wp2_with fail
  go_quiet (fail)
  clear ca cb t1;obtain⟨W,t⟩:∃W,W=n.drewN nq:=⟨_,rfl⟩
  have c:Keeps (fun _=>False) n W:=by rw[t];exact(Keeps.refl _ n).drewN nq
  rw[<-t];clear t;have p0:=dw (c.at k.out.1 (fun h=>h)) 0;have HW:=dh c;clear c;go_wp2_with fail;clear p0;go_loopg [49] s.length (fun mu iv wr=>∃x:Nat,x<=s.length/\mu=s.length - x/\iv=.int .i64 x/\Keeps (fun _=>False) n wr)
  case atStart=>exact⟨0,Nat.zero_le _,by omega,rfl,HW.out⟩
  case round =>
   obtain⟨x,hx,aP,rfl,i⟩:=hrel;have HG:=dh aP;clear aP HW;by_cases aQ:x<s.length
   ·have ba:=dQ y aQ;have cx:=ab.out wr i x aQ;have ca:=ab.out wr i a aa;have cb:=ab.out wr i b N;have cm:=ab.out wr i _ ba;have hm:=fun W=>BA x W (by omega);generalize mt x=mx at *;by_cases h1:vnum (sg s) x=vnum (sg s) a
    ·have t1:((vnum (sg s) x:Int) == (vnum (sg s) a:Int))=true:=by rw[h1];simp
     by_cases h2:vnum (sg s) mx=vnum (sg s) b
     ·have t2:((vnum (sg s) mx:Int) == (vnum (sg s) b:Int))=true:=by rw[h2];simp
      clear h1 h2;have HK:=dh i;clear i;go_wp2_with fail;go_quiet ((go_at_call 67;exact nN (hm _)));clear ca cb cx cm t1 t2 hm;obtain⟨W,t⟩:∃W,W=wr.drewN nq:=⟨_,rfl⟩
      have c:Keeps (fun _=>False) n W:=by rw[t];exact HK.out.drewN nq
      rw[<-t];clear t;have p0:=dw (c.at k.out.1 (fun h=>h)) 0;have p1:=dw (c.at k.out.1 (fun h=>h)) 1;have p2:=dw (c.at k.out.1 (fun h=>h)) 2;have q0:=dw (c.at k.out.2.1 (fun h=>h)) 0;have q1:=dw (c.at k.out.2.1 (fun h=>h)) 1;have q2:=dw (c.at k.out.2.1 (fun h=>h)) 2;have r0:=dx (c.at k.out.2.1 (fun h=>h)) 0;have r1:=dx (c.at k.out.2.1 (fun h=>h)) 1;have r2:=dx (c.at k.out.2.1 (fun h=>h)) 2;have HS:=dh (aN.out W c);clear c;go_wp2;obtain⟨s1,s2⟩:=HS.out;have e0:=dw s2 0;have e1:=dw s2 1;have e2:=dw s2 2;refine bodyPost_ret (v:=fI (.slice (some ⟨K,0,none⟩) s.length cap) rt 0) ?_ rfl s1;simp at e0 e1 e2;simp[results,Tryz.results82,go_sem,fI,e0,e1,e2]
     ·have t2:((vnum (sg s) mx:Int) == (vnum (sg s) b:Int))=false:=by rw[beq_eq_false_iff_ne];omega
      have HK:=dh i;clear h1 h2 i;go_wp2_with fail;go_quiet ((go_at_call 67;exact nN (hm _)));clear ca cb cx cm t1 t2 hm;go_wp2;go_roundg (s.length - (x+1))
      case measure=>rw[HG.out];omega
      case rel=>exact⟨x+1,by omega,rfl,by go_num,HK.out.drewN nq⟩
    ·have t1:((vnum (sg s) x:Int) == (vnum (sg s) a:Int))=false:=by rw[beq_eq_false_iff_ne];omega
     have HK:=dh i;clear h1 i;go_wp2_with fail;go_quiet ((go_at_call 67;exact nN (hm _)));clear ca cb cx cm t1 hm;go_wp2;go_roundg (s.length - (x+1))
     case measure=>rw[HG.out];omega
     case rel=>exact⟨x+1,by omega,rfl,by go_num,HK.out.drewN nq⟩
   ·have ka:=(Keeps.refl (fun _=>False) wr).alloc (.cells #[] 3);have p0:=dw (i.at k.out.1 (fun h=>h)) 0;have p3:=dw (ka.at (i.at k.out.1 (fun h=>h)) (fun h=>h)) 0;have H:=((k.out.2.2.2.keeps i (fun _ _ h=>h)).keeps ka (fun _ _ h=>h)).sl;have aR:=IG wr;have am:wr.heap.size<=(wr.alloc (.cells #[] 3)).heap.size:=by simp
    have br:=i.size;have az:=dh (dn i ka);clear i ka;go_wp2_with (at_builtin;(refine FH rfl _ _ rfl wr.heap.size (.slice (some ⟨wr.heap.size,0,none⟩) 0 0) (.slice (some ⟨K,0,none⟩) s.length cap) [] (dD s) rfl rfl aR H (by simp[dD];omega) am ?_);intro v5 w5 l aS bc;rw[List.nil_append]at l;have aT:=l.form;rw[q01]at aT;obtain⟨a5,c5,rfl,-,-⟩:=aT;obtain⟨g5,rfl⟩:=oU l (by rw[q01];omega);have k5:Keeps (fun _=>False) n w5:=(az.out.1.trans az.out.2 (fun _ _ h=>h)).trans aS (fun x hx e=>by simp only [Value.ownBlock,Option.some.injEq]at e;omega);have p5:=dw (k5.at k.out.1 (fun h=>h)) 0)
    have bs:=l.lt g5 rfl;have aU:=k.out.2.2.2.keeps k5 (fun _ _ h=>h);have aV:=QV (.slice (some ⟨K,0,none⟩) s.length cap) s w5 aU.sl I.out.1.dR (by omega);refine aV.mono ?_;clear aV p0 p3 H aR am aU p5 aS bc;rintro e7 w7 ⟨gb,rfl,zs,av,aw,U,aA⟩;subst aw;have bt:=U.lt gb rfl;have V:=l.keeps aA (fun _ _ h=>h);have k7:=k5.trans aA (fun _ _ h=>h);have bu:n.heap.size<=w5.heap.size:=k5.size;obtain⟨bd,ad⟩:∃bd,bd=gq (sg s) d:=⟨_,rfl⟩
    obtain⟨be,ae⟩:∃be,be=gq (sg s) e:=⟨_,rfl⟩
    have aW:bd<s.length:=by rw[ad];exact I.out.1.dR.eF Z
    have aX:be<s.length:=by rw[ae];exact I.out.1.dR.eF m
    have bf:w7.cell? ⟨gb,d,none⟩=some (.int .i64 (bd:Nat)):=by rw[ad];exact(U.cell (jA (by simp[Z]))).1
    have bg:w7.cell? ⟨gb,e,none⟩=some (.int .i64 (be:Nat)):=by rw[ae];exact(U.cell (jA (by simp[m]))).1
    have af:g=sg s d:=by rw[E.out.2.2.1,E.out.1,dF]
    have bh:w7.cell? ⟨g5,d,none⟩=some (.int .i64 (g:Nat)):=by rw[af];exact(V.cell (jA (tZ Z))).1
    have bi:w7.cell? ⟨g5,e,none⟩=some (.int .i64 (f:Nat)):=by rw[E.out.2.1];exact(V.cell (jA (tZ m))).1
    have an:jY (kD s d).length (sg (kD s d))/\((((((dD s).set bd (g:Int)).set be (f:Int)).set (mt f) (d:Int)).set d (a:Int)).set (mt g) (e:Int)).set e (b:Int)=dD (kD s d):=by have:=Vq I.out.1 Z (by rw[<-E.out.2.2.2.1,<-E.out.1,<-E.out.2.2.2.2];exact ay);rw[<-E.out.1,<-ad,<-ae,<-af,<-E.out.2.1,<-E.out.2.2.2.1,<-E.out.2.2.2.2]at this;exact this
    obtain⟨z1,q1,f1⟩:=V.has bd (by rw[q01];exact aW);have aB:=V.set bd (g:Int);obtain⟨z2,q2,f2⟩:=aB.has be (by rw[List.length_set,q01];exact aX);have aY:=aB.set be (f:Int);have HO:=dh (dn aY (dn k7 (dn an (dn af U))));clear l U aA V k7 k5 aB aY an af ad ae av az;go_wp2_with fail;go_region;clear bf bg bh bi q1 f1 q2 f2;obtain⟨W8,ag⟩:∃W8,W8=((w7.setCell ⟨g5,bd,none⟩ (.int .i64 (g:Int))).setCell ⟨g5,be,none⟩ (.int .i64 (f:Int))).drew:=⟨_,rfl⟩
    have aZ:Keeps (fun x=>x=g5) w7 W8:=by rw[ag];exact(((Keeps.refl (fun x=>x=g5) w7).setCell (p:=⟨g5,bd,none⟩) (.inl rfl) _).setCell (p:=⟨g5,be,none⟩) (.inl rfl) _).drew
    have a1:=HO.out.1.keeps (w':=W8) (F:=fun _=>False) (by rw[ag];exact(Keeps.refl _ _).drew) (fun _ _ h=>h);have aC:Keeps (fun x=>x=g5) n W8:=(HO.out.2.1.mono (fun _ _ h=>h.elim)).trans aZ (fun _ _ h=>h);have bv:n.heap.size<=g5:=by omega
    have X:∀j,j<s.length->W8.cell? ⟨gp,j,none⟩=some (.int .i64 (sg s (mt j):Nat)):=fun j hj=>(World.cell?_of_block (aC.block gp aO (fun h=>by omega))).trans (a9.out j hj);have c1:=X d Z;have c3:=X e m;rw[<-E.out.1,<-E.out.2.1]at c1;rw[<-E.out.2.2.1]at c3;have a2:=fun W=>BA f W (by omega);have a3:=fun W=>BA g W (by omega);have H8:=dh (dn a1 aC);rw[<-ag];clear ag aZ a1 aC X;have bj:=dQ y C;have bk:=dQ y D;generalize mt f=x0 at *;generalize mt g=y0 at *;go_wp2_with fail;go_quiet ((go_at_call 67;first | (with_reducible exact nN (a2 _)) | (with_reducible exact nN (a3 _))));clear c1 c3 a2 a3;obtain⟨W9,aD⟩:∃W9,W9=W8.drewN nq:=⟨_,rfl⟩
    have aE:Keeps (fun _=>False) W8 W9:=by rw[aD];exact(Keeps.refl _ W8).drewN nq
    have aF:=H8.out.1.keeps aE (fun _ _ h=>h);have a4:Keeps (fun x=>x=g5) n W9:=H8.out.2.trans aE (fun _ _ h=>h.elim);rw[<-aD];clear aD;have Y:(((dD s).set bd (g:Int)).set be (f:Int)).length=s.length:=by rw[List.length_set,List.length_set,q01]
    obtain⟨z3,q3,f3⟩:=aF.has x0 (by rw[Y];exact bj);have aG:=aF.set x0 (d:Int);obtain⟨z4,q4,f4⟩:=aG.has d (by rw[List.length_set,Y];exact Z);have aH:=aG.set d (a:Int);obtain⟨z5,q5,f5⟩:=aH.has y0 (by rw[List.length_set,List.length_set,Y];exact bk);have aI:=aH.set y0 (e:Int);obtain⟨z6,q6,f6⟩:=aI.has e (by rw[List.length_set,List.length_set,List.length_set,Y];exact m);have aJ:=aI.set e (b:Int);rw[HO.out.2.2.1.2]at aJ
    have a6:Keeps (fun x=>x=g5) W9 ((((W9.setCell ⟨g5,x0,none⟩ (.int .i64 (d:Int))).setCell ⟨g5,d,none⟩ (.int .i64 (a:Int))).setCell ⟨g5,y0,none⟩ (.int .i64 (e:Int))).setCell ⟨g5,e,none⟩ (.int .i64 (b:Int))) :=
     ((((Keeps.refl (fun x=>x=g5) W9).setCell (p:=⟨g5,x0,none⟩) (.inl rfl) _).setCell (p:=⟨g5,d,none⟩) (.inl rfl) _).setCell (p:=⟨g5,y0,none⟩) (.inl rfl) _).setCell (p:=⟨g5,e,none⟩) (.inl rfl) _
    have ah:=a4.trans a6 (fun _ _ h=>h);have a7:=ah.at k.out.1 (fun h=>by omega);have u:=ah.at k.out.2.1 (fun h=>by omega);have p1:=dw a7 1;have u0:=dw u 0;have u1:=dw u 1;have u2:=dw u 2;have v0:=dx u 0;have v1:=dx u 1;have v2:=dx u 2;have HD:=dh (dn aJ (dn ah u));clear aF aG aH aI aJ aE a4 a6 ah a7 u Y;go_wp2;obtain⟨r1,r2⟩:=nu HD.out.2.2 (.slice (some ⟨g5,0,none⟩) s.length c5) (.int .i64 rt) (.int .i64 0);have e0:=dw r1 0;have e1:=dw r1 1;have e2:=dw r1 2;have r:w.heap.size<=n.heap.size:=by omega
    refine bodyPost_ret (v:=fI (.slice (some ⟨g5,0,none⟩) s.length c5) rt 0) ?_ rfl ⟨_,kD s d,rfl,HO.out.2.2.1.1,JF s d,(HD.out.1.keeps r2 (fun q hq e=>by simp only [Value.ownBlock,Option.some.injEq]at hq;omega)).mono (fun q hq=>by simp only [Value.ownBlock,Option.some.injEq]at hq;omega),(k.out.2.2.1.trans HD.out.2.1 (fun x hx e=>by omega)).trans r2 (fun x hx e=>by omega)⟩;simp at e0 e1 e2;simp[results,Tryz.results82,go_sem,fI,e0,e1,e2]
end
section
open Go.RowKit
def sG:List Nat:=[5,2,1,4,3,0]
theorem Vs:jY sG.length (sg sG):=by
 have c:dO 6 (sg sG):=by
  refine⟨fun d f=>?_,fun d e f l h=>?_⟩
  ·have h:∀x:Fin 6,sg sG x.val<6:=by decide
   exact h ⟨d,f⟩
  ·have a:∀x y:Fin 6,sg sG x.val=sg sG y.val->x.val=y.val:=by decide
   exact a ⟨d,f⟩ ⟨e,l⟩ h
 have a:∀z,z<6->dI 6 (sg sG) 0 z:=fun z b=>by
  have i:dI 6 (sg sG) 0 5:=dI.turn (S:=sg sG) (by decide);have j:dI 6 (sg sG) 0 1:=dI.mate (by decide);have k:=j.trans (dI.turn (S:=sg sG) (x:=1) (by decide));have m:=k.trans (dI.mate (x:=2) (by decide));have n:=i.trans (dI.mate (x:=5) (by decide));rcases(show z=0\/z=1\/z=2\/z=3\/z=4\/z=5 by omega)with h|h|h|h|h|h
  ·rw[h];exact dI.refl _ _ _
  ·rw[h];exact j
  ·rw[h];exact k
  ·rw[h];exact m
  ·rw[h];exact n
  ·rw[h];exact i
 refine⟨c,rfl,fun x g=>?_,JC c rfl (fun z=>([0,1,1,2,2,0]:List Nat).getD z 0) (fun z b=>?_) (fun z b=>?_),fun x y g o=>(c.gL rfl (by decide) (a x g)).trans (a y o)⟩
 ·have h:∀x:Fin 6,sg sG (mt (sg sG (mt (sg sG (mt x.val)))))=x.val:=by decide
  exact h ⟨x,g⟩
 ·have h:∀x:Fin 6,([0,1,1,2,2,0]:List Nat).getD (sg sG x.val) 0=([0,1,1,2,2,0]:List Nat).getD x.val 0:=by decide
  exact h ⟨z,b⟩
 ·have h:∀x:Fin 6,([0,1,1,2,2,0]:List Nat).getD x.val 0≠([0,1,1,2,2,0]:List Nat).getD (mt x.val) 0:=by decide
  exact h ⟨z,b⟩
theorem Vt(I:Nat)(pv:Value)(ps:List Nat)(root:Nat)(w:World)(hp:Sl .u8 w pv (dD ps))(am:∀b ∈ ps,b<256)(hI:I<=100)(aD:root<256) :
  Calls Tryz.prog 42 #[.int .i64 I,pv,.int .u8 root] w fun e w'=>∃sv s,e=.returned (fI sv ((root % s.length:Nat):Int) 0)/\jY s.length (sg s)/\s.length=6+6 * I/\dH w.heap.size w' sv (dD s)/\Keeps (fun _=>False) w w':=by
 have an:∀W m,Keeps (fun _=>False) w W->m<=100000->Calls Tryz.prog 81 #[pv,.int .i64 (m:Nat)] W fun e w'=>∃q k:Nat,e=.returned (.int .i64 q)/\q<=m+255/\w'=W.drewN k:=fun W m hW hm=>Vm pv ps m W (hp.keeps hW (fun _ _ h=>h)) am hm;have al:=dh an;clear hp am an;go_enter Tryz.func42,Tryz.ntmps42;go_wp2_with fail;obtain⟨N,F⟩:∃N,N=(((w.alloc (.cells #[.slice none 0 0,.int .i64 0,.int .i64 0] 27)).alloc (.cells #[.int .i64 5,.int .i64 2,.int .i64 1,.int .i64 4,.int .i64 3,.int .i64 0] 3)).alloc (.cells #[.slice (some ⟨w.heap.size+1,0,none⟩) 6 6,.int .i64 0,.int .i64 0] 27)):=⟨_,rfl⟩
 have k0:Keeps (fun _=>False) w N:=by rw[F];exact(((Keeps.refl _ w).alloc _).alloc _).alloc _
 have b0:N.heap[w.heap.size]? = some (.cells #[.slice none 0 0,.int .i64 0,.int .i64 0] 27 (0,0)):=by rw[F];exact(((Keeps.refl (fun _=>False) _).alloc _).alloc _).at (heap_alloc_new w _) (fun h=>h)
 have b1:N.heap[w.heap.size+1]? = some (.cells #[.int .i64 5,.int .i64 2,.int .i64 1,.int .i64 4,.int .i64 3,.int .i64 0] 3 (0,0)):=by rw[F];have R:=heap_alloc_new (w.alloc (.cells #[.slice none 0 0,.int .i64 0,.int .i64 0] 27)) (.cells #[.int .i64 5,.int .i64 2,.int .i64 1,.int .i64 4,.int .i64 3,.int .i64 0] 3);have h2:=((Keeps.refl (fun _=>False) _).alloc (.cells #[.slice (some ⟨w.heap.size+1,0,none⟩) 6 6,.int .i64 0,.int .i64 0] 27)).at R (fun h=>h);simpa using h2
 have b2:N.heap[w.heap.size+2]? = some (.cells #[.slice (some ⟨w.heap.size+1,0,none⟩) 6 6,.int .i64 0,.int .i64 0] 27 (0,0)):=by rw[F];have R:=heap_alloc_new ((w.alloc (.cells #[.slice none 0 0,.int .i64 0,.int .i64 0] 27)).alloc (.cells #[.int .i64 5,.int .i64 2,.int .i64 1,.int .i64 4,.int .i64 3,.int .i64 0] 3)) (.cells #[.slice (some ⟨w.heap.size+1,0,none⟩) 6 6,.int .i64 0,.int .i64 0] 27);simpa using R
 have ho:dH (w.heap.size+1) N (.slice (some ⟨w.heap.size+1,0,none⟩) 6 6) (dD sG):=⟨rfl,.inr ⟨w.heap.size+1,6,_,rfl,Nat.le_refl _,b1,by decide,by decide,rfl,rfl⟩⟩
 have ao:N.heap.size=w.heap.size+3:=by rw[F];simp
 have h0:N.heap[w.heap.size+2]? = some (.cells #[.slice (some ⟨w.heap.size+1,0,none⟩) 6 6,.int .i64 0,.int .i64 0] 27 (0,0))/\dH (w.heap.size+1) N (.slice (some ⟨w.heap.size+1,0,none⟩) 6 6) (dD sG)/\(∀q,(Value.slice (some ⟨w.heap.size+1,0,none⟩) 6 6).ownBlock=some q->q≠w.heap.size+2) /\
   N.heap[w.heap.size]? = some (.cells #[.slice none 0 0,.int .i64 0,.int .i64 0] 27 (0,0))/\Keeps (fun _=>False) w N:=⟨b2,ho,fun q j=>by simp only [Value.ownBlock,Option.some.injEq]at j;omega,b0,k0⟩
 obtain⟨y,H⟩:∃y,y=w.heap.size+1+1:=⟨_,rfl⟩
 rw[show w.heap.size+2=y from H.symm]at h0;have H0:=dh h0;rw[<-F,<-H];have aK:w.heap.size+1<y:=by omega
 have aL:=dh H;clear F k0 b0 b1 b2 ho h0 H
 go_loopg [8,9] I (fun mu av iv wr=>∃(i m:Nat) (sv:Value) (s:List Nat),i<=I/\mu=I - i/\m<=3 * i/\av=.int .i64 m/\iv=.int .i64 i/\jY s.length (sg s)/\s.length=6+6 * i /\
  wr.heap[y]? = some (.cells #[sv,.int .i64 0,.int .i64 0] 27 (0,0))/\dH (w.heap.size+1) wr sv (dD s)/\(∀q,sv.ownBlock=some q->q≠y) /\
  wr.heap[w.heap.size]? = some (.cells #[.slice none 0 0,.int .i64 0,.int .i64 0] 27 (0,0))/\Keeps (fun _=>False) w wr)
 case atStart=>exact⟨0,0,_,sG,Nat.zero_le _,rfl,by omega,rfl,rfl,Vs,rfl,H0.out⟩
 case round =>
  obtain⟨i,m,sv,s,hi,ap,hm,rfl,rfl,T,J,f,D,V,X,Y⟩:=hrel;have HG:=dh ap;clear ap H0;obtain⟨sa,sc,rfl,aE,-⟩:=D.form;rw[q01]at *;by_cases aq:i<I
  ·have t1:decide ((i:Int)<(I:Int))=true:=decide_eq_true (by omega);have t2:decide (i<I)=true:=decide_eq_true aq;have p0:=dw f 0;have p1:=dw f 1;have p2:=dw f 2;have f0:=dx f 0;have f1:=dx f 1;have f2:=dx f 2;have aF:y<wr.heap.size:=lt_of_block f;have z:=dh (dn T (dn J (dn f (dn D (dn V (dn X Y))))));clear T f D V X Y ao;have E:∀q:Nat,((q:Nat):Int).tmod (s.length:Int)=((q % s.length:Nat):Int)/\((q:Nat):Int) % (s.length:Int)=((q % s.length:Nat):Int)/\q % s.length<s.length:=fun q=>⟨by rw[Int.tmod_eq_emod_of_nonneg (by omega)];simp,by simp,Nat.mod_lt q (by omega)⟩
   have m6:¬(s.length:Int)=0:=by omega
   have Z:s.length<=1000:=by omega
   have m7:¬s=[]:=fun h=>by rw[h]at J;simp at J;omega
   have m8:¬s.length=0:=by omega
   have aG:m<=100000:=by omega
   have af:∀k dd,dd<s.length->Calls Tryz.prog 80 #[.agg #[.slice sa s.length sc,.int .i64 0,.int .i64 0],.int .i64 (dd:Nat)] (wr.drewN k) fun e w'=>∃t u,e=.returned (.agg #[.slice t (s.length+6) u,.int .i64 0,.int .i64 0])/\dH (y+1) w' (.slice t (s.length+6) u) (dD (nT s dd))/\Keeps (fun _=>False) wr w':=fun k dd O=>by have k1:Keeps (fun _=>False) wr (wr.drewN k):=(Keeps.refl (fun _=>False) wr).drewN k;have ho:=z.out.2.2.2.1.keeps k1 (fun _ _ h=>h);refine(Vp (.slice sa s.length sc) 0 0 s dd _ ho.sl (fun q j=>(ho.lt q j).2) z.out.1 O Z).mono ?_;rintro e w' ⟨nC,rfl,R,h2⟩;obtain⟨t,u,rfl,-,-⟩:=R.form;rw[q01,GJ]at R ⊢;exact⟨t,u,rfl,R.mono (fun q j=>by have:=(R.lt q j).1;have:=k1.size;omega),k1.trans h2 (fun _ _ h=>h)⟩
   have aa:=dh E;have ar:=dh af;clear J E af;go_upto_region 6 with fail
   go_cut []from 17 to 25 (fun wz=>∃(nC:Value) (g:List Nat),jY g.length (sg g)/\g.length=s.length+6/\wz.heap[y]? = some (.cells #[nC,.int .i64 0,.int .i64 0] 27 (0,0))/\dH (y+1) wz nC (dD g) /\
    wz.heap[w.heap.size]? = some (.cells #[.slice none 0 0,.int .i64 0,.int .i64 0] 27 (0,0))/\Keeps (fun _=>False) w wz)
   case first =>
    go_region_with (first
     | (go_at_call 81;refine(al.out _ m (by first|exact z.out.2.2.2.2.2.2.drew|exact z.out.2.2.2.2.2.2) aG).mono ?_;rintro e W ⟨q,k,rfl,j,rfl⟩;obtain⟨mq,ab,O⟩:=aa.out q;generalize q % s.length=dd at mq ab O;have m4:IntKind.i64.wrap (dd:Int)=(dd:Int):=IntWalk.i64_in _ (by omega))
     | (go_at_call 80;refine(ar.out _ dd O).mono ?_;rintro e W ⟨t,u,rfl,c,G⟩;have d:=G.at z.out.2.2.1 (fun h=>h);have y0:=dw d 0;have y1:=dw d 1;have y2:=dw d 2;have v0:=dx d 0;have v1:=dx d 1;have v2:=dx d 2))
    all_goals
     have P:=nu d (.slice t (s.length+6) u) (.int .i64 0) (.int .i64 0);have A:=dh P;have r:=dh (dn c (dn G d));have aH:=dh O;clear y0 y1 y2 v0 v1 v2 P c G d O;go_wp2;go_meet;exact⟨_,nT s dd,Vn z.out.1 aH.out,GJ s dd,A.out.1,r.out.1.keeps A.out.2 (fun q j e=>by have:=(r.out.1.lt q j).1;omega),A.out.2.at (r.out.2.1.at z.out.2.2.2.2.2.1 (fun h=>h)) (fun h=>by omega),(z.out.2.2.2.2.2.2.trans r.out.2.1 (fun _ _ h=>h)).trans A.out.2 (fun x hx e=>by omega)⟩
   case rest =>
    obtain⟨nC,g,T',au,l,c,ag,ah⟩:=hcut;obtain⟨t,u,rfl,aJ,-⟩:=c.form;rw[q01]at *;have B:g.length=6+6 * (i+1):=by have:=z.out.2.1;omega
    have aM:m+2<=3 * i+2:=by omega
    have S:=dh (dn T' (dn B (dn l (dn c (dn ag ah)))));have p0:=dw l 0;have p1:=dw l 1;have p2:=dw l 2;have f0:=dx l 0;have f1:=dx l 1;have f2:=dx l 2;clear T' au l c ag ah B aa ar m6 m7 m8 Z aE aF;have hP:=al.out wc (m+1) S.out.2.2.2.2.2 (by omega);rw[show ((m+1:Nat):Int)=(m:Int)+2 - 1 by omega]at hP;go_wp2_with fail;refine hP.mono ?_;clear hP;rintro e W ⟨q,k,rfl,j,rfl⟩;have Q:Keeps (fun _=>False) wc (wc.drewN k):=(Keeps.refl _ wc).drewN k;have a:=Q.at S.out.2.2.1 (fun h=>h);have o:=dh (dn (S.out.2.2.2.1.keeps Q (fun _ _ h=>h)) (dn (Q.at S.out.2.2.2.2.1 (fun h=>h)) (dn (S.out.2.2.2.2.2.trans Q (fun _ _ h=>h)) a)));obtain⟨Wq,aw⟩:∃Wq,Wq=wc.drewN k:=⟨_,rfl⟩
    rw[<-aw]at a o ⊢;clear aw Q p0 p1 p2 f0 f1 f2;have ax:m+2<=100000:=by omega
    by_cases ay:q % 2=0
    ·have e1:((q:Nat):Int).tmod 2=0:=by rw[Int.tmod_eq_emod_of_nonneg (by omega)];omega
     have e2:((q:Nat):Int) % 2=0:=by omega
     have p0:=dw a 0;have p1:=dw a 1;have p2:=dw a 2;have f0:=dx a 0;have f1:=dx a 1;have f2:=dx a 2;have B:=S.out.2.1;have E:∀q:Nat,((q:Nat):Int).tmod (g.length:Int)=((q % g.length:Nat):Int)/\((q:Nat):Int) % (g.length:Int)=((q % g.length:Nat):Int)/\q % g.length<g.length:=fun q=>⟨by rw[Int.tmod_eq_emod_of_nonneg (by omega)];simp,by simp,Nat.mod_lt q (by omega)⟩
     have m6:¬(g.length:Int)=0:=by omega
     have m8:¬g.length=0:=by omega
     have m7:¬g=[]:=fun h=>m8 (by rw[h];rfl);have Z:g.length<=1000:=by omega
     have aa:=dh E;have az:∀k dd,dd<g.length->Calls Tryz.prog 82 #[.agg #[.slice t g.length u,.int .i64 0,.int .i64 0],.int .i64 (dd:Nat)] (Wq.drewN k) fun e w'=>∃K L s2,e=.returned (.agg #[.slice K g.length L,.int .i64 0,.int .i64 0])/\jY s2.length (sg s2)/\s2.length=g.length/\dH (y+1) w' (.slice K g.length L) (dD s2)/\Keeps (fun _=>False) Wq w':=fun k dd O=>by have k1:Keeps (fun _=>False) Wq (Wq.drewN k):=(Keeps.refl (fun _=>False) Wq).drewN k;refine(Vr (y+1) (.slice t g.length u) 0 g dd _ (o.out.1.keeps k1 (fun _ _ h=>h)) S.out.1 O Z).mono ?_;rintro e w' ⟨M,s2,rfl,R,h2,h3,h4⟩;obtain⟨K,L,rfl,-,-⟩:=h3.form;rw[q01,h2]at h3 ⊢;exact⟨K,L,s2,rfl,R,h2,h3,k1.trans h4 (fun _ _ h=>h)⟩
     have aI:=dh az;clear a ay B E az;go_upto_region 9 with fail;clear e1 e2
     go_cut []from 34 to 42 (fun wz=>∃(M:Value) (s2:List Nat),jY s2.length (sg s2)/\s2.length=g.length/\wz.heap[y]? = some (.cells #[M,.int .i64 0,.int .i64 0] 27 (0,0))/\dH (y+1) wz M (dD s2) /\
      wz.heap[w.heap.size]? = some (.cells #[.slice none 0 0,.int .i64 0,.int .i64 0] 27 (0,0))/\Keeps (fun _=>False) w wz)
     case first =>
      go_region_with (first
       | (go_at_call 81;refine(al.out _ (m+2) (by first|exact o.out.2.2.1.drew|exact o.out.2.2.1) ax).mono ?_;rintro e W ⟨q,k,rfl,j,rfl⟩;obtain⟨mq,ab,O⟩:=aa.out q;generalize q % g.length=dd at mq ab O;have m4:IntKind.i64.wrap (dd:Int)=(dd:Int):=IntWalk.i64_in _ (by omega))
       | (go_at_call 82;refine(aI.out _ dd O).mono ?_;rintro e W ⟨K,L,s2,rfl,aA,aB,c,G⟩;have d:=G.at o.out.2.2.2 (fun h=>h);have y0:=dw d 0;have y1:=dw d 1;have y2:=dw d 2;have v0:=dx d 0;have v1:=dx d 1;have v2:=dx d 2))
      all_goals
       have P:=nu d (.slice K g.length L) (.int .i64 0) (.int .i64 0);have A:=dh P;have r:=dh (dn c (dn G (dn aA aB)));clear y0 y1 y2 v0 v1 v2 P c G d O aA aB;go_wp2;go_meet;exact⟨_,s2,r.out.2.2.1,r.out.2.2.2,A.out.1,r.out.1.keeps A.out.2 (fun q j e=>by have:=(r.out.1.lt q j).1;omega),A.out.2.at (r.out.2.1.at o.out.2.1 (fun h=>h)) (fun h=>by omega),(o.out.2.2.1.trans r.out.2.1 (fun _ _ h=>h)).trans A.out.2 (fun x hx e=>by omega)⟩
     case rest =>
      obtain⟨M,s2,T2,ai,a,C,aj,ak⟩:=hcut;have HZ:=dh (dn T2 (dn (ai.trans S.out.2.1) (dn a (dn (C.mono (B':=w.heap.size+1) (fun q j=>by have:=(C.lt q j).1;omega)) (dn (fun q j=>by have:=(C.lt q j).1;omega:∀q,M.ownBlock=some q->q≠y) (dn aj ak))))));clear T2 ai a C aj ak p0 p1 p2 f0 f1 f2 m6 m7 m8;go_wp2;go_roundg (I - (i+1))
      case measure=>rw[HG.out];omega
      case rel=>exact⟨i+1,m+2+1,M,s2,by omega,rfl,by omega,by go_num,by go_num,HZ.out⟩
    ·have e1:((q:Nat):Int).tmod 2=1:=by rw[Int.tmod_eq_emod_of_nonneg (by omega)];omega
     have e2:((q:Nat):Int) % 2=1:=by omega
     have HZ:=dh (dn S.out.1 (dn S.out.2.1 (dn a (dn (o.out.1.mono (B':=w.heap.size+1) (fun q j=>by have:=(o.out.1.lt q j).1;omega)) (dn (fun q j=>by have:=(o.out.1.lt q j).1;omega:∀q,(Value.slice t g.length u).ownBlock=some q->q≠y) (dn o.out.2.1 o.out.2.2.1))))));clear a ay;go_wp2;go_roundg (I - (i+1))
     case measure=>rw[HG.out];omega
     case rel=>exact⟨i+1,m+2,_,g,by omega,rfl,by omega,by go_num,by go_num,HZ.out⟩
  ·have t1:decide ((i:Int)<(I:Int))=false:=decide_eq_false (by omega);have t2:decide (i<I)=false:=decide_eq_false aq;have p0:=dw f 0;have p1:=dw f 1;have p2:=dw f 2;have f1:=dx f 1;have m8:¬s.length=0:=by omega
   have m7:¬s=[]:=fun h=>m8 (by rw[h];rfl);have m6:¬(s.length:Int)=0:=by omega
   obtain⟨U,ad⟩:∃U,U=root % s.length:=⟨_,rfl⟩
   have mq:((root:Nat):Int).tmod (s.length:Int)=(U:Int):=by rw[Int.tmod_eq_emod_of_nonneg (by omega),ad];simp
   have ab:((root:Nat):Int) % (s.length:Int)=(U:Int):=by rw[ad];simp
   have m4:IntKind.i64.wrap (U:Int)=(U:Int):=IntWalk.i64_in _ (by have:=Nat.mod_lt root (show 0<s.length by omega);omega);have ae:=jM f 1 (.int .i64 (U:Int));have kr:Keeps (fun x=>x=y) wr (wr.setCell ⟨y,1,none⟩ (.int .i64 (U:Int))):=(Keeps.refl (fun x=>x=y) wr).setCell (p:=⟨y,1,none⟩) (.inl rfl) _;have n:=kr.at X (fun h=>by omega);have c0:=dw ae 0;have c1:=dw ae 1;have c2:=dw ae 2;have u0:=dw n 0;have u1:=dw n 1;have u2:=dw n 2;have v0:=dx n 0;have v1:=dx n 1;have v2:=dx n 2;have aC:i=I:=by omega
   have z:=dh (dn T (dn J (dn (D.keeps kr (fun q j e=>V q j e)) (dn n (dn (Y.trans kr (fun x hx e=>by omega)) (dn ad aC))))));clear T f D V X Y ao J kr ae n ad aC;go_wp2;have P:=nu z.out.2.2.2.1 (.slice sa s.length sc) (.int .i64 (U:Int)) (.int .i64 0);have e0:=dw P.1 0;have e1:=dw P.1 1;have e2:=dw P.1 2;refine bodyPost_ret (v:=fI (.slice sa s.length sc) (U:Int) 0) ?_ rfl ⟨_,s,by rw[z.out.2.2.2.2.2.1],z.out.1,by rw[z.out.2.1,z.out.2.2.2.2.2.2],(z.out.2.2.1.keeps P.2 (fun q j e=>by have:=(z.out.2.2.1.lt q j).1;omega)).mono (fun q j=>by have:=(z.out.2.2.1.lt q j).1;omega),z.out.2.2.2.2.1.trans P.2 (fun x hx e=>by omega)⟩;simp at e0 e1 e2;simp[results,Tryz.results42,go_sem,fI,e0,e1,e2]
end
