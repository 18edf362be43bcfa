import Derived.Test.YtalhcfjcbbkpgaaGreatZt1e
import Derived.Test.YtalhcfjcbbkpgaaGreatZt1f
import Derived.Test.YtalhcfjcbbkpgaaGreatZt1g
set_option maxRecDepth 100000
set_option maxHeartbeats 4000000
namespace Go.Proofs.YtalhcfjcbbkpgaaGreat
open Go.RowKit
theorem KT(o:Nat)(d:o<256):∃(a b c:Nat) (t p:Bool),bits .and .u8 (o:Int) 3=(a:Int)/\bits .and .u8 (a:Int) 1=(b:Int)/\bits .and .u8 (a:Int) 2=(c:Int)/\bits .and .u8 (a:Int) 4=0/\bits .and .u8 (o:Int) 1=(b:Int)/\decide (0<b)=t/\decide (0<c)=p:=by
 have h:∀o:Fin 256,bits .and .u8 ((o.val:Nat):Int) 3=((o.val % 4:Nat):Int)/\bits .and .u8 ((o.val % 4:Nat):Int) 1=((o.val % 2:Nat):Int)/\bits .and .u8 ((o.val % 4:Nat):Int) 2=((o.val / 2 % 2 * 2:Nat):Int)/\bits .and .u8 ((o.val % 4:Nat):Int) 4=0/\bits .and .u8 ((o.val:Nat):Int) 1=((o.val % 2:Nat):Int):=by decide +kernel
 obtain⟨e,f,g,i,j⟩:=h ⟨o,d⟩;exact⟨_,_,_,_,_,e,f,g,i,j,rfl,rfl⟩
theorem KU(o:Nat)(d:o<256):∃(a b c:Nat) (t p l:Bool),bits .and .u8 (o:Int) 1=(a:Int)/\bits .and .u8 (o:Int) 2=(b:Int)/\bits .and .u8 (o:Int) 4=(c:Int)/\decide (0<a)=t/\decide (0<b)=p/\decide (0<c)=l:=by
 have h:∀o:Fin 256,bits .and .u8 ((o.val:Nat):Int) 1=((o.val % 2:Nat):Int)/\bits .and .u8 ((o.val:Nat):Int) 2=((o.val / 2 % 2 * 2:Nat):Int)/\bits .and .u8 ((o.val:Nat):Int) 4=((o.val / 4 % 2 * 4:Nat):Int):=by decide +kernel
 obtain⟨e,f,g⟩:=h ⟨o,d⟩;exact⟨_,_,_,_,_,_,e,f,g,rfl,rfl,rfl⟩
theorem Yy{s:List Nat}{rt:Int}{t p:Bool}(n:dU s.length (sg s))(o:s.length % 2=0)(w:s.length<=42)(b:(s.length=0/\rt=-1)\/(0<=rt/\rt<s.length))(l:nk t s rt 0=0) :
  (t=true->encZ t false s rt 0<=4 * dY (sg s) s.length)/\(t=false->encZ t false s rt 0=2 * s.length)/\(s.length=0->encZ t false s rt 0=0)/\(oJ t p false s rt 0).length<=(encZ t false s rt 0+7) / 8+64/\4<=(oJ t p false s rt 0).length/\∀x ∈ oJ t p false s rt 0,x<256:=by
 obtain⟨q,c⟩:=KR.1 l;obtain⟨d,f,-⟩:=FK n o q b;have u:oJ t p false s rt 0=jH t p false 0 ((eu s rt).map (Az t)) (lG s rt):=by unfold oJ;rw[if_pos l]
 have v:encZ t false s rt 0=eX ((eu s rt).map (Az t)):=by unfold encZ;rw[if_pos l,if_neg Bool.false_ne_true,Nat.add_zero]
 rw[u,v]
 have g:∀x ∈ jH t p false 0 ((eu s rt).map (Az t)) (lG s rt),x<256:=fun x r=>by
  unfold jH at r;rcases List.mem_append.1 r with h|h
  ·exact Ku _ _ _ _ _ _ x h
  ·exact TF _ x h
 have j:∀k ∈ eu s rt,k.length<=42:=fun k j=>by have:=PY j;omega
 cases t
 ·have i:=Qj false p sQ (lG s rt) d (by omega) (fun k a=>Yb p (d k a) (j k a));have m:=Hy (eu s rt);rw[f]at m;exact⟨(fun e=>by cases e),fun _=>m,fun e=>by show eX ((eu s rt).map sQ)=0;omega,i.1,i.2,g⟩
 ·have i:=Qj true p uw (lG s rt) d (by omega) (fun k a=>Yc p (d k a) (c k a rfl) (j k a));have m:=KN d;exact⟨fun _=>qc4 n o q b (fun k a=>c k a rfl),(fun e=>by cases e),fun e=>by show eX ((eu s rt).map uw)=0;omega,i.1,i.2,g⟩
theorem dI.off{B b:Nat}{w w':World}{v:Value}{s t:List Nat}{rt ln:Int}{R:Nat->Prop}(f:dI B w v (dD s))(m:MapAt w b t rt ln R)(k:Keeps (fun q=>q=b) w w'):Sl .i64 w' v (dD s):=by
 rcases Nat.eq_zero_or_pos s.length with c|c
 ·obtain⟨a,cap,rfl,h,d,n,-⟩:=f.sl;exact⟨a,cap,rfl,h,d,n,fun j z i=>by rw[List.eq_nil_of_length_eq_zero c]at i;simp[dD]at i⟩
 ·refine f.sl.keeps k (fun q l e=>?_);subst e;obtain⟨g,cap,rfl,-,-,o,-,-⟩:=qR f (by rw[q01];exact c);simp only [Value.ownBlock,Option.some.injEq]at l;subst l;have h:=(o 0 (.int .i64 (sg s 0:Nat)) (by simp[ints,uG c])).1;obtain⟨r,_,_,_,_,_,_,_,_,_,p,-⟩:=m.ex;have d:=dw p 0;rw[h]at d;simp[xL]at d
theorem walkFileSizes(v0:Value)(a1:Int)(w:World)(w0:SomeV w v0)(w1:(Lit.int .u8 a1).wf=true) :
  Calls Tryz.prog 4 #[v0,.int .u8 a1] w fun e w'=>e=.returned (.bool true)/\Below w.heap.size w w':=by
 have be:∀(x:Bool) (w:World),(Op.unary .not (.bool x)).run Tryz.prog w=.ok (.bool (!x)) w:=fun _ _=>rfl;obtain⟨o,rfl,ho⟩:=u8_in w1;obtain⟨k,m,r,bv,ps,rfl,g,hm,hr,ak,aG⟩:=w0;obtain⟨o3,x1,x2,t,p,q3,q1,q2,q4,qo,t1,t2⟩:=KT o ho;obtain⟨y1,y2,y4,ta,pa,la,z1,z2,z4,s1,s2,s4⟩:=KU o ho;have al:=dh (fun W=>PZ o3 x1 x2 0 t p false W q1 q2 q4 t1 t2 rfl);have am:=dh (fun W=>PZ o y1 y2 y4 ta pa la W z1 z2 z4 s1 s2 s4);obtain⟨ba,bc,rfl,-,-⟩:=ak.form;rw[q01]at *;generalize a4:ps.length=bl at *;obtain⟨l,Y⟩:∃l,l=w.alloc (.cells #[.int .u8 (k:Int),.int .u8 (m:Int),.slice ba bl bc,.int .u8 (r:Int)] 45):=⟨_,rfl⟩
 have k0:Keeps (fun _=>False) w l:=by rw[Y];exact(Keeps.refl _ w).alloc _
 have b0:l.heap[w.heap.size]? = some (.cells #[.int .u8 (k:Int),.int .u8 (m:Int),.slice ba bl bc,.int .u8 (r:Int)] 45 (0,0)):=by rw[Y];exact heap_alloc_new w _
 have H0:=dh (dn k0 (dn b0 (dn ak aG)));have HT:=dh (dn qo t1);clear z1 z2 z4 s1 s2 s4 q1 q2 q4 t1 t2 k0 b0 ak aG w1 a4 qo;go_enter Tryz.func4,Tryz.ntmps4;go_wp2_with fail;rw[<-Y];clear Y;refine(XJ _).mono ?_;rintro e w1 ⟨rfl,an⟩;have b1:=an.at H0.out.2.1 (fun h=>h);have q0:=dw b1 0;have q1:=dw b1 1;have q2:=dw b1 2;have a5:=dw b1 3;obtain⟨S,L⟩:∃S,S=w1.alloc (.cells #[.int .u8 (k:Int),.int .u8 (m:Int),.slice ba bl bc,.int .u8 (r:Int)] 45):=⟨_,rfl⟩
 have k2:Keeps (fun _=>False) w1 S:=by rw[L];exact(Keeps.refl _ w1).alloc _
 have b2:S.heap[w1.heap.size]? = some (.cells #[.int .u8 (k:Int),.int .u8 (m:Int),.slice ba bl bc,.int .u8 (r:Int)] 45 (0,0)):=by rw[L];exact heap_alloc_new w1 _
 have ao:=(H0.out.1.trans an (fun _ _ h=>h)).trans k2 (fun _ _ h=>h)
 have hS:Po S (some ⟨w1.heap.size,0,none⟩) 1:=fun j hj=>by
  obtain rfl:j=0:=by omega
  exact⟨w1.heap.size,0,k,m,r,_,ps,rfl,lt_of_block b2,dw b2 0,dw b2 1,dw b2 2,dw b2 3,g,hm,hr,H0.out.2.2.1.keeps ao (fun _ _ h=>h),H0.out.2.2.2⟩
 have aH:Calls Tryz.prog 11 #[.slice (some ⟨w1.heap.size,0,none⟩) 1 1,.int .u8 0,.int .u8 r] S (Pq S 0 1):=Wz (some ⟨w1.heap.size,0,none⟩) 1 1 0 r S hS (by decide) hr;have HK:=dh ao;have a6:(w1.alloc (.cells #[.int .u8 (k:Int),.int .u8 (m:Int),.slice ba bl bc,.int .u8 (r:Int)] 45)).cell? ⟨w.heap.size,3,none⟩=some (.int .u8 (r:Int)):=by rw[<-L];exact dw (k2.at b1 (fun h=>h)) 3
 clear an b1 k2 b2 ao hS H0;go_wp2_with fail;rw[<-L];refine aH.mono ?_;clear aH a6 q0 q1 q2 a5;rintro e T ⟨b,sv,s,rt,rfl,a,aI,⟨R,hM,hR,hb⟩,hO,aJ⟩;obtain⟨Z,sc,rfl,-,-⟩:=hO.form;rw[q01]at *;have aK:s.length<=42:=by have:=a.le;omega
 unfold gG;go_upto_region 4 with fail;obtain⟨W3,aa⟩:∃W3,W3=T.alloc (.cells #[.slice Z s.length sc,.int .i64 rt,.int .i64 0] 27):=⟨_,rfl⟩
 have ab:Keeps (fun _=>False) T W3:=by rw[aa];exact(Keeps.refl _ T).alloc _
 have aL:W3.heap[T.heap.size]? = some (.cells #[.slice Z s.length sc,.int .i64 rt,.int .i64 0] 27 (0,0)):=by rw[aa];exact heap_alloc_new T _
 have aM:=(HK.out.trans aJ (fun _ _ h=>h)).trans ab (fun _ _ h=>h);have ap:=hM.keeps ab (fun h=>h) (fun _ _ h=>h);have bh:w.heap.size<=S.heap.size:=HK.out.size;have aN:=hO.keeps ab (fun _ _ h=>h);have af:∀W,Keeps (fun q=>q=b) W3 W->Sl .i64 W (.slice Z s.length sc) (dD s):=fun W k=>aN.off ap k;have aO:∀q,(Value.slice Z s.length sc).ownBlock=some q->S.heap.size<=q/\q<T.heap.size:=fun q U=>hO.lt q U;have HG:=dh (dn aL (dn af (dn aO (dn a aI))));have bi:w.heap.size<=b:=by omega
 have a7:b≠T.heap.size:=by have:=hM.lt;omega
 rw[<-aa];clear aa ab aL hM hR hb hO aJ aN af aO a aI HK L;go_wp2_with fail;refine(al.out _).mono ?_;rintro e w4 ⟨rfl,ad⟩;have aP:=ap.keeps ad (fun h=>h) (fun _ _ h=>h);have aQ:=aM.trans ad (fun _ _ h=>h);have aR:Keeps (fun q=>q=b) W3 w4:=ad.mono (fun _ _ h=>h.elim);have i:=Yi t p false aP;have H4:=dh (dn aQ aR);obtain⟨c,hc⟩:∃c,c=nk t s rt 0:=⟨_,rfl⟩
 obtain⟨z,hz⟩:∃z,z=encZ t false s rt 0:=⟨_,rfl⟩
 obtain⟨X,aS⟩:∃X,X=oJ t p false s rt 0:=⟨_,rfl⟩
 rw[<-hc,<-hz]at i;have HC:=dh (dn hc (dn hz aS));unfold gY at i ⊢;clear ap ad aM aQ aR aP hc hz aS;go_wp2_with fail;refine i.mono ?_;clear i;rintro e w5 ⟨rfl,⟨R5,aq,-⟩,ar⟩;have aT:=H4.out.1.trans ar (fun x hx e=>by omega);have aU:=H4.out.2.trans ar (fun _ _ h=>h);have H5:=dh (dn aT aU);clear ar aT aU H4;go_wp2_with fail;refine(al.out _).mono ?_;rintro e w6 ⟨rfl,M⟩;have bj:=(aq.keeps M (fun h=>h) (fun _ _ h=>h)).lt;have i:=Yh t p false (aq.keeps M (fun h=>h) (fun _ _ h=>h));have H6:=dh (dn (H5.out.1.trans M (fun _ _ h=>h)) (H5.out.2.trans (M.mono (fun _ _ h=>h.elim)) (fun _ _ h=>h)));rw[<-HC.out.1,<-HC.out.2.2]at i;unfold gY at i ⊢;clear M aq H5;go_wp2_with fail;refine i.mono ?_;clear i;rintro e w7 ⟨v,rfl,au,⟨R7,aV,-⟩,av⟩;obtain⟨va,vc,rfl,-,-⟩:=au.form;have H7:=dh (dn (H6.out.1.trans av (fun x hx e=>by omega)) (dn (H6.out.2.trans av (fun _ _ h=>h)) (dn au aV)));clear av H6 au aV;go_wp2_with fail;refine(am.out _).mono ?_;rintro e w8 ⟨rfl,aW⟩;have i:=Yj ta pa la w8;unfold gY at i ⊢;go_wp2_with fail;refine i.mono ?_;clear i;rintro e w9 ⟨rfl,aX⟩;have H9:=dh (aW.trans aX (fun _ _ h=>h));clear aW aX;go_wp2_with fail;refine(am.out _).mono ?_;rintro e a8 ⟨rfl,ag⟩;have i:=Yk ta pa la a8;unfold gY at i ⊢;go_wp2_with fail;refine i.mono ?_;clear i;rintro e d ⟨rfl,ah⟩;have n:=(H9.out.trans ag (fun _ _ h=>h)).trans ah (fun _ _ h=>h);have u:=H7.out.1.trans n (fun _ _ h=>h);have y:=H7.out.2.1.trans (n.mono (fun _ _ h=>h.elim)) (fun _ _ h=>h);have A:=H7.out.2.2.1.keeps n (fun _ _ h=>h);have B:=H7.out.2.2.2.keeps n (fun h=>h) (fun _ _ h=>h);have C:=y.at HG.out.1 (fun e=>a7 e.symm);clear H9 ag ah n H7 al am;have bk:((c:Int) != (c:Int))=false:=bne_self_eq_false _;by_cases aw:c=0
 rotate_left
 ·have a9:((c:Int) != 0)=true:=by rw[bne_iff_ne];omega
  have HX:Hid (∀W,Keeps (fun _=>False) d W->Sl .i64 W (.slice Z s.length sc) (dD s)/\(∀q,(Value.slice Z s.length sc).ownBlock=some q->q<W.heap.size)/\W.cell? ⟨T.heap.size,0,none⟩=some (.slice Z s.length sc)/\W.cell? ⟨T.heap.size,1,none⟩=some (.int .i64 rt)/\W.cell? ⟨T.heap.size,2,none⟩=some (.int .i64 0)):=dh (fun W g=>by have hb:=g.at C (fun h=>h);have hl:=lt_of_block hb;exact⟨HG.out.2.1 W (y.trans (g.mono (fun _ _ h=>h.elim)) (fun _ _ h=>h)),fun q U=>by have:=(HG.out.2.2.1 q U).2;omega,dw hb 0,dw hb 1,dw hb 2⟩);have a:=HG.out.2.2.2.1;obtain⟨G,ax⟩:∃G,G=fU (jG s 0):=⟨_,rfl⟩
  have cG:Hid (∀W,Keeps (fun _=>False) d W->Calls Tryz.prog 17 #[.agg #[.slice Z s.length sc,.int .i64 rt,.int .i64 0]] W fun e w'=>e=.returned (.int .i64 G)/\Keeps (fun _=>False) d w'):=dh (fun W g=>by rw[ax];exact(q3z _ rt 0 s W (HX.out W g).1 a.dW a.even (by omega) (by omega)).mono (fun _ _ h=>⟨h.1,g.trans h.2 (fun _ _ h=>h)⟩))
  have cT:Hid (∀W,Keeps (fun _=>False) d W->Calls Tryz.prog 18 #[.agg #[.slice Z s.length sc,.int .i64 rt,.int .i64 0]] W fun e w'=>∃tt:Bool,e=.returned (.bool tt)/\(G=0->tt=false)/\Keeps (fun _=>False) d w'):=dh (fun W g=>by
   refine(qc5 _ rt 0 s W (HX.out W g).1 (HX.out W g).2.1 a.dW a.even (by omega) (by omega)).mono ?_;rintro e w' ⟨tt,rfl,ay,bd⟩;refine⟨tt,rfl,fun N=>?_,g.trans bd (fun _ _ h=>h)⟩;rcases Bool.eq_false_or_eq_true tt with h|h
   ·exfalso;have hT:=ay.1 h
    have D:(s.length=0/\rt=-1)\/(0<=rt/\rt<s.length):=by
     rcases HG.out.2.2.2.2 with h|⟨r',rfl,h⟩
     ·exact .inl h
     ·exact .inr ⟨by omega,by omega⟩
    obtain⟨kk,k1,-,k3,-⟩:=hT.word a.dW a.even D;refine aw (HC.out.1.trans (KR.2 ⟨by rw[<-ax];exact N,fun q U _=>?_⟩));rw[k1,List.mem_singleton]at U;rw[U];exact k3
   ·exact h)
  obtain⟨d0,d1,d2⟩:=(HX.out d (Keeps.refl _ d)).2.2;have HF:Hid (∀W,Keeps (fun _=>False) d W->Below w.heap.size w W):=dh (fun W g=>(u.trans g (fun _ _ h=>h.elim)).below (fun _ _ h=>h));clear a ax u y A B C;by_cases N:G=0
  ·have eg:(G != 0)=false:=by rw[N];rfl
   go_wp2_with fail
   refine(cG.out _ (by first|exact(Keeps.refl _ _).drew|exact Keeps.refl _ _)).mono ?_;rintro e f ⟨rfl,J⟩;obtain⟨u0,u1,u2⟩:=(HX.out _ J).2.2;clear d0 d1 d2;go_wp2_with fail;refine(cT.out _ (by first|exact J|exact J.drew)).mono ?_;clear J u0 u1 u2;rintro e az ⟨tt,rfl,ay,J⟩;obtain rfl:=ay N;go_wp2;go_ret;exact⟨rfl,HF.out _ J⟩
  ·have eg:(G != 0)=true:=by rw[bne_iff_ne];exact N
   go_wp2_with fail
   refine(cG.out _ (by first|exact(Keeps.refl _ _).drew|exact Keeps.refl _ _)).mono ?_;rintro e f ⟨rfl,J⟩;go_wp2;go_ret;exact⟨rfl,HF.out _ J⟩
 have a9:((c:Int) != 0)=false:=by rw[aw];rfl
 have a:=HG.out.2.2.2.1
 have D:(s.length=0/\rt=-1)\/(0<=rt/\rt<s.length):=by
  rcases HG.out.2.2.2.2 with h|⟨r',rfl,h⟩
  ·exact .inl h
  ·exact .inr ⟨by omega,by omega⟩
 obtain⟨l1,l2,l3,l4,l5,l6⟩:=Yy (p:=p) a.dW a.even aK D (HC.out.1.symm.trans aw);rw[<-HC.out.2.1]at l1 l2 l3 l4;rw[<-HC.out.2.2]at l4 l5 l6;have ae:=nY (sg s) s.length;have aA:=a.even;have O:=ER B;have K:=EP B;have d0:=dw C 0;obtain⟨V,hV⟩:∃V,V=dY (sg s) s.length:=⟨_,rfl⟩
 rw[<-hV]at l1 ae O;rw[show ((V:Nat):Int)+((0:Nat):Int)=(V:Int) by omega]at O
 have aY:z<=200:=by
  cases t
  ·have:=l2 rfl;omega
  ·have:=l1 rfl;omega
 obtain⟨E,i⟩:∃E,E=s.length / 2:=⟨_,rfl⟩
 rw[<-i]at K;obtain⟨H,aB⟩:∃H,X.length=H+4:=⟨X.length - 4,by omega⟩
 have aC:∀l W,Keeps (fun q=>q=b) d l->Keeps (fun _=>False) l W->Sl .u8 W (.slice va H vc) (dD (X.take H))/\∀q,(Value.slice va H vc).ownBlock=some q->q<W.heap.size:=fun l W P g=>by have h1:=(A.keeps P (fun q U e=>by have:=(A.lt q U).1;omega)).keeps g (fun _ _ h=>h);have h2:=h1.sl.take H (by rw[q01];omega);rw[show (dD X).take H=dD (X.take H)from(List.map_take ..).symm]at h2;exact⟨h2,fun q U=>(h1.lt q (by cases va <;> exact U)).2⟩
 have cC:Hid (∀l W,Keeps (fun q=>q=b) d l->Keeps (fun _=>False) l W->Calls Tryz.prog 21 #[.slice va H vc] W fun e w'=>e=.returned (.int .u32 (lC (X.take H):Nat))/\Keeps (fun _=>False) l w'):=dh (fun l W P g=>by obtain⟨h1,h2⟩:=aC l W P g;exact(Nc _ _ W h1 h2 (fun x hx=>l6 x (List.mem_of_mem_take hx)) (by rw[List.length_take];omega)).mono (fun _ _ h=>⟨h.1,g.trans h.2 (fun _ _ h=>h)⟩));have cR:Hid (∀l W,Keeps (fun q=>q=b) d l->Keeps (fun _=>False) l W->Calls Tryz.prog 22 #[.slice va H vc] W fun e w'=>e=.returned (.int .u32 (lC (X.take H):Nat))/\Keeps (fun _=>False) l w'):=dh (fun l W P g=>by obtain⟨h1,-⟩:=aC l W P g;exact(Yx _ _ W h1 (fun x hx=>l6 x (List.mem_of_mem_take hx)) (by rw[List.length_take];omega)).mono (fun _ _ h=>⟨h.1,g.trans h.2 (fun _ _ h=>h)⟩));clear aC;have aZ:=A.form;obtain⟨n4,aD⟩:∃n4,n4=X.length:=⟨_,rfl⟩
 rw[<-aD]at l4 l5 aZ aB A ⊢;obtain⟨_,_,a0,bf,bg⟩:=aZ;simp only [Value.slice.injEq]at a0;obtain⟨rfl,-,rfl⟩:=a0;have f0:IntKind.i64.wrap ((z:Int)+7)=((z+7:Nat):Int):=by rw[IntWalk.i64_in _ (by omega)];omega
 obtain⟨z7,aE⟩:∃z7,z7=z+7:=⟨_,rfl⟩
 obtain⟨q8,a2⟩:∃q8,q8=(z+7) / 8:=⟨_,rfl⟩
 obtain⟨Q,ai⟩:∃Q,Q=q8+64:=⟨_,rfl⟩
 rw[<-aE]at f0;have f1:(z7:Int).tdiv 8=(q8:Int):=by rw[Int.tdiv_eq_ediv_of_nonneg (by omega)];omega
 have f2:(z7:Int) / 8=(q8:Int):=by omega
 have f3:IntKind.i64.wrap (q8:Int)=(q8:Int):=IntWalk.i64_in _ (by omega);have f4:IntKind.i64.wrap ((q8:Int)+64)=(Q:Int):=by rw[IntWalk.i64_in _ (by omega)];omega
 have f5:IntKind.i64.wrap ((n4:Int) - 4)=(H:Int):=by rw[IntWalk.i64_in _ (by omega)];omega
 have f6:decide ((n4:Int)<=(Q:Int))=true:=decide_eq_true (by omega);have f7:decide (n4<=Q)=true:=decide_eq_true (by omega);have f8:(0:Int)<=(H:Int):=by omega
 have f9:(H:Int)<=(vc:Int):=by omega
 have HF:Hid (∀W,Keeps (fun q=>q=b) d W->Below w.heap.size w W):=dh (fun W g=>(u.trans g (fun x hx e=>by omega)).below (fun _ _ h=>h));have qo:=HT.out.1;have t0:decide ((0:Int)<(x1:Int))=t:=by rw[<-HT.out.2];simp
 have bm:decide (0<x1)=t:=HT.out.2;obtain⟨n0,aF⟩:∃n0,n0=s.length:=⟨_,rfl⟩
 rw[<-aF]at l2 l3 ae aA i d0 ⊢;by_cases hA:t=true/\0<n0
 case' pos =>
  obtain⟨rfl,hA⟩:=hA;have g1:decide ((0:Int)<(n0:Int))=true:=decide_eq_true (by omega);have g2:decide (0<n0)=true:=decide_eq_true hA;have g3:IntKind.i64.wrap (4 * (V:Int))=4 * (V:Int):=IntWalk.i64_in _ (by omega);have g4:decide (4 * (V:Int)<(z:Int))=false:=decide_eq_false (by have:=l1 rfl;omega);clear aD aB aE a2 ai aF i K l1 l2 l3 l4 l5 aY aA ae hV HG HC a D B u y C hA;go_wp2_with fail;refine O.mono ?_;clear O d0;rintro e f ⟨rfl,aj⟩;have F:Keeps (fun q=>q=b) d f:=aj.2;clear aj;go_wp2_with fail
 case' neg =>
  have a3:(z:Int)=4 * (E:Int):=by
   rcases Bool.eq_false_or_eq_true t with h|h
   ·have h0:n0=0:=by
     rcases Nat.eq_zero_or_pos n0 with h0|h0
     ·exact h0
     ·exact absurd ⟨h,h0⟩ hA
    have:=l3 h0;omega
   ·have:=l2 h;omega
  have g3:IntKind.i64.wrap (4 * (E:Int))=4 * (E:Int):=IntWalk.i64_in _ (by omega);have g4:((z:Int) != 4 * (E:Int))=false:=by rw[a3];exact bne_self_eq_false _
  have g1:(decide ((0:Int)<(n0:Int))=false/\decide (0<n0)=false/\t=true)\/t=false:=by
   rcases Bool.eq_false_or_eq_true t with h|h
   ·exact .inl ⟨decide_eq_false (fun h0=>hA ⟨h,by omega⟩),decide_eq_false (fun h0=>hA ⟨h,h0⟩),h⟩
   ·exact .inr h
  have F:=Keeps.refl (fun q=>q=b) d;clear aD aB aE a2 ai aF i O l1 l2 l3 l4 l5 aY aA ae hV HG HC a D B u y C hA a3;rcases g1 with⟨g1,g2,rfl⟩|rfl
  case' inl =>
   go_wp2_with fail
   refine K.mono ?_;clear K;rintro e f ⟨rfl,rfl⟩;go_wp2_with fail;obtain⟨f,I⟩:∃f,f=d:=⟨_,rfl⟩
  case' inr =>
   go_wp2_with fail
   refine K.mono ?_;clear K;rintro e f ⟨rfl,rfl⟩;go_wp2_with fail;obtain⟨f,I⟩:∃f,f=d:=⟨_,rfl⟩
  all_goals
   rw[<-I];replace F:Keeps (fun q=>q=b) d f:=by rw[I];exact Keeps.refl _ _
   clear I d0
 all_goals
  go_region_held3 (fun _=>True) (trivial) (first | (go_at_call 21;refine(cC.out f _ F (by first|exact J|exact(Keeps.refl _ _).drew|exact Keeps.refl _ _)).mono ?_;rintro e az ⟨rfl,J⟩) | (go_at_call 22;refine(cR.out f _ F (by first|exact J|exact(Keeps.refl _ _).drew|exact Keeps.refl _ _)).mono ?_;rintro e az ⟨rfl,J⟩) | (go_at_call 23;refine(TH _).mono ?_;rintro e az ⟨rfl,rfl⟩))
  go_wp2;go_ret
  exact⟨by simp,HF.out _ (F.trans (J.mono (fun _ _ h=>h.elim)) (fun _ _ h=>h))⟩
