import Derived.Test.YtalhcfjcbbkpgaaGreatZp0l
import Derived.Test.YtalhcfjcbbkpgaaGreatZp0s
set_option maxRecDepth 100000
set_option maxHeartbeats 4000000
namespace Go.Proofs.YtalhcfjcbbkpgaaGreat
section
open Go.RowKit
theorem EP{i r:Nat}(c:i<=33)(hr:2 ^ i<=r)(f:r<=4294967296):i<33:=by
 rcases Nat.lt_or_ge i 33 with a | a
 ·exact a
 ·exfalso;have e:i=33:=Nat.le_antisymm c a;rw[e]at hr;have d:(2:Nat) ^ 33=8589934592:=by decide
  rw[d]at hr;omega
theorem U4(s:gZ)(e:way s.l s.h=1):dU s=⟨iI s.l s.h,jB s.l s.h,0,s.o ++ false :: List.replicate s.w true⟩:=by unfold dU iI jB;rw[e,if_neg (show ¬(1:Nat)=3 by decide),if_pos rfl,if_neg (show ¬(1:Nat)=0 by decide),if_neg (show ¬(1:Nat)=0 by decide)]
theorem U5(s:gZ)(e:way s.l s.h=2):dU s=⟨iI s.l s.h,jB s.l s.h,0,s.o ++ true :: List.replicate s.w false⟩:=by unfold dU iI jB;rw[e,if_neg (show ¬(2:Nat)=3 by decide),if_neg (show ¬(2:Nat)=1 by decide),if_pos rfl,if_neg (show ¬(2:Nat)=0 by decide),if_neg (show ¬(2:Nat)=0 by decide)]
theorem U6(s:gZ)(e:way s.l s.h=3):dU s=⟨iI s.l s.h,jB s.l s.h,s.w+1,s.o⟩:=by unfold dU iI jB;rw[e,if_pos rfl,if_neg (show ¬(3:Nat)=1 by decide),if_neg (show ¬(3:Nat)=2 by decide),if_neg (show ¬(3:Nat)=0 by decide),if_neg (show ¬(3:Nat)=0 by decide)]
structure jQ (w:World)(bw bv bm gc:Nat)(vv:Value)(m:CM)(s:gZ)(W:World):Prop where
 wr:rJ W bw bv vv s
 cm:qH W bm gc m
 ap:∀q,(q=bm\/q=gc)->q≠bw/\q≠bv/\vv.ownBlock≠some q
 lo:w.heap.size<=bw/\w.heap.size<=bv/\w.heap.size<=bm/\w.heap.size<=gc/\∀q,vv.ownBlock=some q->w.heap.size<=q
 fJ:Keeps (fun _=>False) w W
section
variable {w:World} {bw bv bm gc:Nat} {vv:Value} {m:CM} {s:gZ} {W:World}
theorem jQ.still(h:jQ w bw bv bm gc vv m s W){a:World}(k:Keeps (fun _=>False) W a):jQ w bw bv bm gc vv m s a :=
 ⟨h.wr.keeps k (fun h=>h) (fun h=>h) (fun _ _ h=>h),h.cm.keeps k (fun h=>h) (fun h=>h),h.ap,h.lo,h.fJ.trans k (fun _ _ h=>h)⟩
theorem jQ.put(h:jQ w bw bv bm gc vv m s W){i:gZ}{j:World}(g:vM W bw bv vv i j):∃f,jQ w bw bv bm gc f m i j:=by
 obtain⟨v',o,l,n⟩:=g;have p:bm<W.heap.size:=lt_of_block h.cm.1;have r:gc<W.heap.size:=by obtain⟨t,h,_⟩:=h.cm.2.1;exact lt_of_block h
 have v:=h.fJ.size;refine⟨v',o,h.cm.keeps l (fun e=>?_) (fun e=>?_),fun q hq=>?_,⟨h.lo.1,h.lo.2.1,h.lo.2.2.1,h.lo.2.2.2.1,fun q hq=>?_⟩,h.fJ.trans l (fun x y e=>?_)⟩
 ·obtain⟨a,b,c⟩:=h.ap bm (.inl rfl);rcases e with e|e|e
  ·exact a e
  ·exact b e
  ·exact c e
 ·obtain⟨a,b,c⟩:=h.ap gc (.inr rfl);rcases e with e|e|e
  ·exact a e
  ·exact b e
  ·exact c e
 ·obtain⟨a,b,c⟩:=h.ap q hq;refine⟨a,b,fun e=>?_⟩;rcases n with d|⟨k,d,u⟩
  ·exact c (by rw[<-d];exact e)
  ·rw[d]at e;have:=Option.some.inj e;rcases hq with rfl|rfl <;> omega
 ·rcases n with d|⟨k,d,u⟩
  ·exact h.lo.2.2.2.2 q (by rw[<-d];exact hq)
  ·rw[d]at hq;have:=Option.some.inj hq;omega
 ·have:=h.lo;rcases e with e|e|e
  ·omega
  ·omega
  ·have:=h.lo.2.2.2.2 x e;omega
theorem jQ.span(h:jQ w bw bv bm gc vv m s W){l' c:Nat}{a:World}(d:gJ a bw 261 l' c [.pointer (some ⟨bv,0,none⟩),.int .i64 s.w])(k:Keeps (fun q=>q=bw) W a):jQ w bw bv bm gc vv m { s with l:=l',h:=c } a :=
 ⟨⟨d,h.wr.vec.keeps k (fun e=>h.wr.ne e.symm) (fun q hq e=>h.wr.no (by rw[hq,e])),h.wr.ne,h.wr.no⟩,h.cm.keeps k (fun e=>(h.ap bm (.inl rfl)).1 e) (fun e=>(h.ap gc (.inr rfl)).1 e),h.ap,h.lo,h.fJ.trans k (fun x f e=>by have:=h.lo.1;omega)⟩
theorem jQ.see(h:jQ w bw bv bm gc vv m s W){c:CM}{a:World}(d:qH a bm gc c)(k:Keeps (fun q=>q=bm\/q=gc) W a):jQ w bw bv bm gc vv c s a:=by
 refine⟨h.wr.keeps k (fun e=>?_) (fun e=>?_) (fun q hq e=>(h.ap q e).2.2 hq),d,h.ap,h.lo,h.fJ.trans k (fun x f e=>by have:=h.lo;omega)⟩
 ·exact(h.ap bw e).1 rfl
 ·exact(h.ap bv e).2.1 rfl
theorem jQ.wait(h:jQ w bw bv bm gc vv m s W)(z:Nat):jQ w bw bv bm gc vv m { s with w:=z } (W.setCell ⟨bw,3,none⟩ (.int .i64 (z:Int))):=by obtain⟨a,k⟩:=h.wr.wait z;exact⟨a,h.cm.keeps k (fun e=>(h.ap bm (.inl rfl)).1 e) (fun e=>(h.ap gc (.inr rfl)).1 e),h.ap,h.lo,h.fJ.trans k (fun x c e=>by have:=h.lo.1;omega)⟩
end
end
section
open Go.RowKit
theorem U7{w:World}{b:Nat}{s:List Nat}{root lone:Int}{R:Nat->Prop}(h:MapAt w b s root lone R):Calls Tryz.prog 248 #[.pointer (some ⟨b,0,none⟩)] w fun e w'=>e=.returned (.bool (decide (jV s (s.length / 2)=0/\lV s (s.length / 2)=0)))/\fO w b s root lone R w':=by
 have j:=U2 h;have q:=h.mw;obtain⟨C,k,d⟩:=q.ask;have u:=Jt s (s.length / 2);have v:=Jv s (s.length / 2);have z:=h.le;obtain⟨x,r⟩:∃x,x=jV s (s.length / 2):=⟨_,rfl⟩
 obtain⟨y,l⟩:∃y,y=lV s (s.length / 2):=⟨_,rfl⟩
 have A:=dh l;rw[<-r]at j u ⊢;rw[<-l]at v ⊢;have i:=dh (dn j (dn h d));clear j k d q h r l;by_cases f:x=0
 ·subst f;rw[show decide ((0:Nat)=0/\y=0)=decide (y=0) by simp];go_enter Tryz.func248,Tryz.ntmps248;go_wp2_with fail;refine i.out.1.mono ?_;rintro e w1 ⟨rfl,a⟩;have n:=(i.out.2.1.mw.ask)
  have o:=U3 a.1;rw[<-A.out]at o;have B:Hid (∀g,fO w1 b s root lone (grow R w w1) g->fO w b s root lone R g):=dh (fun g c=>a.trans i.out.2.1 c);clear a n
  have t:((y:Int) == 0)=decide (y=0):=by
   by_cases e:y=0
   ·subst e;rfl
   ·rw[decide_eq_false e,beq_eq_false_iff_ne];omega
  go_wp2_with fail
  refine o.mono ?_;rintro e g ⟨rfl,c⟩;have p:=dh (B.out g c);clear c o;go_wp2;go_ret;exact⟨by first|rfl|rw[t],p.out⟩
 ·rw[show decide (x=0/\y=0)=false from decide_eq_false (fun e=>f e.1)];have t:((x:Int) == 0)=false:=by rw[beq_eq_false_iff_ne];omega
  go_enter Tryz.func248,Tryz.ntmps248;go_wp2_with fail;refine i.out.1.mono ?_;rintro e w1 ⟨rfl,a⟩;have p:=dh a;clear a;go_wp2;go_ret;exact⟨rfl,p.out⟩
def kK(s:List Nat)(l:Nat):Prop:=3<=eu (sg s) s.length+l/\dX s.length (sg s) s.length+l=1/\fV (jN s l)=0/\(jV s (s.length / 2)=0/\lV s (s.length / 2)=0) /\
 ∀d,d<s.length->sg s (mt (sg s (mt (sg s (mt d)))))=d/\sg s (mt d)≠d
theorem Du{p:Prop}(h:¬p):(false=true↔p):=⟨fun e=>Bool.noConfusion e,fun e=>absurd e h⟩
def Jz(w:World)(b:Nat)(s:List Nat)(root:Int)(l:Nat)(R:Nat->Prop)(e:Ending)(w':World):Prop:=∃t:Bool,e=.returned (.bool t)/\(t=true↔kK s l)/\fO w b s root l R w'
theorem NZ{w:World}{b:Nat}{s:List Nat}{root:Int}{l:Nat}{R:Nat->Prop}(h:MapAt w b s root l R):Calls Tryz.prog 213 #[.pointer (some ⟨b,0,none⟩)] w (Jz w b s root l R):=by
 have ak:=h.le;have ag:=h.ln;have ah:=oV (sg s) s.length;have F:=dh (dn h.dR h.even);obtain⟨R0,H,I⟩:=h.mw.ask;have hV:=Gs H;obtain⟨V,J⟩:∃V,V=eu (sg s) s.length+l:=⟨_,rfl⟩
 rw[show (((eu (sg s) s.length:Nat):Int)+(l:Int))=(V:Int) by omega]at hV;have al:V<=10000000:=by omega
 have n:Hid (∀t:Bool,(t=true↔3<=V/\dX s.length (sg s) s.length+l=1/\fV (jN s l)=0/\(jV s (s.length / 2)=0/\lV s (s.length / 2)=0)/\∀d,d<s.length->sg s (mt (sg s (mt (sg s (mt d)))))=d/\sg s (mt d)≠d)->∀w',MW w b s root l R (fun _=>False) w'->Jz w b s root l R (.returned (.bool t)) w') :=
  dh (fun t ht w' hm=>⟨t,rfl,by rw[ht,J];rfl,hm.all⟩)
 clear h J ag ah;go_enter Tryz.func213,Tryz.ntmps213;go_wp2_with fail;refine hV.mono ?_;rintro e w1 ⟨rfl,K⟩;have o:=(I w1 K.two).1;clear hV K I H;by_cases c0:3<=V
 rotate_left
 ·have t0:decide (V<3)=true:=decide_eq_true (by omega);have a:=dh (n.out false (Du (fun e=>c0 e.1)) w1 o);clear o n;go_wp2;go_ret;exact a.out
 have t0:decide (V<3)=false:=decide_eq_false (by omega);obtain⟨R1,M,N⟩:=o.ask;have O:=M8 M;go_wp2_with fail;refine O.mono ?_;rintro e w2 ⟨rfl,Q⟩;have p:=(N w2 Q.two).1;clear O Q N M o;by_cases S:dX s.length (sg s) s.length+l=1
 rotate_left
 ·rw[decide_eq_false S];have a:=dh (n.out false (Du (fun e=>S e.2.1)) w2 p);clear p n;go_wp2;go_ret;exact a.out
 rw[decide_eq_true S];obtain⟨R2,T,U⟩:=p.ask;have X:=EB T;go_wp2_with fail;refine X.mono ?_;rintro e w3 ⟨rfl,Y⟩;have q:=(U w3 Y.two).1;clear X Y U T p;by_cases Z:fV (jN s l)=0
 rotate_left
 ·rw[decide_eq_false Z];have a:=dh (n.out false (Du (fun e=>Z e.2.2.1)) w3 q);clear q n;go_wp2;go_ret;exact a.out
 rw[decide_eq_true Z];obtain⟨R3,aa,ab⟩:=q.ask;have ad:=U7 aa;go_wp2_with fail;refine ad.mono ?_;rintro e w4 ⟨rfl,ae⟩;have f:=(ab w4 ae).1;clear ad ae ab aa q;by_cases c3:jV s (s.length / 2)=0/\lV s (s.length / 2)=0
 rotate_left
 ·rw[decide_eq_false c3];have a:=dh (n.out false (Du (fun e=>c3 e.2.2.2.1)) w4 f);clear f n;go_wp2;go_ret;exact a.out
 rw[decide_eq_true c3];obtain⟨R4,g,ai⟩:=f.ask;have hD:=uS g
 have v:Hid (∀t:Bool,(t=true↔∀d,d<s.length->sg s (mt (sg s (mt (sg s (mt d)))))=d/\sg s (mt d)≠d)->Jz w b s root l R (.returned (.bool t)) w4):=dh (fun t ht=>n.out t (by
  constructor
  ·intro e;exact⟨c0,S,Z,c3,ht.1 e⟩
  ·intro e;exact ht.2 e.2.2.2.2) w4 f)
 clear S Z c3 n ai f;go_wp2_with fail;refine hD.mono ?_;rintro e w' ⟨rfl,rfl⟩;clear hD;go_wp2_with fail;go_loopg [25] s.length (fun m i wr=>∃j:Nat,j<=s.length/\m=s.length - j/\i=.int .i64 j/\(∀d,d<j->sg s (mt (sg s (mt (sg s (mt d)))))=d/\sg s (mt d)≠d)/\wr=w4)
 case atStart=>exact⟨0,Nat.zero_le _,rfl,rfl,fun d hd=>by omega,rfl⟩
 case round =>
  obtain⟨j,hj,af,rfl,u,rfl⟩:=hrel;have HG:=dh af;have HA:=dh u;clear af u;by_cases k:j<s.length
  ·have y:=F.out.1.lt (mt j) (dQ F.out.2 k);have c:=Je g j k;obtain⟨z,r⟩:∃x,x=sg s (mt j):=⟨_,rfl⟩
   rw[<-r]at c y;have A:=F.out.1.lt (mt z) (dQ F.out.2 y);have B:=Je g z y;obtain⟨x2,C⟩:∃x,x=sg s (mt z):=⟨_,rfl⟩
   rw[<-C]at B A;have aj:=F.out.1.lt (mt x2) (dQ F.out.2 A);have D:=Je g x2 A;obtain⟨x3,E⟩:∃x,x=sg s (mt x2):=⟨_,rfl⟩
   rw[<-E]at D aj;have HX:Hid (sg s (mt (sg s (mt (sg s (mt j)))))=x3/\sg s (mt j)=z):=dh ⟨by rw[E,C,r],r.symm⟩;clear r C E;go_wp2_with fail;refine c.mono ?_;rintro e w' ⟨rfl,rfl⟩;go_wp2_with fail;refine B.mono ?_;rintro e w' ⟨rfl,rfl⟩;go_wp2_with fail;refine D.mono ?_;rintro e w' ⟨rfl,rfl⟩;clear B D;by_cases G:x3=j
   rotate_left
   ·have t4:((x3:Int) != (j:Int))=true:=by rw[bne_iff_ne];omega
    have a:=dh (v.out false (Du (fun e=>G (HX.out.1.symm.trans (e j k).1))));clear v c;go_wp2;go_ret;exact a.out
   ·have t4:((x3:Int) != (j:Int))=false:=by rw[G];exact bne_self_eq_false _
    have am:((x3:Int) == (j:Int))=true:=by rw[G];exact beq_self_eq_true _
    by_cases c5:z=j
    ·have t5:((z:Int) == (j:Int))=true:=by rw[c5];exact beq_self_eq_true _
     have a:=dh (v.out false (Du (fun e=>(e j k).2 (HX.out.2.trans c5))));clear v G c5;go_wp2_with fail;refine c.mono ?_;rintro e w' ⟨rfl,rfl⟩;clear c;go_wp2;go_ret;exact a.out
    ·have t5:((z:Int) == (j:Int))=false:=by rw[beq_eq_false_iff_ne];omega
     have a:=dh (show ∀d,d<j+1->sg s (mt (sg s (mt (sg s (mt d)))))=d/\sg s (mt d)≠d from fun d hd=>by
      rcases Nat.lt_or_ge d j with h1|h1
      ·exact HA.out d h1
      ·obtain rfl:d=j:=by omega
       exact⟨HX.out.1.trans G,fun e=>c5 (HX.out.2.symm.trans e)⟩)
     clear v G c5;go_wp2_with fail;refine c.mono ?_;rintro e w' ⟨rfl,rfl⟩;clear c;go_wp2;go_roundg (s.length - (j+1))
     case measure=>rw[HG.out];omega
     case rel=>exact⟨j+1,by omega,rfl,by go_num,a.out,rfl⟩
  ·obtain rfl:j=s.length:=by omega
   have a:=dh (v.out true (by simp only [true_iff];exact HA.out));clear v g k hj HG;go_wp2;go_ret;exact a.out
end
section
theorem kK.CB{s:List Nat}{l:Nat}(h:dO s.length (sg s))(q:s.length % 2=0)(Z:kK s l):l=0/\0<s.length/\jO s.length (sg s):=by
 obtain⟨z,hc,H,⟨I,U⟩,J⟩:=Z
 have a:0<s.length:=by
  rcases Nat.eq_zero_or_pos s.length with X|X
  ·have v:=oV (sg s) s.length;have K:0<=dX s.length (sg s) s.length:=Nat.zero_le _;omega
  ·exact X
 have aa:=h.lG q a;have hl:l=0:=by omega
 subst hl;have B:dX s.length (sg s) s.length=1:=by omega
 have i:∀x y,x<s.length->y<s.length->dI s.length (sg s) x y:=fun x y j M=>Ul h q B j M;have k:=EC h q B;rw[H]at k
 have hF:eu (sg (dS s)) s.length=eu (fun d=>sg s (mt d)) s.length:=by
  have Y:=AJ h q;rw[oD]at Y;have hq:dO s.length (fun d=>sg s (mt d)):=⟨fun d C=>h.lt _ (dQ q C),fun d e C N hh=>by have:=h.inj _ _ (dQ q C) (dQ q N) hh;rw[<-dF d,this,dF]⟩
  exact yM Y hq (fun d C=>wU C) _ (Nat.le_refl _)
 have O:s.length / 2+1<=eu (sg s) s.length+eu (fun d=>sg s (mt d)) s.length:=by rw[hF]at k;generalize eu (sg s) s.length=V at *;generalize eu (fun d=>sg s (mt d)) s.length=F at *;apply Nat.not_lt.1;intro r;rw[Int.tdiv_eq_ediv_of_nonneg (by omega)]at k;omega
 have n:∀x,x<s.length->∃e,e<s.length / 2/\((x=2 * e/\mt x=2 * e+1)\/(x=2 * e+1/\mt x=2 * e)):=fun x j=>⟨x / 2,by omega,by unfold mt;split <;> omega⟩
 have o:∀x,x<s.length->vnum (sg s) x≠vnum (sg s) (mt x):=fun x j=>by
  obtain⟨e,v,⟨p,c⟩|⟨p,c⟩⟩:=n x j
  ·rw[c,p];exact GI.1 I e v
  ·rw[c,p];exact(GI.1 I e v).symm
 refine⟨rfl,a,h,q,i,UH h q a (fun x j=>i 0 x a j) O,fun x j=>(J x j).1,o,fun x y j M v K=>?_⟩;obtain⟨e,Q,D⟩:=n x j;obtain⟨f,S,E⟩:=n y M;have t:∀g,g<s.length / 2->eA s g≠eB s g:=fun g H=>GI.1 I g H;have u:=o x j;have A:min (eA s e) (eB s e)=min (eA s f) (eB s f)/\max (eA s e) (eB s e)=max (eA s f) (eB s f):=by rcases D with⟨z,p⟩|⟨z,p⟩ <;> rcases E with⟨c,G⟩|⟨c,G⟩ <;> rw[p,G]at K <;> rw[z,c]at v <;> unfold eA eB <;> rw[v,K] <;> refine⟨?_,?_⟩ <;> omega
 have T:e=f:=by
  rcases Nat.lt_trichotomy e f with r|rfl|r
  ·exact absurd A (Jy.1 U e f r S (t e Q) (t f S))
  ·rfl
  ·exact absurd ⟨A.1.symm,A.2.symm⟩ (Jy.1 U f e r Q (t f S) (t e Q))
 subst T;rcases D with⟨z,p⟩|⟨z,p⟩ <;> rcases E with⟨c,G⟩|⟨c,G⟩
 ·rw[z,c]
 ·exfalso;rw[p,<-c]at u;exact u v
 ·exfalso;rw[p,<-c]at u;exact u v
 ·rw[z,c]
end
section
open Go.RowKit
section
variable {w:World} {b:Nat} {s:List Nat} {root lone:Int} {R:Nat->Prop} (h:MapAt w b s root lone R) {W:World} (hq:fq w b s root lone R W)
include h hq
theorem MapAt.seq{a:World}(k:Keeps (fun _=>False) W a):fq w b s root lone R a:=h.rX hq (hq.1.Cm k)
theorem MapAt.xZ:fq w b s root lone R W.drew:=h.seq hq ((Keeps.refl _ W).drew)
theorem MapAt.N7{d:Nat}(a:d<s.length):Calls Tryz.prog 123 #[.pointer (some ⟨b,0,none⟩),.int .i64 d] W fun e w'=>e=.returned (.int .i64 (vnum (sg s) d:Nat))/\fq w b s root lone R w'/\Keeps (fun k=>k=b) W w' :=
 (Jr hq.1 d a).mono (fun _ _ ⟨c,h2,_⟩=>⟨c,h.rX hq h2,h2.2⟩)
omit h in
theorem MapAt.N8{d:Nat}(a:d<s.length):Calls Tryz.prog 77 #[.pointer (some ⟨b,0,none⟩),.int .i64 d] W fun e w'=>e=.returned (.int .i64 (mt d:Nat))/\W=w':=sZ hq.1 d a
omit h in
theorem MapAt.U8{d:Nat}(a:d<s.length):Calls Tryz.prog 125 #[.pointer (some ⟨b,0,none⟩),.int .i64 d] W fun e w'=>e=.returned (.int .i64 (sg s d:Nat))/\W=w':=vW hq.1 d a
theorem MapAt.N9{d:Nat}(a:d<s.length):Calls Tryz.prog 229 #[.pointer (some ⟨b,0,none⟩),.int .i64 d] W fun e w'=>∃v,e=.returned v/\dH W.heap.size w' v (dD (jg (sg s) d))/\fq w b s root lone R w'/\Keeps (fun _=>False) W w' :=
 (NS hq.1 d a).mono (fun _ _ ⟨v,h1,h2,h3⟩=>⟨v,h1,h2,h.seq hq h3,h3⟩)
end
def lM(w:World)(g n:Nat)(P:Nat->Prop):Prop:=∃bs:List Bool,bs.length=n/\(∀x,x<n->(bs[x]? = some true/\P x)\/(bs[x]? = some false/\¬P x))/\w.heap[g]? = some (.cells (bs.map Value.bool).toArray 4 (0,0))
theorem lM.keeps{w w':World}{g n:Nat}{P F:Nat->Prop}(h:lM w g n P)(k:Keeps F w w')(a:¬F g):lM w' g n P:=by obtain⟨bs,c,d,e⟩:=h;exact⟨bs,c,d,k.at e a⟩
theorem lM.cell{w:World}{g n:Nat}{P:Nat->Prop}(h:lM w g n P){x:Nat}(f:x<n):∃t:Bool,(t=true↔P x)/\w.cell? ⟨g,x,none⟩=some (.bool t)/\w.frozen? ⟨g,x,none⟩=false:=by
 obtain⟨bs,j,i,c⟩:=h;have d:=dw c x;have e:=dx c x;rcases i x f with⟨a,b⟩|⟨a,b⟩
 ·exact⟨true,by simp[b],by rw[d];simp[a],e⟩
 ·exact⟨false,by simp[b],by rw[d];simp[a],e⟩
theorem lM.set{w:World}{g n:Nat}{P Q:Nat->Prop}(h:lM w g n P){x:Nat}(i:x<n)(e:∀y,y<n->(Q y↔P y\/y=x)):lM (w.setCell ⟨g,x,none⟩ (.bool true)) g n Q:=by
 obtain⟨bs,j,k,l⟩:=h;refine⟨bs.set x true,by simpa using j,fun y f=>?_,?_⟩
 ·rw[List.getElem?_set];by_cases d:x=y
  ·subst d;left;rw[if_pos rfl,if_pos (by omega)];exact⟨rfl,(e x i).2 (.inr rfl)⟩
  ·rw[if_neg d];rcases k y f with⟨a,b⟩|⟨a,b⟩
   ·exact .inl ⟨a,(e y f).2 (.inl b)⟩
   ·exact .inr ⟨a,fun hq=>by rcases(e y f).1 hq with c|c;exact b c;exact d c.symm⟩
 ·rw[jM l x (.bool true)];simp[List.map_set]
structure mP (w:World)(bx b V:Nat)(bv:Value)(gg gd:Nat)(bs ds:List Nat)(P:Nat->Prop):Prop where
 blk:w.heap[bx]? = some (.cells #[.pointer (some ⟨b,0,none⟩),bv,.slice (some ⟨gg,0,none⟩) V V,.slice (some ⟨gd,0,none⟩) V V] 304 (0,0))
 tF:dH 0 w bv (dD bs)
 ER:lM w gg V P
 wW:dH 0 w (.slice (some ⟨gd,0,none⟩) V V) (dD ds)
 ET:ds.length=V
 nb:bx≠b/\gg≠b/\gd≠b/\∀k,bv.ownBlock=some k->k≠b
 ap:gg≠bx/\gd≠bx/\gg≠gd/\∀k,bv.ownBlock=some k->k≠bx/\k≠gg/\k≠gd
section
variable {w:World} {bx b V:Nat} {bv:Value} {gg gd:Nat} {bs ds:List Nat} {P:Nat->Prop} (h:mP w bx b V bv gg gd bs ds P)
include h
theorem mP.keeps{w':World}{F:Nat->Prop}(k:Keeps F w w')(a:¬F bx)(c:¬F gg)(d:¬F gd)(e:∀q,bv.ownBlock=some q->¬F q):mP w' bx b V bv gg gd bs ds P :=
 ⟨k.at h.blk a,h.tF.keeps k e,h.ER.keeps k c,h.wW.keeps k (fun q hq=>by simp only [Value.ownBlock,Option.some.injEq]at hq;subst hq;exact d),h.ET,h.nb,h.ap⟩
theorem mP.mU{w':World}{F:Nat->Prop}(k:Keeps F w w')(hF:∀x,F x->x=b):mP w' bx b V bv gg gd bs ds P :=
 h.keeps k (fun e=>h.nb.1 (hF _ e)) (fun e=>h.nb.2.1 (hF _ e)) (fun e=>h.nb.2.2.1 (hF _ e)) (fun q hq e=>h.nb.2.2.2 q hq (hF _ e))
theorem mP.c0:w.cell? ⟨bx,0,none⟩=some (.pointer (some ⟨b,0,none⟩)):=dw h.blk 0
theorem mP.c1:w.cell? ⟨bx,1,none⟩=some bv:=dw h.blk 1
theorem mP.c2:w.cell? ⟨bx,2,none⟩=some (.slice (some ⟨gg,0,none⟩) V V):=dw h.blk 2
theorem mP.c3:w.cell? ⟨bx,3,none⟩=some (.slice (some ⟨gd,0,none⟩) V V):=dw h.blk 3
theorem mP.EU{a d:Nat}(c:ds[a]? = some d):w.cell? ⟨gd,a,none⟩=some (.int .i64 (d:Nat)):=(h.wW.cell (jA c)).1
end
noncomputable def toD(S:Nat->Nat)(l:List Nat)(c:Nat):Int:=match l.find? (fun d=>vnum S (mt d) == c) with|some d=>(d:Int)|none=>-1
theorem Oa{S:Nat->Nat}{l:List Nat}{c j d:Nat}(g:l[j]? = some d)(k:vnum S (mt d)=c)(f:∀(i:Nat) (e:Nat),i<j->l[i]? = some e->vnum S (mt e)≠c):toD S l c=(d:Int):=by
 induction l generalizing j with
 | nil=>simp at g
 | cons a l n =>
  unfold toD;rcases j with _|j
  ·simp only [List.getElem?_cons_zero,Option.some.injEq]at g;subst g;simp[k]
  ·have o:=f 0 a (by omega) rfl;have:(vnum S (mt a) == c)=false:=by rw[beq_eq_false_iff_ne];exact o
   rw[List.find?_cons,this];have:=n (j:=j) (by simpa using g) (fun i e q p=>f (i+1) e (by omega) (by simpa using p));unfold toD at this;exact this
theorem U9{S:Nat->Nat}{l:List Nat}{c:Nat}(a:∀(i:Nat) (e:Nat),l[i]? = some e->vnum S (mt e)≠c):toD S l c=-1:=by
 unfold toD;have:l.find? (fun d=>vnum S (mt d) == c)=none:=by rw[List.find?_eq_none];intro x f;obtain⟨i,g,j⟩:=List.mem_iff_getElem.1 f;have:=a i x (by rw[List.getElem?_eq_getElem g,j]);simpa using this
 rw[this]
section
variable {w:World} {b:Nat} {s:List Nat} {root lone:Int} {R:Nat->Prop} (h:MapAt w b s root lone R)
variable {bx V:Nat} {bv:Value} {gg gd:Nat} {bs ds:List Nat} {P:Nat->Prop} (L:mP w bx b V bv gg gd bs ds P)
include h L
theorem Va(a c d:Nat)(M:ds[a]? = some d)(I:d<s.length) :
  Calls Tryz.prog 261 #[.pointer (some ⟨bx,0,none⟩),.int .i64 a,.int .i64 c] w fun e w'=>e=.returned (.int .i64 (toD (sg s) (jg (sg s) d) c))/\fq w b s root lone R w':=by
 have aa:a<V:=by rw[<-L.ET];exact gX M
 have Z:Hid (∀W,fq w b s root lone R W->Calls Tryz.prog 229 #[.pointer (some ⟨b,0,none⟩),.int .i64 d] W fun e w'=>∃v,e=.returned v/\dH W.heap.size w' v (dD (jg (sg s) d))/\fq w b s root lone R w'/\Keeps (fun _=>False) W w'):=dh (fun W hq=>h.N9 hq I)
 have z:Hid (∀W,fq w b s root lone R W->W.cell? ⟨bx,0,none⟩=some (.pointer (some ⟨b,0,none⟩))/\W.cell? ⟨bx,3,none⟩=some (.slice (some ⟨gd,0,none⟩) V V)/\W.cell? ⟨gd,a,none⟩=some (.int .i64 (d:Nat))) :=
  dh (fun W hq=>by have O:=L.mU hq.2 (fun _ h=>h);exact⟨O.c0,O.c3,O.EU M⟩)
 have J:=dh h;have p:=h.uY;have n:=h.xZ p;have ab:=h.le;obtain⟨l,K⟩:∃l,l=jg (sg s) d:=⟨_,rfl⟩
 rw[<-K]at Z ⊢;have Q:l.length<=1000000:=by rw[K];have h2:=(h.dR.dM I).2.1;simp only [yG];omega
 have T:Hid (∀x ∈ l,x<s.length/\mt x<s.length):=dh (fun x hx=>by rw[K]at hx;have:=h.dR.fK I ((h.dR.fU I).1 hx);exact⟨this,dQ h.even this⟩);clear h L M K;obtain⟨d0,d3,dd⟩:=z.out w p;go_enter Tryz.func261,Tryz.ntmps261;go_wp2_with fail;go_region_held3 (fun w'=>w'.cell? ⟨bx,0,none⟩=some (.pointer (some ⟨b,0,none⟩))/\w'.cell? ⟨bx,3,none⟩=some (.slice (some ⟨gd,0,none⟩) V V)/\w'.cell? ⟨gd,a,none⟩=some (.int .i64 (d:Nat))) (first|exact z.out _ p|exact z.out _ n|exact z.out _ f) (first | (go_at_call 229;refine(Z.out _ (by first|exact p|exact n)).mono ?_;rintro e w1 ⟨v1,rfl,o,f,U⟩;obtain⟨va,vc,rfl,-,-⟩:=o.form));rw[q01];have ad:w.heap.size<=w1.heap.size:=f.2.size;have HS:Hid (∀W,Keeps (fun k=>k=b) w1 W->Sl .i64 W (.slice va l.length vc) (dD l)):=dh (fun W t=>by have hb:=J.out.lt;have:=o.keeps t (fun q hq e=>by have:=(o.lt q hq).1;simp at this;omega);rw[q01]at this;exact this.sl);clear o U p n d0 d3 dd;obtain⟨N,X⟩:∃N,N=l.length:=⟨_,rfl⟩
 rw[<-X]at HS Q ⊢;have HN:=dh X;clear X;go_wp2_with fail;go_loopg [22] N (fun m i wr=>∃j:Nat,j<=N/\m=N - j/\i=.int .i64 j/\(∀(k e:Nat),k<j->l[k]? = some e->vnum (sg s) (mt e)≠c)/\fq w b s root lone R wr/\Keeps (fun k=>k=b) w1 wr)
 case atStart=>exact⟨0,Nat.zero_le _,rfl,rfl,fun k e t=>by omega,f,Keeps.refl _ _⟩
 case round =>
  clear f;obtain⟨j,hj,E,rfl,F,hq,t⟩:=hrel;have HG:=dh E;have Y:=dh F;clear E F;by_cases G:j<N
  ·obtain⟨y,D⟩:∃y,l[j]? = some y:=⟨_,List.getElem?_eq_getElem (by rw[<-HN.out];exact G)⟩
   obtain⟨g,off,rfl,ae⟩:=(HS.out wr t).cellAt (jA D);have B:=T.out y (List.mem_of_getElem? D);have n:=J.out.xZ hq;have HM:Hid (∀W,fq w b s root lone R W->Calls Tryz.prog 77 #[.pointer (some ⟨b,0,none⟩),.int .i64 y] W fun e w'=>e=.returned (.int .i64 (mt y:Nat))/\W=w'):=dh (fun W hq=>MapAt.N8 hq B.1);have HX:Hid (∀W,fq w b s root lone R W->Calls Tryz.prog 123 #[.pointer (some ⟨b,0,none⟩),.int .i64 (mt y:Nat)] W fun e w'=>e=.returned (.int .i64 (vnum (sg s) (mt y):Nat))/\fq w b s root lone R w'/\Keeps (fun k=>k=b) W w'):=dh (fun W hq=>J.out.N7 hq B.2);have af:=xY J.out.dR B.2;obtain⟨d0,-,-⟩:=z.out wr hq;go_wp2_with fail;go_region_held3 (fun w'=>w'.cell? ⟨bx,0,none⟩=some (.pointer (some ⟨b,0,none⟩))) (first|exact(z.out _ hq).1|exact(z.out _ n).1|exact(z.out _ f).1) (first | (go_at_call 77;refine(HM.out _ (by first|exact hq|exact n)).mono ?_;rintro e w' ⟨rfl,rfl⟩) | (go_at_call 123;refine(HX.out _ (by first|exact hq|exact n)).mono ?_;rintro e w2 ⟨rfl,f,u⟩));have H:Keeps (fun k=>k=b) w1 w2:=by first|exact t.trans u (fun _ _ e=>e)|exact t.drew.trans u (fun _ _ e=>e)
   by_cases r:vnum (sg s) (mt y)=c
   ·have tv:((vnum (sg s) (mt y):Int) == (c:Int))=true:=by rw[r];exact beq_self_eq_true _
    have C:=dh (dn (Oa D r (fun i e hi A=>Y.out i e hi A)) f);clear f u t hq n D r;go_wp2;go_ret;exact⟨by rw[C.out.1];rfl,C.out.2⟩
   ·have tv:((vnum (sg s) (mt y):Int) == (c:Int))=false:=by rw[beq_eq_false_iff_ne];omega
    have C:=dh (dn (show ∀(k e:Nat),k<j+1->l[k]? = some e->vnum (sg s) (mt e)≠c from fun k e t A=>by
     rcases Nat.lt_or_ge k j with h1|h1
     ·exact Y.out k e h1 A
     ·obtain rfl:k=j:=by omega
      rw[D]at A;obtain rfl:=Option.some.inj A;exact r) (dn f H))
    clear f u t hq n D r H;go_wp2;go_roundg (N - (j+1))
    case measure=>rw[HG.out];omega
    case rel=>exact⟨j+1,by omega,rfl,by go_num,C.out⟩
  ·obtain rfl:j=N:=by omega
   have C:=dh (dn (U9 (S:=sg s) (c:=c) (l:=l) (fun i e A=>Y.out i e (by rw[HN.out];exact gX A) A)) hq);clear hq t G;go_wp2;go_ret;exact⟨by rw[C.out.1];rfl,C.out.2⟩
noncomputable def uZ(S:Nat->Nat)(bs l:List Nat):Nat:=(l.filter fun y=>bs.contains (vnum S (mt y))).length
omit h L in
theorem Vb{S:Nat->Nat}{l:List Nat}{j y:Nat}(c:l[j]? = some y):uZ S bs (l.take (j+1))=uZ S bs (l.take j)+if vnum S (mt y) ∈ bs then 1 else 0:=by
 unfold uZ;rw[oW c,List.filter_append,List.length_append];congr 1;by_cases a:vnum S (mt y) ∈ bs
 ·rw[if_pos a,List.filter_cons_of_pos (by simpa using a)];rfl
 ·rw[if_neg a,List.filter_cons_of_neg (by simpa using a)];rfl
omit h L in
theorem Vd(S:Nat->Nat)(l:List Nat)(j:Nat):uZ S bs (l.take j)<=j:=by unfold uZ;have:=List.length_filter_le (fun y=>bs.contains (vnum S (mt y))) (l.take j);rw[List.length_take]at this;omega
theorem Ve(i v d:Nat)(hi:bs[i]? = some v)(ha:ds[v]? = some d)(Z:d<s.length)(p:∀u ∈ bs,¬P u)(ai:bs.length<=1000000)(M:∀x,x<s.length->vnum (sg s) x<V) :
  Calls Tryz.prog 256 #[.pointer (some ⟨bx,0,none⟩),.int .i64 i] w fun e w'=>e=.returned (.bool (decide (uZ (sg s) bs (jg (sg s) d)=2)))/\fq w b s root lone R w':=by
 have aj:v<V:=by rw[<-L.ET];exact gX ha
 have ak:i<bs.length:=gX hi;have HA:Hid (∀W,fq w b s root lone R W->Calls Tryz.prog 229 #[.pointer (some ⟨b,0,none⟩),.int .i64 d] W fun e w'=>∃v,e=.returned v/\dH W.heap.size w' v (dD (jg (sg s) d))/\fq w b s root lone R w'/\Keeps (fun _=>False) W w'):=dh (fun W hq=>h.N9 hq Z);have HL:Hid (∀W,fq w b s root lone R W->mP W bx b V bv gg gd bs ds P):=dh (fun W hq=>L.mU hq.2 (fun _ h=>h))
 have C:Hid (∀W,fq w b s root lone R W->W.cell? ⟨bx,0,none⟩=some (.pointer (some ⟨b,0,none⟩))/\W.cell? ⟨bx,3,none⟩=some (.slice (some ⟨gd,0,none⟩) V V)/\W.cell? ⟨gd,v,none⟩=some (.int .i64 (d:Nat))) :=
  dh (fun W hq=>by have L':=L.mU hq.2 (fun _ h=>h);exact⟨L'.c0,L'.c3,L'.EU ha⟩)
 have HH:=dh h;have r:=h.uY;have o:=h.xZ r;have al:=h.le;obtain⟨l,hl⟩:∃l,l=jg (sg s) d:=⟨_,rfl⟩
 rw[<-hl]at HA ⊢;have aa:l.length<=1000000:=by rw[hl];have h2:=(h.dR.dM Z).2.1;simp only [yG];omega
 have ab:Hid (∀x ∈ l,x<s.length/\mt x<s.length):=dh (fun x K=>by rw[hl]at K;have:=h.dR.fK Z ((h.dR.fU Z).1 K);exact⟨this,dQ h.even this⟩);have HV:=dh (dn M p);have ad:=L.tF.form;obtain⟨ba,bc,rfl,am,-⟩:=ad;rw[q01]at HL L;have e1:=L.c1;obtain⟨bg,rfl⟩:=oU L.tF (by rw[q01];omega);have e2:=(L.tF.cell (jA hi)).1;obtain⟨d0,d3,dd⟩:=C.out w r;clear h L ha hl M p;go_enter Tryz.func256,Tryz.ntmps256;go_wp2_with fail;go_region_held3 (fun w'=>w'.cell? ⟨bx,0,none⟩=some (.pointer (some ⟨b,0,none⟩))/\w'.cell? ⟨bx,3,none⟩=some (.slice (some ⟨gd,0,none⟩) V V)/\w'.cell? ⟨gd,v,none⟩=some (.int .i64 (d:Nat))) (first|exact C.out _ r|exact C.out _ o|exact C.out _ f) (first | (go_at_call 229;refine(HA.out _ (by first|exact r|exact o)).mono ?_;rintro e w1 ⟨v1,rfl,n,f,ae⟩;obtain⟨va,vc,rfl,-,-⟩:=n.form));rw[q01];have an:w.heap.size<=w1.heap.size:=f.2.size;have HS:Hid (∀W,Keeps (fun k=>k=b) w1 W->Sl .i64 W (.slice va l.length vc) (dD l)):=dh (fun W E=>by have hb:=HH.out.lt;have:=n.keeps E (fun q hq e=>by have:=(n.lt q hq).1;simp at this;omega);rw[q01]at this;exact this.sl);clear n ae r o d0 d3 dd e1 e2;obtain⟨N,hN⟩:∃N,N=l.length:=⟨_,rfl⟩
 rw[<-hN]at HS aa ⊢;have HN:=dh hN;clear hN;go_wp2_with fail;go_loopg [6,30] N (fun m c i wr=>∃j:Nat,j<=N/\m=N - j/\i=.int .i64 j/\c=.int .i64 (uZ (sg s) bs (l.take j):Nat)/\fq w b s root lone R wr/\Keeps (fun k=>k=b) w1 wr)
 case atStart=>exact⟨0,Nat.zero_le _,rfl,rfl,rfl,f,Keeps.refl _ _⟩
 case round =>
  clear f;obtain⟨j,hj,O,rfl,rfl,hq,E⟩:=hrel;have HG:=dh O;clear O;have af:=Vd (bs:=bs) (sg s) l j;by_cases Q:j<N
  ·obtain⟨y,hy⟩:∃y,l[j]? = some y:=⟨_,List.getElem?_eq_getElem (by rw[<-HN.out];exact Q)⟩
   obtain⟨g,off,rfl,ag⟩:=(HS.out wr E).cellAt (jA hy);have F:=ab.out y (List.mem_of_getElem? hy);have o:=HH.out.xZ hq;have HM:Hid (∀W,fq w b s root lone R W->Calls Tryz.prog 77 #[.pointer (some ⟨b,0,none⟩),.int .i64 y] W fun e w'=>e=.returned (.int .i64 (mt y:Nat))/\W=w'):=dh (fun W hq=>MapAt.N8 hq F.1);have HX:Hid (∀W,fq w b s root lone R W->Calls Tryz.prog 123 #[.pointer (some ⟨b,0,none⟩),.int .i64 (mt y:Nat)] W fun e w'=>e=.returned (.int .i64 (vnum (sg s) (mt y):Nat))/\fq w b s root lone R w'/\Keeps (fun k=>k=b) W w'):=dh (fun W hq=>HH.out.N7 hq F.2);have T:=HV.out.1 _ F.2;have a:=Vb (bs:=bs) (S:=sg s) hy;obtain⟨u,hu⟩:∃u,u=vnum (sg s) (mt y):=⟨_,rfl⟩
   rw[<-hu]at HX T a;obtain⟨d0,-,-⟩:=C.out wr hq;clear hu;go_wp2_with fail;go_region_held3 (fun w'=>w'.cell? ⟨bx,0,none⟩=some (.pointer (some ⟨b,0,none⟩))) (first|exact(C.out _ hq).1|exact(C.out _ o).1|exact(C.out _ f).1) (first | (go_at_call 77;refine(HM.out _ (by first|exact hq|exact o)).mono ?_;rintro e w' ⟨rfl,rfl⟩) | (go_at_call 123;refine(HX.out _ (by first|exact hq|exact o)).mono ?_;rintro e w2 ⟨rfl,f,G⟩));have U:Keeps (fun k=>k=b) w1 w2:=by first|exact E.trans G (fun _ _ e=>e)|exact E.drew.trans G (fun _ _ e=>e)
   have X:=HL.out w2 f;have e1:=X.c1;have e2:=X.c2;obtain⟨t1,t,ao,-⟩:=X.ER.cell T;have H:=NT (u:Int) X.tF.sl (by rw[q01];omega);have I:=dh (dn f U);clear f G E hq o U X d0 ag hy;generalize uZ (sg s) bs (l.take j)=c at *;by_cases J:P u
   ·have ah:u ∉ bs:=fun e=>HV.out.2 u e J;rw[if_neg ah]at a;obtain rfl:t1=true:=t.2 J;have D:=dh a;clear a H t;go_wp2;go_roundg (N - (j+1))
    case measure=>rw[HG.out];omega
    case rel=>exact⟨j+1,by omega,rfl,by go_num,by rw[D.out];go_num,I.out⟩
   ·obtain rfl:t1=false:=by
     cases t1
     ·rfl
     ·exact absurd (t.1 rfl) J
    clear t;go_wp2_with fail;refine H.mono ?_;rintro e w' ⟨rfl,t2,rfl,z⟩;clear H
    have A:(u:Int) ∈ dD bs↔u ∈ bs:=by
     unfold dD;rw[List.mem_map]
     exact⟨fun ⟨x,K,e⟩=>by
                   have:x=u:=by omega
                   rwa [this]at K,fun K=>⟨u,K,rfl⟩⟩
    by_cases B:u ∈ bs
    ·rw[if_pos B]at a;obtain rfl:t2=true:=z.2 (A.2 B);have D:=dh a;clear a z A;go_wp2;go_roundg (N - (j+1))
     case measure=>rw[HG.out];omega
     case rel=>exact⟨j+1,by omega,rfl,by go_num,by rw[D.out];go_num,I.out⟩
    ·rw[if_neg B]at a
     obtain rfl:t2=false:=by
      cases t2
      ·rfl
      ·exact absurd (A.1 (z.1 rfl)) B
     have D:=dh a;clear a z A;go_wp2;go_roundg (N - (j+1))
     case measure=>rw[HG.out];omega
     case rel=>exact⟨j+1,by omega,rfl,by go_num,by rw[D.out];go_num,I.out⟩
  ·obtain rfl:j=N:=by omega
   rw[List.take_of_length_le (by rw[HN.out];exact Nat.le_refl _)]at af ⊢
   have Y:(((uZ (sg s) bs l:Nat):Int) == 2)=decide (uZ (sg s) bs l=2):=by
    by_cases e:uZ (sg s) bs l=2
    ·rw[e];rfl
    ·rw[decide_eq_false e,beq_eq_false_iff_ne];omega
   have D:=dh (dn Y hq);clear hq E Q Y;go_wp2;go_ret;exact⟨by rw[<-D.out.1];rfl,D.out.2⟩
theorem Vf(F:Nat)(hF:1<=F)(D:F<bs.length)(f:∀j,1<=j->j<=F->∃v d,bs[j]? = some v/\ds[v]? = some d/\d<s.length/\(uZ (sg s) bs (jg (sg s) d)=2↔j=F))(a:∀u ∈ bs,¬P u)(q:bs.length<=1000000)(g:∀x,x<s.length->vnum (sg s) x<V) :
  Calls Tryz.prog 222 #[.pointer (some ⟨bx,0,none⟩)] w fun e w'=>e=.returned (.int .i64 (F:Nat))/\fq w b s root lone R w':=by
 have E:Hid (∀W,fq w b s root lone R W->mP W bx b V bv gg gd bs ds P):=dh (fun W hq=>L.mU hq.2 (fun _ h=>h));have G:=dh h;have k:=h.uY;have r:=dh (dn f (dn a g));clear h L f a g;go_enter Tryz.func222,Tryz.ntmps222;go_wp2_with fail;go_loopg [3] (F - 1) (fun m i wr=>∃j:Nat,1<=j/\j<=F/\m=F - j/\i=.int .i64 j/\fq w b s root lone R wr)
 case atStart=>exact⟨1,Nat.le_refl _,hF,rfl,rfl,k⟩
 case round =>
  clear k;obtain⟨j,t,H,l,rfl,hq⟩:=hrel;have I:=dh l;clear l;obtain⟨v,d,y,z,A,B⟩:=r.out.1 j t H;have n:=Ve hq.1 (E.out wr hq) j v d y z A r.out.2.1 q r.out.2.2;have J:=dh hq;have C:=dh B;clear hq y z A B;go_wp2_with fail;refine n.mono ?_;rintro e K ⟨rfl,o⟩;have p:=dh (G.out.rX J.out o);clear o n;by_cases c:j=F
  ·rw[decide_eq_true (C.out.2 c)];subst c;go_wp2;go_ret;exact⟨rfl,p.out⟩
  ·rw[decide_eq_false (fun e=>c (C.out.1 e))];go_wp2;go_roundg (F - (j+1))
   case measure=>rw[I.out];omega
   case rel=>exact⟨j+1,by omega,by omega,rfl,by go_num,p.out⟩
end
end
