import Derived.Test.YtalhcfjcbbkpgaaGreatZt0s
import Derived.Test.YtalhcfjcbbkpgaaGreatZt0t
import Derived.Test.YtalhcfjcbbkpgaaGreatZt0u
set_option maxRecDepth 100000
set_option maxHeartbeats 4000000
namespace Go.Proofs.YtalhcfjcbbkpgaaGreat
section
def fV(p q:List Nat):List Nat:=p ++ q.map (p.length + ·)
theorem JW(p:List Nat)(ps:List (List Nat)):iy (p :: ps)=fV p (iy ps):=rfl
theorem yJ(p q:List Nat):(fV p q).length=p.length+q.length:=by simp[fV]
theorem nU{p q:List Nat}{x:Nat}(h:x<p.length):sg (fV p q) x=sg p x:=by unfold sg fV;rw[List.getD_eq_getElem?_getD,List.getElem?_append_left h,<-List.getD_eq_getElem?_getD]
theorem nV{p q:List Nat}{x:Nat}(h:x<q.length):sg (fV p q) (p.length+x)=p.length+sg q x:=by unfold sg fV;rw[List.getD_eq_getElem?_getD,List.getElem?_append_right (by omega),Nat.add_sub_cancel_left,List.getElem?_map,List.getElem?_eq_getElem h,List.getD_eq_getElem?_getD,List.getElem?_eq_getElem h];rfl
theorem ql{a x:Nat}(h:a % 2=0):mt (a+x)=a+mt x:=by unfold mt;split <;> split <;> omega
theorem JX{a b x:Nat}(h:x<a+b):x<a\/∃y,x=a+y/\y<b:=by
 rcases Nat.lt_or_ge x a with c|c
 ·exact .inl c
 ·exact .inr ⟨x - a,by omega,by omega⟩
section
variable {p q:List Nat} (hp:dU p.length (sg p)) (hq:dU q.length (sg q))
include hp hq
theorem JY:dU (fV p q).length (sg (fV p q)):=by
 rw[yJ];refine⟨fun x c=>?_,fun x y c d e=>?_⟩
 ·rcases JX c with h|⟨y,rfl,h⟩
  ·rw[nU h];have:=hp.lt x h;omega
  ·rw[nV h];have:=hq.lt y h;omega
 ·rcases JX c with h|⟨u,rfl,h⟩ <;> rcases JX d with a | ⟨v,rfl,a⟩
  ·rw[nU h,nU a]at e;exact hp.inj _ _ h a e
  ·rw[nU h,nV a]at e;have:=hp.lt x h;omega
  ·rw[nV h,nU a]at e;have:=hp.lt y a;omega
  ·rw[nV h,nV a]at e;rw[hq.inj u v h a (by omega)]
theorem VO{x:Nat}(h:x<p.length)(k:Nat):dN (sg (fV p q)) k x=dN (sg p) k x:=by
 have _:=hq
 induction k with
 | zero=>rfl
 | succ k a =>
  show sg (fV p q) (dN (sg (fV p q)) k x)=sg p (dN (sg p) k x);rw[a,nU (hp.eD h k)]
theorem VP{x:Nat}(h:x<q.length)(k:Nat):dN (sg (fV p q)) k (p.length+x)=p.length+dN (sg q) k x:=by
 have _:=hp
 induction k with
 | zero=>rfl
 | succ k a =>
  show sg (fV p q) (dN (sg (fV p q)) k (p.length+x))=p.length+sg q (dN (sg q) k x);rw[a,nV (hq.eD h k)]
theorem OW{x y:Nat}(h:x<p.length):dK (sg (fV p q)) x y↔dK (sg p) x y:=by unfold dK;simp only [VO hp hq h]
theorem OX{x z:Nat}(h:x<q.length):dK (sg (fV p q)) (p.length+x) z↔∃y,z=p.length+y/\dK (sg q) x y:=by
 unfold dK;simp only [VP hp hq h];constructor
 ·rintro⟨k,rfl⟩;exact⟨_,rfl,k,rfl⟩
 ·rintro⟨y,rfl,k,rfl⟩;exact⟨k,rfl⟩
theorem VQ{x:Nat}(h:x<p.length):rep (sg (fV p q)) x=rep (sg p) x:=by
 have a:=JY hp hq;have c:x<(fV p q).length:=by rw[yJ];omega
 exact Nat.le_antisymm (a.jU c ((OW hp hq h).2 (hp.fM h))) (hp.jU h ((OW hp hq h).1 (a.fM c)))
theorem VR{x:Nat}(h:x<q.length):rep (sg (fV p q)) (p.length+x)=p.length+rep (sg q) x:=by
 have a:=JY hp hq;have c:p.length+x<(fV p q).length:=by rw[yJ];omega
 refine Nat.le_antisymm (a.jU c ((OX hp hq h).2 ⟨_,rfl,hq.fM h⟩)) ?_;obtain⟨y,e,d⟩:=(OX hp hq h).1 (a.fM c);have:=hq.jU h d;omega
end
section
variable {p q:List Nat} (hp:dU p.length (sg p)) (hq:dU q.length (sg q)) (ep:p.length % 2=0) (eq:q.length % 2=0)
include hp hq ep eq
theorem OY{x y:Nat}(h:x<p.length):dJ (fV p q).length (sg (fV p q)) x y↔dJ p.length (sg p) x y:=by
 have _:=hq;constructor
 ·intro d;refine(d (fun z=>z<p.length/\dJ p.length (sg p) x z) ⟨h,dJ.refl _ _ _⟩ (fun z _ a=>?_)).2;rw[nU a.1];exact⟨⟨hp.lt z a.1,a.2.trans (dJ.turn a.1)⟩,⟨dR ep a.1,a.2.trans (dJ.mate a.1)⟩⟩
 ·intro d;refine d (fun z=>dJ (fV p q).length (sg (fV p q)) x z) (dJ.refl _ _ _) (fun z a e=>?_);have c:z<(fV p q).length:=by rw[yJ];omega
  refine⟨?_,e.trans (dJ.mate c)⟩;have:=e.trans (dJ.turn c);rwa [nU a]at this
theorem OZ{x z:Nat}(h:x<q.length):dJ (fV p q).length (sg (fV p q)) (p.length+x) z↔∃y,z=p.length+y/\dJ q.length (sg q) x y:=by
 have _:=hp;constructor
 ·intro c;obtain⟨y,e,_,a⟩:=c (fun z=>∃y,z=p.length+y/\y<q.length/\dJ q.length (sg q) x y) ⟨x,rfl,h,dJ.refl _ _ _⟩ (fun z _ f=>by obtain⟨y,rfl,a,c⟩:=f;rw[nV a,ql ep];exact⟨⟨_,rfl,hq.lt y a,c.trans (dJ.turn a)⟩,⟨_,rfl,dR eq a,c.trans (dJ.mate a)⟩⟩);exact⟨y,e,a⟩
 ·rintro⟨y,rfl,c⟩;refine c (fun z=>dJ (fV p q).length (sg (fV p q)) (p.length+x) (p.length+z)) (dJ.refl _ _ _) (fun z f g=>?_);have d:p.length+z<(fV p q).length:=by rw[yJ];omega
  have i:=g.trans (dJ.turn d);have j:=g.trans (dJ.mate d);rw[nV f]at i;rw[ql ep]at j;exact⟨i,j⟩
theorem qi{x:Nat}(h:x<p.length):eH (fV p q).length (sg (fV p q)) x=eH p.length (sg p) x :=
 Nat.le_antisymm (wC ((OY hp hq ep eq h).2 (wB _ _ _))) (wC ((OY hp hq ep eq h).1 (wB _ _ _)))
theorem O0{x:Nat}(h:x<q.length):eH (fV p q).length (sg (fV p q)) (p.length+x)=p.length+eH q.length (sg q) x:=by refine Nat.le_antisymm (wC ((OZ hp hq ep eq h).2 ⟨_,rfl,wB _ _ _⟩)) ?_;obtain⟨y,e,a⟩:=(OZ hp hq ep eq h).1 (wB _ _ _);have:=wC a;omega
theorem O1:∀i,i<=p.length->dZ (fV p q).length (sg (fV p q)) i=dZ p.length (sg p) i:=by
 intro i
 induction i with
 | zero=>intro _;rfl
 | succ i a =>
  intro c;rw[uz,uz,a (by omega),qi hp hq ep eq (by omega)]
theorem VT:∀i,i<=q.length->dZ (fV p q).length (sg (fV p q)) (p.length+i)=dZ p.length (sg p) p.length+dZ q.length (sg q) i:=by
 intro i
 induction i with
 | zero=>intro _;rw[Nat.add_zero,O1 hp hq ep eq _ (Nat.le_refl _)];rfl
 | succ i c =>
  intro d;rw[<-Nat.add_assoc,uz,uz,c (by omega),O0 hp hq ep eq (by omega)];by_cases a:eH q.length (sg q) i=i
  ·rw[if_pos a,if_pos (by omega)];omega
  ·rw[if_neg a,if_neg (by omega)];omega
theorem VU{x:Nat}(h:x<p.length):eF (fV p q).length (sg (fV p q)) x=eF p.length (sg p) x:=by unfold eF;rw[qi hp hq ep eq h,O1 hp hq ep eq _ (Nat.le_of_lt (hp.kU ep h))]
theorem VW{x:Nat}(h:x<q.length):eF (fV p q).length (sg (fV p q)) (p.length+x)=dZ p.length (sg p) p.length+eF q.length (sg q) x:=by unfold eF;rw[O0 hp hq ep eq h,VT hp hq ep eq _ (Nat.le_of_lt (hq.kU eq h))]
omit hp hq ep eq in
theorem VX{a b:Nat}(P Q R:Nat->Bool)(d:∀x,x<a->P x=Q x)(hr:∀x,x<b->P (a+x)=R x):((List.range (a+b)).filter P).length=((List.range a).filter Q).length+((List.range b).filter R).length:=by
 rw[List.range_add,List.filter_append,List.length_append,List.filter_map,List.length_map];congr 2
 ·exact List.filter_congr (fun x c=>d x (List.mem_range.1 c))
 ·exact List.filter_congr (fun x c=>hr x (List.mem_range.1 c))
end
theorem O3:∀{l:List (List Nat)},jL l->(iy (l.map dM)).length % 2=0
 | [],_=>rfl
 | k :: l,h=>by rw[List.map_cons,JW,yJ,oL];have c:=(h k (by simp)).1.wd.lM;have d:=O3 (l:=l) (fun x a=>h x (by simp[a]));omega
def jm(l:List (List Nat))(i:Nat):Nat:=((l.take i).flatten).length
theorem JZ(l:List (List Nat)):jm l 0=0:=rfl
theorem O5{l:List (List Nat)}{i:Nat}{k:List Nat}(h:l[i]? = some k):jm l (i+1)=jm l i+k.length:=by unfold jm;rw[pE h,List.flatten_append,List.length_append];simp
theorem O6(l:List (List Nat)):jm l l.length=l.flatten.length:=by unfold jm;rw[List.take_of_length_le (Nat.le_refl _)]
theorem O7{l:List (List Nat)}{i:Nat}:jm l i<=l.flatten.length:=by
 unfold jm
 conv=>rhs;rw[<-List.take_append_drop i l]
 rw[List.flatten_append,List.length_append];omega
theorem O9(k:List Nat)(l:List (List Nat))(i:Nat):jm (k :: l) (i+1)=k.length+jm l i:=by simp[jm]
theorem Pg:∀{l:List (List Nat)},jL l->∀i k,l[i]? = some k->∀x,x<k.length->jm l i+x<(iy (l.map dM)).length/\sg (iy (l.map dM)) (jm l i+x)=jm l i+sg (dM k) x/\eF (iy (l.map dM)).length (sg (iy (l.map dM))) (jm l i+x)=i
 | [],_,i,k,d,_,_=>by simp at d
 | e :: l,h,i,k,d,x,f=>by
  have g:=(h e (by simp)).1;have j:=(h e (by simp)).2;have n:jL l:=fun x f=>h x (by simp[f]);have t:=Pg n;have hp:=g.wd.gL;have hq:=G8 n;have a:=oL e;have ep:(dM e).length % 2=0:=by rw[a];exact g.wd.lM
  have eq:=O3 n;have o:=g.wd.p8 j;rw[List.map_cons,JW];cases i with
  | zero =>
   simp only [List.getElem?_cons_zero,Option.some.injEq]at d;subst d;have c:x<(dM e).length:=by omega
   rw[JZ,Nat.zero_add,Nat.zero_add,nU c,VU hp hq ep eq c,yJ];have:=hp.lW ep c;exact⟨by omega,rfl,by omega⟩
  | succ i =>
   rw[List.getElem?_cons_succ]at d;obtain⟨r,u,a3⟩:=t i k d x f;rw[O9,<-a,Nat.add_assoc,nV r,VW hp hq ep eq r,u,a3,yJ,o.1];exact⟨by omega,by omega,by omega⟩
end
section
open Go.RowKit
theorem FB{i r:Nat}(c:i<=33)(hr:2 ^ i<=r)(f:r<=4294967296):i<33:=by
 rcases Nat.lt_or_ge i 33 with a | a
 ·exact a
 ·exfalso;have e:i=33:=Nat.le_antisymm c a;rw[e]at hr;have d:(2:Nat) ^ 33=8589934592:=by decide
  rw[d]at hr;omega
theorem VY(s:iG)(e:way s.l s.h=1):dX s=⟨iT s.l s.h,jK s.l s.h,0,s.o ++ false :: List.replicate s.w true⟩:=by unfold dX iT jK;rw[e,if_neg (show ¬(1:Nat)=3 by decide),if_pos rfl,if_neg (show ¬(1:Nat)=0 by decide),if_neg (show ¬(1:Nat)=0 by decide)]
theorem VZ(s:iG)(e:way s.l s.h=2):dX s=⟨iT s.l s.h,jK s.l s.h,0,s.o ++ true :: List.replicate s.w false⟩:=by unfold dX iT jK;rw[e,if_neg (show ¬(2:Nat)=3 by decide),if_neg (show ¬(2:Nat)=1 by decide),if_pos rfl,if_neg (show ¬(2:Nat)=0 by decide),if_neg (show ¬(2:Nat)=0 by decide)]
theorem V3(s:iG)(e:way s.l s.h=3):dX s=⟨iT s.l s.h,jK s.l s.h,s.w+1,s.o⟩:=by unfold dX iT jK;rw[e,if_pos rfl,if_neg (show ¬(3:Nat)=1 by decide),if_neg (show ¬(3:Nat)=2 by decide),if_neg (show ¬(3:Nat)=0 by decide),if_neg (show ¬(3:Nat)=0 by decide)]
structure jX (w:World)(bw bv bm gc:Nat)(vv:Value)(m:CM)(s:iG)(W:World):Prop where
 wr:rU W bw bv vv s
 cm:qL W bm gc m
 ap:∀q,(q=bm\/q=gc)->q≠bw/\q≠bv/\vv.ownBlock≠some q
 lo:w.heap.size<=bw/\w.heap.size<=bv/\w.heap.size<=bm/\w.heap.size<=gc/\∀q,vv.ownBlock=some q->w.heap.size<=q
 fJ:Keeps (fun _=>False) w W
section
variable {w:World} {bw bv bm gc:Nat} {vv:Value} {m:CM} {s:iG} {W:World}
theorem jX.still(h:jX w bw bv bm gc vv m s W){a:World}(k:Keeps (fun _=>False) W a):jX w bw bv bm gc vv m s a :=
 ⟨h.wr.keeps k (fun h=>h) (fun h=>h) (fun _ _ h=>h),h.cm.keeps k (fun h=>h) (fun h=>h),h.ap,h.lo,h.fJ.trans k (fun _ _ h=>h)⟩
theorem jX.put(h:jX w bw bv bm gc vv m s W){i:iG}{j:World}(g:wE W bw bv vv i j):∃f,jX w bw bv bm gc f m i j:=by
 obtain⟨v',r,n,o⟩:=g;have t:bm<W.heap.size:=lt_of_block h.cm.1;have u:gc<W.heap.size:=by obtain⟨v,h,_⟩:=h.cm.2.1;exact lt_of_block h
 have z:=h.fJ.size;refine⟨v',r,h.cm.keeps n (fun e=>?_) (fun e=>?_),fun q hq=>?_,⟨h.lo.1,h.lo.2.1,h.lo.2.2.1,h.lo.2.2.2.1,fun q hq=>?_⟩,h.fJ.trans n (fun x A e=>?_)⟩
 ·obtain⟨a,b,c⟩:=h.ap bm (.inl rfl);rcases e with e|e|e
  ·exact a e
  ·exact b e
  ·exact c e
 ·obtain⟨a,b,c⟩:=h.ap gc (.inr rfl);rcases e with e|e|e
  ·exact a e
  ·exact b e
  ·exact c e
 ·obtain⟨a,b,c⟩:=h.ap q hq;refine⟨a,b,fun e=>?_⟩;rcases o with d|⟨k,d,y⟩
  ·exact c (by rw[<-d];exact e)
  ·rw[d]at e;have:=Option.some.inj e;rcases hq with rfl|rfl <;> omega
 ·rcases o with d|⟨k,d,y⟩
  ·exact h.lo.2.2.2.2 q (by rw[<-d];exact hq)
  ·rw[d]at hq;have:=Option.some.inj hq;omega
 ·have:=h.lo;rcases e with e|e|e
  ·omega
  ·omega
  ·have:=h.lo.2.2.2.2 x e;omega
theorem jX.span(h:jX w bw bv bm gc vv m s W){l' c:Nat}{a:World}(d:gV a bw 261 l' c [.pointer (some ⟨bv,0,none⟩),.int .i64 s.w])(k:Keeps (fun q=>q=bw) W a):jX w bw bv bm gc vv m { s with l:=l',h:=c } a :=
 ⟨⟨d,h.wr.vec.keeps k (fun e=>h.wr.ne e.symm) (fun q hq e=>h.wr.no (by rw[hq,e])),h.wr.ne,h.wr.no⟩,h.cm.keeps k (fun e=>(h.ap bm (.inl rfl)).1 e) (fun e=>(h.ap gc (.inr rfl)).1 e),h.ap,h.lo,h.fJ.trans k (fun x f e=>by have:=h.lo.1;omega)⟩
theorem jX.see(h:jX w bw bv bm gc vv m s W){c:CM}{a:World}(d:qL a bm gc c)(k:Keeps (fun q=>q=bm\/q=gc) W a):jX w bw bv bm gc vv c s a:=by
 refine⟨h.wr.keeps k (fun e=>?_) (fun e=>?_) (fun q hq e=>(h.ap q e).2.2 hq),d,h.ap,h.lo,h.fJ.trans k (fun x f e=>by have:=h.lo;omega)⟩
 ·exact(h.ap bw e).1 rfl
 ·exact(h.ap bv e).2.1 rfl
theorem jX.wait(h:jX w bw bv bm gc vv m s W)(z:Nat):jX w bw bv bm gc vv m { s with w:=z } (W.setCell ⟨bw,3,none⟩ (.int .i64 (z:Int))):=by obtain⟨a,k⟩:=h.wr.wait z;exact⟨a,h.cm.keeps k (fun e=>(h.ap bm (.inl rfl)).1 e) (fun e=>(h.ap gc (.inr rfl)).1 e),h.ap,h.lo,h.fJ.trans k (fun x c e=>by have:=h.lo.1;omega)⟩
end
end
section
open Go.RowKit
section
variable {w:World} {b:Nat} {s:List Nat} {root lone:Int} {R:Nat->Prop} (h:MapAt w b s root lone R)
include h
theorem V4(ht:Told w b):Calls Tryz.prog 61 #[.pointer (some ⟨b,0,none⟩)] w fun e w'=>e=.returned (.int .i64 (dY (sg s) s.length:Nat))/\w=w':=by
 obtain⟨r,t,sv,u,a,v,x,j,y,z,c,k,n,g,o⟩:=h.ex;have d:w.cell? ⟨b,1,none⟩=some (.int .u32 (if a then 1 else 0)):=dw c 1
 obtain rfl:a=true:=by
  unfold Told at ht;rw[ht]at d;cases a
  ·simp at d
  ·rfl
 have i:=Gf ⟨b,1,none⟩ (.func (.func 110) #[.pointer (some ⟨b,0,none⟩)] #[]) w ht;have f:w.cell? ⟨b,5,none⟩=some j:=dw c 5;obtain⟨A,B,rfl,_,_⟩:=g.2.form;rw[q01,xK]at f;clear h c k n g o d ht;go_enter Tryz.func61,Tryz.ntmps61;go_wp2_with fail;refine i.mono ?_;rintro e w1 ⟨rfl,rfl⟩;clear i;go_wp2;go_ret;exact⟨rfl,rfl⟩
theorem V5(ht:Told w b):Calls Tryz.prog 19 #[.pointer (some ⟨b,0,none⟩)] w fun e w'=>e=.returned (.int .i64 ((dY (sg s) s.length:Nat)+lone))/\w'=w.drew:=by
 have d:=h.keeps (Keeps.refl (fun _=>False) w).drew (fun h=>h) (fun _ _ h=>h);have g:=V4 d (show Told w.drew b from ht);obtain⟨i,u,oM,x,j,y,k,n,z,A,f,_⟩:=h.ex;have c:w.cell? ⟨b,13,none⟩=some (.int .i64 lone):=dw f 13;have o:=nY (sg s) s.length;have r:=h.le;have t:=h.ln;clear h ht f d;generalize dY (sg s) s.length=v at *;go_enter Tryz.func19,Tryz.ntmps19;go_wp2_with fail;have a:IntKind.i64.wrap ((v:Int)+lone)=(v:Int)+lone:=IntWalk.i64_in _ (by omega);go_region_held3 (fun w'=>w'.cell? ⟨b,13,none⟩=some (.int .i64 lone)) (exact c) (first | (go_at_call 61;refine g.mono ?_;rintro e w' ⟨rfl,rfl⟩));clear a
 all_goals
  go_wp2;go_ret
  exact⟨rfl,rfl⟩
end
theorem jB.sI{s:List Nat}(T:jB s.length (sg s)){r:Nat}(hr:r<s.length):jg (sg (dS s)) r=[r,fc (sg s) r,fc (sg s) (fc (sg s) r)]:=by
 have i:=Bn T.dW T.even;rw[mK]at i;obtain⟨n,-,d,j⟩:=i.dQ hr;obtain⟨a,b,c⟩:=T.zZ hr;have f:dN (sg (dS s)) 1 r=fc (sg s) r:=wQ hr;have g:dN (sg (dS s)) 2 r=fc (sg s) (fc (sg s) r):=by show sg (dS s) (dN (sg (dS s)) 1 r)=_;rw[f];exact wQ (T.gJ hr)
 have k:dN (sg (dS s)) 3 r=r:=by show sg (dS s) (dN (sg (dS s)) 2 r)=_;rw[g];exact(wQ (T.gJ (T.gJ hr))).trans (T.f3 hr)
 have hp:per (sg (dS s)) r=3:=by
  have o:per (sg (dS s)) r≠1:=fun e=>by rw[e,f]at d;exact a (by rw[d])
  have t:per (sg (dS s)) r≠2:=fun e=>by rw[e,g]at d;exact c (by rw[d])
  rcases Nat.lt_or_ge 3 (per (sg (dS s)) r)with h|h
  ·exact absurd k (j 3 (by omega) h)
  ·omega
 unfold jg;rw[hp];show [dN (sg (dS s)) 0 r,dN (sg (dS s)) 1 r,dN (sg (dS s)) 2 r]=_;rw[f,g];rfl
section
variable {w:World} {b:Nat} {s:List Nat} {root:Int} {l:Nat} {R:Nat->Prop} (h:MapAt w b s root l R)
include h
theorem V6(c:¬jl s l):Calls Tryz.prog 221 #[.pointer (some ⟨b,0,none⟩)] w fun e w'=>e=.returned (.tuple #[.slice none 0 0,.int .i64 8])/\fP w b s root l R w':=by
 have a:=OO h;clear h;go_enter Tryz.func221,Tryz.ntmps221;go_wp2_with fail;refine a.mono ?_;rintro e w1 ⟨t,rfl,ht,hq⟩
 obtain rfl:t=false:=by
  cases t
  ·rfl
  ·exact absurd (ht.1 rfl) c
 clear a ht;have d:=dh hq;clear hq;go_wp2;go_ret2;exact⟨rfl,d.out⟩
theorem q5z(J:jl s l){r:Nat}(A:root=(r:Int))(hr:r<s.length) :
  Calls Tryz.prog 221 #[.pointer (some ⟨b,0,none⟩)] w fun e w'=>∃v,e=.returned (.tuple #[v,.int .i64 0])/\dI w.heap.size w' v (dD [dB (sg s) r,dB (sg s) (fc (sg s) r),dB (sg s) (fc (sg s) (fc (sg s) r))]) /\
   fP w b s root l R w'/\Told w' b:=by
 have T:=(J.Bw h.dW h.even).2.2;have hE:=OO h;have d:=T.sI hr;have B:=T.gJ hr;have C:=T.gJ (T.gJ hr);have U:=dh h;have HA:Hid (∀W,fP w b s root l R W->MapAt W b s root l (grow R w W)):=dh (fun W hq=>hq.1);have au:=h.le;obtain⟨F,K⟩:∃F,F=r:=⟨_,rfl⟩
 obtain⟨u,M⟩:∃u,u=fc (sg s) r:=⟨_,rfl⟩
 obtain⟨G,N⟩:∃G,G=fc (sg s) (fc (sg s) r):=⟨_,rfl⟩
 have v0:=sO T.dW hr;have v1:=sO T.dW B;have v2:=sO T.dW C;rw[<-N,<-M]at d ⊢;rw[<-N]at v2 C;rw[<-M]at v1 B;rw[<-K]at hr v0 ⊢;have Z:jg (sg (dS s)) r=[F,u,G]:=by rw[d,K]
 have HB:Hid (∀W,fP w b s root l R W->Calls Tryz.prog 160 #[.pointer (some ⟨b,0,none⟩),.int .i64 r] W fun e w'=>∃v,e=.returned v/\dI W.heap.size w' v (dD [F,u,G])/\Keeps (fun _=>False) W w') :=
  dh (fun W hq=>by rw[<-Z];exact JH hq.1 r (by omega))
 have HR:Hid (∀W,fP w b s root l R W->Calls Tryz.prog 121 #[.pointer (some ⟨b,0,none⟩)] W fun e w'=>e=.returned (.int .i64 r)/\W=w'):=dh (fun W hq=>by have:=DL hq.1;rw[A]at this;exact this);clear h T d K M N Z A;have HT:=dh J;clear J;go_enter Tryz.func221,Tryz.ntmps221;go_wp2_with fail;refine hE.mono ?_;rintro e w1 ⟨t,rfl,ht,hq⟩;obtain rfl:t=true:=ht.2 HT.out;clear hE ht;go_wp2_with fail;refine(HR.out w1 hq).mono ?_;rintro e w' ⟨rfl,rfl⟩;go_wp2_with fail;refine(HB.out w1 hq).mono ?_;have aa:=hq.2;rintro e a ⟨v,rfl,c,X⟩;obtain⟨va,vc,rfl,-,-⟩:=c.form;obtain⟨vg,rfl⟩:=pz c (Nat.zero_lt_succ 2);have H:fP w b s root l R a:=hq.trans U.out (iw.two (hq.1.still X));have ab:MV a b s root l (grow R w a) (fun x=>(Value.slice none 0 0).ownBlock=some x) a:=(HA.out a H).mv.fresh (Keeps.refl _ _) (fun x z=>by cases z);have av:w.heap.size<=a.heap.size:=H.2.size;have HS:Hid (∀W,Keeps (fun k=>k=b) a W->Sl .i64 W (.slice (some ⟨vg,0,none⟩) 3 vc) (dD [F,u,G])):=dh (fun W X=>by have hb:=U.out.lt;exact(c.keeps X (fun q hq e=>by have:=(c.lt q hq).1;have:=aa.size;omega)).sl)
 have ad:Hid (∀wr v3,MV a b s root l (grow R w a) (fun x=>v3.ownBlock=some x) wr->Told wr b->dI a.heap.size wr v3 (dD ([F,u,G].map (dB (sg s))))->dI w.heap.size wr v3 (dD [dB (sg s) F,dB (sg s) u,dB (sg s) G])/\fP w b s root l R wr/\Told wr b) :=
  dh (fun wr v3 hm ht d=>⟨d.mono (fun q hq=>by have:=(d.lt q hq).1;omega),H.trans U.out (hm.all.two),ht⟩)
 clear c X H hq aa HA HB HR;obtain⟨f,D⟩:∃f,f=[F,u,G]:=⟨_,rfl⟩
 have ae:f.length=3:=by rw[D];rfl
 have HL:Hid (∀x ∈ f,x<s.length):=dh (fun x z=>by rw[D]at z;simp only [List.mem_cons,List.not_mem_nil,or_false]at z;rcases z with rfl|rfl|rfl <;> assumption);rw[show (dD [F,u,G]).length=3 from rfl];rw[<-D]at HS ad;have O:=dh (dn D ae);clear D ae hr B C v0 v1 v2;go_wp2_with fail;go_loopg [4,19] 3 (fun m ov i wr=>∃j:Nat,j<=3/\m=3 - j/\i=.int .i64 j/\dI a.heap.size wr ov (dD ((f.take j).map (dB (sg s))))/\MV a b s root l (grow R w a) (fun x=>ov.ownBlock=some x) wr/\(0<j->Told wr b))
 case atStart=>exact⟨0,Nat.zero_le _,rfl,rfl,dI.nil _ _,ab,fun h=>absurd h (by omega)⟩
 case round =>
  clear ab;obtain⟨j,hj,af,rfl,d,Y,J⟩:=hrel;have HG:=dh af;clear af;by_cases am:j<3
  ·obtain⟨y,hy⟩:∃y,f[j]? = some y:=⟨_,List.getElem?_eq_getElem (by rw[O.out.2];exact am)⟩
   have ag:=HL.out y (List.mem_of_getElem? hy);obtain⟨g,off,hg,an⟩:=(HS.out wr Y.fJ).cellAt (jI hy);obtain⟨rfl,rfl⟩:vg=g/\0=off:=by simpa using hg
   rw[Nat.zero_add]at an;have hX:=Y.Bt ag;have ao:dB (sg s) y<=1000000:=by have:=sO U.out.dW ag;omega
   obtain⟨x,z⟩:∃x,x=dB (sg s) y:=⟨_,rfl⟩
   have HX:Hid ((f.take (j+1)).map (dB (sg s))=(f.take j).map (dB (sg s)) ++ [x]):=dh (by rw[pE hy,List.map_append,z];rfl);rw[<-z]at hX ao;have E:((f.take j).map (dB (sg s))).length=j:=by rw[List.length_map,List.length_take,O.out.2];omega
   obtain⟨oa,oc,rfl,ap,-⟩:=d.form;rw[q01,E]at d hX ap ⊢;have aq:Hid (∀w',Keeps (fun k=>k=b) wr w'->dI a.heap.size w' (.slice oa j oc) (dD ((f.take j).map (dB (sg s))))):=dh (fun w' X=>d.keeps X (fun q hq e=>by have:=(d.lt q hq).1;have:=U.out.lt;omega));have ar:=Y.fJ.size;clear z hy hg d Y J;go_wp2_with fail;refine hX.mono ?_;rintro e w3 ⟨rfl,Q,ah,ai⟩;have n:=aq.out w3 ai;have aj:a.heap.size<=w3.heap.size:=Q.fJ.size;have ak:(dD ((f.take j).map (dB (sg s)))).length=j:=by rw[q01,E]
   have HN:=dh ak;clear hX E ak;go_wp2_with (at_builtin;refine Gg rfl _ _ rfl a.heap.size (.slice oa j oc) (dD ((f.take j).map (dB (sg s)))) (x:Nat) _ rfl rfl rfl n (by rw[HN.out];omega) aj ?_;rw[HN.out];intro g2 I w4 o S al hg)
   have HF:Hid (dI a.heap.size w4 (.slice (some ⟨g2,0,none⟩) (j+1) I) (dD ((f.take (j+1)).map (dB (sg s))))/\MV a b s root l (grow R w a) (fun x=>(Value.slice (some ⟨g2,0,none⟩) (j+1) I).ownBlock=some x) w4/\Told w4 b):=dh (by
    refine⟨by rw[HX.out,uy];exact o,Q.own S (fun x z=>?_),ah.keeps S (fun e=>?_)⟩
    ·simp only [Value.ownBlock,Option.some.injEq]at z;subst z;rcases al with u|u
     ·exact .inl u
     ·exact .inr ⟨u,(o.lt _ rfl).2⟩
    ·have:=(n.lt _ e).1;have:=U.out.lt;omega)
   clear o S al hg Q ah ai n;go_wp2;go_roundg (3 - (j+1))
   case measure=>rw[HG.out];omega
   case rel=>exact⟨j+1,by omega,rfl,by go_num,HF.out.1,HF.out.2.1,fun _=>HF.out.2.2⟩
  ·obtain rfl:j=3:=by omega
   have e3:f.take 3=f:=List.take_of_length_le (by rw[O.out.2];omega);rw[e3]at d;have HF:=dh (ad.out wr _ Y (J (by omega)) d);clear d Y J e3;go_wp2;go_ret2;exact⟨_,rfl,HF.out⟩
end
end
section
open Go.RowKit
section
variable {w:World} {b:Nat} {s:List Nat} {root lone:Int} {R:Nat->Prop} (h:MapAt w b s root lone R) (ht:Told w b)
include h ht
theorem Hf(d:Nat)(r:d<s.length):Calls Tryz.prog 123 #[.pointer (some ⟨b,0,none⟩),.int .i64 d] w fun e w'=>e=.returned (.int .i64 (dB (sg s) d:Nat))/\w=w':=by
 obtain⟨A,B,sv,C,c,D,t,E,F,G,i,u,v,j,x⟩:=h.ex;have k:w.cell? ⟨b,1,none⟩=some (.int .u32 (if c then 1 else 0)):=dw i 1
 obtain rfl:c=true:=by
  unfold Told at ht;rw[ht]at k;cases c
  ·simp at k
  ·rfl
 have n:=Gf ⟨b,1,none⟩ (.func (.func 110) #[.pointer (some ⟨b,0,none⟩)] #[]) w ht;have f:w.cell? ⟨b,4,none⟩=some t:=dw i 4;have a:=j.1;obtain⟨H,oc,rfl,_,_⟩:=j.1.form;rw[q01,List.length_map,List.length_range]at f a;obtain⟨g,off,rfl,y⟩:=a.cellAt (jI (show ((List.range s.length).map (dB (sg s)))[d]? = some (dB (sg s) d) by simp[r]));have z:decide ((d:Int)<0)=false:=decide_eq_false (by omega);have c:decide (s.length<=d)=false:=decide_eq_false (by omega);clear h i u v j x k ht a;have o:Calls Tryz.prog 157 #[.pointer (some ⟨b,0,none⟩),.int .i64 d] w fun e w'=>e=.returned (.int .i64 (dB (sg s) d:Nat))/\w=w':=by go_enter Tryz.func157,Tryz.ntmps157;go_wp2_with fail;refine n.mono ?_;rintro e w1 ⟨rfl,rfl⟩;clear n;go_wp2;go_ret;exact⟨rfl,rfl⟩
 clear n f y z c;go_enter Tryz.func123,Tryz.ntmps123;go_wp2_with fail;refine o.mono ?_;rintro e w1 ⟨rfl,rfl⟩;clear o;go_wp2;go_ret;exact⟨rfl,rfl⟩
end
theorem V7{w:World}{b:Nat}{s:List Nat}{root lone:Int}{R:Nat->Prop}(h:MapAt w b s root lone R)(d:Nat)(J:d<s.length) :
  Calls Tryz.prog 227 #[.pointer (some ⟨b,0,none⟩),.int .i64 d] w fun e w'=>e=.returned (.int .i64 (iq (sg s) d:Nat))/\fP w b s root lone R w'/\Keeps (fun k=>R k) w w':=by
 obtain⟨⟨j,K,sv,M,N,O,Q,S,T,U,t,f,y,z,A,o,B,C,D,n,c⟩,E,X,a3,a4,a5,Y,F⟩:=id h;have c0:w.cell? ⟨b,0,none⟩=some (.pointer (some ⟨j,0,none⟩)):=dw t 0;have u:j≠b:=fun e=>F (e ▸ o);have G:=f.lt;have H:=Vf j sv s d R w D f.2.1 f.2.2 E (by omega) J
 have i:∀w',mE w' j sv s (grow R w w')->Keeps (fun k=>k=j) w w'->fP w b s root lone R w'/\Keeps (fun k=>R k) w w':=fun w' ht a=>by
  refine⟨?_,a.mono (fun x _ e=>e ▸ o)⟩
  have v:PermAt w' j sv s:=by
   refine⟨?_,f.2.1.keeps a (fun q hq e=>(f.2.2 q hq).1 e),fun q hq=>⟨(f.2.2 q hq).1,Nat.lt_of_lt_of_le (f.2.2 q hq).2 a.size⟩⟩;rcases ht with ht|⟨g,ht,_⟩
   ·exact⟨_,_,_,_,ht⟩
   ·exact⟨_,_,_,_,ht⟩
  refine⟨⟨⟨j,K,sv,M,N,O,Q,S,T,U,a.at t (fun e=>u e.symm),v,y.keeps a n (fun q hq=>c q (.inl hq)),z.keeps a (fun q hq=>c q (by rcases hq with e|e;exact .inr (.inl e);exact .inr (.inr (.inl e)))),A.keeps a (fun q hq=>c q (by rcases hq with e|e;exact .inr (.inr (.inr (.inl e)));exact .inr (.inr (.inr (.inr e))))),
   .inl o,.inl B,fun q hq=>.inl (C q hq),ht,n,c⟩,E,X,a3,a4,a5,Du Y a.size,fun r=>?_⟩,a.mono (fun x _ e=>.inr (e ▸ o))⟩
  have:=h.lt;rcases r with r|r
  ·exact F r
  ·omega
 have I:=dh (dn H i);clear h t f y z A o B C D n c H i;go_enter Tryz.func227,Tryz.ntmps227;go_wp2_with fail;refine I.out.1.mono ?_;rintro e w1 ⟨rfl,ht,a⟩;have Z:=dh (I.out.2 w1 ht a);clear ht a;go_wp2;go_ret;exact⟨rfl,Z.out⟩
end
section
open Go.RowKit
noncomputable def rA(S:Nat->Nat)(e m:Nat):List Nat:=(List.range m).map fun t=>dB S (mt (dN S (t+1) e))
theorem J2(S:Nat->Nat)(e m:Nat):(rA S e m).length=m:=by simp[rA]
theorem V8(S:Nat->Nat)(e m:Nat):rA S e (m+1)=rA S e m ++ [dB S (mt (dN S (m+1) e))]:=by unfold rA;rw[List.range_succ,List.map_append];rfl
section
variable {w:World} {b:Nat} {s:List Nat} {root lone:Int} {R:Nat->Prop} (h:MapAt w b s root lone R)
variable {bx V:Nat} {bv:Value} {gg gd:Nat} {bs ds:List Nat} {P:Nat->Prop} (L:ni w bx b V bv gg gd bs ds P)
include h L
theorem V9(k f u v z d e M:Nat)(Z:f=k+1)(hu:bs[k]? = some u)(hv:bs[f]? = some v)(hz:bs[f+1]? = some z)(ha:ds[v]? = some d)(hd:d<s.length)(aa:toD (sg s) (jg (sg s) d) u=(e:Int))(he:e<s.length)(hM:1<=M)
  (ab:dB (sg s) (mt (dN (sg s) M e))=z)(ad:∀t,1<=t->t<M->dB (sg s) (mt (dN (sg s) t e))≠z)(az:M<=1000000)(ar:bs.length<=1000000) :
  Calls Tryz.prog 224 #[.pointer (some ⟨bx,0,none⟩),.int .i64 (f:Nat)] w fun j w'=>∃ae,j=.returned ae/\dI w.heap.size w' ae (dD (rA (sg s) e (M - 1)))/\fB w b s root lone R w':=by
 have O:f+1<bs.length:=iE hz;obtain⟨G,Q⟩:∃G,G=f+1:=⟨_,rfl⟩
 rw[<-Q]at hz O;have HL:Hid (∀W,Keeps (fun k=>k=b) w W->ni W bx b V bv gg gd bs ds P):=dh (fun W hq=>L.ny hq (fun _ h=>h));obtain⟨ba,bc,rfl,af,-⟩:=L.tY.form;rw[q01]at HL L af;obtain⟨r,rfl⟩:=pz L.tY (by rw[q01];omega)
 have g:Hid (∀W,Keeps (fun k=>k=b) w W->W.cell? ⟨bx,0,none⟩=some (.pointer (some ⟨b,0,none⟩))/\W.cell? ⟨bx,1,none⟩=some (.slice (some ⟨r,0,none⟩) bs.length bc)/\W.cell? ⟨r,k,none⟩=some (.int .i64 (u:Nat))/\W.cell? ⟨r,f,none⟩=some (.int .i64 (v:Nat))/\W.cell? ⟨r,G,none⟩=some (.int .i64 (z:Nat))) :=
  dh (fun W hq=>by have L':=HL.out W hq;exact⟨L'.c0,L'.c1,(L'.tY.cell (jI hu)).1,(L'.tY.cell (jI hv)).1,(L'.tY.cell (jI hz)).1⟩)
 have HT:Hid (∀W,fB w b s root lone R W->Calls Tryz.prog 261 #[.pointer (some ⟨bx,0,none⟩),.int .i64 v,.int .i64 u] W fun j w'=>j=.returned (.int .i64 (e:Nat))/\fB w b s root lone R w') :=
  dh (fun W hq=>(VB hq.1 (HL.out W hq.2) v u d ha hd).mono (fun _ _ ⟨A,e2⟩=>⟨by rw[A,aa],h.sH hq e2⟩))
 have HS:Hid (∀W,fB w b s root lone R W->Calls Tryz.prog 125 #[.pointer (some ⟨b,0,none⟩),.int .i64 e] W fun j w'=>j=.returned (.int .i64 (sg s e:Nat))/\W=w'):=dh (fun W hq=>MapAt.Vz hq he);have HH:=dh h;have HP:=dh (dn h.dW (dn h.even h.le));have S:=h.vN;have T:=h.yI S;have ag:=dh (dn ab ad);have au:IntKind.i64.wrap ((f:Int) - 1)=(k:Int):=by rw[show (f:Int) - 1=(k:Int) by omega];exact IntWalk.i64_in _ (by omega)
 have aA:IntKind.i64.wrap ((f:Int)+1)=(G:Int):=by rw[show (f:Int)+1=(G:Int) by omega];exact IntWalk.i64_in _ (by omega)
 obtain⟨N,hN⟩:∃N,N=bs.length:=⟨_,rfl⟩
 rw[<-hN]at HL g af ar O;have b1:k<N:=by omega
 have b2:f<N:=by omega
 have b3:G<N:=by omega
 have b4:(k:Int)<(N:Int):=by omega
 have b5:(f:Int)<(N:Int):=by omega
 have b6:(G:Int)<(N:Int):=by omega
 have aB:=dh (dn Z (dn Q hN));clear Z Q hN O;clear h L ha hu hv hz aa ab ad;go_enter Tryz.func224,Tryz.ntmps224;go_wp2_with fail;go_region_held3 (fun w'=>w'.cell? ⟨bx,0,none⟩=some (.pointer (some ⟨b,0,none⟩))/\w'.cell? ⟨bx,1,none⟩=some (.slice (some ⟨r,0,none⟩) N bc)/\w'.cell? ⟨r,k,none⟩=some (.int .i64 (u:Nat))/\w'.cell? ⟨r,f,none⟩=some (.int .i64 (v:Nat))/\w'.cell? ⟨r,G,none⟩=some (.int .i64 (z:Nat))) (first|exact g.out _ (Keeps.refl _ _)|exact g.out _ T.2|exact g.out _ a.2) (first | (go_at_call 261;refine(HT.out _ (by first|exact S|exact T)).mono ?_;rintro j w1 ⟨rfl,a⟩) | (go_at_call 125;refine(HS.out _ (by first|exact a)).mono ?_;rintro j w' ⟨rfl,rfl⟩));have ah:MV w b s root lone R (fun x=>(Value.slice none 0 0).ownBlock=some x) w1:=by have hq:=HH.out;refine⟨⟨_,a.1,fun x o=>o,fun x o=>(by cases o)⟩,fun x o=>(by cases o),hq.lt,hq.old,hq.kL,a.2,a.3⟩
 have ai:dI w.heap.size w1 (.slice none 0 0) (dD (rA (sg s) e 0)):=dI.nil _ _;clear a S T au;go_wp2_with fail;go_loopg [5,6] (M - 1) (fun m ov x wr=>∃t:Nat,t+1<=M/\m=M - 1 - t/\x=.int .i64 (dN (sg s) (t+1) e:Nat)/\dI w.heap.size wr ov (dD (rA (sg s) e t))/\MV w b s root lone R (fun x=>ov.ownBlock=some x) wr)
 case atStart=>exact⟨0,hM,rfl,rfl,ai,ah⟩
 case round =>
  clear ai ah;obtain⟨t,ht,aj,rfl,n,U⟩:=hrel;have HG:=dh aj;clear aj;obtain⟨y,Y⟩:∃y,y=dN (sg s) (t+1) e:=⟨_,rfl⟩
  have X:y<s.length:=by rw[Y];exact HP.out.1.eD he _
  have ak:=dR HP.out.2.1 X;have B:=U.drew;obtain⟨x,o⟩:∃x,x=dB (sg s) (mt y):=⟨_,rfl⟩
  have aC:x<=1000000:=by have:=sO HP.out.1 ak;have:=HP.out.2.2;omega
  obtain⟨J,oc,rfl,av,-⟩:=n.form;rw[q01,J2]at n U B av ⊢;have HM:Hid (∀W,MV w b s root lone R (fun x=>(Value.slice J t oc).ownBlock=some x) W->Calls Tryz.prog 77 #[.pointer (some ⟨b,0,none⟩),.int .i64 y] W fun e w'=>e=.returned (.int .i64 (mt y:Nat))/\W=w'):=dh (fun W hq=>hq.mate X);have HX:Hid (∀W,MV w b s root lone R (fun x=>(Value.slice J t oc).ownBlock=some x) W->Calls Tryz.prog 123 #[.pointer (some ⟨b,0,none⟩),.int .i64 (mt y:Nat)] W fun e w'=>e=.returned (.int .i64 (x:Nat))/\MV w b s root lone R (fun x=>(Value.slice J t oc).ownBlock=some x) w'/\Keeps (fun k=>k=b) W w'):=dh (fun W hq=>by rw[o];exact hq.dH ak);have aw:Hid (∀W M',MV w b s root lone R M' W->Calls Tryz.prog 125 #[.pointer (some ⟨b,0,none⟩),.int .i64 y] W fun j w'=>j=.returned (.int .i64 (dN (sg s) (t+1+1) e:Nat))/\W=w'):=dh (fun W M' hq=>by rw[show dN (sg s) (t+1+1) e=sg s y by rw[Y];rfl];exact hq.sigma X);have HO:Hid (∀W W',dI w.heap.size W (.slice J t oc) (dD (rA (sg s) e t))->Keeps (fun k=>k=b) W W'->dI w.heap.size W' (.slice J t oc) (dD (rA (sg s) e t))):=dh (fun W W' ho hk=>ho.keeps hk (fun q hq e=>by have:=(ho.lt q hq).1;have:=HH.out.lt;omega))
  have HY:Hid (x=z↔t+1=M):=dh (by
   rw[o,Y];constructor
   ·intro A;apply Classical.byContradiction;intro e2;exact ag.out.2 (t+1) (by omega) (by omega) A
   ·intro A;rw[A];exact ag.out.1)
  have ax:Hid (x=dB (sg s) (mt (dN (sg s) (t+1) e))):=dh (by rw[o,Y]);rw[<-Y];clear o Y;obtain⟨d0,d1,-,-,d2⟩:=g.out wr U.fJ;have ay:t<=10000000000:=by omega
  go_wp2_with fail
  go_region_held3 (fun w'=>w'.cell? ⟨bx,0,none⟩=some (.pointer (some ⟨b,0,none⟩))/\w'.cell? ⟨bx,1,none⟩=some (.slice (some ⟨r,0,none⟩) N bc)/\w'.cell? ⟨r,k,none⟩=some (.int .i64 (u:Nat))/\w'.cell? ⟨r,f,none⟩=some (.int .i64 (v:Nat))/\w'.cell? ⟨r,G,none⟩=some (.int .i64 (z:Nat))) (first|exact g.out _ U.fJ|exact g.out _ B.fJ|exact g.out _ a.fJ) (first | (go_at_call 77;refine(HM.out _ (by first|exact U|exact B)).mono ?_;rintro j w' ⟨rfl,rfl⟩) | (go_at_call 123;refine(HX.out _ (by first|exact U|exact B)).mono ?_;rintro j w2 ⟨rfl,a,al⟩))
  have c:dI w.heap.size w2 (.slice J t oc) (dD (rA (sg s) e t)):=HO.out wr.drew w2 n al;clear U B n al d0 d1 d2;by_cases am:t+1=M
  ·have H:=HY.out.2 am;have tz:((x:Int) != (z:Int))=false:=by rw[H];exact bne_self_eq_false _
   have e3:dI w.heap.size w2 (.slice J t oc) (dD (rA (sg s) e (M - 1))):=by rw[show M - 1=t by omega];exact c
   have HF:=dh (dn e3 a.all);clear c a H e3;go_wp2;go_ret;exact⟨_,rfl,HF.out⟩
  ·have H:x≠z:=fun A=>am (HY.out.1 A);have tz:((x:Int) != (z:Int))=true:=by rw[bne_iff_ne];omega
   obtain⟨d0,-⟩:=g.out w2 a.fJ;have I:=a.drew;have HN:Hid ((dD (rA (sg s) e t)).length=t):=dh (by rw[q01,J2]);clear H;go_wp2_with fail;go_region_held3 (fun w'=>w'.cell? ⟨bx,0,none⟩=some (.pointer (some ⟨b,0,none⟩))) (first|exact(g.out _ a.fJ).1|exact(g.out _ I.fJ).1|exact(g.out _ C.fJ).1|exact(g.out _ (C.fJ.alloc _)).1|exact(g.out _ D.fJ).1) (first | (go_at_call 77;refine(HM.out _ (by first|exact a|exact I)).mono ?_;rintro j w' ⟨rfl,rfl⟩) | (go_at_call 123;refine(HX.out _ (by first|exact a|exact I)).mono ?_;rintro j w3 ⟨rfl,C,an⟩;have E:=HO.out w2.drew w3 c an;have ao:w.heap.size<=w3.heap.size:=C.fJ.size) | ((refine RY t (by rfl) (.tmp 55) (.tmp 67) (by rfl) w.heap.size (.slice J t oc) (dD (rA (sg s) e t)) (x:Nat) HN w3.heap.size rfl (by simp[Act.eval]) (by simp[Act.eval]) E ay ao ?_;intro g2 K w4 i ap aq hg;have D:MV w b s root lone R (fun x=>(Value.slice (some ⟨g2,0,none⟩) (t+1) K).ownBlock=some x) w4:=C.own ap (fun x o=>by simp only [Value.ownBlock,Option.some.injEq]at o;subst o;rcases aq with A|A;exact .inl A;exact .inr ⟨A,(i.lt _ rfl).2⟩))));have F:dI w.heap.size w4 (.slice (some ⟨g2,0,none⟩) (t+1) K) (dD (rA (sg s) e (t+1))):=by rw[V8,uy,<-ax.out];exact i
   have hS:=aw.out w4 _ D;obtain⟨d0,-⟩:=g.out w4 D.fJ;have HF:=dh (dn F D);clear F D i E c ap aq a C I an;go_wp2_with fail;refine hS.mono ?_;rintro j w' ⟨rfl,rfl⟩;go_wp2;go_roundg (M - 1 - (t+1))
   case measure=>rw[HG.out];omega
   case rel=>exact⟨t+1,by omega,rfl,rfl,HF.out⟩
end
end
