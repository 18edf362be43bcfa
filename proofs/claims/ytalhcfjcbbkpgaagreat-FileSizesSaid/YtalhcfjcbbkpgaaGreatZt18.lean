import Derived.Test.YtalhcfjcbbkpgaaGreatZt13
set_option maxRecDepth 100000
set_option maxHeartbeats 4000000
namespace Go.Proofs.YtalhcfjcbbkpgaaGreat
section
open Go.RowKit
structure Ao (B2 B3:Nat)(wr:World)(v:Value)(l:List (List Nat))(bs:List Nat)(Rs:Nat->Nat->Prop)(i:Nat):Prop where
 len:bs.length=l.length
 row:wr.ownsRow 0 24 1 v l.length (ptrs bs)
 map:∀j b k,i<=j->bs[j]? = some b->l[j]? = some k->MapAt wr b (dM k) 0 0 (Rs j)
 xu:∀q,v.ownBlock=some q->q<B3/\(∀b ∈ bs,b≠q)/\∀j b,bs[j]? = some b->¬Rs j q
 old:∀j b,bs[j]? = some b->b<B3/\∀x,Rs j x->x<B3
 apart:∀i j b c,i<j->bs[i]? = some b->bs[j]? = some c->b≠c/\¬Rs j b/\¬Rs i c/\∀x,Rs i x->¬Rs j x
 low:∀(j b:Nat),bs[j]? = some b->B2<=b
 yO:∀(j b x:Nat),bs[j]? = some b->Rs j x->B2<=x
theorem xk.XA{B:Nat}{w:World}{v:Value}{l:List (List Nat)}{bs:List Nat}{Rs:Nat->Nat->Prop}(h:xk B w v l bs Rs):Ao B w.heap.size w v l bs (fun j x=>Rs j x/\x<w.heap.size) 0:=by
 have f:∀j b,bs[j]? = some b->∃k,l[j]? = some k:=fun j b a=>⟨_,List.getElem?_eq_getElem (by rw[<-h.len];exact iE a)⟩
 refine⟨h.len,⟨h.row.1,h.row.2.imp id fun ⟨g,cap,cur,h1,_,h3⟩=>⟨g,cap,cur,h1,Nat.zero_le _,h3⟩⟩,fun j b k _ a m=>?_,fun q o=>⟨(h.row.lt q o).2,fun b a=>?_,fun j b a d=>?_⟩,fun j b a=>?_,fun i j b c s a u=>?_,fun j b a=>?_,fun j b x a d=>?_⟩
 ·have:=(h.at' j b k a m).1;exact this.mono (fun x d=>⟨d,this.old x d⟩) (fun x d=>d.2) (fun d=>this.kL d.1)
 ·obtain⟨j,t⟩:=List.getElem?_of_mem a;obtain⟨k,f⟩:=f j b t;intro e;subst e;exact(h.at' j b k t f).2.2.2.1 o
 ·obtain⟨k,f⟩:=f j b a;exact(h.at' j b k a f).2.2.2.2 q o d.1
 ·obtain⟨k,f⟩:=f j b a;exact⟨(h.at' j b k a f).1.lt,fun x d=>d.2⟩
 ·obtain⟨y,z,a3,a4⟩:=h.apart i j b c s a u;exact⟨y,fun d=>z d.1,fun d=>a3 d.1,fun x d A=>a4 x d.1 A.1⟩
 ·obtain⟨k,f⟩:=f j b a;exact(h.at' j b k a f).2.1
 ·obtain⟨k,f⟩:=f j b a;exact(h.at' j b k a f).2.2.1 x d.1
section
variable {B2 B3:Nat} {wr W:World} {v:Value} {l:List (List Nat)} {bs:List Nat} {Rs:Nat->Nat->Prop} {i:Nat} (h:Ao B2 B3 wr v l bs Rs i)
include h
theorem Ao.next{G:Nat->Prop}(k:Keeps G wr W){b:Nat}(d:bs[i]? = some b)(f:∀x,G x->x=b\/Rs i x\/B3<=x):Ao B2 B3 W v l bs Rs (i+1):=by
 refine⟨h.len,k.owns h.row (fun q g a=>?_),fun j c o s m t=>?_,h.xu,h.old,h.apart,h.low,h.yO⟩
 ·rcases f _ a with e|e|e
  ·exact(h.xu q g).2.1 b (List.mem_of_getElem? d) e.symm
  ·exact(h.xu q g).2.2 i b d e
  ·have:=(h.xu q g).1;omega
 ·obtain⟨u,w,a3,a4⟩:=h.apart i j b c (by omega) d m;have y:=h.old j c m;refine(h.map j c o (by omega) m t).keeps k (fun a=>?_) (fun x a z=>?_)
  ·rcases f _ a with e|e|e
   ·exact u e.symm
   ·exact a3 e
   ·omega
  ·rcases f _ z with e|e|e
   ·subst e;exact w a
   ·exact a4 x e a
   ·have:=y.2 x a;omega
theorem Ao.quiet{G:Nat->Prop}(k:Keeps G wr W)(b:∀x,G x->B3<=x):Ao B2 B3 W v l bs Rs i :=
 ⟨h.len,k.owns h.row (fun q f a=>by have:=(h.xu q f).1;have:=b _ a;omega),fun j c g d e m=>(h.map j c g d e m).keeps k (fun a=>by have:=(h.old j c e).1;have:=b _ a;omega) (fun x a o=>by have:=(h.old j c e).2 x a;have:=b _ o;omega),h.xu,h.old,h.apart,h.low,h.yO⟩
theorem Ao.cell{j b:Nat}(a:bs[j]? = some b):∃g cap,v=.slice (some ⟨g,0,none⟩) l.length cap/\wr.cell? ⟨g,j,none⟩=some (.pointer (some ⟨b,0,none⟩)):=by
 have c:j<l.length:=by rw[<-h.len];exact iE a
 obtain⟨g,cap,rfl,-⟩:=h.row.form (by omega);refine⟨g,cap,rfl,?_⟩;have:=h.row.cellAt j (by omega);rw[this];unfold ptrs;rw[List.getElem?_map,a];rfl
theorem Ao.form:∃a cap,v=.slice a l.length cap:=by
 obtain⟨_,b⟩:=h.row;rcases b with⟨rfl,c⟩|⟨g,cap,cur,rfl,_⟩
 ·exact⟨none,0,by rw[c]⟩
 ·exact⟨_,cap,rfl⟩
end
def qA(t p l:Bool)(b:List Nat->List Bool × Nat)(ks:List (List Nat)):Prop :=
 ∀k ∈ ks,∀W a d,MapAt W a (dM k) 0 0 d->Calls Tryz.prog 90 #[gY t p l,.pointer (some ⟨a,0,none⟩)] W fun e w'=>∃c,e=.returned (.tuple #[.pointer (some ⟨c,0,none⟩),.int .i64 ((b k).2:Nat),.int .i64 0])/\yG W a c (b k).1 w'
def Hw(w:World)(b:Nat)(R:Nat->Prop)(a:Nat)(l:List Bool)(w':World):Prop:=∃c,fq w' a c l/\w.heap.size<=a/\(∀q,c.ownBlock=some q->w.heap.size<=q)/\Keeps (fun x=>x=b\/R x) w w'
def BK(t p l:Bool)(b:List Nat->List Bool × Nat)(ks:List (List Nat)):Prop :=
 ∀k ∈ ks,∀W a c,MapAt W a (dM k) 0 0 c->Calls Tryz.prog 90 #[gY t p l,.pointer (some ⟨a,0,none⟩)] W fun e w'=>∃d,e=.returned (.tuple #[.pointer (some ⟨d,0,none⟩),.int .i64 ((b k).2:Nat),.int .i64 0])/\Hw W a c d (b k).1 w'
theorem qA.BM{t p l:Bool}{a:List Nat->List Bool × Nat}{ks:List (List Nat)}(h:qA t p l a ks):BK t p l a ks:=fun k b W c d f =>
 (h k b W c d f).mono (fun _ _ ⟨g,h1,vv,h2,h3,h4,h5⟩=>⟨g,h1,vv,h2,h3,h4,h5.mono (fun _ _ e=>.inl e)⟩)
def yP(w:World)(b:Nat)(s:List Nat)(rt ln:Int)(R:Nat->Prop)(c:List Nat)(size:Nat)(e:Ending)(w':World):Prop :=
 ∃v,e=.returned (.tuple #[v,.int .i64 (size:Nat),.int .i64 0])/\eP w.heap.size w' v c/\(∃a,MapAt w' b s rt ln a/\∀x,a x->R x\/w.heap.size<=x)/\Keeps (fun k=>k=b) w w'
def yQ(t p l:Bool)(c:List Nat->Prop)(d:List Nat->List Bool × Nat)(ks:List (List Nat)):Prop :=
 ∀k ∈ ks,∀W a b,MapAt W a (dM k) 0 0 b ->
  (c k->Calls Tryz.prog 90 #[gY t p l,.pointer (some ⟨a,0,none⟩)] W fun e w'=>∃f,e=.returned (.tuple #[.pointer (some ⟨f,0,none⟩),.int .i64 ((d k).2:Nat),.int .i64 0])/\Hw W a b f (d k).1 w') /\
  (¬c k->Calls Tryz.prog 90 #[gY t p l,.pointer (some ⟨a,0,none⟩)] W fun e w'=>∃g:Nat,e=.returned (.tuple #[.pointer none,.int .i64 g,.int .i64 8])/\Keeps (fun x=>x=a\/b x) W w')
def FM(w:World)(b:Nat)(s:List Nat)(rt ln:Int)(R:Nat->Prop)(ks:List (List Nat))(a:List Nat->Prop)(d:List Nat)(size:Nat)(e:Ending)(w':World):Prop :=
 ((∀k ∈ ks,a k)/\yP w b s rt ln R d size e w') \/
 ((∃k ∈ ks,¬a k)/\e=.returned (.tuple #[.slice none 0 0,.int .i64 0,.int .i64 8])/\(∃c,MapAt w' b s rt ln c/\∀x,c x->R x\/w.heap.size<=x)/\Keeps (fun k=>k=b) w w')
structure Dk (w w2 w3:World)(b3:Nat)(t p l:Bool)(XB:Value)(ks:List (List Nat))(bs:List Nat)(Rs:Nat->Nat->Prop)(cd:List Nat->List Bool × Nat)(ln:Nat)(ov:Value)(i:Nat)(wr:World):Prop where
 parts:Ao w2.heap.size w3.heap.size wr XB ks bs Rs i
 out:eP w3.heap.size wr ov ([80,81] ++ [uJ t p l] ++ mZ ln ++ mZ ks.length ++ rD p ((ks.take i).map cd))
 fJ:Keeps (fun x=>w2.heap.size<=x) w2 wr
 big:w3.heap.size<=wr.heap.size
theorem PW{w:World}{b:Nat}{s:List Nat}{rt:Int}{ln:Nat}{R:Nat->Prop}(t p l:Bool)(h:MapAt w b s rt ln R)(hg:fU (jG s ln)=0)(gd:List Nat->Prop)(c:List Nat->List Bool × Nat)(hC:yQ t p l gd c (eu s rt))(hB:eX ((eu s rt).map c)<=1000000)(hN:∀k ∈ eu s rt,(c k).2<=1000000) :
  Calls Tryz.prog 45 #[.pointer (some ⟨b,0,none⟩),gY t p l] w (FM w b s rt ln R (eu s rt) gd (jH t p l ln ((eu s rt).map c) (lG s rt)) (eX ((eu s rt).map c)+if l then (lG s rt).length else 0)):=by
 have cS:∀(x:Bool) (w:World),(Op.unary .not (.bool x)).run Tryz.prog w=.ok (.bool (!x)) w:=fun _ _=>rfl;obtain⟨fs,D⟩:∃fs,fs=jH t p l ln ((eu s rt).map c) (lG s rt):=⟨_,rfl⟩
 obtain⟨sz,a8⟩:∃sz,sz=eX ((eu s rt).map c)+if l then (lG s rt).length else 0:=⟨_,rfl⟩
 rw[<-D,<-a8];have HZ:=dh (dn D a8);clear D a8;have ka:=(Keeps.refl (fun _=>False) w).alloc (.cells #[.bool t,.bool p,.bool l] 35);have bD:=heap_alloc_new w (.cells #[.bool t,.bool p,.bool l] 35);have hA:=h.keeps ka (fun h=>h) (fun _ _ h=>h);have a9:=EW (l:=ln) hA;rw[decide_eq_true hg]at a9;obtain⟨bE,ae,g,af,bF,-,-⟩:=FK h.dW h.even hg h.rt;have cW:=h.le;have ag:=h.even;have cX:=h.ln;have cr:=h.lt;have HG:=dh (dn hg (dn hC (dn hB (dn hN (dn bE (dn ae (dn g (dn af (dn bF ag)))))))));have HA:=dh (dn ka (dn bD cr));clear h hA hC hB hN bE ae g af bF ka ag bD hg;unfold gY;go_enter Tryz.func45,Tryz.ntmps45;go_wp2_with fail;refine a9.mono ?_;clear a9;rintro e w1 ⟨rfl,aL⟩;have bG:=WO aL.1 HG.out.1;have H1:Hid (Keeps (fun x=>x=b) w w1/\w1.heap[w.heap.size]? = some (.cells #[.bool t,.bool p,.bool l] 35 (0,0))):=dh ⟨(show Keeps (fun x=>x=b) w _ from HA.out.1.mono (fun _ _ h=>h.elim)).trans aL.2 (fun _ _ h=>h),aL.2.at HA.out.2.1 (fun e=>by have:=HA.out.2.2;omega)⟩;clear aL;go_wp2_with fail;refine bG.mono ?_;clear bG;rintro e w2 ⟨b2,bp,pv,R2,R',rfl,ba,aq,bH,⟨n1,n2⟩,⟨n3,n4,n5⟩,cs,av,aM⟩;have bI:=WK ba HG.out.2.2.2.2.1;have bJ:=H1.out.1.trans aM (fun _ _ h=>h);have cY:=H1.out.1.size;have cZ:=aM.size;have bK:∀W,Keeps (fun _=>False) w2 W->Calls Tryz.prog 89 #[.pointer (some ⟨b2,0,none⟩)] W fun e w'=>e=.returned (.int .i64 ln)/\W=w':=fun W hW=>Jy (ba.keeps hW (fun h=>h) (fun _ _ h=>h))
 have bL:∀x,R' x->R x\/w.heap.size<=x:=fun x F=>by
  rcases n5 x F with e|e
  ·rcases e with e|e
   ·exact .inl e
   ·have:=e.1;simp at this;exact .inr (by omega)
  ·exact .inr (by omega)
 have bc:=dh bL
 have H2:Hid (Keeps (fun x=>x=b) w w2/\w2.heap[w.heap.size]? = some (.cells #[.bool t,.bool p,.bool l] 35 (0,0))/\kY w2 bp pv (kC s rt)/\MapAt w2 b s rt ln R'/\(b≠bp/\¬R' bp)/\w.heap.size<=bp) :=
  dh ⟨bJ,aM.at H1.out.2 (fun e=>by have:=HA.out.2.2;omega),aq,bH,⟨n3,n4⟩,by omega⟩
 clear aq bH n1 n2 n3 n4 n5 cs av aM ba bJ bL;go_wp2_with fail;refine bI.mono ?_;clear bI;rintro e y ⟨c3,bs,ct,rfl,hM,aN⟩;have aO:=hM.XA;obtain⟨Rs,bM⟩:∃Rs,Rs=(fun j x=>ct j x/\x<y.heap.size):=⟨_,rfl⟩
 rw[<-bM]at aO;have hF:=fun W=>Ub t p l W;obtain⟨pa,pc,rfl⟩:=aO.form;obtain⟨N,bd⟩:∃N,N=(eu s rt).length:=⟨_,rfl⟩
 have H3:=dh (dn aN aO);have c4:=aN.size;rw[<-bd];have I:=dh bd;clear hM bM bd;have be:∀W,Keeps (fun _=>False) y W->W.cell? ⟨w.heap.size,0,none⟩=some (.bool t)/\W.cell? ⟨w.heap.size,1,none⟩=some (.bool p)/\W.cell? ⟨w.heap.size,2,none⟩=some (.bool l):=fun W hW=>by have hb:=hW.at (aN.at H2.out.2.1 (fun h=>h)) (fun h=>h);exact⟨dw hb 0,dw hb 1,dw hb 2⟩
 have aP:=(Keeps.refl (fun _=>False) y).alloc (.cells #[.int .u8 ((80:Nat):Int),.int .u8 ((81:Nat):Int)] 5 (2,3));have bf:=EJ y 80 81;have bN:((80:Nat):Int)=80:=rfl;have bO:((81:Nat):Int)=81:=rfl;rw[bN,bO]at aP bf;have kc:=Go.Joins.run_convert_bytes_const_at (P:=Tryz.prog) y 30 5 #[.int .u8 80,.int .u8 81] 2 2 y.heap.size rfl Tryz.underlying30 Tryz.underlying5;obtain⟨d0,d1,d2⟩:=be _ aP;have bP:=dh (dn aP (dn bf be));clear be aN aO aP bf bN bO;unfold gY at hF;go_wp2_with fail;refine(hF _).mono ?_;clear kc hF d0 d1 d2;rintro e w4 ⟨rfl,bg⟩;have bh:=bP.out.1.trans bg (fun _ _ h=>h);have ar:=(Keeps.refl (fun _=>False) w4).alloc (.cells #[.int .u8 (uJ t p l:Nat)] 5);have aw:=(bP.out.2.1.keeps bg (fun _ _ h=>h)).keeps ar (fun _ _ h=>h);have ax:=(eP.Dh w4 (uJ t p l)).sl;have c5:=bh.size;have H4:=dh (dn bh ar);clear bg bh;obtain⟨fl,ae⟩:∃fl,fl=uJ t p l:=⟨_,rfl⟩
 rw[<-ae]at ax aw ar H4;rw[<-ae];have cu:=dh ae;clear ae;have cT:ln<=65536:=by omega
 go_wp2_with (at_builtin;refine xV rfl _ _ rfl (some ⟨y.heap.size,0,none⟩) 2 1 1 ⟨w4.heap.size,0,none⟩ [80,81] [fl] rfl rfl aw ax (by decide) (by decide) ?_;intro v5 w5 bQ bj)
 have bR:Keeps (fun _=>False) w2 w5:=(H3.out.1.trans H4.out.1 (fun _ _ h=>h)).trans (ar.trans bj (fun _ _ h=>h)) (fun _ _ h=>h);have aU:=bK w5 bR;have ay:=GJ v5 ([80,81] ++ [fl]) ln w5 bQ.sl (by simp) (by omega);have bk:Keeps (fun _=>False) y w5:=H4.out.1.trans (ar.trans bj (fun _ _ h=>h)) (fun _ _ h=>h);have H5:=dh bk;have c6:=bk.size;have e1:IntKind.u64.wrap (ln:Int)=(ln:Int):=by rw[IntKind.wrap_u64];omega
 have c7:N<=131072:=by
  have O:∀l:List (List Nat),jL l->l.length<=l.flatten.length:=fun l=>by
   induction l with
   | nil=>intro _;simp
   | cons k l ih =>
    intro h;have O:=(h k (by simp)).2;have h2:=ih (fun x F=>h x (by simp[F]));rw[List.flatten_cons,List.length_append,List.length_cons];omega
  have h2:=O _ HG.out.2.2.2.2.1;have h3:=HG.out.2.2.2.2.2.1;have h4:=I.out;omega
 have e2:IntKind.u64.wrap (N:Int)=(N:Int):=by rw[IntKind.wrap_u64];omega
 clear bK bR bj ar ax aw bQ bk;refine aU.mono ?_;clear aU;rintro e w' ⟨rfl,rfl⟩;go_wp2_with fail;refine ay.mono ?_;clear ay;rintro e w6 ⟨v6,rfl,bS,bT⟩;have cU:=xW (x:=ln) (by omega);have ay:=GJ v6 ([80,81] ++ [fl] ++ mZ ln) N w6 bS.sl (by simp;omega) (by omega);have H6:=dh (H5.out.trans bT (fun _ _ h=>h));clear bS bT;go_wp2_with fail;refine ay.mono ?_;clear ay;rintro e w7 ⟨v7,rfl,bm,bU⟩;have cw:=xW (x:=N) (by omega);have aQ:=H6.out.trans bU (fun _ _ h=>h);have c8:=H6.out.size
 have bV:Dk w w2 y w.heap.size t p l (.slice pa N pc) (eu s rt) bs Rs c ln v7 0 w7:=by
  refine⟨?_,?_,(H3.out.1.mono (fun _ _ h=>h.elim)).trans (aQ.mono (fun _ _ h=>h.elim)) (fun _ _ h=>h),aQ.size⟩
  ·have:=H3.out.2;rw[<-I.out]at this;exact this.quiet aQ (fun _ h=>h.elim)
  ·rw[<-cu.out,<-I.out];have e:rD p (((eu s rt).take 0).map c)=[]:=rfl;rw[e,List.append_nil];exact bm.mono (fun q C=>by have:=(bm.lt q C).1;omega)
 have bW:=dh bV;clear bm bU aQ bV;go_wp2_with fail;have hsz0:eX (((eu s rt).take 0).map c)=0:=rfl;go_loopg [11,12,52] N (fun q cx sv iv wr=>∃(i:Nat) (ov:Value),i<=N/\q=N - i/\ov=cx/\sv=.int .i64 (eX (((eu s rt).take i).map c):Nat)/\iv=.int .i64 i/\Dk w w2 y w.heap.size t p l (.slice pa N pc) (eu s rt) bs Rs c ln ov i wr/\∀k ∈ (eu s rt).take i,gd k)
 case atStart=>exact⟨0,v7,Nat.zero_le _,by omega,rfl,by rw[hsz0];rfl,rfl,bW.out,fun k hk=>by simp at hk⟩
 case round =>
  clear hsz0 bW;obtain⟨i,ov,hi,bX,rfl,rfl,rfl,J,aV⟩:=hrel;have cy:=dh bX;have bY:=dh aV;clear bX aV;have cV:w.heap.size<w2.heap.size:=lt_of_block H2.out.2.1;have B:=J.fJ.at H2.out.2.1 (fun hh=>by omega);have aW:eX (((eu s rt).take i).map c)<=1000000:=by have O:=PI ((eu s rt).map c) i;rw[<-List.map_take]at O;have:=HG.out.2.2.1;omega
  by_cases bZ:i<N
  ·obtain⟨k,hk⟩:∃k,(eu s rt)[i]? = some k:=⟨_,List.getElem?_eq_getElem (by rw[<-I.out];exact bZ)⟩
   obtain⟨bi,M⟩:∃bi,bs[i]? = some bi:=⟨_,List.getElem?_eq_getElem (by rw[J.parts.len,<-I.out];exact bZ)⟩
   obtain⟨gv,cap,av,cz⟩:=J.parts.cell M;rw[<-I.out]at av;simp only [Value.slice.injEq]at av;obtain⟨rfl,-,rfl⟩:=av;have aR:=J.parts.map i bi k (Nat.le_refl _) M hk;by_cases Q:gd k
   rotate_left
   ·have bn:=(HG.out.2.1 k (List.mem_of_getElem? hk) wr bi (Rs i) aR).2 Q;have c0:=dw B 0;have c1:=dw B 1;have c2:=dw B 2
    have HF:Hid (∀wc,Keeps (fun x=>x=bi\/Rs i x) wr wc->FM w b s rt ln R (eu s rt) gd fs sz (.returned (.tuple #[.slice none 0 0,.int .i64 0,.int .i64 8])) wc):=dh (fun wc m=>by
     have ah:=(J.fJ.trans m (fun q C e=>by
      have:=J.parts.low i bi M;rcases e with e|e
      ·omega
      ·exact J.parts.yO i bi _ M e))
     exact .inr ⟨⟨k,List.mem_of_getElem? hk,Q⟩,rfl,⟨R',H2.out.2.2.2.1.keeps ah (fun F=>by have:=H2.out.2.2.2.1.lt;omega) (fun x F e=>by have:=H2.out.2.2.2.1.old x F;omega),bc.out⟩,H2.out.1.trans ah (fun x F e=>by omega)⟩)
    clear J M hk aR Q B;generalize eX (((eu s rt).take i).map c)=S0 at *;unfold gY at bn;go_wp2_with fail;refine bn.mono ?_;clear bn;rintro e wc ⟨nn,rfl,m⟩;have az:=dh (HF.out wc m);clear m;go_wp2;refine bodyPost_ret (v:=.tuple #[.slice none 0 0,.int .i64 0,.int .i64 8]) (by simp[results,Tryz.results45,go_sem]) rfl ?_;exact az.out
   have b0:Hid (∀k ∈ (eu s rt).take (i+1),gd k):=dh (fun k' b1=>by
    rw[pE hk]at b1;rcases List.mem_append.1 b1 with e|e
    ·exact bY.out k' e
    ·obtain rfl:=List.mem_singleton.1 e;exact Q)
   have aS:=(HG.out.2.1 k (List.mem_of_getElem? hk) wr bi (Rs i) aR).1 Q;clear Q;have c0:=dw B 0;have c1:=dw B 1;have c2:=dw B 2;obtain⟨nb,au⟩:∃nb,nb=(c k).1:=⟨_,rfl⟩
   obtain⟨num,U⟩:∃num,num=(c k).2:=⟨_,rfl⟩
   rw[<-au,<-U]at aS;have cA:num<=1000000:=by rw[U];exact HG.out.2.2.2.1 k (List.mem_of_getElem? hk)
   have bo:eX (((eu s rt).take (i+1)).map c)=eX (((eu s rt).take i).map c)+nb.length:=by rw[pE hk,List.map_append,List.map_cons,List.map_nil,WV,au]
   have cB:eX (((eu s rt).take (i+1)).map c)<=1000000:=by have O:=PI ((eu s rt).map c) (i+1);rw[<-List.map_take]at O;have:=HG.out.2.2.1;omega
   obtain⟨A,hA⟩:∃A,A=[80,81] ++ [uJ t p l] ++ mZ ln ++ mZ (eu s rt).length ++ rD p (((eu s rt).take i).map c):=⟨_,rfl⟩
   have cC:A.length<=3000000:=by have O:=Kt p (((eu s rt).take i).map c) (fun q C=>by obtain⟨x,F,rfl⟩:=List.mem_map.1 C;exact HG.out.2.2.2.1 x (List.mem_of_mem_take F));have h2:=xW (x:=ln) (by omega);have h3:=xW (x:=(eu s rt).length) (by rw[<-I.out];omega);rw[List.length_map,List.length_take]at O;rw[hA];simp only [List.length_append,List.length_cons,List.length_nil];omega
   have a:=J.out;rw[<-hA]at a;have ai:=J.parts.old i bi M;have u:=dh (dn J (dn M (dn hk (dn au (dn U (dn bo (dn hA (dn B ai.1))))))));have c9:=ai.1;have b3:=ai.2;have cD:=dh b3;clear b3;clear J M hk aR au U bo hA B ai;generalize eX (((eu s rt).take i).map c)=S0 at *;generalize b4:eX (((eu s rt).take (i+1)).map c)=S1 at *;have bq:=dh b4;clear b4;unfold gY at aS;go_wp2_with fail;refine aS.mono ?_;clear aS;rintro e wc ⟨bv,rfl,vv,hV,cE,cF,m⟩;have aj:=BO bv vv nb wc hV
   have b5:=a.keeps m (fun q C e=>by
    have:=(a.lt q C).1;rcases e with e|e
    ·omega
    ·have:=cD.out q e;omega)
   have b6:=m.size;have aX:=u.out.1.big
   have d1:wc.cell? ⟨w.heap.size,1,none⟩=some (.bool p):=dw (m.at u.out.2.2.2.2.2.2.2.1 (fun e=>by
    have:=u.out.1.parts.low i bi u.out.2.1;rcases e with e|e
    ·omega
    ·have:=u.out.1.parts.yO i bi _ u.out.2.1 e;omega)) 1
   have ah:=(u.out.1.fJ.trans m (fun q C e=>by
    have:=u.out.1.parts.low i bi u.out.2.1;rcases e with e|e
    ·omega
    ·exact u.out.1.parts.yO i bi _ u.out.2.1 e))
   have b7:∀W,Keeps (fun _=>False) wc W->Calls Tryz.prog 88 #[ov,.int .u64 num] W fun e w'=>∃v',e=.returned v'/\eP y.heap.size w' v' (A ++ mZ num)/\Keeps (fun _=>False) W w':=fun W hW=>by refine(GJ ov A num W (b5.keeps hW (fun _ _ h=>h)).sl (by omega) (by omega)).mono ?_;rintro e w' ⟨v',rfl,O,h2⟩;exact⟨v',rfl,O.mono (fun q C=>by have:=(O.lt q C).1;have:=hW.size;omega),h2⟩
   have aY:nb.length<=1000000:=by have:=u.out.2.2.2.2.2.1;have:=bq.out;omega
   have cG:∀W,Keeps (fun _=>False) wc W->Calls Tryz.prog 92 #[.pointer (some ⟨bv,0,none⟩),.bool p] W fun e w'=>∃v',e=.returned v'/\eP W.heap.size w' v' (mP p nb)/\Keeps (fun _=>False) W w':=fun W hW =>
    Wp bv vv nb p W (hV.keeps hW (fun h=>h) (fun _ _ h=>h)) aY
   have b8:∀W,Keeps (fun _=>False) wc W->W.cell? ⟨w.heap.size,1,none⟩=some (.bool p):=fun W hW=>hW.jY d1;have cH:=dh (dn b8 (dn m (dn ah (dn b6 aX))));have e3:IntKind.u64.wrap (num:Int)=(num:Int):=by rw[IntKind.wrap_u64];omega
   have br:(A ++ mZ num).length+(mP p nb).length<=10000000000:=by have O:=Kr p nb;have h2:=xW (x:=num) (by omega);rw[List.length_append];omega
   have cI:S0+nb.length<=1000000:=by have:=u.out.2.2.2.2.2.1;have:=bq.out;omega
   have z:y.heap.size<=wc.heap.size:=by omega
   clear hV cE cF m a b5 aX ah b8 aY;obtain⟨nl,g⟩:∃nl,nl=nb.length:=⟨_,rfl⟩
   rw[<-g]at aj cI;have cJ:=dh g;clear g;go_wp2_with fail;refine aj.mono ?_;clear aj;rintro e w' ⟨rfl,rfl⟩;have b9:wc.drew.cell? ⟨w.heap.size,1,none⟩=some (.bool p):=d1;go_wp2_with fail
   go_region_law (first
    | (go_simp;go_at_call 88;refine(b7 _ (by first|exact(Keeps.refl _ _).drew|exact((Keeps.refl _ _).drew).trans aa (fun _ _ h=>h)|exact Keeps.refl _ _)).mono ?_;rintro e w8 ⟨v8,rfl,aA,ab⟩;have d8:w8.cell? ⟨w.heap.size,1,none⟩=some (.bool p):=ab.jY (by first|exact b9 | exact d9))
    | (go_simp;go_at_call 92;refine(cG _ (by first|exact(Keeps.refl _ _).drew|exact((Keeps.refl _ _).drew).trans ab (fun _ _ h=>h)|exact Keeps.refl _ _)).mono ?_;rintro e w9 ⟨v9,rfl,bt,aa⟩;have d9:w9.cell? ⟨w.heap.size,1,none⟩=some (.bool p):=aa.jY (by first|exact b9 | exact d8))
    | (refine U3 rfl (.tmp 73) (.tmp 77) rfl y.heap.size v8 v9 (A ++ mZ num) (mP p nb) (by simp[Act.eval]) (by simp[Act.eval]) (by first|exact aA.keeps aa (fun _ _ h=>h)|exact aA) (by first|exact(bt.keeps ab (fun _ _ h=>h)).sl|exact bt.sl) br (by first|exact Nat.le_trans z (Nat.le_trans ab.size aa.size)|exact Nat.le_trans z (Nat.le_trans aa.size ab.size)) ?_;intro v' ca aZ aB bu))
   all_goals
    have ak:Keeps (fun x=>y.heap.size<=x) wc ca:=by
     first
      | exact((((Keeps.refl (fun x=>y.heap.size<=x) wc).drew).trans ab (fun _ _ h=>h.elim)).trans aa (fun _ _ h=>h.elim)).trans aB (fun q C e=>(aA.lt q e).1)
      | exact((((Keeps.refl (fun x=>y.heap.size<=x) wc).drew).trans aa (fun _ _ h=>h.elim)).trans ab (fun _ _ h=>h.elim)).trans aB (fun q C e=>(aA.lt q e).1)
    have HF:Hid (Dk w w2 y w.heap.size t p l (.slice (some ⟨gv,0,none⟩) N pc) (eu s rt) bs Rs c ln v' (i+1) ca):=by refine dh ?_;obtain⟨J,M,hk,au,U,bo,hA,B,ai⟩:=u.out;obtain⟨_,m,ah,_,_⟩:=cH.out;have hs:=ak.size;have aw:=J.big;have da:=m.size;refine⟨J.parts.next (G:=fun x=>x=bi\/Rs i x\/y.heap.size<=x) ((m.mono (fun _ _ h=>by rcases h with h|h;exact .inl h;exact .inr (.inl h))).trans (ak.mono (fun _ _ h=>.inr (.inr h))) (fun _ _ h=>h)) M (fun _ h=>h),?_,ah.trans (ak.mono (fun _ _ h=>h)) (fun q C e=>by omega),by omega⟩;rw[pE hk,List.map_append,List.map_cons,List.map_nil,WU,<-List.append_assoc,<-hA];unfold kZ;rw[<-au,<-U,<-List.append_assoc];exact aZ
    clear ak aZ aB bu aA ab bt aa d8 d9;go_wp2_with fail;go_roundg (N - (i+1))
    case measure=>rw[cy.out];omega
    case rel=>exact⟨i+1,v',by omega,rfl,rfl,by rw[bq.out,u.out.2.2.2.2.2.1,<-cJ.out];rfl,by go_num,HF.out,b0.out⟩
  ·obtain rfl:i=N:=by omega
   have aC:(eu s rt).take i=eu s rt:=List.take_of_length_le (by rw[<-I.out];exact Nat.le_refl _);have a0:Hid (∀k ∈ eu s rt,gd k):=dh (by have:=bY.out;rwa [aC]at this);rw[aC]at aW;rw[aC];obtain⟨A,hA⟩:∃A,A=[80,81] ++ [uJ t p l] ++ mZ ln ++ mZ (eu s rt).length ++ rD p ((eu s rt).map c):=⟨_,rfl⟩
   have cC:A.length<=3000000:=by have O:=Kt p ((eu s rt).map c) (fun q C=>by obtain⟨x,F,rfl⟩:=List.mem_map.1 C;exact HG.out.2.2.2.1 x F);have h2:=xW (x:=ln) (by omega);have h3:=xW (x:=(eu s rt).length) (by rw[<-I.out];omega);rw[List.length_map]at O;have h4:=I.out;rw[hA];simp only [List.length_append,List.length_cons,List.length_nil];omega
   have a:=J.out;rw[aC,<-hA]at a;have aq:=H2.out.2.2.1.keeps J.fJ (fun F=>by have:=H2.out.2.2.1.1.lt;omega) (fun q C F=>by have:=(H2.out.2.2.1.1.2.2 q C).2;omega);have c2:=dw B 2;have a1:=J.big;have cb:Keeps (fun x=>x=b) w wr:=H2.out.1.trans J.fJ (fun x F e=>by omega);have cc:=H2.out.2.2.2.1.keeps J.fJ (fun F=>by have:=H2.out.2.2.2.1.lt;omega) (fun x F e=>by have:=H2.out.2.2.2.1.old x F;omega);have ce:=H2.out.2.2.1.1.lt;obtain⟨S0,bw⟩:∃S0,S0=eX ((eu s rt).map c):=⟨_,rfl⟩
   rw[<-bw]at aW ⊢;have u:=dh (dn hA (dn bw (dn cb (dn cc ce))));clear J hA bw B cb cc aC;have am:∀(E:List Nat) (vF:Value) (wF:World),eP y.heap.size wF vF E->(∀x ∈ E,x<256)->E.length<=90000000->Calls Tryz.prog 21 #[vF] wF (fun e w'=>e=.returned (.int .u32 (lC E:Nat))/\Keeps (fun _=>False) wF w'):=fun E vF wF ho cf hl=>Nc vF E wF ho.sl (fun q C=>(ho.lt q C).2) cf (by omega);cases l
   ·have f:∀x ∈ A,x<256:=by have O:=Ku t p false ln ((eu s rt).map c) [];unfold qz at O;rw[u.out.1];simpa using O
    have hO:=am A ov wr a f (by omega);have aD:=Nb f;have D:fs=A ++ four (lC A):=by have:=HZ.out.1;unfold jH qz at this;rw[this,u.out.1];simp
    have z:sz=S0:=by have:=HZ.out.2;rw[u.out.2.1];simpa using this
    subst z;obtain⟨cv,V⟩:∃cv,cv=lC A:=⟨_,rfl⟩
    rw[<-V]at hO aD D;have cK:=dh D;have X:=dh (dn a a1);clear am f D V a;go_wp2_with fail;refine hO.mono ?_;clear hO;rintro e aE ⟨rfl,H⟩;have ad:=Ni ov A cv aE (X.out.1.keeps H (fun _ _ h=>h)).sl (by omega) aD;have cg:=dh H;clear H;go_wp2_with fail;refine ad.mono ?_;clear ad;rintro e Z ⟨bx,rfl,aF,Y⟩;have al:Keeps (fun _=>False) wr Z:=cg.out.trans Y (fun _ _ h=>h);have ax:=cg.out.size;have HF:Hid (eP w.heap.size Z bx fs/\(∃R',MapAt Z b s rt ln R'/\∀x,R' x->R x\/w.heap.size<=x)/\Keeps (fun k=>k=b) w Z):=by refine dh ⟨?_,⟨R',u.out.2.2.2.1.keeps al (fun h=>h) (fun _ _ h=>h),bc.out⟩,u.out.2.2.1.trans al (fun _ _ h=>h.elim)⟩;rw[cK.out];exact aF.mono (fun q C=>by have:=(aF.lt q C).1;omega)
    clear aF Y al;go_wp2;refine bodyPost_ret (v:=.tuple #[bx,.int .i64 (sz:Nat),.int .i64 0]) (by simp[results,Tryz.results45,go_sem]) rfl ?_;exact .inl ⟨a0.out,bx,rfl,HF.out⟩
   ·obtain⟨L,hL⟩:∃L,L=lG s rt:=⟨_,rfl⟩
    have g:=HG.out.2.2.2.2.2.2.1;have ag:=HG.out.2.2.2.2.2.2.2.2.2;have aG:(lQ (kC s rt)).length=s.length:=by rw[NI,g]
    have af:dU s.length (sg (kC s rt)):=HG.out.2.2.2.2.2.2.2.1;have a2:=Ve bp pv (kC s rt) wr aq (by rw[g];exact af) (by omega);have ch:dU s.length (sg (lQ (kC s rt))):=(Ob af).congr (fun d hd=>Kv (by rw[g];exact hd));have ci:∀d,d<s.length->sg (lQ (kC s rt)) (mt d)=mt (sg (lQ (kC s rt)) d):=fun d hd=>by rw[Kv (by rw[g];exact dR ag hd),Kv (by rw[g];exact hd)];exact WX af ag HG.out.2.2.2.2.2.2.2.2.1 hd
    have cL:L.length<=65536 * 65:=by rw[hL];unfold lG;rw[q6z];exact Nat.mul_le_mul (by omega) (by have:=MS (s.length / 2);omega)
    have f:∀x ∈ A ++ gH L,x<256:=by have O:=Ku t p true ln ((eu s rt).map c) L;unfold qz at O;rw[u.out.1];simpa using O
    have aD:=Nb f;have D:fs=(A ++ gH L) ++ four (lC (A ++ gH L)):=by have:=HZ.out.1;unfold jH qz at this;rw[this,u.out.1,hL];simp
    have z:sz=S0+L.length:=by have:=HZ.out.2;rw[u.out.2.1,hL];simpa using this
    have db:(gH L).length<=600000:=by rw[CK];omega
    obtain⟨Ll,bz⟩:∃Ll,Ll=L.length:=⟨_,rfl⟩
    obtain⟨cv,V⟩:∃cv,cv=lC (A ++ gH L):=⟨_,rfl⟩
    rw[<-V]at aD D;rw[<-bz]at z cL;have o:=dh (dn bz (dn hL (dn g (dn ag (dn aG (dn ch (dn ci (dn V (dn z D)))))))));have X:=dh (dn a (dn a1 (dn f aq)));clear D V a f aq hL g ag aG af ch ci bz z;go_wp2_with fail;refine a2.mono ?_;clear a2;rintro e aE ⟨cM,cj,rfl,a3,ck,cl,H⟩;have an:=Vu cM cj (lQ (kC s rt)) aE a3.1 (by rw[o.out.2.2.2.2.1];exact o.out.2.2.2.2.2.1) (by rw[o.out.2.2.2.2.1];exact o.out.2.2.2.1) (by rw[o.out.2.2.2.2.1];omega) (by rw[o.out.2.2.2.2.1];exact o.out.2.2.2.2.2.2.1);rw[o.out.2.2.2.2.1]at an;have eL:oV (s.length / 2) (fun e=>sg (lQ (kC s rt)) (2 * e)) (s.length / 2)=L:=o.out.2.1.symm;rw[eL]at an;have a4:Hid (eP y.heap.size aE ov A/\Keeps (fun x=>x=bp) wr aE):=dh ⟨X.out.1.keeps H (fun q C e=>by have:=(X.out.1.lt q C).1;have:=u.out.2.2.2.2;omega),H⟩;clear a3 ck cl H eL;go_wp2_with fail;refine an.mono ?_;clear an;rintro e Z ⟨bl,rfl,lv,hV,ai,cN,Y⟩;have aj:=BO bl lv L Z hV;rw[<-o.out.1]at aj;have cm:=JJ bl lv L Z hV (by rw[<-o.out.1];omega);have aH:Hid (eP y.heap.size Z ov A/\Keeps (fun x=>x=bp) wr Z):=dh ⟨a4.out.1.keeps Y (fun _ _ h=>h),a4.out.2.trans Y (fun _ _ h=>h.elim)⟩;clear hV ai cN Y;go_wp2_with fail;refine aj.mono ?_;clear aj;rintro e w' ⟨rfl,rfl⟩;go_wp2_with fail;refine cm.mono ?_;clear cm;rintro e cO ⟨cP,rfl,a5,ao⟩;have bA:=aH.out.1.keeps ao (fun _ _ h=>h);have a6:y.heap.size<=cO.heap.size:=by have:=aH.out.2.size;have:=ao.size;omega
    have aI:=a5.sl;have co:=dh (aH.out.2.trans ao (fun _ _ h=>h.elim));have ap:A.length+(gH L).length<=10000000000:=by omega
    clear a5 ao;go_wp2_with (at_builtin;refine I4 rfl _ _ rfl y.heap.size ov cP A (gH L) rfl rfl bA aI ap a6 ?_;intro vF wF bB ak cp)
    have hO:=am (A ++ gH L) vF wF bB X.out.2.2.1 (by rw[List.length_append];omega);rw[<-o.out.2.2.2.2.2.2.2.1]at hO;have az:Hid (eP y.heap.size wF vF (A ++ gH L)/\Keeps (fun x=>x=bp\/y.heap.size<=x) wr wF):=dh ⟨bB,(co.out.mono (fun _ _ h=>.inl h)).trans (ak.mono (fun q _ e=>.inr (bA.lt q e).1)) (fun _ _ h=>h)⟩;clear bA aI a6 ap bB ak cp am;go_wp2_with fail;refine hO.mono ?_;clear hO;rintro e cQ ⟨rfl,aJ⟩;have ad:=Ni vF (A ++ gH L) cv cQ (az.out.1.keeps aJ (fun _ _ h=>h)).sl (by rw[List.length_append];omega) aD;have cq:=dh aJ;clear aJ;go_wp2_with fail;refine ad.mono ?_;clear ad;rintro e aT ⟨bC,rfl,aK,a7⟩;have al:Keeps (fun x=>x=bp\/y.heap.size<=x) wr aT:=az.out.2.trans (cq.out.trans a7 (fun _ _ h=>h)) (fun _ _ h=>h.elim);have ax:=az.out.2.size;have aw:=cq.out.size
    have HF:Hid (eP w.heap.size aT bC fs/\(∃R',MapAt aT b s rt ln R'/\∀x,R' x->R x\/w.heap.size<=x)/\Keeps (fun k=>k=b) w aT):=by
     have h3:=H2.out.2.2.2.2
     refine dh ⟨?_,⟨R',u.out.2.2.2.1.keeps al (fun F=>by rcases F with e|e;exact h3.1.1 e;omega) (fun x F hg=>by
      rcases hg with e|e
      ·subst e;exact h3.1.2 F
      ·have:=H2.out.2.2.2.1.old x F;omega),bc.out⟩,u.out.2.2.1.trans al (fun x F hg=>by
      rcases hg with e|e
      ·have:=h3.2;omega
      ·omega)⟩
     rw[o.out.2.2.2.2.2.2.2.2.2];exact aK.mono (fun q C=>by have:=(aK.lt q C).1;have:=X.out.2.1;omega)
    have cR:=o.out.2.2.2.2.2.2.2.2.1;subst cR;clear aK a7 al;go_wp2;refine bodyPost_ret (v:=.tuple #[bC,.int .i64 ((S0+Ll:Nat):Int),.int .i64 0]) (by simp[results,Tryz.results45,go_sem]) rfl ?_;exact .inl ⟨a0.out,bC,rfl,HF.out⟩
theorem XC{w:World}{b:Nat}{s:List Nat}{rt:Int}{ln:Nat}{R:Nat->Prop}(t p l:Bool)(h:MapAt w b s rt ln R)(d:fU (jG s ln)=0)(a:List Nat->List Bool × Nat)(f:BK t p l a (eu s rt))(g:eX ((eu s rt).map a)<=1000000)(j:∀k ∈ eu s rt,(a k).2<=1000000) :
  Calls Tryz.prog 45 #[.pointer (some ⟨b,0,none⟩),gY t p l] w (yP w b s rt ln R (jH t p l ln ((eu s rt).map a) (lG s rt)) (eX ((eu s rt).map a)+if l then (lG s rt).length else 0)) :=
 (PW t p l h d (fun _=>True) a (fun k c W m o q=>⟨fun _=>f k c W m o q,fun e=>absurd trivial e⟩) g j).mono (fun e w' h=>by
  rcases h with h|⟨⟨k,c,e⟩,-⟩
  ·exact h.2
  ·exact absurd trivial e)
theorem XD{w:World}{b:Nat}{s:List Nat}{rt:Int}{ln:Nat}{R:Nat->Prop}(t p l:Bool)(h:MapAt w b s rt ln R)(c:fU (jG s ln)=0)(a:List Nat->List Bool × Nat)(d:qA t p l a (eu s rt))(e:eX ((eu s rt).map a)<=1000000)(f:∀k ∈ eu s rt,(a k).2<=1000000) :
  Calls Tryz.prog 45 #[.pointer (some ⟨b,0,none⟩),gY t p l] w (yP w b s rt ln R (jH t p l ln ((eu s rt).map a) (lG s rt)) (eX ((eu s rt).map a)+if l then (lG s rt).length else 0)) :=
 XC t p l h c a d.BM e f
end
section
open Go.RowKit
theorem XE{w:World}{b:Nat}{s:List Nat}{rt:Int}{ln:Nat}{R:Nat->Prop}(t p l:Bool)(h:MapAt w b s rt ln R)(z:fU (jG s ln)=0)(a:List Nat->List Bool × Nat)(A:qA t p l a (eu s rt))(B:eX ((eu s rt).map a)<=1000000)(C:∀k ∈ eu s rt,(a k).2<=1000000) :
  Calls Tryz.prog 12 #[.pointer (some ⟨b,0,none⟩),gY t p l] w fun e w'=>∃v,e=.returned (.tuple #[v,.int .i64 0])/\eP w.heap.size w' v (jH t p l ln ((eu s rt).map a) (lG s rt))/\(∃c,MapAt w' b s rt ln c/\∀x,c x->R x\/w.heap.size<=x)/\Keeps (fun k=>k=b) w w':=by
 have m:=(Keeps.refl (fun _=>False) w).alloc (.cells #[.bool t,.bool p,.bool l] 35);have j:=XD t p l (h.keeps m (fun h=>h) (fun _ _ h=>h)) z a A B C;obtain⟨o,d⟩:∃o,o=jH t p l ln ((eu s rt).map a) (lG s rt):=⟨_,rfl⟩
 obtain⟨D,f⟩:∃D,D=eX ((eu s rt).map a)+if l then (lG s rt).length else 0:=⟨_,rfl⟩
 rw[<-d,<-f]at j;rw[<-d];have u:=dh m;clear h m d f A B C z;unfold gY at j ⊢;go_enter Tryz.func12,Tryz.ntmps12;go_wp2_with fail;refine j.mono ?_;clear j;rintro e w1 ⟨v,rfl,y,⟨c,E,g⟩,F⟩;have G:Hid (eP w.heap.size w1 v o/\(∃c,MapAt w1 b s rt ln c/\∀x,c x->R x\/w.heap.size<=x)/\Keeps (fun k=>k=b) w w1):=dh ⟨y.mono (fun q H=>by have J:=(y.lt q H).1;have:=u.out.size;omega),⟨c,E,fun x I=>(g x I).imp id (fun h=>by have:=u.out.size;omega)⟩,(u.out.mono (fun _ _ h=>h.elim):Keeps (fun k=>k=b) w _).trans F (fun _ _ h=>h)⟩;clear y F E g;go_wp2_with fail;refine bodyPost_ret (v:=.tuple #[v,.int .i64 0]) (by simp[results,Tryz.results12,go_sem]) rfl ?_;exact⟨v,rfl,G.out⟩
def sQ(k:List Nat):List Bool × Nat:=(jE k,k.length / 2)
theorem PX(p l:Bool){ks:List (List Nat)}(h:jL ks):qA false p l sQ ks:=fun k a _ _ _ b=>(Vd p l b (h k a).1 (h k a).2).mono fun _ _ c=>c
theorem XF(p:Bool)(ks:List (List Nat)):rD p (ks.map sQ)=JE p (ks.map jE):=by unfold rD JE;rw[List.flatMap_map,List.flatMap_map];congr 1;funext k;unfold kZ sQ;simp only;rw[Gq,show 2 * k.length / 4=k.length / 2 by omega]
theorem Hy:∀(ks:List (List Nat)),eX (ks.map sQ)=2 * ks.flatten.length
 | []=>rfl
 | k :: ks=>by
  have a:=Hy ks;have e:eX ((k :: ks).map sQ)=(jE k).length+eX (ks.map sQ):=by simp[eX,sQ]
  rw[e,a,Gq,List.flatten_cons,List.length_append];omega
theorem PY{ks:List (List Nat)}{k:List Nat}(b:k ∈ ks):k.length<=ks.flatten.length:=by
 induction ks with
 | nil=>cases b
 | cons a ks c =>
  rw[List.flatten_cons,List.length_append];rcases List.mem_cons.1 b with rfl|h
  ·omega
  ·have:=c h;omega
def Dl(p l:Bool)(ln:Nat)(ks:List (List Nat))(lab:List Bool):List Nat:=jH false p l ln (ks.map sQ) lab
def xw(p l:Bool)(ln:Nat)(ks:List (List Nat))(lab:List Bool):List Nat:=yA p ln (ks.map jE) ++ if l then gH lab else []
theorem XG(p l:Bool)(ln:Nat)(ks:List (List Nat))(lab:List Bool):qz false p l ln (ks.map sQ) lab=80 :: 81 :: uJ false p l :: xw p l ln ks lab:=by unfold qz xw yA;rw[XF,List.length_map,List.length_map];simp
section
variable (p l:Bool) (ln:Nat) (ks:List (List Nat)) (lab:List Bool)
theorem XH:Dl p l ln ks lab=(80 :: 81 :: uJ false p l :: xw p l ln ks lab) ++ four (lC (80 :: 81 :: uJ false p l :: xw p l ln ks lab)):=by unfold Dl jH;rw[XG]
end
end
section
def kid(S:Nat->Nat)(r N x:Nat):Prop:=col S r N (mt x)=0\/x=fc S (fc S r)\/x=mt (fc S r)
noncomputable def kQ(S:Nat->Nat)(r N x:Nat):Nat:=open Classical in if kid S r N x\/kid S r N (mt x)then S (mt x)else S x
section
variable {n:Nat} {S:Nat->Nat} (T:jB n S) {r:Nat} (hr:r<n) {N:Nat} (K:dL n S r N)
include T hr K
theorem dL.kD{x:Nat}:kid S r N x↔(∃j,j<N/\lT S r j x)\/x=fc S (fc S r)\/x=mt (fc S r):=by unfold kid;rw[K.Kq T hr,dG]
omit hr K in
theorem jB.twins{hr:r<n}:dB S (fc S (fc S r))=dB S (mt (fc S r))/\dB S (mt (fc S (fc S r)))=dB S r/\dB S (mt (mt (fc S r)))=dB S (mt r) :=
 ⟨T.vf (T.gJ hr),T.zT hr,by rw[dG];exact T.vf hr⟩
theorem dL.nX{y z:Nat}(c:dB S y=dB S z)(b:kid S r N (mt y))(a:kid S r N (mt z)):y=z:=by
 obtain⟨w1,f,g⟩:=T.twins (hr:=hr);obtain⟨s,t,t3⟩:=T.zZ hr
 have d:∀y z,dB S y=dB S z->(∃j,j<N/\lT S r j (mt y))->(mt z=fc S (fc S r)\/mt z=mt (fc S r))->False:=fun y z c b a=>by
  obtain⟨j,k,m⟩:=b;have:=K.nW T hr k m;rw[dG,c,<-dG z]at this;rcases a with a|a
  ·rw[a,f]at this;exact this (.inl rfl)
  ·rw[a,g]at this;exact this (.inr (.inl (T.vf hr).symm))
 rcases(K.kD T hr).1 b with b|b <;> rcases(K.kD T hr).1 a with a|a
 ·obtain⟨i,m,o⟩:=b;obtain⟨j,k,q⟩:=a;have:=K.yK T hr m k o q (by rw[dG,dG];exact c);rw[<-dG y,this,dG]
 ·exact(d y z c b a).elim
 ·exact(d z y c.symm a b).elim
 ·have e:dB S r≠dB S (mt r):=T.loop r hr;rcases b with b|b <;> rcases a with a|a
  ·rw[<-dG y,b,<-a,dG]
  ·rw[<-dG y,<-dG z,b,a,f,g]at c;exact absurd c e
  ·rw[<-dG y,<-dG z,b,a,f,g]at c;exact absurd c.symm e
  ·rw[<-dG y,b,<-a,dG]
theorem dL.qB{y:Nat}(h:kid S r N (mt y)):dB S y≠dB S (fc S (fc S r)):=fun a=>by
 obtain⟨w1,b,c⟩:=T.twins (hr:=hr);obtain⟨g,d,t3⟩:=T.zZ hr;rcases(K.kD T hr).1 h with⟨j,e,f⟩|h|h
 ·have:=K.nW T hr e f;rw[dG,a]at this;exact this (.inr (.inr rfl))
 ·rw[<-dG y,h,b]at a;exact t3 a
 ·rw[<-dG y,h,c,<-T.vf hr]at a;exact d a
theorem dL.uP{x:Nat}(b:kid S r N x)(a:kid S r N (mt x)):False:=by
 obtain⟨w1,s,t⟩:=T.twins (hr:=hr);have d:=K.qB T hr a;rcases(K.kD T hr).1 b with⟨i,f,b⟩|b|b
 ·rcases(K.kD T hr).1 a with⟨j,o,a⟩|a
  ·obtain⟨-,g,a3,-⟩:=K.ins T hr f b;obtain⟨-,k,m,-⟩:=K.ins T hr o a;rw[dG]at m;have q:i≠j:=fun e=>by subst e;have:=T.loop x (by obtain⟨c,-⟩:=K.ins T hr f b;exact c);rw[g,k]at this;exact this rfl
   rcases Nat.lt_or_ge i j with h|h
   ·exact m (by rw[g];exact o9.2 ⟨i,h,rfl⟩)
   ·exact a3 (by rw[k];exact o9.2 ⟨j,by omega,rfl⟩)
  ·have:=K.nW T hr f b;rcases a with a|a
   ·rw[a]at this;exact this (.inr (.inr rfl))
   ·rw[a,<-w1]at this;exact this (.inr (.inr rfl))
 ·rw[b]at d;exact d rfl
 ·rw[b,<-w1]at d;exact d rfl
omit hr K in
theorem jB.oH:dU n (kQ S r N):=by
 have e:∀x,kQ S r N x=S (open Classical in if kid S r N x\/kid S r N (mt x)then mt x else x):=fun x=>by unfold kQ;split <;> rfl
 refine⟨fun x d=>?_,fun x y d f a=>?_⟩
 ·rw[e];split
  ·exact T.slt (T.mlt d)
  ·exact T.slt d
 ·rw[e,e]at a;have a:=T.dW.inj _ _ (by split;exact T.mlt d;exact d) (by split;exact T.mlt f;exact f) a;by_cases b:kid S r N x\/kid S r N (mt x) <;> by_cases c:kid S r N y\/kid S r N (mt y)
  ·rw[if_pos b,if_pos c]at a;rw[<-dG x,a,dG]
  ·rw[if_pos b,if_neg c]at a;exact absurd (by rw[<-a,dG];exact b.symm) c
  ·rw[if_neg b,if_pos c]at a;exact absurd (by rw[a,dG];exact c.symm) b
  ·rw[if_neg b,if_neg c]at a;exact a
theorem dL.around{u:Nat}(d:u<n)(m:kid S r N (mt u))(o:∀y,y<n->dB S y=dB S u->kid S r N y->dK (kQ S r N) (S (mt y)) (mt y)) :
  ∀t,t+1<=per S u->dK (kQ S r N) (S u) (dN S (t+1) u):=by
 intro t
 induction t with
 | zero=>intro _;exact dK.refl _ _
 | succ t e =>
  intro w;have e:=e (by omega);have q:=T.dW.eD d (t+1);have a:=T.pU d (t+1);have f:dN S (t+1) u≠u:=(T.dW.dQ d).2.2.2 (t+1) (by omega) (by omega);refine e.trans ?_;show dK _ (dN S (t+1) u) (S (dN S (t+1) u));generalize dN S (t+1) u=y at *;by_cases b:kid S r N y
  ·have g:kQ S r N y=S (mt y):=by unfold kQ;rw[if_pos (.inl b)]
   have s:kQ S r N (mt y)=S y:=by unfold kQ;rw[if_pos (.inr (by rw[dG];exact b)),dG]
   have c:=dK.step (kQ S r N) y;rw[g]at c;have k:=dK.step (kQ S r N) (mt y);rw[s]at k;exact(c.trans (o y q a b)).trans k
  ·have j:¬kid S r N (mt y):=fun j=>f (K.nX T hr a j m);have g:kQ S r N y=S y:=by unfold kQ;rw[if_neg (by rintro (h|h);exact b h;exact j h)]
   have c:=dK.step (kQ S r N) y;rwa [g]at c
theorem dL.ret{y:Nat}(b:y<n)(c:kid S r N y):dK (kQ S r N) (S (mt y)) (mt y):=by
 have o:∀m y,y<n->kid S r N y->(∀j,j<N->lI S r j=dB S (mt y)->N<=j+m)->dK (kQ S r N) (S (mt y)) (mt y):=by
  intro m
  induction m with
  | zero =>
   intro y b c q;have s:∀j,j<N->lI S r j≠dB S (mt y):=fun j f A=>by have:=q j f A;omega
   have g:=K.around T hr (T.mlt b) (by rw[dG];exact c) (fun z t a d=>by
    exfalso;rcases(K.kD T hr).1 d with⟨j,f,w⟩|h|h
    ·exact s j f (by rw[<-a];exact(K.ins T hr f w).2.1.symm)
    ·exact K.qB T hr (y:=mt y) (by rw[dG];exact c) (by rw[<-a,h])
    ·exact K.qB T hr (y:=mt y) (by rw[dG];exact c) (by rw[<-a,h,<-(T.twins (hr:=hr)).1])) (per S (mt y) - 1) (by have:=(T.dW.dQ (T.mlt b)).1;omega)
   rw[show per S (mt y) - 1+1=per S (mt y) by have:=(T.dW.dQ (T.mlt b)).1;omega,(T.dW.dQ (T.mlt b)).2.2.1]at g;exact g
  | succ m B =>
   intro y b c q
   have g:=K.around T hr (T.mlt b) (by rw[dG];exact c) (fun z t a d=>by
    refine B z t d (fun i w k=>?_);rcases(K.kD T hr).1 d with⟨j,f,u⟩|h|h
    ·obtain⟨-,x,C,-⟩:=K.ins T hr f u;have D:=q j f (by rw[<-a];exact x.symm);have E:i≠j:=fun e=>by subst e;have:=T.loop z t;rw[x,k]at this;exact this rfl
     rcases Nat.lt_or_ge i j with h|h
     ·exact absurd (by rw[<-k];exact o9.2 ⟨i,h,rfl⟩) C
     ·omega
    ·exact absurd (by rw[<-a,h]) (K.qB T hr (y:=mt y) (by rw[dG];exact c))
    ·exact absurd (by rw[<-a,h,<-(T.twins (hr:=hr)).1]) (K.qB T hr (y:=mt y) (by rw[dG];exact c))) (per S (mt y) - 1) (by have:=(T.dW.dQ (T.mlt b)).1;omega)
   rw[show per S (mt y) - 1+1=per S (mt y) by have:=(T.dW.dQ (T.mlt b)).1;omega,(T.dW.dQ (T.mlt b)).2.2.1]at g;exact g
 exact o N y b c (fun j f _=>by omega)
theorem dL.span:∀x,x<n->dK (kQ S r N) (fc S (fc S r)) x:=by
 have o:=T.gJ (T.gJ hr)
 have L:∀t,dK (kQ S r N) (fc S (fc S r)) (dN S t (fc S (fc S r))):=by
  intro t
  induction t with
  | zero=>exact dK.refl _ _
  | succ t u =>
   refine u.trans ?_;have q:=T.dW.eD o t;have b:=T.pU o t;show dK _ (dN S t (fc S (fc S r))) (S (dN S t (fc S (fc S r))));generalize dN S t (fc S (fc S r))=y at *;by_cases s:kid S r N y
   ·have e:kQ S r N y=S (mt y):=by unfold kQ;rw[if_pos (.inl s)]
    have M:kQ S r N (mt y)=S y:=by unfold kQ;rw[if_pos (.inr (by rw[dG];exact s)),dG]
    have c:=dK.step (kQ S r N) y;rw[e]at c;have F:=dK.step (kQ S r N) (mt y);rw[M]at F;exact(c.trans (K.ret T hr q s)).trans F
   ·have w:¬kid S r N (mt y):=fun w=>K.qB T hr w b;have e:kQ S r N y=S y:=by unfold kQ;rw[if_neg (by rintro (h|h);exact s h;exact w h)]
    have c:=dK.step (kQ S r N) y;rwa [e]at c
 have f:∀x,x<n->dB S x=dB S (fc S (fc S r))->dK (kQ S r N) (fc S (fc S r)) x:=fun x a d=>by obtain⟨t,-,O⟩:=T.turn o a d.symm;have:=L t;rwa [O]at this
 have A:∀y x,y<n->x<n->kid S r N y->dK (kQ S r N) (fc S (fc S r)) y->dB S x=dB S (mt y)->dK (kQ S r N) (fc S (fc S r)) x:=fun y x q a B P d=>by
  have e:kQ S r N y=S (mt y):=by unfold kQ;rw[if_pos (.inl B)]
  have c:=dK.step (kQ S r N) y;rw[e]at c;refine(P.trans c).trans ?_;have G:=T.mlt q;obtain⟨t,Z,g⟩:=T.turn G a d.symm;have Q:=fun t h=>K.around T hr G (by rw[dG];exact B) (fun z R _ C=>K.ret T hr R C) t h;rcases Nat.eq_zero_or_pos t with H|H
  ·rw[H]at g;have g:mt y=x:=g;rw[<-g];exact K.ret T hr q B
  ·have:=Q (t - 1) (by omega);rwa [show t - 1+1=t by omega,g]at this
 obtain⟨w1,U,V⟩:=T.twins (hr:=hr)
 have X:∀j,j<N->∀x,x<n->dB S x=lI S r j->dK (kQ S r N) (fc S (fc S r)) x:=by
  intro j
  induction j using Nat.strongRecOn with
  | ind j u =>
   intro k x a d;by_cases m:qp S r (lI S r j)
   ·rcases m with h|h|h
    ·exact absurd (by rw[<-h];exact o9.2 ⟨j,k,rfl⟩) K.one
    ·exact absurd (by rw[<-T.vf hr,<-h];exact o9.2 ⟨j,k,rfl⟩) K.DJ
    ·exact f x a (by rw[d,h])
   ·obtain⟨i,y,D,I,b⟩:=K.parent T hr k m;obtain⟨J,Y,-⟩:=K.ins T hr (show i<N by omega) I;exact A y x J a ((K.kD T hr).2 (.inl ⟨i,by omega,I⟩)) (u i D (by omega) y J Y) (by rw[d,b])
 intro x a;rcases K.all x a with h|h|h
 ·obtain⟨j,k,E⟩:=o9.1 h;exact X j k x a E.symm
 ·exact A (fc S (fc S r)) x o a (.inr (.inl rfl)) (dK.refl _ _) (by rw[h,U])
 ·exact A (mt (fc S r)) x (T.mlt (T.gJ hr)) a (.inr (.inr rfl)) (f _ (T.mlt (T.gJ hr)) w1.symm) (by rw[h,V])
theorem dL.qC:per (kQ S r N) (fc S (fc S r))=n:=by have a:=T.oH (r:=r) (N:=N);have b:=T.gJ (T.gJ hr);have c:=vY (a.lJ b) (List.nodup_range (n:=n)) (fun x=>by rw[a.gF b,List.mem_range];exact⟨fun h=>a.fK b h,fun h=>K.span T hr x h⟩);rwa [q0z,List.length_range]at c
end
end
