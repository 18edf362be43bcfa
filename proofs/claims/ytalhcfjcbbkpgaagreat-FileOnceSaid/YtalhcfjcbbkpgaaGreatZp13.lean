import Derived.Test.YtalhcfjcbbkpgaaGreatZp12
set_option maxRecDepth 100000
set_option maxHeartbeats 4000000
namespace Go.Proofs.YtalhcfjcbbkpgaaGreat
open Go.RowKit
structure zN (B2 B3:Nat)(wr:World)(v:Value)(l:List (List Nat))(bs:List Nat)(Rs:Nat->Nat->Prop)(i:Nat):Prop where
 len:bs.length=l.length
 row:wr.ownsRow 0 24 1 v l.length (ptrs bs)
 map:∀j b k,i<=j->bs[j]? = some b->l[j]? = some k->MapAt wr b (dN k) 0 0 (Rs j)
 wD:∀q,v.ownBlock=some q->q<B3/\(∀b ∈ bs,b≠q)/\∀j b,bs[j]? = some b->¬Rs j q
 old:∀j b,bs[j]? = some b->b<B3/\∀x,Rs j x->x<B3
 apart:∀i j b c,i<j->bs[i]? = some b->bs[j]? = some c->b≠c/\¬Rs j b/\¬Rs i c/\∀x,Rs i x->¬Rs j x
 low:∀(j b:Nat),bs[j]? = some b->B2<=b
 x8:∀(j b x:Nat),bs[j]? = some b->Rs j x->B2<=x
theorem wC.V9{B:Nat}{w:World}{v:Value}{l:List (List Nat)}{bs:List Nat}{Rs:Nat->Nat->Prop}(h:wC B w v l bs Rs):zN B w.heap.size w v l bs (fun j x=>Rs j x/\x<w.heap.size) 0:=by
 have f:∀j b,bs[j]? = some b->∃k,l[j]? = some k:=fun j b a=>⟨_,List.getElem?_eq_getElem (by rw[<-h.len];exact gX a)⟩
 refine⟨h.len,⟨h.row.1,h.row.2.imp id fun ⟨g,cap,cur,h1,_,h3⟩=>⟨g,cap,cur,h1,Nat.zero_le _,h3⟩⟩,fun j b k _ a m=>?_,fun q n=>⟨(h.row.lt q n).2,fun b a=>?_,fun j b a d=>?_⟩,fun j b a=>?_,fun i j b c o a r=>?_,fun j b a=>?_,fun j b x a d=>?_⟩
 ·have:=(h.at' j b k a m).1;exact this.mono (fun x d=>⟨d,this.old x d⟩) (fun x d=>d.2) (fun d=>this.kC d.1)
 ·obtain⟨j,p⟩:=List.getElem?_of_mem a;obtain⟨k,f⟩:=f j b p;intro e;subst e;exact(h.at' j b k p f).2.2.2.1 n
 ·obtain⟨k,f⟩:=f j b a;exact(h.at' j b k a f).2.2.2.2 q n d.1
 ·obtain⟨k,f⟩:=f j b a;exact⟨(h.at' j b k a f).1.lt,fun x d=>d.2⟩
 ·obtain⟨s,t,a3,a4⟩:=h.apart i j b c o a r;exact⟨s,fun d=>t d.1,fun d=>a3 d.1,fun x d u=>a4 x d.1 u.1⟩
 ·obtain⟨k,f⟩:=f j b a;exact(h.at' j b k a f).2.1
 ·obtain⟨k,f⟩:=f j b a;exact(h.at' j b k a f).2.2.1 x d.1
section
variable {B2 B3:Nat} {wr W:World} {v:Value} {l:List (List Nat)} {bs:List Nat} {Rs:Nat->Nat->Prop} {i:Nat} (h:zN B2 B3 wr v l bs Rs i)
include h
theorem zN.next{G:Nat->Prop}(k:Keeps G wr W){b:Nat}(d:bs[i]? = some b)(f:∀x,G x->x=b\/Rs i x\/B3<=x):zN B2 B3 W v l bs Rs (i+1):=by
 refine⟨h.len,k.owns h.row (fun q g a=>?_),fun j c n o m p=>?_,h.wD,h.old,h.apart,h.low,h.x8⟩
 ·rcases f _ a with e|e|e
  ·exact(h.wD q g).2.1 b (List.mem_of_getElem? d) e.symm
  ·exact(h.wD q g).2.2 i b d e
  ·have:=(h.wD q g).1;omega
 ·obtain⟨r,s,a3,a4⟩:=h.apart i j b c (by omega) d m;have t:=h.old j c m;refine(h.map j c n (by omega) m p).keeps k (fun a=>?_) (fun x a u=>?_)
  ·rcases f _ a with e|e|e
   ·exact r e.symm
   ·exact a3 e
   ·omega
  ·rcases f _ u with e|e|e
   ·subst e;exact s a
   ·exact a4 x e a
   ·have:=t.2 x a;omega
theorem zN.quiet{G:Nat->Prop}(k:Keeps G wr W)(b:∀x,G x->B3<=x):zN B2 B3 W v l bs Rs i :=
 ⟨h.len,k.owns h.row (fun q f a=>by have:=(h.wD q f).1;have:=b _ a;omega),fun j c g d e m=>(h.map j c g d e m).keeps k (fun a=>by have:=(h.old j c e).1;have:=b _ a;omega) (fun x a n=>by have:=(h.old j c e).2 x a;have:=b _ n;omega),h.wD,h.old,h.apart,h.low,h.x8⟩
theorem zN.cell{j b:Nat}(a:bs[j]? = some b):∃g cap,v=.slice (some ⟨g,0,none⟩) l.length cap/\wr.cell? ⟨g,j,none⟩=some (.pointer (some ⟨b,0,none⟩)):=by
 have c:j<l.length:=by rw[<-h.len];exact gX a
 obtain⟨g,cap,rfl,-⟩:=h.row.form (by omega);refine⟨g,cap,rfl,?_⟩;have:=h.row.cellAt j (by omega);rw[this];unfold ptrs;rw[List.getElem?_map,a];rfl
theorem zN.form:∃a cap,v=.slice a l.length cap:=by
 obtain⟨_,b⟩:=h.row;rcases b with⟨rfl,c⟩|⟨g,cap,cur,rfl,_⟩
 ·exact⟨none,0,by rw[c]⟩
 ·exact⟨_,cap,rfl⟩
end
def p8(t p l:Bool)(b:List Nat->List Bool × Nat)(ks:List (List Nat)):Prop :=
 ∀k ∈ ks,∀W a d,MapAt W a (dN k) 0 0 d->Calls Tryz.prog 90 #[iL t p l,.pointer (some ⟨a,0,none⟩)] W fun e w'=>∃c,e=.returned (.tuple #[.pointer (some ⟨c,0,none⟩),.int .i64 ((b k).2:Nat),.int .i64 0])/\xW W a c (b k).1 w'
def GV(w:World)(b:Nat)(R:Nat->Prop)(a:Nat)(l:List Bool)(w':World):Prop:=∃c,eX w' a c l/\w.heap.size<=a/\(∀q,c.ownBlock=some q->w.heap.size<=q)/\Keeps (fun x=>x=b\/R x) w w'
def AY(t p l:Bool)(b:List Nat->List Bool × Nat)(ks:List (List Nat)):Prop :=
 ∀k ∈ ks,∀W a c,MapAt W a (dN k) 0 0 c->Calls Tryz.prog 90 #[iL t p l,.pointer (some ⟨a,0,none⟩)] W fun e w'=>∃d,e=.returned (.tuple #[.pointer (some ⟨d,0,none⟩),.int .i64 ((b k).2:Nat),.int .i64 0])/\GV W a c d (b k).1 w'
theorem p8.AZ{t p l:Bool}{a:List Nat->List Bool × Nat}{ks:List (List Nat)}(h:p8 t p l a ks):AY t p l a ks:=fun k b W c d f =>
 (h k b W c d f).mono (fun _ _ ⟨g,h1,vv,h2,h3,h4,h5⟩=>⟨g,h1,vv,h2,h3,h4,h5.mono (fun _ _ e=>.inl e)⟩)
def x9(w:World)(b:Nat)(s:List Nat)(rt ln:Int)(R:Nat->Prop)(c:List Nat)(size:Nat)(e:Ending)(w':World):Prop :=
 ∃v,e=.returned (.tuple #[v,.int .i64 (size:Nat),.int .i64 0])/\dZ w.heap.size w' v c/\(∃a,MapAt w' b s rt ln a/\∀x,a x->R x\/w.heap.size<=x)/\Keeps (fun k=>k=b) w w'
def yg(t p l:Bool)(c:List Nat->Prop)(d:List Nat->List Bool × Nat)(ks:List (List Nat)):Prop :=
 ∀k ∈ ks,∀W a b,MapAt W a (dN k) 0 0 b ->
  (c k->Calls Tryz.prog 90 #[iL t p l,.pointer (some ⟨a,0,none⟩)] W fun e w'=>∃f,e=.returned (.tuple #[.pointer (some ⟨f,0,none⟩),.int .i64 ((d k).2:Nat),.int .i64 0])/\GV W a b f (d k).1 w') /\
  (¬c k->Calls Tryz.prog 90 #[iL t p l,.pointer (some ⟨a,0,none⟩)] W fun e w'=>∃g:Nat,e=.returned (.tuple #[.pointer none,.int .i64 g,.int .i64 8])/\Keeps (fun x=>x=a\/b x) W w')
def E9(w:World)(b:Nat)(s:List Nat)(rt ln:Int)(R:Nat->Prop)(ks:List (List Nat))(a:List Nat->Prop)(d:List Nat)(size:Nat)(e:Ending)(w':World):Prop :=
 ((∀k ∈ ks,a k)/\x9 w b s rt ln R d size e w') \/
 ((∃k ∈ ks,¬a k)/\e=.returned (.tuple #[.slice none 0 0,.int .i64 0,.int .i64 8])/\(∃c,MapAt w' b s rt ln c/\∀x,c x->R x\/w.heap.size<=x)/\Keeps (fun k=>k=b) w w')
structure CG (w w2 w3:World)(b3:Nat)(t p l:Bool)(Wh:Value)(ks:List (List Nat))(bs:List Nat)(Rs:Nat->Nat->Prop)(cd:List Nat->List Bool × Nat)(ln:Nat)(ov:Value)(i:Nat)(wr:World):Prop where
 parts:zN w2.heap.size w3.heap.size wr Wh ks bs Rs i
 out:dZ w3.heap.size wr ov ([80,81] ++ [um t p l] ++ mM ln ++ mM ks.length ++ tH p ((ks.take i).map cd))
 fJ:Keeps (fun x=>w2.heap.size<=x) w2 wr
 big:w3.heap.size<=wr.heap.size
theorem OQ{w:World}{b:Nat}{s:List Nat}{rt:Int}{ln:Nat}{R:Nat->Prop}(t p l:Bool)(h:MapAt w b s rt ln R)(hg:fV (jN s ln)=0)(gd:List Nat->Prop)(c:List Nat->List Bool × Nat)(hC:yg t p l gd c (dY s rt))(hB:fC ((dY s rt).map c)<=1000000)(hN:∀k ∈ dY s rt,(c k).2<=1000000) :
  Calls Tryz.prog 45 #[.pointer (some ⟨b,0,none⟩),iL t p l] w (E9 w b s rt ln R (dY s rt) gd (jJ t p l ln ((dY s rt).map c) (jR s rt)) (fC ((dY s rt).map c)+if l then (jR s rt).length else 0)):=by
 have cO:∀(x:Bool) (w:World),(Op.unary .not (.bool x)).run Tryz.prog w=.ok (.bool (!x)) w:=fun _ _=>rfl;obtain⟨fs,B⟩:∃fs,fs=jJ t p l ln ((dY s rt).map c) (jR s rt):=⟨_,rfl⟩
 obtain⟨sz,a4⟩:∃sz,sz=fC ((dY s rt).map c)+if l then (jR s rt).length else 0:=⟨_,rfl⟩
 rw[<-B,<-a4];have HZ:=dh (dn B a4);clear B a4;have ka:=(Keeps.refl (fun _=>False) w).alloc (.cells #[.bool t,.bool p,.bool l] 35);have bz:=heap_alloc_new w (.cells #[.bool t,.bool p,.bool l] 35);have hA:=h.keeps ka (fun h=>h) (fun _ _ h=>h);have a5:=EB (l:=ln) hA;rw[decide_eq_true hg]at a5;obtain⟨bA,Z,g,aa,bB,-,-⟩:=GU h.dR h.even hg h.rt;have cS:=h.le;have ab:=h.even;have cT:=h.ln;have cm:=h.lt;have HG:=dh (dn hg (dn hC (dn hB (dn hN (dn bA (dn Z (dn g (dn aa (dn bB ab)))))))));have HA:=dh (dn ka (dn bz cm));clear h hA hC hB hN bA Z g aa bB ka ab bz hg;unfold iL;go_enter Tryz.func45,Tryz.ntmps45;go_wp2_with fail;refine a5.mono ?_;clear a5;rintro e w1 ⟨rfl,aH⟩;have bC:=V4 aH.1 HG.out.1;have H1:Hid (Keeps (fun x=>x=b) w w1/\w1.heap[w.heap.size]? = some (.cells #[.bool t,.bool p,.bool l] 35 (0,0))):=dh ⟨(show Keeps (fun x=>x=b) w _ from HA.out.1.mono (fun _ _ h=>h.elim)).trans aH.2 (fun _ _ h=>h),aH.2.at HA.out.2.1 (fun e=>by have:=HA.out.2.2;omega)⟩;clear aH;go_wp2_with fail;refine bC.mono ?_;clear bC;rintro e w2 ⟨b2,bp,pv,R2,R',rfl,a6,am,bD,⟨n1,n2⟩,⟨n3,n4,n5⟩,co,ap,aI⟩;have bE:=VW a6 HG.out.2.2.2.2.1;have bF:=H1.out.1.trans aI (fun _ _ h=>h);have cU:=H1.out.1.size;have cV:=aI.size;have bG:∀W,Keeps (fun _=>False) w2 W->Calls Tryz.prog 89 #[.pointer (some ⟨b2,0,none⟩)] W fun e w'=>e=.returned (.int .i64 ln)/\W=w':=fun W hW=>Jd (a6.keeps hW (fun h=>h) (fun _ _ h=>h))
 have bH:∀x,R' x->R x\/w.heap.size<=x:=fun x C=>by
  rcases n5 x C with e|e
  ·rcases e with e|e
   ·exact .inl e
   ·have:=e.1;simp at this;exact .inr (by omega)
  ·exact .inr (by omega)
 have a7:=dh bH
 have U:Hid (Keeps (fun x=>x=b) w w2/\w2.heap[w.heap.size]? = some (.cells #[.bool t,.bool p,.bool l] 35 (0,0))/\kP w2 bp pv (iX s rt)/\MapAt w2 b s rt ln R'/\(b≠bp/\¬R' bp)/\w.heap.size<=bp) :=
  dh ⟨bF,aI.at H1.out.2 (fun e=>by have:=HA.out.2.2;omega),am,bD,⟨n3,n4⟩,by omega⟩
 clear am bD n1 n2 n3 n4 n5 co ap aI a6 bF bH;go_wp2_with fail;refine bE.mono ?_;clear bE;rintro e r ⟨cW,bs,cp,rfl,hM,aJ⟩;have aK:=hM.V9;obtain⟨Rs,bI⟩:∃Rs,Rs=(fun j x=>cp j x/\x<r.heap.size):=⟨_,rfl⟩
 rw[<-bI]at aK;have hF:=fun W=>Ti t p l W;obtain⟨pa,pc,rfl⟩:=aK.form;obtain⟨N,a8⟩:∃N,N=(dY s rt).length:=⟨_,rfl⟩
 have H3:=dh (dn aJ aK);have cX:=aJ.size;rw[<-a8];have F:=dh a8;clear hM bI a8;have a9:∀W,Keeps (fun _=>False) r W->W.cell? ⟨w.heap.size,0,none⟩=some (.bool t)/\W.cell? ⟨w.heap.size,1,none⟩=some (.bool p)/\W.cell? ⟨w.heap.size,2,none⟩=some (.bool l):=fun W hW=>by have hb:=hW.at (aJ.at U.out.2.1 (fun h=>h)) (fun h=>h);exact⟨dw hb 0,dw hb 1,dw hb 2⟩
 have aL:=(Keeps.refl (fun _=>False) r).alloc (.cells #[.int .u8 ((80:Nat):Int),.int .u8 ((81:Nat):Int)] 5 (2,3));have ba:=Et r 80 81;have bJ:((80:Nat):Int)=80:=rfl;have bK:((81:Nat):Int)=81:=rfl;rw[bJ,bK]at aL ba;have kc:=Go.Joins.run_convert_bytes_const_at (P:=Tryz.prog) r 30 5 #[.int .u8 80,.int .u8 81] 2 2 r.heap.size rfl Tryz.underlying30 Tryz.underlying5;obtain⟨d0,d1,d2⟩:=a9 _ aL;have bL:=dh (dn aL (dn ba a9));clear a9 aJ aK aL ba bJ bK;unfold iL at hF;go_wp2_with fail;refine(hF _).mono ?_;clear kc hF d0 d1 d2;rintro e w4 ⟨rfl,bc⟩;have bd:=bL.out.1.trans bc (fun _ _ h=>h);have an:=(Keeps.refl (fun _=>False) w4).alloc (.cells #[.int .u8 (um t p l:Nat)] 5);have aq:=(bL.out.2.1.keeps bc (fun _ _ h=>h)).keeps an (fun _ _ h=>h);have ar:=(dZ.CF w4 (um t p l)).sl;have cY:=bd.size;have H4:=dh (dn bd an);clear bc bd;obtain⟨fl,Z⟩:∃fl,fl=um t p l:=⟨_,rfl⟩
 rw[<-Z]at ar aq an H4;rw[<-Z];have cq:=dh Z;clear Z;have cP:ln<=65536:=by omega
 go_wp2_with (at_builtin;refine xk rfl _ _ rfl (some ⟨r.heap.size,0,none⟩) 2 1 1 ⟨w4.heap.size,0,none⟩ [80,81] [fl] rfl rfl aq ar (by decide) (by decide) ?_;intro v5 w5 bM be)
 have bN:Keeps (fun _=>False) w2 w5:=(H3.out.1.trans H4.out.1 (fun _ _ h=>h)).trans (an.trans be (fun _ _ h=>h)) (fun _ _ h=>h);have aQ:=bG w5 bN;have au:=Gg v5 ([80,81] ++ [fl]) ln w5 bM.sl (by simp) (by omega);have bf:Keeps (fun _=>False) r w5:=H4.out.1.trans (an.trans be (fun _ _ h=>h)) (fun _ _ h=>h);have H5:=dh bf;have cZ:=bf.size;have e1:IntKind.u64.wrap (ln:Int)=(ln:Int):=by rw[IntKind.wrap_u64];omega
 have c3:N<=131072:=by
  have J:∀l:List (List Nat),kJ l->l.length<=l.flatten.length:=fun l=>by
   induction l with
   | nil=>intro _;simp
   | cons k l ih =>
    intro h;have J:=(h k (by simp)).2;have h2:=ih (fun x C=>h x (by simp[C]));rw[List.flatten_cons,List.length_append,List.length_cons];omega
  have h2:=J _ HG.out.2.2.2.2.1;have h3:=HG.out.2.2.2.2.2.1;have h4:=F.out;omega
 have e2:IntKind.u64.wrap (N:Int)=(N:Int):=by rw[IntKind.wrap_u64];omega
 clear bG bN be an ar aq bM bf;refine aQ.mono ?_;clear aQ;rintro e w' ⟨rfl,rfl⟩;go_wp2_with fail;refine au.mono ?_;clear au;rintro e w6 ⟨v6,rfl,bO,bP⟩;have cQ:=xw (x:=ln) (by omega);have au:=Gg v6 ([80,81] ++ [fl] ++ mM ln) N w6 bO.sl (by simp;omega) (by omega);have H6:=dh (H5.out.trans bP (fun _ _ h=>h));clear bO bP;go_wp2_with fail;refine au.mono ?_;clear au;rintro e w7 ⟨v7,rfl,bg,bQ⟩;have cr:=xw (x:=N) (by omega);have aM:=H6.out.trans bQ (fun _ _ h=>h);have c4:=H6.out.size
 have bR:CG w w2 r w.heap.size t p l (.slice pa N pc) (dY s rt) bs Rs c ln v7 0 w7:=by
  refine⟨?_,?_,(H3.out.1.mono (fun _ _ h=>h.elim)).trans (aM.mono (fun _ _ h=>h.elim)) (fun _ _ h=>h),aM.size⟩
  ·have:=H3.out.2;rw[<-F.out]at this;exact this.quiet aM (fun _ h=>h.elim)
  ·rw[<-cq.out,<-F.out];have e:tH p (((dY s rt).take 0).map c)=[]:=rfl;rw[e,List.append_nil];exact bg.mono (fun q z=>by have:=(bg.lt q z).1;omega)
 have bS:=dh bR;clear bg bQ aM bR;go_wp2_with fail;have hsz0:fC (((dY s rt).take 0).map c)=0:=rfl;go_loopg [11,12,52] N (fun q cs sv iv wr=>∃(i:Nat) (ov:Value),i<=N/\q=N - i/\ov=cs/\sv=.int .i64 (fC (((dY s rt).take i).map c):Nat)/\iv=.int .i64 i/\CG w w2 r w.heap.size t p l (.slice pa N pc) (dY s rt) bs Rs c ln ov i wr/\∀k ∈ (dY s rt).take i,gd k)
 case atStart=>exact⟨0,v7,Nat.zero_le _,by omega,rfl,by rw[hsz0];rfl,rfl,bS.out,fun k hk=>by simp at hk⟩
 case round =>
  clear hsz0 bS;obtain⟨i,ov,hi,bT,rfl,rfl,rfl,H,aR⟩:=hrel;have ct:=dh bT;have bU:=dh aR;clear bT aR;have cR:w.heap.size<w2.heap.size:=lt_of_block U.out.2.1;have y:=H.fJ.at U.out.2.1 (fun hh=>by omega);have aS:fC (((dY s rt).take i).map c)<=1000000:=by have J:=OP ((dY s rt).map c) i;rw[<-List.map_take]at J;have:=HG.out.2.2.1;omega
  by_cases bV:i<N
  ·obtain⟨k,hk⟩:∃k,(dY s rt)[i]? = some k:=⟨_,List.getElem?_eq_getElem (by rw[<-F.out];exact bV)⟩
   obtain⟨bi,I⟩:∃bi,bs[i]? = some bi:=⟨_,List.getElem?_eq_getElem (by rw[H.parts.len,<-F.out];exact bV)⟩
   obtain⟨gv,cap,ap,cu⟩:=H.parts.cell I;rw[<-F.out]at ap;simp only [Value.slice.injEq]at ap;obtain⟨rfl,-,rfl⟩:=ap;have aN:=H.parts.map i bi k (Nat.le_refl _) I hk;by_cases K:gd k
   rotate_left
   ·have bh:=(HG.out.2.1 k (List.mem_of_getElem? hk) wr bi (Rs i) aN).2 K;have c0:=dw y 0;have c1:=dw y 1;have c2:=dw y 2
    have HF:Hid (∀wc,Keeps (fun x=>x=bi\/Rs i x) wr wc->E9 w b s rt ln R (dY s rt) gd fs sz (.returned (.tuple #[.slice none 0 0,.int .i64 0,.int .i64 8])) wc):=dh (fun wc m=>by
     have ad:=(H.fJ.trans m (fun q z e=>by
      have:=H.parts.low i bi I;rcases e with e|e
      ·omega
      ·exact H.parts.x8 i bi _ I e))
     exact .inr ⟨⟨k,List.mem_of_getElem? hk,K⟩,rfl,⟨R',U.out.2.2.2.1.keeps ad (fun C=>by have:=U.out.2.2.2.1.lt;omega) (fun x C e=>by have:=U.out.2.2.2.1.old x C;omega),a7.out⟩,U.out.1.trans ad (fun x C e=>by omega)⟩)
    clear H I hk aN K y;generalize fC (((dY s rt).take i).map c)=S0 at *;unfold iL at bh;go_wp2_with fail;refine bh.mono ?_;clear bh;rintro e wc ⟨nn,rfl,m⟩;have av:=dh (HF.out wc m);clear m;go_wp2;refine bodyPost_ret (v:=.tuple #[.slice none 0 0,.int .i64 0,.int .i64 8]) (by simp[results,Tryz.results45,go_sem]) rfl ?_;exact av.out
   have bW:Hid (∀k ∈ (dY s rt).take (i+1),gd k):=dh (fun k' bX=>by
    rw[oW hk]at bX;rcases List.mem_append.1 bX with e|e
    ·exact bU.out k' e
    ·obtain rfl:=List.mem_singleton.1 e;exact K)
   have aO:=(HG.out.2.1 k (List.mem_of_getElem? hk) wr bi (Rs i) aN).1 K;clear K;have c0:=dw y 0;have c1:=dw y 1;have c2:=dw y 2;obtain⟨nb,ao⟩:∃nb,nb=(c k).1:=⟨_,rfl⟩
   obtain⟨num,M⟩:∃num,num=(c k).2:=⟨_,rfl⟩
   rw[<-ao,<-M]at aO;have cw:num<=1000000:=by rw[M];exact HG.out.2.2.2.1 k (List.mem_of_getElem? hk)
   have bj:fC (((dY s rt).take (i+1)).map c)=fC (((dY s rt).take i).map c)+nb.length:=by rw[oW hk,List.map_append,List.map_cons,List.map_nil,V7,ao]
   have cx:fC (((dY s rt).take (i+1)).map c)<=1000000:=by have J:=OP ((dY s rt).map c) (i+1);rw[<-List.map_take]at J;have:=HG.out.2.2.1;omega
   obtain⟨A,hA⟩:∃A,A=[80,81] ++ [um t p l] ++ mM ln ++ mM (dY s rt).length ++ tH p (((dY s rt).take i).map c):=⟨_,rfl⟩
   have cy:A.length<=3000000:=by have J:=JM p (((dY s rt).take i).map c) (fun q z=>by obtain⟨x,C,rfl⟩:=List.mem_map.1 z;exact HG.out.2.2.2.1 x (List.mem_of_mem_take C));have h2:=xw (x:=ln) (by omega);have h3:=xw (x:=(dY s rt).length) (by rw[<-F.out];omega);rw[List.length_map,List.length_take]at J;rw[hA];simp only [List.length_append,List.length_cons,List.length_nil];omega
   have a:=H.out;rw[<-hA]at a;have ae:=H.parts.old i bi I;have o:=dh (dn H (dn I (dn hk (dn ao (dn M (dn bj (dn hA (dn y ae.1))))))));have c5:=ae.1;have bY:=ae.2;have cz:=dh bY;clear bY;clear H I hk aN ao M bj hA y ae;generalize fC (((dY s rt).take i).map c)=S0 at *;generalize bZ:fC (((dY s rt).take (i+1)).map c)=S1 at *;have bk:=dh bZ;clear bZ;unfold iL at aO;go_wp2_with fail;refine aO.mono ?_;clear aO;rintro e wc ⟨bv,rfl,vv,hV,cA,cB,m⟩;have af:=Bh bv vv nb wc hV
   have b0:=a.keeps m (fun q z e=>by
    have:=(a.lt q z).1;rcases e with e|e
    ·omega
    ·have:=cz.out q e;omega)
   have b1:=m.size;have aT:=o.out.1.big
   have d1:wc.cell? ⟨w.heap.size,1,none⟩=some (.bool p):=dw (m.at o.out.2.2.2.2.2.2.2.1 (fun e=>by
    have:=o.out.1.parts.low i bi o.out.2.1;rcases e with e|e
    ·omega
    ·have:=o.out.1.parts.x8 i bi _ o.out.2.1 e;omega)) 1
   have ad:=(o.out.1.fJ.trans m (fun q z e=>by
    have:=o.out.1.parts.low i bi o.out.2.1;rcases e with e|e
    ·omega
    ·exact o.out.1.parts.x8 i bi _ o.out.2.1 e))
   have b3:∀W,Keeps (fun _=>False) wc W->Calls Tryz.prog 88 #[ov,.int .u64 num] W fun e w'=>∃v',e=.returned v'/\dZ r.heap.size w' v' (A ++ mM num)/\Keeps (fun _=>False) W w':=fun W hW=>by refine(Gg ov A num W (b0.keeps hW (fun _ _ h=>h)).sl (by omega) (by omega)).mono ?_;rintro e w' ⟨v',rfl,J,h2⟩;exact⟨v',rfl,J.mono (fun q z=>by have:=(J.lt q z).1;have:=hW.size;omega),h2⟩
   have aU:nb.length<=1000000:=by have:=o.out.2.2.2.2.2.1;have:=bk.out;omega
   have cC:∀W,Keeps (fun _=>False) wc W->Calls Tryz.prog 92 #[.pointer (some ⟨bv,0,none⟩),.bool p] W fun e w'=>∃v',e=.returned v'/\dZ W.heap.size w' v' (mR p nb)/\Keeps (fun _=>False) W w':=fun W hW =>
    Vl bv vv nb p W (hV.keeps hW (fun h=>h) (fun _ _ h=>h)) aU
   have b4:∀W,Keeps (fun _=>False) wc W->W.cell? ⟨w.heap.size,1,none⟩=some (.bool p):=fun W hW=>hW.oQ d1;have cD:=dh (dn b4 (dn m (dn ad (dn b1 aT))));have e3:IntKind.u64.wrap (num:Int)=(num:Int):=by rw[IntKind.wrap_u64];omega
   have bm:(A ++ mM num).length+(mR p nb).length<=10000000000:=by have J:=OO p nb;have h2:=xw (x:=num) (by omega);rw[List.length_append];omega
   have cE:S0+nb.length<=1000000:=by have:=o.out.2.2.2.2.2.1;have:=bk.out;omega
   have u:r.heap.size<=wc.heap.size:=by omega
   clear hV cA cB m a b0 aT ad b4 aU;obtain⟨nl,g⟩:∃nl,nl=nb.length:=⟨_,rfl⟩
   rw[<-g]at af cE;have cF:=dh g;clear g;go_wp2_with fail;refine af.mono ?_;clear af;rintro e w' ⟨rfl,rfl⟩;have b5:wc.drew.cell? ⟨w.heap.size,1,none⟩=some (.bool p):=d1;go_wp2_with fail
   go_region_law (first
    | (go_simp;go_at_call 88;refine(b3 _ (by first|exact(Keeps.refl _ _).drew|exact((Keeps.refl _ _).drew).trans V (fun _ _ h=>h)|exact Keeps.refl _ _)).mono ?_;rintro e w8 ⟨v8,rfl,aw,X⟩;have d8:w8.cell? ⟨w.heap.size,1,none⟩=some (.bool p):=X.oQ (by first|exact b5 | exact d9))
    | (go_simp;go_at_call 92;refine(cC _ (by first|exact(Keeps.refl _ _).drew|exact((Keeps.refl _ _).drew).trans X (fun _ _ h=>h)|exact Keeps.refl _ _)).mono ?_;rintro e w9 ⟨v9,rfl,bn,V⟩;have d9:w9.cell? ⟨w.heap.size,1,none⟩=some (.bool p):=V.oQ (by first|exact b5 | exact d8))
    | (refine Ux rfl (.tmp 73) (.tmp 77) rfl r.heap.size v8 v9 (A ++ mM num) (mR p nb) (by simp[Act.eval]) (by simp[Act.eval]) (by first|exact aw.keeps V (fun _ _ h=>h)|exact aw) (by first|exact(bn.keeps X (fun _ _ h=>h)).sl|exact bn.sl) bm (by first|exact Nat.le_trans u (Nat.le_trans X.size V.size)|exact Nat.le_trans u (Nat.le_trans V.size X.size)) ?_;intro v' b6 aV ax bo))
   all_goals
    have ag:Keeps (fun x=>r.heap.size<=x) wc b6:=by
     first
      | exact((((Keeps.refl (fun x=>r.heap.size<=x) wc).drew).trans X (fun _ _ h=>h.elim)).trans V (fun _ _ h=>h.elim)).trans ax (fun q z e=>(aw.lt q e).1)
      | exact((((Keeps.refl (fun x=>r.heap.size<=x) wc).drew).trans V (fun _ _ h=>h.elim)).trans X (fun _ _ h=>h.elim)).trans ax (fun q z e=>(aw.lt q e).1)
    have HF:Hid (CG w w2 r w.heap.size t p l (.slice (some ⟨gv,0,none⟩) N pc) (dY s rt) bs Rs c ln v' (i+1) b6):=by refine dh ?_;obtain⟨H,I,hk,ao,M,bj,hA,y,ae⟩:=o.out;obtain⟨_,m,ad,_,_⟩:=cD.out;have hs:=ag.size;have aq:=H.big;have c6:=m.size;refine⟨H.parts.next (G:=fun x=>x=bi\/Rs i x\/r.heap.size<=x) ((m.mono (fun _ _ h=>by rcases h with h|h;exact .inl h;exact .inr (.inl h))).trans (ag.mono (fun _ _ h=>.inr (.inr h))) (fun _ _ h=>h)) I (fun _ h=>h),?_,ad.trans (ag.mono (fun _ _ h=>h)) (fun q z e=>by omega),by omega⟩;rw[oW hk,List.map_append,List.map_cons,List.map_nil,V6,<-List.append_assoc,<-hA];unfold ou;rw[<-ao,<-M,<-List.append_assoc];exact aV
    clear ag aV ax bo aw X bn V d8 d9;go_wp2_with fail;go_roundg (N - (i+1))
    case measure=>rw[ct.out];omega
    case rel=>exact⟨i+1,v',by omega,rfl,rfl,by rw[bk.out,o.out.2.2.2.2.2.1,<-cF.out];rfl,by go_num,HF.out,bW.out⟩
  ·obtain rfl:i=N:=by omega
   have ay:(dY s rt).take i=dY s rt:=List.take_of_length_le (by rw[<-F.out];exact Nat.le_refl _);have aW:Hid (∀k ∈ dY s rt,gd k):=dh (by have:=bU.out;rwa [ay]at this);rw[ay]at aS;rw[ay];obtain⟨A,hA⟩:∃A,A=[80,81] ++ [um t p l] ++ mM ln ++ mM (dY s rt).length ++ tH p ((dY s rt).map c):=⟨_,rfl⟩
   have cy:A.length<=3000000:=by have J:=JM p ((dY s rt).map c) (fun q z=>by obtain⟨x,C,rfl⟩:=List.mem_map.1 z;exact HG.out.2.2.2.1 x C);have h2:=xw (x:=ln) (by omega);have h3:=xw (x:=(dY s rt).length) (by rw[<-F.out];omega);rw[List.length_map]at J;have h4:=F.out;rw[hA];simp only [List.length_append,List.length_cons,List.length_nil];omega
   have a:=H.out;rw[ay,<-hA]at a;have am:=U.out.2.2.1.keeps H.fJ (fun C=>by have:=U.out.2.2.1.1.lt;omega) (fun q z C=>by have:=(U.out.2.2.1.1.2.2 q z).2;omega);have c2:=dw y 2;have aX:=H.big;have b7:Keeps (fun x=>x=b) w wr:=U.out.1.trans H.fJ (fun x C e=>by omega);have b8:=U.out.2.2.2.1.keeps H.fJ (fun C=>by have:=U.out.2.2.2.1.lt;omega) (fun x C e=>by have:=U.out.2.2.2.1.old x C;omega);have b9:=U.out.2.2.1.1.lt;obtain⟨S0,bq⟩:∃S0,S0=fC ((dY s rt).map c):=⟨_,rfl⟩
   rw[<-bq]at aS ⊢;have o:=dh (dn hA (dn bq (dn b7 (dn b8 b9))));clear H hA bq y b7 b8 ay;have ai:∀(E:List Nat) (vF:Value) (wF:World),dZ r.heap.size wF vF E->(∀x ∈ E,x<256)->E.length<=90000000->Calls Tryz.prog 21 #[vF] wF (fun e w'=>e=.returned (.int .u32 (mO E:Nat))/\Keeps (fun _=>False) wF w'):=fun E vF wF ho ca hl=>Sv vF E wF ho.sl (fun q z=>(ho.lt q z).2) ca (by omega);cases l
   ·have f:∀x ∈ A,x<256:=by have J:=JN t p false ln ((dY s rt).map c) [];unfold oJ at J;rw[o.out.1];simpa using J
    have hO:=ai A ov wr a f (by omega);have az:=LY f;have B:fs=A ++ four (mO A):=by have:=HZ.out.1;unfold jJ oJ at this;rw[this,o.out.1];simp
    have u:sz=S0:=by have:=HZ.out.2;rw[o.out.2.1];simpa using this
    subst u;obtain⟨cv,O⟩:∃cv,cv=mO A:=⟨_,rfl⟩
    rw[<-O]at hO az B;have cG:=dh B;have Q:=dh (dn a aX);clear ai f B O a;go_wp2_with fail;refine hO.mono ?_;clear hO;rintro e aA ⟨rfl,D⟩;have Y:=L6 ov A cv aA (Q.out.1.keeps D (fun _ _ h=>h)).sl (by omega) az;have cb:=dh D;clear D;go_wp2_with fail;refine Y.mono ?_;clear Y;rintro e T ⟨br,rfl,aB,S⟩;have ah:Keeps (fun _=>False) wr T:=cb.out.trans S (fun _ _ h=>h);have ar:=cb.out.size;have HF:Hid (dZ w.heap.size T br fs/\(∃R',MapAt T b s rt ln R'/\∀x,R' x->R x\/w.heap.size<=x)/\Keeps (fun k=>k=b) w T):=by refine dh ⟨?_,⟨R',o.out.2.2.2.1.keeps ah (fun h=>h) (fun _ _ h=>h),a7.out⟩,o.out.2.2.1.trans ah (fun _ _ h=>h.elim)⟩;rw[cG.out];exact aB.mono (fun q z=>by have:=(aB.lt q z).1;omega)
    clear aB S ah;go_wp2;refine bodyPost_ret (v:=.tuple #[br,.int .i64 (sz:Nat),.int .i64 0]) (by simp[results,Tryz.results45,go_sem]) rfl ?_;exact .inl ⟨aW.out,br,rfl,HF.out⟩
   ·obtain⟨L,hL⟩:∃L,L=jR s rt:=⟨_,rfl⟩
    have g:=HG.out.2.2.2.2.2.2.1;have ab:=HG.out.2.2.2.2.2.2.2.2.2;have aC:(kU (iX s rt)).length=s.length:=by rw[MR,g]
    have aa:dO s.length (sg (iX s rt)):=HG.out.2.2.2.2.2.2.2.1;have aY:=UM bp pv (iX s rt) wr am (by rw[g];exact aa) (by omega);have cc:dO s.length (sg (kU (iX s rt))):=(Nk aa).congr (fun d hd=>Dv (by rw[g];exact hd));have ce:∀d,d<s.length->sg (kU (iX s rt)) (mt d)=mt (sg (kU (iX s rt)) d):=fun d hd=>by rw[Dv (by rw[g];exact dQ ab hd),Dv (by rw[g];exact hd)];exact JO aa ab HG.out.2.2.2.2.2.2.2.2.1 hd
    have cH:L.length<=65536 * 65:=by rw[hL];unfold jR;rw[Ci];exact Nat.mul_le_mul (by omega) (by have:=qh (s.length / 2);omega)
    have f:∀x ∈ A ++ fH L,x<256:=by have J:=JN t p true ln ((dY s rt).map c) L;unfold oJ at J;rw[o.out.1];simpa using J
    have az:=LY f;have B:fs=(A ++ fH L) ++ four (mO (A ++ fH L)):=by have:=HZ.out.1;unfold jJ oJ at this;rw[this,o.out.1,hL];simp
    have u:sz=S0+L.length:=by have:=HZ.out.2;rw[o.out.2.1,hL];simpa using this
    have c7:(fH L).length<=600000:=by rw[yJ];omega
    obtain⟨Ll,bt⟩:∃Ll,Ll=L.length:=⟨_,rfl⟩
    obtain⟨cv,O⟩:∃cv,cv=mO (A ++ fH L):=⟨_,rfl⟩
    rw[<-O]at az B;rw[<-bt]at u cH;have n:=dh (dn bt (dn hL (dn g (dn ab (dn aC (dn cc (dn ce (dn O (dn u B)))))))));have Q:=dh (dn a (dn aX (dn f am)));clear B O a f am hL g ab aC aa cc ce bt u;go_wp2_with fail;refine aY.mono ?_;clear aY;rintro e aA ⟨cI,cf,rfl,aZ,cg,ch,D⟩;have aj:=VZ cI cf (kU (iX s rt)) aA aZ.1 (by rw[n.out.2.2.2.2.1];exact n.out.2.2.2.2.2.1) (by rw[n.out.2.2.2.2.1];exact n.out.2.2.2.1) (by rw[n.out.2.2.2.2.1];omega) (by rw[n.out.2.2.2.2.1];exact n.out.2.2.2.2.2.2.1);rw[n.out.2.2.2.2.1]at aj;have eL:lK (s.length / 2) (fun e=>sg (kU (iX s rt)) (2 * e)) (s.length / 2)=L:=n.out.2.1.symm;rw[eL]at aj;have a0:Hid (dZ r.heap.size aA ov A/\Keeps (fun x=>x=bp) wr aA):=dh ⟨Q.out.1.keeps D (fun q z e=>by have:=(Q.out.1.lt q z).1;have:=o.out.2.2.2.2;omega),D⟩;clear aZ cg ch D eL;go_wp2_with fail;refine aj.mono ?_;clear aj;rintro e T ⟨bl,rfl,lv,hV,ae,cJ,S⟩;have af:=Bh bl lv L T hV;rw[<-n.out.1]at af;have ci:=IK bl lv L T hV (by rw[<-n.out.1];omega);have aD:Hid (dZ r.heap.size T ov A/\Keeps (fun x=>x=bp) wr T):=dh ⟨a0.out.1.keeps S (fun _ _ h=>h),a0.out.2.trans S (fun _ _ h=>h.elim)⟩;clear hV ae cJ S;go_wp2_with fail;refine af.mono ?_;clear af;rintro e w' ⟨rfl,rfl⟩;go_wp2_with fail;refine ci.mono ?_;clear ci;rintro e cK ⟨cL,rfl,a1,ak⟩;have bu:=aD.out.1.keeps ak (fun _ _ h=>h);have a2:r.heap.size<=cK.heap.size:=by have:=aD.out.2.size;have:=ak.size;omega
    have aE:=a1.sl;have cj:=dh (aD.out.2.trans ak (fun _ _ h=>h.elim));have al:A.length+(fH L).length<=10000000000:=by omega
    clear a1 ak;go_wp2_with (at_builtin;refine Hu rfl _ _ rfl r.heap.size ov cL A (fH L) rfl rfl bu aE al a2 ?_;intro vF wF bw ag ck)
    have hO:=ai (A ++ fH L) vF wF bw Q.out.2.2.1 (by rw[List.length_append];omega);rw[<-n.out.2.2.2.2.2.2.2.1]at hO;have av:Hid (dZ r.heap.size wF vF (A ++ fH L)/\Keeps (fun x=>x=bp\/r.heap.size<=x) wr wF):=dh ⟨bw,(cj.out.mono (fun _ _ h=>.inl h)).trans (ag.mono (fun q _ e=>.inr (bu.lt q e).1)) (fun _ _ h=>h)⟩;clear bu aE a2 al bw ag ck ai;go_wp2_with fail;refine hO.mono ?_;clear hO;rintro e cM ⟨rfl,aF⟩;have Y:=L6 vF (A ++ fH L) cv cM (av.out.1.keeps aF (fun _ _ h=>h)).sl (by rw[List.length_append];omega) az;have cl:=dh aF;clear aF;go_wp2_with fail;refine Y.mono ?_;clear Y;rintro e aP ⟨bx,rfl,aG,a3⟩;have ah:Keeps (fun x=>x=bp\/r.heap.size<=x) wr aP:=av.out.2.trans (cl.out.trans a3 (fun _ _ h=>h)) (fun _ _ h=>h.elim);have ar:=av.out.2.size;have aq:=cl.out.size
    have HF:Hid (dZ w.heap.size aP bx fs/\(∃R',MapAt aP b s rt ln R'/\∀x,R' x->R x\/w.heap.size<=x)/\Keeps (fun k=>k=b) w aP):=by
     have h3:=U.out.2.2.2.2
     refine dh ⟨?_,⟨R',o.out.2.2.2.1.keeps ah (fun C=>by rcases C with e|e;exact h3.1.1 e;omega) (fun x C hg=>by
      rcases hg with e|e
      ·subst e;exact h3.1.2 C
      ·have:=U.out.2.2.2.1.old x C;omega),a7.out⟩,o.out.2.2.1.trans ah (fun x C hg=>by
      rcases hg with e|e
      ·have:=h3.2;omega
      ·omega)⟩
     rw[n.out.2.2.2.2.2.2.2.2.2];exact aG.mono (fun q z=>by have:=(aG.lt q z).1;have:=Q.out.2.1;omega)
    have cN:=n.out.2.2.2.2.2.2.2.2.1;subst cN;clear aG a3 ah;go_wp2;refine bodyPost_ret (v:=.tuple #[bx,.int .i64 ((S0+Ll:Nat):Int),.int .i64 0]) (by simp[results,Tryz.results45,go_sem]) rfl ?_;exact .inl ⟨aW.out,bx,rfl,HF.out⟩
theorem Wi{w:World}{b:Nat}{s:List Nat}{rt:Int}{ln:Nat}{R:Nat->Prop}(t p l:Bool)(h:MapAt w b s rt ln R)(d:fV (jN s ln)=0)(a:List Nat->List Bool × Nat)(f:AY t p l a (dY s rt))(g:fC ((dY s rt).map a)<=1000000)(j:∀k ∈ dY s rt,(a k).2<=1000000) :
  Calls Tryz.prog 45 #[.pointer (some ⟨b,0,none⟩),iL t p l] w (x9 w b s rt ln R (jJ t p l ln ((dY s rt).map a) (jR s rt)) (fC ((dY s rt).map a)+if l then (jR s rt).length else 0)) :=
 (OQ t p l h d (fun _=>True) a (fun k c W m n o=>⟨fun _=>f k c W m n o,fun e=>absurd trivial e⟩) g j).mono (fun e w' h=>by
  rcases h with h|⟨⟨k,c,e⟩,-⟩
  ·exact h.2
  ·exact absurd trivial e)
theorem Wj{w:World}{b:Nat}{s:List Nat}{rt:Int}{ln:Nat}{R:Nat->Prop}(t p l:Bool)(h:MapAt w b s rt ln R)(c:fV (jN s ln)=0)(a:List Nat->List Bool × Nat)(d:p8 t p l a (dY s rt))(e:fC ((dY s rt).map a)<=1000000)(f:∀k ∈ dY s rt,(a k).2<=1000000) :
  Calls Tryz.prog 45 #[.pointer (some ⟨b,0,none⟩),iL t p l] w (x9 w b s rt ln R (jJ t p l ln ((dY s rt).map a) (jR s rt)) (fC ((dY s rt).map a)+if l then (jR s rt).length else 0)) :=
 Wi t p l h c a d.AZ e f
