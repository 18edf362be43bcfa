import Derived.Test.YtalhcfjcbbkpgaaGreatZp1g
set_option maxRecDepth 100000
set_option maxHeartbeats 4000000
namespace Go.Proofs.YtalhcfjcbbkpgaaGreat
open Go.RowKit
theorem BoolsIn.keeps{w w':World}{a:Option Addr}{len cap:Nat}(h:BoolsIn w a len cap)(k:Keeps (fun _=>False) w w'):BoolsIn w' a len cap:=by
 rcases h with h|⟨x,B,rfl,d,e,b⟩
 ·exact .inl h
 ·exact .inr ⟨x,B,rfl,d,e,fun i c=>(World.cell?_of_block (k.block _ (World.block_lt_of_cell? _ _ (b i c)) (fun h=>h))).trans (b i c)⟩
theorem XR(t p l:Bool)(s:List Nat)(rt:Int)(ln:Nat):∀x ∈ jS t p l s rt ln,x<256:=fun x a=>by
 unfold jS at a;split at a
 ·unfold jJ at a;rcases List.mem_append.1 a with h|h
  ·exact JN _ _ _ _ _ _ x h
  ·exact Sm _ x h
 ·cases a
theorem Fz(o:Nat)(f:o<256):∃(a b c d e:Nat) (t p:Bool),bits .and .u8 (o:Int) 3=(a:Int)/\bits .and .u8 (a:Int) 1=(c:Int)/\bits .and .u8 (a:Int) 2=(d:Int)/\bits .and .u8 (a:Int) 4=0/\bits .or .u8 (a:Int) 4=(b:Int)/\bits .and .u8 (b:Int) 1=(c:Int)/\bits .and .u8 (b:Int) 2=(d:Int)/\bits .and .u8 (b:Int) 4=(e:Int)/\decide (0<c)=t/\decide (0<d)=p/\decide (0<e)=true:=by
 have h:∀o:Fin 256,bits .and .u8 ((o.val:Nat):Int) 3=((o.val % 4:Nat):Int)/\bits .and .u8 ((o.val % 4:Nat):Int) 1=((o.val % 2:Nat):Int)/\bits .and .u8 ((o.val % 4:Nat):Int) 2=((o.val / 2 % 2 * 2:Nat):Int)/\bits .and .u8 ((o.val % 4:Nat):Int) 4=0 /\
   bits .or .u8 ((o.val % 4:Nat):Int) 4=((o.val % 4+4:Nat):Int)/\bits .and .u8 ((o.val % 4+4:Nat):Int) 1=((o.val % 2:Nat):Int)/\bits .and .u8 ((o.val % 4+4:Nat):Int) 2=((o.val / 2 % 2 * 2:Nat):Int)/\bits .and .u8 ((o.val % 4+4:Nat):Int) 4=((4:Nat):Int):=by decide +kernel
 obtain⟨g,i,j,k,l,m,n,q⟩:=h ⟨o,f⟩;exact⟨_,_,_,_,_,_,_,g,i,j,k,l,m,n,q,rfl,rfl,rfl⟩
theorem XT{s:List Nat}{f:Nat->Nat}{rt a:Int}(l:dO s.length (sg s))(n:s.length % 2=0)(A:s.length<=42)(m:dO s.length f)(v:∀d,f (mt d)=mt (f d))(o:mV s)(i:(s.length=0/\rt=-1)\/∃r:Nat,rt=r/\r<s.length)(g:(s.length=0/\a=rt)\/(0<s.length/\a=(f rt.toNat:Nat)))(u p:Bool) :
  dO (jL s f).length (sg (jL s f))/\((jL s f).length=0/\a=-1\/∃r:Nat,a=r/\r<(jL s f).length)/\j4 u (jL s f) a 0=j4 u s rt 0/\jS u p false (jL s f) a 0=jS u p false s rt 0 /\
   (j4 u s rt 0=0->decide (jS u p true s rt 0=jS u p true (jL s f) a 0)=decide (s=jL s f/\rt=a)):=by
 have q:=XO (s:=s) m v;have w:=XP l m;have e:dO (jL s f).length (sg (jL s f)):=by rw[Bg];exact w
 have hr:(s.length=0/\rt=-1/\a=-1)\/∃r:Nat,r<s.length/\rt=r/\a=(f r:Nat):=by
  rcases i with⟨b,c⟩|⟨r,rfl,c⟩
  ·rcases g with⟨-,j⟩|⟨j,-⟩
   ·exact .inl ⟨b,c,j.trans c⟩
   ·omega
  ·rcases g with⟨j,-⟩|⟨-,j⟩
   ·omega
   ·exact .inr ⟨r,c,rfl,by simpa using j⟩
 obtain⟨t,x⟩:=XG l n e q o hr u p;refine⟨e,?_,t,x,fun b=>?_⟩
 ·rw[Bg];rcases hr with⟨b,-,c⟩|⟨r,b,-,c⟩
  ·exact .inl ⟨b,c⟩
  ·exact .inr ⟨f r,c,m.lt r b⟩
 ·have y:(s.length=0/\rt=-1)\/(0<=rt/\rt<s.length):=by
   rcases i with h|⟨r,rfl,h⟩
   ·exact .inl h
   ·exact .inr ⟨by omega,by omega⟩
  have z:((jL s f).length=0/\a=-1)\/(0<=a/\a<(jL s f).length):=by
   rw[Bg];rcases hr with⟨b,-,c⟩|⟨r,b,-,rfl⟩
   ·exact .inl ⟨b,c⟩
   ·have:=m.lt r b;exact .inr ⟨by omega,by omega⟩
  by_cases h:jS u p true s rt 0=jS u p true (jL s f) a 0
  ·have:=XJ l n e (Bg s f) (by omega) y z b (t.trans b) (Pv l n e q o hr).1 h;rw[decide_eq_true h,decide_eq_true this]
  ·rw[decide_eq_false h,decide_eq_false (fun k=>h (by rw[<-k.1,<-k.2]))]
def lY(w:World)(b c:Nat)(s t:List Nat)(rt a:Int)(W:World):Prop :=
 Keeps (fun _=>False) w W/\w.heap.size<=b/\w.heap.size<=c/\b≠c/\∃R Q,MapAt W b s rt ((0:Nat):Int) R/\MapAt W c t a ((0:Nat):Int) Q/\¬R c/\¬Q b
theorem lY.swap{w:World}{b c:Nat}{s t:List Nat}{rt a:Int}{W:World}(h:lY w b c s t rt a W):lY w c b t s a rt W:=by obtain⟨k,d,f,g,R,Q,i,j,l,m⟩:=h;exact⟨k,f,d,fun e=>g e.symm,Q,R,j,i,m,l⟩
theorem lY.still{w:World}{b c:Nat}{s t:List Nat}{rt a:Int}{W e:World}(h:lY w b c s t rt a W)(d:Keeps (fun _=>False) W e):lY w b c s t rt a e:=by obtain⟨k,f,g,i,R,Q,j,l,m,n⟩:=h;exact⟨k.trans d (fun _ _ h=>h),f,g,i,R,Q,j.keeps d (fun h=>h) (fun _ _ h=>h),l.keeps d (fun h=>h) (fun _ _ h=>h),m,n⟩
theorem lY.enc{w:World}{b c:Nat}{s t:List Nat}{rt a:Int}{W:World}(u p l:Bool)(h:lY w b c s t rt a W) :
  Calls Tryz.prog 12 #[.pointer (some ⟨b,0,none⟩),iL u p l] W fun e w'=>∃v,e=.returned (.tuple #[v,.int .i64 (j4 u s rt 0:Nat)])/\dZ W.heap.size w' v (jS u p l s rt 0)/\lY w b c s t rt a w'/\Keeps (fun k=>k=b\/k=c) W w':=by
 obtain⟨k,o,q,i,R,Q,r,j,y,m⟩:=h;refine(XD u p l r).mono ?_;rintro e w' ⟨v,z,A,⟨B,d,f⟩,g⟩;have C:=j.lt;exact⟨v,z,A,⟨k.trans g (fun x n e=>by omega),o,q,i,B,Q,d,j.keeps g (fun e=>i e.symm) (fun x n e=>m (e ▸ n)),fun h=>(f c h).elim y (fun h=>by omega),m⟩,g.mono (fun _ _ h=>.inl h)⟩
theorem lY.Py{w:World}{b c:Nat}{s t:List Nat}{rt a:Int}{W:World}(h:lY w b c s t rt a W):b<W.heap.size/\c<W.heap.size:=by obtain⟨k,f,g,i,R,Q,d,e,j,l⟩:=h;exact⟨d.lt,e.lt⟩
theorem lY.same{w:World}{b c:Nat}{s t:List Nat}{rt a:Int}{W:World}(h:lY w b c s t rt a W)(o:t.length=s.length)(m:s.length<=100000)(g:(s.length=0/\rt=-1)\/∃r:Nat,rt=r/\r<s.length)(f:(t.length=0/\a=-1)\/∃r:Nat,a=r/\r<t.length) :
  Calls Tryz.prog 26 #[.pointer (some ⟨b,0,none⟩),.pointer (some ⟨c,0,none⟩)] W fun e w'=>e=.returned (.bool (decide (s=t/\rt=a)))/\Keeps (fun _=>False) W w':=by
 obtain⟨k,p,q,u,R,Q,i,j,v,x⟩:=h;rcases g with⟨l,rfl⟩|⟨r,rfl,l⟩
 ·rcases f with⟨d,rfl⟩|⟨n,rfl,d⟩
  ·obtain rfl:=List.eq_nil_of_length_eq_zero l;obtain rfl:=List.eq_nil_of_length_eq_zero d;refine(TK i j (by omega)).mono ?_;rintro e w' ⟨rfl,h⟩;exact⟨by simp,h⟩
  ·omega
 ·rcases f with⟨d,rfl⟩|⟨n,rfl,d⟩
  ·omega
  ·refine(Xj i j m (by omega)).mono ?_;rintro e w' ⟨rfl,h⟩;refine⟨?_,h⟩;congr 3;exact propext ⟨fun h=>⟨h.1,by rw[h.2]⟩,fun h=>⟨h.1,by omega⟩⟩
theorem walkFileOnce(v0:Value)(a1:Option Addr)(C D:Nat)(z1:List Int)(a2:Option Addr)(E F:Nat)(a3:Int)(w:World)(w0:SomeV w v0)(w1:RowIn .u8 w a1 C D z1)(w2:BoolsIn w a2 E F)(w3:(Lit.int .u8 a3).wf=true) :
  Calls Tryz.prog 5 #[v0,.slice a1 C D,.slice a2 E F,.int .u8 a3] w fun e w'=>e=.returned (.bool true)/\Below w.heap.size w w':=by
 have bd:∀(x:Bool) (w:World),(Op.unary .not (.bool x)).run Tryz.prog w=.ok (.bool (!x)) w:=fun _ _=>rfl;obtain⟨o,rfl,ho⟩:=u8_in w3;obtain⟨ns,aB,aC⟩:=RowIn.bytes w1;obtain⟨k,m,r,bv,ps,rfl,hk,hm,hr,ah,aD⟩:=w0;obtain⟨o3,o7,x1,x2,x4,t,p,q3,q1,q2,q4,q7,y1,y2,y4,t1,t2,t4⟩:=Fz o ho;have ai:=dh (fun W=>O3 o3 x1 x2 0 t p false W q1 q2 q4 t1 t2 rfl);have aj:=dh (fun W=>O3 o7 x1 x2 x4 t p true W y1 y2 y4 t1 t2 t4);have HI:=dh (dn aB (dn aC w2));obtain⟨ba,bc,rfl,-,-⟩:=ah.form;rw[q01]at *;generalize aW:ps.length=bl at *;obtain⟨W0,P⟩:∃W0,W0=w.alloc (.cells #[.int .u8 (k:Int),.int .u8 (m:Int),.slice ba bl bc,.int .u8 (r:Int)] 45):=⟨_,rfl⟩
 have k0:Keeps (fun _=>False) w W0:=by rw[P];exact(Keeps.refl _ w).alloc _
 have b0:W0.heap[w.heap.size]? = some (.cells #[.int .u8 (k:Int),.int .u8 (m:Int),.slice ba bl bc,.int .u8 (r:Int)] 45 (0,0)):=by rw[P];exact heap_alloc_new w _
 have H0:=dh (dn k0 (dn b0 (dn ah aD)));obtain⟨u,aX⟩:∃u,u=k % 5:=⟨_,rfl⟩
 have c1:(k:Int).tmod 5=(u:Int):=by rw[Int.tmod_eq_emod_of_nonneg (by omega)];omega
 have c2:(k:Int) % 5=(u:Int):=by omega
 have aY:u<5:=by omega
 clear q1 q2 q4 y1 y2 y4 t1 t2 t4 k0 b0 ah aD w1 w2 w3 aW aX aB aC;go_enter Tryz.func5,Tryz.ntmps5;go_wp2_with fail;rw[<-P];clear P;refine(Xe _).mono ?_;rintro e w1 ⟨rfl,ak⟩;have b1:=ak.at H0.out.2.1 (fun h=>h);have q0:=dw b1 0;have f0:=dx b1 0;have kd:=(Keeps.refl (fun q=>q=w.heap.size) w1).setCell (p:=⟨w.heap.size,0,none⟩) (.inl rfl) (.int .u8 (u:Int));have y:=jM b1 0 (.int .u8 (u:Int));have z:=(H0.out.1.trans ak (fun _ _ h=>h)).trans kd (fun x hx e=>by omega);have p0:=dw y 0;have p1:=dw y 1;have p2:=dw y 2;have p3:=dw y 3;have HB:=dh (dn y z);clear b1 y z kd ak;go_upto_region 4 with fail;obtain⟨n,aE⟩:∃n,n=w1.setCell ⟨w.heap.size,0,none⟩ (.int .u8 (u:Int)):=⟨_,rfl⟩
 rw[<-aE]at p0 p1 p2 p3 HB ⊢;replace p0:n.cell? ⟨w.heap.size,0,none⟩=some (.int .u8 (u:Int)):=p0;replace p1:n.cell? ⟨w.heap.size,1,none⟩=some (.int .u8 (m:Int)):=p1;replace p2:n.cell? ⟨w.heap.size,2,none⟩=some (.slice ba bl bc):=p2;replace p3:n.cell? ⟨w.heap.size,3,none⟩=some (.int .u8 (r:Int)):=p3;clear aE q0 f0 c1 c2;obtain⟨W2,G⟩:∃W2,W2=n.alloc (.cells #[.int .u8 (u:Int),.int .u8 (m:Int),.slice ba bl bc,.int .u8 (r:Int)] 45):=⟨_,rfl⟩
 have k2:Keeps (fun _=>False) n W2:=by rw[G];exact(Keeps.refl _ n).alloc _
 have y:W2.heap[n.heap.size]? = some (.cells #[.int .u8 (u:Int),.int .u8 (m:Int),.slice ba bl bc,.int .u8 (r:Int)] 45 (0,0)):=by rw[G];exact heap_alloc_new n _
 have z:=HB.out.2.trans k2 (fun _ _ h=>h)
 have hS:OE True W2 (some ⟨n.heap.size,0,none⟩) 1:=fun j hj=>by
  obtain rfl:j=0:=by omega
  exact⟨n.heap.size,0,u,m,r,_,ps,rfl,lt_of_block y,dw y 0,dw y 1,dw y 2,dw y 3,by omega,hm,hr,H0.out.2.2.1.keeps z (fun _ _ h=>h),H0.out.2.2.2,fun _=>by omega⟩
 have aF:Calls Tryz.prog 11 #[.slice (some ⟨n.heap.size,0,none⟩) 1 1,.int .u8 0,.int .u8 r] W2 (AV True W2 0 1):=VK True (some ⟨n.heap.size,0,none⟩) 1 1 0 r W2 hS (by decide) hr;have HK:=dh z;have aZ:(n.alloc (.cells #[.int .u8 (u:Int),.int .u8 (m:Int),.slice ba bl bc,.int .u8 (r:Int)] 45)).cell? ⟨w.heap.size,3,none⟩=some (.int .u8 (r:Int)):=by rw[<-G];exact dw (k2.at HB.out.1 (fun h=>h)) 3
 clear k2 y z hS H0 HB aY;go_wp2_with fail;rw[<-G];refine aF.mono ?_;clear aF aZ p0 p1 p2 p3 G;rintro e w2 ⟨b,sv,s,rt,rfl,d,A,⟨R,hM,hR,hb⟩,hO,aG,Q⟩;replace Q:=Q trivial rfl;obtain⟨sa,sc,rfl,-,-⟩:=hO.form;rw[q01]at *;have aH:s.length<=42:=by have:=d.le;omega
 unfold fI;go_upto_region 5 with fail;obtain⟨W3,S⟩:∃W3,W3=w2.alloc (.cells #[.slice sa s.length sc,.int .i64 rt,.int .i64 0] 27):=⟨_,rfl⟩
 have T:Keeps (fun _=>False) w2 W3:=by rw[S];exact(Keeps.refl _ w2).alloc _
 have U:W3.heap[w2.heap.size]? = some (.cells #[.slice sa s.length sc,.int .i64 rt,.int .i64 0] 27 (0,0)):=by rw[S];exact heap_alloc_new w2 _
 have H:=(HK.out.trans aG (fun _ _ h=>h)).trans T (fun _ _ h=>h);have aI:=hM.keeps T (fun h=>h) (fun _ _ h=>h);have aJ:=XQ (.slice sa s.length sc) rt 0 s (.slice a1 C D) ns a2 E F W3 (hO.keeps T (fun _ _ h=>h)).sl d.dR d.even (by omega) A (HI.out.1.keeps H (fun _ _ h=>h)) HI.out.2.1 (HI.out.2.2.keeps H);have aK:w.heap.size<=b:=by have:=HK.out.size;omega
 have a0:w.heap.size<=W3.heap.size:=H.size;have d0:=dw U 0;have d1:=dw U 1;have d2:=dw U 2;have H3:=dh (dn H (dn aI (dn d (dn Q A))));rw[<-S];clear S T U hM hR hb hO aG HK d Q A HI H aI;go_wp2_with fail;refine aJ.mono ?_;clear aJ d0 d1 d2;rintro e w4 ⟨ov,lv,f,a,rfl,hf,aL,ad,V,aM⟩;obtain⟨oa,oc,rfl,-,-⟩:=V.form;rw[q01,Bg]at *;unfold fI;go_upto_region 6 with fail;obtain⟨W5,X⟩:∃W5,W5=w4.alloc (.cells #[.slice oa s.length oc,.int .i64 a,.int .i64 0] 27):=⟨_,rfl⟩
 have al:Keeps (fun _=>False) w4 W5:=by rw[X];exact(Keeps.refl _ w4).alloc _
 have I:W5.heap[w4.heap.size]? = some (.cells #[.slice oa s.length oc,.int .i64 a,.int .i64 0] 27 (0,0)):=by rw[X];exact heap_alloc_new w4 _
 have am:=aM.trans al (fun _ _ h=>h);have aN:=H3.out.2.1.keeps am (fun h=>h) (fun _ _ h=>h);have aO:=H3.out.1.trans am (fun _ _ h=>h);have d:=H3.out.2.2.1;obtain⟨an,Y,ao,ap,J⟩:=XT d.dR d.even aH hf aL H3.out.2.2.2.1 H3.out.2.2.2.2 ad t p;obtain⟨s2,aq⟩:∃s2,s2=jL s f:=⟨_,rfl⟩
 have aP:s2.length=s.length:=by rw[aq,Bg]
 rw[<-aq]at an Y ao ap J V;have aQ:Calls Tryz.prog 25 #[.slice oa s.length oc,.int .i64 a,.int .i64 0] W5 (jC W5 s2 a ((0:Nat):Int)):=EJ (ln:=0) (V.keeps al (fun _ _ h=>h)).sl an (by rw[aP];exact d.even) (by omega) (by decide) Y;have d0:=dw I 0;have d1:=dw I 1;have d2:=dw I 2;have A:=H3.out.2.2.2.2;have H5:=dh (dn aO aN);have HL:=dh (dn ao (dn ap (dn J (dn Y A))));rw[<-X];clear X al I am aN aO d an Y ao ap J aq A H3 ad hf aL aM V;go_wp2_with fail;refine aQ.mono ?_;clear aQ d0 d1 d2;rintro e w6 ⟨c,rfl,aR,a4,ar⟩;have h6:lY w b c s s2 rt a w6:=by have a5:=H5.out.2.keeps ar (fun h=>h) (fun _ _ h=>h);have I:=H5.out.2.lt;have be:=H5.out.1.size;exact⟨H5.out.1.trans ar (fun _ _ h=>h),aK,by omega,by omega,_,_,a5,aR,fun h=>by have:=H5.out.2.old _ h;omega,fun h=>by omega⟩
 clear H5 aR a4 ar aK a0;have HT:=dh h6;clear h6;obtain⟨g,hg⟩:∃g,g=j4 t s rt 0:=⟨_,rfl⟩
 obtain⟨fs,aS⟩:∃fs,fs=jS t p false s rt 0:=⟨_,rfl⟩
 have HC:=dh (dn hg aS);have E1:Hid (∀l W,lY w b c s s2 rt a W->Calls Tryz.prog 12 #[.pointer (some ⟨b,0,none⟩),iL t p l] W fun e w'=>∃v,e=.returned (.tuple #[v,.int .i64 (g:Nat)])/\dZ W.heap.size w' v (jS t p l s rt 0)/\lY w b c s s2 rt a w'/\Keeps (fun k=>k=b\/k=c) W w'):=dh (fun l W h=>by rw[hg];exact h.enc t p l);have E2:Hid (∀l W,lY w b c s s2 rt a W->Calls Tryz.prog 12 #[.pointer (some ⟨c,0,none⟩),iL t p l] W fun e w'=>∃v,e=.returned (.tuple #[v,.int .i64 (g:Nat)])/\dZ W.heap.size w' v (jS t p l s2 a 0)/\lY w b c s s2 rt a w'/\Keeps (fun k=>k=b\/k=c) W w'):=dh (fun l W h=>by rw[hg,<-HL.out.1];refine(h.swap.enc t p l).mono ?_;rintro e w' ⟨v,h1,h2,h3,h4⟩;exact⟨v,h1,h2,h3.swap,h4.mono (fun _ _ h=>h.symm)⟩);clear hg aS;go_upto_region 7 with fail;unfold iL at ai aj E1 E2;go_wp2_with fail;refine(ai.out _).mono ?_;rintro e w7 ⟨rfl,aT⟩;have H7:=dh (HT.out.still aT);clear HT aT;go_wp2_with fail;refine(E1.out _ _ H7.out).mono ?_;rintro e w8 ⟨v1,rfl,au,K,-⟩;obtain⟨va,vc,rfl,-,-⟩:=au.form;have H8:=dh (dn K (dn au H7.out.Py));clear H7 K au;go_upto_region 8 with fail;go_wp2_with fail;refine(ai.out _).mono ?_;rintro e w9 ⟨rfl,av⟩;have H9:=dh (dn (H8.out.1.still av) (dn (H8.out.2.1.keeps av (fun _ _ h=>h)) H8.out.2.2));clear H8 av;go_wp2_with fail;refine(E2.out _ _ H9.out.1).mono ?_;rintro e a6 ⟨v2,rfl,Z,K,ae⟩;rw[HL.out.2.1]at Z;obtain⟨vb,vd,rfl,-,-⟩:=Z.form;have aa:=dh (dn K (dn (H9.out.2.1.keeps ae (fun q hq e=>by have h1:=(H9.out.2.1.lt q hq).1;have h2:=H9.out.2.2;omega)) Z));clear H9 K Z ae;have bf:((g:Int) != (g:Int))=false:=bne_self_eq_false _;have bg:((g:Int) == (g:Int))=true:=beq_self_eq_true _;have L:∀l (s:List Nat) rt,∀x ∈ jS t p l s rt 0,x<256:=fun l s rt=>XR t p l s rt 0;have i:=Ir _ _ _ _ a6 aa.out.2.1.sl aa.out.2.2.sl (L _ _ _) (L _ _ _);rw[decide_eq_true rfl]at i;go_upto_region 9 with fail;go_wp2_with fail;refine i.mono ?_;clear i;rintro e a7 ⟨rfl,rfl⟩;go_upto_region 11 with fail;go_wp2_with fail;refine(aj.out _).mono ?_;rintro e a7 ⟨rfl,af⟩;have aw:=dh (aa.out.1.still af);clear aa af;go_wp2_with fail;refine(E1.out _ _ aw.out).mono ?_;rintro e bh ⟨v3,rfl,ax,K,-⟩;obtain⟨vg,vh,rfl,-,-⟩:=ax.form;have ab:=dh (dn K (dn ax aw.out.Py));clear aw K ax;go_upto_region 12 with fail;go_wp2_with fail;refine(aj.out _).mono ?_;rintro e bi ⟨rfl,M⟩;have N:=dh (dn (ab.out.1.still M) (dn (ab.out.2.1.keeps M (fun _ _ h=>h)) ab.out.2.2));clear ab M;go_wp2_with fail;refine(E2.out _ _ N.out.1).mono ?_;rintro e aU ⟨v4,rfl,ay,K,ag⟩;obtain⟨vi,vj,rfl,-,-⟩:=ay.form;have O:=dh (dn K (dn (N.out.2.1.keeps ag (fun q hq e=>by have h1:=(N.out.2.1.lt q hq).1;have h2:=N.out.2.2;omega)) ay));clear N K ay ag;have i:=Ir _ _ _ _ aU O.out.2.1.sl O.out.2.2.sl (L _ _ _) (L _ _ _);have az:=O.out.1.same aP (by omega) HL.out.2.2.2.2 HL.out.2.2.2.1;have HF:Hid (∀W,Keeps (fun _=>False) aU W->Below w.heap.size w W):=dh (fun W hk=>(O.out.1.1.trans hk (fun _ _ h=>h.elim)).below (fun _ _ h=>h));clear O L;by_cases aA:g=0
 ·have a8:((g:Int) != 0)=false:=by rw[aA];rfl
  rw[HL.out.2.2.1 (HC.out.1.symm.trans aA)]at i;obtain⟨B,hB⟩:∃B,B=decide (s=s2/\rt=a):=⟨_,rfl⟩
  rw[<-hB]at i az;clear hB aA;have bj:(B == B)=true:=beq_self_eq_true _;go_upto_region 13 with fail;go_wp2_with fail;refine i.mono ?_;clear i;rintro e a9 ⟨rfl,rfl⟩;go_wp2_with fail;refine az.mono ?_;clear az;rintro e a9 ⟨rfl,aV⟩;go_wp2;go_ret;exact⟨by simp,HF.out _ aV⟩
 ·have a8:((g:Int) != 0)=true:=by rw[bne_iff_ne];omega
  go_upto_region 13 with fail
  go_wp2;go_ret
  exact⟨rfl,HF.out _ (Keeps.refl _ _)⟩
