import Derived.Test.YtalhcfjcbbkpgaaGreatZp0w
import Derived.Test.YtalhcfjcbbkpgaaGreatZp0x
set_option maxRecDepth 100000
set_option maxHeartbeats 4000000
namespace Go.Proofs.YtalhcfjcbbkpgaaGreat
open Go.RowKit
def OE(A:Prop)(w:World)(a:Option Addr)(n:Nat):Prop :=
 ∀j,j<n->∃(g off k m r:Nat) (c:Value) (ps:List Nat),a=some ⟨g,off,none⟩/\g<w.heap.size/\w.cell? ⟨g,off+j * 4,none⟩=some (.int .u8 k)/\w.cell? ⟨g,off+j * 4+1,none⟩=some (.int .u8 m)/\w.cell? ⟨g,off+j * 4+2,none⟩=some c/\w.cell? ⟨g,off+j * 4+3,none⟩=some (.int .u8 r) /\
  k<256/\m<256/\r<256/\Sl .u8 w c (dD ps)/\(∀b ∈ ps,b<256)/\(A->k % 6<5)
def mV(s:List Nat):Prop:=∀x y,x<s.length->y<s.length->dI s.length (sg s) x y
structure vk (s:List Nat)(m:Nat):Prop where
 dR:dO s.length (sg s)
 even:s.length % 2=0
 le:s.length<=m
def NewAt(B:Nat)(s:List Nat)(rt ln:Int)(b:Nat)(W:World):Prop:=∃R,MapAt W b s rt ln R/\(∀x,R x->B<=x)/\B<=b
def AV(A:Prop)(w:World)(ln n:Nat)(e:Ending)(w':World):Prop :=
 ∃(b:Nat) (sv:Value) (s:List Nat) (rt:Int),e=.returned (.tuple #[.pointer (some ⟨b,0,none⟩),fI sv rt ln])/\vk s (42 * min n 3)/\((s.length=0/\rt=-1)\/∃r:Nat,rt=r/\r<s.length) /\
  NewAt w.heap.size s rt ln b w'/\dH w.heap.size w' sv (dD s)/\Keeps (fun _=>False) w w'/\(A->n=1->mV s)
theorem VK(A:Prop)(la:Option Addr)(n cap lone root:Nat)(w:World)(hS:OE A w la n)(bj:lone<256)(bk:root<256) :
  Calls Tryz.prog 11 #[.slice la n cap,.int .u8 lone,.int .u8 root] w (AV A w (lone % 4) n):=by
 obtain⟨ln,aL⟩:∃ln,ln=lone % 4:=⟨_,rfl⟩
 have bQ:ln<4:=by rw[aL];exact Nat.mod_lt _ (by decide)
 have e1:(lone:Int).tmod 4=(ln:Int):=by rw[Int.tmod_eq_emod_of_nonneg (by omega)];omega
 have e2:(lone:Int) % 4=(ln:Int):=by omega
 rw[<-aL];have HS:=dh hS;clear hS aL;go_enter Tryz.func11,Tryz.ntmps11;go_wp2_with fail;obtain⟨W0,al⟩:∃W0,W0=(w.alloc (.cells #[.slice none 0 0,.int .i64 0,.int .i64 0] 27)).alloc (.cells #[.slice none 0 0,.int .i64 (-1),.int .i64 (ln:Int)] 27):=⟨_,rfl⟩
 have k0:Keeps (fun _=>False) w W0:=by rw[al];exact((Keeps.refl _ w).alloc _).alloc _
 have b0:W0.heap[w.heap.size]? = some (.cells #[.slice none 0 0,.int .i64 0,.int .i64 0] 27 (0,0)):=by rw[al];exact((Keeps.refl (fun _=>False) _).alloc _).at (heap_alloc_new w _) (fun h=>h)
 have b1:W0.heap[w.heap.size+1]? = some (.cells #[.slice none 0 0,.int .i64 (-1),.int .i64 (ln:Int)] 27 (0,0)):=by rw[al];have:=heap_alloc_new (w.alloc (.cells #[.slice none 0 0,.int .i64 0,.int .i64 0] 27)) (.cells #[.slice none 0 0,.int .i64 (-1),.int .i64 (ln:Int)] 27);simpa using this
 obtain⟨G,aM⟩:∃G,G=w.heap.size+1:=⟨_,rfl⟩
 have bR:w.heap.size<G:=by omega
 have H0:=dh (dn (show dH w.heap.size W0 (.slice none 0 0) (dD [])from dH.nil _ _) (dn b0 (dn (aM ▸ b1) k0)));rw[<-al,<-aM];clear al k0 b0 b1 aM
 go_loopg [23] n (fun mu iv wr=>∃(i:Nat) (sv:Value) (s:List Nat),i<=n/\i<=3/\mu=n - i/\iv=.int .i64 i/\(vk s (42 * i)/\(A->i<=1->mV s))/\dH w.heap.size wr sv (dD s)/\(∀q,sv.ownBlock=some q->q≠G/\q≠w.heap.size) /\
  wr.heap[w.heap.size]? = some (.cells #[.slice none 0 0,.int .i64 0,.int .i64 0] 27 (0,0))/\wr.heap[G]? = some (.cells #[sv,.int .i64 (-1),.int .i64 (ln:Int)] 27 (0,0))/\Keeps (fun _=>False) w wr)
 case atStart=>exact⟨0,_,[],Nat.zero_le _,by omega,rfl,rfl,⟨⟨⟨fun d hd=>absurd hd (by simp),fun d e hd=>absurd hd (by simp)⟩,rfl,by simp⟩,fun _ _ x y Q=>absurd Q (by simp)⟩,H0.out.1,fun q H=>by simp[Value.ownBlock]at H,H0.out.2⟩
 case round =>
  obtain⟨i,sv,s,hi,bS,aT,rfl,⟨am,aU⟩,L,ae,aw,af,ag⟩:=hrel;have HG:=dh aT;have aV:=dh aU;clear aU;clear aT H0;obtain⟨sa,sc,rfl,bm,-⟩:=L.form;rw[q01]at *;obtain⟨c,ax⟩:∃c,c=s.length:=⟨_,rfl⟩
  rw[<-ax]at L ae af bm;have V:=dh ax;have bn:c<=42 * i:=by rw[ax];exact am.le
  clear ax;by_cases an:i<n/\i<3
  ·have t1:decide ((i:Int)<(n:Int))=true:=decide_eq_true (by omega);have t2:decide (i<n)=true:=decide_eq_true an.1;have t3:decide ((3:Int)<=(i:Int))=false:=decide_eq_false (by omega);have t4:decide (3<=i)=false:=decide_eq_false (by omega);obtain⟨g,off,k,m,r,bv,ps,rfl,aN,q0,q1,q2,q3,hk,hm,hr,ah,ay,aW⟩:=HS.out i an.1;have hc:∀{o:Nat} {v:Value},w.cell? ⟨g,o,none⟩=some v->wr.cell? ⟨g,o,none⟩=some v:=fun h=>(World.cell?_of_block (ag.block g aN (fun h=>h))).trans h;have q0:=hc q0;have q1:=hc q1;have q2:=hc q2;have q3:=hc q3;have HR:=dh (dn am (dn L (dn ae (dn aw (dn af ag)))));obtain⟨ba,bc,rfl,-,-⟩:=ah.form;rw[q01]at *;generalize bo:ps.length=bl at *;have HB:=dh (dn ah ay);clear bo;have bT:G<wr.heap.size:=lt_of_block af;obtain⟨bI,bJ⟩:=an;clear am L ae aw af ag ah ay hc;go_upto_region 7 with fail;obtain⟨W1,ao⟩:∃W1,W1=(wr.alloc (.cells #[.int .u8 (k:Int),.int .u8 (m:Int),.slice ba bl bc,.int .u8 (r:Int)] 45)).alloc (.cells #[.slice none 0 0,.int .i64 0,.int .i64 0] 27):=⟨_,rfl⟩
   have k1:Keeps (fun _=>False) wr W1:=by rw[ao];exact((Keeps.refl _ wr).alloc _).alloc _
   have az:W1.heap[wr.heap.size]? = some (.cells #[.int .u8 (k:Int),.int .u8 (m:Int),.slice ba bl bc,.int .u8 (r:Int)] 45 (0,0)):=by rw[ao];exact((Keeps.refl (fun _=>False) _).alloc _).at (heap_alloc_new wr _) (fun h=>h)
   have aO:W1.heap[wr.heap.size+1]? = some (.cells #[.slice none 0 0,.int .i64 0,.int .i64 0] 27 (0,0)):=by rw[ao];have:=heap_alloc_new (wr.alloc (.cells #[.int .u8 (k:Int),.int .u8 (m:Int),.slice ba bl bc,.int .u8 (r:Int)] 45)) (.cells #[.slice none 0 0,.int .i64 0,.int .i64 0] 27);simpa using this
   obtain⟨yb,aA⟩:∃yb,yb=wr.heap.size+1:=⟨_,rfl⟩
   have bU:wr.heap.size<yb:=by omega
   have bV:yb<W1.heap.size:=by rw[aA];exact lt_of_block aO
   rw[<-aA]at aO;rw[<-ao,<-aA];clear ao aA q0 q1 q2 q3 t1 t2 t3 t4;have aa:=HB.out.1.keeps (HR.out.2.2.2.2.2.trans k1 (fun _ _ h=>h)) (fun _ _ h=>h);have q0:=dw az 0;have q1:=dw az 1;have q2:=dw az 2;have q3:=dw az 3;have aX:=dh (dn aO k1);obtain⟨k6,u⟩:∃k6,k6=k % 6:=⟨_,rfl⟩
   have c1:(k:Int).tmod 6=(k6:Int):=by rw[Int.tmod_eq_emod_of_nonneg (by omega)];omega
   have c2:(k:Int) % 6=(k6:Int):=by omega
   have bW:k6<6:=by omega
   have bp:Hid (A->k6<5):=dh (fun h=>by have:=aW h;omega);clear u aW;have bq:k6=0\/k6=1\/k6=2\/k6=3\/k6=4\/k6=5:=by omega
   obtain⟨m7,br⟩:∃m7,m7=m % 7:=⟨_,rfl⟩
   obtain⟨K,aY⟩:∃K,K=m % 14:=⟨_,rfl⟩
   obtain⟨m6,bs⟩:∃m6,m6=m % 6:=⟨_,rfl⟩
   have l7:m7<7:=by omega
   have bX:K<14:=by omega
   have l6:m6<6:=by omega
   have a7:(m:Int).tmod 7=(m7:Int):=by rw[Int.tmod_eq_emod_of_nonneg (by omega)];omega
   have bY:(m:Int).tmod 14=(K:Int):=by rw[Int.tmod_eq_emod_of_nonneg (by omega)];omega
   have a6:(m:Int).tmod 6=(m6:Int):=by rw[Int.tmod_eq_emod_of_nonneg (by omega)];omega
   have b7:(m:Int) % 7=(m7:Int):=by omega
   have bZ:(m:Int) % 14=(K:Int):=by omega
   have b6:(m:Int) % 6=(m6:Int):=by omega
   have aF:=Vt m7 (.slice ba bl bc) ps r W1 aa HB.out.2 (by omega) hr;have aZ:=Sd (.slice ba bl bc) ps K r W1 aa HB.out.2 (by omega) hr;have a0:=Tt (.slice ba bl bc) ps m6 r W1 aa HB.out.2 (by omega) hr;have ap:=dh aF;have a1:=dh aZ;have bt:=dh a0;clear br aY bs aF aZ a0 aa;rcases bq with rfl|rfl|rfl|rfl|rfl|rfl
   case' inl =>
    go_wp2_with fail
    refine ap.out.mono ?_;rintro e W2 ⟨aq,t,rfl,hT,l,a,O⟩;have hI:=hT.dR;have hE:=hT.even;obtain⟨z,F⟩:∃z:Int,z=((r % t.length:Nat):Int):=⟨_,rfl⟩
    obtain⟨f,B⟩:∃f:Int,f=0:=⟨_,rfl⟩
    rw[<-F,<-B];unfold fI;have ai:Hid (A->mV t):=dh (fun _=>hT.conn);clear hT F B
   case' inr.inl =>
    go_wp2_with fail
    refine ap.out.mono ?_;rintro e W2 ⟨aq,t,rfl,hT,l,a,O⟩;have hI:=hT.dR;have hE:=hT.even;obtain⟨z,F⟩:∃z:Int,z=((r % t.length:Nat):Int):=⟨_,rfl⟩
    obtain⟨f,B⟩:∃f:Int,f=0:=⟨_,rfl⟩
    rw[<-F,<-B];unfold fI;have ai:Hid (A->mV t):=dh (fun _=>hT.conn);clear hT F B
   case' inr.inr.inl =>
    go_wp2_with fail
    refine ap.out.mono ?_;rintro e W2 ⟨aq,t,rfl,hT,l,a,O⟩;have hI:=hT.dR;have hE:=hT.even;obtain⟨z,F⟩:∃z:Int,z=((r % t.length:Nat):Int):=⟨_,rfl⟩
    obtain⟨f,B⟩:∃f:Int,f=0:=⟨_,rfl⟩
    rw[<-F,<-B];unfold fI;have ai:Hid (A->mV t):=dh (fun _=>hT.conn);clear hT F B
   case' inr.inr.inr.inl =>
    go_wp2_with fail
    refine a1.out.mono ?_;rintro e W2 ⟨aq,ks,rfl,hW,l,a,O⟩;obtain⟨t,ht⟩:∃t,t=dN ks:=⟨_,rfl⟩
    have hI:dO t.length (sg t):=by rw[ht];exact hW.iD
    have hE:t.length % 2=0:=by rw[ht,pG];exact hW.mD
    have bu:t.length=2 * K:=by rw[ht,pG];exact l
    obtain⟨z,F⟩:∃z:Int,z=(if ks.length=0 then -1 else ((r % ks.length:Nat):Int)):=⟨_,rfl⟩
    obtain⟨f,B⟩:∃f:Int,f=(if ks.length=0 then 1 else 0):=⟨_,rfl⟩
    rw[<-F,<-B];rw[<-ht]at a;unfold fI;have ai:Hid (A->mV t):=dh (fun _=>by rw[ht];intro x y Q hy;have hI:=hW.iD;rw[pG]at Q hy hI ⊢;have h0:=hW.pW (by omega);exact(hI.gL hW.mD (by omega) (h0 x Q)).trans (h0 y hy));clear hW F B ht l
    rename t.length=2 * K=>l
   case' inr.inr.inr.inr.inl =>
    go_wp2_with fail
    refine a1.out.mono ?_;rintro e W2 ⟨aq,ks,rfl,hW,l,a,O⟩;obtain⟨t,ht⟩:∃t,t=dN ks:=⟨_,rfl⟩
    have hI:dO t.length (sg t):=by rw[ht];exact hW.iD
    have hE:t.length % 2=0:=by rw[ht,pG];exact hW.mD
    have bu:t.length=2 * K:=by rw[ht,pG];exact l
    obtain⟨z,F⟩:∃z:Int,z=(if ks.length=0 then -1 else ((r % ks.length:Nat):Int)):=⟨_,rfl⟩
    obtain⟨f,B⟩:∃f:Int,f=(if ks.length=0 then 1 else 0):=⟨_,rfl⟩
    rw[<-F,<-B];rw[<-ht]at a;unfold fI;have ai:Hid (A->mV t):=dh (fun _=>by rw[ht];intro x y Q hy;have hI:=hW.iD;rw[pG]at Q hy hI ⊢;have h0:=hW.pW (by omega);exact(hI.gL hW.mD (by omega) (h0 x Q)).trans (h0 y hy));clear hW F B ht l
    rename t.length=2 * K=>l
   case' inr.inr.inr.inr.inr =>
    go_wp2_with fail
    refine bt.out.mono ?_;rintro e W2 ⟨aq,t,z,rfl,⟨l,hI,-⟩,a,O⟩;have hE:t.length % 2=0:=by omega
    obtain⟨f,B⟩:∃f:Int,f=0:=⟨_,rfl⟩
    rw[<-B];unfold fI;have ai:Hid (A->mV t):=dh (fun h=>absurd (bp.out h) (by omega));clear B
   all_goals
    have a2:vk t 42:=⟨hI,hE,by omega⟩
    obtain⟨ya,yc,rfl,-,-⟩:=a.form;rw[q01]at *;have hY:=O.at aX.out.1 (fun h=>h);have z0:=dw hY 0;have z1:=dw hY 1;have z2:=dw hY 2;have u0:=dx hY 0;have u1:=dx hY 1;have u2:=dx hY 2;have b2:W1.heap.size<=W2.heap.size:=O.size;have HY:=dh (dn a2 (dn a (dn O hY)));clear a2 a O hY hI hE l;generalize aG:t.length=tl at *;have aj:=dh aG;clear aG;go_upto_region 16 with fail;have W:=nu HY.out.2.2.2 (.slice ya tl yc) (.int .i64 z) (.int .i64 f);obtain⟨W3,aP⟩:∃W3,W3=((W2.setCell ⟨yb,0,none⟩ (.slice ya tl yc)).setCell ⟨yb,1,none⟩ (.int .i64 z)).setCell ⟨yb,2,none⟩ (.int .i64 f):=⟨_,rfl⟩
    rw[<-aP]at W ⊢;have bK:W3.heap.size=W2.heap.size:=by rw[aP];simp
    clear aP z0 z1 z2 u0 u1 u2 q0 q1 q2 q3 c1 c2;have aB:Keeps (fun _=>False) wr W3:=(aX.out.2.trans HY.out.2.2.1 (fun _ _ h=>h)).trans W.2 (fun x Q e=>by omega);have a3:=HY.out.2.1.keeps W.2 (fun q H e=>by have:=(HY.out.2.1.lt q H).1;omega);have R:=aB.at HR.out.2.2.2.2.1 (fun h=>h);have a4:=HR.out.2.1.keeps aB (fun _ _ h=>h);have a5:∀q,(Value.slice sa c sc).ownBlock=some q->q<wr.heap.size:=fun q H=>(HR.out.2.1.lt q H).2;have d0:=dw R 0;have d1:=dw W.1 0;have H3:=dh (dn aB (dn a3 (dn R (dn a4 a5))));clear aB a3 R a4 W a5;generalize wr=wo at *;go_wp2_with fail;clear d0 d1
    go_loopg [73] tl (fun mu jv wz=>∃(j:Nat) (nC:Value),j<=tl/\mu=tl - j/\jv=.int .i64 j/\dH w.heap.size wz nC (dD (s ++ (t.take j).map (s.length + ·)))/\(∀q,nC.ownBlock=some q->(Value.slice sa c sc).ownBlock=some q\/W3.heap.size<=q) /\
     wz.heap[G]? = some (.cells #[nC,.int .i64 (-1),.int .i64 (ln:Int)] 27 (0,0))/\Keeps (fun x=>x=G\/(Value.slice sa c sc).ownBlock=some x) W3 wz)
    case atStart=>exact⟨0,_,Nat.zero_le _,rfl,rfl,by simpa using H3.out.2.2.2.1,fun q H=>.inl H,H3.out.2.2.1,Keeps.refl _ _⟩
    case round =>
     obtain⟨j,nC,hj,aH,rfl,E,M,I,S⟩:=hrel;have bw:=dh aH;clear aH;have P:(dD (s ++ (t.take j).map (s.length + ·))).length=c+j:=by rw[q01,List.length_append,List.length_map,List.length_take,aj.out,Nat.min_eq_left hj,V.out]
     obtain⟨xa,xc,rfl,-,-⟩:=E.form;rw[P]at E M I;by_cases aQ:j<tl
     ·obtain⟨tj,aC⟩:∃tj,t[j]? = some tj:=⟨_,List.getElem?_eq_getElem (by rw[aj.out];exact aQ)⟩
      have a8:=H3.out.2.1.keeps S (fun q H e=>by
       have h1:=(HY.out.2.1.lt q H).1;rcases e with e|e
       ·omega
       ·have:=H3.out.2.2.2.2 q e;omega)
      obtain⟨gy,bL,rfl,cy⟩:=a8.sl.cellAt (jA aC);have p0:=dw I 0;have b3:=dx I 0;have bM:tj<42:=by have h1:=HY.out.1.dR.lt j (by rw[aj.out];exact aQ);have h2:=tZ (s:=t) (d:=j) (by rw[aj.out];exact aQ);rw[aC]at h2;have h3:=HY.out.1.le;rw[<-Option.some.inj h2]at h1;omega
      have HN:Hid ((dD (s ++ (t.take j).map (s.length + ·))).length=c+j):=dh P;have b4:G<wr.heap.size:=lt_of_block I;have bx:w.heap.size<=wr.heap.size:=by omega
      have bz:W3.heap.size<=wr.heap.size:=S.size;have bA:tl<=42:=by have:=HY.out.1.le;rw[aj.out]at this;exact this
      have bB:c+j<=10000000000:=by omega
      have bC:∀q,(Value.slice xa (c+j) xc).ownBlock=some q->q≠G/\q≠w.heap.size:=fun q H=>by
       rcases M q H with h|h
       ·exact HR.out.2.2.1 q h
       ·omega
      have HZ:=dh (dn M (dn S (dn bC aC)));clear M S a8 aC P;go_wp2_with (at_builtin;go_loud (refine oz (c+j) rfl _ _ rfl w.heap.size (.slice xa (c+j) xc) (dD (s ++ (t.take j).map (s.length + ·))) ((tj:Int)+(c:Int)) HN wr.heap.size rfl rfl rfl E bB bx ?_);intro g2 T w3 ar aR aS hg;have R:=aR.at I (fun e=>(HZ.out.2.2.1 G e).1 rfl);have y0:=dw R 0;have b5:=dx R 0)
      have bD:g2≠G/\g2≠w.heap.size:=by
       rcases aS with h|h
       ·exact HZ.out.2.2.1 g2 h
       ·omega
      have au:dH w.heap.size (w3.setCell ⟨G,0,none⟩ (.slice (some ⟨g2,0,none⟩) (c+j+1) T)) (.slice (some ⟨g2,0,none⟩) (c+j+1) T) (dD (s ++ (t.take (j+1)).map (s.length + ·))):=by
       have e1:dD (s ++ (t.take (j+1)).map (s.length + ·))=dD (s ++ (t.take j).map (s.length + ·)) ++ [(tj:Int)+(c:Int)]:=by rw[oW HZ.out.2.2.2,List.map_append,<-List.append_assoc,List.map_singleton,tV,<-V.out];congr 2;omega
       rw[e1];exact ar.keeps ((Keeps.refl (fun x=>x=G) w3).setCell (p:=⟨G,0,none⟩) (.inl rfl) _) (fun q H e=>by simp only [Value.ownBlock,Option.some.injEq]at H;omega)
      have a9:Keeps (fun x=>x=G\/(Value.slice sa c sc).ownBlock=some x) W3 (w3.setCell ⟨G,0,none⟩ (.slice (some ⟨g2,0,none⟩) (c+j+1) T)) :=
       (HZ.out.2.1.trans aR (fun x Q e=>(HZ.out.1 x e).elim .inr (fun h=>by omega))).trans ((Keeps.refl (fun x=>x=G) w3).setCell (p:=⟨G,0,none⟩) (.inl rfl) _) (fun x Q e=>.inl e)
      have HE:=dh (dn au (dn (show ∀q,(Value.slice (some ⟨g2,0,none⟩) (c+j+1) T).ownBlock=some q->(Value.slice sa c sc).ownBlock=some q\/W3.heap.size<=q from fun q H=>by
       simp only [Value.ownBlock,Option.some.injEq]at H;subst H;rcases aS with h|h
       ·exact HZ.out.1 _ h
       ·exact .inr (by omega)) (dn (jM R 0 (.slice (some ⟨g2,0,none⟩) (c+j+1) T)) a9)))
      clear ar aR aS R au a9 bD E I;go_wp2;go_roundg (tl - (j+1))
      case measure=>rw[bw.out];omega
      case rel=>exact⟨j+1,_,by omega,rfl,by go_num,HE.out⟩
     ·have bE:j=tl:=by omega
      have bd:s ++ (t.take j).map (s.length + ·)=iq s t:=by rw[List.take_of_length_le (by rw[aj.out];omega)];rfl
      rw[bd]at E
      have be:vk (iq s t) (42 * (i+1))/\(A->i+1<=1->mV (iq s t)):=⟨⟨Vu HR.out.1.dR HY.out.1.dR,by rw[AU];have:=HR.out.1.even;have:=HY.out.1.even;omega,by rw[AU];have:=HR.out.1.le;have:=HY.out.1.le;omega⟩,fun hA h1=>by
       have h0:s=[]:=List.eq_nil_of_length_eq_zero (by have:=HR.out.1.le;omega);have h2:iq s t=t:=by rw[h0];simp[iq]
       rw[h2];exact ai.out hA⟩
      have bf:=(HR.out.2.2.2.2.2.trans H3.out.1 (fun _ _ h=>h)).trans S (fun x Q e=>by
       rcases e with e|e
       ·omega
       ·have:=(HR.out.2.1.lt x e).1;omega)
      have aI:=S.at (H3.out.1.at HR.out.2.2.2.1 (fun h=>h)) (fun e=>by
       rcases e with e|e
       ·omega
       ·exact(HR.out.2.2.1 _ e).2 rfl)
      have bz:W3.heap.size<=wr.heap.size:=S.size
      have HE:=dh (dn be (dn E (dn (show ∀q,(Value.slice xa (c+j) xc).ownBlock=some q->q≠G/\q≠w.heap.size from fun q H=>by
       rcases M q H with h|h
       ·exact HR.out.2.2.1 q h
       ·omega) (dn aI (dn I bf)))))
      clear be E M aI I bf S bd P bE;go_wp2;go_roundg (n - (i+1))
      case measure=>rw[HG.out];omega
      case rel=>exact⟨i+1,_,iq s t,by omega,by omega,rfl,by go_num,HE.out⟩
  ·have HP:=dh am;have bN:c<=126:=by omega
   have bF:=HS;clear am HS;by_cases av:i<n
   case' pos =>
    have t1:decide ((i:Int)<(n:Int))=true:=decide_eq_true (by omega);have t2:decide (i<n)=true:=decide_eq_true av;have t3:decide ((3:Int)<=(i:Int))=true:=decide_eq_true (by omega);have t4:decide (3<=i)=true:=decide_eq_true (by omega);obtain⟨g,off,k,m,r,bv,ps,rfl,aN,q0,q1,q2,q3,hk,hm,hr,ah,ay,-⟩:=bF.out i av;have hc:∀{o:Nat} {v:Value},w.cell? ⟨g,o,none⟩=some v->wr.cell? ⟨g,o,none⟩=some v:=fun h=>(World.cell?_of_block (ag.block g aN (fun h=>h))).trans h;have q0:=hc q0;have q1:=hc q1;have q2:=hc q2;have q3:=hc q3;obtain⟨ba,bc,rfl,-,-⟩:=ah.form;generalize (dD ps).length=bl at *;have bg:∀o,Keeps (fun _=>False) wr (wr.alloc o):=fun o=>(Keeps.refl _ wr).alloc o;clear ah ay hc;go_upto_region 23 with fail;obtain⟨W5,X⟩:∃W5,W5=wr.alloc (.cells #[.int .u8 (k:Int),.int .u8 (m:Int),.slice ba bl bc,.int .u8 (r:Int)] 45):=⟨_,rfl⟩
    have k5:Keeps (fun _=>False) wr W5:=by rw[X];exact bg _
    rw[<-X];clear X bg q0 q1 q2 q3 t1 t2 t3 t4 an av
   case' neg =>
    have t1:decide ((i:Int)<(n:Int))=false:=decide_eq_false (by omega);have t2:decide (i<n)=false:=decide_eq_false av;go_upto_region 23 with fail;clear t1 t2 an av;obtain⟨W5,X⟩:∃W5,W5=wr:=⟨_,rfl⟩
    have k5:Keeps (fun _=>False) wr W5:=by rw[X];exact Keeps.refl _ _
    rw[<-X];clear X
   all_goals
    have ab:=k5.at aw (fun h=>h);have C:=k5.at af (fun h=>h);have J:=L.keeps k5 (fun _ _ h=>h);have ad:=ag.trans k5 (fun _ _ h=>h);have bO:G<W5.heap.size:=lt_of_block C;have aJ:∀q,(Value.slice sa c sc).ownBlock=some q->¬q=w.heap.size:=fun q H=>(ae q H).2;have bh:∀q,(Value.slice sa c sc).ownBlock=some q->¬q=G:=fun q H=>(ae q H).1;clear aw af L ag k5 ae;by_cases hz:c=0
    ·have s0:s=[]:=List.eq_nil_of_length_eq_zero (by rw[<-V.out];exact hz);have hN:=EJ (rt:=-1) (ln:=ln) J.sl HP.out.dR HP.out.even (by rw[<-V.out];omega) (by omega) (.inl ⟨by rw[s0];rfl,rfl⟩);have d0:=dw C 0;have d1:=dw C 1;have d2:=dw C 2;have Y:=dh (dn J (dn ad (dn ab (dn C s0))));have v1:decide ((0:Int)<(c:Int))=false:=decide_eq_false (by omega);have v2:decide (0<c)=false:=decide_eq_false (by omega);clear J ad ab C s0 hz;go_wp2_with fail;refine hN.mono ?_;clear hN d0 d1 d2;rintro e W6 ⟨b,rfl,hM,bG,u⟩;have d0:=dw (u.at Y.out.2.2.2.1 (fun h=>h)) 0;have d1:=dw (u.at Y.out.2.2.2.1 (fun h=>h)) 1;have d2:=dw (u.at Y.out.2.2.2.1 (fun h=>h)) 2;have D:=u.at Y.out.2.2.1 (fun h=>h);have z0:=dw D 0;have z1:=dw D 1;have z2:=dw D 2;have u0:=dx D 0;have u1:=dx D 1;have u2:=dx D 2;have H6:=dh (dn hM (dn u D));have bH:=u.size;clear hM u D;go_wp2_with fail;go_region
     all_goals
      clear d0 d1 d2 z0 z1 z2 u0 u1 u2;have W:=nu H6.out.2.2 (.slice sa c sc) (.int .i64 (-1)) (.int .i64 (ln:Int));have e0:=dw W.1 0;have e1:=dw W.1 1;have e2:=dw W.1 2;have kd:=W.2.trans ((Keeps.refl (fun _=>False) _).drew) (fun _ _ h=>h.elim);go_wp2;refine bodyPost_ret (v:=.tuple #[.pointer (some ⟨b,0,none⟩),fI (.slice sa c sc) (-1) (ln:Int)]) ?_ rfl ⟨b,_,s,(-1),rfl,⟨HP.out.dR,HP.out.even,by have:=HP.out.le;omega⟩,.inl ⟨by rw[Y.out.2.2.2.2];rfl,rfl⟩,⟨_,H6.out.1.keeps kd (fun h=>by omega) (fun x Q h=>by omega),fun x Q=>by omega,by omega⟩,(Y.out.1.keeps H6.out.2.1 (fun _ _ h=>h)).keeps kd (fun q H e=>aJ q H e),(Y.out.2.1.trans H6.out.2.1 (fun _ _ h=>h)).trans kd (fun x Q e=>by omega),fun hA h1=>aV.out hA (by omega)⟩;simp at e0 e1 e2;simp[results,Tryz.results11,go_sem,fI,e0,e1,e2]
    ·obtain⟨U,aD⟩:∃U,U=root % c:=⟨_,rfl⟩
     have aK:U<c:=by rw[aD];exact Nat.mod_lt _ (by omega)
     have mq:((root:Nat):Int).tmod (c:Int)=(U:Int):=by rw[Int.tmod_eq_emod_of_nonneg (by omega),aD];simp
     have b8:((root:Nat):Int) % (c:Int)=(U:Int):=by rw[aD];simp
     have m4:IntKind.i64.wrap (U:Int)=(U:Int):=IntWalk.i64_in _ (by omega);have m6:¬(c:Int)=0:=by omega
     have v1:decide ((0:Int)<(c:Int))=true:=decide_eq_true (by omega);have v2:decide (0<c)=true:=decide_eq_true (by omega);have c0:=dw C 0;have c1:=dw C 1;have cf:=dx C 1;obtain⟨W7,ak⟩:∃W7,W7=W5.setCell ⟨G,1,none⟩ (.int .i64 (U:Int)):=⟨_,rfl⟩
     have aE:Keeps (fun x=>x=G) W5 W7:=by rw[ak];exact(Keeps.refl (fun x=>x=G) W5).setCell (p:=⟨G,1,none⟩) (.inl rfl) _
     have N:W7.heap[G]? = some (.cells #[.slice sa c sc,.int .i64 (U:Int),.int .i64 (ln:Int)] 27 (0,0)):=by rw[ak];exact jM C 1 _
     have Z:=J.keeps aE (fun q H e=>bh q H e);have hN:=EJ (rt:=(U:Int)) (ln:=ln) Z.sl HP.out.dR HP.out.even (by rw[<-V.out];omega) (by omega) (.inr ⟨U,rfl,by rw[<-V.out];exact aK⟩);have d0:=dw N 0;have d1:=dw N 1;have d2:=dw N 2;have bP:G<W7.heap.size:=lt_of_block N;have Y:=dh (dn Z (dn (ad.trans aE (fun x Q e=>by omega)) (dn (aE.at ab (fun e=>by omega)) (dn N (show U<s.length by rw[<-V.out];exact aK)))));rw[ak]at d0 d1 d2;have bi:=dh ak;clear J ad ab C hz aD aE N Z;go_upto_region 25 with fail;rw[<-ak]at d0 d1 d2 ⊢;clear ak bi c0 c1 cf;go_wp2_with fail;refine hN.mono ?_;clear hN d0 d1 d2;rintro e W6 ⟨b,rfl,hM,bG,u⟩;have d0:=dw (u.at Y.out.2.2.2.1 (fun h=>h)) 0;have d1:=dw (u.at Y.out.2.2.2.1 (fun h=>h)) 1;have d2:=dw (u.at Y.out.2.2.2.1 (fun h=>h)) 2;have D:=u.at Y.out.2.2.1 (fun h=>h);have z0:=dw D 0;have z1:=dw D 1;have z2:=dw D 2;have u0:=dx D 0;have u1:=dx D 1;have u2:=dx D 2;have H6:=dh (dn hM (dn u D));have bH:=u.size;clear hM u D;go_wp2_with fail;go_region
     all_goals
      clear d0 d1 d2 z0 z1 z2 u0 u1 u2;have W:=nu H6.out.2.2 (.slice sa c sc) (.int .i64 (U:Int)) (.int .i64 (ln:Int));have e0:=dw W.1 0;have e1:=dw W.1 1;have e2:=dw W.1 2;have kd:=W.2.trans ((Keeps.refl (fun _=>False) _).drew) (fun _ _ h=>h.elim);go_wp2;refine bodyPost_ret (v:=.tuple #[.pointer (some ⟨b,0,none⟩),fI (.slice sa c sc) (U:Int) (ln:Int)]) ?_ rfl ⟨b,_,s,(U:Int),rfl,⟨HP.out.dR,HP.out.even,by have:=HP.out.le;omega⟩,.inr ⟨U,rfl,Y.out.2.2.2.2⟩,⟨_,H6.out.1.keeps kd (fun h=>by omega) (fun x Q h=>by omega),fun x Q=>by omega,by omega⟩,(Y.out.1.keeps H6.out.2.1 (fun _ _ h=>h)).keeps kd (fun q H e=>aJ q H e),(Y.out.2.1.trans H6.out.2.1 (fun _ _ h=>h)).trans kd (fun x Q e=>by omega),fun hA h1=>aV.out hA (by omega)⟩;simp at e0 e1 e2;simp[results,Tryz.results11,go_sem,fI,e0,e1,e2]
