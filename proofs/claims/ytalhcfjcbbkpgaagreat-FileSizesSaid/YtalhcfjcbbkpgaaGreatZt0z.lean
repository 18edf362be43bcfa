import Derived.Test.YtalhcfjcbbkpgaaGreatZt0y
set_option maxRecDepth 100000
set_option maxHeartbeats 4000000
namespace Go.Proofs.YtalhcfjcbbkpgaaGreat
open Go.RowKit
def Po(w:World)(a:Option Addr)(n:Nat):Prop :=
 ∀j,j<n->∃(g off k m r:Nat) (c:Value) (ps:List Nat),a=some ⟨g,off,none⟩/\g<w.heap.size/\w.cell? ⟨g,off+j * 4,none⟩=some (.int .u8 k)/\w.cell? ⟨g,off+j * 4+1,none⟩=some (.int .u8 m)/\w.cell? ⟨g,off+j * 4+2,none⟩=some c/\w.cell? ⟨g,off+j * 4+3,none⟩=some (.int .u8 r) /\
  k<256/\m<256/\r<256/\Sl .u8 w c (dD ps)/\∀b ∈ ps,b<256
structure vP (s:List Nat)(m:Nat):Prop where
 dW:dU s.length (sg s)
 even:s.length % 2=0
 le:s.length<=m
def NewAt(B:Nat)(s:List Nat)(rt ln:Int)(b:Nat)(W:World):Prop:=∃R,MapAt W b s rt ln R/\(∀x,R x->B<=x)/\B<=b
def Pq(w:World)(ln n:Nat)(e:Ending)(w':World):Prop :=
 ∃(b:Nat) (sv:Value) (s:List Nat) (rt:Int),e=.returned (.tuple #[.pointer (some ⟨b,0,none⟩),gG sv rt ln])/\vP s (42 * min n 3)/\((s.length=0/\rt=-1)\/∃r:Nat,rt=r/\r<s.length) /\
  NewAt w.heap.size s rt ln b w'/\dI w.heap.size w' sv (dD s)/\Keeps (fun _=>False) w w'
theorem Wz(la:Option Addr)(n cap lone root:Nat)(w:World)(hS:Po w la n)(a9:lone<256)(bd:root<256) :
  Calls Tryz.prog 11 #[.slice la n cap,.int .u8 lone,.int .u8 root] w (Pq w (lone % 4) n):=by
 obtain⟨ln,aH⟩:∃ln,ln=lone % 4:=⟨_,rfl⟩
 have bI:ln<4:=by rw[aH];exact Nat.mod_lt _ (by decide)
 have e1:(lone:Int).tmod 4=(ln:Int):=by rw[Int.tmod_eq_emod_of_nonneg (by omega)];omega
 have e2:(lone:Int) % 4=(ln:Int):=by omega
 rw[<-aH];have HS:=dh hS;clear hS aH;go_enter Tryz.func11,Tryz.ntmps11;go_wp2_with fail;obtain⟨W0,ah⟩:∃W0,W0=(w.alloc (.cells #[.slice none 0 0,.int .i64 0,.int .i64 0] 27)).alloc (.cells #[.slice none 0 0,.int .i64 (-1),.int .i64 (ln:Int)] 27):=⟨_,rfl⟩
 have k0:Keeps (fun _=>False) w W0:=by rw[ah];exact((Keeps.refl _ w).alloc _).alloc _
 have b0:W0.heap[w.heap.size]? = some (.cells #[.slice none 0 0,.int .i64 0,.int .i64 0] 27 (0,0)):=by rw[ah];exact((Keeps.refl (fun _=>False) _).alloc _).at (heap_alloc_new w _) (fun h=>h)
 have b1:W0.heap[w.heap.size+1]? = some (.cells #[.slice none 0 0,.int .i64 (-1),.int .i64 (ln:Int)] 27 (0,0)):=by rw[ah];have:=heap_alloc_new (w.alloc (.cells #[.slice none 0 0,.int .i64 0,.int .i64 0] 27)) (.cells #[.slice none 0 0,.int .i64 (-1),.int .i64 (ln:Int)] 27);simpa using this
 obtain⟨E,aI⟩:∃E,E=w.heap.size+1:=⟨_,rfl⟩
 have bJ:w.heap.size<E:=by omega
 have H0:=dh (dn (show dI w.heap.size W0 (.slice none 0 0) (dD [])from dI.nil _ _) (dn b0 (dn (aI ▸ b1) k0)));rw[<-ah,<-aI];clear ah k0 b0 b1 aI
 go_loopg [23] n (fun mu iv wr=>∃(i:Nat) (sv:Value) (s:List Nat),i<=n/\i<=3/\mu=n - i/\iv=.int .i64 i/\vP s (42 * i)/\dI w.heap.size wr sv (dD s)/\(∀q,sv.ownBlock=some q->q≠E/\q≠w.heap.size) /\
  wr.heap[w.heap.size]? = some (.cells #[.slice none 0 0,.int .i64 0,.int .i64 0] 27 (0,0))/\wr.heap[E]? = some (.cells #[sv,.int .i64 (-1),.int .i64 (ln:Int)] 27 (0,0))/\Keeps (fun _=>False) w wr)
 case atStart=>exact⟨0,_,[],Nat.zero_le _,by omega,rfl,rfl,⟨⟨fun d hd=>absurd hd (by simp),fun d e hd=>absurd hd (by simp)⟩,rfl,by simp⟩,H0.out.1,fun q F=>by simp[Value.ownBlock]at F,H0.out.2⟩
 case round =>
  obtain⟨i,sv,s,hi,bK,aP,rfl,ai,J,aa,aq,ab,ad⟩:=hrel;have HG:=dh aP;clear aP H0;obtain⟨sa,sc,rfl,be,-⟩:=J.form;rw[q01]at *;obtain⟨c,ar⟩:∃c,c=s.length:=⟨_,rfl⟩
  rw[<-ar]at J aa ab be;have S:=dh ar;have bf:c<=42 * i:=by rw[ar];exact ai.le
  clear ar;by_cases aj:i<n/\i<3
  ·have t1:decide ((i:Int)<(n:Int))=true:=decide_eq_true (by omega);have t2:decide (i<n)=true:=decide_eq_true aj.1;have t3:decide ((3:Int)<=(i:Int))=false:=decide_eq_false (by omega);have t4:decide (3<=i)=false:=decide_eq_false (by omega);obtain⟨g,off,k,m,r,bv,ps,rfl,aJ,q0,q1,q2,q3,hk,hm,hr,ae,au⟩:=HS.out i aj.1;have hc:∀{o:Nat} {v:Value},w.cell? ⟨g,o,none⟩=some v->wr.cell? ⟨g,o,none⟩=some v:=fun h=>(World.cell?_of_block (ad.block g aJ (fun h=>h))).trans h;have q0:=hc q0;have q1:=hc q1;have q2:=hc q2;have q3:=hc q3;have HR:=dh (dn ai (dn J (dn aa (dn aq (dn ab ad)))));obtain⟨ba,bc,rfl,-,-⟩:=ae.form;rw[q01]at *;generalize bg:ps.length=bl at *;have HB:=dh (dn ae au);clear bg;have bL:E<wr.heap.size:=lt_of_block ab;obtain⟨bA,bB⟩:=aj;clear ai J aa aq ab ad ae au hc;go_upto_region 7 with fail;obtain⟨W1,ak⟩:∃W1,W1=(wr.alloc (.cells #[.int .u8 (k:Int),.int .u8 (m:Int),.slice ba bl bc,.int .u8 (r:Int)] 45)).alloc (.cells #[.slice none 0 0,.int .i64 0,.int .i64 0] 27):=⟨_,rfl⟩
   have k1:Keeps (fun _=>False) wr W1:=by rw[ak];exact((Keeps.refl _ wr).alloc _).alloc _
   have av:W1.heap[wr.heap.size]? = some (.cells #[.int .u8 (k:Int),.int .u8 (m:Int),.slice ba bl bc,.int .u8 (r:Int)] 45 (0,0)):=by rw[ak];exact((Keeps.refl (fun _=>False) _).alloc _).at (heap_alloc_new wr _) (fun h=>h)
   have aK:W1.heap[wr.heap.size+1]? = some (.cells #[.slice none 0 0,.int .i64 0,.int .i64 0] 27 (0,0)):=by rw[ak];have:=heap_alloc_new (wr.alloc (.cells #[.int .u8 (k:Int),.int .u8 (m:Int),.slice ba bl bc,.int .u8 (r:Int)] 45)) (.cells #[.slice none 0 0,.int .i64 0,.int .i64 0] 27);simpa using this
   obtain⟨yb,aw⟩:∃yb,yb=wr.heap.size+1:=⟨_,rfl⟩
   have bM:wr.heap.size<yb:=by omega
   have bN:yb<W1.heap.size:=by rw[aw];exact lt_of_block aK
   rw[<-aw]at aK;rw[<-ak,<-aw];clear ak aw q0 q1 q2 q3 t1 t2 t3 t4;have X:=HB.out.1.keeps (HR.out.2.2.2.2.2.trans k1 (fun _ _ h=>h)) (fun _ _ h=>h);have q0:=dw av 0;have q1:=dw av 1;have q2:=dw av 2;have q3:=dw av 3;have aQ:=dh (dn aK k1);obtain⟨k6,u⟩:∃k6,k6=k % 6:=⟨_,rfl⟩
   have c1:(k:Int).tmod 6=(k6:Int):=by rw[Int.tmod_eq_emod_of_nonneg (by omega)];omega
   have c2:(k:Int) % 6=(k6:Int):=by omega
   have bO:k6<6:=by omega
   clear u;have bh:k6=0\/k6=1\/k6=2\/k6=3\/k6=4\/k6=5:=by omega
   obtain⟨m7,bi⟩:∃m7,m7=m % 7:=⟨_,rfl⟩
   obtain⟨I,aR⟩:∃I,I=m % 14:=⟨_,rfl⟩
   obtain⟨m6,bj⟩:∃m6,m6=m % 6:=⟨_,rfl⟩
   have l7:m7<7:=by omega
   have bP:I<14:=by omega
   have l6:m6<6:=by omega
   have a7:(m:Int).tmod 7=(m7:Int):=by rw[Int.tmod_eq_emod_of_nonneg (by omega)];omega
   have bQ:(m:Int).tmod 14=(I:Int):=by rw[Int.tmod_eq_emod_of_nonneg (by omega)];omega
   have a6:(m:Int).tmod 6=(m6:Int):=by rw[Int.tmod_eq_emod_of_nonneg (by omega)];omega
   have b7:(m:Int) % 7=(m7:Int):=by omega
   have bR:(m:Int) % 14=(I:Int):=by omega
   have b6:(m:Int) % 6=(m6:Int):=by omega
   have aB:=qbv m7 (.slice ba bl bc) ps r W1 X HB.out.2 (by omega) hr;have aS:=Ud (.slice ba bl bc) ps I r W1 X HB.out.2 (by omega) hr;have aT:=Uk (.slice ba bl bc) ps m6 r W1 X HB.out.2 (by omega) hr;have al:=dh aB;have aU:=dh aS;have bk:=dh aT;clear bi aR bj aB aS aT X;rcases bh with rfl|rfl|rfl|rfl|rfl|rfl
   case' inl =>
    go_wp2_with fail
    refine al.out.mono ?_;rintro e W2 ⟨am,t,rfl,hT,l,a,M⟩;have hI:=hT.dW;have hE:=hT.even;obtain⟨y,D⟩:∃y:Int,y=((r % t.length:Nat):Int):=⟨_,rfl⟩
    obtain⟨f,z⟩:∃f:Int,f=0:=⟨_,rfl⟩
    rw[<-D,<-z];unfold gG;clear hT D z
   case' inr.inl =>
    go_wp2_with fail
    refine al.out.mono ?_;rintro e W2 ⟨am,t,rfl,hT,l,a,M⟩;have hI:=hT.dW;have hE:=hT.even;obtain⟨y,D⟩:∃y:Int,y=((r % t.length:Nat):Int):=⟨_,rfl⟩
    obtain⟨f,z⟩:∃f:Int,f=0:=⟨_,rfl⟩
    rw[<-D,<-z];unfold gG;clear hT D z
   case' inr.inr.inl =>
    go_wp2_with fail
    refine al.out.mono ?_;rintro e W2 ⟨am,t,rfl,hT,l,a,M⟩;have hI:=hT.dW;have hE:=hT.even;obtain⟨y,D⟩:∃y:Int,y=((r % t.length:Nat):Int):=⟨_,rfl⟩
    obtain⟨f,z⟩:∃f:Int,f=0:=⟨_,rfl⟩
    rw[<-D,<-z];unfold gG;clear hT D z
   case' inr.inr.inr.inl =>
    go_wp2_with fail
    refine aU.out.mono ?_;rintro e W2 ⟨am,ks,rfl,hW,l,a,M⟩;obtain⟨t,ht⟩:∃t,t=dM ks:=⟨_,rfl⟩
    have hI:dU t.length (sg t):=by rw[ht];exact hW.gL
    have hE:t.length % 2=0:=by rw[ht,oL];exact hW.lM
    have bm:t.length=2 * I:=by rw[ht,oL];exact l
    obtain⟨y,D⟩:∃y:Int,y=(if ks.length=0 then -1 else ((r % ks.length:Nat):Int)):=⟨_,rfl⟩
    obtain⟨f,z⟩:∃f:Int,f=(if ks.length=0 then 1 else 0):=⟨_,rfl⟩
    rw[<-D,<-z];rw[<-ht]at a;unfold gG;clear hW D z ht l
    rename t.length=2 * I=>l
   case' inr.inr.inr.inr.inl =>
    go_wp2_with fail
    refine aU.out.mono ?_;rintro e W2 ⟨am,ks,rfl,hW,l,a,M⟩;obtain⟨t,ht⟩:∃t,t=dM ks:=⟨_,rfl⟩
    have hI:dU t.length (sg t):=by rw[ht];exact hW.gL
    have hE:t.length % 2=0:=by rw[ht,oL];exact hW.lM
    have bm:t.length=2 * I:=by rw[ht,oL];exact l
    obtain⟨y,D⟩:∃y:Int,y=(if ks.length=0 then -1 else ((r % ks.length:Nat):Int)):=⟨_,rfl⟩
    obtain⟨f,z⟩:∃f:Int,f=(if ks.length=0 then 1 else 0):=⟨_,rfl⟩
    rw[<-D,<-z];rw[<-ht]at a;unfold gG;clear hW D z ht l
    rename t.length=2 * I=>l
   case' inr.inr.inr.inr.inr =>
    go_wp2_with fail
    refine bk.out.mono ?_;rintro e W2 ⟨am,t,y,rfl,⟨l,hI,-⟩,a,M⟩;have hE:t.length % 2=0:=by omega
    obtain⟨f,z⟩:∃f:Int,f=0:=⟨_,rfl⟩
    rw[<-z];unfold gG;clear z
   all_goals
    have aV:vP t 42:=⟨hI,hE,by omega⟩
    obtain⟨ya,yc,rfl,-,-⟩:=a.form;rw[q01]at *;have hY:=M.at aQ.out.1 (fun h=>h);have z0:=dw hY 0;have z1:=dw hY 1;have z2:=dw hY 2;have u0:=dx hY 0;have u1:=dx hY 1;have u2:=dx hY 2;have bS:W1.heap.size<=W2.heap.size:=M.size;have HY:=dh (dn aV (dn a (dn M hY)));clear aV a M hY hI hE l;generalize aC:t.length=tl at *;have af:=dh aC;clear aC;go_upto_region 16 with fail;have T:=oz HY.out.2.2.2 (.slice ya tl yc) (.int .i64 y) (.int .i64 f);obtain⟨W3,aL⟩:∃W3,W3=((W2.setCell ⟨yb,0,none⟩ (.slice ya tl yc)).setCell ⟨yb,1,none⟩ (.int .i64 y)).setCell ⟨yb,2,none⟩ (.int .i64 f):=⟨_,rfl⟩
    rw[<-aL]at T ⊢;have bC:W3.heap.size=W2.heap.size:=by rw[aL];simp
    clear aL z0 z1 z2 u0 u1 u2 q0 q1 q2 q3 c1 c2;have ax:Keeps (fun _=>False) wr W3:=(aQ.out.2.trans HY.out.2.2.1 (fun _ _ h=>h)).trans T.2 (fun x hx e=>by omega);have aW:=HY.out.2.1.keeps T.2 (fun q F e=>by have:=(HY.out.2.1.lt q F).1;omega);have O:=ax.at HR.out.2.2.2.2.1 (fun h=>h);have aX:=HR.out.2.1.keeps ax (fun _ _ h=>h);have aY:∀q,(Value.slice sa c sc).ownBlock=some q->q<wr.heap.size:=fun q F=>(HR.out.2.1.lt q F).2;have d0:=dw O 0;have d1:=dw T.1 0;have H3:=dh (dn ax (dn aW (dn O (dn aX aY))));clear ax aW O aX T aY;generalize wr=wo at *;go_wp2_with fail;clear d0 d1
    go_loopg [73] tl (fun mu jv wz=>∃(j:Nat) (oM:Value),j<=tl/\mu=tl - j/\jv=.int .i64 j/\dI w.heap.size wz oM (dD (s ++ (t.take j).map (s.length + ·)))/\(∀q,oM.ownBlock=some q->(Value.slice sa c sc).ownBlock=some q\/W3.heap.size<=q) /\
     wz.heap[E]? = some (.cells #[oM,.int .i64 (-1),.int .i64 (ln:Int)] 27 (0,0))/\Keeps (fun x=>x=E\/(Value.slice sa c sc).ownBlock=some x) W3 wz)
    case atStart=>exact⟨0,_,Nat.zero_le _,rfl,rfl,by simpa using H3.out.2.2.2.1,fun q F=>.inl F,H3.out.2.2.1,Keeps.refl _ _⟩
    case round =>
     obtain⟨j,oM,hj,aD,rfl,C,K,G,P⟩:=hrel;have bn:=dh aD;clear aD;have N:(dD (s ++ (t.take j).map (s.length + ·))).length=c+j:=by rw[q01,List.length_append,List.length_map,List.length_take,af.out,Nat.min_eq_left hj,S.out]
     obtain⟨xa,xc,rfl,-,-⟩:=C.form;rw[N]at C K G;by_cases aM:j<tl
     ·obtain⟨tj,ay⟩:∃tj,t[j]? = some tj:=⟨_,List.getElem?_eq_getElem (by rw[af.out];exact aM)⟩
      have aZ:=H3.out.2.1.keeps P (fun q F e=>by
       have h1:=(HY.out.2.1.lt q F).1;rcases e with e|e
       ·omega
       ·have:=H3.out.2.2.2.2 q e;omega)
      obtain⟨gy,bD,rfl,cy⟩:=aZ.sl.cellAt (jI ay);have p0:=dw G 0;have bT:=dx G 0;have bE:tj<42:=by have h1:=HY.out.1.dW.lt j (by rw[af.out];exact aM);have h2:=xF (s:=t) (d:=j) (by rw[af.out];exact aM);rw[ay]at h2;have h3:=HY.out.1.le;rw[<-Option.some.inj h2]at h1;omega
      have HN:Hid ((dD (s ++ (t.take j).map (s.length + ·))).length=c+j):=dh N;have bU:E<wr.heap.size:=lt_of_block G;have bo:w.heap.size<=wr.heap.size:=by omega
      have bp:W3.heap.size<=wr.heap.size:=P.size;have bq:tl<=42:=by have:=HY.out.1.le;rw[af.out]at this;exact this
      have br:c+j<=10000000000:=by omega
      have bs:∀q,(Value.slice xa (c+j) xc).ownBlock=some q->q≠E/\q≠w.heap.size:=fun q F=>by
       rcases K q F with h|h
       ·exact HR.out.2.2.1 q h
       ·omega
      have HZ:=dh (dn K (dn P (dn bs ay)));clear K P aZ ay N;go_wp2_with (at_builtin;go_loud (refine oP (c+j) rfl _ _ rfl w.heap.size (.slice xa (c+j) xc) (dD (s ++ (t.take j).map (s.length + ·))) ((tj:Int)+(c:Int)) HN wr.heap.size rfl rfl rfl C br bo ?_);intro g2 Q w3 an aN aO hg;have O:=aN.at G (fun e=>(HZ.out.2.2.1 E e).1 rfl);have y0:=dw O 0;have bV:=dx O 0)
      have bt:g2≠E/\g2≠w.heap.size:=by
       rcases aO with h|h
       ·exact HZ.out.2.2.1 g2 h
       ·omega
      have ao:dI w.heap.size (w3.setCell ⟨E,0,none⟩ (.slice (some ⟨g2,0,none⟩) (c+j+1) Q)) (.slice (some ⟨g2,0,none⟩) (c+j+1) Q) (dD (s ++ (t.take (j+1)).map (s.length + ·))):=by
       have e1:dD (s ++ (t.take (j+1)).map (s.length + ·))=dD (s ++ (t.take j).map (s.length + ·)) ++ [(tj:Int)+(c:Int)]:=by rw[pE HZ.out.2.2.2,List.map_append,<-List.append_assoc,List.map_singleton,uy,<-S.out];congr 2;omega
       rw[e1];exact an.keeps ((Keeps.refl (fun x=>x=E) w3).setCell (p:=⟨E,0,none⟩) (.inl rfl) _) (fun q F e=>by simp only [Value.ownBlock,Option.some.injEq]at F;omega)
      have a0:Keeps (fun x=>x=E\/(Value.slice sa c sc).ownBlock=some x) W3 (w3.setCell ⟨E,0,none⟩ (.slice (some ⟨g2,0,none⟩) (c+j+1) Q)) :=
       (HZ.out.2.1.trans aN (fun x hx e=>(HZ.out.1 x e).elim .inr (fun h=>by omega))).trans ((Keeps.refl (fun x=>x=E) w3).setCell (p:=⟨E,0,none⟩) (.inl rfl) _) (fun x hx e=>.inl e)
      have HE:=dh (dn ao (dn (show ∀q,(Value.slice (some ⟨g2,0,none⟩) (c+j+1) Q).ownBlock=some q->(Value.slice sa c sc).ownBlock=some q\/W3.heap.size<=q from fun q F=>by
       simp only [Value.ownBlock,Option.some.injEq]at F;subst F;rcases aO with h|h
       ·exact HZ.out.1 _ h
       ·exact .inr (by omega)) (dn (jM O 0 (.slice (some ⟨g2,0,none⟩) (c+j+1) Q)) a0)))
      clear an aN aO O ao a0 bt C G;go_wp2;go_roundg (tl - (j+1))
      case measure=>rw[bn.out];omega
      case rel=>exact⟨j+1,_,by omega,rfl,by go_num,HE.out⟩
     ·have bu:j=tl:=by omega
      have a1:s ++ (t.take j).map (s.length + ·)=fV s t:=by rw[List.take_of_length_le (by rw[af.out];omega)];rfl
      rw[a1]at C;have a2:vP (fV s t) (42 * (i+1)):=⟨JY HR.out.1.dW HY.out.1.dW,by rw[yJ];have:=HR.out.1.even;have:=HY.out.1.even;omega,by rw[yJ];have:=HR.out.1.le;have:=HY.out.1.le;omega⟩
      have a3:=(HR.out.2.2.2.2.2.trans H3.out.1 (fun _ _ h=>h)).trans P (fun x hx e=>by
       rcases e with e|e
       ·omega
       ·have:=(HR.out.2.1.lt x e).1;omega)
      have aE:=P.at (H3.out.1.at HR.out.2.2.2.1 (fun h=>h)) (fun e=>by
       rcases e with e|e
       ·omega
       ·exact(HR.out.2.2.1 _ e).2 rfl)
      have bp:W3.heap.size<=wr.heap.size:=P.size
      have HE:=dh (dn a2 (dn C (dn (show ∀q,(Value.slice xa (c+j) xc).ownBlock=some q->q≠E/\q≠w.heap.size from fun q F=>by
       rcases K q F with h|h
       ·exact HR.out.2.2.1 q h
       ·omega) (dn aE (dn G a3)))))
      clear a2 C K aE G a3 P a1 N bu;go_wp2;go_roundg (n - (i+1))
      case measure=>rw[HG.out];omega
      case rel=>exact⟨i+1,_,fV s t,by omega,by omega,rfl,by go_num,HE.out⟩
  ·have HP:=dh ai;have bF:c<=126:=by omega
   have bw:=HS;clear ai HS;by_cases ap:i<n
   case' pos =>
    have t1:decide ((i:Int)<(n:Int))=true:=decide_eq_true (by omega);have t2:decide (i<n)=true:=decide_eq_true ap;have t3:decide ((3:Int)<=(i:Int))=true:=decide_eq_true (by omega);have t4:decide (3<=i)=true:=decide_eq_true (by omega);obtain⟨g,off,k,m,r,bv,ps,rfl,aJ,q0,q1,q2,q3,hk,hm,hr,ae,au⟩:=bw.out i ap;have hc:∀{o:Nat} {v:Value},w.cell? ⟨g,o,none⟩=some v->wr.cell? ⟨g,o,none⟩=some v:=fun h=>(World.cell?_of_block (ad.block g aJ (fun h=>h))).trans h;have q0:=hc q0;have q1:=hc q1;have q2:=hc q2;have q3:=hc q3;obtain⟨ba,bc,rfl,-,-⟩:=ae.form;generalize (dD ps).length=bl at *;have a4:∀o,Keeps (fun _=>False) wr (wr.alloc o):=fun o=>(Keeps.refl _ wr).alloc o;clear ae au hc;go_upto_region 23 with fail;obtain⟨W5,U⟩:∃W5,W5=wr.alloc (.cells #[.int .u8 (k:Int),.int .u8 (m:Int),.slice ba bl bc,.int .u8 (r:Int)] 45):=⟨_,rfl⟩
    have k5:Keeps (fun _=>False) wr W5:=by rw[U];exact a4 _
    rw[<-U];clear U a4 q0 q1 q2 q3 t1 t2 t3 t4 aj ap
   case' neg =>
    have t1:decide ((i:Int)<(n:Int))=false:=decide_eq_false (by omega);have t2:decide (i<n)=false:=decide_eq_false ap;go_upto_region 23 with fail;clear t1 t2 aj ap;obtain⟨W5,U⟩:∃W5,W5=wr:=⟨_,rfl⟩
    have k5:Keeps (fun _=>False) wr W5:=by rw[U];exact Keeps.refl _ _
    rw[<-U];clear U
   all_goals
    have Y:=k5.at aq (fun h=>h);have A:=k5.at ab (fun h=>h);have H:=J.keeps k5 (fun _ _ h=>h);have Z:=ad.trans k5 (fun _ _ h=>h);have bG:E<W5.heap.size:=lt_of_block A;have aF:∀q,(Value.slice sa c sc).ownBlock=some q->¬q=w.heap.size:=fun q F=>(aa q F).2;have a5:∀q,(Value.slice sa c sc).ownBlock=some q->¬q=E:=fun q F=>(aa q F).1;clear aq ab J ad k5 aa;by_cases hz:c=0
    ·have s0:s=[]:=List.eq_nil_of_length_eq_zero (by rw[<-S.out];exact hz);have hN:=G6 (rt:=-1) (ln:=ln) H.sl HP.out.dW HP.out.even (by rw[<-S.out];omega) (by omega) (.inl ⟨by rw[s0];rfl,rfl⟩);have d0:=dw A 0;have d1:=dw A 1;have d2:=dw A 2;have V:=dh (dn H (dn Z (dn Y (dn A s0))));have v1:decide ((0:Int)<(c:Int))=false:=decide_eq_false (by omega);have v2:decide (0<c)=false:=decide_eq_false (by omega);clear H Z Y A s0 hz;go_wp2_with fail;refine hN.mono ?_;clear hN d0 d1 d2;rintro e W6 ⟨b,rfl,hM,bx,u⟩;have d0:=dw (u.at V.out.2.2.2.1 (fun h=>h)) 0;have d1:=dw (u.at V.out.2.2.2.1 (fun h=>h)) 1;have d2:=dw (u.at V.out.2.2.2.1 (fun h=>h)) 2;have B:=u.at V.out.2.2.1 (fun h=>h);have z0:=dw B 0;have z1:=dw B 1;have z2:=dw B 2;have u0:=dx B 0;have u1:=dx B 1;have u2:=dx B 2;have H6:=dh (dn hM (dn u B));have bz:=u.size;clear hM u B;go_wp2_with fail;go_region
     all_goals
      clear d0 d1 d2 z0 z1 z2 u0 u1 u2;have T:=oz H6.out.2.2 (.slice sa c sc) (.int .i64 (-1)) (.int .i64 (ln:Int));have e0:=dw T.1 0;have e1:=dw T.1 1;have e2:=dw T.1 2;have kd:=T.2.trans ((Keeps.refl (fun _=>False) _).drew) (fun _ _ h=>h.elim);go_wp2;refine bodyPost_ret (v:=.tuple #[.pointer (some ⟨b,0,none⟩),gG (.slice sa c sc) (-1) (ln:Int)]) ?_ rfl ⟨b,_,s,(-1),rfl,⟨HP.out.dW,HP.out.even,by have:=HP.out.le;omega⟩,.inl ⟨by rw[V.out.2.2.2.2];rfl,rfl⟩,⟨_,H6.out.1.keeps kd (fun h=>by omega) (fun x hx h=>by omega),fun x hx=>by omega,by omega⟩,(V.out.1.keeps H6.out.2.1 (fun _ _ h=>h)).keeps kd (fun q F e=>aF q F e),(V.out.2.1.trans H6.out.2.1 (fun _ _ h=>h)).trans kd (fun x hx e=>by omega)⟩;simp at e0 e1 e2;simp[results,Tryz.results11,go_sem,gG,e0,e1,e2]
    ·obtain⟨R,az⟩:∃R,R=root % c:=⟨_,rfl⟩
     have aG:R<c:=by rw[az];exact Nat.mod_lt _ (by omega)
     have mq:((root:Nat):Int).tmod (c:Int)=(R:Int):=by rw[Int.tmod_eq_emod_of_nonneg (by omega),az];simp
     have bW:((root:Nat):Int) % (c:Int)=(R:Int):=by rw[az];simp
     have m4:IntKind.i64.wrap (R:Int)=(R:Int):=IntWalk.i64_in _ (by omega);have m6:¬(c:Int)=0:=by omega
     have v1:decide ((0:Int)<(c:Int))=true:=decide_eq_true (by omega);have v2:decide (0<c)=true:=decide_eq_true (by omega);have c0:=dw A 0;have c1:=dw A 1;have cf:=dx A 1;obtain⟨W7,ag⟩:∃W7,W7=W5.setCell ⟨E,1,none⟩ (.int .i64 (R:Int)):=⟨_,rfl⟩
     have aA:Keeps (fun x=>x=E) W5 W7:=by rw[ag];exact(Keeps.refl (fun x=>x=E) W5).setCell (p:=⟨E,1,none⟩) (.inl rfl) _
     have L:W7.heap[E]? = some (.cells #[.slice sa c sc,.int .i64 (R:Int),.int .i64 (ln:Int)] 27 (0,0)):=by rw[ag];exact jM A 1 _
     have W:=H.keeps aA (fun q F e=>a5 q F e);have hN:=G6 (rt:=(R:Int)) (ln:=ln) W.sl HP.out.dW HP.out.even (by rw[<-S.out];omega) (by omega) (.inr ⟨R,rfl,by rw[<-S.out];exact aG⟩);have d0:=dw L 0;have d1:=dw L 1;have d2:=dw L 2;have bH:E<W7.heap.size:=lt_of_block L;have V:=dh (dn W (dn (Z.trans aA (fun x hx e=>by omega)) (dn (aA.at Y (fun e=>by omega)) (dn L (show R<s.length by rw[<-S.out];exact aG)))));rw[ag]at d0 d1 d2;have a8:=dh ag;clear H Z Y A hz az aA L W;go_upto_region 25 with fail;rw[<-ag]at d0 d1 d2 ⊢;clear ag a8 c0 c1 cf;go_wp2_with fail;refine hN.mono ?_;clear hN d0 d1 d2;rintro e W6 ⟨b,rfl,hM,bx,u⟩;have d0:=dw (u.at V.out.2.2.2.1 (fun h=>h)) 0;have d1:=dw (u.at V.out.2.2.2.1 (fun h=>h)) 1;have d2:=dw (u.at V.out.2.2.2.1 (fun h=>h)) 2;have B:=u.at V.out.2.2.1 (fun h=>h);have z0:=dw B 0;have z1:=dw B 1;have z2:=dw B 2;have u0:=dx B 0;have u1:=dx B 1;have u2:=dx B 2;have H6:=dh (dn hM (dn u B));have bz:=u.size;clear hM u B;go_wp2_with fail;go_region
     all_goals
      clear d0 d1 d2 z0 z1 z2 u0 u1 u2;have T:=oz H6.out.2.2 (.slice sa c sc) (.int .i64 (R:Int)) (.int .i64 (ln:Int));have e0:=dw T.1 0;have e1:=dw T.1 1;have e2:=dw T.1 2;have kd:=T.2.trans ((Keeps.refl (fun _=>False) _).drew) (fun _ _ h=>h.elim);go_wp2;refine bodyPost_ret (v:=.tuple #[.pointer (some ⟨b,0,none⟩),gG (.slice sa c sc) (R:Int) (ln:Int)]) ?_ rfl ⟨b,_,s,(R:Int),rfl,⟨HP.out.dW,HP.out.even,by have:=HP.out.le;omega⟩,.inr ⟨R,rfl,V.out.2.2.2.2⟩,⟨_,H6.out.1.keeps kd (fun h=>by omega) (fun x hx h=>by omega),fun x hx=>by omega,by omega⟩,(V.out.1.keeps H6.out.2.1 (fun _ _ h=>h)).keeps kd (fun q F e=>aF q F e),(V.out.2.1.trans H6.out.2.1 (fun _ _ h=>h)).trans kd (fun x hx e=>by omega)⟩;simp at e0 e1 e2;simp[results,Tryz.results11,go_sem,gG,e0,e1,e2]
