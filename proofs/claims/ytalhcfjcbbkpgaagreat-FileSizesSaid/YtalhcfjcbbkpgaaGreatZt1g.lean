import Derived.Test.YtalhcfjcbbkpgaaGreatZt0u
set_option maxRecDepth 100000
set_option maxHeartbeats 4000000
namespace Go.Proofs.YtalhcfjcbbkpgaaGreat
open Go.RowKit
def BA(w:World)(g:Nat)(f:Nat->Bool):Prop:=∃a:Array Value,w.heap[g]? = some (.cells a 118 (0,0))/\a.size=32/\∀x,x<32->a[x]? = some (.bool (f x))
theorem BA.cell{w:World}{g:Nat}{f:Nat->Bool}(h:BA w g f){x:Nat}(b:x<32):w.cell? ⟨g,x,none⟩=some (.bool (f x))/\w.frozen? ⟨g,x,none⟩=false:=by obtain⟨d,a,e,c⟩:=h;exact⟨by rw[dw a,c x b],dx a x⟩
theorem BA.set{w:World}{g:Nat}{f f':Nat->Bool}(h:BA w g f){x:Nat}{v:Bool}(j:x<32)(b:∀q,q<32->f' q=if q=x then v else f q):BA (w.setCell ⟨g,x,none⟩ (.bool v)) g f':=by
 obtain⟨k,c,d,i⟩:=h;refine⟨_,jM c x _,by rw[Array.size_setIfInBounds];exact d,fun q a=>?_⟩;rw[Array.getElem?_setIfInBounds,b q a];by_cases e:x=q
 ·subst e;rw[if_pos rfl,if_pos rfl,if_pos (by omega)]
 ·rw[if_neg e,if_neg (fun h=>e h.symm),i q a]
theorem BA.congr{w:World}{g:Nat}{f f':Nat->Bool}(h:BA w g f)(b:∀q,q<32->f' q=f q):BA w g f':=by obtain⟨c,d,e,i⟩:=h;exact⟨c,d,e,fun q a=>by rw[b q a];exact i q a⟩
theorem Yr(x:Nat):kK 0 x=x:=rfl
theorem Yt(k x:Nat):kK (k+1) x=xJ (kK k x):=rfl
theorem Yu(r b:Nat):zf r b=kK 8 (r ^^^ b):=rfl
theorem Yv:lu []=4294967295:=rfl
theorem Yw{bs:List Nat}{j b:Nat}(a:bs[j]? = some b):lu (bs.take (j+1))=zf (lu (bs.take j)) b:=by unfold lu;rw[vB a,List.foldl_append];rfl
attribute [local irreducible] iL kK xJ lu zf
theorem Yx(pv:Value)(bs:List Nat)(w:World)(Z:Sl .u8 w pv (dD bs))(aa:∀x ∈ bs,x<256)(hl:bs.length<=100000000) :
  Calls Tryz.prog 22 #[pv] w fun e w'=>e=.returned (.int .u32 (lC bs:Nat))/\Keeps (fun _=>False) w w':=by
 obtain⟨pa,pc,rfl,ab,-,-,-⟩:=id Z;rw[q01]at Z ab ⊢;obtain⟨N,hN⟩:∃N,N=bs.length:=⟨_,rfl⟩
 rw[<-hN]at Z hl ab ⊢;have HN:=dh hN;have HP:=dh Z;have HB:=dh aa;clear hN Z aa;go_enter Tryz.func22,Tryz.ntmps22;go_wp2_with fail;obtain⟨g,hg⟩:∃g,g=w.heap.size:=⟨_,rfl⟩
 have K:BA (w.alloc (.cells #[.bool false,.bool false,.bool false,.bool false,.bool false,.bool false,.bool false,.bool false,.bool false,.bool false,.bool false,.bool false,.bool false,.bool false,.bool false,.bool false,.bool false,.bool false,.bool false,.bool false,.bool false,.bool false,.bool false,.bool false,.bool false,.bool false,.bool false,.bool false,.bool false,.bool false,.bool false,.bool false] 118)) g (fun q=>decide (q<0)):=by rw[hg];refine⟨_,heap_alloc_new _ _,by rfl,fun x V=>?_⟩;have e:(#[.bool false,.bool false,.bool false,.bool false,.bool false,.bool false,.bool false,.bool false,.bool false,.bool false,.bool false,.bool false,.bool false,.bool false,.bool false,.bool false,.bool false,.bool false,.bool false,.bool false,.bool false,.bool false,.bool false,.bool false,.bool false,.bool false,.bool false,.bool false,.bool false,.bool false,.bool false,.bool false]:Array Value)=Array.replicate 32 (.bool false):=rfl;rw[e,Array.getElem?_replicate,if_pos V];rfl
 have ad:Keeps (fun _=>False) w (w.alloc (.cells #[.bool false,.bool false,.bool false,.bool false,.bool false,.bool false,.bool false,.bool false,.bool false,.bool false,.bool false,.bool false,.bool false,.bool false,.bool false,.bool false,.bool false,.bool false,.bool false,.bool false,.bool false,.bool false,.bool false,.bool false,.bool false,.bool false,.bool false,.bool false,.bool false,.bool false,.bool false,.bool false] 118)):=(Keeps.refl _ w).alloc _;rw[<-hg];generalize w.alloc _=w1 at *;have HG:=dh hg;clear hg;go_loopg [15] 32 (fun m i wr=>∃j:Nat,j<=32/\m=32 - j/\i=.int .i64 j/\BA wr g (fun q=>decide (q<j))/\Keeps (fun _=>False) w wr)
 case atStart=>exact⟨0,by omega,rfl,rfl,K,ad⟩
 case round =>
  clear K ad;obtain⟨j,hj,a,rfl,c,d⟩:=hrel;have D:=dh a;clear a;by_cases l:j<32
  ·obtain⟨u,L⟩:=c.cell l;have ae:=dh (dn c d);clear c d;go_wp2_with fail;go_roundg (32 - (j+1))
   case measure=>rw[D.out];omega
   case rel =>
    refine⟨j+1,by omega,rfl,by go_num,ae.out.1.set l (fun q E=>?_),ae.out.2.setCell (.inr (Nat.le_of_eq HG.out.symm)) _⟩;by_cases e:q=j
    ·rw[if_pos e,e];simp
    ·rw[if_neg e];have:q<j+1↔q<j:=by omega
     simp only [this]
  ·obtain rfl:j=32:=by omega
   clear D;have af:∃f,BA wr g f/\iL f 32=lu (bs.take 0)/\Keeps (fun _=>False) w wr:=⟨_,c.congr (f':=fun _=>true) (fun q E=>by simp[E]),by rw[VL,List.take_zero,Yv],d⟩
   clear c d hj l;go_wp2_with fail;rename_i aw;go_loopg [23] N (fun m i wr=>∃j:Nat,j<=N/\m=N - j/\i=.int .i64 j/\∃f,BA wr g f/\iL f 32=lu (bs.take j)/\Keeps (fun _=>False) w wr)
   case atStart=>exact⟨0,Nat.zero_le _,rfl,rfl,af⟩
   case round =>
    clear af;obtain⟨j,hj,a,rfl,f,c,hR,d⟩:=hrel;have D:=dh a;clear a;by_cases l:j<N
    ·obtain⟨b,V⟩:∃b,bs[j]? = some b:=⟨_,List.getElem?_eq_getElem (by rw[<-HN.out];exact l)⟩
     have hb:=HB.out b (List.mem_of_getElem? V);have r:=Yw V;obtain⟨_,_,he,_,_,_,ag⟩:=HP.out.keeps d (fun _ _ h=>h);injection he with am an ao;subst am;clear an ao;obtain⟨gb,off,rfl,S⟩:=ag j (b:Int) (by simp[dD,V]);clear ag;have F:=dh (dn r hR);have s:=dh (dn c d);clear r V c hR d;go_wp2_with fail;go_loopg [6,7] 8 (fun m bv kv y=>∃k:Nat,k<=8/\m=8 - k/\kv=.int .i64 k/\bv=.int .u8 (b / 2 ^ k:Nat)/\BA y g (fun q=>if q<k then f q != Nat.testBit b q else f q)/\Keeps (fun _=>False) w y)
     case atStart=>exact⟨0,by omega,rfl,rfl,by simp,s.out.1.congr (fun q _=>by simp),s.out.2⟩
     case round =>
      clear S;obtain⟨k,hk,a,rfl,rfl,c,d⟩:=hrel;have M:=dh a;clear a;by_cases l:k<8
      ·obtain⟨u,L⟩:=c.cell (x:=k) (by omega);rw[if_neg (Nat.lt_irrefl k)]at u;have ah:=dh (dn c d);clear c d;obtain⟨I,G⟩:∃I,I=b / 2 ^ k:=⟨_,rfl⟩
       have ax:I<256:=by rw[G];exact Nat.lt_of_le_of_lt (Nat.div_le_self _ _) hb
       have J:Hid ((decide (I % 2=1))=Nat.testBit b k):=dh (by rw[G,Nat.testBit_eq_decide_div_mod_eq]);have H:Hid (I / 2=b / 2 ^ (k+1)):=dh (by rw[G,Nat.div_div_eq_div_mul,Nat.pow_succ]);rw[<-G];clear G;go_wp2_with fail;go_roundg (8 - (k+1))
       case measure=>rw[M.out];omega
       case rel =>
        refine⟨k+1,by omega,rfl,by go_num,by rw[<-H.out];go_num,ah.out.1.set (by omega) (fun q E=>?_),ah.out.2.setCell (.inr (Nat.le_of_eq HG.out.symm)) _⟩;by_cases e:q=k
        ·rw[if_pos e,e,if_pos (Nat.lt_succ_self k),<-J.out]
         have e2:((I:Int) % 2 == 1)=decide (I % 2=1):=by
          by_cases h:I % 2=1
          ·have:(I:Int) % 2=1:=by omega
           simp[h,this]
          ·have:¬(I:Int) % 2=1:=by omega
           simp[h,this]
         rw[e2];rfl
        ·rw[if_neg e];have:q<k+1↔q<k:=by omega
         simp only [this]
      ·obtain rfl:k=8:=by omega
       have O:∃n,BA wr g n/\iL n 32=kK 0 (lu (bs.take j) ^^^ b)/\Keeps (fun _=>False) w wr:=⟨_,c,by rw[VI hb,F.out.2,Yr],d⟩
       clear M c d hk l s;go_wp2_with fail;go_loopg [8] 8 (fun m kv y=>∃k:Nat,k<=8/\m=8 - k/\kv=.int .i64 k/\∃n,BA y g n/\iL n 32=kK k (lu (bs.take j) ^^^ b)/\Keeps (fun _=>False) w y)
       case atStart=>exact⟨0,by omega,rfl,rfl,O⟩
       case round =>
        clear O;obtain⟨k,hk,a,rfl,n,c,ai,d⟩:=hrel;have aj:=dh a;have ak:=dh ai;clear a ai;by_cases l:k<8
        ·obtain⟨u,L⟩:=c.cell (x:=0) (by omega);obtain⟨o,ho⟩:∃o,o=n 0:=⟨_,rfl⟩
         rw[<-ho]at u;have HO:=dh ho;clear ho;have T:=dh (dn c d);clear c d;go_wp2_with fail;clear u L;go_loopg [10] 31 (fun m iv y=>∃i:Nat,i<=31/\m=31 - i/\iv=.int .i64 i/\BA y g (fun q=>if q<i then n (q+1)else n q)/\Keeps (fun _=>False) w y)
         case atStart=>exact⟨0,by omega,rfl,rfl,T.out.1.congr (fun q _=>by simp),T.out.2⟩
         case round =>
          clear T;obtain⟨i,hi,a,rfl,c,d⟩:=hrel;have P:=dh a;clear a;by_cases l:i<31
          ·obtain⟨u,L⟩:=c.cell (x:=i) (by omega);obtain⟨ap,-⟩:=c.cell (x:=i+1) (by omega);rw[if_neg (Nat.lt_irrefl i)]at u;rw[if_neg (by omega)]at ap;have B:=dh (dn c d);clear c d;go_wp2_with fail;go_roundg (31 - (i+1))
           case measure=>rw[P.out];omega
           case rel =>
            refine⟨i+1,by omega,rfl,by go_num,B.out.1.set (by omega) (fun q E=>?_),B.out.2.setCell (.inr (Nat.le_of_eq HG.out.symm)) _⟩;by_cases e:q=i
            ·rw[if_pos e,e,if_pos (Nat.lt_succ_self i)]
            ·rw[if_neg e];have:q<i+1↔q<i:=by omega
             simp only [this]
          ·obtain rfl:i=31:=by omega
           obtain⟨u,L⟩:=c.cell (x:=31) (by omega)
           have B:Hid (BA (wr.setCell ⟨g,31,none⟩ (.bool false)) g (fun q=>if q<31 then n (q+1)else false)/\Keeps (fun _=>False) w (wr.setCell ⟨g,31,none⟩ (.bool false))):=dh ⟨c.set (by omega) (fun q E=>by
            by_cases e:q=31
            ·rw[if_pos e,e];rfl
            ·rw[if_neg e];have:q<31:=by omega
             simp only [this,if_true]),d.setCell (.inr (Nat.le_of_eq HG.out.symm)) _⟩
           clear P c d hi l;go_wp2_with fail;clear u L;go_loopg [11,12] 32 (fun m xv iv y=>∃i:Nat,i<=32/\m=32 - i/\iv=.int .i64 i/\xv=.int .u32 (3988292384 / 2 ^ i:Nat)/\BA y g (fun q=>if q<i then (if q<31 then n (q+1)else false) != (o && Nat.testBit 3988292384 q)else (if q<31 then n (q+1)else false))/\Keeps (fun _=>False) w y)
           case atStart=>exact⟨0,by omega,rfl,rfl,by rfl,B.out.1.congr (fun q _=>by simp),B.out.2⟩
           case round =>
            clear B;obtain⟨i,hi,a,rfl,rfl,c,d⟩:=hrel;have z:=dh a;clear a;by_cases l:i<32
            ·obtain⟨u,L⟩:=c.cell (x:=i) (by omega);rw[if_neg (Nat.lt_irrefl i)]at u;have C:=dh (dn c d);clear c d;obtain⟨A,p⟩:∃A,A=3988292384 / 2 ^ i:=⟨_,rfl⟩
             have ay:A<4294967296:=by rw[p];exact Nat.lt_of_le_of_lt (Nat.div_le_self _ _) (by decide)
             have J:Hid ((decide (A % 2=1))=Nat.testBit 3988292384 i):=dh (by rw[p,Nat.testBit_eq_decide_div_mod_eq]);have H:Hid (A / 2=3988292384 / 2 ^ (i+1)):=dh (by rw[p,Nat.div_div_eq_div_mul,Nat.pow_succ]);rw[<-p];clear p;obtain⟨v,X⟩:∃v,v=(if i<31 then n (i+1)else false):=⟨_,rfl⟩
             have Y:=dh X;rw[<-X]at u;clear X
             have Q:∀(v':Bool),v'=(v != (o && Nat.testBit 3988292384 i))->∀W:World,BA W g (fun q=>if q=i then v' else if q<i then (if q<31 then n (q+1)else false) != (o && Nat.testBit 3988292384 q)else (if q<31 then n (q+1)else false))->BA W g (fun q=>if q<i+1 then (if q<31 then n (q+1)else false) != (o && Nat.testBit 3988292384 q)else (if q<31 then n (q+1)else false)):=fun v' aq W h=>h.congr (fun q E=>by
              by_cases e:q=i
              ·rw[if_pos e,e,if_pos (Nat.lt_succ_self i),aq,Y.out]
              ·rw[if_neg e];have:q<i+1↔q<i:=by omega
               simp only [this])
             have HE:=dh Q;clear Q;cases o with
             | false =>
              go_wp2_with fail
              go_roundg (32 - (i+1))
              case measure=>rw[z.out];omega
              case rel =>
               refine⟨i+1,by omega,rfl,by go_num,by rw[<-H.out];go_num,HE.out v (by simp) _ (C.out.1.congr (fun q E=>?_)),C.out.2⟩;by_cases e:q=i
               ·rw[if_pos e,e,if_neg (Nat.lt_irrefl i),Y.out]
               ·rw[if_neg e]
             | true =>
              by_cases h1:A % 2=1
              ·have e1:((A:Int) % 2 == 1)=true:=by
                have:(A:Int) % 2=1:=by omega
                simp[this]
               go_wp2_with fail
               go_roundg (32 - (i+1))
               case measure=>rw[z.out];omega
               case rel =>
                refine⟨i+1,by omega,rfl,by go_num,by rw[<-H.out];go_num,HE.out (!v) (by rw[<-J.out];simp[h1]) _ (C.out.1.set (by omega) (fun q E=>rfl)),C.out.2.setCell (.inr (Nat.le_of_eq HG.out.symm)) _⟩
              ·have e1:((A:Int) % 2 == 1)=false:=by
                have:¬(A:Int) % 2=1:=by omega
                simp[this]
               go_wp2_with fail
               go_roundg (32 - (i+1))
               case measure=>rw[z.out];omega
               case rel =>
                refine⟨i+1,by omega,rfl,by go_num,by rw[<-H.out];go_num,HE.out v (by rw[<-J.out];simp[h1]) _ (C.out.1.congr (fun q E=>?_)),C.out.2⟩;by_cases e:q=i
                ·rw[if_pos e,e,if_neg (Nat.lt_irrefl i),Y.out]
                ·rw[if_neg e]
            ·obtain rfl:i=32:=by omega
             clear z;go_wp2_with fail;go_roundg (8 - (k+1))
             case measure=>rw[aj.out];omega
             case rel=>exact⟨k+1,by omega,rfl,by go_num,_,c.congr (fun q E=>by rw[if_pos E]),by rw[HO.out,VJ,ak.out,Yt],d⟩
        ·obtain rfl:k=8:=by omega
         go_wp2_with fail
         go_roundg (N - (j+1))
         case measure=>rw[D.out];omega
         case rel=>exact⟨j+1,by omega,rfl,by go_num,n,c,by rw[ak.out,F.out.1,Yu],d⟩
    ·obtain rfl:j=N:=by omega
     clear D;have hV:lC bs=iL (fun q=>!f (0+q)) (32 - 0):=by rw[List.take_of_length_le (by rw[<-HN.out];exact Nat.le_refl _)]at hR;simp only [Nat.zero_add];rw[VK,hR];rfl
     have Y:=dh hV;have s:=dh (dn c d);clear hV hR c d;obtain⟨cv,U⟩:∃cv,cv=lC bs:=⟨_,rfl⟩
     rw[<-U]at Y;have ar:=dh U;clear U;clear l hj;go_wp2_with fail;go_loopg [13,14] 32 (fun m xv iv y=>∃t:Nat,t<=32/\m=t/\iv=.int .i64 ((t:Int) - 1)/\xv=.int .u32 (iL (fun q=>!f (t+q)) (32 - t):Nat)/\BA y g f/\Keeps (fun _=>False) w y)
     case atStart=>exact⟨32,by omega,rfl,rfl,by simp[iL],s.out.1,s.out.2⟩
     case round =>
      clear s;obtain⟨t,ht,a,rfl,rfl,c,d⟩:=hrel;have R:=dh a;clear a;cases t with
      | succ t =>
       obtain⟨u,L⟩:=c.cell (x:=t) (by omega);have r:=VN f (i:=t) (by omega);have l:=OV (32 - (t+1)) (fun q=>!f (t+1+q));have au:2 ^ (32 - (t+1))<=2 ^ 31:=Nat.pow_le_pow_right (by omega) (by omega);obtain⟨A,p⟩:∃A,A=iL (fun q=>!f (t+1+q)) (32 - (t+1)):=⟨_,rfl⟩
       rw[<-p]at r l ⊢;have av:A<2147483648:=by omega
       obtain⟨v,X⟩:∃v,v=f t:=⟨_,rfl⟩
       rw[<-X]at r u;have F:=dh r;have al:=dh (dn c d);clear r l au p X c d;cases v with
       | false =>
        go_wp2_with fail
        go_roundg t
        case measure=>rw[R.out];omega
        case rel=>exact⟨t,by omega,rfl,by go_num,by rw[F.out];go_num,al.out⟩
       | true =>
        go_wp2_with fail
        go_roundg t
        case measure=>rw[R.out];omega
        case rel=>exact⟨t,by omega,rfl,by go_num,by rw[F.out];go_num,al.out⟩
      | zero =>
       rw[<-Y.out];go_wp2_with fail;go_ret;exact⟨by rw[<-ar.out];rfl,d⟩
