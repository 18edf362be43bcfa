import Derived.Test.YtalhcfjcbbkpgaaGreatZt1d
set_option maxRecDepth 100000
set_option maxHeartbeats 4000000
namespace Go.Proofs.YtalhcfjcbbkpgaaGreat
section
open Go.RowKit
theorem Yl(sv:Value)(rt ln:Int)(s:List Nat)(w:World)(H:Sl .i64 w sv (dD s))(i:∀k,sv.ownBlock=some k->k<w.heap.size)(A:dU s.length (sg s))(I:s.length % 2=0)(T:s.length<=1000000) :
  Calls Tryz.prog 57 #[.agg #[sv,.int .i64 rt,.int .i64 ln]] w fun e w'=>e=.returned (.int .i64 (ig s (s.length / 2):Nat))/\Keeps (fun _=>False) w w':=by
 have u:Keeps (fun _=>False) w (w.alloc (.cells #[sv,.int .i64 rt,.int .i64 ln] 27)):=(Keeps.refl _ w).alloc _;have l:pK w.heap.size sv rt ln (w.alloc (.cells #[sv,.int .i64 rt,.int .i64 ln] 27)):=heap_alloc_new w _;have n:=Gv sv s _ (H.keeps u (fun _ _ h=>h)) (fun k B=>Nat.lt_of_lt_of_le (i k B) u.size) A T;have C:=l.cell;have o:=dh u;have J:=dh A;have U:=dh I;clear H i A l u I;obtain⟨M,c⟩:∃M,M=s.length / 2:=⟨_,rfl⟩
 rw[<-c];have K:Hid (s.length=2 * M):=dh (by have:=U.out;omega);clear c;go_enter Tryz.func57,Tryz.ntmps57;go_wp2_with fail;refine n.mono ?_;rintro e w1 ⟨g,rfl,c⟩;clear C n;have p:Keeps (fun _=>False) w w1:=by obtain⟨_,_,_,_,B⟩:=id c;exact o.out.trans B (fun _ _ h=>h)
 have L:∀j,j<s.length->w1.cell? ⟨g,j,none⟩=some (.int .i64 (dB (sg s) j:Nat)):=fun j D=>by obtain⟨z,⟨zs,_,rfl,N⟩,V,-⟩:=c.cell j D;simp[dD,D]at N;rw[V,<-N]
 have O:=dh L;have E:=dh p;clear L c p o;generalize World.alloc _ _=wA at *;have P:=Keeps.refl (fun _=>False) w1;go_wp2_with fail;go_loopg [3,5] M (fun m W X wr=>∃j:Nat,j<=M/\m=M - j/\X=.int .i64 (2 * j:Nat)/\W=.int .i64 (ig s j:Nat)/\Keeps (fun _=>False) w1 wr)
 case atStart=>exact⟨0,Nat.zero_le _,rfl,rfl,rfl,P⟩
 case round =>
  clear P;obtain⟨j,D,r,rfl,rfl,f⟩:=hrel;have t:=dh r;clear r;have F:=Fj s j;by_cases Y:j<M
  ·have G:2 * j+1<s.length:=by have:=K.out;omega
   have Z:=f.jY (O.out (2 * j) (by omega));have c2:=f.jY (O.out (2 * j+1) (by omega));have b1:=sO J.out (d:=2 * j) (by omega);have b2:=sO J.out (d:=2 * j+1) (by omega);have a:ig s (j+1)=ig s j+if dB (sg s) (2 * j)=dB (sg s) (2 * j+1)then 1 else 0:=rfl
   obtain⟨x,Q⟩:∃x,x=dB (sg s) (2 * j):=⟨_,rfl⟩
   obtain⟨y,R⟩:∃y,y=dB (sg s) (2 * j+1):=⟨_,rfl⟩
   obtain⟨q,S⟩:∃q,q=ig s j:=⟨_,rfl⟩
   rw[<-Q]at a Z b1;rw[<-R]at a c2 b2;rw[<-S]at a F ⊢;have v:=dh f;clear Q R S f;by_cases e:x=y
   ·have b:Hid (ig s (j+1)=q+1):=dh (by rw[a,if_pos e]);clear a;subst e;go_wp2_with fail;go_region;go_wp2_with fail;go_roundg (M - (j+1))
    case measure=>rw[t.out];omega
    case rel=>exact⟨j+1,by omega,rfl,by go_num,by rw[b.out];go_num,by first|exact v.out|exact v.out.drew⟩
   ·have b:Hid (ig s (j+1)=q):=dh (by rw[a,if_neg e,Nat.add_zero]);clear a;have e1:((x:Int) == (y:Int))=false:=by rw[beq_eq_false_iff_ne];omega
    go_wp2_with fail
    go_region;go_wp2_with fail
    go_roundg (M - (j+1))
    case measure=>rw[t.out];omega
    case rel=>exact⟨j+1,by omega,rfl,by go_num,by rw[b.out],by first|exact v.out|exact v.out.drew⟩
  ·obtain rfl:j=M:=by omega
   have G:s.length<=2 * j:=by have:=K.out;omega
   have HF:=dh (E.out.trans f (fun _ _ h=>h));clear f;go_wp2_with fail;go_ret;exact⟨rfl,HF.out⟩
def mW(s:List Nat)(j x:Nat)(b:Bool):Prop:=b=true↔∃y,y<x/\uR s j y
theorem mW.zero(s:List Nat)(j:Nat):mW s j 0 false:=⟨(fun h=>by cases h),(fun ⟨_,h,_⟩=>by omega)⟩
theorem mW.more{s:List Nat}{j x:Nat}{b c:Bool}(h:mW s j x b)(d:c=true↔uR s j x):mW s j (x+1) (b || c):=by
 unfold mW at *;rw[Bool.or_eq_true,h,d];constructor
 ·rintro (⟨y,f,a⟩|a)
  ·exact⟨y,by omega,a⟩
  ·exact⟨x,by omega,a⟩
 ·rintro⟨y,f,a⟩;by_cases e:y=x
  ·subst e;exact .inr a
  ·exact .inl ⟨y,by omega,a⟩
theorem Ym(sv:Value)(rt ln:Int)(s:List Nat)(w:World)(hs:Sl .i64 w sv (dD s))(G:∀k,sv.ownBlock=some k->k<w.heap.size)(S:dU s.length (sg s))(he:s.length % 2=0)(hl:s.length<=1000000) :
  Calls Tryz.prog 58 #[.agg #[sv,.int .i64 rt,.int .i64 ln]] w fun e w'=>e=.returned (.int .i64 (l8 s (s.length / 2):Nat))/\Keeps (fun _=>False) w w':=by
 have O:Keeps (fun _=>False) w (w.alloc (.cells #[sv,.int .i64 rt,.int .i64 ln] 27)):=(Keeps.refl _ w).alloc _;have H:pK w.heap.size sv rt ln (w.alloc (.cells #[sv,.int .i64 rt,.int .i64 ln] 27)):=heap_alloc_new w _;have I:=Gv sv s _ (hs.keeps O (fun _ _ h=>h)) (fun k T=>Nat.lt_of_lt_of_le (G k T) O.size) S hl;have U:=H.cell;have J:=dh O;have P:=dh S;have HE:=dh he;clear hs G S H O he;obtain⟨M,E⟩:∃M,M=s.length / 2:=⟨_,rfl⟩
 rw[<-E];have HM:Hid (s.length=2 * M):=dh (by have:=HE.out;omega);clear E;go_enter Tryz.func58,Tryz.ntmps58;go_wp2_with fail;refine I.mono ?_;rintro e w1 ⟨g,rfl,E⟩;clear U I;have K:Keeps (fun _=>False) w w1:=by obtain⟨_,_,_,_,T⟩:=id E;exact J.out.trans T (fun _ _ h=>h)
 have hC:∀j,j<s.length->w1.cell? ⟨g,j,none⟩=some (.int .i64 (dB (sg s) j:Nat)):=fun j V=>by obtain⟨z,⟨zs,_,rfl,hz⟩,hc,-⟩:=E.cell j V;simp[dD,V]at hz;rw[hc,<-hz]
 have F:=dh hC;have X:=dh K;clear hC E K J;generalize World.alloc _ _=wA at *;have h0:=Keeps.refl (fun _=>False) w1;go_wp2_with fail;go_loopg [3,5] M (fun m nv iv wr=>∃j:Nat,j<=M/\m=M - j/\iv=.int .i64 (2 * j:Nat)/\nv=.int .i64 (l8 s j:Nat)/\Keeps (fun _=>False) w1 wr)
 case atStart=>exact⟨0,Nat.zero_le _,rfl,rfl,rfl,h0⟩
 case round =>
  clear h0;obtain⟨j,V,o,rfl,rfl,l⟩:=hrel;have u:=dh o;clear o;have Y:=KO s j;by_cases aa:j<M
  ·have L:2 * j+1<s.length:=by have:=HM.out;omega
   have b1:=sO P.out (d:=2 * j) (by omega);have b2:=sO P.out (d:=2 * j+1) (by omega);obtain⟨D,v⟩:∃D,D=2 * j:=⟨_,rfl⟩
   rw[<-v]at L b1 b2 ⊢;have HD2:=dh v;clear v;obtain⟨q,Z⟩:∃q,q=l8 s j:=⟨_,rfl⟩
   rw[<-Z]at Y ⊢;have HQ:=dh Z;clear Z;go_wp2_with fail
   try simp only [show decide (D<s.length)=true from decide_eq_true (by omega)]
   try simp only [show decide ((D:Int)<(s.length:Int))=true from decide_eq_true (by omega)]
   go_loopg [6,7] (D) (fun m fv xv wx=>∃x:Nat,∃b:Bool,x<=D/\m=D - x/\xv=.int .i64 x/\fv=.bool b/\mW s j x b/\Keeps (fun _=>False) w1 wx)
   case atStart=>exact⟨0,false,Nat.zero_le _,rfl,rfl,rfl,.zero s j,l⟩
   case round =>
    clear l;obtain⟨x,b,hx,o,rfl,rfl,hF,l⟩:=hrel;have i:=dh o;clear o;by_cases ab:x<D
    ·have c1:=l.jY (F.out (D) (by omega));have c2:=l.jY (F.out (D+1) (by omega));have c3:=l.jY (F.out x (by omega));have A:=dR HE.out (show x<s.length by omega);have c4:=l.jY (F.out (mt x) A);have B:=fun W=>A8 x W (by omega);have f:=dh (dn l hF);clear l hF;have b3:=sO P.out (d:=x) (by omega);have b4:=sO P.out A;have hD:uR s j x↔dB (sg s) x=dB (sg s) (D)/\dB (sg s) (mt x)=dB (sg s) (D+1):=by rw[HD2.out];exact Iff.rfl
     obtain⟨y,hy⟩:∃y,y=mt x:=⟨_,rfl⟩
     rw[<-hy]at A c4 B b4 hD;clear hy;generalize dB (sg s) x=p at *;generalize dB (sg s) y=r at *;generalize dB (sg s) (D)=a at *;generalize dB (sg s) (D+1)=d at *;have Q:=dh hD;clear hD;have i0:(0:Int)<=(x:Int):=by omega
     have i1:(x:Int)<(s.length:Int):=by omega
     have i2:(0:Int)<=(D:Int):=by omega
     have i3:(D:Int)<(s.length:Int):=by omega
     have i4:(0:Int)<=(D:Int)+1:=by omega
     have i5:(D:Int)+1<(s.length:Int):=by omega
     have i8:IntKind.i64.wrap ((D:Int)+1)=(D:Int)+1:=IntWalk.i64_in _ (by omega);have i9:((D:Int)+1).toNat=D+1:=by omega
     have i6:(0:Int)<=(y:Int):=by omega
     have i7:(y:Int)<(s.length:Int):=by omega
     cases b with
     | true =>
      have C:=dh (f.out.2.more (c:=decide (p=a/\r=d)) (by rw[Q.out];simp));go_wp2_with fail;go_region;go_wp2_with fail;go_roundg (D - (x+1))
      case measure=>rw[i.out];omega
      case rel=>exact⟨x+1,true,by omega,rfl,by first|go_num | (have:=HD2.out;subst this;go_num),rfl,C.out,by first|exact f.out.1|exact f.out.1.drew⟩
     | false =>
      by_cases R:p=a
      ·by_cases a2:r=d
       ·have C:=dh (f.out.2.more (c:=true) ⟨fun _=>Q.out.2 ⟨R,a2⟩,fun _=>rfl⟩);have e1:((p:Int) == (a:Int))=true:=by rw[R];simp
        have e2:((r:Int) == (d:Int))=true:=by rw[a2];simp
        go_wp2_with fail
        go_region_held3 (fun w'=>w'.cell? ⟨g,D,none⟩=some (.int .i64 (a:Nat))/\w'.cell? ⟨g,D+1,none⟩=some (.int .i64 (d:Nat))/\w'.cell? ⟨g,x,none⟩=some (.int .i64 (p:Nat))/\w'.cell? ⟨g,y,none⟩=some (.int .i64 (r:Nat))) (exact⟨c1,c2,c3,c4⟩) ((go_at_call 67;refine(B _).mono ?_;rintro e w' ⟨rfl,rfl⟩))
        go_wp2_with fail
        go_roundg (D - (x+1))
        case measure=>rw[i.out];omega
        case rel=>exact⟨x+1,true,by omega,rfl,by first|go_num | (have:=HD2.out;subst this;go_num),by first|rfl|simp,C.out,by first|exact f.out.1|exact f.out.1.drew⟩
       ·have C:=dh (f.out.2.more (c:=false) ⟨(fun h=>by cases h),fun h=>absurd (Q.out.1 h).2 a2⟩);have e1:((r:Int) == (d:Int))=false:=by rw[beq_eq_false_iff_ne];omega
        have e2:((p:Int) == (a:Int))=true:=by rw[R];simp
        go_wp2_with fail
        go_region_held3 (fun w'=>w'.cell? ⟨g,D,none⟩=some (.int .i64 (a:Nat))/\w'.cell? ⟨g,D+1,none⟩=some (.int .i64 (d:Nat))/\w'.cell? ⟨g,x,none⟩=some (.int .i64 (p:Nat))/\w'.cell? ⟨g,y,none⟩=some (.int .i64 (r:Nat))) (exact⟨c1,c2,c3,c4⟩) ((go_at_call 67;refine(B _).mono ?_;rintro e w' ⟨rfl,rfl⟩))
        go_wp2_with fail
        go_roundg (D - (x+1))
        case measure=>rw[i.out];omega
        case rel=>exact⟨x+1,false,by omega,rfl,by first|go_num | (have:=HD2.out;subst this;go_num),by first|rfl|simp,C.out,by first|exact f.out.1|exact f.out.1.drew⟩
      ·have C:=dh (f.out.2.more (c:=false) ⟨(fun h=>by cases h),fun h=>absurd (Q.out.1 h).1 R⟩);have e1:((p:Int) == (a:Int))=false:=by rw[beq_eq_false_iff_ne];omega
       go_wp2_with fail
       go_region;go_wp2_with fail
       go_roundg (D - (x+1))
       case measure=>rw[i.out];omega
       case rel=>exact⟨x+1,false,by omega,rfl,by first|go_num | (have:=HD2.out;subst this;go_num),by first|rfl|simp,C.out,by first|exact f.out.1|exact f.out.1.drew⟩
    ·obtain rfl:D=x:=by omega
     have c1:=l.jY (F.out (D) (by omega));have c2:=l.jY (F.out (D+1) (by omega));have n:l8 s (j+1)=l8 s j+open Classical in if (∃x,x<D/\uR s j x)/\dB (sg s) D≠dB (sg s) (D+1)then 1 else 0:=by rw[HD2.out];rfl
     rw[<-HQ.out]at n;unfold mW at hF;generalize dB (sg s) (D)=a at *;generalize dB (sg s) (D+1)=d at *;have f:=dh l;have ad:q<1000000:=by have:=HD2.out;omega
     have N:=dh hF;clear l hF i;cases b with
     | false =>
      have t:Hid (l8 s (j+1)=q):=dh (by rw[n,if_neg (fun h=>by have:=N.out.2 h.1;cases this),Nat.add_zero]);clear n;go_wp2_with fail;go_region;go_wp2_with fail;go_roundg (M - (j+1))
      case measure=>rw[u.out];omega
      case rel=>exact⟨j+1,by omega,rfl,by rw[show 2 * (j+1)=D+2 by have:=HD2.out;omega];go_num,by rw[t.out],by first|exact f.out|exact f.out.drew⟩
     | true =>
      by_cases e:a=d
      ·have t:Hid (l8 s (j+1)=q):=dh (by rw[n,if_neg (fun h=>h.2 e),Nat.add_zero]);clear n;subst e;go_wp2_with fail;go_region;go_wp2_with fail;go_roundg (M - (j+1))
       case measure=>rw[u.out];omega
       case rel=>exact⟨j+1,by omega,rfl,by rw[show 2 * (j+1)=D+2 by have:=HD2.out;omega];go_num,by rw[t.out],by first|exact f.out|exact f.out.drew⟩
      ·have t:Hid (l8 s (j+1)=q+1):=dh (by rw[n,if_pos ⟨N.out.1 rfl,e⟩]);clear n;have e1:((a:Int) == (d:Int))=false:=by rw[beq_eq_false_iff_ne];omega
       go_wp2_with fail
       go_region;go_wp2_with fail
       go_roundg (M - (j+1))
       case measure=>rw[u.out];omega
       case rel=>exact⟨j+1,by omega,rfl,by rw[show 2 * (j+1)=D+2 by have:=HD2.out;omega];go_num,by rw[t.out];go_num,by first|exact f.out|exact f.out.drew⟩
  ·obtain rfl:j=M:=by omega
   have L:s.length<=2 * j:=by have:=HM.out;omega
   have HF:=dh (X.out.trans l (fun _ _ h=>h));clear l;go_wp2_with fail;go_ret;exact⟨rfl,HF.out⟩
end
section
open Go.RowKit
theorem Yn{n:Nat}{S:Nat->Nat}(h:dU n S){j:Nat}(a:j<n):dY S (j+1)=if dY S j<=dB S j then dB S j+1 else dY S j:=by
 have hr:=h.gK a;rw[qW];by_cases e:rep S j=j
 ·have b:dB S j=dY S j:=by unfold dB;rw[e]
  rw[if_pos e,if_pos (by omega),b]
 ·have d:dY S (rep S j+1)<=dY S j:=q32 S (by omega);have c:=qW S (rep S j);rw[if_pos (h.iO a)]at c;have b:dB S j=dY S (rep S j):=rfl;rw[if_neg e,if_neg (by omega),Nat.add_zero]
theorem Yo(sv:Value)(s:List Nat)(w:World)(y:Sl .i64 w sv (dD s))(d:∀k,sv.ownBlock=some k->k<w.heap.size)(p:dU s.length (sg s))(G:s.length<=1000000) :
  Calls Tryz.prog 103 #[sv] w fun e w'=>e=.returned (.int .i64 (dY (sg s) s.length:Nat))/\Keeps (fun _=>False) w w':=by
 have f:=Gv sv s w y d p G;have A:=dh p;clear y d p;go_enter Tryz.func103,Tryz.ntmps103;go_wp2_with fail;refine f.mono ?_;rintro e w1 ⟨g,rfl,r⟩;clear f;have i:Keeps (fun _=>False) w w1:=by obtain⟨_,_,_,_,H⟩:=id r;exact H
 have B:∀j,j<s.length->w1.cell? ⟨g,j,none⟩=some (.int .i64 (dB (sg s) j:Nat)):=fun j t=>by obtain⟨z,⟨zs,_,rfl,C⟩,I,-⟩:=r.cell j t;simp[dD,t]at C;rw[I,<-C]
 have J:=dh B;have u:=dh i;clear B r i;have D:=Keeps.refl (fun _=>False) w1;go_wp2_with fail;go_loopg [3,9] s.length (fun m K L wr=>∃j:Nat,j<=s.length/\m=s.length - j/\L=.int .i64 j/\K=.int .i64 (dY (sg s) j:Nat)/\Keeps (fun _=>False) w1 wr)
 case atStart=>exact⟨0,Nat.zero_le _,rfl,rfl,rfl,D⟩
 case round =>
  clear D;obtain⟨j,t,l,rfl,rfl,n⟩:=hrel;have o:=dh l;clear l;have v:=nY (sg s) j;by_cases b:j<s.length
  ·have N:=n.jY (J.out j b);have O:=sO A.out b;have a:=Yn A.out b;generalize dB (sg s) j=x at *;obtain⟨q,E⟩:∃q,q=dY (sg s) j:=⟨_,rfl⟩
   rw[<-E]at a v ⊢;have F:=dh n;clear E n;by_cases e:q<=x
   ·have c:Hid (dY (sg s) (j+1)=x+1):=dh (by rw[a,if_pos e]);clear a;go_wp2_with fail;go_roundg (s.length - (j+1))
    case measure=>rw[o.out];omega
    case rel=>exact⟨j+1,by omega,rfl,by go_num,by rw[c.out];go_num,F.out⟩
   ·have c:Hid (dY (sg s) (j+1)=q):=dh (by rw[a,if_neg e]);clear a;go_wp2_with fail;go_roundg (s.length - (j+1))
    case measure=>rw[o.out];omega
    case rel=>exact⟨j+1,by omega,rfl,by go_num,by rw[c.out],F.out⟩
  ·obtain rfl:j=s.length:=by omega
   have M:=dh (u.out.trans n (fun _ _ h=>h));clear n;go_wp2_with fail;go_ret;exact⟨rfl,M.out⟩
theorem Yp(sv:Value)(rt:Int)(ln:Nat)(s:List Nat)(w:World)(l:Sl .i64 w sv (dD s))(c:∀k,sv.ownBlock=some k->k<w.heap.size)(m:dU s.length (sg s))(n:s.length<=1000000)(o:ln<=1000000) :
  Calls Tryz.prog 50 #[.agg #[sv,.int .i64 rt,.int .i64 ln]] w fun e w'=>e=.returned (.int .i64 (dY (sg s) s.length+ln:Nat))/\Keeps (fun _=>False) w w':=by
 have d:Keeps (fun _=>False) w (w.alloc (.cells #[sv,.int .i64 rt,.int .i64 ln] 27)):=(Keeps.refl _ w).alloc _;have a:pK w.heap.size sv rt ln (w.alloc (.cells #[sv,.int .i64 rt,.int .i64 ln] 27)):=heap_alloc_new w _
 have p:Hid (∀W,Keeps (fun _=>False) (w.alloc (.cells #[sv,.int .i64 rt,.int .i64 ln] 27)) W->Calls Tryz.prog 103 #[sv] W fun e w'=>e=.returned (.int .i64 (dY (sg s) s.length:Nat))/\Keeps (fun _=>False) (w.alloc (.cells #[sv,.int .i64 rt,.int .i64 ln] 27)) w'):=dh (fun W f =>
  (Yo sv s W (l.keeps (d.trans f (fun _ _ h=>h)) (fun _ _ h=>h)) (fun k h=>Nat.lt_of_lt_of_le (c k h) (d.trans f (fun _ _ h=>h)).size) m n).mono (fun _ _ h=>⟨h.1,f.trans h.2 (fun _ _ h=>h)⟩))
 have q:=a.cell;have u:=dw a 2;have r:=nY (sg s) s.length;have g:=dh d;have i:=dh a;have j:IntKind.i64.wrap (((dY (sg s) s.length:Nat):Int)+(ln:Int))=((dY (sg s) s.length+ln:Nat):Int):=by rw[IntWalk.i64_in _ (by omega)];omega
 generalize dY (sg s) s.length=V at *;clear l c m a d;go_enter Tryz.func50,Tryz.ntmps50;go_wp2_with fail;generalize World.alloc _ _=wA at *;go_region_with (go_at_call 103;refine(p.out _ (by first|exact(Keeps.refl _ _).drew|exact Keeps.refl _ _)).mono ?_;rintro e w1 ⟨rfl,b⟩;have v:=dw (i.out.keeps b (fun h=>h)) 2)
 all_goals
  have t:=dh (g.out.trans b (fun _ _ h=>h));clear b;go_wp2;go_ret;exact⟨by first|rfl|exact congrArg (fun z=>Ending.returned (Value.int .i64 z)) j|go_num,t.out⟩
theorem Yq{s:List Nat}:∀{j},l8 s j=0↔lF s j=0
 | j=>⟨Yd,fun h=>by
  rw[DU]at h
  have g:∀f,f<j->∀x,x<2 * f->eA s f≠eB s f->¬uR s f x:=fun f m x n c d=>by
   have o:dB (sg s) x=eA s f:=d.1;have p:dB (sg s) (mt x)=eB s f:=d.2;rcases(show x=2 * (x / 2)\/x=2 * (x / 2)+1 by omega)with e|e
   ·have k:mt x=2 * (x / 2)+1:=by unfold mt;rw[if_pos (by omega)];omega
    have a:eA s (x / 2)=eA s f:=by rw[<-o];unfold eA;rw[<-e]
    have b:eB s (x / 2)=eB s f:=by rw[<-p];unfold eB;rw[<-k]
    exact h (x / 2) f (by omega) m (by rw[a,b];exact c) c ⟨by rw[a,b],by rw[a,b]⟩
   ·have k:mt x=2 * (x / 2):=by unfold mt;rw[if_neg (by omega)];omega
    have a:eB s (x / 2)=eA s f:=by rw[<-o];unfold eB;rw[<-e]
    have b:eA s (x / 2)=eB s f:=by rw[<-p];unfold eA;rw[<-k]
    exact h (x / 2) f (by omega) m (by rw[a,b];exact c.symm) c ⟨by rw[a,b];omega,by rw[a,b];omega⟩
  have l:∀i,i<=j->l8 s i=0:=fun i=>by
   induction i with
   | zero=>intro _;rfl
   | succ i q =>
    intro r;unfold l8;rw[q (by omega),if_neg];rintro⟨⟨x,n,d⟩,c⟩;exact g i (by omega) x n c d
  exact l j (Nat.le_refl _)⟩
theorem dU.KS{n:Nat}{S:Nat->Nat}(h:dU n S){d:Nat}(i:d<n):per S d=3↔S (S (S d))=d/\S d≠d:=by
 obtain⟨k,l,f,g⟩:=h.dQ i;constructor
 ·intro e;rw[e]at f g;exact⟨f,g 1 (by omega) (by omega)⟩
 ·rintro⟨h3,h1⟩;have a:¬3<per S d:=fun j=>g 3 (by omega) j h3;have b:per S d≠1:=fun e=>h1 (by rw[e]at f;exact f);have c:per S d≠2:=fun e=>h1 (by rw[e]at f;have f:S (S d)=d:=f;rw[f]at h3;exact h3);omega
def Dr(w:World)(s:List Nat)(ln:Nat)(e:Ending)(w':World):Prop:=∃t:Bool,e=.returned (.bool t)/\(t=true↔jl s ln)/\Keeps (fun _=>False) w w'
theorem qc5(sv:Value)(rt:Int)(ln:Nat)(s:List Nat)(w:World)(hs:Sl .i64 w sv (dD s))(J:∀k,sv.ownBlock=some k->k<w.heap.size)(y:dU s.length (sg s))(z:s.length % 2=0)(hl:s.length<=200000)(F:ln<=1000000) :
  Calls Tryz.prog 18 #[.agg #[sv,.int .i64 rt,.int .i64 ln]] w (Dr w s ln):=by
 obtain⟨w1,x⟩:∃w1,w1=w.alloc (.cells #[sv,.int .i64 rt,.int .i64 ln] 27):=⟨_,rfl⟩
 have k1:Keeps (fun _=>False) w w1:=by rw[x];exact(Keeps.refl _ w).alloc _
 have K:pK w.heap.size sv rt ln w1:=by rw[x];exact heap_alloc_new w _
 have f:Hid (∀W,Keeps (fun _=>False) w1 W->Sl .i64 W sv (dD s)/\(∀k,sv.ownBlock=some k->k<W.heap.size)/\W.cell? ⟨w.heap.size,0,none⟩=some sv/\W.cell? ⟨w.heap.size,1,none⟩=some (.int .i64 rt)/\W.cell? ⟨w.heap.size,2,none⟩=some (.int .i64 ln)):=dh (fun W b=>by have M:=k1.trans b (fun _ _ h=>h);have hb:=K.keeps b (fun h=>h);exact⟨hs.keeps M (fun _ _ h=>h),fun k h=>Nat.lt_of_lt_of_le (J k h) M.size,dw hb 0,dw hb 1,dw hb 2⟩);obtain⟨V,hV⟩:∃V,V=dY (sg s) s.length+ln:=⟨_,rfl⟩
 obtain⟨C,hC⟩:∃C,C=dZ s.length (sg s) s.length+ln:=⟨_,rfl⟩
 obtain⟨G,hG⟩:∃G,G=fU (jG s ln):=⟨_,rfl⟩
 obtain⟨L,hL⟩:∃L,L=ig s (s.length / 2):=⟨_,rfl⟩
 obtain⟨D,hD⟩:∃D,D=l8 s (s.length / 2):=⟨_,rfl⟩
 have bV:V<=2000000:=by have:=nY (sg s) s.length;omega
 have bC:C<=2000000:=by have:=xG s.length (sg s) s.length;omega
 have bL:L<=1000000:=by have:=Fj s (s.length / 2);omega
 have bD:D<=1000000:=by have:=KO s (s.length / 2);omega
 have cV:Hid (∀W,Keeps (fun _=>False) w1 W->Calls Tryz.prog 50 #[.agg #[sv,.int .i64 rt,.int .i64 ln]] W fun e w'=>e=.returned (.int .i64 (V:Nat))/\Keeps (fun _=>False) w1 w'):=dh (fun W b=>by rw[hV];exact(Yp sv rt ln s W (f.out W b).1 (f.out W b).2.1 y (by omega) F).mono (fun _ _ h=>⟨h.1,b.trans h.2 (fun _ _ h=>h)⟩));have cP:Hid (∀W,Keeps (fun _=>False) w1 W->Calls Tryz.prog 56 #[.agg #[sv,.int .i64 rt,.int .i64 ln]] W fun e w'=>(∃a cap,e=.returned (.slice a C cap))/\Keeps (fun _=>False) w1 w'):=dh (fun W b=>by refine(MQ sv rt ln s W (f.out W b).1 y z (by omega) F).mono ?_;rintro e w' ⟨v,rfl,h5,h6⟩;obtain⟨a,cap,rfl⟩:=h5.form;rw[DI,<-hC];exact⟨⟨a,cap,rfl⟩,b.trans h6 (fun _ _ h=>h)⟩);have cG:Hid (∀W,Keeps (fun _=>False) w1 W->Calls Tryz.prog 17 #[.agg #[sv,.int .i64 rt,.int .i64 ln]] W fun e w'=>e=.returned (.int .i64 G)/\Keeps (fun _=>False) w1 w'):=dh (fun W b=>by rw[hG];exact(q3z sv rt ln s W (f.out W b).1 y z (by omega) F).mono (fun _ _ h=>⟨h.1,b.trans h.2 (fun _ _ h=>h)⟩));have cL:Hid (∀W,Keeps (fun _=>False) w1 W->Calls Tryz.prog 57 #[.agg #[sv,.int .i64 rt,.int .i64 ln]] W fun e w'=>e=.returned (.int .i64 (L:Nat))/\Keeps (fun _=>False) w1 w'):=dh (fun W b=>by rw[hL];exact(Yl sv rt ln s W (f.out W b).1 (f.out W b).2.1 y z (by omega)).mono (fun _ _ h=>⟨h.1,b.trans h.2 (fun _ _ h=>h)⟩));have cD:Hid (∀W,Keeps (fun _=>False) w1 W->Calls Tryz.prog 58 #[.agg #[sv,.int .i64 rt,.int .i64 ln]] W fun e w'=>e=.returned (.int .i64 (D:Nat))/\Keeps (fun _=>False) w1 w'):=dh (fun W b=>by rw[hD];exact(Ym sv rt ln s W (f.out W b).1 (f.out W b).2.1 y z (by omega)).mono (fun _ _ h=>⟨h.1,b.trans h.2 (fun _ _ h=>h)⟩));have cF:Hid (∀W,Keeps (fun _=>False) w1 W->Calls Tryz.prog 59 #[.agg #[sv,.int .i64 rt,.int .i64 ln]] W fun e w'=>∃v,e=.returned v/\dI W.heap.size w' v (dD (dS s))/\Keeps (fun _=>False) w1 w'):=dh (fun W b=>by refine(Gw sv rt ln s W (f.out W b).1 z (by omega)).mono ?_;rintro e w' ⟨v,rfl,Z,h2⟩;exact⟨v,rfl,Z,b.trans h2 (fun _ _ h=>h)⟩)
 have N:Hid (∀t:Bool,(t=true↔3<=V/\C=1/\G=0/\(L+D=0)/\∀d,d<s.length->per (sg (dS s)) d=3)->∀w',Keeps (fun _=>False) w1 w'->Dr w s ln (.returned (.bool t)) w'):=dh (fun t ht w' b=>by
  refine⟨t,rfl,?_,k1.trans b (fun _ _ h=>h)⟩;rw[ht,hV,hC,hG,hL,hD];have H:∀d,d<s.length->sg (dS s) d=sg s (mt d):=fun d l=>by simp[sg,dS,l]
  have A:=Bd y z;rw[mK]at A
  have e1:(∀d,d<s.length->per (sg (dS s)) d=3)↔∀d,d<s.length->sg s (mt (sg s (mt (sg s (mt d)))))=d/\sg s (mt d)≠d:=by
   have Z:∀d,d<s.length->(per (sg (dS s)) d=3↔sg s (mt (sg s (mt (sg s (mt d)))))=d/\sg s (mt d)≠d):=fun d l=>by have l1:=A.lt d l;have l2:=A.lt _ l1;rw[A.KS l,H _ l2,H _ l1,H _ l]
   exact⟨fun h d l=>(Z d l).1 (h d l),fun h d l=>(Z d l).2 (h d l)⟩
  have e2:ig s (s.length / 2)+l8 s (s.length / 2)=0↔ig s (s.length / 2)=0/\lF s (s.length / 2)=0:=by rw[<-Yq];omega
  rw[e1,e2];exact Iff.rfl)
 have A:=Bd y z;rw[mK]at A;have HI:=dh A;obtain⟨sa,sc,rfl,-,-⟩:=hs.form;rw[q01]at *;obtain⟨c0,c1,c2⟩:=(f.out w1 (Keeps.refl _ w1)).2.2;obtain⟨n,hn⟩:∃n,n=s.length:=⟨_,rfl⟩
 have HN:=dh hn;clear hV hC hG hL hD hs J y z A hn k1 K;go_enter Tryz.func18,Tryz.ntmps18;go_wp2_with fail;rw[<-x];clear x;obtain⟨B,c⟩:∃B,B=!decide (3<=V/\C=1/\G=0/\L+D=0):=⟨_,rfl⟩
 go_upto_region 1 with fail
 go_cut [26]from 5 to 26 (fun v wz=>v=.bool B/\Keeps (fun _=>False) w1 wz)
 case first =>
  have ag:IntKind.i64.wrap ((L:Int)+(D:Int))=(L:Int)+(D:Int):=IntWalk.i64_in _ (by omega)
  have aa:(decide ((V:Int)<3)=true/\decide (V<3)=true/\B=true)\/(decide ((V:Int)<3)=false/\decide (V<3)=false/\((C:Int) != 1)=true/\B=true) \/
    (decide ((V:Int)<3)=false/\decide (V<3)=false/\((C:Int) != 1)=false/\(G != 0)=true/\B=true) \/
    (decide ((V:Int)<3)=false/\decide (V<3)=false/\((C:Int) != 1)=false/\(G != 0)=false/\(((L:Int)+(D:Int)) != 0)=B):=by
   by_cases a0:3<=V
   ·by_cases a1:C=1
    ·by_cases a2:G=0
     ·refine .inr (.inr (.inr ⟨decide_eq_false (by omega),decide_eq_false (by omega),by rw[a1];rfl,by rw[a2];rfl,?_⟩));rw[c];by_cases a3:L+D=0
      ·rw[decide_eq_true ⟨a0,a1,a2,a3⟩,show (L:Int)+(D:Int)=0 by omega];rfl
      ·rw[decide_eq_false (fun h=>a3 h.2.2.2),bne_iff_ne.2 (show (L:Int)+(D:Int)≠0 by omega)];rfl
     ·exact .inr (.inr (.inl ⟨decide_eq_false (by omega),decide_eq_false (by omega),by rw[a1];rfl,by rw[bne_iff_ne];exact a2,by rw[c,decide_eq_false (fun h=>a2 h.2.2.1)];rfl⟩))
    ·exact .inr (.inl ⟨decide_eq_false (by omega),decide_eq_false (by omega),by rw[bne_iff_ne];omega,by rw[c,decide_eq_false (fun h=>a1 h.2.1)];rfl⟩)
   ·exact .inl ⟨decide_eq_true (by omega),decide_eq_true (by omega),by rw[c,decide_eq_false (fun h=>a0 h.1)];rfl⟩
  clear c N cF;rcases aa with⟨t0,t1,rfl⟩|⟨t0,t1,t2,rfl⟩|⟨t0,t1,t2,t3,rfl⟩|⟨t0,t1,t2,t3,t4⟩
  all_goals
   go_region_with (first | (go_at_call 50;refine(cV.out _ (by first|exact(Keeps.refl _ _).drew|exact Keeps.refl _ _)).mono ?_;rintro e w8 ⟨rfl,g⟩;obtain⟨p,r,u⟩:=(f.out _ g).2.2) | (go_at_call 56;refine(cP.out _ g).mono ?_;clear g p r u;rintro e w8 ⟨⟨pa,pc,rfl⟩,g⟩;obtain⟨p,r,u⟩:=(f.out _ g).2.2) | (go_at_call 17;refine(cG.out _ g).mono ?_;clear g p r u;rintro e w8 ⟨rfl,g⟩;obtain⟨p,r,u⟩:=(f.out _ g).2.2) | (go_at_call 57;refine(cL.out _ g).mono ?_;clear g p r u;rintro e w8 ⟨rfl,g⟩;obtain⟨p,r,u⟩:=(f.out _ g).2.2) | (go_at_call 58;refine(cD.out _ g).mono ?_;clear g p r u;rintro e w8 ⟨rfl,g⟩;obtain⟨p,r,u⟩:=(f.out _ g).2.2))
  all_goals
   go_wp2;go_meet
   exact⟨by first|rfl|simp,g⟩
 case rest =>
  obtain⟨rfl,i⟩:=hcut;clear cV cP cG cL cD c0 c1 c2;cases B with
  | true =>
   have O:=dh (N.out false (Bv (fun e=>by simp[e.1,e.2.1,e.2.2.1,e.2.2.2.1]at c)) wc i);clear i c N;go_wp2;go_ret;exact O.out
  | false =>
   have m:3<=V/\C=1/\G=0/\L+D=0:=by
    by_cases q:3<=V/\C=1/\G=0/\L+D=0
    ·exact q
    ·rw[decide_eq_false q]at c;cases c
   have P:Hid (∀t:Bool,(t=true↔∀d,d<s.length->per (sg (dS s)) d=3)->∀w',Keeps (fun _=>False) w1 w'->Dr w s ln (.returned (.bool t)) w'):=dh (fun t ht w' b=>N.out t (by rw[ht];exact⟨fun h=>⟨m.1,m.2.1,m.2.2.1,m.2.2.2,h⟩,fun h=>h.2.2.2.2⟩) w' b);have hF:=cF.out wc i;have p:=(f.out wc i).2.2.1;have r:=(f.out wc i).2.2.2.1;have u:=(f.out wc i).2.2.2.2;clear c m N;go_wp2_with fail;refine hF.mono ?_;clear hF p r u;rintro e w5 ⟨v,rfl,hO,Q⟩;obtain⟨fa,fc,rfl,-,-⟩:=hO.form;rw[q01,mK]at hO;have HO:Hid (∀W,Keeps (fun _=>False) w5 W->Sl .i64 W (.slice fa s.length fc) (dD (dS s))):=dh (fun W b=>(hO.keeps b (fun _ _ h=>h)).sl);rw[q01,mK];have HK:=dh Q;have h0:=Keeps.refl (fun _=>False) w5;clear hO Q i;go_wp2_with fail;go_loopg [31] s.length (fun mu iv wr=>∃j:Nat,j<=s.length/\mu=s.length - j/\iv=.int .i64 j/\(∀d,d<j->per (sg (dS s)) d=3)/\Keeps (fun _=>False) w5 wr)
   case atStart=>exact⟨0,Nat.zero_le _,rfl,rfl,fun d l=>by omega,h0⟩
   case round =>
    clear h0;obtain⟨j,hj,R,rfl,E,o⟩:=hrel;have ab:=dh R;have HA:=dh E;clear R E;by_cases I:j<s.length
    ·have S:=Gu _ (dS s) j wr (HO.out wr o) (by rw[mK];exact HI.out) (by rw[mK];exact I) (by rw[mK];omega);have ad:=dh o;have ae:=(HI.out.dQ I).2.1;clear o;go_wp2_with fail;refine S.mono ?_;clear S;rintro e w6 ⟨v,rfl,T,U⟩;obtain⟨oa,oc,rfl,-,-⟩:=T.form;rw[q01,q0z];obtain⟨q,m⟩:∃q,q=per (sg (dS s)) j:=⟨_,rfl⟩
     rw[<-m]at ae ⊢;have X:=dh (ad.out.trans U (fun _ _ h=>h));clear T U;by_cases Y:q=3
     ·have t3:((q:Int) != 3)=false:=by rw[Y];rfl
      have af:Hid (∀d,d<j+1->per (sg (dS s)) d=3):=dh (fun d l=>by
       rcases Nat.lt_or_ge d j with h|h
       ·exact HA.out d h
       ·rw[show d=j by omega,<-m,Y])
      clear m Y;go_wp2_with fail;go_roundg (s.length - (j+1))
      case measure=>rw[ab.out];omega
      case rel=>exact⟨j+1,by omega,rfl,by go_num,af.out,X.out⟩
     ·have t3:((q:Int) != 3)=true:=by rw[bne_iff_ne];omega
      have O:=dh (P.out false (Bv (fun h=>Y (by rw[m];exact h j I))) w6 (HK.out.trans X.out (fun _ _ h=>h)));clear m Y;go_wp2_with fail;go_ret;exact O.out
    ·obtain rfl:j=s.length:=by omega
     have O:=dh (P.out true ⟨fun _=>HA.out,fun _=>rfl⟩ wr (HK.out.trans o (fun _ _ h=>h)));clear o;go_wp2_with fail;go_ret;exact O.out
end
