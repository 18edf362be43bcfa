import Derived.Test.YtalhcfjcbbkpgaaGreatZp0i
set_option maxRecDepth 100000
set_option maxHeartbeats 4000000
namespace Go.Proofs.YtalhcfjcbbkpgaaGreat
open Go.RowKit
def zH(s:List Nat)(i k:Nat):List Nat:=(s.set i (sg s k)).set k (sg s i)
theorem IZ(s:List Nat)(i k:Nat):(zH s i k).length=s.length:=by simp[zH]
theorem Tj{s:List Nat}{i k d:Nat}(c:i<s.length)(e:k<s.length):sg (zH s i k) d=sg s (j6 i k d):=by
 unfold zH j6;show ((s.set i (sg s k)).set k (sg s i)).getD d 0=_;simp only [List.getD_eq_getElem?_getD,List.getElem?_set,List.length_set];by_cases b:k=d
 ·subst b;rw[if_pos rfl,if_pos e];by_cases a:k=i
  ·subst a;simp
  ·rw[if_neg a,if_pos rfl];rfl
 ·rw[if_neg b];by_cases a:i=d
  ·subst a;rw[if_pos rfl,if_pos c,if_pos rfl];rfl
  ·rw[if_neg a,if_neg (fun h=>a h.symm),if_neg (fun h=>b h.symm)];rfl
theorem Tm{s:List Nat}{i k:Nat}(a:i<s.length)(b:k<s.length)(h:dO s.length (sg s)):dO (zH s i k).length (sg (zH s i k)):=by rw[IZ];exact(h.tw a b).congr (fun d _=>Tj a b)
theorem Tn(s:List Nat)(i k:Nat):dD (zH s i k)=((dD s).set i (sg s k:Nat)).set k (sg s i:Nat):=by simp[dD,zH,List.map_set]
theorem qj{n d:Nat}(h:d<n):sg (List.range n) d=d:=by simp[sg,h]
theorem Tq(n:Nat):dO (List.range n).length (sg (List.range n)):=by rw[List.length_range];exact(⟨fun d a=>a,fun d e _ _ h=>h⟩:dO n (fun d=>d)).congr (fun d a=>qj a)
theorem ML(J:Value)(ps:List Nat)(n:Nat)(w:World)(K:Sl .u8 w J (dD ps))(D:∀b ∈ ps,b<256)(hn:n<=100000) :
  Calls Tryz.prog 66 #[.int .i64 n,J] w fun e w'=>∃v s,e=.returned v/\s.length=n/\dO n (sg s)/\dH w.heap.size w' v (dD s)/\Keeps (fun _=>False) w w':=by
 have V:Hid (∀W,Keeps (fun _=>False) w W->Sl .u8 W J (dD ps)):=dh (fun W X=>K.keeps X (fun _ _ h=>h));obtain⟨pa,pc,rfl,L,ab⟩:=K.form;rw[q01]at L V ⊢;have M:=dh D;have Y:dH w.heap.size w (.slice none 0 0) (dD ((List.range n).take 0))/\Keeps (fun _=>False) w w:=⟨by simpa [dD]using dH.nil _ _,Keeps.refl _ _⟩
 clear K D;go_enter Tryz.func66,Tryz.ntmps66;go_wp2_with fail;go_loopg [5,6] n (fun m lv i wr=>∃j:Nat,j<=n/\m=n - j/\i=.int .i64 j/\dH w.heap.size wr lv (dD ((List.range n).take j))/\Keeps (fun _=>False) w wr)
 case atStart=>exact⟨0,Nat.zero_le _,rfl,rfl,Y⟩
 case round =>
  clear Y;obtain⟨j,hj,E,rfl,a,c⟩:=hrel;have HG:=dh E;clear E;by_cases B:j<n
  ·have l:((List.range n).take j).length=j:=by simp;omega
   have o:=a.form;rw[q01,l]at o;obtain⟨I,fc,rfl,_,_⟩:=o;have HN:Hid ((dD ((List.range n).take j)).length=j):=dh (by rw[q01,l]);have N:=c.size;have HK:=dh c;have O:j<=10000000000:=by omega
   clear c l;go_wp2_with (at_builtin;go_loud (refine oz j rfl _ _ rfl w.heap.size (.slice I j fc) (dD ((List.range n).take j)) (j:Int) HN wr.heap.size rfl rfl rfl a O N ?_);intro g2 F w3 q G P hg)
   have Z:dH w.heap.size w3 (.slice (some ⟨g2,0,none⟩) (j+1) F) (dD ((List.range n).take (j+1))):=by have:(List.range n).take (j+1)=(List.range n).take j ++ [j]:=oW (by simp[B]);rw[this,tV];exact q
   have r:=dh (dn Z (HK.out.trans G (fun x hx h=>by have:=(a.lt x h).1;omega)));clear Z q G P a;go_wp2;go_roundg (n - (j+1))
   case measure=>rw[HG.out];omega
   case rel=>exact⟨j+1,by omega,rfl,by go_num,r.out⟩
  ·obtain rfl:j=n:=by omega
   have y:(List.range j).take j=List.range j:=by rw[List.take_of_length_le (by simp)]
   rw[y]at a;have o:=a.form;rw[q01,List.length_range]at o;obtain⟨I,fc,rfl,_,_⟩:=o;have h1:∃s:List Nat,s.length=j/\dO j (sg s)/\dH w.heap.size wr (.slice I j fc) (dD s)/\Keeps (fun _=>False) w wr:=⟨List.range j,by simp,by have:=Tq j;rwa [List.length_range]at this,a,c⟩
   clear y a c B hj;go_wp2_with fail;go_loopg [7,8,20] j (fun m _x _y t wr=>∃i:Nat,i<=j/\m=j - i/\t=.int .i64 i/\∃s:List Nat,s.length=j/\dO j (sg s)/\dH w.heap.size wr (.slice I j fc) (dD s)/\Keeps (fun _=>False) w wr)
   case atStart=>exact⟨0,Nat.zero_le _,rfl,rfl,h1⟩
   case round =>
    clear h1;obtain⟨i,hi,z,rfl,s,d,f,a,c⟩:=hrel;have H:=dh z;clear z;by_cases B:i<j
    ·by_cases Q:i<ps.length
     ·obtain⟨g,rfl⟩:=oU a (by rw[q01];omega);obtain⟨b,R⟩:∃b,ps[i]? = some b:=⟨_,List.getElem?_eq_getElem Q⟩
      obtain⟨a',aa,A,_,_,_,hc⟩:=V.out wr c;simp only [Value.slice.injEq]at A;obtain⟨rfl,-,rfl⟩:=A;obtain⟨g0,off,rfl,S⟩:=hc i _ (jA R);have T:=M.out b (List.mem_of_getElem? R)
      obtain⟨k,X,ad⟩:∃k,k<j/\wrap64 ((i:Int)+(b:Int) % ((j:Int) - (i:Int)))=(k:Int):=by
       refine⟨i+b % (j - i),by have:=Nat.mod_lt b (show 0<j - i by omega);omega,?_⟩
       have h5:(i:Int)+(b:Int) % ((j:Int) - (i:Int))=((i+b % (j - i):Nat):Int):=by
        rw[show (j:Int) - i=((j - i:Nat):Int) by omega]
        push_cast
        rfl
       have h6:i+b % (j - i)<j:=by have:=Nat.mod_lt b (show 0<j - i by omega);omega
       rw[h5];exact IntWalk.wrap64_in _ (by omega)
      have ae:¬(j:Int) - i=0:=by omega
      obtain⟨ci,fi⟩:=a.cell (jA (tZ (by omega:i<s.length)));obtain⟨ck,fk⟩:=a.cell (jA (tZ (by omega:k<s.length)));obtain⟨zk,af,ag⟩:=(a.set i (sg s k:Nat)).has k (by rw[List.length_set,q01];omega);have C:=Tm (s:=s) (i:=i) (k:=k) (by omega) (by omega) (by rw[d];exact f);rw[IZ,d]at C;have u:=(a.set i (sg s k:Nat)).set k (sg s i:Nat);rw[<-Tn]at u;have r:=dh (dn C (dn u (dn d (dn a c))));clear C u f a c d R hc;generalize sg s k=sk at *;generalize sg s i=si at *;have U:j<=100000:=hn;go_wp2_with fail;go_region
      all_goals
       go_wp2;go_roundg (j - (i+1))
       case measure=>rw[H.out];omega
       case rel=>exact⟨i+1,by omega,rfl,by go_num,zH s i k,by rw[IZ];exact r.out.2.2.1,r.out.1,r.out.2.1.keeps ((Keeps.refl (fun _=>False) _).drew) (fun _ _ h=>h),((r.out.2.2.2.2.trans (((Keeps.refl (fun x=>x=g) wr).setCell (p:=⟨g,i,none⟩) (.inl rfl) _).setCell (p:=⟨g,k,none⟩) (.inl rfl) _) (fun x hx e=>by have:=(r.out.2.2.2.1.lt g rfl).1;omega)).trans ((Keeps.refl (fun _=>False) _).drew) (fun _ _ h=>h))⟩
     ·have r:=dh (dn d (dn f (dn a c)));clear d f a c;go_wp2;go_roundg (j - (i+1))
      case measure=>rw[H.out];omega
      case rel=>exact⟨i+1,by omega,rfl,by go_num,s,r.out⟩
    ·have r:=dh (dn d (dn f (dn a c)));clear d f a c;go_wp2;go_ret;exact⟨_,s,rfl,r.out⟩
def pR(E:Nat)(s:List Nat)(rt:Int):Prop:=s.length=2 * E/\dO s.length (sg s)/\((s.length=0/\rt=-1)\/∃r:Nat,rt=r/\r<s.length)
theorem pR.of{E:Nat}{s:List Nat}{rt:Int}(a:s.length=2 * E)(b:dO s.length (sg s))(c:(s.length=0/\rt=-1)\/∃r:Nat,rt=r/\r<s.length):pR E s rt:=⟨a,b,c⟩
theorem Tt(R:Value)(ps:List Nat)(E root:Nat)(w:World)(X:Sl .u8 w R (dD ps))(S:∀b ∈ ps,b<256)(hE:E<=10000)(hr:root<256) :
  Calls Tryz.prog 44 #[.int .i64 E,R,.int .u8 root] w fun e w'=>∃sv s rt,e=.returned (fI sv rt 0)/\pR E s rt/\dH w.heap.size w' sv (dD s)/\Keeps (fun _=>False) w w':=by
 have T:=(Keeps.refl (fun _=>False) w).alloc (.cells #[.slice none 0 0,.int .i64 0,.int .i64 0] 27);have F:(w.alloc (.cells #[.slice none 0 0,.int .i64 0,.int .i64 0] 27)).heap[w.heap.size]? = some (.cells #[.slice none 0 0,.int .i64 0,.int .i64 0] 27 (0,0)):=heap_alloc_new w _;have P:=ML R ps (2 * E) _ (X.keeps T (fun _ _ h=>h)) S (by omega);rw[show ((2 * E:Nat):Int)=2 * (E:Int) by omega]at P;have hsz0:(w.alloc (.cells #[.slice none 0 0,.int .i64 0,.int .i64 0] 27)).heap.size=w.heap.size+1:=by simp
 have B:=dh (dn T F);clear X T F;have aa:(w.alloc (.cells #[.slice none 0 0,.int .i64 0,.int .i64 0] 27)).heap.size=w.heap.size+1:=by simp
 go_enter Tryz.func44,Tryz.ntmps44;go_upto_region 1 with fail
 go_cut [7]from 8 to 12 (fun v wz=>∃u o sv s,u=wz/\v=.pointer (some ⟨o,0,none⟩)/\s.length=2 * E/\dO s.length (sg s)/\u.heap[o]? = some (.cells #[sv,.int .i64 (-1),.int .i64 0] 27 (0,0))/\w.heap.size<o /\
  u.heap[w.heap.size]? = some (.cells #[.slice none 0 0,.int .i64 0,.int .i64 0] 27 (0,0))/\dH (w.heap.size+1) u sv (dD s)/\(∀q,sv.ownBlock=some q->q≠o)/\Keeps (fun _=>False) w u)
 case first =>
  go_wp2_with fail
  refine P.mono ?_;rintro e Q ⟨sv,s,rfl,c,j,g,t⟩;have y:=B.out.1.trans t (fun _ _ h=>h);have G:=t.at B.out.2 (fun h=>h);have U:=t.size;clear P t;have d:=heap_alloc_new Q (.cells #[sv,.int .i64 (-1),.int .i64 0] 27);have l:=((Keeps.refl (fun _=>False) Q).alloc (.cells #[sv,.int .i64 (-1),.int .i64 0] 27)).at G (fun h=>h);have z:=y.alloc (.cells #[sv,.int .i64 (-1),.int .i64 0] 27);have A:=(g.mono (B':=w.heap.size+1) (fun q i=>by have:=(g.lt q i).1;omega)).alloc (.cells #[sv,.int .i64 (-1),.int .i64 0] 27);have i:∀q,sv.ownBlock=some q->q≠Q.heap.size:=fun q i=>by have:=(g.lt q i).2;omega
  obtain⟨a,cap,H,_,_⟩:=g.form;rw[q01,c]at H;subst H;have HF:=dh (dn c (dn j (dn d (dn l (dn A (dn i z))))));have V:w.heap.size<Q.heap.size:=by omega
  clear c j d l A i z g y G U;go_wp2;go_meet;obtain⟨Y,h2,h3,h4,h5,h6,h7⟩:=HF.out;exact⟨_,_,_,s,rfl,rfl,Y,by rw[Y];exact h2,h3,V,h4,h5,h6,h7⟩
 case rest =>
  obtain⟨u,o,sv,s,rfl,rfl,c,j,d,ab,l,g,i,I⟩:=hcut;obtain⟨a,cap,rfl,_,_⟩:=g.form;generalize J:(dD s).length=nl at *;have ad:=dh J;clear J;have f:=dh (dn j (dn l (dn g (dn i (dn I c)))));clear P j l g i I B c;by_cases ae:0<E
  rotate_left
  ·have bt:decide ((0:Int)<(E:Int))=false:=decide_eq_false (by omega);have H0:Hid (E=0):=dh (by omega);have d0:=dw d 0;have d1:=dw d 1;have d2:=dw d 2;have zz:=dx f.out.2.1;have e0:=dw f.out.2.1 0;have e1:=dw f.out.2.1 1;have e2:=dw f.out.2.1 2;go_wp2;obtain⟨C,K⟩:=nu f.out.2.1 (.slice a nl cap) (.int .i64 (-1)) (.int .i64 0);have L:=dw C 0;have M:=dw C 1;have N:=dw C 2;refine bodyPost_ret (v:=fI (.slice a nl cap) (-1) 0) ?_ rfl ⟨_,s,-1,rfl,pR.of f.out.2.2.2.2.2 f.out.1 (.inl ⟨by rw[f.out.2.2.2.2.2,H0.out],rfl⟩),(f.out.2.2.1.keeps K (fun q i e=>by have:=(f.out.2.2.1.lt q i).1;omega)).mono (fun q i=>by have:=(f.out.2.2.1.lt q i).1;omega),f.out.2.2.2.2.1.trans K (fun x Z e=>by omega)⟩
   ·simp at L M N;simp[results,Tryz.results44,go_sem,fI,L,M,N]
  ·have bt:decide ((0:Int)<(E:Int))=true:=decide_eq_true (by omega);have c:=f.out.2.2.2.2.2;obtain⟨r,D⟩:∃r,r=root % (2 * E):=⟨_,rfl⟩
   have W:r<2 * E:=by rw[D];exact Nat.mod_lt _ (by omega)
   have er:((root:Nat):Int).tmod (2 * (E:Int))=(r:Int):=by rw[show 2 * (E:Int)=((2 * E:Nat):Int) by omega,D,Int.tmod_eq_emod_of_nonneg (by omega)];simp
   have af:((root:Nat):Int) % (2 * (E:Int))=(r:Int):=by rw[<-er,Int.tmod_eq_emod_of_nonneg (by omega)]
   have ag:¬2 * (E:Int)=0:=by omega
   have ah:¬(E:Int)=0:=by omega
   have HR:Hid (r<s.length):=dh (by omega);have m:(u.setCell ⟨o,1,none⟩ (.int .i64 (r:Int))).heap[o]? = some (.cells #[.slice a nl cap,.int .i64 r,.int .i64 0] 27 (0,0)):=jM d 1 _;have k4:=(Keeps.refl (fun k=>k=o) u).setCell (p:=⟨o,1,none⟩) (.inl rfl) (.int .i64 (r:Int));have n:=k4.at f.out.2.1 (fun e=>by omega);have d0:=dw d 0;have d1:=dw d 1;have yy:=dx d;have f0:=dw m 0;have f1:=dw m 1;have f2:=dw m 2;have zz:=dx n;have e0:=dw n 0;have e1:=dw n 1;have e2:=dw n 2;clear D W c;go_wp2;obtain⟨C,K⟩:=nu n (.slice a nl cap) (.int .i64 r) (.int .i64 0);have L:=dw C 0;have M:=dw C 1;have N:=dw C 2;have O:=f.out.2.2.1.keeps k4 (fun q i e=>f.out.2.2.2.1 q i e);have kk:=f.out.2.2.2.2.1.trans k4 (fun x Z e=>by omega);refine bodyPost_ret (v:=fI (.slice a nl cap) r 0) ?_ rfl ⟨_,s,r,rfl,pR.of f.out.2.2.2.2.2 f.out.1 (.inr ⟨r,rfl,HR.out⟩),(O.keeps K (fun q i e=>by have:=(f.out.2.2.1.lt q i).1;omega)).mono (fun q i=>by have:=(f.out.2.2.1.lt q i).1;omega),kk.trans K (fun x Z e=>by omega)⟩
   ·simp at L M N;simp[results,Tryz.results44,go_sem,fI,L,M,N]
