import Derived.Test.YtalhcfjcbbkpgaaGreatZt0i
import Derived.Test.YtalhcfjcbbkpgaaGreatZt0c
set_option maxRecDepth 100000
set_option maxHeartbeats 4000000
namespace Go.Proofs.YtalhcfjcbbkpgaaGreat
section
open Go.RowKit
theorem oz{W:World}{B:Nat}{t:TypeId}{a b c:Value}(d:W.heap[B]? = some (.cells #[a,b,c] t (0,0)))(x y z:Value) :
  (((W.setCell ⟨B,0,none⟩ x).setCell ⟨B,1,none⟩ y).setCell ⟨B,2,none⟩ z).heap[B]? = some (.cells #[x,y,z] t (0,0))/\Keeps (fun k=>k=B) W (((W.setCell ⟨B,0,none⟩ x).setCell ⟨B,1,none⟩ y).setCell ⟨B,2,none⟩ z) :=
 ⟨jM (jM (jM d 0 x) 1 y) 2 z,(((Keeps.refl (fun k=>k=B) W).setCell (p:=⟨B,0,none⟩) (.inl rfl) x).setCell (p:=⟨B,1,none⟩) (.inl rfl) y).setCell (p:=⟨B,2,none⟩) (.inl rfl) z⟩
theorem Ud(X:Value)(ps:List Nat)(P root:Nat)(w:World)(hp:Sl .u8 w X (dD ps))(Y:∀b ∈ ps,b<256)(hP:P<=1000)(hr:root<256) :
  Calls Tryz.prog 43 #[.int .i64 P,X,.int .u8 root] w fun e w'=>∃sv ks,e=.returned (gG sv (if ks.length=0 then -1 else ((root % ks.length:Nat):Int)) (if ks.length=0 then 1 else 0))/\Wd ks/\ks.length=2 * P/\dI w.heap.size w' sv (dD (dM ks))/\Keeps (fun _=>False) w w':=by
 have Z:=(Keeps.refl (fun _=>False) w).alloc (.cells #[.slice none 0 0,.int .i64 0,.int .i64 0] 27);have I:(w.alloc (.cells #[.slice none 0 0,.int .i64 0,.int .i64 0] 27)).heap[w.heap.size]? = some (.cells #[.slice none 0 0,.int .i64 0,.int .i64 0] 27 (0,0)):=heap_alloc_new w _;have hA:=RB X ps P _ (hp.keeps Z (fun _ _ h=>h)) Y (by omega);have hsz0:(w.alloc (.cells #[.slice none 0 0,.int .i64 0,.int .i64 0] 27)).heap.size=w.heap.size+1:=by simp
 have J:=dh (dn Z I);clear hp Z I;go_enter Tryz.func43,Tryz.ntmps43;go_wp2_with fail;refine hA.mono ?_;rintro e w1 ⟨lv,ks,rfl,K,⟨h4,t,hB⟩,l⟩;have hW:Wd ks:=⟨h4,hB⟩
 have hD:=SN lv ks w1 K.sl hW (by omega);have L:=dh (dn hW t);have u:=J.out.1.trans l (fun _ _ h=>h);have M:=l.at J.out.2 (fun h=>h);have aa:=l.size;clear hA K l t h4 hB hW;go_wp2_with fail;refine hD.mono ?_;rintro e m ⟨sv,rfl,g,o⟩;have y:=u.trans o (fun _ _ h=>h);have N:=o.at M (fun h=>h);have ab:=o.size;obtain⟨a,cap,rfl,_,_⟩:=g.form;rw[q01,oL]at *;clear hD u M o;obtain⟨rt,D⟩:∃rt:Int,rt=(if ks.length=0 then -1 else 0):=⟨_,rfl⟩
 obtain⟨ln,E⟩:∃ln:Int,ln=(if ks.length=0 then 1 else 0):=⟨_,rfl⟩
 rw[<-D,<-E];unfold gG;have d:=heap_alloc_new m (.cells #[.slice a ks.length cap,.int .i64 rt,.int .i64 ln] 27);have O:=((Keeps.refl (fun _=>False) m).alloc (.cells #[.slice a ks.length cap,.int .i64 rt,.int .i64 ln] 27)).at N (fun h=>h);have z:=y.alloc (.cells #[.slice a ks.length cap,.int .i64 rt,.int .i64 ln] 27);have A:=g.alloc (.cells #[.slice a ks.length cap,.int .i64 rt,.int .i64 ln] 27);have F:m.heap.size≠w.heap.size:=by omega
 have d0:=dw d 0;have ad:ks.length<=2000:=by have:=L.out.2;omega
 generalize hn:ks.length=n at *;have G:=dh (dn hn (dn D E));have B:∀q,(Value.slice a n cap).ownBlock=some q->w1.heap.size<=q:=fun q f=>(g.lt q f).1;have C:∀q,(Value.slice a n cap).ownBlock=some q->q<m.heap.size:=fun q f=>(g.lt q f).2;have c:=dh (dn z (dn O (dn A (dn B C))));clear hn D E y N g z O A B C;generalize ae:m.alloc (.cells #[.slice a n cap,.int .i64 rt,.int .i64 ln] 27)=w3 at *;by_cases af:0<n
 rotate_left
 ·have bt:decide ((0:Int)<(n:Int))=false:=decide_eq_false (by omega);have V:Hid (n=0):=dh (by omega);have d1:=dw d 1;have d2:=dw d 2;have zz:=dx c.out.2.1;have e0:=dw c.out.2.1 0;have e1:=dw c.out.2.1 1;have e2:=dw c.out.2.1 2;go_wp2;obtain⟨H,Q⟩:=oz c.out.2.1 (.slice a n cap) (.int .i64 rt) (.int .i64 ln);have R:=dw H 0;have S:=dw H 1;have T:=dw H 2;refine bodyPost_ret (v:=gG (.slice a n cap) rt ln) ?_ rfl ⟨_,ks,?_,L.out.1,by rw[G.out.1];exact L.out.2,(c.out.2.2.1.keeps Q (fun q f e=>by have:=c.out.2.2.2.1 q f;omega)).mono (fun q f=>by have:=c.out.2.2.2.1 q f;omega),c.out.1.trans Q (fun x hx e=>by omega)⟩
  ·simp at R S T;simp[results,Tryz.results43,go_sem,gG,R,S,T]
  ·rw[G.out.1,if_pos V.out,if_pos V.out,G.out.2.1,G.out.2.2,if_pos V.out,if_pos V.out]
 ·have bt:decide ((0:Int)<(n:Int))=true:=decide_eq_true (by omega);obtain⟨r,s⟩:∃r,r=root % n:=⟨_,rfl⟩
  have ag:r<n:=by rw[s];exact Nat.mod_lt _ (by omega)
  have er:((root:Nat):Int).tmod (n:Int)=(r:Int):=by rw[s,Int.tmod_eq_emod_of_nonneg (by omega)];simp
  have ah:¬(n:Int)=0:=by omega
  have W:Hid (r=root % n/\¬n=0):=dh ⟨s,by omega⟩;have i:(w3.setCell ⟨m.heap.size,1,none⟩ (.int .i64 (r:Int))).heap[m.heap.size]? = some (.cells #[.slice a n cap,.int .i64 r,.int .i64 ln] 27 (0,0)):=jM d 1 _;have k4:=(Keeps.refl (fun k=>k=m.heap.size) w3).setCell (p:=⟨m.heap.size,1,none⟩) (.inl rfl) (.int .i64 (r:Int));have j:=k4.at c.out.2.1 (fun e=>F e.symm);have d1:=dw d 1;have y1:=dx d 1;have f0:=dw i 0;have f1:=dw i 1;have f2:=dw i 2;have zz:=dx j;have e0:=dw j 0;have e1:=dw j 1;have e2:=dw j 2;clear s;go_wp2;obtain⟨H,Q⟩:=oz j (.slice a n cap) (.int .i64 r) (.int .i64 ln);have R:=dw H 0;have S:=dw H 1;have T:=dw H 2;have U:=c.out.2.2.1.keeps k4 (fun q f e=>by have:=c.out.2.2.2.2 q f;omega);have kk:=c.out.1.trans k4 (fun x hx e=>by omega);refine bodyPost_ret (v:=gG (.slice a n cap) r ln) ?_ rfl ⟨_,ks,?_,L.out.1,by rw[G.out.1];exact L.out.2,(U.keeps Q (fun q f e=>by have:=c.out.2.2.2.1 q f;omega)).mono (fun q f=>by have:=c.out.2.2.2.1 q f;omega),kk.trans Q (fun x hx e=>by omega)⟩
  ·simp at R S T;simp[results,Tryz.results43,go_sem,gG,R,S,T]
  ·rw[G.out.1,if_neg W.out.2,if_neg W.out.2,G.out.2.2,if_neg W.out.2,W.out.1]
end
section
open Go.RowKit
def Aa(s:List Nat)(i k:Nat):List Nat:=(s.set i (sg s k)).set k (sg s i)
theorem Jm(s:List Nat)(i k:Nat):(Aa s i k).length=s.length:=by simp[Aa]
theorem Ue{s:List Nat}{i k d:Nat}(c:i<s.length)(e:k<s.length):sg (Aa s i k) d=sg s (kG i k d):=by
 unfold Aa kG;show ((s.set i (sg s k)).set k (sg s i)).getD d 0=_;simp only [List.getD_eq_getElem?_getD,List.getElem?_set,List.length_set];by_cases b:k=d
 ·subst b;rw[if_pos rfl,if_pos e];by_cases a:k=i
  ·subst a;simp
  ·rw[if_neg a,if_pos rfl];rfl
 ·rw[if_neg b];by_cases a:i=d
  ·subst a;rw[if_pos rfl,if_pos c,if_pos rfl];rfl
  ·rw[if_neg a,if_neg (fun h=>a h.symm),if_neg (fun h=>b h.symm)];rfl
theorem Uf{s:List Nat}{i k:Nat}(a:i<s.length)(b:k<s.length)(h:dU s.length (sg s)):dU (Aa s i k).length (sg (Aa s i k)):=by rw[Jm];exact(h.tw a b).congr (fun d _=>Ue a b)
theorem Ug(s:List Nat)(i k:Nat):dD (Aa s i k)=((dD s).set i (sg s k:Nat)).set k (sg s i:Nat):=by simp[dD,Aa,List.map_set]
theorem Uh{n d:Nat}(h:d<n):sg (List.range n) d=d:=by simp[sg,h]
theorem Ui(n:Nat):dU (List.range n).length (sg (List.range n)):=by rw[List.length_range];exact(⟨fun d a=>a,fun d e _ _ h=>h⟩:dU n (fun d=>d)).congr (fun d a=>Uh a)
theorem Uj(J:Value)(ps:List Nat)(n:Nat)(w:World)(K:Sl .u8 w J (dD ps))(D:∀b ∈ ps,b<256)(hn:n<=100000) :
  Calls Tryz.prog 66 #[.int .i64 n,J] w fun e w'=>∃v s,e=.returned v/\s.length=n/\dU n (sg s)/\dI w.heap.size w' v (dD s)/\Keeps (fun _=>False) w w':=by
 have V:Hid (∀W,Keeps (fun _=>False) w W->Sl .u8 W J (dD ps)):=dh (fun W X=>K.keeps X (fun _ _ h=>h));obtain⟨pa,pc,rfl,L,ab⟩:=K.form;rw[q01]at L V ⊢;have M:=dh D;have Y:dI w.heap.size w (.slice none 0 0) (dD ((List.range n).take 0))/\Keeps (fun _=>False) w w:=⟨by simpa [dD]using dI.nil _ _,Keeps.refl _ _⟩
 clear K D;go_enter Tryz.func66,Tryz.ntmps66;go_wp2_with fail;go_loopg [5,6] n (fun m lv i wr=>∃j:Nat,j<=n/\m=n - j/\i=.int .i64 j/\dI w.heap.size wr lv (dD ((List.range n).take j))/\Keeps (fun _=>False) w wr)
 case atStart=>exact⟨0,Nat.zero_le _,rfl,rfl,Y⟩
 case round =>
  clear Y;obtain⟨j,hj,E,rfl,a,c⟩:=hrel;have HG:=dh E;clear E;by_cases B:j<n
  ·have l:((List.range n).take j).length=j:=by simp;omega
   have o:=a.form;rw[q01,l]at o;obtain⟨I,fc,rfl,_,_⟩:=o;have HN:Hid ((dD ((List.range n).take j)).length=j):=dh (by rw[q01,l]);have N:=c.size;have HK:=dh c;have O:j<=10000000000:=by omega
   clear c l;go_wp2_with (at_builtin;go_loud (refine oP j rfl _ _ rfl w.heap.size (.slice I j fc) (dD ((List.range n).take j)) (j:Int) HN wr.heap.size rfl rfl rfl a O N ?_);intro g2 F w3 q G P hg)
   have Z:dI w.heap.size w3 (.slice (some ⟨g2,0,none⟩) (j+1) F) (dD ((List.range n).take (j+1))):=by have:(List.range n).take (j+1)=(List.range n).take j ++ [j]:=pE (by simp[B]);rw[this,uy];exact q
   have r:=dh (dn Z (HK.out.trans G (fun x hx h=>by have:=(a.lt x h).1;omega)));clear Z q G P a;go_wp2;go_roundg (n - (j+1))
   case measure=>rw[HG.out];omega
   case rel=>exact⟨j+1,by omega,rfl,by go_num,r.out⟩
  ·obtain rfl:j=n:=by omega
   have y:(List.range j).take j=List.range j:=by rw[List.take_of_length_le (by simp)]
   rw[y]at a;have o:=a.form;rw[q01,List.length_range]at o;obtain⟨I,fc,rfl,_,_⟩:=o;have h1:∃s:List Nat,s.length=j/\dU j (sg s)/\dI w.heap.size wr (.slice I j fc) (dD s)/\Keeps (fun _=>False) w wr:=⟨List.range j,by simp,by have:=Ui j;rwa [List.length_range]at this,a,c⟩
   clear y a c B hj;go_wp2_with fail;go_loopg [7,8,20] j (fun m _x _y t wr=>∃i:Nat,i<=j/\m=j - i/\t=.int .i64 i/\∃s:List Nat,s.length=j/\dU j (sg s)/\dI w.heap.size wr (.slice I j fc) (dD s)/\Keeps (fun _=>False) w wr)
   case atStart=>exact⟨0,Nat.zero_le _,rfl,rfl,h1⟩
   case round =>
    clear h1;obtain⟨i,hi,z,rfl,s,d,f,a,c⟩:=hrel;have H:=dh z;clear z;by_cases B:i<j
    ·by_cases Q:i<ps.length
     ·obtain⟨g,rfl⟩:=pz a (by rw[q01];omega);obtain⟨b,R⟩:∃b,ps[i]? = some b:=⟨_,List.getElem?_eq_getElem Q⟩
      obtain⟨a',aa,A,_,_,_,hc⟩:=V.out wr c;simp only [Value.slice.injEq]at A;obtain⟨rfl,-,rfl⟩:=A;obtain⟨g0,off,rfl,S⟩:=hc i _ (jI R);have T:=M.out b (List.mem_of_getElem? R)
      obtain⟨k,X,ad⟩:∃k,k<j/\wrap64 ((i:Int)+(b:Int) % ((j:Int) - (i:Int)))=(k:Int):=by
       refine⟨i+b % (j - i),by have:=Nat.mod_lt b (show 0<j - i by omega);omega,?_⟩
       have h5:(i:Int)+(b:Int) % ((j:Int) - (i:Int))=((i+b % (j - i):Nat):Int):=by
        rw[show (j:Int) - i=((j - i:Nat):Int) by omega]
        push_cast
        rfl
       have h6:i+b % (j - i)<j:=by have:=Nat.mod_lt b (show 0<j - i by omega);omega
       rw[h5];exact IntWalk.wrap64_in _ (by omega)
      have ae:¬(j:Int) - i=0:=by omega
      obtain⟨ci,fi⟩:=a.cell (jI (xF (by omega:i<s.length)));obtain⟨ck,fk⟩:=a.cell (jI (xF (by omega:k<s.length)));obtain⟨zk,af,ag⟩:=(a.set i (sg s k:Nat)).has k (by rw[List.length_set,q01];omega);have C:=Uf (s:=s) (i:=i) (k:=k) (by omega) (by omega) (by rw[d];exact f);rw[Jm,d]at C;have u:=(a.set i (sg s k:Nat)).set k (sg s i:Nat);rw[<-Ug]at u;have r:=dh (dn C (dn u (dn d (dn a c))));clear C u f a c d R hc;generalize sg s k=sk at *;generalize sg s i=si at *;have U:j<=100000:=hn;go_wp2_with fail;go_region
      all_goals
       go_wp2;go_roundg (j - (i+1))
       case measure=>rw[H.out];omega
       case rel=>exact⟨i+1,by omega,rfl,by go_num,Aa s i k,by rw[Jm];exact r.out.2.2.1,r.out.1,r.out.2.1.keeps ((Keeps.refl (fun _=>False) _).drew) (fun _ _ h=>h),((r.out.2.2.2.2.trans (((Keeps.refl (fun x=>x=g) wr).setCell (p:=⟨g,i,none⟩) (.inl rfl) _).setCell (p:=⟨g,k,none⟩) (.inl rfl) _) (fun x hx e=>by have:=(r.out.2.2.2.1.lt g rfl).1;omega)).trans ((Keeps.refl (fun _=>False) _).drew) (fun _ _ h=>h))⟩
     ·have r:=dh (dn d (dn f (dn a c)));clear d f a c;go_wp2;go_roundg (j - (i+1))
      case measure=>rw[H.out];omega
      case rel=>exact⟨i+1,by omega,rfl,by go_num,s,r.out⟩
    ·have r:=dh (dn d (dn f (dn a c)));clear d f a c;go_wp2;go_ret;exact⟨_,s,rfl,r.out⟩
def pW(E:Nat)(s:List Nat)(rt:Int):Prop:=s.length=2 * E/\dU s.length (sg s)/\((s.length=0/\rt=-1)\/∃r:Nat,rt=r/\r<s.length)
theorem pW.of{E:Nat}{s:List Nat}{rt:Int}(a:s.length=2 * E)(b:dU s.length (sg s))(c:(s.length=0/\rt=-1)\/∃r:Nat,rt=r/\r<s.length):pW E s rt:=⟨a,b,c⟩
theorem Uk(R:Value)(ps:List Nat)(E root:Nat)(w:World)(X:Sl .u8 w R (dD ps))(S:∀b ∈ ps,b<256)(hE:E<=10000)(hr:root<256) :
  Calls Tryz.prog 44 #[.int .i64 E,R,.int .u8 root] w fun e w'=>∃sv s rt,e=.returned (gG sv rt 0)/\pW E s rt/\dI w.heap.size w' sv (dD s)/\Keeps (fun _=>False) w w':=by
 have T:=(Keeps.refl (fun _=>False) w).alloc (.cells #[.slice none 0 0,.int .i64 0,.int .i64 0] 27);have F:(w.alloc (.cells #[.slice none 0 0,.int .i64 0,.int .i64 0] 27)).heap[w.heap.size]? = some (.cells #[.slice none 0 0,.int .i64 0,.int .i64 0] 27 (0,0)):=heap_alloc_new w _;have P:=Uj R ps (2 * E) _ (X.keeps T (fun _ _ h=>h)) S (by omega);rw[show ((2 * E:Nat):Int)=2 * (E:Int) by omega]at P;have hsz0:(w.alloc (.cells #[.slice none 0 0,.int .i64 0,.int .i64 0] 27)).heap.size=w.heap.size+1:=by simp
 have B:=dh (dn T F);clear X T F;have aa:(w.alloc (.cells #[.slice none 0 0,.int .i64 0,.int .i64 0] 27)).heap.size=w.heap.size+1:=by simp
 go_enter Tryz.func44,Tryz.ntmps44;go_upto_region 1 with fail
 go_cut [7]from 8 to 12 (fun v wz=>∃u o sv s,u=wz/\v=.pointer (some ⟨o,0,none⟩)/\s.length=2 * E/\dU s.length (sg s)/\u.heap[o]? = some (.cells #[sv,.int .i64 (-1),.int .i64 0] 27 (0,0))/\w.heap.size<o /\
  u.heap[w.heap.size]? = some (.cells #[.slice none 0 0,.int .i64 0,.int .i64 0] 27 (0,0))/\dI (w.heap.size+1) u sv (dD s)/\(∀q,sv.ownBlock=some q->q≠o)/\Keeps (fun _=>False) w u)
 case first =>
  go_wp2_with fail
  refine P.mono ?_;rintro e Q ⟨sv,s,rfl,c,j,g,t⟩;have y:=B.out.1.trans t (fun _ _ h=>h);have G:=t.at B.out.2 (fun h=>h);have U:=t.size;clear P t;have d:=heap_alloc_new Q (.cells #[sv,.int .i64 (-1),.int .i64 0] 27);have l:=((Keeps.refl (fun _=>False) Q).alloc (.cells #[sv,.int .i64 (-1),.int .i64 0] 27)).at G (fun h=>h);have z:=y.alloc (.cells #[sv,.int .i64 (-1),.int .i64 0] 27);have A:=(g.mono (B':=w.heap.size+1) (fun q i=>by have:=(g.lt q i).1;omega)).alloc (.cells #[sv,.int .i64 (-1),.int .i64 0] 27);have i:∀q,sv.ownBlock=some q->q≠Q.heap.size:=fun q i=>by have:=(g.lt q i).2;omega
  obtain⟨a,cap,H,_,_⟩:=g.form;rw[q01,c]at H;subst H;have HF:=dh (dn c (dn j (dn d (dn l (dn A (dn i z))))));have V:w.heap.size<Q.heap.size:=by omega
  clear c j d l A i z g y G U;go_wp2;go_meet;obtain⟨Y,h2,h3,h4,h5,h6,h7⟩:=HF.out;exact⟨_,_,_,s,rfl,rfl,Y,by rw[Y];exact h2,h3,V,h4,h5,h6,h7⟩
 case rest =>
  obtain⟨u,o,sv,s,rfl,rfl,c,j,d,ab,l,g,i,I⟩:=hcut;obtain⟨a,cap,rfl,_,_⟩:=g.form;generalize J:(dD s).length=nl at *;have ad:=dh J;clear J;have f:=dh (dn j (dn l (dn g (dn i (dn I c)))));clear P j l g i I B c;by_cases ae:0<E
  rotate_left
  ·have bt:decide ((0:Int)<(E:Int))=false:=decide_eq_false (by omega);have H0:Hid (E=0):=dh (by omega);have d0:=dw d 0;have d1:=dw d 1;have d2:=dw d 2;have zz:=dx f.out.2.1;have e0:=dw f.out.2.1 0;have e1:=dw f.out.2.1 1;have e2:=dw f.out.2.1 2;go_wp2;obtain⟨C,K⟩:=oz f.out.2.1 (.slice a nl cap) (.int .i64 (-1)) (.int .i64 0);have L:=dw C 0;have M:=dw C 1;have N:=dw C 2;refine bodyPost_ret (v:=gG (.slice a nl cap) (-1) 0) ?_ rfl ⟨_,s,-1,rfl,pW.of f.out.2.2.2.2.2 f.out.1 (.inl ⟨by rw[f.out.2.2.2.2.2,H0.out],rfl⟩),(f.out.2.2.1.keeps K (fun q i e=>by have:=(f.out.2.2.1.lt q i).1;omega)).mono (fun q i=>by have:=(f.out.2.2.1.lt q i).1;omega),f.out.2.2.2.2.1.trans K (fun x Z e=>by omega)⟩
   ·simp at L M N;simp[results,Tryz.results44,go_sem,gG,L,M,N]
  ·have bt:decide ((0:Int)<(E:Int))=true:=decide_eq_true (by omega);have c:=f.out.2.2.2.2.2;obtain⟨r,D⟩:∃r,r=root % (2 * E):=⟨_,rfl⟩
   have W:r<2 * E:=by rw[D];exact Nat.mod_lt _ (by omega)
   have er:((root:Nat):Int).tmod (2 * (E:Int))=(r:Int):=by rw[show 2 * (E:Int)=((2 * E:Nat):Int) by omega,D,Int.tmod_eq_emod_of_nonneg (by omega)];simp
   have af:((root:Nat):Int) % (2 * (E:Int))=(r:Int):=by rw[<-er,Int.tmod_eq_emod_of_nonneg (by omega)]
   have ag:¬2 * (E:Int)=0:=by omega
   have ah:¬(E:Int)=0:=by omega
   have HR:Hid (r<s.length):=dh (by omega);have m:(u.setCell ⟨o,1,none⟩ (.int .i64 (r:Int))).heap[o]? = some (.cells #[.slice a nl cap,.int .i64 r,.int .i64 0] 27 (0,0)):=jM d 1 _;have k4:=(Keeps.refl (fun k=>k=o) u).setCell (p:=⟨o,1,none⟩) (.inl rfl) (.int .i64 (r:Int));have n:=k4.at f.out.2.1 (fun e=>by omega);have d0:=dw d 0;have d1:=dw d 1;have yy:=dx d;have f0:=dw m 0;have f1:=dw m 1;have f2:=dw m 2;have zz:=dx n;have e0:=dw n 0;have e1:=dw n 1;have e2:=dw n 2;clear D W c;go_wp2;obtain⟨C,K⟩:=oz n (.slice a nl cap) (.int .i64 r) (.int .i64 0);have L:=dw C 0;have M:=dw C 1;have N:=dw C 2;have O:=f.out.2.2.1.keeps k4 (fun q i e=>f.out.2.2.2.1 q i e);have kk:=f.out.2.2.2.2.1.trans k4 (fun x Z e=>by omega);refine bodyPost_ret (v:=gG (.slice a nl cap) r 0) ?_ rfl ⟨_,s,r,rfl,pW.of f.out.2.2.2.2.2 f.out.1 (.inr ⟨r,rfl,HR.out⟩),(O.keeps K (fun q i e=>by have:=(f.out.2.2.1.lt q i).1;omega)).mono (fun q i=>by have:=(f.out.2.2.1.lt q i).1;omega),kk.trans K (fun x Z e=>by omega)⟩
   ·simp at L M N;simp[results,Tryz.results44,go_sem,gG,L,M,N]
end
