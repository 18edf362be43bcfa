import Derived.Test.YtalhcfjcbbkpgaaGreatZp05
import Derived.Test.YtalhcfjcbbkpgaaGreatZp07
set_option maxRecDepth 100000
set_option maxHeartbeats 4000000
namespace Go.Proofs.YtalhcfjcbbkpgaaGreat
section
open Go.RowKit
def sg(s:List Nat)(d:Nat):Nat:=s.getD d 0
theorem tZ{s:List Nat}{d:Nat}(h:d<s.length):s[d]? = some (sg s d):=by rw[sg,List.getD_eq_getElem?_getD,List.getElem?_eq_getElem h];rfl
def mZ(S:Nat->Nat)(d k:Nat):List Nat:=(List.range k).map fun i=>itr S i d
theorem Lc(S:Nat->Nat)(d k:Nat):mZ S d (k+1)=mZ S d k ++ [itr S k d]:=by simp[mZ,List.range_succ]
theorem Ld(S:Nat->Nat)(d k:Nat):(mZ S d k).length=k:=by simp[mZ]
theorem tV(l:List Nat)(x:Nat):dD (l ++ [x])=dD l ++ [(x:Int)]:=by simp[dD]
theorem q3z(w:World)(z:Int):dH w.heap.size (w.alloc (.cells #[.int .i64 z] 3)) (.slice (some ⟨w.heap.size,0,none⟩) 1 1) [z]:=by have a:=World.ownsRow_lit (base:=w.heap.size) (e:=3) (size:=1) w #[.int .i64 z] 1 (Nat.le_refl _) (by unfold maxLen;omega) rfl;exact a
theorem Le(sv:Value)(s:List Nat)(d:Nat)(w:World)(V:Sl .i64 w sv (dD s))(G:dO s.length (sg s))(H:d<s.length)(hl:s.length<=1000000) :
  Calls Tryz.prog 60 #[sv,.int .i64 d] w fun e w'=>∃v,e=.returned v/\dH w.heap.size w' v (dD (jg (sg s) d))/\Keeps (fun _=>False) w w':=by
 have X:Hid (∀W,Keeps (fun _=>False) w W->Sl .i64 W sv (dD s)):=dh (fun W F=>V.keeps F (fun _ _ h=>h));obtain⟨a,cap,rfl,I,ae,_,u⟩:=V;rw[q01]at I X ⊢;obtain⟨p1,p2,Y,Z⟩:=G.dM H;obtain⟨g,off,rfl,b⟩:=u d _ (jA (tZ H));have af:=World.block_lt_of_cell? _ _ b;have J:=dh (dn G (dn Y Z))
 have h0:dH w.heap.size (w.alloc (.cells #[.int .i64 d] 3)) (.slice (some ⟨w.heap.size,0,none⟩) 1 1) (dD (mZ (sg s) d 1))/\Keeps (fun _=>False) w (w.alloc (.cells #[.int .i64 d] 3)) :=
  ⟨q3z w d,(Keeps.refl _ w).alloc _⟩
 have K:=vK b (.cells #[.int .i64 d] 3);clear u G Y Z b;go_enter Tryz.func60,Tryz.ntmps60;go_wp2_with fail;clear K;generalize World.alloc _ _=wM at *;go_loopg [5,6] (per (sg s) d) (fun m ov x wr=>∃k:Nat,k+1<=per (sg s) d/\m=per (sg s) d - k/\x=.int .i64 (itr (sg s) (k+1) d:Nat)/\dH w.heap.size wr ov (dD (mZ (sg s) d (k+1)))/\Keeps (fun _=>False) w wr)
 case atStart=>exact⟨0,p1,rfl,rfl,h0⟩
 case round =>
  clear h0;obtain⟨k,F,z,rfl,c,i⟩:=hrel;have HG:=dh z;clear z;by_cases L:k+1<per (sg s) d
  ·have M:=J.out.2.2 (k+1) (by omega) L;have N:=J.out.1.dW H (k+1);have j:=Lc (sg s) d (k+1);have l:=Ld (sg s) d (k+1);obtain⟨a',aa,r,_,_,_,u⟩:=X.out wr i;simp only [Value.slice.injEq]at r;obtain⟨hq,-,rfl⟩:=r;subst hq;obtain⟨g',ab,A,b⟩:=u _ _ (jA (tZ N));simp only [Option.some.injEq,Addr.mk.injEq,and_true]at A;obtain⟨rfl,rfl⟩:=A;have o:sg s (itr (sg s) (k+1) d)=itr (sg s) (k+1+1) d:=rfl;rw[o]at b;have B:=c.form;rw[q01,l]at B;obtain⟨la,lc,rfl,_,_⟩:=B;generalize O:itr (sg s) (k+1+1) d=y at *;generalize C:itr (sg s) (k+1) d=x at *;have ag:(((x:Nat):Int) != ((d:Nat):Int))=true:=by rw[bne_iff_ne];omega
   have HN:Hid ((dD (mZ (sg s) d (k+1))).length=k+1):=dh (by rw[q01];exact l);have P:=i.size;have HH:=dh (dn C (dn j i));have HY:=dh O;have Q:k+1<=10000000000:=by omega
   clear u C O j l i M o;have R:Hid (∀W,Keeps (fun q=>(Value.slice la (k+1) lc).ownBlock=some q) wr W->W.cell? ⟨g,off+x,none⟩=some (.int .i64 y)):=dh (fun W F=>by rw[World.cell?_of_block (w:=wr) (F.block g (World.block_lt_of_cell? _ _ b) (fun e=>by have:=(c.lt g e).1;omega))];exact b);clear b;go_wp2_with (at_builtin;refine oz (k+1) rfl _ _ rfl w.heap.size (.slice la (k+1) lc) (dD (mZ (sg s) d (k+1))) (x:Nat) HN wr.heap.size rfl rfl rfl c Q P ?_;intro g2 ad w3 f t T hg;have p:=R.out w3 t)
   have D:=HH.out.2.2.trans t (fun y O h=>by have:=(c.lt y h).1;omega);rw[<-tV]at f;have j:=HH.out.2.1;rw[<-j]at f;have U:=dh (dn f D);clear f D t T c j p;go_roundg (per (sg s) d - (k+1))
   case measure=>rw[HG.out];omega
   case rel=>exact⟨k+1,by omega,rfl,by rw[HY.out],U.out⟩
  ·have E:k+1=per (sg s) d:=by omega
   have C:itr (sg s) (k+1) d=d:=by rw[E];exact J.out.2.1
   have ho:mZ (sg s) d (k+1)=jg (sg s) d:=by rw[E];rfl
   rw[ho]at c;rw[C];have U:=dh (dn c i);clear C ho c i;go_wp2;go_ret;exact⟨_,rfl,U.out⟩
end
section
open Go.RowKit
theorem Sl.cellAt{k:IntKind}{w:World}{a:Option Addr}{n cap:Nat}{zs:List Int}(h:Sl k w (.slice a n cap) zs){j:Nat}{z:Int}(d:zs[j]? = some z):∃g off,a=some ⟨g,off,none⟩/\w.cell? ⟨g,off+j,none⟩=some (.int k z):=by obtain⟨f,b,c,_,_,_,e⟩:=h;simp only [Value.slice.injEq]at c;obtain⟨rfl,-,rfl⟩:=c;exact e j z d
theorem Sl.cellOf{k:IntKind}{w:World}{g off n cap:Nat}{zs:List Int}(h:Sl k w (.slice (some ⟨g,off,none⟩) n cap) zs){j:Nat}{z:Int}(c:zs[j]? = some z):w.cell? ⟨g,off+j,none⟩=some (.int k z):=by obtain⟨e,a,b,d⟩:=h.cellAt c;simp only [Option.some.injEq,Addr.mk.injEq,and_true]at b;obtain⟨rfl,rfl⟩:=b;exact d
theorem Sl.form{k:IntKind}{w:World}{sv:Value}{zs:List Int}(h:Sl k w sv zs):∃a cap,sv=.slice a zs.length cap/\zs.length<=cap/\cap<=9223372036854775807:=by obtain⟨a,cap,b,c,d,_⟩:=h;exact⟨a,cap,b,c,d⟩
theorem uf{s:List Nat}{d:Nat}(h:d<s.length):(dD s)[d]? = some ((sg s d:Nat):Int):=jA (tZ h)
theorem BA(d:Nat)(w:World)(f:d<=1000000000) :
  Calls Tryz.prog 67 #[.int .i64 d] w fun e w'=>e=.returned (.int .i64 (mt d:Nat))/\w=w':=by
 unfold mt;by_cases a:d % 2=0
 ·rw[if_pos a];have c:(((d:Nat):Int) % 2 == 0)=true:=by simp;omega
  have b:Hid ((((d+1:Nat)):Int)=(d:Int)+1):=dh (by omega);clear a;go_enter Tryz.func67,Tryz.ntmps67;go_wp2;go_ret;exact⟨by rw[b.out];rfl,rfl⟩
 ·rw[if_neg a];have c:(((d:Nat):Int) % 2 == 0)=false:=by simp;omega
  have b:Hid ((((d - 1:Nat)):Int)=(d:Int) - 1):=dh (by omega);have g:1<=(d:Int):=by omega
  clear a;go_enter Tryz.func67,Tryz.ntmps67;go_wp2;go_ret;exact⟨by rw[b.out];rfl,rfl⟩
noncomputable def gq(S:Nat->Nat)(e:Nat):Nat:=itr S (per S e - 1) e
theorem dO.eF{n:Nat}{S:Nat->Nat}(h:dO n S){e:Nat}(he:e<n):gq S e<n:=h.dW he _
theorem dO.fD{n:Nat}{S:Nat->Nat}(h:dO n S){e:Nat}(he:e<n):S (gq S e)=e:=by
 have a:=(h.dM he).1;have:itr S (per S e - 1+1) e=e:=by rw[Nat.sub_add_cancel a];exact(h.dM he).2.2.1
 exact this
theorem dO.inv_of{n:Nat}{S:Nat->Nat}(h:dO n S){d:Nat}(a:d<n):gq S (S d)=d :=
 h.inj _ _ (h.eF (h.lt d a)) a (h.fD (h.lt d a))
def sQ(s:List Nat)(j:Nat)(zs:List Int):Prop:=zs.length=s.length/\∀i,i<j->zs[sg s i]? = some (i:Int)
theorem sQ.step{s:List Nat}{j:Nat}{zs:List Int}(b:dO s.length (sg s))(c:j<s.length)(h:sQ s j zs):sQ s (j+1) (zs.set (sg s j) (j:Int)):=by
 obtain⟨d,f⟩:=h;refine⟨by simpa using d,fun i k=>?_⟩;rw[List.getElem?_set];by_cases a:i=j
 ·subst a;have:=b.lt i c;have g:sg s i<s.length:=this;simp[d,g]
 ·rw[if_neg (fun e=>a (b.inj _ _ (by omega) c e.symm))];exact f i (by omega)
theorem sQ.done{s:List Nat}{zs:List Int}(a:dO s.length (sg s))(h:sQ s s.length zs):zs=dD ((List.range s.length).map (gq (sg s))):=by
 apply List.ext_getElem?;intro e;rcases Nat.lt_or_ge e s.length with he|he
 ·have b:=h.2 (gq (sg s) e) (a.eF he);rw[a.fD he]at b;rw[b];simp[dD,he]
 ·rw[List.getElem?_eq_none (by rw[h.1];exact he),List.getElem?_eq_none (by simp[dD];exact he)]
def dV(w:World)(g n:Nat)(P:List Int->Prop)(wr:World):Prop :=
 ∃zs,zs.length=n/\P zs/\dH w.heap.size wr (.slice (some ⟨g,0,none⟩) n n) zs/\Keeps (fun _=>False) w wr
theorem dV.made(w:World)(n:Nat)(P:List Int->Prop)(a:P (List.replicate n 0))(b:n<=100000000):dV w w.heap.size n P (w.alloc (.cells (madeCells #[.int .i64 0] n) 3)) :=
 ⟨_,by simp,a,dH.made w.heap.size w n (Nat.le_refl _) b,(Keeps.refl _ w).alloc _⟩
theorem dV.old{w wr:World}{g n:Nat}{P:List Int->Prop}(h:dV w g n P wr):w.heap.size<=g/\g<wr.heap.size:=by obtain⟨zs,_,_,a,_⟩:=h;exact a.lt g rfl
theorem dV.set{w wr:World}{g n:Nat}{P Q:List Int->Prop}(h:dV w g n P wr)(i:Nat)(z:Int)(b:∀zs,zs.length=n->P zs->Q (zs.set i z)):dV w g n Q (wr.setCell ⟨g,i,none⟩ (.int .i64 z)):=by have c:=h.old.1;obtain⟨zs,a,d,e,f⟩:=h;exact⟨zs.set i z,by simpa using a,b zs a d,e.set i z,f.setCell (.inr c) _⟩
theorem dV.keeps{w wr w1:World}{g n:Nat}{P:List Int->Prop}(h:dV w g n P wr)(a:Keeps (fun _=>False) wr w1):dV w g n P w1:=by obtain⟨zs,b,c,d,e⟩:=h;exact⟨zs,b,c,d.keeps a (fun _ _ h=>h),e.trans a (fun _ _ h=>h)⟩
theorem dV.cell{w wr:World}{g n:Nat}{P:List Int->Prop}(h:dV w g n P wr)(i:Nat)(e:i<n):∃z:Int,(∃zs,zs.length=n/\P zs/\zs[i]? = some z)/\wr.cell? ⟨g,i,none⟩=some (.int .i64 z)/\wr.frozen? ⟨g,i,none⟩=false:=by obtain⟨zs,b,c,d,f⟩:=h;have a:=List.getElem?_eq_getElem (l:=zs) (i:=i) (by omega);exact⟨_,⟨zs,b,c,a⟩,d.cell a⟩
theorem dV.mono{w wr:World}{g n:Nat}{P Q:List Int->Prop}(h:dV w g n P wr)(b:∀zs,zs.length=n->P zs->Q zs):dV w g n Q wr:=by obtain⟨zs,a,c,d⟩:=h;exact⟨zs,a,b zs a c,d⟩
theorem QV(sv:Value)(s:List Nat)(w:World)(q:Sl .i64 w sv (dD s))(C:dO s.length (sg s))(K:s.length<=1000000) :
  Calls Tryz.prog 54 #[sv] w fun e w'=>∃g,e=.returned (.slice (some ⟨g,0,none⟩) s.length s.length)/\dV w g s.length (fun zs=>zs=dD ((List.range s.length).map (gq (sg s)))) w':=by
 have D:Hid (∀W,Keeps (fun _=>False) w W->Sl .i64 W sv (dD s)):=dh (fun W F=>q.keeps F (fun _ _ h=>h));obtain⟨a,cap,rfl,r,G⟩:=q.form;rw[q01]at r D ⊢;have t:=dV.made w s.length (sQ s 0) ⟨by simp,fun i u=>by omega⟩ (by omega);have v:=dh C;obtain⟨i,u,d,f,k⟩:=info_parts nX;have l:=fun w=>run_make (P:=Tryz.prog) w 25 3 i _ Tryz.underlying25 u d .i64 .i64 (s.length:Int) (s.length:Int) (by omega) (Int.le_refl _) (by rw[k];omega) (by omega);simp only [f,Int.toNat_natCast,Nat.mul_one]at l;clear C q u d f k;go_enter Tryz.func54,Tryz.ntmps54;go_wp2_with fail;clear l;generalize World.alloc _ _=wM at *;obtain⟨g,y⟩:∃g,g=w.heap.size:=⟨_,rfl⟩
 rw[<-y]at t;rw[<-y];clear y;go_loopg [11] s.length (fun m i wr=>∃j:Nat,j<=s.length/\m=s.length - j/\i=.int .i64 j/\dV w g s.length (sQ s j) wr)
 case atStart=>exact⟨0,Nat.zero_le _,rfl,rfl,t⟩
 case round =>
  clear t;obtain⟨j,L,o,rfl,c⟩:=hrel;have H:=dh o;clear o;by_cases b:j<s.length
  ·obtain⟨_,_,_,_,p⟩:=id c;obtain⟨M,off,rfl,A⟩:=(D.out wr p).cellAt (uf b);have B:sg s j<s.length:=v.out.lt j b;obtain⟨z,_,N,O⟩:=c.cell (sg s j) B;have E:=c.set (sg s j) (j:Int) (fun zs _ h=>h.step v.out b);have I:=dh E;clear E c p;generalize sg s j=x at *;go_wp2;go_roundg (s.length - (j+1))
   case measure=>rw[H.out];omega
   case rel=>exact⟨j+1,by omega,rfl,by go_num,I.out⟩
  ·obtain rfl:j=s.length:=by omega
   have J:=dh (c.mono (fun zs _ h=>h.done v.out));clear c;go_wp2;go_ret;exact⟨g,rfl,J.out⟩
end
section
open Go.RowKit
def rG(s:List Nat)(i:Nat)(zs:List Int):Prop:=∀x,x<s.length->zs[x]? = some (if rep (sg s) x<i then ((vnum (sg s) x:Nat):Int)else -1)
def rH(s:List Nat)(i k:Nat)(zs:List Int):Prop:=∀x,x<s.length->zs[x]? = some (if rep (sg s) x<i then ((vnum (sg s) x:Nat):Int)else if x ∈ (jg (sg s) i).take k then ((eu (sg s) i:Nat):Int)else -1)
theorem rH.zero{s:List Nat}{i:Nat}{zs:List Int}(h:rG s i zs):rH s i 0 zs:=fun x a=>by rw[h x a];simp
theorem rH.step{s:List Nat}{i k x:Nat}{zs:List Int}(c:dO s.length (sg s))(d:i<s.length)(hr:rep (sg s) i=i)(g:(jg (sg s) i)[k]? = some x)(m:zs.length=s.length)(h:rH s i k zs):rH s i (k+1) (zs.set x ((eu (sg s) i:Nat):Int)):=by
 have b:x ∈ jg (sg s) i:=List.mem_of_getElem? g;have f:x<s.length:=c.fK d ((c.fU d).1 b);intro y j;rw[List.getElem?_set,oW g];have l:=(c.qO d f hr).2 b;by_cases a:x=y
 ·subst a;rw[if_pos rfl,if_pos (by omega),if_neg l.2,if_pos (by simp)]
 ·rw[if_neg a,h y j];have:(y ∈ (jg (sg s) i).take k ++ [x])↔y ∈ (jg (sg s) i).take k:=by simp only [List.mem_append,List.mem_singleton];exact⟨fun h=>h.resolve_right (fun e=>a e.symm),.inl⟩
  simp only [this]
theorem rH.done{s:List Nat}{i:Nat}{zs:List Int}(f:dO s.length (sg s))(g:i<s.length)(hr:rep (sg s) i=i)(h:rH s i (per (sg s) i) zs):rG s (i+1) zs:=by
 intro y c;rw[h y c,List.take_of_length_le (by rw[yG];exact Nat.le_refl _)];obtain⟨d,j⟩:=f.qO g c hr;by_cases a:rep (sg s) y<i
 ·rw[if_pos a,if_pos (by omega)]
 ·rw[if_neg a];by_cases b:y ∈ jg (sg s) i
  ·rw[if_pos b,if_pos (d.2 (.inr b)),(j b).1]
  ·rw[if_neg b,if_neg (fun e=>(d.1 e).elim a b)]
theorem rG.skip{s:List Nat}{i:Nat}{zs:List Int}(c:dO s.length (sg s))(hr:rep (sg s) i≠i)(h:rG s i zs):rG s (i+1) zs:=by
 intro y b;rw[h y b];have:=c.vJ (i:=i) b hr;by_cases a:rep (sg s) y<i
 ·rw[if_pos a,if_pos (this.2 a)]
 ·rw[if_neg a,if_neg (fun e=>a (this.1 e))]
theorem rG.all{s:List Nat}{zs:List Int}(a:dO s.length (sg s))(b:zs.length=s.length)(h:rG s s.length zs):zs=dD ((List.range s.length).map (vnum (sg s))):=by
 apply List.ext_getElem?;intro e;rcases Nat.lt_or_ge e s.length with he|he
 ·rw[h e he,if_pos (a.kQ he)];simp[dD,he]
 ·rw[List.getElem?_eq_none (by omega),List.getElem?_eq_none (by simp[dD];exact he)]
theorem rG.at{s:List Nat}{i:Nat}{zs:List Int}{z:Int}(d:dO s.length (sg s))(c:i<s.length)(h:rG s i zs)(b:zs[i]? = some z):(rep (sg s) i=i/\z=-1)\/(rep (sg s) i≠i/\0<=z):=by
 rw[h i c]at b;have e:=d.iB c;simp only [Option.some.injEq]at b;by_cases a:rep (sg s) i<i
 ·rw[if_pos a]at b;exact .inr ⟨by omega,by omega⟩
 ·rw[if_neg a]at b;exact .inl ⟨by omega,b.symm⟩
theorem QW(sv:Value)(s:List Nat)(w:World)(hs:Sl .i64 w sv (dD s))(aa:∀k,sv.ownBlock=some k->k<w.heap.size)(hP:dO s.length (sg s))(hl:s.length<=1000000) :
  Calls Tryz.prog 99 #[sv] w fun e w'=>∃g,e=.returned (.slice (some ⟨g,0,none⟩) s.length s.length)/\dV w g s.length (fun zs=>zs=dD ((List.range s.length).map (vnum (sg s)))) w':=by
 have HS:Hid (∀W,Keeps (fun _=>False) w W->Sl .i64 W sv (dD s)):=dh (fun W V=>hs.keeps V (fun _ _ h=>h));obtain⟨a,cap,rfl,ab,al⟩:=hs.form;rw[q01]at ab HS aa ⊢;have h0:=dV.made w s.length (fun zs=>∀i,i<0->zs[i]? = some (-1)) (fun i X=>by omega) (by omega);have y:=dh hP;obtain⟨i,X,H,I,J⟩:=info_parts nX;have K:=fun w=>run_make (P:=Tryz.prog) w 25 3 i _ Tryz.underlying25 X H .i64 .i64 (s.length:Int) (s.length:Int) (by omega) (Int.le_refl _) (by rw[J];omega) (by omega);simp only [I,Int.toNat_natCast,Nat.mul_one]at K;clear hP hs X H I J;go_enter Tryz.func99,Tryz.ntmps99;go_wp2_with fail;clear K;generalize World.alloc _ _=wM at *;obtain⟨g,Y⟩:∃g,g=w.heap.size:=⟨_,rfl⟩
 rw[<-Y]at h0;rw[<-Y];have am:=dh Y;clear Y;go_loopg [14] s.length (fun m i wr=>∃j:Nat,j<=s.length/\m=s.length - j/\i=.int .i64 j/\dV w g s.length (fun zs=>∀i,i<j->zs[i]? = some (-1)) wr)
 case atStart=>exact⟨0,Nat.zero_le _,rfl,rfl,h0⟩
 case round =>
  clear h0;obtain⟨j,hj,f,rfl,o⟩:=hrel;have L:=dh f;clear f;by_cases b:j<s.length
  ·obtain⟨z,_,hc,hf⟩:=o.cell j b
   have HN:=dh (o.set (Q:=fun zs=>∀i,i<j+1->zs[i]? = some (-1)) j (-1) (fun zs l h i X=>by
    rw[List.getElem?_set];by_cases M:j=i
    ·rw[if_pos M,if_pos (by omega)]
    ·rw[if_neg M];exact h i (by omega)))
   clear o;go_wp2;go_roundg (s.length - (j+1))
   case measure=>rw[L.out];omega
   case rel=>exact⟨j+1,by omega,rfl,by go_num,HN.out⟩
  ·obtain rfl:j=s.length:=by omega
   have h1:dV w g s.length (rG s 0) wr:=o.mono (fun zs _ h x hx=>by rw[if_neg (by omega)];exact h x hx);clear o b hj;go_wp2_with fail;go_loopg [5,23] s.length (fun m c i wr=>∃j:Nat,j<=s.length/\m=s.length - j/\i=.int .i64 j/\c=.int .i64 (eu (sg s) j:Nat)/\dV w g s.length (rG s j) wr)
   case atStart=>exact⟨0,Nat.zero_le _,rfl,rfl,rfl,h1⟩
   case round =>
    clear h1 L;obtain⟨j,hj,f,rfl,rfl,o⟩:=hrel;have L:=dh f;clear f;have an:=oV (sg s) j;have t:=sw (sg s) j;by_cases b:j<s.length
    ·obtain⟨z,⟨zs,l,B,C⟩,hc,hf⟩:=o.cell j b;obtain⟨_,_,_,_,D⟩:=id o;rcases rG.at y.out b B C with⟨hr,rfl⟩|⟨hr,hz⟩
     ·rw[if_pos hr]at t;have hO:=Le (.slice a s.length cap) s j wr (HS.out wr D) y.out b hl;have N:=dh (dn o (dn hr t));generalize O:eu (sg s) j=c at *;have HC:=dh O;clear o hr t B C l O;have aj:decide ((0:Int)<=-1)=false:=by decide
      go_wp2_with fail
      refine hO.mono ?_;rintro e Z ⟨ov,rfl,r,ad⟩;have R:(dD (jg (sg s) j)).length=per (sg s) j:=by rw[q01,yG]
      have T:=r.form;rw[R]at T;obtain⟨oa,oc,rfl,_,ao⟩:=T;have ap:g<wr.heap.size:=N.out.1.old.2;have ae:Hid (∀W,Keeps (fun q=>q=g) Z W->Sl .i64 W (.slice oa (per (sg s) j) oc) (dD (jg (sg s) j))):=dh (fun W V=>(r.keeps V (fun q hq e=>by have:=(r.lt q hq).1;omega)).sl);have U:dV w g s.length (rH s j 0) Z:=(N.out.1.keeps ad).mono (fun zs _ h=>rH.zero h);have A:=Keeps.refl (fun q=>q=g) Z;have ak:per (sg s) j<=1000000:=Nat.le_trans (y.out.dM b).2.1 hl;clear hO r R hc hf D;go_wp2_with fail;go_loopg [35] (per (sg s) j) (fun m i wr=>∃k:Nat,k<=per (sg s) j/\m=per (sg s) j - k/\i=.int .i64 k/\dV w g s.length (rH s j k) wr/\Keeps (fun q=>q=g) Z wr)
      case atStart=>exact⟨0,Nat.zero_le _,rfl,rfl,U,A⟩
      case round =>
       clear U A;obtain⟨k,V,f,rfl,u,v⟩:=hrel;have af:=dh f;clear f;by_cases ag:k<per (sg s) j
       ·have E:=FK (S:=sg s) (d:=j) ag;have ah:=y.out.dW b k;obtain⟨og,oo,rfl,ai⟩:=(ae.out _ v).cellAt (jA E);obtain⟨z,_,aq,ar⟩:=u.cell _ ah;have hN:=u.set (Q:=rH s j (k+1)) (itr (sg s) k j) ((eu (sg s) j:Nat):Int) (fun zs l h=>rH.step y.out b N.out.2.1 E l h);have F:=v.setCell (p:=⟨g,itr (sg s) k j,none⟩) (.inl rfl) (.int .i64 ((eu (sg s) j:Nat):Int));rw[show eu (sg s) j=c from HC.out]at hN F;have HN:=dh (dn hN F);clear hN F u v E;generalize itr (sg s) k j=x at *;go_wp2;go_roundg (per (sg s) j - (k+1))
        case measure=>rw[af.out];omega
        case rel=>exact⟨k+1,by omega,rfl,by go_num,HN.out⟩
       ·obtain rfl:k=per (sg s) j:=by omega
        have G:=dh (u.mono (fun zs _ h=>rH.done y.out b N.out.2.1 h));clear u v;go_wp2;go_roundg (s.length - (j+1))
        case measure=>rw[L.out];omega
        case rel=>exact⟨j+1,by omega,rfl,by go_num,by rw[N.out.2.2];go_num,G.out⟩
     ·rw[if_neg hr]at t;have G:=dh (dn (o.mono (fun zs _ h=>rG.skip y.out hr h)) t);clear o hr t B C l D;generalize eu (sg s) j=c at *;go_wp2;go_roundg (s.length - (j+1))
      case measure=>rw[L.out];omega
      case rel=>exact⟨j+1,by omega,rfl,by go_num,by rw[G.out.2];go_num,G.out.1⟩
    ·obtain rfl:j=s.length:=by omega
     have G:=dh (o.mono (fun zs l h=>rG.all y.out l h));clear o;go_wp2;go_ret;exact⟨g,rfl,G.out⟩
end
section
open Go.RowKit
theorem QX{e:Array Oper}{o:Oper}{a:Act}{K:Act->World->Prop}{Q:Exit->Act->World->Prop}{E:Prop}{wr:World}(n:Nat)(f:o.guard=none)(s x:Operand)
  (w:o.op=.call { callee:=.builtin .append,args:=#[s,x],argTypes:=#[25,25] })(B:Nat)(v:Value)(zs:List Int)(z:Int)(j:Hid (zs.length=n))(H:Nat)(y:wr.heap.size=H)(A:a.eval s=v)(C:a.eval x=.slice (some ⟨H,0,none⟩) 1 1)
  (d:dH B wr v zs)(r:n<=10000000000)(G:B<=wr.heap.size)
  (h:∀g cap w',dH B w' (.slice (some ⟨g,0,none⟩) (n+1) cap) (zs ++ [z])->Keeps (fun k=>v.ownBlock=some k) wr w'->(v.ownBlock=some g\/wr.heap.size<=g)->B<=g->K (a.put o.dst (.slice (some ⟨g,0,none⟩) (n+1) cap)) w') :
  if Region.wanted o (yielded e a.tmps)=true then Oper.wp Tryz.prog o a (wr.alloc (.cells #[.int .i64 z] 3)) K Q else E:=by
 obtain⟨i,D,l,m,p⟩:=info_parts nX;have j:=j.out;subst j;subst y;refine step_append_lies _ f s x _ w B 3 i (.int .i64 0) 1 8 Tryz.underlying25 D l m p rfl (by decide) v zs.length _ A (d.alloc _) ⟨wr.heap.size,0,none⟩ 1 1 [.int .i64 z] C rfl (cell_one_new _ _ _) ?_ (by decide) ?_ ?_ ?_ (wr.heap.size+1) (by simp) ?_
 ·intro u t;simp at t;subst t;rfl
 ·unfold maxLen;omega
 ·omega
 ·simp;omega
 ·intro g cap w1 b c q _;refine h g cap w1 ?_ (((Keeps.refl _ wr).alloc _).grown c (fun k F=>.inl F)) (q.imp id (fun h=>by omega)) ?_
  ·unfold dH ints;rw[List.length_append,List.map_append];exact b
  ·exact(b.lt g rfl).1
theorem Lh{e:Array Oper}{o:Oper}{a:Act}{K:Act->World->Prop}{Q:Exit->Act->World->Prop}{E:Prop}{wr:World}(n:Nat)(f:o.guard=none)(s x:Operand)
  (y:o.op=.call { callee:=.builtin .append,args:=#[s,x],argTypes:=#[25,25] })(B:Nat)(v:Value)(zs:List Int)(z:Int)(l:Hid (zs.length=n))(H:Nat)(A:wr.heap.size=H)(C:a.eval s=v)(D:a.eval x=.slice (some ⟨H,0,none⟩) 1 1)
  (d:dH B wr v zs)(t:n<=10000000000)(I:B<=wr.heap.size)
  (h:∀g cap w',dH B w' (.slice (some ⟨g,0,none⟩) (n+1) cap) (zs ++ [z])->Keeps (fun k=>v.ownBlock=some k) wr w'->(v.ownBlock=some g\/wr.heap.size<=g)->B<=g->K (a.put o.dst (.slice (some ⟨g,0,none⟩) (n+1) cap)) w') :
  if Region.wanted o (yielded e a.tmps)=true then Oper.wp Tryz.prog o a (wr.alloc (.cells #[.int .i64 z] 3)).drew K Q else E:=by
 obtain⟨i,F,m,p,q⟩:=info_parts nX;have l:=l.out;subst l;subst A;refine step_append_lies _ f s x _ y B 3 i (.int .i64 0) 1 8 Tryz.underlying25 F m p q rfl (by decide) v zs.length _ C (d.alloc _).drew ⟨wr.heap.size,0,none⟩ 1 1 [.int .i64 z] D rfl (fun j u h=>cell_one_new wr _ _ j u h) ?_ (by decide) ?_ ?_ ?_ (wr.heap.size+1) (by simp) ?_
 ·intro u w;simp at w;subst w;rfl
 ·unfold maxLen;omega
 ·omega
 ·simp;omega
 ·intro g cap w1 b c r _;refine h g cap w1 ?_ (((Keeps.refl _ wr).alloc _).drew.grown c (fun k G=>.inl G)) (r.imp id (fun h=>by omega)) ?_
  ·unfold dH ints;rw[List.length_append,List.map_append];exact b
  ·exact(b.lt g rfl).1
def dS(s:List Nat):List Nat:=(List.range s.length).map fun d=>sg s (mt d)
theorem oD(s:List Nat):(dS s).length=s.length:=by simp[dS]
theorem QY{s:List Nat}{j:Nat}(a:j<s.length):(dS s).take (j+1)=(dS s).take j ++ [sg s (mt j)]:=oW (by simp[dS,a])
theorem Lj(sv:Value)(rt ln:Int)(s:List Nat)(w:World)(hs:Sl .i64 w sv (dD s))(he:s.length % 2=0)(hl:s.length<=1000000) :
  Calls Tryz.prog 59 #[.agg #[sv,.int .i64 rt,.int .i64 ln]] w fun e w'=>∃v,e=.returned v/\dH w.heap.size w' v (dD (dS s))/\Keeps (fun _=>False) w w':=by
 obtain⟨k,A⟩:∃k,k=w.heap.size:=⟨_,rfl⟩
 have k0:Keeps (fun _=>False) w (w.alloc (.cells #[sv,.int .i64 rt,.int .i64 ln] 27)):=(Keeps.refl _ w).alloc _;have B:(w.alloc (.cells #[sv,.int .i64 rt,.int .i64 ln] 27)).heap[k]? = some (.cells #[sv,.int .i64 rt,.int .i64 ln] 27 (0,0)):=by rw[A];exact heap_alloc_new w _
 have HS:Hid (∀W,Keeps (fun _=>False) w W->Sl .i64 W sv (dD s)):=dh (fun W Y=>hs.keeps Y (fun _ _ h=>h));obtain⟨a,cap,rfl,aa,ae⟩:=hs.form;rw[q01]at aa HS B k0 ⊢;have F:=dh A;clear hs A;go_enter Tryz.func59,Tryz.ntmps59;go_wp2_with fail;rw[<-F.out];have h0:dH w.heap.size (w.alloc (.cells #[.slice a s.length cap,.int .i64 rt,.int .i64 ln] 27)) (.slice none 0 0) (dD ((dS s).take 0)):=dH.nil _ _;have af:w.heap.size<=k:=by have:=F.out;omega
 generalize World.alloc _ _=wM at *;go_loopg [3,8] s.length (fun m ov i wr=>∃j:Nat,j<=s.length/\m=s.length - j/\i=.int .i64 j/\dH w.heap.size wr ov (dD ((dS s).take j))/\(∀q,ov.ownBlock=some q->q≠k)/\wr.heap[k]? = some (.cells #[.slice a s.length cap,.int .i64 rt,.int .i64 ln] 27 (0,0))/\Keeps (fun _=>False) w wr)
 case atStart=>exact⟨0,Nat.zero_le _,rfl,rfl,h0,(fun q Z=>by simp[Value.ownBlock]at Z),B,k0⟩
 case round =>
  clear h0 k0 B;obtain⟨j,hj,G,rfl,b,u,l,f⟩:=hrel;have HG:=dh G;clear G;by_cases H:j<s.length
  ·have C:=dQ he H;obtain⟨g,off,rfl,c⟩:=(HS.out wr f).cellAt (uf C);have p:=QY H;have r:((dS s).take j).length=j:=by rw[List.length_take,oD];omega
   have I:=b.form;rw[q01,r]at I;obtain⟨la,lc,rfl,_,_⟩:=I;have hM:=fun W=>BA j W (by omega);have hb:=dw l 0;have J:wr.drew.cell? ⟨k,0,none⟩=some (.slice (some ⟨g,off,none⟩) s.length cap):=hb;have K:wr.drew.cell? ⟨g,off+mt j,none⟩=some (.int .i64 (sg s (mt j):Nat)):=c;have ag:(0:Int)<=((mt j:Nat):Int):=by omega
   have ah:((mt j:Nat):Int)<(s.length:Int):=by omega
   have HN:Hid ((dD ((dS s).take j)).length=j):=dh (by rw[q01];exact r);have ai:g<w.heap.size:=World.block_lt_of_cell? _ _ ((HS.out w (Keeps.refl _ w)).cellOf (uf C));have D:Hid (∀W,Keeps (fun q=>(Value.slice la j lc).ownBlock=some q) wr W->W.heap[k]? = some (.cells #[.slice (some ⟨g,off,none⟩) s.length cap,.int .i64 rt,.int .i64 ln] 27 (0,0))/\W.cell? ⟨g,off+mt j,none⟩=some (.int .i64 (sg s (mt j):Nat))):=dh (fun W Y=>⟨Y.at l (fun e=>u _ e rfl),by rw[World.cell?_of_block (w:=wr) (Y.block g (World.block_lt_of_cell? _ _ c) (fun e=>by have:=(b.lt g e).1;omega))];exact c⟩);have HH:=dh (dn p (dn u (dn l f)));have ab:=f.size;have E:dH w.heap.size wr.drew (.slice la j lc) (dD ((dS s).take j)):=b;have ad:j<=10000000000:=by omega
   clear p u l f r C;generalize L:sg s (mt j)=x at *;generalize M:mt j=mj at *;have HX:=dh (dn L M);clear L M;have N:=fun (o:Obj)=>vK hb o;have O:=fun (o:Obj)=>vK c o;go_wp2_with fail;go_region_held3 (fun w'=>w'.cell? ⟨k,0,none⟩=some (.slice (some ⟨g,off,none⟩) s.length cap)/\w'.cell? ⟨g,off+mj,none⟩=some (.int .i64 (x:Nat))) (first|exact⟨J,K⟩|exact⟨N _,O _⟩|exact⟨P,Q⟩) (first | ((go_at_call 67;refine(hM _).mono ?_;rintro e w' ⟨rfl,rfl⟩)) | ((refine Lh j (by rfl) (.tmp 11) (.tmp 18) (by rfl) w.heap.size (.slice la j lc) (dD ((dS s).take j)) (x:Nat) HN wr.heap.size rfl (by simp[Act.eval]) (by simp[Act.eval]) b ad ab ?_;intro g2 R T d t U hg;have P:T.cell? ⟨k,0,none⟩=some (.slice (some ⟨g,off,none⟩) s.length cap):=dw (D.out T t).1 0;have Q:T.cell? ⟨g,off+mj,none⟩=some (.int .i64 (x:Nat)):=(D.out T t).2)));have V:=(D.out T t).1;have X:=HH.out.2.2.2.trans t (fun y hy h=>by have:=(b.lt y h).1;omega);have p:=HH.out.1;rw[<-tV]at d;rw[<-p]at d
   have z:∀q,(Value.slice (some ⟨g2,0,none⟩) (j+1) R).ownBlock=some q->q≠k:=by
    intro q Z;simp only [Value.ownBlock,Option.some.injEq]at Z;subst Z;rcases U with h|h
    ·exact HH.out.2.1 _ h
    ·have:=lt_of_block HH.out.2.2.1;omega
   have HF:=dh (dn d (dn z (dn V X)));clear d z V X p t U b E P Q hb J K c N O hM;go_wp2;go_roundg (s.length - (j+1))
   case measure=>rw[HG.out];omega
   case rel=>exact⟨j+1,by omega,rfl,by go_num,HF.out⟩
  ·obtain rfl:j=s.length:=by omega
   rw[List.take_of_length_le (by rw[oD];exact Nat.le_refl _)]at b;have HF:=dh (dn b f);clear b f l u;go_wp2;go_ret;exact⟨_,rfl,HF.out⟩
end
section
theorem Ie(n:Nat)(S:Nat->Nat)(d:Nat):∃m,dI n S d m/\∀e,dI n S d e->m<=e:=by
 open Classical in
 obtain⟨m,g,i,c,f⟩:=Bj (fun e=>dI n S d e) 0 d (by rw[Nat.zero_add];exact dI.refl n S d);refine⟨m,c,fun e he=>?_⟩;rcases Nat.lt_or_ge e m with a|b
 ·exact absurd he (f e (by omega) a)
 ·exact b
noncomputable def eU(n:Nat)(S:Nat->Nat)(d:Nat):Nat:=(Ie n S d).choose
theorem wO(n:Nat)(S:Nat->Nat)(d:Nat):dI n S d (eU n S d):=(Ie n S d).choose_spec.1
theorem xu{n:Nat}{S:Nat->Nat}{d e:Nat}(h:dI n S d e):eU n S d<=e:=(Ie n S d).choose_spec.2 e h
noncomputable def dX(n:Nat)(S:Nat->Nat)(i:Nat):Nat:=((List.range i).filter fun x=>eU n S x == x).length
noncomputable def eP(n:Nat)(S:Nat->Nat)(d:Nat):Nat:=dX n S (eU n S d)
theorem ug(n:Nat)(S:Nat->Nat)(i:Nat):dX n S (i+1)=dX n S i+if eU n S i=i then 1 else 0:=by unfold dX;rw[List.range_succ,List.filter_append,List.length_append];by_cases a:eU n S i=i <;> simp[a]
theorem C9(n:Nat)(S:Nat->Nat){i j:Nat}(a:i<=j):dX n S i<=dX n S j:=by
 induction j with
 | zero=>rw[show i=0 by omega];exact Nat.le_refl _
 | succ j b =>
  rcases Nat.lt_or_ge i (j+1)with c|d
  ·have:=ug n S j;have:=b (by omega);omega
  ·rw[show i=j+1 by omega];exact Nat.le_refl _
theorem BD(n:Nat)(S:Nat->Nat)(i:Nat):dX n S i<=i:=by unfold dX;exact Nat.le_trans (List.length_filter_le _ _) (by simp)
section
variable {n:Nat} {S:Nat->Nat} (h:dO n S) (he:n % 2=0)
include h he
theorem dO.jG{d e:Nat}(f:d<n)(a:e<n):eU n S d=eU n S e↔dI n S d e:=by
 constructor
 ·intro hr;have b:=wO n S d;rw[hr]at b;exact b.trans (h.gL he a (wO n S e))
 ·intro c;exact Nat.le_antisymm (xu (c.trans (wO n S e))) (xu ((h.gL he f c).trans (wO n S d)))
theorem dO.lF{d:Nat}(a:d<n):eU n S d<n:=h.yY he a (wO n S d)
theorem dO.jf{d:Nat}(a:d<n):eU n S (eU n S d)=eU n S d:=((h.jG he a (h.lF he a)).2 (wO n S d)).symm
theorem dO.iT{d e:Nat}(g:d<n)(b:e<n):eP n S d=eP n S e↔dI n S d e:=by
 rw[<-h.jG he g b];constructor
 ·intro i;unfold eP at i;rcases Nat.lt_trichotomy (eU n S d) (eU n S e)with a|c|a
  ·have f:=ug n S (eU n S d);rw[if_pos (h.jf he g)]at f;have j:=C9 n S (show eU n S d+1<=eU n S e from a);omega
  ·exact c
  ·have f:=ug n S (eU n S e);rw[if_pos (h.jf he b)]at f;have j:=C9 n S (show eU n S e+1<=eU n S d from a);omega
 ·intro hr;unfold eP;rw[hr]
theorem dO.lG{d:Nat}(a:d<n):eP n S d<dX n S n:=by have b:=ug n S (eU n S d);rw[if_pos (h.jf he a)]at b;have c:=C9 n S (show eU n S d+1<=n from h.lF he a);unfold eP;omega
end
end
