import Derived.Laws.CopyOwn
import Derived.Test.YtalhcfjcbbkpgaaGreatZp0h
set_option maxRecDepth 100000
set_option maxHeartbeats 4000000
namespace Go.Proofs.YtalhcfjcbbkpgaaGreat
section
open Go.RowKit
def PermAt(w:World)(b:Nat)(sv:Value)(s:List Nat):Prop :=
 (∃a c d e,w.heap[b]? = some (.cells #[sv,a,c,d,e] 174 (0,0)))/\Sl .i64 w sv (dD s)/\(∀k,sv.ownBlock=some k->k≠b/\k<w.heap.size)
theorem PermAt.lt{w:World}{b:Nat}{sv:Value}{s:List Nat}(h:PermAt w b sv s):b<w.heap.size:=by obtain⟨⟨_,_,_,_,a⟩,_⟩:=h;exact lt_of_block a
theorem PermAt.keeps{w w':World}{F:Nat->Prop}{b:Nat}{sv:Value}{s:List Nat}(h:PermAt w b sv s)(k:Keeps F w w')(d:¬F b)(e:∀k,sv.ownBlock=some k->¬F k):PermAt w' b sv s:=by obtain⟨⟨f,i,j,l,m⟩,p,a⟩:=h;exact⟨⟨f,i,j,l,k.at m d⟩,p.keeps k e,fun q c=>⟨(a q c).1,Nat.lt_of_lt_of_le (a q c).2 k.size⟩⟩
theorem AA(b:Nat)(sv:Value)(s:List Nat)(w:World)(h:PermAt w b sv s) :
  Calls Tryz.prog 111 #[.pointer (some ⟨b,0,none⟩)] w fun e w'=>e=.returned (.int .i64 s.length)/\w=w':=by
 obtain⟨⟨k,l,m,p,d⟩,f,_⟩:=h;have i:w.cell? ⟨b,0,none⟩=some sv:=dw d 0;obtain⟨a,cap,rfl,c,j⟩:=f.form;rw[q01]at i c;clear d f;go_enter Tryz.func111,Tryz.ntmps111;go_wp2;go_ret;exact⟨rfl,rfl⟩
theorem AB(b:Nat)(sv:Value)(s:List Nat)(i:Nat)(w:World)(h:PermAt w b sv s)(k:i<s.length) :
  Calls Tryz.prog 126 #[.pointer (some ⟨b,0,none⟩),.int .i64 i] w fun e w'=>e=.returned (.int .i64 (sg s i:Nat))/\w=w':=by
 have l:=AA b sv s w h;obtain⟨⟨q,r,u,v,j⟩,c,_⟩:=h;have m:w.cell? ⟨b,0,none⟩=some sv:=dw j 0;obtain⟨a,cap,rfl,d,p⟩:=c.form;rw[q01]at m d c;obtain⟨g,off,rfl,f⟩:=c.cellAt (uf k);clear j c;generalize sg s i=x at *;generalize s.length=n at *;go_enter Tryz.func126,Tryz.ntmps126;go_wp2_with (go_at_call 111;refine l.mono ?_;rintro e w' ⟨rfl,rfl⟩)
 go_ret;exact⟨rfl,rfl⟩
theorem q1z(b:Nat)(sv:Value)(s:List Nat)(w:World)(h:PermAt w b sv s)(k:s.length<=1000000) :
  Calls Tryz.prog 115 #[.pointer (some ⟨b,0,none⟩)] w fun e w'=>∃v,e=.returned v/\dH w.heap.size w' v (dD s)/\Keeps (fun _=>False) w w':=by
 obtain⟨⟨l,m,p,q,c⟩,d,_⟩:=h;have r:w.cell? ⟨b,0,none⟩=some sv:=dw c 0;have f:=II sv (dD s) w d (by rw[q01];omega);clear c d;go_enter Tryz.func115,Tryz.ntmps115;go_wp2_with fail;refine f.mono ?_;rintro e w1 ⟨v,rfl,a,i⟩;have j:=dh (dn a i);clear f a i;go_wp2;go_ret;exact⟨_,rfl,j.out⟩
theorem I4(b:Nat)(sv:Value)(s:List Nat)(d:Nat)(w:World)(N:PermAt w b sv s)(P:dO s.length (sg s))(Q:d<s.length)(hl:s.length<=1000000) :
  Calls Tryz.prog 175 #[.pointer (some ⟨b,0,none⟩),.int .i64 d] w fun e w'=>∃v,e=.returned v/\dH w.heap.size w' v (dD (jg (sg s) d))/\Keeps (fun _=>False) w w':=by
 have hL:=AA b sv s w N;have HS:Hid (∀W,Keeps (fun _=>False) w W->PermAt W b sv s):=dh (fun W D=>N.keeps D (fun h=>h) (fun _ _ h=>h));have af:=N.lt;obtain⟨⟨c1,c2,c3,c4,hb⟩,O,E⟩:=N;have C:w.cell? ⟨b,0,none⟩=some sv:=dw hb 0;obtain⟨a,cap,rfl,S,ah⟩:=O.form;rw[q01]at S O C HS E;obtain⟨p1,p2,p3,p4⟩:=P.dM Q;obtain⟨g,off,rfl,c⟩:=O.cellAt (uf Q);have ai:=World.block_lt_of_cell? _ _ c;have T:=dh (dn P (dn p3 p4))
 have h0:dH w.heap.size (w.alloc (.cells #[.int .i64 d] 3)) (.slice (some ⟨w.heap.size,0,none⟩) 1 1) (dD (mZ (sg s) d 1))/\Keeps (fun _=>False) w (w.alloc (.cells #[.int .i64 d] 3)) :=
  ⟨q3z w d,(Keeps.refl _ w).alloc _⟩
 have U:=vK c (.cells #[.int .i64 d] 3);have V:=vK C (.cells #[.int .i64 d] 3);have aj:decide (s.length<=d)=false:=decide_eq_false (by omega);have ak:decide ((d:Int)<0)=false:=decide_eq_false (by omega);clear hb O P p3 p4 c C E;go_enter Tryz.func175,Tryz.ntmps175;go_wp2_with (go_at_call 111;refine hL.mono ?_;rintro e w' ⟨rfl,rfl⟩)
 clear U V hL;generalize World.alloc _ _=wM at *;go_loopg [5,6] (per (sg s) d) (fun m ov x wr=>∃k:Nat,k+1<=per (sg s) d/\m=per (sg s) d - k/\x=.int .i64 (itr (sg s) (k+1) d:Nat)/\dH w.heap.size wr ov (dD (mZ (sg s) d (k+1)))/\Keeps (fun _=>False) w wr)
 case atStart=>exact⟨0,p1,rfl,rfl,h0⟩
 case round =>
  clear h0;obtain⟨k,D,F,rfl,f,l⟩:=hrel;have HG:=dh F;clear F;by_cases X:k+1<per (sg s) d
  ·have Y:=T.out.2.2 (k+1) (by omega) X;have Z:=T.out.1.dW Q (k+1);have p:=Lc (sg s) d (k+1);have r:=Ld (sg s) d (k+1);have aa:=HS.out wr l;obtain⟨⟨d1,d2,d3,d4,G⟩,H,_⟩:=aa;have c:=H.cellOf (uf Z);have u:sg s (itr (sg s) (k+1) d)=itr (sg s) (k+1+1) d:=rfl;rw[u]at c;have I:=f.form;rw[q01,r]at I;obtain⟨la,lc,rfl,_,_⟩:=I;generalize hy:itr (sg s) (k+1+1) d=y at *;generalize J:itr (sg s) (k+1) d=x at *;have al:(((x:Nat):Int) != ((d:Nat):Int))=true:=by rw[bne_iff_ne];omega
   have HN:Hid ((dD (mZ (sg s) d (k+1))).length=k+1):=dh (by rw[q01];exact r);have ab:=l.size;have HH:=dh (dn J (dn p l));have HY:=dh hy;have ad:k+1<=10000000000:=by omega
   have j:=f.lt;have K:Hid (∀W,Keeps (fun q=>(Value.slice la (k+1) lc).ownBlock=some q) wr W->W.cell? ⟨g,off+x,none⟩=some (.int .i64 y)/\W.cell? ⟨b,0,none⟩=some (.slice (some ⟨g,off,none⟩) s.length cap)):=dh (fun W D=>by refine⟨?_,dw (D.at G (fun e=>by have:=(j b e).1;omega)) 0⟩;rw[World.cell?_of_block (w:=wr) (D.block g (World.block_lt_of_cell? _ _ c) (fun e=>by have:=(j g e).1;omega))];exact c);clear H G J hy p r l Y u c j;go_wp2_with (at_builtin;refine oz (k+1) rfl _ _ rfl w.heap.size (.slice la (k+1) lc) (dD (mZ (sg s) d (k+1))) (x:Nat) HN wr.heap.size rfl rfl rfl f ad ab ?_;intro g2 ag w3 i z ae hg;have A:=(K.out w3 z).1;have B:=(K.out w3 z).2)
   have L:=HH.out.2.2.trans z (fun y hy h=>by have:=(f.lt y h).1;omega);rw[<-tV]at i;have p:=HH.out.2.1;rw[<-p]at i;have HF:=dh (dn i L);clear i L z ae f p A B;go_roundg (per (sg s) d - (k+1))
   case measure=>rw[HG.out];omega
   case rel=>exact⟨k+1,by omega,rfl,by rw[HY.out],HF.out⟩
  ·have M:k+1=per (sg s) d:=by omega
   have J:itr (sg s) (k+1) d=d:=by rw[M];exact T.out.2.1
   have ho:mZ (sg s) d (k+1)=jg (sg s) d:=by rw[M];rfl
   rw[ho]at f;rw[J];have HF:=dh (dn f l);clear J ho f l;go_wp2;go_ret;exact⟨_,rfl,HF.out⟩
end
section
open Go.RowKit
theorem Tv(y:Nat)(w:World)(c:y<=1000000000) :
  Calls Tryz.prog 154 #[.int .u64 1,.int .u64 y] w fun e w'=>e=.returned (.tuple #[.int .u64 0,.int .u64 y])/\w=w':=by
 have d:bits BinOp.and IntKind.u64 1 4294967295=1:=by decide +kernel
 have f:bits BinOp.and IntKind.u64 0 4294967295=0:=by decide +kernel
 have a:bits BinOp.and IntKind.u64 (y:Int) 4294967295=(y:Int):=by rw[CW y 4294967295 4294967295 rfl (by omega) (by omega),show (4294967295:Nat)=2 ^ 32 - 1 from rfl,Nat.and_two_pow_sub_one_eq_mod,Nat.mod_eq_of_lt (by omega)]
 have i:(y:Int) / 4294967296=0:=by omega
 go_enter Tryz.func154,Tryz.ntmps154;go_wp2;go_ret2;exact⟨rfl,rfl⟩
theorem mul_one(y:Nat)(w:World)(a:y<=1000000000) :
  Calls Tryz.prog 119 #[.int .u64 1,.int .u64 y] w fun e w'=>e=.returned (.tuple #[.int .u64 0,.int .u64 y])/\w=w':=by
 have c:=Tv y w a;go_enter Tryz.func119,Tryz.ntmps119;go_wp2_with (go_at_call 154;refine c.mono ?_;rintro e w' ⟨rfl,rfl⟩)
 go_ret2
 exact⟨rfl,rfl⟩
def vV(w:World)(g n:Nat)(z:Int)(k:Nat)(wr:World):Prop :=
 ∃cur:List Value,cur.length=n/\(∀i,i<k->cur[i]? = some (.int .i64 z))/\wr.heap[g]? = some (.cells cur.toArray 3 (0,0))/\w.heap.size<=g/\Below w.heap.size w wr
theorem vV.done{w wr:World}{g n:Nat}{z:Int}(h:vV w g n z n wr)(k:n<=100000000):dV w g n (fun zs=>zs=List.replicate n z) wr:=by
 obtain⟨cur,l,c,d,e,f⟩:=h
 have j:cur=ints (List.replicate n z):=by
  apply List.ext_getElem?;intro i;rcases Nat.lt_or_ge i n with a|a
  ·rw[c i a];simp[ints,a]
  ·rw[List.getElem?_eq_none (by omega),List.getElem?_eq_none (by simp[ints];omega)]
 subst j;refine⟨_,by simp,rfl,⟨by simp[ints],.inr ⟨g,n,_,by simp,e,d,by simp,by unfold maxLen;omega,by simp[ints],?_⟩⟩,Keeps.of_below f _⟩;simp[ints]
theorem MN{cur:List Value}{z:Int}{k m n:Nat}(c:cur.length=n)(f:k+m<=n)(d:∀i,i<k->cur[i]? = some (.int .i64 z)) :
  (splice cur k (List.replicate m (.int .i64 z))).length=n/\∀i,i<k+m->(splice cur k (List.replicate m (Value.int .i64 z)))[i]? = some (.int .i64 z):=by
 refine⟨by rw[length_splice _ _ _ (by simp;omega)];exact c,fun i j=>?_⟩;unfold splice;have e:(cur.take k).length=k:=by simp;omega
 rcases Nat.lt_or_ge i k with a|a
 ·rw[List.getElem?_append_left (by omega),List.getElem?_take,if_pos a];exact d i a
 ·rw[List.getElem?_append_right (by omega),e,List.getElem?_append_left (by simp;omega),List.getElem?_replicate,if_pos (by omega)]
theorem Gp(xv:Value)(z:Int)(n:Nat)(w:World)(hx:Sl .i64 w xv [z])(hn:n<=100000000) :
  Calls Tryz.prog 74 #[xv,.int .i64 n] w fun e w'=>∃g,e=.returned (.slice (some ⟨g,0,none⟩) n n)/\dV w g n (fun zs=>zs=List.replicate n z) w':=by
 have hM:=mul_one n w (by omega);obtain⟨i,C,L,D,M⟩:=info_parts nX;have E:=fun w=>run_make (P:=Tryz.prog) w 25 3 i _ Tryz.underlying25 C L .i64 .i64 (n:Int) (n:Int) (by omega) (Int.le_refl _) (by rw[M];omega) (by omega);simp only [D,Int.toNat_natCast,Nat.mul_one]at E;have F:(Tryz.prog.info? 3).map (·.size)=some 1:=by rw[C];simp[D]
 have p:=hx.keeps ((Keeps.refl (fun _=>False) w).alloc (.cells (madeCells #[.int .i64 0] n) 3)) (fun _ _ h=>h);obtain⟨xa,xc,rfl,aa,aj⟩:=hx.form;simp only [List.length_singleton]at aa hx p ⊢;obtain⟨xg,xo,rfl,a⟩:=p.cellAt (j:=0) (z:=z) rfl;have G:=heap_alloc_new w (.cells (madeCells #[.int .i64 0] n) 3);have H:=((Below.refl w.heap.size w).alloc (Nat.le_refl _) (.cells (madeCells #[.int .i64 0] n) 3))
 have l:madeCells #[.int .i64 0] n=(List.replicate n (Value.int .i64 0)).toArray:=by apply Array.toList_inj.1;rw[toList_madeCells_one]
 have q:madeCells (Value.int IntKind.i64 0).cells n=(List.replicate n (Value.int .i64 0)).toArray:=l;rw[l]at p a G H;rw[q]at E;clear q;have t1:decide ((9223372036854775807:Int)<(n:Int))=false:=decide_eq_false (by omega);have t0:decide ((n:Int)<0)=false:=decide_eq_false (by omega);have HI:=dh C;have HX:=dh (dn p a);have N:=dh (dn G (dn H l));clear hx p a C L D M G H l;obtain⟨B,hB⟩:∃B,B=w.heap.size:=⟨_,rfl⟩
 by_cases h0:0<n
 ·have O:(List.replicate 1 (Value.int .i64 z)).length=Nat.min 1 n:=by rw[List.length_replicate];exact(Nat.min_eq_left (by omega)).symm
  have Q:0+(List.replicate 1 (Value.int .i64 z)).length<=(List.replicate n (Value.int .i64 0)).length:=by simp;omega
  have r:∀v ∈ List.replicate 1 (Value.int .i64 z),v.oneCell'=true:=fun v u=>by obtain rfl:=List.eq_of_mem_replicate u;rfl
  have d:∀(j:Nat) (v:Value),(List.replicate 1 (Value.int .i64 z))[j]? = some v->(w.alloc (.cells (List.replicate n (Value.int .i64 0)).toArray 3)).cell? ((⟨xg,xo,none⟩:Addr).add j)=some v:=fun j v u=>by
   rcases Nat.eq_zero_or_pos j with rfl|hj
   ·have h2:v=.int .i64 z:=by simpa using u.symm
    rw[h2];exact HX.out.2
   ·rw[List.getElem?_eq_none (by simp;omega)]at u;cases u
  have c:=dh (dn O (dn Q (dn r d)));have f:=MN (cur:=List.replicate n (Value.int .i64 0)) (z:=z) (k:=0) (m:=1) (n:=n) (by simp) (by omega) (fun i C=>by omega);have I:=dh f;clear O Q r d f;go_enter Tryz.func74,Tryz.ntmps74;go_wp2_with (first | (go_at_call 119;refine hM.mono ?_;rintro e w' ⟨rfl,rfl⟩) | (refine wpList_copy_splice rfl (.tmp 31) (.tmp 32) 25 25 rfl 3 Tryz.underlying25 F _ _ _ _ _ _ rfl rfl w.heap.size 0 (List.replicate n (Value.int .i64 0)) 3 N.out.1 (List.replicate 1 (.int .i64 z)) c.out.1 (fun _=>⟨rfl,_,rfl,c.out.2.2.2⟩) c.out.2.1 c.out.2.2.1 w.heap.size w N.out.2.1 (Nat.le_refl _) ?_;intro w1 S T))
  have x:vV w w.heap.size n z 1 w1:=⟨_,I.out.1,fun i C=>I.out.2 i (by omega),S.out,Nat.le_refl _,T⟩
  rw[<-hB]at x ⊢;clear S T E hM c I N HX hB;go_loopg [8] (n - 1) (fun m i wr=>∃k:Nat,1<=k/\k<=n/\m=n - k/\i=.int .i64 k/\vV w B n z k wr)
  case atStart=>exact⟨1,by omega,by omega,rfl,by go_num,x⟩
  case round =>
   clear x;obtain⟨k,ak,hk,y,rfl,x⟩:=hrel;have ab:=dh y;clear y;by_cases al:k<n
   ·obtain⟨m,hm⟩:∃m,m=Nat.min k (n - k):=⟨_,rfl⟩
    have U:0<m/\k+m<=n:=by
     have h1:Nat.min k (n - k)<=k:=Nat.min_le_left _ _;have h2:Nat.min k (n - k)<=n - k:=Nat.min_le_right _ _
     have h3:Nat.min k (n - k)=k\/Nat.min k (n - k)=n - k:=by
      rcases Nat.le_total k (n - k)with h|h
      ·exact .inl (Nat.min_eq_left h)
      ·exact .inr (Nat.min_eq_right h)
     omega
    obtain⟨U,ad⟩:=U;obtain⟨cur,V,J,K,W,X⟩:=x;have f:=MN V ad J;have O:(List.replicate m (Value.int .i64 z)).length=Nat.min k (n - k):=by rw[List.length_replicate];exact hm
    have Q:k+(List.replicate m (Value.int .i64 z)).length<=cur.length:=by simp;omega
    have r:∀v ∈ List.replicate m (Value.int .i64 z),v.oneCell'=true:=fun v u=>by obtain rfl:=List.eq_of_mem_replicate u;rfl
    have d:∀(j:Nat) (v:Value),(List.replicate m (Value.int .i64 z))[j]? = some v->wr.drew.cell? ((⟨B,0,none⟩:Addr).add j)=some v:=fun j v u=>by
     have hj:j<m:=by simpa using gX u
     rw[List.getElem?_replicate,if_pos hj]at u;rw[<-u];have h5:=dw K j;have h6:(⟨B,0,none⟩:Addr).add j=⟨B,j,none⟩:=by unfold Addr.add;by_cases ae:j=0 <;> simp[ae]
     show wr.cell? ((⟨B,0,none⟩:Addr).add j)=_;rw[h6,h5,List.getElem?_toArray];exact J j (by have h1:Nat.min k (n - k)<=k:=Nat.min_le_left _ _;omega)
    have c:=dh (dn O (dn Q (dn r (dn d (dn f (dn (show wr.drew.heap[B]? = some (.cells cur.toArray 3 (0,0))from K) (dn (show Below w.heap.size w wr.drew from X.drew) (show w.heap.size<=B from W))))))));clear O Q r d f K J V hm W X;go_wp2_with fail;have af:¬k=n:=by omega
    have ag:¬n=k:=by omega
    have ah:¬n=0:=by omega
    have ai:IntKind.i64.wrap ((k:Int)+(m:Int))=(k:Int)+(m:Int):=IntWalk.i64_in _ (by omega);go_region_law ((refine step_copy_splice rfl (.tmp 41) (.tmp 44) 25 25 rfl 3 Tryz.underlying25 F (some ⟨B,k,none⟩) (some ⟨B,0,none⟩) (n - k) (n - k) k n (by simp[Act.eval,Act.put]) (by simp[Act.eval,Act.put]) B k cur 3 c.out.2.2.2.2.2.1 (List.replicate m (.int .i64 z)) c.out.1 (fun _=>⟨rfl,_,rfl,c.out.2.2.2.1⟩) c.out.2.1 c.out.2.2.1 w.heap.size w c.out.2.2.2.2.2.2.1 c.out.2.2.2.2.2.2.2 ?_);intro w3 Y Z;simp only [List.length_replicate]);have HR:=dh (show vV w B n z (k+m) w3 from ⟨_,c.out.2.2.2.2.1.1,c.out.2.2.2.2.1.2,Y.out,c.out.2.2.2.2.2.2.2,Z⟩);clear Y Z c;go_wp2;go_roundg (n - (k+m))
    case measure=>rw[ab.out];omega
    case rel=>exact⟨k+m,by omega,by omega,rfl,by go_num,HR.out⟩
   ·obtain rfl:k=n:=by omega
    have HR:=dh (x.done hn);clear x;go_wp2;go_ret;exact⟨_,rfl,HR.out⟩
 ·have H0:=dh (show n=0 by omega);have A:Nat.min 1 n=0:=by rw[H0.out];rfl
  have c:=dh A;have tn:decide (0<n)=false:=decide_eq_false h0;have x:vV w w.heap.size n z n (w.alloc (.cells (List.replicate n (Value.int .i64 0)).toArray 3)):=⟨_,by simp,fun i C=>by have:=H0.out;omega,N.out.1,Nat.le_refl _,N.out.2.1⟩
  rw[<-hB]at x;have HR:=dh (x.done hn);clear A x h0;go_enter Tryz.func74,Tryz.ntmps74;go_wp2_with (first | (go_at_call 119;refine hM.mono ?_;rintro e w' ⟨rfl,rfl⟩) | (refine wpList_copy_nothing rfl (.tmp 31) (.tmp 32) 25 25 rfl 3 Tryz.underlying25 F _ _ _ _ _ _ rfl rfl c.out ?_))
  have e0:(Value.int .i64 (n:Int))=.int .i64 0:=by rw[H0.out];rfl
  go_loopg [8] 0 (fun m i wr=>m=0/\i=.int .i64 0/\wr=w.alloc (.cells (List.replicate n (Value.int .i64 0)).toArray 3))
  case atStart=>exact⟨rfl,rfl,by simp⟩
  case round =>
   obtain⟨y,rfl,rfl⟩:=hrel;clear e0 y;go_wp2;go_ret;exact⟨_,rfl,by rw[<-hB];simpa using HR.out⟩
end
section
open Go.RowKit
theorem Tz(b:Nat)(sv:Value)(s:List Nat)(w:World)(hp:PermAt w b sv s)(hP:dO s.length (sg s))(hl:s.length<=1000000) :
  Calls Tryz.prog 144 #[.pointer (some ⟨b,0,none⟩)] w fun e w'=>∃g,e=.returned (.slice (some ⟨g,0,none⟩) s.length s.length)/\dV w g s.length (fun zs=>zs=dD ((List.range s.length).map (vnum (sg s)))) w':=by
 have HS:Hid (∀W,Keeps (fun _=>False) w W->PermAt W b sv s):=dh (fun W I=>hp.keeps I (fun h=>h) (fun _ _ h=>h));have V:=(Keeps.refl (fun _=>False) w).alloc (.cells #[.int .i64 (-1)] 3);have P:=(q3z w (-1)).sl;have hL:=AA b sv s _ (HS.out _ V);have hR:=Gp (.slice (some ⟨w.heap.size,0,none⟩) 1 1) (-1) s.length _ P (by omega);have B:=dh hP;have X:=dh V;clear hP hp V P;go_enter Tryz.func144,Tryz.ntmps144;go_wp2_with fail;refine hL.mono ?_;rintro e w1 ⟨rfl,rfl⟩;go_wp2_with fail;refine hR.mono ?_;rintro e w1 ⟨g,rfl,u⟩;have T:dV w g s.length (rG s 0) w1:=by obtain⟨zs,T,h2,h3,h4⟩:=u;refine⟨zs,T,fun x P=>?_,h3.mono (fun k I=>by have:=(h3.lt k I).1;simp at this;omega),X.out.trans h4 (fun _ _ h=>h)⟩;rw[if_neg (by omega),h2,List.getElem?_replicate,if_pos P]
 clear hL hR u;go_wp2_with fail;go_loopg [4,14] s.length (fun m c i wr=>∃j:Nat,j<=s.length/\m=s.length - j/\i=.int .i64 j/\c=.int .i64 (eu (sg s) j:Nat)/\dV w g s.length (rG s j) wr)
 case atStart=>exact⟨0,Nat.zero_le _,rfl,rfl,rfl,T⟩
 case round =>
  clear T;obtain⟨j,hj,v,rfl,rfl,u⟩:=hrel;have HG:=dh v;clear v;have ah:=oV (sg s) j;have l:=sw (sg s) j;by_cases a:j<s.length
  ·obtain⟨z,⟨zs,r,D,E⟩,hc,hf⟩:=u.cell j a;obtain⟨_,_,_,_,F⟩:=id u;rcases rG.at B.out a D E with⟨hr,rfl⟩|⟨hr,hz⟩
   ·rw[if_pos hr]at l;have hO:=I4 b sv s j wr (HS.out wr F) B.out a hl;have K:=dh (dn u (dn hr l));generalize L:eu (sg s) j=c at *;have HC:=dh L;clear u hr l D E r L;have af:decide ((0:Int)<=-1)=false:=by decide
    go_wp2_with fail
    refine hO.mono ?_;rintro e U ⟨ov,rfl,f,Y⟩;have M:(dD (jg (sg s) j)).length=per (sg s) j:=by rw[q01,yG]
    have N:=f.form;rw[M]at N;obtain⟨oa,oc,rfl,_,ai⟩:=N;have aj:g<wr.heap.size:=K.out.1.old.2;have Z:Hid (∀W,Keeps (fun q=>q=g) U W->Sl .i64 W (.slice oa (per (sg s) j) oc) (dD (jg (sg s) j))):=dh (fun W I=>(f.keeps I (fun q hq e=>by have:=(f.lt q hq).1;omega)).sl);have O:dV w g s.length (rH s j 0) U:=(K.out.1.keeps Y).mono (fun zs _ h=>rH.zero h);have C:=Keeps.refl (fun q=>q=g) U;have ag:per (sg s) j<=1000000:=Nat.le_trans (B.out.dM a).2.1 hl;clear hO f M hc hf F;go_wp2_with fail;go_loopg [26] (per (sg s) j) (fun m i wr=>∃k:Nat,k<=per (sg s) j/\m=per (sg s) j - k/\i=.int .i64 k/\dV w g s.length (rH s j k) wr/\Keeps (fun q=>q=g) U wr)
    case atStart=>exact⟨0,Nat.zero_le _,rfl,rfl,O,C⟩
    case round =>
     clear O C;obtain⟨k,I,v,rfl,y,A⟩:=hrel;have aa:=dh v;clear v;by_cases ab:k<per (sg s) j
     ·have G:=FK (S:=sg s) (d:=j) ab;have ad:=B.out.dW a k;obtain⟨og,oo,rfl,ae⟩:=(Z.out _ A).cellAt (jA G);obtain⟨z,_,ak,al⟩:=y.cell _ ad;have hN:=y.set (Q:=rH s j (k+1)) (itr (sg s) k j) ((eu (sg s) j:Nat):Int) (fun zs r h=>rH.step B.out a K.out.2.1 G r h);have H:=A.setCell (p:=⟨g,itr (sg s) k j,none⟩) (.inl rfl) (.int .i64 ((eu (sg s) j:Nat):Int));rw[show eu (sg s) j=c from HC.out]at hN H;have HN:=dh (dn hN H);clear hN H y A G;generalize itr (sg s) k j=x at *;go_wp2;go_roundg (per (sg s) j - (k+1))
      case measure=>rw[aa.out];omega
      case rel=>exact⟨k+1,by omega,rfl,by go_num,HN.out⟩
     ·obtain rfl:k=per (sg s) j:=by omega
      have J:=dh (y.mono (fun zs _ h=>rH.done B.out a K.out.2.1 h));clear y A;go_wp2;go_roundg (s.length - (j+1))
      case measure=>rw[HG.out];omega
      case rel=>exact⟨j+1,by omega,rfl,by go_num,by rw[K.out.2.2];go_num,J.out⟩
   ·rw[if_neg hr]at l;have J:=dh (dn (u.mono (fun zs _ h=>rG.skip B.out hr h)) l);clear u hr l D E r F;generalize eu (sg s) j=c at *;go_wp2;go_roundg (s.length - (j+1))
    case measure=>rw[HG.out];omega
    case rel=>exact⟨j+1,by omega,rfl,by go_num,by rw[J.out.2];go_num,J.out.1⟩
  ·obtain rfl:j=s.length:=by omega
   have J:=dh (u.mono (fun zs r h=>rG.all B.out r h));clear u;go_wp2;go_ret;exact⟨g,rfl,J.out⟩
theorem I5:(Tryz.prog.info? 4).map (fun i=>(i.zero,i.size,i.bytes))=some (some (.bool false),1,1):=by kernel_rfl
def nH(w:World)(g n:Nat)(P:Nat->Prop)(wr:World):Prop :=
 ∃bs:List Bool,bs.length=n/\(∀x,x<n->(bs[x]? = some true/\P x)\/(bs[x]? = some false/\¬P x))/\wr.heap[g]? = some (.cells (bs.map Value.bool).toArray 4 (0,0))/\w.heap.size<=g/\Keeps (fun _=>False) w wr
theorem nH.made(w:World)(n:Nat){P:Nat->Prop}(c:∀x,x<n->¬P x):nH w w.heap.size n P (w.alloc (.cells (madeCells #[.bool false] n) 4)):=by
 have d:madeCells #[.bool false] n=((List.replicate n false).map Value.bool).toArray:=by apply Array.toList_inj.1;rw[toList_madeCells_one];simp
 refine⟨List.replicate n false,by simp,fun x a=>.inr ⟨by simp[a],c x a⟩,?_,Nat.le_refl _,(Keeps.refl _ w).alloc _⟩;rw[<-d];exact heap_alloc_new w _
theorem nH.cell{w wr:World}{g n:Nat}{P:Nat->Prop}(h:nH w g n P wr){x:Nat}(f:x<n):∃t:Bool,(t=true↔P x)/\wr.cell? ⟨g,x,none⟩=some (.bool t)/\wr.frozen? ⟨g,x,none⟩=false:=by
 obtain⟨bs,j,i,c,_⟩:=h;have d:=dw c x;have e:=dx c x;rcases i x f with⟨a,b⟩|⟨a,b⟩
 ·exact⟨true,by simp[b],by rw[d];simp[a],e⟩
 ·exact⟨false,by simp[b],by rw[d];simp[a],e⟩
theorem nH.set{w wr:World}{g n:Nat}{P Q:Nat->Prop}(h:nH w g n P wr){x:Nat}(j:x<n)(e:∀y,y<n->(Q y↔P y\/y=x)):nH w g n Q (wr.setCell ⟨g,x,none⟩ (.bool true)):=by
 obtain⟨bs,k,l,m,i,p⟩:=h;refine⟨bs.set x true,by simpa using k,fun y f=>?_,?_,i,p.setCell (.inr i) _⟩
 ·rw[List.getElem?_set];by_cases d:x=y
  ·subst d;left;rw[if_pos rfl,if_pos (by omega)];exact⟨rfl,(e x j).2 (.inr rfl)⟩
  ·rw[if_neg d];rcases l y f with⟨a,b⟩|⟨a,b⟩
   ·exact .inl ⟨a,(e y f).2 (.inl b)⟩
   ·exact .inr ⟨a,fun q=>by rcases(e y f).1 q with c|c;exact b c;exact d c.symm⟩
 ·rw[jM m x (.bool true)];simp[List.map_set]
def kP(w:World)(b:Nat)(sv:Value)(s:List Nat):Prop:=PermAt w b sv s/\w.heap[b]? = some (.cells #[sv,.int .u32 0,.int .i32 0,.int .u32 0,.slice none 0 0] 174 (0,0))
theorem kP.keeps{w w':World}{F:Nat->Prop}{b:Nat}{sv:Value}{s:List Nat}(h:kP w b sv s)(k:Keeps F w w')(a:¬F b)(c:∀k,sv.ownBlock=some k->¬F k):kP w' b sv s:=⟨h.1.keeps k a c,k.at h.2 a⟩
theorem Ew(H:Value)(s:List Nat)(w:World)(I:Sl .i64 w H (dD s))(X:dO s.length (sg s))(hl:s.length<=1000000) :
  Calls Tryz.prog 68 #[H] w fun e w'=>∃b sv,e=.returned (.tuple #[.pointer (some ⟨b,0,none⟩),.int .i64 0])/\kP w' b sv s/\w.heap.size<=b/\(∀k,sv.ownBlock=some k->w.heap.size<=k)/\Keeps (fun _=>False) w w':=by
 have J:Hid (∀W,Keeps (fun _=>False) w W->Sl .i64 W H (dD s)):=dh (fun W r=>I.keeps r (fun _ _ h=>h));obtain⟨a,cap,rfl,K,ab⟩:=I.form;rw[q01]at K J ⊢;have L:=nH.made w s.length (P:=fun x=>∃i,i<0/\sg s i=x) (fun x _ ⟨i,M,_⟩=>by omega);have Y:=dh X;obtain⟨i,M,u,z,A⟩:=info_parts I5;have B:=fun w=>run_make (P:=Tryz.prog) w 53 4 i _ Tryz.underlying53 M u .i64 .i64 (s.length:Int) (s.length:Int) (by omega) (Int.le_refl _) (by rw[A];omega) (by omega);simp only [z,Int.toNat_natCast,Nat.mul_one]at B;clear X I M u z A;go_enter Tryz.func68,Tryz.ntmps68;go_wp2_with fail;clear B;generalize World.alloc _ _=wM at *;obtain⟨g,N⟩:∃g,g=w.heap.size:=⟨_,rfl⟩
 rw[<-N]at L;rw[<-N];clear N;go_loopg [12] s.length (fun m i wr=>∃j:Nat,j<=s.length/\m=s.length - j/\i=.int .i64 j/\nH w g s.length (fun x=>∃i,i<j/\sg s i=x) wr)
 case atStart=>exact⟨0,Nat.zero_le _,rfl,rfl,L⟩
 case round =>
  clear L;obtain⟨j,hj,C,rfl,q⟩:=hrel;have HG:=dh C;clear C;by_cases l:j<s.length
  ·obtain⟨_,_,_,_,_,d⟩:=id q;obtain⟨gs,off,rfl,O⟩:=(J.out wr d).cellAt (uf l);have D:sg s j<s.length:=Y.out.lt j l;obtain⟨t,Z,hc,hf⟩:=q.cell D
   have S:t=false:=by
    cases t with
    | false=>rfl
    | true =>
     obtain⟨i,ad,T⟩:=Z.1 rfl;have:=Y.out.inj i j (by omega) l T;omega
   subst S
   have hN:=q.set (Q:=fun x=>∃i,i<j+1/\sg s i=x) D (fun y hy=>⟨fun ⟨i,h1,G⟩=>by
    rcases Nat.lt_or_ge i j with h3|h3
    ·exact .inl ⟨i,h3,G⟩
    ·obtain rfl:i=j:=by omega
     exact .inr G.symm,fun h=>by
    rcases h with⟨i,h1,G⟩|h
    ·exact⟨i,by omega,G⟩
    ·exact⟨j,by omega,h.symm⟩⟩)
   have HN:=dh hN;have d1:decide (((sg s j:Nat):Int)<0)=false:=decide_eq_false (by omega);have d2:decide (s.length<=sg s j)=false:=decide_eq_false (by omega);clear hN q d Z;generalize sg s j=x at *;go_wp2;go_roundg (s.length - (j+1))
   case measure=>rw[HG.out];omega
   case rel=>exact⟨j+1,by omega,rfl,by go_num,HN.out⟩
  ·obtain rfl:j=s.length:=by omega
   obtain⟨_,_,_,_,_,d⟩:=id q;have hC:=II _ (dD s) wr (J.out wr d) (by rw[q01];omega);have HK:=dh d;clear q d;go_wp2_with fail;refine hC.mono ?_;rintro e E ⟨v,rfl,c,p⟩;obtain⟨va,vc,rfl,_,_⟩:=c.form;rw[q01]at c ⊢;obtain⟨v,U⟩:∃v,v=Value.slice va s.length vc:=⟨_,rfl⟩
   rw[<-U]at c;have HV:=dh U;clear U;have k4:=(Keeps.refl (fun _=>False) E).alloc (.cells #[v,.int .u32 0,.int .i32 0,.int .u32 0,.slice none 0 0] 174);have V:=heap_alloc_new E (.cells #[v,.int .u32 0,.int .i32 0,.int .u32 0,.slice none 0 0] 174);have F:kP (E.alloc (.cells #[v,.int .u32 0,.int .i32 0,.int .u32 0,.slice none 0 0] 174)) E.heap.size v s:=⟨⟨⟨_,_,_,_,V⟩,(c.keeps k4 (fun _ _ h=>h)).sl,fun k r=>by have:=(c.lt k r).2;simp;omega⟩,V⟩
   have f:=(HK.out.trans p (fun _ _ h=>h)).trans k4 (fun _ _ h=>h);have ae:=HK.out.size;have aa:=p.size;have HF:=dh (dn F (dn (show w.heap.size<=E.heap.size by omega) (dn (show ∀k,v.ownBlock=some k->w.heap.size<=k from fun k r=>by have:=(c.lt k r).1;omega) f)));clear hC c p k4 V F f;rw[HV.out]at HF;go_wp2;go_ret2;exact⟨_,_,rfl,HF.out⟩
theorem MO(a:Value)(s:List Nat)(w:World)(c:Sl .i64 w a (dD s))(d:dO s.length (sg s))(f:s.length<=1000000) :
  Calls Tryz.prog 68 #[a] w fun e w'=>∃b sv,e=.returned (.tuple #[.pointer (some ⟨b,0,none⟩),.int .i64 0])/\PermAt w' b sv s/\w.heap.size<=b/\(∀k,sv.ownBlock=some k->w.heap.size<=k)/\Keeps (fun _=>False) w w' :=
 (Ew a s w c d f).mono (fun _ _ ⟨b,sv,h1,h2,h3⟩=>⟨b,sv,h1,h2.1,h3⟩)
theorem TA(b c:Nat)(sv l:Value)(s:List Nat)(w:World)(h:PermAt w b sv s)(k:PermAt w c l s)(u:s.length<=100000) :
  Calls Tryz.prog 69 #[.pointer (some ⟨b,0,none⟩),.pointer (some ⟨c,0,none⟩)] w fun e w'=>e=.returned (.bool true)/\Keeps (fun _=>False) w w':=by
 have m:=q1z b sv s w h (by omega);have v:=dh (fun W x=>k.keeps (F:=fun _=>False) (w':=W) x (fun h=>h) (fun _ _ h=>h));clear h k;go_enter Tryz.func69,Tryz.ntmps69;go_wp2_with fail;refine m.mono ?_;rintro e w1 ⟨y,rfl,f,a⟩;have p:=q1z c l s w1 (v.out w1 a) (by omega);have q:=dh (dn f a);clear m f a;go_wp2_with fail;refine p.mono ?_;rintro e z ⟨A,rfl,i,d⟩;have r:=RP y A (dD s) z (q.out.1.keeps d (fun _ _ h=>h)).sl i.sl (by rw[q01];exact u);have B:=dh d;clear p i d;go_wp2_with fail;refine r.mono ?_;rintro e D ⟨rfl,j⟩;have C:=dh ((q.out.2.trans B.out (fun _ _ h=>h)).trans j (fun _ _ h=>h));clear r j;go_wp2;go_ret;exact⟨rfl,C.out⟩
end
section
open Go.RowKit
noncomputable def rU(S:Nat->Nat)(j:Nat):List Nat:=(List.range (eu S j)).map fun k=>((List.range j).filter fun d=>vnum S d == k).length
theorem wR(S:Nat->Nat)(j:Nat):(rU S j).length=eu S j:=by simp[rU]
theorem Dk{S:Nat->Nat}{j k:Nat}(a:k<eu S j):(rU S j)[k]? = some ((List.range j).filter fun d=>vnum S d == k).length:=by simp[rU,a]
theorem I6(S:Nat->Nat)(j k:Nat):((List.range (j+1)).filter fun d=>vnum S d == k).length=((List.range j).filter fun d=>vnum S d == k).length+if vnum S j=k then 1 else 0:=by rw[List.range_succ,List.filter_append,List.length_append];by_cases h:vnum S j=k <;> simp[h]
theorem dO.pU{n:Nat}{S:Nat->Nat}(h:dO n S){d j:Nat}(c:d<j)(e:j<=n):vnum S d<eu S j:=by have hr:=h.iB (i:=d) (by omega);have a:=sw S (rep S d);rw[if_pos (h.iY (by omega))]at a;have f:=CY S (show rep S d+1<=j by omega);unfold vnum;omega
theorem TB{n:Nat}{S:Nat->Nat}(h:dO n S){j:Nat}(f:j<n)(hr:rep S j=j):vnum S j=eu S j/\rU S (j+1)=(rU S j ++ [0]).set (vnum S j) 1:=by
 have c:vnum S j=eu S j:=by unfold vnum;rw[hr]
 refine⟨c,?_⟩;have i:eu S (j+1)=eu S j+1:=by rw[sw,if_pos hr]
 apply List.ext_getElem?;intro k;rw[c];rcases Nat.lt_trichotomy k (eu S j)with a|a|a
 ·rw[Dk (by omega),List.getElem?_set,if_neg (by omega),List.getElem?_append_left (by rw[wR];exact a),Dk a,I6,if_neg (by omega)];rfl
 ·rw[Dk (by omega),List.getElem?_set,if_pos a.symm,if_pos (by simp[wR]),I6,if_pos (by omega)];have:(List.range j).filter (fun d=>vnum S d == k)=[]:=by rw[List.filter_eq_nil_iff];intro d e;have:=h.pU (List.mem_range.1 e) (by omega);simp;omega
  rw[this];rfl
 ·rw[List.getElem?_eq_none (by rw[wR];omega),List.getElem?_eq_none (by simp[wR];omega)]
theorem TD{n:Nat}{S:Nat->Nat}(h:dO n S){j:Nat}(e:j<n)(hr:rep S j≠j):∃x:Nat,vnum S j<eu S j/\(rU S j)[vnum S j]? = some x/\x<=j/\rU S (j+1)=(rU S j).set (vnum S j) (x+1):=by
 have f:eu S (j+1)=eu S j:=by rw[sw,if_neg hr];rfl
 have c:vnum S j<eu S j:=by have:=h.pU (show j<j+1 by omega) (by omega);omega
 refine⟨_,c,Dk c,Nat.le_trans (List.length_filter_le _ _) (by simp),?_⟩;apply List.ext_getElem?;intro k;rw[List.getElem?_set];by_cases d:k<eu S j
 ·rw[Dk (by omega),I6];by_cases a:vnum S j=k
  ·rw[if_pos a,if_pos a,if_pos (by rw[wR];omega),a]
  ·rw[if_neg a,if_neg a,Dk d];rfl
 ·rw[if_neg (by omega),List.getElem?_eq_none (by rw[wR];omega),List.getElem?_eq_none (by rw[wR];omega)]
def NB(w:World)(b o:Nat)(t:TypeId)(cs:Array Value)(bp:Nat)(done:Bool)(lock:Int)(ov zv:Value):Prop :=
 ∃cur:Array Value,w.heap[b]? = some (.cells cur t (0,0))/\cur.size=cs.size/\o+5<cs.size/\cur[o]? = some (.pointer (some ⟨bp,0,none⟩))/\cur[o+1]? = some (.int .u32 (if done then 1 else 0)) /\
  cur[o+2]? = some (.int .i32 lock)/\cur[o+3]? = some (.int .u32 0)/\cur[o+4]? = some ov/\cur[o+5]? = some zv/\∀i,(i<o\/o+5<i)->cur[i]? = cs[i]?
section
variable {w:World} {b o:Nat} {t:TypeId} {cs:Array Value} {bp:Nat} {done:Bool} {lock:Int} {ov zv:Value} (h:NB w b o t cs bp done lock ov zv)
include h
theorem NB.lt:b<w.heap.size:=by obtain⟨cur,a,_⟩:=h;exact lt_of_block a
theorem NB.c0:w.cell? ⟨b,o,none⟩=some (.pointer (some ⟨bp,0,none⟩)):=by obtain⟨cur,a,d,e,c,f,i,j,k,l,m⟩:=h;exact(dw a o).trans c
theorem NB.c1:w.cell? ⟨b,o+1,none⟩=some (.int .u32 (if done then 1 else 0)):=by obtain⟨cur,a,d,e,f,c,i,j,k,l,m⟩:=h;exact(dw a (o+1)).trans c
theorem NB.c2:w.cell? ⟨b,o+1+1,none⟩=some (.int .i32 lock):=by obtain⟨cur,a,d,e,f,i,c,j,k,l,m⟩:=h;exact(dw a (o+1+1)).trans c
theorem NB.c4:w.cell? ⟨b,o+4,none⟩=some ov:=by obtain⟨cur,a,d,e,f,i,j,k,c,l,m⟩:=h;exact(dw a (o+4)).trans c
theorem NB.c5:w.cell? ⟨b,o+5,none⟩=some zv:=by obtain⟨cur,a,d,e,f,i,j,k,l,c,m⟩:=h;exact(dw a (o+5)).trans c
theorem NB.free(i:Nat):w.frozen? ⟨b,i,none⟩=false:=by obtain⟨cur,a,_⟩:=h;exact dx a i
theorem NB.keeps{w':World}{G:Nat->Prop}(k:Keeps G w w')(a:¬G b):NB w' b o t cs bp done lock ov zv:=by obtain⟨cur,c,d⟩:=h;exact⟨cur,k.at c a,d⟩
theorem NB.set1(x:Bool):NB (w.setCell ⟨b,o+1,none⟩ (.int .u32 (if x then 1 else 0))) b o t cs bp x lock ov zv:=by
 obtain⟨cur,d,e,f,j,u,k,l,m,p,q⟩:=h;have a:∀i,¬o+1=i->(cur.setIfInBounds (o+1) (.int .u32 (if x then 1 else 0)))[i]? = cur[i]?:=fun i c=>by rw[Array.getElem?_setIfInBounds,if_neg c]
 have r:(cur.setIfInBounds (o+1) (.int .u32 (if x then 1 else 0)))[o+1]? = some (.int .u32 (if x then 1 else 0)):=by rw[Array.getElem?_setIfInBounds,if_pos rfl,if_pos (by omega)]
 exact⟨_,jM d (o+1) _,by simpa using e,f,(a _ (by omega)).trans j,r,(a _ (by omega)).trans k,(a _ (by omega)).trans l,(a _ (by omega)).trans m,(a _ (by omega)).trans p,fun i c=>(a i (by omega)).trans (q i c)⟩
theorem NB.set2(x:Int):NB (w.setCell ⟨b,o+1+1,none⟩ (.int .i32 x)) b o t cs bp done x ov zv:=by
 obtain⟨cur,d,e,f,j,k,u,l,m,p,q⟩:=h;have a:∀i,¬o+1+1=i->(cur.setIfInBounds (o+1+1) (.int .i32 x))[i]? = cur[i]?:=fun i c=>by rw[Array.getElem?_setIfInBounds,if_neg c]
 have r:(cur.setIfInBounds (o+1+1) (.int .i32 x))[o+1+1]? = some (.int .i32 x):=by rw[Array.getElem?_setIfInBounds,if_pos rfl,if_pos (by omega)]
 exact⟨_,jM d (o+1+1) _,by simpa using e,f,(a _ (by omega)).trans j,(a _ (by omega)).trans k,r,(a _ (by omega)).trans l,(a _ (by omega)).trans m,(a _ (by omega)).trans p,fun i c=>(a i (by omega)).trans (q i c)⟩
theorem NB.I7(x:Value):NB (w.setCell ⟨b,o+4,none⟩ x) b o t cs bp done lock x zv:=by
 obtain⟨cur,d,e,f,j,k,l,m,u,p,q⟩:=h;have a:∀i,¬o+4=i->(cur.setIfInBounds (o+4) x)[i]? = cur[i]?:=fun i c=>by rw[Array.getElem?_setIfInBounds,if_neg c]
 have r:(cur.setIfInBounds (o+4) x)[o+4]? = some x:=by rw[Array.getElem?_setIfInBounds,if_pos rfl,if_pos (by omega)]
 exact⟨_,jM d (o+4) _,by simpa using e,f,(a _ (by omega)).trans j,(a _ (by omega)).trans k,(a _ (by omega)).trans l,(a _ (by omega)).trans m,r,(a _ (by omega)).trans p,fun i c=>(a i (by omega)).trans (q i c)⟩
theorem NB.I8(x:Value):NB (w.setCell ⟨b,o+5,none⟩ x) b o t cs bp done lock ov x:=by
 obtain⟨cur,d,e,f,j,k,l,m,p,u,q⟩:=h;have a:∀i,¬o+5=i->(cur.setIfInBounds (o+5) x)[i]? = cur[i]?:=fun i c=>by rw[Array.getElem?_setIfInBounds,if_neg c]
 have r:(cur.setIfInBounds (o+5) x)[o+5]? = some x:=by rw[Array.getElem?_setIfInBounds,if_pos rfl,if_pos (by omega)]
 exact⟨_,jM d (o+5) _,by simpa using e,f,(a _ (by omega)).trans j,(a _ (by omega)).trans k,(a _ (by omega)).trans l,(a _ (by omega)).trans m,(a _ (by omega)).trans p,r,fun i c=>(a i (by omega)).trans (q i c)⟩
end
def I9(w:World)(b o:Nat)(t:TypeId)(cs:Array Value)(bp:Nat)(lock:Int)(s:List Nat)(w':World):Prop :=
 ∃ov zv,NB w' b o t cs bp false lock ov zv/\Sl .i64 w' ov (dD ((List.range s.length).map (vnum (sg s))))/\Sl .i64 w' zv (dD (rU (sg s) s.length)) /\
  (∀k,ov.ownBlock=some k->w.heap.size<=k/\k<w'.heap.size)/\(∀k,zv.ownBlock=some k->w.heap.size<=k/\k<w'.heap.size)/\Keeps (fun k=>k=b) w w'
structure TS (w:World)(b o:Nat)(t:TypeId)(cs:Array Value)(bp:Nat)(lock:Int)(nm:List Nat)(n g:Nat)(zs:List Int)(zv:Value)(wr:World):Prop where
 sz:dH w.heap.size wr zv zs
 nb:NB wr b o t cs bp false lock (.slice (some ⟨g,0,none⟩) n n) zv
 nm:dH w.heap.size wr (.slice (some ⟨g,0,none⟩) n n) (dD nm)
 ne:∀k,zv.ownBlock=some k->k≠g
 gw:w.heap.size<=g/\g<wr.heap.size
 bw:b<w.heap.size
 fJ:Keeps (fun k=>k=b) w wr
section
variable {w:World} {b o:Nat} {t:TypeId} {cs:Array Value} {bp:Nat} {lock:Int} {nm:List Nat} {n g:Nat} {zs:List Int} {zv:Value} {wr:World} (h:TS w b o t cs bp lock nm n g zs zv wr)
include h
theorem TS.MP{w5:World}(k:Keeps (fun q=>zv.ownBlock=some q) wr w5):NB w5 b o t cs bp false lock (.slice (some ⟨g,0,none⟩) n n) zv :=
 h.nb.keeps k (fun e=>by have:=(h.sz.lt b e).1;have:=h.bw;omega)
theorem TS.app{w5:World}{z:Int}{g5 m cap:Nat}(i:dH w.heap.size w5 (.slice (some ⟨g5,0,none⟩) m cap) (zs ++ [z]))(k:Keeps (fun q=>zv.ownBlock=some q) wr w5)(c:zv.ownBlock=some g5\/wr.heap.size<=g5) :
  TS w b o t cs bp lock nm n g (zs ++ [z]) (.slice (some ⟨g5,0,none⟩) m cap) (w5.setCell ⟨b,o+5,none⟩ (.slice (some ⟨g5,0,none⟩) m cap)):=by
 have j:=h.bw;have f:=h.gw;have d:=(Keeps.refl (fun q=>q=b) w5).setCell (p:=⟨b,o+5,none⟩) (.inl rfl) (.slice (some ⟨g5,0,none⟩) m cap);refine⟨i.keeps d (fun q a e=>by have:=(i.lt q a).1;omega),(h.MP k).I8 _,(h.nm.keeps k (fun q a e=>h.ne q e (by simp only [Value.ownBlock,Option.some.injEq]at a;exact a.symm))).keeps d (fun q a e=>by have:=(h.nm.lt q a).1;omega),fun q a=>?_,⟨f.1,by have:=k.size;have:=d.size;omega⟩,j,(h.fJ.trans k (fun x l e=>by have:=(h.sz.lt x e).1;omega)).trans d (fun _ _ e=>e)⟩;simp only [Value.ownBlock,Option.some.injEq]at a;subst a;rcases c with c|c
 ·exact h.ne _ c
 ·omega
end
theorem TS.put{w:World}{b o:Nat}{t:TypeId}{cs:Array Value}{bp:Nat}{lock:Int}{nm:List Nat}{n g:Nat}{zs:List Int}{g5 m cap:Nat}{wr:World}(h:TS w b o t cs bp lock nm n g zs (.slice (some ⟨g5,0,none⟩) m cap) wr)(v:Nat)(x:Int) :
  TS w b o t cs bp lock nm n g (zs.set v x) (.slice (some ⟨g5,0,none⟩) m cap) (wr.setCell ⟨g5,v,none⟩ (.int .i64 x)):=by
 have c:=h.bw;have d:=h.sz.lt g5 rfl;have f:=h.ne g5 rfl;have a:=(Keeps.refl (fun q=>q=g5) wr).setCell (p:=⟨g5,v,none⟩) (.inl rfl) (.int .i64 x);exact⟨h.sz.set v x,h.nb.keeps a (fun e=>by omega),h.nm.keeps a (fun q i e=>by simp only [Value.ownBlock,Option.some.injEq]at i;omega),h.ne,⟨h.gw.1,by have:=h.gw.2;have:=a.size;omega⟩,c,h.fJ.trans a (fun _ _ e=>by omega)⟩
theorem TF(b o:Nat)(t:TypeId)(cs:Array Value)(bp:Nat)(lock:Int)(sv:Value)(s:List Nat)(w:World)(h:NB w b o t cs bp false lock (.slice none 0 0) (.slice none 0 0))(hp:PermAt w bp sv s)(W:dO s.length (sg s))(hl:s.length<=1000000) :
  Calls Tryz.prog 110 #[.pointer (some ⟨b,o,none⟩)] w fun e w'=>e=.returned (.tuple #[])/\I9 w b o t cs bp lock s w':=by
 have hN:=Tz bp sv s w hp W hl;have X:=h.c0;have Y:=h.lt;have Z:=dh (dn h W);have aa:((List.range s.length).map (vnum (sg s))).length=s.length:=by simp
 clear h hp W;go_enter Tryz.func110,Tryz.ntmps110;go_wp2_with fail;refine hN.mono ?_;rintro e w1 ⟨g,rfl,hM⟩;have ab:=hM;obtain⟨zs,ad,ae,G,f⟩:=ab;subst ae;have af:=hM.old;have r:=Z.out.1.keeps f (fun h=>h);have c4:=r.c4;have f4:=r.free (o+4);have V:=(Keeps.refl (fun q=>q=b) w1).setCell (p:=⟨b,o+4,none⟩) (.inl rfl) (.slice (some ⟨g,0,none⟩) s.length s.length)
 have h0:TS w b o t cs bp lock ((List.range s.length).map (vnum (sg s))) s.length g (dD (rU (sg s) 0)) (.slice none 0 0) (w1.setCell ⟨b,o+4,none⟩ (.slice (some ⟨g,0,none⟩) s.length s.length)):=by
  refine⟨dH.nil _ _,?_,?_,fun k hk=>by simp[Value.ownBlock]at hk,⟨af.1,by have:=V.size;omega⟩,Y,(f.mono (fun _ _ h=>h.elim)).trans V (fun _ _ e=>e)⟩
  ·exact r.I7 _
  ·exact G.keeps V (fun q hq e=>by simp only [Value.ownBlock,Option.some.injEq]at hq;omega)
 have ag:=h0.nb.c4;have H:=dh h0;clear hN hM ad G f r V h0 aa;go_wp2_with fail;clear ag c4 f4 X;generalize w1.setCell ⟨b,o+4,none⟩ (.slice (some ⟨g,0,none⟩) s.length s.length)=w2 at *;go_loopg [17] s.length (fun m i wr=>∃j:Nat,j<=s.length/\m=s.length - j/\i=.int .i64 j/\∃zv,TS w b o t cs bp lock ((List.range s.length).map (vnum (sg s))) s.length g (dD (rU (sg s) j)) zv wr)
 case atStart=>exact⟨0,Nat.zero_le _,rfl,rfl,_,H.out⟩
 case round =>
  clear H;obtain⟨j,hj,I,rfl,zv,c⟩:=hrel;have HG:=dh I;clear I;obtain⟨za,zc,rfl,J,al⟩:=c.sz.form;rw[q01,wR]at c J;by_cases B:j<s.length
  ·have C:(dD ((List.range s.length).map (vnum (sg s))))[j]? = some ((vnum (sg s) j:Nat):Int):=jA (by simp[B]);have f:=(c.nm.cell C).1;have K:=c.nb.c5;have am:=c.bw;have ah:=oV (sg s) j;by_cases hr:rep (sg s) j=j
   ·obtain⟨e1,D⟩:=TB Z.out.2 B hr;obtain⟨m,L⟩:∃m,m=eu (sg s) j:=⟨_,rfl⟩
    rw[e1]at f D;rw[<-L]at f D J ah;rw[<-L]at c K;have HN:Hid ((dD (rU (sg s) j)).length=m):=dh (by rw[q01,wR];exact L.symm);have y:=c.sz;have ai:=c.fJ.size;have aj:m<=10000000000:=by omega
    have M:=fun (w5:World) g5 cap=>c.app (w5:=w5) (z:=0) (g5:=g5) (m:=m+1) (cap:=cap);have N:=fun (w5:World)=>c.MP (w5:=w5);have HT:=dh (dn M (dn N (dn L D)));clear c C M N L e1 D hr;go_wp2_with (at_builtin;refine oz m rfl _ _ rfl w.heap.size (.slice za m zc) (dD (rU (sg s) j)) (0:Int) HN wr.heap.size rfl rfl rfl y aj ai ?_;intro g5 O w5 l E A an;have u:=HT.out.1 w5 g5 O l E A;have F:=HT.out.2.1 w5 E;have ao:=F.c5;have ap:=F.free (o+5);have aq:=u.nb.c5;have d:=u.sz.cell (i:=m) (z:=0) (by rw[List.getElem?_append_right (by rw[HN.out];omega),HN.out];simp);have P:=d.1;have Q:=d.2;have ak:=dh u;clear F l E A d u y K)
    have a:=ak.out.put m 1;have S:(dD (rU (sg s) j) ++ [0]).set m 1=dD (rU (sg s) (j+1)):=by rw[HT.out.2.2.2];simp[dD,List.map_set]
    rw[S]at a;have T:=dh a;clear a S;go_roundg (s.length - (j+1))
    case measure=>rw[HG.out];omega
    case rel=>exact⟨j+1,by omega,rfl,by go_num,_,T.out⟩
   ·obtain⟨x,e1,D,ar,S⟩:=TD Z.out.2 B hr;obtain⟨g5,c5,U,_,_⟩:=ru c.sz (by rw[q01,wR];omega);simp only [Value.slice.injEq]at U;obtain⟨rfl,_,_⟩:=U;have d:=c.sz.cell (jA D);have P:=d.1;have Q:=d.2;have e4:(dD (rU (sg s) j)).set (vnum (sg s) j) ((x:Int)+1)=dD (rU (sg s) (j+1)):=by rw[S];simp[dD,List.map_set]
    have a:=c.put (vnum (sg s) j) ((x:Int)+1);rw[e4]at a;have au:(((vnum (sg s) j:Nat):Int) == ((eu (sg s) j:Nat):Int))=false:=by rw[beq_eq_false_iff_ne];omega
    have T:=dh a;clear a e4 S D d c hr C;generalize vnum (sg s) j=v at *;generalize eu (sg s) j=m at *;go_wp2;go_roundg (s.length - (j+1))
    case measure=>rw[HG.out];omega
    case rel=>exact⟨j+1,by omega,rfl,by go_num,_,T.out⟩
  ·obtain rfl:j=s.length:=by omega
   have T:=dh (show I9 w b o t cs bp lock s wr from ⟨_,_,c.nb,c.nm.sl,c.sz.sl,c.nm.lt,c.sz.lt,c.fJ⟩);clear c;go_wp2;go_end0;exact⟨rfl,T.out⟩
end
section
open Go.RowKit
theorem Ja(a:Nat):a ^^^ 1=mt a:=by
 have f:(a ^^^ 1) / 2=a / 2:=by have:=Nat.xor_div_two (a:=a) (b:=1);simpa using this
 have c:(decide ((a ^^^ 1) % 2=1))=(decide (a % 2=1) ^^ true):=by rw[<-Nat.testBit_zero,Nat.testBit_xor,Nat.testBit_zero,Nat.testBit_zero];rfl
 unfold mt;by_cases h:a % 2=1
 ·have d:¬(a ^^^ 1) % 2=1:=fun e=>by rw[decide_eq_true e,decide_eq_true h]at c;cases c
  rw[if_neg (by omega)];omega
 ·have d:(a ^^^ 1) % 2=1:=Classical.byContradiction (fun e=>by rw[decide_eq_false e,decide_eq_false h]at c;cases c);rw[if_pos (by omega)];omega
theorem Ey(a:Nat)(e:a<=1000000000):bits .xor .i64 (a:Int) 1=((mt a:Nat):Int):=by
 have f:a ^^^ 1<2 ^ 63:=Nat.xor_lt_two_pow (by omega) (by omega);have c:(BitVec.ofInt 64 (a:Int)).toNat=a:=by rw[BitVec.ofInt_natCast,BitVec.toNat_ofNat];exact Nat.mod_eq_of_lt (by omega)
 have d:(BitVec.ofInt 64 (1:Int)).toNat=1:=by decide
 show IntKind.i64.wrap ((BitVec.ofInt 64 (a:Int) ^^^ BitVec.ofInt 64 (1:Int)).toNat:Int)=_;rw[BitVec.toNat_xor,c,d,<-Ja];exact IntWalk.i64_in _ (by omega)
def xM(w:World)(done:Bool)(ov zv:Value)(s:List Nat):Prop :=
 if done then Sl .i64 w ov (dD ((List.range s.length).map (vnum (sg s))))/\Sl .i64 w zv (dD (rU (sg s) s.length))else ov=.slice none 0 0/\zv=.slice none 0 0
theorem xM.keeps{w w':World}{G:Nat->Prop}{done:Bool}{ov zv:Value}{s:List Nat}(h:xM w done ov zv s)(k:Keeps G w w')(c:∀q,(ov.ownBlock=some q\/zv.ownBlock=some q)->¬G q):xM w' done ov zv s:=by
 cases done with
 | true=>exact⟨h.1.keeps k (fun q a=>c q (.inl a)),h.2.keeps k (fun q a=>c q (.inr a))⟩
 | false=>exact h
theorem TG(b o:Nat)(W:World):(callFunc 110 #[.pointer (some ⟨b,o,none⟩)]).run Tryz.prog W=.ok (.enter 110 #[.pointer (some ⟨b,o,none⟩)]) W:=by go_simp
def kT(w:World)(b o:Nat)(t:TypeId)(cs:Array Value)(bp:Nat)(ov zv:Value)(s:List Nat)(w':World):Prop :=
 ∃a c,NB w' b o t cs bp true 0 a c/\xM w' true a c s/\(∀k,a.ownBlock=some k->ov.ownBlock=some k\/(w.heap.size<=k/\k<w'.heap.size))/\(∀k,c.ownBlock=some k->zv.ownBlock=some k\/(w.heap.size<=k/\k<w'.heap.size))/\Keeps (fun k=>k=b) w w'
theorem MQ(b o:Nat)(t:TypeId)(cs:Array Value)(bp:Nat)(done:Bool)(ov zv sv:Value)(s:List Nat)(w:World)(h:NB w b o t cs bp done 0 ov zv)(z:xM w done ov zv s)(C:PermAt w bp sv s)(j:bp≠b)(l:sv.ownBlock≠some b)(D:dO s.length (sg s))(E:s.length<=1000000) :
  Calls Tryz.prog 109 #[.pointer (some ⟨b,o+1,none⟩),.func (.func 110) #[.pointer (some ⟨b,o,none⟩)] #[]] w fun e w'=>e=.returned (.tuple #[])/\kT w b o t cs bp ov zv s w':=by
 cases done with
 | true =>
  have m:w.cell? ⟨b,o+1,none⟩=some (.int .u32 1):=h.c1;refine(FD ⟨b,o+1,none⟩ _ w m).mono ?_;rintro e w' ⟨rfl,rfl⟩;exact⟨rfl,_,_,h,z,fun k a=>.inl a,fun k a=>.inl a,Keeps.refl _ _⟩
 | false =>
  obtain⟨rfl,rfl⟩:ov=.slice none 0 0/\zv=.slice none 0 0:=z;have m:w.cell? ⟨b,o+1,none⟩=some (.int .u32 0):=h.c1;have F:w.cell? ⟨b,o+1+1,none⟩=some (.int .i32 0):=h.c2;have G:=h.set2 1;have A:Keeps (fun k=>k=b) w (w.setCell ⟨b,o+1+1,none⟩ (.int .i32 1)):=(Keeps.refl (fun k=>k=b) w).setCell (p:=⟨b,o+1+1,none⟩) (.inl rfl) _;have r:=C.keeps A j (fun k a h=>l (by rw[<-h];exact a));have H:=TF b o t cs bp 1 sv s _ G r D E;refine(Ho b (o+1) 110 #[.pointer (some ⟨b,o,none⟩)] (fun w1=>I9 (w.setCell ⟨b,o+1+1,none⟩ (.int .i32 1)) b o t cs bp 1 s w1) w (TG b o) m F (h.free _) (H.mono ?_)).mono ?_
  ·rintro e w1 ⟨rfl,B⟩;obtain⟨ov,zv,c,_⟩:=id B;exact⟨rfl,c.c1,c.c2,c.free _,c.free _,B⟩
  ·rintro e w' ⟨rfl,w1,⟨ov,zv,c,I,J,f,i,K⟩,rfl⟩;have u:NB w1.drew b o t cs bp false 1 ov zv:=c;have v:=(u.set1 true).set2 0;have d:Keeps (fun k=>k=b) w1 ((w1.drew.setCell ⟨b,o+1,none⟩ (.int .u32 1)).setCell ⟨b,o+1+1,none⟩ (.int .i32 0)):=((Keeps.refl (fun k=>k=b) w1).drew.setCell (p:=⟨b,o+1,none⟩) (.inl rfl) _).setCell (p:=⟨b,o+1+1,none⟩) (.inl rfl) _;have L:=(A.trans K (fun x _ h=>h)).trans d (fun x _ h=>h);have M:=h.lt;have N:(w.setCell ⟨b,o+1+1,none⟩ (.int .i32 1)).heap.size=w.heap.size:=by simp
   rw[N]at f i;refine⟨rfl,ov,zv,v,⟨I.keeps d (fun q y e=>by have:=(f q y).1;omega),J.keeps d (fun q y e=>by have:=(i q y).1;omega)⟩,fun k a=>.inr ⟨(f k a).1,?_⟩,fun k a=>.inr ⟨(i k a).1,?_⟩,L⟩
   ·exact Nat.lt_of_lt_of_le (f k a).2 d.size
   ·exact Nat.lt_of_lt_of_le (i k a).2 d.size
theorem Jb(b o:Nat)(t:TypeId)(cs:Array Value)(bp:Nat)(done:Bool)(ov zv sv:Value)(s:List Nat)(d:Nat)(w:World)(h:NB w b o t cs bp done 0 ov zv)(a:xM w done ov zv s)(p:PermAt w bp sv s)(f:bp≠b)(i:sv.ownBlock≠some b)(q:dO s.length (sg s))(y:s.length<=1000000)(z:d<s.length) :
  Calls Tryz.prog 157 #[.pointer (some ⟨b,o,none⟩),.int .i64 d] w fun e w'=>e=.returned (.int .i64 (vnum (sg s) d:Nat))/\kT w b o t cs bp ov zv s w':=by
 have r:=MQ b o t cs bp done ov zv sv s w h a p f i q y;have C:decide ((d:Int)<0)=false:=decide_eq_false (by omega);have D:decide (s.length<=d)=false:=decide_eq_false (by omega);clear h a p f i q;go_enter Tryz.func157,Tryz.ntmps157;go_wp2_with fail;refine r.mono ?_;rintro e w1 ⟨rfl,A,j,k,a,u,v,x⟩;have l:=k.c4;obtain⟨E,oc,rfl,_,_⟩:=a.1.form;rw[q01,List.length_map,List.length_range]at l;have c:=a.1;rw[q01,List.length_map,List.length_range]at c;obtain⟨F,G,rfl,m⟩:=c.cellAt (jA (show ((List.range s.length).map (vnum (sg s)))[d]? = some (vnum (sg s) d) by simp[z]));have B:=dh (show kT w b o t cs bp ov zv s w1 from ⟨_,j,k,a,u,v,x⟩);clear r k a u v x c;go_wp2;go_ret;exact⟨rfl,B.out⟩
theorem TH(b o:Nat)(t:TypeId)(cs:Array Value)(bp:Nat)(done:Bool)(ov zv sv:Value)(s:List Nat)(w:World)(h:NB w b o t cs bp done 0 ov zv)(a:xM w done ov zv s)(k:PermAt w bp sv s)(c:bp≠b)(d:sv.ownBlock≠some b)(l:dO s.length (sg s))(u:s.length<=1000000) :
  Calls Tryz.prog 61 #[.pointer (some ⟨b,o,none⟩)] w fun e w'=>e=.returned (.int .i64 (eu (sg s) s.length:Nat))/\kT w b o t cs bp ov zv s w':=by
 have m:=MQ b o t cs bp done ov zv sv s w h a k c d l u;clear h a k c d l;go_enter Tryz.func61,Tryz.ntmps61;go_wp2_with fail;refine m.mono ?_;rintro e w1 ⟨rfl,f,v,i,a,p,q,r⟩;have j:=i.c5;obtain⟨y,z,rfl,_,_⟩:=a.2.form;rw[q01,wR]at j;have x:=dh (show kT w b o t cs bp ov zv s w1 from ⟨f,_,i,a,p,q,r⟩);clear m i a p q r;go_wp2;go_ret;exact⟨rfl,x.out⟩
end
section
open Go.RowKit
def xO(bp:Nat)(a:Bool)(c d:Value)(e:Nat)(f:Bool)(i j:Value)(root lone:Int):Array Value :=
 #[.pointer (some ⟨bp,0,none⟩),.int .u32 (if a then 1 else 0),.int .i32 0,.int .u32 0,c,d,.pointer (some ⟨e,0,none⟩),.int .u32 (if f then 1 else 0),.int .i32 0,.int .u32 0,i,j,.int .i64 root,.int .i64 lone]
theorem wU{s:List Nat}{d:Nat}(a:d<s.length):sg (dS s) d=sg s (mt d):=by simp[sg,dS,a]
theorem AJ{s:List Nat}(h:dO s.length (sg s))(f:s.length % 2=0):dO (dS s).length (sg (dS s)):=by rw[oD];refine⟨fun d a=>by rw[wU a];exact h.lt _ (dQ f a),fun d e a c i=>?_⟩;rw[wU a,wU c]at i;have:=h.inj _ _ (dQ f a) (dQ f c) i;rw[<-dF d,this,dF]
noncomputable def kU(s:List Nat):List Nat:=(List.range s.length).map (gq (sg s))
theorem MR(s:List Nat):(kU s).length=s.length:=by simp[kU]
def lT(w:World)(b:Nat)(sv:Value)(s:List Nat)(R:Nat->Prop):Prop :=
 w.heap[b]? = some (.cells #[sv,.int .u32 0,.int .i32 0,.int .u32 0,.slice none 0 0] 174 (0,0)) \/
 ∃g,w.heap[b]? = some (.cells #[sv,.int .u32 1,.int .i32 0,.int .u32 0,.slice (some ⟨g,0,none⟩) s.length s.length] 174 (0,0))/\dH 0 w (.slice (some ⟨g,0,none⟩) s.length s.length) (dD (kU s))/\R g/\g≠b
theorem lT.keeps{w w':World}{F:Nat->Prop}{b:Nat}{sv:Value}{s:List Nat}{R:Nat->Prop}(h:lT w b sv s R)(k:Keeps F w w')(a:¬F b)(e:∀x,R x->¬F x):lT w' b sv s R:=by
 rcases h with h|⟨g,f,i,c,j⟩
 ·exact .inl (k.at h a)
 ·exact .inr ⟨g,k.at f a,i.keeps k (fun q d=>by simp only [Value.ownBlock,Option.some.injEq]at d;subst d;exact e g c),c,j⟩
theorem lT.mono{w:World}{b:Nat}{sv:Value}{s:List Nat}{R a:Nat->Prop}(h:lT w b sv s R)(c:∀x,R x->a x):lT w b sv s a:=by
 rcases h with h|⟨g,d,e,f,i⟩
 ·exact .inl h
 ·exact .inr ⟨g,d,e,c g f,i⟩
structure MapAt (w:World)(b:Nat)(s:List Nat)(root lone:Int)(R:Nat->Prop):Prop where
 ex:∃bp bq sv tv d1 d2 o1 z1 o2 z2,w.heap[b]? = some (.cells (xO bp d1 o1 z1 bq d2 o2 z2 root lone) 113 (0,0))/\PermAt w bp sv s/\PermAt w bq tv (dS s) /\
  xM w d1 o1 z1 s/\xM w d2 o2 z2 (dS s)/\R bp/\R bq/\(∀k,(sv.ownBlock=some k\/tv.ownBlock=some k\/o1.ownBlock=some k\/z1.ownBlock=some k\/o2.ownBlock=some k\/z2.ownBlock=some k)->R k)/\lT w bp sv s R/\bq≠bp/\∀k,(tv.ownBlock=some k\/o1.ownBlock=some k\/z1.ownBlock=some k\/o2.ownBlock=some k\/z2.ownBlock=some k)->k≠bp
 dR:dO s.length (sg s)
 even:s.length % 2=0
 le:s.length<=131072
 rt:(s.length=0/\root=-1)\/(0<=root/\root<s.length)
 ln:0<=lone/\lone<=65536
 old:∀x,R x->x<w.heap.size
 kC:¬R b
def gU(a:World)(b:Nat)(s:List Nat)(root lone:Int)(R:Nat->Prop)(w':World):Prop :=
 MapAt w' b s root lone (grow R a w')/\Keeps (fun k=>k=b) a w'
section
variable {w:World} {b:Nat} {s:List Nat} {root lone:Int} {R:Nat->Prop} (h:MapAt w b s root lone R)
include h
theorem MapAt.lt:b<w.heap.size:=by obtain⟨_,_,_,_,_,_,_,_,_,_,a,_⟩:=h.ex;exact lt_of_block a
theorem MapAt.keeps{w':World}{G:Nat->Prop}(k:Keeps G w w')(m:¬G b)(a:∀x,R x->¬G x):MapAt w' b s root lone R:=by
 obtain⟨⟨bp,p,sv,r,u,v,y,z,A,B,C,D,E,F,H,f,l,d,I,i,j⟩,J,K,a3,a4,a5,L,M⟩:=h
 exact⟨⟨bp,p,sv,r,u,v,y,z,A,B,k.at C m,D.keeps k (a _ f) (fun q c=>a q (d q (.inl c))),E.keeps k (a _ l) (fun q c=>a q (d q (.inr (.inl c)))),
  F.keeps k (fun q c=>a q (d q (by rcases c with e|e;exact .inr (.inr (.inl e));exact .inr (.inr (.inr (.inl e)))))),H.keeps k (fun q c=>a q (d q (by rcases c with e|e;exact .inr (.inr (.inr (.inr (.inl e))));exact .inr (.inr (.inr (.inr (.inr e))))))),
  f,l,d,I.keeps k (a _ f) a,i,j⟩,J,K,a3,a4,a5,fun x N=>Nat.lt_of_lt_of_le (L x N) k.size,M⟩
theorem MapAt.mono{c:Nat->Prop}(d:∀x,R x->c x)(a:∀x,c x->x<w.heap.size)(i:¬c b):MapAt w b s root lone c:=by obtain⟨⟨bp,j,sv,l,m,p,q,r,u,v,y,z,A,B,C,D,E,F,G,e,f⟩,H,I,a3,a4,a5,K,L⟩:=h;exact⟨⟨bp,j,sv,l,m,p,q,r,u,v,y,z,A,B,C,d _ D,d _ E,fun k J=>d k (F k J),G.mono d,e,f⟩,H,I,a3,a4,a5,a,i⟩
theorem MapAt.same:gU w b s root lone R w:=by
 have c:=h.lt;refine⟨h.mono (fun x a=>.inl a) (fun x a=>?_) (fun a=>?_),Keeps.refl _ _⟩
 ·rcases a with a|a
  ·exact h.old x a
  ·exact a.2
 ·rcases a with a|a
  ·exact h.kC a
  ·omega
theorem MapAt.trans{w1 i:World}(j:gU w b s root lone R w1)(c:gU w1 b s root lone (grow R w w1) i):gU w b s root lone R i:=by
 have k:=h.lt;have d:=j.2.size;have f:=c.2.size;refine⟨c.1.mono (Kz d f) (CX h.old (by omega)) (fun a=>?_),j.2.trans c.2 (fun _ _ e=>e)⟩;rcases a with a|a
 ·exact h.kC a
 ·omega
theorem MapAt.still{w1:World}(k:Keeps (fun _=>False) w w1):gU w b s root lone R w1:=by
 have d:=h.lt;have c:=k.size;refine⟨(h.keeps k (fun h=>h) (fun _ _ h=>h)).mono (fun x a=>.inl a) (CX h.old (by omega)) (fun a=>?_),k.mono (fun _ _ h=>h.elim)⟩;rcases a with a|a
 ·exact h.kC a
 ·omega
theorem MapAt.Jc:∃bp sv p l m,NB w b 0 113 (((w.heap[b]?).bind fun o=>match o with | .cells cs _ _=>some cs|_=>none).getD #[]) bp p 0 l m/\PermAt w bp sv s/\xM w p l m s/\bp≠b/\sv.ownBlock≠some b /\
  ∀w',kT w b 0 113 (((w.heap[b]?).bind fun o=>match o with | .cells cs _ _=>some cs|_=>none).getD #[]) bp l m s w'->gU w b s root lone R w':=by
 obtain⟨⟨bp,z,sv,M,p,A,l,m,B,C,G,D,N,O,P,v,H,c,Q,E,a⟩,S,T,a3,a4,a5,U,y⟩:=id h;have F:(((w.heap[b]?).bind fun o=>match o with | .cells cs _ _=>some cs|_=>none).getD #[])=xO bp p l m z A B C root lone:=by rw[G];rfl
 rw[F];refine⟨bp,sv,p,l,m,⟨_,G,rfl,(by decide:0+5<14),rfl,rfl,rfl,rfl,rfl,rfl,fun i _=>rfl⟩,D,O,fun e=>y (e ▸ v),fun e=>y (c b (.inl e)),?_⟩;rintro w' ⟨ov,zv,V,W,I,J,k⟩;obtain⟨cur,X,c1,c2,Y,Z,e2,e3,e4,e5,e6⟩:=V
 have r:cur=xO bp true ov zv z A B C root lone:=by
  apply Array.ext_getElem?;intro i;have K:i=0\/i=1\/i=2\/i=3\/i=4\/i=5\/5<i:=by omega
  rcases K with rfl|rfl|rfl|rfl|rfl|rfl|K
  ·exact Y
  ·exact Z
  ·exact e2
  ·exact e3
  ·exact e4
  ·exact e5
  ·rw[e6 i (.inr (by omega))];have u:i=6\/i=7\/i=8\/i=9\/i=10\/i=11\/i=12\/i=13\/13<i:=by omega
   rcases u with rfl|rfl|rfl|rfl|rfl|rfl|rfl|rfl|u
   ·rfl
   ·rfl
   ·rfl
   ·rfl
   ·rfl
   ·rfl
   ·rfl
   ·rfl
   ·rw[Array.getElem?_eq_none (by simp[xO];omega),Array.getElem?_eq_none (by simp[xO];omega)]
 subst r;have hb:=h.lt;have j:∀x,R x->¬x=b:=fun x f e=>y (e ▸ f)
 refine⟨⟨⟨bp,z,sv,M,true,A,ov,zv,B,C,X,D.keeps k (j _ v) (fun q d=>j q (c q (.inl d))),N.keeps k (j _ H) (fun q d=>j q (c q (.inr (.inl d)))),W,
  P.keeps k (fun q d=>j q (c q (by rcases d with e|e;exact .inr (.inr (.inr (.inr (.inl e))));exact .inr (.inr (.inr (.inr (.inr e))))))),.inl v,.inl H,fun q d=>?_,(Q.keeps k (j _ v) j).mono (fun x f=>.inl f),E,fun q d=>?_⟩,S,T,a3,a4,a5,CX U k.size,fun f=>?_⟩,k⟩
 ·rcases d with e|e|e|e|e|e
  ·exact .inl (c q (.inl e))
  ·exact .inl (c q (.inr (.inl e)))
  ·rcases I q e with e|e
   ·exact .inl (c q (.inr (.inr (.inl e))))
   ·exact .inr e
  ·rcases J q e with e|e
   ·exact .inl (c q (.inr (.inr (.inr (.inl e)))))
   ·exact .inr e
  ·exact .inl (c q (.inr (.inr (.inr (.inr (.inl e))))))
  ·exact .inl (c q (.inr (.inr (.inr (.inr (.inr e))))))
 ·have L:=D.lt;rcases d with e|e|e|e|e
  ·exact a q (.inl e)
  ·rcases I q e with e|e
   ·exact a q (.inr (.inl e))
   ·omega
  ·rcases J q e with e|e
   ·exact a q (.inr (.inr (.inl e)))
   ·omega
  ·exact a q (.inr (.inr (.inr (.inl e))))
  ·exact a q (.inr (.inr (.inr (.inr e))))
 ·rcases f with f|f
  ·exact y f
  ·omega
theorem MapAt.TI:∃d u v p r,NB w b 6 113 (((w.heap[b]?).bind fun o=>match o with | .cells cs _ _=>some cs|_=>none).getD #[]) d v 0 p r/\PermAt w d u (dS s)/\xM w v p r (dS s)/\d≠b/\u.ownBlock≠some b /\
  ∀w',kT w b 6 113 (((w.heap[b]?).bind fun o=>match o with | .cells cs _ _=>some cs|_=>none).getD #[]) d p r (dS s) w'->gU w b s root lone R w':=by
 obtain⟨⟨bp,d,sv,u,B,v,C,D,p,r,I,J,K,P,Q,E,F,c,S,G,a⟩,T,U,a3,a4,a5,V,z⟩:=id h;have H:(((w.heap[b]?).bind fun o=>match o with | .cells cs _ _=>some cs|_=>none).getD #[])=xO bp B C D d v p r root lone:=by rw[I];rfl
 rw[H];refine⟨d,u,v,p,r,⟨_,I,rfl,(by decide:6+5<14),rfl,rfl,rfl,rfl,rfl,rfl,fun i _=>rfl⟩,K,Q,fun e=>z (e ▸ F),fun e=>z (c b (.inr (.inl e))),?_⟩;rintro w' ⟨ov,zv,W,X,L,M,k⟩;obtain⟨cur,Y,c1,c2,Z,e1,e2,e3,e4,e5,N⟩:=W
 have y:cur=xO bp B C D d true ov zv root lone:=by
  apply Array.ext_getElem?;intro i;have A:i=6\/i=7\/i=8\/i=9\/i=10\/i=11\/i<6\/11<i:=by omega
  rcases A with rfl|rfl|rfl|rfl|rfl|rfl|A|A
  ·exact Z
  ·exact e1
  ·exact e2
  ·exact e3
  ·exact e4
  ·exact e5
  ·rw[N i (.inl A)];have f:i=0\/i=1\/i=2\/i=3\/i=4\/i=5:=by omega
   rcases f with rfl|rfl|rfl|rfl|rfl|rfl <;> rfl
  ·rw[N i (.inr (by omega))];have f:i=12\/i=13\/13<i:=by omega
   rcases f with rfl|rfl|f
   ·rfl
   ·rfl
   ·rw[Array.getElem?_eq_none (by simp[xO];omega),Array.getElem?_eq_none (by simp[xO];omega)]
 subst y;have hb:=h.lt;have m:∀x,R x->¬x=b:=fun x l e=>z (e ▸ l)
 refine⟨⟨⟨bp,d,sv,u,B,true,C,D,ov,zv,Y,J.keeps k (m _ E) (fun q j=>m q (c q (.inl j))),K.keeps k (m _ F) (fun q j=>m q (c q (.inr (.inl j)))),
  P.keeps k (fun q j=>m q (c q (by rcases j with e|e;exact .inr (.inr (.inl e));exact .inr (.inr (.inr (.inl e)))))),X,.inl E,.inl F,fun q j=>?_,(S.keeps k (m _ E) m).mono (fun x l=>.inl l),G,fun q j=>?_⟩,T,U,a3,a4,a5,CX V k.size,fun l=>?_⟩,k⟩
 ·rcases j with e|e|e|e|e|e
  ·exact .inl (c q (.inl e))
  ·exact .inl (c q (.inr (.inl e)))
  ·exact .inl (c q (.inr (.inr (.inl e))))
  ·exact .inl (c q (.inr (.inr (.inr (.inl e)))))
  ·rcases L q e with e|e
   ·exact .inl (c q (.inr (.inr (.inr (.inr (.inl e))))))
   ·exact .inr e
  ·rcases M q e with e|e
   ·exact .inl (c q (.inr (.inr (.inr (.inr (.inr e))))))
   ·exact .inr e
 ·have O:=J.lt;rcases j with e|e|e|e|e
  ·exact a q (.inl e)
  ·exact a q (.inr (.inl e))
  ·exact a q (.inr (.inr (.inl e)))
  ·rcases L q e with e|e
   ·exact a q (.inr (.inr (.inr (.inl e))))
   ·omega
  ·rcases M q e with e|e
   ·exact a q (.inr (.inr (.inr (.inr e))))
   ·omega
 ·rcases l with l|l
  ·exact z l
  ·omega
end
end
section
open Go.RowKit
section
variable {w:World} {b:Nat} {s:List Nat} {root lone:Int} {R:Nat->Prop} (h:MapAt w b s root lone R)
include h
theorem uS:Calls Tryz.prog 62 #[.pointer (some ⟨b,0,none⟩)] w fun e w'=>e=.returned (.int .i64 s.length)/\w=w':=by
 obtain⟨bp,i,sv,j,k,l,m,p,q,r,a,c,d,_⟩:=h.ex;have u:w.cell? ⟨b,0,none⟩=some (.pointer (some ⟨bp,0,none⟩)):=dw a 0;have f:=AA bp sv s w c;clear h a c d;go_enter Tryz.func62,Tryz.ntmps62;go_wp2_with (go_at_call 111;refine f.mono ?_;rintro e w' ⟨rfl,rfl⟩)
 go_ret;exact⟨rfl,rfl⟩
theorem Gq:Calls Tryz.prog 20 #[.pointer (some ⟨b,0,none⟩)] w fun e w'=>e=.returned (.int .i64 (s.length / 2:Nat))/\w=w':=by
 have a:=uS h;have c:=h.le;clear h;generalize s.length=n at *;go_enter Tryz.func20,Tryz.ntmps20;go_wp2_with (go_at_call 62;refine a.mono ?_;rintro e w' ⟨rfl,rfl⟩)
 go_ret;exact⟨rfl,rfl⟩
theorem Dl:Calls Tryz.prog 121 #[.pointer (some ⟨b,0,none⟩)] w fun e w'=>e=.returned (.int .i64 root)/\w=w':=by obtain⟨bp,f,sv,i,j,k,l,m,p,q,a,c,d,_⟩:=h.ex;have r:w.cell? ⟨b,12,none⟩=some (.int .i64 root):=dw a 12;clear h a c d;go_enter Tryz.func121,Tryz.ntmps121;go_wp2;go_ret;exact⟨rfl,rfl⟩
theorem Jd:Calls Tryz.prog 89 #[.pointer (some ⟨b,0,none⟩)] w fun e w'=>e=.returned (.int .i64 lone)/\w=w':=by obtain⟨bp,f,sv,i,j,k,l,m,p,q,a,c,d,_⟩:=h.ex;have r:w.cell? ⟨b,13,none⟩=some (.int .i64 lone):=dw a 13;clear h a c d;go_enter Tryz.func89,Tryz.ntmps89;go_wp2;go_ret;exact⟨rfl,rfl⟩
theorem XV:Calls Tryz.prog 149 #[.pointer (some ⟨b,0,none⟩)] w fun e w'=>∃v,e=.returned v/\dH w.heap.size w' v (dD s)/\Keeps (fun _=>False) w w':=by obtain⟨bp,l,sv,m,p,q,r,u,x,y,c,d,j,_⟩:=h.ex;have z:w.cell? ⟨b,0,none⟩=some (.pointer (some ⟨bp,0,none⟩)):=dw c 0;have f:=q1z bp sv s w d (by have:=h.le;omega);clear h c d j;go_enter Tryz.func149,Tryz.ntmps149;go_wp2_with fail;refine f.mono ?_;rintro e w1 ⟨v,rfl,a,i⟩;have k:=dh (dn a i);clear f a i;go_wp2;go_ret;exact⟨_,rfl,k.out⟩
theorem vW(d:Nat)(f:d<s.length):Calls Tryz.prog 125 #[.pointer (some ⟨b,0,none⟩),.int .i64 d] w fun e w'=>e=.returned (.int .i64 (sg s d:Nat))/\w=w':=by
 obtain⟨bp,k,sv,l,m,p,q,r,u,v,a,c,i,_⟩:=h.ex;have x:w.cell? ⟨b,0,none⟩=some (.pointer (some ⟨bp,0,none⟩)):=dw a 0;have j:=AB bp sv s d w c f;clear h a c i;go_enter Tryz.func125,Tryz.ntmps125;go_wp2_with (go_at_call 126;refine j.mono ?_;rintro e w' ⟨rfl,rfl⟩)
 go_ret;exact⟨rfl,rfl⟩
theorem Je(d:Nat)(a:d<s.length):Calls Tryz.prog 249 #[.pointer (some ⟨b,0,none⟩),.int .i64 d] w fun e w'=>e=.returned (.int .i64 (sg s (mt d):Nat))/\w=w':=by
 obtain⟨bp,c,sv,k,m,p,q,r,u,v,f,l,i,_⟩:=h.ex;have x:w.cell? ⟨b,6,none⟩=some (.pointer (some ⟨c,0,none⟩)):=dw f 6;have j:=AB c k (dS s) d w i (by rw[oD];exact a);rw[wU a]at j;clear h f l i;go_enter Tryz.func249,Tryz.ntmps249;go_wp2_with (go_at_call 126;refine j.mono ?_;rintro e w' ⟨rfl,rfl⟩)
 go_ret;exact⟨rfl,rfl⟩
theorem sZ(d:Nat)(c:d<s.length):Calls Tryz.prog 77 #[.pointer (some ⟨b,0,none⟩),.int .i64 d] w fun e w'=>e=.returned (.int .i64 (mt d:Nat))/\w=w':=by
 have a:=uS h;have f:=Ey d (by have:=h.le;omega);have i:decide ((d:Int)<0)=false:=decide_eq_false (by omega);have j:decide (s.length<=d)=false:=decide_eq_false (by omega);clear h;generalize mt d=y at *;go_enter Tryz.func77,Tryz.ntmps77;go_wp2_with (go_at_call 62;refine a.mono ?_;rintro e w' ⟨rfl,rfl⟩)
 go_ret;exact⟨rfl,rfl⟩
theorem BZ(d:Nat)(q:d<s.length):Calls Tryz.prog 123 #[.pointer (some ⟨b,0,none⟩),.int .i64 d] w fun e w'=>e=.returned (.int .i64 (vnum (sg s) d:Nat))/\gU w b s root lone R w':=by obtain⟨bp,sv,r,u,v,i,j,k,c,f,a⟩:=h.Jc;have l:=Jb b 0 _ _ bp r u v sv s d w i k j c f h.dR (by have:=h.le;omega) q;have m:=dh a;clear h i k j c f a;go_enter Tryz.func123,Tryz.ntmps123;go_wp2_with fail;refine l.mono ?_;rintro e w1 ⟨rfl,p⟩;have x:=dh (m.out _ p);clear l p m;go_wp2;go_ret;exact⟨rfl,x.out⟩
theorem TJ(d:Nat)(q:d<s.length):Calls Tryz.prog 156 #[.pointer (some ⟨b,0,none⟩),.int .i64 d] w fun e w'=>e=.returned (.int .i64 (vnum (sg (dS s)) d:Nat))/\gU w b s root lone R w':=by obtain⟨bp,sv,r,u,v,i,j,k,c,f,a⟩:=h.TI;have l:=Jb b 6 _ _ bp r u v sv (dS s) d w i k j c f (AJ h.dR h.even) (by have:=h.le;rw[oD];omega) (by rw[oD];exact q);have m:=dh a;clear h i k j c f a;go_enter Tryz.func156,Tryz.ntmps156;go_wp2_with fail;refine l.mono ?_;rintro e w1 ⟨rfl,p⟩;have x:=dh (m.out _ p);clear l p m;go_wp2;go_ret;exact⟨rfl,x.out⟩
end
end
section
open Go.RowKit
theorem kT.Cb{w w':World}{b o:Nat}{t:TypeId}{cs:Array Value}{bp:Nat}{ov zv:Value}{s:List Nat}(h:kT w.drew b o t cs bp ov zv s w'):kT w b o t cs bp ov zv s w':=by obtain⟨a,c,d,f,i,j,k⟩:=h;exact⟨a,c,d,f,i,j,((Keeps.refl (fun x=>x=b) w).drew).trans k (fun _ _ e=>e)⟩
section
variable {w:World} {b:Nat} {s:List Nat} {root lone:Int} {R:Nat->Prop} (h:MapAt w b s root lone R)
include h
theorem Gs:Calls Tryz.prog 19 #[.pointer (some ⟨b,0,none⟩)] w fun e w'=>e=.returned (.int .i64 ((eu (sg s) s.length:Nat)+lone))/\gU w b s root lone R w':=by
 obtain⟨bp,sv,y,z,A,p,q,r,c,d,a⟩:=h.Jc;have u:Calls Tryz.prog 61 #[.pointer (some ⟨b,0,none⟩)] w.drew _:=TH b 0 _ _ bp y z A sv s w.drew p (r.keeps ((Keeps.refl (fun _=>False) w).drew) (fun _ _ h=>h)) (q.keeps ((Keeps.refl (fun _=>False) w).drew) (fun h=>h) (fun _ _ h=>h)) c d h.dR (by have:=h.le;omega);obtain⟨B,K,nC,L,C,M,D,E,N,O,j,_⟩:=h.ex;have k:w.drew.cell? ⟨b,13,none⟩=some (.int .i64 lone):=dw j 13;have F:=oV (sg s) s.length;have G:=h.le;have H:=h.ln;have l:Calls Tryz.prog 61 #[.pointer (some ⟨b,0,none⟩)] w.drew fun e w'=>e=.returned (.int .i64 (eu (sg s) s.length:Nat))/\gU w b s root lone R w':=u.mono (fun e w' x=>⟨x.1,a w' x.2.Cb⟩);have I:Hid (∀w',gU w b s root lone R w'->w'.cell? ⟨b,13,none⟩=some (.int .i64 lone)):=dh (fun w' f=>by obtain⟨_,_,_,_,_,_,_,_,_,_,j,_⟩:=f.1.ex;exact dw j 13);clear h p r q c d a j u;generalize eu (sg s) s.length=v at *;go_enter Tryz.func19,Tryz.ntmps19;go_wp2_with fail;have i:IntKind.i64.wrap ((v:Int)+lone)=(v:Int)+lone:=IntWalk.i64_in _ (by omega);go_region_held3 (fun w'=>w'.cell? ⟨b,13,none⟩=some (.int .i64 lone)) (first|exact k|exact m) (first | (go_at_call 61;refine l.mono ?_;rintro e w' ⟨rfl,f⟩;have m:=I.out _ f;have J:=dh f;clear f));clear i
 all_goals
  go_wp2;go_ret
  exact⟨rfl,J.out⟩
end
theorem TK{w:World}{b c:Nat}{s:List Nat}{root lone:Int}{R Q:Nat->Prop}(h:MapAt w b s root lone R)(k:MapAt w c s root lone Q)(r:s.length<=100000) :
  Calls Tryz.prog 26 #[.pointer (some ⟨b,0,none⟩),.pointer (some ⟨c,0,none⟩)] w fun e w'=>e=.returned (.bool true)/\Keeps (fun _=>False) w w':=by
 obtain⟨bp,V,sv,W,X,Y,Z,z1,o2,z2,j,m,u,_⟩:=h.ex;obtain⟨d,v,nC,x,y,z,A,B,C,D,l,p,E,_⟩:=k.ex
 have q:Hid (∀w',Keeps (fun _=>False) w w'->w'.cell? ⟨b,0,none⟩=some (.pointer (some ⟨bp,0,none⟩))/\w'.cell? ⟨b,12,none⟩=some (.int .i64 root)/\w'.cell? ⟨b,13,none⟩=some (.int .i64 lone) /\
   w'.cell? ⟨c,0,none⟩=some (.pointer (some ⟨d,0,none⟩))/\w'.cell? ⟨c,12,none⟩=some (.int .i64 root)/\w'.cell? ⟨c,13,none⟩=some (.int .i64 lone)):=dh (fun w' a =>
  ⟨dw (a.at j (fun h=>h)) 0,dw (a.at j (fun h=>h)) 12,dw (a.at j (fun h=>h)) 13,dw (a.at l (fun h=>h)) 0,dw (a.at l (fun h=>h)) 12,dw (a.at l (fun h=>h)) 13⟩)
 have f:=(Keeps.refl (fun _=>False) w).drew;have F:=TA bp d sv nC s w.drew (m.keeps f (fun h=>h) (fun _ _ h=>h)) (p.keeps f (fun h=>h) (fun _ _ h=>h)) r;obtain⟨G,H,I,J,K,L⟩:=q.out _ f;clear h k j m u l p E;have hr:(root == root)=true:=by simp
 have hn:(lone == lone)=true:=by simp
 have i:=dh f;clear f;go_enter Tryz.func26,Tryz.ntmps26;go_wp2_with fail;go_region_held3 (fun w'=>w'.cell? ⟨b,0,none⟩=some (.pointer (some ⟨bp,0,none⟩))/\w'.cell? ⟨b,12,none⟩=some (.int .i64 root)/\w'.cell? ⟨b,13,none⟩=some (.int .i64 lone)/\w'.cell? ⟨c,0,none⟩=some (.pointer (some ⟨d,0,none⟩))/\w'.cell? ⟨c,12,none⟩=some (.int .i64 root)/\w'.cell? ⟨c,13,none⟩=some (.int .i64 lone)) (first|exact⟨G,H,I,J,K,L⟩|exact⟨M,N,O,P,S,T⟩) (first | (go_at_call 69;refine F.mono ?_;rintro e w' ⟨rfl,a⟩;obtain⟨M,N,O,P,S,T⟩:=q.out _ (i.out.trans a (fun _ _ h=>h));have U:=dh (i.out.trans a (fun _ _ h=>h));clear a))
 all_goals
  go_wp2;go_ret
  exact⟨rfl,U.out⟩
end
section
open Go.RowKit
def jC(w:World)(s:List Nat)(root lone:Int)(e:Ending)(w':World):Prop :=
 ∃b,e=.returned (.tuple #[.pointer (some ⟨b,0,none⟩),.int .i64 0])/\MapAt w' b s root lone (fun x=>w.heap.size<=x/\x<w'.heap.size/\x≠b)/\w.heap.size<=b/\Keeps (fun _=>False) w w'
def zI(s:List Nat)(j:Nat)(zs:List Int):Prop:=∀i,i<j->zs[i]? = some ((sg s (mt i):Nat):Int)
theorem zI.step{s:List Nat}{j:Nat}{zs:List Int}(a:j<zs.length)(h:zI s j zs):zI s (j+1) (zs.set j ((sg s (mt j):Nat):Int)):=fun i c=>by
 rw[List.getElem?_set];by_cases e:j=i
 ·subst e;rw[if_pos rfl,if_pos a]
 ·rw[if_neg e];exact h i (by omega)
theorem zI.done{s:List Nat}{zs:List Int}(c:zs.length=s.length)(h:zI s s.length zs):zs=dD (dS s):=by
 apply List.ext_getElem?;intro i;rcases Nat.lt_or_ge i s.length with a|a
 ·rw[h i a];simp[dD,dS,a]
 ·rw[List.getElem?_eq_none (by omega),List.getElem?_eq_none (by rw[q01,oD];omega)]
theorem MS(lv:Value)(s:List Nat)(r l:Nat)(w:World)(hs:Sl .i64 w lv (dD s))(hP:dO s.length (sg s))(he:s.length % 2=0)(hr:r<s.length)(ab:s.length<=131072)(ak:l<=65536) :
  Calls Tryz.prog 25 #[lv,.int .i64 r,.int .i64 l] w (jC w s r l):=by
 have hO:=Ew lv s w hs hP (by omega);have HS:Hid (∀W,Keeps (fun _=>False) w W->Sl .i64 W lv (dD s)):=dh (fun W H=>hs.keeps H (fun _ _ h=>h));have I:=dh (dn hP he);obtain⟨a,cap,rfl,ad,al⟩:=hs.form;rw[q01]at ad HS hO ⊢;obtain⟨m,hm⟩:∃m,s.length=2 * m:=⟨s.length / 2,by omega⟩
 have q1:((s.length:Int).tmod 2 == 1)=false:=by rw[beq_eq_false_iff_ne,Int.tmod_eq_emod_of_nonneg (by omega)];omega
 have q2:((s.length:Int) % 2 == 1)=false:=by rw[beq_eq_false_iff_ne];omega
 have q3:((s.length:Int) == 0)=false:=by rw[beq_eq_false_iff_ne];omega
 have q4:decide ((0:Int)<(s.length:Int))=true:=decide_eq_true (by omega);have am:decide (0<s.length)=true:=decide_eq_true (by omega);have q5:decide ((r:Int)<0)=false:=decide_eq_false (by omega);have q6:decide (s.length<=r)=false:=decide_eq_false (by omega);have q7:decide ((l:Int)<0)=false:=decide_eq_false (by omega);have q8:decide ((65536:Int)<(s.length:Int) / 2)=false:=decide_eq_false (by omega);have q9:decide ((65536:Int)<(l:Int))=false:=decide_eq_false (by omega);obtain⟨i,hi,J,d,f⟩:=info_parts nX;have K:=fun w=>run_make (P:=Tryz.prog) w 25 3 i _ Tryz.underlying25 hi J .i64 .i64 (s.length:Int) (s.length:Int) (by omega) (Int.le_refl _) (by rw[f];omega) (by omega);simp only [d,Int.toNat_natCast,Nat.mul_one]at K;have HM:=dh hm;clear hm hP hs he hi J d f;go_enter Tryz.func25,Tryz.ntmps25;go_wp2_with fail;refine hO.mono ?_;rintro e w1 ⟨bp,sv,rfl,L,M,N,O⟩;have A:=dh (dn L (dn M (dn N O)));have h0:=dV.made w1 s.length (zI s 0) (fun i hi=>by omega) (by omega);clear hO L M N O;go_wp2_with fail;clear K;generalize ae:World.alloc _ _=wM at *;clear ae;obtain⟨g,hg⟩:∃g,g=w1.heap.size:=⟨_,rfl⟩
 rw[<-hg]at h0;rw[<-hg];clear hg;go_loopg [66] s.length (fun m i wr=>∃j:Nat,j<=s.length/\m=s.length - j/\i=.int .i64 j/\dV w1 g s.length (zI s j) wr)
 case atStart=>exact⟨0,Nat.zero_le _,rfl,rfl,h0⟩
 case round =>
  clear h0;obtain⟨j,hj,S,rfl,F⟩:=hrel;have HG:=dh S;clear S;by_cases T:j<s.length
  ·obtain⟨_,_,_,_,U⟩:=id F;have af:=dQ I.out.2 T;have hx:=Ey j (by omega);obtain⟨gs,off,rfl,ag⟩:=(HS.out wr (A.out.2.2.2.trans U (fun _ _ h=>h))).cellAt (uf af);obtain⟨z,_,hc,hf⟩:=F.cell j T;have HN:=dh (F.set (Q:=zI s (j+1)) j ((sg s (mt j):Nat):Int) (fun zs an h=>h.step (by omega)));clear F U;generalize sg s (mt j)=x at *;generalize mt j=y at *;go_wp2;go_roundg (s.length - (j+1))
   case measure=>rw[HG.out];omega
   case rel=>exact⟨j+1,by omega,rfl,by go_num,HN.out⟩
  ·obtain rfl:j=s.length:=by omega
   have ah:=F;obtain⟨zs,d,f,V,X⟩:=ah;have ai:=zI.done d f;subst ai;have Y:=MO (.slice (some ⟨g,0,none⟩) s.length s.length) (dS s) wr V.sl (AJ I.out.1 I.out.2) (by rw[oD];omega);have H2:=dh X;clear F d f V X;go_wp2_with fail;refine Y.mono ?_;rintro e u ⟨bq,tv,rfl,q,aj,C,D⟩;obtain⟨B,hB⟩:∃B,B=xO bp false (.slice none 0 0) (.slice none 0 0) bq false (.slice none 0 0) (.slice none 0 0) r l:=⟨_,rfl⟩
   have hb:=heap_alloc_new u (.cells B 113);have k4:=(Keeps.refl (fun _=>False) u).alloc (.cells B 113);have v:=H2.out.trans D (fun _ _ h=>h);have c:=v.trans k4 (fun _ _ h=>h);have p:=A.out.2.2.2.trans c (fun _ _ h=>h);have s1:=A.out.2.2.2.size;have s2:=H2.out.size;have s3:=D.size;have G:=A.out.1.1;have Z:=G.keeps c (fun h=>h) (fun _ _ h=>h);have aa:=q.keeps k4 (fun h=>h) (fun _ _ h=>h)
   have E:MapAt (u.alloc (.cells B 113)) u.heap.size s r l (fun x=>w.heap.size<=x/\x<(u.alloc (.cells B 113)).heap.size/\x≠u.heap.size):=by
    refine⟨⟨bp,bq,sv,tv,false,false,_,_,_,_,by rw[hb,hB],Z,aa,⟨rfl,rfl⟩,⟨rfl,rfl⟩,?_,?_,fun k H=>?_,.inl (c.at A.out.1.2 (fun h=>h)),by have:=G.lt;omega,fun k H=>?_⟩,I.out.1,I.out.2,ab,.inr ⟨by omega,by omega⟩,⟨by omega,by omega⟩,fun x hx=>hx.2.1,fun hx=>hx.2.2 rfl⟩
    ·have:=G.lt;have:=A.out.2.1;simp;omega
    ·have:=q.lt;simp;omega
    ·have hh:w.heap.size<=k/\k<u.heap.size:=by
      rcases H with e|e|e|e|e|e
      ·have:=A.out.2.2.1 k e;have:=(G.2.2 k e).2;omega
      ·have:=C k e;have:=(q.2.2 k e).2;omega
      ·simp[Value.ownBlock]at e
      ·simp[Value.ownBlock]at e
      ·simp[Value.ownBlock]at e
      ·simp[Value.ownBlock]at e
     simp;omega
    ·have:=G.lt;rcases H with e|e|e|e|e
     ·have:=C k e;omega
     ·simp[Value.ownBlock]at e
     ·simp[Value.ownBlock]at e
     ·simp[Value.ownBlock]at e
     ·simp[Value.ownBlock]at e
   rw[hB]at E p;have HF:=dh (show jC w s r l (.returned (.tuple #[.pointer (some ⟨u.heap.size,0,none⟩),.int .i64 0])) _ from ⟨_,rfl,E,by omega,p⟩);clear Y q aj C D hB hb k4 v c p G Z aa E s1 s2 s3;go_wp2;go_ret2;exact HF.out
theorem Gt(S:Nat->Nat):dO 0 S:=⟨fun d a=>by omega,fun d e a=>by omega⟩
theorem TL(N:Value)(l:Nat)(w:World)(O:Sl .i64 w N [])(aa:l<=65536) :
  Calls Tryz.prog 25 #[N,.int .i64 (-1),.int .i64 l] w (jC w [] (-1) l):=by
 have Q:=Ew N [] w O (Gt _) (by simp);obtain⟨a,cap,rfl,S,ab⟩:=O.form;simp only [List.length_nil]at S Q ⊢;have q7:decide ((l:Int)<0)=false:=decide_eq_false (by omega);have q9:decide ((65536:Int)<(l:Int))=false:=decide_eq_false (by omega);obtain⟨i,hi,C,f,j⟩:=info_parts nX;have D:=fun w=>run_make (P:=Tryz.prog) w 25 3 i _ Tryz.underlying25 hi C .i64 .i64 (0:Int) (0:Int) (by omega) (Int.le_refl _) (by rw[j];omega) (by omega);simp only [f,Int.toNat_zero,Nat.mul_one]at D;clear O hi C f j;go_enter Tryz.func25,Tryz.ntmps25;go_wp2_with fail;refine Q.mono ?_;rintro e w1 ⟨bp,sv,rfl,E,F,G,H⟩;have z:=dh (dn E (dn F (dn G H)));have T:=dV.made w1 0 (fun zs=>zs=[]) (by simp) (by omega);clear Q E F G H;go_wp2_with fail;clear D;generalize U:World.alloc _ _=wM at *;clear U;obtain⟨g,V⟩:∃g,g=w1.heap.size:=⟨_,rfl⟩
 rw[<-V]at T;rw[<-V];clear V;go_loopg [66] 0 (fun m i wr=>m=0/\i=.int .i64 0/\dV w1 g 0 (fun zs=>zs=[]) wr)
 case atStart=>exact⟨rfl,rfl,T⟩
 case round =>
  clear T;obtain⟨W,rfl,hM⟩:=hrel;obtain⟨zs,f,j,I,J⟩:=hM;subst j;have K:=MO (.slice (some ⟨g,0,none⟩) 0 0) (dS []) wr I.sl (Gt _) (by simp[dS]);have H2:=dh J;clear f I J W;go_wp2_with fail;refine K.mono ?_;rintro e q ⟨bq,tv,rfl,p,X,u,v⟩;obtain⟨B,Y⟩:∃B,B=xO bp false (.slice none 0 0) (.slice none 0 0) bq false (.slice none 0 0) (.slice none 0 0) (-1) l:=⟨_,rfl⟩
  have hb:=heap_alloc_new q (.cells B 113);have k4:=(Keeps.refl (fun _=>False) q).alloc (.cells B 113);have r:=H2.out.trans v (fun _ _ h=>h);have c:=r.trans k4 (fun _ _ h=>h);have d:=z.out.2.2.2.trans c (fun _ _ h=>h);have s1:=z.out.2.2.2.size;have s2:=H2.out.size;have s3:=v.size;have A:=z.out.1.1;have L:=A.keeps c (fun h=>h) (fun _ _ h=>h);have M:=p.keeps k4 (fun h=>h) (fun _ _ h=>h)
  have y:MapAt (q.alloc (.cells B 113)) q.heap.size [] (-1) l (fun x=>w.heap.size<=x/\x<(q.alloc (.cells B 113)).heap.size/\x≠q.heap.size):=by
   refine⟨⟨bp,bq,sv,tv,false,false,_,_,_,_,by rw[hb,Y],L,M,⟨rfl,rfl⟩,⟨rfl,rfl⟩,?_,?_,fun k Z=>?_,.inl (c.at z.out.1.2 (fun h=>h)),by have:=A.lt;omega,fun k Z=>?_⟩,Gt _,rfl,by simp,.inl ⟨rfl,rfl⟩,⟨by omega,by omega⟩,fun x hx=>hx.2.1,fun hx=>hx.2.2 rfl⟩
   ·have:=A.lt;have:=z.out.2.1;simp;omega
   ·have:=p.lt;simp;omega
   ·have hh:w.heap.size<=k/\k<q.heap.size:=by
     rcases Z with e|e|e|e|e|e
     ·have:=z.out.2.2.1 k e;have:=(A.2.2 k e).2;omega
     ·have:=u k e;have:=(p.2.2 k e).2;omega
     ·simp[Value.ownBlock]at e
     ·simp[Value.ownBlock]at e
     ·simp[Value.ownBlock]at e
     ·simp[Value.ownBlock]at e
    simp;omega
   ·have:=A.lt;rcases Z with e|e|e|e|e
    ·have:=u k e;omega
    ·simp[Value.ownBlock]at e
    ·simp[Value.ownBlock]at e
    ·simp[Value.ownBlock]at e
    ·simp[Value.ownBlock]at e
  rw[Y]at y d;have HF:=dh (show jC w [] (-1) l (.returned (.tuple #[.pointer (some ⟨q.heap.size,0,none⟩),.int .i64 0])) _ from ⟨_,rfl,y,by omega,d⟩);clear K p X u v Y hb k4 r c d A L M y s1 s2 s3;go_wp2;go_ret2;exact HF.out
end
