import Derived.Test.YtalhcfjcbbkpgaaGreatZp0f
set_option maxRecDepth 100000
set_option maxHeartbeats 4000000
namespace Go.Proofs.YtalhcfjcbbkpgaaGreat
section
open Go.RowKit
theorem Sn(r b:Nat)(w:World)(hr:r<4294967296)(u:b<256) :
  Calls Tryz.prog 112 #[.int .u32 r,.int .u8 b] w fun e w'=>e=.returned (.int .u32 (BK r b:Nat))/\w=w':=by
 have v:bits .xor .u32 (r:Int) (b:Int)=((r ^^^ b:Nat):Int):=u32_xor_nat r b hr (by omega);have k:r ^^^ b<4294967296:=Nat.xor_lt_two_pow (n:=32) hr (by omega);have l:Hid (BK r b=nY 8 (r ^^^ b)):=dh rfl;generalize BK r b=R at *;go_enter Tryz.func112,Tryz.ntmps112;go_wp2_with fail;go_loop [0,9] (fun m i=>∃j:Nat,j<=8/\i=.int .i64 j/\m=.int .u32 (nY j (r ^^^ b):Nat)) (fun _ i=>8 - (intOf i).toNat)
 case atStart=>exact⟨0,by omega,rfl,rfl⟩
 case round =>
  obtain⟨j,x,rfl,rfl⟩:=hrel;by_cases o:j<8
  ·have p:=LW k j;have c:nY (j+1) (r ^^^ b)=Ar (nY j (r ^^^ b)):=rfl;generalize nY j (r ^^^ b)=q at *;have d:=dh c;clear c;have h:bits .and .u32 (q:Int) 1=((q % 2:Nat):Int):=by have:=u32_and_nat q 1 p (by decide);rw[nat_mask1]at this;exact this
   by_cases f:q % 2=0
   ·have a:Ar q=q / 2:=by unfold Ar;rw[if_pos f]
    rw[f]at h;have s:bits .and .u32 3988292384 0=0:=u32_and_nat 3988292384 0 (by decide) (by decide);have t:bits .xor .u32 ((q:Int) / 2) 0=((q / 2:Nat):Int):=by have:=u32_xor_nat (q / 2) 0 (by omega) (by decide);rw[Nat.xor_zero]at this;exact this
    have g:=dh a;clear a;go_wp2_with fail;go_round
    case rel=>exact⟨j+1,by omega,by go_num,by rw[d.out,g.out];first|rfl|simp⟩
    case measure=>simp[intOf];omega
   ·have a:Ar q=(q / 2) ^^^ 3988292384:=by unfold Ar;rw[if_neg f]
    rw[show q % 2=1 by omega]at h;have s:bits .and .u32 3988292384 4294967295=3988292384:=u32_and_nat 3988292384 4294967295 (by decide) (by decide);have t:bits .xor .u32 ((q:Int) / 2) 3988292384=(((q / 2) ^^^ 3988292384:Nat):Int):=u32_xor_nat (q / 2) 3988292384 (by omega) (by decide);have g:=dh a;clear a;go_wp2_with fail;go_round
    case rel=>exact⟨j+1,by omega,by go_num,by rw[d.out,g.out]⟩
    case measure=>simp[intOf];omega
  ·obtain rfl:j=8:=by omega
   go_wp2;go_ret
   exact⟨by rw[l.out];rfl,rfl⟩
def xG(W:World)(b r n:Nat):Prop:=W.heap[b]? = some (.cells #[.int .u32 r,.int .i64 n] 171 (0,0))
theorem Sr(b:Nat)(r:Value)(bs:List Nat)(w:World)(h:xG w b 0 0)(I:Sl .u8 w r (dD bs))(l:∀x ∈ bs,x<256)(P:bs.length<=1000000000)(J:r.ownBlock≠some b) :
  Calls Tryz.prog 64 #[.pointer (some ⟨b,0,none⟩),r] w fun e w'=>e=.returned (.tuple #[])/\xG w' b (mO bs) bs.length/\Keeps (fun k=>k=b) w w':=by
 obtain⟨Q,R,rfl,s,K,_,t⟩:=I;rw[show (dD bs).length=bs.length by simp[dD]]at s ⊢;have S:w.cell? ⟨b,0,none⟩=some (.int .u32 0):=dw h 0;have T:w.cell? ⟨b,1,none⟩=some (.int .i64 0):=dw h 1;have U:=dx h;have m:=dh (dn h l);clear h l;generalize E:bs.length=n at *;have F:=dh E;clear E;have u:bits .xor .u32 IntKind.u32.max 0=4294967295:=u32_xor_nat 4294967295 0 (by decide) (by decide);go_enter Tryz.func64,Tryz.ntmps64;go_wp2_with fail;go_loop [4,16] (fun L i=>∃j:Nat,j<=n/\i=.int .i64 j/\L=.int .u32 (oH (bs.take j):Nat)) (fun _ i=>n - (intOf i).toNat)
 case atStart=>exact⟨0,by omega,rfl,by first|rfl | (simp only [u];rfl)⟩
 case round =>
  obtain⟨j,V,rfl,rfl⟩:=hrel;have G:oH (bs.take j)<4294967296:=LX _ _ (fun x f=>m.out.2 x (List.mem_of_mem_take f)) (by decide);by_cases v:j<n
  ·obtain⟨x,f⟩:∃x,bs[j]? = some x:=⟨_,List.getElem?_eq_getElem (by rw[F.out];exact v)⟩
   have c:=m.out.2 x (List.mem_of_getElem? f);have o:oH (bs.take (j+1))=BK (oH (bs.take j)) x:=by unfold oH;rw[wZ f,List.foldl_append];rfl
   obtain⟨g,off,rfl,y⟩:=t j _ (by simp[dD,f]:(dD bs)[j]? = some (x:Int));have z:=dh o;have A:=fun W=>Sn (oH (bs.take j)) x W G c;clear o t f;generalize oH (bs.take j)=q at *;go_wp2_with (go_at_call 112;refine(A _).mono ?_;rintro e w' ⟨rfl,rfl⟩)
   go_round
   case rel=>exact⟨j+1,by omega,by go_num,by rw[z.out]⟩
   case measure=>simp[intOf];omega
  ·obtain rfl:j=n:=by omega
   have B:mO bs=oH (bs.take j) ^^^ 4294967295:=by unfold mO;rw[List.take_of_length_le (by rw[F.out];exact Nat.le_refl _)]
   have C:bits .xor .u32 IntKind.u32.max ((oH (bs.take j):Nat):Int)=((mO bs:Nat):Int):=by have:=u32_xor_nat 4294967295 (oH (bs.take j)) (by decide) G;rw[B,Nat.xor_comm];exact this
   have X:=dh B;clear t B;generalize oH (bs.take j)=q at *;obtain⟨a,d⟩:∃a,a=mO bs:=⟨_,rfl⟩
   rw[<-d]at C;have D:=dh d;clear d;have H:=jM (jM m.out.1 0 (.int .u32 (a:Int))) 1 (.int .i64 (j:Int));have M:(w.setCell ⟨b,0,none⟩ (.int .u32 (a:Int))).cell? ⟨b,1,none⟩=some (.int .i64 0):=dw (jM m.out.1 0 (.int .u32 (a:Int))) 1;have N:=dx (jM m.out.1 0 (.int .u32 (a:Int)));have O:Hid (xG _ b a j/\Keeps (fun k=>k=b) w _):=dh ⟨H,((Keeps.refl (fun k=>k=b) w).setCell (p:=⟨b,0,none⟩) (.inl rfl) (.int .u32 (a:Int))).setCell (p:=⟨b,1,none⟩) (.inl rfl) (.int .i64 (j:Int))⟩;clear H;go_wp2_with fail;go_end0;rw[<-D.out];exact⟨rfl,O.out⟩
theorem Sv(c:Value)(bs:List Nat)(w:World)(g:Sl .u8 w c (dD bs))(d:∀k,c.ownBlock=some k->k<w.heap.size)(a:∀x ∈ bs,x<256)(m:bs.length<=1000000000) :
  Calls Tryz.prog 21 #[c] w fun e w'=>e=.returned (.int .u32 (mO bs:Nat))/\Keeps (fun _=>False) w w':=by
 have f:=(Keeps.refl (fun _=>False) w).alloc (.cells #[.int .u32 0,.int .i64 0] 171);have b:=heap_alloc_new w (.cells #[.int .u32 0,.int .i64 0] 171);have i:=Sr w.heap.size c bs _ b (g.keeps f (fun _ _ h=>h)) a m (fun e=>by have:=d _ e;omega);have n:=dh f;clear g a f b;go_enter Tryz.func21,Tryz.ntmps21;go_wp2_with (first | (go_at_call 64;refine i.mono ?_;rintro e w1 ⟨rfl,j,l⟩;have p:w1.cell? ⟨w.heap.size,0,none⟩=some (.int .u32 (mO bs:Nat)):=dw j 0;have o:=dh (n.out.trans l (fun x q e=>by omega));clear i j l)|go_in)
 go_ret;exact⟨rfl,o.out⟩
end
section
open Go.RowKit
def Au(w:World)(v:Value)(bs:List Nat):Prop:=∃a,v=.slice a bs.length bs.length/\Sl .u8 w v (dD bs)
def vQ(B:Nat)(w:World)(v:Value)(bs:List Nat):Prop:=dZ B w v bs\/Au w v bs
theorem vQ.sl{B:Nat}{w:World}{v:Value}{bs:List Nat}(h:vQ B w v bs):Sl .u8 w v (dD bs):=by
 rcases h with h|⟨_,_,h⟩
 ·exact h.sl
 ·exact h
theorem Sl.Av{w:World}{v:Value}{bs:List Nat}(h:Sl .u8 w v (dD bs)):∃a cap,v=.slice a bs.length cap/\bs.length<=cap/\cap<=9223372036854775807:=by obtain⟨a,cap,b,c,d,_,_⟩:=h;rw[show (dD bs).length=bs.length by simp[dD]]at b c;exact⟨a,cap,b,c,d⟩
theorem vQ.form{B:Nat}{w:World}{v:Value}{bs:List Nat}(h:vQ B w v bs):∃a cap,v=.slice a bs.length cap/\bs.length<=cap/\cap<=9223372036854775807:=by obtain⟨a,cap,b,c,d,_,_⟩:=h.sl;rw[show (dD bs).length=bs.length by simp[dD]]at b c;exact⟨a,cap,b,c,d⟩
theorem dZ.row{B:Nat}{w:World}{v:Value}{bs:List Nat}(h:dZ B w v bs)(a:0<bs.length):∃g cap,v=.slice (some ⟨g,0,none⟩) bs.length cap/\B<=g/\g<w.heap.size/\bs.length<=cap/\cap<=9223372036854775807:=by obtain⟨g,cap,b,c,d,_,e,f⟩:=ru h a;exact⟨g,cap,b,(dZ.lt h g e).1,f,c,by unfold maxLen at d;omega⟩
theorem Sl.full{w:World}{a:Option Addr}{n cap:Nat}{bs:List Nat}(h:Sl .u8 w (.slice a n cap) (dD bs)):Au w (.slice a n n) bs:=by
 obtain⟨i,b,c,j,k,d,f⟩:=h;simp only [Value.slice.injEq]at c;obtain⟨rfl,rfl,rfl⟩:=c;have e:(dD bs).length=bs.length:=by simp[dD]
 refine⟨a,by rw[e],a,(dD bs).length,rfl,Nat.le_refl _,by omega,fun g=>?_,f⟩;have:=d g;omega
theorem LZ{c:Array Oper}{rest:List Oper}{o:Oper}{a:Act}{Q:Exit->Act->World->Prop}{wr:World}(n:Nat)(d:o.guard=none)(s x:Operand)
  (p:o.op=.call { callee:=.builtin .append,args:=#[s,x],argTypes:=#[30,30] })(B:Nat)(v:Value)(bs:List Nat)(z:Nat)(j:Hid (bs.length=n))(H:Nat)(r:wr.heap.size=H)(l:a.eval s=v)(t:a.eval x=.slice (some ⟨H,0,none⟩) 1 1)
  (f:vQ B wr v bs)(u:n<=1000000000)(A:B<=wr.heap.size)
  (h:∀g cap w',dZ B w' (.slice (some ⟨g,0,none⟩) (n+1) cap) (bs ++ [z])->Keeps (fun k=>B<=k) wr w' ->
   wpList Tryz.prog c Q rest (a.put o.dst (.slice (some ⟨g,0,none⟩) (n+1) cap)) w') :
  wpList Tryz.prog c Q (o :: rest) a (wr.alloc (.cells #[.int .u8 (z:Int)] 5)):=by
 rcases f with w|⟨C,D,i⟩
 ·exact Qt n d s x p B v bs z j H r l t w (by omega) A (fun g cap w' b m _ _=>h g cap w' b (m.mono (fun q _ e=>(w.lt q e).1)))
 ·have y:=(Keeps.refl (fun _=>False) wr).alloc (.cells #[.int .u8 (z:Int)] 5);subst r;rw[D]at l i;refine xk d s x p C bs.length 1 1 ⟨wr.heap.size,0,none⟩ bs [z] l t (i.keeps y (fun _ _ h=>h)) (Sl.one wr .u8 (z:Int) 5) (by decide) (by rw[j.out];omega) (fun v' w' b m=>?_);obtain⟨g,cap,rfl,F,_,_,_⟩:=b.row (by simp);have e:(bs ++ [z]).length=n+1:=by rw[List.length_append,j.out];rfl
  rw[e]at b ⊢;refine h g cap w' (b.mono (fun k E=>?_)) ((y.mono (fun _ _ h=>h.elim)).trans m (fun _ _ h=>h.elim));have:=(b.lt k E).1;simp at this;omega
theorem Gg(l:Value)(bs:List Nat)(x:Nat)(w:World)(s:Sl .u8 w l (dD bs))(T:bs.length<=100000000)(A:x<18446744073709551616) :
  Calls Tryz.prog 88 #[l,.int .u64 x] w fun e w'=>∃v,e=.returned v/\dZ w.heap.size w' v (bs ++ mM x)/\Keeps (fun _=>False) w w':=by
 obtain⟨U,V,rfl,J,K⟩:=s.Av;have hF:=s.full;generalize B:bs.length=n at *;have L:=dh B;have M:=dh hF;clear B s hF;go_enter Tryz.func88,Tryz.ntmps88;go_wp2_with fail;go_loopg [0,1] x (fun m l N wr=>∃(pre:List Nat) (y:Nat),m=y/\N=.int .u64 y/\bs ++ mM x=pre ++ mM y/\y<18446744073709551616/\vQ w.heap.size wr l pre/\Keeps (fun _=>False) w wr)
 case atStart=>exact⟨bs,x,rfl,rfl,rfl,A,.inr M.out,Keeps.refl _ _⟩
 case round =>
  obtain⟨pre,y,g,rfl,f,W,t,h⟩:=hrel;have O:pre.length<=n+10:=by have o:=congrArg List.length f;rw[List.length_append,List.length_append,L.out]at o;have:=xw A;omega
  have i:=h.size;obtain⟨C,D,rfl,P,Q⟩:=t.form;have R:=dh g;clear g;generalize E:pre.length=m at *;have F:=dh E;clear E;have G:IntKind.u8.wrap (y:Int)=((y % 256:Nat):Int):=by rw[IntKind.wrap_u8];omega
  by_cases j:y<128
  ·rw[Db j]at f;have p:=dh f;have k:((y % 256:Nat):Int)=(y:Int):=by omega
   rw[k]at G;clear f k;go_wp2_with (at_builtin;refine LZ m rfl _ _ rfl w.heap.size (.slice C m D) pre y F _ rfl rfl rfl t (by omega) i ?_;intro u b w1 a c)
   have d:Hid (dZ w.heap.size w1 (.slice (some ⟨u,0,none⟩) (m+1) b) (bs ++ mM x)/\Keeps (fun _=>False) w w1):=dh ⟨by rw[p.out];exact a,h.trans c (fun q r e=>by omega)⟩;clear a c h;go_wp2;go_ret;exact⟨_,rfl,d.out⟩
  ·rw[Ip j]at f;have p:=dh f
   have k:bits .or .u8 ((y % 256:Nat):Int) 128=((y % 128+128:Nat):Int):=by
    have o:=u8_or_nat (y % 256) 128 (by omega) (by decide);have S:∀z:Fin 256,z.val ||| 128=z.val % 128+128:=by decide +kernel
    have H:=S ⟨y % 256,by omega⟩;simp only at H;rw[H,show y % 256 % 128=y % 128 by omega]at o;exact o
   obtain⟨z,I⟩:∃z,z=y % 128+128:=⟨_,rfl⟩
   obtain⟨q,r⟩:∃q,q=y % 256:=⟨_,rfl⟩
   rw[<-I]at k p;rw[<-r]at G k;clear f I r;go_wp2_with (at_builtin;refine LZ m rfl _ _ rfl w.heap.size (.slice C m D) pre z F _ rfl rfl rfl t (by omega) i ?_;intro u b w1 a c)
   have d:Hid (dZ w.heap.size w1 (.slice (some ⟨u,0,none⟩) (m+1) b) (pre ++ [z])/\Keeps (fun _=>False) w w1):=dh ⟨a,h.trans c (fun q r e=>by omega)⟩;clear a c h;go_wp2;go_roundg (y / 128)
   case measure=>rw[R.out];omega
   case rel=>exact⟨pre ++ [z],y / 128,rfl,by first|rfl|go_num | (congr 1),by rw[p.out,List.append_assoc];rfl,by omega,.inl d.out.1,d.out.2⟩
theorem L6(u:Value)(bs:List Nat)(x:Nat)(w:World)(q:Sl .u8 w u (dD bs))(I:bs.length<=100000000)(J:x<4294967296) :
  Calls Tryz.prog 96 #[u,.int .u32 x] w fun e w'=>∃v,e=.returned v/\dZ w.heap.size w' v (bs ++ four x)/\Keeps (fun _=>False) w w':=by
 obtain⟨A,K,rfl,B,C⟩:=q.Av;have hF:=q.full;obtain⟨c,d,f,g,y,L,M,N,z3⟩:∃c d f g:Nat,four x=[c,d,f,g]/\(x:Int) % 256=c/\(x:Int) / 256 % 256=d/\(x:Int) / 65536 % 256=f/\(x:Int) / 16777216=g:=⟨_,_,_,_,rfl,by omega,by omega,by omega,by omega⟩
 have r:=(Keeps.refl (fun _=>False) w).alloc (.cells #[.int .u8 c,.int .u8 d,.int .u8 f,.int .u8 g] 5)
 have l:Sl .u8 (w.alloc (.cells #[.int .u8 c,.int .u8 d,.int .u8 f,.int .u8 g] 5)) (.slice (some ⟨w.heap.size,0,none⟩) 4 4) (dD [c,d,f,g]):=by
  refine⟨_,4,rfl,Nat.le_refl _,by decide,(fun h=>by cases h),fun j z a=>⟨w.heap.size,0,rfl,?_⟩⟩;have D:=heap_alloc_new w (.cells #[.int .u8 c,.int .u8 d,.int .u8 f,.int .u8 g] 5);rw[Nat.zero_add,dw D]
  match j,a with
  | 0,a=>simp[dD]at a;subst a;rfl
  | 1,a=>simp[dD]at a;subst a;rfl
  | 2,a=>simp[dD]at a;subst a;rfl
  | 3,a=>simp[dD]at a;subst a;rfl
  | j+4,a=>simp[dD]at a
 generalize s:bs.length=n at *;have O:=dh s;have t:=hF;obtain⟨P,m,o⟩:=t;rw[s]at m;have i:=o.keeps r (fun _ _ h=>h);have E:=dh y;have F:=dh r;clear s q hF m o y r;go_enter Tryz.func96,Tryz.ntmps96;go_wp2_with (at_builtin;go_loud (refine xk rfl _ _ rfl A n 4 4 ⟨w.heap.size,0,none⟩ bs [c,d,f,g] rfl rfl i l (by decide) (by omega) ?_;intro v' w1 b p))
 have G:Hid (dZ w.heap.size w1 v' (bs ++ four x)/\Keeps (fun _=>False) w w1):=dh ⟨by rw[E.out];refine b.mono (fun k H=>?_);have:=(b.lt k H).1;simp at this;omega,F.out.trans p (fun _ _ h=>h)⟩;clear b p i l;go_wp2;go_ret;exact⟨_,rfl,G.out⟩
end
