import Derived.Test.YtcfdpogegngplaaGreatZg01
set_option maxRecDepth 100000
set_option maxHeartbeats 4000000
namespace Go.Proofs.YtcfdpogegngplaaGreat
section
def ex(l:List Bool)(p:Nat):Int:=2 * rk l 1 (min p l.length) - (min p l.length:Nat)
def fJ(l:List Bool)(p:Nat):Int:=2 * ((l.getD p false).toNat:Int) - 1
theorem FT(l:List Bool):ex l 0=0:=by simp[ex,TU]
theorem FU(l:List Bool){p:Nat}(h:p<l.length):ex l (p+1)=ex l p+fJ l p:=by
 have:=Jw l 1 p (.inr rfl) h
 unfold ex fJ
 rw[Nat.min_eq_left (by omega),Nat.min_eq_left (by omega),this]
 cases l.getD p false <;> simp <;> omega
theorem FV(l:List Bool){p:Nat}(h:l.length≤p):ex l p=ex l l.length:=by
 unfold ex;rw[Nat.min_eq_right h,Nat.min_self]
theorem KS(l:List Bool)(p:Nat):fJ l p=1∨fJ l p=-1:=by
 unfold fJ;cases l.getD p false <;> simp
theorem YU(l:List Bool)(p:Nat):ex l p - 1≤ex l (p+1)∧ex l (p+1)≤ex l p+1:=by
 by_cases h:p<l.length
 ·have h1:=FU l h
  have h2:=KS l p
  omega
 ·rw[FV l (p:=p) (by omega),FV l (p:=p+1) (by omega)];omega
theorem KT(l:List Bool)(p:Nat):-(l.length:Int)≤ex l p∧ex l p≤l.length:=by
 have h:=KR l 1 (.inr rfl) (min p l.length) (by omega)
 unfold ex
 omega
def dG(l:List Bool)(a:Nat):Nat→Int
 | 0=>0
 | m+1=>min (dG l a m) (ex l (a+(m+1)) - ex l a)
theorem BN(l:List Bool)(a:Nat):∀ m q,q≤m→dG l a m≤ex l (a+q) - ex l a
 | 0,q,h=>by
         obtain rfl:q=0:=by omega
         simp[dG]
 | m+1,q,h=>by
  simp only [dG]
  by_cases hq:q=m+1
  ·subst hq;omega
  ·have:=BN l a m q (by omega);omega
theorem FW(l:List Bool)(a:Nat):∀ m,∃ q,q≤m∧dG l a m=ex l (a+q) - ex l a
 | 0=>⟨0,by omega,by simp[dG]⟩
 | m+1=>by
  simp only [dG]
  obtain⟨q,h1,h2⟩:=FW l a m
  rcases Int.le_total (dG l a m) (ex l (a+(m+1)) - ex l a) with h|h
  ·exact⟨q,by omega,by omega⟩
  ·exact⟨m+1,by omega,by omega⟩
theorem YV(l:List Bool)(a m q:Nat):dG l a (m+q)=min (dG l a m) (ex l (a+m) - ex l a+dG l (a+m) q):=by
 obtain⟨x,hx,hx2⟩:=FW l a (m+q)
 obtain⟨y,hy,hy2⟩:=FW l a m
 obtain⟨z,hz,hz2⟩:=FW l (a+m) q
 have h1:=BN l a (m+q) y (by omega)
 have h2:=BN l a (m+q) (m+z) (by omega)
 rw[show a+(m+z)=a+m+z by omega] at h2
 by_cases hc:x≤m
 ·have h3:=BN l a m x hc
  omega
 ·have h3:=BN l (a+m) q (x - m) (by omega)
  rw[show a+m+(x - m)=a+x by omega] at h3
  omega
theorem YW(l:List Bool)(a m:Nat):dG l a m≤0:=by
 have:=BN l a m 0 (Nat.zero_le _);simp at this;exact this
theorem YX(l:List Bool)(a m:Nat):dG l a m≤ex l (a+m) - ex l a:=BN l a m m (Nat.le_refl _)
theorem YZ(l:List Bool)(a m:Nat):-(2 * (l.length:Int))≤dG l a m:=by
 obtain⟨q,_,h⟩:=FW l a m
 have h1:=KT l (a+q)
 have h2:=KT l a
 omega
theorem qid(l:List Bool)(a m q:Nat)(h:l.length≤a+m):dG l a (m+q)=dG l a m:=by
 rw[YV]
 have h1:=YX l a m
 obtain⟨z,_,hz⟩:=FW l (a+m) q
 rw[FV l (p:=a+m+z) (by omega),FV l (p:=a+m) (by omega)] at hz
 rw[hz]
 rw[FV l (p:=a+m) (by omega)] at h1 ⊢
 omega
def o9(h k:Nat):Nat:=512 * ((k - 2 ^ k.log2) * 2 ^ (h - k.log2))
def oU(h k:Nat):Nat:=512 * 2 ^ (h - k.log2)
def kH(l:List Bool)(h k:Nat):Int:=ex l (o9 h k+oU h k) - ex l (o9 h k)
def lV(l:List Bool)(h k:Nat):Int:=dG l (o9 h k) (oU h k)
theorem qlg(k:Nat)(h:1≤k):(2 * k).log2=k.log2+1:=by
 rw[Nat.log2_def,if_pos (by omega),show 2 * k / 2=k by omega]
theorem qie(k:Nat)(h:1≤k):(2 * k+1).log2=k.log2+1:=by
 rw[Nat.log2_def,if_pos (by omega),show (2 * k+1) / 2=k by omega]
theorem qc1(h b:Nat)(hb:b<2 ^ h):(2 ^ h+b).log2=h:=by
 have hp:0<2 ^ h:=Nat.two_pow_pos h
 have h1:h≤(2 ^ h+b).log2:=(Nat.le_log2 (by omega)).2 (by omega)
 have h2:(2 ^ h+b).log2<h+1:=(Nat.log2_lt (by omega)).2 (by rw[Nat.pow_succ];omega)
 omega
theorem Y0(h b:Nat)(hb:b<2 ^ h):o9 h (2 ^ h+b)=512 * b:=by
 unfold o9;rw[qc1 h b hb];simp
theorem Y1(h b:Nat)(hb:b<2 ^ h):oU h (2 ^ h+b)=512:=by
 unfold oU;rw[qc1 h b hb];simp
theorem qea(h:Nat):o9 h 1=0:=by simp[o9,Nat.log2_def]
theorem qeb(h:Nat):oU h 1=512 * 2 ^ h:=by simp[oU,Nat.log2_def]
theorem sj(h k:Nat)(h1:1≤k)(hk:k<2 ^ h) :
  o9 h (2 * k)=o9 h k∧o9 h (2 * k+1)=o9 h k+oU h (2 * k)∧oU h (2 * k+1)=oU h (2 * k)∧oU h k=oU h (2 * k)+oU h (2 * k):=by
 have hd:k.log2<h:=(Nat.log2_lt (by omega)).2 hk
 have hle:2 ^ k.log2≤k:=Nat.log2_self_le (by omega)
 unfold o9 oU
 rw[qlg k h1,qie k h1]
 generalize k.log2=d at *
 obtain⟨j,rfl⟩:∃ j,h=d+1+j:=⟨h - d - 1,by omega⟩
 rw[show d+1+j - (d+1)=j by omega,show d+1+j - d=j+1 by omega]
 rw[Nat.pow_succ 2 d,Nat.pow_succ 2 j]
 rw[show 2 * k - 2 ^ d * 2=2 * (k - 2 ^ d) by omega,show 2 * k+1 - 2 ^ d * 2=2 * (k - 2 ^ d)+1 by omega]
 generalize k - 2 ^ d=x
 generalize 2 ^ j=y
 have e1:2 * x * y=x * (y * 2):=by rw[Nat.mul_comm 2 x,Nat.mul_assoc,Nat.mul_comm 2 y]
 have e2:(2 * x+1) * y=x * (y * 2)+y:=by rw[Nat.add_mul,e1,Nat.one_mul]
 rw[e1,e2]
 exact⟨rfl,by omega,rfl,by omega⟩
theorem qif(l:List Bool)(h k:Nat)(h1:1≤k)(hk:k<2 ^ h):kH l h k=kH l h (2 * k)+kH l h (2 * k+1):=by
 obtain⟨a,b,c,d⟩:=sj h k h1 hk
 unfold kH
 rw[a,b,c,d,← Nat.add_assoc]
 omega
theorem qig(l:List Bool)(h k:Nat)(h1:1≤k)(hk:k<2 ^ h):lV l h k=min (lV l h (2 * k)) (kH l h (2 * k)+lV l h (2 * k+1)):=by
 obtain⟨a,b,c,d⟩:=sj h k h1 hk
 unfold lV kH
 rw[a,b,c,d,YV]
theorem tup(h k:Nat)(h2:2≤k)(hk:k<2 * 2 ^ h)(ho:k % 2=1):o9 h (k / 2)+oU h (k / 2)=o9 h k+oU h k:=by
 obtain⟨a,b,c,d⟩:=sj h (k / 2) (by omega) (by omega)
 rw[show 2 * (k / 2)+1=k by omega] at b c
 rw[b,c,d];omega
theorem qon(h k:Nat)(h2:2≤k)(hk:k<2 * 2 ^ h)(ho:k % 2=0):o9 h (k+1)=o9 h k+oU h k:=by
 obtain⟨a,b,c,d⟩:=sj h (k / 2) (by omega) (by omega)
 rw[show 2 * (k / 2)=k by omega] at a b c d
 rw[b,a]
theorem qgy(h k:Nat):512≤oU h k:=by
 have:=Nat.two_pow_pos (h - k.log2);unfold oU;omega
theorem qgz(l:List Bool)(h k:Nat):-(2 * (l.length:Int))≤kH l h k∧kH l h k≤2 * l.length:=by
 have h1:=KT l (o9 h k)
 have h2:=KT l (o9 h k+oU h k)
 unfold kH;omega
theorem qh(l:List Bool)(h k:Nat):-(2 * (l.length:Int))≤lV l h k∧lV l h k≤0:=⟨YZ _ _ _,YW _ _ _⟩
structure kF (l:List Bool)(i T:Nat):Prop where
 lt:i<T
 le:T≤l.length
 hit:ex l T=ex l i - 1
 above:∀ p,i≤p→p<T→ex l i≤ex l p
theorem kF.iff{l:List Bool}{i T p:Nat}(h:kF l i T)(h1:i≤p)(h2:p≤T):ex l p=ex l i - 1↔p=T:=by
 constructor
 ·intro hp
  by_cases hT:p<T
  ·have:=h.above p h1 hT;omega
  ·omega
 ·rintro rfl;exact h.hit
theorem kF.pass{l:List Bool}{i T a m:Nat}(h:kF l i T)(h1:i≤a):(ex l a+dG l a m > ex l i - 1→a+m<T∨T<a)∧(¬ ex l a+dG l a m > ex l i - 1→T≤a+m):=by
 constructor
 ·intro hp
  by_cases hT:a≤T∧T≤a+m
  ·have:=BN l a m (T - a) (by omega)
   rw[show a+(T - a)=T by omega,h.hit] at this
   omega
  ·omega
 ·intro hp
  obtain⟨q,h2,h3⟩:=FW l a m
  by_cases hT:a+q<T
  ·have:=h.above (a+q) (by omega) hT;omega
  ·omega
structure cK (l:List Bool)(i:Nat)(want:Int)(B:Nat):Prop where
 lt:B<i
 le:i≤l.length
 hit:ex l B=want
 above:∀ p,B<p→p≤i→want<ex l p
theorem cK.iff{l:List Bool}{i B p:Nat}{want:Int}(h:cK l i want B)(h1:B≤p)(h2:p≤i):ex l p=want↔p=B:=by
 constructor
 ·intro hp
  by_cases hB:B<p
  ·have:=h.above p hB h2;omega
  ·omega
 ·rintro rfl;exact h.hit
theorem cK.pass{l:List Bool}{i B a m:Nat}{want:Int}(h:cK l i want B)(h1:B<a+m)(hp:¬ ex l a+dG l a m≤want):B<a:=by
 by_cases hB:a≤B
 ·have:=BN l a m (B - a) (by omega)
  rw[show a+(B - a)=B by omega,h.hit] at this
  omega
 ·omega
end
section
open Go.RowKit
def Bal(l:List Bool):Prop:=ex l l.length=0∧∀ p,p≤l.length→0≤ex l p
theorem nR(l:List Bool)(p:Nat)(h:l.length≤100000000):-100000000≤ex l p∧ex l p≤100000000:=by
 have:=KT l p
 omega
def qnf(l:List Bool)(e:Ending):Prop:=∃ t:Bool,e=.returned (.bool t)∧(t=true↔Bal l)
theorem Y2(b:Nat)(v:Value)(l:List Bool)(w:World)(h:aK w b v l)(hl:l.length≤100000000) :
  Calls Tryz.prog 249 #[.pointer (some ⟨b,0,none⟩)] w fun e w'=>qnf l e∧w=w':=by
 have hlen:=rY b v l w h
 go_enter Tryz.func249,Tryz.ntmps249
 go_wp2_with (go_at_call 99;refine hlen.mono ?_;rintro e w' ⟨rfl,rfl⟩)
 clear hlen
 go_loop [3,7] (fun n i=>∃ k:Nat,k≤l.length∧i=.int .i64 k∧n=.int .i64 (ex l k)∧∀ p,p≤k→0≤ex l p) (fun _ i=>l.length - (intOf i).toNat)
 case atStart =>
  refine⟨0,Nat.zero_le _,rfl,by rw[FT],fun p hp=>?_⟩
  obtain rfl:p=0:=by omega
  rw[FT];omega
 case round =>
  obtain⟨k,hk,rfl,rfl,hall⟩:=hrel
  have hb:=nR l k hl
  by_cases hlt:k<l.length
  ·have hA:=lD b v l k _ h hlt (by omega)
   have hs:=FU l hlt
   have hb2:=nR l (k+1) hl
   unfold fJ at hs
   have hy:(l.getD k false).toNat≤1:=by cases l.getD k false <;> simp
   generalize (l.getD k false).toNat=y at *
   have hs':ex l k+(2 * (y:Int) - 1)=ex l (k+1):=hs.symm
   have HA:=ah hall
   clear hs hall
   by_cases hneg:ex l (k+1)<0
   ·have HN:=ah hneg
    have tn:decide (ex l k+(2 * (y:Int) - 1)<0)=true:=by rw[hs'];exact decide_eq_true hneg
    clear hs' hneg hb2
    generalize ex l k=x at *
    go_wp2_with (go_at_call 195;refine hA.mono ?_;rintro e w' ⟨rfl,rfl⟩)
    all_goals first | (go_ret;exact⟨⟨false,rfl,by simp;intro hB;have:=hB.2 (k+1) (by omega);have:=HN.out;omega⟩,rfl⟩)|omega|skip
   ·have HN:=ah (aj hneg hs')
    have tn:decide (ex l k+(2 * (y:Int) - 1)<0)=false:=by rw[hs'];exact decide_eq_false hneg
    clear hs' hneg hb2
    generalize hx:ex l k=x at *
    go_wp2_with (go_at_call 195;refine hA.mono ?_;rintro e w' ⟨rfl,rfl⟩)
    go_round
    case rel =>
     refine⟨k+1,by omega,by go_num,by rw[HN.out.2],fun p hp=>?_⟩
     by_cases hp2:p≤k
     ·exact HA.out p hp2
     ·obtain rfl:p=k+1:=by omega
      have:=HN.out.1;omega
    case measure=>simp[intOf];omega
  ·obtain rfl:k=l.length:=by omega
   have HA:=ah hall
   clear hall
   generalize hx:ex l l.length=x at *
   have HX:=ah hx
   clear hx
   go_wp2
   go_ret
   refine⟨⟨_,rfl,?_⟩,rfl⟩
   simp only [beq_iff_eq]
   unfold Bal
   rw[HX.out]
   exact⟨fun h=>⟨h,HA.out⟩,fun h=>h.1⟩
def BO(bi:Nat)(done:Bool)(lock:Int)(tv:Value)(built:Int):Array Value :=
 #[.pointer (some ⟨bi,0,none⟩),.int .u32 (if done then 1 else 0),.int .i32 lock,.int .u32 0,tv,.int .i64 built]
def D7(l:List Bool)(h:Nat):Prop:=l.length≤512 * 2 ^ h∧∀ j,j<h→512 * 2 ^ j<l.length
theorem D7.ex(l:List Bool):∃ h,D7 l h:=by
 have h0:∃ h,l.length≤512 * 2 ^ h:=⟨l.length,by have:=Nat.lt_two_pow_self (n:=l.length);omega⟩
 obtain⟨h,hh⟩:=h0
 induction h with
 | zero=>exact⟨0,hh,fun j hj=>by omega⟩
 | succ h ih =>
  by_cases hc:l.length≤512 * 2 ^ h
  ·exact ih hc
  ·refine⟨h+1,hh,fun j hj=>?_⟩
   have:2 ^ j≤2 ^ h:=Nat.pow_le_pow_right (by decide) (by omega)
   omega
theorem D7.bound{l:List Bool}{h:Nat}(a:D7 l h)(hl:l.length≤100000000):1≤2 ^ h∧2 ^ h≤400000:=by
 refine⟨Nat.two_pow_pos h,?_⟩
 match h,a with
 | 0,_=>decide
 | h+1,a=>have:=a.2 h (by omega);rw[Nat.pow_succ];omega
def qD(w:World)(done:Bool)(tv:Value)(l:List Bool):Prop :=
 if done then ∃ h g,D7 l h∧tv=.slice (some ⟨g,0,none⟩) (2 * 2 ^ h) (2 * 2 ^ h)∧g<w.heap.size∧∀ k,1≤k→k<2 * 2 ^ h →
  w.cell? ⟨g,k * 2,none⟩=some (.int .i64 (kH l h k))∧w.cell? ⟨g,k * 2+1,none⟩=some (.int .i64 (lV l h k))
 else tv=.slice none 0 0
theorem qD.keeps{w w':World}{done:Bool}{tv:Value}{l:List Bool}{G:Nat→Prop}(h:qD w done tv l)(k:Keeps G w w')(hG:∀ x,tv.ownBlock=some x→¬ G x):qD w' done tv l:=by
 cases done with
 | false=>exact h
 | true =>
  obtain⟨h,g,h1,rfl,hg,h2⟩:=h
  refine⟨h,g,h1,rfl,Nat.lt_of_lt_of_le hg k.size,fun j hj hj2=>?_⟩
  rw[World.cell?_of_block (w:=w) (a:=⟨g,_,none⟩) (k.block g hg (hG g rfl)),World.cell?_of_block (w:=w) (a:=⟨g,_,none⟩) (k.block g hg (hG g rfl))]
  exact h2 j hj hj2
structure eU (w:World)(b:Nat)(l:List Bool)(done:Bool)(q:Nat)(F:Nat→Prop):Prop where
 ex:∃ bi tv FI dI asked,w.heap[b]? = some (.cells (BO bi done 0 tv (if done then 1 else 0)) 335 (0,0))∧bL w bi l dI asked FI∧asked≤q ∧
  (∀ x,FI x→F x)∧F b∧¬ FI b∧(∀ k,tv.ownBlock=some k→F k∧¬ FI k∧k≠b)∧qD w done tv l
 old:∀ k,F k→k<w.heap.size
def aI(w:World)(b:Nat)(l:List Bool)(done:Bool)(q:Nat)(F:Nat→Prop)(w':World):Prop :=
 eU w' b l done q (grow F w w')∧Keeps F w w'
def gY(w:World)(b:Nat)(l:List Bool):Prop:=∃ bi FI dI asked,w.cell? ⟨b,0,none⟩=some (.pointer (some ⟨bi,0,none⟩))∧bL w bi l dI asked FI
theorem eU.idx{w:World}{b:Nat}{l:List Bool}{done:Bool}{q:Nat}{F:Nat→Prop}(h:eU w b l done q F):gY w b l:=by
 obtain⟨⟨bi,tv,FI,dI,asked,hb,hI,_⟩,_⟩:=h
 exact⟨bi,FI,dI,asked,ak hb 0,hI⟩
theorem gY.le{w:World}{b:Nat}{l:List Bool}(h:gY w b l):l.length≤100000000:=by
 obtain⟨bi,FI,dI,asked,_,hI⟩:=h
 exact hI.le
theorem Qt(b:Nat)(l:List Bool)(w:World)(h:gY w b l) :
  Calls Tryz.prog 301 #[.pointer (some ⟨b,0,none⟩)] w fun e w'=>e=.returned (.int .i64 l.length)∧w=w':=by
 obtain⟨bi,FI,dI,asked,c0,hI⟩:=h
 have hL:=KQ bi l dI asked FI w hI
 clear hI
 go_enter Tryz.func301,Tryz.ntmps301
 go_wp2_with (go_at_call 260;refine hL.mono ?_;rintro e w' ⟨rfl,rfl⟩)
 go_ret
 exact⟨rfl,rfl⟩
theorem Uc(b:Nat)(l:List Bool)(i:Int)(w:World)(h:gY w b l) :
  Calls Tryz.prog 303 #[.pointer (some ⟨b,0,none⟩),.int .i64 i] w fun e w'=>e=.returned (.bool (x9 l i == 1))∧w=w':=by
 obtain⟨bi,FI,dI,asked,c0,hI⟩:=h
 have hL:=Qr bi l dI asked FI i w hI
 clear hI
 generalize x9 l i=z at *
 go_enter Tryz.func303,Tryz.ntmps303
 go_wp2_with (go_at_call 282;refine hL.mono ?_;rintro e w' ⟨rfl,rfl⟩)
 go_ret
 exact⟨rfl,rfl⟩
theorem Qu(b:Nat)(l:List Bool)(n:Nat)(w:World)(h:gY w b l)(hn:n<l.length) :
  Calls Tryz.prog 310 #[.pointer (some ⟨b,0,none⟩),.int .i64 n] w fun e w'=>e=.returned (.int .i64 (fJ l n))∧w=w':=by
 obtain⟨bi,FI,dI,asked,c0,hI⟩:=h
 have hL:=Qr bi l dI asked FI n w hI
 have hat:x9 l n=((l.getD n false).toNat:Int):=by
  unfold x9
  rw[if_pos (by omega),Int.toNat_natCast]
 rw[hat] at hL
 have hy:(l.getD n false).toNat≤1:=by cases l.getD n false <;> simp
 clear hI hat
 unfold fJ
 generalize (l.getD n false).toNat=y at *
 go_enter Tryz.func310,Tryz.ntmps310
 go_wp2_with (go_at_call 282;refine hL.mono ?_;rintro e w' ⟨rfl,rfl⟩)
 go_ret
 exact⟨rfl,rfl⟩
theorem Y3(b:Nat)(l:List Bool)(h:Nat)(w:World)(hP:gY w b l)(hh:D7 l h) :
  Calls Tryz.prog 311 #[.pointer (some ⟨b,0,none⟩)] w fun e w'=>e=.returned (.int .i64 ((2 ^ h:Nat):Int))∧w=w':=by
 have hL:=Qt b l w hP
 have hb:=hh.bound hP.le
 have hle:=hP.le
 have HH:=ah hh
 clear hP hh
 go_enter Tryz.func311,Tryz.ntmps311
 go_wp2_with fail
 go_loop [3] (fun n=>∃ j:Nat,j≤h∧n=.int .i64 ((2 ^ j:Nat):Int)) (fun n=>2 ^ h - (intOf n).toNat)
 case atStart=>exact⟨0,Nat.zero_le _,rfl⟩
 case round =>
  obtain⟨j,hj,rfl⟩:=hrel
  have hj1:2 ^ j≤2 ^ h:=Nat.pow_le_pow_right (by decide) hj
  have hj2:=Nat.two_pow_pos j
  by_cases hlt:j<h
  ·have h1:=HH.out.2 j hlt
   have h2:2 ^ (j+1)≤2 ^ h:=Nat.pow_le_pow_right (by decide) hlt
   have h3:2 ^ (j+1)=2 ^ j * 2:=Nat.pow_succ 2 j
   have HT:=ah h3
   rw[h3] at h2
   clear h3
   generalize 2 ^ j=x at *
   go_wp2_with (go_at_call 301;refine hL.mono ?_;rintro e w' ⟨rfl,rfl⟩)
   go_round
   case rel=>exact⟨j+1,by omega,by rw[HT.out];go_num⟩
   case measure=>simp[intOf];omega
  ·obtain rfl:j=h:=by omega
   have h1:=HH.out.1
   clear hj1
   generalize hx:2 ^ j=x at *
   have HX:=ah hx
   clear hx
   go_wp2_with (go_at_call 301;refine hL.mono ?_;rintro e w' ⟨rfl,rfl⟩)
   go_ret
   exact⟨AV (by rw[HX.out]),rfl⟩
theorem q9m(b:Nat)(l:List Bool)(done:Bool)(q:Nat)(F:Nat→Prop)(n:Nat)(w:World)(h:eU w b l done q F)(hq:q≤1000000000000)(hn:n≤l.length) :
  Calls Tryz.prog 302 #[.pointer (some ⟨b,0,none⟩),.int .i64 n] w fun e w'=>e=.returned (.int .i64 (ex l n))∧aI w b l done (q+1) F w':=by
 obtain⟨⟨bi,tv,FI,dI,asked,hb,hI,hq2,yT,Fb,nb,nG,hT⟩,hold⟩:=h
 have hR:=YS bi l dI asked FI 1 n w hI (by omega) (.inr rfl) hn
 have c0:w.cell? ⟨b,0,none⟩=some (.pointer (some ⟨bi,0,none⟩)):=ak hb 0
 have hx:=KR l 1 (.inr rfl) n hn
 have hle:=hI.le
 have hex:2 * rk l 1 n - (n:Int)=ex l n:=by unfold ex;rw[Nat.min_eq_left hn]
 have hfin:∀ w',gX w bi l true (asked+1) FI w'→aI w b l done (q+1) F w':=by
  rintro w' ⟨h1,h2⟩
  refine⟨⟨⟨bi,tv,_,true,asked+1,h2.at hb nb,h1,by omega,?_,.inl Fb,?_,fun k hk=>⟨.inl (nG k hk).1,?_,(nG k hk).2.2⟩,hT.keeps h2 (fun x hx=>(nG x hx).2.1)⟩,q0z hold h2.size⟩,h2.mono (fun x _ hx=>yT x hx)⟩
  ·rintro x (hx|hx)
   ·exact .inl (yT x hx)
   ·exact .inr hx
  ·rintro (hx|hx)
   ·exact nb hx
   ·have:=lt_of_block hb;omega
  ·rintro (hx|hx)
   ·exact (nG k hk).2.1 hx
   ·have:=hold k (nG k hk).1;omega
 have HF:=ah (aj hfin hex)
 clear hI hb hT nG hfin hex
 generalize rk l 1 n=x at *
 go_enter Tryz.func302,Tryz.ntmps302
 go_wp2_with (go_at_call 284;refine hR.mono ?_;rintro e w1 ⟨rfl,hA⟩)
 go_ret
 exact⟨AV HF.out.2,HF.out.1 _ hA⟩
end
section
open Go.RowKit
theorem qec(b2:Nat)(v2:Value)(l2:List Bool)(w:World)(h2:aK w b2 v2 l2)(hl:l2.length≤100000000)(hB:Bal l2) :
  Calls Tryz.prog 213 #[.pointer (some ⟨b2,0,none⟩)] w fun e w'=>∃ b,e=.returned (.tuple #[.pointer (some ⟨b,0,none⟩),.int .i64 0])∧eU w' b l2 false 0 (fun k=>w.heap.size≤k∧k<w'.heap.size)∧Keeps (fun _=>False) w w':=by
 have hb:=Y2 b2 v2 l2 w h2 hl
 have hN:=TM b2 v2 l2 w h2 hl
 have hnot:∀ (x:Bool) (w:World),(Op.unary .not (.bool x)).run Tryz.prog w=.ok (.bool (!x)) w:=fun _ _=>rfl
 have HB:=ah hB
 clear hB h2
 go_enter Tryz.func213,Tryz.ntmps213
 go_wp2_with fail
 refine hb.mono ?_
 rintro e w0 ⟨⟨t,rfl,ht⟩,rfl⟩
 obtain rfl:t=true:=ht.2 HB.out
 clear ht hb
 go_wp2_with fail
 refine hN.mono ?_
 rintro e w1 ⟨bi,rfl,hI,hk⟩
 have HI:=ah (aj hI hk)
 clear hI hk hN
 go_wp2
 go_ret2
 obtain⟨hI,hk⟩:=HI.out
 have k2:=(Keeps.refl (fun _=>False) w1).alloc (.cells (BO bi false 0 (.slice none 0 0) 0) 335)
 have hs:=hk.size
 refine⟨w1.heap.size,rfl,⟨⟨bi,.slice none 0 0,_,false,0,heap_alloc_new w1 _,hI.keeps k2 (fun _ _ h=>h),by omega,?_,?_,?_,?_,rfl⟩,fun k hk=>hk.2⟩,hk.alloc _⟩
 ·rintro x hx
  simp;omega
 ·simp;omega
 ·omega
 ·intro k hk;simp[Value.ownBlock] at hk
theorem qh0(b2:Nat)(v2:Value)(l2:List Bool)(w:World)(h2:aK w b2 v2 l2)(hl:l2.length≤100000000)(hB:¬ Bal l2) :
  Calls Tryz.prog 213 #[.pointer (some ⟨b2,0,none⟩)] w fun e w'=>e=.returned (.tuple #[.pointer none,.int .i64 9])∧w=w':=by
 have hb:=Y2 b2 v2 l2 w h2 hl
 have hnot:∀ (x:Bool) (w:World),(Op.unary .not (.bool x)).run Tryz.prog w=.ok (.bool (!x)) w:=fun _ _=>rfl
 have HB:=ah hB
 clear hB h2
 go_enter Tryz.func213,Tryz.ntmps213
 go_wp2_with fail
 refine hb.mono ?_
 rintro e w0 ⟨⟨t,rfl,ht⟩,rfl⟩
 obtain rfl:t=false:=by cases t with
  | false=>rfl
  | true=>exact absurd (ht.1 rfl) HB.out
 clear ht hb
 go_wp2
 go_ret2
 exact⟨rfl,rfl⟩
theorem eU.mono{w:World}{b:Nat}{l:List Bool}{done:Bool}{q:Nat}{F G:Nat→Prop}(h:eU w b l done q F)(hG:∀ x,F x→G x)(hold:∀ x,G x→x<w.heap.size):eU w b l done q G:=by
 obtain⟨⟨bi,tv,FI,dI,asked,hb,hI,hq,yT,Fb,nb,nG,hT⟩,_⟩:=h
 exact⟨⟨bi,tv,FI,dI,asked,hb,hI,hq,fun x hx=>hG x (yT x hx),hG b Fb,nb,fun k hk=>⟨hG k (nG k hk).1,(nG k hk).2⟩,hT⟩,hold⟩
theorem eU.more{w:World}{b:Nat}{l:List Bool}{done:Bool}{q q':Nat}{F:Nat→Prop}(h:eU w b l done q F)(hq:q≤q'):eU w b l done q' F:=by
 obtain⟨⟨bi,tv,FI,dI,asked,hb,hI,hq2,r⟩,hold⟩:=h
 exact⟨⟨bi,tv,FI,dI,asked,hb,hI,by omega,r⟩,hold⟩
theorem eU.keeps{w w':World}{b:Nat}{l:List Bool}{done:Bool}{q:Nat}{F G:Nat→Prop}(h:eU w b l done q F)(k:Keeps G w w')(hd:∀ x,F x→¬ G x):eU w' b l done q F:=by
 obtain⟨⟨bi,tv,FI,dI,asked,hb,hI,hq,yT,Fb,nb,nG,hT⟩,hold⟩:=h
 exact⟨⟨bi,tv,FI,dI,asked,k.at hb (hd b Fb),hI.keeps k (fun x hx=>hd x (yT x hx)),hq,yT,Fb,nb,nG,hT.keeps k (fun x hx=>hd x (nG x hx).1)⟩,fun x hx=>Nat.lt_of_lt_of_le (hold x hx) k.size⟩
theorem eU.after{w:World}{b:Nat}{l:List Bool}{done:Bool}{q:Nat}{F:Nat→Prop}(h:eU w b l done q F):aI w b l done q F w :=
 ⟨h.mono (fun _ hx=>.inl hx) (q0z h.old (Nat.le_refl _)),Keeps.refl _ _⟩
theorem aI.more{wh w:World}{b:Nat}{l:List Bool}{done:Bool}{q q':Nat}{F:Nat→Prop}(h:aI wh b l done q F w)(hq:q≤q'):aI wh b l done q' F w:=⟨h.1.more hq,h.2⟩
theorem aI.trans{wh w1 w2:World}{b:Nat}{l:List Bool}{done done':Bool}{q q':Nat}{F:Nat→Prop}(hF:∀ x,F x→x<wh.heap.size)(h:aI wh b l done q F w1)(k:aI w1 b l done' q' (grow F wh w1) w2):aI wh b l done' q' F w2:=by
 obtain⟨h1,h2⟩:=h
 obtain⟨k1,k2⟩:=k
 refine⟨k1.mono (TQ h2.size k2.size) (q0z hF (Nat.le_trans h2.size k2.size)),h2.trans k2 ?_⟩
 rintro x hx (h|h)
 ·exact h
 ·omega
theorem aI.keeps{wh w1 w2:World}{b:Nat}{l:List Bool}{done:Bool}{q:Nat}{F G:Nat→Prop}(h:aI wh b l done q F w1)(k:Keeps G w1 w2)(hG:∀ x,x<w1.heap.size→¬ G x):aI wh b l done q F w2:=by
 obtain⟨h1,h2⟩:=h
 refine⟨(h1.keeps k (fun x hx=>hG x (h1.old x hx))).mono ?_ ?_,h2.trans k (fun x hx hg=>absurd hg (hG x (Nat.lt_of_lt_of_le hx h2.size)))⟩
 ·rintro x (h|h)
  ·exact .inl h
  ·exact .inr ⟨h.1,Nat.lt_of_lt_of_le h.2 k.size⟩
 ·rintro x (h|h)
  ·exact Nat.lt_of_lt_of_le (h1.old x (.inl h)) k.size
  ·exact h.2
theorem aI.idx{wh w:World}{b:Nat}{l:List Bool}{done:Bool}{q:Nat}{F:Nat→Prop}(h:aI wh b l done q F w):gY w b l:=h.1.idx
theorem q16{wh wr:World}{b:Nat}{l:List Bool}{done:Bool}{q:Nat}{F:Nat→Prop}(hF:∀ x,F x→x<wh.heap.size)(h:aI wh b l done q F wr)(n:Nat)(hq:q≤1000000000000)(hn:n≤l.length) :
  Calls Tryz.prog 302 #[.pointer (some ⟨b,0,none⟩),.int .i64 n] wr fun e w'=>e=.returned (.int .i64 (ex l n))∧aI wh b l done (q+1) F w' :=
 (q9m b l done q _ n wr h.1 hq hn).mono fun _ _ ⟨he,hw⟩=>⟨he,h.trans hF hw⟩
theorem qih{wh wr:World}{b:Nat}{l:List Bool}{done:Bool}{q:Nat}{F:Nat→Prop}(hF:∀ x,F x→x<wh.heap.size)(h:aI wh b l done q F wr)(n:Nat)(hq:q≤1000000000000)(hn:n≤l.length) :
  Calls Tryz.prog 287 #[.pointer (some ⟨b,0,none⟩),.int .i64 n] wr fun e w'=>e=.returned (.tuple #[.int .i64 (ex l n),.int .i64 0])∧aI wh b l done (q+1) F w':=by
 have hL:=Qt b l wr h.idx
 have hE:=q16 hF h n hq hn
 have hle:=h.idx.le
 clear h hF
 go_enter Tryz.func287,Tryz.ntmps287
 go_wp2_with (first | (go_at_call 301;refine hL.mono ?_;rintro e w' ⟨rfl,rfl⟩) | (go_at_call 302;refine hE.mono ?_;rintro e w' ⟨rfl,hA⟩))
 go_ret2
 exact⟨rfl,hA⟩
end
section
open Go.RowKit
structure TL (L:Nat)(ts tw:Nat→Nat):Prop where
 up:∀ k,2≤k→k<2 * L→k % 2=1→ts (k / 2)+tw (k / 2)=ts k+tw k
 right:∀ k,2≤k→k<2 * L→k % 2=0→ts (k+1)=ts k+tw k
 kids:∀ k,1≤k→k<L→ts (2 * k)=ts k∧ts (2 * k+1)=ts k+tw (2 * k)∧tw (2 * k+1)=tw (2 * k)∧tw k=tw (2 * k)+tw (2 * k)
 leaf:∀ b,b<L→ts (L+b)=512 * b
 KU:∀ b,b<L→tw (L+b)=512
 root:ts 1+tw 1=512 * L
 pos:∀ k,512≤tw k
theorem TL.of(h:Nat):TL (2 ^ h) (o9 h) (oU h) :=
 ⟨tup h,qon h,sj h,Y0 h,Y1 h,by rw[qea,qeb];omega,qgy h⟩
theorem Y4{w:World}{b:Nat}{l:List Bool}{q:Nat}{F:Nat→Prop}(h:eU w b l true q F) :
  ∃ L ts tw g,TL L ts tw∧l.length≤512 * L∧1≤L∧L≤400000∧w.cell? ⟨b,4,none⟩=some (.slice (some ⟨g,0,none⟩) (2 * L) (2 * L))∧F g ∧
   (∀ W,gY W b l→Calls Tryz.prog 311 #[.pointer (some ⟨b,0,none⟩)] W fun e w'=>e=.returned (.int .i64 L)∧W=w') ∧
   ∀ k,1≤k→k<2 * L→w.cell? ⟨g,k * 2,none⟩=some (.int .i64 (ex l (ts k+tw k) - ex l (ts k)))∧w.cell? ⟨g,k * 2+1,none⟩=some (.int .i64 (dG l (ts k) (tw k))):=by
 have hle:=h.idx.le
 obtain⟨⟨bi,tv,FI,dI,asked,hb,hI,hq,yT,Fb,nb,nG,h,g,hh,rfl,hg,hc⟩,hold⟩:=h
 exact⟨2 ^ h,o9 h,oU h,g,TL.of h,hh.1,(hh.bound hle).1,(hh.bound hle).2,ak hb 4,(nG g rfl).1,fun W hW=>Y3 b l h W hW hh,hc⟩
theorem Qv(l:List Bool)(a m:Nat)(h:l.length≤100000000):-200000000≤dG l a m∧dG l a m≤0:=by
 have:=YZ l a m
 have:=YW l a m
 omega
theorem qij{wh wr:World}{b:Nat}{l:List Bool}{q:Nat}{F:Nat→Prop}(hF:∀ x,F x→x<wh.heap.size)(h:aI wh b l true q F wr)(i T:Nat)(hq:q<1000000000000)(hT:kF l i T) :
  Calls Tryz.prog 308 #[.pointer (some ⟨b,0,none⟩),.int .i64 i] wr fun e w'=>e=.returned (.int .i64 T)∧aI wh b l true (q+2) F w':=by
 have hle:=h.idx.le
 have FX:=hT.lt
 have Ud:=hT.le
 have hE1:=q16 hF h i (by omega) (by omega)
 have hxi:=nR l i hle
 have HT:=ah hT
 clear hT h
 obtain⟨y,hy⟩:∃ y,ex l i=y:=⟨_,rfl⟩
 have HY:=ah hy
 rw[hy] at hE1 hxi
 clear hy
 go_enter Tryz.func308,Tryz.ntmps308
 go_wp2_with fail
 refine hE1.mono ?_
 rintro e w1 ⟨rfl,h1⟩
 have hE2:=q16 hF h1 i (by omega) (by omega)
 rw[HY.out] at hE2
 clear h1 hE1
 go_wp2_with fail
 refine hE2.mono ?_
 rintro e w2 ⟨rfl,h2⟩
 clear hE2
 have hP:=h2.idx
 obtain⟨L,ts,tw,g,hTL,hnL,hL1,hL2,c4,_,wJ,su⟩:=Y4 h2.1
 have wJ:=wJ w2 hP
 have H2:=ah (aj h2 (aj hTL su))
 clear h2 hTL su
 go_wp2_with fail
 go_loop [6,7] (fun at' e=>∃ k:Nat,i≤k∧k<T∧at'=.int .i64 k∧e=.int .i64 (ex l k)) (fun at' _=>T - (intOf at').toNat)
 case atStart=>exact⟨i,Nat.le_refl _,FX,rfl,by rw[HY.out]⟩
 case round =>
  obtain⟨k,hk1,hk2,rfl,rfl⟩:=hrel
  have hxk:=nR l k hle
  by_cases hc:¬ (k:Int) % 512=0∨k=i
  ·have hS:=Qu b l k w2 hP (by omega)
   have hsc:=KS l k
   have hs:=FU l (p:=k) (by omega)
   have hiff:=HT.out.iff (p:=k+1) (by omega) (by omega)
   rw[HY.out,hs] at hiff
   have HS:=ah hs
   clear hs
   by_cases hend:k+1=T
   ·have te:(ex l k+fJ l k == y - 1)=true:=by rw[beq_iff_eq];exact hiff.2 hend
    clear hiff
    generalize ex l k=x at *
    generalize fJ l k=z at *
    rcases hc with hc|rfl
    ·have tm:((k:Int) % 512 != 0)=true:=by simp only [bne_iff_ne];exact hc
     go_wp2_with (go_at_call 310;refine hS.mono ?_;rintro e w' ⟨rfl,rfl⟩)
     go_ret
     exact⟨AV (by omega),H2.out.1⟩
    ·by_cases hc:(k:Int) % 512=0
     ·have tm:((k:Int) % 512 != 0)=false:=by simp only [bne_eq_false_iff_eq];exact hc
      go_wp2_with (go_at_call 310;refine hS.mono ?_;rintro e w' ⟨rfl,rfl⟩)
      go_ret
      exact⟨AV (by omega),H2.out.1⟩
     ·have tm:((k:Int) % 512 != 0)=true:=by simp only [bne_iff_ne];exact hc
      go_wp2_with (go_at_call 310;refine hS.mono ?_;rintro e w' ⟨rfl,rfl⟩)
      go_ret
      exact⟨AV (by omega),H2.out.1⟩
   ·have te:(ex l k+fJ l k == y - 1)=false:=by rw[beq_eq_false_iff_ne];exact fun h=>hend (hiff.1 h)
    clear hiff
    generalize ex l k=x at *
    generalize fJ l k=z at *
    rcases hc with hc|rfl
    ·have tm:((k:Int) % 512 != 0)=true:=by simp only [bne_iff_ne];exact hc
     go_wp2_with (go_at_call 310;refine hS.mono ?_;rintro e w' ⟨rfl,rfl⟩)
     go_round
     case rel=>exact⟨k+1,by omega,by omega,by go_num,by rw[HS.out]⟩
     case measure=>simp[intOf];omega
    ·by_cases hc:(k:Int) % 512=0
     ·have tm:((k:Int) % 512 != 0)=false:=by simp only [bne_eq_false_iff_eq];exact hc
      go_wp2_with (go_at_call 310;refine hS.mono ?_;rintro e w' ⟨rfl,rfl⟩)
      go_round
      case rel=>exact⟨k+1,by omega,by omega,by go_num,by rw[HS.out]⟩
      case measure=>simp[intOf];omega
     ·have tm:((k:Int) % 512 != 0)=true:=by simp only [bne_iff_ne];exact hc
      go_wp2_with (go_at_call 310;refine hS.mono ?_;rintro e w' ⟨rfl,rfl⟩)
      go_round
      case rel=>exact⟨k+1,by omega,by omega,by go_num,by rw[HS.out]⟩
      case measure=>simp[intOf];omega
  ·have hm:(k:Int) % 512=0:=Decidable.not_not.1 (fun h=>hc (.inl h))
   have hki:¬ k=i:=fun h=>hc (.inr h)
   clear hc
   have tm:((k:Int) % 512 != 0)=false:=by simp only [bne_eq_false_iff_eq];exact hm
   have ti:((k:Int) == (i:Int))=false:=by simp only [beq_eq_false_iff_ne];omega
   have hkL:k / 512<L:=by omega
   have hst:ts (L+k / 512)=k:=by rw[H2.out.2.1.leaf _ hkL];omega
   have HST:=ah hst
   clear hst
   obtain⟨x,hx⟩:∃ x,ex l k=x:=⟨_,rfl⟩
   have HX:=ah hx
   rw[hx]
   clear hx
   go_wp2_with (go_at_call 311;refine wJ.mono ?_;rintro e w' ⟨rfl,rfl⟩)
   go_loop [7,8] (fun e kk=>∃ j:Nat,1≤j∧j<2 * L∧i≤ts j∧ts j<T∧kk=.int .i64 j∧e=.int .i64 (ex l (ts j))) (fun _ kk=>512 * L - ts (intOf kk).toNat)
   case atStart=>exact⟨L+k / 512,by omega,by omega,by rw[HST.out];omega,by rw[HST.out];omega,by go_num,by rw[HST.out,HX.out]⟩
   case round =>
    obtain⟨j,hj1,hj2,hj3,hj4,rfl,rfl⟩:=hrel
    obtain⟨n0,n1⟩:=H2.out.2.2 j hj1 hj2
    obtain⟨hp1,hp2⟩:=HT.out.pass (a:=ts j) (m:=tw j) hj3
    rw[HY.out] at hp1 hp2
    have hb1:=nR l (ts j) hle
    have hb2:=nR l (ts j+tw j) hle
    have hb3:=Qv l (ts j) (tw j) hle
    by_cases hgo:ex l (ts j)+dG l (ts j) (tw j) > y - 1
    ·have hQ:ts j+tw j<T:=by
      have:=hp1 hgo
      omega
     have hpos:=H2.out.2.1.pos j
     have HQ:=ah (aj hQ hpos)
     obtain⟨Q,Ue⟩:∃ Q,Q=ts j+tw j:=⟨_,rfl⟩
     rw[← Ue] at n0 hb2 hQ
     have HD:=ah Ue
     clear hp1 hp2 Ue hpos
     generalize hxs:ex l (ts j)=xs at *
     generalize KW:ex l Q=xq at *
     generalize dG l (ts j) (tw j)=lo at *
     have BP:=ah (aj hxs KW)
     clear hxs KW
     go_wp2
     go_loop [8] (fun kk=>∃ m:Nat,1≤m∧m<2 * L∧ts m+tw m=Q∧kk=.int .i64 m) (fun kk=>(intOf kk).toNat)
     case atStart=>exact⟨j,hj1,hj2,HD.out.symm,rfl⟩
     case round =>
      obtain⟨m,hm1,hm2,yU,rfl⟩:=hrel
      have FY:2≤m:=by
       rcases Nat.lt_or_ge 1 m with h|h
       ·exact h
       ·obtain rfl:m=1:=by omega
        have:=H2.out.2.1.root
        omega
      clear n0 n1
      by_cases hodd:m % 2=1
      ·have to:((m:Int) % 2 == 1)=true:=by rw[beq_iff_eq];omega
       have hup:=H2.out.2.1.up m FY hm2 hodd
       have HU:=ah (hup.trans yU)
       clear hup yU
       go_wp2
       go_round
       case rel=>exact⟨m / 2,by omega,by omega,HU.out,by go_num⟩
       case measure=>simp[intOf];omega
      ·have to:((m:Int) % 2 == 1)=false:=by rw[beq_eq_false_iff_ne];omega
       have Y5:=H2.out.2.1.right m FY hm2 (by omega)
       have HU:=ah (Y5.trans yU)
       clear Y5 yU
       go_wp2
       go_round
       case rel =>
        have h2:=HD.out
        exact⟨m+1,by omega,by omega,by rw[HU.out];omega,by rw[HU.out];exact hQ,by go_num,by rw[HU.out,BP.out.2];go_num⟩
       case measure =>
        have h1:=HU.out
        have h2:=HD.out
        have h3:=HQ.out
        simp[intOf]
        rw[h1]
        omega
    ·have hQ:=hp2 hgo
     have KX:decide (ex l (ts j)+dG l (ts j) (tw j) > y - 1)=false:=decide_eq_false hgo
     clear hp1 hp2 hgo
     generalize hxs:ex l (ts j)=xs at *
     generalize dG l (ts j) (tw j)=lo at *
     have BP:=ah hxs
     clear hxs
     go_wp2
     clear n0 n1 hb2 hb3
     go_loop [7,8] (fun e kk=>∃ m:Nat,1≤m∧m<2 * L∧i≤ts m∧ts m<T∧T≤ts m+tw m∧kk=.int .i64 m∧e=.int .i64 (ex l (ts m))) (fun _ kk=>2 * L - (intOf kk).toNat)
     case atStart=>exact⟨j,hj1,hj2,hj3,hj4,hQ,rfl,by rw[BP.out]⟩
     case round =>
      obtain⟨m,hm1,hm2,yU,FY,Y6,rfl,rfl⟩:=hrel
      clear hb1
      have hb1:=nR l (ts m) hle
      by_cases hin:m<L
      ·obtain⟨k1,k2,k3,k4⟩:=H2.out.2.1.kids m hm1 hin
       obtain⟨n0,n1⟩:=H2.out.2.2 (m * 2) (by omega) (by omega)
       rw[Nat.mul_comm 2 m] at k1 k2 k3 k4
       rw[k1] at n0 n1
       obtain⟨hp1,hp2⟩:=HT.out.pass (a:=ts m) (m:=tw (m * 2)) yU
       rw[HY.out] at hp1 hp2
       have hb2:=nR l (ts m+tw (m * 2)) hle
       have hb3:=Qv l (ts m) (tw (m * 2)) hle
       have HK:=ah (aj k1 (aj k2 (aj k3 k4)))
       have hpos:=H2.out.2.1.pos (m * 2)
       by_cases hgo:ex l (ts m)+dG l (ts m) (tw (m * 2)) > y - 1
       ·have Uf:ts m+tw (m * 2)<T:=by
         have:=hp1 hgo
         omega
        have KX:decide (ex l (ts m)+dG l (ts m) (tw (m * 2)) > y - 1)=true:=decide_eq_true hgo
        clear hp1 hp2 hgo k1 k2 k3 k4
        generalize hxs:ex l (ts m)=xs at *
        generalize KW:ex l (ts m+tw (m * 2))=xq at *
        generalize dG l (ts m) (tw (m * 2))=lo at *
        have BP:=ah (aj hxs KW)
        clear hxs KW
        go_wp2_with (go_at_call 311;refine wJ.mono ?_;rintro e w' ⟨rfl,rfl⟩)
        go_round
        case rel=>exact⟨m * 2+1,by omega,by omega,by rw[HK.out.2.1];omega,by rw[HK.out.2.1];exact Uf,by rw[HK.out.2.1,HK.out.2.2.1];have:=HK.out.2.2.2;omega,by go_num,by rw[HK.out.2.1,BP.out.2];go_num⟩
        case measure=>simp[intOf];omega
       ·have Uf:=hp2 hgo
        have KX:decide (ex l (ts m)+dG l (ts m) (tw (m * 2)) > y - 1)=false:=decide_eq_false hgo
        clear hp1 hp2 hgo k1 k2 k3 k4
        generalize hxs:ex l (ts m)=xs at *
        generalize dG l (ts m) (tw (m * 2))=lo at *
        have BP:=ah hxs
        clear hxs
        go_wp2_with (go_at_call 311;refine wJ.mono ?_;rintro e w' ⟨rfl,rfl⟩)
        go_round
        case rel=>exact⟨m * 2,by omega,by omega,by rw[HK.out.1];omega,by rw[HK.out.1];exact FY,by rw[HK.out.1];exact Uf,by go_num,by rw[HK.out.1,BP.out]⟩
        case measure=>simp[intOf];omega
      ·obtain⟨c,rfl⟩:∃ c,m=L+c:=⟨m - L,by omega⟩
       have hl1:=H2.out.2.1.leaf c (by omega)
       rw[hl1] at yU FY hb1 ⊢
       clear Y6 hl1
       generalize hxs:ex l (512 * c)=xs at *
       have BP:=ah hxs
       clear hxs
       go_wp2_with (go_at_call 311;refine wJ.mono ?_;rintro e w' ⟨rfl,rfl⟩)
       go_loop [6,7] (fun at' e=>∃ p:Nat,i≤p∧p≤T∧at'=.int .i64 p∧e=.int .i64 (ex l p)) (fun at' _=>T - (intOf at').toNat)
       case atStart=>exact⟨512 * c,by omega,by omega,by go_num,by rw[BP.out]⟩
       case round =>
        obtain⟨p,hp1,hp2,rfl,rfl⟩:=hrel
        have hxp:=nR l p hle
        have hiff:=HT.out.iff (p:=p) hp1 hp2
        rw[HY.out] at hiff
        by_cases hend:p=T
        ·have hxT:=hiff.2 hend
         have te:decide (ex l p > y - 1)=false:=decide_eq_false (by omega)
         clear hiff
         generalize ex l p=x at *
         go_wp2
         go_ret
         exact⟨AV (by omega),H2.out.1⟩
        ·have hab:=HT.out.above p hp1 (by omega)
         rw[HY.out] at hab
         have te:decide (ex l p > y - 1)=true:=decide_eq_true (by omega)
         have hS:=Qu b l p w2 hP (by omega)
         have hsc:=KS l p
         have hs:=FU l (p:=p) (by omega)
         have HS:=ah hs
         clear hs hiff
         generalize ex l p=x at *
         generalize fJ l p=z at *
         go_wp2_with (go_at_call 310;refine hS.mono ?_;rintro e w' ⟨rfl,rfl⟩)
         go_round
         case rel=>exact⟨p+1,by omega,by omega,by go_num,by rw[HS.out]⟩
         case measure=>simp[intOf];omega
end
section
open Go.RowKit
theorem gY.keeps{w w':World}{b:Nat}{l:List Bool}(h:gY w b l)(k:Keeps (fun _=>False) w w')(hb:b<w.heap.size):gY w' b l:=by
 obtain⟨bi,FI,dI,asd,hc0,hI⟩:=h
 refine⟨bi,FI,dI,asd,?_,hI.keeps k (fun _ _ h=>h)⟩
 rw[World.cell?_of_block (w:=w) (a:=⟨b,0,none⟩) (k.block b hb (fun h=>h))]
 exact hc0
theorem gY.lt{w:World}{b:Nat}{l:List Bool}(h:gY w b l):b<w.heap.size:=by
 obtain⟨bi,FI,dI,asd,hc0,hI⟩:=h
 exact World.block_lt_of_cell? w ⟨b,0,none⟩ hc0
theorem gY.drew{w:World}{b:Nat}{l:List Bool}(h:gY w b l):gY w.drew b l:=h.keeps ((Keeps.refl _ w).drew) h.lt
theorem gY.alloc{w:World}{b:Nat}{l:List Bool}(h:gY w b l)(o:Obj):gY (w.alloc o) b l:=h.keeps ((Keeps.refl _ w).alloc o) h.lt
theorem Ug{wh wr:World}{b:Nat}{l:List Bool}{q:Nat}{F:Nat→Prop}(hF:∀ x,F x→x<wh.heap.size)(h:aI wh b l true q F wr)(i B:Nat)(want:Int)(hq:q≤1000000000000)(hB:cK l i want B) :
  Calls Tryz.prog 304 #[.pointer (some ⟨b,0,none⟩),.int .i64 i,.int .i64 want] wr fun e w'=>e=.returned (.int .i64 B)∧aI wh b l true (q+1) F w':=by
 have hle:=h.idx.le
 have hBi:=hB.lt
 have hin:=hB.le
 have hwt:=nR l B hle
 rw[hB.hit] at hwt
 have hE1:=q16 hF h i (by omega) (by omega)
 have HB:=ah hB
 clear hB h
 go_enter Tryz.func304,Tryz.ntmps304
 go_wp2_with fail
 refine hE1.mono ?_
 rintro e w1 ⟨rfl,h1⟩
 clear hE1
 have hxi:=nR l i hle
 go_wp2_with fail
 clear hxi
 go_loopw [7,8] (fun at' e wq=>∃ k:Nat,B<k∧k≤i∧at'=.int .i64 k∧e=.int .i64 (ex l k)∧aI wh b l true (q+1) F wq) (fun at' _ _=>(intOf at').toNat)
 case atStart=>exact⟨i,hBi,Nat.le_refl _,rfl,rfl,h1⟩
 case round =>
  obtain⟨k,hk1,hk2,rfl,rfl,hA⟩:=hrel
  clear h1
  obtain⟨p,hkp⟩:∃ p,k=p+1:=⟨k - 1,by omega⟩
  have hkz:(k:Int) - 1=(p:Int):=by omega
  have hxk:=nR l k hle
  have hxp:=nR l p hle
  have hP:=hA.idx
  have hS:=Qu b l p wr hP (by omega)
  have hsc:=KS l p
  have hs:=FU l (p:=p) (by omega)
  rw[← hkp] at hs
  have hiff:=HB.out.iff (p:=p) (by omega) (by omega)
  have hs2:ex l k - fJ l p=ex l p:=by omega
  have HS:=ah hs2
  clear hkp
  have HA:=ah hA
  clear hA
  by_cases hend:p=B
  ·have te:(ex l k - fJ l p == want)=true:=by rw[hs2,beq_iff_eq];exact hiff.2 hend
   clear hiff hs hs2 hxp
   have HE:=ah hend
   clear hend
   generalize ex l k=x at *
   generalize fJ l p=z at *
   go_wp2_with fail
   refine hS.mono ?_
   rintro e w' ⟨rfl,rfl⟩
   go_wp2
   go_ret
   exact⟨AV (by rw[HE.out]),HA.out⟩
  ·have te:(ex l k - fJ l p == want)=false:=by rw[hs2,beq_eq_false_iff_ne];exact fun h=>hend (hiff.1 h)
   have tz:((p:Int) == 0)=false:=by rw[beq_eq_false_iff_ne];omega
   clear hiff hs hs2 hxp
   generalize ex l k=x at *
   generalize fJ l p=z at *
   by_cases hm:(p:Int) % 512=0
   ·have tm:((p:Int) % 512 != 0)=false:=by simp only [bne_eq_false_iff_eq];exact hm
    obtain⟨c,hcp⟩:∃ c,p=512 * (c+1):=⟨p / 512 - 1,by omega⟩
    have BQ:=ah hcp
    clear hcp
    go_wp2_with fail
    refine hS.mono ?_
    rintro e w' ⟨rfl,rfl⟩
    go_wp2_with fail
    clear hS hP
    go_loopw [7,8,9] (fun at' e bb wq=>∃ d:Nat,at'=.int .i64 (512 * (d+1):Nat)∧bb=.int .i64 d∧e=.int .i64 (ex l (512 * (d+1)))∧B<512 * (d+1)∧512 * (d+1)≤512 * (c+1)∧aI wh b l true (q+1) F wq) (fun _ _ bb _=>(intOf bb).toNat)
    case atStart=>exact⟨c,by rw[← BQ.out],by have h:=BQ.out;go_num,by rw[HS.out,BQ.out],by have h:=BQ.out;omega,by omega,HA.out⟩
    case round =>
     obtain⟨d,rfl,rfl,rfl,hd1,hd2,hA⟩:=hrel
     by_cases hd0:d=0
     ·subst hd0
      go_wp2
      go_roundw
      case rel=>exact⟨512 * (0+1),by omega,by have h:=BQ.out;omega,by go_num,rfl,hA⟩
      case measure=>have h:=BQ.out;simp[intOf];omega
     ·have hP:=hA.idx
      have hx1:=nR l (512 * (d+1)) hle
      obtain⟨L,ts,tw,g,hTL,hnL,hL1,hL2,c4,_,wJ,su⟩:=Y4 hA.1
      have hdL:d<L:=by have h:=BQ.out;omega
      obtain⟨n0,n1⟩:=su (L+d) (by omega) (by omega)
      rw[hTL.leaf d (by omega),hTL.KU d (by omega)] at n0 n1
      have hp:=HB.out.pass (a:=512 * d) (m:=512) (by omega)
      have hx0:=nR l (512 * d) hle
      have hlo:=Qv l (512 * d) 512 hle
      rw[show 512 * d+512=512 * (d+1) by omega] at n0
      have H2:=ah hA
      have hkc:512 * (c+1)<k:=by have h:=BQ.out;omega
      clear hA su hTL
      generalize KY:ex l (512 * (d+1))=x1 at *
      generalize hx0':ex l (512 * d)=x0 at *
      generalize dG l (512 * d) 512=lo at *
      have HX:=ah (aj KY (aj hx0' hp))
      clear KY hx0'
      go_wp2_with fail
      have FZ:=hP.drew
      obtain⟨m,hm'⟩:∃ m,m=L+d:=⟨_,rfl⟩
      have hlt2:m<2 * L:=by omega
      have hm0:(0:Int)≤(m:Int):=by omega
      have hm1:(m:Int)<2 * (L:Int):=by omega
      have hsum:IntKind.i64.wrap ((L:Int)+(d:Int))=(m:Int):=by rw[IntWalk.i64_in _ (by omega)];omega
      rw[← hm'] at n0 n1
      have HM:=ah hm'
      clear hm'
      have al:∀ (o:Obj) (a:Addr) (v:Value),wr.cell? a=some v→(wr.drew.alloc o).cell? a=some v:=fun o a v h=>by
       rw[World.cell?_of_block (w:=wr) (((Keeps.refl (fun _=>False) wr).drew.alloc o).block a.block (World.block_lt_of_cell? wr a h) (fun h=>h))]
       exact h
      have Y7:=fun o=>al o _ _ c4
      have Y8:=fun o=>al o _ _ n0
      have n1':=fun o=>al o _ _ n1
      clear hP al
      have Gf:wr.drew.cell? ⟨b,4,none⟩=some (.slice (some ⟨g,0,none⟩) (2 * L) (2 * L)):=c4
      have Gg:wr.drew.cell? ⟨g,m * 2,none⟩=some (.int .i64 (x1 - x0)):=n0
      have Gh:wr.drew.cell? ⟨g,m * 2+1,none⟩=some (.int .i64 (lo)):=n1
      go_region_held3 (fun w'=>w'.cell? ⟨b,4,none⟩=some (.slice (some ⟨g,0,none⟩) (2 * L) (2 * L))∧w'.cell? ⟨g,m * 2,none⟩=some (.int .i64 (x1 - x0))∧w'.cell? ⟨g,m * 2+1,none⟩=some (.int .i64 (lo))∧gY w' b l) (first|exact⟨Gf,Gg,Gh,FZ⟩|exact⟨Y7 _,Y8 _,n1' _,FZ.alloc _⟩) ((go_at_call 311;refine (wJ _ ?_).mono ?_;(first|exact FZ|exact FZ.alloc _|assumption);rintro e w' ⟨rfl,rfl⟩))
      all_goals
       have BR:aI wh b l true (q+1) F ((wr.alloc (.cells #[.int .i64 (x1 - x0),.int .i64 lo] 373)).drew):=H2.out.keeps (((Keeps.refl (fun _=>False) wr).alloc _).drew) (fun _ _ h=>h)
       have Y9:=ah BR
       clear BR FZ c4 Y7 Gf n0 Y8 Gg n1 n1' Gh hsum hm0 hm1 hlt2 wJ hp
       by_cases hbr:x0+lo≤want
       ·have tb:decide (x1 - (x1 - x0)+lo≤want)=true:=decide_eq_true (by omega)
        go_wp2
        go_roundw
        case rel=>exact⟨512 * (d+1),hd1,by have h:=BQ.out;omega,by go_num,by rw[HX.out.1],Y9.out⟩
        case measure=>simp[intOf];omega
       ·have tb:decide (x1 - (x1 - x0)+lo≤want)=false:=decide_eq_false (by omega)
        have Za:=HX.out.2.2 (by omega)
        go_wp2
        refine⟨⟨.int .i64 (512 * ((d:Int)+1) - 512),.int .i64 (x1 - (x1 - x0)),.int .i64 ((d:Int) - 1),⟨d - 1,by go_num,by go_num,by rw[show d - 1+1=d by omega,HX.out.2.1];go_num,by omega,by omega,Y9.out⟩,rfl,rfl,rfl⟩,?_⟩
        simp[intOf];omega
   ·have tm:((p:Int) % 512 != 0)=true:=by simp only [bne_iff_ne];exact hm
    go_wp2_with fail
    refine hS.mono ?_
    rintro e w' ⟨rfl,rfl⟩
    go_wp2
    go_roundw
    case rel=>exact⟨p,by omega,by omega,rfl,by rw[HS.out],HA.out⟩
    case measure=>simp[intOf];omega
end
section
theorem qc2(l:List Bool)(p:Nat):ex l p=2 * (cnt (l.take p):Int) - (min p l.length:Nat):=by
 unfold ex rk yh
 rw[if_pos rfl,YT l p]
theorem qc3(a b:List Bool){p:Nat}(h:p≤a.length):ex (a ++ b) p=ex a p:=by
 rw[qc2,qc2,List.take_append_of_le_length h,List.length_append]
 omega
theorem qau(a b:List Bool)(q:Nat):ex (a ++ b) (a.length+q)=ex a a.length+ex b q:=by
 rw[qc2,qc2,qc2,List.take_append,List.take_of_length_le (l:=a) (i:=a.length+q) (by omega),List.take_of_length_le (l:=a) (i:=a.length) (by omega),show a.length+q - a.length=q by omega,Qk,List.length_append]
 omega
theorem yV(l:List Bool){p:Nat}(h:p<l.length):ex l (p+1)=if l.getD p false then ex l p+1 else ex l p - 1:=by
 rw[FU l h]
 unfold fJ
 cases l.getD p false <;> simp <;> omega
theorem Zb(l:List Bool){p:Nat}(h:p<l.length)(hx:ex l p<ex l (p+1)):l.getD p false=true:=by
 have:=yV l h
 cases hb:l.getD p false with
 | true=>rfl
 | false=>rw[hb,if_neg (by simp)] at this;omega
theorem qlh(l:List Bool){p:Nat}(h:p<l.length)(hx:ex l (p+1)<ex l p):l.getD p false=false:=by
 have:=yV l h
 cases hb:l.getD p false with
 | false=>rfl
 | true=>rw[hb,if_pos rfl] at this;omega
structure bQ (l:List Bool)(i j:Nat):Prop where
 lt:i<j
 le:j<l.length
 hit:ex l (j+1)=ex l i
 above:∀ p,i<p→p≤j→ex l i<ex l p
theorem bQ.opens{l:List Bool}{i j:Nat}(h:bQ l i j):l.getD i false=true∧ex l (i+1)=ex l i+1:=by
 have h1:=h.above (i+1) (by omega) (by have:=h.lt;omega)
 have h2:=Zb l (by have:=h.lt;have:=h.le;omega) h1
 refine⟨h2,?_⟩
 have:=yV l (p:=i) (by have:=h.lt;have:=h.le;omega)
 rw[h2,if_pos rfl] at this
 exact this
theorem bQ.closes{l:List Bool}{i j:Nat}(h:bQ l i j):l.getD j false=false∧ex l (j+1)=ex l j - 1:=by
 have h1:=h.above j h.lt (Nat.le_refl _)
 have h3:=h.hit
 have h2:=qlh l h.le (by omega)
 refine⟨h2,?_⟩
 have:=yV l h.le
 rw[h2,if_neg (by simp)] at this
 exact this
theorem bQ.ahead{l:List Bool}{i j:Nat}(h:bQ l i j):kF l (i+1) (j+1):=by
 have h1:=h.opens.2
 refine⟨by have:=h.lt;omega,h.le,by have:=h.hit;omega,fun p h2 h3=>?_⟩
 have:=h.above p (by omega) (by omega)
 omega
theorem bQ.behind{l:List Bool}{i j:Nat}(h:bQ l i j):cK l j (ex l (j+1)) i :=
 ⟨h.lt,by have:=h.le;omega,h.hit.symm,fun p h1 h2=>by rw[h.hit];exact h.above p h1 h2⟩
theorem cK.unique{l:List Bool}{i:Nat}{want:Int}{B C:Nat}(h:cK l i want B)(k:cK l i want C):B=C:=by
 rcases Nat.lt_trichotomy B C with h1|h1|h1
 ·have:=h.above C h1 (by have:=k.lt;omega);have:=k.hit;omega
 ·exact h1
 ·have:=k.above B h1 (by have:=h.lt;omega);have:=h.hit;omega
theorem bQ.right{l:List Bool}{i j k:Nat}(h:bQ l i j)(h2:bQ l i k):j=k:=by
 have h3:=h.hit
 have h4:=h2.hit
 rcases Nat.lt_trichotomy j k with h1|h1|h1
 ·have:=h2.above (j+1) (by have:=h.lt;omega) h1;omega
 ·exact h1
 ·have:=h.above (k+1) (by have:=h2.lt;omega) h1;omega
theorem bQ.left{l:List Bool}{i j k:Nat}(h:bQ l i k)(h2:bQ l j k):i=j:=h.behind.unique h2.behind
def dV(l:List Bool)(i m:Nat):Prop:=(l.getD i false=true∧bQ l i m)∨(l.getD i false=false∧bQ l m i)
theorem bQ.yX{l:List Bool}{i j:Nat}(h:bQ l i j):dV l i j:=.inl ⟨h.opens.1,h⟩
theorem bQ.nS{l:List Bool}{i j:Nat}(h:bQ l i j):dV l j i:=.inr ⟨h.closes.1,h⟩
theorem dV.symm{l:List Bool}{i m:Nat}(h:dV l i m):dV l m i:=by
 rcases h with⟨_,h⟩|⟨_,h⟩
 ·exact h.nS
 ·exact h.yX
theorem dV.lt{l:List Bool}{i m:Nat}(h:dV l i m):m<l.length:=by
 rcases h with⟨_,h⟩|⟨_,h⟩
 ·exact h.le
 ·have:=h.lt;have:=h.le;omega
theorem dV.unique{l:List Bool}{i m n:Nat}(h:dV l i m)(k:dV l i n):m=n:=by
 rcases h with⟨h0,h⟩|⟨h0,h⟩ <;> rcases k with⟨k0,k⟩|⟨k0,k⟩
 ·exact h.right k
 ·rw[h0] at k0;cases k0
 ·rw[h0] at k0;cases k0
 ·exact h.left k
theorem KZ(P:Nat→Prop)[DecidablePred P](a:Nat):∀ d,P (a+d)→∃ n,a≤n∧n≤a+d∧P n∧∀ p,a≤p→p<n→¬ P p
 | 0,h=>⟨a,Nat.le_refl _,Nat.le_refl _,h,fun p h1 h2=>by omega⟩
 | d+1,h=>by
  by_cases hc:∃ e,e≤d∧P (a+e)
  ·obtain⟨e,he,hp⟩:=hc
   obtain⟨n,h1,h2,h3,h4⟩:=KZ P a e hp
   exact⟨n,h1,by omega,h3,h4⟩
  ·refine⟨a+(d+1),by omega,Nat.le_refl _,h,fun p h1 h2 hp=>hc ⟨p - a,by omega,?_⟩⟩
   rwa [show a+(p - a)=p by omega]
termination_by d=>d
decreasing_by all_goals omega
theorem Zc(P:Nat→Prop)[DecidablePred P]:∀ a,P 0→∃ n,n≤a∧P n∧∀ p,n<p→p≤a→¬ P p
 | 0,h=>⟨0,Nat.le_refl _,h,fun p h1 h2=>by omega⟩
 | a+1,h=>by
  by_cases hc:P (a+1)
  ·exact⟨a+1,Nat.le_refl _,hc,fun p h1 h2=>by omega⟩
  ·obtain⟨n,h1,h2,h3⟩:=Zc P a h
   refine⟨n,by omega,h2,fun p h4 h5=>?_⟩
   by_cases hp:p=a+1
   ·rw[hp];exact hc
   ·exact h3 p h4 (by omega)
theorem qc4(l:List Bool)(i:Nat)(hi:i≤l.length)(hx:0<ex l i)(w:Int)(hw:w=ex l i - 1):∃ B,cK l i w B:=by
 obtain⟨n,h1,h2,h3⟩:=Zc (fun p=>ex l p≤w) i (by rw[FT];omega)
 have hn:n<i:=by
  rcases Nat.lt_or_ge n i with h|h
  ·exact h
  ·obtain rfl:n=i:=by omega
   omega
 refine⟨n,hn,hi,?_,fun p h4 h5=>by have:=h3 p h4 h5;omega⟩
 have h4:=h3 (n+1) (by omega) hn
 have h5:=YU l n
 omega
theorem Bal.mate{l:List Bool}(h:Bal l){i:Nat}(hi:i<l.length):∃ m,dV l i m:=by
 have hb:=yV l hi
 cases hl:l.getD i false with
 | true =>
  rw[hl,if_pos rfl] at hb
  have h0:=h.2 i (by omega)
  obtain⟨n,h1,h2,h3,h4⟩:=KZ (fun p=>ex l p≤ex l i) (i+1) (l.length - (i+1)) (by
   simp only [show i+1+(l.length - (i+1))=l.length by omega,h.1];exact h0)
  have hn:i+1<n:=by
   rcases Nat.lt_or_ge (i+1) n with h|h
   ·exact h
   ·obtain rfl:n=i+1:=by omega
    omega
  obtain⟨m,rfl⟩:∃ m,n=m+1:=⟨n - 1,by omega⟩
  have h5:=h4 m (by omega) (by omega)
  have h6:=YU l m
  refine⟨m,.inl ⟨hl,by omega,by omega,by omega,fun p h7 h8=>by have:=h4 p (by omega) (by omega);omega⟩⟩
 | false =>
  rw[hl,if_neg (by simp)] at hb
  have h0:=h.2 (i+1) (by omega)
  obtain⟨B,hB⟩:=qc4 l i (by omega) (by omega) (ex l (i+1)) (by omega)
  refine⟨B,.inr ⟨hl,hB.lt,hi,hB.hit.symm,fun p h7 h8=>?_⟩⟩
  rw[hB.hit]
  exact hB.above p h7 h8
def qed(l:List Bool)(o:Nat)(r:Int):Prop:=(ex l o=0∧r=-1)∨(0<ex l o∧∃ B:Nat,r=B∧cK l o (ex l o - 1) B)
def La(l:List Bool)(i:Nat)(r:Int):Prop:=(l.getD i false=true∧qed l i r)∨(l.getD i false=false∧∃ o,bQ l o i∧qed l o r)
end
section
open Go.RowKit
theorem Uh{P:Program}{fn:Func}{R:Ending→World→Prop}{a:Act}{W0:World}{g:Nat}{p:Tmp}{ty:TypeId}{cs:Array Value}{d:TypeDesc}(h:fn.results=#[.cell p ty])(hg:W0.heap.size=g)
  (hp:a.tmps.getD p undef=.pointer (some ⟨g,0,none⟩))(hu:P.underlying ty=some d)(hd:(match d with | .struct _ | .array _ _=>true|_=>false)=true)(hi:(P.info? ty).map (·.size)=some cs.size)
  (hdf:a.defers=[])(hR:R (.returned (.agg cs)) (W0.alloc (.cells cs ty))):bodyPost P fn R .ret a (W0.alloc (.cells cs ty)):=by
 refine bodyPost_ret (results_cell_row h _ _ g ty cs (0,0) d hp ?_ hu hd hi) hdf hR
 rw[← hg]
 exact heap_alloc_new W0 _
theorem Gi{a b c d:Int}(h:a=c)(k:b=d):Ending.returned (.agg #[.int .i64 a,.int .i64 b])=.returned (.agg #[.int .i64 c,.int .i64 d]):=by rw[h,k]
theorem qli(s1 l1 s2 l2:Int)(w:World)(h1:-200000000≤s1∧s1≤200000000)(h2:-200000000≤l1∧l1≤200000000)(h3:-200000000≤s2∧s2≤200000000)(h4:-200000000≤l2∧l2≤200000000)(hle:l1≤s1) :
  Calls Tryz.prog 312 #[.agg #[.int .i64 s1,.int .i64 l1],.agg #[.int .i64 s2,.int .i64 l2]] w fun e w'=>e=.returned (.agg #[.int .i64 (s1+s2),.int .i64 (min l1 (s1+l2))])∧Keeps (fun _=>False) w w':=by
 by_cases hz:s2=0∧l2=0
 ·obtain⟨rfl,rfl⟩:=hz
  go_enter Tryz.func312,Tryz.ntmps312
  go_wp2
  all_goals (refine Uh rfl (by simp) rfl Tryz.underlying373 rfl (by kernel_rfl) rfl ⟨Gi (by omega) (by omega),(((Keeps.refl _ w).alloc _).alloc _).alloc _⟩)
 ·by_cases hs:s2=0
  ·subst hs
   have hl:(l2 == 0)=false:=by rw[beq_eq_false_iff_ne];exact fun h=>hz ⟨rfl,h⟩
   clear hz
   go_enter Tryz.func312,Tryz.ntmps312
   go_wp2
   all_goals (refine Uh rfl (by simp) rfl Tryz.underlying373 rfl (by kernel_rfl) rfl ⟨Gi (by omega) (by omega),(((Keeps.refl _ w).alloc _).alloc _).alloc _⟩)
  ·have hl:(s2 == 0)=false:=by rw[beq_eq_false_iff_ne];exact hs
   clear hz hs
   go_enter Tryz.func312,Tryz.ntmps312
   go_wp2
   all_goals (refine Uh rfl (by simp) rfl Tryz.underlying373 rfl (by kernel_rfl) rfl ⟨Gi (by omega) (by omega),(((Keeps.refl _ w).alloc _).alloc _).alloc _⟩)
end
section
open Go.RowKit
theorem Keeps.fV{w w':World}(k:Keeps (fun _=>False) w w'){a:Addr}{v:Value}(h:w.cell? a=some v):w'.cell? a=some v:=by
 rw[World.cell?_of_block (w:=w) (k.block a.block (World.block_lt_of_cell? _ _ h) (fun h=>h))]
 exact h
theorem Zd{w:World}{g j:Nat}{a:Addr}{v:Value}(h:w.cell? a=some v)(h1:a≠⟨g,j * 2,none⟩)(h2:a≠⟨g,j * 2+1,none⟩)(x y:Value):((w.setCell ⟨g,j * 2,none⟩ x).setCell ⟨g,j * 2+1,none⟩ y).cell? a=some v:=by
 rw[World.cell?_setCell_other _ _ _ _ (Ne.symm h2),World.cell?_setCell_other _ _ _ _ (Ne.symm h1)]
 exact h
theorem qh1{w:World}{g j b o:Nat}{v:Value}(h:w.cell? ⟨b,o,none⟩=some v)(h1:b≠g)(x y:Value):((w.setCell ⟨g,j * 2,none⟩ x).setCell ⟨g,j * 2+1,none⟩ y).cell? ⟨b,o,none⟩=some v :=
 Zd h (fun e=>h1 (congrArg Addr.block e)) (fun e=>h1 (congrArg Addr.block e)) x y
theorem Qw{w:World}{g j o:Nat}{v:Value}(h:w.cell? ⟨g,o,none⟩=some v)(h1:o≠j * 2∧o≠j * 2+1)(x y:Value):((w.setCell ⟨g,j * 2,none⟩ x).setCell ⟨g,j * 2+1,none⟩ y).cell? ⟨g,o,none⟩=some v :=
 Zd h (fun e=>h1.1 (congrArg Addr.off e)) (fun e=>h1.2 (congrArg Addr.off e)) x y
theorem Keeps.uZ{w w':World}(k:Keeps (fun _=>False) w w'){a:Addr}{v:Value}(hc:w.cell? a=some v)(h:w.frozen? a=false):w'.frozen? a=false:=by
 have hb:=k.block a.block (World.block_lt_of_cell? _ _ hc) (fun h=>h)
 unfold World.frozen? at h ⊢
 rw[hb]
 exact h
def fZ(w:World)(g L:Nat)(sm lo:Nat→Int)(S:Nat→Prop):Prop :=
 ∃ cs:Array Value,w.heap[g]? = some (.cells cs 373 (0,0))∧cs.size=4 * L∧∀ k,S k→cs[k * 2]? = some (.int .i64 (sm k))∧cs[k * 2+1]? = some (.int .i64 (lo k))
theorem fZ.keeps{w w':World}{F:Nat→Prop}{g L:Nat}{sm lo:Nat→Int}{S:Nat→Prop}(h:fZ w g L sm lo S)(k:Keeps F w w')(hF:¬ F g):fZ w' g L sm lo S:=by
 obtain⟨cs,h1,h2⟩:=h
 exact⟨cs,k.at h1 hF,h2⟩
theorem fZ.lt{w:World}{g L:Nat}{sm lo:Nat→Int}{S:Nat→Prop}(h:fZ w g L sm lo S):g<w.heap.size:=by
 obtain⟨cs,h1,h2⟩:=h
 exact lt_of_block h1
theorem fZ.set{w:World}{g L:Nat}{sm lo:Nat→Int}{S T:Nat→Prop}(h:fZ w g L sm lo S)(k:Nat)(hk:k<2 * L)(s l:Int)(hs:s=sm k)(hl:l=lo k)(hT:∀ j,T j→S j∨j=k) :
  fZ ((w.setCell ⟨g,k * 2,none⟩ (.int .i64 s)).setCell ⟨g,k * 2+1,none⟩ (.int .i64 l)) g L sm lo T:=by
 obtain⟨cs,h1,h2,h3⟩:=h
 subst hs hl
 refine⟨_,dM (dM h1 _ _) _ _,by simpa using h2,fun j hj=>?_⟩
 simp only [Array.getElem?_setIfInBounds,Array.size_setIfInBounds]
 by_cases hjk:j=k
 ·subst hjk
  rw[if_neg (by omega),if_pos rfl,if_pos (by omega),if_pos rfl,if_pos (by omega)]
  exact⟨rfl,rfl⟩
 ·rw[if_neg (by omega),if_neg (by omega),if_neg (by omega),if_neg (by omega)]
  rcases hT j hj with h|h
  ·exact h3 j h
  ·exact absurd h hjk
theorem fZ.there{w:World}{g L:Nat}{sm lo:Nat→Int}{S:Nat→Prop}(h:fZ w g L sm lo S)(k:Nat)(hk:k<2 * L) :
  ∃ u v,w.cell? ⟨g,k * 2,none⟩=some u∧w.cell? ⟨g,k * 2+1,none⟩=some v∧w.frozen? ⟨g,k * 2,none⟩=false∧w.frozen? ⟨g,k * 2+1,none⟩=false:=by
 obtain⟨cs,h1,h2,_⟩:=h
 refine⟨cs[k * 2],cs[k * 2+1],?_,?_,au h1 _,au h1 _⟩
 ·rw[ak h1];exact Array.getElem?_eq_getElem (by omega)
 ·rw[ak h1];exact Array.getElem?_eq_getElem (by omega)
structure NL (l:List Bool)(L:Nat)(sm lo:Nat→Int):Prop where
 leaf:∀ c,c<L→sm (L+c)=ex l (512 * (c+1)) - ex l (512 * c)∧lo (L+c)=dG l (512 * c) 512
 kids:∀ k,1≤k→k<L→sm k=sm (k * 2)+sm (k * 2+1)∧lo k=min (lo (k * 2)) (sm (k * 2)+lo (k * 2+1))
 bd:∀ k,-200000000≤sm k∧sm k≤200000000∧-200000000≤lo k∧lo k≤200000000∧lo k≤sm k
def jV(w:World)(b bi g L:Nat)(sm lo:Nat→Int)(S:Nat→Prop)(wr:World):Prop :=
 wr.heap[b]? = some (.cells (BO bi false 1 (.slice (some ⟨g,0,none⟩) (2 * L) (2 * L)) 1) 335 (0,0))∧w.heap.size≤g∧fZ wr g L sm lo S∧Keeps (fun k=>k=b) w wr
theorem jV.keeps{w w1 w2:World}{b bi g L:Nat}{sm lo:Nat→Int}{S:Nat→Prop}(h:jV w b bi g L sm lo S w1)(k:Keeps (fun _=>False) w1 w2):jV w b bi g L sm lo S w2 :=
 ⟨k.at h.1 (fun h=>h),h.2.1,h.2.2.1.keeps k (fun h=>h),h.2.2.2.trans k (fun _ _ h=>h.elim)⟩
theorem jV.set{w w1:World}{b bi g L:Nat}{sm lo:Nat→Int}{S T:Nat→Prop}(h:jV w b bi g L sm lo S w1)(hb:b<w.heap.size)(k:Nat)(hk:k<2 * L)(s l:Int)(hs:s=sm k)(hl:l=lo k)(hT:∀ j,T j→S j∨j=k) :
  jV w b bi g L sm lo T ((w1.setCell ⟨g,k * 2,none⟩ (.int .i64 s)).setCell ⟨g,k * 2+1,none⟩ (.int .i64 l)):=by
 obtain⟨h1,h2,h3,h4⟩:=h
 have k2:Keeps (fun x=>x=g) w1 ((w1.setCell ⟨g,k * 2,none⟩ (.int .i64 s)).setCell ⟨g,k * 2+1,none⟩ (.int .i64 l)) :=
  ((Keeps.refl (fun x=>x=g) w1).setCell (p:=⟨g,k * 2,none⟩) (.inl rfl) _).setCell (p:=⟨g,k * 2+1,none⟩) (.inl rfl) _
 refine⟨k2.at h1 (by omega),h2,h3.set k hk s l hs hl hT,h4.trans k2 (fun _ _ h=>by omega)⟩
theorem jV.mono{w wr:World}{b bi g L:Nat}{sm lo:Nat→Int}{S T:Nat→Prop}(h:jV w b bi g L sm lo S wr)(hT:∀ k,T k→S k):jV w b bi g L sm lo T wr:=by
 obtain⟨h1,h2,⟨cs,h3,h4,h5⟩,h6⟩:=h
 exact⟨h1,h2,⟨cs,h3,h4,fun k hk=>h5 k (hT k hk)⟩,h6⟩
theorem jV.idx{w wr:World}{b bi g L:Nat}{l:List Bool}{sm lo:Nat→Int}{S:Nat→Prop}{FI:Nat→Prop}{dI:Bool}{asked:Nat}(h:jV w b bi g L sm lo S wr)(hI:bL w bi l dI asked FI)(hb:¬ FI b):gY wr b l :=
 ⟨bi,FI,dI,asked,ak h.1 0,hI.keeps h.2.2.2 (fun _ hx h=>hb (h ▸ hx))⟩
def Gj(wB:World)(s lo:Int)(wr:World):Prop:=wr.heap[wB.heap.size]? = some (.cells #[.int .i64 s,.int .i64 lo] 373 (0,0))∧Keeps (fun _=>False) wB wr
theorem Gj.set{wB wr:World}{s lo:Int}(h:Gj wB s lo wr)(s' lo':Int):Gj wB s' lo' (((wr.setCell ⟨wB.heap.size,0,none⟩ (.int .i64 s')).setCell ⟨wB.heap.size,1,none⟩ (.int .i64 lo')).drew):=by
 obtain⟨h1,h2⟩:=h
 refine⟨?_,((h2.setCell (p:=⟨wB.heap.size,0,none⟩) (.inr (Nat.le_refl _)) _).setCell (p:=⟨wB.heap.size,1,none⟩) (.inr (Nat.le_refl _)) _).drew⟩
 exact (dM (dM h1 0 _) 1 _)
theorem Gj.start(wB:World):Gj wB 0 0 (wB.alloc (.cells #[.int .i64 0,.int .i64 0] 373)):=⟨heap_alloc_new wB _,(Keeps.refl _ wB).alloc _⟩
theorem qlj:(Tryz.prog.info? 373).map (fun i=>(i.zero,i.size,i.bytes))=some (some (.agg #[.int .i64 0,.int .i64 0]),2,16):=by kernel_rfl
theorem qc5(b bi:Nat)(l:List Bool)(FI:Nat→Prop)(dI:Bool)(asked L:Nat)(sm lo:Nat→Int)(w:World)
  (h:w.heap[b]? = some (.cells (BO bi false 1 (.slice none 0 0) 0) 335 (0,0)))(hI:bL w bi l dI asked FI)(Lc:¬ FI b)
  (hL1:1≤L)(hL2:L≤400000)(hN:NL l L sm lo)
  (wJ:∀ W,gY W b l→Calls Tryz.prog 311 #[.pointer (some ⟨b,0,none⟩)] W fun e w'=>e=.returned (.int .i64 L)∧W=w') :
  Calls Tryz.prog 307 #[.pointer (some ⟨b,0,none⟩)] w fun e w'=>e=.returned (.tuple #[])∧∃ g,jV w b bi g L sm lo (fun k=>1≤k∧k<2 * L) w':=by
 have hbw:=lt_of_block h
 have hle:=hI.le
 have c5:w.cell? ⟨b,5,none⟩=some (.int .i64 0):=ak h 5
 have hadd:=yP ⟨b,5,none⟩ 0 1 w c5 (au h 5) (by omega)
 have h1:(w.setCell ⟨b,5,none⟩ (.int .i64 1)).heap[b]? = some (.cells (BO bi false 1 (.slice none 0 0) 1) 335 (0,0)):=dM h 5 _
 have k1:Keeps (fun k=>k=b) w (w.setCell ⟨b,5,none⟩ (.int .i64 1)):=(Keeps.refl (fun k=>k=b) w).setCell (p:=⟨b,5,none⟩) (.inl rfl) _
 have hP1:gY (w.setCell ⟨b,5,none⟩ (.int .i64 1)) b l:=⟨bi,FI,dI,asked,ak h1 0,hI.keeps k1 (fun _ hx h=>Lc (h ▸ hx))⟩
 have Ld:=wJ _ hP1
 clear hP1 c5
 rw[show (0:Int)+1=1 from rfl] at hadd
 generalize hw0:w.setCell ⟨b,5,none⟩ (.int .i64 1)=w0 at *
 clear hw0
 obtain⟨i,hi,hz0,hz1,hz2⟩:=info_parts qlj
 have hmk:=run_make (P:=Tryz.prog) w0 330 373 i _ Tryz.underlying330 hi hz0 .i64 .i64 (2 * (L:Int)) (2 * (L:Int)) (by omega) (Int.le_refl _) (by rw[hz2];omega) (by omega)
 rw[hz1,show (2 * (L:Int)).toNat=2 * L by omega] at hmk
 have HI:=ah (aj hI Lc)
 have HN:=ah hN
 have HLv:=ah wJ
 have c4:w0.cell? ⟨b,4,none⟩=some (.slice none 0 0):=ak h1 4
 have f4:w0.frozen? ⟨b,4,none⟩=false:=au h1 4
 have hbw0:b<w0.heap.size:=lt_of_block h1
 have H1:=ah (aj h (aj h1 k1))
 clear hI Lc hN wJ h h1 k1 hi hz0 hz1 hz2
 go_enter Tryz.func307,Tryz.ntmps307
 go_wp2_with (first | (go_at_call 292;refine hadd.mono ?_;rintro e w' ⟨rfl,rfl⟩) | (go_at_call 311;refine Ld.mono ?_;rintro e w' ⟨rfl,rfl⟩))
 clear hmk hadd Ld
 have hM0:jV w b bi w'.heap.size L sm lo (fun k=>L≤k∧k<L+0) ((w'.setCell ⟨b,4,none⟩ (.slice (some ⟨w'.heap.size,0,none⟩) (2 * L) (2 * L))).alloc (.cells (madeCells #[.int .i64 0,.int .i64 0] (2 * L * 2)) 373)):=by
  obtain⟨_,h2,h3⟩:=H1.out
  have k2:Keeps (fun k=>k=b) w' (w'.setCell ⟨b,4,none⟩ (.slice (some ⟨w'.heap.size,0,none⟩) (2 * L) (2 * L))):=(Keeps.refl (fun k=>k=b) w').setCell (p:=⟨b,4,none⟩) (.inl rfl) _
  have hs:(w'.setCell ⟨b,4,none⟩ (.slice (some ⟨w'.heap.size,0,none⟩) (2 * L) (2 * L))).heap.size=w'.heap.size:=by simp
  refine⟨?_,h3.size,⟨madeCells #[.int .i64 0,.int .i64 0] (2 * L * 2),?_,by rw[size_madeCells];omega,fun k hk=>by omega⟩,(h3.trans k2 (fun _ _ h=>h)).alloc _⟩
  ·rw[Below.heap_alloc _ _ _ (by rw[hs];exact hbw0),dM h2]
   rfl
  ·have:=heap_alloc_new (w'.setCell ⟨b,4,none⟩ (.slice (some ⟨w'.heap.size,0,none⟩) (2 * L) (2 * L))) (.cells (madeCells #[.int .i64 0,.int .i64 0] (2 * L * 2)) 373)
   rw[hs] at this
   exact this
 clear c4 f4 hbw0 H1
 generalize World.alloc _ _=wM at *
 generalize w'.heap.size=g at *
 go_loopw [20] (fun i wr=>∃ c:Nat,c≤L∧i=.int .i64 c∧jV w b bi g L sm lo (fun k=>L≤k∧k<L+c) wr) (fun i _=>L - (intOf i).toNat)
 case atStart=>exact⟨0,Nat.zero_le _,rfl,hM0⟩
 case round =>
  obtain⟨c,hc,rfl,hM⟩:=hrel
  clear hM0
  obtain⟨wo,rfl⟩:∃ wo:World,wo=wr:=⟨_,rfl⟩
  by_cases hlt:c<L
  ·have hP:=hM.idx HI.out.1 HI.out.2
   have hLen:=fun W (h:gY W b l)=>Qt b l W h
   have hgr:=hM.2.2.1.lt
   have hX0:=Gj.start wo
   have hbX:=hP.lt
   have HM:=ah hM
   clear hM
   go_wp2_with fail
   generalize World.alloc _ _=wx at *
   obtain⟨m,hm1,hm2⟩:∃ m:Nat,m=min l.length (512 * (c+1))∧(if (l.length:Int)<((c:Int)+1) * 512 then (l.length:Int) else ((c:Int)+1) * 512)=(m:Int):=⟨_,rfl,by split <;> omega⟩
   have Ze:=ah hm1
   clear hm1
   go_loopw [5] (fun i wr=>∃ p:Nat,512 * c≤p∧p≤512 * (c+1)∧i=.int .i64 p∧Gj wo (ex l p - ex l (512 * c)) (dG l (512 * c) (p - 512 * c)) wr) (fun i _=>512 * (c+1) - (intOf i).toNat)
   case atStart=>exact⟨512 * c,Nat.le_refl _,by omega,by go_num,by rw[Int.sub_self,Nat.sub_self];exact hX0⟩
   case round =>
    obtain⟨p,hp1,hp2,rfl,hX⟩:=hrel
    clear hX0
    have Ui:=hP.keeps hX.2 hbX
    have Zf:=hLen _ Ui
    have hx1:=nR l p hle
    have hx0:=nR l (512 * c) hle
    have hlo:=Qv l (512 * c) (p - 512 * c) hle
    by_cases hgo:p<m
    ·have hg:p<512 * (c+1)∧p<l.length:=by have:=Ze.out;omega
     obtain⟨hg1,hg2⟩:=hg
     have hS:=fun W (h:gY W b l)=>Qu b l p W h hg2
     have hsc:=KS l p
     have hs:=FU l hg2
     have hln:dG l (512 * c) (p - 512 * c+1)=min (dG l (512 * c) (p - 512 * c)) (ex l (p+1) - ex l (512 * c)):=by
      simp only [dG]
      rw[show 512 * c+(p - 512 * c+1)=p+1 by omega]
     have HS:=ah (aj hs hln)
     have hx2:=nR l (p+1) hle
     rw[hs] at hx2
     clear hs hln
     have HX:=ah hX
     have hc0:wr.cell? ⟨wo.heap.size,0,none⟩=some (.int .i64 (ex l p - ex l (512 * c))):=ak hX.1 0
     have hc1:wr.cell? ⟨wo.heap.size,1,none⟩=some (.int .i64 (dG l (512 * c) (p - 512 * c))):=ak hX.1 1
     clear hX
     obtain⟨s,hsd⟩:∃ s,s=ex l p - ex l (512 * c):=⟨_,rfl⟩
     rw[← hsd] at hc0
     obtain⟨z,hzd⟩:∃ z,z=fJ l p:=⟨_,rfl⟩
     rw[← hzd] at hS hsc hx2
     generalize Le:dG l (512 * c) (p - 512 * c)=lw at *
     have hsb:-200000000≤s∧s≤200000000:=by omega
     have HD:=ah (aj hsd (aj hzd Le))
     clear hsd hzd Le hx1 hx0 hx2
     go_wp2_with (go_at_call 301;refine Zf.mono ?_;rintro e w' ⟨rfl,rfl⟩)
     obtain⟨Qx,Lh,afK⟩:∃ Qx,Qx=min lw (s+z)∧(if s+z<lw then s+z else lw)=Qx:=⟨_,rfl,by split <;> omega⟩
     have Hlw:=ah Lh
     clear Lh
     have FZ:=Ui.drew
     have hsum:IntKind.i64.wrap (s+z)=s+z:=IntWalk.i64_in _ (by omega)
     have BS:wr.drew.cell? ⟨wo.heap.size,0,none⟩=some (.int .i64 s):=hc0
     have fx0:wr.frozen? ⟨wo.heap.size,0,none⟩=false:=au HX.out.1 0
     have fx1:wr.frozen? ⟨wo.heap.size,1,none⟩=false:=au HX.out.1 1
     clear Ui
     have hSd:=hS _ FZ
     go_region_with (go_at_call 310;refine hSd.mono ?_;rintro e w' ⟨rfl,rfl⟩)
     have hcs:(wr.setCell ⟨wo.heap.size,0,none⟩ (.int .i64 (s+z))).cell? ⟨wo.heap.size,0,none⟩=some (.int .i64 (s+z)):=World.cell?_setCell_same _ _ _ hc0
     clear hc0 BS fx0 hSd
     all_goals
      go_wp2
      go_roundw
      case rel=>exact⟨p+1,by omega,by omega,by go_num,by
       have e1:=HD.out;have e2:=HS.out;have e3:=Hlw.out
       have:=HX.out.set (s+z) Qx
       rw[show p+1 - 512 * c=p - 512 * c+1 by omega,e2.2,e2.1,← e1.2.1,show ex l p+z - ex l (512 * c)=s+z by omega,← e3]
       exact this⟩
      case measure=>simp[intOf];omega
    ·have hpe:p=512 * (c+1)∨l.length≤p:=by have:=Ze.out;omega
     have hsv:ex l p - ex l (512 * c)=sm (L+c):=by
      rw[(HN.out.leaf c hlt).1]
      rcases hpe with h|h
      ·rw[h]
      ·rw[FV l h,FV l (p:=512 * (c+1)) (by omega)]
     have hlv:dG l (512 * c) (p - 512 * c)=lo (L+c):=by
      rw[(HN.out.leaf c hlt).2]
      rcases hpe with h|h
      ·rw[h,show 512 * (c+1) - 512 * c=512 by omega]
      ·rw[← qid l (512 * c) (p - 512 * c) (512 - (p - 512 * c)) (by omega),show p - 512 * c+(512 - (p - 512 * c))=512 by omega]
     rw[hsv,hlv] at hX
     have HX:=ah (aj hX (HM.out.keeps hX.2))
     obtain⟨k,hk⟩:∃ k,k=L+c:=⟨_,rfl⟩
     have hx0:wr.cell? ⟨wo.heap.size,0,none⟩=some (.int .i64 (sm k)):=by rw[hk];exact ak hX.1 0
     have hx1:wr.cell? ⟨wo.heap.size,1,none⟩=some (.int .i64 (lo k)):=by rw[hk];exact ak hX.1 1
     have c4:wr.cell? ⟨b,4,none⟩=some (.slice (some ⟨g,0,none⟩) (2 * L) (2 * L)):=ak HX.out.2.1 4
     have hsum:IntKind.i64.wrap ((L:Int)+(c:Int))=(k:Int):=by rw[IntWalk.i64_in _ (by omega)];omega
     have hk0:(0:Int)≤(k:Int):=by omega
     have hk1:(k:Int)<2 * (L:Int):=by omega
     have hk2:k<2 * L:=by omega
     obtain⟨u,v,hu,hv,fu,fv⟩:=HX.out.2.2.2.1.there k hk2
     have HK:=ah hk
     clear hpe hsv hlv hX hk
     go_wp2_with (go_at_call 301;refine Zf.mono ?_;rintro e w' ⟨rfl,rfl⟩)
     go_region
     go_wp2
     go_roundw
     case rel=>exact⟨c+1,by omega,by go_num,(HX.out.2.set hbw k hk2 _ _ rfl rfl (fun j hj=>by have:=HK.out;omega)).keeps ((Keeps.refl _ _).drew)⟩
     case measure=>simp[intOf];omega
  ·obtain rfl:L=c:=by omega
   have hM:=hM.mono (T:=fun k=>L - 1<k∧k<2 * L) (fun k hk=>by omega)
   go_wp2_with fail
   go_loopw [6] (fun i wr=>∃ j:Nat,j<L∧i=.int .i64 j∧jV w b bi g L sm lo (fun k=>j<k∧k<2 * L) wr) (fun i _=>(intOf i).toNat)
   case atStart=>exact⟨L - 1,by omega,by go_num,hM⟩
   case round =>
    obtain⟨j,hj,rfl,hM2⟩:=hrel
    clear hM
    by_cases hj0:0<j
    ·obtain⟨a,ha⟩:∃ a,a=j * 2:=⟨_,rfl⟩
     obtain⟨d,hd⟩:∃ d,d=j * 2+1:=⟨_,rfl⟩
     have Gl:=HN.out.kids j hj0 hj
     rw[← hd,← ha] at Gl
     have hba:=HN.out.bd a
     have hbd:=HN.out.bd d
     obtain⟨cs,q1,q2,q3⟩:=hM2.2.2.1
     obtain⟨n0,n1⟩:=q3 a (by omega)
     obtain⟨n2,n3⟩:=q3 d (by omega)
     obtain⟨u,v,hu,hv,fu,fv⟩:=hM2.2.2.1.there j (by omega)
     rw[← ak q1] at n0 n1 n2 n3
     have c4:wr.cell? ⟨b,4,none⟩=some (.slice (some ⟨g,0,none⟩) (2 * L) (2 * L)):=ak hM2.1 4
     have HM:=ah hM2
     have hO:=qli (sm a) (lo a) (sm d) (lo d)
     have hwa:IntKind.i64.wrap (2 * (j:Int))=(a:Int):=by rw[IntWalk.i64_in _ (by omega)];omega
     have hwd:IntKind.i64.wrap ((a:Int)+1)=(d:Int):=by rw[IntWalk.i64_in _ (by omega)];omega
     have ha0:(0:Int)≤(a:Int):=by omega
     have ha1:(a:Int)<2 * (L:Int):=by omega
     have hd0:(0:Int)≤(d:Int):=by omega
     have hd1:(d:Int)<2 * (L:Int):=by omega
     have hj1:(j:Int)<2 * (L:Int):=by omega
     have e0:a * 2≠j * 2∧a * 2≠j * 2+1:=by omega
     have e1:a * 2+1≠j * 2∧a * 2+1≠j * 2+1:=by omega
     have e2:d * 2≠j * 2∧d * 2≠j * 2+1:=by omega
     have e3:d * 2+1≠j * 2∧d * 2+1≠j * 2+1:=by omega
     have hbg:b≠g:=by have:=hM2.2.1;omega
     have HK:=ah (aj Gl (aj ha hd))
     clear hM2 Gl ha hd q1 q2 q3
     go_wp2_with fail
     have Gf:wr.drew.cell? ⟨b,4,none⟩=some (.slice (some ⟨g,0,none⟩) (2 * L) (2 * L)):=c4
     have Gg:wr.drew.cell? ⟨g,a * 2,none⟩=some (.int .i64 (sm a)):=n0
     have Gh:wr.drew.cell? ⟨g,a * 2+1,none⟩=some (.int .i64 (lo a)):=n1
     have Qy:wr.drew.cell? ⟨g,d * 2,none⟩=some (.int .i64 (sm d)):=n2
     have Qz:wr.drew.cell? ⟨g,d * 2+1,none⟩=some (.int .i64 (lo d)):=n3
     have hud:wr.drew.cell? ⟨g,j * 2,none⟩=some u:=hu
     have hvd:wr.drew.cell? ⟨g,j * 2+1,none⟩=some v:=hv
     have Zg:wr.drew.frozen? ⟨g,j * 2,none⟩=false:=fu
     have Zh:wr.drew.frozen? ⟨g,j * 2+1,none⟩=false:=fv
     go_region_held3 (fun w'=>w'.cell? ⟨b,4,none⟩=some (.slice (some ⟨g,0,none⟩) (2 * L) (2 * L))∧w'.cell? ⟨g,a * 2,none⟩=some (.int .i64 (sm a))∧w'.cell? ⟨g,a * 2+1,none⟩=some (.int .i64 (lo a))∧w'.cell? ⟨g,d * 2,none⟩=some (.int .i64 (sm d))∧w'.cell? ⟨g,d * 2+1,none⟩=some (.int .i64 (lo d))) (first|exact⟨Gf,Gg,Gh,Qy,Qz⟩|exact⟨hK.fV Gf,hK.fV Gg,hK.fV Gh,hK.fV Qy,hK.fV Qz⟩|exact⟨qh1 (hK.fV Gf) hbg _ _,Qw (hK.fV Gg) e0 _ _,Qw (hK.fV Gh) e1 _ _,Qw (hK.fV Qy) e2 _ _,Qw (hK.fV Qz) e3 _ _⟩) ((go_at_call 312;refine (hO _ ?_ ?_ ?_ ?_ ?_).mono ?_;omega;omega;omega;omega;omega;rintro e W ⟨rfl,hK⟩;have hu2:=hK.fV hud;have hv2:=hK.fV hvd;have fu2:=hK.uZ hud Zg;have fv2:=hK.uZ hvd Zh))
     clear c4 n0 n1 n2 n3 hu hv fu fv Gf Gg Gh Qy Qz hud hvd Zg Zh e0 e1 e2 e3 hwa hwd
     have sw:=(HM.out.keeps (((Keeps.refl (fun _=>False) wr).drew).trans hK (fun _ _ h=>h))).set hbw j (by omega) (sm a+sm d) (min (lo a) (sm a+lo d)) HK.out.1.1.symm HK.out.1.2.symm (T:=fun k=>j - 1<k∧k<2 * L) (fun k hk=>by omega)
     have HM3:=ah sw
     clear sw hK hu2 hv2 fu2 fv2 hba hbd
     go_wp2
     go_roundw
     case rel=>exact⟨j - 1,by omega,by go_num,HM3.out⟩
     case measure=>simp[intOf];omega
    ·obtain rfl:0=j:=by omega
     have HM:=ah hM2
     clear hM2
     go_wp2
     go_end0
     exact⟨rfl,g,HM.out.mono (fun k hk=>by omega)⟩
theorem NL.of(l:List Bool)(h:Nat)(hl:l.length≤100000000):NL l (2 ^ h) (kH l h) (lV l h):=by
 refine⟨fun c hc=>?_,fun k h1 h2=>?_,fun k=>?_⟩
 ·unfold kH lV
  rw[Y0 h c hc,Y1 h c hc,show 512 * c+512=512 * (c+1) by omega]
  exact⟨rfl,rfl⟩
 ·rw[Nat.mul_comm k 2]
  exact⟨qif l h k h1 h2,qig l h k h1 h2⟩
 ·have h1:=qgz l h k
  have h2:=qh l h k
  have h3:=YX l (o9 h k) (oU h k)
  have h4:lV l h k≤kH l h k:=h3
  omega
theorem qee(b bi:Nat)(l:List Bool)(FI:Nat→Prop)(dI:Bool)(asked h:Nat)(w:World)
  (hb:w.heap[b]? = some (.cells (BO bi false 1 (.slice none 0 0) 0) 335 (0,0)))(hI:bL w bi l dI asked FI)(Lc:¬ FI b)(hh:D7 l h) :
  Calls Tryz.prog 307 #[.pointer (some ⟨b,0,none⟩)] w fun e w'=>e=.returned (.tuple #[])∧∃ g,jV w b bi g (2 ^ h) (kH l h) (lV l h) (fun k=>1≤k∧k<2 * 2 ^ h) w' :=
 qc5 b bi l FI dI asked (2 ^ h) (kH l h) (lV l h) w hb hI Lc (hh.bound hI.le).1 (hh.bound hI.le).2 (NL.of l h hI.le) (fun W hW=>Y3 b l h W hW hh)
theorem qc6(b:Nat)(W:World):(callFunc 307 #[.pointer (some ⟨b,0,none⟩)]).run Tryz.prog W=.ok (.enter 307 #[.pointer (some ⟨b,0,none⟩)]) W:=by
 go_simp
theorem qil(b:Nat)(l:List Bool)(done:Bool)(q:Nat)(F:Nat→Prop)(w:World)(h:eU w b l done q F) :
  Calls Tryz.prog 117 #[.pointer (some ⟨b,1,none⟩),.func (.func 307) #[.pointer (some ⟨b,0,none⟩)] #[]] w fun e w'=>e=.returned (.tuple #[])∧aI w b l true q F w':=by
 obtain⟨⟨bi,tv,FI,dI,asked,hb,hI,hq,yT,Fb,nb,nG,hT⟩,hold⟩:=h
 cases done with
 | true =>
  have c1:w.cell? ⟨b,1,none⟩=some (.int .u32 1):=ak hb 1
  refine (TK ⟨b,1,none⟩ _ w c1).mono ?_
  rintro e w' ⟨rfl,rfl⟩
  exact⟨rfl,eU.after ⟨⟨bi,tv,FI,dI,asked,hb,hI,hq,yT,Fb,nb,nG,hT⟩,hold⟩⟩
 | false =>
  have jS:tv=.slice none 0 0:=hT
  subst jS
  obtain⟨h,hh⟩:=D7.ex l
  have c1:w.cell? ⟨b,1,none⟩=some (.int .u32 0):=ak hb 1
  have c2:w.cell? ⟨b,1+1,none⟩=some (.int .i32 0):=ak hb 2
  have hw0:(w.setCell ⟨b,1+1,none⟩ (.int .i32 1)).heap[b]? = some (.cells (BO bi false 1 (.slice none 0 0) 0) 335 (0,0)):=dM hb 2 _
  have k0:Keeps (fun k=>k=b) w (w.setCell ⟨b,1+1,none⟩ (.int .i32 1)):=(Keeps.refl (fun k=>k=b) w).setCell (p:=⟨b,1+1,none⟩) (.inl rfl) _
  have hs0:(w.setCell ⟨b,1+1,none⟩ (.int .i32 1)).heap.size=w.heap.size:=by simp
  have hI0:=hI.keeps k0 (fun x hx h=>nb (h ▸ hx))
  have hM:=qee b bi l FI dI asked h _ hw0 hI0 nb hh
  refine (Qo b 1 307 #[.pointer (some ⟨b,0,none⟩)] (fun w1=>∃ g,jV (w.setCell ⟨b,1+1,none⟩ (.int .i32 1)) b bi g (2 ^ h) (kH l h) (lV l h) (fun k=>1≤k∧k<2 * 2 ^ h) w1) w (qc6 b) c1 c2 (au hb 2) (hM.mono ?_)).mono ?_
  ·rintro e w1 ⟨rfl,g,hm⟩
   exact⟨rfl,ak hm.1 1,ak hm.1 2,au hm.1 1,au hm.1 2,g,hm⟩
  ·rintro e w' ⟨rfl,w1,⟨g,hm1,hm2,yU,FY⟩,rfl⟩
   have hgs:=yU.lt
   have hb2:(w1.drew.setCell ⟨b,1,none⟩ (.int .u32 1)).heap[b]? = some (.cells (BO bi true 1 (.slice (some ⟨g,0,none⟩) (2 * 2 ^ h) (2 * 2 ^ h)) 1) 335 (0,0)):=dM (w:=w1.drew) hm1 1 _
   have hb3:((w1.drew.setCell ⟨b,1,none⟩ (.int .u32 1)).setCell ⟨b,1+1,none⟩ (.int .i32 0)).heap[b]? = some (.cells (BO bi true 0 (.slice (some ⟨g,0,none⟩) (2 * 2 ^ h) (2 * 2 ^ h)) 1) 335 (0,0)):=dM hb2 2 _
   have k2:Keeps (fun k=>k=b) w1 ((w1.drew.setCell ⟨b,1,none⟩ (.int .u32 1)).setCell ⟨b,1+1,none⟩ (.int .i32 0)):=((Keeps.refl (fun k=>k=b) w1).drew.setCell (p:=⟨b,1,none⟩) (.inl rfl) _).setCell (p:=⟨b,1+1,none⟩) (.inl rfl) _
   have k3:=(k0.trans FY (fun x _ h=>h)).trans k2 (fun x _ h=>h)
   have hbs:=hold b Fb
   rw[hs0] at hm2
   have Uj:=yU.keeps k2 (by omega)
   refine⟨rfl,⟨⟨bi,_,FI,dI,asked,hb3,hI.keeps k3 (fun x hx h=>nb (h ▸ hx)),hq,fun x hx=>.inl (yT x hx),.inl Fb,nb,?_,h,g,hh,rfl,Nat.lt_of_lt_of_le hgs k2.size,?_⟩,q0z hold k3.size⟩,k3.mono (fun x _ h=>by rw[h];exact Fb)⟩
   ·intro k hk
    simp only [Value.ownBlock,Option.some.injEq] at hk
    subst hk
    exact⟨.inr ⟨hm2,Nat.lt_of_lt_of_le hgs k2.size⟩,fun h=>by have:=hI.old g h;omega,by omega⟩
   ·intro k h1 h2
    obtain⟨cs,q1,_,q3⟩:=Uj
    rw[ak q1,ak q1]
    exact q3 k ⟨h1,h2⟩
end
section
open Go.RowKit
theorem qoo{wh wr:World}{b:Nat}{l:List Bool}{done:Bool}{q:Nat}{F:Nat→Prop}(hF:∀ x,F x→x<wh.heap.size)(h:aI wh b l done q F wr) :
  Calls Tryz.prog 117 #[.pointer (some ⟨b,1,none⟩),.func (.func 307) #[.pointer (some ⟨b,0,none⟩)] #[]] wr fun e w'=>e=.returned (.tuple #[])∧aI wh b l true q F w' :=
 (qil b l done q _ wr h.1).mono fun _ _ ⟨he,hw⟩=>⟨he,h.trans hF hw⟩
theorem Zi{wh wr:World}{b:Nat}{l:List Bool}{done:Bool}{q:Nat}{F:Nat→Prop}(hF:∀ x,F x→x<wh.heap.size)(h:aI wh b l done q F wr)(i:Nat)(hi:i<l.length) :
  Calls Tryz.prog 295 #[.pointer (some ⟨b,0,none⟩),.int .i64 i] wr fun e w'=>e=.returned (.int .i64 0)∧aI wh b l true q F w':=by
 have Jv:∀ (fn:Fn) (first cap:Array Value) (w:World),(Instr.makeFunc fn first cap).run Tryz.prog w=.ok (.func fn first cap) w:=fun _ _ _ _=>rfl
 have hL:=Qt b l wr h.idx
 have hD:=qoo hF h
 have hle:=h.idx.le
 clear h hF
 go_enter Tryz.func295,Tryz.ntmps295
 go_wp2_with (first | (go_at_call 301;refine hL.mono ?_;rintro e w' ⟨rfl,rfl⟩) | (go_at_call 117;refine hD.mono ?_;rintro e w' ⟨rfl,hA⟩))
 go_ret
 exact⟨rfl,hA⟩
theorem Lj(l:List Bool)(i:Nat)(h:i<l.length):x9 l i=((l.getD i false).toNat:Int):=by
 unfold x9
 rw[if_pos (by omega),Int.toNat_natCast]
theorem Uk{l:List Bool}{i:Nat}(h:i<l.length):(x9 l i == 1)=l.getD i false:=by
 rw[Lj l i h];cases l.getD i false <;> rfl
theorem Zj{wh wr:World}{b:Nat}{l:List Bool}{q:Nat}{F:Nat→Prop}(hF:∀ x,F x→x<wh.heap.size)(h:aI wh b l true q F wr)(i m:Nat)(hq:q<100000000000)(hi:i<l.length)(hm:dV l i m) :
  Calls Tryz.prog 296 #[.pointer (some ⟨b,0,none⟩),.int .i64 i] wr fun e w'=>e=.returned (.int .i64 m)∧aI wh b l true (q+2) F w':=by
 have hle:=h.idx.le
 have hO:=Uc b l i wr h.idx
 rw[Uk hi] at hO
 have hml:=hm.lt
 rcases hm with⟨h0,hm⟩|⟨h0,hm⟩
 ·rw[h0] at hO
  have hA:=qij hF h (i+1) (m+1) (by omega) hm.ahead
  clear h0 hm h
  go_enter Tryz.func296,Tryz.ntmps296
  go_wp2_with (first | (go_at_call 303;refine hO.mono ?_;rintro e w' ⟨rfl,rfl⟩) | (go_at_call 308;refine hA.mono ?_;rintro e w' ⟨rfl,hP⟩))
  go_ret
  exact⟨AV (by omega),hP⟩
 ·rw[h0] at hO
  have hE:=q16 hF h (i+1) (by omega) (by omega)
  have hx:=nR l (i+1) hle
  have hB:=fun w (hA:aI wh b l true (q+1) F w)=>Ug hF hA i m (ex l (i+1)) (by omega) hm.behind
  clear h0 hm h
  generalize ex l (i+1)=x at *
  go_enter Tryz.func296,Tryz.ntmps296
  go_wp2_with (first | (go_at_call 303;refine hO.mono ?_;rintro e w' ⟨rfl,rfl⟩) | (go_at_call 302;refine hE.mono ?_;rintro e w' ⟨rfl,hP⟩) | (go_at_call 304;refine (hB _ hP).mono ?_;rintro e w'' ⟨rfl,hP2⟩))
  go_ret
  exact⟨rfl,hP2⟩
theorem qng{wh wr:World}{b:Nat}{l:List Bool}{done:Bool}{q:Nat}{F:Nat→Prop}(hF:∀ x,F x→x<wh.heap.size)(h:aI wh b l done q F wr)(i m:Nat)(hq:q<100000000000)(hi:i<l.length)(hm:dV l i m) :
  Calls Tryz.prog 285 #[.pointer (some ⟨b,0,none⟩),.int .i64 i] wr fun e w'=>e=.returned (.tuple #[.int .i64 m,.int .i64 0])∧aI wh b l true (q+2) F w':=by
 have hP:=Zi hF h i hi
 have hM:=fun w (hA:aI wh b l true q F w)=>Zj hF hA i m hq hi hm
 clear h hm hF
 go_enter Tryz.func285,Tryz.ntmps285
 go_wp2_with (first | (go_at_call 295;refine hP.mono ?_;rintro e w' ⟨rfl,hA⟩) | (go_at_call 296;refine (hM _ hA).mono ?_;rintro e w' ⟨rfl,hA2⟩))
 go_ret2
 exact⟨rfl,hA2⟩
theorem qlk{wh wr:World}{b:Nat}{l:List Bool}{done:Bool}{q:Nat}{F:Nat→Prop}(hF:∀ x,F x→x<wh.heap.size)(h:aI wh b l done q F wr)(i:Nat)(r:Int)(hq:q<10000000000)(hi:i<l.length)(hr:La l i r) :
  Calls Tryz.prog 288 #[.pointer (some ⟨b,0,none⟩),.int .i64 i] wr fun e w'=>e=.returned (.tuple #[.int .i64 r,.int .i64 0])∧aI wh b l true (q+4) F w':=by
 have hle:=h.idx.le
 have hP:=Zi hF h i hi
 have hO:=fun w (hA:aI wh b l true q F w)=>Uc b l i w hA.idx
 rw[Uk hi] at hO
 have hnot:∀ (x:Bool) (w:World),(Op.unary .not (.bool x)).run Tryz.prog w=.ok (.bool (!x)) w:=fun _ _=>rfl
 clear h
 rcases hr with⟨h0,hr⟩|⟨h0,o,ho,hr⟩
 ·rw[h0] at hO
  have hE:=fun w (hA:aI wh b l true q F w)=>q16 hF hA i (by omega) (by omega)
  have hx:=nR l i hle
  rcases hr with⟨hx0,rfl⟩|⟨hx0,B,rfl,hB⟩
  ·rw[hx0] at hE
   clear hx0 h0 hx
   go_enter Tryz.func288,Tryz.ntmps288
   go_wp2_with (first | (go_at_call 295;refine hP.mono ?_;rintro e w' ⟨rfl,hA⟩) | (go_at_call 303;refine (hO _ hA).mono ?_;rintro e w' ⟨rfl,rfl⟩) | (go_at_call 302;refine (hE _ hA).mono ?_;rintro e w' ⟨rfl,hA2⟩))
   go_ret2
   exact⟨rfl,hA2.more (by omega)⟩
  ·have Gm:=fun w (hA:aI wh b l true (q+1) F w)=>Ug hF hA i B (ex l i - 1) (by omega) hB
   have t0:(ex l i == 0)=false:=by rw[beq_eq_false_iff_ne];omega
   clear h0 hB
   generalize ex l i=x at *
   go_enter Tryz.func288,Tryz.ntmps288
   go_wp2_with (first | (go_at_call 295;refine hP.mono ?_;rintro e w' ⟨rfl,hA⟩) | (go_at_call 303;refine (hO _ hA).mono ?_;rintro e w' ⟨rfl,rfl⟩) | (go_at_call 302;refine (hE _ hA).mono ?_;rintro e w' ⟨rfl,hA2⟩) | (go_at_call 304;refine (Gm _ hA2).mono ?_;rintro e w' ⟨rfl,hA3⟩))
   go_ret2
   exact⟨rfl,hA3.more (by omega)⟩
 ·rw[h0] at hO
  have hM:=fun w (hA:aI wh b l true q F w)=>Zj hF hA i o (by omega) hi ho.nS
  have hol:=ho.nS.lt
  have hE:=fun w (hA:aI wh b l true (q+2) F w)=>q16 hF hA o (by omega) (by omega)
  have hx:=nR l o hle
  rcases hr with⟨hx0,rfl⟩|⟨hx0,B,rfl,hB⟩
  ·rw[hx0] at hE
   clear hx0 h0 hx ho
   go_enter Tryz.func288,Tryz.ntmps288
   go_wp2_with (first | (go_at_call 295;refine hP.mono ?_;rintro e w' ⟨rfl,hA⟩) | (go_at_call 303;refine (hO _ hA).mono ?_;rintro e w' ⟨rfl,rfl⟩) | (go_at_call 296;refine (hM _ hA).mono ?_;rintro e w' ⟨rfl,hA1⟩) | (go_at_call 302;refine (hE _ hA1).mono ?_;rintro e w' ⟨rfl,hA2⟩))
   go_ret2
   exact⟨rfl,hA2.more (by omega)⟩
  ·have Gm:=fun w (hA:aI wh b l true (q+3) F w)=>Ug hF hA o B (ex l o - 1) (by omega) hB
   have t0:(ex l o == 0)=false:=by rw[beq_eq_false_iff_ne];omega
   clear h0 hB ho
   generalize ex l o=x at *
   go_enter Tryz.func288,Tryz.ntmps288
   go_wp2_with (first | (go_at_call 295;refine hP.mono ?_;rintro e w' ⟨rfl,hA⟩) | (go_at_call 303;refine (hO _ hA).mono ?_;rintro e w' ⟨rfl,rfl⟩) | (go_at_call 296;refine (hM _ hA).mono ?_;rintro e w' ⟨rfl,hA1⟩) | (go_at_call 302;refine (hE _ hA1).mono ?_;rintro e w' ⟨rfl,hA2⟩) | (go_at_call 304;refine (Gm _ hA2).mono ?_;rintro e w' ⟨rfl,hA3⟩))
   go_ret2
   exact⟨rfl,hA3.more (by omega)⟩
end
section
open Go.RowKit
end
