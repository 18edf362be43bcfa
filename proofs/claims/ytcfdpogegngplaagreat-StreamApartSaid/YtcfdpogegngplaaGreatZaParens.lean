import Derived.Deep.RegionHeld3
import Derived.Laws.Rows
import Derived.Laws.OwnMore
import Derived.Test.YtcfdpogegngplaaGreatZaRanks
set_option maxRecDepth 100000
set_option maxHeartbeats 4000000
namespace Go.Proofs.YtcfdpogegngplaaGreat
section
def ex (l:List Bool) (p:Nat):Int:=2 * rk l 1 (min p l.length) - (min p l.length:Nat)
def stepZ (l:List Bool) (p:Nat):Int:=2 * ((l.getD p false).toNat:Int) - 1
theorem q5b (l:List Bool):ex l 0=0:=by simp[ex,qev]
theorem q5c (l:List Bool) {p:Nat} (h:p<l.length):ex l (p+1)=ex l p+stepZ l p:=by
 have:=q6v l 1 p (.inr rfl) h
 unfold ex stepZ
 rw[Nat.min_eq_left (by omega),Nat.min_eq_left (by omega),this]
 cases l.getD p false <;> simp <;> omega
theorem q5d (l:List Bool) {p:Nat} (h:l.length≤p):ex l p=ex l l.length:=by
 unfold ex;rw[Nat.min_eq_right h,Nat.min_self]
theorem q2w (l:List Bool) (p:Nat):stepZ l p=1∨stepZ l p=-1:=by
 unfold stepZ;cases l.getD p false <;> simp
theorem qjg (l:List Bool) (p:Nat):ex l p - 1≤ex l (p+1)∧ex l (p+1)≤ex l p+1:=by
 by_cases h:p<l.length
 ·have h1:=q5c l h
  have h2:=q2w l p
  omega
 ·rw[q5d l (p:=p) (by omega),q5d l (p:=p+1) (by omega)];omega
theorem q61 (l:List Bool) (p:Nat):-(l.length:Int)≤ex l p∧ex l p≤l.length:=by
 have h:=q4b l 1 (.inr rfl) (min p l.length) (by omega)
 unfold ex
 omega
def lowN (l:List Bool) (a:Nat):Nat→Int
 | 0=>0
 | m+1=>min (lowN l a m) (ex l (a+(m+1)) - ex l a)
theorem q3o (l:List Bool) (a:Nat):∀ m q,q≤m→lowN l a m≤ex l (a+q) - ex l a
 | 0,q,h=>by
         obtain rfl:q=0:=by omega
         simp[lowN]
 | m+1,q,h=>by
  simp only [lowN]
  by_cases hq:q=m+1
  ·subst hq;omega
  ·have:=q3o l a m q (by omega);omega
theorem q3p (l:List Bool) (a:Nat):∀ m,∃ q,q≤m∧lowN l a m=ex l (a+q) - ex l a
 | 0=>⟨0,by omega,by simp[lowN]⟩
 | m+1=>by
  simp only [lowN]
  obtain⟨q,h1,h2⟩:=q3p l a m
  rcases Int.le_total (lowN l a m) (ex l (a+(m+1)) - ex l a) with h|h
  ·exact⟨q,by omega,by omega⟩
  ·exact⟨m+1,by omega,by omega⟩
theorem qg1 (l:List Bool) (a m q:Nat):lowN l a (m+q)=min (lowN l a m) (ex l (a+m) - ex l a+lowN l (a+m) q):=by
 obtain⟨x,hx,hx2⟩:=q3p l a (m+q)
 obtain⟨y,hy,hy2⟩:=q3p l a m
 obtain⟨z,hz,hz2⟩:=q3p l (a+m) q
 have h1:=q3o l a (m+q) y (by omega)
 have h2:=q3o l a (m+q) (m+z) (by omega)
 rw[show a+(m+z)=a+m+z by omega] at h2
 by_cases hc:x≤m
 ·have h3:=q3o l a m x hc
  omega
 ·have h3:=q3o l (a+m) q (x - m) (by omega)
  rw[show a+m+(x - m)=a+x by omega] at h3
  omega
theorem qg2 (l:List Bool) (a m:Nat):lowN l a m≤0:=by
 have:=q3o l a m 0 (Nat.zero_le _);simp at this;exact this
theorem qg3 (l:List Bool) (a m:Nat):lowN l a m≤ex l (a+m) - ex l a:=q3o l a m m (Nat.le_refl _)
theorem qab (l:List Bool) (a m:Nat):-(2 * (l.length:Int))≤lowN l a m:=by
 obtain⟨q,_,h⟩:=q3p l a m
 have h1:=q61 l (a+q)
 have h2:=q61 l a
 omega
theorem qjh (l:List Bool) (a m q:Nat) (h:l.length≤a+m):lowN l a (m+q)=lowN l a m:=by
 rw[qg1]
 have h1:=qg3 l a m
 obtain⟨z,_,hz⟩:=q3p l (a+m) q
 rw[q5d l (p:=a+m+z) (by omega),q5d l (p:=a+m) (by omega)] at hz
 rw[hz]
 rw[q5d l (p:=a+m) (by omega)] at h1 ⊢
 omega
def q1k (h k:Nat):Nat:=512 * ((k - 2 ^ k.log2) * 2 ^ (h - k.log2))
def q1i (h k:Nat):Nat:=512 * 2 ^ (h - k.log2)
def tsum (l:List Bool) (h k:Nat):Int:=ex l (q1k h k+q1i h k) - ex l (q1k h k)
def tlow (l:List Bool) (h k:Nat):Int:=lowN l (q1k h k) (q1i h k)
theorem qlp (k:Nat) (h:1≤k):(2 * k).log2=k.log2+1:=by
 rw[Nat.log2_def,if_pos (by omega),show 2 * k / 2=k by omega]
theorem qji (k:Nat) (h:1≤k):(2 * k+1).log2=k.log2+1:=by
 rw[Nat.log2_def,if_pos (by omega),show (2 * k+1) / 2=k by omega]
theorem qcu (h b:Nat) (hb:b<2 ^ h):(2 ^ h+b).log2=h:=by
 have hp:0<2 ^ h:=Nat.two_pow_pos h
 have h1:h≤(2 ^ h+b).log2:=(Nat.le_log2 (by omega)).2 (by omega)
 have h2:(2 ^ h+b).log2<h+1:=(Nat.log2_lt (by omega)).2 (by rw[Nat.pow_succ];omega)
 omega
theorem q8v (h b:Nat) (hb:b<2 ^ h):q1k h (2 ^ h+b)=512 * b:=by
 unfold q1k;rw[qcu h b hb];simp
theorem q8w (h b:Nat) (hb:b<2 ^ h):q1i h (2 ^ h+b)=512:=by
 unfold q1i;rw[qcu h b hb];simp
theorem qeh (h:Nat):q1k h 1=0:=by simp[q1k,Nat.log2_def]
theorem qei (h:Nat):q1i h 1=512 * 2 ^ h:=by simp[q1i,Nat.log2_def]
theorem tkids (h k:Nat) (h1:1≤k) (hk:k<2 ^ h) :
  q1k h (2 * k)=q1k h k∧q1k h (2 * k+1)=q1k h k+q1i h (2 * k)∧q1i h (2 * k+1)=q1i h (2 * k)∧q1i h k=q1i h (2 * k)+q1i h (2 * k):=by
 have hd:k.log2<h:=(Nat.log2_lt (by omega)).2 hk
 have hle:2 ^ k.log2≤k:=Nat.log2_self_le (by omega)
 unfold q1k q1i
 rw[qlp k h1,qji k h1]
 generalize k.log2=d at *
 obtain⟨j,rfl⟩:∃ j,h=d+1+j:=⟨h - d - 1,by omega⟩
 rw[show d+1+j - (d+1)=j by omega,show d+1+j - d=j+1 by omega]
 rw[Nat.pow_succ 2 d,Nat.pow_succ 2 j]
 rw[show 2 * k - 2 ^ d * 2=2 * (k - 2 ^ d) by omega,show 2 * k+1 - 2 ^ d * 2=2 * (k - 2 ^ d)+1 by omega]
 generalize k - 2 ^ d=x
 generalize 2 ^ j=y
 have e1:2 * x * y=x * (y * 2):=by rw[Nat.mul_comm 2 x,Nat.mul_assoc,Nat.mul_comm 2 y]
 have e2:(2 * x+1) * y=x * (y * 2)+y:=by rw[Nat.add_mul,e1,Nat.one_mul]
 rw[e1,e2]
 exact⟨rfl,by omega,rfl,by omega⟩
theorem qjj (l:List Bool) (h k:Nat) (h1:1≤k) (hk:k<2 ^ h):tsum l h k=tsum l h (2 * k)+tsum l h (2 * k+1):=by
 obtain⟨a,b,c,d⟩:=tkids h k h1 hk
 unfold tsum
 rw[a,b,c,d,← Nat.add_assoc]
 omega
theorem qjk (l:List Bool) (h k:Nat) (h1:1≤k) (hk:k<2 ^ h):tlow l h k=min (tlow l h (2 * k)) (tsum l h (2 * k)+tlow l h (2 * k+1)):=by
 obtain⟨a,b,c,d⟩:=tkids h k h1 hk
 unfold tlow tsum
 rw[a,b,c,d,qg1]
theorem tup (h k:Nat) (h2:2≤k) (hk:k<2 * 2 ^ h) (ho:k % 2=1):q1k h (k / 2)+q1i h (k / 2)=q1k h k+q1i h k:=by
 obtain⟨a,b,c,d⟩:=tkids h (k / 2) (by omega) (by omega)
 rw[show 2 * (k / 2)+1=k by omega] at b c
 rw[b,c,d];omega
theorem qo5 (h k:Nat) (h2:2≤k) (hk:k<2 * 2 ^ h) (ho:k % 2=0):q1k h (k+1)=q1k h k+q1i h k:=by
 obtain⟨a,b,c,d⟩:=tkids h (k / 2) (by omega) (by omega)
 rw[show 2 * (k / 2)=k by omega] at a b c d
 rw[b,a]
theorem qh3 (h k:Nat):512≤q1i h k:=by
 have:=Nat.two_pow_pos (h - k.log2);unfold q1i;omega
theorem qh4 (l:List Bool) (h k:Nat):-(2 * (l.length:Int))≤tsum l h k∧tsum l h k≤2 * l.length:=by
 have h1:=q61 l (q1k h k)
 have h2:=q61 l (q1k h k+q1i h k)
 unfold tsum;omega
theorem qh5 (l:List Bool) (h k:Nat):-(2 * (l.length:Int))≤tlow l h k∧tlow l h k≤0:=⟨qab _ _ _,qg2 _ _ _⟩
structure IsAhead (l:List Bool) (i T:Nat):Prop where
 lt:i<T
 le:T≤l.length
 hit:ex l T=ex l i - 1
 above:∀ p,i≤p→p<T→ex l i≤ex l p
theorem IsAhead.iff {l:List Bool} {i T p:Nat} (h:IsAhead l i T) (h1:i≤p) (h2:p≤T):ex l p=ex l i - 1↔p=T:=by
 constructor
 ·intro hp
  by_cases hT:p<T
  ·have:=h.above p h1 hT;omega
  ·omega
 ·rintro rfl;exact h.hit
theorem IsAhead.pass {l:List Bool} {i T a m:Nat} (h:IsAhead l i T) (h1:i≤a):(ex l a+lowN l a m > ex l i - 1→a+m<T∨T<a)∧(¬ ex l a+lowN l a m > ex l i - 1→T≤a+m):=by
 constructor
 ·intro hp
  by_cases hT:a≤T∧T≤a+m
  ·have:=q3o l a m (T - a) (by omega)
   rw[show a+(T - a)=T by omega,h.hit] at this
   omega
  ·omega
 ·intro hp
  obtain⟨q,h2,h3⟩:=q3p l a m
  by_cases hT:a+q<T
  ·have:=h.above (a+q) (by omega) hT;omega
  ·omega
structure IsBehind (l:List Bool) (i:Nat) (want:Int) (B:Nat):Prop where
 lt:B<i
 le:i≤l.length
 hit:ex l B=want
 above:∀ p,B<p→p≤i→want<ex l p
theorem IsBehind.iff {l:List Bool} {i B p:Nat} {want:Int} (h:IsBehind l i want B) (h1:B≤p) (h2:p≤i):ex l p=want↔p=B:=by
 constructor
 ·intro hp
  by_cases hB:B<p
  ·have:=h.above p hB h2;omega
  ·omega
 ·rintro rfl;exact h.hit
theorem IsBehind.pass {l:List Bool} {i B a m:Nat} {want:Int} (h:IsBehind l i want B) (h1:B<a+m) (hp:¬ ex l a+lowN l a m≤want):B<a:=by
 by_cases hB:a≤B
 ·have:=q3o l a m (B - a) (by omega)
  rw[show a+(B - a)=B by omega,h.hit] at this
  omega
 ·omega
end
section
open Go.RowKit
def Bal (l:List Bool):Prop:=ex l l.length=0∧∀ p,p≤l.length→0≤ex l p
theorem q1f (l:List Bool) (p:Nat) (h:l.length≤100000000):-100000000≤ex l p∧ex l p≤100000000:=by
 have:=q61 l p
 omega
def qna (l:List Bool) (e:Ending):Prop:=∃ t:Bool,e=.returned (.bool t)∧(t=true↔Bal l)
theorem q79 (b:Nat) (v:Value) (l:List Bool) (w:World) (h:VecAt w b v l) (hl:l.length≤100000000) :
  Calls Tryz.prog 249 #[.pointer (some ⟨b,0,none⟩)] w fun e w'=>qna l e∧w=w':=by
 have hlen:=q1c b v l w h
 go_enter Tryz.func249,Tryz.ntmps249
 go_wp2_with (go_at_call 99;refine hlen.mono ?_;rintro e w' ⟨rfl,rfl⟩)
 clear hlen
 go_loop [3,7] (fun n i=>∃ k:Nat,k≤l.length∧i=.int .i64 k∧n=.int .i64 (ex l k)∧∀ p,p≤k→0≤ex l p) (fun _ i=>l.length - (intOf i).toNat)
 case atStart =>
  refine⟨0,Nat.zero_le _,rfl,by rw[q5b],fun p hp=>?_⟩
  obtain rfl:p=0:=by omega
  rw[q5b];omega
 case round =>
  obtain⟨k,hk,rfl,rfl,hall⟩:=hrel
  have hb:=q1f l k hl
  by_cases hlt:k<l.length
  ·have hA:=at_in b v l k _ h hlt (by omega)
   have hs:=q5c l hlt
   have hb2:=q1f l (k+1) hl
   unfold stepZ at hs
   have hy:(l.getD k false).toNat≤1:=by cases l.getD k false <;> simp
   generalize (l.getD k false).toNat=y at *
   have hs':ex l k+(2 * (y:Int) - 1)=ex l (k+1):=hs.symm
   have HA:=Lib.hid hall
   clear hs hall
   by_cases hneg:ex l (k+1)<0
   ·have HN:=Lib.hid hneg
    have tn:decide (ex l k+(2 * (y:Int) - 1)<0)=true:=by rw[hs'];exact decide_eq_true hneg
    clear hs' hneg hb2
    generalize ex l k=x at *
    go_wp2_with (go_at_call 195;refine hA.mono ?_;rintro e w' ⟨rfl,rfl⟩)
    all_goals first | (go_ret;exact⟨⟨false,rfl,by simp;intro hB;have:=hB.2 (k+1) (by omega);have:=HN.out;omega⟩,rfl⟩)|omega|skip
   ·have HN:=Lib.hid (And.intro hneg hs')
    have tn:decide (ex l k+(2 * (y:Int) - 1)<0)=false:=by rw[hs'];exact decide_eq_false hneg
    clear hs' hneg hb2
    generalize hx:ex l k=x at *
    go_wp2_with (go_at_call 195;refine hA.mono ?_;rintro e w' ⟨rfl,rfl⟩)
    go_round
    case rel =>
     refine⟨k+1,by omega,by go_num,by rw[HN.out.2],fun p hp=>?_⟩
     by_cases hp2:p≤k
     ·exact HA.out p hp2
     ·obtain rfl:p=k+1:=by omega
      have:=HN.out.1;omega
    case measure=>simp[intOf];omega
  ·obtain rfl:k=l.length:=by omega
   have HA:=Lib.hid hall
   clear hall
   generalize hx:ex l l.length=x at *
   have HX:=Lib.hid hx
   clear hx
   go_wp2
   go_ret
   refine⟨⟨_,rfl,?_⟩,rfl⟩
   simp only [beq_iff_eq]
   unfold Bal
   rw[HX.out]
   exact⟨fun h=>⟨h,HA.out⟩,fun h=>h.1⟩
def q2k (bi:Nat) (done:Bool) (lock:Int) (tv:Value) (built:Int):Array Value :=
 #[.pointer (some ⟨bi,0,none⟩),.int .u32 (if done then 1 else 0),.int .i32 lock,.int .u32 0,tv,.int .i64 built]
def IsH (l:List Bool) (h:Nat):Prop:=l.length≤512 * 2 ^ h∧∀ j,j<h→512 * 2 ^ j<l.length
theorem IsH.ex (l:List Bool):∃ h,IsH l h:=by
 have h0:∃ h,l.length≤512 * 2 ^ h:=⟨l.length,by have:=Nat.lt_two_pow_self (n:=l.length);omega⟩
 obtain⟨h,hh⟩:=h0
 induction h with
 | zero=>exact⟨0,hh,fun j hj=>by omega⟩
 | succ h ih =>
  by_cases hc:l.length≤512 * 2 ^ h
  ·exact ih hc
  ·refine⟨h+1,hh,fun j hj=>?_⟩
   have:2 ^ j≤2 ^ h:=Nat.pow_le_pow_right (by decide) (by omega)
   omega
theorem IsH.bound {l:List Bool} {h:Nat} (a:IsH l h) (hl:l.length≤100000000):1≤2 ^ h∧2 ^ h≤400000:=by
 refine⟨Nat.two_pow_pos h,?_⟩
 match h,a with
 | 0,_=>decide
 | h+1,a=>have:=a.2 h (by omega);rw[Nat.pow_succ];omega
def TreeAt (w:World) (done:Bool) (tv:Value) (l:List Bool):Prop :=
 if done then ∃ h g,IsH l h∧tv=.slice (some ⟨g,0,none⟩) (2 * 2 ^ h) (2 * 2 ^ h)∧g<w.heap.size∧∀ k,1≤k→k<2 * 2 ^ h →
  w.cell? ⟨g,k * 2,none⟩=some (.int .i64 (tsum l h k))∧w.cell? ⟨g,k * 2+1,none⟩=some (.int .i64 (tlow l h k))
 else tv=.slice none 0 0
theorem TreeAt.keeps {w w':World} {done:Bool} {tv:Value} {l:List Bool} {G:Nat→Prop} (h:TreeAt w done tv l) (k:Keeps G w w') (hG:∀ x,tv.ownBlock=some x→¬ G x):TreeAt w' done tv l:=by
 cases done with
 | false=>exact h
 | true =>
  obtain⟨h,g,h1,rfl,hg,h2⟩:=h
  refine⟨h,g,h1,rfl,Nat.lt_of_lt_of_le hg k.size,fun j hj hj2=>?_⟩
  rw[World.cell?_of_block (w:=w) (a:=⟨g,_,none⟩) (k.block g hg (hG g rfl)),World.cell?_of_block (w:=w) (a:=⟨g,_,none⟩) (k.block g hg (hG g rfl))]
  exact h2 j hj hj2
structure ParAt (w:World) (b:Nat) (l:List Bool) (done:Bool) (q:Nat) (F:Nat→Prop):Prop where
 ex:∃ bi tv FI dI asked,w.heap[b]? = some (.cells (q2k bi done 0 tv (if done then 1 else 0)) 335 (0,0))∧IdxAt w bi l dI asked FI∧asked≤q ∧
  (∀ x,FI x→F x)∧F b∧¬ FI b∧(∀ k,tv.ownBlock=some k→F k∧¬ FI k∧k≠b)∧TreeAt w done tv l
 old:∀ k,F k→k<w.heap.size
def ParAfter (w:World) (b:Nat) (l:List Bool) (done:Bool) (q:Nat) (F:Nat→Prop) (w':World):Prop :=
 ParAt w' b l done q (grow F w w')∧Keeps F w w'
def PIdx (w:World) (b:Nat) (l:List Bool):Prop:=∃ bi FI dI asked,w.cell? ⟨b,0,none⟩=some (.pointer (some ⟨bi,0,none⟩))∧IdxAt w bi l dI asked FI
theorem ParAt.idx {w:World} {b:Nat} {l:List Bool} {done:Bool} {q:Nat} {F:Nat→Prop} (h:ParAt w b l done q F):PIdx w b l:=by
 obtain⟨⟨bi,tv,FI,dI,asked,hb,hI,_⟩,_⟩:=h
 exact⟨bi,FI,dI,asked,World.cell_of_heap hb 0,hI⟩
theorem PIdx.le {w:World} {b:Nat} {l:List Bool} (h:PIdx w b l):l.length≤100000000:=by
 obtain⟨bi,FI,dI,asked,_,hI⟩:=h
 exact hI.le
theorem q4n (b:Nat) (l:List Bool) (w:World) (h:PIdx w b l) :
  Calls Tryz.prog 301 #[.pointer (some ⟨b,0,none⟩)] w fun e w'=>e=.returned (.int .i64 l.length)∧w=w':=by
 obtain⟨bi,FI,dI,asked,c0,hI⟩:=h
 have hL:=q3d bi l dI asked FI w hI
 clear hI
 go_enter Tryz.func301,Tryz.ntmps301
 go_wp2_with (go_at_call 260;refine hL.mono ?_;rintro e w' ⟨rfl,rfl⟩)
 go_ret
 exact⟨rfl,rfl⟩
theorem q5e (b:Nat) (l:List Bool) (i:Int) (w:World) (h:PIdx w b l) :
  Calls Tryz.prog 303 #[.pointer (some ⟨b,0,none⟩),.int .i64 i] w fun e w'=>e=.returned (.bool (atZ l i == 1))∧w=w':=by
 obtain⟨bi,FI,dI,asked,c0,hI⟩:=h
 have hL:=q6a bi l dI asked FI i w hI
 clear hI
 generalize atZ l i=z at *
 go_enter Tryz.func303,Tryz.ntmps303
 go_wp2_with (go_at_call 282;refine hL.mono ?_;rintro e w' ⟨rfl,rfl⟩)
 go_ret
 exact⟨rfl,rfl⟩
theorem q3q (b:Nat) (l:List Bool) (n:Nat) (w:World) (h:PIdx w b l) (hn:n<l.length) :
  Calls Tryz.prog 310 #[.pointer (some ⟨b,0,none⟩),.int .i64 n] w fun e w'=>e=.returned (.int .i64 (stepZ l n))∧w=w':=by
 obtain⟨bi,FI,dI,asked,c0,hI⟩:=h
 have hL:=q6a bi l dI asked FI n w hI
 have hat:atZ l n=((l.getD n false).toNat:Int):=by
  unfold atZ
  rw[if_pos (by omega),Int.toNat_natCast]
 rw[hat] at hL
 have hy:(l.getD n false).toNat≤1:=by cases l.getD n false <;> simp
 clear hI hat
 unfold stepZ
 generalize (l.getD n false).toNat=y at *
 go_enter Tryz.func310,Tryz.ntmps310
 go_wp2_with (go_at_call 282;refine hL.mono ?_;rintro e w' ⟨rfl,rfl⟩)
 go_ret
 exact⟨rfl,rfl⟩
theorem q62 (b:Nat) (l:List Bool) (h:Nat) (w:World) (hP:PIdx w b l) (hh:IsH l h) :
  Calls Tryz.prog 311 #[.pointer (some ⟨b,0,none⟩)] w fun e w'=>e=.returned (.int .i64 ((2 ^ h:Nat):Int))∧w=w':=by
 have hL:=q4n b l w hP
 have hb:=hh.bound hP.le
 have hle:=hP.le
 have HH:=Lib.hid hh
 clear hP hh
 go_enter Tryz.func311,Tryz.ntmps311
 go_wp2_with fail
 go_loop [3] (fun n=>∃ j:Nat,j≤h∧n=.int .i64 ((2 ^ j:Nat):Int)) (fun n=>2 ^ h - (intOf n).toNat)
 case atStart=>exact⟨0,Nat.zero_le _,rfl⟩
 case round =>
  obtain⟨j,hj,rfl⟩:=hrel
  have hj1:2 ^ j≤2 ^ h:=Nat.pow_le_pow_right (by decide) hj
  have hj2:=Nat.two_pow_pos j
  by_cases hlt:j<h
  ·have h1:=HH.out.2 j hlt
   have h2:2 ^ (j+1)≤2 ^ h:=Nat.pow_le_pow_right (by decide) hlt
   have h3:2 ^ (j+1)=2 ^ j * 2:=Nat.pow_succ 2 j
   have HT:=Lib.hid h3
   rw[h3] at h2
   clear h3
   generalize 2 ^ j=x at *
   go_wp2_with (go_at_call 301;refine hL.mono ?_;rintro e w' ⟨rfl,rfl⟩)
   go_round
   case rel=>exact⟨j+1,by omega,by rw[HT.out];go_num⟩
   case measure=>simp[intOf];omega
  ·obtain rfl:j=h:=by omega
   have h1:=HH.out.1
   clear hj1
   generalize hx:2 ^ j=x at *
   have HX:=Lib.hid hx
   clear hx
   go_wp2_with (go_at_call 301;refine hL.mono ?_;rintro e w' ⟨rfl,rfl⟩)
   go_ret
   exact⟨q32 (by rw[HX.out]),rfl⟩
theorem q9i (b:Nat) (l:List Bool) (done:Bool) (q:Nat) (F:Nat→Prop) (n:Nat) (w:World) (h:ParAt w b l done q F) (hq:q≤1000000000000) (hn:n≤l.length) :
  Calls Tryz.prog 302 #[.pointer (some ⟨b,0,none⟩),.int .i64 n] w fun e w'=>e=.returned (.int .i64 (ex l n))∧ParAfter w b l done (q+1) F w':=by
 obtain⟨⟨bi,tv,FI,dI,asked,hb,hI,hq2,hFI,Fb,nb,htv,hT⟩,hold⟩:=h
 have hR:=qjw bi l dI asked FI 1 n w hI (by omega) (.inr rfl) hn
 have c0:w.cell? ⟨b,0,none⟩=some (.pointer (some ⟨bi,0,none⟩)):=World.cell_of_heap hb 0
 have hx:=q4b l 1 (.inr rfl) n hn
 have hle:=hI.le
 have hex:2 * rk l 1 n - (n:Int)=ex l n:=by unfold ex;rw[Nat.min_eq_left hn]
 have hfin:∀ w',IdxAfter w bi l true (asked+1) FI w'→ParAfter w b l done (q+1) F w':=by
  rintro w' ⟨h1,h2⟩
  refine⟨⟨⟨bi,tv,_,true,asked+1,h2.at hb nb,h1,by omega,?_,.inl Fb,?_,fun k hk=>⟨.inl (htv k hk).1,?_,(htv k hk).2.2⟩,hT.keeps h2 (fun x hx=>(htv x hx).2.1)⟩,q0x hold h2.size⟩,h2.mono (fun x _ hx=>hFI x hx)⟩
  ·rintro x (hx|hx)
   ·exact .inl (hFI x hx)
   ·exact .inr hx
  ·rintro (hx|hx)
   ·exact nb hx
   ·have:=lt_of_block hb;omega
  ·rintro (hx|hx)
   ·exact (htv k hk).2.1 hx
   ·have:=hold k (htv k hk).1;omega
 have HF:=Lib.hid (And.intro hfin hex)
 clear hI hb hT htv hfin hex
 generalize rk l 1 n=x at *
 go_enter Tryz.func302,Tryz.ntmps302
 go_wp2_with (go_at_call 284;refine hR.mono ?_;rintro e w1 ⟨rfl,hA⟩)
 go_ret
 exact⟨q32 HF.out.2,HF.out.1 _ hA⟩
end
section
open Go.RowKit
theorem qej (b2:Nat) (v2:Value) (l2:List Bool) (w:World) (h2:VecAt w b2 v2 l2) (hl:l2.length≤100000000) (hB:Bal l2) :
  Calls Tryz.prog 213 #[.pointer (some ⟨b2,0,none⟩)] w fun e w'=>∃ b,e=.returned (.tuple #[.pointer (some ⟨b,0,none⟩),.int .i64 0])∧ParAt w' b l2 false 0 (fun k=>w.heap.size≤k∧k<w'.heap.size)∧Keeps (fun _=>False) w w':=by
 have hb:=q79 b2 v2 l2 w h2 hl
 have hN:=q5f b2 v2 l2 w h2 hl
 have hnot:∀ (x:Bool) (w:World),(Op.unary .not (.bool x)).run Tryz.prog w=.ok (.bool (!x)) w:=fun _ _=>rfl
 have HB:=Lib.hid hB
 clear hB h2
 go_enter Tryz.func213,Tryz.ntmps213
 go_wp2_with fail
 refine hb.mono ?_
 rintro e w0 ⟨⟨t,rfl,ht⟩,rfl⟩
 obtain rfl:t=true:=ht.2 HB.out
 clear ht hb
 go_wp2_with fail
 refine hN.mono ?_
 rintro e w1 ⟨bi,rfl,hI,hk⟩
 have HI:=Lib.hid (And.intro hI hk)
 clear hI hk hN
 go_wp2
 go_ret2
 obtain⟨hI,hk⟩:=HI.out
 have k2:=(Keeps.refl (fun _=>False) w1).alloc (.cells (q2k bi false 0 (.slice none 0 0) 0) 335)
 have hs:=hk.size
 refine⟨w1.heap.size,rfl,⟨⟨bi,.slice none 0 0,_,false,0,heap_alloc_new w1 _,hI.keeps k2 (fun _ _ h=>h),by omega,?_,?_,?_,?_,rfl⟩,fun k hk=>hk.2⟩,hk.alloc _⟩
 ·rintro x hx
  simp;omega
 ·simp;omega
 ·omega
 ·intro k hk;simp[Value.ownBlock] at hk
theorem qh6 (b2:Nat) (v2:Value) (l2:List Bool) (w:World) (h2:VecAt w b2 v2 l2) (hl:l2.length≤100000000) (hB:¬ Bal l2) :
  Calls Tryz.prog 213 #[.pointer (some ⟨b2,0,none⟩)] w fun e w'=>e=.returned (.tuple #[.pointer none,.int .i64 9])∧w=w':=by
 have hb:=q79 b2 v2 l2 w h2 hl
 have hnot:∀ (x:Bool) (w:World),(Op.unary .not (.bool x)).run Tryz.prog w=.ok (.bool (!x)) w:=fun _ _=>rfl
 have HB:=Lib.hid hB
 clear hB h2
 go_enter Tryz.func213,Tryz.ntmps213
 go_wp2_with fail
 refine hb.mono ?_
 rintro e w0 ⟨⟨t,rfl,ht⟩,rfl⟩
 obtain rfl:t=false:=by cases t with
  | false=>rfl
  | true=>exact absurd (ht.1 rfl) HB.out
 clear ht hb
 go_wp2
 go_ret2
 exact⟨rfl,rfl⟩
theorem ParAt.mono {w:World} {b:Nat} {l:List Bool} {done:Bool} {q:Nat} {F G:Nat→Prop} (h:ParAt w b l done q F) (hG:∀ x,F x→G x) (hold:∀ x,G x→x<w.heap.size):ParAt w b l done q G:=by
 obtain⟨⟨bi,tv,FI,dI,asked,hb,hI,hq,hFI,Fb,nb,htv,hT⟩,_⟩:=h
 exact⟨⟨bi,tv,FI,dI,asked,hb,hI,hq,fun x hx=>hG x (hFI x hx),hG b Fb,nb,fun k hk=>⟨hG k (htv k hk).1,(htv k hk).2⟩,hT⟩,hold⟩
theorem ParAt.more {w:World} {b:Nat} {l:List Bool} {done:Bool} {q q':Nat} {F:Nat→Prop} (h:ParAt w b l done q F) (hq:q≤q'):ParAt w b l done q' F:=by
 obtain⟨⟨bi,tv,FI,dI,asked,hb,hI,hq2,r⟩,hold⟩:=h
 exact⟨⟨bi,tv,FI,dI,asked,hb,hI,by omega,r⟩,hold⟩
theorem ParAt.keeps {w w':World} {b:Nat} {l:List Bool} {done:Bool} {q:Nat} {F G:Nat→Prop} (h:ParAt w b l done q F) (k:Keeps G w w') (hd:∀ x,F x→¬ G x):ParAt w' b l done q F:=by
 obtain⟨⟨bi,tv,FI,dI,asked,hb,hI,hq,hFI,Fb,nb,htv,hT⟩,hold⟩:=h
 exact⟨⟨bi,tv,FI,dI,asked,k.at hb (hd b Fb),hI.keeps k (fun x hx=>hd x (hFI x hx)),hq,hFI,Fb,nb,htv,hT.keeps k (fun x hx=>hd x (htv x hx).1)⟩,fun x hx=>Nat.lt_of_lt_of_le (hold x hx) k.size⟩
theorem ParAt.after {w:World} {b:Nat} {l:List Bool} {done:Bool} {q:Nat} {F:Nat→Prop} (h:ParAt w b l done q F):ParAfter w b l done q F w :=
 ⟨h.mono (fun _ hx=>.inl hx) (q0x h.old (Nat.le_refl _)),Keeps.refl _ _⟩
theorem ParAfter.more {wh w:World} {b:Nat} {l:List Bool} {done:Bool} {q q':Nat} {F:Nat→Prop} (h:ParAfter wh b l done q F w) (hq:q≤q'):ParAfter wh b l done q' F w:=⟨h.1.more hq,h.2⟩
theorem ParAfter.trans {wh w1 w2:World} {b:Nat} {l:List Bool} {done done':Bool} {q q':Nat} {F:Nat→Prop} (hF:∀ x,F x→x<wh.heap.size) (h:ParAfter wh b l done q F w1) (k:ParAfter w1 b l done' q' (grow F wh w1) w2):ParAfter wh b l done' q' F w2:=by
 obtain⟨h1,h2⟩:=h
 obtain⟨k1,k2⟩:=k
 refine⟨k1.mono (q6u h2.size k2.size) (q0x hF (Nat.le_trans h2.size k2.size)),h2.trans k2 ?_⟩
 rintro x hx (h|h)
 ·exact h
 ·omega
theorem ParAfter.keeps {wh w1 w2:World} {b:Nat} {l:List Bool} {done:Bool} {q:Nat} {F G:Nat→Prop} (h:ParAfter wh b l done q F w1) (k:Keeps G w1 w2) (hG:∀ x,x<w1.heap.size→¬ G x):ParAfter wh b l done q F w2:=by
 obtain⟨h1,h2⟩:=h
 refine⟨(h1.keeps k (fun x hx=>hG x (h1.old x hx))).mono ?_ ?_,h2.trans k (fun x hx hg=>absurd hg (hG x (Nat.lt_of_lt_of_le hx h2.size)))⟩
 ·rintro x (h|h)
  ·exact .inl h
  ·exact .inr ⟨h.1,Nat.lt_of_lt_of_le h.2 k.size⟩
 ·rintro x (h|h)
  ·exact Nat.lt_of_lt_of_le (h1.old x (.inl h)) k.size
  ·exact h.2
theorem ParAfter.idx {wh w:World} {b:Nat} {l:List Bool} {done:Bool} {q:Nat} {F:Nat→Prop} (h:ParAfter wh b l done q F w):PIdx w b l:=h.1.idx
theorem q14 {wh wr:World} {b:Nat} {l:List Bool} {done:Bool} {q:Nat} {F:Nat→Prop} (hF:∀ x,F x→x<wh.heap.size) (h:ParAfter wh b l done q F wr) (n:Nat) (hq:q≤1000000000000) (hn:n≤l.length) :
  Calls Tryz.prog 302 #[.pointer (some ⟨b,0,none⟩),.int .i64 n] wr fun e w'=>e=.returned (.int .i64 (ex l n))∧ParAfter wh b l done (q+1) F w' :=
 (q9i b l done q _ n wr h.1 hq hn).mono fun _ _ ⟨he,hw⟩=>⟨he,h.trans hF hw⟩
theorem qjl {wh wr:World} {b:Nat} {l:List Bool} {done:Bool} {q:Nat} {F:Nat→Prop} (hF:∀ x,F x→x<wh.heap.size) (h:ParAfter wh b l done q F wr) (n:Nat) (hq:q≤1000000000000) (hn:n≤l.length) :
  Calls Tryz.prog 287 #[.pointer (some ⟨b,0,none⟩),.int .i64 n] wr fun e w'=>e=.returned (.tuple #[.int .i64 (ex l n),.int .i64 0])∧ParAfter wh b l done (q+1) F w':=by
 have hL:=q4n b l wr h.idx
 have hE:=q14 hF h n hq hn
 have hle:=h.idx.le
 clear h hF
 go_enter Tryz.func287,Tryz.ntmps287
 go_wp2_with (first | (go_at_call 301;refine hL.mono ?_;rintro e w' ⟨rfl,rfl⟩) | (go_at_call 302;refine hE.mono ?_;rintro e w' ⟨rfl,hA⟩))
 go_ret2
 exact⟨rfl,hA⟩
end
section
open Go.RowKit
structure TL (L:Nat) (ts tw:Nat→Nat):Prop where
 up:∀ k,2≤k→k<2 * L→k % 2=1→ts (k / 2)+tw (k / 2)=ts k+tw k
 right:∀ k,2≤k→k<2 * L→k % 2=0→ts (k+1)=ts k+tw k
 kids:∀ k,1≤k→k<L→ts (2 * k)=ts k∧ts (2 * k+1)=ts k+tw (2 * k)∧tw (2 * k+1)=tw (2 * k)∧tw k=tw (2 * k)+tw (2 * k)
 leaf:∀ b,b<L→ts (L+b)=512 * b
 leafw:∀ b,b<L→tw (L+b)=512
 root:ts 1+tw 1=512 * L
 pos:∀ k,512≤tw k
theorem TL.of (h:Nat):TL (2 ^ h) (q1k h) (q1i h) :=
 ⟨tup h,qo5 h,tkids h,q8v h,q8w h,by rw[qeh,qei];omega,qh3 h⟩
theorem qjm {w:World} {b:Nat} {l:List Bool} {q:Nat} {F:Nat→Prop} (h:ParAt w b l true q F) :
  ∃ L ts tw g,TL L ts tw∧l.length≤512 * L∧1≤L∧L≤400000∧w.cell? ⟨b,4,none⟩=some (.slice (some ⟨g,0,none⟩) (2 * L) (2 * L))∧F g ∧
   (∀ W,PIdx W b l→Calls Tryz.prog 311 #[.pointer (some ⟨b,0,none⟩)] W fun e w'=>e=.returned (.int .i64 L)∧W=w') ∧
   ∀ k,1≤k→k<2 * L→w.cell? ⟨g,k * 2,none⟩=some (.int .i64 (ex l (ts k+tw k) - ex l (ts k)))∧w.cell? ⟨g,k * 2+1,none⟩=some (.int .i64 (lowN l (ts k) (tw k))):=by
 have hle:=h.idx.le
 obtain⟨⟨bi,tv,FI,dI,asked,hb,hI,hq,hFI,Fb,nb,htv,h,g,hh,rfl,hg,hc⟩,hold⟩:=h
 exact⟨2 ^ h,q1k h,q1i h,g,TL.of h,hh.1,(hh.bound hle).1,(hh.bound hle).2,World.cell_of_heap hb 4,(htv g rfl).1,fun W hW=>q62 b l h W hW hh,hc⟩
theorem q7w (l:List Bool) (a m:Nat) (h:l.length≤100000000):-200000000≤lowN l a m∧lowN l a m≤0:=by
 have:=qab l a m
 have:=qg2 l a m
 omega
theorem qjn {wh wr:World} {b:Nat} {l:List Bool} {q:Nat} {F:Nat→Prop} (hF:∀ x,F x→x<wh.heap.size) (h:ParAfter wh b l true q F wr) (i T:Nat) (hq:q<1000000000000) (hT:IsAhead l i T) :
  Calls Tryz.prog 308 #[.pointer (some ⟨b,0,none⟩),.int .i64 i] wr fun e w'=>e=.returned (.int .i64 T)∧ParAfter wh b l true (q+2) F w':=by
 have hle:=h.idx.le
 have hiT:=hT.lt
 have hTn:=hT.le
 have hE1:=q14 hF h i (by omega) (by omega)
 have hxi:=q1f l i hle
 have HT:=Lib.hid hT
 clear hT h
 obtain⟨y,hy⟩:∃ y,ex l i=y:=⟨_,rfl⟩
 have HY:=Lib.hid hy
 rw[hy] at hE1 hxi
 clear hy
 go_enter Tryz.func308,Tryz.ntmps308
 go_wp2_with fail
 refine hE1.mono ?_
 rintro e w1 ⟨rfl,h1⟩
 have hE2:=q14 hF h1 i (by omega) (by omega)
 rw[HY.out] at hE2
 clear h1 hE1
 go_wp2_with fail
 refine hE2.mono ?_
 rintro e w2 ⟨rfl,h2⟩
 clear hE2
 have hP:=h2.idx
 obtain⟨L,ts,tw,g,hTL,hnL,hL1,hL2,c4,_,hLv,hnode⟩:=qjm h2.1
 have hLv:=hLv w2 hP
 have H2:=Lib.hid (And.intro h2 (And.intro hTL hnode))
 clear h2 hTL hnode
 go_wp2_with fail
 go_loop [6,7] (fun at' e=>∃ k:Nat,i≤k∧k<T∧at'=.int .i64 k∧e=.int .i64 (ex l k)) (fun at' _=>T - (intOf at').toNat)
 case atStart=>exact⟨i,Nat.le_refl _,hiT,rfl,by rw[HY.out]⟩
 case round =>
  obtain⟨k,hk1,hk2,rfl,rfl⟩:=hrel
  have hxk:=q1f l k hle
  by_cases hc:¬ (k:Int) % 512=0∨k=i
  ·have hS:=q3q b l k w2 hP (by omega)
   have hsc:=q2w l k
   have hs:=q5c l (p:=k) (by omega)
   have hiff:=HT.out.iff (p:=k+1) (by omega) (by omega)
   rw[HY.out,hs] at hiff
   have HS:=Lib.hid hs
   clear hs
   by_cases hend:k+1=T
   ·have te:(ex l k+stepZ l k == y - 1)=true:=by rw[beq_iff_eq];exact hiff.2 hend
    clear hiff
    generalize ex l k=x at *
    generalize stepZ l k=z at *
    rcases hc with hc|rfl
    ·have tm:((k:Int) % 512 != 0)=true:=by simp only [bne_iff_ne];exact hc
     go_wp2_with (go_at_call 310;refine hS.mono ?_;rintro e w' ⟨rfl,rfl⟩)
     go_ret
     exact⟨q32 (by omega),H2.out.1⟩
    ·by_cases hc:(k:Int) % 512=0
     ·have tm:((k:Int) % 512 != 0)=false:=by simp only [bne_eq_false_iff_eq];exact hc
      go_wp2_with (go_at_call 310;refine hS.mono ?_;rintro e w' ⟨rfl,rfl⟩)
      go_ret
      exact⟨q32 (by omega),H2.out.1⟩
     ·have tm:((k:Int) % 512 != 0)=true:=by simp only [bne_iff_ne];exact hc
      go_wp2_with (go_at_call 310;refine hS.mono ?_;rintro e w' ⟨rfl,rfl⟩)
      go_ret
      exact⟨q32 (by omega),H2.out.1⟩
   ·have te:(ex l k+stepZ l k == y - 1)=false:=by rw[beq_eq_false_iff_ne];exact fun h=>hend (hiff.1 h)
    clear hiff
    generalize ex l k=x at *
    generalize stepZ l k=z at *
    rcases hc with hc|rfl
    ·have tm:((k:Int) % 512 != 0)=true:=by simp only [bne_iff_ne];exact hc
     go_wp2_with (go_at_call 310;refine hS.mono ?_;rintro e w' ⟨rfl,rfl⟩)
     go_round
     case rel=>exact⟨k+1,by omega,by omega,by go_num,by rw[HS.out]⟩
     case measure=>simp[intOf];omega
    ·by_cases hc:(k:Int) % 512=0
     ·have tm:((k:Int) % 512 != 0)=false:=by simp only [bne_eq_false_iff_eq];exact hc
      go_wp2_with (go_at_call 310;refine hS.mono ?_;rintro e w' ⟨rfl,rfl⟩)
      go_round
      case rel=>exact⟨k+1,by omega,by omega,by go_num,by rw[HS.out]⟩
      case measure=>simp[intOf];omega
     ·have tm:((k:Int) % 512 != 0)=true:=by simp only [bne_iff_ne];exact hc
      go_wp2_with (go_at_call 310;refine hS.mono ?_;rintro e w' ⟨rfl,rfl⟩)
      go_round
      case rel=>exact⟨k+1,by omega,by omega,by go_num,by rw[HS.out]⟩
      case measure=>simp[intOf];omega
  ·have hm:(k:Int) % 512=0:=Decidable.not_not.1 (fun h=>hc (.inl h))
   have hki:¬ k=i:=fun h=>hc (.inr h)
   clear hc
   have tm:((k:Int) % 512 != 0)=false:=by simp only [bne_eq_false_iff_eq];exact hm
   have ti:((k:Int) == (i:Int))=false:=by simp only [beq_eq_false_iff_ne];omega
   have hkL:k / 512<L:=by omega
   have hst:ts (L+k / 512)=k:=by rw[H2.out.2.1.leaf _ hkL];omega
   have HST:=Lib.hid hst
   clear hst
   obtain⟨x,hx⟩:∃ x,ex l k=x:=⟨_,rfl⟩
   have HX:=Lib.hid hx
   rw[hx]
   clear hx
   go_wp2_with (go_at_call 311;refine hLv.mono ?_;rintro e w' ⟨rfl,rfl⟩)
   go_loop [7,8] (fun e kk=>∃ j:Nat,1≤j∧j<2 * L∧i≤ts j∧ts j<T∧kk=.int .i64 j∧e=.int .i64 (ex l (ts j))) (fun _ kk=>512 * L - ts (intOf kk).toNat)
   case atStart=>exact⟨L+k / 512,by omega,by omega,by rw[HST.out];omega,by rw[HST.out];omega,by go_num,by rw[HST.out,HX.out]⟩
   case round =>
    obtain⟨j,hj1,hj2,hj3,hj4,rfl,rfl⟩:=hrel
    obtain⟨n0,n1⟩:=H2.out.2.2 j hj1 hj2
    obtain⟨hp1,hp2⟩:=HT.out.pass (a:=ts j) (m:=tw j) hj3
    rw[HY.out] at hp1 hp2
    have hb1:=q1f l (ts j) hle
    have hb2:=q1f l (ts j+tw j) hle
    have hb3:=q7w l (ts j) (tw j) hle
    by_cases hgo:ex l (ts j)+lowN l (ts j) (tw j) > y - 1
    ·have hQ:ts j+tw j<T:=by
      have:=hp1 hgo
      omega
     have hpos:=H2.out.2.1.pos j
     have HQ:=Lib.hid (And.intro hQ hpos)
     obtain⟨Q,hQd⟩:∃ Q,Q=ts j+tw j:=⟨_,rfl⟩
     rw[← hQd] at n0 hb2 hQ
     have HD:=Lib.hid hQd
     clear hp1 hp2 hQd hpos
     generalize hxs:ex l (ts j)=xs at *
     generalize hxq:ex l Q=xq at *
     generalize lowN l (ts j) (tw j)=lo at *
     have HXS:=Lib.hid (And.intro hxs hxq)
     clear hxs hxq
     go_wp2
     go_loop [8] (fun kk=>∃ m:Nat,1≤m∧m<2 * L∧ts m+tw m=Q∧kk=.int .i64 m) (fun kk=>(intOf kk).toNat)
     case atStart=>exact⟨j,hj1,hj2,HD.out.symm,rfl⟩
     case round =>
      obtain⟨m,hm1,hm2,hm3,rfl⟩:=hrel
      have hm4:2≤m:=by
       rcases Nat.lt_or_ge 1 m with h|h
       ·exact h
       ·obtain rfl:m=1:=by omega
        have:=H2.out.2.1.root
        omega
      clear n0 n1
      by_cases hodd:m % 2=1
      ·have to:((m:Int) % 2 == 1)=true:=by rw[beq_iff_eq];omega
       have hup:=H2.out.2.1.up m hm4 hm2 hodd
       have HU:=Lib.hid (hup.trans hm3)
       clear hup hm3
       go_wp2
       go_round
       case rel=>exact⟨m / 2,by omega,by omega,HU.out,by go_num⟩
       case measure=>simp[intOf];omega
      ·have to:((m:Int) % 2 == 1)=false:=by rw[beq_eq_false_iff_ne];omega
       have hri:=H2.out.2.1.right m hm4 hm2 (by omega)
       have HU:=Lib.hid (hri.trans hm3)
       clear hri hm3
       go_wp2
       go_round
       case rel =>
        have h2:=HD.out
        exact⟨m+1,by omega,by omega,by rw[HU.out];omega,by rw[HU.out];exact hQ,by go_num,by rw[HU.out,HXS.out.2];go_num⟩
       case measure =>
        have h1:=HU.out
        have h2:=HD.out
        have h3:=HQ.out
        simp[intOf]
        rw[h1]
        omega
    ·have hQ:=hp2 hgo
     have hgo2:decide (ex l (ts j)+lowN l (ts j) (tw j) > y - 1)=false:=decide_eq_false hgo
     clear hp1 hp2 hgo
     generalize hxs:ex l (ts j)=xs at *
     generalize lowN l (ts j) (tw j)=lo at *
     have HXS:=Lib.hid hxs
     clear hxs
     go_wp2
     clear n0 n1 hb2 hb3
     go_loop [7,8] (fun e kk=>∃ m:Nat,1≤m∧m<2 * L∧i≤ts m∧ts m<T∧T≤ts m+tw m∧kk=.int .i64 m∧e=.int .i64 (ex l (ts m))) (fun _ kk=>2 * L - (intOf kk).toNat)
     case atStart=>exact⟨j,hj1,hj2,hj3,hj4,hQ,rfl,by rw[HXS.out]⟩
     case round =>
      obtain⟨m,hm1,hm2,hm3,hm4,hm5,rfl,rfl⟩:=hrel
      clear hb1
      have hb1:=q1f l (ts m) hle
      by_cases hin:m<L
      ·obtain⟨k1,k2,k3,k4⟩:=H2.out.2.1.kids m hm1 hin
       obtain⟨n0,n1⟩:=H2.out.2.2 (m * 2) (by omega) (by omega)
       rw[Nat.mul_comm 2 m] at k1 k2 k3 k4
       rw[k1] at n0 n1
       obtain⟨hp1,hp2⟩:=HT.out.pass (a:=ts m) (m:=tw (m * 2)) hm3
       rw[HY.out] at hp1 hp2
       have hb2:=q1f l (ts m+tw (m * 2)) hle
       have hb3:=q7w l (ts m) (tw (m * 2)) hle
       have HK:=Lib.hid (And.intro k1 (And.intro k2 (And.intro k3 k4)))
       have hpos:=H2.out.2.1.pos (m * 2)
       by_cases hgo:ex l (ts m)+lowN l (ts m) (tw (m * 2)) > y - 1
       ·have hQ2:ts m+tw (m * 2)<T:=by
         have:=hp1 hgo
         omega
        have hgo2:decide (ex l (ts m)+lowN l (ts m) (tw (m * 2)) > y - 1)=true:=decide_eq_true hgo
        clear hp1 hp2 hgo k1 k2 k3 k4
        generalize hxs:ex l (ts m)=xs at *
        generalize hxq:ex l (ts m+tw (m * 2))=xq at *
        generalize lowN l (ts m) (tw (m * 2))=lo at *
        have HXS:=Lib.hid (And.intro hxs hxq)
        clear hxs hxq
        go_wp2_with (go_at_call 311;refine hLv.mono ?_;rintro e w' ⟨rfl,rfl⟩)
        go_round
        case rel=>exact⟨m * 2+1,by omega,by omega,by rw[HK.out.2.1];omega,by rw[HK.out.2.1];exact hQ2,by rw[HK.out.2.1,HK.out.2.2.1];have:=HK.out.2.2.2;omega,by go_num,by rw[HK.out.2.1,HXS.out.2];go_num⟩
        case measure=>simp[intOf];omega
       ·have hQ2:=hp2 hgo
        have hgo2:decide (ex l (ts m)+lowN l (ts m) (tw (m * 2)) > y - 1)=false:=decide_eq_false hgo
        clear hp1 hp2 hgo k1 k2 k3 k4
        generalize hxs:ex l (ts m)=xs at *
        generalize lowN l (ts m) (tw (m * 2))=lo at *
        have HXS:=Lib.hid hxs
        clear hxs
        go_wp2_with (go_at_call 311;refine hLv.mono ?_;rintro e w' ⟨rfl,rfl⟩)
        go_round
        case rel=>exact⟨m * 2,by omega,by omega,by rw[HK.out.1];omega,by rw[HK.out.1];exact hm4,by rw[HK.out.1];exact hQ2,by go_num,by rw[HK.out.1,HXS.out]⟩
        case measure=>simp[intOf];omega
      ·obtain⟨c,rfl⟩:∃ c,m=L+c:=⟨m - L,by omega⟩
       have hl1:=H2.out.2.1.leaf c (by omega)
       rw[hl1] at hm3 hm4 hb1 ⊢
       clear hm5 hl1
       generalize hxs:ex l (512 * c)=xs at *
       have HXS:=Lib.hid hxs
       clear hxs
       go_wp2_with (go_at_call 311;refine hLv.mono ?_;rintro e w' ⟨rfl,rfl⟩)
       go_loop [6,7] (fun at' e=>∃ p:Nat,i≤p∧p≤T∧at'=.int .i64 p∧e=.int .i64 (ex l p)) (fun at' _=>T - (intOf at').toNat)
       case atStart=>exact⟨512 * c,by omega,by omega,by go_num,by rw[HXS.out]⟩
       case round =>
        obtain⟨p,hp1,hp2,rfl,rfl⟩:=hrel
        have hxp:=q1f l p hle
        have hiff:=HT.out.iff (p:=p) hp1 hp2
        rw[HY.out] at hiff
        by_cases hend:p=T
        ·have hxT:=hiff.2 hend
         have te:decide (ex l p > y - 1)=false:=decide_eq_false (by omega)
         clear hiff
         generalize ex l p=x at *
         go_wp2
         go_ret
         exact⟨q32 (by omega),H2.out.1⟩
        ·have hab:=HT.out.above p hp1 (by omega)
         rw[HY.out] at hab
         have te:decide (ex l p > y - 1)=true:=decide_eq_true (by omega)
         have hS:=q3q b l p w2 hP (by omega)
         have hsc:=q2w l p
         have hs:=q5c l (p:=p) (by omega)
         have HS:=Lib.hid hs
         clear hs hiff
         generalize ex l p=x at *
         generalize stepZ l p=z at *
         go_wp2_with (go_at_call 310;refine hS.mono ?_;rintro e w' ⟨rfl,rfl⟩)
         go_round
         case rel=>exact⟨p+1,by omega,by omega,by go_num,by rw[HS.out]⟩
         case measure=>simp[intOf];omega
end
section
open Go.RowKit
theorem PIdx.keeps {w w':World} {b:Nat} {l:List Bool} (h:PIdx w b l) (k:Keeps (fun _=>False) w w') (hb:b<w.heap.size):PIdx w' b l:=by
 obtain⟨bi,FI,dI,asd,hc0,hI⟩:=h
 refine⟨bi,FI,dI,asd,?_,hI.keeps k (fun _ _ h=>h)⟩
 rw[World.cell?_of_block (w:=w) (a:=⟨b,0,none⟩) (k.block b hb (fun h=>h))]
 exact hc0
theorem PIdx.lt {w:World} {b:Nat} {l:List Bool} (h:PIdx w b l):b<w.heap.size:=by
 obtain⟨bi,FI,dI,asd,hc0,hI⟩:=h
 exact World.block_lt_of_cell? w ⟨b,0,none⟩ hc0
theorem PIdx.drew {w:World} {b:Nat} {l:List Bool} (h:PIdx w b l):PIdx w.drew b l:=h.keeps ((Keeps.refl _ w).drew) h.lt
theorem PIdx.alloc {w:World} {b:Nat} {l:List Bool} (h:PIdx w b l) (o:Obj):PIdx (w.alloc o) b l:=h.keeps ((Keeps.refl _ w).alloc o) h.lt
theorem q6s {wh wr:World} {b:Nat} {l:List Bool} {q:Nat} {F:Nat→Prop} (hF:∀ x,F x→x<wh.heap.size) (h:ParAfter wh b l true q F wr) (i B:Nat) (want:Int) (hq:q≤1000000000000) (hB:IsBehind l i want B) :
  Calls Tryz.prog 304 #[.pointer (some ⟨b,0,none⟩),.int .i64 i,.int .i64 want] wr fun e w'=>e=.returned (.int .i64 B)∧ParAfter wh b l true (q+1) F w':=by
 have hle:=h.idx.le
 have hBi:=hB.lt
 have hin:=hB.le
 have hwt:=q1f l B hle
 rw[hB.hit] at hwt
 have hE1:=q14 hF h i (by omega) (by omega)
 have HB:=Lib.hid hB
 clear hB h
 go_enter Tryz.func304,Tryz.ntmps304
 go_wp2_with fail
 refine hE1.mono ?_
 rintro e w1 ⟨rfl,h1⟩
 clear hE1
 have hxi:=q1f l i hle
 go_wp2_with fail
 clear hxi
 go_loopw [7,8] (fun at' e wq=>∃ k:Nat,B<k∧k≤i∧at'=.int .i64 k∧e=.int .i64 (ex l k)∧ParAfter wh b l true (q+1) F wq) (fun at' _ _=>(intOf at').toNat)
 case atStart=>exact⟨i,hBi,Nat.le_refl _,rfl,rfl,h1⟩
 case round =>
  obtain⟨k,hk1,hk2,rfl,rfl,hA⟩:=hrel
  clear h1
  obtain⟨p,hkp⟩:∃ p,k=p+1:=⟨k - 1,by omega⟩
  have hkz:(k:Int) - 1=(p:Int):=by omega
  have hxk:=q1f l k hle
  have hxp:=q1f l p hle
  have hP:=hA.idx
  have hS:=q3q b l p wr hP (by omega)
  have hsc:=q2w l p
  have hs:=q5c l (p:=p) (by omega)
  rw[← hkp] at hs
  have hiff:=HB.out.iff (p:=p) (by omega) (by omega)
  have hs2:ex l k - stepZ l p=ex l p:=by omega
  have HS:=Lib.hid hs2
  clear hkp
  have HA:=Lib.hid hA
  clear hA
  by_cases hend:p=B
  ·have te:(ex l k - stepZ l p == want)=true:=by rw[hs2,beq_iff_eq];exact hiff.2 hend
   clear hiff hs hs2 hxp
   have HE:=Lib.hid hend
   clear hend
   generalize ex l k=x at *
   generalize stepZ l p=z at *
   go_wp2_with fail
   refine hS.mono ?_
   rintro e w' ⟨rfl,rfl⟩
   go_wp2
   go_ret
   exact⟨q32 (by rw[HE.out]),HA.out⟩
  ·have te:(ex l k - stepZ l p == want)=false:=by rw[hs2,beq_eq_false_iff_ne];exact fun h=>hend (hiff.1 h)
   have tz:((p:Int) == 0)=false:=by rw[beq_eq_false_iff_ne];omega
   clear hiff hs hs2 hxp
   generalize ex l k=x at *
   generalize stepZ l p=z at *
   by_cases hm:(p:Int) % 512=0
   ·have tm:((p:Int) % 512 != 0)=false:=by simp only [bne_eq_false_iff_eq];exact hm
    obtain⟨c,hcp⟩:∃ c,p=512 * (c+1):=⟨p / 512 - 1,by omega⟩
    have HCP:=Lib.hid hcp
    clear hcp
    go_wp2_with fail
    refine hS.mono ?_
    rintro e w' ⟨rfl,rfl⟩
    go_wp2_with fail
    clear hS hP
    go_loopw [7,8,9] (fun at' e bb wq=>∃ d:Nat,at'=.int .i64 (512 * (d+1):Nat)∧bb=.int .i64 d∧e=.int .i64 (ex l (512 * (d+1)))∧B<512 * (d+1)∧512 * (d+1)≤512 * (c+1)∧ParAfter wh b l true (q+1) F wq) (fun _ _ bb _=>(intOf bb).toNat)
    case atStart=>exact⟨c,by rw[← HCP.out],by have h:=HCP.out;go_num,by rw[HS.out,HCP.out],by have h:=HCP.out;omega,by omega,HA.out⟩
    case round =>
     obtain⟨d,rfl,rfl,rfl,hd1,hd2,hA⟩:=hrel
     by_cases hd0:d=0
     ·subst hd0
      go_wp2
      go_roundw
      case rel=>exact⟨512 * (0+1),by omega,by have h:=HCP.out;omega,by go_num,rfl,hA⟩
      case measure=>have h:=HCP.out;simp[intOf];omega
     ·have hP:=hA.idx
      have hx1:=q1f l (512 * (d+1)) hle
      obtain⟨L,ts,tw,g,hTL,hnL,hL1,hL2,c4,_,hLv,hnode⟩:=qjm hA.1
      have hdL:d<L:=by have h:=HCP.out;omega
      obtain⟨n0,n1⟩:=hnode (L+d) (by omega) (by omega)
      rw[hTL.leaf d (by omega),hTL.leafw d (by omega)] at n0 n1
      have hp:=HB.out.pass (a:=512 * d) (m:=512) (by omega)
      have hx0:=q1f l (512 * d) hle
      have hlo:=q7w l (512 * d) 512 hle
      rw[show 512 * d+512=512 * (d+1) by omega] at n0
      have H2:=Lib.hid hA
      have hkc:512 * (c+1)<k:=by have h:=HCP.out;omega
      clear hA hnode hTL
      generalize hx1':ex l (512 * (d+1))=x1 at *
      generalize hx0':ex l (512 * d)=x0 at *
      generalize lowN l (512 * d) 512=lo at *
      have HX:=Lib.hid (And.intro hx1' (And.intro hx0' hp))
      clear hx1' hx0'
      go_wp2_with fail
      have hPd:=hP.drew
      obtain⟨m,hm'⟩:∃ m,m=L+d:=⟨_,rfl⟩
      have hlt2:m<2 * L:=by omega
      have hm0:(0:Int)≤(m:Int):=by omega
      have hm1:(m:Int)<2 * (L:Int):=by omega
      have hsum:IntKind.i64.wrap ((L:Int)+(d:Int))=(m:Int):=by rw[IntWalk.i64_in _ (by omega)];omega
      rw[← hm'] at n0 n1
      have HM:=Lib.hid hm'
      clear hm'
      have al:∀ (o:Obj) (a:Addr) (v:Value),wr.cell? a=some v→(wr.drew.alloc o).cell? a=some v:=fun o a v h=>by
       rw[World.cell?_of_block (w:=wr) (((Keeps.refl (fun _=>False) wr).drew.alloc o).block a.block (World.block_lt_of_cell? wr a h) (fun h=>h))]
       exact h
      have c4':=fun o=>al o _ _ c4
      have n0':=fun o=>al o _ _ n0
      have n1':=fun o=>al o _ _ n1
      clear hP al
      have c4d:wr.drew.cell? ⟨b,4,none⟩=some (.slice (some ⟨g,0,none⟩) (2 * L) (2 * L)):=c4
      have n0d:wr.drew.cell? ⟨g,m * 2,none⟩=some (.int .i64 (x1 - x0)):=n0
      have n1d:wr.drew.cell? ⟨g,m * 2+1,none⟩=some (.int .i64 (lo)):=n1
      go_region_held3 (fun w'=>w'.cell? ⟨b,4,none⟩=some (.slice (some ⟨g,0,none⟩) (2 * L) (2 * L))∧w'.cell? ⟨g,m * 2,none⟩=some (.int .i64 (x1 - x0))∧w'.cell? ⟨g,m * 2+1,none⟩=some (.int .i64 (lo))∧PIdx w' b l) (first|exact⟨c4d,n0d,n1d,hPd⟩|exact⟨c4' _,n0' _,n1' _,hPd.alloc _⟩) ((go_at_call 311;refine (hLv _ ?_).mono ?_;(first|exact hPd|exact hPd.alloc _|assumption);rintro e w' ⟨rfl,rfl⟩))
      all_goals
       have hA6:ParAfter wh b l true (q+1) F ((wr.alloc (.cells #[.int .i64 (x1 - x0),.int .i64 lo] 373)).drew):=H2.out.keeps (((Keeps.refl (fun _=>False) wr).alloc _).drew) (fun _ _ h=>h)
       have HA6:=Lib.hid hA6
       clear hA6 hPd c4 c4' c4d n0 n0' n0d n1 n1' n1d hsum hm0 hm1 hlt2 hLv hp
       by_cases hbr:x0+lo≤want
       ·have tb:decide (x1 - (x1 - x0)+lo≤want)=true:=decide_eq_true (by omega)
        go_wp2
        go_roundw
        case rel=>exact⟨512 * (d+1),hd1,by have h:=HCP.out;omega,by go_num,by rw[HX.out.1],HA6.out⟩
        case measure=>simp[intOf];omega
       ·have tb:decide (x1 - (x1 - x0)+lo≤want)=false:=decide_eq_false (by omega)
        have hpass:=HX.out.2.2 (by omega)
        go_wp2
        refine⟨⟨.int .i64 (512 * ((d:Int)+1) - 512),.int .i64 (x1 - (x1 - x0)),.int .i64 ((d:Int) - 1),⟨d - 1,by go_num,by go_num,by rw[show d - 1+1=d by omega,HX.out.2.1];go_num,by omega,by omega,HA6.out⟩,rfl,rfl,rfl⟩,?_⟩
        simp[intOf];omega
   ·have tm:((p:Int) % 512 != 0)=true:=by simp only [bne_iff_ne];exact hm
    go_wp2_with fail
    refine hS.mono ?_
    rintro e w' ⟨rfl,rfl⟩
    go_wp2
    go_roundw
    case rel=>exact⟨p,by omega,by omega,rfl,by rw[HS.out],HA.out⟩
    case measure=>simp[intOf];omega
end
section
theorem qcv (l:List Bool) (p:Nat):ex l p=2 * (cnt (l.take p):Int) - (min p l.length:Nat):=by
 unfold ex rk ofZ
 rw[if_pos rfl,q7e l p]
theorem qcw (a b:List Bool) {p:Nat} (h:p≤a.length):ex (a ++ b) p=ex a p:=by
 rw[qcv,qcv,List.take_append_of_le_length h,List.length_append]
 omega
theorem qb9 (a b:List Bool) (q:Nat):ex (a ++ b) (a.length+q)=ex a a.length+ex b q:=by
 rw[qcv,qcv,qcv,List.take_append,List.take_of_length_le (l:=a) (i:=a.length+q) (by omega),List.take_of_length_le (l:=a) (i:=a.length) (by omega),show a.length+q - a.length=q by omega,q4h,List.length_append]
 omega
theorem q49 (l:List Bool) {p:Nat} (h:p<l.length):ex l (p+1)=if l.getD p false then ex l p+1 else ex l p - 1:=by
 rw[q5c l h]
 unfold stepZ
 cases l.getD p false <;> simp <;> omega
theorem qma (l:List Bool) {p:Nat} (h:p<l.length) (hx:ex l p<ex l (p+1)):l.getD p false=true:=by
 have:=q49 l h
 cases hb:l.getD p false with
 | true=>rfl
 | false=>rw[hb,if_neg (by simp)] at this;omega
theorem qlq (l:List Bool) {p:Nat} (h:p<l.length) (hx:ex l (p+1)<ex l p):l.getD p false=false:=by
 have:=q49 l h
 cases hb:l.getD p false with
 | false=>rfl
 | true=>rw[hb,if_pos rfl] at this;omega
structure IsPair (l:List Bool) (i j:Nat):Prop where
 lt:i<j
 le:j<l.length
 hit:ex l (j+1)=ex l i
 above:∀ p,i<p→p≤j→ex l i<ex l p
theorem IsPair.opens {l:List Bool} {i j:Nat} (h:IsPair l i j):l.getD i false=true∧ex l (i+1)=ex l i+1:=by
 have h1:=h.above (i+1) (by omega) (by have:=h.lt;omega)
 have h2:=qma l (by have:=h.lt;have:=h.le;omega) h1
 refine⟨h2,?_⟩
 have:=q49 l (p:=i) (by have:=h.lt;have:=h.le;omega)
 rw[h2,if_pos rfl] at this
 exact this
theorem IsPair.closes {l:List Bool} {i j:Nat} (h:IsPair l i j):l.getD j false=false∧ex l (j+1)=ex l j - 1:=by
 have h1:=h.above j h.lt (Nat.le_refl _)
 have h3:=h.hit
 have h2:=qlq l h.le (by omega)
 refine⟨h2,?_⟩
 have:=q49 l h.le
 rw[h2,if_neg (by simp)] at this
 exact this
theorem IsPair.ahead {l:List Bool} {i j:Nat} (h:IsPair l i j):IsAhead l (i+1) (j+1):=by
 have h1:=h.opens.2
 refine⟨by have:=h.lt;omega,h.le,by have:=h.hit;omega,fun p h2 h3=>?_⟩
 have:=h.above p (by omega) (by omega)
 omega
theorem IsPair.behind {l:List Bool} {i j:Nat} (h:IsPair l i j):IsBehind l j (ex l (j+1)) i :=
 ⟨h.lt,by have:=h.le;omega,h.hit.symm,fun p h1 h2=>by rw[h.hit];exact h.above p h1 h2⟩
theorem IsBehind.unique {l:List Bool} {i:Nat} {want:Int} {B C:Nat} (h:IsBehind l i want B) (k:IsBehind l i want C):B=C:=by
 rcases Nat.lt_trichotomy B C with h1|h1|h1
 ·have:=h.above C h1 (by have:=k.lt;omega);have:=k.hit;omega
 ·exact h1
 ·have:=k.above B h1 (by have:=h.lt;omega);have:=h.hit;omega
theorem IsPair.right {l:List Bool} {i j k:Nat} (h:IsPair l i j) (h2:IsPair l i k):j=k:=by
 have h3:=h.hit
 have h4:=h2.hit
 rcases Nat.lt_trichotomy j k with h1|h1|h1
 ·have:=h2.above (j+1) (by have:=h.lt;omega) h1;omega
 ·exact h1
 ·have:=h.above (k+1) (by have:=h2.lt;omega) h1;omega
theorem IsPair.left {l:List Bool} {i j k:Nat} (h:IsPair l i k) (h2:IsPair l j k):i=j:=h.behind.unique h2.behind
def MateOf (l:List Bool) (i m:Nat):Prop:=(l.getD i false=true∧IsPair l i m)∨(l.getD i false=false∧IsPair l m i)
theorem IsPair.mate_l {l:List Bool} {i j:Nat} (h:IsPair l i j):MateOf l i j:=.inl ⟨h.opens.1,h⟩
theorem IsPair.mate_r {l:List Bool} {i j:Nat} (h:IsPair l i j):MateOf l j i:=.inr ⟨h.closes.1,h⟩
theorem MateOf.symm {l:List Bool} {i m:Nat} (h:MateOf l i m):MateOf l m i:=by
 rcases h with⟨_,h⟩|⟨_,h⟩
 ·exact h.mate_r
 ·exact h.mate_l
theorem MateOf.lt {l:List Bool} {i m:Nat} (h:MateOf l i m):m<l.length:=by
 rcases h with⟨_,h⟩|⟨_,h⟩
 ·exact h.le
 ·have:=h.lt;have:=h.le;omega
theorem MateOf.unique {l:List Bool} {i m n:Nat} (h:MateOf l i m) (k:MateOf l i n):m=n:=by
 rcases h with⟨h0,h⟩|⟨h0,h⟩ <;> rcases k with⟨k0,k⟩|⟨k0,k⟩
 ·exact h.right k
 ·rw[h0] at k0;cases k0
 ·rw[h0] at k0;cases k0
 ·exact h.left k
theorem q63 (P:Nat→Prop) [DecidablePred P] (a:Nat):∀ d,P (a+d)→∃ n,a≤n∧n≤a+d∧P n∧∀ p,a≤p→p<n→¬ P p
 | 0,h=>⟨a,Nat.le_refl _,Nat.le_refl _,h,fun p h1 h2=>by omega⟩
 | d+1,h=>by
  by_cases hc:∃ e,e≤d∧P (a+e)
  ·obtain⟨e,he,hp⟩:=hc
   obtain⟨n,h1,h2,h3,h4⟩:=q63 P a e hp
   exact⟨n,h1,by omega,h3,h4⟩
  ·refine⟨a+(d+1),by omega,Nat.le_refl _,h,fun p h1 h2 hp=>hc ⟨p - a,by omega,?_⟩⟩
   rwa [show a+(p - a)=p by omega]
termination_by d=>d
decreasing_by all_goals omega
theorem qjo (P:Nat→Prop) [DecidablePred P]:∀ a,P 0→∃ n,n≤a∧P n∧∀ p,n<p→p≤a→¬ P p
 | 0,h=>⟨0,Nat.le_refl _,h,fun p h1 h2=>by omega⟩
 | a+1,h=>by
  by_cases hc:P (a+1)
  ·exact⟨a+1,Nat.le_refl _,hc,fun p h1 h2=>by omega⟩
  ·obtain⟨n,h1,h2,h3⟩:=qjo P a h
   refine⟨n,by omega,h2,fun p h4 h5=>?_⟩
   by_cases hp:p=a+1
   ·rw[hp];exact hc
   ·exact h3 p h4 (by omega)
theorem qcx (l:List Bool) (i:Nat) (hi:i≤l.length) (hx:0<ex l i) (w:Int) (hw:w=ex l i - 1):∃ B,IsBehind l i w B:=by
 obtain⟨n,h1,h2,h3⟩:=qjo (fun p=>ex l p≤w) i (by rw[q5b];omega)
 have hn:n<i:=by
  rcases Nat.lt_or_ge n i with h|h
  ·exact h
  ·obtain rfl:n=i:=by omega
   omega
 refine⟨n,hn,hi,?_,fun p h4 h5=>by have:=h3 p h4 h5;omega⟩
 have h4:=h3 (n+1) (by omega) hn
 have h5:=qjg l n
 omega
theorem Bal.mate {l:List Bool} (h:Bal l) {i:Nat} (hi:i<l.length):∃ m,MateOf l i m:=by
 have hb:=q49 l hi
 cases hl:l.getD i false with
 | true =>
  rw[hl,if_pos rfl] at hb
  have h0:=h.2 i (by omega)
  obtain⟨n,h1,h2,h3,h4⟩:=q63 (fun p=>ex l p≤ex l i) (i+1) (l.length - (i+1)) (by
   simp only [show i+1+(l.length - (i+1))=l.length by omega,h.1];exact h0)
  have hn:i+1<n:=by
   rcases Nat.lt_or_ge (i+1) n with h|h
   ·exact h
   ·obtain rfl:n=i+1:=by omega
    omega
  obtain⟨m,rfl⟩:∃ m,n=m+1:=⟨n - 1,by omega⟩
  have h5:=h4 m (by omega) (by omega)
  have h6:=qjg l m
  refine⟨m,.inl ⟨hl,by omega,by omega,by omega,fun p h7 h8=>by have:=h4 p (by omega) (by omega);omega⟩⟩
 | false =>
  rw[hl,if_neg (by simp)] at hb
  have h0:=h.2 (i+1) (by omega)
  obtain⟨B,hB⟩:=qcx l i (by omega) (by omega) (ex l (i+1)) (by omega)
  refine⟨B,.inr ⟨hl,hB.lt,hi,hB.hit.symm,fun p h7 h8=>?_⟩⟩
  rw[hB.hit]
  exact hB.above p h7 h8
def qek (l:List Bool) (o:Nat) (r:Int):Prop:=(ex l o=0∧r=-1)∨(0<ex l o∧∃ B:Nat,r=B∧IsBehind l o (ex l o - 1) B)
def q8x (l:List Bool) (i:Nat) (r:Int):Prop:=(l.getD i false=true∧qek l i r)∨(l.getD i false=false∧∃ o,IsPair l o i∧qek l o r)
end
section
open Go.RowKit
theorem qba {P:Program} {fn:Func} {R:Ending→World→Prop} {a:Act} {W0:World} {g:Nat} {p:Tmp} {ty:TypeId} {cs:Array Value} {d:TypeDesc} (h:fn.results=#[.cell p ty]) (hg:W0.heap.size=g)
  (hp:a.tmps.getD p undef=.pointer (some ⟨g,0,none⟩)) (hu:P.underlying ty=some d) (hd:(match d with | .struct _ | .array _ _=>true|_=>false)=true) (hi:(P.info? ty).map (·.size)=some cs.size)
  (hdf:a.defers=[]) (hR:R (.returned (.agg cs)) (W0.alloc (.cells cs ty))):bodyPost P fn R .ret a (W0.alloc (.cells cs ty)):=by
 refine bodyPost_ret (results_cell_row h _ _ g ty cs (0,0) d hp ?_ hu hd hi) hdf hR
 rw[← hg]
 exact heap_alloc_new W0 _
theorem agg2 {a b c d:Int} (h:a=c) (k:b=d):Ending.returned (.agg #[.int .i64 a,.int .i64 b])=.returned (.agg #[.int .i64 c,.int .i64 d]):=by rw[h,k]
theorem qlr (s1 l1 s2 l2:Int) (w:World) (h1:-200000000≤s1∧s1≤200000000) (h2:-200000000≤l1∧l1≤200000000) (h3:-200000000≤s2∧s2≤200000000) (h4:-200000000≤l2∧l2≤200000000) (hle:l1≤s1) :
  Calls Tryz.prog 312 #[.agg #[.int .i64 s1,.int .i64 l1],.agg #[.int .i64 s2,.int .i64 l2]] w fun e w'=>e=.returned (.agg #[.int .i64 (s1+s2),.int .i64 (min l1 (s1+l2))])∧Keeps (fun _=>False) w w':=by
 by_cases hz:s2=0∧l2=0
 ·obtain⟨rfl,rfl⟩:=hz
  go_enter Tryz.func312,Tryz.ntmps312
  go_wp2
  all_goals (refine qba rfl (by simp) rfl Tryz.underlying373 rfl (by kernel_rfl) rfl ⟨agg2 (by omega) (by omega),(((Keeps.refl _ w).alloc _).alloc _).alloc _⟩)
 ·by_cases hs:s2=0
  ·subst hs
   have hl:(l2 == 0)=false:=by rw[beq_eq_false_iff_ne];exact fun h=>hz ⟨rfl,h⟩
   clear hz
   go_enter Tryz.func312,Tryz.ntmps312
   go_wp2
   all_goals (refine qba rfl (by simp) rfl Tryz.underlying373 rfl (by kernel_rfl) rfl ⟨agg2 (by omega) (by omega),(((Keeps.refl _ w).alloc _).alloc _).alloc _⟩)
  ·have hl:(s2 == 0)=false:=by rw[beq_eq_false_iff_ne];exact hs
   clear hz hs
   go_enter Tryz.func312,Tryz.ntmps312
   go_wp2
   all_goals (refine qba rfl (by simp) rfl Tryz.underlying373 rfl (by kernel_rfl) rfl ⟨agg2 (by omega) (by omega),(((Keeps.refl _ w).alloc _).alloc _).alloc _⟩)
end
section
open Go.RowKit
theorem Keeps.cellF {w w':World} (k:Keeps (fun _=>False) w w') {a:Addr} {v:Value} (h:w.cell? a=some v):w'.cell? a=some v:=by
 rw[World.cell?_of_block (w:=w) (k.block a.block (World.block_lt_of_cell? _ _ h) (fun h=>h))]
 exact h
theorem qac {w:World} {g j:Nat} {a:Addr} {v:Value} (h:w.cell? a=some v) (h1:a≠⟨g,j * 2,none⟩) (h2:a≠⟨g,j * 2+1,none⟩) (x y:Value):((w.setCell ⟨g,j * 2,none⟩ x).setCell ⟨g,j * 2+1,none⟩ y).cell? a=some v:=by
 rw[World.cell?_setCell_other _ _ _ _ (Ne.symm h2),World.cell?_setCell_other _ _ _ _ (Ne.symm h1)]
 exact h
theorem qh7 {w:World} {g j b o:Nat} {v:Value} (h:w.cell? ⟨b,o,none⟩=some v) (h1:b≠g) (x y:Value):((w.setCell ⟨g,j * 2,none⟩ x).setCell ⟨g,j * 2+1,none⟩ y).cell? ⟨b,o,none⟩=some v :=
 qac h (fun e=>h1 (congrArg Addr.block e)) (fun e=>h1 (congrArg Addr.block e)) x y
theorem q64 {w:World} {g j o:Nat} {v:Value} (h:w.cell? ⟨g,o,none⟩=some v) (h1:o≠j * 2∧o≠j * 2+1) (x y:Value):((w.setCell ⟨g,j * 2,none⟩ x).setCell ⟨g,j * 2+1,none⟩ y).cell? ⟨g,o,none⟩=some v :=
 qac h (fun e=>h1.1 (congrArg Addr.off e)) (fun e=>h1.2 (congrArg Addr.off e)) x y
theorem Keeps.frozenF {w w':World} (k:Keeps (fun _=>False) w w') {a:Addr} {v:Value} (hc:w.cell? a=some v) (h:w.frozen? a=false):w'.frozen? a=false:=by
 have hb:=k.block a.block (World.block_lt_of_cell? _ _ hc) (fun h=>h)
 unfold World.frozen? at h ⊢
 rw[hb]
 exact h
def NodesAt (w:World) (g L:Nat) (sm lo:Nat→Int) (S:Nat→Prop):Prop :=
 ∃ cs:Array Value,w.heap[g]? = some (.cells cs 373 (0,0))∧cs.size=4 * L∧∀ k,S k→cs[k * 2]? = some (.int .i64 (sm k))∧cs[k * 2+1]? = some (.int .i64 (lo k))
theorem NodesAt.keeps {w w':World} {F:Nat→Prop} {g L:Nat} {sm lo:Nat→Int} {S:Nat→Prop} (h:NodesAt w g L sm lo S) (k:Keeps F w w') (hF:¬ F g):NodesAt w' g L sm lo S:=by
 obtain⟨cs,h1,h2⟩:=h
 exact⟨cs,k.at h1 hF,h2⟩
theorem NodesAt.lt {w:World} {g L:Nat} {sm lo:Nat→Int} {S:Nat→Prop} (h:NodesAt w g L sm lo S):g<w.heap.size:=by
 obtain⟨cs,h1,h2⟩:=h
 exact lt_of_block h1
theorem NodesAt.set {w:World} {g L:Nat} {sm lo:Nat→Int} {S T:Nat→Prop} (h:NodesAt w g L sm lo S) (k:Nat) (hk:k<2 * L) (s l:Int) (hs:s=sm k) (hl:l=lo k) (hT:∀ j,T j→S j∨j=k) :
  NodesAt ((w.setCell ⟨g,k * 2,none⟩ (.int .i64 s)).setCell ⟨g,k * 2+1,none⟩ (.int .i64 l)) g L sm lo T:=by
 obtain⟨cs,h1,h2,h3⟩:=h
 subst hs hl
 refine⟨_,q00 (q00 h1 _ _) _ _,by simpa using h2,fun j hj=>?_⟩
 simp only [Array.getElem?_setIfInBounds,Array.size_setIfInBounds]
 by_cases hjk:j=k
 ·subst hjk
  rw[if_neg (by omega),if_pos rfl,if_pos (by omega),if_pos rfl,if_pos (by omega)]
  exact⟨rfl,rfl⟩
 ·rw[if_neg (by omega),if_neg (by omega),if_neg (by omega),if_neg (by omega)]
  rcases hT j hj with h|h
  ·exact h3 j h
  ·exact absurd h hjk
theorem NodesAt.there {w:World} {g L:Nat} {sm lo:Nat→Int} {S:Nat→Prop} (h:NodesAt w g L sm lo S) (k:Nat) (hk:k<2 * L) :
  ∃ u v,w.cell? ⟨g,k * 2,none⟩=some u∧w.cell? ⟨g,k * 2+1,none⟩=some v∧w.frozen? ⟨g,k * 2,none⟩=false∧w.frozen? ⟨g,k * 2+1,none⟩=false:=by
 obtain⟨cs,h1,h2,_⟩:=h
 refine⟨cs[k * 2],cs[k * 2+1],?_,?_,World.free_of_heap h1 _,World.free_of_heap h1 _⟩
 ·rw[World.cell_of_heap h1];exact Array.getElem?_eq_getElem (by omega)
 ·rw[World.cell_of_heap h1];exact Array.getElem?_eq_getElem (by omega)
structure NL (l:List Bool) (L:Nat) (sm lo:Nat→Int):Prop where
 leaf:∀ c,c<L→sm (L+c)=ex l (512 * (c+1)) - ex l (512 * c)∧lo (L+c)=lowN l (512 * c) 512
 kids:∀ k,1≤k→k<L→sm k=sm (k * 2)+sm (k * 2+1)∧lo k=min (lo (k * 2)) (sm (k * 2)+lo (k * 2+1))
 bd:∀ k,-200000000≤sm k∧sm k≤200000000∧-200000000≤lo k∧lo k≤200000000∧lo k≤sm k
def MkAt (w:World) (b bi g L:Nat) (sm lo:Nat→Int) (S:Nat→Prop) (wr:World):Prop :=
 wr.heap[b]? = some (.cells (q2k bi false 1 (.slice (some ⟨g,0,none⟩) (2 * L) (2 * L)) 1) 335 (0,0))∧w.heap.size≤g∧NodesAt wr g L sm lo S∧Keeps (fun k=>k=b) w wr
theorem MkAt.keeps {w w1 w2:World} {b bi g L:Nat} {sm lo:Nat→Int} {S:Nat→Prop} (h:MkAt w b bi g L sm lo S w1) (k:Keeps (fun _=>False) w1 w2):MkAt w b bi g L sm lo S w2 :=
 ⟨k.at h.1 (fun h=>h),h.2.1,h.2.2.1.keeps k (fun h=>h),h.2.2.2.trans k (fun _ _ h=>h.elim)⟩
theorem MkAt.set {w w1:World} {b bi g L:Nat} {sm lo:Nat→Int} {S T:Nat→Prop} (h:MkAt w b bi g L sm lo S w1) (hb:b<w.heap.size) (k:Nat) (hk:k<2 * L) (s l:Int) (hs:s=sm k) (hl:l=lo k) (hT:∀ j,T j→S j∨j=k) :
  MkAt w b bi g L sm lo T ((w1.setCell ⟨g,k * 2,none⟩ (.int .i64 s)).setCell ⟨g,k * 2+1,none⟩ (.int .i64 l)):=by
 obtain⟨h1,h2,h3,h4⟩:=h
 have k2:Keeps (fun x=>x=g) w1 ((w1.setCell ⟨g,k * 2,none⟩ (.int .i64 s)).setCell ⟨g,k * 2+1,none⟩ (.int .i64 l)) :=
  ((Keeps.refl (fun x=>x=g) w1).setCell (p:=⟨g,k * 2,none⟩) (.inl rfl) _).setCell (p:=⟨g,k * 2+1,none⟩) (.inl rfl) _
 refine⟨k2.at h1 (by omega),h2,h3.set k hk s l hs hl hT,h4.trans k2 (fun _ _ h=>by omega)⟩
theorem MkAt.mono {w wr:World} {b bi g L:Nat} {sm lo:Nat→Int} {S T:Nat→Prop} (h:MkAt w b bi g L sm lo S wr) (hT:∀ k,T k→S k):MkAt w b bi g L sm lo T wr:=by
 obtain⟨h1,h2,⟨cs,h3,h4,h5⟩,h6⟩:=h
 exact⟨h1,h2,⟨cs,h3,h4,fun k hk=>h5 k (hT k hk)⟩,h6⟩
theorem MkAt.idx {w wr:World} {b bi g L:Nat} {l:List Bool} {sm lo:Nat→Int} {S:Nat→Prop} {FI:Nat→Prop} {dI:Bool} {asked:Nat} (h:MkAt w b bi g L sm lo S wr) (hI:IdxAt w bi l dI asked FI) (hb:¬ FI b):PIdx wr b l :=
 ⟨bi,FI,dI,asked,World.cell_of_heap h.1 0,hI.keeps h.2.2.2 (fun _ hx h=>hb (h ▸ hx))⟩
def XAt (wB:World) (s lo:Int) (wr:World):Prop:=wr.heap[wB.heap.size]? = some (.cells #[.int .i64 s,.int .i64 lo] 373 (0,0))∧Keeps (fun _=>False) wB wr
theorem XAt.set {wB wr:World} {s lo:Int} (h:XAt wB s lo wr) (s' lo':Int):XAt wB s' lo' (((wr.setCell ⟨wB.heap.size,0,none⟩ (.int .i64 s')).setCell ⟨wB.heap.size,1,none⟩ (.int .i64 lo')).drew):=by
 obtain⟨h1,h2⟩:=h
 refine⟨?_,((h2.setCell (p:=⟨wB.heap.size,0,none⟩) (.inr (Nat.le_refl _)) _).setCell (p:=⟨wB.heap.size,1,none⟩) (.inr (Nat.le_refl _)) _).drew⟩
 exact (q00 (q00 h1 0 _) 1 _)
theorem XAt.start (wB:World):XAt wB 0 0 (wB.alloc (.cells #[.int .i64 0,.int .i64 0] 373)):=⟨heap_alloc_new wB _,(Keeps.refl _ wB).alloc _⟩
theorem qls:(Tryz.prog.info? 373).map (fun i=>(i.zero,i.size,i.bytes))=some (some (.agg #[.int .i64 0,.int .i64 0]),2,16):=by kernel_rfl
theorem qcy (b bi:Nat) (l:List Bool) (FI:Nat→Prop) (dI:Bool) (asked L:Nat) (sm lo:Nat→Int) (w:World)
  (h:w.heap[b]? = some (.cells (q2k bi false 1 (.slice none 0 0) 0) 335 (0,0))) (hI:IdxAt w bi l dI asked FI) (hFb:¬ FI b)
  (hL1:1≤L) (hL2:L≤400000) (hN:NL l L sm lo)
  (hLv:∀ W,PIdx W b l→Calls Tryz.prog 311 #[.pointer (some ⟨b,0,none⟩)] W fun e w'=>e=.returned (.int .i64 L)∧W=w') :
  Calls Tryz.prog 307 #[.pointer (some ⟨b,0,none⟩)] w fun e w'=>e=.returned (.tuple #[])∧∃ g,MkAt w b bi g L sm lo (fun k=>1≤k∧k<2 * L) w':=by
 have hbw:=lt_of_block h
 have hle:=hI.le
 have c5:w.cell? ⟨b,5,none⟩=some (.int .i64 0):=World.cell_of_heap h 5
 have hadd:=add64 ⟨b,5,none⟩ 0 1 w c5 (World.free_of_heap h 5) (by omega)
 have h1:(w.setCell ⟨b,5,none⟩ (.int .i64 1)).heap[b]? = some (.cells (q2k bi false 1 (.slice none 0 0) 1) 335 (0,0)):=q00 h 5 _
 have k1:Keeps (fun k=>k=b) w (w.setCell ⟨b,5,none⟩ (.int .i64 1)):=(Keeps.refl (fun k=>k=b) w).setCell (p:=⟨b,5,none⟩) (.inl rfl) _
 have hP1:PIdx (w.setCell ⟨b,5,none⟩ (.int .i64 1)) b l:=⟨bi,FI,dI,asked,World.cell_of_heap h1 0,hI.keeps k1 (fun _ hx h=>hFb (h ▸ hx))⟩
 have hLv1:=hLv _ hP1
 clear hP1 c5
 rw[show (0:Int)+1=1 from rfl] at hadd
 generalize hw0:w.setCell ⟨b,5,none⟩ (.int .i64 1)=w0 at *
 clear hw0
 obtain⟨i,hi,hz0,hz1,hz2⟩:=info_parts qls
 have hmk:=run_make (P:=Tryz.prog) w0 330 373 i _ Tryz.underlying330 hi hz0 .i64 .i64 (2 * (L:Int)) (2 * (L:Int)) (by omega) (Int.le_refl _) (by rw[hz2];omega) (by omega)
 rw[hz1,show (2 * (L:Int)).toNat=2 * L by omega] at hmk
 have HI:=Lib.hid (And.intro hI hFb)
 have HN:=Lib.hid hN
 have HLv:=Lib.hid hLv
 have c4:w0.cell? ⟨b,4,none⟩=some (.slice none 0 0):=World.cell_of_heap h1 4
 have f4:w0.frozen? ⟨b,4,none⟩=false:=World.free_of_heap h1 4
 have hbw0:b<w0.heap.size:=lt_of_block h1
 have H1:=Lib.hid (And.intro h (And.intro h1 k1))
 clear hI hFb hN hLv h h1 k1 hi hz0 hz1 hz2
 go_enter Tryz.func307,Tryz.ntmps307
 go_wp2_with (first | (go_at_call 292;refine hadd.mono ?_;rintro e w' ⟨rfl,rfl⟩) | (go_at_call 311;refine hLv1.mono ?_;rintro e w' ⟨rfl,rfl⟩))
 clear hmk hadd hLv1
 have hM0:MkAt w b bi w'.heap.size L sm lo (fun k=>L≤k∧k<L+0) ((w'.setCell ⟨b,4,none⟩ (.slice (some ⟨w'.heap.size,0,none⟩) (2 * L) (2 * L))).alloc (.cells (madeCells #[.int .i64 0,.int .i64 0] (2 * L * 2)) 373)):=by
  obtain⟨_,h2,h3⟩:=H1.out
  have k2:Keeps (fun k=>k=b) w' (w'.setCell ⟨b,4,none⟩ (.slice (some ⟨w'.heap.size,0,none⟩) (2 * L) (2 * L))):=(Keeps.refl (fun k=>k=b) w').setCell (p:=⟨b,4,none⟩) (.inl rfl) _
  have hs:(w'.setCell ⟨b,4,none⟩ (.slice (some ⟨w'.heap.size,0,none⟩) (2 * L) (2 * L))).heap.size=w'.heap.size:=by simp
  refine⟨?_,h3.size,⟨madeCells #[.int .i64 0,.int .i64 0] (2 * L * 2),?_,by rw[size_madeCells];omega,fun k hk=>by omega⟩,(h3.trans k2 (fun _ _ h=>h)).alloc _⟩
  ·rw[Below.heap_alloc _ _ _ (by rw[hs];exact hbw0),q00 h2]
   rfl
  ·have:=heap_alloc_new (w'.setCell ⟨b,4,none⟩ (.slice (some ⟨w'.heap.size,0,none⟩) (2 * L) (2 * L))) (.cells (madeCells #[.int .i64 0,.int .i64 0] (2 * L * 2)) 373)
   rw[hs] at this
   exact this
 clear c4 f4 hbw0 H1
 generalize World.alloc _ _=wM at *
 generalize w'.heap.size=g at *
 go_loopw [20] (fun i wr=>∃ c:Nat,c≤L∧i=.int .i64 c∧MkAt w b bi g L sm lo (fun k=>L≤k∧k<L+c) wr) (fun i _=>L - (intOf i).toNat)
 case atStart=>exact⟨0,Nat.zero_le _,rfl,hM0⟩
 case round =>
  obtain⟨c,hc,rfl,hM⟩:=hrel
  clear hM0
  obtain⟨wo,rfl⟩:∃ wo:World,wo=wr:=⟨_,rfl⟩
  by_cases hlt:c<L
  ·have hP:=hM.idx HI.out.1 HI.out.2
   have hLen:=fun W (h:PIdx W b l)=>q4n b l W h
   have hgr:=hM.2.2.1.lt
   have hX0:=XAt.start wo
   have hbX:=hP.lt
   have HM:=Lib.hid hM
   clear hM
   go_wp2_with fail
   generalize World.alloc _ _=wx at *
   obtain⟨m,hm1,hm2⟩:∃ m:Nat,m=min l.length (512 * (c+1))∧(if (l.length:Int)<((c:Int)+1) * 512 then (l.length:Int) else ((c:Int)+1) * 512)=(m:Int):=⟨_,rfl,by split <;> omega⟩
   have Hm1:=Lib.hid hm1
   clear hm1
   go_loopw [5] (fun i wr=>∃ p:Nat,512 * c≤p∧p≤512 * (c+1)∧i=.int .i64 p∧XAt wo (ex l p - ex l (512 * c)) (lowN l (512 * c) (p - 512 * c)) wr) (fun i _=>512 * (c+1) - (intOf i).toNat)
   case atStart=>exact⟨512 * c,Nat.le_refl _,by omega,by go_num,by rw[Int.sub_self,Nat.sub_self];exact hX0⟩
   case round =>
    obtain⟨p,hp1,hp2,rfl,hX⟩:=hrel
    clear hX0
    have hPq:=hP.keeps hX.2 hbX
    have hLq:=hLen _ hPq
    have hx1:=q1f l p hle
    have hx0:=q1f l (512 * c) hle
    have hlo:=q7w l (512 * c) (p - 512 * c) hle
    by_cases hgo:p<m
    ·have hg:p<512 * (c+1)∧p<l.length:=by have:=Hm1.out;omega
     obtain⟨hg1,hg2⟩:=hg
     have hS:=fun W (h:PIdx W b l)=>q3q b l p W h hg2
     have hsc:=q2w l p
     have hs:=q5c l hg2
     have hln:lowN l (512 * c) (p - 512 * c+1)=min (lowN l (512 * c) (p - 512 * c)) (ex l (p+1) - ex l (512 * c)):=by
      simp only [lowN]
      rw[show 512 * c+(p - 512 * c+1)=p+1 by omega]
     have HS:=Lib.hid (And.intro hs hln)
     have hx2:=q1f l (p+1) hle
     rw[hs] at hx2
     clear hs hln
     have HX:=Lib.hid hX
     have hc0:wr.cell? ⟨wo.heap.size,0,none⟩=some (.int .i64 (ex l p - ex l (512 * c))):=World.cell_of_heap hX.1 0
     have hc1:wr.cell? ⟨wo.heap.size,1,none⟩=some (.int .i64 (lowN l (512 * c) (p - 512 * c))):=World.cell_of_heap hX.1 1
     clear hX
     obtain⟨s,hsd⟩:∃ s,s=ex l p - ex l (512 * c):=⟨_,rfl⟩
     rw[← hsd] at hc0
     obtain⟨z,hzd⟩:∃ z,z=stepZ l p:=⟨_,rfl⟩
     rw[← hzd] at hS hsc hx2
     generalize hlod:lowN l (512 * c) (p - 512 * c)=lw at *
     have hsb:-200000000≤s∧s≤200000000:=by omega
     have HD:=Lib.hid (And.intro hsd (And.intro hzd hlod))
     clear hsd hzd hlod hx1 hx0 hx2
     go_wp2_with (go_at_call 301;refine hLq.mono ?_;rintro e w' ⟨rfl,rfl⟩)
     obtain⟨lw2,hlw2,hlw3⟩:∃ lw2,lw2=min lw (s+z)∧(if s+z<lw then s+z else lw)=lw2:=⟨_,rfl,by split <;> omega⟩
     have Hlw:=Lib.hid hlw2
     clear hlw2
     have hPd:=hPq.drew
     have hsum:IntKind.i64.wrap (s+z)=s+z:=IntWalk.i64_in _ (by omega)
     have hc0d:wr.drew.cell? ⟨wo.heap.size,0,none⟩=some (.int .i64 s):=hc0
     have fx0:wr.frozen? ⟨wo.heap.size,0,none⟩=false:=World.free_of_heap HX.out.1 0
     have fx1:wr.frozen? ⟨wo.heap.size,1,none⟩=false:=World.free_of_heap HX.out.1 1
     clear hPq
     have hSd:=hS _ hPd
     go_region_with (go_at_call 310;refine hSd.mono ?_;rintro e w' ⟨rfl,rfl⟩)
     have hcs:(wr.setCell ⟨wo.heap.size,0,none⟩ (.int .i64 (s+z))).cell? ⟨wo.heap.size,0,none⟩=some (.int .i64 (s+z)):=World.cell?_setCell_same _ _ _ hc0
     clear hc0 hc0d fx0 hSd
     all_goals
      go_wp2
      go_roundw
      case rel=>exact⟨p+1,by omega,by omega,by go_num,by
       have e1:=HD.out;have e2:=HS.out;have e3:=Hlw.out
       have:=HX.out.set (s+z) lw2
       rw[show p+1 - 512 * c=p - 512 * c+1 by omega,e2.2,e2.1,← e1.2.1,show ex l p+z - ex l (512 * c)=s+z by omega,← e3]
       exact this⟩
      case measure=>simp[intOf];omega
    ·have hpe:p=512 * (c+1)∨l.length≤p:=by have:=Hm1.out;omega
     have hsv:ex l p - ex l (512 * c)=sm (L+c):=by
      rw[(HN.out.leaf c hlt).1]
      rcases hpe with h|h
      ·rw[h]
      ·rw[q5d l h,q5d l (p:=512 * (c+1)) (by omega)]
     have hlv:lowN l (512 * c) (p - 512 * c)=lo (L+c):=by
      rw[(HN.out.leaf c hlt).2]
      rcases hpe with h|h
      ·rw[h,show 512 * (c+1) - 512 * c=512 by omega]
      ·rw[← qjh l (512 * c) (p - 512 * c) (512 - (p - 512 * c)) (by omega),show p - 512 * c+(512 - (p - 512 * c))=512 by omega]
     rw[hsv,hlv] at hX
     have HX:=Lib.hid (And.intro hX (HM.out.keeps hX.2))
     obtain⟨k,hk⟩:∃ k,k=L+c:=⟨_,rfl⟩
     have hx0:wr.cell? ⟨wo.heap.size,0,none⟩=some (.int .i64 (sm k)):=by rw[hk];exact World.cell_of_heap hX.1 0
     have hx1:wr.cell? ⟨wo.heap.size,1,none⟩=some (.int .i64 (lo k)):=by rw[hk];exact World.cell_of_heap hX.1 1
     have c4:wr.cell? ⟨b,4,none⟩=some (.slice (some ⟨g,0,none⟩) (2 * L) (2 * L)):=World.cell_of_heap HX.out.2.1 4
     have hsum:IntKind.i64.wrap ((L:Int)+(c:Int))=(k:Int):=by rw[IntWalk.i64_in _ (by omega)];omega
     have hk0:(0:Int)≤(k:Int):=by omega
     have hk1:(k:Int)<2 * (L:Int):=by omega
     have hk2:k<2 * L:=by omega
     obtain⟨u,v,hu,hv,fu,fv⟩:=HX.out.2.2.2.1.there k hk2
     have HK:=Lib.hid hk
     clear hpe hsv hlv hX hk
     go_wp2_with (go_at_call 301;refine hLq.mono ?_;rintro e w' ⟨rfl,rfl⟩)
     go_region
     go_wp2
     go_roundw
     case rel=>exact⟨c+1,by omega,by go_num,(HX.out.2.set hbw k hk2 _ _ rfl rfl (fun j hj=>by have:=HK.out;omega)).keeps ((Keeps.refl _ _).drew)⟩
     case measure=>simp[intOf];omega
  ·obtain rfl:L=c:=by omega
   have hM:=hM.mono (T:=fun k=>L - 1<k∧k<2 * L) (fun k hk=>by omega)
   go_wp2_with fail
   go_loopw [6] (fun i wr=>∃ j:Nat,j<L∧i=.int .i64 j∧MkAt w b bi g L sm lo (fun k=>j<k∧k<2 * L) wr) (fun i _=>(intOf i).toNat)
   case atStart=>exact⟨L - 1,by omega,by go_num,hM⟩
   case round =>
    obtain⟨j,hj,rfl,hM2⟩:=hrel
    clear hM
    by_cases hj0:0<j
    ·obtain⟨a,ha⟩:∃ a,a=j * 2:=⟨_,rfl⟩
     obtain⟨d,hd⟩:∃ d,d=j * 2+1:=⟨_,rfl⟩
     have hkid:=HN.out.kids j hj0 hj
     rw[← hd,← ha] at hkid
     have hba:=HN.out.bd a
     have hbd:=HN.out.bd d
     obtain⟨cs,q1,q2,q3⟩:=hM2.2.2.1
     obtain⟨n0,n1⟩:=q3 a (by omega)
     obtain⟨n2,n3⟩:=q3 d (by omega)
     obtain⟨u,v,hu,hv,fu,fv⟩:=hM2.2.2.1.there j (by omega)
     rw[← World.cell_of_heap q1] at n0 n1 n2 n3
     have c4:wr.cell? ⟨b,4,none⟩=some (.slice (some ⟨g,0,none⟩) (2 * L) (2 * L)):=World.cell_of_heap hM2.1 4
     have HM:=Lib.hid hM2
     have hO:=qlr (sm a) (lo a) (sm d) (lo d)
     have hwa:IntKind.i64.wrap (2 * (j:Int))=(a:Int):=by rw[IntWalk.i64_in _ (by omega)];omega
     have hwd:IntKind.i64.wrap ((a:Int)+1)=(d:Int):=by rw[IntWalk.i64_in _ (by omega)];omega
     have ha0:(0:Int)≤(a:Int):=by omega
     have ha1:(a:Int)<2 * (L:Int):=by omega
     have hd0:(0:Int)≤(d:Int):=by omega
     have hd1:(d:Int)<2 * (L:Int):=by omega
     have hj1:(j:Int)<2 * (L:Int):=by omega
     have e0:a * 2≠j * 2∧a * 2≠j * 2+1:=by omega
     have e1:a * 2+1≠j * 2∧a * 2+1≠j * 2+1:=by omega
     have e2:d * 2≠j * 2∧d * 2≠j * 2+1:=by omega
     have e3:d * 2+1≠j * 2∧d * 2+1≠j * 2+1:=by omega
     have hbg:b≠g:=by have:=hM2.2.1;omega
     have HK:=Lib.hid (And.intro hkid (And.intro ha hd))
     clear hM2 hkid ha hd q1 q2 q3
     go_wp2_with fail
     have c4d:wr.drew.cell? ⟨b,4,none⟩=some (.slice (some ⟨g,0,none⟩) (2 * L) (2 * L)):=c4
     have n0d:wr.drew.cell? ⟨g,a * 2,none⟩=some (.int .i64 (sm a)):=n0
     have n1d:wr.drew.cell? ⟨g,a * 2+1,none⟩=some (.int .i64 (lo a)):=n1
     have n2d:wr.drew.cell? ⟨g,d * 2,none⟩=some (.int .i64 (sm d)):=n2
     have n3d:wr.drew.cell? ⟨g,d * 2+1,none⟩=some (.int .i64 (lo d)):=n3
     have hud:wr.drew.cell? ⟨g,j * 2,none⟩=some u:=hu
     have hvd:wr.drew.cell? ⟨g,j * 2+1,none⟩=some v:=hv
     have fud:wr.drew.frozen? ⟨g,j * 2,none⟩=false:=fu
     have fvd:wr.drew.frozen? ⟨g,j * 2+1,none⟩=false:=fv
     go_region_held3 (fun w'=>w'.cell? ⟨b,4,none⟩=some (.slice (some ⟨g,0,none⟩) (2 * L) (2 * L))∧w'.cell? ⟨g,a * 2,none⟩=some (.int .i64 (sm a))∧w'.cell? ⟨g,a * 2+1,none⟩=some (.int .i64 (lo a))∧w'.cell? ⟨g,d * 2,none⟩=some (.int .i64 (sm d))∧w'.cell? ⟨g,d * 2+1,none⟩=some (.int .i64 (lo d))) (first|exact⟨c4d,n0d,n1d,n2d,n3d⟩|exact⟨hK.cellF c4d,hK.cellF n0d,hK.cellF n1d,hK.cellF n2d,hK.cellF n3d⟩|exact⟨qh7 (hK.cellF c4d) hbg _ _,q64 (hK.cellF n0d) e0 _ _,q64 (hK.cellF n1d) e1 _ _,q64 (hK.cellF n2d) e2 _ _,q64 (hK.cellF n3d) e3 _ _⟩) ((go_at_call 312;refine (hO _ ?_ ?_ ?_ ?_ ?_).mono ?_;omega;omega;omega;omega;omega;rintro e W ⟨rfl,hK⟩;have hu2:=hK.cellF hud;have hv2:=hK.cellF hvd;have fu2:=hK.frozenF hud fud;have fv2:=hK.frozenF hvd fvd))
     clear c4 n0 n1 n2 n3 hu hv fu fv c4d n0d n1d n2d n3d hud hvd fud fvd e0 e1 e2 e3 hwa hwd
     have hM3:=(HM.out.keeps (((Keeps.refl (fun _=>False) wr).drew).trans hK (fun _ _ h=>h))).set hbw j (by omega) (sm a+sm d) (min (lo a) (sm a+lo d)) HK.out.1.1.symm HK.out.1.2.symm (T:=fun k=>j - 1<k∧k<2 * L) (fun k hk=>by omega)
     have HM3:=Lib.hid hM3
     clear hM3 hK hu2 hv2 fu2 fv2 hba hbd
     go_wp2
     go_roundw
     case rel=>exact⟨j - 1,by omega,by go_num,HM3.out⟩
     case measure=>simp[intOf];omega
    ·obtain rfl:0=j:=by omega
     have HM:=Lib.hid hM2
     clear hM2
     go_wp2
     go_end0
     exact⟨rfl,g,HM.out.mono (fun k hk=>by omega)⟩
theorem NL.of (l:List Bool) (h:Nat) (hl:l.length≤100000000):NL l (2 ^ h) (tsum l h) (tlow l h):=by
 refine⟨fun c hc=>?_,fun k h1 h2=>?_,fun k=>?_⟩
 ·unfold tsum tlow
  rw[q8v h c hc,q8w h c hc,show 512 * c+512=512 * (c+1) by omega]
  exact⟨rfl,rfl⟩
 ·rw[Nat.mul_comm k 2]
  exact⟨qjj l h k h1 h2,qjk l h k h1 h2⟩
 ·have h1:=qh4 l h k
  have h2:=qh5 l h k
  have h3:=qg3 l (q1k h k) (q1i h k)
  have h4:tlow l h k≤tsum l h k:=h3
  omega
theorem qel (b bi:Nat) (l:List Bool) (FI:Nat→Prop) (dI:Bool) (asked h:Nat) (w:World)
  (hb:w.heap[b]? = some (.cells (q2k bi false 1 (.slice none 0 0) 0) 335 (0,0))) (hI:IdxAt w bi l dI asked FI) (hFb:¬ FI b) (hh:IsH l h) :
  Calls Tryz.prog 307 #[.pointer (some ⟨b,0,none⟩)] w fun e w'=>e=.returned (.tuple #[])∧∃ g,MkAt w b bi g (2 ^ h) (tsum l h) (tlow l h) (fun k=>1≤k∧k<2 * 2 ^ h) w' :=
 qcy b bi l FI dI asked (2 ^ h) (tsum l h) (tlow l h) w hb hI hFb (hh.bound hI.le).1 (hh.bound hI.le).2 (NL.of l h hI.le) (fun W hW=>q62 b l h W hW hh)
theorem qcz (b:Nat) (W:World):(callFunc 307 #[.pointer (some ⟨b,0,none⟩)]).run Tryz.prog W=.ok (.enter 307 #[.pointer (some ⟨b,0,none⟩)]) W:=by
 go_simp
theorem qjp (b:Nat) (l:List Bool) (done:Bool) (q:Nat) (F:Nat→Prop) (w:World) (h:ParAt w b l done q F) :
  Calls Tryz.prog 117 #[.pointer (some ⟨b,1,none⟩),.func (.func 307) #[.pointer (some ⟨b,0,none⟩)] #[]] w fun e w'=>e=.returned (.tuple #[])∧ParAfter w b l true q F w':=by
 obtain⟨⟨bi,tv,FI,dI,asked,hb,hI,hq,hFI,Fb,nb,htv,hT⟩,hold⟩:=h
 cases done with
 | true =>
  have c1:w.cell? ⟨b,1,none⟩=some (.int .u32 1):=World.cell_of_heap hb 1
  refine (qdp ⟨b,1,none⟩ _ w c1).mono ?_
  rintro e w' ⟨rfl,rfl⟩
  exact⟨rfl,ParAt.after ⟨⟨bi,tv,FI,dI,asked,hb,hI,hq,hFI,Fb,nb,htv,hT⟩,hold⟩⟩
 | false =>
  have hav:tv=.slice none 0 0:=hT
  subst hav
  obtain⟨h,hh⟩:=IsH.ex l
  have c1:w.cell? ⟨b,1,none⟩=some (.int .u32 0):=World.cell_of_heap hb 1
  have c2:w.cell? ⟨b,1+1,none⟩=some (.int .i32 0):=World.cell_of_heap hb 2
  have hw0:(w.setCell ⟨b,1+1,none⟩ (.int .i32 1)).heap[b]? = some (.cells (q2k bi false 1 (.slice none 0 0) 0) 335 (0,0)):=q00 hb 2 _
  have k0:Keeps (fun k=>k=b) w (w.setCell ⟨b,1+1,none⟩ (.int .i32 1)):=(Keeps.refl (fun k=>k=b) w).setCell (p:=⟨b,1+1,none⟩) (.inl rfl) _
  have hs0:(w.setCell ⟨b,1+1,none⟩ (.int .i32 1)).heap.size=w.heap.size:=by simp
  have hI0:=hI.keeps k0 (fun x hx h=>nb (h ▸ hx))
  have hM:=qel b bi l FI dI asked h _ hw0 hI0 nb hh
  refine (q7k b 1 307 #[.pointer (some ⟨b,0,none⟩)] (fun w1=>∃ g,MkAt (w.setCell ⟨b,1+1,none⟩ (.int .i32 1)) b bi g (2 ^ h) (tsum l h) (tlow l h) (fun k=>1≤k∧k<2 * 2 ^ h) w1) w (qcz b) c1 c2 (World.free_of_heap hb 2) (hM.mono ?_)).mono ?_
  ·rintro e w1 ⟨rfl,g,hm⟩
   exact⟨rfl,World.cell_of_heap hm.1 1,World.cell_of_heap hm.1 2,World.free_of_heap hm.1 1,World.free_of_heap hm.1 2,g,hm⟩
  ·rintro e w' ⟨rfl,w1,⟨g,hm1,hm2,hm3,hm4⟩,rfl⟩
   have hgs:=hm3.lt
   have hb2:(w1.drew.setCell ⟨b,1,none⟩ (.int .u32 1)).heap[b]? = some (.cells (q2k bi true 1 (.slice (some ⟨g,0,none⟩) (2 * 2 ^ h) (2 * 2 ^ h)) 1) 335 (0,0)):=q00 (w:=w1.drew) hm1 1 _
   have hb3:((w1.drew.setCell ⟨b,1,none⟩ (.int .u32 1)).setCell ⟨b,1+1,none⟩ (.int .i32 0)).heap[b]? = some (.cells (q2k bi true 0 (.slice (some ⟨g,0,none⟩) (2 * 2 ^ h) (2 * 2 ^ h)) 1) 335 (0,0)):=q00 hb2 2 _
   have k2:Keeps (fun k=>k=b) w1 ((w1.drew.setCell ⟨b,1,none⟩ (.int .u32 1)).setCell ⟨b,1+1,none⟩ (.int .i32 0)):=((Keeps.refl (fun k=>k=b) w1).drew.setCell (p:=⟨b,1,none⟩) (.inl rfl) _).setCell (p:=⟨b,1+1,none⟩) (.inl rfl) _
   have k3:=(k0.trans hm4 (fun x _ h=>h)).trans k2 (fun x _ h=>h)
   have hbs:=hold b Fb
   rw[hs0] at hm2
   have hm3':=hm3.keeps k2 (by omega)
   refine⟨rfl,⟨⟨bi,_,FI,dI,asked,hb3,hI.keeps k3 (fun x hx h=>nb (h ▸ hx)),hq,fun x hx=>.inl (hFI x hx),.inl Fb,nb,?_,h,g,hh,rfl,Nat.lt_of_lt_of_le hgs k2.size,?_⟩,q0x hold k3.size⟩,k3.mono (fun x _ h=>by rw[h];exact Fb)⟩
   ·intro k hk
    simp only [Value.ownBlock,Option.some.injEq] at hk
    subst hk
    exact⟨.inr ⟨hm2,Nat.lt_of_lt_of_le hgs k2.size⟩,fun h=>by have:=hI.old g h;omega,by omega⟩
   ·intro k h1 h2
    obtain⟨cs,q1,_,q3⟩:=hm3'
    rw[World.cell_of_heap q1,World.cell_of_heap q1]
    exact q3 k ⟨h1,h2⟩
end
section
open Go.RowKit
theorem qo6 {wh wr:World} {b:Nat} {l:List Bool} {done:Bool} {q:Nat} {F:Nat→Prop} (hF:∀ x,F x→x<wh.heap.size) (h:ParAfter wh b l done q F wr) :
  Calls Tryz.prog 117 #[.pointer (some ⟨b,1,none⟩),.func (.func 307) #[.pointer (some ⟨b,0,none⟩)] #[]] wr fun e w'=>e=.returned (.tuple #[])∧ParAfter wh b l true q F w' :=
 (qjp b l done q _ wr h.1).mono fun _ _ ⟨he,hw⟩=>⟨he,h.trans hF hw⟩
theorem qg4 {wh wr:World} {b:Nat} {l:List Bool} {done:Bool} {q:Nat} {F:Nat→Prop} (hF:∀ x,F x→x<wh.heap.size) (h:ParAfter wh b l done q F wr) (i:Nat) (hi:i<l.length) :
  Calls Tryz.prog 295 #[.pointer (some ⟨b,0,none⟩),.int .i64 i] wr fun e w'=>e=.returned (.int .i64 0)∧ParAfter wh b l true q F w':=by
 have hmf:∀ (fn:Fn) (first cap:Array Value) (w:World),(Instr.makeFunc fn first cap).run Tryz.prog w=.ok (.func fn first cap) w:=fun _ _ _ _=>rfl
 have hL:=q4n b l wr h.idx
 have hD:=qo6 hF h
 have hle:=h.idx.le
 clear h hF
 go_enter Tryz.func295,Tryz.ntmps295
 go_wp2_with (first | (go_at_call 301;refine hL.mono ?_;rintro e w' ⟨rfl,rfl⟩) | (go_at_call 117;refine hD.mono ?_;rintro e w' ⟨rfl,hA⟩))
 go_ret
 exact⟨rfl,hA⟩
theorem qd (l:List Bool) (i:Nat) (h:i<l.length):atZ l i=((l.getD i false).toNat:Int):=by
 unfold atZ
 rw[if_pos (by omega),Int.toNat_natCast]
theorem q8y {l:List Bool} {i:Nat} (h:i<l.length):(atZ l i == 1)=l.getD i false:=by
 rw[qd l i h];cases l.getD i false <;> rfl
theorem qg5 {wh wr:World} {b:Nat} {l:List Bool} {q:Nat} {F:Nat→Prop} (hF:∀ x,F x→x<wh.heap.size) (h:ParAfter wh b l true q F wr) (i m:Nat) (hq:q<100000000000) (hi:i<l.length) (hm:MateOf l i m) :
  Calls Tryz.prog 296 #[.pointer (some ⟨b,0,none⟩),.int .i64 i] wr fun e w'=>e=.returned (.int .i64 m)∧ParAfter wh b l true (q+2) F w':=by
 have hle:=h.idx.le
 have hO:=q5e b l i wr h.idx
 rw[q8y hi] at hO
 have hml:=hm.lt
 rcases hm with⟨h0,hm⟩|⟨h0,hm⟩
 ·rw[h0] at hO
  have hA:=qjn hF h (i+1) (m+1) (by omega) hm.ahead
  clear h0 hm h
  go_enter Tryz.func296,Tryz.ntmps296
  go_wp2_with (first | (go_at_call 303;refine hO.mono ?_;rintro e w' ⟨rfl,rfl⟩) | (go_at_call 308;refine hA.mono ?_;rintro e w' ⟨rfl,hP⟩))
  go_ret
  exact⟨q32 (by omega),hP⟩
 ·rw[h0] at hO
  have hE:=q14 hF h (i+1) (by omega) (by omega)
  have hx:=q1f l (i+1) hle
  have hB:=fun w (hA:ParAfter wh b l true (q+1) F w)=>q6s hF hA i m (ex l (i+1)) (by omega) hm.behind
  clear h0 hm h
  generalize ex l (i+1)=x at *
  go_enter Tryz.func296,Tryz.ntmps296
  go_wp2_with (first | (go_at_call 303;refine hO.mono ?_;rintro e w' ⟨rfl,rfl⟩) | (go_at_call 302;refine hE.mono ?_;rintro e w' ⟨rfl,hP⟩) | (go_at_call 304;refine (hB _ hP).mono ?_;rintro e w'' ⟨rfl,hP2⟩))
  go_ret
  exact⟨rfl,hP2⟩
theorem qnb {wh wr:World} {b:Nat} {l:List Bool} {done:Bool} {q:Nat} {F:Nat→Prop} (hF:∀ x,F x→x<wh.heap.size) (h:ParAfter wh b l done q F wr) (i m:Nat) (hq:q<100000000000) (hi:i<l.length) (hm:MateOf l i m) :
  Calls Tryz.prog 285 #[.pointer (some ⟨b,0,none⟩),.int .i64 i] wr fun e w'=>e=.returned (.tuple #[.int .i64 m,.int .i64 0])∧ParAfter wh b l true (q+2) F w':=by
 have hP:=qg4 hF h i hi
 have hM:=fun w (hA:ParAfter wh b l true q F w)=>qg5 hF hA i m hq hi hm
 clear h hm hF
 go_enter Tryz.func285,Tryz.ntmps285
 go_wp2_with (first | (go_at_call 295;refine hP.mono ?_;rintro e w' ⟨rfl,hA⟩) | (go_at_call 296;refine (hM _ hA).mono ?_;rintro e w' ⟨rfl,hA2⟩))
 go_ret2
 exact⟨rfl,hA2⟩
theorem qlt {wh wr:World} {b:Nat} {l:List Bool} {done:Bool} {q:Nat} {F:Nat→Prop} (hF:∀ x,F x→x<wh.heap.size) (h:ParAfter wh b l done q F wr) (i:Nat) (r:Int) (hq:q<10000000000) (hi:i<l.length) (hr:q8x l i r) :
  Calls Tryz.prog 288 #[.pointer (some ⟨b,0,none⟩),.int .i64 i] wr fun e w'=>e=.returned (.tuple #[.int .i64 r,.int .i64 0])∧ParAfter wh b l true (q+4) F w':=by
 have hle:=h.idx.le
 have hP:=qg4 hF h i hi
 have hO:=fun w (hA:ParAfter wh b l true q F w)=>q5e b l i w hA.idx
 rw[q8y hi] at hO
 have hnot:∀ (x:Bool) (w:World),(Op.unary .not (.bool x)).run Tryz.prog w=.ok (.bool (!x)) w:=fun _ _=>rfl
 clear h
 rcases hr with⟨h0,hr⟩|⟨h0,o,ho,hr⟩
 ·rw[h0] at hO
  have hE:=fun w (hA:ParAfter wh b l true q F w)=>q14 hF hA i (by omega) (by omega)
  have hx:=q1f l i hle
  rcases hr with⟨hx0,rfl⟩|⟨hx0,B,rfl,hB⟩
  ·rw[hx0] at hE
   clear hx0 h0 hx
   go_enter Tryz.func288,Tryz.ntmps288
   go_wp2_with (first | (go_at_call 295;refine hP.mono ?_;rintro e w' ⟨rfl,hA⟩) | (go_at_call 303;refine (hO _ hA).mono ?_;rintro e w' ⟨rfl,rfl⟩) | (go_at_call 302;refine (hE _ hA).mono ?_;rintro e w' ⟨rfl,hA2⟩))
   go_ret2
   exact⟨rfl,hA2.more (by omega)⟩
  ·have hBe:=fun w (hA:ParAfter wh b l true (q+1) F w)=>q6s hF hA i B (ex l i - 1) (by omega) hB
   have t0:(ex l i == 0)=false:=by rw[beq_eq_false_iff_ne];omega
   clear h0 hB
   generalize ex l i=x at *
   go_enter Tryz.func288,Tryz.ntmps288
   go_wp2_with (first | (go_at_call 295;refine hP.mono ?_;rintro e w' ⟨rfl,hA⟩) | (go_at_call 303;refine (hO _ hA).mono ?_;rintro e w' ⟨rfl,rfl⟩) | (go_at_call 302;refine (hE _ hA).mono ?_;rintro e w' ⟨rfl,hA2⟩) | (go_at_call 304;refine (hBe _ hA2).mono ?_;rintro e w' ⟨rfl,hA3⟩))
   go_ret2
   exact⟨rfl,hA3.more (by omega)⟩
 ·rw[h0] at hO
  have hM:=fun w (hA:ParAfter wh b l true q F w)=>qg5 hF hA i o (by omega) hi ho.mate_r
  have hol:=ho.mate_r.lt
  have hE:=fun w (hA:ParAfter wh b l true (q+2) F w)=>q14 hF hA o (by omega) (by omega)
  have hx:=q1f l o hle
  rcases hr with⟨hx0,rfl⟩|⟨hx0,B,rfl,hB⟩
  ·rw[hx0] at hE
   clear hx0 h0 hx ho
   go_enter Tryz.func288,Tryz.ntmps288
   go_wp2_with (first | (go_at_call 295;refine hP.mono ?_;rintro e w' ⟨rfl,hA⟩) | (go_at_call 303;refine (hO _ hA).mono ?_;rintro e w' ⟨rfl,rfl⟩) | (go_at_call 296;refine (hM _ hA).mono ?_;rintro e w' ⟨rfl,hA1⟩) | (go_at_call 302;refine (hE _ hA1).mono ?_;rintro e w' ⟨rfl,hA2⟩))
   go_ret2
   exact⟨rfl,hA2.more (by omega)⟩
  ·have hBe:=fun w (hA:ParAfter wh b l true (q+3) F w)=>q6s hF hA o B (ex l o - 1) (by omega) hB
   have t0:(ex l o == 0)=false:=by rw[beq_eq_false_iff_ne];omega
   clear h0 hB ho
   generalize ex l o=x at *
   go_enter Tryz.func288,Tryz.ntmps288
   go_wp2_with (first | (go_at_call 295;refine hP.mono ?_;rintro e w' ⟨rfl,hA⟩) | (go_at_call 303;refine (hO _ hA).mono ?_;rintro e w' ⟨rfl,rfl⟩) | (go_at_call 296;refine (hM _ hA).mono ?_;rintro e w' ⟨rfl,hA1⟩) | (go_at_call 302;refine (hE _ hA1).mono ?_;rintro e w' ⟨rfl,hA2⟩) | (go_at_call 304;refine (hBe _ hA2).mono ?_;rintro e w' ⟨rfl,hA3⟩))
   go_ret2
   exact⟨rfl,hA3.more (by omega)⟩
end
section
open Go.RowKit
end
end Go.Proofs.YtcfdpogegngplaaGreat
