import Derived.Test.YtcfdpogegngplaaGreatZbBase
set_option maxRecDepth 100000
set_option maxHeartbeats 4000000
namespace Go.Proofs.YtcfdpogegngplaaGreat
section
def q7e (r:Nat):Nat:=if r % 2=0 then r / 2 else (r / 2) ^^^ 3988292384
def crcIt:Nat→Nat→Nat
 | 0,r=>r
 | n+1,r=>q7e (crcIt n r)
def q57 (r b:Nat):Nat:=crcIt 8 (r ^^^ b)
def crcR (bs:List Nat):Nat:=bs.foldl q57 4294967295
def crcV (bs:List Nat):Nat:=crcR bs ^^^ 4294967295
theorem qit {r:Nat} (h:r<4294967296):q7e r<4294967296:=by
 unfold q7e
 split
 ·omega
 ·exact Nat.xor_lt_two_pow (n:=32) (by omega) (by decide)
theorem qfq {r:Nat} (h:r<4294967296):∀ n,crcIt n r<4294967296:=by
 intro n
 induction n with
 | zero=>exact h
 | succ n ih=>exact qit ih
theorem qgz {r b:Nat} (h:r<4294967296) (hb:b<256):q57 r b<4294967296 :=
 qfq (Nat.xor_lt_two_pow (n:=32) h (by omega)) 8
theorem qa8:∀ (bs:List Nat) (r:Nat),(∀ b ∈ bs,b<256)→r<4294967296→bs.foldl q57 r<4294967296:=by
 intro bs
 induction bs with
 | nil=>intro r _ h;exact h
 | cons b bs ih=>intro r hb h;exact ih _ (fun x hx=>hb x (by simp[hx])) (qgz h (hb b (by simp)))
theorem qec {bs:List Nat} (h:∀ b ∈ bs,b<256):crcV bs<4294967296 :=
 Nat.xor_lt_two_pow (n:=32) (qa8 bs _ h (by decide)) (by decide)
def four (x:Nat):List Nat:=[x % 256,x / 256 % 256,x / 65536 % 256,x / 16777216 % 256]
theorem qnb (x:Nat):∀ b ∈ four x,b<256:=by
 intro b hb
 simp only [four,List.mem_cons,List.not_mem_nil,or_false] at hb
 omega
end
section
def bigV (l:List Bool):Nat:=l.foldl (fun a b=>2 * a+b.toNat) 0
theorem ltGet {α:Type} {l:List α} {i:Nat} {x:α} (h:l[i]? = some x):i<l.length:=by
 rcases Nat.lt_or_ge i l.length with h' | h'
 ·exact h'
 ·rw[List.getElem?_eq_none h'] at h;cases h
theorem q43 (l:List Bool) (b:Bool):bigV (l ++ [b])=2 * bigV l+b.toNat:=by simp[bigV]
theorem q82 {α:Type} {P:List α→Prop} (h0:P []) (h1:∀ l x,P l→P (l ++ [x])) (l:List α):P l:=by
 have:∀ n,∀ l:List α,l.length=n→P l:=by
  intro n
  induction n with
  | zero=>intro l hl;rw[List.eq_nil_of_length_eq_zero hl];exact h0
  | succ n ih =>
   intro l hl
   have hne:l≠[]:=by intro e;rw[e] at hl;simp at hl
   rw[← List.dropLast_concat_getLast hne]
   exact h1 _ _ (ih _ (by simp[hl]))
 exact this _ l rfl
theorem qb3 (l m:List Bool):bigV (l ++ m)=bigV l * 2 ^ m.length+bigV m:=by
 refine q82 (P:=fun m=>bigV (l ++ m)=bigV l * 2 ^ m.length+bigV m) (by simp[bigV]) (fun m b ih=>?_) m
 rw[← List.append_assoc,q43,ih,q43,List.length_append,List.length_singleton,Nat.pow_succ,Nat.mul_add,← Nat.mul_assoc (bigV l),Nat.mul_comm (bigV l * 2 ^ m.length) 2]
 omega
theorem qa9 (n:Nat):bigV (List.replicate n false)=0:=by
 induction n with
 | zero=>rfl
 | succ n ih=>rw[List.replicate_succ',q43,ih];rfl
theorem qcb (n:Nat):bigV (List.replicate n true)+1=2 ^ n:=by
 induction n with
 | zero=>rfl
 | succ n ih =>
  rw[List.replicate_succ',q43,Nat.pow_succ,← ih]
  have:true.toNat=1:=rfl
  omega
theorem q62 (b:Bool) (l:List Bool):bigV (b :: l)=b.toNat * 2 ^ l.length+bigV l:=by
 have h:=qb3 [b] l
 rw[List.singleton_append] at h
 rw[h]
 congr 2
 simp[bigV]
def preV (F:List Bool):Nat→Nat
 | 0=>0
 | n+1=>2 * preV F n+(F.getD n false).toNat
theorem q1x (F:List Bool) (n:Nat):preV F (n+1)=2 * preV F n+(F.getD n false).toNat:=rfl
theorem qcc (o x:List Bool):∀ n,n≤o.length→preV (o ++ x) n=preV o n:=by
 intro n
 induction n with
 | zero=>intro _;rfl
 | succ n ih =>
  intro hn
  rw[q1x,q1x,ih (by omega)]
  congr 2
  rw[List.getD_eq_getElem?_getD,List.getD_eq_getElem?_getD,List.getElem?_append_left (by omega)]
theorem qiu (o:List Bool):preV o o.length=bigV o:=by
 refine q82 (P:=fun o=>preV o o.length=bigV o) rfl (fun o b ih=>?_) o
 rw[List.length_append,List.length_singleton,q1x,qcc o [b] o.length (Nat.le_refl _),ih,q43]
 simp
theorem qb4 (o x:List Bool) (j:Nat):preV (o ++ x) (o.length+j)=bigV o * 2 ^ j+preV x j:=by
 induction j with
 | zero=>rw[Nat.add_zero,qcc o x _ (Nat.le_refl _),qiu];simp[preV]
 | succ j ih =>
  rw[← Nat.add_assoc,q1x,q1x,ih,Nat.pow_succ]
  have:(o ++ x).getD (o.length+j) false=x.getD j false:=by
   rw[List.getD_eq_getElem?_getD,List.getD_eq_getElem?_getD,List.getElem?_append_right (by omega)]
   congr 2
   omega
  rw[this,← Nat.mul_assoc (bigV o)]
  omega
theorem qlh (j:Nat):preV [] j=0:=by
 induction j with
 | zero=>rfl
 | succ j ih=>rw[q1x,ih];simp
theorem qcd (x:List Bool) (j:Nat):preV x (x.length+j)=bigV x * 2 ^ j:=by
 have:=qb4 x [] j
 rw[List.append_nil,qlh] at this
 simpa using this
theorem qiv (F:List Bool):∀ n,preV F n<2 ^ n:=by
 intro n
 induction n with
 | zero=>simp[preV]
 | succ n ih =>
  rw[q1x,Nat.pow_succ]
  have:(F.getD n false).toNat≤1:=by cases F.getD n false <;> simp
  omega
structure EncS where
 l:Nat
 h:Nat
 w:Nat
 o:List Bool
def way (l h:Nat):Nat:=if h<2147483648 then 1 else if 2147483648≤l then 2 else if 1073741824≤l∧h<3221225472 then 3 else 0
def offW (k:Nat):Nat:=if k=2 then 2147483648 else if k=3 then 1073741824 else 0
theorem q1y (l h:Nat):(way l h=1∧h<2147483648)∨(way l h=2∧2147483648≤h∧2147483648≤l)∨(way l h=3∧2147483648≤h∧l<2147483648∧1073741824≤l∧h<3221225472)∨(way l h=0∧2147483648≤h∧l<2147483648∧(l<1073741824∨3221225472≤h)):=by
 unfold way
 by_cases h1:h<2147483648
 ·rw[if_pos h1];exact .inl ⟨rfl,h1⟩
 ·rw[if_neg h1]
  by_cases h2:2147483648≤l
  ·rw[if_pos h2];exact .inr (.inl ⟨rfl,by omega,h2⟩)
  ·rw[if_neg h2]
   by_cases h3:1073741824≤l∧h<3221225472
   ·rw[if_pos h3];exact .inr (.inr (.inl ⟨rfl,by omega,by omega,h3.1,h3.2⟩))
   ·rw[if_neg h3];exact .inr (.inr (.inr ⟨rfl,by omega,by omega,by omega⟩))
def stepE (s:EncS):EncS :=
 ⟨2 * (s.l - offW (way s.l s.h)),2 * (s.h - offW (way s.l s.h))+1,if way s.l s.h=3 then s.w+1 else 0,
  if way s.l s.h=1 then s.o ++ false :: List.replicate s.w true else if way s.l s.h=2 then s.o ++ true :: List.replicate s.w false else s.o⟩
def absA (s:EncS):Nat:=bigV s.o * 2 ^ (32+s.w)+(2 ^ s.w - 1) * 2147483648
def absT (s:EncS):Nat:=s.o.length+s.w
theorem qce {l h:Nat} (_hlh:l≤h):offW (way l h)≤l:=by
 rcases q1y l h with⟨e,_⟩|⟨e,_,h2⟩|⟨e,_,_,h2,_⟩|⟨e,_⟩ <;> rw[e] <;> unfold offW <;> simp <;> omega
theorem alg1 (P Y X H:Nat) (h:X+1=Y):(P * (Y * 2)+X) * (2 * H)+0=2 * (P * (2 * H * Y)+(Y - 1) * H+0):=by
 subst h
 have e1:P * ((X+1) * 2) * (2 * H)=2 * (P * (2 * H * (X+1))):=by ac_rfl
 have e2:X * (2 * H)=2 * (X * H):=by ac_rfl
 rw[Nat.add_sub_cancel,Nat.add_mul,e1,e2]
 omega
theorem alg2 (P Y H:Nat) (h:0<Y):(P * (Y * 2)+Y) * (2 * H)+0=2 * (P * (2 * H * Y)+(Y - 1) * H+H):=by
 obtain⟨Z,rfl⟩:∃ Z,Y=Z+1:=⟨Y - 1,by omega⟩
 have e1:P * ((Z+1) * 2) * (2 * H)=2 * (P * (2 * H * (Z+1))):=by ac_rfl
 have e2:(Z+1) * (2 * H)=2 * (Z * H+H):=by rw[show Z * H+H=(Z+1) * H by rw[Nat.add_mul,Nat.one_mul]];ac_rfl
 rw[Nat.add_sub_cancel,Nat.add_mul,e1,e2]
 omega
theorem alg3 (P Y H Q:Nat) (h:0<Y) (hq:2 * Q=H):P * (2 * H * (Y * 2))+(Y * 2 - 1) * H=2 * (P * (2 * H * Y)+(Y - 1) * H+Q):=by
 obtain⟨Z,rfl⟩:∃ Z,Y=Z+1:=⟨Y - 1,by omega⟩
 rw[Nat.add_sub_cancel,show (Z+1) * 2 - 1=Z * 2+1 by omega,Nat.add_mul (Z * 2),Nat.one_mul,Nat.mul_add,Nat.mul_add,hq,Nat.add_assoc]
 congr 1
 ·ac_rfl
 ·congr 1
  ac_rfl
theorem q8v (H w:Nat) (hH:H=2147483648):2 ^ (32+w)=2 * H * 2 ^ w:=by
 rw[Nat.pow_add,hH]
theorem q63 (s:EncS) (hk:way s.l s.h≠0):absA (stepE s)=2 * (absA s+offW (way s.l s.h))∧absT (stepE s)=absT s+1:=by
 obtain⟨H,hH⟩:∃ H,H=2147483648:=⟨_,rfl⟩
 obtain⟨Q,hQ⟩:∃ Q,Q=1073741824:=⟨_,rfl⟩
 have hq:2 * Q=H:=by omega
 have h0:0<2 ^ s.w:=Nat.two_pow_pos _
 have hp:=q8v H s.w hH
 have hp0:2 ^ (32+0)=2 * H:=by rw[q8v H 0 hH,Nat.pow_zero,Nat.mul_one]
 have hp1:2 ^ (32+(s.w+1))=2 * H * (2 ^ s.w * 2):=by rw[q8v H _ hH,Nat.pow_succ]
 have o2:offW 2=H:=by rw[hH];rfl
 have o3:offW 3=Q:=by rw[hQ];rfl
 have o1:offW 1=0:=rfl
 have hA:absA s=bigV s.o * (2 * H * 2 ^ s.w)+(2 ^ s.w - 1) * H:=by unfold absA;rw[hp,hH]
 have hT:absT s=s.o.length+s.w:=rfl
 rw[hA,hT]
 rcases q1y s.l s.h with⟨e,_⟩|⟨e,_⟩|⟨e,_⟩|⟨e,_⟩
 ·have e1:(stepE s).o=s.o ++ false :: List.replicate s.w true:=by unfold stepE;rw[e];rfl
  have e2:(stepE s).w=0:=by unfold stepE;rw[e];rfl
  have hA':absA (stepE s)=bigV (s.o ++ false :: List.replicate s.w true) * 2 ^ (32+0)+0:=by unfold absA;rw[e1,e2,Nat.pow_zero,Nat.sub_self,Nat.zero_mul]
  have h1:=qcb s.w
  refine⟨?_,?_⟩
  ·rw[hA',e,o1,qb3,q62,hp0,List.length_cons,List.length_replicate,Bool.toNat_false,Nat.zero_mul,Nat.zero_add,Nat.pow_succ]
   exact alg1 _ _ _ _ h1
  ·unfold absT
   rw[e1,e2,List.length_append,List.length_cons,List.length_replicate]
   omega
 ·have e1:(stepE s).o=s.o ++ true :: List.replicate s.w false:=by unfold stepE;rw[e];rfl
  have e2:(stepE s).w=0:=by unfold stepE;rw[e];rfl
  have hA':absA (stepE s)=bigV (s.o ++ true :: List.replicate s.w false) * 2 ^ (32+0)+0:=by unfold absA;rw[e1,e2,Nat.pow_zero,Nat.sub_self,Nat.zero_mul]
  refine⟨?_,?_⟩
  ·rw[hA',e,o2,qb3,q62,qa9,hp0,List.length_cons,List.length_replicate,Bool.toNat_true,Nat.one_mul,Nat.add_zero,Nat.pow_succ]
   exact alg2 _ _ _ h0
  ·unfold absT
   rw[e1,e2,List.length_append,List.length_cons,List.length_replicate]
   omega
 ·have e1:(stepE s).o=s.o:=by unfold stepE;rw[e];rfl
  have e2:(stepE s).w=s.w+1:=by unfold stepE;rw[e];rfl
  have hA':absA (stepE s)=bigV s.o * (2 * H * (2 ^ s.w * 2))+(2 ^ s.w * 2 - 1) * H:=by unfold absA;rw[e1,e2,hp1,Nat.pow_succ,hH]
  refine⟨?_,?_⟩
  ·rw[hA',e,o3]
   exact alg3 _ _ _ _ h0 hq
  ·unfold absT
   rw[e1,e2]
   omega
 ·exact absurd e hk
def InSp (F:List Bool) (s:EncS):Prop:=absA s+s.l≤preV F (32+absT s)∧preV F (32+absT s)≤absA s+s.h
theorem InSp.back {F:List Bool} {s:EncS} (hlh:s.l≤s.h) (hk:way s.l s.h≠0) (h:InSp F (stepE s)):InSp F s:=by
 obtain⟨h1,h2⟩:=h
 obtain⟨e1,e2⟩:=q63 s hk
 rw[e1,e2,← Nat.add_assoc,q1x] at h1 h2
 have ho:=qce hlh
 have hb:(F.getD (32+absT s) false).toNat≤1:=by cases F.getD (32+absT s) false <;> simp
 have hl:(stepE s).l=2 * (s.l - offW (way s.l s.h)):=rfl
 have hh:(stepE s).h=2 * (s.h - offW (way s.l s.h))+1:=rfl
 rw[hl] at h1
 rw[hh] at h2
 unfold InSp
 omega
def midC (l h:Nat) (c:Nat × Nat):Nat:=l+(h - l+1) * c.1 / (c.1+c.2) - 1
def OkC (c:Nat × Nat):Prop:=1≤c.1∧1≤c.2∧c.1+c.2<65536
def Nrm (l h:Nat):Prop:=l≤h∧h<4294967296∧way l h=0
def takeE (c:Nat × Nat) (b:Bool) (s:EncS):EncS:=if b then { s with l:=midC s.l s.h c+1 } else { s with h:=midC s.l s.h c }
theorem Nrm.wide {l h:Nat} (hn:Nrm l h):1073741824<h - l+1:=by
 obtain⟨h1,h2,h3⟩:=hn
 rcases q1y l h with⟨e,_⟩|⟨e,_⟩|⟨e,_⟩|⟨_,a,b,c⟩ <;> omega
theorem q3e {l h:Nat} {c:Nat × Nat} (hn:Nrm l h) (hc:OkC c):l≤midC l h c∧midC l h c+1≤h∧1≤(h - l+1) * c.1 / (c.1+c.2):=by
 have hw:=hn.wide
 obtain⟨c1,c2,c3⟩:=hc
 have h1:1≤(h - l+1) * c.1 / (c.1+c.2):=by
  rw[Nat.le_div_iff_mul_le (by omega),Nat.one_mul]
  calc c.1+c.2≤h - l+1:=by omega
   _=(h - l+1) * 1:=by omega
   _≤(h - l+1) * c.1:=Nat.mul_le_mul_left _ c1
 have h2:(h - l+1) * c.1 / (c.1+c.2)<h - l+1:=by
  rw[Nat.div_lt_iff_lt_mul (by omega)]
  exact Nat.mul_lt_mul_of_pos_left (by omega) (by omega)
 unfold midC
 have:=hn.1
 refine⟨by omega,by omega,h1⟩
theorem q83 {c:Nat × Nat} {b:Bool} {s:EncS} (hn:Nrm s.l s.h) (hc:OkC c):(takeE c b s).l≤(takeE c b s).h∧(takeE c b s).h<4294967296:=by
 have hm:=q3e hn hc
 have:=hn.2.1
 unfold takeE
 cases b
 ·exact⟨hm.1,by simp only [Bool.false_eq_true,if_false];omega⟩
 ·exact⟨hm.2.1,by simp only [if_true];omega⟩
theorem InSp.backT {F:List Bool} {c:Nat × Nat} {b:Bool} {s:EncS} (hn:Nrm s.l s.h) (hc:OkC c) (h:InSp F (takeE c b s)):InSp F s∧b=decide (midC s.l s.h c<preV F (32+absT s) - absA s):=by
 obtain⟨h1,h2⟩:=h
 have hm:=q3e hn hc
 cases b
 ·have e1:absA (takeE c false s)=absA s:=rfl
  have e2:absT (takeE c false s)=absT s:=rfl
  have e3:(takeE c false s).l=s.l:=rfl
  have e4:(takeE c false s).h=midC s.l s.h c:=rfl
  rw[e1,e2] at h1 h2
  rw[e3] at h1
  rw[e4] at h2
  exact⟨⟨h1,by omega⟩,(decide_eq_false (by omega)).symm⟩
 ·have e1:absA (takeE c true s)=absA s:=rfl
  have e2:absT (takeE c true s)=absT s:=rfl
  have e3:(takeE c true s).l=midC s.l s.h c+1:=rfl
  have e4:(takeE c true s).h=s.h:=rfl
  rw[e1,e2] at h1 h2
  rw[e3] at h1
  rw[e4] at h2
  exact⟨⟨by omega,h2⟩,(decide_eq_true (by omega)).symm⟩
def normE:Nat→EncS→EncS
 | 0,s=>s
 | n+1,s=>if way s.l s.h=0 then s else normE n (stepE s)
theorem q84 {s:EncS} (h1:s.l≤s.h) (h2:s.h<4294967296) (hk:way s.l s.h≠0):(stepE s).l≤(stepE s).h∧(stepE s).h<4294967296∧(stepE s).h - (stepE s).l+1=2 * (s.h - s.l+1):=by
 have ho:=qce h1
 have hl:(stepE s).l=2 * (s.l - offW (way s.l s.h)):=rfl
 have hh:(stepE s).h=2 * (s.h - offW (way s.l s.h))+1:=rfl
 rw[hl,hh]
 refine⟨by omega,?_,by omega⟩
 rcases q1y s.l s.h with⟨e,a⟩|⟨e,a,b⟩|⟨e,a,b,c,d⟩|⟨e,_⟩
 ·omega
 ·rw[e];unfold offW;simp;omega
 ·rw[e];unfold offW;simp;omega
 ·exact absurd e hk
theorem qiw:∀ n s,s.l≤s.h→s.h<4294967296→4294967296<(s.h - s.l+1) * 2 ^ n→Nrm (normE n s).l (normE n s).h:=by
 intro n
 induction n with
 | zero=>intro s h1 h2 h3;rw[Nat.pow_zero,Nat.mul_one] at h3;omega
 | succ n ih =>
  intro s h1 h2 h3
  unfold normE
  by_cases hk:way s.l s.h=0
  ·rw[if_pos hk];exact⟨h1,h2,hk⟩
  ·rw[if_neg hk]
   obtain⟨a,b,c⟩:=q84 h1 h2 hk
   refine ih _ a b ?_
   rw[c,Nat.mul_comm 2,Nat.mul_assoc,← Nat.pow_succ']
   exact h3
theorem InSp.backN {F:List Bool}:∀ n (s:EncS),s.l≤s.h→s.h<4294967296→InSp F (normE n s)→InSp F s:=by
 intro n
 induction n with
 | zero=>intro s _ _ h;exact h
 | succ n ih =>
  intro s h1 h2 h
  unfold normE at h
  by_cases hk:way s.l s.h=0
  ·rw[if_pos hk] at h;exact h
  ·rw[if_neg hk] at h
   obtain⟨a,b,_⟩:=q84 h1 h2 hk
   exact (ih _ a b h).back h1 hk
def seeC (c:Nat × Nat) (b:Bool):Nat × Nat :=
 let d:=if b then (c.1,c.2+1) else (c.1+1,c.2)
 if d.1+d.2=65536 then ((d.1+1) / 2,(d.2+1) / 2) else d
theorem qnc {c:Nat × Nat} (h:OkC c) (b:Bool):OkC (seeC c b):=by
 obtain⟨h1,h2,h3⟩:=h
 unfold seeC OkC
 cases b
 ·simp only [Bool.false_eq_true,if_false]
  by_cases e:c.1+1+c.2=65536
  ·rw[if_pos e];simp only;omega
  ·rw[if_neg e];simp only;omega
 ·simp only [if_true]
  by_cases e:c.1+(c.2+1)=65536
  ·rw[if_pos e];simp only;omega
  ·rw[if_neg e];simp only;omega
structure CM where
 cs:List (Nat × Nat)
 now:Nat
def CM.cur (m:CM):Nat × Nat:=m.cs.getD m.now (1,1)
def CM.see (m:CM) (b:Bool):CM:=⟨m.cs.set m.now (seeC m.cur b),(2 * m.now+b.toNat) % m.cs.length⟩
def CM.new (N:Nat):CM:=⟨List.replicate N (1,1),0⟩
structure CM.Ok (m:CM) (N:Nat):Prop where
 len:m.cs.length=N
 ok:∀ c ∈ m.cs,OkC c
 lt:m.now<N
theorem CM.Ok.cur {m:CM} {N:Nat} (h:m.Ok N):OkC m.cur∧m.cs[m.now]? = some m.cur:=by
 have h1:=List.getElem?_eq_getElem (l:=m.cs) (i:=m.now) (by rw[h.len];exact h.lt)
 have h2:m.cur=m.cs[m.now]'(by rw[h.len];exact h.lt):=by unfold CM.cur;rw[List.getD_eq_getElem?_getD,h1];rfl
 rw[h2]
 exact⟨h.ok _ (List.getElem_mem _),h1⟩
theorem CM.Ok.see {m:CM} {N:Nat} (h:m.Ok N) (b:Bool):(m.see b).Ok N:=by
 refine⟨by simp[CM.see,h.len],fun c hc=>?_,?_⟩
 ·rcases List.mem_or_eq_of_mem_set hc with hc|rfl
  ·exact h.ok c hc
  ·exact qnc h.cur.1 b
 ·show (2 * m.now+b.toNat) % m.cs.length<N
  rw[h.len]
  exact Nat.mod_lt _ (by have:=h.lt;omega)
theorem CM.new_ok {N:Nat} (h:0<N):(CM.new N).Ok N :=
 ⟨by simp[CM.new],fun c hc=>by rw[List.eq_of_mem_replicate hc];exact⟨by decide,by decide,by decide⟩,h⟩
def q1z (x:CM × EncS) (b:Bool):CM × EncS:=(x.1.see b,normE 33 (takeE x.1.cur b x.2))
def encS (k:Nat) (l:List Bool):CM × EncS:=l.foldl q1z (CM.new (2 ^ k),⟨0,4294967295,0,[]⟩)
def finE (s:EncS):List Bool:=if s.l<1073741824 then s.o ++ false :: List.replicate (s.w+1) true else s.o ++ true :: List.replicate (s.w+1) false
def encK (k:Nat) (l:List Bool):List Bool:=finE (encS k l).2
theorem q6t {N:Nat} {x:CM × EncS} (h1:x.1.Ok N) (h2:Nrm x.2.l x.2.h) (b:Bool):(q1z x b).1.Ok N∧Nrm (q1z x b).2.l (q1z x b).2.h:=by
 obtain⟨a,c⟩:=q83 (b:=b) h2 h1.cur.1
 refine⟨h1.see b,qiw 33 _ a c ?_⟩
 calc 4294967296<1 * 2 ^ 33:=by decide
  _≤_:=Nat.mul_le_mul_right _ (by omega)
theorem q44:Nrm 0 4294967295:=⟨by decide,by decide,by decide⟩
theorem qnd (k:Nat) (l:List Bool):(encS k l).1.Ok (2 ^ k)∧Nrm (encS k l).2.l (encS k l).2.h:=by
 refine q82 (P:=fun l=>(encS k l).1.Ok (2 ^ k)∧Nrm (encS k l).2.l (encS k l).2.h) ⟨CM.new_ok (Nat.two_pow_pos k),q44⟩ (fun l b ih=>?_) l
 unfold encS at ih ⊢
 rw[List.foldl_append]
 exact q6t ih.1 ih.2 b
theorem InSp.fin {s:EncS} (h:Nrm s.l s.h):InSp (finE s) s:=by
 obtain⟨h1,h2,h3⟩:=h
 have h0:0<2 ^ s.w:=Nat.two_pow_pos _
 have hp:2 ^ (32+s.w)=4294967296 * 2 ^ s.w:=by rw[Nat.pow_add]
 rcases q1y s.l s.h with⟨e,_⟩|⟨e,_⟩|⟨e,_⟩|⟨_,a,b,c⟩
 ·omega
 ·omega
 ·omega
 ·have ht:32+absT s=s.o.length+(s.w+2+30):=by unfold absT;omega
  unfold InSp finE
  rw[ht]
  by_cases hq:s.l<1073741824
  ·rw[if_pos hq,qb4]
   have h5:=qcd (false :: List.replicate (s.w+1) true) 30
   rw[List.length_cons,List.length_replicate] at h5
   rw[show s.w+2+30=s.w+1+1+30 by omega,h5,q62]
   have h6:=qcb (s.w+1)
   unfold absA
   rw[show s.w+1+1+30=32+s.w by omega]
   generalize bigV s.o * 2 ^ (32+s.w)=P at *
   rw[Nat.pow_succ] at h6
   generalize bigV (List.replicate (s.w+1) true)=X at *
   generalize 2 ^ s.w=Y at *
   simp only [Bool.toNat_false,Nat.zero_mul,Nat.zero_add]
   omega
  ·rw[if_neg hq,qb4]
   have h5:=qcd (true :: List.replicate (s.w+1) false) 30
   rw[List.length_cons,List.length_replicate] at h5
   rw[show s.w+2+30=s.w+1+1+30 by omega,h5,q62,qa9,List.length_replicate]
   unfold absA
   rw[show s.w+1+1+30=32+s.w by omega,Nat.pow_succ]
   generalize bigV s.o * 2 ^ (32+s.w)=P at *
   generalize 2 ^ s.w=Y at *
   simp only [Bool.toNat_true,Nat.one_mul,Nat.add_zero]
   omega
theorem InSp.enc {N:Nat}:∀ (rest:List Bool) (x:CM × EncS),x.1.Ok N→Nrm x.2.l x.2.h→InSp (finE (rest.foldl q1z x).2) x.2:=by
 intro rest
 induction rest with
 | nil=>intro x _ h2;exact InSp.fin h2
 | cons b rest ih =>
  intro x h1 h2
  obtain⟨a,c⟩:=q6t h1 h2 b
  have h3:=ih (q1z x b) a c
  obtain⟨d,e⟩:=q83 (b:=b) h2 h1.cur.1
  exact ((InSp.backN 33 _ d e h3).backT h2 h1.cur.1).1
structure DC where
 l:Nat
 h:Nat
 v:Nat
 a:Nat
def stepC (F:List Bool) (d:DC):DC:=⟨2 * (d.l - offW (way d.l d.h)),2 * (d.h - offW (way d.l d.h))+1,2 * (d.v - offW (way d.l d.h))+(F.getD d.a false).toNat,d.a+1⟩
def normC (F:List Bool):Nat→DC→DC
 | 0,d=>d
 | n+1,d=>if way d.l d.h=0 then d else normC F n (stepC F d)
def takeC (c:Nat × Nat) (b:Bool) (d:DC):DC:=if b then { d with l:=midC d.l d.h c+1 } else { d with h:=midC d.l d.h c }
def bitC (x:CM × DC):Bool:=decide (midC x.2.l x.2.h x.1.cur<x.2.v)
def q13 (F:List Bool) (x:CM × DC):CM × DC:=(x.1.see (bitC x),normC F 33 (takeC x.1.cur (bitC x) x.2))
def decS (F:List Bool):Nat→CM × DC→List Bool
 | 0,_=>[]
 | n+1,x=>bitC x :: decS F n (q13 F x)
def q06 (k:Nat) (F:List Bool):CM × DC:=(CM.new (2 ^ k),⟨0,4294967295,preV F 32,32⟩)
def decK (k n:Nat) (F:List Bool):List Bool:=decS F n (q06 k F)
def RelC (F:List Bool) (s:EncS) (d:DC):Prop:=d.l=s.l∧d.h=s.h∧d.a=32+absT s∧d.v+absA s=preV F (32+absT s)
theorem RelC.norm {F:List Bool}:∀ n (s:EncS) (d:DC),s.l≤s.h→s.h<4294967296→InSp F (normE n s)→RelC F s d→RelC F (normE n s) (normC F n d):=by
 intro n
 induction n with
 | zero=>intro s d _ _ _ h;exact h
 | succ n ih =>
  intro s d h1 h2 hI hR
  have hs:=InSp.backN (n+1) s h1 h2 hI
  obtain⟨r1,r2,r3,r4⟩:=hR
  unfold normE at hI ⊢
  unfold normC
  rw[r1,r2]
  by_cases hk:way s.l s.h=0
  ·rw[if_pos hk,if_pos hk];exact⟨r1,r2,r3,r4⟩
  ·rw[if_neg hk] at hI
   rw[if_neg hk,if_neg hk]
   obtain⟨a,b,_⟩:=q84 h1 h2 hk
   refine ih _ _ a b hI ?_
   obtain⟨e1,e2⟩:=q63 s hk
   have ho:=qce h1
   have hv:s.l≤d.v:=by have:=hs.1;omega
   refine⟨?_,?_,?_,?_⟩
   ·show 2 * (d.l - offW (way d.l d.h))=_;rw[r1,r2];rfl
   ·show 2 * (d.h - offW (way d.l d.h))+1=_;rw[r1,r2];rfl
   ·show d.a+1=_;rw[e2,r3];omega
   ·show 2 * (d.v - offW (way d.l d.h))+(F.getD d.a false).toNat+absA (stepE s)=_
    rw[e1,e2,← Nat.add_assoc,q1x,← r4,r1,r2,r3]
    omega
theorem qli {N:Nat} {F:List Bool}:∀ (rest:List Bool) (x:CM × EncS) (d:DC),x.1.Ok N→Nrm x.2.l x.2.h→F=finE (rest.foldl q1z x).2→RelC F x.2 d→decS F rest.length (x.1,d)=rest:=by
 intro rest
 induction rest with
 | nil=>intro x d _ _ _ _;rfl
 | cons b rest ih =>
  intro x d h1 h2 hF hR
  obtain⟨a,c⟩:=q6t h1 h2 b
  have h3:InSp F (q1z x b).2:=by rw[hF];exact InSp.enc rest (q1z x b) a c
  obtain⟨p,q⟩:=q83 (b:=b) h2 h1.cur.1
  have h4:=InSp.backN 33 _ p q h3
  have h5:=h4.backT h2 h1.cur.1
  have h6:=h5.1
  obtain⟨r1,r2,r3,r4⟩:=id hR
  have hb:bitC (x.1,d)=b:=by
   unfold bitC
   rw[h5.2]
   simp only
   rw[r1,r2,← r4,Nat.add_sub_cancel]
  show bitC (x.1,d) :: decS F rest.length (q13 F (x.1,d))=b :: rest
  rw[hb]
  congr 1
  have h7:q13 F (x.1,d)=(x.1.see b,normC F 33 (takeC x.1.cur b d)):=by unfold q13;rw[hb]
  rw[h7]
  refine ih (q1z x b) _ a c hF (RelC.norm 33 _ _ p q h3 ?_)
  unfold takeC takeE
  cases b
  ·exact⟨r1,by simp only [Bool.false_eq_true,if_false];rw[r1,r2],r3,r4⟩
  ·exact⟨by simp only [if_true];rw[r1,r2],r2,r3,r4⟩
theorem qix (k:Nat) (l:List Bool):decK k l.length (encK k l)=l:=by
 unfold decK q06
 refine qli (N:=2 ^ k) l (CM.new (2 ^ k),⟨0,4294967295,0,[]⟩) _ (CM.new_ok (Nat.two_pow_pos k)) q44 rfl ⟨rfl,rfl,rfl,?_⟩
 simp[absA,absT,bigV]
end
section
def vaB (x:Nat):List Nat:=if x<128 then [x] else (x % 128+128) :: vaB (x / 128)
termination_by x
decreasing_by omega
theorem q2x {x:Nat} (h:x<128):vaB x=[x]:=by unfold vaB;rw[if_pos h]
theorem q4n {x:Nat} (h:¬ x<128):vaB x=(x % 128+128) :: vaB (x / 128):=by rw[vaB];rw[if_neg h]
theorem qfr (x:Nat):∀ b ∈ vaB x,b<256:=by
 induction x using Nat.strongRecOn with
 | ind x ih =>
  intro b hb
  by_cases h:x<128
  ·rw[q2x h] at hb;simp at hb;omega
  ·rw[q4n h] at hb
   rcases List.mem_cons.1 hb with rfl|hb
   ·omega
   ·exact ih (x / 128) (by omega) b hb
theorem qiy (x:Nat):0<(vaB x).length:=by
 by_cases h:x<128
 ·rw[q2x h];simp
 ·rw[q4n h];simp
theorem qne:∀ (k x:Nat),x<128 ^ (k+1)→(vaB x).length≤k+1:=by
 intro k
 induction k with
 | zero=>intro x h;rw[q2x (by omega)];simp
 | succ k ih =>
  intro x h
  by_cases h1:x<128
  ·rw[q2x h1];simp
  ·rw[q4n h1,List.length_cons]
   have:=ih (x / 128) (by rw[Nat.pow_succ] at h;omega)
   omega
theorem q10 {x:Nat} (h:x<18446744073709551616):(vaB x).length≤10:=qne 9 x (Nat.lt_of_lt_of_le h (by decide))
def getN:List Nat→Nat→Nat→Option (Nat × Nat)
 | [],_,_=>none
 | b :: p,i,acc =>
  if 64≤7 * i∨18446744073709551616≤b % 128 * 2 ^ (7 * i)∨(b=0∧0<i) then none
  else if b<128 then some (acc+b % 128 * 2 ^ (7 * i),i+1) else getN p (i+1) (acc+b % 128 * 2 ^ (7 * i))
theorem qlj:∀ (x:Nat) (rest:List Nat) (i acc:Nat),x * 2 ^ (7 * i)<18446744073709551616→(0<i→0<x)→getN (vaB x ++ rest) i acc=some (acc+x * 2 ^ (7 * i),i+(vaB x).length):=by
 intro x
 induction x using Nat.strongRecOn with
 | ind x ih =>
  intro rest i acc hx hi
  have h64:0<x→7 * i<64:=by
   intro h0
   apply Classical.byContradiction
   intro hn
   have h1:2 ^ 64≤2 ^ (7 * i):=Nat.pow_le_pow_right (by omega) (by omega)
   have h2:2 ^ (7 * i)≤x * 2 ^ (7 * i):=Nat.le_mul_of_pos_left _ h0
   have h3:(2:Nat) ^ 64=18446744073709551616:=by decide
   omega
  have hp:0<2 ^ (7 * i):=Nat.two_pow_pos _
  by_cases h:x<128
  ·rw[q2x h]
   have hm:x % 128=x:=Nat.mod_eq_of_lt h
   show (if 64≤7 * i∨18446744073709551616≤x % 128 * 2 ^ (7 * i)∨(x=0∧0<i) then none else if x<128 then some (acc+x % 128 * 2 ^ (7 * i),i+1) else getN rest (i+1) (acc+x % 128 * 2 ^ (7 * i)))=_
   have hc:¬ (64≤7 * i∨18446744073709551616≤x % 128 * 2 ^ (7 * i)∨(x=0∧0<i)):=by
    rw[hm]
    rintro (h1|h1|⟨h1,h2⟩)
    ·rcases Nat.eq_zero_or_pos i with e|e
     ·omega
     ·have:=h64 (hi e);omega
    ·omega
    ·have:=hi h2;omega
   rw[if_neg hc,if_pos h,hm]
   rfl
  ·rw[q4n h]
   have h0:0<x:=by omega
   have hsum:x=x % 128+128 * (x / 128):=by omega
   have hle:x % 128 * 2 ^ (7 * i)≤x * 2 ^ (7 * i):=Nat.mul_le_mul_right _ (Nat.mod_le _ _)
   have hb:(x % 128+128) % 128=x % 128:=by omega
   show (if 64≤7 * i∨18446744073709551616≤(x % 128+128) % 128 * 2 ^ (7 * i)∨(x % 128+128=0∧0<i) then none else if x % 128+128<128 then some (acc+(x % 128+128) % 128 * 2 ^ (7 * i),i+1) else getN (vaB (x / 128) ++ rest) (i+1) (acc+(x % 128+128) % 128 * 2 ^ (7 * i)))=_
   have hc:¬ (64≤7 * i∨18446744073709551616≤(x % 128+128) % 128 * 2 ^ (7 * i)∨(x % 128+128=0∧0<i)):=by
    rw[hb]
    rintro (h1|h1|⟨h1,h2⟩)
    ·have:=h64 h0;omega
    ·omega
    ·omega
   rw[if_neg hc,if_neg (by omega),hb]
   have hpow:2 ^ (7 * (i+1))=128 * 2 ^ (7 * i):=by rw[Nat.mul_add,Nat.pow_add,Nat.mul_comm]
   have hdiv:x / 128 * 2 ^ (7 * (i+1))=128 * (x / 128) * 2 ^ (7 * i):=by rw[hpow,← Nat.mul_assoc,Nat.mul_comm (x / 128) 128]
   have hle2:128 * (x / 128) * 2 ^ (7 * i)≤x * 2 ^ (7 * i):=Nat.mul_le_mul_right _ (by omega)
   rw[ih (x / 128) (by omega) rest (i+1) _ (by rw[hdiv];omega) (fun _=>by omega),hdiv,List.length_cons]
   have:x * 2 ^ (7 * i)=x % 128 * 2 ^ (7 * i)+128 * (x / 128) * 2 ^ (7 * i):=by rw[← Nat.add_mul,← hsum]
   rw[this]
   congr 2 <;> omega
def octV (l:List Bool):Nat:=(List.range 8).foldr (fun i a=>(l.getD i false).toNat+2 * a) 0
def octB (l:List Bool):List Nat:=(List.range ((l.length+7) / 8)).map fun j=>octV (l.drop (8 * j))
theorem q0b (l:List Bool):(octB l).length=(l.length+7) / 8:=by simp[octB]
theorem qiz (l:List Bool):octV l<256:=by
 have h:∀ i,(l.getD i false).toNat≤1:=fun i=>by cases l.getD i false <;> simp
 have:=h 0;have:=h 1;have:=h 2;have:=h 3;have:=h 4;have:=h 5;have:=h 6;have:=h 7
 show (l.getD 0 false).toNat+2 * ((l.getD 1 false).toNat+2 * ((l.getD 2 false).toNat+2 * ((l.getD 3 false).toNat+2 * ((l.getD 4 false).toNat+2 * ((l.getD 5 false).toNat+2 * ((l.getD 6 false).toNat+2 * ((l.getD 7 false).toNat+2 * 0)))))))<256
 omega
theorem qfs (l:List Bool) {i:Nat} (hi:i<8):octV l / 2 ^ i % 2=(l.getD i false).toNat:=by
 have h:∀ i,(l.getD i false).toNat≤1:=fun i=>by cases l.getD i false <;> simp
 have:=h 0;have:=h 1;have:=h 2;have:=h 3;have:=h 4;have:=h 5;have:=h 6;have:=h 7
 show ((l.getD 0 false).toNat+2 * ((l.getD 1 false).toNat+2 * ((l.getD 2 false).toNat+2 * ((l.getD 3 false).toNat+2 * ((l.getD 4 false).toNat+2 * ((l.getD 5 false).toNat+2 * ((l.getD 6 false).toNat+2 * ((l.getD 7 false).toNat+2 * 0)))))))) / 2 ^ i % 2=_
 match i,hi with
 | 0,_=>simp only [Nat.pow_zero];omega
 | 1,_=>simp only [show 2 ^ 1=2 from rfl];omega
 | 2,_=>simp only [show 2 ^ 2=4 from rfl];omega
 | 3,_=>simp only [show 2 ^ 3=8 from rfl];omega
 | 4,_=>simp only [show 2 ^ 4=16 from rfl];omega
 | 5,_=>simp only [show 2 ^ 5=32 from rfl];omega
 | 6,_=>simp only [show 2 ^ 6=64 from rfl];omega
 | 7,_=>simp only [show 2 ^ 7=128 from rfl];omega
theorem q8w (l:List Bool):∀ b ∈ octB l,b<256:=fun b hb=>by
 obtain⟨j,_,rfl⟩:=List.mem_map.1 hb
 exact qiz _
theorem qlk (l:List Bool) {i:Nat} (hi:i<8 * (octB l).length):(octB l).getD (i / 8) 0 / 2 ^ (i % 8) % 2=(l.getD i false).toNat:=by
 have h8:i / 8<(l.length+7) / 8:=by rw[q0b] at hi;omega
 have hg:(octB l).getD (i / 8) 0=octV (l.drop (8 * (i / 8))):=by
  unfold octB
  rw[List.getD_eq_getElem?_getD,List.getElem?_map,List.getElem?_range h8]
  rfl
 rw[hg,qfs _ (Nat.mod_lt _ (by omega))]
 congr 1
 rw[List.getD_eq_getElem?_getD,List.getD_eq_getElem?_getD,List.getElem?_drop]
 congr 2
 omega
end
section
def q20 (l:List Bool) (k:Nat):List Nat:=(k+1) :: (vaB (encK k l).length ++ octB (encK k l))
def q0q (plain:Bool) (l:List Bool) (best:List Nat) (k:Nat):List Nat:=if plain=false∧(q20 l k).length<best.length then q20 l k else best
def packB (plain:Bool) (l:List Bool):List Nat:=(List.range 9).foldl (q0q plain l) (0 :: octB l)
theorem qj {l:List Bool} {k:Nat} (hk:k<9):∀ b ∈ q20 l k,b<256:=by
 intro b hb
 rcases List.mem_cons.1 hb with rfl|hb
 ·omega
 ·rcases List.mem_append.1 hb with hb|hb
  ·exact qfr _ b hb
  ·exact q8w _ b hb
theorem q8x (plain:Bool) (l:List Bool):∀ j,j≤9→(List.range j).foldl (q0q plain l) (0 :: octB l)=0 :: octB l∨(plain=false∧∃ k,k<9∧(List.range j).foldl (q0q plain l) (0 :: octB l)=q20 l k):=by
 intro j
 induction j with
 | zero=>intro _;exact .inl rfl
 | succ j ih =>
  intro hj
  rw[List.range_succ,List.foldl_append]
  show q0q plain l ((List.range j).foldl (q0q plain l) (0 :: octB l)) j=_∨_
  have ih:=ih (by omega)
  generalize (List.range j).foldl (q0q plain l) (0 :: octB l)=best at *
  show q0q plain l best j=0 :: octB l∨(plain=false∧∃ k,k<9∧q0q plain l best j=q20 l k)
  unfold q0q
  split
  ·next h=>exact .inr ⟨h.1,j,by omega,rfl⟩
  ·exact ih
theorem qb5 (plain:Bool) (l:List Bool):∀ b ∈ packB plain l,b<256:=by
 intro b hb
 rcases q8x plain l 9 (Nat.le_refl _) with h|⟨_,k,hk,h⟩
 ·unfold packB at hb
  rw[h] at hb
  rcases List.mem_cons.1 hb with rfl|hb
  ·omega
  ·exact q8w _ b hb
 ·unfold packB at hb
  rw[h] at hb
  exact qj hk b hb
theorem qcf (plain:Bool) (l:List Bool):∀ j,((List.range j).foldl (q0q plain l) (0 :: octB l)).length≤(octB l).length+1:=by
 intro j
 induction j with
 | zero=>simp
 | succ j ih =>
  rw[List.range_succ,List.foldl_append]
  show (q0q plain l ((List.range j).foldl (q0q plain l) (0 :: octB l)) j).length≤_
  generalize (List.range j).foldl (q0q plain l) (0 :: octB l)=best at *
  unfold q0q
  split
  ·next h=>omega
  ·exact ih
theorem qj0:∀ n (s:EncS),absT (normE n s)≤absT s+n:=by
 intro n
 induction n with
 | zero=>intro s;exact Nat.le_refl _
 | succ n ih =>
  intro s
  unfold normE
  split
  ·omega
  ·next hk =>
   have h1:=ih (stepE s)
   have h2:=(q63 s hk).2
   omega
theorem qft (k:Nat) (l:List Bool):absT (encS k l).2≤33 * l.length:=by
 refine q82 (P:=fun l=>absT (encS k l).2≤33 * l.length) (by simp[encS,absT]) (fun l b ih=>?_) l
 unfold encS at ih ⊢
 rw[List.foldl_append]
 show absT (q1z (List.foldl q1z _ l) b).2≤_
 generalize List.foldl q1z (CM.new (2 ^ k),(⟨0,4294967295,0,[]⟩:EncS)) l=x at *
 have h1:=qj0 33 (takeE x.1.cur b x.2)
 have h2:absT (takeE x.1.cur b x.2)=absT x.2:=by cases b <;> rfl
 rw[List.length_append,List.length_singleton]
 show absT (normE 33 (takeE x.1.cur b x.2))≤_
 omega
theorem q64 (k:Nat) (l:List Bool):(encK k l).length≤33 * l.length+2:=by
 have h:=qft k l
 unfold encK finE
 unfold absT at h
 split <;> (simp only [List.length_append,List.length_cons,List.length_replicate];omega)
end
section
def q1k (cs:List Nat) (i:Nat):Bool:=cs.getD (i / 8) 0 / 2 ^ (i % 8) % 2 == 1
def ofB (cs:List Nat) (n:Nat):List Bool:=(List.range n).map (q1k cs)
def ofOk (cs:List Nat) (n:Nat):Prop:=n≤8 * cs.length∧8 * cs.length<n+8
def ofPad (cs:List Nat) (n:Nat):Prop:=∀ i,n≤i→i<8 * cs.length→q1k cs i=false
instance (cs:List Nat) (n:Nat):Decidable (ofOk cs n):=by unfold ofOk;infer_instance
noncomputable instance (cs:List Nat) (n:Nat):Decidable (ofPad cs n):=Classical.propDecidable _
noncomputable def ofC (cs:List Nat) (n:Nat):Nat:=if ofOk cs n then (if ofPad cs n then 0 else 3) else 1
theorem qaa (cs:List Nat) (n:Nat):(ofB cs n).length=n:=by simp[ofB]
theorem qll (cs:List Nat) (n:Nat):ofB cs (n+1)=ofB cs n ++ [q1k cs n]:=by simp[ofB,List.range_succ]
theorem q7f (l:List Bool) (i:Nat):q1k (octB l) i=l.getD i false:=by
 unfold q1k
 by_cases h:i<8 * (octB l).length
 ·rw[qlk l h]
  cases l.getD i false <;> rfl
 ·have h1:(octB l).length≤i / 8:=by omega
  have h2:l.length≤i:=by rw[q0b] at h;omega
  rw[List.getD_eq_getElem?_getD,List.getElem?_eq_none h1,List.getD_eq_getElem?_getD,List.getElem?_eq_none h2]
  simp
theorem qfu (l:List Bool):ofB (octB l) l.length=l:=by
 apply List.ext_getElem?
 intro i
 unfold ofB
 rw[List.getElem?_map]
 rcases Nat.lt_or_ge i l.length with h|h
 ·rw[List.getElem?_range h,List.getElem?_eq_getElem h]
  simp only [Option.map_some]
  rw[q7f,List.getD_eq_getElem?_getD,List.getElem?_eq_getElem h]
  rfl
 ·rw[List.getElem?_eq_none h,List.getElem?_eq_none (by simpa using h)]
  rfl
theorem qj1 (l:List Bool):ofOk (octB l) l.length:=by unfold ofOk;rw[q0b];omega
theorem qab (l:List Bool):ofPad (octB l) l.length:=fun i h1 _=>by
 rw[q7f,List.getD_eq_getElem?_getD,List.getElem?_eq_none h1];rfl
theorem qlm (l:List Bool):ofC (octB l) l.length=0:=by unfold ofC;rw[if_pos (qj1 l),if_pos (qab l)]
noncomputable def partV (cs:List Nat) (n:Nat):Option (List Bool) :=
 if 134217728<n∨cs.length<(n+7) / 8 then none else if ofPad (cs.take ((n+7) / 8)) n then some (ofB (cs.take ((n+7) / 8)) n) else none
theorem qcg (l:List Bool) (rest:List Nat) (hl:l.length≤134217728):partV (octB l ++ rest) l.length=some l:=by
 have e:(octB l ++ rest).take ((l.length+7) / 8)=octB l:=by
  rw[← q0b,List.take_left]
 unfold partV
 rw[e,if_neg,if_pos (qab l),qfu]
 rintro (h|h)
 ·omega
 ·rw[List.length_append,q0b] at h;omega
theorem q8y {cs:List Nat} {n:Nat} (h:cs.length<(n+7) / 8):partV cs n=none:=by
 unfold partV;rw[if_pos (.inr h)]
theorem qfv:∀ (x j i acc:Nat),j<(vaB x).length→getN ((vaB x).take j) i acc=none:=by
 intro x
 induction x using Nat.strongRecOn with
 | ind x ih =>
  intro j i acc hj
  by_cases h:x<128
  ·rw[q2x h] at hj ⊢
   have:j=0:=by simp at hj;omega
   subst this
   rfl
  ·rw[q4n h] at hj ⊢
   cases j with
   | zero=>rfl
   | succ j =>
    rw[List.length_cons] at hj
    rw[List.take_succ_cons]
    show (if 64≤7 * i∨18446744073709551616≤(x % 128+128) % 128 * 2 ^ (7 * i)∨(x % 128+128=0∧0<i) then none else if x % 128+128<128 then some (acc+(x % 128+128) % 128 * 2 ^ (7 * i),i+1) else getN ((vaB (x / 128)).take j) (i+1) (acc+(x % 128+128) % 128 * 2 ^ (7 * i)))=none
    split
    ·rfl
    ·rw[if_neg (by omega)]
     exact ih (x / 128) (by omega) j (i+1) _ (by omega)
theorem qed (x:Nat) (rest:List Nat) (hx:x<18446744073709551616):getN (vaB x ++ rest) 0 0=some (x,(vaB x).length):=by
 have:=qlj x rest 0 0 (by simpa using hx) (by omega)
 simpa using this
theorem qch:∀ (cs:List Nat) (i acc x u:Nat),getN cs i acc=some (x,u)→acc<2 ^ (7 * i)→acc<18446744073709551616→x<18446744073709551616∧i≤u∧u≤i+cs.length:=by
 intro cs
 induction cs with
 | nil=>intro i acc x u h;cases h
 | cons b cs ih =>
  intro i acc x u h h1 h2
  have hc:getN (b :: cs) i acc=if 64≤7 * i∨18446744073709551616≤b % 128 * 2 ^ (7 * i)∨(b=0∧0<i) then none
   else if b<128 then some (acc+b % 128 * 2 ^ (7 * i),i+1) else getN cs (i+1) (acc+b % 128 * 2 ^ (7 * i)):=rfl
  rw[hc] at h
  split at h
  ·cases h
  ·next hn =>
   have hA:acc+b % 128 * 2 ^ (7 * i)<18446744073709551616:=by
    have h3:acc+b % 128 * 2 ^ (7 * i)=acc ||| b % 128 * 2 ^ (7 * i):=by
     have:=Nat.two_pow_add_eq_or_of_lt h1 (b % 128)
     rw[Nat.mul_comm] at this
     rw[Nat.add_comm,this,Nat.or_comm]
    rw[h3]
    exact Nat.or_lt_two_pow (n:=64) h2 (by omega)
   have hB:acc+b % 128 * 2 ^ (7 * i)<2 ^ (7 * (i+1)):=by
    have h3:b % 128 * 2 ^ (7 * i)≤127 * 2 ^ (7 * i):=Nat.mul_le_mul_right _ (by omega)
    rw[Nat.mul_add,Nat.pow_add]
    omega
   split at h
   ·cases h
    exact⟨hA,by omega,by simp⟩
   ·have:=ih (i+1) _ x u h hB hA
    rw[List.length_cons]
    omega
theorem qj2 {cs:List Nat} {x u:Nat} (h:getN cs 0 0=some (x,u)):x<18446744073709551616∧u≤cs.length:=by
 have:=qch cs 0 0 x u h (by decide) (by decide)
 omega
noncomputable def readV (c0:Nat) (cs:List Nat) (n:Nat):Option (List Bool) :=
 if c0=0 then partV cs n else
  match getN cs 0 0 with
  | none=>none
  | some (sz,u) =>
   match partV (cs.drop u) sz with
   | none=>none
   | some F=>if encK (c0 - 1) (decK (c0 - 1) n F)=F then some (decK (c0 - 1) n F) else none
noncomputable def q0n (cs:List Nat) (n:Nat) (plain:Bool):Option (List Bool × Nat) :=
 match cs with
 | []=>none
 | c0 :: tl =>
  if 9<c0∨(plain=true∧0<c0) then none else
   match readV c0 tl n with
   | none=>none
   | some v=>if cs.take (packB plain v).length=packB plain v then some (v,(packB plain v).length) else none
theorem q6u (plain:Bool) (l:List Bool):packB plain l=0 :: octB l∨(plain=false∧∃ k,k<9∧packB plain l=q20 l k):=q8x plain l 9 (Nat.le_refl _)
theorem qj3 (plain:Bool) (l:List Bool):0<(packB plain l).length:=by
 rcases q6u plain l with h|⟨_,k,_,h⟩ <;> (rw[h];simp[q20])
theorem qee (plain:Bool) (l:List Bool) (rest:List Nat) (hl:l.length≤1000000):q0n (packB plain l ++ rest) l.length plain=some (l,(packB plain l).length):=by
 have ht:(packB plain l ++ rest).take (packB plain l).length=packB plain l:=List.take_left
 rcases q6u plain l with h|⟨hp,k,hk,h⟩
 ·generalize hP:packB plain l=P at *
  subst h
  unfold q0n
  simp only [List.cons_append]
  rw[if_neg (by omega)]
  have:readV 0 (octB l ++ rest) l.length=some l:=by unfold readV;rw[if_pos rfl,qcg l rest (by omega)]
  rw[this]
  simp only
  rw[hP]
  exact if_pos ht
 ·have hlen:(encK k l).length≤134217728:=by have:=q64 k l;omega
  have hrd:readV (k+1) (vaB (encK k l).length ++ octB (encK k l) ++ rest) l.length=some l:=by
   unfold readV
   rw[if_neg (by omega),List.append_assoc,qed _ _ (by omega)]
   simp only
   rw[List.drop_left,qcg _ _ hlen]
   simp only
   rw[show k+1 - 1=k from rfl,qix,if_pos rfl]
  generalize hP:packB plain l=P at *
  subst h
  unfold q0n q20
  simp only [List.cons_append]
  rw[if_neg (by rw[hp];simp;omega),hrd]
  simp only
  rw[hP]
  exact if_pos ht
theorem qh (plain:Bool) (l:List Bool) (j:Nat) (hl:l.length≤1000000) (hj:j<(packB plain l).length):q0n ((packB plain l).take j) l.length plain=none:=by
 cases j with
 | zero=>rfl
 | succ j =>
  rcases q6u plain l with h|⟨hp,k,hk,h⟩
  ·rw[h,List.take_succ_cons]
   rw[h,List.length_cons] at hj
   unfold q0n
   simp only
   split
   ·rfl
   ·have:readV 0 ((octB l).take j) l.length=none:=by
     unfold readV
     rw[if_pos rfl]
     refine q8y ?_
     rw[List.length_take,← q0b]
     omega
    rw[this]
  ·rw[h]
   rw[h] at hj
   unfold q20 at hj ⊢
   rw[List.length_cons,List.length_append] at hj
   rw[List.take_succ_cons]
   unfold q0n
   simp only
   split
   ·rfl
   ·have:readV (k+1) ((vaB (encK k l).length ++ octB (encK k l)).take j) l.length=none:=by
     unfold readV
     rw[if_neg (by omega)]
     rcases Nat.lt_or_ge j (vaB (encK k l).length).length with h1|h1
     ·rw[List.take_append_of_le_length (by omega),qfv _ _ _ _ h1]
     ·have hlen:(encK k l).length≤134217728:=by have:=q64 k l;omega
      rw[List.take_append,List.take_of_length_le h1,qed _ _ (by omega)]
      simp only
      rw[List.drop_left,q8y]
      rw[List.length_take,← q0b]
      omega
    rw[this]
end
section
open Go.RowKit
def SpanB (W:World) (b:Nat) (t:TypeId) (l h:Nat) (xs:List Value):Prop:=W.heap[b]? = some (.cells ⟨.int .u64 l :: .int .u64 h :: xs⟩ t (0,0))
theorem SpanB.c0 {W:World} {b:Nat} {t:TypeId} {l h:Nat} {xs:List Value} (k:SpanB W b t l h xs):W.cell? ⟨b,0,none⟩=some (.int .u64 l):=by
 have:=World.cell_of_heap k 0;simpa using this
theorem SpanB.c1 {W:World} {b:Nat} {t:TypeId} {l h:Nat} {xs:List Value} (k:SpanB W b t l h xs):W.cell? ⟨b,1,none⟩=some (.int .u64 h):=by
 have:=World.cell_of_heap k 1;simpa using this
theorem SpanB.low {W:World} {b:Nat} {t:TypeId} {l h:Nat} {xs:List Value} (k:SpanB W b t l h xs) (z:Nat):SpanB (W.setCell ⟨b,0,none⟩ (.int .u64 (z:Int))) b t z h xs:=by
 have:=q00 k 0 (.int .u64 (z:Int));simpa [SpanB] using this
theorem SpanB.high {W:World} {b:Nat} {t:TypeId} {l h:Nat} {xs:List Value} (k:SpanB W b t l h xs) (z:Nat):SpanB (W.setCell ⟨b,1,none⟩ (.int .u64 (z:Int))) b t l z xs:=by
 have:=q00 k 1 (.int .u64 (z:Int));simpa [SpanB] using this
theorem SpanB.keeps {W W':World} {b:Nat} {t:TypeId} {l h:Nat} {xs:List Value} {G:Nat→Prop} (k:SpanB W b t l h xs) (hk:Keeps G W W') (hG:¬ G b):SpanB W' b t l h xs:=hk.at k hG
theorem q8z (b:Nat) (l h:Nat) (c:Nat × Nat) (t:TypeId) (xs:List Value) (w:World) (hS:SpanB w b t l h xs) (hn:Nrm l h) (hc:OkC c) :
  Calls Tryz.prog 239 #[.pointer (some ⟨b,0,none⟩),.agg #[.int .u64 c.1,.int .u64 c.2]] w fun e w'=>e=.returned (.int .u64 (midC l h c:Nat))∧Keeps (fun _=>False) w w':=by
 have hm:=q3e hn hc
 have hmd:midC l h c=l+(h - l+1) * c.1 / (c.1+c.2) - 1:=rfl
 obtain⟨c1,c2⟩:=c
 obtain⟨k1,k2,k3⟩:=hc
 have hh:=hn.2.1
 have hlh:=hn.1
 simp only at *
 have ka:=(Keeps.refl (fun _=>False) w).alloc (.cells #[.int .u64 c1,.int .u64 c2] 270)
 have hSA:=hS.keeps ka (fun h=>h)
 have d0:=hSA.c0
 have d1:=hSA.c1
 obtain⟨P,hP⟩:∃ P,P=(h - l+1) * c1:=⟨_,rfl⟩
 have hPb:P<281474976710656:=by
  rw[hP]
  calc (h - l+1) * c1≤4294967296 * c1:=Nat.mul_le_mul_right _ (by omega)
   _<4294967296 * 65536:=Nat.mul_lt_mul_of_pos_left (by omega) (by decide)
   _=281474976710656:=by decide
 obtain⟨Q,hQ⟩:∃ Q,Q=P / (c1+c2):=⟨_,rfl⟩
 rw[← hP,← hQ] at hmd
 rw[← hP,← hQ] at hm
 have eP:((h:Int) - (l:Int)+1) * (c1:Int)=(P:Int):=by rw[hP];push_cast;congr 1;omega
 have eQ:(P:Int) / ((c1:Int)+(c2:Int))=(Q:Int):=by rw[hQ];push_cast;rfl
 have h00:¬ (c1:Int)+(c2:Int)=0:=by omega
 have hQl:Q≤4294967296:=by omega
 have HM:=Lib.hid (And.intro hmd ka)
 clear hS hn hP hQ hmd ka hSA
 generalize midC l h (c1,c2)=M at *
 go_enter Tryz.func239,Tryz.ntmps239
 go_wp2_with fail
 go_quiet (fail)
 have HK:=Lib.hid (HM.out.2.drewN nq)
 go_wp2
 go_ret
 refine⟨?_,HK.out⟩
 show Ending.returned (.int .u64 ((l:Int)+(Q:Int) - 1))=_
 rw[HM.out.1]
 congr 2
 omega
theorem q7g (b:Nat) (l h:Nat) (c:Nat × Nat) (x:Bool) (t:TypeId) (xs:List Value) (w:World) (hS:SpanB w b t l h xs) (hn:Nrm l h) (hc:OkC c) :
  Calls Tryz.prog 199 #[.pointer (some ⟨b,0,none⟩),.agg #[.int .u64 c.1,.int .u64 c.2],.int .i64 (x.toNat:Int)] w fun e w'=>e=.returned (.tuple #[])∧SpanB w' b t (if x then midC l h c+1 else l) (if x then h else midC l h c) xs∧Keeps (fun k=>k=b) w w':=by
 have ka:=(Keeps.refl (fun _=>False) w).alloc (.cells #[.int .u64 c.1,.int .u64 c.2] 270)
 have hSA:=hS.keeps ka (fun h=>h)
 have hM:=q8z b l h c t xs _ hSA hn hc
 have hm:=q3e hn hc
 have hh:=hn.2.1
 have HK:=Lib.hid ka
 have HSA:=Lib.hid hSA
 have hbl:b<w.heap.size:=lt_of_block hS
 clear hS hn ka hSA
 generalize midC l h c=M at *
 obtain⟨c1,c2⟩:=c
 simp only at *
 clear hc
 go_enter Tryz.func199,Tryz.ntmps199
 go_wp2_with fail
 refine hM.mono ?_
 clear hM
 rintro e w1 ⟨rfl,hk1⟩
 have h1:=HSA.out.keeps hk1 (fun h=>h)
 have kk:Keeps (fun k=>k=b) w w1:=(HK.out.trans hk1 (fun _ _ h=>h)).mono (fun _ _ h=>h.elim)
 have c0:=h1.c0
 have c1':=h1.c1
 have f0:=World.free_of_heap h1
 cases x
 ·have HF:Hid (SpanB (w1.setCell ⟨b,1,none⟩ (.int .u64 (M:Int))) b t l M xs∧Keeps (fun k=>k=b) w (w1.setCell ⟨b,1,none⟩ (.int .u64 (M:Int)))):=Lib.hid ⟨h1.high M,kk.setCell (p:=⟨b,1,none⟩) (.inl rfl) _⟩
  clear kk h1 hk1
  go_wp2_with fail
  go_end0
  exact⟨rfl,HF.out⟩
 ·have HF:Hid (SpanB (w1.setCell ⟨b,0,none⟩ (.int .u64 ((M+1:Nat):Int))) b t (M+1) h xs∧Keeps (fun k=>k=b) w (w1.setCell ⟨b,0,none⟩ (.int .u64 ((M+1:Nat):Int)))):=Lib.hid ⟨h1.low (M+1),kk.setCell (p:=⟨b,0,none⟩) (.inl rfl) _⟩
  clear kk h1 hk1
  have e1:((M+1:Nat):Int)=(M:Int)+1:=by omega
  rw[e1] at HF
  go_wp2_with fail
  go_end0
  exact⟨rfl,HF.out⟩
def dblL (l h:Nat):Nat:=if way l h=0 then l else 2 * (l - offW (way l h))
def dblH (l h:Nat):Nat:=if way l h=0 then h else 2 * (h - offW (way l h))+1
theorem dbl_1 {l h:Nat} (e:way l h=1):dblL l h=2 * (l - 0)∧dblH l h=2 * (h - 0)+1:=by
 unfold dblL dblH
 rw[e,show offW 1=0 from rfl,if_neg (by decide),if_neg (by decide)]
 exact⟨rfl,rfl⟩
theorem dbl_2 {l h:Nat} (e:way l h=2):dblL l h=2 * (l - 2147483648)∧dblH l h=2 * (h - 2147483648)+1:=by
 unfold dblL dblH
 rw[e,show offW 2=2147483648 from rfl,if_neg (by decide),if_neg (by decide)]
 exact⟨rfl,rfl⟩
theorem dbl_3 {l h:Nat} (e:way l h=3):dblL l h=2 * (l - 1073741824)∧dblH l h=2 * (h - 1073741824)+1:=by
 unfold dblL dblH
 rw[e,show offW 3=1073741824 from rfl,if_neg (by decide),if_neg (by decide)]
 exact⟨rfl,rfl⟩
theorem q4y (b:Nat) (l h:Nat) (t:TypeId) (xs:List Value) (w:World) (hS:SpanB w b t l h xs) (hlh:l≤h) (hh:h<4294967296) :
  Calls Tryz.prog 201 #[.pointer (some ⟨b,0,none⟩)] w fun e w'=>e=.returned (.int .i64 (way l h:Nat))∧SpanB w' b t (dblL l h) (dblH l h) xs∧Keeps (fun k=>k=b) w w':=by
 have c0:=hS.c0
 have c1:=hS.c1
 have f0:=World.free_of_heap hS
 have hb:b<w.heap.size:=lt_of_block hS
 have hset:∀ (x y:Nat),SpanB ((w.setCell ⟨b,0,none⟩ (.int .u64 (x:Int))).setCell ⟨b,1,none⟩ (.int .u64 (y:Int))) b t x y xs∧Keeps (fun k=>k=b) w ((w.setCell ⟨b,0,none⟩ (.int .u64 (x:Int))).setCell ⟨b,1,none⟩ (.int .u64 (y:Int))):=fun x y =>
  ⟨(hS.low x).high y,((Keeps.refl (fun k=>k=b) w).setCell (p:=⟨b,0,none⟩) (.inl rfl) _).setCell (p:=⟨b,1,none⟩) (.inl rfl) _⟩
 have g1:∀ x:Nat,(w.setCell ⟨b,0,none⟩ (.int .u64 (x:Int))).cell? ⟨b,1,none⟩=some (.int .u64 h):=fun x=>(hS.low x).c1
 have gf:∀ (x:Nat) (i:Nat),(w.setCell ⟨b,0,none⟩ (.int .u64 (x:Int))).frozen? ⟨b,i,none⟩=false:=fun x i=>World.free_of_heap (hS.low x) i
 have HS:=Lib.hid hS
 clear hS
 rcases q1y l h with⟨e,a1⟩|⟨e,a1,a2⟩|⟨e,a1,a2,a3,a4⟩|⟨e,a1,a2,a3⟩
 ·obtain⟨hL,hH⟩:=dbl_1 e
  have HF:=Lib.hid (And.intro e (hset (2 * (l - 0)) (2 * (h - 0)+1)))
  rw[← hL,← hH] at HF
  have HLH:=Lib.hid (And.intro hL hH)
  have t1:decide ((h:Int)<2147483648)=true:=decide_eq_true (by omega)
  have g1:=g1 (dblL l h)
  have gf:=gf (dblL l h)
  have eL:2 * (l:Int)=((dblL l h:Nat):Int):=by rw[hL];omega
  have eH:2 * (h:Int)+1=((dblH l h:Nat):Int):=by rw[hH];omega
  clear hset hL hH
  generalize dblL l h=L at *
  generalize dblH l h=H at *
  go_enter Tryz.func201,Tryz.ntmps201
  go_wp2_with fail
  go_region
  all_goals
   go_wp2
   go_ret
   exact⟨by rw[HF.out.1];rfl,HF.out.2.1.keeps ((Keeps.refl (fun _=>False) _).drew) (fun h=>h),HF.out.2.2.trans ((Keeps.refl (fun _=>False) _).drew) (fun _ _ h=>h.elim)⟩
 ·obtain⟨hL,hH⟩:=dbl_2 e
  have HF:=Lib.hid (And.intro e (hset (2 * (l - 2147483648)) (2 * (h - 2147483648)+1)))
  rw[← hL,← hH] at HF
  have HLH:=Lib.hid (And.intro hL hH)
  have t1:decide ((h:Int)<2147483648)=false:=decide_eq_false (by omega)
  have t2:decide ((2147483648:Int)≤(l:Int))=true:=decide_eq_true (by omega)
  have g1:=g1 (dblL l h)
  have gf:=gf (dblL l h)
  have eL:2 * ((l:Int) - 2147483648)=((dblL l h:Nat):Int):=by rw[hL];omega
  have eH:2 * ((h:Int) - 2147483648)+1=((dblH l h:Nat):Int):=by rw[hH];omega
  clear hset hL hH
  generalize dblL l h=L at *
  generalize dblH l h=H at *
  go_enter Tryz.func201,Tryz.ntmps201
  go_wp2_with fail
  go_region
  all_goals
   go_wp2
   go_ret
   exact⟨by rw[HF.out.1];rfl,HF.out.2.1.keeps ((Keeps.refl (fun _=>False) _).drew) (fun h=>h),HF.out.2.2.trans ((Keeps.refl (fun _=>False) _).drew) (fun _ _ h=>h.elim)⟩
 ·obtain⟨hL,hH⟩:=dbl_3 e
  have HF:=Lib.hid (And.intro e (hset (2 * (l - 1073741824)) (2 * (h - 1073741824)+1)))
  rw[← hL,← hH] at HF
  have HLH:=Lib.hid (And.intro hL hH)
  have t1:decide ((h:Int)<2147483648)=false:=decide_eq_false (by omega)
  have t2:decide ((2147483648:Int)≤(l:Int))=false:=decide_eq_false (by omega)
  have t3:decide ((1073741824:Int)≤(l:Int))=true:=decide_eq_true (by omega)
  have t4:decide ((h:Int)<3221225472)=true:=decide_eq_true (by omega)
  have g1:=g1 (dblL l h)
  have gf:=gf (dblL l h)
  have eL:2 * ((l:Int) - 1073741824)=((dblL l h:Nat):Int):=by rw[hL];omega
  have eH:2 * ((h:Int) - 1073741824)+1=((dblH l h:Nat):Int):=by rw[hH];omega
  clear hset hL hH
  generalize dblL l h=L at *
  generalize dblH l h=H at *
  go_enter Tryz.func201,Tryz.ntmps201
  go_wp2_with fail
  go_region
  all_goals
   go_wp2
   go_ret
   exact⟨by rw[HF.out.1];rfl,HF.out.2.1.keeps ((Keeps.refl (fun _=>False) _).drew) (fun h=>h),HF.out.2.2.trans ((Keeps.refl (fun _=>False) _).drew) (fun _ _ h=>h.elim)⟩
 ·have HF:Hid (way l h=0∧SpanB w b t (dblL l h) (dblH l h) xs):=Lib.hid ⟨e,by unfold dblL dblH;rw[if_pos e,if_pos e];exact HS.out⟩
  have t1:decide ((h:Int)<2147483648)=false:=decide_eq_false (by omega)
  have t2:decide ((2147483648:Int)≤(l:Int))=false:=decide_eq_false (by omega)
  have hfin:∀ W,Keeps (fun _=>False) w W→SpanB W b t (dblL l h) (dblH l h) xs∧Keeps (fun k=>k=b) w W:=fun W hk=>⟨HF.out.2.keeps hk (fun h=>h),hk.mono (fun _ _ h=>h.elim)⟩
  have HFin:=Lib.hid hfin
  clear hset hfin g1 gf
  by_cases hq:l<1073741824
  ·have t3:decide ((1073741824:Int)≤(l:Int))=false:=decide_eq_false (by omega)
   go_enter Tryz.func201,Tryz.ntmps201
   go_wp2_with fail
   go_ret
   exact⟨by rw[HF.out.1];rfl,HFin.out _ (Keeps.refl _ _)⟩
  ·have t3:decide ((1073741824:Int)≤(l:Int))=true:=decide_eq_true (by omega)
   have t4:decide ((h:Int)<3221225472)=false:=decide_eq_false (by omega)
   go_enter Tryz.func201,Tryz.ntmps201
   go_wp2_with fail
   go_ret
   exact⟨by rw[HF.out.1];rfl,HFin.out _ (Keeps.refl _ _)⟩
end
section
def q3f (plain:Bool) (ls:List (List Bool)):List Nat:=ls.flatMap fun l=>vaB (l.length / 4) ++ packB plain l
def bodyB (plain:Bool) (lone:Nat) (ls:List (List Bool)):List Nat:=vaB lone ++ (vaB ls.length ++ q3f plain ls)
def numV (cs:List Nat) (most:Nat):Option (Nat × List Nat) :=
 match getN cs 0 0 with
 | none=>none
 | some (x,u)=>if x≤most then some (x,cs.drop u) else none
open Classical in
noncomputable def rpart (plain:Bool) (ok:List Bool→Prop) (cs:List Nat):Option (List Bool × List Nat) :=
 match numV cs 65536 with
 | none=>none
 | some (n,cs1) =>
  match q0n cs1 (4 * n) plain with
  | none=>none
  | some (v,u)=>if ok v then some (v,cs1.drop u) else none
noncomputable def q1l (plain:Bool) (ok:List Bool→Prop):Nat→List Nat→Option (List (List Bool) × List Nat)
 | 0,cs=>some ([],cs)
 | k+1,cs =>
  match rpart plain ok cs with
  | none=>none
  | some (v,cs1) =>
   match q1l plain ok k cs1 with
   | none=>none
   | some (vs,cs2)=>some (v :: vs,cs2)
noncomputable def rbody (plain:Bool) (ok:List Bool→Prop) (cs:List Nat):Option (Nat × List (List Bool) × List Nat) :=
 match numV cs 65536 with
 | none=>none
 | some (lone,cs1) =>
  match numV cs1 65536 with
  | none=>none
  | some (k,cs2) =>
   match q1l plain ok k cs2 with
   | none=>none
   | some (vs,cs3)=>some (lone,vs,cs3)
theorem q6v (x:Nat) (rest:List Nat) (most:Nat) (h:x≤most) (hm:most<18446744073709551616):numV (vaB x ++ rest) most=some (x,rest):=by
 unfold numV
 rw[qed x rest (by omega)]
 simp only
 rw[if_pos h,List.drop_left]
theorem qb6 (x j most:Nat) (h:j<(vaB x).length):numV ((vaB x).take j) most=none:=by
 unfold numV
 rw[qfv x j 0 0 h]
def q7h (ok:List Bool→Prop) (l:List Bool):Prop:=l.length % 4=0∧l.length≤262144∧ok l
theorem qac {plain:Bool} {ok:List Bool→Prop} {l:List Bool} (h:q7h ok l) (rest:List Nat):rpart plain ok (vaB (l.length / 4) ++ packB plain l ++ rest)=some (l,rest):=by
 obtain⟨h1,h2,h3⟩:=h
 unfold rpart
 rw[List.append_assoc,q6v _ _ _ (by omega) (by decide)]
 simp only
 rw[show 4 * (l.length / 4)=l.length by omega,qee plain l rest (by omega)]
 simp only
 rw[if_pos h3,List.drop_left]
theorem qj4 {plain:Bool} {ok:List Bool→Prop} {l:List Bool} (h:q7h ok l) {j:Nat} (hj:j<(vaB (l.length / 4) ++ packB plain l).length):rpart plain ok ((vaB (l.length / 4) ++ packB plain l).take j)=none:=by
 obtain⟨h1,h2,h3⟩:=h
 unfold rpart
 rw[List.length_append] at hj
 rcases Nat.lt_or_ge j (vaB (l.length / 4)).length with h4|h4
 ·rw[List.take_append_of_le_length (by omega),qb6 _ _ _ h4]
 ·rw[List.take_append,List.take_of_length_le h4,q6v _ _ _ (by omega) (by decide)]
  simp only
  rw[show 4 * (l.length / 4)=l.length by omega,qh plain l _ (by omega) (by omega)]
theorem qci {plain:Bool} {ok:List Bool→Prop}:∀ (ls:List (List Bool)) (rest:List Nat),(∀ l ∈ ls,q7h ok l)→q1l plain ok ls.length (q3f plain ls ++ rest)=some (ls,rest):=by
 intro ls
 induction ls with
 | nil=>intro rest _;rfl
 | cons l ls ih =>
  intro rest h
  have e:q3f plain (l :: ls) ++ rest=vaB (l.length / 4) ++ packB plain l ++ (q3f plain ls ++ rest):=by simp[q3f]
  rw[e]
  show (match rpart plain ok _ with|none=>none|some (v,cs1)=>match q1l plain ok ls.length cs1 with|none=>none|some (vs,cs2)=>some (v :: vs,cs2))=_
  rw[qac (h l (by simp))]
  simp only
  rw[ih rest (fun x hx=>h x (by simp[hx]))]
theorem qh0 {plain:Bool} {ok:List Bool→Prop}:∀ (ls:List (List Bool)) (j:Nat),(∀ l ∈ ls,q7h ok l)→j<(q3f plain ls).length→q1l plain ok ls.length ((q3f plain ls).take j)=none:=by
 intro ls
 induction ls with
 | nil=>intro j _ h;simp[q3f] at h
 | cons l ls ih =>
  intro j h hj
  have e:q3f plain (l :: ls)=vaB (l.length / 4) ++ packB plain l ++ q3f plain ls:=by simp[q3f]
  rw[e] at hj ⊢
  show (match rpart plain ok _ with|none=>none|some (v,cs1)=>match q1l plain ok ls.length cs1 with|none=>none|some (vs,cs2)=>some (v :: vs,cs2))=none
  generalize hA:vaB (l.length / 4) ++ packB plain l=A at *
  rw[List.length_append] at hj
  rcases Nat.lt_or_ge j A.length with h4|h4
  ·rw[List.take_append_of_le_length (by omega),← hA,qj4 (h l (by simp)) (by rw[hA];exact h4)]
  ·rw[List.take_append,List.take_of_length_le h4,← hA,qac (h l (by simp))]
   simp only
   rw[ih _ (fun x hx=>h x (by simp[hx])) (by rw[hA];omega)]
theorem q6w {plain:Bool} {ok:List Bool→Prop} {lone:Nat} {ls:List (List Bool)} (h:∀ l ∈ ls,q7h ok l) (h1:lone≤65536) (h2:ls.length≤65536) (rest:List Nat):rbody plain ok (bodyB plain lone ls ++ rest)=some (lone,ls,rest):=by
 unfold rbody bodyB
 rw[List.append_assoc,q6v _ _ _ h1 (by decide)]
 simp only
 rw[List.append_assoc,q6v _ _ _ h2 (by decide)]
 simp only
 rw[qci ls rest h]
theorem qj5 {plain:Bool} {ok:List Bool→Prop} {lone:Nat} {ls:List (List Bool)} (h:∀ l ∈ ls,q7h ok l) (h1:lone≤65536) (h2:ls.length≤65536) {j:Nat} (hj:j<(bodyB plain lone ls).length):rbody plain ok ((bodyB plain lone ls).take j)=none:=by
 unfold rbody bodyB
 unfold bodyB at hj
 rw[List.length_append,List.length_append] at hj
 rcases Nat.lt_or_ge j (vaB lone).length with h4|h4
 ·rw[List.take_append_of_le_length (by omega),qb6 _ _ _ h4]
 ·rw[List.take_append,List.take_of_length_le h4,q6v _ _ _ h1 (by decide)]
  simp only
  rcases Nat.lt_or_ge (j - (vaB lone).length) (vaB ls.length).length with h5|h5
  ·rw[List.take_append_of_le_length (by omega),qb6 _ _ _ h5]
  ·rw[List.take_append,List.take_of_length_le h5,q6v _ _ _ h2 (by decide)]
   simp only
   rw[qh0 ls _ h (by omega)]
end
end Go.Proofs.YtcfdpogegngplaaGreat
