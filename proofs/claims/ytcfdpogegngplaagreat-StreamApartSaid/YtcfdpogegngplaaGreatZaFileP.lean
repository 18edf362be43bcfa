import Derived.Test.YtcfdpogegngplaaGreatZaBase
set_option maxRecDepth 100000
set_option maxHeartbeats 4000000
namespace Go.Proofs.YtcfdpogegngplaaGreat
section
def q74 (r:Nat):Nat:=if r % 2=0 then r / 2 else (r / 2) ^^^ 3988292384
def crcIt:Nat→Nat→Nat
 | 0,r=>r
 | n+1,r=>q74 (crcIt n r)
def q55 (r b:Nat):Nat:=crcIt 8 (r ^^^ b)
def crcR (bs:List Nat):Nat:=bs.foldl q55 4294967295
def crcV (bs:List Nat):Nat:=crcR bs ^^^ 4294967295
theorem qim {r:Nat} (h:r<4294967296):q74 r<4294967296:=by
 unfold q74
 split
 ·omega
 ·exact Nat.xor_lt_two_pow (n:=32) (by omega) (by decide)
theorem qfm {r:Nat} (h:r<4294967296):∀ n,crcIt n r<4294967296:=by
 intro n
 induction n with
 | zero=>exact h
 | succ n ih=>exact qim ih
theorem qgw {r b:Nat} (h:r<4294967296) (hb:b<256):q55 r b<4294967296 :=
 qfm (Nat.xor_lt_two_pow (n:=32) h (by omega)) 8
theorem q9w:∀ (bs:List Nat) (r:Nat),(∀ b ∈ bs,b<256)→r<4294967296→bs.foldl q55 r<4294967296:=by
 intro bs
 induction bs with
 | nil=>intro r _ h;exact h
 | cons b bs ih=>intro r hb h;exact ih _ (fun x hx=>hb x (by simp[hx])) (qgw h (hb b (by simp)))
theorem qe7 {bs:List Nat} (h:∀ b ∈ bs,b<256):crcV bs<4294967296 :=
 Nat.xor_lt_two_pow (n:=32) (q9w bs _ h (by decide)) (by decide)
def four (x:Nat):List Nat:=[x % 256,x / 256 % 256,x / 65536 % 256,x / 16777216 % 256]
theorem qn3 (x:Nat):∀ b ∈ four x,b<256:=by
 intro b hb
 simp only [four,List.mem_cons,List.not_mem_nil,or_false] at hb
 omega
end
section
def bigV (l:List Bool):Nat:=l.foldl (fun a b=>2 * a+b.toNat) 0
theorem ltGet {α:Type} {l:List α} {i:Nat} {x:α} (h:l[i]? = some x):i<l.length:=by
 rcases Nat.lt_or_ge i l.length with h' | h'
 ·exact h'
 ·rw[List.getElem?_eq_none h'] at h;cases h
theorem q42 (l:List Bool) (b:Bool):bigV (l ++ [b])=2 * bigV l+b.toNat:=by simp[bigV]
theorem q7r {α:Type} {P:List α→Prop} (h0:P []) (h1:∀ l x,P l→P (l ++ [x])) (l:List α):P l:=by
 have:∀ n,∀ l:List α,l.length=n→P l:=by
  intro n
  induction n with
  | zero=>intro l hl;rw[List.eq_nil_of_length_eq_zero hl];exact h0
  | succ n ih =>
   intro l hl
   have hne:l≠[]:=by intro e;rw[e] at hl;simp at hl
   rw[← List.dropLast_concat_getLast hne]
   exact h1 _ _ (ih _ (by simp[hl]))
 exact this _ l rfl
theorem qay (l m:List Bool):bigV (l ++ m)=bigV l * 2 ^ m.length+bigV m:=by
 refine q7r (P:=fun m=>bigV (l ++ m)=bigV l * 2 ^ m.length+bigV m) (by simp[bigV]) (fun m b ih=>?_) m
 rw[← List.append_assoc,q42,ih,q42,List.length_append,List.length_singleton,Nat.pow_succ,Nat.mul_add,← Nat.mul_assoc (bigV l),Nat.mul_comm (bigV l * 2 ^ m.length) 2]
 omega
theorem q9x (n:Nat):bigV (List.replicate n false)=0:=by
 induction n with
 | zero=>rfl
 | succ n ih=>rw[List.replicate_succ',q42,ih];rfl
theorem qc4 (n:Nat):bigV (List.replicate n true)+1=2 ^ n:=by
 induction n with
 | zero=>rfl
 | succ n ih =>
  rw[List.replicate_succ',q42,Nat.pow_succ,← ih]
  have:true.toNat=1:=rfl
  omega
theorem q5w (b:Bool) (l:List Bool):bigV (b :: l)=b.toNat * 2 ^ l.length+bigV l:=by
 have h:=qay [b] l
 rw[List.singleton_append] at h
 rw[h]
 congr 2
 simp[bigV]
def preV (F:List Bool):Nat→Nat
 | 0=>0
 | n+1=>2 * preV F n+(F.getD n false).toNat
theorem q1v (F:List Bool) (n:Nat):preV F (n+1)=2 * preV F n+(F.getD n false).toNat:=rfl
theorem qc5 (o x:List Bool):∀ n,n≤o.length→preV (o ++ x) n=preV o n:=by
 intro n
 induction n with
 | zero=>intro _;rfl
 | succ n ih =>
  intro hn
  rw[q1v,q1v,ih (by omega)]
  congr 2
  rw[List.getD_eq_getElem?_getD,List.getD_eq_getElem?_getD,List.getElem?_append_left (by omega)]
theorem qin (o:List Bool):preV o o.length=bigV o:=by
 refine q7r (P:=fun o=>preV o o.length=bigV o) rfl (fun o b ih=>?_) o
 rw[List.length_append,List.length_singleton,q1v,qc5 o [b] o.length (Nat.le_refl _),ih,q42]
 simp
theorem qaz (o x:List Bool) (j:Nat):preV (o ++ x) (o.length+j)=bigV o * 2 ^ j+preV x j:=by
 induction j with
 | zero=>rw[Nat.add_zero,qc5 o x _ (Nat.le_refl _),qin];simp[preV]
 | succ j ih =>
  rw[← Nat.add_assoc,q1v,q1v,ih,Nat.pow_succ]
  have:(o ++ x).getD (o.length+j) false=x.getD j false:=by
   rw[List.getD_eq_getElem?_getD,List.getD_eq_getElem?_getD,List.getElem?_append_right (by omega)]
   congr 2
   omega
  rw[this,← Nat.mul_assoc (bigV o)]
  omega
theorem qlb (j:Nat):preV [] j=0:=by
 induction j with
 | zero=>rfl
 | succ j ih=>rw[q1v,ih];simp
theorem qc6 (x:List Bool) (j:Nat):preV x (x.length+j)=bigV x * 2 ^ j:=by
 have:=qaz x [] j
 rw[List.append_nil,qlb] at this
 simpa using this
theorem qio (F:List Bool):∀ n,preV F n<2 ^ n:=by
 intro n
 induction n with
 | zero=>simp[preV]
 | succ n ih =>
  rw[q1v,Nat.pow_succ]
  have:(F.getD n false).toNat≤1:=by cases F.getD n false <;> simp
  omega
structure EncS where
 l:Nat
 h:Nat
 w:Nat
 o:List Bool
def way (l h:Nat):Nat:=if h<2147483648 then 1 else if 2147483648≤l then 2 else if 1073741824≤l∧h<3221225472 then 3 else 0
def offW (k:Nat):Nat:=if k=2 then 2147483648 else if k=3 then 1073741824 else 0
theorem q1w (l h:Nat):(way l h=1∧h<2147483648)∨(way l h=2∧2147483648≤h∧2147483648≤l)∨(way l h=3∧2147483648≤h∧l<2147483648∧1073741824≤l∧h<3221225472)∨(way l h=0∧2147483648≤h∧l<2147483648∧(l<1073741824∨3221225472≤h)):=by
 unfold way
 by_cases h1:h<2147483648
 ·rw[if_pos h1];exact .inl ⟨rfl,h1⟩
 ·rw[if_neg h1]
  by_cases h2:2147483648≤l
  ·rw[if_pos h2];exact .inr (.inl ⟨rfl,by omega,h2⟩)
  ·rw[if_neg h2]
   by_cases h3:1073741824≤l∧h<3221225472
   ·rw[if_pos h3];exact .inr (.inr (.inl ⟨rfl,by omega,by omega,h3.1,h3.2⟩))
   ·rw[if_neg h3];exact .inr (.inr (.inr ⟨rfl,by omega,by omega,by omega⟩))
def stepE (s:EncS):EncS :=
 ⟨2 * (s.l - offW (way s.l s.h)),2 * (s.h - offW (way s.l s.h))+1,if way s.l s.h=3 then s.w+1 else 0,
  if way s.l s.h=1 then s.o ++ false :: List.replicate s.w true else if way s.l s.h=2 then s.o ++ true :: List.replicate s.w false else s.o⟩
def absA (s:EncS):Nat:=bigV s.o * 2 ^ (32+s.w)+(2 ^ s.w - 1) * 2147483648
def absT (s:EncS):Nat:=s.o.length+s.w
theorem qc7 {l h:Nat} (_hlh:l≤h):offW (way l h)≤l:=by
 rcases q1w l h with⟨e,_⟩|⟨e,_,h2⟩|⟨e,_,_,h2,_⟩|⟨e,_⟩ <;> rw[e] <;> unfold offW <;> simp <;> omega
theorem alg1 (P Y X H:Nat) (h:X+1=Y):(P * (Y * 2)+X) * (2 * H)+0=2 * (P * (2 * H * Y)+(Y - 1) * H+0):=by
 subst h
 have e1:P * ((X+1) * 2) * (2 * H)=2 * (P * (2 * H * (X+1))):=by ac_rfl
 have e2:X * (2 * H)=2 * (X * H):=by ac_rfl
 rw[Nat.add_sub_cancel,Nat.add_mul,e1,e2]
 omega
theorem alg2 (P Y H:Nat) (h:0<Y):(P * (Y * 2)+Y) * (2 * H)+0=2 * (P * (2 * H * Y)+(Y - 1) * H+H):=by
 obtain⟨Z,rfl⟩:∃ Z,Y=Z+1:=⟨Y - 1,by omega⟩
 have e1:P * ((Z+1) * 2) * (2 * H)=2 * (P * (2 * H * (Z+1))):=by ac_rfl
 have e2:(Z+1) * (2 * H)=2 * (Z * H+H):=by rw[show Z * H+H=(Z+1) * H by rw[Nat.add_mul,Nat.one_mul]];ac_rfl
 rw[Nat.add_sub_cancel,Nat.add_mul,e1,e2]
 omega
theorem alg3 (P Y H Q:Nat) (h:0<Y) (hq:2 * Q=H):P * (2 * H * (Y * 2))+(Y * 2 - 1) * H=2 * (P * (2 * H * Y)+(Y - 1) * H+Q):=by
 obtain⟨Z,rfl⟩:∃ Z,Y=Z+1:=⟨Y - 1,by omega⟩
 rw[Nat.add_sub_cancel,show (Z+1) * 2 - 1=Z * 2+1 by omega,Nat.add_mul (Z * 2),Nat.one_mul,Nat.mul_add,Nat.mul_add,hq,Nat.add_assoc]
 congr 1
 ·ac_rfl
 ·congr 1
  ac_rfl
theorem q8j (H w:Nat) (hH:H=2147483648):2 ^ (32+w)=2 * H * 2 ^ w:=by
 rw[Nat.pow_add,hH]
theorem q5x (s:EncS) (hk:way s.l s.h≠0):absA (stepE s)=2 * (absA s+offW (way s.l s.h))∧absT (stepE s)=absT s+1:=by
 obtain⟨H,hH⟩:∃ H,H=2147483648:=⟨_,rfl⟩
 obtain⟨Q,hQ⟩:∃ Q,Q=1073741824:=⟨_,rfl⟩
 have hq:2 * Q=H:=by omega
 have h0:0<2 ^ s.w:=Nat.two_pow_pos _
 have hp:=q8j H s.w hH
 have hp0:2 ^ (32+0)=2 * H:=by rw[q8j H 0 hH,Nat.pow_zero,Nat.mul_one]
 have hp1:2 ^ (32+(s.w+1))=2 * H * (2 ^ s.w * 2):=by rw[q8j H _ hH,Nat.pow_succ]
 have o2:offW 2=H:=by rw[hH];rfl
 have o3:offW 3=Q:=by rw[hQ];rfl
 have o1:offW 1=0:=rfl
 have hA:absA s=bigV s.o * (2 * H * 2 ^ s.w)+(2 ^ s.w - 1) * H:=by unfold absA;rw[hp,hH]
 have hT:absT s=s.o.length+s.w:=rfl
 rw[hA,hT]
 rcases q1w s.l s.h with⟨e,_⟩|⟨e,_⟩|⟨e,_⟩|⟨e,_⟩
 ·have e1:(stepE s).o=s.o ++ false :: List.replicate s.w true:=by unfold stepE;rw[e];rfl
  have e2:(stepE s).w=0:=by unfold stepE;rw[e];rfl
  have hA':absA (stepE s)=bigV (s.o ++ false :: List.replicate s.w true) * 2 ^ (32+0)+0:=by unfold absA;rw[e1,e2,Nat.pow_zero,Nat.sub_self,Nat.zero_mul]
  have h1:=qc4 s.w
  refine⟨?_,?_⟩
  ·rw[hA',e,o1,qay,q5w,hp0,List.length_cons,List.length_replicate,Bool.toNat_false,Nat.zero_mul,Nat.zero_add,Nat.pow_succ]
   exact alg1 _ _ _ _ h1
  ·unfold absT
   rw[e1,e2,List.length_append,List.length_cons,List.length_replicate]
   omega
 ·have e1:(stepE s).o=s.o ++ true :: List.replicate s.w false:=by unfold stepE;rw[e];rfl
  have e2:(stepE s).w=0:=by unfold stepE;rw[e];rfl
  have hA':absA (stepE s)=bigV (s.o ++ true :: List.replicate s.w false) * 2 ^ (32+0)+0:=by unfold absA;rw[e1,e2,Nat.pow_zero,Nat.sub_self,Nat.zero_mul]
  refine⟨?_,?_⟩
  ·rw[hA',e,o2,qay,q5w,q9x,hp0,List.length_cons,List.length_replicate,Bool.toNat_true,Nat.one_mul,Nat.add_zero,Nat.pow_succ]
   exact alg2 _ _ _ h0
  ·unfold absT
   rw[e1,e2,List.length_append,List.length_cons,List.length_replicate]
   omega
 ·have e1:(stepE s).o=s.o:=by unfold stepE;rw[e];rfl
  have e2:(stepE s).w=s.w+1:=by unfold stepE;rw[e];rfl
  have hA':absA (stepE s)=bigV s.o * (2 * H * (2 ^ s.w * 2))+(2 ^ s.w * 2 - 1) * H:=by unfold absA;rw[e1,e2,hp1,Nat.pow_succ,hH]
  refine⟨?_,?_⟩
  ·rw[hA',e,o3]
   exact alg3 _ _ _ _ h0 hq
  ·unfold absT
   rw[e1,e2]
   omega
 ·exact absurd e hk
def InSp (F:List Bool) (s:EncS):Prop:=absA s+s.l≤preV F (32+absT s)∧preV F (32+absT s)≤absA s+s.h
theorem InSp.back {F:List Bool} {s:EncS} (hlh:s.l≤s.h) (hk:way s.l s.h≠0) (h:InSp F (stepE s)):InSp F s:=by
 obtain⟨h1,h2⟩:=h
 obtain⟨e1,e2⟩:=q5x s hk
 rw[e1,e2,← Nat.add_assoc,q1v] at h1 h2
 have ho:=qc7 hlh
 have hb:(F.getD (32+absT s) false).toNat≤1:=by cases F.getD (32+absT s) false <;> simp
 have hl:(stepE s).l=2 * (s.l - offW (way s.l s.h)):=rfl
 have hh:(stepE s).h=2 * (s.h - offW (way s.l s.h))+1:=rfl
 rw[hl] at h1
 rw[hh] at h2
 unfold InSp
 omega
def midC (l h:Nat) (c:Nat × Nat):Nat:=l+(h - l+1) * c.1 / (c.1+c.2) - 1
def OkC (c:Nat × Nat):Prop:=1≤c.1∧1≤c.2∧c.1+c.2<65536
def Nrm (l h:Nat):Prop:=l≤h∧h<4294967296∧way l h=0
def takeE (c:Nat × Nat) (b:Bool) (s:EncS):EncS:=if b then { s with l:=midC s.l s.h c+1 } else { s with h:=midC s.l s.h c }
theorem Nrm.wide {l h:Nat} (hn:Nrm l h):1073741824<h - l+1:=by
 obtain⟨h1,h2,h3⟩:=hn
 rcases q1w l h with⟨e,_⟩|⟨e,_⟩|⟨e,_⟩|⟨_,a,b,c⟩ <;> omega
theorem q3a {l h:Nat} {c:Nat × Nat} (hn:Nrm l h) (hc:OkC c):l≤midC l h c∧midC l h c+1≤h∧1≤(h - l+1) * c.1 / (c.1+c.2):=by
 have hw:=hn.wide
 obtain⟨c1,c2,c3⟩:=hc
 have h1:1≤(h - l+1) * c.1 / (c.1+c.2):=by
  rw[Nat.le_div_iff_mul_le (by omega),Nat.one_mul]
  calc c.1+c.2≤h - l+1:=by omega
   _=(h - l+1) * 1:=by omega
   _≤(h - l+1) * c.1:=Nat.mul_le_mul_left _ c1
 have h2:(h - l+1) * c.1 / (c.1+c.2)<h - l+1:=by
  rw[Nat.div_lt_iff_lt_mul (by omega)]
  exact Nat.mul_lt_mul_of_pos_left (by omega) (by omega)
 unfold midC
 have:=hn.1
 refine⟨by omega,by omega,h1⟩
theorem q7s {c:Nat × Nat} {b:Bool} {s:EncS} (hn:Nrm s.l s.h) (hc:OkC c):(takeE c b s).l≤(takeE c b s).h∧(takeE c b s).h<4294967296:=by
 have hm:=q3a hn hc
 have:=hn.2.1
 unfold takeE
 cases b
 ·exact⟨hm.1,by simp only [Bool.false_eq_true,if_false];omega⟩
 ·exact⟨hm.2.1,by simp only [if_true];omega⟩
theorem InSp.backT {F:List Bool} {c:Nat × Nat} {b:Bool} {s:EncS} (hn:Nrm s.l s.h) (hc:OkC c) (h:InSp F (takeE c b s)):InSp F s∧b=decide (midC s.l s.h c<preV F (32+absT s) - absA s):=by
 obtain⟨h1,h2⟩:=h
 have hm:=q3a hn hc
 cases b
 ·have e1:absA (takeE c false s)=absA s:=rfl
  have e2:absT (takeE c false s)=absT s:=rfl
  have e3:(takeE c false s).l=s.l:=rfl
  have e4:(takeE c false s).h=midC s.l s.h c:=rfl
  rw[e1,e2] at h1 h2
  rw[e3] at h1
  rw[e4] at h2
  exact⟨⟨h1,by omega⟩,(decide_eq_false (by omega)).symm⟩
 ·have e1:absA (takeE c true s)=absA s:=rfl
  have e2:absT (takeE c true s)=absT s:=rfl
  have e3:(takeE c true s).l=midC s.l s.h c+1:=rfl
  have e4:(takeE c true s).h=s.h:=rfl
  rw[e1,e2] at h1 h2
  rw[e3] at h1
  rw[e4] at h2
  exact⟨⟨by omega,h2⟩,(decide_eq_true (by omega)).symm⟩
def normE:Nat→EncS→EncS
 | 0,s=>s
 | n+1,s=>if way s.l s.h=0 then s else normE n (stepE s)
theorem q7t {s:EncS} (h1:s.l≤s.h) (h2:s.h<4294967296) (hk:way s.l s.h≠0):(stepE s).l≤(stepE s).h∧(stepE s).h<4294967296∧(stepE s).h - (stepE s).l+1=2 * (s.h - s.l+1):=by
 have ho:=qc7 h1
 have hl:(stepE s).l=2 * (s.l - offW (way s.l s.h)):=rfl
 have hh:(stepE s).h=2 * (s.h - offW (way s.l s.h))+1:=rfl
 rw[hl,hh]
 refine⟨by omega,?_,by omega⟩
 rcases q1w s.l s.h with⟨e,a⟩|⟨e,a,b⟩|⟨e,a,b,c,d⟩|⟨e,_⟩
 ·omega
 ·rw[e];unfold offW;simp;omega
 ·rw[e];unfold offW;simp;omega
 ·exact absurd e hk
theorem qip:∀ n s,s.l≤s.h→s.h<4294967296→4294967296<(s.h - s.l+1) * 2 ^ n→Nrm (normE n s).l (normE n s).h:=by
 intro n
 induction n with
 | zero=>intro s h1 h2 h3;rw[Nat.pow_zero,Nat.mul_one] at h3;omega
 | succ n ih =>
  intro s h1 h2 h3
  unfold normE
  by_cases hk:way s.l s.h=0
  ·rw[if_pos hk];exact⟨h1,h2,hk⟩
  ·rw[if_neg hk]
   obtain⟨a,b,c⟩:=q7t h1 h2 hk
   refine ih _ a b ?_
   rw[c,Nat.mul_comm 2,Nat.mul_assoc,← Nat.pow_succ']
   exact h3
theorem InSp.backN {F:List Bool}:∀ n (s:EncS),s.l≤s.h→s.h<4294967296→InSp F (normE n s)→InSp F s:=by
 intro n
 induction n with
 | zero=>intro s _ _ h;exact h
 | succ n ih =>
  intro s h1 h2 h
  unfold normE at h
  by_cases hk:way s.l s.h=0
  ·rw[if_pos hk] at h;exact h
  ·rw[if_neg hk] at h
   obtain⟨a,b,_⟩:=q7t h1 h2 hk
   exact (ih _ a b h).back h1 hk
def seeC (c:Nat × Nat) (b:Bool):Nat × Nat :=
 let d:=if b then (c.1,c.2+1) else (c.1+1,c.2)
 if d.1+d.2=65536 then ((d.1+1) / 2,(d.2+1) / 2) else d
theorem qn4 {c:Nat × Nat} (h:OkC c) (b:Bool):OkC (seeC c b):=by
 obtain⟨h1,h2,h3⟩:=h
 unfold seeC OkC
 cases b
 ·simp only [Bool.false_eq_true,if_false]
  by_cases e:c.1+1+c.2=65536
  ·rw[if_pos e];simp only;omega
  ·rw[if_neg e];simp only;omega
 ·simp only [if_true]
  by_cases e:c.1+(c.2+1)=65536
  ·rw[if_pos e];simp only;omega
  ·rw[if_neg e];simp only;omega
structure CM where
 cs:List (Nat × Nat)
 now:Nat
def CM.cur (m:CM):Nat × Nat:=m.cs.getD m.now (1,1)
def CM.see (m:CM) (b:Bool):CM:=⟨m.cs.set m.now (seeC m.cur b),(2 * m.now+b.toNat) % m.cs.length⟩
def CM.new (N:Nat):CM:=⟨List.replicate N (1,1),0⟩
structure CM.Ok (m:CM) (N:Nat):Prop where
 len:m.cs.length=N
 ok:∀ c ∈ m.cs,OkC c
 lt:m.now<N
theorem CM.Ok.cur {m:CM} {N:Nat} (h:m.Ok N):OkC m.cur∧m.cs[m.now]? = some m.cur:=by
 have h1:=List.getElem?_eq_getElem (l:=m.cs) (i:=m.now) (by rw[h.len];exact h.lt)
 have h2:m.cur=m.cs[m.now]'(by rw[h.len];exact h.lt):=by unfold CM.cur;rw[List.getD_eq_getElem?_getD,h1];rfl
 rw[h2]
 exact⟨h.ok _ (List.getElem_mem _),h1⟩
theorem CM.Ok.see {m:CM} {N:Nat} (h:m.Ok N) (b:Bool):(m.see b).Ok N:=by
 refine⟨by simp[CM.see,h.len],fun c hc=>?_,?_⟩
 ·rcases List.mem_or_eq_of_mem_set hc with hc|rfl
  ·exact h.ok c hc
  ·exact qn4 h.cur.1 b
 ·show (2 * m.now+b.toNat) % m.cs.length<N
  rw[h.len]
  exact Nat.mod_lt _ (by have:=h.lt;omega)
theorem CM.new_ok {N:Nat} (h:0<N):(CM.new N).Ok N :=
 ⟨by simp[CM.new],fun c hc=>by rw[List.eq_of_mem_replicate hc];exact⟨by decide,by decide,by decide⟩,h⟩
def q1x (x:CM × EncS) (b:Bool):CM × EncS:=(x.1.see b,normE 33 (takeE x.1.cur b x.2))
def encS (k:Nat) (l:List Bool):CM × EncS:=l.foldl q1x (CM.new (2 ^ k),⟨0,4294967295,0,[]⟩)
def finE (s:EncS):List Bool:=if s.l<1073741824 then s.o ++ false :: List.replicate (s.w+1) true else s.o ++ true :: List.replicate (s.w+1) false
def encK (k:Nat) (l:List Bool):List Bool:=finE (encS k l).2
theorem q6n {N:Nat} {x:CM × EncS} (h1:x.1.Ok N) (h2:Nrm x.2.l x.2.h) (b:Bool):(q1x x b).1.Ok N∧Nrm (q1x x b).2.l (q1x x b).2.h:=by
 obtain⟨a,c⟩:=q7s (b:=b) h2 h1.cur.1
 refine⟨h1.see b,qip 33 _ a c ?_⟩
 calc 4294967296<1 * 2 ^ 33:=by decide
  _≤_:=Nat.mul_le_mul_right _ (by omega)
theorem q43:Nrm 0 4294967295:=⟨by decide,by decide,by decide⟩
theorem qn5 (k:Nat) (l:List Bool):(encS k l).1.Ok (2 ^ k)∧Nrm (encS k l).2.l (encS k l).2.h:=by
 refine q7r (P:=fun l=>(encS k l).1.Ok (2 ^ k)∧Nrm (encS k l).2.l (encS k l).2.h) ⟨CM.new_ok (Nat.two_pow_pos k),q43⟩ (fun l b ih=>?_) l
 unfold encS at ih ⊢
 rw[List.foldl_append]
 exact q6n ih.1 ih.2 b
theorem InSp.fin {s:EncS} (h:Nrm s.l s.h):InSp (finE s) s:=by
 obtain⟨h1,h2,h3⟩:=h
 have h0:0<2 ^ s.w:=Nat.two_pow_pos _
 have hp:2 ^ (32+s.w)=4294967296 * 2 ^ s.w:=by rw[Nat.pow_add]
 rcases q1w s.l s.h with⟨e,_⟩|⟨e,_⟩|⟨e,_⟩|⟨_,a,b,c⟩
 ·omega
 ·omega
 ·omega
 ·have ht:32+absT s=s.o.length+(s.w+2+30):=by unfold absT;omega
  unfold InSp finE
  rw[ht]
  by_cases hq:s.l<1073741824
  ·rw[if_pos hq,qaz]
   have h5:=qc6 (false :: List.replicate (s.w+1) true) 30
   rw[List.length_cons,List.length_replicate] at h5
   rw[show s.w+2+30=s.w+1+1+30 by omega,h5,q5w]
   have h6:=qc4 (s.w+1)
   unfold absA
   rw[show s.w+1+1+30=32+s.w by omega]
   generalize bigV s.o * 2 ^ (32+s.w)=P at *
   rw[Nat.pow_succ] at h6
   generalize bigV (List.replicate (s.w+1) true)=X at *
   generalize 2 ^ s.w=Y at *
   simp only [Bool.toNat_false,Nat.zero_mul,Nat.zero_add]
   omega
  ·rw[if_neg hq,qaz]
   have h5:=qc6 (true :: List.replicate (s.w+1) false) 30
   rw[List.length_cons,List.length_replicate] at h5
   rw[show s.w+2+30=s.w+1+1+30 by omega,h5,q5w,q9x,List.length_replicate]
   unfold absA
   rw[show s.w+1+1+30=32+s.w by omega,Nat.pow_succ]
   generalize bigV s.o * 2 ^ (32+s.w)=P at *
   generalize 2 ^ s.w=Y at *
   simp only [Bool.toNat_true,Nat.one_mul,Nat.add_zero]
   omega
theorem InSp.enc {N:Nat}:∀ (rest:List Bool) (x:CM × EncS),x.1.Ok N→Nrm x.2.l x.2.h→InSp (finE (rest.foldl q1x x).2) x.2:=by
 intro rest
 induction rest with
 | nil=>intro x _ h2;exact InSp.fin h2
 | cons b rest ih =>
  intro x h1 h2
  obtain⟨a,c⟩:=q6n h1 h2 b
  have h3:=ih (q1x x b) a c
  obtain⟨d,e⟩:=q7s (b:=b) h2 h1.cur.1
  exact ((InSp.backN 33 _ d e h3).backT h2 h1.cur.1).1
structure DC where
 l:Nat
 h:Nat
 v:Nat
 a:Nat
def stepC (F:List Bool) (d:DC):DC:=⟨2 * (d.l - offW (way d.l d.h)),2 * (d.h - offW (way d.l d.h))+1,2 * (d.v - offW (way d.l d.h))+(F.getD d.a false).toNat,d.a+1⟩
def normC (F:List Bool):Nat→DC→DC
 | 0,d=>d
 | n+1,d=>if way d.l d.h=0 then d else normC F n (stepC F d)
def takeC (c:Nat × Nat) (b:Bool) (d:DC):DC:=if b then { d with l:=midC d.l d.h c+1 } else { d with h:=midC d.l d.h c }
def bitC (x:CM × DC):Bool:=decide (midC x.2.l x.2.h x.1.cur<x.2.v)
def q12 (F:List Bool) (x:CM × DC):CM × DC:=(x.1.see (bitC x),normC F 33 (takeC x.1.cur (bitC x) x.2))
def decS (F:List Bool):Nat→CM × DC→List Bool
 | 0,_=>[]
 | n+1,x=>bitC x :: decS F n (q12 F x)
def q06 (k:Nat) (F:List Bool):CM × DC:=(CM.new (2 ^ k),⟨0,4294967295,preV F 32,32⟩)
def decK (k n:Nat) (F:List Bool):List Bool:=decS F n (q06 k F)
def RelC (F:List Bool) (s:EncS) (d:DC):Prop:=d.l=s.l∧d.h=s.h∧d.a=32+absT s∧d.v+absA s=preV F (32+absT s)
theorem RelC.norm {F:List Bool}:∀ n (s:EncS) (d:DC),s.l≤s.h→s.h<4294967296→InSp F (normE n s)→RelC F s d→RelC F (normE n s) (normC F n d):=by
 intro n
 induction n with
 | zero=>intro s d _ _ _ h;exact h
 | succ n ih =>
  intro s d h1 h2 hI hR
  have hs:=InSp.backN (n+1) s h1 h2 hI
  obtain⟨r1,r2,r3,r4⟩:=hR
  unfold normE at hI ⊢
  unfold normC
  rw[r1,r2]
  by_cases hk:way s.l s.h=0
  ·rw[if_pos hk,if_pos hk];exact⟨r1,r2,r3,r4⟩
  ·rw[if_neg hk] at hI
   rw[if_neg hk,if_neg hk]
   obtain⟨a,b,_⟩:=q7t h1 h2 hk
   refine ih _ _ a b hI ?_
   obtain⟨e1,e2⟩:=q5x s hk
   have ho:=qc7 h1
   have hv:s.l≤d.v:=by have:=hs.1;omega
   refine⟨?_,?_,?_,?_⟩
   ·show 2 * (d.l - offW (way d.l d.h))=_;rw[r1,r2];rfl
   ·show 2 * (d.h - offW (way d.l d.h))+1=_;rw[r1,r2];rfl
   ·show d.a+1=_;rw[e2,r3];omega
   ·show 2 * (d.v - offW (way d.l d.h))+(F.getD d.a false).toNat+absA (stepE s)=_
    rw[e1,e2,← Nat.add_assoc,q1v,← r4,r1,r2,r3]
    omega
theorem qlc {N:Nat} {F:List Bool}:∀ (rest:List Bool) (x:CM × EncS) (d:DC),x.1.Ok N→Nrm x.2.l x.2.h→F=finE (rest.foldl q1x x).2→RelC F x.2 d→decS F rest.length (x.1,d)=rest:=by
 intro rest
 induction rest with
 | nil=>intro x d _ _ _ _;rfl
 | cons b rest ih =>
  intro x d h1 h2 hF hR
  obtain⟨a,c⟩:=q6n h1 h2 b
  have h3:InSp F (q1x x b).2:=by rw[hF];exact InSp.enc rest (q1x x b) a c
  obtain⟨p,q⟩:=q7s (b:=b) h2 h1.cur.1
  have h4:=InSp.backN 33 _ p q h3
  have h5:=h4.backT h2 h1.cur.1
  have h6:=h5.1
  obtain⟨r1,r2,r3,r4⟩:=id hR
  have hb:bitC (x.1,d)=b:=by
   unfold bitC
   rw[h5.2]
   simp only
   rw[r1,r2,← r4,Nat.add_sub_cancel]
  show bitC (x.1,d) :: decS F rest.length (q12 F (x.1,d))=b :: rest
  rw[hb]
  congr 1
  have h7:q12 F (x.1,d)=(x.1.see b,normC F 33 (takeC x.1.cur b d)):=by unfold q12;rw[hb]
  rw[h7]
  refine ih (q1x x b) _ a c hF (RelC.norm 33 _ _ p q h3 ?_)
  unfold takeC takeE
  cases b
  ·exact⟨r1,by simp only [Bool.false_eq_true,if_false];rw[r1,r2],r3,r4⟩
  ·exact⟨by simp only [if_true];rw[r1,r2],r2,r3,r4⟩
theorem qiq (k:Nat) (l:List Bool):decK k l.length (encK k l)=l:=by
 unfold decK q06
 refine qlc (N:=2 ^ k) l (CM.new (2 ^ k),⟨0,4294967295,0,[]⟩) _ (CM.new_ok (Nat.two_pow_pos k)) q43 rfl ⟨rfl,rfl,rfl,?_⟩
 simp[absA,absT,bigV]
end
section
def vaB (x:Nat):List Nat:=if x<128 then [x] else (x % 128+128) :: vaB (x / 128)
termination_by x
decreasing_by omega
theorem q3b {x:Nat} (h:x<128):vaB x=[x]:=by unfold vaB;rw[if_pos h]
theorem q5y {x:Nat} (h:¬ x<128):vaB x=(x % 128+128) :: vaB (x / 128):=by rw[vaB];rw[if_neg h]
theorem qfn (x:Nat):∀ b ∈ vaB x,b<256:=by
 induction x using Nat.strongRecOn with
 | ind x ih =>
  intro b hb
  by_cases h:x<128
  ·rw[q3b h] at hb;simp at hb;omega
  ·rw[q5y h] at hb
   rcases List.mem_cons.1 hb with rfl|hb
   ·omega
   ·exact ih (x / 128) (by omega) b hb
theorem qir (x:Nat):0<(vaB x).length:=by
 by_cases h:x<128
 ·rw[q3b h];simp
 ·rw[q5y h];simp
theorem qn6:∀ (k x:Nat),x<128 ^ (k+1)→(vaB x).length≤k+1:=by
 intro k
 induction k with
 | zero=>intro x h;rw[q3b (by omega)];simp
 | succ k ih =>
  intro x h
  by_cases h1:x<128
  ·rw[q3b h1];simp
  ·rw[q5y h1,List.length_cons]
   have:=ih (x / 128) (by rw[Nat.pow_succ] at h;omega)
   omega
theorem q0z {x:Nat} (h:x<18446744073709551616):(vaB x).length≤10:=qn6 9 x (Nat.lt_of_lt_of_le h (by decide))
def getN:List Nat→Nat→Nat→Option (Nat × Nat)
 | [],_,_=>none
 | b :: p,i,acc =>
  if 64≤7 * i∨18446744073709551616≤b % 128 * 2 ^ (7 * i)∨(b=0∧0<i) then none
  else if b<128 then some (acc+b % 128 * 2 ^ (7 * i),i+1) else getN p (i+1) (acc+b % 128 * 2 ^ (7 * i))
theorem qld:∀ (x:Nat) (rest:List Nat) (i acc:Nat),x * 2 ^ (7 * i)<18446744073709551616→(0<i→0<x)→getN (vaB x ++ rest) i acc=some (acc+x * 2 ^ (7 * i),i+(vaB x).length):=by
 intro x
 induction x using Nat.strongRecOn with
 | ind x ih =>
  intro rest i acc hx hi
  have h64:0<x→7 * i<64:=by
   intro h0
   apply Classical.byContradiction
   intro hn
   have h1:2 ^ 64≤2 ^ (7 * i):=Nat.pow_le_pow_right (by omega) (by omega)
   have h2:2 ^ (7 * i)≤x * 2 ^ (7 * i):=Nat.le_mul_of_pos_left _ h0
   have h3:(2:Nat) ^ 64=18446744073709551616:=by decide
   omega
  have hp:0<2 ^ (7 * i):=Nat.two_pow_pos _
  by_cases h:x<128
  ·rw[q3b h]
   have hm:x % 128=x:=Nat.mod_eq_of_lt h
   show (if 64≤7 * i∨18446744073709551616≤x % 128 * 2 ^ (7 * i)∨(x=0∧0<i) then none else if x<128 then some (acc+x % 128 * 2 ^ (7 * i),i+1) else getN rest (i+1) (acc+x % 128 * 2 ^ (7 * i)))=_
   have hc:¬ (64≤7 * i∨18446744073709551616≤x % 128 * 2 ^ (7 * i)∨(x=0∧0<i)):=by
    rw[hm]
    rintro (h1|h1|⟨h1,h2⟩)
    ·rcases Nat.eq_zero_or_pos i with e|e
     ·omega
     ·have:=h64 (hi e);omega
    ·omega
    ·have:=hi h2;omega
   rw[if_neg hc,if_pos h,hm]
   rfl
  ·rw[q5y h]
   have h0:0<x:=by omega
   have hsum:x=x % 128+128 * (x / 128):=by omega
   have hle:x % 128 * 2 ^ (7 * i)≤x * 2 ^ (7 * i):=Nat.mul_le_mul_right _ (Nat.mod_le _ _)
   have hb:(x % 128+128) % 128=x % 128:=by omega
   show (if 64≤7 * i∨18446744073709551616≤(x % 128+128) % 128 * 2 ^ (7 * i)∨(x % 128+128=0∧0<i) then none else if x % 128+128<128 then some (acc+(x % 128+128) % 128 * 2 ^ (7 * i),i+1) else getN (vaB (x / 128) ++ rest) (i+1) (acc+(x % 128+128) % 128 * 2 ^ (7 * i)))=_
   have hc:¬ (64≤7 * i∨18446744073709551616≤(x % 128+128) % 128 * 2 ^ (7 * i)∨(x % 128+128=0∧0<i)):=by
    rw[hb]
    rintro (h1|h1|⟨h1,h2⟩)
    ·have:=h64 h0;omega
    ·omega
    ·omega
   rw[if_neg hc,if_neg (by omega),hb]
   have hpow:2 ^ (7 * (i+1))=128 * 2 ^ (7 * i):=by rw[Nat.mul_add,Nat.pow_add,Nat.mul_comm]
   have hdiv:x / 128 * 2 ^ (7 * (i+1))=128 * (x / 128) * 2 ^ (7 * i):=by rw[hpow,← Nat.mul_assoc,Nat.mul_comm (x / 128) 128]
   have hle2:128 * (x / 128) * 2 ^ (7 * i)≤x * 2 ^ (7 * i):=Nat.mul_le_mul_right _ (by omega)
   rw[ih (x / 128) (by omega) rest (i+1) _ (by rw[hdiv];omega) (fun _=>by omega),hdiv,List.length_cons]
   have:x * 2 ^ (7 * i)=x % 128 * 2 ^ (7 * i)+128 * (x / 128) * 2 ^ (7 * i):=by rw[← Nat.add_mul,← hsum]
   rw[this]
   congr 2 <;> omega
def octV (l:List Bool):Nat:=(List.range 8).foldr (fun i a=>(l.getD i false).toNat+2 * a) 0
def octB (l:List Bool):List Nat:=(List.range ((l.length+7) / 8)).map fun j=>octV (l.drop (8 * j))
theorem q0f (l:List Bool):(octB l).length=(l.length+7) / 8:=by simp[octB]
theorem qis (l:List Bool):octV l<256:=by
 have h:∀ i,(l.getD i false).toNat≤1:=fun i=>by cases l.getD i false <;> simp
 have:=h 0;have:=h 1;have:=h 2;have:=h 3;have:=h 4;have:=h 5;have:=h 6;have:=h 7
 show (l.getD 0 false).toNat+2 * ((l.getD 1 false).toNat+2 * ((l.getD 2 false).toNat+2 * ((l.getD 3 false).toNat+2 * ((l.getD 4 false).toNat+2 * ((l.getD 5 false).toNat+2 * ((l.getD 6 false).toNat+2 * ((l.getD 7 false).toNat+2 * 0)))))))<256
 omega
theorem qfo (l:List Bool) {i:Nat} (hi:i<8):octV l / 2 ^ i % 2=(l.getD i false).toNat:=by
 have h:∀ i,(l.getD i false).toNat≤1:=fun i=>by cases l.getD i false <;> simp
 have:=h 0;have:=h 1;have:=h 2;have:=h 3;have:=h 4;have:=h 5;have:=h 6;have:=h 7
 show ((l.getD 0 false).toNat+2 * ((l.getD 1 false).toNat+2 * ((l.getD 2 false).toNat+2 * ((l.getD 3 false).toNat+2 * ((l.getD 4 false).toNat+2 * ((l.getD 5 false).toNat+2 * ((l.getD 6 false).toNat+2 * ((l.getD 7 false).toNat+2 * 0)))))))) / 2 ^ i % 2=_
 match i,hi with
 | 0,_=>simp only [Nat.pow_zero];omega
 | 1,_=>simp only [show 2 ^ 1=2 from rfl];omega
 | 2,_=>simp only [show 2 ^ 2=4 from rfl];omega
 | 3,_=>simp only [show 2 ^ 3=8 from rfl];omega
 | 4,_=>simp only [show 2 ^ 4=16 from rfl];omega
 | 5,_=>simp only [show 2 ^ 5=32 from rfl];omega
 | 6,_=>simp only [show 2 ^ 6=64 from rfl];omega
 | 7,_=>simp only [show 2 ^ 7=128 from rfl];omega
theorem qb (l:List Bool):∀ b ∈ octB l,b<256:=fun b hb=>by
 obtain⟨j,_,rfl⟩:=List.mem_map.1 hb
 exact qis _
theorem qle (l:List Bool) {i:Nat} (hi:i<8 * (octB l).length):(octB l).getD (i / 8) 0 / 2 ^ (i % 8) % 2=(l.getD i false).toNat:=by
 have h8:i / 8<(l.length+7) / 8:=by rw[q0f] at hi;omega
 have hg:(octB l).getD (i / 8) 0=octV (l.drop (8 * (i / 8))):=by
  unfold octB
  rw[List.getD_eq_getElem?_getD,List.getElem?_map,List.getElem?_range h8]
  rfl
 rw[hg,qfo _ (Nat.mod_lt _ (by omega))]
 congr 1
 rw[List.getD_eq_getElem?_getD,List.getD_eq_getElem?_getD,List.getElem?_drop]
 congr 2
 omega
end
section
def q21 (l:List Bool) (k:Nat):List Nat:=(k+1) :: (vaB (encK k l).length ++ octB (encK k l))
def q0p (plain:Bool) (l:List Bool) (best:List Nat) (k:Nat):List Nat:=if plain=false∧(q21 l k).length<best.length then q21 l k else best
def packB (plain:Bool) (l:List Bool):List Nat:=(List.range 9).foldl (q0p plain l) (0 :: octB l)
theorem qit {l:List Bool} {k:Nat} (hk:k<9):∀ b ∈ q21 l k,b<256:=by
 intro b hb
 rcases List.mem_cons.1 hb with rfl|hb
 ·omega
 ·rcases List.mem_append.1 hb with hb|hb
  ·exact qfn _ b hb
  ·exact qb _ b hb
theorem q8k (plain:Bool) (l:List Bool):∀ j,j≤9→(List.range j).foldl (q0p plain l) (0 :: octB l)=0 :: octB l∨(plain=false∧∃ k,k<9∧(List.range j).foldl (q0p plain l) (0 :: octB l)=q21 l k):=by
 intro j
 induction j with
 | zero=>intro _;exact .inl rfl
 | succ j ih =>
  intro hj
  rw[List.range_succ,List.foldl_append]
  show q0p plain l ((List.range j).foldl (q0p plain l) (0 :: octB l)) j=_∨_
  have ih:=ih (by omega)
  generalize (List.range j).foldl (q0p plain l) (0 :: octB l)=best at *
  show q0p plain l best j=0 :: octB l∨(plain=false∧∃ k,k<9∧q0p plain l best j=q21 l k)
  unfold q0p
  split
  ·next h=>exact .inr ⟨h.1,j,by omega,rfl⟩
  ·exact ih
theorem qb0 (plain:Bool) (l:List Bool):∀ b ∈ packB plain l,b<256:=by
 intro b hb
 rcases q8k plain l 9 (Nat.le_refl _) with h|⟨_,k,hk,h⟩
 ·unfold packB at hb
  rw[h] at hb
  rcases List.mem_cons.1 hb with rfl|hb
  ·omega
  ·exact qb _ b hb
 ·unfold packB at hb
  rw[h] at hb
  exact qit hk b hb
theorem qc8 (plain:Bool) (l:List Bool):∀ j,((List.range j).foldl (q0p plain l) (0 :: octB l)).length≤(octB l).length+1:=by
 intro j
 induction j with
 | zero=>simp
 | succ j ih =>
  rw[List.range_succ,List.foldl_append]
  show (q0p plain l ((List.range j).foldl (q0p plain l) (0 :: octB l)) j).length≤_
  generalize (List.range j).foldl (q0p plain l) (0 :: octB l)=best at *
  unfold q0p
  split
  ·next h=>omega
  ·exact ih
theorem qiu:∀ n (s:EncS),absT (normE n s)≤absT s+n:=by
 intro n
 induction n with
 | zero=>intro s;exact Nat.le_refl _
 | succ n ih =>
  intro s
  unfold normE
  split
  ·omega
  ·next hk =>
   have h1:=ih (stepE s)
   have h2:=(q5x s hk).2
   omega
theorem qfp (k:Nat) (l:List Bool):absT (encS k l).2≤33 * l.length:=by
 refine q7r (P:=fun l=>absT (encS k l).2≤33 * l.length) (by simp[encS,absT]) (fun l b ih=>?_) l
 unfold encS at ih ⊢
 rw[List.foldl_append]
 show absT (q1x (List.foldl q1x _ l) b).2≤_
 generalize List.foldl q1x (CM.new (2 ^ k),(⟨0,4294967295,0,[]⟩:EncS)) l=x at *
 have h1:=qiu 33 (takeE x.1.cur b x.2)
 have h2:absT (takeE x.1.cur b x.2)=absT x.2:=by cases b <;> rfl
 rw[List.length_append,List.length_singleton]
 show absT (normE 33 (takeE x.1.cur b x.2))≤_
 omega
theorem q7u (k:Nat) (l:List Bool):(encK k l).length≤33 * l.length+2:=by
 have h:=qfp k l
 unfold encK finE
 unfold absT at h
 split <;> (simp only [List.length_append,List.length_cons,List.length_replicate];omega)
end
section
def q1j (cs:List Nat) (i:Nat):Bool:=cs.getD (i / 8) 0 / 2 ^ (i % 8) % 2 == 1
def ofB (cs:List Nat) (n:Nat):List Bool:=(List.range n).map (q1j cs)
def ofOk (cs:List Nat) (n:Nat):Prop:=n≤8 * cs.length∧8 * cs.length<n+8
def ofPad (cs:List Nat) (n:Nat):Prop:=∀ i,n≤i→i<8 * cs.length→q1j cs i=false
instance (cs:List Nat) (n:Nat):Decidable (ofOk cs n):=by unfold ofOk;infer_instance
noncomputable instance (cs:List Nat) (n:Nat):Decidable (ofPad cs n):=Classical.propDecidable _
noncomputable def ofC (cs:List Nat) (n:Nat):Nat:=if ofOk cs n then (if ofPad cs n then 0 else 3) else 1
theorem q9y (cs:List Nat) (n:Nat):(ofB cs n).length=n:=by simp[ofB]
theorem qlf (cs:List Nat) (n:Nat):ofB cs (n+1)=ofB cs n ++ [q1j cs n]:=by simp[ofB,List.range_succ]
theorem q75 (l:List Bool) (i:Nat):q1j (octB l) i=l.getD i false:=by
 unfold q1j
 by_cases h:i<8 * (octB l).length
 ·rw[qle l h]
  cases l.getD i false <;> rfl
 ·have h1:(octB l).length≤i / 8:=by omega
  have h2:l.length≤i:=by rw[q0f] at h;omega
  rw[List.getD_eq_getElem?_getD,List.getElem?_eq_none h1,List.getD_eq_getElem?_getD,List.getElem?_eq_none h2]
  simp
theorem qfq (l:List Bool):ofB (octB l) l.length=l:=by
 apply List.ext_getElem?
 intro i
 unfold ofB
 rw[List.getElem?_map]
 rcases Nat.lt_or_ge i l.length with h|h
 ·rw[List.getElem?_range h,List.getElem?_eq_getElem h]
  simp only [Option.map_some]
  rw[q75,List.getD_eq_getElem?_getD,List.getElem?_eq_getElem h]
  rfl
 ·rw[List.getElem?_eq_none h,List.getElem?_eq_none (by simpa using h)]
  rfl
theorem qiv (l:List Bool):ofOk (octB l) l.length:=by unfold ofOk;rw[q0f];omega
theorem q9z (l:List Bool):ofPad (octB l) l.length:=fun i h1 _=>by
 rw[q75,List.getD_eq_getElem?_getD,List.getElem?_eq_none h1];rfl
theorem qlg (l:List Bool):ofC (octB l) l.length=0:=by unfold ofC;rw[if_pos (qiv l),if_pos (q9z l)]
noncomputable def partV (cs:List Nat) (n:Nat):Option (List Bool) :=
 if 134217728<n∨cs.length<(n+7) / 8 then none else if ofPad (cs.take ((n+7) / 8)) n then some (ofB (cs.take ((n+7) / 8)) n) else none
theorem qc9 (l:List Bool) (rest:List Nat) (hl:l.length≤134217728):partV (octB l ++ rest) l.length=some l:=by
 have e:(octB l ++ rest).take ((l.length+7) / 8)=octB l:=by
  rw[← q0f,List.take_left]
 unfold partV
 rw[e,if_neg,if_pos (q9z l),qfq]
 rintro (h|h)
 ·omega
 ·rw[List.length_append,q0f] at h;omega
theorem qiw (x:Nat) (rest:List Nat) (hx:x<18446744073709551616):getN (vaB x ++ rest) 0 0=some (x,(vaB x).length):=by
 have:=qld x rest 0 0 (by simpa using hx) (by omega)
 simpa using this
theorem qca:∀ (cs:List Nat) (i acc x u:Nat),getN cs i acc=some (x,u)→acc<2 ^ (7 * i)→acc<18446744073709551616→x<18446744073709551616∧i≤u∧u≤i+cs.length:=by
 intro cs
 induction cs with
 | nil=>intro i acc x u h;cases h
 | cons b cs ih =>
  intro i acc x u h h1 h2
  have hc:getN (b :: cs) i acc=if 64≤7 * i∨18446744073709551616≤b % 128 * 2 ^ (7 * i)∨(b=0∧0<i) then none
   else if b<128 then some (acc+b % 128 * 2 ^ (7 * i),i+1) else getN cs (i+1) (acc+b % 128 * 2 ^ (7 * i)):=rfl
  rw[hc] at h
  split at h
  ·cases h
  ·next hn =>
   have hA:acc+b % 128 * 2 ^ (7 * i)<18446744073709551616:=by
    have h3:acc+b % 128 * 2 ^ (7 * i)=acc ||| b % 128 * 2 ^ (7 * i):=by
     have:=Nat.two_pow_add_eq_or_of_lt h1 (b % 128)
     rw[Nat.mul_comm] at this
     rw[Nat.add_comm,this,Nat.or_comm]
    rw[h3]
    exact Nat.or_lt_two_pow (n:=64) h2 (by omega)
   have hB:acc+b % 128 * 2 ^ (7 * i)<2 ^ (7 * (i+1)):=by
    have h3:b % 128 * 2 ^ (7 * i)≤127 * 2 ^ (7 * i):=Nat.mul_le_mul_right _ (by omega)
    rw[Nat.mul_add,Nat.pow_add]
    omega
   split at h
   ·cases h
    exact⟨hA,by omega,by simp⟩
   ·have:=ih (i+1) _ x u h hB hA
    rw[List.length_cons]
    omega
theorem qix {cs:List Nat} {x u:Nat} (h:getN cs 0 0=some (x,u)):x<18446744073709551616∧u≤cs.length:=by
 have:=qca cs 0 0 x u h (by decide) (by decide)
 omega
noncomputable def readV (c0:Nat) (cs:List Nat) (n:Nat):Option (List Bool) :=
 if c0=0 then partV cs n else
  match getN cs 0 0 with
  | none=>none
  | some (sz,u) =>
   match partV (cs.drop u) sz with
   | none=>none
   | some F=>if encK (c0 - 1) (decK (c0 - 1) n F)=F then some (decK (c0 - 1) n F) else none
noncomputable def q0q (cs:List Nat) (n:Nat) (plain:Bool):Option (List Bool × Nat) :=
 match cs with
 | []=>none
 | c0 :: tl =>
  if 9<c0∨(plain=true∧0<c0) then none else
   match readV c0 tl n with
   | none=>none
   | some v=>if cs.take (packB plain v).length=packB plain v then some (v,(packB plain v).length) else none
theorem qa0 (plain:Bool) (l:List Bool):packB plain l=0 :: octB l∨(plain=false∧∃ k,k<9∧packB plain l=q21 l k):=q8k plain l 9 (Nat.le_refl _)
theorem qiy (plain:Bool) (l:List Bool):0<(packB plain l).length:=by
 rcases qa0 plain l with h|⟨_,k,_,h⟩ <;> (rw[h];simp[q21])
theorem qe8 (plain:Bool) (l:List Bool) (rest:List Nat) (hl:l.length≤1000000):q0q (packB plain l ++ rest) l.length plain=some (l,(packB plain l).length):=by
 have ht:(packB plain l ++ rest).take (packB plain l).length=packB plain l:=List.take_left
 rcases qa0 plain l with h|⟨hp,k,hk,h⟩
 ·generalize hP:packB plain l=P at *
  subst h
  unfold q0q
  simp only [List.cons_append]
  rw[if_neg (by omega)]
  have:readV 0 (octB l ++ rest) l.length=some l:=by unfold readV;rw[if_pos rfl,qc9 l rest (by omega)]
  rw[this]
  simp only
  rw[hP]
  exact if_pos ht
 ·have hlen:(encK k l).length≤134217728:=by have:=q7u k l;omega
  have hrd:readV (k+1) (vaB (encK k l).length ++ octB (encK k l) ++ rest) l.length=some l:=by
   unfold readV
   rw[if_neg (by omega),List.append_assoc,qiw _ _ (by omega)]
   simp only
   rw[List.drop_left,qc9 _ _ hlen]
   simp only
   rw[show k+1 - 1=k from rfl,qiq,if_pos rfl]
  generalize hP:packB plain l=P at *
  subst h
  unfold q0q q21
  simp only [List.cons_append]
  rw[if_neg (by rw[hp];simp;omega),hrd]
  simp only
  rw[hP]
  exact if_pos ht
end
section
open Go.RowKit
def SpanB (W:World) (b:Nat) (t:TypeId) (l h:Nat) (xs:List Value):Prop:=W.heap[b]? = some (.cells ⟨.int .u64 l :: .int .u64 h :: xs⟩ t (0,0))
theorem SpanB.c0 {W:World} {b:Nat} {t:TypeId} {l h:Nat} {xs:List Value} (k:SpanB W b t l h xs):W.cell? ⟨b,0,none⟩=some (.int .u64 l):=by
 have:=World.cell_of_heap k 0;simpa using this
theorem SpanB.c1 {W:World} {b:Nat} {t:TypeId} {l h:Nat} {xs:List Value} (k:SpanB W b t l h xs):W.cell? ⟨b,1,none⟩=some (.int .u64 h):=by
 have:=World.cell_of_heap k 1;simpa using this
theorem SpanB.low {W:World} {b:Nat} {t:TypeId} {l h:Nat} {xs:List Value} (k:SpanB W b t l h xs) (z:Nat):SpanB (W.setCell ⟨b,0,none⟩ (.int .u64 (z:Int))) b t z h xs:=by
 have:=q00 k 0 (.int .u64 (z:Int));simpa [SpanB] using this
theorem SpanB.high {W:World} {b:Nat} {t:TypeId} {l h:Nat} {xs:List Value} (k:SpanB W b t l h xs) (z:Nat):SpanB (W.setCell ⟨b,1,none⟩ (.int .u64 (z:Int))) b t l z xs:=by
 have:=q00 k 1 (.int .u64 (z:Int));simpa [SpanB] using this
theorem SpanB.keeps {W W':World} {b:Nat} {t:TypeId} {l h:Nat} {xs:List Value} {G:Nat→Prop} (k:SpanB W b t l h xs) (hk:Keeps G W W') (hG:¬ G b):SpanB W' b t l h xs:=hk.at k hG
theorem q8l (b:Nat) (l h:Nat) (c:Nat × Nat) (t:TypeId) (xs:List Value) (w:World) (hS:SpanB w b t l h xs) (hn:Nrm l h) (hc:OkC c) :
  Calls Tryz.prog 239 #[.pointer (some ⟨b,0,none⟩),.agg #[.int .u64 c.1,.int .u64 c.2]] w fun e w'=>e=.returned (.int .u64 (midC l h c:Nat))∧Keeps (fun _=>False) w w':=by
 have hm:=q3a hn hc
 have hmd:midC l h c=l+(h - l+1) * c.1 / (c.1+c.2) - 1:=rfl
 obtain⟨c1,c2⟩:=c
 obtain⟨k1,k2,k3⟩:=hc
 have hh:=hn.2.1
 have hlh:=hn.1
 simp only at *
 have ka:=(Keeps.refl (fun _=>False) w).alloc (.cells #[.int .u64 c1,.int .u64 c2] 270)
 have hSA:=hS.keeps ka (fun h=>h)
 have d0:=hSA.c0
 have d1:=hSA.c1
 obtain⟨P,hP⟩:∃ P,P=(h - l+1) * c1:=⟨_,rfl⟩
 have hPb:P<281474976710656:=by
  rw[hP]
  calc (h - l+1) * c1≤4294967296 * c1:=Nat.mul_le_mul_right _ (by omega)
   _<4294967296 * 65536:=Nat.mul_lt_mul_of_pos_left (by omega) (by decide)
   _=281474976710656:=by decide
 obtain⟨Q,hQ⟩:∃ Q,Q=P / (c1+c2):=⟨_,rfl⟩
 rw[← hP,← hQ] at hmd
 rw[← hP,← hQ] at hm
 have eP:((h:Int) - (l:Int)+1) * (c1:Int)=(P:Int):=by rw[hP];push_cast;congr 1;omega
 have eQ:(P:Int) / ((c1:Int)+(c2:Int))=(Q:Int):=by rw[hQ];push_cast;rfl
 have h00:¬ (c1:Int)+(c2:Int)=0:=by omega
 have hQl:Q≤4294967296:=by omega
 have HM:=Lib.hid (And.intro hmd ka)
 clear hS hn hP hQ hmd ka hSA
 generalize midC l h (c1,c2)=M at *
 go_enter Tryz.func239,Tryz.ntmps239
 go_wp2_with fail
 go_quiet (fail)
 have HK:=Lib.hid (HM.out.2.drewN nq)
 go_wp2
 go_ret
 refine⟨?_,HK.out⟩
 show Ending.returned (.int .u64 ((l:Int)+(Q:Int) - 1))=_
 rw[HM.out.1]
 congr 2
 omega
theorem q76 (b:Nat) (l h:Nat) (c:Nat × Nat) (x:Bool) (t:TypeId) (xs:List Value) (w:World) (hS:SpanB w b t l h xs) (hn:Nrm l h) (hc:OkC c) :
  Calls Tryz.prog 199 #[.pointer (some ⟨b,0,none⟩),.agg #[.int .u64 c.1,.int .u64 c.2],.int .i64 (x.toNat:Int)] w fun e w'=>e=.returned (.tuple #[])∧SpanB w' b t (if x then midC l h c+1 else l) (if x then h else midC l h c) xs∧Keeps (fun k=>k=b) w w':=by
 have ka:=(Keeps.refl (fun _=>False) w).alloc (.cells #[.int .u64 c.1,.int .u64 c.2] 270)
 have hSA:=hS.keeps ka (fun h=>h)
 have hM:=q8l b l h c t xs _ hSA hn hc
 have hm:=q3a hn hc
 have hh:=hn.2.1
 have HK:=Lib.hid ka
 have HSA:=Lib.hid hSA
 have hbl:b<w.heap.size:=lt_of_block hS
 clear hS hn ka hSA
 generalize midC l h c=M at *
 obtain⟨c1,c2⟩:=c
 simp only at *
 clear hc
 go_enter Tryz.func199,Tryz.ntmps199
 go_wp2_with fail
 refine hM.mono ?_
 clear hM
 rintro e w1 ⟨rfl,hk1⟩
 have h1:=HSA.out.keeps hk1 (fun h=>h)
 have kk:Keeps (fun k=>k=b) w w1:=(HK.out.trans hk1 (fun _ _ h=>h)).mono (fun _ _ h=>h.elim)
 have c0:=h1.c0
 have c1':=h1.c1
 have f0:=World.free_of_heap h1
 cases x
 ·have HF:Hid (SpanB (w1.setCell ⟨b,1,none⟩ (.int .u64 (M:Int))) b t l M xs∧Keeps (fun k=>k=b) w (w1.setCell ⟨b,1,none⟩ (.int .u64 (M:Int)))):=Lib.hid ⟨h1.high M,kk.setCell (p:=⟨b,1,none⟩) (.inl rfl) _⟩
  clear kk h1 hk1
  go_wp2_with fail
  go_end0
  exact⟨rfl,HF.out⟩
 ·have HF:Hid (SpanB (w1.setCell ⟨b,0,none⟩ (.int .u64 ((M+1:Nat):Int))) b t (M+1) h xs∧Keeps (fun k=>k=b) w (w1.setCell ⟨b,0,none⟩ (.int .u64 ((M+1:Nat):Int)))):=Lib.hid ⟨h1.low (M+1),kk.setCell (p:=⟨b,0,none⟩) (.inl rfl) _⟩
  clear kk h1 hk1
  have e1:((M+1:Nat):Int)=(M:Int)+1:=by omega
  rw[e1] at HF
  go_wp2_with fail
  go_end0
  exact⟨rfl,HF.out⟩
def dblL (l h:Nat):Nat:=if way l h=0 then l else 2 * (l - offW (way l h))
def dblH (l h:Nat):Nat:=if way l h=0 then h else 2 * (h - offW (way l h))+1
theorem dbl_1 {l h:Nat} (e:way l h=1):dblL l h=2 * (l - 0)∧dblH l h=2 * (h - 0)+1:=by
 unfold dblL dblH
 rw[e,show offW 1=0 from rfl,if_neg (by decide),if_neg (by decide)]
 exact⟨rfl,rfl⟩
theorem dbl_2 {l h:Nat} (e:way l h=2):dblL l h=2 * (l - 2147483648)∧dblH l h=2 * (h - 2147483648)+1:=by
 unfold dblL dblH
 rw[e,show offW 2=2147483648 from rfl,if_neg (by decide),if_neg (by decide)]
 exact⟨rfl,rfl⟩
theorem dbl_3 {l h:Nat} (e:way l h=3):dblL l h=2 * (l - 1073741824)∧dblH l h=2 * (h - 1073741824)+1:=by
 unfold dblL dblH
 rw[e,show offW 3=1073741824 from rfl,if_neg (by decide),if_neg (by decide)]
 exact⟨rfl,rfl⟩
theorem q4w (b:Nat) (l h:Nat) (t:TypeId) (xs:List Value) (w:World) (hS:SpanB w b t l h xs) (hlh:l≤h) (hh:h<4294967296) :
  Calls Tryz.prog 201 #[.pointer (some ⟨b,0,none⟩)] w fun e w'=>e=.returned (.int .i64 (way l h:Nat))∧SpanB w' b t (dblL l h) (dblH l h) xs∧Keeps (fun k=>k=b) w w':=by
 have c0:=hS.c0
 have c1:=hS.c1
 have f0:=World.free_of_heap hS
 have hb:b<w.heap.size:=lt_of_block hS
 have hset:∀ (x y:Nat),SpanB ((w.setCell ⟨b,0,none⟩ (.int .u64 (x:Int))).setCell ⟨b,1,none⟩ (.int .u64 (y:Int))) b t x y xs∧Keeps (fun k=>k=b) w ((w.setCell ⟨b,0,none⟩ (.int .u64 (x:Int))).setCell ⟨b,1,none⟩ (.int .u64 (y:Int))):=fun x y =>
  ⟨(hS.low x).high y,((Keeps.refl (fun k=>k=b) w).setCell (p:=⟨b,0,none⟩) (.inl rfl) _).setCell (p:=⟨b,1,none⟩) (.inl rfl) _⟩
 have g1:∀ x:Nat,(w.setCell ⟨b,0,none⟩ (.int .u64 (x:Int))).cell? ⟨b,1,none⟩=some (.int .u64 h):=fun x=>(hS.low x).c1
 have gf:∀ (x:Nat) (i:Nat),(w.setCell ⟨b,0,none⟩ (.int .u64 (x:Int))).frozen? ⟨b,i,none⟩=false:=fun x i=>World.free_of_heap (hS.low x) i
 have HS:=Lib.hid hS
 clear hS
 rcases q1w l h with⟨e,a1⟩|⟨e,a1,a2⟩|⟨e,a1,a2,a3,a4⟩|⟨e,a1,a2,a3⟩
 ·obtain⟨hL,hH⟩:=dbl_1 e
  have HF:=Lib.hid (And.intro e (hset (2 * (l - 0)) (2 * (h - 0)+1)))
  rw[← hL,← hH] at HF
  have HLH:=Lib.hid (And.intro hL hH)
  have t1:decide ((h:Int)<2147483648)=true:=decide_eq_true (by omega)
  have g1:=g1 (dblL l h)
  have gf:=gf (dblL l h)
  have eL:2 * (l:Int)=((dblL l h:Nat):Int):=by rw[hL];omega
  have eH:2 * (h:Int)+1=((dblH l h:Nat):Int):=by rw[hH];omega
  clear hset hL hH
  generalize dblL l h=L at *
  generalize dblH l h=H at *
  go_enter Tryz.func201,Tryz.ntmps201
  go_wp2_with fail
  go_region
  all_goals
   go_wp2
   go_ret
   exact⟨by rw[HF.out.1];rfl,HF.out.2.1.keeps ((Keeps.refl (fun _=>False) _).drew) (fun h=>h),HF.out.2.2.trans ((Keeps.refl (fun _=>False) _).drew) (fun _ _ h=>h.elim)⟩
 ·obtain⟨hL,hH⟩:=dbl_2 e
  have HF:=Lib.hid (And.intro e (hset (2 * (l - 2147483648)) (2 * (h - 2147483648)+1)))
  rw[← hL,← hH] at HF
  have HLH:=Lib.hid (And.intro hL hH)
  have t1:decide ((h:Int)<2147483648)=false:=decide_eq_false (by omega)
  have t2:decide ((2147483648:Int)≤(l:Int))=true:=decide_eq_true (by omega)
  have g1:=g1 (dblL l h)
  have gf:=gf (dblL l h)
  have eL:2 * ((l:Int) - 2147483648)=((dblL l h:Nat):Int):=by rw[hL];omega
  have eH:2 * ((h:Int) - 2147483648)+1=((dblH l h:Nat):Int):=by rw[hH];omega
  clear hset hL hH
  generalize dblL l h=L at *
  generalize dblH l h=H at *
  go_enter Tryz.func201,Tryz.ntmps201
  go_wp2_with fail
  go_region
  all_goals
   go_wp2
   go_ret
   exact⟨by rw[HF.out.1];rfl,HF.out.2.1.keeps ((Keeps.refl (fun _=>False) _).drew) (fun h=>h),HF.out.2.2.trans ((Keeps.refl (fun _=>False) _).drew) (fun _ _ h=>h.elim)⟩
 ·obtain⟨hL,hH⟩:=dbl_3 e
  have HF:=Lib.hid (And.intro e (hset (2 * (l - 1073741824)) (2 * (h - 1073741824)+1)))
  rw[← hL,← hH] at HF
  have HLH:=Lib.hid (And.intro hL hH)
  have t1:decide ((h:Int)<2147483648)=false:=decide_eq_false (by omega)
  have t2:decide ((2147483648:Int)≤(l:Int))=false:=decide_eq_false (by omega)
  have t3:decide ((1073741824:Int)≤(l:Int))=true:=decide_eq_true (by omega)
  have t4:decide ((h:Int)<3221225472)=true:=decide_eq_true (by omega)
  have g1:=g1 (dblL l h)
  have gf:=gf (dblL l h)
  have eL:2 * ((l:Int) - 1073741824)=((dblL l h:Nat):Int):=by rw[hL];omega
  have eH:2 * ((h:Int) - 1073741824)+1=((dblH l h:Nat):Int):=by rw[hH];omega
  clear hset hL hH
  generalize dblL l h=L at *
  generalize dblH l h=H at *
  go_enter Tryz.func201,Tryz.ntmps201
  go_wp2_with fail
  go_region
  all_goals
   go_wp2
   go_ret
   exact⟨by rw[HF.out.1];rfl,HF.out.2.1.keeps ((Keeps.refl (fun _=>False) _).drew) (fun h=>h),HF.out.2.2.trans ((Keeps.refl (fun _=>False) _).drew) (fun _ _ h=>h.elim)⟩
 ·have HF:Hid (way l h=0∧SpanB w b t (dblL l h) (dblH l h) xs):=Lib.hid ⟨e,by unfold dblL dblH;rw[if_pos e,if_pos e];exact HS.out⟩
  have t1:decide ((h:Int)<2147483648)=false:=decide_eq_false (by omega)
  have t2:decide ((2147483648:Int)≤(l:Int))=false:=decide_eq_false (by omega)
  have hfin:∀ W,Keeps (fun _=>False) w W→SpanB W b t (dblL l h) (dblH l h) xs∧Keeps (fun k=>k=b) w W:=fun W hk=>⟨HF.out.2.keeps hk (fun h=>h),hk.mono (fun _ _ h=>h.elim)⟩
  have HFin:=Lib.hid hfin
  clear hset hfin g1 gf
  by_cases hq:l<1073741824
  ·have t3:decide ((1073741824:Int)≤(l:Int))=false:=decide_eq_false (by omega)
   go_enter Tryz.func201,Tryz.ntmps201
   go_wp2_with fail
   go_ret
   exact⟨by rw[HF.out.1];rfl,HFin.out _ (Keeps.refl _ _)⟩
  ·have t3:decide ((1073741824:Int)≤(l:Int))=true:=decide_eq_true (by omega)
   have t4:decide ((h:Int)<3221225472)=false:=decide_eq_false (by omega)
   go_enter Tryz.func201,Tryz.ntmps201
   go_wp2_with fail
   go_ret
   exact⟨by rw[HF.out.1];rfl,HFin.out _ (Keeps.refl _ _)⟩
end
section
def q8m (plain:Bool) (ls:List (List Bool)):List Nat:=ls.flatMap fun l=>vaB (l.length / 4) ++ packB plain l
def bodyB (plain:Bool) (lone:Nat) (ls:List (List Bool)):List Nat:=vaB lone ++ (vaB ls.length ++ q8m plain ls)
def numV (cs:List Nat) (most:Nat):Option (Nat × List Nat) :=
 match getN cs 0 0 with
 | none=>none
 | some (x,u)=>if x≤most then some (x,cs.drop u) else none
open Classical in
noncomputable def rpart (plain:Bool) (ok:List Bool→Prop) (cs:List Nat):Option (List Bool × List Nat) :=
 match numV cs 65536 with
 | none=>none
 | some (n,cs1) =>
  match q0q cs1 (4 * n) plain with
  | none=>none
  | some (v,u)=>if ok v then some (v,cs1.drop u) else none
noncomputable def q1y (plain:Bool) (ok:List Bool→Prop):Nat→List Nat→Option (List (List Bool) × List Nat)
 | 0,cs=>some ([],cs)
 | k+1,cs =>
  match rpart plain ok cs with
  | none=>none
  | some (v,cs1) =>
   match q1y plain ok k cs1 with
   | none=>none
   | some (vs,cs2)=>some (v :: vs,cs2)
noncomputable def rbody (plain:Bool) (ok:List Bool→Prop) (cs:List Nat):Option (Nat × List (List Bool) × List Nat) :=
 match numV cs 65536 with
 | none=>none
 | some (lone,cs1) =>
  match numV cs1 65536 with
  | none=>none
  | some (k,cs2) =>
   match q1y plain ok k cs2 with
   | none=>none
   | some (vs,cs3)=>some (lone,vs,cs3)
theorem qe9 (x:Nat) (rest:List Nat) (most:Nat) (h:x≤most) (hm:most<18446744073709551616):numV (vaB x ++ rest) most=some (x,rest):=by
 unfold numV
 rw[qiw x rest (by omega)]
 simp only
 rw[if_pos h,List.drop_left]
def qfr (ok:List Bool→Prop) (l:List Bool):Prop:=l.length % 4=0∧l.length≤262144∧ok l
theorem qgx {plain:Bool} {ok:List Bool→Prop} {l:List Bool} (h:qfr ok l) (rest:List Nat):rpart plain ok (vaB (l.length / 4) ++ packB plain l ++ rest)=some (l,rest):=by
 obtain⟨h1,h2,h3⟩:=h
 unfold rpart
 rw[List.append_assoc,qe9 _ _ _ (by omega) (by decide)]
 simp only
 rw[show 4 * (l.length / 4)=l.length by omega,qe8 plain l rest (by omega)]
 simp only
 rw[if_pos h3,List.drop_left]
theorem qcb {plain:Bool} {ok:List Bool→Prop}:∀ (ls:List (List Bool)) (rest:List Nat),(∀ l ∈ ls,qfr ok l)→q1y plain ok ls.length (q8m plain ls ++ rest)=some (ls,rest):=by
 intro ls
 induction ls with
 | nil=>intro rest _;rfl
 | cons l ls ih =>
  intro rest h
  have e:q8m plain (l :: ls) ++ rest=vaB (l.length / 4) ++ packB plain l ++ (q8m plain ls ++ rest):=by simp[q8m]
  rw[e]
  show (match rpart plain ok _ with|none=>none|some (v,cs1)=>match q1y plain ok ls.length cs1 with|none=>none|some (vs,cs2)=>some (v :: vs,cs2))=_
  rw[qgx (h l (by simp))]
  simp only
  rw[ih rest (fun x hx=>h x (by simp[hx]))]
theorem qa1 {plain:Bool} {ok:List Bool→Prop} {lone:Nat} {ls:List (List Bool)} (h:∀ l ∈ ls,qfr ok l) (h1:lone≤65536) (h2:ls.length≤65536) (rest:List Nat):rbody plain ok (bodyB plain lone ls ++ rest)=some (lone,ls,rest):=by
 unfold rbody bodyB
 rw[List.append_assoc,qe9 _ _ _ h1 (by decide)]
 simp only
 rw[List.append_assoc,qe9 _ _ _ h2 (by decide)]
 simp only
 rw[qcb ls rest h]
end
end Go.Proofs.YtcfdpogegngplaaGreat
