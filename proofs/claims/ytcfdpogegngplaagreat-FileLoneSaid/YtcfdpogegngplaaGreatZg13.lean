import Derived.Test.YtcfdpogegngplaaGreatZg00
set_option maxRecDepth 100000
set_option maxHeartbeats 4000000
namespace Go.Proofs.YtcfdpogegngplaaGreat
section
def Fj(r:Nat):Nat:=if r % 2=0 then r / 2 else (r / 2) ^^^ 3988292384
def mW:Nat→Nat→Nat
 | 0,r=>r
 | n+1,r=>Fj (mW n r)
def IU(r b:Nat):Nat:=mW 8 (r ^^^ b)
def nA(bs:List Nat):Nat:=bs.foldl IU 4294967295
def iW(bs:List Nat):Nat:=nA bs ^^^ 4294967295
theorem qkf{r:Nat}(h:r<4294967296):Fj r<4294967296:=by
 unfold Fj
 split
 ·omega
 ·exact Nat.xor_lt_two_pow (n:=32) (by omega) (by decide)
theorem qgh{r:Nat}(h:r<4294967296):∀ n,mW n r<4294967296:=by
 intro n
 induction n with
 | zero=>exact h
 | succ n ih=>exact qkf ih
theorem qhm{r b:Nat}(h:r<4294967296)(hb:b<256):IU r b<4294967296 :=
 qgh (Nat.xor_lt_two_pow (n:=32) h (by omega)) 8
theorem qae:∀ (bs:List Nat) (r:Nat),(∀ b ∈ bs,b<256)→r<4294967296→bs.foldl IU r<4294967296:=by
 intro bs
 induction bs with
 | nil=>intro r _ h;exact h
 | cons b bs ih=>intro r hb h;exact ih _ (fun x hx=>hb x (by simp[hx])) (qhm h (hb b (by simp)))
theorem XC{bs:List Nat}(h:∀ b ∈ bs,b<256):iW bs<4294967296 :=
 Nat.xor_lt_two_pow (n:=32) (qae bs _ h (by decide)) (by decide)
def four(x:Nat):List Nat:=[x % 256,x / 256 % 256,x / 65536 % 256,x / 16777216 % 256]
theorem qoa(x:Nat):∀ b ∈ four x,b<256:=by
 intro b hb
 simp only [four,List.mem_cons,List.not_mem_nil,or_false] at hb
 omega
end
section
def fI(l:List Bool):Nat:=l.foldl (fun a b=>2 * a+b.toNat) 0
theorem E9{α:Type}{l:List α}{i:Nat}{x:α}(h:l[i]? = some x):i<l.length:=by
 rcases Nat.lt_or_ge i l.length with h' | h'
 ·exact h'
 ·rw[List.getElem?_eq_none h'] at h;cases h
theorem OX(l:List Bool)(b:Bool):fI (l ++ [b])=2 * fI l+b.toNat:=by simp[fI]
theorem SF{α:Type}{P:List α→Prop}(h0:P [])(h1:∀ l x,P l→P (l ++ [x]))(l:List α):P l:=by
 have:∀ n,∀ l:List α,l.length=n→P l:=by
  intro n
  induction n with
  | zero=>intro l hl;rw[List.eq_nil_of_length_eq_zero hl];exact h0
  | succ n ih =>
   intro l hl
   have hne:l≠[]:=by intro e;rw[e] at hl;simp at hl
   rw[← List.dropLast_concat_getLast hne]
   exact h1 _ _ (ih _ (by simp[hl]))
 exact this _ l rfl
theorem XD(l m:List Bool):fI (l ++ m)=fI l * 2 ^ m.length+fI m:=by
 refine SF (P:=fun m=>fI (l ++ m)=fI l * 2 ^ m.length+fI m) (by simp[fI]) (fun m b ih=>?_) m
 rw[← List.append_assoc,OX,ih,OX,List.length_append,List.length_singleton,Nat.pow_succ,Nat.mul_add,← Nat.mul_assoc (fI l),Nat.mul_comm (fI l * 2 ^ m.length) 2]
 omega
theorem qaf(n:Nat):fI (List.replicate n false)=0:=by
 induction n with
 | zero=>rfl
 | succ n ih=>rw[List.replicate_succ',OX,ih];rfl
theorem qdp(n:Nat):fI (List.replicate n true)+1=2 ^ n:=by
 induction n with
 | zero=>rfl
 | succ n ih =>
  rw[List.replicate_succ',OX,Nat.pow_succ,← ih]
  have:true.toNat=1:=rfl
  omega
theorem SG(b:Bool)(l:List Bool):fI (b :: l)=b.toNat * 2 ^ l.length+fI l:=by
 have h:=XD [b] l
 rw[List.singleton_append] at h
 rw[h]
 congr 2
 simp[fI]
def iL(F:List Bool):Nat→Nat
 | 0=>0
 | n+1=>2 * iL F n+(F.getD n false).toNat
theorem DI(F:List Bool)(n:Nat):iL F (n+1)=2 * iL F n+(F.getD n false).toNat:=rfl
theorem qdq(o x:List Bool):∀ n,n≤o.length→iL (o ++ x) n=iL o n:=by
 intro n
 induction n with
 | zero=>intro _;rfl
 | succ n ih =>
  intro hn
  rw[DI,DI,ih (by omega)]
  congr 2
  rw[List.getD_eq_getElem?_getD,List.getD_eq_getElem?_getD,List.getElem?_append_left (by omega)]
theorem qkg(o:List Bool):iL o o.length=fI o:=by
 refine SF (P:=fun o=>iL o o.length=fI o) rfl (fun o b ih=>?_) o
 rw[List.length_append,List.length_singleton,DI,qdq o [b] o.length (Nat.le_refl _),ih,OX]
 simp
theorem XE(o x:List Bool)(j:Nat):iL (o ++ x) (o.length+j)=fI o * 2 ^ j+iL x j:=by
 induction j with
 | zero=>rw[Nat.add_zero,qdq o x _ (Nat.le_refl _),qkg];simp[iL]
 | succ j ih =>
  rw[← Nat.add_assoc,DI,DI,ih,Nat.pow_succ]
  have:(o ++ x).getD (o.length+j) false=x.getD j false:=by
   rw[List.getD_eq_getElem?_getD,List.getD_eq_getElem?_getD,List.getElem?_append_right (by omega)]
   congr 2
   omega
  rw[this,← Nat.mul_assoc (fI o)]
  omega
theorem qmi(j:Nat):iL [] j=0:=by
 induction j with
 | zero=>rfl
 | succ j ih=>rw[DI,ih];simp
theorem qdr(x:List Bool)(j:Nat):iL x (x.length+j)=fI x * 2 ^ j:=by
 have:=XE x [] j
 rw[List.append_nil,qmi] at this
 simpa using this
theorem qkh(F:List Bool):∀ n,iL F n<2 ^ n:=by
 intro n
 induction n with
 | zero=>simp[iL]
 | succ n ih =>
  rw[DI,Nat.pow_succ]
  have:(F.getD n false).toNat≤1:=by cases F.getD n false <;> simp
  omega
structure dh where
 l:Nat
 h:Nat
 w:Nat
 o:List Bool
def way(l h:Nat):Nat:=if h<2147483648 then 1 else if 2147483648≤l then 2 else if 1073741824≤l∧h<3221225472 then 3 else 0
def eT(k:Nat):Nat:=if k=2 then 2147483648 else if k=3 then 1073741824 else 0
theorem q22(l h:Nat):(way l h=1∧h<2147483648)∨(way l h=2∧2147483648≤h∧2147483648≤l)∨(way l h=3∧2147483648≤h∧l<2147483648∧1073741824≤l∧h<3221225472)∨(way l h=0∧2147483648≤h∧l<2147483648∧(l<1073741824∨3221225472≤h)):=by
 unfold way
 by_cases h1:h<2147483648
 ·rw[if_pos h1];exact .inl ⟨rfl,h1⟩
 ·rw[if_neg h1]
  by_cases h2:2147483648≤l
  ·rw[if_pos h2];exact .inr (.inl ⟨rfl,by omega,h2⟩)
  ·rw[if_neg h2]
   by_cases h3:1073741824≤l∧h<3221225472
   ·rw[if_pos h3];exact .inr (.inr (.inl ⟨rfl,by omega,by omega,h3.1,h3.2⟩))
   ·rw[if_neg h3];exact .inr (.inr (.inr ⟨rfl,by omega,by omega,by omega⟩))
def aL(s:dh):dh :=
 ⟨2 * (s.l - eT (way s.l s.h)),2 * (s.h - eT (way s.l s.h))+1,if way s.l s.h=3 then s.w+1 else 0,
  if way s.l s.h=1 then s.o ++ false :: List.replicate s.w true else if way s.l s.h=2 then s.o ++ true :: List.replicate s.w false else s.o⟩
def iZ(s:dh):Nat:=fI s.o * 2 ^ (32+s.w)+(2 ^ s.w - 1) * 2147483648
def dD(s:dh):Nat:=s.o.length+s.w
theorem OL{l h:Nat}(_hlh:l≤h):eT (way l h)≤l:=by
 rcases q22 l h with⟨e,_⟩|⟨e,_,h2⟩|⟨e,_,_,h2,_⟩|⟨e,_⟩ <;> rw[e] <;> unfold eT <;> simp <;> omega
theorem XF(P Y X H:Nat)(h:X+1=Y):(P * (Y * 2)+X) * (2 * H)+0=2 * (P * (2 * H * Y)+(Y - 1) * H+0):=by
 subst h
 have e1:P * ((X+1) * 2) * (2 * H)=2 * (P * (2 * H * (X+1))):=by ac_rfl
 have e2:X * (2 * H)=2 * (X * H):=by ac_rfl
 rw[Nat.add_sub_cancel,Nat.add_mul,e1,e2]
 omega
theorem XG(P Y H:Nat)(h:0<Y):(P * (Y * 2)+Y) * (2 * H)+0=2 * (P * (2 * H * Y)+(Y - 1) * H+H):=by
 obtain⟨Z,rfl⟩:∃ Z,Y=Z+1:=⟨Y - 1,by omega⟩
 have e1:P * ((Z+1) * 2) * (2 * H)=2 * (P * (2 * H * (Z+1))):=by ac_rfl
 have e2:(Z+1) * (2 * H)=2 * (Z * H+H):=by rw[show Z * H+H=(Z+1) * H by rw[Nat.add_mul,Nat.one_mul]];ac_rfl
 rw[Nat.add_sub_cancel,Nat.add_mul,e1,e2]
 omega
theorem XH(P Y H Q:Nat)(h:0<Y)(hq:2 * Q=H):P * (2 * H * (Y * 2))+(Y * 2 - 1) * H=2 * (P * (2 * H * Y)+(Y - 1) * H+Q):=by
 obtain⟨Z,rfl⟩:∃ Z,Y=Z+1:=⟨Y - 1,by omega⟩
 rw[Nat.add_sub_cancel,show (Z+1) * 2 - 1=Z * 2+1 by omega,Nat.add_mul (Z * 2),Nat.one_mul,Nat.mul_add,Nat.mul_add,hq,Nat.add_assoc]
 congr 1
 ·ac_rfl
 ·congr 1
  ac_rfl
theorem XI(H w:Nat)(hH:H=2147483648):2 ^ (32+w)=2 * H * 2 ^ w:=by
 rw[Nat.pow_add,hH]
theorem Sj(s:dh)(hk:way s.l s.h≠0):iZ (aL s)=2 * (iZ s+eT (way s.l s.h))∧dD (aL s)=dD s+1:=by
 obtain⟨H,hH⟩:∃ H,H=2147483648:=⟨_,rfl⟩
 obtain⟨Q,hQ⟩:∃ Q,Q=1073741824:=⟨_,rfl⟩
 have hq:2 * Q=H:=by omega
 have h0:0<2 ^ s.w:=Nat.two_pow_pos _
 have hp:=XI H s.w hH
 have hp0:2 ^ (32+0)=2 * H:=by rw[XI H 0 hH,Nat.pow_zero,Nat.mul_one]
 have hp1:2 ^ (32+(s.w+1))=2 * H * (2 ^ s.w * 2):=by rw[XI H _ hH,Nat.pow_succ]
 have o2:eT 2=H:=by rw[hH];rfl
 have o3:eT 3=Q:=by rw[hQ];rfl
 have o1:eT 1=0:=rfl
 have hA:iZ s=fI s.o * (2 * H * 2 ^ s.w)+(2 ^ s.w - 1) * H:=by unfold iZ;rw[hp,hH]
 have hT:dD s=s.o.length+s.w:=rfl
 rw[hA,hT]
 rcases q22 s.l s.h with⟨e,_⟩|⟨e,_⟩|⟨e,_⟩|⟨e,_⟩
 ·have e1:(aL s).o=s.o ++ false :: List.replicate s.w true:=by unfold aL;rw[e];rfl
  have e2:(aL s).w=0:=by unfold aL;rw[e];rfl
  have hA':iZ (aL s)=fI (s.o ++ false :: List.replicate s.w true) * 2 ^ (32+0)+0:=by unfold iZ;rw[e1,e2,Nat.pow_zero,Nat.sub_self,Nat.zero_mul]
  have h1:=qdp s.w
  refine⟨?_,?_⟩
  ·rw[hA',e,o1,XD,SG,hp0,List.length_cons,List.length_replicate,Bool.toNat_false,Nat.zero_mul,Nat.zero_add,Nat.pow_succ]
   exact XF _ _ _ _ h1
  ·unfold dD
   rw[e1,e2,List.length_append,List.length_cons,List.length_replicate]
   omega
 ·have e1:(aL s).o=s.o ++ true :: List.replicate s.w false:=by unfold aL;rw[e];rfl
  have e2:(aL s).w=0:=by unfold aL;rw[e];rfl
  have hA':iZ (aL s)=fI (s.o ++ true :: List.replicate s.w false) * 2 ^ (32+0)+0:=by unfold iZ;rw[e1,e2,Nat.pow_zero,Nat.sub_self,Nat.zero_mul]
  refine⟨?_,?_⟩
  ·rw[hA',e,o2,XD,SG,qaf,hp0,List.length_cons,List.length_replicate,Bool.toNat_true,Nat.one_mul,Nat.add_zero,Nat.pow_succ]
   exact XG _ _ _ h0
  ·unfold dD
   rw[e1,e2,List.length_append,List.length_cons,List.length_replicate]
   omega
 ·have e1:(aL s).o=s.o:=by unfold aL;rw[e];rfl
  have e2:(aL s).w=s.w+1:=by unfold aL;rw[e];rfl
  have hA':iZ (aL s)=fI s.o * (2 * H * (2 ^ s.w * 2))+(2 ^ s.w * 2 - 1) * H:=by unfold iZ;rw[e1,e2,hp1,Nat.pow_succ,hH]
  refine⟨?_,?_⟩
  ·rw[hA',e,o3]
   exact XH _ _ _ _ h0 hq
  ·unfold dD
   rw[e1,e2]
   omega
 ·exact absurd e hk
def jc(F:List Bool)(s:dh):Prop:=iZ s+s.l≤iL F (32+dD s)∧iL F (32+dD s)≤iZ s+s.h
theorem jc.back{F:List Bool}{s:dh}(hlh:s.l≤s.h)(hk:way s.l s.h≠0)(h:jc F (aL s)):jc F s:=by
 obtain⟨h1,h2⟩:=h
 obtain⟨e1,e2⟩:=Sj s hk
 rw[e1,e2,← Nat.add_assoc,DI] at h1 h2
 have ho:=OL hlh
 have hb:(F.getD (32+dD s) false).toNat≤1:=by cases F.getD (32+dD s) false <;> simp
 have hl:(aL s).l=2 * (s.l - eT (way s.l s.h)):=rfl
 have hh:(aL s).h=2 * (s.h - eT (way s.l s.h))+1:=rfl
 rw[hl] at h1
 rw[hh] at h2
 unfold jc
 omega
def jm(l h:Nat)(c:Nat × Nat):Nat:=l+(h - l+1) * c.1 / (c.1+c.2) - 1
def Am(c:Nat × Nat):Prop:=1≤c.1∧1≤c.2∧c.1+c.2<65536
def oZ(l h:Nat):Prop:=l≤h∧h<4294967296∧way l h=0
def dW(c:Nat × Nat)(b:Bool)(s:dh):dh:=if b then { s with l:=jm s.l s.h c+1 } else { s with h:=jm s.l s.h c }
theorem oZ.wide{l h:Nat}(hn:oZ l h):1073741824<h - l+1:=by
 obtain⟨h1,h2,h3⟩:=hn
 rcases q22 l h with⟨e,_⟩|⟨e,_⟩|⟨e,_⟩|⟨_,a,b,c⟩ <;> omega
theorem OM{l h:Nat}{c:Nat × Nat}(hn:oZ l h)(hc:Am c):l≤jm l h c∧jm l h c+1≤h∧1≤(h - l+1) * c.1 / (c.1+c.2):=by
 have hw:=hn.wide
 obtain⟨c1,c2,c3⟩:=hc
 have h1:1≤(h - l+1) * c.1 / (c.1+c.2):=by
  rw[Nat.le_div_iff_mul_le (by omega),Nat.one_mul]
  calc c.1+c.2≤h - l+1:=by omega
   _=(h - l+1) * 1:=by omega
   _≤(h - l+1) * c.1:=Nat.mul_le_mul_left _ c1
 have h2:(h - l+1) * c.1 / (c.1+c.2)<h - l+1:=by
  rw[Nat.div_lt_iff_lt_mul (by omega)]
  exact Nat.mul_lt_mul_of_pos_left (by omega) (by omega)
 unfold jm
 have:=hn.1
 refine⟨by omega,by omega,h1⟩
theorem Sd{c:Nat × Nat}{b:Bool}{s:dh}(hn:oZ s.l s.h)(hc:Am c):(dW c b s).l≤(dW c b s).h∧(dW c b s).h<4294967296:=by
 have hm:=OM hn hc
 have:=hn.2.1
 unfold dW
 cases b
 ·exact⟨hm.1,by simp only [Bool.false_eq_true,if_false];omega⟩
 ·exact⟨hm.2.1,by simp only [if_true];omega⟩
theorem jc.FB{F:List Bool}{c:Nat × Nat}{b:Bool}{s:dh}(hn:oZ s.l s.h)(hc:Am c)(h:jc F (dW c b s)):jc F s∧b=decide (jm s.l s.h c<iL F (32+dD s) - iZ s):=by
 obtain⟨h1,h2⟩:=h
 have hm:=OM hn hc
 cases b
 ·have e1:iZ (dW c false s)=iZ s:=rfl
  have e2:dD (dW c false s)=dD s:=rfl
  have e3:(dW c false s).l=s.l:=rfl
  have e4:(dW c false s).h=jm s.l s.h c:=rfl
  rw[e1,e2] at h1 h2
  rw[e3] at h1
  rw[e4] at h2
  exact⟨⟨h1,by omega⟩,(decide_eq_false (by omega)).symm⟩
 ·have e1:iZ (dW c true s)=iZ s:=rfl
  have e2:dD (dW c true s)=dD s:=rfl
  have e3:(dW c true s).l=jm s.l s.h c+1:=rfl
  have e4:(dW c true s).h=s.h:=rfl
  rw[e1,e2] at h1 h2
  rw[e3] at h1
  rw[e4] at h2
  exact⟨⟨by omega,h2⟩,(decide_eq_true (by omega)).symm⟩
def eY:Nat→dh→dh
 | 0,s=>s
 | n+1,s=>if way s.l s.h=0 then s else eY n (aL s)
theorem Si{s:dh}(h1:s.l≤s.h)(h2:s.h<4294967296)(hk:way s.l s.h≠0):(aL s).l≤(aL s).h∧(aL s).h<4294967296∧(aL s).h - (aL s).l+1=2 * (s.h - s.l+1):=by
 have ho:=OL h1
 have hl:(aL s).l=2 * (s.l - eT (way s.l s.h)):=rfl
 have hh:(aL s).h=2 * (s.h - eT (way s.l s.h))+1:=rfl
 rw[hl,hh]
 refine⟨by omega,?_,by omega⟩
 rcases q22 s.l s.h with⟨e,a⟩|⟨e,a,b⟩|⟨e,a,b,c,d⟩|⟨e,_⟩
 ·omega
 ·rw[e];unfold eT;simp;omega
 ·rw[e];unfold eT;simp;omega
 ·exact absurd e hk
theorem qki:∀ n s,s.l≤s.h→s.h<4294967296→4294967296<(s.h - s.l+1) * 2 ^ n→oZ (eY n s).l (eY n s).h:=by
 intro n
 induction n with
 | zero=>intro s h1 h2 h3;rw[Nat.pow_zero,Nat.mul_one] at h3;omega
 | succ n ih =>
  intro s h1 h2 h3
  unfold eY
  by_cases hk:way s.l s.h=0
  ·rw[if_pos hk];exact⟨h1,h2,hk⟩
  ·rw[if_neg hk]
   obtain⟨a,b,c⟩:=Si h1 h2 hk
   refine ih _ a b ?_
   rw[c,Nat.mul_comm 2,Nat.mul_assoc,← Nat.pow_succ']
   exact h3
theorem jc.Ar{F:List Bool}:∀ n (s:dh),s.l≤s.h→s.h<4294967296→jc F (eY n s)→jc F s:=by
 intro n
 induction n with
 | zero=>intro s _ _ h;exact h
 | succ n ih =>
  intro s h1 h2 h
  unfold eY at h
  by_cases hk:way s.l s.h=0
  ·rw[if_pos hk] at h;exact h
  ·rw[if_neg hk] at h
   obtain⟨a,b,_⟩:=Si h1 h2 hk
   exact (ih _ a b h).back h1 hk
def xP(c:Nat × Nat)(b:Bool):Nat × Nat :=
 let d:=if b then (c.1,c.2+1) else (c.1+1,c.2)
 if d.1+d.2=65536 then ((d.1+1) / 2,(d.2+1) / 2) else d
theorem qob{c:Nat × Nat}(h:Am c)(b:Bool):Am (xP c b):=by
 obtain⟨h1,h2,h3⟩:=h
 unfold xP Am
 cases b
 ·simp only [Bool.false_eq_true,if_false]
  by_cases e:c.1+1+c.2=65536
  ·rw[if_pos e];simp only;omega
  ·rw[if_neg e];simp only;omega
 ·simp only [if_true]
  by_cases e:c.1+(c.2+1)=65536
  ·rw[if_pos e];simp only;omega
  ·rw[if_neg e];simp only;omega
structure CM where
 cs:List (Nat × Nat)
 now:Nat
def CM.cur(m:CM):Nat × Nat:=m.cs.getD m.now (1,1)
def CM.see(m:CM)(b:Bool):CM:=⟨m.cs.set m.now (xP m.cur b),(2 * m.now+b.toNat) % m.cs.length⟩
def CM.new(N:Nat):CM:=⟨List.replicate N (1,1),0⟩
structure CM.Ok (m:CM)(N:Nat):Prop where
 len:m.cs.length=N
 ok:∀ c ∈ m.cs,Am c
 lt:m.now<N
theorem CM.Ok.cur{m:CM}{N:Nat}(h:m.Ok N):Am m.cur∧m.cs[m.now]? = some m.cur:=by
 have h1:=List.getElem?_eq_getElem (l:=m.cs) (i:=m.now) (by rw[h.len];exact h.lt)
 have h2:m.cur=m.cs[m.now]'(by rw[h.len];exact h.lt):=by unfold CM.cur;rw[List.getD_eq_getElem?_getD,h1];rfl
 rw[h2]
 exact⟨h.ok _ (List.getElem_mem _),h1⟩
theorem CM.Ok.see{m:CM}{N:Nat}(h:m.Ok N)(b:Bool):(m.see b).Ok N:=by
 refine⟨by simp[CM.see,h.len],fun c hc=>?_,?_⟩
 ·rcases List.mem_or_eq_of_mem_set hc with hc|rfl
  ·exact h.ok c hc
  ·exact qob h.cur.1 b
 ·show (2 * m.now+b.toNat) % m.cs.length<N
  rw[h.len]
  exact Nat.mod_lt _ (by have:=h.lt;omega)
theorem CM.uU{N:Nat}(h:0<N):(CM.new N).Ok N :=
 ⟨by simp[CM.new],fun c hc=>by rw[List.eq_of_mem_replicate hc];exact⟨by decide,by decide,by decide⟩,h⟩
def wm(x:CM × dh)(b:Bool):CM × dh:=(x.1.see b,eY 33 (dW x.1.cur b x.2))
def encS(k:Nat)(l:List Bool):CM × dh:=l.foldl wm (CM.new (2 ^ k),⟨0,4294967295,0,[]⟩)
def tQ(s:dh):List Bool:=if s.l<1073741824 then s.o ++ false :: List.replicate (s.w+1) true else s.o ++ true :: List.replicate (s.w+1) false
def fU(k:Nat)(l:List Bool):List Bool:=tQ (encS k l).2
theorem XJ{N:Nat}{x:CM × dh}(h1:x.1.Ok N)(h2:oZ x.2.l x.2.h)(b:Bool):(wm x b).1.Ok N∧oZ (wm x b).2.l (wm x b).2.h:=by
 obtain⟨a,c⟩:=Sd (b:=b) h2 h1.cur.1
 refine⟨h1.see b,qki 33 _ a c ?_⟩
 calc 4294967296<1 * 2 ^ 33:=by decide
  _≤_:=Nat.mul_le_mul_right _ (by omega)
theorem Xu:oZ 0 4294967295:=⟨by decide,by decide,by decide⟩
theorem qoc(k:Nat)(l:List Bool):(encS k l).1.Ok (2 ^ k)∧oZ (encS k l).2.l (encS k l).2.h:=by
 refine SF (P:=fun l=>(encS k l).1.Ok (2 ^ k)∧oZ (encS k l).2.l (encS k l).2.h) ⟨CM.uU (Nat.two_pow_pos k),Xu⟩ (fun l b ih=>?_) l
 unfold encS at ih ⊢
 rw[List.foldl_append]
 exact XJ ih.1 ih.2 b
theorem jc.fin{s:dh}(h:oZ s.l s.h):jc (tQ s) s:=by
 obtain⟨h1,h2,h3⟩:=h
 have h0:0<2 ^ s.w:=Nat.two_pow_pos _
 have hp:2 ^ (32+s.w)=4294967296 * 2 ^ s.w:=by rw[Nat.pow_add]
 rcases q22 s.l s.h with⟨e,_⟩|⟨e,_⟩|⟨e,_⟩|⟨_,a,b,c⟩
 ·omega
 ·omega
 ·omega
 ·have ht:32+dD s=s.o.length+(s.w+2+30):=by unfold dD;omega
  unfold jc tQ
  rw[ht]
  by_cases hq:s.l<1073741824
  ·rw[if_pos hq,XE]
   have h5:=qdr (false :: List.replicate (s.w+1) true) 30
   rw[List.length_cons,List.length_replicate] at h5
   rw[show s.w+2+30=s.w+1+1+30 by omega,h5,SG]
   have h6:=qdp (s.w+1)
   unfold iZ
   rw[show s.w+1+1+30=32+s.w by omega]
   generalize fI s.o * 2 ^ (32+s.w)=P at *
   rw[Nat.pow_succ] at h6
   generalize fI (List.replicate (s.w+1) true)=X at *
   generalize 2 ^ s.w=Y at *
   simp only [Bool.toNat_false,Nat.zero_mul,Nat.zero_add]
   omega
  ·rw[if_neg hq,XE]
   have h5:=qdr (true :: List.replicate (s.w+1) false) 30
   rw[List.length_cons,List.length_replicate] at h5
   rw[show s.w+2+30=s.w+1+1+30 by omega,h5,SG,qaf,List.length_replicate]
   unfold iZ
   rw[show s.w+1+1+30=32+s.w by omega,Nat.pow_succ]
   generalize fI s.o * 2 ^ (32+s.w)=P at *
   generalize 2 ^ s.w=Y at *
   simp only [Bool.toNat_true,Nat.one_mul,Nat.add_zero]
   omega
theorem jc.enc{N:Nat}:∀ (rest:List Bool) (x:CM × dh),x.1.Ok N→oZ x.2.l x.2.h→jc (tQ (rest.foldl wm x).2) x.2:=by
 intro rest
 induction rest with
 | nil=>intro x _ h2;exact jc.fin h2
 | cons b rest ih =>
  intro x h1 h2
  obtain⟨a,c⟩:=XJ h1 h2 b
  have h3:=ih (wm x b) a c
  obtain⟨d,e⟩:=Sd (b:=b) h2 h1.cur.1
  exact ((jc.Ar 33 _ d e h3).FB h2 h1.cur.1).1
structure DC where
 l:Nat
 h:Nat
 v:Nat
 a:Nat
def gF(F:List Bool)(d:DC):DC:=⟨2 * (d.l - eT (way d.l d.h)),2 * (d.h - eT (way d.l d.h))+1,2 * (d.v - eT (way d.l d.h))+(F.getD d.a false).toNat,d.a+1⟩
def gL(F:List Bool):Nat→DC→DC
 | 0,d=>d
 | n+1,d=>if way d.l d.h=0 then d else gL F n (gF F d)
def takeC(c:Nat × Nat)(b:Bool)(d:DC):DC:=if b then { d with l:=jm d.l d.h c+1 } else { d with h:=jm d.l d.h c }
def jG(x:CM × DC):Bool:=decide (jm x.2.l x.2.h x.1.cur<x.2.v)
def rD(F:List Bool)(x:CM × DC):CM × DC:=(x.1.see (jG x),gL F 33 (takeC x.1.cur (jG x) x.2))
def jk(F:List Bool):Nat→CM × DC→List Bool
 | 0,_=>[]
 | n+1,x=>jG x :: jk F n (rD F x)
def jT(k:Nat)(F:List Bool):CM × DC:=(CM.new (2 ^ k),⟨0,4294967295,iL F 32,32⟩)
def jP(k n:Nat)(F:List Bool):List Bool:=jk F n (jT k F)
def Au(F:List Bool)(s:dh)(d:DC):Prop:=d.l=s.l∧d.h=s.h∧d.a=32+dD s∧d.v+iZ s=iL F (32+dD s)
theorem Au.norm{F:List Bool}:∀ n (s:dh) (d:DC),s.l≤s.h→s.h<4294967296→jc F (eY n s)→Au F s d→Au F (eY n s) (gL F n d):=by
 intro n
 induction n with
 | zero=>intro s d _ _ _ h;exact h
 | succ n ih =>
  intro s d h1 h2 hI hR
  have hs:=jc.Ar (n+1) s h1 h2 hI
  obtain⟨r1,r2,r3,r4⟩:=hR
  unfold eY at hI ⊢
  unfold gL
  rw[r1,r2]
  by_cases hk:way s.l s.h=0
  ·rw[if_pos hk,if_pos hk];exact⟨r1,r2,r3,r4⟩
  ·rw[if_neg hk] at hI
   rw[if_neg hk,if_neg hk]
   obtain⟨a,b,_⟩:=Si h1 h2 hk
   refine ih _ _ a b hI ?_
   obtain⟨e1,e2⟩:=Sj s hk
   have ho:=OL h1
   have hv:s.l≤d.v:=by have:=hs.1;omega
   refine⟨?_,?_,?_,?_⟩
   ·show 2 * (d.l - eT (way d.l d.h))=_;rw[r1,r2];rfl
   ·show 2 * (d.h - eT (way d.l d.h))+1=_;rw[r1,r2];rfl
   ·show d.a+1=_;rw[e2,r3];omega
   ·show 2 * (d.v - eT (way d.l d.h))+(F.getD d.a false).toNat+iZ (aL s)=_
    rw[e1,e2,← Nat.add_assoc,DI,← r4,r1,r2,r3]
    omega
theorem qmj{N:Nat}{F:List Bool}:∀ (rest:List Bool) (x:CM × dh) (d:DC),x.1.Ok N→oZ x.2.l x.2.h→F=tQ (rest.foldl wm x).2→Au F x.2 d→jk F rest.length (x.1,d)=rest:=by
 intro rest
 induction rest with
 | nil=>intro x d _ _ _ _;rfl
 | cons b rest ih =>
  intro x d h1 h2 hF hR
  obtain⟨a,c⟩:=XJ h1 h2 b
  have h3:jc F (wm x b).2:=by rw[hF];exact jc.enc rest (wm x b) a c
  obtain⟨p,q⟩:=Sd (b:=b) h2 h1.cur.1
  have h4:=jc.Ar 33 _ p q h3
  have h5:=h4.FB h2 h1.cur.1
  have h6:=h5.1
  obtain⟨r1,r2,r3,r4⟩:=id hR
  have hb:jG (x.1,d)=b:=by
   unfold jG
   rw[h5.2]
   simp only
   rw[r1,r2,← r4,Nat.add_sub_cancel]
  show jG (x.1,d) :: jk F rest.length (rD F (x.1,d))=b :: rest
  rw[hb]
  congr 1
  have h7:rD F (x.1,d)=(x.1.see b,gL F 33 (takeC x.1.cur b d)):=by unfold rD;rw[hb]
  rw[h7]
  refine ih (wm x b) _ a c hF (Au.norm 33 _ _ p q h3 ?_)
  unfold takeC dW
  cases b
  ·exact⟨r1,by simp only [Bool.false_eq_true,if_false];rw[r1,r2],r3,r4⟩
  ·exact⟨by simp only [if_true];rw[r1,r2],r2,r3,r4⟩
theorem qkj(k:Nat)(l:List Bool):jP k l.length (fU k l)=l:=by
 unfold jP jT
 refine qmj (N:=2 ^ k) l (CM.new (2 ^ k),⟨0,4294967295,0,[]⟩) _ (CM.uU (Nat.two_pow_pos k)) Xu rfl ⟨rfl,rfl,rfl,?_⟩
 simp[iZ,dD,fI]
end
section
def jf(x:Nat):List Nat:=if x<128 then [x] else (x % 128+128) :: jf (x / 128)
termination_by x
decreasing_by omega
theorem yK{x:Nat}(h:x<128):jf x=[x]:=by unfold jf;rw[if_pos h]
theorem IV{x:Nat}(h:¬ x<128):jf x=(x % 128+128) :: jf (x / 128):=by rw[jf];rw[if_neg h]
theorem SH(x:Nat):∀ b ∈ jf x,b<256:=by
 induction x using Nat.strongRecOn with
 | ind x ih =>
  intro b hb
  by_cases h:x<128
  ·rw[yK h] at hb;simp at hb;omega
  ·rw[IV h] at hb
   rcases List.mem_cons.1 hb with rfl|hb
   ·omega
   ·exact ih (x / 128) (by omega) b hb
theorem qkk(x:Nat):0<(jf x).length:=by
 by_cases h:x<128
 ·rw[yK h];simp
 ·rw[IV h];simp
theorem qmk{x:Nat}(h:x<2097152):(jf x).length≤3:=by
 by_cases h1:x<128
 ·rw[yK h1];simp
 ·rw[IV h1]
  by_cases h2:x / 128<128
  ·rw[yK h2];simp
  ·rw[IV h2,yK (by omega)];simp
theorem qod:∀ (k x:Nat),x<128 ^ (k+1)→(jf x).length≤k+1:=by
 intro k
 induction k with
 | zero=>intro x h;rw[yK (by omega)];simp
 | succ k ih =>
  intro x h
  by_cases h1:x<128
  ·rw[yK h1];simp
  ·rw[IV h1,List.length_cons]
   have:=ih (x / 128) (by rw[Nat.pow_succ] at h;omega)
   omega
theorem xU{x:Nat}(h:x<18446744073709551616):(jf x).length≤10:=qod 9 x (Nat.lt_of_lt_of_le h (by decide))
def jo:List Nat→Nat→Nat→Option (Nat × Nat)
 | [],_,_=>none
 | b :: p,i,acc =>
  if 64≤7 * i∨18446744073709551616≤b % 128 * 2 ^ (7 * i)∨(b=0∧0<i) then none
  else if b<128 then some (acc+b % 128 * 2 ^ (7 * i),i+1) else jo p (i+1) (acc+b % 128 * 2 ^ (7 * i))
theorem qml:∀ (x:Nat) (rest:List Nat) (i acc:Nat),x * 2 ^ (7 * i)<18446744073709551616→(0<i→0<x)→jo (jf x ++ rest) i acc=some (acc+x * 2 ^ (7 * i),i+(jf x).length):=by
 intro x
 induction x using Nat.strongRecOn with
 | ind x ih =>
  intro rest i acc hx hi
  have h64:0<x→7 * i<64:=by
   intro h0
   apply Classical.byContradiction
   intro hn
   have h1:2 ^ 64≤2 ^ (7 * i):=Nat.pow_le_pow_right (by omega) (by omega)
   have h2:2 ^ (7 * i)≤x * 2 ^ (7 * i):=Nat.le_mul_of_pos_left _ h0
   have h3:(2:Nat) ^ 64=18446744073709551616:=by decide
   omega
  have hp:0<2 ^ (7 * i):=Nat.two_pow_pos _
  by_cases h:x<128
  ·rw[yK h]
   have hm:x % 128=x:=Nat.mod_eq_of_lt h
   show (if 64≤7 * i∨18446744073709551616≤x % 128 * 2 ^ (7 * i)∨(x=0∧0<i) then none else if x<128 then some (acc+x % 128 * 2 ^ (7 * i),i+1) else jo rest (i+1) (acc+x % 128 * 2 ^ (7 * i)))=_
   have hc:¬ (64≤7 * i∨18446744073709551616≤x % 128 * 2 ^ (7 * i)∨(x=0∧0<i)):=by
    rw[hm]
    rintro (h1|h1|⟨h1,h2⟩)
    ·rcases Nat.eq_zero_or_pos i with e|e
     ·omega
     ·have:=h64 (hi e);omega
    ·omega
    ·have:=hi h2;omega
   rw[if_neg hc,if_pos h,hm]
   rfl
  ·rw[IV h]
   have h0:0<x:=by omega
   have hsum:x=x % 128+128 * (x / 128):=by omega
   have hle:x % 128 * 2 ^ (7 * i)≤x * 2 ^ (7 * i):=Nat.mul_le_mul_right _ (Nat.mod_le _ _)
   have hb:(x % 128+128) % 128=x % 128:=by omega
   show (if 64≤7 * i∨18446744073709551616≤(x % 128+128) % 128 * 2 ^ (7 * i)∨(x % 128+128=0∧0<i) then none else if x % 128+128<128 then some (acc+(x % 128+128) % 128 * 2 ^ (7 * i),i+1) else jo (jf (x / 128) ++ rest) (i+1) (acc+(x % 128+128) % 128 * 2 ^ (7 * i)))=_
   have hc:¬ (64≤7 * i∨18446744073709551616≤(x % 128+128) % 128 * 2 ^ (7 * i)∨(x % 128+128=0∧0<i)):=by
    rw[hb]
    rintro (h1|h1|⟨h1,h2⟩)
    ·have:=h64 h0;omega
    ·omega
    ·omega
   rw[if_neg hc,if_neg (by omega),hb]
   have rF:2 ^ (7 * (i+1))=128 * 2 ^ (7 * i):=by rw[Nat.mul_add,Nat.pow_add,Nat.mul_comm]
   have hdiv:x / 128 * 2 ^ (7 * (i+1))=128 * (x / 128) * 2 ^ (7 * i):=by rw[rF,← Nat.mul_assoc,Nat.mul_comm (x / 128) 128]
   have hle2:128 * (x / 128) * 2 ^ (7 * i)≤x * 2 ^ (7 * i):=Nat.mul_le_mul_right _ (by omega)
   rw[ih (x / 128) (by omega) rest (i+1) _ (by rw[hdiv];omega) (fun _=>by omega),hdiv,List.length_cons]
   have:x * 2 ^ (7 * i)=x % 128 * 2 ^ (7 * i)+128 * (x / 128) * 2 ^ (7 * i):=by rw[← Nat.add_mul,← hsum]
   rw[this]
   congr 2 <;> omega
def oK(l:List Bool):Nat:=(List.range 8).foldr (fun i a=>(l.getD i false).toNat+2 * a) 0
def bI(l:List Bool):List Nat:=(List.range ((l.length+7) / 8)).map fun j=>oK (l.drop (8 * j))
theorem uS(l:List Bool):(bI l).length=(l.length+7) / 8:=by simp[bI]
theorem qkl(l:List Bool):oK l<256:=by
 have h:∀ i,(l.getD i false).toNat≤1:=fun i=>by cases l.getD i false <;> simp
 have:=h 0;have:=h 1;have:=h 2;have:=h 3;have:=h 4;have:=h 5;have:=h 6;have:=h 7
 show (l.getD 0 false).toNat+2 * ((l.getD 1 false).toNat+2 * ((l.getD 2 false).toNat+2 * ((l.getD 3 false).toNat+2 * ((l.getD 4 false).toNat+2 * ((l.getD 5 false).toNat+2 * ((l.getD 6 false).toNat+2 * ((l.getD 7 false).toNat+2 * 0)))))))<256
 omega
theorem qgj(l:List Bool){i:Nat}(hi:i<8):oK l / 2 ^ i % 2=(l.getD i false).toNat:=by
 have h:∀ i,(l.getD i false).toNat≤1:=fun i=>by cases l.getD i false <;> simp
 have:=h 0;have:=h 1;have:=h 2;have:=h 3;have:=h 4;have:=h 5;have:=h 6;have:=h 7
 show ((l.getD 0 false).toNat+2 * ((l.getD 1 false).toNat+2 * ((l.getD 2 false).toNat+2 * ((l.getD 3 false).toNat+2 * ((l.getD 4 false).toNat+2 * ((l.getD 5 false).toNat+2 * ((l.getD 6 false).toNat+2 * ((l.getD 7 false).toNat+2 * 0)))))))) / 2 ^ i % 2=_
 match i,hi with
 | 0,_=>simp only [Nat.pow_zero];omega
 | 1,_=>simp only [show 2 ^ 1=2 from rfl];omega
 | 2,_=>simp only [show 2 ^ 2=4 from rfl];omega
 | 3,_=>simp only [show 2 ^ 3=8 from rfl];omega
 | 4,_=>simp only [show 2 ^ 4=16 from rfl];omega
 | 5,_=>simp only [show 2 ^ 5=32 from rfl];omega
 | 6,_=>simp only [show 2 ^ 6=64 from rfl];omega
 | 7,_=>simp only [show 2 ^ 7=128 from rfl];omega
theorem SI(l:List Bool):∀ b ∈ bI l,b<256:=fun b hb=>by
 obtain⟨j,_,rfl⟩:=List.mem_map.1 hb
 exact qkl _
theorem qmm(l:List Bool){i:Nat}(hi:i<8 * (bI l).length):(bI l).getD (i / 8) 0 / 2 ^ (i % 8) % 2=(l.getD i false).toNat:=by
 have h8:i / 8<(l.length+7) / 8:=by rw[uS] at hi;omega
 have hg:(bI l).getD (i / 8) 0=oK (l.drop (8 * (i / 8))):=by
  unfold bI
  rw[List.getD_eq_getElem?_getD,List.getElem?_map,List.getElem?_range h8]
  rfl
 rw[hg,qgj _ (Nat.mod_lt _ (by omega))]
 congr 1
 rw[List.getD_eq_getElem?_getD,List.getD_eq_getElem?_getD,List.getElem?_drop]
 congr 2
 omega
end
section
def rV(l:List Bool)(k:Nat):List Nat:=(k+1) :: (jf (fU k l).length ++ bI (fU k l))
def pO(plain:Bool)(l:List Bool)(best:List Nat)(k:Nat):List Nat:=if plain=false∧(rV l k).length<best.length then rV l k else best
def bE(plain:Bool)(l:List Bool):List Nat:=(List.range 9).foldl (pO plain l) (0 :: bI l)
theorem qkm{l:List Bool}{k:Nat}(hk:k<9):∀ b ∈ rV l k,b<256:=by
 intro b hb
 rcases List.mem_cons.1 hb with rfl|hb
 ·omega
 ·rcases List.mem_append.1 hb with hb|hb
  ·exact SH _ b hb
  ·exact SI _ b hb
theorem q9b(plain:Bool)(l:List Bool):∀ j,j≤9→(List.range j).foldl (pO plain l) (0 :: bI l)=0 :: bI l∨(plain=false∧∃ k,k<9∧(List.range j).foldl (pO plain l) (0 :: bI l)=rV l k):=by
 intro j
 induction j with
 | zero=>intro _;exact .inl rfl
 | succ j ih =>
  intro hj
  rw[List.range_succ,List.foldl_append]
  show pO plain l ((List.range j).foldl (pO plain l) (0 :: bI l)) j=_∨_
  have ih:=ih (by omega)
  generalize (List.range j).foldl (pO plain l) (0 :: bI l)=best at *
  show pO plain l best j=0 :: bI l∨(plain=false∧∃ k,k<9∧pO plain l best j=rV l k)
  unfold pO
  split
  ·next h=>exact .inr ⟨h.1,j,by omega,rfl⟩
  ·exact ih
theorem XK(plain:Bool)(l:List Bool):∀ b ∈ bE plain l,b<256:=by
 intro b hb
 rcases q9b plain l 9 (Nat.le_refl _) with h|⟨_,k,hk,h⟩
 ·unfold bE at hb
  rw[h] at hb
  rcases List.mem_cons.1 hb with rfl|hb
  ·omega
  ·exact SI _ b hb
 ·unfold bE at hb
  rw[h] at hb
  exact qkm hk b hb
theorem qdt(plain:Bool)(l:List Bool):∀ j,((List.range j).foldl (pO plain l) (0 :: bI l)).length≤(bI l).length+1:=by
 intro j
 induction j with
 | zero=>simp
 | succ j ih =>
  rw[List.range_succ,List.foldl_append]
  show (pO plain l ((List.range j).foldl (pO plain l) (0 :: bI l)) j).length≤_
  generalize (List.range j).foldl (pO plain l) (0 :: bI l)=best at *
  unfold pO
  split
  ·next h=>omega
  ·exact ih
theorem qkn:∀ n (s:dh),dD (eY n s)≤dD s+n:=by
 intro n
 induction n with
 | zero=>intro s;exact Nat.le_refl _
 | succ n ih =>
  intro s
  unfold eY
  split
  ·omega
  ·next hk =>
   have h1:=ih (aL s)
   have h2:=(Sj s hk).2
   omega
theorem qgk(k:Nat)(l:List Bool):dD (encS k l).2≤33 * l.length:=by
 refine SF (P:=fun l=>dD (encS k l).2≤33 * l.length) (by simp[encS,dD]) (fun l b ih=>?_) l
 unfold encS at ih ⊢
 rw[List.foldl_append]
 show dD (wm (List.foldl wm _ l) b).2≤_
 generalize List.foldl wm (CM.new (2 ^ k),(⟨0,4294967295,0,[]⟩:dh)) l=x at *
 have h1:=qkn 33 (dW x.1.cur b x.2)
 have h2:dD (dW x.1.cur b x.2)=dD x.2:=by cases b <;> rfl
 rw[List.length_append,List.length_singleton]
 show dD (eY 33 (dW x.1.cur b x.2))≤_
 omega
theorem Sm(k:Nat)(l:List Bool):(fU k l).length≤33 * l.length+2:=by
 have h:=qgk k l
 unfold fU tQ
 unfold dD at h
 split <;> (simp only [List.length_append,List.length_cons,List.length_replicate];omega)
end
section
def ug(cs:List Nat)(i:Nat):Bool:=cs.getD (i / 8) 0 / 2 ^ (i % 8) % 2 == 1
def uT(cs:List Nat)(n:Nat):List Bool:=(List.range n).map (ug cs)
def rC(cs:List Nat)(n:Nat):Prop:=n≤8 * cs.length∧8 * cs.length<n+8
def ko(cs:List Nat)(n:Nat):Prop:=∀ i,n≤i→i<8 * cs.length→ug cs i=false
instance (cs:List Nat) (n:Nat):Decidable (rC cs n):=by unfold rC;infer_instance
noncomputable instance (cs:List Nat) (n:Nat):Decidable (ko cs n):=Classical.propDecidable _
noncomputable def wu(cs:List Nat)(n:Nat):Nat:=if rC cs n then (if ko cs n then 0 else 3) else 1
theorem qag(cs:List Nat)(n:Nat):(uT cs n).length=n:=by simp[uT]
theorem qmn(cs:List Nat)(n:Nat):uT cs (n+1)=uT cs n ++ [ug cs n]:=by simp[uT,List.range_succ]
theorem q7q(l:List Bool)(i:Nat):ug (bI l) i=l.getD i false:=by
 unfold ug
 by_cases h:i<8 * (bI l).length
 ·rw[qmm l h]
  cases l.getD i false <;> rfl
 ·have h1:(bI l).length≤i / 8:=by omega
  have h2:l.length≤i:=by rw[uS] at h;omega
  rw[List.getD_eq_getElem?_getD,List.getElem?_eq_none h1,List.getD_eq_getElem?_getD,List.getElem?_eq_none h2]
  simp
theorem qgl(l:List Bool):uT (bI l) l.length=l:=by
 apply List.ext_getElem?
 intro i
 unfold uT
 rw[List.getElem?_map]
 rcases Nat.lt_or_ge i l.length with h|h
 ·rw[List.getElem?_range h,List.getElem?_eq_getElem h]
  simp only [Option.map_some]
  rw[q7q,List.getD_eq_getElem?_getD,List.getElem?_eq_getElem h]
  rfl
 ·rw[List.getElem?_eq_none h,List.getElem?_eq_none (by simpa using h)]
  rfl
theorem qko(l:List Bool):rC (bI l) l.length:=by unfold rC;rw[uS];omega
theorem qah(l:List Bool):ko (bI l) l.length:=fun i h1 _=>by
 rw[q7q,List.getD_eq_getElem?_getD,List.getElem?_eq_none h1];rfl
theorem qmo(l:List Bool):wu (bI l) l.length=0:=by unfold wu;rw[if_pos (qko l),if_pos (qah l)]
noncomputable def gG(cs:List Nat)(n:Nat):Option (List Bool) :=
 if 134217728<n∨cs.length<(n+7) / 8 then none else if ko (cs.take ((n+7) / 8)) n then some (uT (cs.take ((n+7) / 8)) n) else none
theorem qdu(l:List Bool)(rest:List Nat)(hl:l.length≤134217728):gG (bI l ++ rest) l.length=some l:=by
 have e:(bI l ++ rest).take ((l.length+7) / 8)=bI l:=by
  rw[← uS,List.take_left]
 unfold gG
 rw[e,if_neg,if_pos (qah l),qgl]
 rintro (h|h)
 ·omega
 ·rw[List.length_append,uS] at h;omega
theorem qkp(x:Nat)(rest:List Nat)(hx:x<18446744073709551616):jo (jf x ++ rest) 0 0=some (x,(jf x).length):=by
 have:=qml x rest 0 0 (by simpa using hx) (by omega)
 simpa using this
theorem qdv:∀ (cs:List Nat) (i acc x u:Nat),jo cs i acc=some (x,u)→acc<2 ^ (7 * i)→acc<18446744073709551616→x<18446744073709551616∧i≤u∧u≤i+cs.length:=by
 intro cs
 induction cs with
 | nil=>intro i acc x u h;cases h
 | cons b cs ih =>
  intro i acc x u h h1 h2
  have hc:jo (b :: cs) i acc=if 64≤7 * i∨18446744073709551616≤b % 128 * 2 ^ (7 * i)∨(b=0∧0<i) then none
   else if b<128 then some (acc+b % 128 * 2 ^ (7 * i),i+1) else jo cs (i+1) (acc+b % 128 * 2 ^ (7 * i)):=rfl
  rw[hc] at h
  split at h
  ·cases h
  ·next hn =>
   have hA:acc+b % 128 * 2 ^ (7 * i)<18446744073709551616:=by
    have h3:acc+b % 128 * 2 ^ (7 * i)=acc ||| b % 128 * 2 ^ (7 * i):=by
     have:=Nat.two_pow_add_eq_or_of_lt h1 (b % 128)
     rw[Nat.mul_comm] at this
     rw[Nat.add_comm,this,Nat.or_comm]
    rw[h3]
    exact Nat.or_lt_two_pow (n:=64) h2 (by omega)
   have hB:acc+b % 128 * 2 ^ (7 * i)<2 ^ (7 * (i+1)):=by
    have h3:b % 128 * 2 ^ (7 * i)≤127 * 2 ^ (7 * i):=Nat.mul_le_mul_right _ (by omega)
    rw[Nat.mul_add,Nat.pow_add]
    omega
   split at h
   ·cases h
    exact⟨hA,by omega,by simp⟩
   ·have:=ih (i+1) _ x u h hB hA
    rw[List.length_cons]
    omega
theorem qkq{cs:List Nat}{x u:Nat}(h:jo cs 0 0=some (x,u)):x<18446744073709551616∧u≤cs.length:=by
 have:=qdv cs 0 0 x u h (by decide) (by decide)
 omega
noncomputable def dz(c0:Nat)(cs:List Nat)(n:Nat):Option (List Bool) :=
 if c0=0 then gG cs n else
  match jo cs 0 0 with
  | none=>none
  | some (sz,u) =>
   match gG (cs.drop u) sz with
   | none=>none
   | some F=>if fU (c0 - 1) (jP (c0 - 1) n F)=F then some (jP (c0 - 1) n F) else none
noncomputable def nC(cs:List Nat)(n:Nat)(plain:Bool):Option (List Bool × Nat) :=
 match cs with
 | []=>none
 | c0 :: tl =>
  if 9<c0∨(plain=true∧0<c0) then none else
   match dz c0 tl n with
   | none=>none
   | some v=>if cs.take (bE plain v).length=bE plain v then some (v,(bE plain v).length) else none
theorem qai(plain:Bool)(l:List Bool):bE plain l=0 :: bI l∨(plain=false∧∃ k,k<9∧bE plain l=rV l k):=q9b plain l 9 (Nat.le_refl _)
theorem qkr(plain:Bool)(l:List Bool):0<(bE plain l).length:=by
 rcases qai plain l with h|⟨_,k,_,h⟩ <;> (rw[h];simp[rV])
theorem qfc(plain:Bool)(l:List Bool)(rest:List Nat)(hl:l.length≤1000000):nC (bE plain l ++ rest) l.length plain=some (l,(bE plain l).length):=by
 have ht:(bE plain l ++ rest).take (bE plain l).length=bE plain l:=List.take_left
 rcases qai plain l with h|⟨hp,k,hk,h⟩
 ·generalize hP:bE plain l=P at *
  subst h
  unfold nC
  simp only [List.cons_append]
  rw[if_neg (by omega)]
  have:dz 0 (bI l ++ rest) l.length=some l:=by unfold dz;rw[if_pos rfl,qdu l rest (by omega)]
  rw[this]
  simp only
  rw[hP]
  exact if_pos ht
 ·have hlen:(fU k l).length≤134217728:=by have:=Sm k l;omega
  have hrd:dz (k+1) (jf (fU k l).length ++ bI (fU k l) ++ rest) l.length=some l:=by
   unfold dz
   rw[if_neg (by omega),List.append_assoc,qkp _ _ (by omega)]
   simp only
   rw[List.drop_left,qdu _ _ hlen]
   simp only
   rw[show k+1 - 1=k from rfl,qkj,if_pos rfl]
  generalize hP:bE plain l=P at *
  subst h
  unfold nC rV
  simp only [List.cons_append]
  rw[if_neg (by rw[hp];simp;omega),hrd]
  simp only
  rw[hP]
  exact if_pos ht
end
section
open Go.RowKit
def cB(W:World)(b:Nat)(t:TypeId)(l h:Nat)(xs:List Value):Prop:=W.heap[b]? = some (.cells ⟨.int .u64 l :: .int .u64 h :: xs⟩ t (0,0))
theorem cB.c0{W:World}{b:Nat}{t:TypeId}{l h:Nat}{xs:List Value}(k:cB W b t l h xs):W.cell? ⟨b,0,none⟩=some (.int .u64 l):=by
 have:=ak k 0;simpa using this
theorem cB.c1{W:World}{b:Nat}{t:TypeId}{l h:Nat}{xs:List Value}(k:cB W b t l h xs):W.cell? ⟨b,1,none⟩=some (.int .u64 h):=by
 have:=ak k 1;simpa using this
theorem cB.low{W:World}{b:Nat}{t:TypeId}{l h:Nat}{xs:List Value}(k:cB W b t l h xs)(z:Nat):cB (W.setCell ⟨b,0,none⟩ (.int .u64 (z:Int))) b t z h xs:=by
 have:=dM k 0 (.int .u64 (z:Int));simpa [cB] using this
theorem cB.high{W:World}{b:Nat}{t:TypeId}{l h:Nat}{xs:List Value}(k:cB W b t l h xs)(z:Nat):cB (W.setCell ⟨b,1,none⟩ (.int .u64 (z:Int))) b t l z xs:=by
 have:=dM k 1 (.int .u64 (z:Int));simpa [cB] using this
theorem cB.keeps{W W':World}{b:Nat}{t:TypeId}{l h:Nat}{xs:List Value}{G:Nat→Prop}(k:cB W b t l h xs)(hk:Keeps G W W')(hG:¬ G b):cB W' b t l h xs:=hk.at k hG
theorem q9c(b:Nat)(l h:Nat)(c:Nat × Nat)(t:TypeId)(xs:List Value)(w:World)(hS:cB w b t l h xs)(hn:oZ l h)(hc:Am c) :
  Calls Tryz.prog 239 #[.pointer (some ⟨b,0,none⟩),.agg #[.int .u64 c.1,.int .u64 c.2]] w fun e w'=>e=.returned (.int .u64 (jm l h c:Nat))∧Keeps (fun _=>False) w w':=by
 have hm:=OM hn hc
 have hmd:jm l h c=l+(h - l+1) * c.1 / (c.1+c.2) - 1:=rfl
 obtain⟨c1,c2⟩:=c
 obtain⟨k1,k2,k3⟩:=hc
 have hh:=hn.2.1
 have hlh:=hn.1
 simp only at *
 have ka:=(Keeps.refl (fun _=>False) w).alloc (.cells #[.int .u64 c1,.int .u64 c2] 270)
 have I5:=hS.keeps ka (fun h=>h)
 have d0:=I5.c0
 have d1:=I5.c1
 obtain⟨P,hP⟩:∃ P,P=(h - l+1) * c1:=⟨_,rfl⟩
 have hPb:P<281474976710656:=by
  rw[hP]
  calc (h - l+1) * c1≤4294967296 * c1:=Nat.mul_le_mul_right _ (by omega)
   _<4294967296 * 65536:=Nat.mul_lt_mul_of_pos_left (by omega) (by decide)
   _=281474976710656:=by decide
 obtain⟨Q,hQ⟩:∃ Q,Q=P / (c1+c2):=⟨_,rfl⟩
 rw[← hP,← hQ] at hmd
 rw[← hP,← hQ] at hm
 have eP:((h:Int) - (l:Int)+1) * (c1:Int)=(P:Int):=by rw[hP];push_cast;congr 1;omega
 have eQ:(P:Int) / ((c1:Int)+(c2:Int))=(Q:Int):=by rw[hQ];push_cast;rfl
 have h00:¬ (c1:Int)+(c2:Int)=0:=by omega
 have OY:Q≤4294967296:=by omega
 have HM:=ah (aj hmd ka)
 clear hS hn hP hQ hmd ka I5
 generalize jm l h (c1,c2)=M at *
 go_enter Tryz.func239,Tryz.ntmps239
 go_wp2_with fail
 go_quiet (fail)
 have HK:=ah (HM.out.2.drewN nq)
 go_wp2
 go_ret
 refine⟨?_,HK.out⟩
 show Ending.returned (.int .u64 ((l:Int)+(Q:Int) - 1))=_
 rw[HM.out.1]
 congr 2
 omega
theorem q7r(b:Nat)(l h:Nat)(c:Nat × Nat)(x:Bool)(t:TypeId)(xs:List Value)(w:World)(hS:cB w b t l h xs)(hn:oZ l h)(hc:Am c) :
  Calls Tryz.prog 199 #[.pointer (some ⟨b,0,none⟩),.agg #[.int .u64 c.1,.int .u64 c.2],.int .i64 (x.toNat:Int)] w fun e w'=>e=.returned (.tuple #[])∧cB w' b t (if x then jm l h c+1 else l) (if x then h else jm l h c) xs∧Keeps (fun k=>k=b) w w':=by
 have ka:=(Keeps.refl (fun _=>False) w).alloc (.cells #[.int .u64 c.1,.int .u64 c.2] 270)
 have I5:=hS.keeps ka (fun h=>h)
 have hM:=q9c b l h c t xs _ I5 hn hc
 have hm:=OM hn hc
 have hh:=hn.2.1
 have HK:=ah ka
 have HSA:=ah I5
 have hbl:b<w.heap.size:=lt_of_block hS
 clear hS hn ka I5
 generalize jm l h c=M at *
 obtain⟨c1,c2⟩:=c
 simp only at *
 clear hc
 go_enter Tryz.func199,Tryz.ntmps199
 go_wp2_with fail
 refine hM.mono ?_
 clear hM
 rintro e w1 ⟨rfl,hk1⟩
 have h1:=HSA.out.keeps hk1 (fun h=>h)
 have kk:Keeps (fun k=>k=b) w w1:=(HK.out.trans hk1 (fun _ _ h=>h)).mono (fun _ _ h=>h.elim)
 have c0:=h1.c0
 have c1':=h1.c1
 have f0:=au h1
 cases x
 ·have HF:Hid (cB (w1.setCell ⟨b,1,none⟩ (.int .u64 (M:Int))) b t l M xs∧Keeps (fun k=>k=b) w (w1.setCell ⟨b,1,none⟩ (.int .u64 (M:Int)))):=ah ⟨h1.high M,kk.setCell (p:=⟨b,1,none⟩) (.inl rfl) _⟩
  clear kk h1 hk1
  go_wp2_with fail
  go_end0
  exact⟨rfl,HF.out⟩
 ·have HF:Hid (cB (w1.setCell ⟨b,0,none⟩ (.int .u64 ((M+1:Nat):Int))) b t (M+1) h xs∧Keeps (fun k=>k=b) w (w1.setCell ⟨b,0,none⟩ (.int .u64 ((M+1:Nat):Int)))):=ah ⟨h1.low (M+1),kk.setCell (p:=⟨b,0,none⟩) (.inl rfl) _⟩
  clear kk h1 hk1
  have e1:((M+1:Nat):Int)=(M:Int)+1:=by omega
  rw[e1] at HF
  go_wp2_with fail
  go_end0
  exact⟨rfl,HF.out⟩
def dO(l h:Nat):Nat:=if way l h=0 then l else 2 * (l - eT (way l h))
def eO(l h:Nat):Nat:=if way l h=0 then h else 2 * (h - eT (way l h))+1
theorem OZ{l h:Nat}(e:way l h=1):dO l h=2 * (l - 0)∧eO l h=2 * (h - 0)+1:=by
 unfold dO eO
 rw[e,show eT 1=0 from rfl,if_neg (by decide),if_neg (by decide)]
 exact⟨rfl,rfl⟩
theorem O0{l h:Nat}(e:way l h=2):dO l h=2 * (l - 2147483648)∧eO l h=2 * (h - 2147483648)+1:=by
 unfold dO eO
 rw[e,show eT 2=2147483648 from rfl,if_neg (by decide),if_neg (by decide)]
 exact⟨rfl,rfl⟩
theorem O1{l h:Nat}(e:way l h=3):dO l h=2 * (l - 1073741824)∧eO l h=2 * (h - 1073741824)+1:=by
 unfold dO eO
 rw[e,show eT 3=1073741824 from rfl,if_neg (by decide),if_neg (by decide)]
 exact⟨rfl,rfl⟩
theorem q50(b:Nat)(l h:Nat)(t:TypeId)(xs:List Value)(w:World)(hS:cB w b t l h xs)(hlh:l≤h)(hh:h<4294967296) :
  Calls Tryz.prog 201 #[.pointer (some ⟨b,0,none⟩)] w fun e w'=>e=.returned (.int .i64 (way l h:Nat))∧cB w' b t (dO l h) (eO l h) xs∧Keeps (fun k=>k=b) w w':=by
 have c0:=hS.c0
 have c1:=hS.c1
 have f0:=au hS
 have hb:b<w.heap.size:=lt_of_block hS
 have hset:∀ (x y:Nat),cB ((w.setCell ⟨b,0,none⟩ (.int .u64 (x:Int))).setCell ⟨b,1,none⟩ (.int .u64 (y:Int))) b t x y xs∧Keeps (fun k=>k=b) w ((w.setCell ⟨b,0,none⟩ (.int .u64 (x:Int))).setCell ⟨b,1,none⟩ (.int .u64 (y:Int))):=fun x y =>
  ⟨(hS.low x).high y,((Keeps.refl (fun k=>k=b) w).setCell (p:=⟨b,0,none⟩) (.inl rfl) _).setCell (p:=⟨b,1,none⟩) (.inl rfl) _⟩
 have g1:∀ x:Nat,(w.setCell ⟨b,0,none⟩ (.int .u64 (x:Int))).cell? ⟨b,1,none⟩=some (.int .u64 h):=fun x=>(hS.low x).c1
 have gf:∀ (x:Nat) (i:Nat),(w.setCell ⟨b,0,none⟩ (.int .u64 (x:Int))).frozen? ⟨b,i,none⟩=false:=fun x i=>au (hS.low x) i
 have HS:=ah hS
 clear hS
 rcases q22 l h with⟨e,a1⟩|⟨e,a1,a2⟩|⟨e,a1,a2,a3,a4⟩|⟨e,a1,a2,a3⟩
 ·obtain⟨hL,hH⟩:=OZ e
  have HF:=ah (aj e (hset (2 * (l - 0)) (2 * (h - 0)+1)))
  rw[← hL,← hH] at HF
  have HLH:=ah (aj hL hH)
  have t1:decide ((h:Int)<2147483648)=true:=decide_eq_true (by omega)
  have g1:=g1 (dO l h)
  have gf:=gf (dO l h)
  have eL:2 * (l:Int)=((dO l h:Nat):Int):=by rw[hL];omega
  have eH:2 * (h:Int)+1=((eO l h:Nat):Int):=by rw[hH];omega
  clear hset hL hH
  generalize dO l h=L at *
  generalize eO l h=H at *
  go_enter Tryz.func201,Tryz.ntmps201
  go_wp2_with fail
  go_region
  all_goals
   go_wp2
   go_ret
   exact⟨by rw[HF.out.1];rfl,HF.out.2.1.keeps ((Keeps.refl (fun _=>False) _).drew) (fun h=>h),HF.out.2.2.trans ((Keeps.refl (fun _=>False) _).drew) (fun _ _ h=>h.elim)⟩
 ·obtain⟨hL,hH⟩:=O0 e
  have HF:=ah (aj e (hset (2 * (l - 2147483648)) (2 * (h - 2147483648)+1)))
  rw[← hL,← hH] at HF
  have HLH:=ah (aj hL hH)
  have t1:decide ((h:Int)<2147483648)=false:=decide_eq_false (by omega)
  have t2:decide ((2147483648:Int)≤(l:Int))=true:=decide_eq_true (by omega)
  have g1:=g1 (dO l h)
  have gf:=gf (dO l h)
  have eL:2 * ((l:Int) - 2147483648)=((dO l h:Nat):Int):=by rw[hL];omega
  have eH:2 * ((h:Int) - 2147483648)+1=((eO l h:Nat):Int):=by rw[hH];omega
  clear hset hL hH
  generalize dO l h=L at *
  generalize eO l h=H at *
  go_enter Tryz.func201,Tryz.ntmps201
  go_wp2_with fail
  go_region
  all_goals
   go_wp2
   go_ret
   exact⟨by rw[HF.out.1];rfl,HF.out.2.1.keeps ((Keeps.refl (fun _=>False) _).drew) (fun h=>h),HF.out.2.2.trans ((Keeps.refl (fun _=>False) _).drew) (fun _ _ h=>h.elim)⟩
 ·obtain⟨hL,hH⟩:=O1 e
  have HF:=ah (aj e (hset (2 * (l - 1073741824)) (2 * (h - 1073741824)+1)))
  rw[← hL,← hH] at HF
  have HLH:=ah (aj hL hH)
  have t1:decide ((h:Int)<2147483648)=false:=decide_eq_false (by omega)
  have t2:decide ((2147483648:Int)≤(l:Int))=false:=decide_eq_false (by omega)
  have t3:decide ((1073741824:Int)≤(l:Int))=true:=decide_eq_true (by omega)
  have t4:decide ((h:Int)<3221225472)=true:=decide_eq_true (by omega)
  have g1:=g1 (dO l h)
  have gf:=gf (dO l h)
  have eL:2 * ((l:Int) - 1073741824)=((dO l h:Nat):Int):=by rw[hL];omega
  have eH:2 * ((h:Int) - 1073741824)+1=((eO l h:Nat):Int):=by rw[hH];omega
  clear hset hL hH
  generalize dO l h=L at *
  generalize eO l h=H at *
  go_enter Tryz.func201,Tryz.ntmps201
  go_wp2_with fail
  go_region
  all_goals
   go_wp2
   go_ret
   exact⟨by rw[HF.out.1];rfl,HF.out.2.1.keeps ((Keeps.refl (fun _=>False) _).drew) (fun h=>h),HF.out.2.2.trans ((Keeps.refl (fun _=>False) _).drew) (fun _ _ h=>h.elim)⟩
 ·have HF:Hid (way l h=0∧cB w b t (dO l h) (eO l h) xs):=ah ⟨e,by unfold dO eO;rw[if_pos e,if_pos e];exact HS.out⟩
  have t1:decide ((h:Int)<2147483648)=false:=decide_eq_false (by omega)
  have t2:decide ((2147483648:Int)≤(l:Int))=false:=decide_eq_false (by omega)
  have hfin:∀ W,Keeps (fun _=>False) w W→cB W b t (dO l h) (eO l h) xs∧Keeps (fun k=>k=b) w W:=fun W hk=>⟨HF.out.2.keeps hk (fun h=>h),hk.mono (fun _ _ h=>h.elim)⟩
  have HFin:=ah hfin
  clear hset hfin g1 gf
  by_cases hq:l<1073741824
  ·have t3:decide ((1073741824:Int)≤(l:Int))=false:=decide_eq_false (by omega)
   go_enter Tryz.func201,Tryz.ntmps201
   go_wp2_with fail
   go_ret
   exact⟨by rw[HF.out.1];rfl,HFin.out _ (Keeps.refl _ _)⟩
  ·have t3:decide ((1073741824:Int)≤(l:Int))=true:=decide_eq_true (by omega)
   have t4:decide ((h:Int)<3221225472)=false:=decide_eq_false (by omega)
   go_enter Tryz.func201,Tryz.ntmps201
   go_wp2_with fail
   go_ret
   exact⟨by rw[HF.out.1];rfl,HFin.out _ (Keeps.refl _ _)⟩
end
section
def DJ(plain:Bool)(ls:List (List Bool)):List Nat:=ls.flatMap fun l=>jf (l.length / 4) ++ bE plain l
def ku(plain:Bool)(lone:Nat)(ls:List (List Bool)):List Nat:=jf lone ++ (jf ls.length ++ DJ plain ls)
def kK(cs:List Nat)(most:Nat):Option (Nat × List Nat) :=
 match jo cs 0 0 with
 | none=>none
 | some (x,u)=>if x≤most then some (x,cs.drop u) else none
open Classical in
noncomputable def kC(plain:Bool)(ok:List Bool→Prop)(cs:List Nat):Option (List Bool × List Nat) :=
 match kK cs 65536 with
 | none=>none
 | some (n,cs1) =>
  match nC cs1 (4 * n) plain with
  | none=>none
  | some (v,u)=>if ok v then some (v,cs1.drop u) else none
noncomputable def q24(plain:Bool)(ok:List Bool→Prop):Nat→List Nat→Option (List (List Bool) × List Nat)
 | 0,cs=>some ([],cs)
 | k+1,cs =>
  match kC plain ok cs with
  | none=>none
  | some (v,cs1) =>
   match q24 plain ok k cs1 with
   | none=>none
   | some (vs,cs2)=>some (v :: vs,cs2)
noncomputable def kD(plain:Bool)(ok:List Bool→Prop)(cs:List Nat):Option (Nat × List (List Bool) × List Nat) :=
 match kK cs 65536 with
 | none=>none
 | some (lone,cs1) =>
  match kK cs1 65536 with
  | none=>none
  | some (k,cs2) =>
   match q24 plain ok k cs2 with
   | none=>none
   | some (vs,XL)=>some (lone,vs,XL)
theorem XM(x:Nat)(rest:List Nat)(most:Nat)(h:x≤most)(hm:most<18446744073709551616):kK (jf x ++ rest) most=some (x,rest):=by
 unfold kK
 rw[qkp x rest (by omega)]
 simp only
 rw[if_pos h,List.drop_left]
def SK(ok:List Bool→Prop)(l:List Bool):Prop:=l.length % 4=0∧l.length≤262144∧ok l
theorem qhn{plain:Bool}{ok:List Bool→Prop}{l:List Bool}(h:SK ok l)(rest:List Nat):kC plain ok (jf (l.length / 4) ++ bE plain l ++ rest)=some (l,rest):=by
 obtain⟨h1,h2,h3⟩:=h
 unfold kC
 rw[List.append_assoc,XM _ _ _ (by omega) (by decide)]
 simp only
 rw[show 4 * (l.length / 4)=l.length by omega,qfc plain l rest (by omega)]
 simp only
 rw[if_pos h3,List.drop_left]
theorem qdw{plain:Bool}{ok:List Bool→Prop}:∀ (ls:List (List Bool)) (rest:List Nat),(∀ l ∈ ls,SK ok l)→q24 plain ok ls.length (DJ plain ls ++ rest)=some (ls,rest):=by
 intro ls
 induction ls with
 | nil=>intro rest _;rfl
 | cons l ls ih =>
  intro rest h
  have e:DJ plain (l :: ls) ++ rest=jf (l.length / 4) ++ bE plain l ++ (DJ plain ls ++ rest):=by simp[DJ]
  rw[e]
  show (match kC plain ok _ with|none=>none|some (v,cs1)=>match q24 plain ok ls.length cs1 with|none=>none|some (vs,cs2)=>some (v :: vs,cs2))=_
  rw[qhn (h l (by simp))]
  simp only
  rw[ih rest (fun x hx=>h x (by simp[hx]))]
theorem qaj{plain:Bool}{ok:List Bool→Prop}{lone:Nat}{ls:List (List Bool)}(h:∀ l ∈ ls,SK ok l)(h1:lone≤65536)(h2:ls.length≤65536)(rest:List Nat):kD plain ok (ku plain lone ls ++ rest)=some (lone,ls,rest):=by
 unfold kD ku
 rw[List.append_assoc,XM _ _ _ h1 (by decide)]
 simp only
 rw[List.append_assoc,XM _ _ _ h2 (by decide)]
 simp only
 rw[qdw ls rest h]
end
