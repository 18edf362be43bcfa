import Derived.Test.YtcfdpogegngplaaGreatZg0x
import Derived.Test.YtcfdpogegngplaaGreatZg0y
set_option maxRecDepth 100000
set_option maxHeartbeats 4000000
namespace Go.Proofs.YtcfdpogegngplaaGreat
open Go.RowKit
def bY(F:List Bool):Nat→CM × DC→CM × DC
 | 0,x=>x
 | j+1,x=>rD F (bY F j x)
theorem qhh(F:List Bool):∀ (j:Nat) (x:CM × DC),bY F j (rD F x)=bY F (j+1) x:=by
 intro j
 induction j with
 | zero=>intro x;rfl
 | succ j ih=>intro x;show rD F (bY F j (rD F x))=rD F (bY F (j+1) x);rw[ih]
theorem qdj(F:List Bool):∀ (j:Nat) (x:CM × DC),jk F (j+1) x=jk F j x ++ [jG (bY F j x)]:=by
 intro j
 induction j with
 | zero=>intro x;rfl
 | succ j ih =>
  intro x
  show jG x :: jk F (j+1) (rD F x)=jG x :: jk F j (rD F x) ++ [jG (bY F (j+1) x)]
  rw[ih (rD F x),qhh]
  rfl
theorem Xt(F:List Bool):∀ (j:Nat) (x:CM × DC),(jk F j x).length=j:=by
 intro j
 induction j with
 | zero=>intro x;rfl
 | succ j ih=>intro x;rw[qdj,List.length_append,ih];rfl
def wC(d:DC):Prop:=d.l≤d.v∧d.v≤d.h
theorem wC.step{F:List Bool}{d:DC}(h:wC d)(hh:d.h<4294967296)(hk:way d.l d.h≠0):wC (gF F d)∧(gF F d).h<4294967296∧(gF F d).h - (gF F d).l+1=2 * (d.h - d.l+1):=by
 obtain⟨h1,h2⟩:=h
 have ho:=OL (l:=d.l) (h:=d.h) (by omega)
 have hb:(F.getD d.a false).toNat≤1:=by cases F.getD d.a false <;> simp
 have hl:(gF F d).l=2 * (d.l - eT (way d.l d.h)):=rfl
 have GA:(gF F d).h=2 * (d.h - eT (way d.l d.h))+1:=rfl
 have hv:(gF F d).v=2 * (d.v - eT (way d.l d.h))+(F.getD d.a false).toNat:=rfl
 unfold wC
 rw[hl,GA,hv]
 refine⟨by omega,?_,by omega⟩
 rcases q22 d.l d.h with⟨e,a⟩|⟨e,a,b⟩|⟨e,a,b,c,e2⟩|⟨e,_⟩
 ·omega
 ·rw[e];unfold eT;simp;omega
 ·rw[e];unfold eT;simp;omega
 ·exact absurd e hk
theorem qmf{F:List Bool}:∀ (n:Nat) (d:DC),wC d→d.h<4294967296→4294967296<(d.h - d.l+1) * 2 ^ n→wC (gL F n d)∧oZ (gL F n d).l (gL F n d).h∧(gL F n d).a≤d.a+n:=by
 intro n
 induction n with
 | zero=>intro d h1 h2 h3;have:=h1.1;have:=h1.2;rw[Nat.pow_zero,Nat.mul_one] at h3;omega
 | succ n ih =>
  intro d h1 h2 h3
  unfold gL
  by_cases hk:way d.l d.h=0
  ·rw[if_pos hk];exact⟨h1,⟨by have:=h1.1;have:=h1.2;omega,h2,hk⟩,by omega⟩
  ·rw[if_neg hk]
   obtain⟨a,b,c⟩:=h1.step (F:=F) h2 hk
   obtain⟨p,q,r⟩:=ih (gF F d) a b (by
    rw[c,Nat.mul_comm 2,Nat.mul_assoc,← Nat.pow_succ']
    exact h3)
   have ha:(gF F d).a=d.a+1:=rfl
   exact⟨p,q,by omega⟩
theorem qgg{x:CM × DC}{N:Nat}(hm:x.1.Ok N)(hn:oZ x.2.l x.2.h)(hi:wC x.2):wC (takeC x.1.cur (jG x) x.2)∧(takeC x.1.cur (jG x) x.2).l≤(takeC x.1.cur (jG x) x.2).h∧(takeC x.1.cur (jG x) x.2).h<4294967296:=by
 have hb:=OM hn hm.cur.1
 have hh:=hn.2.1
 obtain⟨h1,h2⟩:=hi
 unfold takeC jG wC
 by_cases h:jm x.2.l x.2.h x.1.cur<x.2.v
 ·rw[decide_eq_true h]
  simp only [if_true]
  omega
 ·rw[decide_eq_false h]
  simp only [Bool.false_eq_true,if_false]
  omega
theorem qhi{F:List Bool}{x:CM × DC}{N:Nat}(hm:x.1.Ok N)(hn:oZ x.2.l x.2.h)(hi:wC x.2):(rD F x).1.Ok N∧oZ (rD F x).2.l (rD F x).2.h∧wC (rD F x).2∧(rD F x).2.a≤x.2.a+33:=by
 obtain⟨h1,h2,h3⟩:=qgg hm hn hi
 obtain⟨a,b,c⟩:=qmf (F:=F) 33 _ h1 h3 (by
  calc 4294967296<1 * 2 ^ 33:=by decide
   _≤_:=Nat.mul_le_mul_right _ (by omega))
 refine⟨hm.see _,b,a,?_⟩
 have:(takeC x.1.cur (jG x) x.2).a=x.2.a:=by unfold takeC;cases jG x <;> rfl
 show (gL F 33 (takeC x.1.cur (jG x) x.2)).a≤_
 omega
theorem qmg(F:List Bool)(k:Nat):∀ j,(bY F j (jT k F)).1.Ok (2 ^ k)∧oZ (bY F j (jT k F)).2.l (bY F j (jT k F)).2.h∧wC (bY F j (jT k F)).2∧(bY F j (jT k F)).2.a≤32+33 * j:=by
 intro j
 induction j with
 | zero=>exact⟨CM.uU (Nat.two_pow_pos k),Xu,⟨Nat.zero_le _,by have:=qkh F 32;show iL F 32≤4294967295;omega⟩,Nat.le_refl _⟩
 | succ j ih =>
  obtain⟨a,b,c,d⟩:=ih
  obtain⟨p,q,r,s⟩:=qhi (F:=F) a b c
  exact⟨p,q,r,by show (rD F (bY F j (jT k F))).2.a≤_;omega⟩
def mK(W:World)(br bp l h a v:Nat):Prop:=cB W br 325 l h [.pointer (some ⟨bp,0,none⟩),.int .i64 a,.int .u64 v]
theorem mK.c2{W:World}{br bp l h a v:Nat}(k:mK W br bp l h a v):W.cell? ⟨br,2,none⟩=some (.pointer (some ⟨bp,0,none⟩)):=by
 have:=ak k 2;simpa using this
theorem mK.c3{W:World}{br bp l h a v:Nat}(k:mK W br bp l h a v):W.cell? ⟨br,3,none⟩=some (.int .i64 a):=by
 have:=ak k 3;simpa using this
theorem mK.c4{W:World}{br bp l h a v:Nat}(k:mK W br bp l h a v):W.cell? ⟨br,4,none⟩=some (.int .u64 v):=by
 have:=ak k 4;simpa using this
theorem mK.free{W:World}{br bp l h a v:Nat}(k:mK W br bp l h a v):∀ i,W.frozen? ⟨br,i,none⟩=false:=au k
theorem mK.value{W:World}{br bp l h a v:Nat}(k:mK W br bp l h a v)(z:Nat):mK (W.setCell ⟨br,4,none⟩ (.int .u64 (z:Int))) br bp l h a z∧Keeps (fun q=>q=br) W (W.setCell ⟨br,4,none⟩ (.int .u64 (z:Int))):=by
 refine⟨?_,(Keeps.refl (fun q=>q=br) W).setCell (p:=⟨br,4,none⟩) (.inl rfl) _⟩
 have:=dM k 4 (.int .u64 (z:Int));simpa [mK,cB] using this
theorem mK.place{W:World}{br bp l h a v:Nat}(k:mK W br bp l h a v)(z:Nat):mK (W.setCell ⟨br,3,none⟩ (.int .i64 (z:Int))) br bp l h z v∧Keeps (fun q=>q=br) W (W.setCell ⟨br,3,none⟩ (.int .i64 (z:Int))):=by
 refine⟨?_,(Keeps.refl (fun q=>q=br) W).setCell (p:=⟨br,3,none⟩) (.inl rfl) _⟩
 have:=dM k 3 (.int .i64 (z:Int));simpa [mK,cB] using this
theorem mK.keeps{W W':World}{br bp l h a v:Nat}{G:Nat→Prop}(k:mK W br bp l h a v)(hk:Keeps G W W')(hG:¬ G br):mK W' br bp l h a v:=cB.keeps k hk hG
theorem q4z(br bp:Nat)(pv:Value)(F:List Bool)(l h a v:Nat)(w:World)(hR:mK w br bp l h a v)(hF:aK w bp pv F)(hne:bp≠br)(hno:pv.ownBlock≠some br)(zQ:F.length≤1000000000)(ha:a≤1000000000)(hv:v≤4294967296) :
  Calls Tryz.prog 248 #[.pointer (some ⟨br,0,none⟩)] w fun e w'=>e=.returned (.tuple #[])∧mK w' br bp l h (a+1) (2 * v+(F.getD a false).toNat)∧Keeps (fun q=>q=br) w w':=by
 have c4:=hR.c4
 have f:=hR.free
 obtain⟨h1,k1⟩:=hR.value (2 * v)
 have c2':=h1.c2
 have c3':=h1.c3
 have f':=h1.free
 have hF1:=hF.keeps k1 hne (fun q hq e=>hno (by rw[hq,e]))
 have e1:((2 * v:Nat):Int)=(v:Int) * 2:=by omega
 rw[e1] at c2' c3' f' hF1 h1 k1
 have hA:=fun n=>Qm bp pv F a ((w.setCell ⟨br,4,none⟩ (.int .u64 ((v:Int) * 2))).drewN n) (hF1.keeps ((Keeps.refl (fun _=>False) _).drewN n) (fun h=>h) (fun _ _ h=>h)) zQ
 have HX:Hid (∀ n,mK ((w.setCell ⟨br,4,none⟩ (.int .u64 ((v:Int) * 2))).drewN n) br bp l h a (2 * v)∧Keeps (fun q=>q=br) w ((w.setCell ⟨br,4,none⟩ (.int .u64 ((v:Int) * 2))).drewN n)):=ah (fun n=>⟨h1.keeps ((Keeps.refl (fun _=>False) _).drewN n) (fun h=>h),k1.drewN n⟩)
 obtain⟨z,hz⟩:∃ z,z=x9 F a:=⟨_,rfl⟩
 have hz1:(z == 1)=F.getD a false:=by
  rw[hz]
  unfold x9
  by_cases h:a<F.length
  ·rw[if_pos (by omega),Int.toNat_natCast]
   cases F.getD a false <;> rfl
  ·rw[if_neg (by omega),List.getD_eq_getElem?_getD,List.getElem?_eq_none (by omega)]
   rfl
 rw[← hz] at hA
 have HZ:=ah hz1
 clear hR hF hne hno h1 k1 hF1 e1 hz hz1
 cases hB:F.getD a false
 ·have hz2:(z == 1)=false:=by rw[HZ.out,hB]
  rw[hB] at HZ
  clear hB
  go_enter Tryz.func248,Tryz.ntmps248
  go_wp2_with fail
  go_quiet ((go_at_call 195;exact qH (hA _)))
  obtain⟨h2,k2⟩:=HX.out nq
  obtain⟨h3,k3⟩:=h2.place (a+1)
  have d3:=h2.c3
  have df:=h2.free
  have e2:((a+1:Nat):Int)=(a:Int)+1:=by omega
  rw[e2] at h3 k3
  have HF:=ah (aj h3 (k2.trans k3 (fun _ _ h=>h)))
  clear h2 k2 h3 k3 hA e2
  go_wp2_with fail
  go_end0
  exact⟨rfl,HF.out⟩
 ·have hz2:(z == 1)=true:=by rw[HZ.out,hB]
  rw[hB] at HZ
  clear hB
  go_enter Tryz.func248,Tryz.ntmps248
  go_wp2_with fail
  go_quiet ((go_at_call 195;exact qH (hA _)))
  obtain⟨h2,k2⟩:=HX.out nq
  obtain⟨h3,k3⟩:=h2.value (2 * v+1)
  obtain⟨h4,k4⟩:=h3.place (a+1)
  have d4:=h2.c4
  have df:=h2.free
  have d3:=h3.c3
  have df2:=h3.free
  have e2:((a+1:Nat):Int)=(a:Int)+1:=by omega
  have e3:((2 * v+1:Nat):Int)=(v:Int) * 2+1:=by omega
  have e4:((2 * v:Nat):Int)=(v:Int) * 2:=by omega
  rw[e3] at d3 df2
  rw[e4] at d4
  rw[e2,e3] at h4 k4
  rw[e3] at k3
  have HF:=ah (aj h4 ((k2.trans k3 (fun _ _ h=>h)).trans k4 (fun _ _ h=>h)))
  clear h2 k2 h3 k3 h4 k4 hA e2 e3 e4
  go_wp2_with fail
  go_end0
  exact⟨rfl,HF.out⟩
structure dU (w:World)(br bm gc bo bp:Nat)(vo:Value)(m:CM)(d:DC)(l h:Nat)(out:List Bool)(W:World):Prop where
 rd:mK W br bp l h d.a d.v
 cm:ny W bm gc m
 vec:aK W bo vo out
 lo:w.heap.size≤br∧w.heap.size≤bm∧w.heap.size≤gc∧w.heap.size≤bo∧∀ q,vo.ownBlock=some q→w.heap.size≤q
 ap:br≠bm∧br≠gc∧br≠bo∧bo≠bm∧bo≠gc∧vo.ownBlock≠some br∧vo.ownBlock≠some bm∧vo.ownBlock≠some gc
 dR:Keeps (fun _=>False) w W
section
variable {w:World} {br bm gc bo bp:Nat} {vo:Value} {m:CM} {d:DC} {l h:Nat} {out:List Bool} {W:World}
theorem dU.still(k:dU w br bm gc bo bp vo m d l h out W){W':World}(hk:Keeps (fun _=>False) W W'):dU w br bm gc bo bp vo m d l h out W' :=
 ⟨k.rd.keeps hk (fun h=>h),k.cm.keeps hk (fun h=>h) (fun h=>h),k.vec.keeps hk (fun h=>h) (fun _ _ h=>h),k.lo,k.ap,k.dR.trans hk (fun _ _ h=>h)⟩
theorem dU.read(k:dU w br bm gc bo bp vo m d l h out W){d':DC}{l' h':Nat}{W':World}(hR:mK W' br bp l' h' d'.a d'.v)(hk:Keeps (fun q=>q=br) W W'):dU w br bm gc bo bp vo m d' l' h' out W' :=
 ⟨hR,k.cm.keeps hk (fun e=>k.ap.1 e.symm) (fun e=>k.ap.2.1 e.symm),k.vec.keeps hk (fun e=>k.ap.2.2.1 e.symm) (fun q hq e=>k.ap.2.2.2.2.2.1 (by rw[hq,e])),k.lo,k.ap,k.dR.trans hk (fun x hx e=>by have:=k.lo.1;omega)⟩
theorem dU.see(k:dU w br bm gc bo bp vo m d l h out W){m':CM}{W':World}(hM:ny W' bm gc m')(hk:Keeps (fun q=>q=bm∨q=gc) W W'):dU w br bm gc bo bp vo m' d l h out W' :=
 ⟨k.rd.keeps hk (fun e=>by rcases e with e|e;exact k.ap.1 e;exact k.ap.2.1 e),hM,k.vec.keeps hk (fun e=>by rcases e with e|e;exact k.ap.2.2.2.1 e;exact k.ap.2.2.2.2.1 e) (fun q hq e=>by
  rcases e with e|e
  ·exact k.ap.2.2.2.2.2.2.1 (by rw[hq,e])
  ·exact k.ap.2.2.2.2.2.2.2 (by rw[hq,e])),k.lo,k.ap,k.dR.trans hk (fun x hx e=>by have:=k.lo;omega)⟩
theorem dU.put(k:dU w br bm gc bo bp vo m d l h out W){out':List Bool}{W':World}(g:bN W bo vo out' W'):∃ Xv,dU w br bm gc bo bp Xv m d l h out' W':=by
 obtain⟨v',h1,h2,h3⟩:=g
 have gI:bm<W.heap.size:=lt_of_block k.cm.1
 have hgc:gc<W.heap.size:=by obtain⟨arr,h,_⟩:=k.cm.2.1;exact lt_of_block h
 have hbr:br<W.heap.size:=lt_of_block k.rd
 have hs:=k.dR.size
 have ho:∀ x,x<W.heap.size→vo.ownBlock≠some x→v'.ownBlock≠some x:=fun x hx hn e=>by
  rcases h3 with h3|⟨q,h3,hq⟩
  ·exact hn (by rw[← h3];exact e)
  ·rw[h3] at e;have:=Option.some.inj e;omega
 refine⟨v',k.rd.keeps h2 (fun e=>?_),k.cm.keeps h2 (fun e=>?_) (fun e=>?_),h1,⟨k.lo.1,k.lo.2.1,k.lo.2.2.1,k.lo.2.2.2.1,fun q hq=>?_⟩,⟨k.ap.1,k.ap.2.1,k.ap.2.2.1,k.ap.2.2.2.1,k.ap.2.2.2.2.1,ho br hbr k.ap.2.2.2.2.2.1,ho bm gI k.ap.2.2.2.2.2.2.1,ho gc hgc k.ap.2.2.2.2.2.2.2⟩,k.dR.trans h2 (fun x hx e=>?_)⟩
 ·rcases e with e|e
  ·exact k.ap.2.2.1 e
  ·exact k.ap.2.2.2.2.2.1 e
 ·rcases e with e|e
  ·exact k.ap.2.2.2.1 e.symm
  ·exact k.ap.2.2.2.2.2.2.1 e
 ·rcases e with e|e
  ·exact k.ap.2.2.2.2.1 e.symm
  ·exact k.ap.2.2.2.2.2.2.2 e
 ·rcases h3 with h3|⟨q',h3,hq'⟩
  ·exact k.lo.2.2.2.2 q (by rw[← h3];exact hq)
  ·rw[h3] at hq;have:=Option.some.inj hq;omega
 ·have:=k.lo
  rcases e with e|e
  ·omega
  ·have:=k.lo.2.2.2.2 x e;omega
theorem dU.take(k:dU w br bm gc bo bp vo m d d.l d.h out W)(hn:oZ d.l d.h)(hc:Am m.cur)(x:Bool) :
  Calls Tryz.prog 199 #[.pointer (some ⟨br,0,none⟩),.agg #[.int .u64 m.cur.1,.int .u64 m.cur.2],.int .i64 (x.toNat:Int)] W fun e w'=>e=.returned (.tuple #[])∧dU w br bm gc bo bp vo m (takeC m.cur x d) (takeC m.cur x d).l (takeC m.cur x d).h out w':=by
 refine (q7r br d.l d.h m.cur x 325 _ W k.rd hn hc).mono ?_
 rintro e w' ⟨rfl,hS,hk⟩
 refine⟨rfl,k.read ?_ hk⟩
 unfold takeC
 cases x
 ·exact hS
 ·exact hS
theorem dU.add(k:dU w br bm gc bo bp vo m d l h out W)(x:Bool)(hl:out.length<900000000) :
  Calls Tryz.prog 142 #[.pointer (some ⟨bo,0,none⟩),.slice (some ⟨W.heap.size,0,none⟩) 1 1] (W.alloc (.cells #[.int .i64 (x.toNat:Int)] 3)) fun e w'=>e=.returned (.tuple #[])∧∃ Xv,dU w br bm gc bo bp Xv m d l h (out ++ [x]) w':=by
 have ka:=(Keeps.refl (fun _=>False) W).alloc (.cells #[.int .i64 (x.toNat:Int)] 3)
 have kA:=k.still ka
 have hap:=k.vec.apart
 have hlt:=k.vec.lt
 refine (KN bo vo out (.slice (some ⟨W.heap.size,0,none⟩) 1 1) [(x.toNat:Int)] _ kA.vec (qdg W (x.toNat:Int)) (fun q hq=>?_) (by simp;omega)).mono ?_
 ·simp only [Value.ownBlock,Option.some.injEq] at hq
  subst hq
  exact⟨by omega,fun e=>by have:=(hap _ e).2;omega⟩
 ·rintro e w' ⟨rfl,hg⟩
  have hb:lF [(x.toNat:Int)]=[x]:=by cases x <;> rfl
  rw[hb] at hg
  exact⟨rfl,kA.put hg⟩
theorem dU.double(k:dU w br bm gc bo bp vo m d d.l d.h out W)(h1:d.l≤d.h)(h2:d.h<4294967296) :
  Calls Tryz.prog 201 #[.pointer (some ⟨br,0,none⟩)] W fun e w'=>e=.returned (.int .i64 (way d.l d.h:Nat))∧dU w br bm gc bo bp vo m d (dO d.l d.h) (eO d.l d.h) out w':=by
 refine (q50 br d.l d.h 325 _ W k.rd h1 h2).mono ?_
 rintro e w' ⟨rfl,hS,hk⟩
 exact⟨rfl,k.read hS hk⟩
theorem dU.value(k:dU w br bm gc bo bp vo m d l h out W)(z:Nat):dU w br bm gc bo bp vo m { d with v:=z } l h out (W.setCell ⟨br,4,none⟩ (.int .u64 (z:Int))):=by
 obtain⟨h1,hk⟩:=k.rd.value z
 exact k.read (d':={ d with v:=z }) h1 hk
theorem dU.next{pv:Value}{F:List Bool}(k:dU w br bm gc bo bp vo m d l h out W)(hF:aK W bp pv F)(hne:bp≠br)(hno:pv.ownBlock≠some br)(zQ:F.length≤1000000000)(ha:d.a≤1000000000)(hv:d.v≤4294967296) :
  Calls Tryz.prog 248 #[.pointer (some ⟨br,0,none⟩)] W fun e w'=>e=.returned (.tuple #[])∧dU w br bm gc bo bp vo m { d with a:=d.a+1,v:=2 * d.v+(F.getD d.a false).toNat } l h out w':=by
 refine (q4z br bp pv F l h d.a d.v W k.rd hF hne hno zQ ha hv).mono ?_
 rintro e w' ⟨rfl,hR,hk⟩
 exact⟨rfl,k.read (d':={ d with a:=d.a+1,v:=2 * d.v+(F.getD d.a false).toNat }) hR hk⟩
end
