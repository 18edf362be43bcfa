import Derived.BigQuiet
import Derived.Test.YtcfdpogegngplaaGreatZaEncode2
import Derived.Test.YtcfdpogegngplaaGreatZaSameB
set_option maxRecDepth 100000
set_option maxHeartbeats 4000000
namespace Go.Proofs.YtcfdpogegngplaaGreat
open Go.RowKit
def decIt (F:List Bool):Nat→CM × DC→CM × DC
 | 0,x=>x
 | j+1,x=>q12 F (decIt F j x)
theorem qgp (F:List Bool):∀ (j:Nat) (x:CM × DC),decIt F j (q12 F x)=decIt F (j+1) x:=by
 intro j
 induction j with
 | zero=>intro x;rfl
 | succ j ih=>intro x;show q12 F (decIt F j (q12 F x))=q12 F (decIt F (j+1) x);rw[ih]
theorem qbu (F:List Bool):∀ (j:Nat) (x:CM × DC),decS F (j+1) x=decS F j x ++ [bitC (decIt F j x)]:=by
 intro j
 induction j with
 | zero=>intro x;rfl
 | succ j ih =>
  intro x
  show bitC x :: decS F (j+1) (q12 F x)=bitC x :: decS F j (q12 F x) ++ [bitC (decIt F (j+1) x)]
  rw[ih (q12 F x),qgp]
  rfl
theorem q53 (F:List Bool):∀ (j:Nat) (x:CM × DC),(decS F j x).length=j:=by
 intro j
 induction j with
 | zero=>intro x;rfl
 | succ j ih=>intro x;rw[qbu,List.length_append,ih];rfl
def InD (d:DC):Prop:=d.l≤d.v∧d.v≤d.h
theorem InD.step {F:List Bool} {d:DC} (h:InD d) (hh:d.h<4294967296) (hk:way d.l d.h≠0):InD (stepC F d)∧(stepC F d).h<4294967296∧(stepC F d).h - (stepC F d).l+1=2 * (d.h - d.l+1):=by
 obtain⟨h1,h2⟩:=h
 have ho:=qc7 (l:=d.l) (h:=d.h) (by omega)
 have hb:(F.getD d.a false).toNat≤1:=by cases F.getD d.a false <;> simp
 have hl:(stepC F d).l=2 * (d.l - offW (way d.l d.h)):=rfl
 have hh2:(stepC F d).h=2 * (d.h - offW (way d.l d.h))+1:=rfl
 have hv:(stepC F d).v=2 * (d.v - offW (way d.l d.h))+(F.getD d.a false).toNat:=rfl
 unfold InD
 rw[hl,hh2,hv]
 refine⟨by omega,?_,by omega⟩
 rcases q1w d.l d.h with⟨e,a⟩|⟨e,a,b⟩|⟨e,a,b,c,e2⟩|⟨e,_⟩
 ·omega
 ·rw[e];unfold offW;simp;omega
 ·rw[e];unfold offW;simp;omega
 ·exact absurd e hk
theorem ql1 {F:List Bool}:∀ (n:Nat) (d:DC),InD d→d.h<4294967296→4294967296<(d.h - d.l+1) * 2 ^ n→InD (normC F n d)∧Nrm (normC F n d).l (normC F n d).h∧(normC F n d).a≤d.a+n:=by
 intro n
 induction n with
 | zero=>intro d h1 h2 h3;have:=h1.1;have:=h1.2;rw[Nat.pow_zero,Nat.mul_one] at h3;omega
 | succ n ih =>
  intro d h1 h2 h3
  unfold normC
  by_cases hk:way d.l d.h=0
  ·rw[if_pos hk];exact⟨h1,⟨by have:=h1.1;have:=h1.2;omega,h2,hk⟩,by omega⟩
  ·rw[if_neg hk]
   obtain⟨a,b,c⟩:=h1.step (F:=F) h2 hk
   obtain⟨p,q,r⟩:=ih (stepC F d) a b (by
    rw[c,Nat.mul_comm 2,Nat.mul_assoc,← Nat.pow_succ']
    exact h3)
   have ha:(stepC F d).a=d.a+1:=rfl
   exact⟨p,q,by omega⟩
theorem qfg {x:CM × DC} {N:Nat} (hm:x.1.Ok N) (hn:Nrm x.2.l x.2.h) (hi:InD x.2):InD (takeC x.1.cur (bitC x) x.2)∧(takeC x.1.cur (bitC x) x.2).l≤(takeC x.1.cur (bitC x) x.2).h∧(takeC x.1.cur (bitC x) x.2).h<4294967296:=by
 have hb:=q3a hn hm.cur.1
 have hh:=hn.2.1
 obtain⟨h1,h2⟩:=hi
 unfold takeC bitC InD
 by_cases h:midC x.2.l x.2.h x.1.cur<x.2.v
 ·rw[decide_eq_true h]
  simp only [if_true]
  omega
 ·rw[decide_eq_false h]
  simp only [Bool.false_eq_true,if_false]
  omega
theorem qgq {F:List Bool} {x:CM × DC} {N:Nat} (hm:x.1.Ok N) (hn:Nrm x.2.l x.2.h) (hi:InD x.2):(q12 F x).1.Ok N∧Nrm (q12 F x).2.l (q12 F x).2.h∧InD (q12 F x).2∧(q12 F x).2.a≤x.2.a+33:=by
 obtain⟨h1,h2,h3⟩:=qfg hm hn hi
 obtain⟨a,b,c⟩:=ql1 (F:=F) 33 _ h1 h3 (by
  calc 4294967296<1 * 2 ^ 33:=by decide
   _≤_:=Nat.mul_le_mul_right _ (by omega))
 refine⟨hm.see _,b,a,?_⟩
 have:(takeC x.1.cur (bitC x) x.2).a=x.2.a:=by unfold takeC;cases bitC x <;> rfl
 show (normC F 33 (takeC x.1.cur (bitC x) x.2)).a≤_
 omega
theorem ql2 (F:List Bool) (k:Nat):∀ j,(decIt F j (q06 k F)).1.Ok (2 ^ k)∧Nrm (decIt F j (q06 k F)).2.l (decIt F j (q06 k F)).2.h∧InD (decIt F j (q06 k F)).2∧(decIt F j (q06 k F)).2.a≤32+33 * j:=by
 intro j
 induction j with
 | zero=>exact⟨CM.new_ok (Nat.two_pow_pos k),q43,⟨Nat.zero_le _,by have:=qio F 32;show preV F 32≤4294967295;omega⟩,Nat.le_refl _⟩
 | succ j ih =>
  obtain⟨a,b,c,d⟩:=ih
  obtain⟨p,q,r,s⟩:=qgq (F:=F) a b c
  exact⟨p,q,r,by show (q12 F (decIt F j (q06 k F))).2.a≤_;omega⟩
def RdC (W:World) (br bp l h a v:Nat):Prop:=SpanB W br 325 l h [.pointer (some ⟨bp,0,none⟩),.int .i64 a,.int .u64 v]
theorem RdC.c2 {W:World} {br bp l h a v:Nat} (k:RdC W br bp l h a v):W.cell? ⟨br,2,none⟩=some (.pointer (some ⟨bp,0,none⟩)):=by
 have:=World.cell_of_heap k 2;simpa using this
theorem RdC.c3 {W:World} {br bp l h a v:Nat} (k:RdC W br bp l h a v):W.cell? ⟨br,3,none⟩=some (.int .i64 a):=by
 have:=World.cell_of_heap k 3;simpa using this
theorem RdC.c4 {W:World} {br bp l h a v:Nat} (k:RdC W br bp l h a v):W.cell? ⟨br,4,none⟩=some (.int .u64 v):=by
 have:=World.cell_of_heap k 4;simpa using this
theorem RdC.free {W:World} {br bp l h a v:Nat} (k:RdC W br bp l h a v):∀ i,W.frozen? ⟨br,i,none⟩=false:=World.free_of_heap k
theorem RdC.value {W:World} {br bp l h a v:Nat} (k:RdC W br bp l h a v) (z:Nat):RdC (W.setCell ⟨br,4,none⟩ (.int .u64 (z:Int))) br bp l h a z∧Keeps (fun q=>q=br) W (W.setCell ⟨br,4,none⟩ (.int .u64 (z:Int))):=by
 refine⟨?_,(Keeps.refl (fun q=>q=br) W).setCell (p:=⟨br,4,none⟩) (.inl rfl) _⟩
 have:=q00 k 4 (.int .u64 (z:Int));simpa [RdC,SpanB] using this
theorem RdC.place {W:World} {br bp l h a v:Nat} (k:RdC W br bp l h a v) (z:Nat):RdC (W.setCell ⟨br,3,none⟩ (.int .i64 (z:Int))) br bp l h z v∧Keeps (fun q=>q=br) W (W.setCell ⟨br,3,none⟩ (.int .i64 (z:Int))):=by
 refine⟨?_,(Keeps.refl (fun q=>q=br) W).setCell (p:=⟨br,3,none⟩) (.inl rfl) _⟩
 have:=q00 k 3 (.int .i64 (z:Int));simpa [RdC,SpanB] using this
theorem RdC.keeps {W W':World} {br bp l h a v:Nat} {G:Nat→Prop} (k:RdC W br bp l h a v) (hk:Keeps G W W') (hG:¬ G br):RdC W' br bp l h a v:=SpanB.keeps k hk hG
theorem q4t (br bp:Nat) (pv:Value) (F:List Bool) (l h a v:Nat) (w:World) (hR:RdC w br bp l h a v) (hF:VecAt w bp pv F) (hne:bp≠br) (hno:pv.ownBlock≠some br) (hFl:F.length≤1000000000) (ha:a≤1000000000) (hv:v≤4294967296) :
  Calls Tryz.prog 248 #[.pointer (some ⟨br,0,none⟩)] w fun e w'=>e=.returned (.tuple #[])∧RdC w' br bp l h (a+1) (2 * v+(F.getD a false).toNat)∧Keeps (fun q=>q=br) w w':=by
 have c4:=hR.c4
 have f:=hR.free
 obtain⟨h1,k1⟩:=hR.value (2 * v)
 have c2':=h1.c2
 have c3':=h1.c3
 have f':=h1.free
 have hF1:=hF.keeps k1 hne (fun q hq e=>hno (by rw[hq,e]))
 have e1:((2 * v:Nat):Int)=(v:Int) * 2:=by omega
 rw[e1] at c2' c3' f' hF1 h1 k1
 have hA:=fun n=>qf6 bp pv F a ((w.setCell ⟨br,4,none⟩ (.int .u64 ((v:Int) * 2))).drewN n) (hF1.keeps ((Keeps.refl (fun _=>False) _).drewN n) (fun h=>h) (fun _ _ h=>h)) hFl
 have HX:Hid (∀ n,RdC ((w.setCell ⟨br,4,none⟩ (.int .u64 ((v:Int) * 2))).drewN n) br bp l h a (2 * v)∧Keeps (fun q=>q=br) w ((w.setCell ⟨br,4,none⟩ (.int .u64 ((v:Int) * 2))).drewN n)):=Lib.hid (fun n=>⟨h1.keeps ((Keeps.refl (fun _=>False) _).drewN n) (fun h=>h),k1.drewN n⟩)
 obtain⟨z,hz⟩:∃ z,z=atZ F a:=⟨_,rfl⟩
 have hz1:(z == 1)=F.getD a false:=by
  rw[hz]
  unfold atZ
  by_cases h:a<F.length
  ·rw[if_pos (by omega),Int.toNat_natCast]
   cases F.getD a false <;> rfl
  ·rw[if_neg (by omega),List.getD_eq_getElem?_getD,List.getElem?_eq_none (by omega)]
   rfl
 rw[← hz] at hA
 have HZ:=Lib.hid hz1
 clear hR hF hne hno h1 k1 hF1 e1 hz hz1
 cases hB:F.getD a false
 ·have hz2:(z == 1)=false:=by rw[HZ.out,hB]
  rw[hB] at HZ
  clear hB
  go_enter Tryz.func248,Tryz.ntmps248
  go_wp2_with fail
  go_quiet ((go_at_call 195;exact q19 (hA _)))
  obtain⟨h2,k2⟩:=HX.out nq
  obtain⟨h3,k3⟩:=h2.place (a+1)
  have d3:=h2.c3
  have df:=h2.free
  have e2:((a+1:Nat):Int)=(a:Int)+1:=by omega
  rw[e2] at h3 k3
  have HF:=Lib.hid (And.intro h3 (k2.trans k3 (fun _ _ h=>h)))
  clear h2 k2 h3 k3 hA e2
  go_wp2_with fail
  go_end0
  exact⟨rfl,HF.out⟩
 ·have hz2:(z == 1)=true:=by rw[HZ.out,hB]
  rw[hB] at HZ
  clear hB
  go_enter Tryz.func248,Tryz.ntmps248
  go_wp2_with fail
  go_quiet ((go_at_call 195;exact q19 (hA _)))
  obtain⟨h2,k2⟩:=HX.out nq
  obtain⟨h3,k3⟩:=h2.value (2 * v+1)
  obtain⟨h4,k4⟩:=h3.place (a+1)
  have d4:=h2.c4
  have df:=h2.free
  have d3:=h3.c3
  have df2:=h3.free
  have e2:((a+1:Nat):Int)=(a:Int)+1:=by omega
  have e3:((2 * v+1:Nat):Int)=(v:Int) * 2+1:=by omega
  have e4:((2 * v:Nat):Int)=(v:Int) * 2:=by omega
  rw[e3] at d3 df2
  rw[e4] at d4
  rw[e2,e3] at h4 k4
  rw[e3] at k3
  have HF:=Lib.hid (And.intro h4 ((k2.trans k3 (fun _ _ h=>h)).trans k4 (fun _ _ h=>h)))
  clear h2 k2 h3 k3 h4 k4 hA e2 e3 e4
  go_wp2_with fail
  go_end0
  exact⟨rfl,HF.out⟩
structure DecW (w:World) (br bm gc bo bp:Nat) (vo:Value) (m:CM) (d:DC) (l h:Nat) (out:List Bool) (W:World):Prop where
 rd:RdC W br bp l h d.a d.v
 cm:CMAt W bm gc m
 vec:VecAt W bo vo out
 lo:w.heap.size≤br∧w.heap.size≤bm∧w.heap.size≤gc∧w.heap.size≤bo∧∀ q,vo.ownBlock=some q→w.heap.size≤q
 ap:br≠bm∧br≠gc∧br≠bo∧bo≠bm∧bo≠gc∧vo.ownBlock≠some br∧vo.ownBlock≠some bm∧vo.ownBlock≠some gc
 kee:Keeps (fun _=>False) w W
section
variable {w:World} {br bm gc bo bp:Nat} {vo:Value} {m:CM} {d:DC} {l h:Nat} {out:List Bool} {W:World}
theorem DecW.still (k:DecW w br bm gc bo bp vo m d l h out W) {W':World} (hk:Keeps (fun _=>False) W W'):DecW w br bm gc bo bp vo m d l h out W' :=
 ⟨k.rd.keeps hk (fun h=>h),k.cm.keeps hk (fun h=>h) (fun h=>h),k.vec.keeps hk (fun h=>h) (fun _ _ h=>h),k.lo,k.ap,k.kee.trans hk (fun _ _ h=>h)⟩
theorem DecW.read (k:DecW w br bm gc bo bp vo m d l h out W) {d':DC} {l' h':Nat} {W':World} (hR:RdC W' br bp l' h' d'.a d'.v) (hk:Keeps (fun q=>q=br) W W'):DecW w br bm gc bo bp vo m d' l' h' out W' :=
 ⟨hR,k.cm.keeps hk (fun e=>k.ap.1 e.symm) (fun e=>k.ap.2.1 e.symm),k.vec.keeps hk (fun e=>k.ap.2.2.1 e.symm) (fun q hq e=>k.ap.2.2.2.2.2.1 (by rw[hq,e])),k.lo,k.ap,k.kee.trans hk (fun x hx e=>by have:=k.lo.1;omega)⟩
theorem DecW.see (k:DecW w br bm gc bo bp vo m d l h out W) {m':CM} {W':World} (hM:CMAt W' bm gc m') (hk:Keeps (fun q=>q=bm∨q=gc) W W'):DecW w br bm gc bo bp vo m' d l h out W' :=
 ⟨k.rd.keeps hk (fun e=>by rcases e with e|e;exact k.ap.1 e;exact k.ap.2.1 e),hM,k.vec.keeps hk (fun e=>by rcases e with e|e;exact k.ap.2.2.2.1 e;exact k.ap.2.2.2.2.1 e) (fun q hq e=>by
  rcases e with e|e
  ·exact k.ap.2.2.2.2.2.2.1 (by rw[hq,e])
  ·exact k.ap.2.2.2.2.2.2.2 (by rw[hq,e])),k.lo,k.ap,k.kee.trans hk (fun x hx e=>by have:=k.lo;omega)⟩
theorem DecW.put (k:DecW w br bm gc bo bp vo m d l h out W) {out':List Bool} {W':World} (g:VecGrown W bo vo out' W'):∃ vo',DecW w br bm gc bo bp vo' m d l h out' W':=by
 obtain⟨v',h1,h2,h3⟩:=g
 have hbm:bm<W.heap.size:=lt_of_block k.cm.1
 have hgc:gc<W.heap.size:=by obtain⟨arr,h,_⟩:=k.cm.2.1;exact lt_of_block h
 have hbr:br<W.heap.size:=lt_of_block k.rd
 have hs:=k.kee.size
 have ho:∀ x,x<W.heap.size→vo.ownBlock≠some x→v'.ownBlock≠some x:=fun x hx hn e=>by
  rcases h3 with h3|⟨q,h3,hq⟩
  ·exact hn (by rw[← h3];exact e)
  ·rw[h3] at e;have:=Option.some.inj e;omega
 refine⟨v',k.rd.keeps h2 (fun e=>?_),k.cm.keeps h2 (fun e=>?_) (fun e=>?_),h1,⟨k.lo.1,k.lo.2.1,k.lo.2.2.1,k.lo.2.2.2.1,fun q hq=>?_⟩,⟨k.ap.1,k.ap.2.1,k.ap.2.2.1,k.ap.2.2.2.1,k.ap.2.2.2.2.1,ho br hbr k.ap.2.2.2.2.2.1,ho bm hbm k.ap.2.2.2.2.2.2.1,ho gc hgc k.ap.2.2.2.2.2.2.2⟩,k.kee.trans h2 (fun x hx e=>?_)⟩
 ·rcases e with e|e
  ·exact k.ap.2.2.1 e
  ·exact k.ap.2.2.2.2.2.1 e
 ·rcases e with e|e
  ·exact k.ap.2.2.2.1 e.symm
  ·exact k.ap.2.2.2.2.2.2.1 e
 ·rcases e with e|e
  ·exact k.ap.2.2.2.2.1 e.symm
  ·exact k.ap.2.2.2.2.2.2.2 e
 ·rcases h3 with h3|⟨q',h3,hq'⟩
  ·exact k.lo.2.2.2.2 q (by rw[← h3];exact hq)
  ·rw[h3] at hq;have:=Option.some.inj hq;omega
 ·have:=k.lo
  rcases e with e|e
  ·omega
  ·have:=k.lo.2.2.2.2 x e;omega
theorem DecW.take (k:DecW w br bm gc bo bp vo m d d.l d.h out W) (hn:Nrm d.l d.h) (hc:OkC m.cur) (x:Bool) :
  Calls Tryz.prog 199 #[.pointer (some ⟨br,0,none⟩),.agg #[.int .u64 m.cur.1,.int .u64 m.cur.2],.int .i64 (x.toNat:Int)] W fun e w'=>e=.returned (.tuple #[])∧DecW w br bm gc bo bp vo m (takeC m.cur x d) (takeC m.cur x d).l (takeC m.cur x d).h out w':=by
 refine (q76 br d.l d.h m.cur x 325 _ W k.rd hn hc).mono ?_
 rintro e w' ⟨rfl,hS,hk⟩
 refine⟨rfl,k.read ?_ hk⟩
 unfold takeC
 cases x
 ·exact hS
 ·exact hS
theorem DecW.add (k:DecW w br bm gc bo bp vo m d l h out W) (x:Bool) (hl:out.length<900000000) :
  Calls Tryz.prog 142 #[.pointer (some ⟨bo,0,none⟩),.slice (some ⟨W.heap.size,0,none⟩) 1 1] (W.alloc (.cells #[.int .i64 (x.toNat:Int)] 3)) fun e w'=>e=.returned (.tuple #[])∧∃ vo',DecW w br bm gc bo bp vo' m d l h (out ++ [x]) w':=by
 have ka:=(Keeps.refl (fun _=>False) W).alloc (.cells #[.int .i64 (x.toNat:Int)] 3)
 have kA:=k.still ka
 have hap:=k.vec.apart
 have hlt:=k.vec.lt
 refine (q85 bo vo out (.slice (some ⟨W.heap.size,0,none⟩) 1 1) [(x.toNat:Int)] _ kA.vec (qbz W (x.toNat:Int)) (fun q hq=>?_) (by simp;omega)).mono ?_
 ·simp only [Value.ownBlock,Option.some.injEq] at hq
  subst hq
  exact⟨by omega,fun e=>by have:=(hap _ e).2;omega⟩
 ·rintro e w' ⟨rfl,hg⟩
  have hb:q0w [(x.toNat:Int)]=[x]:=by cases x <;> rfl
  rw[hb] at hg
  exact⟨rfl,kA.put hg⟩
theorem DecW.double (k:DecW w br bm gc bo bp vo m d d.l d.h out W) (h1:d.l≤d.h) (h2:d.h<4294967296) :
  Calls Tryz.prog 201 #[.pointer (some ⟨br,0,none⟩)] W fun e w'=>e=.returned (.int .i64 (way d.l d.h:Nat))∧DecW w br bm gc bo bp vo m d (dblL d.l d.h) (dblH d.l d.h) out w':=by
 refine (q4w br d.l d.h 325 _ W k.rd h1 h2).mono ?_
 rintro e w' ⟨rfl,hS,hk⟩
 exact⟨rfl,k.read hS hk⟩
theorem DecW.value (k:DecW w br bm gc bo bp vo m d l h out W) (z:Nat):DecW w br bm gc bo bp vo m { d with v:=z } l h out (W.setCell ⟨br,4,none⟩ (.int .u64 (z:Int))):=by
 obtain⟨h1,hk⟩:=k.rd.value z
 exact k.read (d':={ d with v:=z }) h1 hk
theorem DecW.next {pv:Value} {F:List Bool} (k:DecW w br bm gc bo bp vo m d l h out W) (hF:VecAt W bp pv F) (hne:bp≠br) (hno:pv.ownBlock≠some br) (hFl:F.length≤1000000000) (ha:d.a≤1000000000) (hv:d.v≤4294967296) :
  Calls Tryz.prog 248 #[.pointer (some ⟨br,0,none⟩)] W fun e w'=>e=.returned (.tuple #[])∧DecW w br bm gc bo bp vo m { d with a:=d.a+1,v:=2 * d.v+(F.getD d.a false).toNat } l h out w':=by
 refine (q4t br bp pv F l h d.a d.v W k.rd hF hne hno hFl ha hv).mono ?_
 rintro e w' ⟨rfl,hR,hk⟩
 exact⟨rfl,k.read (d':={ d with a:=d.a+1,v:=2 * d.v+(F.getD d.a false).toNat }) hR hk⟩
end
end Go.Proofs.YtcfdpogegngplaaGreat
