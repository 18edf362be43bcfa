import Derived.Deep.CutRange
import Derived.Test.YtalhcfjcbbkpgaaGreatZp0a
set_option maxRecDepth 100000
set_option maxHeartbeats 4000000
namespace Go.Proofs.YtalhcfjcbbkpgaaGreat
section
open Go.RowKit
def iU(W:World)(g:Nat)(b:List (Nat × Nat)):Prop :=
 ∃a:Array Value,W.heap[g]? = some (.cells a 265 (0,0))/\a.size=2 * b.length/\∀i c,b[i]? = some c->a[i * 2]? = some (.int .u64 c.1)/\a[i * 2+1]? = some (.int .u64 c.2)
theorem iU.keeps{W b:World}{g:Nat}{c:List (Nat × Nat)}{G:Nat->Prop}(h:iU W g c)(k:Keeps G W b)(d:¬G g):iU b g c:=by obtain⟨a,e,f,i⟩:=h;exact⟨a,k.at e d,f,i⟩
theorem iU.cell{W:World}{g:Nat}{b:List (Nat × Nat)}(h:iU W g b){i:Nat}{c:Nat × Nat}(d:b[i]? = some c):W.cell? ⟨g,i * 2,none⟩=some (.int .u64 c.1)/\W.cell? ⟨g,i * 2+1,none⟩=some (.int .u64 c.2)/\∀j,W.frozen? ⟨g,j,none⟩=false:=by obtain⟨e,a,m,f⟩:=h;obtain⟨k,l⟩:=f i c d;exact⟨(dw a (i * 2)).trans k,(dw a (i * 2+1)).trans l,dx a⟩
theorem iU.set{W:World}{g:Nat}{b:List (Nat × Nat)}(h:iU W g b){i:Nat}(e:i<b.length)(x y:Nat):iU ((W.setCell ⟨g,i * 2,none⟩ (.int .u64 (x:Int))).setCell ⟨g,i * 2+1,none⟩ (.int .u64 (y:Int))) g (b.set i (x,y)):=by
 obtain⟨f,k,l,m⟩:=h;refine⟨_,jM (jM k (i * 2) _) (i * 2+1) _,by simp[l],fun j c a=>?_⟩;by_cases d:i=j
 ·subst d;rw[List.getElem?_set_self e]at a;obtain rfl:=Option.some.inj a;constructor
  ·rw[Array.getElem?_setIfInBounds_ne (by omega),Array.getElem?_setIfInBounds_self_of_lt (by omega)]
  ·rw[Array.getElem?_setIfInBounds_self_of_lt (by simp;omega)]
 ·rw[List.getElem?_set_ne d]at a;obtain⟨n,o⟩:=m j c a;constructor
  ·rw[Array.getElem?_setIfInBounds_ne (by omega),Array.getElem?_setIfInBounds_ne (by omega),n]
  ·rw[Array.getElem?_setIfInBounds_ne (by omega),Array.getElem?_setIfInBounds_ne (by omega),o]
theorem iU.put{W:World}{g:Nat}{e:List (Nat × Nat)}(h:iU W g e){i:Nat}{c:Nat × Nat}(f:e[i]? = some c)(b:Bool)(z:Nat):iU (W.setCell ⟨g,i * 2+b.toNat,none⟩ (.int .u64 (z:Int))) g (e.set i (if b then (c.1,z)else (z,c.2))):=by
 obtain⟨m,n,o,k⟩:=h;have p:=Am f;obtain⟨q,r⟩:=k i c f;refine⟨_,jM n (i * 2+b.toNat) _,by simp[o],fun j d a=>?_⟩;by_cases l:i=j
 ·subst l;rw[List.getElem?_set_self p]at a;obtain rfl:=Option.some.inj a;cases b
  ·simp only [Bool.toNat_false,Nat.add_zero,Bool.false_eq_true,if_false];exact⟨by rw[Array.getElem?_setIfInBounds_self_of_lt (by omega)],by rw[Array.getElem?_setIfInBounds_ne (by omega),r]⟩
  ·simp only [Bool.toNat_true,if_true];exact⟨by rw[Array.getElem?_setIfInBounds_ne (by omega),q],by rw[Array.getElem?_setIfInBounds_self_of_lt (by omega)]⟩
 ·rw[List.getElem?_set_ne l]at a;obtain⟨s,t⟩:=k j d a;have u:b.toNat<=1:=by cases b <;> simp
  constructor
  ·rw[Array.getElem?_setIfInBounds_ne (by omega),s]
  ·rw[Array.getElem?_setIfInBounds_ne (by omega),t]
def qH(W:World)(b a:Nat)(m:CM):Prop:=W.heap[b]? = some (.cells #[.slice (some ⟨a,0,none⟩) m.cs.length m.cs.length,.int .u64 m.now] 268 (0,0))/\iU W a m.cs/\b≠a
theorem qH.keeps{W c:World}{a b:Nat}{m:CM}{G:Nat->Prop}(h:qH W a b m)(k:Keeps G W c)(d:¬G a)(e:¬G b):qH c a b m:=⟨k.at h.1 d,h.2.1.keeps k e,h.2.2⟩
theorem Rn(l b:Nat)(m:CM)(N:Nat)(x:Bool)(w:World)(hM:qH w l b m)(hm:m.Ok N)(hN:N<=1000000) :
  Calls Tryz.prog 195 #[.pointer (some ⟨l,0,none⟩),.int .i64 (x.toNat:Int)] w fun e w'=>e=.returned (.tuple #[])/\qH w' l b (m.see x)/\Keeps (fun k=>k=l\/k=b) w w':=by
 obtain⟨Y,hC,L⟩:=hM;obtain⟨M,f⟩:=hm.cur;obtain⟨u,p⟩:=m;have g:u.length=N:=hm.len;have am:p<N:=hm.lt;simp only at Y hC f;obtain⟨⟨a,d⟩,y⟩:∃c:Nat × Nat,CM.cur ⟨u,p⟩=c:=⟨_,rfl⟩
 rw[y]at M f;obtain⟨Z,aa,ab⟩:=M;simp only at Z aa ab;obtain⟨e1,e2,ef⟩:=hC.cell f;simp only at e1 e2;have c0:=dw Y 0;have c1:=dw Y 1;have fb:=dx Y;rw[g]at Y c0;obtain⟨k,hk,an⟩:∃k,k=x.toNat/\k<=1:=⟨_,rfl,by cases x <;> simp⟩
 obtain⟨C,r⟩:∃C,C=if x then d else a:=⟨_,rfl⟩
 obtain⟨A,B,n⟩:∃A B,(A,B)=if x then (a,C+1)else (C+1,d):=by cases x <;> exact⟨_,_,rfl⟩
 obtain⟨S,o⟩:∃S,S=vL (a,d) x:=⟨_,rfl⟩
 have O:(A+B=65536/\S=((A+1) / 2,(B+1) / 2))\/(¬A+B=65536/\S=(A,B)):=by
  rw[o];unfold vL;cases x
  ·simp only [Bool.false_eq_true,if_false]at n r ⊢;obtain⟨rfl,rfl⟩:=Prod.mk.inj n;subst r;by_cases h:C+1+B=65536
   ·rw[if_pos h];exact .inl ⟨h,rfl⟩
   ·rw[if_neg h];exact .inr ⟨h,rfl⟩
  ·simp only [if_true]at n r ⊢;obtain⟨rfl,rfl⟩:=Prod.mk.inj n;subst r;by_cases h:A+(C+1)=65536
   ·rw[if_pos h];exact .inl ⟨h,rfl⟩
   ·rw[if_neg h];exact .inr ⟨h,rfl⟩
 have ao:C<65536/\A<65537/\B<65537:=by
  cases x
  ·simp only [Bool.false_eq_true,if_false]at n r;obtain⟨rfl,rfl⟩:=Prod.mk.inj n;omega
  ·simp only [if_true]at n r;obtain⟨rfl,rfl⟩:=Prod.mk.inj n;omega
 have P:∀W,iU W b u->W.cell? ⟨b,p * 2+k,none⟩=some (.int .u64 C)/\(∀j,W.frozen? ⟨b,j,none⟩=false)/\iU (W.setCell ⟨b,p * 2+k,none⟩ (.int .u64 ((C:Int)+1))) b (u.set p (A,B)):=fun W hW=>by
  obtain⟨f1,f2,f3⟩:=hW.cell f;have hp:=hW.put f x (C+1);have hz:((C+1:Nat):Int)=(C:Int)+1:=by omega
  rw[hz,<-hk]at hp;refine⟨?_,f3,?_⟩
  ·rw[hk,r];cases x
   ·exact f1
   ·exact f2
  ·rw[n];cases x
   ·simp only [Bool.false_eq_true,if_false]at hp ⊢;exact hp
   ·simp only [if_true]at hp ⊢;exact hp
 obtain⟨q,hq⟩:∃q,q=(2 * p+k) % N:=⟨_,rfl⟩
 have ap:(2 * (p:Int)+(k:Int)) % (N:Int)=(q:Int):=by rw[hq];push_cast;rfl
 have G:CM.see ⟨u,p⟩ x=⟨u.set p S,q⟩:=by show (⟨u.set p (vL (CM.cur ⟨u,p⟩) x),(2 * p+Bool.toNat x) % u.length⟩:CM)=_;rw[y,<-o,g,hq,hk]
 have G0:∀W al,iU W b al->W.heap[l]? = some (.cells #[.slice (some ⟨b,0,none⟩) N N,.int .u64 p] 268 (0,0))->True:=fun _ _ _ _=>trivial;have HX:=dh (dn G (dn P (dn O (dn f (dn hC (dn Y g))))));have H:p<u.length:=by omega
 rw[G,<-hk];clear G P O f hC y o n r hq hk G0 hm Z aa ab g;go_enter Tryz.func195,Tryz.ntmps195;go_wp2_with fail;go_cut [4]from 5 to 13 (fun v z=>v=.pointer (some ⟨b,p * 2,none⟩)/\iU z b u/\z.heap[l]? = some (.cells #[.slice (some ⟨b,0,none⟩) N N,.int .u64 p] 268 (0,0))/\Keeps (fun k=>k=l\/k=b) w z)
 case first =>
  go_quiet (fail)
  have T:=(Keeps.refl (fun _=>False) w).drewN nq;have E:=dh (dn (HX.out.2.2.2.2.1.keeps T (fun h=>h)) (dn (T.at HX.out.2.2.2.2.2.1 (fun h=>h)) (T.mono (fun _ _ h=>h.elim):Keeps (fun k=>k=l\/k=b) w (w.drewN nq))));go_wp2;go_meet;exact⟨rfl,E.out⟩
 case rest =>
  obtain⟨rfl,ad,ae,Q⟩:=hcut;obtain⟨f1,f2,f3⟩:=HX.out.2.1 _ ad;have kg:=(Keeps.refl (fun q=>q=b) wc).setCell (p:=⟨b,p * 2+k,none⟩) (.inl rfl) (.int .u64 ((C:Int)+1));have H1:=dh (dn f3 (dn (kg.at ae L) (Q.trans kg (fun _ _ h=>.inr h))));clear ad ae Q f3 kg;go_upto_region 1 with fail;go_cut []from 14 to 21 (fun z=>iU z b (u.set p (A,B))/\z.heap[l]? = some (.cells #[.slice (some ⟨b,0,none⟩) N N,.int .u64 p] 268 (0,0))/\Keeps (fun k=>k=l\/k=b) w z)
  case first =>
   go_region
   all_goals
    have F:=(Keeps.refl (fun _=>False) (wc.setCell ⟨b,p * 2+k,none⟩ (.int .u64 ((C:Int)+1)))).drew;have E:=dh (dn (H1.out.1.keeps F (fun h=>h)) (dn (F.at H1.out.2.1 (fun h=>h)) (H1.out.2.2.trans F (fun _ _ h=>h.elim))));clear F;go_wp2;go_meet;exact E.out
  case rest =>
   clear H1 f1 f2;obtain⟨U,af,ag⟩:=hcut;obtain⟨g1,g2,g3⟩:=U.cell (i:=p) (c:=(A,B)) (List.getElem?_set_self H);simp only at g1 g2;have H2:=dh (dn U (dn af ag));clear U af ag;obtain⟨tt,V⟩:∃tt,(((A:Int)+(B:Int)) == 65536)=tt:=⟨_,rfl⟩
   have HT:=dh V;go_upto_region 2 with fail;go_cut [31]from 22 to 30 (fun s z=>s=.bool tt/\iU z b (u.set p (A,B))/\z.heap[l]? = some (.cells #[.slice (some ⟨b,0,none⟩) N N,.int .u64 p] 268 (0,0))/\Keeps (fun k=>k=l\/k=b) w z)
   case first =>
    go_quiet (fail)
    have kd:=(Keeps.refl (fun _=>False) wc).drewN nq;have E:=dh (dn (H2.out.1.keeps kd (fun h=>h)) (dn (kd.at H2.out.2.1 (fun h=>h)) (H2.out.2.2.trans kd (fun _ _ h=>h.elim))));clear kd;go_wp2;go_meet;exact⟨by first|rfl|rw[V],E.out⟩
   case rest =>
    clear H2 g1 g2 g3 V;obtain⟨rfl,t,I,J⟩:=hcut;obtain⟨g1,g2,g3⟩:=t.cell (i:=p) (c:=(A,B)) (List.getElem?_set_self H);simp only at g1 g2;have H2:=dh (dn t (dn I J));go_upto_if 31 with fail;go_cut []from 32 to 49 (fun z=>iU z b (u.set p S)/\z.heap[l]? = some (.cells #[.slice (some ⟨b,0,none⟩) N N,.int .u64 p] 268 (0,0))/\Keeps (fun k=>k=l\/k=b) w z)
    case first =>
     rcases HX.out.2.2.1 with⟨hs,o⟩|⟨hs,o⟩
     ·have D:=t.set (i:=p) (by rw[List.length_set];exact H) ((A+1) / 2) ((B+1) / 2);rw[List.set_set,<-o]at D;have q1:tt=true:=by rw[<-HT.out,beq_iff_eq];omega
      subst q1;obtain⟨X,ah⟩:∃X,X=(A+1) / 2:=⟨_,rfl⟩
      obtain⟨nd,ai⟩:∃nd,nd=(B+1) / 2:=⟨_,rfl⟩
      have ea:((A:Int)+1) / 2=(X:Int):=by omega
      have ed:((B:Int)+1) / 2=(nd:Int):=by omega
      rw[<-ah,<-ai]at D;have R:iU (wc.setCell ⟨b,p * 2,none⟩ (.int .u64 (X:Int))) b _:=t.put (i:=p) (c:=(A,B)) (List.getElem?_set_self H) false X;obtain⟨_,m2,m3⟩:=R.cell (i:=p) (List.getElem?_set_self (by rw[List.length_set];exact H));simp only [Bool.false_eq_true,if_false]at m2;have ks:=((Keeps.refl (fun q=>q=b) wc).setCell (p:=⟨b,p * 2,none⟩) (.inl rfl) (.int .u64 (X:Int))).setCell (p:=⟨b,p * 2+1,none⟩) (.inl rfl) (.int .u64 (nd:Int));have H3:=dh (dn D (dn (ks.at I L) (J.trans ks (fun _ _ h=>.inr h))));clear D ks ah ai o R t I J hs;go_wp2_with fail;go_region
      all_goals
       have F:=(Keeps.refl (fun _=>False) ((wc.setCell ⟨b,p * 2,none⟩ (.int .u64 (X:Int))).setCell ⟨b,p * 2+1,none⟩ (.int .u64 (nd:Int)))).drew;have E:=dh (dn (H3.out.1.keeps F (fun h=>h)) (dn (F.at H3.out.2.1 (fun h=>h)) (H3.out.2.2.trans F (fun _ _ h=>h.elim))));clear F;go_wp2;go_meet;exact E.out
     ·have q1:tt=false:=by rw[<-HT.out,beq_eq_false_iff_ne];omega
      subst q1;rw[<-o]at t;have E:=dh (dn t (dn I J));clear t I J hs o;go_wp2;go_meet;exact E.out
    case rest =>
     obtain⟨aj,K,ak⟩:=hcut;have aq:=dw K 0;have ar:=dw K 1;have au:=dx K;have r1:=jM K 1 (.int .u64 (q:Int));have ks:=(Keeps.refl (fun q=>q=l) wc).setCell (p:=⟨l,1,none⟩) (.inl rfl) (.int .u64 (q:Int));have g:=HX.out.2.2.2.2.2.2;have E:Hid (qH (wc.setCell ⟨l,1,none⟩ (.int .u64 (q:Int))) l b ⟨u.set p S,q⟩/\Keeps (fun k=>k=l\/k=b) w (wc.setCell ⟨l,1,none⟩ (.int .u64 (q:Int)))):=dh ⟨⟨by simpa [g]using r1,aj.keeps ks (fun e=>L e.symm),L⟩,ak.trans ks (fun _ _ h=>.inl h)⟩;have av:¬(N:Int)=0:=by omega
     clear aj K ak r1 ks g;go_upto_region 4 with fail;go_region
     all_goals
      go_wp2;go_end0
      have F:=(Keeps.refl (fun _=>False) (wc.setCell ⟨l,1,none⟩ (.int .u64 (q:Int)))).drew;exact⟨rfl,E.out.1.keeps F (fun h=>h) (fun h=>h),E.out.2.trans F (fun _ _ h=>h.elim)⟩
end
section
open Go.RowKit
theorem Ro:(Tryz.prog.info? 265).map (fun i=>(i.zero,i.size,i.bytes))=some (some (.agg #[.int .u64 0,.int .u64 0]),2,16):=by kernel_rfl
def zl(W:World)(g N j:Nat):Prop :=
 ∃a:Array Value,W.heap[g]? = some (.cells a 265 (0,0))/\a.size=2 * N/\∀i,i<j->a[i * 2]? = some (.int .u64 1)/\a[i * 2+1]? = some (.int .u64 1)
theorem zl.cells{W:World}{g N j:Nat}(h:zl W g N j)(c:j<N):(∃v u,W.cell? ⟨g,j * 2,none⟩=some v/\W.cell? ⟨g,j * 2+1,none⟩=some u)/\∀i,W.frozen? ⟨g,i,none⟩=false:=by
 obtain⟨a,b,d,e⟩:=h;refine⟨⟨a[j * 2]'(by omega),a[j * 2+1]'(by omega),?_,?_⟩,dx b⟩
 ·exact(dw b (j * 2)).trans (Array.getElem?_eq_getElem (by omega))
 ·exact(dw b (j * 2+1)).trans (Array.getElem?_eq_getElem (by omega))
theorem zl.step{W:World}{g N j:Nat}(h:zl W g N j)(l:j<N):zl ((W.setCell ⟨g,j * 2,none⟩ (.int .u64 1)).setCell ⟨g,j * 2+1,none⟩ (.int .u64 1)) g N (j+1):=by
 obtain⟨b,c,d,e⟩:=h;refine⟨_,jM (jM c (j * 2) _) (j * 2+1) _,by simp[d],fun i m=>?_⟩;by_cases a:i=j
 ·subst a;constructor
  ·rw[Array.getElem?_setIfInBounds_ne (by omega),Array.getElem?_setIfInBounds_self_of_lt (by omega)]
  ·rw[Array.getElem?_setIfInBounds_self_of_lt (by simp;omega)]
 ·obtain⟨f,k⟩:=e i (by omega);constructor
  ·rw[Array.getElem?_setIfInBounds_ne (by omega),Array.getElem?_setIfInBounds_ne (by omega),f]
  ·rw[Array.getElem?_setIfInBounds_ne (by omega),Array.getElem?_setIfInBounds_ne (by omega),k]
theorem zl.done{W:World}{g N:Nat}(h:zl W g N N):iU W g (List.replicate N (1,1)):=by obtain⟨a,e,f,j⟩:=h;refine⟨a,e,by simp[f],fun i c b=>?_⟩;have d:=Am b;rw[List.getElem?_eq_getElem d,List.getElem_replicate]at b;obtain rfl:=Option.some.inj b;rw[List.length_replicate]at d;exact j i d
theorem Rq(k:Nat)(w:World)(o:k<=8) :
  Calls Tryz.prog 193 #[.int .i64 k] w fun e w'=>∃a S,e=.returned (.pointer (some ⟨a,0,none⟩))/\qH w' a S (CM.new (2 ^ k))/\w.heap.size<=a/\w.heap.size<=S/\Keeps (fun _=>False) w w':=by
 obtain⟨i,K,y,z,A⟩:=info_parts Ro;obtain⟨N,r⟩:∃N,N=2 ^ k:=⟨_,rfl⟩
 have W:N<=256:=by rw[r];exact Nat.pow_le_pow_right (by decide) o (n:=2)
 have X:0<N:=by rw[r];exact Nat.two_pow_pos k
 have B:=fun w=>run_make (P:=Tryz.prog) w 266 265 i _ Tryz.underlying266 K y .i64 .i64 (N:Int) (N:Int) (by omega) (Int.le_refl _) (by rw[A];omega) (by omega);simp only [z]at B;have Y:(0:Int)<=(k:Int):=by omega
 have C:(2:Int) ^ k=(N:Int):=by rw[r];push_cast;rfl
 have T:min k 64=k:=by omega
 have D:IntKind.i64.wrap (N:Int)=(N:Int):=IntWalk.i64_in _ (by omega);rw[<-r];have L:=dh r;clear K y z A r;go_enter Tryz.func193,Tryz.ntmps193;go_wp2_with fail;obtain⟨g,M⟩:∃g,g=w.heap.size:=⟨_,rfl⟩
 obtain⟨a,b⟩:∃a,a=w.heap.size+1:=⟨_,rfl⟩
 rw[<-b,<-M];obtain⟨E,c⟩:∃E,E=(w.alloc (.cells (madeCells #[.int .u64 0,.int .u64 0] (N * 2)) 265)).alloc (.cells #[.slice (some ⟨g,0,none⟩) N N,.int .u64 0] 268):=⟨_,rfl⟩
 have U:zl E g N 0/\E.heap[a]? = some (.cells #[.slice (some ⟨g,0,none⟩) N N,.int .u64 0] 268 (0,0))/\Keeps (fun _=>False) w E:=by have Z:=(Keeps.refl (fun _=>False) w).alloc (.cells (madeCells #[.int .u64 0,.int .u64 0] (N * 2)) 265);have V:=Z.alloc (.cells #[.slice (some ⟨g,0,none⟩) N N,.int .u64 0] 268);have O:=heap_alloc_new w (.cells (madeCells #[.int .u64 0,.int .u64 0] (N * 2)) 265);have d:=heap_alloc_new (w.alloc (.cells (madeCells #[.int .u64 0,.int .u64 0] (N * 2)) 265)) (.cells #[.slice (some ⟨g,0,none⟩) N N,.int .u64 0] 268);have f:=((Keeps.refl (fun _=>False) (w.alloc (.cells (madeCells #[.int .u64 0,.int .u64 0] (N * 2)) 265))).alloc (.cells #[.slice (some ⟨g,0,none⟩) N N,.int .u64 0] 268)).at O (fun h=>h);rw[<-c]at d f V;rw[<-M]at f;rw[show (w.alloc (.cells (madeCells #[.int .u64 0,.int .u64 0] (N * 2)) 265)).heap.size=a by rw[b];simp]at d;exact⟨⟨_,f,by rw[size_madeCells];omega,fun i K=>by omega⟩,d,V⟩
 rw[<-c];have F:Hid (w.heap.size<=a/\w.heap.size<=g/\a≠g):=dh (by omega);clear c M b B C D;go_loopg [15] N (fun m t wr=>∃j:Nat,j<=N/\m=N - j/\t=.int .i64 j/\zl wr g N j/\wr.heap[a]? = some (.cells #[.slice (some ⟨g,0,none⟩) N N,.int .u64 0] 268 (0,0))/\Keeps (fun _=>False) w wr)
 case atStart=>exact⟨0,Nat.zero_le _,rfl,rfl,U⟩
 case round =>
  clear U;obtain⟨j,hj,G,rfl,l,s,o⟩:=hrel;have HK:=dh G;clear G;by_cases H:j<N
  ·obtain⟨⟨v,u,d0,d1⟩,df⟩:=l.cells H;have b0:=dw s 0;have b1:=dw s 1;have I:=l.step H;have ks:=((Keeps.refl (fun q=>q=g) wr).setCell (p:=⟨g,j * 2,none⟩) (.inl rfl) (.int .u64 1)).setCell (p:=⟨g,j * 2+1,none⟩) (.inl rfl) (.int .u64 1);have Q:=dh (dn I (dn (ks.at s F.out.2.2) (o.trans ks (fun x hx e=>by have:=F.out;omega))));have aa:(wr.setCell ⟨g,j * 2,none⟩ (.int .u64 1)).cell? ⟨g,j * 2+1,none⟩=some u:=by obtain⟨R,J,h2,h3⟩:=l;have:=dw (jM J (j * 2) (.int .u64 1)) (j * 2+1);rw[this,Array.getElem?_setIfInBounds_ne (by omega),<-dw J (j * 2+1),d1]
   have ab:∀i,(wr.setCell ⟨g,j * 2,none⟩ (.int .u64 1)).frozen? ⟨g,i,none⟩=false:=fun i=>by obtain⟨R,J,h2,h3⟩:=l;exact dx (jM J (j * 2) (.int .u64 1)) i
   clear I ks l s o;go_wp2_with fail;go_roundg (N - (j+1))
   case measure=>rw[HK.out];omega
   case rel=>exact⟨j+1,by omega,rfl,by go_num,Q.out⟩
  ·obtain rfl:j=N:=by omega
   have Q:Hid (qH wr a g (CM.new (2 ^ k))/\w.heap.size<=a/\w.heap.size<=g/\Keeps (fun _=>False) w wr):=dh ⟨⟨by rw[<-L.out];simpa [CM.new]using s,by rw[<-L.out];exact l.done,F.out.2.2⟩,F.out.1,F.out.2.1,o⟩;clear l s o;go_wp2;go_ret;exact⟨a,g,rfl,by rw[L.out];exact Q.out⟩
end
