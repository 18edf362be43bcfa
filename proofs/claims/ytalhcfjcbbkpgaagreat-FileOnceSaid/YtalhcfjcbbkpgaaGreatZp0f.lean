import Derived.Test.YtalhcfjcbbkpgaaGreatZp0e
set_option maxRecDepth 100000
set_option maxHeartbeats 4000000
namespace Go.Proofs.YtalhcfjcbbkpgaaGreat
section
open Go.RowKit
open Go.Maps (Keyed)
theorem F6(w:World):(zeroValue 3).run Tryz.prog w=.ok (.int .i64 0) w:=by kernel_rfl
theorem Gf{k:Nat}(b:k<=1000000000000):(Lit.int .i64 (k:Int)).wf=true:=by have a:(Lit.int .i64 (k:Int)).wf=(decide (IntKind.i64.min<=(k:Int)) && decide ((k:Int)<=IntKind.i64.max)):=rfl;rw[a,show IntKind.i64.min=-9223372036854775808 by decide,show IntKind.i64.max=9223372036854775807 by decide];simp;omega
end
section
open Go.RowKit
theorem RZ{a:List (Nat × Nat)}{d k x:Nat}(h:jX a (d / 2)=some x)(e:Nat):jX a e=jX (a ++ [(d,k)]) e:=by
 rw[IE];by_cases b:d / 2=e
 ·subst b;rw[h]
 ·rw[if_neg b];cases jX a e <;> rfl
end
section
open Go.RowKit
end
section
open Go.RowKit
def fV(ps:List (List Int)):Int:=(ps.map fun p=>p.getD 4 0).sum
theorem LV{ps:List (List Int)}{j:Nat}{p:List Int}(h:ps[j]? = some p):fV (ps.take (j+1))=fV (ps.take j)+p.getD 4 0:=by unfold fV;rw[oW h,List.map_append,List.sum_append];simp
def Ei(ps:List (List Int)):Prop:=∀p ∈ ps,∃a b c z3 z4:Int,p=[a,b,c,z3,z4]/\-9000000<=z4/\z4<=9000000
theorem R8{ps:List (List Int)}(h:Ei ps):∀j,j<=ps.length->-9000000 * (j:Int)<=fV (ps.take j)/\fV (ps.take j)<=9000000 * (j:Int):=by
 intro j
 induction j with
 | zero=>intro _;simp[fV]
 | succ j b =>
  intro d;obtain⟨e,f⟩:=b (by omega);have a:=List.getElem?_eq_getElem (l:=ps) (i:=j) (by omega);rw[LV a];obtain⟨g,k,m,z3,z4,c,n,o⟩:=h _ (List.mem_of_getElem? a);rw[c];simp only [List.getD_cons_succ,List.getD_cons_zero];omega
theorem R9(s:List Nat)(b:s.length<=1000000)(lone:Nat):Ei (jN s lone):=by
 intro p a;rcases List.mem_append.1 a with a|a
 ·obtain⟨d,_,rfl⟩:=List.mem_map.1 a;have c:=Dc s (kS s) (eP s.length (sg s) d) s.length;have e:=Dc (dS s) (kS s) (eP s.length (sg s) d) s.length;have f:=RN (kS s) (eP s.length (sg s) d) s.length;refine⟨_,_,_,_,_,rfl,?_⟩;unfold vO Df Dh BJ;exact RO (M:=9000000) (by omega) (by omega)
 ·obtain⟨_,rfl⟩:=List.mem_replicate.1 a;exact⟨_,_,_,_,_,rfl,by decide,by decide⟩
theorem q24(s:List Nat)(lone:Nat):(jN s lone).length=dX s.length (sg s) s.length+lone:=by unfold jN;rw[List.length_append,xF,List.length_replicate]
def vP(s:List Nat)(lone:Nat)(rt:Int)(ks:List Nat)(c:Nat):Prop :=
 (dX s.length (sg s) s.length+lone≠1/\c=8/\ks=[]) \/
 (dX s.length (sg s) s.length+lone=1/\fV (jN s lone)≠0/\c=7/\ks=[]) \/
 (dX s.length (sg s) s.length+lone=1/\fV (jN s lone)=0/\c=0/\s.length=0/\ks=[]) \/
 (dX s.length (sg s) s.length+lone=1/\fV (jN s lone)=0/\c=0/\∃root T:Nat,rt=root/\root<s.length/\iV s.length (sg s) (vnum (sg s)) root T/\ks=jk (eD (sg s) (vnum (sg s)) root T).2)
end
section
open Go.RowKit
theorem nu{W:World}{B:Nat}{t:TypeId}{a b c:Value}(d:W.heap[B]? = some (.cells #[a,b,c] t (0,0)))(x y z:Value) :
  (((W.setCell ⟨B,0,none⟩ x).setCell ⟨B,1,none⟩ y).setCell ⟨B,2,none⟩ z).heap[B]? = some (.cells #[x,y,z] t (0,0))/\Keeps (fun k=>k=B) W (((W.setCell ⟨B,0,none⟩ x).setCell ⟨B,1,none⟩ y).setCell ⟨B,2,none⟩ z) :=
 ⟨jM (jM (jM d 0 x) 1 y) 2 z,(((Keeps.refl (fun k=>k=B) W).setCell (p:=⟨B,0,none⟩) (.inl rfl) x).setCell (p:=⟨B,1,none⟩) (.inl rfl) y).setCell (p:=⟨B,2,none⟩) (.inl rfl) z⟩
theorem Sd(X:Value)(ps:List Nat)(P root:Nat)(w:World)(hp:Sl .u8 w X (dD ps))(Y:∀b ∈ ps,b<256)(hP:P<=1000)(hr:root<256) :
  Calls Tryz.prog 43 #[.int .i64 P,X,.int .u8 root] w fun e w'=>∃sv ks,e=.returned (fI sv (if ks.length=0 then -1 else ((root % ks.length:Nat):Int)) (if ks.length=0 then 1 else 0))/\Wd ks/\ks.length=2 * P/\dH w.heap.size w' sv (dD (dN ks))/\Keeps (fun _=>False) w w':=by
 have Z:=(Keeps.refl (fun _=>False) w).alloc (.cells #[.slice none 0 0,.int .i64 0,.int .i64 0] 27);have I:(w.alloc (.cells #[.slice none 0 0,.int .i64 0,.int .i64 0] 27)).heap[w.heap.size]? = some (.cells #[.slice none 0 0,.int .i64 0,.int .i64 0] 27 (0,0)):=heap_alloc_new w _;have hA:=QJ X ps P _ (hp.keeps Z (fun _ _ h=>h)) Y (by omega);have hsz0:(w.alloc (.cells #[.slice none 0 0,.int .i64 0,.int .i64 0] 27)).heap.size=w.heap.size+1:=by simp
 have J:=dh (dn Z I);clear hp Z I;go_enter Tryz.func43,Tryz.ntmps43;go_wp2_with fail;refine hA.mono ?_;rintro e w1 ⟨lv,ks,rfl,K,⟨h4,t,hB⟩,l⟩;have hW:Wd ks:=⟨h4,hB⟩
 have hD:=RY lv ks w1 K.sl hW (by omega);have L:=dh (dn hW t);have u:=J.out.1.trans l (fun _ _ h=>h);have M:=l.at J.out.2 (fun h=>h);have aa:=l.size;clear hA K l t h4 hB hW;go_wp2_with fail;refine hD.mono ?_;rintro e m ⟨sv,rfl,g,o⟩;have y:=u.trans o (fun _ _ h=>h);have N:=o.at M (fun h=>h);have ab:=o.size;obtain⟨a,cap,rfl,_,_⟩:=g.form;rw[q01,pG]at *;clear hD u M o;obtain⟨rt,D⟩:∃rt:Int,rt=(if ks.length=0 then -1 else 0):=⟨_,rfl⟩
 obtain⟨ln,E⟩:∃ln:Int,ln=(if ks.length=0 then 1 else 0):=⟨_,rfl⟩
 rw[<-D,<-E];unfold fI;have d:=heap_alloc_new m (.cells #[.slice a ks.length cap,.int .i64 rt,.int .i64 ln] 27);have O:=((Keeps.refl (fun _=>False) m).alloc (.cells #[.slice a ks.length cap,.int .i64 rt,.int .i64 ln] 27)).at N (fun h=>h);have z:=y.alloc (.cells #[.slice a ks.length cap,.int .i64 rt,.int .i64 ln] 27);have A:=g.alloc (.cells #[.slice a ks.length cap,.int .i64 rt,.int .i64 ln] 27);have F:m.heap.size≠w.heap.size:=by omega
 have d0:=dw d 0;have ad:ks.length<=2000:=by have:=L.out.2;omega
 generalize hn:ks.length=n at *;have G:=dh (dn hn (dn D E));have B:∀q,(Value.slice a n cap).ownBlock=some q->w1.heap.size<=q:=fun q f=>(g.lt q f).1;have C:∀q,(Value.slice a n cap).ownBlock=some q->q<m.heap.size:=fun q f=>(g.lt q f).2;have c:=dh (dn z (dn O (dn A (dn B C))));clear hn D E y N g z O A B C;generalize ae:m.alloc (.cells #[.slice a n cap,.int .i64 rt,.int .i64 ln] 27)=w3 at *;by_cases af:0<n
 rotate_left
 ·have bt:decide ((0:Int)<(n:Int))=false:=decide_eq_false (by omega);have V:Hid (n=0):=dh (by omega);have d1:=dw d 1;have d2:=dw d 2;have zz:=dx c.out.2.1;have e0:=dw c.out.2.1 0;have e1:=dw c.out.2.1 1;have e2:=dw c.out.2.1 2;go_wp2;obtain⟨H,Q⟩:=nu c.out.2.1 (.slice a n cap) (.int .i64 rt) (.int .i64 ln);have R:=dw H 0;have S:=dw H 1;have T:=dw H 2;refine bodyPost_ret (v:=fI (.slice a n cap) rt ln) ?_ rfl ⟨_,ks,?_,L.out.1,by rw[G.out.1];exact L.out.2,(c.out.2.2.1.keeps Q (fun q f e=>by have:=c.out.2.2.2.1 q f;omega)).mono (fun q f=>by have:=c.out.2.2.2.1 q f;omega),c.out.1.trans Q (fun x hx e=>by omega)⟩
  ·simp at R S T;simp[results,Tryz.results43,go_sem,fI,R,S,T]
  ·rw[G.out.1,if_pos V.out,if_pos V.out,G.out.2.1,G.out.2.2,if_pos V.out,if_pos V.out]
 ·have bt:decide ((0:Int)<(n:Int))=true:=decide_eq_true (by omega);obtain⟨r,s⟩:∃r,r=root % n:=⟨_,rfl⟩
  have ag:r<n:=by rw[s];exact Nat.mod_lt _ (by omega)
  have er:((root:Nat):Int).tmod (n:Int)=(r:Int):=by rw[s,Int.tmod_eq_emod_of_nonneg (by omega)];simp
  have ah:¬(n:Int)=0:=by omega
  have W:Hid (r=root % n/\¬n=0):=dh ⟨s,by omega⟩;have i:(w3.setCell ⟨m.heap.size,1,none⟩ (.int .i64 (r:Int))).heap[m.heap.size]? = some (.cells #[.slice a n cap,.int .i64 r,.int .i64 ln] 27 (0,0)):=jM d 1 _;have k4:=(Keeps.refl (fun k=>k=m.heap.size) w3).setCell (p:=⟨m.heap.size,1,none⟩) (.inl rfl) (.int .i64 (r:Int));have j:=k4.at c.out.2.1 (fun e=>F e.symm);have d1:=dw d 1;have y1:=dx d 1;have f0:=dw i 0;have f1:=dw i 1;have f2:=dw i 2;have zz:=dx j;have e0:=dw j 0;have e1:=dw j 1;have e2:=dw j 2;clear s;go_wp2;obtain⟨H,Q⟩:=nu j (.slice a n cap) (.int .i64 r) (.int .i64 ln);have R:=dw H 0;have S:=dw H 1;have T:=dw H 2;have U:=c.out.2.2.1.keeps k4 (fun q f e=>by have:=c.out.2.2.2.2 q f;omega);have kk:=c.out.1.trans k4 (fun x hx e=>by omega);refine bodyPost_ret (v:=fI (.slice a n cap) r ln) ?_ rfl ⟨_,ks,?_,L.out.1,by rw[G.out.1];exact L.out.2,(U.keeps Q (fun q f e=>by have:=c.out.2.2.2.1 q f;omega)).mono (fun q f=>by have:=c.out.2.2.2.1 q f;omega),kk.trans Q (fun x hx e=>by omega)⟩
  ·simp at R S T;simp[results,Tryz.results43,go_sem,fI,R,S,T]
  ·rw[G.out.1,if_neg W.out.2,if_neg W.out.2,G.out.2.2,if_neg W.out.2,W.out.1]
end
section
def Ar(r:Nat):Nat:=if r % 2=0 then r / 2 else (r / 2) ^^^ 3988292384
def nY:Nat->Nat->Nat
 | 0,r=>r
 | n+1,r=>Ar (nY n r)
def BK(r b:Nat):Nat:=nY 8 (r ^^^ b)
def oH(bs:List Nat):Nat:=bs.foldl BK 4294967295
def mO(bs:List Nat):Nat:=oH bs ^^^ 4294967295
theorem Si{r:Nat}(h:r<4294967296):Ar r<4294967296:=by
 unfold Ar;split
 ·omega
 ·exact Nat.xor_lt_two_pow (n:=32) (by omega) (by decide)
theorem LW{r:Nat}(h:r<4294967296):∀n,nY n r<4294967296:=by
 intro n
 induction n with
 | zero=>exact h
 | succ n a=>exact Si a
theorem Sj{r b:Nat}(h:r<4294967296)(a:b<256):BK r b<4294967296 :=
 LW (Nat.xor_lt_two_pow (n:=32) h (by omega)) 8
theorem LX:∀(bs:List Nat) (r:Nat),(∀b ∈ bs,b<256)->r<4294967296->bs.foldl BK r<4294967296:=by
 intro bs
 induction bs with
 | nil=>intro r _ h;exact h
 | cons b bs c=>intro r a h;exact c _ (fun x d=>a x (by simp[d])) (Sj h (a b (by simp)))
theorem LY{bs:List Nat}(h:∀b ∈ bs,b<256):mO bs<4294967296 :=
 Nat.xor_lt_two_pow (n:=32) (LX bs _ h (by decide)) (by decide)
def four(x:Nat):List Nat:=[x % 256,x / 256 % 256,x / 65536 % 256,x / 16777216 % 256]
theorem Sm(x:Nat):∀b ∈ four x,b<256:=by intro b a;simp only [four,List.mem_cons,List.not_mem_nil,or_false]at a;omega
end
