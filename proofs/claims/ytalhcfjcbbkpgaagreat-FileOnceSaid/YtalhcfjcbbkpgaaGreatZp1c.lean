import Derived.Test.YtalhcfjcbbkpgaaGreatZp19
import Derived.Test.YtalhcfjcbbkpgaaGreatZp1b
set_option maxRecDepth 100000
set_option maxHeartbeats 4000000
namespace Go.Proofs.YtalhcfjcbbkpgaaGreat
section
open Go.RowKit
def kL(gt go:Nat)(vt vo:Value)(wr:World)(a c:Value)(w':World):Prop:=Keeps (fun k=>k=gt\/k=go\/vt.ownBlock=some k\/vo.ownBlock=some k) wr w' /\
 (∀q,a.ownBlock=some q->vt.ownBlock=some q\/wr.heap.size<=q)/\∀q,c.ownBlock=some q->vo.ownBlock=some q\/wr.heap.size<=q
theorem kL.refl(gt go:Nat)(vt vo:Value)(wr:World):kL gt go vt vo wr vt vo wr:=⟨Keeps.refl _ _,fun _ h=>.inl h,fun _ h=>.inl h⟩
theorem kL.still{gt go:Nat}{vt vo a c:Value}{wr w1 d:World}(h:kL gt go vt vo wr a c w1)(k:Keeps (fun _=>False) w1 d):kL gt go vt vo wr a c d:=⟨h.1.trans k (fun _ _ e=>e.elim),h.2⟩
theorem kL.trans{gt go:Nat}{vt vo a c d f:Value}{wr w1 i:World}(h:kL gt go vt vo wr a c w1)(k:kL gt go a c w1 d f i):kL gt go vt vo wr d f i:=by
 have j:=h.1.size;refine⟨h.1.trans k.1 (fun x l e=>?_),fun q g=>?_,fun q g=>?_⟩
 ·rcases e with e|e|e|e
  ·exact .inl e
  ·exact .inr (.inl e)
  ·rcases h.2.1 x e with e|e
   ·exact .inr (.inr (.inl e))
   ·omega
  ·rcases h.2.2 x e with e|e
   ·exact .inr (.inr (.inr e))
   ·omega
 ·rcases k.2.1 q g with e|e
  ·exact h.2.1 q e
  ·exact .inr (by omega)
 ·rcases k.2.2 q g with e|e
  ·exact h.2.2 q e
  ·exact .inr (by omega)
structure iy (w0:World)(b:Nat)(s:List Nat)(root lone:Int)(R Mw:Nat->Prop)(bw dL:Nat)(dv:Value)(k0 k1 k2:Nat)(ol:List Int)(ds:List Nat)(bt gt go fst lst:Nat)(vt vo:Value)(tw ow:List Bool)(wr:World):Prop where
 wm:WM w0 b s root lone R (fun x=>Mw x\/x=bt\/x=gt\/x=go\/vt.ownBlock=some x\/vo.ownBlock=some x) bw dL dv k0 k1 k2 ol ds wr
 mw:Mw bw/\Mw dL/\∀q,dv.ownBlock=some q->Mw q
 tb:wr.heap[bt]? = some (.cells #[.pointer (some ⟨bw,0,none⟩),.pointer (some ⟨b,0,none⟩),.pointer (some ⟨gt,0,none⟩),.pointer (some ⟨go,0,none⟩),.int .i64 fst,.int .i64 lst] 225 (0,0))
 tr:eX wr gt vt tw
 on:eX wr go vo ow
 ne:¬Mw bt/\¬Mw gt/\¬Mw go/\bt≠gt/\bt≠go/\gt≠go
 nt:∀q,vt.ownBlock=some q->¬Mw q/\q≠bt/\q≠gt/\q≠go/\¬vo.ownBlock=some q
 no:∀q,vo.ownBlock=some q->¬Mw q/\q≠bt/\q≠gt/\q≠go
section
variable {w0:World} {b:Nat} {s:List Nat} {root lone:Int} {R Mw:Nat->Prop} {bw dL:Nat} {dv:Value} {k0 k1 k2:Nat} {ol:List Int} {ds:List Nat} {bt gt go fst lst:Nat} {vt vo:Value} {tw ow:List Bool} {wr:World} (h:iy w0 b s root lone R Mw bw dL dv k0 k1 k2 ol ds bt gt go fst lst vt vo tw ow wr)
include h
theorem iy.still{a:World}(k:Keeps (fun _=>False) wr a):iy w0 b s root lone R Mw bw dL dv k0 k1 k2 ol ds bt gt go fst lst vt vo tw ow a :=
 ⟨h.wm.still k,h.mw,k.at h.tb (fun h=>h),h.tr.keeps k (fun h=>h) (fun _ _ h=>h),h.on.keeps k (fun h=>h) (fun _ _ h=>h),h.ne,h.nt,h.no⟩
theorem iy.drewN(q:Nat):iy w0 b s root lone R Mw bw dL dv k0 k1 k2 ol ds bt gt go fst lst vt vo tw ow (wr.drewN q):=h.still ((Keeps.refl _ wr).drewN q)
theorem iy.old{x:Nat}(a:Mw x):x<wr.heap.size:=(h.wm.m.mb x (.inl a)).2
theorem iy.c0:wr.cell? ⟨bt,0,none⟩=some (.pointer (some ⟨bw,0,none⟩)):=dw h.tb 0
theorem iy.c1:wr.cell? ⟨bt,1,none⟩=some (.pointer (some ⟨b,0,none⟩)):=dw h.tb 1
theorem iy.c2:wr.cell? ⟨bt,2,none⟩=some (.pointer (some ⟨gt,0,none⟩)):=dw h.tb 2
theorem iy.c3:wr.cell? ⟨bt,3,none⟩=some (.pointer (some ⟨go,0,none⟩)):=dw h.tb 3
theorem iy.c4:wr.cell? ⟨bt,4,none⟩=some (.int .i64 fst):=dw h.tb 4
theorem iy.c5:wr.cell? ⟨bt,5,none⟩=some (.int .i64 lst):=dw h.tb 5
theorem iy.yA{W i:World}{l:List Bool}(p:Keeps (fun _=>False) wr W)(A:eY W gt vt l i):∃g,iy w0 b s root lone R Mw bw dL dv k0 k1 k2 ol ds bt gt go fst lst g vo l ow i/\kL gt go vt vo wr g vo i:=by
 obtain⟨u,v,w,B⟩:=A;have f:Keeps (fun k=>k=gt\/vt.ownBlock=some k) wr i:=(p.mono (fun _ _ e=>e.elim)).trans w (fun _ _ e=>e);obtain⟨G,o,H,C,I,D⟩:=h.ne;have E:=p.size;have y:=w.size;have F:=h.wm.m.bw;have z:∀x,(Mw x\/x=bt\/x=gt\/x=go\/vt.ownBlock=some x\/vo.ownBlock=some x)->x≠b:=fun x a=>h.wm.nb a
 have d:∀q,u.ownBlock=some q->(vt.ownBlock=some q\/wr.heap.size<=q):=fun q c=>by
  rcases B with e|⟨k,e,j⟩
  ·exact .inl (by rw[<-e];exact c)
  ·rw[c]at e;obtain rfl:=Option.some.inj e;exact .inr (by omega)
 refine⟨u,⟨⟨h.wm.m.own (f.mono (fun x _ e=>?_)) (fun x a=>?_),h.wm.t.keeps f (fun e=>?_),h.wm.W.keeps f (fun e=>?_) (fun e=>?_) (fun q c e=>?_),.inl h.mw.1,.inl h.mw.2.1,fun q c=>.inl (h.mw.2.2 q c)⟩,h.mw,f.at h.tb (fun e=>?_),v,h.on.keeps f (fun e=>?_) (fun q c e=>?_),h.ne,fun q c=>?_,h.no⟩,f.mono (fun x _ e=>by rcases e with e|e;exact .inl e;exact .inr (.inr (.inl e))),d,fun q c=>.inl c⟩
 ·rcases e with e|e
  ·exact .inr (.inr (.inl e))
  ·exact .inr (.inr (.inr (.inr (.inl e))))
 ·rcases a with a|a|a|a|a|a
  ·exact .inl (.inl a)
  ·exact .inl (.inr (.inl a))
  ·exact .inl (.inr (.inr (.inl a)))
  ·exact .inl (.inr (.inr (.inr (.inl a))))
  ·rcases d x a with e|e
   ·exact .inl (.inr (.inr (.inr (.inr (.inl e)))))
   ·exact .inr ⟨e,(v.apart x a).2⟩
  ·exact .inl (.inr (.inr (.inr (.inr (.inr a)))))
 ·rcases e with e|e
  ·exact z gt (.inr (.inr (.inl rfl))) e.symm
  ·exact z b (.inr (.inr (.inr (.inr (.inl e))))) rfl
 ·rcases e with e|e
  ·exact o (e ▸ h.mw.1)
  ·exact(h.nt _ e).1 h.mw.1
 ·rcases e with e|e
  ·exact o (e ▸ h.mw.2.1)
  ·exact(h.nt _ e).1 h.mw.2.1
 ·rcases e with e|e
  ·exact o (e ▸ h.mw.2.2 q c)
  ·exact(h.nt _ e).1 (h.mw.2.2 q c)
 ·rcases e with e|e
  ·exact C e
  ·exact(h.nt _ e).2.1 rfl
 ·rcases e with e|e
  ·exact D e.symm
  ·exact(h.nt _ e).2.2.2.1 rfl
 ·rcases e with e|e
  ·exact(h.no q c).2.2.1 e
  ·exact(h.nt q e).2.2.2.2 c
 ·rcases d q c with e|e
  ·exact h.nt q e
  ·have J:=lt_of_block h.tb;have L:=h.tr.lt;have M:=h.on.lt;refine⟨fun j=>by have:=h.old j;omega,by omega,by omega,by omega,fun j=>by have:=(h.on.apart q j).2;omega⟩
theorem iy.CU{W j:World}{l:List Bool}(p:Keeps (fun _=>False) wr W)(A:eY W go vo l j):∃g,iy w0 b s root lone R Mw bw dL dv k0 k1 k2 ol ds bt gt go fst lst vt g tw l j/\kL gt go vt vo wr vt g j:=by
 obtain⟨u,v,w,B⟩:=A;have f:Keeps (fun k=>k=go\/vo.ownBlock=some k) wr j:=(p.mono (fun _ _ e=>e.elim)).trans w (fun _ _ e=>e);obtain⟨H,I,o,J,C,D⟩:=h.ne;have E:=p.size;have y:=w.size;have z:∀x,(Mw x\/x=bt\/x=gt\/x=go\/vt.ownBlock=some x\/vo.ownBlock=some x)->x≠b:=fun x c=>h.wm.nb c
 have d:∀q,u.ownBlock=some q->(vo.ownBlock=some q\/wr.heap.size<=q):=fun q a=>by
  rcases B with e|⟨k,e,i⟩
  ·exact .inl (by rw[<-e];exact a)
  ·rw[a]at e;obtain rfl:=Option.some.inj e;exact .inr (by omega)
 refine⟨u,⟨⟨h.wm.m.own (f.mono (fun x _ e=>?_)) (fun x c=>?_),h.wm.t.keeps f (fun e=>?_),h.wm.W.keeps f (fun e=>?_) (fun e=>?_) (fun q a e=>?_),.inl h.mw.1,.inl h.mw.2.1,fun q a=>.inl (h.mw.2.2 q a)⟩,h.mw,f.at h.tb (fun e=>?_),h.tr.keeps f (fun e=>?_) (fun q a e=>?_),v,h.ne,fun q a=>?_,fun q a=>?_⟩,f.mono (fun x _ e=>by rcases e with e|e;exact .inr (.inl e);exact .inr (.inr (.inr e))),fun q a=>.inl a,d⟩
 ·rcases e with e|e
  ·exact .inr (.inr (.inr (.inl e)))
  ·exact .inr (.inr (.inr (.inr (.inr e))))
 ·rcases c with c|c|c|c|c|c
  ·exact .inl (.inl c)
  ·exact .inl (.inr (.inl c))
  ·exact .inl (.inr (.inr (.inl c)))
  ·exact .inl (.inr (.inr (.inr (.inl c))))
  ·exact .inl (.inr (.inr (.inr (.inr (.inl c)))))
  ·rcases d x c with e|e
   ·exact .inl (.inr (.inr (.inr (.inr (.inr e)))))
   ·exact .inr ⟨e,(v.apart x c).2⟩
 ·rcases e with e|e
  ·exact z go (.inr (.inr (.inr (.inl rfl)))) e.symm
  ·exact z b (.inr (.inr (.inr (.inr (.inr e))))) rfl
 ·rcases e with e|e
  ·exact o (e ▸ h.mw.1)
  ·exact(h.no _ e).1 h.mw.1
 ·rcases e with e|e
  ·exact o (e ▸ h.mw.2.1)
  ·exact(h.no _ e).1 h.mw.2.1
 ·rcases e with e|e
  ·exact o (e ▸ h.mw.2.2 q a)
  ·exact(h.no _ e).1 (h.mw.2.2 q a)
 ·rcases e with e|e
  ·exact C e
  ·exact(h.no _ e).2.1 rfl
 ·rcases e with e|e
  ·exact D e
  ·exact(h.no _ e).2.2.1 rfl
 ·rcases e with e|e
  ·exact(h.nt q a).2.2.2.1 e
  ·exact(h.nt q a).2.2.2.2 e
 ·obtain⟨F,G,a3,a4,a5⟩:=h.nt q a;refine⟨F,G,a3,a4,fun e=>?_⟩;rcases d q e with i|i
  ·exact a5 i
  ·have:=(h.tr.apart q a).2;omega
 ·rcases d q a with e|e
  ·exact h.no q e
  ·have L:=lt_of_block h.tb;have M:=h.tr.lt;have O:=h.on.lt;exact⟨fun i=>by have:=h.old i;omega,by omega,by omega,by omega⟩
theorem iy.Fj(z:Int)(x:Bool)(g:x=!(z == 0))(i:tw.length<900000000) :
  Calls Tryz.prog 136 #[.pointer (some ⟨gt,0,none⟩),.slice (some ⟨wr.heap.size,0,none⟩) 1 1] (wr.alloc (.cells #[.int .i64 z] 3)) fun e w'=>e=.returned (.tuple #[])/\∃a,iy w0 b s root lone R Mw bw dL dv k0 k1 k2 ol ds bt gt go fst lst a vo (tw ++ [x]) ow w'/\kL gt go vt vo wr a vo w':=by
 have c:=(Keeps.refl (fun _=>False) wr).alloc (.cells #[.int .i64 z] 3);refine(DK gt vt tw (.slice (some ⟨wr.heap.size,0,none⟩) 1 1) [z] _ (h.tr.keeps c (fun h=>h) (fun _ _ h=>h)) (Sl.one wr .i64 z _) (fun q d=>?_) (by simp;omega)).mono ?_
 ·simp only [Value.ownBlock,Option.some.injEq]at d;subst d;exact⟨by have:=h.tr.lt;omega,fun e=>by have:=(h.tr.apart _ e).2;omega⟩
 ·rintro e w' ⟨rfl,f⟩;rw[show q0z [z]=[x] by rw[g];rfl]at f;exact⟨rfl,h.yA c f⟩
theorem iy.CV(z:Int)(x:Bool)(g:x=!(z == 0))(i:ow.length<900000000) :
  Calls Tryz.prog 136 #[.pointer (some ⟨go,0,none⟩),.slice (some ⟨wr.heap.size,0,none⟩) 1 1] (wr.alloc (.cells #[.int .i64 z] 3)) fun e w'=>e=.returned (.tuple #[])/\∃a,iy w0 b s root lone R Mw bw dL dv k0 k1 k2 ol ds bt gt go fst lst vt a tw (ow ++ [x]) w'/\kL gt go vt vo wr vt a w':=by
 have c:=(Keeps.refl (fun _=>False) wr).alloc (.cells #[.int .i64 z] 3);refine(DK go vo ow (.slice (some ⟨wr.heap.size,0,none⟩) 1 1) [z] _ (h.on.keeps c (fun h=>h) (fun _ _ h=>h)) (Sl.one wr .i64 z _) (fun q d=>?_) (by simp;omega)).mono ?_
 ·simp only [Value.ownBlock,Option.some.injEq]at d;subst d;exact⟨by have:=h.on.lt;omega,fun e=>by have:=(h.on.apart _ e).2;omega⟩
 ·rintro e w' ⟨rfl,f⟩;rw[show q0z [z]=[x] by rw[g];rfl]at f;exact⟨rfl,h.CU c f⟩
end
end
section
open Go.RowKit
theorem qed{w:World}{bw b n dL:Nat}{dv:Value}{k0 k1 k2:Nat}{ol:List Int}{ds:List Nat}(h:kW w bw b n dL dv k0 k1 k2 ol ds)(d:Nat)(z:Int)(a:ol[d]? = some z) :
  Calls Tryz.prog 230 #[.pointer (some ⟨bw,0,none⟩),.int .i64 d] w fun e w'=>e=.returned (.int .i64 z)/\w=w':=by
 have c:d<n:=by rw[<-h.Dx];exact gX a
 have f:=h.c4;have g:=(h.out.cell a).1;have i:decide ((d:Int)<0)=false:=decide_eq_false (by omega);have j:decide (n<=d)=false:=decide_eq_false (by omega);have k:decide ((n:Int)<=(d:Int))=false:=decide_eq_false (by omega);clear h a;go_enter Tryz.func230,Tryz.ntmps230;go_wp2;go_ret;exact⟨rfl,rfl⟩
section
variable {w0:World} {b:Nat} {s:List Nat} {root lone:Int} {R Mw:Nat->Prop} {bw dL:Nat} {dv:Value} {k0 k1 k2:Nat} {ol:List Int} {ds:List Nat} {bt gt go fst lst:Nat} {vt vo:Value} {tw ow:List Bool} {wr:World} (h:iy w0 b s root lone R Mw bw dL dv k0 k1 k2 ol ds bt gt go fst lst vt vo tw ow wr)
include h
theorem Xk(d:Nat)(l:d<s.length)(z:Int)(k:ol[mt d]? = some z) :
  Calls Tryz.prog 189 #[.pointer (some ⟨bt,0,none⟩),.int .i64 d] wr fun e w'=>(∃q,w'=wr.drewN q)/\∃t:Bool,e=.returned (.bool t)/\(t=true↔z=0\/d=fst\/d=lst):=by
 have g:∀n,Calls Tryz.prog 77 #[.pointer (some ⟨b,0,none⟩),.int .i64 d] (wr.drewN n) fun e w'=>e=.returned (.int .i64 (mt d:Nat))/\wr.drewN n=w':=fun n=>by obtain⟨v,o,-,-⟩:=(h.drewN n).wm.m.mp;exact sZ o d l
 have i:∀n,Calls Tryz.prog 230 #[.pointer (some ⟨bw,0,none⟩),.int .i64 (mt d:Nat)] (wr.drewN n) fun e w'=>e=.returned (.int .i64 z)/\wr.drewN n=w':=fun n=>qed (h.drewN n).wm.W _ z k;have w:=h.c0;have x:=h.c1;have y:=h.c4;have A:=h.c5;clear h k;generalize mt d=m at *;by_cases c:z=0
 ·have p:(z == 0)=true:=by rw[c];rfl
  have j:=dh c;clear c;go_enter Tryz.func189,Tryz.ntmps189;go_wp2_with fail;go_quiet (first | (go_at_call 77;with_reducible exact nN (g _)) | (go_at_call 230;with_reducible exact nN (i _)));go_wp2;go_ret;exact⟨⟨_,rfl⟩,_,rfl,by simp[j.out]⟩
 ·have p:(z == 0)=false:=by rw[beq_eq_false_iff_ne];exact c
  have j:=dh c;clear c;by_cases f:d=fst
  ·have u:((d:Int) == (fst:Int))=true:=by rw[f];exact beq_self_eq_true _
   have a:=dh f;clear f;go_enter Tryz.func189,Tryz.ntmps189;go_wp2_with fail;go_quiet (first | (go_at_call 77;with_reducible exact nN (g _)) | (go_at_call 230;with_reducible exact nN (i _)));go_wp2;go_ret;exact⟨⟨_,rfl⟩,_,rfl,by simp[a.out]⟩
  ·have u:((d:Int) == (fst:Int))=false:=by rw[beq_eq_false_iff_ne];omega
   have a:=dh f;clear f
   have B:((d:Int) == (lst:Int))=decide (d=lst):=by
    by_cases e:d=lst
    ·rw[e];simp
    ·rw[decide_eq_false e,beq_eq_false_iff_ne];omega
   go_enter Tryz.func189,Tryz.ntmps189;go_wp2_with fail;go_quiet (first | (go_at_call 77;with_reducible exact nN (g _)) | (go_at_call 230;with_reducible exact nN (i _)));go_wp2;go_ret;exact⟨⟨_,rfl⟩,_,rfl,by simp[j.out,a.out]⟩
def vG(ol:List Int)(l:List Nat):Nat:=(l.filter fun y=>ol.getD (mt y) 0 == 1).length
omit h in
theorem Xl(ol:List Int){l:List Nat}{j y:Nat}{z:Int}(c:l[j]? = some y)(d:ol[mt y]? = some z):vG ol (l.take (j+1))=vG ol (l.take j)+if z=1 then 1 else 0:=by
 unfold vG;rw[oW c,List.filter_append,List.length_append];congr 1;have e:ol.getD (mt y) 0=z:=by rw[List.getD_eq_getElem?_getD,d];rfl
 by_cases a:z=1
 ·rw[if_pos a,List.filter_cons_of_pos (by rw[e,a];rfl)];rfl
 ·rw[if_neg a,List.filter_cons_of_neg (by rw[e];simpa using a)];rfl
omit h in
theorem Xm(ol:List Int)(l:List Nat)(j:Nat):vG ol (l.take j)<=j:=by unfold vG;have:=List.length_filter_le (fun y=>ol.getD (mt y) 0 == 1) (l.take j);rw[List.length_take]at this;omega
def Fp(ol:List Int)(l:List Nat)(d fst:Nat):List Bool:=(if d=fst then [true]else []) ++ (List.replicate (vG ol l) true ++ [false])
def Xn(w0:World)(b:Nat)(s:List Nat)(root lone:Int)(R Mw:Nat->Prop)(bw dL:Nat)(dv:Value)(k0 k1 k2:Nat)(ol:List Int)(ds:List Nat)(bt gt go fst lst:Nat)(vt vo:Value)(tw ow:List Bool)(wr:World)(e:Ending)(w':World):Prop :=
 e=.returned (.tuple #[])/\∃a c,iy w0 b s root lone R Mw bw dL dv k0 k1 k2 ol ds bt gt go fst lst a c tw ow w'/\kL gt go vt vo wr a c w'
theorem Xo(d:Nat)(hd:d<s.length)(av:tw.length<800000000)(aw:ow.length<800000000) :
  Calls Tryz.prog 188 #[.pointer (some ⟨bt,0,none⟩),.int .i64 d] wr (Xn w0 b s root lone R Mw bw dL dv k0 k1 k2 ol ds bt gt go fst lst vt vo (tw ++ [false]) (ow ++ Fp ol (jg (sg s) (mt d)) d fst) wr):=by
 obtain⟨R0,A,-,-⟩:=h.wm.m.mp;have HP:=dh (dn A.dR (dn A.even A.le));have ax:=A.le;have M:=dQ A.even hd;have ab:=h.wm.W.Dx;have al:=dh ab;have a:=h.Fj 0 false rfl (by omega);have c2:=h.c2;have HH:=dh h;clear h A ab;go_enter Tryz.func188,Tryz.ntmps188;go_wp2_with fail;refine a.mono ?_;rintro e w1 ⟨rfl,c,X,ad⟩;clear a c2;have c4:=X.c4;obtain⟨tb,ae⟩:∃tb:Bool,((d:Int) == (fst:Int))=tb:=⟨_,rfl⟩
 have Y:Hid (tb=true↔d=fst):=dh (by rw[<-ae,beq_iff_eq];omega);have E:=dh (dn X ad);clear X ad;go_upto_if 17 with fail;go_cut []from 18 to 24 (fun wz=>∃wx k,wx=wz/\iy w0 b s root lone R Mw bw dL dv k0 k1 k2 ol ds bt gt go fst lst c k (tw ++ [false]) (ow ++ if d=fst then [true]else []) wx/\kL gt go vt vo wr c k wx)
 case first =>
  cases tb
  ·have hn:¬d=fst:=fun e=>by cases Y.out.2 e
   have O:Hid (iy w0 b s root lone R Mw bw dL dv k0 k1 k2 ol ds bt gt go fst lst c vo (tw ++ [false]) (ow ++ if d=fst then [true]else []) w1/\kL gt go vt vo wr c vo w1):=dh (by rw[if_neg hn,List.append_nil];exact E.out);clear hn;go_wp2_with fail;go_meet;exact⟨_,_,rfl,O.out⟩
  ·have hp:d=fst:=Y.out.1 rfl;have a:=E.out.1.CV 1 true rfl (by omega);have c3:=E.out.1.c3;have HE:Hid ((ow ++ if d=fst then [true]else [])=ow ++ [true]):=dh (by rw[if_pos hp]);clear hp;go_wp2_with fail;refine a.mono ?_;rintro e J ⟨rfl,k,f,F⟩;have O:Hid (iy w0 b s root lone R Mw bw dL dv k0 k1 k2 ol ds bt gt go fst lst c k (tw ++ [false]) (ow ++ if d=fst then [true]else []) J/\kL gt go vt vo wr c k J):=dh (by rw[HE.out];exact⟨f,E.out.2.trans F⟩);clear a f F;go_wp2_with fail;go_meet;exact⟨_,_,rfl,O.out⟩
 case rest =>
  obtain⟨J,k,rfl,f,F⟩:=hcut;obtain⟨G,u⟩:∃o,o=ow ++ if d=fst then [true]else []:=⟨_,rfl⟩
  rw[<-u]at f
  have au:G.length<800000002:=by
   rw[u,List.length_append];have:(if d=fst then [true]else []:List Bool).length<=1:=by split <;> simp
   omega
  obtain⟨l,hl⟩:∃l,l=jg (sg s) (mt d):=⟨_,rfl⟩
  have am:Hid (ow ++ Fp ol (jg (sg s) (mt d)) d fst=(G ++ List.replicate (vG ol l) true) ++ [false]):=dh (by rw[u,hl];unfold Fp;simp only [List.append_assoc]);have an:l.length<=1000000:=by rw[hl,yG];have:=(HP.out.1.dM M).2.1;omega
  have ao:Hid (∀x ∈ l,x<s.length/\mt x<s.length):=dh (fun x hx=>by rw[hl]at hx;have:=HP.out.1.fK M ((HP.out.1.fU M).1 hx);exact⟨this,dQ HP.out.2.1 this⟩);have HA:Hid (∀W,Keeps (fun _=>False) J W->Calls Tryz.prog 229 #[.pointer (some ⟨b,0,none⟩),.int .i64 (mt d:Nat)] W fun e w'=>∃v,e=.returned v/\dH W.heap.size w' v (dD l)/\Keeps (fun _=>False) W w'):=dh (fun W Q=>by obtain⟨R',hA,-,-⟩:=(f.still Q).wm.m.mp;rw[hl];exact NS hA (mt d) M);have HM:Hid (∀W,Keeps (fun _=>False) J W->Calls Tryz.prog 77 #[.pointer (some ⟨b,0,none⟩),.int .i64 d] W fun e w'=>e=.returned (.int .i64 (mt d:Nat))/\W=w'):=dh (fun W Q=>by obtain⟨R',hA,-,-⟩:=(f.still Q).wm.m.mp;exact sZ hA d hd);have kr:=Keeps.refl (fun _=>False) J;have c1:=f.c1;have af:Hid (∀W,Keeps (fun _=>False) J W->W.cell? ⟨bt,1,none⟩=some (.pointer (some ⟨b,0,none⟩))):=dh (fun W Q=>(f.still Q).c1);have B:=dh (dn f F);clear f F u hl E Y ae c4;go_wp2_with fail;go_region_held3 (fun w'=>w'.cell? ⟨bt,1,none⟩=some (.pointer (some ⟨b,0,none⟩))) (first|exact c1|exact af.out _ kr.drew|exact af.out _ k3) (first | (go_at_call 77;refine(HM.out _ kr.drew).mono ?_;rintro e w' ⟨rfl,rfl⟩) | (go_at_call 229;refine(HA.out _ kr.drew).mono ?_;rintro e w3 ⟨v,rfl,w,Q⟩;have k3:Keeps (fun _=>False) J w3:=kr.drew.trans Q (fun _ _ h=>h);obtain⟨va,vc,rfl,-,-⟩:=w.form))
  all_goals
   have ag:=B.out.1.still k3;have Z:=B.out.2.still k3;have ap:wr.heap.size<=w3.heap.size:=Z.1.size
   have HS:Hid (∀W p,kL gt go c k w3 c p W->Sl .i64 W (.slice va l.length vc) (dD l)):=dh (fun W p hg=>by
    have:=w.keeps hg.1 (fun q hq e=>by
     have h1:=(w.lt q hq).1;have h2:=B.out.1.tr.lt;have h3:=B.out.1.on.lt;have ay:J.drew.heap.size=J.heap.size:=rfl;rcases e with e|e|e|e
     ·omega
     ·omega
     ·have:=(B.out.1.tr.apart q e).2;omega
     ·have:=(B.out.1.on.apart q e).2;omega)
    rw[q01]at this;exact this.sl)
   rw[q01];clear w Q k3 c1 kr ap;obtain⟨N,hN⟩:∃N,N=l.length:=⟨_,rfl⟩
   rw[<-hN]at HS an ⊢;have HN:=dh hN;clear hN;go_wp2_with fail;go_loopg [36] N (fun mu i wr=>∃j:Nat,j<=N/\mu=N - j/\i=.int .i64 j/\∃p,iy w0 b s root lone R Mw bw dL dv k0 k1 k2 ol ds bt gt go fst lst c p (tw ++ [false]) (G ++ List.replicate (vG ol (l.take j)) true) wr/\kL gt go c k w3 c p wr)
   case atStart=>exact⟨0,Nat.zero_le _,rfl,rfl,k,by simpa [vG]using ag,kL.refl _ _ _ _ _⟩
   case round =>
    clear ag;obtain⟨j,hj,ah,rfl,p,L,hg⟩:=hrel;have HG:=dh ah;clear ah;have aq:=Xm ol l j;by_cases U:j<N
    ·obtain⟨y,hy⟩:∃y,l[j]? = some y:=⟨_,List.getElem?_eq_getElem (by rw[<-HN.out];exact U)⟩
     have ai:=ao.out y (List.mem_of_getElem? hy);obtain⟨g,off,rfl,ar⟩:=(HS.out wr p hg).cellAt (jA hy);obtain⟨z,hz⟩:∃z,ol[mt y]? = some z:=⟨_,List.getElem?_eq_getElem (by rw[al.out];exact ai.2)⟩
     have H:=Xl ol hy hz;have hM:∀n,Calls Tryz.prog 77 #[.pointer (some ⟨b,0,none⟩),.int .i64 y] (wr.drewN n) fun e w'=>e=.returned (.int .i64 (mt y:Nat))/\wr.drewN n=w':=fun n=>by obtain⟨R',hA,-,-⟩:=(L.drewN n).wm.m.mp;exact sZ hA y ai.1
     have hO:∀n,Calls Tryz.prog 230 #[.pointer (some ⟨bw,0,none⟩),.int .i64 (mt y:Nat)] (wr.drewN n) fun e w'=>e=.returned (.int .i64 z)/\wr.drewN n=w':=fun n=>qed (L.drewN n).wm.W _ z hz;have c0:=L.c0;have c1:=L.c1;have aj:=dh (dn L hg);clear L hg hy hz;generalize mt y=my at *;go_wp2_with fail;go_quiet (first | (go_at_call 77;with_reducible exact nN (hM _)) | (go_at_call 230;with_reducible exact nN (hO _)));have C:=aj.out.1.drewN nq;have P:=aj.out.2.still ((Keeps.refl (fun _=>False) wr).drewN nq);clear hM hO c0 c1 ar;generalize wr.drewN nq=w4 at *;by_cases D:z=1
     ·have tz:(z == 1)=true:=by rw[D];rfl
      rw[if_pos D]at H;have a:=C.CV 1 true rfl (by rw[List.length_append,List.length_replicate];omega);have c3:=C.c3;have HE:Hid ((G ++ List.replicate (vG ol (l.take j)) true) ++ [true]=G ++ List.replicate (vG ol (l.take (j+1))) true):=dh (by rw[H,List.replicate_succ',List.append_assoc]);have aa:=dh P;clear D H C P;go_wp2_with fail;refine a.mono ?_;rintro e w5 ⟨rfl,ak,t,I⟩;rw[HE.out]at t;have O:=dh (dn t (aa.out.trans I));clear a t I;go_wp2_with fail;go_roundg (N - (j+1))
      case measure=>rw[HG.out];omega
      case rel=>exact⟨j+1,by omega,rfl,by go_num,ak,O.out⟩
     ·have tz:(z == 1)=false:=by rw[beq_eq_false_iff_ne];exact D
      rw[if_neg D]at H;have V:vG ol (l.take j)=vG ol (l.take (j+1)):=by omega
      rw[V]at C;clear V;have O:=dh (dn C P);clear D H C P;go_wp2_with fail;go_roundg (N - (j+1))
      case measure=>rw[HG.out];omega
      case rel=>exact⟨j+1,by omega,rfl,by go_num,p,O.out⟩
    ·obtain rfl:j=N:=by omega
     rw[List.take_of_length_le (by rw[HN.out];exact Nat.le_refl _)]at L aq;have a:=L.CV 0 false rfl (by rw[List.length_append,List.length_replicate];omega);have c3:=L.c3;have aa:=dh (Z.trans hg);clear L hg U Z;go_wp2_with fail;refine a.mono ?_;rintro e w5 ⟨rfl,ak,t,I⟩;rw[<-am.out]at t;have O:=dh (dn t (aa.out.trans I));clear a t I;go_wp2;go_end0;exact⟨rfl,_,_,O.out⟩
end
end
section
open Go.RowKit
def sH(S:Nat->Nat):List Nat->Int->Int->List (Int × Int)
 | [],cur,a=>[(cur,a)]
 | y :: l,cur,a=>(cur,((mt y:Nat):Int)) :: sH S l ((S y:Nat):Int) a
theorem yT(S:Nat->Nat):∀(l:List Nat) (c a:Int),(sH S l c a).length=l.length+1
 | [],_,_=>rfl
 | y :: l,c,a=>by simp only [sH,List.length_cons,yT S l]
noncomputable def jy(S:Nat->Nat)(r N k:Nat):Int:=open Classical in if ∃i,i<k/\S (jw S r N i)=fc S (fc S r)then ((fc S (fc S r):Nat):Int)else -1
theorem O6(S:Nat->Nat)(r N:Nat):jy S r N 0=-1:=by unfold jy;exact if_neg (fun ⟨i,h,_⟩=>by omega)
theorem O7{S:Nat->Nat}{r N k:Nat}(h:S (jw S r N k)=fc S (fc S r)):jy S r N (k+1)=((fc S (fc S r):Nat):Int):=by unfold jy;exact if_pos ⟨k,by omega,h⟩
theorem O9{S:Nat->Nat}{r N k:Nat}(h:S (jw S r N k)≠fc S (fc S r)):jy S r N (k+1)=jy S r N k:=by
 unfold jy;by_cases e:∃i,i<k/\S (jw S r N i)=fc S (fc S r)
 ·obtain⟨i,c,a⟩:=e;rw[if_pos ⟨i,by omega,a⟩,if_pos ⟨i,c,a⟩]
 ·rw[if_neg e,if_neg];rintro⟨i,c,a⟩;rcases Nat.lt_or_ge i k with d|d
  ·exact e ⟨i,d,a⟩
  ·obtain rfl:i=k:=by omega
   exact h a
theorem Pg(S:Nat->Nat)(r N k:Nat):jy S r N k=-1\/jy S r N k=((fc S (fc S r):Nat):Int):=by
 unfold jy;by_cases e:∃i,i<k/\S (jw S r N i)=fc S (fc S r)
 ·exact .inr (if_pos e)
 ·exact .inl (if_neg e)
noncomputable def kG(S:Nat->Nat)(r N k:Nat):List (Int × Int):=(sH S (fQ S r N k) ((jw S r N k:Nat):Int) (jy S r N k)).reverse
theorem Ph(S:Nat->Nat)(l:List Nat)(c a:Int):∃t,(sH S l c a).reverse[l.length]? = some (c,t)/\(∀d,(sH S l c a).reverse.set l.length (d,t)=(sH S l d a).reverse)/\((l=[]/\t=a)\/∃y l',l=y :: l'/\t=((mt y:Nat):Int)):=by
 rcases l with _|⟨y,l⟩
 ·exact⟨a,rfl,fun _=>rfl,.inl ⟨rfl,rfl⟩⟩
 ·refine⟨((mt y:Nat):Int),?_,fun d=>?_,.inr ⟨y,l,rfl,rfl⟩⟩
  ·simp only [sH,List.reverse_cons,List.length_cons];rw[List.getElem?_append_right (by rw[List.length_reverse,yT];omega)];simp[yT]
  ·simp only [sH,List.reverse_cons,List.length_cons];rw[List.set_append_right _ _ (by rw[List.length_reverse,yT];omega)];simp[yT]
section
variable {n:Nat} {S:Nat->Nat} (T:jO n S) {r:Nat} (hr:r<n) {N:Nat} (K:dJ n S r N)
include T hr K
theorem dJ.Fq:∃k,k<n/\S (jw S r N k)=fc S (fc S r):=by obtain⟨x,d,e⟩:=T.dR.back (T.gD (T.gD hr));obtain⟨i,c,a⟩:=(T.nU (r:=r) (N:=N)).iQ (T.gD (T.gD hr)) (K.span T hr x d);rw[K.qy T hr]at c;exact⟨i,c,by show S (itr _ _ _)=_;rw[a];exact e⟩
theorem dJ.zX:jy S r N n=((fc S (fc S r):Nat):Int):=by obtain⟨k,a,c⟩:=K.Fq T hr;unfold jy;exact if_pos ⟨k,a,c⟩
theorem dJ.tQ{k y:Nat}{l:List Nat}(a:k<=n)(h:fQ S r N k=y :: l):S (jw S r N k)≠fc S (fc S r):=by
 intro e;obtain⟨g,c⟩:=K.stk T hr k a;obtain⟨-,d⟩:=K.uG T hr a h;rw[h]at c;have f:vnum S (jw S r N k)=vnum S (fc S (fc S r)):=by rw[<-T.vS (T.sj hr k),e]
 exact K.qx T hr (y:=mt y) (by rw[dF];exact d) (by rw[<-f,c];rfl)
theorem dJ.zY{k y:Nat}{l:List Nat}(d:k<=n)(h:fQ S r N k=y :: l)(e:jw S r N k=mt y) :
  jw S r N (k+1)=S y/\fQ S r N (k+1)=l/\jy S r N (k+1)=jy S r N k/\iH S r N (k+1)=iH S r N k ++ [false]/\iE S r N (k+1)=iE S r N k ++ Fe S r N (jw S r N k):=by
 obtain⟨u1,u2⟩:=K.uG T hr d h;have a:kid S r N (mt (jw S r N k)):=u1.2 e;have c:¬kid S r N (jw S r N k):=fun c=>K.uF T hr c a;refine⟨?_,?_,O9 (K.tQ T hr d h),?_,?_⟩
 ·rw[G5];unfold kH;rw[if_pos (.inr a),e,dF]
 ·rw[fQ,if_neg c,if_pos a,h];rfl
 ·rw[iH];congr 1;unfold qM;rw[if_neg c,if_pos a]
 ·rw[iE];congr 1;unfold tN;rw[if_pos a]
theorem dJ.yB{k:Nat}(a:kid S r N (jw S r N k)) :
  jw S r N (k+1)=S (mt (jw S r N k))/\fQ S r N (k+1)=jw S r N k :: fQ S r N k/\iH S r N (k+1)=iH S r N k ++ [true]/\iE S r N (k+1)=iE S r N k:=by
 have c:¬kid S r N (mt (jw S r N k)):=fun c=>K.uF T hr a c;refine⟨?_,?_,?_,?_⟩
 ·rw[G5];unfold kH;rw[if_pos (.inl a)]
 ·rw[fQ,if_pos a]
 ·rw[iH];congr 1;unfold qM;rw[if_pos a]
 ·rw[iE];unfold tN;rw[if_neg c,List.append_nil]
omit T hr K in
theorem Xp{k:Nat}(c:¬kid S r N (jw S r N k))(a:¬kid S r N (mt (jw S r N k))) :
  jw S r N (k+1)=S (jw S r N k)/\fQ S r N (k+1)=fQ S r N k/\iH S r N (k+1)=iH S r N k/\iE S r N (k+1)=iE S r N k:=by
 refine⟨?_,?_,?_,?_⟩
 ·rw[G5];unfold kH;rw[if_neg (by rintro (h|h);exact c h;exact a h)]
 ·rw[fQ,if_neg c,if_neg a]
 ·rw[iH];unfold qM;rw[if_neg c,if_neg a,List.append_nil]
 ·rw[iE];unfold tN;rw[if_neg a,List.append_nil]
end
theorem iy.wait{w0:World}{b:Nat}{s:List Nat}{root lone:Int}{R Mw:Nat->Prop}{bw dL:Nat}{dv:Value}{k0 k1 k2:Nat}{ol:List Int}{ds:List Nat}{bt gt go fst lst:Nat}{vt vo:Value}{tw ow:List Bool}{wr j:World}{v v':Value}
  (h:iy w0 b s root lone R (fun x=>Mw x\/v.ownBlock=some x) bw dL dv k0 k1 k2 ol ds bt gt go fst lst vt vo tw ow wr)(k:Keeps (fun q=>v.ownBlock=some q) wr j)(g:Mw bw/\Mw dL/\∀q,dv.ownBlock=some q->Mw q)(l:∀q,v.ownBlock=some q->¬Mw q)
  (c:∀q,v'.ownBlock=some q->v.ownBlock=some q\/(wr.heap.size<=q/\q<j.heap.size)):iy w0 b s root lone R (fun x=>Mw x\/v'.ownBlock=some x) bw dL dv k0 k1 k2 ol ds bt gt go fst lst vt vo tw ow j:=by
 obtain⟨o,p,u,y,z,A⟩:=h.ne;have B:=lt_of_block h.tb;have C:=h.tr.lt;have D:=h.on.lt
 have f:∀x,v.ownBlock=some x->x≠bt/\x≠gt/\x≠go/\¬vt.ownBlock=some x/\¬vo.ownBlock=some x:=fun x d =>
  ⟨fun e=>o (.inr (e ▸ d)),fun e=>p (.inr (e ▸ d)),fun e=>u (.inr (e ▸ d)),fun e=>(h.nt x e).1 (.inr d),fun e=>(h.no x e).1 (.inr d)⟩
 refine⟨⟨h.wm.m.own (k.mono (fun x _ e=>.inl (.inr e))) (fun x d=>?_),h.wm.t.keeps k (fun e=>h.wm.nb (.inl (.inr e)) rfl),h.wm.W.keeps k (fun e=>l _ e g.1) (fun e=>l _ e g.2.1) (fun q a e=>l _ e (g.2.2 q a)),.inl (.inl g.1),.inl (.inl g.2.1),fun q a=>.inl (.inl (g.2.2 q a))⟩,
  ⟨.inl g.1,.inl g.2.1,fun q a=>.inl (g.2.2 q a)⟩,k.at h.tb (fun e=>(f _ e).1 rfl),h.tr.keeps k (fun e=>(f _ e).2.1 rfl) (fun q a e=>(f _ e).2.2.2.1 a),h.on.keeps k (fun e=>(f _ e).2.2.1 rfl) (fun q a e=>(f _ e).2.2.2.2 a),?_,fun q a=>?_,fun q a=>?_⟩
 ·rcases d with (d|d)|d
  ·exact .inl (.inl (.inl d))
  ·rcases c x d with e|e
   ·exact .inl (.inl (.inr e))
   ·exact .inr e
  ·exact .inl (.inr d)
 ·refine⟨?_,?_,?_,y,z,A⟩
  ·rintro (e|e)
   ·exact o (.inl e)
   ·rcases c _ e with e|e
    ·exact o (.inr e)
    ·omega
  ·rintro (e|e)
   ·exact p (.inl e)
   ·rcases c _ e with e|e
    ·exact p (.inr e)
    ·omega
  ·rintro (e|e)
   ·exact u (.inl e)
   ·rcases c _ e with e|e
    ·exact u (.inr e)
    ·omega
 ·obtain⟨i,w⟩:=h.nt q a;refine⟨?_,w⟩;rintro (e|e)
  ·exact i (.inl e)
  ·rcases c _ e with e|e
   ·exact i (.inr e)
   ·have:=(h.tr.apart q a).2;omega
 ·obtain⟨i,w⟩:=h.no q a;refine⟨?_,w⟩;rintro (e|e)
  ·exact i (.inl e)
  ·rcases c _ e with e|e
   ·exact i (.inr e)
   ·have:=(h.on.apart q a).2;omega
theorem J3{S:Nat->Nat}{r n N x:Nat}(a:x<n):(jK S r n N 0)[x]? = some (col S r N x):=by unfold jK col;rw[List.getElem?_map,List.getElem?_range a];rfl
theorem qm{n:Nat}{S:Nat->Nat}(T:jO n S){r N x:Nat}(c:x<n):Fp (jK S r n N 0) (jg S x) (mt x) (fc S (fc S r))=Fe S r N x:=by unfold Fp Fe vG qz;congr 3;congr 1;apply List.filter_congr;intro y d;have a:=T.dR.fK c ((T.dR.fU c).1 d);rw[List.getD_eq_getElem?_getD,J3 (T.mlt a)];rfl
theorem J4(S:Nat->Nat)(r N:Nat):∀k,(iH S r N k).length<=k
 | 0=>Nat.le_refl _
 | k+1=>by
  have:=J4 S r N k;rw[iH,List.length_append];have:(qM S r N (jw S r N k)).length<=1:=by unfold qM;split <;> (try split) <;> simp
  omega
theorem Pj(S:Nat->Nat)(r N:Nat){j:Nat}:∀k,(iE S r N j).length<=(iE S r N (j+k)).length
 | 0=>Nat.le_refl _
 | k+1=>by have:=Pj S r N (j:=j) k;rw[<-Nat.add_assoc,iE,List.length_append];omega
end
