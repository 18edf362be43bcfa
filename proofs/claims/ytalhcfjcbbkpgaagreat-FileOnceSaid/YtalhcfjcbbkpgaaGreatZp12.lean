import Derived.Test.YtalhcfjcbbkpgaaGreatZp0z
import Derived.Test.YtalhcfjcbbkpgaaGreatZp10
import Derived.Test.YtalhcfjcbbkpgaaGreatZp11
import Derived.Test.YtalhcfjcbbkpgaaGreatZp0v
set_option maxRecDepth 100000
set_option maxHeartbeats 4000000
namespace Go.Proofs.YtalhcfjcbbkpgaaGreat
section
open Go.RowKit
noncomputable def dY(s:List Nat)(rt:Int):List (List Nat):=if s.length=0 then []else fP s rt.toNat
noncomputable def iX(s:List Nat)(rt:Int):List Nat:=if s.length=0 then []else qK s.length (DA s (lD s rt.toNat)) (fP s rt.toNat).flatten
def JK(n:Nat):Int:=if n=0 then -1 else 0
def JL(w:World)(b:Nat)(s:List Nat)(rt ln:Int)(R:Nat->Prop)(e:Ending)(w':World):Prop :=
 ∃c a f g d,e=.returned (.tuple #[.pointer (some ⟨c,0,none⟩),.pointer (some ⟨a,0,none⟩),.int .i64 0]) /\
  MapAt w' c (iO ((dY s rt).map dN)) (JK s.length) ln g/\kP w' a f (iX s rt)/\MapAt w' b s rt ln d /\
  (c≠a/\¬g a)/\(b≠a/\¬d a/\∀x,d x->R x\/w.heap.size<=x)/\w.heap.size<=a/\(∀k,f.ownBlock=some k->w.heap.size<=k)/\Keeps (fun k=>k=b) w w'
theorem V3{w:World}{b:Nat}{rt ln:Int}{R:Nat->Prop}(h:MapAt w b [] rt ln R) :
  Calls Tryz.prog 31 #[.pointer (some ⟨b,0,none⟩)] w fun e w'=>∃a m,e=.returned (.tuple #[.pointer (some ⟨b,0,none⟩),.pointer (some ⟨a,0,none⟩),.int .i64 0])/\kP w' a m []/\w.heap.size<=a/\(∀k,m.ownBlock=some k->w.heap.size<=k)/\Keeps (fun _=>False) w w':=by
 have C:Hid (∀W,Keeps (fun _=>False) w W->MapAt W b [] rt ln R):=dh (fun W n=>h.keeps n (fun h=>h) (fun _ _ h=>h));have x:=(Keeps.refl (fun _=>False) w).alloc (.cells #[.int .i64 (-1)] 3);have f:dH w.heap.size (w.alloc (.cells #[.int .i64 (-1)] 3)) (.slice (some ⟨w.heap.size,0,none⟩) 1 1) [-1]:=by refine⟨rfl,.inr ⟨w.heap.size,1,#[.int .i64 (-1)],rfl,Nat.le_refl _,heap_alloc_new w _,Nat.le_refl _,by decide,?_,?_⟩⟩ <;> simp[ints]
 have y:=uS (C.out _ x);have j:=Gp (.slice (some ⟨w.heap.size,0,none⟩) 1 1) (-1) 0 _ f.sl (by omega);have o:∀W,Keeps (fun _=>False) w W->Calls Tryz.prog 75 #[.pointer (some ⟨b,0,none⟩)] W fun e w'=>e=.returned (.slice none 0 0)/\W=w':=by intro W n;have y:=uS (C.out _ n);clear j f x h;go_enter Tryz.func75,Tryz.ntmps75;go_wp2_with fail;refine y.mono ?_;rintro e w' ⟨rfl,rfl⟩;go_wp2;go_ret;exact⟨rfl,rfl⟩
 have F:=dh x;clear h f x;go_enter Tryz.func31,Tryz.ntmps31;go_wp2_with fail;refine y.mono ?_;rintro e w' ⟨rfl,rfl⟩;clear y;go_wp2_with fail;refine j.mono ?_;rintro e w1 ⟨g,rfl,G⟩;clear j;obtain⟨zs,z,rfl,d,p⟩:=G;have l:=F.out.trans p (fun _ _ h=>h);have q:=o w1 l;have r:=Ew (.slice (some ⟨g,0,none⟩) 0 0) [] w1 d.sl dO.none (by simp);have D:=dh l;clear o z d p l;go_wp2_with fail;refine q.mono ?_;rintro e w' ⟨rfl,rfl⟩;clear q;go_wp2_with fail;go_loopw [6,26] (fun c i wr=>i=.int .i64 0/\c=.int .i64 0/\w1=wr) (fun _ i _=>1 - (intOf i).toNat)
 case atStart=>exact⟨rfl,rfl,rfl⟩
 case round =>
  obtain⟨rfl,rfl,rfl⟩:=hrel;go_wp2_with fail;refine r.mono ?_;rintro e E ⟨a,m,rfl,s,A,t,u⟩;have B:=D.out.size;have H:Hid (kP E a m []/\w.heap.size<=a/\(∀k,m.ownBlock=some k->w.heap.size<=k)/\Keeps (fun _=>False) w E):=dh ⟨s,by omega,fun k n=>by have:=t k n;omega,D.out.trans u (fun _ _ h=>h)⟩;clear r s A t u B;go_wp2;refine bodyPost_ret (v:=.tuple #[.pointer (some ⟨b,0,none⟩),.pointer (some ⟨a,0,none⟩),.int .i64 0]) (by simp[results,Tryz.results31,go_sem]) rfl ?_;exact⟨a,m,rfl,H.out⟩
theorem V4{w:World}{b:Nat}{s:List Nat}{rt:Int}{ln:Nat}{R:Nat->Prop}(h:MapAt w b s rt ln R)(y:fV (jN s ln)=0) :
  Calls Tryz.prog 31 #[.pointer (some ⟨b,0,none⟩)] w (JL w b s rt ln R):=by
 by_cases g:s.length=0
 ·obtain rfl:s=[]:=List.eq_nil_of_length_eq_zero g
  have l:rt=-1:=by
   rcases h.rt with⟨_,i⟩|⟨i,z⟩
   ·exact i
   ·simp at z;omega
  subst l;refine(V3 h).mono ?_;rintro e w' ⟨m,n,rfl,o,c,d,f⟩;have u:=h.keeps f (fun h=>h) (fun _ _ h=>h);have p:=h.lt;exact⟨b,m,n,R,R,rfl,u,o,u,⟨by omega,fun a=>by have:=h.old _ a;omega⟩,⟨by omega,fun a=>by have:=h.old _ a;omega,fun x a=>.inl a⟩,c,d,f.mono (fun _ _ h=>h.elim)⟩
 ·obtain⟨r,rfl⟩:∃r:Nat,rt=r:=by
   rcases h.rt with⟨i,_⟩|⟨i,_⟩
   ·exact absurd i g
   ·exact⟨rt.toNat,by omega⟩
  refine(VR h (by omega) y).mono ?_;rintro e w' ⟨B,A,m,n,rfl,q,C,o,c,v,d,⟨D,t,j⟩,f⟩;have p:=h.lt;have E:dY s (r:Nat)=fP s r:=by unfold dY;rw[if_neg g];simp
  have F:iX s (r:Nat)=qK s.length (DA s (lD s r)) (fP s r).flatten:=by unfold iX;rw[if_neg g];simp
  have G:JK s.length=0:=by unfold JK;rw[if_neg g]
  refine⟨A,m,n,_,D,rfl,by rw[E,G];exact q,by rw[F];exact o,t,⟨by omega,fun a=>by have:=a.1;omega⟩,⟨by omega,fun a=>by have:=(j _ a).1;omega,fun x a=>(j x a).2⟩,c,fun k f=>(d k f).1,f⟩
end
section
def ou(a:Bool)(q:List Bool × Nat):List Nat:=mM q.2 ++ mR a q.1
def tH(a:Bool)(b:List (List Bool × Nat)):List Nat:=b.flatMap (ou a)
def fC(a:List (List Bool × Nat)):Nat:=(a.map fun q=>q.1.length).sum
def oJ(t p l:Bool)(ln:Nat)(a:List (List Bool × Nat))(lab:List Bool):List Nat:=([80,81] ++ [um t p l] ++ mM ln ++ mM a.length ++ tH p a) ++ if l then fH lab else []
def jJ(t p l:Bool)(ln:Nat)(a:List (List Bool × Nat))(lab:List Bool):List Nat:=oJ t p l ln a lab ++ four (mO (oJ t p l ln a lab))
theorem OO(a:Bool)(l:List Bool):(mR a l).length<=(l.length+7) / 8+1:=by have:=Rz a l 9;rw[yJ]at this;exact this
theorem V5(a:Bool)(q:List Bool × Nat)(h:q.2<=1000000):(ou a q).length<=q.1.length+12:=by have b:=OO a q.1;have c:=xw (x:=q.2) (by omega);unfold ou;rw[List.length_append];omega
theorem V6(a:Bool)(b:List (List Bool × Nat))(q:List Bool × Nat):tH a (b ++ [q])=tH a b ++ ou a q:=by simp[tH]
theorem V7(a:List (List Bool × Nat))(q:List Bool × Nat):fC (a ++ [q])=fC a+q.1.length:=by simp[fC]
theorem OP(a:List (List Bool × Nat))(i:Nat):fC (a.take i)<=fC a:=by
 conv=>rhs;rw[<-List.take_append_drop i a]
 unfold fC;rw[List.map_append,List.sum_append];omega
theorem JM(a:Bool):∀(b:List (List Bool × Nat)),(∀q ∈ b,q.2<=1000000)->(tH a b).length<=fC b+12 * b.length
 | [],_=>by simp[tH,fC]
 | q :: b,h=>by
  have f:=V5 a q (h q (by simp));have g:=JM a b (fun x c=>h x (by simp[c]));have d:tH a (q :: b)=ou a q ++ tH a b:=by simp[tH]
  have e:fC (q :: b)=q.1.length+fC b:=by simp[fC]
  rw[d,e,List.length_append,List.length_cons];omega
theorem V8(a:Bool)(d:List (List Bool × Nat)):∀b ∈ tH a d,b<256:=fun b c=>by
 unfold tH at c;rw[List.mem_flatMap]at c;obtain⟨q,_,c⟩:=c;unfold ou at c;rcases List.mem_append.1 c with h|h
 ·exact FX _ _ h
 ·exact Ry a _ _ h
theorem JN(t p l:Bool)(ln:Nat)(a:List (List Bool × Nat))(lab:List Bool):∀b ∈ oJ t p l ln a lab,b<256:=fun b c=>by
 unfold oJ at c;have d:=Tf t p l;rcases List.mem_append.1 c with h|h
 ·rcases List.mem_append.1 h with h|h
  ·rcases List.mem_append.1 h with h|h
   ·rcases List.mem_append.1 h with h|h
    ·simp at h;omega
    ·exact FX _ _ h
   ·exact FX _ _ h
  ·exact V8 p a b h
 ·cases l
  ·simp at h
  ·exact Iq _ _ h
theorem GU{s:List Nat}{rt:Int}{ln:Nat}(g:dO s.length (sg s))(i:s.length % 2=0)(j:fV (jN s ln)=0)(l:(s.length=0/\rt=-1)\/(0<=rt/\rt<s.length)):kJ (dY s rt)/\(dY s rt).flatten.length=s.length/\(iX s rt).length=s.length/\dO s.length (sg (iX s rt))/\(∀d,d<s.length->sg (iX s rt) (mt d)=mt (sg (iX s rt) d))/\(∀d,d<s.length->sg (iO ((dY s rt).map dN)) (sg (iX s rt) d)=sg (iX s rt) (sg s d))/\(0<s.length->sg (iX s rt) rt.toNat=0):=by
 by_cases a:s.length=0
 ·have c:dY s rt=[]:=by unfold dY;rw[if_pos a]
  have e:iX s rt=[]:=by unfold iX;rw[if_pos a]
  rw[c,e,a];exact⟨fun k m=>by simp at m,rfl,rfl,Gt _,fun d b=>by omega,fun d b=>by omega,fun h=>by omega⟩
 ·obtain⟨r,rfl⟩:∃r:Nat,rt=r:=⟨rt.toNat,by omega⟩
  have hr:r<s.length:=by omega
  have c:dY s (r:Nat)=fP s r:=by unfold dY;rw[if_neg a];simp
  have e:iX s (r:Nat)=qK s.length (DA s (lD s r)) (fP s r).flatten:=by unfold iX;rw[if_neg a];simp
  obtain⟨k,n⟩:=walks_all g i j hr;have f:=k.uX (by omega);rw[n]at f;rw[c,e];refine⟨k.ok,k.len,Dr _ _ _,k.uy,fun d b=>k.uV b,fun d b=>k.uW b,fun _=>?_⟩;rw[Int.toNat_natCast];exact f
theorem JO{n:Nat}{P:Nat->Nat}(h:dO n P)(b:n % 2=0)(e:∀d,d<n->P (mt d)=mt (P d)){d:Nat}(a:d<n):gq P (mt d)=mt (gq P d):=by have c:=h.eF a;refine h.inj _ _ (h.eF (dQ b a)) (dQ b c) ?_;rw[h.fD (dQ b a),e _ c,h.fD a]
theorem Dv{s:List Nat}{d:Nat}(a:d<s.length):sg (kU s) d=gq (sg s) d:=by simp[sg,kU,a]
noncomputable def jR(s:List Nat)(rt:Int):List Bool:=lK (s.length / 2) (fun e=>sg (kU (iX s rt)) (2 * e)) (s.length / 2)
end
