import Derived.Test.YtalhcfjcbbkpgaaGreatZp0c
set_option maxRecDepth 100000
set_option maxHeartbeats 4000000
namespace Go.Proofs.YtalhcfjcbbkpgaaGreat
open Go.RowKit
theorem TM(w:World)(z:Int):Sl .i64 (w.alloc (.cells #[.int .i64 z] 3)) (.slice (some ⟨w.heap.size,0,none⟩) 1 1) [z]:=by have a:=World.ownsRow_lit (base:=w.heap.size) (e:=3) (size:=1) w #[.int .i64 z] 1 (Nat.le_refl _) (by unfold maxLen;omega) rfl;exact(show dH w.heap.size (w.alloc (.cells #[.int .i64 z] 3)) (.slice (some ⟨w.heap.size,0,none⟩) 1 1) [z]from a).sl
theorem rJ.wait{W:World}{a b:Nat}{c:Value}{s:gZ}(h:rJ W a b c s)(z:Nat):rJ (W.setCell ⟨a,3,none⟩ (.int .i64 (z:Int))) a b c { s with w:=z }/\Keeps (fun k=>k=a) W (W.setCell ⟨a,3,none⟩ (.int .i64 (z:Int))):=by have ks:=(Keeps.refl (fun q=>q=a) W).setCell (p:=⟨a,3,none⟩) (.inl rfl) (.int .i64 (z:Int));refine⟨⟨?_,h.vec.keeps ks (fun e=>h.ne e.symm) (fun q d e=>h.no (by rw[d,e])),h.ne,h.no⟩,ks⟩;have:=jM h.sp 3 (.int .i64 (z:Int));simpa [gJ]using this
theorem MX{w:World}{c a:Nat}{d:Value}{s:gZ}(h:rJ w c a d s)(z:Int)(b:Bool)(m:z=b.toNat)(t:s.o.length<900000000) :
  Calls Tryz.prog 136 #[.pointer (some ⟨a,0,none⟩),.slice (some ⟨w.heap.size,0,none⟩) 1 1] (w.alloc (.cells #[.int .i64 z] 3)) fun e w'=>e=.returned (.tuple #[])/\vM w c a d { s with o:=s.o ++ [b] } w':=by
 have g:=(Keeps.refl (fun _=>False) w).alloc (.cells #[.int .i64 z] 3);have i:=h.keeps g (fun h=>h) (fun h=>h) (fun _ _ h=>h);have f:=h.vec.apart;have n:=h.vec.lt;have p:c<w.heap.size:=lt_of_block h.sp;refine(DK a d s.o (.slice (some ⟨w.heap.size,0,none⟩) 1 1) [z] _ i.vec (TM w z) (fun k j=>?_) (by simp;omega)).mono ?_
 ·simp only [Value.ownBlock,Option.some.injEq]at j;subst j;exact⟨by omega,fun e=>by have:=(f _ e).2;omega⟩
 ·rintro e w' ⟨rfl,l⟩;have q:q0z [z]=[b]:=by rw[m];cases b <;> rfl
  rw[q]at l;refine⟨rfl,?_⟩;have r:=i.grown (by simp;omega) l;exact vM.trans (g.mono (fun _ _ h=>h.elim)) (.inl rfl) r
theorem Gu{w:World}{f r:Nat}{t:Value}{s:gZ}(b:Bool)(h:rJ w f r t s)(W:s.o.length+s.w<=800000000) :
  Calls Tryz.prog 197 #[.pointer (some ⟨f,0,none⟩),.int .i64 (b.toNat:Int)] w fun e w'=>e=.returned (.tuple #[])/\vM w f r t ⟨s.l,s.h,0,s.o ++ b :: List.replicate s.w (!b)⟩ w':=by
 have g:=MX h (b.toNat:Int) b rfl (by omega);have E:=h.c2;obtain⟨k,B,M⟩:∃k,k=b.toNat/\k<=1:=⟨_,rfl,by cases b <;> simp⟩
 have a:1 - (k:Int)=((!b).toNat:Int):=by rw[B];cases b <;> rfl
 have N:=dh (dn a B);rw[<-B]at g ⊢;clear h B a;go_enter Tryz.func197,Tryz.ntmps197;go_wp2_with fail;refine g.mono ?_;rintro e w1 ⟨rfl,F⟩;have G:vM w f r t ⟨s.l,s.h,s.w - 0,s.o ++ b :: List.replicate 0 (!b)⟩ w1:=F;clear g E F;go_wp2_with fail;go_loopg [] s.w (fun m wr=>∃j:Nat,j<=s.w/\m=s.w - j/\vM w f r t ⟨s.l,s.h,s.w - j,s.o ++ b :: List.replicate j (!b)⟩ wr)
 case atStart=>exact⟨0,by omega,rfl,G⟩
 case round =>
  clear G;obtain⟨j,X,v,O,i,c,C⟩:=hrel;have P:=dh v;clear v;have H:s.o.length+(s.w - j)+(j+1)<=800000001:=by omega
  have E:=i.c2;have I:=i.c3;obtain⟨q,y⟩:∃q,q=s.w - j:=⟨_,rfl⟩
  simp only at I;rw[<-y]at I;have Q:q<=900000000:=by omega
  by_cases R:0<q
  ·have Y:decide ((0:Int)<(q:Int))=true:=decide_eq_true (by omega);have J:=MX i (1 - (k:Int)) (!b) N.out.1 (by simp;omega);have u:=dh (dn y (dn c C));clear i c C y;go_wp2_with fail;refine J.mono ?_;clear J;rintro e S ⟨rfl,T,d,a,z⟩;have K:=d.c3;have Z:=d.free;simp only at K;rw[<-u.out.1]at K;obtain⟨n,p⟩:=d.wait (q - 1);have L:((q - 1:Nat):Int)=(q:Int) - 1:=by omega
   rw[L]at n p
   have A:vM w f r t ⟨s.l,s.h,s.w - (j+1),s.o ++ b :: List.replicate (j+1) (!b)⟩ (S.setCell ⟨f,3,none⟩ (.int .i64 ((q:Int) - 1))):=by
    refine vM.trans u.out.2.1 u.out.2.2 ⟨T,?_,a.trans p (fun x _ e=>.inl e),z⟩;have U:s.w - (j+1)=q - 1:=by have:=u.out.1;omega
    have V:s.o ++ b :: List.replicate (j+1) (!b)=(s.o ++ b :: List.replicate j (!b)) ++ [!b]:=by rw[List.replicate_succ',List.append_assoc];rfl
    rw[U,V];exact n
   have D:=dh A;clear d a z n p A L;go_wp2_with fail;go_roundg (s.w - (j+1))
   case measure=>rw[P.out];have:=u.out.1;omega
   case rel=>exact⟨j+1,by have:=u.out.1;omega,rfl,D.out⟩
  ·obtain rfl:q=0:=by omega
   obtain rfl:j=s.w:=by omega
   have hF:vM w f r t ⟨s.l,s.h,0,s.o ++ b :: List.replicate s.w (!b)⟩ wr:=by rw[<-y]at i;exact⟨O,i,c,C⟩
   have D:=dh hF;clear i c C y hF;go_wp2_with fail;go_end0;exact⟨rfl,D.out⟩
