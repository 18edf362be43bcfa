import Derived.Test.YtalhcfjcbbkpgaaGreatZt1d
set_option maxRecDepth 100000
set_option maxHeartbeats 4000000
namespace Go.Proofs.YtalhcfjcbbkpgaaGreat
open Go.RowKit
def FY(t:Bool)(k:List Nat):Prop:=t=true->jl (dM k) 0
noncomputable def Az(t:Bool)(k:List Nat):List Bool × Nat:=if t then uw k else sQ k
theorem Yf(t p l:Bool){ks:List (List Nat)}(h:jL ks):yQ t p l (FY t) (Az t) ks:=by
 cases t
 ·intro k a W b c d;exact⟨fun _=>(PX p l h).BM k a W b c d,fun i=>absurd (fun e=>by cases e) i⟩
 ·intro k a W b c d;have g:=X9 p l ks k a W b c d;exact⟨fun f=>g.1 (f rfl),fun f=>g.2 (fun j=>f (fun _=>j))⟩
open Classical in
noncomputable def nk(t:Bool)(s:List Nat)(rt:Int)(ln:Nat):Nat:=if fU (jG s ln)=0 then (if ∀k ∈ eu s rt,FY t k then 0 else 8)else 7
noncomputable def oJ(t p l:Bool)(s:List Nat)(rt:Int)(ln:Nat):List Nat:=if nk t s rt ln=0 then jH t p l ln ((eu s rt).map (Az t)) (lG s rt)else []
noncomputable def encZ(t l:Bool)(s:List Nat)(rt:Int)(ln:Nat):Nat:=if nk t s rt ln=0 then eX ((eu s rt).map (Az t))+(if l then (lG s rt).length else 0)else 0
theorem KR{t:Bool}{s:List Nat}{rt:Int}{ln:Nat}:nk t s rt ln=0↔fU (jG s ln)=0/\∀k ∈ eu s rt,FY t k:=by
 unfold nk;by_cases h:fU (jG s ln)=0
 ·by_cases k:∀k ∈ eu s rt,FY t k
  ·rw[if_pos h,if_pos k];exact⟨fun _=>⟨h,k⟩,fun _=>rfl⟩
  ·rw[if_pos h,if_neg k];exact⟨fun e=>by omega,fun e=>absurd e.2 k⟩
 ·rw[if_neg h];exact⟨fun e=>by omega,fun e=>absurd e.1 h⟩
def uS(w:World)(b:Nat)(s:List Nat)(rt ln:Int)(R:Nat->Prop)(w':World):Prop:=(∃a,MapAt w' b s rt ln a/\∀x,a x->R x\/w.heap.size<=x)/\Keeps (fun k=>k=b) w w'
theorem Yg{w:World}{b:Nat}{s:List Nat}{rt:Int}{ln:Nat}{R:Nat->Prop}(t p l:Bool)(h:MapAt w b s rt ln R)(f:¬fU (jG s ln)=0) :
  Calls Tryz.prog 45 #[.pointer (some ⟨b,0,none⟩),gY t p l] w fun e w'=>e=.returned (.tuple #[.slice none 0 0,.int .i64 0,.int .i64 7])/\uS w b s rt ln R w':=by
 have g:∀(x:Bool) (w:World),(Op.unary .not (.bool x)).run Tryz.prog w=.ok (.bool (!x)) w:=fun _ _=>rfl;have d:=(Keeps.refl (fun _=>False) w).alloc (.cells #[.bool t,.bool p,.bool l] 35);have i:=h.keeps d (fun h=>h) (fun _ _ h=>h);have a:=EW (l:=ln) i;rw[decide_eq_false f]at a;have j:=dh d;clear h i f d;unfold gY;go_enter Tryz.func45,Tryz.ntmps45;go_wp2_with fail;refine a.mono ?_;clear a;rintro e w1 ⟨rfl,c⟩;have k:Hid (uS w b s rt ln R w1):=dh ⟨⟨_,c.1,fun x m=>m.imp id (fun h=>by have:=j.out.size;have n:=h.1;omega)⟩,(show Keeps (fun x=>x=b) w _ from j.out.mono (fun _ _ h=>h.elim)).trans c.2 (fun _ _ h=>h)⟩;clear c;go_wp2_with fail;refine bodyPost_ret (v:=.tuple #[.slice none 0 0,.int .i64 0,.int .i64 7]) (by simp[results,Tryz.results45,go_sem]) rfl ?_;exact⟨rfl,k.out⟩
theorem Ql{w:World}{b:Nat}{s:List Nat}{rt:Int}{ln:Nat}{R:Nat->Prop}(t p l:Bool)(h:MapAt w b s rt ln R) :
  Calls Tryz.prog 45 #[.pointer (some ⟨b,0,none⟩),gY t p l] w fun e w'=>∃v,e=.returned (.tuple #[v,.int .i64 (encZ t l s rt ln:Nat),.int .i64 (nk t s rt ln:Nat)])/\eP w.heap.size w' v (oJ t p l s rt ln)/\uS w b s rt ln R w':=by
 by_cases c:fU (jG s ln)=0
 ·obtain⟨f,n,-⟩:=FK h.dW h.even c h.rt;have o:=h.le
  have q:eX ((eu s rt).map (Az t))<=1000000:=by
   cases t
   ·have:=Hy (eu s rt);show eX ((eu s rt).map sQ)<=_;omega
   ·have:=KN f;show eX ((eu s rt).map uw)<=_;omega
  have r:∀k ∈ eu s rt,(Az t k).2<=1000000:=fun k d=>by
   have y:=PY d;cases t
   ·show k.length / 2<=_;omega
   ·have:=(Qe (f k d).1).2;show (uw k).2<=_;omega
  refine(PW t p l h c (FY t) (Az t) (Yf t p l f) q r).mono ?_;rintro e w' (⟨g,v,rfl,u,i,d⟩|⟨⟨k,j,m⟩,rfl,i,d⟩)
  ·have a:nk t s rt ln=0:=KR.2 ⟨c,g⟩;unfold encZ oJ;rw[if_pos a,if_pos a,a];exact⟨v,rfl,u,i,d⟩
  ·have a:nk t s rt ln=8:=by unfold nk;rw[if_pos c,if_neg (fun h=>m (h k j))]
   unfold encZ oJ;rw[a,if_neg (by decide),if_neg (by decide)];exact⟨_,rfl,eP.nil _ _,i,d⟩
 ·refine(Yg t p l h c).mono ?_;rintro e w' ⟨rfl,x⟩;have a:nk t s rt ln=7:=by unfold nk;rw[if_neg c]
  unfold encZ oJ;rw[a,if_neg (by decide),if_neg (by decide)];exact⟨_,rfl,eP.nil _ _,x⟩
theorem Yh{w:World}{b:Nat}{s:List Nat}{rt:Int}{ln:Nat}{R:Nat->Prop}(t p l:Bool)(h:MapAt w b s rt ln R) :
  Calls Tryz.prog 12 #[.pointer (some ⟨b,0,none⟩),gY t p l] w fun e w'=>∃v,e=.returned (.tuple #[v,.int .i64 (nk t s rt ln:Nat)])/\eP w.heap.size w' v (oJ t p l s rt ln)/\uS w b s rt ln R w':=by
 have d:=(Keeps.refl (fun _=>False) w).alloc (.cells #[.bool t,.bool p,.bool l] 35);have f:=Ql t p l (h.keeps d (fun h=>h) (fun _ _ h=>h));have g:=dh d;clear h d;generalize nk t s rt ln=c at *;generalize encZ t l s rt ln=z at *;generalize oJ t p l s rt ln=fs at *;unfold gY at f ⊢;go_enter Tryz.func12,Tryz.ntmps12;go_wp2_with fail;refine f.mono ?_;clear f;rintro e w1 ⟨v,rfl,i,⟨n,j,a⟩,m⟩;have o:Hid (eP w.heap.size w1 v fs/\uS w b s rt ln R w1):=dh ⟨i.mono (fun q r=>by have y:=(i.lt q r).1;have:=g.out.size;omega),⟨n,j,fun x u=>(a x u).imp id (fun h=>by have:=g.out.size;omega)⟩,(g.out.mono (fun _ _ h=>h.elim):Keeps (fun k=>k=b) w _).trans m (fun _ _ h=>h)⟩;clear i m j a;go_wp2_with fail;refine bodyPost_ret (v:=.tuple #[v,.int .i64 (c:Nat)]) (by simp[results,Tryz.results12,go_sem]) rfl ?_;exact⟨v,rfl,o.out⟩
theorem Yi{w:World}{b:Nat}{s:List Nat}{rt:Int}{ln:Nat}{R:Nat->Prop}(t p l:Bool)(h:MapAt w b s rt ln R) :
  Calls Tryz.prog 14 #[.pointer (some ⟨b,0,none⟩),gY t p l] w fun e w'=>e=.returned (.tuple #[.int .i64 (encZ t l s rt ln:Nat),.int .i64 (nk t s rt ln:Nat)])/\uS w b s rt ln R w':=by
 have d:=(Keeps.refl (fun _=>False) w).alloc (.cells #[.bool t,.bool p,.bool l] 35);have f:=Ql t p l (h.keeps d (fun h=>h) (fun _ _ h=>h));have g:=dh d;clear h d;generalize nk t s rt ln=c at *;generalize encZ t l s rt ln=z at *;generalize oJ t p l s rt ln=fs at *;unfold gY at f ⊢;go_enter Tryz.func14,Tryz.ntmps14;go_wp2_with fail;refine f.mono ?_;clear f;rintro e w1 ⟨v,rfl,m,⟨n,i,a⟩,j⟩;have o:Hid (uS w b s rt ln R w1):=dh ⟨⟨n,i,fun x q=>(a x q).imp id (fun h=>by have:=g.out.size;omega)⟩,(g.out.mono (fun _ _ h=>h.elim):Keeps (fun k=>k=b) w _).trans j (fun _ _ h=>h)⟩;clear m j i a;go_wp2_with fail;refine bodyPost_ret (v:=.tuple #[.int .i64 (z:Nat),.int .i64 (c:Nat)]) (by simp[results,Tryz.results14,go_sem]) rfl ?_;exact⟨rfl,o.out⟩
theorem Qm(t p l:Bool)(w:World) :
  Calls Tryz.prog 45 #[.pointer none,gY t p l] w fun e w'=>e=.returned (.tuple #[.slice none 0 0,.int .i64 0,.int .i64 2])/\Keeps (fun _=>False) w w':=by
 have a:=dh ((Keeps.refl (fun _=>False) w).alloc (.cells #[.bool t,.bool p,.bool l] 35));unfold gY;go_enter Tryz.func45,Tryz.ntmps45;go_wp2_with fail;refine bodyPost_ret (v:=.tuple #[.slice none 0 0,.int .i64 0,.int .i64 2]) (by simp[results,Tryz.results45,go_sem]) rfl ?_;exact⟨rfl,a.out⟩
theorem Yj(t p l:Bool)(w:World) :
  Calls Tryz.prog 12 #[.pointer none,gY t p l] w fun e w'=>e=.returned (.tuple #[.slice none 0 0,.int .i64 2])/\Keeps (fun _=>False) w w':=by
 have c:=dh ((Keeps.refl (fun _=>False) w).alloc (.cells #[.bool t,.bool p,.bool l] 35));have a:=fun W=>Qm t p l W;unfold gY at a ⊢;go_enter Tryz.func12,Tryz.ntmps12;go_wp2_with fail;refine(a _).mono ?_;clear a;rintro e w1 ⟨rfl,b⟩;have d:=dh (c.out.trans b (fun _ _ h=>h));clear b;go_wp2_with fail;refine bodyPost_ret (v:=.tuple #[.slice none 0 0,.int .i64 2]) (by simp[results,Tryz.results12,go_sem]) rfl ?_;exact⟨rfl,d.out⟩
theorem Yk(t p l:Bool)(w:World) :
  Calls Tryz.prog 14 #[.pointer none,gY t p l] w fun e w'=>e=.returned (.tuple #[.int .i64 0,.int .i64 2])/\Keeps (fun _=>False) w w':=by
 have c:=dh ((Keeps.refl (fun _=>False) w).alloc (.cells #[.bool t,.bool p,.bool l] 35));have a:=fun W=>Qm t p l W;unfold gY at a ⊢;go_enter Tryz.func14,Tryz.ntmps14;go_wp2_with fail;refine(a _).mono ?_;clear a;rintro e w1 ⟨rfl,b⟩;have d:=dh (c.out.trans b (fun _ _ h=>h));clear b;go_wp2_with fail;refine bodyPost_ret (v:=.tuple #[.int .i64 0,.int .i64 2]) (by simp[results,Tryz.results14,go_sem]) rfl ?_;exact⟨rfl,d.out⟩
