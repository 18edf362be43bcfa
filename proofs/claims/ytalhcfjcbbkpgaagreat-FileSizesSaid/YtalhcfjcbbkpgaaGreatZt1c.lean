import Derived.Test.YtalhcfjcbbkpgaaGreatZt1b
set_option maxRecDepth 100000
set_option maxHeartbeats 4000000
namespace Go.Proofs.YtalhcfjcbbkpgaaGreat
open Go.RowKit
noncomputable def qF(s:List Nat):List Bool:=Aw s 0 (dY (sg s) s.length - 2)
theorem jl.pq{s:List Nat}{l:Nat}(h:dU s.length (sg s))(a:s.length % 2=0)(c:jl s l){r:Nat}(hr:r<s.length):dL s.length (sg s) r (dY (sg s) s.length - 2):=by obtain⟨-,-,T⟩:=c.Bw h a;obtain⟨N,K⟩:=T.pq hr;have:=K.cnt;rw[show dY (sg s) s.length - 2=N by omega];exact K
theorem jl.uo{s:List Nat}{l:Nat}(h:dU s.length (sg s))(a:s.length % 2=0)(c:jl s l):(qF s).length+5=4 * dY (sg s) s.length:=by obtain⟨-,d,T⟩:=c.Bw h a;exact(c.pq h a d).xB T d
section
variable {w:World} {b:Nat} {s:List Nat} {R:Nat->Prop}
theorem X8(p l:Bool)(h:MapAt w b s 0 0 R)(m:jl s 0) :
  Calls Tryz.prog 90 #[gY true p l,.pointer (some ⟨b,0,none⟩)] w fun e w'=>∃i,e=.returned (.tuple #[.pointer (some ⟨i,0,none⟩),.int .i64 (dY (sg s) s.length:Nat),.int .i64 0])/\Hw w b R i (qF s) w':=by
 have n:=(Keeps.refl (fun _=>False) w).alloc (.cells #[.bool true,.bool p,.bool l] 35);have u:=h.keeps n (fun h=>h) (fun _ _ h=>h);obtain⟨-,o,-⟩:=m.Bw h.dW h.even;have y:Calls Tryz.prog 129 #[.pointer (some ⟨b,0,none⟩)] (w.alloc (.cells #[.bool true,.bool p,.bool l] 35)) (Qd (w.alloc (.cells #[.bool true,.bool p,.bool l] 35)) b s 0 (0:Nat) R (qF s)):=X7 (l:=0) (r:=0) u m rfl o (m.pq h.dW h.even o);have z:=dh n;have C:=dh h.lt;have D:=nY (sg s) s.length;have E:=h.le;clear h u n m o;unfold gY;go_enter Tryz.func90,Tryz.ntmps90;go_wp2_with fail;refine y.mono ?_;clear y;rintro e w1 ⟨i,F,rfl,j,d,a,c⟩;have f:=ER c.1;have G:=c.1.lt;have k:=j.apart;have A:=dh (dn j (dn d (dn a c)));rw[show ((dY (sg s) s.length:Nat):Int)+((0:Nat):Int)=(dY (sg s) s.length:Nat) by omega]at f;clear j d a c k;go_wp2_with fail;refine f.mono ?_;rintro e H ⟨rfl,g⟩;have I:Hid (Hw w b R i (qF s) H):=dh (by obtain⟨j,d,a,c⟩:=A.out;have L:=z.out.size;have k:=j.apart;have J:=c.1.kL;have K:=c.2.size;have B:b<w.heap.size:=C.out;refine⟨F,j.keeps g.2 (fun e=>by omega) (fun q t e=>by have:=a q t;omega),by omega,fun q t=>by have:=a q t;omega,?_⟩;exact((z.out.mono (fun _ _ h=>h.elim):Keeps (fun x=>x=b\/R x) w _).trans c.2 (fun _ _ h=>h)).trans g.2 (fun _ _ e=>.inl e));clear g f A;go_wp2;refine bodyPost_ret (v:=.tuple #[.pointer (some ⟨i,0,none⟩),.int .i64 (dY (sg s) s.length:Nat),.int .i64 0]) (by simp[results,Tryz.results90,go_sem]) rfl ?_;exact⟨i,rfl,I.out⟩
theorem qc2(p l:Bool)(h:MapAt w b s 0 0 R)(g:¬jl s 0) :
  Calls Tryz.prog 90 #[gY true p l,.pointer (some ⟨b,0,none⟩)] w fun e w'=>∃m:Nat,e=.returned (.tuple #[.pointer none,.int .i64 m,.int .i64 8])/\Keeps (fun x=>x=b\/R x) w w':=by
 have d:=(Keeps.refl (fun _=>False) w).alloc (.cells #[.bool true,.bool p,.bool l] 35);have i:=h.keeps d (fun h=>h) (fun _ _ h=>h);have j:=X6 (l:=0) i g;have n:=dh d;have o:=nY (sg s) s.length;have q:=h.le;clear h i d g;unfold gY;go_enter Tryz.func90,Tryz.ntmps90;go_wp2_with fail;refine j.mono ?_;clear j;rintro e w1 ⟨rfl,f⟩;have a:=ER f.1;have k:=dh f;rw[show ((dY (sg s) s.length:Nat):Int)+((0:Nat):Int)=(dY (sg s) s.length:Nat) by omega]at a;clear f;go_wp2_with fail;refine a.mono ?_;rintro e r ⟨rfl,c⟩;have t:Hid (Keeps (fun x=>x=b\/R x) w r):=dh (((n.out.mono (fun _ _ h=>h.elim):Keeps (fun x=>x=b\/R x) w _).trans k.out.2 (fun _ _ h=>h)).trans c.2 (fun _ _ e=>.inl e));clear c a k;go_wp2;refine bodyPost_ret (v:=.tuple #[.pointer none,.int .i64 (dY (sg s) s.length:Nat),.int .i64 8]) (by simp[results,Tryz.results90,go_sem]) rfl ?_;exact⟨_,rfl,t.out⟩
end
noncomputable def uw(k:List Nat):List Bool × Nat:=open Classical in if jl (dM k) 0 then (qF (dM k),dY (sg (dM k)) (dM k).length)else ([],0)
theorem KM{k:List Nat}(h:jl (dM k) 0):uw k=(qF (dM k),dY (sg (dM k)) (dM k).length):=by unfold uw;exact if_pos h
theorem X9(p l:Bool)(ks:List (List Nat)):yQ true p l (fun k=>jl (dM k) 0) uw ks:=fun _ _ _ _ _ c =>
 ⟨fun a=>by rw[KM a];exact X8 p l c a,fun a=>qc2 p l c a⟩
