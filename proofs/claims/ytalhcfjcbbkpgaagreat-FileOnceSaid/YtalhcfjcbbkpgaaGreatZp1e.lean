import Derived.Test.YtalhcfjcbbkpgaaGreatZp1d
set_option maxRecDepth 100000
set_option maxHeartbeats 4000000
namespace Go.Proofs.YtalhcfjcbbkpgaaGreat
open Go.RowKit
noncomputable def qA(s:List Nat):List Bool:=zZ s 0 (eu (sg s) s.length - 2)
theorem kK.oP{s:List Nat}{l:Nat}(h:dO s.length (sg s))(a:s.length % 2=0)(c:kK s l){r:Nat}(hr:r<s.length):dJ s.length (sg s) r (eu (sg s) s.length - 2):=by obtain⟨-,-,T⟩:=c.CB h a;obtain⟨N,K⟩:=T.oP hr;have:=K.cnt;rw[show eu (sg s) s.length - 2=N by omega];exact K
theorem kK.yC{s:List Nat}{l:Nat}(h:dO s.length (sg s))(a:s.length % 2=0)(c:kK s l):(qA s).length+5=4 * eu (sg s) s.length:=by obtain⟨-,d,T⟩:=c.CB h a;exact(c.oP h a d).wJ T d
section
variable {w:World} {b:Nat} {s:List Nat} {R:Nat->Prop}
theorem qk(p l:Bool)(h:MapAt w b s 0 0 R)(m:kK s 0) :
  Calls Tryz.prog 90 #[iL true p l,.pointer (some ⟨b,0,none⟩)] w fun e w'=>∃i,e=.returned (.tuple #[.pointer (some ⟨i,0,none⟩),.int .i64 (eu (sg s) s.length:Nat),.int .i64 0])/\GV w b R i (qA s) w':=by
 have n:=(Keeps.refl (fun _=>False) w).alloc (.cells #[.bool true,.bool p,.bool l] 35);have u:=h.keeps n (fun h=>h) (fun _ _ h=>h);obtain⟨-,o,-⟩:=m.CB h.dR h.even;have y:Calls Tryz.prog 129 #[.pointer (some ⟨b,0,none⟩)] (w.alloc (.cells #[.bool true,.bool p,.bool l] 35)) (Pm (w.alloc (.cells #[.bool true,.bool p,.bool l] 35)) b s 0 (0:Nat) R (qA s)):=Xv (l:=0) (r:=0) u m rfl o (m.oP h.dR h.even o);have z:=dh n;have C:=dh h.lt;have D:=oV (sg s) s.length;have E:=h.le;clear h u n m o;unfold iL;go_enter Tryz.func90,Tryz.ntmps90;go_wp2_with fail;refine y.mono ?_;clear y;rintro e w1 ⟨i,F,rfl,j,d,a,c⟩;have f:=Gs c.1;have G:=c.1.lt;have k:=j.apart;have A:=dh (dn j (dn d (dn a c)));rw[show ((eu (sg s) s.length:Nat):Int)+((0:Nat):Int)=(eu (sg s) s.length:Nat) by omega]at f;clear j d a c k;go_wp2_with fail;refine f.mono ?_;rintro e H ⟨rfl,g⟩;have I:Hid (GV w b R i (qA s) H):=dh (by obtain⟨j,d,a,c⟩:=A.out;have L:=z.out.size;have k:=j.apart;have J:=c.1.kC;have K:=c.2.size;have B:b<w.heap.size:=C.out;refine⟨F,j.keeps g.2 (fun e=>by omega) (fun q t e=>by have:=a q t;omega),by omega,fun q t=>by have:=a q t;omega,?_⟩;exact((z.out.mono (fun _ _ h=>h.elim):Keeps (fun x=>x=b\/R x) w _).trans c.2 (fun _ _ h=>h)).trans g.2 (fun _ _ e=>.inl e));clear g f A;go_wp2;refine bodyPost_ret (v:=.tuple #[.pointer (some ⟨i,0,none⟩),.int .i64 (eu (sg s) s.length:Nat),.int .i64 0]) (by simp[results,Tryz.results90,go_sem]) rfl ?_;exact⟨i,rfl,I.out⟩
theorem Xw(p l:Bool)(h:MapAt w b s 0 0 R)(g:¬kK s 0) :
  Calls Tryz.prog 90 #[iL true p l,.pointer (some ⟨b,0,none⟩)] w fun e w'=>∃m:Nat,e=.returned (.tuple #[.pointer none,.int .i64 m,.int .i64 8])/\Keeps (fun x=>x=b\/R x) w w':=by
 have d:=(Keeps.refl (fun _=>False) w).alloc (.cells #[.bool true,.bool p,.bool l] 35);have i:=h.keeps d (fun h=>h) (fun _ _ h=>h);have j:=Xu (l:=0) i g;have n:=dh d;have o:=oV (sg s) s.length;have q:=h.le;clear h i d g;unfold iL;go_enter Tryz.func90,Tryz.ntmps90;go_wp2_with fail;refine j.mono ?_;clear j;rintro e w1 ⟨rfl,f⟩;have a:=Gs f.1;have k:=dh f;rw[show ((eu (sg s) s.length:Nat):Int)+((0:Nat):Int)=(eu (sg s) s.length:Nat) by omega]at a;clear f;go_wp2_with fail;refine a.mono ?_;rintro e r ⟨rfl,c⟩;have t:Hid (Keeps (fun x=>x=b\/R x) w r):=dh (((n.out.mono (fun _ _ h=>h.elim):Keeps (fun x=>x=b\/R x) w _).trans k.out.2 (fun _ _ h=>h)).trans c.2 (fun _ _ e=>.inl e));clear c a k;go_wp2;refine bodyPost_ret (v:=.tuple #[.pointer none,.int .i64 (eu (sg s) s.length:Nat),.int .i64 8]) (by simp[results,Tryz.results90,go_sem]) rfl ?_;exact⟨_,rfl,t.out⟩
end
noncomputable def yU(k:List Nat):List Bool × Nat:=open Classical in if kK (dN k) 0 then (qA (dN k),eu (sg (dN k)) (dN k).length)else ([],0)
theorem Xx{k:List Nat}(h:kK (dN k) 0):yU k=(qA (dN k),eu (sg (dN k)) (dN k).length):=by unfold yU;exact if_pos h
theorem Xy(p l:Bool)(ks:List (List Nat)):yg true p l (fun k=>kK (dN k) 0) yU ks:=fun _ _ _ _ _ c =>
 ⟨fun a=>by rw[Xx a];exact qk p l c a,fun a=>Xw p l c a⟩
