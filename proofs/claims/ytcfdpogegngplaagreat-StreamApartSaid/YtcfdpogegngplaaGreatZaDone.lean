import Derived.Deep.RegionHeld3
import Derived.Defers
import Derived.BigQuiet
import Derived.Test.YtcfdpogegngplaaGreatZaStream
set_option maxRecDepth 100000
set_option maxHeartbeats 4000000
namespace Go.Proofs.YtcfdpogegngplaaGreat
open Go.RowKit
theorem qn (g b:Nat) (u:FrameMode) (w:World) (pv:Value) (h0:w.cell? ⟨g,0,none⟩=some (.pointer (some ⟨b,0,none⟩))) (h1:w.cell? ⟨b,1,none⟩=some pv) (hf:∀ i,w.frozen? ⟨b,i,none⟩=false) :
  CallsD Tryz.prog 88 #[.pointer (some ⟨g,0,none⟩)] u w fun e u' w'=>u'=u∧(e=.returned (.tuple #[])∧w'=w.setCell ⟨b,1,none⟩ (.slice none 0 0)):=by
 go_enter_d Tryz.func88,Tryz.ntmps88
 go_wp2
 exact bodyPost_end (results_none rfl _ _ _) rfl ⟨rfl,rfl⟩
theorem opt3 {W:World} {g:Nat} {a b c:Value} {T:TypeId} (h:W.heap[g]? = some (.cells #[a,b,c] T (0,0))) (x y z:Value) :
  (((W.setCell ⟨g,0,none⟩ x).setCell ⟨g,1,none⟩ y).setCell ⟨g,2,none⟩ z).heap[g]? = some (.cells #[x,y,z] T (0,0))∧Keeps (fun k=>k=g) W (((W.setCell ⟨g,0,none⟩ x).setCell ⟨g,1,none⟩ y).setCell ⟨g,2,none⟩ z):=by
 have g0:=q00 h 0 x
 have g1:=q00 g0 1 y
 have g2:=q00 g1 2 z
 exact⟨g2,(((Keeps.refl (fun k=>k=g) W).setCell (p:=⟨g,0,none⟩) (Or.inl rfl) x).setCell (p:=⟨g,1,none⟩) (Or.inl rfl) y).setCell (p:=⟨g,2,none⟩) (Or.inl rfl) z⟩
theorem qe4 (b B:Nat) (lim:Int) (pv:Value) (cs:List Nat) (n:Nat) (w:World) (hS:StrAt w B b lim pv cs n false) (D:Value→Bool→Bool→Bool→Int→World→Prop)
  (hD:∀ W,Keeps (fun k=>k=b) w W→w.heap.size+2≤W.heap.size→Calls Tryz.prog 34 #[pv,.int .i64 lim] W fun e w'=>∃ P x y z c,e=.returned (.tuple #[P,.agg #[.bool x,.bool y,.bool z],.int .i64 c])∧Keeps (fun _=>False) W w'∧D P x y z c w') :
  Calls Tryz.prog 46 #[.pointer (some ⟨b,0,none⟩)] w fun e w'=>∃ P x y z c,e=.returned (.tuple #[P,.agg #[.bool x,.bool y,.bool z],.int .i64 c])∧(∃ w1,D P x y z c w1∧Keeps (fun k=>k=b∨(w.heap.size≤k∧k<w.heap.size+2)) w1 w')∧Keeps (fun k=>k=b) w w'∧StrAt w' B b lim (.slice none 0 0) [] n true:=by
 have hmf:∀ (fn:Fn) (first cap:Array Value) (w:World),(Instr.makeFunc fn first cap).run Tryz.prog w=.ok (.func fn first cap) w:=fun _ _ _ _=>rfl
 obtain⟨hB1,hO,hne,hle⟩:=id hS
 have hbl:=lt_of_block hB1
 obtain⟨A1,hA1⟩:∃ A1,A1=w.setCell ⟨b,3,none⟩ (.bool true):=⟨_,rfl⟩
 have k1:Keeps (fun k=>k=b) w A1:=by rw[hA1];exact (Keeps.refl (fun k=>k=b) w).setCell (p:=⟨b,3,none⟩) (Or.inl rfl) _
 have gb:A1.heap[b]? = some (.cells #[.int .i64 lim,pv,.int .i64 n,.bool true] 145 (0,0)):=by
  rw[hA1];simpa using q00 hB1 3 (.bool true)
 have hz:A1.heap.size=w.heap.size:=by rw[hA1];simp
 obtain⟨A3,hA3⟩:∃ A3,A3=(A1.alloc (.cells #[.pointer (some ⟨b,0,none⟩)] 76)).alloc (.cells #[.bool false,.bool false,.bool false] 35):=⟨_,rfl⟩
 have ka:Keeps (fun _=>False) A1 A3:=by rw[hA3];exact ((Keeps.refl (fun _=>False) A1).alloc _).alloc _
 have f0:A3.heap[w.heap.size]? = some (.cells #[.pointer (some ⟨b,0,none⟩)] 76 (0,0)):=by
  rw[hA3,← hz]
  exact ((Keeps.refl (fun _=>False) (A1.alloc _)).alloc _).at (heap_alloc_new A1 _) (fun h=>h)
 have f1:A3.heap[w.heap.size+1]? = some (.cells #[.bool false,.bool false,.bool false] 35 (0,0)):=by
  have h:=heap_alloc_new (A1.alloc (.cells #[.pointer (some ⟨b,0,none⟩)] 76)) (.cells #[.bool false,.bool false,.bool false] 35)
  rw[show (A1.alloc (.cells #[.pointer (some ⟨b,0,none⟩)] 76)).heap.size=w.heap.size+1 by simp[hz]] at h
  rw[hA3]
  exact h
 have fb:=(ka.at gb (fun h=>h):A3.heap[b]? = _)
 have c3:=World.cell_of_heap hB1 3
 have hf:=World.free_of_heap hB1
 have k3:Keeps (fun k=>k=b) w A3:=k1.trans ka (fun _ _ h=>h.elim)
 have HS:Hid (∀ W,Keeps (fun _=>False) A3 W→W.cell? ⟨w.heap.size,0,none⟩=some (.pointer (some ⟨b,0,none⟩))∧W.cell? ⟨b,0,none⟩=some (.int .i64 lim)∧W.cell? ⟨b,1,none⟩=some pv):=Lib.hid (fun W hW=>⟨World.cell_of_heap (hW.at f0 (fun h=>h)) 0,World.cell_of_heap (hW.at fb (fun h=>h)) 0,World.cell_of_heap (hW.at fb (fun h=>h)) 1⟩)
 have HX:=Lib.hid (And.intro f0 (And.intro f1 (And.intro fb (And.intro k3 (And.intro hO (And.intro hne hle))))))
 have HG:Hid (∀ (w4:World) (x y z:Bool),Keeps (fun _=>False) A3 w4→∀ Dx:Prop,Dx→Keeps (fun _=>False) A3 w4∧Dx ∧
   (((((w4.setCell ⟨w.heap.size+1,0,none⟩ (.bool x)).setCell ⟨w.heap.size+1,1,none⟩ (.bool y)).setCell ⟨w.heap.size+1,2,none⟩ (.bool z))).cell? ⟨w.heap.size,0,none⟩=some (.pointer (some ⟨b,0,none⟩))∧((((w4.setCell ⟨w.heap.size+1,0,none⟩ (.bool x)).setCell ⟨w.heap.size+1,1,none⟩ (.bool y)).setCell ⟨w.heap.size+1,2,none⟩ (.bool z))).cell? ⟨b,0,none⟩=some (.int .i64 lim)∧((((w4.setCell ⟨w.heap.size+1,0,none⟩ (.bool x)).setCell ⟨w.heap.size+1,1,none⟩ (.bool y)).setCell ⟨w.heap.size+1,2,none⟩ (.bool z))).cell? ⟨b,1,none⟩=some pv) ∧
   ∀ W,Keeps (fun _=>False) (((w4.setCell ⟨w.heap.size+1,0,none⟩ (.bool x)).setCell ⟨w.heap.size+1,1,none⟩ (.bool y)).setCell ⟨w.heap.size+1,2,none⟩ (.bool z)) W →
    W.cell? ⟨w.heap.size,0,none⟩=some (.pointer (some ⟨b,0,none⟩))∧W.cell? ⟨b,1,none⟩=some pv∧(∀ i,W.frozen? ⟨b,i,none⟩=false) ∧
    (W.setCell ⟨b,1,none⟩ (.slice none 0 0)).cell? ⟨w.heap.size+1,0,none⟩=some (.bool x)∧(W.setCell ⟨b,1,none⟩ (.slice none 0 0)).cell? ⟨w.heap.size+1,1,none⟩=some (.bool y)∧(W.setCell ⟨b,1,none⟩ (.slice none 0 0)).cell? ⟨w.heap.size+1,2,none⟩=some (.bool z) ∧
    Keeps (fun k=>k=b∨(w.heap.size≤k∧k<w.heap.size+2)) w4 (W.setCell ⟨b,1,none⟩ (.slice none 0 0))∧Keeps (fun k=>k=b) w (W.setCell ⟨b,1,none⟩ (.slice none 0 0))∧StrAt (W.setCell ⟨b,1,none⟩ (.slice none 0 0)) B b lim (.slice none 0 0) [] n true):=Lib.hid (fun w4 x y z hk Dx hDx=>by
  obtain⟨f0,f1,fb,k3,hO,hne,hle⟩:=HX.out
  have e1:=(hk.at f1 (fun h=>h):w4.heap[w.heap.size+1]? = _)
  have e0:=(hk.at f0 (fun h=>h):w4.heap[w.heap.size]? = _)
  have eb:=(hk.at fb (fun h=>h):w4.heap[b]? = _)
  obtain⟨o1,ko⟩:=opt3 e1 (.bool x) (.bool y) (.bool z)
  generalize (((w4.setCell ⟨w.heap.size+1,0,none⟩ (.bool x)).setCell ⟨w.heap.size+1,1,none⟩ (.bool y)).setCell ⟨w.heap.size+1,2,none⟩ (.bool z))=V at *
  have v0:=ko.at e0 (fun e=>by omega)
  have vb:=ko.at eb (fun e=>by omega)
  refine⟨hk,hDx,⟨World.cell_of_heap v0 0,World.cell_of_heap vb 0,World.cell_of_heap vb 1⟩,fun W hW=>?_⟩
  have u0:=(hW.at v0 (fun h=>h):W.heap[_]? = _)
  have u1:=(hW.at o1 (fun h=>h):W.heap[_]? = _)
  have ub:=(hW.at vb (fun h=>h):W.heap[_]? = _)
  have kl:=(Keeps.refl (fun k=>k=b) W).setCell (p:=⟨b,1,none⟩) (Or.inl rfl) (.slice none 0 0)
  have x1:=kl.at u1 (fun e=>by omega)
  have xb:(W.setCell ⟨b,1,none⟩ (.slice none 0 0)).heap[b]? = some (.cells #[.int .i64 lim,.slice none 0 0,.int .i64 n,.bool true] 145 (0,0)):=by simpa using q00 ub 1 (.slice none 0 0)
  have kV:Keeps (fun k=>k=b∨(w.heap.size≤k∧k<w.heap.size+2)) w4 (W.setCell ⟨b,1,none⟩ (.slice none 0 0)):=((ko.mono (fun k hk h=>Or.inr ⟨by omega,by omega⟩):Keeps (fun k=>k=b∨(w.heap.size≤k∧k<w.heap.size+2)) w4 V).trans hW (fun _ _ h=>False.elim h)).trans kl (fun _ _ h=>Or.inl h)
  refine⟨World.cell_of_heap u0 0,World.cell_of_heap ub 1,World.free_of_heap ub,World.cell_of_heap x1 0,World.cell_of_heap x1 1,World.cell_of_heap x1 2,kV,?_,xb,OwnY.nil _ _,by simp[Value.ownBlock],hle⟩
  exact (k3.trans hk (fun _ _ h=>False.elim h)).trans kV (fun k hk h=>by rcases h with h|h;exact h;exact absurd hk (by omega)))
 have HD:Hid (∀ W,Keeps (fun _=>False) A3 W→Calls Tryz.prog 34 #[pv,.int .i64 lim] W fun e w'=>∃ P x y z c,e=.returned (.tuple #[P,.agg #[.bool x,.bool y,.bool z],.int .i64 c])∧Keeps (fun _=>False) W w'∧D P x y z c w'):=Lib.hid (fun W hW=>hD W (k3.trans hW (fun _ _ h=>False.elim h)) (by have h1:=hW.size;rw[hA3] at h1;simp[hz] at h1;omega))
 clear hS hB1 hO hne hle ka k1 gb k3 f0 f1 fb hD hz
 go_enter_defers Tryz.func46,Tryz.ntmps46
 go_wp2_with fail
 rw[← hA1,← hA3]
 clear hA1 hA3 c3 hf
 obtain⟨s0,s1,s2⟩:=HS.out A3 (Keeps.refl _ _)
 go_region_held3 (fun w'=>w'.cell? ⟨w.heap.size,0,none⟩=some (.pointer (some ⟨b,0,none⟩))∧w'.cell? ⟨b,0,none⟩=some (.int .i64 lim)∧w'.cell? ⟨b,1,none⟩=some pv) (first|exact HS.out _ (Keeps.refl _ _)|exact HS.out _ (Keeps.refl (fun _=>False) A3).drew|exact HS.out _ HE.out.1|exact HE.out.2.2.1) ((go_at_call 34;refine (HD.out _ (by first|exact Keeps.refl (fun _=>False) _|exact (Keeps.refl (fun _=>False) _).drew)).mono ?_;rintro e w4 ⟨P,x,y,z,c,rfl,hk4,hd4⟩;have HE:Hid (Keeps (fun _=>False) A3 w4∧D P x y z c w4∧_∧_):=Lib.hid (HG.out w4 x y z (by first|exact hk4|exact (Keeps.refl (fun _=>False) A3).drew.trans hk4 (fun _ _ h=>h)) (D P x y z c w4) hd4);clear hk4 hd4;obtain⟨d0,d1,d2,df⟩:w4.cell? ⟨w.heap.size+1,0,none⟩=some (.bool false)∧w4.cell? ⟨w.heap.size+1,1,none⟩=some (.bool false)∧w4.cell? ⟨w.heap.size+1,2,none⟩=some (.bool false)∧(∀ i,w4.frozen? ⟨w.heap.size+1,i,none⟩=false):=by (have h4:=(HE.out.1.at HX.out.2.1 (fun h=>h):w4.heap[w.heap.size+1]? = _);exact⟨World.cell_of_heap h4 0,World.cell_of_heap h4 1,World.cell_of_heap h4 2,World.free_of_heap h4⟩)))
 all_goals
  go_wp2_with fail
  obtain⟨q0,q1,qf,r0,r1,r2,kw,kb,hst⟩:=HE.out.2.2.2 _ (by first|exact Keeps.refl (fun _=>False) _|exact (Keeps.refl (fun _=>False) _).drew)
  refine leaves_cons (f:=88) (args:=#[.pointer (some ⟨w.heap.size,0,none⟩)]) (by simp) (by simp[go_sem]) ?_
  refine (qn w.heap.size b .returning _ pv q0 q1 qf).mono ?_
  rintro e u' w'' ⟨rfl,rfl,rfl⟩
  refine⟨.tuple #[P,.agg #[.bool x,.bool y,.bool z],.int .i64 c],?_,P,x,y,z,c,rfl,⟨w4,HE.out.2.1,kw⟩,kb,hst⟩
  simp[results,Tryz.results46,go_sem,r0,r1,r2]
end Go.Proofs.YtcfdpogegngplaaGreat
