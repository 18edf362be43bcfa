import Derived.Test.YtcfdpogegngplaaGreatZg0o
import Derived.Test.YtcfdpogegngplaaGreatZg0v
import Derived.Test.YtcfdpogegngplaaGreatZg0u
import Derived.Test.YtcfdpogegngplaaGreatZg12
set_option maxRecDepth 100000
set_option maxHeartbeats 4000000
namespace Go.Proofs.YtcfdpogegngplaaGreat
section
open Go.RowKit
noncomputable def bA(s:List Nat)(rt:Int):List (List Nat):=if s.length=0 then [] else bU s rt.toNat
noncomputable def iy(s:List Nat)(rt:Int):List Nat:=if s.length=0 then [] else pJ s.length (DA s (jF s rt.toNat)) (bU s rt.toNat).flatten
def rG(n:Nat):Int:=if n=0 then -1 else 0
def XO(w:World)(b:Nat)(s:List Nat)(rt ln:Int)(R:Nat→Prop)(e:Ending)(w':World):Prop :=
 ∃ b2 bp pv R2 R',e=.returned (.tuple #[.pointer (some ⟨b2,0,none⟩),.pointer (some ⟨bp,0,none⟩),.int .i64 0]) ∧
  MapAt w' b2 (bH ((bA s rt).map aG)) (rG s.length) ln R2∧iw w' bp pv (iy s rt)∧MapAt w' b s rt ln R' ∧
  (b2≠bp∧¬ R2 bp)∧(b≠bp∧¬ R' bp∧∀ x,R' x→R x∨w.heap.size≤x)∧w.heap.size≤bp∧(∀ k,pv.ownBlock=some k→w.heap.size≤k)∧Keeps (fun k=>k=b) w w'
theorem qho{w:World}{b:Nat}{rt ln:Int}{R:Nat→Prop}(h:MapAt w b [] rt ln R) :
  Calls Tryz.prog 39 #[.pointer (some ⟨b,0,none⟩)] w fun e w'=>∃ bp pv,e=.returned (.tuple #[.pointer (some ⟨b,0,none⟩),.pointer (some ⟨bp,0,none⟩),.int .i64 0])∧iw w' bp pv []∧w.heap.size≤bp∧(∀ k,pv.ownBlock=some k→w.heap.size≤k)∧Keeps (fun _=>False) w w':=by
 have HH:Hid (∀ W,Keeps (fun _=>False) w W→MapAt W b [] rt ln R):=ah (fun W hk=>h.keeps hk (fun h=>h) (fun _ _ h=>h))
 have ka:=(Keeps.refl (fun _=>False) w).alloc (.cells #[.int .i64 (-1)] 3)
 have hl0:aF w.heap.size (w.alloc (.cells #[.int .i64 (-1)] 3)) (.slice (some ⟨w.heap.size,0,none⟩) 1 1) [-1]:=by
  refine⟨rfl,.inr ⟨w.heap.size,1,#[.int .i64 (-1)],rfl,Nat.le_refl _,heap_alloc_new w _,Nat.le_refl _,by decide,?_,?_⟩⟩ <;> simp[ints]
 have hD:=vM (HH.out _ ka)
 have Ku:=Vs (.slice (some ⟨w.heap.size,0,none⟩) 1 1) (-1) 0 _ hl0.sl (by omega)
 have Ob:∀ W,Keeps (fun _=>False) w W→Calls Tryz.prog 84 #[.pointer (some ⟨b,0,none⟩)] W fun e w'=>e=.returned (.slice none 0 0)∧W=w':=by
  intro W hk
  have hD:=vM (HH.out _ hk)
  clear Ku hl0 ka h
  go_enter Tryz.func84,Tryz.ntmps84
  go_wp2_with fail
  refine hD.mono ?_
  rintro e w' ⟨rfl,rfl⟩
  go_wp2
  go_ret
  exact⟨rfl,rfl⟩
 have HA:=ah ka
 clear h hl0 ka
 go_enter Tryz.func39,Tryz.ntmps39
 go_wp2_with fail
 refine hD.mono ?_
 rintro e w' ⟨rfl,rfl⟩
 clear hD
 go_wp2_with fail
 refine Ku.mono ?_
 rintro e w1 ⟨g,rfl,hM⟩
 clear Ku
 obtain⟨zs,hz1,rfl,hown,hk1⟩:=hM
 have xH:=HA.out.trans hk1 (fun _ _ h=>h)
 have mI:=Ob w1 xH
 have hpo:=Rf (.slice (some ⟨g,0,none⟩) 0 0) [] w1 hown.sl aM.none (by simp)
 have HK:=ah xH
 clear Ob hz1 hown hk1 xH
 go_wp2_with fail
 refine mI.mono ?_
 rintro e w' ⟨rfl,rfl⟩
 clear mI
 go_wp2_with fail
 go_loopw [6,26] (fun c i wr=>i=.int .i64 0∧c=.int .i64 0∧w1=wr) (fun _ i _=>1 - (intOf i).toNat)
 case atStart=>exact⟨rfl,rfl,rfl⟩
 case round =>
  obtain⟨rfl,rfl,rfl⟩:=hrel
  go_wp2_with fail
  refine hpo.mono ?_
  rintro e w6 ⟨bp,pv,rfl,zL,hbp,hpv,iI⟩
  have hs1:=HK.out.size
  have HF:Hid (iw w6 bp pv []∧w.heap.size≤bp∧(∀ k,pv.ownBlock=some k→w.heap.size≤k)∧Keeps (fun _=>False) w w6):=ah ⟨zL,by omega,fun k hk=>by have:=hpv k hk;omega,HK.out.trans iI (fun _ _ h=>h)⟩
  clear hpo zL hbp hpv iI hs1
  go_wp2
  refine bodyPost_ret (v:=.tuple #[.pointer (some ⟨b,0,none⟩),.pointer (some ⟨bp,0,none⟩),.int .i64 0]) (by simp[results,Tryz.results39,go_sem]) rfl ?_
  exact⟨bp,pv,rfl,HF.out⟩
theorem qks{w:World}{b:Nat}{s:List Nat}{rt:Int}{ln:Nat}{R:Nat→Prop}(h:MapAt w b s rt ln R)(hg:dn (iC s ln)=0) :
  Calls Tryz.prog 39 #[.pointer (some ⟨b,0,none⟩)] w (XO w b s rt ln R):=by
 by_cases hn:s.length=0
 ·obtain rfl:s=[]:=List.eq_nil_of_length_eq_zero hn
  have hrt:rt=-1:=by
   rcases h.rt with⟨_,h1⟩|⟨h1,h2⟩
   ·exact h1
   ·simp at h2;omega
  subst hrt
  refine (qho h).mono ?_
  rintro e w' ⟨bp,pv,rfl,hP,hbp,hpv,hk⟩
  have hA:=h.keeps hk (fun h=>h) (fun _ _ h=>h)
  have hlt:=h.lt
  exact⟨b,bp,pv,R,R,rfl,hA,hP,hA,⟨by omega,fun hx=>by have:=h.old _ hx;omega⟩,⟨by omega,fun hx=>by have:=h.old _ hx;omega,fun x hx=>.inl hx⟩,hbp,hpv,hk.mono (fun _ _ h=>h.elim)⟩
 ·obtain⟨r,rfl⟩:∃ r:Nat,rt=r:=by
   rcases h.rt with⟨h1,_⟩|⟨h1,_⟩
   ·exact absurd h1 hn
   ·exact⟨rt.toNat,by omega⟩
  refine (qk4 h (by omega) hg).mono ?_
  rintro e w' ⟨B,b2,bp,pv,rfl,hA2,hb2,hP,hbp,ak5,hpv,⟨R',hA',hR'⟩,hk⟩
  have hlt:=h.lt
  have e1:bA s (r:Nat)=bU s r:=by unfold bA;rw[if_neg hn];simp
  have e2:iy s (r:Nat)=pJ s.length (DA s (jF s r)) (bU s r).flatten:=by unfold iy;rw[if_neg hn];simp
  have e3:rG s.length=0:=by unfold rG;rw[if_neg hn]
  refine⟨b2,bp,pv,_,R',rfl,by rw[e1,e3];exact hA2,by rw[e2];exact hP,hA',⟨by omega,fun hx=>by have:=hx.1;omega⟩,⟨by omega,fun hx=>by have:=(hR' _ hx).1;omega,fun x hx=>(hR' x hx).2⟩,hbp,fun k hk=>(hpv k hk).1,hk⟩
end
section
def mX(plain:Bool)(q:List Bool × Nat):List Nat:=jf q.2 ++ bE plain q.1
def tV(plain:Bool)(vs:List (List Bool × Nat)):List Nat:=vs.flatMap (mX plain)
def dA(vs:List (List Bool × Nat)):Nat:=(vs.map fun q=>q.1.length).sum
def oN(t p l:Bool)(ln:Nat)(vs:List (List Bool × Nat))(lab:List Bool):List Nat:=([80,81] ++ [lU t p l] ++ jf ln ++ jf vs.length ++ tV p vs) ++ if l then bI lab else []
def jw(t p l:Bool)(ln:Nat)(vs:List (List Bool × Nat))(lab:List Bool):List Nat:=oN t p l ln vs lab ++ four (iW (oN t p l ln vs lab))
theorem qgn(plain:Bool)(l:List Bool):(bE plain l).length≤(l.length+7) / 8+1:=by
 have:=qdt plain l 9
 rw[uS] at this
 exact this
theorem qmp(plain:Bool)(q:List Bool × Nat)(h:q.2≤1000000):(mX plain q).length≤q.1.length+12:=by
 have h1:=qgn plain q.1
 have h2:=xU (x:=q.2) (by omega)
 unfold mX
 rw[List.length_append]
 omega
theorem qfe(plain:Bool)(vs:List (List Bool × Nat))(q:List Bool × Nat):tV plain (vs ++ [q])=tV plain vs ++ mX plain q:=by simp[tV]
theorem qhp(vs:List (List Bool × Nat))(q:List Bool × Nat):dA (vs ++ [q])=dA vs+q.1.length:=by simp[dA]
theorem qak(vs:List (List Bool × Nat))(i:Nat):dA (vs.take i)≤dA vs:=by
 conv=>rhs;rw[← List.take_append_drop i vs]
 unfold dA
 rw[List.map_append,List.sum_append]
 omega
theorem SL(plain:Bool):∀ (vs:List (List Bool × Nat)),(∀ q ∈ vs,q.2≤1000000)→(tV plain vs).length≤dA vs+12 * vs.length
 | [],_=>by simp[tV,dA]
 | q :: vs,h=>by
  have h1:=qmp plain q (h q (by simp))
  have h2:=SL plain vs (fun x hx=>h x (by simp[hx]))
  have e1:tV plain (q :: vs)=mX plain q ++ tV plain vs:=by simp[tV]
  have e2:dA (q :: vs)=q.1.length+dA vs:=by simp[dA]
  rw[e1,e2,List.length_append,List.length_cons]
  omega
theorem qkt(plain:Bool)(vs:List (List Bool × Nat)):∀ b ∈ tV plain vs,b<256:=fun b hb=>by
 unfold tV at hb
 rw[List.mem_flatMap] at hb
 obtain⟨q,_,hb⟩:=hb
 unfold mX at hb
 rcases List.mem_append.1 hb with h|h
 ·exact SH _ _ h
 ·exact XK plain _ _ h
theorem SN(t p l:Bool)(ln:Nat)(vs:List (List Bool × Nat))(lab:List Bool):∀ b ∈ oN t p l ln vs lab,b<256:=fun b hb=>by
 unfold oN at hb
 have hf:=Xc t p l
 rcases List.mem_append.1 hb with h|h
 ·rcases List.mem_append.1 h with h|h
  ·rcases List.mem_append.1 h with h|h
   ·rcases List.mem_append.1 h with h|h
    ·simp at h;omega
    ·exact SH _ _ h
   ·exact SH _ _ h
  ·exact qkt p vs b h
 ·cases l
  ·simp at h
  ·exact SI _ _ h
theorem SQ{s:List Nat}{rt:Int}{ln:Nat}(hP:aM s.length (sg s))(he:s.length % 2=0)(hg:dn (iC s ln)=0)(hrt:(s.length=0∧rt=-1)∨(0≤rt∧rt<s.length)):eD (bA s rt)∧(bA s rt).flatten.length=s.length∧(iy s rt).length=s.length∧aM s.length (sg (iy s rt))∧(∀ d,d<s.length→sg (iy s rt) (mt d)=mt (sg (iy s rt) d))∧(∀ d,d<s.length→sg (bH ((bA s rt).map aG)) (sg (iy s rt) d)=sg (iy s rt) (sg s d))∧(0<s.length→sg (iy s rt) rt.toNat=0):=by
 by_cases hn:s.length=0
 ·have e1:bA s rt=[]:=by unfold bA;rw[if_pos hn]
  have e2:iy s rt=[]:=by unfold iy;rw[if_pos hn]
  rw[e1,e2,hn]
  exact⟨fun k hk=>by simp at hk,rfl,rfl,Rk _,fun d hd=>by omega,fun d hd=>by omega,fun h=>by omega⟩
 ·obtain⟨r,rfl⟩:∃ r:Nat,rt=r:=⟨rt.toNat,by omega⟩
  have hr:r<s.length:=by omega
  have e1:bA s (r:Nat)=bU s r:=by unfold bA;rw[if_neg hn];simp
  have e2:iy s (r:Nat)=pJ s.length (DA s (jF s r)) (bU s r).flatten:=by unfold iy;rw[if_neg hn];simp
  obtain⟨k,h0⟩:=walks_all hP he hg hr
  have h1:=k.vT (by omega)
  rw[h0] at h1
  rw[e1,e2]
  refine⟨k.ok,k.len,Kr _ _ _,k.uO,fun d hd=>k.vQ hd,fun d hd=>k.vR hd,fun _=>?_⟩
  rw[Int.toNat_natCast]
  exact h1
theorem qgo{n:Nat}{P:Nat→Nat}(h:aM n P)(he:n % 2=0)(hm:∀ d,d<n→P (mt d)=mt (P d)){d:Nat}(hd:d<n):gQ P (mt d)=mt (gQ P d):=by
 have h1:=h.bC hd
 refine h.inj _ _ (h.bC (aU he hd)) (aU he h1) ?_
 rw[h.bS (aU he hd),hm _ h1,h.bS hd]
theorem SV{s:List Nat}{d:Nat}(hd:d<s.length):sg (jO s) d=gQ (sg s) d:=by simp[sg,jO,hd]
noncomputable def gU(s:List Nat)(rt:Int):List Bool:=iY (s.length / 2) (fun e=>sg (jO (iy s rt)) (2 * e)) (s.length / 2)
end
