import Derived.Test.YtcfdpogegngplaaGreatZaCanonM
import Derived.Test.YtcfdpogegngplaaGreatZaCode
import Derived.Test.YtcfdpogegngplaaGreatZaLabel
import Derived.Test.YtcfdpogegngplaaGreatZaPack
import Derived.Test.YtcfdpogegngplaaGreatZaFileP
set_option maxRecDepth 100000
set_option maxHeartbeats 4000000
namespace Go.Proofs.YtcfdpogegngplaaGreat
section
open Go.RowKit
noncomputable def kssM (s:List Nat) (rt:Int):List (List Nat):=if s.length=0 then [] else kssOf s rt.toNat
noncomputable def nmsM (s:List Nat) (rt:Int):List Nat:=if s.length=0 then [] else psL s.length (DA s (q0k s rt.toNat)) (kssOf s rt.toNat).flatten
def rt0 (n:Nat):Int:=if n=0 then -1 else 0
def CanG (w:World) (b:Nat) (s:List Nat) (rt ln:Int) (R:Nat→Prop) (e:Ending) (w':World):Prop :=
 ∃ b2 bp pv R2 R',e=.returned (.tuple #[.pointer (some ⟨b2,0,none⟩),.pointer (some ⟨bp,0,none⟩),.int .i64 0]) ∧
  MapAt w' b2 (catM ((kssM s rt).map decL)) (rt0 s.length) ln R2∧PermF w' bp pv (nmsM s rt)∧MapAt w' b s rt ln R' ∧
  (b2≠bp∧¬ R2 bp)∧(b≠bp∧¬ R' bp∧∀ x,R' x→R x∨w.heap.size≤x)∧w.heap.size≤bp∧(∀ k,pv.ownBlock=some k→w.heap.size≤k)∧Keeps (fun k=>k=b) w w'
theorem qgr {w:World} {b:Nat} {rt ln:Int} {R:Nat→Prop} (h:MapAt w b [] rt ln R) :
  Calls Tryz.prog 39 #[.pointer (some ⟨b,0,none⟩)] w fun e w'=>∃ bp pv,e=.returned (.tuple #[.pointer (some ⟨b,0,none⟩),.pointer (some ⟨bp,0,none⟩),.int .i64 0])∧PermF w' bp pv []∧w.heap.size≤bp∧(∀ k,pv.ownBlock=some k→w.heap.size≤k)∧Keeps (fun _=>False) w w':=by
 have HH:Hid (∀ W,Keeps (fun _=>False) w W→MapAt W b [] rt ln R):=Lib.hid (fun W hk=>h.keeps hk (fun h=>h) (fun _ _ h=>h))
 have ka:=(Keeps.refl (fun _=>False) w).alloc (.cells #[.int .i64 (-1)] 3)
 have hl0:OwnI w.heap.size (w.alloc (.cells #[.int .i64 (-1)] 3)) (.slice (some ⟨w.heap.size,0,none⟩) 1 1) [-1]:=by
  refine⟨rfl,.inr ⟨w.heap.size,1,#[.int .i64 (-1)],rfl,Nat.le_refl _,heap_alloc_new w _,Nat.le_refl _,by decide,?_,?_⟩⟩ <;> simp[ints]
 have hD:=q0g (HH.out _ ka)
 have hRp:=q6f (.slice (some ⟨w.heap.size,0,none⟩) 1 1) (-1) 0 _ hl0.sl (by omega)
 have hRt:∀ W,Keeps (fun _=>False) w W→Calls Tryz.prog 84 #[.pointer (some ⟨b,0,none⟩)] W fun e w'=>e=.returned (.slice none 0 0)∧W=w':=by
  intro W hk
  have hD:=q0g (HH.out _ hk)
  clear hRp hl0 ka h
  go_enter Tryz.func84,Tryz.ntmps84
  go_wp2_with fail
  refine hD.mono ?_
  rintro e w' ⟨rfl,rfl⟩
  go_wp2
  go_ret
  exact⟨rfl,rfl⟩
 have HA:=Lib.hid ka
 clear h hl0 ka
 go_enter Tryz.func39,Tryz.ntmps39
 go_wp2_with fail
 refine hD.mono ?_
 rintro e w' ⟨rfl,rfl⟩
 clear hD
 go_wp2_with fail
 refine hRp.mono ?_
 rintro e w1 ⟨g,rfl,hM⟩
 clear hRp
 obtain⟨zs,hz1,rfl,hown,hk1⟩:=hM
 have k01:=HA.out.trans hk1 (fun _ _ h=>h)
 have hR1:=hRt w1 k01
 have hpo:=q4j (.slice (some ⟨g,0,none⟩) 0 0) [] w1 hown.sl IsP.none (by simp)
 have HK:=Lib.hid k01
 clear hRt hz1 hown hk1 k01
 go_wp2_with fail
 refine hR1.mono ?_
 rintro e w' ⟨rfl,rfl⟩
 clear hR1
 go_wp2_with fail
 go_loopw [6,26] (fun c i wr=>i=.int .i64 0∧c=.int .i64 0∧w1=wr) (fun _ i _=>1 - (intOf i).toNat)
 case atStart=>exact⟨rfl,rfl,rfl⟩
 case round =>
  obtain⟨rfl,rfl,rfl⟩:=hrel
  go_wp2_with fail
  refine hpo.mono ?_
  rintro e w6 ⟨bp,pv,rfl,hPA,hbp,hpv,hk6⟩
  have hs1:=HK.out.size
  have HF:Hid (PermF w6 bp pv []∧w.heap.size≤bp∧(∀ k,pv.ownBlock=some k→w.heap.size≤k)∧Keeps (fun _=>False) w w6):=Lib.hid ⟨hPA,by omega,fun k hk=>by have:=hpv k hk;omega,HK.out.trans hk6 (fun _ _ h=>h)⟩
  clear hpo hPA hbp hpv hk6 hs1
  go_wp2
  refine bodyPost_ret (v:=.tuple #[.pointer (some ⟨b,0,none⟩),.pointer (some ⟨bp,0,none⟩),.int .i64 0]) (by simp[results,Tryz.results39,go_sem]) rfl ?_
  exact⟨bp,pv,rfl,HF.out⟩
theorem qid {w:World} {b:Nat} {s:List Nat} {rt:Int} {ln:Nat} {R:Nat→Prop} (h:MapAt w b s rt ln R) (hg:genS (q0b s ln)=0) :
  Calls Tryz.prog 39 #[.pointer (some ⟨b,0,none⟩)] w (CanG w b s rt ln R):=by
 by_cases hn:s.length=0
 ·obtain rfl:s=[]:=List.eq_nil_of_length_eq_zero hn
  have hrt:rt=-1:=by
   rcases h.rt with⟨_,h1⟩|⟨h1,h2⟩
   ·exact h1
   ·simp at h2;omega
  subst hrt
  refine (qgr h).mono ?_
  rintro e w' ⟨bp,pv,rfl,hP,hbp,hpv,hk⟩
  have hA:=h.keeps hk (fun h=>h) (fun _ _ h=>h)
  have hlt:=h.lt
  exact⟨b,bp,pv,R,R,rfl,hA,hP,hA,⟨by omega,fun hx=>by have:=h.old _ hx;omega⟩,⟨by omega,fun hx=>by have:=h.old _ hx;omega,fun x hx=>.inl hx⟩,hbp,hpv,hk.mono (fun _ _ h=>h.elim)⟩
 ·obtain⟨r,rfl⟩:∃ r:Nat,rt=r:=by
   rcases h.rt with⟨h1,_⟩|⟨h1,_⟩
   ·exact absurd h1 hn
   ·exact⟨rt.toNat,by omega⟩
  refine (qhq h (by omega) hg).mono ?_
  rintro e w' ⟨B,b2,bp,pv,rfl,hA2,hb2,hP,hbp,hbpB,hpv,⟨R',hA',hR'⟩,hk⟩
  have hlt:=h.lt
  have e1:kssM s (r:Nat)=kssOf s r:=by unfold kssM;rw[if_neg hn];simp
  have e2:nmsM s (r:Nat)=psL s.length (DA s (q0k s r)) (kssOf s r).flatten:=by unfold nmsM;rw[if_neg hn];simp
  have e3:rt0 s.length=0:=by unfold rt0;rw[if_neg hn]
  refine⟨b2,bp,pv,_,R',rfl,by rw[e1,e3];exact hA2,by rw[e2];exact hP,hA',⟨by omega,fun hx=>by have:=hx.1;omega⟩,⟨by omega,fun hx=>by have:=(hR' _ hx).1;omega,fun x hx=>(hR' x hx).2⟩,hbp,fun k hk=>(hpv k hk).1,hk⟩
end
section
def codeB (plain:Bool) (q:List Bool × Nat):List Nat:=vaB q.2 ++ packB plain q.1
def q29 (plain:Bool) (vs:List (List Bool × Nat)):List Nat:=vs.flatMap (codeB plain)
def sizeN (vs:List (List Bool × Nat)):Nat:=(vs.map fun q=>q.1.length).sum
def encN (t p l:Bool) (ln:Nat) (vs:List (List Bool × Nat)) (lab:List Bool):List Nat:=([80,81] ++ [flN t p l] ++ vaB ln ++ vaB vs.length ++ q29 p vs) ++ if l then octB lab else []
def fileN (t p l:Bool) (ln:Nat) (vs:List (List Bool × Nat)) (lab:List Bool):List Nat:=encN t p l ln vs lab ++ four (crcV (encN t p l ln vs lab))
theorem qfh (plain:Bool) (l:List Bool):(packB plain l).length≤(l.length+7) / 8+1:=by
 have:=qc8 plain l 9
 rw[q0f] at this
 exact this
theorem ql5 (plain:Bool) (q:List Bool × Nat) (h:q.2≤1000000):(codeB plain q).length≤q.1.length+12:=by
 have h1:=qfh plain q.1
 have h2:=q0z (x:=q.2) (by omega)
 unfold codeB
 rw[List.length_append]
 omega
theorem qe5 (plain:Bool) (vs:List (List Bool × Nat)) (q:List Bool × Nat):q29 plain (vs ++ [q])=q29 plain vs ++ codeB plain q:=by simp[q29]
theorem qgs (vs:List (List Bool × Nat)) (q:List Bool × Nat):sizeN (vs ++ [q])=sizeN vs+q.1.length:=by simp[sizeN]
theorem q9v (vs:List (List Bool × Nat)) (i:Nat):sizeN (vs.take i)≤sizeN vs:=by
 conv=>rhs;rw[← List.take_append_drop i vs]
 unfold sizeN
 rw[List.map_append,List.sum_append]
 omega
theorem q5t (plain:Bool):∀ (vs:List (List Bool × Nat)),(∀ q ∈ vs,q.2≤1000000)→(q29 plain vs).length≤sizeN vs+12 * vs.length
 | [],_=>by simp[q29,sizeN]
 | q :: vs,h=>by
  have h1:=ql5 plain q (h q (by simp))
  have h2:=q5t plain vs (fun x hx=>h x (by simp[hx]))
  have e1:q29 plain (q :: vs)=codeB plain q ++ q29 plain vs:=by simp[q29]
  have e2:sizeN (q :: vs)=q.1.length+sizeN vs:=by simp[sizeN]
  rw[e1,e2,List.length_append,List.length_cons]
  omega
theorem qie (plain:Bool) (vs:List (List Bool × Nat)):∀ b ∈ q29 plain vs,b<256:=fun b hb=>by
 unfold q29 at hb
 rw[List.mem_flatMap] at hb
 obtain⟨q,_,hb⟩:=hb
 unfold codeB at hb
 rcases List.mem_append.1 hb with h|h
 ·exact qfn _ _ h
 ·exact qb0 plain _ _ h
theorem qav (t p l:Bool) (ln:Nat) (vs:List (List Bool × Nat)) (lab:List Bool):∀ b ∈ encN t p l ln vs lab,b<256:=fun b hb=>by
 unfold encN at hb
 have hf:=qiz t p l
 rcases List.mem_append.1 hb with h|h
 ·rcases List.mem_append.1 h with h|h
  ·rcases List.mem_append.1 h with h|h
   ·rcases List.mem_append.1 h with h|h
    ·simp at h;omega
    ·exact qfn _ _ h
   ·exact qfn _ _ h
  ·exact qie p vs b h
 ·cases l
  ·simp at h
  ·exact qb _ _ h
theorem qaw {s:List Nat} {rt:Int} {ln:Nat} (hP:IsP s.length (sg s)) (he:s.length % 2=0) (hg:genS (q0b s ln)=0) (hrt:(s.length=0∧rt=-1)∨(0≤rt∧rt<s.length)):KsOk (kssM s rt)∧(kssM s rt).flatten.length=s.length∧(nmsM s rt).length=s.length∧IsP s.length (sg (nmsM s rt))∧(∀ d,d<s.length→sg (nmsM s rt) (mt d)=mt (sg (nmsM s rt) d))∧(∀ d,d<s.length→sg (catM ((kssM s rt).map decL)) (sg (nmsM s rt) d)=sg (nmsM s rt) (sg s d))∧(0<s.length→sg (nmsM s rt) rt.toNat=0):=by
 by_cases hn:s.length=0
 ·have e1:kssM s rt=[]:=by unfold kssM;rw[if_pos hn]
  have e2:nmsM s rt=[]:=by unfold nmsM;rw[if_pos hn]
  rw[e1,e2,hn]
  exact⟨fun k hk=>by simp at hk,rfl,rfl,q5n _,fun d hd=>by omega,fun d hd=>by omega,fun h=>by omega⟩
 ·obtain⟨r,rfl⟩:∃ r:Nat,rt=r:=⟨rt.toNat,by omega⟩
  have hr:r<s.length:=by omega
  have e1:kssM s (r:Nat)=kssOf s r:=by unfold kssM;rw[if_neg hn];simp
  have e2:nmsM s (r:Nat)=psL s.length (DA s (q0k s r)) (kssOf s r).flatten:=by unfold nmsM;rw[if_neg hn];simp
  obtain⟨k,h0⟩:=walks_all hP he hg hr
  have h1:=k.ps_root (by omega)
  rw[h0] at h1
  rw[e1,e2]
  refine⟨k.ok,k.len,q2l _ _ _,k.ps_isP,fun d hd=>k.ps_mate hd,fun d hd=>k.ps_turn hd,fun _=>?_⟩
  rw[Int.toNat_natCast]
  exact h1
theorem qfi {n:Nat} {P:Nat→Nat} (h:IsP n P) (he:n % 2=0) (hm:∀ d,d<n→P (mt d)=mt (P d)) {d:Nat} (hd:d<n):invP P (mt d)=mt (invP P d):=by
 have h1:=h.inv_lt hd
 refine h.inj _ _ (h.inv_lt (mt_lt he hd)) (mt_lt he h1) ?_
 rw[h.inv_to (mt_lt he hd),hm _ h1,h.inv_to hd]
theorem qax {s:List Nat} {d:Nat} (hd:d<s.length):sg (invL s) d=invP (sg s) d:=by simp[sg,invL,hd]
noncomputable def labM (s:List Nat) (rt:Int):List Bool:=labB (s.length / 2) (fun e=>sg (invL (nmsM s rt)) (2 * e)) (s.length / 2)
end
end Go.Proofs.YtcfdpogegngplaaGreat
