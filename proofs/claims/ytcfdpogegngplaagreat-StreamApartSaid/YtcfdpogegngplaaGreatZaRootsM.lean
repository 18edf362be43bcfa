import Derived.Test.YtcfdpogegngplaaGreatZaCanW
import Derived.Test.YtcfdpogegngplaaGreatZaCat2
set_option maxRecDepth 100000
set_option maxHeartbeats 4000000
namespace Go.Proofs.YtcfdpogegngplaaGreat
open Go.RowKit
noncomputable def ldrsL (s:List Nat):List Nat:=(List.range s.length).filter fun d=>crep s.length (sg s) d == d
theorem q7g (s:List Nat):(ldrsL s).length=cldr s.length (sg s) s.length:=rfl
theorem qde {s:List Nat} {j:Nat} (hj:j<cldr s.length (sg s) s.length):(ldrsL s)[j]? = some (rootP s j):=by
 have h:j<(ldrsL s).length:=hj
 rw[List.getElem?_eq_getElem h]
 show _=some ((ldrsL s).getD j 0)
 rw[List.getD_eq_getElem?_getD,List.getElem?_eq_getElem h]
 rfl
open Classical in
noncomputable def rtsJ (s:List Nat) (r j:Nat):List Nat:=r :: ((ldrsL s).take j).filter fun d=>!decide (Conn s.length (sg s) r d)
theorem qdf (s:List Nat) (r:Nat):rtsJ s r 0=[r]:=by simp[rtsJ]
theorem q81 {s:List Nat} {r j:Nat} (hj:cldr s.length (sg s) s.length≤j):rtsJ s r j=q0k s r:=by
 unfold rtsJ q0k
 rw[List.take_of_length_le (by rw[q7g];exact hj)]
 unfold ldrsL
 rw[List.filter_filter]
 congr 1
 exact List.filter_congr (fun x _=>Bool.and_comm _ _)
open Classical in
theorem qk4 {s:List Nat} (hP:IsP s.length (sg s)) (he:s.length % 2=0) {r j:Nat} (hr:r<s.length) (hj:j<cldr s.length (sg s) s.length):rtsJ s r (j+1)=if j=cnum s.length (sg s) r then rtsJ s r j else rtsJ s r j ++ [rootP s j]:=by
 obtain⟨h1,h2,h3⟩:=q6l hj
 unfold rtsJ
 rw[q0e (qde hj),List.filter_append]
 have hc:Conn s.length (sg s) r (rootP s j)↔cnum s.length (sg s) r=j:=by
  rw[← hP.cnum_iff he hr h1,h3]
 by_cases h4:j=cnum s.length (sg s) r
 ·rw[if_pos h4]
  have:Conn s.length (sg s) r (rootP s j):=hc.2 h4.symm
  rw[List.filter_cons,decide_eq_true this]
  simp
 ·rw[if_neg h4]
  have:¬ Conn s.length (sg s) r (rootP s j):=fun h=>h4 (hc.1 h).symm
  rw[List.filter_cons,decide_eq_false this]
  simp
theorem qgc (s:List Nat) (r j:Nat):(rtsJ s r j).length≤s.length+1:=by
 unfold rtsJ
 rw[List.length_cons]
 have h1:=List.length_filter_le (fun d=>!@decide (Conn s.length (sg s) r d) (Classical.propDecidable _)) ((ldrsL s).take j)
 have h2:=List.length_take_le j (ldrsL s)
 have h3:=q7g s
 have h4:=q5h s.length (sg s) s.length
 have h5:((ldrsL s).take j).length≤(ldrsL s).length:=by rw[List.length_take];omega
 omega
theorem qk5 {s:List Nat} {l j:Nat} (hj:j<cldr s.length (sg s) s.length):∃ z1 z2 z3 z4:Int,(q0b s l)[j]? = some [(rootP s j:Int),z1,z2,z3,z4]:=by
 unfold q0b
 rw[List.getElem?_append_left (by rw[q0m];exact hj)]
 unfold q1g
 rw[List.getElem?_map]
 have:=qde hj
 unfold ldrsL at this
 rw[this]
 exact⟨_,_,_,_,rfl⟩
theorem qhc {s:List Nat} {l j:Nat} (hj:cldr s.length (sg s) s.length≤j) (hl:j<(q0b s l).length):(q0b s l)[j]? = some [-1,1,0,1,0]:=by
 rw[q2g] at hl
 unfold q0b
 rw[List.getElem?_append_right (by rw[q0m];exact hj),q0m,List.getElem?_replicate,if_pos (by omega)]
section
variable {w:World} {b:Nat} {s:List Nat} {r ln:Nat} {R:Nat→Prop} (h:MapAt w b s r ln R) (hn:0<s.length)
include h hn
theorem qk6:Calls Tryz.prog 84 #[.pointer (some ⟨b,0,none⟩)] w fun e w'=>∃ v,e=.returned v∧OwnI w.heap.size w' v (nats (q0k s r))∧∃ R',MapAt w' b s r ln R'∧(∀ x,R' x→R x∨(w.heap.size≤x∧x<w'.heap.size))∧(∀ k,v.ownBlock=some k→¬ R' k)∧Keeps (fun k=>k=b) w w':=by
 have hr:r<s.length:=by
  rcases h.rt with⟨h0,_⟩|⟨_,h1⟩ <;> omega
 have hD:=q0g h
 have hN:=q34 h
 have hle:=h.le
 have hlo:=h.ln
 have hcl:=q5h s.length (sg s) s.length
 obtain⟨f,hf⟩:∃ f,f=cnum s.length (sg s) r:=⟨_,rfl⟩
 have hfl:f<cldr s.length (sg s) s.length:=by rw[hf];exact h.isP.cnum_lt h.even hr
 have HFF:=Lib.hid hf
 have HH:=Lib.hid h
 have q0:((s.length:Int) == 0)=false:=by rw[beq_eq_false_iff_ne];omega
 clear h
 go_enter Tryz.func84,Tryz.ntmps84
 go_wp2_with fail
 refine hD.mono ?_
 rintro e w' ⟨rfl,rfl⟩
 clear hD
 go_wp2_with fail
 refine hN.mono ?_
 rintro e w1 ⟨g1,rfl,zs,hzl,hz,hown,hk1⟩
 have hcell:w1.cell? ⟨g1,r,none⟩=some (.int .i64 (f:Nat)):=by
  refine (hown.cell (i:=r) ?_).1
  rw[hz,hf]
  exact q0i (by simp[hr])
 have h1:=HH.out.keeps hk1 (fun h=>h) (fun _ _ h=>h)
 have hR1:=q50 h1
 have H1:=Lib.hid (And.intro h1 hk1)
 clear hN hzl hz hown h1 hk1 zs hf
 go_wp2_with fail
 refine hR1.mono ?_
 rintro e w' ⟨rfl,rfl⟩
 go_wp2_with fail
 refine hR1.mono ?_
 rintro e w' ⟨rfl,rfl⟩
 clear hR1
 obtain⟨g,hg⟩:∃ g,g=w1.heap.size:=⟨_,rfl⟩
 obtain⟨w2,hw2⟩:∃ w2,w2=w1.alloc (.cells #[.int .i64 (r:Int)] 3):=⟨_,rfl⟩
 have k12:Keeps (fun _=>False) w1 w2:=by rw[hw2];exact (Keeps.refl _ _).alloc _
 have o2:OwnI w.heap.size w2 (.slice (some ⟨g,0,none⟩) 1 1) (nats (rtsJ s r 0)):=by
  rw[hw2,hg,qdf]
  have:=q6x w1 (r:Int)
  exact this.mono (fun k hk=>by simp only [Value.ownBlock,Option.some.injEq] at hk;have:=H1.out.2.size;omega)
 have h2:MapAt w2 b s r (ln:Nat) R:=H1.out.1.keeps k12 (fun h=>h) (fun _ _ h=>h)
 have hP:=q35 h2
 obtain⟨N,hNN⟩:∃ N,N=(q0b s ln).length:=⟨_,rfl⟩
 have HNl:=Lib.hid (q2g s ln)
 have hgo:=o2.lt g rfl
 have HW:Hid (Keeps (fun _=>False) w w2∧OwnI w.heap.size w2 (.slice (some ⟨g,0,none⟩) 1 1) (nats (rtsJ s r 0))∧w.heap.size≤g∧g<w2.heap.size):=Lib.hid ⟨H1.out.2.trans k12 (fun _ _ h=>h),o2,hgo.1,hgo.2⟩
 clear h2 k12 o2 hgo
 go_wp2_with fail
 rw[← hw2,← hg]
 clear hg hw2
 refine hP.mono ?_
 rintro e w3 ⟨pv,rfl,hown,hq⟩
 obtain⟨pa,pc,rfl⟩:=hown.form
 have HD:Hid (∀ W,Keeps (fun k=>k=g) w3 W→Own5 188 w2.heap.size W (.slice pa (q0b s ln).length pc) (q0b s ln)):=Lib.hid (fun W hk=>hown.keeps hk (fun q hq e=>by have:=(hown.lt q hq).1;have:=HW.out.2.2.2;omega))
 have hgb:g≠b:=by have:=HH.out.lt;have:=HW.out.2.2.1;omega
 have HQ:Hid (Keeps (fun k=>k=b) w w3∧MapAt w3 b s r ln (grow R w2 w3)∧w2.heap.size≤w3.heap.size∧OwnI w.heap.size w3 (.slice (some ⟨g,0,none⟩) 1 1) (nats (rtsJ s r 0))) :=
  Lib.hid ⟨(show Keeps (fun k=>k=b) w w2 from HW.out.1.mono (fun _ _ h=>h.elim)).trans hq.2 (fun _ _ h=>h),hq.1,hq.2.size,HW.out.2.1.keeps hq.2 (fun k hk e=>by simp only [Value.ownBlock,Option.some.injEq] at hk;exact hgb (by omega))⟩
 have HA:Hid (∀ ov W,OwnI w.heap.size W ov (nats (q0k s r))→(∀ k,ov.ownBlock=some k→k=g∨w3.heap.size≤k)→Keeps (fun k=>k=g) w3 W→w3.heap.size≤W.heap.size→∃ R',MapAt W b s r ln R'∧(∀ x,R' x→R x∨(w.heap.size≤x∧x<W.heap.size))∧(∀ k,ov.ownBlock=some k→¬ R' k)∧Keeps (fun k=>k=b) w W):=by
  refine Lib.hid (fun ov W ho hb hk hs=>⟨grow R w2 w3,HQ.out.2.1.keeps hk (fun e=>hgb e.symm) (fun x hx e=>?_),fun x hx=>?_,fun k hk' hx=>?_,HQ.out.1.trans hk (fun x hx e=>?_)⟩)
  ·subst e
   rcases hx with e|e
   ·have:=HH.out.old _ e;have:=HW.out.2.2.1;omega
   ·have:=HW.out.2.2.2;omega
  ·rcases hx with e|e
   ·exact .inl e
   ·have:=HW.out.1.size;exact .inr (by omega)
  ·rcases hb k hk' with e1|e1
   ·subst e1
    rcases hx with e|e
    ·have:=HH.out.old _ e;have:=HW.out.2.2.1;omega
    ·have:=HW.out.2.2.2;omega
   ·rcases hx with e|e
    ·have:=HH.out.old _ e;have:=HQ.out.1.size;omega
    ·omega
  ·have:=HW.out.2.2.1;omega
 have o3:=HQ.out.2.2.2
 have hRlen:(rtsJ s r 0).length=1:=by rw[qdf];rfl
 clear hP hown hq
 rw[← hNN]
 have hNb:N≤300000:=by have:=HNl.out;omega
 have HNN:=Lib.hid hNN
 clear hNN
 go_wp2_with fail
 go_loopg [5,24] N (fun m o' i wr=>∃ (j:Nat) (o:Value),j≤N∧m=N - j∧i=.int .i64 j∧o=o'∧OwnI w.heap.size wr o (nats (rtsJ s r j))∧(∀ k,o.ownBlock=some k→k=g∨w3.heap.size≤k)∧Keeps (fun k=>k=g) w3 wr)
 case atStart=>exact⟨0,_,Nat.zero_le _,by omega,rfl,rfl,o3,fun k hk=>.inl (by simpa [Value.ownBlock] using hk.symm),Keeps.refl _ _⟩
 case round =>
  clear o3
  obtain⟨j,o,hj,hgk,rfl,rfl,hoj,hob,hkj⟩:=hrel
  have HGK:=Lib.hid hgk
  clear hgk
  have hgw3:g<w3.heap.size:=by have:=HW.out.2.2.2;have:=HQ.out.2.2.1;omega
  by_cases hlt:j<N
  ·have hD5:=HD.out wr hkj
   rw[← HNN.out] at hD5
   by_cases hjc:j<cldr s.length (sg s) s.length
   ·obtain⟨z1,z2,z3,z4,hp⟩:=qk5 (l:=ln) hjc
    obtain⟨gp,cap,hv,hcell⟩:=hD5.cell hp
    simp only [Value.slice.injEq] at hv
    obtain⟨rfl,-,rfl⟩:=hv
    have d0:wr.cell? ⟨gp,j * 5,none⟩=some (.int .i64 (rootP s j:Nat)):=hcell 0 _ rfl;have d1:wr.cell? ⟨gp,j * 5+1,none⟩=_:=hcell 1 z1 rfl;have d2:wr.cell? ⟨gp,j * 5+2,none⟩=_:=hcell 2 z2 rfl;have d3:wr.cell? ⟨gp,j * 5+3,none⟩=_:=hcell 3 z3 rfl;have d4:wr.cell? ⟨gp,j * 5+4,none⟩=_:=hcell 4 z4 rfl
    have hstep:=qk4 HH.out.isP HH.out.even hr hjc
    rw[← HFF.out] at hstep
    obtain⟨rp,hrp⟩:∃ rp,rp=rootP s j:=⟨_,rfl⟩
    rw[← hrp] at hstep
    rw[← hrp] at d0
    clear hrp
    have kal:=(Keeps.refl (fun _=>False) wr).alloc (.cells #[.int .i64 (rp:Int),.int .i64 z1,.int .i64 z2,.int .i64 z3,.int .i64 z4] 188)
    by_cases hjf:j=f
    ·have q1:((j:Int) != (f:Int))=false:=by simp[hjf]
     rw[if_pos hjf] at hstep
     have HF:Hid (OwnI w.heap.size (wr.alloc (.cells #[.int .i64 (rp:Int),.int .i64 z1,.int .i64 z2,.int .i64 z3,.int .i64 z4] 188)) o (nats (rtsJ s r (j+1)))∧(∀ k,o.ownBlock=some k→k=g∨w3.heap.size≤k)∧Keeps (fun k=>k=g) w3 (wr.alloc (.cells #[.int .i64 (rp:Int),.int .i64 z1,.int .i64 z2,.int .i64 z3,.int .i64 z4] 188))) :=
      Lib.hid ⟨by rw[hstep];exact hoj.keeps kal (fun _ _ h=>h),hob,hkj.trans kal (fun _ _ h=>h.elim)⟩
     clear hoj hob hkj kal hp hcell hD5 hstep hjf
     go_wp2
     go_roundg (N - (j+1))
     case measure=>rw[HGK.out];omega
     case rel=>exact⟨j+1,_,by omega,rfl,by go_num,rfl,HF.out⟩
    ·have q1:((j:Int) != (f:Int))=true:=by rw[bne_iff_ne];omega
     have q2:decide (0≤(rp:Int))=true:=decide_eq_true (by omega)
     rw[if_neg hjf] at hstep
     obtain⟨oa,oc,rfl,_,_⟩:=hoj.form
     rw[q02] at hoj hob ⊢
     obtain⟨c,hc⟩:∃ c,c=(rtsJ s r j).length:=⟨_,rfl⟩
     rw[← hc] at hoj hob ⊢
     have HN:Hid ((nats (rtsJ s r j)).length=c):=Lib.hid (by rw[q02,hc])
     have hcl2:c≤10000000000:=by have:=qgc s r j;omega
     have hoA:=hoj.keeps kal (fun _ _ h=>h)
     have hszA:w.heap.size≤(wr.alloc (.cells #[.int .i64 (rp:Int),.int .i64 z1,.int .i64 z2,.int .i64 z3,.int .i64 z4] 188)).heap.size:=by have:=HQ.out.1.size;have:=hkj.size;have:=kal.size;omega
     have hb6:=heap_alloc_new wr (.cells #[.int .i64 (rp:Int),.int .i64 z1,.int .i64 z2,.int .i64 z3,.int .i64 z4] 188)
     have hrs:wr.heap.size ≥ w3.heap.size:=hkj.size
     have HF:Hid (∀ g2 cap2 w5,OwnI w.heap.size w5 (.slice (some ⟨g2,0,none⟩) (c+1) cap2) (nats (rtsJ s r j) ++ [(rp:Int)])→Keeps (fun k=>(Value.slice oa c oc).ownBlock=some k) (wr.alloc (.cells #[.int .i64 (rp:Int),.int .i64 z1,.int .i64 z2,.int .i64 z3,.int .i64 z4] 188)) w5→((Value.slice oa c oc).ownBlock=some g2∨(wr.alloc (.cells #[.int .i64 (rp:Int),.int .i64 z1,.int .i64 z2,.int .i64 z3,.int .i64 z4] 188)).heap.size≤g2) →
       OwnI w.heap.size w5 (.slice (some ⟨g2,0,none⟩) (c+1) cap2) (nats (rtsJ s r (j+1)))∧(∀ k,(Value.slice (some ⟨g2,0,none⟩) (c+1) cap2).ownBlock=some k→k=g∨w3.heap.size≤k)∧Keeps (fun k=>k=g) w3 w5):=Lib.hid (fun g2 cap2 w5 h5 k5 hat=>by
      refine⟨by rw[hstep,q1z];exact h5,fun k hk=>?_,(hkj.trans kal (fun _ _ h=>h.elim)).trans k5 (fun x hx e=>?_)⟩
      ·simp only [Value.ownBlock,Option.some.injEq] at hk
       subst hk
       rcases hat with e|e
       ·exact hob _ e
       ·have:=kal.size;exact .inr (by omega)
      ·rcases hob _ e with e' | e'
       ·exact e'
       ·omega)
     clear hoj hob hkj kal hp hcell hD5 hstep hjf hc
     go_wp2_with (at_builtin;refine q0l c rfl _ _ rfl w.heap.size (.slice oa c oc) (nats (rtsJ s r j)) (rp:Nat) HN (wr.heap.size+1) (by simp) rfl rfl hoA hcl2 hszA ?_;intro g2 cap2 w5 hown5 hk5 hat5 hg5;have HG5:=Lib.hid (HF.out g2 cap2 w5 hown5 hk5 hat5);clear hown5 hk5 hat5 hg5)
     go_roundg (N - (j+1))
     case measure=>rw[HGK.out];omega
     case rel=>exact⟨j+1,_,by omega,rfl,by go_num,rfl,HG5.out⟩
   ·have hp:=qhc (s:=s) (l:=ln) (j:=j) (by omega) (by rw[← HNN.out];exact hlt)
    obtain⟨gp,cap,hv,hcell⟩:=hD5.cell hp
    simp only [Value.slice.injEq] at hv
    obtain⟨rfl,-,rfl⟩:=hv
    have d0:wr.cell? ⟨gp,j * 5,none⟩=_:=hcell 0 (-1) rfl;have d1:wr.cell? ⟨gp,j * 5+1,none⟩=_:=hcell 1 1 rfl;have d2:wr.cell? ⟨gp,j * 5+2,none⟩=_:=hcell 2 0 rfl;have d3:wr.cell? ⟨gp,j * 5+3,none⟩=_:=hcell 3 1 rfl;have d4:wr.cell? ⟨gp,j * 5+4,none⟩=_:=hcell 4 0 rfl
    have kal:=(Keeps.refl (fun _=>False) wr).alloc (.cells #[.int .i64 (-1),.int .i64 1,.int .i64 0,.int .i64 1,.int .i64 0] 188)
    have q1:((j:Int) != (f:Int))=true:=by rw[bne_iff_ne];omega
    have HF:Hid (OwnI w.heap.size (wr.alloc (.cells #[.int .i64 (-1),.int .i64 1,.int .i64 0,.int .i64 1,.int .i64 0] 188)) o (nats (rtsJ s r (j+1)))∧(∀ k,o.ownBlock=some k→k=g∨w3.heap.size≤k)∧Keeps (fun k=>k=g) w3 (wr.alloc (.cells #[.int .i64 (-1),.int .i64 1,.int .i64 0,.int .i64 1,.int .i64 0] 188))) :=
     Lib.hid ⟨by rw[q81 (j:=j+1) (by omega),← q81 (j:=j) (by omega)];exact hoj.keeps kal (fun _ _ h=>h),hob,hkj.trans kal (fun _ _ h=>h.elim)⟩
    clear hoj hob hkj kal hp hcell hD5
    go_wp2
    go_roundg (N - (j+1))
    case measure=>rw[HGK.out];omega
    case rel=>exact⟨j+1,_,by omega,rfl,by go_num,rfl,HF.out⟩
  ·obtain rfl:j=N:=by omega
   have e:rtsJ s r j=q0k s r:=q81 (by rw[HNN.out,HNl.out];omega)
   rw[e] at hoj
   have HF:=Lib.hid (And.intro hoj (HA.out o wr hoj hob hkj hkj.size))
   clear hoj hob hkj e
   go_wp2
   go_ret
   exact⟨_,rfl,HF.out⟩
end
end Go.Proofs.YtcfdpogegngplaaGreat
