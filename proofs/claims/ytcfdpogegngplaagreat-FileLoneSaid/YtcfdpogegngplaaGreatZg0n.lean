import Derived.Test.YtcfdpogegngplaaGreatZg0k
import Derived.Test.YtcfdpogegngplaaGreatZg0m
set_option maxRecDepth 100000
set_option maxHeartbeats 4000000
namespace Go.Proofs.YtcfdpogegngplaaGreat
open Go.RowKit
noncomputable def j6(s:List Nat):List Nat:=(List.range s.length).filter fun d=>aV s.length (sg s) d == d
theorem q7m(s:List Nat):(j6 s).length=aR s.length (sg s) s.length:=rfl
theorem qd9{s:List Nat}{j:Nat}(hj:j<aR s.length (sg s) s.length):(j6 s)[j]? = some (gD s j):=by
 have h:j<(j6 s).length:=hj
 rw[List.getElem?_eq_getElem h]
 show _=some ((j6 s).getD j 0)
 rw[List.getD_eq_getElem?_getD,List.getElem?_eq_getElem h]
 rfl
open Classical in
noncomputable def iV(s:List Nat)(r j:Nat):List Nat:=r :: ((j6 s).take j).filter fun d=>!decide (aJ s.length (sg s) r d)
theorem qda(s:List Nat)(r:Nat):iV s r 0=[r]:=by simp[iV]
theorem RS{s:List Nat}{r j:Nat}(hj:aR s.length (sg s) s.length≤j):iV s r j=jF s r:=by
 unfold iV jF
 rw[List.take_of_length_le (by rw[q7m];exact hj)]
 unfold j6
 rw[List.filter_filter]
 congr 1
 exact List.filter_congr (fun x _=>Bool.and_comm _ _)
open Classical in
theorem qk1{s:List Nat}(hP:aM s.length (sg s))(he:s.length % 2=0){r j:Nat}(hr:r<s.length)(hj:j<aR s.length (sg s) s.length):iV s r (j+1)=if j=bf s.length (sg s) r then iV s r j else iV s r j ++ [gD s j]:=by
 obtain⟨h1,h2,h3⟩:=q6z hj
 unfold iV
 rw[lX (qd9 hj),List.filter_append]
 have hc:aJ s.length (sg s) r (gD s j)↔bf s.length (sg s) r=j:=by
  rw[← hP.gB he hr h1,h3]
 by_cases h4:j=bf s.length (sg s) r
 ·rw[if_pos h4]
  have:aJ s.length (sg s) r (gD s j):=hc.2 h4.symm
  rw[List.filter_cons,decide_eq_true this]
  simp
 ·rw[if_neg h4]
  have:¬ aJ s.length (sg s) r (gD s j):=fun h=>h4 (hc.1 h).symm
  rw[List.filter_cons,decide_eq_false this]
  simp
theorem qgc(s:List Nat)(r j:Nat):(iV s r j).length≤s.length+1:=by
 unfold iV
 rw[List.length_cons]
 have h1:=List.length_filter_le (fun d=>!@decide (aJ s.length (sg s) r d) (Classical.propDecidable _)) ((j6 s).take j)
 have h2:=List.length_take_le j (j6 s)
 have h3:=q7m s
 have h4:=G9 s.length (sg s) s.length
 have h5:((j6 s).take j).length≤(j6 s).length:=by rw[List.length_take];omega
 omega
theorem qk2{s:List Nat}{l j:Nat}(hj:j<aR s.length (sg s) s.length):∃ z1 z2 z3 z4:Int,(iC s l)[j]? = some [(gD s j:Int),z1,z2,z3,z4]:=by
 unfold iC
 rw[List.getElem?_append_left (by rw[zJ];exact hj)]
 unfold nL
 rw[List.getElem?_map]
 have:=qd9 hj
 unfold j6 at this
 rw[this]
 exact⟨_,_,_,_,rfl⟩
theorem qhe{s:List Nat}{l j:Nat}(hj:aR s.length (sg s) s.length≤j)(hl:j<(iC s l).length):(iC s l)[j]? = some [-1,1,0,1,0]:=by
 rw[Rw] at hl
 unfold iC
 rw[List.getElem?_append_right (by rw[zJ];exact hj),zJ,List.getElem?_replicate,if_pos (by omega)]
section
variable {w:World} {b:Nat} {s:List Nat} {r ln:Nat} {R:Nat→Prop} (h:MapAt w b s r ln R) (hn:0<s.length)
include h hn
theorem qk3:Calls Tryz.prog 84 #[.pointer (some ⟨b,0,none⟩)] w fun e w'=>∃ v,e=.returned v∧aF w.heap.size w' v (aB (jF s r))∧∃ R',MapAt w' b s r ln R'∧(∀ x,R' x→R x∨(w.heap.size≤x∧x<w'.heap.size))∧(∀ k,v.ownBlock=some k→¬ R' k)∧Keeps (fun k=>k=b) w w':=by
 have hr:r<s.length:=by
  rcases h.rt with⟨h0,_⟩|⟨_,h1⟩ <;> omega
 have hD:=vM h
 have hN:=V4 h
 have hle:=h.le
 have hlo:=h.ln
 have hcl:=G9 s.length (sg s) s.length
 obtain⟨f,hf⟩:∃ f,f=bf s.length (sg s) r:=⟨_,rfl⟩
 have hfl:f<aR s.length (sg s) s.length:=by rw[hf];exact h.dH.jD h.even hr
 have NZ:=ah hf
 have HH:=ah h
 have q0:((s.length:Int) == 0)=false:=by rw[beq_eq_false_iff_ne];omega
 clear h
 go_enter Tryz.func84,Tryz.ntmps84
 go_wp2_with fail
 refine hD.mono ?_
 rintro e w' ⟨rfl,rfl⟩
 clear hD
 go_wp2_with fail
 refine hN.mono ?_
 rintro e w1 ⟨g1,rfl,zs,hzl,hz,hown,hk1⟩
 have hcell:w1.cell? ⟨g1,r,none⟩=some (.int .i64 (f:Nat)):=by
  refine (hown.cell (i:=r) ?_).1
  rw[hz,hf]
  exact jq (by simp[hr])
 have h1:=HH.out.keeps hk1 (fun h=>h) (fun _ _ h=>h)
 have mI:=VE h1
 have H1:=ah (aj h1 hk1)
 clear hN hzl hz hown h1 hk1 zs hf
 go_wp2_with fail
 refine mI.mono ?_
 rintro e w' ⟨rfl,rfl⟩
 go_wp2_with fail
 refine mI.mono ?_
 rintro e w' ⟨rfl,rfl⟩
 clear mI
 obtain⟨g,hg⟩:∃ g,g=w1.heap.size:=⟨_,rfl⟩
 obtain⟨w2,hw2⟩:∃ w2,w2=w1.alloc (.cells #[.int .i64 (r:Int)] 3):=⟨_,rfl⟩
 have k12:Keeps (fun _=>False) w1 w2:=by rw[hw2];exact (Keeps.refl _ _).alloc _
 have o2:aF w.heap.size w2 (.slice (some ⟨g,0,none⟩) 1 1) (aB (iV s r 0)):=by
  rw[hw2,hg,qda]
  have:=GY w1 (r:Int)
  exact this.mono (fun k hk=>by simp only [Value.ownBlock,Option.some.injEq] at hk;have:=H1.out.2.size;omega)
 have h2:MapAt w2 b s r (ln:Nat) R:=H1.out.1.keeps k12 (fun h=>h) (fun _ _ h=>h)
 have hP:=V7 h2
 obtain⟨N,Bz⟩:∃ N,N=(iC s ln).length:=⟨_,rfl⟩
 have HNl:=ah (Rw s ln)
 have hgo:=o2.lt g rfl
 have HW:Hid (Keeps (fun _=>False) w w2∧aF w.heap.size w2 (.slice (some ⟨g,0,none⟩) 1 1) (aB (iV s r 0))∧w.heap.size≤g∧g<w2.heap.size):=ah ⟨H1.out.2.trans k12 (fun _ _ h=>h),o2,hgo.1,hgo.2⟩
 clear h2 k12 o2 hgo
 go_wp2_with fail
 rw[← hw2,← hg]
 clear hg hw2
 refine hP.mono ?_
 rintro e w3 ⟨pv,rfl,hown,hq⟩
 obtain⟨pa,pc,rfl⟩:=hown.form
 have HD:Hid (∀ W,Keeps (fun k=>k=g) w3 W→Own5 188 w2.heap.size W (.slice pa (iC s ln).length pc) (iC s ln)):=ah (fun W hk=>hown.keeps hk (fun q hq e=>by have:=(hown.lt q hq).1;have:=HW.out.2.2.2;omega))
 have hgb:g≠b:=by have:=HH.out.lt;have:=HW.out.2.2.1;omega
 have HQ:Hid (Keeps (fun k=>k=b) w w3∧MapAt w3 b s r ln (grow R w2 w3)∧w2.heap.size≤w3.heap.size∧aF w.heap.size w3 (.slice (some ⟨g,0,none⟩) 1 1) (aB (iV s r 0))) :=
  ah ⟨(show Keeps (fun k=>k=b) w w2 from HW.out.1.mono (fun _ _ h=>h.elim)).trans hq.2 (fun _ _ h=>h),hq.1,hq.2.size,HW.out.2.1.keeps hq.2 (fun k hk e=>by simp only [Value.ownBlock,Option.some.injEq] at hk;exact hgb (by omega))⟩
 have HA:Hid (∀ ov W,aF w.heap.size W ov (aB (jF s r))→(∀ k,ov.ownBlock=some k→k=g∨w3.heap.size≤k)→Keeps (fun k=>k=g) w3 W→w3.heap.size≤W.heap.size→∃ R',MapAt W b s r ln R'∧(∀ x,R' x→R x∨(w.heap.size≤x∧x<W.heap.size))∧(∀ k,ov.ownBlock=some k→¬ R' k)∧Keeps (fun k=>k=b) w W):=by
  refine ah (fun ov W ho hb hk hs=>⟨grow R w2 w3,HQ.out.2.1.keeps hk (fun e=>hgb e.symm) (fun x hx e=>?_),fun x hx=>?_,fun k hk' hx=>?_,HQ.out.1.trans hk (fun x hx e=>?_)⟩)
  ·subst e
   rcases hx with e|e
   ·have:=HH.out.old _ e;have:=HW.out.2.2.1;omega
   ·have:=HW.out.2.2.2;omega
  ·rcases hx with e|e
   ·exact .inl e
   ·have:=HW.out.1.size;exact .inr (by omega)
  ·rcases hb k hk' with e1|e1
   ·subst e1
    rcases hx with e|e
    ·have:=HH.out.old _ e;have:=HW.out.2.2.1;omega
    ·have:=HW.out.2.2.2;omega
   ·rcases hx with e|e
    ·have:=HH.out.old _ e;have:=HQ.out.1.size;omega
    ·omega
  ·have:=HW.out.2.2.1;omega
 have o3:=HQ.out.2.2.2
 have abO:(iV s r 0).length=1:=by rw[qda];rfl
 clear hP hown hq
 rw[← Bz]
 have hNb:N≤300000:=by have:=HNl.out;omega
 have qO:=ah Bz
 clear Bz
 go_wp2_with fail
 go_loopg [5,24] N (fun m o' i wr=>∃ (j:Nat) (o:Value),j≤N∧m=N - j∧i=.int .i64 j∧o=o'∧aF w.heap.size wr o (aB (iV s r j))∧(∀ k,o.ownBlock=some k→k=g∨w3.heap.size≤k)∧Keeps (fun k=>k=g) w3 wr)
 case atStart=>exact⟨0,_,Nat.zero_le _,by omega,rfl,rfl,o3,fun k hk=>.inl (by simpa [Value.ownBlock] using hk.symm),Keeps.refl _ _⟩
 case round =>
  clear o3
  obtain⟨j,o,hj,aN,rfl,rfl,hoj,kI,hkj⟩:=hrel
  have tq:=ah aN
  clear aN
  have aju:g<w3.heap.size:=by have:=HW.out.2.2.2;have:=HQ.out.2.2.1;omega
  by_cases hlt:j<N
  ·have hD5:=HD.out wr hkj
   rw[← qO.out] at hD5
   by_cases hjc:j<aR s.length (sg s) s.length
   ·obtain⟨z1,z2,z3,z4,hp⟩:=qk2 (l:=ln) hjc
    obtain⟨gp,cap,hv,hcell⟩:=hD5.cell hp
    simp only [Value.slice.injEq] at hv
    obtain⟨rfl,-,rfl⟩:=hv
    have d0:wr.cell? ⟨gp,j * 5,none⟩=some (.int .i64 (gD s j:Nat)):=hcell 0 _ rfl;have d1:wr.cell? ⟨gp,j * 5+1,none⟩=_:=hcell 1 z1 rfl;have d2:wr.cell? ⟨gp,j * 5+2,none⟩=_:=hcell 2 z2 rfl;have d3:wr.cell? ⟨gp,j * 5+3,none⟩=_:=hcell 3 z3 rfl;have d4:wr.cell? ⟨gp,j * 5+4,none⟩=_:=hcell 4 z4 rfl
    have hstep:=qk1 HH.out.dH HH.out.even hr hjc
    rw[← NZ.out] at hstep
    obtain⟨rp,oW⟩:∃ rp,rp=gD s j:=⟨_,rfl⟩
    rw[← oW] at hstep
    rw[← oW] at d0
    clear oW
    have nO:=(Keeps.refl (fun _=>False) wr).alloc (.cells #[.int .i64 (rp:Int),.int .i64 z1,.int .i64 z2,.int .i64 z3,.int .i64 z4] 188)
    by_cases N7:j=f
    ·have q1:((j:Int) != (f:Int))=false:=by simp[N7]
     rw[if_pos N7] at hstep
     have HF:Hid (aF w.heap.size (wr.alloc (.cells #[.int .i64 (rp:Int),.int .i64 z1,.int .i64 z2,.int .i64 z3,.int .i64 z4] 188)) o (aB (iV s r (j+1)))∧(∀ k,o.ownBlock=some k→k=g∨w3.heap.size≤k)∧Keeps (fun k=>k=g) w3 (wr.alloc (.cells #[.int .i64 (rp:Int),.int .i64 z1,.int .i64 z2,.int .i64 z3,.int .i64 z4] 188))) :=
      ah ⟨by rw[hstep];exact hoj.keeps nO (fun _ _ h=>h),kI,hkj.trans nO (fun _ _ h=>h.elim)⟩
     clear hoj kI hkj nO hp hcell hD5 hstep N7
     go_wp2
     go_roundg (N - (j+1))
     case measure=>rw[tq.out];omega
     case rel=>exact⟨j+1,_,by omega,rfl,by go_num,rfl,HF.out⟩
    ·have q1:((j:Int) != (f:Int))=true:=by rw[bne_iff_ne];omega
     have q2:decide (0≤(rp:Int))=true:=decide_eq_true (by omega)
     rw[if_neg N7] at hstep
     obtain⟨oa,oc,rfl,_,_⟩:=hoj.form
     rw[q01] at hoj kI ⊢
     obtain⟨c,hc⟩:∃ c,c=(iV s r j).length:=⟨_,rfl⟩
     rw[← hc] at hoj kI ⊢
     have HN:Hid ((aB (iV s r j)).length=c):=ah (by rw[q01,hc])
     have kQ:c≤10000000000:=by have:=qgc s r j;omega
     have N8:=hoj.keeps nO (fun _ _ h=>h)
     have hszA:w.heap.size≤(wr.alloc (.cells #[.int .i64 (rp:Int),.int .i64 z1,.int .i64 z2,.int .i64 z3,.int .i64 z4] 188)).heap.size:=by have:=HQ.out.1.size;have:=hkj.size;have:=nO.size;omega
     have hb6:=heap_alloc_new wr (.cells #[.int .i64 (rp:Int),.int .i64 z1,.int .i64 z2,.int .i64 z3,.int .i64 z4] 188)
     have hrs:wr.heap.size ≥ w3.heap.size:=hkj.size
     have HF:Hid (∀ g2 cap2 w5,aF w.heap.size w5 (.slice (some ⟨g2,0,none⟩) (c+1) cap2) (aB (iV s r j) ++ [(rp:Int)])→Keeps (fun k=>(Value.slice oa c oc).ownBlock=some k) (wr.alloc (.cells #[.int .i64 (rp:Int),.int .i64 z1,.int .i64 z2,.int .i64 z3,.int .i64 z4] 188)) w5→((Value.slice oa c oc).ownBlock=some g2∨(wr.alloc (.cells #[.int .i64 (rp:Int),.int .i64 z1,.int .i64 z2,.int .i64 z3,.int .i64 z4] 188)).heap.size≤g2) →
       aF w.heap.size w5 (.slice (some ⟨g2,0,none⟩) (c+1) cap2) (aB (iV s r (j+1)))∧(∀ k,(Value.slice (some ⟨g2,0,none⟩) (c+1) cap2).ownBlock=some k→k=g∨w3.heap.size≤k)∧Keeps (fun k=>k=g) w3 w5):=ah (fun g2 cap2 w5 h5 k5 hat=>by
      refine⟨by rw[hstep,xk];exact h5,fun k hk=>?_,(hkj.trans nO (fun _ _ h=>h.elim)).trans k5 (fun x hx e=>?_)⟩
      ·simp only [Value.ownBlock,Option.some.injEq] at hk
       subst hk
       rcases hat with e|e
       ·exact kI _ e
       ·have:=nO.size;exact .inr (by omega)
      ·rcases kI _ e with e' | e'
       ·exact e'
       ·omega)
     clear hoj kI hkj nO hp hcell hD5 hstep N7 hc
     go_wp2_with (at_builtin;refine mP c rfl _ _ rfl w.heap.size (.slice oa c oc) (aB (iV s r j)) (rp:Nat) HN (wr.heap.size+1) (by simp) rfl rfl N8 kQ hszA ?_;intro g2 cap2 w5 hown5 hk5 gH hg5;have JK:=ah (HF.out g2 cap2 w5 hown5 hk5 gH);clear hown5 hk5 gH hg5)
     go_roundg (N - (j+1))
     case measure=>rw[tq.out];omega
     case rel=>exact⟨j+1,_,by omega,rfl,by go_num,rfl,JK.out⟩
   ·have hp:=qhe (s:=s) (l:=ln) (j:=j) (by omega) (by rw[← qO.out];exact hlt)
    obtain⟨gp,cap,hv,hcell⟩:=hD5.cell hp
    simp only [Value.slice.injEq] at hv
    obtain⟨rfl,-,rfl⟩:=hv
    have d0:wr.cell? ⟨gp,j * 5,none⟩=_:=hcell 0 (-1) rfl;have d1:wr.cell? ⟨gp,j * 5+1,none⟩=_:=hcell 1 1 rfl;have d2:wr.cell? ⟨gp,j * 5+2,none⟩=_:=hcell 2 0 rfl;have d3:wr.cell? ⟨gp,j * 5+3,none⟩=_:=hcell 3 1 rfl;have d4:wr.cell? ⟨gp,j * 5+4,none⟩=_:=hcell 4 0 rfl
    have nO:=(Keeps.refl (fun _=>False) wr).alloc (.cells #[.int .i64 (-1),.int .i64 1,.int .i64 0,.int .i64 1,.int .i64 0] 188)
    have q1:((j:Int) != (f:Int))=true:=by rw[bne_iff_ne];omega
    have HF:Hid (aF w.heap.size (wr.alloc (.cells #[.int .i64 (-1),.int .i64 1,.int .i64 0,.int .i64 1,.int .i64 0] 188)) o (aB (iV s r (j+1)))∧(∀ k,o.ownBlock=some k→k=g∨w3.heap.size≤k)∧Keeps (fun k=>k=g) w3 (wr.alloc (.cells #[.int .i64 (-1),.int .i64 1,.int .i64 0,.int .i64 1,.int .i64 0] 188))) :=
     ah ⟨by rw[RS (j:=j+1) (by omega),← RS (j:=j) (by omega)];exact hoj.keeps nO (fun _ _ h=>h),kI,hkj.trans nO (fun _ _ h=>h.elim)⟩
    clear hoj kI hkj nO hp hcell hD5
    go_wp2
    go_roundg (N - (j+1))
    case measure=>rw[tq.out];omega
    case rel=>exact⟨j+1,_,by omega,rfl,by go_num,rfl,HF.out⟩
  ·obtain rfl:j=N:=by omega
   have e:iV s r j=jF s r:=RS (by rw[qO.out,HNl.out];omega)
   rw[e] at hoj
   have HF:=ah (aj hoj (HA.out o wr hoj kI hkj hkj.size))
   clear hoj kI hkj e
   go_wp2
   go_ret
   exact⟨_,rfl,HF.out⟩
end
