import Derived.Deep.CutRange
import Derived.Test.YtcfdpogegngplaaGreatZaMixed
import Derived.Test.YtcfdpogegngplaaGreatZaRanks
import Derived.Test.YtcfdpogegngplaaGreatZaPerm
set_option maxRecDepth 100000
set_option maxHeartbeats 4000000
namespace Go.Proofs.YtcfdpogegngplaaGreat
section
open Go.RowKit
theorem Sl.take {k:IntKind} {w:World} {a:Option Addr} {n cap:Nat} {zs:List Int} (h:Sl k w (.slice a n cap) zs) (m:Nat) (hm:m≤zs.length):Sl k w (.slice a m cap) (zs.take m):=by
 obtain⟨a',cap',hv,h1,h2,h3,h4⟩:=h
 simp only [Value.slice.injEq] at hv
 obtain⟨rfl,rfl,rfl⟩:=hv
 have hl:(zs.take m).length=m:=by simp;omega
 refine⟨a,cap,by rw[hl],by omega,h2,h3,fun j z hj=>?_⟩
 rw[List.getElem?_take] at hj
 split at hj
 ·exact h4 j z hj
 ·cases hj
def ownZ (s:Nat) (ks:List Nat):List Int:=(ks.filter fun k=>k / 2 == s).map fun k=>1 - (k % 2:Nat)
theorem qnk (s:Nat) (ks:List Nat):∀ z ∈ ownZ s ks,z=0∨z=1:=by
 intro z hz
 simp only [ownZ,List.mem_map] at hz
 obtain⟨k,_,rfl⟩:=hz
 omega
theorem qd9 (s:Nat) (ks:List Nat):q0w (ownZ s ks)=ownB s ks:=by
 unfold q0w ownZ ownB
 rw[List.map_map]
 apply List.map_congr_left
 intro k _
 simp only [Function.comp]
 rcases Nat.mod_two_eq_zero_or_one k with h|h <;> rw[h] <;> rfl
theorem q3t (s:Nat) (ks:List Nat):(ownZ s ks).length=(ownB s ks).length:=by simp[ownZ,ownB]
theorem qk0 {s:Nat} {ks:List Nat} {i k:Nat} (h:ks[i]? = some k) (hs:k / 2=s):ownZ s (ks.take (i+1))=ownZ s (ks.take i) ++ [1 - ((k % 2:Nat):Int)]:=by
 rw[q0e h];simp[ownZ,hs]
theorem qly {s:Nat} {ks:List Nat} {i k:Nat} (h:ks[i]? = some k) (hs:¬ k / 2=s):ownZ s (ks.take (i+1))=ownZ s (ks.take i):=by
 rw[q0e h];simp[ownZ,hs]
def PosAt (s:Nat) (ks:List Nat) (i:Nat) (ps:List Nat):Prop:=ps.length=pr s ks i∧∀ j n,ps[j]? = some n→SelAt s ks j n
theorem PosAt.step {s:Nat} {ks:List Nat} {i k:Nat} {ps:List Nat} (hp:PosAt s ks i ps) (h:ks[i]? = some k) (hs:k / 2=s):PosAt s ks (i+1) (ps ++ [i]):=by
 refine⟨by rw[List.length_append,hp.1,q59 s h,if_pos hs];rfl,fun j n hj=>?_⟩
 rw[List.getElem?_append] at hj
 split at hj
 ·exact hp.2 j n hj
 ·rename_i hlt
  have hj2:j - ps.length=0:=by
   rcases Nat.eq_zero_or_pos (j - ps.length) with h|h
   ·exact h
   ·rw[List.getElem?_eq_none (by simp;omega)] at hj;cases hj
  rw[hj2] at hj
  simp only [List.getElem?_cons_zero,Option.some.injEq] at hj
  subst hj
  have hjl:j=pr s ks i:=by rw[← hp.1];omega
  subst hjl
  exact SelAt.at h hs
theorem PosAt.skip {s:Nat} {ks:List Nat} {i k:Nat} {ps:List Nat} (hp:PosAt s ks i ps) (h:ks[i]? = some k) (hs:¬ k / 2=s):PosAt s ks (i+1) ps :=
 ⟨by rw[q59 s h,if_neg hs];exact hp.1,hp.2⟩
def SortS (w:World) (s:Nat) (ks:List Nat) (i:Nat) (ov av:Value) (wr:World):Prop :=
 ∃ ps,OwnI w.heap.size wr ov (ownZ s (ks.take i))∧OwnI w.heap.size wr av (nats ps)∧PosAt s ks i ps∧(∀ k,ov.ownBlock=some k→av.ownBlock≠some k)∧Keeps (fun _=>False) w wr
theorem qex (sv:Value) (ks:List Nat) (s:Nat) (w:World) (hs:Sl .i64 w sv (nats ks)) (h4:∀ k ∈ ks,k<4) (hl:ks.length≤100000000) :
  Calls Tryz.prog 187 #[sv,.int .i64 s] w fun e w'=>∃ ov av,e=.returned (.tuple #[ov,av])∧SortS w s ks ks.length ov av w':=by
 obtain⟨a,cap,rfl,hnc,hcm,_,hc⟩:=hs
 rw[q02] at hnc ⊢
 go_enter Tryz.func187,Tryz.ntmps187
 go_wp2_with fail
 go_loopw [6,7,12] (fun ov av i wr=>∃ k:Nat,k≤ks.length∧i=.int .i64 k∧SortS w s ks k ov av wr) (fun _ _ i _=>ks.length - (intOf i).toNat)
 case atStart=>exact⟨0,Nat.zero_le _,rfl,[],OwnI.nil _ _,OwnI.nil _ _,⟨by rw[qee];rfl,fun j n h=>by simp at h⟩,fun k hk=>by simp[Value.ownBlock] at hk,Keeps.refl _ _⟩
 case round =>
  obtain⟨i,hi,rfl,ps,ho,ha,hp,hd,hkw⟩:=hrel
  have hsz:=hkw.size
  obtain⟨oa,oc,rfl,hoc1,hoc2⟩:=ho.form
  obtain⟨aa,ac,rfl,hac1,hac2⟩:=ha.form
  obtain⟨n,hn⟩:∃ n,n=(ownZ s (ks.take i)).length:=⟨_,rfl⟩
  obtain⟨m,hm⟩:∃ m,m=(nats ps).length:=⟨_,rfl⟩
  have hnb:n≤10000000000:=by rw[hn,q3t];have:=q58 s (ks.take i);have:(ks.take i).length≤i:=List.length_take_le _ _;omega
  have hmb:m≤10000000000:=by
   rw[hm,q02,hp.1]
   have:=pr_le s ks i hi
   have:=q58 s ks
   omega
  rw[← hn] at ho hoc1 hd ⊢
  rw[← hm] at ha hac1 hd ⊢
  have HN:=Lib.hid hn.symm
  have HM:=Lib.hid hm.symm
  clear hn hm
  by_cases hlt:i<ks.length
  ·have hk:=List.getElem?_eq_getElem hlt
   have hk4:=h4 _ (List.mem_of_getElem? hk)
   obtain⟨g,off,rfl,hcell⟩:=hc i _ (q0i hk)
   have hcell1:=hkw.cellF hcell
   generalize ks[i]=k at *
   clear hc hcell
   by_cases hks:k / 2=s
   ·have tk:((k:Int) / 2 == (s:Int))=true:=by rw[beq_iff_eq];omega
    have t1:=qk0 hk hks
    have t2:=hp.step hk hks
    have HT:=Lib.hid (And.intro t1 t2)
    have hk3:k≤3:=by omega
    clear t1 t2 hp hk hks
    go_wp2_with (first | (at_builtin;refine q0l n rfl _ _ rfl w.heap.size (.slice oa n oc) (ownZ s (ks.take i)) (1 - (k:Int) % 2) HN _ rfl rfl rfl ho hnb hsz ?_;intro g2 cap2 w3 hown3 hk3 hat hg) | (at_builtin;refine q0l m rfl _ _ rfl w.heap.size (.slice aa m ac) (nats ps) i HM _ rfl rfl rfl (ha.keeps hk3 (fun b hb h=>hd b h hb)) hmb (Nat.le_trans hsz hk3.size) ?_;intro g4 cap4 w5 hown5 hk5 hat5 hg5))
    have hfin:SortS w s ks (i+1) (.slice (some ⟨g2,0,none⟩) (n+1) cap2) (.slice (some ⟨g4,0,none⟩) (m+1) cap4) w5:=by
     have hgg:g2≠g4:=by
      rcases hat with h|h <;> rcases hat5 with h5|h5
      ·intro e;subst e;exact hd _ h h5
      ·have:=(ho.lt g2 h).2;have:=hk3.size;omega
      ·have:=(ha.lt g4 h5).2;omega
      ·have:=(hown3.lt g2 rfl).2;omega
     have hga:Value.ownBlock (.slice aa m ac)≠some g2:=by
      intro e
      rcases hat with h|h
      ·exact hd _ h e
      ·have:=(ha.lt g2 e).2;omega
     refine⟨ps ++ [i],?_,?_,HT.out.2,fun x hx hy=>?_,(hkw.trans hk3 (fun x hx h=>by have:=(ho.lt x h).1;omega)).trans hk5 (fun x hx h=>by have:=(ha.lt x h).1;omega)⟩
     ·rw[HT.out.1]
      have e:(1:Int) - ((k % 2:Nat):Int)=1 - (k:Int) % 2:=by omega
      rw[e]
      exact hown3.keeps hk5 (fun b hb h=>by simp only [Value.ownBlock,Option.some.injEq] at hb;subst hb;exact hga h)
     ·have e:nats (ps ++ [i])=nats ps ++ [(i:Int)]:=by simp[nats]
      rw[e];exact hown5
     ·simp only [Value.ownBlock,Option.some.injEq] at hx hy
      omega
    have HF:=Lib.hid hfin
    clear hfin hown3 hk3 hat hown5 hk5 hat5 ho ha hd hkw
    go_wp2
    go_roundw
    case rel=>exact⟨i+1,by omega,by go_num,HF.out⟩
    case measure=>simp[intOf];omega
   ·have tk:((k:Int) / 2 == (s:Int))=false:=by rw[beq_eq_false_iff_ne];omega
    have hfin:SortS w s ks (i+1) (.slice oa n oc) (.slice aa m ac) wr:=⟨ps,by rw[qly hk hks];exact ho,ha,hp.skip hk hks,hd,hkw⟩
    have HF:=Lib.hid hfin
    have hk3:k≤3:=by omega
    clear hfin ho ha hd hp hk hks hkw
    go_wp2
    go_roundw
    case rel=>exact⟨i+1,by omega,by go_num,HF.out⟩
    case measure=>simp[intOf];omega
  ·obtain rfl:ks.length=i:=by omega
   have hfin:SortS w s ks ks.length (.slice oa n oc) (.slice aa m ac) wr:=⟨ps,ho,ha,hp,hd,hkw⟩
   have HF:=Lib.hid hfin
   clear hfin ho ha hd hp hc hkw
   go_wp2
   go_ret2
   exact⟨_,_,rfl,HF.out⟩
end
section
open Go.RowKit
def q7f (w:World) (ks:List Nat) (g:Nat) (D:Nat→Prop) (wr:World):Prop :=
 ∃ ms,OwnI w.heap.size wr (.slice (some ⟨g,0,none⟩) ks.length ks.length) ms∧ms.length=ks.length∧(∀ i,D i→∃ m:Nat,ms[i]? = some (m:Int)∧MixMate ks i m)∧Keeps (fun _=>False) w wr
theorem OwnI.made (B:Nat) (w:World) (n:Nat) (hB:B≤w.heap.size) (hn:n≤100000000):OwnI B (w.alloc (.cells (madeCells #[.int .i64 0] n) 3)) (.slice (some ⟨w.heap.size,0,none⟩) n n) (List.replicate n 0):=by
 have ht:(madeCells #[.int .i64 0] n).toList=ints (List.replicate n 0):=by rw[toList_madeCells_one];simp[ints]
 have h1:=World.ownsRow_lit (base:=B) (e:=3) (size:=1) w (madeCells #[.int .i64 0] n) n hB (by unfold maxLen;omega) (by rw[size_madeCells];omega)
 rw[ht] at h1
 unfold OwnI
 rw[List.length_replicate]
 exact h1
theorem q9l (sv:Value) (ks:List Nat) (w:World) (hs:Sl .i64 w sv (nats ks)) (h4:∀ k ∈ ks,k<4) (hl:ks.length≤100000000) (hB:MBal ks) :
  Calls Tryz.prog 163 #[sv] w fun e w'=>∃ g,e=.returned (.slice (some ⟨g,0,none⟩) ks.length ks.length)∧q7f w ks g (fun i=>i<ks.length) w':=by
 have hsS:=fun W (hk:Keeps (fun _=>False) w W)=>hs.keeps hk (fun _ _ h=>h)
 obtain⟨a,cap,rfl,hnc,hcm,_,hc⟩:=hs
 rw[q02] at hnc hsS ⊢
 obtain⟨i,hi,hz0,hz1,hz2⟩:=info_parts q1d
 have hmk:=fun w=>run_make (P:=Tryz.prog) w 25 3 i _ Tryz.underlying25 hi hz0 .i64 .i64 (ks.length:Int) (ks.length:Int) (by omega) (Int.le_refl _) (by rw[hz2];omega) (by omega)
 simp only [hz1,Int.toNat_natCast,Nat.mul_one] at hmk
 have hO:=OwnI.made w.heap.size w ks.length (Nat.le_refl _) hl
 have HS:=Lib.hid (And.intro hsS (And.intro hB h4))
 clear hi hz0 hz1 hz2 hc hsS hB h4
 go_enter Tryz.func163,Tryz.ntmps163
 go_wp2_with fail
 have hM0:q7f w ks w.heap.size (fun i=>∃ k,ks[i]? = some k∧k / 2<0) (w.alloc (.cells (madeCells #[.int .i64 0] ks.length) 3)):=⟨_,hO,by simp,fun i h=>by obtain⟨k,_,h⟩:=h;omega,(Keeps.refl _ w).alloc _⟩
 clear hO hmk
 generalize World.alloc _ _=wM at *
 obtain⟨g,hg⟩:∃ g,g=w.heap.size:=⟨_,rfl⟩
 rw[← hg] at hM0
 rw[← hg]
 clear hg
 go_loopw [4] (fun t wr=>∃ s:Nat,s≤2∧t=.int .i64 s∧q7f w ks g (fun i=>∃ k,ks[i]? = some k∧k / 2<s) wr) (fun t _=>2 - (intOf t).toNat)
 case atStart=>exact⟨0,by omega,rfl,hM0⟩
 case round =>
  obtain⟨s,hs,rfl,ms,hm,hml,hmd,hkw⟩:=hrel
  clear hM0
  by_cases hlt:s<2
  ·have hS:=qex _ ks s wr (HS.out.1 wr hkw) HS.out.2.2 hl
   have HM:=Lib.hid (And.intro hm (And.intro hml hmd))
   clear hm hml hmd
   go_wp2_with fail
   refine hS.mono ?_
   rintro e w2 ⟨ov,av,rfl,ps,ho,ha,hp,hd,hk2⟩
   rw[List.take_of_length_le (Nat.le_refl _)] at ho
   have hbal:=HS.out.2.1.get hlt
   rw[← qd9] at hbal
   have hol:(ownZ s ks).length≤100000000:=by rw[q3t];exact Nat.le_trans (q58 s ks) hl
   have hT:=qd0 ov (ownZ s ks) w2 ho.sl (qnk s ks) hol hbal
   have hpl:ps.length=(ownZ s ks).length:=by rw[hp.1,q3t,q0r]
   obtain⟨oa,oc,rfl,hoc1,hoc2⟩:=ho.form
   obtain⟨aa,ac,rfl,hac1,hac2⟩:=ha.form
   rw[q02,hpl] at ha hac1 hd ⊢
   have hbl2:(ownB s ks).length=(ownZ s ks).length:=(q3t s ks).symm
   have HP:=Lib.hid (And.intro hp (And.intro hpl hbl2))
   clear hS ho hd hp hpl hbl2
   go_wp2_with fail
   refine hT.mono ?_
   rintro e w3 ⟨gm,gr,ov3,rfl,cs,rs,st,hI,hcm2,hrm,_,hgg,_,_,hk3⟩
   have hfin:=(show MInv (q0w (ownZ s ks)) (q0w (ownZ s ks)).length cs rs st from by rw[q3s];exact hI).fin hbal
   rw[q3s] at hfin hcm2
   rw[qd9] at hfin
   have ha3:=ha.keeps hk3 (fun _ _ h=>h)
   have hkw3:=(hkw.trans hk2 (fun _ _ h=>h)).trans hk3 (fun _ _ h=>h)
   have hk23:=hk2.trans hk3 (fun _ _ h=>h)
   have hMin:q7f w ks g (fun i=>(∃ k,ks[i]? = some k∧k / 2<s)∨∃ j,j<0∧SelAt s ks j i) w3:=⟨ms,HM.out.1.keeps hk23 (fun _ _ h=>h),HM.out.2.1,fun i h=>by
    rcases h with h|⟨j,h,_⟩
    ·exact HM.out.2.2 i h
    ·omega,hkw3⟩
   have hgw:=(HM.out.1.lt g rfl).2
   have hg1:∀ k,(Value.slice aa (ownZ s ks).length ac).ownBlock=some k→k≠g:=fun k hk e=>by have:=(ha.lt k hk).1;omega
   have hg2:gm≠g:=fun e=>by have:=(hcm2.lt gm rfl).1;have:=hk2.size;omega
   have HR:=Lib.hid (And.intro hfin (And.intro hg1 (And.intro ha3 (And.intro hcm2 hg2))))
   clear hT hI hrm hgg hk3 hk2 ha hkw hkw3 hk23 hcm2 hfin hg1 ha3 hbal hg2
   generalize (ownZ s ks).length=L at *
   go_wp2_with fail
   go_loopw [31] (fun t wr=>∃ j:Nat,j≤L∧t=.int .i64 j∧q7f w ks g (fun i=>(∃ k,ks[i]? = some k∧k / 2<s)∨∃ j',j'<j∧SelAt s ks j' i) wr∧Keeps (fun x=>x=g) w3 wr) (fun t _=>L - (intOf t).toNat)
   case atStart=>exact⟨0,Nat.zero_le _,rfl,hMin,Keeps.refl _ _⟩
   case round =>
    obtain⟨j,hj,rfl,⟨ms2,hm,hml,hmd,hkw⟩,hk3⟩:=hrel
    clear hMin
    by_cases hlt2:j<L
    ·obtain⟨n,hn⟩:∃ n,ps[j]? = some n:=⟨_,List.getElem?_eq_getElem (by have:=HP.out.2;omega)⟩
     have hsn:=HP.out.1.2 j n hn
     obtain⟨⟨c,hc1,hc2⟩,_⟩:=HR.out.1 j hlt2
     have hcl:=hc2.lt
     rw[HP.out.2.2] at hcl
     obtain⟨m,hmm⟩:∃ m,ps[c]? = some m:=⟨_,List.getElem?_eq_getElem (by have:=HP.out.2.1;omega)⟩
     have hsm:=HP.out.1.2 c m hmm
     have hnl:=hsn.lt
     have hmix:MixMate ks n m:=⟨s,j,c,hlt,hsn,hsm,hc2⟩
     have ha4:=HR.out.2.2.1.keeps hk3 (fun b hb e=>HR.out.2.1 b hb e)
     have hc4:=HR.out.2.2.2.1.keeps hk3 (fun b hb e=>by simp only [Value.ownBlock,Option.some.injEq] at hb;exact HR.out.2.2.2.2 (hb.trans e))
     obtain⟨ga,rfl⟩:=q7x ha4 (by rw[q02];have:=HP.out.2.1;omega)
     obtain⟨q1,_⟩:=ha4.cell (q0i hn)
     obtain⟨q2,_⟩:=ha4.cell (q0i hmm)
     obtain⟨q3,_⟩:=hc4.cell hc1
     obtain⟨x,q4,f4⟩:=hm.has n (by omega)
     have hfin:q7f w ks g (fun i=>(∃ k,ks[i]? = some k∧k / 2<s)∨∃ j',j'<j+1∧SelAt s ks j' i) (wr.setCell ⟨g,n,none⟩ (.int .i64 m))∧Keeps (fun x=>x=g) w3 (wr.setCell ⟨g,n,none⟩ (.int .i64 m)):=by
      refine⟨⟨_,hm.set n m,by simpa using hml,fun i hi=>?_,hkw.setCell (p:=⟨g,n,none⟩) (.inr (hm.lt g rfl).1) _⟩,hk3.setCell (p:=⟨g,n,none⟩) (.inl rfl) _⟩
      by_cases hin:i=n
      ·subst hin
       exact⟨m,by rw[List.getElem?_set_self (by omega)],hmix⟩
      ·rw[List.getElem?_set_ne (fun e=>hin e.symm)]
       refine hmd i ?_
       rcases hi with h|⟨j',h1,h2⟩
       ·exact .inl h
       ·refine .inr ⟨j',?_,h2⟩
        rcases Nat.lt_or_ge j' j with h|h
        ·exact h
        ·obtain rfl:j'=j:=by omega
         exact absurd (h2.unique hsn) hin
     have HF:=Lib.hid hfin
     clear hfin hm hml hmd hkw hk3 hn hsn hc1 hc2 hmm hsm hmix ha4 hc4
     go_wp2
     go_roundw
     case rel=>exact⟨j+1,by omega,by go_num,HF.out.1,HF.out.2⟩
     case measure=>simp[intOf];omega
    ·obtain rfl:L=j:=by omega
     have hfin:q7f w ks g (fun i=>∃ k,ks[i]? = some k∧k / 2<s+1) wr:=⟨ms2,hm,hml,fun i hi=>by
      obtain⟨k,hk,hks⟩:=hi
      refine hmd i ?_
      by_cases h:k / 2<s
      ·exact .inl ⟨k,hk,h⟩
      ·have hks2:k / 2=s:=by omega
       have hsel:=SelAt.at hk hks2
       refine .inr ⟨_,?_,hsel⟩
       have:=hsel.jlt
       rw[HP.out.2.2] at this
       exact this,hkw⟩
     have HF:=Lib.hid hfin
     clear hfin hm hml hmd hkw hk3
     go_wp2
     go_roundw
     case rel=>exact⟨s+1,by omega,by go_num,HF.out⟩
     case measure=>simp[intOf];omega
  ·obtain rfl:2=s:=by omega
   have hfin:q7f w ks g (fun i=>i<ks.length) wr:=⟨ms,hm,hml,fun i hi=>hmd i ⟨_,List.getElem?_eq_getElem hi,by have:=HS.out.2.2 _ (List.getElem_mem hi);omega⟩,hkw⟩
   have HF:=Lib.hid hfin
   clear hfin hm hml hmd hkw
   go_wp2
   go_ret
   exact⟨g,rfl,HF.out⟩
end
section
open Go.RowKit
end
section
open Go.RowKit
def NN (l:List Bool) (x:Nat):Prop:=ex l l.length=x∧∀ p,p≤l.length→0≤ex l p
theorem NN.nil:NN [] 0:=⟨by rw[List.length_nil,q5b];rfl,fun p hp=>by
 obtain rfl:p=0:=by simpa using hp
 rw[q5b];omega⟩
theorem NN.snoc {l:List Bool} {x y:Nat} (h:NN l x) (b:Bool) (hy:(y:Int)=x+if b then 1 else -1):NN (l ++ [b]) y:=by
 have hxs:=qnc l b
 rw[h.1,← hy] at hxs
 refine⟨by simpa using hxs,fun p hp=>?_⟩
 by_cases hpk:p≤l.length
 ·rw[qcw _ _ hpk];exact h.2 p hpk
 ·obtain rfl:p=l.length+1:=by simp at hp;omega
  rw[hxs];omega
structure AnyK (P:Nat) (ks:List Nat) (r e:Nat):Prop where
 k4:∀ k ∈ ks,k<4
 n0:NN (ownB 0 ks) r
 n1:NN (ownB 1 ks) e
 le:r+e+ks.length≤2 * P
 par:(r+e+ks.length) % 2=0
theorem AnyK.start (P:Nat):AnyK P [] 0 0:=⟨fun k h=>by simp at h,NN.nil,NN.nil,by simp,rfl⟩
theorem qbh {ks:List Nat} {k:Nat} (h:∀ k ∈ ks,k<4) (hk:k<4):∀ x ∈ ks ++ [k],x<4:=by
 intro x hx
 rcases List.mem_append.1 hx with h' | h'
 ·exact h x h'
 ·rw[List.mem_singleton.1 h'];exact hk
theorem AnyK.push0 {P:Nat} {ks:List Nat} {r e:Nat} (h:AnyK P ks r e) (hr:r+e+ks.length<2 * P):AnyK P (ks ++ [0]) (r+1) e:=by
 have hp:=h.par
 refine⟨qbh h.k4 (by omega),?_,?_,by simp;omega,by simp;omega⟩
 ·rw[q0s];exact h.n0.snoc true (by simp)
 ·rw[q0s,show ownB 1 [0]=[] by rfl,List.append_nil];exact h.n1
theorem AnyK.push2 {P:Nat} {ks:List Nat} {r e:Nat} (h:AnyK P ks r e) (hr:r+e+ks.length<2 * P):AnyK P (ks ++ [2]) r (e+1):=by
 have hp:=h.par
 refine⟨qbh h.k4 (by omega),?_,?_,by simp;omega,by simp;omega⟩
 ·rw[q0s,show ownB 0 [2]=[] by rfl,List.append_nil];exact h.n0
 ·rw[q0s];exact h.n1.snoc true (by simp)
theorem AnyK.push1 {P:Nat} {ks:List Nat} {r e:Nat} (h:AnyK P ks (r+1) e):AnyK P (ks ++ [1]) r e:=by
 have hp:=h.par
 have hl:=h.le
 refine⟨qbh h.k4 (by omega),?_,?_,by simp;omega,by simp;omega⟩
 ·rw[q0s];exact h.n0.snoc false (by simp;omega)
 ·rw[q0s,show ownB 1 [1]=[] by rfl,List.append_nil];exact h.n1
theorem AnyK.push3 {P:Nat} {ks:List Nat} {r e:Nat} (h:AnyK P ks r (e+1)):AnyK P (ks ++ [3]) r e:=by
 have hp:=h.par
 have hl:=h.le
 refine⟨qbh h.k4 (by omega),?_,?_,by simp;omega,by simp;omega⟩
 ·rw[q0s,show ownB 0 [3]=[] by rfl,List.append_nil];exact h.n0
 ·rw[q0s];exact h.n1.snoc false (by simp;omega)
theorem AnyK.done {P:Nat} {ks:List Nat} {r e:Nat} (h:AnyK P ks r e) (hl:¬ ks.length<2 * P):(∀ k ∈ ks,k<4)∧ks.length=2 * P∧MBal ks:=by
 have hle:=h.le
 obtain rfl:r=0:=by omega
 obtain rfl:e=0:=by omega
 exact⟨h.k4,by omega,⟨h.n0.1,h.n0.2⟩,⟨h.n1.1,h.n1.2⟩⟩
def AnyM (w:World) (P k r e:Nat) (lv:Value) (wr:World):Prop :=
 ∃ ks,OwnI w.heap.size wr lv (nats ks)∧ks.length=k∧AnyK P ks r e∧Keeps (fun _=>False) w wr
theorem AnyM.start (w:World) (P:Nat):AnyM w P 0 0 0 (.slice none 0 0) w:=⟨[],OwnI.nil _ _,rfl,AnyK.start P,Keeps.refl _ _⟩
theorem AnyM.push {w wr w1:World} {P r e k n:Nat} {lv lv':Value} {ks:List Nat} {x:Int} (hn:ks.length=n) (hx:x=(k:Nat)) (h:AnyK P (ks ++ [k]) r e) (hk:Keeps (fun _=>False) w wr) (hown:OwnI w.heap.size wr lv (nats ks))
  (hown2:OwnI w.heap.size w1 lv' (nats ks ++ [x])) (hk2:Keeps (fun k=>lv.ownBlock=some k) wr w1):AnyM w P (n+1) r e lv' w1 :=
 ⟨ks ++ [k],by simpa [nats,hx] using hown2,by simp[hn],h,hk.trans hk2 (fun x hx h=>by have:=(hown.lt x h).1;omega)⟩
theorem qda (pv:Value) (ps:List Nat) (P:Nat) (w:World) (hp:Sl .u8 w pv (nats ps)) (hps:∀ b ∈ ps,b<256) (hP:P≤100000) :
  Calls Tryz.prog 93 #[.int .i64 P,pv] w fun e w'=>∃ v ks,e=.returned v∧OwnI w.heap.size w' v (nats ks)∧((∀ k ∈ ks,k<4)∧ks.length=2 * P∧MBal ks)∧Keeps (fun _=>False) w w':=by
 obtain⟨a,cap,rfl,hnc,hcm,_,hc⟩:=hp
 have hnl:(nats ps).length=ps.length:=by simp[nats]
 rw[hnl] at hnc ⊢
 clear hnl
 go_enter Tryz.func93,Tryz.ntmps93
 go_wp2_with fail
 go_loopg [5,6,7,8] (2 * P) (fun m lv r e i wr=>∃ k r' e':Nat,m=2 * P - k∧i=.int .i64 k∧r=.int .i64 r'∧e=.int .i64 e'∧AnyM w P k r' e' lv wr)
 case atStart=>exact⟨0,0,0,rfl,rfl,rfl,rfl,AnyM.start _ _⟩
 case round =>
  obtain⟨k,r,e,hgk,rfl,rfl,rfl,ks,hown,rfl,hK,hkw⟩:=hrel
  have HG:=Lib.hid hgk
  clear hgk
  have hfo:=hown.form
  rw[q02] at hfo
  obtain⟨la,lc,rfl,hlc,hlc2⟩:=hfo
  have hsz:=hkw.size
  have hle:=hK.le
  have hpar:=hK.par
  have hzl2:ks.length≤10000000000:=by omega
  have HN:Hid ((nats ks).length=ks.length):=Lib.hid (q02 ks)
  by_cases hlt:ks.length<2 * P
  ·have HZ:=Lib.hid (And.intro hK (And.intro hpar hlt))
   have h00:r+e=0→r=0∧e=0:=by omega
   clear hK hpar h00
   generalize hnn:ks.length=n at *
   have HM:=Lib.hid hnn
   clear hnn
   go_upto_if 19 with fail
   go_cut [9] from 11 to 92 (fun b wx=>∃ v:Nat,b=.int .u8 v∧v<256∧∃ nq,wx=wr.drewN nq)
   case first =>
    by_cases hp0:0<ps.length
    ·obtain⟨t0,hr⟩:∃ r,r=n % ps.length:=⟨_,rfl⟩
     have hrl:t0<ps.length:=by rw[hr];exact Nat.mod_lt _ hp0
     obtain⟨g,off,rfl,hcell⟩:=hc t0 ps[t0] (by simp[nats,hrl])
     have hb:=hps ps[t0] (List.getElem_mem hrl)
     have hcell1:wr.cell? ⟨g,off+t0,none⟩=some (.int .u8 (ps[t0]:Nat)):=hkw.cellF hcell
     obtain⟨d,hd⟩:∃ d,d=n / ps.length:=⟨_,rfl⟩
     obtain⟨t,ht⟩:∃ t,t=d % 5:=⟨_,rfl⟩
     have ht3:t<5:=by omega
     have e1:(n:Int).tmod (ps.length:Int)=(t0:Int):=by rw[hr,Int.tmod_eq_emod_of_nonneg (by omega)];simp
     have e2:(n:Int).tdiv (ps.length:Int)=(d:Int):=by rw[hd,Int.tdiv_eq_ediv_of_nonneg (by omega)];simp
     have e3:(d:Int).tmod 5=(t:Int):=by rw[ht,Int.tmod_eq_emod_of_nonneg (by omega)];simp
     have e4:IntKind.i64.wrap (1+(t:Int))=1+(t:Int):=IntWalk.i64_in _ (by omega)
     have e5:IntKind.u8.wrap (1+(t:Int))=1+(t:Int):=by rw[IntKind.wrap_u8];omega
     have e6:((1+(t:Int)) == 0)=false:=by rw[beq_eq_false_iff_ne];omega
     have e7:(0:Int)≤(t0:Int):=by omega
     have e8:(t0:Int)<(ps.length:Int):=by omega
     have HR:=Lib.hid (And.intro hr (And.intro hd ht))
     clear hr hd ht hc hps hcell
     generalize ps[t0]=y at *
     clear hrl
     generalize ps.length=m at *
     have e9:¬ m=0:=by omega
     have e10:¬ 1+(t:Int)=0:=by omega
     have hd2:d≤n:=by rw[HR.out.2.1];exact Nat.div_le_self _ _
     have e11:IntKind.i64.wrap (d:Int)=(d:Int):=IntWalk.i64_in _ (by omega)
     obtain⟨v,hv⟩:∃ v,v=y / (1+t):=⟨_,rfl⟩
     have hv2:v≤y:=by rw[hv];exact Nat.div_le_self _ _
     have e12:(y:Int).tdiv (1+(t:Int))=(v:Int):=by rw[hv,Int.tdiv_eq_ediv_of_nonneg (by omega)];simp
     have e13:IntKind.u8.wrap (v:Int)=(v:Int):=by rw[IntKind.wrap_u8];omega
     clear hv
     go_wp2_with fail
     go_quiet (fail)
     go_wp2
     go_meet
     exact⟨v,rfl,by omega,nq,rfl⟩
    ·have hp00:ps.length=0:=by omega
     clear hown hkw hsz hc hps hp0
     generalize ps.length=m at *
     subst hp00
     go_wp2
     go_meet
     exact⟨0,rfl,by omega,0,rfl⟩
   case rest =>
    obtain⟨v,rfl,hv,nq,rfl⟩:=hcut
    clear hc hps
    have hown2:OwnI w.heap.size (wr.drewN nq) (.slice la n lc) (nats ks):=hown.keeps ((Keeps.refl (fun _=>False) wr).drewN nq) (fun _ _ h=>h)
    have hsz2:w.heap.size≤(wr.drewN nq).heap.size:=hsz
    have hkw2:Keeps (fun _=>False) w (wr.drewN nq):=hkw.drewN nq
    clear hown hkw hsz
    generalize wr.drewN nq=w2 at *
    obtain⟨h2,hh2⟩:∃ h,h=v / 2:=⟨_,rfl⟩
    obtain⟨h4,hh4⟩:∃ h,h=v / 4:=⟨_,rfl⟩
    have d2:(v:Int).tdiv 2=(h2:Int):=by rw[hh2,Int.tdiv_eq_ediv_of_nonneg (by omega)];simp
    have d4:(v:Int).tdiv 4=(h4:Int):=by rw[hh4,Int.tdiv_eq_ediv_of_nonneg (by omega)];simp
    have w2':IntKind.u8.wrap (h2:Int)=(h2:Int):=by rw[IntKind.wrap_u8];omega
    have w4':IntKind.u8.wrap (h4:Int)=(h4:Int):=by rw[IntKind.wrap_u8];omega
    have m0:(v:Int).tmod 2=0∨(v:Int).tmod 2=1:=by rw[Int.tmod_eq_emod_of_nonneg (by omega)];omega
    have m2:(h2:Int).tmod 2=0∨(h2:Int).tmod 2=1:=by rw[Int.tmod_eq_emod_of_nonneg (by omega)];omega
    have m4:(h4:Int).tmod 2=0∨(h4:Int).tmod 2=1:=by rw[Int.tmod_eq_emod_of_nonneg (by omega)];omega
    have hh:h2<128∧h4<64:=by omega
    clear hh2 hh4
    have hpar:=HZ.out.2.1
    by_cases c1:r+e+n<2 * P
    ·have c1':(r:Int)+e<2 * P - n:=by omega
     clear hpar
     rcases m0 with q0|q0
     ·skip
      rcases m2 with q2|q2
      ·skip
       go_wp2_with (at_builtin;refine q0l n rfl _ _ rfl w.heap.size (.slice la n lc) (nats ks) 0 HN w2.heap.size rfl rfl rfl hown2 hzl2 hsz2 ?_;intro g2 cap2 w3 hown3 hk3 hat hg)
       have HO:=Lib.hid hown3
       clear hown3
       go_wp2
       go_roundg (2 * P - (n+1))
       case measure=>rw[HG.out];omega
       case rel=>exact⟨n+1,r+1,e,rfl,by go_num,by go_num,by go_num,AnyM.push HM.out (by rfl) (AnyK.push0 HZ.out.1 (by rw[HM.out];omega)) hkw2 hown2 HO.out hk3⟩
      ·skip
       go_wp2_with (at_builtin;refine q0l n rfl _ _ rfl w.heap.size (.slice la n lc) (nats ks) 2 HN w2.heap.size rfl rfl rfl hown2 hzl2 hsz2 ?_;intro g2 cap2 w3 hown3 hk3 hat hg)
       have HO:=Lib.hid hown3
       clear hown3
       go_wp2
       go_roundg (2 * P - (n+1))
       case measure=>rw[HG.out];omega
       case rel=>exact⟨n+1,r,e+1,rfl,by go_num,by go_num,by go_num,AnyM.push HM.out (by rfl) (AnyK.push2 HZ.out.1 (by rw[HM.out];omega)) hkw2 hown2 HO.out hk3⟩
     ·by_cases c3:r+e=0
      ·obtain rfl:r=0:=by omega
       obtain rfl:e=0:=by omega
       rcases m2 with q2|q2
       ·skip
        go_wp2_with (at_builtin;refine q0l n rfl _ _ rfl w.heap.size (.slice la n lc) (nats ks) 0 HN w2.heap.size rfl rfl rfl hown2 hzl2 hsz2 ?_;intro g2 cap2 w3 hown3 hk3 hat hg)
        have HO:=Lib.hid hown3
        clear hown3
        go_wp2
        go_roundg (2 * P - (n+1))
        case measure=>rw[HG.out];omega
        case rel=>exact⟨n+1,0+1,0,rfl,by go_num,by go_num,by go_num,AnyM.push HM.out (by rfl) (AnyK.push0 HZ.out.1 (by rw[HM.out];omega)) hkw2 hown2 HO.out hk3⟩
       ·skip
        go_wp2_with (at_builtin;refine q0l n rfl _ _ rfl w.heap.size (.slice la n lc) (nats ks) 2 HN w2.heap.size rfl rfl rfl hown2 hzl2 hsz2 ?_;intro g2 cap2 w3 hown3 hk3 hat hg)
        have HO:=Lib.hid hown3
        clear hown3
        go_wp2
        go_roundg (2 * P - (n+1))
        case measure=>rw[HG.out];omega
        case rel=>exact⟨n+1,0,0+1,rfl,by go_num,by go_num,by go_num,AnyM.push HM.out (by rfl) (AnyK.push2 HZ.out.1 (by rw[HM.out];omega)) hkw2 hown2 HO.out hk3⟩
      ·skip
       rcases r with _|r
       ·rcases e with _|e
        ·exfalso;omega
        ·skip
         go_wp2_with (at_builtin;refine q0l n rfl _ _ rfl w.heap.size (.slice la n lc) (nats ks) 3 HN w2.heap.size rfl rfl rfl hown2 hzl2 hsz2 ?_;intro g2 cap2 w3 hown3 hk3 hat hg)
         have HO:=Lib.hid hown3
         clear hown3
         go_wp2
         go_roundg (2 * P - (n+1))
         case measure=>rw[HG.out];omega
         case rel=>exact⟨n+1,0,e,rfl,by go_num,by go_num,by go_num,AnyM.push HM.out (by rfl) (AnyK.push3 HZ.out.1 ) hkw2 hown2 HO.out hk3⟩
       ·rcases m4 with q4|q4
        ·skip
         go_wp2_with (at_builtin;refine q0l n rfl _ _ rfl w.heap.size (.slice la n lc) (nats ks) 1 HN w2.heap.size rfl rfl rfl hown2 hzl2 hsz2 ?_;intro g2 cap2 w3 hown3 hk3 hat hg)
         have HO:=Lib.hid hown3
         clear hown3
         go_wp2
         go_roundg (2 * P - (n+1))
         case measure=>rw[HG.out];omega
         case rel=>exact⟨n+1,r,e,rfl,by go_num,by go_num,by go_num,AnyM.push HM.out (by rfl) (AnyK.push1 HZ.out.1 ) hkw2 hown2 HO.out hk3⟩
        ·rcases e with _|e
         ·skip
          go_wp2_with (at_builtin;refine q0l n rfl _ _ rfl w.heap.size (.slice la n lc) (nats ks) 1 HN w2.heap.size rfl rfl rfl hown2 hzl2 hsz2 ?_;intro g2 cap2 w3 hown3 hk3 hat hg)
          have HO:=Lib.hid hown3
          clear hown3
          go_wp2
          go_roundg (2 * P - (n+1))
          case measure=>rw[HG.out];omega
          case rel=>exact⟨n+1,r,0,rfl,by go_num,by go_num,by go_num,AnyM.push HM.out (by rfl) (AnyK.push1 HZ.out.1 ) hkw2 hown2 HO.out hk3⟩
         ·skip
          go_wp2_with (at_builtin;refine q0l n rfl _ _ rfl w.heap.size (.slice la n lc) (nats ks) 3 HN w2.heap.size rfl rfl rfl hown2 hzl2 hsz2 ?_;intro g2 cap2 w3 hown3 hk3 hat hg)
          have HO:=Lib.hid hown3
          clear hown3
          go_wp2
          go_roundg (2 * P - (n+1))
          case measure=>rw[HG.out];omega
          case rel=>exact⟨n+1,(r+1),e,rfl,by go_num,by go_num,by go_num,AnyM.push HM.out (by rfl) (AnyK.push3 HZ.out.1 ) hkw2 hown2 HO.out hk3⟩
    ·have c1':¬ (r:Int)+e<2 * P - n:=by omega
     have c3:¬ r+e=0:=by omega
     clear hpar
     rcases r with _|r
     ·rcases e with _|e
      ·exfalso;omega
      ·skip
       go_wp2_with (at_builtin;refine q0l n rfl _ _ rfl w.heap.size (.slice la n lc) (nats ks) 3 HN w2.heap.size rfl rfl rfl hown2 hzl2 hsz2 ?_;intro g2 cap2 w3 hown3 hk3 hat hg)
       have HO:=Lib.hid hown3
       clear hown3
       go_wp2
       go_roundg (2 * P - (n+1))
       case measure=>rw[HG.out];omega
       case rel=>exact⟨n+1,0,e,rfl,by go_num,by go_num,by go_num,AnyM.push HM.out (by rfl) (AnyK.push3 HZ.out.1 ) hkw2 hown2 HO.out hk3⟩
     ·rcases m4 with q4|q4
      ·skip
       go_wp2_with (at_builtin;refine q0l n rfl _ _ rfl w.heap.size (.slice la n lc) (nats ks) 1 HN w2.heap.size rfl rfl rfl hown2 hzl2 hsz2 ?_;intro g2 cap2 w3 hown3 hk3 hat hg)
       have HO:=Lib.hid hown3
       clear hown3
       go_wp2
       go_roundg (2 * P - (n+1))
       case measure=>rw[HG.out];omega
       case rel=>exact⟨n+1,r,e,rfl,by go_num,by go_num,by go_num,AnyM.push HM.out (by rfl) (AnyK.push1 HZ.out.1 ) hkw2 hown2 HO.out hk3⟩
      ·rcases e with _|e
       ·skip
        go_wp2_with (at_builtin;refine q0l n rfl _ _ rfl w.heap.size (.slice la n lc) (nats ks) 1 HN w2.heap.size rfl rfl rfl hown2 hzl2 hsz2 ?_;intro g2 cap2 w3 hown3 hk3 hat hg)
        have HO:=Lib.hid hown3
        clear hown3
        go_wp2
        go_roundg (2 * P - (n+1))
        case measure=>rw[HG.out];omega
        case rel=>exact⟨n+1,r,0,rfl,by go_num,by go_num,by go_num,AnyM.push HM.out (by rfl) (AnyK.push1 HZ.out.1 ) hkw2 hown2 HO.out hk3⟩
       ·skip
        go_wp2_with (at_builtin;refine q0l n rfl _ _ rfl w.heap.size (.slice la n lc) (nats ks) 3 HN w2.heap.size rfl rfl rfl hown2 hzl2 hsz2 ?_;intro g2 cap2 w3 hown3 hk3 hat hg)
        have HO:=Lib.hid hown3
        clear hown3
        go_wp2
        go_roundg (2 * P - (n+1))
        case measure=>rw[HG.out];omega
        case rel=>exact⟨n+1,(r+1),e,rfl,by go_num,by go_num,by go_num,AnyM.push HM.out (by rfl) (AnyK.push3 HZ.out.1 ) hkw2 hown2 HO.out hk3⟩
  ·have HF:=Lib.hid (And.intro (hK.done hlt) (And.intro hown hkw))
   clear hK hown hkw hc hps hpar HN
   go_wp2
   go_ret
   exact⟨_,ks,rfl,HF.out.2.1,HF.out.1,HF.out.2.2⟩
end
section
open Go.RowKit
theorem qdb (b:Nat) (v:Value) (ks:List Nat) (w:World) (h:WordAt w b v ks) (h4:∀ k ∈ ks,k<4) (hl:ks.length≤100000000) :
  Calls Tryz.prog 256 #[.pointer (some ⟨b,0,none⟩)] w (q5z w ks) :=
 qje _ ks w h4 hl (fun W k=>q57 b v ks W (h.keeps k (fun h=>h) (fun _ _ h=>h)))
  (fun W i k hk hi=>qj6 b v ks i k W (h.keeps hk (fun h=>h) (fun _ _ h=>h)) hi (by have:=h4 k (List.mem_of_getElem? hi);omega))
end
end Go.Proofs.YtcfdpogegngplaaGreat
