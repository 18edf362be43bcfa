import Derived.Deep.CutRange
import Derived.Test.YtcfdpogegngplaaGreatZg05
set_option maxRecDepth 100000
set_option maxHeartbeats 4000000
namespace Go.Proofs.YtcfdpogegngplaaGreat
section
open Go.RowKit
theorem Sl.take{k:IntKind}{w:World}{a:Option Addr}{n cap:Nat}{zs:List Int}(h:Sl k w (.slice a n cap) zs)(m:Nat)(hm:m≤zs.length):Sl k w (.slice a m cap) (zs.take m):=by
 obtain⟨a',cap',hv,h1,h2,h3,h4⟩:=h
 simp only [Value.slice.injEq] at hv
 obtain⟨rfl,rfl,rfl⟩:=hv
 have hl:(zs.take m).length=m:=by simp;omega
 refine⟨a,cap,by rw[hl],by omega,h2,h3,fun j z hj=>?_⟩
 rw[List.getElem?_take] at hj
 split at hj
 ·exact h4 j z hj
 ·cases hj
def iR(s:Nat)(ks:List Nat):List Int:=(ks.filter fun k=>k / 2 == s).map fun k=>1 - (k % 2:Nat)
theorem qnk(s:Nat)(ks:List Nat):∀ z ∈ iR s ks,z=0∨z=1:=by
 intro z hz
 simp only [iR,List.mem_map] at hz
 obtain⟨k,_,rfl⟩:=hz
 omega
theorem ZN(s:Nat)(ks:List Nat):lF (iR s ks)=ownB s ks:=by
 unfold lF iR ownB
 rw[List.map_map]
 apply List.map_congr_left
 intro k _
 simp only [Function.comp]
 rcases Nat.mod_two_eq_zero_or_one k with h|h <;> rw[h] <;> rfl
theorem QJ(s:Nat)(ks:List Nat):(iR s ks).length=(ownB s ks).length:=by simp[iR,ownB]
theorem qix{s:Nat}{ks:List Nat}{i k:Nat}(h:ks[i]? = some k)(hs:k / 2=s):iR s (ks.take (i+1))=iR s (ks.take i) ++ [1 - ((k % 2:Nat):Int)]:=by
 rw[lX h];simp[iR,hs]
theorem qlo{s:Nat}{ks:List Nat}{i k:Nat}(h:ks[i]? = some k)(hs:¬ k / 2=s):iR s (ks.take (i+1))=iR s (ks.take i):=by
 rw[lX h];simp[iR,hs]
def nW(s:Nat)(ks:List Nat)(i:Nat)(ps:List Nat):Prop:=ps.length=pr s ks i∧∀ j n,ps[j]? = some n→bO s ks j n
theorem nW.step{s:Nat}{ks:List Nat}{i k:Nat}{ps:List Nat}(hp:nW s ks i ps)(h:ks[i]? = some k)(hs:k / 2=s):nW s ks (i+1) (ps ++ [i]):=by
 refine⟨by rw[List.length_append,hp.1,Gv s h,if_pos hs];rfl,fun j n hj=>?_⟩
 rw[List.getElem?_append] at hj
 split at hj
 ·exact hp.2 j n hj
 ·rename_i hlt
  have hj2:j - ps.length=0:=by
   rcases Nat.eq_zero_or_pos (j - ps.length) with h|h
   ·exact h
   ·rw[List.getElem?_eq_none (by simp;omega)] at hj;cases hj
  rw[hj2] at hj
  simp only [List.getElem?_cons_zero,Option.some.injEq] at hj
  subst hj
  have hjl:j=pr s ks i:=by rw[← hp.1];omega
  subst hjl
  exact bO.at h hs
theorem nW.skip{s:Nat}{ks:List Nat}{i k:Nat}{ps:List Nat}(hp:nW s ks i ps)(h:ks[i]? = some k)(hs:¬ k / 2=s):nW s ks (i+1) ps :=
 ⟨by rw[Gv s h,if_neg hs];exact hp.1,hp.2⟩
def sG(w:World)(s:Nat)(ks:List Nat)(i:Nat)(ov av:Value)(wr:World):Prop :=
 ∃ ps,aF w.heap.size wr ov (iR s (ks.take i))∧aF w.heap.size wr av (aB ps)∧nW s ks i ps∧(∀ k,ov.ownBlock=some k→av.ownBlock≠some k)∧Keeps (fun _=>False) w wr
theorem qen(sv:Value)(ks:List Nat)(s:Nat)(w:World)(hs:Sl .i64 w sv (aB ks))(h4:∀ k ∈ ks,k<4)(hl:ks.length≤100000000) :
  Calls Tryz.prog 187 #[sv,.int .i64 s] w fun e w'=>∃ ov av,e=.returned (.tuple #[ov,av])∧sG w s ks ks.length ov av w':=by
 obtain⟨a,cap,rfl,hnc,hcm,_,hc⟩:=hs
 rw[q01] at hnc ⊢
 go_enter Tryz.func187,Tryz.ntmps187
 go_wp2_with fail
 go_loopw [6,7,12] (fun ov av i wr=>∃ k:Nat,k≤ks.length∧i=.int .i64 k∧sG w s ks k ov av wr) (fun _ _ i _=>ks.length - (intOf i).toNat)
 case atStart=>exact⟨0,Nat.zero_le _,rfl,[],aF.nil _ _,aF.nil _ _,⟨by rw[UA];rfl,fun j n h=>by simp at h⟩,fun k hk=>by simp[Value.ownBlock] at hk,Keeps.refl _ _⟩
 case round =>
  obtain⟨i,hi,rfl,ps,ho,ha,hp,hd,aT⟩:=hrel
  have hsz:=aT.size
  obtain⟨oa,oc,rfl,Gs,Ls⟩:=ho.form
  obtain⟨aa,ac,rfl,Gz,UO⟩:=ha.form
  obtain⟨n,hn⟩:∃ n,n=(iR s (ks.take i)).length:=⟨_,rfl⟩
  obtain⟨m,hm⟩:∃ m,m=(aB ps).length:=⟨_,rfl⟩
  have hnb:n≤10000000000:=by rw[hn,QJ];have:=Gu s (ks.take i);have:(ks.take i).length≤i:=List.length_take_le _ _;omega
  have hmb:m≤10000000000:=by
   rw[hm,q01,hp.1]
   have:=sF s ks i hi
   have:=Gu s ks
   omega
  rw[← hn] at ho Gs hd ⊢
  rw[← hm] at ha Gz hd ⊢
  have HN:=ah hn.symm
  have HM:=ah hm.symm
  clear hn hm
  by_cases hlt:i<ks.length
  ·have hk:=List.getElem?_eq_getElem hlt
   have hk4:=h4 _ (List.mem_of_getElem? hk)
   obtain⟨g,off,rfl,hcell⟩:=hc i _ (jq hk)
   have hcell1:=aT.fV hcell
   generalize ks[i]=k at *
   clear hc hcell
   by_cases hks:k / 2=s
   ·have tk:((k:Int) / 2 == (s:Int))=true:=by rw[beq_iff_eq];omega
    have t1:=qix hk hks
    have t2:=hp.step hk hks
    have HT:=ah (aj t1 t2)
    have hk3:k≤3:=by omega
    clear t1 t2 hp hk hks
    go_wp2_with (first | (at_builtin;refine mP n rfl _ _ rfl w.heap.size (.slice oa n oc) (iR s (ks.take i)) (1 - (k:Int) % 2) HN _ rfl rfl rfl ho hnb hsz ?_;intro g2 cap2 w3 hown3 hk3 hat hg) | (at_builtin;refine mP m rfl _ _ rfl w.heap.size (.slice aa m ac) (aB ps) i HM _ rfl rfl rfl (ha.keeps hk3 (fun b hb h=>hd b h hb)) hmb (Nat.le_trans hsz hk3.size) ?_;intro g4 cap4 w5 hown5 hk5 gH hg5))
    have hfin:sG w s ks (i+1) (.slice (some ⟨g2,0,none⟩) (n+1) cap2) (.slice (some ⟨g4,0,none⟩) (m+1) cap4) w5:=by
     have hgg:g2≠g4:=by
      rcases hat with h|h <;> rcases gH with h5|h5
      ·intro e;subst e;exact hd _ h h5
      ·have:=(ho.lt g2 h).2;have:=hk3.size;omega
      ·have:=(ha.lt g4 h5).2;omega
      ·have:=(hown3.lt g2 rfl).2;omega
     have hga:Value.ownBlock (.slice aa m ac)≠some g2:=by
      intro e
      rcases hat with h|h
      ·exact hd _ h e
      ·have:=(ha.lt g2 e).2;omega
     refine⟨ps ++ [i],?_,?_,HT.out.2,fun x hx hy=>?_,(aT.trans hk3 (fun x hx h=>by have:=(ho.lt x h).1;omega)).trans hk5 (fun x hx h=>by have:=(ha.lt x h).1;omega)⟩
     ·rw[HT.out.1]
      have e:(1:Int) - ((k % 2:Nat):Int)=1 - (k:Int) % 2:=by omega
      rw[e]
      exact hown3.keeps hk5 (fun b hb h=>by simp only [Value.ownBlock,Option.some.injEq] at hb;subst hb;exact hga h)
     ·have e:aB (ps ++ [i])=aB ps ++ [(i:Int)]:=by simp[aB]
      rw[e];exact hown5
     ·simp only [Value.ownBlock,Option.some.injEq] at hx hy
      omega
    have HF:=ah hfin
    clear hfin hown3 hk3 hat hown5 hk5 gH ho ha hd aT
    go_wp2
    go_roundw
    case rel=>exact⟨i+1,by omega,by go_num,HF.out⟩
    case measure=>simp[intOf];omega
   ·have tk:((k:Int) / 2 == (s:Int))=false:=by rw[beq_eq_false_iff_ne];omega
    have hfin:sG w s ks (i+1) (.slice oa n oc) (.slice aa m ac) wr:=⟨ps,by rw[qlo hk hks];exact ho,ha,hp.skip hk hks,hd,aT⟩
    have HF:=ah hfin
    have hk3:k≤3:=by omega
    clear hfin ho ha hd hp hk hks aT
    go_wp2
    go_roundw
    case rel=>exact⟨i+1,by omega,by go_num,HF.out⟩
    case measure=>simp[intOf];omega
  ·obtain rfl:ks.length=i:=by omega
   have hfin:sG w s ks ks.length (.slice oa n oc) (.slice aa m ac) wr:=⟨ps,ho,ha,hp,hd,aT⟩
   have HF:=ah hfin
   clear hfin ho ha hd hp hc aT
   go_wp2
   go_ret2
   exact⟨_,_,rfl,HF.out⟩
end
section
open Go.RowKit
def Ee(w:World)(ks:List Nat)(g:Nat)(D:Nat→Prop)(wr:World):Prop :=
 ∃ ms,aF w.heap.size wr (.slice (some ⟨g,0,none⟩) ks.length ks.length) ms∧ms.length=ks.length∧(∀ i,D i→∃ m:Nat,ms[i]? = some (m:Int)∧bK ks i m)∧Keeps (fun _=>False) w wr
theorem aF.made(B:Nat)(w:World)(n:Nat)(hB:B≤w.heap.size)(hn:n≤100000000):aF B (w.alloc (.cells (madeCells #[.int .i64 0] n) 3)) (.slice (some ⟨w.heap.size,0,none⟩) n n) (List.replicate n 0):=by
 have ht:(madeCells #[.int .i64 0] n).toList=ints (List.replicate n 0):=by rw[toList_madeCells_one];simp[ints]
 have h1:=World.ownsRow_lit (base:=B) (e:=3) (size:=1) w (madeCells #[.int .i64 0] n) n hB (by unfold maxLen;omega) (by rw[size_madeCells];omega)
 rw[ht] at h1
 unfold aF
 rw[List.length_replicate]
 exact h1
theorem q9p(sv:Value)(ks:List Nat)(w:World)(hs:Sl .i64 w sv (aB ks))(h4:∀ k ∈ ks,k<4)(hl:ks.length≤100000000)(hB:iQ ks) :
  Calls Tryz.prog 163 #[sv] w fun e w'=>∃ g,e=.returned (.slice (some ⟨g,0,none⟩) ks.length ks.length)∧Ee w ks g (fun i=>i<ks.length) w':=by
 have UQ:=fun W (hk:Keeps (fun _=>False) w W)=>hs.keeps hk (fun _ _ h=>h)
 obtain⟨a,cap,rfl,hnc,hcm,_,hc⟩:=hs
 rw[q01] at hnc UQ ⊢
 obtain⟨i,hi,hz0,hz1,hz2⟩:=info_parts pU
 have hmk:=fun w=>run_make (P:=Tryz.prog) w 25 3 i _ Tryz.underlying25 hi hz0 .i64 .i64 (ks.length:Int) (ks.length:Int) (by omega) (Int.le_refl _) (by rw[hz2];omega) (by omega)
 simp only [hz1,Int.toNat_natCast,Nat.mul_one] at hmk
 have hO:=aF.made w.heap.size w ks.length (Nat.le_refl _) hl
 have HS:=ah (aj UQ (aj hB h4))
 clear hi hz0 hz1 hz2 hc UQ hB h4
 go_enter Tryz.func163,Tryz.ntmps163
 go_wp2_with fail
 have hM0:Ee w ks w.heap.size (fun i=>∃ k,ks[i]? = some k∧k / 2<0) (w.alloc (.cells (madeCells #[.int .i64 0] ks.length) 3)):=⟨_,hO,by simp,fun i h=>by obtain⟨k,_,h⟩:=h;omega,(Keeps.refl _ w).alloc _⟩
 clear hO hmk
 generalize World.alloc _ _=wM at *
 obtain⟨g,hg⟩:∃ g,g=w.heap.size:=⟨_,rfl⟩
 rw[← hg] at hM0
 rw[← hg]
 clear hg
 go_loopw [4] (fun t wr=>∃ s:Nat,s≤2∧t=.int .i64 s∧Ee w ks g (fun i=>∃ k,ks[i]? = some k∧k / 2<s) wr) (fun t _=>2 - (intOf t).toNat)
 case atStart=>exact⟨0,by omega,rfl,hM0⟩
 case round =>
  obtain⟨s,hs,rfl,ms,hm,hml,hmd,aT⟩:=hrel
  clear hM0
  by_cases hlt:s<2
  ·have hS:=qen _ ks s wr (HS.out.1 wr aT) HS.out.2.2 hl
   have HM:=ah (aj hm (aj hml hmd))
   clear hm hml hmd
   go_wp2_with fail
   refine hS.mono ?_
   rintro e w2 ⟨ov,av,rfl,ps,ho,ha,hp,hd,hk2⟩
   rw[List.take_of_length_le (Nat.le_refl _)] at ho
   have nV:=HS.out.2.1.get hlt
   rw[← ZN] at nV
   have hol:(iR s ks).length≤100000000:=by rw[QJ];exact Nat.le_trans (Gu s ks) hl
   have hT:=qcc ov (iR s ks) w2 ho.sl (qnk s ks) hol nV
   have hpl:ps.length=(iR s ks).length:=by rw[hp.1,QJ,y7]
   obtain⟨oa,oc,rfl,Gs,Ls⟩:=ho.form
   obtain⟨aa,ac,rfl,Gz,UO⟩:=ha.form
   rw[q01,hpl] at ha Gz hd ⊢
   have LG:(ownB s ks).length=(iR s ks).length:=(QJ s ks).symm
   have HP:=ah (aj hp (aj hpl LG))
   clear hS ho hd hp hpl LG
   go_wp2_with fail
   refine hT.mono ?_
   rintro e w3 ⟨gm,gr,ov3,rfl,cs,rs,st,hI,hcm2,hrm,_,hgg,_,_,hk3⟩
   have hfin:=(show MInv (lF (iR s ks)) (lF (iR s ks)).length cs rs st from by rw[Ub];exact hI).fin nV
   rw[Ub] at hfin hcm2
   rw[ZN] at hfin
   have ZO:=ha.keeps hk3 (fun _ _ h=>h)
   have lY:=(aT.trans hk2 (fun _ _ h=>h)).trans hk3 (fun _ _ h=>h)
   have LH:=hk2.trans hk3 (fun _ _ h=>h)
   have LJ:Ee w ks g (fun i=>(∃ k,ks[i]? = some k∧k / 2<s)∨∃ j,j<0∧bO s ks j i) w3:=⟨ms,HM.out.1.keeps LH (fun _ _ h=>h),HM.out.2.1,fun i h=>by
    rcases h with h|⟨j,h,_⟩
    ·exact HM.out.2.2 i h
    ·omega,lY⟩
   have hgw:=(HM.out.1.lt g rfl).2
   have hg1:∀ k,(Value.slice aa (iR s ks).length ac).ownBlock=some k→k≠g:=fun k hk e=>by have:=(ha.lt k hk).1;omega
   have hg2:gm≠g:=fun e=>by have:=(hcm2.lt gm rfl).1;have:=hk2.size;omega
   have HR:=ah (aj hfin (aj hg1 (aj ZO (aj hcm2 hg2))))
   clear hT hI hrm hgg hk3 hk2 ha aT lY LH hcm2 hfin hg1 ZO nV hg2
   generalize (iR s ks).length=L at *
   go_wp2_with fail
   go_loopw [31] (fun t wr=>∃ j:Nat,j≤L∧t=.int .i64 j∧Ee w ks g (fun i=>(∃ k,ks[i]? = some k∧k / 2<s)∨∃ j',j'<j∧bO s ks j' i) wr∧Keeps (fun x=>x=g) w3 wr) (fun t _=>L - (intOf t).toNat)
   case atStart=>exact⟨0,Nat.zero_le _,rfl,LJ,Keeps.refl _ _⟩
   case round =>
    obtain⟨j,hj,rfl,⟨ms2,hm,hml,hmd,aT⟩,hk3⟩:=hrel
    clear LJ
    by_cases hlt2:j<L
    ·obtain⟨n,hn⟩:∃ n,ps[j]? = some n:=⟨_,List.getElem?_eq_getElem (by have:=HP.out.2;omega)⟩
     have hsn:=HP.out.1.2 j n hn
     obtain⟨⟨c,hc1,hc2⟩,_⟩:=HR.out.1 j hlt2
     have hcl:=hc2.lt
     rw[HP.out.2.2] at hcl
     obtain⟨m,hmm⟩:∃ m,ps[c]? = some m:=⟨_,List.getElem?_eq_getElem (by have:=HP.out.2.1;omega)⟩
     have hsm:=HP.out.1.2 c m hmm
     have hnl:=hsn.lt
     have LK:bK ks n m:=⟨s,j,c,hlt,hsn,hsm,hc2⟩
     have QK:=HR.out.2.2.1.keeps hk3 (fun b hb e=>HR.out.2.1 b hb e)
     have hc4:=HR.out.2.2.2.1.keeps hk3 (fun b hb e=>by simp only [Value.ownBlock,Option.some.injEq] at hb;exact HR.out.2.2.2.2 (hb.trans e))
     obtain⟨ga,rfl⟩:=AZ QK (by rw[q01];have:=HP.out.2.1;omega)
     obtain⟨q1,_⟩:=QK.cell (jq hn)
     obtain⟨q2,_⟩:=QK.cell (jq hmm)
     obtain⟨q3,_⟩:=hc4.cell hc1
     obtain⟨x,q4,f4⟩:=hm.has n (by omega)
     have hfin:Ee w ks g (fun i=>(∃ k,ks[i]? = some k∧k / 2<s)∨∃ j',j'<j+1∧bO s ks j' i) (wr.setCell ⟨g,n,none⟩ (.int .i64 m))∧Keeps (fun x=>x=g) w3 (wr.setCell ⟨g,n,none⟩ (.int .i64 m)):=by
      refine⟨⟨_,hm.set n m,by simpa using hml,fun i hi=>?_,aT.setCell (p:=⟨g,n,none⟩) (.inr (hm.lt g rfl).1) _⟩,hk3.setCell (p:=⟨g,n,none⟩) (.inl rfl) _⟩
      by_cases hin:i=n
      ·subst hin
       exact⟨m,by rw[List.getElem?_set_self (by omega)],LK⟩
      ·rw[List.getElem?_set_ne (fun e=>hin e.symm)]
       refine hmd i ?_
       rcases hi with h|⟨j',h1,h2⟩
       ·exact .inl h
       ·refine .inr ⟨j',?_,h2⟩
        rcases Nat.lt_or_ge j' j with h|h
        ·exact h
        ·obtain rfl:j'=j:=by omega
         exact absurd (h2.unique hsn) hin
     have HF:=ah hfin
     clear hfin hm hml hmd aT hk3 hn hsn hc1 hc2 hmm hsm LK QK hc4
     go_wp2
     go_roundw
     case rel=>exact⟨j+1,by omega,by go_num,HF.out.1,HF.out.2⟩
     case measure=>simp[intOf];omega
    ·obtain rfl:L=j:=by omega
     have hfin:Ee w ks g (fun i=>∃ k,ks[i]? = some k∧k / 2<s+1) wr:=⟨ms2,hm,hml,fun i hi=>by
      obtain⟨k,hk,hks⟩:=hi
      refine hmd i ?_
      by_cases h:k / 2<s
      ·exact .inl ⟨k,hk,h⟩
      ·have UR:k / 2=s:=by omega
       have hsel:=bO.at hk UR
       refine .inr ⟨_,?_,hsel⟩
       have:=hsel.Lx
       rw[HP.out.2.2] at this
       exact this,aT⟩
     have HF:=ah hfin
     clear hfin hm hml hmd aT hk3
     go_wp2
     go_roundw
     case rel=>exact⟨s+1,by omega,by go_num,HF.out⟩
     case measure=>simp[intOf];omega
  ·obtain rfl:2=s:=by omega
   have hfin:Ee w ks g (fun i=>i<ks.length) wr:=⟨ms,hm,hml,fun i hi=>hmd i ⟨_,List.getElem?_eq_getElem hi,by have:=HS.out.2.2 _ (List.getElem_mem hi);omega⟩,aT⟩
   have HF:=ah hfin
   clear hfin hm hml hmd aT
   go_wp2
   go_ret
   exact⟨g,rfl,HF.out⟩
end
section
open Go.RowKit
end
section
open Go.RowKit
def NN(l:List Bool)(x:Nat):Prop:=ex l l.length=x∧∀ p,p≤l.length→0≤ex l p
theorem NN.nil:NN [] 0:=⟨by rw[List.length_nil,FT];rfl,fun p hp=>by
 obtain rfl:p=0:=by simpa using hp
 rw[FT];omega⟩
theorem NN.snoc{l:List Bool}{x y:Nat}(h:NN l x)(b:Bool)(hy:(y:Int)=x+if b then 1 else -1):NN (l ++ [b]) y:=by
 have hxs:=qnh l b
 rw[h.1,← hy] at hxs
 refine⟨by simpa using hxs,fun p hp=>?_⟩
 by_cases hpk:p≤l.length
 ·rw[qc3 _ _ hpk];exact h.2 p hpk
 ·obtain rfl:p=l.length+1:=by simp at hp;omega
  rw[hxs];omega
structure fE (P:Nat)(ks:List Nat)(r e:Nat):Prop where
 k4:∀ k ∈ ks,k<4
 n0:NN (ownB 0 ks) r
 n1:NN (ownB 1 ks) e
 le:r+e+ks.length≤2 * P
 par:(r+e+ks.length) % 2=0
theorem fE.start(P:Nat):fE P [] 0 0:=⟨fun k h=>by simp at h,NN.nil,NN.nil,by simp,rfl⟩
theorem QL{ks:List Nat}{k:Nat}(h:∀ k ∈ ks,k<4)(hk:k<4):∀ x ∈ ks ++ [k],x<4:=by
 intro x hx
 rcases List.mem_append.1 hx with h' | h'
 ·exact h x h'
 ·rw[List.mem_singleton.1 h'];exact hk
theorem fE.Ef{P:Nat}{ks:List Nat}{r e:Nat}(h:fE P ks r e)(hr:r+e+ks.length<2 * P):fE P (ks ++ [0]) (r+1) e:=by
 have hp:=h.par
 refine⟨QL h.k4 (by omega),?_,?_,by simp;omega,by simp;omega⟩
 ·rw[y8];exact h.n0.snoc true (by simp)
 ·rw[y8,show ownB 1 [0]=[] by rfl,List.append_nil];exact h.n1
theorem fE.Eh{P:Nat}{ks:List Nat}{r e:Nat}(h:fE P ks r e)(hr:r+e+ks.length<2 * P):fE P (ks ++ [2]) r (e+1):=by
 have hp:=h.par
 refine⟨QL h.k4 (by omega),?_,?_,by simp;omega,by simp;omega⟩
 ·rw[y8,show ownB 0 [2]=[] by rfl,List.append_nil];exact h.n0
 ·rw[y8];exact h.n1.snoc true (by simp)
theorem fE.vB{P:Nat}{ks:List Nat}{r e:Nat}(h:fE P ks (r+1) e):fE P (ks ++ [1]) r e:=by
 have hp:=h.par
 have hl:=h.le
 refine⟨QL h.k4 (by omega),?_,?_,by simp;omega,by simp;omega⟩
 ·rw[y8];exact h.n0.snoc false (by simp;omega)
 ·rw[y8,show ownB 1 [1]=[] by rfl,List.append_nil];exact h.n1
theorem fE.vC{P:Nat}{ks:List Nat}{r e:Nat}(h:fE P ks r (e+1)):fE P (ks ++ [3]) r e:=by
 have hp:=h.par
 have hl:=h.le
 refine⟨QL h.k4 (by omega),?_,?_,by simp;omega,by simp;omega⟩
 ·rw[y8,show ownB 0 [3]=[] by rfl,List.append_nil];exact h.n0
 ·rw[y8];exact h.n1.snoc false (by simp;omega)
theorem fE.done{P:Nat}{ks:List Nat}{r e:Nat}(h:fE P ks r e)(hl:¬ ks.length<2 * P):(∀ k ∈ ks,k<4)∧ks.length=2 * P∧iQ ks:=by
 have hle:=h.le
 obtain rfl:r=0:=by omega
 obtain rfl:e=0:=by omega
 exact⟨h.k4,by omega,⟨h.n0.1,h.n0.2⟩,⟨h.n1.1,h.n1.2⟩⟩
def AnyM(w:World)(P k r e:Nat)(lv:Value)(wr:World):Prop :=
 ∃ ks,aF w.heap.size wr lv (aB ks)∧ks.length=k∧fE P ks r e∧Keeps (fun _=>False) w wr
theorem AnyM.start(w:World)(P:Nat):AnyM w P 0 0 0 (.slice none 0 0) w:=⟨[],aF.nil _ _,rfl,fE.start P,Keeps.refl _ _⟩
theorem AnyM.push{w wr w1:World}{P r e k n:Nat}{lv ZP:Value}{ks:List Nat}{x:Int}(hn:ks.length=n)(hx:x=(k:Nat))(h:fE P (ks ++ [k]) r e)(hk:Keeps (fun _=>False) w wr)(hown:aF w.heap.size wr lv (aB ks))
  (hown2:aF w.heap.size w1 ZP (aB ks ++ [x]))(hk2:Keeps (fun k=>lv.ownBlock=some k) wr w1):AnyM w P (n+1) r e ZP w1 :=
 ⟨ks ++ [k],by simpa [aB,hx] using hown2,by simp[hn],h,hk.trans hk2 (fun x hx h=>by have:=(hown.lt x h).1;omega)⟩
theorem qck(pv:Value)(ps:List Nat)(P:Nat)(w:World)(hp:Sl .u8 w pv (aB ps))(hps:∀ b ∈ ps,b<256)(hP:P≤100000) :
  Calls Tryz.prog 93 #[.int .i64 P,pv] w fun e w'=>∃ v ks,e=.returned v∧aF w.heap.size w' v (aB ks)∧((∀ k ∈ ks,k<4)∧ks.length=2 * P∧iQ ks)∧Keeps (fun _=>False) w w':=by
 obtain⟨a,cap,rfl,hnc,hcm,_,hc⟩:=hp
 have hnl:(aB ps).length=ps.length:=by simp[aB]
 rw[hnl] at hnc ⊢
 clear hnl
 go_enter Tryz.func93,Tryz.ntmps93
 go_wp2_with fail
 go_loopg [5,6,7,8] (2 * P) (fun m lv r e i wr=>∃ k r' e':Nat,m=2 * P - k∧i=.int .i64 k∧r=.int .i64 r'∧e=.int .i64 e'∧AnyM w P k r' e' lv wr)
 case atStart=>exact⟨0,0,0,rfl,rfl,rfl,rfl,AnyM.start _ _⟩
 case round =>
  obtain⟨k,r,e,aN,rfl,rfl,rfl,ks,hown,rfl,hK,aT⟩:=hrel
  have HG:=ah aN
  clear aN
  have hfo:=hown.form
  rw[q01] at hfo
  obtain⟨la,lc,rfl,hlc,agA⟩:=hfo
  have hsz:=aT.size
  have hle:=hK.le
  have hpar:=hK.par
  have mZ:ks.length≤10000000000:=by omega
  have HN:Hid ((aB ks).length=ks.length):=ah (q01 ks)
  by_cases hlt:ks.length<2 * P
  ·have HZ:=ah (aj hK (aj hpar hlt))
   have h00:r+e=0→r=0∧e=0:=by omega
   clear hK hpar h00
   generalize hnn:ks.length=n at *
   have HM:=ah hnn
   clear hnn
   go_upto_if 19 with fail
   go_cut [9] from 11 to 92 (fun b wx=>∃ v:Nat,b=.int .u8 v∧v<256∧∃ nq,wx=wr.drewN nq)
   case first =>
    by_cases hp0:0<ps.length
    ·obtain⟨t0,hr⟩:∃ r,r=n % ps.length:=⟨_,rfl⟩
     have hrl:t0<ps.length:=by rw[hr];exact Nat.mod_lt _ hp0
     obtain⟨g,off,rfl,hcell⟩:=hc t0 ps[t0] (by simp[aB,hrl])
     have hb:=hps ps[t0] (List.getElem_mem hrl)
     have hcell1:wr.cell? ⟨g,off+t0,none⟩=some (.int .u8 (ps[t0]:Nat)):=aT.fV hcell
     obtain⟨d,hd⟩:∃ d,d=n / ps.length:=⟨_,rfl⟩
     obtain⟨t,ht⟩:∃ t,t=d % 5:=⟨_,rfl⟩
     have ht3:t<5:=by omega
     have e1:(n:Int).tmod (ps.length:Int)=(t0:Int):=by rw[hr,Int.tmod_eq_emod_of_nonneg (by omega)];simp
     have e2:(n:Int).tdiv (ps.length:Int)=(d:Int):=by rw[hd,Int.tdiv_eq_ediv_of_nonneg (by omega)];simp
     have e3:(d:Int).tmod 5=(t:Int):=by rw[ht,Int.tmod_eq_emod_of_nonneg (by omega)];simp
     have e4:IntKind.i64.wrap (1+(t:Int))=1+(t:Int):=IntWalk.i64_in _ (by omega)
     have e5:IntKind.u8.wrap (1+(t:Int))=1+(t:Int):=by rw[IntKind.wrap_u8];omega
     have e6:((1+(t:Int)) == 0)=false:=by rw[beq_eq_false_iff_ne];omega
     have e7:(0:Int)≤(t0:Int):=by omega
     have e8:(t0:Int)<(ps.length:Int):=by omega
     have HR:=ah (aj hr (aj hd ht))
     clear hr hd ht hc hps hcell
     generalize ps[t0]=y at *
     clear hrl
     generalize ps.length=m at *
     have e9:¬ m=0:=by omega
     have e10:¬ 1+(t:Int)=0:=by omega
     have hd2:d≤n:=by rw[HR.out.2.1];exact Nat.div_le_self _ _
     have e11:IntKind.i64.wrap (d:Int)=(d:Int):=IntWalk.i64_in _ (by omega)
     obtain⟨v,hv⟩:∃ v,v=y / (1+t):=⟨_,rfl⟩
     have hv2:v≤y:=by rw[hv];exact Nat.div_le_self _ _
     have e12:(y:Int).tdiv (1+(t:Int))=(v:Int):=by rw[hv,Int.tdiv_eq_ediv_of_nonneg (by omega)];simp
     have e13:IntKind.u8.wrap (v:Int)=(v:Int):=by rw[IntKind.wrap_u8];omega
     clear hv
     go_wp2_with fail
     go_quiet (fail)
     go_wp2
     go_meet
     exact⟨v,rfl,by omega,nq,rfl⟩
    ·have UU:ps.length=0:=by omega
     clear hown aT hsz hc hps hp0
     generalize ps.length=m at *
     subst UU
     go_wp2
     go_meet
     exact⟨0,rfl,by omega,0,rfl⟩
   case rest =>
    obtain⟨v,rfl,hv,nq,rfl⟩:=hcut
    clear hc hps
    have hown2:aF w.heap.size (wr.drewN nq) (.slice la n lc) (aB ks):=hown.keeps ((Keeps.refl (fun _=>False) wr).drewN nq) (fun _ _ h=>h)
    have hsz2:w.heap.size≤(wr.drewN nq).heap.size:=hsz
    have jM:Keeps (fun _=>False) w (wr.drewN nq):=aT.drewN nq
    clear hown aT hsz
    generalize wr.drewN nq=w2 at *
    obtain⟨h2,GA⟩:∃ h,h=v / 2:=⟨_,rfl⟩
    obtain⟨h4,ZQ⟩:∃ h,h=v / 4:=⟨_,rfl⟩
    have d2:(v:Int).tdiv 2=(h2:Int):=by rw[GA,Int.tdiv_eq_ediv_of_nonneg (by omega)];simp
    have d4:(v:Int).tdiv 4=(h4:Int):=by rw[ZQ,Int.tdiv_eq_ediv_of_nonneg (by omega)];simp
    have w2':IntKind.u8.wrap (h2:Int)=(h2:Int):=by rw[IntKind.wrap_u8];omega
    have w4':IntKind.u8.wrap (h4:Int)=(h4:Int):=by rw[IntKind.wrap_u8];omega
    have m0:(v:Int).tmod 2=0∨(v:Int).tmod 2=1:=by rw[Int.tmod_eq_emod_of_nonneg (by omega)];omega
    have m2:(h2:Int).tmod 2=0∨(h2:Int).tmod 2=1:=by rw[Int.tmod_eq_emod_of_nonneg (by omega)];omega
    have m4:(h4:Int).tmod 2=0∨(h4:Int).tmod 2=1:=by rw[Int.tmod_eq_emod_of_nonneg (by omega)];omega
    have hh:h2<128∧h4<64:=by omega
    clear GA ZQ
    have hpar:=HZ.out.2.1
    by_cases c1:r+e+n<2 * P
    ·have c1':(r:Int)+e<2 * P - n:=by omega
     clear hpar
     rcases m0 with q0|q0
     ·skip
      rcases m2 with q2|q2
      ·skip
       go_wp2_with (at_builtin;refine mP n rfl _ _ rfl w.heap.size (.slice la n lc) (aB ks) 0 HN w2.heap.size rfl rfl rfl hown2 mZ hsz2 ?_;intro g2 cap2 w3 hown3 hk3 hat hg)
       have HO:=ah hown3
       clear hown3
       go_wp2
       go_roundg (2 * P - (n+1))
       case measure=>rw[HG.out];omega
       case rel=>exact⟨n+1,r+1,e,rfl,by go_num,by go_num,by go_num,AnyM.push HM.out (by rfl) (fE.Ef HZ.out.1 (by rw[HM.out];omega)) jM hown2 HO.out hk3⟩
      ·skip
       go_wp2_with (at_builtin;refine mP n rfl _ _ rfl w.heap.size (.slice la n lc) (aB ks) 2 HN w2.heap.size rfl rfl rfl hown2 mZ hsz2 ?_;intro g2 cap2 w3 hown3 hk3 hat hg)
       have HO:=ah hown3
       clear hown3
       go_wp2
       go_roundg (2 * P - (n+1))
       case measure=>rw[HG.out];omega
       case rel=>exact⟨n+1,r,e+1,rfl,by go_num,by go_num,by go_num,AnyM.push HM.out (by rfl) (fE.Eh HZ.out.1 (by rw[HM.out];omega)) jM hown2 HO.out hk3⟩
     ·by_cases c3:r+e=0
      ·obtain rfl:r=0:=by omega
       obtain rfl:e=0:=by omega
       rcases m2 with q2|q2
       ·skip
        go_wp2_with (at_builtin;refine mP n rfl _ _ rfl w.heap.size (.slice la n lc) (aB ks) 0 HN w2.heap.size rfl rfl rfl hown2 mZ hsz2 ?_;intro g2 cap2 w3 hown3 hk3 hat hg)
        have HO:=ah hown3
        clear hown3
        go_wp2
        go_roundg (2 * P - (n+1))
        case measure=>rw[HG.out];omega
        case rel=>exact⟨n+1,0+1,0,rfl,by go_num,by go_num,by go_num,AnyM.push HM.out (by rfl) (fE.Ef HZ.out.1 (by rw[HM.out];omega)) jM hown2 HO.out hk3⟩
       ·skip
        go_wp2_with (at_builtin;refine mP n rfl _ _ rfl w.heap.size (.slice la n lc) (aB ks) 2 HN w2.heap.size rfl rfl rfl hown2 mZ hsz2 ?_;intro g2 cap2 w3 hown3 hk3 hat hg)
        have HO:=ah hown3
        clear hown3
        go_wp2
        go_roundg (2 * P - (n+1))
        case measure=>rw[HG.out];omega
        case rel=>exact⟨n+1,0,0+1,rfl,by go_num,by go_num,by go_num,AnyM.push HM.out (by rfl) (fE.Eh HZ.out.1 (by rw[HM.out];omega)) jM hown2 HO.out hk3⟩
      ·skip
       rcases r with _|r
       ·rcases e with _|e
        ·exfalso;omega
        ·skip
         go_wp2_with (at_builtin;refine mP n rfl _ _ rfl w.heap.size (.slice la n lc) (aB ks) 3 HN w2.heap.size rfl rfl rfl hown2 mZ hsz2 ?_;intro g2 cap2 w3 hown3 hk3 hat hg)
         have HO:=ah hown3
         clear hown3
         go_wp2
         go_roundg (2 * P - (n+1))
         case measure=>rw[HG.out];omega
         case rel=>exact⟨n+1,0,e,rfl,by go_num,by go_num,by go_num,AnyM.push HM.out (by rfl) (fE.vC HZ.out.1 ) jM hown2 HO.out hk3⟩
       ·rcases m4 with q4|q4
        ·skip
         go_wp2_with (at_builtin;refine mP n rfl _ _ rfl w.heap.size (.slice la n lc) (aB ks) 1 HN w2.heap.size rfl rfl rfl hown2 mZ hsz2 ?_;intro g2 cap2 w3 hown3 hk3 hat hg)
         have HO:=ah hown3
         clear hown3
         go_wp2
         go_roundg (2 * P - (n+1))
         case measure=>rw[HG.out];omega
         case rel=>exact⟨n+1,r,e,rfl,by go_num,by go_num,by go_num,AnyM.push HM.out (by rfl) (fE.vB HZ.out.1 ) jM hown2 HO.out hk3⟩
        ·rcases e with _|e
         ·skip
          go_wp2_with (at_builtin;refine mP n rfl _ _ rfl w.heap.size (.slice la n lc) (aB ks) 1 HN w2.heap.size rfl rfl rfl hown2 mZ hsz2 ?_;intro g2 cap2 w3 hown3 hk3 hat hg)
          have HO:=ah hown3
          clear hown3
          go_wp2
          go_roundg (2 * P - (n+1))
          case measure=>rw[HG.out];omega
          case rel=>exact⟨n+1,r,0,rfl,by go_num,by go_num,by go_num,AnyM.push HM.out (by rfl) (fE.vB HZ.out.1 ) jM hown2 HO.out hk3⟩
         ·skip
          go_wp2_with (at_builtin;refine mP n rfl _ _ rfl w.heap.size (.slice la n lc) (aB ks) 3 HN w2.heap.size rfl rfl rfl hown2 mZ hsz2 ?_;intro g2 cap2 w3 hown3 hk3 hat hg)
          have HO:=ah hown3
          clear hown3
          go_wp2
          go_roundg (2 * P - (n+1))
          case measure=>rw[HG.out];omega
          case rel=>exact⟨n+1,(r+1),e,rfl,by go_num,by go_num,by go_num,AnyM.push HM.out (by rfl) (fE.vC HZ.out.1 ) jM hown2 HO.out hk3⟩
    ·have c1':¬ (r:Int)+e<2 * P - n:=by omega
     have c3:¬ r+e=0:=by omega
     clear hpar
     rcases r with _|r
     ·rcases e with _|e
      ·exfalso;omega
      ·skip
       go_wp2_with (at_builtin;refine mP n rfl _ _ rfl w.heap.size (.slice la n lc) (aB ks) 3 HN w2.heap.size rfl rfl rfl hown2 mZ hsz2 ?_;intro g2 cap2 w3 hown3 hk3 hat hg)
       have HO:=ah hown3
       clear hown3
       go_wp2
       go_roundg (2 * P - (n+1))
       case measure=>rw[HG.out];omega
       case rel=>exact⟨n+1,0,e,rfl,by go_num,by go_num,by go_num,AnyM.push HM.out (by rfl) (fE.vC HZ.out.1 ) jM hown2 HO.out hk3⟩
     ·rcases m4 with q4|q4
      ·skip
       go_wp2_with (at_builtin;refine mP n rfl _ _ rfl w.heap.size (.slice la n lc) (aB ks) 1 HN w2.heap.size rfl rfl rfl hown2 mZ hsz2 ?_;intro g2 cap2 w3 hown3 hk3 hat hg)
       have HO:=ah hown3
       clear hown3
       go_wp2
       go_roundg (2 * P - (n+1))
       case measure=>rw[HG.out];omega
       case rel=>exact⟨n+1,r,e,rfl,by go_num,by go_num,by go_num,AnyM.push HM.out (by rfl) (fE.vB HZ.out.1 ) jM hown2 HO.out hk3⟩
      ·rcases e with _|e
       ·skip
        go_wp2_with (at_builtin;refine mP n rfl _ _ rfl w.heap.size (.slice la n lc) (aB ks) 1 HN w2.heap.size rfl rfl rfl hown2 mZ hsz2 ?_;intro g2 cap2 w3 hown3 hk3 hat hg)
        have HO:=ah hown3
        clear hown3
        go_wp2
        go_roundg (2 * P - (n+1))
        case measure=>rw[HG.out];omega
        case rel=>exact⟨n+1,r,0,rfl,by go_num,by go_num,by go_num,AnyM.push HM.out (by rfl) (fE.vB HZ.out.1 ) jM hown2 HO.out hk3⟩
       ·skip
        go_wp2_with (at_builtin;refine mP n rfl _ _ rfl w.heap.size (.slice la n lc) (aB ks) 3 HN w2.heap.size rfl rfl rfl hown2 mZ hsz2 ?_;intro g2 cap2 w3 hown3 hk3 hat hg)
        have HO:=ah hown3
        clear hown3
        go_wp2
        go_roundg (2 * P - (n+1))
        case measure=>rw[HG.out];omega
        case rel=>exact⟨n+1,(r+1),e,rfl,by go_num,by go_num,by go_num,AnyM.push HM.out (by rfl) (fE.vC HZ.out.1 ) jM hown2 HO.out hk3⟩
  ·have HF:=ah (aj (hK.done hlt) (aj hown aT))
   clear hK hown aT hc hps hpar HN
   go_wp2
   go_ret
   exact⟨_,ks,rfl,HF.out.2.1,HF.out.1,HF.out.2.2⟩
end
section
open Go.RowKit
theorem qcl(b:Nat)(v:Value)(ks:List Nat)(w:World)(h:bW w b v ks)(h4:∀ k ∈ ks,k<4)(hl:ks.length≤100000000) :
  Calls Tryz.prog 256 #[.pointer (some ⟨b,0,none⟩)] w (QI w ks) :=
 qiw _ ks w h4 hl (fun W k=>Ux b v ks W (h.keeps k (fun h=>h) (fun _ _ h=>h)))
  (fun W i k hk hi=>qio b v ks i k W (h.keeps hk (fun h=>h) (fun _ _ h=>h)) hi (by have:=h4 k (List.mem_of_getElem? hi);omega))
end
