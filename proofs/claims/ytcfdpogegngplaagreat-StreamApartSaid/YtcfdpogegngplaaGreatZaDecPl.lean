import Derived.Maps.Own
import Derived.Maps.OwnOps
import Derived.Maps.OwnSet
import Derived.Maps.Views
import Derived.Test.YtcfdpogegngplaaGreatZaWlk
import Derived.Test.YtcfdpogegngplaaGreatZaPerm
import Derived.Test.YtcfdpogegngplaaGreatZaPlans
import Derived.Test.YtcfdpogegngplaaGreatZaRight
set_option maxRecDepth 100000
set_option maxHeartbeats 4000000
namespace Go.Proofs.YtcfdpogegngplaaGreat
section
open Go.RowKit
theorem qkz {out:List (Nat × Nat)} {d k x:Nat} (h:fstK out (d / 2)=some x) (e:Nat):fstK out e=fstK (out ++ [(d,k)]) e:=by
 rw[q9a]
 by_cases he:d / 2=e
 ·subst he;rw[h]
 ·rw[if_neg he];cases fstK out e <;> rfl
end
section
open Go.RowKit
end
section
open Go.RowKit
def genS (ps:List (List Int)):Int:=(ps.map fun p=>p.getD 4 0).sum
theorem qbs {ps:List (List Int)} {j:Nat} {p:List Int} (h:ps[j]? = some p):genS (ps.take (j+1))=genS (ps.take j)+p.getD 4 0:=by
 unfold genS
 rw[q0e h,List.map_append,List.sum_append]
 simp
def Row5 (ps:List (List Int)):Prop:=∀ p ∈ ps,∃ z0 z1 z2 z3 z4:Int,p=[z0,z1,z2,z3,z4]∧-9000000≤z4∧z4≤9000000
theorem qgo {ps:List (List Int)} (h:Row5 ps):∀ j,j≤ps.length→-9000000 * (j:Int)≤genS (ps.take j)∧genS (ps.take j)≤9000000 * (j:Int):=by
 intro j
 induction j with
 | zero=>intro _;simp[genS]
 | succ j ih =>
  intro hj
  obtain⟨h1,h2⟩:=ih (by omega)
  have hp:=List.getElem?_eq_getElem (l:=ps) (i:=j) (by omega)
  rw[qbs hp]
  obtain⟨z0,z1,z2,z3,z4,he,h3,h4⟩:=h _ (List.mem_of_getElem? hp)
  rw[he]
  simp only [List.getD_cons_succ,List.getD_cons_zero]
  omega
theorem qe0 (s:List Nat) (hl:s.length≤1000000) (lone:Nat):Row5 (q0b s lone):=by
 intro p hp
 rcases List.mem_append.1 hp with hp|hp
 ·obtain⟨d,_,rfl⟩:=List.mem_map.1 hp
  have h1:=qaj s (cnL s) (cnum s.length (sg s) d) s.length
  have h2:=qaj (phiL s) (cnL s) (cnum s.length (sg s) d) s.length
  have h3:=qnq (cnL s) (cnum s.length (sg s) d) s.length
  refine⟨_,_,_,_,_,rfl,?_⟩
  unfold ptG ptV ptB ptE
  exact qf5 (M:=9000000) (by omega) (by omega)
 ·obtain⟨_,rfl⟩:=List.mem_replicate.1 hp
  exact⟨_,_,_,_,_,rfl,by decide,by decide⟩
theorem q2g (s:List Nat) (lone:Nat):(q0b s lone).length=cldr s.length (sg s) s.length+lone:=by
 unfold q0b;rw[List.length_append,q0m,List.length_replicate]
def EncR (s:List Nat) (lone:Nat) (rt:Int) (ks:List Nat) (c:Nat):Prop :=
 (cldr s.length (sg s) s.length+lone≠1∧c=8∧ks=[]) ∨
 (cldr s.length (sg s) s.length+lone=1∧genS (q0b s lone)≠0∧c=7∧ks=[]) ∨
 (cldr s.length (sg s) s.length+lone=1∧genS (q0b s lone)=0∧c=0∧s.length=0∧ks=[]) ∨
 (cldr s.length (sg s) s.length+lone=1∧genS (q0b s lone)=0∧c=0∧∃ root T:Nat,rt=root∧root<s.length∧WkEnd s.length (sg s) (vnum (sg s)) root T∧ks=kso (wlk (sg s) (vnum (sg s)) root T).2)
end
section
theorem PairW.own {ks:List Nat} {o i:Nat} (h:PairW ks 0 o i):OwnAt ks i o:=by
 obtain⟨h1,h2⟩:=h.DD
 have h3:=q2d h.closes
 have e:dd (2 * 0+1)=-1:=rfl
 rw[e] at h3
 exact⟨h.lt,h.opens,by omega,h2⟩
theorem q8f {n:Nat} {S T D:Nat→Nat} (hS:IsP n S) (hT:IsP n T) (hD:IsP n D) (hc:∀ i,i<n→S (D i)=D (T i)):ldr S n≤ldr T n:=by
 have hitr:∀ m i,i<n→itr S m (D i)=D (itr T m i):=by
  intro m i hi
  induction m with
  | zero=>rfl
  | succ m ih =>
   show S (itr S m (D i))=D (T (itr T m i))
   rw[ih,hc _ (hT.itr_lt hi m)]
 have h1:=q0t (((List.range n).filter fun x=>rep S x == x).map fun x=>rep T (invP D x)) ((List.range n).filter fun x=>rep T x == x) (by
  rw[List.Nodup,List.pairwise_map]
  have hn:((List.range n).filter fun x=>rep S x == x).Nodup:=List.Pairwise.filter _ List.nodup_range
  refine List.Pairwise.imp_of_mem (fun {x y} hx hy hxy e=>hxy ?_) hn
  simp only [List.mem_filter,List.mem_range,beq_iff_eq] at hx hy
  obtain⟨m,hm⟩:=(hT.rep_iff (hD.inv_lt hx.1) (hD.inv_lt hy.1)).1 e
  have h2:=hitr m _ (hD.inv_lt hx.1)
  rw[hm,hD.inv_to hx.1,hD.inv_to hy.1] at h2
  rw[← hx.2,← hy.2]
  exact (hS.rep_iff hx.1 hy.1).2 ⟨m,h2⟩) (fun z hz=>by
  obtain⟨x,hx,rfl⟩:=List.mem_map.1 hz
  simp only [List.mem_filter,List.mem_range,beq_iff_eq] at hx ⊢
  exact⟨hT.rep_lt (hD.inv_lt hx.1),hT.rep_rep (hD.inv_lt hx.1)⟩)
 rw[List.length_map] at h1
 exact h1
theorem qi9 {n:Nat} {D:Nat→Nat} (h:IsP n D):IsP n (invP D) :=
 ⟨fun _ hd=>h.inv_lt hd,fun d e hd he hh=>by rw[← h.inv_to hd,hh,h.inv_to he]⟩
theorem q7p {n:Nat} {S T D:Nat→Nat} (hS:IsP n S) (hT:IsP n T) (hD:IsP n D) (hc:∀ i,i<n→S (D i)=D (T i)):ldr S n=ldr T n:=by
 refine Nat.le_antisymm (q8f hS hT hD hc) (q8f hT hS (qi9 hD) (fun i hi=>?_))
 have h1:=hc _ (hD.inv_lt hi)
 rw[hD.inv_to hi] at h1
 rw[h1,hD.inv_of (hT.lt _ (hD.inv_lt hi))]
section
variable {ks:List Nat} (h:Wd ks)
include h
theorem Wd.decS:IsP ks.length (sg (decL ks)):=by
 have:=h.decL_isP
 rwa [q03] at this
theorem Wd.dec_nm {i:Nat} (hi:i<ks.length):sg (decL ks) (nmD ks i)=nmD ks (tn ks i):=by
 rw[qkf (h.nm_lt hi),h.sD_nm hi]
theorem Wd.nm_zero (hn:0<ks.length):nmD ks 0=0:=by
 obtain⟨s,hs,⟨h1,h2⟩|⟨h1,h2⟩⟩:=h.cases hn
 ·unfold nmD
  rw[q04 h1,if_pos (by omega)]
  simp[oc]
 ·have:=h2.lt;omega
theorem Wd.vert_nm {i j:Nat} (hi:i<ks.length) (hj:j<ks.length):vnum (sg (decL ks)) (nmD ks i)=vnum (sg (decL ks)) (nmD ks j)↔vx ks i=vx ks j:=by
 rw[h.decS.vnum_iff (h.nm_lt hi) (h.nm_lt hj),← h.sameO_vx hi hj]
 have hitr:∀ m,itr (sg (decL ks)) m (nmD ks i)=nmD ks (itr (tn ks) m i):=by
  intro m
  induction m with
  | zero=>rfl
  | succ m ih =>
   show sg (decL ks) (itr (sg (decL ks)) m (nmD ks i))=nmD ks (tn ks (itr (tn ks) m i))
   rw[ih,h.dec_nm (h.tn_isP.itr_lt hi m)]
 constructor
 ·rintro⟨m,hm⟩
  rw[hitr] at hm
  exact⟨m,h.nm_isP.inj _ _ (h.tn_isP.itr_lt hi m) hj hm⟩
 ·rintro⟨m,hm⟩
  exact⟨m,by rw[hitr,hm]⟩
theorem Wd.dec_walk (hC:q2e ks) (hn:0<ks.length):∀ j,j≤ks.length→wlk (sg (decL ks)) (vnum (sg (decL ks))) 0 j=(nmD ks (j % ks.length),(List.range j).map fun i=>(nmD ks i,ks.getD i 0)):=by
 intro j
 induction j with
 | zero =>
  intro _
  rw[Nat.zero_mod,h.nm_zero hn];rfl
 | succ j ih =>
  intro hj
  have ih:=ih (by omega)
  have hjl:j<ks.length:=by omega
  have hjm:j % ks.length=j:=Nat.mod_eq_of_lt hjl
  rw[hjm] at ih
  show wstep _ _ _ (wlk _ _ _ j)=_
  rw[ih]
  have hvis:∀ x,x<ks.length→(vis ((List.range j).map fun i=>(nmD ks i,ks.getD i 0)) (nmD ks x)↔x<j):=by
   intro x hx
   rw[q6i,List.map_map]
   simp only [List.mem_map,List.mem_range,Function.comp]
   constructor
   ·rintro⟨y,hy,he⟩
    have:=h.nm_isP.inj _ _ (by omega) hx he
    omega
   ·intro hxj
    exact⟨x,hxj,rfl⟩
  have hml:=h.mp_lt hjl
  have hmt:=h.nm_mate hjl
  have hnv:¬ vis ((List.range j).map fun i=>(nmD ks i,ks.getD i 0)) (nmD ks j):=fun e=>by have:=(hvis j hjl).1 e;omega
  have hkind:kindB (vnum (sg (decL ks))) 0 ((List.range j).map fun i=>(nmD ks i,ks.getD i 0)) (nmD ks j)=ks.getD j 0:=by
   obtain⟨s,hs,⟨h1,h2⟩|⟨h1,h2⟩⟩:=h.cases hjl
   ·rw[q04 h1]
    unfold kindB
    rcases q2u hnv with⟨k,hf,hm⟩|⟨hf,hm⟩
    ·exfalso
     have:vis ((List.range j).map fun i=>(nmD ks i,ks.getD i 0)) (nmD ks (mp ks j)):=⟨k,by rw[hmt];exact hm⟩
     have:=(hvis _ hml).1 this
     have:=h2.lt
     omega
    ·rw[hf]
     simp only
     rw[← hmt]
     have hmet:metB (vnum (sg (decL ks))) 0 ((List.range j).map fun i=>(nmD ks i,ks.getD i 0)) (vnum (sg (decL ks)) (nmD ks (mp ks j)))=true↔(vx ks (mp ks j)=0∨∃ o,o<j∧ks[o]? = some 0∧vx ks (mp ks j)=vo ks o):=by
      unfold metB
      rw[Bool.or_eq_true,beq_iff_eq,List.any_eq_true]
      have e0:=h.vert_nm hml hn
      rw[h.nm_zero hn,h.vx_zero] at e0
      rw[e0]
      refine or_congr Iff.rfl ⟨?_,?_⟩
      ·rintro⟨⟨x,k⟩,hx,hk⟩
       obtain⟨o,ho,he⟩:=List.mem_map.1 hx
       have hol:=List.mem_range.1 ho
       simp only [Prod.mk.injEq] at he
       obtain⟨rfl,rfl⟩:=he
       rw[Bool.and_eq_true,beq_iff_eq,beq_iff_eq] at hk
       have hk0:ks.getD o 0=0:=hk.1
       have hv:vnum (sg (decL ks)) (mt (nmD ks o))=vnum (sg (decL ks)) (nmD ks (mp ks j)):=hk.2
       have hog:=List.getElem?_eq_getElem (l:=ks) (i:=o) (by omega)
       rw[q04 hog] at hk0
       rw[hk0] at hog
       refine⟨o,hol,hog,?_⟩
       rw[← h.nm_mate (by omega:o<ks.length)] at hv
       rw[← (h.vert_nm (h.mp_lt (by omega:o<ks.length)) hml).1 hv]
       obtain⟨s',hs',⟨g1,g2⟩|⟨g1,g2⟩⟩:=h.cases (i:=o) (by omega)
       ·rw[hog] at g1
        obtain rfl:s'=0:=by have:=Option.some.inj g1;omega
        exact h.vx_own (Nat.le_of_lt g2.le) g2.own
       ·rw[hog] at g1
        have:=Option.some.inj g1;omega
      ·rintro⟨o,ho,hog,hv⟩
       refine⟨(nmD ks o,ks.getD o 0),List.mem_map.2 ⟨o,List.mem_range.2 ho,rfl⟩,?_⟩
       rw[Bool.and_eq_true,beq_iff_eq,beq_iff_eq]
       refine⟨q04 hog,?_⟩
       show vnum (sg (decL ks)) (mt (nmD ks o))=_
       rw[← h.nm_mate (by omega:o<ks.length)]
       refine (h.vert_nm (h.mp_lt (by omega:o<ks.length)) hml).2 ?_
       rw[hv]
       obtain⟨s',hs',⟨g1,g2⟩|⟨g1,g2⟩⟩:=h.cases (i:=o) (by omega)
       ·rw[hog] at g1
        obtain rfl:s'=0:=by have:=Option.some.inj g1;omega
        exact h.vx_own (Nat.le_of_lt g2.le) g2.own
       ·rw[hog] at g1
        have:=Option.some.inj g1;omega
     have hs01:s=0∨s=1:=by omega
     rcases hs01 with rfl|rfl
     ·have hv:vx ks (mp ks j)=vo ks j:=h.vx_own (Nat.le_of_lt h2.le) h2.own
      rw[if_neg (fun e=>?_)]
      rcases hmet.1 e with e|⟨o,ho,hog,e⟩
      ·rw[hv] at e
       unfold vo at e;omega
      ·rw[hv] at e
       have:=qmh h1 hog e
       omega
     ·rw[if_pos (hmet.2 ?_)]
      rcases h.own_or (j:=mp ks j) (by omega) with e|⟨o,ho⟩
      ·exact .inl (h.vx_none (by omega) e)
      ·refine .inr ⟨o,?_,ho.opens,h.vx_own (by omega) ho⟩
       obtain⟨r,hr⟩:=h.bal.owner (i:=mp ks j) (by omega)
       have hc:=hC (mp ks j) j r h2.closes (h.mate hjl).symm hr
       have hro:r=(o:Nat):=by
        rcases Int.lt_or_le r 0 with hneg|hpos
        ·exfalso
         rcases hr with⟨e1,_⟩|⟨_,o',n',_,_,rfl⟩
         ·rw[ex_DD (by omega)] at e1
          have:=ho.hit
          have:=h.dpos (p:=o) (by have:=ho.lt;omega)
          omega
         ·omega
        ·obtain⟨m,rfl⟩:=Int.eq_ofNat_of_zero_le hpos
         rw[(hr.own (by omega)).unique ho]
       rw[hro] at hc
       have hne:o≠j:=fun e=>by
        have:=ho.opens
        rw[e,h1] at this
        have:=Option.some.inj this;omega
       omega
   ·rw[q04 h1]
    unfold kindB
    rcases q2u hnv with⟨k,hf,hm⟩|⟨hf,hm⟩
    ·rw[hf]
     simp only
     rw[← hmt] at hm
     obtain⟨x,hx,he⟩:=List.mem_map.1 hm
     have hxl:=List.mem_range.1 hx
     simp only [Prod.mk.injEq] at he
     obtain⟨e1,e2⟩:=he
     have:=h.nm_isP.inj _ _ (by omega) hml e1
     subst this
     rw[← e2,q04 h2.opens]
    ·exfalso
     apply hm
     rw[← hmt]
     exact (hvis _ hml).2 h2.lt
  have hst:wstep (sg (decL ks)) (vnum (sg (decL ks))) 0 (nmD ks j,(List.range j).map fun i=>(nmD ks i,ks.getD i 0))=(sg (decL ks) (if ks.getD j 0<2 then mt (nmD ks j) else nmD ks j),((List.range j).map fun i=>(nmD ks i,ks.getD i 0)) ++ [(nmD ks j,ks.getD j 0)]):=by
   unfold wstep
   simp only [hkind]
  rw[hst,List.range_succ,List.map_append]
  congr 1
  by_cases h2:ks.getD j 0<2
  ·rw[if_pos h2,← hmt,h.dec_nm hml]
   unfold tn
   rw[if_pos ((h.tree_mate hjl).2 h2),h.mp_mp hjl]
  ·rw[if_neg h2,h.dec_nm hjl]
   unfold tn
   rw[if_neg h2]
theorem Wd.dec_kso (hC:q2e ks) (hn:0<ks.length):kso (wlk (sg (decL ks)) (vnum (sg (decL ks))) 0 ks.length).2=ks:=by
 rw[h.dec_walk hC hn _ (Nat.le_refl _)]
 unfold kso
 rw[List.map_map]
 apply List.ext_getElem?
 intro i
 rcases Nat.lt_or_ge i ks.length with hi|hi
 ·rw[List.getElem?_map,List.getElem?_range hi]
  simp[List.getD_eq_getElem?_getD,hi]
 ·rw[List.getElem?_eq_none (by simp;omega),List.getElem?_eq_none hi]
end
theorem WkEnd.unique {n:Nat} {S vert:Nat→Nat} {root T T':Nat} (h:WkEnd n S vert root T) (h':WkEnd n S vert root T'):T=T':=by
 classical
 have h1:=h.total (fun x=>decide (Conn n S root x)) (fun x _=>by simp)
 have h2:=h'.total (fun x=>decide (Conn n S root x)) (fun x _=>by simp)
 omega
section
variable {ks:List Nat} (h:Wd ks) (hC:q2e ks) (hn:0<ks.length)
include h hC hn
theorem Wd.dec_end:WkEnd ks.length (sg (decL ks)) (vnum (sg (decL ks))) 0 ks.length∧∀ x,x<ks.length→Conn ks.length (sg (decL ks)) 0 x:=by
 have hP:=h.decS
 obtain⟨T,hE,hend,hT⟩:=q7z hP h.even2 (fun x y hx hy=>hP.vnum_iff hx hy) hn
 have hTn:T=ks.length:=by
  rcases Nat.lt_trichotomy T ks.length with hlt|heq|hlt
  ·exfalso
   rw[h.dec_walk hC hn T (by omega),Nat.mod_eq_of_lt hlt] at hend
   have h1:=h.nm_isP.inj T 0 hlt hn (by rw[h.nm_zero hn];exact hend)
   have:=hT.pos
   omega
  ·exact heq
  ·exfalso
   have:=hE.le
   omega
 subst hTn
 refine⟨hE,fun x hx=>?_⟩
 refine (hE.cov x hx).2 ?_
 rw[h.dec_walk hC hn _ (Nat.le_refl _),q6i,List.map_map]
 obtain⟨i,hi,rfl⟩:=h.nm_isP.back hx
 exact List.mem_map.2 ⟨i,List.mem_range.2 hi,rfl⟩
end
theorem qff {n:Nat} {S:Nat→Nat} (h:IsP n S) (he:n % 2=0) (hn:0<n) (hc:∀ x,x<n→Conn n S 0 x):cldr n S n=1:=by
 have h0:∀ x,x<n→crep n S x=0:=fun x hx=>Nat.le_zero.1 (q20 (h.conn_symm he hn (hc x hx)))
 have h1:∀ m,m≤n→cldr n S m=if m=0 then 0 else 1:=by
  intro m
  induction m with
  | zero=>intro _;rfl
  | succ m ih =>
   intro hm
   rw[q0u,ih (by omega),h0 m (by omega)]
   by_cases e:m=0
   ·subst e;rfl
   ·rw[if_neg e,if_neg (by omega),if_neg (by omega)]
 rw[h1 n (Nat.le_refl _),if_neg (by omega)]
theorem qbt {s:List Nat} (h:IsP s.length (sg s)) (he:s.length % 2=0) (hc:cldr s.length (sg s) s.length=1) :
  genS (q0b s 0)=(2 - ((ldr (sg s) s.length:Nat):Int)+((s.length / 2:Nat):Int) - ((ldr (sg (phiL s)) s.length:Nat):Int)).tdiv 2:=by
 have hcn:∀ x,x<s.length→sg (cnL s) x=0:=fun x hx=>by
  rw[q31 hx]
  have:=h.cnum_lt he hx
  omega
 have hof:∀ l:List Nat,ofN l (cnL s) 0 s.length=ldr (sg l) s.length:=fun l=>by
  unfold ofN ldr
  congr 1
  refine List.filter_congr (fun x hx=>?_)
  rw[hcn x (List.mem_range.1 hx)]
  simp
 have hct:cntN (cnL s) 0 s.length=s.length:=by
  unfold cntN
  rw[List.filter_eq_self.2 (fun x hx=>by rw[hcn x (List.mem_range.1 hx)];rfl),List.length_range]
 obtain⟨p,hp⟩:∃ p,q1g s s.length=[p]:=by
  have:=q0m s s.length
  rw[hc] at this
  exact List.length_eq_one_iff.1 this
 have hp0:p ∈ q1g s s.length:=by rw[hp];simp
 obtain⟨d,hd,rfl⟩:=List.mem_map.1 hp0
 have hdn:=List.mem_range.1 (List.mem_filter.1 hd).1
 have hcd:cnum s.length (sg s) d=0:=by have:=h.cnum_lt he hdn;omega
 unfold q0b
 rw[hp]
 unfold genS partI ptG ptV ptB ptE
 rw[hcd,hof,hof,hct]
 simp
section
variable {ks:List Nat} (h:Wd ks) (hC:q2e ks) (hn:0<ks.length)
include h hC hn
theorem Wd.dec_planar:cldr (decL ks).length (sg (decL ks)) (decL ks).length=1∧genS (q0b (decL ks) 0)=0:=by
 have hP:=h.decL_isP
 have hev:=h.even2
 have hc:=qff h.decS hev hn (h.dec_end hC hn).2
 have hl:=q03 ks
 rw[← hl] at hc
 refine⟨hc,?_⟩
 rw[qbt hP (by rw[hl];exact hev) hc,hl]
 have e1:ldr (sg (decL ks)) ks.length=ldr (tn ks) ks.length:=q7p h.decS h.tn_isP h.nm_isP (fun i hi=>h.dec_nm hi)
 have hph:IsP ks.length (sg (phiL (decL ks))):=by
  have:=q6b hP (by rw[hl];exact hev)
  rwa [q08,hl] at this
 have e2:ldr (sg (phiL (decL ks))) ks.length=ldr (ph ks) ks.length:=q7p hph h.ph_isP h.nm_isP (fun i hi=>by
  have h1:sg (phiL (decL ks)) (nmD ks i)=sg (decL ks) (mt (nmD ks i)):=by
   simp[sg,phiL,hl,h.nm_lt hi]
  rw[h1,← h.nm_mate hi,h.dec_nm (h.mp_lt hi)]
  rfl)
 have h3:=h.euler hn
 rw[e1,e2]
 have:(2 - ((ldr (tn ks) ks.length:Nat):Int)+((ks.length / 2:Nat):Int) - ((ldr (ph ks) ks.length:Nat):Int))=0:=by omega
 rw[this];rfl
end
theorem EncR.unique {s:List Nat} {lone:Nat} {rt:Int} {ks ks':List Nat} {c c':Nat} (h:EncR s lone rt ks c) (h':EncR s lone rt ks' c'):ks=ks'∧c=c':=by
 rcases h with⟨a1,a2,a3⟩|⟨a1,a2,a3,a4⟩|⟨a1,a2,a3,a4,a5⟩|⟨a1,a2,a3,r,T,a4,a5,a6,a7⟩ <;>
  rcases h' with⟨b1,b2,b3⟩|⟨b1,b2,b3,b4⟩|⟨b1,b2,b3,b4,b5⟩|⟨b1,b2,b3,r',T',b4,b5,b6,b7⟩
 ·exact⟨by rw[a3,b3],by omega⟩
 ·exact absurd b1 a1
 ·exact absurd b1 a1
 ·exact absurd b1 a1
 ·exact absurd a1 b1
 ·exact⟨by rw[a4,b4],by omega⟩
 ·exact absurd b2 a2
 ·exact absurd b2 a2
 ·exact absurd a1 b1
 ·exact absurd a2 b2
 ·exact⟨by rw[a5,b5],by omega⟩
 ·omega
 ·exact absurd a1 b1
 ·exact absurd a2 b2
 ·omega
 ·obtain rfl:r=r':=by omega
  obtain rfl:=a6.unique b6
  exact⟨by rw[a7,b7],by omega⟩
theorem Wd.dec_enc {ks:List Nat} (h:Wd ks) (hC:q2e ks):EncR (decL ks) (if ks.length=0 then 1 else 0) (if ks.length=0 then -1 else 0) ks 0:=by
 by_cases hn:ks.length=0
 ·rw[if_pos hn,if_pos hn]
  have hks:ks=[]:=List.eq_nil_of_length_eq_zero hn
  subst hks
  have hd:decL []=[]:=rfl
  rw[hd]
  refine .inr (.inr (.inl ⟨rfl,?_,rfl,rfl,rfl⟩))
  simp[q0b,q1g,genS]
 ·rw[if_neg hn,if_neg hn]
  obtain⟨h1,h2⟩:=h.dec_planar hC (by omega)
  have h3:=(h.dec_end hC (by omega)).1
  refine .inr (.inr (.inr ⟨by rw[h1],h2,rfl,0,ks.length,rfl,by rw[q03];omega,by rw[q03];exact h3,(h.dec_kso hC (by omega)).symm⟩))
theorem WRight.wd {ks:List Nat} (h:WRight ks):Wd ks:=⟨h.k4,h.bal⟩
theorem WRight.canon {ks:List Nat} (h:WRight ks):q2e ks:=fun _ _ _ h1 h2 h3=>h.check h1 h2 h3
end
section
theorem q7q (a b:List Nat) (k:Nat):cntK (a ++ b) k=cntK a k+cntK b k:=by
 unfold cntK;rw[List.filter_append,List.length_append]
theorem q2t {a b:List Nat} {p:Nat} (hp:p≤a.length):DD (a ++ b) p=DD a p:=by
 unfold DD;rw[List.take_append_of_le_length hp]
theorem q52 {a b:List Nat} {p:Nat} (hp:p≤a.length):BB (a ++ b) p=BB a p:=by
 unfold BB;rw[List.take_append_of_le_length hp]
theorem q33 {a b:List Nat} {q:Nat}:DD (a ++ b) (a.length+q)=DD a a.length+DD b q:=by
 unfold DD;rw[List.take_length_add_append,q7q,q7q,List.take_length];omega
theorem q3y {a b:List Nat} {q:Nat}:BB (a ++ b) (a.length+q)=BB a a.length+BB b q:=by
 unfold BB;rw[List.take_length_add_append,q7q,q7q,List.take_length];omega
theorem WRight.app {a b:List Nat} (ha:WRight a) (hb:WRight b):WRight (a ++ b):=by
 have h1:=ha.dend
 have h2:=ha.bend
 refine { k4:=?_,dpos:=?_,bpos:=?_,right:=?_,dend:=?_,bend:=?_ }
 ·intro k hk
  rcases List.mem_append.1 hk with h|h
  ·exact ha.k4 k h
  ·exact hb.k4 k h
 ·intro p hp
  rw[List.length_append] at hp
  rcases Nat.le_total p a.length with h|h
  ·rw[q2t h];exact ha.dpos p h
  ·obtain⟨q,rfl⟩:=Nat.exists_eq_add_of_le h
   rw[q33,h1];have:=hb.dpos q (by omega);omega
 ·intro p hp
  rw[List.length_append] at hp
  rcases Nat.le_total p a.length with h|h
  ·rw[q52 h];exact ha.bpos p h
  ·obtain⟨q,rfl⟩:=Nat.exists_eq_add_of_le h
   rw[q3y,h2];have:=hb.bpos q (by omega);omega
 ·intro i hi o ho
  rcases Nat.lt_or_ge i a.length with h|h
  ·have hlt:=ho.lt
   rw[List.getElem?_append_left h] at hi
   have hoa:OwnAt a i o:=by
    obtain⟨q1,q2,q3,q4⟩:=ho
    rw[List.getElem?_append_left (by omega)] at q2
    rw[q2t (by omega),q2t (by omega)] at q3
    refine⟨q1,q2,q3,fun p hp1 hp2=>?_⟩
    have:=q4 p hp1 hp2
    rwa [q2t (by omega),q2t (by omega)] at this
   rw[q52 (by omega),q52 (by omega)]
   exact ha.right i hi o hoa
  ·obtain⟨j,rfl⟩:=Nat.exists_eq_add_of_le h
   rw[List.getElem?_append_right (by omega),Nat.add_sub_cancel_left] at hi
   have hjl:=q01 hi
   obtain⟨q1,q2,q3,q4⟩:=ho
   rcases Nat.lt_or_ge o a.length with h5|h5
   ·exfalso
    have:=q4 a.length h5 (by omega)
    rw[q2t (by omega),q2t (Nat.le_refl _),h1] at this
    have:=ha.dpos o (by omega)
    omega
   ·obtain⟨u,rfl⟩:=Nat.exists_eq_add_of_le h5
    rw[List.getElem?_append_right (by omega),Nat.add_sub_cancel_left] at q2
    rw[q33,q33] at q3
    have hob:OwnAt b j u:=⟨by omega,q2,by omega,fun p hp1 hp2=>by
     have:=q4 (a.length+p) (by omega) (by omega)
     rw[q33,q33] at this
     omega⟩
    have:=hb.right j hi u hob
    rw[show a.length+u+1=a.length+(u+1) by omega,q3y,q3y]
    omega
 ·rw[List.length_append,q33,h1,hb.dend];rfl
 ·rw[List.length_append,q3y,h2,hb.bend];rfl
end
section
structure CnA (n:Nat) (D:Nat→Nat) (ks:List Nat):Prop where
 wd:Wd ks
 len:ks.length=n
 dP:IsP n D
 mates:∀ i,i<n→D (mp ks i)=mt (D i)
theorem Wd.mp_sort {ks:List Nat} (h:Wd ks) {i:Nat} (hi:i<ks.length):ks.getD (mp ks i) 0<2↔ks.getD i 0<2:=by
 obtain⟨t,ht,⟨h1,h2⟩|⟨h1,h2⟩⟩:=h.cases (i:=i) hi
 ·have h3:=h2.closes
  rw[List.getD_eq_getElem?_getD,h3,List.getD_eq_getElem?_getD,h1,Option.getD_some,Option.getD_some];omega
 ·have h3:=h2.opens
  rw[List.getD_eq_getElem?_getD,h3,List.getD_eq_getElem?_getD,h1,Option.getD_some,Option.getD_some];omega
section
variable {n:Nat} {D:Nat→Nat} {ks:List Nat} (k:CnA n D ks)
include k
def CJ (n:Nat) (D:Nat→Nat) (ks:List Nat) (j:Nat) (zs:List Int):Prop:=∀ i,i<n→zs[D i]? = some (if i<j∨mp ks i<j then (nmD ks i:Int) else -1)
theorem CnA.zeroJ:CJ n D ks 0 (List.replicate n (-1)):=fun i hi=>by
 rw[if_neg (by omega),List.getElem?_replicate,if_pos (k.dP.lt i hi)]
theorem CnA.mate_lt {j:Nat} (hj:j<n):(ks.getD j 0 % 2=0∧j<mp ks j)∨(ks.getD j 0 % 2=1∧mp ks j<j):=by
 obtain⟨t,ht,⟨h1,h2⟩|⟨h1,h2⟩⟩:=k.wd.cases (i:=j) (by rw[k.len];exact hj)
 ·exact .inl ⟨by rw[q04 h1];omega,h2.lt⟩
 ·exact .inr ⟨by rw[q04 h1];omega,h2.lt⟩
theorem CnA.keepJ {j:Nat} {zs:List Int} (hj:j<n) (hm:mp ks j<j) (h:CJ n D ks j zs):CJ n D ks (j+1) zs:=fun i hi=>by
 rw[h i hi]
 have hil:i<ks.length:=by rw[k.len];exact hi
 have hmm:=k.wd.mp_mp hil
 congr 1
 by_cases h1:i<j∨mp ks i<j
 ·rw[if_pos h1,if_pos (by omega)]
 ·rw[if_neg h1,if_neg]
  rintro (h2|h2)
  ·obtain rfl:i=j:=by omega
   exact h1 (.inr hm)
  ·have e:mp ks i=j:=by omega
   rw[e] at hmm
   omega
theorem CnA.stepJ {j:Nat} {zs:List Int} (hj:j<n) (hl:zs.length=n) (hm:j<mp ks j) (h:CJ n D ks j zs):CJ n D ks (j+1) ((zs.set (D j) (nmD ks j:Int)).set (mt (D j)) ((nmD ks j:Int)+1)):=fun i hi=>by
 have hjl:j<ks.length:=by rw[k.len];exact hj
 have hil:i<ks.length:=by rw[k.len];exact hi
 have hml:mp ks j<n:=by rw[← k.len];exact k.wd.mp_lt hjl
 have hmm:=k.wd.mp_mp hil
 have hmj:=k.wd.mp_mp hjl
 have hev:ks.getD j 0 % 2=0:=by
  rcases k.mate_lt hj with h1|h1
  ·exact h1.1
  ·omega
 have hod:ks.getD (mp ks j) 0 % 2=1:=by
  rcases k.mate_lt hml with h1|h1
  ·rw[hmj] at h1;omega
  ·exact h1.1
 rw[← k.mates j hj,List.getElem?_set,List.length_set]
 by_cases h1:D (mp ks j)=D i
 ·have e:=k.dP.inj _ _ hml hi h1
  rw[if_pos h1,if_pos (by rw[hl];exact k.dP.lt _ hml),← e,if_pos (.inr (by rw[hmj];omega))]
  congr 1
  unfold nmD
  rw[if_pos hev,if_neg (by omega),hmj]
  omega
 ·rw[if_neg h1,List.getElem?_set]
  by_cases h2:D j=D i
  ·have e:=k.dP.inj _ _ hj hi h2
   rw[if_pos h2,if_pos (by rw[hl];exact k.dP.lt _ hj),← e,if_pos (.inl (by omega))]
  ·rw[if_neg h2,h i hi]
   congr 1
   have h3:¬ i=j:=fun e=>h2 (by rw[e])
   have h4:¬ mp ks i=j:=fun e=>h1 (by rw[← e,hmm])
   by_cases h5:i<j∨mp ks i<j
   ·rw[if_pos h5,if_pos (by omega)]
   ·rw[if_neg h5,if_neg (by omega)]
noncomputable def psL (n:Nat) (D:Nat→Nat) (ks:List Nat):List Nat:=(List.range n).map fun x=>nmD ks (invP D x)
omit k in
theorem q2l (n:Nat) (D:Nat→Nat) (ks:List Nat):(psL n D ks).length=n:=by simp[psL]
theorem CnA.sg_ps {i:Nat} (hi:i<n):sg (psL n D ks) (D i)=nmD ks i:=by
 have h1:=k.dP.lt i hi
 unfold sg psL
 rw[List.getD_eq_getElem?_getD,List.getElem?_map,List.getElem?_range h1]
 show nmD ks (invP D (D i))=_
 rw[k.dP.inv_of hi]
theorem CnA.ps_all {x:Nat} (hx:x<n):∃ i,i<n∧D i=x∧sg (psL n D ks) x=nmD ks i :=
 ⟨invP D x,k.dP.inv_lt hx,k.dP.inv_to hx,by have:=k.sg_ps (k.dP.inv_lt hx);rwa [k.dP.inv_to hx] at this⟩
theorem CnA.doneJ {zs:List Int} (hl:zs.length=n) (h:CJ n D ks n zs):zs=nats (psL n D ks):=by
 apply List.ext_getElem?
 intro x
 rcases Nat.lt_or_ge x n with hx|hx
 ·obtain⟨i,hi,e,h1⟩:=k.ps_all hx
  have h2:=h i hi
  rw[e,if_pos (.inl hi)] at h2
  rw[h2,q4d (by rw[q2l];exact hx),h1]
 ·rw[List.getElem?_eq_none (by omega),List.getElem?_eq_none (by rw[q02,q2l];omega)]
theorem CnA.nm_lt {i:Nat} (hi:i<n):nmD ks i<n:=by
 have:=k.wd.nm_lt (i:=i) (by rw[k.len];exact hi)
 rwa [k.len] at this
theorem CnA.ps_isP:IsP n (sg (psL n D ks)):=by
 refine⟨fun x hx=>?_,fun x y hx hy he=>?_⟩
 ·obtain⟨i,hi,_,h1⟩:=k.ps_all hx
  rw[h1];exact k.nm_lt hi
 ·obtain⟨i,hi,e1,h1⟩:=k.ps_all hx
  obtain⟨j,hj,e2,h2⟩:=k.ps_all hy
  rw[h1,h2] at he
  rw[← e1,← e2,k.wd.nm_isP.inj i j (by rw[k.len];exact hi) (by rw[k.len];exact hj) he]
theorem CnA.ps_mate {x:Nat} (hx:x<n):sg (psL n D ks) (mt x)=mt (sg (psL n D ks) x):=by
 obtain⟨i,hi,e,h1⟩:=k.ps_all hx
 have hil:i<ks.length:=by rw[k.len];exact hi
 rw[h1,← e,← k.mates i hi,k.sg_ps (by rw[← k.len];exact k.wd.mp_lt hil),k.wd.nm_mate hil]
theorem CnA.next_even {j:Nat} (hj:j<n) (hm:j<mp ks j):nmD ks j=2 * oc ks j∧oc ks (j+1)=oc ks j+1:=by
 have hjl:j<ks.length:=by rw[k.len];exact hj
 have hev:ks.getD j 0 % 2=0:=by
  rcases k.mate_lt hj with h1|h1
  ·exact h1.1
  ·omega
 refine⟨by unfold nmD;rw[if_pos hev],?_⟩
 have hk:=List.getElem?_eq_getElem hjl
 rw[q04 hk] at hev
 rw[q4e hk,if_pos hev]
theorem CnA.next_odd {j:Nat} (hj:j<n) (hm:mp ks j<j):oc ks (j+1)=oc ks j:=by
 have hjl:j<ks.length:=by rw[k.len];exact hj
 have hev:ks.getD j 0 % 2=1:=by
  rcases k.mate_lt hj with h1|h1
  ·omega
  ·exact h1.1
 have hk:=List.getElem?_eq_getElem hjl
 rw[q04 hk] at hev
 rw[q4e hk,if_neg (by omega)];rfl
end
end
section
theorem Wd.mp_tree2 {ks:List Nat} (h:Wd ks) {i:Nat} (hi:i<ks.length):ks.getD (mp ks i) 0<2↔ks.getD i 0<2:=by
 obtain⟨t,ht,⟨h1,h2⟩|⟨h1,h2⟩⟩:=h.cases (i:=i) hi
 ·have h3:=h2.closes
  rw[List.getD_eq_getElem?_getD,h3,List.getD_eq_getElem?_getD,h1,Option.getD_some,Option.getD_some];omega
 ·have h3:=h2.opens
  rw[List.getD_eq_getElem?_getD,h3,List.getD_eq_getElem?_getD,h1,Option.getD_some,Option.getD_some];omega
section
variable {ks:List Nat} (h:Wd ks) (hn:0<ks.length)
include h hn
theorem Wd.dec_conn:∀ x,x<ks.length→Conn ks.length (sg (decL ks)) 0 x:=by
 have key:∀ i,i<ks.length→Conn ks.length (sg (decL ks)) 0 (nmD ks i):=by
  intro i
  induction i with
  | zero=>intro _;rw[h.nm_zero hn];exact Conn.refl _ _ _
  | succ i ih =>
   intro hi
   have h1:=ih (by omega)
   have hmod:(i+1) % ks.length=i+1:=Nat.mod_eq_of_lt hi
   by_cases ht:ks.getD i 0<2
   ·have hm:=h.mp_lt (i:=i) (by omega)
    have h2:tn ks (mp ks i)=i+1:=by
     unfold tn
     rw[if_pos ((h.mp_tree2 (by omega)).2 ht),h.mp_mp (by omega),hmod]
    have h3:=h1.trans (Conn.mate (h.nm_lt (i:=i) (by omega)))
    rw[← h.nm_mate (by omega)] at h3
    have h4:=h3.trans (Conn.turn (S:=sg (decL ks)) (h.nm_lt hm))
    rwa [h.dec_nm hm,h2] at h4
   ·have h2:tn ks i=i+1:=by
     unfold tn
     rw[if_neg ht,hmod]
    have h4:=h1.trans (Conn.turn (S:=sg (decL ks)) (h.nm_lt (i:=i) (by omega)))
    rwa [h.dec_nm (by omega),h2] at h4
 intro x hx
 have:=key _ (h.nm_isP.inv_lt hx)
 rwa [h.nm_isP.inv_to hx] at this
theorem Wd.dec_plane1:cldr (decL ks).length (sg (decL ks)) (decL ks).length=1∧genS (q0b (decL ks) 0)=0:=by
 have hP:=h.decL_isP
 have hev:=h.even2
 have hc:=qff h.decS hev hn (h.dec_conn hn)
 have hl:=q03 ks
 rw[← hl] at hc
 refine⟨hc,?_⟩
 rw[qbt hP (by rw[hl];exact hev) hc,hl]
 have e1:ldr (sg (decL ks)) ks.length=ldr (tn ks) ks.length:=q7p h.decS h.tn_isP h.nm_isP (fun i hi=>h.dec_nm hi)
 have hph:IsP ks.length (sg (phiL (decL ks))):=by
  have:=q6b hP (by rw[hl];exact hev)
  rwa [q08,hl] at this
 have e2:ldr (sg (phiL (decL ks))) ks.length=ldr (ph ks) ks.length:=q7p hph h.ph_isP h.nm_isP (fun i hi=>by
  have h1:sg (phiL (decL ks)) (nmD ks i)=sg (decL ks) (mt (nmD ks i)):=by
   simp[sg,phiL,hl,h.nm_lt hi]
  rw[h1,← h.nm_mate hi,h.dec_nm (h.mp_lt hi)]
  rfl)
 have h3:=h.euler hn
 rw[e1,e2]
 have:(2 - ((ldr (tn ks) ks.length:Nat):Int)+((ks.length / 2:Nat):Int) - ((ldr (ph ks) ks.length:Nat):Int))=0:=by omega
 rw[this];rfl
end
end
end Go.Proofs.YtcfdpogegngplaaGreat
