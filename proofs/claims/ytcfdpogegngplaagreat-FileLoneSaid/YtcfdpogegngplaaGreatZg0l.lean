import Derived.Test.YtcfdpogegngplaaGreatZg08
set_option maxRecDepth 100000
set_option maxHeartbeats 4000000
namespace Go.Proofs.YtcfdpogegngplaaGreat
section
open Go.RowKit
theorem qm7{out:List (Nat × Nat)}{d k x:Nat}(h:iK out (d / 2)=some x)(e:Nat):iK out e=iK (out ++ [(d,k)]) e:=by
 rw[Vp]
 by_cases he:d / 2=e
 ·subst he;rw[h]
 ·rw[if_neg he];cases iK out e <;> rfl
end
section
open Go.RowKit
end
section
open Go.RowKit
def dn(ps:List (List Int)):Int:=(ps.map fun p=>p.getD 4 0).sum
theorem qd4{ps:List (List Int)}{j:Nat}{p:List Int}(h:ps[j]? = some p):dn (ps.take (j+1))=dn (ps.take j)+p.getD 4 0:=by
 unfold dn
 rw[lX h,List.map_append,List.sum_append]
 simp
def ND(ps:List (List Int)):Prop:=∀ p ∈ ps,∃ z0 z1 z2 z3 z4:Int,p=[z0,z1,z2,z3,z4]∧-9000000≤z4∧z4≤9000000
theorem qhc{ps:List (List Int)}(h:ND ps):∀ j,j≤ps.length→-9000000 * (j:Int)≤dn (ps.take j)∧dn (ps.take j)≤9000000 * (j:Int):=by
 intro j
 induction j with
 | zero=>intro _;simp[dn]
 | succ j ih =>
  intro hj
  obtain⟨h1,h2⟩:=ih (by omega)
  have hp:=List.getElem?_eq_getElem (l:=ps) (i:=j) (by omega)
  rw[qd4 hp]
  obtain⟨z0,z1,z2,z3,z4,he,h3,h4⟩:=h _ (List.mem_of_getElem? hp)
  rw[he]
  simp only [List.getD_cons_succ,List.getD_cons_zero]
  omega
theorem qez(s:List Nat)(hl:s.length≤1000000)(lone:Nat):ND (iC s lone):=by
 intro p hp
 rcases List.mem_append.1 hp with hp|hp
 ·obtain⟨d,_,rfl⟩:=List.mem_map.1 hp
  have h1:=JQ s (fG s) (bf s.length (sg s) d) s.length
  have h2:=JQ (aQ s) (fG s) (bf s.length (sg s) d) s.length
  have h3:=qns (fG s) (bf s.length (sg s) d) s.length
  refine⟨_,_,_,_,_,rfl,?_⟩
  unfold p9 Hr Ht EC
  exact qev (M:=9000000) (by omega) (by omega)
 ·obtain⟨_,rfl⟩:=List.mem_replicate.1 hp
  exact⟨_,_,_,_,_,rfl,by decide,by decide⟩
theorem Rw(s:List Nat)(lone:Nat):(iC s lone).length=aR s.length (sg s) s.length+lone:=by
 unfold iC;rw[List.length_append,zJ,List.length_replicate]
def xI(s:List Nat)(lone:Nat)(rt:Int)(ks:List Nat)(c:Nat):Prop :=
 (aR s.length (sg s) s.length+lone≠1∧c=8∧ks=[]) ∨
 (aR s.length (sg s) s.length+lone=1∧dn (iC s lone)≠0∧c=7∧ks=[]) ∨
 (aR s.length (sg s) s.length+lone=1∧dn (iC s lone)=0∧c=0∧s.length=0∧ks=[]) ∨
 (aR s.length (sg s) s.length+lone=1∧dn (iC s lone)=0∧c=0∧∃ root T:Nat,rt=root∧root<s.length∧eu s.length (sg s) (aD (sg s)) root T∧ks=gq (aX (sg s) (aD (sg s)) root T).2)
end
section
theorem fO.own{ks:List Nat}{o i:Nat}(h:fO ks 0 o i):OwnAt ks i o:=by
 obtain⟨h1,h2⟩:=h.DD
 have h3:=yx h.closes
 have e:dd (2 * 0+1)=-1:=rfl
 rw[e] at h3
 exact⟨h.lt,h.opens,by omega,h2⟩
theorem q8z{n:Nat}{S T D:Nat→Nat}(hS:aM n S)(hT:aM n T)(hD:aM n D)(hc:∀ i,i<n→S (D i)=D (T i)):bT S n≤bT T n:=by
 have wY:∀ m i,i<n→bg S m (D i)=D (bg T m i):=by
  intro m i hi
  induction m with
  | zero=>rfl
  | succ m ih =>
   show S (bg S m (D i))=D (T (bg T m i))
   rw[ih,hc _ (hT.bV hi m)]
 have h1:=uj (((List.range n).filter fun x=>rep S x == x).map fun x=>rep T (gQ D x)) ((List.range n).filter fun x=>rep T x == x) (by
  rw[List.Nodup,List.pairwise_map]
  have hn:((List.range n).filter fun x=>rep S x == x).Nodup:=List.Pairwise.filter _ List.nodup_range
  refine List.Pairwise.imp_of_mem (fun {x y} hx hy hxy e=>hxy ?_) hn
  simp only [List.mem_filter,List.mem_range,beq_iff_eq] at hx hy
  obtain⟨m,hm⟩:=(hT.eF (hD.bC hx.1) (hD.bC hy.1)).1 e
  have h2:=wY m _ (hD.bC hx.1)
  rw[hm,hD.bS hx.1,hD.bS hy.1] at h2
  rw[← hx.2,← hy.2]
  exact (hS.eF hx.1 hy.1).2 ⟨m,h2⟩) (fun z hz=>by
  obtain⟨x,hx,rfl⟩:=List.mem_map.1 hz
  simp only [List.mem_filter,List.mem_range,beq_iff_eq] at hx ⊢
  exact⟨hT.jg (hD.bC hx.1),hT.gV (hD.bC hx.1)⟩)
 rw[List.length_map] at h1
 exact h1
theorem qjr{n:Nat}{D:Nat→Nat}(h:aM n D):aM n (gQ D) :=
 ⟨fun _ hd=>h.bC hd,fun d e hd he hh=>by rw[← h.bS hd,hh,h.bS he]⟩
theorem RD{n:Nat}{S T D:Nat→Nat}(hS:aM n S)(hT:aM n T)(hD:aM n D)(hc:∀ i,i<n→S (D i)=D (T i)):bT S n=bT T n:=by
 refine Nat.le_antisymm (q8z hS hT hD hc) (q8z hT hS (qjr hD) (fun i hi=>?_))
 have h1:=hc _ (hD.bC hi)
 rw[hD.bS hi] at h1
 rw[h1,hD.inv_of (hT.lt _ (hD.bC hi))]
section
variable {ks:List Nat} (h:Wd ks)
include h
theorem Wd.jk:aM ks.length (sg (aG ks)):=by
 have:=h.eB
 rwa [kJ] at this
theorem Wd.jl{i:Nat}(hi:i<ks.length):sg (aG ks) (bG ks i)=bG ks (tn ks i):=by
 rw[qj6 (h.gu hi),h.Ez hi]
theorem Wd.lQ(hn:0<ks.length):bG ks 0=0:=by
 obtain⟨s,hs,⟨h1,h2⟩|⟨h1,h2⟩⟩:=h.cases hn
 ·unfold bG
  rw[iE h1,if_pos (by omega)]
  simp[oc]
 ·have:=h2.lt;omega
theorem Wd.qZ{i j:Nat}(hi:i<ks.length)(hj:j<ks.length):aD (sg (aG ks)) (bG ks i)=aD (sg (aG ks)) (bG ks j)↔vx ks i=vx ks j:=by
 rw[h.jk.dX (h.gu hi) (h.gu hj),← h.ou hi hj]
 have wY:∀ m,bg (sg (aG ks)) m (bG ks i)=bG ks (bg (tn ks) m i):=by
  intro m
  induction m with
  | zero=>rfl
  | succ m ih =>
   show sg (aG ks) (bg (sg (aG ks)) m (bG ks i))=bG ks (tn ks (bg (tn ks) m i))
   rw[ih,h.jl (h.fF.bV hi m)]
 constructor
 ·rintro⟨m,hm⟩
  rw[wY] at hm
  exact⟨m,h.dJ.inj _ _ (h.fF.bV hi m) hj hm⟩
 ·rintro⟨m,hm⟩
  exact⟨m,by rw[wY,hm]⟩
theorem Wd.oH(hC:yI ks)(hn:0<ks.length):∀ j,j≤ks.length→aX (sg (aG ks)) (aD (sg (aG ks))) 0 j=(bG ks (j % ks.length),(List.range j).map fun i=>(bG ks i,ks.getD i 0)):=by
 intro j
 induction j with
 | zero =>
  intro _
  rw[Nat.zero_mod,h.lQ hn];rfl
 | succ j ih =>
  intro hj
  have ih:=ih (by omega)
  have hjl:j<ks.length:=by omega
  have hjm:j % ks.length=j:=Nat.mod_eq_of_lt hjl
  rw[hjm] at ih
  show nX _ _ _ (aX _ _ _ j)=_
  rw[ih]
  have nY:∀ x,x<ks.length→(vis ((List.range j).map fun i=>(bG ks i,ks.getD i 0)) (bG ks x)↔x<j):=by
   intro x hx
   rw[JF,List.map_map]
   simp only [List.mem_map,List.mem_range,Function.comp]
   constructor
   ·rintro⟨y,hy,he⟩
    have:=h.dJ.inj _ _ (by omega) hx he
    omega
   ·intro hxj
    exact⟨x,hxj,rfl⟩
  have hml:=h.dS hjl
  have hmt:=h.jE hjl
  have nJ:¬ vis ((List.range j).map fun i=>(bG ks i,ks.getD i 0)) (bG ks j):=fun e=>by have:=(nY j hjl).1 e;omega
  have hkind:bJ (aD (sg (aG ks))) 0 ((List.range j).map fun i=>(bG ks i,ks.getD i 0)) (bG ks j)=ks.getD j 0:=by
   obtain⟨s,hs,⟨h1,h2⟩|⟨h1,h2⟩⟩:=h.cases hjl
   ·rw[iE h1]
    unfold bJ
    rcases GH nJ with⟨k,hf,hm⟩|⟨hf,hm⟩
    ·exfalso
     have:vis ((List.range j).map fun i=>(bG ks i,ks.getD i 0)) (bG ks (mp ks j)):=⟨k,by rw[hmt];exact hm⟩
     have:=(nY _ hml).1 this
     have:=h2.lt
     omega
    ·rw[hf]
     simp only
     rw[← hmt]
     have hmet:dB (aD (sg (aG ks))) 0 ((List.range j).map fun i=>(bG ks i,ks.getD i 0)) (aD (sg (aG ks)) (bG ks (mp ks j)))=true↔(vx ks (mp ks j)=0∨∃ o,o<j∧ks[o]? = some 0∧vx ks (mp ks j)=vo ks o):=by
      unfold dB
      rw[Bool.or_eq_true,beq_iff_eq,List.any_eq_true]
      have e0:=h.qZ hml hn
      rw[h.lQ hn,h.C8] at e0
      rw[e0]
      refine or_congr Iff.rfl ⟨?_,?_⟩
      ·rintro⟨⟨x,k⟩,hx,hk⟩
       obtain⟨o,ho,he⟩:=List.mem_map.1 hx
       have hol:=List.mem_range.1 ho
       simp only [Prod.mk.injEq] at he
       obtain⟨rfl,rfl⟩:=he
       rw[Bool.and_eq_true,beq_iff_eq,beq_iff_eq] at hk
       have hk0:ks.getD o 0=0:=hk.1
       have hv:aD (sg (aG ks)) (mt (bG ks o))=aD (sg (aG ks)) (bG ks (mp ks j)):=hk.2
       have hog:=List.getElem?_eq_getElem (l:=ks) (i:=o) (by omega)
       rw[iE hog] at hk0
       rw[hk0] at hog
       refine⟨o,hol,hog,?_⟩
       rw[← h.jE (by omega:o<ks.length)] at hv
       rw[← (h.qZ (h.dS (by omega:o<ks.length)) hml).1 hv]
       obtain⟨s',hs',⟨g1,g2⟩|⟨g1,g2⟩⟩:=h.cases (i:=o) (by omega)
       ·rw[hog] at g1
        obtain rfl:s'=0:=by have:=Option.some.inj g1;omega
        exact h.iB (Nat.le_of_lt g2.le) g2.own
       ·rw[hog] at g1
        have:=Option.some.inj g1;omega
      ·rintro⟨o,ho,hog,hv⟩
       refine⟨(bG ks o,ks.getD o 0),List.mem_map.2 ⟨o,List.mem_range.2 ho,rfl⟩,?_⟩
       rw[Bool.and_eq_true,beq_iff_eq,beq_iff_eq]
       refine⟨iE hog,?_⟩
       show aD (sg (aG ks)) (mt (bG ks o))=_
       rw[← h.jE (by omega:o<ks.length)]
       refine (h.qZ (h.dS (by omega:o<ks.length)) hml).2 ?_
       rw[hv]
       obtain⟨s',hs',⟨g1,g2⟩|⟨g1,g2⟩⟩:=h.cases (i:=o) (by omega)
       ·rw[hog] at g1
        obtain rfl:s'=0:=by have:=Option.some.inj g1;omega
        exact h.iB (Nat.le_of_lt g2.le) g2.own
       ·rw[hog] at g1
        have:=Option.some.inj g1;omega
     have WA:s=0∨s=1:=by omega
     rcases WA with rfl|rfl
     ·have hv:vx ks (mp ks j)=vo ks j:=h.iB (Nat.le_of_lt h2.le) h2.own
      rw[if_neg (fun e=>?_)]
      rcases hmet.1 e with e|⟨o,ho,hog,e⟩
      ·rw[hv] at e
       unfold vo at e;omega
      ·rw[hv] at e
       have:=qn1 h1 hog e
       omega
     ·rw[if_pos (hmet.2 ?_)]
      rcases h.om (j:=mp ks j) (by omega) with e|⟨o,ho⟩
      ·exact .inl (h.iJ (by omega) e)
      ·refine .inr ⟨o,?_,ho.opens,h.iB (by omega) ho⟩
       obtain⟨r,hr⟩:=h.bal.owner (i:=mp ks j) (by omega)
       have hc:=hC (mp ks j) j r h2.closes (h.mate hjl).symm hr
       have hro:r=(o:Nat):=by
        rcases Int.lt_or_le r 0 with hneg|hpos
        ·exfalso
         rcases hr with⟨e1,_⟩|⟨_,o',n',_,_,rfl⟩
         ·rw[dF (by omega)] at e1
          have:=ho.hit
          have:=h.jZ (p:=o) (by have:=ho.lt;omega)
          omega
         ·omega
        ·obtain⟨m,rfl⟩:=Int.eq_ofNat_of_zero_le hpos
         rw[(hr.own (by omega)).unique ho]
       rw[hro] at hc
       have hne:o≠j:=fun e=>by
        have:=ho.opens
        rw[e,h1] at this
        have:=Option.some.inj this;omega
       omega
   ·rw[iE h1]
    unfold bJ
    rcases GH nJ with⟨k,hf,hm⟩|⟨hf,hm⟩
    ·rw[hf]
     simp only
     rw[← hmt] at hm
     obtain⟨x,hx,he⟩:=List.mem_map.1 hm
     have hxl:=List.mem_range.1 hx
     simp only [Prod.mk.injEq] at he
     obtain⟨e1,e2⟩:=he
     have:=h.dJ.inj _ _ (by omega) hml e1
     subst this
     rw[← e2,iE h2.opens]
    ·exfalso
     apply hm
     rw[← hmt]
     exact (nY _ hml).2 h2.lt
  have hst:nX (sg (aG ks)) (aD (sg (aG ks))) 0 (bG ks j,(List.range j).map fun i=>(bG ks i,ks.getD i 0))=(sg (aG ks) (if ks.getD j 0<2 then mt (bG ks j) else bG ks j),((List.range j).map fun i=>(bG ks i,ks.getD i 0)) ++ [(bG ks j,ks.getD j 0)]):=by
   unfold nX
   simp only [hkind]
  rw[hst,List.range_succ,List.map_append]
  congr 1
  by_cases h2:ks.getD j 0<2
  ·rw[if_pos h2,← hmt,h.jl hml]
   unfold tn
   rw[if_pos ((h.kG hjl).2 h2),h.eX hjl]
  ·rw[if_neg h2,h.jl hjl]
   unfold tn
   rw[if_neg h2]
theorem Wd.ru(hC:yI ks)(hn:0<ks.length):gq (aX (sg (aG ks)) (aD (sg (aG ks))) 0 ks.length).2=ks:=by
 rw[h.oH hC hn _ (Nat.le_refl _)]
 unfold gq
 rw[List.map_map]
 apply List.ext_getElem?
 intro i
 rcases Nat.lt_or_ge i ks.length with hi|hi
 ·rw[List.getElem?_map,List.getElem?_range hi]
  simp[List.getD_eq_getElem?_getD,hi]
 ·rw[List.getElem?_eq_none (by simp;omega),List.getElem?_eq_none hi]
end
theorem eu.unique{n:Nat}{S aC:Nat→Nat}{root T T':Nat}(h:eu n S aC root T)(h':eu n S aC root T'):T=T':=by
 classical
 have h1:=h.total (fun x=>decide (aJ n S root x)) (fun x _=>by simp)
 have h2:=h'.total (fun x=>decide (aJ n S root x)) (fun x _=>by simp)
 omega
section
variable {ks:List Nat} (h:Wd ks) (hC:yI ks) (hn:0<ks.length)
include h hC hn
theorem Wd.nN:eu ks.length (sg (aG ks)) (aD (sg (aG ks))) 0 ks.length∧∀ x,x<ks.length→aJ ks.length (sg (aG ks)) 0 x:=by
 have hP:=h.jk
 obtain⟨T,hE,hend,hT⟩:=QU hP h.jJ (fun x y hx hy=>hP.dX hx hy) hn
 have Ud:T=ks.length:=by
  rcases Nat.lt_trichotomy T ks.length with hlt|heq|hlt
  ·exfalso
   rw[h.oH hC hn T (by omega),Nat.mod_eq_of_lt hlt] at hend
   have h1:=h.dJ.inj T 0 hlt hn (by rw[h.lQ hn];exact hend)
   have:=hT.pos
   omega
  ·exact heq
  ·exfalso
   have:=hE.le
   omega
 subst Ud
 refine⟨hE,fun x hx=>?_⟩
 refine (hE.sN x hx).2 ?_
 rw[h.oH hC hn _ (Nat.le_refl _),JF,List.map_map]
 obtain⟨i,hi,rfl⟩:=h.dJ.back hx
 exact List.mem_map.2 ⟨i,List.mem_range.2 hi,rfl⟩
end
theorem qg6{n:Nat}{S:Nat→Nat}(h:aM n S)(he:n % 2=0)(hn:0<n)(hc:∀ x,x<n→aJ n S 0 x):aR n S n=1:=by
 have h0:∀ x,x<n→aV n S x=0:=fun x hx=>Nat.le_zero.1 (vI (h.gP he hn (hc x hx)))
 have h1:∀ m,m≤n→aR n S m=if m=0 then 0 else 1:=by
  intro m
  induction m with
  | zero=>intro _;rfl
  | succ m ih =>
   intro hm
   rw[uF,ih (by omega),h0 m (by omega)]
   by_cases e:m=0
   ·subst e;rfl
   ·rw[if_neg e,if_neg (by omega),if_neg (by omega)]
 rw[h1 n (Nat.le_refl _),if_neg (by omega)]
theorem qd5{s:List Nat}(h:aM s.length (sg s))(he:s.length % 2=0)(hc:aR s.length (sg s) s.length=1) :
  dn (iC s 0)=(2 - ((bT (sg s) s.length:Nat):Int)+((s.length / 2:Nat):Int) - ((bT (sg (aQ s)) s.length:Nat):Int)).tdiv 2:=by
 have hcn:∀ x,x<s.length→sg (fG s) x=0:=fun x hx=>by
  rw[vL hx]
  have:=h.jD he hx
  omega
 have hof:∀ l:List Nat,mD l (fG s) 0 s.length=bT (sg l) s.length:=fun l=>by
  unfold mD bT
  congr 1
  refine List.filter_congr (fun x hx=>?_)
  rw[hcn x (List.mem_range.1 hx)]
  simp
 have hct:j3 (fG s) 0 s.length=s.length:=by
  unfold j3
  rw[List.filter_eq_self.2 (fun x hx=>by rw[hcn x (List.mem_range.1 hx)];rfl),List.length_range]
 obtain⟨p,hp⟩:∃ p,nL s s.length=[p]:=by
  have:=zJ s s.length
  rw[hc] at this
  exact List.length_eq_one_iff.1 this
 have hp0:p ∈ nL s s.length:=by rw[hp];simp
 obtain⟨d,hd,rfl⟩:=List.mem_map.1 hp0
 have hdn:=List.mem_range.1 (List.mem_filter.1 hd).1
 have hcd:bf s.length (sg s) d=0:=by have:=h.jD he hdn;omega
 unfold iC
 rw[hp]
 unfold dn zI p9 Hr Ht EC
 rw[hcd,hof,hof,hct]
 simp
section
variable {ks:List Nat} (h:Wd ks) (hC:yI ks) (hn:0<ks.length)
include h hC hn
theorem Wd.uN:aR (aG ks).length (sg (aG ks)) (aG ks).length=1∧dn (iC (aG ks) 0)=0:=by
 have hP:=h.eB
 have hev:=h.jJ
 have hc:=qg6 h.jk hev hn (h.nN hC hn).2
 have hl:=kJ ks
 rw[← hl] at hc
 refine⟨hc,?_⟩
 rw[qd5 hP (by rw[hl];exact hev) hc,hl]
 have e1:bT (sg (aG ks)) ks.length=bT (tn ks) ks.length:=RD h.jk h.fF h.dJ (fun i hi=>h.jl hi)
 have xB:aM ks.length (sg (aQ (aG ks))):=by
  have:=MS hP (by rw[hl];exact hev)
  rwa [lT,hl] at this
 have e2:bT (sg (aQ (aG ks))) ks.length=bT (ph ks) ks.length:=RD xB h.uG h.dJ (fun i hi=>by
  have h1:sg (aQ (aG ks)) (bG ks i)=sg (aG ks) (mt (bG ks i)):=by
   simp[sg,aQ,hl,h.gu hi]
  rw[h1,← h.jE hi,h.jl (h.dS hi)]
  rfl)
 have h3:=h.EB hn
 rw[e1,e2]
 have:(2 - ((bT (tn ks) ks.length:Nat):Int)+((ks.length / 2:Nat):Int) - ((bT (ph ks) ks.length:Nat):Int))=0:=by omega
 rw[this];rfl
end
theorem xI.unique{s:List Nat}{lone:Nat}{rt:Int}{ks ks':List Nat}{c c':Nat}(h:xI s lone rt ks c)(h':xI s lone rt ks' c'):ks=ks'∧c=c':=by
 rcases h with⟨a1,a2,a3⟩|⟨a1,a2,a3,a4⟩|⟨a1,a2,a3,a4,a5⟩|⟨a1,a2,a3,r,T,a4,a5,a6,a7⟩ <;>
  rcases h' with⟨b1,b2,b3⟩|⟨b1,b2,b3,b4⟩|⟨b1,b2,b3,b4,b5⟩|⟨b1,b2,b3,r',T',b4,b5,b6,b7⟩
 ·exact⟨by rw[a3,b3],by omega⟩
 ·exact absurd b1 a1
 ·exact absurd b1 a1
 ·exact absurd b1 a1
 ·exact absurd a1 b1
 ·exact⟨by rw[a4,b4],by omega⟩
 ·exact absurd b2 a2
 ·exact absurd b2 a2
 ·exact absurd a1 b1
 ·exact absurd a2 b2
 ·exact⟨by rw[a5,b5],by omega⟩
 ·omega
 ·exact absurd a1 b1
 ·exact absurd a2 b2
 ·omega
 ·obtain rfl:r=r':=by omega
  obtain rfl:=a6.unique b6
  exact⟨by rw[a7,b7],by omega⟩
theorem Wd.Du{ks:List Nat}(h:Wd ks)(hC:yI ks):xI (aG ks) (if ks.length=0 then 1 else 0) (if ks.length=0 then -1 else 0) ks 0:=by
 by_cases hn:ks.length=0
 ·rw[if_pos hn,if_pos hn]
  have hks:ks=[]:=List.eq_nil_of_length_eq_zero hn
  subst hks
  have hd:aG []=[]:=rfl
  rw[hd]
  refine .inr (.inr (.inl ⟨rfl,?_,rfl,rfl,rfl⟩))
  simp[iC,nL,dn]
 ·rw[if_neg hn,if_neg hn]
  obtain⟨h1,h2⟩:=h.uN hC (by omega)
  have h3:=(h.nN hC (by omega)).1
  refine .inr (.inr (.inr ⟨by rw[h1],h2,rfl,0,ks.length,rfl,by rw[kJ];omega,by rw[kJ];exact h3,(h.ru hC (by omega)).symm⟩))
theorem bZ.wd{ks:List Nat}(h:bZ ks):Wd ks:=⟨h.k4,h.bal⟩
theorem bZ.canon{ks:List Nat}(h:bZ ks):yI ks:=fun _ _ _ h1 h2 h3=>h.check h1 h2 h3
end
section
theorem RF(a b:List Nat)(k:Nat):aW (a ++ b) k=aW a k+aW b k:=by
 unfold aW;rw[List.filter_append,List.length_append]
theorem zY{a b:List Nat}{p:Nat}(hp:p≤a.length):DD (a ++ b) p=DD a p:=by
 unfold DD;rw[List.take_append_of_le_length hp]
theorem Iz{a b:List Nat}{p:Nat}(hp:p≤a.length):BB (a ++ b) p=BB a p:=by
 unfold BB;rw[List.take_append_of_le_length hp]
theorem Bw{a b:List Nat}{q:Nat}:DD (a ++ b) (a.length+q)=DD a a.length+DD b q:=by
 unfold DD;rw[List.take_length_add_append,RF,RF,List.take_length];omega
theorem ER{a b:List Nat}{q:Nat}:BB (a ++ b) (a.length+q)=BB a a.length+BB b q:=by
 unfold BB;rw[List.take_length_add_append,RF,RF,List.take_length];omega
theorem bZ.app{a b:List Nat}(ha:bZ a)(hb:bZ b):bZ (a ++ b):=by
 have h1:=ha.lI
 have h2:=ha.pE
 refine { k4:=?_,jZ:=?_,bpos:=?_,right:=?_,lI:=?_,pE:=?_ }
 ·intro k hk
  rcases List.mem_append.1 hk with h|h
  ·exact ha.k4 k h
  ·exact hb.k4 k h
 ·intro p hp
  rw[List.length_append] at hp
  rcases Nat.le_total p a.length with h|h
  ·rw[zY h];exact ha.jZ p h
  ·obtain⟨q,rfl⟩:=Nat.exists_eq_add_of_le h
   rw[Bw,h1];have:=hb.jZ q (by omega);omega
 ·intro p hp
  rw[List.length_append] at hp
  rcases Nat.le_total p a.length with h|h
  ·rw[Iz h];exact ha.bpos p h
  ·obtain⟨q,rfl⟩:=Nat.exists_eq_add_of_le h
   rw[ER,h2];have:=hb.bpos q (by omega);omega
 ·intro i hi o ho
  rcases Nat.lt_or_ge i a.length with h|h
  ·have hlt:=ho.lt
   rw[List.getElem?_append_left h] at hi
   have hoa:OwnAt a i o:=by
    obtain⟨q1,q2,q3,q4⟩:=ho
    rw[List.getElem?_append_left (by omega)] at q2
    rw[zY (by omega),zY (by omega)] at q3
    refine⟨q1,q2,q3,fun p hp1 hp2=>?_⟩
    have:=q4 p hp1 hp2
    rwa [zY (by omega),zY (by omega)] at this
   rw[Iz (by omega),Iz (by omega)]
   exact ha.right i hi o hoa
  ·obtain⟨j,rfl⟩:=Nat.exists_eq_add_of_le h
   rw[List.getElem?_append_right (by omega),Nat.add_sub_cancel_left] at hi
   have hjl:=fK hi
   obtain⟨q1,q2,q3,q4⟩:=ho
   rcases Nat.lt_or_ge o a.length with h5|h5
   ·exfalso
    have:=q4 a.length h5 (by omega)
    rw[zY (by omega),zY (Nat.le_refl _),h1] at this
    have:=ha.jZ o (by omega)
    omega
   ·obtain⟨u,rfl⟩:=Nat.exists_eq_add_of_le h5
    rw[List.getElem?_append_right (by omega),Nat.add_sub_cancel_left] at q2
    rw[Bw,Bw] at q3
    have kI:OwnAt b j u:=⟨by omega,q2,by omega,fun p hp1 hp2=>by
     have:=q4 (a.length+p) (by omega) (by omega)
     rw[Bw,Bw] at this
     omega⟩
    have:=hb.right j hi u kI
    rw[show a.length+u+1=a.length+(u+1) by omega,ER,ER]
    omega
 ·rw[List.length_append,Bw,h1,hb.lI];rfl
 ·rw[List.length_append,ER,h2,hb.pE];rfl
end
section
structure tJ (n:Nat)(D:Nat→Nat)(ks:List Nat):Prop where
 wd:Wd ks
 len:ks.length=n
 dP:aM n D
 qz:∀ i,i<n→D (mp ks i)=mt (D i)
theorem Wd.Dv{ks:List Nat}(h:Wd ks){i:Nat}(hi:i<ks.length):ks.getD (mp ks i) 0<2↔ks.getD i 0<2:=by
 obtain⟨t,ht,⟨h1,h2⟩|⟨h1,h2⟩⟩:=h.cases (i:=i) hi
 ·have h3:=h2.closes
  rw[List.getD_eq_getElem?_getD,h3,List.getD_eq_getElem?_getD,h1,Option.getD_some,Option.getD_some];omega
 ·have h3:=h2.opens
  rw[List.getD_eq_getElem?_getD,h3,List.getD_eq_getElem?_getD,h1,Option.getD_some,Option.getD_some];omega
section
variable {n:Nat} {D:Nat→Nat} {ks:List Nat} (k:tJ n D ks)
include k
def CJ(n:Nat)(D:Nat→Nat)(ks:List Nat)(j:Nat)(zs:List Int):Prop:=∀ i,i<n→zs[D i]? = some (if i<j∨mp ks i<j then (bG ks i:Int) else -1)
theorem tJ.NG:CJ n D ks 0 (List.replicate n (-1)):=fun i hi=>by
 rw[if_neg (by omega),List.getElem?_replicate,if_pos (k.dP.lt i hi)]
theorem tJ.lS{j:Nat}(hj:j<n):(ks.getD j 0 % 2=0∧j<mp ks j)∨(ks.getD j 0 % 2=1∧mp ks j<j):=by
 obtain⟨t,ht,⟨h1,h2⟩|⟨h1,h2⟩⟩:=k.wd.cases (i:=j) (by rw[k.len];exact hj)
 ·exact .inl ⟨by rw[iE h1];omega,h2.lt⟩
 ·exact .inr ⟨by rw[iE h1];omega,h2.lt⟩
theorem tJ.NC{j:Nat}{zs:List Int}(hj:j<n)(hm:mp ks j<j)(h:CJ n D ks j zs):CJ n D ks (j+1) zs:=fun i hi=>by
 rw[h i hi]
 have hil:i<ks.length:=by rw[k.len];exact hi
 have hmm:=k.wd.eX hil
 congr 1
 by_cases h1:i<j∨mp ks i<j
 ·rw[if_pos h1,if_pos (by omega)]
 ·rw[if_neg h1,if_neg]
  rintro (h2|h2)
  ·obtain rfl:i=j:=by omega
   exact h1 (.inr hm)
  ·have e:mp ks i=j:=by omega
   rw[e] at hmm
   omega
theorem tJ.stepJ{j:Nat}{zs:List Int}(hj:j<n)(hl:zs.length=n)(hm:j<mp ks j)(h:CJ n D ks j zs):CJ n D ks (j+1) ((zs.set (D j) (bG ks j:Int)).set (mt (D j)) ((bG ks j:Int)+1)):=fun i hi=>by
 have hjl:j<ks.length:=by rw[k.len];exact hj
 have hil:i<ks.length:=by rw[k.len];exact hi
 have hml:mp ks j<n:=by rw[← k.len];exact k.wd.dS hjl
 have hmm:=k.wd.eX hil
 have WB:=k.wd.eX hjl
 have hev:ks.getD j 0 % 2=0:=by
  rcases k.lS hj with h1|h1
  ·exact h1.1
  ·omega
 have hod:ks.getD (mp ks j) 0 % 2=1:=by
  rcases k.lS hml with h1|h1
  ·rw[WB] at h1;omega
  ·exact h1.1
 rw[← k.qz j hj,List.getElem?_set,List.length_set]
 by_cases h1:D (mp ks j)=D i
 ·have e:=k.dP.inj _ _ hml hi h1
  rw[if_pos h1,if_pos (by rw[hl];exact k.dP.lt _ hml),← e,if_pos (.inr (by rw[WB];omega))]
  congr 1
  unfold bG
  rw[if_pos hev,if_neg (by omega),WB]
  omega
 ·rw[if_neg h1,List.getElem?_set]
  by_cases h2:D j=D i
  ·have e:=k.dP.inj _ _ hj hi h2
   rw[if_pos h2,if_pos (by rw[hl];exact k.dP.lt _ hj),← e,if_pos (.inl (by omega))]
  ·rw[if_neg h2,h i hi]
   congr 1
   have h3:¬ i=j:=fun e=>h2 (by rw[e])
   have h4:¬ mp ks i=j:=fun e=>h1 (by rw[← e,hmm])
   by_cases h5:i<j∨mp ks i<j
   ·rw[if_pos h5,if_pos (by omega)]
   ·rw[if_neg h5,if_neg (by omega)]
noncomputable def pJ(n:Nat)(D:Nat→Nat)(ks:List Nat):List Nat:=(List.range n).map fun x=>bG ks (gQ D x)
omit k in
theorem Kr(n:Nat)(D:Nat→Nat)(ks:List Nat):(pJ n D ks).length=n:=by simp[pJ]
theorem tJ.vP{i:Nat}(hi:i<n):sg (pJ n D ks) (D i)=bG ks i:=by
 have h1:=k.dP.lt i hi
 unfold sg pJ
 rw[List.getD_eq_getElem?_getD,List.getElem?_map,List.getElem?_range h1]
 show bG ks (gQ D (D i))=_
 rw[k.dP.inv_of hi]
theorem tJ.mJ{x:Nat}(hx:x<n):∃ i,i<n∧D i=x∧sg (pJ n D ks) x=bG ks i :=
 ⟨gQ D x,k.dP.bC hx,k.dP.bS hx,by have:=k.vP (k.dP.bC hx);rwa [k.dP.bS hx] at this⟩
theorem tJ.NH{zs:List Int}(hl:zs.length=n)(h:CJ n D ks n zs):zs=aB (pJ n D ks):=by
 apply List.ext_getElem?
 intro x
 rcases Nat.lt_or_ge x n with hx|hx
 ·obtain⟨i,hi,e,h1⟩:=k.mJ hx
  have h2:=h i hi
  rw[e,if_pos (.inl hi)] at h2
  rw[h2,zC (by rw[Kr];exact hx),h1]
 ·rw[List.getElem?_eq_none (by omega),List.getElem?_eq_none (by rw[q01,Kr];omega)]
theorem tJ.gu{i:Nat}(hi:i<n):bG ks i<n:=by
 have:=k.wd.gu (i:=i) (by rw[k.len];exact hi)
 rwa [k.len] at this
theorem tJ.uO:aM n (sg (pJ n D ks)):=by
 refine⟨fun x hx=>?_,fun x y hx hy he=>?_⟩
 ·obtain⟨i,hi,_,h1⟩:=k.mJ hx
  rw[h1];exact k.gu hi
 ·obtain⟨i,hi,e1,h1⟩:=k.mJ hx
  obtain⟨j,hj,e2,h2⟩:=k.mJ hy
  rw[h1,h2] at he
  rw[← e1,← e2,k.wd.dJ.inj i j (by rw[k.len];exact hi) (by rw[k.len];exact hj) he]
theorem tJ.vQ{x:Nat}(hx:x<n):sg (pJ n D ks) (mt x)=mt (sg (pJ n D ks) x):=by
 obtain⟨i,hi,e,h1⟩:=k.mJ hx
 have hil:i<ks.length:=by rw[k.len];exact hi
 rw[h1,← e,← k.qz i hi,k.vP (by rw[← k.len];exact k.wd.dS hil),k.wd.jE hil]
theorem tJ.xL{j:Nat}(hj:j<n)(hm:j<mp ks j):bG ks j=2 * oc ks j∧oc ks (j+1)=oc ks j+1:=by
 have hjl:j<ks.length:=by rw[k.len];exact hj
 have hev:ks.getD j 0 % 2=0:=by
  rcases k.lS hj with h1|h1
  ·exact h1.1
  ·omega
 refine⟨by unfold bG;rw[if_pos hev],?_⟩
 have hk:=List.getElem?_eq_getElem hjl
 rw[iE hk] at hev
 rw[Ey hk,if_pos hev]
theorem tJ.zZ{j:Nat}(hj:j<n)(hm:mp ks j<j):oc ks (j+1)=oc ks j:=by
 have hjl:j<ks.length:=by rw[k.len];exact hj
 have hev:ks.getD j 0 % 2=1:=by
  rcases k.lS hj with h1|h1
  ·omega
  ·exact h1.1
 have hk:=List.getElem?_eq_getElem hjl
 rw[iE hk] at hev
 rw[Ey hk,if_neg (by omega)];rfl
end
end
section
theorem Wd.Aa{ks:List Nat}(h:Wd ks){i:Nat}(hi:i<ks.length):ks.getD (mp ks i) 0<2↔ks.getD i 0<2:=by
 obtain⟨t,ht,⟨h1,h2⟩|⟨h1,h2⟩⟩:=h.cases (i:=i) hi
 ·have h3:=h2.closes
  rw[List.getD_eq_getElem?_getD,h3,List.getD_eq_getElem?_getD,h1,Option.getD_some,Option.getD_some];omega
 ·have h3:=h2.opens
  rw[List.getD_eq_getElem?_getD,h3,List.getD_eq_getElem?_getD,h1,Option.getD_some,Option.getD_some];omega
section
variable {ks:List Nat} (h:Wd ks) (hn:0<ks.length)
include h hn
theorem Wd.tK:∀ x,x<ks.length→aJ ks.length (sg (aG ks)) 0 x:=by
 have key:∀ i,i<ks.length→aJ ks.length (sg (aG ks)) 0 (bG ks i):=by
  intro i
  induction i with
  | zero=>intro _;rw[h.lQ hn];exact aJ.refl _ _ _
  | succ i ih =>
   intro hi
   have h1:=ih (by omega)
   have hmod:(i+1) % ks.length=i+1:=Nat.mod_eq_of_lt hi
   by_cases ht:ks.getD i 0<2
   ·have hm:=h.dS (i:=i) (by omega)
    have h2:tn ks (mp ks i)=i+1:=by
     unfold tn
     rw[if_pos ((h.Aa (by omega)).2 ht),h.eX (by omega),hmod]
    have h3:=h1.trans (aJ.mate (h.gu (i:=i) (by omega)))
    rw[← h.jE (by omega)] at h3
    have h4:=h3.trans (aJ.turn (S:=sg (aG ks)) (h.gu hm))
    rwa [h.jl hm,h2] at h4
   ·have h2:tn ks i=i+1:=by
     unfold tn
     rw[if_neg ht,hmod]
    have h4:=h1.trans (aJ.turn (S:=sg (aG ks)) (h.gu (i:=i) (by omega)))
    rwa [h.jl (by omega),h2] at h4
 intro x hx
 have:=key _ (h.dJ.bC hx)
 rwa [h.dJ.bS hx] at this
theorem Wd.oI:aR (aG ks).length (sg (aG ks)) (aG ks).length=1∧dn (iC (aG ks) 0)=0:=by
 have hP:=h.eB
 have hev:=h.jJ
 have hc:=qg6 h.jk hev hn (h.tK hn)
 have hl:=kJ ks
 rw[← hl] at hc
 refine⟨hc,?_⟩
 rw[qd5 hP (by rw[hl];exact hev) hc,hl]
 have e1:bT (sg (aG ks)) ks.length=bT (tn ks) ks.length:=RD h.jk h.fF h.dJ (fun i hi=>h.jl hi)
 have xB:aM ks.length (sg (aQ (aG ks))):=by
  have:=MS hP (by rw[hl];exact hev)
  rwa [lT,hl] at this
 have e2:bT (sg (aQ (aG ks))) ks.length=bT (ph ks) ks.length:=RD xB h.uG h.dJ (fun i hi=>by
  have h1:sg (aQ (aG ks)) (bG ks i)=sg (aG ks) (mt (bG ks i)):=by
   simp[sg,aQ,hl,h.gu hi]
  rw[h1,← h.jE hi,h.jl (h.dS hi)]
  rfl)
 have h3:=h.EB hn
 rw[e1,e2]
 have:(2 - ((bT (tn ks) ks.length:Nat):Int)+((ks.length / 2:Nat):Int) - ((bT (ph ks) ks.length:Nat):Int))=0:=by omega
 rw[this];rfl
end
end
