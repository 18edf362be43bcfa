import Derived.Test.YtcfdpogegngplaaGreatZg0g
set_option maxRecDepth 100000
set_option maxHeartbeats 4000000
namespace Go.Proofs.YtcfdpogegngplaaGreat
section
theorem RG{ks:List Nat}{s i j:Nat}(h:fO ks s i j)(hs:s<2):(s=0∧DD ks (j+1)=DD ks i∧∀ p,i<p→p≤j→DD ks i<DD ks p)∨(s=1∧BB ks (j+1)=BB ks i∧∀ p,i<p→p≤j→BB ks i<BB ks p):=by
 have hle:=h.le
 have hlt:=h.lt
 have h1:=h.hit
 have h2:=h.above
 have h01:s=0∨s=1:=by omega
 rcases h01 with rfl|rfl
 ·refine .inl ⟨rfl,?_,fun p hp1 hp2=>?_⟩
  ·rw[dF (by omega),dF (by omega)] at h1;exact h1
  ·have:=h2 p hp1 hp2
   rw[dF (by omega),dF (by omega)] at this;exact this
 ·refine .inr ⟨rfl,?_,fun p hp1 hp2=>?_⟩
  ·rw[fA (by omega),fA (by omega)] at h1;exact h1
  ·have:=h2 p hp1 hp2
   rw[fA (by omega),fA (by omega)] at this;exact this
theorem qa9{a:List Nat}(b:List Nat){s i j:Nat}(h:fO a s i j)(hs:s<2):fO (a ++ b) s i j:=by
 have hle:=h.le
 have hlt:=h.lt
 have hl:(a ++ b).length=a.length+b.length:=List.length_append
 refine⟨hlt,by omega,by rw[List.getElem?_append_left (by omega)];exact h.opens,by rw[List.getElem?_append_left (by omega)];exact h.closes,?_,fun p hp1 hp2=>?_⟩
 ·rcases RG h hs with⟨rfl,h1,_⟩|⟨rfl,h1,_⟩
  ·rw[dF (by omega),dF (by omega),zY (by omega),zY (by omega)];exact h1
  ·rw[fA (by omega),fA (by omega),Iz (by omega),Iz (by omega)];exact h1
 ·rcases RG h hs with⟨rfl,_,h1⟩|⟨rfl,_,h1⟩
  ·rw[dF (by omega),dF (by omega),zY (by omega),zY (by omega)];exact h1 p hp1 hp2
  ·rw[fA (by omega),fA (by omega),Iz (by omega),Iz (by omega)];exact h1 p hp1 hp2
theorem qaa{a b:List Nat}{s i j:Nat}(ha:Wd a)(h:fO b s i j)(hs:s<2):fO (a ++ b) s (a.length+i) (a.length+j):=by
 have hle:=h.le
 have hlt:=h.lt
 have h1:=ha.lI
 have h2:=ha.pE
 have hl:(a ++ b).length=a.length+b.length:=List.length_append
 refine⟨by omega,by omega,by rw[List.getElem?_append_right (by omega),Nat.add_sub_cancel_left];exact h.opens,by rw[List.getElem?_append_right (by omega),Nat.add_sub_cancel_left];exact h.closes,?_,fun p hp1 hp2=>?_⟩
 ·rw[Nat.add_assoc]
  rcases RG h hs with⟨rfl,h3,_⟩|⟨rfl,h3,_⟩
  ·rw[dF (by omega),dF (by omega),Bw,Bw,h3]
  ·rw[fA (by omega),fA (by omega),ER,ER,h3]
 ·obtain⟨q,rfl⟩:=Nat.exists_eq_add_of_le (show a.length≤p by omega)
  rcases RG h hs with⟨rfl,_,h3⟩|⟨rfl,_,h3⟩
  ·have:=h3 q (by omega) (by omega)
   rw[dF (by omega),dF (by omega),Bw,Bw];omega
  ·have:=h3 q (by omega) (by omega)
   rw[fA (by omega),fA (by omega),ER,ER];omega
theorem Wd.tL{ks:List Nat}(hw:Wd ks){s i j:Nat}(h:fO ks s i j):mp ks j=i:=by
 have h1:=hw.lJ h
 have:=hw.eX (i:=i) (by have:=h.lt;have:=h.le;omega)
 rwa [h1] at this
theorem qjs{a b:List Nat}(ha:Wd a)(hab:Wd (a ++ b)){i:Nat}(hi:i<a.length):mp (a ++ b) i=mp a i:=by
 obtain⟨s,hs,⟨_,h⟩|⟨_,h⟩⟩:=ha.cases hi
 ·exact hab.lJ (qa9 b h hs)
 ·exact hab.tL (qa9 b h hs)
theorem qjt{a b:List Nat}(ha:Wd a)(hb:Wd b)(hab:Wd (a ++ b)){i:Nat}(hi:i<b.length):mp (a ++ b) (a.length+i)=a.length+mp b i:=by
 obtain⟨s,hs,⟨_,h⟩|⟨_,h⟩⟩:=hb.cases hi
 ·exact hab.lJ (qaa ha h hs)
 ·exact hab.tL (qaa ha h hs)
theorem qju{a b:List Nat}{i:Nat}(hi:i≤a.length):oc (a ++ b) i=oc a i:=by
 unfold oc
 rw[List.take_append_of_le_length hi]
theorem qn3{ks:List Nat}(h:Wd ks):2 * oc ks ks.length=ks.length:=by
 have h1:=h.jB
 have h2:∀ l:List Nat,(∀ k ∈ l,k<4)→(l.filter fun k=>k % 2 == 0).length=aW l 0+aW l 2:=by
  intro l
  induction l with
  | nil=>intro _;simp[aW]
  | cons x l ih =>
   intro hl
   have ih:=ih (fun k hk=>hl k (by simp[hk]))
   have hx:=hl x (by simp)
   have h01:x=0∨x=1∨x=2∨x=3:=by omega
   unfold aW at ih ⊢
   rcases h01 with rfl|rfl|rfl|rfl <;> simp[ih] <;> omega
 unfold oc
 rw[List.take_of_length_le (Nat.le_refl _),h2 ks h.k4]
 exact h1
theorem qjv{a b:List Nat}(ha:Wd a){i:Nat}:2 * oc (a ++ b) (a.length+i)=a.length+2 * oc b i:=by
 have h1:=qn3 ha
 unfold oc at *
 rw[List.take_append,List.filter_append,List.length_append,List.take_of_length_le (by omega),Nat.add_sub_cancel_left]
 rw[List.take_of_length_le (Nat.le_refl _)] at h1
 omega
theorem qjw{a b:List Nat}(ha:Wd a)(hab:Wd (a ++ b)){i:Nat}(hi:i<a.length):bG (a ++ b) i=bG a i:=by
 unfold bG
 have h1:=ha.dS hi
 rw[qjs ha hab hi,qju (by omega),qju (by omega),List.getD_eq_getElem?_getD,List.getElem?_append_left hi,← List.getD_eq_getElem?_getD]
theorem qjx{a b:List Nat}(ha:Wd a)(hb:Wd b)(hab:Wd (a ++ b)){i:Nat}(hi:i<b.length):bG (a ++ b) (a.length+i)=a.length+bG b i:=by
 have h1:=hb.dS hi
 have h2:=qjv (b:=b) ha (i:=i)
 have h3:=qjv (b:=b) ha (i:=mp b i)
 unfold bG
 rw[qjt ha hb hab hi,List.getD_eq_getElem?_getD,List.getElem?_append_right (by omega),Nat.add_sub_cancel_left,← List.getD_eq_getElem?_getD]
 split <;> omega
def bH:List (List Nat)→List Nat
 | []=>[]
 | p :: ps=>p ++ (bH ps).map (p.length + ·)
theorem q90:∀ ps:List (List Nat),(bH ps).length=(ps.map List.length).sum
 | []=>rfl
 | p :: ps=>by simp[bH,q90 ps]
theorem qny{p:List Nat}{ps:List (List Nat)}{x:Nat}(h:x<p.length):sg (bH (p :: ps)) x=sg p x:=by
 unfold sg bH
 rw[List.getD_eq_getElem?_getD,List.getElem?_append_left h,← List.getD_eq_getElem?_getD]
theorem qnz{p:List Nat}{ps:List (List Nat)}{x:Nat}(h:x<(bH ps).length):sg (bH (p :: ps)) (p.length+x)=p.length+sg (bH ps) x:=by
 unfold sg
 show (p ++ (bH ps).map (p.length + ·)).getD _ 0=_
 rw[List.getD_eq_getElem?_getD,List.getElem?_append_right (by omega),Nat.add_sub_cancel_left,List.getElem?_map,List.getElem?_eq_getElem h,List.getD_eq_getElem?_getD,List.getElem?_eq_getElem h]
 rfl
noncomputable def Ab:List (List Nat)→Nat→Nat
 | [],i=>i
 | k :: l,i=>if i<k.length then tn k i else k.length+Ab l (i - k.length)
def eD(l:List (List Nat)):Prop:=∀ k ∈ l,bZ k∧0<k.length
theorem eD.flat:∀ {l:List (List Nat)},eD l→bZ l.flatten
 | [],_=>by
  refine { k4:=by simp,jZ:=fun p hp=>?_,bpos:=fun p hp=>?_,right:=fun i hi=>by simp at hi,lI:=rfl,pE:=rfl }
  ·have:p=0:=by simpa using hp
   subst this;exact Int.le_refl _
  ·have:p=0:=by simpa using hp
   subst this;exact Int.le_refl _
 | k :: l,h=>by
  rw[List.flatten_cons]
  exact (h k (by simp)).1.app (eD.flat (fun x hx=>h x (by simp[hx])))
theorem Dw(l:List (List Nat)):(bH (l.map aG)).length=l.flatten.length:=by
 rw[q90,List.length_flatten,List.map_map]
 congr 1
 exact List.map_congr_left (fun k _=>kJ k)
theorem Kt:∀ {l:List (List Nat)},eD l→∀ i,i<l.flatten.length→Ab l i<l.flatten.length
 | [],_,i,hi=>by simp at hi
 | k :: l,h,i,hi=>by
  rw[List.flatten_cons,List.length_append] at hi ⊢
  unfold Ab
  split
  ·next h1=>have:=((h k (by simp)).1.wd.fF).lt i h1;omega
  ·next h1 =>
   have hl:eD l:=fun x hx=>h x (by simp[hx])
   have:=Kt hl (i - k.length) (by omega)
   omega
theorem NI:∀ {l:List (List Nat)},eD l→∀ i,i<l.flatten.length→sg (bH (l.map aG)) (bG l.flatten i)=bG l.flatten (Ab l i)
 | [],_,i,hi=>by simp at hi
 | k :: l,h,i,hi=>by
  have hk:=(h k (by simp)).1
  have hl:eD l:=fun x hx=>h x (by simp[hx])
  have hab:=(eD.flat h).wd
  rw[List.flatten_cons] at hi hab ⊢
  rw[List.length_append] at hi
  rw[List.map_cons]
  unfold Ab
  by_cases h1:i<k.length
  ·have h2:=(hk.wd.fF).lt i h1
   rw[if_pos h1,qjw hk.wd hab h1,qjw hk.wd hab h2,qny (by rw[kJ];exact hk.wd.gu h1),hk.wd.jl h1]
  ·obtain⟨j,rfl⟩:=Nat.exists_eq_add_of_le (show k.length≤i by omega)
   have h2:=Kt hl j (by omega)
   have h3:=(hl.flat.wd).gu (i:=j) (by omega)
   rw[if_neg h1,Nat.add_sub_cancel_left,qjx hk.wd hl.flat.wd hab (by omega),qjx hk.wd hl.flat.wd hab h2]
   have e:=qnz (p:=aG k) (ps:=l.map aG) (x:=bG l.flatten j) (by rw[Dw];exact h3)
   rw[kJ] at e
   rw[e,NI hl j (by omega)]
theorem q2z{l:List (List Nat)}(h:eD l):aM (bH (l.map aG)).length (sg (bH (l.map aG))):=by
 rw[Dw]
 have hw:=h.flat.wd
 have hinj:∀ {l:List (List Nat)},eD l→∀ i j,i<l.flatten.length→j<l.flatten.length→Ab l i=Ab l j→i=j:=by
  intro l
  induction l with
  | nil=>intro _ i j hi;simp at hi
  | cons k l ih =>
   intro h i j hi hj he
   have hk:=(h k (by simp)).1.wd.fF
   rw[List.flatten_cons,List.length_append] at hi hj
   unfold Ab at he
   by_cases h1:i<k.length <;> by_cases h2:j<k.length
   ·rw[if_pos h1,if_pos h2] at he;exact hk.inj _ _ h1 h2 he
   ·rw[if_pos h1,if_neg h2] at he;have:=hk.lt i h1;omega
   ·rw[if_neg h1,if_pos h2] at he;have:=hk.lt j h2;omega
   ·rw[if_neg h1,if_neg h2] at he
    have:=ih (fun x hx=>h x (by simp[hx])) (i - k.length) (j - k.length) (by omega) (by omega) (by omega)
    omega
 have hnm:=hw.dJ
 refine⟨fun x hx=>?_,fun x y hx hy he=>?_⟩
 ·have h1:=NI h _ (hnm.bC hx)
  rw[hnm.bS hx] at h1
  rw[h1]
  exact hnm.lt _ (Kt h _ (hnm.bC hx))
 ·have h1:=NI h _ (hnm.bC hx)
  have h2:=NI h _ (hnm.bC hy)
  rw[hnm.bS hx] at h1
  rw[hnm.bS hy] at h2
  rw[h1,h2] at he
  have:=hinj h _ _ (hnm.bC hx) (hnm.bC hy) (hnm.inj _ _ (Kt h _ (hnm.bC hx)) (Kt h _ (hnm.bC hy)) he)
  rw[← hnm.bS hx,this,hnm.bS hy]
structure NJ (n:Nat)(S D:Nat→Nat)(l:List (List Nat)):Prop extends tJ n D l.flatten where
 ok:eD l
 next:∀ i,i<n→S (D i)=D (Ab l i)
theorem NJ.vR{n:Nat}{S D:Nat→Nat}{l:List (List Nat)}(k:NJ n S D l){x:Nat}(hx:x<n):sg (bH (l.map aG)) (sg (pJ n D l.flatten) x)=sg (pJ n D l.flatten) (S x):=by
 obtain⟨i,hi,e,h1⟩:=k.mJ hx
 have hil:i<l.flatten.length:=by rw[k.len];exact hi
 rw[h1,NI k.ok i hil,← e,k.next i hi,k.vP (by rw[← k.len];exact Kt k.ok i hil)]
theorem NJ.vT{n:Nat}{S D:Nat→Nat}{l:List (List Nat)}(k:NJ n S D l)(hn:0<n):sg (pJ n D l.flatten) (D 0)=0:=by
 rw[k.vP hn,k.wd.lQ (by rw[k.len];exact hn)]
end
section
theorem qn4:∀ (l:List Int),(∀ x ∈ l,0≤x)→0≤l.sum∧∀ x ∈ l,x≤l.sum
 | [],_=>⟨by simp,fun x hx=>by simp at hx⟩
 | a :: l,h=>by
  obtain⟨h1,h2⟩:=qn4 l (fun x hx=>h x (by simp[hx]))
  have h3:=h a (by simp)
  rw[List.sum_cons]
  refine⟨by omega,fun x hx=>?_⟩
  rcases List.mem_cons.1 hx with rfl|hx
  ·omega
  ·have:=h2 x hx;omega
section
variable {s:List Nat} (h:aM s.length (sg s)) (he:s.length % 2=0)
include h he
open Classical in
theorem qg7{r:Nat}(hr:r<s.length)(l:List Nat):mD l (fG s) (bf s.length (sg s) r) s.length=((List.range s.length).filter fun x=>rep (sg l) x == x && decide (aJ s.length (sg s) r x)).length:=by
 unfold mD
 congr 1
 refine List.filter_congr (fun x hx=>?_)
 have hx:=List.mem_range.1 hx
 rw[vL hx]
 congr 1
 by_cases hc:aJ s.length (sg s) r x
 ·rw[decide_eq_true hc,(h.gB he hr hx).2 hc];simp
 ·rw[decide_eq_false hc,beq_eq_false_iff_ne]
  exact fun e=>hc ((h.gB he hr hx).1 e.symm)
theorem qjy{r T:Nat}{D:Nat→Nat}{ks:List Nat}(hr:r<s.length)(k:qL s.length (sg s) r T D ks):j3 (fG s) (bf s.length (sg s) r) s.length=T:=by
 have:=Ur (l:=(List.range s.length).filter fun d=>sg (fG s) d == bf s.length (sg s) r) (m:=(List.range T).map D) (List.Pairwise.filter _ List.nodup_range) (by
  rw[List.Nodup,List.pairwise_map]
  refine List.Pairwise.imp_of_mem (fun {x y} hx hy hxy e=>hxy ?_) (List.nodup_range (n:=T))
  exact k.inj x y (List.mem_range.1 hx) (List.mem_range.1 hy) e) (fun x=>by
  simp only [List.mem_filter,List.mem_range,beq_iff_eq,List.mem_map]
  constructor
  ·rintro⟨hx,e⟩
   rw[vL hx] at e
   obtain⟨i,hi,hd⟩:=k.sN x hx ((h.gB he hr hx).1 e.symm)
   exact⟨i,hi,hd⟩
  ·rintro⟨i,hi,rfl⟩
   have h1:=k.lt i hi
   refine⟨h1,?_⟩
   rw[vL h1]
   exact ((h.gB he hr h1).2 (k.conn he i hi)).symm)
 unfold j3
 rw[this,List.length_map,List.length_range]
theorem qg8{r:Nat}(hr:r<s.length){T:Nat}{D:Nat→Nat}{ks:List Nat}(k:qL s.length (sg s) r T D ks):0≤p9 s (bf s.length (sg s) r)∧(p9 s (bf s.length (sg s) r)=0→∀ i,i<T→D (mp ks i)=mt (D i)):=by
 have h1:=k.zo h hr he
 have h2:=k.Eo h hr he
 have h3:=k.faces h he
 have xB:=MS h he
 rw[lT] at xB
 have hTw:aM s.length (fun d=>sg s (mt d)):=xB.congr (fun d hd=>(Dc hd).symm)
 have hV:Hr s (bf s.length (sg s) r)=_:=qg7 h he hr s
 have hB:Ht s (bf s.length (sg s) r)=_:=qg7 h he hr (aQ s)
 have hE:EC s (bf s.length (sg s) r)=T / 2:=by unfold EC;rw[qjy h he hr k]
 have e1:((List.range s.length).filter fun x=>rep (sg (aQ s)) x == x && @decide (aJ s.length (sg s) r x) (Classical.propDecidable _))=(List.range s.length).filter fun x=>rep (fun d=>sg s (mt d)) x == x && @decide (aJ s.length (sg s) r x) (Classical.propDecidable _) :=
  List.filter_congr (fun x hx=>by rw[Q9 xB hTw (fun d hd=>Dc hd) (List.mem_range.1 hx)])
 rw[e1] at hB
 unfold p9
 rw[hV,hB,hE]
 generalize ((List.range s.length).filter fun x=>rep (sg s) x == x && @decide (aJ s.length (sg s) r x) (Classical.propDecidable _)).length=V at *
 generalize ((List.range s.length).filter fun x=>rep (fun d=>sg s (mt d)) x == x && @decide (aJ s.length (sg s) r x) (Classical.propDecidable _)).length=F at *
 have h4:0≤2 - (V:Int)+((T / 2:Nat):Int) - (F:Int):=by omega
 rw[Int.tdiv_eq_ediv_of_nonneg h4]
 refine⟨by omega,fun h0 i hi=>?_⟩
 exact k.GR he h2 h3 (by omega) hi
theorem qjz{ln:Nat}(hg:dn (iC s ln)=0){r:Nat}(hr:r<s.length):p9 s (bf s.length (sg s) r)=0:=by
 have hv:∀ x y,x<s.length→y<s.length→(aD (sg s) x=aD (sg s) y↔aH (sg s) x y):=fun x y hx hy=>h.dX hx hy
 have key:∀ x,x<s.length→0≤p9 s (bf s.length (sg s) x):=fun x hx=>by
  obtain⟨T,_,_,k⟩:=QU h he hv hx
  exact (qg8 h he hx k).1
 have e:dn (iC s ln)=(((List.range s.length).filter fun d=>aV s.length (sg s) d == d).map fun d=>p9 s (bf s.length (sg s) d)).sum:=by
  unfold dn iC nL
  rw[List.map_append,List.sum_append,List.map_map]
  have:∀ m:Nat,((List.replicate m ([-1,1,0,1,0]:List Int)).map fun p=>p.getD 4 0).sum=0:=fun m=>by
   induction m with
   | zero=>rfl
   | succ m ih=>rw[List.replicate_succ,List.map_cons,List.sum_cons,ih];rfl
  rw[this,Int.add_zero]
  rfl
 obtain⟨_,h2⟩:=qn4 (((List.range s.length).filter fun d=>aV s.length (sg s) d == d).map fun d=>p9 s (bf s.length (sg s) d)) (fun x hx=>by
  obtain⟨d,hd,rfl⟩:=List.mem_map.1 hx
  exact key d (List.mem_range.1 (List.mem_filter.1 hd).1))
 have hcr:=h.jC he hr
 have h3:=h2 (p9 s (bf s.length (sg s) (aV s.length (sg s) r))) (List.mem_map.2 ⟨aV s.length (sg s) r,List.mem_filter.2 ⟨List.mem_range.2 hcr,by rw[h.fP he hr];simp⟩,rfl⟩)
 have h4:bf s.length (sg s) (aV s.length (sg s) r)=bf s.length (sg s) r:=((h.gB he hr hcr).2 (yD _ _ _)).symm
 rw[h4,← e,hg] at h3
 have:=key r hr
 omega
end
open Classical in
noncomputable def wT(s:List Nat)(r:Nat):Nat:=if h:∃ T,eu s.length (sg s) (aD (sg s)) r T then h.choose else 0
noncomputable def wK(s:List Nat)(r:Nat):List Nat:=gq (aX (sg s) (aD (sg s)) r (wT s r)).2
noncomputable def DA(s:List Nat):List Nat→Nat→Nat
 | [],_=>0
 | r :: rs,p=>if p<wT s r then (aX (sg s) (aD (sg s)) r p).1 else DA s rs (p - wT s r)
theorem WC(s:List Nat)(r:Nat):(wK s r).length=wT s r:=by unfold wK;rw[GL,rO]
theorem eu.Ac{s:List Nat}{r T:Nat}(h:eu s.length (sg s) (aD (sg s)) r T):wT s r=T:=by
 unfold wT
 have hx:∃ T,eu s.length (sg s) (aD (sg s)) r T:=⟨T,h⟩
 rw[dif_pos hx]
 exact hx.choose_spec.unique h
theorem eu.vU{s:List Nat}{r T:Nat}(h:eu s.length (sg s) (aD (sg s)) r T):wK s r=gq (aX (sg s) (aD (sg s)) r T).2:=by
 unfold wK
 rw[h.Ac]
theorem qL.tnP{n:Nat}{S:Nat→Nat}{root T:Nat}{D:Nat→Nat}{ks:List Nat}(k:qL n S root T D ks)(hm:∀ i,i<T→D (mp ks i)=mt (D i)){i:Nat}(hi:i<T):S (D i)=D (tn ks i):=by
 have hw:Wd ks:=k.right.wd
 have hl:=k.len
 have hil:i<ks.length:=by omega
 unfold tn
 rw[hl]
 by_cases h2:ks.getD i 0<2
 ·have hml:=hw.dS hil
  rw[if_pos h2,k.next _ (by omega),if_pos ((hw.Dv hil).2 h2),hm i hi,bD]
 ·rw[if_neg h2,k.next i hi,if_neg h2]
section
variable {s:List Nat} (h:aM s.length (sg s)) (he:s.length % 2=0)
include h he
theorem NK{r:Nat}(hr:r<s.length):eu s.length (sg s) (aD (sg s)) r (wT s r)∧qL s.length (sg s) r (wT s r) (fun i=>(aX (sg s) (aD (sg s)) r i).1) (wK s r):=by
 obtain⟨T,h1,_,h2⟩:=QU h he (fun x y hx hy=>h.dX hx hy) hr
 have e:=h1.Ac
 have e2:=h1.vU
 rw[e,e2]
 exact⟨h1,h2⟩
structure oJ (s:List Nat)(rs:List Nat):Prop where
 lt:∀ r ∈ rs,r<s.length
 apart:rs.Pairwise fun a b=>¬ aJ s.length (sg s) a b
 flat:∀ r ∈ rs,p9 s (bf s.length (sg s) r)=0
theorem oJ.NM{rs:List Nat}(k:oJ s rs):eD (rs.map (wK s)):=fun x hx=>by
 obtain⟨r,hr,rfl⟩:=List.mem_map.1 hx
 obtain⟨_,h1⟩:=NK h he (k.lt r hr)
 exact⟨h1.right,by rw[WC];exact h1.pos⟩
theorem oJ.walks:∀ {rs:List Nat},oJ s rs→(∀ i,i<(rs.map (wK s)).flatten.length→DA s rs i<s.length∧(∃ r ∈ rs,aJ s.length (sg s) r (DA s rs i))∧DA s rs (mp (rs.map (wK s)).flatten i)=mt (DA s rs i)∧sg s (DA s rs i)=DA s rs (Ab (rs.map (wK s)) i)) ∧
  (∀ i j,i<(rs.map (wK s)).flatten.length→j<(rs.map (wK s)).flatten.length→DA s rs i=DA s rs j→i=j)∧(∀ x r,r ∈ rs→x<s.length→aJ s.length (sg s) r x→∃ i,i<(rs.map (wK s)).flatten.length∧DA s rs i=x)
 | [],_=>⟨fun i hi=>by simp at hi,fun i j hi=>by simp at hi,fun x r hr=>by simp at hr⟩
 | r :: rs,k=>by
  have hr:=k.lt r (by simp)
  have k':oJ s rs:=⟨fun x hx=>k.lt x (by simp[hx]),(List.pairwise_cons.1 k.apart).2,fun x hx=>k.flat x (by simp[hx])⟩
  obtain⟨ih1,ih2,ih3⟩:=oJ.walks k'
  obtain⟨_,w⟩:=NK h he hr
  have hm:=(qg8 h he hr w).2 (k.flat r (by simp))
  have hW:=w.right
  have hok:=k'.NM h he
  have hF:=hok.flat
  have hab:Wd (wK s r ++ (rs.map (wK s)).flatten):=(hW.app hF).wd
  have hlen:=w.len
  rw[List.map_cons,List.flatten_cons]
  have hDl:∀ i,i<wT s r→DA s (r :: rs) i=(aX (sg s) (aD (sg s)) r i).1:=fun i hi=>by show (if i<wT s r then _ else _)=_;rw[if_pos hi]
  have ET:∀ i,DA s (r :: rs) ((wK s r).length+i)=DA s rs i:=fun i=>by
   show (if (wK s r).length+i<wT s r then _ else _)=_
   rw[hlen,if_neg (by omega),Nat.add_sub_cancel_left]
  have hsep:∀ i j,i<wT s r→j<(rs.map (wK s)).flatten.length→(aX (sg s) (aD (sg s)) r i).1≠DA s rs j:=fun i j hi hj e=>by
   obtain⟨_,⟨r',hr',hc⟩,_⟩:=ih1 j hj
   have h1:=w.conn he i hi
   have h1:aJ s.length (sg s) r (aX (sg s) (aD (sg s)) r i).1:=h1
   rw[e] at h1
   exact (List.pairwise_cons.1 k.apart).1 r' hr' (h1.trans (h.gP he (k'.lt r' hr') hc))
  refine⟨fun i hi=>?_,fun i j hi hj e=>?_,fun x r' hr' hx hc=>?_⟩
  ·rw[List.length_append] at hi
   rcases Nat.lt_or_ge i (wK s r).length with h1|h1
   ·have FX:i<wT s r:=by omega
    have hml:=hW.wd.dS h1
    have htl:=hW.wd.fF.lt i h1
    rw[qjs hW.wd hab h1,hDl i FX,hDl _ (by omega)]
    refine⟨w.lt i FX,⟨r,by simp,w.conn he i FX⟩,hm i FX,?_⟩
    show _=DA s (r :: rs) (if i<(wK s r).length then tn (wK s r) i else _)
    rw[if_pos h1,hDl _ (by omega)]
    exact w.tnP hm FX
   ·obtain⟨j,rfl⟩:=Nat.exists_eq_add_of_le h1
    have hj:j<(rs.map (wK s)).flatten.length:=by omega
    obtain⟨a1,⟨r',hr',a2⟩,a3,a4⟩:=ih1 j hj
    rw[qjt hW.wd hF.wd hab hj,ET,ET]
    refine⟨a1,⟨r',by simp[hr'],a2⟩,a3,?_⟩
    show _=DA s (r :: rs) (if (wK s r).length+j<(wK s r).length then _ else (wK s r).length+Ab (rs.map (wK s)) ((wK s r).length+j - (wK s r).length))
    rw[if_neg (by omega),Nat.add_sub_cancel_left,ET]
    exact a4
  ·rw[List.length_append] at hi hj
   rcases Nat.lt_or_ge i (wK s r).length with h1|h1 <;> rcases Nat.lt_or_ge j (wK s r).length with h2|h2
   ·rw[hDl i (by omega),hDl j (by omega)] at e
    exact w.inj i j (by omega) (by omega) e
   ·obtain⟨j',rfl⟩:=Nat.exists_eq_add_of_le h2
    rw[hDl i (by omega),ET] at e
    exact absurd e (hsep i j' (by omega) (by omega))
   ·obtain⟨i',rfl⟩:=Nat.exists_eq_add_of_le h1
    rw[hDl j (by omega),ET] at e
    exact absurd e.symm (hsep j i' (by omega) (by omega))
   ·obtain⟨i',rfl⟩:=Nat.exists_eq_add_of_le h1
    obtain⟨j',rfl⟩:=Nat.exists_eq_add_of_le h2
    rw[ET,ET] at e
    rw[ih2 i' j' (by omega) (by omega) e]
  ·rw[List.length_append]
   rcases List.mem_cons.1 hr' with rfl|hr'
   ·obtain⟨i,hi,e⟩:=w.sN x hx hc
    exact⟨i,by omega,by rw[hDl i hi];exact e⟩
   ·obtain⟨i,hi,e⟩:=ih3 x r' hr' hx hc
    exact⟨(wK s r).length+i,by omega,by rw[ET];exact e⟩
open Classical in
noncomputable def jF(s:List Nat)(r:Nat):List Nat:=r :: ((List.range s.length).filter fun d=>aV s.length (sg s) d == d && !decide (aJ s.length (sg s) r d))
omit h he in
theorem RH{s:List Nat}{r d:Nat}(hd:d ∈ (jF s r).tail):d<s.length∧aV s.length (sg s) d=d∧¬ aJ s.length (sg s) r d:=by
 unfold jF at hd
 simp only [List.tail_cons,List.mem_filter,List.mem_range,Bool.and_eq_true,beq_iff_eq,Bool.not_eq_true',decide_eq_false_iff_not] at hd
 exact hd
theorem qd6{ln:Nat}(hg:dn (iC s ln)=0){r:Nat}(hr:r<s.length):oJ s (jF s r):=by
 have hlt:∀ x ∈ jF s r,x<s.length:=fun x hx=>by
  rcases List.mem_cons.1 hx with rfl|hx
  ·exact hr
  ·exact (RH hx).1
 refine⟨hlt,?_,fun x hx=>qjz h he hg (hlt x hx)⟩
 refine List.pairwise_cons.2 ⟨fun x hx=>(RH (s:=s) (r:=r) hx).2.2,?_⟩
 have hnd:((jF s r).tail).Nodup:=List.Pairwise.filter _ List.nodup_range
 refine List.Pairwise.imp_of_mem (fun {x y} hx hy hxy hc=>hxy ?_) hnd
 obtain⟨x1,x2,_⟩:=RH hx
 obtain⟨y1,y2,_⟩:=RH hy
 rw[← x2,← y2]
 exact (h.iq he x1 y1).2 hc
open Classical in
theorem qhd{r x:Nat}(hx:x<s.length):∃ r' ∈ jF s r,aJ s.length (sg s) r' x:=by
 by_cases hc:aJ s.length (sg s) r x
 ·exact⟨r,by simp[jF],hc⟩
 ·have h1:=yD s.length (sg s) x
  have h2:=h.jC he hx
  have h3:=h.gP he hx h1
  refine⟨aV s.length (sg s) x,?_,h3⟩
  unfold jF
  refine List.mem_cons_of_mem _ (List.mem_filter.2 ⟨List.mem_range.2 h2,?_⟩)
  have h4:¬ aJ s.length (sg s) r (aV s.length (sg s) x):=fun h5=>hc (h5.trans h3)
  rw[h.fP he hx,decide_eq_false h4]
  simp
noncomputable def bU(s:List Nat)(r:Nat):List (List Nat):=(jF s r).map (wK s)
theorem walks_all{ln:Nat}(hg:dn (iC s ln)=0){r:Nat}(hr:r<s.length):NJ s.length (sg s) (DA s (jF s r)) (bU s r)∧DA s (jF s r) 0=r:=by
 have k:=qd6 h he hg hr
 obtain⟨h1,h2,h3⟩:=k.walks h he
 have hok:=k.NM h he
 have hlen:(bU s r).flatten.length=s.length:=by
  have h4:=Ur (l:=(List.range (bU s r).flatten.length).map (DA s (jF s r))) (m:=List.range s.length) (by
   rw[List.Nodup,List.pairwise_map]
   refine List.Pairwise.imp_of_mem (fun {x y} hx hy hxy e=>hxy ?_) (List.nodup_range (n:=(bU s r).flatten.length))
   exact h2 x y (List.mem_range.1 hx) (List.mem_range.1 hy) e) List.nodup_range (fun x=>by
   simp only [List.mem_map,List.mem_range]
   constructor
   ·rintro⟨i,hi,rfl⟩
    exact (h1 i hi).1
   ·intro hx
    obtain⟨r',hr',hc⟩:=qhd h he hx
    exact h3 x r' hr' hx hc)
  rw[List.length_map,List.length_range,List.length_range] at h4
  exact h4
 refine⟨⟨⟨hok.flat.wd,hlen,⟨fun i hi=>(h1 i (by rw[← hlen] at hi;exact hi)).1,fun i j hi hj e=>h2 i j (by rw[← hlen] at hi;exact hi) (by rw[← hlen] at hj;exact hj) e⟩,fun i hi=>(h1 i (by rw[← hlen] at hi;exact hi)).2.2.1⟩,hok,fun i hi=>(h1 i (by rw[← hlen] at hi;exact hi)).2.2.2⟩,?_⟩
 obtain⟨_,w⟩:=NK h he hr
 show (if 0<wT s r then (aX (sg s) (aD (sg s)) r 0).1 else _)=r
 rw[if_pos w.pos]
 rfl
end
end
section
def aS(p q:List Nat):List Nat:=p ++ q.map (p.length + ·)
theorem RI(p:List Nat)(ps:List (List Nat)):bH (p :: ps)=aS p (bH ps):=rfl
theorem oV(p q:List Nat):(aS p q).length=p.length+q.length:=by simp[aS]
theorem jK{p q:List Nat}{x:Nat}(h:x<p.length):sg (aS p q) x=sg p x:=by
 unfold sg aS
 rw[List.getD_eq_getElem?_getD,List.getElem?_append_left h,← List.getD_eq_getElem?_getD]
theorem jL{p q:List Nat}{x:Nat}(h:x<q.length):sg (aS p q) (p.length+x)=p.length+sg q x:=by
 unfold sg aS
 rw[List.getD_eq_getElem?_getD,List.getElem?_append_right (by omega),Nat.add_sub_cancel_left,List.getElem?_map,List.getElem?_eq_getElem h,List.getD_eq_getElem?_getD,List.getElem?_eq_getElem h]
 rfl
theorem RJ{a x:Nat}(h:a % 2=0):mt (a+x)=a+mt x:=by unfold mt;split <;> split <;> omega
theorem RL{a b x:Nat}(h:x<a+b):x<a∨∃ y,x=a+y∧y<b:=by
 rcases Nat.lt_or_ge x a with h1|h1
 ·exact .inl h1
 ·exact .inr ⟨x - a,by omega,by omega⟩
section
variable {p q:List Nat} (hp:aM p.length (sg p)) (hq:aM q.length (sg q))
include hp hq
theorem NP:aM (aS p q).length (sg (aS p q)):=by
 rw[oV]
 refine⟨fun x hx=>?_,fun x y hx hy e=>?_⟩
 ·rcases RL hx with h|⟨y,rfl,h⟩
  ·rw[jK h];have:=hp.lt x h;omega
  ·rw[jL h];have:=hq.lt y h;omega
 ·rcases RL hx with h|⟨u,rfl,h⟩ <;> rcases RL hy with h' | ⟨v,rfl,h'⟩
  ·rw[jK h,jK h'] at e;exact hp.inj _ _ h h' e
  ·rw[jK h,jL h'] at e;have:=hp.lt x h;omega
  ·rw[jL h,jK h'] at e;have:=hp.lt y h';omega
  ·rw[jL h,jL h'] at e
   rw[hq.inj u v h h' (by omega)]
theorem qoz{x:Nat}(h:x<p.length)(k:Nat):bg (sg (aS p q)) k x=bg (sg p) k x:=by
 have _:=hq
 induction k with
 | zero=>rfl
 | succ k ih =>
  show sg (aS p q) (bg (sg (aS p q)) k x)=sg p (bg (sg p) k x)
  rw[ih,jK (hp.bV h k)]
theorem qp{x:Nat}(h:x<q.length)(k:Nat):bg (sg (aS p q)) k (p.length+x)=p.length+bg (sg q) k x:=by
 have _:=hp
 induction k with
 | zero=>rfl
 | succ k ih =>
  show sg (aS p q) (bg (sg (aS p q)) k (p.length+x))=p.length+sg q (bg (sg q) k x)
  rw[ih,jL (hq.bV h k)]
theorem qf{x y:Nat}(h:x<p.length):aH (sg (aS p q)) x y↔aH (sg p) x y:=by
 unfold aH
 simp only [qoz hp hq h]
theorem WE{x z:Nat}(h:x<q.length):aH (sg (aS p q)) (p.length+x) z↔∃ y,z=p.length+y∧aH (sg q) x y:=by
 unfold aH
 simp only [qp hp hq h]
 constructor
 ·rintro⟨k,rfl⟩;exact⟨_,rfl,k,rfl⟩
 ·rintro⟨y,rfl,k,rfl⟩;exact⟨k,rfl⟩
theorem qp0{x:Nat}(h:x<p.length):rep (sg (aS p q)) x=rep (sg p) x:=by
 have hc:=NP hp hq
 have hx:x<(aS p q).length:=by rw[oV];omega
 exact Nat.le_antisymm (hc.iP hx ((qf hp hq h).2 (hp.cO h))) (hp.iP h ((qf hp hq h).1 (hc.cO hx)))
theorem qp1{x:Nat}(h:x<q.length):rep (sg (aS p q)) (p.length+x)=p.length+rep (sg q) x:=by
 have hc:=NP hp hq
 have hx:p.length+x<(aS p q).length:=by rw[oV];omega
 refine Nat.le_antisymm (hc.iP hx ((WE hp hq h).2 ⟨_,rfl,hq.cO h⟩)) ?_
 obtain⟨y,e,hy⟩:=(WE hp hq h).1 (hc.cO hx)
 have:=hq.iP h hy
 omega
end
section
variable {p q:List Nat} (hp:aM p.length (sg p)) (hq:aM q.length (sg q)) (ep:p.length % 2=0) (eq:q.length % 2=0)
include hp hq ep eq
theorem WG{x y:Nat}(h:x<p.length):aJ (aS p q).length (sg (aS p q)) x y↔aJ p.length (sg p) x y:=by
 have _:=hq
 constructor
 ·intro hc
  refine (hc (fun z=>z<p.length∧aJ p.length (sg p) x z) ⟨h,aJ.refl _ _ _⟩ (fun z _ hz=>?_)).2
  rw[jK hz.1]
  exact⟨⟨hp.lt z hz.1,hz.2.trans (aJ.turn hz.1)⟩,⟨aU ep hz.1,hz.2.trans (aJ.mate hz.1)⟩⟩
 ·intro hc
  refine hc (fun z=>aJ (aS p q).length (sg (aS p q)) x z) (aJ.refl _ _ _) (fun z hz hP=>?_)
  have hz':z<(aS p q).length:=by rw[oV];omega
  refine⟨?_,hP.trans (aJ.mate hz')⟩
  have:=hP.trans (aJ.turn hz')
  rwa [jK hz] at this
theorem WH{x z:Nat}(h:x<q.length):aJ (aS p q).length (sg (aS p q)) (p.length+x) z↔∃ y,z=p.length+y∧aJ q.length (sg q) x y:=by
 have _:=hp
 constructor
 ·intro hc
  obtain⟨y,e,_,hy⟩:=hc (fun z=>∃ y,z=p.length+y∧y<q.length∧aJ q.length (sg q) x y) ⟨x,rfl,h,aJ.refl _ _ _⟩ (fun z _ hz=>by
   obtain⟨y,rfl,hy,hc⟩:=hz
   rw[jL hy,RJ ep]
   exact⟨⟨_,rfl,hq.lt y hy,hc.trans (aJ.turn hy)⟩,⟨_,rfl,aU eq hy,hc.trans (aJ.mate hy)⟩⟩)
  exact⟨y,e,hy⟩
 ·rintro⟨y,rfl,hc⟩
  refine hc (fun z=>aJ (aS p q).length (sg (aS p q)) (p.length+x) (p.length+z)) (aJ.refl _ _ _) (fun z hz hP=>?_)
  have hz':p.length+z<(aS p q).length:=by rw[oV];omega
  have h1:=hP.trans (aJ.turn hz')
  have h2:=hP.trans (aJ.mate hz')
  rw[jL hz] at h1
  rw[RJ ep] at h2
  exact⟨h1,h2⟩
theorem RN{x:Nat}(h:x<p.length):aV (aS p q).length (sg (aS p q)) x=aV p.length (sg p) x :=
 Nat.le_antisymm (vI ((WG hp hq ep eq h).2 (yD _ _ _))) (vI ((WG hp hq ep eq h).1 (yD _ _ _)))
theorem RO{x:Nat}(h:x<q.length):aV (aS p q).length (sg (aS p q)) (p.length+x)=p.length+aV q.length (sg q) x:=by
 refine Nat.le_antisymm (vI ((WH hp hq ep eq h).2 ⟨_,rfl,yD _ _ _⟩)) ?_
 obtain⟨y,e,hy⟩:=(WH hp hq ep eq h).1 (yD _ _ _)
 have:=vI hy
 omega
theorem qk:∀ i,i≤p.length→aR (aS p q).length (sg (aS p q)) i=aR p.length (sg p) i:=by
 intro i
 induction i with
 | zero=>intro _;rfl
 | succ i ih =>
  intro hi
  rw[uF,uF,ih (by omega),RN hp hq ep eq (by omega)]
theorem qo0:∀ i,i≤q.length→aR (aS p q).length (sg (aS p q)) (p.length+i)=aR p.length (sg p) p.length+aR q.length (sg q) i:=by
 intro i
 induction i with
 | zero=>intro _;rw[Nat.add_zero,qk hp hq ep eq _ (Nat.le_refl _)];rfl
 | succ i ih =>
  intro hi
  rw[← Nat.add_assoc,uF,uF,ih (by omega),RO hp hq ep eq (by omega)]
  by_cases h1:aV q.length (sg q) i=i
  ·rw[if_pos h1,if_pos (by omega)];omega
  ·rw[if_neg h1,if_neg (by omega)];omega
theorem WI{x:Nat}(h:x<p.length):bf (aS p q).length (sg (aS p q)) x=bf p.length (sg p) x:=by
 unfold bf
 rw[RN hp hq ep eq h,qk hp hq ep eq _ (Nat.le_of_lt (hp.jC ep h))]
theorem WJ{x:Nat}(h:x<q.length):bf (aS p q).length (sg (aS p q)) (p.length+x)=aR p.length (sg p) p.length+bf q.length (sg q) x:=by
 unfold bf
 rw[RO hp hq ep eq h,qo0 hp hq ep eq _ (Nat.le_of_lt (hq.jC eq h))]
omit hp hq in
theorem NQ:aQ (aS p q)=aS (aQ p) (aQ q):=by
 apply List.ext_getElem
 ·rw[lT,oV,oV,lT,lT]
 intro x h1 h2
 rw[lT,oV] at h1
 have e1:(aQ (aS p q))[x]=sg (aS p q) (mt x):=by simp[aQ]
 have e2:(aS (aQ p) (aQ q))[x]=sg (aS (aQ p) (aQ q)) x:=by
  unfold sg
  rw[List.getD_eq_getElem?_getD,List.getElem?_eq_getElem h2];rfl
 rw[e1,e2]
 rcases RL h1 with h|⟨y,rfl,h⟩
 ·rw[jK (aU ep h),jK (by rw[lT];exact h),Dc h]
 ·have:=jL (p:=aQ p) (q:=aQ q) (x:=y) (by rw[lT];exact h)
  rw[lT] at this
  rw[this,RJ ep,jL (aU eq h),Dc h]
theorem vV{x:Nat}(h:x<p.length):sg (fG (aS p q)) x=sg (fG p) x:=by
 rw[vL (by rw[oV];omega),vL h,WI hp hq ep eq h]
theorem vW{x:Nat}(h:x<q.length):sg (fG (aS p q)) (p.length+x)=aR p.length (sg p) p.length+sg (fG q) x:=by
 rw[vL (by rw[oV];omega),vL h,WJ hp hq ep eq h]
omit hp hq ep eq in
theorem RP{a b:Nat}(P Q R:Nat→Bool)(hl:∀ x,x<a→P x=Q x)(hr:∀ x,x<b→P (a+x)=R x):((List.range (a+b)).filter P).length=((List.range a).filter Q).length+((List.range b).filter R).length:=by
 rw[List.range_add,List.filter_append,List.length_append,List.filter_map,List.length_map]
 congr 2
 ·exact List.filter_congr (fun x hx=>hl x (List.mem_range.1 hx))
 ·exact List.filter_congr (fun x hx=>hr x (List.mem_range.1 hx))
omit hp hq ep eq in
theorem RQ{b:Nat}{R:Nat→Bool}(h:∀ x,x<b→R x=false):((List.range b).filter R).length=0:=by
 rw[List.filter_eq_nil_iff.2 (fun x hx=>by rw[h x (List.mem_range.1 hx)];simp)];rfl
theorem NR(a b:List Nat)(ha:a.length=p.length)(hb:b.length=q.length)(hpa:aM a.length (sg a))(Ni:aM b.length (sg b))(c:Nat) :
  (c<aR p.length (sg p) p.length→mD (aS a b) (fG (aS p q)) c (aS p q).length=mD a (fG p) c p.length)∧mD (aS a b) (fG (aS p q)) (aR p.length (sg p) p.length+c) (aS p q).length=mD b (fG q) c q.length:=by
 have hl:∀ x,x<p.length→rep (sg (aS a b)) x=rep (sg a) x:=fun x hx=>qp0 hpa Ni (by omega)
 have hr:∀ x,x<q.length→rep (sg (aS a b)) (p.length+x)=p.length+rep (sg b) x:=fun x hx=>by
  have:=qp1 hpa Ni (x:=x) (by omega);rwa [ha] at this
 have hcn:∀ x,x<p.length→sg (fG p) x<aR p.length (sg p) p.length:=fun x hx=>by rw[vL hx];exact hp.jD ep hx
 unfold mD
 rw[oV]
 refine⟨fun hc=>?_,?_⟩
 ·rw[RP _ (fun d=>rep (sg a) d == d && sg (fG p) d == c) (fun _=>false) (fun x hx=>by rw[hl x hx,vV hp hq ep eq hx]) (fun x hx=>by
   rw[vW hp hq ep eq hx]
   have:(aR p.length (sg p) p.length+sg (fG q) x == c)=false:=by rw[beq_eq_false_iff_ne];omega
   rw[this,Bool.and_false]),RQ (fun _ _=>rfl),Nat.add_zero]
 ·rw[RP _ (fun _=>false) (fun d=>rep (sg b) d == d && sg (fG q) d == c) (fun x hx=>by
   rw[vV hp hq ep eq hx]
   have:=hcn x hx
   have:(sg (fG p) x == aR p.length (sg p) p.length+c)=false:=by rw[beq_eq_false_iff_ne];omega
   rw[this,Bool.and_false]) (fun x hx=>by
   rw[hr x hx,vW hp hq ep eq hx]
   congr 1
   ·exact Bool.eq_iff_iff.2 (by simp)
   ·exact Bool.eq_iff_iff.2 (by simp)),RQ (fun _ _=>rfl),Nat.zero_add]
theorem NT(c:Nat):(c<aR p.length (sg p) p.length→j3 (fG (aS p q)) c (aS p q).length=j3 (fG p) c p.length)∧j3 (fG (aS p q)) (aR p.length (sg p) p.length+c) (aS p q).length=j3 (fG q) c q.length:=by
 have hcn:∀ x,x<p.length→sg (fG p) x<aR p.length (sg p) p.length:=fun x hx=>by rw[vL hx];exact hp.jD ep hx
 unfold j3
 rw[oV]
 refine⟨fun hc=>?_,?_⟩
 ·rw[RP _ (fun d=>sg (fG p) d == c) (fun _=>false) (fun x hx=>by rw[vV hp hq ep eq hx]) (fun x hx=>by
   rw[vW hp hq ep eq hx,beq_eq_false_iff_ne];omega),RQ (fun _ _=>rfl),Nat.add_zero]
 ·rw[RP _ (fun _=>false) (fun d=>sg (fG q) d == c) (fun x hx=>by
   have:=hcn x hx
   rw[vV hp hq ep eq hx,beq_eq_false_iff_ne];omega) (fun x hx=>by
   rw[vW hp hq ep eq hx]
   exact Bool.eq_iff_iff.2 (by simp)),RQ (fun _ _=>rfl),Nat.zero_add]
theorem EU(c:Nat):(c<aR p.length (sg p) p.length→p9 (aS p q) c=p9 p c)∧p9 (aS p q) (aR p.length (sg p) p.length+c)=p9 q c:=by
 have WK:=MS hp ep
 have WL:=MS hq eq
 have h1:=NR hp hq ep eq p q rfl rfl hp hq c
 have h2:=NR hp hq ep eq (aQ p) (aQ q) (lT p) (lT q) WK WL c
 have h3:=NT hp hq ep eq c
 rw[← NQ ep eq] at h2
 unfold p9 Hr Ht EC
 refine⟨fun hc=>?_,?_⟩
 ·rw[h1.1 hc,h2.1 hc,h3.1 hc]
 ·rw[h1.2,h2.2,h3.2]
theorem NU(ln:Nat):dn (iC (aS p q) ln)=dn (iC p 0)+dn (iC q ln):=by
 have hrep:∀ m:Nat,((List.replicate m ([-1,1,0,1,0]:List Int)).map fun p=>p.getD 4 0).sum=0:=fun m=>by
  induction m with
  | zero=>rfl
  | succ m ih=>rw[List.replicate_succ,List.map_cons,List.sum_cons,ih];rfl
 have key:∀ (s:List Nat) (m:Nat),dn (iC s m)=(((List.range s.length).filter fun d=>aV s.length (sg s) d == d).map fun d=>p9 s (bf s.length (sg s) d)).sum:=fun s m=>by
  unfold dn iC nL
  rw[List.map_append,List.sum_append,List.map_map,hrep,Int.add_zero]
  rfl
 rw[key,key,key]
 have e:(List.range (aS p q).length).filter (fun d=>aV (aS p q).length (sg (aS p q)) d == d)=((List.range p.length).filter fun d=>aV p.length (sg p) d == d) ++ ((List.range q.length).filter fun d=>aV q.length (sg q) d == d).map (p.length + ·):=by
  conv=>lhs;arg 2;rw[oV]
  rw[List.range_add,List.filter_append,List.filter_map]
  congr 1
  ·exact List.filter_congr (fun x hx=>by rw[RN hp hq ep eq (List.mem_range.1 hx)])
  ·congr 1
   exact List.filter_congr (fun x hx=>by
    show (aV _ _ (p.length+x) == p.length+x)=_
    rw[RO hp hq ep eq (List.mem_range.1 hx)]
    exact Bool.eq_iff_iff.2 (by simp))
 rw[e,List.map_append,List.sum_append,List.map_map]
 congr 2
 ·refine List.map_congr_left (fun x hx=>?_)
  have hx:=List.mem_range.1 (List.mem_filter.1 hx).1
  rw[WI hp hq ep eq hx,(EU hp hq ep eq _).1 (hp.jD ep hx)]
 ·refine List.map_congr_left (fun x hx=>?_)
  have hx:=List.mem_range.1 (List.mem_filter.1 hx).1
  show p9 _ (bf _ _ (p.length+x))=_
  rw[WJ hp hq ep eq hx,(EU hp hq ep eq _).2]
end
theorem qga{n0:Nat}{f:Nat→Nat}(he:n0 % 2=0)(hm:∀ x,x<n0→f (mt x)=mt (f x))(hi:∀ x y,x<n0→y<n0→f x=f y→x=y){d:Nat}(hd:d<n0) :
  ∀ out:List (Nat × Nat),(∀ p ∈ out,p.1<n0)→(out.map fun p=>(f p.1,p.2)).find? (fun p=>p.1 / 2 == f d / 2)=(out.find? (fun p=>p.1 / 2 == d / 2)).map fun p=>(f p.1,p.2)
 | [],_=>rfl
 | p :: out,h=>by
  have hp:=h p (by simp)
  have ih:=qga he hm hi hd out (fun x hx=>h x (by simp[hx]))
  rw[List.map_cons,List.find?_cons,List.find?_cons]
  have e:((f p.1) / 2 == f d / 2)=(p.1 / 2 == d / 2):=by
   refine Bool.eq_iff_iff.2 ?_
   simp only [beq_iff_eq]
   constructor
   ·intro h1
    rcases Uu h1 with h2|h2
    ·rw[hi _ _ hd hp h2]
    ·rw[← hm _ hp] at h2
     rw[hi _ _ hd (aU he hp) h2,Ut]
   ·intro h1
    rcases Uu h1 with h2|h2
    ·rw[h2]
    ·rw[h2,hm _ hp,Ut]
  rw[e,ih]
  cases p.1 / 2 == d / 2 <;> rfl
theorem qm8{n0:Nat}{v0 v f:Nat→Nat}(he:n0 % 2=0)(hm:∀ x,x<n0→f (mt x)=mt (f x))(hi:∀ x y,x<n0→y<n0→f x=f y→x=y)(hv:∀ x y,x<n0→y<n0→(v (f x)=v (f y)↔v0 x=v0 y)){r d:Nat}(hr:r<n0)(hd:d<n0)(out:List (Nat × Nat))(ho:∀ p ∈ out,p.1<n0) :
  bJ v (f r) (out.map fun p=>(f p.1,p.2)) (f d)=bJ v0 r out d:=by
 unfold bJ
 rw[qga he hm hi hd out ho]
 cases hf:out.find? (fun p=>p.1 / 2 == d / 2) with
 | some p=>rfl
 | none =>
  show (if dB v (f r) _ (v (mt (f d))) then 2 else 0)=(if dB v0 r out (v0 (mt d)) then 2 else 0)
  have e:dB v (f r) (out.map fun p=>(f p.1,p.2)) (v (mt (f d)))=dB v0 r out (v0 (mt d)):=by
   unfold dB
   rw[← hm d hd,List.any_map]
   have h1:(v (f (mt d)) == v (f r))=(v0 (mt d) == v0 r):=by
    refine Bool.eq_iff_iff.2 ?_
    simp only [beq_iff_eq]
    exact hv _ _ (aU he hd) hr
   rw[h1]
   congr 1
   refine Bool.eq_iff_iff.2 ?_
   simp only [List.any_eq_true,Function.comp,Bool.and_eq_true,beq_iff_eq]
   refine exists_congr (fun p=>and_congr_right (fun hp=>and_congr_right (fun _=>?_)))
   rw[← hm _ (ho p hp)]
   exact hv _ _ (aU he (ho p hp)) (aU he hd)
  rw[e]
theorem qo1{n0:Nat}{S0 S v0 v f:Nat→Nat}(hP:aM n0 S0)(he:n0 % 2=0)(hf:∀ x,x<n0→S (f x)=f (S0 x))(hm:∀ x,x<n0→f (mt x)=mt (f x))(hi:∀ x y,x<n0→y<n0→f x=f y→x=y)(hv:∀ x y,x<n0→y<n0→(v (f x)=v (f y)↔v0 x=v0 y)){r:Nat}(hr:r<n0) :
  ∀ j,(aX S v (f r) j).1=f (aX S0 v0 r j).1∧(aX S v (f r) j).2=(aX S0 v0 r j).2.map (fun p=>(f p.1,p.2))∧(aX S0 v0 r j).1<n0∧∀ p ∈ (aX S0 v0 r j).2,p.1<n0:=by
 intro j
 induction j with
 | zero=>exact⟨rfl,rfl,hr,fun p hp=>by simp[aX] at hp⟩
 | succ j ih =>
  obtain⟨i1,i2,i3,i4⟩:=ih
  have hk:=qm8 he hm hi hv hr i3 _ i4
  rw[← i1,← i2] at hk
  have h1:(aX S v (f r) (j+1)).1=S (if bJ v (f r) (aX S v (f r) j).2 (aX S v (f r) j).1<2 then mt (aX S v (f r) j).1 else (aX S v (f r) j).1):=rfl
  have h2:(aX S0 v0 r (j+1)).1=S0 (if bJ v0 r (aX S0 v0 r j).2 (aX S0 v0 r j).1<2 then mt (aX S0 v0 r j).1 else (aX S0 v0 r j).1):=rfl
  have h3:(aX S v (f r) (j+1)).2=(aX S v (f r) j).2 ++ [((aX S v (f r) j).1,bJ v (f r) (aX S v (f r) j).2 (aX S v (f r) j).1)]:=rfl
  have h4:(aX S0 v0 r (j+1)).2=(aX S0 v0 r j).2 ++ [((aX S0 v0 r j).1,bJ v0 r (aX S0 v0 r j).2 (aX S0 v0 r j).1)]:=rfl
  rw[h1,h2,h3,h4,hk]
  have hlt:(if bJ v0 r (aX S0 v0 r j).2 (aX S0 v0 r j).1<2 then mt (aX S0 v0 r j).1 else (aX S0 v0 r j).1)<n0:=by
   split
   ·exact aU he i3
   ·exact i3
  refine⟨?_,by rw[i2,List.map_append,i1];rfl,hP.lt _ hlt,fun p hp=>?_⟩
  ·rw[← hf _ hlt]
   congr 1
   split
   ·rw[i1,hm _ i3]
   ·exact i1
  ·rcases List.mem_append.1 hp with h|h
   ·exact i4 p h
   ·simp only [List.mem_singleton] at h
    rw[h];exact i3
theorem eu.map{n0 n:Nat}{S0 S v0 v f:Nat→Nat}(hP:aM n0 S0)(he:n0 % 2=0)(hf:∀ x,x<n0→S (f x)=f (S0 x))(hm:∀ x,x<n0→f (mt x)=mt (f x))(hi:∀ x y,x<n0→y<n0→f x=f y→x=y)(hv:∀ x y,x<n0→y<n0→(v (f x)=v (f y)↔v0 x=v0 y)){r:Nat}(hr:r<n0)
  (hn:n0≤n)(hfn:∀ x,x<n0→f x<n)(hc:∀ z,aJ n S (f r) z↔∃ y,z=f y∧y<n0∧aJ n0 S0 r y){T:Nat}(k:eu n0 S0 v0 r T) :
  eu n S v (f r) T∧gq (aX S v (f r) T).2=gq (aX S0 v0 r T).2:=by
 have hw:=qo1 hP he hf hm hi hv hr
 have hk:∀ j,gq (aX S v (f r) j).2=gq (aX S0 v0 r j).2:=fun j=>by
  rw[(hw j).2.1]
  unfold gq
  rw[List.map_map]
  rfl
 have nY:∀ j x,vis (aX S v (f r) j).2 x↔∃ y,x=f y∧vis (aX S0 v0 r j).2 y:=fun j x=>by
  rw[(hw j).2.1]
  unfold vis
  simp only [List.mem_map,Prod.mk.injEq,Prod.exists]
  constructor
  ·rintro⟨c,a,b,h1,h2,h3⟩
   exact⟨a,h2.symm,b,h1⟩
  ·rintro⟨y,h1,c,h2⟩
   exact⟨c,y,c,h2,h1.symm,rfl⟩
 refine⟨?_,hk T⟩
 refine { right:=by rw[hk T];exact k.right,nd:=?_,sN:=fun x hx=>?_,lt:=fun x hx=>?_,cur:=fun j hj=>?_,k4:=fun j hj x c hx=>?_,le:=by have:=k.le;omega }
 ·rw[(hw T).2.1,List.map_map]
  have hnd:=k.nd
  rw[List.Nodup,List.pairwise_map] at hnd ⊢
  refine List.Pairwise.imp_of_mem (fun {x y} hx hy hxy e=>hxy ?_) hnd
  exact hi _ _ ((hw T).2.2.2 x hx) ((hw T).2.2.2 y hy) e
 ·rw[hc,nY]
  constructor
  ·rintro⟨y,h1,h2,h3⟩
   exact⟨y,h1,(k.sN y h2).1 h3⟩
  ·rintro⟨y,h1,h2⟩
   exact⟨y,h1,k.lt y h2,(k.sN y (k.lt y h2)).2 h2⟩
 ·obtain⟨y,rfl,hy⟩:=(nY T x).1 hx
  exact hfn y (k.lt y hy)
 ·obtain⟨c1,c2⟩:=k.cur j hj
  rw[(hw j).1]
  refine⟨hfn _ c1,fun hx=>?_⟩
  obtain⟨y,e,hy⟩:=(nY j _).1 hx
  obtain⟨c,hc⟩:=hy
  have:=hi _ _ c1 ((hw j).2.2.2 _ hc) e
  exact c2 ⟨c,this ▸ hc⟩
 ·rw[(hw j).2.1] at hx
  simp only [List.mem_map,Prod.mk.injEq,Prod.exists] at hx
  obtain⟨a,b,h1,h2,rfl⟩:=hx
  exact k.k4 j hj a b h1
theorem NV{p q:List Nat}(hp:aM p.length (sg p))(hq:aM q.length (sg q))(ep:p.length % 2=0)(eq:q.length % 2=0){r:Nat}(hr:r<p.length):wK (aS p q) r=wK p r:=by
 have hc:=NP hp hq
 have h1:=(NK hp ep hr).1
 have hl:=oV p q
 obtain⟨h2,h3⟩:=eu.map (n:=(aS p q).length) (S:=sg (aS p q)) (v:=aD (sg (aS p q))) (f:=fun x=>x) hp ep (fun x hx=>jK hx) (fun _ _=>rfl) (fun _ _ _ _ e=>e) (fun x y hx hy=>by
  show aD (sg (aS p q)) x=aD (sg (aS p q)) y↔_
  rw[hc.dX (by omega) (by omega),hp.dX hx hy]
  exact qf hp hq hx) hr (by omega) (fun x hx=>by show x<_;omega) (fun z=>by
  show aJ _ _ r z↔_
  rw[WG hp hq ep eq hr]
  constructor
  ·intro h;exact⟨z,rfl,hp.qF ep hr h,h⟩
  ·rintro⟨y,rfl,_,h⟩;exact h) h1
 have h4:=h2.vU
 show wK _ ((fun x=>x) r)=_
 rw[h4,h3]
 rfl
theorem NW{p q:List Nat}(hp:aM p.length (sg p))(hq:aM q.length (sg q))(ep:p.length % 2=0)(eq:q.length % 2=0){r:Nat}(hr:r<q.length):wK (aS p q) (p.length+r)=wK q r:=by
 have hc:=NP hp hq
 have h1:=(NK hq eq hr).1
 have hl:=oV p q
 obtain⟨h2,h3⟩:=eu.map (n:=(aS p q).length) (S:=sg (aS p q)) (v:=aD (sg (aS p q))) (f:=fun x=>p.length+x) hq eq (fun x hx=>jL hx) (fun x _=>(RJ ep).symm) (fun _ _ _ _ e=>Nat.add_left_cancel e) (fun x y hx hy=>by
  show aD (sg (aS p q)) (p.length+x)=aD (sg (aS p q)) (p.length+y)↔_
  rw[hc.dX (by omega) (by omega),hq.dX hx hy,WE hp hq hx]
  constructor
  ·rintro⟨z,e,h⟩;rw[Nat.add_left_cancel e];exact h
  ·intro h;exact⟨y,rfl,h⟩) hr (by omega) (fun x hx=>by show p.length+x<_;omega) (fun z=>by
  show aJ _ _ (p.length+r) z↔_
  rw[WH hp hq ep eq hr]
  constructor
  ·rintro⟨y,rfl,h⟩;exact⟨y,rfl,hq.qF eq hr h,h⟩
  ·rintro⟨y,rfl,_,h⟩;exact⟨y,rfl,h⟩) h1
 have h4:=h2.vU
 show wK _ ((fun x=>p.length+x) r)=_
 rw[h4,h3]
 rfl
theorem qp2{k:List Nat}(h:bZ k)(hn:0<k.length):wK (aG k) 0=k:=by
 have hl:=kJ k
 have h1:=(h.wd.nN h.canon hn).1
 have h2:eu (aG k).length (sg (aG k)) (aD (sg (aG k))) 0 k.length:=by rw[hl];exact h1
 rw[h2.vU]
 exact h.wd.ru h.canon hn
theorem NY:∀ {l:List (List Nat)},eD l→(bH (l.map aG)).length % 2=0
 | [],_=>rfl
 | k :: l,h=>by
  rw[List.map_cons,RI,oV,kJ]
  have h1:=(h k (by simp)).1.wd.jJ
  have h2:=NY (l:=l) (fun x hx=>h x (by simp[hx]))
  omega
def vX:List (List Nat)→List Nat
 | []=>[]
 | k :: l=>0 :: (vX l).map (k.length + ·)
theorem WM:∀ {l:List (List Nat)},eD l→(List.range (bH (l.map aG)).length).filter (fun d=>aV (bH (l.map aG)).length (sg (bH (l.map aG))) d == d)=vX l∧(vX l).map (wK (bH (l.map aG)))=l∧∀ ln,dn (iC (bH (l.map aG)) ln)=0
 | [],_=>by
  refine⟨rfl,rfl,fun ln=>?_⟩
  show dn (iC [] ln)=0
  have hp:iC [] ln=List.replicate ln [-1,1,0,1,0]:=rfl
  rw[hp]
  unfold dn
  have:∀ m:Nat,((List.replicate m ([-1,1,0,1,0]:List Int)).map fun p=>p.getD 4 0).sum=0:=fun m=>by
   induction m with
   | zero=>rfl
   | succ m ih=>rw[List.replicate_succ,List.map_cons,List.sum_cons,ih];rfl
  exact this ln
 | k :: l,h=>by
  have hk:=(h k (by simp)).1
  have hkn:=(h k (by simp)).2
  have hl:eD l:=fun x hx=>h x (by simp[hx])
  obtain⟨ih1,ih2,ih3⟩:=WM hl
  have hp:=hk.wd.eB
  have hq:=q2z hl
  have hlen:=kJ k
  have ep:(aG k).length % 2=0:=by rw[hlen];exact hk.wd.jJ
  have eq:=NY hl
  have hone:=hk.wd.tK hkn
  have hpl:=hk.wd.oI hkn
  rw[List.map_cons,RI]
  generalize bH (l.map aG)=q at *
  refine⟨?_,?_,fun ln=>?_⟩
  ·conv=>lhs;arg 2;rw[oV]
   rw[List.range_add,List.filter_append,List.filter_map]
   have e1:(List.range (aG k).length).filter (fun d=>aV (aS (aG k) q).length (sg (aS (aG k) q)) d == d)=[0]:=by
    have e2:(List.range (aG k).length).filter (fun d=>aV (aS (aG k) q).length (sg (aS (aG k) q)) d == d)=(List.range (aG k).length).filter (fun d=>d == 0):=by
     refine List.filter_congr (fun x hx=>?_)
     have hx:=List.mem_range.1 hx
     rw[RN hp hq ep eq hx]
     have h0:aV (aG k).length (sg (aG k)) x=0:=by
      have h1:=hone x (by rw[← hlen];exact hx)
      rw[← hlen] at h1
      have h2:=hp.gP ep (by omega) h1
      exact Nat.le_zero.1 (vI h2)
     rw[h0]
     refine Bool.eq_iff_iff.2 ?_
     simp only [beq_iff_eq]
     omega
    rw[e2]
    obtain⟨m,hm⟩:∃ m,(aG k).length=m+1:=⟨(aG k).length - 1,by omega⟩
    rw[hm,List.range_succ_eq_map,List.filter_cons]
    simp only [beq_self_eq_true,if_true,List.cons.injEq,true_and]
    rw[List.filter_eq_nil_iff]
    intro x hx
    obtain⟨y,_,rfl⟩:=List.mem_map.1 hx
    simp
   rw[e1]
   show 0 :: _=0 :: _
   rw[← ih1,hlen]
   refine congrArg (fun l=>0 :: List.map (k.length + ·) l) ?_
   refine List.filter_congr (fun x hx=>?_)
   show (aV _ _ (k.length+x) == k.length+x)=_
   have:=RO hp hq ep eq (x:=x) (List.mem_range.1 hx)
   rw[hlen] at this
   rw[this]
   exact Bool.eq_iff_iff.2 (by simp)
  ·show wK _ 0 :: ((vX l).map (k.length + ·)).map _=_
   rw[NV hp hq ep eq (by omega),qp2 hk hkn,List.map_map]
   congr 1
   conv=>rhs;rw[← ih2]
   refine List.map_congr_left (fun x hx=>?_)
   show wK _ (k.length+x)=_
   have hx':x<q.length:=by
    rw[← ih1] at hx
    exact List.mem_range.1 (List.mem_filter.1 hx).1
   have:=NW hp hq ep eq hx'
   rwa [hlen] at this
  ·rw[NU hp hq ep eq,hpl.2,ih3,Int.add_zero]
open Classical in
theorem qo2{l:List (List Nat)}(h:eD l)(hn:l≠[]):bU (bH (l.map aG)) 0=l:=by
 obtain⟨h1,h2,_⟩:=WM h
 have hP:=q2z h
 have he:=NY h
 have hpos:0<(bH (l.map aG)).length:=by
  cases l with
  | nil=>exact absurd rfl hn
  | cons k l =>
   rw[List.map_cons,RI,oV,kJ]
   have:=(h k (by simp)).2
   omega
 generalize bH (l.map aG)=s at *
 have hz:aV s.length (sg s) 0=0:=Nat.le_zero.1 (vI (aJ.refl _ _ _))
 have e:jF s 0=(List.range s.length).filter fun d=>aV s.length (sg s) d == d:=by
  unfold jF
  obtain⟨m,hm⟩:∃ m,s.length=m+1:=⟨s.length - 1,by omega⟩
  have e1:List.range s.length=0 :: (List.range m).map Nat.succ:=by rw[hm,List.range_succ_eq_map]
  rw[e1,List.filter_cons,List.filter_cons,hz]
  simp only [beq_self_eq_true,if_true,Bool.true_and]
  rw[decide_eq_true (aJ.refl _ _ _)]
  simp only [Bool.not_true,Bool.false_eq_true,if_false]
  congr 1
  refine List.filter_congr (fun x hx=>?_)
  obtain⟨y,hy,rfl⟩:=List.mem_map.1 hx
  have hyl:y.succ<s.length:=by have:=List.mem_range.1 hy;omega
  by_cases hc:aV s.length (sg s) y.succ=y.succ
  ·have:¬ aJ s.length (sg s) 0 y.succ:=fun h=>by
    have:=vI (hP.gP he hpos h)
    omega
   rw[decide_eq_false this,hc];simp
  ·have:(aV s.length (sg s) y.succ == y.succ)=false:=by rw[beq_eq_false_iff_ne];exact hc
   rw[this,Bool.false_and]
 unfold bU
 rw[e,h1,h2]
def fT(l:List (List Nat))(i:Nat):Nat:=((l.take i).flatten).length
theorem WO(l:List (List Nat)):fT l 0=0:=rfl
theorem qd7{l:List (List Nat)}{i:Nat}{k:List Nat}(h:l[i]? = some k):fT l (i+1)=fT l i+k.length:=by
 unfold fT
 rw[lX h,List.flatten_append,List.length_append]
 simp
theorem qgb(l:List (List Nat)):fT l l.length=l.flatten.length:=by unfold fT;rw[List.take_of_length_le (Nat.le_refl _)]
theorem qk0{l:List (List Nat)}{i:Nat}:fT l i≤l.flatten.length:=by
 unfold fT
 conv=>rhs;rw[← List.take_append_drop i l]
 rw[List.flatten_append,List.length_append]
 omega
theorem qd8(k:List Nat)(l:List (List Nat))(i:Nat):fT (k :: l) (i+1)=k.length+fT l i:=by simp[fT]
theorem qn5:∀ {l:List (List Nat)},eD l→∀ i k,l[i]? = some k→∀ x,x<k.length→fT l i+x<(bH (l.map aG)).length∧sg (bH (l.map aG)) (fT l i+x)=fT l i+sg (aG k) x∧bf (bH (l.map aG)).length (sg (bH (l.map aG))) (fT l i+x)=i
 | [],_,i,k,hi,_,_=>by simp at hi
 | k0 :: l,h,i,k,hi,x,hx=>by
  have hk:=(h k0 (by simp)).1
  have hkn:=(h k0 (by simp)).2
  have hl:eD l:=fun x hx=>h x (by simp[hx])
  have ih:=qn5 hl
  have hp:=hk.wd.eB
  have hq:=q2z hl
  have hlen:=kJ k0
  have ep:(aG k0).length % 2=0:=by rw[hlen];exact hk.wd.jJ
  have eq:=NY hl
  have hpl:=hk.wd.oI hkn
  rw[List.map_cons,RI]
  cases i with
  | zero =>
   simp only [List.getElem?_cons_zero,Option.some.injEq] at hi
   subst hi
   have hx':x<(aG k0).length:=by omega
   rw[WO,Nat.zero_add,Nat.zero_add,jK hx',WI hp hq ep eq hx',oV]
   have:=hp.jD ep hx'
   exact⟨by omega,rfl,by omega⟩
  | succ i =>
   rw[List.getElem?_cons_succ] at hi
   obtain⟨a1,a2,a3⟩:=ih i k hi x hx
   rw[qd8,← hlen,Nat.add_assoc,jL a1,WJ hp hq ep eq a1,a2,a3,oV,hpl.1]
   exact⟨by omega,by omega,by omega⟩
end
