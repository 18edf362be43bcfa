import Derived.Test.YtcfdpogegngplaaGreatZaDecPl
import Derived.Test.YtcfdpogegngplaaGreatZaEulers
set_option maxRecDepth 100000
set_option maxHeartbeats 4000000
namespace Go.Proofs.YtcfdpogegngplaaGreat
section
theorem q5k {ks:List Nat} {s i j:Nat} (h:PairW ks s i j) (hs:s<2):(s=0∧DD ks (j+1)=DD ks i∧∀ p,i<p→p≤j→DD ks i<DD ks p)∨(s=1∧BB ks (j+1)=BB ks i∧∀ p,i<p→p≤j→BB ks i<BB ks p):=by
 have hle:=h.le
 have hlt:=h.lt
 have h1:=h.hit
 have h2:=h.above
 have h01:s=0∨s=1:=by omega
 rcases h01 with rfl|rfl
 ·refine .inl ⟨rfl,?_,fun p hp1 hp2=>?_⟩
  ·rw[ex_DD (by omega),ex_DD (by omega)] at h1;exact h1
  ·have:=h2 p hp1 hp2
   rw[ex_DD (by omega),ex_DD (by omega)] at this;exact this
 ·refine .inr ⟨rfl,?_,fun p hp1 hp2=>?_⟩
  ·rw[ex_BB (by omega),ex_BB (by omega)] at h1;exact h1
  ·have:=h2 p hp1 hp2
   rw[ex_BB (by omega),ex_BB (by omega)] at this;exact this
theorem q9q {a:List Nat} (b:List Nat) {s i j:Nat} (h:PairW a s i j) (hs:s<2):PairW (a ++ b) s i j:=by
 have hle:=h.le
 have hlt:=h.lt
 have hl:(a ++ b).length=a.length+b.length:=List.length_append
 refine⟨hlt,by omega,by rw[List.getElem?_append_left (by omega)];exact h.opens,by rw[List.getElem?_append_left (by omega)];exact h.closes,?_,fun p hp1 hp2=>?_⟩
 ·rcases q5k h hs with⟨rfl,h1,_⟩|⟨rfl,h1,_⟩
  ·rw[ex_DD (by omega),ex_DD (by omega),q2t (by omega),q2t (by omega)];exact h1
  ·rw[ex_BB (by omega),ex_BB (by omega),q52 (by omega),q52 (by omega)];exact h1
 ·rcases q5k h hs with⟨rfl,_,h1⟩|⟨rfl,_,h1⟩
  ·rw[ex_DD (by omega),ex_DD (by omega),q2t (by omega),q2t (by omega)];exact h1 p hp1 hp2
  ·rw[ex_BB (by omega),ex_BB (by omega),q52 (by omega),q52 (by omega)];exact h1 p hp1 hp2
theorem q9r {a b:List Nat} {s i j:Nat} (ha:Wd a) (h:PairW b s i j) (hs:s<2):PairW (a ++ b) s (a.length+i) (a.length+j):=by
 have hle:=h.le
 have hlt:=h.lt
 have h1:=ha.dend
 have h2:=ha.bend
 have hl:(a ++ b).length=a.length+b.length:=List.length_append
 refine⟨by omega,by omega,by rw[List.getElem?_append_right (by omega),Nat.add_sub_cancel_left];exact h.opens,by rw[List.getElem?_append_right (by omega),Nat.add_sub_cancel_left];exact h.closes,?_,fun p hp1 hp2=>?_⟩
 ·rw[Nat.add_assoc]
  rcases q5k h hs with⟨rfl,h3,_⟩|⟨rfl,h3,_⟩
  ·rw[ex_DD (by omega),ex_DD (by omega),q33,q33,h3]
  ·rw[ex_BB (by omega),ex_BB (by omega),q3y,q3y,h3]
 ·obtain⟨q,rfl⟩:=Nat.exists_eq_add_of_le (show a.length≤p by omega)
  rcases q5k h hs with⟨rfl,_,h3⟩|⟨rfl,_,h3⟩
  ·have:=h3 q (by omega) (by omega)
   rw[ex_DD (by omega),ex_DD (by omega),q33,q33];omega
  ·have:=h3 q (by omega) (by omega)
   rw[ex_BB (by omega),ex_BB (by omega),q3y,q3y];omega
theorem Wd.mp_close {ks:List Nat} (hw:Wd ks) {s i j:Nat} (h:PairW ks s i j):mp ks j=i:=by
 have h1:=hw.mp_pair h
 have:=hw.mp_mp (i:=i) (by have:=h.lt;have:=h.le;omega)
 rwa [h1] at this
theorem qhr {a b:List Nat} (ha:Wd a) (hab:Wd (a ++ b)) {i:Nat} (hi:i<a.length):mp (a ++ b) i=mp a i:=by
 obtain⟨s,hs,⟨_,h⟩|⟨_,h⟩⟩:=ha.cases hi
 ·exact hab.mp_pair (q9q b h hs)
 ·exact hab.mp_close (q9q b h hs)
theorem qhs {a b:List Nat} (ha:Wd a) (hb:Wd b) (hab:Wd (a ++ b)) {i:Nat} (hi:i<b.length):mp (a ++ b) (a.length+i)=a.length+mp b i:=by
 obtain⟨s,hs,⟨_,h⟩|⟨_,h⟩⟩:=hb.cases hi
 ·exact hab.mp_pair (q9r ha h hs)
 ·exact hab.mp_close (q9r ha h hs)
theorem qht {a b:List Nat} {i:Nat} (hi:i≤a.length):oc (a ++ b) i=oc a i:=by
 unfold oc
 rw[List.take_append_of_le_length hi]
theorem qm4 {ks:List Nat} (h:Wd ks):2 * oc ks ks.length=ks.length:=by
 have h1:=h.opens_half
 have h2:∀ l:List Nat,(∀ k ∈ l,k<4)→(l.filter fun k=>k % 2 == 0).length=cntK l 0+cntK l 2:=by
  intro l
  induction l with
  | nil=>intro _;simp[cntK]
  | cons x l ih =>
   intro hl
   have ih:=ih (fun k hk=>hl k (by simp[hk]))
   have hx:=hl x (by simp)
   have h01:x=0∨x=1∨x=2∨x=3:=by omega
   unfold cntK at ih ⊢
   rcases h01 with rfl|rfl|rfl|rfl <;> simp[ih] <;> omega
 unfold oc
 rw[List.take_of_length_le (Nat.le_refl _),h2 ks h.k4]
 exact h1
theorem qhu {a b:List Nat} (ha:Wd a) {i:Nat}:2 * oc (a ++ b) (a.length+i)=a.length+2 * oc b i:=by
 have h1:=qm4 ha
 unfold oc at *
 rw[List.take_append,List.filter_append,List.length_append,List.take_of_length_le (by omega),Nat.add_sub_cancel_left]
 rw[List.take_of_length_le (Nat.le_refl _)] at h1
 omega
theorem qhv {a b:List Nat} (ha:Wd a) (hab:Wd (a ++ b)) {i:Nat} (hi:i<a.length):nmD (a ++ b) i=nmD a i:=by
 unfold nmD
 have h1:=ha.mp_lt hi
 rw[qhr ha hab hi,qht (by omega),qht (by omega),List.getD_eq_getElem?_getD,List.getElem?_append_left hi,← List.getD_eq_getElem?_getD]
theorem qhw {a b:List Nat} (ha:Wd a) (hb:Wd b) (hab:Wd (a ++ b)) {i:Nat} (hi:i<b.length):nmD (a ++ b) (a.length+i)=a.length+nmD b i:=by
 have h1:=hb.mp_lt hi
 have h2:=qhu (b:=b) ha (i:=i)
 have h3:=qhu (b:=b) ha (i:=mp b i)
 unfold nmD
 rw[qhs ha hb hab hi,List.getD_eq_getElem?_getD,List.getElem?_append_right (by omega),Nat.add_sub_cancel_left,← List.getD_eq_getElem?_getD]
 split <;> omega
def catM:List (List Nat)→List Nat
 | []=>[]
 | p :: ps=>p ++ (catM ps).map (p.length + ·)
theorem q88:∀ ps:List (List Nat),(catM ps).length=(ps.map List.length).sum
 | []=>rfl
 | p :: ps=>by simp[catM,q88 ps]
theorem qms {p:List Nat} {ps:List (List Nat)} {x:Nat} (h:x<p.length):sg (catM (p :: ps)) x=sg p x:=by
 unfold sg catM
 rw[List.getD_eq_getElem?_getD,List.getElem?_append_left h,← List.getD_eq_getElem?_getD]
theorem qmt {p:List Nat} {ps:List (List Nat)} {x:Nat} (h:x<(catM ps).length):sg (catM (p :: ps)) (p.length+x)=p.length+sg (catM ps) x:=by
 unfold sg
 show (p ++ (catM ps).map (p.length + ·)).getD _ 0=_
 rw[List.getD_eq_getElem?_getD,List.getElem?_append_right (by omega),Nat.add_sub_cancel_left,List.getElem?_map,List.getElem?_eq_getElem h,List.getD_eq_getElem?_getD,List.getElem?_eq_getElem h]
 rfl
noncomputable def tnA:List (List Nat)→Nat→Nat
 | [],i=>i
 | k :: l,i=>if i<k.length then tn k i else k.length+tnA l (i - k.length)
def KsOk (l:List (List Nat)):Prop:=∀ k ∈ l,WRight k∧0<k.length
theorem KsOk.flat:∀ {l:List (List Nat)},KsOk l→WRight l.flatten
 | [],_=>by
  refine { k4:=by simp,dpos:=fun p hp=>?_,bpos:=fun p hp=>?_,right:=fun i hi=>by simp at hi,dend:=rfl,bend:=rfl }
  ·have:p=0:=by simpa using hp
   subst this;exact Int.le_refl _
  ·have:p=0:=by simpa using hp
   subst this;exact Int.le_refl _
 | k :: l,h=>by
  rw[List.flatten_cons]
  exact (h k (by simp)).1.app (KsOk.flat (fun x hx=>h x (by simp[hx])))
theorem q0n (l:List (List Nat)):(catM (l.map decL)).length=l.flatten.length:=by
 rw[q88,List.length_flatten,List.map_map]
 congr 1
 exact List.map_congr_left (fun k _=>q03 k)
theorem q9s:∀ {l:List (List Nat)},KsOk l→∀ i,i<l.flatten.length→tnA l i<l.flatten.length
 | [],_,i,hi=>by simp at hi
 | k :: l,h,i,hi=>by
  rw[List.flatten_cons,List.length_append] at hi ⊢
  unfold tnA
  split
  ·next h1=>have:=((h k (by simp)).1.wd.tn_isP).lt i h1;omega
  ·next h1 =>
   have hl:KsOk l:=fun x hx=>h x (by simp[hx])
   have:=q9s hl (i - k.length) (by omega)
   omega
theorem q89:∀ {l:List (List Nat)},KsOk l→∀ i,i<l.flatten.length→sg (catM (l.map decL)) (nmD l.flatten i)=nmD l.flatten (tnA l i)
 | [],_,i,hi=>by simp at hi
 | k :: l,h,i,hi=>by
  have hk:=(h k (by simp)).1
  have hl:KsOk l:=fun x hx=>h x (by simp[hx])
  have hab:=(KsOk.flat h).wd
  rw[List.flatten_cons] at hi hab ⊢
  rw[List.length_append] at hi
  rw[List.map_cons]
  unfold tnA
  by_cases h1:i<k.length
  ·have h2:=(hk.wd.tn_isP).lt i h1
   rw[if_pos h1,qhv hk.wd hab h1,qhv hk.wd hab h2,qms (by rw[q03];exact hk.wd.nm_lt h1),hk.wd.dec_nm h1]
  ·obtain⟨j,rfl⟩:=Nat.exists_eq_add_of_le (show k.length≤i by omega)
   have h2:=q9s hl j (by omega)
   have h3:=(hl.flat.wd).nm_lt (i:=j) (by omega)
   rw[if_neg h1,Nat.add_sub_cancel_left,qhw hk.wd hl.flat.wd hab (by omega),qhw hk.wd hl.flat.wd hab h2]
   have e:=qmt (p:=decL k) (ps:=l.map decL) (x:=nmD l.flatten j) (by rw[q0n];exact h3)
   rw[q03] at e
   rw[e,q89 hl j (by omega)]
theorem q2q {l:List (List Nat)} (h:KsOk l):IsP (catM (l.map decL)).length (sg (catM (l.map decL))):=by
 rw[q0n]
 have hw:=h.flat.wd
 have hinj:∀ {l:List (List Nat)},KsOk l→∀ i j,i<l.flatten.length→j<l.flatten.length→tnA l i=tnA l j→i=j:=by
  intro l
  induction l with
  | nil=>intro _ i j hi;simp at hi
  | cons k l ih =>
   intro h i j hi hj he
   have hk:=(h k (by simp)).1.wd.tn_isP
   rw[List.flatten_cons,List.length_append] at hi hj
   unfold tnA at he
   by_cases h1:i<k.length <;> by_cases h2:j<k.length
   ·rw[if_pos h1,if_pos h2] at he;exact hk.inj _ _ h1 h2 he
   ·rw[if_pos h1,if_neg h2] at he;have:=hk.lt i h1;omega
   ·rw[if_neg h1,if_pos h2] at he;have:=hk.lt j h2;omega
   ·rw[if_neg h1,if_neg h2] at he
    have:=ih (fun x hx=>h x (by simp[hx])) (i - k.length) (j - k.length) (by omega) (by omega) (by omega)
    omega
 have hnm:=hw.nm_isP
 refine⟨fun x hx=>?_,fun x y hx hy he=>?_⟩
 ·have h1:=q89 h _ (hnm.inv_lt hx)
  rw[hnm.inv_to hx] at h1
  rw[h1]
  exact hnm.lt _ (q9s h _ (hnm.inv_lt hx))
 ·have h1:=q89 h _ (hnm.inv_lt hx)
  have h2:=q89 h _ (hnm.inv_lt hy)
  rw[hnm.inv_to hx] at h1
  rw[hnm.inv_to hy] at h2
  rw[h1,h2] at he
  have:=hinj h _ _ (hnm.inv_lt hx) (hnm.inv_lt hy) (hnm.inj _ _ (q9s h _ (hnm.inv_lt hx)) (q9s h _ (hnm.inv_lt hy)) he)
  rw[← hnm.inv_to hx,this,hnm.inv_to hy]
structure CnM (n:Nat) (S D:Nat→Nat) (l:List (List Nat)):Prop extends CnA n D l.flatten where
 ok:KsOk l
 next:∀ i,i<n→S (D i)=D (tnA l i)
theorem CnM.ps_turn {n:Nat} {S D:Nat→Nat} {l:List (List Nat)} (k:CnM n S D l) {x:Nat} (hx:x<n):sg (catM (l.map decL)) (sg (psL n D l.flatten) x)=sg (psL n D l.flatten) (S x):=by
 obtain⟨i,hi,e,h1⟩:=k.ps_all hx
 have hil:i<l.flatten.length:=by rw[k.len];exact hi
 rw[h1,q89 k.ok i hil,← e,k.next i hi,k.sg_ps (by rw[← k.len];exact q9s k.ok i hil)]
theorem CnM.ps_root {n:Nat} {S D:Nat→Nat} {l:List (List Nat)} (k:CnM n S D l) (hn:0<n):sg (psL n D l.flatten) (D 0)=0:=by
 rw[k.sg_ps hn,k.wd.nm_zero (by rw[k.len];exact hn)]
end
section
theorem qm5:∀ (l:List Int),(∀ x ∈ l,0≤x)→0≤l.sum∧∀ x ∈ l,x≤l.sum
 | [],_=>⟨by simp,fun x hx=>by simp at hx⟩
 | a :: l,h=>by
  obtain⟨h1,h2⟩:=qm5 l (fun x hx=>h x (by simp[hx]))
  have h3:=h a (by simp)
  rw[List.sum_cons]
  refine⟨by omega,fun x hx=>?_⟩
  rcases List.mem_cons.1 hx with rfl|hx
  ·omega
  ·have:=h2 x hx;omega
section
variable {s:List Nat} (h:IsP s.length (sg s)) (he:s.length % 2=0)
include h he
open Classical in
theorem qf7 {r:Nat} (hr:r<s.length) (l:List Nat):ofN l (cnL s) (cnum s.length (sg s) r) s.length=((List.range s.length).filter fun x=>rep (sg l) x == x && decide (Conn s.length (sg s) r x)).length:=by
 unfold ofN
 congr 1
 refine List.filter_congr (fun x hx=>?_)
 have hx:=List.mem_range.1 hx
 rw[q31 hx]
 congr 1
 by_cases hc:Conn s.length (sg s) r x
 ·rw[decide_eq_true hc,(h.cnum_iff he hr hx).2 hc];simp
 ·rw[decide_eq_false hc,beq_eq_false_iff_ne]
  exact fun e=>hc ((h.cnum_iff he hr hx).1 e.symm)
theorem qhx {r T:Nat} {D:Nat→Nat} {ks:List Nat} (hr:r<s.length) (k:WkT s.length (sg s) r T D ks):cntN (cnL s) (cnum s.length (sg s) r) s.length=T:=by
 have:=q4a (l:=(List.range s.length).filter fun d=>sg (cnL s) d == cnum s.length (sg s) r) (m:=(List.range T).map D) (List.Pairwise.filter _ List.nodup_range) (by
  rw[List.Nodup,List.pairwise_map]
  refine List.Pairwise.imp_of_mem (fun {x y} hx hy hxy e=>hxy ?_) (List.nodup_range (n:=T))
  exact k.inj x y (List.mem_range.1 hx) (List.mem_range.1 hy) e) (fun x=>by
  simp only [List.mem_filter,List.mem_range,beq_iff_eq,List.mem_map]
  constructor
  ·rintro⟨hx,e⟩
   rw[q31 hx] at e
   obtain⟨i,hi,hd⟩:=k.cov x hx ((h.cnum_iff he hr hx).1 e.symm)
   exact⟨i,hi,hd⟩
  ·rintro⟨i,hi,rfl⟩
   have h1:=k.lt i hi
   refine⟨h1,?_⟩
   rw[q31 h1]
   exact ((h.cnum_iff he hr h1).2 (k.conn he i hi)).symm)
 unfold cntN
 rw[this,List.length_map,List.length_range]
theorem qf8 {r:Nat} (hr:r<s.length) {T:Nat} {D:Nat→Nat} {ks:List Nat} (k:WkT s.length (sg s) r T D ks):0≤ptG s (cnum s.length (sg s) r)∧(ptG s (cnum s.length (sg s) r)=0→∀ i,i<T→D (mp ks i)=mt (D i)):=by
 have h1:=k.euler_le h hr he
 have h2:=k.verts h hr he
 have h3:=k.faces h he
 have hph:=q6b h he
 rw[q08] at hph
 have hTw:IsP s.length (fun d=>sg s (mt d)):=hph.congr (fun d hd=>(q8d hd).symm)
 have hV:ptV s (cnum s.length (sg s) r)=_:=qf7 h he hr s
 have hB:ptB s (cnum s.length (sg s) r)=_:=qf7 h he hr (phiL s)
 have hE:ptE s (cnum s.length (sg s) r)=T / 2:=by unfold ptE;rw[qhx h he hr k]
 have e1:((List.range s.length).filter fun x=>rep (sg (phiL s)) x == x && @decide (Conn s.length (sg s) r x) (Classical.propDecidable _))=(List.range s.length).filter fun x=>rep (fun d=>sg s (mt d)) x == x && @decide (Conn s.length (sg s) r x) (Classical.propDecidable _) :=
  List.filter_congr (fun x hx=>by rw[qdj hph hTw (fun d hd=>q8d hd) (List.mem_range.1 hx)])
 rw[e1] at hB
 unfold ptG
 rw[hV,hB,hE]
 generalize ((List.range s.length).filter fun x=>rep (sg s) x == x && @decide (Conn s.length (sg s) r x) (Classical.propDecidable _)).length=V at *
 generalize ((List.range s.length).filter fun x=>rep (fun d=>sg s (mt d)) x == x && @decide (Conn s.length (sg s) r x) (Classical.propDecidable _)).length=F at *
 have h4:0≤2 - (V:Int)+((T / 2:Nat):Int) - (F:Int):=by omega
 rw[Int.tdiv_eq_ediv_of_nonneg h4]
 refine⟨by omega,fun h0 i hi=>?_⟩
 exact k.matesP he h2 h3 (by omega) hi
theorem qhy {ln:Nat} (hg:genS (q0b s ln)=0) {r:Nat} (hr:r<s.length):ptG s (cnum s.length (sg s) r)=0:=by
 have hv:∀ x y,x<s.length→y<s.length→(vnum (sg s) x=vnum (sg s) y↔SameO (sg s) x y):=fun x y hx hy=>h.vnum_iff hx hy
 have key:∀ x,x<s.length→0≤ptG s (cnum s.length (sg s) x):=fun x hx=>by
  obtain⟨T,_,_,k⟩:=q7z h he hv hx
  exact (qf8 h he hx k).1
 have e:genS (q0b s ln)=(((List.range s.length).filter fun d=>crep s.length (sg s) d == d).map fun d=>ptG s (cnum s.length (sg s) d)).sum:=by
  unfold genS q0b q1g
  rw[List.map_append,List.sum_append,List.map_map]
  have:∀ m:Nat,((List.replicate m ([-1,1,0,1,0]:List Int)).map fun p=>p.getD 4 0).sum=0:=fun m=>by
   induction m with
   | zero=>rfl
   | succ m ih=>rw[List.replicate_succ,List.map_cons,List.sum_cons,ih];rfl
  rw[this,Int.add_zero]
  rfl
 obtain⟨_,h2⟩:=qm5 (((List.range s.length).filter fun d=>crep s.length (sg s) d == d).map fun d=>ptG s (cnum s.length (sg s) d)) (fun x hx=>by
  obtain⟨d,hd,rfl⟩:=List.mem_map.1 hx
  exact key d (List.mem_range.1 (List.mem_filter.1 hd).1))
 have hcr:=h.crep_lt he hr
 have h3:=h2 (ptG s (cnum s.length (sg s) (crep s.length (sg s) r))) (List.mem_map.2 ⟨crep s.length (sg s) r,List.mem_filter.2 ⟨List.mem_range.2 hcr,by rw[h.crep_crep he hr];simp⟩,rfl⟩)
 have h4:cnum s.length (sg s) (crep s.length (sg s) r)=cnum s.length (sg s) r:=((h.cnum_iff he hr hcr).2 (q17 _ _ _)).symm
 rw[h4,← e,hg] at h3
 have:=key r hr
 omega
end
open Classical in
noncomputable def wT (s:List Nat) (r:Nat):Nat:=if h:∃ T,WkEnd s.length (sg s) (vnum (sg s)) r T then h.choose else 0
noncomputable def wK (s:List Nat) (r:Nat):List Nat:=kso (wlk (sg s) (vnum (sg s)) r (wT s r)).2
noncomputable def DA (s:List Nat):List Nat→Nat→Nat
 | [],_=>0
 | r :: rs,p=>if p<wT s r then (wlk (sg s) (vnum (sg s)) r p).1 else DA s rs (p - wT s r)
theorem q8a (s:List Nat) (r:Nat):(wK s r).length=wT s r:=by unfold wK;rw[q23,q0c]
theorem WkEnd.wT_eq {s:List Nat} {r T:Nat} (h:WkEnd s.length (sg s) (vnum (sg s)) r T):wT s r=T:=by
 unfold wT
 have hx:∃ T,WkEnd s.length (sg s) (vnum (sg s)) r T:=⟨T,h⟩
 rw[dif_pos hx]
 exact hx.choose_spec.unique h
theorem WkEnd.wK_eq {s:List Nat} {r T:Nat} (h:WkEnd s.length (sg s) (vnum (sg s)) r T):wK s r=kso (wlk (sg s) (vnum (sg s)) r T).2:=by
 unfold wK
 rw[h.wT_eq]
theorem WkT.tnP {n:Nat} {S:Nat→Nat} {root T:Nat} {D:Nat→Nat} {ks:List Nat} (k:WkT n S root T D ks) (hm:∀ i,i<T→D (mp ks i)=mt (D i)) {i:Nat} (hi:i<T):S (D i)=D (tn ks i):=by
 have hw:Wd ks:=k.right.wd
 have hl:=k.len
 have hil:i<ks.length:=by omega
 unfold tn
 rw[hl]
 by_cases h2:ks.getD i 0<2
 ·have hml:=hw.mp_lt hil
  rw[if_pos h2,k.next _ (by omega),if_pos ((hw.mp_sort hil).2 h2),hm i hi,mt_mt]
 ·rw[if_neg h2,k.next i hi,if_neg h2]
section
variable {s:List Nat} (h:IsP s.length (sg s)) (he:s.length % 2=0)
include h he
theorem q8b {r:Nat} (hr:r<s.length):WkEnd s.length (sg s) (vnum (sg s)) r (wT s r)∧WkT s.length (sg s) r (wT s r) (fun i=>(wlk (sg s) (vnum (sg s)) r i).1) (wK s r):=by
 obtain⟨T,h1,_,h2⟩:=q7z h he (fun x y hx hy=>h.vnum_iff hx hy) hr
 have e:=h1.wT_eq
 have e2:=h1.wK_eq
 rw[e,e2]
 exact⟨h1,h2⟩
structure RtsOk (s:List Nat) (rs:List Nat):Prop where
 lt:∀ r ∈ rs,r<s.length
 apart:rs.Pairwise fun a b=>¬ Conn s.length (sg s) a b
 flat:∀ r ∈ rs,ptG s (cnum s.length (sg s) r)=0
theorem RtsOk.ksOk {rs:List Nat} (k:RtsOk s rs):KsOk (rs.map (wK s)):=fun x hx=>by
 obtain⟨r,hr,rfl⟩:=List.mem_map.1 hx
 obtain⟨_,h1⟩:=q8b h he (k.lt r hr)
 exact⟨h1.right,by rw[q8a];exact h1.pos⟩
theorem RtsOk.walks:∀ {rs:List Nat},RtsOk s rs→(∀ i,i<(rs.map (wK s)).flatten.length→DA s rs i<s.length∧(∃ r ∈ rs,Conn s.length (sg s) r (DA s rs i))∧DA s rs (mp (rs.map (wK s)).flatten i)=mt (DA s rs i)∧sg s (DA s rs i)=DA s rs (tnA (rs.map (wK s)) i)) ∧
  (∀ i j,i<(rs.map (wK s)).flatten.length→j<(rs.map (wK s)).flatten.length→DA s rs i=DA s rs j→i=j)∧(∀ x r,r ∈ rs→x<s.length→Conn s.length (sg s) r x→∃ i,i<(rs.map (wK s)).flatten.length∧DA s rs i=x)
 | [],_=>⟨fun i hi=>by simp at hi,fun i j hi=>by simp at hi,fun x r hr=>by simp at hr⟩
 | r :: rs,k=>by
  have hr:=k.lt r (by simp)
  have k':RtsOk s rs:=⟨fun x hx=>k.lt x (by simp[hx]),(List.pairwise_cons.1 k.apart).2,fun x hx=>k.flat x (by simp[hx])⟩
  obtain⟨ih1,ih2,ih3⟩:=RtsOk.walks k'
  obtain⟨_,w⟩:=q8b h he hr
  have hm:=(qf8 h he hr w).2 (k.flat r (by simp))
  have hW:=w.right
  have hok:=k'.ksOk h he
  have hF:=hok.flat
  have hab:Wd (wK s r ++ (rs.map (wK s)).flatten):=(hW.app hF).wd
  have hlen:=w.len
  rw[List.map_cons,List.flatten_cons]
  have hDl:∀ i,i<wT s r→DA s (r :: rs) i=(wlk (sg s) (vnum (sg s)) r i).1:=fun i hi=>by show (if i<wT s r then _ else _)=_;rw[if_pos hi]
  have hDr:∀ i,DA s (r :: rs) ((wK s r).length+i)=DA s rs i:=fun i=>by
   show (if (wK s r).length+i<wT s r then _ else _)=_
   rw[hlen,if_neg (by omega),Nat.add_sub_cancel_left]
  have hsep:∀ i j,i<wT s r→j<(rs.map (wK s)).flatten.length→(wlk (sg s) (vnum (sg s)) r i).1≠DA s rs j:=fun i j hi hj e=>by
   obtain⟨_,⟨r',hr',hc⟩,_⟩:=ih1 j hj
   have h1:=w.conn he i hi
   have h1:Conn s.length (sg s) r (wlk (sg s) (vnum (sg s)) r i).1:=h1
   rw[e] at h1
   exact (List.pairwise_cons.1 k.apart).1 r' hr' (h1.trans (h.conn_symm he (k'.lt r' hr') hc))
  refine⟨fun i hi=>?_,fun i j hi hj e=>?_,fun x r' hr' hx hc=>?_⟩
  ·rw[List.length_append] at hi
   rcases Nat.lt_or_ge i (wK s r).length with h1|h1
   ·have hiT:i<wT s r:=by omega
    have hml:=hW.wd.mp_lt h1
    have htl:=hW.wd.tn_isP.lt i h1
    rw[qhr hW.wd hab h1,hDl i hiT,hDl _ (by omega)]
    refine⟨w.lt i hiT,⟨r,by simp,w.conn he i hiT⟩,hm i hiT,?_⟩
    show _=DA s (r :: rs) (if i<(wK s r).length then tn (wK s r) i else _)
    rw[if_pos h1,hDl _ (by omega)]
    exact w.tnP hm hiT
   ·obtain⟨j,rfl⟩:=Nat.exists_eq_add_of_le h1
    have hj:j<(rs.map (wK s)).flatten.length:=by omega
    obtain⟨a1,⟨r',hr',a2⟩,a3,a4⟩:=ih1 j hj
    rw[qhs hW.wd hF.wd hab hj,hDr,hDr]
    refine⟨a1,⟨r',by simp[hr'],a2⟩,a3,?_⟩
    show _=DA s (r :: rs) (if (wK s r).length+j<(wK s r).length then _ else (wK s r).length+tnA (rs.map (wK s)) ((wK s r).length+j - (wK s r).length))
    rw[if_neg (by omega),Nat.add_sub_cancel_left,hDr]
    exact a4
  ·rw[List.length_append] at hi hj
   rcases Nat.lt_or_ge i (wK s r).length with h1|h1 <;> rcases Nat.lt_or_ge j (wK s r).length with h2|h2
   ·rw[hDl i (by omega),hDl j (by omega)] at e
    exact w.inj i j (by omega) (by omega) e
   ·obtain⟨j',rfl⟩:=Nat.exists_eq_add_of_le h2
    rw[hDl i (by omega),hDr] at e
    exact absurd e (hsep i j' (by omega) (by omega))
   ·obtain⟨i',rfl⟩:=Nat.exists_eq_add_of_le h1
    rw[hDl j (by omega),hDr] at e
    exact absurd e.symm (hsep j i' (by omega) (by omega))
   ·obtain⟨i',rfl⟩:=Nat.exists_eq_add_of_le h1
    obtain⟨j',rfl⟩:=Nat.exists_eq_add_of_le h2
    rw[hDr,hDr] at e
    rw[ih2 i' j' (by omega) (by omega) e]
  ·rw[List.length_append]
   rcases List.mem_cons.1 hr' with rfl|hr'
   ·obtain⟨i,hi,e⟩:=w.cov x hx hc
    exact⟨i,by omega,by rw[hDl i hi];exact e⟩
   ·obtain⟨i,hi,e⟩:=ih3 x r' hr' hx hc
    exact⟨(wK s r).length+i,by omega,by rw[hDr];exact e⟩
open Classical in
noncomputable def q0k (s:List Nat) (r:Nat):List Nat:=r :: ((List.range s.length).filter fun d=>crep s.length (sg s) d == d && !decide (Conn s.length (sg s) r d))
omit h he in
theorem q3i {s:List Nat} {r d:Nat} (hd:d ∈ (q0k s r).tail):d<s.length∧crep s.length (sg s) d=d∧¬ Conn s.length (sg s) r d:=by
 unfold q0k at hd
 simp only [List.tail_cons,List.mem_filter,List.mem_range,Bool.and_eq_true,beq_iff_eq,Bool.not_eq_true',decide_eq_false_iff_not] at hd
 exact hd
theorem qbp {ln:Nat} (hg:genS (q0b s ln)=0) {r:Nat} (hr:r<s.length):RtsOk s (q0k s r):=by
 have hlt:∀ x ∈ q0k s r,x<s.length:=fun x hx=>by
  rcases List.mem_cons.1 hx with rfl|hx
  ·exact hr
  ·exact (q3i hx).1
 refine⟨hlt,?_,fun x hx=>qhy h he hg (hlt x hx)⟩
 refine List.pairwise_cons.2 ⟨fun x hx=>(q3i (s:=s) (r:=r) hx).2.2,?_⟩
 have hnd:((q0k s r).tail).Nodup:=List.Pairwise.filter _ List.nodup_range
 refine List.Pairwise.imp_of_mem (fun {x y} hx hy hxy hc=>hxy ?_) hnd
 obtain⟨x1,x2,_⟩:=q3i hx
 obtain⟨y1,y2,_⟩:=q3i hy
 rw[← x2,← y2]
 exact (h.crep_iff he x1 y1).2 hc
open Classical in
theorem qgl {r x:Nat} (hx:x<s.length):∃ r' ∈ q0k s r,Conn s.length (sg s) r' x:=by
 by_cases hc:Conn s.length (sg s) r x
 ·exact⟨r,by simp[q0k],hc⟩
 ·have h1:=q17 s.length (sg s) x
  have h2:=h.crep_lt he hx
  have h3:=h.conn_symm he hx h1
  refine⟨crep s.length (sg s) x,?_,h3⟩
  unfold q0k
  refine List.mem_cons_of_mem _ (List.mem_filter.2 ⟨List.mem_range.2 h2,?_⟩)
  have h4:¬ Conn s.length (sg s) r (crep s.length (sg s) x):=fun h5=>hc (h5.trans h3)
  rw[h.crep_crep he hx,decide_eq_false h4]
  simp
noncomputable def kssOf (s:List Nat) (r:Nat):List (List Nat):=(q0k s r).map (wK s)
theorem walks_all {ln:Nat} (hg:genS (q0b s ln)=0) {r:Nat} (hr:r<s.length):CnM s.length (sg s) (DA s (q0k s r)) (kssOf s r)∧DA s (q0k s r) 0=r:=by
 have k:=qbp h he hg hr
 obtain⟨h1,h2,h3⟩:=k.walks h he
 have hok:=k.ksOk h he
 have hlen:(kssOf s r).flatten.length=s.length:=by
  have h4:=q4a (l:=(List.range (kssOf s r).flatten.length).map (DA s (q0k s r))) (m:=List.range s.length) (by
   rw[List.Nodup,List.pairwise_map]
   refine List.Pairwise.imp_of_mem (fun {x y} hx hy hxy e=>hxy ?_) (List.nodup_range (n:=(kssOf s r).flatten.length))
   exact h2 x y (List.mem_range.1 hx) (List.mem_range.1 hy) e) List.nodup_range (fun x=>by
   simp only [List.mem_map,List.mem_range]
   constructor
   ·rintro⟨i,hi,rfl⟩
    exact (h1 i hi).1
   ·intro hx
    obtain⟨r',hr',hc⟩:=qgl h he hx
    exact h3 x r' hr' hx hc)
  rw[List.length_map,List.length_range,List.length_range] at h4
  exact h4
 refine⟨⟨⟨hok.flat.wd,hlen,⟨fun i hi=>(h1 i (by rw[← hlen] at hi;exact hi)).1,fun i j hi hj e=>h2 i j (by rw[← hlen] at hi;exact hi) (by rw[← hlen] at hj;exact hj) e⟩,fun i hi=>(h1 i (by rw[← hlen] at hi;exact hi)).2.2.1⟩,hok,fun i hi=>(h1 i (by rw[← hlen] at hi;exact hi)).2.2.2⟩,?_⟩
 obtain⟨_,w⟩:=q8b h he hr
 show (if 0<wT s r then (wlk (sg s) (vnum (sg s)) r 0).1 else _)=r
 rw[if_pos w.pos]
 rfl
end
end
section
def cat2 (p q:List Nat):List Nat:=p ++ q.map (p.length + ·)
theorem q5l (p:List Nat) (ps:List (List Nat)):catM (p :: ps)=cat2 p (catM ps):=rfl
theorem q07 (p q:List Nat):(cat2 p q).length=p.length+q.length:=by simp[cat2]
theorem sg_2l {p q:List Nat} {x:Nat} (h:x<p.length):sg (cat2 p q) x=sg p x:=by
 unfold sg cat2
 rw[List.getD_eq_getElem?_getD,List.getElem?_append_left h,← List.getD_eq_getElem?_getD]
theorem sg_2r {p q:List Nat} {x:Nat} (h:x<q.length):sg (cat2 p q) (p.length+x)=p.length+sg q x:=by
 unfold sg cat2
 rw[List.getD_eq_getElem?_getD,List.getElem?_append_right (by omega),Nat.add_sub_cancel_left,List.getElem?_map,List.getElem?_eq_getElem h,List.getD_eq_getElem?_getD,List.getElem?_eq_getElem h]
 rfl
theorem qf9 {a x:Nat} (h:a % 2=0):mt (a+x)=a+mt x:=by unfold mt;split <;> split <;> omega
theorem q7l {a b x:Nat} (h:x<a+b):x<a∨∃ y,x=a+y∧y<b:=by
 rcases Nat.lt_or_ge x a with h1|h1
 ·exact .inl h1
 ·exact .inr ⟨x - a,by omega,by omega⟩
section
variable {p q:List Nat} (hp:IsP p.length (sg p)) (hq:IsP q.length (sg q))
include hp hq
theorem q7m:IsP (cat2 p q).length (sg (cat2 p q)):=by
 rw[q07]
 refine⟨fun x hx=>?_,fun x y hx hy e=>?_⟩
 ·rcases q7l hx with h|⟨y,rfl,h⟩
  ·rw[sg_2l h];have:=hp.lt x h;omega
  ·rw[sg_2r h];have:=hq.lt y h;omega
 ·rcases q7l hx with h|⟨u,rfl,h⟩ <;> rcases q7l hy with h' | ⟨v,rfl,h'⟩
  ·rw[sg_2l h,sg_2l h'] at e;exact hp.inj _ _ h h' e
  ·rw[sg_2l h,sg_2r h'] at e;have:=hp.lt x h;omega
  ·rw[sg_2r h,sg_2l h'] at e;have:=hp.lt y h';omega
  ·rw[sg_2r h,sg_2r h'] at e
   rw[hq.inj u v h h' (by omega)]
theorem qnx {x:Nat} (h:x<p.length) (k:Nat):itr (sg (cat2 p q)) k x=itr (sg p) k x:=by
 have _:=hq
 induction k with
 | zero=>rfl
 | succ k ih =>
  show sg (cat2 p q) (itr (sg (cat2 p q)) k x)=sg p (itr (sg p) k x)
  rw[ih,sg_2l (hp.itr_lt h k)]
theorem qny {x:Nat} (h:x<q.length) (k:Nat):itr (sg (cat2 p q)) k (p.length+x)=p.length+itr (sg q) k x:=by
 have _:=hp
 induction k with
 | zero=>rfl
 | succ k ih =>
  show sg (cat2 p q) (itr (sg (cat2 p q)) k (p.length+x))=p.length+sg q (itr (sg q) k x)
  rw[ih,sg_2r (hq.itr_lt h k)]
theorem qdr {x y:Nat} (h:x<p.length):SameO (sg (cat2 p q)) x y↔SameO (sg p) x y:=by
 unfold SameO
 simp only [qnx hp hq h]
theorem qds {x z:Nat} (h:x<q.length):SameO (sg (cat2 p q)) (p.length+x) z↔∃ y,z=p.length+y∧SameO (sg q) x y:=by
 unfold SameO
 simp only [qny hp hq h]
 constructor
 ·rintro⟨k,rfl⟩;exact⟨_,rfl,k,rfl⟩
 ·rintro⟨y,rfl,k,rfl⟩;exact⟨k,rfl⟩
theorem qnz {x:Nat} (h:x<p.length):rep (sg (cat2 p q)) x=rep (sg p) x:=by
 have hc:=q7m hp hq
 have hx:x<(cat2 p q).length:=by rw[q07];omega
 exact Nat.le_antisymm (hc.rep_le hx ((qdr hp hq h).2 (hp.rep_same h))) (hp.rep_le h ((qdr hp hq h).1 (hc.rep_same hx)))
theorem qo {x:Nat} (h:x<q.length):rep (sg (cat2 p q)) (p.length+x)=p.length+rep (sg q) x:=by
 have hc:=q7m hp hq
 have hx:p.length+x<(cat2 p q).length:=by rw[q07];omega
 refine Nat.le_antisymm (hc.rep_le hx ((qds hp hq h).2 ⟨_,rfl,hq.rep_same h⟩)) ?_
 obtain⟨y,e,hy⟩:=(qds hp hq h).1 (hc.rep_same hx)
 have:=hq.rep_le h hy
 omega
end
section
variable {p q:List Nat} (hp:IsP p.length (sg p)) (hq:IsP q.length (sg q)) (ep:p.length % 2=0) (eq:q.length % 2=0)
include hp hq ep eq
theorem qdt {x y:Nat} (h:x<p.length):Conn (cat2 p q).length (sg (cat2 p q)) x y↔Conn p.length (sg p) x y:=by
 have _:=hq
 constructor
 ·intro hc
  refine (hc (fun z=>z<p.length∧Conn p.length (sg p) x z) ⟨h,Conn.refl _ _ _⟩ (fun z _ hz=>?_)).2
  rw[sg_2l hz.1]
  exact⟨⟨hp.lt z hz.1,hz.2.trans (Conn.turn hz.1)⟩,⟨mt_lt ep hz.1,hz.2.trans (Conn.mate hz.1)⟩⟩
 ·intro hc
  refine hc (fun z=>Conn (cat2 p q).length (sg (cat2 p q)) x z) (Conn.refl _ _ _) (fun z hz hP=>?_)
  have hz':z<(cat2 p q).length:=by rw[q07];omega
  refine⟨?_,hP.trans (Conn.mate hz')⟩
  have:=hP.trans (Conn.turn hz')
  rwa [sg_2l hz] at this
theorem qdu {x z:Nat} (h:x<q.length):Conn (cat2 p q).length (sg (cat2 p q)) (p.length+x) z↔∃ y,z=p.length+y∧Conn q.length (sg q) x y:=by
 have _:=hp
 constructor
 ·intro hc
  obtain⟨y,e,_,hy⟩:=hc (fun z=>∃ y,z=p.length+y∧y<q.length∧Conn q.length (sg q) x y) ⟨x,rfl,h,Conn.refl _ _ _⟩ (fun z _ hz=>by
   obtain⟨y,rfl,hy,hc⟩:=hz
   rw[sg_2r hy,qf9 ep]
   exact⟨⟨_,rfl,hq.lt y hy,hc.trans (Conn.turn hy)⟩,⟨_,rfl,mt_lt eq hy,hc.trans (Conn.mate hy)⟩⟩)
  exact⟨y,e,hy⟩
 ·rintro⟨y,rfl,hc⟩
  refine hc (fun z=>Conn (cat2 p q).length (sg (cat2 p q)) (p.length+x) (p.length+z)) (Conn.refl _ _ _) (fun z hz hP=>?_)
  have hz':p.length+z<(cat2 p q).length:=by rw[q07];omega
  have h1:=hP.trans (Conn.turn hz')
  have h2:=hP.trans (Conn.mate hz')
  rw[sg_2r hz] at h1
  rw[qf9 ep] at h2
  exact⟨h1,h2⟩
theorem qam {x:Nat} (h:x<p.length):crep (cat2 p q).length (sg (cat2 p q)) x=crep p.length (sg p) x :=
 Nat.le_antisymm (q20 ((qdt hp hq ep eq h).2 (q17 _ _ _))) (q20 ((qdt hp hq ep eq h).1 (q17 _ _ _)))
theorem qan {x:Nat} (h:x<q.length):crep (cat2 p q).length (sg (cat2 p q)) (p.length+x)=p.length+crep q.length (sg q) x:=by
 refine Nat.le_antisymm (q20 ((qdu hp hq ep eq h).2 ⟨_,rfl,q17 _ _ _⟩)) ?_
 obtain⟨y,e,hy⟩:=(qdu hp hq ep eq h).1 (q17 _ _ _)
 have:=q20 hy
 omega
theorem qhz:∀ i,i≤p.length→cldr (cat2 p q).length (sg (cat2 p q)) i=cldr p.length (sg p) i:=by
 intro i
 induction i with
 | zero=>intro _;rfl
 | succ i ih =>
  intro hi
  rw[q0u,q0u,ih (by omega),qam hp hq ep eq (by omega)]
theorem qmu:∀ i,i≤q.length→cldr (cat2 p q).length (sg (cat2 p q)) (p.length+i)=cldr p.length (sg p) p.length+cldr q.length (sg q) i:=by
 intro i
 induction i with
 | zero=>intro _;rw[Nat.add_zero,qhz hp hq ep eq _ (Nat.le_refl _)];rfl
 | succ i ih =>
  intro hi
  rw[← Nat.add_assoc,q0u,q0u,ih (by omega),qan hp hq ep eq (by omega)]
  by_cases h1:crep q.length (sg q) i=i
  ·rw[if_pos h1,if_pos (by omega)];omega
  ·rw[if_neg h1,if_neg (by omega)];omega
theorem qdv {x:Nat} (h:x<p.length):cnum (cat2 p q).length (sg (cat2 p q)) x=cnum p.length (sg p) x:=by
 unfold cnum
 rw[qam hp hq ep eq h,qhz hp hq ep eq _ (Nat.le_of_lt (hp.crep_lt ep h))]
theorem qdw {x:Nat} (h:x<q.length):cnum (cat2 p q).length (sg (cat2 p q)) (p.length+x)=cldr p.length (sg p) p.length+cnum q.length (sg q) x:=by
 unfold cnum
 rw[qan hp hq ep eq h,qmu hp hq ep eq _ (Nat.le_of_lt (hq.crep_lt eq h))]
omit hp hq in
theorem phi_2:phiL (cat2 p q)=cat2 (phiL p) (phiL q):=by
 apply List.ext_getElem
 ·rw[q08,q07,q07,q08,q08]
 intro x h1 h2
 rw[q08,q07] at h1
 have e1:(phiL (cat2 p q))[x]=sg (cat2 p q) (mt x):=by simp[phiL]
 have e2:(cat2 (phiL p) (phiL q))[x]=sg (cat2 (phiL p) (phiL q)) x:=by
  unfold sg
  rw[List.getD_eq_getElem?_getD,List.getElem?_eq_getElem h2];rfl
 rw[e1,e2]
 rcases q7l h1 with h|⟨y,rfl,h⟩
 ·rw[sg_2l (mt_lt ep h),sg_2l (by rw[q08];exact h),q8d h]
 ·have:=sg_2r (p:=phiL p) (q:=phiL q) (x:=y) (by rw[q08];exact h)
  rw[q08] at this
  rw[this,qf9 ep,sg_2r (mt_lt eq h),q8d h]
theorem cn_2l {x:Nat} (h:x<p.length):sg (cnL (cat2 p q)) x=sg (cnL p) x:=by
 rw[q31 (by rw[q07];omega),q31 h,qdv hp hq ep eq h]
theorem cn_2r {x:Nat} (h:x<q.length):sg (cnL (cat2 p q)) (p.length+x)=cldr p.length (sg p) p.length+sg (cnL q) x:=by
 rw[q31 (by rw[q07];omega),q31 h,qdw hp hq ep eq h]
omit hp hq ep eq in
theorem q7n {a b:Nat} (P Q R:Nat→Bool) (hl:∀ x,x<a→P x=Q x) (hr:∀ x,x<b→P (a+x)=R x):((List.range (a+b)).filter P).length=((List.range a).filter Q).length+((List.range b).filter R).length:=by
 rw[List.range_add,List.filter_append,List.length_append,List.filter_map,List.length_map]
 congr 2
 ·exact List.filter_congr (fun x hx=>hl x (List.mem_range.1 hx))
 ·exact List.filter_congr (fun x hx=>hr x (List.mem_range.1 hx))
omit hp hq ep eq in
theorem q3j {b:Nat} {R:Nat→Bool} (h:∀ x,x<b→R x=false):((List.range b).filter R).length=0:=by
 rw[List.filter_eq_nil_iff.2 (fun x hx=>by rw[h x (List.mem_range.1 hx)];simp)];rfl
theorem of_2 (a b:List Nat) (ha:a.length=p.length) (hb:b.length=q.length) (hpa:IsP a.length (sg a)) (hqb:IsP b.length (sg b)) (c:Nat) :
  (c<cldr p.length (sg p) p.length→ofN (cat2 a b) (cnL (cat2 p q)) c (cat2 p q).length=ofN a (cnL p) c p.length)∧ofN (cat2 a b) (cnL (cat2 p q)) (cldr p.length (sg p) p.length+c) (cat2 p q).length=ofN b (cnL q) c q.length:=by
 have hl:∀ x,x<p.length→rep (sg (cat2 a b)) x=rep (sg a) x:=fun x hx=>qnz hpa hqb (by omega)
 have hr:∀ x,x<q.length→rep (sg (cat2 a b)) (p.length+x)=p.length+rep (sg b) x:=fun x hx=>by
  have:=qo hpa hqb (x:=x) (by omega);rwa [ha] at this
 have hcn:∀ x,x<p.length→sg (cnL p) x<cldr p.length (sg p) p.length:=fun x hx=>by rw[q31 hx];exact hp.cnum_lt ep hx
 unfold ofN
 rw[q07]
 refine⟨fun hc=>?_,?_⟩
 ·rw[q7n _ (fun d=>rep (sg a) d == d && sg (cnL p) d == c) (fun _=>false) (fun x hx=>by rw[hl x hx,cn_2l hp hq ep eq hx]) (fun x hx=>by
   rw[cn_2r hp hq ep eq hx]
   have:(cldr p.length (sg p) p.length+sg (cnL q) x == c)=false:=by rw[beq_eq_false_iff_ne];omega
   rw[this,Bool.and_false]),q3j (fun _ _=>rfl),Nat.add_zero]
 ·rw[q7n _ (fun _=>false) (fun d=>rep (sg b) d == d && sg (cnL q) d == c) (fun x hx=>by
   rw[cn_2l hp hq ep eq hx]
   have:=hcn x hx
   have:(sg (cnL p) x == cldr p.length (sg p) p.length+c)=false:=by rw[beq_eq_false_iff_ne];omega
   rw[this,Bool.and_false]) (fun x hx=>by
   rw[hr x hx,cn_2r hp hq ep eq hx]
   congr 1
   ·exact Bool.eq_iff_iff.2 (by simp)
   ·exact Bool.eq_iff_iff.2 (by simp)),q3j (fun _ _=>rfl),Nat.zero_add]
theorem cnt_2 (c:Nat):(c<cldr p.length (sg p) p.length→cntN (cnL (cat2 p q)) c (cat2 p q).length=cntN (cnL p) c p.length)∧cntN (cnL (cat2 p q)) (cldr p.length (sg p) p.length+c) (cat2 p q).length=cntN (cnL q) c q.length:=by
 have hcn:∀ x,x<p.length→sg (cnL p) x<cldr p.length (sg p) p.length:=fun x hx=>by rw[q31 hx];exact hp.cnum_lt ep hx
 unfold cntN
 rw[q07]
 refine⟨fun hc=>?_,?_⟩
 ·rw[q7n _ (fun d=>sg (cnL p) d == c) (fun _=>false) (fun x hx=>by rw[cn_2l hp hq ep eq hx]) (fun x hx=>by
   rw[cn_2r hp hq ep eq hx,beq_eq_false_iff_ne];omega),q3j (fun _ _=>rfl),Nat.add_zero]
 ·rw[q7n _ (fun _=>false) (fun d=>sg (cnL q) d == c) (fun x hx=>by
   have:=hcn x hx
   rw[cn_2l hp hq ep eq hx,beq_eq_false_iff_ne];omega) (fun x hx=>by
   rw[cn_2r hp hq ep eq hx]
   exact Bool.eq_iff_iff.2 (by simp)),q3j (fun _ _=>rfl),Nat.zero_add]
theorem ptG_2 (c:Nat):(c<cldr p.length (sg p) p.length→ptG (cat2 p q) c=ptG p c)∧ptG (cat2 p q) (cldr p.length (sg p) p.length+c)=ptG q c:=by
 have hphp:=q6b hp ep
 have hphq:=q6b hq eq
 have h1:=of_2 hp hq ep eq p q rfl rfl hp hq c
 have h2:=of_2 hp hq ep eq (phiL p) (phiL q) (q08 p) (q08 q) hphp hphq c
 have h3:=cnt_2 hp hq ep eq c
 rw[← phi_2 ep eq] at h2
 unfold ptG ptV ptB ptE
 refine⟨fun hc=>?_,?_⟩
 ·rw[h1.1 hc,h2.1 hc,h3.1 hc]
 ·rw[h1.2,h2.2,h3.2]
theorem gen_2 (ln:Nat):genS (q0b (cat2 p q) ln)=genS (q0b p 0)+genS (q0b q ln):=by
 have hrep:∀ m:Nat,((List.replicate m ([-1,1,0,1,0]:List Int)).map fun p=>p.getD 4 0).sum=0:=fun m=>by
  induction m with
  | zero=>rfl
  | succ m ih=>rw[List.replicate_succ,List.map_cons,List.sum_cons,ih];rfl
 have key:∀ (s:List Nat) (m:Nat),genS (q0b s m)=(((List.range s.length).filter fun d=>crep s.length (sg s) d == d).map fun d=>ptG s (cnum s.length (sg s) d)).sum:=fun s m=>by
  unfold genS q0b q1g
  rw[List.map_append,List.sum_append,List.map_map,hrep,Int.add_zero]
  rfl
 rw[key,key,key]
 have e:(List.range (cat2 p q).length).filter (fun d=>crep (cat2 p q).length (sg (cat2 p q)) d == d)=((List.range p.length).filter fun d=>crep p.length (sg p) d == d) ++ ((List.range q.length).filter fun d=>crep q.length (sg q) d == d).map (p.length + ·):=by
  conv=>lhs;arg 2;rw[q07]
  rw[List.range_add,List.filter_append,List.filter_map]
  congr 1
  ·exact List.filter_congr (fun x hx=>by rw[qam hp hq ep eq (List.mem_range.1 hx)])
  ·congr 1
   exact List.filter_congr (fun x hx=>by
    show (crep _ _ (p.length+x) == p.length+x)=_
    rw[qan hp hq ep eq (List.mem_range.1 hx)]
    exact Bool.eq_iff_iff.2 (by simp))
 rw[e,List.map_append,List.sum_append,List.map_map]
 congr 2
 ·refine List.map_congr_left (fun x hx=>?_)
  have hx:=List.mem_range.1 (List.mem_filter.1 hx).1
  rw[qdv hp hq ep eq hx,(ptG_2 hp hq ep eq _).1 (hp.cnum_lt ep hx)]
 ·refine List.map_congr_left (fun x hx=>?_)
  have hx:=List.mem_range.1 (List.mem_filter.1 hx).1
  show ptG _ (cnum _ _ (p.length+x))=_
  rw[qdw hp hq ep eq hx,(ptG_2 hp hq ep eq _).2]
end
theorem qfa {n0:Nat} {f:Nat→Nat} (he:n0 % 2=0) (hm:∀ x,x<n0→f (mt x)=mt (f x)) (hi:∀ x y,x<n0→y<n0→f x=f y→x=y) {d:Nat} (hd:d<n0) :
  ∀ out:List (Nat × Nat),(∀ p ∈ out,p.1<n0)→(out.map fun p=>(f p.1,p.2)).find? (fun p=>p.1 / 2 == f d / 2)=(out.find? (fun p=>p.1 / 2 == d / 2)).map fun p=>(f p.1,p.2)
 | [],_=>rfl
 | p :: out,h=>by
  have hp:=h p (by simp)
  have ih:=qfa he hm hi hd out (fun x hx=>h x (by simp[hx]))
  rw[List.map_cons,List.find?_cons,List.find?_cons]
  have e:((f p.1) / 2 == f d / 2)=(p.1 / 2 == d / 2):=by
   refine Bool.eq_iff_iff.2 ?_
   simp only [beq_iff_eq]
   constructor
   ·intro h1
    rcases qeo h1 with h2|h2
    ·rw[hi _ _ hd hp h2]
    ·rw[← hm _ hp] at h2
     rw[hi _ _ hd (mt_lt he hp) h2,qen]
   ·intro h1
    rcases qeo h1 with h2|h2
    ·rw[h2]
    ·rw[h2,hm _ hp,qen]
  rw[e,ih]
  cases p.1 / 2 == d / 2 <;> rfl
theorem qku {n0:Nat} {v0 v f:Nat→Nat} (he:n0 % 2=0) (hm:∀ x,x<n0→f (mt x)=mt (f x)) (hi:∀ x y,x<n0→y<n0→f x=f y→x=y) (hv:∀ x y,x<n0→y<n0→(v (f x)=v (f y)↔v0 x=v0 y)) {r d:Nat} (hr:r<n0) (hd:d<n0) (out:List (Nat × Nat)) (ho:∀ p ∈ out,p.1<n0) :
  kindB v (f r) (out.map fun p=>(f p.1,p.2)) (f d)=kindB v0 r out d:=by
 unfold kindB
 rw[qfa he hm hi hd out ho]
 cases hf:out.find? (fun p=>p.1 / 2 == d / 2) with
 | some p=>rfl
 | none =>
  show (if metB v (f r) _ (v (mt (f d))) then 2 else 0)=(if metB v0 r out (v0 (mt d)) then 2 else 0)
  have e:metB v (f r) (out.map fun p=>(f p.1,p.2)) (v (mt (f d)))=metB v0 r out (v0 (mt d)):=by
   unfold metB
   rw[← hm d hd,List.any_map]
   have h1:(v (f (mt d)) == v (f r))=(v0 (mt d) == v0 r):=by
    refine Bool.eq_iff_iff.2 ?_
    simp only [beq_iff_eq]
    exact hv _ _ (mt_lt he hd) hr
   rw[h1]
   congr 1
   refine Bool.eq_iff_iff.2 ?_
   simp only [List.any_eq_true,Function.comp,Bool.and_eq_true,beq_iff_eq]
   refine exists_congr (fun p=>and_congr_right (fun hp=>and_congr_right (fun _=>?_)))
   rw[← hm _ (ho p hp)]
   exact hv _ _ (mt_lt he (ho p hp)) (mt_lt he hd)
  rw[e]
theorem qmv {n0:Nat} {S0 S v0 v f:Nat→Nat} (hP:IsP n0 S0) (he:n0 % 2=0) (hf:∀ x,x<n0→S (f x)=f (S0 x)) (hm:∀ x,x<n0→f (mt x)=mt (f x)) (hi:∀ x y,x<n0→y<n0→f x=f y→x=y) (hv:∀ x y,x<n0→y<n0→(v (f x)=v (f y)↔v0 x=v0 y)) {r:Nat} (hr:r<n0) :
  ∀ j,(wlk S v (f r) j).1=f (wlk S0 v0 r j).1∧(wlk S v (f r) j).2=(wlk S0 v0 r j).2.map (fun p=>(f p.1,p.2))∧(wlk S0 v0 r j).1<n0∧∀ p ∈ (wlk S0 v0 r j).2,p.1<n0:=by
 intro j
 induction j with
 | zero=>exact⟨rfl,rfl,hr,fun p hp=>by simp[wlk] at hp⟩
 | succ j ih =>
  obtain⟨i1,i2,i3,i4⟩:=ih
  have hk:=qku he hm hi hv hr i3 _ i4
  rw[← i1,← i2] at hk
  have h1:(wlk S v (f r) (j+1)).1=S (if kindB v (f r) (wlk S v (f r) j).2 (wlk S v (f r) j).1<2 then mt (wlk S v (f r) j).1 else (wlk S v (f r) j).1):=rfl
  have h2:(wlk S0 v0 r (j+1)).1=S0 (if kindB v0 r (wlk S0 v0 r j).2 (wlk S0 v0 r j).1<2 then mt (wlk S0 v0 r j).1 else (wlk S0 v0 r j).1):=rfl
  have h3:(wlk S v (f r) (j+1)).2=(wlk S v (f r) j).2 ++ [((wlk S v (f r) j).1,kindB v (f r) (wlk S v (f r) j).2 (wlk S v (f r) j).1)]:=rfl
  have h4:(wlk S0 v0 r (j+1)).2=(wlk S0 v0 r j).2 ++ [((wlk S0 v0 r j).1,kindB v0 r (wlk S0 v0 r j).2 (wlk S0 v0 r j).1)]:=rfl
  rw[h1,h2,h3,h4,hk]
  have hlt:(if kindB v0 r (wlk S0 v0 r j).2 (wlk S0 v0 r j).1<2 then mt (wlk S0 v0 r j).1 else (wlk S0 v0 r j).1)<n0:=by
   split
   ·exact mt_lt he i3
   ·exact i3
  refine⟨?_,by rw[i2,List.map_append,i1];rfl,hP.lt _ hlt,fun p hp=>?_⟩
  ·rw[← hf _ hlt]
   congr 1
   split
   ·rw[i1,hm _ i3]
   ·exact i1
  ·rcases List.mem_append.1 hp with h|h
   ·exact i4 p h
   ·simp only [List.mem_singleton] at h
    rw[h];exact i3
theorem WkEnd.map {n0 n:Nat} {S0 S v0 v f:Nat→Nat} (hP:IsP n0 S0) (he:n0 % 2=0) (hf:∀ x,x<n0→S (f x)=f (S0 x)) (hm:∀ x,x<n0→f (mt x)=mt (f x)) (hi:∀ x y,x<n0→y<n0→f x=f y→x=y) (hv:∀ x y,x<n0→y<n0→(v (f x)=v (f y)↔v0 x=v0 y)) {r:Nat} (hr:r<n0)
  (hn:n0≤n) (hfn:∀ x,x<n0→f x<n) (hc:∀ z,Conn n S (f r) z↔∃ y,z=f y∧y<n0∧Conn n0 S0 r y) {T:Nat} (k:WkEnd n0 S0 v0 r T) :
  WkEnd n S v (f r) T∧kso (wlk S v (f r) T).2=kso (wlk S0 v0 r T).2:=by
 have hw:=qmv hP he hf hm hi hv hr
 have hk:∀ j,kso (wlk S v (f r) j).2=kso (wlk S0 v0 r j).2:=fun j=>by
  rw[(hw j).2.1]
  unfold kso
  rw[List.map_map]
  rfl
 have hvis:∀ j x,vis (wlk S v (f r) j).2 x↔∃ y,x=f y∧vis (wlk S0 v0 r j).2 y:=fun j x=>by
  rw[(hw j).2.1]
  unfold vis
  simp only [List.mem_map,Prod.mk.injEq,Prod.exists]
  constructor
  ·rintro⟨c,a,b,h1,h2,h3⟩
   exact⟨a,h2.symm,b,h1⟩
  ·rintro⟨y,h1,c,h2⟩
   exact⟨c,y,c,h2,h1.symm,rfl⟩
 refine⟨?_,hk T⟩
 refine { right:=by rw[hk T];exact k.right,nd:=?_,cov:=fun x hx=>?_,lt:=fun x hx=>?_,cur:=fun j hj=>?_,k4:=fun j hj x c hx=>?_,le:=by have:=k.le;omega }
 ·rw[(hw T).2.1,List.map_map]
  have hnd:=k.nd
  rw[List.Nodup,List.pairwise_map] at hnd ⊢
  refine List.Pairwise.imp_of_mem (fun {x y} hx hy hxy e=>hxy ?_) hnd
  exact hi _ _ ((hw T).2.2.2 x hx) ((hw T).2.2.2 y hy) e
 ·rw[hc,hvis]
  constructor
  ·rintro⟨y,h1,h2,h3⟩
   exact⟨y,h1,(k.cov y h2).1 h3⟩
  ·rintro⟨y,h1,h2⟩
   exact⟨y,h1,k.lt y h2,(k.cov y (k.lt y h2)).2 h2⟩
 ·obtain⟨y,rfl,hy⟩:=(hvis T x).1 hx
  exact hfn y (k.lt y hy)
 ·obtain⟨c1,c2⟩:=k.cur j hj
  rw[(hw j).1]
  refine⟨hfn _ c1,fun hx=>?_⟩
  obtain⟨y,e,hy⟩:=(hvis j _).1 hx
  obtain⟨c,hc⟩:=hy
  have:=hi _ _ c1 ((hw j).2.2.2 _ hc) e
  exact c2 ⟨c,this ▸ hc⟩
 ·rw[(hw j).2.1] at hx
  simp only [List.mem_map,Prod.mk.injEq,Prod.exists] at hx
  obtain⟨a,b,h1,h2,rfl⟩:=hx
  exact k.k4 j hj a b h1
theorem wK_2l {p q:List Nat} (hp:IsP p.length (sg p)) (hq:IsP q.length (sg q)) (ep:p.length % 2=0) (eq:q.length % 2=0) {r:Nat} (hr:r<p.length):wK (cat2 p q) r=wK p r:=by
 have hc:=q7m hp hq
 have h1:=(q8b hp ep hr).1
 have hl:=q07 p q
 obtain⟨h2,h3⟩:=WkEnd.map (n:=(cat2 p q).length) (S:=sg (cat2 p q)) (v:=vnum (sg (cat2 p q))) (f:=fun x=>x) hp ep (fun x hx=>sg_2l hx) (fun _ _=>rfl) (fun _ _ _ _ e=>e) (fun x y hx hy=>by
  show vnum (sg (cat2 p q)) x=vnum (sg (cat2 p q)) y↔_
  rw[hc.vnum_iff (by omega) (by omega),hp.vnum_iff hx hy]
  exact qdr hp hq hx) hr (by omega) (fun x hx=>by show x<_;omega) (fun z=>by
  show Conn _ _ r z↔_
  rw[qdt hp hq ep eq hr]
  constructor
  ·intro h;exact⟨z,rfl,hp.conn_lt ep hr h,h⟩
  ·rintro⟨y,rfl,_,h⟩;exact h) h1
 have h4:=h2.wK_eq
 show wK _ ((fun x=>x) r)=_
 rw[h4,h3]
 rfl
theorem wK_2r {p q:List Nat} (hp:IsP p.length (sg p)) (hq:IsP q.length (sg q)) (ep:p.length % 2=0) (eq:q.length % 2=0) {r:Nat} (hr:r<q.length):wK (cat2 p q) (p.length+r)=wK q r:=by
 have hc:=q7m hp hq
 have h1:=(q8b hq eq hr).1
 have hl:=q07 p q
 obtain⟨h2,h3⟩:=WkEnd.map (n:=(cat2 p q).length) (S:=sg (cat2 p q)) (v:=vnum (sg (cat2 p q))) (f:=fun x=>p.length+x) hq eq (fun x hx=>sg_2r hx) (fun x _=>(qf9 ep).symm) (fun _ _ _ _ e=>Nat.add_left_cancel e) (fun x y hx hy=>by
  show vnum (sg (cat2 p q)) (p.length+x)=vnum (sg (cat2 p q)) (p.length+y)↔_
  rw[hc.vnum_iff (by omega) (by omega),hq.vnum_iff hx hy,qds hp hq hx]
  constructor
  ·rintro⟨z,e,h⟩;rw[Nat.add_left_cancel e];exact h
  ·intro h;exact⟨y,rfl,h⟩) hr (by omega) (fun x hx=>by show p.length+x<_;omega) (fun z=>by
  show Conn _ _ (p.length+r) z↔_
  rw[qdu hp hq ep eq hr]
  constructor
  ·rintro⟨y,rfl,h⟩;exact⟨y,rfl,hq.conn_lt eq hr h,h⟩
  ·rintro⟨y,rfl,_,h⟩;exact⟨y,rfl,h⟩) h1
 have h4:=h2.wK_eq
 show wK _ ((fun x=>p.length+x) r)=_
 rw[h4,h3]
 rfl
theorem qo0 {k:List Nat} (h:WRight k) (hn:0<k.length):wK (decL k) 0=k:=by
 have hl:=q03 k
 have h1:=(h.wd.dec_end h.canon hn).1
 have h2:WkEnd (decL k).length (sg (decL k)) (vnum (sg (decL k))) 0 k.length:=by rw[hl];exact h1
 rw[h2.wK_eq]
 exact h.wd.dec_kso h.canon hn
theorem q5m:∀ {l:List (List Nat)},KsOk l→(catM (l.map decL)).length % 2=0
 | [],_=>rfl
 | k :: l,h=>by
  rw[List.map_cons,q5l,q07,q03]
  have h1:=(h k (by simp)).1.wd.even2
  have h2:=q5m (l:=l) (fun x hx=>h x (by simp[hx]))
  omega
def offsM:List (List Nat)→List Nat
 | []=>[]
 | k :: l=>0 :: (offsM l).map (k.length + ·)
theorem q7o:∀ {l:List (List Nat)},KsOk l→(List.range (catM (l.map decL)).length).filter (fun d=>crep (catM (l.map decL)).length (sg (catM (l.map decL))) d == d)=offsM l∧(offsM l).map (wK (catM (l.map decL)))=l∧∀ ln,genS (q0b (catM (l.map decL)) ln)=0
 | [],_=>by
  refine⟨rfl,rfl,fun ln=>?_⟩
  show genS (q0b [] ln)=0
  have hp:q0b [] ln=List.replicate ln [-1,1,0,1,0]:=rfl
  rw[hp]
  unfold genS
  have:∀ m:Nat,((List.replicate m ([-1,1,0,1,0]:List Int)).map fun p=>p.getD 4 0).sum=0:=fun m=>by
   induction m with
   | zero=>rfl
   | succ m ih=>rw[List.replicate_succ,List.map_cons,List.sum_cons,ih];rfl
  exact this ln
 | k :: l,h=>by
  have hk:=(h k (by simp)).1
  have hkn:=(h k (by simp)).2
  have hl:KsOk l:=fun x hx=>h x (by simp[hx])
  obtain⟨ih1,ih2,ih3⟩:=q7o hl
  have hp:=hk.wd.decL_isP
  have hq:=q2q hl
  have hlen:=q03 k
  have ep:(decL k).length % 2=0:=by rw[hlen];exact hk.wd.even2
  have eq:=q5m hl
  have hone:=hk.wd.dec_conn hkn
  have hpl:=hk.wd.dec_plane1 hkn
  rw[List.map_cons,q5l]
  generalize catM (l.map decL)=q at *
  refine⟨?_,?_,fun ln=>?_⟩
  ·conv=>lhs;arg 2;rw[q07]
   rw[List.range_add,List.filter_append,List.filter_map]
   have e1:(List.range (decL k).length).filter (fun d=>crep (cat2 (decL k) q).length (sg (cat2 (decL k) q)) d == d)=[0]:=by
    have e2:(List.range (decL k).length).filter (fun d=>crep (cat2 (decL k) q).length (sg (cat2 (decL k) q)) d == d)=(List.range (decL k).length).filter (fun d=>d == 0):=by
     refine List.filter_congr (fun x hx=>?_)
     have hx:=List.mem_range.1 hx
     rw[qam hp hq ep eq hx]
     have h0:crep (decL k).length (sg (decL k)) x=0:=by
      have h1:=hone x (by rw[← hlen];exact hx)
      rw[← hlen] at h1
      have h2:=hp.conn_symm ep (by omega) h1
      exact Nat.le_zero.1 (q20 h2)
     rw[h0]
     refine Bool.eq_iff_iff.2 ?_
     simp only [beq_iff_eq]
     omega
    rw[e2]
    obtain⟨m,hm⟩:∃ m,(decL k).length=m+1:=⟨(decL k).length - 1,by omega⟩
    rw[hm,List.range_succ_eq_map,List.filter_cons]
    simp only [beq_self_eq_true,if_true,List.cons.injEq,true_and]
    rw[List.filter_eq_nil_iff]
    intro x hx
    obtain⟨y,_,rfl⟩:=List.mem_map.1 hx
    simp
   rw[e1]
   show 0 :: _=0 :: _
   rw[← ih1,hlen]
   refine congrArg (fun l=>0 :: List.map (k.length + ·) l) ?_
   refine List.filter_congr (fun x hx=>?_)
   show (crep _ _ (k.length+x) == k.length+x)=_
   have:=qan hp hq ep eq (x:=x) (List.mem_range.1 hx)
   rw[hlen] at this
   rw[this]
   exact Bool.eq_iff_iff.2 (by simp)
  ·show wK _ 0 :: ((offsM l).map (k.length + ·)).map _=_
   rw[wK_2l hp hq ep eq (by omega),qo0 hk hkn,List.map_map]
   congr 1
   conv=>rhs;rw[← ih2]
   refine List.map_congr_left (fun x hx=>?_)
   show wK _ (k.length+x)=_
   have hx':x<q.length:=by
    rw[← ih1] at hx
    exact List.mem_range.1 (List.mem_filter.1 hx).1
   have:=wK_2r hp hq ep eq hx'
   rwa [hlen] at this
  ·rw[gen_2 hp hq ep eq,hpl.2,ih3,Int.add_zero]
open Classical in
theorem qmw {l:List (List Nat)} (h:KsOk l) (hn:l≠[]):kssOf (catM (l.map decL)) 0=l:=by
 obtain⟨h1,h2,_⟩:=q7o h
 have hP:=q2q h
 have he:=q5m h
 have hpos:0<(catM (l.map decL)).length:=by
  cases l with
  | nil=>exact absurd rfl hn
  | cons k l =>
   rw[List.map_cons,q5l,q07,q03]
   have:=(h k (by simp)).2
   omega
 generalize catM (l.map decL)=s at *
 have hz:crep s.length (sg s) 0=0:=Nat.le_zero.1 (q20 (Conn.refl _ _ _))
 have e:q0k s 0=(List.range s.length).filter fun d=>crep s.length (sg s) d == d:=by
  unfold q0k
  obtain⟨m,hm⟩:∃ m,s.length=m+1:=⟨s.length - 1,by omega⟩
  have e1:List.range s.length=0 :: (List.range m).map Nat.succ:=by rw[hm,List.range_succ_eq_map]
  rw[e1,List.filter_cons,List.filter_cons,hz]
  simp only [beq_self_eq_true,if_true,Bool.true_and]
  rw[decide_eq_true (Conn.refl _ _ _)]
  simp only [Bool.not_true,Bool.false_eq_true,if_false]
  congr 1
  refine List.filter_congr (fun x hx=>?_)
  obtain⟨y,hy,rfl⟩:=List.mem_map.1 hx
  have hyl:y.succ<s.length:=by have:=List.mem_range.1 hy;omega
  by_cases hc:crep s.length (sg s) y.succ=y.succ
  ·have:¬ Conn s.length (sg s) 0 y.succ:=fun h=>by
    have:=q20 (hP.conn_symm he hpos h)
    omega
   rw[decide_eq_false this,hc];simp
  ·have:(crep s.length (sg s) y.succ == y.succ)=false:=by rw[beq_eq_false_iff_ne];exact hc
   rw[this,Bool.false_and]
 unfold kssOf
 rw[e,h1,h2]
def offM (l:List (List Nat)) (i:Nat):Nat:=((l.take i).flatten).length
theorem q8c (l:List (List Nat)):offM l 0=0:=rfl
theorem qbq {l:List (List Nat)} {i:Nat} {k:List Nat} (h:l[i]? = some k):offM l (i+1)=offM l i+k.length:=by
 unfold offM
 rw[q0e h,List.flatten_append,List.length_append]
 simp
theorem qfb (l:List (List Nat)):offM l l.length=l.flatten.length:=by unfold offM;rw[List.take_of_length_le (Nat.le_refl _)]
theorem qi {l:List (List Nat)} {i:Nat}:offM l i≤l.flatten.length:=by
 unfold offM
 conv=>rhs;rw[← List.take_append_drop i l]
 rw[List.flatten_append,List.length_append]
 omega
theorem qbr (k:List Nat) (l:List (List Nat)) (i:Nat):offM (k :: l) (i+1)=k.length+offM l i:=by simp[offM]
theorem qm6:∀ {l:List (List Nat)},KsOk l→∀ i k,l[i]? = some k→∀ x,x<k.length→offM l i+x<(catM (l.map decL)).length∧sg (catM (l.map decL)) (offM l i+x)=offM l i+sg (decL k) x∧cnum (catM (l.map decL)).length (sg (catM (l.map decL))) (offM l i+x)=i
 | [],_,i,k,hi,_,_=>by simp at hi
 | k0 :: l,h,i,k,hi,x,hx=>by
  have hk:=(h k0 (by simp)).1
  have hkn:=(h k0 (by simp)).2
  have hl:KsOk l:=fun x hx=>h x (by simp[hx])
  have ih:=qm6 hl
  have hp:=hk.wd.decL_isP
  have hq:=q2q hl
  have hlen:=q03 k0
  have ep:(decL k0).length % 2=0:=by rw[hlen];exact hk.wd.even2
  have eq:=q5m hl
  have hpl:=hk.wd.dec_plane1 hkn
  rw[List.map_cons,q5l]
  cases i with
  | zero =>
   simp only [List.getElem?_cons_zero,Option.some.injEq] at hi
   subst hi
   have hx':x<(decL k0).length:=by omega
   rw[q8c,Nat.zero_add,Nat.zero_add,sg_2l hx',qdv hp hq ep eq hx',q07]
   have:=hp.cnum_lt ep hx'
   exact⟨by omega,rfl,by omega⟩
  | succ i =>
   rw[List.getElem?_cons_succ] at hi
   obtain⟨a1,a2,a3⟩:=ih i k hi x hx
   rw[qbr,← hlen,Nat.add_assoc,sg_2r a1,qdw hp hq ep eq a1,a2,a3,q07,hpl.1]
   exact⟨by omega,by omega,by omega⟩
end
end Go.Proofs.YtcfdpogegngplaaGreat
