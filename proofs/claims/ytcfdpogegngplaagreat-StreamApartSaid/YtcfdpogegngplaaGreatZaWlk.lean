import Derived.Deep.RegionLaw
import Derived.Test.YtcfdpogegngplaaGreatZaRight
import Derived.Test.YtcfdpogegngplaaGreatZaDfsW
import Derived.Deep.CutRange
set_option maxRecDepth 100000
set_option maxHeartbeats 4000000
namespace Go.Proofs.YtcfdpogegngplaaGreat
section
open Go.RowKit
def sg (s:List Nat) (d:Nat):Nat:=s.getD d 0
theorem qme {s:List Nat} {d:Nat} (h:d<s.length):s[d]? = some (sg s d):=by
 rw[sg,List.getD_eq_getElem?_getD,List.getElem?_eq_getElem h];rfl
def orbK (S:Nat→Nat) (d k:Nat):List Nat:=(List.range k).map fun i=>itr S i d
theorem qkd (S:Nat→Nat) (d k:Nat):orbK S d (k+1)=orbK S d k ++ [itr S k d]:=by simp[orbK,List.range_succ]
theorem qf3 (S:Nat→Nat) (d k:Nat):(orbK S d k).length=k:=by simp[orbK]
theorem q1z (l:List Nat) (x:Nat):nats (l ++ [x])=nats l ++ [(x:Int)]:=by simp[nats]
theorem q6x (w:World) (z:Int):OwnI w.heap.size (w.alloc (.cells #[.int .i64 z] 3)) (.slice (some ⟨w.heap.size,0,none⟩) 1 1) [z]:=by
 have h1:=World.ownsRow_lit (base:=w.heap.size) (e:=3) (size:=1) w #[.int .i64 z] 1 (Nat.le_refl _) (by unfold maxLen;omega) rfl
 exact h1
end
section
open Go.RowKit
theorem Sl.cellAt {k:IntKind} {w:World} {a:Option Addr} {n cap:Nat} {zs:List Int} (h:Sl k w (.slice a n cap) zs) {j:Nat} {z:Int} (hz:zs[j]? = some z):∃ g off,a=some ⟨g,off,none⟩∧w.cell? ⟨g,off+j,none⟩=some (.int k z):=by
 obtain⟨a',cap',hq,_,_,_,hc⟩:=h
 simp only [Value.slice.injEq] at hq
 obtain⟨rfl,-,rfl⟩:=hq
 exact hc j z hz
theorem Sl.cellOf {k:IntKind} {w:World} {g off n cap:Nat} {zs:List Int} (h:Sl k w (.slice (some ⟨g,off,none⟩) n cap) zs) {j:Nat} {z:Int} (hz:zs[j]? = some z):w.cell? ⟨g,off+j,none⟩=some (.int k z):=by
 obtain⟨g',off',hq,hc⟩:=h.cellAt hz
 simp only [Option.some.injEq,Addr.mk.injEq,and_true] at hq
 obtain⟨rfl,rfl⟩:=hq
 exact hc
theorem Sl.form {k:IntKind} {w:World} {sv:Value} {zs:List Int} (h:Sl k w sv zs):∃ a cap,sv=.slice a zs.length cap∧zs.length≤cap∧cap≤9223372036854775807:=by
 obtain⟨a,cap,h1,h2,h3,_⟩:=h
 exact⟨a,cap,h1,h2,h3⟩
theorem q4d {s:List Nat} {d:Nat} (h:d<s.length):(nats s)[d]? = some ((sg s d:Nat):Int):=q0i (qme h)
noncomputable def invP (S:Nat→Nat) (e:Nat):Nat:=itr S (per S e - 1) e
theorem IsP.inv_lt {n:Nat} {S:Nat→Nat} (h:IsP n S) {e:Nat} (he:e<n):invP S e<n:=h.itr_lt he _
theorem IsP.inv_to {n:Nat} {S:Nat→Nat} (h:IsP n S) {e:Nat} (he:e<n):S (invP S e)=e:=by
 have h0:=(h.per_spec he).1
 have:itr S (per S e - 1+1) e=e:=by rw[Nat.sub_add_cancel h0];exact (h.per_spec he).2.2.1
 exact this
theorem IsP.inv_of {n:Nat} {S:Nat→Nat} (h:IsP n S) {d:Nat} (hd:d<n):invP S (S d)=d :=
 h.inj _ _ (h.inv_lt (h.lt d hd)) hd (h.inv_to (h.lt d hd))
def InvS (s:List Nat) (j:Nat) (zs:List Int):Prop:=zs.length=s.length∧∀ i,i<j→zs[sg s i]? = some (i:Int)
theorem InvS.step {s:List Nat} {j:Nat} {zs:List Int} (hP:IsP s.length (sg s)) (hj:j<s.length) (h:InvS s j zs):InvS s (j+1) (zs.set (sg s j) (j:Int)):=by
 obtain⟨h1,h2⟩:=h
 refine⟨by simpa using h1,fun i hi=>?_⟩
 rw[List.getElem?_set]
 by_cases hij:i=j
 ·subst hij
  have:=hP.lt i hj
  have hb:sg s i<s.length:=this
  simp[h1,hb]
 ·rw[if_neg (fun e=>hij (hP.inj _ _ (by omega) hj e.symm))]
  exact h2 i (by omega)
theorem InvS.done {s:List Nat} {zs:List Int} (hP:IsP s.length (sg s)) (h:InvS s s.length zs):zs=nats ((List.range s.length).map (invP (sg s))):=by
 apply List.ext_getElem?
 intro e
 rcases Nat.lt_or_ge e s.length with he|he
 ·have h1:=h.2 (invP (sg s) e) (hP.inv_lt he)
  rw[hP.inv_to he] at h1
  rw[h1]
  simp[nats,he]
 ·rw[List.getElem?_eq_none (by rw[h.1];exact he),List.getElem?_eq_none (by simp[nats];exact he)]
def MadeS (w:World) (g n:Nat) (P:List Int→Prop) (wr:World):Prop :=
 ∃ zs,zs.length=n∧P zs∧OwnI w.heap.size wr (.slice (some ⟨g,0,none⟩) n n) zs∧Keeps (fun _=>False) w wr
theorem MadeS.made (w:World) (n:Nat) (P:List Int→Prop) (hP:P (List.replicate n 0)) (hn:n≤100000000):MadeS w w.heap.size n P (w.alloc (.cells (madeCells #[.int .i64 0] n) 3)) :=
 ⟨_,by simp,hP,OwnI.made w.heap.size w n (Nat.le_refl _) hn,(Keeps.refl _ w).alloc _⟩
theorem MadeS.old {w wr:World} {g n:Nat} {P:List Int→Prop} (h:MadeS w g n P wr):w.heap.size≤g∧g<wr.heap.size:=by
 obtain⟨zs,_,_,h3,_⟩:=h
 exact h3.lt g rfl
theorem MadeS.set {w wr:World} {g n:Nat} {P Q:List Int→Prop} (h:MadeS w g n P wr) (i:Nat) (z:Int) (hQ:∀ zs,zs.length=n→P zs→Q (zs.set i z)):MadeS w g n Q (wr.setCell ⟨g,i,none⟩ (.int .i64 z)):=by
 have ho:=h.old.1
 obtain⟨zs,h1,h2,h3,h4⟩:=h
 exact⟨zs.set i z,by simpa using h1,hQ zs h1 h2,h3.set i z,h4.setCell (.inr ho) _⟩
theorem MadeS.keeps {w wr w1:World} {g n:Nat} {P:List Int→Prop} (h:MadeS w g n P wr) (hk:Keeps (fun _=>False) wr w1):MadeS w g n P w1:=by
 obtain⟨zs,h1,h2,h3,h4⟩:=h
 exact⟨zs,h1,h2,h3.keeps hk (fun _ _ h=>h),h4.trans hk (fun _ _ h=>h)⟩
theorem MadeS.cell {w wr:World} {g n:Nat} {P:List Int→Prop} (h:MadeS w g n P wr) (i:Nat) (hi:i<n):∃ z:Int,(∃ zs,zs.length=n∧P zs∧zs[i]? = some z)∧wr.cell? ⟨g,i,none⟩=some (.int .i64 z)∧wr.frozen? ⟨g,i,none⟩=false:=by
 obtain⟨zs,h1,h2,h3,h4⟩:=h
 have hz:=List.getElem?_eq_getElem (l:=zs) (i:=i) (by omega)
 exact⟨_,⟨zs,h1,h2,hz⟩,h3.cell hz⟩
theorem MadeS.mono {w wr:World} {g n:Nat} {P Q:List Int→Prop} (h:MadeS w g n P wr) (hQ:∀ zs,zs.length=n→P zs→Q zs):MadeS w g n Q wr:=by
 obtain⟨zs,h1,h2,h3⟩:=h
 exact⟨zs,h1,hQ zs h1 h2,h3⟩
end
section
open Go.RowKit
def NmI (s:List Nat) (i:Nat) (zs:List Int):Prop:=∀ x,x<s.length→zs[x]? = some (if rep (sg s) x<i then ((vnum (sg s) x:Nat):Int) else -1)
def NmK (s:List Nat) (i k:Nat) (zs:List Int):Prop:=∀ x,x<s.length→zs[x]? = some (if rep (sg s) x<i then ((vnum (sg s) x:Nat):Int) else if x ∈ (orb (sg s) i).take k then ((ldr (sg s) i:Nat):Int) else -1)
theorem NmK.zero {s:List Nat} {i:Nat} {zs:List Int} (h:NmI s i zs):NmK s i 0 zs:=fun x hx=>by rw[h x hx];simp
theorem NmK.step {s:List Nat} {i k x:Nat} {zs:List Int} (hP:IsP s.length (sg s)) (hi:i<s.length) (hr:rep (sg s) i=i) (hx:(orb (sg s) i)[k]? = some x) (hl:zs.length=s.length) (h:NmK s i k zs):NmK s i (k+1) (zs.set x ((ldr (sg s) i:Nat):Int)):=by
 have hxo:x ∈ orb (sg s) i:=List.mem_of_getElem? hx
 have hxn:x<s.length:=hP.sameO_lt hi ((hP.mem_orb hi).1 hxo)
 intro y hy
 rw[List.getElem?_set,q0e hx]
 have h1:=(hP.mark_step hi hxn hr).2 hxo
 by_cases hxy:x=y
 ·subst hxy
  rw[if_pos rfl,if_pos (by omega),if_neg h1.2,if_pos (by simp)]
 ·rw[if_neg hxy,h y hy]
  have:(y ∈ (orb (sg s) i).take k ++ [x])↔y ∈ (orb (sg s) i).take k:=by
   simp only [List.mem_append,List.mem_singleton]
   exact⟨fun h=>h.resolve_right (fun e=>hxy e.symm),.inl⟩
  simp only [this]
theorem NmK.done {s:List Nat} {i:Nat} {zs:List Int} (hP:IsP s.length (sg s)) (hi:i<s.length) (hr:rep (sg s) i=i) (h:NmK s i (per (sg s) i) zs):NmI s (i+1) zs:=by
 intro y hy
 rw[h y hy,List.take_of_length_le (by rw[qad];exact Nat.le_refl _)]
 obtain⟨h1,h2⟩:=hP.mark_step hi hy hr
 by_cases a:rep (sg s) y<i
 ·rw[if_pos a,if_pos (by omega)]
 ·rw[if_neg a]
  by_cases b:y ∈ orb (sg s) i
  ·rw[if_pos b,if_pos (h1.2 (.inr b)),(h2 b).1]
  ·rw[if_neg b,if_neg (fun e=>(h1.1 e).elim a b)]
theorem NmI.skip {s:List Nat} {i:Nat} {zs:List Int} (hP:IsP s.length (sg s)) (hr:rep (sg s) i≠i) (h:NmI s i zs):NmI s (i+1) zs:=by
 intro y hy
 rw[h y hy]
 have:=hP.mark_skip (i:=i) hy hr
 by_cases a:rep (sg s) y<i
 ·rw[if_pos a,if_pos (this.2 a)]
 ·rw[if_neg a,if_neg (fun e=>a (this.1 e))]
theorem NmI.all {s:List Nat} {zs:List Int} (hP:IsP s.length (sg s)) (hl:zs.length=s.length) (h:NmI s s.length zs):zs=nats ((List.range s.length).map (vnum (sg s))):=by
 apply List.ext_getElem?
 intro e
 rcases Nat.lt_or_ge e s.length with he|he
 ·rw[h e he,if_pos (hP.rep_lt he)]
  simp[nats,he]
 ·rw[List.getElem?_eq_none (by omega),List.getElem?_eq_none (by simp[nats];exact he)]
theorem NmI.at {s:List Nat} {i:Nat} {zs:List Int} {z:Int} (hP:IsP s.length (sg s)) (hi:i<s.length) (h:NmI s i zs) (hz:zs[i]? = some z):(rep (sg s) i=i∧z=-1)∨(rep (sg s) i≠i∧0≤z):=by
 rw[h i hi] at hz
 have hle:=hP.rep_self_le hi
 simp only [Option.some.injEq] at hz
 by_cases a:rep (sg s) i<i
 ·rw[if_pos a] at hz;exact .inr ⟨by omega,by omega⟩
 ·rw[if_neg a] at hz;exact .inl ⟨by omega,hz.symm⟩
end
section
open Go.RowKit
theorem qmf {ops:Array Oper} {o:Oper} {a:Act} {K:Act→World→Prop} {Q:Exit→Act→World→Prop} {E:Prop} {wr:World} (n:Nat) (hgd:o.guard=none) (s x:Operand)
  (ho:o.op=.call { callee:=.builtin .append,args:=#[s,x],argTypes:=#[25,25] }) (B:Nat) (v:Value) (zs:List Int) (z:Int) (hn:Hid (zs.length=n)) (H:Nat) (hH:wr.heap.size=H) (hs:a.eval s=v) (hx:a.eval x=.slice (some ⟨H,0,none⟩) 1 1)
  (hown:OwnI B wr v zs) (hlen:n≤10000000000) (hB:B≤wr.heap.size)
  (h:∀ g cap w',OwnI B w' (.slice (some ⟨g,0,none⟩) (n+1) cap) (zs ++ [z])→Keeps (fun k=>v.ownBlock=some k) wr w'→(v.ownBlock=some g∨wr.heap.size≤g)→B≤g→K (a.put o.dst (.slice (some ⟨g,0,none⟩) (n+1) cap)) w') :
  if Region.wanted o (yielded ops a.tmps)=true then Oper.wp Tryz.prog o a (wr.alloc (.cells #[.int .i64 z] 3)) K Q else E:=by
 obtain⟨i,hi,hz0,hz1,hz2⟩:=info_parts q1d
 have hn:=hn.out
 subst hn
 subst hH
 refine step_append_lies _ hgd s x _ ho B 3 i (.int .i64 0) 1 8 Tryz.underlying25 hi hz0 hz1 hz2 rfl (by decide) v zs.length _ hs (hown.alloc _) ⟨wr.heap.size,0,none⟩ 1 1 [.int .i64 z] hx rfl (cell_one_new _ _ _) ?_ (by decide) ?_ ?_ ?_ (wr.heap.size+1) (by simp) ?_
 ·intro u hu;simp at hu;subst hu;rfl
 ·unfold maxLen;omega
 ·omega
 ·simp;omega
 ·intro g cap w1 hown1 hgrow hat _
  refine h g cap w1 ?_ (((Keeps.refl _ wr).alloc _).grown hgrow (fun k hk=>.inl hk)) (hat.imp id (fun h=>by omega)) ?_
  ·unfold OwnI ints
   rw[List.length_append,List.map_append]
   exact hown1
  ·exact (hown1.lt g rfl).1
theorem qbj {ops:Array Oper} {o:Oper} {a:Act} {K:Act→World→Prop} {Q:Exit→Act→World→Prop} {E:Prop} {wr:World} (n:Nat) (hgd:o.guard=none) (s x:Operand)
  (ho:o.op=.call { callee:=.builtin .append,args:=#[s,x],argTypes:=#[25,25] }) (B:Nat) (v:Value) (zs:List Int) (z:Int) (hn:Hid (zs.length=n)) (H:Nat) (hH:wr.heap.size=H) (hs:a.eval s=v) (hx:a.eval x=.slice (some ⟨H,0,none⟩) 1 1)
  (hown:OwnI B wr v zs) (hlen:n≤10000000000) (hB:B≤wr.heap.size)
  (h:∀ g cap w',OwnI B w' (.slice (some ⟨g,0,none⟩) (n+1) cap) (zs ++ [z])→Keeps (fun k=>v.ownBlock=some k) wr w'→(v.ownBlock=some g∨wr.heap.size≤g)→B≤g→K (a.put o.dst (.slice (some ⟨g,0,none⟩) (n+1) cap)) w') :
  if Region.wanted o (yielded ops a.tmps)=true then Oper.wp Tryz.prog o a (wr.alloc (.cells #[.int .i64 z] 3)).drew K Q else E:=by
 obtain⟨i,hi,hz0,hz1,hz2⟩:=info_parts q1d
 have hn:=hn.out
 subst hn
 subst hH
 refine step_append_lies _ hgd s x _ ho B 3 i (.int .i64 0) 1 8 Tryz.underlying25 hi hz0 hz1 hz2 rfl (by decide) v zs.length _ hs (hown.alloc _).drew ⟨wr.heap.size,0,none⟩ 1 1 [.int .i64 z] hx rfl (fun j u h=>cell_one_new wr _ _ j u h) ?_ (by decide) ?_ ?_ ?_ (wr.heap.size+1) (by simp) ?_
 ·intro u hu;simp at hu;subst hu;rfl
 ·unfold maxLen;omega
 ·omega
 ·simp;omega
 ·intro g cap w1 hown1 hgrow hat _
  refine h g cap w1 ?_ (((Keeps.refl _ wr).alloc _).drew.grown hgrow (fun k hk=>.inl hk)) (hat.imp id (fun h=>by omega)) ?_
  ·unfold OwnI ints
   rw[List.length_append,List.map_append]
   exact hown1
  ·exact (hown1.lt g rfl).1
def phiL (s:List Nat):List Nat:=(List.range s.length).map fun d=>sg s (mt d)
theorem q08 (s:List Nat):(phiL s).length=s.length:=by simp[phiL]
end
section
theorem qf4 (n:Nat) (S:Nat→Nat) (d:Nat):∃ m,Conn n S d m∧∀ e,Conn n S d e→m≤e:=by
 open Classical in
 obtain⟨m,h1,h2,h3,h4⟩:=q63 (fun e=>Conn n S d e) 0 d (by rw[Nat.zero_add];exact Conn.refl n S d)
 refine⟨m,h3,fun e he=>?_⟩
 rcases Nat.lt_or_ge e m with hlt|hge
 ·exact absurd he (h4 e (by omega) hlt)
 ·exact hge
noncomputable def crep (n:Nat) (S:Nat→Nat) (d:Nat):Nat:=(qf4 n S d).choose
theorem q17 (n:Nat) (S:Nat→Nat) (d:Nat):Conn n S d (crep n S d):=(qf4 n S d).choose_spec.1
theorem q20 {n:Nat} {S:Nat→Nat} {d e:Nat} (h:Conn n S d e):crep n S d≤e:=(qf4 n S d).choose_spec.2 e h
noncomputable def cldr (n:Nat) (S:Nat→Nat) (i:Nat):Nat:=((List.range i).filter fun x=>crep n S x == x).length
noncomputable def cnum (n:Nat) (S:Nat→Nat) (d:Nat):Nat:=cldr n S (crep n S d)
theorem q0u (n:Nat) (S:Nat→Nat) (i:Nat):cldr n S (i+1)=cldr n S i+if crep n S i=i then 1 else 0:=by
 unfold cldr
 rw[List.range_succ,List.filter_append,List.length_append]
 by_cases hi:crep n S i=i <;> simp[hi]
theorem q3e (n:Nat) (S:Nat→Nat) {i j:Nat} (hij:i≤j):cldr n S i≤cldr n S j:=by
 induction j with
 | zero=>rw[show i=0 by omega];exact Nat.le_refl _
 | succ j ih =>
  rcases Nat.lt_or_ge i (j+1) with hlt|hge
  ·have:=q0u n S j
   have:=ih (by omega)
   omega
  ·rw[show i=j+1 by omega];exact Nat.le_refl _
theorem q5h (n:Nat) (S:Nat→Nat) (i:Nat):cldr n S i≤i:=by
 unfold cldr
 exact Nat.le_trans (List.length_filter_le _ _) (by simp)
section
variable {n:Nat} {S:Nat→Nat} (h:IsP n S) (he:n % 2=0)
include h he
theorem IsP.crep_iff {d e:Nat} (hd:d<n) (hen:e<n):crep n S d=crep n S e↔Conn n S d e:=by
 constructor
 ·intro hr
  have h1:=q17 n S d
  rw[hr] at h1
  exact h1.trans (h.conn_symm he hen (q17 n S e))
 ·intro hs
  exact Nat.le_antisymm (q20 (hs.trans (q17 n S e))) (q20 ((h.conn_symm he hd hs).trans (q17 n S d)))
theorem IsP.crep_lt {d:Nat} (hd:d<n):crep n S d<n:=h.conn_lt he hd (q17 n S d)
theorem IsP.crep_crep {d:Nat} (hd:d<n):crep n S (crep n S d)=crep n S d:=((h.crep_iff he hd (h.crep_lt he hd)).2 (q17 n S d)).symm
theorem IsP.cnum_iff {d e:Nat} (hd:d<n) (hen:e<n):cnum n S d=cnum n S e↔Conn n S d e:=by
 rw[← h.crep_iff he hd hen]
 constructor
 ·intro hv
  unfold cnum at hv
  rcases Nat.lt_trichotomy (crep n S d) (crep n S e) with hlt|heq|hlt
  ·have h1:=q0u n S (crep n S d)
   rw[if_pos (h.crep_crep he hd)] at h1
   have h2:=q3e n S (show crep n S d+1≤crep n S e from hlt)
   omega
  ·exact heq
  ·have h1:=q0u n S (crep n S e)
   rw[if_pos (h.crep_crep he hen)] at h1
   have h2:=q3e n S (show crep n S e+1≤crep n S d from hlt)
   omega
 ·intro hr
  unfold cnum;rw[hr]
theorem IsP.cnum_lt {d:Nat} (hd:d<n):cnum n S d<cldr n S n:=by
 have h1:=q0u n S (crep n S d)
 rw[if_pos (h.crep_crep he hd)] at h1
 have h2:=q3e n S (show crep n S d+1≤n from h.crep_lt he hd)
 unfold cnum
 omega
end
end
section
open Go.RowKit
theorem MadeS.made' {w wr:World} (hk:Keeps (fun _=>False) w wr) (n:Nat) (P:List Int→Prop) (hP:P (List.replicate n 0)) (hn:n≤100000000):MadeS w wr.heap.size n P (wr.alloc (.cells (madeCells #[.int .i64 0] n) 3)) :=
 ⟨_,by simp,hP,OwnI.made w.heap.size wr n hk.size hn,hk.alloc _⟩
theorem MadeS.keepsF {w wr w1:World} {g n:Nat} {P:List Int→Prop} {F:Nat→Prop} (h:MadeS w g n P wr) (hk:Keeps F wr w1) (hg:¬ F g) (hF:∀ x,F x→w.heap.size≤x):MadeS w g n P w1:=by
 obtain⟨zs,h1,h2,h3,h4⟩:=h
 exact⟨zs,h1,h2,h3.keeps hk (fun x hx e=>by simp only [Value.ownBlock,Option.some.injEq] at hx;subst hx;exact hg e),h4.trans hk (fun x hx e=>by have:=hF x e;omega)⟩
end
section
open Go.RowKit
theorem qke (w:World):OwnI w.heap.size (w.alloc (.cells #[] 3)) (.slice (some ⟨w.heap.size,0,none⟩) 0 0) []:=by
 refine⟨rfl,.inr ⟨w.heap.size,0,#[],rfl,Nat.le_refl _,heap_alloc_new w _,Nat.le_refl _,Nat.zero_le _,?_,?_⟩⟩ <;> simp[ints]
theorem q96 (sv:Value) (zs:List Int) (w:World) (hs:Sl .i64 w sv zs) (hl:zs.length≤1000000000) :
  Calls Tryz.prog 120 #[sv] w fun e w'=>∃ v,e=.returned v∧OwnI w.heap.size w' v zs∧Keeps (fun _=>False) w w':=by
 have hnil:=fun (w:World) (a:Option Addr) (n c:Nat)=>Lib.run_eql_slice_nil (P:=Tryz.prog) w 25 3 a n c 0 0 Tryz.underlying25
 have hs0:=hs
 obtain⟨a,cap,rfl,hnc,hcm,hnone,hc⟩:=hs
 cases a with
 | none =>
  have hz:zs=[]:=by
   cases zs with
   | nil=>rfl
   | cons y ys=>obtain⟨g,off,h,_⟩:=hc 0 y rfl;cases h
  subst hz
  obtain rfl:=hnone rfl
  clear hc hs0 hnone
  go_enter Tryz.func120,Tryz.ntmps120
  go_wp2
  go_ret
  exact⟨_,rfl,OwnI.nil _ _,Keeps.refl _ _⟩
 | some a =>
  have k0:=(Keeps.refl (fun _=>False) w).alloc (.cells #[] 3)
  have hs1:=hs0.keeps k0 (fun _ _ h=>h)
  have ho:=qke w
  have H0:=Lib.hid (And.intro hs1 (And.intro ho k0))
  clear hc hs0 hnone hs1 ho k0
  go_enter Tryz.func120,Tryz.ntmps120
  go_wp2_with (at_builtin;(refine q9p rfl _ _ rfl w.heap.size (.slice (some ⟨w.heap.size,0,none⟩) 0 0) (.slice (some a) zs.length cap) [] zs rfl rfl H0.out.2.1 H0.out.1 (by simp;omega) (by simp) ?_);intro v5 w5 hown5 hk5 hf5)
  have HF:Hid (OwnI w.heap.size w5 v5 zs∧Keeps (fun _=>False) w w5):=Lib.hid ⟨by simpa using hown5,H0.out.2.2.trans hk5 (fun x hx h=>by simp only [Value.ownBlock,Option.some.injEq] at h;omega)⟩
  clear hown5 hk5 hf5
  go_wp2
  go_ret
  exact⟨_,rfl,HF.out⟩
theorem qhf (sv tv:Value) (zs:List Int) (w:World) (hs:Sl .i64 w sv zs) (ht:Sl .i64 w tv zs) (hl:zs.length≤100000) :
  Calls Tryz.prog 121 #[sv,tv] w fun e w'=>e=.returned (.bool true)∧Keeps (fun _=>False) w w':=by
 have HS:=Lib.hid (And.intro hs ht)
 obtain⟨a,c,rfl,_,_⟩:=hs.form
 obtain⟨a',c',rfl,_,_⟩:=ht.form
 generalize hm:zs.length=m at *
 have HM:=Lib.hid hm
 clear hs ht hm
 go_enter Tryz.func121,Tryz.ntmps121
 go_wp2_with fail
 go_loopg [13] (m - 0) (fun mu i wr=>∃ j:Nat,j≤m∧mu=m - j∧i=.int .i64 j∧Keeps (fun _=>False) w wr)
 case atStart=>exact⟨0,Nat.zero_le _,rfl,rfl,Keeps.refl _ _⟩
 case round =>
  obtain⟨j,hj,hgk,rfl,hk⟩:=hrel
  have HG:=Lib.hid hgk
  clear hgk
  by_cases hlt:j<m
  ·obtain⟨z,hz⟩:∃ z,zs[j]? = some z:=⟨_,List.getElem?_eq_getElem (by rw[HM.out];exact hlt)⟩
   have kd:Keeps (fun _=>False) wr wr.drew:=(Keeps.refl _ wr).drew
   obtain⟨g,o,rfl,k1⟩:=(HS.out.1.keeps hk (fun _ _ h=>h)).cellAt hz
   obtain⟨g',o',rfl,k2⟩:=(HS.out.2.keeps hk (fun _ _ h=>h)).cellAt hz
   have d1:wr.drew.cell? ⟨g,o+j,none⟩=some (.int .i64 z):=k1
   have d2:wr.drew.cell? ⟨g',o'+j,none⟩=some (.int .i64 z):=k2
   have HK:=Lib.hid hk
   clear hz kd hk
   go_wp2_with fail
   go_quiet (fail)
   go_wp2_with fail
   go_roundg (m - (j+1))
   case measure=>rw[HG.out];omega
   case rel=>exact⟨j+1,by omega,rfl,by go_num,HK.out.drewN nq⟩
  ·have HK:=Lib.hid hk
   clear hk
   go_wp2_with fail
   go_ret
   exact⟨rfl,HK.out⟩
end
section
structure Wd (ks:List Nat):Prop where
 k4:∀ k ∈ ks,k<4
 bal:MBal ks
noncomputable def mp (ks:List Nat) (i:Nat):Nat:=open Classical in if h:∃ m,MixMate ks i m then h.choose else i
section
variable {ks:List Nat} (h:Wd ks)
include h
theorem Wd.mate {i:Nat} (hi:i<ks.length):MixMate ks i (mp ks i):=by
 have hex:=h.bal.mate h.k4 hi
 unfold mp
 rw[dif_pos hex]
 exact hex.choose_spec
theorem Wd.mp_eq {i m:Nat} (hi:i<ks.length) (hm:MixMate ks i m):mp ks i=m:=(h.mate hi).unique hm
theorem Wd.mp_lt {i:Nat} (hi:i<ks.length):mp ks i<ks.length:=(h.mate hi).lt
theorem Wd.mp_mp {i:Nat} (hi:i<ks.length):mp ks (mp ks i)=i:=h.mp_eq (h.mp_lt hi) (h.mate hi).symm
end
structure PairW (ks:List Nat) (s i j:Nat):Prop where
 lt:i<j
 le:j<ks.length
 opens:ks[i]? = some (2 * s)
 closes:ks[j]? = some (2 * s+1)
 hit:ex (ownB s ks) (pr s ks (j+1))=ex (ownB s ks) (pr s ks i)
 above:∀ p,i<p→p≤j→ex (ownB s ks) (pr s ks i)<ex (ownB s ks) (pr s ks p)
theorem MixMate.pairW {ks:List Nat} {i m:Nat} (h:MixMate ks i m):∃ s,s<2∧(PairW ks s i m∨PairW ks s m i):=by
 obtain⟨s,a,c,hs,h1,h2,h3⟩:=h
 have key:∀ {i m a c:Nat},SelAt s ks a i→SelAt s ks c m→IsPair (ownB s ks) a c→PairW ks s i m:=by
  intro i m a c h1 h2 hp
  obtain⟨x,hx,hxs,hxp⟩:=id h1
  obtain⟨y,hy,hys,hyp⟩:=id h2
  have hb1:=(h1.own hx).2
  have hb2:=(h2.own hy).2
  have ho:=hp.opens.1
  have hc:=hp.closes.1
  rw[List.getD_eq_getElem?_getD,hb1,Option.getD_some] at ho
  rw[List.getD_eq_getElem?_getD,hb2,Option.getD_some] at hc
  have ho2:x % 2=0:=by simpa using ho
  have hc2:y % 2=1:=by
   have:¬ y % 2=0:=by simpa using hc
   omega
  have him:i<m:=by
   have:=(h1.cmp m).1 (by rw[hyp];exact hp.lt)
   exact this
  have hsm:=q59 s hy
  rw[if_pos hys,hyp] at hsm
  refine⟨him,q01 hy,by rw[hx];congr 1;omega,by rw[hy];congr 1;omega,by rw[hsm,hxp];exact hp.hit,fun p hp1 hp2=>?_⟩
  rw[hxp]
  refine hp.above _ ((h1.cmp p).2 hp1) ?_
  rw[← hyp];exact q5a s ks hp2
 rcases h3 with⟨_,hp⟩|⟨_,hp⟩
 ·exact⟨s,hs,.inl (key h1 h2 hp)⟩
 ·exact⟨s,hs,.inr (key h2 h1 hp)⟩
theorem PairW.DD {ks:List Nat} {i j:Nat} (h:PairW ks 0 i j):DD ks (j+1)=DD ks i∧∀ p,i<p→p≤j→DD ks i<DD ks p:=by
 have hl:=h.lt
 have hj:=h.le
 have h1:=h.hit
 rw[ex_DD (show j+1≤ks.length by omega),ex_DD (show i≤ks.length by omega)] at h1
 refine⟨h1,fun p hp1 hp2=>?_⟩
 have:=h.above p hp1 hp2
 rwa [ex_DD (show i≤ks.length by omega),ex_DD (show p≤ks.length by omega)] at this
section
variable {ks:List Nat} (h:Wd ks)
include h
theorem Wd.dpos {p:Nat} (hp:p≤ks.length):0≤DD ks p:=by
 rw[← ex_DD hp];exact h.bal.1.2 _ (pr_le 0 ks p hp)
theorem Wd.dend:DD ks ks.length=0:=by
 rw[← ex_DD (Nat.le_refl _),← q0r];exact h.bal.1.1
theorem Wd.bend:BB ks ks.length=0:=by
 rw[← ex_BB (Nat.le_refl _),← q0r];exact h.bal.2.1
theorem Wd.cases {i:Nat} (hi:i<ks.length):∃ s,s<2∧((ks[i]? = some (2 * s)∧PairW ks s i (mp ks i))∨(ks[i]? = some (2 * s+1)∧PairW ks s (mp ks i) i)):=by
 obtain⟨s,hs,h1|h1⟩:=(h.mate hi).pairW
 ·exact⟨s,hs,.inl ⟨h1.opens,h1⟩⟩
 ·exact⟨s,hs,.inr ⟨h1.closes,h1⟩⟩
end
def oc (ks:List Nat) (i:Nat):Nat:=((ks.take i).filter fun k=>k % 2 == 0).length
theorem q4e {ks:List Nat} {i k:Nat} (h:ks[i]? = some k):oc ks (i+1)=oc ks i+if k % 2=0 then 1 else 0:=by
 unfold oc
 rw[q0e h,List.filter_append,List.length_append]
 by_cases hk:k % 2=0 <;> simp[hk]
theorem qbk (ks:List Nat) {a c:Nat} (h:a≤c):oc ks a≤oc ks c:=by
 unfold oc
 have:ks.take c=ks.take a ++ (ks.take c).drop a:=by
  conv=>lhs;rw[← List.take_append_drop a (ks.take c)]
  rw[List.take_take,Nat.min_eq_left h]
 rw[this,List.filter_append,List.length_append]
 omega
noncomputable def nmD (ks:List Nat) (i:Nat):Nat:=if (ks.getD i 0) % 2=0 then 2 * oc ks i else 2 * oc ks (mp ks i)+1
theorem q04 {ks:List Nat} {i k:Nat} (h:ks[i]? = some k):ks.getD i 0=k:=by rw[List.getD_eq_getElem?_getD,h];rfl
section
variable {ks:List Nat} (h:Wd ks)
include h
theorem Wd.nm_mate {i:Nat} (hi:i<ks.length):nmD ks (mp ks i)=mt (nmD ks i):=by
 obtain⟨s,hs,⟨h1,h2⟩|⟨h1,h2⟩⟩:=h.cases hi
 ·have hm:=q04 h2.closes
  have hi':=q04 h1
  unfold nmD
  rw[hm,hi',if_neg (by omega),if_pos (by omega),h.mp_mp hi]
  unfold mt;rw[if_pos (by omega)]
 ·have hm:=q04 h2.opens
  have hi':=q04 h1
  unfold nmD
  rw[hm,hi',if_pos (by omega),if_neg (by omega)]
  unfold mt;rw[if_neg (by omega)];omega
omit h in
theorem oc_dd:∀ p,p≤ks.length→(∀ k ∈ ks,k<4)→2 * (oc ks p:Int)=p+DD ks p+BB ks p:=by
 intro p hp h4
 induction p with
 | zero=>simp[oc,q6k,qe3]
 | succ p ih =>
  have hk:=List.getElem?_eq_getElem (l:=ks) (i:=p) (by omega)
  have h1:=q4e hk
  have h2:=q2d hk
  have h3:=qau hk
  have h5:=h4 _ (List.mem_of_getElem? hk)
  have ih:=ih (by omega)
  generalize ks[p]=k at *
  have hc:k=0∨k=1∨k=2∨k=3:=by omega
  rcases hc with rfl|rfl|rfl|rfl <;> simp[dd,bb] at h1 h2 h3 <;> omega
theorem Wd.even:2 * oc ks ks.length=ks.length:=by
 have h1:=oc_dd (ks:=ks) ks.length (Nat.le_refl _) h.k4
 rw[h.dend,h.bend] at h1
 omega
theorem Wd.nm_open_lt {i k:Nat} (hk:ks[i]? = some k) (h0:k % 2=0):2 * oc ks i+1<ks.length:=by
 have h1:=q4e hk
 rw[if_pos h0] at h1
 have h2:=qbk ks (show i+1≤ks.length from q01 hk)
 have:=h.even
 omega
theorem Wd.nm_lt {i:Nat} (hi:i<ks.length):nmD ks i<ks.length:=by
 obtain⟨s,hs,⟨h1,h2⟩|⟨h1,h2⟩⟩:=h.cases hi
 ·have:=h.nm_open_lt h1 (by omega)
  unfold nmD
  rw[q04 h1,if_pos (by omega)];omega
 ·have:=h.nm_open_lt h2.opens (by omega)
  unfold nmD
  rw[q04 h1,if_neg (by omega)];exact this
omit h in
theorem qmg {i j k l:Nat} (hi:ks[i]? = some k) (h0:k % 2=0) (hj:ks[j]? = some l) (h1:l % 2=0) (he:oc ks i=oc ks j):i=j:=by
 rcases Nat.lt_trichotomy i j with hlt|rfl|hlt
 ·have h2:=q4e hi
  rw[if_pos h0] at h2
  have:=qbk ks (show i+1≤j from hlt);omega
 ·rfl
 ·have h2:=q4e hj
  rw[if_pos h1] at h2
  have:=qbk ks (show j+1≤i from hlt);omega
theorem Wd.nm_isP:IsP ks.length (nmD ks):=by
 refine⟨fun d hd=>h.nm_lt hd,fun i j hi hj he=>?_⟩
 obtain⟨s,hs,hc⟩:=h.cases hi
 obtain⟨t,ht,hd⟩:=h.cases hj
 unfold nmD at he
 rcases hc with⟨h1,h2⟩|⟨h1,h2⟩ <;> rcases hd with⟨g1,g2⟩|⟨g1,g2⟩
 ·rw[q04 h1,q04 g1,if_pos (by omega),if_pos (by omega)] at he
  exact qmg h1 (by omega) g1 (by omega) (by omega)
 ·rw[q04 h1,q04 g1,if_pos (by omega),if_neg (by omega)] at he;omega
 ·rw[q04 h1,q04 g1,if_neg (by omega),if_pos (by omega)] at he;omega
 ·rw[q04 h1,q04 g1,if_neg (by omega),if_neg (by omega)] at he
  have:=qmg h2.opens (by omega) g2.opens (by omega) (by omega)
  rw[← h.mp_mp hi,this,h.mp_mp hj]
end
noncomputable def tn (ks:List Nat) (i:Nat):Nat:=((if ks.getD i 0<2 then mp ks i else i)+1) % ks.length
theorem q4f {n a c:Nat} (ha:a<n) (hc:c<n) (he:(a+1) % n=(c+1) % n):a=c:=by
 have h1:∀ x,x<n→(x+1) % n=if x+1=n then 0 else x+1:=by
  intro x hx
  split
  ·rename_i h;rw[h,Nat.mod_self]
  ·exact Nat.mod_eq_of_lt (by omega)
 rw[h1 a ha,h1 c hc] at he
 split at he <;> split at he <;> omega
section
variable {ks:List Nat} (h:Wd ks)
include h
theorem Wd.tree_mate {i:Nat} (hi:i<ks.length):ks.getD (mp ks i) 0<2↔ks.getD i 0<2:=by
 obtain⟨s,hs,⟨h1,h2⟩|⟨h1,h2⟩⟩:=h.cases hi
 ·rw[q04 h1,q04 h2.closes];omega
 ·rw[q04 h1,q04 h2.opens];omega
theorem Wd.tn_isP:IsP ks.length (tn ks):=by
 have hstep:∀ i,i<ks.length→(if ks.getD i 0<2 then mp ks i else i)<ks.length:=by
  intro i hi
  split
  ·exact h.mp_lt hi
  ·exact hi
 refine⟨fun d hd=>Nat.mod_lt _ (by omega),fun i j hi hj he=>?_⟩
 have he:=q4f (hstep i hi) (hstep j hj) he
 by_cases a:ks.getD i 0<2 <;> by_cases c:ks.getD j 0<2
 ·rw[if_pos a,if_pos c] at he
  rw[← h.mp_mp hi,he,h.mp_mp hj]
 ·rw[if_pos a,if_neg c] at he
  have:=(h.tree_mate hi).2 a
  rw[he] at this
  exact absurd this c
 ·rw[if_neg a,if_pos c] at he
  have:=(h.tree_mate hj).2 c
  rw[← he] at this
  exact absurd this a
 ·rw[if_neg a,if_neg c] at he;exact he
end
noncomputable def sD (ks:List Nat) (d:Nat):Nat:=nmD ks (tn ks (invP (nmD ks) d))
noncomputable def decL (ks:List Nat):List Nat:=(List.range ks.length).map (sD ks)
theorem q03 (ks:List Nat):(decL ks).length=ks.length:=by simp[decL]
theorem qkf {ks:List Nat} {d:Nat} (hd:d<ks.length):sg (decL ks) d=sD ks d:=by simp[sg,decL,hd]
theorem IsP.congr {n:Nat} {S T:Nat→Nat} (h:IsP n S) (he:∀ d,d<n→T d=S d):IsP n T :=
 ⟨fun d hd=>by rw[he d hd];exact h.lt d hd,fun d e hd hen heq=>h.inj d e hd hen (by rw[← he d hd,← he e hen];exact heq)⟩
section
variable {ks:List Nat} (h:Wd ks)
include h
theorem Wd.sD_isP:IsP ks.length (sD ks):=by
 have hn:=h.nm_isP
 have ht:=h.tn_isP
 refine⟨fun d hd=>h.nm_lt (ht.lt _ (hn.inv_lt hd)),fun d e hd he heq=>?_⟩
 have h1:=hn.inj _ _ (ht.lt _ (hn.inv_lt hd)) (ht.lt _ (hn.inv_lt he)) heq
 have h2:=ht.inj _ _ (hn.inv_lt hd) (hn.inv_lt he) h1
 rw[← hn.inv_to hd,h2,hn.inv_to he]
theorem Wd.decL_isP:IsP (decL ks).length (sg (decL ks)):=by
 rw[q03]
 exact h.sD_isP.congr (fun d hd=>qkf hd)
theorem Wd.sD_nm {i:Nat} (hi:i<ks.length):sD ks (nmD ks i)=nmD ks (tn ks i):=by
 unfold sD
 rw[h.nm_isP.inv_of hi]
theorem Wd.even2:ks.length % 2=0:=by have:=h.even;omega
end
end
section
open Go.RowKit
def NmS (ks:List Nat) (j:Nat) (zs:List Int):Prop:=∀ i k,i<j→ks[i]? = some k→k % 2=0→zs[i]? = some ((2 * oc ks i:Nat):Int)∧zs[mp ks i]? = some ((2 * oc ks i+1:Nat):Int)
theorem NmS.skip {ks:List Nat} {j k:Nat} {zs:List Int} (hk:ks[j]? = some k) (h1:k % 2=1) (h:NmS ks j zs):NmS ks (j+1) zs:=by
 intro i x hi hx h0
 by_cases hij:i=j
 ·subst hij;rw[hk] at hx;simp only [Option.some.injEq] at hx;omega
 ·exact h i x (by omega) hx h0
theorem NmS.step {ks:List Nat} {j k:Nat} {zs:List Int} (hW:Wd ks) (hl:zs.length=ks.length) (hk:ks[j]? = some k) (h0:k % 2=0) (h:NmS ks j zs):NmS ks (j+1) ((zs.set j ((2 * oc ks j:Nat):Int)).set (mp ks j) ((2 * oc ks j+1:Nat):Int)):=by
 have hj:=q01 hk
 have hm:=hW.mp_lt hj
 have hjm:mp ks j≠j:=by
  obtain⟨s,hs,⟨_,h2⟩|⟨_,h2⟩⟩:=hW.cases hj
  ·have:=h2.lt;omega
  ·have:=h2.lt;omega
 have hopen:∀ i x,ks[i]? = some x→x % 2=0→i≠mp ks j:=by
  intro i x hx hx0 e
  subst e
  obtain⟨s,hs,⟨h1,h2⟩|⟨h1,h2⟩⟩:=hW.cases hj
  ·rw[h2.closes] at hx;simp only [Option.some.injEq] at hx;omega
  ·rw[h1] at hk;simp only [Option.some.injEq] at hk;omega
 intro i x hi hx hx0
 have hin:=q01 hx
 have hmi:=hW.mp_lt hin
 by_cases hij:i=j
 ·subst hij
  constructor
  ·rw[List.getElem?_set,if_neg hjm,List.getElem?_set,if_pos rfl,if_pos (by omega)]
  ·rw[List.getElem?_set,if_pos rfl,if_pos (by simp;omega)]
 ·obtain⟨g1,g2⟩:=h i x (by omega) hx hx0
  have e1:=hopen i x hx hx0
  have e2:mp ks i≠j:=fun e=>by
   have:=hopen j k hk h0
   have h3:=hW.mp_mp hin
   rw[e] at h3
   exact e1 h3.symm
  have e3:mp ks i≠mp ks j:=fun e=>hij (by rw[← hW.mp_mp hin,e,hW.mp_mp hj])
  constructor
  ·rw[List.getElem?_set,if_neg (fun e=>e1 e.symm),List.getElem?_set,if_neg (fun e=>hij e.symm)];exact g1
  ·rw[List.getElem?_set,if_neg (fun e=>e3 e.symm),List.getElem?_set,if_neg (fun e=>e2 e.symm)];exact g2
theorem NmS.all {ks:List Nat} {zs:List Int} (hW:Wd ks) (hl:zs.length=ks.length) (h:NmS ks ks.length zs):zs=nats ((List.range ks.length).map (nmD ks)):=by
 apply List.ext_getElem?
 intro e
 rcases Nat.lt_or_ge e ks.length with he|he
 ·have hr:(nats ((List.range ks.length).map (nmD ks)))[e]? = some ((nmD ks e:Nat):Int):=by simp[nats,he]
  rw[hr]
  obtain⟨s,hs,⟨h1,h2⟩|⟨h1,h2⟩⟩:=hW.cases he
  ·rw[(h e _ he h1 (by omega)).1]
   unfold nmD
   rw[q04 h1,if_pos (by omega)]
  ·have:=(h (mp ks e) _ (hW.mp_lt he) h2.opens (by omega)).2
   rw[hW.mp_mp he] at this
   rw[this]
   unfold nmD
   rw[q04 h1,if_neg (by omega)]
 ·rw[List.getElem?_eq_none (by omega),List.getElem?_eq_none (by simp[nats];exact he)]
theorem q9n (sv:Value) (ks:List Nat) (w:World) (hs:Sl .i64 w sv (nats ks)) (hW:Wd ks) (hl:ks.length≤1000000) :
  Calls Tryz.prog 133 #[sv] w fun e w'=>∃ g,e=.returned (.slice (some ⟨g,0,none⟩) ks.length ks.length)∧MadeS w g ks.length (fun zs=>zs=nats ((List.range ks.length).map (nmD ks))) w':=by
 have HS:Hid (∀ W,Keeps (fun _=>False) w W→Sl .i64 W sv (nats ks)):=Lib.hid (fun W hk=>hs.keeps hk (fun _ _ h=>h))
 obtain⟨a,cap,rfl,hnc,hcm⟩:=hs.form
 rw[q02] at hnc HS ⊢
 have k0:Keeps (fun _=>False) w (w.alloc (.cells (madeCells #[.int .i64 0] ks.length) 3)):=(Keeps.refl _ w).alloc _
 have h0:=MadeS.made w ks.length (NmS ks 0) (fun i k hi=>by omega) (by omega)
 have hM:=q9l (.slice a ks.length cap) ks _ (HS.out _ k0) hW.k4 (by omega) hW.bal
 have HW:=Lib.hid hW
 have HK0:=Lib.hid (And.intro h0 k0)
 obtain⟨ii,hi,hz0,hz1,hz2⟩:=info_parts q1d
 have hmk:=fun w=>run_make (P:=Tryz.prog) w 25 3 ii _ Tryz.underlying25 hi hz0 .i64 .i64 (ks.length:Int) (ks.length:Int) (by omega) (Int.le_refl _) (by rw[hz2];omega) (by omega)
 simp only [hz1,Int.toNat_natCast,Nat.mul_one] at hmk
 clear hs hW hi hz0 hz1 hz2 h0 k0
 go_enter Tryz.func133,Tryz.ntmps133
 go_wp2_with fail
 refine hM.mono ?_
 rintro e w1 ⟨gm,rfl,ms,hms,hml,hmp,hk1⟩
 clear hM hmk
 obtain⟨g,hg⟩:∃ g,g=w.heap.size:=⟨_,rfl⟩
 have h1:=HK0.out.1.keeps hk1
 have hgm:g<gm:=by have:=(hms.lt gm rfl).1;simp at this;omega
 have hmo:∀ W,Keeps (fun q=>q=g) w1 W→∀ i,i<ks.length→W.cell? ⟨gm,i,none⟩=some (.int .i64 (mp ks i:Nat)):=by
  intro W hk i hi
  have ho:=hms.keeps hk (fun q hq e=>by simp only [Value.ownBlock,Option.some.injEq] at hq;omega)
  obtain⟨m,hm1,hm2⟩:=hmp i hi
  rw[HW.out.mp_eq hi hm2]
  exact (ho.cell hm1).1
 have HM:=Lib.hid hmo
 have hk11:=Keeps.refl (fun q=>q=g) w1
 rw[← hg] at h1
 rw[← hg]
 have HGW:=Lib.hid hg
 clear hms hmp hk1 hg hmo HK0
 go_wp2_with fail
 go_loopg [5,15] ks.length (fun m c i wr=>∃ j:Nat,j≤ks.length∧m=ks.length - j∧i=.int .i64 j∧c=.int .i64 (2 * oc ks j:Nat)∧MadeS w g ks.length (NmS ks j) wr∧Keeps (fun q=>q=g) w1 wr)
 case atStart=>exact⟨0,Nat.zero_le _,rfl,rfl,by simp[oc],h1,hk11⟩
 case round =>
  clear h1 hk11
  obtain⟨j,hj,hgk,rfl,rfl,hN,hkg⟩:=hrel
  have HG:=Lib.hid hgk
  clear hgk
  by_cases hlt:j<ks.length
  ·have hkj:=List.getElem?_eq_getElem hlt
   have hoc:=q4e hkj
   have hocn:oc ks j≤1000000:=by have:=List.length_filter_le (fun k=>k % 2 == 0) (ks.take j);have:(ks.take j).length≤j:=List.length_take_le _ _;unfold oc;omega
   obtain⟨_,_,_,_,hkw⟩:=id hN
   obtain⟨ag,off,rfl,hcell⟩:=(HS.out wr hkw).cellAt (q0i hkj)
   have hx4:=HW.out.k4 _ (List.mem_of_getElem? hkj)
   have hmc:=HM.out wr hkg j hlt
   have hml2:=HW.out.mp_lt hlt
   generalize ks[j]=x at *
   by_cases hx0:x % 2=0
   ·rw[if_pos hx0] at hoc
    obtain⟨z1,_,hc1,hf1⟩:=hN.cell j hlt
    obtain⟨z2,_,hc2,hf2⟩:=hN.cell (mp ks j) hml2
    have hN1:=hN.set (Q:=fun zs=>∃ zs0,zs0.length=ks.length∧NmS ks j zs0∧zs=zs0.set j ((2 * oc ks j:Nat):Int)) j ((2 * oc ks j:Nat):Int) (fun zs hzl h=>⟨zs,hzl,h,rfl⟩)
    have hN2:=hN1.set (Q:=NmS ks (j+1)) (mp ks j) ((2 * oc ks j+1:Nat):Int) (fun zs hzl h=>by
     obtain⟨zs0,h1,h2,h3⟩:=h
     rw[h3];exact h2.step HW.out h1 hkj hx0)
    obtain⟨z3,_,hc3,hf3⟩:=hN1.cell (mp ks j) hml2
    have hkf:=(hkg.setCell (p:=⟨g,j,none⟩) (.inl rfl) (.int .i64 ((2 * oc ks j:Nat):Int))).setCell (p:=⟨g,mp ks j,none⟩) (.inl rfl) (.int .i64 ((2 * oc ks j+1:Nat):Int))
    have HF:=Lib.hid (And.intro hN2 (And.intro hkf hoc))
    have hxb:(((x:Nat):Int) % 2 == 0)=true:=by simp;omega
    have e1:((2 * oc ks j+1:Nat):Int)=((2 * oc ks j:Nat):Int)+1:=by omega
    rw[e1] at HF
    have e2:((2 * oc ks j:Nat):Int)≤2000000:=by omega
    have e3:(0:Int)≤((2 * oc ks j:Nat):Int):=by omega
    clear hN hN1 hN2 hkf hoc hkg hkw e1 hkj hx0
    obtain⟨c,hcc⟩:∃ c:Nat,c=2 * oc ks j:=⟨_,rfl⟩
    have HC:=Lib.hid hcc
    rw[← hcc] at HF hc3 hf3 e2 e3
    rw[← hcc]
    clear hcc
    generalize mp ks j=y at *
    go_wp2
    go_roundg (ks.length - (j+1))
    case measure=>rw[HG.out];omega
    case rel=>exact⟨j+1,by omega,rfl,by go_num,by rw[HF.out.2.2,HC.out];go_num,HF.out.1,HF.out.2.1⟩
   ·rw[if_neg hx0] at hoc
    have HF:=Lib.hid (And.intro (hN.mono (fun zs _ h=>h.skip hkj (by omega))) (And.intro hkg hoc))
    have hxb:(((x:Nat):Int) % 2 == 0)=false:=by simp;omega
    clear hN hoc hkg hkw hmc hkj hx0
    generalize hcc:oc ks j=c at *
    have HC:=Lib.hid hcc
    clear hcc
    go_wp2
    go_roundg (ks.length - (j+1))
    case measure=>rw[HG.out];omega
    case rel=>exact⟨j+1,by omega,rfl,by go_num,by rw[HF.out.2.2,Nat.add_zero],HF.out.1,HF.out.2.1⟩
  ·obtain rfl:j=ks.length:=by omega
   have HF:=Lib.hid (hN.mono (fun zs hzl h=>h.all HW.out hzl))
   clear hN hkg
   go_wp2
   go_ret
   exact⟨g,rfl,HF.out⟩
end
section
def stk (ks:List Nat):Nat→List Nat
 | 0=>[]
 | j+1=>if ks.getD j 9=0 then stk ks j ++ [j] else if ks.getD j 9=1 then (stk ks j).dropLast else stk ks j
def vo (ks:List Nat) (o:Nat):Nat:=cntK (ks.take o) 0+1
theorem getD9 {ks:List Nat} {j k:Nat} (h:ks[j]? = some k):ks.getD j 9=k:=by rw[List.getD_eq_getElem?_getD,h];rfl
theorem getElem?_dropLast' {l:List Nat} {t x:Nat} (h:l.dropLast[t]? = some x):l[t]? = some x∧t+1<l.length:=by
 have ht:=q01 h
 rw[List.length_dropLast] at ht
 rw[List.getElem?_dropLast] at h
 by_cases hc:t<l.length - 1
 ·rw[if_pos hc] at h;exact⟨h,by omega⟩
 ·rw[if_neg hc] at h;cases h
section
variable {ks:List Nat} (h:Wd ks)
include h
theorem Wd.stk_spec:∀ j,j≤ks.length→((stk ks j).length:Int)=DD ks j∧∀ (t o:Nat),(stk ks j)[t]? = some o→o<j∧ks[o]? = some 0∧DD ks o=(t:Int)∧∀ p,o<p→p≤j→(t:Int)<DD ks p:=by
 intro j
 induction j with
 | zero=>intro _;exact⟨by simp[stk,q6k],fun t o ho=>by simp[stk] at ho⟩
 | succ j ih =>
  intro hj
  obtain⟨h1,h2⟩:=ih (by omega)
  have hk:=List.getElem?_eq_getElem (l:=ks) (i:=j) (by omega)
  have hd:=q2d hk
  have hg:=getD9 hk
  have hpos:=h.dpos hj
  generalize ks[j]=k at *
  unfold stk
  rw[hg]
  by_cases k0:k=0
  ·subst k0
   simp only [dd,if_true] at hd
   rw[if_pos rfl]
   refine⟨by rw[List.length_append,List.length_singleton];omega,fun t o ho=>?_⟩
   rcases q2i ho with ho|⟨rfl,rfl⟩
   ·obtain⟨g1,g2,g3,g4⟩:=h2 t o ho
    have:=q01 ho
    refine⟨by omega,g2,g3,fun p hp1 hp2=>?_⟩
    rcases Nat.lt_or_ge p (j+1) with hlt|hge
    ·exact g4 p hp1 (by omega)
    ·obtain rfl:p=j+1:=by omega
     omega
   ·refine⟨by omega,hk,h1.symm,fun p hp1 hp2=>?_⟩
    obtain rfl:p=o+1:=by omega
    omega
  ·rw[if_neg k0]
   by_cases k1:k=1
   ·subst k1
    simp[dd] at hd
    rw[if_pos rfl]
    have hl:0<(stk ks j).length:=by omega
    refine⟨by rw[List.length_dropLast];omega,fun t o ho=>?_⟩
    obtain⟨ho,ht⟩:=getElem?_dropLast' ho
    obtain⟨g1,g2,g3,g4⟩:=h2 t o ho
    refine⟨by omega,g2,g3,fun p hp1 hp2=>?_⟩
    rcases Nat.lt_or_ge p (j+1) with hlt|hge
    ·exact g4 p hp1 (by omega)
    ·obtain rfl:p=j+1:=by omega
     omega
   ·rw[if_neg k1]
    have hd0:dd k=0:=by simp[dd,k0,k1]
    rw[hd0] at hd
    refine⟨by omega,fun t o ho=>?_⟩
    obtain⟨g1,g2,g3,g4⟩:=h2 t o ho
    have:=q01 ho
    refine⟨by omega,g2,g3,fun p hp1 hp2=>?_⟩
    rcases Nat.lt_or_ge p (j+1) with hlt|hge
    ·exact g4 p hp1 (by omega)
    ·obtain rfl:p=j+1:=by omega
     omega
theorem Wd.stk_last {j:Nat} (hj:j≤ks.length) (hne:0<DD ks j):∃ o,(stk ks j).getLast? = some o∧OwnAt ks j o:=by
 obtain⟨h1,h2⟩:=h.stk_spec j hj
 have hl:0<(stk ks j).length:=by omega
 have hg:=List.getElem?_eq_getElem (l:=stk ks j) (i:=(stk ks j).length - 1) (by omega)
 obtain⟨g1,g2,g3,g4⟩:=h2 _ _ hg
 refine⟨_,by rw[List.getLast?_eq_getElem?];exact hg,g1,g2,by omega,fun p hp1 hp2=>by have:=g4 p hp1 hp2;omega⟩
end
def vx (ks:List Nat) (j:Nat):Nat:=match (stk ks j).getLast? with
 | some o=>vo ks o
 | none=>0
theorem q97 {ks:List Nat} {i:Nat} (h:ks[i]? = some 0):cntK (ks.take (i+1)) 0=cntK (ks.take i) 0+1:=by
 rw[q1l h 0,if_pos rfl]
theorem qmh {ks:List Nat} {o q:Nat} (ho:ks[o]? = some 0) (hq:ks[q]? = some 0) (he:vo ks o=vo ks q):o=q:=by
 unfold vo at he
 rcases Nat.lt_trichotomy o q with hlt|rfl|hlt
 ·have h1:=q97 ho
  have h2:=q8u ks 0 (show o+1≤q from hlt)
  omega
 ·rfl
 ·have h1:=q97 hq
  have h2:=q8u ks 0 (show q+1≤o from hlt)
  omega
section
variable {ks:List Nat} (h:Wd ks)
include h
theorem Wd.vx_own {j o:Nat} (hj:j≤ks.length) (ho:OwnAt ks j o):vx ks j=vo ks o:=by
 have hd:=h.dpos (p:=o) (by have:=ho.lt;omega)
 obtain⟨q,hq,hq2⟩:=h.stk_last hj (by have:=ho.hit;omega)
 unfold vx
 rw[hq,ho.unique hq2]
theorem Wd.vx_none {j:Nat} (hj:j≤ks.length) (h0:DD ks j=0):vx ks j=0:=by
 have:=(h.stk_spec j hj).1
 have:stk ks j=[]:=List.eq_nil_of_length_eq_zero (by omega)
 unfold vx
 rw[this];rfl
theorem Wd.own_or {j:Nat} (hj:j≤ks.length):DD ks j=0∨∃ o,OwnAt ks j o:=by
 have:=h.dpos hj
 by_cases h0:DD ks j=0
 ·exact .inl h0
 ·obtain⟨o,_,ho⟩:=h.stk_last hj (by omega)
  exact .inr ⟨o,ho⟩
theorem Wd.vx_iff {i j:Nat} (hi:i≤ks.length) (hj:j≤ks.length):vx ks i=vx ks j↔(DD ks i=0∧DD ks j=0)∨∃ o,OwnAt ks i o∧OwnAt ks j o:=by
 constructor
 ·intro he
  rcases h.own_or hi with h1|⟨o,ho⟩ <;> rcases h.own_or hj with h2|⟨q,hq⟩
  ·exact .inl ⟨h1,h2⟩
  ·rw[h.vx_none hi h1,h.vx_own hj hq] at he;unfold vo at he;omega
  ·rw[h.vx_own hi ho,h.vx_none hj h2] at he;unfold vo at he;omega
  ·rw[h.vx_own hi ho,h.vx_own hj hq] at he
   have:=qmh ho.opens hq.opens he
   subst this
   exact .inr ⟨o,ho,hq⟩
 ·rintro (⟨h1,h2⟩|⟨o,h1,h2⟩)
  ·rw[h.vx_none hi h1,h.vx_none hj h2]
  ·rw[h.vx_own hi h1,h.vx_own hj h2]
theorem Wd.vx_level {i j:Nat} (hij:i≤j) (hj:j≤ks.length) (hd:DD ks i=DD ks j) (hab:∀ p,i≤p→p≤j→DD ks i≤DD ks p):vx ks i=vx ks j:=by
 rw[h.vx_iff (by omega) hj]
 rcases h.own_or (show i≤ks.length by omega) with h1|⟨o,ho⟩
 ·exact .inl ⟨h1,by omega⟩
 ·refine .inr ⟨o,ho,by have:=ho.lt;omega,ho.opens,by have:=ho.hit;omega,fun p hp1 hp2=>?_⟩
  rcases Nat.lt_or_ge i p with hlt|hge
  ·have:=hab p (by omega) hp2;have:=ho.hit;omega
  ·exact ho.above p hp1 (by omega)
theorem Wd.vx_deep {i p:Nat} (hip:i<p) (hp:p≤ks.length) (hab:∀ q,i<q→q≤p→DD ks i<DD ks q):vx ks p≠vx ks i:=by
 intro he
 rw[h.vx_iff hp (by omega)] at he
 have h1:=hab p hip (Nat.le_refl _)
 rcases he with⟨h2,h3⟩|⟨o,h2,h3⟩
 ·omega
 ·have:=h2.hit;have:=h3.hit;omega
theorem Wd.vx_left {i o p:Nat} (ho:OwnAt ks i o) (hi:ks[i]? = some 1) (hip:i<p) (hp:p≤ks.length):vx ks p≠vx ks i:=by
 intro he
 have hil:=q01 hi
 rw[h.vx_iff hp (by omega)] at he
 have hd:=q2d hi
 simp[dd] at hd
 have:=ho.hit
 have:=h.dpos (p:=o) (by have:=ho.lt;omega)
 rcases he with⟨_,h3⟩|⟨q,h2,h3⟩
 ·omega
 ·have:=ho.unique h3
  subst this
  have:=h2.above (i+1) (by have:=ho.lt;omega) (by omega)
  omega
theorem Wd.tn_next {i:Nat} (hi:i<ks.length):tn ks i<ks.length∧vx ks (tn ks i)=vx ks i ∧
  ((i<tn ks i∧∀ p,i<p→p<tn ks i→vx ks p≠vx ks i)∨((∀ p,i<p→p<ks.length→vx ks p≠vx ks i)∧tn ks i≤i∧∀ p,p<tn ks i→vx ks p≠vx ks i)):=by
 have hend:=h.dend
 have wrap:∀ m,m+1=ks.length→i≤m→DD ks i=0→(∀ p,i<p→p<ks.length→vx ks p≠vx ks i)→tn ks i=(m+1) % ks.length →
   tn ks i<ks.length∧vx ks (tn ks i)=vx ks i∧((i<tn ks i∧∀ p,i<p→p<tn ks i→vx ks p≠vx ks i)∨((∀ p,i<p→p<ks.length→vx ks p≠vx ks i)∧tn ks i≤i∧∀ p,p<tn ks i→vx ks p≠vx ks i)):=by
  intro m hm him hd hall ht
  rw[hm,Nat.mod_self] at ht
  rw[ht]
  refine⟨by omega,?_,.inr ⟨hall,by omega,fun p hp=>by omega⟩⟩
  rw[h.vx_none (by omega) (q6k _),h.vx_none (by omega) hd]
 obtain⟨s,hs,hc⟩:=h.cases hi
 by_cases h2:s=0
 ·subst h2
  rcases hc with⟨h1,hp⟩|⟨h1,hp⟩
  ·
   obtain⟨d1,d2⟩:=hp.DD
   have hm:=hp.le
   have ht:tn ks i=(mp ks i+1) % ks.length:=by unfold tn;rw[q04 h1,if_pos (by omega)]
   have hdeep:∀ p,i<p→p≤mp ks i→vx ks p≠vx ks i:=fun p hp1 hp2=>h.vx_deep hp1 (by omega) (fun q hq1 hq2=>d2 q hq1 (by omega))
   rcases Nat.lt_or_ge (mp ks i+1) ks.length with hlt|hge
   ·rw[ht,Nat.mod_eq_of_lt hlt]
    refine⟨hlt,?_,.inl ⟨by have:=hp.lt;omega,fun p hp1 hp2=>hdeep p hp1 (by omega)⟩⟩
    refine (h.vx_level (by have:=hp.lt;omega) (by omega) d1.symm (fun p hp1 hp2=>?_)).symm
    rcases Nat.lt_or_ge i p with hlt2|hge2
    ·rcases Nat.lt_or_ge p (mp ks i+1) with h3|h3
     ·have:=d2 p hlt2 (by omega);omega
     ·obtain rfl:p=mp ks i+1:=by omega
      omega
    ·obtain rfl:p=i:=by omega
     exact Int.le_refl _
   ·have hml:mp ks i+1=ks.length:=by omega
    refine wrap (mp ks i) hml (by have:=hp.lt;omega) ?_ (fun p hp1 hp2=>hdeep p hp1 (by omega)) ht
    rw[hml] at d1;omega
  ·
   obtain⟨d1,d2⟩:=hp.DD
   have hlt:=hp.lt
   have ht:tn ks i=mp ks i+1:=by
    unfold tn;rw[q04 h1,if_pos (by omega),Nat.mod_eq_of_lt (by omega)]
   have hsi:=q2d h1
   simp[dd] at hsi
   have hso:=q2d hp.opens
   simp[dd] at hso
   have ho:OwnAt ks i (mp ks i):=⟨hlt,hp.opens,by omega,fun p hp1 hp2=>d2 p hp1 hp2⟩
   rw[ht]
   refine⟨by omega,?_,.inr ⟨fun p hp1 hp2=>h.vx_left ho (by simpa using h1) hp1 (by omega),by omega,fun p hp2 he=>?_⟩⟩
   ·refine h.vx_level (by omega) (by omega) (by omega) (fun p hp1 hp2=>?_)
    have:=d2 p (by omega) hp2;omega
   ·rw[h.vx_iff (by omega) (by omega)] at he
    rcases he with⟨_,h3⟩|⟨q,h2,h3⟩
    ·have:=ho.hit;have:=h.dpos (p:=mp ks i) (by omega);omega
    ·have:=h3.unique ho
     subst this
     have:=h2.lt;omega
 ·
  have hge2:¬ ks.getD i 0<2:=by
   rcases hc with⟨h1,_⟩|⟨h1,_⟩ <;> rw[q04 h1] <;> omega
  have ht:tn ks i=(i+1) % ks.length:=by unfold tn;rw[if_neg hge2]
  have hd:DD ks (i+1)=DD ks i:=by
   obtain rfl:s=1:=by omega
   rcases hc with⟨h1,_⟩|⟨h1,_⟩
   ·have:=q2d h1;rw[this];simp[dd]
   ·have:=q2d h1;rw[this];simp[dd]
  rcases Nat.lt_or_ge (i+1) ks.length with hlt|hge
  ·rw[ht,Nat.mod_eq_of_lt hlt]
   refine⟨hlt,(h.vx_level (by omega) (by omega) hd.symm (fun p hp1 hp2=>?_)).symm,.inl ⟨by omega,fun p hp1 hp2=>by omega⟩⟩
   rcases Nat.lt_or_ge i p with h3|h3
   ·obtain rfl:p=i+1:=by omega
    omega
   ·obtain rfl:p=i:=by omega
    exact Int.le_refl _
  ·have hml:i+1=ks.length:=by omega
   refine wrap i hml (by omega) ?_ (fun p hp1 hp2=>by omega) ht
   rw[hml,hend] at hd;omega
end
end
section
def plj (ks:List Nat) (j v:Nat):List Nat:=(List.range j).filter fun p=>vx ks p == v
def pl (ks:List Nat) (v:Nat):List Nat:=plj ks ks.length v
theorem qm2 (ks:List Nat) (j v:Nat):plj ks (j+1) v=plj ks j v ++ if vx ks j=v then [j] else []:=by
 unfold plj
 rw[List.range_succ,List.filter_append]
 congr 1
 by_cases hv:vx ks j=v <;> simp[hv]
theorem q4y {ks:List Nat} {v p:Nat}:p ∈ pl ks v↔p<ks.length∧vx ks p=v:=by
 unfold pl plj
 simp[List.mem_filter]
theorem qkg (ks:List Nat) (v:Nat):(pl ks v).Pairwise (·<·):=List.Pairwise.filter _ (List.pairwise_lt_range)
theorem pl_lt {ks:List Nat} {v i j a c:Nat} (hi:(pl ks v)[i]? = some a) (hj:(pl ks v)[j]? = some c):i<j↔a<c:=by
 have h1:=q01 hi
 have h2:=q01 hj
 rw[List.getElem?_eq_getElem h1] at hi
 rw[List.getElem?_eq_getElem h2] at hj
 simp only [Option.some.injEq] at hi hj
 have hs:=List.pairwise_iff_getElem.1 (qkg ks v)
 subst hi
 subst hj
 constructor
 ·intro h;exact hs i j h1 h2 h
 ·intro h
  rcases Nat.lt_trichotomy i j with h3|rfl|h3
  ·exact h3
  ·omega
  ·have:=hs j i h2 h1 h3;omega
section
variable {ks:List Nat} (h:Wd ks)
include h
theorem Wd.pl_next {v i p:Nat} (hp:(pl ks v)[i]? = some p):(i+1<(pl ks v).length→(pl ks v)[i+1]? = some (tn ks p))∧(¬ i+1<(pl ks v).length→(pl ks v)[0]? = some (tn ks p)):=by
 obtain⟨hpn,hpv⟩:=q4y.1 (List.mem_of_getElem? hp)
 obtain⟨ht,htv,hc⟩:=h.tn_next hpn
 have htm:tn ks p ∈ pl ks v:=q4y.2 ⟨ht,htv.trans hpv⟩
 obtain⟨k,hk,hke⟩:=List.mem_iff_getElem.1 htm
 have hkt:(pl ks v)[k]? = some (tn ks p):=by rw[List.getElem?_eq_getElem hk,hke]
 have hil:=q01 hp
 constructor
 ·intro hlt
  have hn:=List.getElem?_eq_getElem hlt
  generalize (pl ks v)[i+1]=q at *
  obtain⟨hqn,hqv⟩:=q4y.1 (List.mem_of_getElem? hn)
  have h1:=(pl_lt hp hn).1 (by omega)
  rcases hc with⟨h2,h3⟩|⟨h2,_⟩
  ·have h4:=(pl_lt hp hkt).2 h2
   rw[hn]
   congr 1
   rcases Nat.lt_trichotomy q (tn ks p) with h5|h5|h5
   ·exact absurd (hqv.trans hpv.symm) (h3 q h1 h5)
   ·exact h5
   ·have:=(pl_lt hkt hn).2 h5;omega
  ·exact absurd (hqv.trans hpv.symm) (h2 q h1 hqn)
 ·intro hge
  have hn:=List.getElem?_eq_getElem (l:=pl ks v) (i:=0) (by omega)
  generalize (pl ks v)[0]=q at *
  obtain⟨hqn,hqv⟩:=q4y.1 (List.mem_of_getElem? hn)
  rcases hc with⟨h2,h3⟩|⟨h2,h3,h4⟩
  ·have:=(pl_lt hp hkt).2 h2;omega
  ·rw[hn]
   congr 1
   rcases Nat.lt_trichotomy q (tn ks p) with h5|h5|h5
   ·exact absurd (hqv.trans hpv.symm) (h4 q h5)
   ·exact h5
   ·have:=(pl_lt hkt hn).2 h5;omega
theorem Wd.vx_lt {j p:Nat} (hj:p≤j) (hjn:j≤ks.length):vx ks p<cntK (ks.take j) 0+1:=by
 rcases h.own_or (show p≤ks.length by omega) with h1|⟨o,ho⟩
 ·rw[h.vx_none (by omega) h1];omega
 ·rw[h.vx_own (by omega) ho]
  have h1:=q97 ho.opens
  have h2:=q8u ks 0 (show o+1≤j by have:=ho.lt;omega)
  unfold vo;omega
omit h in
theorem qnp (j:Nat):((0 :: (stk ks j).map (vo ks)).getLast?)=some (vx ks j):=by
 unfold vx
 rw[List.getLast?_cons,List.getLast?_map]
 cases hl:(stk ks j).getLast? <;> simp
end
noncomputable def lsj (ks:List Nat) (j:Nat):List (List Nat):=(List.range (cntK (ks.take j) 0+1)).map fun v=>(plj ks j v).map (nmD ks)
theorem q18 (ks:List Nat) (j:Nat):(lsj ks j).length=cntK (ks.take j) 0+1:=by simp[lsj]
theorem q98 {ks:List Nat} {j v:Nat} (hv:v<cntK (ks.take j) 0+1):(lsj ks j)[v]? = some ((plj ks j v).map (nmD ks)):=by simp[lsj,hv]
section
variable {ks:List Nat} (h:Wd ks)
include h
theorem Wd.lsj_step {j k:Nat} (hk:ks[j]? = some k):lsj ks (j+1)=(lsj ks j).set (vx ks j) ((plj ks j (vx ks j)).map (nmD ks) ++ [nmD ks j]) ++ if k=0 then [[]] else []:=by
 have hj:=q01 hk
 have hv:=h.vx_lt (Nat.le_refl j) (by omega)
 have hc:cntK (ks.take (j+1)) 0=cntK (ks.take j) 0+if k=0 then 1 else 0:=q1l hk 0
 apply List.ext_getElem?
 intro v
 have hnew:∀ v,v=cntK (ks.take j) 0+1→plj ks (j+1) v=[]:=by
  intro v hv2
  apply List.filter_eq_nil_iff.2
  intro p hp
  have hp:=List.mem_range.1 hp
  have:=h.vx_lt (show p≤j by omega) (show j≤ks.length by omega)
  simp;omega
 rcases Nat.lt_or_ge v (cntK (ks.take j) 0+1) with hlt|hge
 ·rw[List.getElem?_append_left (by simp[q18];exact hlt),q98 (by omega),qm2]
  rw[List.getElem?_set]
  by_cases hvv:vx ks j=v
  ·subst hvv
   rw[if_pos rfl,if_pos rfl,if_pos (by rw[q18];exact hlt)]
   simp
  ·rw[if_neg hvv,if_neg hvv,q98 hlt]
   simp
 ·rw[List.getElem?_append_right (by simp[q18];exact hge)]
  simp only [List.length_set,q18]
  by_cases hk0:k=0
  ·rw[if_pos hk0] at hc
   rw[if_pos hk0]
   rcases Nat.lt_or_ge v (cntK (ks.take j) 0+2) with h2|h2
   ·have hve:v=cntK (ks.take j) 0+1:=by omega
    rw[q98 (by omega),hnew v hve,hve,Nat.sub_self]
    rfl
   ·rw[List.getElem?_eq_none (by rw[q18];omega),List.getElem?_eq_none (by simp;omega)]
  ·rw[if_neg hk0] at hc
   rw[if_neg hk0,List.getElem?_eq_none (by rw[q18];omega)]
   simp
end
end
section
section
variable {ks:List Nat} (h:Wd ks)
include h
theorem Wd.pl_walk {v a p:Nat} (hp:(pl ks v)[a]? = some p):∀ m,a+m<(pl ks v).length→(pl ks v)[a+m]? = some (itr (tn ks) m p):=by
 intro m
 induction m with
 | zero=>intro _;exact hp
 | succ m ih =>
  intro hm
  have ih:=ih (by omega)
  exact (h.pl_next ih).1 (by omega)
theorem Wd.pl_wrap {v a p:Nat} (hp:(pl ks v)[a]? = some p):(pl ks v)[0]? = some (itr (tn ks) ((pl ks v).length - a) p):=by
 have ha:=q01 hp
 have h1:=h.pl_walk hp ((pl ks v).length - 1 - a) (by omega)
 have h2:=(h.pl_next h1).2 (by omega)
 have h3:(pl ks v).length - a=((pl ks v).length - 1 - a)+1:=by omega
 rw[h2,h3];rfl
theorem Wd.vx_itr {i:Nat} (hi:i<ks.length) (k:Nat):itr (tn ks) k i<ks.length∧vx ks (itr (tn ks) k i)=vx ks i:=by
 induction k with
 | zero=>exact⟨hi,rfl⟩
 | succ k ih =>
  obtain⟨h1,h2,_⟩:=h.tn_next ih.1
  exact⟨h1,h2.trans ih.2⟩
theorem Wd.sameO_vx {i j:Nat} (hi:i<ks.length) (hj:j<ks.length):SameO (tn ks) i j↔vx ks i=vx ks j:=by
 constructor
 ·rintro⟨k,hk⟩
  rw[← hk];exact (h.vx_itr hi k).2.symm
 ·intro hv
  obtain⟨a,ha,hae⟩:=List.mem_iff_getElem.1 (q4y.2 ⟨hi,rfl⟩:i ∈ pl ks (vx ks i))
  obtain⟨b,hb,hbe⟩:=List.mem_iff_getElem.1 (q4y.2 ⟨hj,hv.symm⟩:j ∈ pl ks (vx ks i))
  have ga:(pl ks (vx ks i))[a]? = some i:=by rw[List.getElem?_eq_getElem ha,hae]
  have gb:(pl ks (vx ks i))[b]? = some j:=by rw[List.getElem?_eq_getElem hb,hbe]
  have g0:=h.pl_wrap ga
  have g1:=h.pl_walk g0 b (by omega)
  rw[Nat.zero_add,gb] at g1
  exact SameO.trans ⟨_,rfl⟩ ⟨b,(Option.some.inj g1).symm⟩
theorem Wd.vx_open {o:Nat} (ho:ks[o]? = some 0):vx ks (o+1)=vo ks o:=by
 have hd:=q2d ho
 simp[dd] at hd
 refine h.vx_own (q01 ho) ⟨by omega,ho,by omega,fun p hp1 hp2=>?_⟩
 obtain rfl:p=o+1:=by omega
 omega
theorem Wd.vx_zero:vx ks 0=0:=h.vx_none (by omega) (q6k _)
theorem Wd.open_next {o:Nat} (ho:ks[o]? = some 0):o+1<ks.length:=by
 obtain⟨s,hs,⟨h1,h2⟩|⟨h1,h2⟩⟩:=h.cases (q01 ho)
 ·have:=h2.lt;have:=h2.le;omega
 ·rw[ho] at h1;have:=Option.some.inj h1;omega
theorem Wd.rep_self {i:Nat} (hi:i<ks.length):rep (tn ks) i=i↔i=0∨(0<i∧ks[i - 1]? = some 0):=by
 have hP:=h.tn_isP
 constructor
 ·intro hr
  rcases Nat.eq_zero_or_pos i with h0|h0
  ·exact .inl h0
  refine .inr ⟨h0,?_⟩
  have hk:=List.getElem?_eq_getElem (l:=ks) (i:=i - 1) (by omega)
  have h4:=h.k4 _ (List.mem_of_getElem? hk)
  generalize ks[i - 1]=k at *
  have hno:∀ p,p<i→vx ks p≠vx ks i:=fun p hp he=>by
   have:=hP.rep_le hi ((h.sameO_vx hi (by omega)).2 he.symm)
   omega
  by_cases k0:k=0
  ·rw[hk,k0]
  exfalso
  by_cases k1:k=1
  ·subst k1
   obtain⟨s,hs,⟨h1,h2⟩|⟨h1,h2⟩⟩:=h.cases (i:=i - 1) (by omega)
   ·rw[hk] at h1;have:=Option.some.inj h1;omega
   ·have hs0:s=0:=by rw[hk] at h1;have:=Option.some.inj h1;omega
    subst hs0
    have hlt:=h2.lt
    obtain⟨_,hv,_⟩:=h.tn_next (i:=mp ks (i - 1)) (by omega)
    have ht:tn ks (mp ks (i - 1))=i:=by
     unfold tn
     rw[q04 h2.opens,if_pos (by omega),h.mp_mp (by omega),Nat.mod_eq_of_lt (by omega)]
     omega
    rw[ht] at hv
    exact hno _ (by omega) hv.symm
  ·obtain⟨_,hv,_⟩:=h.tn_next (i:=i - 1) (by omega)
   have ht:tn ks (i - 1)=i:=by
    unfold tn
    rw[q04 hk,if_neg (by omega),Nat.mod_eq_of_lt (by omega)]
    omega
   rw[ht] at hv
   exact hno _ (by omega) hv.symm
 ·intro hc
  have hle:=hP.rep_self_le hi
  have hs:=hP.rep_same hi
  have hv:=(h.sameO_vx hi (hP.rep_lt hi)).1 hs
  rcases hc with h0|⟨h0,ho⟩
  ·omega
  ·rcases Nat.lt_or_ge (rep (tn ks) i) i with hlt|hge
   ·have h1:=h.vx_open ho
    have h2:=h.vx_lt (p:=rep (tn ks) i) (j:=i - 1) (by omega) (by omega)
    rw[show i - 1+1=i by omega] at h1
    unfold vo at h1
    omega
   ·omega
theorem Wd.ldr_tn:∀ i,i≤ks.length→ldr (tn ks) i=if i=0 then 0 else cntK (ks.take (i - 1)) 0+1:=by
 intro i
 induction i with
 | zero=>intro _;rfl
 | succ i ih =>
  intro hi
  rw[q1a,ih (by omega),if_neg (show ¬ i+1=0 by omega),Nat.add_sub_cancel]
  have hr:=h.rep_self (i:=i) (by omega)
  rcases Nat.eq_zero_or_pos i with rfl|h0
  ·rw[if_pos rfl,if_pos (hr.2 (.inl rfl))];simp[cntK]
  ·rw[if_neg (by omega)]
   have hk:=List.getElem?_eq_getElem (l:=ks) (i:=i - 1) (by omega)
   have hc:=q1l hk 0
   rw[show i - 1+1=i by omega] at hc
   generalize ks[i - 1]=k at *
   rw[hc]
   by_cases k0:k=0
   ·rw[if_pos k0,if_pos (hr.2 (.inr ⟨h0,by rw[hk,k0]⟩))]
   ·rw[if_neg k0,if_neg (fun hh=>by
     rcases hr.1 hh with h1|⟨_,h1⟩
     ·omega
     ·rw[hk] at h1;exact k0 (Option.some.inj h1))]
theorem Wd.ldr_all (hn:0<ks.length):ldr (tn ks) ks.length=cntK ks 0+1:=by
 rw[h.ldr_tn _ (Nat.le_refl _),if_neg (by omega)]
 have hk:=List.getElem?_eq_getElem (l:=ks) (i:=ks.length - 1) (by omega)
 have hc:=q1l hk 0
 rw[show ks.length - 1+1=ks.length by omega,List.take_of_length_le (Nat.le_refl _)] at hc
 rw[hc,if_neg]
 ·intro h0
  rw[h0] at hk
  have:=h.open_next hk
  omega
end
def swp (ks:List Nat):List Nat:=ks.map fun k=>if k<2 then k+2 else k - 2
theorem q3f (ks:List Nat):(swp ks).length=ks.length:=by simp[swp]
theorem qkh {ks:List Nat} {i k:Nat} (h:ks[i]? = some k):(swp ks)[i]? = some (if k<2 then k+2 else k - 2):=by simp[swp,h]
theorem qm3:∀ (ks:List Nat) (k:Nat),(∀ x ∈ ks,x<4)→k<2→cntK (swp ks) k=cntK ks (k+2)∧cntK (swp ks) (k+2)=cntK ks k:=by
 intro ks k h4 hk
 induction ks with
 | nil=>exact⟨rfl,rfl⟩
 | cons x ks ih =>
  obtain⟨h1,h2⟩:=ih (fun y hy=>h4 y (by simp[hy]))
  have hx:=h4 x (by simp)
  unfold cntK swp at *
  simp only [List.map_cons,List.filter_cons]
  have hc:(x=0∨x=1∨x=2∨x=3):=by omega
  have hd:(k=0∨k=1):=by omega
  rcases hc with rfl|rfl|rfl|rfl <;> rcases hd with rfl|rfl <;> simp_all
theorem q82 (s:Nat) (hs:s<2):∀ ks:List Nat,(∀ x ∈ ks,x<4)→ownB (1 - s) (swp ks)=ownB s ks:=by
 intro ks h4
 induction ks with
 | nil=>rfl
 | cons x ks ih =>
  have h1:=ih (fun y hy=>h4 y (by simp[hy]))
  have hx:=h4 x (by simp)
  unfold ownB swp at *
  have hc:(x=0∨x=1∨x=2∨x=3):=by omega
  have hd:(s=0∨s=1):=by omega
  rcases hc with rfl|rfl|rfl|rfl <;> rcases hd with rfl|rfl <;> simp_all
theorem qge (ks:List Nat) (n:Nat):(swp ks).take n=swp (ks.take n):=by simp[swp,List.map_take]
theorem qoc (s:Nat) (hs:s<2) (ks:List Nat) (h4:∀ x ∈ ks,x<4) (n:Nat):pr (1 - s) (swp ks) n=pr s ks n:=by
 have h1:=q82 s hs (ks.take n) (fun x hx=>h4 x (List.mem_of_mem_take hx))
 have h2:=q0r (1 - s) ((swp ks).take n)
 have h3:=q0r s (ks.take n)
 rw[qge,h1,h3] at h2
 unfold pr at h2 ⊢
 rw[List.take_of_length_le (Nat.le_refl _),List.take_of_length_le (Nat.le_refl _),← qge] at h2
 exact h2.symm
theorem SelAt.swapped {s:Nat} (hs:s<2) {ks:List Nat} (h4:∀ x ∈ ks,x<4) {j n:Nat} (h:SelAt s ks j n):SelAt (1 - s) (swp ks) j n:=by
 obtain⟨k,h1,h2,h3⟩:=h
 refine⟨_,qkh h1,?_,by rw[qoc s hs ks h4,h3]⟩
 have:=h4 k (List.mem_of_getElem? h1)
 split <;> omega
theorem MixMate.swapped {ks:List Nat} (h4:∀ x ∈ ks,x<4) {i m:Nat} (h:MixMate ks i m):MixMate (swp ks) i m:=by
 obtain⟨s,a,c,hs,h1,h2,h3⟩:=h
 exact⟨1 - s,a,c,by omega,h1.swapped hs h4,h2.swapped hs h4,by rw[q82 s hs ks h4];exact h3⟩
section
variable {ks:List Nat} (h:Wd ks)
include h
theorem Wd.swapped:Wd (swp ks):=by
 refine⟨fun k hk=>?_,?_,?_⟩
 ·simp only [swp,List.mem_map] at hk
  obtain⟨x,hx,rfl⟩:=hk
  have:=h.k4 x hx
  split <;> omega
 ·have:=q82 1 (by omega) ks h.k4
  rw[show 1 - 1=0 from rfl] at this
  rw[this];exact h.bal.2
 ·have:=q82 0 (by omega) ks h.k4
  rw[show 1 - 0=1 from rfl] at this
  rw[this];exact h.bal.1
theorem Wd.mp_swp {i:Nat} (hi:i<ks.length):mp (swp ks) i=mp ks i :=
 h.swapped.mp_eq (by rw[q3f];exact hi) ((h.mate hi).swapped h.k4)
end
noncomputable def ph (ks:List Nat) (i:Nat):Nat:=tn ks (mp ks i)
theorem Wd.ph_isP {ks:List Nat} (h:Wd ks):IsP ks.length (ph ks) :=
 ⟨fun d hd=>h.tn_isP.lt _ (h.mp_lt hd),fun d e hd he hh=>by
  have h1:=h.tn_isP.inj _ _ (h.mp_lt hd) (h.mp_lt he) hh
  rw[← h.mp_mp hd,h1,h.mp_mp he]⟩
theorem Wd.ph_swp {ks:List Nat} (h:Wd ks) {i:Nat} (hi:i<ks.length):ph ks i=tn (swp ks) i:=by
 unfold ph tn
 rw[q3f,h.mp_swp hi]
 have hk:=List.getElem?_eq_getElem hi
 have h4:=h.k4 _ (List.mem_of_getElem? hk)
 rw[q04 (qkh hk)]
 have ht:=h.tree_mate hi
 rw[q04 hk] at ht
 generalize ks[i]=k at *
 by_cases k2:k<2
 ·rw[if_pos (ht.2 k2),h.mp_mp hi,if_pos k2,if_neg (by omega)]
 ·rw[if_neg (fun hh=>k2 (ht.1 hh)),if_neg k2,if_pos (by omega)]
theorem q99 {n:Nat} {S T:Nat→Nat} (hT:∀ d,d<n→T d<n) (he:∀ d,d<n→S d=T d) {d:Nat} (hd:d<n) (k:Nat):itr S k d=itr T k d∧itr T k d<n:=by
 induction k with
 | zero=>exact⟨rfl,hd⟩
 | succ k ih =>
  have h1:itr S (k+1) d=S (itr S k d):=rfl
  have h2:itr T (k+1) d=T (itr T k d):=rfl
  rw[h1,h2,ih.1]
  exact⟨he _ ih.2,hT _ ih.2⟩
theorem qki {n:Nat} {S T:Nat→Nat} (hS:IsP n S) (hT:IsP n T) (he:∀ d,d<n→S d=T d) {d:Nat} (hd:d<n):per S d=per T d:=by
 obtain⟨a1,a2,a3,a4⟩:=hS.per_spec hd
 obtain⟨b1,b2,b3,b4⟩:=hT.per_spec hd
 rw[(q99 hT.lt he hd _).1] at a3
 rw[← (q99 hT.lt he hd _).1] at b3
 rcases Nat.lt_trichotomy (per S d) (per T d) with hlt|heq|hlt
 ·exact absurd a3 (b4 _ a1 hlt)
 ·exact heq
 ·exact absurd b3 (a4 _ b1 hlt)
theorem qkj {n:Nat} {S T:Nat→Nat} (hS:IsP n S) (hT:IsP n T) (he:∀ d,d<n→S d=T d) {d:Nat} (hd:d<n):orb S d=orb T d:=by
 unfold orb
 rw[qki hS hT he hd]
 exact List.map_congr_left (fun i _=>(q99 hT.lt he hd i).1)
theorem qdj {n:Nat} {S T:Nat→Nat} (hS:IsP n S) (hT:IsP n T) (he:∀ d,d<n→S d=T d) {d:Nat} (hd:d<n):rep S d=rep T d:=by
 unfold rep
 rw[qkj hS hT he hd]
theorem q2x {n:Nat} {S T:Nat→Nat} (hS:IsP n S) (hT:IsP n T) (he:∀ d,d<n→S d=T d):∀ i,i≤n→ldr S i=ldr T i:=by
 intro i
 induction i with
 | zero=>intro _;rfl
 | succ i ih =>
  intro hi
  rw[q1a,q1a,ih (by omega),qdj hS hT he (by omega)]
theorem Wd.ldr_ph {ks:List Nat} (h:Wd ks) (hn:0<ks.length):ldr (ph ks) ks.length=cntK ks 2+1:=by
 have hT:=h.swapped.tn_isP
 rw[q3f] at hT
 rw[q2x h.ph_isP hT (fun d hd=>h.ph_swp hd) _ (Nat.le_refl _)]
 have h1:=h.swapped.ldr_all (by rw[q3f];exact hn)
 rw[q3f,(qm3 ks 0 h.k4 (by omega)).1] at h1
 exact h1
theorem Wd.opens_half {ks:List Nat} (h:Wd ks):2 * (cntK ks 0+cntK ks 2)=ks.length:=by
 have h1:=h.dend
 have h2:=h.bend
 unfold DD at h1
 unfold BB at h2
 rw[List.take_of_length_le (Nat.le_refl _)] at h1 h2
 have h3:∀ l:List Nat,(∀ k ∈ l,k<4)→cntK l 0+cntK l 1+cntK l 2+cntK l 3=l.length:=by
  intro l
  induction l with
  | nil=>intro _;rfl
  | cons x l ih =>
   intro h4
   have h1:=ih (fun y hy=>h4 y (by simp[hy]))
   have hx:=h4 x (by simp)
   unfold cntK at *
   have hc:(x=0∨x=1∨x=2∨x=3):=by omega
   rcases hc with rfl|rfl|rfl|rfl <;> simp <;> omega
 have:=h3 ks h.k4
 omega
theorem Wd.euler {ks:List Nat} (h:Wd ks) (hn:0<ks.length):ldr (tn ks) ks.length+ldr (ph ks) ks.length=ks.length / 2+2:=by
 rw[h.ldr_all hn,h.ldr_ph hn]
 have:=h.opens_half
 omega
theorem PairW.unique {ks:List Nat} {s i j m:Nat} (h:PairW ks s i j) (k:PairW ks s i m):j=m:=by
 rcases Nat.lt_trichotomy j m with hlt|rfl|hlt
 ·have:=k.above (j+1) (by have:=h.lt;omega) hlt;have:=h.hit;omega
 ·rfl
 ·have:=h.above (m+1) (by have:=k.lt;omega) hlt;have:=k.hit;omega
theorem Wd.mp_pair {ks:List Nat} (hw:Wd ks) {s i j:Nat} (h:PairW ks s i j):mp ks i=j:=by
 obtain⟨t,ht,⟨h1,h2⟩|⟨h1,h2⟩⟩:=hw.cases (i:=i) (by have:=h.lt;have:=h.le;omega)
 ·have h3:=h.opens
  rw[h1] at h3
  obtain rfl:t=s:=by have:=Option.some.inj h3;omega
  exact h2.unique h
 ·have h3:=h.opens
  rw[h1] at h3
  have:=Option.some.inj h3
  omega
end
section
open Go.RowKit
noncomputable def ofN (l nm:List Nat) (part i:Nat):Nat:=((List.range i).filter fun d=>rep (sg l) d == d && sg nm d == part).length
theorem q83 (l nm:List Nat) (part i:Nat):ofN l nm part (i+1)=ofN l nm part i+if rep (sg l) i=i∧sg nm i=part then 1 else 0:=by
 unfold ofN
 rw[List.range_succ,List.filter_append,List.length_append]
 by_cases h1:rep (sg l) i=i <;> by_cases h2:sg nm i=part <;> simp[h1,h2]
theorem qaj (l nm:List Nat) (part i:Nat):ofN l nm part i≤i:=by
 unfold ofN
 have:=List.length_filter_le (fun d=>rep (sg l) d == d && sg nm d == part) (List.range i)
 simpa using this
end
section
open Go.RowKit
theorem qbl (w:World) (a b c d e:Value) (t:TypeId):∀ j u,[a,b,c,d,e][j]? = some u→(w.alloc (.cells #[a,b,c,d,e] t)).cell? ((⟨w.heap.size,0,none⟩:Addr).add j)=some u:=by
 intro j u hj
 match j,hj with
 | 0,hj=>simp at hj;subst hj;simp[Addr.add]
 | 1,hj=>simp at hj;subst hj;simp[Addr.add]
 | 2,hj=>simp at hj;subst hj;simp[Addr.add]
 | 3,hj=>simp at hj;subst hj;simp[Addr.add]
 | 4,hj=>simp at hj;subst hj;simp[Addr.add]
 | j+5,hj=>simp at hj
def Own5 (t:TypeId) (B:Nat) (w:World) (v:Value) (ps:List (List Int)):Prop:=w.ownsRow B t 5 v ps.length (ints ps.flatten)∧∀ p ∈ ps,p.length=5
theorem qdk:∀ {ps:List (List Int)} {j k:Nat} {p:List Int},(∀ p ∈ ps,p.length=5)→ps[j]? = some p→k<5→ps.flatten[j * 5+k]? = p[k]?:=by
 intro ps
 induction ps with
 | nil=>intro j k p _ h;simp at h
 | cons q ps ih =>
  intro j k p h5 hp hk
  have hq:=h5 q (by simp)
  cases j with
  | zero =>
   obtain rfl:q=p:=by simpa using hp
   rw[List.flatten_cons,List.getElem?_append_left (by omega)]
   congr 1;omega
  | succ j =>
   rw[List.flatten_cons,List.getElem?_append_right (by omega),hq]
   have:=ih (j:=j) (k:=k) (p:=p) (fun p hp=>h5 p (by simp[hp])) (by simpa using hp) hk
   rw[← this]
   congr 1;omega
theorem Own5.nil (t:TypeId) (B:Nat) (w:World):Own5 t B w (.slice none 0 0) []:=⟨World.ownsRow_nil _ _ _ _,fun p hp=>by cases hp⟩
theorem Own5.keeps {t:TypeId} {B:Nat} {w w':World} {v:Value} {ps:List (List Int)} {F:Nat→Prop} (h:Own5 t B w v ps) (k:Keeps F w w') (hf:∀ b,v.ownBlock=some b→¬ F b):Own5 t B w' v ps:=⟨k.owns h.1 hf,h.2⟩
theorem Own5.lt {t:TypeId} {B:Nat} {w:World} {v:Value} {ps:List (List Int)} (h:Own5 t B w v ps):∀ k,v.ownBlock=some k→B≤k∧k<w.heap.size:=World.ownsRow.lt h.1
theorem Own5.form {t:TypeId} {B:Nat} {w:World} {v:Value} {ps:List (List Int)} (h:Own5 t B w v ps):∃ a cap,v=.slice a ps.length cap:=by
 obtain⟨⟨_,h⟩,_⟩:=h
 rcases h with⟨rfl,h0⟩|⟨g,cap,cur,rfl,_⟩
 ·exact⟨none,0,by rw[h0]⟩
 ·exact⟨_,cap,rfl⟩
theorem Own5.cell {t:TypeId} {B:Nat} {w:World} {v:Value} {ps:List (List Int)} (h:Own5 t B w v ps) {j:Nat} {p:List Int} (hp:ps[j]? = some p):∃ g cap,v=.slice (some ⟨g,0,none⟩) ps.length cap∧∀ k z,p[k]? = some z→w.cell? ⟨g,j * 5+k,none⟩=some (.int .i64 z):=by
 obtain⟨h1,h5⟩:=h
 have hj:=q01 hp
 obtain⟨h0,h2⟩:=id h1
 rcases h2 with⟨_,h2⟩|⟨g,cap,cur,rfl,_⟩
 ·omega
 ·refine⟨g,cap,rfl,fun k z hk=>?_⟩
  have hk5:k<5:=by have:=q01 hk;have:=h5 p (List.mem_of_getElem? hp);omega
  rw[World.ownsRow.cellAt h1 _ (by omega)]
  unfold ints
  rw[List.getElem?_map,qdk h5 hp hk5,hk]
  rfl
noncomputable def cnL (s:List Nat):List Nat:=(List.range s.length).map (cnum s.length (sg s))
theorem q31 {s:List Nat} {d:Nat} (hd:d<s.length):sg (cnL s) d=cnum s.length (sg s) d:=by simp[sg,cnL,hd]
def cntN (nm:List Nat) (k i:Nat):Nat:=((List.range i).filter fun d=>sg nm d == k).length
theorem qdl (nm:List Nat) (k i:Nat):cntN nm k (i+1)=cntN nm k i+if sg nm i=k then 1 else 0:=by
 unfold cntN
 rw[List.range_succ,List.filter_append,List.length_append]
 by_cases h2:sg nm i=k <;> simp[h2]
theorem qnq (nm:List Nat) (k i:Nat):cntN nm k i≤i:=by
 unfold cntN
 have:=List.length_filter_le (fun d=>sg nm d == k) (List.range i)
 simpa using this
noncomputable def ptV (s:List Nat) (k:Nat):Nat:=ofN s (cnL s) k s.length
noncomputable def ptB (s:List Nat) (k:Nat):Nat:=ofN (phiL s) (cnL s) k s.length
noncomputable def ptE (s:List Nat) (k:Nat):Nat:=cntN (cnL s) k s.length / 2
noncomputable def ptG (s:List Nat) (k:Nat):Int:=(2 - (ptV s k:Int)+ptE s k - ptB s k).tdiv 2
noncomputable def partI (s:List Nat) (d:Nat):List Int:=[(d:Int),ptV s (cnum s.length (sg s) d),ptE s (cnum s.length (sg s) d),ptB s (cnum s.length (sg s) d),ptG s (cnum s.length (sg s) d)]
noncomputable def q1g (s:List Nat) (j:Nat):List (List Int):=((List.range j).filter fun d=>crep s.length (sg s) d == d).map (partI s)
theorem q0m (s:List Nat) (j:Nat):(q1g s j).length=cldr s.length (sg s) j:=by simp[q1g,cldr]
noncomputable def q0b (s:List Nat) (lone:Nat):List (List Int):=q1g s s.length ++ List.replicate lone [-1,1,0,1,0]
theorem IsP.cnum_new {n:Nat} {S:Nat→Nat} (h:IsP n S) (he:n % 2=0) {j:Nat} (hj:j<n):cnum n S j=cldr n S j↔crep n S j=j:=by
 have hle:crep n S j≤j:=q20 (Conn.refl _ _ _)
 constructor
 ·intro hc
  rcases Nat.lt_or_ge (crep n S j) j with hlt|hge
  ·have h1:=q0u n S (crep n S j)
   rw[if_pos (h.crep_crep he hj)] at h1
   have h2:=q3e n S (show crep n S j+1≤j from hlt)
   unfold cnum at hc
   omega
  ·omega
 ·intro hc
  unfold cnum
  rw[hc]
end
section
open Go.RowKit
theorem q6b {s:List Nat} (hP:IsP s.length (sg s)) (he:s.length % 2=0):IsP (phiL s).length (sg (phiL s)):=by
 have hg:∀ d,d<s.length→sg (phiL s) d=sg s (mt d):=fun d hd=>by simp[sg,phiL,hd]
 rw[q08]
 refine⟨fun d hd=>by rw[hg d hd];exact hP.lt _ (mt_lt he hd),fun d e hd hde hh=>?_⟩
 rw[hg d hd,hg e hde] at hh
 have:=hP.inj _ _ (mt_lt he hd) (mt_lt he hde) hh
 rw[← mt_mt d,this,mt_mt]
theorem qf5 {a M:Int} (h1:-M≤a) (h2:a≤M):-M≤a.tdiv 2∧a.tdiv 2≤M:=by
 rcases Int.le_total 0 a with h|h
 ·rw[Int.tdiv_eq_ediv_of_nonneg h];omega
 ·have h3:a.tdiv 2=-((-a).tdiv 2):=by rw[Int.neg_tdiv,Int.neg_neg]
  rw[h3,Int.tdiv_eq_ediv_of_nonneg (by omega)];omega
end
section
structure WkEnd (n:Nat) (S vert:Nat→Nat) (root T:Nat):Prop where
 right:WRight (kso (wlk S vert root T).2)
 nd:((wlk S vert root T).2.map Prod.fst).Nodup
 cov:∀ x,x<n→(Conn n S root x↔vis (wlk S vert root T).2 x)
 lt:∀ x,vis (wlk S vert root T).2 x→x<n
 cur:∀ j,j<T→(wlk S vert root j).1<n∧¬ vis (wlk S vert root j).2 (wlk S vert root j).1
 k4:∀ j,j≤T→∀ x k,(x,k) ∈ (wlk S vert root j).2→k<4
 le:T≤n
theorem qnr {n:Nat} {S vert:Nat→Nat} (h:IsP n S) (he:n % 2=0) (hv:∀ x y,x<n→y<n→(vert x=vert y↔SameO S x y)) {root:Nat} (hr:root<n):∃ T,WkEnd n S vert root T:=by
 have hvt:∀ x,x<n→vert (S x)=vert x:=fun x hx=>((hv x (S x) hx (h.lt x hx)).2 (SameO.step S x)).symm
 obtain⟨T,r,I,hd,hall⟩:=qic h he hv hr n 0 0 [] (by omega) (q5q hv hr) (fun i hi=>by omega)
 have key:∀ j,j≤T→∃ r st pend,DInv n S vert root r st (wlk S vert root j).1 (wlk S vert root j).2∧WInv (wlk S vert root j).2 st pend:=by
  intro j
  induction j with
  | zero=>intro _;exact⟨0,[],[],q5q hv hr,qbw⟩
  | succ j ih =>
   intro hj
   obtain⟨r1,st1,pend,I1,W1⟩:=ih (by omega)
   obtain⟨r2,st2,I2,hn2⟩:=hall j (by omega)
   obtain⟨f1,f2,f3⟩:=I2.fresh h hr hn2
   have hn1:¬ DDone S root r1 st1:=fun hd1=>f3 (I1.all h hr hd1 hvt f2)
   obtain⟨r3,st3,hs,I3⟩:=I1.step h he hv hr hn1
   obtain⟨pend',W3⟩:=W1.step h hr I1 f3 hs
   exact⟨r3,st3,pend',I3,W3⟩
 obtain⟨r1,st1,pend,I1,W1⟩:=key T (Nat.le_refl _)
 have hd1:DDone S root r1 st1:=by
  apply Classical.byContradiction
  intro hn
  obtain⟨_,f2,f3⟩:=I1.fresh h hr hn
  exact f3 (I.all h hr hd hvt f2)
 obtain⟨rfl,hd2⟩:=id hd1
 refine⟨T,⟨W1.done h hr I1 ⟨rfl,hd2⟩,I.nd,fun x hx=>⟨fun hc=>I.all h hr hd hvt hc,fun hvx=>(I.conn x hvx).2⟩,fun x hx=>(I.conn x hx).1,fun j hj=>?_,fun j hj=>?_,?_⟩⟩
 ·obtain⟨r2,st2,I2,hn2⟩:=hall j hj
  obtain⟨f1,f2,f3⟩:=I2.fresh h hr hn2
  exact⟨f1,f3⟩
 ·obtain⟨r2,st2,_,I2,_⟩:=key j hj
  exact I2.k4
 ·have:=I.len
  rwa [q0c] at this
theorem WkEnd.total {n:Nat} {S vert:Nat→Nat} {root T:Nat} (h:WkEnd n S vert root T) (p:Nat→Bool) (hp:∀ x,x<n→(p x=true↔Conn n S root x)):((List.range n).filter p).length=T:=by
 have h1:((List.range n).filter p).length=((wlk S vert root T).2.map Prod.fst).length:=by
  refine q4a (List.Pairwise.filter _ List.nodup_range) h.nd (fun x=>?_)
  rw[List.mem_filter,List.mem_range,← q6i]
  constructor
  ·rintro⟨h2,h3⟩;exact (h.cov x h2).1 ((hp x h2).1 h3)
  ·intro h2
   have hx:=h.lt x h2
   exact⟨hx,(hp x hx).2 ((h.cov x hx).2 h2)⟩
 rw[h1,List.length_map,q0c]
def fstK (out:List (Nat × Nat)) (e:Nat):Option Nat:=(out.find? (fun p=>p.1 / 2 == e)).map Prod.snd
theorem q9a (out:List (Nat × Nat)) (d k e:Nat):fstK (out ++ [(d,k)]) e=match fstK out e with|some x=>some x|none=>if d / 2=e then some k else none:=by
 unfold fstK
 rw[List.find?_append]
 cases out.find? (fun p=>p.1 / 2 == e) with
 | some p=>rfl
 | none =>
  by_cases h:d / 2=e
  ·simp[h]
  ·simp[h]
theorem qdm (vert:Nat→Nat) (root:Nat) (out:List (Nat × Nat)) (d:Nat):kindB vert root out d=match fstK out (d / 2) with|some x=>x+1|none=>if metB vert root out (vert (mt d)) then 2 else 0:=by
 unfold kindB fstK
 cases out.find? (fun p=>p.1 / 2 == d / 2) <;> rfl
end
end Go.Proofs.YtcfdpogegngplaaGreat
