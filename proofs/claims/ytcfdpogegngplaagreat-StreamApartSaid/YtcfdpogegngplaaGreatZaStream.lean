import Derived.Deep.RegionLaw
import Derived.Deep.RegionHeld3
import Derived.Lib.AppendStr
import Derived.Maps.AppendAt
import Derived.Test.YtcfdpogegngplaaGreatZaHead
set_option maxRecDepth 100000
set_option maxHeartbeats 4000000
namespace Go.Proofs.YtcfdpogegngplaaGreat
open Go.RowKit
theorem qf0 (ty:TypeId) {wr:World} (B:Nat) (v sv:Value) (bs cs:List Nat) (hown:OwnY B wr v bs) (hsl:Sl .u8 wr sv (nats cs)) (hlen:bs.length+cs.length≤10000000000) (hB:B≤wr.heap.size) :
  ∃ v' w',(Builtin.append_ #[30,30] ty #[v,sv]).run Tryz.prog wr=.ok v' w'∧OwnY B w' v' (bs ++ cs)∧Keeps (fun k=>v.ownBlock=some k) wr w'∧(v'.ownBlock=v.ownBlock∨∃ k,v'.ownBlock=some k∧wr.heap.size≤k):=by
 obtain⟨i,hi,hz0,hz1,hz2⟩:=info_parts infoY
 obtain⟨ad,cap,rfl,_⟩:=id hsl
 cases ad with
 | none =>
  obtain⟨rfl,hn0,hc0⟩:=hsl.noneY
  have hr:=run_append_owned_none (P:=Tryz.prog) (w:=wr) B 30 ty 5 i 1 Tryz.underlying30 hi v bs.length _ hown
  rw[hc0]
  exact⟨v,wr,hr,by simpa using hown,Keeps.refl _ _,.inl rfl⟩
 | some ad =>
  obtain⟨hm,hcell⟩:=hsl.cellsY
  obtain⟨v',w',hr,hown',hgrow,_,hat⟩:=run_append_own_at (P:=Tryz.prog) (w:=wr) B 30 ty 5 i (.int .u8 0) 1 1 Tryz.underlying30 hi hz0 hz1 hz2 rfl (by decide) v bs.length _ hown ad cs.length cap (ys cs) (by simp[q47]) hcell (qjf cs) (by unfold maxLen;omega) (by omega) hB
  refine⟨v',w',by rw[hm];exact hr,?_,(Keeps.refl _ wr).grown hgrow (fun k hk=>.inl hk),hat.imp id (fun h=>⟨_,h,Nat.le_refl _⟩)⟩
  unfold OwnY
  rw[List.length_append,qcr]
  exact hown'
theorem q1s {ops:Array Oper} {o:Oper} {a:Act} {K:Act→World→Prop} {Q:Exit→Act→World→Prop} {E:Prop} {wr:World} (hgd:o.guard=none) (s x:Operand)
  (ho:o.op=.call { callee:=.builtin .append,args:=#[s,x],argTypes:=#[30,30] }) (B:Nat) (v sv:Value) (bs cs:List Nat) (hs:a.eval s=v) (hx:a.eval x=sv)
  (hown:OwnY B wr v bs) (hsl:Sl .u8 wr sv (nats cs)) (hlen:bs.length+cs.length≤10000000000) (hB:B≤wr.heap.size)
  (h:∀ v' w',OwnY B w' v' (bs ++ cs)→Keeps (fun k=>v.ownBlock=some k) wr w'→(v'.ownBlock=v.ownBlock∨∃ k,v'.ownBlock=some k∧wr.heap.size≤k)→K (a.put o.dst v') w') :
  if Region.wanted o (yielded ops a.tmps)=true then Oper.wp Tryz.prog o a wr K Q else E:=by
 have hw:Region.wanted o (yielded ops a.tmps)=true:=by simp[Region.wanted,hgd]
 rw[if_pos hw]
 obtain⟨v',w',hr,h2,h3,h4⟩:=qf0 o.type B v sv bs cs hown hsl hlen hB
 unfold Oper.wp execOp
 simp only [ho,resolve,invoke,builtin,Sem.run_bind,Sem.run_pure,Result.andThen_ok,List.map_toArray,List.map_cons,List.map_nil,hs,hx,hr]
 exact h v' w' h2 h3 h4
structure StrAt (W:World) (B b:Nat) (lim:Int) (pv:Value) (cs:List Nat) (n:Nat) (over:Bool):Prop where
 blk:W.heap[b]? = some (.cells #[.int .i64 lim,pv,.int .i64 n,.bool over] 145 (0,0))
 own:OwnY B W pv cs
 ne:pv.ownBlock≠some b
 le:B≤b
theorem StrAt.keeps {W W':World} {B b:Nat} {lim:Int} {pv:Value} {cs:List Nat} {n:Nat} {over:Bool} {G:Nat→Prop} (h:StrAt W B b lim pv cs n over) (k:Keeps G W W') (h1:¬ G b) (h2:∀ q,pv.ownBlock=some q→¬ G q):StrAt W' B b lim pv cs n over:=⟨k.at h.blk h1,h.own.keeps k h2,h.ne,h.le⟩
theorem StrAt.lt {W:World} {B b:Nat} {lim:Int} {pv:Value} {cs:List Nat} {n:Nat} {over:Bool} (h:StrAt W B b lim pv cs n over):b<W.heap.size:=lt_of_block h.blk
theorem q4p (lim:Int) (w:World) :
  Calls Tryz.prog 42 #[.int .i64 lim] w fun e w'=>e=.returned (.pointer (some ⟨w.heap.size,0,none⟩))∧StrAt w' w.heap.size w.heap.size lim (.slice none 0 0) [] 0 false∧Keeps (fun _=>False) w w':=by
 have HF:Hid (StrAt (w.alloc (.cells #[.int .i64 lim,.slice none 0 0,.int .i64 0,.bool false] 145)) w.heap.size w.heap.size lim (.slice none 0 0) [] 0 false∧Keeps (fun _=>False) w (w.alloc (.cells #[.int .i64 lim,.slice none 0 0,.int .i64 0,.bool false] 145))) :=
  Lib.hid ⟨⟨heap_alloc_new w _,OwnY.nil _ _,by simp[Value.ownBlock],Nat.le_refl _⟩,(Keeps.refl _ w).alloc _⟩
 go_enter Tryz.func42,Tryz.ntmps42
 go_wp2
 go_ret
 exact⟨rfl,HF.out⟩
theorem q5g (b B:Nat) (lim:Int) (pv sv:Value) (cs ds:List Nat) (n:Nat) (w:World) (hS:StrAt w B b lim pv cs n false) (hp:Sl .u8 w sv (nats ds)) (hcl:cs.length≤2097153) (hdl:ds.length≤100000000) (hn:n≤1000000000) (hsb:sv.ownBlock≠some b) (hB:B≤w.heap.size) :
  Calls Tryz.prog 43 #[.pointer (some ⟨b,0,none⟩),sv] w fun e w'=>e=.returned (.int .i64 0)∧∃ pv',StrAt w' B b lim pv' (cs ++ ds.take (2097153 - cs.length)) (n+ds.length) false∧Keeps (fun k=>k=b∨pv.ownBlock=some k) w w'∧(pv'.ownBlock=pv.ownBlock∨∃ k,pv'.ownBlock=some k∧w.heap.size≤k):=by
 obtain⟨sa,sc,rfl,hs1,hs2⟩:=hp.formY
 obtain⟨pa,pc,rfl,hp1,hp2⟩:=hS.own.form
 obtain⟨hB1,hO,hne,hle⟩:=id hS
 have c3:=World.cell_of_heap hB1 3
 have c2:=World.cell_of_heap hB1 2
 have hf:=World.free_of_heap hB1
 have g1:=q00 hB1 2 (.int .i64 ((n:Int)+(ds.length:Int)))
 have k1:=(Keeps.refl (fun k=>k=b) w).setCell (p:=⟨b,2,none⟩) (.inl rfl) (.int .i64 ((n:Int)+(ds.length:Int)))
 have d1:=World.cell_of_heap g1 1
 have hf1:=World.free_of_heap g1
 have hsl1:=hp.keeps k1 (fun q hq e=>hsb (by rw[hq,e]))
 have hO1:=hO.keeps k1 (fun q hq e=>hne (by rw[hq,e]))
 obtain⟨m,hm⟩:∃ m,m=min ds.length (2097153 - cs.length):=⟨_,rfl⟩
 have hsub:=hsl1.take m (by rw[q02];omega)
 rw[show (nats ds).take m=nats (ds.take m) by simp[nats]] at hsub
 have hmi:min (ds.length:Int) (2097153 - (cs.length:Int))=(m:Int):=by omega
 have hmn:∀ W,(Builtin.min_ #[3,3] 3 #[.int .i64 (ds.length:Int),.int .i64 (2097153 - (cs.length:Int))]).run Tryz.prog W=.ok (.int .i64 (m:Int)) W:=fun W=>by
  have h5:(Builtin.min_ #[3,3] 3 #[.int .i64 (ds.length:Int),.int .i64 (2097153 - (cs.length:Int))]).run Tryz.prog W=.ok (.int .i64 (if 2097153 - (cs.length:Int)<(ds.length:Int) then 2097153 - (cs.length:Int) else (ds.length:Int))) W:=rfl
  rw[h5]
  congr 2
  split <;> omega
 have hmt:ds.take (2097153 - cs.length)=ds.take m:=by
  rw[hm]
  rcases Nat.le_total ds.length (2097153 - cs.length) with h|h
  ·rw[Nat.min_eq_left h,List.take_of_length_le h,List.take_of_length_le (Nat.le_refl _)]
  ·rw[Nat.min_eq_right h]
 rw[hmt]
 have hml:(ds.take m).length≤100000000:=by rw[List.length_take];omega
 have hmc:m≤sc:=by omega
 have HX:=Lib.hid (And.intro g1 (And.intro k1 (And.intro hne hle)))
 clear hS hp hB1 hO g1 k1 hsl1 hm hmt hne
 generalize hdl':ds.length=dl at *
 generalize hcl':cs.length=cl at *
 have HD:=Lib.hid (And.intro hdl' hcl')
 clear hdl' hcl'
 obtain⟨W1,hW1⟩:∃ W1,W1=w.setCell ⟨b,2,none⟩ (.int .i64 ((n:Int)+(dl:Int))):=⟨_,rfl⟩
 have HOW:Hid (∀ W,Keeps (fun _=>False) W1 W→OwnY B W (.slice pa cl pc) cs∧Sl .u8 W (.slice sa m sc) (nats (ds.take m))∧B≤W.heap.size):=Lib.hid (fun W hW=>⟨by rw[hW1] at hW;exact hO1.keeps hW (fun _ _ h=>h),by rw[hW1] at hW;exact hsub.keeps hW (fun _ _ h=>h),by rw[hW1] at hW;have:=hW.size;have:=HX.out.2.1.size;omega⟩)
 have HW:Hid (∀ W w3 (v':Value),Keeps (fun _=>False) W1 W→OwnY B w3 v' (cs ++ ds.take m)→Keeps (fun k=>(Value.slice pa cl pc).ownBlock=some k) W w3→(v'.ownBlock=(Value.slice pa cl pc).ownBlock∨∃ k,v'.ownBlock=some k∧W.heap.size≤k) →
   w3.cell? ⟨b,1,none⟩=some (.slice pa cl pc)∧(∀ i,w3.frozen? ⟨b,i,none⟩=false)∧StrAt (w3.setCell ⟨b,1,none⟩ v') B b lim v' (cs ++ ds.take m) (n+dl) false∧Keeps (fun k=>k=b∨(Value.slice pa cl pc).ownBlock=some k) w (w3.setCell ⟨b,1,none⟩ v')∧(v'.ownBlock=(Value.slice pa cl pc).ownBlock∨∃ k,v'.ownBlock=some k∧w.heap.size≤k)):=Lib.hid (fun W w3 v' hW ho hk hat=>by
  obtain⟨g1,k1,hne,hle⟩:=HX.out
  rw[← hW1] at g1 k1
  have h2:=(hW.at g1 (fun h=>h):W.heap[b]? = _)
  have h3:=(hk.at h2 (fun e=>hne e):w3.heap[b]? = _)
  have h4:=q00 h3 1 v'
  have hbw:=lt_of_block g1
  have hs1:=hW.size
  have hs0:=k1.size
  have hvb:v'.ownBlock≠some b:=fun e=>by
   rcases hat with hat|⟨k,hat,hk'⟩
   ·exact hne (by rw[← hat];exact e)
   ·rw[hat] at e;have:=Option.some.inj e;omega
  have hO4:OwnY B (w3.setCell ⟨b,1,none⟩ v') v' (cs ++ ds.take m):=ho.keeps ((Keeps.refl (fun k=>k=b) w3).setCell (p:=⟨b,1,none⟩) (.inl rfl) v') (fun q hq e=>hvb (by rw[hq,e]))
  refine⟨World.cell_of_heap h3 1,World.free_of_heap h3,⟨?_,hO4,hvb,hle⟩,?_,?_⟩
  ·have e:((n+dl:Nat):Int)=(n:Int)+(dl:Int):=by omega
   rw[e]
   simpa using h4
  ·exact ((((k1.mono (fun _ _ h=>.inl h)).trans hW (fun _ _ h=>h.elim)).trans hk (fun _ _ h=>.inr h):Keeps (fun k=>k=b∨(Value.slice pa cl pc).ownBlock=some k) w w3)).setCell (p:=⟨b,1,none⟩) (.inl (.inl rfl)) v'
  ·rcases hat with hat|⟨k,hat,hk'⟩
   ·exact .inl hat
   ·exact .inr ⟨k,hat,by omega⟩)
 have HL:Hid (cs.length+(ds.take m).length≤10000000000):=Lib.hid (by rw[HD.out.2];omega)
 obtain⟨nl,hnl⟩:∃ nl,nl=(cs ++ ds.take m).length:=⟨_,rfl⟩
 have HNL:=Lib.hid hnl
 clear hnl
 have hwr:IntKind.i64.wrap (2097153 - (cl:Int))=2097153 - (cl:Int):=IntWalk.i64_in _ (by omega)
 clear hO1 hsub hB
 go_enter Tryz.func43,Tryz.ntmps43
 go_wp2_with fail
 rw[← hW1] at d1 hf1
 rw[← hW1]
 clear hW1 hf c2 c3
 have d1':W1.drew.cell? ⟨b,1,none⟩=_:=d1
 go_region_law ((refine q1s rfl (.tmp 33) (.tmp 39) rfl B (.slice pa cl pc) (.slice sa m sc) cs (ds.take m) (by simp[Act.eval,Act.put]) (by simp[Act.eval,Act.put]) (HOW.out _ (by first|exact Keeps.refl _ _|exact (Keeps.refl _ _).drew)).1 (HOW.out _ (by first|exact Keeps.refl _ _|exact (Keeps.refl _ _).drew)).2.1 HL.out (HOW.out _ (by first|exact Keeps.refl _ _|exact (Keeps.refl _ _).drew)).2.2 ?_);intro v' w3 hown3 hk3 hat;obtain⟨va,vc,hv,-,-⟩:=hown3.form;rw[← HNL.out] at hv;subst hv;obtain⟨e1,e2,e3⟩:=HW.out _ w3 _ (by first|exact Keeps.refl _ _|exact (Keeps.refl _ _).drew) hown3 hk3 hat;have HF:=Lib.hid e3;clear hown3 hk3 hat e3)
 all_goals
  go_wp2
  go_ret
  exact⟨rfl,_,HF.out⟩
theorem qah (b B:Nat) (lim:Int) (pv:Value) (cs:List Nat) (n:Nat) (over:Bool) (w:World) (hS:StrAt w B b lim pv cs n over) :
  Calls Tryz.prog 45 #[.pointer (some ⟨b,0,none⟩)] w fun e w'=>e=.returned (.int .i64 (n:Nat))∧w=w':=by
 have c2:w.cell? ⟨b,2,none⟩=some (.int .i64 n):=World.cell_of_heap hS.blk 2
 clear hS
 go_enter Tryz.func45,Tryz.ntmps45
 go_wp2
 go_ret
 exact⟨rfl,rfl⟩
theorem qf1 (b B:Nat) (lim:Int) (pv:Value) (cs:List Nat) (n:Nat) (over:Bool) (w:World) (hS:StrAt w B b lim pv cs n over) :
  Calls Tryz.prog 47 #[.pointer (some ⟨b,0,none⟩)] w fun e w'=>e=.returned (.bool over)∧w=w':=by
 have c3:w.cell? ⟨b,3,none⟩=some (.bool over):=World.cell_of_heap hS.blk 3
 clear hS
 go_enter Tryz.func47,Tryz.ntmps47
 go_wp2
 go_ret
 exact⟨rfl,rfl⟩
end Go.Proofs.YtcfdpogegngplaaGreat
