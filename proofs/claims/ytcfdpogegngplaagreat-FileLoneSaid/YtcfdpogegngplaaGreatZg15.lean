import Derived.Test.YtcfdpogegngplaaGreatZg0r
set_option maxRecDepth 100000
set_option maxHeartbeats 4000000
namespace Go.Proofs.YtcfdpogegngplaaGreat
open Go.RowKit
theorem qff(ty:TypeId){wr:World}(B:Nat)(v sv:Value)(bs cs:List Nat)(hown:bB B wr v bs)(hsl:Sl .u8 wr sv (aB cs))(hlen:bs.length+cs.length≤10000000000)(hB:B≤wr.heap.size) :
  ∃ v' w',(Builtin.append_ #[30,30] ty #[v,sv]).run Tryz.prog wr=.ok v' w'∧bB B w' v' (bs ++ cs)∧Keeps (fun k=>v.ownBlock=some k) wr w'∧(v'.ownBlock=v.ownBlock∨∃ k,v'.ownBlock=some k∧wr.heap.size≤k):=by
 obtain⟨i,hi,hz0,hz1,hz2⟩:=info_parts tN
 obtain⟨ad,cap,rfl,_⟩:=id hsl
 cases ad with
 | none =>
  obtain⟨rfl,hn0,hc0⟩:=hsl.vY
  have hr:=run_append_owned_none (P:=Tryz.prog) (w:=wr) B 30 ty 5 i 1 Tryz.underlying30 hi v bs.length _ hown
  rw[hc0]
  exact⟨v,wr,hr,by simpa using hown,Keeps.refl _ _,.inl rfl⟩
 | some ad =>
  obtain⟨hm,hcell⟩:=hsl.rz
  obtain⟨v',w',hr,hown',hgrow,_,hat⟩:=run_append_own_at (P:=Tryz.prog) (w:=wr) B 30 ty 5 i (.int .u8 0) 1 1 Tryz.underlying30 hi hz0 hz1 hz2 rfl (by decide) v bs.length _ hown ad cs.length cap (ys cs) (by simp[RY]) hcell (WY cs) (by unfold maxLen;omega) (by omega) hB
  refine⟨v',w',by rw[hm];exact hr,?_,(Keeps.refl _ wr).grown hgrow (fun k hk=>.inl hk),hat.imp id (fun h=>⟨_,h,Nat.le_refl _⟩)⟩
  unfold bB
  rw[List.length_append,RZ]
  exact hown'
theorem qdx{ops:Array Oper}{o:Oper}{a:Act}{K:Act→World→Prop}{Q:Exit→Act→World→Prop}{E:Prop}{wr:World}(hgd:o.guard=none)(s x:Operand)
  (ho:o.op=.call { callee:=.builtin .append,args:=#[s,x],argTypes:=#[30,30] })(B:Nat)(v sv:Value)(bs cs:List Nat)(hs:a.eval s=v)(hx:a.eval x=sv)
  (hown:bB B wr v bs)(hsl:Sl .u8 wr sv (aB cs))(hlen:bs.length+cs.length≤10000000000)(hB:B≤wr.heap.size)
  (h:∀ v' w',bB B w' v' (bs ++ cs)→Keeps (fun k=>v.ownBlock=some k) wr w'→(v'.ownBlock=v.ownBlock∨∃ k,v'.ownBlock=some k∧wr.heap.size≤k)→K (a.put o.dst v') w') :
  if Region.wanted o (yielded ops a.tmps)=true then Oper.wp Tryz.prog o a wr K Q else E:=by
 have hw:Region.wanted o (yielded ops a.tmps)=true:=by simp[Region.wanted,hgd]
 rw[if_pos hw]
 obtain⟨v',w',hr,h2,h3,h4⟩:=qff o.type B v sv bs cs hown hsl hlen hB
 unfold Oper.wp execOp
 simp only [ho,resolve,invoke,builtin,Sem.run_bind,Sem.run_pure,Result.andThen_ok,List.map_toArray,List.map_cons,List.map_nil,hs,hx,hr]
 exact h v' w' h2 h3 h4
