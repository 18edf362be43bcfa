import Derived.Lib.AppendZerosOnto
import Derived.Test.YtcfdpogegngplaaGreatZg04
set_option maxRecDepth 100000
set_option maxHeartbeats 4000000
namespace Go.Proofs.YtcfdpogegngplaaGreat
open Go.RowKit
theorem qb8(z:Value)(k:Nat):Builtin.zeroCells #[z] k=(List.replicate k z).toArray:=by
 apply Array.ext
 ·simp[Builtin.zeroCells]
 ·intro i h1 h2
  simp[Builtin.zeroCells,Nat.mod_one]
theorem q4v{P:Program}{w:World}(base:Nat)(t tn ty e:TypeId)(i:TypeInfo)(z:Value)(kq kn:IntKind)(ht:P.underlying t=some (.slice e))(htn:P.underlying tn=some (.int kn))(hi:P.info? e=some i)(hz:i.zero=some z)
  (hsize:i.size=1)(hzs:z.cells=#[z])(hz1:z.oneCell'=true)
  (g cap n:Nat)(xs:List Value)(hown:w.ownsRow base e 1 (.slice (some ⟨g,0,none⟩) n cap) n xs)
  (k:Nat)(h0:0<k)(h63:n+k≤maxLen)(hbytes:(n+k) * i.bytes≤140737488355328)(hbase:base≤w.heap.size) :
  ∃ v' w',(Builtin.append_ #[t,tn] ty #[.slice (some ⟨g,0,none⟩) n cap,.int kq k]).run P w=.ok v' w'∧w'.ownsRow base e 1 v' (n+k) (xs ++ List.replicate k z)∧w.grownBy w' (some g) ∧
   (v'.ownBlock=some g∨v'.ownBlock=some w.heap.size):=by
 have zf:∀ m,Builtin.zeroCells z.cells m=(List.replicate m z).toArray:=fun m=>by rw[hzs];exact qb8 z m
 have hsmall:n+k≤9223372036854775807:=by simp only [maxLen] at h63;omega
 have hlen:(xs ++ List.replicate k z).length=(n+k) * 1:=by rw[List.length_append,hown.1,List.length_replicate];omega
 have hw:IntKind.i64.wrap (k:Int)=k:=by rw[IntKind.wrap_i64];omega
 have hkb:k * i.bytes≤(n+k) * i.bytes:=Nat.mul_le_mul_right _ (by omega)
 rcases hown.2 with⟨hv,_⟩|⟨g',cap',cur,hv,hbg,hg,hnc,hcm,hcs,htake⟩
 ·cases hv
 ·simp only [Value.slice.injEq,Option.some.injEq,Addr.mk.injEq,and_true,true_and] at hv
  obtain⟨rfl,rfl⟩:=hv
  by_cases hroom:n+k≤cap
  ·have hst:=run_storeCells_at P g n e (List.replicate k z) 0 cur w hg (by rw[List.length_replicate];omega) (fun u hu=>by rw[List.eq_of_mem_replicate hu];exact hz1)
   simp only [Nat.add_zero] at hst
   have hneg:¬ ((k:Int)<0):=by omega
   have h48i:¬ (281474976710656<(k:Int) * (i.bytes:Int)):=by
    rw[← Int.natCast_mul]
    omega
   have hk0:¬ k=0:=by omega
   refine⟨.slice (some ⟨g,0,none⟩) (n+k) cap,w.setRow g (cur.toList.take n ++ List.replicate k z ++ cur.toList.drop (n+(List.replicate k z).length)).toArray,?_,⟨hlen,.inr ⟨g,cap,_,rfl,hbg,setRow_heap w g cur _ e _ hg,hroom,hcm,?_,?_⟩⟩,⟨rfl,rfl,rfl,by simp,fun q _ hk=>setRow_other w g q _ (fun e=>hk (by rw[e]))⟩,.inl rfl⟩
   ·simp[Builtin.append_,run_underlying ht,run_underlying htn,sizeOf,typeInfo,zeroValue,hi,hz,asInt,asIntOf,hw,hroom,hneg,h48i,hsize,hk0,zf,Addr.add_lit,hst]
   ·simp only [List.size_toArray,List.length_append,List.length_take,List.length_drop,Array.length_toList,List.length_replicate]
    omega
   ·rw[Nat.mul_one] at htake
    rw[htake,← hlen]
    exact List.take_left
  ·have holds:∀ j u,xs[j]? = some u→w.cell? ((⟨g,0,none⟩:Addr).add j)=some u:=hown.cells (g:=g) rfl
   have hf:(Builtin.firstCells i.size n (.slice (some ⟨g,0,none⟩) n cap)).run P w.drew=.ok xs.toArray w.drew:=by
    have:=run_firstCells_some (P:=P) w.drew i.size n ⟨g,0,none⟩ n cap xs (by rw[hsize];have:=hown.1;omega) (fun j u hj=>holds j u hj)
    exact this
   have hr:=Go.Lib.run_append_grow_zeros (P:=P) w t tn ty e i z kq kn ht htn hi hz (some ⟨g,0,none⟩) n cap xs hf k h0 (by omega) (by omega) (by omega) (by omega) (growslice_fits (by omega) hbytes)
   have hge:=grownCap_ge w (n+k) cap e
   have hcm':grownCap w (n+k) cap e≤maxLen:=grownCap_le_maxLen w (n+k) cap e h63
   refine⟨_,_,hr,⟨hlen,.inr ⟨w.heap.size,_,_,rfl,hbase,heap_alloc_new w.drew _,hge,hcm',?_,?_⟩⟩,⟨rfl,rfl,rfl,by simp,fun q hq _=>heap_alloc_old w.drew _ hq⟩,.inr rfl⟩
   ·have:=hown.1
    simp only [Array.size_append,List.size_toArray,zf,List.length_replicate]
    omega
   ·simp only [zf,Array.toList_append,List.append_assoc]
    rw[← List.append_assoc,← hlen]
    exact List.take_left
theorem qex{ops:Array Oper}{rest:List Oper}{o:Oper}{a:Act}{Q:Exit→Act→World→Prop}{wr:World}(hgd:o.guard=none)(s x:Operand)
  (ho:o.op=.call { callee:=.builtin .append,args:=#[s,x],argTypes:=#[25,3] })(B g cap n:Nat)(zs:List Int)(k:Nat)(hs:a.eval s=.slice (some ⟨g,0,none⟩) n cap)(hx:a.eval x=.int .i64 k)(hn:zs.length=n)
  (hown:aF B wr (.slice (some ⟨g,0,none⟩) n cap) zs)(h0:0<k)(hlen:n+k≤10000000000)(hB:B≤wr.heap.size)
  (h:∀ g' cap' w',aF B w' (.slice (some ⟨g',0,none⟩) (n+k) cap') (zs ++ List.replicate k 0)→Keeps (fun q=>q=g) wr w'→(g'=g∨wr.heap.size≤g')→wpList Tryz.prog ops Q rest (a.put o.dst (.slice (some ⟨g',0,none⟩) (n+k) cap')) w') :
  wpList Tryz.prog ops Q (o :: rest) a wr:=by
 obtain⟨i,hi,hz0,hz1,hz2⟩:=info_parts pU
 have hown':wr.ownsRow B 3 1 (.slice (some ⟨g,0,none⟩) n cap) n (ints zs):=by rw[← hn] at hown ⊢;exact hown
 obtain⟨v',w',hr,h1,h2,h3⟩:=q4v (P:=Tryz.prog) (w:=wr) B 25 3 o.type 3 i (.int .i64 0) .i64 .i64 Tryz.underlying25 Tryz.underlying3 hi hz0 hz1 rfl rfl g cap n (ints zs) hown' k h0 (by unfold maxLen;omega) (by rw[hz2];omega) hB
 refine Go.Lib.wpList_append_run _ hgd s x _ _ ho _ _ hs hx _ _ hr ?_
 have hown2:aF B w' v' (zs ++ List.replicate k 0):=by
  unfold aF
  rw[List.length_append,List.length_replicate,hn]
  have:ints (zs ++ List.replicate k 0)=ints zs ++ List.replicate k (.int .i64 0):=by simp[ints]
  rw[this];exact h1
 obtain⟨g',cap',rfl⟩:∃ g' cap',v'=.slice (some ⟨g',0,none⟩) (n+k) cap':=by
  rcases h1.2 with⟨-,h4⟩|⟨g',cap',_,h4,_⟩
  ·omega
  ·exact⟨g',cap',h4⟩
 refine h g' cap' w' hown2 ((Keeps.refl (fun q=>q=g) wr).grown h2 (fun q hq=>.inl (Option.some.inj hq).symm)) ?_
 rcases h3 with h3|h3
 ·exact .inl (Option.some.inj h3)
 ·exact .inr (by have h4:g'=wr.heap.size:=Option.some.inj h3;omega)
