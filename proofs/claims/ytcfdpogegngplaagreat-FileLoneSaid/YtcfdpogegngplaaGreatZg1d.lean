import Derived.Test.YtcfdpogegngplaaGreatZg0y
set_option maxRecDepth 100000
set_option maxHeartbeats 4000000
namespace Go.Proofs.YtcfdpogegngplaaGreat
section
open Go.RowKit
def pR(B:Nat)(w:World)(v:Value)(xs:List Nat):Prop:=w.ownsRow B 94 1 v xs.length (xs.map fun x:Nat=>Value.int .u64 (x:Int))
theorem qof{ops:Array Oper}{rest:List Oper}{o:Oper}{a:Act}{Q:Exit→Act→World→Prop}{wr:World}(hgd:o.guard=none)(s x:Operand)
  (ho:o.op=.call { callee:=.builtin .append,args:=#[s,x],argTypes:=#[201,201] })(B:Nat)(v sv:Value)(zs ys:List Nat)(hs:a.eval s=v)(hx:a.eval x=sv)
  (hown:pR B wr v zs)(hsl:Sl .u64 wr sv (aB ys))(hlen:zs.length+ys.length≤1000000000)(hB:B≤wr.heap.size)
  (h:∀ v' w',pR B w' v' (zs ++ ys)→Keeps (fun k=>v.ownBlock=some k) wr w'→wpList Tryz.prog ops Q rest (a.put o.dst v') w') :
  wpList Tryz.prog ops Q (o :: rest) a wr:=by
 obtain⟨i,hi,hz0,hz1,hz2⟩:=info_parts YL
 obtain⟨ad,cap,rfl,hnc,hcm,hnone,hc⟩:=hsl
 rw[q01] at *
 cases ad with
 | none =>
  have hy:ys=[]:=by
   cases ys with
   | nil=>rfl
   | cons y ys=>obtain⟨g,off,h,_⟩:=hc 0 (y:Int) rfl;cases h
  subst hy
  have:=hnone rfl
  subst this
  refine wpList_append_own_none hgd s x _ ho B 94 i 1 Tryz.underlying201 hi v zs.length _ hs hown hx ?_
  exact h v wr (by simpa using hown) (Keeps.refl _ _)
 | some ad =>
  refine wpList_append_own_at _ hgd s x _ ho B 94 i (.int .u64 0) 1 8 Tryz.underlying201 hi hz0 hz1 hz2 rfl (by decide) v zs.length _ hs hown ad ys.length cap (ys.map fun x:Nat=>Value.int .u64 (x:Int)) hx (by simp) ?_ ?_ ?_ ?_ hB ?_
  ·intro j u hj
   simp only [List.getElem?_map,Option.map_eq_some_iff] at hj
   obtain⟨z,hz,rfl⟩:=hj
   obtain⟨g',off',hg,hcell⟩:=hc j (z:Int) (by simp[aB,hz])
   simp only [Option.some.injEq] at hg
   subst hg
   have hadd:(⟨g',off',none⟩:Addr).add j=⟨g',off'+j,none⟩:=by
    unfold Addr.add
    split <;> simp_all
   rw[hadd]
   exact hcell
  ·intro u hu
   simp only [List.mem_map] at hu
   obtain⟨z,_,rfl⟩:=hu
   rfl
  ·unfold maxLen;omega
  ·omega
  ·intro v' w' hown' hgrow _ hat
   refine h v' w' ?_ ((Keeps.refl _ wr).grown hgrow (fun k hk=>.inl hk))
   unfold pR
   rw[List.length_append,List.map_append]
   exact hown'
theorem qht(w:World):pR w.heap.size (w.alloc (.cells #[] 94)) (.slice (some ⟨w.heap.size,0,none⟩) 0 0) []:=by
 refine⟨rfl,.inr ⟨w.heap.size,0,#[],rfl,Nat.le_refl _,heap_alloc_new w _,Nat.le_refl _,Nat.zero_le _,?_,?_⟩⟩ <;> simp
theorem qog{B:Nat}{w:World}{v:Value}{xs:List Nat}(h:pR B w v xs):Sl .u64 w v (aB xs):=by
 refine Sl.lC (base:=B) (e:=94) (n:=xs.length) ?_
 unfold pR at h
 rw[aB,List.map_map]
 exact h
theorem qhu(sv:Value)(xs:List Nat)(w:World)(hs:Sl .u64 w sv (aB xs))(hl:xs.length≤100000000) :
  Calls Tryz.prog 224 #[sv] w fun e w'=>∃ v,e=.returned v∧pR w.heap.size w' v xs∧Keeps (fun _=>False) w w':=by
 have hnil:=fun (w:World) (a:Option Addr) (n c:Nat)=>Lib.run_eql_slice_nil (P:=Tryz.prog) w 201 94 a n c 0 0 Tryz.underlying201
 have hs0:=hs
 obtain⟨a,cap,rfl,hnc,hcm,hnone,hc⟩:=hs
 rw[q01] at *
 cases a with
 | none =>
  have hz:xs=[]:=by
   cases xs with
   | nil=>rfl
   | cons y ys=>obtain⟨g,off,h,_⟩:=hc 0 (y:Int) rfl;cases h
  subst hz
  obtain rfl:=hnone rfl
  clear hc hs0 hnone
  go_enter Tryz.func224,Tryz.ntmps224
  go_wp2
  go_ret
  exact⟨_,rfl,World.ownsRow_nil _ _ _ _,Keeps.refl _ _⟩
 | some a =>
  have k0:=(Keeps.refl (fun _=>False) w).alloc (.cells #[] 94)
  have hs1:=hs0.keeps k0 (fun _ _ h=>h)
  have ho:=qht w
  have H0:=ah (aj hs1 (aj ho k0))
  clear hc hs0 hnone hs1 ho k0
  go_enter Tryz.func224,Tryz.ntmps224
  go_wp2_with (at_builtin;(refine qof rfl _ _ rfl w.heap.size (.slice (some ⟨w.heap.size,0,none⟩) 0 0) (.slice (some a) xs.length cap) [] xs rfl rfl H0.out.2.1 H0.out.1 (by simp;omega) (by simp) ?_);intro v5 w5 hown5 hk5)
  have HF:Hid (pR w.heap.size w5 v5 xs∧Keeps (fun _=>False) w w5):=ah ⟨by simpa using hown5,H0.out.2.2.trans hk5 (fun x hx h=>by simp only [Value.ownBlock,Option.some.injEq] at h;omega)⟩
  clear hown5 hk5
  go_wp2
  go_ret
  exact⟨_,rfl,HF.out⟩
end
section
open Go.RowKit
structure iX (W:World)(r rv:Nat)(vv:Value)(l:List Bool)(at':Nat):Prop where
 blk:W.heap[r]? = some (.cells #[.pointer (some ⟨rv,0,none⟩),.int .i64 l.length,.int .i64 at'] 303 (0,0))
 vec:aK W rv vv l
 ne:r≠rv∧vv.ownBlock≠some r
theorem qe2(b:Nat)(v:Value)(l:List Bool)(w:World)(h:aK w b v l)(hl:l.length≤100000000) :
  Calls Tryz.prog 185 #[.pointer (some ⟨b,0,none⟩)] w fun e w'=>∃ r rv vv,e=.returned (.pointer (some ⟨r,0,none⟩))∧iX w' r rv vv l 0∧w.heap.size≤r∧w.heap.size≤rv∧(∀ q,vv.ownBlock=some q→w.heap.size≤q)∧Keeps (fun _=>False) w w':=by
 have hwl:(words l).length≤100000000:=by rw[rX];omega
 have hsl:Sl .u64 w v (aB (words l)):=by
  refine Sl.lC (base:=0) (e:=94) (n:=(words l).length) ?_
  rw[aB,List.map_map]
  exact h.2
 have hCl:=fun W (hW:Keeps (fun _=>False) w W)=>qhu v (words l) W (hsl.keeps hW (fun _ _ h=>h)) hwl
 obtain⟨n,hn⟩:∃ n,n=l.length:=⟨_,rfl⟩
 have hb:=h.1
 rw[← hn] at hb
 have c0:=ak hb 0
 have c1:=ak hb 1
 have HC:Hid (∀ W,Keeps (fun _=>False) w W→W.cell? ⟨b,0,none⟩=some v∧W.cell? ⟨b,1,none⟩=some (.int .i64 n)):=ah (fun W hW=>⟨ak (hW.at hb (fun h=>h)) 0,ak (hW.at hb (fun h=>h)) 1⟩)
 have HN:=ah hn
 obtain⟨M,hM⟩:∃ M,M=(aB (words l)).length:=⟨_,rfl⟩
 have hfo:∀ W v1,pR w.heap.size W v1 (words l)→∃ a c,v1=.slice a M c:=fun W v1 h1=>by
  obtain⟨a,c,h2,-,-⟩:=(qog h1).form
  exact⟨a,c,by rw[h2,hM]⟩
 clear hM
 clear h hwl hsl hb hn hl
 go_enter Tryz.func185,Tryz.ntmps185
 go_wp2_with fail
 go_region_held3 (fun w'=>w'.cell? ⟨b,0,none⟩=some v∧w'.cell? ⟨b,1,none⟩=some (.int .i64 n)) (first|exact HC.out _ (Keeps.refl _ _)|exact HC.out _ (Keeps.refl (fun _=>False) w).drew|exact HC.out _ HK.out.2|exact HC.out _ (HK.out.2.alloc _)|exact HC.out _ ((HK.out.2.alloc _).alloc _)) ((go_at_call 224;refine (hCl _ (by first|exact Keeps.refl _ _|exact (Keeps.refl (fun _=>False) w).drew)).mono ?_;rintro e w1 ⟨v1,rfl,zh,hk1⟩;obtain⟨va,vc,rfl⟩:=hfo _ _ (by simpa using zh);have HK:Hid (pR w.heap.size w1 (.slice va M vc) (words l)∧Keeps (fun _=>False) w w1):=ah ⟨by simpa using zh,(by first|exact hk1|exact (Keeps.refl (fun _=>False) w).drew.trans hk1 (fun _ _ h=>h))⟩;clear zh hk1))
 all_goals
  have kA:=(Keeps.refl (fun _=>False) w1).alloc (.cells #[.slice va M vc,.int .i64 n] 203)
  have hA:=heap_alloc_new w1 (.cells #[.slice va M vc,.int .i64 n] 203)
  obtain⟨wA,Yu⟩:∃ wA,wA=w1.alloc (.cells #[.slice va M vc,.int .i64 n] 203):=⟨_,rfl⟩
  rw[← Yu] at kA hA ⊢
  have hsA:wA.heap.size=w1.heap.size+1:=by rw[Yu];simp
  clear Yu
  have kB:=(Keeps.refl (fun _=>False) wA).alloc (.cells #[.pointer (some ⟨w1.heap.size,0,none⟩),.int .i64 n,.int .i64 0] 303)
  have hB:=heap_alloc_new wA (.cells #[.pointer (some ⟨w1.heap.size,0,none⟩),.int .i64 n,.int .i64 0] 303)
  have hO:=HK.out.1
  have Yv:iX (wA.alloc (.cells #[.pointer (some ⟨w1.heap.size,0,none⟩),.int .i64 n,.int .i64 0] 303)) wA.heap.size w1.heap.size (.slice va M vc) l 0:=by
   have hlt:=fun q (hq:(Value.slice va M vc).ownBlock=some q)=>(World.ownsRow.lt hO q hq)
   refine⟨by rw[← HN.out];exact hB,⟨by rw[← HN.out];exact kB.at hA (fun h=>h),?_⟩,by omega,fun e=>by have:=hlt _ e;omega⟩
   have h2:=(kA.trans kB (fun _ _ h=>h)).owns hO (fun _ _ h=>h)
   exact⟨h2.1,h2.2.imp id fun ⟨g,cap,cur,h1,_,h3⟩=>⟨g,cap,cur,h1,Nat.zero_le _,h3⟩⟩
  rw[hsA] at Yv
  have HF:Hid (iX _ _ _ _ l 0∧_):=ah (aj Yv ((HK.out.2.trans kA (fun _ _ h=>h)).trans kB (fun _ _ h=>h)))
  have HQ:Hid (∀ q,(Value.slice va M vc).ownBlock=some q→w.heap.size≤q):=ah (fun q hq=>(World.ownsRow.lt hO q hq).1)
  have hsz:=HK.out.2.size
  clear kA hA kB hB hO Yv
  go_wp2_with fail
  go_ret
  exact⟨w1.heap.size+1,w1.heap.size,_,rfl,HF.out.1,by omega,hsz,HQ.out,HF.out.2⟩
end
