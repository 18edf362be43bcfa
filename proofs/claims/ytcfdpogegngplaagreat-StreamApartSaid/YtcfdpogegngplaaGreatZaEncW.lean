import Derived.Deep.RegionHeld3
import Derived.Test.YtcfdpogegngplaaGreatZaEncP
import Derived.Test.YtcfdpogegngplaaGreatZaStream
set_option maxRecDepth 100000
set_option maxHeartbeats 4000000
namespace Go.Proofs.YtcfdpogegngplaaGreat
open Go.RowKit
theorem OwnY.lit2 (w:World) (y z:Nat):OwnY w.heap.size (w.alloc (.cells #[.int .u8 (y:Int),.int .u8 (z:Int)] 5)) (.slice (some ⟨w.heap.size,0,none⟩) 2 2) [y,z] :=
 World.ownsRow_lit (base:=w.heap.size) (e:=5) (size:=1) w #[.int .u8 y,.int .u8 z] 2 (Nat.le_refl _) (by unfold maxLen;omega) rfl
structure PtL (B2 B3:Nat) (wr:World) (v:Value) (l:List (List Nat)) (bs:List Nat) (Rs:Nat→Nat→Prop) (i:Nat):Prop where
 len:bs.length=l.length
 row:wr.ownsRow 0 24 1 v l.length (ptrs bs)
 map:∀ j b k,i≤j→bs[j]? = some b→l[j]? = some k→MapAt wr b (decL k) 0 0 (Rs j)
 vold:∀ q,v.ownBlock=some q→q<B3∧∀ b ∈ bs,b≠q
 old:∀ j b,bs[j]? = some b→b<B3∧∀ x,Rs j x→x<B3
 apart:∀ i j b c,i<j→bs[i]? = some b→bs[j]? = some c→b≠c∧¬ Rs j b
 low:∀ (j b:Nat),bs[j]? = some b→B2≤b
theorem PtM.ptL {B:Nat} {w:World} {v:Value} {l:List (List Nat)} {bs:List Nat} {Rs:Nat→Nat→Prop} (h:PtM B w v l bs Rs):PtL B w.heap.size w v l bs (fun j x=>Rs j x∧x<w.heap.size) 0:=by
 have hk:∀ j b,bs[j]? = some b→∃ k,l[j]? = some k:=fun j b hb=>⟨_,List.getElem?_eq_getElem (by rw[← h.len];exact q01 hb)⟩
 refine⟨h.len,⟨h.row.1,h.row.2.imp id fun ⟨g,cap,cur,h1,_,h3⟩=>⟨g,cap,cur,h1,Nat.zero_le _,h3⟩⟩,fun j b k _ hb hkj=>?_,fun q hq=>⟨(h.row.lt q hq).2,fun b hb=>?_⟩,fun j b hb=>?_,fun i j b c hij hb hc=>⟨(h.apart i j b c hij hb hc).1,fun hx=>(h.apart i j b c hij hb hc).2 hx.1⟩,fun j b hb=>?_⟩
 ·have:=(h.at' j b k hb hkj).1
  exact this.mono (fun x hx=>⟨hx,this.old x hx⟩) (fun x hx=>hx.2) (fun hx=>this.notb hx.1)
 ·obtain⟨j,hj⟩:=List.getElem?_of_mem hb
  obtain⟨k,hk⟩:=hk j b hj
  intro e
  subst e
  exact (h.at' j b k hj hk).2.2.2.1 hq
 ·obtain⟨k,hk⟩:=hk j b hb
  exact⟨(h.at' j b k hb hk).1.lt,fun x hx=>hx.2⟩
 ·obtain⟨k,hk⟩:=hk j b hb
  exact (h.at' j b k hb hk).2.1
section
variable {B2 B3:Nat} {wr W:World} {v:Value} {l:List (List Nat)} {bs:List Nat} {Rs:Nat→Nat→Prop} {i:Nat} (h:PtL B2 B3 wr v l bs Rs i)
include h
theorem PtL.next {G:Nat→Prop} (k:Keeps G wr W) {b:Nat} (hb:bs[i]? = some b) (hG:∀ x,G x→x=b∨B3≤x):PtL B2 B3 W v l bs Rs (i+1):=by
 refine⟨h.len,k.owns h.row (fun q hq hx=>?_),fun j c kk hij hc hk=>?_,h.vold,h.old,h.apart,h.low⟩
 ·rcases hG _ hx with e|e
  ·exact (h.vold q hq).2 b (List.mem_of_getElem? hb) e.symm
  ·have:=(h.vold q hq).1;omega
 ·have ha:=h.apart i j b c (by omega) hb hc
  have ho:=h.old j c hc
  refine (h.map j c kk (by omega) hc hk).keeps k (fun hx=>?_) (fun x hx hg=>?_)
  ·rcases hG _ hx with e|e
   ·exact ha.1 e.symm
   ·omega
  ·rcases hG _ hg with e|e
   ·subst e;exact ha.2 hx
   ·have:=ho.2 x hx;omega
theorem PtL.quiet {G:Nat→Prop} (k:Keeps G wr W) (hG:∀ x,G x→B3≤x):PtL B2 B3 W v l bs Rs i :=
 ⟨h.len,k.owns h.row (fun q hq hx=>by have:=(h.vold q hq).1;have:=hG _ hx;omega),fun j c kk hij hc hk=>(h.map j c kk hij hc hk).keeps k (fun hx=>by have:=(h.old j c hc).1;have:=hG _ hx;omega) (fun x hx hg=>by have:=(h.old j c hc).2 x hx;have:=hG _ hg;omega),h.vold,h.old,h.apart,h.low⟩
theorem PtL.cell {j b:Nat} (hb:bs[j]? = some b):∃ g cap,v=.slice (some ⟨g,0,none⟩) l.length cap∧wr.cell? ⟨g,j,none⟩=some (.pointer (some ⟨b,0,none⟩)):=by
 have hj:j<l.length:=by rw[← h.len];exact q01 hb
 obtain⟨g,cap,rfl,-⟩:=h.row.form (by omega)
 refine⟨g,cap,rfl,?_⟩
 have:=h.row.cellAt j (by omega)
 rw[this]
 unfold ptrs
 rw[List.getElem?_map,hb]
 rfl
theorem PtL.form:∃ a cap,v=.slice a l.length cap:=by
 obtain⟨_,h2⟩:=h.row
 rcases h2 with⟨rfl,h3⟩|⟨g,cap,cur,rfl,_⟩
 ·exact⟨none,0,by rw[h3]⟩
 ·exact⟨_,cap,rfl⟩
end
def qif (t p l:Bool) (cd:List Nat→List Bool × Nat) (ks:List (List Nat)):Prop :=
 ∀ k ∈ ks,∀ W b' R',MapAt W b' (decL k) 0 0 R'→Calls Tryz.prog 98 #[optV t p l,.pointer (some ⟨b',0,none⟩)] W fun e w'=>∃ bv,e=.returned (.tuple #[.pointer (some ⟨bv,0,none⟩),.int .i64 ((cd k).2:Nat),.int .i64 0])∧VecMk W b' bv (cd k).1 w'
def EncOk (w:World) (b:Nat) (s:List Nat) (rt ln:Int) (R:Nat→Prop) (fs:List Nat) (size:Nat) (e:Ending) (w':World):Prop :=
 ∃ v,e=.returned (.tuple #[v,.int .i64 (size:Nat),.int .i64 0])∧OwnY w.heap.size w' v fs∧(∃ R',MapAt w' b s rt ln R'∧∀ x,R' x→R x∨w.heap.size≤x)∧Keeps (fun k=>k=b) w w'
structure EncL (w w2 w3:World) (b3:Nat) (t p l:Bool) (pvv:Value) (ks:List (List Nat)) (bs:List Nat) (Rs:Nat→Nat→Prop) (cd:List Nat→List Bool × Nat) (ln:Nat) (ov:Value) (i:Nat) (wr:World):Prop where
 parts:PtL w2.heap.size w3.heap.size wr pvv ks bs Rs i
 out:OwnY w3.heap.size wr ov ([80,81] ++ [flN t p l] ++ vaB ln ++ vaB ks.length ++ q29 p ((ks.take i).map cd))
 kee:Keeps (fun x=>w2.heap.size≤x) w2 wr
 big:w3.heap.size≤wr.heap.size
theorem qig {w:World} {b:Nat} {s:List Nat} {rt:Int} {ln:Nat} {R:Nat→Prop} (t p l:Bool) (h:MapAt w b s rt ln R) (hg:genS (q0b s ln)=0) (cd:List Nat→List Bool × Nat) (hC:qif t p l cd (kssM s rt)) (hB:sizeN ((kssM s rt).map cd)≤1000000) (hN:∀ k ∈ kssM s rt,(cd k).2≤1000000) :
  Calls Tryz.prog 53 #[.pointer (some ⟨b,0,none⟩),optV t p l] w (EncOk w b s rt ln R (fileN t p l ln ((kssM s rt).map cd) (labM s rt)) (sizeN ((kssM s rt).map cd)+if l then (labM s rt).length else 0)):=by
 have hnot:∀ (x:Bool) (w:World),(Op.unary .not (.bool x)).run Tryz.prog w=.ok (.bool (!x)) w:=fun _ _=>rfl
 obtain⟨fs,hfs⟩:∃ fs,fs=fileN t p l ln ((kssM s rt).map cd) (labM s rt):=⟨_,rfl⟩
 obtain⟨sz,hsz⟩:∃ sz,sz=sizeN ((kssM s rt).map cd)+if l then (labM s rt).length else 0:=⟨_,rfl⟩
 rw[← hfs,← hsz]
 have HZ:=Lib.hid (And.intro hfs hsz)
 clear hfs hsz
 have ka:=(Keeps.refl (fun _=>False) w).alloc (.cells #[.bool t,.bool p,.bool l] 35)
 have hb3:=heap_alloc_new w (.cells #[.bool t,.bool p,.bool l] 35)
 have hA:=h.keeps ka (fun h=>h) (fun _ _ h=>h)
 have hPl:=q2v (l:=ln) hA
 rw[decide_eq_true hg] at hPl
 obtain⟨hok,hfl,hnl,hnP,hnm,-,-⟩:=qaw h.isP h.even hg h.rt
 have hle:=h.le
 have hev:=h.even
 have hln:=h.ln
 have hbw:=h.lt
 have HG:=Lib.hid (And.intro hg (And.intro hC (And.intro hB (And.intro hN (And.intro hok (And.intro hfl (And.intro hnl (And.intro hnP (And.intro hnm hev)))))))))
 have HA:=Lib.hid (And.intro ka (And.intro hb3 hbw))
 clear h hA hC hB hN hok hfl hnl hnP hnm ka hev hb3 hg
 unfold optV
 go_enter Tryz.func53,Tryz.ntmps53
 go_wp2_with fail
 refine hPl.mono ?_
 clear hPl
 rintro e w1 ⟨rfl,hq1⟩
 have hCn:=qid hq1.1 HG.out.1
 have H1:Hid (Keeps (fun x=>x=b) w w1∧w1.heap[w.heap.size]? = some (.cells #[.bool t,.bool p,.bool l] 35 (0,0))):=Lib.hid ⟨(show Keeps (fun x=>x=b) w _ from HA.out.1.mono (fun _ _ h=>h.elim)).trans hq1.2 (fun _ _ h=>h),hq1.2.at HA.out.2.1 (fun e=>by have:=HA.out.2.2;omega)⟩
 clear hq1
 go_wp2_with fail
 refine hCn.mono ?_
 clear hCn
 rintro e w2 ⟨b2,bp,pv,R2,R',rfl,hA2,hPF,hA',⟨n1,n2⟩,⟨n3,n4,n5⟩,hbp,hpv,hk2⟩
 have hPt:=qi1 hA2 HG.out.2.2.2.2.1
 have k02:=H1.out.1.trans hk2 (fun _ _ h=>h)
 have hw1:=H1.out.1.size
 have hw2:=hk2.size
 have hLo:∀ W,Keeps (fun _=>False) w2 W→Calls Tryz.prog 37 #[.pointer (some ⟨b2,0,none⟩)] W fun e w'=>e=.returned (.int .i64 ln)∧W=w':=fun W hW=>q51 (hA2.keeps hW (fun h=>h) (fun _ _ h=>h))
 have hRR:∀ x,R' x→R x∨w.heap.size≤x:=fun x hx=>by
  rcases n5 x hx with e|e
  ·rcases e with e|e
   ·exact .inl e
   ·have:=e.1;simp at this;exact .inr (by omega)
  ·exact .inr (by omega)
 have HRR:=Lib.hid hRR
 have H2:Hid (Keeps (fun x=>x=b) w w2∧w2.heap[w.heap.size]? = some (.cells #[.bool t,.bool p,.bool l] 35 (0,0))∧PermF w2 bp pv (nmsM s rt)∧MapAt w2 b s rt ln R'∧(b≠bp∧¬ R' bp)∧w.heap.size≤bp) :=
  Lib.hid ⟨k02,hk2.at H1.out.2 (fun e=>by have:=HA.out.2.2;omega),hPF,hA',⟨n3,n4⟩,by omega⟩
 clear hPF hA' n1 n2 n3 n4 n5 hbp hpv hk2 hA2 k02 hRR
 go_wp2_with fail
 refine hPt.mono ?_
 clear hPt
 rintro e w3 ⟨pvv,bs,Rs0,rfl,hM,hk3⟩
 have hP0:=hM.ptL
 obtain⟨Rs,hRs⟩:∃ Rs,Rs=(fun j x=>Rs0 j x∧x<w3.heap.size):=⟨_,rfl⟩
 rw[← hRs] at hP0
 have hF:=fun W=>qb1 t p l W
 obtain⟨pa,pc,rfl⟩:=hP0.form
 obtain⟨N,hNN⟩:∃ N,N=(kssM s rt).length:=⟨_,rfl⟩
 have H3:=Lib.hid (And.intro hk3 hP0)
 have hw3:=hk3.size
 rw[← hNN]
 have HNN:=Lib.hid hNN
 clear hM hRs hNN
 have hc3:∀ W,Keeps (fun _=>False) w3 W→W.cell? ⟨w.heap.size,0,none⟩=some (.bool t)∧W.cell? ⟨w.heap.size,1,none⟩=some (.bool p)∧W.cell? ⟨w.heap.size,2,none⟩=some (.bool l):=fun W hW=>by
  have hb:=hW.at (hk3.at H2.out.2.1 (fun h=>h)) (fun h=>h)
  exact⟨World.cell_of_heap hb 0,World.cell_of_heap hb 1,World.cell_of_heap hb 2⟩
 have k3a:=(Keeps.refl (fun _=>False) w3).alloc (.cells #[.int .u8 ((80:Nat):Int),.int .u8 ((81:Nat):Int)] 5 (2,3))
 have hl2:=lit2Y w3 80 81
 have e80:((80:Nat):Int)=80:=rfl
 have e81:((81:Nat):Int)=81:=rfl
 rw[e80,e81] at k3a hl2
 have kc:=Go.Joins.run_convert_bytes_const_at (P:=Tryz.prog) w3 30 5 #[.int .u8 80,.int .u8 81] 2 2 w3.heap.size rfl Tryz.underlying30 Tryz.underlying5
 obtain⟨d0,d1,d2⟩:=hc3 _ k3a
 have HL2:=Lib.hid (And.intro k3a (And.intro hl2 hc3))
 clear hc3 hk3 hP0 k3a hl2 e80 e81
 unfold optV at hF
 go_wp2_with fail
 refine (hF _).mono ?_
 clear kc hF d0 d1 d2
 rintro e w4 ⟨rfl,hk4⟩
 have k34:=HL2.out.1.trans hk4 (fun _ _ h=>h)
 have kal:=(Keeps.refl (fun _=>False) w4).alloc (.cells #[.int .u8 (flN t p l:Nat)] 5)
 have hs2:=(HL2.out.2.1.keeps hk4 (fun _ _ h=>h)).keeps kal (fun _ _ h=>h)
 have hs1:=(OwnY.lit1 w4 (flN t p l)).sl
 have hw4:=k34.size
 have H4:=Lib.hid (And.intro k34 kal)
 clear hk4 k34
 obtain⟨fl,hfl⟩:∃ fl,fl=flN t p l:=⟨_,rfl⟩
 rw[← hfl] at hs1 hs2 kal H4
 rw[← hfl]
 have HFL:=Lib.hid hfl
 clear hfl
 have hln2:ln≤65536:=by omega
 go_wp2_with (at_builtin;refine growY rfl _ _ rfl (some ⟨w3.heap.size,0,none⟩) 2 1 1 ⟨w4.heap.size,0,none⟩ [80,81] [fl] rfl rfl hs2 hs1 (by decide) (by decide) ?_;intro v5 w5 hO5 hk5)
 have k25:Keeps (fun _=>False) w2 w5:=(H3.out.1.trans H4.out.1 (fun _ _ h=>h)).trans (kal.trans hk5 (fun _ _ h=>h)) (fun _ _ h=>h)
 have hLo5:=hLo w5 k25
 have hNm:=q3l v5 ([80,81] ++ [fl]) ln w5 hO5.sl (by simp) (by omega)
 have k35:Keeps (fun _=>False) w3 w5:=H4.out.1.trans (kal.trans hk5 (fun _ _ h=>h)) (fun _ _ h=>h)
 have H5:=Lib.hid k35
 have hw5:=k35.size
 have e1:IntKind.u64.wrap (ln:Int)=(ln:Int):=by rw[IntKind.wrap_u64];omega
 have hNb:N≤131072:=by
  have h1:∀ l:List (List Nat),KsOk l→l.length≤l.flatten.length:=fun l=>by
   induction l with
   | nil=>intro _;simp
   | cons k l ih =>
    intro h
    have h1:=(h k (by simp)).2
    have h2:=ih (fun x hx=>h x (by simp[hx]))
    rw[List.flatten_cons,List.length_append,List.length_cons]
    omega
  have h2:=h1 _ HG.out.2.2.2.2.1
  have h3:=HG.out.2.2.2.2.2.1
  have h4:=HNN.out
  omega
 have e2:IntKind.u64.wrap (N:Int)=(N:Int):=by rw[IntKind.wrap_u64];omega
 clear hLo k25 hk5 kal hs1 hs2 hO5 k35
 refine hLo5.mono ?_
 clear hLo5
 rintro e w' ⟨rfl,rfl⟩
 go_wp2_with fail
 refine hNm.mono ?_
 clear hNm
 rintro e w6 ⟨v6,rfl,hO6,hk6⟩
 have hv10:=q0z (x:=ln) (by omega)
 have hNm:=q3l v6 ([80,81] ++ [fl] ++ vaB ln) N w6 hO6.sl (by simp;omega) (by omega)
 have H6:=Lib.hid (H5.out.trans hk6 (fun _ _ h=>h))
 clear hO6 hk6
 go_wp2_with fail
 refine hNm.mono ?_
 clear hNm
 rintro e w7 ⟨v7,rfl,hO7,hk7⟩
 have hv10':=q0z (x:=N) (by omega)
 have k37:=H6.out.trans hk7 (fun _ _ h=>h)
 have hw6:=H6.out.size
 have hE0:EncL w w2 w3 w.heap.size t p l (.slice pa N pc) (kssM s rt) bs Rs cd ln v7 0 w7:=by
  refine⟨?_,?_,(H3.out.1.mono (fun _ _ h=>h.elim)).trans (k37.mono (fun _ _ h=>h.elim)) (fun _ _ h=>h),k37.size⟩
  ·have:=H3.out.2
   rw[← HNN.out] at this
   exact this.quiet k37 (fun _ h=>h.elim)
  ·rw[← HFL.out,← HNN.out]
   have e:q29 p (((kssM s rt).take 0).map cd)=[]:=rfl
   rw[e,List.append_nil]
   exact hO7.mono (fun q hq=>by have:=(hO7.lt q hq).1;omega)
 have HE0:=Lib.hid hE0
 clear hO7 hk7 k37 hE0
 go_wp2_with fail
 have hsz0:sizeN (((kssM s rt).take 0).map cd)=0:=rfl
 go_loopg [11,12,52] N (fun q ov' sv iv wr=>∃ (i:Nat) (ov:Value),i≤N∧q=N - i∧ov=ov'∧sv=.int .i64 (sizeN (((kssM s rt).take i).map cd):Nat)∧iv=.int .i64 i∧EncL w w2 w3 w.heap.size t p l (.slice pa N pc) (kssM s rt) bs Rs cd ln ov i wr)
 case atStart=>exact⟨0,v7,Nat.zero_le _,by omega,rfl,by rw[hsz0];rfl,rfl,HE0.out⟩
 case round =>
  clear hsz0 HE0
  obtain⟨i,ov,hi,hgk,rfl,rfl,rfl,hE⟩:=hrel
  have HGK:=Lib.hid hgk
  clear hgk
  have hb3w:w.heap.size<w2.heap.size:=lt_of_block H2.out.2.1
  have hbx:=hE.kee.at H2.out.2.1 (fun hh=>by omega)
  have hsle:sizeN (((kssM s rt).take i).map cd)≤1000000:=by
   have h1:=q9v ((kssM s rt).map cd) i
   rw[← List.map_take] at h1
   have:=HG.out.2.2.1
   omega
  by_cases hlt:i<N
  ·obtain⟨k,hk⟩:∃ k,(kssM s rt)[i]? = some k:=⟨_,List.getElem?_eq_getElem (by rw[← HNN.out];exact hlt)⟩
   obtain⟨bi,hbi⟩:∃ bi,bs[i]? = some bi:=⟨_,List.getElem?_eq_getElem (by rw[hE.parts.len,← HNN.out];exact hlt)⟩
   obtain⟨gv,cap,hpv,hcell⟩:=hE.parts.cell hbi
   rw[← HNN.out] at hpv
   simp only [Value.slice.injEq] at hpv
   obtain⟨rfl,-,rfl⟩:=hpv
   have hMi:=hE.parts.map i bi k (Nat.le_refl _) hbi hk
   have hCd:=HG.out.2.1 k (List.mem_of_getElem? hk) wr bi (Rs i) hMi
   have c0:=World.cell_of_heap hbx 0
   have c1:=World.cell_of_heap hbx 1
   have c2:=World.cell_of_heap hbx 2
   obtain⟨nb,hnb⟩:∃ nb,nb=(cd k).1:=⟨_,rfl⟩
   obtain⟨num,hnum⟩:∃ num,num=(cd k).2:=⟨_,rfl⟩
   rw[← hnb,← hnum] at hCd
   have hnumb:num≤1000000:=by rw[hnum];exact HG.out.2.2.2.1 k (List.mem_of_getElem? hk)
   have hsn:sizeN (((kssM s rt).take (i+1)).map cd)=sizeN (((kssM s rt).take i).map cd)+nb.length:=by
    rw[q0e hk,List.map_append,List.map_cons,List.map_nil,qgs,hnb]
   have hsle2:sizeN (((kssM s rt).take (i+1)).map cd)≤1000000:=by
    have h1:=q9v ((kssM s rt).map cd) (i+1)
    rw[← List.map_take] at h1
    have:=HG.out.2.2.1
    omega
   obtain⟨A,hA⟩:∃ A,A=[80,81] ++ [flN t p l] ++ vaB ln ++ vaB (kssM s rt).length ++ q29 p (((kssM s rt).take i).map cd):=⟨_,rfl⟩
   have hAl:A.length≤3000000:=by
    have h1:=q5t p (((kssM s rt).take i).map cd) (fun q hq=>by
     obtain⟨x,hx,rfl⟩:=List.mem_map.1 hq
     exact HG.out.2.2.2.1 x (List.mem_of_mem_take hx))
    have h2:=q0z (x:=ln) (by omega)
    have h3:=q0z (x:=(kssM s rt).length) (by rw[← HNN.out];omega)
    rw[List.length_map,List.length_take] at h1
    rw[hA]
    simp only [List.length_append,List.length_cons,List.length_nil]
    omega
   have hout:=hE.out
   rw[← hA] at hout
   have hbl:=hE.parts.old i bi hbi
   have HX:=Lib.hid (And.intro hE (And.intro hbi (And.intro hk (And.intro hnb (And.intro hnum (And.intro hsn (And.intro hA (And.intro hbx hbl.1))))))))
   have hA3:=hbl.1
   clear hE hbi hk hMi hnb hnum hsn hA hbx hbl
   generalize sizeN (((kssM s rt).take i).map cd)=S0 at *
   generalize hS1:sizeN (((kssM s rt).take (i+1)).map cd)=S1 at *
   have HS1:=Lib.hid hS1
   clear hS1
   unfold optV at hCd
   go_wp2_with fail
   refine hCd.mono ?_
   clear hCd
   rintro e wc ⟨bv,rfl,vv,hV,hbv,hvv,hkc⟩
   have hLn:=q1c bv vv nb wc hV
   have hoC:=hout.keeps hkc (fun q hq e=>by have:=(hout.lt q hq).1;omega)
   have hszc:=hkc.size
   have hszr:=HX.out.1.big
   have d1:wc.cell? ⟨w.heap.size,1,none⟩=some (.bool p):=World.cell_of_heap (hkc.at HX.out.2.2.2.2.2.2.2.1 (fun e=>by have:=HX.out.1.parts.low i bi HX.out.2.1;omega)) 1
   have hkX:=(HX.out.1.kee.trans hkc (fun q hq e=>by have:=HX.out.1.parts.low i bi HX.out.2.1;omega))
   have hNum:∀ W,Keeps (fun _=>False) wc W→Calls Tryz.prog 97 #[ov,.int .u64 num] W fun e w'=>∃ v',e=.returned v'∧OwnY w3.heap.size w' v' (A ++ vaB num)∧Keeps (fun _=>False) W w':=fun W hW=>by
    refine (q3l ov A num W (hoC.keeps hW (fun _ _ h=>h)).sl (by omega) (by omega)).mono ?_
    rintro e w' ⟨v',rfl,h1,h2⟩
    exact⟨v',rfl,h1.mono (fun q hq=>by have:=(h1.lt q hq).1;have:=hW.size;omega),h2⟩
   have hnbl:nb.length≤1000000:=by have:=HX.out.2.2.2.2.2.1;have:=HS1.out;omega
   have hPk:∀ W,Keeps (fun _=>False) wc W→Calls Tryz.prog 100 #[.pointer (some ⟨bv,0,none⟩),.bool p] W fun e w'=>∃ v',e=.returned v'∧OwnY W.heap.size w' v' (packB p nb)∧Keeps (fun _=>False) W w':=fun W hW =>
    q48 bv vv nb p W (hV.keeps hW (fun h=>h) (fun _ _ h=>h)) hnbl
   have hc1:∀ W,Keeps (fun _=>False) wc W→W.cell? ⟨w.heap.size,1,none⟩=some (.bool p):=fun W hW=>hW.cellF d1
   have HC1:=Lib.hid (And.intro hc1 (And.intro hkc (And.intro hkX (And.intro hszc hszr))))
   have e3:IntKind.u64.wrap (num:Int)=(num:Int):=by rw[IntKind.wrap_u64];omega
   have hlenA:(A ++ vaB num).length+(packB p nb).length≤10000000000:=by
    have h1:=qfh p nb
    have h2:=q0z (x:=num) (by omega)
    rw[List.length_append]
    omega
   have hSn:S0+nb.length≤1000000:=by have:=HX.out.2.2.2.2.2.1;have:=HS1.out;omega
   have hszz:w3.heap.size≤wc.heap.size:=by omega
   clear hV hbv hvv hkc hout hoC hszr hkX hc1 hnbl
   obtain⟨nl,hnl⟩:∃ nl,nl=nb.length:=⟨_,rfl⟩
   rw[← hnl] at hLn hSn
   have HNL:=Lib.hid hnl
   clear hnl
   go_wp2_with fail
   refine hLn.mono ?_
   clear hLn
   rintro e w' ⟨rfl,rfl⟩
   have d1':wc.drew.cell? ⟨w.heap.size,1,none⟩=some (.bool p):=d1
   go_wp2_with fail
   go_region_law (first
    | (go_simp;go_at_call 97;refine (hNum _ (by first|exact (Keeps.refl _ _).drew|exact ((Keeps.refl _ _).drew).trans hk9 (fun _ _ h=>h)|exact Keeps.refl _ _)).mono ?_;rintro e w8 ⟨v8,rfl,hO8,hk8⟩;have d8:w8.cell? ⟨w.heap.size,1,none⟩=some (.bool p):=hk8.cellF (by first|exact d1' | exact d9))
    | (go_simp;go_at_call 100;refine (hPk _ (by first|exact (Keeps.refl _ _).drew|exact ((Keeps.refl _ _).drew).trans hk8 (fun _ _ h=>h)|exact Keeps.refl _ _)).mono ?_;rintro e w9 ⟨v9,rfl,hO9,hk9⟩;have d9:w9.cell? ⟨w.heap.size,1,none⟩=some (.bool p):=hk9.cellF (by first|exact d1' | exact d8))
    | (refine q1s rfl (.tmp 73) (.tmp 77) rfl w3.heap.size v8 v9 (A ++ vaB num) (packB p nb) (by simp[Act.eval]) (by simp[Act.eval]) (by first|exact hO8.keeps hk9 (fun _ _ h=>h)|exact hO8) (by first|exact (hO9.keeps hk8 (fun _ _ h=>h)).sl|exact hO9.sl) hlenA (by first|exact Nat.le_trans hszz (Nat.le_trans hk8.size hk9.size)|exact Nat.le_trans hszz (Nat.le_trans hk9.size hk8.size)) ?_;intro v' w10 hO10 hk10 hat10))
   all_goals
    have hkF:Keeps (fun x=>w3.heap.size≤x) wc w10:=by
     first
      | exact ((((Keeps.refl (fun x=>w3.heap.size≤x) wc).drew).trans hk8 (fun _ _ h=>h.elim)).trans hk9 (fun _ _ h=>h.elim)).trans hk10 (fun q hq e=>(hO8.lt q e).1)
      | exact ((((Keeps.refl (fun x=>w3.heap.size≤x) wc).drew).trans hk9 (fun _ _ h=>h.elim)).trans hk8 (fun _ _ h=>h.elim)).trans hk10 (fun q hq e=>(hO8.lt q e).1)
    have HF:Hid (EncL w w2 w3 w.heap.size t p l (.slice (some ⟨gv,0,none⟩) N pc) (kssM s rt) bs Rs cd ln v' (i+1) w10):=by
     refine Lib.hid ?_
     obtain⟨hE,hbi,hk,hnb,hnum,hsn,hA,hbx,hbl⟩:=HX.out
     obtain⟨_,hkc,hkX,_,_⟩:=HC1.out
     have hs:=hkF.size
     have hs2:=hE.big
     have hs3:=hkc.size
     refine⟨hE.parts.next (G:=fun x=>x=bi∨w3.heap.size≤x) ((hkc.mono (fun _ _ h=>.inl h)).trans (hkF.mono (fun _ _ h=>.inr h)) (fun _ _ h=>h)) hbi (fun _ h=>h),?_,hkX.trans (hkF.mono (fun _ _ h=>h)) (fun q hq e=>by omega),by omega⟩
     rw[q0e hk,List.map_append,List.map_cons,List.map_nil,qe5,← List.append_assoc,← hA]
     unfold codeB
     rw[← hnb,← hnum,← List.append_assoc]
     exact hO10
    clear hkF hO10 hk10 hat10 hO8 hk8 hO9 hk9 d8 d9
    go_wp2_with fail
    go_roundg (N - (i+1))
    case measure=>rw[HGK.out];omega
    case rel=>exact⟨i+1,v',by omega,rfl,rfl,by rw[HS1.out,HX.out.2.2.2.2.2.1,← HNL.out];rfl,by go_num,HF.out⟩
  ·obtain rfl:i=N:=by omega
   have htk:(kssM s rt).take i=kssM s rt:=List.take_of_length_le (by rw[← HNN.out];exact Nat.le_refl _)
   rw[htk] at hsle
   rw[htk]
   obtain⟨A,hA⟩:∃ A,A=[80,81] ++ [flN t p l] ++ vaB ln ++ vaB (kssM s rt).length ++ q29 p ((kssM s rt).map cd):=⟨_,rfl⟩
   have hAl:A.length≤3000000:=by
    have h1:=q5t p ((kssM s rt).map cd) (fun q hq=>by
     obtain⟨x,hx,rfl⟩:=List.mem_map.1 hq
     exact HG.out.2.2.2.1 x hx)
    have h2:=q0z (x:=ln) (by omega)
    have h3:=q0z (x:=(kssM s rt).length) (by rw[← HNN.out];omega)
    rw[List.length_map] at h1
    have h4:=HNN.out
    rw[hA]
    simp only [List.length_append,List.length_cons,List.length_nil]
    omega
   have hout:=hE.out
   rw[htk,← hA] at hout
   have hPF:=H2.out.2.2.1.keeps hE.kee (fun hx=>by have:=H2.out.2.2.1.1.lt;omega) (fun q hq hx=>by have:=(H2.out.2.2.1.1.2.2 q hq).2;omega)
   have c2:=World.cell_of_heap hbx 2
   have hbig:=hE.big
   have hkw:Keeps (fun x=>x=b) w wr:=H2.out.1.trans hE.kee (fun x hx e=>by omega)
   have hAM:=H2.out.2.2.2.1.keeps hE.kee (fun hx=>by have:=H2.out.2.2.2.1.lt;omega) (fun x hx e=>by have:=H2.out.2.2.2.1.old x hx;omega)
   have hbpl:=H2.out.2.2.1.1.lt
   obtain⟨S0,hS0⟩:∃ S0,S0=sizeN ((kssM s rt).map cd):=⟨_,rfl⟩
   rw[← hS0] at hsle ⊢
   have HX:=Lib.hid (And.intro hA (And.intro hS0 (And.intro hkw (And.intro hAM hbpl))))
   clear hE hA hS0 hbx hkw hAM htk
   have hSum:∀ (E:List Nat) (vF:Value) (wF:World),OwnY w3.heap.size wF vF E→(∀ x ∈ E,x<256)→E.length≤90000000→Calls Tryz.prog 26 #[vF] wF (fun e w'=>e=.returned (.int .u32 (crcV E:Nat))∧Keeps (fun _=>False) wF w'):=fun E vF wF ho h256 hl=>qcc vF E wF ho.sl (fun q hq=>(ho.lt q hq).2) h256 (by omega)
   cases l
   ·have hE256:∀ x ∈ A,x<256:=by
     have h1:=qav t p false ln ((kssM s rt).map cd) []
     unfold encN at h1
     rw[HX.out.1]
     simpa using h1
    have hO:=hSum A ov wr hout hE256 (by omega)
    have hcv:=qe7 hE256
    have hfs:fs=A ++ four (crcV A):=by
     have:=HZ.out.1
     unfold fileN encN at this
     rw[this,HX.out.1]
     simp
    have hszz:sz=S0:=by have:=HZ.out.2;rw[HX.out.2.1];simpa using this
    subst hszz
    obtain⟨cv,hcvv⟩:∃ cv,cv=crcV A:=⟨_,rfl⟩
    rw[← hcvv] at hO hcv hfs
    have HFS:=Lib.hid hfs
    have HOUT:=Lib.hid (And.intro hout hbig)
    clear hSum hE256 hfs hcvv hout
    go_wp2_with fail
    refine hO.mono ?_
    clear hO
    rintro e w11 ⟨rfl,hk11⟩
    have hPut:=qa2 ov A cv w11 (HOUT.out.1.keeps hk11 (fun _ _ h=>h)).sl (by omega) hcv
    have H11:=Lib.hid hk11
    clear hk11
    go_wp2_with fail
    refine hPut.mono ?_
    clear hPut
    rintro e w12 ⟨v12,rfl,hO12,hk12⟩
    have hkk:Keeps (fun _=>False) wr w12:=H11.out.trans hk12 (fun _ _ h=>h)
    have hs1:=H11.out.size
    have HF:Hid (OwnY w.heap.size w12 v12 fs∧(∃ R',MapAt w12 b s rt ln R'∧∀ x,R' x→R x∨w.heap.size≤x)∧Keeps (fun k=>k=b) w w12):=by
     refine Lib.hid ⟨?_,⟨R',HX.out.2.2.2.1.keeps hkk (fun h=>h) (fun _ _ h=>h),HRR.out⟩,HX.out.2.2.1.trans hkk (fun _ _ h=>h.elim)⟩
     rw[HFS.out]
     exact hO12.mono (fun q hq=>by have:=(hO12.lt q hq).1;omega)
    clear hO12 hk12 hkk
    go_wp2
    refine bodyPost_ret (v:=.tuple #[v12,.int .i64 (sz:Nat),.int .i64 0]) (by simp[results,Tryz.results53,go_sem]) rfl ?_
    exact⟨v12,rfl,HF.out⟩
   ·obtain⟨L,hL⟩:∃ L,L=labM s rt:=⟨_,rfl⟩
    have hnl:=HG.out.2.2.2.2.2.2.1
    have hev:=HG.out.2.2.2.2.2.2.2.2.2
    have hinvl:(invL (nmsM s rt)).length=s.length:=by rw[q8n,hnl]
    have hnP:IsP s.length (sg (nmsM s rt)):=HG.out.2.2.2.2.2.2.2.1
    have hInv:=q8o bp pv (nmsM s rt) wr hPF (by rw[hnl];exact hnP) (by omega)
    have hiP:IsP s.length (sg (invL (nmsM s rt))):=(qi9 hnP).congr (fun d hd=>qax (by rw[hnl];exact hd))
    have him:∀ d,d<s.length→sg (invL (nmsM s rt)) (mt d)=mt (sg (invL (nmsM s rt)) d):=fun d hd=>by
     rw[qax (by rw[hnl];exact mt_lt hev hd),qax (by rw[hnl];exact hd)]
     exact qfi hnP hev HG.out.2.2.2.2.2.2.2.2.1 hd
    have hLl:L.length≤65536 * 65:=by
     rw[hL]
     unfold labM
     rw[q13]
     exact Nat.mul_le_mul (by omega) (by have:=q6o (s.length / 2);omega)
    have hE256:∀ x ∈ A ++ octB L,x<256:=by
     have h1:=qav t p true ln ((kssM s rt).map cd) L
     unfold encN at h1
     rw[HX.out.1]
     simpa using h1
    have hcv:=qe7 hE256
    have hfs:fs=(A ++ octB L) ++ four (crcV (A ++ octB L)):=by
     have:=HZ.out.1
     unfold fileN encN at this
     rw[this,HX.out.1,hL]
     simp
    have hszz:sz=S0+L.length:=by have:=HZ.out.2;rw[HX.out.2.1,hL];simpa using this
    have hol:(octB L).length≤600000:=by rw[q0f];omega
    obtain⟨Ll,hLL⟩:∃ Ll,Ll=L.length:=⟨_,rfl⟩
    obtain⟨cv,hcvv⟩:∃ cv,cv=crcV (A ++ octB L):=⟨_,rfl⟩
    rw[← hcvv] at hcv hfs
    rw[← hLL] at hszz hLl
    have HLL:=Lib.hid (And.intro hLL (And.intro hL (And.intro hnl (And.intro hev (And.intro hinvl (And.intro hiP (And.intro him (And.intro hcvv (And.intro hszz hfs)))))))))
    have HOUT:=Lib.hid (And.intro hout (And.intro hbig (And.intro hE256 hPF)))
    clear hfs hcvv hout hE256 hPF hL hnl hev hinvl hnP hiP him hLL hszz
    go_wp2_with fail
    refine hInv.mono ?_
    clear hInv
    rintro e w11 ⟨b11,sv11,rfl,hP11,hb11,hv11,hk11⟩
    have hLab:=qb3 b11 sv11 (invL (nmsM s rt)) w11 hP11.1 (by rw[HLL.out.2.2.2.2.1];exact HLL.out.2.2.2.2.2.1) (by rw[HLL.out.2.2.2.2.1];exact HLL.out.2.2.2.1) (by rw[HLL.out.2.2.2.2.1];omega) (by rw[HLL.out.2.2.2.2.1];exact HLL.out.2.2.2.2.2.2.1)
    rw[HLL.out.2.2.2.2.1] at hLab
    have eL:labB (s.length / 2) (fun e=>sg (invL (nmsM s rt)) (2 * e)) (s.length / 2)=L:=HLL.out.2.1.symm
    rw[eL] at hLab
    have HO11:Hid (OwnY w3.heap.size w11 ov A∧Keeps (fun x=>x=bp) wr w11):=Lib.hid ⟨HOUT.out.1.keeps hk11 (fun q hq e=>by have:=(HOUT.out.1.lt q hq).1;have:=HX.out.2.2.2.2;omega),hk11⟩
    clear hP11 hb11 hv11 hk11 eL
    go_wp2_with fail
    refine hLab.mono ?_
    clear hLab
    rintro e w12 ⟨bl,rfl,lv,hV,hbl,hlv,hk12⟩
    have hLn:=q1c bl lv L w12 hV
    rw[← HLL.out.1] at hLn
    have hBy:=q4c bl lv L w12 hV (by rw[← HLL.out.1];omega)
    have HO12:Hid (OwnY w3.heap.size w12 ov A∧Keeps (fun x=>x=bp) wr w12):=Lib.hid ⟨HO11.out.1.keeps hk12 (fun _ _ h=>h),HO11.out.2.trans hk12 (fun _ _ h=>h.elim)⟩
    clear hV hbl hlv hk12
    go_wp2_with fail
    refine hLn.mono ?_
    clear hLn
    rintro e w' ⟨rfl,rfl⟩
    go_wp2_with fail
    refine hBy.mono ?_
    clear hBy
    rintro e w13 ⟨v13,rfl,hO13,hk13⟩
    have hoA:=HO12.out.1.keeps hk13 (fun _ _ h=>h)
    have hs13:w3.heap.size≤w13.heap.size:=by have:=HO12.out.2.size;have:=hk13.size;omega
    have hsl13:=hO13.sl
    have HK13:=Lib.hid (HO12.out.2.trans hk13 (fun _ _ h=>h.elim))
    have hlen13:A.length+(octB L).length≤10000000000:=by omega
    clear hO13 hk13
    go_wp2_with (at_builtin;refine qeg rfl _ _ rfl w3.heap.size ov v13 A (octB L) rfl rfl hoA hsl13 hlen13 hs13 ?_;intro vF wF hOF hkF hatF)
    have hO:=hSum (A ++ octB L) vF wF hOF HOUT.out.2.2.1 (by rw[List.length_append];omega)
    rw[← HLL.out.2.2.2.2.2.2.2.1] at hO
    have HFF:Hid (OwnY w3.heap.size wF vF (A ++ octB L)∧Keeps (fun x=>x=bp∨w3.heap.size≤x) wr wF):=Lib.hid ⟨hOF,(HK13.out.mono (fun _ _ h=>.inl h)).trans (hkF.mono (fun q _ e=>.inr (hoA.lt q e).1)) (fun _ _ h=>h)⟩
    clear hoA hsl13 hs13 hlen13 hOF hkF hatF hSum
    go_wp2_with fail
    refine hO.mono ?_
    clear hO
    rintro e w14 ⟨rfl,hk14⟩
    have hPut:=qa2 vF (A ++ octB L) cv w14 (HFF.out.1.keeps hk14 (fun _ _ h=>h)).sl (by rw[List.length_append];omega) hcv
    have H14:=Lib.hid hk14
    clear hk14
    go_wp2_with fail
    refine hPut.mono ?_
    clear hPut
    rintro e w15 ⟨v15,rfl,hO15,hk15⟩
    have hkk:Keeps (fun x=>x=bp∨w3.heap.size≤x) wr w15:=HFF.out.2.trans (H14.out.trans hk15 (fun _ _ h=>h)) (fun _ _ h=>h.elim)
    have hs1:=HFF.out.2.size
    have hs2:=H14.out.size
    have HF:Hid (OwnY w.heap.size w15 v15 fs∧(∃ R',MapAt w15 b s rt ln R'∧∀ x,R' x→R x∨w.heap.size≤x)∧Keeps (fun k=>k=b) w w15):=by
     have h3:=H2.out.2.2.2.2
     refine Lib.hid ⟨?_,⟨R',HX.out.2.2.2.1.keeps hkk (fun hx=>by rcases hx with e|e;exact h3.1.1 e;omega) (fun x hx hg=>by
      rcases hg with e|e
      ·subst e;exact h3.1.2 hx
      ·have:=H2.out.2.2.2.1.old x hx;omega),HRR.out⟩,HX.out.2.2.1.trans hkk (fun x hx hg=>by
      rcases hg with e|e
      ·have:=h3.2;omega
      ·omega)⟩
     rw[HLL.out.2.2.2.2.2.2.2.2.2]
     exact hO15.mono (fun q hq=>by have:=(hO15.lt q hq).1;have:=HOUT.out.2.1;omega)
    have HSZ:=HLL.out.2.2.2.2.2.2.2.2.1
    subst HSZ
    clear hO15 hk15 hkk
    go_wp2
    refine bodyPost_ret (v:=.tuple #[v15,.int .i64 ((S0+Ll:Nat):Int),.int .i64 0]) (by simp[results,Tryz.results53,go_sem]) rfl ?_
    exact⟨v15,rfl,HF.out⟩
end Go.Proofs.YtcfdpogegngplaaGreat
