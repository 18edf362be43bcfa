import Derived.Test.YtcfdpogegngplaaGreatZg14
import Derived.Test.YtcfdpogegngplaaGreatZg15
set_option maxRecDepth 100000
set_option maxHeartbeats 4000000
namespace Go.Proofs.YtcfdpogegngplaaGreat
open Go.RowKit
structure DK (B2 B3:Nat)(wr:World)(v:Value)(l:List (List Nat))(bs:List Nat)(Rs:Nat→Nat→Prop)(i:Nat):Prop where
 len:bs.length=l.length
 row:wr.ownsRow 0 24 1 v l.length (ptrs bs)
 map:∀ j b k,i≤j→bs[j]? = some b→l[j]? = some k→MapAt wr b (aG k) 0 0 (Rs j)
 Av:∀ q,v.ownBlock=some q→q<B3∧∀ b ∈ bs,b≠q
 old:∀ j b,bs[j]? = some b→b<B3∧∀ x,Rs j x→x<B3
 apart:∀ i j b c,i<j→bs[i]? = some b→bs[j]? = some c→b≠c∧¬ Rs j b
 low:∀ (j b:Nat),bs[j]? = some b→B2≤b
theorem xO.ptL{B:Nat}{w:World}{v:Value}{l:List (List Nat)}{bs:List Nat}{Rs:Nat→Nat→Prop}(h:xO B w v l bs Rs):DK B w.heap.size w v l bs (fun j x=>Rs j x∧x<w.heap.size) 0:=by
 have hk:∀ j b,bs[j]? = some b→∃ k,l[j]? = some k:=fun j b hb=>⟨_,List.getElem?_eq_getElem (by rw[← h.len];exact fK hb)⟩
 refine⟨h.len,⟨h.row.1,h.row.2.imp id fun ⟨g,cap,cur,h1,_,h3⟩=>⟨g,cap,cur,h1,Nat.zero_le _,h3⟩⟩,fun j b k _ hb hkj=>?_,fun q hq=>⟨(h.row.lt q hq).2,fun b hb=>?_⟩,fun j b hb=>?_,fun i j b c hij hb hc=>⟨(h.apart i j b c hij hb hc).1,fun hx=>(h.apart i j b c hij hb hc).2 hx.1⟩,fun j b hb=>?_⟩
 ·have:=(h.at' j b k hb hkj).1
  exact this.mono (fun x hx=>⟨hx,this.old x hx⟩) (fun x hx=>hx.2) (fun hx=>this.zO hx.1)
 ·obtain⟨j,hj⟩:=List.getElem?_of_mem hb
  obtain⟨k,hk⟩:=hk j b hj
  intro e
  subst e
  exact (h.at' j b k hj hk).2.2.2.1 hq
 ·obtain⟨k,hk⟩:=hk j b hb
  exact⟨(h.at' j b k hb hk).1.lt,fun x hx=>hx.2⟩
 ·obtain⟨k,hk⟩:=hk j b hb
  exact (h.at' j b k hb hk).2.1
section
variable {B2 B3:Nat} {wr W:World} {v:Value} {l:List (List Nat)} {bs:List Nat} {Rs:Nat→Nat→Prop} {i:Nat} (h:DK B2 B3 wr v l bs Rs i)
include h
theorem DK.next{G:Nat→Prop}(k:Keeps G wr W){b:Nat}(hb:bs[i]? = some b)(hG:∀ x,G x→x=b∨B3≤x):DK B2 B3 W v l bs Rs (i+1):=by
 refine⟨h.len,k.owns h.row (fun q hq hx=>?_),fun j c kk hij hc hk=>?_,h.Av,h.old,h.apart,h.low⟩
 ·rcases hG _ hx with e|e
  ·exact (h.Av q hq).2 b (List.mem_of_getElem? hb) e.symm
  ·have:=(h.Av q hq).1;omega
 ·have ha:=h.apart i j b c (by omega) hb hc
  have ho:=h.old j c hc
  refine (h.map j c kk (by omega) hc hk).keeps k (fun hx=>?_) (fun x hx hg=>?_)
  ·rcases hG _ hx with e|e
   ·exact ha.1 e.symm
   ·omega
  ·rcases hG _ hg with e|e
   ·subst e;exact ha.2 hx
   ·have:=ho.2 x hx;omega
theorem DK.quiet{G:Nat→Prop}(k:Keeps G wr W)(hG:∀ x,G x→B3≤x):DK B2 B3 W v l bs Rs i :=
 ⟨h.len,k.owns h.row (fun q hq hx=>by have:=(h.Av q hq).1;have:=hG _ hx;omega),fun j c kk hij hc hk=>(h.map j c kk hij hc hk).keeps k (fun hx=>by have:=(h.old j c hc).1;have:=hG _ hx;omega) (fun x hx hg=>by have:=(h.old j c hc).2 x hx;have:=hG _ hg;omega),h.Av,h.old,h.apart,h.low⟩
theorem DK.cell{j b:Nat}(hb:bs[j]? = some b):∃ g cap,v=.slice (some ⟨g,0,none⟩) l.length cap∧wr.cell? ⟨g,j,none⟩=some (.pointer (some ⟨b,0,none⟩)):=by
 have hj:j<l.length:=by rw[← h.len];exact fK hb
 obtain⟨g,cap,rfl,-⟩:=h.row.form (by omega)
 refine⟨g,cap,rfl,?_⟩
 have:=h.row.cellAt j (by omega)
 rw[this]
 unfold ptrs
 rw[List.getElem?_map,hb]
 rfl
theorem DK.form:∃ a cap,v=.slice a l.length cap:=by
 obtain⟨_,h2⟩:=h.row
 rcases h2 with⟨rfl,h3⟩|⟨g,cap,cur,rfl,_⟩
 ·exact⟨none,0,by rw[h3]⟩
 ·exact⟨_,cap,rfl⟩
end
def XP(t p l:Bool)(cd:List Nat→List Bool × Nat)(ks:List (List Nat)):Prop :=
 ∀ k ∈ ks,∀ W b' R',MapAt W b' (aG k) 0 0 R'→Calls Tryz.prog 98 #[cu t p l,.pointer (some ⟨b',0,none⟩)] W fun e w'=>∃ bv,e=.returned (.tuple #[.pointer (some ⟨bv,0,none⟩),.int .i64 ((cd k).2:Nat),.int .i64 0])∧Ah W b' bv (cd k).1 w'
def O3(w:World)(b:Nat)(s:List Nat)(rt ln:Int)(R:Nat→Prop)(fs:List Nat)(size:Nat)(e:Ending)(w':World):Prop :=
 ∃ v,e=.returned (.tuple #[v,.int .i64 (size:Nat),.int .i64 0])∧bB w.heap.size w' v fs∧(∃ R',MapAt w' b s rt ln R'∧∀ x,R' x→R x∨w.heap.size≤x)∧Keeps (fun k=>k=b) w w'
structure I6 (w w2 w3:World)(b3:Nat)(t p l:Bool)(pvv:Value)(ks:List (List Nat))(bs:List Nat)(Rs:Nat→Nat→Prop)(cd:List Nat→List Bool × Nat)(ln:Nat)(ov:Value)(i:Nat)(wr:World):Prop where
 parts:DK w2.heap.size w3.heap.size wr pvv ks bs Rs i
 out:bB w3.heap.size wr ov ([80,81] ++ [lU t p l] ++ jf ln ++ jf ks.length ++ tV p ((ks.take i).map cd))
 dR:Keeps (fun x=>w2.heap.size≤x) w2 wr
 big:w3.heap.size≤wr.heap.size
theorem qkv{w:World}{b:Nat}{s:List Nat}{rt:Int}{ln:Nat}{R:Nat→Prop}(t p l:Bool)(h:MapAt w b s rt ln R)(hg:dn (iC s ln)=0)(cd:List Nat→List Bool × Nat)(hC:XP t p l cd (bA s rt))(hB:dA ((bA s rt).map cd)≤1000000)(hN:∀ k ∈ bA s rt,(cd k).2≤1000000) :
  Calls Tryz.prog 53 #[.pointer (some ⟨b,0,none⟩),cu t p l] w (O3 w b s rt ln R (jw t p l ln ((bA s rt).map cd) (gU s rt)) (dA ((bA s rt).map cd)+if l then (gU s rt).length else 0)):=by
 have hnot:∀ (x:Bool) (w:World),(Op.unary .not (.bool x)).run Tryz.prog w=.ok (.bool (!x)) w:=fun _ _=>rfl
 obtain⟨fs,hfs⟩:∃ fs,fs=jw t p l ln ((bA s rt).map cd) (gU s rt):=⟨_,rfl⟩
 obtain⟨sz,hsz⟩:∃ sz,sz=dA ((bA s rt).map cd)+if l then (gU s rt).length else 0:=⟨_,rfl⟩
 rw[← hfs,← hsz]
 have HZ:=ah (aj hfs hsz)
 clear hfs hsz
 have ka:=(Keeps.refl (fun _=>False) w).alloc (.cells #[.bool t,.bool p,.bool l] 35)
 have hb3:=heap_alloc_new w (.cells #[.bool t,.bool p,.bool l] 35)
 have hA:=h.keeps ka (fun h=>h) (fun _ _ h=>h)
 have nM:=Rx (l:=ln) hA
 rw[decide_eq_true hg] at nM
 obtain⟨hok,hfl,hnl,rW,hnm,-,-⟩:=SQ h.dH h.even hg h.rt
 have hle:=h.le
 have hev:=h.even
 have hln:=h.ln
 have hbw:=h.lt
 have HG:=ah (aj hg (aj hC (aj hB (aj hN (aj hok (aj hfl (aj hnl (aj rW (aj hnm hev)))))))))
 have HA:=ah (aj ka (aj hb3 hbw))
 clear h hA hC hB hN hok hfl hnl rW hnm ka hev hb3 hg
 unfold cu
 go_enter Tryz.func53,Tryz.ntmps53
 go_wp2_with fail
 refine nM.mono ?_
 clear nM
 rintro e w1 ⟨rfl,hq1⟩
 have hCn:=qks hq1.1 HG.out.1
 have H1:Hid (Keeps (fun x=>x=b) w w1∧w1.heap[w.heap.size]? = some (.cells #[.bool t,.bool p,.bool l] 35 (0,0))):=ah ⟨(show Keeps (fun x=>x=b) w _ from HA.out.1.mono (fun _ _ h=>h.elim)).trans hq1.2 (fun _ _ h=>h),hq1.2.at HA.out.2.1 (fun e=>by have:=HA.out.2.2;omega)⟩
 clear hq1
 go_wp2_with fail
 refine hCn.mono ?_
 clear hCn
 rintro e w2 ⟨b2,bp,pv,R2,R',rfl,hA2,uQ,hA',⟨n1,n2⟩,⟨n3,n4,n5⟩,hbp,hpv,hk2⟩
 have kN:=qkb hA2 HG.out.2.2.2.2.1
 have yM:=H1.out.1.trans hk2 (fun _ _ h=>h)
 have hw1:=H1.out.1.size
 have hw2:=hk2.size
 have hLo:∀ W,Keeps (fun _=>False) w2 W→Calls Tryz.prog 37 #[.pointer (some ⟨b2,0,none⟩)] W fun e w'=>e=.returned (.int .i64 ln)∧W=w':=fun W hW=>Rj (hA2.keeps hW (fun h=>h) (fun _ _ h=>h))
 have hRR:∀ x,R' x→R x∨w.heap.size≤x:=fun x hx=>by
  rcases n5 x hx with e|e
  ·rcases e with e|e
   ·exact .inl e
   ·have:=e.1;simp at this;exact .inr (by omega)
  ·exact .inr (by omega)
 have HRR:=ah hRR
 have H2:Hid (Keeps (fun x=>x=b) w w2∧w2.heap[w.heap.size]? = some (.cells #[.bool t,.bool p,.bool l] 35 (0,0))∧iw w2 bp pv (iy s rt)∧MapAt w2 b s rt ln R'∧(b≠bp∧¬ R' bp)∧w.heap.size≤bp) :=
  ah ⟨yM,hk2.at H1.out.2 (fun e=>by have:=HA.out.2.2;omega),uQ,hA',⟨n3,n4⟩,by omega⟩
 clear uQ hA' n1 n2 n3 n4 n5 hbp hpv hk2 hA2 yM hRR
 go_wp2_with fail
 refine kN.mono ?_
 clear kN
 rintro e w3 ⟨pvv,bs,Rs0,rfl,hM,hk3⟩
 have J8:=hM.ptL
 obtain⟨Rs,hRs⟩:∃ Rs,Rs=(fun j x=>Rs0 j x∧x<w3.heap.size):=⟨_,rfl⟩
 rw[← hRs] at J8
 have hF:=fun W=>qbf t p l W
 obtain⟨pa,pc,rfl⟩:=J8.form
 obtain⟨N,Bz⟩:∃ N,N=(bA s rt).length:=⟨_,rfl⟩
 have H3:=ah (aj hk3 J8)
 have hw3:=hk3.size
 rw[← Bz]
 have qO:=ah Bz
 clear hM hRs Bz
 have hc3:∀ W,Keeps (fun _=>False) w3 W→W.cell? ⟨w.heap.size,0,none⟩=some (.bool t)∧W.cell? ⟨w.heap.size,1,none⟩=some (.bool p)∧W.cell? ⟨w.heap.size,2,none⟩=some (.bool l):=fun W hW=>by
  have hb:=hW.at (hk3.at H2.out.2.1 (fun h=>h)) (fun h=>h)
  exact⟨ak hb 0,ak hb 1,ak hb 2⟩
 have SX:=(Keeps.refl (fun _=>False) w3).alloc (.cells #[.int .u8 ((80:Nat):Int),.int .u8 ((81:Nat):Int)] 5 (2,3))
 have hl2:=EZ w3 80 81
 have R4:((80:Nat):Int)=80:=rfl
 have R6:((81:Nat):Int)=81:=rfl
 rw[R4,R6] at SX hl2
 have kc:=Go.Joins.run_convert_bytes_const_at (P:=Tryz.prog) w3 30 5 #[.int .u8 80,.int .u8 81] 2 2 w3.heap.size rfl Tryz.underlying30 Tryz.underlying5
 obtain⟨d0,d1,d2⟩:=hc3 _ SX
 have HL2:=ah (aj SX (aj hl2 hc3))
 clear hc3 hk3 J8 SX hl2 R4 R6
 unfold cu at hF
 go_wp2_with fail
 refine (hF _).mono ?_
 clear kc hF d0 d1 d2
 rintro e w4 ⟨rfl,hk4⟩
 have XQ:=HL2.out.1.trans hk4 (fun _ _ h=>h)
 have nO:=(Keeps.refl (fun _=>False) w4).alloc (.cells #[.int .u8 (lU t p l:Nat)] 5)
 have hs2:=(HL2.out.2.1.keeps hk4 (fun _ _ h=>h)).keeps nO (fun _ _ h=>h)
 have hs1:=(bB.IX w4 (lU t p l)).sl
 have hw4:=XQ.size
 have H4:=ah (aj XQ nO)
 clear hk4 XQ
 obtain⟨fl,hfl⟩:∃ fl,fl=lU t p l:=⟨_,rfl⟩
 rw[← hfl] at hs1 hs2 nO H4
 rw[← hfl]
 have V3:=ah hfl
 clear hfl
 have alf:ln≤65536:=by omega
 go_wp2_with (at_builtin;refine Ae rfl _ _ rfl (some ⟨w3.heap.size,0,none⟩) 2 1 1 ⟨w4.heap.size,0,none⟩ [80,81] [fl] rfl rfl hs2 hs1 (by decide) (by decide) ?_;intro v5 w5 Bc hk5)
 have k25:Keeps (fun _=>False) w2 w5:=(H3.out.1.trans H4.out.1 (fun _ _ h=>h)).trans (nO.trans hk5 (fun _ _ h=>h)) (fun _ _ h=>h)
 have O4:=hLo w5 k25
 have rQ:=Sn v5 ([80,81] ++ [fl]) ln w5 Bc.sl (by simp) (by omega)
 have XR:Keeps (fun _=>False) w3 w5:=H4.out.1.trans (nO.trans hk5 (fun _ _ h=>h)) (fun _ _ h=>h)
 have H5:=ah XR
 have Cb:=XR.size
 have e1:IntKind.u64.wrap (ln:Int)=(ln:Int):=by rw[IntKind.wrap_u64];omega
 have hNb:N≤131072:=by
  have h1:∀ l:List (List Nat),eD l→l.length≤l.flatten.length:=fun l=>by
   induction l with
   | nil=>intro _;simp
   | cons k l ih =>
    intro h
    have h1:=(h k (by simp)).2
    have h2:=ih (fun x hx=>h x (by simp[hx]))
    rw[List.flatten_cons,List.length_append,List.length_cons]
    omega
  have h2:=h1 _ HG.out.2.2.2.2.1
  have h3:=HG.out.2.2.2.2.2.1
  have h4:=qO.out
  omega
 have e2:IntKind.u64.wrap (N:Int)=(N:Int):=by rw[IntKind.wrap_u64];omega
 clear hLo k25 hk5 nO hs1 hs2 Bc XR
 refine O4.mono ?_
 clear O4
 rintro e w' ⟨rfl,rfl⟩
 go_wp2_with fail
 refine rQ.mono ?_
 clear rQ
 rintro e w6 ⟨v6,rfl,hO6,iI⟩
 have alg:=xU (x:=ln) (by omega)
 have rQ:=Sn v6 ([80,81] ++ [fl] ++ jf ln) N w6 hO6.sl (by simp;omega) (by omega)
 have H6:=ah (H5.out.trans iI (fun _ _ h=>h))
 clear hO6 iI
 go_wp2_with fail
 refine rQ.mono ?_
 clear rQ
 rintro e w7 ⟨v7,rfl,XT,yG⟩
 have adx:=xU (x:=N) (by omega)
 have SY:=H6.out.trans yG (fun _ _ h=>h)
 have T9:=H6.out.size
 have hE0:I6 w w2 w3 w.heap.size t p l (.slice pa N pc) (bA s rt) bs Rs cd ln v7 0 w7:=by
  refine⟨?_,?_,(H3.out.1.mono (fun _ _ h=>h.elim)).trans (SY.mono (fun _ _ h=>h.elim)) (fun _ _ h=>h),SY.size⟩
  ·have:=H3.out.2
   rw[← qO.out] at this
   exact this.quiet SY (fun _ h=>h.elim)
  ·rw[← V3.out,← qO.out]
   have e:tV p (((bA s rt).take 0).map cd)=[]:=rfl
   rw[e,List.append_nil]
   exact XT.mono (fun q hq=>by have:=(XT.lt q hq).1;omega)
 have Fh:=ah hE0
 clear XT yG SY hE0
 go_wp2_with fail
 have hsz0:dA (((bA s rt).take 0).map cd)=0:=rfl
 go_loopg [11,12,52] N (fun q yE sv iv wr=>∃ (i:Nat) (ov:Value),i≤N∧q=N - i∧ov=yE∧sv=.int .i64 (dA (((bA s rt).take i).map cd):Nat)∧iv=.int .i64 i∧I6 w w2 w3 w.heap.size t p l (.slice pa N pc) (bA s rt) bs Rs cd ln ov i wr)
 case atStart=>exact⟨0,v7,Nat.zero_le _,by omega,rfl,by rw[hsz0];rfl,rfl,Fh.out⟩
 case round =>
  clear hsz0 Fh
  obtain⟨i,ov,hi,aN,rfl,rfl,rfl,hE⟩:=hrel
  have tq:=ah aN
  clear aN
  have alh:w.heap.size<w2.heap.size:=lt_of_block H2.out.2.1
  have hbx:=hE.dR.at H2.out.2.1 (fun hh=>by omega)
  have O5:dA (((bA s rt).take i).map cd)≤1000000:=by
   have h1:=qak ((bA s rt).map cd) i
   rw[← List.map_take] at h1
   have:=HG.out.2.2.1
   omega
  by_cases hlt:i<N
  ·obtain⟨k,hk⟩:∃ k,(bA s rt)[i]? = some k:=⟨_,List.getElem?_eq_getElem (by rw[← qO.out];exact hlt)⟩
   obtain⟨bi,hbi⟩:∃ bi,bs[i]? = some bi:=⟨_,List.getElem?_eq_getElem (by rw[hE.parts.len,← qO.out];exact hlt)⟩
   obtain⟨gv,cap,hpv,hcell⟩:=hE.parts.cell hbi
   rw[← qO.out] at hpv
   simp only [Value.slice.injEq] at hpv
   obtain⟨rfl,-,rfl⟩:=hpv
   have hMi:=hE.parts.map i bi k (Nat.le_refl _) hbi hk
   have IY:=HG.out.2.1 k (List.mem_of_getElem? hk) wr bi (Rs i) hMi
   have c0:=ak hbx 0
   have c1:=ak hbx 1
   have c2:=ak hbx 2
   obtain⟨nb,hnb⟩:∃ nb,nb=(cd k).1:=⟨_,rfl⟩
   obtain⟨num,xV⟩:∃ num,num=(cd k).2:=⟨_,rfl⟩
   rw[← hnb,← xV] at IY
   have adz:num≤1000000:=by rw[xV];exact HG.out.2.2.2.1 k (List.mem_of_getElem? hk)
   have hsn:dA (((bA s rt).take (i+1)).map cd)=dA (((bA s rt).take i).map cd)+nb.length:=by
    rw[lX hk,List.map_append,List.map_cons,List.map_nil,qhp,hnb]
   have adA:dA (((bA s rt).take (i+1)).map cd)≤1000000:=by
    have h1:=qak ((bA s rt).map cd) (i+1)
    rw[← List.map_take] at h1
    have:=HG.out.2.2.1
    omega
   obtain⟨A,hA⟩:∃ A,A=[80,81] ++ [lU t p l] ++ jf ln ++ jf (bA s rt).length ++ tV p (((bA s rt).take i).map cd):=⟨_,rfl⟩
   have hAl:A.length≤3000000:=by
    have h1:=SL p (((bA s rt).take i).map cd) (fun q hq=>by
     obtain⟨x,hx,rfl⟩:=List.mem_map.1 hq
     exact HG.out.2.2.2.1 x (List.mem_of_mem_take hx))
    have h2:=xU (x:=ln) (by omega)
    have h3:=xU (x:=(bA s rt).length) (by rw[← qO.out];omega)
    rw[List.length_map,List.length_take] at h1
    rw[hA]
    simp only [List.length_append,List.length_cons,List.length_nil]
    omega
   have hout:=hE.out
   rw[← hA] at hout
   have hbl:=hE.parts.old i bi hbi
   have HX:=ah (aj hE (aj hbi (aj hk (aj hnb (aj xV (aj hsn (aj hA (aj hbx hbl.1))))))))
   have hA3:=hbl.1
   clear hE hbi hk hMi hnb xV hsn hA hbx hbl
   generalize dA (((bA s rt).take i).map cd)=S0 at *
   generalize hS1:dA (((bA s rt).take (i+1)).map cd)=S1 at *
   have Oz:=ah hS1
   clear hS1
   unfold cu at IY
   go_wp2_with fail
   refine IY.mono ?_
   clear IY
   rintro e wc ⟨bv,rfl,vv,hV,hbv,hvv,hkc⟩
   have hLn:=rY bv vv nb wc hV
   have hoC:=hout.keeps hkc (fun q hq e=>by have:=(hout.lt q hq).1;omega)
   have OA:=hkc.size
   have O6:=HX.out.1.big
   have d1:wc.cell? ⟨w.heap.size,1,none⟩=some (.bool p):=ak (hkc.at HX.out.2.2.2.2.2.2.2.1 (fun e=>by have:=HX.out.1.parts.low i bi HX.out.2.1;omega)) 1
   have hkX:=(HX.out.1.dR.trans hkc (fun q hq e=>by have:=HX.out.1.parts.low i bi HX.out.2.1;omega))
   have Af:∀ W,Keeps (fun _=>False) wc W→Calls Tryz.prog 97 #[ov,.int .u64 num] W fun e w'=>∃ v',e=.returned v'∧bB w3.heap.size w' v' (A ++ jf num)∧Keeps (fun _=>False) W w':=fun W hW=>by
    refine (Sn ov A num W (hoC.keeps hW (fun _ _ h=>h)).sl (by omega) (by omega)).mono ?_
    rintro e w' ⟨v',rfl,h1,h2⟩
    exact⟨v',rfl,h1.mono (fun q hq=>by have:=(h1.lt q hq).1;have:=hW.size;omega),h2⟩
   have O7:nb.length≤1000000:=by have:=HX.out.2.2.2.2.2.1;have:=Oz.out;omega
   have Bq:∀ W,Keeps (fun _=>False) wc W→Calls Tryz.prog 100 #[.pointer (some ⟨bv,0,none⟩),.bool p] W fun e w'=>∃ v',e=.returned v'∧bB W.heap.size w' v' (bE p nb)∧Keeps (fun _=>False) W w':=fun W hW =>
    XA bv vv nb p W (hV.keeps hW (fun h=>h) (fun _ _ h=>h)) O7
   have hc1:∀ W,Keeps (fun _=>False) wc W→W.cell? ⟨w.heap.size,1,none⟩=some (.bool p):=fun W hW=>hW.fV d1
   have HC1:=ah (aj hc1 (aj hkc (aj hkX (aj OA O6))))
   have e3:IntKind.u64.wrap (num:Int)=(num:Int):=by rw[IntKind.wrap_u64];omega
   have hlenA:(A ++ jf num).length+(bE p nb).length≤10000000000:=by
    have h1:=qgn p nb
    have h2:=xU (x:=num) (by omega)
    rw[List.length_append]
    omega
   have hSn:S0+nb.length≤1000000:=by have:=HX.out.2.2.2.2.2.1;have:=Oz.out;omega
   have hszz:w3.heap.size≤wc.heap.size:=by omega
   clear hV hbv hvv hkc hout hoC O6 hkX hc1 O7
   obtain⟨nl,hnl⟩:∃ nl,nl=nb.length:=⟨_,rfl⟩
   rw[← hnl] at hLn hSn
   have yC:=ah hnl
   clear hnl
   go_wp2_with fail
   refine hLn.mono ?_
   clear hLn
   rintro e w' ⟨rfl,rfl⟩
   have d1':wc.drew.cell? ⟨w.heap.size,1,none⟩=some (.bool p):=d1
   go_wp2_with fail
   go_region_law (first
    | (go_simp;go_at_call 97;refine (Af _ (by first|exact (Keeps.refl _ _).drew|exact ((Keeps.refl _ _).drew).trans pY (fun _ _ h=>h)|exact Keeps.refl _ _)).mono ?_;rintro e w8 ⟨v8,rfl,O8,FC⟩;have d8:w8.cell? ⟨w.heap.size,1,none⟩=some (.bool p):=FC.fV (by first|exact d1' | exact d9))
    | (go_simp;go_at_call 100;refine (Bq _ (by first|exact (Keeps.refl _ _).drew|exact ((Keeps.refl _ _).drew).trans FC (fun _ _ h=>h)|exact Keeps.refl _ _)).mono ?_;rintro e w9 ⟨v9,rfl,XU,pY⟩;have d9:w9.cell? ⟨w.heap.size,1,none⟩=some (.bool p):=pY.fV (by first|exact d1' | exact d8))
    | (refine qdx rfl (.tmp 73) (.tmp 77) rfl w3.heap.size v8 v9 (A ++ jf num) (bE p nb) (by simp[Act.eval]) (by simp[Act.eval]) (by first|exact O8.keeps pY (fun _ _ h=>h)|exact O8) (by first|exact (XU.keeps FC (fun _ _ h=>h)).sl|exact XU.sl) hlenA (by first|exact Nat.le_trans hszz (Nat.le_trans FC.size pY.size)|exact Nat.le_trans hszz (Nat.le_trans pY.size FC.size)) ?_;intro v' wQ O9 hk10 Pg))
   all_goals
    have pQ:Keeps (fun x=>w3.heap.size≤x) wc wQ:=by
     first
      | exact ((((Keeps.refl (fun x=>w3.heap.size≤x) wc).drew).trans FC (fun _ _ h=>h.elim)).trans pY (fun _ _ h=>h.elim)).trans hk10 (fun q hq e=>(O8.lt q e).1)
      | exact ((((Keeps.refl (fun x=>w3.heap.size≤x) wc).drew).trans pY (fun _ _ h=>h.elim)).trans FC (fun _ _ h=>h.elim)).trans hk10 (fun q hq e=>(O8.lt q e).1)
    have HF:Hid (I6 w w2 w3 w.heap.size t p l (.slice (some ⟨gv,0,none⟩) N pc) (bA s rt) bs Rs cd ln v' (i+1) wQ):=by
     refine ah ?_
     obtain⟨hE,hbi,hk,hnb,xV,hsn,hA,hbx,hbl⟩:=HX.out
     obtain⟨_,hkc,hkX,_,_⟩:=HC1.out
     have hs:=pQ.size
     have hs2:=hE.big
     have hs3:=hkc.size
     refine⟨hE.parts.next (G:=fun x=>x=bi∨w3.heap.size≤x) ((hkc.mono (fun _ _ h=>.inl h)).trans (pQ.mono (fun _ _ h=>.inr h)) (fun _ _ h=>h)) hbi (fun _ h=>h),?_,hkX.trans (pQ.mono (fun _ _ h=>h)) (fun q hq e=>by omega),by omega⟩
     rw[lX hk,List.map_append,List.map_cons,List.map_nil,qfe,← List.append_assoc,← hA]
     unfold mX
     rw[← hnb,← xV,← List.append_assoc]
     exact O9
    clear pQ O9 hk10 Pg O8 FC XU pY d8 d9
    go_wp2_with fail
    go_roundg (N - (i+1))
    case measure=>rw[tq.out];omega
    case rel=>exact⟨i+1,v',by omega,rfl,rfl,by rw[Oz.out,HX.out.2.2.2.2.2.1,← yC.out];rfl,by go_num,HF.out⟩
  ·obtain rfl:i=N:=by omega
   have htk:(bA s rt).take i=bA s rt:=List.take_of_length_le (by rw[← qO.out];exact Nat.le_refl _)
   rw[htk] at O5
   rw[htk]
   obtain⟨A,hA⟩:∃ A,A=[80,81] ++ [lU t p l] ++ jf ln ++ jf (bA s rt).length ++ tV p ((bA s rt).map cd):=⟨_,rfl⟩
   have hAl:A.length≤3000000:=by
    have h1:=SL p ((bA s rt).map cd) (fun q hq=>by
     obtain⟨x,hx,rfl⟩:=List.mem_map.1 hq
     exact HG.out.2.2.2.1 x hx)
    have h2:=xU (x:=ln) (by omega)
    have h3:=xU (x:=(bA s rt).length) (by rw[← qO.out];omega)
    rw[List.length_map] at h1
    have h4:=qO.out
    rw[hA]
    simp only [List.length_append,List.length_cons,List.length_nil]
    omega
   have hout:=hE.out
   rw[htk,← hA] at hout
   have uQ:=H2.out.2.2.1.keeps hE.dR (fun hx=>by have:=H2.out.2.2.1.1.lt;omega) (fun q hq hx=>by have:=(H2.out.2.2.1.1.2.2 q hq).2;omega)
   have c2:=ak hbx 2
   have hbig:=hE.big
   have aT:Keeps (fun x=>x=b) w wr:=H2.out.1.trans hE.dR (fun x hx e=>by omega)
   have hAM:=H2.out.2.2.2.1.keeps hE.dR (fun hx=>by have:=H2.out.2.2.2.1.lt;omega) (fun x hx e=>by have:=H2.out.2.2.2.1.old x hx;omega)
   have XV:=H2.out.2.2.1.1.lt
   obtain⟨S0,hS0⟩:∃ S0,S0=dA ((bA s rt).map cd):=⟨_,rfl⟩
   rw[← hS0] at O5 ⊢
   have HX:=ah (aj hA (aj hS0 (aj aT (aj hAM XV))))
   clear hE hA hS0 hbx aT hAM htk
   have DL:∀ (E:List Nat) (vF:Value) (wF:World),bB w3.heap.size wF vF E→(∀ x ∈ E,x<256)→E.length≤90000000→Calls Tryz.prog 26 #[vF] wF (fun e w'=>e=.returned (.int .u32 (iW E:Nat))∧Keeps (fun _=>False) wF w'):=fun E vF wF ho XW hl=>qdk vF E wF ho.sl (fun q hq=>(ho.lt q hq).2) XW (by omega)
   cases l
   ·have oO:∀ x ∈ A,x<256:=by
     have h1:=SN t p false ln ((bA s rt).map cd) []
     unfold oN at h1
     rw[HX.out.1]
     simpa using h1
    have hO:=DL A ov wr hout oO (by omega)
    have hcv:=XC oO
    have hfs:fs=A ++ four (iW A):=by
     have:=HZ.out.1
     unfold jw oN at this
     rw[this,HX.out.1]
     simp
    have hszz:sz=S0:=by have:=HZ.out.2;rw[HX.out.2.1];simpa using this
    subst hszz
    obtain⟨cv,xW⟩:∃ cv,cv=iW A:=⟨_,rfl⟩
    rw[← xW] at hO hcv hfs
    have I7:=ah hfs
    have xX:=ah (aj hout hbig)
    clear DL oO hfs xW hout
    go_wp2_with fail
    refine hO.mono ?_
    clear hO
    rintro e Ba ⟨rfl,pG⟩
    have tu:=qac ov A cv Ba (xX.out.1.keeps pG (fun _ _ h=>h)).sl (by omega) hcv
    have H11:=ah pG
    clear pG
    go_wp2_with fail
    refine tu.mono ?_
    clear tu
    rintro e u7 ⟨v12,rfl,I8,jQ⟩
    have hkk:Keeps (fun _=>False) wr u7:=H11.out.trans jQ (fun _ _ h=>h)
    have hs1:=H11.out.size
    have HF:Hid (bB w.heap.size u7 v12 fs∧(∃ R',MapAt u7 b s rt ln R'∧∀ x,R' x→R x∨w.heap.size≤x)∧Keeps (fun k=>k=b) w u7):=by
     refine ah ⟨?_,⟨R',HX.out.2.2.2.1.keeps hkk (fun h=>h) (fun _ _ h=>h),HRR.out⟩,HX.out.2.2.1.trans hkk (fun _ _ h=>h.elim)⟩
     rw[I7.out]
     exact I8.mono (fun q hq=>by have:=(I8.lt q hq).1;omega)
    clear I8 jQ hkk
    go_wp2
    refine bodyPost_ret (v:=.tuple #[v12,.int .i64 (sz:Nat),.int .i64 0]) (by simp[results,Tryz.results53,go_sem]) rfl ?_
    exact⟨v12,rfl,HF.out⟩
   ·obtain⟨L,hL⟩:∃ L,L=gU s rt:=⟨_,rfl⟩
    have hnl:=HG.out.2.2.2.2.2.2.1
    have hev:=HG.out.2.2.2.2.2.2.2.2.2
    have FD:(jO (iy s rt)).length=s.length:=by rw[q96,hnl]
    have rW:aM s.length (sg (iy s rt)):=HG.out.2.2.2.2.2.2.2.1
    have hInv:=q97 bp pv (iy s rt) wr uQ (by rw[hnl];exact rW) (by omega)
    have hiP:aM s.length (sg (jO (iy s rt))):=(qjr rW).congr (fun d hd=>SV (by rw[hnl];exact hd))
    have him:∀ d,d<s.length→sg (jO (iy s rt)) (mt d)=mt (sg (jO (iy s rt)) d):=fun d hd=>by
     rw[SV (by rw[hnl];exact aU hev hd),SV (by rw[hnl];exact hd)]
     exact qgo rW hev HG.out.2.2.2.2.2.2.2.2.1 hd
    have hLl:L.length≤65536 * 65:=by
     rw[hL]
     unfold gU
     rw[BG]
     exact Nat.mul_le_mul (by omega) (by have:=Kv (s.length / 2);omega)
    have oO:∀ x ∈ A ++ bI L,x<256:=by
     have h1:=SN t p true ln ((bA s rt).map cd) L
     unfold oN at h1
     rw[HX.out.1]
     simpa using h1
    have hcv:=XC oO
    have hfs:fs=(A ++ bI L) ++ four (iW (A ++ bI L)):=by
     have:=HZ.out.1
     unfold jw oN at this
     rw[this,HX.out.1,hL]
     simp
    have hszz:sz=S0+L.length:=by have:=HZ.out.2;rw[HX.out.2.1,hL];simpa using this
    have hol:(bI L).length≤600000:=by rw[uS];omega
    obtain⟨Ll,MB⟩:∃ Ll,Ll=L.length:=⟨_,rfl⟩
    obtain⟨cv,xW⟩:∃ cv,cv=iW (A ++ bI L):=⟨_,rfl⟩
    rw[← xW] at hcv hfs
    rw[← MB] at hszz hLl
    have uL:=ah (aj MB (aj hL (aj hnl (aj hev (aj FD (aj hiP (aj him (aj xW (aj hszz hfs)))))))))
    have xX:=ah (aj hout (aj hbig (aj oO uQ)))
    clear hfs xW hout oO uQ hL hnl hev FD rW hiP him MB hszz
    go_wp2_with fail
    refine hInv.mono ?_
    clear hInv
    rintro e Ba ⟨b11,XY,rfl,Ph,XZ,X3,pG⟩
    have DN:=qbg b11 XY (jO (iy s rt)) Ba Ph.1 (by rw[uL.out.2.2.2.2.1];exact uL.out.2.2.2.2.2.1) (by rw[uL.out.2.2.2.2.1];exact uL.out.2.2.2.1) (by rw[uL.out.2.2.2.2.1];omega) (by rw[uL.out.2.2.2.2.1];exact uL.out.2.2.2.2.2.2.1)
    rw[uL.out.2.2.2.2.1] at DN
    have eL:iY (s.length / 2) (fun e=>sg (jO (iy s rt)) (2 * e)) (s.length / 2)=L:=uL.out.2.1.symm
    rw[eL] at DN
    have Pj:Hid (bB w3.heap.size Ba ov A∧Keeps (fun x=>x=bp) wr Ba):=ah ⟨xX.out.1.keeps pG (fun q hq e=>by have:=(xX.out.1.lt q hq).1;have:=HX.out.2.2.2.2;omega),pG⟩
    clear Ph XZ X3 pG eL
    go_wp2_with fail
    refine DN.mono ?_
    clear DN
    rintro e u7 ⟨bl,rfl,lv,hV,hbl,hlv,jQ⟩
    have hLn:=rY bl lv L u7 hV
    rw[← uL.out.1] at hLn
    have Fz:=Xp bl lv L u7 hV (by rw[← uL.out.1];omega)
    have I9:Hid (bB w3.heap.size u7 ov A∧Keeps (fun x=>x=bp) wr u7):=ah ⟨Pj.out.1.keeps jQ (fun _ _ h=>h),Pj.out.2.trans jQ (fun _ _ h=>h.elim)⟩
    clear hV hbl hlv jQ
    go_wp2_with fail
    refine hLn.mono ?_
    clear hLn
    rintro e w' ⟨rfl,rfl⟩
    go_wp2_with fail
    refine Fz.mono ?_
    clear Fz
    rintro e UM ⟨v13,rfl,Pm,mE⟩
    have N8:=I9.out.1.keeps mE (fun _ _ h=>h)
    have Pn:w3.heap.size≤UM.heap.size:=by have:=I9.out.2.size;have:=mE.size;omega
    have FE:=Pm.sl
    have X4:=ah (I9.out.2.trans mE (fun _ _ h=>h.elim))
    have Aw:A.length+(bI L).length≤10000000000:=by omega
    clear Pm mE
    go_wp2_with (at_builtin;refine WZ rfl _ _ rfl w3.heap.size ov v13 A (bI L) rfl rfl N8 FE Aw Pn ?_;intro vF wF X5 pQ X6)
    have hO:=DL (A ++ bI L) vF wF X5 xX.out.2.2.1 (by rw[List.length_append];omega)
    rw[← uL.out.2.2.2.2.2.2.2.1] at hO
    have NZ:Hid (bB w3.heap.size wF vF (A ++ bI L)∧Keeps (fun x=>x=bp∨w3.heap.size≤x) wr wF):=ah ⟨X5,(X4.out.mono (fun _ _ h=>.inl h)).trans (pQ.mono (fun q _ e=>.inr (N8.lt q e).1)) (fun _ _ h=>h)⟩
    clear N8 FE Pn Aw X5 pQ X6 DL
    go_wp2_with fail
    refine hO.mono ?_
    clear hO
    rintro e w14 ⟨rfl,oD⟩
    have tu:=qac vF (A ++ bI L) cv w14 (NZ.out.1.keeps oD (fun _ _ h=>h)).sl (by rw[List.length_append];omega) hcv
    have Ja:=ah oD
    clear oD
    go_wp2_with fail
    refine tu.mono ?_
    clear tu
    rintro e S9 ⟨v15,rfl,Jb,Po⟩
    have hkk:Keeps (fun x=>x=bp∨w3.heap.size≤x) wr S9:=NZ.out.2.trans (Ja.out.trans Po (fun _ _ h=>h)) (fun _ _ h=>h.elim)
    have hs1:=NZ.out.2.size
    have hs2:=Ja.out.size
    have HF:Hid (bB w.heap.size S9 v15 fs∧(∃ R',MapAt S9 b s rt ln R'∧∀ x,R' x→R x∨w.heap.size≤x)∧Keeps (fun k=>k=b) w S9):=by
     have h3:=H2.out.2.2.2.2
     refine ah ⟨?_,⟨R',HX.out.2.2.2.1.keeps hkk (fun hx=>by rcases hx with e|e;exact h3.1.1 e;omega) (fun x hx hg=>by
      rcases hg with e|e
      ·subst e;exact h3.1.2 hx
      ·have:=H2.out.2.2.2.1.old x hx;omega),HRR.out⟩,HX.out.2.2.1.trans hkk (fun x hx hg=>by
      rcases hg with e|e
      ·have:=h3.2;omega
      ·omega)⟩
     rw[uL.out.2.2.2.2.2.2.2.2.2]
     exact Jb.mono (fun q hq=>by have:=(Jb.lt q hq).1;have:=xX.out.2.1;omega)
    have HSZ:=uL.out.2.2.2.2.2.2.2.2.1
    subst HSZ
    clear Jb Po hkk
    go_wp2
    refine bodyPost_ret (v:=.tuple #[v15,.int .i64 ((S0+Ll:Nat):Int),.int .i64 0]) (by simp[results,Tryz.results53,go_sem]) rfl ?_
    exact⟨v15,rfl,HF.out⟩
