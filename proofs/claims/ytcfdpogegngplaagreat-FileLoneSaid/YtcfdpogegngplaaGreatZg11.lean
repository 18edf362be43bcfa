import Derived.Test.YtcfdpogegngplaaGreatZg0p
import Derived.Test.YtcfdpogegngplaaGreatZg13
set_option maxRecDepth 100000
set_option maxHeartbeats 4000000
namespace Go.Proofs.YtcfdpogegngplaaGreat
section
open Go.RowKit
theorem qfa(r b:Nat)(w:World)(hr:r<4294967296)(hb:b<256) :
  Calls Tryz.prog 119 #[.int .u32 r,.int .u8 b] w fun e w'=>e=.returned (.int .u32 (IU r b:Nat))∧w=w':=by
 have hx:bits .xor .u32 (r:Int) (b:Int)=((r ^^^ b:Nat):Int):=u32_xor_nat r b hr (by omega)
 have h0:r ^^^ b<4294967296:=Nat.xor_lt_two_pow (n:=32) hr (by omega)
 have HS:Hid (IU r b=mW 8 (r ^^^ b)):=ah rfl
 generalize IU r b=R at *
 go_enter Tryz.func119,Tryz.ntmps119
 go_wp2_with fail
 go_loop [0,9] (fun rv i=>∃ j:Nat,j≤8∧i=.int .i64 j∧rv=.int .u32 (mW j (r ^^^ b):Nat)) (fun _ i=>8 - (intOf i).toNat)
 case atStart=>exact⟨0,by omega,rfl,rfl⟩
 case round =>
  obtain⟨j,hj,rfl,rfl⟩:=hrel
  by_cases hlt:j<8
  ·have hq:=qgh h0 j
   have hst:mW (j+1) (r ^^^ b)=Fj (mW j (r ^^^ b)):=rfl
   generalize mW j (r ^^^ b)=q at *
   have HST:=ah hst
   clear hst
   have e1:bits .and .u32 (q:Int) 1=((q % 2:Nat):Int):=by
    have:=u32_and_nat q 1 hq (by decide)
    rw[nat_mask1] at this
    exact this
   by_cases h2:q % 2=0
   ·have hbt:Fj q=q / 2:=by unfold Fj;rw[if_pos h2]
    rw[h2] at e1
    have e2:bits .and .u32 3988292384 0=0:=u32_and_nat 3988292384 0 (by decide) (by decide)
    have e3:bits .xor .u32 ((q:Int) / 2) 0=((q / 2:Nat):Int):=by
     have:=u32_xor_nat (q / 2) 0 (by omega) (by decide)
     rw[Nat.xor_zero] at this
     exact this
    have HB:=ah hbt
    clear hbt
    go_wp2_with fail
    go_round
    case rel=>exact⟨j+1,by omega,by go_num,by rw[HST.out,HB.out];first|rfl|simp⟩
    case measure=>simp[intOf];omega
   ·have hbt:Fj q=(q / 2) ^^^ 3988292384:=by unfold Fj;rw[if_neg h2]
    rw[show q % 2=1 by omega] at e1
    have e2:bits .and .u32 3988292384 4294967295=3988292384:=u32_and_nat 3988292384 4294967295 (by decide) (by decide)
    have e3:bits .xor .u32 ((q:Int) / 2) 3988292384=(((q / 2) ^^^ 3988292384:Nat):Int):=u32_xor_nat (q / 2) 3988292384 (by omega) (by decide)
    have HB:=ah hbt
    clear hbt
    go_wp2_with fail
    go_round
    case rel=>exact⟨j+1,by omega,by go_num,by rw[HST.out,HB.out]⟩
    case measure=>simp[intOf];omega
  ·obtain rfl:j=8:=by omega
   go_wp2
   go_ret
   exact⟨by rw[HS.out];rfl,rfl⟩
def Ap(W:World)(b r n:Nat):Prop:=W.heap[b]? = some (.cells #[.int .u32 r,.int .i64 n] 177 (0,0))
theorem qhj(b:Nat)(pv:Value)(bs:List Nat)(w:World)(hS:Ap w b 0 0)(hp:Sl .u8 w pv (aB bs))(hbs:∀ x ∈ bs,x<256)(hl:bs.length≤1000000000)(hpb:pv.ownBlock≠some b) :
  Calls Tryz.prog 71 #[.pointer (some ⟨b,0,none⟩),pv] w fun e w'=>e=.returned (.tuple #[])∧Ap w' b (iW bs) bs.length∧Keeps (fun k=>k=b) w w':=by
 obtain⟨pa,pc,rfl,hpc,hpm,_,hc⟩:=hp
 rw[show (aB bs).length=bs.length by simp[aB]] at hpc ⊢
 have c0:w.cell? ⟨b,0,none⟩=some (.int .u32 0):=ak hS 0
 have c1:w.cell? ⟨b,1,none⟩=some (.int .i64 0):=ak hS 1
 have hf:=au hS
 have HS:=ah (aj hS hbs)
 clear hS hbs
 generalize hn:bs.length=n at *
 have HN:=ah hn
 clear hn
 have hx0:bits .xor .u32 IntKind.u32.max 0=4294967295:=u32_xor_nat 4294967295 0 (by decide) (by decide)
 go_enter Tryz.func71,Tryz.ntmps71
 go_wp2_with fail
 go_loop [4,16] (fun rv i=>∃ j:Nat,j≤n∧i=.int .i64 j∧rv=.int .u32 (nA (bs.take j):Nat)) (fun _ i=>n - (intOf i).toNat)
 case atStart=>exact⟨0,by omega,rfl,by first|rfl | (simp only [hx0];rfl)⟩
 case round =>
  obtain⟨j,hj,rfl,rfl⟩:=hrel
  have hq:nA (bs.take j)<4294967296:=qae _ _ (fun x hx=>HS.out.2 x (List.mem_of_mem_take hx)) (by decide)
  by_cases hlt:j<n
  ·obtain⟨x,hx⟩:∃ x,bs[j]? = some x:=⟨_,List.getElem?_eq_getElem (by rw[HN.out];exact hlt)⟩
   have hx256:=HS.out.2 x (List.mem_of_getElem? hx)
   have hst:nA (bs.take (j+1))=IU (nA (bs.take j)) x:=by
    unfold nA
    rw[Ad hx,List.foldl_append];rfl
   obtain⟨g,off,rfl,hcell⟩:=hc j _ (by simp[aB,hx]:(aB bs)[j]? = some (x:Int))
   have HST:=ah hst
   have hSt:=fun W=>qfa (nA (bs.take j)) x W hq hx256
   clear hst hc hx
   generalize nA (bs.take j)=q at *
   go_wp2_with (go_at_call 119;refine (hSt _).mono ?_;rintro e w' ⟨rfl,rfl⟩)
   go_round
   case rel=>exact⟨j+1,by omega,by go_num,by rw[HST.out]⟩
   case measure=>simp[intOf];omega
  ·obtain rfl:j=n:=by omega
   have hV:iW bs=nA (bs.take j) ^^^ 4294967295:=by unfold iW;rw[List.take_of_length_le (by rw[HN.out];exact Nat.le_refl _)]
   have hx1:bits .xor .u32 IntKind.u32.max ((nA (bs.take j):Nat):Int)=((iW bs:Nat):Int):=by
    have:=u32_xor_nat 4294967295 (nA (bs.take j)) (by decide) hq
    rw[hV,Nat.xor_comm]
    exact this
   have HV:=ah hV
   clear hc hV
   generalize nA (bs.take j)=q at *
   obtain⟨cv,hcv⟩:∃ cv,cv=iW bs:=⟨_,rfl⟩
   rw[← hcv] at hx1
   have Vh:=ah hcv
   clear hcv
   have r1:=dM (dM HS.out.1 0 (.int .u32 (cv:Int))) 1 (.int .i64 (j:Int))
   have c1':(w.setCell ⟨b,0,none⟩ (.int .u32 (cv:Int))).cell? ⟨b,1,none⟩=some (.int .i64 0):=ak (dM HS.out.1 0 (.int .u32 (cv:Int))) 1
   have hf':=au (dM HS.out.1 0 (.int .u32 (cv:Int)))
   have HF:Hid (Ap _ b cv j∧Keeps (fun k=>k=b) w _):=ah ⟨r1,((Keeps.refl (fun k=>k=b) w).setCell (p:=⟨b,0,none⟩) (.inl rfl) (.int .u32 (cv:Int))).setCell (p:=⟨b,1,none⟩) (.inl rfl) (.int .i64 (j:Int))⟩
   clear r1
   go_wp2_with fail
   go_end0
   rw[← Vh.out]
   exact⟨rfl,HF.out⟩
theorem qdk(pv:Value)(bs:List Nat)(w:World)(hp:Sl .u8 w pv (aB bs))(hpo:∀ k,pv.ownBlock=some k→k<w.heap.size)(hbs:∀ x ∈ bs,x<256)(hl:bs.length≤1000000000) :
  Calls Tryz.prog 26 #[pv] w fun e w'=>e=.returned (.int .u32 (iW bs:Nat))∧Keeps (fun _=>False) w w':=by
 have ka:=(Keeps.refl (fun _=>False) w).alloc (.cells #[.int .u32 0,.int .i64 0] 177)
 have hb0:=heap_alloc_new w (.cells #[.int .u32 0,.int .i64 0] 177)
 have hA:=qhj w.heap.size pv bs _ hb0 (hp.keeps ka (fun _ _ h=>h)) hbs hl (fun e=>by have:=hpo _ e;omega)
 have HK:=ah ka
 clear hp hbs ka hb0
 go_enter Tryz.func26,Tryz.ntmps26
 go_wp2_with (first | (go_at_call 71;refine hA.mono ?_;rintro e w1 ⟨rfl,hS,hk⟩;have c0:w1.cell? ⟨w.heap.size,0,none⟩=some (.int .u32 (iW bs:Nat)):=ak hS 0;have HF:=ah (HK.out.trans hk (fun x hx e=>by omega));clear hA hS hk)|go_in)
 go_ret
 exact⟨rfl,HF.out⟩
end
section
open Go.RowKit
def Fq(w:World)(v:Value)(bs:List Nat):Prop:=∃ ao,v=.slice ao bs.length bs.length∧Sl .u8 w v (aB bs)
def xS(B:Nat)(w:World)(v:Value)(bs:List Nat):Prop:=bB B w v bs∨Fq w v bs
theorem xS.sl{B:Nat}{w:World}{v:Value}{bs:List Nat}(h:xS B w v bs):Sl .u8 w v (aB bs):=by
 rcases h with h|⟨_,_,h⟩
 ·exact h.sl
 ·exact h
theorem Sl.kP{w:World}{v:Value}{bs:List Nat}(h:Sl .u8 w v (aB bs)):∃ a cap,v=.slice a bs.length cap∧bs.length≤cap∧cap≤9223372036854775807:=by
 obtain⟨a,cap,hv,h1,h2,_,_⟩:=h
 rw[show (aB bs).length=bs.length by simp[aB]] at hv h1
 exact⟨a,cap,hv,h1,h2⟩
theorem xS.form{B:Nat}{w:World}{v:Value}{bs:List Nat}(h:xS B w v bs):∃ a cap,v=.slice a bs.length cap∧bs.length≤cap∧cap≤9223372036854775807:=by
 obtain⟨a,cap,hv,h1,h2,_,_⟩:=h.sl
 rw[show (aB bs).length=bs.length by simp[aB]] at hv h1
 exact⟨a,cap,hv,h1,h2⟩
theorem bB.row{B:Nat}{w:World}{v:Value}{bs:List Nat}(h:bB B w v bs)(h0:0<bs.length):∃ g cap,v=.slice (some ⟨g,0,none⟩) bs.length cap∧B≤g∧g<w.heap.size∧bs.length≤cap∧cap≤9223372036854775807:=by
 obtain⟨g,cap,hv,h1,h2,_,ho,hg⟩:=o7 h h0
 exact⟨g,cap,hv,(bB.lt h g ho).1,hg,h1,by unfold maxLen at h2;omega⟩
theorem Sl.full{w:World}{a:Option Addr}{n cap:Nat}{bs:List Nat}(h:Sl .u8 w (.slice a n cap) (aB bs)):Fq w (.slice a n n) bs:=by
 obtain⟨a',cap',hv,h1,h2,h3,h4⟩:=h
 simp only [Value.slice.injEq] at hv
 obtain⟨rfl,rfl,rfl⟩:=hv
 have e:(aB bs).length=bs.length:=by simp[aB]
 refine⟨a,by rw[e],a,(aB bs).length,rfl,Nat.le_refl _,by omega,fun hn=>?_,h4⟩
 have:=h3 hn
 omega
theorem qdl{ops:Array Oper}{rest:List Oper}{o:Oper}{a:Act}{Q:Exit→Act→World→Prop}{wr:World}(n:Nat)(hgd:o.guard=none)(s x:Operand)
  (ho:o.op=.call { callee:=.builtin .append,args:=#[s,x],argTypes:=#[30,30] })(B:Nat)(v:Value)(bs:List Nat)(z:Nat)(hn:Hid (bs.length=n))(H:Nat)(hH:wr.heap.size=H)(hs:a.eval s=v)(hx:a.eval x=.slice (some ⟨H,0,none⟩) 1 1)
  (hown:xS B wr v bs)(hlen:n≤1000000000)(hB:B≤wr.heap.size)
  (h:∀ g cap w',bB B w' (.slice (some ⟨g,0,none⟩) (n+1) cap) (bs ++ [z])→Keeps (fun k=>B≤k) wr w' →
   wpList Tryz.prog ops Q rest (a.put o.dst (.slice (some ⟨g,0,none⟩) (n+1) cap)) w') :
  wpList Tryz.prog ops Q (o :: rest) a (wr.alloc (.cells #[.int .u8 (z:Int)] 5)):=by
 rcases hown with hO|⟨ao,hv,hsl⟩
 ·exact qm9 n hgd s x ho B v bs z hn H hH hs hx hO (by omega) hB (fun g cap w' h1 h2 _ _=>h g cap w' h1 (h2.mono (fun q _ e=>(hO.lt q e).1)))
 ·have ka:=(Keeps.refl (fun _=>False) wr).alloc (.cells #[.int .u8 (z:Int)] 5)
  subst hH
  rw[hv] at hs hsl
  refine Ae hgd s x ho ao bs.length 1 1 ⟨wr.heap.size,0,none⟩ bs [z] hs hx (hsl.keeps ka (fun _ _ h=>h)) (Sl.one wr .u8 (z:Int) 5) (by decide) (by rw[hn.out];omega) (fun v' w' h1 h2=>?_)
  obtain⟨g,cap,rfl,hg,_,_,_⟩:=h1.row (by simp)
  have e:(bs ++ [z]).length=n+1:=by rw[List.length_append,hn.out];rfl
  rw[e] at h1 ⊢
  refine h g cap w' (h1.mono (fun k hk=>?_)) ((ka.mono (fun _ _ h=>h.elim)).trans h2 (fun _ _ h=>h.elim))
  have:=(h1.lt k hk).1
  simp at this
  omega
theorem Sn(pv:Value)(bs:List Nat)(x:Nat)(w:World)(hp:Sl .u8 w pv (aB bs))(hl:bs.length≤100000000)(hx:x<18446744073709551616) :
  Calls Tryz.prog 97 #[pv,.int .u64 x] w fun e w'=>∃ v,e=.returned v∧bB w.heap.size w' v (bs ++ jf x)∧Keeps (fun _=>False) w w':=by
 obtain⟨pa,pc,rfl,hpc,hpm⟩:=hp.kP
 have hF:=hp.full
 generalize hn:bs.length=n at *
 have HN:=ah hn
 have HF:=ah hF
 clear hn hp hF
 go_enter Tryz.func97,Tryz.ntmps97
 go_wp2_with fail
 go_loopg [0,1] x (fun m pv yv wr=>∃ (pre:List Nat) (y:Nat),m=y∧yv=.int .u64 y∧bs ++ jf x=pre ++ jf y∧y<18446744073709551616∧xS w.heap.size wr pv pre∧Keeps (fun _=>False) w wr)
 case atStart=>exact⟨bs,x,rfl,rfl,rfl,hx,.inr HF.out,Keeps.refl _ _⟩
 case round =>
  obtain⟨pre,y,aN,rfl,he,hy,hR,hk⟩:=hrel
  have hpl:pre.length≤n+10:=by
   have h1:=congrArg List.length he
   rw[List.length_append,List.length_append,HN.out] at h1
   have:=xU hx
   omega
  have hsz:=hk.size
  obtain⟨ra,rc,rfl,hr1,hr2⟩:=hR.form
  have HG:=ah aN
  clear aN
  generalize hm:pre.length=m at *
  have HM:=ah hm
  clear hm
  have e1:IntKind.u8.wrap (y:Int)=((y % 256:Nat):Int):=by rw[IntKind.wrap_u8];omega
  by_cases hlt:y<128
  ·rw[yK hlt] at he
   have HE:=ah he
   have e2:((y % 256:Nat):Int)=(y:Int):=by omega
   rw[e2] at e1
   clear he e2
   go_wp2_with (at_builtin;refine qdl m rfl _ _ rfl w.heap.size (.slice ra m rc) pre y HM _ rfl rfl rfl hR (by omega) hsz ?_;intro g2 cap2 w1 hown hk1)
   have Sr:Hid (bB w.heap.size w1 (.slice (some ⟨g2,0,none⟩) (m+1) cap2) (bs ++ jf x)∧Keeps (fun _=>False) w w1):=ah ⟨by rw[HE.out];exact hown,hk.trans hk1 (fun q hq e=>by omega)⟩
   clear hown hk1 hk
   go_wp2
   go_ret
   exact⟨_,rfl,Sr.out⟩
  ·rw[IV hlt] at he
   have HE:=ah he
   have e2:bits .or .u8 ((y % 256:Nat):Int) 128=((y % 128+128:Nat):Int):=by
    have h1:=u8_or_nat (y % 256) 128 (by omega) (by decide)
    have h2:∀ z:Fin 256,z.val ||| 128=z.val % 128+128:=by decide +kernel
    have h3:=h2 ⟨y % 256,by omega⟩
    simp only at h3
    rw[h3,show y % 256 % 128=y % 128 by omega] at h1
    exact h1
   obtain⟨z,hz⟩:∃ z,z=y % 128+128:=⟨_,rfl⟩
   obtain⟨q,hq⟩:∃ q,q=y % 256:=⟨_,rfl⟩
   rw[← hz] at e2 HE
   rw[← hq] at e1 e2
   clear he hz hq
   go_wp2_with (at_builtin;refine qdl m rfl _ _ rfl w.heap.size (.slice ra m rc) pre z HM _ rfl rfl rfl hR (by omega) hsz ?_;intro g2 cap2 w1 hown hk1)
   have Sr:Hid (bB w.heap.size w1 (.slice (some ⟨g2,0,none⟩) (m+1) cap2) (pre ++ [z])∧Keeps (fun _=>False) w w1):=ah ⟨hown,hk.trans hk1 (fun q hq e=>by omega)⟩
   clear hown hk1 hk
   go_wp2
   go_roundg (y / 128)
   case measure=>rw[HG.out];omega
   case rel=>exact⟨pre ++ [z],y / 128,rfl,by first|rfl|go_num | (congr 1),by rw[HE.out,List.append_assoc];rfl,by omega,.inl Sr.out.1,Sr.out.2⟩
theorem qac(pv:Value)(bs:List Nat)(x:Nat)(w:World)(hp:Sl .u8 w pv (aB bs))(hl:bs.length≤100000000)(hx:x<4294967296) :
  Calls Tryz.prog 104 #[pv,.int .u32 x] w fun e w'=>∃ v,e=.returned v∧bB w.heap.size w' v (bs ++ four x)∧Keeps (fun _=>False) w w':=by
 obtain⟨pa,pc,rfl,hpc,hpm⟩:=hp.kP
 have hF:=hp.full
 obtain⟨y0,y1,y2,y3,h4,z0,z1,z2,z3⟩:∃ y0 y1 y2 y3:Nat,four x=[y0,y1,y2,y3]∧(x:Int) % 256=y0∧(x:Int) / 256 % 256=y1∧(x:Int) / 65536 % 256=y2∧(x:Int) / 16777216=y3:=⟨_,_,_,_,rfl,by omega,by omega,by omega,by omega⟩
 have k0:=(Keeps.refl (fun _=>False) w).alloc (.cells #[.int .u8 y0,.int .u8 y1,.int .u8 y2,.int .u8 y3] 5)
 have hsc:Sl .u8 (w.alloc (.cells #[.int .u8 y0,.int .u8 y1,.int .u8 y2,.int .u8 y3] 5)) (.slice (some ⟨w.heap.size,0,none⟩) 4 4) (aB [y0,y1,y2,y3]):=by
  refine⟨_,4,rfl,Nat.le_refl _,by decide,(fun h=>by cases h),fun j z hj=>⟨w.heap.size,0,rfl,?_⟩⟩
  have hb:=heap_alloc_new w (.cells #[.int .u8 y0,.int .u8 y1,.int .u8 y2,.int .u8 y3] 5)
  rw[Nat.zero_add,ak hb]
  match j,hj with
  | 0,hj=>simp[aB] at hj;subst hj;rfl
  | 1,hj=>simp[aB] at hj;subst hj;rfl
  | 2,hj=>simp[aB] at hj;subst hj;rfl
  | 3,hj=>simp[aB] at hj;subst hj;rfl
  | j+4,hj=>simp[aB] at hj
 generalize hn:bs.length=n at *
 have HN:=ah hn
 have hF2:=hF
 obtain⟨ao,hao,hsl⟩:=hF2
 rw[hn] at hao
 have hslA:=hsl.keeps k0 (fun _ _ h=>h)
 have H4:=ah h4
 have HK:=ah k0
 clear hn hp hF hao hsl h4 k0
 go_enter Tryz.func104,Tryz.ntmps104
 go_wp2_with (at_builtin;go_loud (refine Ae rfl _ _ rfl pa n 4 4 ⟨w.heap.size,0,none⟩ bs [y0,y1,y2,y3] rfl rfl hslA hsc (by decide) (by omega) ?_;intro v' w1 hown hk1))
 have HF:Hid (bB w.heap.size w1 v' (bs ++ four x)∧Keeps (fun _=>False) w w1):=ah ⟨by
  rw[H4.out]
  refine hown.mono (fun k hk=>?_)
  have:=(hown.lt k hk).1
  simp at this
  omega,HK.out.trans hk1 (fun _ _ h=>h)⟩
 clear hown hk1 hslA hsc
 go_wp2
 go_ret
 exact⟨_,rfl,HF.out⟩
theorem qhk(pv:Value)(x:Nat)(w:World)(hp:Sl .u8 w pv (aB (four x)))(hx:x<4294967296) :
  Calls Tryz.prog 77 #[pv] w fun e w'=>e=.returned (.tuple #[.int .u32 x,.int .i64 0])∧Keeps (fun _=>False) w w':=by
 obtain⟨y0,y1,y2,y3,h4,hx4⟩:∃ y0 y1 y2 y3:Nat,four x=[y0,y1,y2,y3]∧y0<256∧y1<256∧y2<256∧y3<256∧x=y0+256 * y1+65536 * y2+16777216 * y3:=⟨_,_,_,_,rfl,by omega,by omega,by omega,by omega,by omega⟩
 obtain⟨hy0,hy1,hy2,hy3,CO⟩:=hx4
 rw[h4] at hp
 obtain⟨pa,pc,rfl,hpc,hpm,_,hc⟩:=hp
 obtain⟨g,off,rfl,c0⟩:=hc 0 (y0:Int) rfl
 obtain⟨g',off',hg,c1⟩:=hc 1 (y1:Int) rfl
 obtain⟨g'',ac0,hg',c2⟩:=hc 2 (y2:Int) rfl
 obtain⟨g3,akA,hg3,c3⟩:=hc 3 (y3:Int) rfl
 simp only [Option.some.injEq,Addr.mk.injEq] at hg hg' hg3
 obtain⟨rfl,rfl,_⟩:=hg
 obtain⟨rfl,rfl,_⟩:=hg'
 obtain⟨rfl,rfl,_⟩:=hg3
 rw[Nat.add_zero] at c0
 rw[show (aB [y0,y1,y2,y3]).length=4 from rfl] at hpc ⊢
 have Sv:∀ (a b k:Nat),a<2 ^ k→a+b * 2 ^ k<4294967296→bits .or .u32 (a:Int) ((b:Int) * 2 ^ k)=((a+b * 2 ^ k:Nat):Int):=fun a b k h1 h2=>by
  have h3:=u32_or_nat a (b * 2 ^ k) (by omega) (by omega)
  rw[Nat.or_comm,Nat.mul_comm,← Nat.two_pow_add_eq_or_of_lt h1,Nat.add_comm,Nat.mul_comm] at h3
  push_cast at h3 ⊢
  exact h3
 have f1:=Sv y0 y1 8 (by omega) (by omega)
 have f2:=Sv (y0+y1 * 2 ^ 8) y2 16 (by omega) (by omega)
 have f3:=Sv (y0+y1 * 2 ^ 8+y2 * 2 ^ 16) y3 24 (by omega) (by omega)
 have hxe:y0+y1 * 2 ^ 8+y2 * 2 ^ 16+y3 * 2 ^ 24=x:=by omega
 rw[hxe] at f3
 generalize y0+y1 * 2 ^ 8+y2 * 2 ^ 16=p2 at *
 generalize y0+y1 * 2 ^ 8=p1 at *
 simp only [Int.reducePow] at f1 f2 f3
 clear hc Sv hxe CO h4
 go_enter Tryz.func77,Tryz.ntmps77
 go_wp2_with fail
 go_quiet (fail)
 have HK:=ah ((Keeps.refl (fun _=>False) w).drewN nq)
 go_wp2
 refine bodyPost_ret (v:=.tuple #[.int .u32 x,.int .i64 0]) (by simp[results,Tryz.results77,go_sem]) rfl ?_
 exact⟨rfl,HK.out⟩
end
section
open Go.RowKit
theorem qdm(b:Nat)(p:List Nat)(i acc:Nat):jo (b :: p) i acc=if 64≤7 * i∨18446744073709551616≤b % 128 * 2 ^ (7 * i)∨(b=0∧0<i) then none
  else if b<128 then some (acc+b % 128 * 2 ^ (7 * i),i+1) else jo p (i+1) (acc+b % 128 * 2 ^ (7 * i)):=rfl
def uW(o:Option (Nat × Nat)):Value:=match o with
 | some (x,n)=>.tuple #[.int .u64 (x:Nat),.int .i64 (n:Nat),.int .i64 0]
 | none=>.tuple #[.int .u64 0,.int .i64 0,.int .i64 3]
theorem qad(pv:Value)(cs:List Nat)(w:World)(hp:Sl .u8 w pv (aB cs))(hcs:∀ x ∈ cs,x<256) :
  Calls Tryz.prog 151 #[pv] w fun e w'=>e=.returned (uW (jo cs 0 0))∧Keeps (fun _=>False) w w':=by
 obtain⟨pa,pc,rfl,hpc,hpm,_,hc⟩:=hp
 rw[show (aB cs).length=cs.length by simp[aB]] at *
 generalize hn:cs.length=n at *
 have HN:=ah hn
 clear hn
 go_enter Tryz.func151,Tryz.ntmps151
 go_wp2_with fail
 go_loop [5,11] (fun xv iv=>∃ (j acc:Nat),j≤n∧j≤10∧iv=.int .i64 j∧xv=.int .u64 acc∧acc<2 ^ (7 * j)∧acc<18446744073709551616∧jo cs 0 0=jo (cs.drop j) j acc) (fun _ iv=>n - (intOf iv).toNat)
 case atStart=>exact⟨0,0,by omega,by omega,rfl,rfl,by decide,by decide,rfl⟩
 case round =>
  obtain⟨j,acc,hj,akB,rfl,rfl,ha,ha2,hG⟩:=hrel
  by_cases hlt:j<n
  ·obtain⟨x,hx⟩:∃ x,cs[j]? = some x:=⟨_,List.getElem?_eq_getElem (by rw[HN.out];exact hlt)⟩
   have hx256:=hcs x (List.mem_of_getElem? hx)
   have hdr:cs.drop j=x :: cs.drop (j+1):=by
    rw[List.drop_eq_getElem_cons (by rw[HN.out];exact hlt)]
    congr 1
    rw[List.getElem?_eq_getElem (by rw[HN.out];exact hlt)] at hx
    exact Option.some.inj hx
   obtain⟨g,off,rfl,hcell⟩:=hc j _ (by simp[aB,hx]:(aB cs)[j]? = some (x:Int))
   rw[hdr] at hG
   obtain⟨p,hp⟩:∃ p,p=x % 128:=⟨_,rfl⟩
   have e0:bits .andNot .u8 (x:Int) 128=(p:Int):=by
    have h1:=u8_andNot_nat x 128 hx256 (by decide)
    have h2:∀ z:Fin 256,z.val &&& (255 - 128)=z.val % 128:=by decide +kernel
    have h3:=h2 ⟨x,hx256⟩
    simp only at h3
    rw[h3,← hp] at h1
    exact h1
   have ac3:p<128:=by omega
   have hpx:x<128→p=x:=fun h=>by omega
   have HPX:=ah hpx
   rw[qdm,← hp] at hG
   clear hc hx hdr hcs hp hpx
   by_cases h64:64≤7 * j
   ·have t0:decide ((64:Int)≤(j:Int) * 7)=true:=decide_eq_true (by omega)
    rw[if_pos (.inl h64)] at hG
    have HG:=ah hG
    clear hG ha
    go_wp2_with fail
    refine bodyPost_ret (v:=.tuple #[.int .u64 0,.int .i64 0,.int .i64 3]) (by simp[results,Tryz.results151,go_sem]) rfl ?_
    exact⟨by rw[HG.out];rfl,Keeps.refl _ _⟩
   ·have t0:decide ((64:Int)≤(j:Int) * 7)=false:=decide_eq_false (by omega)
    obtain⟨P,hP⟩:∃ P,P=p * 2 ^ (7 * j):=⟨_,rfl⟩
    obtain⟨r,hr⟩:∃ r,r=P % 18446744073709551616:=⟨_,rfl⟩
    obtain⟨s,hs⟩:∃ s,s=r / 2 ^ (7 * j):=⟨_,rfl⟩
    have HJ7:Hid (j * 7=7 * j):=ah (by omega)
    have w2:IntKind.u64.wrap ((p:Int) * 2 ^ (j * 7))=(r:Int):=by
     have e:(p:Int) * 2 ^ (7 * j)=(P:Int):=by rw[hP];push_cast;rfl
     rw[HJ7.out,e,IntKind.wrap_u64,hr];omega
    have w3:(r:Int) / 2 ^ (j * 7)=(s:Int):=by
     rw[HJ7.out,hs];push_cast;rfl
    have rF:0<2 ^ (7 * j):=Nat.two_pow_pos _
    rw[← hP] at hG
    by_cases hbig:18446744073709551616≤P
    ·rw[if_pos (.inr (.inl hbig))] at hG
     have hne:s≠p:=by
      intro e
      rw[hs] at e
      have h1:r<P:=by omega
      have h2:r / 2 ^ (7 * j)<p:=by
       rw[Nat.div_lt_iff_lt_mul rF,← hP];exact h1
      omega
     have t1:((s:Int) != (p:Int))=true:=by rw[bne_iff_ne];omega
     have HG:=ah hG
     clear hG ha hP hr hs rF hbig hne
     go_wp2_with fail
     refine bodyPost_ret (v:=.tuple #[.int .u64 0,.int .i64 0,.int .i64 3]) (by first|rfl|simp[results,Tryz.results151,go_sem]) rfl ?_
     exact⟨by rw[HG.out];rfl,Keeps.refl _ _⟩
    ·have Sz:r=P:=by rw[hr];exact Nat.mod_eq_of_lt (by omega)
     have hsp:s=p:=by rw[hs,Sz,hP];exact Nat.mul_div_cancel _ rF
     rw[hsp] at w3
     by_cases hx0:x=0∧0<j
     ·rw[if_pos (.inr (.inr hx0))] at hG
      have t1:((x:Int) == 0)=true:=by rw[beq_iff_eq];omega
      have t2:decide (0<j)=true:=decide_eq_true (by omega)
      have HG:=ah hG
      obtain⟨hx0,hj0⟩:=hx0
      clear hG ha hP hr hs rF hbig Sz hsp hx0
      go_wp2_with fail
      refine bodyPost_ret (v:=.tuple #[.int .u64 0,.int .i64 0,.int .i64 3]) (by first|rfl|simp[results,Tryz.results151,go_sem]) rfl ?_
      exact⟨by rw[HG.out];rfl,Keeps.refl _ _⟩
     ·have J4:¬ (64≤7 * j∨18446744073709551616≤P∨(x=0∧0<j)):=by rintro (h|h|h);exact h64 h;exact hbig h;exact hx0 h
      rw[if_neg J4] at hG
      obtain⟨A,hA⟩:∃ A,A=acc+P:=⟨_,rfl⟩
      have IW:A<2 ^ (7 * (j+1)):=by
       have h1:p * 2 ^ (7 * j)≤127 * 2 ^ (7 * j):=Nat.mul_le_mul_right _ (by omega)
       rw[Nat.mul_add,Nat.pow_add,hA,hP]
       omega
      have o1:bits .or .u64 (acc:Int) (r:Int)=(A:Int):=by
       rw[Sz]
       have h3:=bits_or_u64_nat acc P ha2 (by omega)
       rw[hP,Nat.or_comm,Nat.mul_comm,← Nat.two_pow_add_eq_or_of_lt ha,Nat.mul_comm,← hP,Nat.add_comm,← hA] at h3
       exact h3
      have uX:A<18446744073709551616:=by
       have h3:A=acc ||| P:=by
        have:=Nat.two_pow_add_eq_or_of_lt ha p
        rw[Nat.mul_comm,← hP] at this
        rw[hA,Nat.add_comm,this,Nat.or_comm]
       rw[h3]
       exact Nat.or_lt_two_pow (n:=64) ha2 (by omega)
      rw[← hA] at hG
      have HH:=ah (aj hG (aj IW uX))
      have hx0':(((x:Int) == 0)=true∧decide (0<j)=false)∨((x:Int) == 0)=false:=by
       by_cases h:x=0
       ·exact .inl ⟨by rw[beq_iff_eq];omega,decide_eq_false (by omega)⟩
       ·exact .inr (by rw[beq_eq_false_iff_ne];omega)
      clear hG ha hP hr hs rF hbig Sz hsp hx0 J4 hA IW uX
      by_cases hx128:x<128
      ·have t3:decide ((x:Int)<128)=true:=decide_eq_true (by omega)
       obtain⟨hG,IW,uX⟩:=HH.out
       rw[if_pos hx128] at hG
       have HG:=ah hG
       clear hG IW uX HH
       rcases hx0' with⟨t4,t5⟩|t4
       all_goals
        go_wp2_with fail
        refine bodyPost_ret (v:=.tuple #[.int .u64 A,.int .i64 ((j:Int)+1),.int .i64 0]) (by simp[results,Tryz.results151,go_sem]) rfl ?_
        exact⟨by rw[HG.out];rfl,Keeps.refl _ _⟩
      ·have t3:decide ((x:Int)<128)=false:=decide_eq_false (by omega)
       obtain⟨hG,IW,uX⟩:=HH.out
       rw[if_neg hx128] at hG
       have HG:=ah (aj hG (aj IW uX))
       have t4:((x:Int) == 0)=false:=by rw[beq_eq_false_iff_ne];omega
       clear hG IW uX HH hx0'
       go_wp2_with fail
       go_round
       case rel=>exact⟨j+1,A,by omega,by omega,by go_num,rfl,HG.out.2.1,HG.out.2.2,HG.out.1⟩
       case measure=>simp[intOf];omega
  ·obtain rfl:j=n:=by omega
   rw[List.drop_of_length_le (by rw[HN.out];exact Nat.le_refl _)] at hG
   have HG:=ah hG
   clear hc hG
   go_wp2
   refine bodyPost_ret (v:=.tuple #[.int .u64 0,.int .i64 0,.int .i64 3]) (by first|rfl|simp[results,Tryz.results151,go_sem]) rfl ?_
   exact⟨by rw[HG.out];rfl,Keeps.refl _ _⟩
end
