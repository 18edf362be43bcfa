import Derived.Test.YtcfdpogegngplaaGreatZaDecodeC2
import Derived.Test.YtcfdpogegngplaaGreatZaGetNum
set_option maxRecDepth 100000
set_option maxHeartbeats 4000000
namespace Go.Proofs.YtcfdpogegngplaaGreat
open Go.RowKit
theorem OwnY.lit1 (w:World) (z:Nat):OwnY w.heap.size (w.alloc (.cells #[.int .u8 (z:Int)] 5)) (.slice (some ⟨w.heap.size,0,none⟩) 1 1) [z] :=
 World.ownsRow_lit (base:=w.heap.size) (e:=5) (size:=1) w #[.int .u8 z] 1 (Nat.le_refl _) (by unfold maxLen;omega) rfl
theorem qb8 (bp:Nat) (pv:Value) (l:List Bool) (k:Nat) (w:World) (hv:VecAt w bp pv l) (hl:l.length≤1000000) (hk:k≤8) :
  Calls Tryz.prog 138 #[.pointer (some ⟨bp,0,none⟩),.int .i64 k] w fun e w'=>∃ v,e=.returned v∧OwnY w.heap.size w' v (q21 l k)∧Keeps (fun _=>False) w w':=by
 have hEn:=q40 bp pv l k w hv hl hk
 have hlen:=q7u k l
 clear hv
 go_enter Tryz.func138,Tryz.ntmps138
 go_wp2_with fail
 refine hEn.mono ?_
 clear hEn
 rintro e w1 ⟨bo,vo,rfl,hV,hbo,hvo,hk1⟩
 have ka:=(Keeps.refl (fun _=>False) w1).alloc (.cells #[.int .u8 ((k+1:Nat):Int)] 5)
 have hlit:=OwnY.lit1 w1 (k+1)
 have hVa:=hV.keeps ka (fun h=>h) (fun _ _ h=>h)
 have e1:((k+1:Nat):Int)=(k:Int)+1:=by omega
 rw[e1] at ka hlit hVa
 have hLn:=q1c bo vo (encK k l) _ hVa
 have e2:IntKind.u8.wrap ((k:Int)+1)=(k:Int)+1:=by rw[IntKind.wrap_u8];omega
 have hNm:=q3l (.slice (some ⟨w1.heap.size,0,none⟩) 1 1) [k+1] (encK k l).length _ hlit.sl (by simp) (by omega)
 have HA:=Lib.hid (And.intro (hk1.trans ka (fun _ _ h=>h)) (And.intro hVa hlit))
 have HL:Hid ((encK k l).length≤100000000):=Lib.hid (by omega)
 have HS:=Lib.hid (show w.heap.size≤w1.heap.size from hk1.size)
 have hlen2:(encK k l).length≤100000000:=by omega
 clear hV hbo hvo hk1 ka hlit hVa e1 hlen
 generalize hn:(encK k l).length=n at *
 have HN:=Lib.hid hn
 clear hn
 go_wp2_with fail
 refine hLn.mono ?_
 clear hLn
 rintro e w2 ⟨rfl,rfl⟩
 go_wp2_with fail
 refine hNm.mono ?_
 clear hNm
 rintro e w2 ⟨v2,rfl,hO2,hk2⟩
 have hV2:=HA.out.2.1.keeps hk2 (fun h=>h) (fun _ _ h=>h)
 have hBy:=q4c bo vo (encK k l) w2 hV2 (by rw[HN.out];exact HL.out)
 have H2:Hid (OwnY w.heap.size w2 v2 ([k+1] ++ vaB n)∧Keeps (fun _=>False) w w2):=Lib.hid ⟨hO2.mono (fun q hq=>by have:=(hO2.lt q hq).1;have:=HS.out;simp at *;omega),HA.out.1.trans hk2 (fun _ _ h=>h)⟩
 clear hO2 hk2 hV2
 go_wp2_with fail
 refine hBy.mono ?_
 clear hBy
 rintro e w3 ⟨v3,rfl,hO3,hk3⟩
 have hO2:=H2.out.1.keeps hk3 (fun _ _ h=>h)
 have k03:=H2.out.2.trans hk3 (fun _ _ h=>h)
 have hsz:=k03.size
 have hol:(octB (encK k l)).length≤100000000:=by rw[q0f,HN.out];omega
 have hvl:([k+1] ++ vaB n).length≤100:=by
  have:=q0z (x:=n) (by omega)
  simp;omega
 have hO3s:=hO3.sl
 have HK:=Lib.hid k03
 clear hk3 k03 hO3
 go_wp2_with (at_builtin;refine qeg rfl _ _ rfl w.heap.size v2 v3 ([k+1] ++ vaB n) (octB (encK k l)) rfl rfl hO2 hO3s (by omega) hsz ?_;intro v4 w4 hO4 hk4 hat)
 have HF:Hid (OwnY w.heap.size w4 v4 (q21 l k)∧Keeps (fun _=>False) w w4):=Lib.hid ⟨by
  unfold q21
  rw[HN.out]
  exact hO4,HK.out.trans hk4 (fun x hx e=>by have:=(hO2.lt x e).1;omega)⟩
 clear hO4 hk4 hat hO2 hO3s
 go_wp2
 go_ret
 exact⟨_,rfl,HF.out⟩
theorem qh2 (l:List Bool) {k:Nat} (hl:l.length≤1000000):(q21 l k).length≤10000000:=by
 have h1:=q7u k l
 have h2:=q0z (x:=(encK k l).length) (by omega)
 unfold q21
 rw[List.length_cons,List.length_append,q0f]
 omega
theorem q48 (bp:Nat) (pv:Value) (l:List Bool) (plain:Bool) (w:World) (hv:VecAt w bp pv l) (hl:l.length≤1000000) :
  Calls Tryz.prog 100 #[.pointer (some ⟨bp,0,none⟩),.bool plain] w fun e w'=>∃ v,e=.returned v∧OwnY w.heap.size w' v (packB plain l)∧Keeps (fun _=>False) w w':=by
 have hnot:∀ (x:Bool) (w:World),(Op.unary .not (.bool x)).run Tryz.prog w=.ok (.bool (!x)) w:=fun _ _=>rfl
 have HV:Hid (∀ W,Keeps (fun _=>False) w W→VecAt W bp pv l):=Lib.hid (fun W hk=>hv.keeps hk (fun h=>h) (fun _ _ h=>h))
 have ka:=(Keeps.refl (fun _=>False) w).alloc (.cells #[.int .u8 ((0:Nat):Int)] 5)
 have hlit:=OwnY.lit1 w 0
 have hBy:=q4c bp pv l _ (HV.out _ ka) (by omega)
 have HA:=Lib.hid (And.intro ka hlit)
 clear hv ka hlit
 go_enter Tryz.func100,Tryz.ntmps100
 go_wp2_with fail
 refine hBy.mono ?_
 clear hBy
 rintro e w1 ⟨v1,rfl,hO1,hk1⟩
 have hO0:=(HA.out.2.keeps hk1 (fun _ _ h=>h))
 have k01:=HA.out.1.trans hk1 (fun _ _ h=>h)
 have hsz:=k01.size
 have hol:(octB l).length≤1000000:=by rw[q0f];omega
 have hO1s:=hO1.sl
 have HK:=Lib.hid k01
 clear hk1 k01 hO1 HA
 go_wp2_with (at_builtin;refine qeg rfl _ _ rfl w.heap.size (.slice (some ⟨w.heap.size,0,none⟩) 1 1) v1 [0] (octB l) rfl rfl hO0 hO1s (by simp;omega) hsz ?_;intro v2 w2 hO2 hk2 hat)
 have h0:OwnY w.heap.size w2 v2 ((List.range 0).foldl (q0p plain l) (0 :: octB l))∧Keeps (fun _=>False) w w2:=⟨hO2,HK.out.trans hk2 (fun x hx e=>by have:=(hO0.lt x e).1;omega)⟩
 have H0:=Lib.hid h0
 clear hO2 hk2 hat hO0 hO1s h0
 go_wp2_with fail
 go_loopg [5,12] 9 (fun mu bv iv wr=>∃ j:Nat,j≤9∧mu=9 - j∧iv=.int .i64 j∧OwnY w.heap.size wr bv ((List.range j).foldl (q0p plain l) (0 :: octB l))∧Keeps (fun _=>False) w wr)
 case atStart=>exact⟨0,by omega,rfl,rfl,H0.out⟩
 case round =>
  clear H0
  obtain⟨j,hj,hgk,rfl,hO,hk⟩:=hrel
  have HG:=Lib.hid hgk
  clear hgk
  obtain⟨ba,bc,rfl,hb1,hb2⟩:=hO.form
  by_cases hlt:j<9
  ·have hCd:=qb8 bp pv l j wr (HV.out wr hk) hl (by omega)
   have hst:(List.range (j+1)).foldl (q0p plain l) (0 :: octB l)=q0p plain l ((List.range j).foldl (q0p plain l) (0 :: octB l)) j:=by rw[List.range_succ,List.foldl_append];rfl
   generalize (List.range j).foldl (q0p plain l) (0 :: octB l)=best at *
   have hcl:=qh2 l (k:=j) hl
   have HO:=Lib.hid (And.intro hO (And.intro hk hst))
   clear hO hk hst
   go_wp2_with fail
   refine hCd.mono ?_
   clear hCd
   rintro e w5 ⟨v5,rfl,hO5,hk5⟩
   obtain⟨ca,cc,rfl,hc1,hc2⟩:=hO5.form
   have hsw:=HO.out.2.1.size
   have HO5:Hid (OwnY w.heap.size w5 (.slice ca (q21 l j).length cc) (q21 l j)∧Keeps (fun _=>False) w w5):=Lib.hid ⟨hO5.mono (fun q hq=>by have:=(hO5.lt q hq).1;omega),HO.out.2.1.trans hk5 (fun _ _ h=>h)⟩
   have hOb:=HO.out.1.keeps hk5 (fun _ _ h=>h)
   have HOB:=Lib.hid hOb
   clear hO5 hk5 hOb
   have hps:q0p plain l best j=if plain=false∧(q21 l j).length<best.length then q21 l j else best:=rfl
   rw[hps] at HO
   clear hps
   generalize hcb:(q21 l j).length=nc at *
   have HCB:=Lib.hid hcb
   generalize hbb:best.length=nb at *
   have HBB:=Lib.hid hbb
   clear hcb hbb
   cases plain
   ·by_cases hlt2:nc<nb
    ·rw[if_pos ⟨rfl,hlt2⟩] at HO
     go_wp2_with fail
     go_roundg (9 - (j+1))
     case measure=>rw[HG.out];omega
     case rel=>exact⟨j+1,by omega,rfl,by go_num,by rw[HO.out.2.2];exact HO5.out.1,HO5.out.2⟩
    ·rw[if_neg (fun h=>hlt2 h.2)] at HO
     go_wp2_with fail
     go_roundg (9 - (j+1))
     case measure=>rw[HG.out];omega
     case rel=>exact⟨j+1,by omega,rfl,by go_num,by rw[HO.out.2.2];exact HOB.out,HO5.out.2⟩
   ·rw[if_neg (fun h=>by cases h.1)] at HO
    go_wp2_with fail
    go_roundg (9 - (j+1))
    case measure=>rw[HG.out];omega
    case rel=>exact⟨j+1,by omega,rfl,by go_num,by rw[HO.out.2.2];exact HOB.out,HO5.out.2⟩
  ·obtain rfl:j=9:=by omega
   have HF:=Lib.hid (And.intro hO hk)
   clear hO hk
   go_wp2
   go_ret
   exact⟨_,rfl,HF.out⟩
theorem qcs (pv:Value) (cs:List Nat) (n:Nat) (w:World) (hp:Sl .u8 w pv (nats cs)) (hcs:∀ x ∈ cs,x<256) (hl:cs.length≤100000000) (hn:n<18446744073709551616) :
  Calls Tryz.prog 209 #[pv,.int .u64 n] w fun e w'=>(∃ l,partV cs n=some l∧∃ b,e=.returned (.tuple #[.pointer (some ⟨b,0,none⟩),.int .i64 0])∧VecNew w b l w')∨(partV cs n=none∧e=.returned (.tuple #[.pointer none,.int .i64 3])∧Keeps (fun _=>False) w w'):=by
 obtain⟨pa,pc,rfl,hpc,hpm⟩:=hp.formY
 obtain⟨sz,hsz⟩:∃ sz,sz=(n+7) / 8:=⟨_,rfl⟩
 have hpv:partV cs n=if 134217728<n∨cs.length<sz then none else if ofPad (cs.take sz) n then some (ofB (cs.take sz) n) else none:=by unfold partV;rw[hsz]
 generalize hm:cs.length=m at *
 have HM:=Lib.hid hm
 by_cases h1:134217728<n
 ·have t1:decide ((134217728:Int)<(n:Int))=true:=decide_eq_true (by omega)
  rw[if_pos (.inl h1)] at hpv
  have HP:=Lib.hid hpv
  clear hp hcs hpv hm hsz
  go_enter Tryz.func209,Tryz.ntmps209
  go_wp2_with fail
  refine bodyPost_ret (v:=.tuple #[.pointer none,.int .i64 3]) (by simp[results,Tryz.results209,go_sem]) rfl ?_
  exact .inr ⟨HP.out,rfl,Keeps.refl _ _⟩
 ·have t1:decide ((134217728:Int)<(n:Int))=false:=decide_eq_false (by omega)
  have e1:((n:Int)+8 - 1) / 8=(sz:Int):=by omega
  have e2:((n:Int)+7) / 8=(sz:Int):=by omega
  by_cases h2:m<sz
  ·have t2:decide ((m:Int)<(sz:Int))=true:=decide_eq_true (by omega)
   rw[if_pos (.inr h2)] at hpv
   have HP:=Lib.hid hpv
   clear hp hcs hpv hm hsz
   go_enter Tryz.func209,Tryz.ntmps209
   go_wp2_with fail
   refine bodyPost_ret (v:=.tuple #[.pointer none,.int .i64 3]) (by simp[results,Tryz.results209,go_sem]) rfl ?_
   exact .inr ⟨HP.out,rfl,Keeps.refl _ _⟩
  ·have t2:decide ((m:Int)<(sz:Int))=false:=decide_eq_false (by omega)
   rw[if_neg (by omega)] at hpv
   have hsub:=hp.take sz (by rw[q02,hm];omega)
   rw[show (nats cs).take sz=nats (cs.take sz) by simp[nats]] at hsub
   have htl:(cs.take sz).length=sz:=by rw[List.length_take];omega
   have hOf:=q7h _ (cs.take sz) n w hsub (fun x hx=>hcs x (List.mem_of_mem_take hx)) (by omega) (by omega)
   have hofc:ofC (cs.take sz) n=if ofPad (cs.take sz) n then 0 else 3:=by
    have hok:ofOk (cs.take sz) n:=by unfold ofOk;rw[htl];omega
    unfold ofC
    rw[if_pos hok]
   have HP:=Lib.hid (And.intro hpv hofc)
   have hszpc:sz≤pc:=by omega
   clear hp hcs hpv hm hsz hsub htl hofc
   go_enter Tryz.func209,Tryz.ntmps209
   go_wp2_with fail
   refine hOf.mono ?_
   clear hOf
   intro e w1 h1
   rcases h1 with⟨hc,b,rfl,hV⟩|⟨hc,rfl,hk⟩
   ·have hpd:ofPad (cs.take sz) n:=by
     rw[HP.out.2] at hc
     by_cases h:ofPad (cs.take sz) n
     ·exact h
     ·rw[if_neg h] at hc;cases hc
    have HF:=Lib.hid (And.intro hpd hV)
    clear hV hc hpd
    go_wp2_with fail
    refine bodyPost_ret (v:=.tuple #[.pointer (some ⟨b,0,none⟩),.int .i64 0]) (by simp[results,Tryz.results209,go_sem]) rfl ?_
    exact .inl ⟨ofB (cs.take sz) n,by rw[HP.out.1,if_pos HF.out.1],b,rfl,HF.out.2⟩
   ·have hpd:¬ ofPad (cs.take sz) n:=fun h=>by
     rw[HP.out.2,if_pos h] at hc
     exact hc rfl
    have h3:ofC (cs.take sz) n=3:=by rw[HP.out.2,if_neg hpd]
    rw[h3]
    have HF:=Lib.hid (And.intro hpd hk)
    clear hk hc hpd h3
    go_wp2_with fail
    refine bodyPost_ret (v:=.tuple #[.pointer none,.int .i64 3]) (by simp[results,Tryz.results209,go_sem]) rfl ?_
    exact .inr ⟨by rw[HP.out.1,if_neg HF.out.1],rfl,HF.out.2⟩
theorem q60 {cs:List Nat} {n:Nat} {l:List Bool} (h:partV cs n=some l):l.length=n∧n≤134217728:=by
 unfold partV at h
 split at h
 ·cases h
 ·split at h
  ·cases h;exact⟨q9y _ _,by omega⟩
  ·cases h
theorem Sl.tailY {w:World} {g off n cap:Nat} {cs:List Nat} (h:Sl .u8 w (.slice (some ⟨g,off,none⟩) n cap) (nats cs)) (k:Nat) (hk:k≤n):Sl .u8 w (.slice (some ⟨g,off+k,none⟩) (n - k) (cap - k)) (nats (cs.drop k)):=by
 obtain⟨a',cap',hv,h1,h2,h3,h4⟩:=h
 simp only [Value.slice.injEq] at hv
 obtain⟨rfl,rfl,rfl⟩:=hv
 have e:(nats cs).length=cs.length:=by simp[nats]
 have e2:(nats (cs.drop k)).length=cs.length - k:=by simp[nats]
 rw[e] at h1 hk ⊢
 refine⟨_,cap - k,by rw[e2],by rw[e2];omega,by omega,(fun h=>by cases h),fun j z hj=>?_⟩
 have hj2:(nats cs)[k+j]? = some z:=by
  simp only [nats,List.getElem?_map,List.getElem?_drop] at hj ⊢
  exact hj
 obtain⟨g',off',hg,hc⟩:=h4 (k+j) z hj2
 simp only [Option.some.injEq,Addr.mk.injEq,and_true] at hg
 obtain⟨rfl,rfl⟩:=hg
 exact⟨g,off+k,rfl,by rw[Nat.add_assoc];exact hc⟩
theorem Sl.emptyY (w:World) (a:Option Addr):Sl .u8 w (.slice a 0 0) (nats []):=⟨a,0,rfl,by simp[nats],by decide,fun _=>rfl,fun j z hj=>by simp[nats] at hj⟩
theorem qct (pv:Value) (c0:Nat) (cs:List Nat) (n:Nat) (w:World) (hp:Sl .u8 w pv (nats (c0 :: cs))) (hcs:∀ x ∈ c0 :: cs,x<256) (hl:cs.length≤10000000) (hn:n≤1000000) (h9:c0≤9) :
  Calls Tryz.prog 181 #[pv,.int .i64 n] w fun e w'=>(∃ l,readV c0 cs n=some l∧∃ b,e=.returned (.tuple #[.pointer (some ⟨b,0,none⟩),.int .i64 0])∧VecNew w b l w')∨(readV c0 cs n=none∧∃ c:Nat,c≠0∧c<17∧e=.returned (.tuple #[.pointer none,.int .i64 c])∧Keeps (fun _=>False) w w'):=by
 obtain⟨pa,pc,rfl,hpc,hpm,_,hc⟩:=id hp
 obtain⟨g,off,rfl,hc0⟩:=hc 0 (c0:Int) rfl
 rw[Nat.add_zero] at hc0
 rw[show (nats (c0 :: cs)).length=cs.length+1 by simp[nats]] at *
 have hgn:∀ (tv:Value),Sl .u8 w tv (nats cs)→Calls Tryz.prog 151 #[tv] w fun e w'=>e=.returned (gotN (getN cs 0 0))∧Keeps (fun _=>False) w w':=fun tv h=>qa3 tv cs w h (fun x hx=>hcs x (by simp[hx]))
 have hpt:∀ (tv:Value) (k m:Nat) (W:World),Sl .u8 W tv (nats (cs.drop k))→m<18446744073709551616→Calls Tryz.prog 209 #[tv,.int .u64 m] W fun e w'=>(∃ l,partV (cs.drop k) m=some l∧∃ b,e=.returned (.tuple #[.pointer (some ⟨b,0,none⟩),.int .i64 0])∧VecNew W b l w')∨(partV (cs.drop k) m=none∧e=.returned (.tuple #[.pointer none,.int .i64 3])∧Keeps (fun _=>False) W w'):=fun tv k m W h hm=>qcs tv (cs.drop k) m W h (fun x hx=>hcs x (by simp[List.mem_of_mem_drop hx])) (by rw[List.length_drop];omega) hm
 have HX:=Lib.hid (And.intro hgn hpt)
 have HP:=Lib.hid hp
 by_cases h0:c0=0
 ·have hrv:readV 0 cs n=partV cs n:=by unfold readV;rw[if_pos rfl]
  subst h0
  have HR:=Lib.hid hrv
  have ht1:=hp.tailY 1 (by omega)
  rw[List.drop_one,List.tail_cons,Nat.add_sub_cancel] at ht1
  have hpt1:=HX.out.2 (.slice (some ⟨g,off+1,none⟩) cs.length (pc - 1)) 0 n w ht1 (by omega)
  have hpt0:pc=1→Calls Tryz.prog 209 #[.slice (some ⟨g,off,none⟩) 0 0,.int .u64 n] w fun e w'=>(∃ l,partV cs n=some l∧∃ b,e=.returned (.tuple #[.pointer (some ⟨b,0,none⟩),.int .i64 0])∧VecNew w b l w')∨(partV cs n=none∧e=.returned (.tuple #[.pointer none,.int .i64 3])∧Keeps (fun _=>False) w w'):=fun h1=>by
   obtain rfl:cs=[]:=List.eq_nil_of_length_eq_zero (by omega)
   exact HX.out.2 _ 0 n w (Sl.emptyY w _) (by omega)
  rw[List.drop_zero] at hpt1
  clear hp hcs hc hrv hgn hpt ht1 HX
  by_cases hcap:pc=1
  ·have hpt:=hpt0 hcap
   obtain rfl:cs=[]:=List.eq_nil_of_length_eq_zero (by omega)
   subst hcap
   clear hpt0 hpt1
   simp only [List.length_nil] at *
   go_enter Tryz.func181,Tryz.ntmps181
   go_wp2_with fail
   refine hpt.mono ?_
   clear hpt
   intro e w1 h1
   rcases h1 with⟨l,hl1,b,rfl,hV⟩|⟨hn1,rfl,hk⟩
   ·have HF:=Lib.hid (And.intro hl1 hV)
    clear hV hl1
    go_wp2_with fail
    refine bodyPost_ret (v:=.tuple #[.pointer (some ⟨b,0,none⟩),.int .i64 0]) (by simp[results,Tryz.results181,go_sem]) rfl ?_
    exact .inl ⟨l,by rw[HR.out];exact HF.out.1,b,rfl,HF.out.2⟩
   ·have HF:=Lib.hid (And.intro hn1 hk)
    clear hk hn1
    go_wp2_with fail
    refine bodyPost_ret (v:=.tuple #[.pointer none,.int .i64 3]) (by simp[results,Tryz.results181,go_sem]) rfl ?_
    exact .inr ⟨by rw[HR.out];exact HF.out.1,3,by decide,by decide,rfl,HF.out.2⟩
  ·clear hpt0
   go_enter Tryz.func181,Tryz.ntmps181
   go_wp2_with fail
   refine hpt1.mono ?_
   clear hpt1
   intro e w1 h1
   rcases h1 with⟨l,hl1,b,rfl,hV⟩|⟨hn1,rfl,hk⟩
   ·have HF:=Lib.hid (And.intro hl1 hV)
    clear hV hl1
    go_wp2_with fail
    refine bodyPost_ret (v:=.tuple #[.pointer (some ⟨b,0,none⟩),.int .i64 0]) (by simp[results,Tryz.results181,go_sem]) rfl ?_
    exact .inl ⟨l,by rw[HR.out];exact HF.out.1,b,rfl,HF.out.2⟩
   ·have HF:=Lib.hid (And.intro hn1 hk)
    clear hk hn1
    go_wp2_with fail
    refine bodyPost_ret (v:=.tuple #[.pointer none,.int .i64 3]) (by simp[results,Tryz.results181,go_sem]) rfl ?_
    exact .inr ⟨by rw[HR.out];exact HF.out.1,3,by decide,by decide,rfl,HF.out.2⟩
 ·have t0:((c0:Int) == 0)=false:=by rw[beq_eq_false_iff_ne];omega
  have hHL:∀ k F,partV (cs.drop k) F=partV (cs.drop k) F:=fun _ _=>rfl
  by_cases hcap:pc=1
  ·obtain rfl:cs=[]:=List.eq_nil_of_length_eq_zero (by omega)
   have hG:=hgn _ (Sl.emptyY w (some ⟨g,off,none⟩))
   have hgv:getN [] 0 0=none:=rfl
   subst hcap
   clear hp hcs hc hgn hpt HX
   simp only [List.length_nil] at *
   go_enter Tryz.func181,Tryz.ntmps181
   go_wp2_with fail
   refine hG.mono ?_
   clear hG
   rintro e w1 ⟨rfl,hk1⟩
   have HK2:=Lib.hid hk1
   clear hk1
   rw[hgv]
   unfold gotN
   simp only
   have HZ:Hid (readV c0 [] n=none):=Lib.hid (by unfold readV;rw[if_neg h0,hgv])
   clear hgv
   go_wp2_with fail
   refine bodyPost_ret (v:=.tuple #[.pointer none,.int .i64 3]) (by simp[results,Tryz.results181,go_sem]) rfl ?_
   exact .inr ⟨HZ.out,3,by decide,by decide,rfl,HK2.out⟩
  ·have ht1:=hp.tailY 1 (by omega)
   rw[List.drop_one,List.tail_cons,Nat.add_sub_cancel] at ht1
   have hG:=hgn _ ht1
   clear hcs hc hgn hpt ht1
   cases hgv:getN cs 0 0 with
   | none =>
    rw[hgv] at hG
    unfold gotN at hG
    simp only at hG
    clear hp HX
    go_enter Tryz.func181,Tryz.ntmps181
    go_wp2_with fail
    refine hG.mono ?_
    clear hG
    rintro e w1 ⟨rfl,hk1⟩
    have HK2:=Lib.hid hk1
    clear hk1
    have HZ:Hid (readV c0 cs n=none):=Lib.hid (by unfold readV;rw[if_neg h0,hgv])
    clear hgv
    go_wp2_with fail
    refine bodyPost_ret (v:=.tuple #[.pointer none,.int .i64 3]) (by simp[results,Tryz.results181,go_sem]) rfl ?_
    exact .inr ⟨HZ.out,3,by decide,by decide,rfl,HK2.out⟩
   | some xu =>
    obtain⟨sz,u⟩:=xu
    rw[hgv] at hG
    unfold gotN at hG
    simp only at hG
    obtain⟨hsz,hu⟩:=qix hgv
    have HG:=Lib.hid hgv
    have HL:=Lib.hid (And.intro hu (show ∀ F,partV (cs.drop u) sz=some F→F.length≤100000000 from fun F hF=>by
     obtain⟨h1,h2⟩:=q60 hF
     have h3:(sz+7) / 8≤(cs.drop u).length:=by
      unfold partV at hF
      split at hF
      ·cases hF
      ·omega
     rw[List.length_drop] at h3
     omega))
    have ht2:=hp.tailY (1+u) (by omega)
    have hdr:(c0 :: cs).drop (1+u)=cs.drop u:=by rw[Nat.add_comm];rfl
    rw[hdr] at ht2
    have HT:=Lib.hid ht2
    clear hgv hp ht2 hdr
    obtain⟨u1,hu1⟩:∃ u1,u1=1+u:=⟨_,rfl⟩
    have hix:(1:Int)+(u:Int)=(u1:Int):=by omega
    rw[← hu1] at HT
    obtain⟨N,hN⟩:∃ N,N=cs.length+1:=⟨_,rfl⟩
    have hu1N:u1≤N:=by omega
    rw[← hN] at HT hpc
    rw[← hN]
    have hNb:N≤10000001:=by omega
    have hN1:cs.length=N - 1:=by omega
    rw[hN1] at hG
    have HU:=Lib.hid (And.intro hu1 hN)
    clear hu1 hN hN1 hl hu hHL
    go_enter Tryz.func181,Tryz.ntmps181
    go_wp2_with fail
    refine hG.mono ?_
    clear hG
    rintro e w1 ⟨rfl,hk1⟩
    have HK2:=Lib.hid hk1
    clear hk1
    go_wp2_with fail
    ·have hcl:cs.length=u:=by have:=HU.out;have:=HL.out.1;omega
     have hs:Sl .u8 w1 (.slice (some ⟨g,off,none⟩) (N - u1) 0) (nats (cs.drop u)):=by
      rw[List.drop_of_length_le (by omega),show N - u1=0 by omega]
      exact Sl.emptyY w1 _
     have hPt:=HX.out.2 _ u sz w1 hs hsz
     clear hs hcl
     refine hPt.mono ?_
     clear hPt
     intro e w3 h3
     rcases h3 with⟨F,hF1,b,rfl,v2,hV,hb,hvo,hk3⟩|⟨hn1,rfl,hk3⟩
     ·obtain⟨hFl,hFn⟩:=q60 hF1
      have hDc:=q3z b v2 F n (c0 - 1) w3 hV (by exact HL.out.2 _ hF1) hn (by omega)
      have HF:=Lib.hid (And.intro hF1 (HK2.out.trans hk3 (fun _ _ h=>h)))
      have d0:w3.cell? ⟨g,off,none⟩=some (.int .u8 c0):=by
       rw[World.cell?_of_block (w:=w) (HF.out.2.block g (World.block_lt_of_cell? _ _ hc0) (fun h=>h))]
       exact hc0
      have hcm:((c0 - 1:Nat):Int)=(c0:Int) - 1:=by omega
      rw[hcm] at hDc
      clear hV hb hvo hk3 hF1 hFl hFn hcm
      go_wp2_with fail
      refine hDc.mono ?_
      clear hDc
      intro e w4 h4
      rcases h4 with⟨he,b4,rfl,v4,hV4,hb4,hvo4,hk4⟩|⟨he,rfl,hk4⟩
      ·have HZ:Hid (readV c0 cs n=some (decK (c0 - 1) n F)∧VecNew w b4 (decK (c0 - 1) n F) w4):=Lib.hid ⟨by
        unfold readV
        rw[if_neg h0,HG.out]
        simp only
        rw[HF.out.1]
        simp only
        rw[if_pos he],v4,hV4,Nat.le_trans HF.out.2.size hb4,fun q hq=>Nat.le_trans HF.out.2.size (hvo4 q hq),HF.out.2.trans hk4 (fun _ _ h=>h)⟩
       clear he hV4 hb4 hvo4 hk4
       go_wp2_with fail
       refine bodyPost_ret (v:=.tuple #[.pointer (some ⟨b4,0,none⟩),.int .i64 0]) (by simp[results,Tryz.results181,go_sem]) rfl ?_
       exact .inl ⟨_,HZ.out.1,b4,rfl,HZ.out.2⟩
      ·have HZ:Hid (readV c0 cs n=none∧Keeps (fun _=>False) w w4):=Lib.hid ⟨by
        unfold readV
        rw[if_neg h0,HG.out]
        simp only
        rw[HF.out.1]
        simp only
        rw[if_neg he],HF.out.2.trans hk4 (fun _ _ h=>h)⟩
       clear he hk4
       go_wp2_with fail
       refine bodyPost_ret (v:=.tuple #[.pointer none,.int .i64 10]) (by simp[results,Tryz.results181,go_sem]) rfl ?_
       exact .inr ⟨HZ.out.1,10,by decide,by decide,rfl,HZ.out.2⟩
     ·have HZ:Hid (readV c0 cs n=none∧Keeps (fun _=>False) w w3):=Lib.hid ⟨by
        unfold readV
        rw[if_neg h0,HG.out]
        simp only
        rw[hn1],HK2.out.trans hk3 (fun _ _ h=>h)⟩
      clear hn1 hk3
      go_wp2_with fail
      refine bodyPost_ret (v:=.tuple #[.pointer none,.int .i64 3]) (by simp[results,Tryz.results181,go_sem]) rfl ?_
      exact .inr ⟨HZ.out.1,3,by decide,by decide,rfl,HZ.out.2⟩
    ·have hPt:=HX.out.2 _ u sz w1 (HT.out.keeps HK2.out (fun _ _ h=>h)) hsz
     refine hPt.mono ?_
     clear hPt
     intro e w3 h3
     rcases h3 with⟨F,hF1,b,rfl,v2,hV,hb,hvo,hk3⟩|⟨hn1,rfl,hk3⟩
     ·obtain⟨hFl,hFn⟩:=q60 hF1
      have hDc:=q3z b v2 F n (c0 - 1) w3 hV (by exact HL.out.2 _ hF1) hn (by omega)
      have HF:=Lib.hid (And.intro hF1 (HK2.out.trans hk3 (fun _ _ h=>h)))
      have d0:w3.cell? ⟨g,off,none⟩=some (.int .u8 c0):=by
       rw[World.cell?_of_block (w:=w) (HF.out.2.block g (World.block_lt_of_cell? _ _ hc0) (fun h=>h))]
       exact hc0
      have hcm:((c0 - 1:Nat):Int)=(c0:Int) - 1:=by omega
      rw[hcm] at hDc
      clear hV hb hvo hk3 hF1 hFl hFn hcm
      go_wp2_with fail
      refine hDc.mono ?_
      clear hDc
      intro e w4 h4
      rcases h4 with⟨he,b4,rfl,v4,hV4,hb4,hvo4,hk4⟩|⟨he,rfl,hk4⟩
      ·have HZ:Hid (readV c0 cs n=some (decK (c0 - 1) n F)∧VecNew w b4 (decK (c0 - 1) n F) w4):=Lib.hid ⟨by
        unfold readV
        rw[if_neg h0,HG.out]
        simp only
        rw[HF.out.1]
        simp only
        rw[if_pos he],v4,hV4,Nat.le_trans HF.out.2.size hb4,fun q hq=>Nat.le_trans HF.out.2.size (hvo4 q hq),HF.out.2.trans hk4 (fun _ _ h=>h)⟩
       clear he hV4 hb4 hvo4 hk4
       go_wp2_with fail
       refine bodyPost_ret (v:=.tuple #[.pointer (some ⟨b4,0,none⟩),.int .i64 0]) (by simp[results,Tryz.results181,go_sem]) rfl ?_
       exact .inl ⟨_,HZ.out.1,b4,rfl,HZ.out.2⟩
      ·have HZ:Hid (readV c0 cs n=none∧Keeps (fun _=>False) w w4):=Lib.hid ⟨by
        unfold readV
        rw[if_neg h0,HG.out]
        simp only
        rw[HF.out.1]
        simp only
        rw[if_neg he],HF.out.2.trans hk4 (fun _ _ h=>h)⟩
       clear he hk4
       go_wp2_with fail
       refine bodyPost_ret (v:=.tuple #[.pointer none,.int .i64 10]) (by simp[results,Tryz.results181,go_sem]) rfl ?_
       exact .inr ⟨HZ.out.1,10,by decide,by decide,rfl,HZ.out.2⟩
     ·have HZ:Hid (readV c0 cs n=none∧Keeps (fun _=>False) w w3):=Lib.hid ⟨by
        unfold readV
        rw[if_neg h0,HG.out]
        simp only
        rw[hn1],HK2.out.trans hk3 (fun _ _ h=>h)⟩
      clear hn1 hk3
      go_wp2_with fail
      refine bodyPost_ret (v:=.tuple #[.pointer none,.int .i64 3]) (by simp[results,Tryz.results181,go_sem]) rfl ?_
      exact .inr ⟨HZ.out.1,3,by decide,by decide,rfl,HZ.out.2⟩
end Go.Proofs.YtcfdpogegngplaaGreat
