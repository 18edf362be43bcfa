import Derived.Test.YtcfdpogegngplaaGreatZg10
set_option maxRecDepth 100000
set_option maxHeartbeats 4000000
namespace Go.Proofs.YtcfdpogegngplaaGreat
open Go.RowKit
theorem bB.IX(w:World)(z:Nat):bB w.heap.size (w.alloc (.cells #[.int .u8 (z:Int)] 5)) (.slice (some ⟨w.heap.size,0,none⟩) 1 1) [z] :=
 World.ownsRow_lit (base:=w.heap.size) (e:=5) (size:=1) w #[.int .u8 z] 1 (Nat.le_refl _) (by unfold maxLen;omega) rfl
theorem qbh(bp:Nat)(pv:Value)(l:List Bool)(k:Nat)(w:World)(hv:aK w bp pv l)(hl:l.length≤1000000)(hk:k≤8) :
  Calls Tryz.prog 138 #[.pointer (some ⟨bp,0,none⟩),.int .i64 k] w fun e w'=>∃ v,e=.returned v∧bB w.heap.size w' v (rV l k)∧Keeps (fun _=>False) w w':=by
 have uV:=q4e bp pv l k w hv hl hk
 have hlen:=Sm k l
 clear hv
 go_enter Tryz.func138,Tryz.ntmps138
 go_wp2_with fail
 refine uV.mono ?_
 clear uV
 rintro e w1 ⟨bo,vo,rfl,hV,mO,o8,hk1⟩
 have ka:=(Keeps.refl (fun _=>False) w1).alloc (.cells #[.int .u8 ((k+1:Nat):Int)] 5)
 have hlit:=bB.IX w1 (k+1)
 have SA:=hV.keeps ka (fun h=>h) (fun _ _ h=>h)
 have e1:((k+1:Nat):Int)=(k:Int)+1:=by omega
 rw[e1] at ka hlit SA
 have hLn:=rY bo vo (fU k l) _ SA
 have e2:IntKind.u8.wrap ((k:Int)+1)=(k:Int)+1:=by rw[IntKind.wrap_u8];omega
 have rQ:=Sn (.slice (some ⟨w1.heap.size,0,none⟩) 1 1) [k+1] (fU k l).length _ hlit.sl (by simp) (by omega)
 have HA:=ah (aj (hk1.trans ka (fun _ _ h=>h)) (aj SA hlit))
 have HL:Hid ((fU k l).length≤100000000):=ah (by omega)
 have HS:=ah (show w.heap.size≤w1.heap.size from hk1.size)
 have vO:(fU k l).length≤100000000:=by omega
 clear hV mO o8 hk1 ka hlit SA e1 hlen
 generalize hn:(fU k l).length=n at *
 have HN:=ah hn
 clear hn
 go_wp2_with fail
 refine hLn.mono ?_
 clear hLn
 rintro e w2 ⟨rfl,rfl⟩
 go_wp2_with fail
 refine rQ.mono ?_
 clear rQ
 rintro e w2 ⟨v2,rfl,hO2,hk2⟩
 have hV2:=HA.out.2.1.keeps hk2 (fun h=>h) (fun _ _ h=>h)
 have Fz:=Xp bo vo (fU k l) w2 hV2 (by rw[HN.out];exact HL.out)
 have H2:Hid (bB w.heap.size w2 v2 ([k+1] ++ jf n)∧Keeps (fun _=>False) w w2):=ah ⟨hO2.mono (fun q hq=>by have:=(hO2.lt q hq).1;have:=HS.out;simp at *;omega),HA.out.1.trans hk2 (fun _ _ h=>h)⟩
 clear hO2 hk2 hV2
 go_wp2_with fail
 refine Fz.mono ?_
 clear Fz
 rintro e w3 ⟨v3,rfl,hO3,hk3⟩
 have hO2:=H2.out.1.keeps hk3 (fun _ _ h=>h)
 have Xz:=H2.out.2.trans hk3 (fun _ _ h=>h)
 have hsz:=Xz.size
 have hol:(bI (fU k l)).length≤100000000:=by rw[uS,HN.out];omega
 have hvl:([k+1] ++ jf n).length≤100:=by
  have:=xU (x:=n) (by omega)
  simp;omega
 have OT:=hO3.sl
 have HK:=ah Xz
 clear hk3 Xz hO3
 go_wp2_with (at_builtin;refine WZ rfl _ _ rfl w.heap.size v2 v3 ([k+1] ++ jf n) (bI (fU k l)) rfl rfl hO2 OT (by omega) hsz ?_;intro v4 w4 hO4 hk4 hat)
 have HF:Hid (bB w.heap.size w4 v4 (rV l k)∧Keeps (fun _=>False) w w4):=ah ⟨by
  unfold rV
  rw[HN.out]
  exact hO4,HK.out.trans hk4 (fun x hx e=>by have:=(hO2.lt x e).1;omega)⟩
 clear hO4 hk4 hat hO2 OT
 go_wp2
 go_ret
 exact⟨_,rfl,HF.out⟩
theorem qhl(l:List Bool){k:Nat}(hl:l.length≤1000000):(rV l k).length≤10000000:=by
 have h1:=Sm k l
 have h2:=xU (x:=(fU k l).length) (by omega)
 unfold rV
 rw[List.length_cons,List.length_append,uS]
 omega
theorem XA(bp:Nat)(pv:Value)(l:List Bool)(plain:Bool)(w:World)(hv:aK w bp pv l)(hl:l.length≤1000000) :
  Calls Tryz.prog 100 #[.pointer (some ⟨bp,0,none⟩),.bool plain] w fun e w'=>∃ v,e=.returned v∧bB w.heap.size w' v (bE plain l)∧Keeps (fun _=>False) w w':=by
 have hnot:∀ (x:Bool) (w:World),(Op.unary .not (.bool x)).run Tryz.prog w=.ok (.bool (!x)) w:=fun _ _=>rfl
 have HV:Hid (∀ W,Keeps (fun _=>False) w W→aK W bp pv l):=ah (fun W hk=>hv.keeps hk (fun h=>h) (fun _ _ h=>h))
 have ka:=(Keeps.refl (fun _=>False) w).alloc (.cells #[.int .u8 ((0:Nat):Int)] 5)
 have hlit:=bB.IX w 0
 have Fz:=Xp bp pv l _ (HV.out _ ka) (by omega)
 have HA:=ah (aj ka hlit)
 clear hv ka hlit
 go_enter Tryz.func100,Tryz.ntmps100
 go_wp2_with fail
 refine Fz.mono ?_
 clear Fz
 rintro e w1 ⟨v1,rfl,zh,hk1⟩
 have Cc:=(HA.out.2.keeps hk1 (fun _ _ h=>h))
 have xH:=HA.out.1.trans hk1 (fun _ _ h=>h)
 have hsz:=xH.size
 have hol:(bI l).length≤1000000:=by rw[uS];omega
 have OU:=zh.sl
 have HK:=ah xH
 clear hk1 xH zh HA
 go_wp2_with (at_builtin;refine WZ rfl _ _ rfl w.heap.size (.slice (some ⟨w.heap.size,0,none⟩) 1 1) v1 [0] (bI l) rfl rfl Cc OU (by simp;omega) hsz ?_;intro v2 w2 hO2 hk2 hat)
 have h0:bB w.heap.size w2 v2 ((List.range 0).foldl (pO plain l) (0 :: bI l))∧Keeps (fun _=>False) w w2:=⟨hO2,HK.out.trans hk2 (fun x hx e=>by have:=(Cc.lt x e).1;omega)⟩
 have H0:=ah h0
 clear hO2 hk2 hat Cc OU h0
 go_wp2_with fail
 go_loopg [5,12] 9 (fun mu bv iv wr=>∃ j:Nat,j≤9∧mu=9 - j∧iv=.int .i64 j∧bB w.heap.size wr bv ((List.range j).foldl (pO plain l) (0 :: bI l))∧Keeps (fun _=>False) w wr)
 case atStart=>exact⟨0,by omega,rfl,rfl,H0.out⟩
 case round =>
  clear H0
  obtain⟨j,hj,aN,rfl,hO,hk⟩:=hrel
  have HG:=ah aN
  clear aN
  obtain⟨ba,bc,rfl,hb1,hb2⟩:=hO.form
  by_cases hlt:j<9
  ·have IY:=qbh bp pv l j wr (HV.out wr hk) hl (by omega)
   have hst:(List.range (j+1)).foldl (pO plain l) (0 :: bI l)=pO plain l ((List.range j).foldl (pO plain l) (0 :: bI l)) j:=by rw[List.range_succ,List.foldl_append];rfl
   generalize (List.range j).foldl (pO plain l) (0 :: bI l)=best at *
   have hcl:=qhl l (k:=j) hl
   have HO:=ah (aj hO (aj hk hst))
   clear hO hk hst
   go_wp2_with fail
   refine IY.mono ?_
   clear IY
   rintro e w5 ⟨v5,rfl,Bc,hk5⟩
   obtain⟨ca,cc,rfl,hc1,hc2⟩:=Bc.form
   have hsw:=HO.out.2.1.size
   have SB:Hid (bB w.heap.size w5 (.slice ca (rV l j).length cc) (rV l j)∧Keeps (fun _=>False) w w5):=ah ⟨Bc.mono (fun q hq=>by have:=(Bc.lt q hq).1;omega),HO.out.2.1.trans hk5 (fun _ _ h=>h)⟩
   have hOb:=HO.out.1.keeps hk5 (fun _ _ h=>h)
   have IZ:=ah hOb
   clear Bc hk5 hOb
   have hps:pO plain l best j=if plain=false∧(rV l j).length<best.length then rV l j else best:=rfl
   rw[hps] at HO
   clear hps
   generalize hcb:(rV l j).length=nc at *
   have HCB:=ah hcb
   generalize hbb:best.length=nb at *
   have SC:=ah hbb
   clear hcb hbb
   cases plain
   ·by_cases hlt2:nc<nb
    ·rw[if_pos ⟨rfl,hlt2⟩] at HO
     go_wp2_with fail
     go_roundg (9 - (j+1))
     case measure=>rw[HG.out];omega
     case rel=>exact⟨j+1,by omega,rfl,by go_num,by rw[HO.out.2.2];exact SB.out.1,SB.out.2⟩
    ·rw[if_neg (fun h=>hlt2 h.2)] at HO
     go_wp2_with fail
     go_roundg (9 - (j+1))
     case measure=>rw[HG.out];omega
     case rel=>exact⟨j+1,by omega,rfl,by go_num,by rw[HO.out.2.2];exact IZ.out,SB.out.2⟩
   ·rw[if_neg (fun h=>by cases h.1)] at HO
    go_wp2_with fail
    go_roundg (9 - (j+1))
    case measure=>rw[HG.out];omega
    case rel=>exact⟨j+1,by omega,rfl,by go_num,by rw[HO.out.2.2];exact IZ.out,SB.out.2⟩
  ·obtain rfl:j=9:=by omega
   have HF:=ah (aj hO hk)
   clear hO hk
   go_wp2
   go_ret
   exact⟨_,rfl,HF.out⟩
theorem qdn(pv:Value)(cs:List Nat)(n:Nat)(w:World)(hp:Sl .u8 w pv (aB cs))(hcs:∀ x ∈ cs,x<256)(hl:cs.length≤100000000)(hn:n<18446744073709551616) :
  Calls Tryz.prog 209 #[pv,.int .u64 n] w fun e w'=>(∃ l,gG cs n=some l∧∃ b,e=.returned (.tuple #[.pointer (some ⟨b,0,none⟩),.int .i64 0])∧aY w b l w')∨(gG cs n=none∧e=.returned (.tuple #[.pointer none,.int .i64 3])∧Keeps (fun _=>False) w w'):=by
 obtain⟨pa,pc,rfl,hpc,hpm⟩:=hp.kP
 obtain⟨sz,hsz⟩:∃ sz,sz=(n+7) / 8:=⟨_,rfl⟩
 have hpv:gG cs n=if 134217728<n∨cs.length<sz then none else if ko (cs.take sz) n then some (uT (cs.take sz) n) else none:=by unfold gG;rw[hsz]
 generalize hm:cs.length=m at *
 have HM:=ah hm
 by_cases h1:134217728<n
 ·have t1:decide ((134217728:Int)<(n:Int))=true:=decide_eq_true (by omega)
  rw[if_pos (.inl h1)] at hpv
  have HP:=ah hpv
  clear hp hcs hpv hm hsz
  go_enter Tryz.func209,Tryz.ntmps209
  go_wp2_with fail
  refine bodyPost_ret (v:=.tuple #[.pointer none,.int .i64 3]) (by simp[results,Tryz.results209,go_sem]) rfl ?_
  exact .inr ⟨HP.out,rfl,Keeps.refl _ _⟩
 ·have t1:decide ((134217728:Int)<(n:Int))=false:=decide_eq_false (by omega)
  have e1:((n:Int)+8 - 1) / 8=(sz:Int):=by omega
  have e2:((n:Int)+7) / 8=(sz:Int):=by omega
  by_cases h2:m<sz
  ·have t2:decide ((m:Int)<(sz:Int))=true:=decide_eq_true (by omega)
   rw[if_pos (.inr h2)] at hpv
   have HP:=ah hpv
   clear hp hcs hpv hm hsz
   go_enter Tryz.func209,Tryz.ntmps209
   go_wp2_with fail
   refine bodyPost_ret (v:=.tuple #[.pointer none,.int .i64 3]) (by simp[results,Tryz.results209,go_sem]) rfl ?_
   exact .inr ⟨HP.out,rfl,Keeps.refl _ _⟩
  ·have t2:decide ((m:Int)<(sz:Int))=false:=decide_eq_false (by omega)
   rw[if_neg (by omega)] at hpv
   have hsub:=hp.take sz (by rw[q01,hm];omega)
   rw[show (aB cs).take sz=aB (cs.take sz) by simp[aB]] at hsub
   have htl:(cs.take sz).length=sz:=by rw[List.length_take];omega
   have BF:=q7o _ (cs.take sz) n w hsub (fun x hx=>hcs x (List.mem_of_mem_take hx)) (by omega) (by omega)
   have OV:wu (cs.take sz) n=if ko (cs.take sz) n then 0 else 3:=by
    have hok:rC (cs.take sz) n:=by unfold rC;rw[htl];omega
    unfold wu
    rw[if_pos hok]
   have HP:=ah (aj hpv OV)
   have ac5:sz≤pc:=by omega
   clear hp hcs hpv hm hsz hsub htl OV
   go_enter Tryz.func209,Tryz.ntmps209
   go_wp2_with fail
   refine BF.mono ?_
   clear BF
   intro e w1 h1
   rcases h1 with⟨hc,b,rfl,hV⟩|⟨hc,rfl,hk⟩
   ·have Dz:ko (cs.take sz) n:=by
     rw[HP.out.2] at hc
     by_cases h:ko (cs.take sz) n
     ·exact h
     ·rw[if_neg h] at hc;cases hc
    have HF:=ah (aj Dz hV)
    clear hV hc Dz
    go_wp2_with fail
    refine bodyPost_ret (v:=.tuple #[.pointer (some ⟨b,0,none⟩),.int .i64 0]) (by simp[results,Tryz.results209,go_sem]) rfl ?_
    exact .inl ⟨uT (cs.take sz) n,by rw[HP.out.1,if_pos HF.out.1],b,rfl,HF.out.2⟩
   ·have Dz:¬ ko (cs.take sz) n:=fun h=>by
     rw[HP.out.2,if_pos h] at hc
     exact hc rfl
    have h3:wu (cs.take sz) n=3:=by rw[HP.out.2,if_neg Dz]
    rw[h3]
    have HF:=ah (aj Dz hk)
    clear hk hc Dz h3
    go_wp2_with fail
    refine bodyPost_ret (v:=.tuple #[.pointer none,.int .i64 3]) (by simp[results,Tryz.results209,go_sem]) rfl ?_
    exact .inr ⟨by rw[HP.out.1,if_neg HF.out.1],rfl,HF.out.2⟩
theorem SE{cs:List Nat}{n:Nat}{l:List Bool}(h:gG cs n=some l):l.length=n∧n≤134217728:=by
 unfold gG at h
 split at h
 ·cases h
 ·split at h
  ·cases h;exact⟨qag _ _,by omega⟩
  ·cases h
theorem Sl.oL{w:World}{g off n cap:Nat}{cs:List Nat}(h:Sl .u8 w (.slice (some ⟨g,off,none⟩) n cap) (aB cs))(k:Nat)(hk:k≤n):Sl .u8 w (.slice (some ⟨g,off+k,none⟩) (n - k) (cap - k)) (aB (cs.drop k)):=by
 obtain⟨a',cap',hv,h1,h2,h3,h4⟩:=h
 simp only [Value.slice.injEq] at hv
 obtain⟨rfl,rfl,rfl⟩:=hv
 have e:(aB cs).length=cs.length:=by simp[aB]
 have e2:(aB (cs.drop k)).length=cs.length - k:=by simp[aB]
 rw[e] at h1 hk ⊢
 refine⟨_,cap - k,by rw[e2],by rw[e2];omega,by omega,(fun h=>by cases h),fun j z hj=>?_⟩
 have hj2:(aB cs)[k+j]? = some z:=by
  simp only [aB,List.getElem?_map,List.getElem?_drop] at hj ⊢
  exact hj
 obtain⟨g',off',hg,hc⟩:=h4 (k+j) z hj2
 simp only [Option.some.injEq,Addr.mk.injEq,and_true] at hg
 obtain⟨rfl,rfl⟩:=hg
 exact⟨g,off+k,rfl,by rw[Nat.add_assoc];exact hc⟩
theorem Sl.oM(w:World)(a:Option Addr):Sl .u8 w (.slice a 0 0) (aB []):=⟨a,0,rfl,by simp[aB],by decide,fun _=>rfl,fun j z hj=>by simp[aB] at hj⟩
theorem qdo(pv:Value)(c0:Nat)(cs:List Nat)(n:Nat)(w:World)(hp:Sl .u8 w pv (aB (c0 :: cs)))(hcs:∀ x ∈ c0 :: cs,x<256)(hl:cs.length≤10000000)(hn:n≤1000000)(h9:c0≤9) :
  Calls Tryz.prog 181 #[pv,.int .i64 n] w fun e w'=>(∃ l,dz c0 cs n=some l∧∃ b,e=.returned (.tuple #[.pointer (some ⟨b,0,none⟩),.int .i64 0])∧aY w b l w')∨(dz c0 cs n=none∧∃ c:Nat,c≠0∧c<17∧e=.returned (.tuple #[.pointer none,.int .i64 c])∧Keeps (fun _=>False) w w'):=by
 obtain⟨pa,pc,rfl,hpc,hpm,_,hc⟩:=id hp
 obtain⟨g,off,rfl,hc0⟩:=hc 0 (c0:Int) rfl
 rw[Nat.add_zero] at hc0
 rw[show (aB (c0 :: cs)).length=cs.length+1 by simp[aB]] at *
 have hgn:∀ (tv:Value),Sl .u8 w tv (aB cs)→Calls Tryz.prog 151 #[tv] w fun e w'=>e=.returned (uW (jo cs 0 0))∧Keeps (fun _=>False) w w':=fun tv h=>qad tv cs w h (fun x hx=>hcs x (by simp[hx]))
 have hpt:∀ (tv:Value) (k m:Nat) (W:World),Sl .u8 W tv (aB (cs.drop k))→m<18446744073709551616→Calls Tryz.prog 209 #[tv,.int .u64 m] W fun e w'=>(∃ l,gG (cs.drop k) m=some l∧∃ b,e=.returned (.tuple #[.pointer (some ⟨b,0,none⟩),.int .i64 0])∧aY W b l w')∨(gG (cs.drop k) m=none∧e=.returned (.tuple #[.pointer none,.int .i64 3])∧Keeps (fun _=>False) W w'):=fun tv k m W h hm=>qdn tv (cs.drop k) m W h (fun x hx=>hcs x (by simp[List.mem_of_mem_drop hx])) (by rw[List.length_drop];omega) hm
 have HX:=ah (aj hgn hpt)
 have HP:=ah hp
 by_cases h0:c0=0
 ·have XB:dz 0 cs n=gG cs n:=by unfold dz;rw[if_pos rfl]
  subst h0
  have HR:=ah XB
  have ht1:=hp.oL 1 (by omega)
  rw[List.drop_one,List.tail_cons,Nat.add_sub_cancel] at ht1
  have DF:=HX.out.2 (.slice (some ⟨g,off+1,none⟩) cs.length (pc - 1)) 0 n w ht1 (by omega)
  have I4:pc=1→Calls Tryz.prog 209 #[.slice (some ⟨g,off,none⟩) 0 0,.int .u64 n] w fun e w'=>(∃ l,gG cs n=some l∧∃ b,e=.returned (.tuple #[.pointer (some ⟨b,0,none⟩),.int .i64 0])∧aY w b l w')∨(gG cs n=none∧e=.returned (.tuple #[.pointer none,.int .i64 3])∧Keeps (fun _=>False) w w'):=fun h1=>by
   obtain rfl:cs=[]:=List.eq_nil_of_length_eq_zero (by omega)
   exact HX.out.2 _ 0 n w (Sl.oM w _) (by omega)
  rw[List.drop_zero] at DF
  clear hp hcs hc XB hgn hpt ht1 HX
  by_cases hcap:pc=1
  ·have hpt:=I4 hcap
   obtain rfl:cs=[]:=List.eq_nil_of_length_eq_zero (by omega)
   subst hcap
   clear I4 DF
   simp only [List.length_nil] at *
   go_enter Tryz.func181,Tryz.ntmps181
   go_wp2_with fail
   refine hpt.mono ?_
   clear hpt
   intro e w1 h1
   rcases h1 with⟨l,hl1,b,rfl,hV⟩|⟨hn1,rfl,hk⟩
   ·have HF:=ah (aj hl1 hV)
    clear hV hl1
    go_wp2_with fail
    refine bodyPost_ret (v:=.tuple #[.pointer (some ⟨b,0,none⟩),.int .i64 0]) (by simp[results,Tryz.results181,go_sem]) rfl ?_
    exact .inl ⟨l,by rw[HR.out];exact HF.out.1,b,rfl,HF.out.2⟩
   ·have HF:=ah (aj hn1 hk)
    clear hk hn1
    go_wp2_with fail
    refine bodyPost_ret (v:=.tuple #[.pointer none,.int .i64 3]) (by simp[results,Tryz.results181,go_sem]) rfl ?_
    exact .inr ⟨by rw[HR.out];exact HF.out.1,3,by decide,by decide,rfl,HF.out.2⟩
  ·clear I4
   go_enter Tryz.func181,Tryz.ntmps181
   go_wp2_with fail
   refine DF.mono ?_
   clear DF
   intro e w1 h1
   rcases h1 with⟨l,hl1,b,rfl,hV⟩|⟨hn1,rfl,hk⟩
   ·have HF:=ah (aj hl1 hV)
    clear hV hl1
    go_wp2_with fail
    refine bodyPost_ret (v:=.tuple #[.pointer (some ⟨b,0,none⟩),.int .i64 0]) (by simp[results,Tryz.results181,go_sem]) rfl ?_
    exact .inl ⟨l,by rw[HR.out];exact HF.out.1,b,rfl,HF.out.2⟩
   ·have HF:=ah (aj hn1 hk)
    clear hk hn1
    go_wp2_with fail
    refine bodyPost_ret (v:=.tuple #[.pointer none,.int .i64 3]) (by simp[results,Tryz.results181,go_sem]) rfl ?_
    exact .inr ⟨by rw[HR.out];exact HF.out.1,3,by decide,by decide,rfl,HF.out.2⟩
 ·have t0:((c0:Int) == 0)=false:=by rw[beq_eq_false_iff_ne];omega
  have hHL:∀ k F,gG (cs.drop k) F=gG (cs.drop k) F:=fun _ _=>rfl
  by_cases hcap:pc=1
  ·obtain rfl:cs=[]:=List.eq_nil_of_length_eq_zero (by omega)
   have hG:=hgn _ (Sl.oM w (some ⟨g,off,none⟩))
   have hgv:jo [] 0 0=none:=rfl
   subst hcap
   clear hp hcs hc hgn hpt HX
   simp only [List.length_nil] at *
   go_enter Tryz.func181,Tryz.ntmps181
   go_wp2_with fail
   refine hG.mono ?_
   clear hG
   rintro e w1 ⟨rfl,hk1⟩
   have rZ:=ah hk1
   clear hk1
   rw[hgv]
   unfold uW
   simp only
   have HZ:Hid (dz c0 [] n=none):=ah (by unfold dz;rw[if_neg h0,hgv])
   clear hgv
   go_wp2_with fail
   refine bodyPost_ret (v:=.tuple #[.pointer none,.int .i64 3]) (by simp[results,Tryz.results181,go_sem]) rfl ?_
   exact .inr ⟨HZ.out,3,by decide,by decide,rfl,rZ.out⟩
  ·have ht1:=hp.oL 1 (by omega)
   rw[List.drop_one,List.tail_cons,Nat.add_sub_cancel] at ht1
   have hG:=hgn _ ht1
   clear hcs hc hgn hpt ht1
   cases hgv:jo cs 0 0 with
   | none =>
    rw[hgv] at hG
    unfold uW at hG
    simp only at hG
    clear hp HX
    go_enter Tryz.func181,Tryz.ntmps181
    go_wp2_with fail
    refine hG.mono ?_
    clear hG
    rintro e w1 ⟨rfl,hk1⟩
    have rZ:=ah hk1
    clear hk1
    have HZ:Hid (dz c0 cs n=none):=ah (by unfold dz;rw[if_neg h0,hgv])
    clear hgv
    go_wp2_with fail
    refine bodyPost_ret (v:=.tuple #[.pointer none,.int .i64 3]) (by simp[results,Tryz.results181,go_sem]) rfl ?_
    exact .inr ⟨HZ.out,3,by decide,by decide,rfl,rZ.out⟩
   | some xu =>
    obtain⟨sz,u⟩:=xu
    rw[hgv] at hG
    unfold uW at hG
    simp only at hG
    obtain⟨hsz,hu⟩:=qkq hgv
    have HG:=ah hgv
    have HL:=ah (aj hu (show ∀ F,gG (cs.drop u) sz=some F→F.length≤100000000 from fun F hF=>by
     obtain⟨h1,h2⟩:=SE hF
     have h3:(sz+7) / 8≤(cs.drop u).length:=by
      unfold gG at hF
      split at hF
      ·cases hF
      ·omega
     rw[List.length_drop] at h3
     omega))
    have ht2:=hp.oL (1+u) (by omega)
    have hdr:(c0 :: cs).drop (1+u)=cs.drop u:=by rw[Nat.add_comm];rfl
    rw[hdr] at ht2
    have HT:=ah ht2
    clear hgv hp ht2 hdr
    obtain⟨u1,hu1⟩:∃ u1,u1=1+u:=⟨_,rfl⟩
    have hix:(1:Int)+(u:Int)=(u1:Int):=by omega
    rw[← hu1] at HT
    obtain⟨N,hN⟩:∃ N,N=cs.length+1:=⟨_,rfl⟩
    have akG:u1≤N:=by omega
    rw[← hN] at HT hpc
    rw[← hN]
    have hNb:N≤10000001:=by omega
    have hN1:cs.length=N - 1:=by omega
    rw[hN1] at hG
    have HU:=ah (aj hu1 hN)
    clear hu1 hN hN1 hl hu hHL
    go_enter Tryz.func181,Tryz.ntmps181
    go_wp2_with fail
    refine hG.mono ?_
    clear hG
    rintro e w1 ⟨rfl,hk1⟩
    have rZ:=ah hk1
    clear hk1
    go_wp2_with fail
    ·have hcl:cs.length=u:=by have:=HU.out;have:=HL.out.1;omega
     have hs:Sl .u8 w1 (.slice (some ⟨g,off,none⟩) (N - u1) 0) (aB (cs.drop u)):=by
      rw[List.drop_of_length_le (by omega),show N - u1=0 by omega]
      exact Sl.oM w1 _
     have kN:=HX.out.2 _ u sz w1 hs hsz
     clear hs hcl
     refine kN.mono ?_
     clear kN
     intro e w3 h3
     rcases h3 with⟨F,hF1,b,rfl,v2,hV,hb,o8,hk3⟩|⟨hn1,rfl,hk3⟩
     ·obtain⟨zQ,hFn⟩:=SE hF1
      have yL:=q4g b v2 F n (c0 - 1) w3 hV (by exact HL.out.2 _ hF1) hn (by omega)
      have HF:=ah (aj hF1 (rZ.out.trans hk3 (fun _ _ h=>h)))
      have d0:w3.cell? ⟨g,off,none⟩=some (.int .u8 c0):=by
       rw[World.cell?_of_block (w:=w) (HF.out.2.block g (World.block_lt_of_cell? _ _ hc0) (fun h=>h))]
       exact hc0
      have hcm:((c0 - 1:Nat):Int)=(c0:Int) - 1:=by omega
      rw[hcm] at yL
      clear hV hb o8 hk3 hF1 zQ hFn hcm
      go_wp2_with fail
      refine yL.mono ?_
      clear yL
      intro e w4 h4
      rcases h4 with⟨he,b4,rfl,v4,OW,hb4,Aq,hk4⟩|⟨he,rfl,hk4⟩
      ·have HZ:Hid (dz c0 cs n=some (jP (c0 - 1) n F)∧aY w b4 (jP (c0 - 1) n F) w4):=ah ⟨by
        unfold dz
        rw[if_neg h0,HG.out]
        simp only
        rw[HF.out.1]
        simp only
        rw[if_pos he],v4,OW,Nat.le_trans HF.out.2.size hb4,fun q hq=>Nat.le_trans HF.out.2.size (Aq q hq),HF.out.2.trans hk4 (fun _ _ h=>h)⟩
       clear he OW hb4 Aq hk4
       go_wp2_with fail
       refine bodyPost_ret (v:=.tuple #[.pointer (some ⟨b4,0,none⟩),.int .i64 0]) (by simp[results,Tryz.results181,go_sem]) rfl ?_
       exact .inl ⟨_,HZ.out.1,b4,rfl,HZ.out.2⟩
      ·have HZ:Hid (dz c0 cs n=none∧Keeps (fun _=>False) w w4):=ah ⟨by
        unfold dz
        rw[if_neg h0,HG.out]
        simp only
        rw[HF.out.1]
        simp only
        rw[if_neg he],HF.out.2.trans hk4 (fun _ _ h=>h)⟩
       clear he hk4
       go_wp2_with fail
       refine bodyPost_ret (v:=.tuple #[.pointer none,.int .i64 10]) (by simp[results,Tryz.results181,go_sem]) rfl ?_
       exact .inr ⟨HZ.out.1,10,by decide,by decide,rfl,HZ.out.2⟩
     ·have HZ:Hid (dz c0 cs n=none∧Keeps (fun _=>False) w w3):=ah ⟨by
        unfold dz
        rw[if_neg h0,HG.out]
        simp only
        rw[hn1],rZ.out.trans hk3 (fun _ _ h=>h)⟩
      clear hn1 hk3
      go_wp2_with fail
      refine bodyPost_ret (v:=.tuple #[.pointer none,.int .i64 3]) (by simp[results,Tryz.results181,go_sem]) rfl ?_
      exact .inr ⟨HZ.out.1,3,by decide,by decide,rfl,HZ.out.2⟩
    ·have kN:=HX.out.2 _ u sz w1 (HT.out.keeps rZ.out (fun _ _ h=>h)) hsz
     refine kN.mono ?_
     clear kN
     intro e w3 h3
     rcases h3 with⟨F,hF1,b,rfl,v2,hV,hb,o8,hk3⟩|⟨hn1,rfl,hk3⟩
     ·obtain⟨zQ,hFn⟩:=SE hF1
      have yL:=q4g b v2 F n (c0 - 1) w3 hV (by exact HL.out.2 _ hF1) hn (by omega)
      have HF:=ah (aj hF1 (rZ.out.trans hk3 (fun _ _ h=>h)))
      have d0:w3.cell? ⟨g,off,none⟩=some (.int .u8 c0):=by
       rw[World.cell?_of_block (w:=w) (HF.out.2.block g (World.block_lt_of_cell? _ _ hc0) (fun h=>h))]
       exact hc0
      have hcm:((c0 - 1:Nat):Int)=(c0:Int) - 1:=by omega
      rw[hcm] at yL
      clear hV hb o8 hk3 hF1 zQ hFn hcm
      go_wp2_with fail
      refine yL.mono ?_
      clear yL
      intro e w4 h4
      rcases h4 with⟨he,b4,rfl,v4,OW,hb4,Aq,hk4⟩|⟨he,rfl,hk4⟩
      ·have HZ:Hid (dz c0 cs n=some (jP (c0 - 1) n F)∧aY w b4 (jP (c0 - 1) n F) w4):=ah ⟨by
        unfold dz
        rw[if_neg h0,HG.out]
        simp only
        rw[HF.out.1]
        simp only
        rw[if_pos he],v4,OW,Nat.le_trans HF.out.2.size hb4,fun q hq=>Nat.le_trans HF.out.2.size (Aq q hq),HF.out.2.trans hk4 (fun _ _ h=>h)⟩
       clear he OW hb4 Aq hk4
       go_wp2_with fail
       refine bodyPost_ret (v:=.tuple #[.pointer (some ⟨b4,0,none⟩),.int .i64 0]) (by simp[results,Tryz.results181,go_sem]) rfl ?_
       exact .inl ⟨_,HZ.out.1,b4,rfl,HZ.out.2⟩
      ·have HZ:Hid (dz c0 cs n=none∧Keeps (fun _=>False) w w4):=ah ⟨by
        unfold dz
        rw[if_neg h0,HG.out]
        simp only
        rw[HF.out.1]
        simp only
        rw[if_neg he],HF.out.2.trans hk4 (fun _ _ h=>h)⟩
       clear he hk4
       go_wp2_with fail
       refine bodyPost_ret (v:=.tuple #[.pointer none,.int .i64 10]) (by simp[results,Tryz.results181,go_sem]) rfl ?_
       exact .inr ⟨HZ.out.1,10,by decide,by decide,rfl,HZ.out.2⟩
     ·have HZ:Hid (dz c0 cs n=none∧Keeps (fun _=>False) w w3):=ah ⟨by
        unfold dz
        rw[if_neg h0,HG.out]
        simp only
        rw[hn1],rZ.out.trans hk3 (fun _ _ h=>h)⟩
      clear hn1 hk3
      go_wp2_with fail
      refine bodyPost_ret (v:=.tuple #[.pointer none,.int .i64 3]) (by simp[results,Tryz.results181,go_sem]) rfl ?_
      exact .inr ⟨HZ.out.1,3,by decide,by decide,rfl,HZ.out.2⟩
