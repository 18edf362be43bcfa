import Derived.Test.YtcfdpogegngplaaGreatZg1c
import Derived.Test.YtcfdpogegngplaaGreatZg1g
set_option maxRecDepth 100000
set_option maxHeartbeats 4000000
namespace Go.Proofs.YtcfdpogegngplaaGreat
open Go.RowKit
theorem SomesAt.keeps{w w':World}{a:Option Addr}{n:Nat}(h:SomesAt w a n)(k:Keeps (fun _=>False) w w'):SomesAt w' a n:=fun j hj=>by
 obtain⟨g,off,x,m,r,bv,ps,e,hg,q0,q1,q2,q3,a1,a2,a3,hs,hp⟩:=h j hj
 have hc:∀ {o:Nat} {v:Value},w.cell? ⟨g,o,none⟩=some v→w'.cell? ⟨g,o,none⟩=some v:=fun h=>(World.cell?_of_block (k.block g hg (fun h=>h))).trans h
 exact⟨g,off,x,m,r,bv,ps,e,by have:=k.size;omega,hc q0,hc q1,hc q2,hc q3,a1,a2,a3,hs.keeps k (fun _ _ h=>h),hp⟩
noncomputable def FM(l:Bool)(s:List Nat)(rt:Int):List Nat:=if l then s else bH ((bA s rt).map aG)
noncomputable def Qd(l:Bool)(s:List Nat)(rt:Int):Int:=if l then rt else rG (bH ((bA s rt).map aG)).length
theorem KH.YF{s:List Nat}{rt:Int}{ln:Nat}(h:KH s rt ln):eD (bA s rt)∧(bA s rt).flatten.length=s.length:=by
 obtain⟨h1,h2,-⟩:=SQ h.dH h.even h.gen h.rt
 exact⟨h1,h2⟩
theorem ql1{l:Bool}{s:List Nat}{rt:Int}{ln:Nat}(h:KH s rt ln):(FM l s rt).length=s.length:=by
 cases l
 ·show (bH ((bA s rt).map aG)).length=_
  rw[Dw,h.YF.2]
 ·rfl
theorem ql2(pv:Value)(p l:Bool)(s:List Nat)(rt:Int)(ln:Nat)(lim:Int)(w:World)(h:KH s rt ln)(hp:Sl .u8 w pv (aB (iN p l ln (bA s rt) (gU s rt))))(hlim:(s.length / 2:Nat)≤lim∧lim≤9223372036854775807) :
  Calls Tryz.prog 34 #[pv,.int .i64 lim] w fun e w'=>∃ b2,e=.returned (.tuple #[.pointer (some ⟨b2,0,none⟩),.agg #[.bool false,.bool p,.bool l],.int .i64 0])∧Keeps (fun _=>False) w w'∧Tz w.heap.size (FM l s rt) (Qd l s rt) ln b2 w':=by
 obtain⟨hk,hfl⟩:=h.YF
 have hs:=h.len
 have hln:=h.ln
 cases l
 ·refine (q75 pv p (bA s rt) ln lim w (gU s rt) hk (by omega) (by omega) hp (by omega)).mono ?_
  rw[if_neg (by omega)]
  rintro e w' ⟨hk',h⟩
  rcases h with⟨-,b,rfl,hQ⟩|⟨h,-⟩
  ·rw[KG]
   exact⟨b,rfl,hk',hQ⟩
  ·exact absurd rfl h
 ·refine (q76 pv p s rt ln lim w h hp (by omega)).mono ?_
  rw[if_neg (by omega)]
  rintro e w' ⟨hk',h⟩
  rcases h with⟨-,b,rfl,hQ⟩|⟨h,-⟩
  ·rw[KG]
   exact⟨b,rfl,hk',hQ⟩
  ·exact absurd rfl h
theorem ql3(p l:Bool){s:List Nat}{rt:Int}{ln:Nat}(hs:s=[])(hl:ln<65536):(iN p l ln (bA s rt) (gU s rt)).length≤12:=by
 subst hs
 have hk:bA [] rt=[]:=by simp[bA]
 have h1:=qmk (x:=ln) (by omega)
 have h2:(gU [] rt)=[]:=List.eq_nil_of_length_eq_zero (by unfold gU;rw[BG];rfl)
 rw[Jo,hk,h2]
 unfold iA ku
 rw[List.map_nil,List.length_nil,yK (x:=0) (by decide)]
 cases l
 ·simp[DJ];omega
 ·simp[DJ,bI];omega
theorem walkFileLone(a0:Option Addr)(DW cap0:Nat)(a1 a2 a3:Int)(w:World)(w0:SomesAt w a0 DW)(w1:(Lit.int .u16 a1).wf=true)(w2:(Lit.int .u8 a2).wf=true)(w3:(Lit.int .u8 a3).wf=true) :
  Calls Tryz.prog 8 #[.slice a0 DW cap0,.int .u16 a1,.int .u8 a2,.int .u8 a3] w fun e w'=>e=.returned (.bool true)∧Below w.heap.size w w':=by
 have hnot:∀ (x:Bool) (w:World),(Op.unary .not (.bool x)).run Tryz.prog w=.ok (.bool (!x)) w:=fun _ _=>rfl
 obtain⟨lone,rfl,FL⟩:=qom w1
 obtain⟨root,rfl,hroot⟩:=u8_in w2
 obtain⟨o,rfl,ho⟩:=u8_in w3
 obtain⟨o6,x2,x4,p,l,q6,q1,q2,q4,t2,t4⟩:=Yq o ho
 have Dr:∀ W,Keeps (fun _=>False) w W→Calls Tryz.prog 16 #[.slice a0 DW cap0,.int .u8 0,.int .u8 root] W (qn6 W 0):=fun W hk=>qhv a0 DW cap0 0 root W (w0.keeps hk) (by decide) hroot
 have Qe:=fun W=>qbt o6 0 x2 x4 false p l W q1 q2 q4 rfl t2 t4
 have HMd:=ah Dr
 have HOp:=ah Qe
 clear w0 w1 w2 w3 Dr q1 q2 q4 t2 t4 Qe
 go_enter Tryz.func8,Tryz.ntmps8
 go_wp2_with fail
 refine (qfh _).mono ?_
 rintro e w1 ⟨rfl,hk1⟩
 have Qf:=HMd.out w1 hk1
 have H1:=ah hk1
 clear hk1 HMd
 go_wp2_with fail
 refine Qf.mono ?_
 clear Qf
 rintro e w2 ⟨b0,sv,s,rt,rfl,AR,hrt,⟨R,hM,hR,hb0⟩,hO,hk2⟩
 obtain⟨sa,sc,rfl,-,-⟩:=hO.form
 rw[q01] at *
 unfold cZ
 go_upto_region 5 with fail
 obtain⟨W3,hW3⟩:∃ W3,W3=w2.alloc (.cells #[.slice sa s.length sc,.int .i64 rt,.int .i64 (lone:Int)] 27):=⟨_,rfl⟩
 have k23:Keeps (fun _=>False) w2 W3:=by rw[hW3];exact (Keeps.refl _ w2).alloc _
 have hb3:W3.heap[w2.heap.size]? = some (.cells #[.slice sa s.length sc,.int .i64 rt,.int .i64 (lone:Int)] 27 (0,0)):=by rw[hW3];exact heap_alloc_new w2 _
 have lM:=(H1.out.trans hk2 (fun _ _ h=>h)).trans k23 (fun _ _ h=>h)
 have sw:=hM.keeps k23 (fun h=>h) (fun _ _ h=>h)
 have KE:∀ W,Keeps (fun _=>False) W3 W→Calls Tryz.prog 36 #[.pointer (some ⟨b0,0,none⟩)] W fun e w'=>∃ v,e=.returned v∧aF W.heap.size w' v (aB s)∧Keeps (fun _=>False) W3 w':=fun W hW=>by
  refine (q8t (sw.keeps hW (fun h=>h) (fun _ _ h=>h))).mono ?_
  rintro e w' ⟨v,rfl,h1,h2⟩
  exact⟨v,rfl,h1,hW.trans h2 (fun _ _ h=>h)⟩
 have mU:∀ B W lv,Keeps (fun _=>False) W3 W→aF B W lv (aB s)→Calls Tryz.prog 30 #[lv,.int .i64 rt,.int .i64 (lone:Int)] W fun e w'=>∃ b,e=.returned (.tuple #[.pointer (some ⟨b,0,none⟩),.int .i64 0])∧NewAt W3.heap.size s rt lone b w'∧Keeps (fun _=>False) W3 w':=fun B W lv hW ho=>by
  refine (Kq (ln:=lone) ho.sl AR.dH AR.even (by have:=AR.le;omega) (by omega) hrt).mono ?_
  rintro e w' ⟨b,rfl,h1,h2,h3⟩
  have:=hW.size
  exact⟨b,rfl,⟨_,h1,fun x hx=>by omega,by omega⟩,hW.trans h3 (fun _ _ h=>h)⟩
 have HLs:=ah KE
 have HNw:=ah mU
 have HP:=ah (aj AR hrt)
 have y1:=ak hb3 1
 have y2:=ak hb3 2
 have H3:=ah (aj lM hb3)
 rw[← hW3]
 clear hW3 hb3 hM hR hb0 hO hk2 k23 lM sw KE mU AR hrt
 go_cut [9] from 28 to 36 (fun v wz=>∃ b,v=.pointer (some ⟨b,0,none⟩)∧NewAt W3.heap.size s rt lone b wz∧Keeps (fun _=>False) W3 wz)
 case first =>
  go_region_with (first
   | (go_at_call 36;refine (HLs.out _ (by first|exact (Keeps.refl _ W3).drew|exact Keeps.refl _ W3)).mono ?_;rintro e W ⟨lv,rfl,hlo,hkl⟩;have u1:=ak (hkl.at H3.out.2 (fun h=>h)) 1;have u2:=ak (hkl.at H3.out.2 (fun h=>h)) 2)
   | (go_at_call 30;refine (HNw.out _ _ _ hkl hlo).mono ?_;rintro e W' ⟨b,rfl,hnew,hkn⟩))
  all_goals
   have HN:=ah (aj hnew hkn)
   clear hnew hkn hlo hkl u1 u2 y1 y2
   go_wp2
   go_meet
   exact⟨b,rfl,HN.out⟩
 case rest =>
  obtain⟨b,rfl,⟨R,hM,hR,hbb⟩,hk3⟩:=hcut
  clear y1 y2 HLs HNw
  have Qe:=HOp.out
  have Qg:=H3.out.1.trans hk3 (fun _ _ h=>h)
  have hbw:w.heap.size≤b:=by have:=H3.out.1.size;omega
  go_wp2_with fail
  refine (Qe wc).mono ?_
  clear Qe HOp
  rintro e w4 ⟨rfl,hk4⟩
  have p8:=hM.keeps hk4 (fun h=>h) (fun _ _ h=>h)
  have nu:=Qg.trans hk4 (fun _ _ h=>h)
  clear hM hk3 Qg hk4
  unfold cu
  by_cases hg:dn (iC s lone)=0
  ·have nM:KH s rt lone:=⟨HP.out.1.dH,HP.out.1.even,hg,p8.rt,by omega,by have:=HP.out.1.le;omega⟩
   obtain⟨hks,hfl⟩:=nM.YF
   have hE:=Tq false p l p8 hg qA (Tt p l hks) (by rw[KF];have:=HP.out.1.le;omega) (fun k hk'=>by
    have:=q3z hk'
    have:=HP.out.1.le
    show k.length / 2≤_
    omega)
   obtain⟨fs,hfs⟩:∃ fs,fs=jw false p l lone ((bA s rt).map qA) (gU s rt):=⟨_,rfl⟩
   rw[← hfs] at hE
   have hf2:fs=iN p l lone (bA s rt) (gU s rt):=hfs
   have hpos:0<fs.length:=by rw[hf2,Jo];omega
   have H4:=ah (aj nM (aj hf2 (aj nu hbw)))
   unfold cu at hE
   clear nM hks hfl hfs hf2 nu p8 hg
   go_wp2_with fail
   refine hE.mono ?_
   clear hE
   rintro e w5 ⟨v,rfl,hO,⟨R',yA,hR'⟩,hk5⟩
   obtain⟨N,hN⟩:∃ N,N=fs.length:=⟨_,rfl⟩
   obtain⟨gv,vc,hv,hvB,-,-⟩:=hO.row hpos
   rw[← hN] at hv hpos
   subst hv
   have hsl:=hO.sl
   rw[H4.out.2.1] at hsl
   have aej:=HP.out.1.le
   have hD:=ql2 _ p l s rt lone 1048576 w5 H4.out.1 hsl ⟨by omega,by decide⟩
   have Qh:s.length=0→N≤12:=fun h=>by rw[hN,H4.out.2.1];exact ql3 p l (List.eq_nil_of_length_eq_zero h) FL
   have H5:=ah (aj (H4.out.2.2.1.trans hk5 (fun x hx e=>by have:=H4.out.2.2.2;omega)) (aj yA Qh))
   have amn:=yA.lt
   clear hO hsl hk5 yA hR' hN Qh hvB
   go_wp2_with fail
   refine hD.mono ?_
   clear hD
   rintro e w6 ⟨b2,rfl,iI,R2,hM6,hR6,YG⟩
   obtain⟨wB,YH⟩:∃ wB,wB=w6.alloc (.cells #[.bool false,.bool p,.bool l] 35):=⟨_,rfl⟩
   have TD:Keeps (fun _=>False) w6 wB:=by rw[YH];exact (Keeps.refl (fun _=>False) w6).alloc _
   have YI:=hM6.keeps TD (fun h=>h) (fun _ _ h=>h)
   have Jr:=H5.out.2.1.keeps (iI.trans TD (fun _ _ h=>h)) (fun h=>h) (fun _ _ h=>h)
   have c1:=Rj YI
   have c2:=Hz YI
   have c3:=Hz Jr
   have c4:=vM Jr
   rw[ql1 H4.out.1] at c2
   have HF:=ah ((H5.out.1.trans iI (fun _ _ h=>h)).trans TD (fun _ _ h=>h))
   have HN:=ah H5.out.2.2
   clear iI hM6 hR6 YG TD YI Jr H5
   go_wp2_with fail
   rw[← YH]
   clear YH
   refine c1.mono ?_
   clear c1
   rintro e w7 ⟨rfl,rfl⟩
   go_wp2_with fail
   refine c2.mono ?_
   clear c2
   rintro e w7 ⟨rfl,rfl⟩
   go_wp2_with fail
   refine c3.mono ?_
   clear c3
   rintro e w7 ⟨rfl,rfl⟩
   go_wp2_with fail
   refine c4.mono ?_
   clear c4
   rintro e w7 ⟨rfl,rfl⟩
   by_cases h0:s.length=0
   ·have t1:decide ((0:Int)<(s.length:Int))=false:=decide_eq_false (by omega)
    have t2:decide (0<s.length)=false:=decide_eq_false (by omega)
    have t3:decide ((N:Int)≤12)=true:=decide_eq_true (by have:=HN.out h0;omega)
    have t4:decide (N≤12)=true:=decide_eq_true (HN.out h0)
    clear h0
    go_wp2_with fail
    go_ret
    exact⟨by simp,HF.out.below (fun _ _ h=>h)⟩
   ·have t1:decide ((0:Int)<(s.length:Int))=true:=decide_eq_true (by omega)
    have t2:decide (0<s.length)=true:=decide_eq_true (by omega)
    clear h0
    go_wp2_with fail
    go_ret
    exact⟨by simp,HF.out.below (fun _ _ h=>h)⟩
  ·have hE:=q9w false p l p8 hg
   unfold cu at hE
   have H4:=ah (aj nu hbw)
   clear p8 nu hg
   go_wp2_with fail
   refine hE.mono ?_
   clear hE
   rintro e w5 ⟨rfl,hk5⟩
   have HF:=ah (H4.out.1.trans hk5 (fun x hx e=>by have:=H4.out.2;omega))
   clear hk5
   go_wp2_with fail
   go_ret
   exact⟨rfl,HF.out.below (fun _ _ h=>h)⟩
