import Derived.Test.YtcfdpogegngplaaGreatZg0f
import Derived.Test.YtcfdpogegngplaaGreatZg0k
import Derived.Test.YtcfdpogegngplaaGreatZg0m
import Derived.Lib.SmallJoins
set_option maxRecDepth 100000
set_option maxHeartbeats 4000000
namespace Go.Proofs.YtcfdpogegngplaaGreat
section
open Go.RowKit
def SomesAt(w:World)(a:Option Addr)(n:Nat):Prop :=
 ∀ j,j<n→∃ (g off k m r:Nat) (bv:Value) (ps:List Nat),a=some ⟨g,off,none⟩∧g<w.heap.size∧w.cell? ⟨g,off+j * 4,none⟩=some (.int .u8 k)∧w.cell? ⟨g,off+j * 4+1,none⟩=some (.int .u8 m)∧w.cell? ⟨g,off+j * 4+2,none⟩=some bv∧w.cell? ⟨g,off+j * 4+3,none⟩=some (.int .u8 r) ∧
  k<256∧m<256∧r<256∧Sl .u8 w bv (aB ps)∧∀ b ∈ ps,b<256
structure wG (s:List Nat)(m:Nat):Prop where
 dH:aM s.length (sg s)
 even:s.length % 2=0
 le:s.length≤m
def NewAt(B:Nat)(s:List Nat)(rt ln:Int)(b:Nat)(W:World):Prop:=∃ R,MapAt W b s rt ln R∧(∀ x,R x→B≤x)∧B≤b
def qn6(w:World)(ln:Nat)(e:Ending)(w':World):Prop :=
 ∃ (b:Nat) (sv:Value) (s:List Nat) (rt:Int),e=.returned (.tuple #[.pointer (some ⟨b,0,none⟩),cZ sv rt ln])∧wG s 126∧((s.length=0∧rt=-1)∨∃ r:Nat,rt=r∧r<s.length) ∧
  NewAt w.heap.size s rt ln b w'∧aF w.heap.size w' sv (aB s)∧Keeps (fun _=>False) w w'
theorem qhv(la:Option Addr)(n cap lone root:Nat)(w:World)(hS:SomesAt w la n)(FL:lone<256)(hroot:root<256) :
  Calls Tryz.prog 16 #[.slice la n cap,.int .u8 lone,.int .u8 root] w (qn6 w (lone % 4)):=by
 obtain⟨ln,hln⟩:∃ ln,ln=lone % 4:=⟨_,rfl⟩
 have hl4:ln<4:=by rw[hln];exact Nat.mod_lt _ (by decide)
 have e1:(lone:Int).tmod 4=(ln:Int):=by rw[Int.tmod_eq_emod_of_nonneg (by omega)];omega
 have e2:(lone:Int) % 4=(ln:Int):=by omega
 rw[← hln]
 have HS:=ah hS
 clear hS hln
 go_enter Tryz.func16,Tryz.ntmps16
 go_wp2_with fail
 obtain⟨W0,hW0⟩:∃ W0,W0=(w.alloc (.cells #[.slice none 0 0,.int .i64 0,.int .i64 0] 27)).alloc (.cells #[.slice none 0 0,.int .i64 (-1),.int .i64 (ln:Int)] 27):=⟨_,rfl⟩
 have k0:Keeps (fun _=>False) w W0:=by rw[hW0];exact ((Keeps.refl _ w).alloc _).alloc _
 have b0:W0.heap[w.heap.size]? = some (.cells #[.slice none 0 0,.int .i64 0,.int .i64 0] 27 (0,0)):=by
  rw[hW0]
  exact ((Keeps.refl (fun _=>False) _).alloc _).at (heap_alloc_new w _) (fun h=>h)
 have b1:W0.heap[w.heap.size+1]? = some (.cells #[.slice none 0 0,.int .i64 (-1),.int .i64 (ln:Int)] 27 (0,0)):=by
  rw[hW0]
  have:=heap_alloc_new (w.alloc (.cells #[.slice none 0 0,.int .i64 0,.int .i64 0] 27)) (.cells #[.slice none 0 0,.int .i64 (-1),.int .i64 (ln:Int)] 27)
  simpa using this
 obtain⟨xb,hxb⟩:∃ xb,xb=w.heap.size+1:=⟨_,rfl⟩
 have hxw:w.heap.size<xb:=by omega
 have H0:=ah (aj (show aF w.heap.size W0 (.slice none 0 0) (aB []) from aF.nil _ _) (aj b0 (aj (hxb ▸ b1) k0)))
 rw[← hW0,← hxb]
 clear hW0 k0 b0 b1 hxb
 go_loopg [23] n (fun mu iv wr=>∃ (i:Nat) (sv:Value) (s:List Nat),i≤n∧i≤3∧mu=n - i∧iv=.int .i64 i∧wG s (42 * i)∧aF w.heap.size wr sv (aB s)∧(∀ q,sv.ownBlock=some q→q≠xb∧q≠w.heap.size) ∧
  wr.heap[w.heap.size]? = some (.cells #[.slice none 0 0,.int .i64 0,.int .i64 0] 27 (0,0))∧wr.heap[xb]? = some (.cells #[sv,.int .i64 (-1),.int .i64 (ln:Int)] 27 (0,0))∧Keeps (fun _=>False) w wr)
 case atStart=>exact⟨0,_,[],Nat.zero_le _,by omega,rfl,rfl,⟨⟨fun d hd=>absurd hd (by simp),fun d e hd=>absurd hd (by simp)⟩,rfl,by simp⟩,H0.out.1,fun q hq=>by simp[Value.ownBlock] at hq,H0.out.2⟩
 case round =>
  obtain⟨i,sv,s,hi,hi3,aN,rfl,AR,hown,hne,hbr,hbx,aT⟩:=hrel
  have HG:=ah aN
  clear aN H0
  obtain⟨sa,sc,rfl,hsc,-⟩:=hown.form
  rw[q01] at *
  obtain⟨nl,hnl⟩:∃ nl,nl=s.length:=⟨_,rfl⟩
  rw[← hnl] at hown hne hbx hsc
  have yC:=ah hnl
  have aec:nl≤42 * i:=by rw[hnl];exact AR.le
  clear hnl
  by_cases hlt:i<n∧i<3
  ·have t1:decide ((i:Int)<(n:Int))=true:=decide_eq_true (by omega)
   have t2:decide (i<n)=true:=decide_eq_true hlt.1
   have t3:decide ((3:Int)≤(i:Int))=false:=decide_eq_false (by omega)
   have t4:decide (3≤i)=false:=decide_eq_false (by omega)
   obtain⟨g,off,k,m,r,bv,ps,rfl,hgw,q0,q1,q2,q3,hk,hm,hr,hbv,hps⟩:=HS.out i hlt.1
   have hc:∀ {o:Nat} {v:Value},w.cell? ⟨g,o,none⟩=some v→wr.cell? ⟨g,o,none⟩=some v:=fun h=>(World.cell?_of_block (aT.block g hgw (fun h=>h))).trans h
   have q0:=hc q0
   have q1:=hc q1
   have q2:=hc q2
   have q3:=hc q3
   have HR:=ah (aj AR (aj hown (aj hne (aj hbr (aj hbx aT)))))
   obtain⟨ba,bc,rfl,-,-⟩:=hbv.form
   rw[q01] at *
   generalize hbl:ps.length=bl at *
   have HB:=ah (aj hbv hps)
   clear hbl
   have hzx:xb<wr.heap.size:=lt_of_block hbx
   obtain⟨hlt1,hlt2⟩:=hlt
   clear AR hown hne hbr hbx aT hbv hps hc
   go_upto_region 7 with fail
   obtain⟨W1,hW1⟩:∃ W1,W1=(wr.alloc (.cells #[.int .u8 (k:Int),.int .u8 (m:Int),.slice ba bl bc,.int .u8 (r:Int)] 45)).alloc (.cells #[.slice none 0 0,.int .i64 0,.int .i64 0] 27):=⟨_,rfl⟩
   have k1:Keeps (fun _=>False) wr W1:=by rw[hW1];exact ((Keeps.refl _ wr).alloc _).alloc _
   have hb1:W1.heap[wr.heap.size]? = some (.cells #[.int .u8 (k:Int),.int .u8 (m:Int),.slice ba bl bc,.int .u8 (r:Int)] 45 (0,0)):=by
    rw[hW1]
    exact ((Keeps.refl (fun _=>False) _).alloc _).at (heap_alloc_new wr _) (fun h=>h)
   have hb2:W1.heap[wr.heap.size+1]? = some (.cells #[.slice none 0 0,.int .i64 0,.int .i64 0] 27 (0,0)):=by
    rw[hW1]
    have:=heap_alloc_new (wr.alloc (.cells #[.int .u8 (k:Int),.int .u8 (m:Int),.slice ba bl bc,.int .u8 (r:Int)] 45)) (.cells #[.slice none 0 0,.int .i64 0,.int .i64 0] 27)
    simpa using this
   obtain⟨yb,hyb⟩:∃ yb,yb=wr.heap.size+1:=⟨_,rfl⟩
   have hyw:wr.heap.size<yb:=by omega
   have hyl:yb<W1.heap.size:=by rw[hyb];exact lt_of_block hb2
   rw[← hyb] at hb2
   rw[← hW1,← hyb]
   clear hW1 hyb q0 q1 q2 q3 t1 t2 t3 t4
   have DT:=HB.out.1.keeps (HR.out.2.2.2.2.2.trans k1 (fun _ _ h=>h)) (fun _ _ h=>h)
   have q0:=ak hb1 0
   have q1:=ak hb1 1
   have q2:=ak hb1 2
   have q3:=ak hb1 3
   have HW1:=ah (aj hb2 k1)
   obtain⟨k6,iI⟩:∃ k6,k6=k % 6:=⟨_,rfl⟩
   have c1:(k:Int).tmod 6=(k6:Int):=by rw[Int.tmod_eq_emod_of_nonneg (by omega)];omega
   have c2:(k:Int) % 6=(k6:Int):=by omega
   have hkl:k6<6:=by omega
   clear iI
   have hkb:k6=0∨k6=1∨k6=2∨k6=3∨k6=4∨k6=5:=by omega
   obtain⟨m7,hm7⟩:∃ m7,m7=m % 7:=⟨_,rfl⟩
   obtain⟨m14,YC⟩:∃ m14,m14=m % 14:=⟨_,rfl⟩
   obtain⟨m6,hm6⟩:∃ m6,m6=m % 6:=⟨_,rfl⟩
   have l7:m7<7:=by omega
   have l14:m14<14:=by omega
   have l6:m6<6:=by omega
   have a7:(m:Int).tmod 7=(m7:Int):=by rw[Int.tmod_eq_emod_of_nonneg (by omega)];omega
   have a14:(m:Int).tmod 14=(m14:Int):=by rw[Int.tmod_eq_emod_of_nonneg (by omega)];omega
   have a6:(m:Int).tmod 6=(m6:Int):=by rw[Int.tmod_eq_emod_of_nonneg (by omega)];omega
   have b7:(m:Int) % 7=(m7:Int):=by omega
   have b14:(m:Int) % 14=(m14:Int):=by omega
   have b6:(m:Int) % 6=(m6:Int):=by omega
   have P7:=qcy m7 (.slice ba bl bc) ps r W1 DT HB.out.2 (by omega) hr
   have nM:=q9q (.slice ba bl bc) ps m14 r W1 DT HB.out.2 (by omega) hr
   have hAn:=qcr (.slice ba bl bc) ps m6 r W1 DT HB.out.2 (by omega) hr
   have Jp:=ah P7
   have HPl:=ah nM
   have HAn:=ah hAn
   clear hm7 YC hm6 P7 nM hAn DT
   rcases hkb with rfl|rfl|rfl|rfl|rfl|rfl
   case' inl =>
    go_wp2_with fail
    refine Jp.out.mono ?_
    rintro e W2 ⟨P8,t,rfl,hT,hlen,hown2,hk2⟩
    have hI:=hT.dH
    have hE:=hT.even
    obtain⟨tX,wH⟩:∃ tX:Int,tX=((r % t.length:Nat):Int):=⟨_,rfl⟩
    obtain⟨rJ,hyn⟩:∃ rJ:Int,rJ=0:=⟨_,rfl⟩
    rw[← wH,← hyn]
    unfold cZ
    clear hT wH hyn
   case' inr.inl =>
    go_wp2_with fail
    refine Jp.out.mono ?_
    rintro e W2 ⟨P8,t,rfl,hT,hlen,hown2,hk2⟩
    have hI:=hT.dH
    have hE:=hT.even
    obtain⟨tX,wH⟩:∃ tX:Int,tX=((r % t.length:Nat):Int):=⟨_,rfl⟩
    obtain⟨rJ,hyn⟩:∃ rJ:Int,rJ=0:=⟨_,rfl⟩
    rw[← wH,← hyn]
    unfold cZ
    clear hT wH hyn
   case' inr.inr.inl =>
    go_wp2_with fail
    refine Jp.out.mono ?_
    rintro e W2 ⟨P8,t,rfl,hT,hlen,hown2,hk2⟩
    have hI:=hT.dH
    have hE:=hT.even
    obtain⟨tX,wH⟩:∃ tX:Int,tX=((r % t.length:Nat):Int):=⟨_,rfl⟩
    obtain⟨rJ,hyn⟩:∃ rJ:Int,rJ=0:=⟨_,rfl⟩
    rw[← wH,← hyn]
    unfold cZ
    clear hT wH hyn
   case' inr.inr.inr.inl =>
    go_wp2_with fail
    refine HPl.out.mono ?_
    rintro e W2 ⟨P8,ks,rfl,hW,hlen,hown2,hk2⟩
    obtain⟨t,ht⟩:∃ t,t=aG ks:=⟨_,rfl⟩
    have hI:aM t.length (sg t):=by rw[ht];exact hW.eB
    have hE:t.length % 2=0:=by rw[ht,kJ];exact hW.jJ
    have htl:t.length=2 * m14:=by rw[ht,kJ];exact hlen
    obtain⟨tX,wH⟩:∃ tX:Int,tX=(if ks.length=0 then -1 else ((r % ks.length:Nat):Int)):=⟨_,rfl⟩
    obtain⟨rJ,hyn⟩:∃ rJ:Int,rJ=(if ks.length=0 then 1 else 0):=⟨_,rfl⟩
    rw[← wH,← hyn]
    rw[← ht] at hown2
    unfold cZ
    clear hW wH hyn ht hlen
    rename t.length=2 * m14=>hlen
   case' inr.inr.inr.inr.inl =>
    go_wp2_with fail
    refine HPl.out.mono ?_
    rintro e W2 ⟨P8,ks,rfl,hW,hlen,hown2,hk2⟩
    obtain⟨t,ht⟩:∃ t,t=aG ks:=⟨_,rfl⟩
    have hI:aM t.length (sg t):=by rw[ht];exact hW.eB
    have hE:t.length % 2=0:=by rw[ht,kJ];exact hW.jJ
    have htl:t.length=2 * m14:=by rw[ht,kJ];exact hlen
    obtain⟨tX,wH⟩:∃ tX:Int,tX=(if ks.length=0 then -1 else ((r % ks.length:Nat):Int)):=⟨_,rfl⟩
    obtain⟨rJ,hyn⟩:∃ rJ:Int,rJ=(if ks.length=0 then 1 else 0):=⟨_,rfl⟩
    rw[← wH,← hyn]
    rw[← ht] at hown2
    unfold cZ
    clear hW wH hyn ht hlen
    rename t.length=2 * m14=>hlen
   case' inr.inr.inr.inr.inr =>
    go_wp2_with fail
    refine HAn.out.mono ?_
    rintro e W2 ⟨P8,t,tX,rfl,⟨hlen,hI,-⟩,hown2,hk2⟩
    have hE:t.length % 2=0:=by omega
    obtain⟨rJ,hyn⟩:∃ rJ:Int,rJ=0:=⟨_,rfl⟩
    rw[← hyn]
    unfold cZ
    clear hyn
   all_goals
    have kN:wG t 42:=⟨hI,hE,by omega⟩
    obtain⟨ya,yc,rfl,-,-⟩:=hown2.form
    rw[q01] at *
    have hY:=hk2.at HW1.out.1 (fun h=>h)
    have z0:=ak hY 0
    have z1:=ak hY 1
    have z2:=ak hY 2
    have u0:=au hY 0
    have u1:=au hY 1
    have u2:=au hY 2
    have hzW:W1.heap.size≤W2.heap.size:=hk2.size
    have HY:=ah (aj kN (aj hown2 (aj hk2 hY)))
    clear kN hown2 hk2 hY hI hE hlen
    generalize P9:t.length=tl at *
    have KI:=ah P9
    clear P9
    go_upto_region 16 with fail
    have rr:=lZ HY.out.2.2.2 (.slice ya tl yc) (.int .i64 tX) (.int .i64 rJ)
    obtain⟨W3,hW3⟩:∃ W3,W3=((W2.setCell ⟨yb,0,none⟩ (.slice ya tl yc)).setCell ⟨yb,1,none⟩ (.int .i64 tX)).setCell ⟨yb,2,none⟩ (.int .i64 rJ):=⟨_,rfl⟩
    rw[← hW3] at rr ⊢
    have amb:W3.heap.size=W2.heap.size:=by rw[hW3];simp
    clear hW3 z0 z1 z2 u0 u1 u2 q0 q1 q2 q3 c1 c2
    have TA:Keeps (fun _=>False) wr W3:=(HW1.out.2.trans HY.out.2.2.1 (fun _ _ h=>h)).trans rr.2 (fun x hx e=>by omega)
    have hy3:=HY.out.2.1.keeps rr.2 (fun q hq e=>by have:=(HY.out.2.1.lt q hq).1;omega)
    have hx3:=TA.at HR.out.2.2.2.2.1 (fun h=>h)
    have hs3:=HR.out.2.1.keeps TA (fun _ _ h=>h)
    have hq3:∀ q,(Value.slice sa nl sc).ownBlock=some q→q<wr.heap.size:=fun q hq=>(HR.out.2.1.lt q hq).2
    have d0:=ak hx3 0
    have d1:=ak rr.1 0
    have H3:=ah (aj TA (aj hy3 (aj hx3 (aj hs3 hq3))))
    clear TA hy3 hx3 hs3 rr hq3
    generalize wr=wo at *
    go_wp2_with fail
    clear d0 d1
    go_loopg [73] tl (fun mu jv wz=>∃ (j:Nat) (jI:Value),j≤tl∧mu=tl - j∧jv=.int .i64 j∧aF w.heap.size wz jI (aB (s ++ (t.take j).map (s.length + ·)))∧(∀ q,jI.ownBlock=some q→(Value.slice sa nl sc).ownBlock=some q∨W3.heap.size≤q) ∧
     wz.heap[xb]? = some (.cells #[jI,.int .i64 (-1),.int .i64 (ln:Int)] 27 (0,0))∧Keeps (fun x=>x=xb∨(Value.slice sa nl sc).ownBlock=some x) W3 wz)
    case atStart=>exact⟨0,_,Nat.zero_le _,rfl,rfl,by simpa using H3.out.2.2.2.1,fun q hq=>.inl hq,H3.out.2.2.1,Keeps.refl _ _⟩
    case round =>
     obtain⟨j,jI,hj,zA,rfl,hown',hne',tY,hkz⟩:=hrel
     have HG2:=ah zA
     clear zA
     have hlen':(aB (s ++ (t.take j).map (s.length + ·))).length=nl+j:=by rw[q01,List.length_append,List.length_map,List.length_take,KI.out,Nat.min_eq_left hj,yC.out]
     obtain⟨xa,xc,rfl,-,-⟩:=hown'.form
     rw[hlen'] at hown' hne' tY
     by_cases hjl:j<tl
     ·obtain⟨tj,htj⟩:∃ tj,t[j]? = some tj:=⟨_,List.getElem?_eq_getElem (by rw[KI.out];exact hjl)⟩
      have hyz:=H3.out.2.1.keeps hkz (fun q hq e=>by
       have h1:=(HY.out.2.1.lt q hq).1
       rcases e with e|e
       ·omega
       ·have:=H3.out.2.2.2.2 q e;omega)
      obtain⟨gy,amc,rfl,cy⟩:=hyz.sl.cellAt (jq htj)
      have p0:=ak tY 0
      have p0f:=au tY 0
      have amd:tj<42:=by
       have h1:=HY.out.1.dH.lt j (by rw[KI.out];exact hjl)
       have h2:=yB (s:=t) (d:=j) (by rw[KI.out];exact hjl)
       rw[htj] at h2
       have h3:=HY.out.1.le
       rw[← Option.some.inj h2] at h1
       omega
      have HN:Hid ((aB (s ++ (t.take j).map (s.length + ·))).length=nl+j):=ah hlen'
      have hzz:xb<wr.heap.size:=lt_of_block tY
      have hzw:w.heap.size≤wr.heap.size:=by omega
      have hz3:W3.heap.size≤wr.heap.size:=hkz.size
      have aee:tl≤42:=by have:=HY.out.1.le;rw[KI.out] at this;exact this
      have hjb:nl+j≤10000000000:=by omega
      have hox:∀ q,(Value.slice xa (nl+j) xc).ownBlock=some q→q≠xb∧q≠w.heap.size:=fun q hq=>by
       rcases hne' q hq with h|h
       ·exact HR.out.2.2.1 q h
       ·omega
      have HZ:=ah (aj hne' (aj hkz (aj hox htj)))
      clear hne' hkz hyz htj hlen'
      go_wp2_with (at_builtin;go_loud (refine mP (nl+j) rfl _ _ rfl w.heap.size (.slice xa (nl+j) xc) (aB (s ++ (t.take j).map (s.length + ·))) ((tj:Int)+(nl:Int)) HN wr.heap.size rfl rfl rfl hown' hjb hzw ?_);intro g2 cap2 w3 hown3 hk3 hat hg;have hx3:=hk3.at tY (fun e=>(HZ.out.2.2.1 xb e).1 rfl);have y0:=ak hx3 0;have y0f:=au hx3 0)
      have hgx:g2≠xb∧g2≠w.heap.size:=by
       rcases hat with h|h
       ·exact HZ.out.2.2.1 g2 h
       ·omega
      have sQ:aF w.heap.size (w3.setCell ⟨xb,0,none⟩ (.slice (some ⟨g2,0,none⟩) (nl+j+1) cap2)) (.slice (some ⟨g2,0,none⟩) (nl+j+1) cap2) (aB (s ++ (t.take (j+1)).map (s.length + ·))):=by
       have e1:aB (s ++ (t.take (j+1)).map (s.length + ·))=aB (s ++ (t.take j).map (s.length + ·)) ++ [(tj:Int)+(nl:Int)]:=by
        rw[lX HZ.out.2.2.2,List.map_append,← List.append_assoc,List.map_singleton,xk,← yC.out]
        congr 2
        omega
       rw[e1]
       exact hown3.keeps ((Keeps.refl (fun x=>x=xb) w3).setCell (p:=⟨xb,0,none⟩) (.inl rfl) _) (fun q hq e=>by simp only [Value.ownBlock,Option.some.injEq] at hq;omega)
      have hk4:Keeps (fun x=>x=xb∨(Value.slice sa nl sc).ownBlock=some x) W3 (w3.setCell ⟨xb,0,none⟩ (.slice (some ⟨g2,0,none⟩) (nl+j+1) cap2)) :=
       (HZ.out.2.1.trans hk3 (fun x hx e=>(HZ.out.1 x e).elim .inr (fun h=>by omega))).trans ((Keeps.refl (fun x=>x=xb) w3).setCell (p:=⟨xb,0,none⟩) (.inl rfl) _) (fun x hx e=>.inl e)
      have HE:=ah (aj sQ (aj (show ∀ q,(Value.slice (some ⟨g2,0,none⟩) (nl+j+1) cap2).ownBlock=some q→(Value.slice sa nl sc).ownBlock=some q∨W3.heap.size≤q from fun q hq=>by
       simp only [Value.ownBlock,Option.some.injEq] at hq
       subst hq
       rcases hat with h|h
       ·exact HZ.out.1 _ h
       ·exact .inr (by omega)) (aj (dM hx3 0 (.slice (some ⟨g2,0,none⟩) (nl+j+1) cap2)) hk4)))
      clear hown3 hk3 hat hx3 sQ hk4 hgx hown' tY
      go_wp2
      go_roundg (tl - (j+1))
      case measure=>rw[HG2.out];omega
      case rel=>exact⟨j+1,_,by omega,rfl,by go_num,HE.out⟩
     ·have hjt:j=tl:=by omega
      have htk:s ++ (t.take j).map (s.length + ·)=aS s t:=by rw[List.take_of_length_le (by rw[KI.out];omega)];rfl
      rw[htk] at hown'
      have hc1:wG (aS s t) (42 * (i+1)):=⟨NP HR.out.1.dH HY.out.1.dH,by rw[oV];have:=HR.out.1.even;have:=HY.out.1.even;omega,by rw[oV];have:=HR.out.1.le;have:=HY.out.1.le;omega⟩
      have vG:=(HR.out.2.2.2.2.2.trans H3.out.1 (fun _ _ h=>h)).trans hkz (fun x hx e=>by
       rcases e with e|e
       ·omega
       ·have:=(HR.out.2.1.lt x e).1;omega)
      have Qa:=hkz.at (H3.out.1.at HR.out.2.2.2.1 (fun h=>h)) (fun e=>by
       rcases e with e|e
       ·omega
       ·exact (HR.out.2.2.1 _ e).2 rfl)
      have hz3:W3.heap.size≤wr.heap.size:=hkz.size
      have HE:=ah (aj hc1 (aj hown' (aj (show ∀ q,(Value.slice xa (nl+j) xc).ownBlock=some q→q≠xb∧q≠w.heap.size from fun q hq=>by
       rcases hne' q hq with h|h
       ·exact HR.out.2.2.1 q h
       ·omega) (aj Qa (aj tY vG)))))
      clear hc1 hown' hne' Qa tY vG hkz htk hlen' hjt
      go_wp2
      go_roundg (n - (i+1))
      case measure=>rw[HG.out];omega
      case rel=>exact⟨i+1,_,aS s t,by omega,by omega,rfl,by go_num,HE.out⟩
  ·have HP:=ah AR
   have ame:nl≤126:=by omega
   have Bl:=HS
   clear AR HS
   by_cases hin:i<n
   case' pos =>
    have t1:decide ((i:Int)<(n:Int))=true:=decide_eq_true (by omega)
    have t2:decide (i<n)=true:=decide_eq_true hin
    have t3:decide ((3:Int)≤(i:Int))=true:=decide_eq_true (by omega)
    have t4:decide (3≤i)=true:=decide_eq_true (by omega)
    obtain⟨g,off,k,m,r,bv,ps,rfl,hgw,q0,q1,q2,q3,hk,hm,hr,hbv,hps⟩:=Bl.out i hin
    have hc:∀ {o:Nat} {v:Value},w.cell? ⟨g,o,none⟩=some v→wr.cell? ⟨g,o,none⟩=some v:=fun h=>(World.cell?_of_block (aT.block g hgw (fun h=>h))).trans h
    have q0:=hc q0
    have q1:=hc q1
    have q2:=hc q2
    have q3:=hc q3
    obtain⟨ba,bc,rfl,-,-⟩:=hbv.form
    generalize (aB ps).length=bl at *
    have hkx:∀ o,Keeps (fun _=>False) wr (wr.alloc o):=fun o=>(Keeps.refl _ wr).alloc o
    clear hbv hps hc
    go_upto_region 23 with fail
    obtain⟨W5,Jq⟩:∃ W5,W5=wr.alloc (.cells #[.int .u8 (k:Int),.int .u8 (m:Int),.slice ba bl bc,.int .u8 (r:Int)] 45):=⟨_,rfl⟩
    have k5:Keeps (fun _=>False) wr W5:=by rw[Jq];exact hkx _
    rw[← Jq]
    clear Jq hkx q0 q1 q2 q3 t1 t2 t3 t4 hlt hin
   case' neg =>
    have t1:decide ((i:Int)<(n:Int))=false:=decide_eq_false (by omega)
    have t2:decide (i<n)=false:=decide_eq_false hin
    go_upto_region 23 with fail
    clear t1 t2 hlt hin
    obtain⟨W5,Jq⟩:∃ W5,W5=wr:=⟨_,rfl⟩
    have k5:Keeps (fun _=>False) wr W5:=by rw[Jq];exact Keeps.refl _ _
    rw[← Jq]
    clear Jq
   all_goals
    have DU:=k5.at hbr (fun h=>h)
    have oP:=k5.at hbx (fun h=>h)
    have hown5:=hown.keeps k5 (fun _ _ h=>h)
    have DV:=aT.trans k5 (fun _ _ h=>h)
    have amf:xb<W5.heap.size:=lt_of_block oP
    have Qb:∀ q,(Value.slice sa nl sc).ownBlock=some q→¬ q=w.heap.size:=fun q hq=>(hne q hq).2
    have YD:∀ q,(Value.slice sa nl sc).ownBlock=some q→¬ q=xb:=fun q hq=>(hne q hq).1
    clear hbr hbx hown aT k5 hne
    by_cases hz:nl=0
    ·have s0:s=[]:=List.eq_nil_of_length_eq_zero (by rw[← yC.out];exact hz)
     have hN:=Kq (rt:=-1) (ln:=ln) hown5.sl HP.out.dH HP.out.even (by rw[← yC.out];omega) (by omega) (.inl ⟨by rw[s0];rfl,rfl⟩)
     have d0:=ak oP 0
     have d1:=ak oP 1
     have d2:=ak oP 2
     have H5:=ah (aj hown5 (aj DV (aj DU (aj oP s0))))
     have v1:decide ((0:Int)<(nl:Int))=false:=decide_eq_false (by omega)
     have v2:decide (0<nl)=false:=decide_eq_false (by omega)
     clear hown5 DV DU oP s0 hz
     go_wp2_with fail
     refine hN.mono ?_
     clear hN d0 d1 d2
     rintro e W6 ⟨b,rfl,hM,hbW,iI⟩
     have d0:=ak (iI.at H5.out.2.2.2.1 (fun h=>h)) 0
     have d1:=ak (iI.at H5.out.2.2.2.1 (fun h=>h)) 1
     have d2:=ak (iI.at H5.out.2.2.2.1 (fun h=>h)) 2
     have tZ:=iI.at H5.out.2.2.1 (fun h=>h)
     have z0:=ak tZ 0
     have z1:=ak tZ 1
     have z2:=ak tZ 2
     have u0:=au tZ 0
     have u1:=au tZ 1
     have u2:=au tZ 2
     have H6:=ah (aj hM (aj iI tZ))
     have hz6:=iI.size
     clear hM iI tZ
     go_wp2_with fail
     go_region
     all_goals
      clear d0 d1 d2 z0 z1 z2 u0 u1 u2
      have rr:=lZ H6.out.2.2 (.slice sa nl sc) (.int .i64 (-1)) (.int .i64 (ln:Int))
      have e0:=ak rr.1 0
      have e1:=ak rr.1 1
      have e2:=ak rr.1 2
      have kd:=rr.2.trans ((Keeps.refl (fun _=>False) _).drew) (fun _ _ h=>h.elim)
      go_wp2
      refine bodyPost_ret (v:=.tuple #[.pointer (some ⟨b,0,none⟩),cZ (.slice sa nl sc) (-1) (ln:Int)]) ?_ rfl ⟨b,_,s,(-1),rfl,⟨HP.out.dH,HP.out.even,by have:=HP.out.le;omega⟩,.inl ⟨by rw[H5.out.2.2.2.2];rfl,rfl⟩,⟨_,H6.out.1.keeps kd (fun h=>by omega) (fun x hx h=>by omega),fun x hx=>by omega,by omega⟩,(H5.out.1.keeps H6.out.2.1 (fun _ _ h=>h)).keeps kd (fun q hq e=>Qb q hq e),(H5.out.2.1.trans H6.out.2.1 (fun _ _ h=>h)).trans kd (fun x hx e=>by omega)⟩
      simp at e0 e1 e2
      simp[results,Tryz.results16,go_sem,cZ,e0,e1,e2]
    ·obtain⟨r0,hr0⟩:∃ r0,r0=root % nl:=⟨_,rfl⟩
     have Qc:r0<nl:=by rw[hr0];exact Nat.mod_lt _ (by omega)
     have mq:((root:Nat):Int).tmod (nl:Int)=(r0:Int):=by rw[Int.tmod_eq_emod_of_nonneg (by omega),hr0];simp
     have M7:((root:Nat):Int) % (nl:Int)=(r0:Int):=by rw[hr0];simp
     have m4:IntKind.i64.wrap (r0:Int)=(r0:Int):=IntWalk.i64_in _ (by omega)
     have m6:¬ (nl:Int)=0:=by omega
     have v1:decide ((0:Int)<(nl:Int))=true:=decide_eq_true (by omega)
     have v2:decide (0<nl)=true:=decide_eq_true (by omega)
     have c0:=ak oP 0
     have c1:=ak oP 1
     have cf:=au oP 1
     obtain⟨W7,KJ⟩:∃ W7,W7=W5.setCell ⟨xb,1,none⟩ (.int .i64 (r0:Int)):=⟨_,rfl⟩
     have TB:Keeps (fun x=>x=xb) W5 W7:=by rw[KJ];exact (Keeps.refl (fun x=>x=xb) W5).setCell (p:=⟨xb,1,none⟩) (.inl rfl) _
     have x8:W7.heap[xb]? = some (.cells #[.slice sa nl sc,.int .i64 (r0:Int),.int .i64 (ln:Int)] 27 (0,0)):=by rw[KJ];exact dM oP 1 _
     have AU:=hown5.keeps TB (fun q hq e=>YD q hq e)
     have hN:=Kq (rt:=(r0:Int)) (ln:=ln) AU.sl HP.out.dH HP.out.even (by rw[← yC.out];omega) (by omega) (.inr ⟨r0,rfl,by rw[← yC.out];exact Qc⟩)
     have d0:=ak x8 0
     have d1:=ak x8 1
     have d2:=ak x8 2
     have amh:xb<W7.heap.size:=lt_of_block x8
     have H5:=ah (aj AU (aj (DV.trans TB (fun x hx e=>by omega)) (aj (TB.at DU (fun e=>by omega)) (aj x8 (show r0<s.length by rw[← yC.out];exact Qc)))))
     rw[KJ] at d0 d1 d2
     have YE:=ah KJ
     clear hown5 DV DU oP hz hr0 TB x8 AU
     go_upto_region 25 with fail
     rw[← KJ] at d0 d1 d2 ⊢
     clear KJ YE c0 c1 cf
     go_wp2_with fail
     refine hN.mono ?_
     clear hN d0 d1 d2
     rintro e W6 ⟨b,rfl,hM,hbW,iI⟩
     have d0:=ak (iI.at H5.out.2.2.2.1 (fun h=>h)) 0
     have d1:=ak (iI.at H5.out.2.2.2.1 (fun h=>h)) 1
     have d2:=ak (iI.at H5.out.2.2.2.1 (fun h=>h)) 2
     have tZ:=iI.at H5.out.2.2.1 (fun h=>h)
     have z0:=ak tZ 0
     have z1:=ak tZ 1
     have z2:=ak tZ 2
     have u0:=au tZ 0
     have u1:=au tZ 1
     have u2:=au tZ 2
     have H6:=ah (aj hM (aj iI tZ))
     have hz6:=iI.size
     clear hM iI tZ
     go_wp2_with fail
     go_region
     all_goals
      clear d0 d1 d2 z0 z1 z2 u0 u1 u2
      have rr:=lZ H6.out.2.2 (.slice sa nl sc) (.int .i64 (r0:Int)) (.int .i64 (ln:Int))
      have e0:=ak rr.1 0
      have e1:=ak rr.1 1
      have e2:=ak rr.1 2
      have kd:=rr.2.trans ((Keeps.refl (fun _=>False) _).drew) (fun _ _ h=>h.elim)
      go_wp2
      refine bodyPost_ret (v:=.tuple #[.pointer (some ⟨b,0,none⟩),cZ (.slice sa nl sc) (r0:Int) (ln:Int)]) ?_ rfl ⟨b,_,s,(r0:Int),rfl,⟨HP.out.dH,HP.out.even,by have:=HP.out.le;omega⟩,.inr ⟨r0,rfl,H5.out.2.2.2.2⟩,⟨_,H6.out.1.keeps kd (fun h=>by omega) (fun x hx h=>by omega),fun x hx=>by omega,by omega⟩,(H5.out.1.keeps H6.out.2.1 (fun _ _ h=>h)).keeps kd (fun q hq e=>Qb q hq e),(H5.out.2.1.trans H6.out.2.1 (fun _ _ h=>h)).trans kd (fun x hx e=>by omega)⟩
      simp at e0 e1 e2
      simp[results,Tryz.results16,go_sem,cZ,e0,e1,e2]
end
section
open Go.RowKit Go.ChangeShapes Go.WideShapes
theorem qhw{H:Type}{enc:TypeId × Value→H}{P:Program}{w:World}{base:Nat}{held:Bool}{t e:TypeId}{fuel:Nat}{cs:List Value}{x:DataW H × List MemPlace}(ht:P.underlying t=some (.slice e))(he:P.underlying e=some (.int .u8))(hc:P.cellsOf e=1)
  (h:DataW.trod enc P w base (fun _=>true) held fuel t cs=some x):∃ (bv:Value) (ps:List Nat),cs=[bv]∧Sl .u8 w bv (aB ps)∧∀ b ∈ ps,b<256:=by
 rcases open_ints ht he hc h with⟨hcs,_⟩|⟨y,l,c,zs,hcs,_,hl,hm,hz,_,hcell,hwz⟩
 ·obtain⟨ps,h1,h2⟩:=RowIn.bytes (w:=w) (a:=none) (len:=0) (cap:=0) (zs:=[]) (.inl ⟨rfl,rfl,rfl,rfl⟩)
  exact⟨_,ps,hcs,h1,h2⟩
 ·obtain⟨ps,h1,h2⟩:=RowIn.bytes (.inr ⟨y,rfl,hl,hm,by simpa using hz,hcell,hwz⟩)
  exact⟨_,ps,hcs,h1,h2⟩
theorem qbv{H:Type}{enc:TypeId × Value→H}{P:Program}{w:World}{base:Nat}{held:Bool}{t:TypeId}{fuel:Nat}{cs:List Value}{x:DataW H × List MemPlace}(ht:P.underlying t=some (.int .u8))
  (h:DataW.trod enc P w base (fun _=>true) held fuel t cs=some x):∃ k:Nat,cs=[.int .u8 k]∧k<256:=by
 obtain⟨n,hcs,_,hw⟩:=DataW.trod_int ht h
 obtain⟨k,rfl,hk⟩:=u8_in hw
 exact⟨k,hcs,hk⟩
theorem qp5{H:Type}{enc:TypeId × Value→H}{P:Program}{w:World}{base:Nat}{held:Bool}{t e s:TypeId}{f0 f1 f2 f3:Field}{fuel:Nat}{cs:List Value}{a:Option Addr}{len cap:Nat}{x:DataW H × List MemPlace}
  (ht:P.underlying t=some (.slice e))(he:P.underlying e=some (.struct #[f0,f1,f2,f3]))(ce:P.cellsOf e=4)(o0:f0.offset=0)(o1:f1.offset=1)(o2:f2.offset=2)(o3:f3.offset=3)
  (u0:P.underlying f0.type=some (.int .u8))(u1:P.underlying f1.type=some (.int .u8))(u2:P.underlying f2.type=some (.slice s))(us:P.underlying s=some (.int .u8))(u3:P.underlying f3.type=some (.int .u8))
  (c0:P.cellsOf f0.type=1)(c1:P.cellsOf f1.type=1)(c2:P.cellsOf f2.type=1)(c3:P.cellsOf f3.type=1)(cz:P.cellsOf s=1)
  (h:DataW.trod enc P w base (fun _=>true) held fuel t cs=some x)(hcs:cs=[.slice a len cap]):SomesAt w a len:=by
 rcases Go.Deep.open_slice ht h with⟨h0,_⟩|⟨y,l,c,m,n,D,Pl,h0,hb,hl,hm,hmm,rfl,hx⟩
 ·rw[hcs] at h0
  simp only [List.cons.injEq,Value.slice.injEq,and_true] at h0
  obtain⟨rfl,rfl,rfl⟩:=h0
  intro j hj
  omega
 ·rw[hcs] at h0
  simp only [List.cons.injEq,Value.slice.injEq,and_true] at h0
  obtain⟨rfl,rfl,rfl⟩:=h0
  simp only [if_true] at hmm
  subst hmm
  have hcell:∀ j,j<len→∃ (k1 m1 r1:Nat) (bv:Value) (ps:List Nat),w.cell? (y.add (j * 4))=some (.int .u8 k1)∧w.cell? (y.add (j * 4+1))=some (.int .u8 m1)∧w.cell? (y.add (j * 4+2))=some bv∧w.cell? (y.add (j * 4+3))=some (.int .u8 r1)∧k1<256∧m1<256∧r1<256∧Sl .u8 w bv (aB ps)∧∀ b ∈ ps,b<256:=by
   intro j hj
   obtain⟨cs',h1,h2⟩:=hx j (by omega)
   rw[ce] at h1
   obtain⟨_,hlen,hcell⟩:=World.cells?_some h1
   obtain⟨y0,y1,y2,y3,n',_,_,g0,g1,g2,g3⟩:=Go.Joins.trod_struct4 he h2
   match cs',hlen with
   | [v0,v1,v2,v3],_ =>
    simp[o0,o1,o2,o3,c0,c1,c2,c3] at g0 g1 g2 g3
    have e0:=hcell 0 (by omega)
    have e1:=hcell 1 (by omega)
    have e2:=hcell 2 (by omega)
    have e3:=hcell 3 (by omega)
    rw[Go.Deep.add_add] at e0 e1 e2 e3
    obtain⟨k1,q0,l0⟩:=qbv u0 g0
    obtain⟨m1,q1,l1⟩:=qbv u1 g1
    obtain⟨bv,ps,q2,l2,l2'⟩:=qhw u2 us cz g2
    obtain⟨r1,q3,l3⟩:=qbv u3 g3
    simp only [List.cons.injEq,and_true] at q0 q1 q2 q3
    subst q0 q1 q2 q3
    exact⟨k1,m1,r1,v2,ps,by simpa using e0,by simpa using e1,by simpa using e2,by simpa using e3,l0,l1,l3,l2,l2'⟩
  intro j hj
  obtain⟨k0,m0,r0,bv0,ps0,z0,-⟩:=hcell 0 (by omega)
  have hy:=TI z0
  rw[Nat.zero_mul] at hy
  have hy':y=⟨y.block,y.off,none⟩:=by simpa [Addr.add] using hy
  have hadd:∀ i,y.add i=⟨y.block,y.off+i,none⟩:=by
   intro i
   rw[hy']
   by_cases hi:i=0
   ·subst hi;simp[Addr.add]
   ·simp[Addr.add,hi]
  obtain⟨k1,m1,r1,bv,ps,e0,e1,e2,e3,l0,l1,l2,l3,l4⟩:=hcell j hj
  rw[hadd] at e0 e1 e2 e3
  exact⟨y.block,y.off,k1,m1,r1,bv,ps,by rw[← hy'],by have:=World.block_lt_of_cell? w _ e0;exact this,e0,by rw[← Nat.add_assoc] at e1;exact e1,by rw[← Nat.add_assoc] at e2;exact e2,by rw[← Nat.add_assoc] at e3;exact e3,l0,l1,l2,l3,l4⟩
end
