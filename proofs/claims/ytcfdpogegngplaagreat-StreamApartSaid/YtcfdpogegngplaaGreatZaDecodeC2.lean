import Derived.Deep.RegionWith
import Derived.Test.YtcfdpogegngplaaGreatZaDecodeC
set_option maxRecDepth 100000
set_option maxHeartbeats 4000000
namespace Go.Proofs.YtcfdpogegngplaaGreat
open Go.RowKit
def ql3 (w:World) (k n:Nat) (F:List Bool) (e:Ending) (w':World):Prop :=
 (encK k (decK k n F)=F∧∃ b,e=.returned (.tuple #[.pointer (some ⟨b,0,none⟩),.int .i64 0])∧VecNew w b (decK k n F) w') ∨
 (encK k (decK k n F)≠F∧e=.returned (.tuple #[.pointer none,.int .i64 10])∧Keeps (fun _=>False) w w')
theorem q3z (bp:Nat) (pv:Value) (F:List Bool) (n k:Nat) (w:World) (hv:VecAt w bp pv F) (hFl:F.length≤100000000) (hn:n≤1000000) (hk:k≤8) :
  Calls Tryz.prog 210 #[.pointer (some ⟨bp,0,none⟩),.int .i64 n,.int .i64 k] w (ql3 w k n F):=by
 have hnot:∀ (x:Bool) (w:World),(Op.unary .not (.bool x)).run Tryz.prog w=.ok (.bool (!x)) w:=fun _ _=>rfl
 have HV:Hid (∀ W,Keeps (fun _=>False) w W→VecAt W bp pv F):=Lib.hid (fun W hk=>hv.keeps hk (fun h=>h) (fun _ _ h=>h))
 have hbp:=hv.lt
 have hap:=hv.apart
 have hR:=q4v k w hk
 have t0:decide ((n:Int)<0)=false:=decide_eq_false (by omega)
 have t1:decide ((16777216:Int)<(n:Int))=false:=decide_eq_false (by omega)
 clear hv
 go_enter Tryz.func210,Tryz.ntmps210
 go_wp2_with fail
 refine hR.mono ?_
 rintro e w' ⟨rfl,rfl⟩
 clear hR
 go_wp2_with fail
 obtain⟨br,hbr⟩:∃ br,br=w.heap.size:=⟨_,rfl⟩
 rw[← hbr]
 have hini:∃ W1,W1=w.alloc (.cells #[.int .u64 0,.int .u64 4294967295,.pointer (some ⟨bp,0,none⟩),.int .i64 0,.int .u64 0] 325):=⟨_,rfl⟩
 obtain⟨W1,hW1⟩:=hini
 have hRd:RdC W1 br bp 0 4294967295 0 (preV F 0)∧Keeps (fun _=>False) w W1:=by
  have hb:=heap_alloc_new w (.cells #[.int .u64 0,.int .u64 4294967295,.pointer (some ⟨bp,0,none⟩),.int .i64 0,.int .u64 0] 325)
  have k1:=(Keeps.refl (fun _=>False) w).alloc (.cells #[.int .u64 0,.int .u64 4294967295,.pointer (some ⟨bp,0,none⟩),.int .i64 0,.int .u64 0] 325)
  rw[← hW1] at hb k1
  rw[← hbr] at hb
  exact⟨hb,k1⟩
 rw[← hW1]
 have HRD:=Lib.hid hRd
 have HBR:=Lib.hid (show w.heap.size≤br∧bp≠br∧pv.ownBlock≠some br from ⟨by omega,by omega,fun e=>by have:=(hap _ e).2;omega⟩)
 clear hRd hW1 hbr hap hbp
 go_loopg [31] 32 (fun mu iv wr=>∃ j:Nat,j≤32∧mu=32 - j∧iv=.int .i64 j∧RdC wr br bp 0 4294967295 j (preV F j)∧Keeps (fun _=>False) w wr)
 case atStart=>exact⟨0,by omega,rfl,rfl,HRD.out⟩
 case round =>
  clear HRD
  obtain⟨j,hj,hgk,rfl,hRj,hkj⟩:=hrel
  have HG:=Lib.hid hgk
  clear hgk
  by_cases hlt:j<32
  ·have hN:=q4t br bp pv F 0 4294967295 j (preV F j) wr hRj (HV.out wr hkj) HBR.out.2.1 HBR.out.2.2 (by omega) (by omega) (by
    have h1:=qio F j
    have h2:2 ^ j≤2 ^ 32:=Nat.pow_le_pow_right (by decide) (by omega)
    omega)
   have HK:=Lib.hid hkj
   clear hRj hkj
   go_wp2_with fail
   refine hN.mono ?_
   clear hN
   rintro e w2 ⟨rfl,hR2,hk2⟩
   have HF:Hid (RdC w2 br bp 0 4294967295 (j+1) (preV F (j+1))∧Keeps (fun _=>False) w w2):=Lib.hid ⟨hR2,HK.out.trans hk2 (fun x hx e=>by have:=HBR.out.1;omega)⟩
   clear hR2 hk2
   go_wp2_with fail
   go_roundg (32 - (j+1))
   case measure=>rw[HG.out];omega
   case rel=>exact⟨j+1,by omega,rfl,by go_num,HF.out⟩
  ·obtain rfl:j=32:=by omega
   have hMo:=q8g k wr hk
   have hbrw:br<wr.heap.size:=lt_of_block hRj
   have HR:=Lib.hid (And.intro hRj (And.intro hkj hbrw))
   clear hRj hkj hbrw
   go_wp2_with fail
   refine hMo.mono ?_
   clear hMo
   rintro e w2 ⟨bm,gc,rfl,hCM,hbm,hgc,hk2⟩
   have hNw:=q3h w2
   have HM:=Lib.hid (And.intro hCM (And.intro hbm (And.intro hgc hk2)))
   clear hCM hbm hgc hk2
   go_wp2_with fail
   refine hNw.mono ?_
   clear hNw
   rintro e w3 ⟨rfl,hw3⟩
   obtain⟨bo,hbo⟩:∃ bo,bo=w2.heap.size:=⟨_,rfl⟩
   rw[← hbo]
   have hE0:DecW w br bm gc bo bp (.slice none 0 0) (decIt F 0 (q06 k F)).1 (decIt F 0 (q06 k F)).2 (decIt F 0 (q06 k F)).2.l (decIt F 0 (q06 k F)).2.h (decS F 0 (q06 k F)) w3:=by
    obtain⟨h1,h2,h3⟩:=HR.out
    obtain⟨g1,g2,g3,g4⟩:=HM.out
    have hvn:=q4z w2
    have k3:=(Keeps.refl (fun _=>False) w2).alloc (.cells #[.slice none 0 0,.int .i64 0] 203)
    rw[← hw3] at hvn k3
    rw[← hbo] at hvn
    have s1:=h2.size
    have s2:=g4.size
    have hbm2:bm<w2.heap.size:=lt_of_block g1.1
    have hgc2:gc<w2.heap.size:=by obtain⟨arr,h,_⟩:=g1.2.1;exact lt_of_block h
    have hb1:=HBR.out.1
    exact⟨(h1.keeps g4 (fun h=>h)).keeps k3 (fun h=>h),g1.keeps k3 (fun h=>h) (fun h=>h),hvn,⟨hb1,by omega,by omega,by omega,fun q hq=>by simp[Value.ownBlock] at hq⟩,⟨by omega,by omega,by omega,by omega,by omega,by simp[Value.ownBlock],by simp[Value.ownBlock],by simp[Value.ownBlock]⟩,(h2.trans g4 (fun _ _ h=>h)).trans k3 (fun _ _ h=>h)⟩
   have HE0:=Lib.hid hE0
   clear hE0 hw3 hbo HR HM
   go_wp2_with fail
   go_loopg [40] n (fun mu iv wr=>∃ (j:Nat) (vo:Value),j≤n∧mu=n - j∧iv=.int .i64 j∧DecW w br bm gc bo bp vo (decIt F j (q06 k F)).1 (decIt F j (q06 k F)).2 (decIt F j (q06 k F)).2.l (decIt F j (q06 k F)).2.h (decS F j (q06 k F)) wr)
   case atStart=>exact⟨0,_,by omega,rfl,rfl,HE0.out⟩
   case round =>
    clear HE0
    obtain⟨j,vo,hj,hgk,rfl,hE⟩:=hrel
    have HG:=Lib.hid hgk
    clear hgk
    have hok:=ql2 F k j
    have hsl:=q53 F j (q06 k F)
    by_cases hlt:j<n
    ·have hsu:=qbu F j (q06 k F)
     have hde:decIt F (j+1) (q06 k F)=q12 F (decIt F j (q06 k F)):=rfl
     obtain⟨m,d,hmd⟩:∃ m d,decIt F j (q06 k F)=(m,d):=⟨_,_,rfl⟩
     rw[hmd] at hE hok hsu hde
     simp only at hE hok
     obtain⟨x,hx⟩:∃ x,x=bitC (m,d):=⟨_,rfl⟩
     rw[← hx] at hsu
     generalize decS F j (q06 k F)=out at *
     obtain⟨hmo,hnr,hin,hda⟩:=hok
     obtain⟨hcok,hcur⟩:=hmo.cur
     have hcm:=hE.cm
     have d0:=World.cell_of_heap hcm.1 0
     have d1:=World.cell_of_heap hcm.1 1
     obtain⟨e1,e2,_⟩:=hcm.2.1.cell hcur
     have hnw:m.now<m.cs.length:=by rw[hmo.len];exact hmo.lt
     have HX:=Lib.hid (And.intro hE (And.intro hmo (And.intro hnr (And.intro hin (And.intro hda (And.intro hcok (And.intro hsu (And.intro hde hx))))))))
     have hcsl:m.cs.length≤256:=by rw[hmo.len];exact Nat.pow_le_pow_right (by decide) hk (n:=2)
     clear hE hmo hnr hin hda hcok hsu hde hx hmd hcur hcm
     obtain⟨c1,c2,hcc⟩:∃ c1 c2,m.cur=(c1,c2):=⟨_,_,rfl⟩
     rw[hcc] at e1 e2
     simp only at e1 e2
     have HCC:=Lib.hid hcc
     clear hcc
     generalize hNN:m.cs.length=NN at *
     generalize hnw2:m.now=nw at *
     have HS:Hid (∀ W,Keeps (fun _=>False) wr W→W.cell? ⟨bm,0,none⟩=some (.slice (some ⟨gc,0,none⟩) NN NN)∧W.cell? ⟨bm,1,none⟩=some (.int .u64 nw)∧W.cell? ⟨gc,nw * 2,none⟩=some (.int .u64 c1)∧W.cell? ⟨gc,nw * 2+1,none⟩=some (.int .u64 c2)):=Lib.hid (fun W hW=>by
      have h1:=HX.out.1.cm.keeps hW (fun h=>h) (fun h=>h)
      obtain⟨h2,h3,_⟩:=h1.2.1.cell HX.out.2.1.cur.2
      rw[hnw2,HCC.out] at h2 h3
      have h4:=World.cell_of_heap h1.1 0
      have h5:=World.cell_of_heap h1.1 1
      rw[hNN,hnw2] at h4 h5
      exact⟨h4,h5,h2,h3⟩)
     clear hNN hnw2
     go_wp2_with fail
     go_upto_region 14 with fail
     go_cut [11] from 42 to 51 (fun v wx=>∃ gl,v=.pointer (some ⟨gl,0,none⟩)∧wx.heap[gl]? = some (.cells #[.int .u64 c1,.int .u64 c2] 270 (0,0))∧DecW w br bm gc bo bp vo m d d.l d.h out wx)
     case first =>
      go_region_held3 (fun w'=>w'.cell? ⟨bm,0,none⟩=some (.slice (some ⟨gc,0,none⟩) NN NN)∧w'.cell? ⟨bm,1,none⟩=some (.int .u64 nw)∧w'.cell? ⟨gc,nw * 2,none⟩=some (.int .u64 c1)∧w'.cell? ⟨gc,nw * 2+1,none⟩=some (.int .u64 c2)) (first|exact HS.out wr (Keeps.refl _ wr)|exact HS.out _ (((Keeps.refl (fun _=>False) wr).alloc _).drew)|exact HS.out _ ((Keeps.refl (fun _=>False) wr).alloc _)) (fail)
      all_goals
       have hb:=heap_alloc_new wr (.cells #[.int .u64 c1,.int .u64 c2] 270)
       have HF:Hid ((wr.alloc (.cells #[.int .u64 c1,.int .u64 c2] 270)).drew.heap[wr.heap.size]? = some (.cells #[.int .u64 c1,.int .u64 c2] 270 (0,0))∧DecW w br bm gc bo bp vo m d d.l d.h out (wr.alloc (.cells #[.int .u64 c1,.int .u64 c2] 270)).drew):=Lib.hid ⟨hb,HX.out.1.still (((Keeps.refl (fun _=>False) wr).alloc _).drew)⟩
       clear hb
       go_wp2
       go_meet
       exact⟨_,rfl,HF.out⟩
     case rest =>
      obtain⟨gl,rfl,hgl,hE⟩:=hcut
      have d2:=World.cell_of_heap hgl 0
      have d3:=World.cell_of_heap hgl 1
      have hrd:=hE.rd.c4
      have hMid:=fun W (hW:Keeps (fun _=>False) wc W)=>q8l br d.l d.h (c1,c2) 325 _ W ((hE.still hW).rd) HX.out.2.2.1 (by rw[← HCC.out];exact HX.out.2.2.2.2.2.1)
      obtain⟨M,hM⟩:∃ M,M=midC d.l d.h (c1,c2):=⟨_,rfl⟩
      rw[← hM] at hMid
      have hxd:decide ((M:Int)<(d.v:Int))=x:=by
       have h1:x=decide (midC d.l d.h m.cur<d.v):=HX.out.2.2.2.2.2.2.2.2
       rw[h1,hM,HCC.out]
       by_cases h2:midC d.l d.h (c1,c2)<d.v
       ·rw[decide_eq_true h2,decide_eq_true (by omega)]
       ·rw[decide_eq_false h2,decide_eq_false (by omega)]
      have HXN:Hid (decide (M<d.v)=x):=Lib.hid (by
       rw[← hxd]
       by_cases h2:M<d.v
       ·rw[decide_eq_true h2,decide_eq_true (by omega)]
       ·rw[decide_eq_false h2,decide_eq_false (by omega)])
      have hvb:d.v≤4294967296:=by have:=HX.out.2.2.2.1.2;have:=HX.out.2.2.1.2.1;omega
      have hMd:=hMid wc.drew (Keeps.refl _ wc).drew
      have HE:=Lib.hid (And.intro hE hgl)
      have HC:Hid (∀ W,Keeps (fun _=>False) wc W→W.cell? ⟨br,4,none⟩=some (.int .u64 d.v)∧W.cell? ⟨gl,0,none⟩=some (.int .u64 c1)∧W.cell? ⟨gl,1,none⟩=some (.int .u64 c2)):=Lib.hid (fun W hW=>⟨(hE.still hW).rd.c4,World.cell_of_heap (hW.at hgl (fun h=>h)) 0,World.cell_of_heap (hW.at hgl (fun h=>h)) 1⟩)
      clear hE hgl hM hMid
      clear HS
      go_wp2_with fail
      go_upto_region 16 with fail
      go_cut [61] from 52 to 60 (fun t wx=>t=.bool x∧wx.heap[gl]? = some (.cells #[.int .u64 c1,.int .u64 c2] 270 (0,0))∧DecW w br bm gc bo bp vo m d d.l d.h out wx)
      case first =>
       go_region_held3 (fun w'=>w'.cell? ⟨br,4,none⟩=some (.int .u64 d.v)∧w'.cell? ⟨gl,0,none⟩=some (.int .u64 c1)∧w'.cell? ⟨gl,1,none⟩=some (.int .u64 c2)) (first|exact HC.out wc (Keeps.refl _ wc)|exact HC.out _ (Keeps.refl (fun _=>False) wc).drew|exact HC.out _ HK5.out) ((go_at_call 239;refine hMd.mono ?_;rintro e w5 ⟨rfl,hk5⟩;have HK5:Hid (Keeps (fun _=>False) wc w5):=Lib.hid ((Keeps.refl (fun _=>False) wc).drew.trans hk5 (fun _ _ h=>h));clear hk5))
       all_goals
        go_wp2
        go_meet
        exact⟨by rw[HXN.out],HK5.out.at HE.out.2 (fun h=>h),HE.out.1.still HK5.out⟩
      case rest =>
       obtain⟨rfl,hgl,hE⟩:=hcut
       clear HC hMd hxd HXN HE d2 d3 hrd
       have d2:=World.cell_of_heap hgl 0
       have d3:=World.cell_of_heap hgl 1
       have HE:=Lib.hid (And.intro hE hgl)
       clear hE hgl
       generalize wc=wy at *
       go_upto_if 61 with fail
       go_cut [12] from 12 to 12 (fun v wx=>v=.int .i64 ((x.toNat:Nat):Int)∧wx=wy)
       case first =>
        cases x
        ·go_wp2
         go_meet
         exact⟨rfl,rfl⟩
        ·go_wp2
         go_meet
         exact⟨rfl,rfl⟩
       case rest =>
        obtain⟨rfl,hww⟩:=hcut
        subst hww
        have hTk:=fun W (hW:Keeps (fun _=>False) wc W)=>(HE.out.1.still hW).take HX.out.2.2.1 HX.out.2.2.2.2.2.1 x
        rw[HCC.out] at hTk
        simp only at hTk
        have hTd:=hTk wc.drew (Keeps.refl _ wc).drew
        have hTI:=qfg (x:=(m,d)) HX.out.2.1 HX.out.2.2.1 HX.out.2.2.2.1
        rw[← HX.out.2.2.2.2.2.2.2.2] at hTI
        simp only at hTI
        rw[HCC.out] at hTI
        obtain⟨d1,hd1⟩:∃ d1,d1=takeC (c1,c2) x d:=⟨_,rfl⟩
        rw[← hd1] at hTI hTd
        have hd1a:d1.a=d.a:=by rw[hd1];unfold takeC;cases x <;> rfl
        have HD1:=Lib.hid (And.intro hd1 (And.intro hd1a hTI))
        clear hTk hTI hd1 hd1a
        go_wp2_with fail
        go_upto_region 18 with fail
        go_cut [] from 62 to 67 (fun wx=>DecW w br bm gc bo bp vo m d1 d1.l d1.h out wx)
        case first =>
         go_region_with (go_at_call 199;refine hTd.mono ?_;rintro e w5 ⟨rfl,hE5⟩)
         all_goals
          go_wp2
          go_meet
          exact hE5
        case rest =>
         have hSee:=q72 bm gc m (2 ^ k) x wc hcut.cm HX.out.2.1 (by
          have:2 ^ k≤2 ^ 8:=Nat.pow_le_pow_right (by omega) hk
          omega)
         have HC:=Lib.hid hcut
         clear hcut hTd d2 d3 HE
         go_wp2_with fail
         refine hSee.mono ?_
         clear hSee
         rintro e w3 ⟨rfl,hM3,hk3⟩
         have hE3:=HC.out.see hM3 hk3
         have hAd:=hE3.add x (by omega)
         clear hE3 hM3 hk3
         go_wp2_with fail
         refine hAd.mono ?_
         clear hAd
         rintro e w4 ⟨rfl,vo4,hE4⟩
         have hDb:=hE4.double HD1.out.2.2.2.1 HD1.out.2.2.2.2
         clear hE4
         go_wp2_with fail
         refine hDb.mono ?_
         clear hDb
         rintro e w5 ⟨rfl,hE5⟩
         obtain⟨D,hD⟩:∃ D,D=normC F 33 d1:=⟨_,rfl⟩
         have h0:∃ (i:Nat) (d':DC),i≤33∧33 - 0=33 - i∧Value.int .i64 (way d1.l d1.h:Nat)=.int .i64 (way d'.l d'.h:Nat)∧normC F (33 - i) d'=D∧InD d'∧d'.h<4294967296∧2 ^ i≤d'.h - d'.l+1∧d'.a≤d.a+i∧DecW w br bm gc bo bp vo4 (m.see x) d' (dblL d'.l d'.h) (dblH d'.l d'.h) (out ++ [x]) w5:=⟨0,d1,by omega,rfl,rfl,hD.symm,HD1.out.2.2.1,HD1.out.2.2.2.2,by rw[Nat.pow_zero];omega,by have:=HD1.out.2.1;omega,hE5⟩
         have H0:=Lib.hid h0
         have HD:=Lib.hid hD
         clear h0 hE5 hD HC
         go_wp2_with fail
         go_loopg [13] 33 (fun mu wv wr=>∃ (i:Nat) (d':DC),i≤33∧mu=33 - i∧wv=.int .i64 (way d'.l d'.h:Nat)∧normC F (33 - i) d'=D∧InD d'∧d'.h<4294967296∧2 ^ i≤d'.h - d'.l+1∧d'.a≤d.a+i∧DecW w br bm gc bo bp vo4 (m.see x) d' (dblL d'.l d'.h) (dblH d'.l d'.h) (out ++ [x]) wr)
         case atStart=>exact H0.out
         case round =>
          clear H0
          obtain⟨i,d',hi,hgi,rfl,hN,hI,hh,hr,ha,hE⟩:=hrel
          have HGi:=Lib.hid hgi
          clear hgi
          by_cases hw0:way d'.l d'.h=0
          ·have hDd:D=d':=by
            rw[← hN]
            cases 33 - i with
            | zero=>rfl
            | succ q=>unfold normC;rw[if_pos hw0]
           have hl:dblL d'.l d'.h=d'.l∧dblH d'.l d'.h=d'.h:=by unfold dblL dblH;rw[if_pos hw0,if_pos hw0];exact⟨rfl,rfl⟩
           have hfin:DecW w br bm gc bo bp vo4 (decIt F (j+1) (q06 k F)).1 (decIt F (j+1) (q06 k F)).2 (decIt F (j+1) (q06 k F)).2.l (decIt F (j+1) (q06 k F)).2.h (decS F (j+1) (q06 k F)) wr:=by
            have hst:decIt F (j+1) (q06 k F)=(m.see x,D):=by
             rw[HX.out.2.2.2.2.2.2.2.1,HD.out,HD1.out.1,HX.out.2.2.2.2.2.2.2.2,← HCC.out]
             rfl
            rw[hst,HX.out.2.2.2.2.2.2.1,hDd]
            rw[hl.1,hl.2] at hE
            exact hE
           have HFin:=Lib.hid hfin
           rw[hw0]
           clear hfin hE hN hI hh hr ha hl hDd hw0
           go_wp2_with fail
           go_roundg (n - (j+1))
           case measure=>rw[HG.out];omega
           case rel=>exact⟨j+1,vo4,by omega,rfl,by go_num,HFin.out⟩
          ·have hlt33:i<33:=pow33 hi hr (by have:=hI.1;have:=hI.2;omega)
           obtain⟨hI2,hh2,hr2⟩:=hI.step (F:=F) hh hw0
           have hoff:=qc7 (l:=d'.l) (h:=d'.h) (by have:=hI.1;have:=hI.2;omega)
           have hN2:normC F (33 - (i+1)) (stepC F d')=D:=by
            rw[← hN,show 33 - i=33 - (i+1)+1 by omega]
            show _=normC F (33 - (i+1)+1) d'
            conv=>rhs;unfold normC
            rw[if_neg hw0]
           have hl:dblL d'.l d'.h=(stepC F d').l∧dblH d'.l d'.h=(stepC F d').h:=by unfold dblL dblH;rw[if_neg hw0,if_neg hw0];exact⟨rfl,rfl⟩
           rw[hl.1,hl.2] at hE
           obtain⟨kw,hkw⟩:∃ kw,kw=way d'.l d'.h:=⟨_,rfl⟩
           have hk13:kw=1∨kw=2∨kw=3:=by
            rcases q1w d'.l d'.h with⟨e,_⟩|⟨e,_⟩|⟨e,_⟩|⟨e,_⟩
            ·exact .inl (by rw[hkw,e])
            ·exact .inr (.inl (by rw[hkw,e]))
            ·exact .inr (.inr (by rw[hkw,e]))
            ·exact absurd e hw0
           have hix:∀ W,(Instr.index 326 (.agg #[.int .u64 0,.int .u64 0,.int .u64 2147483648,.int .u64 1073741824]) (.int .i64 (kw:Nat))).run Tryz.prog W=.ok (.int .u64 (offW kw:Nat)) W:=by
            intro W
            rcases hk13 with rfl|rfl|rfl <;> rfl
           have hq:((kw:Int) != 0)=true:=by rw[bne_iff_ne];omega
           obtain⟨z,hz⟩:∃ z,z=d'.v - offW kw:=⟨_,rfl⟩
           have hzi:(d'.v:Int) - (offW kw:Int)=(z:Int):=by rw[hz];rw[← hkw] at hoff;have:=hI.1;omega
           have hzb:z≤4294967296:=by have:=hI.2;omega
           have hcv:=hE.rd.c4
           have hcf:=hE.rd.free
           have hE2:=hE.value z
           have hE2d:=hE2.still ((Keeps.refl (fun _=>False) _).drew)
           have hNx:=hE2d.next (HV.out _ hE2d.kee) HBR.out.2.1 HBR.out.2.2 (by omega) (by show d'.a≤_;have:=HX.out.2.2.2.2.1;omega) hzb
           have hstp:({ l:=d'.l,h:=d'.h,v:=2 * z+(F.getD d'.a false).toNat,a:=d'.a+1 }:DC).a=(stepC F d').a∧2 * z+(F.getD d'.a false).toNat=(stepC F d').v:=⟨rfl,by rw[hz,hkw];rfl⟩
           have HH:=Lib.hid (And.intro hN2 (And.intro hI2 (And.intro hh2 (And.intro hr2 (And.intro hr (And.intro ha (And.intro hstp (And.intro hkw hl))))))))
           have hvb:(d'.v:Int)≤4294967296:=by have:=hI.2;omega
           rw[← hkw]
           clear hN hI hr ha hN2 hI2 hh2 hr2 hstp hz hkw hE hE2 hE2d hk13 hoff hw0 hh hl
           generalize offW kw=of at *
           go_wp2_with fail
           go_region
           all_goals
            go_wp2_with fail
            refine hNx.mono ?_
            rintro e w6 ⟨rfl,hE6⟩
            have hE7:DecW w br bm gc bo bp vo4 (m.see x) (stepC F d') (stepC F d').l (stepC F d').h (out ++ [x]) w6:=by
             have h1:=HH.out.2.2.2.2.2.2.1
             refine⟨?_,hE6.cm,hE6.vec,hE6.lo,hE6.ap,hE6.kee⟩
             have h2:=hE6.rd
             simp only at h2
             rw[h1.2] at h2
             exact h2
            have hDb:=hE7.double (by have:=HH.out.2.1.1;have:=HH.out.2.1.2;omega) HH.out.2.2.1
            clear hE6 hE7
            go_wp2_with fail
            refine hDb.mono ?_
            rintro e w7 ⟨rfl,hE8⟩
            have HF:=Lib.hid hE8
            clear hE8 hDb
            go_wp2_with fail
            go_roundg (33 - (i+1))
            case measure=>rw[HGi.out];omega
            case rel=>exact⟨i+1,stepC F d',by omega,rfl,rfl,HH.out.1,HH.out.2.1,HH.out.2.2.1,by rw[HH.out.2.2.2.1,Nat.pow_succ];have:=HH.out.2.2.2.2.1;omega,by have:=HH.out.2.2.2.2.2.1;show d'.a+1≤_;omega,HF.out⟩
    ·obtain rfl:j=n:=by omega
     have hkK:DecW w br bm gc bo bp vo (decIt F j (q06 k F)).1 (decIt F j (q06 k F)).2 (decIt F j (q06 k F)).2.l (decIt F j (q06 k F)).2.h (decK k j F) wr:=hE
     have hEn:=q40 bo vo (decK k j F) k wr hkK.vec (by show (decS F j (q06 k F)).length≤_;omega) hk
     have HE:=Lib.hid hkK
     clear hE hok hsl hkK
     go_wp2_with fail
     refine hEn.mono ?_
     clear hEn
     rintro e w5 ⟨b5,v5,rfl,hv5,hb5,hvo5,hk5⟩
     have hVw:=HV.out w5 (HE.out.kee.trans hk5 (fun _ _ h=>h))
     have hlen:(encK k (decK k j F)).length≤100000000:=by
      have:=q7u k (decK k j F)
      have:(decK k j F).length=j:=q53 F j (q06 k F)
      omega
     have hSm:=qdg b5 bp v5 pv (encK k (decK k j F)) F w5 hv5 hVw hlen
     have HK5:=Lib.hid hk5
     clear hv5 hb5 hvo5 hk5 hVw hlen
     go_wp2_with fail
     refine hSm.mono ?_
     clear hSm
     rintro e w6 ⟨rfl,hk6⟩
     have HK6:=Lib.hid (HK5.out.trans hk6 (fun _ _ h=>h))
     clear hk6
     by_cases hS:encK k (decK k j F)=F
     ·rw[decide_eq_true hS]
      have HS:=Lib.hid hS
      clear hS
      go_wp2_with fail
      refine bodyPost_ret (v:=.tuple #[.pointer (some ⟨bo,0,none⟩),.int .i64 0]) (by simp[results,Tryz.results210,go_sem]) rfl ?_
      have h6:=HE.out.still HK6.out
      exact .inl ⟨HS.out,bo,rfl,vo,h6.vec,h6.lo.2.2.2.1,h6.lo.2.2.2.2,h6.kee⟩
     ·rw[decide_eq_false hS]
      have HS:=Lib.hid hS
      clear hS
      go_wp2_with fail
      refine bodyPost_ret (v:=.tuple #[.pointer none,.int .i64 10]) (by simp[results,Tryz.results210,go_sem]) rfl ?_
      exact .inr ⟨HS.out,rfl,(HE.out.still HK6.out).kee⟩
end Go.Proofs.YtcfdpogegngplaaGreat
