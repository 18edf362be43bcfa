import Derived.Test.YtcfdpogegngplaaGreatZg0z
set_option maxRecDepth 100000
set_option maxHeartbeats 4000000
namespace Go.Proofs.YtcfdpogegngplaaGreat
open Go.RowKit
def qmh(w:World)(k n:Nat)(F:List Bool)(e:Ending)(w':World):Prop :=
 (fU k (jP k n F)=F∧∃ b,e=.returned (.tuple #[.pointer (some ⟨b,0,none⟩),.int .i64 0])∧aY w b (jP k n F) w') ∨
 (fU k (jP k n F)≠F∧e=.returned (.tuple #[.pointer none,.int .i64 10])∧Keeps (fun _=>False) w w')
theorem q4g(bp:Nat)(pv:Value)(F:List Bool)(n k:Nat)(w:World)(hv:aK w bp pv F)(zQ:F.length≤100000000)(hn:n≤1000000)(hk:k≤8) :
  Calls Tryz.prog 210 #[.pointer (some ⟨bp,0,none⟩),.int .i64 n,.int .i64 k] w (qmh w k n F):=by
 have hnot:∀ (x:Bool) (w:World),(Op.unary .not (.bool x)).run Tryz.prog w=.ok (.bool (!x)) w:=fun _ _=>rfl
 have HV:Hid (∀ W,Keeps (fun _=>False) w W→aK W bp pv F):=ah (fun W hk=>hv.keeps hk (fun h=>h) (fun _ _ h=>h))
 have hbp:=hv.lt
 have hap:=hv.apart
 have hR:=q4y k w hk
 have t0:decide ((n:Int)<0)=false:=decide_eq_false (by omega)
 have t1:decide ((16777216:Int)<(n:Int))=false:=decide_eq_false (by omega)
 clear hv
 go_enter Tryz.func210,Tryz.ntmps210
 go_wp2_with fail
 refine hR.mono ?_
 rintro e w' ⟨rfl,rfl⟩
 clear hR
 go_wp2_with fail
 obtain⟨br,hbr⟩:∃ br,br=w.heap.size:=⟨_,rfl⟩
 rw[← hbr]
 have II:∃ W1,W1=w.alloc (.cells #[.int .u64 0,.int .u64 4294967295,.pointer (some ⟨bp,0,none⟩),.int .i64 0,.int .u64 0] 325):=⟨_,rfl⟩
 obtain⟨W1,hW1⟩:=II
 have rE:mK W1 br bp 0 4294967295 0 (iL F 0)∧Keeps (fun _=>False) w W1:=by
  have hb:=heap_alloc_new w (.cells #[.int .u64 0,.int .u64 4294967295,.pointer (some ⟨bp,0,none⟩),.int .i64 0,.int .u64 0] 325)
  have k1:=(Keeps.refl (fun _=>False) w).alloc (.cells #[.int .u64 0,.int .u64 4294967295,.pointer (some ⟨bp,0,none⟩),.int .i64 0,.int .u64 0] 325)
  rw[← hW1] at hb k1
  rw[← hbr] at hb
  exact⟨hb,k1⟩
 rw[← hW1]
 have Eu:=ah rE
 have Kz:=ah (show w.heap.size≤br∧bp≠br∧pv.ownBlock≠some br from ⟨by omega,by omega,fun e=>by have:=(hap _ e).2;omega⟩)
 clear rE hW1 hbr hap hbp
 go_loopg [31] 32 (fun mu iv wr=>∃ j:Nat,j≤32∧mu=32 - j∧iv=.int .i64 j∧mK wr br bp 0 4294967295 j (iL F j)∧Keeps (fun _=>False) w wr)
 case atStart=>exact⟨0,by omega,rfl,rfl,Eu.out⟩
 case round =>
  clear Eu
  obtain⟨j,hj,aN,rfl,hRj,hkj⟩:=hrel
  have HG:=ah aN
  clear aN
  by_cases hlt:j<32
  ·have hN:=q4z br bp pv F 0 4294967295 j (iL F j) wr hRj (HV.out wr hkj) Kz.out.2.1 Kz.out.2.2 (by omega) (by omega) (by
    have h1:=qkh F j
    have h2:2 ^ j≤2 ^ 32:=Nat.pow_le_pow_right (by decide) (by omega)
    omega)
   have HK:=ah hkj
   clear hRj hkj
   go_wp2_with fail
   refine hN.mono ?_
   clear hN
   rintro e w2 ⟨rfl,hR2,hk2⟩
   have HF:Hid (mK w2 br bp 0 4294967295 (j+1) (iL F (j+1))∧Keeps (fun _=>False) w w2):=ah ⟨hR2,HK.out.trans hk2 (fun x hx e=>by have:=Kz.out.1;omega)⟩
   clear hR2 hk2
   go_wp2_with fail
   go_roundg (32 - (j+1))
   case measure=>rw[HG.out];omega
   case rel=>exact⟨j+1,by omega,rfl,by go_num,HF.out⟩
  ·obtain rfl:j=32:=by omega
   have OD:=q99 k wr hk
   have tT:br<wr.heap.size:=lt_of_block hRj
   have HR:=ah (aj hRj (aj hkj tT))
   clear hRj hkj tT
   go_wp2_with fail
   refine OD.mono ?_
   clear OD
   rintro e w2 ⟨bm,gc,rfl,hCM,gI,hgc,hk2⟩
   have mU:=BJ w2
   have HM:=ah (aj hCM (aj gI (aj hgc hk2)))
   clear hCM gI hgc hk2
   go_wp2_with fail
   refine mU.mono ?_
   clear mU
   rintro e w3 ⟨rfl,hw3⟩
   obtain⟨bo,mO⟩:∃ bo,bo=w2.heap.size:=⟨_,rfl⟩
   rw[← mO]
   have hE0:dU w br bm gc bo bp (.slice none 0 0) (bY F 0 (jT k F)).1 (bY F 0 (jT k F)).2 (bY F 0 (jT k F)).2.l (bY F 0 (jT k F)).2.h (jk F 0 (jT k F)) w3:=by
    obtain⟨h1,h2,h3⟩:=HR.out
    obtain⟨g1,g2,g3,g4⟩:=HM.out
    have uJ:=FN w2
    have k3:=(Keeps.refl (fun _=>False) w2).alloc (.cells #[.slice none 0 0,.int .i64 0] 203)
    rw[← hw3] at uJ k3
    rw[← mO] at uJ
    have s1:=h2.size
    have s2:=g4.size
    have iT:bm<w2.heap.size:=lt_of_block g1.1
    have aku:gc<w2.heap.size:=by obtain⟨arr,h,_⟩:=g1.2.1;exact lt_of_block h
    have hb1:=Kz.out.1
    exact⟨(h1.keeps g4 (fun h=>h)).keeps k3 (fun h=>h),g1.keeps k3 (fun h=>h) (fun h=>h),uJ,⟨hb1,by omega,by omega,by omega,fun q hq=>by simp[Value.ownBlock] at hq⟩,⟨by omega,by omega,by omega,by omega,by omega,by simp[Value.ownBlock],by simp[Value.ownBlock],by simp[Value.ownBlock]⟩,(h2.trans g4 (fun _ _ h=>h)).trans k3 (fun _ _ h=>h)⟩
   have Fh:=ah hE0
   clear hE0 hw3 mO HR HM
   go_wp2_with fail
   go_loopg [40] n (fun mu iv wr=>∃ (j:Nat) (vo:Value),j≤n∧mu=n - j∧iv=.int .i64 j∧dU w br bm gc bo bp vo (bY F j (jT k F)).1 (bY F j (jT k F)).2 (bY F j (jT k F)).2.l (bY F j (jT k F)).2.h (jk F j (jT k F)) wr)
   case atStart=>exact⟨0,_,by omega,rfl,rfl,Fh.out⟩
   case round =>
    clear Fh
    obtain⟨j,vo,hj,aN,rfl,hE⟩:=hrel
    have HG:=ah aN
    clear aN
    have hok:=qmg F k j
    have hsl:=Xt F j (jT k F)
    by_cases hlt:j<n
    ·have hsu:=qdj F j (jT k F)
     have hde:bY F (j+1) (jT k F)=rD F (bY F j (jT k F)):=rfl
     obtain⟨m,d,hmd⟩:∃ m d,bY F j (jT k F)=(m,d):=⟨_,_,rfl⟩
     rw[hmd] at hE hok hsu hde
     simp only at hE hok
     obtain⟨x,hx⟩:∃ x,x=jG (m,d):=⟨_,rfl⟩
     rw[← hx] at hsu
     generalize jk F j (jT k F)=out at *
     obtain⟨hmo,hnr,hin,hda⟩:=hok
     obtain⟨tO,hcur⟩:=hmo.cur
     have hcm:=hE.cm
     have d0:=ak hcm.1 0
     have d1:=ak hcm.1 1
     obtain⟨e1,e2,_⟩:=hcm.2.1.cell hcur
     have hnw:m.now<m.cs.length:=by rw[hmo.len];exact hmo.lt
     have HX:=ah (aj hE (aj hmo (aj hnr (aj hin (aj hda (aj tO (aj hsu (aj hde hx))))))))
     have akv:m.cs.length≤256:=by rw[hmo.len];exact Nat.pow_le_pow_right (by decide) hk (n:=2)
     clear hE hmo hnr hin hda tO hsu hde hx hmd hcur hcm
     obtain⟨c1,c2,hcc⟩:∃ c1 c2,m.cur=(c1,c2):=⟨_,_,rfl⟩
     rw[hcc] at e1 e2
     simp only at e1 e2
     have nP:=ah hcc
     clear hcc
     generalize Bz:m.cs.length=NN at *
     generalize IK:m.now=nw at *
     have HS:Hid (∀ W,Keeps (fun _=>False) wr W→W.cell? ⟨bm,0,none⟩=some (.slice (some ⟨gc,0,none⟩) NN NN)∧W.cell? ⟨bm,1,none⟩=some (.int .u64 nw)∧W.cell? ⟨gc,nw * 2,none⟩=some (.int .u64 c1)∧W.cell? ⟨gc,nw * 2+1,none⟩=some (.int .u64 c2)):=ah (fun W hW=>by
      have h1:=HX.out.1.cm.keeps hW (fun h=>h) (fun h=>h)
      obtain⟨h2,h3,_⟩:=h1.2.1.cell HX.out.2.1.cur.2
      rw[IK,nP.out] at h2 h3
      have h4:=ak h1.1 0
      have h5:=ak h1.1 1
      rw[Bz,IK] at h4 h5
      exact⟨h4,h5,h2,h3⟩)
     clear Bz IK
     go_wp2_with fail
     go_upto_region 14 with fail
     go_cut [11] from 42 to 51 (fun v wx=>∃ gl,v=.pointer (some ⟨gl,0,none⟩)∧wx.heap[gl]? = some (.cells #[.int .u64 c1,.int .u64 c2] 270 (0,0))∧dU w br bm gc bo bp vo m d d.l d.h out wx)
     case first =>
      go_region_held3 (fun w'=>w'.cell? ⟨bm,0,none⟩=some (.slice (some ⟨gc,0,none⟩) NN NN)∧w'.cell? ⟨bm,1,none⟩=some (.int .u64 nw)∧w'.cell? ⟨gc,nw * 2,none⟩=some (.int .u64 c1)∧w'.cell? ⟨gc,nw * 2+1,none⟩=some (.int .u64 c2)) (first|exact HS.out wr (Keeps.refl _ wr)|exact HS.out _ (((Keeps.refl (fun _=>False) wr).alloc _).drew)|exact HS.out _ ((Keeps.refl (fun _=>False) wr).alloc _)) (fail)
      all_goals
       have hb:=heap_alloc_new wr (.cells #[.int .u64 c1,.int .u64 c2] 270)
       have HF:Hid ((wr.alloc (.cells #[.int .u64 c1,.int .u64 c2] 270)).drew.heap[wr.heap.size]? = some (.cells #[.int .u64 c1,.int .u64 c2] 270 (0,0))∧dU w br bm gc bo bp vo m d d.l d.h out (wr.alloc (.cells #[.int .u64 c1,.int .u64 c2] 270)).drew):=ah ⟨hb,HX.out.1.still (((Keeps.refl (fun _=>False) wr).alloc _).drew)⟩
       clear hb
       go_wp2
       go_meet
       exact⟨_,rfl,HF.out⟩
     case rest =>
      obtain⟨gl,rfl,hgl,hE⟩:=hcut
      have d2:=ak hgl 0
      have d3:=ak hgl 1
      have hrd:=hE.rd.c4
      have IL:=fun W (hW:Keeps (fun _=>False) wc W)=>q9c br d.l d.h (c1,c2) 325 _ W ((hE.still hW).rd) HX.out.2.2.1 (by rw[← nP.out];exact HX.out.2.2.2.2.2.1)
      obtain⟨M,hM⟩:∃ M,M=jm d.l d.h (c1,c2):=⟨_,rfl⟩
      rw[← hM] at IL
      have hxd:decide ((M:Int)<(d.v:Int))=x:=by
       have h1:x=decide (jm d.l d.h m.cur<d.v):=HX.out.2.2.2.2.2.2.2.2
       rw[h1,hM,nP.out]
       by_cases h2:jm d.l d.h (c1,c2)<d.v
       ·rw[decide_eq_true h2,decide_eq_true (by omega)]
       ·rw[decide_eq_false h2,decide_eq_false (by omega)]
      have HXN:Hid (decide (M<d.v)=x):=ah (by
       rw[← hxd]
       by_cases h2:M<d.v
       ·rw[decide_eq_true h2,decide_eq_true (by omega)]
       ·rw[decide_eq_false h2,decide_eq_false (by omega)])
      have hvb:d.v≤4294967296:=by have:=HX.out.2.2.2.1.2;have:=HX.out.2.2.1.2.1;omega
      have Dr:=IL wc.drew (Keeps.refl _ wc).drew
      have HE:=ah (aj hE hgl)
      have HC:Hid (∀ W,Keeps (fun _=>False) wc W→W.cell? ⟨br,4,none⟩=some (.int .u64 d.v)∧W.cell? ⟨gl,0,none⟩=some (.int .u64 c1)∧W.cell? ⟨gl,1,none⟩=some (.int .u64 c2)):=ah (fun W hW=>⟨(hE.still hW).rd.c4,ak (hW.at hgl (fun h=>h)) 0,ak (hW.at hgl (fun h=>h)) 1⟩)
      clear hE hgl hM IL
      clear HS
      go_wp2_with fail
      go_upto_region 16 with fail
      go_cut [61] from 52 to 60 (fun t wx=>t=.bool x∧wx.heap[gl]? = some (.cells #[.int .u64 c1,.int .u64 c2] 270 (0,0))∧dU w br bm gc bo bp vo m d d.l d.h out wx)
      case first =>
       go_region_held3 (fun w'=>w'.cell? ⟨br,4,none⟩=some (.int .u64 d.v)∧w'.cell? ⟨gl,0,none⟩=some (.int .u64 c1)∧w'.cell? ⟨gl,1,none⟩=some (.int .u64 c2)) (first|exact HC.out wc (Keeps.refl _ wc)|exact HC.out _ (Keeps.refl (fun _=>False) wc).drew|exact HC.out _ OO.out) ((go_at_call 239;refine Dr.mono ?_;rintro e w5 ⟨rfl,hk5⟩;have OO:Hid (Keeps (fun _=>False) wc w5):=ah ((Keeps.refl (fun _=>False) wc).drew.trans hk5 (fun _ _ h=>h));clear hk5))
       all_goals
        go_wp2
        go_meet
        exact⟨by rw[HXN.out],OO.out.at HE.out.2 (fun h=>h),HE.out.1.still OO.out⟩
      case rest =>
       obtain⟨rfl,hgl,hE⟩:=hcut
       clear HC Dr hxd HXN HE d2 d3 hrd
       have d2:=ak hgl 0
       have d3:=ak hgl 1
       have HE:=ah (aj hE hgl)
       clear hE hgl
       generalize wc=wy at *
       go_upto_if 61 with fail
       go_cut [12] from 12 to 12 (fun v wx=>v=.int .i64 ((x.toNat:Nat):Int)∧wx=wy)
       case first =>
        cases x
        ·go_wp2
         go_meet
         exact⟨rfl,rfl⟩
        ·go_wp2
         go_meet
         exact⟨rfl,rfl⟩
       case rest =>
        obtain⟨rfl,hww⟩:=hcut
        subst hww
        have IJ:=fun W (hW:Keeps (fun _=>False) wc W)=>(HE.out.1.still hW).take HX.out.2.2.1 HX.out.2.2.2.2.2.1 x
        rw[nP.out] at IJ
        simp only at IJ
        have Xw:=IJ wc.drew (Keeps.refl _ wc).drew
        have KA:=qgg (x:=(m,d)) HX.out.2.1 HX.out.2.2.1 HX.out.2.2.2.1
        rw[← HX.out.2.2.2.2.2.2.2.2] at KA
        simp only at KA
        rw[nP.out] at KA
        obtain⟨d1,hd1⟩:∃ d1,d1=takeC (c1,c2) x d:=⟨_,rfl⟩
        rw[← hd1] at KA Xw
        have OP:d1.a=d.a:=by rw[hd1];unfold takeC;cases x <;> rfl
        have HD1:=ah (aj hd1 (aj OP KA))
        clear IJ KA hd1 OP
        go_wp2_with fail
        go_upto_region 18 with fail
        go_cut [] from 62 to 67 (fun wx=>dU w br bm gc bo bp vo m d1 d1.l d1.h out wx)
        case first =>
         go_region_with (go_at_call 199;refine Xw.mono ?_;rintro e w5 ⟨rfl,kZ⟩)
         all_goals
          go_wp2
          go_meet
          exact kZ
        case rest =>
         have Aj:=q7n bm gc m (2 ^ k) x wc hcut.cm HX.out.2.1 (by
          have:2 ^ k≤2 ^ 8:=Nat.pow_le_pow_right (by omega) hk
          omega)
         have HC:=ah hcut
         clear hcut Xw d2 d3 HE
         go_wp2_with fail
         refine Aj.mono ?_
         clear Aj
         rintro e w3 ⟨rfl,sw,hk3⟩
         have OE:=HC.out.see sw hk3
         have hAd:=OE.add x (by omega)
         clear OE sw hk3
         go_wp2_with fail
         refine hAd.mono ?_
         clear hAd
         rintro e w4 ⟨rfl,OQ,rU⟩
         have qy:=rU.double HD1.out.2.2.2.1 HD1.out.2.2.2.2
         clear rU
         go_wp2_with fail
         refine qy.mono ?_
         clear qy
         rintro e w5 ⟨rfl,kZ⟩
         obtain⟨D,hD⟩:∃ D,D=gL F 33 d1:=⟨_,rfl⟩
         have h0:∃ (i:Nat) (d':DC),i≤33∧33 - 0=33 - i∧Value.int .i64 (way d1.l d1.h:Nat)=.int .i64 (way d'.l d'.h:Nat)∧gL F (33 - i) d'=D∧wC d'∧d'.h<4294967296∧2 ^ i≤d'.h - d'.l+1∧d'.a≤d.a+i∧dU w br bm gc bo bp OQ (m.see x) d' (dO d'.l d'.h) (eO d'.l d'.h) (out ++ [x]) w5:=⟨0,d1,by omega,rfl,rfl,hD.symm,HD1.out.2.2.1,HD1.out.2.2.2.2,by rw[Nat.pow_zero];omega,by have:=HD1.out.2.1;omega,kZ⟩
         have H0:=ah h0
         have HD:=ah hD
         clear h0 kZ hD HC
         go_wp2_with fail
         go_loopg [13] 33 (fun mu wv wr=>∃ (i:Nat) (d':DC),i≤33∧mu=33 - i∧wv=.int .i64 (way d'.l d'.h:Nat)∧gL F (33 - i) d'=D∧wC d'∧d'.h<4294967296∧2 ^ i≤d'.h - d'.l+1∧d'.a≤d.a+i∧dU w br bm gc bo bp OQ (m.see x) d' (dO d'.l d'.h) (eO d'.l d'.h) (out ++ [x]) wr)
         case atStart=>exact H0.out
         case round =>
          clear H0
          obtain⟨i,d',hi,hgi,rfl,hN,hI,hh,hr,ha,hE⟩:=hrel
          have OG:=ah hgi
          clear hgi
          by_cases hw0:way d'.l d'.h=0
          ·have hDd:D=d':=by
            rw[← hN]
            cases 33 - i with
            | zero=>rfl
            | succ q=>unfold gL;rw[if_pos hw0]
           have hl:dO d'.l d'.h=d'.l∧eO d'.l d'.h=d'.h:=by unfold dO eO;rw[if_pos hw0,if_pos hw0];exact⟨rfl,rfl⟩
           have hfin:dU w br bm gc bo bp OQ (bY F (j+1) (jT k F)).1 (bY F (j+1) (jT k F)).2 (bY F (j+1) (jT k F)).2.l (bY F (j+1) (jT k F)).2.h (jk F (j+1) (jT k F)) wr:=by
            have hst:bY F (j+1) (jT k F)=(m.see x,D):=by
             rw[HX.out.2.2.2.2.2.2.2.1,HD.out,HD1.out.1,HX.out.2.2.2.2.2.2.2.2,← nP.out]
             rfl
            rw[hst,HX.out.2.2.2.2.2.2.1,hDd]
            rw[hl.1,hl.2] at hE
            exact hE
           have HFin:=ah hfin
           rw[hw0]
           clear hfin hE hN hI hh hr ha hl hDd hw0
           go_wp2_with fail
           go_roundg (n - (j+1))
           case measure=>rw[HG.out];omega
           case rel=>exact⟨j+1,OQ,by omega,rfl,by go_num,HFin.out⟩
          ·have acP:i<33:=Fg hi hr (by have:=hI.1;have:=hI.2;omega)
           obtain⟨hI2,GA,hr2⟩:=hI.step (F:=F) hh hw0
           have hoff:=OL (l:=d'.l) (h:=d'.h) (by have:=hI.1;have:=hI.2;omega)
           have mQ:gL F (33 - (i+1)) (gF F d')=D:=by
            rw[← hN,show 33 - i=33 - (i+1)+1 by omega]
            show _=gL F (33 - (i+1)+1) d'
            conv=>rhs;unfold gL
            rw[if_neg hw0]
           have hl:dO d'.l d'.h=(gF F d').l∧eO d'.l d'.h=(gF F d').h:=by unfold dO eO;rw[if_neg hw0,if_neg hw0];exact⟨rfl,rfl⟩
           rw[hl.1,hl.2] at hE
           obtain⟨kw,aT⟩:∃ kw,kw=way d'.l d'.h:=⟨_,rfl⟩
           have mE:kw=1∨kw=2∨kw=3:=by
            rcases q22 d'.l d'.h with⟨e,_⟩|⟨e,_⟩|⟨e,_⟩|⟨e,_⟩
            ·exact .inl (by rw[aT,e])
            ·exact .inr (.inl (by rw[aT,e]))
            ·exact .inr (.inr (by rw[aT,e]))
            ·exact absurd e hw0
           have hix:∀ W,(Instr.index 326 (.agg #[.int .u64 0,.int .u64 0,.int .u64 2147483648,.int .u64 1073741824]) (.int .i64 (kw:Nat))).run Tryz.prog W=.ok (.int .u64 (eT kw:Nat)) W:=by
            intro W
            rcases mE with rfl|rfl|rfl <;> rfl
           have hq:((kw:Int) != 0)=true:=by rw[bne_iff_ne];omega
           obtain⟨z,hz⟩:∃ z,z=d'.v - eT kw:=⟨_,rfl⟩
           have hzi:(d'.v:Int) - (eT kw:Int)=(z:Int):=by rw[hz];rw[← aT] at hoff;have:=hI.1;omega
           have hzb:z≤4294967296:=by have:=hI.2;omega
           have hcv:=hE.rd.c4
           have hcf:=hE.rd.free
           have hE2:=hE.value z
           have IQ:=hE2.still ((Keeps.refl (fun _=>False) _).drew)
           have hNx:=IQ.next (HV.out _ IQ.dR) Kz.out.2.1 Kz.out.2.2 (by omega) (by show d'.a≤_;have:=HX.out.2.2.2.2.1;omega) hzb
           have hstp:({ l:=d'.l,h:=d'.h,v:=2 * z+(F.getD d'.a false).toNat,a:=d'.a+1 }:DC).a=(gF F d').a∧2 * z+(F.getD d'.a false).toNat=(gF F d').v:=⟨rfl,by rw[hz,aT];rfl⟩
           have HH:=ah (aj mQ (aj hI2 (aj GA (aj hr2 (aj hr (aj ha (aj hstp (aj aT hl))))))))
           have hvb:(d'.v:Int)≤4294967296:=by have:=hI.2;omega
           rw[← aT]
           clear hN hI hr ha mQ hI2 GA hr2 hstp hz aT hE hE2 IQ mE hoff hw0 hh hl
           generalize eT kw=of at *
           go_wp2_with fail
           go_region
           all_goals
            go_wp2_with fail
            refine hNx.mono ?_
            rintro e w6 ⟨rfl,Ao⟩
            have hE7:dU w br bm gc bo bp OQ (m.see x) (gF F d') (gF F d').l (gF F d').h (out ++ [x]) w6:=by
             have h1:=HH.out.2.2.2.2.2.2.1
             refine⟨?_,Ao.cm,Ao.vec,Ao.lo,Ao.ap,Ao.dR⟩
             have h2:=Ao.rd
             simp only at h2
             rw[h1.2] at h2
             exact h2
            have qy:=hE7.double (by have:=HH.out.2.1.1;have:=HH.out.2.1.2;omega) HH.out.2.2.1
            clear Ao hE7
            go_wp2_with fail
            refine qy.mono ?_
            rintro e w7 ⟨rfl,hE8⟩
            have HF:=ah hE8
            clear hE8 qy
            go_wp2_with fail
            go_roundg (33 - (i+1))
            case measure=>rw[OG.out];omega
            case rel=>exact⟨i+1,gF F d',by omega,rfl,rfl,HH.out.1,HH.out.2.1,HH.out.2.2.1,by rw[HH.out.2.2.2.1,Nat.pow_succ];have:=HH.out.2.2.2.2.1;omega,by have:=HH.out.2.2.2.2.2.1;show d'.a+1≤_;omega,HF.out⟩
    ·obtain rfl:j=n:=by omega
     have Xx:dU w br bm gc bo bp vo (bY F j (jT k F)).1 (bY F j (jT k F)).2 (bY F j (jT k F)).2.l (bY F j (jT k F)).2.h (jP k j F) wr:=hE
     have uV:=q4e bo vo (jP k j F) k wr Xx.vec (by show (jk F j (jT k F)).length≤_;omega) hk
     have HE:=ah Xx
     clear hE hok hsl Xx
     go_wp2_with fail
     refine uV.mono ?_
     clear uV
     rintro e w5 ⟨b5,v5,rfl,hv5,hb5,Xy,hk5⟩
     have hVw:=HV.out w5 (HE.out.dR.trans hk5 (fun _ _ h=>h))
     have hlen:(fU k (jP k j F)).length≤100000000:=by
      have:=Sm k (jP k j F)
      have:(jP k j F).length=j:=Xt F j (jT k F)
      omega
     have hSm:=qdi b5 bp v5 pv (fU k (jP k j F)) F w5 hv5 hVw hlen
     have OO:=ah hk5
     clear hv5 hb5 Xy hk5 hVw hlen
     go_wp2_with fail
     refine hSm.mono ?_
     clear hSm
     rintro e w6 ⟨rfl,iI⟩
     have HK6:=ah (OO.out.trans iI (fun _ _ h=>h))
     clear iI
     by_cases hS:fU k (jP k j F)=F
     ·rw[decide_eq_true hS]
      have HS:=ah hS
      clear hS
      go_wp2_with fail
      refine bodyPost_ret (v:=.tuple #[.pointer (some ⟨bo,0,none⟩),.int .i64 0]) (by simp[results,Tryz.results210,go_sem]) rfl ?_
      have h6:=HE.out.still HK6.out
      exact .inl ⟨HS.out,bo,rfl,vo,h6.vec,h6.lo.2.2.2.1,h6.lo.2.2.2.2,h6.dR⟩
     ·rw[decide_eq_false hS]
      have HS:=ah hS
      clear hS
      go_wp2_with fail
      refine bodyPost_ret (v:=.tuple #[.pointer none,.int .i64 10]) (by simp[results,Tryz.results210,go_sem]) rfl ?_
      exact .inr ⟨HS.out,rfl,(HE.out.still HK6.out).dR⟩
