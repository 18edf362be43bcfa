import Derived.Deep.RegionHeld3
import Derived.Test.YtcfdpogegngplaaGreatZg0w
import Derived.Test.YtcfdpogegngplaaGreatZg0p
set_option maxRecDepth 100000
set_option maxHeartbeats 4000000
namespace Go.Proofs.YtcfdpogegngplaaGreat
open Go.RowKit
theorem q4y(k:Nat)(w:World)(hk:k≤8):Calls Tryz.prog 197 #[.int .i64 k] w fun e w'=>e=.returned (.bool true)∧w=w':=by
 have t0:decide ((0:Int)≤(k:Int))=true:=decide_eq_true (by omega)
 have t1:decide ((k:Int)≤8)=true:=decide_eq_true (by omega)
 go_enter Tryz.func197,Tryz.ntmps197
 go_wp2
 go_ret
 exact⟨rfl,rfl⟩
theorem q4e(bp:Nat)(pv:Value)(l:List Bool)(k:Nat)(w:World)(hv:aK w bp pv l)(hl:l.length≤1000000)(hk:k≤8) :
  Calls Tryz.prog 172 #[.pointer (some ⟨bp,0,none⟩),.int .i64 k] w fun e w'=>∃ bo vo,e=.returned (.tuple #[.pointer (some ⟨bo,0,none⟩),.int .i64 0])∧aK w' bo vo (fU k l)∧w.heap.size≤bo∧(∀ q,vo.ownBlock=some q→w.heap.size≤q)∧Keeps (fun _=>False) w w':=by
 have hnot:∀ (x:Bool) (w:World),(Op.unary .not (.bool x)).run Tryz.prog w=.ok (.bool (!x)) w:=fun _ _=>rfl
 have HV:Hid (∀ W,Keeps (fun _=>False) w W→aK W bp pv l):=ah (fun W hk=>hv.keeps hk (fun h=>h) (fun _ _ h=>h))
 have hR:=q4y k w hk
 have mU:=BJ w
 clear hv
 go_enter Tryz.func172,Tryz.ntmps172
 go_wp2_with fail
 refine hR.mono ?_
 rintro e w' ⟨rfl,rfl⟩
 clear hR
 go_wp2_with fail
 refine mU.mono ?_
 rintro e w1 ⟨rfl,rfl⟩
 clear mU
 obtain⟨bv,hbv⟩:∃ bv,bv=w.heap.size:=⟨_,rfl⟩
 obtain⟨bw,hbw⟩:∃ bw,bw=w.heap.size+1:=⟨_,rfl⟩
 have II:∃ W1,W1=(w.alloc (.cells #[.slice none 0 0,.int .i64 0] 203)).alloc (.cells #[.int .u64 0,.int .u64 4294967295,.pointer (some ⟨w.heap.size,0,none⟩),.int .i64 0] 266):=⟨_,rfl⟩
 obtain⟨W1,hW1⟩:=II
 have xJ:rA W1 bw bv (.slice none 0 0) ⟨0,4294967295,0,[]⟩∧Keeps (fun _=>False) w W1:=by
  have k1:=(Keeps.refl (fun _=>False) w).alloc (.cells #[.slice none 0 0,.int .i64 0] 203)
  have hv:=FN w
  have k2:=(Keeps.refl (fun _=>False) (w.alloc (.cells #[.slice none 0 0,.int .i64 0] 203))).alloc (.cells #[.int .u64 0,.int .u64 4294967295,.pointer (some ⟨w.heap.size,0,none⟩),.int .i64 0] 266)
  have hb:=heap_alloc_new (w.alloc (.cells #[.slice none 0 0,.int .i64 0] 203)) (.cells #[.int .u64 0,.int .u64 4294967295,.pointer (some ⟨w.heap.size,0,none⟩),.int .i64 0] 266)
  rw[show (w.alloc (.cells #[.slice none 0 0,.int .i64 0] 203)).heap.size=bw by rw[hbw];simp] at hb
  have hv2:=hv.keeps k2 (fun h=>h) (fun _ _ h=>h)
  rw[← hW1] at hb hv2 k2
  rw[← hbv] at hb hv2
  exact⟨⟨hb,hv2,by omega,by simp[Value.ownBlock]⟩,k1.trans k2 (fun _ _ h=>h)⟩
 have OD:=q99 k W1 hk
 have HB:=ah (aj hbv (aj hbw xJ))
 clear xJ
 go_wp2_with fail
 rw[← hW1,← hbw,← hbv]
 clear hW1 hbv hbw
 refine OD.mono ?_
 clear OD
 rintro e w2 ⟨bm,gc,rfl,hCM,gI,hgc,hk2⟩
 have hE0:iD w bw bv bm gc (.slice none 0 0) (encS k (l.take 0)).1 (encS k (l.take 0)).2 w2:=by
  have h1:=HB.out.2.2
  have s1:=h1.2.size
  have hb1:bw<W1.heap.size:=lt_of_block h1.1.sp
  have hb2:=h1.1.vec.lt
  have e1:=HB.out.1
  have e2:=HB.out.2.1
  exact⟨h1.1.keeps hk2 (fun h=>h) (fun h=>h) (fun _ _ h=>h),hCM,fun q hq=>⟨by omega,by omega,by simp[Value.ownBlock]⟩,⟨by omega,by omega,by omega,by omega,fun q hq=>by simp[Value.ownBlock] at hq⟩,h1.2.trans hk2 (fun _ _ h=>h)⟩
 have hLn:=rY bp pv l w2 (HV.out w2 hE0.dR)
 have Fh:=ah hE0
 clear hCM gI hgc hk2 hE0 HB
 generalize hn:l.length=n at *
 have HN:=ah hn
 clear hn
 go_wp2_with fail
 refine hLn.mono ?_
 clear hLn
 rintro e w' ⟨rfl,rfl⟩
 go_wp2_with fail
 go_loopg [21] n (fun mu iv wr=>∃ (j:Nat) (vv:Value),j≤n∧mu=n - j∧iv=.int .i64 j∧iD w bw bv bm gc vv (encS k (l.take j)).1 (encS k (l.take j)).2 wr)
 case atStart=>exact⟨0,_,Nat.zero_le _,rfl,rfl,Fh.out⟩
 case round =>
  clear Fh
  obtain⟨j,vv,hj,aN,rfl,hE⟩:=hrel
  have HG:=ah aN
  clear aN
  obtain⟨hok,hnr⟩:=qoc k (l.take j)
  have hT:=qgk k (l.take j)
  rw[List.length_take] at hT
  by_cases hlt:j<n
  ·have hst:encS k (l.take (j+1))=wm (encS k (l.take j)) (l.getD j false):=by
    have hg:l[j]? = some (l.getD j false):=by rw[List.getD_eq_getElem?_getD,List.getElem?_eq_getElem (by rw[HN.out];exact hlt)];rfl
    unfold encS
    rw[Ad hg,List.foldl_append]
    rfl
   have hAt:=lD bp pv l j wr (HV.out wr hE.dR) (by rw[HN.out];exact hlt) (by rw[HN.out];omega)
   obtain⟨x,hx⟩:∃ x,x=l.getD j false:=⟨_,rfl⟩
   obtain⟨m,s,hms⟩:∃ m s,encS k (l.take j)=(m,s):=⟨_,_,rfl⟩
   rw[hms] at hok hnr hT hE hst
   rw[← hx] at hAt hst
   simp only at hok hnr hT hE
   have HST:=ah hst
   have hTj:dD s≤33 * j:=by omega
   have HE:=ah (aj hE (aj hok hnr))
   clear hE hms hst hx hT hok hnr
   go_wp2_with fail
   go_step3
   go_upto_region 9 with (go_at_call 195;refine hAt.mono ?_;rintro e w' ⟨rfl,rfl⟩)
   clear hAt
   go_cut [] from 27 to 41 (fun wx=>iD w bw bv bm gc vv m (dW m.cur x s) wx)
   case first =>
    obtain⟨tO,hcur⟩:=HE.out.2.1.cur
    have hcm:=HE.out.1.cm
    have d0:=ak hcm.1 0
    have d1:=ak hcm.1 1
    obtain⟨e1,e2,_⟩:=hcm.2.1.cell hcur
    have hnw:m.now<m.cs.length:=by rw[HE.out.2.1.len];exact HE.out.2.1.lt
    have IJ:Hid (∀ W,Keeps (fun _=>False) wr W→Calls Tryz.prog 199 #[.pointer (some ⟨bw,0,none⟩),.agg #[.int .u64 m.cur.1,.int .u64 m.cur.2],.int .i64 (x.toNat:Int)] W fun e w'=>e=.returned (.tuple #[])∧iD w bw bv bm gc vv m (dW m.cur x s) w'):=ah (fun W hk=>by
     have hEW:=HE.out.1.still hk
     refine (q7r bw s.l s.h m.cur x 266 _ W hEW.wr.sp HE.out.2.2 tO).mono ?_
     rintro e w' ⟨rfl,hS,hkk⟩
     refine⟨rfl,?_⟩
     have:=hEW.span hS hkk
     unfold dW
     cases x
     ·exact this
     ·exact this)
    have hk0:=(Keeps.refl (fun _=>False) wr).drew
    clear tO hcur hcm
    generalize hcc:m.cur=c at *
    obtain⟨c1,c2⟩:=c
    generalize m.cs.length=NN at *
    generalize m.now=nw at *
    simp only at e1 e2 IJ
    go_region_with (go_at_call 199;refine (IJ.out _ hk0).mono ?_;rintro e w5 ⟨rfl,kZ⟩)
    all_goals
     have HF:=ah kZ
     clear kZ
     go_wp2
     go_meet
     first|exact HF.out | (rw[hcc];exact HF.out)
   case rest =>
    obtain⟨hok,hnr⟩:=HE.out.2
    obtain⟨hl1,Xo⟩:=Sd (b:=x) hnr hok.cur.1
    have Aj:=q7n bm gc m (2 ^ k) x wc hcut.cm hok (by
     have:2 ^ k≤2 ^ 8:=Nat.pow_le_pow_right (by omega) hk
     omega)
    have HC:=ah hcut
    have hab:dD (dW m.cur x s)=dD s:=by unfold dW;cases x <;> rfl
    obtain⟨s1,hs1⟩:∃ s1,s1=dW m.cur x s:=⟨_,rfl⟩
    obtain⟨S,hS⟩:∃ S,S=eY 33 s1:=⟨_,rfl⟩
    have hstep:encS k (l.take (j+1))=(m.see x,S):=by rw[HST.out,hS,hs1];rfl
    rw[← hs1] at hl1 Xo hab HC
    have HS:=ah hstep
    clear hcut hok hnr hstep hs1 HE HST
    go_wp2_with fail
    refine Aj.mono ?_
    clear Aj
    rintro e w3 ⟨rfl,sw,hk3⟩
    have OE:=HC.out.see sw hk3
    have h0:∃ (i:Nat) (s':dh) (v':Value),i≤33∧33 - 0=33 - i∧eY (33 - i) s'=S∧s'.l≤s'.h∧s'.h<4294967296∧2 ^ i≤s'.h - s'.l+1∧dD s'≤33 * j+i∧iD w bw bv bm gc v' (m.see x) s' w3:=⟨0,s1,vv,by omega,rfl,hS.symm,hl1,Xo,by rw[Nat.pow_zero];omega,by omega,OE⟩
    have H0:=ah h0
    clear h0 OE sw hk3 hS hl1 Xo hab HC
    go_wp2_with fail
    go_step3
    go_wp2_with fail
    go_loopg [] 33 (fun mu wr=>∃ (i:Nat) (s':dh) (v':Value),i≤33∧mu=33 - i∧eY (33 - i) s'=S∧s'.l≤s'.h∧s'.h<4294967296∧2 ^ i≤s'.h - s'.l+1∧dD s'≤33 * j+i∧iD w bw bv bm gc v' (m.see x) s' wr)
    case atStart=>exact H0.out
    case round =>
     clear H0
     obtain⟨i,s',v',hi,hgi,hN,hl,hh,hr,hT,hE⟩:=hrel
     have OG:=ah hgi
     clear hgi
     have qy:=q50 bw s'.l s'.h _ _ _ hE.wr.sp hl hh
     have uR:way s'.l s'.h≠0→i<33∧eY (33 - (i+1)) (aL s')=S∧((aL s').l≤(aL s').h∧(aL s').h<4294967296∧2 ^ (i+1)≤(aL s').h - (aL s').l+1)∧dD (aL s')≤33 * j+(i+1):=fun hw=>by
      have hlt:i<33:=Fg hi hr (by omega)
      obtain⟨p1,p2,p3⟩:=Si hl hh hw
      refine⟨hlt,?_,⟨p1,p2,by rw[p3,Nat.pow_succ];omega⟩,by rw[(Sj s' hw).2];omega⟩
      rw[show 33 - i=33 - (i+1)+1 by omega] at hN
      unfold eY at hN
      rwa [if_neg hw] at hN
     rcases q22 s'.l s'.h with⟨e,_⟩|⟨e,_⟩|⟨e,_⟩|⟨e,_⟩
     ·
      have e1:aL s'=⟨dO s'.l s'.h,eO s'.l s'.h,0,s'.o ++ false :: List.replicate s'.w (!false)⟩:=qo7 s' e
      obtain⟨hi,hN,a3,a4⟩:=uR (by omega)
      rw[e] at qy
      clear uR
      have HI:=ah (aj hN (aj hi (aj hT (aj hr (aj e1 (aj a3 a4))))))
      clear hN hT e1 a3 a4
      go_wp2_with fail
      refine qy.mono ?_
      clear qy
      rintro en w4 ⟨rfl,Ak,hk4⟩
      have rU:=hE.span Ak hk4
      have kN:=R8 (w:=w4) false rU.wr (by have:=HI.out.2.2.1;unfold dD at this;simp only;omega)
      have H4:=ah rU
      clear hE Ak hk4 rU
      go_wp2_with fail
      refine kN.mono ?_
      clear kN
      rintro en w5 ⟨rfl,hg5⟩
      obtain⟨v5,kZ⟩:=H4.out.put hg5
      have HF:Hid (eY (33 - (i+1)) (aL s')=S∧(aL s').l≤(aL s').h∧(aL s').h<4294967296∧2 ^ (i+1)≤(aL s').h - (aL s').l+1∧dD (aL s')≤33 * j+(i+1)∧iD w bw bv bm gc v5 (m.see x) (aL s') w5):=ah ⟨HI.out.1,HI.out.2.2.2.2.2.1.1,HI.out.2.2.2.2.2.1.2.1,HI.out.2.2.2.2.2.1.2.2,HI.out.2.2.2.2.2.2,by rw[HI.out.2.2.2.2.1];exact kZ⟩
      clear kZ hg5
      go_wp2_with fail
      go_roundg (33 - (i+1))
      case measure=>rw[OG.out];have:=HI.out.2.1;omega
      case rel=>exact⟨i+1,aL s',v5,by have:=HI.out.2.1;omega,rfl,HF.out⟩
     ·
      have e1:aL s'=⟨dO s'.l s'.h,eO s'.l s'.h,0,s'.o ++ true :: List.replicate s'.w (!true)⟩:=qo8 s' e
      obtain⟨hi,hN,a3,a4⟩:=uR (by omega)
      rw[e] at qy
      clear uR
      have HI:=ah (aj hN (aj hi (aj hT (aj hr (aj e1 (aj a3 a4))))))
      clear hN hT e1 a3 a4
      go_wp2_with fail
      refine qy.mono ?_
      clear qy
      rintro en w4 ⟨rfl,Ak,hk4⟩
      have rU:=hE.span Ak hk4
      have kN:=R8 (w:=w4) true rU.wr (by have:=HI.out.2.2.1;unfold dD at this;simp only;omega)
      have H4:=ah rU
      clear hE Ak hk4 rU
      go_wp2_with fail
      refine kN.mono ?_
      clear kN
      rintro en w5 ⟨rfl,hg5⟩
      obtain⟨v5,kZ⟩:=H4.out.put hg5
      have HF:Hid (eY (33 - (i+1)) (aL s')=S∧(aL s').l≤(aL s').h∧(aL s').h<4294967296∧2 ^ (i+1)≤(aL s').h - (aL s').l+1∧dD (aL s')≤33 * j+(i+1)∧iD w bw bv bm gc v5 (m.see x) (aL s') w5):=ah ⟨HI.out.1,HI.out.2.2.2.2.2.1.1,HI.out.2.2.2.2.2.1.2.1,HI.out.2.2.2.2.2.1.2.2,HI.out.2.2.2.2.2.2,by rw[HI.out.2.2.2.2.1];exact kZ⟩
      clear kZ hg5
      go_wp2_with fail
      go_roundg (33 - (i+1))
      case measure=>rw[OG.out];have:=HI.out.2.1;omega
      case rel=>exact⟨i+1,aL s',v5,by have:=HI.out.2.1;omega,rfl,HF.out⟩
     ·
      have e1:aL s'=⟨dO s'.l s'.h,eO s'.l s'.h,s'.w+1,s'.o⟩:=qo9 s' e
      obtain⟨hi,hN,a3,a4⟩:=uR (by omega)
      rw[e] at qy
      clear uR
      have hwb:s'.w≤900000000:=by unfold dD at hT;omega
      have HI:=ah (aj hN (aj hi (aj e1 (aj a3 a4))))
      clear hN hT e1 a3 a4
      go_wp2_with fail
      refine qy.mono ?_
      clear qy
      rintro en w4 ⟨rfl,Ak,hk4⟩
      have rU:=hE.span Ak hk4
      have d3:=rU.wr.c3
      have df:=rU.wr.free
      simp only at d3
      have kZ:=rU.wait (s'.w+1)
      have ew:((s'.w+1:Nat):Int)=(s'.w:Int)+1:=by omega
      rw[ew] at kZ
      have HF:Hid (eY (33 - (i+1)) (aL s')=S∧(aL s').l≤(aL s').h∧(aL s').h<4294967296∧2 ^ (i+1)≤(aL s').h - (aL s').l+1∧dD (aL s')≤33 * j+(i+1)∧iD w bw bv bm gc v' (m.see x) (aL s') (w4.setCell ⟨bw,3,none⟩ (.int .i64 ((s'.w:Int)+1)))):=ah ⟨HI.out.1,HI.out.2.2.2.1.1,HI.out.2.2.2.1.2.1,HI.out.2.2.2.1.2.2,HI.out.2.2.2.2,by rw[HI.out.2.2.1];exact kZ⟩
      clear hE Ak hk4 rU kZ ew
      go_wp2_with fail
      go_roundg (33 - (i+1))
      case measure=>rw[OG.out];have:=HI.out.2.1;omega
      case rel=>exact⟨i+1,aL s',v',by have:=HI.out.2.1;omega,rfl,HF.out⟩
     ·
      have hfin:s'=S:=by
       rw[← hN]
       cases h33:33 - i with
       | zero=>rfl
       | succ q=>unfold eY;rw[if_pos e]
      have hd1:dO s'.l s'.h=s'.l:=by unfold dO;rw[if_pos e]
      have hd2:eO s'.l s'.h=s'.h:=by unfold eO;rw[if_pos e]
      rw[e,hd1,hd2] at qy
      have HI:=ah hfin
      clear uR hN hT hfin hd1 hd2
      go_wp2_with fail
      refine qy.mono ?_
      clear qy
      rintro en w4 ⟨rfl,Ak,hk4⟩
      have rU:=hE.span Ak hk4
      have HF:Hid (iD w bw bv bm gc v' (encS k (l.take (j+1))).1 (encS k (l.take (j+1))).2 w4):=ah (by rw[HS.out,← HI.out];exact rU)
      clear hE Ak hk4 rU
      go_wp2_with fail
      rw[Exit.noGoto_normal]
      go_wp2_with fail
      go_roundg (n - (j+1))
      case measure=>rw[HG.out];omega
      case rel=>exact⟨j+1,v',by omega,rfl,by go_num,HF.out⟩
  ·obtain rfl:j=n:=by omega
   obtain⟨m,s,hms⟩:∃ m s,encS k (l.take j)=(m,s):=⟨_,_,rfl⟩
   have OH:encS k l=(m,s):=by rw[← hms,List.take_of_length_le (by rw[HN.out];exact Nat.le_refl _)]
   rw[hms] at hE hT hnr
   simp only at hE hT hnr
   have HMS:=ah OH
   have hTj:dD s≤33 * j:=by omega
   have hwb:s.o.length+s.w≤33 * j:=hTj
   have hsl:=hnr.1
   have hsh:=hnr.2.1
   have c0:=hE.wr.sp.c0
   have c2:=hE.wr.c2
   have c3:=hE.wr.c3
   have cf:=hE.wr.free
   have hE1:=hE.wait (s.w+1)
   have ew:((s.w+1:Nat):Int)=(s.w:Int)+1:=by omega
   rw[ew] at hE1
   have d0:=hE1.wr.sp.c0
   simp only at d0
   clear hE hms OH hok hnr hT ew
   by_cases hq:s.l<1073741824
   ·have t0:decide ((s.l:Int)<1073741824)=true:=decide_eq_true (by omega)
    have hfin:fU k l=s.o ++ false :: List.replicate (s.w+1) (!false):=by
     unfold fU tQ
     rw[HMS.out,if_pos hq]
     rfl
    have kN:=R8 (w:=wr.setCell ⟨bw,3,none⟩ (.int .i64 ((s.w:Int)+1))) false hE1.wr (by simp only;omega)
    have H1:=ah (aj hE1 hfin)
    clear hE1 hfin
    go_wp2_with fail
    refine kN.mono ?_
    clear kN
    rintro e w5 ⟨rfl,hg5⟩
    obtain⟨v5,kZ⟩:=H1.out.1.put hg5
    have d2:=kZ.wr.c2
    have HF:Hid (aK w5 bv v5 (fU k l)∧w.heap.size≤bv∧(∀ q,v5.ownBlock=some q→w.heap.size≤q)∧Keeps (fun _=>False) w w5):=ah ⟨by rw[H1.out.2];exact kZ.wr.vec,kZ.lo.2.1,kZ.lo.2.2.2.2,kZ.dR⟩
    clear kZ hg5 H1
    go_wp2_with fail
    go_ret2
    exact⟨bv,v5,rfl,HF.out⟩
   ·have t0:decide ((s.l:Int)<1073741824)=false:=decide_eq_false (by omega)
    have hfin:fU k l=s.o ++ true :: List.replicate (s.w+1) (!true):=by
     unfold fU tQ
     rw[HMS.out,if_neg hq]
     rfl
    have kN:=R8 (w:=wr.setCell ⟨bw,3,none⟩ (.int .i64 ((s.w:Int)+1))) true hE1.wr (by simp only;omega)
    have H1:=ah (aj hE1 hfin)
    clear hE1 hfin
    go_wp2_with fail
    refine kN.mono ?_
    clear kN
    rintro e w5 ⟨rfl,hg5⟩
    obtain⟨v5,kZ⟩:=H1.out.1.put hg5
    have d2:=kZ.wr.c2
    have HF:Hid (aK w5 bv v5 (fU k l)∧w.heap.size≤bv∧(∀ q,v5.ownBlock=some q→w.heap.size≤q)∧Keeps (fun _=>False) w w5):=ah ⟨by rw[H1.out.2];exact kZ.wr.vec,kZ.lo.2.1,kZ.lo.2.2.2.2,kZ.dR⟩
    clear kZ hg5 H1
    go_wp2_with fail
    go_ret2
    exact⟨bv,v5,rfl,HF.out⟩
