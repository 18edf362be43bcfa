import Derived.Test.YtalhcfjcbbkpgaaGreatZp0t
set_option maxRecDepth 100000
set_option maxHeartbeats 4000000
namespace Go.Proofs.YtalhcfjcbbkpgaaGreat
open Go.RowKit
theorem Vg(k:Nat)(w:World)(a:k<=8):Calls Tryz.prog 192 #[.int .i64 k] w fun e w'=>e=.returned (.bool true)/\w=w':=by have b:decide ((0:Int)<=(k:Int))=true:=decide_eq_true (by omega);have c:decide ((k:Int)<=8)=true:=decide_eq_true (by omega);go_enter Tryz.func192,Tryz.ntmps192;go_wp2;go_ret;exact⟨rfl,rfl⟩
theorem Vh(bp:Nat)(pv:Value)(l:List Bool)(k:Nat)(w:World)(hv:eX w bp pv l)(hl:l.length<=1000000)(hk:k<=8) :
  Calls Tryz.prog 167 #[.pointer (some ⟨bp,0,none⟩),.int .i64 k] w fun e w'=>∃bo vo,e=.returned (.tuple #[.pointer (some ⟨bo,0,none⟩),.int .i64 0])/\eX w' bo vo (kZ k l)/\w.heap.size<=bo/\(∀q,vo.ownBlock=some q->w.heap.size<=q)/\Keeps (fun _=>False) w w':=by
 have aM:∀(x:Bool) (w:World),(Op.unary .not (.bool x)).run Tryz.prog w=.ok (.bool (!x)) w:=fun _ _=>rfl;have HV:Hid (∀W,Keeps (fun _=>False) w W->eX W bp pv l):=dh (fun W hk=>hv.keeps hk (fun h=>h) (fun _ _ h=>h));have hR:=Vg k w hk;have ak:=FC w;clear hv;go_enter Tryz.func167,Tryz.ntmps167;go_wp2_with fail;refine hR.mono ?_;rintro e w' ⟨rfl,rfl⟩;clear hR;go_wp2_with fail;refine ak.mono ?_;rintro e w1 ⟨rfl,rfl⟩;clear ak;obtain⟨D,O⟩:∃D,D=w.heap.size:=⟨_,rfl⟩
 obtain⟨C,P⟩:∃C,C=w.heap.size+1:=⟨_,rfl⟩
 have al:∃W1,W1=(w.alloc (.cells #[.slice none 0 0,.int .i64 0] 198)).alloc (.cells #[.int .u64 0,.int .u64 4294967295,.pointer (some ⟨w.heap.size,0,none⟩),.int .i64 0] 261):=⟨_,rfl⟩
 obtain⟨W1,aa⟩:=al;have am:rJ W1 C D (.slice none 0 0) ⟨0,4294967295,0,[]⟩/\Keeps (fun _=>False) w W1:=by have k1:=(Keeps.refl (fun _=>False) w).alloc (.cells #[.slice none 0 0,.int .i64 0] 198);have hv:=Hf w;have k2:=(Keeps.refl (fun _=>False) (w.alloc (.cells #[.slice none 0 0,.int .i64 0] 198))).alloc (.cells #[.int .u64 0,.int .u64 4294967295,.pointer (some ⟨w.heap.size,0,none⟩),.int .i64 0] 261);have hb:=heap_alloc_new (w.alloc (.cells #[.slice none 0 0,.int .i64 0] 198)) (.cells #[.int .u64 0,.int .u64 4294967295,.pointer (some ⟨w.heap.size,0,none⟩),.int .i64 0] 261);rw[show (w.alloc (.cells #[.slice none 0 0,.int .i64 0] 198)).heap.size=C by rw[P];simp]at hb;have ab:=hv.keeps k2 (fun h=>h) (fun _ _ h=>h);rw[<-aa]at hb ab k2;rw[<-O]at hb ab;exact⟨⟨hb,ab,by omega,by simp[Value.ownBlock]⟩,k1.trans k2 (fun _ _ h=>h)⟩
 have an:=Rq k W1 hk;have HB:=dh (dn O (dn P am));clear am;go_wp2_with fail;rw[<-aa,<-P,<-O];clear aa O P;refine an.mono ?_;clear an;rintro e w2 ⟨K,L,rfl,ao,aG,aH,ad⟩;have ae:jQ w C D K L (.slice none 0 0) (encS k (l.take 0)).1 (encS k (l.take 0)).2 w2:=by have h1:=HB.out.2.2;have s1:=h1.2.size;have aN:C<W1.heap.size:=lt_of_block h1.1.sp;have aO:=h1.1.vec.lt;have M:=HB.out.1;have e2:=HB.out.2.1;exact⟨h1.1.keeps ad (fun h=>h) (fun h=>h) (fun _ _ h=>h),ao,fun q hq=>⟨by omega,by omega,by simp[Value.ownBlock]⟩,⟨by omega,by omega,by omega,by omega,fun q hq=>by simp[Value.ownBlock]at hq⟩,h1.2.trans ad (fun _ _ h=>h)⟩
 have ap:=Bh bp pv l w2 (HV.out w2 ae.fJ);have aq:=dh ae;clear ao aG aH ad ae HB;generalize hn:l.length=n at *;have HN:=dh hn;clear hn;go_wp2_with fail;refine ap.mono ?_;clear ap;rintro e w' ⟨rfl,rfl⟩;go_wp2_with fail;go_loopg [21] n (fun mu iv wr=>∃(j:Nat) (vv:Value),j<=n/\mu=n - j/\iv=.int .i64 j/\jQ w C D K L vv (encS k (l.take j)).1 (encS k (l.take j)).2 wr)
 case atStart=>exact⟨0,_,Nat.zero_le _,rfl,rfl,aq.out⟩
 case round =>
  clear aq;obtain⟨j,vv,hj,ar,rfl,u⟩:=hrel;have HG:=dh ar;clear ar;obtain⟨E,r⟩:=ql k (l.take j);have G:=LD k (l.take j);rw[List.length_take]at G;by_cases Q:j<n
  ·have R:encS k (l.take (j+1))=Ao (encS k (l.take j)) (l.getD j false):=by
    have hg:l[j]? = some (l.getD j false):=by rw[List.getD_eq_getElem?_getD,List.getElem?_eq_getElem (by rw[HN.out];exact Q)];rfl
    unfold encS;rw[wZ hg,List.foldl_append];rfl
   have af:=Ac bp pv l j wr (HV.out wr u.fJ) (by rw[HN.out];exact Q) (by rw[HN.out];omega);obtain⟨x,hx⟩:∃x,x=l.getD j false:=⟨_,rfl⟩
   obtain⟨m,s,J⟩:∃m s,encS k (l.take j)=(m,s):=⟨_,_,rfl⟩
   rw[J]at E r G u R;rw[<-hx]at af R;simp only at E r G u;have au:=dh R;have av:jm s<=33 * j:=by omega
   have U:=dh (dn u (dn E r));clear u J R hx G E r;go_wp2_with fail;go_step3;go_upto_region 9 with (go_at_call 190;refine af.mono ?_;rintro e w' ⟨rfl,rfl⟩)
   clear af;go_cut []from 27 to 41 (fun wx=>jQ w C D K L vv m (kM m.cur x s) wx)
   case first =>
    obtain⟨V,X⟩:=U.out.2.1.cur;have T:=U.out.1.cm;have d0:=dw T.1 0;have d1:=dw T.1 1;obtain⟨M,e2,_⟩:=T.2.1.cell X;have aP:m.now<m.cs.length:=by rw[U.out.2.1.len];exact U.out.2.1.lt
    have aw:Hid (∀W,Keeps (fun _=>False) wr W->Calls Tryz.prog 194 #[.pointer (some ⟨C,0,none⟩),.agg #[.int .u64 m.cur.1,.int .u64 m.cur.2],.int .i64 (x.toNat:Int)] W fun e w'=>e=.returned (.tuple #[])/\jQ w C D K L vv m (kM m.cur x s) w'):=dh (fun W hk=>by
     have ax:=U.out.1.still hk;refine(Rk C s.l s.h m.cur x 261 _ W ax.wr.sp U.out.2.2 V).mono ?_;rintro e w' ⟨rfl,hS,aI⟩;refine⟨rfl,?_⟩;have:=ax.span hS aI;unfold kM;cases x
     ·exact this
     ·exact this)
    have aJ:=(Keeps.refl (fun _=>False) wr).drew;clear V X T;generalize aK:m.cur=c at *;obtain⟨c1,c2⟩:=c;generalize m.cs.length=NN at *;generalize m.now=nw at *;simp only at M e2 aw;go_region_with (go_at_call 194;refine(aw.out _ aJ).mono ?_;rintro e w5 ⟨rfl,d⟩)
    all_goals
     have H:=dh d;clear d;go_wp2;go_meet
     first|exact H.out | (rw[aK];exact H.out)
   case rest =>
    obtain⟨E,r⟩:=U.out.2;obtain⟨ag,ah⟩:=Ls (b:=x) r E.cur.1;have Y:=Rn K L m (2 ^ k) x wc hcut.cm E (by have:2 ^ k<=2 ^ 8:=Nat.pow_le_pow_right (by omega) hk;omega);have HC:=dh hcut;have ay:jm (kM m.cur x s)=jm s:=by unfold kM;cases x <;> rfl
    obtain⟨s1,ai⟩:∃s1,s1=kM m.cur x s:=⟨_,rfl⟩
    obtain⟨S,hS⟩:∃S,S=jH 33 s1:=⟨_,rfl⟩
    have N:encS k (l.take (j+1))=(m.see x,S):=by rw[au.out,hS,ai];rfl
    rw[<-ai]at ag ah ay HC;have HS:=dh N;clear hcut E r N ai U au;go_wp2_with fail;refine Y.mono ?_;clear Y;rintro e w3 ⟨rfl,az,aA⟩;have aB:=HC.out.see az aA;have h0:∃(i:Nat) (a:gZ) (v':Value),i<=33/\33 - 0=33 - i/\jH (33 - i) a=S/\a.l<=a.h/\a.h<4294967296/\2 ^ i<=a.h - a.l+1/\jm a<=33 * j+i/\jQ w C D K L v' (m.see x) a w3:=⟨0,s1,vv,by omega,rfl,hS.symm,ag,ah,by rw[Nat.pow_zero];omega,by omega,aB⟩
    have H0:=dh h0;clear h0 aB az aA hS ag ah ay HC;go_wp2_with fail;go_step3;go_wp2_with fail;go_loopg [] 33 (fun mu wr=>∃(i:Nat) (a:gZ) (v':Value),i<=33/\mu=33 - i/\jH (33 - i) a=S/\a.l<=a.h/\a.h<4294967296/\2 ^ i<=a.h - a.l+1/\jm a<=33 * j+i/\jQ w C D K L v' (m.see x) a wr)
    case atStart=>exact H0.out
    case round =>
     clear H0;obtain⟨i,a,v',hi,aC,I,hl,hh,hr,G,u⟩:=hrel;have aj:=dh aC;clear aC;have t:=Rl C a.l a.h _ _ _ u.wr.sp hl hh;have v:way a.l a.h≠0->i<33/\jH (33 - (i+1)) (dU a)=S/\((dU a).l<=(dU a).h/\(dU a).h<4294967296/\2 ^ (i+1)<=(dU a).h - (dU a).l+1)/\jm (dU a)<=33 * j+(i+1):=fun hw=>by have Q:i<33:=EP hi hr (by omega);obtain⟨p1,p2,p3⟩:=Lu hl hh hw;refine⟨Q,?_,⟨p1,p2,by rw[p3,Nat.pow_succ];omega⟩,by rw[(Lr a hw).2];omega⟩;rw[show 33 - i=33 - (i+1)+1 by omega]at I;unfold jH at I;rwa [if_neg hw]at I
     rcases Da a.l a.h with⟨e,_⟩|⟨e,_⟩|⟨e,_⟩|⟨e,_⟩
     ·
      have M:dU a=⟨iI a.l a.h,jB a.l a.h,0,a.o ++ false :: List.replicate a.w (!false)⟩:=U4 a e;obtain⟨hi,I,a3,a4⟩:=v (by omega);rw[e]at t;clear v;have g:=dh (dn I (dn hi (dn G (dn hr (dn M (dn a3 a4))))));clear I G M a3 a4;go_wp2_with fail;refine t.mono ?_;clear t;rintro en w4 ⟨rfl,y,z⟩;have f:=u.span y z;have A:=Gu (w:=w4) false f.wr (by have:=g.out.2.2.1;unfold jm at this;simp only;omega);have H4:=dh f;clear u y z f;go_wp2_with fail;refine A.mono ?_;clear A;rintro en w5 ⟨rfl,B⟩;obtain⟨v5,d⟩:=H4.out.put B;have H:Hid (jH (33 - (i+1)) (dU a)=S/\(dU a).l<=(dU a).h/\(dU a).h<4294967296/\2 ^ (i+1)<=(dU a).h - (dU a).l+1/\jm (dU a)<=33 * j+(i+1)/\jQ w C D K L v5 (m.see x) (dU a) w5):=dh ⟨g.out.1,g.out.2.2.2.2.2.1.1,g.out.2.2.2.2.2.1.2.1,g.out.2.2.2.2.2.1.2.2,g.out.2.2.2.2.2.2,by rw[g.out.2.2.2.2.1];exact d⟩;clear d B;go_wp2_with fail;go_roundg (33 - (i+1))
      case measure=>rw[aj.out];have:=g.out.2.1;omega
      case rel=>exact⟨i+1,dU a,v5,by have:=g.out.2.1;omega,rfl,H.out⟩
     ·
      have M:dU a=⟨iI a.l a.h,jB a.l a.h,0,a.o ++ true :: List.replicate a.w (!true)⟩:=U5 a e;obtain⟨hi,I,a3,a4⟩:=v (by omega);rw[e]at t;clear v;have g:=dh (dn I (dn hi (dn G (dn hr (dn M (dn a3 a4))))));clear I G M a3 a4;go_wp2_with fail;refine t.mono ?_;clear t;rintro en w4 ⟨rfl,y,z⟩;have f:=u.span y z;have A:=Gu (w:=w4) true f.wr (by have:=g.out.2.2.1;unfold jm at this;simp only;omega);have H4:=dh f;clear u y z f;go_wp2_with fail;refine A.mono ?_;clear A;rintro en w5 ⟨rfl,B⟩;obtain⟨v5,d⟩:=H4.out.put B;have H:Hid (jH (33 - (i+1)) (dU a)=S/\(dU a).l<=(dU a).h/\(dU a).h<4294967296/\2 ^ (i+1)<=(dU a).h - (dU a).l+1/\jm (dU a)<=33 * j+(i+1)/\jQ w C D K L v5 (m.see x) (dU a) w5):=dh ⟨g.out.1,g.out.2.2.2.2.2.1.1,g.out.2.2.2.2.2.1.2.1,g.out.2.2.2.2.2.1.2.2,g.out.2.2.2.2.2.2,by rw[g.out.2.2.2.2.1];exact d⟩;clear d B;go_wp2_with fail;go_roundg (33 - (i+1))
      case measure=>rw[aj.out];have:=g.out.2.1;omega
      case rel=>exact⟨i+1,dU a,v5,by have:=g.out.2.1;omega,rfl,H.out⟩
     ·
      have M:dU a=⟨iI a.l a.h,jB a.l a.h,a.w+1,a.o⟩:=U6 a e;obtain⟨hi,I,a3,a4⟩:=v (by omega);rw[e]at t;clear v;have aL:a.w<=900000000:=by unfold jm at G;omega
      have g:=dh (dn I (dn hi (dn M (dn a3 a4))));clear I G M a3 a4;go_wp2_with fail;refine t.mono ?_;clear t;rintro en w4 ⟨rfl,y,z⟩;have f:=u.span y z;have d3:=f.wr.c3;have df:=f.wr.free;simp only at d3;have d:=f.wait (a.w+1);have ew:((a.w+1:Nat):Int)=(a.w:Int)+1:=by omega
      rw[ew]at d;have H:Hid (jH (33 - (i+1)) (dU a)=S/\(dU a).l<=(dU a).h/\(dU a).h<4294967296/\2 ^ (i+1)<=(dU a).h - (dU a).l+1/\jm (dU a)<=33 * j+(i+1)/\jQ w C D K L v' (m.see x) (dU a) (w4.setCell ⟨C,3,none⟩ (.int .i64 ((a.w:Int)+1)))):=dh ⟨g.out.1,g.out.2.2.2.1.1,g.out.2.2.2.1.2.1,g.out.2.2.2.1.2.2,g.out.2.2.2.2,by rw[g.out.2.2.1];exact d⟩;clear u y z f d ew;go_wp2_with fail;go_roundg (33 - (i+1))
      case measure=>rw[aj.out];have:=g.out.2.1;omega
      case rel=>exact⟨i+1,dU a,v',by have:=g.out.2.1;omega,rfl,H.out⟩
     ·
      have p:a=S:=by
       rw[<-I];cases XY:33 - i with
       | zero=>rfl
       | succ q=>unfold jH;rw[if_pos e]
      have aD:iI a.l a.h=a.l:=by unfold iI;rw[if_pos e]
      have aE:jB a.l a.h=a.h:=by unfold jB;rw[if_pos e]
      rw[e,aD,aE]at t;have g:=dh p;clear v I G p aD aE;go_wp2_with fail;refine t.mono ?_;clear t;rintro en w4 ⟨rfl,y,z⟩;have f:=u.span y z;have H:Hid (jQ w C D K L v' (encS k (l.take (j+1))).1 (encS k (l.take (j+1))).2 w4):=dh (by rw[HS.out,<-g.out];exact f);clear u y z f;go_wp2_with fail;rw[Exit.noGoto_normal];go_wp2_with fail;go_roundg (n - (j+1))
      case measure=>rw[HG.out];omega
      case rel=>exact⟨j+1,v',by omega,rfl,by go_num,H.out⟩
  ·obtain rfl:j=n:=by omega
   obtain⟨m,s,J⟩:∃m s,encS k (l.take j)=(m,s):=⟨_,_,rfl⟩
   have Z:encS k l=(m,s):=by rw[<-J,List.take_of_length_le (by rw[HN.out];exact Nat.le_refl _)]
   rw[J]at u G r;simp only at u G r;have aF:=dh Z;have av:jm s<=33 * j:=by omega
   have aL:s.o.length+s.w<=33 * j:=av;have aQ:=r.1;have aR:=r.2.1;have c0:=u.wr.sp.c0;have c2:=u.wr.c2;have c3:=u.wr.c3;have cf:=u.wr.free;have F:=u.wait (s.w+1);have ew:((s.w+1:Nat):Int)=(s.w:Int)+1:=by omega
   rw[ew]at F;have d0:=F.wr.sp.c0;simp only at d0;clear u J Z E r G ew;by_cases hq:s.l<1073741824
   ·have t0:decide ((s.l:Int)<1073741824)=true:=decide_eq_true (by omega);have p:kZ k l=s.o ++ false :: List.replicate (s.w+1) (!false):=by unfold kZ zi;rw[aF.out,if_pos hq];rfl
    have A:=Gu (w:=wr.setCell ⟨C,3,none⟩ (.int .i64 ((s.w:Int)+1))) false F.wr (by simp only;omega);have H1:=dh (dn F p);clear F p;go_wp2_with fail;refine A.mono ?_;clear A;rintro e w5 ⟨rfl,B⟩;obtain⟨v5,d⟩:=H1.out.1.put B;have d2:=d.wr.c2;have H:Hid (eX w5 D v5 (kZ k l)/\w.heap.size<=D/\(∀q,v5.ownBlock=some q->w.heap.size<=q)/\Keeps (fun _=>False) w w5):=dh ⟨by rw[H1.out.2];exact d.wr.vec,d.lo.2.1,d.lo.2.2.2.2,d.fJ⟩;clear d B H1;go_wp2_with fail;go_ret2;exact⟨D,v5,rfl,H.out⟩
   ·have t0:decide ((s.l:Int)<1073741824)=false:=decide_eq_false (by omega);have p:kZ k l=s.o ++ true :: List.replicate (s.w+1) (!true):=by unfold kZ zi;rw[aF.out,if_neg hq];rfl
    have A:=Gu (w:=wr.setCell ⟨C,3,none⟩ (.int .i64 ((s.w:Int)+1))) true F.wr (by simp only;omega);have H1:=dh (dn F p);clear F p;go_wp2_with fail;refine A.mono ?_;clear A;rintro e w5 ⟨rfl,B⟩;obtain⟨v5,d⟩:=H1.out.1.put B;have d2:=d.wr.c2;have H:Hid (eX w5 D v5 (kZ k l)/\w.heap.size<=D/\(∀q,v5.ownBlock=some q->w.heap.size<=q)/\Keeps (fun _=>False) w w5):=dh ⟨by rw[H1.out.2];exact d.wr.vec,d.lo.2.1,d.lo.2.2.2.2,d.fJ⟩;clear d B H1;go_wp2_with fail;go_ret2;exact⟨D,v5,rfl,H.out⟩
