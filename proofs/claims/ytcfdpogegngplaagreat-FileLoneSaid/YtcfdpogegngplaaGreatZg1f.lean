import Derived.Test.YtcfdpogegngplaaGreatZg1e
import Derived.Test.YtcfdpogegngplaaGreatZg0u
set_option maxRecDepth 100000
set_option maxHeartbeats 4000000
namespace Go.Proofs.YtcfdpogegngplaaGreat
open Go.RowKit
theorem qgr{E:Nat}{f:Nat→Nat}(hE:E≤65536):(iY E f E).length≤10000000:=by
 rw[BG]
 have:=Kv E
 calc E * (dN E+1)≤65536 * 65:=Nat.mul_le_mul hE (by omega)
  _≤_:=by decide
theorem qbu(b:Nat)(vv:Value)(E:Nat)(Q:List Nat)(w:World)(h:aK w b vv (iY E (fun e=>sg Q (2 * e)) E))(hE:E≤65536)(hQ:Q.length=2 * E)(hP:aM Q.length (sg Q))(hm:∀ d,d<Q.length→sg Q (mt d)=mt (sg Q d)) :
  Calls Tryz.prog 157 #[.pointer (some ⟨b,0,none⟩),.int .i64 E] w fun e w'=>∃ bp sv,e=.returned (.tuple #[.pointer (some ⟨bp,0,none⟩),.int .i64 0])∧iw w' bp sv Q∧w.heap.size≤bp∧(∀ k,sv.ownBlock=some k→w.heap.size≤k)∧Keeps (fun _=>False) w w':=by
 have hll:=qgr (f:=fun e=>sg Q (2 * e)) hE
 have hlen:=BG E (fun e=>sg Q (2 * e)) E
 have hrd:=fun e (he:e<E)=>qk8 E (fun e=>sg Q (2 * e)) E e he (by have:=hP.lt (2 * e) (by omega);show sg Q (2 * e) / 2<E;omega) (by omega)
 obtain⟨l,hl⟩:∃ l,l=iY E (fun e=>sg Q (2 * e)) E:=⟨_,rfl⟩
 rw[← hl] at h hll hlen hrd
 clear hl
 have hLn:=rY b vv l w h
 have hSz:=q98 E w hE
 have hWd:=fun W=>Xe E W (by omega)
 have hw64:=Kv E
 obtain⟨u,hu⟩:∃ u,u=dN E:=⟨_,rfl⟩
 rw[← hu] at hSz hWd hlen hrd hw64
 obtain⟨S,hS⟩:∃ S,S=E * (u+1):=⟨_,rfl⟩
 rw[← hS] at hSz hlen
 rw[hlen] at hLn
 have rE:=qe2 b vv l w h (by omega)
 have t0:decide ((E:Int)<0)=false:=decide_eq_false (by omega)
 have t1:decide ((65536:Int)<(E:Int))=false:=decide_eq_false (by omega)
 have t2:decide (65536<E)=false:=decide_eq_false (by omega)
 have t3:((S:Int) != (S:Int))=false:=by simp
 have HX:=ah (aj hll (aj hlen (aj hrd (aj hS (aj hQ (aj hP hm))))))
 clear h hll hlen hrd hu hS hQ hP hm
 go_enter Tryz.func157,Tryz.ntmps157
 go_wp2_with fail
 refine hLn.mono ?_
 clear hLn
 rintro e w1 ⟨rfl,rfl⟩
 go_wp2_with fail
 refine hSz.mono ?_
 clear hSz
 rintro e w1 ⟨rfl,rfl⟩
 go_wp2_with fail
 refine rE.mono ?_
 clear rE
 rintro e w1 ⟨r,rv,xR,rfl,hR,hr1,hr2,hr3,hk1⟩
 have h0:iX w1 r rv xR l (0 * (u+1))∧Keeps (fun _=>False) w w1:=⟨by rw[Nat.zero_mul];exact hR,hk1⟩
 have H0:=ah h0
 have HB:=ah (aj hr1 (aj hr2 hr3))
 clear hR hr1 hr2 hr3 hk1 h0
 go_wp2_with fail
 go_loopg [7,29] E (fun mu lv iv wr=>∃ j:Nat,j≤E∧mu=E - j∧iv=.int .i64 j∧aF w1.heap.size wr lv (aB (Q.take (2 * j)))∧iX wr r rv xR l (j * (u+1))∧Keeps (fun _=>False) w wr∧w1.heap.size≤wr.heap.size)
 case atStart=>exact⟨0,Nat.zero_le _,by omega,rfl,aF.nil _ _,H0.out.1,H0.out.2,Nat.le_refl _⟩
 case round =>
  obtain⟨j,hj,aN,rfl,hO,hR,hkr,hsz⟩:=hrel
  have HG:=ah aN
  clear aN
  obtain⟨la,lc,hlf,-,-⟩:=hO.sl.form
  obtain⟨L,hL⟩:∃ L,L=(aB (Q.take (2 * j))).length:=⟨_,rfl⟩
  rw[← hL] at hlf
  subst hlf
  clear hL
  by_cases hlt:j<E
  ·have hS:=HX.out.2.2.2.1
   have OY:=HX.out.2.2.2.2.1
   obtain⟨a,ha⟩:∃ a,a=j * (u+1):=⟨_,rfl⟩
   have ha2:a+u+1=(j+1) * (u+1):=by rw[ha,Nat.succ_mul];omega
   have haS:a+u+1≤S:=by
    rw[ha2,hS]
    exact Nat.mul_le_mul_right _ (by omega)
   have hlS:=HX.out.2.1
   obtain⟨hr1,hr2⟩:=HX.out.2.2.1 j hlt
   rw[← ha] at hr1 hr2 hR
   have hd:=HX.out.2.2.2.2.2.1.lt (2 * j) (by omega)
   have hmt:=HX.out.2.2.2.2.2.2 (2 * j) (by omega)
   obtain⟨d,hdd⟩:∃ d,d=sg Q (2 * j):=⟨_,rfl⟩
   rw[← hdd] at hr1 hr2 hd hmt
   have hN1:=q6h r rv xR l a u wr hR hw64 (by omega) (by have:=HX.out.1;omega)
   rw[hr1] at hN1
   have mQ:=fun W (hW:iX W r rv xR l (a+u))=>q6h r rv xR l (a+u) 1 W hW (by decide) (by omega) (by have:=HX.out.1;omega)
   rw[hr2] at mQ
   have xJ:=hWd wr
   obtain⟨x,hx⟩:∃ x,x=d / 2:=⟨_,rfl⟩
   obtain⟨t,ht⟩:∃ t,t=d % 2:=⟨_,rfl⟩
   rw[← hx] at hN1
   rw[← ht] at mQ
   have hdb:d≤131072:=by omega
   have w1':IntKind.i64.wrap (x:Int)=(x:Int):=IntWalk.i64_in _ (by omega)
   have w2':IntKind.i64.wrap (2 * (x:Int))=2 * (x:Int):=IntWalk.i64_in _ (by omega)
   have w3':IntKind.i64.wrap (t:Int)=(t:Int):=IntWalk.i64_in _ (by omega)
   have w4':2 * (x:Int)+(t:Int)=(d:Int):=by omega
   have JB:IntKind.i64.wrap (d:Int)=(d:Int):=IntWalk.i64_in _ (by omega)
   have w6':=JV d (by omega)
   obtain⟨m,hm⟩:∃ m,m=mt d:=⟨_,rfl⟩
   rw[← hm] at w6' hmt
   have t4:decide ((j:Int)<(E:Int))=true:=decide_eq_true (by omega)
   have t5:decide (j<E)=true:=decide_eq_true hlt
   have hne:=hR.ne
   have hT:aB (Q.take (2 * j)) ++ [(d:Int),(m:Int)]=aB (Q.take (2 * (j+1))):=by
    have h1:Q[2 * j]? = some d:=by
     rw[hdd];unfold sg
     rw[List.getD_eq_getElem?_getD,List.getElem?_eq_getElem (by omega)];rfl
    have h2:Q[2 * j+1]? = some m:=by
     have e:mt (2 * j)=2 * j+1:=by unfold mt;rw[if_pos (by omega)]
     rw[e] at hmt
     rw[← hmt];unfold sg
     rw[List.getD_eq_getElem?_getD,List.getElem?_eq_getElem (by omega)];rfl
    rw[show 2 * (j+1)=2 * j+1+1 by omega,lX h2,lX h1]
    simp[aB]
   have hTl:(Q.take (2 * j)).length≤200000:=by rw[List.length_take];omega
   have HO:=ah (aj hO (aj hkr (aj hsz (aj hT (aj ha2 (aj hne hTl))))))
   clear hS OY ha ha2 haS hlS hr1 hr2 hR hd hmt hdd hx ht hdb hm hne hT hTl hO hkr hsz
   go_wp2_with fail
   refine xJ.mono ?_
   clear xJ
   rintro e w' ⟨rfl,rfl⟩
   go_wp2_with fail
   refine hN1.mono ?_
   clear hN1
   rintro e w3 ⟨rfl,oF,hk3⟩
   have Ce:=mQ w3 oF
   have xZ:=ah hk3
   clear mQ oF hk3
   go_wp2_with fail
   refine Ce.mono ?_
   clear Ce
   rintro e w4 ⟨rfl,qY,hk4⟩
   have EK:Hid (aF w1.heap.size w4 (.slice la L lc) (aB (Q.take (2 * j)))∧Keeps (fun _=>False) w w4∧iX w4 r rv xR l ((j+1) * (u+1))∧w1.heap.size≤w4.heap.size):=ah (by
    have hrw:=lt_of_block H0.out.1.blk
    have k1:=xZ.out.trans hk4 (fun _ _ h=>h)
    refine⟨HO.out.1.keeps k1 (fun q hq e=>by have:=(HO.out.1.lt q hq).1;omega),HO.out.2.1.trans k1 (fun x hx e=>by have:=HB.out.1;omega),by rw[← HO.out.2.2.2.2.1];exact qY,by have:=k1.size;have:=HO.out.2.2.1;omega⟩)
   clear qY hk4
   go_wp2_with (at_builtin;(refine Qp rfl _ _ rfl w1.heap.size (.slice la L lc) (.slice (some ⟨w4.heap.size,0,none⟩) 2 2) (aB (Q.take (2 * j))) [(d:Int),(m:Int)] rfl rfl (EK.out.1.alloc _) (Sl.two w4 .i64 d m _) (by have:=HO.out.2.2.2.2.2.2;simp only [q01,List.length_cons,List.length_nil];omega) (by have:=EK.out.2.2.2;simp;omega) ?_);intro v5 w5 hown5 hk5 C9)
   rw[HO.out.2.2.2.1] at hown5
   have HF:Hid (aF w1.heap.size w5 v5 (aB (Q.take (2 * (j+1))))∧iX w5 r rv xR l ((j+1) * (u+1))∧Keeps (fun _=>False) w w5∧w1.heap.size≤w5.heap.size):=ah (by
    have hlb:=EK.out.1.lt
    have h1:=H0.out.1
    have hrw:=lt_of_block h1.blk
    have XB:=h1.vec.lt
    have o8:=h1.vec.apart
    have kc:=((Keeps.refl (fun k=>(Value.slice la L lc).ownBlock=some k) w4).alloc (.cells #[.int .i64 (d:Int),.int .i64 (m:Int)] 3)).trans hk5 (fun _ _ h=>h)
    have h5:=kc.size
    exact⟨hown5,EK.out.2.2.1.keeps kc (fun e=>by have:=(hlb _ e).1;omega) (fun e=>by have:=(hlb _ e).1;omega) (fun q hq e=>by have:=(hlb _ e).1;have:=(o8 q hq).2;omega),EK.out.2.1.trans kc (fun x hx e=>by have:=(hlb _ e).1;have:=H0.out.2.size;omega),by have:=EK.out.2.2.2;omega⟩)
   clear hown5 hk5 C9
   go_wp2_with fail
   go_roundg (E - (j+1))
   case measure=>rw[HG.out];omega
   case rel=>exact⟨j+1,by omega,rfl,by go_num,HF.out⟩
  ·obtain rfl:j=E:=by omega
   have t4:decide ((j:Int)<(j:Int))=false:=decide_eq_false (by omega)
   have PY:Q.take (2 * j)=Q:=List.take_of_length_le (by have:=HX.out.2.2.2.2.1;omega)
   rw[PY] at hO
   have hPo:=Rf _ Q wr hO.sl HX.out.2.2.2.2.2.1 (by have:=HX.out.2.2.2.2.1;omega)
   have HK:=ah hkr
   clear hO hR hkr PY hsz
   go_wp2_with fail
   refine hPo.mono ?_
   clear hPo
   rintro e w2 ⟨bp,sv,rfl,hF,hb1,hs1,hk2⟩
   have HF:=ah (aj hF (aj (show w.heap.size≤bp by have:=HK.out.size;omega) (aj (show ∀ k,sv.ownBlock=some k→w.heap.size≤k from fun k hk=>by have:=hs1 k hk;have:=HK.out.size;omega) (HK.out.trans hk2 (fun _ _ h=>h)))))
   clear hF hb1 hs1 hk2
   go_wp2_with fail
   refine bodyPost_ret (v:=.tuple #[.pointer (some ⟨bp,0,none⟩),.int .i64 0]) (by simp[results,Tryz.results157,go_sem]) rfl ?_
   exact⟨bp,sv,rfl,HF.out⟩
