import Derived.Shelf.Small.Bits
import Derived.Test.YtcfdpogegngplaaGreatZg0s
import Derived.Test.YtcfdpogegngplaaGreatZg0t
import Derived.Test.YtcfdpogegngplaaGreatZg0y
set_option maxRecDepth 100000
set_option maxHeartbeats 4000000
namespace Go.Proofs
open Go.Shelf
def Tryz.lays125_ren:Go.Shelf.Ren:=⟨fun|125=>174|128=>203|129=>204|n=>n,fun|3=>3|4=>4|5=>5|9=>9|46=>182|51=>49|53=>94|n=>n,fun|n=>n⟩
theorem Tryz.lays125:Go.Proofs.Lays.n125 Tryz.prog Tryz.lays125_ren:={
 mixed:=by kernel_rfl
 f125:=Tryz.func174.trans (congrArg some (by kernel_rfl))
 f128:=Tryz.func203.trans (congrArg some (by kernel_rfl))
 f129:=Tryz.func204.trans (congrArg some (by kernel_rfl))
 t3:=Tryz.underlying3
 a3:=Tryz.isAgg3
 z3:=Tryz.sizeOf3
 v3:=Tryz.zeroValue3
 t4:=Tryz.underlying4
 a4:=Tryz.isAgg4
 z4:=Tryz.sizeOf4
 v4:=Tryz.zeroValue4
 t5:=Tryz.underlying5
 a5:=Tryz.isAgg5
 z5:=Tryz.sizeOf5
 v5:=Tryz.zeroValue5
 t9:=Tryz.underlying9
 a9:=Tryz.isAgg9
 z9:=Tryz.sizeOf9
 v9:=Tryz.zeroValue9
 t46:=Tryz.underlying182
 a46:=Tryz.isAgg182
 z46:=Tryz.sizeOf182
 v46:=Tryz.zeroValue182
 t51:=Tryz.underlying49
 a51:=Tryz.isAgg49
 z51:=Tryz.sizeOf49
 v51:=Tryz.zeroValue49
 t53:=Tryz.underlying94
 a53:=Tryz.isAgg94
 z53:=Tryz.sizeOf94
 v53:=Tryz.zeroValue94 }
end Go.Proofs
namespace Go.Proofs.YtcfdpogegngplaaGreat
open Go.RowKit
theorem qf7(x:Nat)(w:World)(h1:x≤18446744073709551615) :
  Calls Tryz.prog 174 #[.int .u64 x] w fun e w'=>e=.returned (.int .i64 (Lib.bitLen x:Nat))∧w=w' :=
 (Any.bits_Len Tryz.lays125 x w (by omega) (by omega)).mono (fun _ _ ⟨h1,h2⟩=>⟨by rw[h1];simp,h2.symm⟩)
theorem Xe(n:Nat)(w:World)(hn:n≤1000000):Calls Tryz.prog 141 #[.int .i64 n] w fun e w'=>e=.returned (.int .i64 (dN n:Nat))∧w=w':=by
 by_cases h:n<2
 ·have t0:decide ((n:Int)<2)=true:=decide_eq_true (by omega)
  have t1:decide (n<2)=true:=decide_eq_true h
  have e:dN n=0:=by unfold dN;rw[if_pos h]
  rw[e]
  go_enter Tryz.func141,Tryz.ntmps141
  go_wp2
  go_ret
  exact⟨rfl,rfl⟩
 ·have t0:decide ((n:Int)<2)=false:=decide_eq_false (by omega)
  have t1:decide (n<2)=false:=decide_eq_false h
  have e:dN n=Lib.bitLen (n - 1):=by unfold dN;rw[if_neg h]
  rw[e]
  obtain⟨m,rfl⟩:∃ m,n=m+1:=⟨n - 1,by omega⟩
  rw[Nat.add_sub_cancel]
  have hL:=qf7 m w (by omega)
  have e1:((m+1:Nat):Int) - 1=(m:Int):=by omega
  have e2:(m:Int)+1 - 1=(m:Int):=by omega
  go_enter Tryz.func141,Tryz.ntmps141
  go_wp2_with fail
  refine hL.mono ?_
  rintro e w' ⟨rfl,rfl⟩
  go_wp2
  go_ret
  exact⟨rfl,rfl⟩
theorem q98(n:Nat)(w:World)(hn:n≤65536):Calls Tryz.prog 156 #[.int .i64 n] w fun e w'=>e=.returned (.int .i64 (n * (dN n+1):Nat))∧w=w':=by
 have hW:=Xe n w (by omega)
 have hw:=Kv n
 have t0:decide ((n:Int)<0)=false:=decide_eq_false (by omega)
 have t1:decide ((65536:Int)<(n:Int))=false:=decide_eq_false (by omega)
 have t2:decide (65536<n)=false:=decide_eq_false (by omega)
 have hm:n * (dN n+1)≤65536 * 65:=Nat.mul_le_mul hn (by omega)
 generalize dN n=k at *
 obtain⟨p,hp⟩:∃ p,p=n * (k+1):=⟨_,rfl⟩
 have e1:(n:Int) * ((k:Int)+1)=(p:Int):=by rw[hp];simp
 rw[← hp] at hm ⊢
 have HP:=ah hp
 clear hp
 go_enter Tryz.func156,Tryz.ntmps156
 go_wp2_with fail
 refine hW.mono ?_
 rintro e w' ⟨rfl,rfl⟩
 go_wp2
 go_ret
 exact⟨rfl,rfl⟩
theorem aY.add1{w wr:World}{b:Nat}{l:List Bool}(h:aY w b l wr)(z:Int)(x:Bool)(hx:x=!(z == 0))(hl:l.length<900000000) :
  Calls Tryz.prog 142 #[.pointer (some ⟨b,0,none⟩),.slice (some ⟨wr.heap.size,0,none⟩) 1 1] (wr.alloc (.cells #[.int .i64 z] 3)) fun e w'=>e=.returned (.tuple #[])∧aY w b (l ++ [x]) w':=by
 obtain⟨v,hv,hb,hvb,hk⟩:=h
 have ka:=(Keeps.refl (fun _=>False) wr).alloc (.cells #[.int .i64 z] 3)
 have hap:=hv.apart
 have hlt:=hv.lt
 refine (KN b v l (.slice (some ⟨wr.heap.size,0,none⟩) 1 1) [z] _ (hv.keeps ka (fun h=>h) (fun _ _ h=>h)) (Sl.one wr .i64 z _) (fun q hq=>?_) (by simp;omega)).mono ?_
 ·simp only [Value.ownBlock,Option.some.injEq] at hq
  subst hq
  exact⟨by omega,fun e=>by have:=(hap _ e).2;omega⟩
 ·rintro e w' ⟨rfl,hg⟩
  refine⟨rfl,?_⟩
  have hg':=aY.grown hb hvb (hk.trans ka (fun _ _ h=>h)) hg
  rw[hx]
  exact hg'
theorem qbg(b:Nat)(sv:Value)(ps:List Nat)(w:World)(h:PermAt w b sv ps)(hP:aM ps.length (sg ps))(he:ps.length % 2=0)(hl:ps.length≤131072)(hm:∀ d,d<ps.length→sg ps (mt d)=mt (sg ps d)) :
  Calls Tryz.prog 101 #[.pointer (some ⟨b,0,none⟩)] w fun e w'=>∃ bv,e=.returned (.tuple #[.pointer (some ⟨bv,0,none⟩),.int .i64 0])∧aY w bv (iY (ps.length / 2) (fun e=>sg ps (2 * e)) (ps.length / 2)) w':=by
 have HH:Hid (∀ W,Keeps (fun _=>False) w W→PermAt W b sv ps):=ah (fun W hk=>h.keeps hk (fun h=>h) (fun _ _ h=>h))
 have hL:=Hu b sv ps w h
 obtain⟨n,hn⟩:∃ n,n=ps.length:=⟨_,rfl⟩
 obtain⟨m,hm2⟩:∃ m,m=ps.length / 2:=⟨_,rfl⟩
 have hnm:n=2 * m:=by omega
 rw[← hn] at hL
 rw[← hm2]
 have HA:=ah (aj hP hm)
 have HN:=ah (aj hn hm2)
 have hl2:n≤131072:=by omega
 clear h hP hm hn hm2 he
 have e1:(n:Int) % 2=0:=by omega
 have e2:(n:Int).tmod 2=0:=by rw[Int.tmod_eq_emod_of_nonneg (by omega)];omega
 have e3:(n:Int) / 2=(m:Int):=by omega
 have e4:(n:Int).tdiv 2=(m:Int):=by rw[Int.tdiv_eq_ediv_of_nonneg (by omega)];omega
 have e5:IntKind.i64.wrap (m:Int)=(m:Int):=IntWalk.i64_in _ (by omega)
 have EH:=ah hnm
 clear hnm
 go_enter Tryz.func101,Tryz.ntmps101
 go_wp2_with fail
 refine hL.mono ?_
 rintro e w' ⟨rfl,rfl⟩
 clear hL
 go_wp2_with fail
 refine (BJ _).mono ?_
 rintro e w' ⟨rfl,rfl⟩
 have hV0:aY w w.heap.size [] (w.alloc (.cells #[.slice none 0 0,.int .i64 0] 203)):=⟨_,FN w,Nat.le_refl _,fun k hk=>by simp[Value.ownBlock] at hk,(Keeps.refl (fun _=>False) w).alloc _⟩
 have hL2:=Hu b sv ps _ (HH.out _ ((Keeps.refl (fun _=>False) w).alloc (.cells #[.slice none 0 0,.int .i64 0] 203)))
 rw[← HN.out.1] at hL2
 obtain⟨bv,hbv⟩:∃ bv,bv=w.heap.size:=⟨_,rfl⟩
 rw[← hbv] at hV0
 go_wp2_with fail
 rw[← hbv]
 clear hbv
 refine hL2.mono ?_
 rintro e w' ⟨rfl,rfl⟩
 clear hL2
 generalize World.alloc _ _=w1 at *
 go_wp2_with fail
 go_loopg [21] m (fun q iv wr=>∃ j:Nat,j≤m∧q=m - j∧iv=.int .i64 j∧aY w bv (iY m (fun e=>sg ps (2 * e)) j) wr)
 case atStart=>exact⟨0,Nat.zero_le _,by omega,rfl,hV0⟩
 case round =>
  clear hV0
  obtain⟨j,hj,aN,rfl,hV⟩:=hrel
  have tq:=ah aN
  clear aN
  by_cases hlt:j<m
  ·have hk:Keeps (fun _=>False) w wr:=by obtain⟨_,_,_,_,hk⟩:=id hV;exact hk
   have hj2:2 * j+1<ps.length:=by have:=HN.out.1;have:=EH.out;omega
   have hP1:=Hw b sv ps (2 * j) wr (HH.out wr hk) (by omega)
   have hP2:=Hw b sv ps (2 * j+1) wr (HH.out wr hk) hj2
   obtain⟨d,hd⟩:∃ d,d=sg ps (2 * j):=⟨_,rfl⟩
   have hmt:mt (2 * j)=2 * j+1:=by unfold mt;rw[if_pos (by omega)]
   have hd2:sg ps (2 * j+1)=mt d:=by rw[← hmt,HA.out.2 _ (by omega),hd]
   rw[hd2] at hP2
   rw[← hd] at hP1
   have hdl:d<ps.length:=by rw[hd];exact HA.out.1.lt _ (by omega)
   have hx:=JV d (by omega)
   have hWd:=fun W=>Xe m W (by omega)
   have hlen:=BG m (fun e=>sg ps (2 * e)) j
   have hsucc:=Xd m (fun e=>sg ps (2 * e)) j
   have hw64:=Kv m
   have hll:(iY m (fun e=>sg ps (2 * e)) j).length≤10000000:=by
    rw[hlen]
    have:j * (dN m+1)≤65536 * 65:=Nat.mul_le_mul (by omega) (by omega)
    omega
   have e6:(d:Int) / 2=((d / 2:Nat):Int):=by omega
   have e7:(d:Int).tdiv 2=((d / 2:Nat):Int):=by rw[Int.tdiv_eq_ediv_of_nonneg (by omega)];omega
   have e8:(d:Int).tmod 2=((d % 2:Nat):Int):=by rw[Int.tmod_eq_emod_of_nonneg (by omega)];omega
   have e9:(d:Int) % 2=((d % 2:Nat):Int):=by omega
   obtain⟨d1,hd1⟩:∃ d1,d1=d / 2:=⟨_,rfl⟩
   obtain⟨d0,hd0⟩:∃ d0,d0=d % 2:=⟨_,rfl⟩
   rw[← hd1] at e6 e7
   rw[← hd0] at e8 e9
   have ajY:d1≤100000:=by omega
   have ajZ:d0<2:=by omega
   have e10:IntKind.u64.wrap (d1:Int)=(d1:Int):=by rw[IntKind.wrap_u64];omega
   have e11:((2 * j:Nat):Int)=2 * (j:Int):=by omega
   have e12:((2 * j+1:Nat):Int)=2 * (j:Int)+1:=by omega
   rw[e11] at hP1
   rw[e12] at hP2
   obtain⟨md,hmd⟩:∃ md,md=mt d:=⟨_,rfl⟩
   rw[← hmd] at hP2 hx
   have HV:=ah (aj hV (aj hll (aj hsucc (aj hd (aj hd1 hd0)))))
   clear hV hk hd hd2 hmt hlen hsucc hd1 hd0 e11 e12 hll hmd hj2 hdl
   generalize iY m (fun e=>sg ps (2 * e)) j=L at *
   generalize hL2:iY m (fun e=>sg ps (2 * e)) (j+1)=L2 at *
   have HL2:=ah hL2
   clear hL2
   go_wp2_with fail
   refine hP1.mono ?_
   clear hP1
   rintro e w' ⟨rfl,rfl⟩
   go_wp2_with fail
   refine hP2.mono ?_
   clear hP2
   rintro e w' ⟨rfl,rfl⟩
   go_wp2_with fail
   refine (hWd _).mono ?_
   rintro e w' ⟨rfl,rfl⟩
   clear hWd
   obtain⟨vv,hvv,hb,hvb,hk⟩:=HV.out.1
   have Af:=qjn bv vv L d1 (dN m) wr hvv (by have:=HV.out.2.1;omega) (by omega) hw64
   have HB:=ah (aj hb (aj hvb hk))
   have Oo:=ah hw64
   clear hvv hb hvb hk hw64
   obtain⟨wd,hwd⟩:∃ wd,wd=dN m:=⟨_,rfl⟩
   rw[← hwd] at Af Oo
   rw[← hwd]
   have HWD:=ah hwd
   clear hwd
   go_wp2_with fail
   refine Af.mono ?_
   clear Af
   rintro e w2 ⟨rfl,hg⟩
   have hV2:aY w bv (L ++ jN d1 wd) w2:=aY.grown HB.out.1 HB.out.2.1 HB.out.2.2 hg
   have hA:=hV2.add1 (d0:Int) (d0 == 1) (by
    have h01:d0=0∨d0=1:=by omega
    rcases h01 with rfl|rfl <;> rfl) (by rw[List.length_append,Iu];have:=HV.out.2.1;have:=Oo.out;omega)
   clear hg hV2
   go_wp2_with fail
   refine hA.mono ?_
   clear hA
   rintro e w3 ⟨rfl,Oq⟩
   have HF:Hid (aY w bv L2 w3):=ah (by
    obtain⟨_,_,hsucc,hd,hd1,hd0⟩:=HV.out
    rw[hsucc]
    unfold pK
    rw[← hd,← hd1,← HWD.out,← hd0,← List.append_assoc]
    exact Oq)
   clear Oq
   go_wp2_with fail
   go_roundg (m - (j+1))
   case measure=>rw[tq.out];omega
   case rel=>exact⟨j+1,by omega,rfl,by go_num,by rw[HL2.out];exact HF.out⟩
  ·obtain rfl:j=m:=by omega
   have HF:=ah hV
   clear hV
   go_wp2
   refine bodyPost_ret (v:=.tuple #[.pointer (some ⟨bv,0,none⟩),.int .i64 0]) (by simp[results,Tryz.results101,go_sem]) rfl ?_
   exact⟨bv,rfl,HF.out⟩
