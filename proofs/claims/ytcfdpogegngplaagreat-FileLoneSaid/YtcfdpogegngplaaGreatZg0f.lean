import Derived.Test.YtcfdpogegngplaaGreatZg03
import Derived.Test.YtcfdpogegngplaaGreatZg0b
import Derived.Test.YtcfdpogegngplaaGreatZg0d
import Derived.Test.YtcfdpogegngplaaGreatZg0e
set_option maxRecDepth 100000
set_option maxHeartbeats 4000000
namespace Go.Proofs.YtcfdpogegngplaaGreat
section
open Go.RowKit
theorem qb9(pv:Value)(ps:List Nat)(m:Nat)(w:World)(hp:Sl .u8 w pv (aB ps))(hps:∀ b ∈ ps,b<256)(hm:m≤100000) :
  Calls Tryz.prog 90 #[pv,.int .i64 m] w fun e w'=>∃ q k:Nat,e=.returned (.int .i64 q)∧q≤m+255∧w'=w.drewN k:=by
 obtain⟨a,cap,rfl,hnc,hcm,-,hc⟩:=hp
 rw[q01] at *
 obtain⟨L,hL⟩:∃ L,L=ps.length:=⟨_,rfl⟩
 rw[← hL] at hnc ⊢
 by_cases h0:L=0
 ·subst h0
  clear hc
  go_enter Tryz.func90,Tryz.ntmps90
  go_wp2
  go_ret
  exact⟨0,0,rfl,by omega,rfl⟩
 ·have hmod:=Nat.mod_lt m (show 0<L by omega)
  obtain⟨b,hb⟩:∃ b,ps[m % L]? = some b:=⟨_,List.getElem?_eq_getElem (by omega)⟩
  have hb256:=hps b (List.mem_of_getElem? hb)
  obtain⟨g,off,rfl,hcell⟩:=hc _ _ (jq hb)
  obtain⟨k,hk⟩:∃ k,k=m % L:=⟨_,rfl⟩
  obtain⟨u,hu⟩:∃ u,u=m / L:=⟨_,rfl⟩
  have VI:u≤m:=by rw[hu];exact Nat.div_le_self _ _
  have m1:(m:Int).tmod (L:Int)=(k:Int):=by rw[Int.tmod_eq_emod_of_nonneg (by omega),hk];simp
  have m2:(m:Int).tdiv (L:Int)=(u:Int):=by rw[Int.tdiv_eq_ediv_of_nonneg (by omega),hu];simp
  have m3:¬ (L:Int)=0:=by omega
  have m4:IntKind.i64.wrap (k:Int)=(k:Int):=IntWalk.i64_in _ (by omega)
  have m5:IntKind.i64.wrap (u:Int)=(u:Int):=IntWalk.i64_in _ (by omega)
  have m6:IntKind.i64.wrap (b:Int)=(b:Int):=IntWalk.i64_in _ (by omega)
  have m7:IntKind.i64.wrap ((b:Int)+(u:Int))=((b+u:Nat):Int):=by rw[IntWalk.i64_in _ (by omega)];omega
  have m8:((L:Int) == 0)=false:=by rw[beq_eq_false_iff_ne];exact m3
  rw[← hk] at hcell hmod
  clear hc hb hk hu hps hL
  go_enter Tryz.func90,Tryz.ntmps90
  go_wp2_with fail
  go_region
  all_goals
   go_wp2
   go_ret
   exact⟨b+u,1,by go_num,by omega,rfl⟩
def fx(s:List Nat)(d j:Nat):Nat:=bg (fun x=>sg s (mt x)) j d
theorem MZ{s:List Nat}(T:iG s.length (sg s)){d:Nat}(hd:d<s.length):lu (sg (aQ s)) d=[fx s d 0,fx s d 1,fx s d 2]∧fx s d 0=d∧(∀ j,fx s d j<s.length)∧fx s d 3=d:=by
 have hlt:∀ j,fx s d j<s.length:=by
  intro j
  induction j with
  | zero=>exact hd
  | succ j ih=>exact T.dH.lt _ (T.mlt ih)
 have h3:fx s d 3=d:=T.tri d hd
 have xB:=MW T.dH T.even
 rw[lT] at xB
 have hit:∀ j,bg (sg (aQ s)) j d=fx s d j:=by
  intro j
  induction j with
  | zero=>rfl
  | succ j ih=>show sg (aQ s) (bg (sg (aQ s)) j d)=_;rw[ih,Dc (hlt j)];rfl
 obtain⟨-,n1,n2,-⟩:=T.put hd
 have Gq:per (sg (aQ s)) d=3:=by
  obtain⟨p0,-,p2,p3⟩:=xB.aZ hd
  rcases (show per (sg (aQ s)) d=1∨per (sg (aQ s)) d=2∨per (sg (aQ s)) d=3∨3<per (sg (aQ s)) d by omega) with h|h|h|h
  ·rw[h,hit] at p2;exact absurd p2 n1
  ·rw[h,hit] at p2;exact absurd p2 n2
  ·exact h
  ·exact absurd (by rw[hit,h3]) (p3 3 (by omega) h)
 refine⟨?_,rfl,hlt,h3⟩
 unfold lu
 rw[Gq]
 show [bg (sg (aQ s)) 0 d,bg (sg (aQ s)) 1 d,bg (sg (aQ s)) 2 d]=_
 rw[hit,hit,hit]
def Bn(s:List Nat)(d:Nat):Nat→List Int
 | 0=>aB s ++ List.replicate 6 0
 | i+1=>(((Bn s d i).set (mt (fx s d ((i+2) % 3))) ((s.length+2 * i:Nat):Int)).set (s.length+2 * i) ((fx s d i:Nat):Int)).set (s.length+2 * i+1) ((s.length+2 * ((i+2) % 3)+1:Nat):Int)
theorem VJ(s:List Nat)(d:Nat):∀ i,(Bn s d i).length=s.length+6
 | 0=>by simp[Bn,aB]
 | i+1=>by simp[Bn,VJ s d i]
noncomputable def mF(s:List Nat)(d:Nat):List Nat:=(List.range (s.length+6)).map (fQ s.length (sg s) d)
theorem Rl(s:List Nat)(d:Nat):(mF s d).length=s.length+6:=by simp[mF]
theorem qly{s:List Nat}(T:iG s.length (sg s)){d:Nat}(hd:d<s.length):iG (mF s d).length (sg (mF s d)):=by
 obtain⟨h,-⟩:=T.put hd
 rw[Rl]
 have he:∀ x,x<s.length+6→sg (mF s d) x=fQ s.length (sg s) d x:=fun x hx=>by simp[sg,mF,hx]
 have hI:=h.dH.congr he
 refine⟨hI,h.even,fun x hx=>?_,fun x hx=>?_⟩
 ·have m1:=aU h.even hx
  have l1:=h.dH.lt _ m1
  have m2:=aU h.even l1
  have l2:=h.dH.lt _ m2
  have m3:=aU h.even l2
  rw[he _ m1,he _ m2,he _ m3]
  exact h.tri x hx
 ·have e1:∀ x,x<s.length+6→aD (sg (mF s d)) x=aD (fQ s.length (sg s) d) x:=fun x hx=>by
   unfold aD
   rw[Q9 hI h.dH he hx,CK hI h.dH he _ (Nat.le_of_lt (h.dH.jg hx))]
  rw[e1 x hx,e1 _ (aU h.even hx)]
  exact h.loop x hx
theorem qlz{s:List Nat}(T:iG s.length (sg s)){d:Nat}(hd:d<s.length):Bn s d 3=aB (mF s d):=by
 obtain⟨-,n1,n2,n3,F1,F2,F3,F4,F5,F6,F7,F8,F9,F0⟩:=T.put hd
 obtain⟨-,f0,hlt,-⟩:=MZ T hd
 have n1:fx s d 1≠fx s d 0:=n1
 have n2:fx s d 2≠fx s d 0:=n2
 have n3:fx s d 2≠fx s d 1:=n3
 have F1:fQ s.length (sg s) d (mt (fx s d 2))=s.length:=F1
 have F2:fQ s.length (sg s) d (mt (fx s d 0))=s.length+2:=F2
 have F3:fQ s.length (sg s) d (mt (fx s d 1))=s.length+4:=F3
 have F4:fQ s.length (sg s) d s.length=fx s d 0:=F4
 have F5:fQ s.length (sg s) d (s.length+2)=fx s d 1:=F5
 have F6:fQ s.length (sg s) d (s.length+4)=fx s d 2:=F6
 have F0:∀ z,z<s.length→z≠mt (fx s d 0)→z≠mt (fx s d 1)→z≠mt (fx s d 2)→fQ s.length (sg s) d z=sg s z:=F0
 have y0:=T.mlt (hlt 0)
 have y1:=T.mlt (hlt 1)
 have y2:=T.mlt (hlt 2)
 have mm:∀ u v,u≠v→mt u≠mt v:=fun u v h e=>h (by rw[← bD u,e,bD])
 have k1:=mm _ _ n1
 have k2:=mm _ _ n2
 have k3:=mm _ _ n3
 have hlen:=VJ s d 3
 have hsg:∀ x,x<s.length→(aB s)[x]? = some ((sg s x:Nat):Int):=fun x hx=>jq (yB hx)
 have hR:∀ x,x<s.length+6→(aB (mF s d))[x]? = some ((fQ s.length (sg s) d x:Nat):Int):=fun x hx=>jq (by simp[mF,hx])
 have hz:Bn s d 3=(((((((((aB s ++ List.replicate 6 0).set (mt (fx s d 2)) ((s.length+2 * 0:Nat):Int)).set (s.length+2 * 0) ((fx s d 0:Nat):Int)).set (s.length+2 * 0+1) ((s.length+2 * 2+1:Nat):Int)).set (mt (fx s d 0)) ((s.length+2 * 1:Nat):Int)).set (s.length+2 * 1) ((fx s d 1:Nat):Int)).set (s.length+2 * 1+1) ((s.length+2 * 0+1:Nat):Int)).set (mt (fx s d 1)) ((s.length+2 * 2:Nat):Int)).set (s.length+2 * 2) ((fx s d 2:Nat):Int)).set (s.length+2 * 2+1) ((s.length+2 * 1+1:Nat):Int):=rfl
 have hn:=q01 s
 rw[hz] at hlen ⊢
 clear hz T n1 n2 n3 hlt f0 mm
 generalize fx s d 0=x0 at *
 generalize fx s d 1=x1 at *
 generalize fx s d 2=x2 at *
 generalize mt x0=y0' at *
 generalize mt x1=y1' at *
 generalize mt x2=y2' at *
 have HF:Hid _:=ah (aj F4 (aj F5 (aj F6 (aj F7 (aj F8 (aj F9 (aj F2 (aj F3 (aj F1 F0)))))))))
 clear F4 F5 F6 F7 F8 F9 F1 F2 F3 F0
 apply List.ext_getElem?
 intro x
 by_cases hx:x<s.length+6
 ·rw[hR x hx]
  clear hR hlen
  rcases (show x=s.length∨x=s.length+1∨x=s.length+2∨x=s.length+3∨x=s.length+4∨x=s.length+5∨x<s.length by omega) with h|h|h|h|h|h|h
  ·rw[show x=s.length+2 * 0 by omega]
   rw[List.getElem?_set_ne (by omega),List.getElem?_set_ne (by omega),List.getElem?_set_ne (by omega),List.getElem?_set_ne (by omega),List.getElem?_set_ne (by omega),List.getElem?_set_ne (by omega),List.getElem?_set_ne (by omega),List.getElem?_set_self (by simp only [List.length_set,List.length_append,List.length_replicate,hn];omega)]
   have e:fQ s.length (sg s) d (s.length+2 * 0)=x0:=HF.out.1
   rw[e]
  ·rw[show x=s.length+2 * 0+1 by omega]
   rw[List.getElem?_set_ne (by omega),List.getElem?_set_ne (by omega),List.getElem?_set_ne (by omega),List.getElem?_set_ne (by omega),List.getElem?_set_ne (by omega),List.getElem?_set_ne (by omega),List.getElem?_set_self (by simp only [List.length_set,List.length_append,List.length_replicate,hn];omega)]
   have e:fQ s.length (sg s) d (s.length+2 * 0+1)=s.length+2 * 2+1:=HF.out.2.2.2.1
   rw[e]
  ·rw[show x=s.length+2 * 1 by omega]
   rw[List.getElem?_set_ne (by omega),List.getElem?_set_ne (by omega),List.getElem?_set_ne (by omega),List.getElem?_set_ne (by omega),List.getElem?_set_self (by simp only [List.length_set,List.length_append,List.length_replicate,hn];omega)]
   have e:fQ s.length (sg s) d (s.length+2 * 1)=x1:=HF.out.2.1
   rw[e]
  ·rw[show x=s.length+2 * 1+1 by omega]
   rw[List.getElem?_set_ne (by omega),List.getElem?_set_ne (by omega),List.getElem?_set_ne (by omega),List.getElem?_set_self (by simp only [List.length_set,List.length_append,List.length_replicate,hn];omega)]
   have e:fQ s.length (sg s) d (s.length+2 * 1+1)=s.length+2 * 0+1:=HF.out.2.2.2.2.1
   rw[e]
  ·rw[show x=s.length+2 * 2 by omega]
   rw[List.getElem?_set_ne (by omega),List.getElem?_set_self (by simp only [List.length_set,List.length_append,List.length_replicate,hn];omega)]
   have e:fQ s.length (sg s) d (s.length+2 * 2)=x2:=HF.out.2.2.1
   rw[e]
  ·rw[show x=s.length+2 * 2+1 by omega]
   rw[List.getElem?_set_self (by simp only [List.length_set,List.length_append,List.length_replicate,hn];omega)]
   have e:fQ s.length (sg s) d (s.length+2 * 2+1)=s.length+2 * 1+1:=HF.out.2.2.2.2.2.1
   rw[e]
  ·by_cases a:x=y0'
   ·rw[a,HF.out.2.2.2.2.2.2.1,List.getElem?_set_ne (by omega),List.getElem?_set_ne (by omega),List.getElem?_set_ne (by omega),List.getElem?_set_ne (by omega),List.getElem?_set_ne (by omega),List.getElem?_set_self (by simp only [List.length_set,List.length_append,List.length_replicate,hn];omega)]
   ·by_cases b:x=y1'
    ·rw[b,HF.out.2.2.2.2.2.2.2.1,List.getElem?_set_ne (by omega),List.getElem?_set_ne (by omega),List.getElem?_set_self (by simp only [List.length_set,List.length_append,List.length_replicate,hn];omega)]
    ·by_cases c:x=y2'
     ·rw[c,HF.out.2.2.2.2.2.2.2.2.1,List.getElem?_set_ne (by omega),List.getElem?_set_ne (by omega),List.getElem?_set_ne (by omega),List.getElem?_set_ne (by omega),List.getElem?_set_ne (by omega),List.getElem?_set_ne (by omega),List.getElem?_set_ne (by omega),List.getElem?_set_ne (by omega),List.getElem?_set_self (by simp only [List.length_append,List.length_replicate,hn];omega)];rfl
     ·rw[HF.out.2.2.2.2.2.2.2.2.2 x h a b c,List.getElem?_set_ne (by omega),List.getElem?_set_ne (by omega),List.getElem?_set_ne (by omega),List.getElem?_set_ne (by omega),List.getElem?_set_ne (by omega),List.getElem?_set_ne (by omega),List.getElem?_set_ne (by omega),List.getElem?_set_ne (by omega),List.getElem?_set_ne (by omega),List.getElem?_append_left (by rw[hn];exact h)]
      exact hsg x h
 ·rw[List.getElem?_eq_none (by omega),List.getElem?_eq_none (by rw[q01,Rl];omega)]
theorem qcx(sv:Value)(rt ln:Int)(s:List Nat)(d:Nat)(w:World)(hs:Sl .i64 w sv (aB s))(hsv:∀ q,sv.ownBlock=some q→q<w.heap.size)(T:iG s.length (sg s))(hd:d<s.length)(hl:s.length≤1000) :
  Calls Tryz.prog 89 #[cZ sv rt ln,.int .i64 d] w fun e w'=>∃ jI,e=.returned (cZ jI rt 0)∧aF w.heap.size w' jI (aB (mF s d))∧Keeps (fun _=>False) w w':=by
 obtain⟨W0,hW0⟩:∃ W0,W0=(w.alloc (.cells #[sv,.int .i64 rt,.int .i64 ln] 27)).alloc (.cells #[.slice none 0 0,.int .i64 0,.int .i64 0] 27):=⟨_,rfl⟩
 have k0:Keeps (fun _=>False) w W0:=by rw[hW0];exact ((Keeps.refl _ w).alloc _).alloc _
 have hb0:W0.heap[w.heap.size]? = some (.cells #[sv,.int .i64 rt,.int .i64 ln] 27 (0,0)):=by
  rw[hW0]
  exact ((Keeps.refl (fun _=>False) _).alloc _).at (heap_alloc_new w _) (fun h=>h)
 have hb1:W0.heap[w.heap.size+1]? = some (.cells #[.slice none 0 0,.int .i64 0,.int .i64 0] 27 (0,0)):=by
  rw[hW0]
  have:=heap_alloc_new (w.alloc (.cells #[sv,.int .i64 rt,.int .i64 ln] 27)) (.cells #[.slice none 0 0,.int .i64 0,.int .i64 0] 27)
  simpa using this
 have hz0:W0.heap.size=w.heap.size+2:=by rw[hW0];simp
 have hP:=qa5 sv rt ln s W0 (hs.keeps k0 (fun _ _ h=>h)) T.even (by omega)
 obtain⟨ho,-,hlt,-⟩:=MZ T hd
 have xB:=MW T.dH T.even
 have HT:=ah (aj T (aj hd (aj ho (aj hlt (aj xB hs)))))
 have l8:=ah (aj k0 (aj hb0 hb1))
 have d0:=ak hb0 0
 have d1:=ak hb0 1
 have d2:=ak hb0 2
 obtain⟨a,cap,rfl,hnc,hcm⟩:=hs.form
 rw[q01] at *
 unfold cZ
 clear T ho hlt xB hs k0 hb0 hb1
 go_enter Tryz.func89,Tryz.ntmps89
 go_wp2_with fail
 rw[← hW0]
 clear hW0
 refine hP.mono ?_
 clear hP
 rintro e w1 ⟨pv,rfl,hpv,hk1⟩
 have hO:=q7k pv (aQ s) d w1 hpv.sl HT.out.2.2.2.2.1 (by rw[lT];exact HT.out.2.1) (by rw[lT];omega)
 rw[HT.out.2.2.1] at hO
 have l9:=l8.out.1.trans hk1 (fun _ _ h=>h)
 have hB1:=ah (aj (hk1.at l8.out.2.1 (fun h=>h)) (hk1.at l8.out.2.2 (fun h=>h)))
 have hz1:w.heap.size+2≤w1.heap.size:=by have:=hk1.size;omega
 clear hk1 d0 d1 d2 hpv hz0
 go_wp2_with fail
 refine hO.mono ?_
 clear hO
 rintro e w2 ⟨fv,rfl,yF,hk2⟩
 have hb0:=hk2.at hB1.out.1 (fun h=>h)
 have hb1:=hk2.at hB1.out.2 (fun h=>h)
 have qP:=l9.trans hk2 (fun _ _ h=>h)
 have hz2:w1.heap.size≤w2.heap.size:=hk2.size
 obtain⟨fa,fc,rfl,-,-⟩:=yF.form
 obtain⟨gf,rfl⟩:=AZ yF (by simp[aB])
 have hfl:=yF.lt gf rfl
 have hs2:=HT.out.2.2.2.2.2.keeps qP (fun _ _ h=>h)
 have e3:(aB [fx s d 0,fx s d 1,fx s d 2]).length=3:=rfl
 rw[e3] at yF ⊢
 have ka:=(Keeps.refl (fun _=>False) w2).alloc (.cells #[] 3)
 have hs3:=hs2.keeps ka (fun _ _ h=>h)
 have ho3:=Vq w2
 have uI:w2.heap.size≤(w2.alloc (.cells #[] 3)).heap.size:=by simp
 have d0:=ak hb0 0
 have d3:=ak (ka.at hb0 (fun h=>h)) 0
 have H2:=ah (aj qP (aj hb0 (aj hb1 (aj yF ka))))
 clear l9 hk2 hB1 hb0 hb1 qP yF e3 ka hs2
 go_wp2_with (first
  | (at_builtin;(refine Qp rfl _ _ rfl w2.heap.size (.slice (some ⟨w2.heap.size,0,none⟩) 0 0) (.slice a s.length cap) [] (aB s) rfl rfl ho3 hs3 (by simp[aB];omega) uI ?_);intro v5 w5 hown5 hk5 C9;rw[List.nil_append] at hown5;have hz5:=hk5.size;have hfo:=hown5.form;rw[q01] at hfo;obtain⟨a5,c5,rfl,-,-⟩:=hfo;obtain⟨g5,rfl⟩:=AZ hown5 (by rw[q01];omega))
  | (at_builtin;(refine qex rfl _ _ rfl w2.heap.size g5 c5 s.length (aB s) 6 rfl rfl (q01 s) hown5 (by decide) (by omega) (by omega) ?_);intro g6 c6 w6 hown6 iI Rn))
 have h5g:=(hown5.lt g5 rfl).1
 have k26:Keeps (fun _=>False) w2 w6:=(H2.out.2.2.2.2.trans hk5 (fun x hx e=>by simp only [Value.ownBlock,Option.some.injEq] at e;omega)).trans iI (fun x hx e=>by omega)
 have HT6:=ah (aj hown6 k26)
 have h6g:=hown6.lt g6 rfl
 clear hk5 hz5 hown5 iI C9 Rn hown6 k26 ho3 uI d0 d3 hs3 l8
 go_wp2_with fail
 go_loopg [31] 3 (fun mu iv wr=>∃ i:Nat,i≤3∧mu=3 - i∧iv=.int .i64 i∧aF w2.heap.size wr (.slice (some ⟨g6,0,none⟩) (s.length+6) c6) (Bn s d i)∧Keeps (fun _=>False) w2 wr)
 case atStart=>exact⟨0,by omega,rfl,rfl,HT6.out⟩
 case round =>
  obtain⟨i,hi,aN,rfl,hown,aT⟩:=hrel
  have HG:=ah aN
  clear aN HT6
  by_cases hlt:i<3
  ·obtain⟨p,hp⟩:∃ p,p=(i+2) % 3:=⟨_,rfl⟩
   have hp3:p<3:=by rw[hp];exact Nat.mod_lt _ (by decide)
   have hfw:=H2.out.2.2.2.1.keeps aT (fun _ _ h=>h)
   have hgi:∀ j,j<3→(aB [fx s d 0,fx s d 1,fx s d 2])[j]? = some ((fx s d j:Nat):Int):=fun j hj=>by
    rcases (show j=0∨j=1∨j=2 by omega) with rfl|rfl|rfl <;> rfl
   obtain⟨ci,-⟩:=hfw.cell (hgi i hlt)
   obtain⟨cp,-⟩:=hfw.cell (hgi p hp3)
   have hxi:=HT.out.2.2.2.1 i
   have hxp:=HT.out.2.2.2.1 p
   have hev:=HT.out.1.even
   have hyl:mt (fx s d p)<s.length:=aU hev hxp
   have EG:=fun W=>JL (fx s d p) W (by omega)
   have m1:((i:Int)+3 - 1).tmod 3=(p:Int):=by
    rw[show (i:Int)+3 - 1=((i+2:Nat):Int) by omega,Int.tmod_eq_emod_of_nonneg (by omega),hp];rfl
   have hlen:=VJ s d i
   obtain⟨z1,q1,f1⟩:=hown.has (mt (fx s d p)) (by omega)
   have hs1:=hown.set (mt (fx s d p)) ((s.length:Int)+2 * (i:Int))
   obtain⟨z2,q2,f2⟩:=hs1.has (s.length+2 * i) (by rw[List.length_set];omega)
   have hs2:=hs1.set (s.length+2 * i) ((fx s d i:Nat):Int)
   obtain⟨z3,q3,f3⟩:=hs2.has (s.length+2 * i+1) (by rw[List.length_set,List.length_set];omega)
   have hs3:=hs2.set (s.length+2 * i+1) ((s.length:Int)+2 * (p:Int)+1)
   have hpz:Bn s d (i+1)=((((Bn s d i).set (mt (fx s d p)) ((s.length:Int)+2 * (i:Int))).set (s.length+2 * i) ((fx s d i:Nat):Int)).set (s.length+2 * i+1) ((s.length:Int)+2 * (p:Int)+1)):=by
    show (((Bn s d i).set (mt (fx s d ((i+2) % 3))) ((s.length+2 * i:Nat):Int)).set (s.length+2 * i) ((fx s d i:Nat):Int)).set (s.length+2 * i+1) ((s.length+2 * ((i+2) % 3)+1:Nat):Int)=_
    rw[← hp,show ((s.length+2 * i:Nat):Int)=(s.length:Int)+2 * (i:Int) by omega,show ((s.length+2 * p+1:Nat):Int)=(s.length:Int)+2 * (p:Int)+1 by omega]
   rw[← hpz] at hs3
   have HF:=ah (aj hs3 aT)
   clear hown hfw hgi hs1 hs2 hs3 aT hlen hp HT H2 hpz
   generalize fx s d p=xp at *
   generalize fx s d i=xi at *
   generalize hy:mt xp=y at *
   go_wp2_with fail
   refine (EG _).mono ?_
   clear EG
   rintro e w7 ⟨rfl,rfl⟩
   go_wp2
   go_roundg (3 - (i+1))
   case measure=>rw[HG.out];omega
   case rel=>exact⟨i+1,by omega,rfl,by go_num,HF.out.1,(HF.out.2.trans ((((Keeps.refl (fun x=>x=g6) wr).setCell (p:=⟨g6,y,none⟩) (.inl rfl) _).setCell (p:=⟨g6,s.length+2 * i,none⟩) (.inl rfl) _).setCell (p:=⟨g6,s.length+2 * i+1,none⟩) (.inl rfl) _) (fun x hx e=>by omega))⟩
  ·obtain rfl:i=3:=by omega
   rw[qlz HT.out.1 hd] at hown
   have hb0:=aT.at H2.out.2.1 (fun h=>h)
   have hb1:=aT.at H2.out.2.2.1 (fun h=>h)
   have d1:=ak hb0 1
   have c0:=ak hb1 0
   have c1:=ak hb1 1
   have c2:=ak hb1 2
   have f0:=au hb1 0
   have f1:=au hb1 1
   have f2:=au hb1 2
   have HF:=ah (aj hown (aj (H2.out.1.trans aT (fun _ _ h=>h)) hb1))
   have hgq:=(hown.lt g6 rfl).1
   clear hown aT hb0 hb1 H2 HT
   go_wp2
   obtain⟨r1,r2⟩:=lZ HF.out.2.2 (.slice (some ⟨g6,0,none⟩) (s.length+6) c6) (.int .i64 rt) (.int .i64 0)
   have e0:=ak r1 0
   have e1:=ak r1 1
   have e2:=ak r1 2
   refine bodyPost_ret (v:=cZ (.slice (some ⟨g6,0,none⟩) (s.length+6) c6) rt 0) ?_ rfl ⟨_,rfl,(HF.out.1.keeps r2 (fun q hq e=>by have:=(HF.out.1.lt q hq).1;omega)).mono (fun q hq=>by have:=(HF.out.1.lt q hq).1;omega),HF.out.2.1.trans r2 (fun x hx e=>by omega)⟩
   simp at e0 e1 e2
   simp[results,Tryz.results89,go_sem,cZ,e0,e1,e2]
end
section
open Go.RowKit
noncomputable def iU(s:List Nat)(d:Nat):List Nat:=(List.range s.length).map fun z=>sg s (dQ (gQ (sg s) d) d (mt (sg s (mt d))) (dQ (gQ (sg s) (mt d)) (mt d) (mt (sg s d)) z))
theorem VK(s:List Nat)(d:Nat):(iU s d).length=s.length:=by simp[iU]
def uf(s:List Nat)(d:Nat):Nat:=sg s (mt (sg s (mt d)))
theorem qjg{s:List Nat}(T:iG s.length (sg s)){d:Nat}(hd:d<s.length)(hne:aD (sg s) (uf s d)≠aD (sg s) (uf s (mt d))) :
  iG (iU s d).length (sg (iU s d)) ∧
   ((((((aB s).set (gQ (sg s) d) ((sg s d:Nat):Int)).set (gQ (sg s) (mt d)) ((sg s (mt d):Nat):Int)).set (mt (sg s (mt d))) (d:Int)).set d ((uf s d:Nat):Int)).set (mt (sg s d)) ((mt d:Nat):Int)).set (mt d) ((uf s (mt d):Nat):Int)=aB (iU s d):=by
 have hbd:=T.dH.bC hd
 have hbe:=T.dH.bC (T.mlt hd)
 have hne':aD (sg s) (sg s (mt (sg s (mt d))))≠aD (sg s) (sg s (mt (sg s d))):=by
  unfold uf at hne;rw[bD] at hne;exact hne
 obtain⟨F,hF,hT,k1,k2,k3,k4,k5,k6,kx,F1,F2,F3,F4,F5,F6,F0⟩:=T.flip hd hbd hbe (T.dH.bS hd) (T.dH.bS (T.mlt hd)) hne'
 have he:∀ x,x<s.length→sg (iU s d) x=F x:=fun x hx=>by rw[hF];simp[sg,iU,hx]
 have hR:∀ x,x<s.length→(aB (iU s d))[x]? = some ((F x:Nat):Int):=fun x hx=>jq (by rw[hF];simp[iU,hx])
 have hI:aM s.length (sg (iU s d)):=hT.dH.congr he
 refine⟨?_,?_⟩
 ·rw[VK]
  refine⟨hI,T.even,fun x hx=>?_,fun x hx=>?_⟩
  ·have m1:=aU T.even hx
   have l1:=hT.dH.lt _ m1
   have m2:=aU T.even l1
   have l2:=hT.dH.lt _ m2
   have m3:=aU T.even l2
   rw[he _ m1,he _ m2,he _ m3]
   exact hT.tri x hx
  ·have e1:∀ x,x<s.length→aD (sg (iU s d)) x=aD F x:=fun x hx=>by
    unfold aD
    rw[Q9 hI hT.dH he hx,CK hI hT.dH he _ (Nat.le_of_lt (hT.dH.jg hx))]
   rw[e1 x hx,e1 _ (aU T.even hx)]
   exact hT.loop x hx
 ·have hfl:mt (sg s (mt d))<s.length:=T.mlt (T.dH.lt _ (T.mlt hd))
  have hgl:mt (sg s d)<s.length:=T.mlt (T.dH.lt _ hd)
  have hml:=T.mlt hd
  have ea:uf s d=sg s (mt (sg s (mt d))):=rfl
  have eb:uf s (mt d)=sg s (mt (sg s d)):=by unfold uf;rw[bD]
  have hsg:∀ x,x<s.length→(aB s)[x]? = some ((sg s x:Nat):Int):=fun x hx=>jq (yB hx)
  have hn:=q01 s
  rw[← ea] at F2
  rw[← eb] at F5
  clear hF hT T hI he hne hne' ea eb
  have a1:=kx _ (.inl rfl)
  have a2:=kx _ (.inr (.inl rfl))
  have a3:=kx _ (.inr (.inr rfl))
  have HF:=ah (aj F1 (aj F2 (aj F3 (aj F4 (aj F5 (aj F6 F0))))))
  clear F1 F2 F3 F4 F5 F6 F0 kx
  generalize gQ (sg s) d=bd at *
  generalize gQ (sg s) (mt d)=be at *
  generalize mt (sg s (mt d))=x0 at *
  generalize mt (sg s d)=y0 at *
  generalize mt d=e at *
  generalize uf s d=a at *
  generalize uf s e=b at *
  apply List.ext_getElem?
  intro x
  by_cases hx:x<s.length
  ·rw[hR x hx]
   clear hR
   by_cases c1:x=bd∨x=d∨x=x0
   ·rcases c1 with c|c|c
    ·rw[c,HF.out.1,List.getElem?_set_ne (by omega),List.getElem?_set_ne (by omega),List.getElem?_set_ne (by omega),List.getElem?_set_ne (by omega),List.getElem?_set_ne (by omega),List.getElem?_set_self (by omega)]
    ·rw[c,HF.out.2.1,List.getElem?_set_ne (by omega),List.getElem?_set_ne (by omega),List.getElem?_set_self (by simp only [List.length_set];omega)]
    ·rw[c,HF.out.2.2.1,List.getElem?_set_ne (by omega),List.getElem?_set_ne (by omega),List.getElem?_set_ne (by omega),List.getElem?_set_self (by simp only [List.length_set];omega)]
   ·by_cases c2:x=be∨x=e∨x=y0
    ·rcases c2 with c|c|c
     ·rw[c,HF.out.2.2.2.1,List.getElem?_set_ne (by omega),List.getElem?_set_ne (by omega),List.getElem?_set_ne (by omega),List.getElem?_set_ne (by omega),List.getElem?_set_self (by simp only [List.length_set];omega)]
     ·rw[c,HF.out.2.2.2.2.1,List.getElem?_set_self (by simp only [List.length_set];omega)]
     ·rw[c,HF.out.2.2.2.2.2.1,List.getElem?_set_ne (by omega),List.getElem?_set_self (by simp only [List.length_set];omega)]
    ·rw[HF.out.2.2.2.2.2.2 x c1 c2,List.getElem?_set_ne (by omega),List.getElem?_set_ne (by omega),List.getElem?_set_ne (by omega),List.getElem?_set_ne (by omega),List.getElem?_set_ne (by omega),List.getElem?_set_ne (by omega)]
     exact hsg x hx
  ·rw[List.getElem?_eq_none (by simp only [List.length_set];omega),List.getElem?_eq_none (by rw[q01,VK];omega)]
def qg2(B:Nat)(w:World)(rt:Int)(s:List Nat)(e:Ending)(w':World):Prop :=
 ∃ jI s',e=.returned (cZ jI rt 0)∧iG s'.length (sg s')∧s'.length=s.length∧aF B w' jI (aB s')∧Keeps (fun _=>False) w w'
theorem qba(B:Nat)(sv:Value)(rt:Int)(s:List Nat)(d:Nat)(w:World)(hs:aF B w sv (aB s))(T:iG s.length (sg s))(hd:d<s.length)(hl:s.length≤1000) :
  Calls Tryz.prog 91 #[cZ sv rt 0,.int .i64 d] w (qg2 B w rt s):=by
 obtain⟨W0,hW0⟩:∃ W0,W0=(w.alloc (.cells #[sv,.int .i64 rt,.int .i64 0] 27)).alloc (.cells #[.slice none 0 0,.int .i64 0,.int .i64 0] 27):=⟨_,rfl⟩
 have k0:Keeps (fun _=>False) w W0:=by rw[hW0];exact ((Keeps.refl _ w).alloc _).alloc _
 have hb0:W0.heap[w.heap.size]? = some (.cells #[sv,.int .i64 rt,.int .i64 0] 27 (0,0)):=by
  rw[hW0]
  exact ((Keeps.refl (fun _=>False) _).alloc _).at (heap_alloc_new w _) (fun h=>h)
 have hb1:W0.heap[w.heap.size+1]? = some (.cells #[.slice none 0 0,.int .i64 0,.int .i64 0] 27 (0,0)):=by
  rw[hW0]
  have:=heap_alloc_new (w.alloc (.cells #[sv,.int .i64 rt,.int .i64 0] 27)) (.cells #[.slice none 0 0,.int .i64 0,.int .i64 0] 27)
  simpa using this
 have hz0:W0.heap.size=w.heap.size+2:=by rw[hW0];simp
 have hP:=qa5 sv rt 0 s W0 (hs.keeps k0 (fun _ _ h=>h)).sl T.even (by omega)
 obtain⟨a0,cap,rfl,hnc,hcm⟩:=hs.form
 rw[q01] at *
 obtain⟨gs,rfl⟩:=AZ hs (by rw[q01];omega)
 have hgs:=hs.lt gs rfl
 have HT:=ah (aj T (aj hd hs))
 have l8:=ah (aj k0 (aj hb0 hb1))
 have d0:=ak hb0 0
 have d1:=ak hb0 1
 have d2:=ak hb0 2
 unfold cZ
 clear T hs k0 hb0 hb1
 go_enter Tryz.func91,Tryz.ntmps91
 go_wp2_with fail
 rw[← hW0]
 clear hW0
 refine hP.mono ?_
 clear hP
 rintro e1 w1 ⟨pv,rfl,hpv,hk1⟩
 have l9:=l8.out.1.trans hk1 (fun _ _ h=>h)
 have hB1:=ah (aj (hk1.at l8.out.2.1 (fun h=>h)) (hk1.at l8.out.2.2 (fun h=>h)))
 have hz1:w.heap.size+2≤w1.heap.size:=by have:=hk1.size;omega
 obtain⟨pa,pc,rfl,-,-⟩:=hpv.form
 rw[q01,lT] at hpv ⊢
 obtain⟨gp,rfl⟩:=AZ hpv (by rw[q01,lT];omega)
 have xC:∀ j,j<s.length→w1.cell? ⟨gp,j,none⟩=some (.int .i64 (sg s (mt j):Nat)):=fun j hj=>by
  have:=(hpv.cell (jq (yB (s:=aQ s) (d:=j) (by rw[lT];exact hj)))).1
  rwa [Dc hj] at this
 have hev:=HT.out.1.even
 have hml:mt d<s.length:=aU hev hd
 have hfl:sg s (mt d)<s.length:=HT.out.1.dH.lt _ hml
 have hgl:sg s (mt (mt d))<s.length:=HT.out.1.dH.lt _ (aU hev hml)
 have c1:=xC d hd
 have c2:=xC _ hfl
 have c3:=xC _ hml
 have c4:=xC _ hgl
 have hal:uf s d<s.length:=HT.out.1.dH.lt _ (aU hev hfl)
 have hbl:uf s (mt d)<s.length:=HT.out.1.dH.lt _ (aU hev hgl)
 have hm:=JL d w1 (by omega)
 have VL:=ah xC
 clear hk1 d0 d1 d2 hpv hz0 xC
 rw[show sg s (mt (sg s (mt d)))=uf s d from rfl] at c2
 rw[show sg s (mt (sg s (mt (mt d))))=uf s (mt d) from rfl] at c4
 have HE:=ah (aj hml (aj hfl (aj hgl (aj hal hbl))))
 obtain⟨e,he⟩:∃ e,e=mt d:=⟨_,rfl⟩
 obtain⟨f,hf⟩:∃ f,f=sg s e:=⟨_,rfl⟩
 obtain⟨g,hg⟩:∃ g,g=sg s (mt e):=⟨_,rfl⟩
 obtain⟨a,ha⟩:∃ a,a=uf s d:=⟨_,rfl⟩
 obtain⟨b,hb⟩:∃ b,b=uf s e:=⟨_,rfl⟩
 rw[← he] at hml hfl hgl hbl c1 c2 c3 c4 hm
 rw[← hf] at hfl c1 c2
 rw[← hg] at hgl c3 c4
 rw[← ha] at hal c2
 rw[← hb] at hbl c4
 have HL:=ah (aj he (aj hf (aj hg (aj ha hb))))
 clear he hf hg ha hb
 go_wp2_with fail
 refine hm.mono ?_
 clear hm
 rintro e2 w2 ⟨rfl,rfl⟩
 go_wp2_with fail
 go_quiet (fail)
 clear c1 c2 c3 c4
 obtain⟨wq,hwq⟩:∃ wq,wq=w1.drewN nq:=⟨_,rfl⟩
 have JX:Keeps (fun _=>False) w1 wq:=by rw[hwq];exact (Keeps.refl _ w1).drewN nq
 have Ia:=l9.trans JX (fun _ _ h=>h)
 have VN:=HT.out.2.2.keeps Ia (fun _ _ h=>h)
 have hzq:w.heap.size+2≤wq.heap.size:=by have:=JX.size;omega
 have rQ:=q9s (.slice (some ⟨gs,0,none⟩) s.length cap) s wq VN.sl (fun q hq=>by simp only [Value.ownBlock,Option.some.injEq] at hq;omega) HT.out.1.dH (by omega)
 have Ib:=JX.at hB1.out.1 (fun h=>h)
 have M0:=JX.at hB1.out.2 (fun h=>h)
 have HQ:=ah (aj Ia (aj Ib (aj M0 (aj VN JX))))
 have d0:=ak Ib 0
 clear VN l9 Ib M0 JX Ia hB1
 rw[← hwq]
 clear hwq
 go_wp2_with fail
 refine rQ.mono ?_
 clear rQ d0
 rintro e3 w3 ⟨gn,rfl,zs,hzl,hzs,hOn,hk3⟩
 subst hzs
 have M4:=hk3.at HQ.out.2.1 (fun h=>h)
 have Ic:=hk3.at HQ.out.2.2.1 (fun h=>h)
 have lM:=HQ.out.1.trans hk3 (fun _ _ h=>h)
 have hs3:=HQ.out.2.2.2.1.keeps hk3 (fun _ _ h=>h)
 have hz3:w.heap.size+2≤w3.heap.size:=by have:=hk3.size;omega
 have Dj:∀ W,Keeps (fun _=>False) w3 W→∀ j,j<s.length→W.cell? ⟨gn,j,none⟩=some (.int .i64 (aD (sg s) j:Nat)):=fun W hW j hj=>((hOn.keeps hW (fun _ _ h=>h)).cell (jq (by simp[hj]))).1
 have hsame:∀ W,Keeps (fun _=>False) w3 W→qg2 B w rt s (.returned (cZ (.slice (some ⟨gs,0,none⟩) s.length cap) rt 0)) (((W.setCell ⟨w.heap.size+1,0,none⟩ (.slice (some ⟨gs,0,none⟩) s.length cap)).setCell ⟨w.heap.size+1,1,none⟩ (.int .i64 rt)).setCell ⟨w.heap.size+1,2,none⟩ (.int .i64 0)) ∧
   (((W.setCell ⟨w.heap.size+1,0,none⟩ (.slice (some ⟨gs,0,none⟩) s.length cap)).setCell ⟨w.heap.size+1,1,none⟩ (.int .i64 rt)).setCell ⟨w.heap.size+1,2,none⟩ (.int .i64 0)).heap[w.heap.size+1]? = some (.cells #[.slice (some ⟨gs,0,none⟩) s.length cap,.int .i64 rt,.int .i64 0] 27 (0,0)):=fun W hW=>by
  obtain⟨r1,r2⟩:=lZ (hW.at Ic (fun h=>h)) (.slice (some ⟨gs,0,none⟩) s.length cap) (.int .i64 rt) (.int .i64 0)
  exact⟨⟨_,s,rfl,HT.out.1,rfl,(hs3.keeps hW (fun _ _ h=>h)).keeps r2 (fun q hq e=>by simp only [Value.ownBlock,Option.some.injEq] at hq;omega),(lM.trans hW (fun _ _ h=>h)).trans r2 (fun x hx e=>by omega)⟩,r1⟩
 have HSm:=ah hsame
 have H3:=ah (aj M4 (aj Ic (aj lM hs3)))
 have ca:=Dj w3 (Keeps.refl _ _) a hal
 have cb:=Dj w3 (Keeps.refl _ _) b hbl
 have EH:=ah Dj
 have VO:=World.block_lt_of_cell? _ _ (VL.out d hd)
 have M5:∀ j,j<s.length→w3.cell? ⟨gp,j,none⟩=some (.int .i64 (sg s (mt j):Nat)):=fun j hj=>(World.cell?_of_block ((HQ.out.2.2.2.2.trans hk3 (fun _ _ h=>h)).block gp VO (fun h=>h))).trans (VL.out j hj)
 have VP:gp<w3.heap.size:=by have:=(HQ.out.2.2.2.2.trans hk3 (fun _ _ h=>h)).size;have:gp<w1.heap.size:=VO;omega
 have HPH:=ah M5
 clear hsame M4 Ic lM hs3 Dj hOn hk3 hzl HQ VO M5 VL
 by_cases hab:aD (sg s) a=aD (sg s) b
 ·have t1:((aD (sg s) a:Int) == (aD (sg s) b:Int))=true:=by rw[hab];simp
  clear hab
  go_wp2_with fail
  go_quiet (fail)
  clear ca cb t1
  obtain⟨W,hW⟩:∃ W,W=w3.drewN nq:=⟨_,rfl⟩
  have hkW:Keeps (fun _=>False) w3 W:=by rw[hW];exact (Keeps.refl _ w3).drewN nq
  rw[← hW]
  clear hW
  have p0:=ak (hkW.at H3.out.1 (fun h=>h)) 0
  have p1:=ak (hkW.at H3.out.1 (fun h=>h)) 1
  have p2:=ak (hkW.at H3.out.1 (fun h=>h)) 2
  have q0:=ak (hkW.at H3.out.2.1 (fun h=>h)) 0
  have q1:=ak (hkW.at H3.out.2.1 (fun h=>h)) 1
  have q2:=ak (hkW.at H3.out.2.1 (fun h=>h)) 2
  have r0:=au (hkW.at H3.out.2.1 (fun h=>h)) 0
  have r1:=au (hkW.at H3.out.2.1 (fun h=>h)) 1
  have r2:=au (hkW.at H3.out.2.1 (fun h=>h)) 2
  have HS:=ah (HSm.out W hkW)
  clear hkW
  go_wp2
  obtain⟨s1,s2⟩:=HS.out
  have e0:=ak s2 0
  have e1:=ak s2 1
  have e2:=ak s2 2
  refine bodyPost_ret (v:=cZ (.slice (some ⟨gs,0,none⟩) s.length cap) rt 0) ?_ rfl s1
  simp at e0 e1 e2
  simp[results,Tryz.results91,go_sem,cZ,e0,e1,e2]
 ·have t1:((aD (sg s) a:Int) == (aD (sg s) b:Int))=false:=by rw[beq_eq_false_iff_ne];omega
  go_wp2_with fail
  go_quiet (fail)
  clear ca cb t1
  obtain⟨W,hW⟩:∃ W,W=w3.drewN nq:=⟨_,rfl⟩
  have hkW:Keeps (fun _=>False) w3 W:=by rw[hW];exact (Keeps.refl _ w3).drewN nq
  rw[← hW]
  clear hW
  have p0:=ak (hkW.at H3.out.1 (fun h=>h)) 0
  have HW:=ah hkW
  clear hkW
  go_wp2_with fail
  clear p0
  go_loopg [49] s.length (fun mu iv wr=>∃ x:Nat,x≤s.length∧mu=s.length - x∧iv=.int .i64 x∧Keeps (fun _=>False) w3 wr)
  case atStart=>exact⟨0,Nat.zero_le _,by omega,rfl,HW.out⟩
  case round =>
   obtain⟨x,hx,aN,rfl,aT⟩:=hrel
   have HG:=ah aN
   clear aN HW
   by_cases hlt:x<s.length
   ·have hmx:=aU hev hlt
    have cx:=EH.out wr aT x hlt
    have ca:=EH.out wr aT a hal
    have cb:=EH.out wr aT b hbl
    have cm:=EH.out wr aT _ hmx
    have hm:=fun W=>JL x W (by omega)
    generalize mt x=mx at *
    by_cases h1:aD (sg s) x=aD (sg s) a
    ·have t1:((aD (sg s) x:Int) == (aD (sg s) a:Int))=true:=by rw[h1];simp
     by_cases h2:aD (sg s) mx=aD (sg s) b
     ·have t2:((aD (sg s) mx:Int) == (aD (sg s) b:Int))=true:=by rw[h2];simp
      clear h1 h2
      have HK:=ah aT
      clear aT
      go_wp2_with fail
      go_quiet ((go_at_call 74;exact qH (hm _)))
      clear ca cb cx cm t1 t2 hm
      obtain⟨W,hW⟩:∃ W,W=wr.drewN nq:=⟨_,rfl⟩
      have hkW:Keeps (fun _=>False) w3 W:=by rw[hW];exact HK.out.drewN nq
      rw[← hW]
      clear hW
      have p0:=ak (hkW.at H3.out.1 (fun h=>h)) 0
      have p1:=ak (hkW.at H3.out.1 (fun h=>h)) 1
      have p2:=ak (hkW.at H3.out.1 (fun h=>h)) 2
      have q0:=ak (hkW.at H3.out.2.1 (fun h=>h)) 0
      have q1:=ak (hkW.at H3.out.2.1 (fun h=>h)) 1
      have q2:=ak (hkW.at H3.out.2.1 (fun h=>h)) 2
      have r0:=au (hkW.at H3.out.2.1 (fun h=>h)) 0
      have r1:=au (hkW.at H3.out.2.1 (fun h=>h)) 1
      have r2:=au (hkW.at H3.out.2.1 (fun h=>h)) 2
      have HS:=ah (HSm.out W hkW)
      clear hkW
      go_wp2
      obtain⟨s1,s2⟩:=HS.out
      have e0:=ak s2 0
      have e1:=ak s2 1
      have e2:=ak s2 2
      refine bodyPost_ret (v:=cZ (.slice (some ⟨gs,0,none⟩) s.length cap) rt 0) ?_ rfl s1
      simp at e0 e1 e2
      simp[results,Tryz.results91,go_sem,cZ,e0,e1,e2]
     ·have t2:((aD (sg s) mx:Int) == (aD (sg s) b:Int))=false:=by rw[beq_eq_false_iff_ne];omega
      have HK:=ah aT
      clear h1 h2 aT
      go_wp2_with fail
      go_quiet ((go_at_call 74;exact qH (hm _)))
      clear ca cb cx cm t1 t2 hm
      go_wp2
      go_roundg (s.length - (x+1))
      case measure=>rw[HG.out];omega
      case rel=>exact⟨x+1,by omega,rfl,by go_num,HK.out.drewN nq⟩
    ·have t1:((aD (sg s) x:Int) == (aD (sg s) a:Int))=false:=by rw[beq_eq_false_iff_ne];omega
     have HK:=ah aT
     clear h1 aT
     go_wp2_with fail
     go_quiet ((go_at_call 74;exact qH (hm _)))
     clear ca cb cx cm t1 hm
     go_wp2
     go_roundg (s.length - (x+1))
     case measure=>rw[HG.out];omega
     case rel=>exact⟨x+1,by omega,rfl,by go_num,HK.out.drewN nq⟩
   ·have ka:=(Keeps.refl (fun _=>False) wr).alloc (.cells #[] 3)
    have p0:=ak (aT.at H3.out.1 (fun h=>h)) 0
    have p3:=ak (ka.at (aT.at H3.out.1 (fun h=>h)) (fun h=>h)) 0
    have hs3:=((H3.out.2.2.2.keeps aT (fun _ _ h=>h)).keeps ka (fun _ _ h=>h)).sl
    have ho3:=Vq wr
    have uI:wr.heap.size≤(wr.alloc (.cells #[] 3)).heap.size:=by simp
    have hzw:=aT.size
    have Dk:=ah (aj aT ka)
    clear aT ka
    go_wp2_with (at_builtin;(refine Qp rfl _ _ rfl wr.heap.size (.slice (some ⟨wr.heap.size,0,none⟩) 0 0) (.slice (some ⟨gs,0,none⟩) s.length cap) [] (aB s) rfl rfl ho3 hs3 (by simp[aB];omega) uI ?_);intro v5 w5 hown5 hk5 C9;rw[List.nil_append] at hown5;have hfo:=hown5.form;rw[q01] at hfo;obtain⟨a5,c5,rfl,-,-⟩:=hfo;obtain⟨g5,rfl⟩:=AZ hown5 (by rw[q01];omega);have k5:Keeps (fun _=>False) w3 w5:=(Dk.out.1.trans Dk.out.2 (fun _ _ h=>h)).trans hk5 (fun x hx e=>by simp only [Value.ownBlock,Option.some.injEq] at e;omega);have p5:=ak (k5.at H3.out.1 (fun h=>h)) 0)
    have h5g:=hown5.lt g5 rfl
    have hs5:=H3.out.2.2.2.keeps k5 (fun _ _ h=>h)
    have hIn:=q9r (.slice (some ⟨gs,0,none⟩) s.length cap) s w5 hs5.sl HT.out.1.dH (by omega)
    refine hIn.mono ?_
    clear hIn p0 p3 hs3 ho3 uI hs5 p5 hk5 C9
    rintro e7 w7 ⟨gb,rfl,zs,hzl,hzs,hOb,yG⟩
    subst hzs
    have hgb:=hOb.lt gb rfl
    have M6:=hown5.keeps yG (fun _ _ h=>h)
    have k7:=k5.trans yG (fun _ _ h=>h)
    have hz5:w3.heap.size≤w5.heap.size:=k5.size
    obtain⟨bd,hbd⟩:∃ bd,bd=gQ (sg s) d:=⟨_,rfl⟩
    obtain⟨be,hbe⟩:∃ be,be=gQ (sg s) e:=⟨_,rfl⟩
    have VQ:bd<s.length:=by rw[hbd];exact HT.out.1.dH.bC hd
    have hbel:be<s.length:=by rw[hbe];exact HT.out.1.dH.bC hml
    have cbd:w7.cell? ⟨gb,d,none⟩=some (.int .i64 (bd:Nat)):=by rw[hbd];exact (hOb.cell (jq (by simp[hd]))).1
    have cbe:w7.cell? ⟨gb,e,none⟩=some (.int .i64 (be:Nat)):=by rw[hbe];exact (hOb.cell (jq (by simp[hml]))).1
    have hgd:g=sg s d:=by rw[HL.out.2.2.1,HL.out.1,bD]
    have c5d:w7.cell? ⟨g5,d,none⟩=some (.int .i64 (g:Nat)):=by rw[hgd];exact (M6.cell (jq (yB hd))).1
    have c5e:w7.cell? ⟨g5,e,none⟩=some (.int .i64 (f:Nat)):=by rw[HL.out.2.1];exact (M6.cell (jq (yB hml))).1
    have hfin:iG (iU s d).length (sg (iU s d))∧((((((aB s).set bd (g:Int)).set be (f:Int)).set (mt f) (d:Int)).set d (a:Int)).set (mt g) (e:Int)).set e (b:Int)=aB (iU s d):=by
     have:=qjg HT.out.1 hd (by rw[← HL.out.2.2.2.1,← HL.out.1,← HL.out.2.2.2.2];exact hab)
     rw[← HL.out.1,← hbd,← hbe,← hgd,← HL.out.2.1,← HL.out.2.2.2.1,← HL.out.2.2.2.2] at this
     exact this
    obtain⟨z1,q1,f1⟩:=M6.has bd (by rw[q01];exact VQ)
    have hs1:=M6.set bd (g:Int)
    obtain⟨z2,q2,f2⟩:=hs1.has be (by rw[List.length_set,q01];exact hbel)
    have hs2:=hs1.set be (f:Int)
    have HO:=ah (aj hs2 (aj k7 (aj hfin (aj hgd hOb))))
    clear hown5 hOb yG M6 k7 k5 hs1 hs2 hfin hgd hbd hbe hzl Dk
    go_wp2_with fail
    go_region
    clear cbd cbe c5d c5e q1 f1 q2 f2
    obtain⟨W8,Bo⟩:∃ W8,W8=((w7.setCell ⟨g5,bd,none⟩ (.int .i64 (g:Int))).setCell ⟨g5,be,none⟩ (.int .i64 (f:Int))).drew:=⟨_,rfl⟩
    have k78:Keeps (fun x=>x=g5) w7 W8:=by
     rw[Bo]
     exact (((Keeps.refl (fun x=>x=g5) w7).setCell (p:=⟨g5,bd,none⟩) (.inl rfl) _).setCell (p:=⟨g5,be,none⟩) (.inl rfl) _).drew
    have ho8:=HO.out.1.keeps (w':=W8) (F:=fun _=>False) (by rw[Bo];exact (Keeps.refl _ _).drew) (fun _ _ h=>h)
    have VR:Keeps (fun x=>x=g5) w3 W8:=(HO.out.2.1.mono (fun _ _ h=>h.elim)).trans k78 (fun _ _ h=>h)
    have hg5:w3.heap.size≤g5:=by omega
    have Ie:∀ j,j<s.length→W8.cell? ⟨gp,j,none⟩=some (.int .i64 (sg s (mt j):Nat)):=fun j hj=>(World.cell?_of_block (VR.block gp VP (fun h=>by omega))).trans (HPH.out j hj)
    have c1:=Ie d hd
    have c3:=Ie e hml
    rw[← HL.out.1,← HL.out.2.1] at c1
    rw[← HL.out.2.2.1] at c3
    have Jv:=fun W=>JL f W (by omega)
    have A9:=fun W=>JL g W (by omega)
    have H8:=ah (aj ho8 VR)
    rw[← Bo]
    clear Bo k78 ho8 VR Ie
    have hxl:=aU hev hfl
    have hyl:=aU hev hgl
    generalize mt f=x0 at *
    generalize mt g=y0 at *
    go_wp2_with fail
    go_quiet ((go_at_call 74;first | (with_reducible exact qH (Jv _)) | (with_reducible exact qH (A9 _))))
    clear c1 c3 Jv A9
    obtain⟨W9,VT⟩:∃ W9,W9=W8.drewN nq:=⟨_,rfl⟩
    have VU:Keeps (fun _=>False) W8 W9:=by rw[VT];exact (Keeps.refl _ W8).drewN nq
    have VW:=H8.out.1.keeps VU (fun _ _ h=>h)
    have k39:Keeps (fun x=>x=g5) w3 W9:=H8.out.2.trans VU (fun _ _ h=>h.elim)
    rw[← VT]
    clear VT
    have hln:(((aB s).set bd (g:Int)).set be (f:Int)).length=s.length:=by rw[List.length_set,List.length_set,q01]
    obtain⟨z3,q3,f3⟩:=VW.has x0 (by rw[hln];exact hxl)
    have h3':=VW.set x0 (d:Int)
    obtain⟨z4,q4,f4⟩:=h3'.has d (by rw[List.length_set,hln];exact hd)
    have h4':=h3'.set d (a:Int)
    obtain⟨z5,q5,f5⟩:=h4'.has y0 (by rw[List.length_set,List.length_set,hln];exact hyl)
    have h5':=h4'.set y0 (e:Int)
    obtain⟨z6,q6,f6⟩:=h5'.has e (by rw[List.length_set,List.length_set,List.length_set,hln];exact hml)
    have h6':=h5'.set e (b:Int)
    rw[HO.out.2.2.1.2] at h6'
    have k9D:Keeps (fun x=>x=g5) W9 ((((W9.setCell ⟨g5,x0,none⟩ (.int .i64 (d:Int))).setCell ⟨g5,d,none⟩ (.int .i64 (a:Int))).setCell ⟨g5,y0,none⟩ (.int .i64 (e:Int))).setCell ⟨g5,e,none⟩ (.int .i64 (b:Int))) :=
     ((((Keeps.refl (fun x=>x=g5) W9).setCell (p:=⟨g5,x0,none⟩) (.inl rfl) _).setCell (p:=⟨g5,d,none⟩) (.inl rfl) _).setCell (p:=⟨g5,y0,none⟩) (.inl rfl) _).setCell (p:=⟨g5,e,none⟩) (.inl rfl) _
    have Ro:=k39.trans k9D (fun _ _ h=>h)
    have hD0:=Ro.at H3.out.1 (fun h=>by omega)
    have hD1:=Ro.at H3.out.2.1 (fun h=>by omega)
    have p1:=ak hD0 1
    have u0:=ak hD1 0
    have u1:=ak hD1 1
    have u2:=ak hD1 2
    have v0:=au hD1 0
    have v1:=au hD1 1
    have v2:=au hD1 2
    have HD:=ah (aj h6' (aj Ro hD1))
    clear VW h3' h4' h5' h6' VU k39 k9D Ro hD0 hD1 hln
    go_wp2
    obtain⟨r1,r2⟩:=lZ HD.out.2.2 (.slice (some ⟨g5,0,none⟩) s.length c5) (.int .i64 rt) (.int .i64 0)
    have e0:=ak r1 0
    have e1:=ak r1 1
    have e2:=ak r1 2
    have hk3:w.heap.size≤w3.heap.size:=by omega
    refine bodyPost_ret (v:=cZ (.slice (some ⟨g5,0,none⟩) s.length c5) rt 0) ?_ rfl ⟨_,iU s d,rfl,HO.out.2.2.1.1,VK s d,(HD.out.1.keeps r2 (fun q hq e=>by simp only [Value.ownBlock,Option.some.injEq] at hq;omega)).mono (fun q hq=>by simp only [Value.ownBlock,Option.some.injEq] at hq;omega),(H3.out.2.2.1.trans HD.out.2.1 (fun x hx e=>by omega)).trans r2 (fun x hx e=>by omega)⟩
    simp at e0 e1 e2
    simp[results,Tryz.results91,go_sem,cZ,e0,e1,e2]
end
section
open Go.RowKit
def xD:List Nat:=[5,2,1,4,3,0]
theorem qox:iG xD.length (sg xD):=by
 have hI:aM 6 (sg xD):=by
  refine⟨fun d hd=>?_,fun d e hd he h=>?_⟩
  ·have h:∀ x:Fin 6,sg xD x.val<6:=by decide
   exact h ⟨d,hd⟩
  ·have h0:∀ x y:Fin 6,sg xD x.val=sg xD y.val→x.val=y.val:=by decide
   exact h0 ⟨d,hd⟩ ⟨e,he⟩ h
 refine⟨hI,rfl,fun x hx=>?_,Um hI rfl (fun z=>([0,1,1,2,2,0]:List Nat).getD z 0) (fun z hz=>?_) (fun z hz=>?_)⟩
 ·have h:∀ x:Fin 6,sg xD (mt (sg xD (mt (sg xD (mt x.val)))))=x.val:=by decide
  exact h ⟨x,hx⟩
 ·have h:∀ x:Fin 6,([0,1,1,2,2,0]:List Nat).getD (sg xD x.val) 0=([0,1,1,2,2,0]:List Nat).getD x.val 0:=by decide
  exact h ⟨z,hz⟩
 ·have h:∀ x:Fin 6,([0,1,1,2,2,0]:List Nat).getD x.val 0≠([0,1,1,2,2,0]:List Nat).getD (mt x.val) 0:=by decide
  exact h ⟨z,hz⟩
theorem qcy(I:Nat)(pv:Value)(ps:List Nat)(root:Nat)(w:World)(hp:Sl .u8 w pv (aB ps))(hps:∀ b ∈ ps,b<256)(hI:I≤100)(hroot:root<256) :
  Calls Tryz.prog 50 #[.int .i64 I,pv,.int .u8 root] w fun e w'=>∃ sv s,e=.returned (cZ sv ((root % s.length:Nat):Int) 0)∧iG s.length (sg s)∧s.length=6+6 * I∧aF w.heap.size w' sv (aB s)∧Keeps (fun _=>False) w w':=by
 have Bq:∀ W m,Keeps (fun _=>False) w W→m≤100000→Calls Tryz.prog 90 #[pv,.int .i64 (m:Nat)] W fun e w'=>∃ q k:Nat,e=.returned (.int .i64 q)∧q≤m+255∧w'=W.drewN k:=fun W m hW hm=>qb9 pv ps m W (hp.keeps hW (fun _ _ h=>h)) hps hm
 have VX:=ah Bq
 clear hp hps Bq
 go_enter Tryz.func50,Tryz.ntmps50
 go_wp2_with fail
 obtain⟨W0,hW0⟩:∃ W0,W0=(((w.alloc (.cells #[.slice none 0 0,.int .i64 0,.int .i64 0] 27)).alloc (.cells #[.int .i64 5,.int .i64 2,.int .i64 1,.int .i64 4,.int .i64 3,.int .i64 0] 3)).alloc (.cells #[.slice (some ⟨w.heap.size+1,0,none⟩) 6 6,.int .i64 0,.int .i64 0] 27)):=⟨_,rfl⟩
 have k0:Keeps (fun _=>False) w W0:=by rw[hW0];exact (((Keeps.refl _ w).alloc _).alloc _).alloc _
 have b0:W0.heap[w.heap.size]? = some (.cells #[.slice none 0 0,.int .i64 0,.int .i64 0] 27 (0,0)):=by
  rw[hW0]
  exact (((Keeps.refl (fun _=>False) _).alloc _).alloc _).at (heap_alloc_new w _) (fun h=>h)
 have b1:W0.heap[w.heap.size+1]? = some (.cells #[.int .i64 5,.int .i64 2,.int .i64 1,.int .i64 4,.int .i64 3,.int .i64 0] 3 (0,0)):=by
  rw[hW0]
  have h1:=heap_alloc_new (w.alloc (.cells #[.slice none 0 0,.int .i64 0,.int .i64 0] 27)) (.cells #[.int .i64 5,.int .i64 2,.int .i64 1,.int .i64 4,.int .i64 3,.int .i64 0] 3)
  have h2:=((Keeps.refl (fun _=>False) _).alloc (.cells #[.slice (some ⟨w.heap.size+1,0,none⟩) 6 6,.int .i64 0,.int .i64 0] 27)).at h1 (fun h=>h)
  simpa using h2
 have b2:W0.heap[w.heap.size+2]? = some (.cells #[.slice (some ⟨w.heap.size+1,0,none⟩) 6 6,.int .i64 0,.int .i64 0] 27 (0,0)):=by
  rw[hW0]
  have h1:=heap_alloc_new ((w.alloc (.cells #[.slice none 0 0,.int .i64 0,.int .i64 0] 27)).alloc (.cells #[.int .i64 5,.int .i64 2,.int .i64 1,.int .i64 4,.int .i64 3,.int .i64 0] 3)) (.cells #[.slice (some ⟨w.heap.size+1,0,none⟩) 6 6,.int .i64 0,.int .i64 0] 27)
  simpa using h1
 have ho:aF (w.heap.size+1) W0 (.slice (some ⟨w.heap.size+1,0,none⟩) 6 6) (aB xD):=⟨rfl,.inr ⟨w.heap.size+1,6,_,rfl,Nat.le_refl _,b1,by decide,by decide,rfl,rfl⟩⟩
 have hz0:W0.heap.size=w.heap.size+3:=by rw[hW0];simp
 have h0:W0.heap[w.heap.size+2]? = some (.cells #[.slice (some ⟨w.heap.size+1,0,none⟩) 6 6,.int .i64 0,.int .i64 0] 27 (0,0))∧aF (w.heap.size+1) W0 (.slice (some ⟨w.heap.size+1,0,none⟩) 6 6) (aB xD)∧(∀ q,(Value.slice (some ⟨w.heap.size+1,0,none⟩) 6 6).ownBlock=some q→q≠w.heap.size+2) ∧
   W0.heap[w.heap.size]? = some (.cells #[.slice none 0 0,.int .i64 0,.int .i64 0] 27 (0,0))∧Keeps (fun _=>False) w W0:=⟨b2,ho,fun q hq=>by simp only [Value.ownBlock,Option.some.injEq] at hq;omega,b0,k0⟩
 obtain⟨bm,Dl⟩:∃ bm,bm=w.heap.size+1+1:=⟨_,rfl⟩
 rw[show w.heap.size+2=bm from Dl.symm] at h0
 have H0:=ah h0
 rw[← hW0,← Dl]
 have hbw:w.heap.size+1<bm:=by omega
 have HBM:=ah Dl
 clear hW0 k0 b0 b1 b2 ho h0 Dl
 go_loopg [8,9] I (fun mu av iv wr=>∃ (i m:Nat) (sv:Value) (s:List Nat),i≤I∧mu=I - i∧m≤3 * i∧av=.int .i64 m∧iv=.int .i64 i∧iG s.length (sg s)∧s.length=6+6 * i ∧
  wr.heap[bm]? = some (.cells #[sv,.int .i64 0,.int .i64 0] 27 (0,0))∧aF (w.heap.size+1) wr sv (aB s)∧(∀ q,sv.ownBlock=some q→q≠bm) ∧
  wr.heap[w.heap.size]? = some (.cells #[.slice none 0 0,.int .i64 0,.int .i64 0] 27 (0,0))∧Keeps (fun _=>False) w wr)
 case atStart=>exact⟨0,0,_,xD,Nat.zero_le _,rfl,by omega,rfl,rfl,qox,rfl,H0.out⟩
 case round =>
  obtain⟨i,m,sv,s,hi,aN,hm,rfl,rfl,T,hsl,gI,hown,hne,hbr,aT⟩:=hrel
  have HG:=ah aN
  clear aN H0
  obtain⟨sa,sc,rfl,hnc,-⟩:=hown.form
  rw[q01] at *
  by_cases hlt:i<I
  ·have t1:decide ((i:Int)<(I:Int))=true:=decide_eq_true (by omega)
   have t2:decide (i<I)=true:=decide_eq_true hlt
   have p0:=ak gI 0
   have p1:=ak gI 1
   have p2:=ak gI 2
   have f0:=au gI 0
   have f1:=au gI 1
   have f2:=au gI 2
   have zf:bm<wr.heap.size:=lt_of_block gI
   have HR:=ah (aj T (aj hsl (aj gI (aj hown (aj hne (aj hbr aT))))))
   clear T gI hown hne hbr aT hz0
   have hmod:∀ q:Nat,((q:Nat):Int).tmod (s.length:Int)=((q % s.length:Nat):Int)∧((q:Nat):Int) % (s.length:Int)=((q % s.length:Nat):Int)∧q % s.length<s.length:=fun q=>⟨by rw[Int.tmod_eq_emod_of_nonneg (by omega)];simp,by simp,Nat.mod_lt q (by omega)⟩
   have m6:¬ (s.length:Int)=0:=by omega
   have hl1:s.length≤1000:=by omega
   have m7:¬ s=[]:=fun h=>by rw[h] at hsl;simp at hsl;omega
   have m8:¬ s.length=0:=by omega
   have hm1:m≤100000:=by omega
   have tu:∀ k dd,dd<s.length→Calls Tryz.prog 89 #[.agg #[.slice sa s.length sc,.int .i64 0,.int .i64 0],.int .i64 (dd:Nat)] (wr.drewN k) fun e w'=>∃ sa' sc',e=.returned (.agg #[.slice sa' (s.length+6) sc',.int .i64 0,.int .i64 0])∧aF (bm+1) w' (.slice sa' (s.length+6) sc') (aB (mF s dd))∧Keeps (fun _=>False) wr w':=fun k dd hd=>by
    have k1:Keeps (fun _=>False) wr (wr.drewN k):=(Keeps.refl (fun _=>False) wr).drewN k
    have ho:=HR.out.2.2.2.1.keeps k1 (fun _ _ h=>h)
    refine (qcx (.slice sa s.length sc) 0 0 s dd _ ho.sl (fun q hq=>(ho.lt q hq).2) HR.out.1 hd hl1).mono ?_
    rintro e w' ⟨jI,rfl,h1,h2⟩
    obtain⟨sa',sc',rfl,-,-⟩:=h1.form
    rw[q01,Rl] at h1 ⊢
    exact⟨sa',sc',rfl,h1.mono (fun q hq=>by have:=(h1.lt q hq).1;have:=k1.size;omega),k1.trans h2 (fun _ _ h=>h)⟩
   have Rq:=ah hmod
   have HPT:=ah tu
   clear hsl hmod tu
   go_upto_region 6 with fail
   go_cut [] from 17 to 25 (fun wz=>∃ (jI:Value) (s':List Nat),iG s'.length (sg s')∧s'.length=s.length+6∧wz.heap[bm]? = some (.cells #[jI,.int .i64 0,.int .i64 0] 27 (0,0))∧aF (bm+1) wz jI (aB s') ∧
    wz.heap[w.heap.size]? = some (.cells #[.slice none 0 0,.int .i64 0,.int .i64 0] 27 (0,0))∧Keeps (fun _=>False) w wz)
   case first =>
    go_region_with (first
     | (go_at_call 90;refine (VX.out _ m (by first|exact HR.out.2.2.2.2.2.2.drew|exact HR.out.2.2.2.2.2.2) hm1).mono ?_;rintro e W ⟨q,k,rfl,hq,rfl⟩;obtain⟨mq,M7,hd⟩:=Rq.out q;generalize q % s.length=dd at mq M7 hd;have m4:IntKind.i64.wrap (dd:Int)=(dd:Int):=IntWalk.i64_in _ (by omega))
     | (go_at_call 89;refine (HPT.out _ dd hd).mono ?_;rintro e W ⟨sa',sc',rfl,hown',hk'⟩;have hg':=hk'.at HR.out.2.2.1 (fun h=>h);have y0:=ak hg' 0;have y1:=ak hg' 1;have y2:=ak hg' 2;have v0:=au hg' 0;have v1:=au hg' 1;have v2:=au hg' 2))
    all_goals
     have rr:=lZ hg' (.slice sa' (s.length+6) sc') (.int .i64 0) (.int .i64 0)
     have HRR:=ah rr
     have je:=ah (aj hown' (aj hk' hg'))
     have HDD:=ah hd
     clear y0 y1 y2 v0 v1 v2 rr hown' hk' hg' hd
     go_wp2
     go_meet
     exact⟨_,mF s dd,qly HR.out.1 HDD.out,Rl s dd,HRR.out.1,je.out.1.keeps HRR.out.2 (fun q hq e=>by have:=(je.out.1.lt q hq).1;omega),HRR.out.2.at (je.out.2.1.at HR.out.2.2.2.2.2.1 (fun h=>h)) (fun h=>by omega),(HR.out.2.2.2.2.2.2.trans je.out.2.1 (fun _ _ h=>h)).trans HRR.out.2 (fun x hx e=>by omega)⟩
   case rest =>
    obtain⟨jI,s',T',VY,tC,hown',M8,M9⟩:=hcut
    obtain⟨sa',sc',rfl,hnc',-⟩:=hown'.form
    rw[q01] at *
    have hlen':s'.length=6+6 * (i+1):=by have:=HR.out.2.1;omega
    have hm2:m+2≤3 * i+2:=by omega
    have HC:=ah (aj T' (aj hlen' (aj tC (aj hown' (aj M8 M9)))))
    have p0:=ak tC 0
    have p1:=ak tC 1
    have p2:=ak tC 2
    have f0:=au tC 0
    have f1:=au tC 1
    have f2:=au tC 2
    clear T' VY tC hown' M8 M9 hlen' Rq HPT m6 m7 m8 hl1 hnc zf
    have hP:=VX.out wc (m+1) HC.out.2.2.2.2.2 (by omega)
    rw[show ((m+1:Nat):Int)=(m:Int)+2 - 1 by omega] at hP
    go_wp2_with fail
    refine hP.mono ?_
    clear hP
    rintro e W ⟨q,k,rfl,hq,rfl⟩
    have hkq:Keeps (fun _=>False) wc (wc.drewN k):=(Keeps.refl _ wc).drewN k
    have iT:=hkq.at HC.out.2.2.1 (fun h=>h)
    have rR:=ah (aj (HC.out.2.2.2.1.keeps hkq (fun _ _ h=>h)) (aj (hkq.at HC.out.2.2.2.2.1 (fun h=>h)) (aj (HC.out.2.2.2.2.2.trans hkq (fun _ _ h=>h)) iT)))
    obtain⟨Wq,hWq⟩:∃ Wq,Wq=wc.drewN k:=⟨_,rfl⟩
    rw[← hWq] at iT rR ⊢
    clear hWq hkq p0 p1 p2 f0 f1 f2
    have VZ:m+2≤100000:=by omega
    by_cases hq2:q % 2=0
    ·have e1:((q:Nat):Int).tmod 2=0:=by rw[Int.tmod_eq_emod_of_nonneg (by omega)];omega
     have e2:((q:Nat):Int) % 2=0:=by omega
     have p0:=ak iT 0
     have p1:=ak iT 1
     have p2:=ak iT 2
     have f0:=au iT 0
     have f1:=au iT 1
     have f2:=au iT 2
     have hlen':=HC.out.2.1
     have hmod:∀ q:Nat,((q:Nat):Int).tmod (s'.length:Int)=((q % s'.length:Nat):Int)∧((q:Nat):Int) % (s'.length:Int)=((q % s'.length:Nat):Int)∧q % s'.length<s'.length:=fun q=>⟨by rw[Int.tmod_eq_emod_of_nonneg (by omega)];simp,by simp,Nat.mod_lt q (by omega)⟩
     have m6:¬ (s'.length:Int)=0:=by omega
     have m8:¬ s'.length=0:=by omega
     have m7:¬ s'=[]:=fun h=>m8 (by rw[h];rfl)
     have hl1:s'.length≤1000:=by omega
     have Rq:=ah hmod
     have zQ:∀ k dd,dd<s'.length→Calls Tryz.prog 91 #[.agg #[.slice sa' s'.length sc',.int .i64 0,.int .i64 0],.int .i64 (dd:Nat)] (Wq.drewN k) fun e w'=>∃ JY JZ s2,e=.returned (.agg #[.slice JY s'.length JZ,.int .i64 0,.int .i64 0])∧iG s2.length (sg s2)∧s2.length=s'.length∧aF (bm+1) w' (.slice JY s'.length JZ) (aB s2)∧Keeps (fun _=>False) Wq w':=fun k dd hd=>by
      have k1:Keeps (fun _=>False) Wq (Wq.drewN k):=(Keeps.refl (fun _=>False) Wq).drewN k
      refine (qba (bm+1) (.slice sa' s'.length sc') 0 s' dd _ (rR.out.1.keeps k1 (fun _ _ h=>h)) HC.out.1 hd hl1).mono ?_
      rintro e w' ⟨zR,s2,rfl,h1,h2,h3,h4⟩
      obtain⟨JY,JZ,rfl,-,-⟩:=h3.form
      rw[q01,h2] at h3 ⊢
      exact⟨JY,JZ,s2,rfl,h1,h2,h3,k1.trans h4 (fun _ _ h=>h)⟩
     have V3:=ah zQ
     clear iT hq2 hlen' hmod zQ
     go_upto_region 9 with fail
     clear e1 e2
     go_cut [] from 34 to 42 (fun wz=>∃ (zR:Value) (s2:List Nat),iG s2.length (sg s2)∧s2.length=s'.length∧wz.heap[bm]? = some (.cells #[zR,.int .i64 0,.int .i64 0] 27 (0,0))∧aF (bm+1) wz zR (aB s2) ∧
      wz.heap[w.heap.size]? = some (.cells #[.slice none 0 0,.int .i64 0,.int .i64 0] 27 (0,0))∧Keeps (fun _=>False) w wz)
     case first =>
      go_region_with (first
       | (go_at_call 90;refine (VX.out _ (m+2) (by first|exact rR.out.2.2.1.drew|exact rR.out.2.2.1) VZ).mono ?_;rintro e W ⟨q,k,rfl,hq,rfl⟩;obtain⟨mq,M7,hd⟩:=Rq.out q;generalize q % s'.length=dd at mq M7 hd;have m4:IntKind.i64.wrap (dd:Int)=(dd:Int):=IntWalk.i64_in _ (by omega))
       | (go_at_call 91;refine (V3.out _ dd hd).mono ?_;rintro e W ⟨JY,JZ,s2,rfl,CP,hl2,hown',hk'⟩;have hg':=hk'.at rR.out.2.2.2 (fun h=>h);have y0:=ak hg' 0;have y1:=ak hg' 1;have y2:=ak hg' 2;have v0:=au hg' 0;have v1:=au hg' 1;have v2:=au hg' 2))
      all_goals
       have rr:=lZ hg' (.slice JY s'.length JZ) (.int .i64 0) (.int .i64 0)
       have HRR:=ah rr
       have je:=ah (aj hown' (aj hk' (aj CP hl2)))
       clear y0 y1 y2 v0 v1 v2 rr hown' hk' hg' hd CP hl2
       go_wp2
       go_meet
       exact⟨_,s2,je.out.2.2.1,je.out.2.2.2,HRR.out.1,je.out.1.keeps HRR.out.2 (fun q hq e=>by have:=(je.out.1.lt q hq).1;omega),HRR.out.2.at (je.out.2.1.at rR.out.2.1 (fun h=>h)) (fun h=>by omega),(rR.out.2.2.1.trans je.out.2.1 (fun _ _ h=>h)).trans HRR.out.2 (fun x hx e=>by omega)⟩
     case rest =>
      obtain⟨zR,s2,T2,hsl2,iT,hown2,zq,jM⟩:=hcut
      have HZ:=ah (aj T2 (aj (hsl2.trans HC.out.2.1) (aj iT (aj (hown2.mono (B':=w.heap.size+1) (fun q hq=>by have:=(hown2.lt q hq).1;omega)) (aj (fun q hq=>by have:=(hown2.lt q hq).1;omega:∀ q,zR.ownBlock=some q→q≠bm) (aj zq jM))))))
      clear T2 hsl2 iT hown2 zq jM p0 p1 p2 f0 f1 f2 m6 m7 m8
      go_wp2
      go_roundg (I - (i+1))
      case measure=>rw[HG.out];omega
      case rel=>exact⟨i+1,m+2+1,zR,s2,by omega,rfl,by omega,by go_num,by go_num,HZ.out⟩
    ·have e1:((q:Nat):Int).tmod 2=1:=by rw[Int.tmod_eq_emod_of_nonneg (by omega)];omega
     have e2:((q:Nat):Int) % 2=1:=by omega
     have HZ:=ah (aj HC.out.1 (aj HC.out.2.1 (aj iT (aj (rR.out.1.mono (B':=w.heap.size+1) (fun q hq=>by have:=(rR.out.1.lt q hq).1;omega)) (aj (fun q hq=>by have:=(rR.out.1.lt q hq).1;omega:∀ q,(Value.slice sa' s'.length sc').ownBlock=some q→q≠bm) (aj rR.out.2.1 rR.out.2.2.1))))))
     clear iT hq2
     go_wp2
     go_roundg (I - (i+1))
     case measure=>rw[HG.out];omega
     case rel=>exact⟨i+1,m+2,_,s',by omega,rfl,by omega,by go_num,by go_num,HZ.out⟩
  ·have t1:decide ((i:Int)<(I:Int))=false:=decide_eq_false (by omega)
   have t2:decide (i<I)=false:=decide_eq_false hlt
   have p0:=ak gI 0
   have p1:=ak gI 1
   have p2:=ak gI 2
   have f1:=au gI 1
   have m8:¬ s.length=0:=by omega
   have m7:¬ s=[]:=fun h=>m8 (by rw[h];rfl)
   have m6:¬ (s.length:Int)=0:=by omega
   obtain⟨r0,hr0⟩:∃ r0,r0=root % s.length:=⟨_,rfl⟩
   have mq:((root:Nat):Int).tmod (s.length:Int)=(r0:Int):=by rw[Int.tmod_eq_emod_of_nonneg (by omega),hr0];simp
   have M7:((root:Nat):Int) % (s.length:Int)=(r0:Int):=by rw[hr0];simp
   have m4:IntKind.i64.wrap (r0:Int)=(r0:Int):=IntWalk.i64_in _ (by have:=Nat.mod_lt root (show 0<s.length by omega);omega)
   have hr1:=dM gI 1 (.int .i64 (r0:Int))
   have kr:Keeps (fun x=>x=bm) wr (wr.setCell ⟨bm,1,none⟩ (.int .i64 (r0:Int))):=(Keeps.refl (fun x=>x=bm) wr).setCell (p:=⟨bm,1,none⟩) (.inl rfl) _
   have qW:=kr.at hbr (fun h=>by omega)
   have c0:=ak hr1 0
   have c1:=ak hr1 1
   have c2:=ak hr1 2
   have u0:=ak qW 0
   have u1:=ak qW 1
   have u2:=ak qW 2
   have v0:=au qW 0
   have v1:=au qW 1
   have v2:=au qW 2
   have hiI:i=I:=by omega
   have HR:=ah (aj T (aj hsl (aj (hown.keeps kr (fun q hq e=>hne q hq e)) (aj qW (aj (aT.trans kr (fun x hx e=>by omega)) (aj hr0 hiI))))))
   clear T gI hown hne hbr aT hz0 hsl kr hr1 qW hr0 hiI
   go_wp2
   have rr:=lZ HR.out.2.2.2.1 (.slice sa s.length sc) (.int .i64 (r0:Int)) (.int .i64 0)
   have e0:=ak rr.1 0
   have e1:=ak rr.1 1
   have e2:=ak rr.1 2
   refine bodyPost_ret (v:=cZ (.slice sa s.length sc) (r0:Int) 0) ?_ rfl ⟨_,s,by rw[HR.out.2.2.2.2.2.1],HR.out.1,by rw[HR.out.2.1,HR.out.2.2.2.2.2.2],(HR.out.2.2.1.keeps rr.2 (fun q hq e=>by have:=(HR.out.2.2.1.lt q hq).1;omega)).mono (fun q hq=>by have:=(HR.out.2.2.1.lt q hq).1;omega),HR.out.2.2.2.2.1.trans rr.2 (fun x hx e=>by omega)⟩
   simp at e0 e1 e2
   simp[results,Tryz.results50,go_sem,cZ,e0,e1,e2]
end
