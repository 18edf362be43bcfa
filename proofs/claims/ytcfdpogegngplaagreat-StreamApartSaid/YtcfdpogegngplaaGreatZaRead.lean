import Derived.Test.YtcfdpogegngplaaGreatZaDecF
import Derived.Test.YtcfdpogegngplaaGreatZaUnpack
import Derived.Test.YtcfdpogegngplaaGreatZaEncW
set_option maxRecDepth 100000
set_option maxHeartbeats 4000000
namespace Go.Proofs.YtcfdpogegngplaaGreat
open Go.RowKit
theorem q8z:∀ (l:List Bool),l.length % 2=0→wbits (pairK l)=l
 | [],_=>rfl
 | [_],h=>by simp at h
 | a :: c :: l,h=>by
  have ih:=q8z l (by simp only [List.length_cons] at h;omega)
  have e:wbits (pairK (a :: c :: l))=numB (a.toNat+2 * c.toNat) 2 ++ wbits (pairK l):=by simp[pairK,wbits]
  rw[e,ih]
  cases a <;> cases c <;> rfl
theorem Wd.right {ks:List Nat} (h:Wd ks) (hC:q2e ks):WRight ks:=by
 rcases Nat.eq_zero_or_pos ks.length with h0|h0
 ·have:ks=[]:=List.eq_nil_of_length_eq_zero h0
  subst this
  exact KsOk.flat (l:=[]) (fun k hk=>by simp at hk)
 ·have h1:=(h.dec_end hC h0).1.right
  rwa [h.dec_kso hC h0] at h1
def WordB' (l:List Bool) (ks:List Nat):Prop:=WRight ks∧wbits ks=l
def q90 (w:World) (l:List Bool) (e:Ending) (w':World):Prop :=
 (∃ ks,WordB' l ks∧MadeMap w (decL ks) (if ks.length=0 then -1 else 0) (if ks.length=0 then 1 else 0) e w') ∨
 ((¬ ∃ ks,WordB' l ks)∧∃ c:Nat,c≠0∧c<17∧e=.returned (.tuple #[.pointer none,.int .i64 c])∧Keeps (fun _=>False) w w')
theorem qd6 (br bv:Nat) (p l ok:Bool) (pv sv vv:Value) (bits:List Bool) (w:World) (hR:RdF w br false p l pv sv ok) (hv:VecAt w bv vv bits) (he:bits.length % 2=0) (hl:bits.length≤262144) :
  Calls Tryz.prog 154 #[.pointer (some ⟨br,0,none⟩),.pointer (some ⟨bv,0,none⟩)] w (q90 w bits):=by
 have hO:=qhb bv vv bits w hv he (by omega)
 have c0:w.cell? ⟨br,0,none⟩=some (.bool false):=World.cell_of_heap hR 0
 clear hR hv
 go_enter Tryz.func154,Tryz.ntmps154
 go_wp2_with fail
 refine hO.mono ?_
 clear hO
 rintro e w1 ⟨b2,rfl,v2,hW,hb2,hv2,hk1⟩
 have hD:=q92 (.pointer (some ⟨b2,0,none⟩)) (pairK bits) w1 (q80 bits) (by rw[q2c];omega) (fun W kW=>qdb b2 v2 (pairK bits) W (hW.keeps kW (fun h=>h) (fun _ _ h=>h)) (q80 bits) (by rw[q2c];omega))
 have HK:=Lib.hid hk1
 clear hW hb2 hv2 hk1 c0
 go_wp2_with fail
 refine hD.mono ?_
 clear hD
 intro e w2 hP
 rcases hP with⟨h1,h2,b3,rfl,hA,hb3,hk2⟩|⟨c,hc,rfl,hk2⟩
 ·have HF:Hid (q90 w bits (.returned (.tuple #[.pointer (some ⟨b3,0,none⟩),.int .i64 0])) w2):=by
   refine Lib.hid (.inl ⟨pairK bits,⟨Wd.right ⟨q80 bits,h1⟩ h2,q8z bits he⟩,MadeMap.base ⟨b3,rfl,hA,hb3,hk2⟩ HK.out⟩)
  clear h1 h2 hA hb3 hk2
  go_wp2
  refine bodyPost_ret (v:=.tuple #[.pointer (some ⟨b3,0,none⟩),.int .i64 0]) (by simp[results,Tryz.results154,go_sem]) rfl ?_
  exact HF.out
 ·have HF:Hid (q90 w bits (.returned (.tuple #[.pointer none,.int .i64 c])) w2):=by
   refine Lib.hid (.inr ⟨?_,c,by omega,by omega,rfl,HK.out.trans hk2 (fun _ _ h=>h)⟩)
   rintro⟨ks,hk,rfl⟩
   rw[q25 ks hk.k4] at hc
   rcases hc with⟨h,_⟩|⟨_,h,_⟩
   ·exact h hk.bal
   ·exact h hk.canon
  have hcb:c≤16:=by omega
  clear hc hk2
  go_wp2
  refine bodyPost_ret (v:=.tuple #[.pointer none,.int .i64 (c:Nat)]) (by simp[results,Tryz.results154,go_sem]) rfl ?_
  exact HF.out
def okP (l:List Bool):Prop:=∃ ks,WordB' l ks∧0<ks.length
theorem qaf {cs:List Nat} {n u:Nat} {plain:Bool} {l:List Bool} (h:q0q cs n plain=some (l,u)):l.length=n∧1≤u∧u≤cs.length:=by
 unfold q0q at h
 cases cs with
 | nil=>cases h
 | cons c0 tl =>
  simp only at h
  split at h
  ·cases h
  ·split at h
   ·cases h
   ·next v hv =>
    split at h
    ·next ht =>
     simp only [Option.some.injEq,Prod.mk.injEq] at h
     obtain⟨rfl,rfl⟩:=h
     have h1:=congrArg List.length ht
     rw[List.length_take] at h1
     have:=qiy plain v
     exact⟨q93 hv,by omega,by omega⟩
    ·cases h
theorem qbg {cs cs':List Nat} {most n:Nat} (h:numV cs most=some (n,cs')):n≤most∧∃ u,cs'=cs.drop u:=by
 unfold numV at h
 split at h
 ·cases h
 ·next x u hx =>
  split at h
  ·next hle =>
   simp only [Option.some.injEq,Prod.mk.injEq] at h
   obtain⟨rfl,rfl⟩:=h
   exact⟨hle,u,rfl⟩
  ·cases h
noncomputable def movL (f:Nat) (ks:List Nat):List Nat:=(decL ks).map (f + ·)
def q2o (w:World) (B br:Nat) (p l:Bool) (pv:Value) (s:List Nat) (o:Option (List Bool × List Nat)) (e:Ending) (w':World):Prop :=
 e=.returned (.tuple #[])∧Keeps (fun k=>k=br∨B≤k) w w' ∧
 ((∃ bits cs' ks pv' sv',o=some (bits,cs')∧WordB' bits ks∧0<ks.length∧RdF w' br false p l pv' sv' true∧(∀ q,pv'.ownBlock=some q→pv.ownBlock=some q)∧Sl .u8 w' pv' (nats cs')∧OwnI B w' sv' (nats (s ++ movL s.length ks))) ∨
 (o=none∧∃ pv' sv',RdF w' br false p l pv' sv' false))
open Classical in
theorem qh9 (B br:Nat) (p l:Bool) (pv sv:Value) (cs s:List Nat) (w:World) (hR:RdF w br false p l pv sv true) (hpB:∀ q,pv.ownBlock=some q→q<B∧q≠br) (hp:Sl .u8 w pv (nats cs)) (hcs:∀ x ∈ cs,x<256) (hl:cs.length≤10000000) (hs:OwnI B w sv (nats s)) (hsl:s.length≤9000000000) (hbB:br<B) (hBw:B≤w.heap.size) :
  Calls Tryz.prog 123 #[.pointer (some ⟨br,0,none⟩)] w (q2o w B br p l pv s (rpart p okP cs)):=by
 have hnot:∀ (x:Bool) (w:World),(Op.unary .not (.bool x)).run Tryz.prog w=.ok (.bool (!x)) w:=fun _ _=>rfl
 have hN:=q5o br false p l true pv sv cs 65536 w hR (fun e=>(hpB br e).2 rfl) hp hcs hl (by decide)
 have HC:=Lib.hid (And.intro hpB (And.intro hcs (And.intro hl (And.intro hs (And.intro hsl (And.intro hbB hBw))))))
 obtain⟨o,ho⟩:∃ o,o=rpart p okP cs:=⟨_,rfl⟩
 rw[← ho]
 unfold rpart at ho
 have HO:=Lib.hid ho
 clear hR hp hcs hl hs hpB ho hBw
 go_enter Tryz.func123,Tryz.ntmps123
 go_wp2_with fail
 refine hN.mono ?_
 clear hN
 intro e w1 h1
 rcases h1 with⟨n,cs1,pv1,-,hne,rfl,hR1,hpo1,hp1,hk1⟩|⟨hno,rfl,hR1,hk1⟩
 rotate_left
 ·have c0:w1.cell? ⟨br,0,none⟩=some (.bool false):=World.cell_of_heap hR1 0
  have c3:w1.cell? ⟨br,5,none⟩=some (.bool false):=World.cell_of_heap hR1 5
  have HF:Hid (q2o w B br p l pv s o (.returned (.tuple #[])) w1):=by
   refine Lib.hid ⟨rfl,hk1.mono (fun _ _ h=>.inl h),.inr ⟨?_,_,_,hR1⟩⟩
   rcases hno with h|h
   ·cases h
   ·have:=HO.out
    rw[h] at this
    exact this
  clear hR1 hk1 hno
  go_wp2
  refine bodyPost_end (results_none rfl _ _ _) rfl ?_
  exact HF.out
 ·obtain⟨hn64,u1,hcu⟩:=qbg hne
  have hcs1:∀ x ∈ cs1,x<256:=fun x hx=>HC.out.2.1 x (List.mem_of_mem_drop (by rw[hcu] at hx;exact hx))
  have hl1:cs1.length≤10000000:=by rw[hcu,List.length_drop];have:=HC.out.2.2.1;omega
  have HO1:Hid (o=match q0q cs1 (4 * n) p with|none=>none|some (v,u)=>if okP v then some (v,cs1.drop u) else none):=Lib.hid (by
   have:=HO.out
   rw[hne] at this
   exact this)
  have hpB1:∀ q,pv1.ownBlock=some q→q<B∧q≠br:=fun q hq=>HC.out.1 q (hpo1 q hq)
  have hsv1:OwnI B w1 sv (nats s):=HC.out.2.2.2.1.keeps hk1 (fun q hq e=>by have:=(HC.out.2.2.2.1.lt q hq).1;omega)
  have e1:4 * (n:Int)=((4 * n:Nat):Int):=by omega
  have c0:w1.cell? ⟨br,0,none⟩=some (.bool false):=World.cell_of_heap hR1 0
  have c1:w1.cell? ⟨br,1,none⟩=some (.bool p):=World.cell_of_heap hR1 1
  have c3:w1.cell? ⟨br,3,none⟩=some pv1:=World.cell_of_heap hR1 3
  have c5:w1.cell? ⟨br,5,none⟩=some (.bool true):=World.cell_of_heap hR1 5
  have c1':w1.drew.cell? ⟨br,1,none⟩=some (.bool p):=c1
  have c3':w1.drew.cell? ⟨br,3,none⟩=some pv1:=c3
  have H1:=Lib.hid (And.intro hR1 (And.intro hk1 (And.intro hpB1 (And.intro hsv1 (And.intro hpo1 (And.intro hp1 (And.intro hcs1 hl1)))))))
  have hUn:=qhd pv1 cs1 (4 * n) p w1.drew (hp1.keeps (Keeps.refl (fun _=>False) w1).drew (fun _ _ h=>h)) hcs1 hl1 (by omega)
  clear hR1 hk1 hpB1 hsv1 hpo1 hp1 hcs1 hl1 hne hcu
  obtain⟨N4,hN4⟩:∃ N4,N4=4 * n:=⟨_,rfl⟩
  rw[← hN4] at e1 hUn HO1
  have HN4:=Lib.hid hN4
  clear hN4
  cases hun:q0q cs1 N4 p with
  | none =>
   rw[hun] at hUn
   have HO2:Hid (o=none):=Lib.hid (by have:=HO1.out;rw[hun] at this;exact this)
   have hUn2:Calls Tryz.prog 153 #[pv1,.int .i64 N4,.bool p] w1.drew fun e w'=>∃ c:Nat,c≠0∧c<17∧e=.returned (.tuple #[.pointer none,.int .i64 0,.int .i64 c])∧Keeps (fun _=>False) w1.drew w':=by
    refine hUn.mono ?_
    rintro e w' (⟨_,_,_,h,_⟩|⟨_,h⟩)
    ·cases h
    ·exact h
   clear hun hUn
   go_wp2_with fail
   go_region_with (go_at_call 153;refine hUn2.mono ?_;rintro e w2 ⟨c,hc0,hc17,rfl,hk2⟩)
   all_goals
    have hk12:Keeps (fun _=>False) w1 w2:=by
     first
      | exact ((Keeps.refl (fun _=>False) w1).drew).trans hk2 (fun _ _ h=>h)
      | exact hk2
    have hR2:=H1.out.1.keeps hk12 (fun h=>h)
    have d5:w2.cell? ⟨br,5,none⟩=some (.bool true):=World.cell_of_heap hR2 5
    have df:=World.free_of_heap hR2
    have h2:=q00 hR2 5 (.bool false)
    have t1:((c:Int) != 0)=true:=by rw[bne_iff_ne];omega
    have HF:Hid (q2o w B br p l pv s o (.returned (.tuple #[])) (w2.setCell ⟨br,5,none⟩ (.bool false))):=Lib.hid ⟨rfl,(((H1.out.2.1.mono (fun _ _ h=>.inl h):Keeps (fun k=>k=br∨B≤k) w w1)).trans hk12 (fun _ _ h=>h.elim)).setCell (p:=⟨br,5,none⟩) (.inl (.inl rfl)) _,.inr ⟨HO2.out,_,_,by simpa [RdF] using h2⟩⟩
    clear hR2 h2 hk2 hk12
    go_wp2
    refine bodyPost_end (results_none rfl _ _ _) rfl ?_
    exact HF.out
  | some vu =>
   obtain⟨bits,u⟩:=vu
   rw[hun] at hUn
   obtain⟨hbl,hu1,hul⟩:=qaf hun
   have HO2:Hid (o=if okP bits then some (bits,cs1.drop u) else none):=Lib.hid (by have:=HO1.out;rw[hun] at this;exact this)
   have hUn2:Calls Tryz.prog 153 #[pv1,.int .i64 N4,.bool p] w1.drew fun e w'=>∃ bb,e=.returned (.tuple #[.pointer (some ⟨bb,0,none⟩),.int .i64 (u:Nat),.int .i64 0])∧VecNew w1.drew bb bits w':=by
    refine hUn.mono ?_
    rintro e w' (⟨l',u',bb,h,rfl,h2⟩|⟨h,_⟩)
    ·simp only [Option.some.injEq,Prod.mk.injEq] at h
     obtain⟨rfl,rfl⟩:=h
     exact⟨bb,rfl,h2⟩
    ·cases h
   clear hun hUn
   go_upto_region 5 with fail
   go_cut [4,5,6] from 27 to 41 (fun x4 x5 x6 wz=>∃ bb,x4=.pointer (some ⟨bb,0,none⟩)∧x5=.int .i64 (u:Nat)∧x6=.int .i64 0∧VecNew w1 bb bits wz)
   case first =>
    go_region_with (go_at_call 153;refine hUn2.mono ?_;rintro e w2 ⟨bb,rfl,hV⟩)
    all_goals
     have HV:Hid (VecNew w1 bb bits w2):=Lib.hid (by
      obtain⟨vv,z1,z2,z3,z4⟩:=hV
      exact⟨vv,z1,z2,z3,((Keeps.refl (fun _=>False) w1).drew).trans z4 (fun _ _ h=>h)⟩)
     clear hV
     go_wp2_with fail
     go_meet
     case rel=>exact⟨bb,rfl,rfl,rfl,HV.out⟩
   case rest =>
    obtain⟨bb,rfl,rfl,rfl,vv,hVA,hbb,hvv,hk12⟩:=hcut
    obtain⟨wa,rfl⟩:∃ W,W=wc:=⟨wc,rfl⟩
    have hR2:=H1.out.1.keeps hk12 (fun h=>h)
    have hp2:=H1.out.2.2.2.2.2.1.keeps hk12 (fun _ _ h=>h)
    obtain⟨pa,pc,rfl,hpc,hpm⟩:=hp2.formY
    obtain⟨pa',pc',hv,-,-,-,hc⟩:=id hp2
    simp only [Value.slice.injEq] at hv
    obtain⟨rfl,-,rfl⟩:=hv
    obtain⟨y,hy⟩:∃ y,cs1[0]? = some y:=⟨_,List.getElem?_eq_getElem (by omega)⟩
    obtain⟨g,off,rfl,-⟩:=hc 0 (y:Int) (by simp[nats,hy])
    have d3:wa.cell? ⟨br,3,none⟩=some _:=World.cell_of_heap hR2 3
    have df:=World.free_of_heap hR2
    have hst:=fun pv':Value=>q00 hR2 3 pv'
    have htl:=hp2.tailY u hul
    have HA:=Lib.hid (And.intro hVA (And.intro hbb (And.intro hvv (And.intro hk12 (And.intro hst htl)))))
    have hpnb:=H1.out.2.2.1
    clear hVA hbb hvv hk12 hR2 hp2 hc hy hst htl
    obtain⟨m1,hm1⟩:∃ m1,m1=cs1.length:=⟨_,rfl⟩
    rw[← hm1] at d3 hpc hul HA hpnb H1
    have HM1:=Lib.hid hm1
    clear hm1 c0 c1 c3 c5 c1' c3'
    go_upto_region 8 with fail
    go_cut [] from 47 to 55 (fun wz=>∃ pv2,RdF wz br false p l pv2 sv true∧(∀ q,pv2.ownBlock=some q→(Value.slice (some ⟨g,off,none⟩) m1 pc).ownBlock=some q)∧Sl .u8 wz pv2 (nats (cs1.drop u))∧Keeps (fun k=>k=br) wa wz)
    case first =>
     have hfin:∀ pv',RdF (wa.setCell ⟨br,3,none⟩ pv') br false p l pv' sv true∧Keeps (fun k=>k=br) wa (wa.setCell ⟨br,3,none⟩ pv'):=fun pv' =>
      ⟨by simpa [RdF] using HA.out.2.2.2.2.1 pv',(Keeps.refl (fun k=>k=br) wa).setCell (p:=⟨br,3,none⟩) (.inl rfl) _⟩
     have HF:=Lib.hid hfin
     clear hfin
     go_wp2_with fail
     ·go_meet
      case rel =>
       have hnu:m1 - u=0:=by omega
       rw[hnu]
       obtain⟨f1,f2⟩:=HF.out (.slice (some ⟨g,off,none⟩) 0 0)
       refine⟨_,f1,fun q hq=>by simpa [Value.ownBlock] using hq,?_,f2⟩
       rw[List.drop_of_length_le (by rw[← HM1.out];omega)]
       exact Sl.emptyY _ _
     ·go_meet
      case rel =>
       obtain⟨f1,f2⟩:=HF.out (.slice (some ⟨g,off+u,none⟩) (m1 - u) (pc - u))
       refine⟨_,f1,fun q hq=>by simpa [Value.ownBlock] using hq,HA.out.2.2.2.2.2.keeps f2 (fun q hq e=>?_),f2⟩
       exact (hpnb q (by simpa [Value.ownBlock] using hq)).2 e
    case rest =>
     obtain⟨pv2,hR3,hpo3,hp3,hk3⟩:=hcut
     obtain⟨wb,rfl⟩:∃ W,W=wc:=⟨wc,rfl⟩
     obtain⟨hVA,hbb,hvv,hk12,-,-⟩:=HA.out
     have hbr1:br<w1.heap.size:=lt_of_block H1.out.1
     have hV3:=hVA.keeps hk3 (fun e=>by omega) (fun q hq e=>by have:=hvv q hq;omega)
     have hDc:=qd6 br bb p l true pv2 sv vv bits wb hR3 hV3 (by rw[hbl,HN4.out];omega) (by rw[hbl,HN4.out];omega)
     have d5:wb.cell? ⟨br,5,none⟩=some (.bool true):=World.cell_of_heap hR3 5
     have H3:=Lib.hid (And.intro hR3 (And.intro hpo3 (And.intro hp3 ((hk12.mono (fun _ _ h=>h.elim):Keeps (fun k=>k=br) w1 wa).trans hk3 (fun _ _ h=>h)))))
     clear hVA hbb hvv hk12 hR3 hpo3 hp3 hk3 hV3 hpnb d3 df
     go_wp2_with fail
     by_cases hw:∃ ks,WordB' bits ks
     rotate_left
     ·have hDc2:Calls Tryz.prog 154 #[.pointer (some ⟨br,0,none⟩),.pointer (some ⟨bb,0,none⟩)] wb fun e w'=>∃ c:Nat,c≠0∧c<17∧e=.returned (.tuple #[.pointer none,.int .i64 c])∧Keeps (fun _=>False) wb w':=by
       refine hDc.mono ?_
       rintro e w' (⟨ks,hk,_⟩|⟨_,h⟩)
       ·exact absurd ⟨ks,hk⟩ hw
       ·exact h
      have HO3:Hid (o=none):=Lib.hid (by rw[HO2.out,if_neg];rintro⟨ks,hk,_⟩;exact hw ⟨ks,hk⟩)
      clear hDc hw
      refine hDc2.mono ?_
      clear hDc2
      rintro e w4 ⟨c,hc0,hc17,rfl,hk4⟩
      have hR4:=H3.out.1.keeps hk4 (fun h=>h)
      have d5:w4.cell? ⟨br,5,none⟩=some (.bool true):=World.cell_of_heap hR4 5
      have df:=World.free_of_heap hR4
      have h2:=q00 hR4 5 (.bool false)
      have t1:((c:Int) != 0)=true:=by rw[bne_iff_ne];omega
      have HF:Hid (q2o w B br p l pv s o (.returned (.tuple #[])) (w4.setCell ⟨br,5,none⟩ (.bool false))):=Lib.hid ⟨rfl,((((H1.out.2.1.mono (fun _ _ h=>.inl h):Keeps (fun k=>k=br∨B≤k) w w1)).trans H3.out.2.2.2 (fun _ _ h=>.inl h)).trans hk4 (fun _ _ h=>h.elim)).setCell (p:=⟨br,5,none⟩) (.inl (.inl rfl)) _,.inr ⟨HO3.out,_,_,by simpa [RdF] using h2⟩⟩
      clear hR4 h2 hk4
      go_wp2
      refine bodyPost_end (results_none rfl _ _ _) rfl ?_
      exact HF.out
     ·obtain⟨ks,hks⟩:=hw
      have huniq:∀ ks',WordB' bits ks'→ks'=ks:=fun ks' h=>by
       rw[← q25 ks' h.1.k4,h.2,← hks.2,q25 ks hks.1.k4]
      have hDc2:Calls Tryz.prog 154 #[.pointer (some ⟨br,0,none⟩),.pointer (some ⟨bb,0,none⟩)] wb (MadeMap wb (decL ks) (if ks.length=0 then -1 else 0) (if ks.length=0 then 1 else 0)):=by
       refine hDc.mono ?_
       rintro e w' (⟨ks',hk,hm⟩|⟨h,_⟩)
       ·rw[huniq ks' hk] at hm;exact hm
       ·exact absurd ⟨ks,hks⟩ h
      have HKS:=Lib.hid (And.intro hks huniq)
      clear hDc hks huniq
      refine hDc2.mono ?_
      clear hDc2
      rintro e w4 ⟨bm,rfl,hA4,hbm,hk4⟩
      have hDa:=q0g hA4
      have hLs:=qe hA4
      rw[q03] at hDa
      have hksl:ks.length≤131072:=by have:=hA4.le;rwa [q03] at this
      have hR4:=H3.out.1.keeps hk4 (fun h=>h)
      have d5:w4.cell? ⟨br,5,none⟩=some (.bool true):=World.cell_of_heap hR4 5
      have d4:w4.cell? ⟨br,4,none⟩=some sv:=World.cell_of_heap hR4 4
      have df:=World.free_of_heap hR4
      have hkw4:Keeps (fun k=>k=br∨B≤k) w w4:=((((H1.out.2.1.mono (fun _ _ h=>.inl h):Keeps (fun k=>k=br∨B≤k) w w1)).trans H3.out.2.2.2 (fun _ _ h=>.inl h)).trans hk4 (fun _ _ h=>h.elim))
      have hs4:OwnI B w4 sv (nats s):=(H1.out.2.2.2.1.keeps H3.out.2.2.2 (fun q hq e=>by have:=(H1.out.2.2.2.1.lt q hq).1;have:=HC.out.2.2.2.2.2.1;omega)).keeps hk4 (fun _ _ h=>h)
      have hp4:=H3.out.2.2.1.keeps hk4 (fun _ _ h=>h)
      by_cases hk0:ks.length=0
      ·have t1:((ks.length:Int) == 0)=true:=by rw[hk0];rfl
       have h2:=q00 hR4 5 (.bool false)
       have HO3:Hid (o=none):=Lib.hid (by
        rw[HO2.out,if_neg]
        rintro⟨ks',hk,h0⟩
        rw[HKS.out.2 ks' hk] at h0
        omega)
       have HF:Hid (q2o w B br p l pv s o (.returned (.tuple #[])) (w4.setCell ⟨br,5,none⟩ (.bool false))):=Lib.hid ⟨rfl,hkw4.setCell (p:=⟨br,5,none⟩) (.inl (.inl rfl)) _,.inr ⟨HO3.out,_,_,by simpa [RdF] using h2⟩⟩
       clear hA4 hR4 hkw4 hs4 hp4 h2 hk4 hLs d4
       generalize ks.length=kn at *
       subst hk0
       go_wp2_with fail
       refine hDa.mono ?_
       rintro e w' ⟨rfl,rfl⟩
       go_wp2
       refine bodyPost_end (results_none rfl _ _ _) rfl ?_
       exact HF.out
      ·have t1:((ks.length:Int) == 0)=false:=by rw[beq_eq_false_iff_ne];omega
       have HO3:Hid (o=some (bits,cs1.drop u)):=Lib.hid (by rw[HO2.out,if_pos ⟨ks,HKS.out.1,by omega⟩])
       obtain⟨sa,sc,rfl,_,_⟩:=hs4.form
       rw[q02] at d4 hs4 hR4
       have hbrw:br<w4.heap.size:=by have:=HC.out.2.2.2.2.2.1;have:=HC.out.2.2.2.2.2.2;have:=hkw4.size;omega
       have H4:=Lib.hid (And.intro hR4 (And.intro hkw4 (And.intro hs4 (And.intro hp4 hbrw))))
       obtain⟨f,hf⟩:∃ f,f=s.length:=⟨_,rfl⟩
       rw[← hf] at d4 H4
       obtain⟨kn,hkn⟩:∃ kn,kn=ks.length:=⟨_,rfl⟩
       rw[← hkn] at hDa t1 hksl
       have HFK:=Lib.hid (And.intro hf hkn)
       have hfb:f≤9000000000:=by rw[hf];exact HC.out.2.2.2.2.1
       clear hA4 hR4 hkw4 hs4 hp4 hk4 hf hkn hk0
       go_wp2_with fail
       refine hDa.mono ?_
       clear hDa
       rintro e w' ⟨rfl,rfl⟩
       go_wp2_with fail
       refine hLs.mono ?_
       clear hLs
       rintro e w5 ⟨lv,rfl,hol,hk5⟩
       obtain⟨la,lc,rfl,_,_⟩:=hol.form
       rw[q02,q03,← HFK.out.2] at hol ⊢
       have hblt:B≤w4.heap.size:=by have:=H4.out.2.1.size;have:=HC.out.2.2.2.2.2.2;omega
       have HL:Hid (∀ W,Keeps (fun k=>k=br∨(Value.slice sa f sc).ownBlock=some k) w5 W→Sl .i64 W (.slice la kn lc) (nats (decL ks))):=Lib.hid (fun W hW=>(hol.keeps hW (fun q hq e=>by
        have h1:=(hol.lt q hq).1
        rcases e with e|e
        ·have:=H4.out.2.2.2.2;omega
        ·have:=(H4.out.2.2.1.lt q e).2;omega)).sl)
       have h50:RdF w5 br false p l pv2 (.slice sa f sc) true:=H4.out.1.keeps hk5 (fun h=>h)
       have hs50:OwnI B w5 (.slice sa f sc) (nats (s ++ (movL f ks).take 0)):=by
        rw[List.take_zero,List.append_nil];exact H4.out.2.2.1.keeps hk5 (fun _ _ h=>h)
       have H5:=Lib.hid (And.intro hk5 (And.intro h50 hs50))
       clear hol hk5 h50 hs50 d4 d5 df
       go_wp2_with fail
       go_loopg [80] kn (fun q iv wr=>∃ (j:Nat) (svj:Value),j≤kn∧q=kn - j∧iv=.int .i64 j∧RdF wr br false p l pv2 svj true∧OwnI B wr svj (nats (s ++ (movL f ks).take j))∧(∀ k,svj.ownBlock=some k→(Value.slice sa f sc).ownBlock=some k∨w5.heap.size≤k)∧Keeps (fun k=>k=br∨(Value.slice sa f sc).ownBlock=some k) w5 wr)
       case atStart=>exact⟨0,_,Nat.zero_le _,by omega,rfl,H5.out.2.1,H5.out.2.2,fun k hk=>.inl hk,Keeps.refl _ _⟩
       case round =>
        obtain⟨j,svj,hj,hgk,rfl,hRj,hoj,hbj,hkj⟩:=hrel
        have HGK:=Lib.hid hgk
        clear hgk
        have hmvl:(movL f ks).length=kn:=by unfold movL;rw[List.length_map,q03,HFK.out.2]
        have hlenj:(nats (s ++ (movL f ks).take j)).length=f+j:=by rw[q02,List.length_append,List.length_take,hmvl,HFK.out.1];omega
        by_cases hlt:j<kn
        ·obtain⟨d,hd⟩:∃ d,(decL ks)[j]? = some d:=⟨_,List.getElem?_eq_getElem (by rw[q03,← HFK.out.2];exact hlt)⟩
         obtain⟨lg,lo,rfl,hcl⟩:=(HL.out wr hkj).cellAt (q0i hd)
         have hdb:d<131072:=by
          have h1:=HKS.out.1.1.wd.decL_isP
          have h2:=h1.lt j (by rw[q03,← HFK.out.2];exact hlt)
          have h3:sg (decL ks) j=d:=by unfold sg;rw[List.getD_eq_getElem?_getD,hd];rfl
          rw[h3,q03,← HFK.out.2] at h2
          omega
         have htk:(movL f ks).take (j+1)=(movL f ks).take j ++ [f+d]:=by
          refine q0e ?_
          unfold movL
          rw[List.getElem?_map,hd];rfl
         obtain⟨oa,oc,rfl,_,_⟩:=hoj.form
         rw[hlenj] at hoj hbj hRj
         have d4:wr.cell? ⟨br,4,none⟩=some (.slice oa (f+j) oc):=World.cell_of_heap hRj 4
         have e7:((f+j:Nat):Int)=(f:Int)+(j:Int):=by omega
         obtain⟨fj,hfj⟩:∃ fj,fj=f+j:=⟨_,rfl⟩
         rw[← hfj] at hoj hbj hRj d4 hlenj
         have HN:=Lib.hid hlenj
         have hszj:B≤wr.heap.size:=by have:=hkj.size;have:=H5.out.1.size;omega
         have hfjb:fj≤10000000000:=by omega
         have HFA:Hid (∀ g2 cap2 w9,OwnI B w9 (.slice (some ⟨g2,0,none⟩) (fj+1) cap2) (nats (s ++ (movL f ks).take j) ++ [(d:Int)+(f:Int)])→Keeps (fun k=>(Value.slice oa fj oc).ownBlock=some k) wr w9→((Value.slice oa fj oc).ownBlock=some g2∨wr.heap.size≤g2) →
           w9.cell? ⟨br,4,none⟩=some (.slice oa fj oc)∧(∀ i,w9.frozen? ⟨br,i,none⟩=false) ∧
           (RdF (w9.setCell ⟨br,4,none⟩ (.slice (some ⟨g2,0,none⟩) (fj+1) cap2)) br false p l pv2 (.slice (some ⟨g2,0,none⟩) (fj+1) cap2) true∧OwnI B (w9.setCell ⟨br,4,none⟩ (.slice (some ⟨g2,0,none⟩) (fj+1) cap2)) (.slice (some ⟨g2,0,none⟩) (fj+1) cap2) (nats (s ++ (movL f ks).take (j+1))) ∧
            (∀ k,(Value.slice (some ⟨g2,0,none⟩) (fj+1) cap2).ownBlock=some k→(Value.slice sa f sc).ownBlock=some k∨w5.heap.size≤k)∧Keeps (fun k=>k=br∨(Value.slice sa f sc).ownBlock=some k) w5 (w9.setCell ⟨br,4,none⟩ (.slice (some ⟨g2,0,none⟩) (fj+1) cap2)))):=by
          refine Lib.hid (fun g2 cap2 w9 h9 k9 hat=>?_)
          have hne:∀ q,(Value.slice oa fj oc).ownBlock=some q→q≠br:=fun q hq=>by have:=(hoj.lt q hq).1;omega
          have hg2:g2≠br:=by
           rcases hat with e|e
           ·exact hne _ e
           ·have:=lt_of_block hRj;omega
          have hR9:=hRj.keeps k9 (fun e=>hne _ e rfl)
          have ks:Keeps (fun k=>k=br) w9 (w9.setCell ⟨br,4,none⟩ (.slice (some ⟨g2,0,none⟩) (fj+1) cap2)):=(Keeps.refl (fun k=>k=br) w9).setCell (p:=⟨br,4,none⟩) (.inl rfl) _
          refine⟨World.cell_of_heap hR9 4,World.free_of_heap hR9,?_,?_,fun k hk=>?_,(hkj.trans k9 (fun q hq e=>?_)).trans ks (fun _ _ h=>.inl h)⟩
          ·have:=q00 hR9 4 (.slice (some ⟨g2,0,none⟩) (fj+1) cap2)
           simpa [RdF] using this
          ·rw[htk,← List.append_assoc,q1z]
           have e9:((f+d:Nat):Int)=(d:Int)+(f:Int):=by omega
           rw[e9]
           exact h9.keeps ks (fun q hq e=>by simp only [Value.ownBlock,Option.some.injEq] at hq;exact hg2 (by omega))
          ·simp only [Value.ownBlock,Option.some.injEq] at hk
           subst hk
           rcases hat with e|e
           ·exact hbj _ e
           ·have:=hkj.size;exact .inr (by omega)
          ·rcases hbj _ e with e' | e'
           ·exact .inr e'
           ·omega
         clear hbj hkj hRj hd htk e7 hlenj hfj hmvl
         go_wp2_with (at_builtin;refine q0l fj rfl _ _ rfl B (.slice oa fj oc) (nats (s ++ (movL f ks).take j)) ((d:Int)+(f:Int)) HN wr.heap.size rfl rfl rfl hoj hfjb hszj ?_;intro g2 cap2 w9 hown9 hk9 hat9 hg9;obtain⟨d9,f9,hF9⟩:=HFA.out g2 cap2 w9 hown9 hk9 hat9;have HF9:=Lib.hid hF9;clear hF9 hown9 hk9 hat9 hg9 hoj)
         go_roundg (kn - (j+1))
         case measure=>rw[HGK.out];omega
         case rel=>exact⟨j+1,_,by omega,rfl,by go_num,HF9.out⟩
        ·obtain rfl:kn=j:=by omega
         have HF:Hid (q2o w B br p l pv s o (.returned (.tuple #[])) wr):=by
          refine Lib.hid ⟨rfl,(H4.out.2.1.trans H5.out.1 (fun _ _ h=>h.elim)).trans hkj (fun q hq e=>?_),.inl ⟨bits,cs1.drop u,ks,pv2,svj,HO3.out,HKS.out.1,by have:=HFK.out.2;have h:=beq_eq_false_iff_ne.1 t1;omega,hRj,fun q hq=>H1.out.2.2.2.2.1 q (H3.out.2.1 q hq),?_,?_⟩⟩
          ·rcases e with e|e
           ·exact .inl e
           ·exact .inr (H4.out.2.2.1.lt q e).1
          ·refine (H4.out.2.2.2.1.keeps H5.out.1 (fun _ _ h=>h)).keeps hkj (fun q hq e=>?_)
           have h1:=H1.out.2.2.1 q (H3.out.2.1 q hq)
           rcases e with e|e
           ·exact h1.2 e
           ·have:=(H4.out.2.2.1.lt q e).1;omega
          ·rw[List.take_of_length_le (by omega)] at hoj
           rw[← HFK.out.1]
           exact hoj
         clear hRj hoj hbj hkj
         go_wp2
         refine bodyPost_end (results_none rfl _ _ _) rfl ?_
         exact HF.out
end Go.Proofs.YtcfdpogegngplaaGreat
