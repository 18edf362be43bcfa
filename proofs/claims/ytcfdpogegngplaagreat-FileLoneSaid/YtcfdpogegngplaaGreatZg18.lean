import Derived.Test.YtcfdpogegngplaaGreatZg1a
import Derived.Test.YtcfdpogegngplaaGreatZg17
import Derived.Test.YtcfdpogegngplaaGreatZg16
set_option maxRecDepth 100000
set_option maxHeartbeats 4000000
namespace Go.Proofs.YtcfdpogegngplaaGreat
open Go.RowKit
theorem q9f:∀ (l:List Bool),l.length % 2=0→bP (bX l)=l
 | [],_=>rfl
 | [_],h=>by simp at h
 | a :: c :: l,h=>by
  have ih:=q9f l (by simp only [List.length_cons] at h;omega)
  have e:bP (bX (a :: c :: l))=jN (a.toNat+2 * c.toNat) 2 ++ bP (bX l):=by simp[bX,bP]
  rw[e,ih]
  cases a <;> cases c <;> rfl
theorem Wd.right{ks:List Nat}(h:Wd ks)(hC:yI ks):bZ ks:=by
 rcases Nat.eq_zero_or_pos ks.length with h0|h0
 ·have:ks=[]:=List.eq_nil_of_length_eq_zero h0
  subst this
  exact eD.flat (l:=[]) (fun k hk=>by simp at hk)
 ·have h1:=(h.nN hC h0).1.right
  rwa [h.ru hC h0] at h1
def kE(l:List Bool)(ks:List Nat):Prop:=bZ ks∧bP ks=l
def Ya(w:World)(l:List Bool)(e:Ending)(w':World):Prop :=
 (∃ ks,kE l ks∧dx w (aG ks) (if ks.length=0 then -1 else 0) (if ks.length=0 then 1 else 0) e w') ∨
 ((¬ ∃ ks,kE l ks)∧∃ c:Nat,c≠0∧c<17∧e=.returned (.tuple #[.pointer none,.int .i64 c])∧Keeps (fun _=>False) w w')
theorem qdy(br bv:Nat)(p l ok:Bool)(pv sv vv:Value)(bits:List Bool)(w:World)(hR:kL w br false p l pv sv ok)(hv:aK w bv vv bits)(he:bits.length % 2=0)(hl:bits.length≤262144) :
  Calls Tryz.prog 154 #[.pointer (some ⟨br,0,none⟩),.pointer (some ⟨bv,0,none⟩)] w (Ya w bits):=by
 have hO:=qhb bv vv bits w hv he (by omega)
 have c0:w.cell? ⟨br,0,none⟩=some (.bool false):=ak hR 0
 clear hR hv
 go_enter Tryz.func154,Tryz.ntmps154
 go_wp2_with fail
 refine hO.mono ?_
 clear hO
 rintro e w1 ⟨b2,rfl,v2,hW,hb2,hv2,hk1⟩
 have hD:=q8x (.pointer (some ⟨b2,0,none⟩)) (bX bits) w1 (Rz bits) (by rw[Nu];omega) (fun W kW=>qcl b2 v2 (bX bits) W (hW.keeps kW (fun h=>h) (fun _ _ h=>h)) (Rz bits) (by rw[Nu];omega))
 have HK:=ah hk1
 clear hW hb2 hv2 hk1 c0
 go_wp2_with fail
 refine hD.mono ?_
 clear hD
 intro e w2 hP
 rcases hP with⟨h1,h2,b3,rfl,hA,hb3,hk2⟩|⟨c,hc,rfl,hk2⟩
 ·have HF:Hid (Ya w bits (.returned (.tuple #[.pointer (some ⟨b3,0,none⟩),.int .i64 0])) w2):=by
   refine ah (.inl ⟨bX bits,⟨Wd.right ⟨Rz bits,h1⟩ h2,q9f bits he⟩,dx.base ⟨b3,rfl,hA,hb3,hk2⟩ HK.out⟩)
  clear h1 h2 hA hb3 hk2
  go_wp2
  refine bodyPost_ret (v:=.tuple #[.pointer (some ⟨b3,0,none⟩),.int .i64 0]) (by simp[results,Tryz.results154,go_sem]) rfl ?_
  exact HF.out
 ·have HF:Hid (Ya w bits (.returned (.tuple #[.pointer none,.int .i64 c])) w2):=by
   refine ah (.inr ⟨?_,c,by omega,by omega,rfl,HK.out.trans hk2 (fun _ _ h=>h)⟩)
   rintro⟨ks,hk,rfl⟩
   rw[J7 ks hk.k4] at hc
   rcases hc with⟨h,_⟩|⟨_,h,_⟩
   ·exact h hk.bal
   ·exact h hk.canon
  have hcb:c≤16:=by omega
  clear hc hk2
  go_wp2
  refine bodyPost_ret (v:=.tuple #[.pointer none,.int .i64 (c:Nat)]) (by simp[results,Tryz.results154,go_sem]) rfl ?_
  exact HF.out
def nD(l:List Bool):Prop:=∃ ks,kE l ks∧0<ks.length
theorem qal{cs:List Nat}{n u:Nat}{plain:Bool}{l:List Bool}(h:nC cs n plain=some (l,u)):l.length=n∧1≤u∧u≤cs.length:=by
 unfold nC at h
 cases cs with
 | nil=>cases h
 | cons c0 tl =>
  simp only at h
  split at h
  ·cases h
  ·split at h
   ·cases h
   ·next v hv =>
    split at h
    ·next ht =>
     simp only [Option.some.injEq,Prod.mk.injEq] at h
     obtain⟨rfl,rfl⟩:=h
     have h1:=congrArg List.length ht
     rw[List.length_take] at h1
     have:=qkr plain v
     exact⟨X7 hv,by omega,by omega⟩
    ·cases h
theorem Ta{cs cs':List Nat}{most n:Nat}(h:kK cs most=some (n,cs')):n≤most∧∃ u,cs'=cs.drop u:=by
 unfold kK at h
 split at h
 ·cases h
 ·next x u hx =>
  split at h
  ·next hle =>
   simp only [Option.some.injEq,Prod.mk.injEq] at h
   obtain⟨rfl,rfl⟩:=h
   exact⟨hle,u,rfl⟩
  ·cases h
noncomputable def lq(f:Nat)(ks:List Nat):List Nat:=(aG ks).map (f + ·)
def KC(w:World)(B br:Nat)(p l:Bool)(pv:Value)(s:List Nat)(o:Option (List Bool × List Nat))(e:Ending)(w':World):Prop :=
 e=.returned (.tuple #[])∧Keeps (fun k=>k=br∨B≤k) w w' ∧
 ((∃ bits cs' ks pv' jI,o=some (bits,cs')∧kE bits ks∧0<ks.length∧kL w' br false p l pv' jI true∧(∀ q,pv'.ownBlock=some q→pv.ownBlock=some q)∧Sl .u8 w' pv' (aB cs')∧aF B w' jI (aB (s ++ lq s.length ks))) ∨
 (o=none∧∃ pv' jI,kL w' br false p l pv' jI false))
open Classical in
theorem qhr(B br:Nat)(p l:Bool)(pv sv:Value)(cs s:List Nat)(w:World)(hR:kL w br false p l pv sv true)(Jc:∀ q,pv.ownBlock=some q→q<B∧q≠br)(hp:Sl .u8 w pv (aB cs))(hcs:∀ x ∈ cs,x<256)(hl:cs.length≤10000000)(hs:aF B w sv (aB s))(hsl:s.length≤9000000000)(R7:br<B)(hBw:B≤w.heap.size) :
  Calls Tryz.prog 123 #[.pointer (some ⟨br,0,none⟩)] w (KC w B br p l pv s (kC p nD cs)):=by
 have hnot:∀ (x:Bool) (w:World),(Op.unary .not (.bool x)).run Tryz.prog w=.ok (.bool (!x)) w:=fun _ _=>rfl
 have hN:=Tc br false p l true pv sv cs 65536 w hR (fun e=>(Jc br e).2 rfl) hp hcs hl (by decide)
 have HC:=ah (aj Jc (aj hcs (aj hl (aj hs (aj hsl (aj R7 hBw))))))
 obtain⟨o,ho⟩:∃ o,o=kC p nD cs:=⟨_,rfl⟩
 rw[← ho]
 unfold kC at ho
 have HO:=ah ho
 clear hR hp hcs hl hs Jc ho hBw
 go_enter Tryz.func123,Tryz.ntmps123
 go_wp2_with fail
 refine hN.mono ?_
 clear hN
 intro e w1 h1
 rcases h1 with⟨n,cs1,DR,-,hne,rfl,mI,uY,hp1,hk1⟩|⟨hno,rfl,mI,hk1⟩
 rotate_left
 ·have c0:w1.cell? ⟨br,0,none⟩=some (.bool false):=ak mI 0
  have c3:w1.cell? ⟨br,5,none⟩=some (.bool false):=ak mI 5
  have HF:Hid (KC w B br p l pv s o (.returned (.tuple #[])) w1):=by
   refine ah ⟨rfl,hk1.mono (fun _ _ h=>.inl h),.inr ⟨?_,_,_,mI⟩⟩
   rcases hno with h|h
   ·cases h
   ·have:=HO.out
    rw[h] at this
    exact this
  clear mI hk1 hno
  go_wp2
  refine bodyPost_end (results_none rfl _ _ _) rfl ?_
  exact HF.out
 ·obtain⟨alu,u1,Jd⟩:=Ta hne
  have hcs1:∀ x ∈ cs1,x<256:=fun x hx=>HC.out.2.1 x (List.mem_of_mem_drop (by rw[Jd] at hx;exact hx))
  have hl1:cs1.length≤10000000:=by rw[Jd,List.length_drop];have:=HC.out.2.2.1;omega
  have KD:Hid (o=match nC cs1 (4 * n) p with|none=>none|some (v,u)=>if nD v then some (v,cs1.drop u) else none):=ah (by
   have:=HO.out
   rw[hne] at this
   exact this)
  have xY:∀ q,DR.ownBlock=some q→q<B∧q≠br:=fun q hq=>HC.out.1 q (uY q hq)
  have Pv:aF B w1 sv (aB s):=HC.out.2.2.2.1.keeps hk1 (fun q hq e=>by have:=(HC.out.2.2.2.1.lt q hq).1;omega)
  have e1:4 * (n:Int)=((4 * n:Nat):Int):=by omega
  have c0:w1.cell? ⟨br,0,none⟩=some (.bool false):=ak mI 0
  have c1:w1.cell? ⟨br,1,none⟩=some (.bool p):=ak mI 1
  have c3:w1.cell? ⟨br,3,none⟩=some DR:=ak mI 3
  have c5:w1.cell? ⟨br,5,none⟩=some (.bool true):=ak mI 5
  have c1':w1.drew.cell? ⟨br,1,none⟩=some (.bool p):=c1
  have c3':w1.drew.cell? ⟨br,3,none⟩=some DR:=c3
  have H1:=ah (aj mI (aj hk1 (aj xY (aj Pv (aj uY (aj hp1 (aj hcs1 hl1)))))))
  have Je:=qhq DR cs1 (4 * n) p w1.drew (hp1.keeps (Keeps.refl (fun _=>False) w1).drew (fun _ _ h=>h)) hcs1 hl1 (by omega)
  clear mI hk1 xY Pv uY hp1 hcs1 hl1 hne Jd
  obtain⟨N4,Iy⟩:∃ N4,N4=4 * n:=⟨_,rfl⟩
  rw[← Iy] at e1 Je KD
  have HN4:=ah Iy
  clear Iy
  cases hun:nC cs1 N4 p with
  | none =>
   rw[hun] at Je
   have FH:Hid (o=none):=ah (by have:=KD.out;rw[hun] at this;exact this)
   have Jf:Calls Tryz.prog 153 #[DR,.int .i64 N4,.bool p] w1.drew fun e w'=>∃ c:Nat,c≠0∧c<17∧e=.returned (.tuple #[.pointer none,.int .i64 0,.int .i64 c])∧Keeps (fun _=>False) w1.drew w':=by
    refine Je.mono ?_
    rintro e w' (⟨_,_,_,h,_⟩|⟨_,h⟩)
    ·cases h
    ·exact h
   clear hun Je
   go_wp2_with fail
   go_region_with (go_at_call 153;refine Jf.mono ?_;rintro e w2 ⟨c,hc0,hc17,rfl,hk2⟩)
   all_goals
    have jQ:Keeps (fun _=>False) w1 w2:=by
     first
      | exact ((Keeps.refl (fun _=>False) w1).drew).trans hk2 (fun _ _ h=>h)
      | exact hk2
    have hR2:=H1.out.1.keeps jQ (fun h=>h)
    have d5:w2.cell? ⟨br,5,none⟩=some (.bool true):=ak hR2 5
    have df:=au hR2
    have h2:=dM hR2 5 (.bool false)
    have t1:((c:Int) != 0)=true:=by rw[bne_iff_ne];omega
    have HF:Hid (KC w B br p l pv s o (.returned (.tuple #[])) (w2.setCell ⟨br,5,none⟩ (.bool false))):=ah ⟨rfl,(((H1.out.2.1.mono (fun _ _ h=>.inl h):Keeps (fun k=>k=br∨B≤k) w w1)).trans jQ (fun _ _ h=>h.elim)).setCell (p:=⟨br,5,none⟩) (.inl (.inl rfl)) _,.inr ⟨FH.out,_,_,by simpa [kL] using h2⟩⟩
    clear hR2 h2 hk2 jQ
    go_wp2
    refine bodyPost_end (results_none rfl _ _ _) rfl ?_
    exact HF.out
  | some vu =>
   obtain⟨bits,u⟩:=vu
   rw[hun] at Je
   obtain⟨hbl,hu1,VI⟩:=qal hun
   have FH:Hid (o=if nD bits then some (bits,cs1.drop u) else none):=ah (by have:=KD.out;rw[hun] at this;exact this)
   have Jf:Calls Tryz.prog 153 #[DR,.int .i64 N4,.bool p] w1.drew fun e w'=>∃ bb,e=.returned (.tuple #[.pointer (some ⟨bb,0,none⟩),.int .i64 (u:Nat),.int .i64 0])∧aY w1.drew bb bits w':=by
    refine Je.mono ?_
    rintro e w' (⟨l',u',bb,h,rfl,h2⟩|⟨h,_⟩)
    ·simp only [Option.some.injEq,Prod.mk.injEq] at h
     obtain⟨rfl,rfl⟩:=h
     exact⟨bb,rfl,h2⟩
    ·cases h
   clear hun Je
   go_upto_region 5 with fail
   go_cut [4,5,6] from 27 to 41 (fun x4 x5 x6 wz=>∃ bb,x4=.pointer (some ⟨bb,0,none⟩)∧x5=.int .i64 (u:Nat)∧x6=.int .i64 0∧aY w1 bb bits wz)
   case first =>
    go_region_with (go_at_call 153;refine Jf.mono ?_;rintro e w2 ⟨bb,rfl,hV⟩)
    all_goals
     have HV:Hid (aY w1 bb bits w2):=ah (by
      obtain⟨vv,z1,z2,z3,z4⟩:=hV
      exact⟨vv,z1,z2,z3,((Keeps.refl (fun _=>False) w1).drew).trans z4 (fun _ _ h=>h)⟩)
     clear hV
     go_wp2_with fail
     go_meet
     case rel=>exact⟨bb,rfl,rfl,rfl,HV.out⟩
   case rest =>
    obtain⟨bb,rfl,rfl,rfl,vv,Px,hbb,hvv,jQ⟩:=hcut
    obtain⟨wa,rfl⟩:∃ W,W=wc:=⟨wc,rfl⟩
    have hR2:=H1.out.1.keeps jQ (fun h=>h)
    have hp2:=H1.out.2.2.2.2.2.1.keeps jQ (fun _ _ h=>h)
    obtain⟨pa,pc,rfl,hpc,hpm⟩:=hp2.kP
    obtain⟨pa',pc',hv,-,-,-,hc⟩:=id hp2
    simp only [Value.slice.injEq] at hv
    obtain⟨rfl,-,rfl⟩:=hv
    obtain⟨y,hy⟩:∃ y,cs1[0]? = some y:=⟨_,List.getElem?_eq_getElem (by omega)⟩
    obtain⟨g,off,rfl,-⟩:=hc 0 (y:Int) (by simp[aB,hy])
    have d3:wa.cell? ⟨br,3,none⟩=some _:=ak hR2 3
    have df:=au hR2
    have hst:=fun pv':Value=>dM hR2 3 pv'
    have htl:=hp2.oL u VI
    have HA:=ah (aj Px (aj hbb (aj hvv (aj jQ (aj hst htl)))))
    have Jg:=H1.out.2.2.1
    clear Px hbb hvv jQ hR2 hp2 hc hy hst htl
    obtain⟨m1,hm1⟩:∃ m1,m1=cs1.length:=⟨_,rfl⟩
    rw[← hm1] at d3 hpc VI HA Jg H1
    have HM1:=ah hm1
    clear hm1 c0 c1 c3 c5 c1' c3'
    go_upto_region 8 with fail
    go_cut [] from 47 to 55 (fun wz=>∃ yN,kL wz br false p l yN sv true∧(∀ q,yN.ownBlock=some q→(Value.slice (some ⟨g,off,none⟩) m1 pc).ownBlock=some q)∧Sl .u8 wz yN (aB (cs1.drop u))∧Keeps (fun k=>k=br) wa wz)
    case first =>
     have hfin:∀ pv',kL (wa.setCell ⟨br,3,none⟩ pv') br false p l pv' sv true∧Keeps (fun k=>k=br) wa (wa.setCell ⟨br,3,none⟩ pv'):=fun pv' =>
      ⟨by simpa [kL] using HA.out.2.2.2.2.1 pv',(Keeps.refl (fun k=>k=br) wa).setCell (p:=⟨br,3,none⟩) (.inl rfl) _⟩
     have HF:=ah hfin
     clear hfin
     go_wp2_with fail
     ·go_meet
      case rel =>
       have hnu:m1 - u=0:=by omega
       rw[hnu]
       obtain⟨f1,f2⟩:=HF.out (.slice (some ⟨g,off,none⟩) 0 0)
       refine⟨_,f1,fun q hq=>by simpa [Value.ownBlock] using hq,?_,f2⟩
       rw[List.drop_of_length_le (by rw[← HM1.out];omega)]
       exact Sl.oM _ _
     ·go_meet
      case rel =>
       obtain⟨f1,f2⟩:=HF.out (.slice (some ⟨g,off+u,none⟩) (m1 - u) (pc - u))
       refine⟨_,f1,fun q hq=>by simpa [Value.ownBlock] using hq,HA.out.2.2.2.2.2.keeps f2 (fun q hq e=>?_),f2⟩
       exact (Jg q (by simpa [Value.ownBlock] using hq)).2 e
    case rest =>
     obtain⟨yN,oF,Az,hp3,hk3⟩:=hcut
     obtain⟨wb,rfl⟩:∃ W,W=wc:=⟨wc,rfl⟩
     obtain⟨Px,hbb,hvv,jQ,-,-⟩:=HA.out
     have qW:br<w1.heap.size:=lt_of_block H1.out.1
     have Oq:=Px.keeps hk3 (fun e=>by omega) (fun q hq e=>by have:=hvv q hq;omega)
     have yL:=qdy br bb p l true yN sv vv bits wb oF Oq (by rw[hbl,HN4.out];omega) (by rw[hbl,HN4.out];omega)
     have d5:wb.cell? ⟨br,5,none⟩=some (.bool true):=ak oF 5
     have H3:=ah (aj oF (aj Az (aj hp3 ((jQ.mono (fun _ _ h=>h.elim):Keeps (fun k=>k=br) w1 wa).trans hk3 (fun _ _ h=>h)))))
     clear Px hbb hvv jQ oF Az hp3 hk3 Oq Jg d3 df
     go_wp2_with fail
     by_cases hw:∃ ks,kE bits ks
     rotate_left
     ·have AA:Calls Tryz.prog 154 #[.pointer (some ⟨br,0,none⟩),.pointer (some ⟨bb,0,none⟩)] wb fun e w'=>∃ c:Nat,c≠0∧c<17∧e=.returned (.tuple #[.pointer none,.int .i64 c])∧Keeps (fun _=>False) wb w':=by
       refine yL.mono ?_
       rintro e w' (⟨ks,hk,_⟩|⟨_,h⟩)
       ·exact absurd ⟨ks,hk⟩ hw
       ·exact h
      have Py:Hid (o=none):=ah (by rw[FH.out,if_neg];rintro⟨ks,hk,_⟩;exact hw ⟨ks,hk⟩)
      clear yL hw
      refine AA.mono ?_
      clear AA
      rintro e w4 ⟨c,hc0,hc17,rfl,hk4⟩
      have qY:=H3.out.1.keeps hk4 (fun h=>h)
      have d5:w4.cell? ⟨br,5,none⟩=some (.bool true):=ak qY 5
      have df:=au qY
      have h2:=dM qY 5 (.bool false)
      have t1:((c:Int) != 0)=true:=by rw[bne_iff_ne];omega
      have HF:Hid (KC w B br p l pv s o (.returned (.tuple #[])) (w4.setCell ⟨br,5,none⟩ (.bool false))):=ah ⟨rfl,((((H1.out.2.1.mono (fun _ _ h=>.inl h):Keeps (fun k=>k=br∨B≤k) w w1)).trans H3.out.2.2.2 (fun _ _ h=>.inl h)).trans hk4 (fun _ _ h=>h.elim)).setCell (p:=⟨br,5,none⟩) (.inl (.inl rfl)) _,.inr ⟨Py.out,_,_,by simpa [kL] using h2⟩⟩
      clear qY h2 hk4
      go_wp2
      refine bodyPost_end (results_none rfl _ _ _) rfl ?_
      exact HF.out
     ·obtain⟨ks,hks⟩:=hw
      have AB:∀ ks',kE bits ks'→ks'=ks:=fun ks' h=>by
       rw[← J7 ks' h.1.k4,h.2,← hks.2,J7 ks hks.1.k4]
      have AA:Calls Tryz.prog 154 #[.pointer (some ⟨br,0,none⟩),.pointer (some ⟨bb,0,none⟩)] wb (dx wb (aG ks) (if ks.length=0 then -1 else 0) (if ks.length=0 then 1 else 0)):=by
       refine yL.mono ?_
       rintro e w' (⟨ks',hk,hm⟩|⟨h,_⟩)
       ·rw[AB ks' hk] at hm;exact hm
       ·exact absurd ⟨ks,hks⟩ h
      have Td:=ah (aj hks AB)
      clear yL hks AB
      refine AA.mono ?_
      clear AA
      rintro e w4 ⟨bm,rfl,zP,gI,hk4⟩
      have wD:=vM zP
      have KE:=q8t zP
      rw[kJ] at wD
      have Yb:ks.length≤131072:=by have:=zP.le;rwa [kJ] at this
      have qY:=H3.out.1.keeps hk4 (fun h=>h)
      have d5:w4.cell? ⟨br,5,none⟩=some (.bool true):=ak qY 5
      have d4:w4.cell? ⟨br,4,none⟩=some sv:=ak qY 4
      have df:=au qY
      have AJ:Keeps (fun k=>k=br∨B≤k) w w4:=((((H1.out.2.1.mono (fun _ _ h=>.inl h):Keeps (fun k=>k=br∨B≤k) w w1)).trans H3.out.2.2.2 (fun _ _ h=>.inl h)).trans hk4 (fun _ _ h=>h.elim))
      have hs4:aF B w4 sv (aB s):=(H1.out.2.2.2.1.keeps H3.out.2.2.2 (fun q hq e=>by have:=(H1.out.2.2.2.1.lt q hq).1;have:=HC.out.2.2.2.2.2.1;omega)).keeps hk4 (fun _ _ h=>h)
      have Yc:=H3.out.2.2.1.keeps hk4 (fun _ _ h=>h)
      by_cases hk0:ks.length=0
      ·have t1:((ks.length:Int) == 0)=true:=by rw[hk0];rfl
       have h2:=dM qY 5 (.bool false)
       have Py:Hid (o=none):=ah (by
        rw[FH.out,if_neg]
        rintro⟨ks',hk,h0⟩
        rw[Td.out.2 ks' hk] at h0
        omega)
       have HF:Hid (KC w B br p l pv s o (.returned (.tuple #[])) (w4.setCell ⟨br,5,none⟩ (.bool false))):=ah ⟨rfl,AJ.setCell (p:=⟨br,5,none⟩) (.inl (.inl rfl)) _,.inr ⟨Py.out,_,_,by simpa [kL] using h2⟩⟩
       clear zP qY AJ hs4 Yc h2 hk4 KE d4
       generalize ks.length=kn at *
       subst hk0
       go_wp2_with fail
       refine wD.mono ?_
       rintro e w' ⟨rfl,rfl⟩
       go_wp2
       refine bodyPost_end (results_none rfl _ _ _) rfl ?_
       exact HF.out
      ·have t1:((ks.length:Int) == 0)=false:=by rw[beq_eq_false_iff_ne];omega
       have Py:Hid (o=some (bits,cs1.drop u)):=ah (by rw[FH.out,if_pos ⟨ks,Td.out.1,by omega⟩])
       obtain⟨sa,sc,rfl,_,_⟩:=hs4.form
       rw[q01] at d4 hs4 qY
       have tT:br<w4.heap.size:=by have:=HC.out.2.2.2.2.2.1;have:=HC.out.2.2.2.2.2.2;have:=AJ.size;omega
       have H4:=ah (aj qY (aj AJ (aj hs4 (aj Yc tT))))
       obtain⟨f,hf⟩:∃ f,f=s.length:=⟨_,rfl⟩
       rw[← hf] at d4 H4
       obtain⟨kn,hkn⟩:∃ kn,kn=ks.length:=⟨_,rfl⟩
       rw[← hkn] at wD t1 Yb
       have FJ:=ah (aj hf hkn)
       have hfb:f≤9000000000:=by rw[hf];exact HC.out.2.2.2.2.1
       clear zP qY AJ hs4 Yc hk4 hf hkn hk0
       go_wp2_with fail
       refine wD.mono ?_
       clear wD
       rintro e w' ⟨rfl,rfl⟩
       go_wp2_with fail
       refine KE.mono ?_
       clear KE
       rintro e w5 ⟨lv,rfl,hol,hk5⟩
       obtain⟨la,lc,rfl,_,_⟩:=hol.form
       rw[q01,kJ,← FJ.out.2] at hol ⊢
       have hblt:B≤w4.heap.size:=by have:=H4.out.2.1.size;have:=HC.out.2.2.2.2.2.2;omega
       have HL:Hid (∀ W,Keeps (fun k=>k=br∨(Value.slice sa f sc).ownBlock=some k) w5 W→Sl .i64 W (.slice la kn lc) (aB (aG ks))):=ah (fun W hW=>(hol.keeps hW (fun q hq e=>by
        have h1:=(hol.lt q hq).1
        rcases e with e|e
        ·have:=H4.out.2.2.2.2;omega
        ·have:=(H4.out.2.2.1.lt q e).2;omega)).sl)
       have h50:kL w5 br false p l yN (.slice sa f sc) true:=H4.out.1.keeps hk5 (fun h=>h)
       have Pz:aF B w5 (.slice sa f sc) (aB (s ++ (lq f ks).take 0)):=by
        rw[List.take_zero,List.append_nil];exact H4.out.2.2.1.keeps hk5 (fun _ _ h=>h)
       have H5:=ah (aj hk5 (aj h50 Pz))
       clear hol hk5 h50 Pz d4 d5 df
       go_wp2_with fail
       go_loopg [80] kn (fun q iv wr=>∃ (j:Nat) (PD:Value),j≤kn∧q=kn - j∧iv=.int .i64 j∧kL wr br false p l yN PD true∧aF B wr PD (aB (s ++ (lq f ks).take j))∧(∀ k,PD.ownBlock=some k→(Value.slice sa f sc).ownBlock=some k∨w5.heap.size≤k)∧Keeps (fun k=>k=br∨(Value.slice sa f sc).ownBlock=some k) w5 wr)
       case atStart=>exact⟨0,_,Nat.zero_le _,by omega,rfl,H5.out.2.1,H5.out.2.2,fun k hk=>.inl hk,Keeps.refl _ _⟩
       case round =>
        obtain⟨j,PD,hj,aN,rfl,hRj,hoj,hbj,hkj⟩:=hrel
        have tq:=ah aN
        clear aN
        have PE:(lq f ks).length=kn:=by unfold lq;rw[List.length_map,kJ,FJ.out.2]
        have wE:(aB (s ++ (lq f ks).take j)).length=f+j:=by rw[q01,List.length_append,List.length_take,PE,FJ.out.1];omega
        by_cases hlt:j<kn
        ·obtain⟨d,hd⟩:∃ d,(aG ks)[j]? = some d:=⟨_,List.getElem?_eq_getElem (by rw[kJ,← FJ.out.2];exact hlt)⟩
         obtain⟨lg,lo,rfl,hcl⟩:=(HL.out wr hkj).cellAt (jq hd)
         have hdb:d<131072:=by
          have h1:=Td.out.1.1.wd.eB
          have h2:=h1.lt j (by rw[kJ,← FJ.out.2];exact hlt)
          have h3:sg (aG ks) j=d:=by unfold sg;rw[List.getD_eq_getElem?_getD,hd];rfl
          rw[h3,kJ,← FJ.out.2] at h2
          omega
         have htk:(lq f ks).take (j+1)=(lq f ks).take j ++ [f+d]:=by
          refine lX ?_
          unfold lq
          rw[List.getElem?_map,hd];rfl
         obtain⟨oa,oc,rfl,_,_⟩:=hoj.form
         rw[wE] at hoj hbj hRj
         have d4:wr.cell? ⟨br,4,none⟩=some (.slice oa (f+j) oc):=ak hRj 4
         have e7:((f+j:Nat):Int)=(f:Int)+(j:Int):=by omega
         obtain⟨fj,hfj⟩:∃ fj,fj=f+j:=⟨_,rfl⟩
         rw[← hfj] at hoj hbj hRj d4 wE
         have HN:=ah wE
         have Yd:B≤wr.heap.size:=by have:=hkj.size;have:=H5.out.1.size;omega
         have Ye:fj≤10000000000:=by omega
         have HFA:Hid (∀ g2 cap2 w9,aF B w9 (.slice (some ⟨g2,0,none⟩) (fj+1) cap2) (aB (s ++ (lq f ks).take j) ++ [(d:Int)+(f:Int)])→Keeps (fun k=>(Value.slice oa fj oc).ownBlock=some k) wr w9→((Value.slice oa fj oc).ownBlock=some g2∨wr.heap.size≤g2) →
           w9.cell? ⟨br,4,none⟩=some (.slice oa fj oc)∧(∀ i,w9.frozen? ⟨br,i,none⟩=false) ∧
           (kL (w9.setCell ⟨br,4,none⟩ (.slice (some ⟨g2,0,none⟩) (fj+1) cap2)) br false p l yN (.slice (some ⟨g2,0,none⟩) (fj+1) cap2) true∧aF B (w9.setCell ⟨br,4,none⟩ (.slice (some ⟨g2,0,none⟩) (fj+1) cap2)) (.slice (some ⟨g2,0,none⟩) (fj+1) cap2) (aB (s ++ (lq f ks).take (j+1))) ∧
            (∀ k,(Value.slice (some ⟨g2,0,none⟩) (fj+1) cap2).ownBlock=some k→(Value.slice sa f sc).ownBlock=some k∨w5.heap.size≤k)∧Keeps (fun k=>k=br∨(Value.slice sa f sc).ownBlock=some k) w5 (w9.setCell ⟨br,4,none⟩ (.slice (some ⟨g2,0,none⟩) (fj+1) cap2)))):=by
          refine ah (fun g2 cap2 w9 h9 k9 hat=>?_)
          have hne:∀ q,(Value.slice oa fj oc).ownBlock=some q→q≠br:=fun q hq=>by have:=(hoj.lt q hq).1;omega
          have hg2:g2≠br:=by
           rcases hat with e|e
           ·exact hne _ e
           ·have:=lt_of_block hRj;omega
          have Yf:=hRj.keeps k9 (fun e=>hne _ e rfl)
          have ks:Keeps (fun k=>k=br) w9 (w9.setCell ⟨br,4,none⟩ (.slice (some ⟨g2,0,none⟩) (fj+1) cap2)):=(Keeps.refl (fun k=>k=br) w9).setCell (p:=⟨br,4,none⟩) (.inl rfl) _
          refine⟨ak Yf 4,au Yf,?_,?_,fun k hk=>?_,(hkj.trans k9 (fun q hq e=>?_)).trans ks (fun _ _ h=>.inl h)⟩
          ·have:=dM Yf 4 (.slice (some ⟨g2,0,none⟩) (fj+1) cap2)
           simpa [kL] using this
          ·rw[htk,← List.append_assoc,xk]
           have e9:((f+d:Nat):Int)=(d:Int)+(f:Int):=by omega
           rw[e9]
           exact h9.keeps ks (fun q hq e=>by simp only [Value.ownBlock,Option.some.injEq] at hq;exact hg2 (by omega))
          ·simp only [Value.ownBlock,Option.some.injEq] at hk
           subst hk
           rcases hat with e|e
           ·exact hbj _ e
           ·have:=hkj.size;exact .inr (by omega)
          ·rcases hbj _ e with e' | e'
           ·exact .inr e'
           ·omega
         clear hbj hkj hRj hd htk e7 wE hfj PE
         go_wp2_with (at_builtin;refine mP fj rfl _ _ rfl B (.slice oa fj oc) (aB (s ++ (lq f ks).take j)) ((d:Int)+(f:Int)) HN wr.heap.size rfl rfl rfl hoj Ye Yd ?_;intro g2 cap2 w9 sS pY PG Ky;obtain⟨d9,f9,hF9⟩:=HFA.out g2 cap2 w9 sS pY PG;have HF9:=ah hF9;clear hF9 sS pY PG Ky hoj)
         go_roundg (kn - (j+1))
         case measure=>rw[tq.out];omega
         case rel=>exact⟨j+1,_,by omega,rfl,by go_num,HF9.out⟩
        ·obtain rfl:kn=j:=by omega
         have HF:Hid (KC w B br p l pv s o (.returned (.tuple #[])) wr):=by
          refine ah ⟨rfl,(H4.out.2.1.trans H5.out.1 (fun _ _ h=>h.elim)).trans hkj (fun q hq e=>?_),.inl ⟨bits,cs1.drop u,ks,yN,PD,Py.out,Td.out.1,by have:=FJ.out.2;have h:=beq_eq_false_iff_ne.1 t1;omega,hRj,fun q hq=>H1.out.2.2.2.2.1 q (H3.out.2.1 q hq),?_,?_⟩⟩
          ·rcases e with e|e
           ·exact .inl e
           ·exact .inr (H4.out.2.2.1.lt q e).1
          ·refine (H4.out.2.2.2.1.keeps H5.out.1 (fun _ _ h=>h)).keeps hkj (fun q hq e=>?_)
           have h1:=H1.out.2.2.1 q (H3.out.2.1 q hq)
           rcases e with e|e
           ·exact h1.2 e
           ·have:=(H4.out.2.2.1.lt q e).1;omega
          ·rw[List.take_of_length_le (by omega)] at hoj
           rw[← FJ.out.1]
           exact hoj
         clear hRj hoj hbj hkj
         go_wp2
         refine bodyPost_end (results_none rfl _ _ _) rfl ?_
         exact HF.out
