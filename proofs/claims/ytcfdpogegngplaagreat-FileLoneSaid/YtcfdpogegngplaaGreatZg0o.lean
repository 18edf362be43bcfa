import Derived.Test.YtcfdpogegngplaaGreatZg0n
set_option maxRecDepth 100000
set_option maxHeartbeats 4000000
namespace Go.Proofs.YtcfdpogegngplaaGreat
open Go.RowKit
theorem EW(s:List Nat):∀ (rs:List Nat) (m r:Nat),rs[m]? = some r→∀ j,j<wT s r→DA s rs (fT (rs.map (wK s)) m+j)=(aX (sg s) (aD (sg s)) r j).1
 | [],m,r,h=>by simp at h
 | r0 :: rs,0,r,h=>fun j hj=>by
  simp only [List.getElem?_cons_zero,Option.some.injEq] at h
  subst h
  rw[WO,Nat.zero_add]
  show (if j<wT s r0 then _ else _)=_
  rw[if_pos hj]
 | r0 :: rs,m+1,r,h=>fun j hj=>by
  rw[List.getElem?_cons_succ] at h
  have ih:=EW s rs m r h j hj
  rw[List.map_cons,qd8,WC,Nat.add_assoc]
  show (if wT s r0+(fT (rs.map (wK s)) m+j)<wT s r0 then _ else DA s rs (wT s r0+(fT (rs.map (wK s)) m+j) - wT s r0))=_
  rw[if_neg (by omega),Nat.add_sub_cancel_left]
  exact ih
structure BA (w:World)(b:Nat)(s:List Nat)(r ln:Nat)(R:Nat→Prop)(D:Nat→Nat)(K rs:List Nat)(g:Nat)(rv:Value)(p:Nat)(wr:World):Prop where
 nm:∃ zs,zs.length=s.length∧CJ s.length D K p zs∧aF w.heap.size wr (.slice (some ⟨g,0,none⟩) s.length s.length) zs
 rts:aF w.heap.size wr rv (aB rs)
 map:∃ R',MapAt wr b s r ln R'∧(∀ x,R' x→R x∨(w.heap.size≤x∧x<wr.heap.size))∧¬ R' g∧(∀ k,rv.ownBlock=some k→¬ R' k)
 dR:Keeps (fun k=>k=b) w wr
 RU:g≠b
 RV:∀ k,rv.ownBlock=some k→k≠g∧k≠b
section
variable {w:World} {b:Nat} {s:List Nat} {r ln:Nat} {R:Nat→Prop} {D:Nat→Nat} {K rs:List Nat} {g:Nat} {rv:Value} {p:Nat} {wr:World} (h:BA w b s r ln R D K rs g rv p wr)
include h
theorem BA.gl:w.heap.size≤g∧g<wr.heap.size:=by
 obtain⟨zs,_,_,ho⟩:=h.nm
 exact ho.lt g rfl
theorem BA.walked{R':Nat→Prop}{w3:World}(hR:∀ x,R' x→R x∨(w.heap.size≤x∧x<wr.heap.size))(Dx:¬ R' g)(hRr:∀ k,rv.ownBlock=some k→¬ R' k)(hq:fH wr b s r ln R' w3):BA w b s r ln R D K rs g rv p w3:=by
 have hsz:=hq.2.size
 have hgl:=h.gl
 have hwr:=h.dR.size
 refine⟨?_,h.rts.keeps hq.2 (fun q hq' e=>(h.RV q hq').2 e),⟨_,hq.1,fun x hx=>?_,fun hx=>?_,fun k hk hx=>?_⟩,h.dR.trans hq.2 (fun _ _ h=>h),h.RU,h.RV⟩
 ·obtain⟨zs,h1,h2,h3⟩:=h.nm
  exact⟨zs,h1,h2,h3.keeps hq.2 (fun q hq' e=>by simp only [Value.ownBlock,Option.some.injEq] at hq';exact h.RU (by omega))⟩
 ·rcases hx with e|e
  ·rcases hR x e with e' | e'
   ·exact .inl e'
   ·exact .inr (by omega)
  ·exact .inr (by omega)
 ·rcases hx with e|e
  ·exact Dx e
  ·omega
 ·rcases hx with e|e
  ·exact hRr k hk e
  ·have:=(h.rts.lt k hk).2;omega
theorem BA.cs0:CS w wr s.length D K g p wr:=by
 obtain⟨zs,h1,h2,h3⟩:=h.nm
 exact⟨zs,h1,h2,h3,Keeps.refl _ _⟩
theorem BA.cs{p':Nat}{w':World}(k:CS w wr s.length D K g p' w'):BA w b s r ln R D K rs g rv p' w':=by
 obtain⟨zs,h1,h2,h3,h4⟩:=k
 have hgl:=h.gl
 obtain⟨R',hA,hR,Dx,hRr⟩:=h.map
 have hsz:=h4.size
 refine⟨⟨zs,h1,h2,h3⟩,h.rts.keeps h4 (fun q hq e=>(h.RV q hq).1 e),⟨R',hA.keeps h4 (fun e=>h.RU e.symm) (fun x hx e=>Dx (e ▸ hx)),fun x hx=>?_,Dx,hRr⟩,h.dR.trans h4 (fun x hx e=>by omega),h.RU,h.RV⟩
 rcases hR x hx with e|e
 ·exact .inl e
 ·exact .inr (by omega)
end
def qo3(w:World)(b:Nat)(s:List Nat)(r ln:Nat)(R:Nat→Prop)(e:Ending)(w':World):Prop :=
 ∃ B b2 bp pv,e=.returned (.tuple #[.pointer (some ⟨b2,0,none⟩),.pointer (some ⟨bp,0,none⟩),.int .i64 0]) ∧
  MapAt w' b2 (bH ((bU s r).map aG)) 0 ln (fun x=>B≤x∧x<w'.heap.size∧x≠b2)∧B≤b2 ∧
  iw w' bp pv (pJ s.length (DA s (jF s r)) (bU s r).flatten)∧w.heap.size≤bp∧bp<B∧(∀ k,pv.ownBlock=some k→w.heap.size≤k∧k<B) ∧
  (∃ R',MapAt w' b s r ln R'∧∀ x,R' x→x<bp∧(R x∨w.heap.size≤x))∧Keeps (fun k=>k=b) w w'
theorem qk4{w:World}{b:Nat}{s:List Nat}{r ln:Nat}{R:Nat→Prop}(h:MapAt w b s r ln R)(hn:0<s.length)(hg:dn (iC s ln)=0) :
  Calls Tryz.prog 39 #[.pointer (some ⟨b,0,none⟩)] w (qo3 w b s r ln R):=by
 have hr:r<s.length:=by
  rcases h.rt with⟨h0,_⟩|⟨_,h1⟩ <;> omega
 have hle:=h.le
 obtain⟨hCM,hD0⟩:=walks_all h.dH h.even hg hr
 have WQ:=EW s (jF s r)
 have N9:∀ m r',(jF s r)[m]? = some r'→r'<s.length:=fun m r' hm=>(qd6 h.dH h.even hg hr).lt r' (List.mem_of_getElem? hm)
 have hks:∀ m r',(jF s r)[m]? = some r'→(bU s r)[m]? = some (wK s r'):=fun m r' hm=>by unfold bU;rw[List.getElem?_map,hm];rfl
 have hall:fT (bU s r) (jF s r).length=s.length:=by
  have h1:=qgb (bU s r)
  have h2:(bU s r).length=(jF s r).length:=by simp[bU]
  rw[h2] at h1
  rw[h1,hCM.len]
 have J2:(jF s r).length≤s.length+1:=by
  have:=qgc s r (aR s.length (sg s) s.length)
  rwa [RS (Nat.le_refl _)] at this
 have htl:(bH ((bU s r).map aG)).length=s.length:=by rw[Dw,hCM.len]
 have Oa:aM s.length (sg (bH ((bU s r).map aG))):=by have:=q2z hCM.ok;rwa [htl] at this
 have HH:=ah h
 have HT:=ah (aj hCM (aj hD0 (aj htl Oa)))
 have EX:fT (bU s r)=fT ((jF s r).map (wK s)):=rfl
 rw[← EX] at WQ
 have hle':∀ m,fT (bU s r) m≤s.length:=fun m=>by have:=qk0 (l:=bU s r) (i:=m);rwa [hCM.len] at this
 have hsucc:∀ m r',(jF s r)[m]? = some r'→fT (bU s r) (m+1)=fT (bU s r) m+wT s r':=fun m r' hm=>by rw[qd7 (hks m r' hm),WC]
 have hCA:tJ s.length (DA s (jF s r)) (bU s r).flatten:=hCM.totJ
 generalize hKK:(bU s r).flatten=K at *
 generalize zl:DA s (jF s r)=D at *
 generalize hOO:fT (bU s r)=O at *
 have Cc:O 0=0:=by rw[← hOO];rfl
 have RX:=ah (aj hKK zl)
 have HC:=ah (aj WQ (aj N9 (aj hle' (aj hsucc hall))))
 have mV:=ah hCA
 have ka:=(Keeps.refl (fun _=>False) w).alloc (.cells #[.int .i64 (-1)] 3)
 have hl0:aF w.heap.size (w.alloc (.cells #[.int .i64 (-1)] 3)) (.slice (some ⟨w.heap.size,0,none⟩) 1 1) [-1]:=by
  refine⟨rfl,.inr ⟨w.heap.size,1,#[.int .i64 (-1)],rfl,Nat.le_refl _,heap_alloc_new w _,Nat.le_refl _,by decide,?_,?_⟩⟩ <;> simp[ints]
 have h1:=h.keeps ka (fun h=>h) (fun _ _ h=>h)
 have hD:=vM h1
 have Ku:=Vs (.slice (some ⟨w.heap.size,0,none⟩) 1 1) (-1) s.length _ hl0.sl (by omega)
 have HA:=ah ka
 clear h hCM hCA hD0 WQ N9 hks hall htl Oa hle' hsucc EX hg ka hl0 h1 hKK zl hOO
 go_enter Tryz.func39,Tryz.ntmps39
 go_wp2_with fail
 refine hD.mono ?_
 rintro e w' ⟨rfl,rfl⟩
 clear hD
 go_wp2_with fail
 refine Ku.mono ?_
 rintro e w1 ⟨g,rfl,hM⟩
 clear Ku
 obtain⟨zs,hz1,rfl,hown,hk1⟩:=hM
 have xH:=HA.out.trans hk1 (fun _ _ h=>h)
 have hA1:=HH.out.keeps xH (fun h=>h) (fun _ _ h=>h)
 have Ob:=qk3 hA1 hn
 have hgo:=hown.lt g rfl
 have H1:=ah (aj hown (aj xH hgo))
 clear hz1 hown hk1 xH hA1 hgo HA
 go_wp2_with fail
 refine Ob.mono ?_
 rintro e w2 ⟨rv,rfl,xM,R2,hA2,hR2,Oc,hk2⟩
 clear Ob
 have hw1:=H1.out.2.1.size
 have hgb:g≠b:=by have:=HH.out.lt;have:=H1.out.2.2.1;simp at this;omega
 have hgw:w.heap.size≤g:=by have:=H1.out.2.2.1;simp at this;omega
 have hX0:BA w b s r ln R D K (jF s r) g rv 0 w2:=by
  refine⟨⟨_,by simp,mV.out.NG,(H1.out.1.mono (fun k hk=>by simp only [Value.ownBlock,Option.some.injEq] at hk;omega)).keeps hk2 (fun q hq e=>by simp only [Value.ownBlock,Option.some.injEq] at hq;omega)⟩,xM.mono (fun k hk=>by have:=(xM.lt k hk).1;omega),⟨R2,hA2,fun x hx=>?_,fun e=>?_,Oc⟩,(show Keeps (fun k=>k=b) w w1 from H1.out.2.1.mono (fun _ _ h=>h.elim)).trans hk2 (fun _ _ h=>h),hgb,fun k hk=>⟨fun e=>?_,fun e=>?_⟩⟩
  ·rcases hR2 x hx with e|e
   ·exact .inl e
   ·exact .inr (by omega)
  ·rcases hR2 g e with e|e
   ·have:=HH.out.old g e;omega
   ·have:=H1.out.2.2.2;omega
  ·have:=(xM.lt k hk).1;have:=H1.out.2.2.2;omega
  ·have:=(xM.lt k hk).1;have:=HH.out.lt;omega
 obtain⟨ra,rc,rfl,_,_⟩:=xM.form
 rw[q01] at hX0 ⊢
 obtain⟨M,hM⟩:∃ M,M=(jF s r).length:=⟨_,rfl⟩
 rw[← hM] at hX0 HC J2 ⊢
 have HM:=ah hM
 have HX:=ah hX0
 have NA:=ah (aj hgb hgw)
 clear xM hA2 hR2 Oc hk2 hM hX0 hgb hgw hw1 H1
 go_wp2_with fail
 go_loopg [6,26] M (fun q c i wr=>∃ m c':Nat,m≤M∧q=M - m∧i=.int .i64 m∧c=.int .i64 c'∧c'=2 * oc K (O m)∧BA w b s r ln R D K (jF s r) g (.slice ra M rc) (O m) wr)
 case atStart=>exact⟨0,0,Nat.zero_le _,by omega,rfl,rfl,by rw[Cc];rfl,by rw[Cc];exact HX.out⟩
 case round =>
  clear HX
  obtain⟨m,c0,hm,aN,rfl,rfl,hcc,hX⟩:=hrel
  have tq:=ah aN
  clear aN
  by_cases hlt:m<M
  ·obtain⟨r',hr'⟩:∃ r',(jF s r)[m]? = some r':=⟨_,List.getElem?_eq_getElem (by rw[← HM.out];exact hlt)⟩
   have hrl:=HC.out.2.1 m r' hr'
   obtain⟨rg,ro,rfl,hcell⟩:=hX.rts.sl.cellAt (jq hr')
   obtain⟨R',hA,hR,Dx,hRr⟩:=hX.map
   have Ns:=walkOf_any hA hrl
   have hw:=fun w3 (hq:fH wr b s r ln R' w3)=>hX.walked hR Dx hRr hq
   have Oe:=hX.gl.2
   have HW:=ah (aj hw (aj hr' Oe))
   have nP:=ah hcc
   clear hX hA hR Dx hRr hw hr' hcc Oe
   go_wp2_with fail
   refine Ns.mono ?_
   rintro e w3 ⟨T,ov,rfl,hE,hT,hov,hq⟩
   have Ed:=HW.out.1 w3 hq
   have LV:wT s r'=T:=hE.Ac
   have hDj:∀ j,j<T→D (O m+j)=(aX (sg s) (aD (sg s)) r' j).1:=fun j hj=>HC.out.1 m r' HW.out.2.1 j (by rw[LV];exact hj)
   have WT:O (m+1)=O m+T:=by rw[← LV];exact HC.out.2.2.2.1 m r' HW.out.2.1
   have WU:=HC.out.2.2.1 (m+1)
   have hat:∀ j,j<T→∃ kd,(aX (sg s) (aD (sg s)) r' T).2[j]? = some (D (O m+j),kd):=fun j hj=>⟨_,by rw[hDj j hj];exact En _ _ _ hj⟩
   have hlo:(aX (sg s) (aD (sg s)) r' T).2.length=T:=rO _ _ _ _
   have IB:∀ k,ov.ownBlock=some k→k≠g:=fun k hk=>by have:=(hov.lt k hk).1;have:=HW.out.2.2;omega
   have HE:=ah (show ∀ wr',CS w w3 s.length D K g (O (m+1)) wr'→BA w b s r ln R D K (jF s r) g (.slice (some ⟨rg,ro,none⟩) M rc) (O (m+1)) wr' from fun wr' hcs=>Ed.cs hcs)
   have hmt:∀ W,Keeps (fun k=>k=g) w3 W→∀ d,d<s.length→Calls Tryz.prog 86 #[.pointer (some ⟨b,0,none⟩),.int .i64 d] W fun e w'=>e=.returned (.int .i64 (mt d:Nat))∧W=w':=fun W hk d hd=>by
    obtain⟨R3,hA3,hs3,hg3,_⟩:=Ed.map
    exact MX (hA3.keeps hk (fun e=>NA.out.1 e.symm) (fun x hx e=>hg3 (e ▸ hx))) d hd
   have HMt:=ah hmt
   have IC:=Ed.cs0
   have hg3:=Ed.gl
   have ajy:=hq.2.size
   obtain⟨oa,oc',WV⟩:=hov.form
   subst WV
   rw[hlo] at hov IB ⊢
   generalize hout:(aX (sg s) (aD (sg s)) r' T).2=out at *
   have HO:Hid (∀ W,Keeps (fun k=>k=g) w3 W→Own2 wr.heap.size W (.slice oa T oc') out):=ah (fun W hk=>hov.keeps hk (fun k hk e=>IB k hk e))
   have HAT:=ah hat
   obtain⟨f,hf⟩:∃ f,f=O m:=⟨_,rfl⟩
   rw[← hf] at IC WT HAT nP
   have HOm:=ah WT
   have hfT:f+T≤s.length:=by omega
   have G6:=ah hg3
   clear Ns hE hT hov IB hq Ed LV hDj WT WU hat hlo hmt hf hout hg3
   generalize hnn:s.length=n at *
   have HN:=ah hnn
   clear hnn
   go_wp2_with fail
   go_loopg [6,38] T (fun q c i wr=>∃ j c':Nat,j≤T∧q=T - j∧i=.int .i64 j∧c=.int .i64 c'∧c'=2 * oc K (f+j)∧CS w w3 n D K g (f+j) wr)
   case atStart=>exact⟨0,c0,Nat.zero_le _,by omega,rfl,rfl,by rw[Nat.add_zero];exact nP.out,by rw[Nat.add_zero];exact IC⟩
   case round =>
    clear IC
    obtain⟨j,c',hj2,aN,rfl,rfl,hcc,hcs⟩:=hrel
    have HG:=ah aN
    clear aN
    have hcb:c'≤2 * n:=by
     have h1:=Q7 K (show f+j≤n by omega)
     have h2:=mV.out.wd.even
     rw[mV.out.len] at h2
     omega
    by_cases hlt2:j<T
    ·have hkg:Keeps (fun k=>k=g) w3 wr:=by obtain⟨_,_,_,_,hk⟩:=id hcs;exact hk
     obtain⟨kd,hgt⟩:=HAT.out j hlt2
     obtain⟨gv,cap,hv,zV,Nl⟩:=(HO.out wr hkg).cell hgt
     simp only [Value.slice.injEq] at hv
     obtain⟨rfl,-,rfl⟩:=hv
     simp only at zV Nl
     obtain⟨p,hp⟩:∃ p,p=f+j:=⟨_,rfl⟩
     rw[← hp] at zV hcs hcc
     have hpn:p<n:=by omega
     have nO:=(Keeps.refl (fun _=>False) wr).alloc (.cells #[.int .i64 (D p),.int .i64 kd] 142)
     have hcs2:=hcs.still nO
     have hDl:=mV.out.dP.lt p hpn
     have hml:mt (D p)<n:=by rw[← mV.out.qz p hpn];exact mV.out.dP.lt _ (by have:=mV.out.wd.dS (i:=p) (by rw[mV.out.len];exact hpn);rw[mV.out.len] at this;exact this)
     have hMt:=fun W hk=>HMt.out W hk (D p) hDl
     rcases mV.out.lS hpn with⟨_,hmm⟩|⟨_,hmm⟩
     ·have IE:mp K p<n:=by have:=mV.out.wd.dS (i:=p) (by rw[mV.out.len];exact hpn);rw[mV.out.len] at this;exact this
      obtain⟨Db,C9⟩:=hcs2.cell hpn
      rw[if_neg (by omega)] at Db
      obtain⟨hc6,Rn⟩:=hcs2.cell IE
      rw[mV.out.qz p hpn] at hc6 Rn
      have hne:D p≠mt (D p):=fun e=>y5 _ e.symm
      obtain⟨hnm,hoc⟩:=mV.out.xL hpn hmm
      have kdr:=(Keeps.refl (fun _=>False) (wr.alloc (.cells #[.int .i64 (D p),.int .i64 kd] 142))).drew
      have EY:=hcs.step mV.out hpn hmm
      have hstp:=EY.still (((Keeps.refl (fun _=>False) _).alloc (.cells #[.int .i64 (D p),.int .i64 kd] 142)).drew)
      have Og:=hMt (wr.alloc (.cells #[.int .i64 (D p),.int .i64 kd] 142)).drew (hkg.trans (nO.trans kdr (fun _ _ h=>h)) (fun _ _ h=>h.elim))
      have hgr:g<wr.heap.size:=by have:=G6.out.2;have:=hkg.size;omega
      rw[hnm,← hcc] at hstp
      have HF:=ah (aj hoc hstp)
      have uP:=ah (aj hcc hp)
      have hcn:c'≤300000:=by omega
      have Oh:=((Keeps.refl (fun _=>False) (wr.setCell ⟨g,D p,none⟩ (.int .i64 (c':Int)))).alloc (.cells #[.int .i64 (D p),.int .i64 kd] 142)).drew
      obtain⟨hc7,hf7⟩:=hcs.other IE (d:=D p) (by rw[mV.out.qz p hpn];exact hne) c' Oh
      obtain⟨hc8,hf8⟩:=hcs.cell IE
      obtain⟨hc9,hf9⟩:=hcs.cell hpn
      rw[if_neg (by omega)] at hc9
      rw[mV.out.qz p hpn] at hc7 hf7 hc8 hf8
      clear hcs hcs2 hoc hgt nO hkg hcc hMt hnm kdr hstp EY Oh hp
      generalize (if mp K p<p∨mp K (mp K p)<p then (bG K (mp K p):Int) else -1)=z6 at *
      generalize mt (D p)=mj at *
      generalize D p=dj at *
      have hb0:=heap_alloc_new wr (.cells #[.int .i64 (dj:Int),.int .i64 kd] 142)
      have hb1:(wr.alloc (.cells #[.int .i64 (dj:Int),.int .i64 kd] 142)).drew.cell? ⟨wr.heap.size,0,none⟩=some (.int .i64 dj):=ak hb0 0
      have hbA:∀ W0:World,W0.heap.size=wr.heap.size→(W0.alloc (.cells #[.int .i64 (dj:Int),.int .i64 kd] 142)).drew.cell? ⟨wr.heap.size,0,none⟩=some (.int .i64 dj):=by
       intro W0 hW0
       have h5:=heap_alloc_new W0 (.cells #[.int .i64 (dj:Int),.int .i64 kd] 142)
       rw[hW0] at h5
       exact ak h5 0
      have WW:IntKind.i64.wrap ((c':Int)+1)=(c':Int)+1:=IntWalk.i64_in _ (by omega)
      go_wp2_with fail
      go_region_held3 (fun w'=>w'.cell? ⟨wr.heap.size,0,none⟩=some (.int .i64 dj)) (first|exact hb1|exact hbA _ (by simp)) (first | (go_at_call 86;refine Og.mono ?_;rintro e w' ⟨rfl,rfl⟩))
      clear Db hc6 C9 Rn hc7 hf7 hc8 hf8 hc9 hf9 Og hb0 hb1 hbA WW
      go_wp2
      go_roundg (T - (j+1))
      case measure=>rw[HG.out];omega
      case rel=>exact⟨j+1,c'+2,by omega,rfl,by go_num,by go_num,by rw[← Nat.add_assoc,← uP.out.2,HF.out.1,uP.out.1];omega,by rw[← Nat.add_assoc,← uP.out.2];exact HF.out.2⟩
     ·have Db:=(hcs2.cell hpn).1
      rw[if_pos (.inr hmm)] at Db
      have hq1:decide (((bG K p:Nat):Int)<0)=false:=decide_eq_false (by omega)
      have hoc:=mV.out.zZ hpn hmm
      have HF:=ah (aj hoc (hcs2.keep mV.out hpn hmm))
      have uP:=ah (aj hcc hp)
      have Oi:=hcs
      clear hcs hcs2 hoc hMt hgt nO hkg hcc Oi hp
      generalize bG K p=nm at *
      generalize D p=dj at *
      go_wp2
      go_roundg (T - (j+1))
      case measure=>rw[HG.out];omega
      case rel=>exact⟨j+1,c',by omega,rfl,by go_num,rfl,by rw[← Nat.add_assoc,← uP.out.2,HF.out.1,uP.out.1],by rw[← Nat.add_assoc,← uP.out.2];exact HF.out.2⟩
    ·obtain rfl:j=T:=by omega
     have HFin:=ah (aj hcc (HE.out wr (by rw[HOm.out];exact hcs)))
     clear hcs hcc
     go_wp2
     go_roundg (M - (m+1))
     case measure=>rw[tq.out];omega
     case rel=>exact⟨m+1,c',by omega,rfl,by go_num,rfl,by rw[HOm.out];exact HFin.out.1,HFin.out.2⟩
  ·obtain rfl:m=M:=by omega
   have hOM:=HC.out.2.2.2.2
   obtain⟨zs,z1,z2,z3⟩:=hX.nm
   rw[hOM] at z2 hcc
   have:=mV.out.NH z1 z2
   subst this
   have hpo:=Rf (.slice (some ⟨g,0,none⟩) s.length s.length) (pJ s.length D K) wr z3.sl (by rw[Kr];exact mV.out.uO) (by rw[Kr];omega)
   have hcn:c0=s.length:=by
    have h2:=mV.out.wd
    have h3:=qn3 h2
    rw[mV.out.len] at h3
    omega
   have hq0:((c0:Int) == 0)=false:=by rw[beq_eq_false_iff_ne];omega
   have HX:=ah hX
   clear hX z1 z2 z3 hcc hcn hOM
   go_wp2_with fail
   refine hpo.mono ?_
   clear hpo
   rintro e w6 ⟨bp,pv,rfl,uQ,hbp,hpv,iI⟩
   obtain⟨R',hA,hR,Dx,hRr⟩:=HX.out.map
   have BR:=hA.keeps iI (fun h=>h) (fun _ _ h=>h)
   obtain⟨hCM,hD0,htl,Oa⟩:=HT.out
   have hwr:=HX.out.dR.size
   have htn:∀ d,d<s.length→sg (bH ((bU s r).map aG)) (sg (pJ s.length D K) d)=sg (pJ s.length D K) (sg s d):=fun d hd=>by
    have:=hCM.vR hd
    rwa [RX.out.1] at this
   have hrl:=q8y (t:=bH ((bU s r).map aG)) BR uQ.1 hn (Kr _ _ _) mV.out.uO (fun d hd=>mV.out.vQ hd) htl htn Oa
   have hrt:sg (pJ s.length D K) r=0:=by
    have:=hCM.vT hn
    rwa [RX.out.1,hD0] at this
   rw[hrt] at hrl
   have WX:=ah (show ∀ x,R' x→x<wr.heap.size from hA.old)
   have HS:=ah (aj uQ (aj hbp (aj hpv (aj iI (aj BR hR)))))
   clear uQ hbp hpv iI hA hR Dx hRr BR hCM hD0 htl Oa htn hrt
   go_wp2_with fail
   refine hrl.mono ?_
   rintro e w7 ⟨b2,rfl,Eb,hb2,yG⟩
   obtain⟨uQ,hbp,hpv,iI,BR,hR⟩:=HS.out
   have s1:=iI.size
   have s2:=yG.size
   have Oj:=uQ.1.lt
   have hold:=WX.out
   have HZ:Hid (MapAt w7 b2 (bH ((bU s r).map aG)) 0 ln (fun x=>w6.heap.size≤x∧x<w7.heap.size∧x≠b2)∧w6.heap.size≤b2 ∧
     iw w7 bp pv (pJ s.length (DA s (jF s r)) (bU s r).flatten)∧w.heap.size≤bp∧bp<w6.heap.size∧(∀ k,pv.ownBlock=some k→w.heap.size≤k∧k<w6.heap.size) ∧
     (∃ R',MapAt w7 b s r ln R'∧∀ x,R' x→x<bp∧(R x∨w.heap.size≤x))∧Keeps (fun k=>k=b) w w7) :=
    ah ⟨Eb,hb2,by rw[RX.out.1,RX.out.2];exact uQ.keeps yG (fun h=>h) (fun _ _ h=>h),by omega,Oj,fun k hk=>⟨by have:=hpv k hk;omega,(uQ.1.2.2 k hk).2⟩,⟨R',BR.keeps yG (fun h=>h) (fun _ _ h=>h),fun x hx=>⟨by have:=hold x hx;omega,(hR x hx).imp id (fun h=>h.1)⟩⟩,(HX.out.dR.trans iI (fun _ _ h=>h.elim)).trans yG (fun _ _ h=>h.elim)⟩
   clear hrl Eb hb2 yG uQ hbp hpv iI BR hR s1 s2 Oj hold
   go_wp2
   refine bodyPost_ret (v:=.tuple #[.pointer (some ⟨b2,0,none⟩),.pointer (some ⟨bp,0,none⟩),.int .i64 0]) (by simp[results,Tryz.results39,go_sem]) rfl ?_
   exact⟨w6.heap.size,b2,bp,pv,rfl,HZ.out⟩
