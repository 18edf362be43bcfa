import Derived.Test.YtcfdpogegngplaaGreatZaRootsM
set_option maxRecDepth 100000
set_option maxHeartbeats 4000000
namespace Go.Proofs.YtcfdpogegngplaaGreat
open Go.RowKit
theorem DA_at (s:List Nat):∀ (rs:List Nat) (m r:Nat),rs[m]? = some r→∀ j,j<wT s r→DA s rs (offM (rs.map (wK s)) m+j)=(wlk (sg s) (vnum (sg s)) r j).1
 | [],m,r,h=>by simp at h
 | r0 :: rs,0,r,h=>fun j hj=>by
  simp only [List.getElem?_cons_zero,Option.some.injEq] at h
  subst h
  rw[q8c,Nat.zero_add]
  show (if j<wT s r0 then _ else _)=_
  rw[if_pos hj]
 | r0 :: rs,m+1,r,h=>fun j hj=>by
  rw[List.getElem?_cons_succ] at h
  have ih:=DA_at s rs m r h j hj
  rw[List.map_cons,qbr,q8a,Nat.add_assoc]
  show (if wT s r0+(offM (rs.map (wK s)) m+j)<wT s r0 then _ else DA s rs (wT s r0+(offM (rs.map (wK s)) m+j) - wT s r0))=_
  rw[if_neg (by omega),Nat.add_sub_cancel_left]
  exact ih
structure CSM (w:World) (b:Nat) (s:List Nat) (r ln:Nat) (R:Nat→Prop) (D:Nat→Nat) (K rs:List Nat) (g:Nat) (rv:Value) (p:Nat) (wr:World):Prop where
 nm:∃ zs,zs.length=s.length∧CJ s.length D K p zs∧OwnI w.heap.size wr (.slice (some ⟨g,0,none⟩) s.length s.length) zs
 rts:OwnI w.heap.size wr rv (nats rs)
 map:∃ R',MapAt wr b s r ln R'∧(∀ x,R' x→R x∨(w.heap.size≤x∧x<wr.heap.size))∧¬ R' g∧(∀ k,rv.ownBlock=some k→¬ R' k)
 kee:Keeps (fun k=>k=b) w wr
 gne:g≠b
 rne:∀ k,rv.ownBlock=some k→k≠g∧k≠b
section
variable {w:World} {b:Nat} {s:List Nat} {r ln:Nat} {R:Nat→Prop} {D:Nat→Nat} {K rs:List Nat} {g:Nat} {rv:Value} {p:Nat} {wr:World} (h:CSM w b s r ln R D K rs g rv p wr)
include h
theorem CSM.gl:w.heap.size≤g∧g<wr.heap.size:=by
 obtain⟨zs,_,_,ho⟩:=h.nm
 exact ho.lt g rfl
theorem CSM.walked {R':Nat→Prop} {w3:World} (hR:∀ x,R' x→R x∨(w.heap.size≤x∧x<wr.heap.size)) (hRg:¬ R' g) (hRr:∀ k,rv.ownBlock=some k→¬ R' k) (hq:MapQ wr b s r ln R' w3):CSM w b s r ln R D K rs g rv p w3:=by
 have hsz:=hq.2.size
 have hgl:=h.gl
 have hwr:=h.kee.size
 refine⟨?_,h.rts.keeps hq.2 (fun q hq' e=>(h.rne q hq').2 e),⟨_,hq.1,fun x hx=>?_,fun hx=>?_,fun k hk hx=>?_⟩,h.kee.trans hq.2 (fun _ _ h=>h),h.gne,h.rne⟩
 ·obtain⟨zs,h1,h2,h3⟩:=h.nm
  exact⟨zs,h1,h2,h3.keeps hq.2 (fun q hq' e=>by simp only [Value.ownBlock,Option.some.injEq] at hq';exact h.gne (by omega))⟩
 ·rcases hx with e|e
  ·rcases hR x e with e' | e'
   ·exact .inl e'
   ·exact .inr (by omega)
  ·exact .inr (by omega)
 ·rcases hx with e|e
  ·exact hRg e
  ·omega
 ·rcases hx with e|e
  ·exact hRr k hk e
  ·have:=(h.rts.lt k hk).2;omega
theorem CSM.cs0:CS w wr s.length D K g p wr:=by
 obtain⟨zs,h1,h2,h3⟩:=h.nm
 exact⟨zs,h1,h2,h3,Keeps.refl _ _⟩
theorem CSM.cs {p':Nat} {w':World} (k:CS w wr s.length D K g p' w'):CSM w b s r ln R D K rs g rv p' w':=by
 obtain⟨zs,h1,h2,h3,h4⟩:=k
 have hgl:=h.gl
 obtain⟨R',hA,hR,hRg,hRr⟩:=h.map
 have hsz:=h4.size
 refine⟨⟨zs,h1,h2,h3⟩,h.rts.keeps h4 (fun q hq e=>(h.rne q hq).1 e),⟨R',hA.keeps h4 (fun e=>h.gne e.symm) (fun x hx e=>hRg (e ▸ hx)),fun x hx=>?_,hRg,hRr⟩,h.kee.trans h4 (fun x hx e=>by omega),h.gne,h.rne⟩
 rcases hR x hx with e|e
 ·exact .inl e
 ·exact .inr (by omega)
end
def qmr (w:World) (b:Nat) (s:List Nat) (r ln:Nat) (R:Nat→Prop) (e:Ending) (w':World):Prop :=
 ∃ B b2 bp pv,e=.returned (.tuple #[.pointer (some ⟨b2,0,none⟩),.pointer (some ⟨bp,0,none⟩),.int .i64 0]) ∧
  MapAt w' b2 (catM ((kssOf s r).map decL)) 0 ln (fun x=>B≤x∧x<w'.heap.size∧x≠b2)∧B≤b2 ∧
  PermF w' bp pv (psL s.length (DA s (q0k s r)) (kssOf s r).flatten)∧w.heap.size≤bp∧bp<B∧(∀ k,pv.ownBlock=some k→w.heap.size≤k∧k<B) ∧
  (∃ R',MapAt w' b s r ln R'∧∀ x,R' x→x<bp∧(R x∨w.heap.size≤x))∧Keeps (fun k=>k=b) w w'
theorem qhq {w:World} {b:Nat} {s:List Nat} {r ln:Nat} {R:Nat→Prop} (h:MapAt w b s r ln R) (hn:0<s.length) (hg:genS (q0b s ln)=0) :
  Calls Tryz.prog 39 #[.pointer (some ⟨b,0,none⟩)] w (qmr w b s r ln R):=by
 have hr:r<s.length:=by
  rcases h.rt with⟨h0,_⟩|⟨_,h1⟩ <;> omega
 have hle:=h.le
 obtain⟨hCM,hD0⟩:=walks_all h.isP h.even hg hr
 have hDA:=DA_at s (q0k s r)
 have hrlt:∀ m r',(q0k s r)[m]? = some r'→r'<s.length:=fun m r' hm=>(qbp h.isP h.even hg hr).lt r' (List.mem_of_getElem? hm)
 have hks:∀ m r',(q0k s r)[m]? = some r'→(kssOf s r)[m]? = some (wK s r'):=fun m r' hm=>by unfold kssOf;rw[List.getElem?_map,hm];rfl
 have hall:offM (kssOf s r) (q0k s r).length=s.length:=by
  have h1:=qfb (kssOf s r)
  have h2:(kssOf s r).length=(q0k s r).length:=by simp[kssOf]
  rw[h2] at h1
  rw[h1,hCM.len]
 have hMl:(q0k s r).length≤s.length+1:=by
  have:=qgc s r (cldr s.length (sg s) s.length)
  rwa [q81 (Nat.le_refl _)] at this
 have htl:(catM ((kssOf s r).map decL)).length=s.length:=by rw[q0n,hCM.len]
 have htP:IsP s.length (sg (catM ((kssOf s r).map decL))):=by have:=q2q hCM.ok;rwa [htl] at this
 have HH:=Lib.hid h
 have HT:=Lib.hid (And.intro hCM (And.intro hD0 (And.intro htl htP)))
 have hoffk:offM (kssOf s r)=offM ((q0k s r).map (wK s)):=rfl
 rw[← hoffk] at hDA
 have hle':∀ m,offM (kssOf s r) m≤s.length:=fun m=>by have:=qi (l:=kssOf s r) (i:=m);rwa [hCM.len] at this
 have hsucc:∀ m r',(q0k s r)[m]? = some r'→offM (kssOf s r) (m+1)=offM (kssOf s r) m+wT s r':=fun m r' hm=>by rw[qbq (hks m r' hm),q8a]
 have hCA:CnA s.length (DA s (q0k s r)) (kssOf s r).flatten:=hCM.toCnA
 generalize hKK:(kssOf s r).flatten=K at *
 generalize hDD:DA s (q0k s r)=D at *
 generalize hOO:offM (kssOf s r)=O at *
 have hO0:O 0=0:=by rw[← hOO];rfl
 have HKD:=Lib.hid (And.intro hKK hDD)
 have HC:=Lib.hid (And.intro hDA (And.intro hrlt (And.intro hle' (And.intro hsucc hall))))
 have HCA:=Lib.hid hCA
 have ka:=(Keeps.refl (fun _=>False) w).alloc (.cells #[.int .i64 (-1)] 3)
 have hl0:OwnI w.heap.size (w.alloc (.cells #[.int .i64 (-1)] 3)) (.slice (some ⟨w.heap.size,0,none⟩) 1 1) [-1]:=by
  refine⟨rfl,.inr ⟨w.heap.size,1,#[.int .i64 (-1)],rfl,Nat.le_refl _,heap_alloc_new w _,Nat.le_refl _,by decide,?_,?_⟩⟩ <;> simp[ints]
 have h1:=h.keeps ka (fun h=>h) (fun _ _ h=>h)
 have hD:=q0g h1
 have hRp:=q6f (.slice (some ⟨w.heap.size,0,none⟩) 1 1) (-1) s.length _ hl0.sl (by omega)
 have HA:=Lib.hid ka
 clear h hCM hCA hD0 hDA hrlt hks hall htl htP hle' hsucc hoffk hg ka hl0 h1 hKK hDD hOO
 go_enter Tryz.func39,Tryz.ntmps39
 go_wp2_with fail
 refine hD.mono ?_
 rintro e w' ⟨rfl,rfl⟩
 clear hD
 go_wp2_with fail
 refine hRp.mono ?_
 rintro e w1 ⟨g,rfl,hM⟩
 clear hRp
 obtain⟨zs,hz1,rfl,hown,hk1⟩:=hM
 have k01:=HA.out.trans hk1 (fun _ _ h=>h)
 have hA1:=HH.out.keeps k01 (fun h=>h) (fun _ _ h=>h)
 have hRt:=qk6 hA1 hn
 have hgo:=hown.lt g rfl
 have H1:=Lib.hid (And.intro hown (And.intro k01 hgo))
 clear hz1 hown hk1 k01 hA1 hgo HA
 go_wp2_with fail
 refine hRt.mono ?_
 rintro e w2 ⟨rv,rfl,hrts,R2,hA2,hR2,hR2r,hk2⟩
 clear hRt
 have hw1:=H1.out.2.1.size
 have hgb:g≠b:=by have:=HH.out.lt;have:=H1.out.2.2.1;simp at this;omega
 have hgw:w.heap.size≤g:=by have:=H1.out.2.2.1;simp at this;omega
 have hX0:CSM w b s r ln R D K (q0k s r) g rv 0 w2:=by
  refine⟨⟨_,by simp,HCA.out.zeroJ,(H1.out.1.mono (fun k hk=>by simp only [Value.ownBlock,Option.some.injEq] at hk;omega)).keeps hk2 (fun q hq e=>by simp only [Value.ownBlock,Option.some.injEq] at hq;omega)⟩,hrts.mono (fun k hk=>by have:=(hrts.lt k hk).1;omega),⟨R2,hA2,fun x hx=>?_,fun e=>?_,hR2r⟩,(show Keeps (fun k=>k=b) w w1 from H1.out.2.1.mono (fun _ _ h=>h.elim)).trans hk2 (fun _ _ h=>h),hgb,fun k hk=>⟨fun e=>?_,fun e=>?_⟩⟩
  ·rcases hR2 x hx with e|e
   ·exact .inl e
   ·exact .inr (by omega)
  ·rcases hR2 g e with e|e
   ·have:=HH.out.old g e;omega
   ·have:=H1.out.2.2.2;omega
  ·have:=(hrts.lt k hk).1;have:=H1.out.2.2.2;omega
  ·have:=(hrts.lt k hk).1;have:=HH.out.lt;omega
 obtain⟨ra,rc,rfl,_,_⟩:=hrts.form
 rw[q02] at hX0 ⊢
 obtain⟨M,hM⟩:∃ M,M=(q0k s r).length:=⟨_,rfl⟩
 rw[← hM] at hX0 HC hMl ⊢
 have HM:=Lib.hid hM
 have HX:=Lib.hid hX0
 have HG0:=Lib.hid (And.intro hgb hgw)
 clear hrts hA2 hR2 hR2r hk2 hM hX0 hgb hgw hw1 H1
 go_wp2_with fail
 go_loopg [6,26] M (fun q c i wr=>∃ m c':Nat,m≤M∧q=M - m∧i=.int .i64 m∧c=.int .i64 c'∧c'=2 * oc K (O m)∧CSM w b s r ln R D K (q0k s r) g (.slice ra M rc) (O m) wr)
 case atStart=>exact⟨0,0,Nat.zero_le _,by omega,rfl,rfl,by rw[hO0];rfl,by rw[hO0];exact HX.out⟩
 case round =>
  clear HX
  obtain⟨m,c0,hm,hgk,rfl,rfl,hcc,hX⟩:=hrel
  have HGK:=Lib.hid hgk
  clear hgk
  by_cases hlt:m<M
  ·obtain⟨r',hr'⟩:∃ r',(q0k s r)[m]? = some r':=⟨_,List.getElem?_eq_getElem (by rw[← HM.out];exact hlt)⟩
   have hrl:=HC.out.2.1 m r' hr'
   obtain⟨rg,ro,rfl,hcell⟩:=hX.rts.sl.cellAt (q0i hr')
   obtain⟨R',hA,hR,hRg,hRr⟩:=hX.map
   have hWk:=walkOf_any hA hrl
   have hw:=fun w3 (hq:MapQ wr b s r ln R' w3)=>hX.walked hR hRg hRr hq
   have hgwr:=hX.gl.2
   have HW:=Lib.hid (And.intro hw (And.intro hr' hgwr))
   have HCC:=Lib.hid hcc
   clear hX hA hR hRg hRr hw hr' hcc hgwr
   go_wp2_with fail
   refine hWk.mono ?_
   rintro e w3 ⟨T,ov,rfl,hE,hT,hov,hq⟩
   have hX3:=HW.out.1 w3 hq
   have hTT:wT s r'=T:=hE.wT_eq
   have hDj:∀ j,j<T→D (O m+j)=(wlk (sg s) (vnum (sg s)) r' j).1:=fun j hj=>HC.out.1 m r' HW.out.2.1 j (by rw[hTT];exact hj)
   have hOm:O (m+1)=O m+T:=by rw[← hTT];exact HC.out.2.2.2.1 m r' HW.out.2.1
   have hOle:=HC.out.2.2.1 (m+1)
   have hat:∀ j,j<T→∃ kd,(wlk (sg s) (vnum (sg s)) r' T).2[j]? = some (D (O m+j),kd):=fun j hj=>⟨_,by rw[hDj j hj];exact q7d _ _ _ hj⟩
   have hlo:(wlk (sg s) (vnum (sg s)) r' T).2.length=T:=q0c _ _ _ _
   have hovg:∀ k,ov.ownBlock=some k→k≠g:=fun k hk=>by have:=(hov.lt k hk).1;have:=HW.out.2.2;omega
   have HE:=Lib.hid (show ∀ wr',CS w w3 s.length D K g (O (m+1)) wr'→CSM w b s r ln R D K (q0k s r) g (.slice (some ⟨rg,ro,none⟩) M rc) (O (m+1)) wr' from fun wr' hcs=>hX3.cs hcs)
   have hmt:∀ W,Keeps (fun k=>k=g) w3 W→∀ d,d<s.length→Calls Tryz.prog 86 #[.pointer (some ⟨b,0,none⟩),.int .i64 d] W fun e w'=>e=.returned (.int .i64 (mt d:Nat))∧W=w':=fun W hk d hd=>by
    obtain⟨R3,hA3,hs3,hg3,_⟩:=hX3.map
    exact q39 (hA3.keeps hk (fun e=>HG0.out.1 e.symm) (fun x hx e=>hg3 (e ▸ hx))) d hd
   have HMt:=Lib.hid hmt
   have hcs0:=hX3.cs0
   have hg3:=hX3.gl
   have hw23:=hq.2.size
   obtain⟨oa,oc',hov'⟩:=hov.form
   subst hov'
   rw[hlo] at hov hovg ⊢
   generalize hout:(wlk (sg s) (vnum (sg s)) r' T).2=out at *
   have HO:Hid (∀ W,Keeps (fun k=>k=g) w3 W→Own2 wr.heap.size W (.slice oa T oc') out):=Lib.hid (fun W hk=>hov.keeps hk (fun k hk e=>hovg k hk e))
   have HAT:=Lib.hid hat
   obtain⟨f,hf⟩:∃ f,f=O m:=⟨_,rfl⟩
   rw[← hf] at hcs0 hOm HAT HCC
   have HOm:=Lib.hid hOm
   have hfT:f+T≤s.length:=by omega
   have HG3:=Lib.hid hg3
   clear hWk hE hT hov hovg hq hX3 hTT hDj hOm hOle hat hlo hmt hf hout hg3
   generalize hnn:s.length=n at *
   have HN:=Lib.hid hnn
   clear hnn
   go_wp2_with fail
   go_loopg [6,38] T (fun q c i wr=>∃ j c':Nat,j≤T∧q=T - j∧i=.int .i64 j∧c=.int .i64 c'∧c'=2 * oc K (f+j)∧CS w w3 n D K g (f+j) wr)
   case atStart=>exact⟨0,c0,Nat.zero_le _,by omega,rfl,rfl,by rw[Nat.add_zero];exact HCC.out,by rw[Nat.add_zero];exact hcs0⟩
   case round =>
    clear hcs0
    obtain⟨j,c',hj2,hgk,rfl,rfl,hcc,hcs⟩:=hrel
    have HG:=Lib.hid hgk
    clear hgk
    have hcb:c'≤2 * n:=by
     have h1:=qbk K (show f+j≤n by omega)
     have h2:=HCA.out.wd.even
     rw[HCA.out.len] at h2
     omega
    by_cases hlt2:j<T
    ·have hkg:Keeps (fun k=>k=g) w3 wr:=by obtain⟨_,_,_,_,hk⟩:=id hcs;exact hk
     obtain⟨kd,hgt⟩:=HAT.out j hlt2
     obtain⟨gv,cap,hv,hce1,hce2⟩:=(HO.out wr hkg).cell hgt
     simp only [Value.slice.injEq] at hv
     obtain⟨rfl,-,rfl⟩:=hv
     simp only at hce1 hce2
     obtain⟨p,hp⟩:∃ p,p=f+j:=⟨_,rfl⟩
     rw[← hp] at hce1 hcs hcc
     have hpn:p<n:=by omega
     have kal:=(Keeps.refl (fun _=>False) wr).alloc (.cells #[.int .i64 (D p),.int .i64 kd] 142)
     have hcs2:=hcs.still kal
     have hDl:=HCA.out.dP.lt p hpn
     have hml:mt (D p)<n:=by rw[← HCA.out.mates p hpn];exact HCA.out.dP.lt _ (by have:=HCA.out.wd.mp_lt (i:=p) (by rw[HCA.out.len];exact hpn);rw[HCA.out.len] at this;exact this)
     have hMt:=fun W hk=>HMt.out W hk (D p) hDl
     rcases HCA.out.mate_lt hpn with⟨_,hmm⟩|⟨_,hmm⟩
     ·have hmpl:mp K p<n:=by have:=HCA.out.wd.mp_lt (i:=p) (by rw[HCA.out.len];exact hpn);rw[HCA.out.len] at this;exact this
      obtain⟨hc5,hf5⟩:=hcs2.cell hpn
      rw[if_neg (by omega)] at hc5
      obtain⟨hc6,hf6⟩:=hcs2.cell hmpl
      rw[HCA.out.mates p hpn] at hc6 hf6
      have hne:D p≠mt (D p):=fun e=>mt_ne _ e.symm
      obtain⟨hnm,hoc⟩:=HCA.out.next_even hpn hmm
      have kdr:=(Keeps.refl (fun _=>False) (wr.alloc (.cells #[.int .i64 (D p),.int .i64 kd] 142))).drew
      have hstp0:=hcs.step HCA.out hpn hmm
      have hstp:=hstp0.still (((Keeps.refl (fun _=>False) _).alloc (.cells #[.int .i64 (D p),.int .i64 kd] 142)).drew)
      have hMt1:=hMt (wr.alloc (.cells #[.int .i64 (D p),.int .i64 kd] 142)).drew (hkg.trans (kal.trans kdr (fun _ _ h=>h)) (fun _ _ h=>h.elim))
      have hgr:g<wr.heap.size:=by have:=HG3.out.2;have:=hkg.size;omega
      rw[hnm,← hcc] at hstp
      have HF:=Lib.hid (And.intro hoc hstp)
      have HCC2:=Lib.hid (And.intro hcc hp)
      have hcn:c'≤300000:=by omega
      have kset:=((Keeps.refl (fun _=>False) (wr.setCell ⟨g,D p,none⟩ (.int .i64 (c':Int)))).alloc (.cells #[.int .i64 (D p),.int .i64 kd] 142)).drew
      obtain⟨hc7,hf7⟩:=hcs.other hmpl (d:=D p) (by rw[HCA.out.mates p hpn];exact hne) c' kset
      obtain⟨hc8,hf8⟩:=hcs.cell hmpl
      obtain⟨hc9,hf9⟩:=hcs.cell hpn
      rw[if_neg (by omega)] at hc9
      rw[HCA.out.mates p hpn] at hc7 hf7 hc8 hf8
      clear hcs hcs2 hoc hgt kal hkg hcc hMt hnm kdr hstp hstp0 kset hp
      generalize (if mp K p<p∨mp K (mp K p)<p then (nmD K (mp K p):Int) else -1)=z6 at *
      generalize mt (D p)=mj at *
      generalize D p=dj at *
      have hb0:=heap_alloc_new wr (.cells #[.int .i64 (dj:Int),.int .i64 kd] 142)
      have hb1:(wr.alloc (.cells #[.int .i64 (dj:Int),.int .i64 kd] 142)).drew.cell? ⟨wr.heap.size,0,none⟩=some (.int .i64 dj):=World.cell_of_heap hb0 0
      have hbA:∀ W0:World,W0.heap.size=wr.heap.size→(W0.alloc (.cells #[.int .i64 (dj:Int),.int .i64 kd] 142)).drew.cell? ⟨wr.heap.size,0,none⟩=some (.int .i64 dj):=by
       intro W0 hW0
       have h5:=heap_alloc_new W0 (.cells #[.int .i64 (dj:Int),.int .i64 kd] 142)
       rw[hW0] at h5
       exact World.cell_of_heap h5 0
      have hwr1:IntKind.i64.wrap ((c':Int)+1)=(c':Int)+1:=IntWalk.i64_in _ (by omega)
      go_wp2_with fail
      go_region_held3 (fun w'=>w'.cell? ⟨wr.heap.size,0,none⟩=some (.int .i64 dj)) (first|exact hb1|exact hbA _ (by simp)) (first | (go_at_call 86;refine hMt1.mono ?_;rintro e w' ⟨rfl,rfl⟩))
      clear hc5 hc6 hf5 hf6 hc7 hf7 hc8 hf8 hc9 hf9 hMt1 hb0 hb1 hbA hwr1
      go_wp2
      go_roundg (T - (j+1))
      case measure=>rw[HG.out];omega
      case rel=>exact⟨j+1,c'+2,by omega,rfl,by go_num,by go_num,by rw[← Nat.add_assoc,← HCC2.out.2,HF.out.1,HCC2.out.1];omega,by rw[← Nat.add_assoc,← HCC2.out.2];exact HF.out.2⟩
     ·have hc5:=(hcs2.cell hpn).1
      rw[if_pos (.inr hmm)] at hc5
      have hq1:decide (((nmD K p:Nat):Int)<0)=false:=decide_eq_false (by omega)
      have hoc:=HCA.out.next_odd hpn hmm
      have HF:=Lib.hid (And.intro hoc (hcs2.keep HCA.out hpn hmm))
      have HCC2:=Lib.hid (And.intro hcc hp)
      have hcs0':=hcs
      clear hcs hcs2 hoc hMt hgt kal hkg hcc hcs0' hp
      generalize nmD K p=nm at *
      generalize D p=dj at *
      go_wp2
      go_roundg (T - (j+1))
      case measure=>rw[HG.out];omega
      case rel=>exact⟨j+1,c',by omega,rfl,by go_num,rfl,by rw[← Nat.add_assoc,← HCC2.out.2,HF.out.1,HCC2.out.1],by rw[← Nat.add_assoc,← HCC2.out.2];exact HF.out.2⟩
    ·obtain rfl:j=T:=by omega
     have HFin:=Lib.hid (And.intro hcc (HE.out wr (by rw[HOm.out];exact hcs)))
     clear hcs hcc
     go_wp2
     go_roundg (M - (m+1))
     case measure=>rw[HGK.out];omega
     case rel=>exact⟨m+1,c',by omega,rfl,by go_num,rfl,by rw[HOm.out];exact HFin.out.1,HFin.out.2⟩
  ·obtain rfl:m=M:=by omega
   have hOM:=HC.out.2.2.2.2
   obtain⟨zs,z1,z2,z3⟩:=hX.nm
   rw[hOM] at z2 hcc
   have:=HCA.out.doneJ z1 z2
   subst this
   have hpo:=q4j (.slice (some ⟨g,0,none⟩) s.length s.length) (psL s.length D K) wr z3.sl (by rw[q2l];exact HCA.out.ps_isP) (by rw[q2l];omega)
   have hcn:c0=s.length:=by
    have h2:=HCA.out.wd
    have h3:=qm4 h2
    rw[HCA.out.len] at h3
    omega
   have hq0:((c0:Int) == 0)=false:=by rw[beq_eq_false_iff_ne];omega
   have HX:=Lib.hid hX
   clear hX z1 z2 z3 hcc hcn hOM
   go_wp2_with fail
   refine hpo.mono ?_
   clear hpo
   rintro e w6 ⟨bp,pv,rfl,hPF,hbp,hpv,hk6⟩
   obtain⟨R',hA,hR,hRg,hRr⟩:=HX.out.map
   have hA6:=hA.keeps hk6 (fun h=>h) (fun _ _ h=>h)
   obtain⟨hCM,hD0,htl,htP⟩:=HT.out
   have hwr:=HX.out.kee.size
   have htn:∀ d,d<s.length→sg (catM ((kssOf s r).map decL)) (sg (psL s.length D K) d)=sg (psL s.length D K) (sg s d):=fun d hd=>by
    have:=hCM.ps_turn hd
    rwa [HKD.out.1] at this
   have hrl:=q87 (t:=catM ((kssOf s r).map decL)) hA6 hPF.1 hn (q2l _ _ _) HCA.out.ps_isP (fun d hd=>HCA.out.ps_mate hd) htl htn htP
   have hrt:sg (psL s.length D K) r=0:=by
    have:=hCM.ps_root hn
    rwa [HKD.out.1,hD0] at this
   rw[hrt] at hrl
   have HOld:=Lib.hid (show ∀ x,R' x→x<wr.heap.size from hA.old)
   have HS:=Lib.hid (And.intro hPF (And.intro hbp (And.intro hpv (And.intro hk6 (And.intro hA6 hR)))))
   clear hPF hbp hpv hk6 hA hR hRg hRr hA6 hCM hD0 htl htP htn hrt
   go_wp2_with fail
   refine hrl.mono ?_
   rintro e w7 ⟨b2,rfl,hA7,hb2,hk7⟩
   obtain⟨hPF,hbp,hpv,hk6,hA6,hR⟩:=HS.out
   have s1:=hk6.size
   have s2:=hk7.size
   have hbp6:=hPF.1.lt
   have hold:=HOld.out
   have HZ:Hid (MapAt w7 b2 (catM ((kssOf s r).map decL)) 0 ln (fun x=>w6.heap.size≤x∧x<w7.heap.size∧x≠b2)∧w6.heap.size≤b2 ∧
     PermF w7 bp pv (psL s.length (DA s (q0k s r)) (kssOf s r).flatten)∧w.heap.size≤bp∧bp<w6.heap.size∧(∀ k,pv.ownBlock=some k→w.heap.size≤k∧k<w6.heap.size) ∧
     (∃ R',MapAt w7 b s r ln R'∧∀ x,R' x→x<bp∧(R x∨w.heap.size≤x))∧Keeps (fun k=>k=b) w w7) :=
    Lib.hid ⟨hA7,hb2,by rw[HKD.out.1,HKD.out.2];exact hPF.keeps hk7 (fun h=>h) (fun _ _ h=>h),by omega,hbp6,fun k hk=>⟨by have:=hpv k hk;omega,(hPF.1.2.2 k hk).2⟩,⟨R',hA6.keeps hk7 (fun h=>h) (fun _ _ h=>h),fun x hx=>⟨by have:=hold x hx;omega,(hR x hx).imp id (fun h=>h.1)⟩⟩,(HX.out.kee.trans hk6 (fun _ _ h=>h.elim)).trans hk7 (fun _ _ h=>h.elim)⟩
   clear hrl hA7 hb2 hk7 hPF hbp hpv hk6 hA6 hR s1 s2 hbp6 hold
   go_wp2
   refine bodyPost_ret (v:=.tuple #[.pointer (some ⟨b2,0,none⟩),.pointer (some ⟨bp,0,none⟩),.int .i64 0]) (by simp[results,Tryz.results39,go_sem]) rfl ?_
   exact⟨w6.heap.size,b2,bp,pv,rfl,HZ.out⟩
end Go.Proofs.YtcfdpogegngplaaGreat
