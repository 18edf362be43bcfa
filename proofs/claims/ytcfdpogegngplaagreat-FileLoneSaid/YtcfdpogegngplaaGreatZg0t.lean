import Derived.Test.YtcfdpogegngplaaGreatZg0k
set_option maxRecDepth 100000
set_option maxHeartbeats 4000000
namespace Go.Proofs.YtcfdpogegngplaaGreat
open Go.RowKit
noncomputable def jO(s:List Nat):List Nat:=(List.range s.length).map (gQ (sg s))
theorem q96(s:List Nat):(jO s).length=s.length:=by simp[jO]
def Ol(w:World)(b:Nat)(sv c1 c2 c3:Value)(s:List Nat)(g j:Nat)(wr:World):Prop :=
 ∃ zs,sU s j zs∧aF w.heap.size wr (.slice (some ⟨g,0,none⟩) s.length s.length) zs∧wr.heap[b]? = some (.cells #[sv,c1,c2,c3,.slice (some ⟨g,0,none⟩) s.length s.length] 180 (0,0))∧Sl .i64 wr sv (aB s)∧Keeps (fun k=>k=b) w wr
theorem Ol.step{w:World}{b:Nat}{sv c1 c2 c3:Value}{s:List Nat}{g j:Nat}{wr:World}(h:Ol w b sv c1 c2 c3 s g j wr)(hP:aM s.length (sg s))(hj:j<s.length)(hgb:g≠b)(hgs:sv.ownBlock≠some g):Ol w b sv c1 c2 c3 s g (j+1) (wr.setCell ⟨g,sg s j,none⟩ (.int .i64 (j:Int))):=by
 obtain⟨zs,h1,h2,h3,h4,h5⟩:=h
 have hl:=h2.lt g rfl
 have k:Keeps (fun k=>k=g) wr (wr.setCell ⟨g,sg s j,none⟩ (.int .i64 (j:Int))):=(Keeps.refl (fun k=>k=g) wr).setCell (p:=⟨g,sg s j,none⟩) (.inl rfl) _
 refine⟨_,h1.step hP hj,h2.set _ _,k.at h3 (fun e=>hgb e.symm),h4.keeps k (fun q hq e=>hgs (by rw[← e];exact hq)),h5.trans k (fun x hx e=>?_)⟩
 subst e
 omega
theorem qdf(b:Nat)(sv c1 c2 c3 c4:Value)(s:List Nat)(w:World)(hb:w.heap[b]? = some (.cells #[sv,c1,c2,c3,c4] 180 (0,0)))(hs:Sl .i64 w sv (aB s))(hv:∀ k,sv.ownBlock=some k→k≠b∧k<w.heap.size)(hP:aM s.length (sg s))(hl:s.length≤1000000) :
  Calls Tryz.prog 143 #[.pointer (some ⟨b,0,none⟩)] w fun e w'=>e=.returned (.tuple #[])∧∃ g,w'.heap[b]? = some (.cells #[sv,c1,c2,c3,.slice (some ⟨g,0,none⟩) s.length s.length] 180 (0,0))∧aF w.heap.size w' (.slice (some ⟨g,0,none⟩) s.length s.length) (aB (jO s))∧Keeps (fun k=>k=b) w w':=by
 have h0:w.cell? ⟨b,0,none⟩=some sv:=ak hb 0
 have hbl:=lt_of_block hb
 have kb:Keeps (fun k=>k=b) w (w.setCell ⟨b,4,none⟩ (.slice (some ⟨w.heap.size,0,none⟩) s.length s.length)):=(Keeps.refl (fun k=>k=b) w).setCell (p:=⟨b,4,none⟩) (.inl rfl) _
 have Om:(w.setCell ⟨b,4,none⟩ (.slice (some ⟨w.heap.size,0,none⟩) s.length s.length)).heap.size=w.heap.size:=by simp
 have ka:=(Keeps.refl (fun _=>False) (w.setCell ⟨b,4,none⟩ (.slice (some ⟨w.heap.size,0,none⟩) s.length s.length))).alloc (.cells (madeCells #[.int .i64 0] s.length) 3)
 have hown:=aF.made w.heap.size (w.setCell ⟨b,4,none⟩ (.slice (some ⟨w.heap.size,0,none⟩) s.length s.length)) s.length (by omega) (by omega)
 rw[Om] at hown
 have hc4:w.cell? ⟨b,4,none⟩=some c4:=ak hb 4
 have Vl:=au hb 4
 have R7:=ka.at (dM hb 4 (.slice (some ⟨w.heap.size,0,none⟩) s.length s.length)) (fun h=>h)
 have hT0:Ol w b sv c1 c2 c3 s w.heap.size 0 ((w.setCell ⟨b,4,none⟩ (.slice (some ⟨w.heap.size,0,none⟩) s.length s.length)).alloc (.cells (madeCells #[.int .i64 0] s.length) 3)) :=
  ⟨_,⟨by simp,fun i hi=>by omega⟩,hown,R7,(hs.keeps kb (fun q hq e=>(hv q hq).1 e)).keeps ka (fun _ _ h=>h),kb.trans ka (fun _ _ h=>h.elim)⟩
 have HP:=ah (aj hP (aj hbl hv))
 obtain⟨i,hi,hz0,hz1,hz2⟩:=info_parts pU
 have hmk:=fun w=>run_make (P:=Tryz.prog) w 25 3 i _ Tryz.underlying25 hi hz0 .i64 .i64 (s.length:Int) (s.length:Int) (by omega) (Int.le_refl _) (by rw[hz2];omega) (by omega)
 simp only [hz1,Int.toNat_natCast,Nat.mul_one] at hmk
 obtain⟨a,cap,rfl,hnc,hcm⟩:=hs.form
 rw[q01] at h0 hnc hT0
 clear hP hs hi hz0 hz1 hz2 hb hown ka kb R7 Om
 go_enter Tryz.func143,Tryz.ntmps143
 go_upto_region 1 with fail
 clear hmk hc4 Vl
 generalize Dh:World.alloc _ _=wM at *
 clear Dh h0
 have h0:wM.cell? ⟨b,0,none⟩=some (.slice a s.length cap):=by
  obtain⟨_,_,_,h3,_⟩:=hT0
  have:=ak h3 0
  simpa [q01] using this
 go_wp2_with fail
 clear h0
 go_loopg [18] s.length (fun m iv wr=>∃ j:Nat,j≤s.length∧m=s.length - j∧iv=.int .i64 j∧Ol w b (.slice a s.length cap) c1 c2 c3 s w.heap.size j wr)
 case atStart=>exact⟨0,Nat.zero_le _,by omega,rfl,hT0⟩
 case round =>
  clear hT0
  obtain⟨j,hj,aN,rfl,hT⟩:=hrel
  have HG:=ah aN
  clear aN
  by_cases hlt:j<s.length
  ·obtain⟨zs,z1,z2,z3,z4,z5⟩:=id hT
   obtain⟨g,off,rfl,hcell⟩:=z4.cellAt (zC hlt)
   have hc4:=ak z3 4
   have hxl:=HP.out.1.lt j hlt
   obtain⟨zx,hzx⟩:∃ zx,zs[sg s j]? = some zx:=⟨_,List.getElem?_eq_getElem (by rw[z1.1];exact hxl)⟩
   obtain⟨hcx,hfx⟩:=z2.cell hzx
   have hT':=hT.step HP.out.1 hlt (by have:=HP.out.2.1;omega) (fun e=>by have:=(HP.out.2.2 _ e).2;omega)
   have HF:=ah hT'
   clear hT hT' z1 z2 z3 z4 z5 hzx
   generalize sg s j=x at *
   go_wp2
   go_roundg (s.length - (j+1))
   case measure=>rw[HG.out];omega
   case rel=>exact⟨j+1,by omega,rfl,by go_num,HF.out⟩
  ·obtain rfl:j=s.length:=by omega
   obtain⟨zs,z1,z2,z3,z4,z5⟩:=hT
   have:=z1.done HP.out.1
   subst this
   have HF:=ah (aj z3 (aj z2 z5))
   clear z1 z2 z3 z4 z5
   go_wp2
   refine bodyPost_end (results_none rfl _ _ _) rfl ?_
   refine⟨rfl,_,?_,HF.out.2⟩
   rw[q01]
   exact HF.out.1
theorem qk9(b:Nat)(W:World):(callFunc 143 #[.pointer (some ⟨b,0,none⟩)]).run Tryz.prog W=.ok (.enter 143 #[.pointer (some ⟨b,0,none⟩)]) W:=by
 go_simp
theorem q97(b:Nat)(sv:Value)(s:List Nat)(w:World)(h:iw w b sv s)(hP:aM s.length (sg s))(hl:s.length≤1000000) :
  Calls Tryz.prog 102 #[.pointer (some ⟨b,0,none⟩)] w fun e w'=>∃ b2 zR,e=.returned (.pointer (some ⟨b2,0,none⟩))∧iw w' b2 zR (jO s)∧w.heap.size≤b2∧(∀ k,zR.ownBlock=some k→w.heap.size≤k)∧Keeps (fun k=>k=b) w w':=by
 obtain⟨⟨_,hs,hv⟩,hb⟩:=h
 have hbl:=lt_of_block hb
 have c1:w.cell? ⟨b,1,none⟩=some (.int .u32 0):=ak hb 1
 have c2:w.cell? ⟨b,2,none⟩=some (.int .i32 0):=ak hb 2
 have hb0:=dM hb 2 (.int .i32 1)
 have k0:Keeps (fun k=>k=b) w (w.setCell ⟨b,2,none⟩ (.int .i32 1)):=(Keeps.refl (fun k=>k=b) w).setCell (p:=⟨b,2,none⟩) (.inl rfl) _
 have hT:=qdf b sv (.int .u32 0) (.int .i32 1) (.int .u32 0) (.slice none 0 0) s _ hb0 (hs.keeps k0 (fun q hq e=>(hv q hq).1 e)) (fun q hq=>⟨(hv q hq).1,by have:=(hv q hq).2;simpa using this⟩) hP hl
 have hsz:(w.setCell ⟨b,2,none⟩ (.int .i32 1)).heap.size=w.heap.size:=by simp
 rw[hsz] at hT
 have KP:=Qo b 1 143 #[.pointer (some ⟨b,0,none⟩)] (fun w1=>∃ g,w1.heap[b]? = some (.cells #[sv,.int .u32 0,.int .i32 1,.int .u32 0,.slice (some ⟨g,0,none⟩) s.length s.length] 180 (0,0))∧aF w.heap.size w1 (.slice (some ⟨g,0,none⟩) s.length s.length) (aB (jO s))∧Keeps (fun k=>k=b) (w.setCell ⟨b,2,none⟩ (.int .i32 1)) w1) w (qk9 b) c1 c2 (au hb _) (hT.mono (by
  rintro e w1 ⟨rfl,hm⟩
  obtain⟨g,z1,z2,z3⟩:=id hm
  exact⟨rfl,ak z1 1,ak z1 2,au z1 _,au z1 _,hm⟩))
 have HK:=ah (aj k0 hbl)
 clear hT hb0 k0 hs hv c1 c2 hsz hb
 go_enter Tryz.func102,Tryz.ntmps102
 go_wp2_with fail
 refine KP.mono ?_
 clear KP
 rintro e w2 ⟨rfl,w1,⟨g,z1,z2,z3⟩,rfl⟩
 have z1':w1.drew.heap[b]? = _:=z1
 have y1:=dM z1' 1 (.int .u32 1)
 have y2:=dM y1 2 (.int .i32 0)
 have kS:Keeps (fun k=>k=b) w1 ((w1.drew.setCell ⟨b,1,none⟩ (.int .u32 1)).setCell ⟨b,2,none⟩ (.int .i32 0)):=((Keeps.refl (fun k=>k=b) w1).drew.setCell (p:=⟨b,1,none⟩) (.inl rfl) _).setCell (p:=⟨b,2,none⟩) (.inl rfl) _
 have kk:=(HK.out.1.trans z3 (fun _ _ h=>h)).trans kS (fun _ _ h=>h)
 have ho:=z2.keeps kS (fun q hq e=>by have:=(z2.lt q hq).1;have:=HK.out.2;omega)
 have y4:=ak y2 4
 generalize hwS:(w1.drew.setCell ⟨b,1,none⟩ (.int .u32 1)).setCell ⟨b,2,none⟩ (.int .i32 0)=wS at *
 have hC:=Vr (.slice (some ⟨g,0,none⟩) s.length s.length) (aB (jO s)) wS ho.sl (by rw[q01,q96];omega)
 have HS:=ah kk
 clear z1 z1' z2 z3 y1 y2 kS kk ho hwS
 go_wp2_with fail
 refine hC.mono ?_
 clear hC
 rintro e w3 ⟨v,rfl,hown,hk3⟩
 have k4:=(Keeps.refl (fun _=>False) w3).alloc (.cells #[v,.int .u32 0,.int .i32 0,.int .u32 0,.slice none 0 0] 180)
 have hb3:=heap_alloc_new w3 (.cells #[v,.int .u32 0,.int .i32 0,.int .u32 0,.slice none 0 0] 180)
 have hs3:=HS.out.size
 have hs4:=hk3.size
 have HF:Hid (iw (w3.alloc (.cells #[v,.int .u32 0,.int .i32 0,.int .u32 0,.slice none 0 0] 180)) w3.heap.size v (jO s)∧w.heap.size≤w3.heap.size∧(∀ k,v.ownBlock=some k→w.heap.size≤k)∧Keeps (fun k=>k=b) w (w3.alloc (.cells #[v,.int .u32 0,.int .i32 0,.int .u32 0,.slice none 0 0] 180))) :=
  ah ⟨⟨⟨⟨_,_,_,_,hb3⟩,(hown.keeps k4 (fun _ _ h=>h)).sl,fun k hk=>by have:=(hown.lt k hk).2;simp;omega⟩,hb3⟩,by omega,fun k hk=>by have:=(hown.lt k hk).1;omega,(HS.out.trans hk3 (fun _ _ h=>h.elim)).trans k4 (fun _ _ h=>h.elim)⟩
 obtain⟨va,vc,rfl,_,_⟩:=hown.form
 clear hown hk3 k4 hb3 hs3 hs4
 go_wp2
 go_ret
 exact⟨_,_,rfl,HF.out⟩
