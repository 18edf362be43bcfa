import Derived.Test.YtcfdpogegngplaaGreatZg0j
set_option maxRecDepth 100000
set_option maxHeartbeats 4000000
namespace Go.Proofs.YtcfdpogegngplaaGreat
section
open Go.RowKit
def Bv(P:Nat→Nat)(t:List Nat)(j:Nat)(zs:List Int):Prop:=∀ i,i<j→zs[P i]? = some ((sg t (P i):Nat):Int)
theorem Bv.step{n:Nat}{P:Nat→Nat}{t:List Nat}{j:Nat}{zs:List Int}(hP:aM n P)(hj:j<n)(hl:zs.length=n)(h:Bv P t j zs):Bv P t (j+1) (zs.set (P j) ((sg t (P j):Nat):Int)):=fun i hi=>by
 rw[List.getElem?_set]
 by_cases e:P j=P i
 ·rw[if_pos e,if_pos (by rw[hl];exact hP.lt _ hj),e]
 ·rw[if_neg e]
  have:i≠j:=fun x=>e (by rw[x])
  exact h i (by omega)
theorem Bv.done{n:Nat}{P:Nat→Nat}{t:List Nat}{zs:List Int}(hP:aM n P)(ht:t.length=n)(hl:zs.length=n)(h:Bv P t n zs):zs=aB t:=by
 apply List.ext_getElem?
 intro i
 rcases Nat.lt_or_ge i n with hi|hi
 ·have h1:=h (gQ P i) (hP.bC hi)
  rw[hP.bS hi] at h1
  rw[h1,zC (by omega)]
 ·rw[List.getElem?_eq_none (by omega),List.getElem?_eq_none (by rw[q01];omega)]
theorem q8y{w:World}{b bp:Nat}{s ps t:List Nat}{r l:Nat}{R:Nat→Prop}{sv:Value}(h:MapAt w b s r l R)(hp:PermAt w bp sv ps)(hn:0<s.length)(hpl:ps.length=s.length)(hP:aM s.length (sg ps))
  (hm:∀ d,d<s.length→sg ps (mt d)=mt (sg ps d))(htl:t.length=s.length)(ht:∀ d,d<s.length→sg t (sg ps d)=sg ps (sg s d))(hT:aM s.length (sg t)) :
  Calls Tryz.prog 87 #[.pointer (some ⟨b,0,none⟩),.pointer (some ⟨bp,0,none⟩)] w (dx w t ((sg ps r:Nat):Int) l):=by
 have hr:r<s.length:=by
  rcases h.rt with⟨h0,_⟩|⟨_,h1⟩ <;> omega
 have hle:=h.le
 have hln:=h.ln
 have hev:=h.even
 have HH:Hid (∀ W,Keeps (fun _=>False) w W→MapAt W b s r l R∧PermAt W bp sv ps):=ah (fun W hk=>⟨h.keeps hk (fun h=>h) (fun _ _ h=>h),hp.keeps hk (fun h=>h) (fun _ _ h=>h)⟩)
 have hS:∀ d,d<s.length→sg s d<s.length:=fun d hd=>h.dH.lt d hd
 have HT:=ah (aj ht (aj hT (aj hP (aj hm hS))))
 obtain⟨n,hnn⟩:∃ n,n=s.length:=⟨_,rfl⟩
 have hD:=vM h
 have hL:=Hu bp sv ps w hp
 rw[hpl,← hnn] at hL
 rw[← hnn] at hD
 have HN:=ah hnn
 rw[← hnn] at hle hr hn hev
 clear h hp ht hT hP hm hS hnn
 obtain⟨i,hi,hz0,hz1,hz2⟩:=info_parts pU
 have hmk:=fun w=>run_make (P:=Tryz.prog) w 25 3 i _ Tryz.underlying25 hi hz0 .i64 .i64 (n:Int) (n:Int) (by omega) (Int.le_refl _) (by rw[hz2];omega) (by omega)
 simp only [hz1,Int.toNat_natCast,Nat.mul_one] at hmk
 have h0:=aO.made w n (Bv (sg ps) t 0) (fun i hi=>by omega) (by omega)
 clear hi hz0 hz1 hz2
 go_enter Tryz.func87,Tryz.ntmps87
 go_wp2_with fail
 refine hL.mono ?_
 rintro e w' ⟨rfl,rfl⟩
 go_wp2_with fail
 refine hD.mono ?_
 rintro e w' ⟨rfl,rfl⟩
 go_wp2_with fail
 refine hD.mono ?_
 rintro e w' ⟨rfl,rfl⟩
 clear hD hL
 go_wp2_with fail
 clear hmk
 obtain⟨g,hg⟩:∃ g,g=w.heap.size:=⟨_,rfl⟩
 rw[← hg] at h0
 rw[← hg]
 generalize World.alloc _ _=wM at *
 have NA:=ah hg
 clear hg
 go_loopg [26] n (fun m i wr=>∃ j:Nat,j≤n∧m=n - j∧i=.int .i64 j∧aO w g n (Bv (sg ps) t j) wr)
 case atStart=>exact⟨0,Nat.zero_le _,rfl,rfl,h0⟩
 case round =>
  clear h0
  obtain⟨j,hj,aN,rfl,hM⟩:=hrel
  have HG:=ah aN
  clear aN
  by_cases hlt:j<n
  ·have hjs:j<s.length:=by rw[← HN.out];exact hlt
   obtain⟨hA,hp⟩:=HH.out wr (by obtain⟨_,_,_,_,hk⟩:=id hM;exact hk)
   have hml:mt j<s.length:=aU (by rw[← HN.out];exact hev) hjs
   have hx:=JV j (by omega)
   obtain⟨P,Ko⟩:∃ P,P=sg ps j:=⟨_,rfl⟩
   have nM:P<n:=by rw[Ko,HN.out];exact HT.out.2.2.1.lt _ hjs
   have hx2:=JV P (by omega)
   have c1:=Hw bp sv ps (mt j) wr hp (by omega)
   have c2:=Hw bp sv ps j wr hp (by omega)
   have c3:=JW hA j hjs
   have hsl:=HT.out.2.2.2.2 j hjs
   have c4:=Hw bp sv ps (sg s j) wr hp (by omega)
   rw[HT.out.2.2.2.1 j hjs,← Ko] at c1
   rw[← Ko] at c2
   rw[← HT.out.1 j hjs,← Ko] at c4
   obtain⟨z,_,hc,hf⟩:=hM.cell P nM
   have HS:=ah (hM.set (Q:=Bv (sg ps) t (j+1)) P ((sg t P:Nat):Int) (fun zs hzl h=>by rw[Ko];exact Bv.step HT.out.2.2.1 hjs (by rw[hzl,HN.out]) h))
   clear hM hA hp Ko hml hsl
   generalize sg t P=x at *
   generalize sg s j=y at *
   generalize mt j=u at *
   generalize mt P=v at *
   go_wp2_with fail
   refine c1.mono ?_
   rintro e w' ⟨rfl,rfl⟩
   go_wp2_with fail
   refine c2.mono ?_
   rintro e w' ⟨rfl,rfl⟩
   go_wp2_with fail
   refine c2.mono ?_
   rintro e w' ⟨rfl,rfl⟩
   go_wp2_with fail
   refine c3.mono ?_
   rintro e w' ⟨rfl,rfl⟩
   go_wp2_with fail
   refine c4.mono ?_
   rintro e w' ⟨rfl,rfl⟩
   clear c1 c2 c3 c4
   go_wp2
   go_roundg (n - (j+1))
   case measure=>rw[HG.out];omega
   case rel=>exact⟨j+1,by omega,rfl,by go_num,HS.out⟩
  ·obtain rfl:j=n:=by omega
   obtain⟨zs,hz1,hz2,hz3,hk2⟩:=id hM
   have VH:=Bv.done (n:=j) (by rw[HN.out];exact HT.out.2.2.1) (by rw[HN.out];exact htl) hz1 hz2
   subst VH
   obtain⟨hA,hp⟩:=HH.out wr hk2
   have cR:=VE hA
   have cL:=Rj hA
   have cP:=Hw bp sv ps r wr hp (by have:=HN.out;omega)
   have hrl:sg ps r<t.length:=by rw[htl];exact HT.out.2.2.1.lt _ (by have:=HN.out;omega)
   have cN:=VG (.slice (some ⟨g,0,none⟩) j j) t (sg ps r) l wr hz3.sl (by rw[htl];exact HT.out.2.1) (by rw[htl,← HN.out];exact hev) hrl (by rw[htl,← HN.out];exact hle) (by omega)
   have HK:=ah hk2
   clear hM hz1 hz2 hz3 hk2 hA hp
   generalize sg ps r=x at *
   go_wp2_with fail
   refine cR.mono ?_
   rintro e w' ⟨rfl,rfl⟩
   go_wp2_with fail
   refine cP.mono ?_
   rintro e w' ⟨rfl,rfl⟩
   go_wp2_with fail
   refine cL.mono ?_
   rintro e w' ⟨rfl,rfl⟩
   clear cR cP cL
   go_wp2_with fail
   refine cN.mono ?_
   rintro e w3 hm
   have hm2:=hm.base HK.out
   obtain⟨b2,rfl,h2⟩:=hm2
   have H2:=ah h2
   clear cN hm h2
   go_wp2
   go_ret2
   exact⟨b2,rfl,H2.out⟩
end
section
open Go.RowKit
def CS(w w3:World)(n:Nat)(D:Nat→Nat)(ks:List Nat)(g j:Nat)(wr:World):Prop :=
 ∃ zs,zs.length=n∧CJ n D ks j zs∧aF w.heap.size wr (.slice (some ⟨g,0,none⟩) n n) zs∧Keeps (fun k=>k=g) w3 wr
theorem CS.still{w w3 wr w':World}{n:Nat}{D:Nat→Nat}{ks:List Nat}{g j:Nat}(h:CS w w3 n D ks g j wr)(k:Keeps (fun _=>False) wr w'):CS w w3 n D ks g j w':=by
 obtain⟨zs,h1,h2,h3,h4⟩:=h
 exact⟨zs,h1,h2,h3.keeps k (fun _ _ h=>h),h4.trans k (fun _ _ h=>h.elim)⟩
theorem CS.cell{w w3 wr:World}{n:Nat}{D:Nat→Nat}{ks:List Nat}{g j i:Nat}(h:CS w w3 n D ks g j wr)(hi:i<n):wr.cell? ⟨g,D i,none⟩=some (.int .i64 (if i<j∨mp ks i<j then (bG ks i:Int) else -1))∧wr.frozen? ⟨g,D i,none⟩=false:=by
 obtain⟨zs,h1,h2,h3,h4⟩:=h
 exact h3.cell (h2 i hi)
theorem CS.other{w w3 wr:World}{n:Nat}{D:Nat→Nat}{ks:List Nat}{g j i d:Nat}(h:CS w w3 n D ks g j wr)(hi:i<n)(hd:d≠D i)(v:Int){W:World}(hk:Keeps (fun _=>False) (wr.setCell ⟨g,d,none⟩ (.int .i64 v)) W) :
  W.cell? ⟨g,D i,none⟩=some (.int .i64 (if i<j∨mp ks i<j then (bG ks i:Int) else -1))∧W.frozen? ⟨g,D i,none⟩=false:=by
 obtain⟨zs,h1,h2,h3,h4⟩:=h
 exact ((h3.set d v).keeps hk (fun _ _ h=>h)).cell (by rw[List.getElem?_set,if_neg hd];exact h2 i hi)
theorem CS.keep{w w3 wr:World}{n:Nat}{D:Nat→Nat}{ks:List Nat}{g j:Nat}(k:tJ n D ks)(h:CS w w3 n D ks g j wr)(hj:j<n)(hm:mp ks j<j):CS w w3 n D ks g (j+1) wr:=by
 obtain⟨zs,h1,h2,h3,h4⟩:=h
 exact⟨zs,h1,k.NC hj hm h2,h3,h4⟩
theorem CS.step{w w3 wr:World}{n:Nat}{D:Nat→Nat}{ks:List Nat}{g j:Nat}(k:tJ n D ks)(h:CS w w3 n D ks g j wr)(hj:j<n)(hm:j<mp ks j) :
  CS w w3 n D ks g (j+1) ((wr.setCell ⟨g,D j,none⟩ (.int .i64 (bG ks j:Int))).setCell ⟨g,mt (D j),none⟩ (.int .i64 ((bG ks j:Int)+1))):=by
 obtain⟨zs,h1,h2,h3,h4⟩:=h
 exact⟨_,by simpa using h1,k.stepJ hj h1 hm h2,(h3.set _ _).set _ _,(h4.setCell (p:=⟨g,D j,none⟩) (.inl rfl) _).setCell (p:=⟨g,mt (D j),none⟩) (.inl rfl) _⟩
end
section
open Go.RowKit
theorem aM.none{S:Nat→Nat}:aM 0 S:=⟨fun d hd=>by omega,fun d e hd=>by omega⟩
end
section
open Go.RowKit
theorem Kq{s:List Nat}{rt:Int}{ln:Nat}{sv:Value}{W:World}(hs:Sl .i64 W sv (aB s))(hP:aM s.length (sg s))(he:s.length % 2=0)(hl:s.length≤131072)(hln:ln≤65536)(hrt:(s.length=0∧rt=-1)∨∃ r:Nat,rt=r∧r<s.length) :
  Calls Tryz.prog 30 #[sv,.int .i64 rt,.int .i64 ln] W (dx W s rt ln):=by
 rcases hrt with⟨h0,rfl⟩|⟨r,rfl,hr⟩
 ·obtain rfl:s=[]:=List.eq_nil_of_length_eq_zero h0
  exact qg1 sv ln W hs hln
 ·exact VG sv s r ln W hs hP he hr hl hln
end
