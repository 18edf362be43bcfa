import Derived.Test.YtcfdpogegngplaaGreatZlTurans
import Derived.Test.YtcfdpogegngplaaGreatZlDecPl
namespace Go.Proofs.YtcfdpogegngplaaGreat
open Go.RowKit
def RlJ (P:Nat→Nat) (t:List Nat) (j:Nat) (zs:List Int):Prop:=∀ i,i < j→zs[P i]? = some ((sg t (P i):Nat):Int)
theorem RlJ.step {n:Nat} {P:Nat→Nat} {t:List Nat} {j:Nat} {zs:List Int} (hP:IsP n P) (hj:j < n) (hl:zs.length=n) (h:RlJ P t j zs):RlJ P t (j+1) (zs.set (P j) ((sg t (P j):Nat):Int)):=fun i hi=>by
 rw [List.getElem?_set]
 by_cases e:P j=P i
 ·rw [if_pos e,if_pos (by rw [hl];exact hP.lt _ hj),e]
 ·rw [if_neg e]
  have:i≠j:=fun x=>e (by rw [x])
  exact h i (by omega)
theorem RlJ.done {n:Nat} {P:Nat→Nat} {t:List Nat} {zs:List Int} (hP:IsP n P) (ht:t.length=n) (hl:zs.length=n) (h:RlJ P t n zs):zs=nats t:=by
 apply List.ext_getElem?
 intro i
 rcases Nat.lt_or_ge i n with hi | hi
 ·have h1:=h (invP P i) (hP.inv_lt hi)
  rw [hP.inv_to hi] at h1
  rw [h1,nats_at (by omega)]
 ·rw [List.getElem?_eq_none (by omega),List.getElem?_eq_none (by rw [nats_len];omega)]
set_option maxRecDepth 100000 in
set_option maxHeartbeats 4000000 in
theorem relabel_any {w:World} {b bp:Nat} {s ps t:List Nat} {r l:Nat} {R:Nat→Prop} {sv:Value} (h:MapAt w b s r l R) (hp:PermAt w bp sv ps) (hn:0 < s.length) (hpl:ps.length=s.length) (hP:IsP s.length (sg ps))
  (hm:∀ d,d < s.length→sg ps (mt d)=mt (sg ps d)) (htl:t.length=s.length) (ht:∀ d,d < s.length→sg t (sg ps d)=sg ps (sg s d)) (hT:IsP s.length (sg t)) :
  Calls Tryz.prog 87 #[.pointer (some ⟨b,0,none⟩),.pointer (some ⟨bp,0,none⟩)] w (MadeMap w t ((sg ps r:Nat):Int) l):=by
 have hr:r < s.length:=by
  rcases h.rt with ⟨h0,_⟩ | ⟨_,h1⟩ <;> omega
 have hle:=h.le
 have hln:=h.ln
 have hev:=h.even
 have HH:Hid (∀ W,Keeps (fun _=>False) w W→MapAt W b s r l R∧PermAt W bp sv ps):=Lib.hid (fun W hk=>⟨h.keeps hk (fun h=>h) (fun _ _ h=>h),hp.keeps hk (fun h=>h) (fun _ _ h=>h)⟩)
 have hS:∀ d,d < s.length→sg s d < s.length:=fun d hd=>h.isP.lt d hd
 have HT:=Lib.hid (And.intro ht (And.intro hT (And.intro hP (And.intro hm hS))))
 obtain ⟨n,hnn⟩:∃ n,n=s.length:=⟨_,rfl⟩
 have hD:=mapDarts_any h
 have hL:=permLen_any bp sv ps w hp
 rw [hpl,← hnn] at hL
 rw [← hnn] at hD
 have HN:=Lib.hid hnn
 rw [← hnn] at hle hr hn hev
 clear h hp ht hT hP hm hS hnn
 obtain ⟨i,hi,hz0,hz1,hz2⟩:=info_parts infoInt
 have hmk:=fun w=>run_make (P:=Tryz.prog) w 25 3 i _ Tryz.underlying25 hi hz0 .i64 .i64 (n:Int) (n:Int) (by omega) (Int.le_refl _) (by rw [hz2];omega) (by omega)
 simp only [hz1,Int.toNat_natCast,Nat.mul_one] at hmk
 have h0:=MadeS.made w n (RlJ (sg ps) t 0) (fun i hi=>by omega) (by omega)
 clear hi hz0 hz1 hz2
 go_enter Tryz.func87,Tryz.ntmps87
 go_wp2_with fail
 refine hL.mono ?_
 rintro e w' ⟨rfl,rfl⟩
 go_wp2_with fail
 refine hD.mono ?_
 rintro e w' ⟨rfl,rfl⟩
 go_wp2_with fail
 refine hD.mono ?_
 rintro e w' ⟨rfl,rfl⟩
 clear hD hL
 go_wp2_with fail
 clear hmk
 obtain ⟨g,hg⟩:∃ g,g=w.heap.size:=⟨_,rfl⟩
 rw [← hg] at h0
 rw [← hg]
 generalize World.alloc _ _=wM at *
 have HG0:=Lib.hid hg
 clear hg
 go_loopg [26] n (fun m i wr=>∃ j:Nat,j≤n∧m=n - j∧i=.int .i64 j∧MadeS w g n (RlJ (sg ps) t j) wr)
 case atStart=>exact ⟨0,Nat.zero_le _,rfl,rfl,h0⟩
 case round =>
  clear h0
  obtain ⟨j,hj,hgk,rfl,hM⟩:=hrel
  have HG:=Lib.hid hgk
  clear hgk
  by_cases hlt:j < n
  ·have hjs:j < s.length:=by rw [← HN.out];exact hlt
   obtain ⟨hA,hp⟩:=HH.out wr (by obtain ⟨_,_,_,_,hk⟩:=id hM;exact hk)
   have hml:mt j < s.length:=mt_lt (by rw [← HN.out];exact hev) hjs
   have hx:=xor_i64 j (by omega)
   obtain ⟨P,hPj⟩:∃ P,P=sg ps j:=⟨_,rfl⟩
   have hPl:P < n:=by rw [hPj,HN.out];exact HT.out.2.2.1.lt _ hjs
   have hx2:=xor_i64 P (by omega)
   have c1:=permAt_in bp sv ps (mt j) wr hp (by omega)
   have c2:=permAt_in bp sv ps j wr hp (by omega)
   have c3:=mapSigma_in hA j hjs
   have hsl:=HT.out.2.2.2.2 j hjs
   have c4:=permAt_in bp sv ps (sg s j) wr hp (by omega)
   rw [HT.out.2.2.2.1 j hjs,← hPj] at c1
   rw [← hPj] at c2
   rw [← HT.out.1 j hjs,← hPj] at c4
   obtain ⟨z,_,hc,hf⟩:=hM.cell P hPl
   have HS:=Lib.hid (hM.set (Q:=RlJ (sg ps) t (j+1)) P ((sg t P:Nat):Int) (fun zs hzl h=>by rw [hPj];exact RlJ.step HT.out.2.2.1 hjs (by rw [hzl,HN.out]) h))
   clear hM hA hp hPj hml hsl
   generalize sg t P=x at *
   generalize sg s j=y at *
   generalize mt j=u at *
   generalize mt P=v at *
   go_wp2_with fail
   refine c1.mono ?_
   rintro e w' ⟨rfl,rfl⟩
   go_wp2_with fail
   refine c2.mono ?_
   rintro e w' ⟨rfl,rfl⟩
   go_wp2_with fail
   refine c2.mono ?_
   rintro e w' ⟨rfl,rfl⟩
   go_wp2_with fail
   refine c3.mono ?_
   rintro e w' ⟨rfl,rfl⟩
   go_wp2_with fail
   refine c4.mono ?_
   rintro e w' ⟨rfl,rfl⟩
   clear c1 c2 c3 c4
   go_wp2
   go_roundg (n - (j+1))
   case measure=>rw [HG.out];omega
   case rel=>exact ⟨j+1,by omega,rfl,by go_num,HS.out⟩
  ·obtain rfl:j=n:=by omega
   obtain ⟨zs,hz1,hz2,hz3,hk2⟩:=id hM
   have hz4:=RlJ.done (n:=j) (by rw [HN.out];exact HT.out.2.2.1) (by rw [HN.out];exact htl) hz1 hz2
   subst hz4
   obtain ⟨hA,hp⟩:=HH.out wr hk2
   have cR:=mapRoot_any hA
   have cL:=mapLone_any hA
   have cP:=permAt_in bp sv ps r wr hp (by have:=HN.out;omega)
   have hrl:sg ps r < t.length:=by rw [htl];exact HT.out.2.2.1.lt _ (by have:=HN.out;omega)
   have cN:=new_some (.slice (some ⟨g,0,none⟩) j j) t (sg ps r) l wr hz3.sl (by rw [htl];exact HT.out.2.1) (by rw [htl,← HN.out];exact hev) hrl (by rw [htl,← HN.out];exact hle) (by omega)
   have HK:=Lib.hid hk2
   clear hM hz1 hz2 hz3 hk2 hA hp
   generalize sg ps r=x at *
   go_wp2_with fail
   refine cR.mono ?_
   rintro e w' ⟨rfl,rfl⟩
   go_wp2_with fail
   refine cP.mono ?_
   rintro e w' ⟨rfl,rfl⟩
   go_wp2_with fail
   refine cL.mono ?_
   rintro e w' ⟨rfl,rfl⟩
   clear cR cP cL
   go_wp2_with fail
   refine cN.mono ?_
   rintro e w3 hm
   have hm2:=hm.base HK.out
   obtain ⟨b2,rfl,h2⟩:=hm2
   have H2:=Lib.hid h2
   clear cN hm h2
   go_wp2
   go_ret2
   exact ⟨b2,rfl,H2.out⟩
end Go.Proofs.YtcfdpogegngplaaGreat
