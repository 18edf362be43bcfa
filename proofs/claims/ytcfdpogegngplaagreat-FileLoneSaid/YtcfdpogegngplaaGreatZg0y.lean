import Derived.Test.YtcfdpogegngplaaGreatZg0c
import Derived.Test.YtcfdpogegngplaaGreatZg11
set_option maxRecDepth 100000
set_option maxHeartbeats 4000000
namespace Go.Proofs.YtcfdpogegngplaaGreat
section
open Go.RowKit
theorem bB.made(B:Nat)(w:World)(n:Nat)(hB:B≤w.heap.size)(hn:n≤100000000):bB B (w.alloc (.cells (madeCells #[.int .u8 0] n) 5)) (.slice (some ⟨w.heap.size,0,none⟩) n n) (List.replicate n 0):=by
 have ht:(madeCells #[.int .u8 0] n).toList=ys (List.replicate n 0):=by rw[toList_madeCells_one];simp[ys,aB]
 have h1:=World.ownsRow_lit (base:=B) (e:=5) (size:=1) w (madeCells #[.int .u8 0] n) n hB (by unfold maxLen;omega) (by rw[size_madeCells];omega)
 rw[ht] at h1
 unfold bB
 rw[List.length_replicate]
 exact h1
theorem bB.set{B:Nat}{w:World}{g n cap:Nat}{bs:List Nat}(h:bB B w (.slice (some ⟨g,0,none⟩) n cap) bs)(i z:Nat):bB B (w.setCell ⟨g,i,none⟩ (.int .u8 (z:Int))) (.slice (some ⟨g,0,none⟩) n cap) (bs.set i z):=by
 have hn:n=bs.length:=by
  obtain⟨a,c,hv,_⟩:=h.form
  simp only [Value.slice.injEq] at hv
  exact hv.2.1
 subst hn
 have:=Ql h i (.int .u8 (z:Int))
 unfold bB
 rw[List.length_set]
 have e:ys (bs.set i z)=(ys bs).set i (.int .u8 (z:Int)):=by simp[ys,aB,List.map_set]
 rw[e]
 exact this
theorem bB.cell{B:Nat}{w:World}{g n cap:Nat}{bs:List Nat}(h:bB B w (.slice (some ⟨g,0,none⟩) n cap) bs){i z:Nat}(hz:bs[i]? = some z):w.cell? ⟨g,i,none⟩=some (.int .u8 (z:Int))∧w.frozen? ⟨g,i,none⟩=false:=by
 have hi:i<bs.length:=by
  rcases Nat.lt_or_ge i bs.length with h' | h'
  ·exact h'
  ·rw[List.getElem?_eq_none h'] at hz;cases hz
 obtain⟨g',cap',hv,_,_,hc,_,_⟩:=o7 h (by omega)
 simp only [Value.slice.injEq,Option.some.injEq,Addr.mk.injEq,and_true] at hv
 obtain⟨rfl,_,_⟩:=hv
 exact hc i (.int .u8 (z:Int)) (by simp[ys,aB,hz])
theorem qkc{x y:Nat}(hx:x<256)(hy:y<256)(h:∀ i,i<8→x / 2 ^ i % 2=y / 2 ^ i % 2):x=y:=by
 have b0:=h 0 (by decide);have b1:=h 1 (by decide);have b2:=h 2 (by decide);have b3:=h 3 (by decide)
 have b4:=h 4 (by decide);have b5:=h 5 (by decide);have b6:=h 6 (by decide);have b7:=h 7 (by decide)
 simp only [Nat.reducePow] at *
 omega
theorem qkd(l:List Bool)(j:Nat):jy l (j / 8) / 2 ^ (j % 8 * 8) % 256=oK (l.drop (8 * j)):=by
 refine qkc (Nat.mod_lt _ (by decide)) (qkl _) (fun i hi=>?_)
 rw[qgj _ hi,List.getD_eq_getElem?_getD,List.getElem?_drop,← List.getD_eq_getElem?_getD]
 have h1:=Qj l (8 * j+i)
 have e1:(8 * j+i) / 64=j / 8:=by omega
 have e2:(8 * j+i) % 64=j % 8 * 8+i:=by omega
 rw[e1,e2,Nat.pow_add,← Nat.div_div_eq_div_mul] at h1
 rw[← h1]
 generalize jy l (j / 8) / 2 ^ (j % 8 * 8)=y
 have h3:y % 256 / 2 ^ i % 2=y / 2 ^ i % 2:=by
  have:=Nat.mod_mul_right_div_self y (2 ^ i) (2 ^ (8 - i))
  rw[← Nat.pow_add,show i+(8 - i)=8 by omega,show (2:Nat) ^ 8=256 by decide] at this
  rw[this,Nat.mod_mod_of_dvd]
  exact⟨2 ^ (8 - i - 1),by rw[← Nat.pow_succ'];congr 1;omega⟩
 exact h3
theorem qme(l:List Bool){N j:Nat}(hN:N=(bI l).length)(hj:j<N):((bI l).take j ++ List.replicate (N - j) 0).set j (oK (l.drop (8 * j)))=(bI l).take (j+1) ++ List.replicate (N - (j+1)) 0:=by
 have hg:(bI l)[j]? = some (oK (l.drop (8 * j))):=by
  unfold bI
  rw[List.getElem?_map,List.getElem?_range (by rw[hN,uS] at hj;exact hj)]
  rfl
 have hl:((bI l).take j).length=j:=by rw[List.length_take];omega
 rw[List.set_append_right _ _ (by rw[hl];exact Nat.le_refl _),hl,Nat.sub_self,show N - j=(N - (j+1))+1 by omega,List.replicate_succ,List.set_cons_zero,Ad hg,List.append_assoc]
 rfl
theorem Xp(b:Nat)(v:Value)(l:List Bool)(w:World)(h:aK w b v l)(hl:l.length≤100000000) :
  Calls Tryz.prog 103 #[.pointer (some ⟨b,0,none⟩)] w fun e w'=>∃ v',e=.returned v'∧bB w.heap.size w' v' (bI l)∧Keeps (fun _=>False) w w':=by
 have hLn:=rY b v l w h
 obtain⟨N,hN⟩:∃ N,N=(bI l).length:=⟨_,rfl⟩
 have hN8:N=(l.length+7) / 8:=by rw[hN,uS]
 have hNi:((l.length:Int)+8 - 1) / 8=(N:Int):=by omega
 have aki:((l.length:Int)+7) / 8=(N:Int):=by omega
 obtain⟨i,hi,hz0,hz1,hz2⟩:=info_parts tN
 have hmk:=fun w=>run_make (P:=Tryz.prog) w 30 5 i _ Tryz.underlying30 hi hz0 .i64 .i64 (N:Int) (N:Int) (by omega) (Int.le_refl _) (by rw[hz2];omega) (by omega)
 simp only [hz1,Int.toNat_natCast,Nat.mul_one] at hmk
 have h0:=bB.made w.heap.size w N (Nat.le_refl _) (by omega)
 have k0:=(Keeps.refl (fun _=>False) w).alloc (.cells (madeCells #[.int .u8 0] N) 5)
 have HV:Hid (∀ W,Keeps (fun _=>False) w W→aK W b v l):=ah (fun W hk=>h.keeps hk (fun h=>h) (fun _ _ h=>h))
 have HN:=ah (aj hN hN8)
 generalize hn:l.length=n at *
 have HL:=ah hn
 clear h hi hz0 hz1 hz2 hN hN8 hn
 go_enter Tryz.func103,Tryz.ntmps103
 go_wp2_with fail
 refine hLn.mono ?_
 rintro e w' ⟨rfl,rfl⟩
 clear hLn
 go_wp2_with fail
 clear hmk
 obtain⟨g,hg⟩:∃ g,g=w.heap.size:=⟨_,rfl⟩
 rw[← hg] at h0
 rw[← hg]
 generalize World.alloc _ _=wM at *
 have hg0:w.heap.size≤g:=by omega
 have h0':bB w.heap.size wM (.slice (some ⟨g,0,none⟩) N N) ((bI l).take 0 ++ List.replicate (N - 0) 0):=by simpa [hg] using h0
 have NA:=ah (aj h0' k0)
 clear h0 h0' k0 hg
 go_loopg [13] N (fun m iv wr=>∃ j:Nat,j≤N∧m=N - j∧iv=.int .i64 j∧bB w.heap.size wr (.slice (some ⟨g,0,none⟩) N N) ((bI l).take j ++ List.replicate (N - j) 0)∧Keeps (fun _=>False) w wr)
 case atStart=>exact⟨0,by omega,rfl,rfl,NA.out⟩
 case round =>
  clear NA
  obtain⟨j,hj,aN,rfl,hO,hk⟩:=hrel
  have HG:=ah aN
  clear aN
  by_cases hlt:j<N
  ·have hV:=HV.out wr hk
   have hwl:(words l).length=(l.length+63) / 64:=rX l
   have Xq:j / 8<(l.length+63) / 64:=by have:=HN.out.2;rw[HL.out];omega
   obtain⟨gw,cw,rfl,hnc,hcm,hc,_,hgw⟩:=o7 hV.2 (by omega)
   have hx:=(hc (j / 8) (.int .u64 (jy l (j / 8):Nat)) (by rw[List.getElem?_map,yO Xq];rfl)).1
   have c0:wr.cell? ⟨b,0,none⟩=some (.slice (some ⟨gw,0,none⟩) (words l).length cw):=ak hV.1 0
   have hb:=qkd l j
   have acE:=KL l (j / 8)
   obtain⟨y,hy⟩:∃ y,y=jy l (j / 8) / 2 ^ (j % 8 * 8):=⟨_,rfl⟩
   have e1:((jy l (j / 8):Nat):Int) / 2 ^ (j % 8 * 8)=(y:Int):=by rw[hy];push_cast;rfl
   rw[← hy] at hb
   have e2:IntKind.u8.wrap (y:Int)=((oK (l.drop (8 * j)):Nat):Int):=by rw[IntKind.wrap_u8,← hb];omega
   have hcell:=(hO.cell (i:=j) (z:=0) (by rw[List.getElem?_append_right (by rw[List.length_take];omega),List.length_take,← HN.out.1,Nat.min_eq_left (by omega),Nat.sub_self,List.getElem?_replicate,if_pos (by omega)]))
   have hst:=hO.set j (oK (l.drop (8 * j)))
   rw[qme l HN.out.1 hlt] at hst
   have ks:=hk.setCell (p:=⟨g,j,none⟩) (.inr hg0) (.int .u8 ((oK (l.drop (8 * j)):Nat):Int))
   have HS:=ah (aj hst ks)
   obtain⟨hc1,hf1⟩:=hcell
   have akj:j / 8<(words l).length:=by rw[hwl];exact Xq
   have hwb:(words l).length≤100000000:=by rw[hwl,HL.out];omega
   unfold maxLen at hcm
   clear hc hV hb hy hst ks hO hk hwl Xq
   generalize jy l (j / 8)=x at *
   generalize oK (l.drop (8 * j))=z at *
   generalize (words l).length=wl at *
   go_wp2_with fail
   go_roundg (N - (j+1))
   case measure=>rw[HG.out];omega
   case rel=>exact⟨j+1,by omega,rfl,by go_num,HS.out⟩
  ·obtain rfl:j=N:=by omega
   rw[Nat.sub_self,List.replicate_zero,List.append_nil,List.take_of_length_le (by have:=HN.out.1;omega)] at hO
   have HF:=ah (aj hO hk)
   clear hO hk
   go_wp2
   go_ret
   exact⟨_,rfl,HF.out⟩
theorem qf8(cs:List Nat)(i:Nat):cs.getD (i / 8) 0 / 2 ^ (i % 8) % 2=(ug cs i).toNat:=by
 unfold ug
 have:cs.getD (i / 8) 0 / 2 ^ (i % 8) % 2<2:=Nat.mod_lt _ (by decide)
 rcases Nat.lt_or_ge (cs.getD (i / 8) 0 / 2 ^ (i % 8) % 2) 1 with h0|h0
 ·rw[show cs.getD (i / 8) 0 / 2 ^ (i % 8) % 2=0 by omega];rfl
 ·rw[show cs.getD (i / 8) 0 / 2 ^ (i % 8) % 2=1 by omega];rfl
theorem q7o(pv:Value)(cs:List Nat)(n:Nat)(w:World)(hp:Sl .u8 w pv (aB cs))(hcs:∀ x ∈ cs,x<256)(hl:cs.length≤100000000)(hn:n≤1000000000) :
  Calls Tryz.prog 155 #[pv,.int .i64 n] w fun e w'=>(wu cs n=0∧∃ b,e=.returned (.tuple #[.pointer (some ⟨b,0,none⟩),.int .i64 0])∧aY w b (uT cs n) w')∨(wu cs n≠0∧e=.returned (.tuple #[.pointer none,.int .i64 (wu cs n:Nat)])∧Keeps (fun _=>False) w w'):=by
 obtain⟨pa,pc,rfl,hpc,hpm⟩:=hp.kP
 have HC:=ah (aj hp hcs)
 have hN0:aY w w.heap.size [] (w.alloc (.cells #[.slice none 0 0,.int .i64 0] 203)):=⟨_,FN w,Nat.le_refl _,fun k hk=>by simp[Value.ownBlock] at hk,(Keeps.refl (fun _=>False) w).alloc _⟩
 have mU:=BJ w
 have hok:rC cs n↔(n≤8 * cs.length∧8 * cs.length<n+8):=Iff.rfl
 generalize hm:cs.length=m at *
 have HM:=ah hm
 clear hp hcs hm
 by_cases h1:rC cs n
 rotate_left
 ·have hcc:wu cs n=1:=by unfold wu;rw[if_neg h1]
  rw[hok] at h1
  have nP:=ah hcc
  clear hcc hok mU hN0
  by_cases h2:n≤8 * m
  ·have t1:decide (8 * (m:Int)<(n:Int))=false:=decide_eq_false (by omega)
   have t2:decide ((8:Int)≤8 * (m:Int) - (n:Int))=true:=decide_eq_true (by omega)
   go_enter Tryz.func155,Tryz.ntmps155
   go_wp2_with fail
   refine bodyPost_ret (v:=.tuple #[.pointer none,.int .i64 1]) (by simp[results,Tryz.results155,go_sem]) rfl ?_
   exact .inr ⟨by rw[nP.out];decide,by rw[nP.out];rfl,Keeps.refl _ _⟩
  ·have t1:decide (8 * (m:Int)<(n:Int))=true:=decide_eq_true (by omega)
   go_enter Tryz.func155,Tryz.ntmps155
   go_wp2_with fail
   refine bodyPost_ret (v:=.tuple #[.pointer none,.int .i64 1]) (by simp[results,Tryz.results155,go_sem]) rfl ?_
   exact .inr ⟨by rw[nP.out];decide,by rw[nP.out];rfl,Keeps.refl _ _⟩
 ·obtain⟨h2,h3⟩:=hok.1 h1
  have t0:decide ((n:Int)<0)=false:=decide_eq_false (by omega)
  have t1:decide (8 * (m:Int)<(n:Int))=false:=decide_eq_false (by omega)
  have t2:decide ((8:Int)≤8 * (m:Int) - (n:Int))=false:=decide_eq_false (by omega)
  have hof:wu cs n=if ko cs n then 0 else 3:=by unfold wu;rw[if_pos h1]
  have HO:=ah hof
  clear hof hok
  obtain⟨b2,hb2⟩:∃ b2,b2=w.heap.size:=⟨_,rfl⟩
  rw[← hb2] at hN0
  go_enter Tryz.func155,Tryz.ntmps155
  go_wp2_with fail
  refine mU.mono ?_
  rintro e w1 ⟨rfl,rfl⟩
  clear mU
  rw[← hb2]
  clear hb2
  go_wp2_with fail
  have hX0:aY w b2 (uT cs (min 0 n)) (w.alloc (.cells #[.slice none 0 0,.int .i64 0] 203)):=by rw[Nat.zero_min];exact hN0
  have HX0:=ah hX0
  clear hX0 hN0 h1
  go_loopg [30] (8 * m) (fun mu iv wr=>∃ j:Nat,j≤8 * m∧mu=8 * m - j∧iv=.int .i64 j∧aY w b2 (uT cs (min j n)) wr∧∀ i,n≤i→i<j→ug cs i=false)
  case atStart=>exact⟨0,by omega,rfl,rfl,HX0.out,fun i _ h=>by omega⟩
  case round =>
   clear HX0
   obtain⟨j,hj,aN,rfl,hV,hz⟩:=hrel
   have HG:=ah aN
   clear aN
   by_cases hlt:j<8 * m
   ·obtain⟨v1,hv1,hb1,OI,hk1⟩:=id hV
    obtain⟨x,hx⟩:∃ x,cs[j / 8]? = some x:=⟨_,List.getElem?_eq_getElem (by rw[HM.out];omega)⟩
    have hx256:=HC.out.2 x (List.mem_of_getElem? hx)
    have hbn:=qf8 cs j
    rw[List.getD_eq_getElem?_getD,hx,Option.getD_some] at hbn
    have hsl:=HC.out.1.keeps hk1 (fun _ _ h=>h)
    obtain⟨g,off,rfl,hcell⟩:=hsl.cellAt (by simp[aB,hx]:(aB cs)[j / 8]? = some (x:Int))
    obtain⟨y,hy⟩:∃ y,y=x / 2 ^ (j % 8):=⟨_,rfl⟩
    have OJ:y<256:=by rw[hy];exact Nat.lt_of_le_of_lt (Nat.div_le_self _ _) hx256
    rw[← hy] at hbn
    have e1:(x:Int) / 2 ^ (j % 8)=(y:Int):=by rw[hy];push_cast;rfl
    have e2:bits .and .u8 (y:Int) 1=(((ug cs j).toNat:Nat):Int):=by
     have h1:=u8_and_nat y 1 OJ (by decide)
     rw[Nat.and_one_is_mod,hbn] at h1
     exact h1
    have hzj:=hz
    have hbz:ug cs j=true∨ug cs j=false:=by cases ug cs j <;> simp
    have hA:=Qn b2 v1 (uT cs (min j n)) (ug cs j) wr hv1 (by rw[qag];omega)
    have hsu:=qmn cs j
    have HS:=ah (aj hz (aj hsu (aj hb1 (aj OI (aj hk1 hV)))))
    have hB:Hid (ug cs j=ug cs j):=ah rfl
    have hj8:j / 8<m:=by omega
    clear hV hv1 hb1 OI hk1 hx hbn hsl hy hz hzj hsu
    by_cases hjn:j<n
    ·obtain⟨B,Gm⟩:∃ B,B=ug cs j:=⟨_,rfl⟩
     rw[← Gm] at e2 hA
     have HB:=ah Gm
     clear hB Gm hbz
     have e3:IntKind.u64.wrap ((B.toNat:Nat):Int)=((B.toNat:Nat):Int):=by cases B <;> rfl
     go_wp2_with fail
     refine hA.mono ?_
     rintro e w2 ⟨rfl,v2,g1,g2,g3⟩
     have hfin:aY w b2 (uT cs (min (j+1) n)) w2:=aY.grown HS.out.2.2.1 HS.out.2.2.2.1 HS.out.2.2.2.2.1 ⟨v2,by
      rw[Nat.min_eq_left (by omega),HS.out.2.1,← HB.out]
      rw[Nat.min_eq_left (by omega)] at g1
      exact g1,g2,g3⟩
     have HF:=ah hfin
     clear hA g1 g2 g3 hfin
     go_wp2
     go_roundg (8 * m - (j+1))
     case measure=>rw[HG.out];omega
     case rel=>exact⟨j+1,by omega,rfl,by go_num,HF.out,fun i h1 h2=>HS.out.1 i h1 (by omega)⟩
    ·clear hA
     rcases hbz with hbz|hbz
     ·rw[hbz] at e2
      have hnp:wu cs n=3:=by
       rw[HO.out,if_neg]
       intro hp
       have:=hp j (by omega) (by rw[HM.out];exact hlt)
       rw[hbz] at this
       cases this
      have Xr:=ah (aj hnp HS.out.2.2.2.2.1)
      clear hnp hB hbz
      go_wp2_with fail
      refine bodyPost_ret (v:=.tuple #[.pointer none,.int .i64 3]) (by simp[results,Tryz.results155,go_sem]) rfl ?_
      exact .inr ⟨by rw[Xr.out.1];decide,by rw[Xr.out.1];rfl,Xr.out.2⟩
     ·rw[hbz] at e2
      have HZ:=ah hbz
      clear hB hbz
      go_wp2_with fail
      go_roundg (8 * m - (j+1))
      case measure=>rw[HG.out];omega
      case rel=>exact⟨j+1,by omega,rfl,by go_num,by
       have h:=HS.out.2.2.2.2.2
       rw[Nat.min_eq_right (by omega)] at h ⊢
       exact h,fun i h1 h2=>by
        rcases Nat.lt_or_ge i j with h|h
        ·exact HS.out.1 i h1 h
        ·obtain rfl:i=j:=by omega
         exact HZ.out⟩
   ·obtain rfl:j=8 * m:=by omega
    have Dz:ko cs n:=fun i h1 h2=>hz i h1 (by rw[HM.out] at h2;exact h2)
    have hc0:wu cs n=0:=by rw[HO.out,if_pos Dz]
    rw[Nat.min_eq_right (by omega)] at hV
    have HF:=ah (aj hc0 hV)
    clear hV hz hc0 Dz
    go_wp2
    refine bodyPost_ret (v:=.tuple #[.pointer (some ⟨b2,0,none⟩),.int .i64 0]) (by simp[results,Tryz.results155,go_sem]) rfl ?_
    exact .inl ⟨HF.out.1,b2,rfl,HF.out.2⟩
theorem qke{l l':List Bool}(hl:l.length=l'.length)(h:words l=words l'):l=l':=by
 apply List.ext_getElem?
 intro i
 rcases Nat.lt_or_ge i l.length with hi|hi
 ·have h1:=Qj l i
  have h2:=Qj l' i
  have h3:jy l (i / 64)=jy l' (i / 64):=by
   have h4:=yO (l:=l) (k:=i / 64) (by omega)
   have h5:=yO (l:=l') (k:=i / 64) (by omega)
   rw[h,h5] at h4
   exact (Option.some.inj h4).symm
  rw[h3,h2] at h1
  have h6:l'.getD i false=l.getD i false:=by
   cases h7:l'.getD i false <;> cases h8:l.getD i false <;> rw[h7,h8] at h1 <;> simp_all
  rw[List.getElem?_eq_getElem hi,List.getElem?_eq_getElem (by omega)]
  rw[List.getD_eq_getElem?_getD,List.getD_eq_getElem?_getD,List.getElem?_eq_getElem hi,List.getElem?_eq_getElem (by omega)] at h6
  simp only [Option.getD_some] at h6
  rw[h6]
 ·rw[List.getElem?_eq_none hi,List.getElem?_eq_none (by omega)]
end
section
open Go.RowKit
theorem qf9(sv tv:Value)(xs zs:List Nat)(w:World)(hs:Sl .u64 w sv (aB xs))(ht:Sl .u64 w tv (aB zs))(hl:xs.length≤100000000) :
  Calls Tryz.prog 255 #[sv,tv] w fun e w'=>e=.returned (.bool (decide (xs=zs)))∧∃ q,w'=w.drewN q:=by
 have HS:=ah (aj hs ht)
 obtain⟨a,c,rfl,p1,p2⟩:=hs.form
 obtain⟨a',c',rfl,q1,q2⟩:=ht.form
 rw[q01] at p1 q1
 rw[q01,q01] at HS
 rw[q01,q01]
 by_cases hne:xs.length=zs.length
 rotate_left
 ·have hd:decide (xs=zs)=false:=decide_eq_false (fun e=>hne (by rw[e]))
  rw[hd]
  have t0:((xs.length:Int) != (zs.length:Int))=true:=by rw[bne_iff_ne];omega
  generalize xs.length=m at *
  generalize zs.length=n at *
  clear hs ht hne hd
  go_enter Tryz.func255,Tryz.ntmps255
  go_wp2_with fail
  go_ret
  exact⟨rfl,0,rfl⟩
 ·have HN:=ah hne
  rw[← hne] at HS q1
  rw[← hne]
  generalize hm:xs.length=m at *
  have HM:=ah hm
  obtain⟨B,hB⟩:∃ B,B=decide (xs=zs):=⟨_,rfl⟩
  rw[← hB]
  have HB:=ah hB
  clear hs ht hm hne hB
  go_enter Tryz.func255,Tryz.ntmps255
  go_wp2_with fail
  go_loopg [13] (m - 0) (fun mu i wr=>∃ j:Nat,j≤m∧mu=m - j∧i=.int .i64 j∧(∀ i,i<j→xs[i]? = zs[i]?)∧∃ q,wr=w.drewN q)
  case atStart=>exact⟨0,Nat.zero_le _,rfl,rfl,fun i h=>by omega,0,rfl⟩
  case round =>
   obtain⟨j,hj,aN,rfl,he,q0,hq0⟩:=hrel
   have HG:=ah aN
   have hk:Keeps (fun _=>False) w wr:=by rw[hq0];exact (Keeps.refl _ w).drewN q0
   have HQ:=ah hq0
   clear aN hq0
   by_cases hlt:j<m
   ·obtain⟨x,hx⟩:∃ x,xs[j]? = some x:=⟨_,List.getElem?_eq_getElem (by rw[HM.out];exact hlt)⟩
    obtain⟨z,hz⟩:∃ z,zs[j]? = some z:=⟨_,List.getElem?_eq_getElem (by have:=HN.out;omega)⟩
    obtain⟨g,o,rfl,k1⟩:=(HS.out.1.keeps hk (fun _ _ h=>h)).cellAt (jq hx)
    obtain⟨g',o',rfl,k2⟩:=(HS.out.2.keeps hk (fun _ _ h=>h)).cellAt (jq hz)
    have d1:wr.drew.cell? ⟨g,o+j,none⟩=some (.int .u64 (x:Int)):=k1
    have d2:wr.drew.cell? ⟨g',o'+j,none⟩=some (.int .u64 (z:Int)):=k2
    by_cases hxz:x=z
    ·have t1:((x:Int) != (z:Int))=false:=by rw[hxz];simp
     have HK:=ah ((show ∀ i,i<j+1→xs[i]? = zs[i]? from fun i hi=>by
      rcases Nat.lt_or_ge i j with h|h
      ·exact he i h
      ·obtain rfl:i=j:=by omega
       rw[hx,hz,hxz]))
     clear hz hk he hx hxz
     go_wp2_with fail
     go_quiet (fail)
     go_wp2_with fail
     go_roundg (m - (j+1))
     case measure=>rw[HG.out];omega
     case rel=>exact⟨j+1,by omega,rfl,by go_num,HK.out,q0+nq,by rw[HQ.out,World.drewN_drewN]⟩
    ·have t1:((x:Int) != (z:Int))=true:=by rw[bne_iff_ne];omega
     have hb:B=false:=by
      rw[HB.out]
      refine decide_eq_false (fun e=>?_)
      rw[e,hz] at hx
      exact hxz (Option.some.inj hx).symm
     have HK:=ah hb
     clear hz hk he hx hxz hb
     go_wp2_with fail
     go_quiet (fail)
     go_wp2_with fail
     go_ret
     exact⟨by rw[HK.out];rfl,q0+nq,by rw[HQ.out,World.drewN_drewN]⟩
   ·obtain rfl:j=m:=by omega
    have hb:B=true:=by
     rw[HB.out]
     refine decide_eq_true (List.ext_getElem? (fun i=>?_))
     rcases Nat.lt_or_ge i j with h|h
     ·exact he i h
     ·rw[List.getElem?_eq_none (by rw[HM.out];exact h),List.getElem?_eq_none (by have:=HN.out;omega)]
    have HK:=ah hb
    clear hk he hb
    go_wp2_with fail
    go_ret
    exact⟨by rw[HK.out];rfl,q0,HQ.out⟩
theorem aK.row{w:World}{b:Nat}{v:Value}{l:List Bool}(h:aK w b v l):Sl .u64 w v (aB (words l)):=by
 have h2:=h.2
 have e:((words l).map fun x:Nat=>Value.int .u64 x)=(aB (words l)).map fun z=>Value.int .u64 z:=by simp[aB]
 rw[e] at h2
 exact Sl.lC h2
theorem qdi(b c:Nat)(v u:Value)(l m:List Bool)(w:World)(hv:aK w b v l)(hu:aK w c u m)(hl:l.length≤100000000) :
  Calls Tryz.prog 219 #[.pointer (some ⟨b,0,none⟩),.pointer (some ⟨c,0,none⟩)] w fun e w'=>e=.returned (.bool (decide (l=m)))∧Keeps (fun _=>False) w w':=by
 have kd:=fun n=>(Keeps.refl (fun _=>False) w).drewN n
 have hL1:=fun n=>rY b v l (w.drewN n) (hv.keeps (kd n) (fun h=>h) (fun _ _ h=>h))
 have hL2:=fun n=>rY c u m (w.drewN n) (hu.keeps (kd n) (fun h=>h) (fun _ _ h=>h))
 have HK:=ah kd
 by_cases hne:l.length=m.length
 rotate_left
 ·have hd:decide (l=m)=false:=decide_eq_false (fun e=>hne (by rw[e]))
  rw[hd]
  have t0:((l.length:Int) == (m.length:Int))=false:=by rw[beq_eq_false_iff_ne];omega
  clear hv hu hne hd kd
  generalize l.length=n1 at *
  generalize m.length=n2 at *
  go_enter Tryz.func219,Tryz.ntmps219
  go_wp2_with fail
  go_quiet ((go_at_call 99;first | (with_reducible exact qH (hL1 _)) | (with_reducible exact qH (hL2 _))))
  go_wp2
  go_ret
  exact⟨rfl,HK.out _⟩
 ·by_cases h0:l.length=0
  ·have hd:decide (l=m)=true:=decide_eq_true (by rw[List.eq_nil_of_length_eq_zero h0,List.eq_nil_of_length_eq_zero (show m.length=0 by omega)])
   rw[hd]
   rw[h0] at hL1
   rw[← hne,h0] at hL2
   clear hv hu hne hd kd h0
   go_enter Tryz.func219,Tryz.ntmps219
   go_wp2_with fail
   go_quiet ((go_at_call 99;first | (with_reducible exact qH (hL1 _)) | (with_reducible exact qH (hL2 _))))
   go_wp2
   go_ret
   exact⟨rfl,HK.out _⟩
  ·have hE:=fun n=>qf9 v u (words l) (words m) (w.drewN n) (hv.keeps (kd n) (fun h=>h) (fun _ _ h=>h)).row (hu.keeps (kd n) (fun h=>h) (fun _ _ h=>h)).row (by rw[rX];omega)
   have hd:decide (words l=words m)=decide (l=m):=by
    by_cases h:l=m
    ·rw[h];simp
    ·rw[decide_eq_false h,decide_eq_false (fun e=>h (qke hne e))]
   rw[hd] at hE
   have hE2:∀ n,Calls Tryz.prog 255 #[v,u] (w.drewN n) fun e w'=>e=.returned (.bool (decide (l=m)))∧∃ q,w'=w.drewN q:=fun n=>(hE n).mono (fun e w' ⟨h1,q,h2⟩=>⟨h1,n+q,by rw[h2,World.drewN_drewN]⟩)
   have c1:w.cell? ⟨b,0,none⟩=some v:=ak hv.1 0
   have c2:w.cell? ⟨c,0,none⟩=some u:=ak hu.1 0
   rw[← hne] at hL2
   have t0:((l.length:Int) == 0)=false:=by rw[beq_eq_false_iff_ne];omega
   clear hv hu hne hd kd hE
   generalize decide (l=m)=B at *
   generalize l.length=n1 at *
   go_enter Tryz.func219,Tryz.ntmps219
   go_wp2_with fail
   go_quiet (first | (go_at_call 99;first | (with_reducible exact qH (hL1 _)) | (with_reducible exact qH (hL2 _))) | (go_at_call 255;exact hE2 _))
   go_wp2
   go_ret
   exact⟨rfl,HK.out _⟩
end
