import Derived.Shelf.Strings.Builder1
import Derived.Test.YtcfdpogegngplaaGreatZg06
set_option maxRecDepth 100000
set_option maxHeartbeats 4000000
namespace Go.Proofs
open Go.Shelf
end Go.Proofs
namespace Go.Proofs.YtcfdpogegngplaaGreat
section
open Go.RowKit
end
section
open Go.RowKit
end
section
open Go.RowKit
def jN(x k:Nat):List Bool:=(List.range k).map fun i=>x / 2 ^ i % 2 == 1
theorem qjm(x k:Nat):jN x (k+1)=jN x k ++ [x / 2 ^ k % 2 == 1]:=by simp[jN,List.range_succ]
theorem Iu(x k:Nat):(jN x k).length=k:=by simp[jN]
theorem aK.grown{w:World}{b:Nat}{v:Value}{l:List Bool}(h:aK w b v l):bN w b v l w:=⟨v,h,Keeps.refl _ _,.inl rfl⟩
theorem qnw(y:Nat)(hy:y<18446744073709551616):bits BinOp.and IntKind.u64 (y:Int) 1=(((y % 2 == 1).toNat:Nat):Int):=by
 have h:=bits_and_u64_nat y 1 hy (by omega)
 rw[show ((1:Nat):Int)=1 from rfl] at h
 rw[h,Nat.and_one_is_mod]
 have h2:y % 2=0∨y % 2=1:=by omega
 rcases h2 with h2|h2 <;> rw[h2] <;> rfl
theorem qjn(b:Nat)(v:Value)(l:List Bool)(x k:Nat)(w:World)(h:aK w b v l)(hl:l.length+64<1000000000)(hx:x<18446744073709551616)(hk:k≤64) :
  Calls Tryz.prog 140 #[.pointer (some ⟨b,0,none⟩),.int .u64 x,.int .i64 k] w fun e w'=>e=.returned (.tuple #[])∧bN w b v (l ++ jN x k) w':=by
 have e2:min (k:Int) 64=k:=by omega
 go_enter Tryz.func140,Tryz.ntmps140
 go_wp2_with fail
 clear e2
 go_loopg [12] k (fun m i wr=>∃ j:Nat,j≤k∧m=k - j∧i=.int .i64 j∧bN w b v (l ++ jN x j) wr)
 case atStart=>exact⟨0,Nat.zero_le _,rfl,rfl,by simpa [jN] using h.grown⟩
 case round =>
  obtain⟨j,hj,aN,rfl,v1,h1,h2,h3⟩:=hrel
  have HG:=ah aN
  clear aN
  by_cases hlt:j<k
  ·have hA:=Qn b v1 (l ++ jN x j) (x / 2 ^ j % 2 == 1) wr h1 (by simp[Iu];omega)
   have HS:=ah (aj h2 h3)
   clear h1 h2 h3
   have e3:=qnw (x / 2 ^ j) (Nat.lt_of_le_of_lt (Nat.div_le_self _ _) hx)
   have e4:(x:Int) / 2 ^ j=((x / 2 ^ j:Nat):Int):=by simp
   rw[← e4] at e3
   have HE:=ah e3
   clear e3 e4
   go_wp2_with fail
   rw[HE.out]
   refine hA.mono ?_
   rintro e w2 ⟨rfl,v2,g1,g2,g3⟩
   have hfin:bN w b v (l ++ jN x (j+1)) w2:=bN.trans HS.out.1 HS.out.2 ⟨v2,by rw[qjm,← List.append_assoc];exact g1,g2,g3⟩
   have HF:=ah hfin
   clear hA g1 g2 g3 hfin
   go_wp2
   go_roundg (k - (j+1))
   case measure=>rw[HG.out];omega
   case rel=>exact⟨j+1,by omega,rfl,by go_num,HF.out⟩
  ·obtain rfl:j=k:=by omega
   have HF:Hid (bN w b v (l ++ jN x j) wr):=ah ⟨v1,h1,h2,h3⟩
   clear h1 h2 h3
   go_wp2
   go_end0
   exact⟨rfl,HF.out⟩
end
section
open Go.RowKit
def bP(ks:List Nat):List Bool:=ks.flatMap fun k=>jN k 2
theorem qha{ks:List Nat}{i x:Nat}(h:ks[i]? = some x):bP (ks.take (i+1))=bP (ks.take i) ++ jN x 2:=by
 unfold bP;rw[lX h,List.flatMap_append];simp
theorem J6(ks:List Nat):(bP ks).length=2 * ks.length:=by
 induction ks with
 | nil=>rfl
 | cons k ks ih=>simp only [bP,List.flatMap_cons,List.length_append,Iu,List.length_cons] at *;omega
def aY(w:World)(b:Nat)(l:List Bool)(w':World):Prop:=∃ v,aK w' b v l∧w.heap.size≤b∧(∀ k,v.ownBlock=some k→w.heap.size≤k)∧Keeps (fun _=>False) w w'
theorem aY.grown{w wr w1:World}{b:Nat}{l:List Bool}{v:Value}(hb:w.heap.size≤b)(hv:∀ k,v.ownBlock=some k→w.heap.size≤k)(hk:Keeps (fun _=>False) w wr)(h:bN wr b v l w1):aY w b l w1:=by
 obtain⟨v1,h1,h2,h3⟩:=h
 refine⟨v1,h1,hb,fun k hk'=>?_,hk.trans h2 (fun x hx e=>?_)⟩
 ·rcases h3 with h3|⟨k',h3,hk''⟩
  ·rw[h3] at hk';exact hv k hk'
  ·rw[h3] at hk';cases hk';exact Nat.le_trans hk.size hk''
 ·rcases e with rfl|e
  ·omega
  ·have:=hv x e;omega
theorem qd2(b:Nat)(v:Value)(ks:List Nat)(w:World)(hv:bW w b v ks)(h4:∀ k ∈ ks,k<4)(hl:ks.length≤1000000) :
  Calls Tryz.prog 137 #[.pointer (some ⟨b,0,none⟩)] w fun e w'=>∃ b2,e=.returned (.pointer (some ⟨b2,0,none⟩))∧aY w b2 (bP ks) w':=by
 have k0:=(Keeps.refl (fun _=>False) w).alloc (.cells #[.slice none 0 0,.int .i64 0] 203)
 have HV:Hid (∀ W,Keeps (fun _=>False) w W→bW W b v ks):=ah (fun W hk=>hv.keeps hk (fun h=>h) (fun _ _ h=>h))
 have hL:=Ux b v ks _ (HV.out _ k0)
 have hN0:aY w w.heap.size [] (w.alloc (.cells #[.slice none 0 0,.int .i64 0] 203)):=⟨_,FN w,Nat.le_refl _,fun k hk=>by simp[Value.ownBlock] at hk,k0⟩
 have HH:=ah h4
 clear hv h4 k0
 go_enter Tryz.func137,Tryz.ntmps137
 go_wp2_with fail
 refine (BJ _).mono ?_
 rintro e w1 ⟨rfl,rfl⟩
 go_wp2_with fail
 refine hL.mono ?_
 rintro e w1 ⟨rfl,rfl⟩
 clear hL
 go_wp2_with fail
 generalize World.alloc _ _=wM at *
 obtain⟨b2,hb2⟩:∃ b2,b2=w.heap.size:=⟨_,rfl⟩
 rw[← hb2] at hN0
 rw[← hb2]
 clear hb2
 go_loopg [8] ks.length (fun m i wr=>∃ j:Nat,j≤ks.length∧m=ks.length - j∧i=.int .i64 j∧aY w b2 (bP (ks.take j)) wr)
 case atStart=>exact⟨0,Nat.zero_le _,rfl,rfl,hN0⟩
 case round =>
  obtain⟨j,hj,aN,rfl,v1,g1,g2,g3,g4⟩:=hrel
  have HG:=ah aN
  clear aN hN0
  by_cases hlt:j<ks.length
  ·have xJ:=HV.out wr g4
   obtain⟨a,cap,rfl,hc1,hc2,hcell⟩:=xJ.form
   have c0:wr.cell? ⟨b,0,none⟩=some (.slice a ks.length cap):=ak xJ.1 0
   have hg:=List.getElem?_eq_getElem hlt
   obtain⟨g,rfl,hc⟩:=hcell j _ hg
   have hx4:=HH.out _ (List.mem_of_getElem? hg)
   have hst:=qha hg
   have hlen:=J6 (ks.take j)
   have hN:=qjn b2 v1 (bP (ks.take j)) ks[j] 2 wr g1 (by rw[hlen,List.length_take];omega) (by omega) (by omega)
   rw[← hst] at hN
   generalize ks[j]=y at *
   have HS:=ah (aj g2 (aj g3 g4))
   clear hg hst hcell xJ g1 g2 g3 g4 hlen
   go_wp2_with fail
   refine hN.mono ?_
   rintro e w2 ⟨rfl,hgr⟩
   have HF:Hid (aY w b2 (bP (ks.take (j+1))) w2):=ah (aY.grown HS.out.1 HS.out.2.1 HS.out.2.2 hgr)
   clear hN hgr
   go_wp2
   go_roundg (ks.length - (j+1))
   case measure=>rw[HG.out];omega
   case rel=>exact⟨j+1,by omega,rfl,by go_num,HF.out⟩
  ·obtain rfl:j=ks.length:=by omega
   have HF:Hid (aY w b2 (bP (ks.take ks.length)) wr):=ah ⟨v1,g1,g2,g3,g4⟩
   clear g1 g2 g3 g4
   go_wp2
   go_ret
   refine⟨b2,rfl,?_⟩
   have:=HF.out
   rwa [List.take_of_length_le (Nat.le_refl _)] at this
end
section
open Go.RowKit
end
section
open Go.RowKit
theorem Sl.two(w:World)(k:IntKind)(p q:Int)(t:TypeId):Sl k (w.alloc (.cells #[.int k p,.int k q] t)) (.slice (some ⟨w.heap.size,0,none⟩) 2 2) [p,q]:=by
 refine⟨_,_,rfl,by simp,by decide,fun h=>by simp at h,fun j z hz=>⟨_,_,rfl,?_⟩⟩
 rw[ak (heap_alloc_new w _)]
 match j,hz with
 | 0,hz=>simp at hz;subst hz;rfl
 | 1,hz=>simp at hz;subst hz;rfl
end
section
open Go.RowKit
def bX:List Bool→List Nat
 | a :: c :: l=>(a.toNat+2 * c.toNat) :: bX l
 | _=>[]
theorem Nu:∀ l:List Bool,(bX l).length=l.length / 2
 | []=>rfl
 | [_]=>by simp[bX]
 | a :: c :: l=>by
  have:=Nu l
  simp only [bX,List.length_cons,this]
  omega
theorem qd3:∀ (l:List Bool) (j:Nat),2 * j+1<l.length→(bX l)[j]? = some ((l.getD (2 * j) false).toNat+2 * (l.getD (2 * j+1) false).toNat)
 | [],j,h=>by simp at h
 | [_],j,h=>by simp at h
 | a :: c :: l,0,_=>rfl
 | a :: c :: l,j+1,h=>by
  have:=qd3 l j (by simp at h;omega)
  rw[show 2 * (j+1)=(2 * j+1)+1 by omega]
  simp only [bX,List.getElem?_cons_succ,this,List.getD_cons_succ]
theorem Rz:∀ (l:List Bool),∀ k ∈ bX l,k<4
 | [],k,h=>by simp[bX] at h
 | [_],k,h=>by simp[bX] at h
 | a :: c :: l,k,h=>by
  simp only [bX,List.mem_cons] at h
  rcases h with rfl|h
  ·cases a <;> cases c <;> decide
  ·exact Rz l k h
theorem J7(ks:List Nat)(h4:∀ k ∈ ks,k<4):bX (bP ks)=ks:=by
 induction ks with
 | nil=>rfl
 | cons k ks ih =>
  have hk:=h4 k (by simp)
  have ih:=ih (fun x hx=>h4 x (by simp[hx]))
  have h2:bP (k :: ks)=(k % 2 == 1) :: (k / 2 % 2 == 1) :: bP ks:=by simp[bP,jN,List.range_succ]
  rw[h2]
  simp only [bX,ih]
  congr 1
  match k,hk with
  | 0,_=>rfl
  | 1,_=>rfl
  | 2,_=>rfl
  | 3,_=>rfl
theorem qoy(b:Nat)(v:Value)(l:List Bool)(w:World)(hv:aK w b v l)(ho:l.length % 2=1)(hl:l.length≤1000000000) :
  Calls Tryz.prog 183 #[.pointer (some ⟨b,0,none⟩)] w fun e w'=>e=.returned (.tuple #[.pointer none,.int .i64 3])∧w=w':=by
 have hL:=rY b v l w hv
 have e1:(((l.length:Nat):Int) % 2 == 1)=true:=by simp;omega
 clear hv
 go_enter Tryz.func183,Tryz.ntmps183
 go_wp2_with (go_at_call 99;refine hL.mono ?_;rintro e w' ⟨rfl,rfl⟩)
 go_ret2
 exact⟨rfl,rfl⟩
theorem qhb(b:Nat)(v:Value)(l:List Bool)(w:World)(hv:aK w b v l)(ho:l.length % 2=0)(hl:l.length≤100000000) :
  Calls Tryz.prog 183 #[.pointer (some ⟨b,0,none⟩)] w fun e w'=>∃ b2,e=.returned (.tuple #[.pointer (some ⟨b2,0,none⟩),.int .i64 0])∧uy w b2 (bX l) w':=by
 obtain⟨ii,hi,hz0,hz1,hz2⟩:=info_parts Zt
 have HV:Hid (∀ W,Keeps (fun _=>False) w W→aK W b v l):=ah (fun W hk=>hv.keeps hk (fun h=>h) (fun _ _ h=>h))
 have hL:=rY b v l w hv
 have e1:(((l.length:Nat):Int) % 2 == 1)=false:=by simp;omega
 clear hv
 go_enter Tryz.func183,Tryz.ntmps183
 go_wp2_with (go_at_call 99;refine hL.mono ?_;rintro e w' ⟨rfl,rfl⟩)
 refine (Uw _).mono ?_
 rintro e w1 ⟨rfl,rfl⟩
 clear hL
 have h0:uy w w.heap.size [] (w.alloc (.cells #[.slice none 0 0] 236)):=⟨_,Zu w,Nat.le_refl _,fun k hk=>by simp[Value.ownBlock] at hk,(Keeps.refl _ w).alloc _⟩
 obtain⟨b2,hb2⟩:∃ b,b=w.heap.size:=⟨_,rfl⟩
 rw[← hb2] at h0
 rw[← hb2]
 clear hb2 e1
 generalize World.alloc _ _=wM at *
 have HO:=ah ho
 clear ho
 go_wp2_with fail
 go_loopg [5] (l.length / 2) (fun m i wr=>∃ j:Nat,j≤l.length / 2∧m=l.length / 2 - j∧i=.int .i64 (2 * (j:Int))∧uy w b2 ((bX l).take j) wr)
 case atStart=>exact⟨0,Nat.zero_le _,rfl,rfl,h0⟩
 case round =>
  obtain⟨j,hj,aN,rfl,v1,hv1,hbw,hvw,aT⟩:=hrel
  have HG:=ah aN
  clear aN h0
  have xJ:=HV.out wr aT
  have hL:=rY b v l wr xJ
  by_cases hlt:j<l.length / 2
  ·have hWd:=HV.out wr.drew aT.drew
   have hA:=Qm b v l (2 * (j:Int)) wr.drew hWd (by omega)
   have hB:=Qm b v l (2 * (j:Int)+1) wr.drew hWd (by omega)
   have a1:=Lj l (2 * j) (by omega)
   have a2:=Lj l (2 * j+1) (by omega)
   rw[show ((2 * j:Nat):Int)=2 * (j:Int) by omega] at a1
   rw[show ((2 * j+1:Nat):Int)=2 * (j:Int)+1 by omega] at a2
   rw[a1] at hA
   rw[a2] at hB
   have hg:=qd3 l j (by omega)
   have hst:=lX hg
   have hll:((bX l).take j).length=j:=by rw[List.length_take,Nu];omega
   obtain⟨x,hx⟩:∃ x,x=(l.getD (2 * j) false).toNat:=⟨_,rfl⟩
   obtain⟨y,hy⟩:∃ y,y=(l.getD (2 * j+1) false).toNat:=⟨_,rfl⟩
   rw[← hx] at hA hst
   rw[← hy] at hB hst
   have hx1:x≤1:=by rw[hx];cases l.getD (2 * j) false <;> decide
   have hy1:y≤1:=by rw[hy];cases l.getD (2 * j+1) false <;> decide
   have hown:=hv1.2
   have c0:wr.cell? ⟨b2,0,none⟩=some v1:=ak hv1.1 0
   have hnl:((bX l).take j).length≤100000000:=by omega
   have HS:=ah hst
   have Nj:Hid (bW wr.drew b2 v1 ((bX l).take j)):=ah (hv1.keeps (Keeps.refl (fun _=>False) wr).drew (fun h=>h) (fun _ _ h=>h))
   have Dk:=ah (aj hbw (aj hvw aT.drew))
   clear a1 a2 hx hy hg hst hll xJ hWd hv1
   generalize (bX l).take j=ks at *
   have hlt2:2 * (j:Int)<(l.length:Int):=by omega
   go_wp2_with fail
   refine hL.mono ?_
   rintro e w' ⟨rfl,rfl⟩
   clear hL
   go_wp2_with fail
   have e2:IntKind.i64.wrap (2 * (j:Int)+1)=2 * (j:Int)+1:=IntWalk.i64_in _ (by omega)
   have e3:IntKind.i64.wrap (2 * (y:Int))=2 * (y:Int):=IntWalk.i64_in _ (by omega)
   have e4:IntKind.i64.wrap ((x:Int)+2 * (y:Int))=(x:Int)+2 * (y:Int):=IntWalk.i64_in _ (by omega)
   have e5:IntKind.u8.wrap ((x:Int)+2 * (y:Int))=(x:Int)+2 * (y:Int):=IntWalk.u8_in _ (by omega)
   have vH:=hown.drew
   have c0a:(wr.alloc (.cells #[.int .u8 ((x:Int)+2 * (y:Int))] 5)).cell? ⟨b2,0,none⟩=some v1:=uo c0 _
   have HE:Hid (((x+2 * y:Nat):Int)=(x:Int)+2 * (y:Int)):=ah (by omega)
   go_region_law (first | ((refine step_append_lies _ rfl (.tmp 21) (.tmp 32) 30 rfl 0 5 ii (.int .u8 0) 1 1 Tryz.underlying30 hi hz0 hz1 hz2 rfl (by decide) v1 ks.length _ (by simp[Act.eval]) (vH.alloc _) ⟨wr.heap.size,0,none⟩ 1 1 [.int .u8 ((x:Int)+2 * (y:Int))] (by simp[Act.eval]) rfl (cell_one_new _ _ _) (by intro u hu;simp at hu;subst hu;rfl) (by decide) (by unfold maxLen;omega) (by omega) (by simp) (wr.heap.size+1) (by simp) ?_);intro g2 cap2 w1 hown1 hgrow hat hgl;rw[← HE.out] at hown1;have hP:=Nj.out.push hown1 hgrow hat;have d0:w1.cell? ⟨b2,0,none⟩=some v1:=ak hP.2 0;have f0:w1.frozen? ⟨b2,0,none⟩=false:=au hP.2 0;have HP:=ah hP.1;clear hP hown1 hgrow hat) | (go_simp;go_at_call 195;first | ((with_reducible refine hA.mono ?_);rintro e w' ⟨rfl,rfl⟩) | ((with_reducible refine hB.mono ?_);rintro e w' ⟨rfl,rfl⟩)))
   all_goals
    have hW:=uy.grown Dk.out.1 Dk.out.2.1 Dk.out.2.2 HP.out
    rw[← HS.out] at hW
    have HW:=ah hW
    clear hW hA hB hown vH e2 e3 e4 e5 c0 c0a
    go_wp2
    go_roundg (l.length / 2 - (j+1))
    case measure=>rw[HG.out];omega
    case rel=>exact⟨j+1,by omega,rfl,by go_num,HW.out⟩
  ·obtain rfl:j=l.length / 2:=by omega
   have hE:(bX l).take (l.length / 2)=bX l:=List.take_of_length_le (by rw[Nu];exact Nat.le_refl _)
   have hge:¬ 2 * ((l.length / 2:Nat):Int)<(l.length:Int):=by have:=HO.out;omega
   rw[hE] at hv1
   have HF:Hid (uy w b2 (bX l) wr):=ah ⟨v1,hv1,hbw,hvw,aT⟩
   clear hE hv1 hbw hvw aT xJ hlt
   go_wp2_with fail
   refine hL.mono ?_
   rintro e w' ⟨rfl,rfl⟩
   clear hL
   go_wp2
   go_ret2
   exact⟨_,rfl,HF.out⟩
end
section
open Go.RowKit
def yI(ks:List Nat):Prop:=∀ (i m:Nat) (r:Int),ks[i]? = some 3→bK ks i m→fC ks i r→¬ (m:Int)<r
def fD(ks:List Nat)(n:Nat):Prop:=∀ (i m:Nat) (r:Int),i<n→ks[i]? = some 3→bK ks i m→fC ks i r→¬ (m:Int)<r
theorem fD.zero(ks:List Nat):fD ks 0:=fun i _ _ h=>by omega
theorem fD.skip{ks:List Nat}{n k:Nat}(h:fD ks n)(hk:ks[n]? = some k)(h3:¬ k=3):fD ks (n+1):=fun i m r hi hx hm hr=>by
 rcases Nat.lt_or_ge i n with h1|h1
 ·exact h i m r h1 hx hm hr
 ·obtain rfl:i=n:=by omega
  rw[hk] at hx
  exact absurd (Option.some.inj hx) h3
theorem fD.step{ks:List Nat}{n m:Nat}{r:Int}(h:fD ks n)(hm:bK ks n m)(hr:fC ks n r)(hle:¬ (m:Int)<r):fD ks (n+1):=fun i m' r' hi hx hm' hr'=>by
 rcases Nat.lt_or_ge i n with h1|h1
 ·exact h i m' r' h1 hx hm' hr'
 ·obtain rfl:i=n:=by omega
  rw[← hm.unique hm',← hr.unique hr']
  exact hle
theorem fD.all{ks:List Nat}{n:Nat}(h:fD ks n)(hn:ks.length≤n):yI ks:=fun i m r hx hm hr=>h i m r (Nat.lt_of_lt_of_le (fK hx) hn) hx hm hr
def qjo(w:World)(ks:List Nat)(e:Ending)(w':World):Prop :=
 (iQ ks∧yI ks∧∃ bm bo bi bp,e=.returned (.tuple #[.agg #[.pointer (some ⟨bm,0,none⟩)],.int .i64 0])∧eZ w' bm bo bi bp ks (11 * ks.length) (fun x=>w.heap.size≤x∧x<w'.heap.size)∧Keeps (fun _=>False) w w') ∨
 (¬ iQ ks∧e=.returned (.tuple #[.agg #[.pointer none],.int .i64 9])∧Keeps (fun _=>False) w w') ∨
 (iQ ks∧¬ yI ks∧e=.returned (.tuple #[.agg #[.pointer none],.int .i64 10])∧Keeps (fun _=>False) w w')
theorem q9v(p:Value)(ks:List Nat)(w:World)(hl:ks.length≤131072)
  (hI:∀ W,Keeps (fun _=>False) w W→Calls Tryz.prog 256 #[p] W (QI W ks)) :
  Calls Tryz.prog 220 #[p] w (qjo w ks):=by
 have k0:=(Keeps.refl (fun _=>False) w).alloc (.cells #[.pointer none] 298)
 have hI0:=hI _ k0
 have hsz:(w.alloc (.cells #[.pointer none] 298)).heap.size=w.heap.size+1:=by simp
 have hblk:=heap_alloc_new w (.cells #[.pointer none] 298)
 clear hI
 go_enter Tryz.func220,Tryz.ntmps220
 go_wp2_with fail
 refine hI0.mono ?_
 clear hI0
 intro e w1 h1
 generalize w.alloc (.cells #[.pointer none] 298)=W at *
 have hg:=ah (rfl:w.heap.size=w.heap.size)
 generalize hgg:w.heap.size=g at hsz hblk ⊢
 have G8:=ah hgg
 clear hgg hg
 rcases h1 with⟨hB,bm,bo,bi,bp,rfl,hM,hk1⟩|⟨hB,rfl,hk1⟩
 rotate_left
 ·have hb1:=hk1.at hblk (fun h=>h)
  have c0:w1.cell? ⟨g,0,none⟩=some (.pointer none):=ak hb1 0
  have c1:=au hb1 0
  have hc:=ak (dM hb1 0 (.pointer none)) 0
  have EN:=(k0.trans hk1 (fun _ _ h=>h)).trans ((Keeps.refl (fun x=>x=g) w1).setCell (p:=⟨g,0,none⟩) (.inl rfl) (.pointer none)) (fun x hx h=>by have:=G8.out;omega)
  have HF:=ah (aj hB EN)
  clear k0 hk1 hblk hb1 hsz EN hB
  go_wp2
  refine bodyPost_ret (v:=.tuple #[.agg #[.pointer none],.int .i64 9]) ?_ rfl (.inr (.inl ⟨HF.out.1,rfl,HF.out.2⟩))
  simp[results,Tryz.results220,go_sem,hc]
 ·have hb1:=hk1.at hblk (fun h=>h)
  have hM0:=hM.after
  have hold:=hM.old
  have hk4:=hM.k4
  have Nv:=fun n=>(Jz (hM.keeps ((Keeps.refl (fun _=>False) w1).drewN n) (fun _ _ h=>h)))
  clear hM
  obtain⟨F,RA⟩:∃ F:Nat→Prop,F=(fun x=>W.heap.size≤x∧x<w1.heap.size):=⟨_,rfl⟩
  rw[← RA] at hM0
  have EO:∀ x,F x→x<w1.heap.size:=by rw[RA];exact hold
  have Nw:=ah RA
  clear hold
  clear RA
  go_wp2_with fail
  refine (Nv 0).mono ?_
  rintro e w2 ⟨rfl,rfl⟩
  clear Nv
  go_wp2_with fail
  generalize hn:ks.length=n at *
  go_loopg [22] n (fun m t wr=>∃ k:Nat,k≤n∧m=n - k∧t=.int .i64 k∧fD ks k∧bM w1 bm bo bi bp ks (11 * k) F wr)
  case atStart=>exact⟨0,Nat.zero_le _,rfl,rfl,fD.zero _,hM0.drewN 0⟩
  case round =>
   obtain⟨k,hk,aN,rfl,hC,hM⟩:=hrel
   clear hM0
   by_cases hlt:k<n
   ·have hx:=List.getElem?_eq_getElem (l:=ks) (i:=k) (by omega)
    obtain⟨x,hxe⟩:∃ x,x=ks[k]'(by omega):=⟨_,rfl⟩
    rw[← hxe] at hx
    clear hxe
    have hA:=JA hM.1 k x hx
    by_cases h3:x=3
    ·subst h3
     obtain⟨m,hm⟩:=hB.mate hk4 (show k<ks.length by omega)
     obtain⟨r,hr⟩:=hB.owner (i:=k) (by omega)
     have hM1:=fun n=>QE EO (hM.drewN n) k m (by omega) hm
     have HH:=ah (aj aN (aj hC (aj hx (aj hm hr))))
     have hb2:=hk1.at hblk (fun h=>h)
     clear hM aN hC
     go_wp2_with fail
     refine hA.mono ?_
     rintro e w3 ⟨rfl,nq,rfl⟩
     clear hA
     go_wp2_with fail
     refine (hM1 nq).mono ?_
     rintro e w4 ⟨rfl,p8⟩
     clear hM1
     have hO:=qem EO p8 k r (by omega) (by omega) hr
     clear p8
     go_wp2_with fail
     refine hO.mono ?_
     rintro e w5 ⟨rfl,yA⟩
     clear hO
     by_cases hle:(m:Int)<r
     ·have hb5:=(yA.2).at hb2 (fun h=>by rw[Nw.out] at h;omega)
      have c0:w5.cell? ⟨g,0,none⟩=some (.pointer none):=ak hb5 0
      have c1:=au hb5 0
      have hc:=ak (dM hb5 0 (.pointer none)) 0
      have EN:=((k0.trans hk1 (fun _ _ h=>h)).trans yA.2 (fun x hx h=>by rw[Nw.out] at h;have:=G8.out;omega)).trans ((Keeps.refl (fun x=>x=g) w5).setCell (p:=⟨g,0,none⟩) (.inl rfl) (.pointer none)) (fun x hx h=>by have:=G8.out;omega)
      have HF:=ah (aj hB EN)
      clear k0 hk1 hblk hb1 hb2 hb5 hsz EN hB yA
      go_wp2
      refine bodyPost_ret (v:=.tuple #[.agg #[.pointer none],.int .i64 10]) ?_ rfl (.inr (.inr ⟨HF.out.1,fun hC=>hC k m r HH.out.2.2.1 HH.out.2.2.2.1 HH.out.2.2.2.2 hle,rfl,HF.out.2⟩))
      simp[results,Tryz.results220,go_sem,hc]
     ·have HG:=ah (aj HH.out.1 (aj (HH.out.2.1.step hm hr hle) (yA)))
      clear yA
      go_wp2
      go_roundg (n - (k+1))
      case measure=>rw[HG.out.1];omega
      case rel=>exact⟨k+1,by omega,rfl,by go_num,HG.out.2.1,HG.out.2.2.more (by omega)⟩
    ·have h3':¬ (x:Int)=3:=by omega
     go_wp2_with fail
     refine hA.mono ?_
     rintro e w3 ⟨rfl,nq,rfl⟩
     have HG:=ah (aj aN (aj (hC.skip hx h3) (hM.drewN nq)))
     clear hA hM hC aN
     go_wp2
     go_roundg (n - (k+1))
     case measure=>rw[HG.out.1];omega
     case rel=>exact⟨k+1,by omega,rfl,by go_num,HG.out.2.1,HG.out.2.2.more (by omega)⟩
   ·have hb5:=(hM.2).at (hk1.at hblk (fun h=>h)) (fun h=>by rw[Nw.out] at h;omega)
    have c0:wr.cell? ⟨g,0,none⟩=some (.pointer none):=ak hb5 0
    have c1:=au hb5 0
    have hc:=ak (dM hb5 0 (.pointer (some ⟨bm,0,none⟩))) 0
    have k1:=(Keeps.refl (fun x=>x=g) wr).setCell (p:=⟨g,0,none⟩) (.inl rfl) (.pointer (some ⟨bm,0,none⟩))
    have EN:=((k0.trans hk1 (fun _ _ h=>h)).trans hM.2 (fun x hx h=>by rw[Nw.out] at h;have:=G8.out;omega)).trans k1 (fun x hx h=>by have:=G8.out;omega)
    have hgr:∀ x,grow F w1 wr x→g<x∧x<wr.heap.size:=fun x hx=>by
     rcases hx with h|h
     ·have:=hM.2.size
      rw[Nw.out] at h;omega
     ·have:=hk1.size
      omega
    have hMS:=(hM.1.keeps k1 (fun x hx h=>by have:=hgr x hx;omega)).mono (G:=fun x=>w.heap.size≤x∧x<(wr.setCell ⟨g,0,none⟩ (.pointer (some ⟨bm,0,none⟩))).heap.size) (fun x hx=>by have:=hgr x hx;have:=G8.out;simp;omega) (fun x hx=>hx.2)
    have HF:=ah (aj hB (aj (hC.all (by omega)) (aj (hMS.more (q':=11 * n) (by omega)) EN)))
    clear k0 hk1 hblk hb1 hb5 hsz EN hB hM k1 hMS hgr hC
    go_wp2
    refine bodyPost_ret (v:=.tuple #[.agg #[.pointer (some ⟨bm,0,none⟩)],.int .i64 0]) ?_ rfl (.inl ⟨HF.out.1,HF.out.2.1,bm,bo,bi,bp,rfl,by rw[hn];exact HF.out.2.2.1,HF.out.2.2.2⟩)
    simp[results,Tryz.results220,go_sem,hc]
end
