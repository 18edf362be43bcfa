import Derived.Test.YtcfdpogegngplaaGreatZg0i
import Derived.Test.YtcfdpogegngplaaGreatZg07
set_option maxRecDepth 100000
set_option maxHeartbeats 4000000
namespace Go.Proofs.YtcfdpogegngplaaGreat
section
open Go.RowKit
def sg(s:List Nat)(d:Nat):Nat:=s.getD d 0
theorem yB{s:List Nat}{d:Nat}(h:d<s.length):s[d]? = some (sg s d):=by
 rw[sg,List.getD_eq_getElem?_getD,List.getElem?_eq_getElem h];rfl
def kV(S:Nat→Nat)(d k:Nat):List Nat:=(List.range k).map fun i=>bg S i d
theorem qcs(S:Nat→Nat)(d k:Nat):kV S d (k+1)=kV S d k ++ [bg S k d]:=by simp[kV,List.range_succ]
theorem q8l(S:Nat→Nat)(d k:Nat):(kV S d k).length=k:=by simp[kV]
theorem xk(l:List Nat)(x:Nat):aB (l ++ [x])=aB l ++ [(x:Int)]:=by simp[aB]
theorem GY(w:World)(z:Int):aF w.heap.size (w.alloc (.cells #[.int .i64 z] 3)) (.slice (some ⟨w.heap.size,0,none⟩) 1 1) [z]:=by
 have h1:=World.ownsRow_lit (base:=w.heap.size) (e:=3) (size:=1) w #[.int .i64 z] 1 (Nat.le_refl _) (by unfold maxLen;omega) rfl
 exact h1
theorem q7k(sv:Value)(s:List Nat)(d:Nat)(w:World)(hs:Sl .i64 w sv (aB s))(hP:aM s.length (sg s))(hd:d<s.length)(hl:s.length≤1000000) :
  Calls Tryz.prog 68 #[sv,.int .i64 d] w fun e w'=>∃ v,e=.returned v∧aF w.heap.size w' v (aB (lu (sg s) d))∧Keeps (fun _=>False) w w':=by
 have HS:Hid (∀ W,Keeps (fun _=>False) w W→Sl .i64 W sv (aB s)):=ah (fun W hk=>hs.keeps hk (fun _ _ h=>h))
 obtain⟨a,cap,rfl,hnc,hcm,_,hc⟩:=hs
 rw[q01] at hnc HS ⊢
 obtain⟨p1,p2,p3,p4⟩:=hP.aZ hd
 obtain⟨g,off,rfl,hcell⟩:=hc d _ (jq (yB hd))
 have hgw:=World.block_lt_of_cell? _ _ hcell
 have HP:=ah (aj hP (aj p3 p4))
 have h0:aF w.heap.size (w.alloc (.cells #[.int .i64 d] 3)) (.slice (some ⟨w.heap.size,0,none⟩) 1 1) (aB (kV (sg s) d 1))∧Keeps (fun _=>False) w (w.alloc (.cells #[.int .i64 d] 3)) :=
  ⟨GY w d,(Keeps.refl _ w).alloc _⟩
 have hcA:=uo hcell (.cells #[.int .i64 d] 3)
 clear hc hP p3 p4 hcell
 go_enter Tryz.func68,Tryz.ntmps68
 go_wp2_with fail
 clear hcA
 generalize World.alloc _ _=wM at *
 go_loopg [5,6] (per (sg s) d) (fun m ov x wr=>∃ k:Nat,k+1≤per (sg s) d∧m=per (sg s) d - k∧x=.int .i64 (bg (sg s) (k+1) d:Nat)∧aF w.heap.size wr ov (aB (kV (sg s) d (k+1)))∧Keeps (fun _=>False) w wr)
 case atStart=>exact⟨0,p1,rfl,rfl,h0⟩
 case round =>
  clear h0
  obtain⟨k,hk,aN,rfl,hown,aT⟩:=hrel
  have HG:=ah aN
  clear aN
  by_cases hlt:k+1<per (sg s) d
  ·have hne:=HP.out.2.2 (k+1) (by omega) hlt
   have hxl:=HP.out.1.bV hd (k+1)
   have hst:=qcs (sg s) d (k+1)
   have hlen:=q8l (sg s) d (k+1)
   obtain⟨a',cap',zB,_,_,_,hc⟩:=HS.out wr aT
   simp only [Value.slice.injEq] at zB
   obtain⟨hq,-,rfl⟩:=zB
   subst hq
   obtain⟨g',off',hgo,hcell⟩:=hc _ _ (jq (yB hxl))
   simp only [Option.some.injEq,Addr.mk.injEq,and_true] at hgo
   obtain⟨rfl,rfl⟩:=hgo
   have hnext:sg s (bg (sg s) (k+1) d)=bg (sg s) (k+1+1) d:=rfl
   rw[hnext] at hcell
   have hfo:=hown.form
   rw[q01,hlen] at hfo
   obtain⟨la,lc,rfl,_,_⟩:=hfo
   generalize hy:bg (sg s) (k+1+1) d=y at *
   generalize hx:bg (sg s) (k+1) d=x at *
   have hnb:(((x:Nat):Int) != ((d:Nat):Int))=true:=by rw[bne_iff_ne];omega
   have HN:Hid ((aB (kV (sg s) d (k+1))).length=k+1):=ah (by rw[q01];exact hlen)
   have hsz:=aT.size
   have HH:=ah (aj hx (aj hst aT))
   have HY:=ah hy
   have hkl:k+1≤10000000000:=by omega
   clear hc hx hy hst hlen aT hne hnext
   have Ew:Hid (∀ W,Keeps (fun q=>(Value.slice la (k+1) lc).ownBlock=some q) wr W→W.cell? ⟨g,off+x,none⟩=some (.int .i64 y)):=ah (fun W hk=>by
    rw[World.cell?_of_block (w:=wr) (hk.block g (World.block_lt_of_cell? _ _ hcell) (fun e=>by have:=(hown.lt g e).1;omega))]
    exact hcell)
   clear hcell
   go_wp2_with (at_builtin;refine mP (k+1) rfl _ _ rfl w.heap.size (.slice la (k+1) lc) (aB (kV (sg s) d (k+1))) (x:Nat) HN wr.heap.size rfl rfl rfl hown hkl hsz ?_;intro g2 cap2 w3 hown3 hk3 hat hg;have uE:=Ew.out w3 hk3)
   have vG:=HH.out.2.2.trans hk3 (fun y hy h=>by have:=(hown.lt y h).1;omega)
   rw[← xk] at hown3
   have hst:=HH.out.2.1
   rw[← hst] at hown3
   have HF:=ah (aj hown3 vG)
   clear hown3 vG hk3 hat hown hst uE
   go_roundg (per (sg s) d - (k+1))
   case measure=>rw[HG.out];omega
   case rel=>exact⟨k+1,by omega,rfl,by rw[HY.out],HF.out⟩
  ·have hpe:k+1=per (sg s) d:=by omega
   have hx:bg (sg s) (k+1) d=d:=by rw[hpe];exact HP.out.2.1
   have ho:kV (sg s) d (k+1)=lu (sg s) d:=by rw[hpe];rfl
   rw[ho] at hown
   rw[hx]
   have HF:=ah (aj hown aT)
   clear hx ho hown aT
   go_wp2
   go_ret
   exact⟨_,rfl,HF.out⟩
end
section
open Go.RowKit
theorem Sl.cellAt{k:IntKind}{w:World}{a:Option Addr}{n cap:Nat}{zs:List Int}(h:Sl k w (.slice a n cap) zs){j:Nat}{z:Int}(hz:zs[j]? = some z):∃ g off,a=some ⟨g,off,none⟩∧w.cell? ⟨g,off+j,none⟩=some (.int k z):=by
 obtain⟨a',cap',hq,_,_,_,hc⟩:=h
 simp only [Value.slice.injEq] at hq
 obtain⟨rfl,-,rfl⟩:=hq
 exact hc j z hz
theorem Sl.cellOf{k:IntKind}{w:World}{g off n cap:Nat}{zs:List Int}(h:Sl k w (.slice (some ⟨g,off,none⟩) n cap) zs){j:Nat}{z:Int}(hz:zs[j]? = some z):w.cell? ⟨g,off+j,none⟩=some (.int k z):=by
 obtain⟨g',off',hq,hc⟩:=h.cellAt hz
 simp only [Option.some.injEq,Addr.mk.injEq,and_true] at hq
 obtain⟨rfl,rfl⟩:=hq
 exact hc
theorem Sl.form{k:IntKind}{w:World}{sv:Value}{zs:List Int}(h:Sl k w sv zs):∃ a cap,sv=.slice a zs.length cap∧zs.length≤cap∧cap≤9223372036854775807:=by
 obtain⟨a,cap,h1,h2,h3,_⟩:=h
 exact⟨a,cap,h1,h2,h3⟩
theorem zC{s:List Nat}{d:Nat}(h:d<s.length):(aB s)[d]? = some ((sg s d:Nat):Int):=jq (yB h)
theorem JL(d:Nat)(w:World)(hd:d≤1000000000) :
  Calls Tryz.prog 74 #[.int .i64 d] w fun e w'=>e=.returned (.int .i64 (mt d:Nat))∧w=w':=by
 unfold mt
 by_cases hp:d % 2=0
 ·rw[if_pos hp]
  have e1:(((d:Nat):Int) % 2 == 0)=true:=by simp;omega
  have HE:Hid ((((d+1:Nat)):Int)=(d:Int)+1):=ah (by omega)
  clear hp
  go_enter Tryz.func74,Tryz.ntmps74
  go_wp2
  go_ret
  exact⟨by rw[HE.out];rfl,rfl⟩
 ·rw[if_neg hp]
  have e1:(((d:Nat):Int) % 2 == 0)=false:=by simp;omega
  have HE:Hid ((((d - 1:Nat)):Int)=(d:Int) - 1):=ah (by omega)
  have h1:1≤(d:Int):=by omega
  clear hp
  go_enter Tryz.func74,Tryz.ntmps74
  go_wp2
  go_ret
  exact⟨by rw[HE.out];rfl,rfl⟩
noncomputable def gQ(S:Nat→Nat)(e:Nat):Nat:=bg S (per S e - 1) e
theorem aM.bC{n:Nat}{S:Nat→Nat}(h:aM n S){e:Nat}(he:e<n):gQ S e<n:=h.bV he _
theorem aM.bS{n:Nat}{S:Nat→Nat}(h:aM n S){e:Nat}(he:e<n):S (gQ S e)=e:=by
 have h0:=(h.aZ he).1
 have:bg S (per S e - 1+1) e=e:=by rw[Nat.sub_add_cancel h0];exact (h.aZ he).2.2.1
 exact this
theorem aM.inv_of{n:Nat}{S:Nat→Nat}(h:aM n S){d:Nat}(hd:d<n):gQ S (S d)=d :=
 h.inj _ _ (h.bC (h.lt d hd)) hd (h.bS (h.lt d hd))
def sU(s:List Nat)(j:Nat)(zs:List Int):Prop:=zs.length=s.length∧∀ i,i<j→zs[sg s i]? = some (i:Int)
theorem sU.step{s:List Nat}{j:Nat}{zs:List Int}(hP:aM s.length (sg s))(hj:j<s.length)(h:sU s j zs):sU s (j+1) (zs.set (sg s j) (j:Int)):=by
 obtain⟨h1,h2⟩:=h
 refine⟨by simpa using h1,fun i hi=>?_⟩
 rw[List.getElem?_set]
 by_cases hij:i=j
 ·subst hij
  have:=hP.lt i hj
  have hb:sg s i<s.length:=this
  simp[h1,hb]
 ·rw[if_neg (fun e=>hij (hP.inj _ _ (by omega) hj e.symm))]
  exact h2 i (by omega)
theorem sU.done{s:List Nat}{zs:List Int}(hP:aM s.length (sg s))(h:sU s s.length zs):zs=aB ((List.range s.length).map (gQ (sg s))):=by
 apply List.ext_getElem?
 intro e
 rcases Nat.lt_or_ge e s.length with he|he
 ·have h1:=h.2 (gQ (sg s) e) (hP.bC he)
  rw[hP.bS he] at h1
  rw[h1]
  simp[aB,he]
 ·rw[List.getElem?_eq_none (by rw[h.1];exact he),List.getElem?_eq_none (by simp[aB];exact he)]
def aO(w:World)(g n:Nat)(P:List Int→Prop)(wr:World):Prop :=
 ∃ zs,zs.length=n∧P zs∧aF w.heap.size wr (.slice (some ⟨g,0,none⟩) n n) zs∧Keeps (fun _=>False) w wr
theorem aO.made(w:World)(n:Nat)(P:List Int→Prop)(hP:P (List.replicate n 0))(hn:n≤100000000):aO w w.heap.size n P (w.alloc (.cells (madeCells #[.int .i64 0] n) 3)) :=
 ⟨_,by simp,hP,aF.made w.heap.size w n (Nat.le_refl _) hn,(Keeps.refl _ w).alloc _⟩
theorem aO.old{w wr:World}{g n:Nat}{P:List Int→Prop}(h:aO w g n P wr):w.heap.size≤g∧g<wr.heap.size:=by
 obtain⟨zs,_,_,h3,_⟩:=h
 exact h3.lt g rfl
theorem aO.set{w wr:World}{g n:Nat}{P Q:List Int→Prop}(h:aO w g n P wr)(i:Nat)(z:Int)(hQ:∀ zs,zs.length=n→P zs→Q (zs.set i z)):aO w g n Q (wr.setCell ⟨g,i,none⟩ (.int .i64 z)):=by
 have ho:=h.old.1
 obtain⟨zs,h1,h2,h3,h4⟩:=h
 exact⟨zs.set i z,by simpa using h1,hQ zs h1 h2,h3.set i z,h4.setCell (.inr ho) _⟩
theorem aO.keeps{w wr w1:World}{g n:Nat}{P:List Int→Prop}(h:aO w g n P wr)(hk:Keeps (fun _=>False) wr w1):aO w g n P w1:=by
 obtain⟨zs,h1,h2,h3,h4⟩:=h
 exact⟨zs,h1,h2,h3.keeps hk (fun _ _ h=>h),h4.trans hk (fun _ _ h=>h)⟩
theorem aO.cell{w wr:World}{g n:Nat}{P:List Int→Prop}(h:aO w g n P wr)(i:Nat)(hi:i<n):∃ z:Int,(∃ zs,zs.length=n∧P zs∧zs[i]? = some z)∧wr.cell? ⟨g,i,none⟩=some (.int .i64 z)∧wr.frozen? ⟨g,i,none⟩=false:=by
 obtain⟨zs,h1,h2,h3,h4⟩:=h
 have hz:=List.getElem?_eq_getElem (l:=zs) (i:=i) (by omega)
 exact⟨_,⟨zs,h1,h2,hz⟩,h3.cell hz⟩
theorem aO.mono{w wr:World}{g n:Nat}{P Q:List Int→Prop}(h:aO w g n P wr)(hQ:∀ zs,zs.length=n→P zs→Q zs):aO w g n Q wr:=by
 obtain⟨zs,h1,h2,h3⟩:=h
 exact⟨zs,h1,hQ zs h1 h2,h3⟩
theorem q9r(sv:Value)(s:List Nat)(w:World)(hs:Sl .i64 w sv (aB s))(hP:aM s.length (sg s))(hl:s.length≤1000000) :
  Calls Tryz.prog 62 #[sv] w fun e w'=>∃ g,e=.returned (.slice (some ⟨g,0,none⟩) s.length s.length)∧aO w g s.length (fun zs=>zs=aB ((List.range s.length).map (gQ (sg s)))) w':=by
 have HS:Hid (∀ W,Keeps (fun _=>False) w W→Sl .i64 W sv (aB s)):=ah (fun W hk=>hs.keeps hk (fun _ _ h=>h))
 obtain⟨a,cap,rfl,hnc,hcm⟩:=hs.form
 rw[q01] at hnc HS ⊢
 have h0:=aO.made w s.length (sU s 0) ⟨by simp,fun i hi=>by omega⟩ (by omega)
 have HP:=ah hP
 obtain⟨i,hi,hz0,hz1,hz2⟩:=info_parts pU
 have hmk:=fun w=>run_make (P:=Tryz.prog) w 25 3 i _ Tryz.underlying25 hi hz0 .i64 .i64 (s.length:Int) (s.length:Int) (by omega) (Int.le_refl _) (by rw[hz2];omega) (by omega)
 simp only [hz1,Int.toNat_natCast,Nat.mul_one] at hmk
 clear hP hs hi hz0 hz1 hz2
 go_enter Tryz.func62,Tryz.ntmps62
 go_wp2_with fail
 clear hmk
 generalize World.alloc _ _=wM at *
 obtain⟨g,hg⟩:∃ g,g=w.heap.size:=⟨_,rfl⟩
 rw[← hg] at h0
 rw[← hg]
 clear hg
 go_loopg [11] s.length (fun m i wr=>∃ j:Nat,j≤s.length∧m=s.length - j∧i=.int .i64 j∧aO w g s.length (sU s j) wr)
 case atStart=>exact⟨0,Nat.zero_le _,rfl,rfl,h0⟩
 case round =>
  clear h0
  obtain⟨j,hj,aN,rfl,hM⟩:=hrel
  have HG:=ah aN
  clear aN
  by_cases hlt:j<s.length
  ·obtain⟨_,_,_,_,aT⟩:=id hM
   obtain⟨gs,off,rfl,hcell⟩:=(HS.out wr aT).cellAt (zC hlt)
   have hxl:sg s j<s.length:=HP.out.lt j hlt
   obtain⟨z,_,hc,hf⟩:=hM.cell (sg s j) hxl
   have hN:=hM.set (sg s j) (j:Int) (fun zs _ h=>h.step HP.out hlt)
   have HN:=ah hN
   clear hN hM aT
   generalize sg s j=x at *
   go_wp2
   go_roundg (s.length - (j+1))
   case measure=>rw[HG.out];omega
   case rel=>exact⟨j+1,by omega,rfl,by go_num,HN.out⟩
  ·obtain rfl:j=s.length:=by omega
   have HF:=ah (hM.mono (fun zs _ h=>h.done HP.out))
   clear hM
   go_wp2
   go_ret
   exact⟨g,rfl,HF.out⟩
end
section
open Go.RowKit
def qQ(s:List Nat)(i:Nat)(zs:List Int):Prop:=∀ x,x<s.length→zs[x]? = some (if rep (sg s) x<i then ((aD (sg s) x:Nat):Int) else -1)
def qR(s:List Nat)(i k:Nat)(zs:List Int):Prop:=∀ x,x<s.length→zs[x]? = some (if rep (sg s) x<i then ((aD (sg s) x:Nat):Int) else if x ∈ (lu (sg s) i).take k then ((bT (sg s) i:Nat):Int) else -1)
theorem qR.zero{s:List Nat}{i:Nat}{zs:List Int}(h:qQ s i zs):qR s i 0 zs:=fun x hx=>by rw[h x hx];simp
theorem qR.step{s:List Nat}{i k x:Nat}{zs:List Int}(hP:aM s.length (sg s))(hi:i<s.length)(hr:rep (sg s) i=i)(hx:(lu (sg s) i)[k]? = some x)(hl:zs.length=s.length)(h:qR s i k zs):qR s i (k+1) (zs.set x ((bT (sg s) i:Nat):Int)):=by
 have hxo:x ∈ lu (sg s) i:=List.mem_of_getElem? hx
 have hxn:x<s.length:=hP.nT hi ((hP.nH hi).1 hxo)
 intro y hy
 rw[List.getElem?_set,lX hx]
 have h1:=(hP.pW hi hxn hr).2 hxo
 by_cases hxy:x=y
 ·subst hxy
  rw[if_pos rfl,if_pos (by omega),if_neg h1.2,if_pos (by simp)]
 ·rw[if_neg hxy,h y hy]
  have:(y ∈ (lu (sg s) i).take k ++ [x])↔y ∈ (lu (sg s) i).take k:=by
   simp only [List.mem_append,List.mem_singleton]
   exact⟨fun h=>h.resolve_right (fun e=>hxy e.symm),.inl⟩
  simp only [this]
theorem qR.done{s:List Nat}{i:Nat}{zs:List Int}(hP:aM s.length (sg s))(hi:i<s.length)(hr:rep (sg s) i=i)(h:qR s i (per (sg s) i) zs):qQ s (i+1) zs:=by
 intro y hy
 rw[h y hy,List.take_of_length_le (by rw[Us];exact Nat.le_refl _)]
 obtain⟨h1,h2⟩:=hP.pW hi hy hr
 by_cases a:rep (sg s) y<i
 ·rw[if_pos a,if_pos (by omega)]
 ·rw[if_neg a]
  by_cases b:y ∈ lu (sg s) i
  ·rw[if_pos b,if_pos (h1.2 (.inr b)),(h2 b).1]
  ·rw[if_neg b,if_neg (fun e=>(h1.1 e).elim a b)]
theorem qQ.skip{s:List Nat}{i:Nat}{zs:List Int}(hP:aM s.length (sg s))(hr:rep (sg s) i≠i)(h:qQ s i zs):qQ s (i+1) zs:=by
 intro y hy
 rw[h y hy]
 have:=hP.wL (i:=i) hy hr
 by_cases a:rep (sg s) y<i
 ·rw[if_pos a,if_pos (this.2 a)]
 ·rw[if_neg a,if_neg (fun e=>a (this.1 e))]
theorem qQ.all{s:List Nat}{zs:List Int}(hP:aM s.length (sg s))(hl:zs.length=s.length)(h:qQ s s.length zs):zs=aB ((List.range s.length).map (aD (sg s))):=by
 apply List.ext_getElem?
 intro e
 rcases Nat.lt_or_ge e s.length with he|he
 ·rw[h e he,if_pos (hP.jg he)]
  simp[aB,he]
 ·rw[List.getElem?_eq_none (by omega),List.getElem?_eq_none (by simp[aB];exact he)]
theorem qQ.at{s:List Nat}{i:Nat}{zs:List Int}{z:Int}(hP:aM s.length (sg s))(hi:i<s.length)(h:qQ s i zs)(hz:zs[i]? = some z):(rep (sg s) i=i∧z=-1)∨(rep (sg s) i≠i∧0≤z):=by
 rw[h i hi] at hz
 have hle:=hP.jd hi
 simp only [Option.some.injEq] at hz
 by_cases a:rep (sg s) i<i
 ·rw[if_pos a] at hz;exact .inr ⟨by omega,by omega⟩
 ·rw[if_neg a] at hz;exact .inl ⟨by omega,hz.symm⟩
theorem q9s(sv:Value)(s:List Nat)(w:World)(hs:Sl .i64 w sv (aB s))(hsv:∀ k,sv.ownBlock=some k→k<w.heap.size)(hP:aM s.length (sg s))(hl:s.length≤1000000) :
  Calls Tryz.prog 107 #[sv] w fun e w'=>∃ g,e=.returned (.slice (some ⟨g,0,none⟩) s.length s.length)∧aO w g s.length (fun zs=>zs=aB ((List.range s.length).map (aD (sg s)))) w':=by
 have HS:Hid (∀ W,Keeps (fun _=>False) w W→Sl .i64 W sv (aB s)):=ah (fun W hk=>hs.keeps hk (fun _ _ h=>h))
 obtain⟨a,cap,rfl,hnc,hcm⟩:=hs.form
 rw[q01] at hnc HS hsv ⊢
 have h0:=aO.made w s.length (fun zs=>∀ i,i<0→zs[i]? = some (-1)) (fun i hi=>by omega) (by omega)
 have HP:=ah hP
 obtain⟨i,hi,hz0,hz1,hz2⟩:=info_parts pU
 have hmk:=fun w=>run_make (P:=Tryz.prog) w 25 3 i _ Tryz.underlying25 hi hz0 .i64 .i64 (s.length:Int) (s.length:Int) (by omega) (Int.le_refl _) (by rw[hz2];omega) (by omega)
 simp only [hz1,Int.toNat_natCast,Nat.mul_one] at hmk
 clear hP hs hi hz0 hz1 hz2
 go_enter Tryz.func107,Tryz.ntmps107
 go_wp2_with fail
 clear hmk
 generalize World.alloc _ _=wM at *
 obtain⟨g,hg⟩:∃ g,g=w.heap.size:=⟨_,rfl⟩
 rw[← hg] at h0
 rw[← hg]
 have G8:=ah hg
 clear hg
 go_loopg [14] s.length (fun m i wr=>∃ j:Nat,j≤s.length∧m=s.length - j∧i=.int .i64 j∧aO w g s.length (fun zs=>∀ i,i<j→zs[i]? = some (-1)) wr)
 case atStart=>exact⟨0,Nat.zero_le _,rfl,rfl,h0⟩
 case round =>
  clear h0
  obtain⟨j,hj,aN,rfl,hM⟩:=hrel
  have HG:=ah aN
  clear aN
  by_cases hlt:j<s.length
  ·obtain⟨z,_,hc,hf⟩:=hM.cell j hlt
   have HN:=ah (hM.set (Q:=fun zs=>∀ i,i<j+1→zs[i]? = some (-1)) j (-1) (fun zs hzl h i hi=>by
    rw[List.getElem?_set]
    by_cases hij:j=i
    ·rw[if_pos hij,if_pos (by omega)]
    ·rw[if_neg hij];exact h i (by omega)))
   clear hM
   go_wp2
   go_roundg (s.length - (j+1))
   case measure=>rw[HG.out];omega
   case rel=>exact⟨j+1,by omega,rfl,by go_num,HN.out⟩
  ·obtain rfl:j=s.length:=by omega
   have h1:aO w g s.length (qQ s 0) wr:=hM.mono (fun zs _ h x hx=>by rw[if_neg (by omega)];exact h x hx)
   clear hM hlt hj
   go_wp2_with fail
   go_loopg [5,23] s.length (fun m c i wr=>∃ j:Nat,j≤s.length∧m=s.length - j∧i=.int .i64 j∧c=.int .i64 (bT (sg s) j:Nat)∧aO w g s.length (qQ s j) wr)
   case atStart=>exact⟨0,Nat.zero_le _,rfl,rfl,rfl,h1⟩
   case round =>
    clear h1 HG
    obtain⟨j,hj,aN,rfl,rfl,hM⟩:=hrel
    have HG:=ah aN
    clear aN
    have hld:=yZ (sg s) j
    have hls:=um (sg s) j
    by_cases hlt:j<s.length
    ·obtain⟨z,⟨zs,hzl,sV,hzz⟩,hc,hf⟩:=hM.cell j hlt
     obtain⟨_,_,_,_,aT⟩:=id hM
     rcases qQ.at HP.out hlt sV hzz with⟨hr,rfl⟩|⟨hr,hz⟩
     ·rw[if_pos hr] at hls
      have hO:=q7k (.slice a s.length cap) s j wr (HS.out wr aT) HP.out hlt hl
      have HM:=ah (aj hM (aj hr hls))
      generalize hcc:bT (sg s) j=c at *
      have HC:=ah hcc
      clear hM hr hls sV hzz hzl hcc
      have MK:decide ((0:Int)≤-1)=false:=by decide
      go_wp2_with fail
      refine hO.mono ?_
      rintro e w3 ⟨ov,rfl,hown,hk3⟩
      have hpl:(aB (lu (sg s) j)).length=per (sg s) j:=by rw[q01,Us]
      have hfo:=hown.form
      rw[hpl] at hfo
      obtain⟨oa,oc,rfl,_,hoc⟩:=hfo
      have hg3:g<wr.heap.size:=HM.out.1.old.2
      have Vj:Hid (∀ W,Keeps (fun q=>q=g) w3 W→Sl .i64 W (.slice oa (per (sg s) j) oc) (aB (lu (sg s) j))):=ah (fun W hk=>(hown.keeps hk (fun q hq e=>by have:=(hown.lt q hq).1;omega)).sl)
      have sw:aO w g s.length (qR s j 0) w3:=(HM.out.1.keeps hk3).mono (fun zs _ h=>qR.zero h)
      have zD:=Keeps.refl (fun q=>q=g) w3
      have Vk:per (sg s) j≤1000000:=Nat.le_trans (HP.out.aZ hlt).2.1 hl
      clear hO hown hpl hc hf aT
      go_wp2_with fail
      go_loopg [35] (per (sg s) j) (fun m i wr=>∃ k:Nat,k≤per (sg s) j∧m=per (sg s) j - k∧i=.int .i64 k∧aO w g s.length (qR s j k) wr∧Keeps (fun q=>q=g) w3 wr)
      case atStart=>exact⟨0,Nat.zero_le _,rfl,rfl,sw,zD⟩
      case round =>
       clear sw zD
       obtain⟨k,hk,aN,rfl,p8,hk4⟩:=hrel
       have JM:=ah aN
       clear aN
       by_cases hkl:k<per (sg s) j
       ·have hox:=Zo (S:=sg s) (d:=j) hkl
        have hxn:=HP.out.bV hlt k
        obtain⟨og,oo,rfl,hcell⟩:=(Vj.out _ hk4).cellAt (jq hox)
        obtain⟨z,_,hc4,Vl⟩:=p8.cell _ hxn
        have hN:=p8.set (Q:=qR s j (k+1)) (bg (sg s) k j) ((bT (sg s) j:Nat):Int) (fun zs hzl h=>qR.step HP.out hlt HM.out.2.1 hox hzl h)
        have hkN:=hk4.setCell (p:=⟨g,bg (sg s) k j,none⟩) (.inl rfl) (.int .i64 ((bT (sg s) j:Nat):Int))
        rw[show bT (sg s) j=c from HC.out] at hN hkN
        have HN:=ah (aj hN hkN)
        clear hN hkN p8 hk4 hox
        generalize bg (sg s) k j=x at *
        go_wp2
        go_roundg (per (sg s) j - (k+1))
        case measure=>rw[JM.out];omega
        case rel=>exact⟨k+1,by omega,rfl,by go_num,HN.out⟩
       ·obtain rfl:k=per (sg s) j:=by omega
        have HF:=ah (p8.mono (fun zs _ h=>qR.done HP.out hlt HM.out.2.1 h))
        clear p8 hk4
        go_wp2
        go_roundg (s.length - (j+1))
        case measure=>rw[HG.out];omega
        case rel=>exact⟨j+1,by omega,rfl,by go_num,by rw[HM.out.2.2];go_num,HF.out⟩
     ·rw[if_neg hr] at hls
      have HF:=ah (aj (hM.mono (fun zs _ h=>qQ.skip HP.out hr h)) hls)
      clear hM hr hls sV hzz hzl aT
      generalize bT (sg s) j=c at *
      go_wp2
      go_roundg (s.length - (j+1))
      case measure=>rw[HG.out];omega
      case rel=>exact⟨j+1,by omega,rfl,by go_num,by rw[HF.out.2];go_num,HF.out.1⟩
    ·obtain rfl:j=s.length:=by omega
     have HF:=ah (hM.mono (fun zs hzl h=>qQ.all HP.out hzl h))
     clear hM
     go_wp2
     go_ret
     exact⟨g,rfl,HF.out⟩
end
section
open Go.RowKit
theorem qn{ops:Array Oper}{o:Oper}{a:Act}{K:Act→World→Prop}{Q:Exit→Act→World→Prop}{E:Prop}{wr:World}(n:Nat)(hgd:o.guard=none)(s x:Operand)
  (ho:o.op=.call { callee:=.builtin .append,args:=#[s,x],argTypes:=#[25,25] })(B:Nat)(v:Value)(zs:List Int)(z:Int)(hn:Hid (zs.length=n))(H:Nat)(hH:wr.heap.size=H)(hs:a.eval s=v)(hx:a.eval x=.slice (some ⟨H,0,none⟩) 1 1)
  (hown:aF B wr v zs)(hlen:n≤10000000000)(hB:B≤wr.heap.size)
  (h:∀ g cap w',aF B w' (.slice (some ⟨g,0,none⟩) (n+1) cap) (zs ++ [z])→Keeps (fun k=>v.ownBlock=some k) wr w'→(v.ownBlock=some g∨wr.heap.size≤g)→B≤g→K (a.put o.dst (.slice (some ⟨g,0,none⟩) (n+1) cap)) w') :
  if Region.wanted o (yielded ops a.tmps)=true then Oper.wp Tryz.prog o a (wr.alloc (.cells #[.int .i64 z] 3)) K Q else E:=by
 obtain⟨i,hi,hz0,hz1,hz2⟩:=info_parts pU
 have hn:=hn.out
 subst hn
 subst hH
 refine step_append_lies _ hgd s x _ ho B 3 i (.int .i64 0) 1 8 Tryz.underlying25 hi hz0 hz1 hz2 rfl (by decide) v zs.length _ hs (hown.alloc _) ⟨wr.heap.size,0,none⟩ 1 1 [.int .i64 z] hx rfl (cell_one_new _ _ _) ?_ (by decide) ?_ ?_ ?_ (wr.heap.size+1) (by simp) ?_
 ·intro u hu;simp at hu;subst hu;rfl
 ·unfold maxLen;omega
 ·omega
 ·simp;omega
 ·intro g cap w1 hown1 hgrow hat _
  refine h g cap w1 ?_ (((Keeps.refl _ wr).alloc _).grown hgrow (fun k hk=>.inl hk)) (hat.imp id (fun h=>by omega)) ?_
  ·unfold aF ints
   rw[List.length_append,List.map_append]
   exact hown1
  ·exact (hown1.lt g rfl).1
theorem q60{ops:Array Oper}{o:Oper}{a:Act}{K:Act→World→Prop}{Q:Exit→Act→World→Prop}{E:Prop}{wr:World}(n:Nat)(hgd:o.guard=none)(s x:Operand)
  (ho:o.op=.call { callee:=.builtin .append,args:=#[s,x],argTypes:=#[25,25] })(B:Nat)(v:Value)(zs:List Int)(z:Int)(hn:Hid (zs.length=n))(H:Nat)(hH:wr.heap.size=H)(hs:a.eval s=v)(hx:a.eval x=.slice (some ⟨H,0,none⟩) 1 1)
  (hown:aF B wr v zs)(hlen:n≤10000000000)(hB:B≤wr.heap.size)
  (h:∀ g cap w',aF B w' (.slice (some ⟨g,0,none⟩) (n+1) cap) (zs ++ [z])→Keeps (fun k=>v.ownBlock=some k) wr w'→(v.ownBlock=some g∨wr.heap.size≤g)→B≤g→K (a.put o.dst (.slice (some ⟨g,0,none⟩) (n+1) cap)) w') :
  if Region.wanted o (yielded ops a.tmps)=true then Oper.wp Tryz.prog o a (wr.alloc (.cells #[.int .i64 z] 3)).drew K Q else E:=by
 obtain⟨i,hi,hz0,hz1,hz2⟩:=info_parts pU
 have hn:=hn.out
 subst hn
 subst hH
 refine step_append_lies _ hgd s x _ ho B 3 i (.int .i64 0) 1 8 Tryz.underlying25 hi hz0 hz1 hz2 rfl (by decide) v zs.length _ hs (hown.alloc _).drew ⟨wr.heap.size,0,none⟩ 1 1 [.int .i64 z] hx rfl (fun j u h=>cell_one_new wr _ _ j u h) ?_ (by decide) ?_ ?_ ?_ (wr.heap.size+1) (by simp) ?_
 ·intro u hu;simp at hu;subst hu;rfl
 ·unfold maxLen;omega
 ·omega
 ·simp;omega
 ·intro g cap w1 hown1 hgrow hat _
  refine h g cap w1 ?_ (((Keeps.refl _ wr).alloc _).drew.grown hgrow (fun k hk=>.inl hk)) (hat.imp id (fun h=>by omega)) ?_
  ·unfold aF ints
   rw[List.length_append,List.map_append]
   exact hown1
  ·exact (hown1.lt g rfl).1
def aQ(s:List Nat):List Nat:=(List.range s.length).map fun d=>sg s (mt d)
theorem lT(s:List Nat):(aQ s).length=s.length:=by simp[aQ]
theorem qj5{s:List Nat}{j:Nat}(hj:j<s.length):(aQ s).take (j+1)=(aQ s).take j ++ [sg s (mt j)]:=lX (by simp[aQ,hj])
theorem qa5(sv:Value)(rt ln:Int)(s:List Nat)(w:World)(hs:Sl .i64 w sv (aB s))(he:s.length % 2=0)(hl:s.length≤1000000) :
  Calls Tryz.prog 67 #[.agg #[sv,.int .i64 rt,.int .i64 ln]] w fun e w'=>∃ v,e=.returned v∧aF w.heap.size w' v (aB (aQ s))∧Keeps (fun _=>False) w w':=by
 obtain⟨bx,hbx⟩:∃ bx,bx=w.heap.size:=⟨_,rfl⟩
 have k0:Keeps (fun _=>False) w (w.alloc (.cells #[sv,.int .i64 rt,.int .i64 ln] 27)):=(Keeps.refl _ w).alloc _
 have hb0:(w.alloc (.cells #[sv,.int .i64 rt,.int .i64 ln] 27)).heap[bx]? = some (.cells #[sv,.int .i64 rt,.int .i64 ln] 27 (0,0)):=by rw[hbx];exact heap_alloc_new w _
 have HS:Hid (∀ W,Keeps (fun _=>False) w W→Sl .i64 W sv (aB s)):=ah (fun W hk=>hs.keeps hk (fun _ _ h=>h))
 obtain⟨a,cap,rfl,hnc,hcm⟩:=hs.form
 rw[q01] at hnc HS hb0 k0 ⊢
 have HBX:=ah hbx
 clear hs hbx
 go_enter Tryz.func67,Tryz.ntmps67
 go_wp2_with fail
 rw[← HBX.out]
 have h0:aF w.heap.size (w.alloc (.cells #[.slice a s.length cap,.int .i64 rt,.int .i64 ln] 27)) (.slice none 0 0) (aB ((aQ s).take 0)):=aF.nil _ _
 have hbw:w.heap.size≤bx:=by have:=HBX.out;omega
 generalize World.alloc _ _=wM at *
 go_loopg [3,8] s.length (fun m ov i wr=>∃ j:Nat,j≤s.length∧m=s.length - j∧i=.int .i64 j∧aF w.heap.size wr ov (aB ((aQ s).take j))∧(∀ q,ov.ownBlock=some q→q≠bx)∧wr.heap[bx]? = some (.cells #[.slice a s.length cap,.int .i64 rt,.int .i64 ln] 27 (0,0))∧Keeps (fun _=>False) w wr)
 case atStart=>exact⟨0,Nat.zero_le _,rfl,rfl,h0,(fun q hq=>by simp[Value.ownBlock] at hq),hb0,k0⟩
 case round =>
  clear h0 k0 hb0
  obtain⟨j,hj,aN,rfl,hown,kI,hbb,aT⟩:=hrel
  have HG:=ah aN
  clear aN
  by_cases hlt:j<s.length
  ·have hml:=aU he hlt
   obtain⟨g,off,rfl,hcell⟩:=(HS.out wr aT).cellAt (zC hml)
   have hst:=qj5 hlt
   have hlen:((aQ s).take j).length=j:=by rw[List.length_take,lT];omega
   have hfo:=hown.form
   rw[q01,hlen] at hfo
   obtain⟨la,lc,rfl,_,_⟩:=hfo
   have hM:=fun W=>JL j W (by omega)
   have hb:=ak hbb 0
   have hbd:wr.drew.cell? ⟨bx,0,none⟩=some (.slice (some ⟨g,off,none⟩) s.length cap):=hb
   have hcd:wr.drew.cell? ⟨g,off+mt j,none⟩=some (.int .i64 (sg s (mt j):Nat)):=hcell
   have hm0:(0:Int)≤((mt j:Nat):Int):=by omega
   have hm1:((mt j:Nat):Int)<(s.length:Int):=by omega
   have HN:Hid ((aB ((aQ s).take j)).length=j):=ah (by rw[q01];exact hlen)
   have hgw:g<w.heap.size:=World.block_lt_of_cell? _ _ ((HS.out w (Keeps.refl _ w)).cellOf (zC hml))
   have Ew:Hid (∀ W,Keeps (fun q=>(Value.slice la j lc).ownBlock=some q) wr W→W.heap[bx]? = some (.cells #[.slice (some ⟨g,off,none⟩) s.length cap,.int .i64 rt,.int .i64 ln] 27 (0,0))∧W.cell? ⟨g,off+mt j,none⟩=some (.int .i64 (sg s (mt j):Nat))):=ah (fun W hk=>⟨hk.at hbb (fun e=>kI _ e rfl),by
    rw[World.cell?_of_block (w:=wr) (hk.block g (World.block_lt_of_cell? _ _ hcell) (fun e=>by have:=(hown.lt g e).1;omega))]
    exact hcell⟩)
   have HH:=ah (aj hst (aj kI (aj hbb aT)))
   have hsz:=aT.size
   have vH:aF w.heap.size wr.drew (.slice la j lc) (aB ((aQ s).take j)):=hown
   have hkl:j≤10000000000:=by omega
   clear hst kI hbb aT hlen hml
   generalize CO:sg s (mt j)=x at *
   generalize hmm:mt j=mj at *
   have HX:=ah (aj CO hmm)
   clear CO hmm
   have hA0:=fun (o:Obj)=>uo hb o
   have hA1:=fun (o:Obj)=>uo hcell o
   go_wp2_with fail
   go_region_held3 (fun w'=>w'.cell? ⟨bx,0,none⟩=some (.slice (some ⟨g,off,none⟩) s.length cap)∧w'.cell? ⟨g,off+mj,none⟩=some (.int .i64 (x:Nat))) (first|exact⟨hbd,hcd⟩|exact⟨hA0 _,hA1 _⟩|exact⟨hp0,hp1⟩) (first | ((go_at_call 74;refine (hM _).mono ?_;rintro e w' ⟨rfl,rfl⟩)) | ((refine q60 j (by rfl) (.tmp 11) (.tmp 18) (by rfl) w.heap.size (.slice la j lc) (aB ((aQ s).take j)) (x:Nat) HN wr.heap.size rfl (by simp[Act.eval]) (by simp[Act.eval]) hown hkl hsz ?_;intro g2 cap2 w3 hown3 hk3 hat hg;have hp0:w3.cell? ⟨bx,0,none⟩=some (.slice (some ⟨g,off,none⟩) s.length cap):=ak (Ew.out w3 hk3).1 0;have hp1:w3.cell? ⟨g,off+mj,none⟩=some (.int .i64 (x:Nat)):=(Ew.out w3 hk3).2)))
   have hbf:=(Ew.out w3 hk3).1
   have vG:=HH.out.2.2.2.trans hk3 (fun y hy h=>by have:=(hown.lt y h).1;omega)
   have hst:=HH.out.1
   rw[← xk] at hown3
   rw[← hst] at hown3
   have zF:∀ q,(Value.slice (some ⟨g2,0,none⟩) (j+1) cap2).ownBlock=some q→q≠bx:=by
    intro q hq
    simp only [Value.ownBlock,Option.some.injEq] at hq
    subst hq
    rcases hat with h|h
    ·exact HH.out.2.1 _ h
    ·have:=lt_of_block HH.out.2.2.1;omega
   have HF:=ah (aj hown3 (aj zF (aj hbf vG)))
   clear hown3 zF hbf vG hst hk3 hat hown vH hp0 hp1 hb hbd hcd hcell hA0 hA1 hM
   go_wp2
   go_roundg (s.length - (j+1))
   case measure=>rw[HG.out];omega
   case rel=>exact⟨j+1,by omega,rfl,by go_num,HF.out⟩
  ·obtain rfl:j=s.length:=by omega
   rw[List.take_of_length_le (by rw[lT];exact Nat.le_refl _)] at hown
   have HF:=ah (aj hown aT)
   clear hown aT hbb kI
   go_wp2
   go_ret
   exact⟨_,rfl,HF.out⟩
end
section
theorem Vm(n:Nat)(S:Nat→Nat)(d:Nat):∃ m,aJ n S d m∧∀ e,aJ n S d e→m≤e:=by
 open Classical in
 obtain⟨m,h1,h2,h3,h4⟩:=KZ (fun e=>aJ n S d e) 0 d (by rw[Nat.zero_add];exact aJ.refl n S d)
 refine⟨m,h3,fun e he=>?_⟩
 rcases Nat.lt_or_ge e m with hlt|hge
 ·exact absurd he (h4 e (by omega) hlt)
 ·exact hge
noncomputable def aV(n:Nat)(S:Nat→Nat)(d:Nat):Nat:=(Vm n S d).choose
theorem yD(n:Nat)(S:Nat→Nat)(d:Nat):aJ n S d (aV n S d):=(Vm n S d).choose_spec.1
theorem vI{n:Nat}{S:Nat→Nat}{d e:Nat}(h:aJ n S d e):aV n S d≤e:=(Vm n S d).choose_spec.2 e h
noncomputable def aR(n:Nat)(S:Nat→Nat)(i:Nat):Nat:=((List.range i).filter fun x=>aV n S x == x).length
noncomputable def bf(n:Nat)(S:Nat→Nat)(d:Nat):Nat:=aR n S (aV n S d)
theorem uF(n:Nat)(S:Nat→Nat)(i:Nat):aR n S (i+1)=aR n S i+if aV n S i=i then 1 else 0:=by
 unfold aR
 rw[List.range_succ,List.filter_append,List.length_append]
 by_cases hi:aV n S i=i <;> simp[hi]
theorem JN(n:Nat)(S:Nat→Nat){i j:Nat}(hij:i≤j):aR n S i≤aR n S j:=by
 induction j with
 | zero=>rw[show i=0 by omega];exact Nat.le_refl _
 | succ j ih =>
  rcases Nat.lt_or_ge i (j+1) with hlt|hge
  ·have:=uF n S j
   have:=ih (by omega)
   omega
  ·rw[show i=j+1 by omega];exact Nat.le_refl _
theorem G9(n:Nat)(S:Nat→Nat)(i:Nat):aR n S i≤i:=by
 unfold aR
 exact Nat.le_trans (List.length_filter_le _ _) (by simp)
section
variable {n:Nat} {S:Nat→Nat} (h:aM n S) (he:n % 2=0)
include h he
theorem aM.iq{d e:Nat}(hd:d<n)(hen:e<n):aV n S d=aV n S e↔aJ n S d e:=by
 constructor
 ·intro hr
  have h1:=yD n S d
  rw[hr] at h1
  exact h1.trans (h.gP he hen (yD n S e))
 ·intro hs
  exact Nat.le_antisymm (vI (hs.trans (yD n S e))) (vI ((h.gP he hd hs).trans (yD n S d)))
theorem aM.jC{d:Nat}(hd:d<n):aV n S d<n:=h.qF he hd (yD n S d)
theorem aM.fP{d:Nat}(hd:d<n):aV n S (aV n S d)=aV n S d:=((h.iq he hd (h.jC he hd)).2 (yD n S d)).symm
theorem aM.gB{d e:Nat}(hd:d<n)(hen:e<n):bf n S d=bf n S e↔aJ n S d e:=by
 rw[← h.iq he hd hen]
 constructor
 ·intro hv
  unfold bf at hv
  rcases Nat.lt_trichotomy (aV n S d) (aV n S e) with hlt|heq|hlt
  ·have h1:=uF n S (aV n S d)
   rw[if_pos (h.fP he hd)] at h1
   have h2:=JN n S (show aV n S d+1≤aV n S e from hlt)
   omega
  ·exact heq
  ·have h1:=uF n S (aV n S e)
   rw[if_pos (h.fP he hen)] at h1
   have h2:=JN n S (show aV n S e+1≤aV n S d from hlt)
   omega
 ·intro hr
  unfold bf;rw[hr]
theorem aM.jD{d:Nat}(hd:d<n):bf n S d<aR n S n:=by
 have h1:=uF n S (aV n S d)
 rw[if_pos (h.fP he hd)] at h1
 have h2:=JN n S (show aV n S d+1≤n from h.jC he hd)
 unfold bf
 omega
end
end
section
open Go.RowKit
theorem aO.made'{w wr:World}(hk:Keeps (fun _=>False) w wr)(n:Nat)(P:List Int→Prop)(hP:P (List.replicate n 0))(hn:n≤100000000):aO w wr.heap.size n P (wr.alloc (.cells (madeCells #[.int .i64 0] n) 3)) :=
 ⟨_,by simp,hP,aF.made w.heap.size wr n hk.size hn,hk.alloc _⟩
theorem aO.uD{w wr w1:World}{g n:Nat}{P:List Int→Prop}{F:Nat→Prop}(h:aO w g n P wr)(hk:Keeps F wr w1)(hg:¬ F g)(hF:∀ x,F x→w.heap.size≤x):aO w g n P w1:=by
 obtain⟨zs,h1,h2,h3,h4⟩:=h
 exact⟨zs,h1,h2,h3.keeps hk (fun x hx e=>by simp only [Value.ownBlock,Option.some.injEq] at hx;subst hx;exact hg e),h4.trans hk (fun x hx e=>by have:=hF x e;omega)⟩
end
section
structure Wd (ks:List Nat):Prop where
 k4:∀ k ∈ ks,k<4
 bal:iQ ks
noncomputable def mp(ks:List Nat)(i:Nat):Nat:=open Classical in if h:∃ m,bK ks i m then h.choose else i
section
variable {ks:List Nat} (h:Wd ks)
include h
theorem Wd.mate{i:Nat}(hi:i<ks.length):bK ks i (mp ks i):=by
 have hex:=h.bal.mate h.k4 hi
 unfold mp
 rw[dif_pos hex]
 exact hex.choose_spec
theorem Wd.zG{i m:Nat}(hi:i<ks.length)(hm:bK ks i m):mp ks i=m:=(h.mate hi).unique hm
theorem Wd.dS{i:Nat}(hi:i<ks.length):mp ks i<ks.length:=(h.mate hi).lt
theorem Wd.eX{i:Nat}(hi:i<ks.length):mp ks (mp ks i)=i:=h.zG (h.dS hi) (h.mate hi).symm
end
structure fO (ks:List Nat)(s i j:Nat):Prop where
 lt:i<j
 le:j<ks.length
 opens:ks[i]? = some (2 * s)
 closes:ks[j]? = some (2 * s+1)
 hit:ex (ownB s ks) (pr s ks (j+1))=ex (ownB s ks) (pr s ks i)
 above:∀ p,i<p→p≤j→ex (ownB s ks) (pr s ks i)<ex (ownB s ks) (pr s ks p)
theorem bK.MN{ks:List Nat}{i m:Nat}(h:bK ks i m):∃ s,s<2∧(fO ks s i m∨fO ks s m i):=by
 obtain⟨s,a,c,hs,h1,h2,h3⟩:=h
 have key:∀ {i m a c:Nat},bO s ks a i→bO s ks c m→bQ (ownB s ks) a c→fO ks s i m:=by
  intro i m a c h1 h2 hp
  obtain⟨x,hx,hxs,hxp⟩:=id h1
  obtain⟨y,hy,hys,hyp⟩:=id h2
  have hb1:=(h1.own hx).2
  have hb2:=(h2.own hy).2
  have ho:=hp.opens.1
  have hc:=hp.closes.1
  rw[List.getD_eq_getElem?_getD,hb1,Option.getD_some] at ho
  rw[List.getD_eq_getElem?_getD,hb2,Option.getD_some] at hc
  have ho2:x % 2=0:=by simpa using ho
  have hc2:y % 2=1:=by
   have:¬ y % 2=0:=by simpa using hc
   omega
  have him:i<m:=by
   have:=(h1.cmp m).1 (by rw[hyp];exact hp.lt)
   exact this
  have hsm:=Gv s hy
  rw[if_pos hys,hyp] at hsm
  refine⟨him,fK hy,by rw[hx];congr 1;omega,by rw[hy];congr 1;omega,by rw[hsm,hxp];exact hp.hit,fun p hp1 hp2=>?_⟩
  rw[hxp]
  refine hp.above _ ((h1.cmp p).2 hp1) ?_
  rw[← hyp];exact Gw s ks hp2
 rcases h3 with⟨_,hp⟩|⟨_,hp⟩
 ·exact⟨s,hs,.inl (key h1 h2 hp)⟩
 ·exact⟨s,hs,.inr (key h2 h1 hp)⟩
theorem fO.DD{ks:List Nat}{i j:Nat}(h:fO ks 0 i j):DD ks (j+1)=DD ks i∧∀ p,i<p→p≤j→DD ks i<DD ks p:=by
 have hl:=h.lt
 have hj:=h.le
 have h1:=h.hit
 rw[dF (show j+1≤ks.length by omega),dF (show i≤ks.length by omega)] at h1
 refine⟨h1,fun p hp1 hp2=>?_⟩
 have:=h.above p hp1 hp2
 rwa [dF (show i≤ks.length by omega),dF (show p≤ks.length by omega)] at this
section
variable {ks:List Nat} (h:Wd ks)
include h
theorem Wd.jZ{p:Nat}(hp:p≤ks.length):0≤DD ks p:=by
 rw[← dF hp];exact h.bal.1.2 _ (sF 0 ks p hp)
theorem Wd.lI:DD ks ks.length=0:=by
 rw[← dF (Nat.le_refl _),← y7];exact h.bal.1.1
theorem Wd.pE:BB ks ks.length=0:=by
 rw[← fA (Nat.le_refl _),← y7];exact h.bal.2.1
theorem Wd.cases{i:Nat}(hi:i<ks.length):∃ s,s<2∧((ks[i]? = some (2 * s)∧fO ks s i (mp ks i))∨(ks[i]? = some (2 * s+1)∧fO ks s (mp ks i) i)):=by
 obtain⟨s,hs,h1|h1⟩:=(h.mate hi).MN
 ·exact⟨s,hs,.inl ⟨h1.opens,h1⟩⟩
 ·exact⟨s,hs,.inr ⟨h1.closes,h1⟩⟩
end
def oc(ks:List Nat)(i:Nat):Nat:=((ks.take i).filter fun k=>k % 2 == 0).length
theorem Ey{ks:List Nat}{i k:Nat}(h:ks[i]? = some k):oc ks (i+1)=oc ks i+if k % 2=0 then 1 else 0:=by
 unfold oc
 rw[lX h,List.filter_append,List.length_append]
 by_cases hk:k % 2=0 <;> simp[hk]
theorem Q7(ks:List Nat){a c:Nat}(h:a≤c):oc ks a≤oc ks c:=by
 unfold oc
 have:ks.take c=ks.take a ++ (ks.take c).drop a:=by
  conv=>lhs;rw[← List.take_append_drop a (ks.take c)]
  rw[List.take_take,Nat.min_eq_left h]
 rw[this,List.filter_append,List.length_append]
 omega
noncomputable def bG(ks:List Nat)(i:Nat):Nat:=if (ks.getD i 0) % 2=0 then 2 * oc ks i else 2 * oc ks (mp ks i)+1
theorem iE{ks:List Nat}{i k:Nat}(h:ks[i]? = some k):ks.getD i 0=k:=by rw[List.getD_eq_getElem?_getD,h];rfl
section
variable {ks:List Nat} (h:Wd ks)
include h
theorem Wd.jE{i:Nat}(hi:i<ks.length):bG ks (mp ks i)=mt (bG ks i):=by
 obtain⟨s,hs,⟨h1,h2⟩|⟨h1,h2⟩⟩:=h.cases hi
 ·have hm:=iE h2.closes
  have hi':=iE h1
  unfold bG
  rw[hm,hi',if_neg (by omega),if_pos (by omega),h.eX hi]
  unfold mt;rw[if_pos (by omega)]
 ·have hm:=iE h2.opens
  have hi':=iE h1
  unfold bG
  rw[hm,hi',if_pos (by omega),if_neg (by omega)]
  unfold mt;rw[if_neg (by omega)];omega
omit h in
theorem MO:∀ p,p≤ks.length→(∀ k ∈ ks,k<4)→2 * (oc ks p:Int)=p+DD ks p+BB ks p:=by
 intro p hp h4
 induction p with
 | zero=>simp[oc,JH,UY]
 | succ p ih =>
  have hk:=List.getElem?_eq_getElem (l:=ks) (i:=p) (by omega)
  have h1:=Ey hk
  have h2:=yx hk
  have h3:=qb hk
  have h5:=h4 _ (List.mem_of_getElem? hk)
  have ih:=ih (by omega)
  generalize ks[p]=k at *
  have hc:k=0∨k=1∨k=2∨k=3:=by omega
  rcases hc with rfl|rfl|rfl|rfl <;> simp[dd,bb] at h1 h2 h3 <;> omega
theorem Wd.even:2 * oc ks ks.length=ks.length:=by
 have h1:=MO (ks:=ks) ks.length (Nat.le_refl _) h.k4
 rw[h.lI,h.pE] at h1
 omega
theorem Wd.oh{i k:Nat}(hk:ks[i]? = some k)(h0:k % 2=0):2 * oc ks i+1<ks.length:=by
 have h1:=Ey hk
 rw[if_pos h0] at h1
 have h2:=Q7 ks (show i+1≤ks.length from fK hk)
 have:=h.even
 omega
theorem Wd.gu{i:Nat}(hi:i<ks.length):bG ks i<ks.length:=by
 obtain⟨s,hs,⟨h1,h2⟩|⟨h1,h2⟩⟩:=h.cases hi
 ·have:=h.oh h1 (by omega)
  unfold bG
  rw[iE h1,if_pos (by omega)];omega
 ·have:=h.oh h2.opens (by omega)
  unfold bG
  rw[iE h1,if_neg (by omega)];exact this
omit h in
theorem qn0{i j k l:Nat}(hi:ks[i]? = some k)(h0:k % 2=0)(hj:ks[j]? = some l)(h1:l % 2=0)(he:oc ks i=oc ks j):i=j:=by
 rcases Nat.lt_trichotomy i j with hlt|rfl|hlt
 ·have h2:=Ey hi
  rw[if_pos h0] at h2
  have:=Q7 ks (show i+1≤j from hlt);omega
 ·rfl
 ·have h2:=Ey hj
  rw[if_pos h1] at h2
  have:=Q7 ks (show j+1≤i from hlt);omega
theorem Wd.dJ:aM ks.length (bG ks):=by
 refine⟨fun d hd=>h.gu hd,fun i j hi hj he=>?_⟩
 obtain⟨s,hs,hc⟩:=h.cases hi
 obtain⟨t,ht,hd⟩:=h.cases hj
 unfold bG at he
 rcases hc with⟨h1,h2⟩|⟨h1,h2⟩ <;> rcases hd with⟨g1,g2⟩|⟨g1,g2⟩
 ·rw[iE h1,iE g1,if_pos (by omega),if_pos (by omega)] at he
  exact qn0 h1 (by omega) g1 (by omega) (by omega)
 ·rw[iE h1,iE g1,if_pos (by omega),if_neg (by omega)] at he;omega
 ·rw[iE h1,iE g1,if_neg (by omega),if_pos (by omega)] at he;omega
 ·rw[iE h1,iE g1,if_neg (by omega),if_neg (by omega)] at he
  have:=qn0 h2.opens (by omega) g2.opens (by omega) (by omega)
  rw[← h.eX hi,this,h.eX hj]
end
noncomputable def tn(ks:List Nat)(i:Nat):Nat:=((if ks.getD i 0<2 then mp ks i else i)+1) % ks.length
theorem U3{n a c:Nat}(ha:a<n)(hc:c<n)(he:(a+1) % n=(c+1) % n):a=c:=by
 have h1:∀ x,x<n→(x+1) % n=if x+1=n then 0 else x+1:=by
  intro x hx
  split
  ·rename_i h;rw[h,Nat.mod_self]
  ·exact Nat.mod_eq_of_lt (by omega)
 rw[h1 a ha,h1 c hc] at he
 split at he <;> split at he <;> omega
section
variable {ks:List Nat} (h:Wd ks)
include h
theorem Wd.kG{i:Nat}(hi:i<ks.length):ks.getD (mp ks i) 0<2↔ks.getD i 0<2:=by
 obtain⟨s,hs,⟨h1,h2⟩|⟨h1,h2⟩⟩:=h.cases hi
 ·rw[iE h1,iE h2.closes];omega
 ·rw[iE h1,iE h2.opens];omega
theorem Wd.fF:aM ks.length (tn ks):=by
 have hstep:∀ i,i<ks.length→(if ks.getD i 0<2 then mp ks i else i)<ks.length:=by
  intro i hi
  split
  ·exact h.dS hi
  ·exact hi
 refine⟨fun d hd=>Nat.mod_lt _ (by omega),fun i j hi hj he=>?_⟩
 have he:=U3 (hstep i hi) (hstep j hj) he
 by_cases a:ks.getD i 0<2 <;> by_cases c:ks.getD j 0<2
 ·rw[if_pos a,if_pos c] at he
  rw[← h.eX hi,he,h.eX hj]
 ·rw[if_pos a,if_neg c] at he
  have:=(h.kG hi).2 a
  rw[he] at this
  exact absurd this c
 ·rw[if_neg a,if_pos c] at he
  have:=(h.kG hj).2 c
  rw[← he] at this
  exact absurd this a
 ·rw[if_neg a,if_neg c] at he;exact he
end
noncomputable def sD(ks:List Nat)(d:Nat):Nat:=bG ks (tn ks (gQ (bG ks) d))
noncomputable def aG(ks:List Nat):List Nat:=(List.range ks.length).map (sD ks)
theorem kJ(ks:List Nat):(aG ks).length=ks.length:=by simp[aG]
theorem qj6{ks:List Nat}{d:Nat}(hd:d<ks.length):sg (aG ks) d=sD ks d:=by simp[sg,aG,hd]
theorem aM.congr{n:Nat}{S T:Nat→Nat}(h:aM n S)(he:∀ d,d<n→T d=S d):aM n T :=
 ⟨fun d hd=>by rw[he d hd];exact h.lt d hd,fun d e hd hen heq=>h.inj d e hd hen (by rw[← he d hd,← he e hen];exact heq)⟩
section
variable {ks:List Nat} (h:Wd ks)
include h
theorem Wd.He:aM ks.length (sD ks):=by
 have hn:=h.dJ
 have ht:=h.fF
 refine⟨fun d hd=>h.gu (ht.lt _ (hn.bC hd)),fun d e hd he heq=>?_⟩
 have h1:=hn.inj _ _ (ht.lt _ (hn.bC hd)) (ht.lt _ (hn.bC he)) heq
 have h2:=ht.inj _ _ (hn.bC hd) (hn.bC he) h1
 rw[← hn.bS hd,h2,hn.bS he]
theorem Wd.eB:aM (aG ks).length (sg (aG ks)):=by
 rw[kJ]
 exact h.He.congr (fun d hd=>qj6 hd)
theorem Wd.Ez{i:Nat}(hi:i<ks.length):sD ks (bG ks i)=bG ks (tn ks i):=by
 unfold sD
 rw[h.dJ.inv_of hi]
theorem Wd.jJ:ks.length % 2=0:=by have:=h.even;omega
end
end
section
open Go.RowKit
def rP(ks:List Nat)(j:Nat)(zs:List Int):Prop:=∀ i k,i<j→ks[i]? = some k→k % 2=0→zs[i]? = some ((2 * oc ks i:Nat):Int)∧zs[mp ks i]? = some ((2 * oc ks i+1:Nat):Int)
theorem rP.skip{ks:List Nat}{j k:Nat}{zs:List Int}(hk:ks[j]? = some k)(h1:k % 2=1)(h:rP ks j zs):rP ks (j+1) zs:=by
 intro i x hi hx h0
 by_cases hij:i=j
 ·subst hij;rw[hk] at hx;simp only [Option.some.injEq] at hx;omega
 ·exact h i x (by omega) hx h0
theorem rP.step{ks:List Nat}{j k:Nat}{zs:List Int}(hW:Wd ks)(hl:zs.length=ks.length)(hk:ks[j]? = some k)(h0:k % 2=0)(h:rP ks j zs):rP ks (j+1) ((zs.set j ((2 * oc ks j:Nat):Int)).set (mp ks j) ((2 * oc ks j+1:Nat):Int)):=by
 have hj:=fK hk
 have hm:=hW.dS hj
 have hjm:mp ks j≠j:=by
  obtain⟨s,hs,⟨_,h2⟩|⟨_,h2⟩⟩:=hW.cases hj
  ·have:=h2.lt;omega
  ·have:=h2.lt;omega
 have hopen:∀ i x,ks[i]? = some x→x % 2=0→i≠mp ks j:=by
  intro i x hx hx0 e
  subst e
  obtain⟨s,hs,⟨h1,h2⟩|⟨h1,h2⟩⟩:=hW.cases hj
  ·rw[h2.closes] at hx;simp only [Option.some.injEq] at hx;omega
  ·rw[h1] at hk;simp only [Option.some.injEq] at hk;omega
 intro i x hi hx hx0
 have hin:=fK hx
 have JO:=hW.dS hin
 by_cases hij:i=j
 ·subst hij
  constructor
  ·rw[List.getElem?_set,if_neg hjm,List.getElem?_set,if_pos rfl,if_pos (by omega)]
  ·rw[List.getElem?_set,if_pos rfl,if_pos (by simp;omega)]
 ·obtain⟨g1,g2⟩:=h i x (by omega) hx hx0
  have e1:=hopen i x hx hx0
  have e2:mp ks i≠j:=fun e=>by
   have:=hopen j k hk h0
   have h3:=hW.eX hin
   rw[e] at h3
   exact e1 h3.symm
  have e3:mp ks i≠mp ks j:=fun e=>hij (by rw[← hW.eX hin,e,hW.eX hj])
  constructor
  ·rw[List.getElem?_set,if_neg (fun e=>e1 e.symm),List.getElem?_set,if_neg (fun e=>hij e.symm)];exact g1
  ·rw[List.getElem?_set,if_neg (fun e=>e3 e.symm),List.getElem?_set,if_neg (fun e=>e2 e.symm)];exact g2
theorem rP.all{ks:List Nat}{zs:List Int}(hW:Wd ks)(hl:zs.length=ks.length)(h:rP ks ks.length zs):zs=aB ((List.range ks.length).map (bG ks)):=by
 apply List.ext_getElem?
 intro e
 rcases Nat.lt_or_ge e ks.length with he|he
 ·have hr:(aB ((List.range ks.length).map (bG ks)))[e]? = some ((bG ks e:Nat):Int):=by simp[aB,he]
  rw[hr]
  obtain⟨s,hs,⟨h1,h2⟩|⟨h1,h2⟩⟩:=hW.cases he
  ·rw[(h e _ he h1 (by omega)).1]
   unfold bG
   rw[iE h1,if_pos (by omega)]
  ·have:=(h (mp ks e) _ (hW.dS he) h2.opens (by omega)).2
   rw[hW.eX he] at this
   rw[this]
   unfold bG
   rw[iE h1,if_neg (by omega)]
 ·rw[List.getElem?_eq_none (by omega),List.getElem?_eq_none (by simp[aB];exact he)]
theorem q9t(sv:Value)(ks:List Nat)(w:World)(hs:Sl .i64 w sv (aB ks))(hW:Wd ks)(hl:ks.length≤1000000) :
  Calls Tryz.prog 133 #[sv] w fun e w'=>∃ g,e=.returned (.slice (some ⟨g,0,none⟩) ks.length ks.length)∧aO w g ks.length (fun zs=>zs=aB ((List.range ks.length).map (bG ks))) w':=by
 have HS:Hid (∀ W,Keeps (fun _=>False) w W→Sl .i64 W sv (aB ks)):=ah (fun W hk=>hs.keeps hk (fun _ _ h=>h))
 obtain⟨a,cap,rfl,hnc,hcm⟩:=hs.form
 rw[q01] at hnc HS ⊢
 have k0:Keeps (fun _=>False) w (w.alloc (.cells (madeCells #[.int .i64 0] ks.length) 3)):=(Keeps.refl _ w).alloc _
 have h0:=aO.made w ks.length (rP ks 0) (fun i k hi=>by omega) (by omega)
 have hM:=q9p (.slice a ks.length cap) ks _ (HS.out _ k0) hW.k4 (by omega) hW.bal
 have HW:=ah hW
 have l8:=ah (aj h0 k0)
 obtain⟨ii,hi,hz0,hz1,hz2⟩:=info_parts pU
 have hmk:=fun w=>run_make (P:=Tryz.prog) w 25 3 ii _ Tryz.underlying25 hi hz0 .i64 .i64 (ks.length:Int) (ks.length:Int) (by omega) (Int.le_refl _) (by rw[hz2];omega) (by omega)
 simp only [hz1,Int.toNat_natCast,Nat.mul_one] at hmk
 clear hs hW hi hz0 hz1 hz2 h0 k0
 go_enter Tryz.func133,Tryz.ntmps133
 go_wp2_with fail
 refine hM.mono ?_
 rintro e w1 ⟨gm,rfl,ms,hms,hml,hmp,hk1⟩
 clear hM hmk
 obtain⟨g,hg⟩:∃ g,g=w.heap.size:=⟨_,rfl⟩
 have h1:=l8.out.1.keeps hk1
 have hgm:g<gm:=by have:=(hms.lt gm rfl).1;simp at this;omega
 have hmo:∀ W,Keeps (fun q=>q=g) w1 W→∀ i,i<ks.length→W.cell? ⟨gm,i,none⟩=some (.int .i64 (mp ks i:Nat)):=by
  intro W hk i hi
  have ho:=hms.keeps hk (fun q hq e=>by simp only [Value.ownBlock,Option.some.injEq] at hq;omega)
  obtain⟨m,hm1,hm2⟩:=hmp i hi
  rw[HW.out.zG hi hm2]
  exact (ho.cell hm1).1
 have HM:=ah hmo
 have pG:=Keeps.refl (fun q=>q=g) w1
 rw[← hg] at h1
 rw[← hg]
 have HGW:=ah hg
 clear hms hmp hk1 hg hmo l8
 go_wp2_with fail
 go_loopg [5,15] ks.length (fun m c i wr=>∃ j:Nat,j≤ks.length∧m=ks.length - j∧i=.int .i64 j∧c=.int .i64 (2 * oc ks j:Nat)∧aO w g ks.length (rP ks j) wr∧Keeps (fun q=>q=g) w1 wr)
 case atStart=>exact⟨0,Nat.zero_le _,rfl,rfl,by simp[oc],h1,pG⟩
 case round =>
  clear h1 pG
  obtain⟨j,hj,aN,rfl,rfl,hN,hkg⟩:=hrel
  have HG:=ah aN
  clear aN
  by_cases hlt:j<ks.length
  ·have hkj:=List.getElem?_eq_getElem hlt
   have hoc:=Ey hkj
   have ahr:oc ks j≤1000000:=by have:=List.length_filter_le (fun k=>k % 2 == 0) (ks.take j);have:(ks.take j).length≤j:=List.length_take_le _ _;unfold oc;omega
   obtain⟨_,_,_,_,aT⟩:=id hN
   obtain⟨ag,off,rfl,hcell⟩:=(HS.out wr aT).cellAt (jq hkj)
   have hx4:=HW.out.k4 _ (List.mem_of_getElem? hkj)
   have hmc:=HM.out wr hkg j hlt
   have MP:=HW.out.dS hlt
   generalize ks[j]=x at *
   by_cases hx0:x % 2=0
   ·rw[if_pos hx0] at hoc
    obtain⟨z1,_,hc1,hf1⟩:=hN.cell j hlt
    obtain⟨z2,_,hc2,hf2⟩:=hN.cell (mp ks j) MP
    have hN1:=hN.set (Q:=fun zs=>∃ zs0,zs0.length=ks.length∧rP ks j zs0∧zs=zs0.set j ((2 * oc ks j:Nat):Int)) j ((2 * oc ks j:Nat):Int) (fun zs hzl h=>⟨zs,hzl,h,rfl⟩)
    have mQ:=hN1.set (Q:=rP ks (j+1)) (mp ks j) ((2 * oc ks j+1:Nat):Int) (fun zs hzl h=>by
     obtain⟨zs0,h1,h2,h3⟩:=h
     rw[h3];exact h2.step HW.out h1 hkj hx0)
    obtain⟨z3,_,hc3,hf3⟩:=hN1.cell (mp ks j) MP
    have vG:=(hkg.setCell (p:=⟨g,j,none⟩) (.inl rfl) (.int .i64 ((2 * oc ks j:Nat):Int))).setCell (p:=⟨g,mp ks j,none⟩) (.inl rfl) (.int .i64 ((2 * oc ks j+1:Nat):Int))
    have HF:=ah (aj mQ (aj vG hoc))
    have hxb:(((x:Nat):Int) % 2 == 0)=true:=by simp;omega
    have e1:((2 * oc ks j+1:Nat):Int)=((2 * oc ks j:Nat):Int)+1:=by omega
    rw[e1] at HF
    have e2:((2 * oc ks j:Nat):Int)≤2000000:=by omega
    have e3:(0:Int)≤((2 * oc ks j:Nat):Int):=by omega
    clear hN hN1 mQ vG hoc hkg aT e1 hkj hx0
    obtain⟨c,hcc⟩:∃ c:Nat,c=2 * oc ks j:=⟨_,rfl⟩
    have HC:=ah hcc
    rw[← hcc] at HF hc3 hf3 e2 e3
    rw[← hcc]
    clear hcc
    generalize mp ks j=y at *
    go_wp2
    go_roundg (ks.length - (j+1))
    case measure=>rw[HG.out];omega
    case rel=>exact⟨j+1,by omega,rfl,by go_num,by rw[HF.out.2.2,HC.out];go_num,HF.out.1,HF.out.2.1⟩
   ·rw[if_neg hx0] at hoc
    have HF:=ah (aj (hN.mono (fun zs _ h=>h.skip hkj (by omega))) (aj hkg hoc))
    have hxb:(((x:Nat):Int) % 2 == 0)=false:=by simp;omega
    clear hN hoc hkg aT hmc hkj hx0
    generalize hcc:oc ks j=c at *
    have HC:=ah hcc
    clear hcc
    go_wp2
    go_roundg (ks.length - (j+1))
    case measure=>rw[HG.out];omega
    case rel=>exact⟨j+1,by omega,rfl,by go_num,by rw[HF.out.2.2,Nat.add_zero],HF.out.1,HF.out.2.1⟩
  ·obtain rfl:j=ks.length:=by omega
   have HF:=ah (hN.mono (fun zs hzl h=>h.all HW.out hzl))
   clear hN hkg
   go_wp2
   go_ret
   exact⟨g,rfl,HF.out⟩
end
section
def stk(ks:List Nat):Nat→List Nat
 | 0=>[]
 | j+1=>if ks.getD j 9=0 then stk ks j ++ [j] else if ks.getD j 9=1 then (stk ks j).dropLast else stk ks j
def vo(ks:List Nat)(o:Nat):Nat:=aW (ks.take o) 0+1
theorem Es{ks:List Nat}{j k:Nat}(h:ks[j]? = some k):ks.getD j 9=k:=by rw[List.getD_eq_getElem?_getD,h];rfl
theorem kX{l:List Nat}{t x:Nat}(h:l.dropLast[t]? = some x):l[t]? = some x∧t+1<l.length:=by
 have ht:=fK h
 rw[List.length_dropLast] at ht
 rw[List.getElem?_dropLast] at h
 by_cases hc:t<l.length - 1
 ·rw[if_pos hc] at h;exact⟨h,by omega⟩
 ·rw[if_neg hc] at h;cases h
section
variable {ks:List Nat} (h:Wd ks)
include h
theorem Wd.lK:∀ j,j≤ks.length→((stk ks j).length:Int)=DD ks j∧∀ (t o:Nat),(stk ks j)[t]? = some o→o<j∧ks[o]? = some 0∧DD ks o=(t:Int)∧∀ p,o<p→p≤j→(t:Int)<DD ks p:=by
 intro j
 induction j with
 | zero=>intro _;exact⟨by simp[stk,JH],fun t o ho=>by simp[stk] at ho⟩
 | succ j ih =>
  intro hj
  obtain⟨h1,h2⟩:=ih (by omega)
  have hk:=List.getElem?_eq_getElem (l:=ks) (i:=j) (by omega)
  have hd:=yx hk
  have hg:=Es hk
  have hpos:=h.jZ hj
  generalize ks[j]=k at *
  unfold stk
  rw[hg]
  by_cases k0:k=0
  ·subst k0
   simp only [dd,if_true] at hd
   rw[if_pos rfl]
   refine⟨by rw[List.length_append,List.length_singleton];omega,fun t o ho=>?_⟩
   rcases Cj ho with ho|⟨rfl,rfl⟩
   ·obtain⟨g1,g2,g3,g4⟩:=h2 t o ho
    have:=fK ho
    refine⟨by omega,g2,g3,fun p hp1 hp2=>?_⟩
    rcases Nat.lt_or_ge p (j+1) with hlt|hge
    ·exact g4 p hp1 (by omega)
    ·obtain rfl:p=j+1:=by omega
     omega
   ·refine⟨by omega,hk,h1.symm,fun p hp1 hp2=>?_⟩
    obtain rfl:p=o+1:=by omega
    omega
  ·rw[if_neg k0]
   by_cases k1:k=1
   ·subst k1
    simp[dd] at hd
    rw[if_pos rfl]
    have hl:0<(stk ks j).length:=by omega
    refine⟨by rw[List.length_dropLast];omega,fun t o ho=>?_⟩
    obtain⟨ho,ht⟩:=kX ho
    obtain⟨g1,g2,g3,g4⟩:=h2 t o ho
    refine⟨by omega,g2,g3,fun p hp1 hp2=>?_⟩
    rcases Nat.lt_or_ge p (j+1) with hlt|hge
    ·exact g4 p hp1 (by omega)
    ·obtain rfl:p=j+1:=by omega
     omega
   ·rw[if_neg k1]
    have hd0:dd k=0:=by simp[dd,k0,k1]
    rw[hd0] at hd
    refine⟨by omega,fun t o ho=>?_⟩
    obtain⟨g1,g2,g3,g4⟩:=h2 t o ho
    have:=fK ho
    refine⟨by omega,g2,g3,fun p hp1 hp2=>?_⟩
    rcases Nat.lt_or_ge p (j+1) with hlt|hge
    ·exact g4 p hp1 (by omega)
    ·obtain rfl:p=j+1:=by omega
     omega
theorem Wd.sW{j:Nat}(hj:j≤ks.length)(hne:0<DD ks j):∃ o,(stk ks j).getLast? = some o∧OwnAt ks j o:=by
 obtain⟨h1,h2⟩:=h.lK j hj
 have hl:0<(stk ks j).length:=by omega
 have hg:=List.getElem?_eq_getElem (l:=stk ks j) (i:=(stk ks j).length - 1) (by omega)
 obtain⟨g1,g2,g3,g4⟩:=h2 _ _ hg
 refine⟨_,by rw[List.getLast?_eq_getElem?];exact hg,g1,g2,by omega,fun p hp1 hp2=>by have:=g4 p hp1 hp2;omega⟩
end
def vx(ks:List Nat)(j:Nat):Nat:=match (stk ks j).getLast? with
 | some o=>vo ks o
 | none=>0
theorem Vn{ks:List Nat}{i:Nat}(h:ks[i]? = some 0):aW (ks.take (i+1)) 0=aW (ks.take i) 0+1:=by
 rw[yj h 0,if_pos rfl]
theorem qn1{ks:List Nat}{o q:Nat}(ho:ks[o]? = some 0)(hq:ks[q]? = some 0)(he:vo ks o=vo ks q):o=q:=by
 unfold vo at he
 rcases Nat.lt_trichotomy o q with hlt|rfl|hlt
 ·have h1:=Vn ho
  have h2:=UJ ks 0 (show o+1≤q from hlt)
  omega
 ·rfl
 ·have h1:=Vn hq
  have h2:=UJ ks 0 (show q+1≤o from hlt)
  omega
section
variable {ks:List Nat} (h:Wd ks)
include h
theorem Wd.iB{j o:Nat}(hj:j≤ks.length)(ho:OwnAt ks j o):vx ks j=vo ks o:=by
 have hd:=h.jZ (p:=o) (by have:=ho.lt;omega)
 obtain⟨q,hq,hq2⟩:=h.sW hj (by have:=ho.hit;omega)
 unfold vx
 rw[hq,ho.unique hq2]
theorem Wd.iJ{j:Nat}(hj:j≤ks.length)(h0:DD ks j=0):vx ks j=0:=by
 have:=(h.lK j hj).1
 have:stk ks j=[]:=List.eq_nil_of_length_eq_zero (by omega)
 unfold vx
 rw[this];rfl
theorem Wd.om{j:Nat}(hj:j≤ks.length):DD ks j=0∨∃ o,OwnAt ks j o:=by
 have:=h.jZ hj
 by_cases h0:DD ks j=0
 ·exact .inl h0
 ·obtain⟨o,_,ho⟩:=h.sW hj (by omega)
  exact .inr ⟨o,ho⟩
theorem Wd.qU{i j:Nat}(hi:i≤ks.length)(hj:j≤ks.length):vx ks i=vx ks j↔(DD ks i=0∧DD ks j=0)∨∃ o,OwnAt ks i o∧OwnAt ks j o:=by
 constructor
 ·intro he
  rcases h.om hi with h1|⟨o,ho⟩ <;> rcases h.om hj with h2|⟨q,hq⟩
  ·exact .inl ⟨h1,h2⟩
  ·rw[h.iJ hi h1,h.iB hj hq] at he;unfold vo at he;omega
  ·rw[h.iB hi ho,h.iJ hj h2] at he;unfold vo at he;omega
  ·rw[h.iB hi ho,h.iB hj hq] at he
   have:=qn1 ho.opens hq.opens he
   subst this
   exact .inr ⟨o,ho,hq⟩
 ·rintro (⟨h1,h2⟩|⟨o,h1,h2⟩)
  ·rw[h.iJ hi h1,h.iJ hj h2]
  ·rw[h.iB hi h1,h.iB hj h2]
theorem Wd.oq{i j:Nat}(hij:i≤j)(hj:j≤ks.length)(hd:DD ks i=DD ks j)(hab:∀ p,i≤p→p≤j→DD ks i≤DD ks p):vx ks i=vx ks j:=by
 rw[h.qU (by omega) hj]
 rcases h.om (show i≤ks.length by omega) with h1|⟨o,ho⟩
 ·exact .inl ⟨h1,by omega⟩
 ·refine .inr ⟨o,ho,by have:=ho.lt;omega,ho.opens,by have:=ho.hit;omega,fun p hp1 hp2=>?_⟩
  rcases Nat.lt_or_ge i p with hlt|hge
  ·have:=hab p (by omega) hp2;have:=ho.hit;omega
  ·exact ho.above p hp1 (by omega)
theorem Wd.CW{i p:Nat}(Q5:i<p)(hp:p≤ks.length)(hab:∀ q,i<q→q≤p→DD ks i<DD ks q):vx ks p≠vx ks i:=by
 intro he
 rw[h.qU hp (by omega)] at he
 have h1:=hab p Q5 (Nat.le_refl _)
 rcases he with⟨h2,h3⟩|⟨o,h2,h3⟩
 ·omega
 ·have:=h2.hit;have:=h3.hit;omega
theorem Wd.CX{i o p:Nat}(ho:OwnAt ks i o)(hi:ks[i]? = some 1)(Q5:i<p)(hp:p≤ks.length):vx ks p≠vx ks i:=by
 intro he
 have hil:=fK hi
 rw[h.qU hp (by omega)] at he
 have hd:=yx hi
 simp[dd] at hd
 have:=ho.hit
 have:=h.jZ (p:=o) (by have:=ho.lt;omega)
 rcases he with⟨_,h3⟩|⟨q,h2,h3⟩
 ·omega
 ·have:=ho.unique h3
  subst this
  have:=h2.above (i+1) (by have:=ho.lt;omega) (by omega)
  omega
theorem Wd.nK{i:Nat}(hi:i<ks.length):tn ks i<ks.length∧vx ks (tn ks i)=vx ks i ∧
  ((i<tn ks i∧∀ p,i<p→p<tn ks i→vx ks p≠vx ks i)∨((∀ p,i<p→p<ks.length→vx ks p≠vx ks i)∧tn ks i≤i∧∀ p,p<tn ks i→vx ks p≠vx ks i)):=by
 have hend:=h.lI
 have wrap:∀ m,m+1=ks.length→i≤m→DD ks i=0→(∀ p,i<p→p<ks.length→vx ks p≠vx ks i)→tn ks i=(m+1) % ks.length →
   tn ks i<ks.length∧vx ks (tn ks i)=vx ks i∧((i<tn ks i∧∀ p,i<p→p<tn ks i→vx ks p≠vx ks i)∨((∀ p,i<p→p<ks.length→vx ks p≠vx ks i)∧tn ks i≤i∧∀ p,p<tn ks i→vx ks p≠vx ks i)):=by
  intro m hm him hd hall ht
  rw[hm,Nat.mod_self] at ht
  rw[ht]
  refine⟨by omega,?_,.inr ⟨hall,by omega,fun p hp=>by omega⟩⟩
  rw[h.iJ (by omega) (JH _),h.iJ (by omega) hd]
 obtain⟨s,hs,hc⟩:=h.cases hi
 by_cases h2:s=0
 ·subst h2
  rcases hc with⟨h1,hp⟩|⟨h1,hp⟩
  ·
   obtain⟨d1,d2⟩:=hp.DD
   have hm:=hp.le
   have ht:tn ks i=(mp ks i+1) % ks.length:=by unfold tn;rw[iE h1,if_pos (by omega)]
   have EA:∀ p,i<p→p≤mp ks i→vx ks p≠vx ks i:=fun p hp1 hp2=>h.CW hp1 (by omega) (fun q hq1 hq2=>d2 q hq1 (by omega))
   rcases Nat.lt_or_ge (mp ks i+1) ks.length with hlt|hge
   ·rw[ht,Nat.mod_eq_of_lt hlt]
    refine⟨hlt,?_,.inl ⟨by have:=hp.lt;omega,fun p hp1 hp2=>EA p hp1 (by omega)⟩⟩
    refine (h.oq (by have:=hp.lt;omega) (by omega) d1.symm (fun p hp1 hp2=>?_)).symm
    rcases Nat.lt_or_ge i p with hlt2|MQ
    ·rcases Nat.lt_or_ge p (mp ks i+1) with h3|h3
     ·have:=d2 p hlt2 (by omega);omega
     ·obtain rfl:p=mp ks i+1:=by omega
      omega
    ·obtain rfl:p=i:=by omega
     exact Int.le_refl _
   ·have hml:mp ks i+1=ks.length:=by omega
    refine wrap (mp ks i) hml (by have:=hp.lt;omega) ?_ (fun p hp1 hp2=>EA p hp1 (by omega)) ht
    rw[hml] at d1;omega
  ·
   obtain⟨d1,d2⟩:=hp.DD
   have hlt:=hp.lt
   have ht:tn ks i=mp ks i+1:=by
    unfold tn;rw[iE h1,if_pos (by omega),Nat.mod_eq_of_lt (by omega)]
   have hsi:=yx h1
   simp[dd] at hsi
   have hso:=yx hp.opens
   simp[dd] at hso
   have ho:OwnAt ks i (mp ks i):=⟨hlt,hp.opens,by omega,fun p hp1 hp2=>d2 p hp1 hp2⟩
   rw[ht]
   refine⟨by omega,?_,.inr ⟨fun p hp1 hp2=>h.CX ho (by simpa using h1) hp1 (by omega),by omega,fun p hp2 he=>?_⟩⟩
   ·refine h.oq (by omega) (by omega) (by omega) (fun p hp1 hp2=>?_)
    have:=d2 p (by omega) hp2;omega
   ·rw[h.qU (by omega) (by omega)] at he
    rcases he with⟨_,h3⟩|⟨q,h2,h3⟩
    ·have:=ho.hit;have:=h.jZ (p:=mp ks i) (by omega);omega
    ·have:=h3.unique ho
     subst this
     have:=h2.lt;omega
 ·
  have MQ:¬ ks.getD i 0<2:=by
   rcases hc with⟨h1,_⟩|⟨h1,_⟩ <;> rw[iE h1] <;> omega
  have ht:tn ks i=(i+1) % ks.length:=by unfold tn;rw[if_neg MQ]
  have hd:DD ks (i+1)=DD ks i:=by
   obtain rfl:s=1:=by omega
   rcases hc with⟨h1,_⟩|⟨h1,_⟩
   ·have:=yx h1;rw[this];simp[dd]
   ·have:=yx h1;rw[this];simp[dd]
  rcases Nat.lt_or_ge (i+1) ks.length with hlt|hge
  ·rw[ht,Nat.mod_eq_of_lt hlt]
   refine⟨hlt,(h.oq (by omega) (by omega) hd.symm (fun p hp1 hp2=>?_)).symm,.inl ⟨by omega,fun p hp1 hp2=>by omega⟩⟩
   rcases Nat.lt_or_ge i p with h3|h3
   ·obtain rfl:p=i+1:=by omega
    omega
   ·obtain rfl:p=i:=by omega
    exact Int.le_refl _
  ·have hml:i+1=ks.length:=by omega
   refine wrap i hml (by omega) ?_ (fun p hp1 hp2=>by omega) ht
   rw[hml,hend] at hd;omega
end
end
section
def qM(ks:List Nat)(j v:Nat):List Nat:=(List.range j).filter fun p=>vx ks p == v
def pl(ks:List Nat)(v:Nat):List Nat:=qM ks ks.length v
theorem qlv(ks:List Nat)(j v:Nat):qM ks (j+1) v=qM ks j v ++ if vx ks j=v then [j] else []:=by
 unfold qM
 rw[List.range_succ,List.filter_append]
 congr 1
 by_cases hv:vx ks j=v <;> simp[hv]
theorem Bh{ks:List Nat}{v p:Nat}:p ∈ pl ks v↔p<ks.length∧vx ks p=v:=by
 unfold pl qM
 simp[List.mem_filter]
theorem qj7(ks:List Nat)(v:Nat):(pl ks v).Pairwise (·<·):=List.Pairwise.filter _ (List.pairwise_lt_range)
theorem sZ{ks:List Nat}{v i j a c:Nat}(hi:(pl ks v)[i]? = some a)(hj:(pl ks v)[j]? = some c):i<j↔a<c:=by
 have h1:=fK hi
 have h2:=fK hj
 rw[List.getElem?_eq_getElem h1] at hi
 rw[List.getElem?_eq_getElem h2] at hj
 simp only [Option.some.injEq] at hi hj
 have hs:=List.pairwise_iff_getElem.1 (qj7 ks v)
 subst hi
 subst hj
 constructor
 ·intro h;exact hs i j h1 h2 h
 ·intro h
  rcases Nat.lt_trichotomy i j with h3|rfl|h3
  ·exact h3
  ·omega
  ·have:=hs j i h2 h1 h3;omega
section
variable {ks:List Nat} (h:Wd ks)
include h
theorem Wd.qN{v i p:Nat}(hp:(pl ks v)[i]? = some p):(i+1<(pl ks v).length→(pl ks v)[i+1]? = some (tn ks p))∧(¬ i+1<(pl ks v).length→(pl ks v)[0]? = some (tn ks p)):=by
 obtain⟨hpn,hpv⟩:=Bh.1 (List.mem_of_getElem? hp)
 obtain⟨ht,nG,hc⟩:=h.nK hpn
 have htm:tn ks p ∈ pl ks v:=Bh.2 ⟨ht,nG.trans hpv⟩
 obtain⟨k,hk,hke⟩:=List.mem_iff_getElem.1 htm
 have hkt:(pl ks v)[k]? = some (tn ks p):=by rw[List.getElem?_eq_getElem hk,hke]
 have hil:=fK hp
 constructor
 ·intro hlt
  have hn:=List.getElem?_eq_getElem hlt
  generalize (pl ks v)[i+1]=q at *
  obtain⟨QX,LY⟩:=Bh.1 (List.mem_of_getElem? hn)
  have h1:=(sZ hp hn).1 (by omega)
  rcases hc with⟨h2,h3⟩|⟨h2,_⟩
  ·have h4:=(sZ hp hkt).2 h2
   rw[hn]
   congr 1
   rcases Nat.lt_trichotomy q (tn ks p) with h5|h5|h5
   ·exact absurd (LY.trans hpv.symm) (h3 q h1 h5)
   ·exact h5
   ·have:=(sZ hkt hn).2 h5;omega
  ·exact absurd (LY.trans hpv.symm) (h2 q h1 QX)
 ·intro hge
  have hn:=List.getElem?_eq_getElem (l:=pl ks v) (i:=0) (by omega)
  generalize (pl ks v)[0]=q at *
  obtain⟨QX,LY⟩:=Bh.1 (List.mem_of_getElem? hn)
  rcases hc with⟨h2,h3⟩|⟨h2,h3,h4⟩
  ·have:=(sZ hp hkt).2 h2;omega
  ·rw[hn]
   congr 1
   rcases Nat.lt_trichotomy q (tn ks p) with h5|h5|h5
   ·exact absurd (LY.trans hpv.symm) (h4 q h5)
   ·exact h5
   ·have:=(sZ hkt hn).2 h5;omega
theorem Wd.sP{j p:Nat}(hj:p≤j)(hjn:j≤ks.length):vx ks p<aW (ks.take j) 0+1:=by
 rcases h.om (show p≤ks.length by omega) with h1|⟨o,ho⟩
 ·rw[h.iJ (by omega) h1];omega
 ·rw[h.iB (by omega) ho]
  have h1:=Vn ho.opens
  have h2:=UJ ks 0 (show o+1≤j by have:=ho.lt;omega)
  unfold vo;omega
omit h in
theorem qnq(j:Nat):((0 :: (stk ks j).map (vo ks)).getLast?)=some (vx ks j):=by
 unfold vx
 rw[List.getLast?_cons,List.getLast?_map]
 cases hl:(stk ks j).getLast? <;> simp
end
noncomputable def vE(ks:List Nat)(j:Nat):List (List Nat):=(List.range (aW (ks.take j) 0+1)).map fun v=>(qM ks j v).map (bG ks)
theorem Bj(ks:List Nat)(j:Nat):(vE ks j).length=aW (ks.take j) 0+1:=by simp[vE]
theorem LZ{ks:List Nat}{j v:Nat}(hv:v<aW (ks.take j) 0+1):(vE ks j)[v]? = some ((qM ks j v).map (bG ks)):=by simp[vE,hv]
section
variable {ks:List Nat} (h:Wd ks)
include h
theorem Wd.zu{j k:Nat}(hk:ks[j]? = some k):vE ks (j+1)=(vE ks j).set (vx ks j) ((qM ks j (vx ks j)).map (bG ks) ++ [bG ks j]) ++ if k=0 then [[]] else []:=by
 have hj:=fK hk
 have hv:=h.sP (Nat.le_refl j) (by omega)
 have hc:aW (ks.take (j+1)) 0=aW (ks.take j) 0+if k=0 then 1 else 0:=yj hk 0
 apply List.ext_getElem?
 intro v
 have hnew:∀ v,v=aW (ks.take j) 0+1→qM ks (j+1) v=[]:=by
  intro v hv2
  apply List.filter_eq_nil_iff.2
  intro p hp
  have hp:=List.mem_range.1 hp
  have:=h.sP (show p≤j by omega) (show j≤ks.length by omega)
  simp;omega
 rcases Nat.lt_or_ge v (aW (ks.take j) 0+1) with hlt|hge
 ·rw[List.getElem?_append_left (by simp[Bj];exact hlt),LZ (by omega),qlv]
  rw[List.getElem?_set]
  by_cases hvv:vx ks j=v
  ·subst hvv
   rw[if_pos rfl,if_pos rfl,if_pos (by rw[Bj];exact hlt)]
   simp
  ·rw[if_neg hvv,if_neg hvv,LZ hlt]
   simp
 ·rw[List.getElem?_append_right (by simp[Bj];exact hge)]
  simp only [List.length_set,Bj]
  by_cases hk0:k=0
  ·rw[if_pos hk0] at hc
   rw[if_pos hk0]
   rcases Nat.lt_or_ge v (aW (ks.take j) 0+2) with h2|h2
   ·have hve:v=aW (ks.take j) 0+1:=by omega
    rw[LZ (by omega),hnew v hve,hve,Nat.sub_self]
    rfl
   ·rw[List.getElem?_eq_none (by rw[Bj];omega),List.getElem?_eq_none (by simp;omega)]
  ·rw[if_neg hk0] at hc
   rw[if_neg hk0,List.getElem?_eq_none (by rw[Bj];omega)]
   simp
end
end
section
section
variable {ks:List Nat} (h:Wd ks)
include h
theorem Wd.vJ{v a p:Nat}(hp:(pl ks v)[a]? = some p):∀ m,a+m<(pl ks v).length→(pl ks v)[a+m]? = some (bg (tn ks) m p):=by
 intro m
 induction m with
 | zero=>intro _;exact hp
 | succ m ih =>
  intro hm
  have ih:=ih (by omega)
  exact (h.qN ih).1 (by omega)
theorem Wd.CY{v a p:Nat}(hp:(pl ks v)[a]? = some p):(pl ks v)[0]? = some (bg (tn ks) ((pl ks v).length - a) p):=by
 have ha:=fK hp
 have h1:=h.vJ hp ((pl ks v).length - 1 - a) (by omega)
 have h2:=(h.qN h1).2 (by omega)
 have h3:(pl ks v).length - a=((pl ks v).length - 1 - a)+1:=by omega
 rw[h2,h3];rfl
theorem Wd.Hf{i:Nat}(hi:i<ks.length)(k:Nat):bg (tn ks) k i<ks.length∧vx ks (bg (tn ks) k i)=vx ks i:=by
 induction k with
 | zero=>exact⟨hi,rfl⟩
 | succ k ih =>
  obtain⟨h1,h2,_⟩:=h.nK ih.1
  exact⟨h1,h2.trans ih.2⟩
theorem Wd.ou{i j:Nat}(hi:i<ks.length)(hj:j<ks.length):aH (tn ks) i j↔vx ks i=vx ks j:=by
 constructor
 ·rintro⟨k,hk⟩
  rw[← hk];exact (h.Hf hi k).2.symm
 ·intro hv
  obtain⟨a,ha,hae⟩:=List.mem_iff_getElem.1 (Bh.2 ⟨hi,rfl⟩:i ∈ pl ks (vx ks i))
  obtain⟨b,hb,hbe⟩:=List.mem_iff_getElem.1 (Bh.2 ⟨hj,hv.symm⟩:j ∈ pl ks (vx ks i))
  have ga:(pl ks (vx ks i))[a]? = some i:=by rw[List.getElem?_eq_getElem ha,hae]
  have gb:(pl ks (vx ks i))[b]? = some j:=by rw[List.getElem?_eq_getElem hb,hbe]
  have g0:=h.CY ga
  have g1:=h.vJ g0 b (by omega)
  rw[Nat.zero_add,gb] at g1
  exact aH.trans ⟨_,rfl⟩ ⟨b,(Option.some.inj g1).symm⟩
theorem Wd.CZ{o:Nat}(ho:ks[o]? = some 0):vx ks (o+1)=vo ks o:=by
 have hd:=yx ho
 simp[dd] at hd
 refine h.iB (fK ho) ⟨by omega,ho,by omega,fun p hp1 hp2=>?_⟩
 obtain rfl:p=o+1:=by omega
 omega
theorem Wd.C8:vx ks 0=0:=h.iJ (by omega) (JH _)
theorem Wd.xw{o:Nat}(ho:ks[o]? = some 0):o+1<ks.length:=by
 obtain⟨s,hs,⟨h1,h2⟩|⟨h1,h2⟩⟩:=h.cases (fK ho)
 ·have:=h2.lt;have:=h2.le;omega
 ·rw[ho] at h1;have:=Option.some.inj h1;omega
theorem Wd.zH{i:Nat}(hi:i<ks.length):rep (tn ks) i=i↔i=0∨(0<i∧ks[i - 1]? = some 0):=by
 have hP:=h.fF
 constructor
 ·intro hr
  rcases Nat.eq_zero_or_pos i with h0|h0
  ·exact .inl h0
  refine .inr ⟨h0,?_⟩
  have hk:=List.getElem?_eq_getElem (l:=ks) (i:=i - 1) (by omega)
  have h4:=h.k4 _ (List.mem_of_getElem? hk)
  generalize ks[i - 1]=k at *
  have hno:∀ p,p<i→vx ks p≠vx ks i:=fun p hp he=>by
   have:=hP.iP hi ((h.ou hi (by omega)).2 he.symm)
   omega
  by_cases k0:k=0
  ·rw[hk,k0]
  exfalso
  by_cases k1:k=1
  ·subst k1
   obtain⟨s,hs,⟨h1,h2⟩|⟨h1,h2⟩⟩:=h.cases (i:=i - 1) (by omega)
   ·rw[hk] at h1;have:=Option.some.inj h1;omega
   ·have hs0:s=0:=by rw[hk] at h1;have:=Option.some.inj h1;omega
    subst hs0
    have hlt:=h2.lt
    obtain⟨_,hv,_⟩:=h.nK (i:=mp ks (i - 1)) (by omega)
    have ht:tn ks (mp ks (i - 1))=i:=by
     unfold tn
     rw[iE h2.opens,if_pos (by omega),h.eX (by omega),Nat.mod_eq_of_lt (by omega)]
     omega
    rw[ht] at hv
    exact hno _ (by omega) hv.symm
  ·obtain⟨_,hv,_⟩:=h.nK (i:=i - 1) (by omega)
   have ht:tn ks (i - 1)=i:=by
    unfold tn
    rw[iE hk,if_neg (by omega),Nat.mod_eq_of_lt (by omega)]
    omega
   rw[ht] at hv
   exact hno _ (by omega) hv.symm
 ·intro hc
  have hle:=hP.jd hi
  have hs:=hP.cO hi
  have hv:=(h.ou hi (hP.jg hi)).1 hs
  rcases hc with h0|⟨h0,ho⟩
  ·omega
  ·rcases Nat.lt_or_ge (rep (tn ks) i) i with hlt|hge
   ·have h1:=h.CZ ho
    have h2:=h.sP (p:=rep (tn ks) i) (j:=i - 1) (by omega) (by omega)
    rw[show i - 1+1=i by omega] at h1
    unfold vo at h1
    omega
   ·omega
theorem Wd.Hg:∀ i,i≤ks.length→bT (tn ks) i=if i=0 then 0 else aW (ks.take (i - 1)) 0+1:=by
 intro i
 induction i with
 | zero=>intro _;rfl
 | succ i ih =>
  intro hi
  rw[um,ih (by omega),if_neg (show ¬ i+1=0 by omega),Nat.add_sub_cancel]
  have hr:=h.zH (i:=i) (by omega)
  rcases Nat.eq_zero_or_pos i with rfl|h0
  ·rw[if_pos rfl,if_pos (hr.2 (.inl rfl))];simp[aW]
  ·rw[if_neg (by omega)]
   have hk:=List.getElem?_eq_getElem (l:=ks) (i:=i - 1) (by omega)
   have hc:=yj hk 0
   rw[show i - 1+1=i by omega] at hc
   generalize ks[i - 1]=k at *
   rw[hc]
   by_cases k0:k=0
   ·rw[if_pos k0,if_pos (hr.2 (.inr ⟨h0,by rw[hk,k0]⟩))]
   ·rw[if_neg k0,if_neg (fun hh=>by
     rcases hr.1 hh with h1|⟨_,h1⟩
     ·omega
     ·rw[hk] at h1;exact k0 (Option.some.inj h1))]
theorem Wd.vK(hn:0<ks.length):bT (tn ks) ks.length=aW ks 0+1:=by
 rw[h.Hg _ (Nat.le_refl _),if_neg (by omega)]
 have hk:=List.getElem?_eq_getElem (l:=ks) (i:=ks.length - 1) (by omega)
 have hc:=yj hk 0
 rw[show ks.length - 1+1=ks.length by omega,List.take_of_length_le (Nat.le_refl _)] at hc
 rw[hc,if_neg]
 ·intro h0
  rw[h0] at hk
  have:=h.xw hk
  omega
end
def swp(ks:List Nat):List Nat:=ks.map fun k=>if k<2 then k+2 else k - 2
theorem MR(ks:List Nat):(swp ks).length=ks.length:=by simp[swp]
theorem qj8{ks:List Nat}{i k:Nat}(h:ks[i]? = some k):(swp ks)[i]? = some (if k<2 then k+2 else k - 2):=by simp[swp,h]
theorem qlw:∀ (ks:List Nat) (k:Nat),(∀ x ∈ ks,x<4)→k<2→aW (swp ks) k=aW ks (k+2)∧aW (swp ks) (k+2)=aW ks k:=by
 intro ks k h4 hk
 induction ks with
 | nil=>exact⟨rfl,rfl⟩
 | cons x ks ih =>
  obtain⟨h1,h2⟩:=ih (fun y hy=>h4 y (by simp[hy]))
  have hx:=h4 x (by simp)
  unfold aW swp at *
  simp only [List.map_cons,List.filter_cons]
  have hc:(x=0∨x=1∨x=2∨x=3):=by omega
  have hd:(k=0∨k=1):=by omega
  rcases hc with rfl|rfl|rfl|rfl <;> rcases hd with rfl|rfl <;> simp_all
theorem Q8(s:Nat)(hs:s<2):∀ ks:List Nat,(∀ x ∈ ks,x<4)→ownB (1 - s) (swp ks)=ownB s ks:=by
 intro ks h4
 induction ks with
 | nil=>rfl
 | cons x ks ih =>
  have h1:=ih (fun y hy=>h4 y (by simp[hy]))
  have hx:=h4 x (by simp)
  unfold ownB swp at *
  have hc:(x=0∨x=1∨x=2∨x=3):=by omega
  have hd:(s=0∨s=1):=by omega
  rcases hc with rfl|rfl|rfl|rfl <;> rcases hd with rfl|rfl <;> simp_all
theorem qfz(ks:List Nat)(n:Nat):(swp ks).take n=swp (ks.take n):=by simp[swp,List.map_take]
theorem qow(s:Nat)(hs:s<2)(ks:List Nat)(h4:∀ x ∈ ks,x<4)(n:Nat):pr (1 - s) (swp ks) n=pr s ks n:=by
 have h1:=Q8 s hs (ks.take n) (fun x hx=>h4 x (List.mem_of_mem_take hx))
 have h2:=y7 (1 - s) ((swp ks).take n)
 have h3:=y7 s (ks.take n)
 rw[qfz,h1,h3] at h2
 unfold pr at h2 ⊢
 rw[List.take_of_length_le (Nat.le_refl _),List.take_of_length_le (Nat.le_refl _),← qfz] at h2
 exact h2.symm
theorem bO.swapped{s:Nat}(hs:s<2){ks:List Nat}(h4:∀ x ∈ ks,x<4){j n:Nat}(h:bO s ks j n):bO (1 - s) (swp ks) j n:=by
 obtain⟨k,h1,h2,h3⟩:=h
 refine⟨_,qj8 h1,?_,by rw[qow s hs ks h4,h3]⟩
 have:=h4 k (List.mem_of_getElem? h1)
 split <;> omega
theorem bK.swapped{ks:List Nat}(h4:∀ x ∈ ks,x<4){i m:Nat}(h:bK ks i m):bK (swp ks) i m:=by
 obtain⟨s,a,c,hs,h1,h2,h3⟩:=h
 exact⟨1 - s,a,c,by omega,h1.swapped hs h4,h2.swapped hs h4,by rw[Q8 s hs ks h4];exact h3⟩
section
variable {ks:List Nat} (h:Wd ks)
include h
theorem Wd.swapped:Wd (swp ks):=by
 refine⟨fun k hk=>?_,?_,?_⟩
 ·simp only [swp,List.mem_map] at hk
  obtain⟨x,hx,rfl⟩:=hk
  have:=h.k4 x hx
  split <;> omega
 ·have:=Q8 1 (by omega) ks h.k4
  rw[show 1 - 1=0 from rfl] at this
  rw[this];exact h.bal.2
 ·have:=Q8 0 (by omega) ks h.k4
  rw[show 1 - 0=1 from rfl] at this
  rw[this];exact h.bal.1
theorem Wd.Hl{i:Nat}(hi:i<ks.length):mp (swp ks) i=mp ks i :=
 h.swapped.zG (by rw[MR];exact hi) ((h.mate hi).swapped h.k4)
end
noncomputable def ph(ks:List Nat)(i:Nat):Nat:=tn ks (mp ks i)
theorem Wd.uG{ks:List Nat}(h:Wd ks):aM ks.length (ph ks) :=
 ⟨fun d hd=>h.fF.lt _ (h.dS hd),fun d e hd he hh=>by
  have h1:=h.fF.inj _ _ (h.dS hd) (h.dS he) hh
  rw[← h.eX hd,h1,h.eX he]⟩
theorem Wd.Ho{ks:List Nat}(h:Wd ks){i:Nat}(hi:i<ks.length):ph ks i=tn (swp ks) i:=by
 unfold ph tn
 rw[MR,h.Hl hi]
 have hk:=List.getElem?_eq_getElem hi
 have h4:=h.k4 _ (List.mem_of_getElem? hk)
 rw[iE (qj8 hk)]
 have ht:=h.kG hi
 rw[iE hk] at ht
 generalize ks[i]=k at *
 by_cases k2:k<2
 ·rw[if_pos (ht.2 k2),h.eX hi,if_pos k2,if_neg (by omega)]
 ·rw[if_neg (fun hh=>k2 (ht.1 hh)),if_neg k2,if_pos (by omega)]
theorem Vo{n:Nat}{S T:Nat→Nat}(hT:∀ d,d<n→T d<n)(he:∀ d,d<n→S d=T d){d:Nat}(hd:d<n)(k:Nat):bg S k d=bg T k d∧bg T k d<n:=by
 induction k with
 | zero=>exact⟨rfl,hd⟩
 | succ k ih =>
  have h1:bg S (k+1) d=S (bg S k d):=rfl
  have h2:bg T (k+1) d=T (bg T k d):=rfl
  rw[h1,h2,ih.1]
  exact⟨he _ ih.2,hT _ ih.2⟩
theorem qj9{n:Nat}{S T:Nat→Nat}(hS:aM n S)(hT:aM n T)(he:∀ d,d<n→S d=T d){d:Nat}(hd:d<n):per S d=per T d:=by
 obtain⟨a1,a2,a3,a4⟩:=hS.aZ hd
 obtain⟨b1,b2,b3,b4⟩:=hT.aZ hd
 rw[(Vo hT.lt he hd _).1] at a3
 rw[← (Vo hT.lt he hd _).1] at b3
 rcases Nat.lt_trichotomy (per S d) (per T d) with hlt|heq|hlt
 ·exact absurd a3 (b4 _ a1 hlt)
 ·exact heq
 ·exact absurd b3 (a4 _ b1 hlt)
theorem qja{n:Nat}{S T:Nat→Nat}(hS:aM n S)(hT:aM n T)(he:∀ d,d<n→S d=T d){d:Nat}(hd:d<n):lu S d=lu T d:=by
 unfold lu
 rw[qj9 hS hT he hd]
 exact List.map_congr_left (fun i _=>(Vo hT.lt he hd i).1)
theorem Q9{n:Nat}{S T:Nat→Nat}(hS:aM n S)(hT:aM n T)(he:∀ d,d<n→S d=T d){d:Nat}(hd:d<n):rep S d=rep T d:=by
 unfold rep
 rw[qja hS hT he hd]
theorem CK{n:Nat}{S T:Nat→Nat}(hS:aM n S)(hT:aM n T)(he:∀ d,d<n→S d=T d):∀ i,i≤n→bT S i=bT T i:=by
 intro i
 induction i with
 | zero=>intro _;rfl
 | succ i ih =>
  intro hi
  rw[um,um,ih (by omega),Q9 hS hT he (by omega)]
theorem Wd.Hq{ks:List Nat}(h:Wd ks)(hn:0<ks.length):bT (ph ks) ks.length=aW ks 2+1:=by
 have hT:=h.swapped.fF
 rw[MR] at hT
 rw[CK h.uG hT (fun d hd=>h.Ho hd) _ (Nat.le_refl _)]
 have h1:=h.swapped.vK (by rw[MR];exact hn)
 rw[MR,(qlw ks 0 h.k4 (by omega)).1] at h1
 exact h1
theorem Wd.jB{ks:List Nat}(h:Wd ks):2 * (aW ks 0+aW ks 2)=ks.length:=by
 have h1:=h.lI
 have h2:=h.pE
 unfold DD at h1
 unfold BB at h2
 rw[List.take_of_length_le (Nat.le_refl _)] at h1 h2
 have h3:∀ l:List Nat,(∀ k ∈ l,k<4)→aW l 0+aW l 1+aW l 2+aW l 3=l.length:=by
  intro l
  induction l with
  | nil=>intro _;rfl
  | cons x l ih =>
   intro h4
   have h1:=ih (fun y hy=>h4 y (by simp[hy]))
   have hx:=h4 x (by simp)
   unfold aW at *
   have hc:(x=0∨x=1∨x=2∨x=3):=by omega
   rcases hc with rfl|rfl|rfl|rfl <;> simp <;> omega
 have:=h3 ks h.k4
 omega
theorem Wd.EB{ks:List Nat}(h:Wd ks)(hn:0<ks.length):bT (tn ks) ks.length+bT (ph ks) ks.length=ks.length / 2+2:=by
 rw[h.vK hn,h.Hq hn]
 have:=h.jB
 omega
theorem fO.unique{ks:List Nat}{s i j m:Nat}(h:fO ks s i j)(k:fO ks s i m):j=m:=by
 rcases Nat.lt_trichotomy j m with hlt|rfl|hlt
 ·have:=k.above (j+1) (by have:=h.lt;omega) hlt;have:=h.hit;omega
 ·rfl
 ·have:=h.above (m+1) (by have:=k.lt;omega) hlt;have:=k.hit;omega
theorem Wd.lJ{ks:List Nat}(hw:Wd ks){s i j:Nat}(h:fO ks s i j):mp ks i=j:=by
 obtain⟨t,ht,⟨h1,h2⟩|⟨h1,h2⟩⟩:=hw.cases (i:=i) (by have:=h.lt;have:=h.le;omega)
 ·have h3:=h.opens
  rw[h1] at h3
  obtain rfl:t=s:=by have:=Option.some.inj h3;omega
  exact h2.unique h
 ·have h3:=h.opens
  rw[h1] at h3
  have:=Option.some.inj h3
  omega
end
section
structure eu (n:Nat)(S aC:Nat→Nat)(root T:Nat):Prop where
 right:bZ (gq (aX S aC root T).2)
 nd:((aX S aC root T).2.map Prod.fst).Nodup
 sN:∀ x,x<n→(aJ n S root x↔vis (aX S aC root T).2 x)
 lt:∀ x,vis (aX S aC root T).2 x→x<n
 cur:∀ j,j<T→(aX S aC root j).1<n∧¬ vis (aX S aC root j).2 (aX S aC root j).1
 k4:∀ j,j≤T→∀ x k,(x,k) ∈ (aX S aC root j).2→k<4
 le:T≤n
theorem qnr{n:Nat}{S aC:Nat→Nat}(h:aM n S)(he:n % 2=0)(hv:∀ x y,x<n→y<n→(aC x=aC y↔aH S x y)){root:Nat}(hr:root<n):∃ T,eu n S aC root T:=by
 have Bd:∀ x,x<n→aC (S x)=aC x:=fun x hx=>((hv x (S x) hx (h.lt x hx)).2 (aH.step S x)).symm
 obtain⟨T,r,I,hd,hall⟩:=ZT h he hv hr n 0 0 [] (by omega) (QN hv hr) (fun i hi=>by omega)
 have key:∀ j,j≤T→∃ r st pend,dZ n S aC root r st (aX S aC root j).1 (aX S aC root j).2∧sJ (aX S aC root j).2 st pend:=by
  intro j
  induction j with
  | zero=>intro _;exact⟨0,[],[],QN hv hr,ZU⟩
  | succ j ih =>
   intro hj
   obtain⟨r1,st1,pend,I1,W1⟩:=ih (by omega)
   obtain⟨r2,st2,I2,hn2⟩:=hall j (by omega)
   obtain⟨f1,f2,f3⟩:=I2.fresh h hr hn2
   have hn1:¬ gZ S root r1 st1:=fun hd1=>f3 (I1.all h hr hd1 Bd f2)
   obtain⟨r3,oQ,hs,I3⟩:=I1.step h he hv hr hn1
   obtain⟨sK,W3⟩:=W1.step h hr I1 f3 hs
   exact⟨r3,oQ,sK,I3,W3⟩
 obtain⟨r1,st1,pend,I1,W1⟩:=key T (Nat.le_refl _)
 have hd1:gZ S root r1 st1:=by
  apply Classical.byContradiction
  intro hn
  obtain⟨_,f2,f3⟩:=I1.fresh h hr hn
  exact f3 (I.all h hr hd Bd f2)
 obtain⟨rfl,hd2⟩:=id hd1
 refine⟨T,⟨W1.done h hr I1 ⟨rfl,hd2⟩,I.nd,fun x hx=>⟨fun hc=>I.all h hr hd Bd hc,fun GJ=>(I.conn x GJ).2⟩,fun x hx=>(I.conn x hx).1,fun j hj=>?_,fun j hj=>?_,?_⟩⟩
 ·obtain⟨r2,st2,I2,hn2⟩:=hall j hj
  obtain⟨f1,f2,f3⟩:=I2.fresh h hr hn2
  exact⟨f1,f3⟩
 ·obtain⟨r2,st2,_,I2,_⟩:=key j hj
  exact I2.k4
 ·have:=I.len
  rwa [rO] at this
theorem eu.total{n:Nat}{S aC:Nat→Nat}{root T:Nat}(h:eu n S aC root T)(p:Nat→Bool)(hp:∀ x,x<n→(p x=true↔aJ n S root x)):((List.range n).filter p).length=T:=by
 have h1:((List.range n).filter p).length=((aX S aC root T).2.map Prod.fst).length:=by
  refine Ur (List.Pairwise.filter _ List.nodup_range) h.nd (fun x=>?_)
  rw[List.mem_filter,List.mem_range,← JF]
  constructor
  ·rintro⟨h2,h3⟩;exact (h.sN x h2).1 ((hp x h2).1 h3)
  ·intro h2
   have hx:=h.lt x h2
   exact⟨hx,(hp x hx).2 ((h.sN x hx).2 h2)⟩
 rw[h1,List.length_map,rO]
def iK(out:List (Nat × Nat))(e:Nat):Option Nat:=(out.find? (fun p=>p.1 / 2 == e)).map Prod.snd
theorem Vp(out:List (Nat × Nat))(d k e:Nat):iK (out ++ [(d,k)]) e=match iK out e with|some x=>some x|none=>if d / 2=e then some k else none:=by
 unfold iK
 rw[List.find?_append]
 cases out.find? (fun p=>p.1 / 2 == e) with
 | some p=>rfl
 | none =>
  by_cases h:d / 2=e
  ·simp[h]
  ·simp[h]
theorem qct(aC:Nat→Nat)(root:Nat)(out:List (Nat × Nat))(d:Nat):bJ aC root out d=match iK out (d / 2) with|some x=>x+1|none=>if dB aC root out (aC (mt d)) then 2 else 0:=by
 unfold bJ iK
 cases out.find? (fun p=>p.1 / 2 == d / 2) <;> rfl
end
section
open Go.RowKit
noncomputable def mD(l nm:List Nat)(part i:Nat):Nat:=((List.range i).filter fun d=>rep (sg l) d == d && sg nm d == part).length
theorem Rb(l nm:List Nat)(part i:Nat):mD l nm part (i+1)=mD l nm part i+if rep (sg l) i=i∧sg nm i=part then 1 else 0:=by
 unfold mD
 rw[List.range_succ,List.filter_append,List.length_append]
 by_cases h1:rep (sg l) i=i <;> by_cases h2:sg nm i=part <;> simp[h1,h2]
theorem JQ(l nm:List Nat)(part i:Nat):mD l nm part i≤i:=by
 unfold mD
 have:=List.length_filter_le (fun d=>rep (sg l) d == d && sg nm d == part) (List.range i)
 simpa using this
end
section
open Go.RowKit
theorem qb4(w:World)(a b c d e:Value)(t:TypeId):∀ j u,[a,b,c,d,e][j]? = some u→(w.alloc (.cells #[a,b,c,d,e] t)).cell? ((⟨w.heap.size,0,none⟩:Addr).add j)=some u:=by
 intro j u hj
 match j,hj with
 | 0,hj=>simp at hj;subst hj;simp[Addr.add]
 | 1,hj=>simp at hj;subst hj;simp[Addr.add]
 | 2,hj=>simp at hj;subst hj;simp[Addr.add]
 | 3,hj=>simp at hj;subst hj;simp[Addr.add]
 | 4,hj=>simp at hj;subst hj;simp[Addr.add]
 | j+5,hj=>simp at hj
def Own5(t:TypeId)(B:Nat)(w:World)(v:Value)(ps:List (List Int)):Prop:=w.ownsRow B t 5 v ps.length (ints ps.flatten)∧∀ p ∈ ps,p.length=5
theorem qcu:∀ {ps:List (List Int)} {j k:Nat} {p:List Int},(∀ p ∈ ps,p.length=5)→ps[j]? = some p→k<5→ps.flatten[j * 5+k]? = p[k]?:=by
 intro ps
 induction ps with
 | nil=>intro j k p _ h;simp at h
 | cons q ps ih =>
  intro j k p h5 hp hk
  have hq:=h5 q (by simp)
  cases j with
  | zero =>
   obtain rfl:q=p:=by simpa using hp
   rw[List.flatten_cons,List.getElem?_append_left (by omega)]
   congr 1;omega
  | succ j =>
   rw[List.flatten_cons,List.getElem?_append_right (by omega),hq]
   have:=ih (j:=j) (k:=k) (p:=p) (fun p hp=>h5 p (by simp[hp])) (by simpa using hp) hk
   rw[← this]
   congr 1;omega
theorem Own5.nil(t:TypeId)(B:Nat)(w:World):Own5 t B w (.slice none 0 0) []:=⟨World.ownsRow_nil _ _ _ _,fun p hp=>by cases hp⟩
theorem Own5.keeps{t:TypeId}{B:Nat}{w w':World}{v:Value}{ps:List (List Int)}{F:Nat→Prop}(h:Own5 t B w v ps)(k:Keeps F w w')(hf:∀ b,v.ownBlock=some b→¬ F b):Own5 t B w' v ps:=⟨k.owns h.1 hf,h.2⟩
theorem Own5.lt{t:TypeId}{B:Nat}{w:World}{v:Value}{ps:List (List Int)}(h:Own5 t B w v ps):∀ k,v.ownBlock=some k→B≤k∧k<w.heap.size:=World.ownsRow.lt h.1
theorem Own5.form{t:TypeId}{B:Nat}{w:World}{v:Value}{ps:List (List Int)}(h:Own5 t B w v ps):∃ a cap,v=.slice a ps.length cap:=by
 obtain⟨⟨_,h⟩,_⟩:=h
 rcases h with⟨rfl,h0⟩|⟨g,cap,cur,rfl,_⟩
 ·exact⟨none,0,by rw[h0]⟩
 ·exact⟨_,cap,rfl⟩
theorem Own5.cell{t:TypeId}{B:Nat}{w:World}{v:Value}{ps:List (List Int)}(h:Own5 t B w v ps){j:Nat}{p:List Int}(hp:ps[j]? = some p):∃ g cap,v=.slice (some ⟨g,0,none⟩) ps.length cap∧∀ k z,p[k]? = some z→w.cell? ⟨g,j * 5+k,none⟩=some (.int .i64 z):=by
 obtain⟨h1,h5⟩:=h
 have hj:=fK hp
 obtain⟨h0,h2⟩:=id h1
 rcases h2 with⟨_,h2⟩|⟨g,cap,cur,rfl,_⟩
 ·omega
 ·refine⟨g,cap,rfl,fun k z hk=>?_⟩
  have hk5:k<5:=by have:=fK hk;have:=h5 p (List.mem_of_getElem? hp);omega
  rw[World.ownsRow.cellAt h1 _ (by omega)]
  unfold ints
  rw[List.getElem?_map,qcu h5 hp hk5,hk]
  rfl
noncomputable def fG(s:List Nat):List Nat:=(List.range s.length).map (bf s.length (sg s))
theorem vL{s:List Nat}{d:Nat}(hd:d<s.length):sg (fG s) d=bf s.length (sg s) d:=by simp[sg,fG,hd]
def j3(nm:List Nat)(k i:Nat):Nat:=((List.range i).filter fun d=>sg nm d == k).length
theorem qcv(nm:List Nat)(k i:Nat):j3 nm k (i+1)=j3 nm k i+if sg nm i=k then 1 else 0:=by
 unfold j3
 rw[List.range_succ,List.filter_append,List.length_append]
 by_cases h2:sg nm i=k <;> simp[h2]
theorem qns(nm:List Nat)(k i:Nat):j3 nm k i≤i:=by
 unfold j3
 have:=List.length_filter_le (fun d=>sg nm d == k) (List.range i)
 simpa using this
noncomputable def Hr(s:List Nat)(k:Nat):Nat:=mD s (fG s) k s.length
noncomputable def Ht(s:List Nat)(k:Nat):Nat:=mD (aQ s) (fG s) k s.length
noncomputable def EC(s:List Nat)(k:Nat):Nat:=j3 (fG s) k s.length / 2
noncomputable def p9(s:List Nat)(k:Nat):Int:=(2 - (Hr s k:Int)+EC s k - Ht s k).tdiv 2
noncomputable def zI(s:List Nat)(d:Nat):List Int:=[(d:Int),Hr s (bf s.length (sg s) d),EC s (bf s.length (sg s) d),Ht s (bf s.length (sg s) d),p9 s (bf s.length (sg s) d)]
noncomputable def nL(s:List Nat)(j:Nat):List (List Int):=((List.range j).filter fun d=>aV s.length (sg s) d == d).map (zI s)
theorem zJ(s:List Nat)(j:Nat):(nL s j).length=aR s.length (sg s) j:=by simp[nL,aR]
noncomputable def iC(s:List Nat)(lone:Nat):List (List Int):=nL s s.length ++ List.replicate lone [-1,1,0,1,0]
theorem aM.oz{n:Nat}{S:Nat→Nat}(h:aM n S)(he:n % 2=0){j:Nat}(hj:j<n):bf n S j=aR n S j↔aV n S j=j:=by
 have hle:aV n S j≤j:=vI (aJ.refl _ _ _)
 constructor
 ·intro hc
  rcases Nat.lt_or_ge (aV n S j) j with hlt|hge
  ·have h1:=uF n S (aV n S j)
   rw[if_pos (h.fP he hj)] at h1
   have h2:=JN n S (show aV n S j+1≤j from hlt)
   unfold bf at hc
   omega
  ·omega
 ·intro hc
  unfold bf
  rw[hc]
end
section
open Go.RowKit
theorem MS{s:List Nat}(hP:aM s.length (sg s))(he:s.length % 2=0):aM (aQ s).length (sg (aQ s)):=by
 have hg:∀ d,d<s.length→sg (aQ s) d=sg s (mt d):=fun d hd=>by simp[sg,aQ,hd]
 rw[lT]
 refine⟨fun d hd=>by rw[hg d hd];exact hP.lt _ (aU he hd),fun d e hd hde hh=>?_⟩
 rw[hg d hd,hg e hde] at hh
 have:=hP.inj _ _ (aU he hd) (aU he hde) hh
 rw[← bD d,this,bD]
theorem qev{a M:Int}(h1:-M≤a)(h2:a≤M):-M≤a.tdiv 2∧a.tdiv 2≤M:=by
 rcases Int.le_total 0 a with h|h
 ·rw[Int.tdiv_eq_ediv_of_nonneg h];omega
 ·have h3:a.tdiv 2=-((-a).tdiv 2):=by rw[Int.neg_tdiv,Int.neg_neg]
  rw[h3,Int.tdiv_eq_ediv_of_nonneg (by omega)];omega
end
section
open Go.RowKit
theorem Vq(w:World):aF w.heap.size (w.alloc (.cells #[] 3)) (.slice (some ⟨w.heap.size,0,none⟩) 0 0) []:=by
 refine⟨rfl,.inr ⟨w.heap.size,0,#[],rfl,Nat.le_refl _,heap_alloc_new w _,Nat.le_refl _,Nat.zero_le _,?_,?_⟩⟩ <;> simp[ints]
theorem Vr(sv:Value)(zs:List Int)(w:World)(hs:Sl .i64 w sv zs)(hl:zs.length≤1000000000) :
  Calls Tryz.prog 120 #[sv] w fun e w'=>∃ v,e=.returned v∧aF w.heap.size w' v zs∧Keeps (fun _=>False) w w':=by
 have hnil:=fun (w:World) (a:Option Addr) (n c:Nat)=>Lib.run_eql_slice_nil (P:=Tryz.prog) w 25 3 a n c 0 0 Tryz.underlying25
 have hs0:=hs
 obtain⟨a,cap,rfl,hnc,hcm,hnone,hc⟩:=hs
 cases a with
 | none =>
  have hz:zs=[]:=by
   cases zs with
   | nil=>rfl
   | cons y ys=>obtain⟨g,off,h,_⟩:=hc 0 y rfl;cases h
  subst hz
  obtain rfl:=hnone rfl
  clear hc hs0 hnone
  go_enter Tryz.func120,Tryz.ntmps120
  go_wp2
  go_ret
  exact⟨_,rfl,aF.nil _ _,Keeps.refl _ _⟩
 | some a =>
  have k0:=(Keeps.refl (fun _=>False) w).alloc (.cells #[] 3)
  have hs1:=hs0.keeps k0 (fun _ _ h=>h)
  have ho:=Vq w
  have H0:=ah (aj hs1 (aj ho k0))
  clear hc hs0 hnone hs1 ho k0
  go_enter Tryz.func120,Tryz.ntmps120
  go_wp2_with (at_builtin;(refine Qp rfl _ _ rfl w.heap.size (.slice (some ⟨w.heap.size,0,none⟩) 0 0) (.slice (some a) zs.length cap) [] zs rfl rfl H0.out.2.1 H0.out.1 (by simp;omega) (by simp) ?_);intro v5 w5 hown5 hk5 C9)
  have HF:Hid (aF w.heap.size w5 v5 zs∧Keeps (fun _=>False) w w5):=ah ⟨by simpa using hown5,H0.out.2.2.trans hk5 (fun x hx h=>by simp only [Value.ownBlock,Option.some.injEq] at h;omega)⟩
  clear hown5 hk5 C9
  go_wp2
  go_ret
  exact⟨_,rfl,HF.out⟩
end
