import Derived.Lib.Bytealg
import Derived.Test.YtcfdpogegngplaaGreatZg04
set_option maxRecDepth 100000
set_option maxHeartbeats 4000000
namespace Go.Proofs.YtcfdpogegngplaaGreat
section
open Go.RowKit
theorem Zt:(Tryz.prog.info? 5).map (fun i=>(i.zero,i.size,i.bytes))=some (some (.int .u8 0),1,1):=by kernel_rfl
def QB(ks:List Nat):List Value:=ks.map fun k:Nat=>Value.int .u8 k
def bW(w:World)(b:Nat)(v:Value)(ks:List Nat):Prop :=
 w.heap[b]? = some (.cells #[v] 236 (0,0))∧w.ownsRow 0 5 1 v ks.length (QB ks)
theorem bW.lt{w:World}{b:Nat}{v:Value}{ks:List Nat}(h:bW w b v ks):b<w.heap.size:=lt_of_block h.1
theorem bW.apart{w:World}{b:Nat}{v:Value}{ks:List Nat}(h:bW w b v ks):∀ k,v.ownBlock=some k→k≠b∧k<w.heap.size:=by
 intro k hk
 obtain⟨h1,_,h2⟩:=h
 rcases h2 with⟨rfl,_⟩|⟨g,cap,cur,rfl,_,hg,_⟩
 ·simp[Value.ownBlock] at hk
 ·simp only [Value.ownBlock,Option.some.injEq] at hk
  subst hk
  refine⟨?_,lt_of_block hg⟩
  rintro rfl
  rw[h1] at hg
  simp at hg
theorem bW.keeps{w w':World}{F:Nat→Prop}{b:Nat}{v:Value}{ks:List Nat}(h:bW w b v ks)(k:Keeps F w w')(hb:¬ F b)(hv:∀ k,v.ownBlock=some k→¬ F k):bW w' b v ks :=
 ⟨k.at h.1 hb,k.owns h.2 hv⟩
theorem bW.form{w:World}{b:Nat}{v:Value}{ks:List Nat}(h:bW w b v ks):∃ a cap,v=.slice a ks.length cap∧ks.length≤cap∧cap≤9223372036854775807∧∀ j k,ks[j]? = some k→∃ g,a=some ⟨g,0,none⟩∧w.cell? ⟨g,j,none⟩=some (.int .u8 (k:Nat)):=by
 by_cases h0:0<ks.length
 ·obtain⟨g,cap,rfl,h1,h2,hc,_,_⟩:=o7 h.2 h0
  refine⟨_,cap,rfl,h1,by unfold maxLen at h2;omega,fun j k hj=>⟨g,rfl,?_⟩⟩
  exact (hc j (.int .u8 (k:Nat)) (by rw[QB,List.getElem?_map,hj];rfl)).1
 ·have hz:ks=[]:=List.eq_nil_of_length_eq_zero (by omega)
  subst hz
  obtain⟨_,_,h2⟩:=h
  rcases h2 with⟨rfl,_⟩|⟨g,cap,cur,rfl,_,hg,hnc,hcm,_⟩
  ·exact⟨none,0,rfl,by simp,by decide,fun j k hj=>by simp at hj⟩
  ·exact⟨_,cap,rfl,by simp,by unfold maxLen at hcm;omega,fun j k hj=>by simp at hj⟩
theorem Zu(w:World):bW (w.alloc (.cells #[.slice none 0 0] 236)) w.heap.size (.slice none 0 0) [] :=
 ⟨heap_alloc_new w _,World.ownsRow_nil _ _ _ _⟩
theorem Uw(w:World) :
  Calls Tryz.prog 169 #[] w fun e w'=>e=.returned (.pointer (some ⟨w.heap.size,0,none⟩))∧w'=w.alloc (.cells #[.slice none 0 0] 236):=by
 go_enter Tryz.func169,Tryz.ntmps169
 go_wp2
 go_ret
 exact⟨rfl,rfl⟩
theorem Ux(b:Nat)(v:Value)(ks:List Nat)(w:World)(h:bW w b v ks) :
  Calls Tryz.prog 171 #[.pointer (some ⟨b,0,none⟩)] w fun e w'=>e=.returned (.int .i64 ks.length)∧w=w':=by
 have h0:w.cell? ⟨b,0,none⟩=some v:=ak h.1 0
 obtain⟨a,cap,rfl,h1,h2,_⟩:=h.form
 clear h
 go_enter Tryz.func171,Tryz.ntmps171
 go_wp2
 go_ret
 exact⟨rfl,rfl⟩
theorem qio(b:Nat)(v:Value)(ks:List Nat)(i k:Nat)(w:World)(h:bW w b v ks)(hi:ks[i]? = some k)(hk:k<256) :
  Calls Tryz.prog 281 #[.pointer (some ⟨b,0,none⟩),.int .i64 i] w fun e w'=>e=.returned (.int .i64 k)∧w=w':=by
 have hlt:i<ks.length:=by
  rcases Nat.lt_or_ge i ks.length with h' | h'
  ·exact h'
  ·rw[List.getElem?_eq_none h'] at hi;cases hi
 have h0:w.cell? ⟨b,0,none⟩=some v:=ak h.1 0
 have hL:=Ux b v ks w h
 obtain⟨a,cap,rfl,h1,h2,hc⟩:=h.form
 obtain⟨g,rfl,hc⟩:=hc i k hi
 clear h hi
 go_enter Tryz.func281,Tryz.ntmps281
 go_wp2_with (go_at_call 171;refine hL.mono ?_;rintro e w' ⟨rfl,rfl⟩)
 go_ret
 exact⟨rfl,rfl⟩
def eG(w:World)(b:Nat)(v:Value)(ks':List Nat)(w':World):Prop :=
 ∃ v',bW w' b v' ks'∧Keeps (fun k=>k=b∨v.ownBlock=some k) w w'∧(v'.ownBlock=v.ownBlock∨∃ k,v'.ownBlock=some k∧w.heap.size≤k)
theorem eG.trans{w w1 w2:World}{b:Nat}{v v1:Value}{ks':List Nat}(hk:Keeps (fun k=>k=b∨v.ownBlock=some k) w w1)
  (hv:v1.ownBlock=v.ownBlock∨∃ k,v1.ownBlock=some k∧w.heap.size≤k)(h:eG w1 b v1 ks' w2):eG w b v ks' w2:=by
 obtain⟨v2,h1,h2,h3⟩:=h
 refine⟨v2,h1,hk.trans h2 ?_,?_⟩
 ·rintro x hx (rfl|hx2)
  ·exact .inl rfl
  ·rcases hv with hv|⟨k,hv,hk⟩
   ·exact .inr (by rw[← hv];exact hx2)
   ·rw[hv] at hx2;cases hx2;omega
 ·rcases h3 with h3|⟨k,h3,hk3⟩
  ·rw[h3];exact hv
  ·exact .inr ⟨k,h3,Nat.le_trans hk.size hk3⟩
theorem bW.grown{w:World}{b:Nat}{v:Value}{ks:List Nat}(h:bW w b v ks):eG w b v ks w:=⟨v,h,Keeps.refl _ _,.inl rfl⟩
theorem bW.push{wr w1:World}{b:Nat}{v:Value}{ks:List Nat}{o:Obj}{k g cap:Nat}(h:bW wr b v ks)
  (hown:w1.ownsRow 0 5 1 (.slice (some ⟨g,0,none⟩) (ks.length+1) cap) (ks.length+1) (QB ks ++ [.int .u8 k]))(hgrow:(wr.alloc o).grownBy w1 v.ownBlock)(hat:v.ownBlock=some g∨g=wr.heap.size+1) :
  eG wr b v (ks ++ [k]) (w1.setCell ⟨b,0,none⟩ (.slice (some ⟨g,0,none⟩) (ks.length+1) cap))∧w1.heap[b]? = some (.cells #[v] 236 (0,0)):=by
 have hb:=h.lt
 have hap:=h.apart
 have k1:Keeps (fun k=>v.ownBlock=some k) wr w1:=((Keeps.refl _ wr).alloc _).grown hgrow (fun k hk=>.inl hk)
 have hb1:=k1.at h.1 (fun e=>(hap b e).1 rfl)
 have hgb:g≠b:=by
  rcases hat with h|h
  ·exact (hap g h).1
  ·omega
 refine⟨⟨_,⟨dM hb1 0 _,?_⟩,(k1.mono (fun x _ h=>.inr h)).setCell (.inl (.inl rfl)) _,?_⟩,hb1⟩
 ·have:=ownsRow_setCell_other hown (a:=⟨b,0,none⟩) (by simp[Value.ownBlock];exact hgb) (.slice (some ⟨g,0,none⟩) (ks.length+1) cap)
  simpa [QB] using this
 ·rcases hat with h|h
  ·exact .inl h.symm
  ·exact .inr ⟨g,rfl,by omega⟩
def Uy(zs:List Int):Prop:=∀ z ∈ zs,0≤z∧z≤3
theorem qiq(z:Int)(t:Bool)(w:World)(ht:t=decide (0≤z∧z≤3)) :
  Calls Tryz.prog 238 #[.int .i64 z] w fun e w'=>e=.returned (.bool t)∧w=w':=by
 subst ht
 by_cases h1:0≤z
 ·by_cases h2:z≤3
  ·have h3:decide (0≤z∧z≤3)=true:=decide_eq_true ⟨h1,h2⟩
   rw[h3]
   clear h3
   go_enter Tryz.func238,Tryz.ntmps238
   go_wp2
   go_ret
   exact⟨rfl,rfl⟩
  ·have h3:decide (0≤z∧z≤3)=false:=decide_eq_false (fun h=>h2 h.2)
   rw[h3]
   have h4:decide (z≤3)=false:=decide_eq_false h2
   clear h3 h2
   go_enter Tryz.func238,Tryz.ntmps238
   go_wp2
   go_ret
   exact⟨rfl,rfl⟩
 ·have h3:decide (0≤z∧z≤3)=false:=decide_eq_false (fun h=>h1 h.1)
  rw[h3]
  have h4:z<0:=by omega
  clear h3 h1
  go_enter Tryz.func238,Tryz.ntmps238
  go_wp2
  go_ret
  exact⟨rfl,rfl⟩
theorem qcd(z:Int)(t:Bool)(w:World)(ht:t=decide (0≤z∧z≤3)) :
  Calls Tryz.prog 237 #[.int .i64 z] w fun e w'=>e=.returned (.bool (!t))∧w=w':=by
 have hnot:∀ (x:Bool) (w:World),(Op.unary .not (.bool x)).run Tryz.prog w=.ok (.bool (!x)) w:=fun _ _=>rfl
 have hR:=qiq z t w ht
 clear ht
 go_enter Tryz.func237,Tryz.ntmps237
 go_wp2_with (go_at_call 238;refine hR.mono ?_;rintro e w' ⟨rfl,rfl⟩)
 go_ret
 exact⟨rfl,rfl⟩
theorem q9n(sv:Value)(zs:List Int)(w:World)(hs:Sl .i64 w sv zs)(hg:Uy zs) :
  Calls Tryz.prog 269 #[sv,.func (.func 237) #[] #[]] w fun e w'=>e=.returned (.int .i64 (-1))∧w=w':=by
 obtain⟨a,cap,rfl,hnc,hcm,_,hc⟩:=hs
 go_enter Tryz.func269,Tryz.ntmps269
 go_wp2_with fail
 go_loop [8] (fun i=>∃ k:Nat,k≤zs.length∧i=.int .i64 k) (fun i=>zs.length - (intOf i).toNat)
 case atStart=>exact⟨0,Nat.zero_le _,rfl⟩
 case round =>
  obtain⟨k,hk,rfl⟩:=hrel
  by_cases hlt:k<zs.length
  ·have hz:=List.getElem?_eq_getElem (l:=zs) (i:=k) hlt
   obtain⟨g,off,rfl,hcell⟩:=hc k _ hz
   have hgz:=hg _ (List.mem_of_getElem? hz)
   have hR:=qcd zs[k] true w (decide_eq_true hgz).symm
   clear hc hz hg hgz
   generalize zs[k]=z at *
   go_wp2_with (go_at_call 237;refine hR.mono ?_;rintro e w' ⟨rfl,rfl⟩)
   go_round
   case rel=>exact⟨k+1,by omega,by go_num⟩
   case measure=>simp[intOf];omega
  ·obtain rfl:k=zs.length:=by omega
   clear hc hg
   go_wp2
   go_ret
   exact⟨rfl,rfl⟩
theorem q6p(sv:Value)(zs:List Int)(w:World)(hs:Sl .i64 w sv zs)(hg:Uy zs) :
  Calls Tryz.prog 236 #[sv,.func (.func 237) #[] #[]] w fun e w'=>e=.returned (.bool false)∧w=w':=by
 have hI:=q9n sv zs w hs hg
 clear hs hg
 go_enter Tryz.func236,Tryz.ntmps236
 go_wp2_with (go_at_call 269;refine hI.mono ?_;rintro e w' ⟨rfl,rfl⟩)
 go_ret
 exact⟨rfl,rfl⟩
def qG(zs:List Int):List Nat:=zs.map Int.toNat
theorem qce(b:Nat)(v:Value)(ks:List Nat)(sv:Value)(zs:List Int)(w:World)(h:bW w b v ks)(hs:Sl .i64 w sv zs)(hg:Uy zs)
  (hd:∀ k,sv.ownBlock=some k→k≠b∧v.ownBlock≠some k)(hl:ks.length+zs.length<1000000000) :
  Calls Tryz.prog 196 #[.pointer (some ⟨b,0,none⟩),sv] w fun e w'=>e=.returned (.int .i64 0)∧eG w b v (ks ++ qG zs) w':=by
 have hC:=q6p sv zs w hs hg
 obtain⟨a,cap,rfl,hnc,hcm,_,hc⟩:=hs
 obtain⟨i,hi,hz0,hz1,hz2⟩:=info_parts Zt
 go_enter Tryz.func196,Tryz.ntmps196
 go_wp2_with (go_at_call 236;refine hC.mono ?_;rintro e w' ⟨rfl,rfl⟩)
 clear hC
 go_loopw [15] (fun i wr=>∃ k:Nat,k≤zs.length∧i=.int .i64 k∧eG w b v (ks ++ qG (zs.take k)) wr) (fun i _=>zs.length - (intOf i).toNat)
 case atStart=>exact⟨0,Nat.zero_le _,rfl,by simpa [qG] using h.grown⟩
 case round =>
  obtain⟨k,hk,rfl,hgr⟩:=hrel
  by_cases hlt:k<zs.length
  ·obtain⟨z,hz⟩:∃ z,zs[k]? = some z:=⟨_,List.getElem?_eq_getElem hlt⟩
   obtain⟨g,off,rfl,hcell⟩:=hc k z hz
   obtain⟨v1,hv1,hk1,hf1⟩:=hgr
   have hcell1:wr.cell? ⟨g,off+k,none⟩=some (.int .i64 z):=by
    rw[World.cell?_of_block (w:=w) (hk1.block g (World.block_lt_of_cell? _ _ hcell) (by rintro (h|h);exact (hd g rfl).1 h;exact (hd g rfl).2 h))]
    exact hcell
   have hgz:=hg z (List.mem_of_getElem? hz)
   obtain⟨n,rfl⟩:=Int.eq_ofNat_of_zero_le hgz.1
   have hn:n≤3:=by omega
   have hts:ks ++ qG (zs.take (k+1))=(ks ++ qG (zs.take k)) ++ [n]:=by
    rw[List.take_succ_eq_append_getElem hlt]
    rw[List.getElem?_eq_getElem hlt] at hz
    simp only [Option.some.injEq] at hz
    simp[qG,hz]
   have HS:=ah hts
   have hlen:(ks ++ qG (zs.take k)).length<1000000000:=by simp[qG];omega
   have hap:=hv1.apart
   have hown:=hv1.2
   have hb1:=hv1.1
   have c0:wr.cell? ⟨b,0,none⟩=some v1:=ak hb1 0
   have HV:=ah hv1
   clear hts hc hz hcell h hg hgz hv1
   generalize ks ++ qG (zs.take k)=L at *
   have HB:=ah hb1
   clear hb1
   go_wp2_with (at_builtin;refine wpList_append_lies _ rfl _ _ _ rfl 0 5 i (.int .u8 0) 1 1 Tryz.underlying30 hi hz0 hz1 hz2 rfl (by decide) v1 L.length _ rfl (hown.alloc _) ⟨wr.heap.size,0,none⟩ 1 1 [.int .u8 (n:Nat)] rfl rfl (cell_one_new _ _ _) ?c2 (by decide) ?c3 ?c4 ?c5 (wr.heap.size+1) (by simp) ?_)
   case c2=>intro u hu;simp at hu;subst hu;rfl
   case c3=>unfold maxLen;omega
   case c4=>omega
   case c5=>simp
   intro g2 cap2 w1 hown1 hgrow hat hgl
   have hP:=HV.out.push hown1 hgrow hat
   have d0:w1.cell? ⟨b,0,none⟩=some v1:=ak hP.2 0
   have f0:w1.frozen? ⟨b,0,none⟩=false:=au hP.2 0
   have hW:=eG.trans hk1 hf1 hP.1
   rw[← HS.out] at hW
   have HW:=ah hW
   clear hP hW hown1 hgrow hat c0 hown
   go_wp2
   go_roundw
   case rel=>exact⟨k+1,by omega,by go_num,HW.out⟩
   case measure=>simp[intOf];omega
  ·obtain rfl:k=zs.length:=by omega
   rw[List.take_of_length_le (Nat.le_refl _)] at hgr
   have HG:=ah hgr
   clear hgr hg hc
   go_wp2
   go_ret
   exact⟨rfl,HG.out⟩
end
section
def dY(ks:List Nat):List Bool:=ks.map fun k=>k % 2 == 0
def nU(s:Nat)(ks:List Nat):List Bool:=ks.map fun k=>k / 2 == s
def ownB(s:Nat)(ks:List Nat):List Bool:=(ks.filter fun k=>k / 2 == s).map fun k=>k % 2 == 0
def pr(s:Nat)(ks:List Nat)(n:Nat):Nat:=((ks.take n).filter fun k=>k / 2 == s).length
def aW(ks:List Nat)(kind:Nat):Nat:=(ks.filter fun k=>k == kind).length
theorem fK{α:Type}{l:List α}{i:Nat}{x:α}(h:l[i]? = some x):i<l.length:=by
 rcases Nat.lt_or_ge i l.length with h' | h'
 ·exact h'
 ·rw[List.getElem?_eq_none h'] at h;cases h
theorem lX{α:Type}{l:List α}{i:Nat}{x:α}(h:l[i]? = some x):l.take (i+1)=l.take i ++ [x]:=by
 have hi:=fK h
 rw[List.getElem?_eq_getElem hi] at h
 simp only [Option.some.injEq] at h
 rw[List.take_succ_eq_append_getElem hi,h]
theorem qni(ks:List Nat)(p:Nat→Bool):cnt (ks.map p)=(ks.filter p).length:=by
 induction ks with
 | nil=>rfl
 | cons k ks ih=>simp only [List.map_cons,cnt,ih,List.filter_cons];cases p k <;> simp <;> omega
theorem QC(s:Nat)(ks:List Nat)(n:Nat):rk (nU s ks) 1 n=pr s ks n:=by
 unfold rk yh nU pr
 rw[if_pos rfl,← List.map_take,qni]
theorem Gt(s:Nat)(ks:List Nat):(nU s ks).length=ks.length:=by simp[nU]
theorem q32(ks:List Nat):(dY ks).length=ks.length:=by simp[dY]
theorem y7(s:Nat)(ks:List Nat):(ownB s ks).length=pr s ks ks.length:=by simp[ownB,pr]
theorem Gu(s:Nat)(ks:List Nat):(ownB s ks).length≤ks.length:=by
 unfold ownB;rw[List.length_map];exact List.length_filter_le _ _
theorem Uz(s:Nat){ks:List Nat}{i k:Nat}(h:ks[i]? = some k):(nU s ks).getD i false=(k / 2 == s):=by
 simp[nU,List.getD_eq_getElem?_getD,h]
theorem qir{ks:List Nat}{i k:Nat}(h:ks[i]? = some k):(dY ks).getD i false=(k % 2 == 0):=by
 simp[dY,List.getD_eq_getElem?_getD,h]
theorem UA(s:Nat)(ks:List Nat):pr s ks 0=0:=by simp[pr]
theorem Gv(s:Nat){ks:List Nat}{i k:Nat}(h:ks[i]? = some k):pr s ks (i+1)=pr s ks i+if k / 2=s then 1 else 0:=by
 unfold pr
 rw[lX h,List.filter_append,List.length_append]
 by_cases hs:k / 2=s <;> simp[hs]
theorem Gw(s:Nat)(ks:List Nat){a c:Nat}(h:a≤c):pr s ks a≤pr s ks c:=by
 unfold pr
 have:ks.take c=ks.take a ++ (ks.take c).drop a:=by
  conv=>lhs;rw[← List.take_append_drop a (ks.take c)]
  rw[List.take_take,Nat.min_eq_left h]
 rw[this,List.filter_append,List.length_append]
 omega
theorem sF(s:Nat)(ks:List Nat)(n:Nat)(h:n≤ks.length):pr s ks n≤(ownB s ks).length:=by
 rw[y7];exact Gw s ks h
theorem y8(s:Nat)(a c:List Nat):ownB s (a ++ c)=ownB s a ++ ownB s c:=by simp[ownB]
theorem qh2(s:Nat)(a c:List Nat):nU s (a ++ c)=nU s a ++ nU s c:=by simp[nU]
theorem qcf(a c:List Nat):dY (a ++ c)=dY a ++ dY c:=by simp[dY]
theorem Zv{s:Nat}{ks:List Nat}{i k:Nat}(h:ks[i]? = some k)(hs:k / 2=s):(ownB s ks)[pr s ks i]? = some (k % 2 == 0):=by
 have hi:=fK h
 have hd:ks=ks.take i ++ (k :: ks.drop (i+1)):=by
  conv=>lhs;rw[← List.take_append_drop (i+1) ks,lX h,List.append_assoc]
  rfl
 have hl:(ownB s (ks.take i)).length=pr s ks i:=by simp[ownB,pr]
 conv=>lhs;arg 1;rw[hd,y8]
 rw[List.getElem?_append_right (by omega),hl,Nat.sub_self]
 simp[ownB,hs]
def bO(s:Nat)(ks:List Nat)(j n:Nat):Prop:=∃ k,ks[n]? = some k∧k / 2=s∧pr s ks n=j
theorem bO.lt{s:Nat}{ks:List Nat}{j n:Nat}(h:bO s ks j n):n<ks.length:=by
 obtain⟨k,hk,_⟩:=h;exact fK hk
theorem bO.own{s:Nat}{ks:List Nat}{j n k:Nat}(h:bO s ks j n)(hk:ks[n]? = some k):k / 2=s∧(ownB s ks)[j]? = some (k % 2 == 0):=by
 obtain⟨k',h1,h2,h3⟩:=h
 rw[hk] at h1
 simp only [Option.some.injEq] at h1
 subst h1
 exact⟨h2,by rw[← h3];exact Zv hk h2⟩
theorem bO.Lx{s:Nat}{ks:List Nat}{j n:Nat}(h:bO s ks j n):j<(ownB s ks).length:=by
 obtain⟨k,hk,_⟩:=id h;exact fK (h.own hk).2
theorem bO.y9{s:Nat}{ks:List Nat}{j n:Nat}:bO s ks j n↔r9 (nU s ks) 1 j n:=by
 constructor
 ·rintro⟨k,h1,h2,h3⟩
  refine⟨by rw[Gt];exact fK h1,by rw[Uz s h1,h2];simp,by rw[QC,h3]⟩
 ·rintro⟨h1,h2,h3⟩
  rw[Gt] at h1
  have hk:=List.getElem?_eq_getElem h1
  rw[Uz s hk] at h2
  refine⟨_,hk,?_,by rw[QC] at h3;omega⟩
  by_cases he:ks[n] / 2=s
  ·exact he
  ·rw[show (ks[n] / 2 == s)=false by simp[he]] at h2;cases h2
theorem bO.unique{s:Nat}{ks:List Nat}{j n m:Nat}(h:bO s ks j n)(k:bO s ks j m):n=m :=
 (bO.y9.1 h).unique (.inr rfl) (bO.y9.1 k)
theorem bO.at{s:Nat}{ks:List Nat}{i k:Nat}(h:ks[i]? = some k)(hs:k / 2=s):bO s ks (pr s ks i) i:=⟨k,h,hs,rfl⟩
theorem bO.cmp{s:Nat}{ks:List Nat}{j n:Nat}(h:bO s ks j n)(i:Nat):j<pr s ks i↔n<i:=by
 obtain⟨k,h1,h2,h3⟩:=h
 have h4:=Gv s h1
 rw[if_pos h2] at h4
 constructor
 ·intro hj
  rcases Nat.lt_or_ge n i with h|h
  ·exact h
  ·have:=Gw s ks h;omega
 ·intro hn
  have:=Gw s ks (show n+1≤i from hn)
  omega
def bK(ks:List Nat)(i m:Nat):Prop:=∃ s a c,s<2∧bO s ks a i∧bO s ks c m∧dV (ownB s ks) a c
theorem bK.symm{ks:List Nat}{i m:Nat}(h:bK ks i m):bK ks m i:=by
 obtain⟨s,a,c,hs,h1,h2,h3⟩:=h
 exact⟨s,c,a,hs,h2,h1,h3.symm⟩
theorem bK.lt{ks:List Nat}{i m:Nat}(h:bK ks i m):m<ks.length:=by
 obtain⟨s,a,c,_,h1,h2,h3⟩:=h
 exact h2.lt
theorem bK.unique{ks:List Nat}{i m n:Nat}(h:bK ks i m)(k:bK ks i n):m=n:=by
 obtain⟨s,a,c,_,h1,h2,h3⟩:=h
 obtain⟨s',a',c',_,k1,k2,k3⟩:=k
 obtain⟨x,hx,hx2,hx3⟩:=h1
 obtain⟨y,hy,hy2,hy3⟩:=k1
 rw[hx] at hy
 simp only [Option.some.injEq] at hy
 subst hy
 rw[hx2] at hy2
 subst hy2
 rw[hx3] at hy3
 subst hy3
 rw[h3.unique k3] at h2
 exact h2.unique k2
def fC(ks:List Nat)(i:Nat)(r:Int):Prop :=
 (ex (ownB 0 ks) (pr 0 ks i)=0∧r=-1)∨(0<ex (ownB 0 ks) (pr 0 ks i)∧∃ o n:Nat,cK (ownB 0 ks) (pr 0 ks i) (ex (ownB 0 ks) (pr 0 ks i) - 1) o∧bO 0 ks o n∧r=n)
theorem fC.unique{ks:List Nat}{i:Nat}{r q:Int}(h:fC ks i r)(k:fC ks i q):r=q:=by
 rcases h with⟨h0,h⟩|⟨h0,o,n,h1,h2,rfl⟩ <;> rcases k with⟨k0,k⟩|⟨k0,p,m,k1,k2,rfl⟩
 ·omega
 ·omega
 ·omega
 ·rw[h1.unique k1] at h2
  rw[h2.unique k2]
theorem UC{s:Nat}{ks:List Nat}{j:Nat}(hj:j<(ownB s ks).length):∃ n,bO s ks j n:=by
 rw[y7] at hj
 obtain⟨n,h1,h2,h3,h4⟩:=KZ (fun n=>j<pr s ks n) 0 ks.length (by simpa using hj)
 obtain⟨m,rfl⟩:∃ m,n=m+1:=⟨n - 1,by
  rcases Nat.eq_zero_or_pos n with h|h
  ·rw[h,UA] at h3;omega
  ·omega⟩
 have hm:m<ks.length:=by omega
 have hk:=List.getElem?_eq_getElem hm
 have h5:=Gv s hk
 have h6:=h4 m (by omega) (by omega)
 by_cases hs:ks[m] / 2=s
 ·rw[if_pos hs] at h5
  exact⟨m,_,hk,hs,by omega⟩
 ·rw[if_neg hs] at h5
  omega
def iQ(ks:List Nat):Prop:=Bal (ownB 0 ks)∧Bal (ownB 1 ks)
theorem iQ.get{ks:List Nat}(h:iQ ks){s:Nat}(hs:s<2):Bal (ownB s ks):=by
 match s,hs with
 | 0,_=>exact h.1
 | 1,_=>exact h.2
theorem iQ.mate{ks:List Nat}(h:iQ ks)(h4:∀ k ∈ ks,k<4){i:Nat}(hi:i<ks.length):∃ m,bK ks i m:=by
 have hk:=List.getElem?_eq_getElem hi
 have hs:ks[i] / 2<2:=by have:=h4 _ (List.mem_of_getElem? hk);omega
 have h1:=bO.at hk rfl
 obtain⟨c,hc⟩:=(h.get hs).mate h1.Lx
 obtain⟨m,hm⟩:=UC hc.lt
 exact⟨m,_,_,c,hs,h1,hm,hc⟩
theorem iQ.owner{ks:List Nat}(h:iQ ks){i:Nat}(hi:i≤ks.length):∃ r,fC ks i r:=by
 have h0:=h.1.2 (pr 0 ks i) (sF 0 ks i hi)
 by_cases hx:ex (ownB 0 ks) (pr 0 ks i)=0
 ·exact⟨-1,.inl ⟨hx,rfl⟩⟩
 ·obtain⟨o,ho⟩:=qc4 (ownB 0 ks) (pr 0 ks i) (sF 0 ks i hi) (by omega) _ rfl
  obtain⟨n,hn⟩:=UC (s:=0) (ks:=ks) (j:=o) (by have:=ho.lt;have:=ho.le;omega)
  exact⟨n,.inr ⟨by omega,o,n,ho,hn,rfl⟩⟩
theorem yj{ks:List Nat}{i k:Nat}(h:ks[i]? = some k)(kind:Nat):aW (ks.take (i+1)) kind=aW (ks.take i) kind+if k=kind then 1 else 0:=by
 unfold aW
 rw[lX h,List.filter_append,List.length_append]
 by_cases hk:k=kind <;> simp[hk]
theorem Zw{ks:List Nat}(s:Nat)(n:Nat)(hn:n≤ks.length) :
  pr s ks n=aW (ks.take n) (2 * s)+aW (ks.take n) (2 * s+1)∧ex (ownB s ks) (pr s ks n)=aW (ks.take n) (2 * s) - (aW (ks.take n) (2 * s+1):Int):=by
 induction n with
 | zero=>simp[UA,aW,FT]
 | succ n ih =>
  obtain⟨h1,h2⟩:=ih (by omega)
  have hk:=List.getElem?_eq_getElem (l:=ks) (i:=n) (by omega)
  have hp:=Gv s hk
  have c0:=yj hk (2 * s)
  have c1:=yj hk (2 * s+1)
  generalize ks[n]=k at *
  by_cases hks:k / 2=s
  ·rw[if_pos hks] at hp
   have ho:=Zv hk hks
   have hb:=yV (ownB s ks) (fK ho)
   rw[List.getD_eq_getElem?_getD,ho,Option.getD_some,← hp] at hb
   by_cases ho2:k % 2=0
   ·rw[if_pos (by simp[ho2])] at hb
    rw[if_pos (by omega)] at c0
    rw[if_neg (by omega)] at c1
    rw[hb,c0,c1,hp]
    omega
   ·rw[if_neg (by simp[ho2])] at hb
    rw[if_neg (by omega)] at c0
    rw[if_pos (by omega)] at c1
    rw[hb,c0,c1,hp]
    omega
  ·rw[if_neg hks] at hp
   rw[if_neg (by omega)] at c0
   rw[if_neg (by omega)] at c1
   rw[hp,c0,c1]
   exact⟨by omega,by rw[Nat.add_zero,h2];omega⟩
theorem QD(ks:List Nat)(kind:Nat):aW ks kind≤ks.length:=List.length_filter_le _ _
end
section
open Go.RowKit
theorem qH{P:Program}{f:FuncId}{args:Array Value}{w:World}{n:Nat}{v:Value}
  (h:Calls P f args (w.drewN n) fun e w'=>e=.returned v∧w.drewN n=w'):Calls P f args (w.drewN n) fun e w''=>e=.returned v∧∃ m,w''=w.drewN m :=
 h.mono fun _ _ ⟨he,hm⟩=>⟨he,n,hm.symm⟩
def qlm(bo:Nat)(bi bp:Nat→Nat):Array Value :=
 #[.pointer (some ⟨bo,0,none⟩),.pointer (some ⟨bi 0,0,none⟩),.pointer (some ⟨bp 0,0,none⟩),.pointer (some ⟨bi 1,0,none⟩),.pointer (some ⟨bp 1,0,none⟩)]
structure eZ (w:World)(b bo:Nat)(bi bp:Nat→Nat)(ks:List Nat)(q:Nat)(F:Nat→Prop):Prop where
 blk:w.heap[b]? = some (.cells (qlm bo bi bp) 344 (0,0))
 parts:∃ lab:Nat→Nat,lab b=1∧F b∧(∃ d a Fo,bL w bo (dY ks) d a Fo∧∀ x,Fo x→F x∧lab x=2) ∧
  (∀ s,s<2→∃ d a Fi,bL w (bi s) (nU s ks) d a Fi∧a≤q∧∀ x,Fi x→F x∧lab x=3+s) ∧
  (∀ s,s<2→∃ d Fp,eU w (bp s) (ownB s ks) d q Fp∧∀ x,Fp x→F x∧lab x=5+s)
 bal:iQ ks
 k4:∀ k ∈ ks,k<4
 le:ks.length≤100000000
 old:∀ x,F x→x<w.heap.size
def bM(wh:World)(b bo:Nat)(bi bp:Nat→Nat)(ks:List Nat)(q:Nat)(F:Nat→Prop)(w':World):Prop :=
 eZ w' b bo bi bp ks q (grow F wh w')∧Keeps F wh w'
section
variable {w:World} {b bo:Nat} {bi bp:Nat→Nat} {ks:List Nat} {q:Nat} {F:Nat→Prop}
theorem eZ.mono(h:eZ w b bo bi bp ks q F){G:Nat→Prop}(hG:∀ x,F x→G x)(hold:∀ x,G x→x<w.heap.size):eZ w b bo bi bp ks q G:=by
 obtain⟨h1,⟨lab,h2,h3,⟨d,a,Fo,h4,h5⟩,h6,h7⟩,h8,h9,h10,_⟩:=h
 refine⟨h1,⟨lab,h2,hG b h3,⟨d,a,Fo,h4,fun x hx=>⟨hG x (h5 x hx).1,(h5 x hx).2⟩⟩,fun s hs=>?_,fun s hs=>?_⟩,h8,h9,h10,hold⟩
 ·obtain⟨d,a,Fi,k1,k2,k3⟩:=h6 s hs
  exact⟨d,a,Fi,k1,k2,fun x hx=>⟨hG x (k3 x hx).1,(k3 x hx).2⟩⟩
 ·obtain⟨d,Fp,k1,k3⟩:=h7 s hs
  exact⟨d,Fp,k1,fun x hx=>⟨hG x (k3 x hx).1,(k3 x hx).2⟩⟩
theorem eZ.keeps(h:eZ w b bo bi bp ks q F){w':World}{G:Nat→Prop}(k:Keeps G w w')(hd:∀ x,F x→¬ G x):eZ w' b bo bi bp ks q F:=by
 obtain⟨h1,⟨lab,h2,h3,⟨d,a,Fo,h4,h5⟩,h6,h7⟩,h8,h9,h10,h11⟩:=h
 refine⟨k.at h1 (hd b h3),⟨lab,h2,h3,⟨d,a,Fo,h4.keeps k (fun x hx=>hd x (h5 x hx).1),h5⟩,fun s hs=>?_,fun s hs=>?_⟩,h8,h9,h10,fun x hx=>Nat.lt_of_lt_of_le (h11 x hx) k.size⟩
 ·obtain⟨d,a,Fi,k1,k2,k3⟩:=h6 s hs
  exact⟨d,a,Fi,k1.keeps k (fun x hx=>hd x (k3 x hx).1),k2,k3⟩
 ·obtain⟨d,Fp,k1,k3⟩:=h7 s hs
  exact⟨d,Fp,k1.keeps k (fun x hx=>hd x (k3 x hx).1),k3⟩
theorem eZ.more(h:eZ w b bo bi bp ks q F){q':Nat}(hq:q≤q'):eZ w b bo bi bp ks q' F:=by
 obtain⟨h1,⟨lab,h2,h3,h4,h6,h7⟩,h8,h9,h10,h11⟩:=h
 refine⟨h1,⟨lab,h2,h3,h4,fun s hs=>?_,fun s hs=>?_⟩,h8,h9,h10,h11⟩
 ·obtain⟨d,a,Fi,k1,k2,k3⟩:=h6 s hs
  exact⟨d,a,Fi,k1,by omega,k3⟩
 ·obtain⟨d,Fp,k1,k3⟩:=h7 s hs
  exact⟨d,Fp,k1.more hq,k3⟩
theorem eZ.after(h:eZ w b bo bi bp ks q F):bM w b bo bi bp ks q F w :=
 ⟨h.mono (fun _ hx=>.inl hx) (q0z h.old (Nat.le_refl _)),Keeps.refl _ _⟩
theorem bM.more{wh:World}(h:bM wh b bo bi bp ks q F w){q':Nat}(hq:q≤q'):bM wh b bo bi bp ks q' F w:=⟨h.1.more hq,h.2⟩
theorem bM.trans{wh w1 w2:World}{q':Nat}(hF:∀ x,F x→x<wh.heap.size)(h:bM wh b bo bi bp ks q F w1)(k:bM w1 b bo bi bp ks q' (grow F wh w1) w2):bM wh b bo bi bp ks q' F w2:=by
 obtain⟨h1,h2⟩:=h
 obtain⟨k1,k2⟩:=k
 refine⟨k1.mono (TQ h2.size k2.size) (q0z hF (Nat.le_trans h2.size k2.size)),h2.trans k2 ?_⟩
 rintro x hx (h|h)
 ·exact h
 ·omega
theorem bM.keeps{wh w1 w2:World}{G:Nat→Prop}(h:bM wh b bo bi bp ks q F w1)(k:Keeps G w1 w2)(hG:∀ x,x<w1.heap.size→¬ G x):bM wh b bo bi bp ks q F w2:=by
 obtain⟨h1,h2⟩:=h
 refine⟨(h1.keeps k (fun x hx=>hG x (h1.old x hx))).mono ?_ ?_,h2.trans k (fun x hx hg=>absurd hg (hG x (Nat.lt_of_lt_of_le hx h2.size)))⟩
 ·rintro x (h|h)
  ·exact .inl h
  ·exact .inr ⟨h.1,Nat.lt_of_lt_of_le h.2 k.size⟩
 ·rintro x (h|h)
  ·exact Nat.lt_of_lt_of_le (h1.old x (.inl h)) k.size
  ·exact h.2
theorem eZ.idx(h:eZ w b bo bi bp ks q F)(s:Nat)(hs:s<2):∃ d a Fi,bL w (bi s) (nU s ks) d a Fi∧a≤q ∧
  ∀ w' q' d' a',q≤q'→a'≤q'→gX w (bi s) (nU s ks) d' a' Fi w'→bM w b bo bi bp ks q' F w':=by
 obtain⟨h1,⟨lab,h2,h3,⟨d0,a0,Fo,h4,h5⟩,h6,h7⟩,h8,h9,h10,h11⟩:=h
 obtain⟨d,a,Fi,k1,k2,k3⟩:=h6 s hs
 refine⟨d,a,Fi,k1,k2,fun w' q' d' a' hq ha hA=>?_⟩
 obtain⟨hI,hk⟩:=hA
 have hl:∀ x,x<w.heap.size→(if x<w.heap.size then lab x else 3+s)=lab x:=fun x hx=>if_pos hx
 have hb:=lt_of_block h1
 refine⟨⟨hk.at h1 (fun e=>by have:=(k3 b e).2;omega),⟨fun x=>if x<w.heap.size then lab x else 3+s,(hl b hb).trans h2,.inl h3,⟨d0,a0,Fo,h4.keeps hk (fun x hx e=>by have:=(k3 x e).2;have:=(h5 x hx).2;omega),fun x hx=>⟨.inl (h5 x hx).1,(hl x (h4.old x hx)).trans (h5 x hx).2⟩⟩,fun s' hs'=>?_,fun s' hs'=>?_⟩,h8,h9,h10,q0z h11 hk.size⟩,hk.mono (fun x _ hx=>(k3 x hx).1)⟩
 ·by_cases hss:s'=s
  ·subst hss
   refine⟨d',a',grow Fi w w',hI,ha,?_⟩
   rintro x (hx|hx)
   ·exact⟨.inl (k3 x hx).1,(hl x (k1.old x hx)).trans (k3 x hx).2⟩
   ·exact⟨.inr hx,if_neg (by omega)⟩
  ·obtain⟨d1,a1,F1,m1,m2,m3⟩:=h6 s' hs'
   exact⟨d1,a1,F1,m1.keeps hk (fun x hx e=>by have:=(k3 x e).2;have:=(m3 x hx).2;omega),by omega,fun x hx=>⟨.inl (m3 x hx).1,(hl x (m1.old x hx)).trans (m3 x hx).2⟩⟩
 ·obtain⟨d1,F1,m1,m3⟩:=h7 s' hs'
  exact⟨d1,F1,(m1.keeps hk (fun x hx e=>by have:=(k3 x e).2;have:=(m3 x hx).2;omega)).more hq,fun x hx=>⟨.inl (m3 x hx).1,(hl x (m1.old x hx)).trans (m3 x hx).2⟩⟩
theorem eZ.par(h:eZ w b bo bi bp ks q F)(s:Nat)(hs:s<2):∃ d Fp,eU w (bp s) (ownB s ks) d q Fp ∧
  ∀ w' q' d',q≤q'→aI w (bp s) (ownB s ks) d' q' Fp w'→bM w b bo bi bp ks q' F w':=by
 obtain⟨h1,⟨lab,h2,h3,⟨d0,a0,Fo,h4,h5⟩,h6,h7⟩,h8,h9,h10,h11⟩:=h
 obtain⟨d,Fp,k1,k3⟩:=h7 s hs
 refine⟨d,Fp,k1,fun w' q' d' hq hA=>?_⟩
 obtain⟨hI,hk⟩:=hA
 have hl:∀ x,x<w.heap.size→(if x<w.heap.size then lab x else 5+s)=lab x:=fun x hx=>if_pos hx
 have hb:=lt_of_block h1
 refine⟨⟨hk.at h1 (fun e=>by have:=(k3 b e).2;omega),⟨fun x=>if x<w.heap.size then lab x else 5+s,(hl b hb).trans h2,.inl h3,⟨d0,a0,Fo,h4.keeps hk (fun x hx e=>by have:=(k3 x e).2;have:=(h5 x hx).2;omega),fun x hx=>⟨.inl (h5 x hx).1,(hl x (h4.old x hx)).trans (h5 x hx).2⟩⟩,fun s' hs'=>?_,fun s' hs'=>?_⟩,h8,h9,h10,q0z h11 hk.size⟩,hk.mono (fun x _ hx=>(k3 x hx).1)⟩
 ·obtain⟨d1,a1,F1,m1,m2,m3⟩:=h6 s' hs'
  exact⟨d1,a1,F1,m1.keeps hk (fun x hx e=>by have:=(k3 x e).2;have:=(m3 x hx).2;omega),by omega,fun x hx=>⟨.inl (m3 x hx).1,(hl x (m1.old x hx)).trans (m3 x hx).2⟩⟩
 ·by_cases hss:s'=s
  ·subst hss
   refine⟨d',grow Fp w w',hI,?_⟩
   rintro x (hx|hx)
   ·exact⟨.inl (k3 x hx).1,(hl x (k1.old x hx)).trans (k3 x hx).2⟩
   ·exact⟨.inr hx,if_neg (by omega)⟩
  ·obtain⟨d1,F1,m1,m3⟩:=h7 s' hs'
   exact⟨d1,F1,(m1.keeps hk (fun x hx e=>by have:=(k3 x e).2;have:=(m3 x hx).2;omega)).more hq,fun x hx=>⟨.inl (m3 x hx).1,(hl x (m1.old x hx)).trans (m3 x hx).2⟩⟩
theorem eZ.opn(h:eZ w b bo bi bp ks q F):∃ d a Fo,bL w bo (dY ks) d a Fo:=by
 obtain⟨h1,⟨lab,h2,h3,⟨d0,a0,Fo,h4,h5⟩,h6,h7⟩,h8,h9,h10,h11⟩:=h
 exact⟨d0,a0,Fo,h4⟩
theorem eZ.cells(h:eZ w b bo bi bp ks q F)(s:Nat)(hs:s<2):w.cell? ⟨b,1+s * 2,none⟩=some (.pointer (some ⟨bi s,0,none⟩))∧w.cell? ⟨b,1+s * 2+1,none⟩=some (.pointer (some ⟨bp s,0,none⟩)):=by
 rw[ak h.blk,ak h.blk]
 match s,hs with
 | 0,_=>exact⟨rfl,rfl⟩
 | 1,_=>exact⟨rfl,rfl⟩
theorem Jz(h:eZ w b bo bi bp ks q F) :
  Calls Tryz.prog 221 #[.pointer (some ⟨b,0,none⟩)] w fun e w'=>e=.returned (.int .i64 ks.length)∧w=w':=by
 obtain⟨d,a,Fo,hI⟩:=h.opn
 have c0:w.cell? ⟨b,0,none⟩=some (.pointer (some ⟨bo,0,none⟩)):=ak h.blk 0
 have hL:=KQ bo _ d a Fo w hI
 rw[q32] at hL
 clear h hI
 go_enter Tryz.func221,Tryz.ntmps221
 go_wp2_with (go_at_call 260;refine hL.mono ?_;rintro e w' ⟨rfl,rfl⟩)
 go_ret
 exact⟨rfl,rfl⟩
theorem JA(h:eZ w b bo bi bp ks q F)(i k:Nat)(hk:ks[i]? = some k) :
  Calls Tryz.prog 257 #[.pointer (some ⟨b,0,none⟩),.int .i64 i] w fun e w'=>e=.returned (.int .i64 k)∧∃ n,w'=w.drewN n:=by
 have hi:=fK hk
 have hk4:=h.k4 k (List.mem_of_getElem? hk)
 have hle:=h.le
 have hL:=Jz h
 obtain⟨d,a,Fo,hI⟩:=h.opn
 obtain⟨d1,a1,F1,hI1,_,_⟩:=h.idx 1 (by omega)
 have c0:w.cell? ⟨b,0,none⟩=some (.pointer (some ⟨bo,0,none⟩)):=ak h.blk 0
 have c3:w.cell? ⟨b,3,none⟩=some (.pointer (some ⟨bi 1,0,none⟩)):=ak h.blk 3
 have hA:=fun n=>Qr bo _ d a Fo i (w.drewN n) (hI.keeps ((Keeps.refl (fun _=>False) w).drewN n) (fun _ _ h=>h))
 have hB:=fun n=>Qr (bi 1) _ d1 a1 F1 i (w.drewN n) (hI1.keeps ((Keeps.refl (fun _=>False) w).drewN n) (fun _ _ h=>h))
 rw[Lj _ i (by rw[q32];exact hi),qir hk] at hA
 rw[Lj _ i (by rw[Gt];exact hi),Uz 1 hk] at hB
 obtain⟨y,hy⟩:∃ y:Nat,y=(k % 2 == 0).toNat:=⟨_,rfl⟩
 obtain⟨z,hz⟩:∃ z:Nat,z=(k / 2 == 1).toNat:=⟨_,rfl⟩
 rw[← hy] at hA
 rw[← hz] at hB
 have hyz:(2 * (z:Int)+1 - (y:Int))=(k:Int)∧y≤1∧z≤1:=by
  match k,hk4 with
  | 0,_=>simp at hy hz;omega
  | 1,_=>simp at hy hz;omega
  | 2,_=>simp at hy hz;omega
  | 3,_=>simp at hy hz;omega
 obtain⟨hyk,hy1,hz1⟩:=hyz
 clear hy hz hI hI1 h hk
 have e1:IntKind.i64.wrap (2 * (z:Int))=2 * (z:Int):=IntWalk.i64_in _ (by omega)
 have e2:IntKind.i64.wrap (2 * (z:Int)+1)=2 * (z:Int)+1:=IntWalk.i64_in _ (by omega)
 have e3:IntKind.i64.wrap (2 * (z:Int)+1 - (y:Int))=2 * (z:Int)+1 - (y:Int):=IntWalk.i64_in _ (by omega)
 go_enter Tryz.func257,Tryz.ntmps257
 go_wp2_with (go_at_call 221;refine hL.mono ?_;rintro e w' ⟨rfl,rfl⟩)
 go_quiet ((go_at_call 282;first | (with_reducible exact qH (hA _)) | (with_reducible exact qH (hB _))))
 go_wp2
 go_ret
 exact⟨rfl,_,rfl⟩
theorem Zx(h:eZ w b bo bi bp ks q F)(i:Nat)(hi:i<ks.length) :
  Calls Tryz.prog 283 #[.pointer (some ⟨b,0,none⟩),.int .i64 i] w fun e w'=>e=.returned (.int .i64 0)∧w=w':=by
 have hL:=Jz h
 clear h
 go_enter Tryz.func283,Tryz.ntmps283
 go_wp2_with (go_at_call 221;refine hL.mono ?_;rintro e w' ⟨rfl,rfl⟩)
 go_ret
 exact⟨rfl,rfl⟩
end
end
section
open Go.RowKit
theorem uo{w:World}{a:Addr}{v:Value}(h:w.cell? a=some v)(o:Obj):(w.alloc o).cell? a=some v:=((Keeps.refl (fun _=>False) w).alloc o).fV h
theorem Zy{w W:World}{a:Addr}{v:Value}{n:Nat}(hW:W=w.drewN n)(h:w.cell? a=some v):W.cell? a=some v:=by rw[hW];exact h
theorem Zz{w:World}{g b o:Nat}{v:Value}(h:w.cell? ⟨b,o,none⟩=some v)(h1:b≠g)(x y:Value):((w.setCell ⟨g,0,none⟩ x).setCell ⟨g,1,none⟩ y).cell? ⟨b,o,none⟩=some v:=by
 rw[World.cell?_setCell_other _ _ _ _ (fun e=>h1 (congrArg Addr.block e).symm),World.cell?_setCell_other _ _ _ _ (fun e=>h1 (congrArg Addr.block e).symm)]
 exact h
theorem bM.join{wh wr W2 w7:World}{b bo:Nat}{bi bp:Nat→Nat}{ks:List Nat}{q q':Nat}{F:Nat→Prop}(hF:∀ x,F x→x<wh.heap.size)(h:bM wh b bo bi bp ks q F wr)(k:Keeps (fun _=>False) wr W2)(m:bM W2 b bo bi bp ks q' (grow F wh wr) w7):bM wh b bo bi bp ks q' F w7:=by
 have hs:=Nat.le_trans h.2.size (Nat.le_trans k.size m.2.size)
 refine⟨m.1.mono (fun x hx=>?_) (q0z hF hs),(h.2.trans k (fun _ _ h=>h.elim)).trans m.2 (fun x hx hg=>?_)⟩
 ·rcases hx with (hx|hx)|hx
  ·exact .inl hx
  ·exact .inr ⟨hx.1,by have:=k.size;have:=m.2.size;omega⟩
  ·exact .inr ⟨by have:=h.2.size;have:=k.size;omega,hx.2⟩
 ·rcases hg with hg|hg
  ·exact hg
  ·omega
section
variable {wh wr:World} {b bo:Nat} {bi bp:Nat→Nat} {ks:List Nat} {q:Nat} {F:Nat→Prop} (hF:∀ x,F x→x<wh.heap.size) (h:bM wh b bo bi bp ks q F wr)
include hF h
theorem D8(s n:Nat)(hs:s<2)(hq:q≤1000000000)(hn:n≤ks.length) :
  Calls Tryz.prog 284 #[.pointer (some ⟨bi s,0,none⟩),.int .i64 1,.int .i64 n] wr fun e w'=>e=.returned (.tuple #[.int .i64 (pr s ks n:Nat),.int .i64 0])∧bM wh b bo bi bp ks (q+1) F w':=by
 obtain⟨d,a,Fi,hI,ha,hc⟩:=h.1.idx s hs
 refine (YS (bi s) _ d a Fi 1 n wr hI (by omega) (.inr rfl) (by rw[Gt];exact hn)).mono ?_
 rintro e w' ⟨rfl,hA⟩
 rw[QC]
 exact⟨rfl,h.trans hF (hc w' (q+1) true (a+1) (by omega) (by omega) hA)⟩
theorem ZA(s j n:Nat)(hs:s<2)(hq:q≤1000000000)(hn:bO s ks j n) :
  Calls Tryz.prog 286 #[.pointer (some ⟨bi s,0,none⟩),.int .i64 1,.int .i64 j] wr fun e w'=>e=.returned (.tuple #[.int .i64 n,.int .i64 0])∧bM wh b bo bi bp ks (q+1) F w':=by
 obtain⟨d,a,Fi,hI,ha,hc⟩:=h.1.idx s hs
 have hj:=hn.Lx
 rw[y7] at hj
 refine (qib (bi s) _ d a Fi 1 j wr hI (by omega) (.inr rfl) (by omega) (by rw[Gt,QC];omega)).mono ?_
 rintro e w' ⟨m,rfl,hm,hA⟩
 have:=hn.unique (bO.y9.2 hm)
 subst this
 exact⟨rfl,h.trans hF (hc w' (q+1) true (a+1) (by omega) (by omega) hA)⟩
theorem UD(s n:Nat)(hs:s<2)(hq:q≤1000000000)(hn:n≤(ownB s ks).length) :
  Calls Tryz.prog 287 #[.pointer (some ⟨bp s,0,none⟩),.int .i64 n] wr fun e w'=>e=.returned (.tuple #[.int .i64 (ex (ownB s ks) n),.int .i64 0])∧bM wh b bo bi bp ks (q+1) F w':=by
 obtain⟨d,Fp,hI,hc⟩:=h.1.par s hs
 refine (qih hI.old hI.after n (by omega) hn).mono ?_
 rintro e w' ⟨rfl,hA⟩
 exact⟨rfl,h.trans hF (hc w' (q+1) d (by omega) hA)⟩
theorem D9(s n m:Nat)(hs:s<2)(hq:q≤1000000000)(hm:dV (ownB s ks) n m) :
  Calls Tryz.prog 285 #[.pointer (some ⟨bp s,0,none⟩),.int .i64 n] wr fun e w'=>e=.returned (.tuple #[.int .i64 m,.int .i64 0])∧bM wh b bo bi bp ks (q+2) F w':=by
 obtain⟨d,Fp,hI,hc⟩:=h.1.par s hs
 refine (qng hI.old hI.after n m (by omega) hm.symm.lt hm).mono ?_
 rintro e w' ⟨rfl,hA⟩
 exact⟨rfl,h.trans hF (hc w' (q+2) true (by omega) hA)⟩
theorem ZB(s n:Nat)(r:Int)(hs:s<2)(hq:q≤1000000000)(hn:n<(ownB s ks).length)(hm:La (ownB s ks) n r) :
  Calls Tryz.prog 288 #[.pointer (some ⟨bp s,0,none⟩),.int .i64 n] wr fun e w'=>e=.returned (.tuple #[.int .i64 r,.int .i64 0])∧bM wh b bo bi bp ks (q+4) F w':=by
 obtain⟨d,Fp,hI,hc⟩:=h.1.par s hs
 refine (qlk hI.old hI.after n r (by omega) hn hm).mono ?_
 rintro e w' ⟨rfl,hA⟩
 exact⟨rfl,h.trans hF (hc w' (q+4) true (by omega) hA)⟩
omit hF in
theorem Ea(s n:Nat)(hs:s<2)(hn:n<(ownB s ks).length) :
  Calls Tryz.prog 303 #[.pointer (some ⟨bp s,0,none⟩),.int .i64 n] wr fun e w'=>e=.returned (.bool ((ownB s ks).getD n false))∧wr=w':=by
 obtain⟨d,Fp,hI,hc⟩:=h.1.par s hs
 have:=Uc (bp s) (ownB s ks) n wr hI.idx
 rw[Uk hn] at this
 exact this
omit hF in
theorem bM.drewN(n:Nat):bM wh b bo bi bp ks q F (wr.drewN n):=h.keeps (G:=fun _=>False) ((Keeps.refl _ wr).drewN n) (fun _ _ h=>h)
omit hF in
theorem bM.drew:bM wh b bo bi bp ks q F wr.drew:=h.keeps (G:=fun _=>False) ((Keeps.refl _ wr).drew) (fun _ _ h=>h)
omit hF in
theorem bM.alloc(o:Obj):bM wh b bo bi bp ks q F (wr.alloc o):=h.keeps (G:=fun _=>False) ((Keeps.refl _ wr).alloc o) (fun _ _ h=>h)
theorem QE(i m:Nat)(hq:q≤100000000)(hm:bK ks i m) :
  Calls Tryz.prog 258 #[.pointer (some ⟨b,0,none⟩),.int .i64 i] wr fun e w'=>e=.returned (.tuple #[.int .i64 m,.int .i64 0])∧bM wh b bo bi bp ks (q+4) F w':=by
 have hi:=hm.symm.lt
 obtain⟨s,a,c,hs,h1,h2,h3⟩:=hm
 obtain⟨k,hk,hks,hpr⟩:=h1
 have hk4:=h.1.k4 k (List.mem_of_getElem? hk)
 have hH:=Zx h.1 i hi
 obtain⟨c1,c2⟩:=h.1.cells s hs
 have hA:=fun W (hW:bM wh b bo bi bp ks q F W)=>JA hW.1 i k hk
 have hD:=h.drew
 have e1:(k:Int).tdiv 2=(s:Int):=by rw[Int.tdiv_eq_ediv_of_nonneg (by omega)];omega
 have e2:IntKind.i64.wrap (s:Int)=(s:Int):=IntWalk.i64_in _ (by omega)
 have e3:(0:Int)≤(s:Int):=by omega
 have e4:(s:Int)<2:=by omega
 have HQ:=ah (aj h (aj h2 (aj h3 hpr)))
 have hle:=h.1.le
 clear h h2 h3 hk hks hpr
 have LA:wr.drew.cell? ⟨b,1+s * 2,none⟩=some (.pointer (some ⟨bi s,0,none⟩)):=c1
 have LB:wr.drew.cell? ⟨b,1+s * 2+1,none⟩=some (.pointer (some ⟨bp s,0,none⟩)):=c2
 have hbr:b≠wr.heap.size:=by have:=lt_of_block HQ.out.1.1.blk;omega
 go_enter Tryz.func258,Tryz.ntmps258
 go_wp2_with (go_at_call 283;refine hH.mono ?_;rintro e w' ⟨rfl,rfl⟩)
 go_region_held3 (fun w'=>w'.cell? ⟨b,1+s * 2,none⟩=some (.pointer (some ⟨bi s,0,none⟩))∧w'.cell? ⟨b,1+s * 2+1,none⟩=some (.pointer (some ⟨bp s,0,none⟩))) (first|exact⟨LA,LB⟩|exact⟨QF,QG⟩|exact⟨uo LA _,uo LB _⟩|exact⟨uo QF _,uo QG _⟩|exact⟨Zz QF hbr _ _,Zz QG hbr _ _⟩) ((go_at_call 257;refine (hA _ ?_).mono ?_;(first|exact hD|exact hD.alloc _);rintro e W ⟨rfl,n,hW⟩;have QF:=(Zy hW (by first|exact LA|exact uo LA _):W.cell? ⟨b,1+s * 2,none⟩=some (.pointer (some ⟨bi s,0,none⟩)));have QG:=(Zy hW (by first|exact LB|exact uo LB _):W.cell? ⟨b,1+s * 2+1,none⟩=some (.pointer (some ⟨bp s,0,none⟩)));(try (have x0:W.cell? ⟨wr.heap.size,0,none⟩=some (.pointer none):=by (rw[hW];exact ak (heap_alloc_new wr _) 0)));(try (have x1:W.cell? ⟨wr.heap.size,1,none⟩=some (.pointer none):=by (rw[hW];exact ak (heap_alloc_new wr _) 1)));(try (have x2:W.frozen? ⟨wr.heap.size,0,none⟩=false:=by (rw[hW];exact au (heap_alloc_new wr _) 0)));(try (have x3:W.frozen? ⟨wr.heap.size,1,none⟩=false:=by (rw[hW];exact au (heap_alloc_new wr _) 1)));have HW:=ah hW;clear hW))
 case' _ =>
  obtain⟨g,hg⟩:∃ g,g=W.heap.size:=⟨_,rfl⟩
  have hX:(W.alloc (.cells #[.pointer (some ⟨bi s,0,none⟩),.pointer (some ⟨bp s,0,none⟩)] 341)).heap[g]? = some (.cells #[.pointer (some ⟨bi s,0,none⟩),.pointer (some ⟨bp s,0,none⟩)] 341 (0,0)):=by rw[hg];exact heap_alloc_new W _
  have hk2:Keeps (fun _=>False) wr (W.alloc (.cells #[.pointer (some ⟨bi s,0,none⟩),.pointer (some ⟨bp s,0,none⟩)] 341)):=by rw[HW.out];exact (((Keeps.refl _ wr).drew).drewN n).alloc _
  have hgw:wr.heap.size≤g:=by rw[hg,HW.out];exact Nat.le_refl _
  rw[← hg]
  generalize World.alloc _ _=W2 at *
  clear hg
 rotate_left
 case' _ =>
  obtain⟨g,hg⟩:∃ g,g=wr.heap.size:=⟨_,rfl⟩
  have hW0:W.heap[wr.heap.size]? = some (.cells #[.pointer none,.pointer none] 341 (0,0)):=by rw[HW.out];exact heap_alloc_new wr _
  have hX:((W.setCell ⟨wr.heap.size,0,none⟩ (.pointer (some ⟨bi s,0,none⟩))).setCell ⟨wr.heap.size,1,none⟩ (.pointer (some ⟨bp s,0,none⟩))).heap[g]? = some (.cells #[.pointer (some ⟨bi s,0,none⟩),.pointer (some ⟨bp s,0,none⟩)] 341 (0,0)):=by rw[hg];exact dM (dM hW0 0 _) 1 _
  have hk0:Keeps (fun _=>False) wr W:=by rw[HW.out];exact (((Keeps.refl _ wr).drew).alloc _).drewN n
  have hk2:Keeps (fun _=>False) wr ((W.setCell ⟨wr.heap.size,0,none⟩ (.pointer (some ⟨bi s,0,none⟩))).setCell ⟨wr.heap.size,1,none⟩ (.pointer (some ⟨bp s,0,none⟩))):=(hk0.setCell (p:=⟨wr.heap.size,0,none⟩) (.inr (Nat.le_refl _)) _).setCell (p:=⟨wr.heap.size,1,none⟩) (.inr (Nat.le_refl _)) _
  have hgw:wr.heap.size≤g:=by rw[hg];exact Nat.le_refl _
  rw[← hg]
  rw[← hg] at hX hk2
  obtain⟨W2,hW2⟩:∃ W2,W2=(W.setCell ⟨g,0,none⟩ (.pointer (some ⟨bi s,0,none⟩))).setCell ⟨g,1,none⟩ (.pointer (some ⟨bp s,0,none⟩)):=⟨_,rfl⟩
  rw[← hW2] at hX hk2
  rw[← hW2]
  clear hW2
  clear hg
 all_goals
  obtain⟨hQ,h2,h3,hpr⟩:=HQ.out
  have hP2:=hQ.1.keeps hk2 (fun _ _ h=>h)
  have LC:¬ grow F wh wr g:=fun e=>by have:=hQ.1.old g e;omega
  have hF2:=hP2.old
  have q1:=D8 hF2 hP2.after s i hs (by omega) (by omega)
  have q2:=fun w5 (h5:bM W2 b bo bi bp ks (q+1) (grow F wh wr) w5)=>D9 hF2 h5 s a c hs (by omega) h3
  have q3:=fun w6 (h6:bM W2 b bo bi bp ks (q+1+2) (grow F wh wr) w6)=>ZA hF2 h6 s c m hs (by omega) h2
  rw[hpr] at q1
  have hfin:=fun w7 (h7:bM W2 b bo bi bp ks (q+1+2+1) (grow F wh wr) w7)=>bM.join hF hQ hk2 h7
  have hkeep:=fun w5 q' (h5:bM W2 b bo bi bp ks q' (grow F wh wr) w5)=>h5.2.at hX LC
  have Gx:W2.cell? ⟨g,0,none⟩=some (.pointer (some ⟨bi s,0,none⟩)):=ak hX 0
  have HH:=ah (aj hfin hkeep)
  clear hfin hkeep hX hk2 hgw hP2 hQ h2 h3 hpr LA LB c1 c2 hA hD hbr e1 e2 e3 e4 QF QG
  go_wp2_with fail
  refine q1.mono ?_
  rintro e w5 ⟨rfl,h5⟩
  have UE:w5.cell? ⟨g,1,none⟩=some (.pointer (some ⟨bp s,0,none⟩)):=ak (HH.out.2 _ _ h5) 1
  clear q1 Gx
  go_wp2_with fail
  refine (q2 _ h5).mono ?_
  rintro e w6 ⟨rfl,h6⟩
  have QH:w6.cell? ⟨g,0,none⟩=some (.pointer (some ⟨bi s,0,none⟩)):=ak (HH.out.2 _ _ h6) 0
  clear q2 UE h5
  go_wp2_with fail
  refine (q3 _ h6).mono ?_
  rintro e w7 ⟨rfl,h7⟩
  have H7:=ah (HH.out.1 _ h7)
  clear q3 h6 h7 QH
  go_wp2
  go_ret2
  exact⟨rfl,H7.out⟩
end
end
section
open Go.RowKit
theorem ZC{l:List Bool}{k o:Nat}(hx:0<ex l k)(h:cK l k (ex l k - 1) o)(hb:l.getD k false=true):La l k o :=
 .inl ⟨hb,.inr ⟨hx,o,rfl,h⟩⟩
theorem ZE{l:List Bool}{k o:Nat}(hk:k<l.length)(h:cK l k (ex l k - 1) o)(hb:l.getD k false=false):dV l k o:=by
 have hs:=yV l hk
 rw[hb,if_neg (by simp)] at hs
 have hp:bQ l o k:=⟨h.lt,hk,by rw[hs,h.hit],fun p h1 h2=>by have:=h.above p h1 h2;rw[h.hit];omega⟩
 exact hp.nS
section
variable {wh wr:World} {b bo:Nat} {bi bp:Nat→Nat} {ks:List Nat} {q:Nat} {F:Nat→Prop} (hF:∀ x,F x→x<wh.heap.size) (h:bM wh b bo bi bp ks q F wr)
include hF h
theorem qln(k o:Nat)(hq:q≤100000000)(hk:k<(ownB 0 ks).length)(hx:0<ex (ownB 0 ks) k)(ho:cK (ownB 0 ks) k (ex (ownB 0 ks) k - 1) o) :
  Calls Tryz.prog 289 #[.pointer (some ⟨b,0,none⟩),.int .i64 k] wr fun e w'=>e=.returned (.int .i64 o)∧bM wh b bo bi bp ks (q+4) F w':=by
 obtain⟨c1,c2⟩:=h.1.cells 0 (by omega)
 simp only [Nat.zero_mul,Nat.add_zero,Nat.reduceAdd] at c1 c2
 obtain⟨g,hg⟩:∃ g,g=wr.heap.size:=⟨_,rfl⟩
 have hX:(wr.alloc (.cells #[.pointer (some ⟨bi 0,0,none⟩),.pointer (some ⟨bp 0,0,none⟩)] 341)).heap[g]? = some (.cells #[.pointer (some ⟨bi 0,0,none⟩),.pointer (some ⟨bp 0,0,none⟩)] 341 (0,0)):=by rw[hg];exact heap_alloc_new wr _
 have hk2:Keeps (fun _=>False) wr (wr.alloc (.cells #[.pointer (some ⟨bi 0,0,none⟩),.pointer (some ⟨bp 0,0,none⟩)] 341)):=(Keeps.refl _ wr).alloc _
 have hgw:wr.heap.size≤g:=by rw[hg];exact Nat.le_refl _
 have HG:=ah hg
 cases hb:(ownB 0 ks).getD k false
 ·have hm:=ZE hk ho hb
  have HQ:=ah (aj h (aj hm hb))
  clear h hm ho hg hb
  go_enter Tryz.func289,Tryz.ntmps289
  go_wp2_with fail
  rw[← HG.out]
  generalize World.alloc _ _=W2 at *
  obtain⟨hQ,hm,hb⟩:=HQ.out
  have hP2:=hQ.1.keeps hk2 (fun _ _ h=>h)
  have LC:¬ grow F wh wr g:=fun e=>by have:=hQ.1.old g e;omega
  have hF2:=hP2.old
  have q1:=Ea hP2.after 0 k (by omega) hk
  rw[hb] at q1
  have q2:=D9 hF2 hP2.after 0 k o (by omega) (by omega) hm
  have hfin:=fun w7 (h7:bM W2 b bo bi bp ks (q+2) (grow F wh wr) w7)=>bM.join hF hQ hk2 h7
  have Gx:W2.cell? ⟨g,1,none⟩=some (.pointer (some ⟨bp 0,0,none⟩)):=ak hX 1
  have HH:=ah hfin
  clear hfin hX hk2 hgw hP2 hQ hm hb
  go_wp2_with fail
  refine q1.mono ?_
  rintro e w5 ⟨rfl,rfl⟩
  go_wp2_with fail
  refine q2.mono ?_
  rintro e w6 ⟨rfl,h6⟩
  have H7:=ah ((HH.out _ h6).more (show q+2≤q+4 by omega))
  clear q1 q2 h6 Gx
  go_wp2
  go_ret
  exact⟨rfl,H7.out⟩
 ·have hm:=ZC hx ho hb
  have HQ:=ah (aj h (aj hm hb))
  clear h hm ho hg hb
  go_enter Tryz.func289,Tryz.ntmps289
  go_wp2_with fail
  rw[← HG.out]
  generalize World.alloc _ _=W2 at *
  obtain⟨hQ,hm,hb⟩:=HQ.out
  have hP2:=hQ.1.keeps hk2 (fun _ _ h=>h)
  have LC:¬ grow F wh wr g:=fun e=>by have:=hQ.1.old g e;omega
  have hF2:=hP2.old
  have q1:=Ea hP2.after 0 k (by omega) hk
  rw[hb] at q1
  have q2:=ZB hF2 hP2.after 0 k o (by omega) (by omega) hk hm
  have hfin:=fun w7 (h7:bM W2 b bo bi bp ks (q+4) (grow F wh wr) w7)=>bM.join hF hQ hk2 h7
  have Gx:W2.cell? ⟨g,1,none⟩=some (.pointer (some ⟨bp 0,0,none⟩)):=ak hX 1
  have HH:=ah hfin
  clear hfin hX hk2 hgw hP2 hQ hm hb
  go_wp2_with fail
  refine q1.mono ?_
  rintro e w5 ⟨rfl,rfl⟩
  go_wp2_with fail
  refine q2.mono ?_
  rintro e w6 ⟨rfl,h6⟩
  have H7:=ah (HH.out _ h6)
  clear q1 q2 h6 Gx
  go_wp2
  go_ret
  exact⟨rfl,H7.out⟩
theorem qem(i:Nat)(r:Int)(hq:q≤10000000)(hi:i<ks.length)(hr:fC ks i r) :
  Calls Tryz.prog 259 #[.pointer (some ⟨b,0,none⟩),.int .i64 i] wr fun e w'=>e=.returned (.tuple #[.int .i64 r,.int .i64 0])∧bM wh b bo bi bp ks (q+7) F w':=by
 have hk:=List.getElem?_eq_getElem hi
 have hk4:=h.1.k4 _ (List.mem_of_getElem? hk)
 generalize ks[i]=k at *
 have hH:=Zx h.1 i hi
 have hA:=JA h.1 i k hk
 have nV:=h.1.bal.1
 have hal:=sF 0 ks i (by omega)
 have hle:=h.1.le
 have agi:=Gu 0 ks
 by_cases hk1:k=1
 ·have hs:=bO.at (s:=0) hk (by omega)
  obtain⟨_,kI⟩:=hs.own hk
  have hb:(ownB 0 ks).getD (pr 0 ks i) false=false:=by rw[List.getD_eq_getElem?_getD,kI,hk1];rfl
  have hlt:=hs.Lx
  have hm:∃ n:Nat,r=n∧bK ks i n:=by
   rcases hr with⟨h0,_⟩|⟨h0,o,n,h1,h2,rfl⟩
   ·have hx:=yV (ownB 0 ks) hlt
    rw[hb,if_neg (by simp),h0] at hx
    have:=nV.2 (pr 0 ks i+1) (by omega)
    omega
   ·exact⟨n,rfl,0,_,o,by omega,hs,h2,ZE hlt h1 hb⟩
  obtain⟨n,rfl,hm⟩:=hm
  have hM:=fun W (hW:bM wh b bo bi bp ks q F W)=>QE hF hW i n (by omega) hm
  have HQ:=ah h
  have BZ:((k:Int) == 1)=true:=by rw[hk1];rfl
  clear h hr hm hs hb kI nV hk1 hk
  go_enter Tryz.func259,Tryz.ntmps259
  go_wp2_with (go_at_call 283;refine hH.mono ?_;rintro e w' ⟨rfl,rfl⟩)
  refine hA.mono ?_
  rintro e w5 ⟨rfl,n5,rfl⟩
  have hM:=hM _ (HQ.out.drewN n5)
  clear hA hH
  go_wp2_with fail
  refine hM.mono ?_
  rintro e w6 ⟨rfl,h6⟩
  have H7:=ah (h6.more (show q+4≤q+7 by omega))
  clear hM h6
  go_wp2
  go_ret2
  exact⟨rfl,H7.out⟩
 ·have BZ:((k:Int) == 1)=false:=by rw[beq_eq_false_iff_ne];omega
  obtain⟨a,ha⟩:∃ a,a=pr 0 ks i:=⟨_,rfl⟩
  have hex:=nR (ownB 0 ks) a (by omega)
  have HQ:=ah (aj h (aj hr (aj hk ha)))
  clear h hr nV hk
  go_enter Tryz.func259,Tryz.ntmps259
  go_wp2_with (go_at_call 283;refine hH.mono ?_;rintro e w' ⟨rfl,rfl⟩)
  refine hA.mono ?_
  rintro e w5 ⟨rfl,n5,Cb⟩
  have UF:bM wh b bo bi bp ks q F w5:=by rw[Cb];exact HQ.out.1.drewN n5
  obtain⟨c1,c2⟩:=UF.1.cells 0 (by omega)
  simp only [Nat.zero_mul,Nat.add_zero,Nat.reduceAdd] at c1 c2
  obtain⟨g,hg⟩:∃ g,g=w5.heap.size:=⟨_,rfl⟩
  have hX:(w5.alloc (.cells #[.pointer (some ⟨bi 0,0,none⟩),.pointer (some ⟨bp 0,0,none⟩)] 341)).heap[g]? = some (.cells #[.pointer (some ⟨bi 0,0,none⟩),.pointer (some ⟨bp 0,0,none⟩)] 341 (0,0)):=by rw[hg];exact heap_alloc_new w5 _
  have hk2:Keeps (fun _=>False) w5 (w5.alloc (.cells #[.pointer (some ⟨bi 0,0,none⟩),.pointer (some ⟨bp 0,0,none⟩)] 341)):=(Keeps.refl _ w5).alloc _
  have hgw:w5.heap.size≤g:=by rw[hg];exact Nat.le_refl _
  have HG:=ah hg
  have HW:=ah UF
  clear hA hH Cb hg UF
  go_wp2_with fail
  rw[← HG.out]
  generalize World.alloc _ _=W2 at *
  have hP2:=HW.out.1.keeps hk2 (fun _ _ h=>h)
  have LC:¬ grow F wh w5 g:=fun e=>by have:=HW.out.1.old g e;omega
  have hF2:=hP2.old
  have q1:=D8 hF2 hP2.after 0 i (by omega) (by omega) (by omega)
  rw[← ha] at q1 hal
  have q2:=fun JB (h5:bM W2 b bo bi bp ks (q+1) (grow F wh w5) JB)=>UD hF2 h5 0 a (by omega) (by omega) hal
  have hfin:=fun q' w7 (h7:bM W2 b bo bi bp ks q' (grow F wh w5) w7)=>bM.join hF HW.out hk2 h7
  have hkeep:=fun JB q' (h5:bM W2 b bo bi bp ks q' (grow F wh w5) JB)=>h5.2.at hX LC
  have Gx:W2.cell? ⟨g,0,none⟩=some (.pointer (some ⟨bi 0,0,none⟩)):=ak hX 0
  have HH:=ah (aj hfin hkeep)
  clear hfin hkeep hX hk2 hgw hP2 c1 c2 ha
  go_wp2_with fail
  refine q1.mono ?_
  rintro e w6 ⟨rfl,h6⟩
  have UE:w6.cell? ⟨g,1,none⟩=some (.pointer (some ⟨bp 0,0,none⟩)):=ak (HH.out.2 _ _ h6) 1
  clear q1 Gx
  go_wp2_with fail
  refine (q2 _ h6).mono ?_
  rintro e w7 ⟨rfl,h7⟩
  clear q2 UE h6
  obtain⟨_,hr,hk,ha⟩:=HQ.out
  rw[fC,← ha] at hr
  have Eb:=JA h7.1 i k hk
  rcases hr with⟨hx0,rfl⟩|⟨hx0,o,n,ho,hn,rfl⟩
  ·have hx1:(ex (ownB 0 ks) a == 0)=true:=by rw[hx0];rfl
   have H7:=ah ((HH.out.1 _ _ h7).more (show q+1+1≤q+7 by omega))
   clear h7 hx0 Eb hk ha
   generalize ex (ownB 0 ks) a=x at *
   go_wp2
   go_ret2
   exact⟨rfl,H7.out⟩
  ·have hx1:(ex (ownB 0 ks) a == 0)=false:=by rw[beq_eq_false_iff_ne];omega
   have hall:a<(ownB 0 ks).length:=by
    rcases Nat.lt_or_ge a (ownB 0 ks).length with h|h
    ·exact h
    ·have:=HQ.out.1.1.bal.1.1
     rw[show a=(ownB 0 ks).length by omega] at hx0
     omega
   have QH:w7.cell? ⟨g,0,none⟩=some (.pointer (some ⟨bi 0,0,none⟩)):=ak (HH.out.2 _ _ h7) 0
   have ZF:w7.cell? ⟨g,1,none⟩=some (.pointer (some ⟨bp 0,0,none⟩)):=ak (HH.out.2 _ _ h7) 1
   have q5:=fun JB (h5:bM W2 b bo bi bp ks (q+1+1+4) (grow F wh w5) JB)=>ZA hF2 h5 0 o n (by omega) (by omega) hn
   by_cases hk0:k=0
   ·have hk0':((k:Int) == 0)=true:=by rw[hk0];rfl
    have hs:=bO.at (s:=0) hk (by omega)
    obtain⟨_,kI⟩:=hs.own hk
    have hb:(ownB 0 ks).getD a false=true:=by rw[List.getD_eq_getElem?_getD,ha,kI,hk0];rfl
    have hro:=ZC hx0 ho hb
    have q4:=fun m=>ZB hF2 (h7.drewN m) 0 a o (by omega) (by omega) hall hro
    have H7:=ah h7
    clear h7 hx0 hk ha hs kI hb hro ho hn hk0
    generalize ex (ownB 0 ks) a=x at *
    go_wp2_with fail
    refine Eb.mono ?_
    rintro e w8 ⟨rfl,n8,rfl⟩
    go_wp2_with fail
    refine (q4 n8).mono ?_
    rintro e w9 ⟨rfl,h9⟩
    have UG:w9.cell? ⟨g,0,none⟩=some (.pointer (some ⟨bi 0,0,none⟩)):=ak (HH.out.2 _ _ h9) 0
    clear q4 Eb QH ZF
    go_wp2_with fail
    refine (q5 _ h9).mono ?_
    rintro e wQ ⟨rfl,h10⟩
    have UH:=ah (HH.out.1 _ _ h10)
    clear q5 h9 h10 UG
    go_wp2
    go_ret2
    exact⟨rfl,UH.out⟩
   ·have hk0':((k:Int) == 0)=false:=by rw[beq_eq_false_iff_ne];omega
    have q4:=fun m=>qln hF2 (h7.drewN m) a o (by omega) hall hx0 ho
    have H7:=ah h7
    clear h7 hx0 hk ha ho hn hk0
    generalize ex (ownB 0 ks) a=x at *
    go_wp2_with fail
    refine Eb.mono ?_
    rintro e w8 ⟨rfl,n8,rfl⟩
    go_wp2_with fail
    refine (q4 n8).mono ?_
    rintro e w9 ⟨rfl,h9⟩
    have UG:w9.cell? ⟨g,0,none⟩=some (.pointer (some ⟨bi 0,0,none⟩)):=ak (HH.out.2 _ _ h9) 0
    clear q4 Eb QH ZF
    go_wp2_with fail
    refine (q5 _ h9).mono ?_
    rintro e wQ ⟨rfl,h10⟩
    have UH:=ah (HH.out.1 _ _ h10)
    clear q5 h9 h10 UG
    go_wp2
    go_ret2
    exact⟨rfl,UH.out⟩
end
end
section
open Go.RowKit
theorem UJ(ks:List Nat)(kind:Nat){a c:Nat}(h:a≤c):aW (ks.take a) kind≤aW (ks.take c) kind:=by
 have:ks.take c=ks.take a ++ (ks.take c).drop a:=by
  conv=>lhs;rw[← List.take_append_drop a (ks.take c)]
  rw[List.take_take,Nat.min_eq_left h]
 rw[this]
 unfold aW
 rw[List.filter_append,List.length_append]
 omega
end
section
open Go.RowKit
def gJ(lab:Nat→Nat)(n j:Nat):Nat→Nat:=fun x=>if x<n then lab x else j
theorem yt{lab:Nat→Nat}{n j x:Nat}(h:x<n):gJ lab n j x=lab x:=if_pos h
theorem JC{lab:Nat→Nat}{n j x:Nat}(h:n≤x):gJ lab n j x=j:=if_neg (by omega)
def jX(w:World)(lab:Nat→Nat)(j b:Nat)(v:Value)(l:List Bool):Prop:=aK w b v l∧lab b=j∧∀ k,v.ownBlock=some k→lab k=j
def wR(w:World)(lab:Nat→Nat)(j b:Nat)(l:List Bool):Prop:=∃ F,bL w b l false 0 F∧∀ x,F x→lab x=j
def wU(w:World)(lab:Nat→Nat)(j b:Nat)(l:List Bool):Prop:=∃ F,eU w b l false 0 F∧∀ x,F x→lab x=j
theorem jX.aP{w w':World}{lab:Nat→Nat}{i b:Nat}{v:Value}{l:List Bool}{G:Nat→Prop}(h:jX w lab i b v l)(k:Keeps G w w')(hG:∀ x,lab x=i→¬ G x)(j:Nat):jX w' (gJ lab w.heap.size j) i b v l :=
 ⟨h.1.keeps k (hG b h.2.1) (fun x hx=>hG x (h.2.2 x hx)),(yt h.1.lt).trans h.2.1,fun x hx=>(yt (h.1.apart x hx).2).trans (h.2.2 x hx)⟩
theorem wR.aP{w w':World}{lab:Nat→Nat}{i b:Nat}{l:List Bool}{G:Nat→Prop}(h:wR w lab i b l)(k:Keeps G w w')(hG:∀ x,lab x=i→¬ G x)(j:Nat):wR w' (gJ lab w.heap.size j) i b l:=by
 obtain⟨F,h1,h2⟩:=h
 exact⟨F,h1.keeps k (fun x hx=>hG x (h2 x hx)),fun x hx=>(yt (h1.old x hx)).trans (h2 x hx)⟩
theorem wU.aP{w w':World}{lab:Nat→Nat}{i b:Nat}{l:List Bool}{G:Nat→Prop}(h:wU w lab i b l)(k:Keeps G w w')(hG:∀ x,lab x=i→¬ G x)(j:Nat):wU w' (gJ lab w.heap.size j) i b l:=by
 obtain⟨F,h1,h2⟩:=h
 exact⟨F,h1.keeps k (fun x hx=>hG x (h2 x hx)),fun x hx=>(yt (h1.old x hx)).trans (h2 x hx)⟩
theorem jX.new(w:World)(lab:Nat→Nat)(j:Nat):jX (w.alloc (.cells #[.slice none 0 0,.int .i64 0] 203)) (gJ lab w.heap.size j) j w.heap.size (.slice none 0 0) [] :=
 ⟨FN w,JC (Nat.le_refl _),fun k hk=>by simp[Value.ownBlock] at hk⟩
theorem Ec{W:World}{lab:Nat→Nat}{j b:Nat}{v:Value}{l:List Bool}(h:jX W lab j b v l)(z:Int)(x:Bool)(hx:x=!(z == 0))(hl:l.length<900000000) :
  Calls Tryz.prog 142 #[.pointer (some ⟨b,0,none⟩),.slice (some ⟨W.heap.size,0,none⟩) 1 1] (W.alloc (.cells #[.int .i64 z] 3)) fun e w' =>
   e=.returned (.tuple #[])∧∃ v',jX w' (gJ lab W.heap.size j) j b v' (l ++ [x])∧Keeps (fun x=>lab x=j) W w':=by
 have hA:=KN b v l (.slice (some ⟨W.heap.size,0,none⟩) 1 1) [z] (W.alloc (.cells #[.int .i64 z] 3))
    (h.1.keeps ((Keeps.refl (fun _=>False) W).alloc _) (fun h=>h) (fun _ _ h=>h)) (Sl.one W .i64 z _) (by
     intro x hx
     simp only [Value.ownBlock,Option.some.injEq] at hx
     subst hx
     exact⟨fun e=>by have:=h.1.lt;omega,fun e=>by have:=(h.1.apart _ e).2;omega⟩) (by simp;omega)
 refine hA.mono ?_
 rintro e w' ⟨rfl,v',h1,h2,h3⟩
 have hb:lF [z]=[x]:=by rw[hx];rfl
 rw[hb] at h1
 refine⟨rfl,v',⟨h1,(yt h.1.lt).trans h.2.1,fun k hk=>?_⟩,((Keeps.refl _ W).alloc _).trans h2 (fun x hx e=>?_)⟩
 ·rcases h3 with h3|⟨k',h3,hk'⟩
  ·rw[h3] at hk
   exact (yt (h.1.apart k hk).2).trans (h.2.2 k hk)
  ·rw[h3] at hk;cases hk
   exact JC (by simp at hk';omega)
 ·rcases e with rfl|e
  ·exact h.2.1
  ·exact h.2.2 x e
structure yu (w0:World)(lab:Nat→Nat)(bm:Nat)(cs:Array Value)(bi bp:Nat→Nat)(ks:List Nat)(s:Nat)(wr:World):Prop where
 base:∀ x,x<w0.heap.size→lab x=0
 keeps:Keeps (fun _=>False) w0 wr
 blk:wr.heap[bm]? = some (.cells cs 344 (0,0))
 lb:lab bm=1
 idx:∀ s',s'<s→wR wr lab (3+s') (bi s') (nU s' ks)
 par:∀ s',s'<s→wU wr lab (5+s') (bp s') (ownB s' ks)
 bal:∀ s',s'<s→Bal (ownB s' ks)
theorem yu.aP{w0:World}{lab:Nat→Nat}{bm:Nat}{cs:Array Value}{bi bp:Nat→Nat}{ks:List Nat}{s:Nat}{wr w':World}{G:Nat→Prop}(h:yu w0 lab bm cs bi bp ks s wr)
  (k:Keeps G wr w')(hs:s≤2)(hG:∀ x,lab x≤6→lab x≠2→¬ G x)(j:Nat):yu w0 (gJ lab wr.heap.size j) bm cs bi bp ks s w':=by
 have hb:=lt_of_block h.blk
 refine⟨fun x hx=>(yt (Nat.lt_of_lt_of_le hx h.keeps.size)).trans (h.base x hx),h.keeps.trans k (fun x hx e=>hG x (by rw[h.base x hx];omega) (by rw[h.base x hx];omega) e),k.at h.blk (hG bm (by rw[h.lb];omega) (by rw[h.lb];omega)),(yt hb).trans h.lb,
  fun s' hs'=>(h.idx s' hs').aP k (fun x hx=>hG x (by omega) (by omega)) j,fun s' hs'=>(h.par s' hs').aP k (fun x hx=>hG x (by omega) (by omega)) j,h.bal⟩
end
section
open Go.RowKit
def wV(bi bp:Nat→Nat)(s:Nat):Array Value :=
 #[.pointer none,.pointer (if 0<s then some ⟨bi 0,0,none⟩ else none),.pointer (if 0<s then some ⟨bp 0,0,none⟩ else none),.pointer (if 1<s then some ⟨bi 1,0,none⟩ else none),.pointer (if 1<s then some ⟨bp 1,0,none⟩ else none)]
def upd(f:Nat→Nat)(s y:Nat):Nat→Nat:=fun x=>if x=s then y else f x
theorem ZG(f:Nat→Nat)(s y:Nat):upd f s y s=y:=if_pos rfl
theorem ZH(f:Nat→Nat){s x:Nat}(y:Nat)(h:x≠s):upd f s y x=f x:=if_neg h
theorem q9o(bi bp:Nat→Nat)(s y z:Nat)(hs:s<2) :
  ((wV bi bp s).setIfInBounds (1+s * 2) (.pointer (some ⟨y,0,none⟩))).setIfInBounds (1+s * 2+1) (.pointer (some ⟨z,0,none⟩))=wV (upd bi s y) (upd bp s z) (s+1):=by
 match s,hs with
 | 0,_=>rfl
 | 1,_=>rfl
theorem qh3(bi bp:Nat→Nat)(s:Nat)(hs:s<2):∃ u1 u2,(wV bi bp s)[1+s * 2]? = some u1∧(wV bi bp s)[1+s * 2+1]? = some u2:=by
 match s,hs with
 | 0,_=>exact⟨_,_,rfl,rfl⟩
 | 1,_=>exact⟨_,_,rfl,rfl⟩
def QI(w:World)(ks:List Nat)(e:Ending)(w':World):Prop :=
 (iQ ks∧∃ bm bo bi bp,e=.returned (.tuple #[.pointer (some ⟨bm,0,none⟩),.int .i64 0])∧eZ w' bm bo bi bp ks 0 (fun x=>w.heap.size≤x∧x<w'.heap.size)∧Keeps (fun _=>False) w w') ∨
 (¬ iQ ks∧e=.returned (.tuple #[.pointer none,.int .i64 9])∧Keeps (fun _=>False) w w')
def JD(w0:World)(bo b7 b8 bm:Nat)(bi bp:Nat→Nat)(ks:List Nat)(s k:Nat)(wr:World):Prop :=
 ∃ lab vo vi vw,yu w0 lab bm (wV bi bp s) bi bp ks s wr∧jX wr lab 2 bo vo (if s=0 then dY (ks.take k) else dY ks)∧jX wr lab 7 b7 vi (nU s (ks.take k))∧jX wr lab 8 b8 vw (ownB s (ks.take k))
def Gy(w0:World)(bo bm:Nat)(ks:List Nat)(s:Nat)(wr:World):Prop :=
 ∃ bi bp lab vo,yu w0 lab bm (wV bi bp s) bi bp ks s wr∧jX wr lab 2 bo vo (if s=0 then [] else dY ks)
theorem qiv{ks:List Nat}{i k:Nat}(h:ks[i]? = some k):dY (ks.take (i+1))=dY (ks.take i) ++ [k % 2 == 0]:=by
 rw[lX h,qcf];rfl
theorem qnj(s:Nat){ks:List Nat}{i k:Nat}(h:ks[i]? = some k):nU s (ks.take (i+1))=nU s (ks.take i) ++ [k / 2 == s]:=by
 rw[lX h,qh2];rfl
theorem ZI{s:Nat}{ks:List Nat}{i k:Nat}(h:ks[i]? = some k)(hs:k / 2=s):ownB s (ks.take (i+1))=ownB s (ks.take i) ++ [k % 2 == 0]:=by
 rw[lX h,y8];simp[ownB,hs]
theorem ZJ{s:Nat}{ks:List Nat}{i k:Nat}(h:ks[i]? = some k)(hs:¬ k / 2=s):ownB s (ks.take (i+1))=ownB s (ks.take i):=by
 rw[lX h,y8];simp[ownB,hs]
theorem yu.step{w0 w5 W:World}{lab:Nat→Nat}{bm bo y z s:Nat}{bi bp:Nat→Nat}{ks:List Nat}{vo:Value}{l:List Bool}(hs:s<2)(hX:yu w0 lab bm (wV bi bp s) bi bp ks s w5)(hB:Bal (ownB s ks))(hP:wU w5 lab (5+s) y (ownB s ks))(hO:jX w5 lab 2 bo vo l)
  (hI:bL W z (nU s ks) false 0 (fun k=>w5.heap.size≤k∧k<W.heap.size))(hk:Keeps (fun _=>False) w5 W) :
  ∃ lab',yu w0 lab' bm (wV (upd bi s z) (upd bp s y) (s+1)) (upd bi s z) (upd bp s y) ks (s+1) ((W.setCell ⟨bm,1+s * 2,none⟩ (.pointer (some ⟨z,0,none⟩))).setCell ⟨bm,1+s * 2+1,none⟩ (.pointer (some ⟨y,0,none⟩))) ∧
   jX ((W.setCell ⟨bm,1+s * 2,none⟩ (.pointer (some ⟨z,0,none⟩))).setCell ⟨bm,1+s * 2+1,none⟩ (.pointer (some ⟨y,0,none⟩))) lab' 2 bo vo l:=by
 have rM:=hX.aP hk (by omega) (fun _ _ _ h=>h) (3+s)
 have hPW:=hP.aP hk (fun _ _ h=>h) (3+s)
 have hOW:=hO.aP hk (fun _ _ h=>h) (3+s)
 have UK:wR W (gJ lab w5.heap.size (3+s)) (3+s) z (nU s ks):=⟨_,hI,fun x hx=>JC hx.1⟩
 generalize gJ lab w5.heap.size (3+s)=lb at *
 have k2:Keeps (fun x=>x=bm) W ((W.setCell ⟨bm,1+s * 2,none⟩ (.pointer (some ⟨z,0,none⟩))).setCell ⟨bm,1+s * 2+1,none⟩ (.pointer (some ⟨y,0,none⟩))) :=
  ((Keeps.refl (fun x=>x=bm) W).setCell (p:=⟨bm,1+s * 2,none⟩) (.inl rfl) _).setCell (p:=⟨bm,1+s * 2+1,none⟩) (.inl rfl) _
 have hbl:=rM.lb
 have hblt:=lt_of_block rM.blk
 have hne:∀ i,i≠1→∀ x,lb x=i→¬ x=bm:=fun i hi x hx e=>by rw[e,hbl] at hx;omega
 refine⟨gJ lb W.heap.size 9,⟨fun x hx=>(yt (Nat.lt_of_lt_of_le hx rM.keeps.size)).trans (rM.base x hx),rM.keeps.trans k2 (fun x hx e=>by have:=rM.base x hx;rw[e,hbl] at this;omega),?_,(yt hblt).trans hbl,fun s' hs'=>?_,fun s' hs'=>?_,fun s' hs'=>?_⟩,hOW.aP k2 (hne 2 (by omega)) 9⟩
 ·rw[← q9o bi bp s z y hs]
  exact dM (dM rM.blk _ _) _ _
 ·by_cases hss:s'=s
  ·subst hss
   rw[ZG]
   exact UK.aP k2 (hne _ (by omega)) 9
  ·rw[ZH _ _ hss]
   exact (rM.idx s' (by omega)).aP k2 (hne _ (by omega)) 9
 ·by_cases hss:s'=s
  ·subst hss
   rw[ZG]
   exact hPW.aP k2 (hne _ (by omega)) 9
  ·rw[ZH _ _ hss]
   exact (rM.par s' (by omega)).aP k2 (hne _ (by omega)) 9
 ·by_cases hss:s'=s
  ·rw[hss];exact hB
  ·exact hX.bal s' (by omega)
theorem yu.fin{w0 w5 W:World}{lab:Nat→Nat}{bm bo:Nat}{bi bp:Nat→Nat}{ks:List Nat}(h4:∀ k ∈ ks,k<4)(hl:ks.length≤100000000)(hX:yu w0 lab bm (wV bi bp 2) bi bp ks 2 w5)
  (hI:bL W bo (dY ks) false 0 (fun k=>w5.heap.size≤k∧k<W.heap.size))(hk:Keeps (fun _=>False) w5 W) :
  iQ ks∧eZ (W.setCell ⟨bm,0,none⟩ (.pointer (some ⟨bo,0,none⟩))) bm bo bi bp ks 0 (fun x=>w0.heap.size≤x∧x<(W.setCell ⟨bm,0,none⟩ (.pointer (some ⟨bo,0,none⟩))).heap.size)∧Keeps (fun _=>False) w0 (W.setCell ⟨bm,0,none⟩ (.pointer (some ⟨bo,0,none⟩))):=by
 have rM:=hX.aP hk (by omega) (fun _ _ _ h=>h) 2
 have UK:wR W (gJ lab w5.heap.size 2) 2 bo (dY ks):=⟨_,hI,fun x hx=>JC hx.1⟩
 generalize gJ lab w5.heap.size 2=lb at *
 have k2:Keeps (fun x=>x=bm) W (W.setCell ⟨bm,0,none⟩ (.pointer (some ⟨bo,0,none⟩))):=(Keeps.refl (fun x=>x=bm) W).setCell (p:=⟨bm,0,none⟩) (.inl rfl) _
 have hs2:(W.setCell ⟨bm,0,none⟩ (.pointer (some ⟨bo,0,none⟩))).heap.size=W.heap.size:=by simp
 have hbl:=rM.lb
 have hblt:=lt_of_block rM.blk
 have hne:∀ i,i≠1→∀ x,lb x=i→¬ x=bm:=fun i hi x hx e=>by rw[e,hbl] at hx;omega
 have hge:∀ i,i≠0→∀ x,lb x=i→w0.heap.size≤x:=fun i hi x hx=>by
  rcases Nat.lt_or_ge x w0.heap.size with h|h
  ·rw[rM.base x h] at hx;omega
  ·exact h
 have nV:iQ ks:=⟨hX.bal 0 (by omega),hX.bal 1 (by omega)⟩
 refine⟨nV,⟨dM rM.blk 0 _,⟨lb,hbl,⟨hge 1 (by omega) bm hbl,by rw[hs2];exact hblt⟩,?_,fun s hs=>?_,fun s hs=>?_⟩,nV,h4,hl,fun x hx=>hx.2⟩,rM.keeps.trans k2 (fun x hx e=>by have:=rM.base x hx;rw[e,hbl] at this;omega)⟩
 ·obtain⟨Fo,h1,h2⟩:=UK
  exact⟨false,0,Fo,h1.keeps k2 (fun x hx=>hne 2 (by omega) x (h2 x hx)),fun x hx=>⟨⟨hge 2 (by omega) x (h2 x hx),by rw[hs2];exact h1.old x hx⟩,h2 x hx⟩⟩
 ·obtain⟨Fo,h1,h2⟩:=rM.idx s hs
  exact⟨false,0,Fo,h1.keeps k2 (fun x hx=>hne _ (by omega) x (h2 x hx)),Nat.le_refl _,fun x hx=>⟨⟨hge _ (by omega) x (h2 x hx),by rw[hs2];exact h1.old x hx⟩,h2 x hx⟩⟩
 ·obtain⟨Fo,h1,h2⟩:=rM.par s hs
  exact⟨false,Fo,h1.keeps k2 (fun x hx=>hne _ (by omega) x (h2 x hx)),fun x hx=>⟨⟨hge _ (by omega) x (h2 x hx),by rw[hs2];exact h1.old x hx⟩,h2 x hx⟩⟩
theorem qiw(p:Value)(ks:List Nat)(w:World)(h4:∀ k ∈ ks,k<4)(hl:ks.length≤100000000)
  (hLen:∀ W,Keeps (fun _=>False) w W→Calls Tryz.prog 171 #[p] W fun e w'=>e=.returned (.int .i64 ks.length)∧W=w')
  (hAt:∀ W (i k:Nat),Keeps (fun _=>False) w W→ks[i]? = some k→Calls Tryz.prog 281 #[p,.int .i64 i] W fun e w'=>e=.returned (.int .i64 k)∧W=w') :
  Calls Tryz.prog 256 #[p] w (QI w ks):=by
 have HL:=ah (aj hLen hAt)
 clear hLen hAt
 have hol:∀ s k,(ownB s (ks.take k)).length≤100000000:=fun s k=>Nat.le_trans (Gu s _) (Nat.le_trans (List.length_take_le' _ _) hl)
 have hil:∀ s k,(nU s (ks.take k)).length≤100000000:=fun s k=>by rw[Gt];exact Nat.le_trans (List.length_take_le' _ _) hl
 have hpl:∀ k,(dY (ks.take k)).length≤100000000:=fun k=>by rw[q32];exact Nat.le_trans (List.length_take_le' _ _) hl
 have HO:=ah (aj hol (aj hil hpl))
 clear hol hil hpl
 go_enter Tryz.func256,Tryz.ntmps256
 go_wp2_with fail
 refine (BJ _).mono ?_
 rintro e w1 ⟨rfl,rfl⟩
 obtain⟨bo,mO⟩:∃ bo,bo=w.heap.size:=⟨_,rfl⟩
 have Cc:Gy w bo (w.heap.size+1) ks 0 ((w.alloc (.cells #[.slice none 0 0,.int .i64 0] 203)).alloc (.cells #[.pointer none,.pointer none,.pointer none,.pointer none,.pointer none] 344)):=by
  have hv:=(jX.new w (fun _=>0) 2)
  have hs1:(w.alloc (.cells #[.slice none 0 0,.int .i64 0] 203)).heap.size=w.heap.size+1:=by simp
  have hv2:=hv.aP ((Keeps.refl (fun _=>False) _).alloc (.cells #[.pointer none,.pointer none,.pointer none,.pointer none,.pointer none] 344)) (fun _ _ h=>h) 1
  have hb:=heap_alloc_new (w.alloc (.cells #[.slice none 0 0,.int .i64 0] 203)) (.cells #[.pointer none,.pointer none,.pointer none,.pointer none,.pointer none] 344)
  rw[hs1] at hb hv2
  refine⟨fun _=>0,fun _=>0,gJ (gJ (fun _=>0) w.heap.size 2) (w.heap.size+1) 1,_,⟨fun x hx=>?_,((Keeps.refl _ w).alloc _).alloc _,hb,JC (Nat.le_refl _),fun s' hs'=>by omega,fun s' hs'=>by omega,fun s' hs'=>by omega⟩,by rw[mO];exact hv2⟩
  rw[yt (by omega),yt hx]
 rw[← mO]
 clear mO
 go_wp2_with fail
 generalize World.alloc _ _=wM at *
 generalize w.heap.size+1=bm at *
 go_loopw [16] (fun i wr=>∃ s:Nat,s≤2∧i=.int .i64 s∧Gy w bo bm ks s wr) (fun i _=>2 - (intOf i).toNat)
 case atStart=>exact⟨0,by omega,rfl,Cc⟩
 case round =>
  obtain⟨s,hs,rfl,bi,bp,lab,vo,hX,hV⟩:=hrel
  clear Cc
  obtain⟨wo,rfl⟩:∃ wo:World,wo=wr:=⟨_,rfl⟩
  by_cases hlt:s<2
  ·go_wp2_with fail
   refine (BJ _).mono ?_
   rintro e w2 ⟨rfl,rfl⟩
   go_wp2_with fail
   refine (BJ _).mono ?_
   rintro e w3 ⟨rfl,rfl⟩
   have hI0:JD w bo wo.heap.size ((wo.alloc (.cells #[.slice none 0 0,.int .i64 0] 203)).heap.size) bm bi bp ks s 0 ((wo.alloc (.cells #[.slice none 0 0,.int .i64 0] 203)).alloc (.cells #[.slice none 0 0,.int .i64 0] 203)):=by
    have k1:=(Keeps.refl (fun _=>False) wo).alloc (.cells #[.slice none 0 0,.int .i64 0] 203)
    have k2:=(Keeps.refl (fun _=>False) (wo.alloc (.cells #[.slice none 0 0,.int .i64 0] 203))).alloc (.cells #[.slice none 0 0,.int .i64 0] 203)
    have hV2:=(hV.aP k1 (fun _ _ h=>h) 7).aP k2 (fun _ _ h=>h) 8
    have hz:(if s=0 then dY (ks.take 0) else dY ks)=(if s=0 then [] else dY ks):=by split <;> rfl
    refine⟨_,vo,_,_,(hX.aP k1 hs (fun _ _ _ h=>h) 7).aP k2 hs (fun _ _ _ h=>h) 8,by rw[hz];exact hV2,(jX.new wo lab 7).aP k2 (fun _ _ h=>h) 8,jX.new _ _ 8⟩
   obtain⟨b7,JE⟩:∃ b7,b7=wo.heap.size:=⟨_,rfl⟩
   obtain⟨b8,UL⟩:∃ b8,b8=(wo.alloc (.cells #[.slice none 0 0,.int .i64 0] 203)).heap.size:=⟨_,rfl⟩
   rw[← JE,← UL] at hI0
   rw[← JE,← UL]
   clear JE UL hX hV
   generalize World.alloc _ _=wN at *
   have hkN:Keeps (fun _=>False) w wN:=by obtain⟨_,_,_,_,hX,_⟩:=hI0;exact hX.keeps
   have ZK:=HL.out.1 wN hkN
   clear hkN
   go_wp2_with fail
   refine ZK.mono ?_
   rintro e w4 ⟨rfl,rfl⟩
   clear ZK
   go_wp2_with fail
   go_loopw [23] (fun i wr=>∃ k:Nat,k≤ks.length∧i=.int .i64 k∧JD w bo b7 b8 bm bi bp ks s k wr) (fun i _=>ks.length - (intOf i).toNat)
   case atStart=>exact⟨0,Nat.zero_le _,rfl,hI0⟩
   case round =>
    obtain⟨i,hi,rfl,lab,vo,vi,vw,hX,hO,hI,hW⟩:=hrel
    clear hI0
    by_cases hlt2:i<ks.length
    ·have hk:=List.getElem?_eq_getElem hlt2
     have hk4:=h4 _ (List.mem_of_getElem? hk)
     generalize ks[i]=k at *
     have hAt:=HL.out.2 wr i k hX.keeps hk
     have hz:(1 - (k:Int) % 2 == 0)=!(k % 2 == 0):=by
      rw[Bool.eq_iff_iff];simp;omega
     have hz2:(k % 2 == 0)=!(1 - (k:Int) % 2 == 0):=by rw[hz,Bool.not_not]
     have t1:=qiv hk
     have t2:=qnj s hk
     have HK:=ah (aj hk (aj t1 (aj t2 (aj hz2 HO.out))))
     clear hk hz hz2 t1 t2
     obtain⟨z,hzz⟩:∃ z:Int,z=1 - (k:Int) % 2:=⟨_,rfl⟩
     have zf:1 - (k:Int) % 2=z:=hzz.symm
     rw[zf] at HK
     clear hzz
     by_cases h0:s=0 <;> by_cases h1:k / 2=s
     ·have ts:((s:Int) == 0)=true:=by rw[beq_iff_eq];omega
      have tk:((k:Int) / 2 != (s:Int))=false:=by simp only [bne_eq_false_iff_eq];omega
      rw[if_pos h0] at hO
      have hk3:(k:Int)≤3:=by omega
      have H0:=ah (aj h0 h1)
      clear h0 h1
      go_wp2_with fail
      refine hAt.mono ?_
      rintro e w5 ⟨rfl,rfl⟩
      clear hAt
      have hA1:=Ec hO (z) (k % 2 == 0) (by exact HK.out.2.2.2.1) (Nat.lt_of_le_of_lt (HK.out.2.2.2.2.2.2 _) (by omega))
      go_wp2_with fail
      refine hA1.mono ?_
      rintro e Ba ⟨rfl,vO1,hN1,hK1⟩
      have hI1:=hI.aP hK1 (fun x hx e=>by omega) 2
      have hW1:=hW.aP hK1 (fun x hx e=>by omega) 2
      have hX1:=hX.aP hK1 hs (fun x hx hx2 e=>by omega) 2
      clear hA1
      have hA2:=Ec hI1 (1) true (by rfl) (Nat.lt_of_le_of_lt (HK.out.2.2.2.2.2.1 _ _) (by omega))
      go_wp2_with fail
      refine hA2.mono ?_
      rintro e u7 ⟨rfl,vI2,mQ,hK2⟩
      have hO2:=hN1.aP hK2 (fun x hx e=>by omega) 7
      have hW2:=hW1.aP hK2 (fun x hx e=>by omega) 7
      have hX2:=hX1.aP hK2 hs (fun x hx hx2 e=>by omega) 7
      clear hA2
      have hA3:=Ec hW2 (z) (k % 2 == 0) (by exact HK.out.2.2.2.1) (Nat.lt_of_le_of_lt (HK.out.2.2.2.2.1 _ _) (by omega))
      go_wp2_with fail
      refine hA3.mono ?_
      rintro e UM ⟨rfl,vW3,Ce,hK3⟩
      have hO3:=hO2.aP hK3 (fun x hx e=>by omega) 8
      have FR:=mQ.aP hK3 (fun x hx e=>by omega) 8
      have Ed:=hX2.aP hK3 hs (fun x hx hx2 e=>by omega) 8
      clear hA3
      have hfin:JD w bo b7 b8 bm bi bp ks s (i+1) UM:=⟨_,_,_,_,Ed,by rw[if_pos H0.out.1,HK.out.2.1];exact hO3,by rw[HK.out.2.2.1,show (k / 2 == s)=true by rw[beq_iff_eq];exact H0.out.2];exact FR,by rw[ZI HK.out.1 H0.out.2];exact Ce⟩
      have HF:=ah hfin
      clear hfin Ed hO3 FR Ce zf
      go_wp2
      go_roundw
      case rel=>exact⟨i+1,by omega,by go_num,HF.out⟩
      case measure=>simp[intOf];omega
     ·have ts:((s:Int) == 0)=true:=by rw[beq_iff_eq];omega
      have tk:((k:Int) / 2 != (s:Int))=true:=by simp only [bne_iff_ne];omega
      rw[if_pos h0] at hO
      have hk3:(k:Int)≤3:=by omega
      have H0:=ah (aj h0 h1)
      clear h0 h1
      go_wp2_with fail
      refine hAt.mono ?_
      rintro e w5 ⟨rfl,rfl⟩
      clear hAt
      have hA1:=Ec hO (z) (k % 2 == 0) (by exact HK.out.2.2.2.1) (Nat.lt_of_le_of_lt (HK.out.2.2.2.2.2.2 _) (by omega))
      go_wp2_with fail
      refine hA1.mono ?_
      rintro e Ba ⟨rfl,vO1,hN1,hK1⟩
      have hI1:=hI.aP hK1 (fun x hx e=>by omega) 2
      have hW1:=hW.aP hK1 (fun x hx e=>by omega) 2
      have hX1:=hX.aP hK1 hs (fun x hx hx2 e=>by omega) 2
      clear hA1
      have hA2:=Ec hI1 (0) false (by rfl) (Nat.lt_of_le_of_lt (HK.out.2.2.2.2.2.1 _ _) (by omega))
      go_wp2_with fail
      refine hA2.mono ?_
      rintro e u7 ⟨rfl,vI2,mQ,hK2⟩
      have hO2:=hN1.aP hK2 (fun x hx e=>by omega) 7
      have hW2:=hW1.aP hK2 (fun x hx e=>by omega) 7
      have hX2:=hX1.aP hK2 hs (fun x hx hx2 e=>by omega) 7
      clear hA2
      have hfin:JD w bo b7 b8 bm bi bp ks s (i+1) u7:=⟨_,_,_,_,hX2,by rw[if_pos H0.out.1,HK.out.2.1];exact hO2,by rw[HK.out.2.2.1,show (k / 2 == s)=false by rw[beq_eq_false_iff_ne];exact H0.out.2];exact mQ,by rw[ZJ HK.out.1 H0.out.2];exact hW2⟩
      have HF:=ah hfin
      clear hfin hX2 hO2 mQ hW2 zf
      go_wp2
      go_roundw
      case rel=>exact⟨i+1,by omega,by go_num,HF.out⟩
      case measure=>simp[intOf];omega
     ·have ts:((s:Int) == 0)=false:=by rw[beq_eq_false_iff_ne];omega
      have tk:((k:Int) / 2 != (s:Int))=false:=by simp only [bne_eq_false_iff_eq];omega
      rw[if_neg h0] at hO
      have hk3:(k:Int)≤3:=by omega
      have H0:=ah (aj h0 h1)
      clear h0 h1
      go_wp2_with fail
      refine hAt.mono ?_
      rintro e w5 ⟨rfl,rfl⟩
      clear hAt
      have hA1:=Ec hI (1) true (by rfl) (Nat.lt_of_le_of_lt (HK.out.2.2.2.2.2.1 _ _) (by omega))
      go_wp2_with fail
      refine hA1.mono ?_
      rintro e Ba ⟨rfl,vI1,hN1,hK1⟩
      have zh:=hO.aP hK1 (fun x hx e=>by omega) 7
      have hW1:=hW.aP hK1 (fun x hx e=>by omega) 7
      have hX1:=hX.aP hK1 hs (fun x hx hx2 e=>by omega) 7
      clear hA1
      have hA2:=Ec hW1 (z) (k % 2 == 0) (by exact HK.out.2.2.2.1) (Nat.lt_of_le_of_lt (HK.out.2.2.2.2.1 _ _) (by omega))
      go_wp2_with fail
      refine hA2.mono ?_
      rintro e u7 ⟨rfl,vW2,mQ,hK2⟩
      have hO2:=zh.aP hK2 (fun x hx e=>by omega) 8
      have hI2:=hN1.aP hK2 (fun x hx e=>by omega) 8
      have hX2:=hX1.aP hK2 hs (fun x hx hx2 e=>by omega) 8
      clear hA2
      have hfin:JD w bo b7 b8 bm bi bp ks s (i+1) u7:=⟨_,_,_,_,hX2,by rw[if_neg H0.out.1];exact hO2,by rw[HK.out.2.2.1,show (k / 2 == s)=true by rw[beq_iff_eq];exact H0.out.2];exact hI2,by rw[ZI HK.out.1 H0.out.2];exact mQ⟩
      have HF:=ah hfin
      clear hfin hX2 hO2 hI2 mQ zf
      go_wp2
      go_roundw
      case rel=>exact⟨i+1,by omega,by go_num,HF.out⟩
      case measure=>simp[intOf];omega
     ·have ts:((s:Int) == 0)=false:=by rw[beq_eq_false_iff_ne];omega
      have tk:((k:Int) / 2 != (s:Int))=true:=by simp only [bne_iff_ne];omega
      rw[if_neg h0] at hO
      have hk3:(k:Int)≤3:=by omega
      have H0:=ah (aj h0 h1)
      clear h0 h1
      go_wp2_with fail
      refine hAt.mono ?_
      rintro e w5 ⟨rfl,rfl⟩
      clear hAt
      have hA1:=Ec hI (0) false (by rfl) (Nat.lt_of_le_of_lt (HK.out.2.2.2.2.2.1 _ _) (by omega))
      go_wp2_with fail
      refine hA1.mono ?_
      rintro e Ba ⟨rfl,vI1,hN1,hK1⟩
      have zh:=hO.aP hK1 (fun x hx e=>by omega) 7
      have hW1:=hW.aP hK1 (fun x hx e=>by omega) 7
      have hX1:=hX.aP hK1 hs (fun x hx hx2 e=>by omega) 7
      clear hA1
      have hfin:JD w bo b7 b8 bm bi bp ks s (i+1) Ba:=⟨_,_,_,_,hX1,by rw[if_neg H0.out.1];exact zh,by rw[HK.out.2.2.1,show (k / 2 == s)=false by rw[beq_eq_false_iff_ne];exact H0.out.2];exact hN1,by rw[ZJ HK.out.1 H0.out.2];exact hW1⟩
      have HF:=ah hfin
      clear hfin hX1 zh hN1 hW1 zf
      go_wp2
      go_roundw
      case rel=>exact⟨i+1,by omega,by go_num,HF.out⟩
      case measure=>simp[intOf];omega
    ·obtain rfl:ks.length=i:=by omega
     rw[List.take_of_length_le (Nat.le_refl _)] at hO hI hW
     have hO2:jX wr lab 2 bo vo (dY ks):=by split at hO <;> exact hO
     clear hO
     by_cases hB:Bal (ownB s ks)
     ·have hN:=qec b8 vw (ownB s ks) wr hW.1 (Nat.le_trans (Gu s ks) hl) hB
      have HB:=ah hB
      clear hB
      go_wp2_with fail
      refine hN.mono ?_
      rintro e w5 ⟨y,rfl,ZL,hk5⟩
      have UN:=hX.aP hk5 hs (fun _ _ _ h=>h) (5+s)
      have Bc:=hO2.aP hk5 (fun _ _ h=>h) (5+s)
      have Jy:=hI.aP hk5 (fun _ _ h=>h) (5+s)
      have LD:wU w5 (gJ lab wr.heap.size (5+s)) (5+s) y (ownB s ks):=⟨_,ZL,fun x hx=>JC hx.1⟩
      have hR:=fun n=>TM b7 vi (nU s ks) (w5.drewN n) (Jy.1.keeps ((Keeps.refl (fun _=>False) w5).drewN n) (fun h=>h) (fun _ _ h=>h)) (by rw[Gt];exact hl)
      have hR0:=hR 1
      clear hN hX hO2 hI hW ZL hk5
      have c1:w5.cell? ⟨bm,1+s * 2,none⟩=(wV bi bp s)[1+s * 2]?:=ak UN.blk _
      have HH:=ah (aj UN (aj Bc LD))
      clear UN Bc LD c1 hR
      have hs0:(0:Int)≤(s:Int):=by omega
      have hs1:(s:Int)<2:=by omega
      have hR0:Calls Tryz.prog 250 #[.pointer (some ⟨b7,0,none⟩)] w5.drew fun e w'=>∃ b,e=.returned (.pointer (some ⟨b,0,none⟩))∧bL w' b (nU s ks) false 0 (fun k=>w5.heap.size≤k∧k<w'.heap.size)∧Keeps (fun _=>False) w5.drew w':=hR0
      go_wp2_with fail
      go_region_held3 (fun _=>True) (trivial) ((go_at_call 250;refine hR0.mono ?_;rintro e W ⟨z,rfl,ZM,hkz⟩;have hb6:=(hkz.at HH.out.1.blk (fun h=>h):W.heap[bm]? = some (.cells (wV bi bp s) 344 (0,0)));obtain⟨u1,u2,hu1,hu2⟩:=qh3 bi bp s hlt;have d1:=((ak hb6 (1+s * 2)).trans hu1:W.cell? ⟨bm,1+s * 2,none⟩=some u1);have d2:=((ak hb6 (1+s * 2+1)).trans hu2:W.cell? ⟨bm,1+s * 2+1,none⟩=some u2);have f1:=au hb6 (1+s * 2);have f2:=au hb6 (1+s * 2+1)))
      have hst:=yu.step hlt HH.out.1 HB.out HH.out.2.2 HH.out.2.1 ZM (((Keeps.refl (fun _=>False) w5).drew).trans hkz (fun _ _ h=>h))
      obtain⟨lab',wO,mY⟩:=hst
      have hout:Gy w bo bm ks (s+1) ((W.setCell ⟨bm,1+s * 2,none⟩ (.pointer (some ⟨z,0,none⟩))).setCell ⟨bm,1+s * 2+1,none⟩ (.pointer (some ⟨y,0,none⟩))):=⟨_,_,lab',vo,wO,by rw[if_neg (by omega)];exact mY⟩
      have HS:=ah hout
      clear wO mY hout ZM hkz hb6 hu1 hu2 d1 d2 f1 f2 hR0
      go_wp2
      go_roundw
      case rel=>exact⟨s+1,by omega,by go_num,HS.out⟩
      case measure=>simp[intOf];omega
     ·have hN:=qh0 b8 vw (ownB s ks) wr hW.1 (Nat.le_trans (Gu s ks) hl) hB
      have hfin:¬ iQ ks∧Keeps (fun _=>False) w wr:=⟨fun h=>hB (h.get hlt),hX.keeps⟩
      have HF:=ah hfin
      clear hB hX hO2 hI hW hfin
      go_wp2_with fail
      refine hN.mono ?_
      rintro e w5 ⟨rfl,rfl⟩
      clear hN
      go_wp2
      go_ret2
      exact .inr ⟨HF.out.1,rfl,HF.out.2⟩
  ·obtain rfl:2=s:=by omega
   rw[if_neg (by omega)] at hV
   have hR:=TM bo vo (dY ks) wo hV.1 (by rw[q32];exact hl)
   have HX:=ah hX
   have hbw:wo.heap[bm]? = some (.cells (wV bi bp 2) 344 (0,0)):=hX.blk
   have HB:=ah hbw
   clear hX hV hbw
   go_wp2_with fail
   refine hR.mono ?_
   rintro e W ⟨z,rfl,hI,hk⟩
   have hb6:W.heap[bm]? = some (.cells (wV bi bp 2) 344 (0,0)):=hk.at HB.out (fun h=>h)
   have d1:W.cell? ⟨bm,0,none⟩=some (.pointer none):=ak hb6 0
   have f1:=au hb6 0
   have hF:=yu.fin h4 hl HX.out hI hk
   have HF:=ah hF
   clear hF hI hk hb6 hR
   go_wp2
   go_ret2
   exact .inl ⟨HF.out.1,bm,z,bi,bp,rfl,HF.out.2.1,HF.out.2.2⟩
end
section
open Go.RowKit
def uy(w:World)(b:Nat)(ks:List Nat)(wr:World):Prop:=∃ v,bW wr b v ks∧w.heap.size≤b∧(∀ k,v.ownBlock=some k→w.heap.size≤k)∧Keeps (fun _=>False) w wr
theorem uy.grown{w wr w1:World}{b:Nat}{ks':List Nat}{v:Value}(hb:w.heap.size≤b)(hv:∀ k,v.ownBlock=some k→w.heap.size≤k)(hk:Keeps (fun _=>False) w wr)(h:eG wr b v ks' w1):uy w b ks' w1:=by
 obtain⟨v1,h1,h2,h3⟩:=h
 refine⟨v1,h1,hb,fun k hk'=>?_,hk.trans h2 (fun x hx e=>?_)⟩
 ·rcases h3 with h3|⟨k',h3,hk''⟩
  ·rw[h3] at hk';exact hv k hk'
  ·rw[h3] at hk';cases hk';exact Nat.le_trans hk.size hk''
 ·rcases e with rfl|e
  ·omega
  ·have:=hv x e;omega
end
