import Derived.Deep.RegionHeld3
import Derived.OpenShut
import Derived.Test.YtcfdpogegngplaaGreatZg00
set_option maxRecDepth 100000
set_option maxHeartbeats 4000000
namespace Go.Proofs.YtcfdpogegngplaaGreat
section
open Go.RowKit
theorem qnd:(Tryz.prog.info? 49).map (fun i=>(i.zero,i.size,i.bytes))=some (some (.int .u32 0),1,4):=by kernel_rfl
def ahead(l:List Bool):List Nat:=(List.range ((l.length+511) / 512+1)).map fun b=>cnt (l.take (512 * b))
def AX(bv:Nat)(done:Bool)(lock:Int)(av:Value)(built asked:Int):Array Value :=
 #[.pointer (some ⟨bv,0,none⟩),.int .u32 (if done then 1 else 0),.int .i32 lock,.int .u32 0,av,.int .i64 built,.int .i64 asked]
def KO(w:World)(done:Bool)(av:Value)(l:List Bool):Prop :=
 if done then w.ownsRow 0 49 1 av (ahead l).length ((ahead l).map fun x:Nat=>Value.int .u32 x) else av=.slice none 0 0
structure bL (w:World)(b:Nat)(l:List Bool)(done:Bool)(asked:Nat)(F:Nat→Prop):Prop where
 ex:∃ bv v av,w.heap[b]? = some (.cells (AX bv done 0 av (if done then 1 else 0) asked) 355 (0,0))∧aK w bv v l∧KO w done av l ∧
  F b∧F bv∧(∀ k,v.ownBlock=some k→F k)∧(∀ k,av.ownBlock=some k→F k)
 le:l.length≤100000000
 old:∀ k,F k→k<w.heap.size
theorem TM(b2:Nat)(v2:Value)(l2:List Bool)(w:World)(h2:aK w b2 v2 l2)(hl:l2.length≤100000000) :
  Calls Tryz.prog 250 #[.pointer (some ⟨b2,0,none⟩)] w fun e w'=>∃ b,e=.returned (.pointer (some ⟨b,0,none⟩))∧bL w' b l2 false 0 (fun k=>w.heap.size≤k∧k<w'.heap.size)∧Keeps (fun _=>False) w w':=by
 have hb2:=h2.lt
 have hJ:=ql9 w.heap.size (.slice none 0 0) [] b2 v2 l2 (w.alloc (.cells #[.slice none 0 0,.int .i64 0] 203)) (FN w) (h2.keeps ((Keeps.refl (fun _=>False) w).alloc _) (fun h=>h) (fun _ _ h=>h))
  (by omega) (by simp[Value.ownBlock]) (fun h=>by have:=(h2.apart _ h).2;omega) (fun _ _ h=>by simp[Value.ownBlock] at h) (by simp;omega)
 have HJ:=ah hJ
 clear hJ h2
 go_enter Tryz.func250,Tryz.ntmps250
 go_wp2_with (first | (go_at_call 139;refine (BJ _).mono ?_;rintro e w' ⟨rfl,rfl⟩) | (go_at_call 167;refine HJ.out.mono ?_;rintro e w1 ⟨rfl,hw1⟩))
 go_ret
 obtain⟨v1,hv1,hk1,hf1⟩:=hw1
 have k1:Keeps (fun _=>False) w w1:=((Keeps.refl _ w).alloc _).trans hk1 (by
  rintro x hx (rfl|hx2)
  ·omega
  ·simp[Value.ownBlock] at hx2)
 have hs1:=hk1.size
 simp at hs1
 have k2:=(Keeps.refl (fun _=>False) w1).alloc (.cells (AX w.heap.size false 0 (.slice none 0 0) 0 0) 355)
 have hv2:=hv1.keeps k2 (fun h=>h) (fun _ _ h=>h)
 refine⟨w1.heap.size,rfl,⟨⟨w.heap.size,v1,.slice none 0 0,heap_alloc_new w1 _,hv2,rfl,?_,?_,?_,?_⟩,hl,fun k hk=>hk.2⟩,k1.alloc _⟩
 ·simp;omega
 ·simp;omega
 ·intro k hk
  have hlt:=(hv1.apart k hk).2
  rcases hf1 with h|⟨k',h,hge⟩
  ·rw[h] at hk;simp[Value.ownBlock] at hk
  ·rw[h] at hk;cases hk;simp at hge;simp;omega
 ·intro k hk;simp[Value.ownBlock] at hk
def uh(l:List Bool)(k:Nat):List Nat:=(List.range ((k+511) / 512)).map fun b=>cnt (l.take (512 * b))
theorem qe6(l:List Bool)(k:Nat)(h:k % 512=0):uh l (k+1)=uh l k ++ [cnt (l.take k)]:=by
 unfold uh
 rw[show (k+1+511) / 512=(k+511) / 512+1 by omega,List.range_succ,List.map_append,List.map_singleton,show 512 * ((k+511) / 512)=k by omega]
theorem qbx(l:List Bool)(k:Nat)(h:¬ k % 512=0):uh l (k+1)=uh l k:=by
 unfold uh
 rw[show (k+1+511) / 512=(k+511) / 512 by omega]
theorem qby(l:List Bool):ahead l=uh l l.length ++ [cnt l]:=by
 unfold uh ahead
 rw[List.range_succ,List.map_append,List.map_singleton,List.take_of_length_le (l:=l) (by omega)]
theorem q9l(l:List Bool)(k:Nat):(uh l k).length=(k+511) / 512:=by simp[uh]
theorem TN(l:List Bool)(k:Nat)(h:k<l.length):cnt (l.take (k+1))=cnt (l.take k)+(l.getD k false).toNat:=by
 rw[YN l k h,Qk];simp[cnt]
def jU(w:World)(b bv:Nat)(v:Value)(l:List Bool)(asked:Int)(d:List Nat)(w':World):Prop :=
 ∃ av,w'.heap[b]? = some (.cells (AX bv false 1 av 1 asked) 355 (0,0))∧aK w' bv v l ∧
  w'.ownsRow 0 49 1 av d.length (d.map fun x:Nat=>Value.int .u32 x)∧(∀ k,av.ownBlock=some k→w.heap.size≤k)∧Keeps (fun k=>k=b) w w'
theorem jU.step{w:World}{b bv:Nat}{v:Value}{l:List Bool}{asked:Int}{d:List Nat}{wr w1:World}{av:Value}{o:Obj}{x g cap:Nat}
  (h1:wr.heap[b]? = some (.cells (AX bv false 1 av 1 asked) 355 (0,0)))(hv:aK wr bv v l)(mO:v.ownBlock≠some b)(jS:∀ k,av.ownBlock=some k→w.heap.size≤k)(hbw:b<w.heap.size)
  (hvw:bv<w.heap.size)(o8:∀ k,v.ownBlock=some k→k<w.heap.size)(hk:Keeps (fun k=>k=b) w wr)
  (hown:w1.ownsRow 0 49 1 (.slice (some ⟨g,0,none⟩) (d.length+1) cap) (d.length+1) ((d.map fun x:Nat=>Value.int .u32 x) ++ [.int .u32 x]))
  (hgrow:(wr.alloc o).grownBy w1 av.ownBlock)(hat:av.ownBlock=some g∨g=wr.heap.size+1) :
  jU w b bv v l asked (d ++ [x]) (w1.setCell ⟨b,4,none⟩ (.slice (some ⟨g,0,none⟩) (d.length+1) cap)):=by
 have hsz:=hk.size
 have hg:w.heap.size≤g:=by
  rcases hat with h|h
  ·exact jS g h
  ·omega
 have k1:Keeps (fun k=>av.ownBlock=some k) wr w1:=((Keeps.refl _ wr).alloc _).grown hgrow (fun k hk=>.inl hk)
 have hb1:=k1.at h1 (fun h=>by have:=jS b h;omega)
 have hbv:bv≠b:=by
  rintro rfl
  have:=hv.1
  rw[h1] at this
  simp at this
 have hv1:=hv.keeps k1 (fun h=>by have:=jS bv h;omega) (fun k hk h=>by have:=jS k h;have:=o8 k hk;omega)
 have hv2:=hv1.keeps ((Keeps.refl (fun k=>k=b) w1).setCell (p:=⟨b,4,none⟩) (.inl rfl) (.slice (some ⟨g,0,none⟩) (d.length+1) cap)) hbv (fun k hk h=>mO (by rw[← h];exact hk))
 refine⟨_,dM hb1 4 _,hv2,?_,?_,?_⟩
 ·have:=ownsRow_setCell_other hown (a:=⟨b,4,none⟩) (by simp[Value.ownBlock];omega) (.slice (some ⟨g,0,none⟩) (d.length+1) cap)
  simpa using this
 ·intro k hk
  simp[Value.ownBlock] at hk
  omega
 ·exact (hk.trans k1 (fun x hx h=>by have:=jS x h;omega)).setCell (.inl rfl) _
theorem qbz(b bv:Nat)(v:Value)(l:List Bool)(asked:Int)(w:World)(h:w.heap[b]? = some (.cells (AX bv false 1 (.slice none 0 0) 0 asked) 355 (0,0)))
  (hv:aK w bv v l)(hl:l.length≤100000000)(mO:v.ownBlock≠some b) :
  Calls Tryz.prog 298 #[.pointer (some ⟨b,0,none⟩)] w fun e w'=>e=.returned (.tuple #[])∧jU w b bv v l asked (ahead l) w':=by
 have hbw:=lt_of_block h
 have hvw:=hv.lt
 have o8:=fun k hk=>(hv.apart k hk).2
 have c5:w.cell? ⟨b,5,none⟩=some (.int .i64 0):=ak h 5
 have f5:=au h 5
 have hbv:bv≠b:=by
  rintro rfl
  have:=hv.1
  rw[h] at this
  simp at this
 have hadd:=yP ⟨b,5,none⟩ 0 1 w c5 f5 (by omega)
 have h1:(w.setCell ⟨b,5,none⟩ (.int .i64 1)).heap[b]? = some (.cells (AX bv false 1 (.slice none 0 0) 1 asked) 355 (0,0)):=dM h 5 _
 have k1:Keeps (fun k=>k=b) w (w.setCell ⟨b,5,none⟩ (.int .i64 1)):=(Keeps.refl (fun k=>k=b) w).setCell (p:=⟨b,5,none⟩) (.inl rfl) _
 have hv1:=hv.keeps k1 hbv (fun k hk h=>mO (by rw[← h];exact hk))
 have hM:jU w b bv v l asked [] (w.setCell ⟨b,5,none⟩ (.int .i64 1)):=⟨_,h1,hv1,World.ownsRow_nil _ _ _ _,fun k hk=>by simp[Value.ownBlock] at hk,k1⟩
 have c0:(w.setCell ⟨b,5,none⟩ (.int .i64 1)).cell? ⟨b,0,none⟩=some (.pointer (some ⟨bv,0,none⟩)):=ak h1 0
 have hlen:=rY bv v l _ hv1
 obtain⟨i,hi,hz0,hz1,hz2⟩:=info_parts qnd
 clear c5 f5 k1 hv1 h1 h hv
 rw[show (0:Int)+1=1 from rfl] at hadd
 generalize hw0:w.setCell ⟨b,5,none⟩ (.int .i64 1)=w0 at *
 clear hw0
 go_enter Tryz.func298,Tryz.ntmps298
 go_wp2_with (first | (go_at_call 292;refine hadd.mono ?_;rintro e w' ⟨rfl,rfl⟩) | (go_at_call 99;refine hlen.mono ?_;rintro e w' ⟨rfl,rfl⟩))
 clear hadd hlen c0
 go_loopw [2,13] (fun n i wr=>∃ k:Nat,k≤l.length∧i=.int .i64 k∧n=.int .u32 (cnt (l.take k))∧jU w b bv v l asked (uh l k) wr) (fun _ i _=>l.length - (intOf i).toNat)
 case atStart=>exact⟨0,Nat.zero_le _,rfl,rfl,hM⟩
 case round =>
  obtain⟨k,hk,rfl,rfl,hM⟩:=hrel
  obtain⟨av,hb1,hv1,hown,jS,aT⟩:=hM
  have hcl:=DY (l.take k)
  have kQ:(l.take k).length≤k:=List.length_take_le _ _
  have hp:cnt (l.take k)≤100000000:=by omega
  have hal:=q9l l k
  have hsw:=aT.size
  by_cases hlt:k<l.length
  ·have hcs:=TN l k hlt
   have hy:(l.getD k false).toNat≤1:=by cases l.getD k false <;> simp
   by_cases hm:k % 512=0
   ·have ht:((k:Int) % 512 == 0)=true:=by simp;omega
    have hah:=qe6 l k hm
    have HH:=ah (aj hah (aj hcs hm))
    have HB:=ah hb1
    have c4:wr.cell? ⟨b,4,none⟩=some av:=ak hb1 4
    have hlen:(uh l k).length≤1000000:=by omega
    clear hah hcs hm hb1 hal hcl kQ
    go_wp2_with (at_builtin;refine wpList_append_lies _ rfl _ _ _ rfl 0 49 i (.int .u32 0) 1 4 Tryz.underlying353 hi hz0 hz1 hz2 rfl (by decide) av (uh l k).length _ rfl (hown.alloc _) ⟨wr.heap.size,0,none⟩ 1 1 [.int .u32 (cnt (l.take k):Nat)] rfl rfl (cell_one_new _ _ _) ?c2 (by decide) ?c3 ?c4 ?c5 (wr.heap.size+1) (by simp) ?_)
    case c2=>intro u hu;simp at hu;subst hu;rfl
    case c3=>unfold maxLen;omega
    case c4=>omega
    case c5=>simp
    intro g cap w1 hown1 hgrow hat hgl
    have hM2:=jU.step HB.out hv1 mO jS hbw hvw o8 aT hown1 hgrow hat
    obtain⟨av2,hb2,hv2,hown2,yQ,jM⟩:=hM2
    have k1:Keeps (fun k=>av.ownBlock=some k) wr w1:=((Keeps.refl _ wr).alloc _).grown hgrow (fun k hk=>.inl hk)
    have hb3:=k1.at HB.out (fun h=>by have:=jS b h;omega)
    have d4:w1.cell? ⟨b,4,none⟩=some av:=ak hb3 4
    have d0:w1.cell? ⟨b,0,none⟩=some (.pointer (some ⟨bv,0,none⟩)):=ak hb3 0
    have f4:=au hb3 4
    have hA:=lD bv v l k _ hv2 hlt (by omega)
    have HM:=ah (aj hb2 (aj hv2 (aj hown2 (aj yQ jM))))
    clear hb2 hv2 hown2 yQ jM k1 hb3 hown1 hgrow hat hown c4
    generalize (l.getD k false).toNat=y at *
    go_wp2_with (go_at_call 195;refine hA.mono ?_;rintro e w2 ⟨rfl,rfl⟩)
    go_roundw
    case rel=>exact⟨k+1,by omega,by go_num,by rw[HH.out.2.1];go_num,by rw[HH.out.1];exact⟨_,HM.out⟩⟩
    case measure=>simp[intOf];omega
   ·have ht:((k:Int) % 512 == 0)=false:=by simp;omega
    have hah:=qbx l k hm
    have HH:=ah (aj hah (aj hcs hm))
    have d0:wr.cell? ⟨b,0,none⟩=some (.pointer (some ⟨bv,0,none⟩)):=ak hb1 0
    have hA:=lD bv v l k _ hv1 hlt (by omega)
    have HM:=ah (aj hb1 (aj hv1 (aj hown (aj jS aT))))
    clear hah hcs hm hb1 hal hcl kQ hv1 hown jS aT
    generalize (l.getD k false).toNat=y at *
    go_wp2_with (go_at_call 195;refine hA.mono ?_;rintro e w2 ⟨rfl,rfl⟩)
    go_roundw
    case rel=>exact⟨k+1,by omega,by go_num,by rw[HH.out.2.1];go_num,by rw[HH.out.1];exact⟨_,HM.out⟩⟩
    case measure=>simp[intOf];omega
  ·obtain rfl:k=l.length:=by omega
   have YP:l.take l.length=l:=List.take_of_length_le (Nat.le_refl _)
   rw[YP] at hp ⊢
   have HL:=ah (qby l)
   have HB:=ah hb1
   have c4:wr.cell? ⟨b,4,none⟩=some av:=ak hb1 4
   have hlen:(uh l l.length).length≤1000000:=by omega
   clear YP hal hcl kQ hb1
   go_wp2_with (at_builtin;refine wpList_append_lies _ rfl _ _ _ rfl 0 49 i (.int .u32 0) 1 4 Tryz.underlying353 hi hz0 hz1 hz2 rfl (by decide) av (uh l l.length).length _ rfl (hown.alloc _) ⟨wr.heap.size,0,none⟩ 1 1 [.int .u32 (cnt l:Nat)] rfl rfl (cell_one_new _ _ _) ?d2 (by decide) ?d3 ?d4 ?d5 (wr.heap.size+1) (by simp) ?_)
   case d2=>intro u hu;simp at hu;subst hu;rfl
   case d3=>unfold maxLen;omega
   case d4=>omega
   case d5=>simp
   intro g cap w1 hown1 hgrow hat hgl
   have hM2:=jU.step HB.out hv1 mO jS hbw hvw o8 aT hown1 hgrow hat
   have k1:Keeps (fun k=>av.ownBlock=some k) wr w1:=((Keeps.refl _ wr).alloc _).grown hgrow (fun k hk=>.inl hk)
   have hb3:=k1.at HB.out (fun h=>by have:=jS b h;omega)
   have d4:w1.cell? ⟨b,4,none⟩=some av:=ak hb3 4
   have f4:=au hb3 4
   have HM:=ah hM2
   clear hM2 k1 hb3 hown1 hgrow hat hown c4
   go_wp2
   go_end0
   exact⟨rfl,by rw[HL.out];exact HM.out⟩
end
section
open Go.RowKit
def grow(F:Nat→Prop)(w w':World):Nat→Prop:=fun k=>F k∨(w.heap.size≤k∧k<w'.heap.size)
theorem qi6(b:Nat)(W:World):(callFunc 298 #[.pointer (some ⟨b,0,none⟩)]).run Tryz.prog W=.ok (.enter 298 #[.pointer (some ⟨b,0,none⟩)]) W:=by
 go_simp
theorem YQ(b:Nat)(l:List Bool)(done:Bool)(asked:Nat)(F:Nat→Prop)(w:World)(h:bL w b l done asked F) :
  Calls Tryz.prog 117 #[.pointer (some ⟨b,1,none⟩),.func (.func 298) #[.pointer (some ⟨b,0,none⟩)] #[]] w fun e w'=>e=.returned (.tuple #[])∧bL w' b l true asked (grow F w w')∧Keeps F w w':=by
 obtain⟨⟨bv,v,av,hb,hv,hd,Fb,yg,Fv,Fa⟩,hle,hold⟩:=h
 cases done with
 | true =>
  have c1:w.cell? ⟨b,1,none⟩=some (.int .u32 1):=ak hb 1
  refine (TK ⟨b,1,none⟩ _ w c1).mono ?_
  rintro e w' ⟨rfl,rfl⟩
  exact⟨rfl,⟨⟨bv,v,av,hb,hv,hd,.inl Fb,.inl yg,fun k hk=>.inl (Fv k hk),fun k hk=>.inl (Fa k hk)⟩,hle,fun k hk=>hk.elim (hold k) (fun h=>h.2)⟩,Keeps.refl _ _⟩
 | false =>
  have jS:av=.slice none 0 0:=hd
  subst jS
  have hbv:bv≠b:=by
   rintro rfl
   have:=hv.1
   rw[hb] at this
   simp at this
  have mO:v.ownBlock≠some b:=by
   intro hk
   obtain⟨_,_,h2⟩:=hv
   rcases h2 with⟨rfl,_⟩|⟨g,cap,cur,rfl,_,hg,_⟩
   ·simp[Value.ownBlock] at hk
   ·simp only [Value.ownBlock,Option.some.injEq] at hk
    subst hk
    rw[hb] at hg
    simp at hg
  have c1:w.cell? ⟨b,1,none⟩=some (.int .u32 0):=ak hb 1
  have c2:w.cell? ⟨b,1+1,none⟩=some (.int .i32 0):=ak hb 2
  have hw0:(w.setCell ⟨b,1+1,none⟩ (.int .i32 1)).heap[b]? = some (.cells (AX bv false 1 (.slice none 0 0) 0 asked) 355 (0,0)):=dM hb 2 _
  have k0:Keeps (fun k=>k=b) w (w.setCell ⟨b,1+1,none⟩ (.int .i32 1)):=(Keeps.refl (fun k=>k=b) w).setCell (p:=⟨b,1+1,none⟩) (.inl rfl) _
  have hv0:=hv.keeps k0 hbv (fun k hk h=>mO (by rw[← h];exact hk))
  have hM:=qbz b bv v l asked _ hw0 hv0 hle mO
  refine (Qo b 1 298 #[.pointer (some ⟨b,0,none⟩)] (fun w1=>jU (w.setCell ⟨b,1+1,none⟩ (.int .i32 1)) b bv v l asked (ahead l) w1) w (qi6 b) c1 c2 (au hb 2) (hM.mono ?_)).mono ?_
  ·rintro e w1 ⟨rfl,hm⟩
   have hm':=hm
   obtain⟨a1,hb1,_⟩:=hm'
   exact⟨rfl,ak hb1 1,ak hb1 2,au hb1 1,au hb1 2,hm⟩
  ·rintro e w' ⟨rfl,w1,⟨a1,hb1,hv1,ho1,ha1,k1⟩,rfl⟩
   have hb2:(w1.drew.setCell ⟨b,1,none⟩ (.int .u32 1)).heap[b]? = some (.cells (AX bv true 1 a1 1 asked) 355 (0,0)):=dM (w:=w1.drew) hb1 1 _
   have hb3:((w1.drew.setCell ⟨b,1,none⟩ (.int .u32 1)).setCell ⟨b,1+1,none⟩ (.int .i32 0)).heap[b]? = some (.cells (AX bv true 0 a1 1 asked) 355 (0,0)):=dM hb2 2 _
   have k2:Keeps (fun k=>k=b) w1 ((w1.drew.setCell ⟨b,1,none⟩ (.int .u32 1)).setCell ⟨b,1+1,none⟩ (.int .i32 0)):=((Keeps.refl (fun k=>k=b) w1).drew.setCell (p:=⟨b,1,none⟩) (.inl rfl) _).setCell (p:=⟨b,1+1,none⟩) (.inl rfl) _
   have k3:=(k0.trans k1 (fun x _ h=>h)).trans k2 (fun x _ h=>h)
   have hlt1:∀ k,a1.ownBlock=some k→w.heap.size≤k∧k<w1.heap.size:=fun k hk=>⟨by have:=ha1 k hk;simpa using this,(ho1.lt k hk).2⟩
   refine⟨rfl,⟨⟨bv,v,a1,hb3,hv1.keeps k2 hbv (fun k hk h=>mO (by rw[← h];exact hk)),?_,.inl Fb,.inl yg,fun k hk=>.inl (Fv k hk),fun k hk=>.inr ?_⟩,hle,?_⟩,k3.mono (fun x _ h=>by rw[h];exact Fb)⟩
   ·exact k2.owns ho1 (fun k hk h=>by have:=(hlt1 k hk).1;have:=hold b Fb;omega)
   ·have:=hlt1 k hk;simpa using this
   ·intro k hk
    rcases hk with hk|hk
    ·exact Nat.lt_of_lt_of_le (hold k hk) k3.size
    ·exact hk.2
theorem bL.keeps{w w':World}{b:Nat}{l:List Bool}{done:Bool}{asked:Nat}{F G:Nat→Prop}(h:bL w b l done asked F)(k:Keeps G w w')(hd:∀ x,F x→¬ G x):bL w' b l done asked F:=by
 obtain⟨⟨bv,v,av,hb,hv,wI,Fb,yg,Fv,Fa⟩,hle,hold⟩:=h
 refine⟨⟨bv,v,av,k.at hb (hd b Fb),hv.keeps k (hd bv yg) (fun x hx=>hd x (Fv x hx)),?_,Fb,yg,Fv,Fa⟩,hle,fun x hx=>Nat.lt_of_lt_of_le (hold x hx) k.size⟩
 cases done with
 | true=>exact k.owns (show w.ownsRow _ _ _ _ _ _ from wI) (fun x hx=>hd x (Fa x hx))
 | false=>exact wI
theorem bL.mono{w:World}{b:Nat}{l:List Bool}{done:Bool}{asked:Nat}{F G:Nat→Prop}(h:bL w b l done asked F)(hG:∀ x,F x→G x)(hold:∀ x,G x→x<w.heap.size):bL w b l done asked G:=by
 obtain⟨⟨bv,v,av,hb,hv,wI,Fb,yg,Fv,Fa⟩,hle,_⟩:=h
 exact⟨⟨bv,v,av,hb,hv,wI,hG _ Fb,hG _ yg,fun x hx=>hG _ (Fv x hx),fun x hx=>hG _ (Fa x hx)⟩,hle,hold⟩
def yh(bit ones all:Int):Int:=if bit=1 then ones else all - ones
theorem Qq(bit ones all:Int)(w:World)(h:-1000000000≤ones∧ones≤1000000000∧-1000000000≤all∧all≤1000000000000) :
  Calls Tryz.prog 293 #[.int .i64 bit,.int .i64 ones,.int .i64 all] w fun e w'=>e=.returned (.int .i64 (yh bit ones all))∧w=w':=by
 unfold yh
 by_cases hb:bit=1
 ·subst hb
  go_enter Tryz.func293,Tryz.ntmps293
  go_wp2
  go_ret
  exact⟨by simp,rfl⟩
 ·have ht:(bit == 1)=false:=by simp[hb]
  have HB:=ah hb
  clear hb
  go_enter Tryz.func293,Tryz.ntmps293
  go_wp2
  go_ret
  exact⟨by simp,rfl⟩
theorem bL.read{w:World}{b:Nat}{l:List Bool}{asked:Nat}{F:Nat→Prop}(h:bL w b l true asked F) :
  ∃ bv v ga cap,w.cell? ⟨b,0,none⟩=some (.pointer (some ⟨bv,0,none⟩))∧aK w bv v l∧w.cell? ⟨b,4,none⟩=some (.slice (some ⟨ga,0,none⟩) (ahead l).length cap)∧(ahead l).length≤cap∧cap≤9223372036854775807 ∧
   (ahead l).length=(l.length+511) / 512+1∧∀ k,k<(ahead l).length→w.cell? ⟨ga,k,none⟩=some (.int .u32 (cnt (l.take (512 * k)):Nat)):=by
 obtain⟨⟨bv,v,av,hb,hv,wI,_,_,_,_⟩,hle,_⟩:=h
 have hal:(ahead l).length=(l.length+511) / 512+1:=by simp[ahead]
 obtain⟨g,cap,rfl,hnc,hcm,hc,_,_⟩:=o7 (show w.ownsRow _ _ _ _ _ _ from wI) (by omega)
 refine⟨bv,v,g,cap,ak hb 0,hv,ak hb 4,hnc,by unfold maxLen at hcm;omega,hal,fun k hk=>(hc k _ ?_).1⟩
 have hk':k<(l.length+511) / 512+1:=by omega
 simp[ahead,hk']
theorem qld(b:Nat)(l:List Bool)(done:Bool)(asked:Nat)(F:Nat→Prop)(w:World)(n:Nat)(h:bL w b l done asked F)(hn:n≤l.length) :
  Calls Tryz.prog 294 #[.pointer (some ⟨b,0,none⟩),.int .i64 n] w fun e w'=>e=.returned (.int .i64 (cnt (l.take n)))∧bL w' b l true asked (grow F w w')∧Keeps F w w':=by
 have Jv:∀ (fn:Fn) (first cap:Array Value) (w:World),(Instr.makeFunc fn first cap).run Tryz.prog w=.ok (.func fn first cap) w:=fun _ _ _ _=>rfl
 have KP:=YQ b l done asked F w h
 have hle:=h.le
 clear h
 go_enter Tryz.func294,Tryz.ntmps294
 go_wp2_with (go_at_call 117;refine KP.mono ?_;rintro e w1 ⟨rfl,hI,hK⟩)
 clear KP Jv
 obtain⟨bv,v,ga,cap,c0,hv,c4,hnc,hcm,hal,hcell⟩:=hI.read
 have hkb:n / 512<(ahead l).length:=by omega
 have hck:=hcell (n / 512) hkb
 have hmin:((n / 512:Nat):Int)≤((ahead l).length:Int) - 1:=by omega
 have TP:(ahead l).length≤1000000:=by omega
 have hcl:=DY (l.take (512 * (n / 512)))
 have kQ:(l.take (512 * (n / 512))).length≤l.length:=List.length_take_le' _ _
 have BL:cnt (l.take (512 * (n / 512)))≤100000000:=by omega
 have HP:=ah (aj hI hK)
 clear hI hK hcell hal hcl kQ
 generalize (ahead l).length=m at *
 go_region
 all_goals
  go_wp2
  have hvd:aK w1.drew bv v l:=hv.keeps ((Keeps.refl (fun _=>False) w1).drew) (fun h=>h) (fun _ _ h=>h)
  have hK2:bL w1.drew b l true asked (grow F w w1.drew)∧Keeps F w w1.drew:=⟨HP.out.1.keeps ((Keeps.refl (fun _=>False) w1).drew) (fun _ _ h=>h),HP.out.2.drew⟩
  have c0d:w1.drew.cell? ⟨b,0,none⟩=some (.pointer (some ⟨bv,0,none⟩)):=c0
  have rZ:=ah hK2
  clear hK2 HP hv c0 c4 hck hnc hkb hmin TP
  generalize w1.drew=w2 at *
  go_loop [6,7] (fun s i=>∃ k:Nat,k≤n∧i=.int .i64 k∧s=.int .i64 (cnt (l.take k))) (fun _ i=>n - (intOf i).toNat)
  case atStart=>exact⟨512 * (n / 512),by omega,by go_num,rfl⟩
  case round =>
   obtain⟨k,hk,rfl,rfl⟩:=hrel
   by_cases hlt:k<n
   ·have hA:=lD bv v l k _ hvd (by omega) (by omega)
    have hcs:=TN l k (by omega)
    have hy:(l.getD k false).toNat≤1:=by cases l.getD k false <;> simp
    have hcl:=DY (l.take k)
    have kQ:(l.take k).length≤l.length:=List.length_take_le' _ _
    have hp:cnt (l.take k)≤100000000:=by omega
    have HC:=ah hcs
    clear hcs hcl kQ BL
    generalize (l.getD k false).toNat=y at *
    generalize cnt (l.take k)=p at *
    go_wp2_with (go_at_call 195;refine hA.mono ?_;rintro e w' ⟨rfl,rfl⟩)
    go_round
    case rel=>exact⟨k+1,by omega,by go_num,by rw[HC.out];go_num⟩
    case measure=>simp[intOf];omega
   ·obtain rfl:k=n:=by omega
    clear BL
    go_wp2
    go_ret
    exact⟨rfl,rZ.out⟩
theorem YR(b:Nat)(l:List Bool)(done:Bool)(asked:Nat)(F:Nat→Prop)(w:World)(h:bL w b l done asked F)(ha:asked≤1000000000000) :
  Calls Tryz.prog 292 #[.pointer (some ⟨b,6,none⟩),.int .i64 1] w fun e w'=>e=.returned (.int .i64 ((asked:Int)+1))∧bL w' b l done (asked+1) F∧Keeps F w w'∧w'.heap.size=w.heap.size:=by
 obtain⟨⟨bv,v,av,hb,hv,hd,Fb,yg,Fv,Fa⟩,hle,hold⟩:=h
 refine (yP ⟨b,6,none⟩ asked 1 w (ak hb 6) (au hb 6) (by omega)).mono ?_
 rintro e w' ⟨rfl,rfl⟩
 have hb2:(w.setCell ⟨b,6,none⟩ (.int .i64 ((asked:Int)+1))).heap[b]? = some (.cells (AX bv done 0 av (if done then 1 else 0) ((asked+1:Nat):Int)) 355 (0,0)):=dM hb 6 _
 have k1:Keeps (fun k=>k=b) w (w.setCell ⟨b,6,none⟩ (.int .i64 ((asked:Int)+1))):=(Keeps.refl (fun k=>k=b) w).setCell (p:=⟨b,6,none⟩) (.inl rfl) _
 have hbv:bv≠b:=by
  rintro rfl
  have:=hv.1
  rw[hb] at this
  simp at this
 have mO:v.ownBlock≠some b:=by
  intro hk
  obtain⟨_,_,h2⟩:=hv
  rcases h2 with⟨rfl,_⟩|⟨g,cap,cur,rfl,_,hg,_⟩
  ·simp[Value.ownBlock] at hk
  ·simp only [Value.ownBlock,Option.some.injEq] at hk
   subst hk
   rw[hb] at hg
   simp at hg
 refine⟨rfl,⟨⟨bv,v,av,hb2,hv.keeps k1 hbv (fun k hk h=>mO (by rw[← h];exact hk)),?_,Fb,yg,Fv,Fa⟩,hle,fun x hx=>by simpa using hold x hx⟩,k1.mono (fun x _ h=>by rw[h];exact Fb),by simp⟩
 cases done with
 | false=>exact hd
 | true =>
  refine k1.owns (show w.ownsRow _ _ _ _ _ _ from hd) (fun k hk h=>?_)
  subst h
  obtain⟨_,h2⟩:=(show w.ownsRow _ _ _ _ _ _ from hd)
  rcases h2 with⟨rfl,_⟩|⟨g,cap,cur,rfl,_,hg,_⟩
  ·simp[Value.ownBlock] at hk
  ·simp only [Value.ownBlock,Option.some.injEq] at hk
   subst hk
   rw[hb] at hg
   simp at hg
theorem KQ(b:Nat)(l:List Bool)(done:Bool)(asked:Nat)(F:Nat→Prop)(w:World)(h:bL w b l done asked F) :
  Calls Tryz.prog 260 #[.pointer (some ⟨b,0,none⟩)] w fun e w'=>e=.returned (.int .i64 l.length)∧w=w':=by
 obtain⟨⟨bv,v,av,hb,hv,hd,Fb,yg,Fv,Fa⟩,hle,hold⟩:=h
 have c0:w.cell? ⟨b,0,none⟩=some (.pointer (some ⟨bv,0,none⟩)):=ak hb 0
 have hlen:=rY bv v l w hv
 clear hb hv hd
 go_enter Tryz.func260,Tryz.ntmps260
 go_wp2_with (go_at_call 99;refine hlen.mono ?_;rintro e w' ⟨rfl,rfl⟩)
 go_ret
 exact⟨rfl,rfl⟩
theorem qe7(b:Nat)(l:List Bool)(done:Bool)(asked:Nat)(F:Nat→Prop)(w:World)(h:bL w b l done asked F) :
  Calls Tryz.prog 297 #[.pointer (some ⟨b,0,none⟩)] w fun e w'=>e=.returned (.int .i64 (cnt l))∧w=w':=by
 obtain⟨⟨bv,v,av,hb,hv,hd,Fb,yg,Fv,Fa⟩,hle,hold⟩:=h
 have c0:w.cell? ⟨b,0,none⟩=some (.pointer (some ⟨bv,0,none⟩)):=ak hb 0
 have hO:=qlb bv v l w hv (by omega)
 clear hb hv hd
 go_enter Tryz.func297,Tryz.ntmps297
 go_wp2_with (go_at_call 309;refine hO.mono ?_;rintro e w' ⟨rfl,rfl⟩)
 go_ret
 exact⟨rfl,rfl⟩
theorem Qr(b:Nat)(l:List Bool)(done:Bool)(asked:Nat)(F:Nat→Prop)(i:Int)(w:World)(h:bL w b l done asked F) :
  Calls Tryz.prog 282 #[.pointer (some ⟨b,0,none⟩),.int .i64 i] w fun e w'=>e=.returned (.int .i64 (x9 l i))∧w=w':=by
 obtain⟨⟨bv,v,av,hb,hv,hd,Fb,yg,Fv,Fa⟩,hle,hold⟩:=h
 have c0:w.cell? ⟨b,0,none⟩=some (.pointer (some ⟨bv,0,none⟩)):=ak hb 0
 have hA:=Qm bv v l i w hv (by omega)
 clear hb hv hd
 go_enter Tryz.func282,Tryz.ntmps282
 go_wp2_with (go_at_call 195;refine hA.mono ?_;rintro e w' ⟨rfl,rfl⟩)
 go_ret
 exact⟨rfl,rfl⟩
end
section
open Go.RowKit
theorem TQ{F:Nat→Prop}{w w1 w2:World}(h1:w.heap.size≤w1.heap.size)(h2:w1.heap.size≤w2.heap.size):∀ x,grow (grow F w w1) w1 w2 x→grow F w w2 x:=by
 rintro x ((h|h)|h)
 ·exact .inl h
 ·exact .inr ⟨h.1,by omega⟩
 ·exact .inr ⟨by omega,h.2⟩
theorem q0z{F:Nat→Prop}{w w':World}(hF:∀ x,F x→x<w.heap.size)(hs:w.heap.size≤w'.heap.size):∀ x,grow F w w' x→x<w'.heap.size:=by
 rintro x (h|h)
 ·exact Nat.lt_of_lt_of_le (hF x h) hs
 ·exact h.2
def TR(p:Nat→Bool)(n r:Nat):Prop:=r≤n∧(∀ i,i<r→p i=false)∧(r<n→p r=true)
def rk(l:List Bool)(bit:Int)(n:Nat):Int:=yh bit (cnt (l.take n)) n
def gX(w:World)(b:Nat)(l:List Bool)(done:Bool)(asked:Nat)(F:Nat→Prop)(w':World):Prop :=
 bL w' b l done asked (grow F w w')∧Keeps F w w'
theorem gX.yR{w w1 w2:World}{b:Nat}{l:List Bool}{done:Bool}{asked:Nat}{F:Nat→Prop}(k1:Keeps F w w1)(hs:w1.heap.size=w.heap.size)(hF:∀ x,F x→x<w.heap.size)(h:bL w2 b l done asked (grow F w1 w2))(k2:Keeps F w1 w2):gX w b l done asked F w2 :=
 ⟨h.mono (fun x hx=>by unfold grow at *;rw[hs] at hx;exact hx) (q0z hF (Nat.le_trans k1.size k2.size)),k1.trans k2 (fun _ _ h=>h)⟩
theorem YS(b:Nat)(l:List Bool)(done:Bool)(asked:Nat)(F:Nat→Prop)(bit:Int)(n:Nat)(w:World)(h:bL w b l done asked F)(ha:asked≤1000000000000)(hb:bit=0∨bit=1)(hn:n≤l.length) :
  Calls Tryz.prog 284 #[.pointer (some ⟨b,0,none⟩),.int .i64 bit,.int .i64 n] w fun e w'=>e=.returned (.tuple #[.int .i64 (rk l bit n),.int .i64 0])∧gX w b l true (asked+1) F w':=by
 have hle:=h.le
 have hold:=h.old
 have TT:=YR b l done asked F w h ha
 have hcl:=DY (l.take n)
 have kQ:(l.take n).length≤l.length:=List.length_take_le' _ _
 have hcnt:0≤(cnt (l.take n):Int)∧(cnt (l.take n):Int)≤100000000:=by omega
 clear h hcl kQ
 have hof:=fun W=>Qq bit (cnt (l.take n)) n W (by omega)
 unfold rk
 rcases hb with rfl|rfl
 all_goals
  go_enter Tryz.func284,Tryz.ntmps284
  go_wp2_with (first | (go_at_call 292;refine TT.mono ?_;rintro e w1 ⟨rfl,hI1,hK1,hS1⟩) | (go_at_call 260;refine (KQ b l done _ F _ hI1).mono ?_;rintro e w' ⟨rfl,rfl⟩) | (go_at_call 294;refine (qld b l done _ F _ n hI1 hn).mono ?_;rintro e w2 ⟨rfl,hI2,hK2⟩) | (go_at_call 293;refine (hof _).mono ?_;rintro e w' ⟨rfl,rfl⟩))
  go_ret2
  exact⟨rfl,gX.yR hK1 hS1 hold hI2 hK2⟩
end
section
theorem TU(l:List Bool)(bit:Int):rk l bit 0=0:=by unfold rk yh;split <;> simp[cnt]
theorem Jw(l:List Bool)(bit:Int)(n:Nat)(hb:bit=0∨bit=1)(h:n<l.length):rk l bit (n+1)=rk l bit n+(if ((l.getD n false).toNat:Int)=bit then 1 else 0):=by
 have hc:=TN l n h
 unfold rk yh
 rw[hc]
 rcases hb with rfl|rfl
 ·cases l.getD n false <;> simp <;> omega
 ·cases l.getD n false <;> simp
theorem qne(l:List Bool)(bit:Int)(hb:bit=0∨bit=1)(a:Nat):∀ d,a+d≤l.length→rk l bit a≤rk l bit (a+d):=by
 intro d
 induction d with
 | zero=>intro _;exact Int.le_refl _
 | succ d ih =>
  intro h
  have h1:=ih (by omega)
  have h2:=Jw l bit (a+d) hb (by omega)
  rw[show a+(d+1)=a+d+1 by omega,h2]
  split <;> omega
theorem yS(l:List Bool)(bit:Int)(hb:bit=0∨bit=1){a c:Nat}(h:a≤c)(hc:c≤l.length):rk l bit a≤rk l bit c:=by
 have:=qne l bit hb a (c - a) (by omega)
 rwa [show a+(c - a)=c by omega] at this
theorem KR(l:List Bool)(bit:Int)(hb:bit=0∨bit=1)(n:Nat)(h:n≤l.length):0≤rk l bit n∧rk l bit n≤n:=by
 induction n with
 | zero=>rw[TU];omega
 | succ n ih =>
  have h1:=ih (by omega)
  have h2:=Jw l bit n hb (by omega)
  rw[h2]
  split <;> omega
theorem YT(l:List Bool)(n:Nat):cnt (l.take n)=cnt (l.take (min n l.length)):=by
 by_cases h:n≤l.length
 ·rw[Nat.min_eq_left h]
 ·rw[Nat.min_eq_right (by omega),List.take_of_length_le (by omega),List.take_of_length_le (by omega)]
def qC(l:List Bool)(bit k:Int)(i:Nat):Bool:=decide (k<yh bit (cnt (l.take (512 * i))) (min (512 * i) l.length:Nat))
theorem Qs(l:List Bool)(bit k:Int)(i:Nat):qC l bit k i=decide (k<rk l bit (min (512 * i) l.length)):=by
 unfold qC rk
 rw[YT]
theorem qi8(l:List Bool)(bit k:Int)(hb:bit=0∨bit=1)(i j:Nat)(hij:i≤j)(h:qC l bit k i=true):qC l bit k j=true:=by
 rw[Qs] at *
 have h1:=of_decide_eq_true h
 have h2:=yS l bit hb (a:=min (512 * i) l.length) (c:=min (512 * j) l.length) (by omega) (by omega)
 exact decide_eq_true (by omega)
def r9(l:List Bool)(bit k:Int)(n:Nat):Prop:=n<l.length∧((l.getD n false).toNat:Int)=bit∧rk l bit n=k
theorem r9.unique{l:List Bool}{bit k:Int}(hb:bit=0∨bit=1){a c:Nat}(h1:r9 l bit k a)(h2:r9 l bit k c):a=c:=by
 rcases Nat.lt_trichotomy a c with h|h|h
 ·have h3:=Jw l bit a hb h1.1
  rw[if_pos h1.2.1,h1.2.2] at h3
  have h4:=yS l bit hb (a:=a+1) (c:=c) (by omega) (by have:=h2.1;omega)
  rw[h2.2.2] at h4
  omega
 ·exact h
 ·have h3:=Jw l bit c hb h2.1
  rw[if_pos h2.2.1,h2.2.2] at h3
  have h4:=yS l bit hb (a:=c+1) (c:=a) (by omega) (by have:=h1.1;omega)
  rw[h1.2.2] at h4
  omega
theorem qi9{l:List Bool}{bit k:Int}(h0:0≤k)(hk:k<rk l bit l.length){r:Nat}(h:TR (qC l bit k) ((l.length+511) / 512+1) r) :
  1≤r∧r≤(l.length+511) / 512∧512 * (r - 1)≤l.length∧rk l bit (512 * (r - 1))≤k:=by
 obtain⟨h1,h2,h3⟩:=h
 have hz:qC l bit k 0=false:=by rw[Qs];simp[TU];omega
 have hl:qC l bit k ((l.length+511) / 512)=true:=by
  rw[Qs,Nat.min_eq_right (by omega)]
  exact decide_eq_true hk
 have r1:1≤r:=by
  rcases Nat.eq_zero_or_pos r with rfl|h
  ·rw[h3 (by omega)] at hz;cases hz
  ·exact h
 have r2:r≤(l.length+511) / 512:=by
  rcases Nat.lt_or_ge ((l.length+511) / 512) r with h|h
  ·rw[h2 _ h] at hl;cases hl
  ·exact h
 have r3:=h2 (r - 1) (by omega)
 rw[Qs] at r3
 have r4:=of_decide_eq_false r3
 rw[Nat.min_eq_left (by omega)] at r4
 exact⟨r1,r2,by omega,by omega⟩
end
section
open Go.RowKit
theorem BM{P:Program}{f:FuncId}{args:Array Value}{w:World}{n:Nat}{v:Value}
  (h:Calls P f args (w.drewN n) fun e w'=>e=.returned v∧w.drewN n=w'):Calls P f args (w.drewN n) fun e w''=>e=.returned v∧∃ m,w''=w.drewN m :=
 h.mono fun _ _ ⟨he,hm⟩=>⟨he,n,hm.symm⟩
theorem qgx(K:FuncId)(a1 a2 a3:Addr)(p:Nat→Bool)(n:Nat)(I:World→Prop)(w:World)(hn:n≤1000000000)(hw:I w)
  (hfn:∀ (i:Int) W,(callFunc K #[.int .i64 i,.pointer (some a1),.pointer (some a2),.pointer (some a3)]).run Tryz.prog W=.ok (.enter K #[.int .i64 i,.pointer (some a1),.pointer (some a2),.pointer (some a3)]) W)
  (hcall:∀ (i:Nat) W,i<n→I W→Calls Tryz.prog K #[.int .i64 i,.pointer (some a1),.pointer (some a2),.pointer (some a3)] W fun e W'=>e=.returned (.bool (p i))∧I W')
  (hmono:∀ i j,i≤j→p i=true→p j=true) :
  Calls Tryz.prog 299 #[.int .i64 n,.func (.func K) #[] #[.pointer (some a1),.pointer (some a2),.pointer (some a3)]] w fun e w'=>∃ r,e=.returned (.int .i64 (r:Nat))∧TR p n r∧I w':=by
 have hnot:∀ (x:Bool) (w:World),(Op.unary .not (.bool x)).run Tryz.prog w=.ok (.bool (!x)) w:=fun _ _=>rfl
 have HC:=ah hcall
 have HM:=ah hmono
 clear hcall hmono
 go_enter Tryz.func299,Tryz.ntmps299
 go_wp2_with fail
 go_loopw [5,6] (fun i j wr=>∃ x y:Nat,i=.int .i64 x∧j=.int .i64 y∧x≤y∧y≤n∧(∀ k,k<x→p k=false)∧(y<n→p y=true)∧I wr) (fun i j _=>((intOf j) - (intOf i)).toNat)
 case atStart=>exact⟨0,n,rfl,rfl,Nat.zero_le _,Nat.le_refl _,fun k hk=>by omega,fun h=>by omega,hw⟩
 case round =>
  obtain⟨x,y,rfl,rfl,hxy,hy,hlo,hhi,hI⟩:=hrel
  have HL:=ah (aj hlo hhi)
  clear hlo hhi hw
  by_cases hlt:x<y
  ·have hc:=HC.out ((x+y) / 2) wr (by omega) hI
   have hm:(((x+y) / 2:Nat):Int)=((x:Int)+(y:Int)) / 2:=by omega
   rw[hm] at hc
   clear hm
   cases hp:p ((x+y) / 2)
   ·rw[hp] at hc
    have HP:=ah hp
    clear hp
    go_wp2_with fail
    refine hc.mono ?_
    rintro e w2 ⟨rfl,hI2⟩
    clear hc
    go_wp2
    go_roundw
    case rel =>
     refine⟨(x+y) / 2+1,y,by go_num,rfl,by omega,hy,fun k hk=>?_,HL.out.2,hI2⟩
     cases hq:p k
     ·rfl
     ·have:=HM.out k ((x+y) / 2) (by omega) hq
      rw[HP.out] at this
      cases this
    case measure=>simp[intOf];omega
   ·rw[hp] at hc
    have HP:=ah hp
    clear hp
    go_wp2_with fail
    refine hc.mono ?_
    rintro e w2 ⟨rfl,hI2⟩
    clear hc
    go_wp2
    go_roundw
    case rel=>exact⟨x,(x+y) / 2,rfl,by go_num,by omega,by omega,HL.out.1,fun _=>HP.out,hI2⟩
    case measure=>simp[intOf];omega
  ·obtain rfl:x=y:=by omega
   go_wp2
   go_ret
   exact⟨x,rfl,⟨hy,HL.out.1,HL.out.2⟩,hI⟩
theorem qle(bx bb bk b:Nat)(l:List Bool)(asked:Nat)(F:Nat→Prop)(bit k:Int)(i:Nat)(w:World)(h:bL w b l true asked F)
  (hx:w.cell? ⟨bx,0,none⟩=some (.pointer (some ⟨b,0,none⟩)))(hb:w.cell? ⟨bb,0,none⟩=some (.int .i64 bit))(hk:w.cell? ⟨bk,0,none⟩=some (.int .i64 k))
  (hi:i<(l.length+511) / 512+1) :
  Calls Tryz.prog 300 #[.int .i64 i,.pointer (some ⟨bx,0,none⟩),.pointer (some ⟨bb,0,none⟩),.pointer (some ⟨bk,0,none⟩)] w fun e w' =>
   e=.returned (.bool (decide (k<yh bit (cnt (l.take (512 * i))) (min (512 * i) l.length:Nat))))∧∃ n,w'=w.drewN n:=by
 have hle:=h.le
 have hlen:=KQ b l true asked F w h
 obtain⟨bv,v,ga,cap,c0,hv,c4,hnc,hcm,hal,hcell⟩:=h.read
 have hck:=hcell i (by omega)
 have hcl:=DY (l.take (512 * i))
 have kQ:(l.take (512 * i)).length≤l.length:=List.length_take_le' _ _
 have BL:cnt (l.take (512 * i))≤100000000:=by omega
 have him:i<(ahead l).length:=by omega
 have hof:=fun z hz W=>Qq bit (cnt (l.take (512 * i))) z W hz
 clear hcell hcl kQ h hv hal
 generalize (ahead l).length=m at *
 generalize cnt (l.take (512 * i))=y at *
 by_cases hmin:512 * i≤l.length
 ·rw[Nat.min_eq_left hmin]
  have hof:=hof ((i:Int) * 512) (by omega)
  have e1:(((512 * i:Nat)):Int)=(i:Int) * 512:=by omega
  rw[e1]
  have h2:(i:Int) * 512≤(l.length:Int):=by omega
  clear e1
  go_enter Tryz.func300,Tryz.ntmps300
  go_wp2_with (go_at_call 260;refine hlen.mono ?_;rintro e w' ⟨rfl,rfl⟩)
  all_goals
   go_quiet ((go_at_call 293;exact BM (hof _)))
   go_wp2
   go_ret
   exact⟨rfl,_,rfl⟩
 ·rw[Nat.min_eq_right (by omega)]
  have hof:=hof (l.length:Int) (by omega)
  have h2:(l.length:Int)<(i:Int) * 512:=by omega
  go_enter Tryz.func300,Tryz.ntmps300
  go_wp2_with (go_at_call 260;refine hlen.mono ?_;rintro e w' ⟨rfl,rfl⟩)
  all_goals
   go_quiet ((go_at_call 293;exact BM (hof _)))
   go_wp2
   go_ret
   exact⟨rfl,_,rfl⟩
end
section
open Go.RowKit
theorem bL.drewN{w:World}{b:Nat}{l:List Bool}{done:Bool}{asked:Nat}{F:Nat→Prop}(h:bL w b l done asked F)(n:Nat):bL (w.drewN n) b l done asked F :=
 h.keeps ((Keeps.refl (fun _=>False) w).drewN n) (fun _ _ h=>h)
theorem qia(i:Int)(a1 a2 a3:Addr)(W:World):(callFunc 300 #[.int .i64 i,.pointer (some a1),.pointer (some a2),.pointer (some a3)]).run Tryz.prog W=.ok (.enter 300 #[.int .i64 i,.pointer (some a1),.pointer (some a2),.pointer (some a3)]) W:=by
 go_simp
theorem qat(bx bb bk b:Nat)(l:List Bool)(asked:Nat)(F:Nat→Prop)(bit k:Int)(w:World)(h:bL w b l true asked F)(hbit:bit=0∨bit=1)
  (hx:w.cell? ⟨bx,0,none⟩=some (.pointer (some ⟨b,0,none⟩)))(hb:w.cell? ⟨bb,0,none⟩=some (.int .i64 bit))(hk:w.cell? ⟨bk,0,none⟩=some (.int .i64 k)) :
  Calls Tryz.prog 299 #[.int .i64 ((l.length+511) / 512+1:Nat),.func (.func 300) #[] #[.pointer (some ⟨bx,0,none⟩),.pointer (some ⟨bb,0,none⟩),.pointer (some ⟨bk,0,none⟩)]] w fun e w' =>
   ∃ r,e=.returned (.int .i64 (r:Nat))∧TR (qC l bit k) ((l.length+511) / 512+1) r∧∃ n,w'=w.drewN n:=by
 have hle:=h.le
 refine qgx 300 ⟨bx,0,none⟩ ⟨bb,0,none⟩ ⟨bk,0,none⟩ (qC l bit k) ((l.length+511) / 512+1) (fun W=>∃ n,W=w.drewN n) w (by omega) ⟨0,rfl⟩ (fun i W=>qia i _ _ _ W) ?_ (fun i j=>qi8 l bit k hbit i j)
 rintro i W hi ⟨n,rfl⟩
 refine (qle bx bb bk b l asked F bit k i (w.drewN n) (h.drewN n) hx hb hk hi).mono ?_
 rintro e w' ⟨rfl,m,rfl⟩
 exact⟨rfl,n+m,by rw[World.drewN_drewN]⟩
theorem qib(b:Nat)(l:List Bool)(done:Bool)(asked:Nat)(F:Nat→Prop)(bit k:Int)(w:World)(h:bL w b l done asked F)(ha:asked≤1000000000000)(hb:bit=0∨bit=1)(hk0:0≤k)(hk:k<rk l bit l.length) :
  Calls Tryz.prog 286 #[.pointer (some ⟨b,0,none⟩),.int .i64 bit,.int .i64 k] w fun e w'=>∃ n:Nat,e=.returned (.tuple #[.int .i64 n,.int .i64 0])∧r9 l bit k n∧gX w b l true (asked+1) F w':=by
 have Jv:∀ (fn:Fn) (first cap:Array Value) (w:World),(Instr.makeFunc fn first cap).run Tryz.prog w=.ok (.func fn first cap) w:=fun _ _ _ _=>rfl
 have hle:=h.le
 have hold:=h.old
 have hrk:=KR l bit hb l.length (Nat.le_refl _)
 have hW:=h.keeps ((((Keeps.refl (fun _=>False) w).alloc (.cells #[.pointer (some ⟨b,0,none⟩)] 328)).alloc (.cells #[.int .i64 bit] 3)).alloc (.cells #[.int .i64 k] 3)) (fun _ _ h=>h)
 have kW:=(((Keeps.refl F w).alloc (.cells #[.pointer (some ⟨b,0,none⟩)] 328)).alloc (.cells #[.int .i64 bit] 3)).alloc (.cells #[.int .i64 k] 3)
 have e0:(((w.alloc (.cells #[.pointer (some ⟨b,0,none⟩)] 328)).alloc (.cells #[.int .i64 bit] 3)).alloc (.cells #[.int .i64 k] 3)).heap.size=w.heap.size+3:=by simp
 have x0:(((w.alloc (.cells #[.pointer (some ⟨b,0,none⟩)] 328)).alloc (.cells #[.int .i64 bit] 3)).alloc (.cells #[.int .i64 k] 3)).heap[w.heap.size]? = some (.cells #[.pointer (some ⟨b,0,none⟩)] 328 (0,0)):=by
  rw[Below.heap_alloc _ _ _ (by simp;omega),Below.heap_alloc _ _ _ (by simp)];exact heap_alloc_new _ _
 have x1:(((w.alloc (.cells #[.pointer (some ⟨b,0,none⟩)] 328)).alloc (.cells #[.int .i64 bit] 3)).alloc (.cells #[.int .i64 k] 3)).heap[w.heap.size+1]? = some (.cells #[.int .i64 bit] 3 (0,0)):=by
  rw[Below.heap_alloc _ _ _ (by simp),show w.heap.size+1=(w.alloc (.cells #[.pointer (some ⟨b,0,none⟩)] 328)).heap.size by simp];exact heap_alloc_new _ _
 have x2:(((w.alloc (.cells #[.pointer (some ⟨b,0,none⟩)] 328)).alloc (.cells #[.int .i64 bit] 3)).alloc (.cells #[.int .i64 k] 3)).heap[w.heap.size+2]? = some (.cells #[.int .i64 k] 3 (0,0)):=by
  rw[show w.heap.size+2=((w.alloc (.cells #[.pointer (some ⟨b,0,none⟩)] 328)).alloc (.cells #[.int .i64 bit] 3)).heap.size by simp];exact heap_alloc_new _ _
 have HR:=ah (aj hk hb)
 have hkc:k<yh bit (cnt l) l.length:=by have:=hk;unfold rk at this;rwa [List.take_of_length_le (Nat.le_refl _)] at this
 have hcl:=DY l
 have hof:=fun W=>Qq bit (cnt l) l.length W (by omega)
 clear h hk
 generalize TV:yh bit (cnt l) l.length=z at *
 clear TV hrk
 have hbt:((bit != 0)=false)∨((bit != 0)=true∧(bit != 1)=false):=by rcases hb with rfl|rfl <;> simp
 clear hb
 rcases hbt with t0|⟨t0,t1⟩
 all_goals
  go_enter Tryz.func286,Tryz.ntmps286
  go_wp2_with fail
  generalize ((w.alloc (.cells #[.pointer (some ⟨b,0,none⟩)] 328)).alloc (.cells #[.int .i64 bit] 3)).alloc (.cells #[.int .i64 k] 3)=W at *
  refine (YR b l done asked F W hW ha).mono ?_
  rintro e w1 ⟨rfl,hI1,hK1,hS1⟩
  have nF:∀ d,¬ F (w.heap.size+d):=fun d h=>by have:=hold _ h;omega
  have y0:=hK1.at x0 (nF 0)
  have y1:=hK1.at x1 (nF 1)
  have y2:=hK1.at x2 (nF 2)
  clear x0 x1 x2
  have HK:=ah (aj kW (aj e0 (aj hK1 hS1)))
  clear kW e0 hK1 hS1 hW
  generalize hB:w.heap.size=B at *
  have HB:=ah hB
  clear hB
  have c0:w1.cell? ⟨B,0,none⟩=some (.pointer (some ⟨b,0,none⟩)):=ak y0 0
  have c1:=ak y1 0
  have c2:w1.cell? ⟨B+1+1,0,none⟩=some (.int .i64 k):=ak y2 0
  simp only [List.getElem?_toArray,List.getElem?_cons_zero] at c1
  have HY:=ah (aj y0 (aj y1 y2))
  clear y0 y1 y2
  go_wp2_with fail
  go_quiet ((first | (go_at_call 297;exact BM (qe7 b l done _ F _ (hI1.drewN _))) | (go_at_call 260;exact BM (KQ b l done _ F _ (hI1.drewN _))) | (go_at_call 293;exact BM (hof _))))
  go_wp2_with fail
  have hI2:=hI1.drewN nq
  have c0':(w1.drewN nq).cell? ⟨B,0,none⟩=some (.pointer (some ⟨b,0,none⟩)):=c0
  have c1':=show (w1.drewN nq).cell? ⟨B+1,0,none⟩=_ from c1
  have c2':(w1.drewN nq).cell? ⟨B+1+1,0,none⟩=some (.int .i64 k):=c2
  have rZ:=ah (aj HK.out (aj HY.out (show Keeps F w1 (w1.drewN nq) from (Keeps.refl F w1).drewN nq)))
  have hs2:(w1.drewN nq).heap.size=w1.heap.size:=rfl
  have HS2:=ah hs2
  clear hs2 HK HY hI1 c0 c1 c2 hof hkc
  generalize w1.drewN nq=w2 at *
  have hB2:B<w2.heap.size:=by have h1:=HS2.out;have h2:=rZ.out.1;omega
  go_region_held3 (fun w'=>w'.cell? ⟨B,0,none⟩=some (.pointer (some ⟨b,0,none⟩))) (go_keep) ((go_at_call 117;refine (YQ b l done _ F _ (hI2.drewN 1)).mono ?_;rintro e w3 ⟨rfl,FR,hK3⟩;have z0:w3.cell? ⟨B,0,none⟩=some (.pointer (some ⟨b,0,none⟩)):=(World.cell?_of_block (w:=w2.drew) (hK3.block B hB2 (nF 0))).trans c0'))
  have z1:=(World.cell?_of_block (w:=w2.drew) (hK3.block (B+1) (by have h1:=HS2.out;have h2:=rZ.out.1;show B+1<w2.heap.size;omega) (nF 1))).trans c1'
  have z2:=(World.cell?_of_block (w:=w2.drew) (hK3.block (B+1+1) (by have h1:=HS2.out;have h2:=rZ.out.1;show B+1+1<w2.heap.size;omega) (nF 2))).trans c2'
  have hS:=qat B (B+1) (B+1+1) b l (asked+1) _ bit k w3 FR HR.out.2 z0 z1 z2
  have HI3:=ah (aj FR hK3)
  obtain⟨bv,v,ga,cap,d0,hv,d4,hnc,hcm,hal,hcell⟩:=FR.read
  rw[← hal] at hS
  have HV:=ah (aj hv (aj hcell hal))
  have hm1:(ahead l).length≤1000000:=by omega
  clear hI2 c0' c1' c2' FR hK3 hv hcell hal hB2
  generalize (ahead l).length=m at *
  go_wp2_with fail
  refine hS.mono ?_
  rintro e w4 ⟨r,rfl,hr,n4,rfl⟩
  rw[HV.out.2.2] at hr
  obtain⟨hr1,hr2,hr3,hr4⟩:=qi9 hk0 HR.out.1 hr
  obtain⟨q,rfl⟩:∃ q,r=q+1:=⟨r - 1,by omega⟩
  have hq:q≤1000000:=by omega
  have hqm:q<m:=by rw[HV.out.2.2];omega
  simp only [Nat.add_sub_cancel] at hr3 hr4
  have hck:=HV.out.2.1 q hqm
  have TW:=DY (l.take (512 * q))
  have kQ:(l.take (512 * q)).length≤l.length:=List.length_take_le' _ _
  have hof:=fun W=>Qq bit (cnt (l.take (512 * q))) ((q:Int) * 512) W (by omega)
  have hrq:=HR.out.1
  have TY:=KR l bit HR.out.2 (512 * q) hr3
  have e5:((512 * q:Nat):Int)=(q:Int) * 512:=by omega
  have hS0:yh bit (cnt (l.take (512 * q))) ((q:Int) * 512)=rk l bit (512 * q):=by unfold rk;rw[e5]
  have BL:cnt (l.take (512 * q))≤100000000:=by omega
  rw[hS0] at hof
  have HQ:=ah (aj hr3 hr4)
  clear hr hr1 hr2 hr3 hr4 hS TW kQ hrq e5 hS0 TY
  go_wp2_with fail
  have a0:(w3.drewN n4).cell? ⟨B,0,none⟩=some (.pointer (some ⟨b,0,none⟩)):=z0
  have a1:=show (w3.drewN n4).cell? ⟨B+1,0,none⟩=_ from z1
  have a2:=show (w3.drewN n4).cell? ⟨B+1+1,0,none⟩=_ from z2
  have a3:=show (w3.drewN n4).cell? ⟨b,0,none⟩=_ from d0
  have a4:=show (w3.drewN n4).cell? ⟨b,4,none⟩=_ from d4
  have a5:=show (w3.drewN n4).cell? ⟨ga,q,none⟩=_ from hck
  have Jy:=HI3.out.1.drewN n4
  have hK5:=HI3.out.2.drewN n4
  have hv5:aK (w3.drewN n4) bv v l:=HV.out.1.keeps ((Keeps.refl (fun _=>False) w3).drewN n4) (fun h=>h) (fun _ _ h=>h)
  have hs5:w3.heap.size=(w3.drewN n4).heap.size:=rfl
  have H5:=ah (aj Jy (aj hK5 (aj hv5 hs5)))
  clear Jy hK5 hv5 hs5 HI3 HV
  clear z0 z1 z2 d0 d4 hck
  generalize w3.drewN n4=w5 at *
  go_quiet ((go_at_call 293;exact BM (hof _)))
  go_wp2_with fail
  have hfin:∀ n:Nat,gX w b l true (asked+1) F (w5.drewN n):=by
   intro n
   obtain⟨Jy,hK5,hv5,hs5⟩:=H5.out
   obtain⟨⟨g1,g2,g3,g4⟩,_,g5⟩:=rZ.out
   have g6:=HS2.out
   have g7:=HB.out
   have kk:Keeps F w (w5.drewN n):=((((g1.trans g3 (fun _ _ h=>h)).trans g5 (fun _ _ h=>h)).drewN 1).trans hK5 (fun _ _ h=>h)).drewN n
   have hz:w.heap.size≤w2.heap.size:=by omega
   refine⟨(Jy.drewN n).mono (fun x hx=>?_) (q0z (fun x hx=>by have:=hold x hx;omega) kk.size),kk⟩
   rcases hx with hx|⟨hx1,hx2⟩
   ·exact .inl hx
   ·exact .inr ⟨Nat.le_trans hz hx1,by show x<w5.heap.size;omega⟩
  have HF:=ah hfin
  have hv5:=H5.out.2.2.1
  have hqq:=HQ.out
  clear hfin H5 rZ HS2 hof a4 a5
  go_loopw [9,10] (fun i s wr=>∃ p:Nat,i=.int .i64 p∧s=.int .i64 (rk l bit p)∧p≤l.length∧rk l bit p≤k∧∃ n,wr=w5.drewN n) (fun i _ _=>l.length - (intOf i).toNat)
  case atStart=>exact⟨512 * q,by go_num,rfl,hqq.1,hqq.2,_,rfl⟩
  case round =>
   obtain⟨p,rfl,rfl,hp,hpk,nw,rfl⟩:=hrel
   have hb2:=HR.out.2
   have hlt:p<l.length:=by
    rcases Nat.lt_or_ge p l.length with h|h
    ·exact h
    ·have:=HR.out.1
     obtain rfl:p=l.length:=by omega
     omega
   have hrs:=Jw l bit p hb2 hlt
   have hrb:=KR l bit hb2 p hp
   have hvw:aK (w5.drewN nw) bv v l:=hv5.keeps ((Keeps.refl (fun _=>False) w5).drewN nw) (fun h=>h) (fun _ _ h=>h)
   have b0:(w5.drewN nw).cell? ⟨B,0,none⟩=some (.pointer (some ⟨b,0,none⟩)):=a0
   have b1:=show (w5.drewN nw).cell? ⟨B+1,0,none⟩=_ from a1
   have b2:=show (w5.drewN nw).cell? ⟨B+1+1,0,none⟩=_ from a2
   have b3:=show (w5.drewN nw).cell? ⟨b,0,none⟩=_ from a3
   have hA:=fun n=>lD bv v l p ((w5.drewN nw).drewN n) (hvw.keeps ((Keeps.refl (fun _=>False) _).drewN n) (fun h=>h) (fun _ _ h=>h)) hlt (by omega)
   have hwn:∀ n,(w5.drewN nw).drewN n=w5.drewN (nw+n):=fun n=>World.drewN_drewN _ _ _
   have HS:=ah (aj hrs hwn)
   have HP:=ah (aj hpk hqq)
   clear hrs hwn hqq hvw hb2 a0 a1 a2 a3
   generalize hx:((l.getD p false).toNat:Int)=x at *
   have HX:=ah hx
   clear hx
   generalize hs:rk l bit p=s at *
   have HSS:=ah hs
   clear hs
   generalize T9:w5.drewN nw=w6 at *
   have Ua:=ah T9
   clear T9
   by_cases hxb:x=bit
   ·have tb:(x == bit)=true:=by simp[hxb]
    have HXB:=ah hxb
    clear hxb
    by_cases hsk:s=k
    ·have ts:(s == k)=true:=by simp[hsk]
     have HSK:=ah hsk
     clear hsk
     go_wp2_with fail
     go_quiet ((go_at_call 195;exact BM (hA _)))
     go_wp2
     go_ret2
     exact⟨p,rfl,⟨hlt,HX.out.trans HXB.out,HSS.out.trans HSK.out⟩,by rw[← Ua.out,World.drewN_drewN];exact HF.out _⟩
    ·have ts:(s == k)=false:=by simp[hsk]
     have afh:s<k:=by omega
     clear hsk
     go_wp2_with fail
     go_quiet ((go_at_call 195;exact BM (hA _)))
     go_wp2
     go_roundw
     case rel=>exact⟨p+1,by go_num,by rw[HS.out.1,if_pos HXB.out],by omega,by rw[HS.out.1,if_pos HXB.out];omega,_,by rw[← Ua.out,World.drewN_drewN]⟩
     case measure=>simp[intOf];omega
   ·have tb:(x == bit)=false:=by simp[hxb]
    have HXB:=ah hxb
    clear hxb
    go_wp2_with fail
    go_quiet ((go_at_call 195;exact BM (hA _)))
    go_wp2
    go_roundw
    case rel=>exact⟨p+1,by go_num,by rw[HS.out.1,if_neg HXB.out,Int.add_zero],by omega,by rw[HS.out.1,if_neg HXB.out];omega,_,by rw[← Ua.out,World.drewN_drewN]⟩
    case measure=>simp[intOf];omega
end
section
open Go.RowKit
end
section
open Go.RowKit
end
section
open Go.RowKit
end
section
open Go.RowKit
theorem qlf{zs:List Int}(h:∀ z ∈ zs,z=0∨z=1){n:Nat}{z:Int}(hz:zs[n]? = some z):(((lF zs).getD n false).toNat:Int)=z:=by
 have hm:=List.mem_of_getElem? hz
 simp only [lF,List.getD_eq_getElem?_getD,List.getElem?_map,hz,Option.map_some,Option.getD_some]
 rcases h z hm with rfl|rfl <;> rfl
theorem Ub(zs:List Int):(lF zs).length=zs.length:=by simp[lF]
theorem RowIn.bytes{w:World}{a:Option Addr}{len cap:Nat}{zs:List Int}(h:RowIn .u8 w a len cap zs):∃ ps:List Nat,Sl .u8 w (.slice a len cap) (aB ps)∧∀ b ∈ ps,b<256:=by
 obtain⟨h1,_,h3,_⟩:=h.sl
 refine⟨(zs.take len).map Int.toNat,?_,?_⟩
 ·have:aB ((zs.take len).map Int.toNat)=zs.take len:=by
   unfold aB
   rw[List.map_map]
   conv=>rhs;rw[← List.map_id (zs.take len)]
   apply List.map_congr_left
   intro n hn
   have:=bounds_u8 (h3 n hn)
   simp
   omega
  rw[this]
  exact h1
 ·intro b hb
  obtain⟨n,hn,rfl⟩:=List.mem_map.1 hb
  have:=bounds_u8 (h3 n hn)
  omega
theorem u8_in{n:Int}(h:(Lit.int .u8 n).wf=true):∃ m:Nat,n=m∧m<256:=by
 have:=bounds_u8 h
 exact⟨n.toNat,by omega,by omega⟩
theorem qom{n:Int}(h:(Lit.int .u16 n).wf=true):∃ m:Nat,n=m∧m<65536:=by
 have:=bounds_u16 h
 exact⟨n.toNat,by omega,by omega⟩
end
section
open Go.RowKit
end
