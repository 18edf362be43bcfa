import Derived.Deep.RegionWith
import Derived.Deep.RegionHeld3
import Derived.OpenShut
import Derived.Test.YtcfdpogegngplaaGreatZaBase
set_option maxRecDepth 100000
set_option maxHeartbeats 4000000
namespace Go.Proofs.YtcfdpogegngplaaGreat
section
open Go.RowKit
theorem qni:(Tryz.prog.info? 49).map (fun i=>(i.zero,i.size,i.bytes))=some (some (.int .u32 0),1,4):=by kernel_rfl
def ahead (l:List Bool):List Nat:=(List.range ((l.length+511) / 512+1)).map fun b=>cnt (l.take (512 * b))
def q26 (bv:Nat) (done:Bool) (lock:Int) (av:Value) (built asked:Int):Array Value :=
 #[.pointer (some ⟨bv,0,none⟩),.int .u32 (if done then 1 else 0),.int .i32 lock,.int .u32 0,av,.int .i64 built,.int .i64 asked]
def DirAt (w:World) (done:Bool) (av:Value) (l:List Bool):Prop :=
 if done then w.ownsRow 0 49 1 av (ahead l).length ((ahead l).map fun x:Nat=>Value.int .u32 x) else av=.slice none 0 0
structure IdxAt (w:World) (b:Nat) (l:List Bool) (done:Bool) (asked:Nat) (F:Nat→Prop):Prop where
 ex:∃ bv v av,w.heap[b]? = some (.cells (q26 bv done 0 av (if done then 1 else 0) asked) 355 (0,0))∧VecAt w bv v l∧DirAt w done av l ∧
  F b∧F bv∧(∀ k,v.ownBlock=some k→F k)∧(∀ k,av.ownBlock=some k→F k)
 le:l.length≤100000000
 old:∀ k,F k→k<w.heap.size
theorem q5f (b2:Nat) (v2:Value) (l2:List Bool) (w:World) (h2:VecAt w b2 v2 l2) (hl:l2.length≤100000000) :
  Calls Tryz.prog 250 #[.pointer (some ⟨b2,0,none⟩)] w fun e w'=>∃ b,e=.returned (.pointer (some ⟨b,0,none⟩))∧IdxAt w' b l2 false 0 (fun k=>w.heap.size≤k∧k<w'.heap.size)∧Keeps (fun _=>False) w w':=by
 have hb2:=h2.lt
 have hJ:=qkp w.heap.size (.slice none 0 0) [] b2 v2 l2 (w.alloc (.cells #[.slice none 0 0,.int .i64 0] 203)) (q4z w) (h2.keeps ((Keeps.refl (fun _=>False) w).alloc _) (fun h=>h) (fun _ _ h=>h))
  (by omega) (by simp[Value.ownBlock]) (fun h=>by have:=(h2.apart _ h).2;omega) (fun _ _ h=>by simp[Value.ownBlock] at h) (by simp;omega)
 have HJ:=Lib.hid hJ
 clear hJ h2
 go_enter Tryz.func250,Tryz.ntmps250
 go_wp2_with (first | (go_at_call 139;refine (q3h _).mono ?_;rintro e w' ⟨rfl,rfl⟩) | (go_at_call 167;refine HJ.out.mono ?_;rintro e w1 ⟨rfl,hw1⟩))
 go_ret
 obtain⟨v1,hv1,hk1,hf1⟩:=hw1
 have k1:Keeps (fun _=>False) w w1:=((Keeps.refl _ w).alloc _).trans hk1 (by
  rintro x hx (rfl|hx2)
  ·omega
  ·simp[Value.ownBlock] at hx2)
 have hs1:=hk1.size
 simp at hs1
 have k2:=(Keeps.refl (fun _=>False) w1).alloc (.cells (q26 w.heap.size false 0 (.slice none 0 0) 0 0) 355)
 have hv2:=hv1.keeps k2 (fun h=>h) (fun _ _ h=>h)
 refine⟨w1.heap.size,rfl,⟨⟨w.heap.size,v1,.slice none 0 0,heap_alloc_new w1 _,hv2,rfl,?_,?_,?_,?_⟩,hl,fun k hk=>hk.2⟩,k1.alloc _⟩
 ·simp;omega
 ·simp;omega
 ·intro k hk
  have hlt:=(hv1.apart k hk).2
  rcases hf1 with h|⟨k',h,hge⟩
  ·rw[h] at hk;simp[Value.ownBlock] at hk
  ·rw[h] at hk;cases hk;simp at hge;simp;omega
 ·intro k hk;simp[Value.ownBlock] at hk
def q1o (l:List Bool) (k:Nat):List Nat:=(List.range ((k+511) / 512)).map fun b=>cnt (l.take (512 * b))
theorem qes (l:List Bool) (k:Nat) (h:k % 512=0):q1o l (k+1)=q1o l k ++ [cnt (l.take k)]:=by
 unfold q1o
 rw[show (k+1+511) / 512=(k+511) / 512+1 by omega,List.range_succ,List.map_append,List.map_singleton,show 512 * ((k+511) / 512)=k by omega]
theorem qd2 (l:List Bool) (k:Nat) (h:¬ k % 512=0):q1o l (k+1)=q1o l k:=by
 unfold q1o
 rw[show (k+1+511) / 512=(k+511) / 512 by omega]
theorem qd3 (l:List Bool):ahead l=q1o l l.length ++ [cnt l]:=by
 unfold q1o ahead
 rw[List.range_succ,List.map_append,List.map_singleton,List.take_of_length_le (l:=l) (by omega)]
theorem q9k (l:List Bool) (k:Nat):(q1o l k).length=(k+511) / 512:=by simp[q1o]
theorem qbd (l:List Bool) (k:Nat) (h:k<l.length):cnt (l.take (k+1))=cnt (l.take k)+(l.getD k false).toNat:=by
 rw[qbm l k h,q4h];simp[cnt]
def MakeAt (w:World) (b bv:Nat) (v:Value) (l:List Bool) (asked:Int) (d:List Nat) (w':World):Prop :=
 ∃ av,w'.heap[b]? = some (.cells (q26 bv false 1 av 1 asked) 355 (0,0))∧VecAt w' bv v l ∧
  w'.ownsRow 0 49 1 av d.length (d.map fun x:Nat=>Value.int .u32 x)∧(∀ k,av.ownBlock=some k→w.heap.size≤k)∧Keeps (fun k=>k=b) w w'
theorem MakeAt.step {w:World} {b bv:Nat} {v:Value} {l:List Bool} {asked:Int} {d:List Nat} {wr w1:World} {av:Value} {o:Obj} {x g cap:Nat}
  (h1:wr.heap[b]? = some (.cells (q26 bv false 1 av 1 asked) 355 (0,0))) (hv:VecAt wr bv v l) (hbo:v.ownBlock≠some b) (hav:∀ k,av.ownBlock=some k→w.heap.size≤k) (hbw:b<w.heap.size)
  (hvw:bv<w.heap.size) (hvo:∀ k,v.ownBlock=some k→k<w.heap.size) (hk:Keeps (fun k=>k=b) w wr)
  (hown:w1.ownsRow 0 49 1 (.slice (some ⟨g,0,none⟩) (d.length+1) cap) (d.length+1) ((d.map fun x:Nat=>Value.int .u32 x) ++ [.int .u32 x]))
  (hgrow:(wr.alloc o).grownBy w1 av.ownBlock) (hat:av.ownBlock=some g∨g=wr.heap.size+1) :
  MakeAt w b bv v l asked (d ++ [x]) (w1.setCell ⟨b,4,none⟩ (.slice (some ⟨g,0,none⟩) (d.length+1) cap)):=by
 have hsz:=hk.size
 have hg:w.heap.size≤g:=by
  rcases hat with h|h
  ·exact hav g h
  ·omega
 have k1:Keeps (fun k=>av.ownBlock=some k) wr w1:=((Keeps.refl _ wr).alloc _).grown hgrow (fun k hk=>.inl hk)
 have hb1:=k1.at h1 (fun h=>by have:=hav b h;omega)
 have hbv:bv≠b:=by
  rintro rfl
  have:=hv.1
  rw[h1] at this
  simp at this
 have hv1:=hv.keeps k1 (fun h=>by have:=hav bv h;omega) (fun k hk h=>by have:=hav k h;have:=hvo k hk;omega)
 have hv2:=hv1.keeps ((Keeps.refl (fun k=>k=b) w1).setCell (p:=⟨b,4,none⟩) (.inl rfl) (.slice (some ⟨g,0,none⟩) (d.length+1) cap)) hbv (fun k hk h=>hbo (by rw[← h];exact hk))
 refine⟨_,q00 hb1 4 _,hv2,?_,?_,?_⟩
 ·have:=ownsRow_setCell_other hown (a:=⟨b,4,none⟩) (by simp[Value.ownBlock];omega) (.slice (some ⟨g,0,none⟩) (d.length+1) cap)
  simpa using this
 ·intro k hk
  simp[Value.ownBlock] at hk
  omega
 ·exact (hk.trans k1 (fun x hx h=>by have:=hav x h;omega)).setCell (.inl rfl) _
theorem qd4 (b bv:Nat) (v:Value) (l:List Bool) (asked:Int) (w:World) (h:w.heap[b]? = some (.cells (q26 bv false 1 (.slice none 0 0) 0 asked) 355 (0,0)))
  (hv:VecAt w bv v l) (hl:l.length≤100000000) (hbo:v.ownBlock≠some b) :
  Calls Tryz.prog 298 #[.pointer (some ⟨b,0,none⟩)] w fun e w'=>e=.returned (.tuple #[])∧MakeAt w b bv v l asked (ahead l) w':=by
 have hbw:=lt_of_block h
 have hvw:=hv.lt
 have hvo:=fun k hk=>(hv.apart k hk).2
 have c5:w.cell? ⟨b,5,none⟩=some (.int .i64 0):=World.cell_of_heap h 5
 have f5:=World.free_of_heap h 5
 have hbv:bv≠b:=by
  rintro rfl
  have:=hv.1
  rw[h] at this
  simp at this
 have hadd:=add64 ⟨b,5,none⟩ 0 1 w c5 f5 (by omega)
 have h1:(w.setCell ⟨b,5,none⟩ (.int .i64 1)).heap[b]? = some (.cells (q26 bv false 1 (.slice none 0 0) 1 asked) 355 (0,0)):=q00 h 5 _
 have k1:Keeps (fun k=>k=b) w (w.setCell ⟨b,5,none⟩ (.int .i64 1)):=(Keeps.refl (fun k=>k=b) w).setCell (p:=⟨b,5,none⟩) (.inl rfl) _
 have hv1:=hv.keeps k1 hbv (fun k hk h=>hbo (by rw[← h];exact hk))
 have hM:MakeAt w b bv v l asked [] (w.setCell ⟨b,5,none⟩ (.int .i64 1)):=⟨_,h1,hv1,World.ownsRow_nil _ _ _ _,fun k hk=>by simp[Value.ownBlock] at hk,k1⟩
 have c0:(w.setCell ⟨b,5,none⟩ (.int .i64 1)).cell? ⟨b,0,none⟩=some (.pointer (some ⟨bv,0,none⟩)):=World.cell_of_heap h1 0
 have hlen:=q1c bv v l _ hv1
 obtain⟨i,hi,hz0,hz1,hz2⟩:=info_parts qni
 clear c5 f5 k1 hv1 h1 h hv
 rw[show (0:Int)+1=1 from rfl] at hadd
 generalize hw0:w.setCell ⟨b,5,none⟩ (.int .i64 1)=w0 at *
 clear hw0
 go_enter Tryz.func298,Tryz.ntmps298
 go_wp2_with (first | (go_at_call 292;refine hadd.mono ?_;rintro e w' ⟨rfl,rfl⟩) | (go_at_call 99;refine hlen.mono ?_;rintro e w' ⟨rfl,rfl⟩))
 clear hadd hlen c0
 go_loopw [2,13] (fun n i wr=>∃ k:Nat,k≤l.length∧i=.int .i64 k∧n=.int .u32 (cnt (l.take k))∧MakeAt w b bv v l asked (q1o l k) wr) (fun _ i _=>l.length - (intOf i).toNat)
 case atStart=>exact⟨0,Nat.zero_le _,rfl,rfl,hM⟩
 case round =>
  obtain⟨k,hk,rfl,rfl,hM⟩:=hrel
  obtain⟨av,hb1,hv1,hown,hav,hkw⟩:=hM
  have hcl:=q6z (l.take k)
  have hcl2:(l.take k).length≤k:=List.length_take_le _ _
  have hp:cnt (l.take k)≤100000000:=by omega
  have hal:=q9k l k
  have hsw:=hkw.size
  by_cases hlt:k<l.length
  ·have hcs:=qbd l k hlt
   have hy:(l.getD k false).toNat≤1:=by cases l.getD k false <;> simp
   by_cases hm:k % 512=0
   ·have ht:((k:Int) % 512 == 0)=true:=by simp;omega
    have hah:=qes l k hm
    have HH:=Lib.hid (And.intro hah (And.intro hcs hm))
    have HB:=Lib.hid hb1
    have c4:wr.cell? ⟨b,4,none⟩=some av:=World.cell_of_heap hb1 4
    have hlen:(q1o l k).length≤1000000:=by omega
    clear hah hcs hm hb1 hal hcl hcl2
    go_wp2_with (at_builtin;refine wpList_append_lies _ rfl _ _ _ rfl 0 49 i (.int .u32 0) 1 4 Tryz.underlying353 hi hz0 hz1 hz2 rfl (by decide) av (q1o l k).length _ rfl (hown.alloc _) ⟨wr.heap.size,0,none⟩ 1 1 [.int .u32 (cnt (l.take k):Nat)] rfl rfl (cell_one_new _ _ _) ?c2 (by decide) ?c3 ?c4 ?c5 (wr.heap.size+1) (by simp) ?_)
    case c2=>intro u hu;simp at hu;subst hu;rfl
    case c3=>unfold maxLen;omega
    case c4=>omega
    case c5=>simp
    intro g cap w1 hown1 hgrow hat hgl
    have hM2:=MakeAt.step HB.out hv1 hbo hav hbw hvw hvo hkw hown1 hgrow hat
    obtain⟨av2,hb2,hv2,hown2,hav2,hkw2⟩:=hM2
    have k1:Keeps (fun k=>av.ownBlock=some k) wr w1:=((Keeps.refl _ wr).alloc _).grown hgrow (fun k hk=>.inl hk)
    have hb3:=k1.at HB.out (fun h=>by have:=hav b h;omega)
    have d4:w1.cell? ⟨b,4,none⟩=some av:=World.cell_of_heap hb3 4
    have d0:w1.cell? ⟨b,0,none⟩=some (.pointer (some ⟨bv,0,none⟩)):=World.cell_of_heap hb3 0
    have f4:=World.free_of_heap hb3 4
    have hA:=at_in bv v l k _ hv2 hlt (by omega)
    have HM:=Lib.hid (And.intro hb2 (And.intro hv2 (And.intro hown2 (And.intro hav2 hkw2))))
    clear hb2 hv2 hown2 hav2 hkw2 k1 hb3 hown1 hgrow hat hown c4
    generalize (l.getD k false).toNat=y at *
    go_wp2_with (go_at_call 195;refine hA.mono ?_;rintro e w2 ⟨rfl,rfl⟩)
    go_roundw
    case rel=>exact⟨k+1,by omega,by go_num,by rw[HH.out.2.1];go_num,by rw[HH.out.1];exact⟨_,HM.out⟩⟩
    case measure=>simp[intOf];omega
   ·have ht:((k:Int) % 512 == 0)=false:=by simp;omega
    have hah:=qd2 l k hm
    have HH:=Lib.hid (And.intro hah (And.intro hcs hm))
    have d0:wr.cell? ⟨b,0,none⟩=some (.pointer (some ⟨bv,0,none⟩)):=World.cell_of_heap hb1 0
    have hA:=at_in bv v l k _ hv1 hlt (by omega)
    have HM:=Lib.hid (And.intro hb1 (And.intro hv1 (And.intro hown (And.intro hav hkw))))
    clear hah hcs hm hb1 hal hcl hcl2 hv1 hown hav hkw
    generalize (l.getD k false).toNat=y at *
    go_wp2_with (go_at_call 195;refine hA.mono ?_;rintro e w2 ⟨rfl,rfl⟩)
    go_roundw
    case rel=>exact⟨k+1,by omega,by go_num,by rw[HH.out.2.1];go_num,by rw[HH.out.1];exact⟨_,HM.out⟩⟩
    case measure=>simp[intOf];omega
  ·obtain rfl:k=l.length:=by omega
   have hta:l.take l.length=l:=List.take_of_length_le (Nat.le_refl _)
   rw[hta] at hp ⊢
   have HL:=Lib.hid (qd3 l)
   have HB:=Lib.hid hb1
   have c4:wr.cell? ⟨b,4,none⟩=some av:=World.cell_of_heap hb1 4
   have hlen:(q1o l l.length).length≤1000000:=by omega
   clear hta hal hcl hcl2 hb1
   go_wp2_with (at_builtin;refine wpList_append_lies _ rfl _ _ _ rfl 0 49 i (.int .u32 0) 1 4 Tryz.underlying353 hi hz0 hz1 hz2 rfl (by decide) av (q1o l l.length).length _ rfl (hown.alloc _) ⟨wr.heap.size,0,none⟩ 1 1 [.int .u32 (cnt l:Nat)] rfl rfl (cell_one_new _ _ _) ?d2 (by decide) ?d3 ?d4 ?d5 (wr.heap.size+1) (by simp) ?_)
   case d2=>intro u hu;simp at hu;subst hu;rfl
   case d3=>unfold maxLen;omega
   case d4=>omega
   case d5=>simp
   intro g cap w1 hown1 hgrow hat hgl
   have hM2:=MakeAt.step HB.out hv1 hbo hav hbw hvw hvo hkw hown1 hgrow hat
   have k1:Keeps (fun k=>av.ownBlock=some k) wr w1:=((Keeps.refl _ wr).alloc _).grown hgrow (fun k hk=>.inl hk)
   have hb3:=k1.at HB.out (fun h=>by have:=hav b h;omega)
   have d4:w1.cell? ⟨b,4,none⟩=some av:=World.cell_of_heap hb3 4
   have f4:=World.free_of_heap hb3 4
   have HM:=Lib.hid hM2
   clear hM2 k1 hb3 hown1 hgrow hat hown c4
   go_wp2
   go_end0
   exact⟨rfl,by rw[HL.out];exact HM.out⟩
end
section
open Go.RowKit
def grow (F:Nat→Prop) (w w':World):Nat→Prop:=fun k=>F k∨(w.heap.size≤k∧k<w'.heap.size)
theorem qjv (b:Nat) (W:World):(callFunc 298 #[.pointer (some ⟨b,0,none⟩)]).run Tryz.prog W=.ok (.enter 298 #[.pointer (some ⟨b,0,none⟩)]) W:=by
 go_simp
theorem qd5 (b:Nat) (l:List Bool) (done:Bool) (asked:Nat) (F:Nat→Prop) (w:World) (h:IdxAt w b l done asked F) :
  Calls Tryz.prog 117 #[.pointer (some ⟨b,1,none⟩),.func (.func 298) #[.pointer (some ⟨b,0,none⟩)] #[]] w fun e w'=>e=.returned (.tuple #[])∧IdxAt w' b l true asked (grow F w w')∧Keeps F w w':=by
 obtain⟨⟨bv,v,av,hb,hv,hd,Fb,Fbv,Fv,Fa⟩,hle,hold⟩:=h
 cases done with
 | true =>
  have c1:w.cell? ⟨b,1,none⟩=some (.int .u32 1):=World.cell_of_heap hb 1
  refine (qdp ⟨b,1,none⟩ _ w c1).mono ?_
  rintro e w' ⟨rfl,rfl⟩
  exact⟨rfl,⟨⟨bv,v,av,hb,hv,hd,.inl Fb,.inl Fbv,fun k hk=>.inl (Fv k hk),fun k hk=>.inl (Fa k hk)⟩,hle,fun k hk=>hk.elim (hold k) (fun h=>h.2)⟩,Keeps.refl _ _⟩
 | false =>
  have hav:av=.slice none 0 0:=hd
  subst hav
  have hbv:bv≠b:=by
   rintro rfl
   have:=hv.1
   rw[hb] at this
   simp at this
  have hbo:v.ownBlock≠some b:=by
   intro hk
   obtain⟨_,_,h2⟩:=hv
   rcases h2 with⟨rfl,_⟩|⟨g,cap,cur,rfl,_,hg,_⟩
   ·simp[Value.ownBlock] at hk
   ·simp only [Value.ownBlock,Option.some.injEq] at hk
    subst hk
    rw[hb] at hg
    simp at hg
  have c1:w.cell? ⟨b,1,none⟩=some (.int .u32 0):=World.cell_of_heap hb 1
  have c2:w.cell? ⟨b,1+1,none⟩=some (.int .i32 0):=World.cell_of_heap hb 2
  have hw0:(w.setCell ⟨b,1+1,none⟩ (.int .i32 1)).heap[b]? = some (.cells (q26 bv false 1 (.slice none 0 0) 0 asked) 355 (0,0)):=q00 hb 2 _
  have k0:Keeps (fun k=>k=b) w (w.setCell ⟨b,1+1,none⟩ (.int .i32 1)):=(Keeps.refl (fun k=>k=b) w).setCell (p:=⟨b,1+1,none⟩) (.inl rfl) _
  have hv0:=hv.keeps k0 hbv (fun k hk h=>hbo (by rw[← h];exact hk))
  have hM:=qd4 b bv v l asked _ hw0 hv0 hle hbo
  refine (q7k b 1 298 #[.pointer (some ⟨b,0,none⟩)] (fun w1=>MakeAt (w.setCell ⟨b,1+1,none⟩ (.int .i32 1)) b bv v l asked (ahead l) w1) w (qjv b) c1 c2 (World.free_of_heap hb 2) (hM.mono ?_)).mono ?_
  ·rintro e w1 ⟨rfl,hm⟩
   have hm':=hm
   obtain⟨a1,hb1,_⟩:=hm'
   exact⟨rfl,World.cell_of_heap hb1 1,World.cell_of_heap hb1 2,World.free_of_heap hb1 1,World.free_of_heap hb1 2,hm⟩
  ·rintro e w' ⟨rfl,w1,⟨a1,hb1,hv1,ho1,ha1,k1⟩,rfl⟩
   have hb2:(w1.drew.setCell ⟨b,1,none⟩ (.int .u32 1)).heap[b]? = some (.cells (q26 bv true 1 a1 1 asked) 355 (0,0)):=q00 (w:=w1.drew) hb1 1 _
   have hb3:((w1.drew.setCell ⟨b,1,none⟩ (.int .u32 1)).setCell ⟨b,1+1,none⟩ (.int .i32 0)).heap[b]? = some (.cells (q26 bv true 0 a1 1 asked) 355 (0,0)):=q00 hb2 2 _
   have k2:Keeps (fun k=>k=b) w1 ((w1.drew.setCell ⟨b,1,none⟩ (.int .u32 1)).setCell ⟨b,1+1,none⟩ (.int .i32 0)):=((Keeps.refl (fun k=>k=b) w1).drew.setCell (p:=⟨b,1,none⟩) (.inl rfl) _).setCell (p:=⟨b,1+1,none⟩) (.inl rfl) _
   have k3:=(k0.trans k1 (fun x _ h=>h)).trans k2 (fun x _ h=>h)
   have hlt1:∀ k,a1.ownBlock=some k→w.heap.size≤k∧k<w1.heap.size:=fun k hk=>⟨by have:=ha1 k hk;simpa using this,(ho1.lt k hk).2⟩
   refine⟨rfl,⟨⟨bv,v,a1,hb3,hv1.keeps k2 hbv (fun k hk h=>hbo (by rw[← h];exact hk)),?_,.inl Fb,.inl Fbv,fun k hk=>.inl (Fv k hk),fun k hk=>.inr ?_⟩,hle,?_⟩,k3.mono (fun x _ h=>by rw[h];exact Fb)⟩
   ·exact k2.owns ho1 (fun k hk h=>by have:=(hlt1 k hk).1;have:=hold b Fb;omega)
   ·have:=hlt1 k hk;simpa using this
   ·intro k hk
    rcases hk with hk|hk
    ·exact Nat.lt_of_lt_of_le (hold k hk) k3.size
    ·exact hk.2
theorem IdxAt.keeps {w w':World} {b:Nat} {l:List Bool} {done:Bool} {asked:Nat} {F G:Nat→Prop} (h:IdxAt w b l done asked F) (k:Keeps G w w') (hd:∀ x,F x→¬ G x):IdxAt w' b l done asked F:=by
 obtain⟨⟨bv,v,av,hb,hv,hdir,Fb,Fbv,Fv,Fa⟩,hle,hold⟩:=h
 refine⟨⟨bv,v,av,k.at hb (hd b Fb),hv.keeps k (hd bv Fbv) (fun x hx=>hd x (Fv x hx)),?_,Fb,Fbv,Fv,Fa⟩,hle,fun x hx=>Nat.lt_of_lt_of_le (hold x hx) k.size⟩
 cases done with
 | true=>exact k.owns (show w.ownsRow _ _ _ _ _ _ from hdir) (fun x hx=>hd x (Fa x hx))
 | false=>exact hdir
theorem IdxAt.mono {w:World} {b:Nat} {l:List Bool} {done:Bool} {asked:Nat} {F G:Nat→Prop} (h:IdxAt w b l done asked F) (hG:∀ x,F x→G x) (hold:∀ x,G x→x<w.heap.size):IdxAt w b l done asked G:=by
 obtain⟨⟨bv,v,av,hb,hv,hdir,Fb,Fbv,Fv,Fa⟩,hle,_⟩:=h
 exact⟨⟨bv,v,av,hb,hv,hdir,hG _ Fb,hG _ Fbv,fun x hx=>hG _ (Fv x hx),fun x hx=>hG _ (Fa x hx)⟩,hle,hold⟩
def ofZ (bit ones all:Int):Int:=if bit=1 then ones else all - ones
theorem qgb (bit ones all:Int) (w:World) (h:-1000000000≤ones∧ones≤1000000000∧-1000000000≤all∧all≤1000000000000) :
  Calls Tryz.prog 293 #[.int .i64 bit,.int .i64 ones,.int .i64 all] w fun e w'=>e=.returned (.int .i64 (ofZ bit ones all))∧w=w':=by
 unfold ofZ
 by_cases hb:bit=1
 ·subst hb
  go_enter Tryz.func293,Tryz.ntmps293
  go_wp2
  go_ret
  exact⟨by simp,rfl⟩
 ·have ht:(bit == 1)=false:=by simp[hb]
  have HB:=Lib.hid hb
  clear hb
  go_enter Tryz.func293,Tryz.ntmps293
  go_wp2
  go_ret
  exact⟨by simp,rfl⟩
theorem IdxAt.read {w:World} {b:Nat} {l:List Bool} {asked:Nat} {F:Nat→Prop} (h:IdxAt w b l true asked F) :
  ∃ bv v ga cap,w.cell? ⟨b,0,none⟩=some (.pointer (some ⟨bv,0,none⟩))∧VecAt w bv v l∧w.cell? ⟨b,4,none⟩=some (.slice (some ⟨ga,0,none⟩) (ahead l).length cap)∧(ahead l).length≤cap∧cap≤9223372036854775807 ∧
   (ahead l).length=(l.length+511) / 512+1∧∀ k,k<(ahead l).length→w.cell? ⟨ga,k,none⟩=some (.int .u32 (cnt (l.take (512 * k)):Nat)):=by
 obtain⟨⟨bv,v,av,hb,hv,hdir,_,_,_,_⟩,hle,_⟩:=h
 have hal:(ahead l).length=(l.length+511) / 512+1:=by simp[ahead]
 obtain⟨g,cap,rfl,hnc,hcm,hc,_,_⟩:=q0d (show w.ownsRow _ _ _ _ _ _ from hdir) (by omega)
 refine⟨bv,v,g,cap,World.cell_of_heap hb 0,hv,World.cell_of_heap hb 4,hnc,by unfold maxLen at hcm;omega,hal,fun k hk=>(hc k _ ?_).1⟩
 have hk':k<(l.length+511) / 512+1:=by omega
 simp[ahead,hk']
theorem qlv (b:Nat) (l:List Bool) (done:Bool) (asked:Nat) (F:Nat→Prop) (w:World) (n:Nat) (h:IdxAt w b l done asked F) (hn:n≤l.length) :
  Calls Tryz.prog 294 #[.pointer (some ⟨b,0,none⟩),.int .i64 n] w fun e w'=>e=.returned (.int .i64 (cnt (l.take n)))∧IdxAt w' b l true asked (grow F w w')∧Keeps F w w':=by
 have hmf:∀ (fn:Fn) (first cap:Array Value) (w:World),(Instr.makeFunc fn first cap).run Tryz.prog w=.ok (.func fn first cap) w:=fun _ _ _ _=>rfl
 have hDo:=qd5 b l done asked F w h
 have hle:=h.le
 clear h
 go_enter Tryz.func294,Tryz.ntmps294
 go_wp2_with (go_at_call 117;refine hDo.mono ?_;rintro e w1 ⟨rfl,hI,hK⟩)
 clear hDo hmf
 obtain⟨bv,v,ga,cap,c0,hv,c4,hnc,hcm,hal,hcell⟩:=hI.read
 have hkb:n / 512<(ahead l).length:=by omega
 have hck:=hcell (n / 512) hkb
 have hmin:((n / 512:Nat):Int)≤((ahead l).length:Int) - 1:=by omega
 have hal2:(ahead l).length≤1000000:=by omega
 have hcl:=q6z (l.take (512 * (n / 512)))
 have hcl2:(l.take (512 * (n / 512))).length≤l.length:=List.length_take_le' _ _
 have hcl3:cnt (l.take (512 * (n / 512)))≤100000000:=by omega
 have HP:=Lib.hid (And.intro hI hK)
 clear hI hK hcell hal hcl hcl2
 generalize (ahead l).length=m at *
 go_region
 all_goals
  go_wp2
  have hvd:VecAt w1.drew bv v l:=hv.keeps ((Keeps.refl (fun _=>False) w1).drew) (fun h=>h) (fun _ _ h=>h)
  have hK2:IdxAt w1.drew b l true asked (grow F w w1.drew)∧Keeps F w w1.drew:=⟨HP.out.1.keeps ((Keeps.refl (fun _=>False) w1).drew) (fun _ _ h=>h),HP.out.2.drew⟩
  have c0d:w1.drew.cell? ⟨b,0,none⟩=some (.pointer (some ⟨bv,0,none⟩)):=c0
  have HK2:=Lib.hid hK2
  clear hK2 HP hv c0 c4 hck hnc hkb hmin hal2
  generalize w1.drew=w2 at *
  go_loop [6,7] (fun s i=>∃ k:Nat,k≤n∧i=.int .i64 k∧s=.int .i64 (cnt (l.take k))) (fun _ i=>n - (intOf i).toNat)
  case atStart=>exact⟨512 * (n / 512),by omega,by go_num,rfl⟩
  case round =>
   obtain⟨k,hk,rfl,rfl⟩:=hrel
   by_cases hlt:k<n
   ·have hA:=at_in bv v l k _ hvd (by omega) (by omega)
    have hcs:=qbd l k (by omega)
    have hy:(l.getD k false).toNat≤1:=by cases l.getD k false <;> simp
    have hcl:=q6z (l.take k)
    have hcl2:(l.take k).length≤l.length:=List.length_take_le' _ _
    have hp:cnt (l.take k)≤100000000:=by omega
    have HC:=Lib.hid hcs
    clear hcs hcl hcl2 hcl3
    generalize (l.getD k false).toNat=y at *
    generalize cnt (l.take k)=p at *
    go_wp2_with (go_at_call 195;refine hA.mono ?_;rintro e w' ⟨rfl,rfl⟩)
    go_round
    case rel=>exact⟨k+1,by omega,by go_num,by rw[HC.out];go_num⟩
    case measure=>simp[intOf];omega
   ·obtain rfl:k=n:=by omega
    clear hcl3
    go_wp2
    go_ret
    exact⟨rfl,HK2.out⟩
theorem qae (b:Nat) (l:List Bool) (done:Bool) (asked:Nat) (F:Nat→Prop) (w:World) (h:IdxAt w b l done asked F) (ha:asked≤1000000000000) :
  Calls Tryz.prog 292 #[.pointer (some ⟨b,6,none⟩),.int .i64 1] w fun e w'=>e=.returned (.int .i64 ((asked:Int)+1))∧IdxAt w' b l done (asked+1) F∧Keeps F w w'∧w'.heap.size=w.heap.size:=by
 obtain⟨⟨bv,v,av,hb,hv,hd,Fb,Fbv,Fv,Fa⟩,hle,hold⟩:=h
 refine (add64 ⟨b,6,none⟩ asked 1 w (World.cell_of_heap hb 6) (World.free_of_heap hb 6) (by omega)).mono ?_
 rintro e w' ⟨rfl,rfl⟩
 have hb2:(w.setCell ⟨b,6,none⟩ (.int .i64 ((asked:Int)+1))).heap[b]? = some (.cells (q26 bv done 0 av (if done then 1 else 0) ((asked+1:Nat):Int)) 355 (0,0)):=q00 hb 6 _
 have k1:Keeps (fun k=>k=b) w (w.setCell ⟨b,6,none⟩ (.int .i64 ((asked:Int)+1))):=(Keeps.refl (fun k=>k=b) w).setCell (p:=⟨b,6,none⟩) (.inl rfl) _
 have hbv:bv≠b:=by
  rintro rfl
  have:=hv.1
  rw[hb] at this
  simp at this
 have hbo:v.ownBlock≠some b:=by
  intro hk
  obtain⟨_,_,h2⟩:=hv
  rcases h2 with⟨rfl,_⟩|⟨g,cap,cur,rfl,_,hg,_⟩
  ·simp[Value.ownBlock] at hk
  ·simp only [Value.ownBlock,Option.some.injEq] at hk
   subst hk
   rw[hb] at hg
   simp at hg
 refine⟨rfl,⟨⟨bv,v,av,hb2,hv.keeps k1 hbv (fun k hk h=>hbo (by rw[← h];exact hk)),?_,Fb,Fbv,Fv,Fa⟩,hle,fun x hx=>by simpa using hold x hx⟩,k1.mono (fun x _ h=>by rw[h];exact Fb),by simp⟩
 cases done with
 | false=>exact hd
 | true =>
  refine k1.owns (show w.ownsRow _ _ _ _ _ _ from hd) (fun k hk h=>?_)
  subst h
  obtain⟨_,h2⟩:=(show w.ownsRow _ _ _ _ _ _ from hd)
  rcases h2 with⟨rfl,_⟩|⟨g,cap,cur,rfl,_,hg,_⟩
  ·simp[Value.ownBlock] at hk
  ·simp only [Value.ownBlock,Option.some.injEq] at hk
   subst hk
   rw[hb] at hg
   simp at hg
theorem q3d (b:Nat) (l:List Bool) (done:Bool) (asked:Nat) (F:Nat→Prop) (w:World) (h:IdxAt w b l done asked F) :
  Calls Tryz.prog 260 #[.pointer (some ⟨b,0,none⟩)] w fun e w'=>e=.returned (.int .i64 l.length)∧w=w':=by
 obtain⟨⟨bv,v,av,hb,hv,hd,Fb,Fbv,Fv,Fa⟩,hle,hold⟩:=h
 have c0:w.cell? ⟨b,0,none⟩=some (.pointer (some ⟨bv,0,none⟩)):=World.cell_of_heap hb 0
 have hlen:=q1c bv v l w hv
 clear hb hv hd
 go_enter Tryz.func260,Tryz.ntmps260
 go_wp2_with (go_at_call 99;refine hlen.mono ?_;rintro e w' ⟨rfl,rfl⟩)
 go_ret
 exact⟨rfl,rfl⟩
theorem qet (b:Nat) (l:List Bool) (done:Bool) (asked:Nat) (F:Nat→Prop) (w:World) (h:IdxAt w b l done asked F) :
  Calls Tryz.prog 297 #[.pointer (some ⟨b,0,none⟩)] w fun e w'=>e=.returned (.int .i64 (cnt l))∧w=w':=by
 obtain⟨⟨bv,v,av,hb,hv,hd,Fb,Fbv,Fv,Fa⟩,hle,hold⟩:=h
 have c0:w.cell? ⟨b,0,none⟩=some (.pointer (some ⟨bv,0,none⟩)):=World.cell_of_heap hb 0
 have hO:=qkr bv v l w hv (by omega)
 clear hb hv hd
 go_enter Tryz.func297,Tryz.ntmps297
 go_wp2_with (go_at_call 309;refine hO.mono ?_;rintro e w' ⟨rfl,rfl⟩)
 go_ret
 exact⟨rfl,rfl⟩
theorem q6a (b:Nat) (l:List Bool) (done:Bool) (asked:Nat) (F:Nat→Prop) (i:Int) (w:World) (h:IdxAt w b l done asked F) :
  Calls Tryz.prog 282 #[.pointer (some ⟨b,0,none⟩),.int .i64 i] w fun e w'=>e=.returned (.int .i64 (atZ l i))∧w=w':=by
 obtain⟨⟨bv,v,av,hb,hv,hd,Fb,Fbv,Fv,Fa⟩,hle,hold⟩:=h
 have c0:w.cell? ⟨b,0,none⟩=some (.pointer (some ⟨bv,0,none⟩)):=World.cell_of_heap hb 0
 have hA:=qf6 bv v l i w hv (by omega)
 clear hb hv hd
 go_enter Tryz.func282,Tryz.ntmps282
 go_wp2_with (go_at_call 195;refine hA.mono ?_;rintro e w' ⟨rfl,rfl⟩)
 go_ret
 exact⟨rfl,rfl⟩
end
section
open Go.RowKit
theorem q6u {F:Nat→Prop} {w w1 w2:World} (h1:w.heap.size≤w1.heap.size) (h2:w1.heap.size≤w2.heap.size):∀ x,grow (grow F w w1) w1 w2 x→grow F w w2 x:=by
 rintro x ((h|h)|h)
 ·exact .inl h
 ·exact .inr ⟨h.1,by omega⟩
 ·exact .inr ⟨by omega,h.2⟩
theorem q0x {F:Nat→Prop} {w w':World} (hF:∀ x,F x→x<w.heap.size) (hs:w.heap.size≤w'.heap.size):∀ x,grow F w w' x→x<w'.heap.size:=by
 rintro x (h|h)
 ·exact Nat.lt_of_lt_of_le (hF x h) hs
 ·exact h.2
def qeu (p:Nat→Bool) (n r:Nat):Prop:=r≤n∧(∀ i,i<r→p i=false)∧(r<n→p r=true)
def rk (l:List Bool) (bit:Int) (n:Nat):Int:=ofZ bit (cnt (l.take n)) n
def IdxAfter (w:World) (b:Nat) (l:List Bool) (done:Bool) (asked:Nat) (F:Nat→Prop) (w':World):Prop :=
 IdxAt w' b l done asked (grow F w w')∧Keeps F w w'
theorem IdxAfter.of_trans {w w1 w2:World} {b:Nat} {l:List Bool} {done:Bool} {asked:Nat} {F:Nat→Prop} (k1:Keeps F w w1) (hs:w1.heap.size=w.heap.size) (hF:∀ x,F x→x<w.heap.size) (h:IdxAt w2 b l done asked (grow F w1 w2)) (k2:Keeps F w1 w2):IdxAfter w b l done asked F w2 :=
 ⟨h.mono (fun x hx=>by unfold grow at *;rw[hs] at hx;exact hx) (q0x hF (Nat.le_trans k1.size k2.size)),k1.trans k2 (fun _ _ h=>h)⟩
theorem qjw (b:Nat) (l:List Bool) (done:Bool) (asked:Nat) (F:Nat→Prop) (bit:Int) (n:Nat) (w:World) (h:IdxAt w b l done asked F) (ha:asked≤1000000000000) (hb:bit=0∨bit=1) (hn:n≤l.length) :
  Calls Tryz.prog 284 #[.pointer (some ⟨b,0,none⟩),.int .i64 bit,.int .i64 n] w fun e w'=>e=.returned (.tuple #[.int .i64 (rk l bit n),.int .i64 0])∧IdxAfter w b l true (asked+1) F w':=by
 have hle:=h.le
 have hold:=h.old
 have hAsk:=qae b l done asked F w h ha
 have hcl:=q6z (l.take n)
 have hcl2:(l.take n).length≤l.length:=List.length_take_le' _ _
 have hcnt:0≤(cnt (l.take n):Int)∧(cnt (l.take n):Int)≤100000000:=by omega
 clear h hcl hcl2
 have hof:=fun W=>qgb bit (cnt (l.take n)) n W (by omega)
 unfold rk
 rcases hb with rfl|rfl
 all_goals
  go_enter Tryz.func284,Tryz.ntmps284
  go_wp2_with (first | (go_at_call 292;refine hAsk.mono ?_;rintro e w1 ⟨rfl,hI1,hK1,hS1⟩) | (go_at_call 260;refine (q3d b l done _ F _ hI1).mono ?_;rintro e w' ⟨rfl,rfl⟩) | (go_at_call 294;refine (qlv b l done _ F _ n hI1 hn).mono ?_;rintro e w2 ⟨rfl,hI2,hK2⟩) | (go_at_call 293;refine (hof _).mono ?_;rintro e w' ⟨rfl,rfl⟩))
  go_ret2
  exact⟨rfl,IdxAfter.of_trans hK1 hS1 hold hI2 hK2⟩
end
section
theorem qev (l:List Bool) (bit:Int):rk l bit 0=0:=by unfold rk ofZ;split <;> simp[cnt]
theorem q6v (l:List Bool) (bit:Int) (n:Nat) (hb:bit=0∨bit=1) (h:n<l.length):rk l bit (n+1)=rk l bit n+(if ((l.getD n false).toNat:Int)=bit then 1 else 0):=by
 have hc:=qbd l n h
 unfold rk ofZ
 rw[hc]
 rcases hb with rfl|rfl
 ·cases l.getD n false <;> simp <;> omega
 ·cases l.getD n false <;> simp
theorem qnj (l:List Bool) (bit:Int) (hb:bit=0∨bit=1) (a:Nat):∀ d,a+d≤l.length→rk l bit a≤rk l bit (a+d):=by
 intro d
 induction d with
 | zero=>intro _;exact Int.le_refl _
 | succ d ih =>
  intro h
  have h1:=ih (by omega)
  have h2:=q6v l bit (a+d) hb (by omega)
  rw[show a+(d+1)=a+d+1 by omega,h2]
  split <;> omega
theorem rk_le (l:List Bool) (bit:Int) (hb:bit=0∨bit=1) {a c:Nat} (h:a≤c) (hc:c≤l.length):rk l bit a≤rk l bit c:=by
 have:=qnj l bit hb a (c - a) (by omega)
 rwa [show a+(c - a)=c by omega] at this
theorem q4b (l:List Bool) (bit:Int) (hb:bit=0∨bit=1) (n:Nat) (h:n≤l.length):0≤rk l bit n∧rk l bit n≤n:=by
 induction n with
 | zero=>rw[qev];omega
 | succ n ih =>
  have h1:=ih (by omega)
  have h2:=q6v l bit n hb (by omega)
  rw[h2]
  split <;> omega
theorem q7e (l:List Bool) (n:Nat):cnt (l.take n)=cnt (l.take (min n l.length)):=by
 by_cases h:n≤l.length
 ·rw[Nat.min_eq_left h]
 ·rw[Nat.min_eq_right (by omega),List.take_of_length_le (by omega),List.take_of_length_le (by omega)]
def selP (l:List Bool) (bit k:Int) (i:Nat):Bool:=decide (k<ofZ bit (cnt (l.take (512 * i))) (min (512 * i) l.length:Nat))
theorem qbe (l:List Bool) (bit k:Int) (i:Nat):selP l bit k i=decide (k<rk l bit (min (512 * i) l.length)):=by
 unfold selP rk
 rw[q7e]
theorem qjx (l:List Bool) (bit k:Int) (hb:bit=0∨bit=1) (i j:Nat) (hij:i≤j) (h:selP l bit k i=true):selP l bit k j=true:=by
 rw[qbe] at *
 have h1:=of_decide_eq_true h
 have h2:=rk_le l bit hb (a:=min (512 * i) l.length) (c:=min (512 * j) l.length) (by omega) (by omega)
 exact decide_eq_true (by omega)
def IsSel (l:List Bool) (bit k:Int) (n:Nat):Prop:=n<l.length∧((l.getD n false).toNat:Int)=bit∧rk l bit n=k
theorem IsSel.unique {l:List Bool} {bit k:Int} (hb:bit=0∨bit=1) {a c:Nat} (h1:IsSel l bit k a) (h2:IsSel l bit k c):a=c:=by
 rcases Nat.lt_trichotomy a c with h|h|h
 ·have h3:=q6v l bit a hb h1.1
  rw[if_pos h1.2.1,h1.2.2] at h3
  have h4:=rk_le l bit hb (a:=a+1) (c:=c) (by omega) (by have:=h2.1;omega)
  rw[h2.2.2] at h4
  omega
 ·exact h
 ·have h3:=q6v l bit c hb h2.1
  rw[if_pos h2.2.1,h2.2.2] at h3
  have h4:=rk_le l bit hb (a:=c+1) (c:=a) (by omega) (by have:=h1.1;omega)
  rw[h1.2.2] at h4
  omega
theorem qjy {l:List Bool} {bit k:Int} (h0:0≤k) (hk:k<rk l bit l.length) {r:Nat} (h:qeu (selP l bit k) ((l.length+511) / 512+1) r) :
  1≤r∧r≤(l.length+511) / 512∧512 * (r - 1)≤l.length∧rk l bit (512 * (r - 1))≤k:=by
 obtain⟨h1,h2,h3⟩:=h
 have hz:selP l bit k 0=false:=by rw[qbe];simp[qev];omega
 have hl:selP l bit k ((l.length+511) / 512)=true:=by
  rw[qbe,Nat.min_eq_right (by omega)]
  exact decide_eq_true hk
 have r1:1≤r:=by
  rcases Nat.eq_zero_or_pos r with rfl|h
  ·rw[h3 (by omega)] at hz;cases hz
  ·exact h
 have r2:r≤(l.length+511) / 512:=by
  rcases Nat.lt_or_ge ((l.length+511) / 512) r with h|h
  ·rw[h2 _ h] at hl;cases hl
  ·exact h
 have r3:=h2 (r - 1) (by omega)
 rw[qbe] at r3
 have r4:=of_decide_eq_false r3
 rw[Nat.min_eq_left (by omega)] at r4
 exact⟨r1,r2,by omega,by omega⟩
end
section
open Go.RowKit
theorem q1h {P:Program} {f:FuncId} {args:Array Value} {w:World} {n:Nat} {v:Value}
  (h:Calls P f args (w.drewN n) fun e w'=>e=.returned v∧w.drewN n=w'):Calls P f args (w.drewN n) fun e w''=>e=.returned v∧∃ m,w''=w.drewN m :=
 h.mono fun _ _ ⟨he,hm⟩=>⟨he,n,hm.symm⟩
theorem qh8 (K:FuncId) (a1 a2 a3:Addr) (p:Nat→Bool) (n:Nat) (I:World→Prop) (w:World) (hn:n≤1000000000) (hw:I w)
  (hfn:∀ (i:Int) W,(callFunc K #[.int .i64 i,.pointer (some a1),.pointer (some a2),.pointer (some a3)]).run Tryz.prog W=.ok (.enter K #[.int .i64 i,.pointer (some a1),.pointer (some a2),.pointer (some a3)]) W)
  (hcall:∀ (i:Nat) W,i<n→I W→Calls Tryz.prog K #[.int .i64 i,.pointer (some a1),.pointer (some a2),.pointer (some a3)] W fun e W'=>e=.returned (.bool (p i))∧I W')
  (hmono:∀ i j,i≤j→p i=true→p j=true) :
  Calls Tryz.prog 299 #[.int .i64 n,.func (.func K) #[] #[.pointer (some a1),.pointer (some a2),.pointer (some a3)]] w fun e w'=>∃ r,e=.returned (.int .i64 (r:Nat))∧qeu p n r∧I w':=by
 have hnot:∀ (x:Bool) (w:World),(Op.unary .not (.bool x)).run Tryz.prog w=.ok (.bool (!x)) w:=fun _ _=>rfl
 have HC:=Lib.hid hcall
 have HM:=Lib.hid hmono
 clear hcall hmono
 go_enter Tryz.func299,Tryz.ntmps299
 go_wp2_with fail
 go_loopw [5,6] (fun i j wr=>∃ x y:Nat,i=.int .i64 x∧j=.int .i64 y∧x≤y∧y≤n∧(∀ k,k<x→p k=false)∧(y<n→p y=true)∧I wr) (fun i j _=>((intOf j) - (intOf i)).toNat)
 case atStart=>exact⟨0,n,rfl,rfl,Nat.zero_le _,Nat.le_refl _,fun k hk=>by omega,fun h=>by omega,hw⟩
 case round =>
  obtain⟨x,y,rfl,rfl,hxy,hy,hlo,hhi,hI⟩:=hrel
  have HL:=Lib.hid (And.intro hlo hhi)
  clear hlo hhi hw
  by_cases hlt:x<y
  ·have hc:=HC.out ((x+y) / 2) wr (by omega) hI
   have hm:(((x+y) / 2:Nat):Int)=((x:Int)+(y:Int)) / 2:=by omega
   rw[hm] at hc
   clear hm
   cases hp:p ((x+y) / 2)
   ·rw[hp] at hc
    have HP:=Lib.hid hp
    clear hp
    go_wp2_with fail
    refine hc.mono ?_
    rintro e w2 ⟨rfl,hI2⟩
    clear hc
    go_wp2
    go_roundw
    case rel =>
     refine⟨(x+y) / 2+1,y,by go_num,rfl,by omega,hy,fun k hk=>?_,HL.out.2,hI2⟩
     cases hq:p k
     ·rfl
     ·have:=HM.out k ((x+y) / 2) (by omega) hq
      rw[HP.out] at this
      cases this
    case measure=>simp[intOf];omega
   ·rw[hp] at hc
    have HP:=Lib.hid hp
    clear hp
    go_wp2_with fail
    refine hc.mono ?_
    rintro e w2 ⟨rfl,hI2⟩
    clear hc
    go_wp2
    go_roundw
    case rel=>exact⟨x,(x+y) / 2,rfl,by go_num,by omega,by omega,HL.out.1,fun _=>HP.out,hI2⟩
    case measure=>simp[intOf];omega
  ·obtain rfl:x=y:=by omega
   go_wp2
   go_ret
   exact⟨x,rfl,⟨hy,HL.out.1,HL.out.2⟩,hI⟩
theorem qlw (bx bb bk b:Nat) (l:List Bool) (asked:Nat) (F:Nat→Prop) (bit k:Int) (i:Nat) (w:World) (h:IdxAt w b l true asked F)
  (hx:w.cell? ⟨bx,0,none⟩=some (.pointer (some ⟨b,0,none⟩))) (hb:w.cell? ⟨bb,0,none⟩=some (.int .i64 bit)) (hk:w.cell? ⟨bk,0,none⟩=some (.int .i64 k))
  (hi:i<(l.length+511) / 512+1) :
  Calls Tryz.prog 300 #[.int .i64 i,.pointer (some ⟨bx,0,none⟩),.pointer (some ⟨bb,0,none⟩),.pointer (some ⟨bk,0,none⟩)] w fun e w' =>
   e=.returned (.bool (decide (k<ofZ bit (cnt (l.take (512 * i))) (min (512 * i) l.length:Nat))))∧∃ n,w'=w.drewN n:=by
 have hle:=h.le
 have hlen:=q3d b l true asked F w h
 obtain⟨bv,v,ga,cap,c0,hv,c4,hnc,hcm,hal,hcell⟩:=h.read
 have hck:=hcell i (by omega)
 have hcl:=q6z (l.take (512 * i))
 have hcl2:(l.take (512 * i)).length≤l.length:=List.length_take_le' _ _
 have hcl3:cnt (l.take (512 * i))≤100000000:=by omega
 have him:i<(ahead l).length:=by omega
 have hof:=fun z hz W=>qgb bit (cnt (l.take (512 * i))) z W hz
 clear hcell hcl hcl2 h hv hal
 generalize (ahead l).length=m at *
 generalize cnt (l.take (512 * i))=y at *
 by_cases hmin:512 * i≤l.length
 ·rw[Nat.min_eq_left hmin]
  have hof:=hof ((i:Int) * 512) (by omega)
  have e1:(((512 * i:Nat)):Int)=(i:Int) * 512:=by omega
  rw[e1]
  have h2:(i:Int) * 512≤(l.length:Int):=by omega
  clear e1
  go_enter Tryz.func300,Tryz.ntmps300
  go_wp2_with (go_at_call 260;refine hlen.mono ?_;rintro e w' ⟨rfl,rfl⟩)
  all_goals
   go_quiet ((go_at_call 293;exact q1h (hof _)))
   go_wp2
   go_ret
   exact⟨rfl,_,rfl⟩
 ·rw[Nat.min_eq_right (by omega)]
  have hof:=hof (l.length:Int) (by omega)
  have h2:(l.length:Int)<(i:Int) * 512:=by omega
  go_enter Tryz.func300,Tryz.ntmps300
  go_wp2_with (go_at_call 260;refine hlen.mono ?_;rintro e w' ⟨rfl,rfl⟩)
  all_goals
   go_quiet ((go_at_call 293;exact q1h (hof _)))
   go_wp2
   go_ret
   exact⟨rfl,_,rfl⟩
end
section
open Go.RowKit
theorem IdxAt.drewN {w:World} {b:Nat} {l:List Bool} {done:Bool} {asked:Nat} {F:Nat→Prop} (h:IdxAt w b l done asked F) (n:Nat):IdxAt (w.drewN n) b l done asked F :=
 h.keeps ((Keeps.refl (fun _=>False) w).drewN n) (fun _ _ h=>h)
theorem qjz (i:Int) (a1 a2 a3:Addr) (W:World):(callFunc 300 #[.int .i64 i,.pointer (some a1),.pointer (some a2),.pointer (some a3)]).run Tryz.prog W=.ok (.enter 300 #[.int .i64 i,.pointer (some a1),.pointer (some a2),.pointer (some a3)]) W:=by
 go_simp
theorem qbf (bx bb bk b:Nat) (l:List Bool) (asked:Nat) (F:Nat→Prop) (bit k:Int) (w:World) (h:IdxAt w b l true asked F) (hbit:bit=0∨bit=1)
  (hx:w.cell? ⟨bx,0,none⟩=some (.pointer (some ⟨b,0,none⟩))) (hb:w.cell? ⟨bb,0,none⟩=some (.int .i64 bit)) (hk:w.cell? ⟨bk,0,none⟩=some (.int .i64 k)) :
  Calls Tryz.prog 299 #[.int .i64 ((l.length+511) / 512+1:Nat),.func (.func 300) #[] #[.pointer (some ⟨bx,0,none⟩),.pointer (some ⟨bb,0,none⟩),.pointer (some ⟨bk,0,none⟩)]] w fun e w' =>
   ∃ r,e=.returned (.int .i64 (r:Nat))∧qeu (selP l bit k) ((l.length+511) / 512+1) r∧∃ n,w'=w.drewN n:=by
 have hle:=h.le
 refine qh8 300 ⟨bx,0,none⟩ ⟨bb,0,none⟩ ⟨bk,0,none⟩ (selP l bit k) ((l.length+511) / 512+1) (fun W=>∃ n,W=w.drewN n) w (by omega) ⟨0,rfl⟩ (fun i W=>qjz i _ _ _ W) ?_ (fun i j=>qjx l bit k hbit i j)
 rintro i W hi ⟨n,rfl⟩
 refine (qlw bx bb bk b l asked F bit k i (w.drewN n) (h.drewN n) hx hb hk hi).mono ?_
 rintro e w' ⟨rfl,m,rfl⟩
 exact⟨rfl,n+m,by rw[World.drewN_drewN]⟩
theorem qk (b:Nat) (l:List Bool) (done:Bool) (asked:Nat) (F:Nat→Prop) (bit k:Int) (w:World) (h:IdxAt w b l done asked F) (ha:asked≤1000000000000) (hb:bit=0∨bit=1) (hk0:0≤k) (hk:k<rk l bit l.length) :
  Calls Tryz.prog 286 #[.pointer (some ⟨b,0,none⟩),.int .i64 bit,.int .i64 k] w fun e w'=>∃ n:Nat,e=.returned (.tuple #[.int .i64 n,.int .i64 0])∧IsSel l bit k n∧IdxAfter w b l true (asked+1) F w':=by
 have hmf:∀ (fn:Fn) (first cap:Array Value) (w:World),(Instr.makeFunc fn first cap).run Tryz.prog w=.ok (.func fn first cap) w:=fun _ _ _ _=>rfl
 have hle:=h.le
 have hold:=h.old
 have hrk:=q4b l bit hb l.length (Nat.le_refl _)
 have hW:=h.keeps ((((Keeps.refl (fun _=>False) w).alloc (.cells #[.pointer (some ⟨b,0,none⟩)] 328)).alloc (.cells #[.int .i64 bit] 3)).alloc (.cells #[.int .i64 k] 3)) (fun _ _ h=>h)
 have kW:=(((Keeps.refl F w).alloc (.cells #[.pointer (some ⟨b,0,none⟩)] 328)).alloc (.cells #[.int .i64 bit] 3)).alloc (.cells #[.int .i64 k] 3)
 have e0:(((w.alloc (.cells #[.pointer (some ⟨b,0,none⟩)] 328)).alloc (.cells #[.int .i64 bit] 3)).alloc (.cells #[.int .i64 k] 3)).heap.size=w.heap.size+3:=by simp
 have x0:(((w.alloc (.cells #[.pointer (some ⟨b,0,none⟩)] 328)).alloc (.cells #[.int .i64 bit] 3)).alloc (.cells #[.int .i64 k] 3)).heap[w.heap.size]? = some (.cells #[.pointer (some ⟨b,0,none⟩)] 328 (0,0)):=by
  rw[Below.heap_alloc _ _ _ (by simp;omega),Below.heap_alloc _ _ _ (by simp)];exact heap_alloc_new _ _
 have x1:(((w.alloc (.cells #[.pointer (some ⟨b,0,none⟩)] 328)).alloc (.cells #[.int .i64 bit] 3)).alloc (.cells #[.int .i64 k] 3)).heap[w.heap.size+1]? = some (.cells #[.int .i64 bit] 3 (0,0)):=by
  rw[Below.heap_alloc _ _ _ (by simp),show w.heap.size+1=(w.alloc (.cells #[.pointer (some ⟨b,0,none⟩)] 328)).heap.size by simp];exact heap_alloc_new _ _
 have x2:(((w.alloc (.cells #[.pointer (some ⟨b,0,none⟩)] 328)).alloc (.cells #[.int .i64 bit] 3)).alloc (.cells #[.int .i64 k] 3)).heap[w.heap.size+2]? = some (.cells #[.int .i64 k] 3 (0,0)):=by
  rw[show w.heap.size+2=((w.alloc (.cells #[.pointer (some ⟨b,0,none⟩)] 328)).alloc (.cells #[.int .i64 bit] 3)).heap.size by simp];exact heap_alloc_new _ _
 have HR:=Lib.hid (And.intro hk hb)
 have hkc:k<ofZ bit (cnt l) l.length:=by have:=hk;unfold rk at this;rwa [List.take_of_length_le (Nat.le_refl _)] at this
 have hcl:=q6z l
 have hof:=fun W=>qgb bit (cnt l) l.length W (by omega)
 clear h hk
 generalize hofz:ofZ bit (cnt l) l.length=z at *
 clear hofz hrk
 have hbt:((bit != 0)=false)∨((bit != 0)=true∧(bit != 1)=false):=by rcases hb with rfl|rfl <;> simp
 clear hb
 rcases hbt with t0|⟨t0,t1⟩
 all_goals
  go_enter Tryz.func286,Tryz.ntmps286
  go_wp2_with fail
  generalize ((w.alloc (.cells #[.pointer (some ⟨b,0,none⟩)] 328)).alloc (.cells #[.int .i64 bit] 3)).alloc (.cells #[.int .i64 k] 3)=W at *
  refine (qae b l done asked F W hW ha).mono ?_
  rintro e w1 ⟨rfl,hI1,hK1,hS1⟩
  have nF:∀ d,¬ F (w.heap.size+d):=fun d h=>by have:=hold _ h;omega
  have y0:=hK1.at x0 (nF 0)
  have y1:=hK1.at x1 (nF 1)
  have y2:=hK1.at x2 (nF 2)
  clear x0 x1 x2
  have HK:=Lib.hid (And.intro kW (And.intro e0 (And.intro hK1 hS1)))
  clear kW e0 hK1 hS1 hW
  generalize hB:w.heap.size=B at *
  have HB:=Lib.hid hB
  clear hB
  have c0:w1.cell? ⟨B,0,none⟩=some (.pointer (some ⟨b,0,none⟩)):=World.cell_of_heap y0 0
  have c1:=World.cell_of_heap y1 0
  have c2:w1.cell? ⟨B+1+1,0,none⟩=some (.int .i64 k):=World.cell_of_heap y2 0
  simp only [List.getElem?_toArray,List.getElem?_cons_zero] at c1
  have HY:=Lib.hid (And.intro y0 (And.intro y1 y2))
  clear y0 y1 y2
  go_wp2_with fail
  go_quiet ((first | (go_at_call 297;exact q1h (qet b l done _ F _ (hI1.drewN _))) | (go_at_call 260;exact q1h (q3d b l done _ F _ (hI1.drewN _))) | (go_at_call 293;exact q1h (hof _))))
  go_wp2_with fail
  have hI2:=hI1.drewN nq
  have c0':(w1.drewN nq).cell? ⟨B,0,none⟩=some (.pointer (some ⟨b,0,none⟩)):=c0
  have c1':=show (w1.drewN nq).cell? ⟨B+1,0,none⟩=_ from c1
  have c2':(w1.drewN nq).cell? ⟨B+1+1,0,none⟩=some (.int .i64 k):=c2
  have HK2:=Lib.hid (And.intro HK.out (And.intro HY.out (show Keeps F w1 (w1.drewN nq) from (Keeps.refl F w1).drewN nq)))
  have hs2:(w1.drewN nq).heap.size=w1.heap.size:=rfl
  have HS2:=Lib.hid hs2
  clear hs2 HK HY hI1 c0 c1 c2 hof hkc
  generalize w1.drewN nq=w2 at *
  have hB2:B<w2.heap.size:=by have h1:=HS2.out;have h2:=HK2.out.1;omega
  go_region_held3 (fun w'=>w'.cell? ⟨B,0,none⟩=some (.pointer (some ⟨b,0,none⟩))) (go_keep) ((go_at_call 117;refine (qd5 b l done _ F _ (hI2.drewN 1)).mono ?_;rintro e w3 ⟨rfl,hI3,hK3⟩;have z0:w3.cell? ⟨B,0,none⟩=some (.pointer (some ⟨b,0,none⟩)):=(World.cell?_of_block (w:=w2.drew) (hK3.block B hB2 (nF 0))).trans c0'))
  have z1:=(World.cell?_of_block (w:=w2.drew) (hK3.block (B+1) (by have h1:=HS2.out;have h2:=HK2.out.1;show B+1<w2.heap.size;omega) (nF 1))).trans c1'
  have z2:=(World.cell?_of_block (w:=w2.drew) (hK3.block (B+1+1) (by have h1:=HS2.out;have h2:=HK2.out.1;show B+1+1<w2.heap.size;omega) (nF 2))).trans c2'
  have hS:=qbf B (B+1) (B+1+1) b l (asked+1) _ bit k w3 hI3 HR.out.2 z0 z1 z2
  have HI3:=Lib.hid (And.intro hI3 hK3)
  obtain⟨bv,v,ga,cap,d0,hv,d4,hnc,hcm,hal,hcell⟩:=hI3.read
  rw[← hal] at hS
  have HV:=Lib.hid (And.intro hv (And.intro hcell hal))
  have hm1:(ahead l).length≤1000000:=by omega
  clear hI2 c0' c1' c2' hI3 hK3 hv hcell hal hB2
  generalize (ahead l).length=m at *
  go_wp2_with fail
  refine hS.mono ?_
  rintro e w4 ⟨r,rfl,hr,n4,rfl⟩
  rw[HV.out.2.2] at hr
  obtain⟨hr1,hr2,hr3,hr4⟩:=qjy hk0 HR.out.1 hr
  obtain⟨q,rfl⟩:∃ q,r=q+1:=⟨r - 1,by omega⟩
  have hq:q≤1000000:=by omega
  have hqm:q<m:=by rw[HV.out.2.2];omega
  simp only [Nat.add_sub_cancel] at hr3 hr4
  have hck:=HV.out.2.1 q hqm
  have hcl1:=q6z (l.take (512 * q))
  have hcl2:(l.take (512 * q)).length≤l.length:=List.length_take_le' _ _
  have hof:=fun W=>qgb bit (cnt (l.take (512 * q))) ((q:Int) * 512) W (by omega)
  have hrq:=HR.out.1
  have hrk0:=q4b l bit HR.out.2 (512 * q) hr3
  have e5:((512 * q:Nat):Int)=(q:Int) * 512:=by omega
  have hS0:ofZ bit (cnt (l.take (512 * q))) ((q:Int) * 512)=rk l bit (512 * q):=by unfold rk;rw[e5]
  have hcl3:cnt (l.take (512 * q))≤100000000:=by omega
  rw[hS0] at hof
  have HQ:=Lib.hid (And.intro hr3 hr4)
  clear hr hr1 hr2 hr3 hr4 hS hcl1 hcl2 hrq e5 hS0 hrk0
  go_wp2_with fail
  have a0:(w3.drewN n4).cell? ⟨B,0,none⟩=some (.pointer (some ⟨b,0,none⟩)):=z0
  have a1:=show (w3.drewN n4).cell? ⟨B+1,0,none⟩=_ from z1
  have a2:=show (w3.drewN n4).cell? ⟨B+1+1,0,none⟩=_ from z2
  have a3:=show (w3.drewN n4).cell? ⟨b,0,none⟩=_ from d0
  have a4:=show (w3.drewN n4).cell? ⟨b,4,none⟩=_ from d4
  have a5:=show (w3.drewN n4).cell? ⟨ga,q,none⟩=_ from hck
  have hI5:=HI3.out.1.drewN n4
  have hK5:=HI3.out.2.drewN n4
  have hv5:VecAt (w3.drewN n4) bv v l:=HV.out.1.keeps ((Keeps.refl (fun _=>False) w3).drewN n4) (fun h=>h) (fun _ _ h=>h)
  have hs5:w3.heap.size=(w3.drewN n4).heap.size:=rfl
  have H5:=Lib.hid (And.intro hI5 (And.intro hK5 (And.intro hv5 hs5)))
  clear hI5 hK5 hv5 hs5 HI3 HV
  clear z0 z1 z2 d0 d4 hck
  generalize w3.drewN n4=w5 at *
  go_quiet ((go_at_call 293;exact q1h (hof _)))
  go_wp2_with fail
  have hfin:∀ n:Nat,IdxAfter w b l true (asked+1) F (w5.drewN n):=by
   intro n
   obtain⟨hI5,hK5,hv5,hs5⟩:=H5.out
   obtain⟨⟨g1,g2,g3,g4⟩,_,g5⟩:=HK2.out
   have g6:=HS2.out
   have g7:=HB.out
   have kk:Keeps F w (w5.drewN n):=((((g1.trans g3 (fun _ _ h=>h)).trans g5 (fun _ _ h=>h)).drewN 1).trans hK5 (fun _ _ h=>h)).drewN n
   have hz:w.heap.size≤w2.heap.size:=by omega
   refine⟨(hI5.drewN n).mono (fun x hx=>?_) (q0x (fun x hx=>by have:=hold x hx;omega) kk.size),kk⟩
   rcases hx with hx|⟨hx1,hx2⟩
   ·exact .inl hx
   ·exact .inr ⟨Nat.le_trans hz hx1,by show x<w5.heap.size;omega⟩
  have HF:=Lib.hid hfin
  have hv5:=H5.out.2.2.1
  have hqq:=HQ.out
  clear hfin H5 HK2 HS2 hof a4 a5
  go_loopw [9,10] (fun i s wr=>∃ p:Nat,i=.int .i64 p∧s=.int .i64 (rk l bit p)∧p≤l.length∧rk l bit p≤k∧∃ n,wr=w5.drewN n) (fun i _ _=>l.length - (intOf i).toNat)
  case atStart=>exact⟨512 * q,by go_num,rfl,hqq.1,hqq.2,_,rfl⟩
  case round =>
   obtain⟨p,rfl,rfl,hp,hpk,nw,rfl⟩:=hrel
   have hb2:=HR.out.2
   have hlt:p<l.length:=by
    rcases Nat.lt_or_ge p l.length with h|h
    ·exact h
    ·have:=HR.out.1
     obtain rfl:p=l.length:=by omega
     omega
   have hrs:=q6v l bit p hb2 hlt
   have hrb:=q4b l bit hb2 p hp
   have hvw:VecAt (w5.drewN nw) bv v l:=hv5.keeps ((Keeps.refl (fun _=>False) w5).drewN nw) (fun h=>h) (fun _ _ h=>h)
   have b0:(w5.drewN nw).cell? ⟨B,0,none⟩=some (.pointer (some ⟨b,0,none⟩)):=a0
   have b1:=show (w5.drewN nw).cell? ⟨B+1,0,none⟩=_ from a1
   have b2:=show (w5.drewN nw).cell? ⟨B+1+1,0,none⟩=_ from a2
   have b3:=show (w5.drewN nw).cell? ⟨b,0,none⟩=_ from a3
   have hA:=fun n=>at_in bv v l p ((w5.drewN nw).drewN n) (hvw.keeps ((Keeps.refl (fun _=>False) _).drewN n) (fun h=>h) (fun _ _ h=>h)) hlt (by omega)
   have hwn:∀ n,(w5.drewN nw).drewN n=w5.drewN (nw+n):=fun n=>World.drewN_drewN _ _ _
   have HS:=Lib.hid (And.intro hrs hwn)
   have HP:=Lib.hid (And.intro hpk hqq)
   clear hrs hwn hqq hvw hb2 a0 a1 a2 a3
   generalize hx:((l.getD p false).toNat:Int)=x at *
   have HX:=Lib.hid hx
   clear hx
   generalize hs:rk l bit p=s at *
   have HSS:=Lib.hid hs
   clear hs
   generalize hw6:w5.drewN nw=w6 at *
   have HW6:=Lib.hid hw6
   clear hw6
   by_cases hxb:x=bit
   ·have tb:(x == bit)=true:=by simp[hxb]
    have HXB:=Lib.hid hxb
    clear hxb
    by_cases hsk:s=k
    ·have ts:(s == k)=true:=by simp[hsk]
     have HSK:=Lib.hid hsk
     clear hsk
     go_wp2_with fail
     go_quiet ((go_at_call 195;exact q1h (hA _)))
     go_wp2
     go_ret2
     exact⟨p,rfl,⟨hlt,HX.out.trans HXB.out,HSS.out.trans HSK.out⟩,by rw[← HW6.out,World.drewN_drewN];exact HF.out _⟩
    ·have ts:(s == k)=false:=by simp[hsk]
     have hsk':s<k:=by omega
     clear hsk
     go_wp2_with fail
     go_quiet ((go_at_call 195;exact q1h (hA _)))
     go_wp2
     go_roundw
     case rel=>exact⟨p+1,by go_num,by rw[HS.out.1,if_pos HXB.out],by omega,by rw[HS.out.1,if_pos HXB.out];omega,_,by rw[← HW6.out,World.drewN_drewN]⟩
     case measure=>simp[intOf];omega
   ·have tb:(x == bit)=false:=by simp[hxb]
    have HXB:=Lib.hid hxb
    clear hxb
    go_wp2_with fail
    go_quiet ((go_at_call 195;exact q1h (hA _)))
    go_wp2
    go_roundw
    case rel=>exact⟨p+1,by go_num,by rw[HS.out.1,if_neg HXB.out,Int.add_zero],by omega,by rw[HS.out.1,if_neg HXB.out];omega,_,by rw[← HW6.out,World.drewN_drewN]⟩
    case measure=>simp[intOf];omega
end
section
open Go.RowKit
end
section
open Go.RowKit
def over (l:List Int):Nat→List Int
 | 0=>[]
 | n+1=>over l n ++ l
end
section
open Go.RowKit
end
section
open Go.RowKit
theorem qlx {zs:List Int} (h:∀ z ∈ zs,z=0∨z=1) {n:Nat} {z:Int} (hz:zs[n]? = some z):(((q0w zs).getD n false).toNat:Int)=z:=by
 have hm:=List.mem_of_getElem? hz
 simp only [q0w,List.getD_eq_getElem?_getD,List.getElem?_map,hz,Option.map_some,Option.getD_some]
 rcases h z hm with rfl|rfl <;> rfl
theorem q3s (zs:List Int):(q0w zs).length=zs.length:=by simp[q0w]
theorem RowIn.bytes {w:World} {a:Option Addr} {len cap:Nat} {zs:List Int} (h:RowIn .u8 w a len cap zs):∃ ps:List Nat,Sl .u8 w (.slice a len cap) (nats ps)∧∀ b ∈ ps,b<256:=by
 obtain⟨h1,_,h3,_⟩:=h.sl
 refine⟨(zs.take len).map Int.toNat,?_,?_⟩
 ·have:nats ((zs.take len).map Int.toNat)=zs.take len:=by
   unfold nats
   rw[List.map_map]
   conv=>rhs;rw[← List.map_id (zs.take len)]
   apply List.map_congr_left
   intro n hn
   have:=bounds_u8 (h3 n hn)
   simp
   omega
  rw[this]
  exact h1
 ·intro b hb
  obtain⟨n,hn,rfl⟩:=List.mem_map.1 hb
  have:=bounds_u8 (h3 n hn)
  omega
theorem u8_in {n:Int} (h:(Lit.int .u8 n).wf=true):∃ m:Nat,n=m∧m<256:=by
 have:=bounds_u8 h
 exact⟨n.toNat,by omega,by omega⟩
end
section
open Go.RowKit
end
end Go.Proofs.YtcfdpogegngplaaGreat
