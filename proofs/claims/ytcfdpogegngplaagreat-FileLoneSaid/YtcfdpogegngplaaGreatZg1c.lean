import Derived.Test.YtcfdpogegngplaaGreatZg1h
import Derived.Test.YtcfdpogegngplaaGreatZg1b
set_option maxRecDepth 100000
set_option maxHeartbeats 4000000
namespace Go.Proofs.YtcfdpogegngplaaGreat
open Go.RowKit
theorem qhs{w:World}{b:Nat}{s:List Nat}{rt:Int}{ln:Nat}{R:Nat→Prop}(t p l:Bool)(h:MapAt w b s rt ln R)(hg:¬ dn (iC s ln)=0) :
  Calls Tryz.prog 53 #[.pointer (some ⟨b,0,none⟩),cu t p l] w fun e w'=>e=.returned (.tuple #[.slice none 0 0,.int .i64 0,.int .i64 7])∧Keeps (fun k=>k=b) w w':=by
 have hnot:∀ (x:Bool) (w:World),(Op.unary .not (.bool x)).run Tryz.prog w=.ok (.bool (!x)) w:=fun _ _=>rfl
 have ka:=(Keeps.refl (fun _=>False) w).alloc (.cells #[.bool t,.bool p,.bool l] 35)
 have hA:=h.keeps ka (fun h=>h) (fun _ _ h=>h)
 have nM:=Rx (l:=ln) hA
 rw[decide_eq_false hg] at nM
 have HA:=ah ka
 clear h hA hg ka
 unfold cu
 go_enter Tryz.func53,Tryz.ntmps53
 go_wp2_with fail
 refine nM.mono ?_
 clear nM
 rintro e w1 ⟨rfl,hq1⟩
 have H1:=ah ((show Keeps (fun x=>x=b) w _ from HA.out.mono (fun _ _ h=>h.elim)).trans hq1.2 (fun _ _ h=>h))
 clear hq1
 go_wp2_with fail
 refine bodyPost_ret (v:=.tuple #[.slice none 0 0,.int .i64 0,.int .i64 7]) (by simp[results,Tryz.results53,go_sem]) rfl ?_
 exact⟨rfl,H1.out⟩
theorem q9w{w:World}{b:Nat}{s:List Nat}{rt:Int}{ln:Nat}{R:Nat→Prop}(t p l:Bool)(h:MapAt w b s rt ln R)(hg:¬ dn (iC s ln)=0) :
  Calls Tryz.prog 17 #[.pointer (some ⟨b,0,none⟩),cu t p l] w fun e w'=>e=.returned (.tuple #[.slice none 0 0,.int .i64 7])∧Keeps (fun k=>k=b) w w':=by
 have ka:=(Keeps.refl (fun _=>False) w).alloc (.cells #[.bool t,.bool p,.bool l] 35)
 have hE:=qhs t p l (h.keeps ka (fun h=>h) (fun _ _ h=>h)) hg
 have HA:=ah ka
 clear h ka hg
 unfold cu at hE ⊢
 go_enter Tryz.func17,Tryz.ntmps17
 go_wp2_with fail
 refine hE.mono ?_
 clear hE
 rintro e w1 ⟨rfl,hk⟩
 have HF:=ah ((show Keeps (fun x=>x=b) w _ from HA.out.mono (fun _ _ h=>h.elim)).trans hk (fun _ _ h=>h))
 clear hk
 go_wp2_with fail
 refine bodyPost_ret (v:=.tuple #[.slice none 0 0,.int .i64 7]) (by simp[results,Tryz.results17,go_sem]) rfl ?_
 exact⟨rfl,HF.out⟩
theorem Yq(o:Nat)(ho:o<256):∃ (o6 x2 x4:Nat) (p l:Bool),bits .and .u8 (o:Int) 6=(o6:Int)∧bits .and .u8 (o6:Int) 1=0∧bits .and .u8 (o6:Int) 2=(x2:Int)∧bits .and .u8 (o6:Int) 4=(x4:Int)∧decide (0<x2)=p∧decide (0<x4)=l:=by
 have h:∀ o:Fin 256,bits .and .u8 ((o.val:Nat):Int) 6=((o.val / 2 % 4 * 2:Nat):Int):=by decide +kernel
 have h2:∀ o:Fin 4,bits .and .u8 ((o.val * 2:Nat):Int) 1=0∧bits .and .u8 ((o.val * 2:Nat):Int) 2=((o.val % 2 * 2:Nat):Int)∧bits .and .u8 ((o.val * 2:Nat):Int) 4=((o.val / 2 * 4:Nat):Int):=by decide +kernel
 have h3:=h2 ⟨o / 2 % 4,Nat.mod_lt _ (by decide)⟩
 exact⟨_,_,_,_,_,h ⟨o,ho⟩,h3.1,h3.2.1,h3.2.2,rfl,rfl⟩
theorem qbt(o x1 x2 x4:Nat)(t p l:Bool)(w:World)(h1:bits .and .u8 (o:Int) 1=(x1:Int))(h2:bits .and .u8 (o:Int) 2=(x2:Int))(h4:bits .and .u8 (o:Int) 4=(x4:Int))(t1:decide (0<x1)=t)(t2:decide (0<x2)=p)(t4:decide (0<x4)=l) :
  Calls Tryz.prog 18 #[.int .u8 o] w fun e w'=>e=.returned (cu t p l)∧Keeps (fun _=>False) w w':=by
 have s1:decide ((0:Int)<(x1:Int))=t:=by rw[← t1];simp
 have s2:decide ((0:Int)<(x2:Int))=p:=by rw[← t2];simp
 have s4:decide ((0:Int)<(x4:Int))=l:=by rw[← t4];simp
 unfold cu
 go_enter Tryz.func18,Tryz.ntmps18
 go_wp2
 refine bodyPost_ret (v:=.agg #[.bool t,.bool p,.bool l]) ?_ rfl ⟨rfl,(Keeps.refl (fun _=>False) w).alloc _⟩
 simp[results,Tryz.results18,go_sem]
theorem ql(lab:List Bool)(p:Bool):∃ c,iN p false 1 [] lab=[80,81,lU false p false,1,0] ++ c∧c.length=4:=by
 refine⟨four (iW (80 :: 81 :: lU false p false :: iA p false 1 [] lab)),?_,rfl⟩
 rw[FK]
 unfold iA ku
 rw[List.map_nil,List.length_nil,yK (by decide),yK (by decide)]
 rfl
theorem qfh(w:World):Calls Tryz.prog 15 #[] w fun e w'=>e=.returned (.bool true)∧Keeps (fun _=>False) w w':=by
 have hN:=Kq (s:=[]) (rt:=-1) (ln:=1) (sv:=.slice none 0 0) (W:=w) ⟨none,0,rfl,by simp[aB],by decide,fun _=>rfl,fun j z hj=>by simp[aB] at hj⟩ ⟨fun d hd=>absurd hd (by simp),fun d e hd=>absurd hd (by simp)⟩ rfl (by simp) (by decide) (.inl ⟨rfl,rfl⟩)
 go_enter Tryz.func15,Tryz.ntmps15
 go_wp2_with fail
 refine hN.mono ?_
 clear hN
 rintro e w1 ⟨b,rfl,hA,hb,hk1⟩
 have hg0:dn (iC [] 1)=0:=by simp[iC,nL,dn]
 have hks:bA [] (-1)=[]:=by simp[bA]
 have hE:=Tq false false false hA hg0 qA (Tt false false (by rw[hks];exact fun k hk=>by cases hk)) (by rw[hks,KF];simp) (by rw[hks];exact fun k hk=>by cases hk)
 rw[hks] at hE
 obtain⟨fs,hfs⟩:∃ fs,fs=jw false false false 1 (([]:List (List Nat)).map qA) (gU [] (-1)):=⟨_,rfl⟩
 rw[← hfs] at hE
 obtain⟨c,hc1,hc2⟩:=ql (gU [] (-1)) false
 have hfc:fs=[80,81,0,1,0] ++ c:=by rw[hfs];exact hc1
 have hlen:fs.length=9:=by rw[hfc,List.length_append,hc2];rfl
 have H1:=ah (aj hk1 (aj hb (aj hfc hlen)))
 unfold cu at hE
 clear hA hg0 hks hfs hc1 hc2 hk1
 go_wp2_with fail
 refine hE.mono ?_
 clear hE
 rintro e w2 ⟨v,rfl,hO,-,hk2⟩
 obtain⟨g,vc,hv,hgB,hgs,Yr,alR⟩:=hO.row (by rw[hlen];decide)
 rw[hlen] at hv Yr
 subst hv
 have Nc:=hO.sl.take 5 (by rw[q01,hlen];decide)
 have ka:=(Keeps.refl (fun _=>False) w2).alloc (.cells #[.int .u8 80,.int .u8 81,.int .u8 0,.int .u8 1,.int .u8 0] 5)
 have hq5:Sl .u8 (w2.alloc (.cells #[.int .u8 80,.int .u8 81,.int .u8 0,.int .u8 1,.int .u8 0] 5)) (.slice (some ⟨w2.heap.size,0,none⟩) 5 5) (aB [80,81,0,1,0]):=by
  refine⟨some ⟨w2.heap.size,0,none⟩,5,rfl,by simp[aB],by decide,(fun h=>by cases h),fun j z hj=>⟨w2.heap.size,0,rfl,?_⟩⟩
  have hc:=ak (heap_alloc_new w2 (.cells #[.int .u8 80,.int .u8 81,.int .u8 0,.int .u8 1,.int .u8 0] 5)) (0+j)
  rw[hc]
  have hj5:j<5:=fK hj
  rcases (show j=0∨j=1∨j=2∨j=3∨j=4 by omega) with rfl|rfl|rfl|rfl|rfl <;> (simp[aB] at hj;subst hj;rfl)
 have MV:(aB fs).take 5=aB [80,81,0,1,0]:=by rw[H1.out.2.2.1];simp[aB]
 rw[MV] at Nc
 have Yt:=Xa _ _ _ _ _ (Nc.keeps ka (fun _ _ h=>h)) hq5 (by decide) (by decide)
 rw[decide_eq_true rfl] at Yt
 have H2:=ah ((H1.out.1.trans hk2 (fun x hx e=>by have:=H1.out.2.1;omega)).trans ka (fun _ _ h=>h))
 clear hO Nc hq5 MV hk2 ka hlen hfc
 go_wp2_with fail
 refine Yt.mono ?_
 clear Yt
 rintro e w3 ⟨rfl,rfl⟩
 go_wp2_with fail
 go_ret
 exact⟨by simp,H2.out⟩
