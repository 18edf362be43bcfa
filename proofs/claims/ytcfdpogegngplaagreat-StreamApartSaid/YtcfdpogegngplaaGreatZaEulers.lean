import Derived.Deep.CutRange
import Derived.StillTailTactics
import Derived.BigRegion
import Derived.Test.YtcfdpogegngplaaGreatZaWlk
import Derived.Test.YtcfdpogegngplaaGreatZaDarts
import Derived.Test.YtcfdpogegngplaaGreatZaDecPl
set_option maxRecDepth 100000
set_option maxHeartbeats 4000000
namespace Go.Proofs.YtcfdpogegngplaaGreat
section
def NmO (n:Nat) (S:Nat→Nat) (d:Nat) (zs:List Int):Prop:=∀ x,x<n→zs[x]? = some (if crep n S x<d then ((cnum n S x:Nat):Int) else -1)
def NmE (n:Nat) (S:Nat→Nat) (d:Nat) (V:List Nat) (zs:List Int):Prop:=∀ x,x<n→zs[x]? = some (if x ∈ V then ((cldr n S d:Nat):Int) else if crep n S x<d then ((cnum n S x:Nat):Int) else -1)
structure EInv (n:Nat) (S:Nat→Nat) (d:Nat) (V st:List Nat):Prop where
 nd:V.Nodup
 cl:∀ z ∈ V,z<n∧Conn n S d z
 dm:d ∈ V
 sub:∀ z ∈ st,z ∈ V
 sn:st.Nodup
theorem EInv.slen {n:Nat} {S:Nat→Nat} {d:Nat} {V st:List Nat} (h:EInv n S d V st):st.length≤V.length:=q0t st V h.sn h.sub
theorem EInv.pop {n:Nat} {S:Nat→Nat} {d x:Nat} {V st:List Nat} (h:EInv n S d V (st ++ [x])):EInv n S d V st :=
 ⟨h.nd,h.cl,h.dm,fun z hz=>h.sub z (by simp[hz]),(List.nodup_append.1 h.sn).1⟩
theorem EInv.len {n:Nat} {S:Nat→Nat} {d:Nat} {V st:List Nat} (h:EInv n S d V st):V.length≤n:=q7y n V h.nd (fun z hz=>(h.cl z hz).1)
section
variable {n:Nat} {S:Nat→Nat} (h:IsP n S) (he:n % 2=0) {d:Nat} (hd:d<n)
include h he hd
omit h he in
theorem NmO.at {zs:List Int} {z:Int} (k:NmO n S d zs) (hz:zs[d]? = some z):(crep n S d=d∧z=-1)∨(crep n S d≠d∧0≤z):=by
 rw[k d hd] at hz
 have hz:=Option.some.inj hz
 have hle:=q20 (Conn.refl n S d)
 by_cases a:crep n S d=d
 ·rw[if_neg (by omega)] at hz;exact .inl ⟨a,hz.symm⟩
 ·rw[if_pos (by omega)] at hz;exact .inr ⟨a,by omega⟩
omit hd in
theorem NmO.skip {zs:List Int} (k:NmO n S d zs) (hc:crep n S d≠d):NmO n S (d+1) zs:=fun x hx=>by
 rw[k x hx]
 by_cases a:crep n S x<d
 ·rw[if_pos a,if_pos (by omega)]
 ·have:crep n S x≠d:=fun e=>hc (by
   have h1:=h.crep_crep he hx
   rw[e] at h1;exact h1)
  rw[if_neg a,if_neg (by omega)]
omit h in
theorem NmO.start {zs:List Int} (hl:zs.length=n) (k:NmO n S d zs) (hc:crep n S d=d):NmE n S d [d] (zs.set d ((cldr n S d:Nat):Int))∧EInv n S d [d] [d]:=by
 refine⟨fun x hx=>?_,⟨by simp,fun z hz=>by simp at hz;subst hz;exact⟨hd,Conn.refl n S _⟩,by simp,fun z hz=>hz,by simp⟩⟩
 rw[List.getElem?_set]
 by_cases a:d=x
 ·subst a;rw[if_pos rfl,if_pos (by omega),if_pos (by simp)]
 ·rw[if_neg a,if_neg (by simp;omega)];exact k x hx
omit h he hd in
theorem NmE.old {V:List Nat} {zs:List Int} {y:Nat} {z:Int} (k:NmE n S d V zs) (hy:y<n) (hm:y ∈ V) (hz:zs[y]? = some z):0≤z:=by
 rw[k y hy,if_pos hm] at hz
 have:=Option.some.inj hz
 omega
theorem NmE.fresh {V:List Nat} {zs:List Int} {y:Nat} {z:Int} (k:NmE n S d V zs) (hc:crep n S d=d) (hy:y<n) (hcy:Conn n S d y) (hm:y ∉ V) (hz:zs[y]? = some z):z=-1:=by
 have e:=(h.crep_iff he hd hy).2 hcy
 rw[k y hy,if_neg hm,if_neg (by omega)] at hz
 exact (Option.some.inj hz).symm
omit h he hd in
theorem NmE.push {V:List Nat} {zs:List Int} {y:Nat} (hl:zs.length=n) (k:NmE n S d V zs) (hy:y<n):NmE n S d (y :: V) (zs.set y ((cldr n S d:Nat):Int)):=fun x hx=>by
 rw[List.getElem?_set]
 by_cases a:y=x
 ·subst a;rw[if_pos rfl,if_pos (by omega),if_pos (by simp)]
 ·rw[if_neg a,k x hx]
  have:(x ∈ y :: V)↔x ∈ V:=by simp;omega
  by_cases b:x ∈ V
  ·rw[if_pos b,if_pos (this.2 b)]
  ·rw[if_neg b,if_neg (fun e=>b (this.1 e))]
omit h he hd in
theorem EInv.push {V st:List Nat} (k:EInv n S d V st) {y:Nat} (hy:y<n) (hcy:Conn n S d y) (hm:y ∉ V):EInv n S d (y :: V) (st ++ [y]) :=
 ⟨List.nodup_cons.2 ⟨hm,k.nd⟩,fun z hz=>by
  rcases List.mem_cons.1 hz with rfl|hz
  ·exact⟨hy,hcy⟩
  ·exact k.cl z hz,List.mem_cons_of_mem _ k.dm,fun z hz=>by
  rcases List.mem_append.1 hz with hz|hz
  ·exact List.mem_cons_of_mem _ (k.sub z hz)
  ·simp at hz;subst hz;simp,q6j k.sn (fun hh=>hm (k.sub y hh))⟩
theorem NmE.done {V:List Nat} {zs:List Int} (k:NmE n S d V zs) (I:EInv n S d V []) (hc:crep n S d=d) (hclo:∀ z ∈ V,S z ∈ V∧mt z ∈ V):NmO n S (d+1) zs:=fun x hx=>by
 have hV:x ∈ V↔crep n S x=d:=by
  constructor
  ·intro hm
   rw[← (h.crep_iff he hd hx).2 (I.cl x hm).2];exact hc
  ·intro e
   have hcx:Conn n S d x:=(h.crep_iff he hd hx).1 (by rw[hc,e])
   exact hcx (fun z=>z ∈ V) I.dm (fun z _ hz=>hclo z hz)
 rw[k x hx]
 by_cases a:x ∈ V
 ·have e:=hV.1 a
  rw[if_pos a,if_pos (by omega)]
  unfold cnum;rw[e]
 ·have e:crep n S x≠d:=fun e=>a (hV.2 e)
  rw[if_neg a]
  by_cases b:crep n S x<d
  ·rw[if_pos b,if_pos (by omega)]
  ·rw[if_neg b,if_neg (by omega)]
end
theorem NmO.zero {n:Nat} {S:Nat→Nat} {zs:List Int} (h:∀ i,i<n→zs[i]? = some (-1)):NmO n S 0 zs:=fun x hx=>by rw[if_neg (by omega)];exact h x hx
theorem NmO.all {n:Nat} {S:Nat→Nat} {zs:List Int} (h:IsP n S) (he:n % 2=0) (hl:zs.length=n) (k:NmO n S n zs):zs=nats ((List.range n).map (cnum n S)):=by
 apply List.ext_getElem?
 intro i
 rcases Nat.lt_or_ge i n with hi|hi
 ·rw[k i hi,if_pos (h.crep_lt he hi)];simp[nats,hi]
 ·rw[List.getElem?_eq_none (by omega),List.getElem?_eq_none (by simp[nats];omega)]
end
section
open Go.RowKit
theorem OwnI.dropLast {B:Nat} {w:World} {g n cap:Nat} {zs:List Int} {z:Int} (h:OwnI B w (.slice (some ⟨g,0,none⟩) (n+1) cap) (zs ++ [z])):OwnI B w (.slice (some ⟨g,0,none⟩) n cap) zs:=by
 obtain⟨h1,h2⟩:=h
 rcases h2 with⟨h2,_⟩|⟨g',cap',cur,hv,hB,hg,hnc,hcm,hcs,ht⟩
 ·cases h2
 ·simp only [Value.slice.injEq,Option.some.injEq,Addr.mk.injEq,and_true] at hv
  obtain⟨rfl,e2,rfl⟩:=hv
  have hl:zs.length=n:=by simp at e2;omega
  refine⟨by simp[ints],.inr ⟨g,cap,cur,by rw[hl],hB,hg,by simp at hnc;omega,hcm,hcs,?_⟩⟩
  have:=congrArg (List.take (zs.length * 1)) ht
  rw[List.take_take] at this
  rw[Nat.min_eq_left (by simp)] at this
  rw[this]
  simp[ints]
theorem ql6 (B g n cap:Nat) (zs:List Nat) (x:Nat) (w:World) (h:OwnI B w (.slice (some ⟨g,0,none⟩) (n+1) cap) (nats (zs ++ [x]))) (hl:zs.length=n) (hn:n≤1000000000) :
  Calls Tryz.prog 160 #[.slice (some ⟨g,0,none⟩) (n+1) cap] w fun e w'=>e=.returned (.tuple #[.int .i64 x,.slice (some ⟨g,0,none⟩) n cap])∧∃ k,w'=w.drewN k:=by
 have hc:=(h.cell (i:=n) (z:=(x:Int)) (by rw[q1z,List.getElem?_append_right (by rw[q02];omega),q02,hl];simp)).1
 obtain⟨a,c,hv,h1,h2⟩:=h.form
 simp only [Value.slice.injEq] at hv
 obtain⟨rfl,e2,rfl⟩:=hv
 clear e2
 have h1':n+1≤cap:=by rw[q02] at h1;simp at h1;omega
 have hnc:¬ n=cap:=by omega
 have hcn:¬ cap=n:=by omega
 have hc0:¬ cap=0:=by omega
 have hc00:¬ 0=cap:=by omega
 obtain⟨N,hN⟩:∃ N,N=n+1:=⟨_,rfl⟩
 rw[← hN] at h1' ⊢
 have hnN:n<N:=by omega
 have hnN':(n:Int)<(N:Int):=by omega
 have hs1:IntKind.i64.wrap ((N:Int) - 1)=(n:Int):=by rw[show ((N:Int) - 1)=(n:Int) by omega];exact IntWalk.i64_in _ (by omega)
 have hNc:n≤cap:=by omega
 have hNb:N≤1000000001:=by omega
 clear h h1 hl hN
 go_enter Tryz.func160,Tryz.ntmps160
 go_wp2
 go_quiet (fail)
 clear hs1
 go_wp2
 go_ret2
 exact⟨rfl,_,rfl⟩
structure ES (w:World) (n:Nat) (S:Nat→Nat) (d g:Nat) (V st:List Nat) (wv:Value) (wr:World):Prop where
 nm:MadeS w g n (NmE n S d V) wr
 wt:OwnI w.heap.size wr wv (nats st)
 ne:∀ k,wv.ownBlock=some k→k≠g
theorem ES.kee {w:World} {n:Nat} {S:Nat→Nat} {d g:Nat} {V st:List Nat} {wv:Value} {wr:World} (h:ES w n S d g V st wv wr):Keeps (fun _=>False) w wr:=by
 obtain⟨_,_,_,_,hk⟩:=h.nm
 exact hk
theorem ES.drewN {w:World} {n:Nat} {S:Nat→Nat} {d g:Nat} {V st:List Nat} {wv:Value} {wr:World} (h:ES w n S d g V st wv wr) (k:Nat):ES w n S d g V st wv (wr.drewN k):=by
 have kk:=(Keeps.refl (fun _=>False) wr).drewN k
 exact⟨h.nm.keeps kk,h.wt.keeps kk (fun _ _ h=>h),h.ne⟩
theorem ES.pop {w:World} {n:Nat} {S:Nat→Nat} {d g:Nat} {V st:List Nat} {x wg m cap:Nat} {wr:World} (h:ES w n S d g V (st ++ [x]) (.slice (some ⟨wg,0,none⟩) (m+1) cap) wr):ES w n S d g V st (.slice (some ⟨wg,0,none⟩) m cap) wr :=
 ⟨h.nm,OwnI.dropLast (z:=(x:Int)) (by rw[← q1z];exact h.wt),fun k hk=>h.ne k hk⟩
theorem ES.store {w:World} {n:Nat} {S:Nat→Nat} {d g:Nat} {V st:List Nat} {wv:Value} {wr:World} (h:ES w n S d g V st wv wr) {y:Nat} (hy:y<n):ES w n S d g (y :: V) st wv (wr.setCell ⟨g,y,none⟩ (.int .i64 ((cldr n S d:Nat):Int))):=by
 have kk:=(Keeps.refl (fun q=>q=g) wr).setCell (p:=⟨g,y,none⟩) (.inl rfl) (.int .i64 ((cldr n S d:Nat):Int))
 exact⟨h.nm.set y _ (fun zs hzl k=>k.push hzl hy),h.wt.keeps kk (fun q hq e=>h.ne q hq e),h.ne⟩
theorem ES.app {w:World} {n:Nat} {S:Nat→Nat} {d g:Nat} {V st:List Nat} {wv:Value} {wr:World} (h:ES w n S d g V st wv wr) {y g5 m cap:Nat} {w5:World}
  (ho:OwnI w.heap.size w5 (.slice (some ⟨g5,0,none⟩) m cap) (nats st ++ [(y:Int)])) (k:Keeps (fun q=>wv.ownBlock=some q) wr w5) (hat:wv.ownBlock=some g5∨wr.heap.size≤g5) :
  ES w n S d g V (st ++ [y]) (.slice (some ⟨g5,0,none⟩) m cap) w5:=by
 have hg:=h.nm.old
 refine⟨h.nm.keepsF k (fun e=>h.ne g e rfl) (fun x hx=>(h.wt.lt x hx).1),by rw[q1z];exact ho,fun q hq=>?_⟩
 simp only [Value.ownBlock,Option.some.injEq] at hq
 subst hq
 rcases hat with e|e
 ·exact h.ne _ e
 ·omega
theorem q34 {w:World} {b:Nat} {s:List Nat} {root lone:Int} {R:Nat→Prop} (h:MapAt w b s root lone R) :
  Calls Tryz.prog 126 #[.pointer (some ⟨b,0,none⟩)] w fun e w'=>∃ g,e=.returned (.slice (some ⟨g,0,none⟩) s.length s.length)∧MadeS w g s.length (fun zs=>zs=nats ((List.range s.length).map (cnum s.length (sg s)))) w':=by
 have HMP:Hid (∀ W,Keeps (fun _=>False) w W→MapAt W b s root lone R):=Lib.hid (fun W hk=>h.keeps hk (fun h=>h) (fun _ _ h=>h))
 have hD:=q0g h
 have hle:=h.le
 have HP:=Lib.hid (And.intro h.isP h.even)
 clear h
 obtain⟨i,hi,hz0,hz1,hz2⟩:=info_parts q1d
 have hmk:=fun w=>run_make (P:=Tryz.prog) w 25 3 i _ Tryz.underlying25 hi hz0 .i64 .i64 (s.length:Int) (s.length:Int) (by omega) (Int.le_refl _) (by rw[hz2];omega) (by omega)
 simp only [hz1,Int.toNat_natCast,Nat.mul_one] at hmk
 have h0:=MadeS.made w s.length (fun zs=>∀ i,i<0→zs[i]? = some (-1)) (fun i hi=>by omega) (by omega)
 clear hi hz0 hz1 hz2
 go_enter Tryz.func126,Tryz.ntmps126
 go_wp2_with fail
 refine hD.mono ?_
 rintro e w' ⟨rfl,rfl⟩
 clear hD
 go_wp2_with fail
 clear hmk
 generalize hwM:World.alloc _ _=wM at *
 clear hwM
 obtain⟨g,hg⟩:∃ g,g=w.heap.size:=⟨_,rfl⟩
 rw[← hg] at h0
 rw[← hg]
 clear hg
 go_loopg [17] s.length (fun m i wr=>∃ j:Nat,j≤s.length∧m=s.length - j∧i=.int .i64 j∧MadeS w g s.length (fun zs=>∀ i,i<j→zs[i]? = some (-1)) wr)
 case atStart=>exact⟨0,Nat.zero_le _,rfl,rfl,h0⟩
 case round =>
  clear h0
  obtain⟨j,hj,hgk,rfl,hM⟩:=hrel
  have HG:=Lib.hid hgk
  clear hgk
  by_cases hlt:j<s.length
  ·obtain⟨z,_,hc,hf⟩:=hM.cell j hlt
   have HN:=Lib.hid (hM.set (Q:=fun zs=>∀ i,i<j+1→zs[i]? = some (-1)) j (-1) (fun zs hzl h i hi=>by
    rw[List.getElem?_set]
    by_cases hij:j=i
    ·rw[if_pos hij,if_pos (by omega)]
    ·rw[if_neg hij];exact h i (by omega)))
   clear hM
   go_wp2
   go_roundg (s.length - (j+1))
   case measure=>rw[HG.out];omega
   case rel=>exact⟨j+1,by omega,rfl,by go_num,HN.out⟩
  ·obtain rfl:j=s.length:=by omega
   have h1:MadeS w g s.length (NmO s.length (sg s) 0) wr:=hM.mono (fun zs _ h=>NmO.zero h)
   clear hM hlt hj HG
   go_wp2_with fail
   go_loopg [5,26] s.length (fun m c i wr=>∃ d:Nat,d≤s.length∧m=s.length - d∧i=.int .i64 d∧c=.int .i64 (cldr s.length (sg s) d:Nat)∧MadeS w g s.length (NmO s.length (sg s) d) wr)
   case atStart=>exact⟨0,Nat.zero_le _,rfl,rfl,rfl,h1⟩
   case round =>
    clear h1
    obtain⟨d,hd,hgk,rfl,rfl,hM⟩:=hrel
    have HG:=Lib.hid hgk
    clear hgk
    have hld:=q5h s.length (sg s) d
    have hls:=q0u s.length (sg s) d
    by_cases hlt:d<s.length
    rotate_left
    ·obtain rfl:d=s.length:=by omega
     have HF:=Lib.hid (hM.mono (fun zs hzl h=>NmO.all HP.out.1 HP.out.2 hzl h))
     clear hM hls
     go_wp2
     go_ret
     exact⟨g,rfl,HF.out⟩
    ·obtain⟨z,⟨zs,hzl,hzP,hzz⟩,hc,hf⟩:=hM.cell d hlt
     rcases NmO.at hlt hzP hzz with⟨hr,rfl⟩|⟨hr,hz⟩
     rotate_left
     ·rw[if_neg hr] at hls
      have HF:=Lib.hid (And.intro (hM.mono (fun zs _ h=>NmO.skip HP.out.1 HP.out.2 h hr)) hls)
      clear hM hr hls hzP hzz hzl
      generalize cldr s.length (sg s) d=c at *
      go_wp2
      go_roundg (s.length - (d+1))
      case measure=>rw[HG.out];omega
      case rel=>exact⟨d+1,by omega,rfl,by go_num,by rw[HF.out.2];go_num,HF.out.1⟩
     ·rw[if_pos hr] at hls
      have tneg:decide ((0:Int)≤-1)=false:=by decide
      obtain⟨_,_,_,_,hkw⟩:=id hM
      have hgr:=hM.old
      have kb:=(hM.set (Q:=NmE s.length (sg s) d [d]) d ((cldr s.length (sg s) d:Nat):Int) (fun zs hzl k=>(NmO.start HP.out.2 hlt hzl k hr).1))
      have ka:=(Keeps.refl (fun _=>False) (wr.setCell ⟨g,d,none⟩ (.int .i64 ((cldr s.length (sg s) d:Nat):Int)))).alloc (.cells #[.int .i64 d] 3)
      have h2:ES w s.length (sg s) d g [d] [d] (.slice (some ⟨wr.heap.size,0,none⟩) 1 1) ((wr.setCell ⟨g,d,none⟩ (.int .i64 ((cldr s.length (sg s) d:Nat):Int))).alloc (.cells #[.int .i64 d] 3)):=by
       have ho:OwnI _ _ _ [(d:Int)]:=q6x (wr.setCell ⟨g,d,none⟩ (.int .i64 ((cldr s.length (sg s) d:Nat):Int))) (d:Int)
       rw[show (wr.setCell ⟨g,d,none⟩ (.int .i64 ((cldr s.length (sg s) d:Nat):Int))).heap.size=wr.heap.size by simp] at ho
       exact⟨kb.keeps ka,ho.mono (fun q hq=>by simp only [Value.ownBlock,Option.some.injEq] at hq;have:=hkw.size;omega),fun k hk=>by simp only [Value.ownBlock,Option.some.injEq] at hk;omega⟩
      have hI0:=(NmO.start (zs:=zs) HP.out.2 hlt hzl hzP hr).2
      have hca:=q0v hc (.cells #[.int .i64 d] 3)
      have hfa:(wr.alloc (.cells #[.int .i64 d] 3)).frozen? ⟨g,d,none⟩=false:=by
       obtain⟨z2,_,_,hf2⟩:=(hM.keeps ((Keeps.refl (fun _=>False) wr).alloc (.cells #[.int .i64 d] 3))).cell d hlt
       exact hf2
      have HR:=Lib.hid (And.intro hr hls)
      have H2:=Lib.hid (And.intro h2 hI0)
      generalize hcc:cldr s.length (sg s) d=c at *
      have HC:=Lib.hid hcc
      clear hM hr hls hzP hzz hzl hkw ka kb h2 hI0 hcc
      go_wp2_with fail
      clear hca hfa hc hf
      generalize World.alloc _ _=w2 at *
      generalize Value.slice (some ⟨wr.heap.size,0,none⟩) 1 1=wv0 at *
      go_loopg [7] (2 * (s.length - 1)+1) (fun m wv wr=>∃ V st,m=2 * (s.length - V.length)+st.length∧EInv s.length (sg s) d V st∧(∀ z ∈ V,z ∈ st∨(sg s z ∈ V∧mt z ∈ V))∧ES w s.length (sg s) d g V st wv wr)
      case atStart =>
       exact⟨[d],[d],rfl,H2.out.2,fun z hz=>.inl hz,H2.out.1⟩
      case round =>
       clear H2
       obtain⟨V,st,hgk,hI,hclo,hE⟩:=hrel
       have HG3:=Lib.hid hgk
       clear hgk
       rcases List.eq_nil_or_concat st with rfl|⟨st',x,rfl⟩
       ·have hfo:=hE.wt.form
        obtain⟨wa,wc,rfl,_,_⟩:=hfo
        have HF:=Lib.hid (hE.nm.mono (fun zs hzl k=>k.done HP.out.1 HP.out.2 hlt hI HR.out.1 (fun z hz=>(hclo z hz).resolve_left (by simp))))
        have hnl:(nats ([]:List Nat)).length=0:=rfl
        rw[hnl]
        clear hE hI hclo hnl
        go_wp2
        go_roundg (s.length - (d+1))
        case measure=>rw[HG.out];omega
        case rel=>exact⟨d+1,by omega,rfl,by go_num,by rw[HR.out.2];go_num,HF.out⟩
       ·rw[List.concat_eq_append] at *
        obtain⟨m,hm⟩:∃ m,m=st'.length:=⟨_,rfl⟩
        obtain⟨wg,wc,rfl,hwn,_⟩:=q0d hE.wt (by rw[q02];simp)
        have hsl:(nats (st' ++ [x])).length=m+1:=by rw[q02,hm];simp
        rw[hsl] at hE ⊢
        have hVl:=hI.len
        have hxV:=hI.sub x (by simp)
        have hxn:=(hI.cl x hxV).1
        have hxc:=(hI.cl x hxV).2
        have hml:m≤131072:=by have h5:=hI.slen;simp at h5;omega
        have hL:=ql6 w.heap.size wg m wc st' x wr hE.wt hm.symm (by omega)
        have hE2:=hE.pop
        have hI2:=hI.pop
        have hGm:gk=2 * (s.length - V.length)+(m+1):=by rw[HG3.out];simp[hm]
        have hclo2:∀ z ∈ V,z ∈ st'∨z=x∨(sg s z ∈ V∧mt z ∈ V):=fun z hz=>by
         rcases hclo z hz with h6|h6
         ·simp only [List.mem_append,List.mem_singleton] at h6
          rcases h6 with h6|h6
          ·exact .inl h6
          ·exact .inr (.inl h6)
         ·exact .inr (.inr h6)
        have hSx:=HP.out.1.lt x hxn
        have hMx:=mt_lt HP.out.2 hxn
        have hcS:=hxc.trans (Conn.turn hxn:Conn s.length (sg s) x (sg s x))
        have hcM:=hxc.trans (Conn.mate hxn:Conn s.length (sg s) x (mt x))
        have HE2:=Lib.hid (And.intro hE2 (And.intro hI2 (And.intro hclo2 (And.intro hGm (And.intro hxV (And.intro hcS (And.intro hcM hm)))))))
        have tpos:decide ((0:Int)<((m+1:Nat):Int))=true:=decide_eq_true (by omega)
        clear hE hE2 hI hI2 hclo hclo2 hGm hxV hcS hcM hxc hm hsl HG3
        go_wp2_with fail
        refine hL.mono ?_
        rintro e w' ⟨rfl,nq,rfl⟩
        clear hL
        have hMA:=HMP.out _ (HE2.out.1.drewN nq).kee
        have hSg:=q22 hMA x hxn
        have hMt:=q39 hMA x hxn
        have HE3:=Lib.hid (HE2.out.1.drewN nq)
        clear hMA
        generalize wr.drewN nq=w4 at *
        go_wp2_with (first | (go_at_call 131;refine hSg.mono ?_;rintro e w' ⟨rfl,rfl⟩) | (go_at_call 86;refine hMt.mono ?_;rintro e w' ⟨rfl,rfl⟩))
        clear hSg hMt
        obtain⟨X0,hX0⟩:∃ X0,X0=sg s x:=⟨_,rfl⟩
        obtain⟨X1,hX1⟩:∃ X1,X1=mt x:=⟨_,rfl⟩
        rw[← hX0] at hSx ⊢
        rw[← hX1] at hMx ⊢
        have HX:=Lib.hid (And.intro hX0 hX1)
        clear hX0 hX1
        have hix:∀ (k:Nat),k<2→∃ y:Nat,y<s.length∧y=(if k=0 then X0 else X1)∧∀ W,(Instr.index 222 (.agg #[.int .i64 X0,.int .i64 X1]) (.int .i64 (k:Int))).run Tryz.prog W=.ok (.int .i64 y) W:=fun k hk=>by
         rcases Nat.eq_zero_or_pos k with rfl|hk0
         ·exact⟨X0,hSx,rfl,fun W=>rfl⟩
         ·obtain rfl:k=1:=by omega
          exact⟨X1,hMx,rfl,fun W=>rfl⟩
        have HIX:=Lib.hid hix
        clear hix
        go_loopg [7,56] 2 (fun q wv i wr=>∃ k V2 st2,q=2 - k∧k≤2∧i=.int .i64 (k:Nat)∧EInv s.length (sg s) d V2 st2∧x ∈ V2∧(∀ z ∈ V2,z ∈ st2∨z=x∨(sg s z ∈ V2∧mt z ∈ V2))∧(1≤k→sg s x ∈ V2)∧(2≤k→mt x ∈ V2)∧2 * (s.length - V2.length)+st2.length≤2 * (s.length - V.length)+m∧ES w s.length (sg s) d g V2 st2 wv wr)
        case atStart=>exact⟨0,V,st',rfl,by omega,rfl,HE2.out.2.1,HE2.out.2.2.2.2.1,HE2.out.2.2.1,fun h=>by omega,fun h=>by omega,by rw[HE2.out.2.2.2.2.2.2.2];exact Nat.le_refl _,HE3.out⟩
        case round =>
         clear HE3
         obtain⟨k,V2,st2,hgk,hk2,rfl,hI,hxV,hclo,h1k,h2k,hms,hE⟩:=hrel
         have HG4:=Lib.hid hgk
         clear hgk
         obtain⟨m2,hm2⟩:∃ m2,m2=st2.length:=⟨_,rfl⟩
         obtain⟨wa,wcc,rfl,_,_⟩:=hE.wt.form
         rw[show (nats st2).length=m2 by rw[q02,hm2]] at hE ⊢
         have hm2l:m2≤131072:=by have h5:=hI.slen;have:=hI.len;omega
         by_cases hkl:k<2
         ·have tk:decide ((k:Int)<2)=true:=decide_eq_true (by omega)
          obtain⟨y,hyn,hyk,hidx⟩:=HIX.out k hkl
          have hcy:Conn s.length (sg s) d y:=by
           rw[hyk]
           split
           ·rw[HX.out.1];exact HE2.out.2.2.2.2.2.1
           ·rw[HX.out.2];exact HE2.out.2.2.2.2.2.2.1
          obtain⟨z,⟨zs,hzl,hzP,hzz⟩,hc,hf⟩:=hE.nm.cell y hyn
          by_cases hyV:y ∈ V2
          ·have hz0:=hzP.old hyn hyV hzz
           have tz:decide (z<0)=false:=decide_eq_false (by omega)
           have HN:Hid (EInv s.length (sg s) d V2 st2∧x ∈ V2∧(∀ z ∈ V2,z ∈ st2∨z=x∨(sg s z ∈ V2∧mt z ∈ V2))∧(1≤k+1→sg s x ∈ V2)∧(2≤k+1→mt x ∈ V2)∧2 * (s.length - V2.length)+st2.length≤2 * (s.length - V.length)+m∧ES w s.length (sg s) d g V2 st2 (.slice wa m2 wcc) wr):=Lib.hid (by
            refine⟨hI,hxV,hclo,fun _=>?_,fun _=>?_,hms,hE⟩
            ·by_cases e:k=0
             ·rw[if_pos e,HX.out.1] at hyk;rw[← hyk];exact hyV
             ·exact h1k (by omega)
            ·by_cases e:k=0
             ·omega
             ·rw[if_neg e,HX.out.2] at hyk;rw[← hyk];exact hyV)
           clear hI hxV hclo h1k h2k hms hE hzl hzP hzz hyV hyk hcy hm2
           go_wp2
           go_roundg (2 - (k+1))
           case measure=>rw[HG4.out];omega
           case rel=>exact⟨k+1,V2,st2,rfl,by omega,by go_num,HN.out⟩
          ·have hz1:=hzP.fresh HP.out.1 HP.out.2 hlt HR.out.1 hyn hcy hyV hzz
           subst hz1
           have tz:decide ((-1:Int)<0)=true:=by decide
           have hst:=hE.store (y:=y) hyn
           rw[show cldr s.length (sg s) d=c from HC.out] at hst
           have hown:=hst.wt
           have hsz:=hst.kee.size
           have HNL:Hid ((nats st2).length=m2):=Lib.hid (by rw[q02,hm2])
           have hmq:m2≤10000000000:=by omega
           have happ:=fun (w5:World) g5 cap=>hst.app (y:=y) (g5:=g5) (m:=m2+1) (cap:=cap) (w5:=w5)
           have hIp:=hI.push hyn hcy hyV
           have hVl2:=hIp.len
           have HN:Hid (EInv s.length (sg s) d (y :: V2) (st2 ++ [y])∧x ∈ y :: V2∧(∀ z ∈ y :: V2,z ∈ st2 ++ [y]∨z=x∨(sg s z ∈ y :: V2∧mt z ∈ y :: V2))∧(1≤k+1→sg s x ∈ y :: V2)∧(2≤k+1→mt x ∈ y :: V2)∧2 * (s.length - (y :: V2).length)+(st2 ++ [y]).length≤2 * (s.length - V.length)+m):=Lib.hid (by
            refine⟨hIp,List.mem_cons_of_mem _ hxV,fun z hz=>?_,fun _=>?_,fun _=>?_,?_⟩
            ·rcases List.mem_cons.1 hz with rfl|hz
             ·exact .inl (by simp)
             ·rcases hclo z hz with e|e|e
              ·exact .inl (by simp[e])
              ·exact .inr (.inl e)
              ·exact .inr (.inr ⟨List.mem_cons_of_mem _ e.1,List.mem_cons_of_mem _ e.2⟩)
            ·by_cases e:k=0
             ·rw[if_pos e,HX.out.1] at hyk;rw[← hyk];simp
             ·exact List.mem_cons_of_mem _ (h1k (by omega))
            ·by_cases e:k=0
             ·omega
             ·rw[if_neg e,HX.out.2] at hyk;rw[← hyk];simp
            ·simp only [List.length_cons,List.length_append,List.length_nil] at hVl2 ⊢
             omega)
           have HAP:=Lib.hid happ
           clear hI hxV hclo h1k h2k hms hE hzl hzP hzz hyV hyk hcy hm2 hst happ hIp hVl2
           go_wp2_with (at_builtin;refine q0l m2 rfl _ _ rfl w.heap.size (.slice wa m2 wcc) (nats st2) (y:Nat) HNL (wr.setCell ⟨g,y,none⟩ (.int .i64 (c:Nat))).heap.size (by simp) (by simp[Act.eval]) (by simp[Act.eval]) hown hmq hsz ?_;intro g5 cap5 w5 hown5 hk5 hat5 hg5;have HT5:=Lib.hid (HAP.out w5 g5 cap5 hown5 hk5 hat5);clear hown5 hk5 hat5)
           go_roundg (2 - (k+1))
           case measure=>rw[HG4.out];omega
           case rel=>exact⟨k+1,_,_,rfl,by omega,by go_num,HN.out.1,HN.out.2.1,HN.out.2.2.1,HN.out.2.2.2.1,HN.out.2.2.2.2.1,HN.out.2.2.2.2.2,HT5.out⟩
         ·obtain rfl:k=2:=by omega
          have HN:Hid (EInv s.length (sg s) d V2 st2∧(∀ z ∈ V2,z ∈ st2∨(sg s z ∈ V2∧mt z ∈ V2))∧2 * (s.length - V2.length)+st2.length≤2 * (s.length - V.length)+m∧ES w s.length (sg s) d g V2 st2 (.slice wa m2 wcc) wr):=Lib.hid ⟨hI,fun z hz=>by
           rcases hclo z hz with e|e|e
           ·exact .inl e
           ·subst e;exact .inr ⟨h1k (by omega),h2k (by omega)⟩
           ·exact .inr e,hms,hE⟩
          clear hI hxV hclo h1k h2k hms hE hm2
          go_wp2
          go_roundg (2 * (s.length - V2.length)+st2.length)
          case measure=>rw[HE2.out.2.2.2.1];have:=HN.out.2.2.1;omega
          case rel=>exact⟨V2,st2,rfl,HN.out.1,HN.out.2.1,HN.out.2.2.2⟩
end
section
open Go.RowKit
theorem qe6 {w:World} {base:Nat} {e:TypeId} {g n cap:Nat} {xs:List Value} (h:w.ownsRow base e 5 (.slice (some ⟨g,0,none⟩) n cap) n xs) (i:Nat) (u:Value) :
  (w.setCell ⟨g,i,none⟩ u).ownsRow base e 5 (.slice (some ⟨g,0,none⟩) n cap) n (xs.set i u):=by
 obtain⟨hl,h2⟩:=h
 refine⟨by simpa using hl,?_⟩
 rcases h2 with⟨h0,_⟩|⟨g',cap',cur,hv,hb,hg,hnc,hcm,hcur,ht⟩
 ·cases h0
 ·simp only [Value.slice.injEq,Option.some.injEq,Addr.mk.injEq] at hv
  obtain⟨⟨rfl,_⟩,_,rfl⟩:=hv
  refine .inr ⟨g,cap,cur.setIfInBounds i u,rfl,hb,q00 hg i u,hnc,hcm,by simpa using hcur,?_⟩
  rw[Array.toList_setIfInBounds,← ht]
  apply List.ext_getElem?
  intro k
  simp only [List.getElem?_take,List.getElem?_set,List.length_take]
  by_cases hk:k<n * 5
  ·simp only [if_pos hk]
   by_cases hik:i=k
   ·subst hik
    have:(i<min (n * 5) cur.toList.length)=(i<cur.toList.length):=by rw[Nat.lt_min];simp;omega
    simp only [if_true,this]
   ·simp[hik]
  ·simp only [if_neg hk]
   by_cases hik:i=k
   ·subst hik
    rw[if_pos rfl,if_neg (by omega)]
   ·simp[hik]
theorem qc1:∀ {ps:List (List Int)} {j k:Nat} {p:List Int} (z:Int),(∀ p ∈ ps,p.length=5)→ps[j]? = some p→k<5→(ps.set j (p.set k z)).flatten=ps.flatten.set (j * 5+k) z:=by
 intro ps
 induction ps with
 | nil=>intro j k p z _ h;simp at h
 | cons q ps ih =>
  intro j k p z h5 hp hk
  have hq:=h5 q (by simp)
  cases j with
  | zero =>
   obtain rfl:q=p:=by simpa using hp
   rw[List.set_cons_zero,List.flatten_cons,List.flatten_cons,List.set_append_left _ _ (by omega)]
   congr 2;omega
  | succ j =>
   rw[List.set_cons_succ,List.flatten_cons,List.flatten_cons,List.set_append_right _ _ (by omega),hq]
   rw[ih z (fun p hp=>h5 p (by simp[hp])) (by simpa using hp) hk]
   congr 2;omega
theorem Own5.set {t:TypeId} {B:Nat} {w:World} {g n cap:Nat} {ps:List (List Int)} (h:Own5 t B w (.slice (some ⟨g,0,none⟩) n cap) ps) {j k:Nat} {p:List Int} (hp:ps[j]? = some p) (hk:k<5) (z:Int) :
  Own5 t B (w.setCell ⟨g,j * 5+k,none⟩ (.int .i64 z)) (.slice (some ⟨g,0,none⟩) n cap) (ps.set j (p.set k z)):=by
 obtain⟨a,c,hv⟩:=h.form
 simp only [Value.slice.injEq] at hv
 obtain⟨_,rfl,_⟩:=hv
 have hp5:=h.2 p (List.mem_of_getElem? hp)
 refine⟨?_,fun q hq=>?_⟩
 ·have h1:=qe6 h.1 (j * 5+k) (.int .i64 z)
  rw[List.length_set,qc1 z h.2 hp hk]
  unfold ints at h1 ⊢
  rw[List.map_set]
  exact h1
 ·rcases List.mem_or_eq_of_mem_set hq with e|e
  ·exact h.2 q e
  ·rw[e];simpa using hp5
theorem Own5.free {t:TypeId} {B:Nat} {w:World} {g n cap:Nat} {ps:List (List Int)} (h:Own5 t B w (.slice (some ⟨g,0,none⟩) n cap) ps) (i:Nat):w.frozen? ⟨g,i,none⟩=false:=by
 obtain⟨⟨_,h2⟩,_⟩:=h
 rcases h2 with⟨h0,_⟩|⟨g',cap',cur,hv,hb,hg,_⟩
 ·cases h0
 ·simp only [Value.slice.injEq,Option.some.injEq,Addr.mk.injEq] at hv
  obtain⟨⟨rfl,_⟩,_⟩:=hv
  exact World.free_of_heap hg i
def oddN (nm:List Nat) (k i:Nat):Nat:=((List.range i).filter fun d=>sg nm d == k && d % 2 == 1).length
theorem q5u (nm:List Nat) (k i:Nat):oddN nm k (i+1)=oddN nm k i+if sg nm i=k then i % 2 else 0:=by
 unfold oddN
 rw[List.range_succ,List.filter_append,List.length_append]
 rcases Nat.mod_two_eq_zero_or_one i with h1|h1 <;> by_cases h2:sg nm i=k <;> simp[h1,h2]
theorem qih (nm:List Nat) (k i:Nat):oddN nm k i≤i:=by
 unfold oddN
 have:=List.length_filter_le (fun d=>sg nm d == k && d % 2 == 1) (List.range i)
 simpa using this
theorem qfj {nm:List Nat} {n:Nat} (hp:∀ e,2 * e+1<n→sg nm (2 * e)=sg nm (2 * e+1)) (k:Nat):∀ m,2 * m≤n→cntN nm k (2 * m)=2 * oddN nm k (2 * m)
 | 0,_=>rfl
 | m+1,hm=>by
  have ih:=qfj hp k m (by omega)
  have h1:=hp m (by omega)
  rw[show 2 * (m+1)=2 * m+1+1 by omega,qdl,qdl,q5u,q5u,ih,← h1]
  by_cases e:sg nm (2 * m)=k
  ·simp only [if_pos e];omega
  ·simp only [if_neg e];omega
noncomputable def rootP (s:List Nat) (j:Nat):Nat:=((List.range s.length).filter fun d=>crep s.length (sg s) d == d).getD j 0
theorem qgt {p:Nat→Bool}:∀ (n j r:Nat),((List.range n).filter p)[j]? = some r→r<n∧p r=true∧((List.range r).filter p).length=j:=by
 intro n
 induction n with
 | zero=>intro j r h;simp at h
 | succ n ih =>
  intro j r h
  rw[List.range_succ,List.filter_append] at h
  rcases Nat.lt_or_ge j ((List.range n).filter p).length with hlt|hge
  ·rw[List.getElem?_append_left hlt] at h
   obtain⟨h1,h2,h3⟩:=ih j r h
   exact⟨by omega,h2,h3⟩
  ·rw[List.getElem?_append_right hge] at h
   by_cases hp:p n=true
   ·simp only [List.filter_cons,hp,List.filter_nil,if_true] at h
    have hj:j - ((List.range n).filter p).length=0:=by have:=q01 h;simp at this;omega
    rw[hj] at h
    simp at h
    subst h
    exact⟨by omega,hp,by omega⟩
   ·simp[hp] at h
section
variable {s:List Nat} (hP:IsP s.length (sg s)) (he:s.length % 2=0)
include hP he
omit hP he in
theorem q6l {j:Nat} (hj:j<cldr s.length (sg s) s.length):rootP s j<s.length∧crep s.length (sg s) (rootP s j)=rootP s j∧cnum s.length (sg s) (rootP s j)=j:=by
 unfold rootP
 have hl:j<((List.range s.length).filter fun d=>crep s.length (sg s) d == d).length:=hj
 have hg:=List.getElem?_eq_getElem hl
 rw[List.getD_eq_getElem?_getD,hg,Option.getD_some]
 obtain⟨h1,h2,h3⟩:=qgt _ _ _ hg
 simp only [beq_iff_eq] at h2
 refine⟨h1,h2,?_⟩
 unfold cnum
 rw[h2]
 exact h3
theorem ql7 {d:Nat} (hd:d<s.length) (hc:crep s.length (sg s) d=d):rootP s (cldr s.length (sg s) d)=d:=by
 have h1:=q0u s.length (sg s) d
 rw[if_pos hc] at h1
 have h2:=q3e s.length (sg s) (show d+1≤s.length from hd)
 obtain⟨a,b,c⟩:=q6l (s:=s) (j:=cldr s.length (sg s) d) (by omega)
 have h3:cnum s.length (sg s) d=cldr s.length (sg s) d:=(hP.cnum_new he hd).2 hc
 have:=(hP.cnum_iff he hd a).1 (by rw[h3,c])
 have h4:=(hP.crep_iff he hd a).2 this
 rw[hc,b] at h4
 exact h4.symm
noncomputable def rowJ (s:List Nat) (d j:Nat):List Int:=[(rootP s j:Int),(ofN s (cnL s) j d:Nat),(oddN (cnL s) j d:Nat),(ofN (phiL s) (cnL s) j d:Nat),0]
noncomputable def rowsM (s:List Nat) (m d:Nat):List (List Int):=(List.range m).map (rowJ s d)
omit hP he in
theorem q0h (s:List Nat) (m d:Nat):(rowsM s m d).length=m:=by simp[rowsM]
omit hP he in
theorem q41 {s:List Nat} {m d j:Nat} (hj:j<m):(rowsM s m d)[j]? = some (rowJ s d j):=by simp[rowsM,hj]
theorem qgu {d x:Nat} (hd:d<s.length) (hx:x<d) (hc:crep s.length (sg s) d=d):cnum s.length (sg s) x≠cldr s.length (sg s) d:=by
 intro e
 have h3:cnum s.length (sg s) d=cldr s.length (sg s) d:=(hP.cnum_new he hd).2 hc
 have:=(hP.crep_iff he (show x<s.length by omega) hd).2 ((hP.cnum_iff he (show x<s.length by omega) hd).1 (by rw[e,h3]))
 rw[hc] at this
 have hle:=q20 (Conn.refl s.length (sg s) x)
 omega
theorem ql8 {d:Nat} (hd:d<s.length) (hc:crep s.length (sg s) d=d):rowsM s (cldr s.length (sg s) d) d ++ [[(d:Int),0,0,0,0]]=rowsM s (cldr s.length (sg s) (d+1)) d:=by
 have h1:=q0u s.length (sg s) d
 rw[if_pos hc] at h1
 have hz:∀ (p:Nat→Bool),((List.range d).filter fun x=>p x && sg (cnL s) x == cldr s.length (sg s) d)=[]:=by
  intro p
  rw[List.filter_eq_nil_iff]
  intro x hx
  have hx:=List.mem_range.1 hx
  have:=qgu hP he hd hx hc
  rw[q31 (by omega)]
  simp;intro _;exact this
 have h2:rowJ s d (cldr s.length (sg s) d)=[(d:Int),0,0,0,0]:=by
  unfold rowJ ofN oddN
  rw[ql7 hP he hd hc,hz,hz]
  have:((List.range d).filter fun x=>sg (cnL s) x == cldr s.length (sg s) d && x % 2 == 1)=[]:=by
   rw[← hz (fun x=>x % 2 == 1)]
   refine List.filter_congr (fun x _=>?_)
   rw[Bool.and_comm]
  rw[this];rfl
 rw[h1]
 unfold rowsM
 rw[List.range_succ,List.map_append]
 simp[h2]
omit hP he in
theorem qii {m d:Nat} (hd:d<s.length) (hm:cnum s.length (sg s) d<m) :
  rowsM s m (d+1)=(rowsM s m d).set (cnum s.length (sg s) d) [(rootP s (cnum s.length (sg s) d):Int),((ofN s (cnL s) (cnum s.length (sg s) d) d+if rep (sg s) d=d then 1 else 0:Nat):Int),
   ((oddN (cnL s) (cnum s.length (sg s) d) d+d % 2:Nat):Int),((ofN (phiL s) (cnL s) (cnum s.length (sg s) d) d+if rep (sg (phiL s)) d=d then 1 else 0:Nat):Int),0]:=by
 have hk:=q31 hd
 apply List.ext_getElem?
 intro j
 rw[List.getElem?_set,q0h]
 by_cases hj:j<m
 ·rw[q41 hj]
  by_cases e:cnum s.length (sg s) d=j
  ·subst e
   rw[if_pos rfl,if_pos hm]
   unfold rowJ
   rw[q83,q83,q5u,if_pos hk]
   simp only [hk,and_true]
  ·rw[if_neg e,q41 hj]
   unfold rowJ
   rw[q83,q83,q5u]
   simp only [hk,e,and_false,if_false,Nat.add_zero]
 ·rw[List.getElem?_eq_none (by rw[q0h];omega)]
  by_cases e:cnum s.length (sg s) d=j
  ·omega
  ·rw[if_neg e,List.getElem?_eq_none (by rw[q0h];omega)]
theorem ql9 {j:Nat} (hj:j<cldr s.length (sg s) s.length):∃ g0:Int,(q1g s s.length)[j]? = some ((rowJ s s.length j).set 4 g0) ∧
  g0=(2 - ((ofN s (cnL s) j s.length:Nat):Int)+((oddN (cnL s) j s.length:Nat):Int) - ((ofN (phiL s) (cnL s) j s.length:Nat):Int)).tdiv 2:=by
 obtain⟨h1,h2,h3⟩:=q6l (s:=s) hj
 have hl:j<((List.range s.length).filter fun d=>crep s.length (sg s) d == d).length:=hj
 have hg:((List.range s.length).filter fun d=>crep s.length (sg s) d == d)[j]? = some (rootP s j):=by
  unfold rootP
  rw[List.getD_eq_getElem?_getD,List.getElem?_eq_getElem hl];rfl
 have hodd:cntN (cnL s) j s.length=2 * oddN (cnL s) j s.length:=by
  obtain⟨m,hm⟩:∃ m,s.length=2 * m:=⟨s.length / 2,by omega⟩
  have:=qfj (nm:=cnL s) (n:=s.length) (fun e hee=>by
   rw[q31 (by omega),q31 hee]
   refine (hP.cnum_iff he (by omega) hee).2 ?_
   have h5:mt (2 * e)=2 * e+1:=by unfold mt;rw[if_pos (by omega)]
   rw[← h5]
   exact Conn.mate (by omega)) j m (by omega)
  rw[← hm] at this
  exact this
 refine⟨_,?_,rfl⟩
 unfold q1g
 rw[List.getElem?_map,hg]
 simp only [Option.map_some]
 unfold partI ptG ptV ptE ptB rowJ
 rw[h3,hodd,Nat.mul_div_cancel_left _ (by omega)]
 rfl
end
end
section
open Go.RowKit
theorem qij:(Tryz.prog.info? 188).map (fun i=>(i.zero,i.size,i.bytes))=some (some (.agg #[.int .i64 0,.int .i64 0,.int .i64 0,.int .i64 0,.int .i64 0]),5,40):=by kernel_rfl
theorem qfk {ops:Array Oper} {rest:List Oper} {o:Oper} {a:Act} {Q:Exit→Act→World→Prop} {wr:World} (n:Nat) (hgd:o.guard=none) (s x:Operand)
  (ho:o.op=.call { callee:=.builtin .append,args:=#[s,x],argTypes:=#[186,186] }) (B:Nat) (v:Value) (ps:List (List Int)) (z0 z1 z2 z3 z4:Int) (hn:Hid (ps.length=n)) (H:Nat) (hH:wr.heap.size=H) (hs:a.eval s=v) (hx:a.eval x=.slice (some ⟨H,0,none⟩) 1 1)
  (hown:Own5 188 B wr v ps) (hlen:n≤100000000) (hB:B≤wr.heap.size)
  (h:∀ g cap w',Own5 188 B w' (.slice (some ⟨g,0,none⟩) (n+1) cap) (ps ++ [[z0,z1,z2,z3,z4]])→Keeps (fun k=>v.ownBlock=some k) wr w'→(v.ownBlock=some g∨wr.heap.size≤g) →
   wpList Tryz.prog ops Q rest (a.put o.dst (.slice (some ⟨g,0,none⟩) (n+1) cap)) w') :
  wpList Tryz.prog ops Q (o :: rest) a (wr.alloc (.cells #[.int .i64 z0,.int .i64 z1,.int .i64 z2,.int .i64 z3,.int .i64 z4] 188)):=by
 obtain⟨i,hi,hz0,hz1,hz2⟩:=info_parts qij
 have hn:=hn.out
 subst hn
 subst hH
 refine wpList_append_lies _ hgd s x _ ho B 188 i _ 5 40 Tryz.underlying186 hi hz0 hz1 hz2 rfl (by decide) v ps.length _ hs (World.ownsRow.alloc hown.1 _) ⟨wr.heap.size,0,none⟩ 1 1 [.int .i64 z0,.int .i64 z1,.int .i64 z2,.int .i64 z3,.int .i64 z4] hx rfl (qbl _ _ _ _ _ _ _) ?_ (by decide) ?_ ?_ ?_ (wr.heap.size+1) (by simp) ?_
 ·intro u hu;simp at hu;rcases hu with rfl|rfl|rfl|rfl|rfl <;> rfl
 ·unfold maxLen;omega
 ·omega
 ·simp;omega
 ·intro g cap w1 hown1 hgrow hat _
  refine h g cap w1 ⟨?_,?_⟩ (((Keeps.refl _ wr).alloc _).grown hgrow (fun k hk=>.inl hk)) (hat.imp id (fun h=>by omega))
  ·rw[List.length_append,List.flatten_append]
   unfold ints at hown1 ⊢
   rw[List.map_append]
   exact hown1
  ·intro p hp
   rcases List.mem_append.1 hp with hp|hp
   ·exact hown.2 p hp
   ·simp at hp;subst hp;rfl
structure PS (w:World) (b:Nat) (s:List Nat) (root lone:Int) (R:Nat→Prop) (g:Nat) (ps:List (List Int)) (ov:Value) (wr:World):Prop where
 mq:∃ R',MapAt wr b s root lone R'∧(∀ x,R' x→R x∨(w.heap.size≤x∧x<wr.heap.size))∧¬ R' g∧∀ k,ov.ownBlock=some k→¬ R' k
 nm:OwnI w.heap.size wr (.slice (some ⟨g,0,none⟩) s.length s.length) (nats (cnL s))
 ow:Own5 188 w.heap.size wr ov ps
 ne:∀ k,ov.ownBlock=some k→k≠g
 bw:b<w.heap.size
 kee:Keeps (fun k=>k=b) w wr
section
variable {w:World} {b:Nat} {s:List Nat} {root lone:Int} {R:Nat→Prop} {g:Nat} {ps:List (List Int)} {ov:Value} {wr:World} (h:PS w b s root lone R g ps ov wr)
include h
theorem PS.ask:∃ R',MapAt wr b s root lone R'∧∀ w2,MapQ wr b s root lone R' w2→PS w b s root lone R g ps ov w2:=by
 obtain⟨R',h1,h2,h3,h4⟩:=h.mq
 have hb:=h.bw
 have hg:=h.nm.lt g rfl
 refine⟨R',h1,fun w2 hq=>⟨⟨grow R' wr w2,hq.1,fun x hx=>?_,fun hx=>?_,fun k hk hx=>?_⟩,h.nm.keeps hq.2 (fun q hq' e=>by have:=(h.nm.lt q hq').1;omega),h.ow.keeps hq.2 (fun q hq' e=>by have:=(h.ow.lt q hq').1;omega),h.ne,hb,h.kee.trans hq.2 (fun _ _ e=>e)⟩⟩
 ·have hs:=h.kee.size
  have hs2:=hq.2.size
  rcases hx with hx|hx
  ·rcases h2 x hx with e|e
   ·exact .inl e
   ·exact .inr ⟨e.1,by omega⟩
  ·exact .inr ⟨by omega,hx.2⟩
 ·rcases hx with hx|hx
  ·exact h3 hx
  ·omega
 ·rcases hx with hx|hx
  ·exact h4 k hk hx
  ·have:=(h.ow.lt k hk).2;omega
theorem PS.app {p:List Int} {g5 m cap:Nat} {w5:World} (ho:Own5 188 w.heap.size w5 (.slice (some ⟨g5,0,none⟩) m cap) (ps ++ [p])) (k:Keeps (fun q=>ov.ownBlock=some q) wr w5) (hat:ov.ownBlock=some g5∨wr.heap.size≤g5) :
  PS w b s root lone R g (ps ++ [p]) (.slice (some ⟨g5,0,none⟩) m cap) w5:=by
 obtain⟨R',h1,h2,h3,h4⟩:=h.mq
 have hb:=h.bw
 have hg:=h.nm.lt g rfl
 have hbo:¬ ov.ownBlock=some b:=fun e=>by have:=(h.ow.lt b e).1;omega
 refine⟨⟨R',h1.keeps k hbo (fun x hx e=>h4 x e hx),fun x hx=>?_,h3,fun q hq hx=>?_⟩,h.nm.keeps k (fun q hq e=>h.ne q e (by simp only [Value.ownBlock,Option.some.injEq] at hq;exact hq.symm)),ho,fun q hq=>?_,hb,h.kee.trans k (fun x hx e=>by have:=(h.ow.lt x e).1;omega)⟩
 ·have hs2:=k.size
  rcases h2 x hx with e|e
  ·exact .inl e
  ·exact .inr ⟨e.1,by omega⟩
 ·simp only [Value.ownBlock,Option.some.injEq] at hq
  subst hq
  rcases hat with e|e
  ·exact h4 _ e hx
  ·have:=h1.old _ hx;omega
 ·simp only [Value.ownBlock,Option.some.injEq] at hq
  subst hq
  rcases hat with e|e
  ·exact h.ne _ e
  ·omega
end
theorem PS.set {w:World} {b:Nat} {s:List Nat} {root lone:Int} {R:Nat→Prop} {g:Nat} {ps:List (List Int)} {g5 m cap:Nat} {wr:World} (h:PS w b s root lone R g ps (.slice (some ⟨g5,0,none⟩) m cap) wr) {j k:Nat} {p:List Int} (hp:ps[j]? = some p) (hk:k<5) (z:Int) :
  PS w b s root lone R g (ps.set j (p.set k z)) (.slice (some ⟨g5,0,none⟩) m cap) (wr.setCell ⟨g5,j * 5+k,none⟩ (.int .i64 z)):=by
 obtain⟨R',h1,h2,h3,h4⟩:=h.mq
 have hb:=h.bw
 have hg5:=h.ow.lt g5 rfl
 have kk:=(Keeps.refl (fun q=>q=g5) wr).setCell (p:=⟨g5,j * 5+k,none⟩) (.inl rfl) (.int .i64 z)
 refine⟨⟨R',h1.keeps kk (fun e=>by omega) (fun x hx e=>h4 g5 rfl (e ▸ hx)),fun x hx=>?_,h3,h4⟩,h.nm.keeps kk (fun q hq e=>h.ne g5 rfl (by simp only [Value.ownBlock,Option.some.injEq] at hq;omega)),h.ow.set hp hk z,h.ne,hb,h.kee.trans kk (fun x hx e=>by omega)⟩
 have hs2:=kk.size
 rcases h2 x hx with e|e
 ·exact .inl e
 ·exact .inr ⟨e.1,by omega⟩
theorem PS.drewN {w:World} {b:Nat} {s:List Nat} {root lone:Int} {R:Nat→Prop} {g:Nat} {ps:List (List Int)} {ov:Value} {wr:World} (h:PS w b s root lone R g ps ov wr) (n:Nat):PS w b s root lone R g ps ov (wr.drewN n):=by
 obtain⟨R',h1,h2,h3,h4⟩:=h.mq
 have kk:=(Keeps.refl (fun _=>False) wr).drewN n
 exact⟨⟨R',h1.keeps kk (fun h=>h) (fun _ _ h=>h),h2,h3,h4⟩,h.nm.keeps kk (fun _ _ h=>h),h.ow.keeps kk (fun _ _ h=>h),h.ne,h.bw,h.kee.drewN n⟩
theorem qla {α:Type} {l:List α} {j:Nat} {x:α} (h:l[j]? = some x):l.set j x=l:=by
 apply List.ext_getElem?
 intro i
 rw[List.getElem?_set]
 by_cases e:j=i
 ·subst e;rw[if_pos rfl,if_pos (q01 h),h]
 ·rw[if_neg e]
theorem q8h {n:Nat} {S:Nat→Nat} (h:IsP n S) {d:Nat} (hd:d<n):vnum S d=ldr S d↔rep S d=d:=by
 have hle:=h.rep_self_le hd
 constructor
 ·intro hc
  rcases Nat.lt_or_ge (rep S d) d with hlt|hge
  ·have h1:=q1a S (rep S d)
   rw[if_pos (h.rep_rep hd)] at h1
   have h2:=q67 S (show rep S d+1≤d from hlt)
   unfold vnum at hc
   omega
  ·omega
 ·intro hc
  unfold vnum;rw[hc]
noncomputable def rowsG (s:List Nat) (j:Nat):List (List Int):=(q1g s s.length).take j ++ (rowsM s (cldr s.length (sg s) s.length) s.length).drop j
theorem q73 (s:List Nat) (j:Nat):(rowsG s j).length=cldr s.length (sg s) s.length:=by
 unfold rowsG
 rw[List.length_append,List.length_take,List.length_drop,q0h,q0m];omega
theorem qc2 {s:List Nat} {j:Nat} (hj:j<cldr s.length (sg s) s.length):(rowsG s j)[j]? = some (rowJ s s.length j):=by
 unfold rowsG
 rw[List.getElem?_append_right (by rw[List.length_take,q0m];omega),List.length_take,q0m,Nat.min_eq_left (by omega),Nat.sub_self,List.getElem?_drop,Nat.add_zero,q41 hj]
theorem qgv {s:List Nat} {j:Nat} {p:List Int} (hj:j<cldr s.length (sg s) s.length) (hp:(q1g s s.length)[j]? = some p):(rowsG s j).set j p=rowsG s (j+1):=by
 apply List.ext_getElem?
 intro i
 rw[List.getElem?_set,q73]
 have hl:=q0m s s.length
 unfold rowsG
 by_cases e:j=i
 ·subst e
  rw[if_pos rfl,if_pos hj,List.getElem?_append_left (by rw[List.length_take];omega),List.getElem?_take,if_pos (by omega),hp]
 ·rw[if_neg e]
  rcases Nat.lt_or_ge i j with h1|h1
  ·rw[List.getElem?_append_left (by rw[List.length_take];omega),List.getElem?_append_left (by rw[List.length_take];omega),List.getElem?_take,List.getElem?_take,if_pos h1,if_pos (by omega)]
  ·rw[List.getElem?_append_right (by rw[List.length_take];omega),List.getElem?_append_right (by rw[List.length_take];omega),List.length_take,List.length_take,hl,Nat.min_eq_left (by omega),Nat.min_eq_left (by omega),List.getElem?_drop,List.getElem?_drop]
   congr 1;omega
theorem qik (s:List Nat):rowsG s (cldr s.length (sg s) s.length)=q1g s s.length:=by
 unfold rowsG
 rw[List.take_of_length_le (by rw[q0m];exact Nat.le_refl _),List.drop_of_length_le (by rw[q0h];exact Nat.le_refl _),List.append_nil]
theorem q35 {w:World} {b:Nat} {s:List Nat} {root:Int} {l:Nat} {R:Nat→Prop} (h:MapAt w b s root l R) :
  Calls Tryz.prog 128 #[.pointer (some ⟨b,0,none⟩)] w fun e w'=>∃ ov,e=.returned ov∧Own5 188 w.heap.size w' ov (q0b s l)∧MapQ w b s root l R w':=by
 have hN:=q34 h
 have hle:=h.le
 have hln:=h.ln
 have HP:=Lib.hid (And.intro h.isP (And.intro h.even (qdz h.isP h.even)))
 have HH:=Lib.hid h
 clear h
 go_enter Tryz.func128,Tryz.ntmps128
 go_wp2_with fail
 refine hN.mono ?_
 rintro e w1 ⟨g,rfl,hM⟩
 clear hN
 have h0:PS w b s root l R g (rowsM s (cldr s.length (sg s) 0) 0) (.slice none 0 0) w1:=by
  obtain⟨zs,h1,h2,h3,h4⟩:=hM
  subst h2
  have hs:=h4.size
  refine⟨⟨R,HH.out.keeps h4 (fun h=>h) (fun _ _ h=>h),fun x hx=>.inl hx,fun hx=>by have:=HH.out.old g hx;have:=(h3.lt g rfl).1;omega,fun k hk=>by simp[Value.ownBlock] at hk⟩,h3,Own5.nil _ _ _,fun k hk=>by simp[Value.ownBlock] at hk,HH.out.lt,h4.mono (fun _ _ h=>h.elim)⟩
 clear hM
 go_wp2_with fail
 go_loopg [3,4,5,14] s.length (fun m ov c1 c2 i wr=>∃ d:Nat,d≤s.length∧m=s.length - d∧i=.int .i64 d∧c1=.int .i64 (ldr (sg s) d:Nat)∧c2=.int .i64 (ldr (sg (phiL s)) d:Nat)∧PS w b s root l R g (rowsM s (cldr s.length (sg s) d) d) ov wr)
 case atStart=>exact⟨0,Nat.zero_le _,rfl,rfl,rfl,rfl,h0⟩
 case round =>
  clear h0
  obtain⟨d,hd,hgk,rfl,rfl,rfl,hT⟩:=hrel
  have HG:=Lib.hid hgk
  clear hgk
  by_cases hlt:d<s.length
  ·have hl1:=q4x (sg s) d
   have hl2:=q4x (sg (phiL s)) d
   have hl3:=q5h s.length (sg s) d
   have hl4:=q5h s.length (sg s) (d+1)
   have hls:=q0u s.length (sg s) d
   obtain⟨oa,oc,rfl⟩:=hT.ow.form
   rw[q0h] at hT ⊢
   have hnc:=(hT.nm.cell (show (nats (cnL s))[d]? = some ((cnum s.length (sg s) d:Nat):Int) from q0i (by simp[cnL,hlt]))).1
   obtain⟨k,hk⟩:∃ k,k=cnum s.length (sg s) d:=⟨_,rfl⟩
   obtain⟨M,hM⟩:∃ M,M=cldr s.length (sg s) d:=⟨_,rfl⟩
   rw[← hk] at hnc
   rw[← hM] at hT hl3 hls ⊢
   obtain⟨A1,hA1⟩:∃ A1,A1=ldr (sg s) d:=⟨_,rfl⟩
   obtain⟨A2,hA2⟩:∃ A2,A2=ldr (sg (phiL s)) d:=⟨_,rfl⟩
   rw[← hA1] at hl1 ⊢
   rw[← hA2] at hl2 ⊢
   have HA12:=Lib.hid (And.intro hA1 hA2)
   clear hA1 hA2
   have hkM:(k=M↔crep s.length (sg s) d=d):=by rw[hk,hM];exact HP.out.1.cnum_new HP.out.2.1 hlt
   have HK:=Lib.hid (And.intro hk (And.intro hM hkM))
   have HT:=Lib.hid hT
   clear hT hk hkM hM
   go_upto_if 22 with fail
   generalize htb:((k:Int) == (M:Int))=tb
   have HTB:=Lib.hid htb
   clear htb
   go_cut [3] from 23 to 27 (fun ov wx=>PS w b s root l R g (rowsM s (cldr s.length (sg s) (d+1)) d) ov wx)
   case first =>
    by_cases hkm:k=M
    ·have hcr:=HK.out.2.2.1 hkm
     have hrn:=ql8 HP.out.1 HP.out.2.1 hlt hcr
     have hlen:Hid ((rowsM s M d).length=M):=Lib.hid (q0h _ _ _)
     have hown:=HT.out.ow
     have hsz:=HT.out.kee.size
     have hMl:M≤100000000:=by omega
     have happ:=fun (w5:World) g5 cap=>HT.out.app (p:=[(d:Int),0,0,0,0]) (g5:=g5) (m:=M+1) (cap:=cap) (w5:=w5)
     rw[← HK.out.2.1] at hrn
     have HA:=Lib.hid (And.intro happ hrn)
     have HKM:=Lib.hid hkm
     obtain rfl:tb=true:=by rw[← HTB.out,beq_iff_eq];omega
     clear happ hrn hcr hkm
     go_wp2_with (at_builtin;refine qfk M rfl _ _ rfl w.heap.size (.slice oa M oc) (rowsM s M d) (d:Int) 0 0 0 0 hlen wr.heap.size rfl rfl rfl hown hMl hsz ?_;intro g5 cap5 w5 hown5 hk5 hat5;have HT5:=Lib.hid (HA.out.1 w5 g5 cap5 hown5 hk5 hat5);clear hown5 hk5 hat5)
     go_meet
     rw[← HA.out.2]
     exact HT5.out
    ·have hcr:¬ crep s.length (sg s) d=d:=fun e=>hkm (HK.out.2.2.2 e)
     rw[if_neg hcr] at hls
     obtain rfl:tb=false:=by rw[← HTB.out,beq_eq_false_iff_ne];omega
     have HF:=Lib.hid (show PS w b s root l R g (rowsM s (cldr s.length (sg s) (d+1)) d) (.slice oa M oc) wr by rw[hls];exact HT.out)
     clear hcr hkm hls
     go_wp2
     go_meet
     exact HF.out
   case rest =>
    rename_i ov wx
    have hT2:=hcut
    clear hcut HT HTB hls
    obtain⟨M2,hM2⟩:∃ M2,M2=cldr s.length (sg s) (d+1):=⟨_,rfl⟩
    have hkM2:k<M2:=by
     have h5:=q0u s.length (sg s) (crep s.length (sg s) d)
     rw[if_pos (HP.out.1.crep_crep HP.out.2.1 hlt)] at h5
     have h6:=q3e s.length (sg s) (show crep s.length (sg s) d+1≤d+1 by have:=q20 (Conn.refl s.length (sg s) d);omega)
     rw[HK.out.1,hM2];unfold cnum;omega
    rw[← hM2] at hT2 hl4
    have HM2:=Lib.hid hM2
    clear hM2
    obtain⟨g5,c5,rfl,hcell⟩:=hT2.ow.cell (q41 (s:=s) (d:=d) hkM2)
    rw[q0h] at *
    obtain⟨v,hv⟩:∃ v,v=ofN s (cnL s) k d:=⟨_,rfl⟩
    obtain⟨e,hev⟩:∃ e,e=oddN (cnL s) k d:=⟨_,rfl⟩
    obtain⟨q,hq⟩:∃ q,q=ofN (phiL s) (cnL s) k d:=⟨_,rfl⟩
    obtain⟨r0,hr0⟩:∃ r0,r0=rootP s k:=⟨_,rfl⟩
    have hrow:(rowsM s M2 d)[k]? = some [(r0:Int),v,e,q,0]:=by rw[q41 hkM2,hv,hev,hq,hr0];rfl
    have hvb:v≤131072:=by have:=qaj s (cnL s) k d;omega
    have heb:e≤131072:=by have:=qih (cnL s) k d;omega
    have hqb:q≤131072:=by have:=qaj (phiL s) (cnL s) k d;omega
    have HV:=Lib.hid (And.intro hv (And.intro hev (And.intro hq (And.intro hr0 hrow))))
    obtain⟨R',hMA,hask⟩:=hT2.ask
    have hVt:=q3x hMA d hlt
    have HASK:=Lib.hid hask
    clear hv hev hq hr0 hrow hcell hT2 hMA hask
    go_wp2_with fail
    refine hVt.mono ?_
    rintro en w2 ⟨rfl,hq2⟩
    have HT2:=Lib.hid (HASK.out w2 hq2)
    clear hVt HASK hq2
    have hvl:=q8h HP.out.1 hlt
    rw[← HA12.out.1] at hvl
    obtain⟨x1,hx1⟩:∃ x1,x1=vnum (sg s) d:=⟨_,rfl⟩
    have hx1l:=HP.out.1.vnum_lt hlt
    have hx1n:=q4x (sg s) s.length
    rw[← hx1] at hvl hx1l ⊢
    have HVL:=Lib.hid hvl
    clear hvl hx1
    go_upto_if 35 with fail
    generalize htb:((x1:Int) == (A1:Int))=tb2
    have HTB2:=Lib.hid htb
    clear htb
    go_cut [4] from 36 to 44 (fun c1 wy=>c1=.int .i64 (ldr (sg s) (d+1):Nat)∧PS w b s root l R g ((rowsM s M2 d).set k [(r0:Int),((v+if rep (sg s) d=d then 1 else 0:Nat):Int),e,q,0]) (.slice (some ⟨g5,0,none⟩) M2 c5) wy)
    case first =>
     have hls:=q1a (sg s) d
     by_cases hr:rep (sg s) d=d
     ·obtain rfl:tb2=true:=by rw[← HTB2.out,beq_iff_eq];have:=HVL.out.2 hr;omega
      rw[if_pos hr] at hls
      have HRL:=Lib.hid (And.intro hr hls)
      obtain⟨g6,c6,hv6,hcell⟩:=HT2.out.ow.cell HV.out.2.2.2.2
      rw[q0h] at hv6
      simp only [Value.slice.injEq,Option.some.injEq,Addr.mk.injEq,and_true,true_and] at hv6
      obtain⟨rfl,rfl⟩:=hv6
      have k1:=hcell 1 (v:Int) rfl
      have f1:=HT2.out.ow.free (k * 5+1)
      have hset:=HT2.out.set HV.out.2.2.2.2 (k:=1) (by omega) ((v:Int)+1)
      have HF:=Lib.hid hset
      clear hset hcell hr hls
      go_wp2
      go_meet
      exact⟨by rw[HRL.out.2,← HA12.out.1];go_num,by rw[if_pos HRL.out.1];exact HF.out⟩
     ·obtain rfl:tb2=false:=by rw[← HTB2.out,beq_eq_false_iff_ne];have:=HVL.out;intro hh;exact hr (this.1 (by omega))
      rw[if_neg hr] at hls
      have HRL:=Lib.hid (And.intro hr hls)
      have HF:=Lib.hid (show PS w b s root l R g ((rowsM s M2 d).set k [(r0:Int),((v+0:Nat):Int),e,q,0]) (.slice (some ⟨g5,0,none⟩) M2 c5) w2 by
       rw[show (rowsM s M2 d).set k [(r0:Int),((v+0:Nat):Int),e,q,0]=rowsM s M2 d from qla HV.out.2.2.2.2]
       exact HT2.out)
      clear hr hls
      go_wp2
      go_meet
      exact⟨by rw[HRL.out.2,Nat.add_zero,← HA12.out.1],by rw[if_neg HRL.out.1];exact HF.out⟩
    case rest =>
     rename_i c1 wy
     obtain⟨rfl,hT3⟩:=hcut
     clear HTB2 HT2 HVL hx1l hx1n
     obtain⟨v1,hv1⟩:∃ v1,v1=v+if rep (sg s) d=d then 1 else 0:=⟨_,rfl⟩
     have hv1b:v1≤131073:=by rw[hv1];split <;> omega
     rw[← hv1] at hT3
     have hrow1:((rowsM s M2 d).set k [(r0:Int),(v1:Int),e,q,0])[k]? = some [(r0:Int),(v1:Int),e,q,0]:=by rw[List.getElem?_set,if_pos rfl,if_pos (by rw[q0h];exact hkM2)]
     have HV1:=Lib.hid (And.intro hv1 hrow1)
     obtain⟨R2,hMA,hask⟩:=hT3.ask
     have hVt:=qgn hMA d hlt
     have HASK:=Lib.hid hask
     clear hv1 hrow1 hT3 hMA hask
     obtain⟨B1,hB1⟩:∃ B1,B1=ldr (sg s) (d+1):=⟨_,rfl⟩
     have hB1l:=q4x (sg s) (d+1)
     rw[← hB1] at hB1l ⊢
     have HB1:=Lib.hid hB1
     clear hB1
     go_wp2_with fail
     refine hVt.mono ?_
     rintro en w3 ⟨rfl,hq2⟩
     have HT3:=Lib.hid (HASK.out w3 hq2)
     clear hVt HASK hq2
     have hlt2:d<(phiL s).length:=by rw[q08];exact hlt
     have hvl:=q8h HP.out.2.2 hlt2
     rw[← HA12.out.2] at hvl
     obtain⟨x1,hx1⟩:∃ x1,x1=vnum (sg (phiL s)) d:=⟨_,rfl⟩
     have hx1l:=HP.out.2.2.vnum_lt hlt2
     have hx1n:=q4x (sg (phiL s)) (phiL s).length
     rw[q08] at hx1n hx1l
     rw[← hx1] at hvl hx1l ⊢
     have HVL:=Lib.hid hvl
     clear hvl hx1
     go_upto_if 49 with fail
     generalize htb:((x1:Int) == (A2:Int))=tb3
     have HTB3:=Lib.hid htb
     clear htb
     go_cut [5] from 50 to 58 (fun c1 wy=>c1=.int .i64 (ldr (sg (phiL s)) (d+1):Nat)∧PS w b s root l R g ((rowsM s M2 d).set k [(r0:Int),(v1:Int),e,((q+if rep (sg (phiL s)) d=d then 1 else 0:Nat):Int),0]) (.slice (some ⟨g5,0,none⟩) M2 c5) wy)
     case first =>
      have hls:=q1a (sg (phiL s)) d
      by_cases hr:rep (sg (phiL s)) d=d
      ·obtain rfl:tb3=true:=by rw[← HTB3.out,beq_iff_eq];have:=HVL.out.2 hr;omega
       rw[if_pos hr] at hls
       have HRL:=Lib.hid (And.intro hr hls)
       obtain⟨g6,c6,hv6,hcell⟩:=HT3.out.ow.cell HV1.out.2
       rw[List.length_set,q0h] at hv6
       simp only [Value.slice.injEq,Option.some.injEq,Addr.mk.injEq,and_true,true_and] at hv6
       obtain⟨rfl,rfl⟩:=hv6
       have k1:=hcell 3 (q:Int) rfl
       have f1:=HT3.out.ow.free (k * 5+3)
       have hset:=HT3.out.set HV1.out.2 (k:=3) (by omega) ((q:Int)+1)
       rw[List.set_set] at hset
       have HF:=Lib.hid hset
       clear hset hcell hr hls
       go_wp2
       go_meet
       exact⟨by rw[HRL.out.2,← HA12.out.2];go_num,by rw[if_pos HRL.out.1];exact HF.out⟩
      ·obtain rfl:tb3=false:=by rw[← HTB3.out,beq_eq_false_iff_ne];have:=HVL.out;intro hh;exact hr (this.1 (by omega))
       rw[if_neg hr] at hls
       have HRL:=Lib.hid (And.intro hr hls)
       clear hr hls
       go_wp2
       go_meet
       exact⟨by rw[HRL.out.2,Nat.add_zero,← HA12.out.2],by rw[if_neg HRL.out.1];exact HT3.out⟩
     case rest =>
      rename_i c2 wz
      obtain⟨rfl,hT4⟩:=hcut
      clear HTB3 HT3 HVL hx1l hx1n
      obtain⟨q1,hq1⟩:∃ q1,q1=q+if rep (sg (phiL s)) d=d then 1 else 0:=⟨_,rfl⟩
      have hq1b:q1≤131073:=by rw[hq1];split <;> omega
      rw[← hq1] at hT4
      have hrow2:((rowsM s M2 d).set k [(r0:Int),(v1:Int),e,q1,0])[k]? = some [(r0:Int),(v1:Int),e,q1,0]:=by rw[List.getElem?_set,if_pos rfl,if_pos (by rw[q0h];exact hkM2)]
      obtain⟨g6,c6,hv6,hcell⟩:=hT4.ow.cell hrow2
      rw[List.length_set,q0h] at hv6
      simp only [Value.slice.injEq,Option.some.injEq,Addr.mk.injEq,and_true,true_and] at hv6
      obtain⟨rfl,rfl⟩:=hv6
      have k1:=hcell 2 (e:Int) rfl
      have f1:=hT4.ow.free (k * 5+2)
      obtain⟨o,ho⟩:∃ o,o=d % 2:=⟨_,rfl⟩
      have ho2:o<2:=by omega
      have om1:(d:Int).tmod 2=(o:Int):=by rw[ho,Int.tmod_eq_emod_of_nonneg (by omega)];simp
      have om2:(d:Int) % 2=(o:Int):=by rw[ho];simp
      have hset:=hT4.set hrow2 (k:=2) (by omega) ((e:Int)+o)
      rw[List.set_set] at hset
      have hstep:=qii (s:=s) (m:=M2) hlt (by rw[← HK.out.1];exact hkM2)
      rw[← HK.out.1,← HV.out.1,← HV.out.2.1,← HV.out.2.2.1,← HV.out.2.2.2.1,← HV1.out.1,← hq1,← ho] at hstep
      have hm2:rowsM s M2 (d+1)=rowsM s (cldr s.length (sg s) (d+1)) (d+1):=by rw[HM2.out]
      have e9:([(r0:Int),(v1:Int),(e:Int),(q1:Int),0].set 2 ((e:Int)+o))=[(r0:Int),(v1:Int),((e+o:Nat):Int),(q1:Int),0]:=by simp
      rw[e9,← hstep,hm2] at hset
      clear e9
      have hfin:=hset
      have HF:=Lib.hid hfin
      obtain⟨B2,hB2⟩:∃ B2,B2=ldr (sg (phiL s)) (d+1):=⟨_,rfl⟩
      rw[← hB2]
      have HB2:=Lib.hid hB2
      clear hfin hm2 hset hstep hrow2 hcell hT4 hq1 hB2 ho
      go_wp2
      go_roundg (s.length - (d+1))
      case measure=>rw[HG.out];omega
      case rel=>exact⟨d+1,by omega,rfl,by go_num,by rw[HB1.out],by rw[HB2.out],HF.out⟩
  ·obtain rfl:d=s.length:=by omega
   have hcl:=q5h s.length (sg s) s.length
   have e0:rowsM s (cldr s.length (sg s) s.length) s.length=rowsG s 0:=by unfold rowsG;simp
   have h1:=hT
   rw[e0] at h1
   clear e0
   obtain⟨oa,oc,rfl⟩:=h1.ow.form
   rw[q73] at h1 ⊢
   have HLL:=Lib.hid (And.intro hle hln)
   clear hT HG
   obtain⟨L,hL⟩:∃ L,L=cldr s.length (sg s) s.length:=⟨_,rfl⟩
   rw[← hL] at h1 hcl ⊢
   have HL:=Lib.hid hL
   clear hL
   obtain⟨A1,hA1⟩:∃ A1,A1=ldr (sg s) s.length:=⟨_,rfl⟩
   obtain⟨A2,hA2⟩:∃ A2,A2=ldr (sg (phiL s)) s.length:=⟨_,rfl⟩
   rw[← hA1,← hA2]
   clear hA1 hA2
   go_wp2_with fail
   go_loopg [71] L (fun m i wr=>∃ j:Nat,j≤L∧m=L - j∧i=.int .i64 j∧PS w b s root l R g (rowsG s j) (.slice oa L oc) wr)
   case atStart=>exact⟨0,Nat.zero_le _,rfl,rfl,h1⟩
   case round =>
    clear h1
    obtain⟨j,hj,hgk,rfl,hT⟩:=hrel
    have HG:=Lib.hid hgk
    clear hgk
    by_cases hjl:j<L
    ·have hjc:j<cldr s.length (sg s) s.length:=by rw[← HL.out];exact hjl
     obtain⟨g5,c5,hv5,hcell⟩:=hT.ow.cell (qc2 hjc)
     simp only [Value.slice.injEq] at hv5
     obtain⟨rfl,e5,rfl⟩:=hv5
     clear e5
     obtain⟨gn,hp,hgn⟩:=ql9 HP.out.1 HP.out.2.1 hjc
     have hstep:=qgv hjc hp
     have hset:=hT.set (qc2 hjc) (k:=4) (by omega) gn
     rw[hstep] at hset
     obtain⟨v,hv⟩:∃ v,v=ofN s (cnL s) j s.length:=⟨_,rfl⟩
     obtain⟨e,hev⟩:∃ e,e=oddN (cnL s) j s.length:=⟨_,rfl⟩
     obtain⟨q,hq⟩:∃ q,q=ofN (phiL s) (cnL s) j s.length:=⟨_,rfl⟩
     have hvb:v≤131072:=by have:=qaj s (cnL s) j s.length;omega
     have heb:e≤131072:=by have:=qih (cnL s) j s.length;omega
     have hqb:q≤131072:=by have:=qaj (phiL s) (cnL s) j s.length;omega
     rw[← hv,← hev,← hq] at hgn
     have k1:wr.cell? ⟨g5,j * 5+1,none⟩=some (.int .i64 v):=by rw[hv];exact hcell 1 _ rfl
     have k2:wr.cell? ⟨g5,j * 5+2,none⟩=some (.int .i64 e):=by rw[hev];exact hcell 2 _ rfl
     have k3:wr.cell? ⟨g5,j * 5+3,none⟩=some (.int .i64 q):=by rw[hq];exact hcell 3 _ rfl
     have k4:wr.cell? ⟨g5,j * 5+4,none⟩=some (.int .i64 0):=hcell 4 _ rfl
     have f4:=hT.ow.free (j * 5+4)
     have HF:=Lib.hid hset
     clear hset hstep hp hcell hT hv hev hq
     go_wp2_with fail
     have s1:IntKind.i64.wrap (2 - (v:Int))=2 - (v:Int):=IntWalk.i64_in _ (by omega)
     have s2:IntKind.i64.wrap (2 - (v:Int)+(e:Int))=2 - (v:Int)+(e:Int):=IntWalk.i64_in _ (by omega)
     have s3:IntKind.i64.wrap (2 - (v:Int)+(e:Int) - (q:Int))=2 - (v:Int)+(e:Int) - (q:Int):=IntWalk.i64_in _ (by omega)
     have HGN:=Lib.hid hgn
     clear hgn
     go_still_tail 19,(by kernel_rfl)
     change wpList _ _ _ _ _ wr.drew
     go_wp2
     go_roundg (L - (j+1))
     case measure=>rw[HG.out];omega
     case rel=>exact⟨j+1,by omega,rfl,by go_num,by have:=HF.out.drewN 1;rw[HGN.out] at this;exact this⟩
    ·obtain rfl:j=L:=by omega
     have e1:rowsG s j=q1g s s.length:=by
      have:=HL.out
      subst this
      exact qik s
     rw[e1] at hT
     have h2:PS w b s root l R g (q1g s s.length ++ List.replicate 0 [-1,1,0,1,0]) (.slice oa j oc) wr:=by simpa using hT
     have hlon:∀ W,Keeps (fun k=>k=b) w W→True:=fun _ _=>trivial
     obtain⟨R',hMA,_⟩:=hT.ask
     have hLo:=q51 hMA
     clear hT e1 hlon hMA HG hjl hj
     go_wp2_with (go_at_call 37;refine hLo.mono ?_;rintro e w' ⟨rfl,rfl⟩)
     clear hLo
     have hjL:=Lib.hid (show (q1g s s.length).length=j by rw[q0m];exact HL.out.symm)
     go_loopg [3,99] l (fun m ov i wr=>∃ q:Nat,q≤l∧m=l - q∧i=.int .i64 q∧PS w b s root l R g (q1g s s.length ++ List.replicate q [-1,1,0,1,0]) ov wr)
     case atStart=>exact⟨0,Nat.zero_le _,rfl,rfl,h2⟩
     case round =>
      clear h2
      obtain⟨q,hq,hgk,rfl,hT⟩:=hrel
      have HG:=Lib.hid hgk
      clear hgk
      obtain⟨oa,oc,rfl⟩:=hT.ow.form
      have hlen:(q1g s s.length ++ List.replicate q [(-1:Int),1,0,1,0]).length=j+q:=by rw[List.length_append,hjL.out,List.length_replicate]
      rw[hlen] at hT ⊢
      by_cases hql:q<l
      ·have hown:=hT.ow
       have hsz:=hT.kee.size
       have happ:=fun (w5:World) g5 cap=>hT.app (p:=[(-1:Int),1,0,1,0]) (g5:=g5) (m:=j+q+1) (cap:=cap) (w5:=w5)
       have HLN:Hid ((q1g s s.length ++ List.replicate q [(-1:Int),1,0,1,0]).length=j+q):=Lib.hid hlen
       have hMl:j+q≤100000000:=by omega
       have hrep:(q1g s s.length ++ List.replicate q [(-1:Int),1,0,1,0]) ++ [[(-1:Int),1,0,1,0]]=q1g s s.length ++ List.replicate (q+1) [(-1:Int),1,0,1,0]:=by rw[List.append_assoc,← List.replicate_succ']
       have HA:=Lib.hid (And.intro happ hrep)
       obtain⟨J,hJ⟩:∃ J,J=j+q:=⟨_,rfl⟩
       rw[← hJ] at hown hMl HLN HA ⊢
       clear happ hrep hT hlen hJ
       go_wp2_with (at_builtin;refine qfk J rfl _ _ rfl w.heap.size (.slice oa J oc) (q1g s s.length ++ List.replicate q [(-1:Int),1,0,1,0]) (-1) 1 0 1 0 HLN wr.heap.size rfl rfl rfl hown hMl hsz ?_;intro g5 cap5 w5 hown5 hk5 hat5;have HT5:=Lib.hid (HA.out.1 w5 g5 cap5 hown5 hk5 hat5);clear hown5 hk5 hat5)
       go_roundg (l - (q+1))
       case measure=>rw[HG.out];omega
       case rel=>exact⟨q+1,by omega,rfl,by go_num,by rw[← HA.out.2];exact HT5.out⟩
      ·obtain rfl:q=l:=by omega
       obtain⟨R2,h1,h2,h3,h4⟩:=hT.mq
       have hkee:=hT.kee
       have hold:=HH.out.old
       have hmq:MapQ w b s root q R wr:=by
        refine⟨h1.mono (fun x hx=>?_) (fun x hx=>?_) (fun hx=>?_),hkee⟩
        ·rcases h2 x hx with e|e
         ·exact .inl e
         ·exact .inr e
        ·have:=hkee.size
         rcases hx with e|e
         ·have:=hold x e;omega
         ·exact e.2
        ·have:=HH.out.lt
         rcases hx with e|e
         ·exact HH.out.notb e
         ·omega
       have HF:=Lib.hid (And.intro hT.ow hmq)
       clear hT h1 h2 h3 h4 hkee hold hmq hlen
       go_wp2
       go_ret
       exact⟨_,rfl,HF.out⟩
end
section
open Go.RowKit
section
variable {w:World} {b:Nat} {s:List Nat} {root:Int} {l:Nat} {R:Nat→Prop} (h:MapAt w b s root l R)
include h
theorem q9e:Calls Tryz.prog 134 #[.pointer (some ⟨b,0,none⟩)] w fun e w'=>e=.returned (.int .i64 (genS (q0b s l)))∧MapQ w b s root l R w':=by
 have hPt:=q35 h
 have hle:=h.le
 have hln:=h.ln
 have hR:=qe0 s (by omega) l
 have hn:(q0b s l).length≤2000000:=by rw[q2g];have:=q5h s.length (sg s) s.length;omega
 have HH:=Lib.hid h
 generalize q0b s l=ps at *
 clear h
 go_enter Tryz.func134,Tryz.ntmps134
 go_wp2_with fail
 refine hPt.mono ?_
 rintro e w1 ⟨pv,rfl,hown,hk1⟩
 obtain⟨pa,pc,rfl⟩:=hown.form
 have HO:Hid (∀ W,Keeps (fun _=>False) w1 W→Own5 188 w.heap.size W (.slice pa ps.length pc) ps):=Lib.hid (fun W hk=>hown.keeps hk (fun _ _ h=>h))
 have HR:=Lib.hid (And.intro hR (And.intro (qgo hR) hk1))
 have h0:=Keeps.refl (fun _=>False) w1
 clear hPt hown hk1 hR
 generalize hN:ps.length=N at *
 have HN:=Lib.hid hN
 clear hN
 go_wp2_with fail
 go_loopg [3,9] N (fun m c i wr=>∃ j:Nat,j≤N∧m=N - j∧i=.int .i64 j∧c=.int .i64 (genS (ps.take j))∧Keeps (fun _=>False) w1 wr)
 case atStart=>exact⟨0,Nat.zero_le _,rfl,rfl,rfl,h0⟩
 case round =>
  clear h0
  obtain⟨j,hj,hgk,rfl,rfl,hk⟩:=hrel
  have HG:=Lib.hid hgk
  clear hgk
  obtain⟨hb1,hb2⟩:=HR.out.2.1 j hj
  by_cases hlt:j<N
  ·have hp:=List.getElem?_eq_getElem (l:=ps) (i:=j) (by rw[HN.out];exact hlt)
   obtain⟨p,hpe⟩:∃ p,p=ps[j]'(by rw[HN.out];exact hlt):=⟨_,rfl⟩
   rw[← hpe] at hp
   clear hpe
   obtain⟨z0,z1,z2,z3,z4,rfl,hz1,hz2⟩:=HR.out.1 p (List.mem_of_getElem? hp)
   have hgs:=qbs hp
   simp only [List.getD_cons_succ,List.getD_cons_zero] at hgs
   obtain⟨g,cap,hv,hcell⟩:=(HO.out wr hk).cell hp
   simp only [Value.slice.injEq] at hv
   obtain⟨rfl,-,rfl⟩:=hv
   have d0:wr.cell? ⟨g,j * 5,none⟩=some (.int .i64 z0):=hcell 0 z0 rfl
   have d1:=hcell 1 z1 rfl
   have d2:=hcell 2 z2 rfl
   have d3:=hcell 3 z3 rfl
   have d4:=hcell 4 z4 rfl
   have HF:=Lib.hid (And.intro hgs (hk.alloc (.cells #[.int .i64 z0,.int .i64 z1,.int .i64 z2,.int .i64 z3,.int .i64 z4] 188)))
   clear hgs hk hcell hp
   generalize genS (ps.take j)=S at *
   go_wp2
   go_roundg (N - (j+1))
   case measure=>rw[HG.out];omega
   case rel=>exact⟨j+1,by omega,rfl,by go_num,by rw[HF.out.1],HF.out.2⟩
  ·obtain rfl:j=N:=by omega
   rw[List.take_of_length_le (by rw[HN.out];exact Nat.le_refl _)]
   have HF:=Lib.hid (HH.out.trans HR.out.2.2 (HR.out.2.2.1.still hk))
   clear hk
   go_wp2
   go_ret
   exact⟨rfl,HF.out⟩
theorem q5v:Calls Tryz.prog 168 #[.pointer (some ⟨b,0,none⟩)] w fun e w'=>e=.returned (.bool (decide (cldr s.length (sg s) s.length+l=1)))∧MapQ w b s root l R w':=by
 have hPt:=q35 h
 have hlen:=q2g s l
 obtain⟨N,hN⟩:∃ N,N=cldr s.length (sg s) s.length+l:=⟨_,rfl⟩
 rw[← hN] at hlen ⊢
 have HL:=Lib.hid hlen
 have hd:((N:Int) == 1)=decide (N=1):=by
  by_cases e:N=1
  ·subst e;rfl
  ·rw[decide_eq_false e,beq_eq_false_iff_ne];omega
 have HD:=Lib.hid hd
 clear h hN hlen hd
 go_enter Tryz.func168,Tryz.ntmps168
 go_wp2_with fail
 refine hPt.mono ?_
 rintro e w1 ⟨pv,rfl,hown,hk1⟩
 obtain⟨pa,pc,rfl⟩:=hown.form
 rw[HL.out]
 have HF:=Lib.hid hk1
 clear hPt hown hk1
 go_wp2
 go_ret
 exact⟨by rw[← HD.out];rfl,HF.out⟩
theorem q2v:Calls Tryz.prog 94 #[.pointer (some ⟨b,0,none⟩)] w fun e w'=>e=.returned (.bool (decide (genS (q0b s l)=0)))∧MapQ w b s root l R w':=by
 have hG:=q9e h
 obtain⟨N,hN⟩:∃ N,N=genS (q0b s l):=⟨_,rfl⟩
 rw[← hN] at hG ⊢
 have hd:(N == 0)=decide (N=0):=by
  by_cases e:N=0
  ·subst e;rfl
  ·rw[decide_eq_false e,beq_eq_false_iff_ne];exact e
 have HD:=Lib.hid hd
 clear h hN hd
 go_enter Tryz.func94,Tryz.ntmps94
 go_wp2_with fail
 refine hG.mono ?_
 rintro e w1 ⟨rfl,hk1⟩
 have HF:=Lib.hid hk1
 clear hG hk1
 go_wp2
 go_ret
 exact⟨by rw[← HD.out];rfl,HF.out⟩
end
end
end Go.Proofs.YtcfdpogegngplaaGreat
