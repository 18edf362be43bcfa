import Derived.StillTailTactics
import Derived.Test.YtcfdpogegngplaaGreatZg0d
import Derived.Test.YtcfdpogegngplaaGreatZg0l
set_option maxRecDepth 100000
set_option maxHeartbeats 4000000
namespace Go.Proofs.YtcfdpogegngplaaGreat
section
def qx(n:Nat)(S:Nat→Nat)(d:Nat)(zs:List Int):Prop:=∀ x,x<n→zs[x]? = some (if aV n S x<d then ((bf n S x:Nat):Int) else -1)
def yH(n:Nat)(S:Nat→Nat)(d:Nat)(V:List Nat)(zs:List Int):Prop:=∀ x,x<n→zs[x]? = some (if x ∈ V then ((aR n S d:Nat):Int) else if aV n S x<d then ((bf n S x:Nat):Int) else -1)
structure j4 (n:Nat)(S:Nat→Nat)(d:Nat)(V st:List Nat):Prop where
 nd:V.Nodup
 cl:∀ z ∈ V,z<n∧aJ n S d z
 dm:d ∈ V
 sub:∀ z ∈ st,z ∈ V
 sn:st.Nodup
theorem j4.Na{n:Nat}{S:Nat→Nat}{d:Nat}{V st:List Nat}(h:j4 n S d V st):st.length≤V.length:=uj st V h.sn h.sub
theorem j4.pop{n:Nat}{S:Nat→Nat}{d x:Nat}{V st:List Nat}(h:j4 n S d V (st ++ [x])):j4 n S d V st :=
 ⟨h.nd,h.cl,h.dm,fun z hz=>h.sub z (by simp[hz]),(List.nodup_append.1 h.sn).1⟩
theorem j4.len{n:Nat}{S:Nat→Nat}{d:Nat}{V st:List Nat}(h:j4 n S d V st):V.length≤n:=QA n V h.nd (fun z hz=>(h.cl z hz).1)
section
variable {n:Nat} {S:Nat→Nat} (h:aM n S) (he:n % 2=0) {d:Nat} (hd:d<n)
include h he hd
omit h he in
theorem qx.at{zs:List Int}{z:Int}(k:qx n S d zs)(hz:zs[d]? = some z):(aV n S d=d∧z=-1)∨(aV n S d≠d∧0≤z):=by
 rw[k d hd] at hz
 have hz:=Option.some.inj hz
 have hle:=vI (aJ.refl n S d)
 by_cases a:aV n S d=d
 ·rw[if_neg (by omega)] at hz;exact .inl ⟨a,hz.symm⟩
 ·rw[if_pos (by omega)] at hz;exact .inr ⟨a,by omega⟩
omit hd in
theorem qx.skip{zs:List Int}(k:qx n S d zs)(hc:aV n S d≠d):qx n S (d+1) zs:=fun x hx=>by
 rw[k x hx]
 by_cases a:aV n S x<d
 ·rw[if_pos a,if_pos (by omega)]
 ·have:aV n S x≠d:=fun e=>hc (by
   have h1:=h.fP he hx
   rw[e] at h1;exact h1)
  rw[if_neg a,if_neg (by omega)]
omit h in
theorem qx.start{zs:List Int}(hl:zs.length=n)(k:qx n S d zs)(hc:aV n S d=d):yH n S d [d] (zs.set d ((aR n S d:Nat):Int))∧j4 n S d [d] [d]:=by
 refine⟨fun x hx=>?_,⟨by simp,fun z hz=>by simp at hz;subst hz;exact⟨hd,aJ.refl n S _⟩,by simp,fun z hz=>hz,by simp⟩⟩
 rw[List.getElem?_set]
 by_cases a:d=x
 ·subst a;rw[if_pos rfl,if_pos (by omega),if_pos (by simp)]
 ·rw[if_neg a,if_neg (by simp;omega)];exact k x hx
omit h he hd in
theorem yH.old{V:List Nat}{zs:List Int}{y:Nat}{z:Int}(k:yH n S d V zs)(hy:y<n)(hm:y ∈ V)(hz:zs[y]? = some z):0≤z:=by
 rw[k y hy,if_pos hm] at hz
 have:=Option.some.inj hz
 omega
theorem yH.fresh{V:List Nat}{zs:List Int}{y:Nat}{z:Int}(k:yH n S d V zs)(hc:aV n S d=d)(hy:y<n)(hcy:aJ n S d y)(hm:y ∉ V)(hz:zs[y]? = some z):z=-1:=by
 have e:=(h.iq he hd hy).2 hcy
 rw[k y hy,if_neg hm,if_neg (by omega)] at hz
 exact (Option.some.inj hz).symm
omit h he hd in
theorem yH.push{V:List Nat}{zs:List Int}{y:Nat}(hl:zs.length=n)(k:yH n S d V zs)(hy:y<n):yH n S d (y :: V) (zs.set y ((aR n S d:Nat):Int)):=fun x hx=>by
 rw[List.getElem?_set]
 by_cases a:y=x
 ·subst a;rw[if_pos rfl,if_pos (by omega),if_pos (by simp)]
 ·rw[if_neg a,k x hx]
  have:(x ∈ y :: V)↔x ∈ V:=by simp;omega
  by_cases b:x ∈ V
  ·rw[if_pos b,if_pos (this.2 b)]
  ·rw[if_neg b,if_neg (fun e=>b (this.1 e))]
omit h he hd in
theorem j4.push{V st:List Nat}(k:j4 n S d V st){y:Nat}(hy:y<n)(hcy:aJ n S d y)(hm:y ∉ V):j4 n S d (y :: V) (st ++ [y]) :=
 ⟨List.nodup_cons.2 ⟨hm,k.nd⟩,fun z hz=>by
  rcases List.mem_cons.1 hz with rfl|hz
  ·exact⟨hy,hcy⟩
  ·exact k.cl z hz,List.mem_cons_of_mem _ k.dm,fun z hz=>by
  rcases List.mem_append.1 hz with hz|hz
  ·exact List.mem_cons_of_mem _ (k.sub z hz)
  ·simp at hz;subst hz;simp,UW k.sn (fun hh=>hm (k.sub y hh))⟩
theorem yH.done{V:List Nat}{zs:List Int}(k:yH n S d V zs)(I:j4 n S d V [])(hc:aV n S d=d)(mG:∀ z ∈ V,S z ∈ V∧mt z ∈ V):qx n S (d+1) zs:=fun x hx=>by
 have hV:x ∈ V↔aV n S x=d:=by
  constructor
  ·intro hm
   rw[← (h.iq he hd hx).2 (I.cl x hm).2];exact hc
  ·intro e
   have hcx:aJ n S d x:=(h.iq he hd hx).1 (by rw[hc,e])
   exact hcx (fun z=>z ∈ V) I.dm (fun z _ hz=>mG z hz)
 rw[k x hx]
 by_cases a:x ∈ V
 ·have e:=hV.1 a
  rw[if_pos a,if_pos (by omega)]
  unfold bf;rw[e]
 ·have e:aV n S x≠d:=fun e=>a (hV.2 e)
  rw[if_neg a]
  by_cases b:aV n S x<d
  ·rw[if_pos b,if_pos (by omega)]
  ·rw[if_neg b,if_neg (by omega)]
end
theorem qx.zero{n:Nat}{S:Nat→Nat}{zs:List Int}(h:∀ i,i<n→zs[i]? = some (-1)):qx n S 0 zs:=fun x hx=>by rw[if_neg (by omega)];exact h x hx
theorem qx.all{n:Nat}{S:Nat→Nat}{zs:List Int}(h:aM n S)(he:n % 2=0)(hl:zs.length=n)(k:qx n S n zs):zs=aB ((List.range n).map (bf n S)):=by
 apply List.ext_getElem?
 intro i
 rcases Nat.lt_or_ge i n with hi|hi
 ·rw[k i hi,if_pos (h.jC he hi)];simp[aB,hi]
 ·rw[List.getElem?_eq_none (by omega),List.getElem?_eq_none (by simp[aB];omega)]
end
section
open Go.RowKit
theorem aF.dropLast{B:Nat}{w:World}{g n cap:Nat}{zs:List Int}{z:Int}(h:aF B w (.slice (some ⟨g,0,none⟩) (n+1) cap) (zs ++ [z])):aF B w (.slice (some ⟨g,0,none⟩) n cap) zs:=by
 obtain⟨h1,h2⟩:=h
 rcases h2 with⟨h2,_⟩|⟨g',cap',cur,hv,hB,hg,hnc,hcm,hcs,ht⟩
 ·cases h2
 ·simp only [Value.slice.injEq,Option.some.injEq,Addr.mk.injEq,and_true] at hv
  obtain⟨rfl,e2,rfl⟩:=hv
  have hl:zs.length=n:=by simp at e2;omega
  refine⟨by simp[ints],.inr ⟨g,cap,cur,by rw[hl],hB,hg,by simp at hnc;omega,hcm,hcs,?_⟩⟩
  have:=congrArg (List.take (zs.length * 1)) ht
  rw[List.take_take] at this
  rw[Nat.min_eq_left (by simp)] at this
  rw[this]
  simp[ints]
theorem qm(B g n cap:Nat)(zs:List Nat)(x:Nat)(w:World)(h:aF B w (.slice (some ⟨g,0,none⟩) (n+1) cap) (aB (zs ++ [x])))(hl:zs.length=n)(hn:n≤1000000000) :
  Calls Tryz.prog 160 #[.slice (some ⟨g,0,none⟩) (n+1) cap] w fun e w'=>e=.returned (.tuple #[.int .i64 x,.slice (some ⟨g,0,none⟩) n cap])∧∃ k,w'=w.drewN k:=by
 have hc:=(h.cell (i:=n) (z:=(x:Int)) (by rw[xk,List.getElem?_append_right (by rw[q01];omega),q01,hl];simp)).1
 obtain⟨a,c,hv,h1,h2⟩:=h.form
 simp only [Value.slice.injEq] at hv
 obtain⟨rfl,e2,rfl⟩:=hv
 clear e2
 have h1':n+1≤cap:=by rw[q01] at h1;simp at h1;omega
 have hnc:¬ n=cap:=by omega
 have hcn:¬ cap=n:=by omega
 have hc0:¬ cap=0:=by omega
 have Ig:¬ 0=cap:=by omega
 obtain⟨N,hN⟩:∃ N,N=n+1:=⟨_,rfl⟩
 rw[← hN] at h1' ⊢
 have hnN:n<N:=by omega
 have aib:(n:Int)<(N:Int):=by omega
 have hs1:IntKind.i64.wrap ((N:Int) - 1)=(n:Int):=by rw[show ((N:Int) - 1)=(n:Int) by omega];exact IntWalk.i64_in _ (by omega)
 have hNc:n≤cap:=by omega
 have hNb:N≤1000000001:=by omega
 clear h h1 hl hN
 go_enter Tryz.func160,Tryz.ntmps160
 go_wp2
 go_quiet (fail)
 clear hs1
 go_wp2
 go_ret2
 exact⟨rfl,_,rfl⟩
structure ES (w:World)(n:Nat)(S:Nat→Nat)(d g:Nat)(V st:List Nat)(wv:Value)(wr:World):Prop where
 nm:aO w g n (yH n S d V) wr
 wt:aF w.heap.size wr wv (aB st)
 ne:∀ k,wv.ownBlock=some k→k≠g
theorem ES.dR{w:World}{n:Nat}{S:Nat→Nat}{d g:Nat}{V st:List Nat}{wv:Value}{wr:World}(h:ES w n S d g V st wv wr):Keeps (fun _=>False) w wr:=by
 obtain⟨_,_,_,_,hk⟩:=h.nm
 exact hk
theorem ES.drewN{w:World}{n:Nat}{S:Nat→Nat}{d g:Nat}{V st:List Nat}{wv:Value}{wr:World}(h:ES w n S d g V st wv wr)(k:Nat):ES w n S d g V st wv (wr.drewN k):=by
 have kk:=(Keeps.refl (fun _=>False) wr).drewN k
 exact⟨h.nm.keeps kk,h.wt.keeps kk (fun _ _ h=>h),h.ne⟩
theorem ES.pop{w:World}{n:Nat}{S:Nat→Nat}{d g:Nat}{V st:List Nat}{x wg m cap:Nat}{wr:World}(h:ES w n S d g V (st ++ [x]) (.slice (some ⟨wg,0,none⟩) (m+1) cap) wr):ES w n S d g V st (.slice (some ⟨wg,0,none⟩) m cap) wr :=
 ⟨h.nm,aF.dropLast (z:=(x:Int)) (by rw[← xk];exact h.wt),fun k hk=>h.ne k hk⟩
theorem ES.store{w:World}{n:Nat}{S:Nat→Nat}{d g:Nat}{V st:List Nat}{wv:Value}{wr:World}(h:ES w n S d g V st wv wr){y:Nat}(hy:y<n):ES w n S d g (y :: V) st wv (wr.setCell ⟨g,y,none⟩ (.int .i64 ((aR n S d:Nat):Int))):=by
 have kk:=(Keeps.refl (fun q=>q=g) wr).setCell (p:=⟨g,y,none⟩) (.inl rfl) (.int .i64 ((aR n S d:Nat):Int))
 exact⟨h.nm.set y _ (fun zs hzl k=>k.push hzl hy),h.wt.keeps kk (fun q hq e=>h.ne q hq e),h.ne⟩
theorem ES.app{w:World}{n:Nat}{S:Nat→Nat}{d g:Nat}{V st:List Nat}{wv:Value}{wr:World}(h:ES w n S d g V st wv wr){y g5 m cap:Nat}{w5:World}
  (ho:aF w.heap.size w5 (.slice (some ⟨g5,0,none⟩) m cap) (aB st ++ [(y:Int)]))(k:Keeps (fun q=>wv.ownBlock=some q) wr w5)(hat:wv.ownBlock=some g5∨wr.heap.size≤g5) :
  ES w n S d g V (st ++ [y]) (.slice (some ⟨g5,0,none⟩) m cap) w5:=by
 have hg:=h.nm.old
 refine⟨h.nm.uD k (fun e=>h.ne g e rfl) (fun x hx=>(h.wt.lt x hx).1),by rw[xk];exact ho,fun q hq=>?_⟩
 simp only [Value.ownBlock,Option.some.injEq] at hq
 subst hq
 rcases hat with e|e
 ·exact h.ne _ e
 ·omega
theorem V4{w:World}{b:Nat}{s:List Nat}{root lone:Int}{R:Nat→Prop}(h:MapAt w b s root lone R) :
  Calls Tryz.prog 126 #[.pointer (some ⟨b,0,none⟩)] w fun e w'=>∃ g,e=.returned (.slice (some ⟨g,0,none⟩) s.length s.length)∧aO w g s.length (fun zs=>zs=aB ((List.range s.length).map (bf s.length (sg s)))) w':=by
 have HMP:Hid (∀ W,Keeps (fun _=>False) w W→MapAt W b s root lone R):=ah (fun W hk=>h.keeps hk (fun h=>h) (fun _ _ h=>h))
 have hD:=vM h
 have hle:=h.le
 have HP:=ah (aj h.dH h.even)
 clear h
 obtain⟨i,hi,hz0,hz1,hz2⟩:=info_parts pU
 have hmk:=fun w=>run_make (P:=Tryz.prog) w 25 3 i _ Tryz.underlying25 hi hz0 .i64 .i64 (s.length:Int) (s.length:Int) (by omega) (Int.le_refl _) (by rw[hz2];omega) (by omega)
 simp only [hz1,Int.toNat_natCast,Nat.mul_one] at hmk
 have h0:=aO.made w s.length (fun zs=>∀ i,i<0→zs[i]? = some (-1)) (fun i hi=>by omega) (by omega)
 clear hi hz0 hz1 hz2
 go_enter Tryz.func126,Tryz.ntmps126
 go_wp2_with fail
 refine hD.mono ?_
 rintro e w' ⟨rfl,rfl⟩
 clear hD
 go_wp2_with fail
 clear hmk
 generalize Dh:World.alloc _ _=wM at *
 clear Dh
 obtain⟨g,hg⟩:∃ g,g=w.heap.size:=⟨_,rfl⟩
 rw[← hg] at h0
 rw[← hg]
 clear hg
 go_loopg [17] s.length (fun m i wr=>∃ j:Nat,j≤s.length∧m=s.length - j∧i=.int .i64 j∧aO w g s.length (fun zs=>∀ i,i<j→zs[i]? = some (-1)) wr)
 case atStart=>exact⟨0,Nat.zero_le _,rfl,rfl,h0⟩
 case round =>
  clear h0
  obtain⟨j,hj,aN,rfl,hM⟩:=hrel
  have HG:=ah aN
  clear aN
  by_cases hlt:j<s.length
  ·obtain⟨z,_,hc,hf⟩:=hM.cell j hlt
   have HN:=ah (hM.set (Q:=fun zs=>∀ i,i<j+1→zs[i]? = some (-1)) j (-1) (fun zs hzl h i hi=>by
    rw[List.getElem?_set]
    by_cases hij:j=i
    ·rw[if_pos hij,if_pos (by omega)]
    ·rw[if_neg hij];exact h i (by omega)))
   clear hM
   go_wp2
   go_roundg (s.length - (j+1))
   case measure=>rw[HG.out];omega
   case rel=>exact⟨j+1,by omega,rfl,by go_num,HN.out⟩
  ·obtain rfl:j=s.length:=by omega
   have h1:aO w g s.length (qx s.length (sg s) 0) wr:=hM.mono (fun zs _ h=>qx.zero h)
   clear hM hlt hj HG
   go_wp2_with fail
   go_loopg [5,26] s.length (fun m c i wr=>∃ d:Nat,d≤s.length∧m=s.length - d∧i=.int .i64 d∧c=.int .i64 (aR s.length (sg s) d:Nat)∧aO w g s.length (qx s.length (sg s) d) wr)
   case atStart=>exact⟨0,Nat.zero_le _,rfl,rfl,rfl,h1⟩
   case round =>
    clear h1
    obtain⟨d,hd,aN,rfl,rfl,hM⟩:=hrel
    have HG:=ah aN
    clear aN
    have hld:=G9 s.length (sg s) d
    have hls:=uF s.length (sg s) d
    by_cases hlt:d<s.length
    rotate_left
    ·obtain rfl:d=s.length:=by omega
     have HF:=ah (hM.mono (fun zs hzl h=>qx.all HP.out.1 HP.out.2 hzl h))
     clear hM hls
     go_wp2
     go_ret
     exact⟨g,rfl,HF.out⟩
    ·obtain⟨z,⟨zs,hzl,sV,hzz⟩,hc,hf⟩:=hM.cell d hlt
     rcases qx.at hlt sV hzz with⟨hr,rfl⟩|⟨hr,hz⟩
     rotate_left
     ·rw[if_neg hr] at hls
      have HF:=ah (aj (hM.mono (fun zs _ h=>qx.skip HP.out.1 HP.out.2 h hr)) hls)
      clear hM hr hls sV hzz hzl
      generalize aR s.length (sg s) d=c at *
      go_wp2
      go_roundg (s.length - (d+1))
      case measure=>rw[HG.out];omega
      case rel=>exact⟨d+1,by omega,rfl,by go_num,by rw[HF.out.2];go_num,HF.out.1⟩
     ·rw[if_pos hr] at hls
      have MK:decide ((0:Int)≤-1)=false:=by decide
      obtain⟨_,_,_,_,aT⟩:=id hM
      have hgr:=hM.old
      have kb:=(hM.set (Q:=yH s.length (sg s) d [d]) d ((aR s.length (sg s) d:Nat):Int) (fun zs hzl k=>(qx.start HP.out.2 hlt hzl k hr).1))
      have ka:=(Keeps.refl (fun _=>False) (wr.setCell ⟨g,d,none⟩ (.int .i64 ((aR s.length (sg s) d:Nat):Int)))).alloc (.cells #[.int .i64 d] 3)
      have h2:ES w s.length (sg s) d g [d] [d] (.slice (some ⟨wr.heap.size,0,none⟩) 1 1) ((wr.setCell ⟨g,d,none⟩ (.int .i64 ((aR s.length (sg s) d:Nat):Int))).alloc (.cells #[.int .i64 d] 3)):=by
       have ho:aF _ _ _ [(d:Int)]:=GY (wr.setCell ⟨g,d,none⟩ (.int .i64 ((aR s.length (sg s) d:Nat):Int))) (d:Int)
       rw[show (wr.setCell ⟨g,d,none⟩ (.int .i64 ((aR s.length (sg s) d:Nat):Int))).heap.size=wr.heap.size by simp] at ho
       exact⟨kb.keeps ka,ho.mono (fun q hq=>by simp only [Value.ownBlock,Option.some.injEq] at hq;have:=aT.size;omega),fun k hk=>by simp only [Value.ownBlock,Option.some.injEq] at hk;omega⟩
      have hI0:=(qx.start (zs:=zs) HP.out.2 hlt hzl sV hr).2
      have hca:=uo hc (.cells #[.int .i64 d] 3)
      have hfa:(wr.alloc (.cells #[.int .i64 d] 3)).frozen? ⟨g,d,none⟩=false:=by
       obtain⟨z2,_,_,hf2⟩:=(hM.keeps ((Keeps.refl (fun _=>False) wr).alloc (.cells #[.int .i64 d] 3))).cell d hlt
       exact hf2
      have HR:=ah (aj hr hls)
      have H2:=ah (aj h2 hI0)
      generalize hcc:aR s.length (sg s) d=c at *
      have HC:=ah hcc
      clear hM hr hls sV hzz hzl aT ka kb h2 hI0 hcc
      go_wp2_with fail
      clear hca hfa hc hf
      generalize World.alloc _ _=w2 at *
      generalize Value.slice (some ⟨wr.heap.size,0,none⟩) 1 1=wv0 at *
      go_loopg [7] (2 * (s.length - 1)+1) (fun m wv wr=>∃ V st,m=2 * (s.length - V.length)+st.length∧j4 s.length (sg s) d V st∧(∀ z ∈ V,z ∈ st∨(sg s z ∈ V∧mt z ∈ V))∧ES w s.length (sg s) d g V st wv wr)
      case atStart =>
       exact⟨[d],[d],rfl,H2.out.2,fun z hz=>.inl hz,H2.out.1⟩
      case round =>
       clear H2
       obtain⟨V,st,aN,hI,mG,hE⟩:=hrel
       have G6:=ah aN
       clear aN
       rcases List.eq_nil_or_concat st with rfl|⟨st',x,rfl⟩
       ·have hfo:=hE.wt.form
        obtain⟨wa,wc,rfl,_,_⟩:=hfo
        have HF:=ah (hE.nm.mono (fun zs hzl k=>k.done HP.out.1 HP.out.2 hlt hI HR.out.1 (fun z hz=>(mG z hz).resolve_left (by simp))))
        have hnl:(aB ([]:List Nat)).length=0:=rfl
        rw[hnl]
        clear hE hI mG hnl
        go_wp2
        go_roundg (s.length - (d+1))
        case measure=>rw[HG.out];omega
        case rel=>exact⟨d+1,by omega,rfl,by go_num,by rw[HR.out.2];go_num,HF.out⟩
       ·rw[List.concat_eq_append] at *
        obtain⟨m,hm⟩:∃ m,m=st'.length:=⟨_,rfl⟩
        obtain⟨wg,wc,rfl,hwn,_⟩:=o7 hE.wt (by rw[q01];simp)
        have hsl:(aB (st' ++ [x])).length=m+1:=by rw[q01,hm];simp
        rw[hsl] at hE ⊢
        have hVl:=hI.len
        have Br:=hI.sub x (by simp)
        have hxn:=(hI.cl x Br).1
        have hxc:=(hI.cl x Br).2
        have hml:m≤131072:=by have h5:=hI.Na;simp at h5;omega
        have hL:=qm w.heap.size wg m wc st' x wr hE.wt hm.symm (by omega)
        have hE2:=hE.pop
        have hI2:=hI.pop
        have hGm:gk=2 * (s.length - V.length)+(m+1):=by rw[G6.out];simp[hm]
        have EI:∀ z ∈ V,z ∈ st'∨z=x∨(sg s z ∈ V∧mt z ∈ V):=fun z hz=>by
         rcases mG z hz with h6|h6
         ·simp only [List.mem_append,List.mem_singleton] at h6
          rcases h6 with h6|h6
          ·exact .inl h6
          ·exact .inr (.inl h6)
         ·exact .inr (.inr h6)
        have hSx:=HP.out.1.lt x hxn
        have hMx:=aU HP.out.2 hxn
        have hcS:=hxc.trans (aJ.turn hxn:aJ s.length (sg s) x (sg s x))
        have hcM:=hxc.trans (aJ.mate hxn:aJ s.length (sg s) x (mt x))
        have HE2:=ah (aj hE2 (aj hI2 (aj EI (aj hGm (aj Br (aj hcS (aj hcM hm)))))))
        have tpos:decide ((0:Int)<((m+1:Nat):Int))=true:=decide_eq_true (by omega)
        clear hE hE2 hI hI2 mG EI hGm Br hcS hcM hxc hm hsl G6
        go_wp2_with fail
        refine hL.mono ?_
        rintro e w' ⟨rfl,nq,rfl⟩
        clear hL
        have kY:=HMP.out _ (HE2.out.1.drewN nq).dR
        have uK:=JW kY x hxn
        have hMt:=MX kY x hxn
        have HE3:=ah (HE2.out.1.drewN nq)
        clear kY
        generalize wr.drewN nq=w4 at *
        go_wp2_with (first | (go_at_call 131;refine uK.mono ?_;rintro e w' ⟨rfl,rfl⟩) | (go_at_call 86;refine hMt.mono ?_;rintro e w' ⟨rfl,rfl⟩))
        clear uK hMt
        obtain⟨X0,hX0⟩:∃ X0,X0=sg s x:=⟨_,rfl⟩
        obtain⟨X1,hX1⟩:∃ X1,X1=mt x:=⟨_,rfl⟩
        rw[← hX0] at hSx ⊢
        rw[← hX1] at hMx ⊢
        have HX:=ah (aj hX0 hX1)
        clear hX0 hX1
        have hix:∀ (k:Nat),k<2→∃ y:Nat,y<s.length∧y=(if k=0 then X0 else X1)∧∀ W,(Instr.index 222 (.agg #[.int .i64 X0,.int .i64 X1]) (.int .i64 (k:Int))).run Tryz.prog W=.ok (.int .i64 y) W:=fun k hk=>by
         rcases Nat.eq_zero_or_pos k with rfl|hk0
         ·exact⟨X0,hSx,rfl,fun W=>rfl⟩
         ·obtain rfl:k=1:=by omega
          exact⟨X1,hMx,rfl,fun W=>rfl⟩
        have HIX:=ah hix
        clear hix
        go_loopg [7,56] 2 (fun q wv i wr=>∃ k V2 st2,q=2 - k∧k≤2∧i=.int .i64 (k:Nat)∧j4 s.length (sg s) d V2 st2∧x ∈ V2∧(∀ z ∈ V2,z ∈ st2∨z=x∨(sg s z ∈ V2∧mt z ∈ V2))∧(1≤k→sg s x ∈ V2)∧(2≤k→mt x ∈ V2)∧2 * (s.length - V2.length)+st2.length≤2 * (s.length - V.length)+m∧ES w s.length (sg s) d g V2 st2 wv wr)
        case atStart=>exact⟨0,V,st',rfl,by omega,rfl,HE2.out.2.1,HE2.out.2.2.2.2.1,HE2.out.2.2.1,fun h=>by omega,fun h=>by omega,by rw[HE2.out.2.2.2.2.2.2.2];exact Nat.le_refl _,HE3.out⟩
        case round =>
         clear HE3
         obtain⟨k,V2,st2,aN,hk2,rfl,hI,Br,mG,h1k,h2k,hms,hE⟩:=hrel
         have JM:=ah aN
         clear aN
         obtain⟨m2,hm2⟩:∃ m2,m2=st2.length:=⟨_,rfl⟩
         obtain⟨wa,V5,rfl,_,_⟩:=hE.wt.form
         rw[show (aB st2).length=m2 by rw[q01,hm2]] at hE ⊢
         have aif:m2≤131072:=by have h5:=hI.Na;have:=hI.len;omega
         by_cases hkl:k<2
         ·have tk:decide ((k:Int)<2)=true:=decide_eq_true (by omega)
          obtain⟨y,hyn,hyk,hidx⟩:=HIX.out k hkl
          have hcy:aJ s.length (sg s) d y:=by
           rw[hyk]
           split
           ·rw[HX.out.1];exact HE2.out.2.2.2.2.2.1
           ·rw[HX.out.2];exact HE2.out.2.2.2.2.2.2.1
          obtain⟨z,⟨zs,hzl,sV,hzz⟩,hc,hf⟩:=hE.nm.cell y hyn
          by_cases Ih:y ∈ V2
          ·have hz0:=sV.old hyn Ih hzz
           have tz:decide (z<0)=false:=decide_eq_false (by omega)
           have HN:Hid (j4 s.length (sg s) d V2 st2∧x ∈ V2∧(∀ z ∈ V2,z ∈ st2∨z=x∨(sg s z ∈ V2∧mt z ∈ V2))∧(1≤k+1→sg s x ∈ V2)∧(2≤k+1→mt x ∈ V2)∧2 * (s.length - V2.length)+st2.length≤2 * (s.length - V.length)+m∧ES w s.length (sg s) d g V2 st2 (.slice wa m2 V5) wr):=ah (by
            refine⟨hI,Br,mG,fun _=>?_,fun _=>?_,hms,hE⟩
            ·by_cases e:k=0
             ·rw[if_pos e,HX.out.1] at hyk;rw[← hyk];exact Ih
             ·exact h1k (by omega)
            ·by_cases e:k=0
             ·omega
             ·rw[if_neg e,HX.out.2] at hyk;rw[← hyk];exact Ih)
           clear hI Br mG h1k h2k hms hE hzl sV hzz Ih hyk hcy hm2
           go_wp2
           go_roundg (2 - (k+1))
           case measure=>rw[JM.out];omega
           case rel=>exact⟨k+1,V2,st2,rfl,by omega,by go_num,HN.out⟩
          ·have hz1:=sV.fresh HP.out.1 HP.out.2 hlt HR.out.1 hyn hcy Ih hzz
           subst hz1
           have tz:decide ((-1:Int)<0)=true:=by decide
           have hst:=hE.store (y:=y) hyn
           rw[show aR s.length (sg s) d=c from HC.out] at hst
           have hown:=hst.wt
           have hsz:=hst.dR.size
           have yC:Hid ((aB st2).length=m2):=ah (by rw[q01,hm2])
           have Rt:m2≤10000000000:=by omega
           have happ:=fun (w5:World) g5 cap=>hst.app (y:=y) (g5:=g5) (m:=m2+1) (cap:=cap) (w5:=w5)
           have V6:=hI.push hyn hcy Ih
           have Nb:=V6.len
           have HN:Hid (j4 s.length (sg s) d (y :: V2) (st2 ++ [y])∧x ∈ y :: V2∧(∀ z ∈ y :: V2,z ∈ st2 ++ [y]∨z=x∨(sg s z ∈ y :: V2∧mt z ∈ y :: V2))∧(1≤k+1→sg s x ∈ y :: V2)∧(2≤k+1→mt x ∈ y :: V2)∧2 * (s.length - (y :: V2).length)+(st2 ++ [y]).length≤2 * (s.length - V.length)+m):=ah (by
            refine⟨V6,List.mem_cons_of_mem _ Br,fun z hz=>?_,fun _=>?_,fun _=>?_,?_⟩
            ·rcases List.mem_cons.1 hz with rfl|hz
             ·exact .inl (by simp)
             ·rcases mG z hz with e|e|e
              ·exact .inl (by simp[e])
              ·exact .inr (.inl e)
              ·exact .inr (.inr ⟨List.mem_cons_of_mem _ e.1,List.mem_cons_of_mem _ e.2⟩)
            ·by_cases e:k=0
             ·rw[if_pos e,HX.out.1] at hyk;rw[← hyk];simp
             ·exact List.mem_cons_of_mem _ (h1k (by omega))
            ·by_cases e:k=0
             ·omega
             ·rw[if_neg e,HX.out.2] at hyk;rw[← hyk];simp
            ·simp only [List.length_cons,List.length_append,List.length_nil] at Nb ⊢
             omega)
           have HAP:=ah happ
           clear hI Br mG h1k h2k hms hE hzl sV hzz Ih hyk hcy hm2 hst happ V6 Nb
           go_wp2_with (at_builtin;refine mP m2 rfl _ _ rfl w.heap.size (.slice wa m2 V5) (aB st2) (y:Nat) yC (wr.setCell ⟨g,y,none⟩ (.int .i64 (c:Nat))).heap.size (by simp) (by simp[Act.eval]) (by simp[Act.eval]) hown Rt hsz ?_;intro g5 cap5 w5 hown5 hk5 gH hg5;have nk:=ah (HAP.out w5 g5 cap5 hown5 hk5 gH);clear hown5 hk5 gH)
           go_roundg (2 - (k+1))
           case measure=>rw[JM.out];omega
           case rel=>exact⟨k+1,_,_,rfl,by omega,by go_num,HN.out.1,HN.out.2.1,HN.out.2.2.1,HN.out.2.2.2.1,HN.out.2.2.2.2.1,HN.out.2.2.2.2.2,nk.out⟩
         ·obtain rfl:k=2:=by omega
          have HN:Hid (j4 s.length (sg s) d V2 st2∧(∀ z ∈ V2,z ∈ st2∨(sg s z ∈ V2∧mt z ∈ V2))∧2 * (s.length - V2.length)+st2.length≤2 * (s.length - V.length)+m∧ES w s.length (sg s) d g V2 st2 (.slice wa m2 V5) wr):=ah ⟨hI,fun z hz=>by
           rcases mG z hz with e|e|e
           ·exact .inl e
           ·subst e;exact .inr ⟨h1k (by omega),h2k (by omega)⟩
           ·exact .inr e,hms,hE⟩
          clear hI Br mG h1k h2k hms hE hm2
          go_wp2
          go_roundg (2 * (s.length - V2.length)+st2.length)
          case measure=>rw[HE2.out.2.2.2.1];have:=HN.out.2.2.1;omega
          case rel=>exact⟨V2,st2,rfl,HN.out.1,HN.out.2.1,HN.out.2.2.2⟩
end
section
open Go.RowKit
theorem qey{w:World}{base:Nat}{e:TypeId}{g n cap:Nat}{xs:List Value}(h:w.ownsRow base e 5 (.slice (some ⟨g,0,none⟩) n cap) n xs)(i:Nat)(u:Value) :
  (w.setCell ⟨g,i,none⟩ u).ownsRow base e 5 (.slice (some ⟨g,0,none⟩) n cap) n (xs.set i u):=by
 obtain⟨hl,h2⟩:=h
 refine⟨by simpa using hl,?_⟩
 rcases h2 with⟨h0,_⟩|⟨g',cap',cur,hv,hb,hg,hnc,hcm,hcur,ht⟩
 ·cases h0
 ·simp only [Value.slice.injEq,Option.some.injEq,Addr.mk.injEq] at hv
  obtain⟨⟨rfl,_⟩,_,rfl⟩:=hv
  refine .inr ⟨g,cap,cur.setIfInBounds i u,rfl,hb,dM hg i u,hnc,hcm,by simpa using hcur,?_⟩
  rw[Array.toList_setIfInBounds,← ht]
  apply List.ext_getElem?
  intro k
  simp only [List.getElem?_take,List.getElem?_set,List.length_take]
  by_cases hk:k<n * 5
  ·simp only [if_pos hk]
   by_cases hik:i=k
   ·subst hik
    have:(i<min (n * 5) cur.toList.length)=(i<cur.toList.length):=by rw[Nat.lt_min];simp;omega
    simp only [if_true,this]
   ·simp[hik]
  ·simp only [if_neg hk]
   by_cases hik:i=k
   ·subst hik
    rw[if_pos rfl,if_neg (by omega)]
   ·simp[hik]
theorem qcz:∀ {ps:List (List Int)} {j k:Nat} {p:List Int} (z:Int),(∀ p ∈ ps,p.length=5)→ps[j]? = some p→k<5→(ps.set j (p.set k z)).flatten=ps.flatten.set (j * 5+k) z:=by
 intro ps
 induction ps with
 | nil=>intro j k p z _ h;simp at h
 | cons q ps ih =>
  intro j k p z h5 hp hk
  have hq:=h5 q (by simp)
  cases j with
  | zero =>
   obtain rfl:q=p:=by simpa using hp
   rw[List.set_cons_zero,List.flatten_cons,List.flatten_cons,List.set_append_left _ _ (by omega)]
   congr 2;omega
  | succ j =>
   rw[List.set_cons_succ,List.flatten_cons,List.flatten_cons,List.set_append_right _ _ (by omega),hq]
   rw[ih z (fun p hp=>h5 p (by simp[hp])) (by simpa using hp) hk]
   congr 2;omega
theorem Own5.set{t:TypeId}{B:Nat}{w:World}{g n cap:Nat}{ps:List (List Int)}(h:Own5 t B w (.slice (some ⟨g,0,none⟩) n cap) ps){j k:Nat}{p:List Int}(hp:ps[j]? = some p)(hk:k<5)(z:Int) :
  Own5 t B (w.setCell ⟨g,j * 5+k,none⟩ (.int .i64 z)) (.slice (some ⟨g,0,none⟩) n cap) (ps.set j (p.set k z)):=by
 obtain⟨a,c,hv⟩:=h.form
 simp only [Value.slice.injEq] at hv
 obtain⟨_,rfl,_⟩:=hv
 have Nc:=h.2 p (List.mem_of_getElem? hp)
 refine⟨?_,fun q hq=>?_⟩
 ·have h1:=qey h.1 (j * 5+k) (.int .i64 z)
  rw[List.length_set,qcz z h.2 hp hk]
  unfold ints at h1 ⊢
  rw[List.map_set]
  exact h1
 ·rcases List.mem_or_eq_of_mem_set hq with e|e
  ·exact h.2 q e
  ·rw[e];simpa using Nc
theorem Own5.free{t:TypeId}{B:Nat}{w:World}{g n cap:Nat}{ps:List (List Int)}(h:Own5 t B w (.slice (some ⟨g,0,none⟩) n cap) ps)(i:Nat):w.frozen? ⟨g,i,none⟩=false:=by
 obtain⟨⟨_,h2⟩,_⟩:=h
 rcases h2 with⟨h0,_⟩|⟨g',cap',cur,hv,hb,hg,_⟩
 ·cases h0
 ·simp only [Value.slice.injEq,Option.some.injEq,Addr.mk.injEq] at hv
  obtain⟨⟨rfl,_⟩,_⟩:=hv
  exact au hg i
def mH(nm:List Nat)(k i:Nat):Nat:=((List.range i).filter fun d=>sg nm d == k && d % 2 == 1).length
theorem Ru(nm:List Nat)(k i:Nat):mH nm k (i+1)=mH nm k i+if sg nm i=k then i % 2 else 0:=by
 unfold mH
 rw[List.range_succ,List.filter_append,List.length_append]
 rcases Nat.mod_two_eq_zero_or_one i with h1|h1 <;> by_cases h2:sg nm i=k <;> simp[h1,h2]
theorem qjh(nm:List Nat)(k i:Nat):mH nm k i≤i:=by
 unfold mH
 have:=List.length_filter_le (fun d=>sg nm d == k && d % 2 == 1) (List.range i)
 simpa using this
theorem qg3{nm:List Nat}{n:Nat}(hp:∀ e,2 * e+1<n→sg nm (2 * e)=sg nm (2 * e+1))(k:Nat):∀ m,2 * m≤n→j3 nm k (2 * m)=2 * mH nm k (2 * m)
 | 0,_=>rfl
 | m+1,hm=>by
  have ih:=qg3 hp k m (by omega)
  have h1:=hp m (by omega)
  rw[show 2 * (m+1)=2 * m+1+1 by omega,qcv,qcv,Ru,Ru,ih,← h1]
  by_cases e:sg nm (2 * m)=k
  ·simp only [if_pos e];omega
  ·simp only [if_neg e];omega
noncomputable def gD(s:List Nat)(j:Nat):Nat:=((List.range s.length).filter fun d=>aV s.length (sg s) d == d).getD j 0
theorem qh6{p:Nat→Bool}:∀ (n j r:Nat),((List.range n).filter p)[j]? = some r→r<n∧p r=true∧((List.range r).filter p).length=j:=by
 intro n
 induction n with
 | zero=>intro j r h;simp at h
 | succ n ih =>
  intro j r h
  rw[List.range_succ,List.filter_append] at h
  rcases Nat.lt_or_ge j ((List.range n).filter p).length with hlt|hge
  ·rw[List.getElem?_append_left hlt] at h
   obtain⟨h1,h2,h3⟩:=ih j r h
   exact⟨by omega,h2,h3⟩
  ·rw[List.getElem?_append_right hge] at h
   by_cases hp:p n=true
   ·simp only [List.filter_cons,hp,List.filter_nil,if_true] at h
    have hj:j - ((List.range n).filter p).length=0:=by have:=fK h;simp at this;omega
    rw[hj] at h
    simp at h
    subst h
    exact⟨by omega,hp,by omega⟩
   ·simp[hp] at h
section
variable {s:List Nat} (hP:aM s.length (sg s)) (he:s.length % 2=0)
include hP he
omit hP he in
theorem q6z{j:Nat}(hj:j<aR s.length (sg s) s.length):gD s j<s.length∧aV s.length (sg s) (gD s j)=gD s j∧bf s.length (sg s) (gD s j)=j:=by
 unfold gD
 have hl:j<((List.range s.length).filter fun d=>aV s.length (sg s) d == d).length:=hj
 have hg:=List.getElem?_eq_getElem hl
 rw[List.getD_eq_getElem?_getD,hg,Option.getD_some]
 obtain⟨h1,h2,h3⟩:=qh6 _ _ _ hg
 simp only [beq_iff_eq] at h2
 refine⟨h1,h2,?_⟩
 unfold bf
 rw[h2]
 exact h3
theorem qm0{d:Nat}(hd:d<s.length)(hc:aV s.length (sg s) d=d):gD s (aR s.length (sg s) d)=d:=by
 have h1:=uF s.length (sg s) d
 rw[if_pos hc] at h1
 have h2:=JN s.length (sg s) (show d+1≤s.length from hd)
 obtain⟨a,b,c⟩:=q6z (s:=s) (j:=aR s.length (sg s) d) (by omega)
 have h3:bf s.length (sg s) d=aR s.length (sg s) d:=(hP.oz he hd).2 hc
 have:=(hP.gB he hd a).1 (by rw[h3,c])
 have h4:=(hP.iq he hd a).2 this
 rw[hc,b] at h4
 exact h4.symm
noncomputable def qX(s:List Nat)(d j:Nat):List Int:=[(gD s j:Int),(mD s (fG s) j d:Nat),(mH (fG s) j d:Nat),(mD (aQ s) (fG s) j d:Nat),0]
noncomputable def dK(s:List Nat)(m d:Nat):List (List Int):=(List.range m).map (qX s d)
omit hP he in
theorem xE(s:List Nat)(m d:Nat):(dK s m d).length=m:=by simp[dK]
omit hP he in
theorem Nh{s:List Nat}{m d j:Nat}(hj:j<m):(dK s m d)[j]? = some (qX s d j):=by simp[dK,hj]
theorem qh7{d x:Nat}(hd:d<s.length)(hx:x<d)(hc:aV s.length (sg s) d=d):bf s.length (sg s) x≠aR s.length (sg s) d:=by
 intro e
 have h3:bf s.length (sg s) d=aR s.length (sg s) d:=(hP.oz he hd).2 hc
 have:=(hP.iq he (show x<s.length by omega) hd).2 ((hP.gB he (show x<s.length by omega) hd).1 (by rw[e,h3]))
 rw[hc] at this
 have hle:=vI (aJ.refl s.length (sg s) x)
 omega
theorem qm1{d:Nat}(hd:d<s.length)(hc:aV s.length (sg s) d=d):dK s (aR s.length (sg s) d) d ++ [[(d:Int),0,0,0,0]]=dK s (aR s.length (sg s) (d+1)) d:=by
 have h1:=uF s.length (sg s) d
 rw[if_pos hc] at h1
 have hz:∀ (p:Nat→Bool),((List.range d).filter fun x=>p x && sg (fG s) x == aR s.length (sg s) d)=[]:=by
  intro p
  rw[List.filter_eq_nil_iff]
  intro x hx
  have hx:=List.mem_range.1 hx
  have:=qh7 hP he hd hx hc
  rw[vL (by omega)]
  simp;intro _;exact this
 have h2:qX s d (aR s.length (sg s) d)=[(d:Int),0,0,0,0]:=by
  unfold qX mD mH
  rw[qm0 hP he hd hc,hz,hz]
  have:((List.range d).filter fun x=>sg (fG s) x == aR s.length (sg s) d && x % 2 == 1)=[]:=by
   rw[← hz (fun x=>x % 2 == 1)]
   refine List.filter_congr (fun x _=>?_)
   rw[Bool.and_comm]
  rw[this];rfl
 rw[h1]
 unfold dK
 rw[List.range_succ,List.map_append]
 simp[h2]
omit hP he in
theorem qji{m d:Nat}(hd:d<s.length)(hm:bf s.length (sg s) d<m) :
  dK s m (d+1)=(dK s m d).set (bf s.length (sg s) d) [(gD s (bf s.length (sg s) d):Int),((mD s (fG s) (bf s.length (sg s) d) d+if rep (sg s) d=d then 1 else 0:Nat):Int),
   ((mH (fG s) (bf s.length (sg s) d) d+d % 2:Nat):Int),((mD (aQ s) (fG s) (bf s.length (sg s) d) d+if rep (sg (aQ s)) d=d then 1 else 0:Nat):Int),0]:=by
 have hk:=vL hd
 apply List.ext_getElem?
 intro j
 rw[List.getElem?_set,xE]
 by_cases hj:j<m
 ·rw[Nh hj]
  by_cases e:bf s.length (sg s) d=j
  ·subst e
   rw[if_pos rfl,if_pos hm]
   unfold qX
   rw[Rb,Rb,Ru,if_pos hk]
   simp only [hk,and_true]
  ·rw[if_neg e,Nh hj]
   unfold qX
   rw[Rb,Rb,Ru]
   simp only [hk,e,and_false,if_false,Nat.add_zero]
 ·rw[List.getElem?_eq_none (by rw[xE];omega)]
  by_cases e:bf s.length (sg s) d=j
  ·omega
  ·rw[if_neg e,List.getElem?_eq_none (by rw[xE];omega)]
theorem qm2{j:Nat}(hj:j<aR s.length (sg s) s.length):∃ g0:Int,(nL s s.length)[j]? = some ((qX s s.length j).set 4 g0) ∧
  g0=(2 - ((mD s (fG s) j s.length:Nat):Int)+((mH (fG s) j s.length:Nat):Int) - ((mD (aQ s) (fG s) j s.length:Nat):Int)).tdiv 2:=by
 obtain⟨h1,h2,h3⟩:=q6z (s:=s) hj
 have hl:j<((List.range s.length).filter fun d=>aV s.length (sg s) d == d).length:=hj
 have hg:((List.range s.length).filter fun d=>aV s.length (sg s) d == d)[j]? = some (gD s j):=by
  unfold gD
  rw[List.getD_eq_getElem?_getD,List.getElem?_eq_getElem hl];rfl
 have hodd:j3 (fG s) j s.length=2 * mH (fG s) j s.length:=by
  obtain⟨m,hm⟩:∃ m,s.length=2 * m:=⟨s.length / 2,by omega⟩
  have:=qg3 (nm:=fG s) (n:=s.length) (fun e hee=>by
   rw[vL (by omega),vL hee]
   refine (hP.gB he (by omega) hee).2 ?_
   have h5:mt (2 * e)=2 * e+1:=by unfold mt;rw[if_pos (by omega)]
   rw[← h5]
   exact aJ.mate (by omega)) j m (by omega)
  rw[← hm] at this
  exact this
 refine⟨_,?_,rfl⟩
 unfold nL
 rw[List.getElem?_map,hg]
 simp only [Option.map_some]
 unfold zI p9 Hr EC Ht qX
 rw[h3,hodd,Nat.mul_div_cancel_left _ (by omega)]
 rfl
end
end
section
open Go.RowKit
theorem qjj:(Tryz.prog.info? 188).map (fun i=>(i.zero,i.size,i.bytes))=some (some (.agg #[.int .i64 0,.int .i64 0,.int .i64 0,.int .i64 0,.int .i64 0]),5,40):=by kernel_rfl
theorem qg4{ops:Array Oper}{rest:List Oper}{o:Oper}{a:Act}{Q:Exit→Act→World→Prop}{wr:World}(n:Nat)(hgd:o.guard=none)(s x:Operand)
  (ho:o.op=.call { callee:=.builtin .append,args:=#[s,x],argTypes:=#[186,186] })(B:Nat)(v:Value)(ps:List (List Int))(z0 z1 z2 z3 z4:Int)(hn:Hid (ps.length=n))(H:Nat)(hH:wr.heap.size=H)(hs:a.eval s=v)(hx:a.eval x=.slice (some ⟨H,0,none⟩) 1 1)
  (hown:Own5 188 B wr v ps)(hlen:n≤100000000)(hB:B≤wr.heap.size)
  (h:∀ g cap w',Own5 188 B w' (.slice (some ⟨g,0,none⟩) (n+1) cap) (ps ++ [[z0,z1,z2,z3,z4]])→Keeps (fun k=>v.ownBlock=some k) wr w'→(v.ownBlock=some g∨wr.heap.size≤g) →
   wpList Tryz.prog ops Q rest (a.put o.dst (.slice (some ⟨g,0,none⟩) (n+1) cap)) w') :
  wpList Tryz.prog ops Q (o :: rest) a (wr.alloc (.cells #[.int .i64 z0,.int .i64 z1,.int .i64 z2,.int .i64 z3,.int .i64 z4] 188)):=by
 obtain⟨i,hi,hz0,hz1,hz2⟩:=info_parts qjj
 have hn:=hn.out
 subst hn
 subst hH
 refine wpList_append_lies _ hgd s x _ ho B 188 i _ 5 40 Tryz.underlying186 hi hz0 hz1 hz2 rfl (by decide) v ps.length _ hs (World.ownsRow.alloc hown.1 _) ⟨wr.heap.size,0,none⟩ 1 1 [.int .i64 z0,.int .i64 z1,.int .i64 z2,.int .i64 z3,.int .i64 z4] hx rfl (qb4 _ _ _ _ _ _ _) ?_ (by decide) ?_ ?_ ?_ (wr.heap.size+1) (by simp) ?_
 ·intro u hu;simp at hu;rcases hu with rfl|rfl|rfl|rfl|rfl <;> rfl
 ·unfold maxLen;omega
 ·omega
 ·simp;omega
 ·intro g cap w1 hown1 hgrow hat _
  refine h g cap w1 ⟨?_,?_⟩ (((Keeps.refl _ wr).alloc _).grown hgrow (fun k hk=>.inl hk)) (hat.imp id (fun h=>by omega))
  ·rw[List.length_append,List.flatten_append]
   unfold ints at hown1 ⊢
   rw[List.map_append]
   exact hown1
  ·intro p hp
   rcases List.mem_append.1 hp with hp|hp
   ·exact hown.2 p hp
   ·simp at hp;subst hp;rfl
structure PS (w:World)(b:Nat)(s:List Nat)(root lone:Int)(R:Nat→Prop)(g:Nat)(ps:List (List Int))(ov:Value)(wr:World):Prop where
 mq:∃ R',MapAt wr b s root lone R'∧(∀ x,R' x→R x∨(w.heap.size≤x∧x<wr.heap.size))∧¬ R' g∧∀ k,ov.ownBlock=some k→¬ R' k
 nm:aF w.heap.size wr (.slice (some ⟨g,0,none⟩) s.length s.length) (aB (fG s))
 ow:Own5 188 w.heap.size wr ov ps
 ne:∀ k,ov.ownBlock=some k→k≠g
 bw:b<w.heap.size
 dR:Keeps (fun k=>k=b) w wr
section
variable {w:World} {b:Nat} {s:List Nat} {root lone:Int} {R:Nat→Prop} {g:Nat} {ps:List (List Int)} {ov:Value} {wr:World} (h:PS w b s root lone R g ps ov wr)
include h
theorem PS.ask:∃ R',MapAt wr b s root lone R'∧∀ w2,fH wr b s root lone R' w2→PS w b s root lone R g ps ov w2:=by
 obtain⟨R',h1,h2,h3,h4⟩:=h.mq
 have hb:=h.bw
 have hg:=h.nm.lt g rfl
 refine⟨R',h1,fun w2 hq=>⟨⟨grow R' wr w2,hq.1,fun x hx=>?_,fun hx=>?_,fun k hk hx=>?_⟩,h.nm.keeps hq.2 (fun q hq' e=>by have:=(h.nm.lt q hq').1;omega),h.ow.keeps hq.2 (fun q hq' e=>by have:=(h.ow.lt q hq').1;omega),h.ne,hb,h.dR.trans hq.2 (fun _ _ e=>e)⟩⟩
 ·have hs:=h.dR.size
  have hs2:=hq.2.size
  rcases hx with hx|hx
  ·rcases h2 x hx with e|e
   ·exact .inl e
   ·exact .inr ⟨e.1,by omega⟩
  ·exact .inr ⟨by omega,hx.2⟩
 ·rcases hx with hx|hx
  ·exact h3 hx
  ·omega
 ·rcases hx with hx|hx
  ·exact h4 k hk hx
  ·have:=(h.ow.lt k hk).2;omega
theorem PS.app{p:List Int}{g5 m cap:Nat}{w5:World}(ho:Own5 188 w.heap.size w5 (.slice (some ⟨g5,0,none⟩) m cap) (ps ++ [p]))(k:Keeps (fun q=>ov.ownBlock=some q) wr w5)(hat:ov.ownBlock=some g5∨wr.heap.size≤g5) :
  PS w b s root lone R g (ps ++ [p]) (.slice (some ⟨g5,0,none⟩) m cap) w5:=by
 obtain⟨R',h1,h2,h3,h4⟩:=h.mq
 have hb:=h.bw
 have hg:=h.nm.lt g rfl
 have mO:¬ ov.ownBlock=some b:=fun e=>by have:=(h.ow.lt b e).1;omega
 refine⟨⟨R',h1.keeps k mO (fun x hx e=>h4 x e hx),fun x hx=>?_,h3,fun q hq hx=>?_⟩,h.nm.keeps k (fun q hq e=>h.ne q e (by simp only [Value.ownBlock,Option.some.injEq] at hq;exact hq.symm)),ho,fun q hq=>?_,hb,h.dR.trans k (fun x hx e=>by have:=(h.ow.lt x e).1;omega)⟩
 ·have hs2:=k.size
  rcases h2 x hx with e|e
  ·exact .inl e
  ·exact .inr ⟨e.1,by omega⟩
 ·simp only [Value.ownBlock,Option.some.injEq] at hq
  subst hq
  rcases hat with e|e
  ·exact h4 _ e hx
  ·have:=h1.old _ hx;omega
 ·simp only [Value.ownBlock,Option.some.injEq] at hq
  subst hq
  rcases hat with e|e
  ·exact h.ne _ e
  ·omega
end
theorem PS.set{w:World}{b:Nat}{s:List Nat}{root lone:Int}{R:Nat→Prop}{g:Nat}{ps:List (List Int)}{g5 m cap:Nat}{wr:World}(h:PS w b s root lone R g ps (.slice (some ⟨g5,0,none⟩) m cap) wr){j k:Nat}{p:List Int}(hp:ps[j]? = some p)(hk:k<5)(z:Int) :
  PS w b s root lone R g (ps.set j (p.set k z)) (.slice (some ⟨g5,0,none⟩) m cap) (wr.setCell ⟨g5,j * 5+k,none⟩ (.int .i64 z)):=by
 obtain⟨R',h1,h2,h3,h4⟩:=h.mq
 have hb:=h.bw
 have hg5:=h.ow.lt g5 rfl
 have kk:=(Keeps.refl (fun q=>q=g5) wr).setCell (p:=⟨g5,j * 5+k,none⟩) (.inl rfl) (.int .i64 z)
 refine⟨⟨R',h1.keeps kk (fun e=>by omega) (fun x hx e=>h4 g5 rfl (e ▸ hx)),fun x hx=>?_,h3,h4⟩,h.nm.keeps kk (fun q hq e=>h.ne g5 rfl (by simp only [Value.ownBlock,Option.some.injEq] at hq;omega)),h.ow.set hp hk z,h.ne,hb,h.dR.trans kk (fun x hx e=>by omega)⟩
 have hs2:=kk.size
 rcases h2 x hx with e|e
 ·exact .inl e
 ·exact .inr ⟨e.1,by omega⟩
theorem PS.drewN{w:World}{b:Nat}{s:List Nat}{root lone:Int}{R:Nat→Prop}{g:Nat}{ps:List (List Int)}{ov:Value}{wr:World}(h:PS w b s root lone R g ps ov wr)(n:Nat):PS w b s root lone R g ps ov (wr.drewN n):=by
 obtain⟨R',h1,h2,h3,h4⟩:=h.mq
 have kk:=(Keeps.refl (fun _=>False) wr).drewN n
 exact⟨⟨R',h1.keeps kk (fun h=>h) (fun _ _ h=>h),h2,h3,h4⟩,h.nm.keeps kk (fun _ _ h=>h),h.ow.keeps kk (fun _ _ h=>h),h.ne,h.bw,h.dR.drewN n⟩
theorem qm3{α:Type}{l:List α}{j:Nat}{x:α}(h:l[j]? = some x):l.set j x=l:=by
 apply List.ext_getElem?
 intro i
 rw[List.getElem?_set]
 by_cases e:j=i
 ·subst e;rw[if_pos rfl,if_pos (fK h),h]
 ·rw[if_neg e]
theorem q8v{n:Nat}{S:Nat→Nat}(h:aM n S){d:Nat}(hd:d<n):aD S d=bT S d↔rep S d=d:=by
 have hle:=h.jd hd
 constructor
 ·intro hc
  rcases Nat.lt_or_ge (rep S d) d with hlt|hge
  ·have h1:=um S (rep S d)
   rw[if_pos (h.gV hd)] at h1
   have h2:=Lr S (show rep S d+1≤d from hlt)
   unfold aD at hc
   omega
  ·omega
 ·intro hc
  unfold aD;rw[hc]
noncomputable def jr(s:List Nat)(j:Nat):List (List Int):=(nL s s.length).take j ++ (dK s (aR s.length (sg s) s.length) s.length).drop j
theorem q7l(s:List Nat)(j:Nat):(jr s j).length=aR s.length (sg s) s.length:=by
 unfold jr
 rw[List.length_append,List.length_take,List.length_drop,xE,zJ];omega
theorem qd{s:List Nat}{j:Nat}(hj:j<aR s.length (sg s) s.length):(jr s j)[j]? = some (qX s s.length j):=by
 unfold jr
 rw[List.getElem?_append_right (by rw[List.length_take,zJ];omega),List.length_take,zJ,Nat.min_eq_left (by omega),Nat.sub_self,List.getElem?_drop,Nat.add_zero,Nh hj]
theorem qh8{s:List Nat}{j:Nat}{p:List Int}(hj:j<aR s.length (sg s) s.length)(hp:(nL s s.length)[j]? = some p):(jr s j).set j p=jr s (j+1):=by
 apply List.ext_getElem?
 intro i
 rw[List.getElem?_set,q7l]
 have hl:=zJ s s.length
 unfold jr
 by_cases e:j=i
 ·subst e
  rw[if_pos rfl,if_pos hj,List.getElem?_append_left (by rw[List.length_take];omega),List.getElem?_take,if_pos (by omega),hp]
 ·rw[if_neg e]
  rcases Nat.lt_or_ge i j with h1|h1
  ·rw[List.getElem?_append_left (by rw[List.length_take];omega),List.getElem?_append_left (by rw[List.length_take];omega),List.getElem?_take,List.getElem?_take,if_pos h1,if_pos (by omega)]
  ·rw[List.getElem?_append_right (by rw[List.length_take];omega),List.getElem?_append_right (by rw[List.length_take];omega),List.length_take,List.length_take,hl,Nat.min_eq_left (by omega),Nat.min_eq_left (by omega),List.getElem?_drop,List.getElem?_drop]
   congr 1;omega
theorem qjk(s:List Nat):jr s (aR s.length (sg s) s.length)=nL s s.length:=by
 unfold jr
 rw[List.take_of_length_le (by rw[zJ];exact Nat.le_refl _),List.drop_of_length_le (by rw[xE];exact Nat.le_refl _),List.append_nil]
theorem V7{w:World}{b:Nat}{s:List Nat}{root:Int}{l:Nat}{R:Nat→Prop}(h:MapAt w b s root l R) :
  Calls Tryz.prog 128 #[.pointer (some ⟨b,0,none⟩)] w fun e w'=>∃ ov,e=.returned ov∧Own5 188 w.heap.size w' ov (iC s l)∧fH w b s root l R w':=by
 have hN:=V4 h
 have hle:=h.le
 have hln:=h.ln
 have HP:=ah (aj h.dH (aj h.even (MW h.dH h.even)))
 have HH:=ah h
 clear h
 go_enter Tryz.func128,Tryz.ntmps128
 go_wp2_with fail
 refine hN.mono ?_
 rintro e w1 ⟨g,rfl,hM⟩
 clear hN
 have h0:PS w b s root l R g (dK s (aR s.length (sg s) 0) 0) (.slice none 0 0) w1:=by
  obtain⟨zs,h1,h2,h3,h4⟩:=hM
  subst h2
  have hs:=h4.size
  refine⟨⟨R,HH.out.keeps h4 (fun h=>h) (fun _ _ h=>h),fun x hx=>.inl hx,fun hx=>by have:=HH.out.old g hx;have:=(h3.lt g rfl).1;omega,fun k hk=>by simp[Value.ownBlock] at hk⟩,h3,Own5.nil _ _ _,fun k hk=>by simp[Value.ownBlock] at hk,HH.out.lt,h4.mono (fun _ _ h=>h.elim)⟩
 clear hM
 go_wp2_with fail
 go_loopg [3,4,5,14] s.length (fun m ov c1 c2 i wr=>∃ d:Nat,d≤s.length∧m=s.length - d∧i=.int .i64 d∧c1=.int .i64 (bT (sg s) d:Nat)∧c2=.int .i64 (bT (sg (aQ s)) d:Nat)∧PS w b s root l R g (dK s (aR s.length (sg s) d) d) ov wr)
 case atStart=>exact⟨0,Nat.zero_le _,rfl,rfl,rfl,rfl,h0⟩
 case round =>
  clear h0
  obtain⟨d,hd,aN,rfl,rfl,rfl,hT⟩:=hrel
  have HG:=ah aN
  clear aN
  by_cases hlt:d<s.length
  ·have hl1:=yZ (sg s) d
   have hl2:=yZ (sg (aQ s)) d
   have hl3:=G9 s.length (sg s) d
   have hl4:=G9 s.length (sg s) (d+1)
   have hls:=uF s.length (sg s) d
   obtain⟨oa,oc,rfl⟩:=hT.ow.form
   rw[xE] at hT ⊢
   have hnc:=(hT.nm.cell (show (aB (fG s))[d]? = some ((bf s.length (sg s) d:Nat):Int) from jq (by simp[fG,hlt]))).1
   obtain⟨k,hk⟩:∃ k,k=bf s.length (sg s) d:=⟨_,rfl⟩
   obtain⟨M,hM⟩:∃ M,M=aR s.length (sg s) d:=⟨_,rfl⟩
   rw[← hk] at hnc
   rw[← hM] at hT hl3 hls ⊢
   obtain⟨A1,hA1⟩:∃ A1,A1=bT (sg s) d:=⟨_,rfl⟩
   obtain⟨A2,hA2⟩:∃ A2,A2=bT (sg (aQ s)) d:=⟨_,rfl⟩
   rw[← hA1] at hl1 ⊢
   rw[← hA2] at hl2 ⊢
   have xF:=ah (aj hA1 hA2)
   clear hA1 hA2
   have hkM:(k=M↔aV s.length (sg s) d=d):=by rw[hk,hM];exact HP.out.1.oz HP.out.2.1 hlt
   have HK:=ah (aj hk (aj hM hkM))
   have HT:=ah hT
   clear hT hk hkM hM
   go_upto_if 22 with fail
   generalize htb:((k:Int) == (M:Int))=tb
   have V8:=ah htb
   clear htb
   go_cut [3] from 23 to 27 (fun ov wx=>PS w b s root l R g (dK s (aR s.length (sg s) (d+1)) d) ov wx)
   case first =>
    by_cases hkm:k=M
    ·have hcr:=HK.out.2.2.1 hkm
     have hrn:=qm1 HP.out.1 HP.out.2.1 hlt hcr
     have hlen:Hid ((dK s M d).length=M):=ah (xE _ _ _)
     have hown:=HT.out.ow
     have hsz:=HT.out.dR.size
     have J2:M≤100000000:=by omega
     have happ:=fun (w5:World) g5 cap=>HT.out.app (p:=[(d:Int),0,0,0,0]) (g5:=g5) (m:=M+1) (cap:=cap) (w5:=w5)
     rw[← HK.out.2.1] at hrn
     have HA:=ah (aj happ hrn)
     have HKM:=ah hkm
     obtain rfl:tb=true:=by rw[← V8.out,beq_iff_eq];omega
     clear happ hrn hcr hkm
     go_wp2_with (at_builtin;refine qg4 M rfl _ _ rfl w.heap.size (.slice oa M oc) (dK s M d) (d:Int) 0 0 0 0 hlen wr.heap.size rfl rfl rfl hown J2 hsz ?_;intro g5 cap5 w5 hown5 hk5 gH;have nk:=ah (HA.out.1 w5 g5 cap5 hown5 hk5 gH);clear hown5 hk5 gH)
     go_meet
     rw[← HA.out.2]
     exact nk.out
    ·have hcr:¬ aV s.length (sg s) d=d:=fun e=>hkm (HK.out.2.2.2 e)
     rw[if_neg hcr] at hls
     obtain rfl:tb=false:=by rw[← V8.out,beq_eq_false_iff_ne];omega
     have HF:=ah (show PS w b s root l R g (dK s (aR s.length (sg s) (d+1)) d) (.slice oa M oc) wr by rw[hls];exact HT.out)
     clear hcr hkm hls
     go_wp2
     go_meet
     exact HF.out
   case rest =>
    rename_i ov wx
    have CP:=hcut
    clear hcut HT V8 hls
    obtain⟨M2,hM2⟩:∃ M2,M2=aR s.length (sg s) (d+1):=⟨_,rfl⟩
    have zS:k<M2:=by
     have h5:=uF s.length (sg s) (aV s.length (sg s) d)
     rw[if_pos (HP.out.1.fP HP.out.2.1 hlt)] at h5
     have h6:=JN s.length (sg s) (show aV s.length (sg s) d+1≤d+1 by have:=vI (aJ.refl s.length (sg s) d);omega)
     rw[HK.out.1,hM2];unfold bf;omega
    rw[← hM2] at CP hl4
    have HM2:=ah hM2
    clear hM2
    obtain⟨g5,c5,rfl,hcell⟩:=CP.ow.cell (Nh (s:=s) (d:=d) zS)
    rw[xE] at *
    obtain⟨v,hv⟩:∃ v,v=mD s (fG s) k d:=⟨_,rfl⟩
    obtain⟨e,hev⟩:∃ e,e=mH (fG s) k d:=⟨_,rfl⟩
    obtain⟨q,hq⟩:∃ q,q=mD (aQ s) (fG s) k d:=⟨_,rfl⟩
    obtain⟨r0,hr0⟩:∃ r0,r0=gD s k:=⟨_,rfl⟩
    have hrow:(dK s M2 d)[k]? = some [(r0:Int),v,e,q,0]:=by rw[Nh zS,hv,hev,hq,hr0];rfl
    have hvb:v≤131072:=by have:=JQ s (fG s) k d;omega
    have heb:e≤131072:=by have:=qjh (fG s) k d;omega
    have Ni:q≤131072:=by have:=JQ (aQ s) (fG s) k d;omega
    have HV:=ah (aj hv (aj hev (aj hq (aj hr0 hrow))))
    obtain⟨R',kY,j5⟩:=CP.ask
    have vN:=VF kY d hlt
    have zT:=ah j5
    clear hv hev hq hr0 hrow hcell CP kY j5
    go_wp2_with fail
    refine vN.mono ?_
    rintro en w2 ⟨rfl,hq2⟩
    have HT2:=ah (zT.out w2 hq2)
    clear vN zT hq2
    have hvl:=q8v HP.out.1 hlt
    rw[← xF.out.1] at hvl
    obtain⟨x1,hx1⟩:∃ x1,x1=aD (sg s) d:=⟨_,rfl⟩
    have xG:=HP.out.1.lG hlt
    have Dm:=yZ (sg s) s.length
    rw[← hx1] at hvl xG ⊢
    have Et:=ah hvl
    clear hvl hx1
    go_upto_if 35 with fail
    generalize htb:((x1:Int) == (A1:Int))=tb2
    have Ii:=ah htb
    clear htb
    go_cut [4] from 36 to 44 (fun c1 wy=>c1=.int .i64 (bT (sg s) (d+1):Nat)∧PS w b s root l R g ((dK s M2 d).set k [(r0:Int),((v+if rep (sg s) d=d then 1 else 0:Nat):Int),e,q,0]) (.slice (some ⟨g5,0,none⟩) M2 c5) wy)
    case first =>
     have hls:=um (sg s) d
     by_cases hr:rep (sg s) d=d
     ·obtain rfl:tb2=true:=by rw[← Ii.out,beq_iff_eq];have:=Et.out.2 hr;omega
      rw[if_pos hr] at hls
      have zU:=ah (aj hr hls)
      obtain⟨g6,c6,hv6,hcell⟩:=HT2.out.ow.cell HV.out.2.2.2.2
      rw[xE] at hv6
      simp only [Value.slice.injEq,Option.some.injEq,Addr.mk.injEq,and_true,true_and] at hv6
      obtain⟨rfl,rfl⟩:=hv6
      have k1:=hcell 1 (v:Int) rfl
      have f1:=HT2.out.ow.free (k * 5+1)
      have hset:=HT2.out.set HV.out.2.2.2.2 (k:=1) (by omega) ((v:Int)+1)
      have HF:=ah hset
      clear hset hcell hr hls
      go_wp2
      go_meet
      exact⟨by rw[zU.out.2,← xF.out.1];go_num,by rw[if_pos zU.out.1];exact HF.out⟩
     ·obtain rfl:tb2=false:=by rw[← Ii.out,beq_eq_false_iff_ne];have:=Et.out;intro hh;exact hr (this.1 (by omega))
      rw[if_neg hr] at hls
      have zU:=ah (aj hr hls)
      have HF:=ah (show PS w b s root l R g ((dK s M2 d).set k [(r0:Int),((v+0:Nat):Int),e,q,0]) (.slice (some ⟨g5,0,none⟩) M2 c5) w2 by
       rw[show (dK s M2 d).set k [(r0:Int),((v+0:Nat):Int),e,q,0]=dK s M2 d from qm3 HV.out.2.2.2.2]
       exact HT2.out)
      clear hr hls
      go_wp2
      go_meet
      exact⟨by rw[zU.out.2,Nat.add_zero,← xF.out.1],by rw[if_neg zU.out.1];exact HF.out⟩
    case rest =>
     rename_i c1 wy
     obtain⟨rfl,V9⟩:=hcut
     clear Ii HT2 Et xG Dm
     obtain⟨v1,hv1⟩:∃ v1,v1=v+if rep (sg s) d=d then 1 else 0:=⟨_,rfl⟩
     have aiy:v1≤131073:=by rw[hv1];split <;> omega
     rw[← hv1] at V9
     have EJ:((dK s M2 d).set k [(r0:Int),(v1:Int),e,q,0])[k]? = some [(r0:Int),(v1:Int),e,q,0]:=by rw[List.getElem?_set,if_pos rfl,if_pos (by rw[xE];exact zS)]
     have Nj:=ah (aj hv1 EJ)
     obtain⟨R2,kY,j5⟩:=V9.ask
     have vN:=qh5 kY d hlt
     have zT:=ah j5
     clear hv1 EJ V9 kY j5
     obtain⟨B1,hB1⟩:∃ B1,B1=bT (sg s) (d+1):=⟨_,rfl⟩
     have Wh:=yZ (sg s) (d+1)
     rw[← hB1] at Wh ⊢
     have HB1:=ah hB1
     clear hB1
     go_wp2_with fail
     refine vN.mono ?_
     rintro en w3 ⟨rfl,hq2⟩
     have HT3:=ah (zT.out w3 hq2)
     clear vN zT hq2
     have hlt2:d<(aQ s).length:=by rw[lT];exact hlt
     have hvl:=q8v HP.out.2.2 hlt2
     rw[← xF.out.2] at hvl
     obtain⟨x1,hx1⟩:∃ x1,x1=aD (sg (aQ s)) d:=⟨_,rfl⟩
     have xG:=HP.out.2.2.lG hlt2
     have Dm:=yZ (sg (aQ s)) (aQ s).length
     rw[lT] at Dm xG
     rw[← hx1] at hvl xG ⊢
     have Et:=ah hvl
     clear hvl hx1
     go_upto_if 49 with fail
     generalize htb:((x1:Int) == (A2:Int))=tb3
     have Ij:=ah htb
     clear htb
     go_cut [5] from 50 to 58 (fun c1 wy=>c1=.int .i64 (bT (sg (aQ s)) (d+1):Nat)∧PS w b s root l R g ((dK s M2 d).set k [(r0:Int),(v1:Int),e,((q+if rep (sg (aQ s)) d=d then 1 else 0:Nat):Int),0]) (.slice (some ⟨g5,0,none⟩) M2 c5) wy)
     case first =>
      have hls:=um (sg (aQ s)) d
      by_cases hr:rep (sg (aQ s)) d=d
      ·obtain rfl:tb3=true:=by rw[← Ij.out,beq_iff_eq];have:=Et.out.2 hr;omega
       rw[if_pos hr] at hls
       have zU:=ah (aj hr hls)
       obtain⟨g6,c6,hv6,hcell⟩:=HT3.out.ow.cell Nj.out.2
       rw[List.length_set,xE] at hv6
       simp only [Value.slice.injEq,Option.some.injEq,Addr.mk.injEq,and_true,true_and] at hv6
       obtain⟨rfl,rfl⟩:=hv6
       have k1:=hcell 3 (q:Int) rfl
       have f1:=HT3.out.ow.free (k * 5+3)
       have hset:=HT3.out.set Nj.out.2 (k:=3) (by omega) ((q:Int)+1)
       rw[List.set_set] at hset
       have HF:=ah hset
       clear hset hcell hr hls
       go_wp2
       go_meet
       exact⟨by rw[zU.out.2,← xF.out.2];go_num,by rw[if_pos zU.out.1];exact HF.out⟩
      ·obtain rfl:tb3=false:=by rw[← Ij.out,beq_eq_false_iff_ne];have:=Et.out;intro hh;exact hr (this.1 (by omega))
       rw[if_neg hr] at hls
       have zU:=ah (aj hr hls)
       clear hr hls
       go_wp2
       go_meet
       exact⟨by rw[zU.out.2,Nat.add_zero,← xF.out.2],by rw[if_neg zU.out.1];exact HT3.out⟩
     case rest =>
      rename_i c2 wz
      obtain⟨rfl,Nk⟩:=hcut
      clear Ij HT3 Et xG Dm
      obtain⟨q1,hq1⟩:∃ q1,q1=q+if rep (sg (aQ s)) d=d then 1 else 0:=⟨_,rfl⟩
      have aiz:q1≤131073:=by rw[hq1];split <;> omega
      rw[← hq1] at Nk
      have hrow2:((dK s M2 d).set k [(r0:Int),(v1:Int),e,q1,0])[k]? = some [(r0:Int),(v1:Int),e,q1,0]:=by rw[List.getElem?_set,if_pos rfl,if_pos (by rw[xE];exact zS)]
      obtain⟨g6,c6,hv6,hcell⟩:=Nk.ow.cell hrow2
      rw[List.length_set,xE] at hv6
      simp only [Value.slice.injEq,Option.some.injEq,Addr.mk.injEq,and_true,true_and] at hv6
      obtain⟨rfl,rfl⟩:=hv6
      have k1:=hcell 2 (e:Int) rfl
      have f1:=Nk.ow.free (k * 5+2)
      obtain⟨o,ho⟩:∃ o,o=d % 2:=⟨_,rfl⟩
      have ho2:o<2:=by omega
      have om1:(d:Int).tmod 2=(o:Int):=by rw[ho,Int.tmod_eq_emod_of_nonneg (by omega)];simp
      have om2:(d:Int) % 2=(o:Int):=by rw[ho];simp
      have hset:=Nk.set hrow2 (k:=2) (by omega) ((e:Int)+o)
      rw[List.set_set] at hset
      have hstep:=qji (s:=s) (m:=M2) hlt (by rw[← HK.out.1];exact zS)
      rw[← HK.out.1,← HV.out.1,← HV.out.2.1,← HV.out.2.2.1,← HV.out.2.2.2.1,← Nj.out.1,← hq1,← ho] at hstep
      have hm2:dK s M2 (d+1)=dK s (aR s.length (sg s) (d+1)) (d+1):=by rw[HM2.out]
      have e9:([(r0:Int),(v1:Int),(e:Int),(q1:Int),0].set 2 ((e:Int)+o))=[(r0:Int),(v1:Int),((e+o:Nat):Int),(q1:Int),0]:=by simp
      rw[e9,← hstep,hm2] at hset
      clear e9
      have hfin:=hset
      have HF:=ah hfin
      obtain⟨B2,hB2⟩:∃ B2,B2=bT (sg (aQ s)) (d+1):=⟨_,rfl⟩
      rw[← hB2]
      have HB2:=ah hB2
      clear hfin hm2 hset hstep hrow2 hcell Nk hq1 hB2 ho
      go_wp2
      go_roundg (s.length - (d+1))
      case measure=>rw[HG.out];omega
      case rel=>exact⟨d+1,by omega,rfl,by go_num,by rw[HB1.out],by rw[HB2.out],HF.out⟩
  ·obtain rfl:d=s.length:=by omega
   have hcl:=G9 s.length (sg s) s.length
   have e0:dK s (aR s.length (sg s) s.length) s.length=jr s 0:=by unfold jr;simp
   have h1:=hT
   rw[e0] at h1
   clear e0
   obtain⟨oa,oc,rfl⟩:=h1.ow.form
   rw[q7l] at h1 ⊢
   have uL:=ah (aj hle hln)
   clear hT HG
   obtain⟨L,hL⟩:∃ L,L=aR s.length (sg s) s.length:=⟨_,rfl⟩
   rw[← hL] at h1 hcl ⊢
   have HL:=ah hL
   clear hL
   obtain⟨A1,hA1⟩:∃ A1,A1=bT (sg s) s.length:=⟨_,rfl⟩
   obtain⟨A2,hA2⟩:∃ A2,A2=bT (sg (aQ s)) s.length:=⟨_,rfl⟩
   rw[← hA1,← hA2]
   clear hA1 hA2
   go_wp2_with fail
   go_loopg [71] L (fun m i wr=>∃ j:Nat,j≤L∧m=L - j∧i=.int .i64 j∧PS w b s root l R g (jr s j) (.slice oa L oc) wr)
   case atStart=>exact⟨0,Nat.zero_le _,rfl,rfl,h1⟩
   case round =>
    clear h1
    obtain⟨j,hj,aN,rfl,hT⟩:=hrel
    have HG:=ah aN
    clear aN
    by_cases hjl:j<L
    ·have hjc:j<aR s.length (sg s) s.length:=by rw[← HL.out];exact hjl
     obtain⟨g5,c5,hv5,hcell⟩:=hT.ow.cell (qd hjc)
     simp only [Value.slice.injEq] at hv5
     obtain⟨rfl,e5,rfl⟩:=hv5
     clear e5
     obtain⟨gn,hp,hgn⟩:=qm2 HP.out.1 HP.out.2.1 hjc
     have hstep:=qh8 hjc hp
     have hset:=hT.set (qd hjc) (k:=4) (by omega) gn
     rw[hstep] at hset
     obtain⟨v,hv⟩:∃ v,v=mD s (fG s) j s.length:=⟨_,rfl⟩
     obtain⟨e,hev⟩:∃ e,e=mH (fG s) j s.length:=⟨_,rfl⟩
     obtain⟨q,hq⟩:∃ q,q=mD (aQ s) (fG s) j s.length:=⟨_,rfl⟩
     have hvb:v≤131072:=by have:=JQ s (fG s) j s.length;omega
     have heb:e≤131072:=by have:=qjh (fG s) j s.length;omega
     have Ni:q≤131072:=by have:=JQ (aQ s) (fG s) j s.length;omega
     rw[← hv,← hev,← hq] at hgn
     have k1:wr.cell? ⟨g5,j * 5+1,none⟩=some (.int .i64 v):=by rw[hv];exact hcell 1 _ rfl
     have k2:wr.cell? ⟨g5,j * 5+2,none⟩=some (.int .i64 e):=by rw[hev];exact hcell 2 _ rfl
     have k3:wr.cell? ⟨g5,j * 5+3,none⟩=some (.int .i64 q):=by rw[hq];exact hcell 3 _ rfl
     have k4:wr.cell? ⟨g5,j * 5+4,none⟩=some (.int .i64 0):=hcell 4 _ rfl
     have f4:=hT.ow.free (j * 5+4)
     have HF:=ah hset
     clear hset hstep hp hcell hT hv hev hq
     go_wp2_with fail
     have s1:IntKind.i64.wrap (2 - (v:Int))=2 - (v:Int):=IntWalk.i64_in _ (by omega)
     have s2:IntKind.i64.wrap (2 - (v:Int)+(e:Int))=2 - (v:Int)+(e:Int):=IntWalk.i64_in _ (by omega)
     have s3:IntKind.i64.wrap (2 - (v:Int)+(e:Int) - (q:Int))=2 - (v:Int)+(e:Int) - (q:Int):=IntWalk.i64_in _ (by omega)
     have HGN:=ah hgn
     clear hgn
     go_still_tail 19,(by kernel_rfl)
     change wpList _ _ _ _ _ wr.drew
     go_wp2
     go_roundg (L - (j+1))
     case measure=>rw[HG.out];omega
     case rel=>exact⟨j+1,by omega,rfl,by go_num,by have:=HF.out.drewN 1;rw[HGN.out] at this;exact this⟩
    ·obtain rfl:j=L:=by omega
     have e1:jr s j=nL s s.length:=by
      have:=HL.out
      subst this
      exact qjk s
     rw[e1] at hT
     have h2:PS w b s root l R g (nL s s.length ++ List.replicate 0 [-1,1,0,1,0]) (.slice oa j oc) wr:=by simpa using hT
     have Wi:∀ W,Keeps (fun k=>k=b) w W→True:=fun _ _=>trivial
     obtain⟨R',kY,_⟩:=hT.ask
     have hLo:=Rj kY
     clear hT e1 Wi kY HG hjl hj
     go_wp2_with (go_at_call 37;refine hLo.mono ?_;rintro e w' ⟨rfl,rfl⟩)
     clear hLo
     have hjL:=ah (show (nL s s.length).length=j by rw[zJ];exact HL.out.symm)
     go_loopg [3,99] l (fun m ov i wr=>∃ q:Nat,q≤l∧m=l - q∧i=.int .i64 q∧PS w b s root l R g (nL s s.length ++ List.replicate q [-1,1,0,1,0]) ov wr)
     case atStart=>exact⟨0,Nat.zero_le _,rfl,rfl,h2⟩
     case round =>
      clear h2
      obtain⟨q,hq,aN,rfl,hT⟩:=hrel
      have HG:=ah aN
      clear aN
      obtain⟨oa,oc,rfl⟩:=hT.ow.form
      have hlen:(nL s s.length ++ List.replicate q [(-1:Int),1,0,1,0]).length=j+q:=by rw[List.length_append,hjL.out,List.length_replicate]
      rw[hlen] at hT ⊢
      by_cases hql:q<l
      ·have hown:=hT.ow
       have hsz:=hT.dR.size
       have happ:=fun (w5:World) g5 cap=>hT.app (p:=[(-1:Int),1,0,1,0]) (g5:=g5) (m:=j+q+1) (cap:=cap) (w5:=w5)
       have HLN:Hid ((nL s s.length ++ List.replicate q [(-1:Int),1,0,1,0]).length=j+q):=ah hlen
       have J2:j+q≤100000000:=by omega
       have hrep:(nL s s.length ++ List.replicate q [(-1:Int),1,0,1,0]) ++ [[(-1:Int),1,0,1,0]]=nL s s.length ++ List.replicate (q+1) [(-1:Int),1,0,1,0]:=by rw[List.append_assoc,← List.replicate_succ']
       have HA:=ah (aj happ hrep)
       obtain⟨J,hJ⟩:∃ J,J=j+q:=⟨_,rfl⟩
       rw[← hJ] at hown J2 HLN HA ⊢
       clear happ hrep hT hlen hJ
       go_wp2_with (at_builtin;refine qg4 J rfl _ _ rfl w.heap.size (.slice oa J oc) (nL s s.length ++ List.replicate q [(-1:Int),1,0,1,0]) (-1) 1 0 1 0 HLN wr.heap.size rfl rfl rfl hown J2 hsz ?_;intro g5 cap5 w5 hown5 hk5 gH;have nk:=ah (HA.out.1 w5 g5 cap5 hown5 hk5 gH);clear hown5 hk5 gH)
       go_roundg (l - (q+1))
       case measure=>rw[HG.out];omega
       case rel=>exact⟨q+1,by omega,rfl,by go_num,by rw[← HA.out.2];exact nk.out⟩
      ·obtain rfl:q=l:=by omega
       obtain⟨R2,h1,h2,h3,h4⟩:=hT.mq
       have Ik:=hT.dR
       have hold:=HH.out.old
       have Rt:fH w b s root q R wr:=by
        refine⟨h1.mono (fun x hx=>?_) (fun x hx=>?_) (fun hx=>?_),Ik⟩
        ·rcases h2 x hx with e|e
         ·exact .inl e
         ·exact .inr e
        ·have:=Ik.size
         rcases hx with e|e
         ·have:=hold x e;omega
         ·exact e.2
        ·have:=HH.out.lt
         rcases hx with e|e
         ·exact HH.out.zO e
         ·omega
       have HF:=ah (aj hT.ow Rt)
       clear hT h1 h2 h3 h4 Ik hold Rt hlen
       go_wp2
       go_ret
       exact⟨_,rfl,HF.out⟩
end
section
open Go.RowKit
section
variable {w:World} {b:Nat} {s:List Nat} {root:Int} {l:Nat} {R:Nat→Prop} (h:MapAt w b s root l R)
include h
theorem q9u:Calls Tryz.prog 134 #[.pointer (some ⟨b,0,none⟩)] w fun e w'=>e=.returned (.int .i64 (dn (iC s l)))∧fH w b s root l R w':=by
 have kN:=V7 h
 have hle:=h.le
 have hln:=h.ln
 have hR:=qez s (by omega) l
 have hn:(iC s l).length≤2000000:=by rw[Rw];have:=G9 s.length (sg s) s.length;omega
 have HH:=ah h
 generalize iC s l=ps at *
 clear h
 go_enter Tryz.func134,Tryz.ntmps134
 go_wp2_with fail
 refine kN.mono ?_
 rintro e w1 ⟨pv,rfl,hown,hk1⟩
 obtain⟨pa,pc,rfl⟩:=hown.form
 have HO:Hid (∀ W,Keeps (fun _=>False) w1 W→Own5 188 w.heap.size W (.slice pa ps.length pc) ps):=ah (fun W hk=>hown.keeps hk (fun _ _ h=>h))
 have HR:=ah (aj hR (aj (qhc hR) hk1))
 have h0:=Keeps.refl (fun _=>False) w1
 clear kN hown hk1 hR
 generalize hN:ps.length=N at *
 have HN:=ah hN
 clear hN
 go_wp2_with fail
 go_loopg [3,9] N (fun m c i wr=>∃ j:Nat,j≤N∧m=N - j∧i=.int .i64 j∧c=.int .i64 (dn (ps.take j))∧Keeps (fun _=>False) w1 wr)
 case atStart=>exact⟨0,Nat.zero_le _,rfl,rfl,rfl,h0⟩
 case round =>
  clear h0
  obtain⟨j,hj,aN,rfl,rfl,hk⟩:=hrel
  have HG:=ah aN
  clear aN
  obtain⟨hb1,hb2⟩:=HR.out.2.1 j hj
  by_cases hlt:j<N
  ·have hp:=List.getElem?_eq_getElem (l:=ps) (i:=j) (by rw[HN.out];exact hlt)
   obtain⟨p,hpe⟩:∃ p,p=ps[j]'(by rw[HN.out];exact hlt):=⟨_,rfl⟩
   rw[← hpe] at hp
   clear hpe
   obtain⟨z0,z1,z2,z3,z4,rfl,hz1,hz2⟩:=HR.out.1 p (List.mem_of_getElem? hp)
   have hgs:=qd4 hp
   simp only [List.getD_cons_succ,List.getD_cons_zero] at hgs
   obtain⟨g,cap,hv,hcell⟩:=(HO.out wr hk).cell hp
   simp only [Value.slice.injEq] at hv
   obtain⟨rfl,-,rfl⟩:=hv
   have d0:wr.cell? ⟨g,j * 5,none⟩=some (.int .i64 z0):=hcell 0 z0 rfl
   have d1:=hcell 1 z1 rfl
   have d2:=hcell 2 z2 rfl
   have d3:=hcell 3 z3 rfl
   have d4:=hcell 4 z4 rfl
   have HF:=ah (aj hgs (hk.alloc (.cells #[.int .i64 z0,.int .i64 z1,.int .i64 z2,.int .i64 z3,.int .i64 z4] 188)))
   clear hgs hk hcell hp
   generalize dn (ps.take j)=S at *
   go_wp2
   go_roundg (N - (j+1))
   case measure=>rw[HG.out];omega
   case rel=>exact⟨j+1,by omega,rfl,by go_num,by rw[HF.out.1],HF.out.2⟩
  ·obtain rfl:j=N:=by omega
   rw[List.take_of_length_le (by rw[HN.out];exact Nat.le_refl _)]
   have HF:=ah (HH.out.trans HR.out.2.2 (HR.out.2.2.1.still hk))
   clear hk
   go_wp2
   go_ret
   exact⟨rfl,HF.out⟩
theorem q65:Calls Tryz.prog 168 #[.pointer (some ⟨b,0,none⟩)] w fun e w'=>e=.returned (.bool (decide (aR s.length (sg s) s.length+l=1)))∧fH w b s root l R w':=by
 have kN:=V7 h
 have hlen:=Rw s l
 obtain⟨N,hN⟩:∃ N,N=aR s.length (sg s) s.length+l:=⟨_,rfl⟩
 rw[← hN] at hlen ⊢
 have HL:=ah hlen
 have hd:((N:Int) == 1)=decide (N=1):=by
  by_cases e:N=1
  ·subst e;rfl
  ·rw[decide_eq_false e,beq_eq_false_iff_ne];omega
 have HD:=ah hd
 clear h hN hlen hd
 go_enter Tryz.func168,Tryz.ntmps168
 go_wp2_with fail
 refine kN.mono ?_
 rintro e w1 ⟨pv,rfl,hown,hk1⟩
 obtain⟨pa,pc,rfl⟩:=hown.form
 rw[HL.out]
 have HF:=ah hk1
 clear kN hown hk1
 go_wp2
 go_ret
 exact⟨by rw[← HD.out];rfl,HF.out⟩
theorem Rx:Calls Tryz.prog 94 #[.pointer (some ⟨b,0,none⟩)] w fun e w'=>e=.returned (.bool (decide (dn (iC s l)=0)))∧fH w b s root l R w':=by
 have hG:=q9u h
 obtain⟨N,hN⟩:∃ N,N=dn (iC s l):=⟨_,rfl⟩
 rw[← hN] at hG ⊢
 have hd:(N == 0)=decide (N=0):=by
  by_cases e:N=0
  ·subst e;rfl
  ·rw[decide_eq_false e,beq_eq_false_iff_ne];exact e
 have HD:=ah hd
 clear h hN hd
 go_enter Tryz.func94,Tryz.ntmps94
 go_wp2_with fail
 refine hG.mono ?_
 rintro e w1 ⟨rfl,hk1⟩
 have HF:=ah hk1
 clear hG hk1
 go_wp2
 go_ret
 exact⟨by rw[← HD.out];rfl,HF.out⟩
end
end
