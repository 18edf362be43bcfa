import Derived.Test.YtcfdpogegngplaaGreatZg0r
import Derived.Test.YtcfdpogegngplaaGreatZg12
set_option maxRecDepth 100000
set_option maxHeartbeats 4000000
namespace Go.Proofs.YtcfdpogegngplaaGreat
section
open Go.RowKit
theorem qmq{cs:List Nat}{x u:Nat}(h:jo cs 0 0=some (x,u)):1≤u:=by
 cases cs with
 | nil=>cases h
 | cons b cs =>
  rw[qdm] at h
  split at h
  ·cases h
  ·next hn =>
   split at h
   ·cases h;omega
   ·exact (qdv cs 1 _ x u h (by
     have:b % 128<128:=Nat.mod_lt _ (by decide)
     simp;omega) (by simp;omega)).2.1
def kL(W:World)(br:Nat)(t p l:Bool)(pv sv:Value)(ok:Bool):Prop:=W.heap[br]? = some (.cells #[.bool t,.bool p,.bool l,pv,sv,.bool ok] 134 (0,0))
theorem kL.keeps{W W':World}{br:Nat}{t p l:Bool}{pv sv:Value}{ok:Bool}{G:Nat→Prop}(h:kL W br t p l pv sv ok)(k:Keeps G W W')(hG:¬ G br):kL W' br t p l pv sv ok:=k.at h hG
def qkw(w:World)(br:Nat)(t p l ok:Bool)(pv sv:Value)(o:Option (Nat × List Nat))(e:Ending)(w':World):Prop :=
 (∃ x cs' pv',ok=true∧o=some (x,cs')∧e=.returned (.int .i64 (x:Nat))∧kL w' br t p l pv' sv true∧(∀ q,pv'.ownBlock=some q→pv.ownBlock=some q)∧Sl .u8 w' pv' (aB cs')∧Keeps (fun k=>k=br) w w') ∨
 ((ok=false∨o=none)∧e=.returned (.int .i64 0)∧kL w' br t p l pv sv false∧Keeps (fun k=>k=br) w w')
theorem Tc(br:Nat)(t p l ok:Bool)(pv sv:Value)(cs:List Nat)(most:Nat)(w:World)(hR:kL w br t p l pv sv ok)(hpb:pv.ownBlock≠some br)(hp:Sl .u8 w pv (aB cs))(hcs:∀ x ∈ cs,x<256)(hl:cs.length≤10000000)(hm:most≤1000000) :
  Calls Tryz.prog 122 #[.pointer (some ⟨br,0,none⟩),.int .i64 most] w (qkw w br t p l ok pv sv (kK cs most)):=by
 have hnot:∀ (x:Bool) (w:World),(Op.unary .not (.bool x)).run Tryz.prog w=.ok (.bool (!x)) w:=fun _ _=>rfl
 obtain⟨pa,pc,rfl,hpc,hpm⟩:=hp.kP
 have hG:=qad _ cs w hp hcs
 have c3:w.cell? ⟨br,3,none⟩=some (.slice pa cs.length pc):=ak hR 3
 have HR:=ah (aj hR hp)
 cases hg:jo cs 0 0 with
 | none =>
  rw[hg] at hG
  unfold uW at hG
  simp only at hG
  have HN:Hid (kK cs most=none):=ah (by unfold kK;rw[hg])
  clear hR hp hcs hg
  generalize cs.length=n at *
  go_enter Tryz.func122,Tryz.ntmps122
  go_wp2_with fail
  refine hG.mono ?_
  clear hG
  rintro e w1 ⟨rfl,hk1⟩
  have h1:=HR.out.1.keeps hk1 (fun h=>h)
  have d5:w1.cell? ⟨br,5,none⟩=some (.bool ok):=ak h1 5
  have df:=au h1
  have h2:=dM h1 5 (.bool false)
  have HF:Hid (kL (w1.setCell ⟨br,5,none⟩ (.bool false)) br t p l (.slice pa n pc) sv false∧Keeps (fun k=>k=br) w (w1.setCell ⟨br,5,none⟩ (.bool false))):=ah ⟨by simpa [kL] using h2,(hk1.mono (fun _ _ h=>h.elim):Keeps (fun k=>k=br) w w1).setCell (p:=⟨br,5,none⟩) (.inl rfl) _⟩
  clear h1 h2 hk1 c3
  cases ok
  all_goals
   go_wp2_with fail
   go_ret
   exact .inr ⟨.inr HN.out,rfl,HF.out⟩
 | some xu =>
  obtain⟨x,u⟩:=xu
  rw[hg] at hG
  unfold uW at hG
  simp only at hG
  obtain⟨Yh,hu⟩:=qkq hg
  by_cases hok:ok=true∧x≤most
  rotate_left
  ·have HN:Hid (ok=false∨kK cs most=none):=ah (by
    by_cases h1:ok=true
    ·right;unfold kK;rw[hg];simp only;rw[if_neg (fun h2=>hok ⟨h1,h2⟩)]
    ·left;simpa using h1)
   have t1:ok=true→decide ((most:Int)<(x:Int))=true∧decide (most<x)=true:=fun h=>⟨decide_eq_true (by
    have:¬ x≤most:=fun h2=>hok ⟨h,h2⟩
    omega),decide_eq_true (by
    have:¬ x≤most:=fun h2=>hok ⟨h,h2⟩
    omega)⟩
   clear hR hp hcs hg
   generalize cs.length=n at *
   go_enter Tryz.func122,Tryz.ntmps122
   go_wp2_with fail
   refine hG.mono ?_
   clear hG
   rintro e w1 ⟨rfl,hk1⟩
   have h1:=HR.out.1.keeps hk1 (fun h=>h)
   have d5:w1.cell? ⟨br,5,none⟩=some (.bool ok):=ak h1 5
   have df:=au h1
   have h2:=dM h1 5 (.bool false)
   have HF:Hid (kL (w1.setCell ⟨br,5,none⟩ (.bool false)) br t p l (.slice pa n pc) sv false∧Keeps (fun k=>k=br) w (w1.setCell ⟨br,5,none⟩ (.bool false))):=ah ⟨by simpa [kL] using h2,(hk1.mono (fun _ _ h=>h.elim):Keeps (fun k=>k=br) w w1).setCell (p:=⟨br,5,none⟩) (.inl rfl) _⟩
   clear h1 h2 hk1 c3
   cases ok
   ·go_wp2_with fail
    go_ret
    exact .inr ⟨.inl rfl,rfl,HF.out⟩
   ·obtain⟨t2,t3⟩:=t1 rfl
    clear t1
    go_wp2_with fail
    go_ret
    exact .inr ⟨HN.out,rfl,HF.out⟩
  ·obtain⟨rfl,hxm⟩:=hok
   have HN:Hid (kK cs most=some (x,cs.drop u)):=ah (by unfold kK;rw[hg];simp only;rw[if_pos hxm])
   have t1:decide ((most:Int)<(x:Int))=false:=decide_eq_false (by omega)
   have hxb:x≤1000000:=by omega
   have hcl:cs.length=(cs.drop u).length+u:=by rw[List.length_drop];omega
   have h1u:1≤u:=qmq hg
   obtain⟨pa',pc',hv,-,-,-,hc⟩:=id hp
   simp only [Value.slice.injEq] at hv
   obtain⟨rfl,-,rfl⟩:=hv
   obtain⟨y,hy⟩:∃ y,cs[0]? = some y:=⟨_,List.getElem?_eq_getElem (by omega)⟩
   obtain⟨g,off,rfl,-⟩:=hc 0 (y:Int) (by simp[aB,hy])
   have ht:=fun W (hW:Keeps (fun k=>k=br) w W)=>(hp.keeps hW (fun q hq e=>hpb (by rw[hq,e]))).oL u hu
   have HT:=ah ht
   have HP:=ah hpb
   have HU:=ah hu
   generalize hn:cs.length=n at *
   have qO:=ah hn
   clear hn hR hp hcs hg Yh hc hy ht hpb hcl
   go_enter Tryz.func122,Tryz.ntmps122
   go_wp2_with fail
   refine hG.mono ?_
   clear hG
   rintro e w1 ⟨rfl,hk1⟩
   have h1:=HR.out.1.keeps hk1 (fun h=>h)
   have d5:w1.cell? ⟨br,5,none⟩=some (.bool true):=ak h1 5
   have d3:w1.cell? ⟨br,3,none⟩=some _:=ak h1 3
   have df:=au h1
   have HB:=ah (aj h1 hk1)
   clear h1 hk1 c3
   have hfin:∀ pv',kL (w1.setCell ⟨br,3,none⟩ pv') br t p l pv' sv true∧Keeps (fun k=>k=br) w (w1.setCell ⟨br,3,none⟩ pv'):=fun pv'=>by
    have h2:=dM HB.out.1 3 pv'
    exact⟨by simpa [kL] using h2,(HB.out.2.mono (fun _ _ h=>h.elim):Keeps (fun k=>k=br) w w1).setCell (p:=⟨br,3,none⟩) (.inl rfl) _⟩
   have HF:=ah hfin
   clear hfin
   go_wp2_with fail
   ·refine bodyPost_ret (v:=.int .i64 x) (by simp[results,Tryz.results122,go_sem]) rfl ?_
    have hnu:n - u=0:=by omega
    rw[hnu]
    obtain⟨f1,f2⟩:=HF.out (.slice (some ⟨g,off,none⟩) 0 0)
    refine .inl ⟨x,cs.drop u,.slice (some ⟨g,off,none⟩) 0 0,rfl,HN.out,rfl,f1,fun q hq=>by simpa [Value.ownBlock] using hq,?_,f2⟩
    rw[List.drop_of_length_le (by rw[qO.out];omega)]
    exact Sl.oM _ _
   ·refine bodyPost_ret (v:=.int .i64 x) (by simp[results,Tryz.results122,go_sem]) rfl ?_
    obtain⟨f1,f2⟩:=HF.out (.slice (some ⟨g,off+u,none⟩) (n - u) (pc - u))
    exact .inl ⟨x,cs.drop u,.slice (some ⟨g,off+u,none⟩) (n - u) (pc - u),rfl,HN.out,rfl,f1,fun q hq=>by simpa [Value.ownBlock] using hq,HT.out _ f2,f2⟩
end
section
open Go.RowKit
theorem qmr(l:List Nat)(h:l.length=4)(hl:∀ x ∈ l,x<256):∃ x,x<4294967296∧l=four x:=by
 match l,h with
 | [a,b,c,d],_ =>
  have ha:=hl a (by simp);have hb:=hl b (by simp);have hc:=hl c (by simp);have hd:=hl d (by simp)
  refine⟨a+256 * b+65536 * c+16777216 * d,by omega,?_⟩
  unfold four
  congr 1
  ·omega
  congr 1
  ·omega
  congr 1
  ·omega
  congr 1
  omega
theorem qms{x y:Nat}(hx:x<4294967296)(hy:y<4294967296)(h:four x=four y):x=y:=by
 unfold four at h
 simp only [List.cons.injEq,and_true] at h
 omega
theorem AO{W:World}{g:Nat}{a b c:Bool}{T:TypeId}(h:W.heap[g]? = some (.cells #[.bool a,.bool b,.bool c] T (0,0))) :
  W.cell? ⟨g,0,none⟩=some (.bool a)∧W.cell? ⟨g,1,none⟩=some (.bool b)∧W.cell? ⟨g,2,none⟩=some (.bool c)∧∀ i,W.frozen? ⟨g,i,none⟩=false :=
 ⟨ak h 0,ak h 1,ak h 2,au h⟩
theorem Jj{W:World}{g:Nat}{a b c:Bool}{T:TypeId}(h:W.heap[g]? = some (.cells #[.bool a,.bool b,.bool c] T (0,0)))(x y z:Bool) :
  (W.setCell ⟨g,0,none⟩ (.bool x)).cell? ⟨g,0,none⟩=some (.bool x)∧((W.setCell ⟨g,0,none⟩ (.bool x)).setCell ⟨g,1,none⟩ (.bool y)).cell? ⟨g,1,none⟩=some (.bool y) ∧
  (((W.setCell ⟨g,0,none⟩ (.bool x)).setCell ⟨g,1,none⟩ (.bool y)).setCell ⟨g,2,none⟩ (.bool z)).cell? ⟨g,2,none⟩=some (.bool z):=by
 have g0:=dM h 0 (.bool x)
 have g1:=dM g0 1 (.bool y)
 have g2:=dM g1 2 (.bool z)
 exact⟨ak g0 0,ak g1 1,ak g2 2⟩
theorem Jk{w W:World}{g:Nat}(h:Keeps (fun _=>False) w W)(hg:w.heap.size≤g)(x y z:Value):Keeps (fun _=>False) w (((W.setCell ⟨g,0,none⟩ x).setCell ⟨g,1,none⟩ y).setCell ⟨g,2,none⟩ z) :=
 ((h.setCell (p:=⟨g,0,none⟩) (.inr hg) x).setCell (p:=⟨g,1,none⟩) (.inr hg) y).setCell (p:=⟨g,2,none⟩) (.inr hg) z
theorem qkx(cs:List Nat):∃ t p l:Bool,iF cs=cu t p l:=by
 unfold iF cu
 split
 ·exact⟨_,_,_,rfl⟩
 ·exact⟨_,_,_,rfl⟩
def jR(cs:List Nat):List Nat:=cs.take (cs.length - 4)
open Classical in
noncomputable def nE(cs:List Nat)(lim:Int)(r:Bool)(bs:List Nat)(E:Nat):Nat :=
 if 2097152<cs.length then 6 else if cs.length<9 then 3 else if gK cs≠0 then gK cs else if cs.drop (cs.length - 4)≠four (iW (jR cs)) then 11 else if r=false∨bs≠cs then 10 else if max lim 0<E then 12 else 0
def Yi(w:World)(Q:Nat→World→Prop)(cs:List Nat)(c:Nat)(e:Ending)(w':World):Prop :=
 Keeps (fun _=>False) w w'∧((c=0∧∃ b,e=.returned (.tuple #[.pointer (some ⟨b,0,none⟩),iF cs,.int .i64 0])∧Q b w')∨(c≠0∧e=.returned (.tuple #[.pointer none,cu false false false,.int .i64 (c:Nat)])))
theorem q51(pv:Value)(cs:List Nat)(lim:Int)(w:World)(Q:Nat→World→Prop)(r:Bool)(bs:List Nat)(E:Nat)(hp:Sl .u8 w pv (aB cs))(hcs:∀ x ∈ cs,x<256)(hl:cs.length≤2097153)(hlim:-9223372036854775808≤lim∧lim≤9223372036854775807)(hbs:∀ x ∈ bs,x<256)
  (hQ:bs=cs→∀ b W W',Q b W→Keeps (fun k=>k=w.heap.size) W W'→Q b W')
  (rE:9≤cs.length→∀ t p l,iF cs=cu t p l→∀ W br pv',Keeps (fun _=>False) w W→w.heap.size≤br→kL W br t p l pv' (.slice none 0 0) true→pv'.ownBlock≠some br→Sl .u8 W pv' (aB ((jR cs).drop 3)) →
   Calls Tryz.prog 78 #[.pointer (some ⟨br,0,none⟩)] W fun e w'=>∃ v,e=.returned (.tuple #[v,.bool r])∧(r=true→∃ b,v=.pointer (some ⟨b,0,none⟩)∧Q b w'∧W.heap.size≤b)∧Keeps (fun k=>k=br) W w')
  (uV:r=true→∀ t p l,iF cs=cu t p l→∀ b W,Q b W→w.heap.size≤b→Calls Tryz.prog 17 #[.pointer (some ⟨b,0,none⟩),cu t p l] W fun e w'=>∃ v c,e=.returned (.tuple #[v,.int .i64 c])∧Sl .u8 w' v (aB bs)∧(bs=cs→Q b w')∧Keeps (fun k=>k=b) W w')
  (rT:r=true→bs=cs→∀ b W,Q b W→Calls Tryz.prog 25 #[.pointer (some ⟨b,0,none⟩)] W fun e w'=>e=.returned (.int .i64 (E:Nat))∧W=w') :
  Calls Tryz.prog 34 #[pv,.int .i64 lim] w (Yi w Q cs (nE cs lim r bs E)):=by
 have hnot:∀ (x:Bool) (w:World),(Op.unary .not (.bool x)).run Tryz.prog w=.ok (.bool (!x)) w:=fun _ _=>rfl
 obtain⟨pa,pc,rfl,hpc,hpm⟩:=hp.kP
 have k0:=(Keeps.refl (fun _=>False) w).alloc (.cells #[.bool false,.bool false,.bool false] 35)
 have l8:=ah k0
 by_cases hbig:2097152<cs.length
 ·have hc:nE cs lim r bs E=6:=by unfold nE;rw[if_pos hbig]
  rw[hc]
  have t0:decide ((2097152:Int)<(cs.length:Int))=true:=decide_eq_true (by omega)
  clear hp hcs hQ rE uV rT hc k0
  generalize hnn:cs.length=n at *
  clear hnn
  go_enter Tryz.func34,Tryz.ntmps34
  go_wp2_with fail
  refine bodyPost_ret (v:=.tuple #[.pointer none,.agg #[.bool false,.bool false,.bool false],.int .i64 6]) (by simp[results,Tryz.results34,go_sem]) rfl ?_
  exact⟨l8.out,.inr ⟨by decide,rfl⟩⟩
 ·have t0:decide ((2097152:Int)<(cs.length:Int))=false:=decide_eq_false (by omega)
  have hb0:=heap_alloc_new w (.cells #[.bool false,.bool false,.bool false] 35)
  have hHd:=qdc (.slice pa cs.length pc) cs _ (hp.keeps k0 (fun _ _ h=>h)) hcs (by omega)
  obtain⟨ft,fp,fl,yF⟩:=qkx cs
  rw[yF] at hHd
  have HP:=ah (aj hp (aj hcs (aj hb0 (aj k0 yF))))
  have HQ:=ah (aj hQ (aj rE (aj uV rT)))
  by_cases Jl:cs.length<9∨gK cs≠0
  ·
   obtain⟨ce,hce⟩:∃ ce,ce=if cs.length<9 then 3 else gK cs:=⟨_,rfl⟩
   have hc:nE cs lim r bs E=ce:=by
    unfold nE
    rw[if_neg hbig,hce]
    by_cases h9:cs.length<9
    ·rw[if_pos h9,if_pos h9]
    ·rw[if_neg h9,if_neg h9]
     rcases Jl with h|h
     ·exact absurd h h9
     ·rw[if_pos h]
   have Jm:ce≠0:=by
    rw[hce]
    split
    ·decide
    ·next h =>
     rcases Jl with h' | h'
     ·exact absurd h' h
     ·exact h'
   have t2:((ce:Int) != 0)=true:=by rw[bne_iff_ne];omega
   rw[hc]
   have HCE:=ah Jm
   by_cases h9:cs.length<9
   ·rw[if_pos h9] at hce
    subst hce
    have t1:decide ((cs.length:Int)<9)=true:=decide_eq_true (by omega)
    clear hp hcs hQ rE uV rT hc k0 hb0 yF Jm Jl
    unfold cu at hHd
    generalize hnn:cs.length=n at *
    clear hnn
    go_enter Tryz.func34,Tryz.ntmps34
    go_wp2_with fail
    refine hHd.mono ?_
    clear hHd
    rintro e w1 ⟨rfl,hk1⟩
    have k1:=l8.out.trans hk1 (fun _ _ h=>h)
    have k2:=k1.alloc (.cells #[.bool ft,.bool fp,.bool fl] 35)
    have hb2:=((Keeps.refl (fun _=>False) w1).alloc (.cells #[.bool ft,.bool fp,.bool fl] 35)).at (hk1.at HP.out.2.2.1 (fun h=>h)) (fun h=>h)
    obtain⟨d0,d1,d2,df⟩:=AO hb2
    have HR:=ah (aj (Jj hb2 false false false) (Jk k2 (Nat.le_refl _) (.bool false) (.bool false) (.bool false)))
    clear hk1 hb2 k1 k2
    go_wp2_with fail
    obtain⟨⟨r0,r1,r2⟩,pQ⟩:=HR.out
    refine bodyPost_ret (v:=.tuple #[.pointer none,.agg #[.bool false,.bool false,.bool false],.int .i64 (3:Nat)]) (by simp[results,Tryz.results34,go_sem,r0,r1,r2]) rfl ?_
    exact⟨pQ,.inr ⟨HCE.out,rfl⟩⟩
   ·rw[if_neg h9] at hce
    have t1:decide ((cs.length:Int)<9)=false:=decide_eq_false (by omega)
    rw[← hce] at hHd
    clear hp hcs hQ rE uV rT hc k0 hb0 yF Jm Jl hce
    unfold cu at hHd
    generalize hnn:cs.length=n at *
    clear hnn
    go_enter Tryz.func34,Tryz.ntmps34
    go_wp2_with fail
    refine hHd.mono ?_
    clear hHd
    rintro e w1 ⟨rfl,hk1⟩
    have k1:=l8.out.trans hk1 (fun _ _ h=>h)
    have k2:=k1.alloc (.cells #[.bool ft,.bool fp,.bool fl] 35)
    have hb2:=((Keeps.refl (fun _=>False) w1).alloc (.cells #[.bool ft,.bool fp,.bool fl] 35)).at (hk1.at HP.out.2.2.1 (fun h=>h)) (fun h=>h)
    obtain⟨d0,d1,d2,df⟩:=AO hb2
    have HR:=ah (aj (Jj hb2 false false false) (Jk k2 (Nat.le_refl _) (.bool false) (.bool false) (.bool false)))
    clear hk1 hb2 k1 k2
    go_wp2_with fail
    obtain⟨⟨r0,r1,r2⟩,pQ⟩:=HR.out
    refine bodyPost_ret (v:=.tuple #[.pointer none,.agg #[.bool false,.bool false,.bool false],.int .i64 (ce:Nat)]) (by simp[results,Tryz.results34,go_sem,r0,r1,r2]) rfl ?_
    exact⟨pQ,.inr ⟨HCE.out,rfl⟩⟩
  ·
   have h9:9≤cs.length:=by
    rcases Nat.lt_or_ge cs.length 9 with h|h
    ·exact absurd (.inl h) Jl
    ·exact h
   have hh0:gK cs=0:=by
    by_cases h:gK cs=0
    ·exact h
    ·exact absurd (.inr h) Jl
   have t1:decide ((cs.length:Int)<9)=false:=decide_eq_false (by omega)
   rw[hh0] at hHd
   obtain⟨pa',pc',hv,-,-,-,hc⟩:=id hp
   simp only [Value.slice.injEq] at hv
   obtain⟨rfl,-,rfl⟩:=hv
   obtain⟨y,hy⟩:∃ y,cs[0]? = some y:=⟨_,List.getElem?_eq_getElem (by omega)⟩
   obtain⟨g,off,rfl,hcell⟩:=hc 0 (y:Int) (by simp[aB,hy])
   have hgw:g<w.heap.size:=World.block_lt_of_cell? _ _ hcell
   obtain⟨m,hm⟩:∃ m,m=cs.length - 4:=⟨_,rfl⟩
   have JO:(cs.length:Int) - 4=(m:Int):=by omega
   have hnm:cs.length - m=4:=by omega
   have hown:jR cs=cs.take m:=by unfold jR;rw[hm]
   obtain⟨x,hx,hx4⟩:=qmr (cs.drop m) (by rw[List.length_drop];omega) (fun x hx=>hcs x (List.mem_of_mem_drop hx))
   have AP:∀ x ∈ jR cs,x<256:=fun x hx=>hcs x (List.mem_of_mem_take (by rw[hown] at hx;exact hx))
   have hcv:=XC AP
   have hdec:nE cs lim r bs E=if x≠iW (jR cs) then 11 else if r=false∨bs≠cs then 10 else if max lim 0<E then 12 else 0:=by
    unfold nE
    rw[if_neg hbig,if_neg (by omega),if_neg (by rw[hh0];simp),← hm,hx4]
    by_cases he:x=iW (jR cs)
    ·rw[if_neg (show ¬ four x≠four (iW (jR cs)) from fun h=>h (by rw[he])),if_neg (show ¬ x≠iW (jR cs) from fun h=>h he)]
    ·rw[if_pos (fun h=>he (qms hx hcv h)),if_pos he]
   have htl:=fun W (hW:Keeps (fun _=>False) w W)=>(hp.keeps hW (fun _ _ h=>h)).oL m (by omega)
   rw[hnm,hx4] at htl
   have hsub:=fun W (hW:Keeps (fun _=>False) w W)=>(hp.keeps hW (fun _ _ h=>h)).take m (by rw[q01];omega)
   rw[show (aB cs).take m=aB (jR cs) by rw[hown];simp[aB]] at hsub
   have hol:(jR cs).length=m:=by rw[hown,List.length_take];omega
   have PN:=fun W (hW:Keeps (fun _=>False) w W)=>qhk _ x W (htl W hW) hx
   have PO:=fun W (hW:Keeps (fun _=>False) w W)=>qdk _ (jR cs) W (hsub W hW) (fun q hq=>by
    simp only [Value.ownBlock,Option.some.injEq] at hq
    have:=hW.size
    omega) AP (by omega)
   have hs3:=fun W (hW:Keeps (fun _=>False) w W)=>(hsub W hW).oL 3 (by omega)
   obtain⟨C,hC⟩:∃ C,C=nE cs lim r bs E:=⟨_,rfl⟩
   rw[← hC] at hdec ⊢
   have HC:=ah hdec
   clear hC
   have HX:=ah (aj PN (aj PO (aj hs3 (aj hx (aj hcv hol)))))
   have HG:=ah hgw
   clear hp hcs hQ rE uV rT k0 hb0 yF Jl hdec hc hy hcell hgw hm hown hx4 AP htl hsub PN PO hs3 hx hcv hh0
   unfold cu at hHd
   generalize hnn:cs.length=n at *
   have Y6:5≤m:=by omega
   have HN:=ah (aj hnn hol)
   clear hnn hol
   go_enter Tryz.func34,Tryz.ntmps34
   go_wp2_with fail
   refine hHd.mono ?_
   clear hHd
   rintro e w1 ⟨rfl,hk1⟩
   have k1:=l8.out.trans hk1 (fun _ _ h=>h)
   have k2:=k1.alloc (.cells #[.bool ft,.bool fp,.bool fl] 35)
   have PN:=HX.out.1 _ k2
   have PO:=fun W hW=>HX.out.2.1 W (k2.trans hW (fun _ _ h=>h))
   have hb2:=((Keeps.refl (fun _=>False) w1).alloc (.cells #[.bool ft,.bool fp,.bool fl] 35)).at (hk1.at HP.out.2.2.1 (fun h=>h)) (fun h=>h)
   have JE:=heap_alloc_new w1 (.cells #[.bool ft,.bool fp,.bool fl] 35)
   have H2:=ah (aj k2 (aj hb2 (aj JE (aj PO (show w.heap.size<w1.heap.size from lt_of_block (hk1.at HP.out.2.2.1 (fun h=>h)))))))
   clear hk1 k1 k2 hb2 JE PO
   have alI:m≤pc:=by omega
   have alJ:¬ pc=m:=by omega
   have hnb:n≤2097152:=by omega
   go_wp2_with fail
   refine PN.mono ?_
   clear PN
   rintro e w3 ⟨rfl,hk3⟩
   have PU:=H2.out.2.2.2.1 w3 hk3
   have H3:=ah hk3
   clear hk3
   go_wp2_with fail
   refine PU.mono ?_
   clear PU
   rintro e w4 ⟨rfl,hk4⟩
   have H4:Hid (Keeps (fun _=>False) w w4∧w4.heap[w.heap.size]? = some (.cells #[.bool false,.bool false,.bool false] 35 (0,0))∧w4.heap[w1.heap.size]? = some (.cells #[.bool ft,.bool fp,.bool fl] 35 (0,0))):=ah ⟨H2.out.1.trans (H3.out.trans hk4 (fun _ _ h=>h)) (fun _ _ h=>h),hk4.at (H3.out.at H2.out.2.1 (fun h=>h)) (fun h=>h),hk4.at (H3.out.at H2.out.2.2.1 (fun h=>h)) (fun h=>h)⟩
   clear hk4
   obtain⟨vs,hvs⟩:∃ vs,vs=iW (jR cs):=⟨_,rfl⟩
   rw[← hvs]
   by_cases hsum:x=vs
   rotate_left
   ·have nP:Hid (C=11):=ah (by rw[HC.out,if_pos (by rw[← hvs];exact hsum)])
    have t3:((x:Int) != (vs:Int))=true:=by rw[bne_iff_ne];omega
    obtain⟨d0,d1,d2,df⟩:=AO H4.out.2.1
    have HR:=ah (aj (Jj H4.out.2.1 false false false) (Jk H4.out.1 (Nat.le_refl _) (.bool false) (.bool false) (.bool false)))
    clear hvs hsum
    go_wp2_with fail
    obtain⟨⟨r0,r1,r2⟩,pQ⟩:=HR.out
    refine bodyPost_ret (v:=.tuple #[.pointer none,.agg #[.bool false,.bool false,.bool false],.int .i64 (11:Nat)]) (by simp[results,Tryz.results34,go_sem,r0,r1,r2]) rfl ?_
    rw[nP.out]
    exact⟨pQ,.inr ⟨by decide,rfl⟩⟩
   ·have rR:Hid (C=if r=false∨bs≠cs then 10 else if max lim 0<E then 12 else 0):=ah (by rw[HC.out,if_neg (by rw[← hvs];exact fun h=>h hsum)])
    subst hsum
    clear hvs
    have t3:((x:Int) != (x:Int))=false:=by simp
    have yU:(3:Int)≤(m:Int):=by omega
    have alK:¬ pc=3:=by omega
    obtain⟨e0,e1,e2,ef⟩:=AO H4.out.2.2
    have Tj:Hid (∀ W,Keeps (fun _=>False) w4 W→W.cell? ⟨w1.heap.size,0,none⟩=some (.bool ft)∧W.cell? ⟨w1.heap.size,1,none⟩=some (.bool fp)∧W.cell? ⟨w1.heap.size,2,none⟩=some (.bool fl)):=ah (fun W hW=>by
     obtain⟨h1,h2,h3,_⟩:=AO (hW.at H4.out.2.2 (fun h=>h))
     exact⟨h1,h2,h3⟩)
    go_wp2_with fail
    clear e0 e1 e2 ef
    go_region_held3 (fun w'=>w'.cell? ⟨w1.heap.size,0,none⟩=some (.bool ft)∧w'.cell? ⟨w1.heap.size,1,none⟩=some (.bool fp)∧w'.cell? ⟨w1.heap.size,2,none⟩=some (.bool fl)) (first|exact Tj.out _ (Keeps.refl _ _)|exact Tj.out _ (Keeps.refl (fun _=>False) w4).drew|exact Tj.out _ (((Keeps.refl (fun _=>False) w4).alloc _).drew)|exact Tj.out _ ((Keeps.refl (fun _=>False) w4).alloc _)) (fail)
    all_goals
     have hrb:=heap_alloc_new w4 (.cells #[.bool ft,.bool fp,.bool fl,.slice (some ⟨g,off+3,none⟩) (m - 3) (pc - 3),.slice none 0 0,.bool true] 134)
     obtain⟨W8,Bo⟩:∃ W8,W8=(w4.alloc (.cells #[.bool ft,.bool fp,.bool fl,.slice (some ⟨g,off+3,none⟩) (m - 3) (pc - 3),.slice none 0 0,.bool true] 134)).drew:=⟨_,rfl⟩
     rw[← Bo]
     have Yj:Keeps (fun _=>False) w4 W8:=by rw[Bo];exact ((Keeps.refl (fun _=>False) w4).alloc _).drew
     have PV:kL W8 w4.heap.size ft fp fl (.slice (some ⟨g,off+3,none⟩) (m - 3) (pc - 3)) (.slice none 0 0) true:=by rw[Bo];exact hrb
     have hs8:w4.heap.size<W8.heap.size:=by rw[Bo];simp
     have k8:=H4.out.1.trans Yj (fun _ _ h=>h)
     have rE:=HQ.out.2.1 (by omega) ft fp fl HP.out.2.2.2.2 W8 w4.heap.size (.slice (some ⟨g,off+3,none⟩) (m - 3) (pc - 3)) k8 H4.out.1.size PV (by
      simp only [Value.ownBlock,ne_eq,Option.some.injEq]
      have:=HG.out
      have:=H4.out.1.size
      omega) (HX.out.2.2.1 W8 k8)
     have H8:=ah (aj k8 (aj hs8 Yj))
     have h14:w1.heap.size<w4.heap.size:=lt_of_block H4.out.2.2
     have Ja:=ah h14
     clear hrb Bo Yj PV hs8 k8 h14
     go_wp2_with fail
     refine rE.mono ?_
     clear rE
     rintro e w9 ⟨v9,rfl,Yk,pY⟩
     have PW:Hid (Keeps (fun _=>False) w w9∧w9.heap[w.heap.size]? = some (.cells #[.bool false,.bool false,.bool false] 35 (0,0))∧w9.heap[w1.heap.size]? = some (.cells #[.bool ft,.bool fp,.bool fl] 35 (0,0))):=ah ⟨H8.out.1.trans pY (fun q hq e=>by have:=H4.out.1.size;omega),pY.at (H8.out.2.2.at H4.out.2.1 (fun h=>h)) (fun e=>by have:=Ja.out;have:=H2.out.2.2.2.2;omega),pY.at (H8.out.2.2.at H4.out.2.2 (fun h=>h)) (fun e=>by have:=Ja.out;omega)⟩
     clear pY
     by_cases hr:r=false
     ·have nP:Hid (C=10):=ah (by rw[rR.out,if_pos (.inl hr)])
      subst hr
      clear Yk
      have HB:=PW
      have HR:=ah (aj (Jj HB.out.2.1 false false false) (Jk HB.out.1 (Nat.le_refl _) (.bool false) (.bool false) (.bool false)))
      obtain⟨d0,d1,d2,df⟩:=AO HB.out.2.1
      go_wp2_with fail
      obtain⟨⟨r0,r1,r2⟩,pQ⟩:=HR.out
      refine bodyPost_ret (v:=.tuple #[.pointer none,.agg #[.bool false,.bool false,.bool false],.int .i64 (10:Nat)]) (by simp[results,Tryz.results34,go_sem,r0,r1,r2]) rfl ?_
      rw[nP.out]
      exact⟨pQ,.inr ⟨by decide,rfl⟩⟩
     ·obtain rfl:r=true:=by cases r <;> simp_all
      obtain⟨b,rfl,hQ9,hb9⟩:=Yk rfl
      have uV:=HQ.out.2.2.1 rfl ft fp fl HP.out.2.2.2.2 b w9 hQ9 (by have:=H8.out.1.size;omega)
      have SC:=ah hb9
      clear Yk hQ9 hb9 hr
      obtain⟨d0,d1,d2,df⟩:=AO PW.out.2.2
      unfold cu at uV
      go_wp2_with fail
      refine uV.mono ?_
      clear uV
      rintro e wQ ⟨v10,c10,rfl,hs10,PX,hk10⟩
      have rH:Hid (Keeps (fun _=>False) w wQ∧wQ.heap[w.heap.size]? = some (.cells #[.bool false,.bool false,.bool false] 35 (0,0))∧wQ.heap[w1.heap.size]? = some (.cells #[.bool ft,.bool fp,.bool fl] 35 (0,0))∧(bs=cs→Q b wQ)):=ah ⟨PW.out.1.trans hk10 (fun q hq e=>by have:=SC.out;have:=H8.out.1.size;omega),hk10.at PW.out.2.1 (fun e=>by have:=SC.out;have:=H8.out.2.1;have:=Ja.out;have:=H2.out.2.2.2.2;omega),hk10.at PW.out.2.2 (fun e=>by have:=SC.out;have:=H8.out.2.1;have:=Ja.out;omega),PX⟩
      have hEq:=Xa v10 (.slice (some ⟨g,off,none⟩) n pc) bs cs wQ hs10 (by
       exact HP.out.1.keeps rH.out.1 (fun _ _ h=>h)) hbs HP.out.2.1
      clear hs10 PX hk10 d0 d1 d2 df
      go_wp2_with fail
      refine hEq.mono ?_
      clear hEq
      rintro e Yl ⟨rfl,rfl⟩
      by_cases hbc:bs=cs
      rotate_left
      ·have nP:Hid (C=10):=ah (by rw[rR.out,if_pos (.inr hbc)])
       rw[decide_eq_false hbc]
       have HB:=rH
       have HR:=ah (aj (Jj HB.out.2.1 false false false) (Jk HB.out.1 (Nat.le_refl _) (.bool false) (.bool false) (.bool false)))
       obtain⟨d0,d1,d2,df⟩:=AO HB.out.2.1
       go_wp2_with fail
       obtain⟨⟨r0,r1,r2⟩,pQ⟩:=HR.out
       refine bodyPost_ret (v:=.tuple #[.pointer none,.agg #[.bool false,.bool false,.bool false],.int .i64 (10:Nat)]) (by simp[results,Tryz.results34,go_sem,r0,r1,r2]) rfl ?_
       rw[nP.out]
       exact⟨pQ,.inr ⟨by decide,rfl⟩⟩
      ·have Ym:Hid (C=if max lim 0<E then 12 else 0):=ah (by rw[rR.out,if_neg (by rintro (h|h);cases h;exact h hbc)])
       rw[decide_eq_true hbc]
       have rT:=HQ.out.2.2.2 (by first|rfl|trivial) hbc b wQ (rH.out.2.2.2 hbc)
       have HBC:=ah hbc
       clear hbc
       go_wp2_with fail
       refine rT.mono ?_
       clear rT
       rintro e Yl ⟨rfl,rfl⟩
       have hmx:∀ W,(Builtin.max_ #[3,3] 3 #[.int .i64 lim,.int .i64 0]).run Tryz.prog W=.ok (.int .i64 (max lim 0)) W:=fun W=>by
        have h5:(Builtin.max_ #[3,3] 3 #[.int .i64 lim,.int .i64 0]).run Tryz.prog W=.ok (.int .i64 (if lim<0 then 0 else lim)) W:=rfl
        rw[h5]
        congr 2
        split <;> omega
       obtain⟨ML,Nv⟩:∃ ML,ML=max lim 0:=⟨_,rfl⟩
       rw[← Nv] at hmx Ym
       clear Nv
       by_cases Tm:ML<E
       ·have nP:Hid (C=12):=ah (by rw[Ym.out,if_pos Tm])
        have t5:decide (ML<(E:Int))=true:=decide_eq_true Tm
        have HB:=rH
        have HR:=ah (aj (Jj HB.out.2.1 false false false) (Jk HB.out.1 (Nat.le_refl _) (.bool false) (.bool false) (.bool false)))
        obtain⟨d0,d1,d2,df⟩:=AO HB.out.2.1
        go_wp2_with fail
        obtain⟨⟨r0,r1,r2⟩,pQ⟩:=HR.out
        refine bodyPost_ret (v:=.tuple #[.pointer none,.agg #[.bool false,.bool false,.bool false],.int .i64 (12:Nat)]) (by simp[results,Tryz.results34,go_sem,r0,r1,r2]) rfl ?_
        rw[nP.out]
        exact⟨pQ,.inr ⟨by decide,rfl⟩⟩
       ·have nP:Hid (C=0):=ah (by rw[Ym.out,if_neg Tm])
        have t5:decide (ML<(E:Int))=false:=decide_eq_false Tm
        have hR:=Jj rH.out.2.1 ft fp fl
        have hKF:=Jk rH.out.1 (Nat.le_refl _) (.bool ft) (.bool fp) (.bool fl)
        have Tn:=fun W hW=>HQ.out.1 HBC.out b wQ W (rH.out.2.2.2 HBC.out) ((((((Keeps.refl (fun k=>k=w.heap.size) wQ).setCell (p:=⟨w.heap.size,0,none⟩) (.inl rfl) (.bool ft)).setCell (p:=⟨w.heap.size,1,none⟩) (.inl rfl) (.bool fp)).setCell (p:=⟨w.heap.size,2,none⟩) (.inl rfl) (.bool fl)).trans hW (fun _ _ h=>h)))
        obtain⟨d0,d1,d2,df⟩:=AO rH.out.2.1
        obtain⟨e0,e1,e2,ef⟩:=AO rH.out.2.2.1
        have HR:=ah (aj hR (aj hKF Tn))
        clear hR hKF Tn
        go_wp2_with fail
        go_region
        all_goals
         obtain⟨⟨r0,r1,r2⟩,pQ,Tn⟩:=HR.out
         go_wp2_with fail
         refine bodyPost_ret (v:=.tuple #[.pointer (some ⟨b,0,none⟩),.agg #[.bool ft,.bool fp,.bool fl],.int .i64 (0:Nat)]) (by simp[results,Tryz.results34,go_sem,r0,r1,r2]) rfl ?_
         rw[nP.out]
         refine⟨pQ.drew,.inl ⟨rfl,b,?_,Tn _ (Keeps.refl _ _).drew⟩⟩
         rw[HP.out.2.2.2.2]
         rfl
end
