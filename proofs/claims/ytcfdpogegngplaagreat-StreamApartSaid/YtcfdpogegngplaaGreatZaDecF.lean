import Derived.Test.YtcfdpogegngplaaGreatZaHead
import Derived.Test.YtcfdpogegngplaaGreatZaPack
import Derived.Test.YtcfdpogegngplaaGreatZaFileP
import Derived.Deep.RegionHeld3
import Derived.BigQuiet
import Derived.Test.YtcfdpogegngplaaGreatZaGetNum
set_option maxRecDepth 100000
set_option maxHeartbeats 4000000
namespace Go.Proofs.YtcfdpogegngplaaGreat
section
open Go.RowKit
theorem qkw {cs:List Nat} {x u:Nat} (h:getN cs 0 0=some (x,u)):1≤u:=by
 cases cs with
 | nil=>cases h
 | cons b cs =>
  rw[qce] at h
  split at h
  ·cases h
  ·next hn =>
   split at h
   ·cases h;omega
   ·exact (qca cs 1 _ x u h (by
     have:b % 128<128:=Nat.mod_lt _ (by decide)
     simp;omega) (by simp;omega)).2.1
def RdF (W:World) (br:Nat) (t p l:Bool) (pv sv:Value) (ok:Bool):Prop:=W.heap[br]? = some (.cells #[.bool t,.bool p,.bool l,pv,sv,.bool ok] 134 (0,0))
theorem RdF.keeps {W W':World} {br:Nat} {t p l:Bool} {pv sv:Value} {ok:Bool} {G:Nat→Prop} (h:RdF W br t p l pv sv ok) (k:Keeps G W W') (hG:¬ G br):RdF W' br t p l pv sv ok:=k.at h hG
def qi7 (w:World) (br:Nat) (t p l ok:Bool) (pv sv:Value) (o:Option (Nat × List Nat)) (e:Ending) (w':World):Prop :=
 (∃ x cs' pv',ok=true∧o=some (x,cs')∧e=.returned (.int .i64 (x:Nat))∧RdF w' br t p l pv' sv true∧(∀ q,pv'.ownBlock=some q→pv.ownBlock=some q)∧Sl .u8 w' pv' (nats cs')∧Keeps (fun k=>k=br) w w') ∨
 ((ok=false∨o=none)∧e=.returned (.int .i64 0)∧RdF w' br t p l pv sv false∧Keeps (fun k=>k=br) w w')
theorem q5o (br:Nat) (t p l ok:Bool) (pv sv:Value) (cs:List Nat) (most:Nat) (w:World) (hR:RdF w br t p l pv sv ok) (hpb:pv.ownBlock≠some br) (hp:Sl .u8 w pv (nats cs)) (hcs:∀ x ∈ cs,x<256) (hl:cs.length≤10000000) (hm:most≤1000000) :
  Calls Tryz.prog 122 #[.pointer (some ⟨br,0,none⟩),.int .i64 most] w (qi7 w br t p l ok pv sv (numV cs most)):=by
 have hnot:∀ (x:Bool) (w:World),(Op.unary .not (.bool x)).run Tryz.prog w=.ok (.bool (!x)) w:=fun _ _=>rfl
 obtain⟨pa,pc,rfl,hpc,hpm⟩:=hp.formY
 have hG:=qa3 _ cs w hp hcs
 have c3:w.cell? ⟨br,3,none⟩=some (.slice pa cs.length pc):=World.cell_of_heap hR 3
 have HR:=Lib.hid (And.intro hR hp)
 cases hg:getN cs 0 0 with
 | none =>
  rw[hg] at hG
  unfold gotN at hG
  simp only at hG
  have HN:Hid (numV cs most=none):=Lib.hid (by unfold numV;rw[hg])
  clear hR hp hcs hg
  generalize cs.length=n at *
  go_enter Tryz.func122,Tryz.ntmps122
  go_wp2_with fail
  refine hG.mono ?_
  clear hG
  rintro e w1 ⟨rfl,hk1⟩
  have h1:=HR.out.1.keeps hk1 (fun h=>h)
  have d5:w1.cell? ⟨br,5,none⟩=some (.bool ok):=World.cell_of_heap h1 5
  have df:=World.free_of_heap h1
  have h2:=q00 h1 5 (.bool false)
  have HF:Hid (RdF (w1.setCell ⟨br,5,none⟩ (.bool false)) br t p l (.slice pa n pc) sv false∧Keeps (fun k=>k=br) w (w1.setCell ⟨br,5,none⟩ (.bool false))):=Lib.hid ⟨by simpa [RdF] using h2,(hk1.mono (fun _ _ h=>h.elim):Keeps (fun k=>k=br) w w1).setCell (p:=⟨br,5,none⟩) (.inl rfl) _⟩
  clear h1 h2 hk1 c3
  cases ok
  all_goals
   go_wp2_with fail
   go_ret
   exact .inr ⟨.inr HN.out,rfl,HF.out⟩
 | some xu =>
  obtain⟨x,u⟩:=xu
  rw[hg] at hG
  unfold gotN at hG
  simp only at hG
  obtain⟨hx64,hu⟩:=qix hg
  by_cases hok:ok=true∧x≤most
  rotate_left
  ·have HN:Hid (ok=false∨numV cs most=none):=Lib.hid (by
    by_cases h1:ok=true
    ·right;unfold numV;rw[hg];simp only;rw[if_neg (fun h2=>hok ⟨h1,h2⟩)]
    ·left;simpa using h1)
   have t1:ok=true→decide ((most:Int)<(x:Int))=true∧decide (most<x)=true:=fun h=>⟨decide_eq_true (by
    have:¬ x≤most:=fun h2=>hok ⟨h,h2⟩
    omega),decide_eq_true (by
    have:¬ x≤most:=fun h2=>hok ⟨h,h2⟩
    omega)⟩
   clear hR hp hcs hg
   generalize cs.length=n at *
   go_enter Tryz.func122,Tryz.ntmps122
   go_wp2_with fail
   refine hG.mono ?_
   clear hG
   rintro e w1 ⟨rfl,hk1⟩
   have h1:=HR.out.1.keeps hk1 (fun h=>h)
   have d5:w1.cell? ⟨br,5,none⟩=some (.bool ok):=World.cell_of_heap h1 5
   have df:=World.free_of_heap h1
   have h2:=q00 h1 5 (.bool false)
   have HF:Hid (RdF (w1.setCell ⟨br,5,none⟩ (.bool false)) br t p l (.slice pa n pc) sv false∧Keeps (fun k=>k=br) w (w1.setCell ⟨br,5,none⟩ (.bool false))):=Lib.hid ⟨by simpa [RdF] using h2,(hk1.mono (fun _ _ h=>h.elim):Keeps (fun k=>k=br) w w1).setCell (p:=⟨br,5,none⟩) (.inl rfl) _⟩
   clear h1 h2 hk1 c3
   cases ok
   ·go_wp2_with fail
    go_ret
    exact .inr ⟨.inl rfl,rfl,HF.out⟩
   ·obtain⟨t2,t3⟩:=t1 rfl
    clear t1
    go_wp2_with fail
    go_ret
    exact .inr ⟨HN.out,rfl,HF.out⟩
  ·obtain⟨rfl,hxm⟩:=hok
   have HN:Hid (numV cs most=some (x,cs.drop u)):=Lib.hid (by unfold numV;rw[hg];simp only;rw[if_pos hxm])
   have t1:decide ((most:Int)<(x:Int))=false:=decide_eq_false (by omega)
   have hxb:x≤1000000:=by omega
   have hcl:cs.length=(cs.drop u).length+u:=by rw[List.length_drop];omega
   have h1u:1≤u:=qkw hg
   obtain⟨pa',pc',hv,-,-,-,hc⟩:=id hp
   simp only [Value.slice.injEq] at hv
   obtain⟨rfl,-,rfl⟩:=hv
   obtain⟨y,hy⟩:∃ y,cs[0]? = some y:=⟨_,List.getElem?_eq_getElem (by omega)⟩
   obtain⟨g,off,rfl,-⟩:=hc 0 (y:Int) (by simp[nats,hy])
   have ht:=fun W (hW:Keeps (fun k=>k=br) w W)=>(hp.keeps hW (fun q hq e=>hpb (by rw[hq,e]))).tailY u hu
   have HT:=Lib.hid ht
   have HP:=Lib.hid hpb
   have HU:=Lib.hid hu
   generalize hn:cs.length=n at *
   have HNN:=Lib.hid hn
   clear hn hR hp hcs hg hx64 hc hy ht hpb hcl
   go_enter Tryz.func122,Tryz.ntmps122
   go_wp2_with fail
   refine hG.mono ?_
   clear hG
   rintro e w1 ⟨rfl,hk1⟩
   have h1:=HR.out.1.keeps hk1 (fun h=>h)
   have d5:w1.cell? ⟨br,5,none⟩=some (.bool true):=World.cell_of_heap h1 5
   have d3:w1.cell? ⟨br,3,none⟩=some _:=World.cell_of_heap h1 3
   have df:=World.free_of_heap h1
   have HB:=Lib.hid (And.intro h1 hk1)
   clear h1 hk1 c3
   have hfin:∀ pv',RdF (w1.setCell ⟨br,3,none⟩ pv') br t p l pv' sv true∧Keeps (fun k=>k=br) w (w1.setCell ⟨br,3,none⟩ pv'):=fun pv'=>by
    have h2:=q00 HB.out.1 3 pv'
    exact⟨by simpa [RdF] using h2,(HB.out.2.mono (fun _ _ h=>h.elim):Keeps (fun k=>k=br) w w1).setCell (p:=⟨br,3,none⟩) (.inl rfl) _⟩
   have HF:=Lib.hid hfin
   clear hfin
   go_wp2_with fail
   ·refine bodyPost_ret (v:=.int .i64 x) (by simp[results,Tryz.results122,go_sem]) rfl ?_
    have hnu:n - u=0:=by omega
    rw[hnu]
    obtain⟨f1,f2⟩:=HF.out (.slice (some ⟨g,off,none⟩) 0 0)
    refine .inl ⟨x,cs.drop u,.slice (some ⟨g,off,none⟩) 0 0,rfl,HN.out,rfl,f1,fun q hq=>by simpa [Value.ownBlock] using hq,?_,f2⟩
    rw[List.drop_of_length_le (by rw[HNN.out];omega)]
    exact Sl.emptyY _ _
   ·refine bodyPost_ret (v:=.int .i64 x) (by simp[results,Tryz.results122,go_sem]) rfl ?_
    obtain⟨f1,f2⟩:=HF.out (.slice (some ⟨g,off+u,none⟩) (n - u) (pc - u))
    exact .inl ⟨x,cs.drop u,.slice (some ⟨g,off+u,none⟩) (n - u) (pc - u),rfl,HN.out,rfl,f1,fun q hq=>by simpa [Value.ownBlock] using hq,HT.out _ f2,f2⟩
end
section
open Go.RowKit
theorem qkx (l:List Nat) (h:l.length=4) (hl:∀ x ∈ l,x<256):∃ x,x<4294967296∧l=four x:=by
 match l,h with
 | [a,b,c,d],_ =>
  have ha:=hl a (by simp);have hb:=hl b (by simp);have hc:=hl c (by simp);have hd:=hl d (by simp)
  refine⟨a+256 * b+65536 * c+16777216 * d,by omega,?_⟩
  unfold four
  congr 1
  ·omega
  congr 1
  ·omega
  congr 1
  ·omega
  congr 1
  omega
theorem qky {x y:Nat} (hx:x<4294967296) (hy:y<4294967296) (h:four x=four y):x=y:=by
 unfold four at h
 simp only [List.cons.injEq,and_true] at h
 omega
theorem q1u {W:World} {g:Nat} {a b c:Bool} {T:TypeId} (h:W.heap[g]? = some (.cells #[.bool a,.bool b,.bool c] T (0,0))) :
  W.cell? ⟨g,0,none⟩=some (.bool a)∧W.cell? ⟨g,1,none⟩=some (.bool b)∧W.cell? ⟨g,2,none⟩=some (.bool c)∧∀ i,W.frozen? ⟨g,i,none⟩=false :=
 ⟨World.cell_of_heap h 0,World.cell_of_heap h 1,World.cell_of_heap h 2,World.free_of_heap h⟩
theorem q2s {W:World} {g:Nat} {a b c:Bool} {T:TypeId} (h:W.heap[g]? = some (.cells #[.bool a,.bool b,.bool c] T (0,0))) (x y z:Bool) :
  (W.setCell ⟨g,0,none⟩ (.bool x)).cell? ⟨g,0,none⟩=some (.bool x)∧((W.setCell ⟨g,0,none⟩ (.bool x)).setCell ⟨g,1,none⟩ (.bool y)).cell? ⟨g,1,none⟩=some (.bool y) ∧
  (((W.setCell ⟨g,0,none⟩ (.bool x)).setCell ⟨g,1,none⟩ (.bool y)).setCell ⟨g,2,none⟩ (.bool z)).cell? ⟨g,2,none⟩=some (.bool z):=by
 have g0:=q00 h 0 (.bool x)
 have g1:=q00 g0 1 (.bool y)
 have g2:=q00 g1 2 (.bool z)
 exact⟨World.cell_of_heap g0 0,World.cell_of_heap g1 1,World.cell_of_heap g2 2⟩
theorem q3k {w W:World} {g:Nat} (h:Keeps (fun _=>False) w W) (hg:w.heap.size≤g) (x y z:Value):Keeps (fun _=>False) w (((W.setCell ⟨g,0,none⟩ x).setCell ⟨g,1,none⟩ y).setCell ⟨g,2,none⟩ z) :=
 ((h.setCell (p:=⟨g,0,none⟩) (.inr hg) x).setCell (p:=⟨g,1,none⟩) (.inr hg) y).setCell (p:=⟨g,2,none⟩) (.inr hg) z
theorem qi8 (cs:List Nat):∃ t p l:Bool,headV cs=optV t p l:=by
 unfold headV optV
 split
 ·exact⟨_,_,_,rfl⟩
 ·exact⟨_,_,_,rfl⟩
def ownF (cs:List Nat):List Nat:=cs.take (cs.length - 4)
open Classical in
noncomputable def decC (cs:List Nat) (lim:Int) (r:Bool) (bs:List Nat) (E:Nat):Nat :=
 if 2097152<cs.length then 6 else if cs.length<9 then 3 else if headC cs≠0 then headC cs else if cs.drop (cs.length - 4)≠four (crcV (ownF cs)) then 11 else if r=false∨bs≠cs then 10 else if max lim 0<E then 12 else 0
def qar (w:World) (Q:Nat→World→Prop) (cs:List Nat) (c:Nat) (e:Ending) (w':World):Prop :=
 Keeps (fun _=>False) w w'∧((c=0∧∃ b,e=.returned (.tuple #[.pointer (some ⟨b,0,none⟩),headV cs,.int .i64 0])∧Q b w')∨(c≠0∧e=.returned (.tuple #[.pointer none,optV false false false,.int .i64 (c:Nat)])))
theorem q4s (pv:Value) (cs:List Nat) (lim:Int) (w:World) (Q:Nat→World→Prop) (r:Bool) (bs:List Nat) (E:Nat) (hp:Sl .u8 w pv (nats cs)) (hcs:∀ x ∈ cs,x<256) (hl:cs.length≤2097153) (hlim:-9223372036854775808≤lim∧lim≤9223372036854775807) (hbs:∀ x ∈ bs,x<256)
  (hQ:bs=cs→∀ b W W',Q b W→Keeps (fun k=>k=w.heap.size) W W'→Q b W')
  (hRd:9≤cs.length→∀ t p l,headV cs=optV t p l→∀ W br pv',Keeps (fun _=>False) w W→w.heap.size≤br→RdF W br t p l pv' (.slice none 0 0) true→pv'.ownBlock≠some br→Sl .u8 W pv' (nats ((ownF cs).drop 3)) →
   Calls Tryz.prog 78 #[.pointer (some ⟨br,0,none⟩)] W fun e w'=>∃ v,e=.returned (.tuple #[v,.bool r])∧(r=true→∃ b,v=.pointer (some ⟨b,0,none⟩)∧Q b w'∧W.heap.size≤b)∧Keeps (fun k=>k=br) W w')
  (hEn:r=true→∀ t p l,headV cs=optV t p l→∀ b W,Q b W→w.heap.size≤b→Calls Tryz.prog 17 #[.pointer (some ⟨b,0,none⟩),optV t p l] W fun e w'=>∃ v c,e=.returned (.tuple #[v,.int .i64 c])∧Sl .u8 w' v (nats bs)∧(bs=cs→Q b w')∧Keeps (fun k=>k=b) W w')
  (hEd:r=true→bs=cs→∀ b W,Q b W→Calls Tryz.prog 25 #[.pointer (some ⟨b,0,none⟩)] W fun e w'=>e=.returned (.int .i64 (E:Nat))∧W=w') :
  Calls Tryz.prog 34 #[pv,.int .i64 lim] w (qar w Q cs (decC cs lim r bs E)):=by
 have hnot:∀ (x:Bool) (w:World),(Op.unary .not (.bool x)).run Tryz.prog w=.ok (.bool (!x)) w:=fun _ _=>rfl
 obtain⟨pa,pc,rfl,hpc,hpm⟩:=hp.formY
 have k0:=(Keeps.refl (fun _=>False) w).alloc (.cells #[.bool false,.bool false,.bool false] 35)
 have HK0:=Lib.hid k0
 by_cases hbig:2097152<cs.length
 ·have hc:decC cs lim r bs E=6:=by unfold decC;rw[if_pos hbig]
  rw[hc]
  have t0:decide ((2097152:Int)<(cs.length:Int))=true:=decide_eq_true (by omega)
  clear hp hcs hQ hRd hEn hEd hc k0
  generalize hnn:cs.length=n at *
  clear hnn
  go_enter Tryz.func34,Tryz.ntmps34
  go_wp2_with fail
  refine bodyPost_ret (v:=.tuple #[.pointer none,.agg #[.bool false,.bool false,.bool false],.int .i64 6]) (by simp[results,Tryz.results34,go_sem]) rfl ?_
  exact⟨HK0.out,.inr ⟨by decide,rfl⟩⟩
 ·have t0:decide ((2097152:Int)<(cs.length:Int))=false:=decide_eq_false (by omega)
  have hb0:=heap_alloc_new w (.cells #[.bool false,.bool false,.bool false] 35)
  have hHd:=q2a (.slice pa cs.length pc) cs _ (hp.keeps k0 (fun _ _ h=>h)) hcs (by omega)
  obtain⟨ft,fp,fl,hfv⟩:=qi8 cs
  rw[hfv] at hHd
  have HP:=Lib.hid (And.intro hp (And.intro hcs (And.intro hb0 (And.intro k0 hfv))))
  have HQ:=Lib.hid (And.intro hQ (And.intro hRd (And.intro hEn hEd)))
  by_cases h9e:cs.length<9∨headC cs≠0
  ·
   obtain⟨ce,hce⟩:∃ ce,ce=if cs.length<9 then 3 else headC cs:=⟨_,rfl⟩
   have hc:decC cs lim r bs E=ce:=by
    unfold decC
    rw[if_neg hbig,hce]
    by_cases h9:cs.length<9
    ·rw[if_pos h9,if_pos h9]
    ·rw[if_neg h9,if_neg h9]
     rcases h9e with h|h
     ·exact absurd h h9
     ·rw[if_pos h]
   have hce0:ce≠0:=by
    rw[hce]
    split
    ·decide
    ·next h =>
     rcases h9e with h' | h'
     ·exact absurd h' h
     ·exact h'
   have t2:((ce:Int) != 0)=true:=by rw[bne_iff_ne];omega
   rw[hc]
   have HCE:=Lib.hid hce0
   by_cases h9:cs.length<9
   ·rw[if_pos h9] at hce
    subst hce
    have t1:decide ((cs.length:Int)<9)=true:=decide_eq_true (by omega)
    clear hp hcs hQ hRd hEn hEd hc k0 hb0 hfv hce0 h9e
    unfold optV at hHd
    generalize hnn:cs.length=n at *
    clear hnn
    go_enter Tryz.func34,Tryz.ntmps34
    go_wp2_with fail
    refine hHd.mono ?_
    clear hHd
    rintro e w1 ⟨rfl,hk1⟩
    have k1:=HK0.out.trans hk1 (fun _ _ h=>h)
    have k2:=k1.alloc (.cells #[.bool ft,.bool fp,.bool fl] 35)
    have hb2:=((Keeps.refl (fun _=>False) w1).alloc (.cells #[.bool ft,.bool fp,.bool fl] 35)).at (hk1.at HP.out.2.2.1 (fun h=>h)) (fun h=>h)
    obtain⟨d0,d1,d2,df⟩:=q1u hb2
    have HR:=Lib.hid (And.intro (q2s hb2 false false false) (q3k k2 (Nat.le_refl _) (.bool false) (.bool false) (.bool false)))
    clear hk1 hb2 k1 k2
    go_wp2_with fail
    obtain⟨⟨r0,r1,r2⟩,hkF⟩:=HR.out
    refine bodyPost_ret (v:=.tuple #[.pointer none,.agg #[.bool false,.bool false,.bool false],.int .i64 (3:Nat)]) (by simp[results,Tryz.results34,go_sem,r0,r1,r2]) rfl ?_
    exact⟨hkF,.inr ⟨HCE.out,rfl⟩⟩
   ·rw[if_neg h9] at hce
    have t1:decide ((cs.length:Int)<9)=false:=decide_eq_false (by omega)
    rw[← hce] at hHd
    clear hp hcs hQ hRd hEn hEd hc k0 hb0 hfv hce0 h9e hce
    unfold optV at hHd
    generalize hnn:cs.length=n at *
    clear hnn
    go_enter Tryz.func34,Tryz.ntmps34
    go_wp2_with fail
    refine hHd.mono ?_
    clear hHd
    rintro e w1 ⟨rfl,hk1⟩
    have k1:=HK0.out.trans hk1 (fun _ _ h=>h)
    have k2:=k1.alloc (.cells #[.bool ft,.bool fp,.bool fl] 35)
    have hb2:=((Keeps.refl (fun _=>False) w1).alloc (.cells #[.bool ft,.bool fp,.bool fl] 35)).at (hk1.at HP.out.2.2.1 (fun h=>h)) (fun h=>h)
    obtain⟨d0,d1,d2,df⟩:=q1u hb2
    have HR:=Lib.hid (And.intro (q2s hb2 false false false) (q3k k2 (Nat.le_refl _) (.bool false) (.bool false) (.bool false)))
    clear hk1 hb2 k1 k2
    go_wp2_with fail
    obtain⟨⟨r0,r1,r2⟩,hkF⟩:=HR.out
    refine bodyPost_ret (v:=.tuple #[.pointer none,.agg #[.bool false,.bool false,.bool false],.int .i64 (ce:Nat)]) (by simp[results,Tryz.results34,go_sem,r0,r1,r2]) rfl ?_
    exact⟨hkF,.inr ⟨HCE.out,rfl⟩⟩
  ·
   have h9:9≤cs.length:=by
    rcases Nat.lt_or_ge cs.length 9 with h|h
    ·exact absurd (.inl h) h9e
    ·exact h
   have hh0:headC cs=0:=by
    by_cases h:headC cs=0
    ·exact h
    ·exact absurd (.inr h) h9e
   have t1:decide ((cs.length:Int)<9)=false:=decide_eq_false (by omega)
   rw[hh0] at hHd
   obtain⟨pa',pc',hv,-,-,-,hc⟩:=id hp
   simp only [Value.slice.injEq] at hv
   obtain⟨rfl,-,rfl⟩:=hv
   obtain⟨y,hy⟩:∃ y,cs[0]? = some y:=⟨_,List.getElem?_eq_getElem (by omega)⟩
   obtain⟨g,off,rfl,hcell⟩:=hc 0 (y:Int) (by simp[nats,hy])
   have hgw:g<w.heap.size:=World.block_lt_of_cell? _ _ hcell
   obtain⟨m,hm⟩:∃ m,m=cs.length - 4:=⟨_,rfl⟩
   have hmi:(cs.length:Int) - 4=(m:Int):=by omega
   have hnm:cs.length - m=4:=by omega
   have hown:ownF cs=cs.take m:=by unfold ownF;rw[hm]
   obtain⟨x,hx,hx4⟩:=qkx (cs.drop m) (by rw[List.length_drop];omega) (fun x hx=>hcs x (List.mem_of_mem_drop hx))
   have ho256:∀ x ∈ ownF cs,x<256:=fun x hx=>hcs x (List.mem_of_mem_take (by rw[hown] at hx;exact hx))
   have hcv:=qe7 ho256
   have hdec:decC cs lim r bs E=if x≠crcV (ownF cs) then 11 else if r=false∨bs≠cs then 10 else if max lim 0<E then 12 else 0:=by
    unfold decC
    rw[if_neg hbig,if_neg (by omega),if_neg (by rw[hh0];simp),← hm,hx4]
    by_cases he:x=crcV (ownF cs)
    ·rw[if_neg (show ¬ four x≠four (crcV (ownF cs)) from fun h=>h (by rw[he])),if_neg (show ¬ x≠crcV (ownF cs) from fun h=>h he)]
    ·rw[if_pos (fun h=>he (qky hx hcv h)),if_pos he]
   have htl:=fun W (hW:Keeps (fun _=>False) w W)=>(hp.keeps hW (fun _ _ h=>h)).tailY m (by omega)
   rw[hnm,hx4] at htl
   have hsub:=fun W (hW:Keeps (fun _=>False) w W)=>(hp.keeps hW (fun _ _ h=>h)).take m (by rw[q02];omega)
   rw[show (nats cs).take m=nats (ownF cs) by rw[hown];simp[nats]] at hsub
   have hol:(ownF cs).length=m:=by rw[hown,List.length_take];omega
   have hGt:=fun W (hW:Keeps (fun _=>False) w W)=>qgz _ x W (htl W hW) hx
   have hCr:=fun W (hW:Keeps (fun _=>False) w W)=>qcc _ (ownF cs) W (hsub W hW) (fun q hq=>by
    simp only [Value.ownBlock,Option.some.injEq] at hq
    have:=hW.size
    omega) ho256 (by omega)
   have hs3:=fun W (hW:Keeps (fun _=>False) w W)=>(hsub W hW).tailY 3 (by omega)
   obtain⟨C,hC⟩:∃ C,C=decC cs lim r bs E:=⟨_,rfl⟩
   rw[← hC] at hdec ⊢
   have HC:=Lib.hid hdec
   clear hC
   have HX:=Lib.hid (And.intro hGt (And.intro hCr (And.intro hs3 (And.intro hx (And.intro hcv hol)))))
   have HG:=Lib.hid hgw
   clear hp hcs hQ hRd hEn hEd k0 hb0 hfv h9e hdec hc hy hcell hgw hm hown hx4 ho256 htl hsub hGt hCr hs3 hx hcv hh0
   unfold optV at hHd
   generalize hnn:cs.length=n at *
   have hm5:5≤m:=by omega
   have HN:=Lib.hid (And.intro hnn hol)
   clear hnn hol
   go_enter Tryz.func34,Tryz.ntmps34
   go_wp2_with fail
   refine hHd.mono ?_
   clear hHd
   rintro e w1 ⟨rfl,hk1⟩
   have k1:=HK0.out.trans hk1 (fun _ _ h=>h)
   have k2:=k1.alloc (.cells #[.bool ft,.bool fp,.bool fl] 35)
   have hGt:=HX.out.1 _ k2
   have hCr:=fun W hW=>HX.out.2.1 W (k2.trans hW (fun _ _ h=>h))
   have hb2:=((Keeps.refl (fun _=>False) w1).alloc (.cells #[.bool ft,.bool fp,.bool fl] 35)).at (hk1.at HP.out.2.2.1 (fun h=>h)) (fun h=>h)
   have hb7:=heap_alloc_new w1 (.cells #[.bool ft,.bool fp,.bool fl] 35)
   have H2:=Lib.hid (And.intro k2 (And.intro hb2 (And.intro hb7 (And.intro hCr (show w.heap.size<w1.heap.size from lt_of_block (hk1.at HP.out.2.2.1 (fun h=>h)))))))
   clear hk1 k1 k2 hb2 hb7 hCr
   have hmpc:m≤pc:=by omega
   have hpcm:¬ pc=m:=by omega
   have hnb:n≤2097152:=by omega
   go_wp2_with fail
   refine hGt.mono ?_
   clear hGt
   rintro e w3 ⟨rfl,hk3⟩
   have hCr3:=H2.out.2.2.2.1 w3 hk3
   have H3:=Lib.hid hk3
   clear hk3
   go_wp2_with fail
   refine hCr3.mono ?_
   clear hCr3
   rintro e w4 ⟨rfl,hk4⟩
   have H4:Hid (Keeps (fun _=>False) w w4∧w4.heap[w.heap.size]? = some (.cells #[.bool false,.bool false,.bool false] 35 (0,0))∧w4.heap[w1.heap.size]? = some (.cells #[.bool ft,.bool fp,.bool fl] 35 (0,0))):=Lib.hid ⟨H2.out.1.trans (H3.out.trans hk4 (fun _ _ h=>h)) (fun _ _ h=>h),hk4.at (H3.out.at H2.out.2.1 (fun h=>h)) (fun h=>h),hk4.at (H3.out.at H2.out.2.2.1 (fun h=>h)) (fun h=>h)⟩
   clear hk4
   obtain⟨vs,hvs⟩:∃ vs,vs=crcV (ownF cs):=⟨_,rfl⟩
   rw[← hvs]
   by_cases hsum:x=vs
   rotate_left
   ·have HCC:Hid (C=11):=Lib.hid (by rw[HC.out,if_pos (by rw[← hvs];exact hsum)])
    have t3:((x:Int) != (vs:Int))=true:=by rw[bne_iff_ne];omega
    obtain⟨d0,d1,d2,df⟩:=q1u H4.out.2.1
    have HR:=Lib.hid (And.intro (q2s H4.out.2.1 false false false) (q3k H4.out.1 (Nat.le_refl _) (.bool false) (.bool false) (.bool false)))
    clear hvs hsum
    go_wp2_with fail
    obtain⟨⟨r0,r1,r2⟩,hkF⟩:=HR.out
    refine bodyPost_ret (v:=.tuple #[.pointer none,.agg #[.bool false,.bool false,.bool false],.int .i64 (11:Nat)]) (by simp[results,Tryz.results34,go_sem,r0,r1,r2]) rfl ?_
    rw[HCC.out]
    exact⟨hkF,.inr ⟨by decide,rfl⟩⟩
   ·have HC2:Hid (C=if r=false∨bs≠cs then 10 else if max lim 0<E then 12 else 0):=Lib.hid (by rw[HC.out,if_neg (by rw[← hvs];exact fun h=>h hsum)])
    subst hsum
    clear hvs
    have t3:((x:Int) != (x:Int))=false:=by simp
    have hm3:(3:Int)≤(m:Int):=by omega
    have hpc3:¬ pc=3:=by omega
    obtain⟨e0,e1,e2,ef⟩:=q1u H4.out.2.2
    have HE7:Hid (∀ W,Keeps (fun _=>False) w4 W→W.cell? ⟨w1.heap.size,0,none⟩=some (.bool ft)∧W.cell? ⟨w1.heap.size,1,none⟩=some (.bool fp)∧W.cell? ⟨w1.heap.size,2,none⟩=some (.bool fl)):=Lib.hid (fun W hW=>by
     obtain⟨h1,h2,h3,_⟩:=q1u (hW.at H4.out.2.2 (fun h=>h))
     exact⟨h1,h2,h3⟩)
    go_wp2_with fail
    clear e0 e1 e2 ef
    go_region_held3 (fun w'=>w'.cell? ⟨w1.heap.size,0,none⟩=some (.bool ft)∧w'.cell? ⟨w1.heap.size,1,none⟩=some (.bool fp)∧w'.cell? ⟨w1.heap.size,2,none⟩=some (.bool fl)) (first|exact HE7.out _ (Keeps.refl _ _)|exact HE7.out _ (Keeps.refl (fun _=>False) w4).drew|exact HE7.out _ (((Keeps.refl (fun _=>False) w4).alloc _).drew)|exact HE7.out _ ((Keeps.refl (fun _=>False) w4).alloc _)) (fail)
    all_goals
     have hrb:=heap_alloc_new w4 (.cells #[.bool ft,.bool fp,.bool fl,.slice (some ⟨g,off+3,none⟩) (m - 3) (pc - 3),.slice none 0 0,.bool true] 134)
     obtain⟨W8,hW8⟩:∃ W8,W8=(w4.alloc (.cells #[.bool ft,.bool fp,.bool fl,.slice (some ⟨g,off+3,none⟩) (m - 3) (pc - 3),.slice none 0 0,.bool true] 134)).drew:=⟨_,rfl⟩
     rw[← hW8]
     have k48:Keeps (fun _=>False) w4 W8:=by rw[hW8];exact ((Keeps.refl (fun _=>False) w4).alloc _).drew
     have hrd8:RdF W8 w4.heap.size ft fp fl (.slice (some ⟨g,off+3,none⟩) (m - 3) (pc - 3)) (.slice none 0 0) true:=by rw[hW8];exact hrb
     have hs8:w4.heap.size<W8.heap.size:=by rw[hW8];simp
     have k8:=H4.out.1.trans k48 (fun _ _ h=>h)
     have hRd:=HQ.out.2.1 (by omega) ft fp fl HP.out.2.2.2.2 W8 w4.heap.size (.slice (some ⟨g,off+3,none⟩) (m - 3) (pc - 3)) k8 H4.out.1.size hrd8 (by
      simp only [Value.ownBlock,ne_eq,Option.some.injEq]
      have:=HG.out
      have:=H4.out.1.size
      omega) (HX.out.2.2.1 W8 k8)
     have H8:=Lib.hid (And.intro k8 (And.intro hs8 k48))
     have h14:w1.heap.size<w4.heap.size:=lt_of_block H4.out.2.2
     have H14:=Lib.hid h14
     clear hrb hW8 k48 hrd8 hs8 k8 h14
     go_wp2_with fail
     refine hRd.mono ?_
     clear hRd
     rintro e w9 ⟨v9,rfl,hr9,hk9⟩
     have HB9:Hid (Keeps (fun _=>False) w w9∧w9.heap[w.heap.size]? = some (.cells #[.bool false,.bool false,.bool false] 35 (0,0))∧w9.heap[w1.heap.size]? = some (.cells #[.bool ft,.bool fp,.bool fl] 35 (0,0))):=Lib.hid ⟨H8.out.1.trans hk9 (fun q hq e=>by have:=H4.out.1.size;omega),hk9.at (H8.out.2.2.at H4.out.2.1 (fun h=>h)) (fun e=>by have:=H14.out;have:=H2.out.2.2.2.2;omega),hk9.at (H8.out.2.2.at H4.out.2.2 (fun h=>h)) (fun e=>by have:=H14.out;omega)⟩
     clear hk9
     by_cases hr:r=false
     ·have HCC:Hid (C=10):=Lib.hid (by rw[HC2.out,if_pos (.inl hr)])
      subst hr
      clear hr9
      have HB:=HB9
      have HR:=Lib.hid (And.intro (q2s HB.out.2.1 false false false) (q3k HB.out.1 (Nat.le_refl _) (.bool false) (.bool false) (.bool false)))
      obtain⟨d0,d1,d2,df⟩:=q1u HB.out.2.1
      go_wp2_with fail
      obtain⟨⟨r0,r1,r2⟩,hkF⟩:=HR.out
      refine bodyPost_ret (v:=.tuple #[.pointer none,.agg #[.bool false,.bool false,.bool false],.int .i64 (10:Nat)]) (by simp[results,Tryz.results34,go_sem,r0,r1,r2]) rfl ?_
      rw[HCC.out]
      exact⟨hkF,.inr ⟨by decide,rfl⟩⟩
     ·obtain rfl:r=true:=by cases r <;> simp_all
      obtain⟨b,rfl,hQ9,hb9⟩:=hr9 rfl
      have hEn:=HQ.out.2.2.1 rfl ft fp fl HP.out.2.2.2.2 b w9 hQ9 (by have:=H8.out.1.size;omega)
      have HBB:=Lib.hid hb9
      clear hr9 hQ9 hb9 hr
      obtain⟨d0,d1,d2,df⟩:=q1u HB9.out.2.2
      unfold optV at hEn
      go_wp2_with fail
      refine hEn.mono ?_
      clear hEn
      rintro e w10 ⟨v10,c10,rfl,hs10,hQ10,hk10⟩
      have HB10:Hid (Keeps (fun _=>False) w w10∧w10.heap[w.heap.size]? = some (.cells #[.bool false,.bool false,.bool false] 35 (0,0))∧w10.heap[w1.heap.size]? = some (.cells #[.bool ft,.bool fp,.bool fl] 35 (0,0))∧(bs=cs→Q b w10)):=Lib.hid ⟨HB9.out.1.trans hk10 (fun q hq e=>by have:=HBB.out;have:=H8.out.1.size;omega),hk10.at HB9.out.2.1 (fun e=>by have:=HBB.out;have:=H8.out.2.1;have:=H14.out;have:=H2.out.2.2.2.2;omega),hk10.at HB9.out.2.2 (fun e=>by have:=HBB.out;have:=H8.out.2.1;have:=H14.out;omega),hQ10⟩
      have hEq:=q4r v10 (.slice (some ⟨g,off,none⟩) n pc) bs cs w10 hs10 (by
       exact HP.out.1.keeps HB10.out.1 (fun _ _ h=>h)) hbs HP.out.2.1
      clear hs10 hQ10 hk10 d0 d1 d2 df
      go_wp2_with fail
      refine hEq.mono ?_
      clear hEq
      rintro e w10' ⟨rfl,rfl⟩
      by_cases hbc:bs=cs
      rotate_left
      ·have HCC:Hid (C=10):=Lib.hid (by rw[HC2.out,if_pos (.inr hbc)])
       rw[decide_eq_false hbc]
       have HB:=HB10
       have HR:=Lib.hid (And.intro (q2s HB.out.2.1 false false false) (q3k HB.out.1 (Nat.le_refl _) (.bool false) (.bool false) (.bool false)))
       obtain⟨d0,d1,d2,df⟩:=q1u HB.out.2.1
       go_wp2_with fail
       obtain⟨⟨r0,r1,r2⟩,hkF⟩:=HR.out
       refine bodyPost_ret (v:=.tuple #[.pointer none,.agg #[.bool false,.bool false,.bool false],.int .i64 (10:Nat)]) (by simp[results,Tryz.results34,go_sem,r0,r1,r2]) rfl ?_
       rw[HCC.out]
       exact⟨hkF,.inr ⟨by decide,rfl⟩⟩
      ·have HC3:Hid (C=if max lim 0<E then 12 else 0):=Lib.hid (by rw[HC2.out,if_neg (by rintro (h|h);cases h;exact h hbc)])
       rw[decide_eq_true hbc]
       have hEd:=HQ.out.2.2.2 (by first|rfl|trivial) hbc b w10 (HB10.out.2.2.2 hbc)
       have HBC:=Lib.hid hbc
       clear hbc
       go_wp2_with fail
       refine hEd.mono ?_
       clear hEd
       rintro e w10' ⟨rfl,rfl⟩
       have hmx:∀ W,(Builtin.max_ #[3,3] 3 #[.int .i64 lim,.int .i64 0]).run Tryz.prog W=.ok (.int .i64 (max lim 0)) W:=fun W=>by
        have h5:(Builtin.max_ #[3,3] 3 #[.int .i64 lim,.int .i64 0]).run Tryz.prog W=.ok (.int .i64 (if lim<0 then 0 else lim)) W:=rfl
        rw[h5]
        congr 2
        split <;> omega
       obtain⟨ML,hML⟩:∃ ML,ML=max lim 0:=⟨_,rfl⟩
       rw[← hML] at hmx HC3
       clear hML
       by_cases hli:ML<E
       ·have HCC:Hid (C=12):=Lib.hid (by rw[HC3.out,if_pos hli])
        have t5:decide (ML<(E:Int))=true:=decide_eq_true hli
        have HB:=HB10
        have HR:=Lib.hid (And.intro (q2s HB.out.2.1 false false false) (q3k HB.out.1 (Nat.le_refl _) (.bool false) (.bool false) (.bool false)))
        obtain⟨d0,d1,d2,df⟩:=q1u HB.out.2.1
        go_wp2_with fail
        obtain⟨⟨r0,r1,r2⟩,hkF⟩:=HR.out
        refine bodyPost_ret (v:=.tuple #[.pointer none,.agg #[.bool false,.bool false,.bool false],.int .i64 (12:Nat)]) (by simp[results,Tryz.results34,go_sem,r0,r1,r2]) rfl ?_
        rw[HCC.out]
        exact⟨hkF,.inr ⟨by decide,rfl⟩⟩
       ·have HCC:Hid (C=0):=Lib.hid (by rw[HC3.out,if_neg hli])
        have t5:decide (ML<(E:Int))=false:=decide_eq_false hli
        have hR:=q2s HB10.out.2.1 ft fp fl
        have hKF:=q3k HB10.out.1 (Nat.le_refl _) (.bool ft) (.bool fp) (.bool fl)
        have hQF:=fun W hW=>HQ.out.1 HBC.out b w10 W (HB10.out.2.2.2 HBC.out) ((((((Keeps.refl (fun k=>k=w.heap.size) w10).setCell (p:=⟨w.heap.size,0,none⟩) (.inl rfl) (.bool ft)).setCell (p:=⟨w.heap.size,1,none⟩) (.inl rfl) (.bool fp)).setCell (p:=⟨w.heap.size,2,none⟩) (.inl rfl) (.bool fl)).trans hW (fun _ _ h=>h)))
        obtain⟨d0,d1,d2,df⟩:=q1u HB10.out.2.1
        obtain⟨e0,e1,e2,ef⟩:=q1u HB10.out.2.2.1
        have HR:=Lib.hid (And.intro hR (And.intro hKF hQF))
        clear hR hKF hQF
        go_wp2_with fail
        go_region
        all_goals
         obtain⟨⟨r0,r1,r2⟩,hkF,hQF⟩:=HR.out
         go_wp2_with fail
         refine bodyPost_ret (v:=.tuple #[.pointer (some ⟨b,0,none⟩),.agg #[.bool ft,.bool fp,.bool fl],.int .i64 (0:Nat)]) (by simp[results,Tryz.results34,go_sem,r0,r1,r2]) rfl ?_
         rw[HCC.out]
         refine⟨hkF.drew,.inl ⟨rfl,b,?_,hQF _ (Keeps.refl _ _).drew⟩⟩
         rw[HP.out.2.2.2.2]
         rfl
end
end Go.Proofs.YtcfdpogegngplaaGreat
