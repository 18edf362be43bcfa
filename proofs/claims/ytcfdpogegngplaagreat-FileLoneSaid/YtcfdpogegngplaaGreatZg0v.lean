import Derived.Test.YtcfdpogegngplaaGreatZg0k
import Derived.Test.YtcfdpogegngplaaGreatZg0r
import Derived.Test.YtcfdpogegngplaaGreatZg0m
set_option maxRecDepth 100000
set_option maxHeartbeats 4000000
namespace Go.Proofs.YtcfdpogegngplaaGreat
section
open Go.RowKit
theorem Ot:(Tryz.prog.info? 24).map (fun i=>(i.zero,i.size,i.bytes))=some (some (.pointer none),1,8):=by kernel_rfl
def ptrs(bs:List Nat):List Value:=bs.map fun b=>.pointer (some ⟨b,0,none⟩)
theorem qka(bs:List Nat)(b:Nat):ptrs (bs ++ [b])=ptrs bs ++ [.pointer (some ⟨b,0,none⟩)]:=by simp[ptrs]
structure xO (B:Nat)(w:World)(v:Value)(ks:List (List Nat))(bs:List Nat)(Rs:Nat→Nat→Prop):Prop where
 len:bs.length=ks.length
 row:w.ownsRow B 24 1 v ks.length (ptrs bs)
 at':∀ j b k,bs[j]? = some b→ks[j]? = some k→MapAt w b (aG k) 0 0 (Rs j)∧B≤b∧(∀ x,Rs j x→B≤x)∧v.ownBlock≠some b∧(∀ q,v.ownBlock=some q→¬ Rs j q)
 apart:∀ i j b c,i<j→bs[i]? = some b→bs[j]? = some c→b≠c∧¬ Rs j b
theorem xO.mono{B B':Nat}{w:World}{v:Value}{ks:List (List Nat)}{bs:List Nat}{Rs:Nat→Nat→Prop}(h:xO B w v ks bs Rs)(hB:B'≤B):xO B' w v ks bs Rs :=
 ⟨h.len,⟨h.row.1,h.row.2.imp id fun ⟨g,cap,cur,h1,h2,h3⟩=>⟨g,cap,cur,h1,Nat.le_trans hB h2,h3⟩⟩,fun j b k hb hk=>by
  obtain⟨a1,a2,a3,a4⟩:=h.at' j b k hb hk
  exact⟨a1,by omega,fun x hx=>by have:=a3 x hx;omega,a4⟩,h.apart⟩
theorem qo6{ops:Array Oper}{rest:List Oper}{o:Oper}{a:Act}{Q:Exit→Act→World→Prop}{wr:World}(n:Nat)(hgd:o.guard=none)(s x:Operand)
  (ho:o.op=.call { callee:=.builtin .append,args:=#[s,x],argTypes:=#[149,149] })(B:Nat)(v:Value)(ps:List Value)(p:Option Addr)(hn:Hid (ps.length=n))(H:Nat)(hH:wr.heap.size=H)(hs:a.eval s=v)(hx:a.eval x=.slice (some ⟨H,0,none⟩) 1 1)
  (hown:wr.ownsRow B 24 1 v n ps)(hlen:n≤10000000000)(hB:B≤wr.heap.size)
  (h:∀ g cap w',w'.ownsRow B 24 1 (.slice (some ⟨g,0,none⟩) (n+1) cap) (n+1) (ps ++ [.pointer p])→Keeps (fun k=>v.ownBlock=some k) wr w'→(v.ownBlock=some g∨wr.heap.size≤g) →
   wpList Tryz.prog ops Q rest (a.put o.dst (.slice (some ⟨g,0,none⟩) (n+1) cap)) w') :
  wpList Tryz.prog ops Q (o :: rest) a (wr.alloc (.cells #[.pointer p] 24)):=by
 obtain⟨i,hi,hz0,hz1,hz2⟩:=info_parts Ot
 have hn:=hn.out
 subst hn
 subst hH
 refine wpList_append_lies _ hgd s x _ ho B 24 i (.pointer none) 1 8 Tryz.underlying149 hi hz0 hz1 hz2 rfl (by decide) v ps.length _ hs (hown.alloc _) ⟨wr.heap.size,0,none⟩ 1 1 [.pointer p] hx rfl (cell_one_new _ _ _) ?_ (by decide) ?_ ?_ ?_ (wr.heap.size+1) (by simp) ?_
 ·intro u hu;simp at hu;subst hu;rfl
 ·unfold maxLen;omega
 ·omega
 ·simp;omega
 ·intro g cap w1 hown1 hgrow hat _
  exact h g cap w1 hown1 (((Keeps.refl _ wr).alloc _).grown hgrow (fun k hk=>.inl hk)) (hat.imp id (fun h=>by omega))
theorem xO.app{B:Nat}{w0 wr w':World}{v:Value}{ks:List (List Nat)}{bs:List Nat}{Rs:Nat→Nat→Prop}(h:xO B w0 v ks bs Rs)(hB:B≤w0.heap.size)(k1:Keeps (fun _=>False) w0 wr){b:Nat}{k:List Nat}{R:Nat→Prop}(hm:MapAt wr b (aG k) 0 0 R)(hb:w0.heap.size≤b)(hR:∀ x,R x→w0.heap.size≤x)
  {g cap:Nat}(hrow:w'.ownsRow B 24 1 (.slice (some ⟨g,0,none⟩) (ks.length+1) cap) (ks.length+1) (ptrs bs ++ [.pointer (some ⟨b,0,none⟩)]))(k2:Keeps (fun q=>v.ownBlock=some q) wr w')(hg:v.ownBlock=some g∨wr.heap.size≤g) :
  xO B w' (.slice (some ⟨g,0,none⟩) (ks.length+1) cap) (ks ++ [k]) (bs ++ [b]) (fun j=>if j<bs.length then Rs j else R):=by
 have hlv:∀ q,v.ownBlock=some q→q<w0.heap.size:=fun q hq=>(h.row.lt q hq).2
 have hs:=k1.size
 have hold:∀ j c k',bs[j]? = some c→ks[j]? = some k'→c<w0.heap.size∧∀ x,Rs j x→x<w0.heap.size:=fun j c k' hc hk'=>⟨(h.at' j c k' hc hk').1.lt,(h.at' j c k' hc hk').1.old⟩
 refine⟨by simp[h.len],by rw[qka];simpa using hrow,fun j c k' hc hk'=>?_,fun i j c d hij hc hd=>?_⟩
 ·rcases Nat.lt_or_ge j bs.length with hj|hj
  ·rw[List.getElem?_append_left hj] at hc
   rw[List.getElem?_append_left (by rw[← h.len];exact hj)] at hk'
   obtain⟨a1,a2,a3,a4,a5⟩:=h.at' j c k' hc hk'
   rw[if_pos hj]
   refine⟨(a1.keeps k1 (fun h=>h) (fun _ _ h=>h)).keeps k2 a4 (fun x hx e=>a5 x e hx),a2,a3,fun e=>?_,fun q hq hx=>?_⟩
   ·simp only [Value.ownBlock,Option.some.injEq] at e
    subst e
    rcases hg with e|e
    ·exact a4 e
    ·have:=(hold j g k' hc hk').1;omega
   ·simp only [Value.ownBlock,Option.some.injEq] at hq
    subst hq
    rcases hg with e|e
    ·exact a5 _ e hx
    ·have:=(hold j c k' hc hk').2 _ hx;omega
  ·have hj2:j=bs.length:=by
    have:=fK hc
    simp at this;omega
   subst hj2
   rw[List.getElem?_append_right (Nat.le_refl _),Nat.sub_self] at hc
   rw[h.len,List.getElem?_append_right (Nat.le_refl _),Nat.sub_self] at hk'
   simp only [List.getElem?_cons_zero,Option.some.injEq] at hc hk'
   subst hc;subst hk'
   rw[if_neg (by omega)]
   refine⟨hm.keeps k2 (fun e=>by have:=hlv _ e;omega) (fun x hx e=>by have:=hlv _ e;have:=hR x hx;omega),by omega,fun x hx=>by have:=hR x hx;omega,fun e=>?_,fun q hq hx=>?_⟩
   ·simp only [Value.ownBlock,Option.some.injEq] at e
    subst e
    rcases hg with e|e
    ·have:=hlv _ e;omega
    ·have:=hm.lt;omega
   ·simp only [Value.ownBlock,Option.some.injEq] at hq
    subst hq
    rcases hg with e|e
    ·have:=hlv _ e;have:=hR _ hx;omega
    ·have:=hm.old _ hx;omega
 ·have hjl:=fK hd
  simp only [List.length_append,List.length_cons,List.length_nil] at hjl
  rw[List.getElem?_append_left (by omega)] at hc
  have hci:i<bs.length:=by omega
  obtain⟨k',hk'⟩:∃ k',ks[i]? = some k':=⟨_,List.getElem?_eq_getElem (by rw[← h.len];exact hci)⟩
  rcases Nat.lt_or_ge j bs.length with hj|hj
  ·rw[List.getElem?_append_left hj] at hd
   rw[if_pos hj]
   exact h.apart i j c d hij hc hd
  ·have hj2:j=bs.length:=by omega
   subst hj2
   rw[List.getElem?_append_right (Nat.le_refl _),Nat.sub_self] at hd
   simp only [List.getElem?_cons_zero,Option.some.injEq] at hd
   subst hd
   rw[if_neg (by omega)]
   have:=(hold i c k' hc hk').1
   exact⟨by omega,fun hx=>by have:=hR _ hx;omega⟩
theorem qkb{w:World}{b:Nat}{l:List (List Nat)}{root lone:Int}{R:Nat→Prop}(h:MapAt w b (bH (l.map aG)) root lone R)(hok:eD l) :
  Calls Tryz.prog 95 #[.pointer (some ⟨b,0,none⟩)] w fun e w'=>∃ v bs Rs,e=.returned v∧xO w.heap.size w' v l bs Rs∧Keeps (fun _=>False) w w':=by
 have HH:Hid (∀ W,Keeps (fun _=>False) w W→MapAt W b (bH (l.map aG)) root lone R):=ah (fun W hk=>h.keeps hk (fun h=>h) (fun _ _ h=>h))
 have hN:=V4 h
 have hle:=h.le
 have hdl:=Dw l
 have HOK:=ah hok
 have HAT:=ah (qn5 hok)
 have hLn:l.length≤l.flatten.length:=by
  have:∀ l:List (List Nat),eD l→l.length≤l.flatten.length:=fun l=>by
   induction l with
   | nil=>intro _;simp
   | cons k l ih =>
    intro h
    have h1:=(h k (by simp)).2
    have h2:=ih (fun x hx=>h x (by simp[hx]))
    rw[List.flatten_cons,List.length_append,List.length_cons]
    omega
  exact this l hok
 have E5:=WO l
 have E8:=qgb l
 obtain⟨n,hn⟩:∃ n,n=(bH (l.map aG)).length:=⟨_,rfl⟩
 obtain⟨s,hs⟩:∃ s,s=bH (l.map aG):=⟨_,rfl⟩
 rw[← hs] at hN hn HAT HH hle hdl
 have Ag:fT l l.length=n:=by rw[E8,← hdl,hn]
 have hD0:=fun W hk=>vM (HH.out W hk)
 have hS0:=fun W hk d hd=>JW (HH.out W hk) d hd
 rw[← hn] at hD0 hS0
 have HD:=ah hD0
 have HS:=ah hS0
 clear h hok hD0 hS0 E8
 go_enter Tryz.func95,Tryz.ntmps95
 go_wp2_with fail
 refine hN.mono ?_
 clear hN
 rintro e w1 ⟨g1,rfl,zs,hzl,hz,hown,hk1⟩
 have EH:Hid (∀ W,Keeps (fun _=>False) w1 W→∀ d,d<n→W.cell? ⟨g1,d,none⟩=some (.int .i64 (bf s.length (sg s) d:Nat))):=ah (fun W hW d hd=>((hown.keeps hW (fun _ _ h=>h)).cell (by rw[hz];refine jq ?_;rw[List.getElem?_map,List.getElem?_range (by rw[← hn];exact hd)];rfl)).1)
 have BD:=ah hk1
 rw[← hn] at hzl hown
 rw[← hn]
 have aj4:n≤131072:=by omega
 have hp0:xO w1.heap.size w1 (.slice none 0 0) (l.take 0) [] (fun _ _=>False):=⟨rfl,World.ownsRow_nil _ _ _ _,fun j b k hb=>by simp at hb,fun i j b c _ hb=>by simp at hb⟩
 have hw1:=hk1.size
 clear hzl hz hown hk1 zs
 have Kw:=ah (aj hdl (aj hLn (aj E5 Ag)))
 have HN0:=ah hn
 clear hdl hLn E5 Ag hs hle hn
 go_wp2_with fail
 go_loopg [3,5] l.length (fun m yE fv wr=>∃ (i:Nat) (ov:Value),i≤l.length∧m=l.length - i∧ov=yE∧fv=.int .i64 (fT l i:Nat)∧Keeps (fun _=>False) w1 wr∧∃ bs Rs,xO w1.heap.size wr ov (l.take i) bs Rs)
 case atStart=>exact⟨0,_,Nat.zero_le _,rfl,rfl,rfl,Keeps.refl _ _,_,_,hp0⟩
 case round =>
  clear hp0
  obtain⟨i,ov,hi,aN,rfl,rfl,hk,bs,Rs,hP⟩:=hrel
  have tq:=ah aN
  have hD:=HD.out wr (BD.out.trans hk (fun _ _ h=>h))
  clear aN
  by_cases hlt:i<l.length
  rotate_left
  ·obtain rfl:i=l.length:=by omega
   have HF:Hid (∃ bs Rs,xO w.heap.size wr ov l bs Rs∧Keeps (fun _=>False) w wr):=ah ⟨bs,Rs,by have:=hP;rw[List.take_of_length_le (Nat.le_refl _)] at this;exact this.mono hw1,BD.out.trans hk (fun _ _ h=>h)⟩
   have t0:decide ((fT l l.length:Int)<(n:Int))=false:=decide_eq_false (by rw[Kw.out.2.2.2];omega)
   have t1:decide (fT l l.length<n)=false:=decide_eq_false (by rw[Kw.out.2.2.2];omega)
   clear hP hk
   go_wp2_with fail
   refine hD.mono ?_
   rintro e w' ⟨rfl,rfl⟩
   go_wp2_with fail
   go_ret
   obtain⟨bs,Rs,h1,h2⟩:=HF.out
   exact⟨_,bs,Rs,rfl,h1,h2⟩
  ·obtain⟨k,hkl⟩:∃ k,l[i]? = some k:=⟨_,List.getElem?_eq_getElem hlt⟩
   have IG:=HOK.out k (List.mem_of_getElem? hkl)
   have hk0:=IG.2
   have hsucc:=qd7 hkl
   have hat:=HAT.out i k hkl
   have hole:=qk0 (l:=l) (i:=i+1)
   have hfn:l.flatten.length=n:=by rw[← Kw.out.1,HN0.out]
   obtain⟨f,hf⟩:∃ f,f=fT l i:=⟨_,rfl⟩
   obtain⟨K,hK⟩:∃ K,K=k.length:=⟨_,rfl⟩
   rw[← hf] at hat
   rw[← hf]
   have hfK:f+K≤n:=by omega
   have hK0:0<K:=by omega
   have hnext:f+K<n→bf s.length (sg s) (f+K)≠i:=fun hlt2 e=>by
    have hi2:i+1<l.length:=by
     rcases Nat.lt_or_ge (i+1) l.length with h|h
     ·exact h
     ·have e2:i+1=l.length:=by omega
      have:=Kw.out.2.2.2
      rw[← e2] at this
      omega
    obtain⟨k2,hk2⟩:∃ k2,l[i+1]? = some k2:=⟨_,List.getElem?_eq_getElem hi2⟩
    have:=(HAT.out (i+1) k2 hk2 0 (HOK.out k2 (List.mem_of_getElem? hk2)).2).2.2
    rw[Nat.add_zero,hsucc,← hf,← hK] at this
    omega
   have hcn:∀ x,x<K→bf s.length (sg s) (f+x)=i:=fun x hx=>(hat x (by omega)).2.2
   have Ou:∀ x,x<K→sg s (f+x)=f+sg (aG k) x:=fun x hx=>(hat x (by omega)).2.1
   have uM:=ah (aj hkl (aj IG (aj hsucc (aj hf (aj hK (aj hnext (aj hcn Ou)))))))
   have Ov:=ah (aj hk hP)
   have t0:decide ((f:Int)<(n:Int))=true:=decide_eq_true (by omega)
   have t1:decide (f<n)=true:=decide_eq_true (by omega)
   clear hkl IG hsucc hat hole hf hK hnext hcn Ou hk hP hk0 hfn
   go_wp2_with fail
   refine hD.mono ?_
   rintro e w' ⟨rfl,rfl⟩
   clear hD
   go_wp2_with fail
   obtain⟨Ox,rfl⟩:∃ W,W=wr:=⟨wr,rfl⟩
   have HW0:Hid (∀ W,Keeps (fun _=>False) Ox W→(∀ q,Calls Tryz.prog 38 #[.pointer (some ⟨b,0,none⟩)] (W.drewN q) fun e w'=>e=.returned (.int .i64 n)∧W.drewN q=w')∧(∀ d,d<n→W.cell? ⟨g1,d,none⟩=some (.int .i64 (bf s.length (sg s) d:Nat)))) :=
    ah (fun W hW=>⟨fun q=>HD.out _ (BD.out.trans (Ov.out.1.trans (hW.drewN q) (fun _ _ h=>h)) (fun _ _ h=>h)),EH.out W (Ov.out.1.trans hW (fun _ _ h=>h))⟩)
   go_loopg [6] K (fun m tv wv=>∃ x:Nat,x≤K∧m=K - x∧tv=.int .i64 (f+x:Nat)∧Keeps (fun _=>False) Ox wv)
   case atStart=>exact⟨0,by omega,rfl,rfl,Keeps.refl _ _⟩
   case round =>
    obtain⟨x,hx,aN,rfl,hkv⟩:=hrel
    have Xf:=ah aN
    clear aN
    obtain⟨Xg,hcl⟩:=HW0.out wr hkv
    have cf:=hcl f (by omega)
    rw[show bf s.length (sg s) f=i from uM.out.2.2.2.2.2.2.1 0 hK0] at cf
    obtain⟨y,hy⟩:∃ y,y=f+x:=⟨_,rfl⟩
    rw[← hy]
    by_cases Oy:x<K
    ·have cy:=hcl y (by omega)
     rw[show bf s.length (sg s) y=i from by rw[hy];exact uM.out.2.2.2.2.2.2.1 x Oy] at cy
     have t2:decide ((y:Int)<(n:Int))=true:=decide_eq_true (by omega)
     have t3:decide (y<n)=true:=decide_eq_true (by omega)
     have hyn:y<n:=by omega
     have HY:=ah (aj hy hkv)
     clear hy hcl hkv
     go_wp2_with fail
     go_quiet ((go_at_call 38;with_reducible exact qH (Xg _)))
     go_wp2_with fail
     go_roundg (K - (x+1))
     case measure=>rw[Xf.out];omega
     case rel=>exact⟨x+1,by omega,rfl,by have:=HY.out.1;go_num,HY.out.2.drewN _⟩
    ·obtain rfl:K=x:=by omega
     refine (Nat.lt_or_ge y n).elim (fun hyn=>?_) (fun hyn=>?_)
     rotate_left
     have t2:decide ((y:Int)<(n:Int))=false:=decide_eq_false (by omega)
     have t3:decide (y<n)=false:=decide_eq_false (by omega)
     have HY:=ah (aj hy hkv)
     clear hy hcl hkv cf
     go_wp2_with fail
     go_quiet ((go_at_call 38;with_reducible exact qH (Xg _)))
     go_wp2_with fail
     rotate_left
     have cy:=hcl y hyn
     have hne:bf s.length (sg s) y≠i:=by rw[hy];exact uM.out.2.2.2.2.2.1 (by omega)
     obtain⟨c,hc⟩:∃ c,c=bf s.length (sg s) y:=⟨_,rfl⟩
     rw[← hc] at cy hne
     have t2:decide ((y:Int)<(n:Int))=true:=decide_eq_true (by omega)
     have t3:decide (y<n)=true:=decide_eq_true (by omega)
     have t5:((c:Int) == (i:Int))=false:=by rw[beq_eq_false_iff_ne];omega
     have HY:=ah (aj hy hkv)
     clear hy hcl hkv hc
     go_wp2_with fail
     go_quiet ((go_at_call 38;with_reducible exact qH (Xg _)))
     go_wp2_with fail
     all_goals
      generalize hwc:World.drewN _ _=wc at *
      have hkc:Keeps (fun _=>False) Ox wc:=by rw[← hwc];exact HY.out.2.drewN _
      have HKC:=ah hkc
      clear hwc
      have hS1:=fun W (hW:Keeps (fun _=>False) wc W) d hd=>HS.out W (BD.out.trans (Ov.out.1.trans (hkc.trans hW (fun _ _ h=>h)) (fun _ _ h=>h)) (fun _ _ h=>h)) d hd
      have Oz:=ah hS1
      have hdk:(aG k).length=K:=by rw[kJ];exact uM.out.2.2.2.2.1.symm
      have hl0:aF w.heap.size wc (.slice none 0 0) (aB ((aG k).take 0)):=aF.nil _ _
      have OA:=hkc.size
      clear hkc hS1
      have hww:w.heap.size≤wc.heap.size:=by have:=Ov.out.1.size;omega
      go_wp2_with fail
      go_loopg [7,8] K (fun m lv dv wv=>∃ x:Nat,x≤K∧m=K - x∧dv=.int .i64 (f+x:Nat)∧aF wc.heap.size wv lv (aB ((aG k).take x))∧Keeps (fun _=>False) wc wv)
      case atStart=>exact⟨0,by omega,rfl,rfl,aF.nil _ _,Keeps.refl _ _⟩
      case round =>
       obtain⟨x,hx,aN,rfl,hown,hkv⟩:=hrel
       have Xf:=ah aN
       clear aN
       obtain⟨v,hy⟩:∃ v,v=f+x:=⟨_,rfl⟩
       rw[← hy]
       by_cases Oy:x<K
       ·have Xh:=HY.out.1
        have t6:decide ((v:Int)<(y:Int))=true:=decide_eq_true (by omega)
        have t7:decide (v<y)=true:=decide_eq_true (by omega)
        have uK:=Oz.out wr hkv v (by omega)
        have hsx:sg s v=f+sg (aG k) x:=by rw[hy];exact uM.out.2.2.2.2.2.2.2 x Oy
        obtain⟨z,hz⟩:∃ z,z=sg (aG k) x:=⟨_,rfl⟩
        rw[← hz] at hsx
        rw[hsx] at uK
        have hzn:z<K:=by
         have:=uM.out.2.1.1.wd.eB
         rw[hdk] at this
         rw[hz];exact this.lt x Oy
        have htk:aB ((aG k).take (x+1))=aB ((aG k).take x) ++ [(z:Int)]:=by
         rw[lX (yB (by rw[hdk];exact Oy)),xk,hz]
        obtain⟨oa,oc,rfl,_,_⟩:=hown.form
        have hlen:(aB ((aG k).take x)).length=x:=by rw[q01,List.length_take,hdk];omega
        rw[hlen] at hown ⊢
        have HN:=ah hlen
        have hxb:x≤10000000000:=by omega
        have Xi:=hkv.size
        have hyn:v<n:=by omega
        have e1:(f:Int)+(z:Int) - (f:Int)=(z:Int):=by omega
        have HF:Hid (∀ g2 cap2 w5,aF wc.heap.size w5 (.slice (some ⟨g2,0,none⟩) (x+1) cap2) (aB ((aG k).take x) ++ [(f:Int)+(z:Int) - (f:Int)])→Keeps (fun q=>(Value.slice oa x oc).ownBlock=some q) wr w5→aF wc.heap.size w5 (.slice (some ⟨g2,0,none⟩) (x+1) cap2) (aB ((aG k).take (x+1)))∧Keeps (fun _=>False) wc w5) :=
         ah (fun g2 cap2 w5 h5 k5=>⟨by rw[htk,← e1];exact h5,hkv.trans k5 (fun q hq e=>by have:=(hown.lt q e).1;omega)⟩)
        have J3:=ah hy
        clear hy Xh hz hsx htk hkv hlen e1
        go_wp2_with fail
        refine uK.mono ?_
        rintro e w' ⟨rfl,rfl⟩
        clear uK
        go_wp2_with (at_builtin;refine mP x rfl _ _ rfl wc.heap.size (.slice oa x oc) (aB ((aG k).take x)) ((f:Int)+(z:Int) - (f:Int)) HN wr.heap.size rfl rfl rfl hown hxb Xi ?_;intro g2 cap2 w5 hown5 hk5 gH hg5;have JK:=ah (HF.out g2 cap2 w5 hown5 hk5);clear hown5 hk5 gH hg5)
        go_roundg (K - (x+1))
        case measure=>rw[Xf.out];omega
        case rel=>exact⟨x+1,by omega,rfl,by have:=J3.out;go_num,JK.out⟩
       ·obtain rfl:K=x:=by omega
        rw[List.take_of_length_le (by omega)] at hown
        have mU:=Kq (ln:=0) hown.sl uM.out.2.1.1.wd.eB (by rw[kJ];exact uM.out.2.1.1.wd.jJ) (by omega) (by omega) (.inr ⟨0,rfl,by omega⟩)
        have HV:=ah (aj hkv hy)
        have Xh:=HY.out.1
        have t5:decide ((v:Int)<(y:Int))=false:=decide_eq_false (by omega)
        have t6:decide (v<y)=false:=decide_eq_false (by omega)
        clear Xh
        obtain⟨la,lc,rfl,_,_⟩:=hown.form
        clear hown hkv hy
        go_wp2_with fail
        refine mU.mono ?_
        clear mU
        rintro e wn ⟨bn,rfl,hMn,hbn,hkn⟩
        obtain⟨hkx,hPx⟩:=Ov.out
        have aT:Keeps (fun _=>False) Ox wn:=(HKC.out.trans HV.out.1 (fun _ _ h=>h)).trans hkn (fun _ _ h=>h)
        have hsv:=HV.out.1.size
        have hsc:=HKC.out.size
        have hBr:w1.heap.size≤Ox.heap.size:=hkx.size
        have hrow:=aT.owns hPx.row (fun _ _ h=>h)
        have JO:(l.take i).length=i:=by rw[List.length_take];omega
        rw[JO] at hrow
        have hmb:i≤10000000000:=by have:=Kw.out.2.1;have:=Kw.out.1;have:=HN0.out;omega
        have hpl:Hid ((ptrs bs).length=i):=ah (by rw[← JO,← hPx.len];simp[ptrs])
        have hBn:w1.heap.size≤wn.heap.size:=by have:=aT.size;omega
        have HF:Hid (∀ g cap w9,w9.ownsRow w1.heap.size 24 1 (.slice (some ⟨g,0,none⟩) (i+1) cap) (i+1) (ptrs bs ++ [.pointer (some ⟨bn,0,none⟩)])→Keeps (fun q=>ov.ownBlock=some q) wn w9→(ov.ownBlock=some g∨wn.heap.size≤g) →
          Keeps (fun _=>False) w1 w9∧∃ bs Rs,xO w1.heap.size w9 (.slice (some ⟨g,0,none⟩) (i+1) cap) (l.take (i+1)) bs Rs):=by
         refine ah (fun g cap w9 h9 k9 Ky=>?_)
         have hpt:=hPx.app hBr aT hMn (by omega) (fun x hx=>by have:=hx.1;omega) (by rw[JO];exact h9) k9 Ky
         rw[JO,← lX uM.out.1] at hpt
         exact⟨(hkx.trans aT (fun _ _ h=>h)).trans k9 (fun q hq e=>by have:=(hPx.row.lt q e).1;omega),_,_,hpt⟩
        clear hMn hbn hkn hkx hPx aT
        go_wp2_with (at_builtin;refine qo6 i rfl _ _ rfl w1.heap.size ov (ptrs bs) (some ⟨bn,0,none⟩) hpl wn.heap.size rfl rfl rfl hrow hmb hBn ?_;intro g cap w9 h9 k9 Ky;have HG9:=ah (HF.out g cap w9 h9 k9 Ky);clear h9 k9 Ky)
        go_roundg (l.length - (i+1))
        case measure=>rw[tq.out];omega
        case rel=>exact⟨i+1,_,by omega,rfl,rfl,by rw[uM.out.2.2.1,← uM.out.2.2.2.1,← uM.out.2.2.2.2.1,HY.out.1],HG9.out⟩
end
section
open Go.RowKit
def Ah(w:World)(b bv:Nat)(l:List Bool)(w':World):Prop:=∃ vv,aK w' bv vv l∧w.heap.size≤bv∧(∀ q,vv.ownBlock=some q→w.heap.size≤q)∧Keeps (fun x=>x=b) w w'
theorem bZ.encR{k:List Nat}(h:bZ k)(hn:0<k.length):xI (aG k) 0 0 k 0:=by
 have:=h.wd.Du h.canon
 rwa [if_neg (by omega),if_neg (by omega)] at this
theorem qhg{w:World}{b:Nat}{k:List Nat}{R:Nat→Prop}(p l:Bool)(h:MapAt w b (aG k) 0 0 R)(hk:bZ k)(hn:0<k.length) :
  Calls Tryz.prog 98 #[cu false p l,.pointer (some ⟨b,0,none⟩)] w fun e w'=>∃ bv,e=.returned (.tuple #[.pointer (some ⟨bv,0,none⟩),.int .i64 (k.length / 2:Nat),.int .i64 0])∧Ah w b bv (bP k) w':=by
 have ka:=(Keeps.refl (fun _=>False) w).alloc (.cells #[.bool false,.bool p,.bool l] 35)
 have hA:=h.keeps ka (fun h=>h) (fun _ _ h=>h)
 have hE:=q8w (l:=0) hA
 have hle:=h.le
 have hbw:=h.lt
 rw[kJ] at hle
 have HK:=ah (aj ka (aj hk hn))
 have h4:=hk.k4
 clear h hA ka hk
 unfold cu
 go_enter Tryz.func98,Tryz.ntmps98
 go_wp2_with fail
 refine hE.mono ?_
 clear hE
 rintro e w1 ⟨pv,c,ks,rfl,hE,hq,hc⟩
 obtain⟨rfl,rfl⟩:=(HK.out.2.1.encR HK.out.2.2).unique hE
 rcases hc with⟨_,bw,rfl,hW⟩|⟨hc,_⟩
 rotate_left
 ·exact absurd rfl hc
 obtain⟨wv,Ir,Xj,hwv,hkW⟩:=hW
 have hBt:=qd2 bw wv k w1 Ir h4 (by omega)
 have H1:Hid (Keeps (fun x=>x=b) w w1∧w.heap.size≤w1.heap.size∧∀ W,Keeps (fun _=>False) w1 W→Calls Tryz.prog 25 #[.pointer (some ⟨b,0,none⟩)] W fun e w'=>e=.returned (.int .i64 (k.length / 2:Nat))∧W=w'):=by
  refine ah ⟨(show Keeps (fun x=>x=b) w _ from HK.out.1.mono (fun _ _ h=>h.elim)).trans hkW (fun _ _ h=>h),?_,fun W hW=>?_⟩
  ·have:=HK.out.1.size;have:=hkW.size;omega
  ·have:=Hz (hq.1.keeps hW (fun h=>h) (fun _ _ h=>h))
   rwa [kJ] at this
 clear hq Ir Xj hwv hkW hE
 go_wp2_with fail
 refine hBt.mono ?_
 clear hBt
 rintro e w2 ⟨b2,rfl,v2,hV,hb2,hv2,hk2⟩
 have rT:=H1.out.2.2 w2 hk2
 have HF:Hid (Ah w b b2 (bP k) w2):=ah ⟨v2,hV,by have:=H1.out.2.1;omega,fun q hq=>by have:=hv2 q hq;have:=H1.out.2.1;omega,H1.out.1.trans hk2 (fun _ _ h=>h.elim)⟩
 clear hV hb2 hv2 hk2
 go_wp2_with fail
 refine rT.mono ?_
 clear rT
 rintro e w' ⟨rfl,rfl⟩
 go_wp2
 refine bodyPost_ret (v:=.tuple #[.pointer (some ⟨b2,0,none⟩),.int .i64 (k.length / 2:Nat),.int .i64 0]) (by simp[results,Tryz.results98,go_sem]) rfl ?_
 exact⟨b2,rfl,HF.out⟩
end
