import Derived.Test.YtcfdpogegngplaaGreatZg0g
set_option maxRecDepth 100000
set_option maxHeartbeats 4000000
namespace Go.Proofs.YtcfdpogegngplaaGreat
section
open Go.RowKit
def dw(wr:World)(g n:Nat)(P:Nat→Prop):Prop :=
 ∃ bs:List Bool,bs.length=n∧(∀ x,x<n→(bs[x]? = some true∧P x)∨(bs[x]? = some false∧¬ P x))∧wr.heap[g]? = some (.cells (bs.map Value.bool).toArray 4 (0,0))
theorem dw.lt{wr:World}{g n:Nat}{P:Nat→Prop}(h:dw wr g n P):g<wr.heap.size:=by
 obtain⟨_,_,_,h3⟩:=h
 exact lt_of_block h3
theorem dw.keeps{w w':World}{g n:Nat}{P:Nat→Prop}{G:Nat→Prop}(h:dw w g n P)(k:Keeps G w w')(hg:¬ G g):dw w' g n P:=by
 obtain⟨bs,h1,h2,h3⟩:=h
 exact⟨bs,h1,h2,k.at h3 hg⟩
theorem dw.iff{wr:World}{g n:Nat}{P Q:Nat→Prop}(h:dw wr g n P)(hQ:∀ x,x<n→(Q x↔P x)):dw wr g n Q:=by
 obtain⟨bs,h1,h2,h3⟩:=h
 refine⟨bs,h1,fun x hx=>?_,h3⟩
 rcases h2 x hx with⟨a,b⟩|⟨a,b⟩
 ·exact .inl ⟨a,(hQ x hx).2 b⟩
 ·exact .inr ⟨a,fun hq=>b ((hQ x hx).1 hq)⟩
theorem dw.cell{wr:World}{g n:Nat}{P:Nat→Prop}(h:dw wr g n P){x:Nat}(hx:x<n):∃ t:Bool,(t=true↔P x)∧wr.cell? ⟨g,x,none⟩=some (.bool t)∧wr.frozen? ⟨g,x,none⟩=false:=by
 obtain⟨bs,h1,h2,h3⟩:=h
 have hc:=ak h3 x
 have hf:=au h3 x
 rcases h2 x hx with⟨a,b⟩|⟨a,b⟩
 ·exact⟨true,by simp[b],by rw[hc];simp[a],hf⟩
 ·exact⟨false,by simp[b],by rw[hc];simp[a],hf⟩
theorem dw.set{wr:World}{g n:Nat}{P Q:Nat→Prop}(h:dw wr g n P){x:Nat}(hx:x<n)(hQ:∀ y,y<n→(Q y↔P y∨y=x)):dw (wr.setCell ⟨g,x,none⟩ (.bool true)) g n Q:=by
 obtain⟨bs,h1,h2,h3⟩:=h
 refine⟨bs.set x true,by simpa using h1,fun y hy=>?_,?_⟩
 ·rw[List.getElem?_set]
  by_cases hxy:x=y
  ·subst hxy
   left
   rw[if_pos rfl,if_pos (by omega)]
   exact⟨rfl,(hQ x hx).2 (.inr rfl)⟩
  ·rw[if_neg hxy]
   rcases h2 y hy with⟨a,b⟩|⟨a,b⟩
   ·exact .inl ⟨a,(hQ y hy).2 (.inl b)⟩
   ·exact .inr ⟨a,fun hq=>by rcases (hQ y hy).1 hq with c|c;exact b c;exact hxy c.symm⟩
 ·rw[dM h3 x (.bool true)]
  simp[List.map_set]
def Dn(out:List (Nat × Nat))(m:Nat)(zs:List Int):Prop:=∀ e,e<m→zs[e]? = some (match iK out e with|some k=>(k:Int)+1|none=>0)
theorem Dn.old{out:List (Nat × Nat)}{m d k x:Nat}{zs:List Int}(h:Dn out m zs)(hf:iK out (d / 2)=some x):Dn (out ++ [(d,k)]) m zs:=fun e he=>by
 rw[h e he,qm7 (k:=k) hf e]
theorem Dn.new{out:List (Nat × Nat)}{m d k:Nat}{zs:List Int}(hl:zs.length=m)(h:Dn out m zs)(hf:iK out (d / 2)=none)(hd:d / 2<m):Dn (out ++ [(d,k)]) m (zs.set (d / 2) ((k:Int)+1)):=fun e he=>by
 rw[List.getElem?_set,Vp]
 by_cases c:d / 2=e
 ·subst c
  rw[if_pos rfl,if_pos (by omega),hf];simp
 ·rw[if_neg c,h e he,if_neg c]
  cases iK out e <;> rfl
def Own2(B:Nat)(w:World)(v:Value)(ps:List (Nat × Nat)):Prop:=w.ownsRow B 142 2 v ps.length ((ps.map fun p=>[Value.int .i64 p.1,Value.int .i64 p.2]).flatten)
theorem Own2.nil(B:Nat)(w:World):Own2 B w (.slice none 0 0) []:=World.ownsRow_nil _ _ _ _
theorem Own2.keeps{B:Nat}{w w':World}{v:Value}{ps:List (Nat × Nat)}{F:Nat→Prop}(h:Own2 B w v ps)(k:Keeps F w w')(hf:∀ b,v.ownBlock=some b→¬ F b):Own2 B w' v ps:=k.owns h hf
theorem Own2.lt{B:Nat}{w:World}{v:Value}{ps:List (Nat × Nat)}(h:Own2 B w v ps):∀ k,v.ownBlock=some k→B≤k∧k<w.heap.size:=World.ownsRow.lt h
theorem Own2.form{B:Nat}{w:World}{v:Value}{ps:List (Nat × Nat)}(h:Own2 B w v ps):∃ a cap,v=.slice a ps.length cap:=by
 obtain⟨_,h⟩:=h
 rcases h with⟨rfl,h0⟩|⟨g,cap,cur,rfl,_⟩
 ·exact⟨none,0,by rw[h0]⟩
 ·exact⟨_,cap,rfl⟩
theorem qd0:∀ (ps:List (Nat × Nat)) (j:Nat) (p:Nat × Nat),ps[j]? = some p→((ps.map fun p=>[Value.int .i64 p.1,Value.int .i64 p.2]).flatten)[j * 2]? = some (.int .i64 p.1)∧((ps.map fun p=>[Value.int .i64 p.1,Value.int .i64 p.2]).flatten)[j * 2+1]? = some (.int .i64 p.2)
 | [],j,p,h=>by simp at h
 | q :: ps,0,p,h=>by
  obtain rfl:q=p:=by simpa using h
  exact⟨rfl,rfl⟩
 | q :: ps,j+1,p,h=>by
  have ih:=qd0 ps j p (by simpa using h)
  have e1:(j+1) * 2=j * 2+1+1:=by omega
  rw[e1]
  exact ih
theorem Own2.cell{B:Nat}{w:World}{v:Value}{ps:List (Nat × Nat)}(h:Own2 B w v ps){j:Nat}{p:Nat × Nat}(hp:ps[j]? = some p):∃ g cap,v=.slice (some ⟨g,0,none⟩) ps.length cap∧w.cell? ⟨g,j * 2,none⟩=some (.int .i64 p.1)∧w.cell? ⟨g,j * 2+1,none⟩=some (.int .i64 p.2):=by
 have hj:=fK hp
 obtain⟨h0,h2⟩:=id h
 obtain⟨e1,e2⟩:=qd0 ps j p hp
 rcases h2 with⟨_,h2⟩|⟨g,cap,cur,rfl,_⟩
 ·omega
 ·refine⟨g,cap,rfl,?_,?_⟩
  ·rw[World.ownsRow.cellAt h _ (by omega)];exact e1
  ·rw[World.ownsRow.cellAt h _ (by omega)];exact e2
structure WS (w:World)(b:Nat)(s:List Nat)(rt ln:Int)(R:Nat→Prop)(bs ge gm nv root:Nat)(out:List (Nat × Nat))(ov:Value)(so:List (Nat × Nat))(wr:World):Prop where
 mq:∃ R',MapAt wr b s rt ln R'∧(∀ x,R' x→R x∨(w.heap.size≤x∧x<wr.heap.size))∧¬ R' bs∧¬ R' ge∧¬ R' gm∧∀ k,ov.ownBlock=some k→¬ R' k
 st:Own2 w.heap.size wr ov so
 sp:∀ k,ov.ownBlock=some k→k≠bs∧k≠ge∧k≠gm
 bx:wr.heap[bs]? = some (.cells #[.pointer (some ⟨b,0,none⟩),.slice (some ⟨ge,0,none⟩) (s.length / 2) (s.length / 2),.slice (some ⟨gm,0,none⟩) nv nv] 191 (0,0))
 ed:∃ zs,zs.length=s.length / 2∧aF w.heap.size wr (.slice (some ⟨ge,0,none⟩) (s.length / 2) (s.length / 2)) zs∧Dn out (s.length / 2) zs
 me:dw wr gm nv (fun v=>dB (aD (sg s)) root out v=true)
 vl:bT (sg s) s.length≤nv
 ap:bs≠ge∧bs≠gm∧ge≠gm∧w.heap.size≤bs∧w.heap.size≤ge∧w.heap.size≤gm
 bw:b<w.heap.size
 dR:Keeps (fun k=>k=b) w wr
section
variable {w:World} {b:Nat} {s:List Nat} {rt ln:Int} {R:Nat→Prop} {bs ge gm nv root:Nat} {out:List (Nat × Nat)} {ov:Value} {so:List (Nat × Nat)} {wr:World} (h:WS w b s rt ln R bs ge gm nv root out ov so wr)
include h
theorem WS.ltb:bs<wr.heap.size∧ge<wr.heap.size∧gm<wr.heap.size:=by
 obtain⟨zs,_,h1,_⟩:=h.ed
 exact⟨lt_of_block h.bx,(h1.lt ge rfl).2,h.me.lt⟩
theorem WS.ask:∃ R',MapAt wr b s rt ln R'∧∀ w2,fH wr b s rt ln R' w2→WS w b s rt ln R bs ge gm nv root out ov so w2:=by
 obtain⟨R',h1,h2,h3,h4,h5,h6⟩:=h.mq
 have hb:=h.bw
 obtain⟨l1,l2,l3⟩:=h.ltb
 obtain⟨a1,a2,a3,a4,a5,a6⟩:=h.ap
 obtain⟨zs,z1,z2,z3⟩:=h.ed
 refine⟨R',h1,fun w2 hq=>⟨⟨grow R' wr w2,hq.1,fun x hx=>?_,fun hx=>?_,fun hx=>?_,fun hx=>?_,fun k hk hx=>?_⟩,h.st.keeps hq.2 (fun q hq' e=>by have:=(h.st.lt q hq').1;omega),h.sp,hq.2.at h.bx (by omega),⟨zs,z1,z2.keeps hq.2 (fun q hq' e=>by have:=(z2.lt q hq').1;omega),z3⟩,h.me.keeps hq.2 (by omega),h.vl,h.ap,hb,h.dR.trans hq.2 (fun _ _ e=>e)⟩⟩
 ·have hs:=h.dR.size
  have hs2:=hq.2.size
  rcases hx with hx|hx
  ·rcases h2 x hx with e|e
   ·exact .inl e
   ·exact .inr ⟨e.1,by omega⟩
  ·exact .inr ⟨by omega,hx.2⟩
 ·rcases hx with hx|hx
  ·exact h3 hx
  ·omega
 ·rcases hx with hx|hx
  ·exact h4 hx
  ·omega
 ·rcases hx with hx|hx
  ·exact h5 hx
  ·omega
 ·rcases hx with hx|hx
  ·exact h6 k hk hx
  ·have:=(h.st.lt k hk).2;omega
theorem WS.app{ps:List (Nat × Nat)}{g5 m cap:Nat}{w5:World}(ho:Own2 w.heap.size w5 (.slice (some ⟨g5,0,none⟩) m cap) ps)(k:Keeps (fun q=>ov.ownBlock=some q) wr w5)(hat:ov.ownBlock=some g5∨wr.heap.size≤g5) :
  WS w b s rt ln R bs ge gm nv root out (.slice (some ⟨g5,0,none⟩) m cap) ps w5:=by
 obtain⟨R',h1,h2,h3,h4,h5,h6⟩:=h.mq
 have hb:=h.bw
 obtain⟨l1,l2,l3⟩:=h.ltb
 obtain⟨a1,a2,a3,a4,a5,a6⟩:=h.ap
 obtain⟨zs,z1,z2,z3⟩:=h.ed
 have hs2:=k.size
 have hne:∀ x,ov.ownBlock=some x→w.heap.size≤x∧x≠bs∧x≠ge∧x≠gm:=fun x hx=>⟨(h.st.lt x hx).1,h.sp x hx⟩
 refine⟨⟨R',h1.keeps k (fun e=>by have:=(hne b e).1;omega) (fun x hx e=>h6 x e hx),fun x hx=>?_,h3,h4,h5,fun q hq hx=>?_⟩,ho,fun q hq=>?_,k.at h.bx (fun e=>(hne bs e).2.1 rfl),⟨zs,z1,z2.keeps k (fun q hq e=>by simp only [Value.ownBlock,Option.some.injEq] at hq;subst hq;exact (hne _ e).2.2.1 rfl),z3⟩,h.me.keeps k (fun e=>(hne gm e).2.2.2 rfl),h.vl,h.ap,hb,h.dR.trans k (fun x hx e=>by have:=(hne x e).1;omega)⟩
 ·rcases h2 x hx with e|e
  ·exact .inl e
  ·exact .inr ⟨e.1,by omega⟩
 ·simp only [Value.ownBlock,Option.some.injEq] at hq
  subst hq
  rcases hat with e|e
  ·exact h6 _ e hx
  ·have:=h1.old _ hx;omega
 ·simp only [Value.ownBlock,Option.some.injEq] at hq
  subst hq
  rcases hat with e|e
  ·exact (hne _ e).2
  ·omega
theorem WS.old{d k x:Nat}(hf:iK out (d / 2)=some x)(hk:k≠0):WS w b s rt ln R bs ge gm nv root (out ++ [(d,k)]) ov so wr:=by
 obtain⟨zs,z1,z2,z3⟩:=h.ed
 refine⟨h.mq,h.st,h.sp,h.bx,⟨zs,z1,z2,z3.old hf⟩,h.me.iff (fun v hv=>?_),h.vl,h.ap,h.bw,h.dR⟩
 rw[yw]
 exact⟨fun e=>e.resolve_right (fun e=>hk e.1),.inl⟩
theorem WS.mark{v:Nat}(hv:v<nv):∃ zs,zs.length=s.length / 2∧aF w.heap.size (wr.setCell ⟨gm,v,none⟩ (.bool true)) (.slice (some ⟨ge,0,none⟩) (s.length / 2) (s.length / 2)) zs∧Dn out (s.length / 2) zs ∧
  dw (wr.setCell ⟨gm,v,none⟩ (.bool true)) gm nv (fun u=>dB (aD (sg s)) root out u=true∨u=v):=by
 obtain⟨zs,z1,z2,z3⟩:=h.ed
 obtain⟨a1,a2,a3,a4,a5,a6⟩:=h.ap
 have kk:=(Keeps.refl (fun q=>q=gm) wr).setCell (p:=⟨gm,v,none⟩) (.inl rfl) (.bool true)
 exact⟨zs,z1,z2.keeps kk (fun q hq' e=>by simp only [Value.ownBlock,Option.some.injEq] at hq';omega),z3,h.me.set hv (fun y _=>Iff.rfl)⟩
theorem WS.new{d k:Nat}(hd:d<s.length)(he:s.length % 2=0)(hf:iK out (d / 2)=none)(hk:k=0∨k=2):∀ w1,(k=0∧aD (sg s) (mt d)<nv∧w1=wr.setCell ⟨gm,aD (sg s) (mt d),none⟩ (.bool true))∨(k=2∧w1=wr) →
  WS w b s rt ln R bs ge gm nv root (out ++ [(d,k)]) ov so (w1.setCell ⟨ge,d / 2,none⟩ (.int .i64 ((k:Int)+1))):=by
 intro w1 hw1
 obtain⟨R',h1,h2,h3,h4,h5,h6⟩:=h.mq
 obtain⟨a1,a2,a3,a4,a5,a6⟩:=h.ap
 have hb:=h.bw
 have hdl:d / 2<s.length / 2:=by omega
 have key:Keeps (fun q=>q=gm) wr w1∧(∃ zs,zs.length=s.length / 2∧aF w.heap.size w1 (.slice (some ⟨ge,0,none⟩) (s.length / 2) (s.length / 2)) zs∧Dn out (s.length / 2) zs)∧dw w1 gm nv (fun u=>dB (aD (sg s)) root (out ++ [(d,k)]) u=true):=by
  rcases hw1 with⟨rfl,hv,rfl⟩|⟨rfl,rfl⟩
  ·obtain⟨zs,z1,z2,z3,z4⟩:=h.mark hv
   refine⟨(Keeps.refl (fun q=>q=gm) wr).setCell (p:=⟨gm,_,none⟩) (.inl rfl) (.bool true),⟨zs,z1,z2,z3⟩,z4.iff (fun u _=>?_)⟩
   rw[yw]
   exact⟨fun e=>e.imp id (fun e=>e.2.symm),fun e=>e.imp id (fun e=>⟨rfl,e.symm⟩)⟩
  ·refine⟨Keeps.refl _ _,h.ed,h.me.iff (fun u _=>?_)⟩
   rw[yw]
   exact⟨fun e=>e.resolve_right (fun e=>by omega),.inl⟩
 obtain⟨k1,⟨zs,z1,z2,z3⟩,z4⟩:=key
 have kk:=(Keeps.refl (fun q=>q=ge) w1).setCell (p:=⟨ge,d / 2,none⟩) (.inl rfl) (.int .i64 ((k:Int)+1))
 have k2:=(k1.mono (fun _ _ e=>.inl e):Keeps (fun q=>q=gm∨q=ge) wr w1).trans kk (fun x _ e=>.inr e)
 have hs2:=k2.size
 refine⟨⟨R',h1.keeps k2 (fun hg=>by omega) (fun x hx e=>by rcases e with e|e;exact h5 (e ▸ hx);exact h4 (e ▸ hx)),fun x hx=>?_,h3,h4,h5,h6⟩,h.st.keeps k2 (fun q hq e=>by have:=h.sp q hq;rcases e with e|e;exact this.2.2 e;exact this.2.1 e),h.sp,k2.at h.bx (by omega),⟨zs.set (d / 2) ((k:Int)+1),by simpa using z1,z2.set (d / 2) _,z3.new z1 hf hdl⟩,z4.keeps kk (by omega),h.vl,h.ap,hb,h.dR.trans k2 (fun x hx e=>by omega)⟩
 rcases h2 x hx with e|e
 ·exact .inl e
 ·exact .inr ⟨e.1,by omega⟩
end
theorem fH.tF{w w':World}{b:Nat}{s:List Nat}{root lone:Int}{R:Nat→Prop}(h:fH w.drew b s root lone R w'):fH w b s root lone R w' :=
 ⟨h.1,((Keeps.refl (fun x=>x=b) w).drew).trans h.2 (fun _ _ e=>e)⟩
theorem qh9{aC:Nat→Nat}{root d x:Nat}{out:List (Nat × Nat)}(h:iK out (d / 2)=some x):bJ aC root out d=x+1:=by rw[qct,h]
theorem qa8{aC:Nat→Nat}{root d:Nat}{out:List (Nat × Nat)}(h:iK out (d / 2)=none):bJ aC root out d=if dB aC root out (aC (mt d)) then 2 else 0:=by rw[qct,h]
theorem qm4{w:World}{b:Nat}{s:List Nat}{rt ln:Int}{R:Nat→Prop}{bs ge gm nv root:Nat}{out:List (Nat × Nat)}{ov:Value}{so:List (Nat × Nat)}{wr:World}(h:WS w b s rt ln R bs ge gm nv root out ov so wr)
  {d:Nat}(hd:d<s.length)(hf:∀ e k,iK out e=some k→k=0∨k=2) :
  Calls Tryz.prog 130 #[.pointer (some ⟨bs,0,none⟩),.int .i64 d] wr fun e w'=>e=.returned (.int .i64 (bJ (aD (sg s)) root out d:Nat))∧WS w b s rt ln R bs ge gm nv root (out ++ [(d,bJ (aD (sg s)) root out d)]) ov so w':=by
 obtain⟨R',kY,j5⟩:=h.ask
 have hev:=kY.even
 have hle:=kY.le
 have hc0:wr.cell? ⟨bs,0,none⟩=some (.pointer (some ⟨b,0,none⟩)):=ak h.bx 0
 have hc1:wr.cell? ⟨bs,1,none⟩=some (.slice (some ⟨ge,0,none⟩) (s.length / 2) (s.length / 2)):=ak h.bx 1
 obtain⟨e,hee⟩:∃ e,e=d / 2:=⟨_,rfl⟩
 have hel:e<s.length / 2:=by omega
 have q1:(d:Int).tdiv 2=(e:Int):=by rw[hee,Int.tdiv_eq_ediv_of_nonneg (by omega)];simp
 have q2:(d:Int) / 2=(e:Int):=by rw[hee];simp
 obtain⟨zs,hz1,hz2,hz3⟩:=h.ed
 have Bt:=hz3 e hel
 have HE:=ah hee
 cases hfs:iK out e with
 | some x =>
  rw[hfs] at Bt
  have hcell:=(hz2.cell Bt).1
  rw[hee] at hfs
  have hkb:=qh9 (aC:=aD (sg s)) (root:=root) hfs
  have hold:=h.old (k:=x+1) hfs (by omega)
  rcases hf _ _ hfs with rfl|rfl
  ·have HF:=ah (aj hkb hold)
   clear h kY j5 hz1 hz2 hz3 Bt hfs hee hkb hold hf
   generalize s.length / 2=N at *
   go_enter Tryz.func130,Tryz.ntmps130
   go_wp2
   go_ret
   exact⟨by rw[HF.out.1];rfl,by rw[HF.out.1];exact HF.out.2⟩
  ·have HF:=ah (aj hkb hold)
   clear h kY j5 hz1 hz2 hz3 Bt hfs hee hkb hold hf
   generalize s.length / 2=N at *
   go_enter Tryz.func130,Tryz.ntmps130
   go_wp2
   go_ret
   exact⟨by rw[HF.out.1];rfl,by rw[HF.out.1];exact HF.out.2⟩
 | none =>
  rw[hfs] at Bt
  have hcell:=(hz2.cell Bt).1
  rw[hee] at hfs
  have hkb:=qa8 (aC:=aD (sg s)) (root:=root) hfs
  have kd:=(Keeps.refl (fun _=>False) wr).drew
  have Il:=kY.keeps kd (fun h=>h) (fun _ _ h=>h)
  have hml:=aU hev hd
  have hMt:=MX Il d hd
  have vN:=VF Il (mt d) hml
  have BS:wr.drew.cell? ⟨bs,0,none⟩=some (.pointer (some ⟨b,0,none⟩)):=hc0
  have hvl:=kY.dH.lG hml
  have uJ:aD (sg s) (mt d)<nv:=Nat.lt_of_lt_of_le hvl h.vl
  have aiJ:=yZ (sg s) s.length
  obtain⟨y,hy⟩:∃ y,y=mt d:=⟨_,rfl⟩
  obtain⟨v,hv⟩:∃ v,v=aD (sg s) y:=⟨_,rfl⟩
  rw[← hy] at hMt vN uJ hvl hml hkb
  rw[← hv] at vN uJ hvl hkb
  have J3:=ah (aj hy hv)
  have HA:=ah (aj j5 (aj hfs (aj hkb hev)))
  have hNl:s.length / 2≤131072:=by omega
  clear h kY j5 hz1 hz2 hz3 Bt hfs hee hkb hf hy hv kd Il hev
  generalize hN:s.length / 2=N at *
  have HN:=ah hN
  clear hN
  go_enter Tryz.func130,Tryz.ntmps130
  go_wp2_with fail
  go_region_held3 (fun w'=>w'.cell? ⟨bs,0,none⟩=some (.pointer (some ⟨b,0,none⟩))) (first|exact BS|exact Wj) (first | (go_at_call 86;refine hMt.mono ?_;rintro e w' ⟨rfl,rfl⟩) | (go_at_call 129;refine vN.mono ?_;rintro e w2 ⟨rfl,hq⟩;have hW2:=HA.out.1 w2 hq.tF;have Wj:w2.cell? ⟨bs,0,none⟩=some (.pointer (some ⟨b,0,none⟩)):=ak hW2.bx 0;have HW2:=ah hW2;clear hW2 hq))
  clear hMt vN BS hc0 hc1 hcell
  have hc2:w2.cell? ⟨bs,2,none⟩=some (.slice (some ⟨gm,0,none⟩) nv nv):=ak HW2.out.bx 2
  have hc1:w2.cell? ⟨bs,1,none⟩=some (.slice (some ⟨ge,0,none⟩) N N):=by
   have:=ak HW2.out.bx 1
   rw[HN.out] at this
   exact this
  obtain⟨t,ht,hct,hft⟩:=HW2.out.me.cell uJ
  obtain⟨zs,hz1,hz2,hz3⟩:=HW2.out.ed
  rw[HN.out] at hz2 hz3
  have hce:=hz2.cell (hz3 e hel)
  have zV:=hce.1
  have Nl:=hce.2
  obtain⟨ze,Bt⟩:∃ ze,ze=(match iK out e with|some k=>(k:Int)+1|none=>0):=⟨_,rfl⟩
  rw[← Bt] at zV
  obtain⟨a1,a2,a3,a4,a5,a6⟩:=HW2.out.ap
  clear hz1 hz2 hz3 hce Bt
  cases t with
  | true =>
   have hkb2:=HA.out.2.2.1
   rw[if_pos (ht.1 rfl)] at hkb2
   have hnew:=HW2.out.new (k:=2) hd HA.out.2.2.2 HA.out.2.1 (.inr rfl) w2 (.inr ⟨rfl,rfl⟩)
   rw[← HE.out] at hnew
   have HF:=ah (aj hkb2 hnew)
   clear ht hkb2 hnew a1 a2 a3 a4 a5 a6
   go_wp2
   go_ret
   exact⟨by rw[HF.out.1];rfl,by rw[HF.out.1];exact HF.out.2⟩
  | false =>
   have hkb2:=HA.out.2.2.1
   have hnm:¬ dB (aD (sg s)) root out v=true:=fun hh=>by cases ht.2 hh
   rw[if_neg hnm] at hkb2
   have hnew:=HW2.out.new (k:=0) hd HA.out.2.2.2 HA.out.2.1 (.inl rfl) (w2.setCell ⟨gm,v,none⟩ (.bool true)) (.inl ⟨rfl,by rw[← J3.out.1,← J3.out.2];exact uJ,by rw[← J3.out.1,← J3.out.2]⟩)
   rw[← HE.out] at hnew
   have HF:=ah (aj hkb2 hnew)
   have kk:=(Keeps.refl (fun q=>q=gm) w2).setCell (p:=⟨gm,v,none⟩) (.inl rfl) (.bool true)
   have hb3:=kk.at HW2.out.bx (by omega)
   have aiK:(w2.setCell ⟨gm,v,none⟩ (.bool true)).cell? ⟨bs,1,none⟩=some (.slice (some ⟨ge,0,none⟩) N N):=by
    have:=ak hb3 1
    rw[HN.out] at this
    exact this
   have aiL:(w2.setCell ⟨gm,v,none⟩ (.bool true)).cell? ⟨ge,e,none⟩=some (.int .i64 ze):=(World.cell?_setCell_other _ ⟨gm,v,none⟩ ⟨ge,e,none⟩ _ (by simp <;> omega)).trans zV
   clear ht hkb2 hnew hnm kk hb3
   go_wp2
   go_ret
   exact⟨by rw[HF.out.1];rfl,by rw[HF.out.1];exact HF.out.2⟩
end
section
open Go.RowKit
theorem qm5:(Tryz.prog.info? 142).map (fun i=>(i.zero,i.size,i.bytes))=some (some (.agg #[.int .i64 0,.int .i64 0]),2,16):=by kernel_rfl
theorem qd1(w:World)(a b:Value)(t:TypeId):∀ j u,[a,b][j]? = some u→(w.alloc (.cells #[a,b] t)).cell? ((⟨w.heap.size,0,none⟩:Addr).add j)=some u:=by
 intro j u hj
 match j,hj with
 | 0,hj=>simp at hj;subst hj;simp[Addr.add]
 | 1,hj=>simp at hj;subst hj;simp[Addr.add]
 | j+2,hj=>simp at hj
theorem Wm{ops:Array Oper}{rest:List Oper}{o:Oper}{a:Act}{Q:Exit→Act→World→Prop}{wr:World}(n:Nat)(hgd:o.guard=none)(s x:Operand)
  (ho:o.op=.call { callee:=.builtin .append,args:=#[s,x],argTypes:=#[138,138] })(B:Nat)(v:Value)(ps:List (Nat × Nat))(d k:Nat)(hn:Hid (ps.length=n))(H:Nat)(hH:wr.heap.size=H)(hs:a.eval s=v)(hx:a.eval x=.slice (some ⟨H,0,none⟩) 1 1)
  (hown:Own2 B wr v ps)(hlen:n≤100000000)(hB:B≤wr.heap.size)
  (h:∀ g cap w',Own2 B w' (.slice (some ⟨g,0,none⟩) (n+1) cap) (ps ++ [(d,k)])→Keeps (fun k=>v.ownBlock=some k) wr w'→(v.ownBlock=some g∨wr.heap.size≤g) →
   wpList Tryz.prog ops Q rest (a.put o.dst (.slice (some ⟨g,0,none⟩) (n+1) cap)) w') :
  wpList Tryz.prog ops Q (o :: rest) a (wr.alloc (.cells #[.int .i64 d,.int .i64 k] 142)):=by
 obtain⟨i,hi,hz0,hz1,hz2⟩:=info_parts qm5
 have hn:=hn.out
 subst hn
 subst hH
 refine wpList_append_lies _ hgd s x _ ho B 142 i _ 2 16 Tryz.underlying138 hi hz0 hz1 hz2 rfl (by decide) v ps.length _ hs (World.ownsRow.alloc hown _) ⟨wr.heap.size,0,none⟩ 1 1 [.int .i64 d,.int .i64 k] hx rfl (qd1 _ _ _ _) ?_ (by decide) ?_ ?_ ?_ (wr.heap.size+1) (by simp) ?_
 ·intro u hu;simp at hu;rcases hu with rfl|rfl <;> rfl
 ·unfold maxLen;omega
 ·omega
 ·simp;omega
 ·intro g cap w1 hown1 hgrow hat _
  refine h g cap w1 ?_ (((Keeps.refl _ wr).alloc _).grown hgrow (fun k hk=>.inl hk)) (hat.imp id (fun h=>by omega))
  unfold Own2
  rw[List.length_append,List.map_append,List.flatten_append]
  exact hown1
theorem qg5(S aC:Nat→Nat)(root:Nat):∀ j e k,iK (aX S aC root j).2 e=some k→k=0∨k=2
 | 0,e,k,h=>by simp[aX,iK] at h
 | j+1,e,k,h=>by
  have h1:(aX S aC root (j+1)).2=(aX S aC root j).2 ++ [((aX S aC root j).1,bJ aC root (aX S aC root j).2 (aX S aC root j).1)]:=rfl
  rw[h1,Vp] at h
  cases hf:iK (aX S aC root j).2 e with
  | some x =>
   rw[hf] at h
   simp only [Option.some.injEq] at h
   subst h
   exact qg5 S aC root j e x hf
  | none =>
   rw[hf] at h
   simp only at h
   by_cases he:(aX S aC root j).1 / 2=e
   ·rw[if_pos he] at h
    simp only [Option.some.injEq] at h
    subst he
    rw[qa8 hf] at h
    rw[← h]
    split
    ·exact .inr rfl
    ·exact .inl rfl
   ·rw[if_neg he] at h;cases h
structure WR (w:World)(b:Nat)(s:List Nat)(rt ln:Int)(R:Nat→Prop)(bs ge gm nv ne:Nat)(wx:World):Prop where
 mq:∃ R',MapAt wx b s rt ln R'∧(∀ x,R' x→R x∨(w.heap.size≤x∧x<wx.heap.size))∧¬ R' bs∧¬ R' ge∧¬ R' gm
 bx:wx.heap[bs]? = some (.cells #[.pointer (some ⟨b,0,none⟩),.slice (some ⟨ge,0,none⟩) ne ne,.slice (some ⟨gm,0,none⟩) nv nv] 191 (0,0))
 eg:wx.heap[ge]? = some (.cells (madeCells #[.int .i64 0] ne) 3 (0,0))
 mg:wx.heap[gm]? = some (.cells (madeCells #[.bool false] nv) 4 (0,0))
 ap:bs≠ge∧bs≠gm∧ge≠gm∧w.heap.size≤bs∧w.heap.size≤ge∧w.heap.size≤gm
 dR:Keeps (fun k=>k=b) w wx
theorem Wn(w:World)(a b:Obj):((w.alloc a).alloc b).heap[w.heap.size]? = some a∧((w.alloc a).alloc b).heap[w.heap.size+1]? = some b∧Keeps (fun _=>False) w ((w.alloc a).alloc b)∧((w.alloc a).alloc b).heap.size=w.heap.size+2:=by
 have k:=(Keeps.refl (fun _=>False) (w.alloc a)).alloc b
 refine⟨k.at (heap_alloc_new w a) (fun h=>h),?_,((Keeps.refl (fun _=>False) w).alloc a).trans k (fun _ _ h=>h),by simp⟩
 have:=heap_alloc_new (w.alloc a) b
 simpa using this
theorem qn2(w:World)(a b c:Obj):(((w.alloc a).alloc b).alloc c).heap[w.heap.size]? = some a∧(((w.alloc a).alloc b).alloc c).heap[w.heap.size+1]? = some b∧(((w.alloc a).alloc b).alloc c).heap[w.heap.size+2]? = some c∧Keeps (fun _=>False) w (((w.alloc a).alloc b).alloc c)∧(((w.alloc a).alloc b).alloc c).heap.size=w.heap.size+3:=by
 obtain⟨h1,h2,h3,h4⟩:=Wn w a b
 have k:=(Keeps.refl (fun _=>False) ((w.alloc a).alloc b)).alloc c
 refine⟨k.at h1 (fun h=>h),k.at h2 (fun h=>h),?_,h3.trans k (fun _ _ h=>h),by simp⟩
 have:=heap_alloc_new ((w.alloc a).alloc b) c
 rw[h4] at this
 exact this
theorem WR.a{w w1 w2:World}{b:Nat}{s:List Nat}{rt ln:Int}{R:Nat→Prop}{nv ne:Nat}(h:MapAt w b s rt ln R)(hw1:w1=(w.alloc (.cells (madeCells #[.int .i64 0] ne) 3)).drew)(hq:fH w1 b s rt ln R w2) :
  WR w b s rt ln R (w2.heap.size+1) w.heap.size w2.heap.size nv ne ((w2.alloc (.cells (madeCells #[.bool false] nv) 4)).alloc (.cells #[.pointer (some ⟨b,0,none⟩),.slice (some ⟨w.heap.size,0,none⟩) ne ne,.slice (some ⟨w2.heap.size,0,none⟩) nv nv] 191)):=by
 obtain⟨h1,h2,h3,h4⟩:=Wn w2 (.cells (madeCells #[.bool false] nv) 4) (.cells #[.pointer (some ⟨b,0,none⟩),.slice (some ⟨w.heap.size,0,none⟩) ne ne,.slice (some ⟨w2.heap.size,0,none⟩) nv nv] 191)
 have hs1:w1.heap.size=w.heap.size+1:=by rw[hw1];simp
 have xH:Keeps (fun _=>False) w w1:=by rw[hw1];exact ((Keeps.refl _ w).alloc _).drew
 have he1:w1.heap[w.heap.size]? = some (.cells (madeCells #[.int .i64 0] ne) 3 (0,0)):=by rw[hw1];exact heap_alloc_new w _
 have hs2:=hq.2.size
 have hb:=h.lt
 have he2:=(hq.2.at he1 (by omega))
 refine⟨⟨grow R w1 w2,hq.1.keeps h3 (fun h=>h) (fun _ _ h=>h),fun x hx=>?_,fun hx=>?_,fun hx=>?_,fun hx=>?_⟩,h2,h3.at he2 (fun h=>h),h1,⟨by omega,by omega,by omega,by omega,by omega,by omega⟩,((xH.mono (fun _ _ h=>h.elim):Keeps (fun k=>k=b) w w1).trans hq.2 (fun _ _ e=>e)).trans h3 (fun _ _ e=>e.elim)⟩
 ·rcases hx with hx|hx
  ·exact .inl hx
  ·exact .inr ⟨by omega,by omega⟩
 all_goals
  rcases hx with hx|hx
  ·have:=h.old _ hx;omega
  ·omega
theorem WR.b{w w1 w2:World}{b:Nat}{s:List Nat}{rt ln:Int}{R:Nat→Prop}{nv ne:Nat}(h:MapAt w b s rt ln R)(hw1:w1=w.drew)(hq:fH w1 b s rt ln R w2) :
  WR w b s rt ln R (w2.heap.size+2) w2.heap.size (w2.heap.size+1) nv ne (((w2.alloc (.cells (madeCells #[.int .i64 0] ne) 3)).alloc (.cells (madeCells #[.bool false] nv) 4)).alloc (.cells #[.pointer (some ⟨b,0,none⟩),.slice (some ⟨w2.heap.size,0,none⟩) ne ne,.slice (some ⟨w2.heap.size+1,0,none⟩) nv nv] 191)):=by
 obtain⟨h1,h2,h2',h3,h4⟩:=qn2 w2 (.cells (madeCells #[.int .i64 0] ne) 3) (.cells (madeCells #[.bool false] nv) 4) (.cells #[.pointer (some ⟨b,0,none⟩),.slice (some ⟨w2.heap.size,0,none⟩) ne ne,.slice (some ⟨w2.heap.size+1,0,none⟩) nv nv] 191)
 subst hw1
 have hs1:w.drew.heap.size=w.heap.size:=rfl
 have hs2:=hq.2.size
 have hb:=h.lt
 refine⟨⟨grow R w.drew w2,hq.1.keeps h3 (fun h=>h) (fun _ _ h=>h),fun x hx=>?_,fun hx=>?_,fun hx=>?_,fun hx=>?_⟩,h2',h1,h2,⟨by omega,by omega,by omega,by omega,by omega,by omega⟩,(((Keeps.refl (fun k=>k=b) w).drew).trans hq.2 (fun _ _ e=>e)).trans h3 (fun _ _ e=>e.elim)⟩
 ·rcases hx with hx|hx
  ·exact .inl hx
  ·exact .inr ⟨by omega,by omega⟩
 all_goals
  rcases hx with hx|hx
  ·have:=h.old _ hx;omega
  ·omega
theorem WR.c{w w1 w2:World}{b:Nat}{s:List Nat}{rt ln:Int}{R:Nat→Prop}{nv ne:Nat}(h:MapAt w b s rt ln R)(hw1:w1=w.drew)(hq:fH w1 b s rt ln R w2) :
  WR w b s rt ln R (w2.heap.size+2) (w2.heap.size+1) w2.heap.size nv ne (((w2.alloc (.cells (madeCells #[.bool false] nv) 4)).alloc (.cells (madeCells #[.int .i64 0] ne) 3)).alloc (.cells #[.pointer (some ⟨b,0,none⟩),.slice (some ⟨w2.heap.size+1,0,none⟩) ne ne,.slice (some ⟨w2.heap.size,0,none⟩) nv nv] 191)):=by
 obtain⟨h1,h2,h2',h3,h4⟩:=qn2 w2 (.cells (madeCells #[.bool false] nv) 4) (.cells (madeCells #[.int .i64 0] ne) 3) (.cells #[.pointer (some ⟨b,0,none⟩),.slice (some ⟨w2.heap.size+1,0,none⟩) ne ne,.slice (some ⟨w2.heap.size,0,none⟩) nv nv] 191)
 subst hw1
 have hs1:w.drew.heap.size=w.heap.size:=rfl
 have hs2:=hq.2.size
 have hb:=h.lt
 refine⟨⟨grow R w.drew w2,hq.1.keeps h3 (fun h=>h) (fun _ _ h=>h),fun x hx=>?_,fun hx=>?_,fun hx=>?_,fun hx=>?_⟩,h2',h2,h1,⟨by omega,by omega,by omega,by omega,by omega,by omega⟩,(((Keeps.refl (fun k=>k=b) w).drew).trans hq.2 (fun _ _ e=>e)).trans h3 (fun _ _ e=>e.elim)⟩
 ·rcases hx with hx|hx
  ·exact .inl hx
  ·exact .inr ⟨by omega,by omega⟩
 all_goals
  rcases hx with hx|hx
  ·have:=h.old _ hx;omega
  ·omega
theorem dw.zW{w:World}{g n:Nat}(h:w.heap[g]? = some (.cells (madeCells #[.bool false] n) 4 (0,0))):dw w g n (fun _=>False):=by
 have hc:madeCells #[.bool false] n=((List.replicate n false).map Value.bool).toArray:=by
  apply Array.toList_inj.1
  rw[toList_madeCells_one];simp
 exact⟨List.replicate n false,by simp,fun x hx=>.inr ⟨by simp[hx],fun h=>h⟩,by rw[← hc];exact h⟩
theorem WS.Io{w:World}{b:Nat}{s:List Nat}{rt ln:Int}{R:Nat→Prop}{bs ge gm nv root:Nat}{out:List (Nat × Nat)}{ov:Value}{so:List (Nat × Nat)}{wr:World}(h:WS w b s rt ln R bs ge gm nv root out ov so wr)(h0:MapAt w b s rt ln R):fH w b s rt ln R wr:=by
 obtain⟨R',h1,h2,_⟩:=h.mq
 have hb:=h.bw
 have hs:=h.dR.size
 refine⟨h1.mono (fun x hx=>?_) (fun x hx=>?_) (fun hx=>?_),h.dR⟩
 ·rcases h2 x hx with e|e
  ·exact .inl e
  ·exact .inr e
 ·rcases hx with hx|hx
  ·have:=h0.old x hx;omega
  ·exact hx.2
 ·rcases hx with hx|hx
  ·exact h0.zO hx
  ·omega
theorem WR.start{w wx:World}{b:Nat}{s:List Nat}{rt ln:Int}{R R':Nat→Prop}{bs ge gm nv ne root:Nat}(h:WR w b s rt ln R bs ge gm nv ne wx)(hR:∀ x,R' x→R x∨(w.heap.size≤x∧x<wx.heap.size))(hn1:¬ R' bs)(hn2:¬ R' ge)(J4:¬ R' gm)(hne:ne=s.length / 2)(hnb:ne≤1000000)(hvl:bT (sg s) s.length≤nv)(hb:b<w.heap.size)
  {w2:World}(hq:fH wx b s rt ln R' w2)(hv:aD (sg s) root<nv) :
  WS w b s rt ln R bs ge gm nv root [] (.slice none 0 0) [] (w2.setCell ⟨gm,aD (sg s) root,none⟩ (.bool true)):=by
 obtain⟨a1,a2,a3,a4,a5,a6⟩:=h.ap
 have l1:=lt_of_block h.bx
 have l2:=lt_of_block h.eg
 have l3:=lt_of_block h.mg
 have hs1:=h.dR.size
 have hs2:=hq.2.size
 have kk:=(Keeps.refl (fun q=>q=gm) w2).setCell (p:=⟨gm,aD (sg s) root,none⟩) (.inl rfl) (.bool true)
 have he2:=hq.2.at h.eg (by omega)
 have he3:=kk.at he2 (by omega)
 have hm2:dw w2 gm nv (fun _=>False):=(dw.zW h.mg).keeps hq.2 (by omega)
 subst hne
 refine⟨⟨grow R' wx w2,hq.1.keeps kk (fun e=>by omega) (fun x hx e=>?_),fun x hx=>?_,fun hx=>?_,fun hx=>?_,fun hx=>?_,fun k hk=>by simp[Value.ownBlock] at hk⟩,Own2.nil _ _,fun k hk=>by simp[Value.ownBlock] at hk,kk.at (hq.2.at h.bx (by omega)) (by omega),⟨List.replicate (s.length / 2) 0,by simp,⟨by simp[ints],.inr ⟨ge,s.length / 2,_,by simp,a5,he3,by simp,by unfold maxLen;omega,by rw[size_madeCells];simp,?_⟩⟩,fun e he=>by simp[iK,he]⟩,hm2.set hv (fun y _=>?_),hvl,h.ap,hb,(h.dR.trans hq.2 (fun _ _ e=>e)).trans kk (fun x hx e=>by omega)⟩
 ·rcases hx with hx|hx
  ·exact J4 (e ▸ hx)
  ·omega
 ·have hs3:=kk.size
  rcases hx with hx|hx
  ·rcases hR x hx with e|e
   ·exact .inl e
   ·exact .inr ⟨e.1,by omega⟩
  ·exact .inr ⟨by omega,by omega⟩
 ·rcases hx with hx|hx
  ·exact hn1 hx
  ·omega
 ·rcases hx with hx|hx
  ·exact hn2 hx
  ·omega
 ·rcases hx with hx|hx
  ·exact J4 hx
  ·omega
 ·rw[toList_madeCells_one];simp[ints]
 ·unfold dB
  simp
theorem walkOf_any{w:World}{b:Nat}{s:List Nat}{rt:Int}{l:Nat}{R:Nat→Prop}(h:MapAt w b s rt l R){root:Nat}(hr:root<s.length) :
  Calls Tryz.prog 85 #[.pointer (some ⟨b,0,none⟩),.int .i64 root] w fun e w'=>∃ T ov,e=.returned (.tuple #[ov,.int .i64 0])∧eu s.length (sg s) (aD (sg s)) root T∧qL s.length (sg s) root T (fun i=>(aX (sg s) (aD (sg s)) root i).1) (gq (aX (sg s) (aD (sg s)) root T).2) ∧
   Own2 w.heap.size w' ov (aX (sg s) (aD (sg s)) root T).2∧fH w b s rt l R w':=by
 have hP:=h.dH
 have hev:=h.even
 obtain⟨T,hE,hend,hT⟩:=QU hP hev (fun x y hx hy=>hP.dX hx hy) hr
 have hD:=vM h
 have hle:=h.le
 have hln:=h.ln
 have d0:decide ((root:Int)<0)=false:=decide_eq_false (by omega)
 have d1:decide (s.length≤root)=false:=decide_eq_false (by omega)
 have kd:=(Keeps.refl (fun _=>False) w).drew
 have hA0:=h.keeps kd (fun h=>h) (fun _ _ h=>h)
 obtain⟨nv,nJ⟩:∃ nv,nv=bT (sg s) s.length+l:=⟨_,rfl⟩
 obtain⟨ne,hne⟩:∃ ne,ne=s.length / 2:=⟨_,rfl⟩
 have hll:=yZ (sg s) s.length
 have aiP:nv≤200000:=by omega
 have hneb:ne≤200000:=by omega
 have rT:∀ {W:World} {R':Nat→Prop},MapAt W b s rt l R'→Calls Tryz.prog 25 #[.pointer (some ⟨b,0,none⟩)] W (fun e w'=>e=.returned (.int .i64 (ne:Nat))∧W=w'):=fun hh=>by rw[hne];exact Hz hh
 have Wp:∀ {W:World} {R':Nat→Prop},MapAt W b s rt l R'→Calls Tryz.prog 24 #[.pointer (some ⟨b,0,none⟩)] W (fun e w'=>e=.returned (.int .i64 (nv:Nat))∧fH W b s rt l R' w'):=fun hh=>(q8u hh).mono (fun e w' k=>⟨by rw[k.1,nJ];simp,k.2⟩)
 obtain⟨i,hi,hz0,hz1,hz2⟩:=info_parts pU
 have Nn:=fun w=>run_make (P:=Tryz.prog) w 25 3 i _ Tryz.underlying25 hi hz0 .i64 .i64 (ne:Int) (ne:Int) (by omega) (Int.le_refl _) (by rw[hz2];omega) (by omega)
 simp only [hz1,Int.toNat_natCast,Nat.mul_one] at Nn
 obtain⟨ib,hib,hb0,hb1,hb2⟩:=info_parts qg
 have Np:=fun w=>run_make (P:=Tryz.prog) w 53 4 ib _ Tryz.underlying53 hib hb0 .i64 .i64 (nv:Int) (nv:Int) (by omega) (Int.le_refl _) (by rw[hb2];omega) (by omega)
 simp only [hb1,Int.toNat_natCast,Nat.mul_one] at Np
 have ka:=((Keeps.refl (fun _=>False) w).alloc (.cells (madeCells #[.int .i64 0] ne) 3)).drew
 have hA1:=h.keeps ka (fun h=>h) (fun _ _ h=>h)
 have HP:=ah (aj hP (aj hev (aj hE (aj hend (aj hT (aj nJ (aj hne h)))))))
 clear h hP hev hE hend hT hi hz0 hz1 hz2 hib hb0 hb1 hb2 nJ hne kd ka
 go_enter Tryz.func85,Tryz.ntmps85
 go_wp2_with (go_at_call 38;refine hD.mono ?_;rintro e w' ⟨rfl,rfl⟩)
 clear hD
 go_upto_region 5 with fail
 go_cut [6] from 23 to 31 (fun p6 wz=>∃ wx bs ge gm,wx=wz∧p6=.pointer (some ⟨bs,0,none⟩)∧WR w b s rt l R bs ge gm nv ne wx)
 case first =>
  go_region_with (first | (go_at_call 25;(first | (with_reducible refine (rT hA0).mono ?_) | (with_reducible refine (rT hA2).mono ?_) | (with_reducible refine (rT hA3).mono ?_));rintro e w' ⟨rfl,rfl⟩) | (go_at_call 24;(first | (with_reducible refine (Wp hA0).mono ?_) | (with_reducible refine (Wp hA1).mono ?_));rintro e w2 ⟨rfl,hq⟩;have HQ:=ah hq;have hA2:=hq.1;have hA3:=hA2.keeps ((Keeps.refl (fun _=>False) w2).alloc (.cells (madeCells #[.bool false] nv) 4)) (fun h=>h) (fun _ _ h=>h)))
  all_goals
   go_wp2_with fail
   go_meet
   first
    | exact⟨_,_,_,_,rfl,rfl,WR.a HP.out.2.2.2.2.2.2.2 rfl HQ.out⟩
    | exact⟨_,_,_,_,rfl,rfl,WR.b HP.out.2.2.2.2.2.2.2 rfl HQ.out⟩
    | exact⟨_,_,_,_,rfl,rfl,WR.c HP.out.2.2.2.2.2.2.2 rfl HQ.out⟩
 case rest =>
  obtain⟨wx,bs,ge,gm,rfl,rfl,hW⟩:=hcut
  obtain⟨R',kY,mI,hR2,oF,qY⟩:=hW.mq
  have kd:=(Keeps.refl (fun _=>False) wx).drew
  have vN:=VF (kY.keeps kd (fun h=>h) (fun _ _ h=>h)) root hr
  have hc2:wx.drew.cell? ⟨bs,2,none⟩=some (.slice (some ⟨gm,0,none⟩) nv nv):=ak hW.bx 2
  have hvr:=HP.out.1.lG hr
  obtain⟨v,hv⟩:∃ v,v=aD (sg s) root:=⟨_,rfl⟩
  have uJ:v<nv:=by rw[hv,HP.out.2.2.2.2.2.1];omega
  rw[← hv] at vN
  have hbw:=HP.out.2.2.2.2.2.2.2.lt
  obtain⟨a1,a2,a3,a4,a5,a6⟩:=hW.ap
  have HV:=ah hv
  have Ip:=ah (aj hW (aj mI (aj hR2 (aj oF (aj qY kd)))))
  clear hW kY mI hR2 oF qY kd Nn Np rT Wp hA0 hA1 hv hvr
  go_wp2_with fail
  go_region_held3 (fun w'=>w'.cell? ⟨bs,2,none⟩=some (.slice (some ⟨gm,0,none⟩) nv nv)) (first|exact hc2|exact hc22|exact Nq) (first | (go_at_call 129;refine vN.mono ?_;rintro e w2 ⟨rfl,hq⟩;have hq0:=hq.tF;have hb2:=hq0.2.at Ip.out.1.bx (by omega);have hc22:w2.cell? ⟨bs,2,none⟩=some (.slice (some ⟨gm,0,none⟩) nv nv):=ak hb2 2;obtain⟨t0,ht0,hct,hft⟩:=((dw.zW Ip.out.1.mg).keeps hq0.2 (by omega):dw w2 gm nv (fun _=>False)).cell uJ;have Nq:(w2.setCell ⟨gm,v,none⟩ (.bool true)).cell? ⟨bs,2,none⟩=some (.slice (some ⟨gm,0,none⟩) nv nv):=(World.cell?_setCell_other _ ⟨gm,v,none⟩ ⟨bs,2,none⟩ _ (by simp <;> omega)).trans hc22;have HQ:=ah hq0;clear hq hq0 hb2 ht0))
  have hS0:WS w b s rt l R bs ge gm nv root [] (.slice none 0 0) [] (w2.setCell ⟨gm,v,none⟩ (.bool true)):=by
   rw[HV.out]
   exact Ip.out.1.start Ip.out.2.1 Ip.out.2.2.1 Ip.out.2.2.2.1 Ip.out.2.2.2.2.1 HP.out.2.2.2.2.2.2.1 (by omega) (by have:=HP.out.2.2.2.2.2.1;omega) hbw HQ.out (by rw[← HV.out];exact uJ)
  have Bl:=ah hS0
  clear hS0 vN hc2 hc22 Nq hct hft
  go_wp2_with fail
  generalize World.setCell _ _ _=w3 at *
  have Ry:=ah HP.out.2.2.2.2.1.pos
  have Ud:T≤131072:=by have:=HP.out.2.2.1.le;omega
  go_loopg [7,8,9] T (fun m ov dv tv wr=>∃ j:Nat,j<T∧m=T - j∧dv=.int .i64 ((aX (sg s) (aD (sg s)) root j).1:Nat)∧tv=.int .i64 (DD (gq (aX (sg s) (aD (sg s)) root j).2) j)∧WS w b s rt l R bs ge gm nv root (aX (sg s) (aD (sg s)) root j).2 ov (aX (sg s) (aD (sg s)) root j).2 wr)
  case atStart=>exact⟨0,Ry.out,rfl,rfl,rfl,Bl.out⟩
  case round =>
   clear Bl
   obtain⟨j,hj,aN,rfl,rfl,hW⟩:=hrel
   have HG:=ah aN
   clear aN
   have Ws:=qg5 (sg s) (aD (sg s)) root j
   have hlen:=rO (sg s) (aD (sg s)) root j
   have Iq:aX (sg s) (aD (sg s)) root (j+1)=nX (sg s) (aD (sg s)) root (aX (sg s) (aD (sg s)) root j):=rfl
   obtain⟨d,hd⟩:∃ d,d=(aX (sg s) (aD (sg s)) root j).1:=⟨_,rfl⟩
   obtain⟨out,hout⟩:∃ out,out=(aX (sg s) (aD (sg s)) root j).2:=⟨_,rfl⟩
   have hdn:(aX (sg s) (aD (sg s)) root j).1<s.length:=HP.out.2.2.2.2.1.lt j hj
   have hk4:=HP.out.2.2.1.k4 (j+1) (by omega) (aX (sg s) (aD (sg s)) root j).1 (bJ (aD (sg s)) root (aX (sg s) (aD (sg s)) root j).2 (aX (sg s) (aD (sg s)) root j).1) (by rw[Iq];simp[nX])
   rw[← hout] at hlen Ws hW hk4
   rw[← hd] at hdn hk4 ⊢
   rw[← hout]
   have Dp:aX (sg s) (aD (sg s)) root (j+1)=(sg s (if bJ (aD (sg s)) root out d<2 then mt d else d),out ++ [(d,bJ (aD (sg s)) root out d)]):=by rw[Iq,hd,hout];rfl
   have hK:=qm4 hW hdn Ws
   obtain⟨k,hk⟩:∃ k,k=bJ (aD (sg s)) root out d:=⟨_,rfl⟩
   rw[← hk] at hK hk4 Dp
   have hks:gq (aX (sg s) (aD (sg s)) root (j+1)).2=gq out ++ [k]:=by rw[Dp,pF]
   have zl:DD (gq (aX (sg s) (aD (sg s)) root (j+1)).2) (j+1)=DD (gq out) j+dd k:=by
    rw[hks]
    have:=Em (gq out) k
    rw[GL,hlen] at this
    exact this
   have qy:-(131072:Int)≤DD (gq out) j∧DD (gq out) j≤131072:=by
    have h1:=QD ((gq out).take j) 0
    have h2:=QD ((gq out).take j) 1
    rw[List.length_take] at h1 h2
    unfold DD
    omega
   obtain⟨D,hDv⟩:∃ D,D=DD (gq out) j:=⟨_,rfl⟩
   rw[← hDv] at zl qy ⊢
   have HX:=ah (aj Dp (aj zl (aj hlen hk)))
   clear Iq hd hout Ws Dp hks zl hk hDv hW hlen
   go_wp2_with fail
   refine hK.mono ?_
   rintro en w4 ⟨rfl,J5⟩
   clear hK
   obtain⟨oa,oc,rfl⟩:=J5.st.form
   rw[HX.out.2.2.1] at J5 ⊢
   have hown:=J5.st
   have hsz:=J5.dR.size
   have vO:Hid (out.length=j):=ah HX.out.2.2.1
   have happ:=fun (w5:World) g5 cap=>J5.app (g5:=g5) (m:=j+1) (cap:=cap) (w5:=w5) (ps:=out ++ [(d,k)])
   have HA:=ah happ
   have hjl:j≤100000000:=by omega
   have hml:=aU HP.out.2.1 hdn
   clear happ J5
   have hk3:k=0∨k=1∨2≤k:=by omega
   have arm:True:=trivial
   rcases hk3 with rfl|rfl|hk2
   ·go_wp2_with (at_builtin;refine Wm j rfl _ _ rfl w.heap.size (.slice oa j oc) out d 0 vO w4.heap.size rfl rfl rfl hown hjl hsz ?_;intro g5 cap5 w5 hown5 hk5 gH;have nk:=ah (HA.out w5 g5 cap5 hown5 hk5 gH);clear hown5 hk5 gH)
    obtain⟨R5,pI,_⟩:=nk.out.ask
    have hMt:=MX pI d hdn
    have uK:=JW pI (mt d) hml
    have hwn:=HX.out.1
    rw[if_pos (by omega)] at hwn
    have hDn:=HX.out.2.1
    have hdd:dd 0=1:=by simp[dd]
    rw[hdd] at hDn
    clear pI hown hsz hdd
    refine hMt.mono ?_
    rintro en w' ⟨rfl,rfl⟩
    clear hMt
    go_wp2_with fail
    refine uK.mono ?_
    rintro en w' ⟨rfl,rfl⟩
    clear uK
    obtain⟨Y,hY⟩:∃ Y,Y=sg s (mt d):=⟨_,rfl⟩
    rw[← hY] at hwn ⊢
    have je:=ah (aj hwn hDn)
    clear hwn hDn hY
    by_cases hend:j+1=T
    ·have zX:Y=root:=by
      have h1:=HP.out.2.2.2.1
      rw[← hend,je.out.1] at h1
      exact h1
     have oG:D+1=0:=by
      have h1:=HP.out.2.2.2.2.1.right.lI
      rw[HP.out.2.2.2.2.1.len,← hend,je.out.2] at h1
      exact h1
     subst zX
     have hb1:((D+1) == 0)=true:=by rw[beq_iff_eq];exact oG
     have HF:=ah (aj nk.out.st (nk.out.Io HP.out.2.2.2.2.2.2.2))
     have HE:=ah hend
     clear oG hend
     go_wp2
     go_ret2
     refine⟨T,_,rfl,HP.out.2.2.1,HP.out.2.2.2.2.1,?_,HF.out.2⟩
     rw[← HE.out,je.out.1]
     exact HF.out.1
    ·have zX:Y≠root:=fun e=>by
      have h1:=HP.out.2.2.2.2.1.inj (j+1) 0 (by omega) Ry.out (by show (aX (sg s) (aD (sg s)) root (j+1)).1=root;rw[je.out.1];exact e)
      omega
     have hb2:((Y:Int) == (root:Int))=false:=by rw[beq_eq_false_iff_ne];omega
     have HJ:=ah (show j+1<T by omega)
     clear zX hend
     by_cases oG:D+1=0
     ·have hb1:((D+1) == 0)=true:=by rw[beq_iff_eq];exact oG
      clear oG
      go_wp2
      go_roundg (T - (j+1))
      case measure=>rw[HG.out];omega
      case rel=>exact⟨j+1,HJ.out,rfl,by rw[je.out.1],by rw[je.out.2],by rw[je.out.1];exact nk.out⟩
     ·have hb1:((D+1) == 0)=false:=by rw[beq_eq_false_iff_ne];exact oG
      clear oG
      go_wp2
      go_roundg (T - (j+1))
      case measure=>rw[HG.out];omega
      case rel=>exact⟨j+1,HJ.out,rfl,by rw[je.out.1],by rw[je.out.2],by rw[je.out.1];exact nk.out⟩
   ·go_wp2_with (at_builtin;refine Wm j rfl _ _ rfl w.heap.size (.slice oa j oc) out d 1 vO w4.heap.size rfl rfl rfl hown hjl hsz ?_;intro g5 cap5 w5 hown5 hk5 gH;have nk:=ah (HA.out w5 g5 cap5 hown5 hk5 gH);clear hown5 hk5 gH)
    obtain⟨R5,pI,_⟩:=nk.out.ask
    have hMt:=MX pI d hdn
    have uK:=JW pI (mt d) hml
    have hwn:=HX.out.1
    rw[if_pos (by omega)] at hwn
    have hDn:=HX.out.2.1
    have hdd:dd 1=-1:=by simp[dd]
    rw[hdd] at hDn
    clear pI hown hsz hdd
    refine hMt.mono ?_
    rintro en w' ⟨rfl,rfl⟩
    clear hMt
    go_wp2_with fail
    refine uK.mono ?_
    rintro en w' ⟨rfl,rfl⟩
    clear uK
    obtain⟨Y,hY⟩:∃ Y,Y=sg s (mt d):=⟨_,rfl⟩
    rw[← hY] at hwn ⊢
    have je:=ah (aj hwn hDn)
    clear hwn hDn hY
    by_cases hend:j+1=T
    ·have zX:Y=root:=by
      have h1:=HP.out.2.2.2.1
      rw[← hend,je.out.1] at h1
      exact h1
     have oG:D + -1=0:=by
      have h1:=HP.out.2.2.2.2.1.right.lI
      rw[HP.out.2.2.2.2.1.len,← hend,je.out.2] at h1
      exact h1
     subst zX
     have hb1:((D + -1) == 0)=true:=by rw[beq_iff_eq];exact oG
     have HF:=ah (aj nk.out.st (nk.out.Io HP.out.2.2.2.2.2.2.2))
     have HE:=ah hend
     clear oG hend
     go_wp2
     go_ret2
     refine⟨T,_,rfl,HP.out.2.2.1,HP.out.2.2.2.2.1,?_,HF.out.2⟩
     rw[← HE.out,je.out.1]
     exact HF.out.1
    ·have zX:Y≠root:=fun e=>by
      have h1:=HP.out.2.2.2.2.1.inj (j+1) 0 (by omega) Ry.out (by show (aX (sg s) (aD (sg s)) root (j+1)).1=root;rw[je.out.1];exact e)
      omega
     have hb2:((Y:Int) == (root:Int))=false:=by rw[beq_eq_false_iff_ne];omega
     have HJ:=ah (show j+1<T by omega)
     clear zX hend
     by_cases oG:D + -1=0
     ·have hb1:((D + -1) == 0)=true:=by rw[beq_iff_eq];exact oG
      clear oG
      go_wp2
      go_roundg (T - (j+1))
      case measure=>rw[HG.out];omega
      case rel=>exact⟨j+1,HJ.out,rfl,by rw[je.out.1],by rw[je.out.2],by rw[je.out.1];exact nk.out⟩
     ·have hb1:((D + -1) == 0)=false:=by rw[beq_eq_false_iff_ne];exact oG
      clear oG
      go_wp2
      go_roundg (T - (j+1))
      case measure=>rw[HG.out];omega
      case rel=>exact⟨j+1,HJ.out,rfl,by rw[je.out.1],by rw[je.out.2],by rw[je.out.1];exact nk.out⟩
   ·have q0:((k:Int) == 0)=false:=by rw[beq_eq_false_iff_ne];omega
    have q1:((k:Int) == 1)=false:=by rw[beq_eq_false_iff_ne];omega
    go_wp2_with (at_builtin;refine Wm j rfl _ _ rfl w.heap.size (.slice oa j oc) out d k vO w4.heap.size rfl rfl rfl hown hjl hsz ?_;intro g5 cap5 w5 hown5 hk5 gH;have nk:=ah (HA.out w5 g5 cap5 hown5 hk5 gH);clear hown5 hk5 gH)
    obtain⟨R5,pI,_⟩:=nk.out.ask
    have uK:=JW pI d hdn
    have hwn:=HX.out.1
    rw[if_neg (by omega)] at hwn
    have hDn:=HX.out.2.1
    have hdd:dd k=0:=by unfold dd;rw[if_neg (by omega),if_neg (by omega)]
    rw[hdd,Int.add_zero] at hDn
    clear pI hown hsz hdd
    refine uK.mono ?_
    rintro en w' ⟨rfl,rfl⟩
    clear uK
    obtain⟨Y,hY⟩:∃ Y,Y=sg s d:=⟨_,rfl⟩
    rw[← hY] at hwn ⊢
    have je:=ah (aj hwn hDn)
    clear hwn hDn hY
    by_cases hend:j+1=T
    ·have zX:Y=root:=by
      have h1:=HP.out.2.2.2.1
      rw[← hend,je.out.1] at h1
      exact h1
     have oG:D=0:=by
      have h1:=HP.out.2.2.2.2.1.right.lI
      rw[HP.out.2.2.2.2.1.len,← hend,je.out.2] at h1
      exact h1
     subst zX
     have hb1:((D) == 0)=true:=by rw[beq_iff_eq];exact oG
     have HF:=ah (aj nk.out.st (nk.out.Io HP.out.2.2.2.2.2.2.2))
     have HE:=ah hend
     clear oG hend
     go_wp2
     go_ret2
     refine⟨T,_,rfl,HP.out.2.2.1,HP.out.2.2.2.2.1,?_,HF.out.2⟩
     rw[← HE.out,je.out.1]
     exact HF.out.1
    ·have zX:Y≠root:=fun e=>by
      have h1:=HP.out.2.2.2.2.1.inj (j+1) 0 (by omega) Ry.out (by show (aX (sg s) (aD (sg s)) root (j+1)).1=root;rw[je.out.1];exact e)
      omega
     have hb2:((Y:Int) == (root:Int))=false:=by rw[beq_eq_false_iff_ne];omega
     have HJ:=ah (show j+1<T by omega)
     clear zX hend
     by_cases oG:D=0
     ·have hb1:((D) == 0)=true:=by rw[beq_iff_eq];exact oG
      clear oG
      go_wp2
      go_roundg (T - (j+1))
      case measure=>rw[HG.out];omega
      case rel=>exact⟨j+1,HJ.out,rfl,by rw[je.out.1],by rw[je.out.2],by rw[je.out.1];exact nk.out⟩
     ·have hb1:((D) == 0)=false:=by rw[beq_eq_false_iff_ne];exact oG
      clear oG
      go_wp2
      go_roundg (T - (j+1))
      case measure=>rw[HG.out];omega
      case rel=>exact⟨j+1,HJ.out,rfl,by rw[je.out.1],by rw[je.out.2],by rw[je.out.1];exact nk.out⟩
end
section
open Go.RowKit
def gW(w:World)(bw:Nat)(ks:List Nat)(w':World):Prop :=
 ∃ v,bW w' bw v ks∧w.heap.size≤bw∧(∀ k,v.ownBlock=some k→w.heap.size≤k)∧Keeps (fun _=>False) w w'
theorem gW.base{w0 w w1:World}{bw:Nat}{ks:List Nat}(h:gW w bw ks w1)(k:Keeps (fun _=>False) w0 w):gW w0 bw ks w1:=by
 obtain⟨v,h1,h2,h3,h4⟩:=h
 have:=k.size
 exact⟨v,h1,by omega,fun q hq=>by have:=h3 q hq;omega,k.trans h4 (fun _ _ h=>h)⟩
theorem qbb{out:List (Nat × Nat)}{j:Nat}{p:Nat × Nat}(h:out[j]? = some p):(gq out).take (j+1)=(gq out).take j ++ [p.2]:=lX (by simp[gq,h])
theorem walkWord_any{B:Nat}{lv:Value}{ps:List (Nat × Nat)}{w:World}(hs:Own2 B w lv ps)(k4:∀ p ∈ ps,p.2<4)(hl:ps.length≤1000000) :
  Calls Tryz.prog 170 #[lv] w fun e w'=>∃ bw,e=.returned (.pointer (some ⟨bw,0,none⟩))∧gW w bw (gq ps) w':=by
 have HS:Hid (∀ W,Keeps (fun _=>False) w W→Own2 B W lv ps):=ah (fun W hk=>hs.keeps hk (fun _ _ h=>h))
 obtain⟨la,lc,rfl⟩:=hs.form
 have hN:=Uw w
 have h0:gW w w.heap.size ((gq ps).take 0) (w.alloc (.cells #[.slice none 0 0] 236)):=⟨_,⟨heap_alloc_new w _,World.ownsRow_nil _ _ _ _⟩,Nat.le_refl _,fun k hk=>by simp[Value.ownBlock] at hk,(Keeps.refl _ w).alloc _⟩
 have EK:=ah k4
 have hkl:=GL ps
 have uM:=ah hkl
 clear hs k4 hkl
 go_enter Tryz.func170,Tryz.ntmps170
 go_wp2_with fail
 refine hN.mono ?_
 rintro e w1 ⟨rfl,rfl⟩
 clear hN
 obtain⟨bw,hbw⟩:∃ bw,bw=w.heap.size:=⟨_,rfl⟩
 rw[← hbw] at h0 ⊢
 clear hbw
 generalize w.alloc (.cells #[.slice none 0 0] 236)=w1 at *
 go_wp2_with fail
 generalize hn:ps.length=n at *
 have HN:=ah hn
 clear hn
 go_loopg [9] n (fun m i wr=>∃ j:Nat,j≤n∧m=n - j∧i=.int .i64 j∧gW w bw ((gq ps).take j) wr)
 case atStart=>exact⟨0,Nat.zero_le _,rfl,rfl,h0⟩
 case round =>
  clear h0
  obtain⟨j,hj,aN,rfl,hW⟩:=hrel
  have HG:=ah aN
  clear aN
  by_cases hlt:j<n
  ·obtain⟨v,Ir,hb1,hb2,aT⟩:=id hW
   have hp:=List.getElem?_eq_getElem (l:=ps) (i:=j) (by rw[HN.out];exact hlt)
   obtain⟨p,hpe⟩:∃ p,p=ps[j]'(by rw[HN.out];exact hlt):=⟨_,rfl⟩
   rw[← hpe] at hp
   obtain⟨g,c,hv,hc1,hc2⟩:=(HS.out wr aT).cell hp
   simp only [Value.slice.injEq] at hv
   obtain⟨rfl,e5,rfl⟩:=hv
   have hk4:=EK.out p (List.mem_of_getElem? hp)
   have hst:=qbb hp
   obtain⟨x,hx⟩:∃ x,x=p.1:=⟨_,rfl⟩
   obtain⟨k,hk⟩:∃ k,k=p.2:=⟨_,rfl⟩
   rw[← hx] at hc1
   rw[← hk] at hc2 hk4 hst
   have ka:=(Keeps.refl (fun _=>False) wr).alloc (.cells #[.int .i64 x,.int .i64 k] 142)
   have kb:=(Keeps.refl (fun _=>False) (wr.alloc (.cells #[.int .i64 x,.int .i64 k] 142))).alloc (.cells #[.int .i64 k] 3)
   have Wt:=ka.trans kb (fun _ _ h=>h)
   have Nr:=Ir.keeps Wt (fun h=>h) (fun _ _ h=>h)
   have hsl:=(GY (wr.alloc (.cells #[.int .i64 x,.int .i64 k] 142)) (k:Int)).sl
   rw[show (wr.alloc (.cells #[.int .i64 x,.int .i64 k] 142)).heap.size=wr.heap.size+1 by simp] at hsl
   have hlt1:=Ir.lt
   have hap:=Ir.apart
   have hlen:((gq ps).take j).length=j:=by rw[List.length_take,uM.out];omega
   have hA:=qce bw v ((gq ps).take j) _ [(k:Int)] _ Nr hsl (by intro z hz;simp at hz;subst hz;omega) (fun q hq=>by
    simp only [Value.ownBlock,Option.some.injEq] at hq
    subst hq
    exact⟨by omega,fun e=>by have:=(hap _ e).2;omega⟩) (by rw[hlen];simp;omega)
   have HA:=ah (aj aT (aj Wt (aj hst (aj hb1 hb2))))
   clear hW Ir aT hp hpe e5 hst hx hk ka kb Wt Nr hsl hap hlen hb1 hb2
   go_wp2_with fail
   refine hA.mono ?_
   rintro en w5 ⟨rfl,v',hG,hk5,hv5⟩
   have hfin:gW w bw ((gq ps).take (j+1)) w5:=by
    have hs1:=HA.out.1.size
    have hs2:=HA.out.2.1.size
    refine⟨v',?_,HA.out.2.2.2.1,fun q hq=>?_,(HA.out.1.trans HA.out.2.1 (fun _ _ h=>h)).trans hk5 (fun y hy e=>?_)⟩
    ·rw[HA.out.2.2.1]
     exact hG
    ·rcases hv5 with e|⟨q2,e1,e2⟩
     ·exact HA.out.2.2.2.2 q (by rw[← e];exact hq)
     ·rw[hq] at e1
      have:=Option.some.inj e1
      omega
    ·have:=HA.out.2.2.2.1
     rcases e with e|e
     ·omega
     ·have:=HA.out.2.2.2.2 y e;omega
   have HF:=ah hfin
   clear hA hG hk5 hv5 hfin
   go_wp2
   go_roundg (n - (j+1))
   case measure=>rw[HG.out];omega
   case rel=>exact⟨j+1,by omega,rfl,by go_num,HF.out⟩
  ·obtain rfl:j=n:=by omega
   rw[List.take_of_length_le (by rw[uM.out];exact Nat.le_refl _)] at hW
   have HF:=ah hW
   clear hW
   go_wp2
   go_ret
   exact⟨_,rfl,HF.out⟩
def EL(w:World)(b bw:Nat)(ks:List Nat)(w':World):Prop :=
 ∃ v,bW w' bw v ks∧w.heap.size≤bw∧(∀ k,v.ownBlock=some k→w.heap.size≤k)∧Keeps (fun k=>k=b) w w'
theorem gW.after{w w1 w2:World}{b bw:Nat}{ks:List Nat}(h:gW w1 bw ks w2)(k:Keeps (fun k=>k=b) w w1):EL w b bw ks w2:=by
 obtain⟨v,h1,h2,h3,h4⟩:=h
 have:=k.size
 exact⟨v,h1,by omega,fun q hq=>by have:=h3 q hq;omega,k.trans h4 (fun _ _ h=>h.elim)⟩
def qnv(w:World)(b:Nat)(s:List Nat)(rt:Int)(l:Nat)(R:Nat→Prop)(e:Ending)(w':World):Prop :=
 ∃ p c ks,e=.returned (.tuple #[p,.int .i64 (c:Nat)])∧xI s l rt ks c∧fH w b s rt l R w'∧((c=0∧∃ bw,p=.pointer (some ⟨bw,0,none⟩)∧EL w b bw ks w')∨(c≠0∧p=.pointer none))
theorem q8w{w:World}{b:Nat}{s:List Nat}{rt:Int}{l:Nat}{R:Nat→Prop}(h:MapAt w b s rt l R) :
  Calls Tryz.prog 136 #[.pointer (some ⟨b,0,none⟩)] w (qnv w b s rt l R):=by
 have hC:=q65 h
 have HH:=ah h
 by_cases hc:aR s.length (sg s) s.length+l=1
 rotate_left
 ·rw[decide_eq_false hc] at hC
  have HC:=ah hc
  clear h hc
  go_enter Tryz.func136,Tryz.ntmps136
  go_wp2_with fail
  refine hC.mono ?_
  rintro en w1 ⟨rfl,hq⟩
  have HQ:=ah hq
  clear hC hq
  go_wp2
  go_ret2
  exact⟨_,8,[],rfl,.inl ⟨HC.out,rfl,rfl⟩,HQ.out,.inr ⟨by omega,rfl⟩⟩
 rw[decide_eq_true hc] at hC
 have HC:=ah hc
 by_cases hg:dn (iC s l)=0
 rotate_left
 ·have HG:=ah hg
  clear h hc
  go_enter Tryz.func136,Tryz.ntmps136
  go_wp2_with fail
  refine hC.mono ?_
  rintro en w1 ⟨rfl,hq⟩
  have nM:=Rx hq.1
  rw[decide_eq_false HG.out] at nM
  have HQ:=ah hq
  clear hC hq hg
  go_wp2_with fail
  refine nM.mono ?_
  rintro en w2 ⟨rfl,hq2⟩
  have EM:=ah (HH.out.trans HQ.out hq2)
  clear nM hq2
  go_wp2
  go_ret2
  exact⟨_,7,[],rfl,.inr (.inl ⟨HC.out,HG.out,rfl,rfl⟩),EM.out,.inr ⟨by omega,rfl⟩⟩
 have HG:=ah hg
 have HRT:=ah h.rt
 clear h hc
 go_enter Tryz.func136,Tryz.ntmps136
 go_wp2_with fail
 refine hC.mono ?_
 rintro en w1 ⟨rfl,hq⟩
 have nM:=Rx hq.1
 rw[decide_eq_true HG.out] at nM
 have HQ:=ah hq
 clear hC hq hg
 go_wp2_with fail
 refine nM.mono ?_
 rintro en w2 ⟨rfl,hq2⟩
 have Dq:=HH.out.trans HQ.out hq2
 have hD:=vM Dq.1
 have Wu:=VE Dq.1
 have EM:=ah Dq
 clear nM hq2 Dq
 go_wp2_with fail
 refine hD.mono ?_
 rintro en w' ⟨rfl,rfl⟩
 clear hD
 by_cases hn:s.length=0
 ·have hN:=Uw w2
  have hne:((s.length:Int) == 0)=true:=by rw[beq_iff_eq];omega
  have HN:=ah hn
  clear hn Wu
  go_wp2_with fail
  refine hN.mono ?_
  rintro en w3 ⟨rfl,rfl⟩
  have k:=(Keeps.refl (fun _=>False) w2).alloc (.cells #[.slice none 0 0] 236)
  have hW:gW w2 w2.heap.size [] (w2.alloc (.cells #[.slice none 0 0] 236)):=⟨_,Zu w2,Nat.le_refl _,fun k hk=>by simp[Value.ownBlock] at hk,k⟩
  have HF:=ah (aj (hW.after EM.out.2) (HH.out.trans EM.out (EM.out.1.still k)))
  clear hN k hW
  go_wp2
  go_ret2
  exact⟨_,0,[],rfl,.inr (.inr (.inl ⟨HC.out,HG.out,rfl,HN.out,rfl⟩)),HF.out.2,.inl ⟨rfl,_,rfl,HF.out.1⟩⟩
 ·obtain⟨r,hr,hrl⟩:∃ r:Nat,rt=r∧r<s.length:=by
   rcases HRT.out with⟨h1,_⟩|⟨h1,h2⟩
   ·exact absurd h1 hn
   ·exact⟨rt.toNat,by omega,by omega⟩
  subst hr
  have Ns:=walkOf_any EM.out.1 hrl
  have hne:((s.length:Int) == 0)=false:=by rw[beq_eq_false_iff_ne];omega
  clear hn
  go_wp2_with fail
  refine Wu.mono ?_
  rintro en w' ⟨rfl,rfl⟩
  clear Wu
  go_wp2_with fail
  refine Ns.mono ?_
  rintro en w3 ⟨T,ov,rfl,hE,hT,hst,hq3⟩
  have hWd:=walkWord_any hst (fun p hp=>by
   have:=hE.k4 T (Nat.le_refl _) p.1 p.2 hp
   exact this) (by rw[rO];have:=hE.le;have:=EM.out.1.le;omega)
  have HE:=ah (aj hE (HH.out.trans EM.out hq3))
  clear Ns hE hT hst hq3
  go_wp2_with fail
  refine hWd.mono ?_
  rintro en w4 ⟨bw,rfl,Wv⟩
  have hk4:Keeps (fun _=>False) w3 w4:=by
   obtain⟨_,_,_,_,hk⟩:=Wv
   exact hk
  have HF:=ah (aj (Wv.after HE.out.2.2) (HH.out.trans HE.out.2 (HE.out.2.1.still hk4)))
  clear hWd Wv hk4
  go_wp2
  go_ret2
  exact⟨_,0,_,rfl,.inr (.inr (.inr ⟨HC.out,HG.out,rfl,r,T,rfl,hrl,HE.out.1,rfl⟩)),HF.out.2,.inl ⟨rfl,_,rfl,HF.out.1⟩⟩
end
