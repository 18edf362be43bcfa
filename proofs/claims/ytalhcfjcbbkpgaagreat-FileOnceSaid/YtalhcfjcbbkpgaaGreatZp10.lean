import Derived.Test.YtalhcfjcbbkpgaaGreatZp0x
set_option maxRecDepth 100000
set_option maxHeartbeats 4000000
namespace Go.Proofs.YtalhcfjcbbkpgaaGreat
open Go.RowKit
theorem E8:(Tryz.prog.info? 24).map (fun i=>(i.zero,i.size,i.bytes))=some (some (.pointer none),1,8):=by kernel_rfl
def ptrs(bs:List Nat):List Value:=bs.map fun b=>.pointer (some ⟨b,0,none⟩)
theorem VT(bs:List Nat)(b:Nat):ptrs (bs ++ [b])=ptrs bs ++ [.pointer (some ⟨b,0,none⟩)]:=by simp[ptrs]
structure wC (B:Nat)(w:World)(v:Value)(ks:List (List Nat))(bs:List Nat)(Rs:Nat->Nat->Prop):Prop where
 len:bs.length=ks.length
 row:w.ownsRow B 24 1 v ks.length (ptrs bs)
 at':∀j b k,bs[j]? = some b->ks[j]? = some k->MapAt w b (dN k) 0 0 (Rs j)/\B<=b/\(∀x,Rs j x->B<=x)/\v.ownBlock≠some b/\(∀q,v.ownBlock=some q->¬Rs j q)
 apart:∀i j b c,i<j->bs[i]? = some b->bs[j]? = some c->b≠c/\¬Rs j b/\¬Rs i c/\∀x,Rs i x->¬Rs j x
theorem wC.mono{B B':Nat}{w:World}{v:Value}{ks:List (List Nat)}{bs:List Nat}{a:Nat->Nat->Prop}(h:wC B w v ks bs a)(c:B'<=B):wC B' w v ks bs a :=
 ⟨h.len,⟨h.row.1,h.row.2.imp id fun ⟨g,cap,cur,h1,h2,h3⟩=>⟨g,cap,cur,h1,Nat.le_trans c h2,h3⟩⟩,fun j b k d e=>by obtain⟨f,l,a3,a4⟩:=h.at' j b k d e;exact⟨f,by omega,fun x i=>by have:=a3 x i;omega,a4⟩,h.apart⟩
theorem VU{d:Array Oper}{rest:List Oper}{o:Oper}{a:Act}{Q:Exit->Act->World->Prop}{wr:World}(n:Nat)(f:o.guard=none)(s x:Operand)
  (y:o.op=.call { callee:=.builtin .append,args:=#[s,x],argTypes:=#[143,143] })(B:Nat)(v:Value)(ps:List Value)(p:Option Addr)(j:Hid (ps.length=n))(H:Nat)(z:wr.heap.size=H)(A:a.eval s=v)(C:a.eval x=.slice (some ⟨H,0,none⟩) 1 1)
  (e:wr.ownsRow B 24 1 v n ps)(t:n<=10000000000)(F:B<=wr.heap.size)
  (h:∀g cap w',w'.ownsRow B 24 1 (.slice (some ⟨g,0,none⟩) (n+1) cap) (n+1) (ps ++ [.pointer p])->Keeps (fun k=>v.ownBlock=some k) wr w'->(v.ownBlock=some g\/wr.heap.size<=g) ->
   wpList Tryz.prog d Q rest (a.put o.dst (.slice (some ⟨g,0,none⟩) (n+1) cap)) w') :
  wpList Tryz.prog d Q (o :: rest) a (wr.alloc (.cells #[.pointer p] 24)):=by
 obtain⟨i,D,l,m,q⟩:=info_parts E8;have j:=j.out;subst j;subst z;refine wpList_append_lies _ f s x _ y B 24 i (.pointer none) 1 8 Tryz.underlying143 D l m q rfl (by decide) v ps.length _ A (e.alloc _) ⟨wr.heap.size,0,none⟩ 1 1 [.pointer p] C rfl (cell_one_new _ _ _) ?_ (by decide) ?_ ?_ ?_ (wr.heap.size+1) (by simp) ?_
 ·intro u w;simp at w;subst w;rfl
 ·unfold maxLen;omega
 ·omega
 ·simp;omega
 ·intro g cap w1 b c r _;exact h g cap w1 b (((Keeps.refl _ wr).alloc _).grown c (fun k E=>.inl E)) (r.imp id (fun h=>by omega))
theorem wC.app{B:Nat}{p wr w':World}{v:Value}{ks:List (List Nat)}{bs:List Nat}{C:Nat->Nat->Prop}(h:wC B p v ks bs C)(M:B<=p.heap.size)(G:Keeps (fun _=>False) p wr){b:Nat}{k:List Nat}{R:Nat->Prop}(D:MapAt wr b (dN k) 0 0 R)(N:p.heap.size<=b)(y:∀x,R x->p.heap.size<=x)
  {g cap:Nat}(z:w'.ownsRow B 24 1 (.slice (some ⟨g,0,none⟩) (ks.length+1) cap) (ks.length+1) (ptrs bs ++ [.pointer (some ⟨b,0,none⟩)]))(H:Keeps (fun q=>v.ownBlock=some q) wr w')(A:v.ownBlock=some g\/wr.heap.size<=g) :
  wC B w' (.slice (some ⟨g,0,none⟩) (ks.length+1) cap) (ks ++ [k]) (bs ++ [b]) (fun j=>if j<bs.length then C j else R):=by
 have o:∀q,v.ownBlock=some q->q<p.heap.size:=fun q s=>(h.row.lt q s).2;have O:=G.size;have f:∀j c n,bs[j]? = some c->ks[j]? = some n->c<p.heap.size/\∀x,C j x->x<p.heap.size:=fun j c n l a=>⟨(h.at' j c n l a).1.lt,(h.at' j c n l a).1.old⟩
 refine⟨by simp[h.len],by rw[VT];simpa using z,fun j c n l a=>?_,fun i j c d E l w=>?_⟩
 ·rcases Nat.lt_or_ge j bs.length with r|r
  ·rw[List.getElem?_append_left r]at l;rw[List.getElem?_append_left (by rw[<-h.len];exact r)]at a;obtain⟨I,J,a3,a4,a5⟩:=h.at' j c n l a;rw[if_pos r];refine⟨(I.keeps G (fun h=>h) (fun _ _ h=>h)).keeps H a4 (fun x m e=>a5 x e m),J,a3,fun e=>?_,fun q s m=>?_⟩
   ·simp only [Value.ownBlock,Option.some.injEq]at e;subst e;rcases A with e|e
    ·exact a4 e
    ·have:=(f j g n l a).1;omega
   ·simp only [Value.ownBlock,Option.some.injEq]at s;subst s;rcases A with e|e
    ·exact a5 _ e m
    ·have:=(f j c n l a).2 _ m;omega
  ·have t:j=bs.length:=by have:=gX l;simp at this;omega
   subst t;rw[List.getElem?_append_right (Nat.le_refl _),Nat.sub_self]at l;rw[h.len,List.getElem?_append_right (Nat.le_refl _),Nat.sub_self]at a;simp only [List.getElem?_cons_zero,Option.some.injEq]at l a;subst l;subst a;rw[if_neg (by omega)];refine⟨D.keeps H (fun e=>by have:=o _ e;omega) (fun x m e=>by have:=o _ e;have:=y x m;omega),by omega,fun x m=>by have:=y x m;omega,fun e=>?_,fun q s m=>?_⟩
   ·simp only [Value.ownBlock,Option.some.injEq]at e;subst e;rcases A with e|e
    ·have:=o _ e;omega
    ·have:=D.lt;omega
   ·simp only [Value.ownBlock,Option.some.injEq]at s;subst s;rcases A with e|e
    ·have:=o _ e;have:=y _ m;omega
    ·have:=D.old _ m;omega
 ·have F:=gX w;simp only [List.length_append,List.length_cons,List.length_nil]at F;rw[List.getElem?_append_left (by omega)]at l;have u:i<bs.length:=by omega
  obtain⟨n,a⟩:∃n,ks[i]? = some n:=⟨_,List.getElem?_eq_getElem (by rw[<-h.len];exact u)⟩
  rcases Nat.lt_or_ge j bs.length with r|r
  ·rw[List.getElem?_append_left r]at w;rw[if_pos r,if_pos u];exact h.apart i j c d E l w
  ·have t:j=bs.length:=by omega
   subst t;rw[List.getElem?_append_right (Nat.le_refl _),Nat.sub_self]at w;simp only [List.getElem?_cons_zero,Option.some.injEq]at w;subst w;rw[if_neg (by omega),if_pos u];have:=(f i c n l a).1;exact⟨by omega,fun m=>by have:=y _ m;omega,fun m=>by have:=(f i c n l a).2 _ m;omega,fun x K L=>by have:=(f i c n l a).2 _ K;have:=y _ L;omega⟩
theorem VW{w:World}{b:Nat}{l:List (List Nat)}{root lone:Int}{R:Nat->Prop}(h:MapAt w b (iO (l.map dN)) root lone R)(U:kJ l) :
  Calls Tryz.prog 86 #[.pointer (some ⟨b,0,none⟩)] w fun e w'=>∃v bs E,e=.returned v/\wC w.heap.size w' v l bs E/\Keeps (fun _=>False) w w':=by
 have HH:Hid (∀W,Keeps (fun _=>False) w W->MapAt W b (iO (l.map dN)) root lone R):=dh (fun W F=>h.keeps F (fun h=>h) (fun _ _ h=>h));have hN:=Jf h;have ar:=h.le;have V:=GD l;have au:=dh U;have ag:=dh (OA U)
 have av:l.length<=l.flatten.length:=by
  have:∀l:List (List Nat),kJ l->l.length<=l.flatten.length:=fun l=>by
   induction l with
   | nil=>intro _;simp
   | cons k l ih =>
    intro h;have h1:=(h k (by simp)).2;have h2:=ih (fun x hx=>h x (by simp[hx]));rw[List.flatten_cons,List.length_append,List.length_cons];omega
  exact this l U
 have G:=JH l;have H:=Ox l;obtain⟨n,hn⟩:∃n,n=(iO (l.map dN)).length:=⟨_,rfl⟩
 obtain⟨s,hs⟩:∃s,s=iO (l.map dN):=⟨_,rfl⟩
 rw[<-hs]at hN hn ag HH ar V;have B:ji l l.length=n:=by rw[H,<-V,hn]
 have ah:=fun W F=>uS (HH.out W F);have ai:=fun W F d hd=>vW (HH.out W F) d hd;rw[<-hn]at ah ai;have HD:=dh ah;have HS:=dh ai;clear h U ah ai H;go_enter Tryz.func86,Tryz.ntmps86;go_wp2_with fail;refine hN.mono ?_;clear hN;rintro e w1 ⟨g1,rfl,zs,aw,hz,a,aj⟩;have aN:Hid (∀W,Keeps (fun _=>False) w1 W->∀d,d<n->W.cell? ⟨g1,d,none⟩=some (.int .i64 (eP s.length (sg s) d:Nat))):=dh (fun W hW d hd=>((a.keeps hW (fun _ _ h=>h)).cell (by rw[hz];refine jA ?_;rw[List.getElem?_map,List.getElem?_range (by rw[<-hn];exact hd)];rfl)).1);have X:=dh aj;rw[<-hn]at aw a;rw[<-hn];have a9:n<=131072:=by omega
 have ax:wC w1.heap.size w1 (.slice none 0 0) (l.take 0) [] (fun _ _=>False):=⟨rfl,World.ownsRow_nil _ _ _ _,fun j b k hb=>by simp at hb,fun i j b c _ hb=>by simp at hb⟩
 have aO:=aj.size;clear aw hz a aj zs;have C:=dh (dn V (dn av (dn G B)));have ay:=dh hn;clear V av G B hs ar hn;go_wp2_with fail;go_loopg [3,5] l.length (fun m aP fv wr=>∃(i:Nat) (ov:Value),i<=l.length/\m=l.length - i/\ov=aP/\fv=.int .i64 (ji l i:Nat)/\Keeps (fun _=>False) w1 wr/\∃bs E,wC w1.heap.size wr ov (l.take i) bs E)
 case atStart=>exact⟨0,_,Nat.zero_le _,rfl,rfl,rfl,Keeps.refl _ _,_,_,ax⟩
 case round =>
  clear ax;obtain⟨i,ov,hi,r,rfl,rfl,F,bs,E,hP⟩:=hrel;have aQ:=dh r;have hD:=HD.out wr (X.out.trans F (fun _ _ h=>h));clear r;by_cases aR:i<l.length
  rotate_left
  ·obtain rfl:i=l.length:=by omega
   have HF:Hid (∃bs E,wC w.heap.size wr ov l bs E/\Keeps (fun _=>False) w wr):=dh ⟨bs,E,by have:=hP;rw[List.take_of_length_le (Nat.le_refl _)]at this;exact this.mono aO,X.out.trans F (fun _ _ h=>h)⟩;have t0:decide ((ji l l.length:Int)<(n:Int))=false:=decide_eq_false (by rw[C.out.2.2.2];omega);have t1:decide (ji l l.length<n)=false:=decide_eq_false (by rw[C.out.2.2.2];omega);clear hP F;go_wp2_with fail;refine hD.mono ?_;rintro e w' ⟨rfl,rfl⟩;go_wp2_with fail;go_ret;obtain⟨bs,E,h1,h2⟩:=HF.out;exact⟨_,bs,E,rfl,h1,h2⟩
  ·obtain⟨k,I⟩:∃k,l[i]? = some k:=⟨_,List.getElem?_eq_getElem aR⟩
   have J:=au.out k (List.mem_of_getElem? I);have aS:=J.2;have A:=Ov I;have Y:=ag.out i k I;have az:=Oy (l:=l) (i:=i+1);have aT:l.flatten.length=n:=by rw[<-C.out.1,ay.out]
   obtain⟨f,hf⟩:∃f,f=ji l i:=⟨_,rfl⟩
   obtain⟨K,hK⟩:∃K,K=k.length:=⟨_,rfl⟩
   rw[<-hf]at Y;rw[<-hf];have bd:f+K<=n:=by omega
   have aU:0<K:=by omega
   have L:f+K<n->eP s.length (sg s) (f+K)≠i:=fun ba e=>by
    have aV:i+1<l.length:=by
     rcases Nat.lt_or_ge (i+1) l.length with h|h
     ·exact h
     ·have e2:i+1=l.length:=by omega
      have:=C.out.2.2.2;rw[<-e2]at this;omega
    obtain⟨k2,aA⟩:∃k2,l[i+1]? = some k2:=⟨_,List.getElem?_eq_getElem aV⟩
    have:=(ag.out (i+1) k2 aA 0 (au.out k2 (List.mem_of_getElem? aA)).2).2.2;rw[Nat.add_zero,A,<-hf,<-hK]at this;omega
   have aB:∀x,x<K->eP s.length (sg s) (f+x)=i:=fun x hx=>(Y x (by omega)).2.2;have ae:∀x,x<K->sg s (f+x)=f+sg (dN k) x:=fun x hx=>(Y x (by omega)).2.1;have p:=dh (dn I (dn J (dn A (dn hf (dn hK (dn L (dn aB ae)))))));have M:=dh (dn F hP);have t0:decide ((f:Int)<(n:Int))=true:=decide_eq_true (by omega);have t1:decide (f<n)=true:=decide_eq_true (by omega);clear I J A Y az hf hK L aB ae F hP aS aT;go_wp2_with fail;refine hD.mono ?_;rintro e w' ⟨rfl,rfl⟩;clear hD;go_wp2_with fail;obtain⟨N,rfl⟩:∃W,W=wr:=⟨wr,rfl⟩
   have aW:Hid (∀W,Keeps (fun _=>False) N W->(∀q,Calls Tryz.prog 62 #[.pointer (some ⟨b,0,none⟩)] (W.drewN q) fun e w'=>e=.returned (.int .i64 n)/\W.drewN q=w')/\(∀d,d<n->W.cell? ⟨g1,d,none⟩=some (.int .i64 (eP s.length (sg s) d:Nat)))) :=
    dh (fun W hW=>⟨fun q=>HD.out _ (X.out.trans (M.out.1.trans (hW.drewN q) (fun _ _ h=>h)) (fun _ _ h=>h)),aN.out W (M.out.1.trans hW (fun _ _ h=>h))⟩)
   go_loopg [6] K (fun m tv wv=>∃x:Nat,x<=K/\m=K - x/\tv=.int .i64 (f+x:Nat)/\Keeps (fun _=>False) N wv)
   case atStart=>exact⟨0,by omega,rfl,rfl,Keeps.refl _ _⟩
   case round =>
    obtain⟨x,hx,r,rfl,o⟩:=hrel;have ak:=dh r;clear r;obtain⟨al,D⟩:=aW.out wr o;have cf:=D f (by omega);rw[show eP s.length (sg s) f=i from p.out.2.2.2.2.2.2.1 0 aU]at cf;obtain⟨y,u⟩:∃y,y=f+x:=⟨_,rfl⟩
    rw[<-u];by_cases O:x<K
    ·have cy:=D y (by omega);rw[show eP s.length (sg s) y=i from by rw[u];exact p.out.2.2.2.2.2.2.1 x O]at cy;have t2:decide ((y:Int)<(n:Int))=true:=decide_eq_true (by omega);have t3:decide (y<n)=true:=decide_eq_true (by omega);have Z:y<n:=by omega
     have HY:=dh (dn u o);clear u D o;go_wp2_with fail;go_quiet ((go_at_call 62;with_reducible exact nN (al _)));go_wp2_with fail;go_roundg (K - (x+1))
     case measure=>rw[ak.out];omega
     case rel=>exact⟨x+1,by omega,rfl,by have:=HY.out.1;go_num,HY.out.2.drewN _⟩
    ·obtain rfl:K=x:=by omega
     refine(Nat.lt_or_ge y n).elim (fun Z=>?_) (fun Z=>?_)
     rotate_left
     have t2:decide ((y:Int)<(n:Int))=false:=decide_eq_false (by omega);have t3:decide (y<n)=false:=decide_eq_false (by omega);have HY:=dh (dn u o);clear u D o cf;go_wp2_with fail;go_quiet ((go_at_call 62;with_reducible exact nN (al _)));go_wp2_with fail
     rotate_left
     have cy:=D y Z;have aX:eP s.length (sg s) y≠i:=by rw[u];exact p.out.2.2.2.2.2.1 (by omega)
     obtain⟨c,hc⟩:∃c,c=eP s.length (sg s) y:=⟨_,rfl⟩
     rw[<-hc]at cy aX;have t2:decide ((y:Int)<(n:Int))=true:=decide_eq_true (by omega);have t3:decide (y<n)=true:=decide_eq_true (by omega);have t5:((c:Int) == (i:Int))=false:=by rw[beq_eq_false_iff_ne];omega
     have HY:=dh (dn u o);clear u D o hc;go_wp2_with fail;go_quiet ((go_at_call 62;with_reducible exact nN (al _)));go_wp2_with fail
     all_goals
      generalize aC:World.drewN _ _=wc at *;have aa:Keeps (fun _=>False) N wc:=by rw[<-aC];exact HY.out.2.drewN _
      have aD:=dh aa;clear aC;have aE:=fun W (hW:Keeps (fun _=>False) wc W) d hd=>HS.out W (X.out.trans (M.out.1.trans (aa.trans hW (fun _ _ h=>h)) (fun _ _ h=>h)) (fun _ _ h=>h)) d hd;have aY:=dh aE;have am:(dN k).length=K:=by rw[pG];exact p.out.2.2.2.2.1.symm
      have be:dH w.heap.size wc (.slice none 0 0) (dD ((dN k).take 0)):=dH.nil _ _;have bc:=aa.size;clear aa aE;have bf:w.heap.size<=wc.heap.size:=by have:=M.out.1.size;omega
      go_wp2_with fail
      go_loopg [7,8] K (fun m lv dv wv=>∃x:Nat,x<=K/\m=K - x/\dv=.int .i64 (f+x:Nat)/\dH wc.heap.size wv lv (dD ((dN k).take x))/\Keeps (fun _=>False) wc wv)
      case atStart=>exact⟨0,by omega,rfl,rfl,dH.nil _ _,Keeps.refl _ _⟩
      case round =>
       obtain⟨x,hx,r,rfl,a,o⟩:=hrel;have ak:=dh r;clear r;obtain⟨v,u⟩:∃v,v=f+x:=⟨_,rfl⟩
       rw[<-u];by_cases O:x<K
       ·have an:=HY.out.1;have t6:decide ((v:Int)<(y:Int))=true:=decide_eq_true (by omega);have t7:decide (v<y)=true:=decide_eq_true (by omega);have ao:=aY.out wr o v (by omega);have ap:sg s v=f+sg (dN k) x:=by rw[u];exact p.out.2.2.2.2.2.2.2 x O
        obtain⟨z,hz⟩:∃z,z=sg (dN k) x:=⟨_,rfl⟩
        rw[<-hz]at ap;rw[ap]at ao;have bg:z<K:=by have:=p.out.2.1.1.wd.iD;rw[am]at this;rw[hz];exact this.lt x O
        have aF:dD ((dN k).take (x+1))=dD ((dN k).take x) ++ [(z:Int)]:=by rw[oW (tZ (by rw[am];exact O)),tV,hz]
        obtain⟨oa,oc,rfl,_,_⟩:=a.form;have P:(dD ((dN k).take x)).length=x:=by rw[q01,List.length_take,am];omega
        rw[P]at a ⊢;have HN:=dh P;have aZ:x<=10000000000:=by omega
        have aG:=o.size;have Z:v<n:=by omega
        have e1:(f:Int)+(z:Int) - (f:Int)=(z:Int):=by omega
        have HF:Hid (∀g2 t w5,dH wc.heap.size w5 (.slice (some ⟨g2,0,none⟩) (x+1) t) (dD ((dN k).take x) ++ [(f:Int)+(z:Int) - (f:Int)])->Keeps (fun q=>(Value.slice oa x oc).ownBlock=some q) wr w5->dH wc.heap.size w5 (.slice (some ⟨g2,0,none⟩) (x+1) t) (dD ((dN k).take (x+1)))/\Keeps (fun _=>False) wc w5) :=
         dh (fun g2 t w5 h5 k5=>⟨by rw[aF,<-e1];exact h5,o.trans k5 (fun q hq e=>by have:=(a.lt q e).1;omega)⟩)
        have a0:=dh u;clear u an hz ap aF o P e1;go_wp2_with fail;refine ao.mono ?_;rintro e w' ⟨rfl,rfl⟩;clear ao;go_wp2_with (at_builtin;refine oz x rfl _ _ rfl wc.heap.size (.slice oa x oc) (dD ((dN k).take x)) ((f:Int)+(z:Int) - (f:Int)) HN wr.heap.size rfl rfl rfl a aZ aG ?_;intro g2 t w5 Q aH aI a1;have a2:=dh (HF.out g2 t w5 Q aH);clear Q aH aI a1)
        go_roundg (K - (x+1))
        case measure=>rw[ak.out];omega
        case rel=>exact⟨x+1,by omega,rfl,by have:=a0.out;go_num,a2.out⟩
       ·obtain rfl:K=x:=by omega
        rw[List.take_of_length_le (by omega)]at a;have aJ:=EJ (ln:=0) a.sl p.out.2.1.1.wd.iD (by rw[pG];exact p.out.2.1.1.wd.mD) (by omega) (by omega) (.inr ⟨0,rfl,by omega⟩);have HV:=dh (dn o u);have an:=HY.out.1;have t5:decide ((v:Int)<(y:Int))=false:=decide_eq_false (by omega);have t6:decide (v<y)=false:=decide_eq_false (by omega);clear an;obtain⟨la,lc,rfl,_,_⟩:=a.form;clear a o u;go_wp2_with fail;refine aJ.mono ?_;clear aJ;rintro e wn ⟨bn,rfl,aK,a3,aL⟩;obtain⟨aq,S⟩:=M.out;have T:Keeps (fun _=>False) N wn:=(aD.out.trans HV.out.1 (fun _ _ h=>h)).trans aL (fun _ _ h=>h);have bh:=HV.out.1.size;have bi:=aD.out.size;have a4:w1.heap.size<=N.heap.size:=aq.size;have af:=T.owns S.row (fun _ _ h=>h);have ab:(l.take i).length=i:=by rw[List.length_take];omega
        rw[ab]at af;have a5:i<=10000000000:=by have:=C.out.2.1;have:=C.out.1;have:=ay.out;omega
        have a6:Hid ((ptrs bs).length=i):=dh (by rw[<-ab,<-S.len];simp[ptrs]);have a7:w1.heap.size<=wn.heap.size:=by have:=T.size;omega
        have HF:Hid (∀g cap w9,w9.ownsRow w1.heap.size 24 1 (.slice (some ⟨g,0,none⟩) (i+1) cap) (i+1) (ptrs bs ++ [.pointer (some ⟨bn,0,none⟩)])->Keeps (fun q=>ov.ownBlock=some q) wn w9->(ov.ownBlock=some g\/wn.heap.size<=g) ->
          Keeps (fun _=>False) w1 w9/\∃bs E,wC w1.heap.size w9 (.slice (some ⟨g,0,none⟩) (i+1) cap) (l.take (i+1)) bs E):=by
         refine dh (fun g cap w9 h9 k9 ad=>?_);have aM:=S.app a4 T aK (by omega) (fun x hx=>by have:=hx.1;omega) (by rw[ab];exact h9) k9 ad;rw[ab,<-oW p.out.1]at aM;exact⟨(aq.trans T (fun _ _ h=>h)).trans k9 (fun q hq e=>by have:=(S.row.lt q e).1;omega),_,_,aM⟩
        clear aK a3 aL aq S T;go_wp2_with (at_builtin;refine VU i rfl _ _ rfl w1.heap.size ov (ptrs bs) (some ⟨bn,0,none⟩) a6 wn.heap.size rfl rfl rfl af a5 a7 ?_;intro g cap w9 h9 k9 ad;have a8:=dh (HF.out g cap w9 h9 k9 ad);clear h9 k9 ad)
        go_roundg (l.length - (i+1))
        case measure=>rw[aQ.out];omega
        case rel=>exact⟨i+1,_,by omega,rfl,rfl,by rw[p.out.2.2.1,<-p.out.2.2.2.1,<-p.out.2.2.2.2.1,HY.out.1],a8.out⟩
