import Derived.Test.YtalhcfjcbbkpgaaGreatZp0m
import Derived.Test.YtalhcfjcbbkpgaaGreatZp0i
set_option maxRecDepth 100000
set_option maxHeartbeats 4000000
namespace Go.Proofs.YtalhcfjcbbkpgaaGreat
section
open Go.RowKit
def fZ(wr:World)(g n:Nat)(P:Nat->Prop):Prop :=
 ∃bs:List Bool,bs.length=n/\(∀x,x<n->(bs[x]? = some true/\P x)\/(bs[x]? = some false/\¬P x))/\wr.heap[g]? = some (.cells (bs.map Value.bool).toArray 4 (0,0))
theorem fZ.lt{wr:World}{g n:Nat}{P:Nat->Prop}(h:fZ wr g n P):g<wr.heap.size:=by obtain⟨_,_,_,a⟩:=h;exact lt_of_block a
theorem fZ.keeps{w w':World}{g n:Nat}{P:Nat->Prop}{G:Nat->Prop}(h:fZ w g n P)(k:Keeps G w w')(a:¬G g):fZ w' g n P:=by obtain⟨bs,c,d,e⟩:=h;exact⟨bs,c,d,k.at e a⟩
theorem fZ.iff{wr:World}{g n:Nat}{P Q:Nat->Prop}(h:fZ wr g n P)(d:∀x,x<n->(Q x↔P x)):fZ wr g n Q:=by
 obtain⟨bs,e,f,i⟩:=h;refine⟨bs,e,fun x c=>?_,i⟩;rcases f x c with⟨a,b⟩|⟨a,b⟩
 ·exact .inl ⟨a,(d x c).2 b⟩
 ·exact .inr ⟨a,fun j=>b ((d x c).1 j)⟩
theorem fZ.cell{wr:World}{g n:Nat}{P:Nat->Prop}(h:fZ wr g n P){x:Nat}(f:x<n):∃t:Bool,(t=true↔P x)/\wr.cell? ⟨g,x,none⟩=some (.bool t)/\wr.frozen? ⟨g,x,none⟩=false:=by
 obtain⟨bs,j,i,c⟩:=h;have d:=dw c x;have e:=dx c x;rcases i x f with⟨a,b⟩|⟨a,b⟩
 ·exact⟨true,by simp[b],by rw[d];simp[a],e⟩
 ·exact⟨false,by simp[b],by rw[d];simp[a],e⟩
theorem fZ.set{wr:World}{g n:Nat}{P Q:Nat->Prop}(h:fZ wr g n P){x:Nat}(i:x<n)(e:∀y,y<n->(Q y↔P y\/y=x)):fZ (wr.setCell ⟨g,x,none⟩ (.bool true)) g n Q:=by
 obtain⟨bs,j,k,l⟩:=h;refine⟨bs.set x true,by simpa using j,fun y f=>?_,?_⟩
 ·rw[List.getElem?_set];by_cases d:x=y
  ·subst d;left;rw[if_pos rfl,if_pos (by omega)];exact⟨rfl,(e x i).2 (.inr rfl)⟩
  ·rw[if_neg d];rcases k y f with⟨a,b⟩|⟨a,b⟩
   ·exact .inl ⟨a,(e y f).2 (.inl b)⟩
   ·exact .inr ⟨a,fun m=>by rcases(e y f).1 m with c|c;exact b c;exact d c.symm⟩
 ·rw[jM l x (.bool true)];simp[List.map_set]
def zJ(out:List (Nat × Nat))(m:Nat)(zs:List Int):Prop:=∀e,e<m->zs[e]? = some (match jX out e with|some k=>(k:Int)+1|none=>0)
theorem zJ.old{out:List (Nat × Nat)}{m d k x:Nat}{zs:List Int}(h:zJ out m zs)(a:jX out (d / 2)=some x):zJ (out ++ [(d,k)]) m zs:=fun e c=>by rw[h e c,RZ (k:=k) a e]
theorem zJ.new{out:List (Nat × Nat)}{m d k:Nat}{zs:List Int}(g:zs.length=m)(h:zJ out m zs)(a:jX out (d / 2)=none)(i:d / 2<m):zJ (out ++ [(d,k)]) m (zs.set (d / 2) ((k:Int)+1)):=fun e f=>by
 rw[List.getElem?_set,IE];by_cases c:d / 2=e
 ·subst c;rw[if_pos rfl,if_pos (by omega),a];simp
 ·rw[if_neg c,h e f,if_neg c];cases jX out e <;> rfl
def Own2(B:Nat)(w:World)(v:Value)(ps:List (Nat × Nat)):Prop:=w.ownsRow B 136 2 v ps.length ((ps.map fun p=>[Value.int .i64 p.1,Value.int .i64 p.2]).flatten)
theorem Own2.nil(B:Nat)(w:World):Own2 B w (.slice none 0 0) []:=World.ownsRow_nil _ _ _ _
theorem Own2.keeps{B:Nat}{w w':World}{v:Value}{ps:List (Nat × Nat)}{F:Nat->Prop}(h:Own2 B w v ps)(k:Keeps F w w')(a:∀b,v.ownBlock=some b->¬F b):Own2 B w' v ps:=k.owns h a
theorem Own2.lt{B:Nat}{w:World}{v:Value}{ps:List (Nat × Nat)}(h:Own2 B w v ps):∀k,v.ownBlock=some k->B<=k/\k<w.heap.size:=World.ownsRow.lt h
theorem Own2.form{B:Nat}{w:World}{v:Value}{ps:List (Nat × Nat)}(h:Own2 B w v ps):∃a cap,v=.slice a ps.length cap:=by
 obtain⟨_,h⟩:=h;rcases h with⟨rfl,c⟩|⟨g,cap,cur,rfl,_⟩
 ·exact⟨none,0,by rw[c]⟩
 ·exact⟨_,cap,rfl⟩
theorem M9:∀(ps:List (Nat × Nat)) (j:Nat) (p:Nat × Nat),ps[j]? = some p->((ps.map fun p=>[Value.int .i64 p.1,Value.int .i64 p.2]).flatten)[j * 2]? = some (.int .i64 p.1)/\((ps.map fun p=>[Value.int .i64 p.1,Value.int .i64 p.2]).flatten)[j * 2+1]? = some (.int .i64 p.2)
 | [],j,p,h=>by simp at h
 | q :: ps,0,p,h=>by
  obtain rfl:q=p:=by simpa using h
  exact⟨rfl,rfl⟩
 | q :: ps,j+1,p,h=>by
  have a:=M9 ps j p (by simpa using h);have c:(j+1) * 2=j * 2+1+1:=by omega
  rw[c];exact a
theorem Own2.cell{B:Nat}{w:World}{v:Value}{ps:List (Nat × Nat)}(h:Own2 B w v ps){j:Nat}{p:Nat × Nat}(a:ps[j]? = some p):∃g cap,v=.slice (some ⟨g,0,none⟩) ps.length cap/\w.cell? ⟨g,j * 2,none⟩=some (.int .i64 p.1)/\w.cell? ⟨g,j * 2+1,none⟩=some (.int .i64 p.2):=by
 have f:=gX a;obtain⟨i,c⟩:=id h;obtain⟨d,e⟩:=M9 ps j p a;rcases c with⟨_,c⟩|⟨g,cap,cur,rfl,_⟩
 ·omega
 ·refine⟨g,cap,rfl,?_,?_⟩
  ·rw[World.ownsRow.cellAt h _ (by omega)];exact d
  ·rw[World.ownsRow.cellAt h _ (by omega)];exact e
structure WS (w:World)(b:Nat)(s:List Nat)(rt ln:Int)(R:Nat->Prop)(bs ge gm nv root:Nat)(out:List (Nat × Nat))(ov:Value)(so:List (Nat × Nat))(wr:World):Prop where
 mq:∃R',MapAt wr b s rt ln R'/\(∀x,R' x->R x\/(w.heap.size<=x/\x<wr.heap.size))/\¬R' bs/\¬R' ge/\¬R' gm/\∀k,ov.ownBlock=some k->¬R' k
 st:Own2 w.heap.size wr ov so
 sp:∀k,ov.ownBlock=some k->k≠bs/\k≠ge/\k≠gm
 bx:wr.heap[bs]? = some (.cells #[.pointer (some ⟨b,0,none⟩),.slice (some ⟨ge,0,none⟩) (s.length / 2) (s.length / 2),.slice (some ⟨gm,0,none⟩) nv nv] 186 (0,0))
 ed:∃zs,zs.length=s.length / 2/\dH w.heap.size wr (.slice (some ⟨ge,0,none⟩) (s.length / 2) (s.length / 2)) zs/\zJ out (s.length / 2) zs
 me:fZ wr gm nv (fun v=>gG (vnum (sg s)) root out v=true)
 vl:eu (sg s) s.length<=nv
 ap:bs≠ge/\bs≠gm/\ge≠gm/\w.heap.size<=bs/\w.heap.size<=ge/\w.heap.size<=gm
 bw:b<w.heap.size
 fJ:Keeps (fun k=>k=b) w wr
section
variable {w:World} {b:Nat} {s:List Nat} {rt ln:Int} {R:Nat->Prop} {bs ge gm nv root:Nat} {out:List (Nat × Nat)} {ov:Value} {so:List (Nat × Nat)} {wr:World} (h:WS w b s rt ln R bs ge gm nv root out ov so wr)
include h
theorem WS.Na:bs<wr.heap.size/\ge<wr.heap.size/\gm<wr.heap.size:=by obtain⟨zs,_,a,_⟩:=h.ed;exact⟨lt_of_block h.bx,(a.lt ge rfl).2,h.me.lt⟩
theorem WS.ask:∃f,MapAt wr b s rt ln f/\∀g,gU wr b s rt ln f g->WS w b s rt ln R bs ge gm nv root out ov so g:=by
 obtain⟨f,l,m,n,o,p,r⟩:=h.mq;have t:=h.bw;obtain⟨y,z,A⟩:=h.Na;obtain⟨B,C,a3,a4,a5,D⟩:=h.ap;obtain⟨zs,u,i,z3⟩:=h.ed;refine⟨f,l,fun g c=>⟨⟨grow f wr g,c.1,fun x a=>?_,fun a=>?_,fun a=>?_,fun a=>?_,fun k j a=>?_⟩,h.st.keeps c.2 (fun q d e=>by have:=(h.st.lt q d).1;omega),h.sp,c.2.at h.bx (by omega),⟨zs,u,i.keeps c.2 (fun q d e=>by have:=(i.lt q d).1;omega),z3⟩,h.me.keeps c.2 (by omega),h.vl,h.ap,t,h.fJ.trans c.2 (fun _ _ e=>e)⟩⟩
 ·have E:=h.fJ.size;have v:=c.2.size;rcases a with a|a
  ·rcases m x a with e|e
   ·exact .inl e
   ·exact .inr ⟨e.1,by omega⟩
  ·exact .inr ⟨by omega,a.2⟩
 ·rcases a with a|a
  ·exact n a
  ·omega
 ·rcases a with a|a
  ·exact o a
  ·omega
 ·rcases a with a|a
  ·exact p a
  ·omega
 ·rcases a with a|a
  ·exact r k j a
  ·have:=(h.st.lt k j).2;omega
theorem WS.app{ps:List (Nat × Nat)}{g5 m cap:Nat}{w5:World}(j:Own2 w.heap.size w5 (.slice (some ⟨g5,0,none⟩) m cap) ps)(k:Keeps (fun q=>ov.ownBlock=some q) wr w5)(f:ov.ownBlock=some g5\/wr.heap.size<=g5) :
  WS w b s rt ln R bs ge gm nv root out (.slice (some ⟨g5,0,none⟩) m cap) ps w5:=by
 obtain⟨l,g,n,o,p,r,i⟩:=h.mq;have t:=h.bw;obtain⟨z,A,B⟩:=h.Na;obtain⟨C,D,a3,a4,a5,E⟩:=h.ap;obtain⟨zs,u,v,z3⟩:=h.ed;have y:=k.size;have a:∀x,ov.ownBlock=some x->w.heap.size<=x/\x≠bs/\x≠ge/\x≠gm:=fun x c=>⟨(h.st.lt x c).1,h.sp x c⟩
 refine⟨⟨l,g.keeps k (fun e=>by have:=(a b e).1;omega) (fun x c e=>i x e c),fun x c=>?_,o,p,r,fun q d c=>?_⟩,j,fun q d=>?_,k.at h.bx (fun e=>(a bs e).2.1 rfl),⟨zs,u,v.keeps k (fun q d e=>by simp only [Value.ownBlock,Option.some.injEq]at d;subst d;exact(a _ e).2.2.1 rfl),z3⟩,h.me.keeps k (fun e=>(a gm e).2.2.2 rfl),h.vl,h.ap,t,h.fJ.trans k (fun x c e=>by have:=(a x e).1;omega)⟩
 ·rcases n x c with e|e
  ·exact .inl e
  ·exact .inr ⟨e.1,by omega⟩
 ·simp only [Value.ownBlock,Option.some.injEq]at d;subst d;rcases f with e|e
  ·exact i _ e c
  ·have:=g.old _ c;omega
 ·simp only [Value.ownBlock,Option.some.injEq]at d;subst d;rcases f with e|e
  ·exact(a _ e).2
  ·omega
theorem WS.old{d k x:Nat}(a:jX out (d / 2)=some x)(c:k≠0):WS w b s rt ln R bs ge gm nv root (out ++ [(d,k)]) ov so wr:=by obtain⟨zs,f,g,z3⟩:=h.ed;refine⟨h.mq,h.st,h.sp,h.bx,⟨zs,f,g,z3.old a⟩,h.me.iff (fun v i=>?_),h.vl,h.ap,h.bw,h.fJ⟩;rw[q16];exact⟨fun e=>e.resolve_right (fun e=>c e.1),.inl⟩
theorem WS.mark{v:Nat}(c:v<nv):∃zs,zs.length=s.length / 2/\dH w.heap.size (wr.setCell ⟨gm,v,none⟩ (.bool true)) (.slice (some ⟨ge,0,none⟩) (s.length / 2) (s.length / 2)) zs/\zJ out (s.length / 2) zs /\
  fZ (wr.setCell ⟨gm,v,none⟩ (.bool true)) gm nv (fun u=>gG (vnum (sg s)) root out u=true\/u=v):=by
 obtain⟨zs,d,f,z3⟩:=h.ed;obtain⟨i,j,a3,a4,a5,k⟩:=h.ap;have g:=(Keeps.refl (fun q=>q=gm) wr).setCell (p:=⟨gm,v,none⟩) (.inl rfl) (.bool true);exact⟨zs,d,f.keeps g (fun q a e=>by simp only [Value.ownBlock,Option.some.injEq]at a;omega),z3,h.me.set c (fun y _=>Iff.rfl)⟩
theorem WS.new{d k:Nat}(F:d<s.length)(G:s.length % 2=0)(o:jX out (d / 2)=none)(H:k=0\/k=2):∀w1,(k=0/\vnum (sg s) (mt d)<nv/\w1=wr.setCell ⟨gm,vnum (sg s) (mt d),none⟩ (.bool true))\/(k=2/\w1=wr) ->
  WS w b s rt ln R bs ge gm nv root (out ++ [(d,k)]) ov so (w1.setCell ⟨ge,d / 2,none⟩ (.int .i64 ((k:Int)+1))):=by
 intro w1 g;obtain⟨r,t,v,y,l,m,z⟩:=h.mq;obtain⟨I,J,a3,a4,a5,K⟩:=h.ap;have A:=h.bw;have i:d / 2<s.length / 2:=by omega
 have key:Keeps (fun q=>q=gm) wr w1/\(∃zs,zs.length=s.length / 2/\dH w.heap.size w1 (.slice (some ⟨ge,0,none⟩) (s.length / 2) (s.length / 2)) zs/\zJ out (s.length / 2) zs)/\fZ w1 gm nv (fun u=>gG (vnum (sg s)) root (out ++ [(d,k)]) u=true):=by
  rcases g with⟨rfl,B,rfl⟩|⟨rfl,rfl⟩
  ·obtain⟨zs,f,j,z3,z4⟩:=h.mark B;refine⟨(Keeps.refl (fun q=>q=gm) wr).setCell (p:=⟨gm,_,none⟩) (.inl rfl) (.bool true),⟨zs,f,j,z3⟩,z4.iff (fun u _=>?_)⟩;rw[q16];exact⟨fun e=>e.imp id (fun e=>e.2.symm),fun e=>e.imp id (fun e=>⟨rfl,e.symm⟩)⟩
  ·refine⟨Keeps.refl _ _,h.ed,h.me.iff (fun u _=>?_)⟩;rw[q16];exact⟨fun e=>e.resolve_right (fun e=>by omega),.inl⟩
 obtain⟨C,⟨zs,f,j,z3⟩,z4⟩:=key;have n:=(Keeps.refl (fun q=>q=ge) w1).setCell (p:=⟨ge,d / 2,none⟩) (.inl rfl) (.int .i64 ((k:Int)+1));have a:=(C.mono (fun _ _ e=>.inl e):Keeps (fun q=>q=gm\/q=ge) wr w1).trans n (fun x _ e=>.inr e);have D:=a.size;refine⟨⟨r,t.keeps a (fun L=>by omega) (fun x c e=>by rcases e with e|e;exact m (e ▸ c);exact l (e ▸ c)),fun x c=>?_,y,l,m,z⟩,h.st.keeps a (fun q E e=>by have:=h.sp q E;rcases e with e|e;exact this.2.2 e;exact this.2.1 e),h.sp,a.at h.bx (by omega),⟨zs.set (d / 2) ((k:Int)+1),by simpa using f,j.set (d / 2) _,z3.new f o i⟩,z4.keeps n (by omega),h.vl,h.ap,A,h.fJ.trans a (fun x c e=>by omega)⟩;rcases v x c with e|e
 ·exact .inl e
 ·exact .inr ⟨e.1,by omega⟩
end
theorem gU.tq{w w':World}{b:Nat}{s:List Nat}{root lone:Int}{R:Nat->Prop}(h:gU w.drew b s root lone R w'):gU w b s root lone R w' :=
 ⟨h.1,((Keeps.refl (fun x=>x=b) w).drew).trans h.2 (fun _ _ e=>e)⟩
theorem Ue{dG:Nat->Nat}{root d x:Nat}{out:List (Nat × Nat)}(h:jX out (d / 2)=some x):eZ dG root out d=x+1:=by rw[LQ,h]
theorem Nb{dG:Nat->Nat}{root d:Nat}{out:List (Nat × Nat)}(h:jX out (d / 2)=none):eZ dG root out d=if gG dG root out (dG (mt d))then 2 else 0:=by rw[LQ,h]
theorem Uf{w:World}{b:Nat}{s:List Nat}{rt ln:Int}{R:Nat->Prop}{bs ge gm nv root:Nat}{out:List (Nat × Nat)}{ov:Value}{so:List (Nat × Nat)}{wr:World}(h:WS w b s rt ln R bs ge gm nv root out ov so wr)
  {d:Nat}(X:d<s.length)(Y:∀e k,jX out e=some k->k=0\/k=2) :
  Calls Tryz.prog 124 #[.pointer (some ⟨bs,0,none⟩),.int .i64 d] wr fun e w'=>e=.returned (.int .i64 (eZ (vnum (sg s)) root out d:Nat))/\WS w b s rt ln R bs ge gm nv root (out ++ [(d,eZ (vnum (sg s)) root out d)]) ov so w':=by
 obtain⟨R',n,r⟩:=h.ask;have I:=n.even;have af:=n.le;have Q:wr.cell? ⟨bs,0,none⟩=some (.pointer (some ⟨b,0,none⟩)):=dw h.bx 0;have S:wr.cell? ⟨bs,1,none⟩=some (.slice (some ⟨ge,0,none⟩) (s.length / 2) (s.length / 2)):=dw h.bx 1;obtain⟨e,j⟩:∃e,e=d / 2:=⟨_,rfl⟩
 have T:e<s.length / 2:=by omega
 have q1:(d:Int).tdiv 2=(e:Int):=by rw[j,Int.tdiv_eq_ediv_of_nonneg (by omega)];simp
 have q2:(d:Int) / 2=(e:Int):=by rw[j];simp
 obtain⟨zs,z,g,l⟩:=h.ed;have f:=l e T;have HE:=dh j;cases hfs:jX out e with
 | some x =>
  rw[hfs]at f;have A:=(g.cell f).1;rw[j]at hfs;have i:=Ue (dG:=vnum (sg s)) (root:=root) hfs;have u:=h.old (k:=x+1) hfs (by omega);rcases Y _ _ hfs with rfl|rfl
  ·have o:=dh (dn i u);clear h n r z g l f hfs j i u Y;generalize s.length / 2=N at *;go_enter Tryz.func124,Tryz.ntmps124;go_wp2;go_ret;exact⟨by rw[o.out.1];rfl,by rw[o.out.1];exact o.out.2⟩
  ·have o:=dh (dn i u);clear h n r z g l f hfs j i u Y;generalize s.length / 2=N at *;go_enter Tryz.func124,Tryz.ntmps124;go_wp2;go_ret;exact⟨by rw[o.out.1];rfl,by rw[o.out.1];exact o.out.2⟩
 | none =>
  rw[hfs]at f;have A:=(g.cell f).1;rw[j]at hfs;have i:=Nb (dG:=vnum (sg s)) (root:=root) hfs;have kd:=(Keeps.refl (fun _=>False) wr).drew;have B:=n.keeps kd (fun h=>h) (fun _ _ h=>h);have J:=dQ I X;have K:=sZ B d X;have C:=BZ B (mt d) J;have G:wr.drew.cell? ⟨bs,0,none⟩=some (.pointer (some ⟨b,0,none⟩)):=Q;have L:=n.dR.gK J;have D:vnum (sg s) (mt d)<nv:=Nat.lt_of_lt_of_le L h.vl;have aa:=oV (sg s) s.length;obtain⟨y,hy⟩:∃y,y=mt d:=⟨_,rfl⟩
  obtain⟨v,hv⟩:∃v,v=vnum (sg s) y:=⟨_,rfl⟩
  rw[<-hy]at K C D L J i;rw[<-hv]at C D L i;have E:=dh (dn hy hv);have M:=dh (dn r (dn hfs (dn i I)));have ag:s.length / 2<=131072:=by omega
  clear h n r z g l f hfs j i Y hy hv kd B I;generalize hN:s.length / 2=N at *;have HN:=dh hN;clear hN;go_enter Tryz.func124,Tryz.ntmps124;go_wp2_with fail;go_region_held3 (fun w'=>w'.cell? ⟨bs,0,none⟩=some (.pointer (some ⟨b,0,none⟩))) (first|exact G|exact U) (first | (go_at_call 77;refine K.mono ?_;rintro e w' ⟨rfl,rfl⟩) | (go_at_call 123;refine C.mono ?_;rintro e F ⟨rfl,hq⟩;have O:=M.out.1 F hq.tq;have U:F.cell? ⟨bs,0,none⟩=some (.pointer (some ⟨b,0,none⟩)):=dw O.bx 0;have m:=dh O;clear O hq));clear K C G Q S A;have ah:F.cell? ⟨bs,2,none⟩=some (.slice (some ⟨gm,0,none⟩) nv nv):=dw m.out.bx 2;have S:F.cell? ⟨bs,1,none⟩=some (.slice (some ⟨ge,0,none⟩) N N):=by have:=dw m.out.bx 1;rw[HN.out]at this;exact this
  obtain⟨t,Z,ai,aj⟩:=m.out.me.cell D;obtain⟨zs,z,g,l⟩:=m.out.ed;rw[HN.out]at g l;have P:=g.cell (l e T);have H:=P.1;have ab:=P.2;obtain⟨ze,f⟩:∃ze,ze=(match jX out e with|some k=>(k:Int)+1|none=>0):=⟨_,rfl⟩
  rw[<-f]at H;obtain⟨a1,a2,a3,a4,a5,a6⟩:=m.out.ap;clear z g l P f;cases t with
  | true =>
   have a:=M.out.2.2.1;rw[if_pos (Z.1 rfl)]at a;have c:=m.out.new (k:=2) X M.out.2.2.2 M.out.2.1 (.inr rfl) F (.inr ⟨rfl,rfl⟩);rw[<-HE.out]at c;have o:=dh (dn a c);clear Z a c a1 a2 a3 a4 a5 a6;go_wp2;go_ret;exact⟨by rw[o.out.1];rfl,by rw[o.out.1];exact o.out.2⟩
  | false =>
   have a:=M.out.2.2.1;have V:¬gG (vnum (sg s)) root out v=true:=fun hh=>by cases Z.2 hh
   rw[if_neg V]at a;have c:=m.out.new (k:=0) X M.out.2.2.2 M.out.2.1 (.inl rfl) (F.setCell ⟨gm,v,none⟩ (.bool true)) (.inl ⟨rfl,by rw[<-E.out.1,<-E.out.2];exact D,by rw[<-E.out.1,<-E.out.2]⟩);rw[<-HE.out]at c;have o:=dh (dn a c);have kk:=(Keeps.refl (fun q=>q=gm) F).setCell (p:=⟨gm,v,none⟩) (.inl rfl) (.bool true);have W:=kk.at m.out.bx (by omega);have ad:(F.setCell ⟨gm,v,none⟩ (.bool true)).cell? ⟨bs,1,none⟩=some (.slice (some ⟨ge,0,none⟩) N N):=by have:=dw W 1;rw[HN.out]at this;exact this
   have ae:(F.setCell ⟨gm,v,none⟩ (.bool true)).cell? ⟨ge,e,none⟩=some (.int .i64 ze):=(World.cell?_setCell_other _ ⟨gm,v,none⟩ ⟨ge,e,none⟩ _ (by simp <;> omega)).trans H;clear Z a c V kk W;go_wp2;go_ret;exact⟨by rw[o.out.1];rfl,by rw[o.out.1];exact o.out.2⟩
end
section
open Go.RowKit
theorem Ug:(Tryz.prog.info? 136).map (fun i=>(i.zero,i.size,i.bytes))=some (some (.agg #[.int .i64 0,.int .i64 0]),2,16):=by kernel_rfl
theorem Uh(w:World)(a b:Value)(t:TypeId):∀j u,[a,b][j]? = some u->(w.alloc (.cells #[a,b] t)).cell? ((⟨w.heap.size,0,none⟩:Addr).add j)=some u:=by
 intro j u c
 match j,c with
 | 0,c=>simp at c;subst c;simp[Addr.add]
 | 1,c=>simp at c;subst c;simp[Addr.add]
 | j+2,c=>simp at c
theorem Ji{f:Array Oper}{rest:List Oper}{o:Oper}{a:Act}{Q:Exit->Act->World->Prop}{wr:World}(n:Nat)(l:o.guard=none)(s x:Operand)
  (A:o.op=.call { callee:=.builtin .append,args:=#[s,x],argTypes:=#[132,132] })(B:Nat)(v:Value)(ps:List (Nat × Nat))(d k:Nat)(m:Hid (ps.length=n))(H:Nat)(C:wr.heap.size=H)(D:a.eval s=v)(E:a.eval x=.slice (some ⟨H,0,none⟩) 1 1)
  (j:Own2 B wr v ps)(y:n<=100000000)(I:B<=wr.heap.size)
  (h:∀g cap w',Own2 B w' (.slice (some ⟨g,0,none⟩) (n+1) cap) (ps ++ [(d,k)])->Keeps (fun k=>v.ownBlock=some k) wr w'->(v.ownBlock=some g\/wr.heap.size<=g) ->
   wpList Tryz.prog f Q rest (a.put o.dst (.slice (some ⟨g,0,none⟩) (n+1) cap)) w') :
  wpList Tryz.prog f Q (o :: rest) a (wr.alloc (.cells #[.int .i64 d,.int .i64 k] 136)):=by
 obtain⟨i,F,p,q,r⟩:=info_parts Ug;have m:=m.out;subst m;subst C;refine wpList_append_lies _ l s x _ A B 136 i _ 2 16 Tryz.underlying132 F p q r rfl (by decide) v ps.length _ D (World.ownsRow.alloc j _) ⟨wr.heap.size,0,none⟩ 1 1 [.int .i64 d,.int .i64 k] E rfl (Uh _ _ _ _) ?_ (by decide) ?_ ?_ ?_ (wr.heap.size+1) (by simp) ?_
 ·intro u z;simp at z;rcases z with rfl|rfl <;> rfl
 ·unfold maxLen;omega
 ·omega
 ·simp;omega
 ·intro g cap w1 c e t _;refine h g cap w1 ?_ (((Keeps.refl _ wr).alloc _).grown e (fun k G=>.inl G)) (t.imp id (fun h=>by omega));unfold Own2;rw[List.length_append,List.map_append,List.flatten_append];exact c
theorem Nc(S dG:Nat->Nat)(root:Nat):∀j e k,jX (eD S dG root j).2 e=some k->k=0\/k=2
 | 0,e,k,h=>by simp[eD,jX]at h
 | j+1,e,k,h=>by
  have c:(eD S dG root (j+1)).2=(eD S dG root j).2 ++ [((eD S dG root j).1,eZ dG root (eD S dG root j).2 (eD S dG root j).1)]:=rfl;rw[c,IE]at h;cases hf:jX (eD S dG root j).2 e with
  | some x =>
   rw[hf]at h;simp only [Option.some.injEq]at h;subst h;exact Nc S dG root j e x hf
  | none =>
   rw[hf]at h;simp only at h;by_cases a:(eD S dG root j).1 / 2=e
   ·rw[if_pos a]at h;simp only [Option.some.injEq]at h;subst a;rw[Nb hf]at h;rw[<-h];split
    ·exact .inr rfl
    ·exact .inl rfl
   ·rw[if_neg a]at h;cases h
structure WR (w:World)(b:Nat)(s:List Nat)(rt ln:Int)(R:Nat->Prop)(bs ge gm nv ne:Nat)(wx:World):Prop where
 mq:∃R',MapAt wx b s rt ln R'/\(∀x,R' x->R x\/(w.heap.size<=x/\x<wx.heap.size))/\¬R' bs/\¬R' ge/\¬R' gm
 bx:wx.heap[bs]? = some (.cells #[.pointer (some ⟨b,0,none⟩),.slice (some ⟨ge,0,none⟩) ne ne,.slice (some ⟨gm,0,none⟩) nv nv] 186 (0,0))
 eg:wx.heap[ge]? = some (.cells (madeCells #[.int .i64 0] ne) 3 (0,0))
 mg:wx.heap[gm]? = some (.cells (madeCells #[.bool false] nv) 4 (0,0))
 ap:bs≠ge/\bs≠gm/\ge≠gm/\w.heap.size<=bs/\w.heap.size<=ge/\w.heap.size<=gm
 fJ:Keeps (fun k=>k=b) w wx
theorem Nh(w:World)(a b:Obj):((w.alloc a).alloc b).heap[w.heap.size]? = some a/\((w.alloc a).alloc b).heap[w.heap.size+1]? = some b/\Keeps (fun _=>False) w ((w.alloc a).alloc b)/\((w.alloc a).alloc b).heap.size=w.heap.size+2:=by have k:=(Keeps.refl (fun _=>False) (w.alloc a)).alloc b;refine⟨k.at (heap_alloc_new w a) (fun h=>h),?_,((Keeps.refl (fun _=>False) w).alloc a).trans k (fun _ _ h=>h),by simp⟩;have:=heap_alloc_new (w.alloc a) b;simpa using this
theorem Ni(w:World)(a b c:Obj):(((w.alloc a).alloc b).alloc c).heap[w.heap.size]? = some a/\(((w.alloc a).alloc b).alloc c).heap[w.heap.size+1]? = some b/\(((w.alloc a).alloc b).alloc c).heap[w.heap.size+2]? = some c/\Keeps (fun _=>False) w (((w.alloc a).alloc b).alloc c)/\(((w.alloc a).alloc b).alloc c).heap.size=w.heap.size+3:=by obtain⟨d,e,f,g⟩:=Nh w a b;have k:=(Keeps.refl (fun _=>False) ((w.alloc a).alloc b)).alloc c;refine⟨k.at d (fun h=>h),k.at e (fun h=>h),?_,f.trans k (fun _ _ h=>h),by simp⟩;have:=heap_alloc_new ((w.alloc a).alloc b) c;rw[g]at this;exact this
theorem WR.a{w w1 d:World}{b:Nat}{s:List Nat}{rt ln:Int}{R:Nat->Prop}{nv f:Nat}(h:MapAt w b s rt ln R)(g:w1=(w.alloc (.cells (madeCells #[.int .i64 0] f) 3)).drew)(i:gU w1 b s rt ln R d) :
  WR w b s rt ln R (d.heap.size+1) w.heap.size d.heap.size nv f ((d.alloc (.cells (madeCells #[.bool false] nv) 4)).alloc (.cells #[.pointer (some ⟨b,0,none⟩),.slice (some ⟨w.heap.size,0,none⟩) f f,.slice (some ⟨d.heap.size,0,none⟩) nv nv] 186)):=by
 obtain⟨o,p,j,t⟩:=Nh d (.cells (madeCells #[.bool false] nv) 4) (.cells #[.pointer (some ⟨b,0,none⟩),.slice (some ⟨w.heap.size,0,none⟩) f f,.slice (some ⟨d.heap.size,0,none⟩) nv nv] 186);have q:w1.heap.size=w.heap.size+1:=by rw[g];simp
 have l:Keeps (fun _=>False) w w1:=by rw[g];exact((Keeps.refl _ w).alloc _).drew
 have m:w1.heap[w.heap.size]? = some (.cells (madeCells #[.int .i64 0] f) 3 (0,0)):=by rw[g];exact heap_alloc_new w _
 have r:=i.2.size;have u:=h.lt;have n:=(i.2.at m (by omega))
 refine⟨⟨grow R w1 d,i.1.keeps j (fun h=>h) (fun _ _ h=>h),fun x c=>?_,fun c=>?_,fun c=>?_,fun c=>?_⟩,p,j.at n (fun h=>h),o,⟨by omega,by omega,by omega,by omega,by omega,by omega⟩,((l.mono (fun _ _ h=>h.elim):Keeps (fun k=>k=b) w w1).trans i.2 (fun _ _ e=>e)).trans j (fun _ _ e=>e.elim)⟩
 ·rcases c with c|c
  ·exact .inl c
  ·exact .inr ⟨by omega,by omega⟩
 all_goals
  rcases c with c|c
  ·have:=h.old _ c;omega
  ·omega
theorem WR.b{w w1 a:World}{b:Nat}{s:List Nat}{rt ln:Int}{R:Nat->Prop}{nv d:Nat}(h:MapAt w b s rt ln R)(f:w1=w.drew)(g:gU w1 b s rt ln R a) :
  WR w b s rt ln R (a.heap.size+2) a.heap.size (a.heap.size+1) nv d (((a.alloc (.cells (madeCells #[.int .i64 0] d) 3)).alloc (.cells (madeCells #[.bool false] nv) 4)).alloc (.cells #[.pointer (some ⟨b,0,none⟩),.slice (some ⟨a.heap.size,0,none⟩) d d,.slice (some ⟨a.heap.size+1,0,none⟩) nv nv] 186)):=by
 obtain⟨l,m,i,j,p⟩:=Ni a (.cells (madeCells #[.int .i64 0] d) 3) (.cells (madeCells #[.bool false] nv) 4) (.cells #[.pointer (some ⟨b,0,none⟩),.slice (some ⟨a.heap.size,0,none⟩) d d,.slice (some ⟨a.heap.size+1,0,none⟩) nv nv] 186);subst f;have n:w.drew.heap.size=w.heap.size:=rfl;have o:=g.2.size;have q:=h.lt;refine⟨⟨grow R w.drew a,g.1.keeps j (fun h=>h) (fun _ _ h=>h),fun x c=>?_,fun c=>?_,fun c=>?_,fun c=>?_⟩,i,l,m,⟨by omega,by omega,by omega,by omega,by omega,by omega⟩,(((Keeps.refl (fun k=>k=b) w).drew).trans g.2 (fun _ _ e=>e)).trans j (fun _ _ e=>e.elim)⟩
 ·rcases c with c|c
  ·exact .inl c
  ·exact .inr ⟨by omega,by omega⟩
 all_goals
  rcases c with c|c
  ·have:=h.old _ c;omega
  ·omega
theorem WR.c{w w1 a:World}{b:Nat}{s:List Nat}{rt ln:Int}{R:Nat->Prop}{nv f:Nat}(h:MapAt w b s rt ln R)(g:w1=w.drew)(i:gU w1 b s rt ln R a) :
  WR w b s rt ln R (a.heap.size+2) (a.heap.size+1) a.heap.size nv f (((a.alloc (.cells (madeCells #[.bool false] nv) 4)).alloc (.cells (madeCells #[.int .i64 0] f) 3)).alloc (.cells #[.pointer (some ⟨b,0,none⟩),.slice (some ⟨a.heap.size+1,0,none⟩) f f,.slice (some ⟨a.heap.size,0,none⟩) nv nv] 186)):=by
 obtain⟨m,n,j,l,q⟩:=Ni a (.cells (madeCells #[.bool false] nv) 4) (.cells (madeCells #[.int .i64 0] f) 3) (.cells #[.pointer (some ⟨b,0,none⟩),.slice (some ⟨a.heap.size+1,0,none⟩) f f,.slice (some ⟨a.heap.size,0,none⟩) nv nv] 186);subst g;have o:w.drew.heap.size=w.heap.size:=rfl;have p:=i.2.size;have r:=h.lt;refine⟨⟨grow R w.drew a,i.1.keeps l (fun h=>h) (fun _ _ h=>h),fun x d=>?_,fun d=>?_,fun d=>?_,fun d=>?_⟩,j,n,m,⟨by omega,by omega,by omega,by omega,by omega,by omega⟩,(((Keeps.refl (fun k=>k=b) w).drew).trans i.2 (fun _ _ e=>e)).trans l (fun _ _ e=>e.elim)⟩
 ·rcases d with d|d
  ·exact .inl d
  ·exact .inr ⟨by omega,by omega⟩
 all_goals
  rcases d with d|d
  ·have:=h.old _ d;omega
  ·omega
theorem fZ.xP{w:World}{g n:Nat}(h:w.heap[g]? = some (.cells (madeCells #[.bool false] n) 4 (0,0))):fZ w g n (fun _=>False):=by
 have a:madeCells #[.bool false] n=((List.replicate n false).map Value.bool).toArray:=by apply Array.toList_inj.1;rw[toList_madeCells_one];simp
 exact⟨List.replicate n false,by simp,fun x c=>.inr ⟨by simp[c],fun h=>h⟩,by rw[<-a];exact h⟩
theorem WS.Cc{w:World}{b:Nat}{s:List Nat}{rt ln:Int}{R:Nat->Prop}{bs ge gm nv root:Nat}{out:List (Nat × Nat)}{ov:Value}{so:List (Nat × Nat)}{wr:World}(h:WS w b s rt ln R bs ge gm nv root out ov so wr)(c:MapAt w b s rt ln R):gU w b s rt ln R wr:=by
 obtain⟨g,d,f,_⟩:=h.mq;have i:=h.bw;have j:=h.fJ.size;refine⟨d.mono (fun x a=>?_) (fun x a=>?_) (fun a=>?_),h.fJ⟩
 ·rcases f x a with e|e
  ·exact .inl e
  ·exact .inr e
 ·rcases a with a|a
  ·have:=c.old x a;omega
  ·exact a.2
 ·rcases a with a|a
  ·exact c.kC a
  ·omega
theorem WR.start{w j:World}{b:Nat}{s:List Nat}{rt ln:Int}{R c:Nat->Prop}{bs ge gm nv l root:Nat}(h:WR w b s rt ln R bs ge gm nv l j)(A:∀x,c x->R x\/(w.heap.size<=x/\x<j.heap.size))(m:¬c bs)(n:¬c ge)(f:¬c gm)(o:l=s.length / 2)(B:l<=1000000)(r:eu (sg s) s.length<=nv)(C:b<w.heap.size)
  {g:World}(d:gU j b s rt ln c g)(D:vnum (sg s) root<nv) :
  WS w b s rt ln R bs ge gm nv root [] (.slice none 0 0) [] (g.setCell ⟨gm,vnum (sg s) root,none⟩ (.bool true)):=by
 obtain⟨I,J,a3,a4,a5,K⟩:=h.ap;have L:=lt_of_block h.bx;have M:=lt_of_block h.eg;have N:=lt_of_block h.mg;have E:=h.fJ.size;have F:=d.2.size;have i:=(Keeps.refl (fun q=>q=gm) g).setCell (p:=⟨gm,vnum (sg s) root,none⟩) (.inl rfl) (.bool true);have t:=d.2.at h.eg (by omega);have u:=i.at t (by omega);have v:fZ g gm nv (fun _=>False):=(fZ.xP h.mg).keeps d.2 (by omega);subst o;refine⟨⟨grow c j g,d.1.keeps i (fun e=>by omega) (fun x a e=>?_),fun x a=>?_,fun a=>?_,fun a=>?_,fun a=>?_,fun k z=>by simp[Value.ownBlock]at z⟩,Own2.nil _ _,fun k z=>by simp[Value.ownBlock]at z,i.at (d.2.at h.bx (by omega)) (by omega),⟨List.replicate (s.length / 2) 0,by simp,⟨by simp[ints],.inr ⟨ge,s.length / 2,_,by simp,a5,u,by simp,by unfold maxLen;omega,by rw[size_madeCells];simp,?_⟩⟩,fun e G=>by simp[jX,G]⟩,v.set D (fun y _=>?_),r,h.ap,C,(h.fJ.trans d.2 (fun _ _ e=>e)).trans i (fun x a e=>by omega)⟩
 ·rcases a with a|a
  ·exact f (e ▸ a)
  ·omega
 ·have H:=i.size;rcases a with a|a
  ·rcases A x a with e|e
   ·exact .inl e
   ·exact .inr ⟨e.1,by omega⟩
  ·exact .inr ⟨by omega,by omega⟩
 ·rcases a with a|a
  ·exact m a
  ·omega
 ·rcases a with a|a
  ·exact n a
  ·omega
 ·rcases a with a|a
  ·exact f a
  ·omega
 ·rw[toList_madeCells_one];simp[ints]
 ·unfold gG;simp
theorem walkOf_any{w:World}{b:Nat}{s:List Nat}{rt:Int}{l:Nat}{R:Nat->Prop}(h:MapAt w b s rt l R){root:Nat}(hr:root<s.length) :
  Calls Tryz.prog 76 #[.pointer (some ⟨b,0,none⟩),.int .i64 root] w fun e w'=>∃T ov,e=.returned (.tuple #[ov,.int .i64 0])/\iV s.length (sg s) (vnum (sg s)) root T/\BR s.length (sg s) root T (fun i=>(eD (sg s) (vnum (sg s)) root i).1) (jk (eD (sg s) (vnum (sg s)) root T).2) /\
   Own2 w.heap.size w' ov (eD (sg s) (vnum (sg s)) root T).2/\gU w b s rt l R w':=by
 have hP:=h.dR;have ai:=h.even;obtain⟨T,hE,g,hT⟩:=Ep hP ai (fun x y hx hy=>hP.eT hx hy) hr;have hD:=uS h;have aZ:=h.le;have a0:=h.ln;have d0:decide ((root:Int)<0)=false:=decide_eq_false (by omega);have d1:decide (s.length<=root)=false:=decide_eq_false (by omega);have kd:=(Keeps.refl (fun _=>False) w).drew;have aj:=h.keeps kd (fun h=>h) (fun _ _ h=>h);obtain⟨nv,ak⟩:∃nv,nv=eu (sg s) s.length+l:=⟨_,rfl⟩
 obtain⟨ne,al⟩:∃ne,ne=s.length / 2:=⟨_,rfl⟩
 have a7:=oV (sg s) s.length;have aX:nv<=200000:=by omega
 have aY:ne<=200000:=by omega
 have aa:∀{W:World} {R':Nat->Prop},MapAt W b s rt l R'->Calls Tryz.prog 20 #[.pointer (some ⟨b,0,none⟩)] W (fun e w'=>e=.returned (.int .i64 (ne:Nat))/\W=w'):=fun hh=>by rw[al];exact Gq hh
 have am:∀{W:World} {R':Nat->Prop},MapAt W b s rt l R'->Calls Tryz.prog 19 #[.pointer (some ⟨b,0,none⟩)] W (fun e w'=>e=.returned (.int .i64 (nv:Nat))/\gU W b s rt l R' w'):=fun hh=>(Gs hh).mono (fun e w' k=>⟨by rw[k.1,ak];simp,k.2⟩);obtain⟨i,hi,av,aw,ax⟩:=info_parts nX;have ae:=fun w=>run_make (P:=Tryz.prog) w 25 3 i _ Tryz.underlying25 hi av .i64 .i64 (ne:Int) (ne:Int) (by omega) (Int.le_refl _) (by rw[ax];omega) (by omega);simp only [aw,Int.toNat_natCast,Nat.mul_one]at ae;obtain⟨ib,ay,az,z,F⟩:=info_parts I5;have af:=fun w=>run_make (P:=Tryz.prog) w 53 4 ib _ Tryz.underlying53 ay az .i64 .i64 (nv:Int) (nv:Int) (by omega) (Int.le_refl _) (by rw[F];omega) (by omega);simp only [z,Int.toNat_natCast,Nat.mul_one]at af;have ka:=((Keeps.refl (fun _=>False) w).alloc (.cells (madeCells #[.int .i64 0] ne) 3)).drew;have aA:=h.keeps ka (fun h=>h) (fun _ _ h=>h);have q:=dh (dn hP (dn ai (dn hE (dn g (dn hT (dn ak (dn al h)))))));clear h hP ai hE g hT hi av aw ax ay az z F ak al kd ka;go_enter Tryz.func76,Tryz.ntmps76;go_wp2_with (go_at_call 62;refine hD.mono ?_;rintro e w' ⟨rfl,rfl⟩)
 clear hD;go_upto_region 5 with fail;go_cut [6]from 23 to 31 (fun p6 wz=>∃wx bs ge gm,wx=wz/\p6=.pointer (some ⟨bs,0,none⟩)/\WR w b s rt l R bs ge gm nv ne wx)
 case first =>
  go_region_with (first | (go_at_call 20;(first | (with_reducible refine(aa aj).mono ?_) | (with_reducible refine(aa aB).mono ?_) | (with_reducible refine(aa aP).mono ?_));rintro e w' ⟨rfl,rfl⟩) | (go_at_call 19;(first | (with_reducible refine(am aj).mono ?_) | (with_reducible refine(am aA).mono ?_));rintro e w2 ⟨rfl,hq⟩;have HQ:=dh hq;have aB:=hq.1;have aP:=aB.keeps ((Keeps.refl (fun _=>False) w2).alloc (.cells (madeCells #[.bool false] nv) 4)) (fun h=>h) (fun _ _ h=>h)))
  all_goals
   go_wp2_with fail
   go_meet
   first
    | exact⟨_,_,_,_,rfl,rfl,WR.a q.out.2.2.2.2.2.2.2 rfl HQ.out⟩
    | exact⟨_,_,_,_,rfl,rfl,WR.b q.out.2.2.2.2.2.2.2 rfl HQ.out⟩
    | exact⟨_,_,_,_,rfl,rfl,WR.c q.out.2.2.2.2.2.2.2 rfl HQ.out⟩
 case rest =>
  obtain⟨wx,bs,ge,gm,rfl,rfl,hW⟩:=hcut;obtain⟨R',aC,aD,aE,aF,aG⟩:=hW.mq;have kd:=(Keeps.refl (fun _=>False) wx).drew;have an:=BZ (aC.keeps kd (fun h=>h) (fun _ _ h=>h)) root hr;have aH:wx.drew.cell? ⟨bs,2,none⟩=some (.slice (some ⟨gm,0,none⟩) nv nv):=dw hW.bx 2;have aQ:=q.out.1.gK hr;obtain⟨v,hv⟩:∃v,v=vnum (sg s) root:=⟨_,rfl⟩
  have aI:v<nv:=by rw[hv,q.out.2.2.2.2.2.1];omega
  rw[<-hv]at an;have aR:=q.out.2.2.2.2.2.2.2.lt;obtain⟨a1,a2,a3,a4,a5,a6⟩:=hW.ap;have HV:=dh hv;have K:=dh (dn hW (dn aD (dn aE (dn aF (dn aG kd)))));clear hW aC aD aE aF aG kd ae af aa am aj aA hv aQ;go_wp2_with fail;go_region_held3 (fun w'=>w'.cell? ⟨bs,2,none⟩=some (.slice (some ⟨gm,0,none⟩) nv nv)) (first|exact aH|exact V|exact ag) (first | (go_at_call 123;refine an.mono ?_;rintro e w2 ⟨rfl,hq⟩;have ab:=hq.tq;have F:=ab.2.at K.out.1.bx (by omega);have V:w2.cell? ⟨bs,2,none⟩=some (.slice (some ⟨gm,0,none⟩) nv nv):=dw F 2;obtain⟨t0,aS,aT,aU⟩:=((fZ.xP K.out.1.mg).keeps ab.2 (by omega):fZ w2 gm nv (fun _=>False)).cell aI;have ag:(w2.setCell ⟨gm,v,none⟩ (.bool true)).cell? ⟨bs,2,none⟩=some (.slice (some ⟨gm,0,none⟩) nv nv):=(World.cell?_setCell_other _ ⟨gm,v,none⟩ ⟨bs,2,none⟩ _ (by simp <;> omega)).trans V;have HQ:=dh ab;clear hq ab F aS));have aJ:WS w b s rt l R bs ge gm nv root [] (.slice none 0 0) [] (w2.setCell ⟨gm,v,none⟩ (.bool true)):=by rw[HV.out];exact K.out.1.start K.out.2.1 K.out.2.2.1 K.out.2.2.2.1 K.out.2.2.2.2.1 q.out.2.2.2.2.2.2.1 (by omega) (by have:=q.out.2.2.2.2.2.1;omega) aR HQ.out (by rw[<-HV.out];exact aI)
  have aK:=dh aJ;clear aJ an aH V ag aT aU;go_wp2_with fail;generalize World.setCell _ _ _=w3 at *;have ad:=dh q.out.2.2.2.2.1.pos;have a8:T<=131072:=by have:=q.out.2.2.1.le;omega
  go_loopg [7,8,9] T (fun m ov dv tv wr=>∃j:Nat,j<T/\m=T - j/\dv=.int .i64 ((eD (sg s) (vnum (sg s)) root j).1:Nat)/\tv=.int .i64 (DD (jk (eD (sg s) (vnum (sg s)) root j).2) j)/\WS w b s rt l R bs ge gm nv root (eD (sg s) (vnum (sg s)) root j).2 ov (eD (sg s) (vnum (sg s)) root j).2 wr)
  case atStart=>exact⟨0,ad.out,rfl,rfl,rfl,aK.out⟩
  case round =>
   clear aK;obtain⟨j,hj,aL,rfl,rfl,hW⟩:=hrel;have HG:=dh aL;clear aL;have ao:=Nc (sg s) (vnum (sg s)) root j;have M:=sF (sg s) (vnum (sg s)) root j;have X:eD (sg s) (vnum (sg s)) root (j+1)=o9 (sg s) (vnum (sg s)) root (eD (sg s) (vnum (sg s)) root j):=rfl;obtain⟨d,hd⟩:∃d,d=(eD (sg s) (vnum (sg s)) root j).1:=⟨_,rfl⟩
   obtain⟨out,N⟩:∃out,out=(eD (sg s) (vnum (sg s)) root j).2:=⟨_,rfl⟩
   have Q:(eD (sg s) (vnum (sg s)) root j).1<s.length:=q.out.2.2.2.2.1.lt j hj;have aq:=q.out.2.2.1.k4 (j+1) (by omega) (eD (sg s) (vnum (sg s)) root j).1 (eZ (vnum (sg s)) root (eD (sg s) (vnum (sg s)) root j).2 (eD (sg s) (vnum (sg s)) root j).1) (by rw[X];simp[o9]);rw[<-N]at M ao hW aq;rw[<-hd]at Q aq ⊢;rw[<-N];have O:eD (sg s) (vnum (sg s)) root (j+1)=(sg s (if eZ (vnum (sg s)) root out d<2 then mt d else d),out ++ [(d,eZ (vnum (sg s)) root out d)]):=by rw[X,hd,N];rfl
   have hK:=Uf hW Q ao;obtain⟨k,hk⟩:∃k,k=eZ (vnum (sg s)) root out d:=⟨_,rfl⟩
   rw[<-hk]at hK aq O;have aM:jk (eD (sg s) (vnum (sg s)) root (j+1)).2=jk out ++ [k]:=by rw[O,qF]
   have ar:DD (jk (eD (sg s) (vnum (sg s)) root (j+1)).2) (j+1)=DD (jk out) j+dd k:=by rw[aM];have:=Ak (jk out) k;rw[Bz,M]at this;exact this
   have aV:-(131072:Int)<=DD (jk out) j/\DD (jk out) j<=131072:=by have C:=FN ((jk out).take j) 0;have h2:=FN ((jk out).take j) 1;rw[List.length_take]at C h2;unfold DD;omega
   obtain⟨D,aN⟩:∃D,D=DD (jk out) j:=⟨_,rfl⟩
   rw[<-aN]at ar aV ⊢;have HX:=dh (dn O (dn ar (dn M hk)));clear X hd N ao O aM ar hk aN hW M;go_wp2_with fail;refine hK.mono ?_;rintro en w4 ⟨rfl,S⟩;clear hK;obtain⟨oa,oc,rfl⟩:=S.st.form;rw[HX.out.2.2.1]at S ⊢;have E:=S.st;have U:=S.fJ.size;have L:Hid (out.length=j):=dh HX.out.2.2.1;have ah:=fun (w5:World) g5 cap=>S.app (g5:=g5) (m:=j+1) (cap:=cap) (w5:=w5) (ps:=out ++ [(d,k)]);have HA:=dh ah;have au:j<=100000000:=by omega
   have aO:=dQ q.out.2.1 Q;clear ah S;have aW:k=0\/k=1\/2<=k:=by omega
   have a9:True:=trivial;rcases aW with rfl|rfl|ba
   ·go_wp2_with (at_builtin;refine Ji j rfl _ _ rfl w.heap.size (.slice oa j oc) out d 0 L w4.heap.size rfl rfl rfl E au U ?_;intro g5 G w5 o H u;have p:=dh (HA.out w5 g5 G o H u);clear o H u)
    obtain⟨R5,r,_⟩:=p.out.ask;have Z:=sZ r d Q;have I:=vW r (mt d) aO;have t:=HX.out.1;rw[if_pos (by omega)]at t;have A:=HX.out.2.1;have J:dd 0=1:=by simp[dd]
    rw[J]at A;clear r E U J;refine Z.mono ?_;rintro en w' ⟨rfl,rfl⟩;clear Z;go_wp2_with fail;refine I.mono ?_;rintro en w' ⟨rfl,rfl⟩;clear I;obtain⟨Y,hY⟩:∃Y,Y=sg s (mt d):=⟨_,rfl⟩
    rw[<-hY]at t ⊢;have f:=dh (dn t A);clear t A hY;by_cases g:j+1=T
    ·have B:Y=root:=by have C:=q.out.2.2.2.1;rw[<-g,f.out.1]at C;exact C
     have n:D+1=0:=by have C:=q.out.2.2.2.2.1.right.nE;rw[q.out.2.2.2.2.1.len,<-g,f.out.2]at C;exact C
     subst B;have z:((D+1) == 0)=true:=by rw[beq_iff_eq];exact n
     have HF:=dh (dn p.out.st (p.out.Cc q.out.2.2.2.2.2.2.2));have HE:=dh g;clear n g;go_wp2;go_ret2;refine⟨T,_,rfl,q.out.2.2.1,q.out.2.2.2.2.1,?_,HF.out.2⟩;rw[<-HE.out,f.out.1];exact HF.out.1
    ·have B:Y≠root:=fun e=>by have C:=q.out.2.2.2.2.1.inj (j+1) 0 (by omega) ad.out (by show (eD (sg s) (vnum (sg s)) root (j+1)).1=root;rw[f.out.1];exact e);omega
     have F:((Y:Int) == (root:Int))=false:=by rw[beq_eq_false_iff_ne];omega
     have HJ:=dh (show j+1<T by omega);clear B g;by_cases n:D+1=0
     ·have z:((D+1) == 0)=true:=by rw[beq_iff_eq];exact n
      clear n;go_wp2;go_roundg (T - (j+1))
      case measure=>rw[HG.out];omega
      case rel=>exact⟨j+1,HJ.out,rfl,by rw[f.out.1],by rw[f.out.2],by rw[f.out.1];exact p.out⟩
     ·have z:((D+1) == 0)=false:=by rw[beq_eq_false_iff_ne];exact n
      clear n;go_wp2;go_roundg (T - (j+1))
      case measure=>rw[HG.out];omega
      case rel=>exact⟨j+1,HJ.out,rfl,by rw[f.out.1],by rw[f.out.2],by rw[f.out.1];exact p.out⟩
   ·go_wp2_with (at_builtin;refine Ji j rfl _ _ rfl w.heap.size (.slice oa j oc) out d 1 L w4.heap.size rfl rfl rfl E au U ?_;intro g5 G w5 o H u;have p:=dh (HA.out w5 g5 G o H u);clear o H u)
    obtain⟨R5,r,_⟩:=p.out.ask;have Z:=sZ r d Q;have I:=vW r (mt d) aO;have t:=HX.out.1;rw[if_pos (by omega)]at t;have A:=HX.out.2.1;have J:dd 1=-1:=by simp[dd]
    rw[J]at A;clear r E U J;refine Z.mono ?_;rintro en w' ⟨rfl,rfl⟩;clear Z;go_wp2_with fail;refine I.mono ?_;rintro en w' ⟨rfl,rfl⟩;clear I;obtain⟨Y,hY⟩:∃Y,Y=sg s (mt d):=⟨_,rfl⟩
    rw[<-hY]at t ⊢;have f:=dh (dn t A);clear t A hY;by_cases g:j+1=T
    ·have B:Y=root:=by have C:=q.out.2.2.2.1;rw[<-g,f.out.1]at C;exact C
     have n:D + -1=0:=by have C:=q.out.2.2.2.2.1.right.nE;rw[q.out.2.2.2.2.1.len,<-g,f.out.2]at C;exact C
     subst B;have z:((D + -1) == 0)=true:=by rw[beq_iff_eq];exact n
     have HF:=dh (dn p.out.st (p.out.Cc q.out.2.2.2.2.2.2.2));have HE:=dh g;clear n g;go_wp2;go_ret2;refine⟨T,_,rfl,q.out.2.2.1,q.out.2.2.2.2.1,?_,HF.out.2⟩;rw[<-HE.out,f.out.1];exact HF.out.1
    ·have B:Y≠root:=fun e=>by have C:=q.out.2.2.2.2.1.inj (j+1) 0 (by omega) ad.out (by show (eD (sg s) (vnum (sg s)) root (j+1)).1=root;rw[f.out.1];exact e);omega
     have F:((Y:Int) == (root:Int))=false:=by rw[beq_eq_false_iff_ne];omega
     have HJ:=dh (show j+1<T by omega);clear B g;by_cases n:D + -1=0
     ·have z:((D + -1) == 0)=true:=by rw[beq_iff_eq];exact n
      clear n;go_wp2;go_roundg (T - (j+1))
      case measure=>rw[HG.out];omega
      case rel=>exact⟨j+1,HJ.out,rfl,by rw[f.out.1],by rw[f.out.2],by rw[f.out.1];exact p.out⟩
     ·have z:((D + -1) == 0)=false:=by rw[beq_eq_false_iff_ne];exact n
      clear n;go_wp2;go_roundg (T - (j+1))
      case measure=>rw[HG.out];omega
      case rel=>exact⟨j+1,HJ.out,rfl,by rw[f.out.1],by rw[f.out.2],by rw[f.out.1];exact p.out⟩
   ·have q0:((k:Int) == 0)=false:=by rw[beq_eq_false_iff_ne];omega
    have q1:((k:Int) == 1)=false:=by rw[beq_eq_false_iff_ne];omega
    go_wp2_with (at_builtin;refine Ji j rfl _ _ rfl w.heap.size (.slice oa j oc) out d k L w4.heap.size rfl rfl rfl E au U ?_;intro g5 G w5 o H u;have p:=dh (HA.out w5 g5 G o H u);clear o H u)
    obtain⟨R5,r,_⟩:=p.out.ask;have I:=vW r d Q;have t:=HX.out.1;rw[if_neg (by omega)]at t;have A:=HX.out.2.1;have J:dd k=0:=by unfold dd;rw[if_neg (by omega),if_neg (by omega)]
    rw[J,Int.add_zero]at A;clear r E U J;refine I.mono ?_;rintro en w' ⟨rfl,rfl⟩;clear I;obtain⟨Y,hY⟩:∃Y,Y=sg s d:=⟨_,rfl⟩
    rw[<-hY]at t ⊢;have f:=dh (dn t A);clear t A hY;by_cases g:j+1=T
    ·have B:Y=root:=by have C:=q.out.2.2.2.1;rw[<-g,f.out.1]at C;exact C
     have n:D=0:=by have C:=q.out.2.2.2.2.1.right.nE;rw[q.out.2.2.2.2.1.len,<-g,f.out.2]at C;exact C
     subst B;have z:((D) == 0)=true:=by rw[beq_iff_eq];exact n
     have HF:=dh (dn p.out.st (p.out.Cc q.out.2.2.2.2.2.2.2));have HE:=dh g;clear n g;go_wp2;go_ret2;refine⟨T,_,rfl,q.out.2.2.1,q.out.2.2.2.2.1,?_,HF.out.2⟩;rw[<-HE.out,f.out.1];exact HF.out.1
    ·have B:Y≠root:=fun e=>by have C:=q.out.2.2.2.2.1.inj (j+1) 0 (by omega) ad.out (by show (eD (sg s) (vnum (sg s)) root (j+1)).1=root;rw[f.out.1];exact e);omega
     have F:((Y:Int) == (root:Int))=false:=by rw[beq_eq_false_iff_ne];omega
     have HJ:=dh (show j+1<T by omega);clear B g;by_cases n:D=0
     ·have z:((D) == 0)=true:=by rw[beq_iff_eq];exact n
      clear n;go_wp2;go_roundg (T - (j+1))
      case measure=>rw[HG.out];omega
      case rel=>exact⟨j+1,HJ.out,rfl,by rw[f.out.1],by rw[f.out.2],by rw[f.out.1];exact p.out⟩
     ·have z:((D) == 0)=false:=by rw[beq_eq_false_iff_ne];exact n
      clear n;go_wp2;go_roundg (T - (j+1))
      case measure=>rw[HG.out];omega
      case rel=>exact⟨j+1,HJ.out,rfl,by rw[f.out.1],by rw[f.out.2],by rw[f.out.1];exact p.out⟩
end
section
open Go.RowKit
def jD(w:World)(a:Nat)(ks:List Nat)(w':World):Prop :=
 ∃v,gF w' a v ks/\w.heap.size<=a/\(∀k,v.ownBlock=some k->w.heap.size<=k)/\Keeps (fun _=>False) w w'
theorem jD.base{a w w1:World}{c:Nat}{ks:List Nat}(h:jD w c ks w1)(k:Keeps (fun _=>False) a w):jD a c ks w1:=by obtain⟨v,d,i,e,f⟩:=h;have:=k.size;exact⟨v,d,by omega,fun q g=>by have:=e q g;omega,k.trans f (fun _ _ h=>h)⟩
theorem Ui{out:List (Nat × Nat)}{j:Nat}{p:Nat × Nat}(h:out[j]? = some p):(jk out).take (j+1)=(jk out).take j ++ [p.2]:=oW (by simp[jk,h])
theorem walkWord_any{B:Nat}{U:Value}{ps:List (Nat × Nat)}{w:World}(V:Own2 B w U ps)(k4:∀p ∈ ps,p.2<4)(hl:ps.length<=1000000) :
  Calls Tryz.prog 165 #[U] w fun e w'=>∃f,e=.returned (.pointer (some ⟨f,0,none⟩))/\jD w f (jk ps) w':=by
 have HS:Hid (∀W,Keeps (fun _=>False) w W->Own2 B W U ps):=dh (fun W E=>V.keeps E (fun _ _ h=>h));obtain⟨la,lc,rfl⟩:=V.form;have hN:=KN w;have X:jD w w.heap.size ((jk ps).take 0) (w.alloc (.cells #[.slice none 0 0] 231)):=⟨_,⟨heap_alloc_new w _,World.ownsRow_nil _ _ _ _⟩,Nat.le_refl _,fun k E=>by simp[Value.ownBlock]at E,(Keeps.refl _ w).alloc _⟩
 have Y:=dh k4;have F:=Bz ps;have G:=dh F;clear V k4 F;go_enter Tryz.func165,Tryz.ntmps165;go_wp2_with fail;refine hN.mono ?_;rintro e w1 ⟨rfl,rfl⟩;clear hN;obtain⟨f,H⟩:∃f,f=w.heap.size:=⟨_,rfl⟩
 rw[<-H]at X ⊢;clear H;generalize w.alloc (.cells #[.slice none 0 0] 231)=w1 at *;go_wp2_with fail;generalize hn:ps.length=n at *;have HN:=dh hn;clear hn;go_loopg [9] n (fun m i wr=>∃j:Nat,j<=n/\m=n - j/\i=.int .i64 j/\jD w f ((jk ps).take j) wr)
 case atStart=>exact⟨0,Nat.zero_le _,rfl,rfl,X⟩
 case round =>
  clear X;obtain⟨j,hj,I,rfl,J⟩:=hrel;have HG:=dh I;clear I;by_cases K:j<n
  ·obtain⟨v,a,L,M,u⟩:=id J;have N:=List.getElem?_eq_getElem (l:=ps) (i:=j) (by rw[HN.out];exact K);obtain⟨p,O⟩:∃p,p=ps[j]'(by rw[HN.out];exact K):=⟨_,rfl⟩
   rw[<-O]at N;obtain⟨g,c,hv,Z,aa⟩:=(HS.out wr u).cell N;simp only [Value.slice.injEq]at hv;obtain⟨rfl,e5,rfl⟩:=hv;have ab:=Y.out p (List.mem_of_getElem? N);have A:=Ui N;obtain⟨x,hx⟩:∃x,x=p.1:=⟨_,rfl⟩
   obtain⟨k,E⟩:∃k,k=p.2:=⟨_,rfl⟩
   rw[<-hx]at Z;rw[<-E]at aa ab A;have ka:=(Keeps.refl (fun _=>False) wr).alloc (.cells #[.int .i64 x,.int .i64 k] 136);have kb:=(Keeps.refl (fun _=>False) (wr.alloc (.cells #[.int .i64 x,.int .i64 k] 136))).alloc (.cells #[.int .i64 k] 3);have C:=ka.trans kb (fun _ _ h=>h);have o:=a.keeps C (fun h=>h) (fun _ _ h=>h);have D:=(q3z (wr.alloc (.cells #[.int .i64 x,.int .i64 k] 136)) (k:Int)).sl;rw[show (wr.alloc (.cells #[.int .i64 x,.int .i64 k] 136)).heap.size=wr.heap.size+1 by simp]at D;have ad:=a.lt;have P:=a.apart;have r:((jk ps).take j).length=j:=by rw[List.length_take,G.out];omega
   have hA:=QD f v ((jk ps).take j) _ [(k:Int)] _ o D (by intro z hz;simp at hz;subst hz;omega) (fun q Q=>by simp only [Value.ownBlock,Option.some.injEq]at Q;subst Q;exact⟨by omega,fun e=>by have:=(P _ e).2;omega⟩) (by rw[r];simp;omega);have d:=dh (dn u (dn C (dn A (dn L M))));clear J a u N O e5 A hx E ka kb C o D P r L M;go_wp2_with fail;refine hA.mono ?_;rintro en w5 ⟨rfl,v',hG,S,T⟩
   have t:jD w f ((jk ps).take (j+1)) w5:=by
    have ae:=d.out.1.size;have af:=d.out.2.1.size;refine⟨v',?_,d.out.2.2.2.1,fun q Q=>?_,(d.out.1.trans d.out.2.1 (fun _ _ h=>h)).trans S (fun y hy e=>?_)⟩
    ·rw[d.out.2.2.1];exact hG
    ·rcases T with e|⟨q2,e1,e2⟩
     ·exact d.out.2.2.2.2 q (by rw[<-e];exact Q)
     ·rw[Q]at e1;have:=Option.some.inj e1;omega
    ·have:=d.out.2.2.2.1;rcases e with e|e
     ·omega
     ·have:=d.out.2.2.2.2 y e;omega
   have HF:=dh t;clear hA hG S T t;go_wp2;go_roundg (n - (j+1))
   case measure=>rw[HG.out];omega
   case rel=>exact⟨j+1,by omega,rfl,by go_num,HF.out⟩
  ·obtain rfl:j=n:=by omega
   rw[List.take_of_length_le (by rw[G.out];exact Nat.le_refl _)]at J;have HF:=dh J;clear J;go_wp2;go_ret;exact⟨_,rfl,HF.out⟩
def AL(w:World)(b a:Nat)(ks:List Nat)(w':World):Prop :=
 ∃v,gF w' a v ks/\w.heap.size<=a/\(∀k,v.ownBlock=some k->w.heap.size<=k)/\Keeps (fun k=>k=b) w w'
theorem jD.after{w w1 a:World}{b c:Nat}{ks:List Nat}(h:jD w1 c ks a)(k:Keeps (fun k=>k=b) w w1):AL w b c ks a:=by obtain⟨v,d,i,e,f⟩:=h;have:=k.size;exact⟨v,d,by omega,fun q g=>by have:=e q g;omega,k.trans f (fun _ _ h=>h.elim)⟩
def Uj(w:World)(b:Nat)(s:List Nat)(rt:Int)(l:Nat)(R:Nat->Prop)(e:Ending)(w':World):Prop :=
 ∃p c ks,e=.returned (.tuple #[p,.int .i64 (c:Nat)])/\vP s l rt ks c/\gU w b s rt l R w'/\((c=0/\∃a,p=.pointer (some ⟨a,0,none⟩)/\AL w b a ks w')\/(c≠0/\p=.pointer none))
theorem Uk{w:World}{b:Nat}{s:List Nat}{rt:Int}{l:Nat}{R:Nat->Prop}(h:MapAt w b s rt l R) :
  Calls Tryz.prog 130 #[.pointer (some ⟨b,0,none⟩)] w (Uj w b s rt l R):=by
 have i:=M8 h;have t:=dh h;by_cases j:dX s.length (sg s) s.length+l=1
 rotate_left
 ·rw[decide_eq_false j]at i;have u:=dh j;clear h j;go_enter Tryz.func130,Tryz.ntmps130;go_wp2_with fail;refine i.mono ?_;rintro g w1 ⟨rfl,f⟩;have v:=dh f;clear i f;go_wp2;go_ret2;exact⟨_,8,[],rfl,.inl ⟨u.out,rfl,rfl⟩,v.out,.inr ⟨by omega,rfl⟩⟩
 rw[decide_eq_true j]at i;have u:=dh j;by_cases E:fV (jN s l)=0
 rotate_left
 ·have q:=dh E;clear h j;go_enter Tryz.func130,Tryz.ntmps130;go_wp2_with fail;refine i.mono ?_;rintro g w1 ⟨rfl,f⟩;have c:=EB f.1;rw[decide_eq_false q.out]at c;have v:=dh f;clear i f E;go_wp2_with fail;refine c.mono ?_;rintro g m ⟨rfl,e⟩;have a:=dh (t.out.trans v.out e);clear c e;go_wp2;go_ret2;exact⟨_,7,[],rfl,.inr (.inl ⟨u.out,q.out,rfl,rfl⟩),a.out,.inr ⟨by omega,rfl⟩⟩
 have q:=dh E;have I:=dh h.rt;clear h j;go_enter Tryz.func130,Tryz.ntmps130;go_wp2_with fail;refine i.mono ?_;rintro g w1 ⟨rfl,f⟩;have c:=EB f.1;rw[decide_eq_true q.out]at c;have v:=dh f;clear i f E;go_wp2_with fail;refine c.mono ?_;rintro g m ⟨rfl,e⟩;have d:=t.out.trans v.out e;have L:=uS d.1;have n:=Dl d.1;have a:=dh d;clear c e d;go_wp2_with fail;refine L.mono ?_;rintro g w' ⟨rfl,rfl⟩;clear L;by_cases F:s.length=0
 ·have M:=KN m;have J:((s.length:Int) == 0)=true:=by rw[beq_iff_eq];omega
  have Q:=dh F;clear F n;go_wp2_with fail;refine M.mono ?_;rintro g N ⟨rfl,rfl⟩;have k:=(Keeps.refl (fun _=>False) m).alloc (.cells #[.slice none 0 0] 231);have O:jD m m.heap.size [] (m.alloc (.cells #[.slice none 0 0] 231)):=⟨_,Qy m,Nat.le_refl _,fun k K=>by simp[Value.ownBlock]at K,k⟩
  have x:=dh (dn (O.after a.out.2) (t.out.trans a.out (a.out.1.still k)));clear M k O;go_wp2;go_ret2;exact⟨_,0,[],rfl,.inr (.inr (.inl ⟨u.out,q.out,rfl,Q.out,rfl⟩)),x.out.2,.inl ⟨rfl,_,rfl,x.out.1⟩⟩
 ·obtain⟨r,hr,y⟩:∃r:Nat,rt=r/\r<s.length:=by
   rcases I.out with⟨P,_⟩|⟨P,W⟩
   ·exact absurd P F
   ·exact⟨rt.toNat,by omega,by omega⟩
  subst hr;have z:=walkOf_any a.out.1 y;have J:((s.length:Int) == 0)=false:=by rw[beq_eq_false_iff_ne];omega
  clear F;go_wp2_with fail;refine n.mono ?_;rintro g w' ⟨rfl,rfl⟩;clear n;go_wp2_with fail;refine z.mono ?_;rintro g N ⟨T,ov,rfl,G,S,A,B⟩;have C:=walkWord_any A (fun p U=>by have:=G.k4 T (Nat.le_refl _) p.1 p.2 U;exact this) (by rw[sF];have:=G.le;have:=a.out.1.le;omega);have H:=dh (dn G (t.out.trans a.out B));clear z G S A B;go_wp2_with fail;refine C.mono ?_;rintro g V ⟨X,rfl,o⟩;have D:Keeps (fun _=>False) N V:=by obtain⟨_,_,_,_,K⟩:=o;exact K
  have x:=dh (dn (o.after H.out.2.2) (t.out.trans H.out.2 (H.out.2.1.still D)));clear C o D;go_wp2;go_ret2;exact⟨_,0,_,rfl,.inr (.inr (.inr ⟨u.out,q.out,rfl,r,T,rfl,y,H.out.1,rfl⟩)),x.out.2,.inl ⟨rfl,_,rfl,x.out.1⟩⟩
end
