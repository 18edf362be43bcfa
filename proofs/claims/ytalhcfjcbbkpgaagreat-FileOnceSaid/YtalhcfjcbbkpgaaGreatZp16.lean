import Derived.Test.YtalhcfjcbbkpgaaGreatZp14
import Derived.Test.YtalhcfjcbbkpgaaGreatZp15
set_option maxRecDepth 100000
set_option maxHeartbeats 4000000
namespace Go.Proofs.YtalhcfjcbbkpgaaGreat
open Go.RowKit
theorem MV.WG{w w1 c:World}{b:Nat}{s:List Nat}{root lone:Int}{R M:Nat->Prop}(h:MapAt w b s root lone R)(d:fO w b s root lone R w1)(m:MV w1 b s root lone (grow R w w1) M c):MW w b s root lone R M c:=by
 obtain⟨f,g,i,a3⟩:=m.mp;have o:=d.2.size;have j:=m.fJ.size;have k:=h.lt;refine⟨⟨f,g,fun x a=>?_,a3⟩,fun x a=>⟨by have:=(m.mb x a).1;omega,(m.mb x a).2⟩,k,h.old,h.kC,d.2.trans m.fJ (fun x _ e=>.inl e)⟩;rcases i x a with e|e
 ·rcases e with e|e
  ·exact .inl e
  ·exact .inr ⟨e.1,by omega⟩
 ·exact .inr ⟨by omega,e.2⟩
theorem MW.JU{w wr:World}{b:Nat}{s:List Nat}{root lone:Int}{R M:Nat->Prop}(h:MW w b s root lone R M wr) :
  ∃R1,MapAt wr b s root lone R1/\∀d c,MW wr b s root lone R1 d c->MW w b s root lone R (fun x=>M x\/d x) c/\Keeps (fun k=>¬M k) wr c:=by
 obtain⟨R1,o,f,g⟩:=h.mp;refine⟨R1,o,fun d c m=>?_⟩;obtain⟨p,q,i,a3⟩:=m.mp;have t:=h.fJ.size;have u:=m.fJ.size;have v:=h.bw;refine⟨⟨⟨p,q,fun x a=>?_,fun x a hr=>?_⟩,fun x a=>?_,v,h.old,h.kC,h.fJ.trans m.fJ (fun x a e=>?_)⟩,m.fJ.mono (fun x _ e j=>?_)⟩
 ·rcases i x a with e|e
  ·rcases f x e with e|e
   ·exact .inl e
   ·exact .inr ⟨e.1,by omega⟩
  ·exact .inr ⟨by omega,e.2⟩
 ·rcases a with a|a
  ·rcases i x hr with e|e
   ·exact g x a e
   ·have:=(h.mb x a).2;omega
  ·exact a3 x a hr
 ·rcases a with a|a
  ·have:=h.mb x a;omega
  ·have:=m.mb x a;omega
 ·rcases e with e|e
  ·exact .inl e
  ·rcases f x e with e|e
   ·exact .inr e
   ·omega
 ·rcases e with e|e
  ·have:=(h.mb x j).1;omega
  ·exact g x j e
noncomputable def mJ(S:Nat->Nat)(r j:Nat):List Nat:=(jU S r j).map (vnum S)
noncomputable def lN(S:Nat->Nat)(r N:Nat):List Nat:=vnum S r :: vnum S (mt r) :: (iP S r N).reverse
section
variable {n:Nat} {S:Nat->Nat} (T:jO n S) {r:Nat} (hr:r<n) {N:Nat} (K:dJ n S r N)
include T hr K
omit hr K in
theorem jO.yu{g:List Nat}{d e:Nat}(c:d<n)(f:e<n)(j:vnum S d=vnum S e):yO S g d=yO S g e:=by unfold yO;refine vI (List.Nodup.sublist List.filter_sublist (T.dR.kY c)) (List.Nodup.sublist List.filter_sublist (T.dR.kY f)) (fun x=>?_);have i:=(T.dR.eT c f).1 j;have k:=T.dR.eO c i;simp only [List.mem_filter,T.dR.fU c,T.dR.fU f];exact⟨fun ⟨a,b⟩=>⟨k.trans a,b⟩,fun ⟨a,b⟩=>⟨i.trans a,b⟩⟩
omit T hr in
theorem dJ.zQ{j:Nat}(a:j<N):3<=(mJ S r j).length/\(mJ S r j).length<=n:=by have L:=K.shl j a;unfold mJ;rw[List.length_map];refine⟨L.Iw,Bl n _ ?_ L.lt⟩;have:=L.dist;rw[List.Nodup,List.pairwise_map]at this;exact List.Pairwise.imp (fun h e=>h (by rw[e])) this
omit T hr in
theorem dJ.zR{j u:Nat}(a:j<N)(c:u ∈ mJ S r j):u ∉ iP S r j:=by obtain⟨e,d,rfl⟩:=List.mem_map.1 c;exact(K.shl j a).live e d
structure Rnd (n:Nat)(S:Nat->Nat)(r j F M u v z:Nat):Prop where
 ge:1<=F
 lt:F+1<(mJ S r j).length
 gu:(mJ S r j)[F - 1]? = some u
 gv:(mJ S r j)[F]? = some v
 gz:(mJ S r j)[F+1]? = some z
 vr:v=kX S r j
 fst:∀i,1<=i->i<=F->∃x,(mJ S r j)[i]? = some x/\∀d,d<n->vnum S d=x->(uZ S (mJ S r j) (jg S d)=2↔i=F)
 WH:∀d,d<n->vnum S d=v->toD S (jg S d) u=(iN S r j:Int)
 m1:1<=M
 ml:M<=n
 mz:vnum S (mt (itr S M (iN S r j)))=z
 WI:∀t,1<=t->t<M->vnum S (mt (itr S t (iN S r j)))≠z
 nx:mJ S r (j+1)=(mJ S r j).take F ++ (qV S (iN S r j) (M - 1) ++ (mJ S r j).drop (F+1))
theorem dJ.WJ{j:Nat}(Y:j<N):∃F M u v z,Rnd n S r j F M u v z:=by
 obtain⟨A,p,q,B,G⟩:=K.goes T hr Y;have L:=K.shl j Y;have ah:=K.mW T hr Y;have g:∀e,e ∈ jU S r j->e<n:=L.lt;have a:p<n:=g p (by rw[G.es];simp);have Z:q<n:=g q (by rw[G.es];simp)
 obtain⟨b,B',hB⟩:∃b B',B=b :: B':=by
  rcases hb:B with _|⟨b,B'⟩
  ·exact absurd hb G.ne
  ·exact⟨b,B',rfl⟩
 have f:jU S r j=A ++ p :: q :: b :: B':=by rw[G.es,hB]
 have H:mJ S r j=A.map (vnum S) ++ vnum S p :: vnum S q :: vnum S b :: B'.map (vnum S):=by unfold mJ;rw[f];simp
 have o:(A.map (vnum S)).length=A.length:=List.length_map ..;have D:vnum S (mt p)=vnum S q:=iJ.at (A:=A) (B:=b :: B') (by rw[<-f];exact L.path);have I:vnum S (mt q)=vnum S b:=iJ.at (A:=A ++ [p]) (B:=B') (by have:=L.path;rw[f]at this;simpa using this);have ag:per S (mt p)<=n:=(T.dR.dM (T.mlt a)).2.1;have hM:=G.lt;have c:∀k,(mJ S r j)[k]? = ((jU S r j)[k]?).map (vnum S):=fun k=>by unfold mJ;rw[List.getElem?_map]
 refine⟨A.length+1,runN S r j,vnum S p,vnum S q,vnum S b,by omega,?_,?_,?_,?_,?_,?_,?_,G.pos,by omega,?_,?_,?_⟩
 ·rw[H,List.length_append,o];simp only [List.length_cons];omega
 ·rw[Nat.add_sub_cancel,c,f,List.getElem?_append_right (Nat.le_refl _)];simp
 ·rw[c,f,List.getElem?_append_right (by omega)];simp
 ·rw[c,f,List.getElem?_append_right (by omega),show A.length+1+1 - A.length=2 by omega];simp
 ·unfold kX;rw[G.rt]
 ·intro i h1 h2;obtain⟨f1,f2,f3,f4⟩:=G.fst;have x:i<(jU S r j).length:=by omega
  refine⟨vnum S ((jU S r j).getD i 0),by rw[c,List.getElem?_eq_getElem x,List.getD_eq_getElem?_getD,List.getElem?_eq_getElem x];rfl,?_⟩;intro d C W;have aa:(jU S r j).getD i 0<n:=by rw[List.getD_eq_getElem?_getD,List.getElem?_eq_getElem x];exact g _ (List.getElem_mem x)
  have ab:uZ S (mJ S r j) (jg S d)=yO S (jU S r j) ((jU S r j).getD i 0):=T.yu C aa W;rw[ab];constructor
  ·intro h;rcases Nat.lt_or_ge i (A.length+1)with h5|h5
   ·exact absurd h (f4 i h1 h5)
   ·omega
  ·rintro rfl;exact f3
 ·intro d C W;have hs:mt p ∈ jg S d:=(T.dR.fU C).2 ((T.dR.eT C (T.mlt a)).1 (by rw[W,D]));obtain⟨i,J,O⟩:=List.mem_iff_getElem.1 hs;have X:=J;rw[G.lf];refine Oa (j:=i) (by rw[List.getElem?_eq_getElem J,O]) (by rw[dF]) (fun k e hk y ad=>?_);have ae:e ∈ jg S d:=List.mem_of_getElem? y;have Q:=(T.dR.fU C).1 ae;have U:=T.dR.fK C Q;have af:e=mt p:=T.zm e (mt p) U (T.mlt a) (by rw[<-(T.dR.eT C U).2 Q,W,D]) (by rw[ad,dF]);have E:=gX y;rw[yG]at E X;rw[FK E]at y;have h8:=FK (S:=S) (d:=d) X;rw[List.getElem?_eq_getElem (by rw[yG];exact X),O]at h8;have:=T.dR.fB C E X (by rw[Option.some.inj y,<-Option.some.inj h8,af]);omega
 ·rw[G.lf,G.hit,I]
 ·intro t t1 t2 O;rw[G.lf]at O;have h1:=T.dR.dW (T.mlt a) t;have h2:=T.zm (itr S t (mt p)) q h1 Z (by rw[T.pE (T.mlt a),D]) (by rw[O,I]);rw[<-G.hit]at h2;have:=T.dR.fB (T.mlt a) (by omega) hM h2;omega
 ·have e1:mJ S r (j+1)=A.map (vnum S) ++ ((mI S (mt p) (runN S r j)).map (vnum S) ++ B.map (vnum S)):=by unfold mJ;rw[G.nx];simp
  obtain⟨m,hm⟩:∃m,runN S r j=m+1:=⟨runN S r j - 1,by have:=G.pos;omega⟩
  rw[e1,T.rM (T.mlt a),hm,hB,H,G.lf];have h3:(A.map (vnum S) ++ vnum S p :: vnum S q :: vnum S b :: B'.map (vnum S)).take (A.length+1)=A.map (vnum S) ++ [vnum S p]:=by rw[List.take_append,o,List.take_of_length_le (by omega),show A.length+1 - A.length=1 by omega];rfl
  have h4:(A.map (vnum S) ++ vnum S p :: vnum S q :: vnum S b :: B'.map (vnum S)).drop (A.length+1+1)=vnum S b :: B'.map (vnum S):=by rw[List.drop_append,o,List.drop_eq_nil_of_le (by omega),show A.length+1+1 - A.length=2 by omega];rfl
  rw[h3,h4,List.range_succ_eq_map];simp only [List.map_cons,List.map_map,List.append_assoc,List.cons_append,List.nil_append,itr,dF,Nat.add_sub_cancel,qV];rfl
end
structure O4 (w1:World)(b V c0 c1 c2:Nat)(bx gb gg gd:Nat)(wz:World):Prop where
 x:wz.heap[bx]? = some (.cells #[.pointer (some ⟨b,0,none⟩),.slice (some ⟨gb,0,none⟩) 3 3,.slice (some ⟨gg,0,none⟩) V V,.slice (some ⟨gd,0,none⟩) V V] 304 (0,0))
 bo:wz.heap[gb]? = some (.cells #[.int .i64 (c0:Nat),.int .i64 (c2:Nat),.int .i64 (c1:Nat)] 3 (0,0))
 go:wz.heap[gg]? = some (.cells (madeCells #[.bool false] V) 4 (0,0))
 da:wz.heap[gd]? = some (.cells (madeCells #[.int .i64 0] V) 3 (0,0))
 k:Keeps (fun _=>False) w1 wz
 d:w1.heap.size<=bx/\w1.heap.size<=gb/\w1.heap.size<=gg/\w1.heap.size<=gd/\bx≠gb/\bx≠gg/\bx≠gd/\gb≠gg/\gb≠gd/\gg≠gd
theorem WK(W:World)(a c d e:Obj):(((((W.alloc a).alloc c).alloc d).alloc e).drew.drew.drew).heap[W.heap.size]? = some a/\(((((W.alloc a).alloc c).alloc d).alloc e).drew.drew.drew).heap[W.heap.size+1]? = some c /\
  (((((W.alloc a).alloc c).alloc d).alloc e).drew.drew.drew).heap[W.heap.size+1+1]? = some d/\(((((W.alloc a).alloc c).alloc d).alloc e).drew.drew.drew).heap[W.heap.size+1+1+1]? = some e/\Keeps (fun _=>False) W (((((W.alloc a).alloc c).alloc d).alloc e).drew.drew.drew):=by
 have j:(W.alloc a).heap.size=W.heap.size+1:=by simp
 have k:((W.alloc a).alloc c).heap.size=W.heap.size+1+1:=by simp
 have m:(((W.alloc a).alloc c).alloc d).heap.size=W.heap.size+1+1+1:=by simp
 have f:=heap_alloc_new (W.alloc a) c;have g:=heap_alloc_new ((W.alloc a).alloc c) d;have i:=heap_alloc_new (((W.alloc a).alloc c).alloc d) e;rw[j]at f;rw[k]at g;rw[m]at i;exact⟨((((Keeps.refl (fun _=>False) (W.alloc a)).alloc c).alloc d).alloc e).drew.drew.drew.at (heap_alloc_new W a) (fun h=>h),(((Keeps.refl (fun _=>False) ((W.alloc a).alloc c)).alloc d).alloc e).drew.drew.drew.at f (fun h=>h),((Keeps.refl (fun _=>False) (((W.alloc a).alloc c).alloc d)).alloc e).drew.drew.drew.at g (fun h=>h),(Keeps.refl (fun _=>False) ((((W.alloc a).alloc c).alloc d).alloc e)).drew.drew.drew.at i (fun h=>h),((((Keeps.refl (fun _=>False) W).alloc a).alloc c).alloc d).alloc e |>.drew.drew.drew⟩
def zS(S:Nat->Nat)(n j:Nat)(ds:List Nat):Prop:=∀d,d<j->∃e,ds[vnum S d]? = some e/\e<n/\vnum S e=vnum S d
theorem zS.step{S:Nat->Nat}{n j:Nat}{ds:List Nat}(h:zS S n j ds)(a:j<n)(c:vnum S j<ds.length):zS S n (j+1) (ds.set (vnum S j) j):=by
 intro d k;by_cases e:vnum S d=vnum S j
 ·exact⟨j,by rw[e,List.getElem?_set_self c],a,e.symm⟩
 ·obtain⟨x,f,g,i⟩:=h d (by
   rcases Nat.lt_or_ge d j with h|h
   ·exact h
   ·obtain rfl:d=j:=by omega
    exact absurd rfl e)
  exact⟨x,by rw[List.getElem?_set_ne (Ne.symm e)];exact f,g,i⟩
structure O8 (w1:World)(b:Nat)(s:List Nat)(root:Int)(l:Nat)(R1:Nat->Prop)(V c0 c1 c2 bx gb gg gd j:Nat)(wr:World):Prop where
 m:MV w1 b s root l R1 (fun x=>x=bx\/x=gb\/x=gg\/x=gd) wr
 x:wr.heap[bx]? = some (.cells #[.pointer (some ⟨b,0,none⟩),.slice (some ⟨gb,0,none⟩) 3 3,.slice (some ⟨gg,0,none⟩) V V,.slice (some ⟨gd,0,none⟩) V V] 304 (0,0))
 bo:wr.heap[gb]? = some (.cells #[.int .i64 (c0:Nat),.int .i64 (c2:Nat),.int .i64 (c1:Nat)] 3 (0,0))
 go:wr.heap[gg]? = some (.cells (madeCells #[.bool false] V) 4 (0,0))
 dr:∃ds,dH 0 wr (.slice (some ⟨gd,0,none⟩) V V) (dD ds)/\ds.length=V/\zS (sg s) s.length j ds
 t:Told wr b
theorem O8.keeps{w1:World}{b:Nat}{s:List Nat}{root:Int}{l:Nat}{R1:Nat->Prop}{V d f g bx a gg gd j:Nat}{wr c:World}(h:O8 w1 b s root l R1 V d f g bx a gg gd j wr)
  (m:MV w1 b s root l R1 (fun x=>x=bx\/x=a\/x=gg\/x=gd) c)(t:Told c b)(k:Keeps (fun k=>k=b) wr c):O8 w1 b s root l R1 V d f g bx a gg gd j c:=by
 have v:=h.m.bw;have y:=(h.m.mb bx (.inl rfl)).1;have z:=(h.m.mb a (.inr (.inl rfl))).1;have A:=(h.m.mb gg (.inr (.inr (.inl rfl)))).1;have B:=(h.m.mb gd (.inr (.inr (.inr rfl)))).1;obtain⟨ds,i,o,p⟩:=h.dr;exact⟨m,k.at h.x (by omega),k.at h.bo (by omega),k.at h.go (by omega),⟨ds,i.keeps k (fun q u e=>by simp only [Value.ownBlock,Option.some.injEq]at u;omega),o,p⟩,t⟩
theorem O8.set{w1:World}{b:Nat}{s:List Nat}{root:Int}{l:Nat}{R1:Nat->Prop}{V c d f bx a gg gd j:Nat}{wr:World}(h:O8 w1 b s root l R1 V c d f bx a gg gd j wr)(y:gd≠bx/\gd≠a/\gd≠gg)
  (g:j<s.length)(z:vnum (sg s) j<V):O8 w1 b s root l R1 V c d f bx a gg gd (j+1) (wr.setCell ⟨gd,vnum (sg s) j,none⟩ (.int .i64 (j:Nat))):=by
 have A:=h.m.bw;have B:=(h.m.mb gd (.inr (.inr (.inr rfl)))).1;obtain⟨ds,i,o,u⟩:=h.dr;have k:Keeps (fun q=>q=gd) wr (wr.setCell ⟨gd,vnum (sg s) j,none⟩ (.int .i64 (j:Nat))):=(Keeps.refl (fun q=>q=gd) wr).setCell (p:=⟨gd,_,none⟩) (.inl rfl) _;refine⟨h.m.own (k.mono (fun x _ e=>.inr (.inr (.inr e)))) (fun x v=>.inl v),k.at h.x (by omega),k.at h.bo (by omega),k.at h.go (by omega),⟨ds.set (vnum (sg s) j) j,?_,by rw[List.length_set];exact o,u.step g (by omega)⟩,h.t.keeps k (by omega)⟩;have:=i.set (vnum (sg s) j) (j:Nat);rw[show dD (ds.set (vnum (sg s) j) j)=(dD ds).set (vnum (sg s) j) (j:Nat) by simp[dD,List.map_set]];exact this
theorem O4.start{w1:World}{b:Nat}{s:List Nat}{root:Int}{l:Nat}{R1:Nat->Prop}{V a c e bx f gg gd:Nat}{g:World}(p:MapAt w1 b s root l R1)(q:Told w1 b)(t:O4 w1 b V a c e bx f gg gd g)(v:V<=1000000):O8 w1 b s root l R1 V a c e bx f gg gd 0 g:=by
 obtain⟨i,j,k,m,o,y,z,A,B,C⟩:=t;refine⟨p.mv.fresh o (fun x u=>.inr ?_),i,j,k,⟨List.replicate V 0,?_,by simp,fun d D=>by omega⟩,q.keeps o (fun h=>h)⟩
 ·have E:=lt_of_block i;have F:=lt_of_block j;have G:=lt_of_block k;have H:=lt_of_block m;rcases u with rfl|rfl|rfl|rfl <;> omega
 ·refine⟨by simp[ints,dD],.inr ⟨gd,V,_,by simp[dD],Nat.zero_le _,m,by simp[dD],by unfold maxLen;omega,by rw[size_madeCells];simp,?_⟩⟩;rw[toList_madeCells_one];simp[ints,dD]
structure OM (w1:World)(b:Nat)(s:List Nat)(root:Int)(l:Nat)(R1:Nat->Prop)(V bx gg gd:Nat)(ds:List Nat)(bv ov:Value)(bs os:List Nat)(P:Nat->Prop)(wr:World):Prop where
 m:MV w1 b s root l R1 (fun x=>(x=bx\/x=gg\/x=gd)\/bv.ownBlock=some x\/ov.ownBlock=some x) wr
 L:mP wr bx b V bv gg gd bs ds P
 o:dH w1.heap.size wr ov (dD os)
 ne:∀k,ov.ownBlock=some k->k≠bx/\k≠gg/\k≠gd/\¬bv.ownBlock=some k
section
variable {w1:World} {b:Nat} {s:List Nat} {root:Int} {l:Nat} {R1:Nat->Prop} {V bx gg gd:Nat} {ds:List Nat} {bv ov:Value} {bs os:List Nat} {P:Nat->Prop} {wr:World} (h:OM w1 b s root l R1 V bx gg gd ds bv ov bs os P wr)
include h
theorem OM.mU{a:World}(m:MV w1 b s root l R1 (fun x=>(x=bx\/x=gg\/x=gd)\/bv.ownBlock=some x\/ov.ownBlock=some x) a)(k:Keeps (fun k=>k=b) wr a):OM w1 b s root l R1 V bx gg gd ds bv ov bs os P a :=
 ⟨m,h.L.mU k (fun _ e=>e),h.o.keeps k (fun q c e=>by have:=(h.o.lt q c).1;have:=h.m.bw;omega),h.ne⟩
theorem OM.drew:OM w1 b s root l R1 V bx gg gd ds bv ov bs os P wr.drew:=h.mU h.m.drew ((Keeps.refl _ wr).drew)
theorem OM.push{g n cap x:Nat}{f:World}(j:dH w1.heap.size f (.slice (some ⟨g,0,none⟩) n cap) (dD os ++ [((x:Nat):Int)]))(k:Keeps (fun q=>ov.ownBlock=some q) wr f)(c:ov.ownBlock=some g\/wr.heap.size<=g) :
  OM w1 b s root l R1 V bx gg gd ds bv (.slice (some ⟨g,0,none⟩) n cap) bs (os ++ [x]) P f:=by
 have t:=h.m.bw;have i:=j.lt g rfl
 have o:g≠bx/\g≠gg/\g≠gd/\¬bv.ownBlock=some g:=by
  rcases c with e|e
  ·exact h.ne g e
  ·have u:=(h.m.mb bx (.inl (.inl rfl))).2;have v:=(h.m.mb gg (.inl (.inr (.inl rfl)))).2;have y:=(h.m.mb gd (.inl (.inr (.inr rfl)))).2;exact⟨by omega,by omega,by omega,fun p=>by have:=(h.m.mb g (.inr (.inl p))).2;omega⟩
 refine⟨h.m.own (k.mono (fun x _ e=>.inr (.inr e))) (fun x a=>?_),h.L.keeps k (fun e=>(h.ne _ e).1 rfl) (fun e=>(h.ne _ e).2.1 rfl) (fun e=>(h.ne _ e).2.2.1 rfl) (fun q d e=>(h.ne _ e).2.2.2 d),by rw[tV];exact j,?_⟩
 ·rcases a with a|a|a
  ·exact .inl (.inl a)
  ·exact .inl (.inr (.inl a))
  ·simp only [Value.ownBlock,Option.some.injEq]at a;subst a;rcases c with e|e
   ·exact .inl (.inr (.inr e))
   ·exact .inr ⟨e,i.2⟩
 ·intro q d;simp only [Value.ownBlock,Option.some.injEq]at d;subst d;exact o
theorem OM.JV{t:Nat}(c:bv.ownBlock=some t){g n cap:Nat}{u:List Nat}{d:World}(G:dH 0 d (.slice (some ⟨g,0,none⟩) n cap) (dD u))(k:Keeps (fun q=>q=t) wr d)(i:g=t\/(wr.heap.size<=g/\g<d.heap.size)) :
  d.cell? ⟨bx,1,none⟩=some bv/\d.frozen? ⟨bx,1,none⟩=false/\OM w1 b s root l R1 V bx gg gd ds (.slice (some ⟨g,0,none⟩) n cap) ov u os P (d.setCell ⟨bx,1,none⟩ (.slice (some ⟨g,0,none⟩) n cap)):=by
 have hb:=h.m.bw;have H:=h.m.mb t (.inr (.inl c));have e1:=h.m.mb bx (.inl (.inl rfl));have e2:=h.m.mb gg (.inl (.inr (.inl rfl)));have e3:=h.m.mb gd (.inl (.inr (.inr rfl)));obtain⟨I,J,M,O⟩:=h.L.ap;obtain⟨D,Q,U⟩:=O t c;have j:=k.at h.L.blk (fun e=>D e.symm);have A:Keeps (fun q=>q=bx) d (d.setCell ⟨bx,1,none⟩ (.slice (some ⟨g,0,none⟩) n cap)):=(Keeps.refl (fun q=>q=bx) d).setCell (p:=⟨bx,1,none⟩) (.inl rfl) _;have y:Keeps (fun q=>q=t\/q=bx) wr (d.setCell ⟨bx,1,none⟩ (.slice (some ⟨g,0,none⟩) n cap)):=(k.mono (fun _ _ e=>.inl e)).trans A (fun _ _ e=>.inr e);have W:=k.size
 have z:g≠bx/\g≠gg/\g≠gd/\g≠b:=by
  rcases i with e|e
  ·subst e;exact⟨D,Q,U,by omega⟩
  ·exact⟨by omega,by omega,by omega,by omega⟩
 have v:=jM j 1 (.slice (some ⟨g,0,none⟩) n cap);refine⟨dw j 1,dx j 1,h.m.own (y.mono (fun x _ e=>?_)) (fun x f=>?_),⟨v,G.keeps A (fun q a e=>?_),h.L.ER.keeps y (by omega),h.L.wW.keeps y (fun q a e=>?_),h.L.ET,?_,I,J,M,?_⟩,h.o.keeps y (fun q a e=>?_),?_⟩
 ·rcases e with e|e
  ·subst e;exact .inr (.inl c)
  ·exact .inl (.inl e)
 ·rcases f with f|f|f
  ·exact .inl (.inl f)
  ·simp only [Value.ownBlock,Option.some.injEq]at f;subst f;rcases i with e|e
   ·subst e;exact .inl (.inr (.inl c))
   ·exact .inr ⟨e.1,by have:=A.size;omega⟩
  ·exact .inl (.inr (.inr f))
 ·simp only [Value.ownBlock,Option.some.injEq]at a;omega
 ·simp only [Value.ownBlock,Option.some.injEq]at a;omega
 ·obtain⟨X,Y,Z,r4⟩:=h.L.nb;refine⟨X,Y,Z,fun q a=>?_⟩;simp only [Value.ownBlock,Option.some.injEq]at a;subst a;exact z.2.2.2
 ·intro q a;simp only [Value.ownBlock,Option.some.injEq]at a;subst a;exact⟨z.1,z.2.1,z.2.2.1⟩
 ·obtain⟨B,E,F,C⟩:=h.ne q a;rcases e with e|e
  ·subst e;exact C c
  ·exact B e
 ·intro q a;obtain⟨B,E,F,C⟩:=h.ne q a;refine⟨B,E,F,fun e=>?_⟩;simp only [Value.ownBlock,Option.some.injEq]at e;subst e;rcases i with e|e
  ·subst e;exact C c
  ·have:=(h.o.lt _ a).2;omega
theorem OM.mark{x:Nat}(c:x<V):OM w1 b s root l R1 V bx gg gd ds bv ov bs os (fun y=>P y\/y=x) (wr.setCell ⟨gg,x,none⟩ (.bool true)):=by have f:=h.m.mb gg (.inl (.inr (.inl rfl)));have g:=h.m.bw;have k:Keeps (fun q=>q=gg) wr (wr.setCell ⟨gg,x,none⟩ (.bool true)):=(Keeps.refl (fun q=>q=gg) wr).setCell (p:=⟨gg,x,none⟩) (.inl rfl) _;obtain⟨i,j,t,d⟩:=h.L.ap;refine⟨h.m.own (k.mono (fun x _ e=>.inl (.inr (.inl e)))) (fun x c=>.inl c),⟨k.at h.L.blk (by omega),h.L.tF.keeps k (fun q a e=>(d q a).2.1 e),h.L.ER.set c (fun y _=>Iff.rfl),h.L.wW.keeps k (fun q a e=>?_),h.L.ET,h.L.nb,h.L.ap⟩,h.o.keeps k (fun q a e=>(h.ne q a).2.1 e),h.ne⟩;simp only [Value.ownBlock,Option.some.injEq]at a;omega
end
theorem WL{f:Array Oper}{o:Oper}{a:Act}{K:Act->World->Prop}{Q:Exit->Act->World->Prop}{E:Prop}{wr:World}(n:Nat)(m:o.guard=none)(s x:Operand)
  (G:o.op=.call { callee:=.builtin .append,args:=#[s,x],argTypes:=#[25,25] })(B:Nat)(v:Value)(zs:List Int)(y z:Int)(p:Hid (zs.length=n))(H:Nat)(I:wr.heap.size=H)(J:a.eval s=v)(L:a.eval x=.slice (some ⟨H,0,none⟩) 2 2)
  (e:dH B wr v zs)(D:n<=10000000000)(X:B<=wr.heap.size)
  (h:∀g cap w',dH B w' (.slice (some ⟨g,0,none⟩) (n+2) cap) (zs ++ [y,z])->Keeps (fun k=>v.ownBlock=some k) wr w'->(v.ownBlock=some g\/wr.heap.size<=g)->K (a.put o.dst (.slice (some ⟨g,0,none⟩) (n+2) cap)) w') :
  if Region.wanted o (yielded f a.tmps)=true then Oper.wp Tryz.prog o a (wr.alloc (.cells #[.int .i64 y,.int .i64 z] 3)).drew K Q else E:=by
 obtain⟨i,M,q,t,A⟩:=info_parts nX;have p:=p.out;subst p;subst I;refine step_append_lies _ m s x _ G B 3 i (.int .i64 0) 1 8 Tryz.underlying25 M q t A rfl (by decide) v zs.length _ J (e.alloc _).drew ⟨wr.heap.size,0,none⟩ 2 2 [.int .i64 y,.int .i64 z] L rfl (fun j u O=>?_) ?_ (by decide) ?_ ?_ ?_ (wr.heap.size+1) (by simp) ?_
 ·have U:(wr.alloc (.cells #[.int .i64 y,.int .i64 z] 3)).drew.heap[wr.heap.size]? = some (.cells #[.int .i64 y,.int .i64 z] 3 (0,0)):=heap_alloc_new wr _;rw[Addr.add_lit,dw U,Nat.zero_add];rw[<-O];rcases j with _|_|j <;> rfl
 ·intro u F;simp at F;rcases F with rfl|rfl <;> rfl
 ·unfold maxLen;omega
 ·omega
 ·simp;omega
 ·intro g cap w1 c d C _;refine h g cap w1 ?_ (((Keeps.refl _ wr).alloc _).drew.grown d (fun k W=>.inl W)) (C.imp id (fun h=>by omega));unfold dH ints;rw[List.length_append,List.map_append];exact c
def WO(w:World)(b:Nat)(s:List Nat)(root:Int)(l:Nat)(R:Nat->Prop)(o:List Nat)(e:Ending)(w':World):Prop :=
 ∃v,e=.returned (.tuple #[v,.int .i64 0])/\dH w.heap.size w' v (dD o)/\MW w b s root l R (fun x=>v.ownBlock=some x) w'/\Told w' b
section
variable {w:World} {b:Nat} {s:List Nat} {root:Int} {l:Nat} {R:Nat->Prop} (h:MapAt w b s root l R)
include h
theorem WQ(hT:kK s l){r N:Nat}(aA:root=(r:Int))(hr:r<s.length)(K:dJ s.length (sg s) r N) :
  Calls Tryz.prog 185 #[.pointer (some ⟨b,0,none⟩)] w (WO w b s root l R (lN (sg s) r N)):=by
 obtain⟨b9,bO,T⟩:=hT.CB h.dR h.even;have hC:=OB h hT aA hr;have bP:=h.le;have aX:Hid (∀W,fO w b s root l R W->Told W b->Calls Tryz.prog 19 #[.pointer (some ⟨b,0,none⟩)] W fun e w'=>e=.returned (.int .i64 ((N+2:Nat):Int))/\w'=W.drew):=dh (fun W D ht=>by have h1:=VB D.1 ht;rw[show ((eu (sg s) s.length:Nat):Int)+(l:Int)=((N+2:Nat):Int) by have:=K.cnt;omega]at h1;exact h1);have aY:Hid (∀W,fO w b s root l R W->Calls Tryz.prog 62 #[.pointer (some ⟨b,0,none⟩)] W fun e w'=>e=.returned (.int .i64 s.length)/\W=w'):=dh (fun W D=>uS D.1);have HH:=dh h;have HK:=dh (dn T K);obtain⟨V,hV⟩:∃V,V=N+2:=⟨_,rfl⟩
 have bQ:V<=1000000:=by have:=K.cnt;have:=oV (sg s) s.length;omega
 rw[<-hV]at aX;obtain⟨X,aB⟩:∃X,X=vnum (sg s) r:=⟨_,rfl⟩
 obtain⟨Y,aC⟩:∃Y,Y=vnum (sg s) (fc (sg s) r):=⟨_,rfl⟩
 obtain⟨c2,ap⟩:∃c2,c2=vnum (sg s) (fc (sg s) (fc (sg s) r)):=⟨_,rfl⟩
 rw[<-aB,<-aC,<-ap]at hC;have E:=dh (dn aB (dn aC (dn ap hV)));clear h T K hV aB aC ap;go_enter Tryz.func185,Tryz.ntmps185;go_wp2_with fail;refine hC.mono ?_;rintro e w1 ⟨v,rfl,c,D,ab⟩;clear hC;obtain⟨ca,cc,rfl,-,-⟩:=c.form;obtain⟨cg,rfl⟩:=oU c (Nat.zero_lt_succ 2);have HV:Hid (∀W,Keeps (fun _=>False) w1 W->Calls Tryz.prog 19 #[.pointer (some ⟨b,0,none⟩)] W fun e w'=>e=.returned (.int .i64 (V:Int))/\w'=W.drew):=dh (fun W p=>aX.out W (D.trans HH.out (gU.two (D.1.still p))) (ab.keeps p (fun h=>h)));have Z:Hid (∀W,Keeps (fun _=>False) w1 W->W.cell? ⟨cg,0,none⟩=some (.int .i64 (X:Nat))/\W.cell? ⟨cg,1,none⟩=some (.int .i64 (Y:Nat))/\W.cell? ⟨cg,2,none⟩=some (.int .i64 (c2:Nat))):=dh (fun W p=>by have ho:=c.keeps p (fun _ _ h=>h);exact⟨(ho.cell (i:=0) rfl).1,(ho.cell (i:=1) rfl).1,(ho.cell (i:=2) rfl).1⟩);rw[show (dD [X,Y,c2]).length=3 from rfl];obtain⟨ii,hi,aZ,a0,a1⟩:=info_parts nX;have a3:=fun w=>run_make (P:=Tryz.prog) w 25 3 ii _ Tryz.underlying25 hi aZ .i64 .i64 (V:Int) (V:Int) (by omega) (Int.le_refl _) (by rw[a1];omega) (by omega);simp only [a0,Int.toNat_natCast,Nat.mul_one]at a3;obtain⟨ib,a4,a5,a6,a7⟩:=info_parts I5;have a8:=fun w=>run_make (P:=Tryz.prog) w 53 4 ib _ Tryz.underlying53 a4 a5 .i64 .i64 (V:Int) (V:Int) (by omega) (Int.le_refl _) (by rw[a7];omega) (by omega);simp only [a6,Int.toNat_natCast,Nat.mul_one]at a8;have cb:=c.lt cg rfl;have a9:Hid (∀W,Keeps (fun k=>k=b) w1 W->dH w.heap.size W (.slice (some ⟨cg,0,none⟩) 3 cc) (dD [X,Y,c2])):=dh (fun W p=>c.keeps p (fun q D e=>by simp only [Value.ownBlock,Option.some.injEq]at D;have:=HH.out.lt;omega));clear hi aZ a0 a1 a4 a5 a6 a7 c;obtain⟨d0,d1,d2⟩:=Z.out w1 (Keeps.refl _ _);have ad:=dh (dn D ab);clear D ab bO hr;go_upto_region 4 with fail;go_cut [6]from 18 to 37 (fun p6 wz=>∃wx bx gb gg gd,wx=wz/\p6=.pointer (some ⟨bx,0,none⟩)/\O4 w1 b V X Y c2 bx gb gg gd wx)
 case first =>
  have kr:=Keeps.refl (fun _=>False) w1;go_region_held3 (fun w'=>w'.cell? ⟨cg,0,none⟩=some (.int .i64 (X:Nat))/\w'.cell? ⟨cg,1,none⟩=some (.int .i64 (Y:Nat))/\w'.cell? ⟨cg,2,none⟩=some (.int .i64 (c2:Nat))) (exact Z.out _ (by repeat (first|exact kr|refine Keeps.drew ?_|refine Keeps.alloc ?_ _|refine Keeps.drewN ?_ _))) (first | (go_at_call 19;refine(HV.out _ (by repeat (first|exact kr|refine Keeps.drew ?_|refine Keeps.alloc ?_ _|refine Keeps.drewN ?_ _))).mono ?_;rintro e w' ⟨rfl,rfl⟩))
  all_goals
   go_wp2_with fail
   go_meet
   obtain⟨h1,h2,h3,h4,p⟩:=WK w1 _ _ _ _;exact⟨_,_,_,_,_,rfl,rfl,⟨by first|exact h1|exact h2|exact h3|exact h4,by first|exact h1|exact h2|exact h3|exact h4,by first|exact h1|exact h2|exact h3|exact h4,by first|exact h1|exact h2|exact h3|exact h4,p,by omega⟩⟩
 case rest =>
  obtain⟨wx,bx,gb,gg,gd,rfl,rfl,hO⟩:=hcut;clear a3 a8 HV Z d0 d1 d2;have cd:=hO.d;have h8:=O4.start ad.out.1.1 ad.out.2 hO bQ;have hD:=aY.out wx (ad.out.1.trans HH.out (gU.two (ad.out.1.1.still hO.k)));clear hO aY;go_wp2_with fail;refine hD.mono ?_;rintro e w' ⟨rfl,rfl⟩;clear hD;obtain⟨n,hn⟩:∃n,n=s.length:=⟨_,rfl⟩
  rw[<-hn]at bP ⊢;have HN:=dh hn;clear hn;go_wp2_with fail;go_loopg [39] n (fun m i wr=>∃j:Nat,j<=n/\m=n - j/\i=.int .i64 j/\O8 w1 b s root l (grow R w w1) V X Y c2 bx gb gg gd j wr)
  case atStart=>exact⟨0,Nat.zero_le _,rfl,rfl,h8⟩
  case round =>
   clear h8;obtain⟨j,hj,ah,rfl,h8⟩:=hrel;have HG:=dh ah;clear ah;by_cases J:j<n
   ·have aD:j<s.length:=by rw[<-HN.out];exact J
    have bd:vnum (sg s) j<V:=by have h1:=HK.out.1.dR.gK aD;have h2:=HK.out.2.cnt;have h3:=E.out.2.2.2;omega
    have aE:O8 w1 b s root l (grow R w w1) V X Y c2 bx gb gg gd j wr.drew:=h8.keeps h8.m.drew (h8.t.keeps (Keeps.refl (fun _=>False) wr).drew (fun h=>h)) (Keeps.refl _ wr).drew;have hX:=aE.m.AP aD;have HS:Hid (∀w2,MV w1 b s root l (grow R w w1) (fun x=>x=bx\/x=gb\/x=gg\/x=gd) w2->Told w2 b->Keeps (fun k=>k=b) wr.drew w2->O8 w1 b s root l (grow R w w1) V X Y c2 bx gb gg gd (j+1) (w2.setCell ⟨gd,vnum (sg s) j,none⟩ (.int .i64 (j:Nat)))/\w2.cell? ⟨bx,3,none⟩=some (.slice (some ⟨gd,0,none⟩) V V)/\(∃v,w2.cell? ⟨gd,vnum (sg s) j,none⟩=some v)/\w2.frozen? ⟨gd,vnum (sg s) j,none⟩=false/\(w2.setCell ⟨gd,vnum (sg s) j,none⟩ (.int .i64 (j:Nat))).cell? ⟨bx,3,none⟩=some (.slice (some ⟨gd,0,none⟩) V V)):=dh (fun w2 hm ht p=>by have h9:=aE.keeps hm ht p;have be:=h9.set ⟨by omega,by omega,by omega⟩ aD bd;obtain⟨ds,q1,q2,q3⟩:=h9.dr;obtain⟨z,z1,z2⟩:=q1.has (vnum (sg s) j) (by rw[q01];omega);exact⟨be,dw h9.x 3,⟨_,z1⟩,z2,dw be.x 3⟩);have d3:wr.cell? ⟨bx,3,none⟩=some (.slice (some ⟨gd,0,none⟩) V V):=dw h8.x 3;obtain⟨v,hv⟩:∃v,v=vnum (sg s) j:=⟨_,rfl⟩
    rw[<-hv]at hX HS bd;clear hv h8 aE;go_wp2_with fail;go_region_held3 (fun w'=>w'.cell? ⟨bx,3,none⟩=some (.slice (some ⟨gd,0,none⟩) V V)) (first|exact d3|exact dy|exact dz) (first | (go_at_call 123;refine hX.mono ?_;rintro e w2 ⟨rfl,hm,ht,p⟩;obtain⟨av,dy,⟨vv,ce⟩,cf,dz⟩:=HS.out w2 hm ht p;have bR:=dh av;clear hm ht p av));go_wp2;go_roundg (n - (j+1))
    case measure=>rw[HG.out];omega
    case rel=>exact⟨j+1,by omega,rfl,by go_num,bR.out⟩
   ·obtain rfl:j=n:=by omega
    obtain⟨ds,q1,q2,q3⟩:=h8.dr;have ch:=HK.out.2.pos
    have bf:OM w1 b s root l (grow R w w1) V bx gg gd ds (.slice (some ⟨gb,0,none⟩) 3 3) (.slice none 0 0) (mJ (sg s) r 0) (iP (sg s) r 0) (fun v=>v ∈ iP (sg s) r 0) wr:=by
     have e0:mJ (sg s) r 0=[X,c2,Y]:=by
      have O:=HK.out.1;have hr:r<s.length:=by have:=HH.out.rt;omega
      show (es0 (sg s) r).map (vnum (sg s))=_;unfold es0;rw[E.out.1,E.out.2.1,E.out.2.2.1];simp only [List.map_cons,List.map_nil];rw[<-O.vf (O.gD (O.gD hr)),<-O.vf (O.gD hr),<-O.vf hr,O.f3 hr]
     rw[e0];refine⟨h8.m.own (Keeps.refl _ wr) (fun x Q=>?_),⟨h8.x,⟨rfl,.inr ⟨gb,3,_,rfl,Nat.zero_le _,h8.bo,Nat.le_refl 3,by unfold maxLen;omega,rfl,rfl⟩⟩,?_,q1,q2,?_,?_⟩,dH.nil _ _,fun k p=>(by cases p)⟩
     ·rcases Q with Q|Q|Q
      ·exact .inl (by rcases Q with e|e|e;exact .inl e;exact .inr (.inr (.inl e));exact .inr (.inr (.inr e)))
      ·simp only [Value.ownBlock,Option.some.injEq]at Q;exact .inl (.inr (.inl Q.symm))
      ·cases Q
     ·refine⟨List.replicate V false,by simp,fun x Q=>.inr ⟨by simp[Q],by simp[iP]⟩,?_⟩;have h9:=h8.go;rw[h9];congr 2;apply Array.toList_inj.1;rw[toList_madeCells_one];simp
     ·have:=h8.m.bw;refine⟨by omega,by omega,by omega,fun k p=>?_⟩;simp only [Value.ownBlock,Option.some.injEq]at p;omega
     ·refine⟨by omega,by omega,by omega,fun k p=>?_⟩;simp only [Value.ownBlock,Option.some.injEq]at p;omega
    have bS:=dh q3;clear h8 q1 q3 hT;go_wp2_with fail;go_loopg [8] N (fun m ov wr=>∃j:Nat,j<=N/\m=N - j/\∃bv,OM w1 b s root l (grow R w w1) V bx gg gd ds bv ov (mJ (sg s) r j) (iP (sg s) r j) (fun v=>v ∈ iP (sg s) r j) wr)
    case atStart=>exact⟨0,Nat.zero_le _,rfl,_,bf⟩
    case round =>
     clear bf;obtain⟨j,hj,ah,bv,G⟩:=hrel;have HG:=dh ah;clear ah;have ai:j<N->3<=(mJ (sg s) r j).length/\(mJ (sg s) r j).length<=s.length:=fun h=>HK.out.2.zQ h;by_cases J:j<N
     ·have hr:r<s.length:=by have:=HH.out.rt;omega
      obtain⟨F,M,u,v,z,U⟩:=HK.out.2.WJ HK.out.1 hr J;obtain⟨bh,aF⟩:=ai J;have ci:=dh U;have bi:=HN.out;have aG:∀x,x<s.length->vnum (sg s) x<V:=fun x Q=>by have h1:=HK.out.1.dR.gK Q;have h2:=HK.out.2.cnt;have h3:=E.out.2.2.2;omega
      have aH:∀i x,(mJ (sg s) r j)[i]? = some x->∃d,ds[x]? = some d/\d<s.length/\vnum (sg s) d=x:=fun i x Q=>by have hm:=List.mem_of_getElem? Q;obtain⟨e,he,rfl⟩:=List.mem_map.1 hm;exact bS.out e (by rw[bi];exact(HK.out.2.shl j J).lt e he)
      obtain⟨dv,bj,aq,aI⟩:=aH F v U.gv;have bk:=U.WH dv aq aI;have aw:=HK.out.2.mW HK.out.1 hr J;have bl:v<V:=by rw[<-aI];exact aG dv aq
      have bm:=U.lt;have bT:=U.ml;have bn:iP (sg s) r (j+1)=iP (sg s) r j ++ [v]:=by rw[Cj,U.vr]
      have bp:∀(W:World) (R2:Nat->Prop) (bv ov:Value) (os:List Nat),OM w1 b s root l (grow R w w1) V bx gg gd ds bv ov (mJ (sg s) r j) os (fun v=>v ∈ iP (sg s) r j) W->MapAt W b s root l R2 ->
        Calls Tryz.prog 222 #[.pointer (some ⟨bx,0,none⟩)] W fun e w'=>e=.returned (.int .i64 (F:Nat))/\fq W b s root l R2 w':=fun W R2 bv ov os g1 g2 =>
       Vf g2 g1.L F U.ge (by omega) (fun i h1 h2=>by obtain⟨x,x1,x2⟩:=U.fst i h1 h2;obtain⟨d,e1,e2,e3⟩:=aH i x x1;exact⟨x,d,x1,e1,e2,x2 d e2 e3⟩) (fun q D=>HK.out.2.zR J D) (by omega) aG
      have cj:=U.ge;obtain⟨k,p⟩:∃k,F=k+1:=⟨F - 1,by omega⟩
      have bq:(mJ (sg s) r j)[k]? = some u:=by have:=U.gu;rwa [show F - 1=k by omega]at this
      have br:∀(W:World) (R2:Nat->Prop) (bv ov:Value) (os:List Nat),OM w1 b s root l (grow R w w1) V bx gg gd ds bv ov (mJ (sg s) r j) os (fun v=>v ∈ iP (sg s) r j) W->MapAt W b s root l R2 ->
        Calls Tryz.prog 224 #[.pointer (some ⟨bx,0,none⟩),.int .i64 F] W fun e' w'=>∃bt,e'=.returned bt/\dH W.heap.size w' bt (dD (qV (sg s) (iN (sg s) r j) (M - 1)))/\fq W b s root l R2 w':=fun W R2 bv ov os h1 h2 =>
       VF h2 h1.L k F u v z dv (iN (sg s) r j) M p bq U.gv U.gz bj aq bk aw U.m1 U.mz U.WI (by omega) (by omega)
      have HI:=dh (dn bp br);have aj:=dh (dn U.nx bn);have ar:(dD (qV (sg s) (iN (sg s) r j) (M - 1))).length=M - 1:=by rw[q01,JI]
      obtain⟨ba,bc,rfl,I,-⟩:=G.L.tF.form;rw[q01]at G I;obtain⟨bg,rfl⟩:=oU G.L.tF (by rw[q01];omega);have bu:=U.gv;have bz:=U.vr;have bT:M<=131072:=by omega
      have aF:(mJ (sg s) r j).length<=131072:=by omega
      have bA:=dh J;clear bi U aH aG br bp bj aq bk aw bq aI ai bn J;obtain⟨bs,aJ⟩:∃bs,bs=mJ (sg s) r j:=⟨_,rfl⟩
      obtain⟨os,H⟩:∃os,os=iP (sg s) r j:=⟨_,rfl⟩
      obtain⟨ak,ax⟩:∃ak,ak=qV (sg s) (iN (sg s) r j) (M - 1):=⟨_,rfl⟩
      rw[<-aJ]at G HI aj bh aF bu bm I;rw[<-H]at aj;rw[<-ax]at aj ar HI;have C:os.length=j:=by rw[H];simp[iP]
      obtain⟨oa,oc,rfl,-,-⟩:=G.o.form;have HP:=dh (dn H (dn bz aJ));generalize bU:(fun v=>v ∈ iP (sg s) r j)=P at *;rw[<-H]at G ⊢;rw[q01,C]at G ⊢;obtain⟨BL,aK⟩:∃BL,BL=bs.length:=⟨_,rfl⟩
      rw[<-aK]at G bh aF bm I;have bV:=dh (dn aK p);clear aK aJ H ax p bz;obtain⟨R1,hA,D⟩:=G.m.ask;have ae:=HI.out.1 wr R1 _ _ _ G hA;have e1:=G.L.c1;have HM:=dh G;have ck:decide (2<(BL:Int))=true:=decide_eq_true (by omega);have b7:decide (2<BL)=true:=decide_eq_true (by omega);clear G hA;go_wp2_with fail;refine ae.mono ?_;rintro e w2 ⟨rfl,aL⟩;have ag:=HM.out.mU (D w2 aL) aL.2;clear ae aL D e1;have e1:=ag.L.c1;have e2:=(ag.L.tF.cell (jA bu)).1;have al:=ag.o;have bB:w1.heap.size<=w2.heap.size:=ag.m.fJ.size;have bC:Hid ((dD os).length=j):=dh (by rw[q01,C]);have cl:F<BL:=by omega
      have cm:(F:Int)<(BL:Int):=by omega
      have aM:j<=10000000000:=by have:=E.out.2.2.2;omega
      have bW:=dh ag;clear ag;go_wp2_with (at_builtin;refine FE rfl _ _ rfl w1.heap.size (.slice oa j oc) (dD os) (v:Nat) _ rfl rfl rfl al (by rw[bC.out];exact aM) bB ?_;rw[bC.out];intro g2 A w3 am bD bE hg)
      have aN:=bW.out.push am bD bE;clear al am bD bE hg e1 e2;have aa:=aN.drew;obtain⟨R3,bF,bG⟩:=aa.m.ask;have bX:=HI.out.2 w3.drew R3 _ _ _ aa bF;obtain⟨F1,ae⟩:∃F1,F1=F+1:=⟨_,rfl⟩
      obtain⟨K1,aO⟩:∃K1,K1=M - 1:=⟨_,rfl⟩
      have co:IntKind.i64.wrap ((F:Int)+1)=(F1:Int):=by rw[show (F:Int)+1=(F1:Int) by omega];exact IntWalk.i64_in _ (by omega)
      rw[<-aO]at ar
      have bH:Hid (∀w5 iv ic,OM w1 b s root l (grow R w w1) V bx gg gd ds (.slice (some ⟨bg,0,none⟩) BL bc) (.slice (some ⟨g2,0,none⟩) (j+1) A) bs (os ++ [v]) P w5->dH w3.drew.heap.size w5 (.slice iv K1 ic) (dD ak) ->
        Calls Tryz.prog 223 #[.slice (some ⟨bg,0,none⟩) BL bc,.int .i64 F,.int .i64 F1,.slice iv K1 ic] w5 (A9 w5 bg ((dD bs).take F ++ (dD ak ++ (dD bs).drop F1)))):=dh (fun w5 iv ic hm ho =>
       Wx hm.L.tF (by rw[q01];exact bV.out.1.symm) (by omega) ho (fun q D e=>by have h1:=(ho.lt q D).1;have h2:=(aa.L.tF.lt bg rfl).2;omega) ar (by omega) ae (by omega))
      have bI:(dD bs).take F ++ (dD ak ++ (dD bs).drop F1)=dD (mJ (sg s) r (j+1)):=by rw[aj.out.1,ae];simp only [dD,List.map_append,List.map_take,List.map_drop]
      rw[bI]at bH;have e1:w3.cell? ⟨bx,1,none⟩=some (.slice (some ⟨bg,0,none⟩) BL bc):=aN.L.c1;have bY:=dh aa;have bZ:=dh bG;have cp:=dh (dn ae aO);clear ae aO bI aN aa bF bG;go_region_with (first | (go_at_call 224;refine bX.mono ?_;rintro e w5 ⟨iv,rfl,f,aP⟩;obtain⟨ia,ic,rfl,-,-⟩:=f.form;rw[ar]at f ⊢;have af:=bY.out.mU (bZ.out w5 aP) aP.2;have hR:=bH.out w5 ia ic af f;have e5:=af.L.c1;have b0:=dh af;clear af f aP) | (go_at_call 223;refine hR.mono ?_;rintro e w6 ⟨g,cap,rfl,an,ao,ay⟩;obtain⟨e6,f6,B⟩:=b0.out.JV rfl an ao ay;have bJ:=dh B;clear B an ao ay))
      all_goals
       have B:=bJ.out;generalize w6.setCell _ _=w7 at *;obtain⟨J1,aQ⟩:∃J1,J1=j+1:=⟨_,rfl⟩
       rw[<-aQ]at B ⊢;have cq:IntKind.i64.wrap ((J1:Int) - 1)=(j:Int):=by rw[show ((J1:Int) - 1)=(j:Int) by omega];exact IntWalk.i64_in _ (by omega)
       have cr:j<J1:=by omega
       have b8:(j:Int)<(J1:Int):=by omega
       have aR:=dh aQ;clear aQ;have d2:=B.L.c2;have aS:(dD (os ++ [v]))[j]? = some ((v:Nat):Int):=jA (by rw[<-C];simp);have d3:=(B.o.cell aS).1;obtain⟨t,-,ct,ft⟩:=B.L.ER.cell bl;have au:=B.mark bl;have d4:=au.L.c2;have d5:=(au.o.cell aS).1;have b1:=dh au;clear B au aS bJ;go_wp2_with fail;go_region_held3 (fun w'=>w'.cell? ⟨bx,2,none⟩=some (.slice (some ⟨gg,0,none⟩) V V)/\w'.cell? ⟨g2,j,none⟩=some (.int .i64 (v:Nat))) (first|exact⟨d2,d3⟩|exact⟨d4,d5⟩) (fail);go_wp2_with fail;have aT:iP (sg s) r J1=os ++ [v]:=by rw[aR.out];exact aj.out.2
       have bK:(fun y=>P y\/y=v)=fun y=>y ∈ iP (sg s) r J1:=by rw[<-bU,aT,HP.out.1];funext y;simp
       have aU:=b1.out.drew;rw[bK,<-aT]at aU;have b3:=dh aU;clear bK aU aT;go_roundg (N - J1)
       case measure=>rw[HG.out];have:=aR.out;have:=bA.out;omega
       case rel=>exact⟨J1,by have:=aR.out;have:=bA.out;omega,rfl,_,b3.out⟩
     ·obtain rfl:j=N:=by omega
      obtain⟨a2,b2,bL⟩:∃a b,mJ (sg s) r j=[a,b]:=by obtain⟨a,b,h⟩:=HK.out.2.two;exact⟨_,_,by unfold mJ;rw[h];rfl⟩
      obtain⟨ba,bc,rfl,I,-⟩:=G.L.tF.form;rw[bL]at G I;have e1:=G.L.c1;rw[show (dD [a2,b2]).length=2 from rfl]at e1;have c:=G.o;have HM:=dh G;have Z:Hid (∀W,Keeps (fun _=>False) wr W->W.cell? ⟨cg,0,none⟩=some (.int .i64 (X:Nat))/\W.cell? ⟨cg,1,none⟩=some (.int .i64 (Y:Nat))):=dh (fun W p=>by have b4:Keeps (fun k=>k=b) w1 W:=G.m.fJ.trans p (fun _ _ h=>h.elim);have ho:=a9.out W b4;exact⟨(ho.cell (i:=0) rfl).1,(ho.cell (i:=1) rfl).1⟩);obtain⟨oa,oc,rfl,-,-⟩:=c.form;obtain⟨og,rfl⟩:=oU c (by rw[q01];have:=HK.out.2.pos;simp[iP];omega);obtain⟨d0,d1⟩:=Z.out wr (Keeps.refl _ _);have b5:Hid (∀W,Keeps (fun q=>(Value.slice (some ⟨og,0,none⟩) (dD (iP (sg s) r j)).length oc).ownBlock=some q) wr W->W.cell? ⟨cg,0,none⟩=some (.int .i64 (X:Nat))/\W.cell? ⟨cg,1,none⟩=some (.int .i64 (Y:Nat))):=dh (fun W p=>by have ho:=(a9.out wr G.m.fJ).keeps p (fun q D e=>by simp only [Value.ownBlock,Option.some.injEq]at D e;have:=(c.lt og rfl).1;omega);exact⟨(ho.cell (i:=0) rfl).1,(ho.cell (i:=1) rfl).1⟩);obtain⟨os,H⟩:∃os,os=iP (sg s) r j:=⟨_,rfl⟩
      rw[<-H]at c HM ⊢;have C:(dD os).length=j:=by rw[q01,H];simp[iP]
      have aV:=dh (dn H C);rw[C]at c HM ⊢;clear G bL ai H C I;have hsz1:w1.heap.size<=wr.heap.size:=HM.out.m.fJ.size;have aM:j<=10000000000:=by have:=E.out.2.2.2;omega
      have ap:(2:Int)<3:=by omega
      go_wp2_with fail
      go_region_held3 (fun w'=>w'.cell? ⟨cg,0,none⟩=some (.int .i64 (X:Nat))/\w'.cell? ⟨cg,1,none⟩=some (.int .i64 (Y:Nat))) (first|exact⟨d0,d1⟩|exact⟨d3,d4⟩|exact Z.out _ (Keeps.refl _ _).drew|exact Z.out _ ((Keeps.refl _ _).alloc _).drew|exact Z.out _ ((Keeps.refl _ _).drew.alloc _)) ((refine WL j (by rfl) (.tmp 95) (.tmp 102) (by rfl) w1.heap.size (.slice (some ⟨og,0,none⟩) j oc) (dD os) (Y:Nat) (X:Nat) (dh aV.out.2) wr.heap.size rfl (by simp[Act.eval]) (by simp[Act.eval]) c aM hsz1 ?_;intro g2 A w5 f aW az;obtain⟨d3,d4⟩:=b5.out w5 aW))
      have bM:=UY f (by rw[List.length_append,aV.out.2];have:=E.out.2.2.2;simp;omega)
      have af:MV w1 b s root l (grow R w w1) (fun x=>(Value.slice (some ⟨g2,0,none⟩) (j+2) A).ownBlock=some x) w5:=HM.out.m.own (aW.mono (fun x _ e=>.inr (.inr e))) (fun x Q=>by
       simp only [Value.ownBlock,Option.some.injEq]at Q;subst Q;rcases az with e|e
       ·exact .inl (.inr (.inr e))
       ·exact .inr ⟨e,(f.lt _ rfl).2⟩)
      have HF:Hid (∀w6,dH w1.heap.size w6 (.slice (some ⟨g2,0,none⟩) (j+2) A) (dD os ++ [(Y:Int),(X:Int)]).reverse->Keeps (fun k=>(Value.slice (some ⟨g2,0,none⟩) (j+2) A).ownBlock=some k) w5 w6->dH w.heap.size w6 (.slice (some ⟨g2,0,none⟩) (j+2) A) (dD (lN (sg s) r j))/\MW w b s root l R (fun x=>(Value.slice (some ⟨g2,0,none⟩) (j+2) A).ownBlock=some x) w6/\Told w6 b):=dh (fun w6 ho p=>by
       have e:(dD os ++ [(Y:Int),(X:Int)]).reverse=dD (lN (sg s) r j):=by
        have O:=HK.out.1;have hr:r<s.length:=by have:=HH.out.rt;omega
        rw[E.out.1,E.out.2.1,O.vf hr,aV.out.1];simp[lN,dD,List.map_reverse]
       rw[e]at ho;have B:MV w1 b s root l (grow R w w1) (fun x=>(Value.slice (some ⟨g2,0,none⟩) (j+2) A).ownBlock=some x) w6:=af.own p (fun x Q=>.inl Q);refine⟨ho.mono (fun q D=>by have:=(ho.lt q D).1;have:=ad.out.1.2.size;omega),B.WG HH.out ad.out.1,B.tl ad.out.2⟩)
      clear f aW az af d3 d4;go_wp2_with fail;refine bM.mono ?_;rintro e w6 ⟨rfl,bN,ao⟩;have b6:=dh (HF.out w6 bN ao);clear bM bN ao;go_wp2;go_ret2;exact⟨_,rfl,b6.out⟩
end
