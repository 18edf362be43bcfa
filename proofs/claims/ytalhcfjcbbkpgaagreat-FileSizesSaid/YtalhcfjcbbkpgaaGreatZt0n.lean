import Derived.Lib.AppendZerosOnto
import Derived.Test.YtalhcfjcbbkpgaaGreatZt0m
import Derived.WideKeyEntry
set_option maxRecDepth 100000
set_option maxHeartbeats 4000000
namespace Go.Proofs.YtalhcfjcbbkpgaaGreat
section
open Go.RowKit
theorem N7(z:Value)(k:Nat):Builtin.zeroCells #[z] k=(List.replicate k z).toArray:=by
 apply Array.ext
 ·simp[Builtin.zeroCells]
 ·intro i a c;simp[Builtin.zeroCells,Nat.mod_one]
theorem U1{P:Program}{w:World}(base:Nat)(t tn N e:TypeId)(i:TypeInfo)(z:Value)(O Q:IntKind)(R:P.underlying t=some (.slice e))(y:P.underlying tn=some (.int Q))(S:P.info? e=some i)(T:i.zero=some z)
  (d:i.size=1)(H:z.cells=#[z])(I:z.oneCell'=true)
  (g cap n:Nat)(r:List Value)(a:w.ownsRow base e 1 (.slice (some ⟨g,0,none⟩) n cap) n r)
  (k:Nat)(W:0<k)(A:n+k<=maxLen)(p:(n+k) * i.bytes<=140737488355328)(s:base<=w.heap.size) :
  ∃v' w',(Builtin.append_ #[t,tn] N #[.slice (some ⟨g,0,none⟩) n cap,.int O k]).run P w=.ok v' w'/\w'.ownsRow base e 1 v' (n+k) (r ++ List.replicate k z)/\w.grownBy w' (some g) /\
   (v'.ownBlock=some g\/v'.ownBlock=some w.heap.size):=by
 have v:∀m,Builtin.zeroCells z.cells m=(List.replicate m z).toArray:=fun m=>by rw[H];exact N7 z m
 have F:n+k<=9223372036854775807:=by simp only [maxLen]at A;omega
 have c:(r ++ List.replicate k z).length=(n+k) * 1:=by rw[List.length_append,a.1,List.length_replicate];omega
 have X:IntKind.i64.wrap (k:Int)=k:=by rw[IntKind.wrap_i64];omega
 have Y:k * i.bytes<=(n+k) * i.bytes:=Nat.mul_le_mul_right _ (by omega);rcases a.2 with⟨G,_⟩|⟨g',U,cur,G,J,V,Z,K,aa,l⟩
 ·cases G
 ·simp only [Value.slice.injEq,Option.some.injEq,Addr.mk.injEq,and_true,true_and]at G;obtain⟨rfl,rfl⟩:=G;by_cases o:n+k<=cap
  ·have B:=run_storeCells_at P g n e (List.replicate k z) 0 cur w V (by rw[List.length_replicate];omega) (fun u hu=>by rw[List.eq_of_mem_replicate hu];exact I);simp only [Nat.add_zero]at B;have C:¬((k:Int)<0):=by omega
   have D:¬(281474976710656<(k:Int) * (i.bytes:Int)):=by rw[<-Int.natCast_mul];omega
   have L:¬k=0:=by omega
   refine⟨.slice (some ⟨g,0,none⟩) (n+k) cap,w.setRow g (cur.toList.take n ++ List.replicate k z ++ cur.toList.drop (n+(List.replicate k z).length)).toArray,?_,⟨c,.inr ⟨g,cap,_,rfl,J,setRow_heap w g cur _ e _ V,o,K,?_,?_⟩⟩,⟨rfl,rfl,rfl,by simp,fun q _ hk=>setRow_other w g q _ (fun e=>hk (by rw[e]))⟩,.inl rfl⟩
   ·simp[Builtin.append_,run_underlying R,run_underlying y,sizeOf,typeInfo,zeroValue,S,T,asInt,asIntOf,X,o,C,D,d,L,v,Addr.add_lit,B]
   ·simp only [List.size_toArray,List.length_append,List.length_take,List.length_drop,Array.length_toList,List.length_replicate];omega
   ·rw[Nat.mul_one]at l;rw[l,<-c];exact List.take_left
  ·have x:∀j u,r[j]? = some u->w.cell? ((⟨g,0,none⟩:Addr).add j)=some u:=a.cells (g:=g) rfl;have hf:(Builtin.firstCells i.size n (.slice (some ⟨g,0,none⟩) n cap)).run P w.drew=.ok r.toArray w.drew:=by have:=run_firstCells_some (P:=P) w.drew i.size n ⟨g,0,none⟩ n cap r (by rw[d];have:=a.1;omega) (fun j u hj=>x j u hj);exact this
   have hr:=Go.Lib.run_append_grow_zeros (P:=P) w t tn N e i z O Q R y S T (some ⟨g,0,none⟩) n cap r hf k W (by omega) (by omega) (by omega) (by omega) (growslice_fits (by omega) p);have M:=grownCap_ge w (n+k) cap e;have E:grownCap w (n+k) cap e<=maxLen:=grownCap_le_maxLen w (n+k) cap e A;refine⟨_,_,hr,⟨c,.inr ⟨w.heap.size,_,_,rfl,s,heap_alloc_new w.drew _,M,E,?_,?_⟩⟩,⟨rfl,rfl,rfl,by simp,fun q hq _=>heap_alloc_old w.drew _ hq⟩,.inr rfl⟩
   ·have:=a.1;simp only [Array.size_append,List.size_toArray,v,List.length_replicate];omega
   ·simp only [v,Array.toList_append,List.append_assoc];rw[<-List.append_assoc,<-c];exact List.take_left
theorem qd{m:Array Oper}{rest:List Oper}{o:Oper}{a:Act}{Q:Exit->Act->World->Prop}{wr:World}(r:o.guard=none)(s x:Operand)
  (D:o.op=.call { callee:=.builtin .append,args:=#[s,x],argTypes:=#[25,3] })(B g cap n:Nat)(zs:List Int)(k:Nat)(E:a.eval s=.slice (some ⟨g,0,none⟩) n cap)(F:a.eval x=.int .i64 k)(z:zs.length=n)
  (e:dI B wr (.slice (some ⟨g,0,none⟩) n cap) zs)(G:0<k)(A:n+k<=10000000000)(H:B<=wr.heap.size)
  (h:∀d c w',dI B w' (.slice (some ⟨d,0,none⟩) (n+k) c) (zs ++ List.replicate k 0)->Keeps (fun q=>q=g) wr w'->(d=g\/wr.heap.size<=d)->wpList Tryz.prog m Q rest (a.put o.dst (.slice (some ⟨d,0,none⟩) (n+k) c)) w') :
  wpList Tryz.prog m Q (o :: rest) a wr:=by
 obtain⟨i,I,t,u,v⟩:=info_parts om;have j:wr.ownsRow B 3 1 (.slice (some ⟨g,0,none⟩) n cap) n (ints zs):=by rw[<-z]at e ⊢;exact e
 obtain⟨v',w',hr,C,J,p⟩:=U1 (P:=Tryz.prog) (w:=wr) B 25 3 o.type 3 i (.int .i64 0) .i64 .i64 Tryz.underlying25 Tryz.underlying3 I t u rfl rfl g cap n (ints zs) j k G (by unfold maxLen;omega) (by rw[v];omega) H;refine Go.Lib.wpList_append_run _ r s x _ _ D _ _ E F _ _ hr ?_
 have l:dI B w' v' (zs ++ List.replicate k 0):=by
  unfold dI;rw[List.length_append,List.length_replicate,z];have:ints (zs ++ List.replicate k 0)=ints zs ++ List.replicate k (.int .i64 0):=by simp[ints]
  rw[this];exact C
 obtain⟨d,c,rfl⟩:∃d c,v'=.slice (some ⟨d,0,none⟩) (n+k) c:=by
  rcases C.2 with⟨-,y⟩|⟨d,c,_,y,_⟩
  ·omega
  ·exact⟨d,c,y⟩
 refine h d c w' l ((Keeps.refl (fun q=>q=g) wr).grown J (fun q K=>.inl (Option.some.inj K).symm)) ?_;rcases p with p|p
 ·exact .inl (Option.some.inj p)
 ·exact .inr (by have y:d=wr.heap.size:=Option.some.inj p;omega)
end
section
open Go.RowKit
def DN(ks:List Nat):Prop:=∀(i m:Nat) (r:Int),ks[i]? = some 3->fG ks i m->nN ks i r->¬(m:Int)<r
end
section
open Go.RowKit
end
section
open Go.RowKit
theorem j6.base{c w w':World}{s:List Nat}{root lone:Int}{e:Ending}(h:j6 w s root lone e w')(k:Keeps (fun _=>False) c w):j6 c s root lone e w':=by obtain⟨b,d,g,j,i⟩:=h;have l:=k.size;exact⟨b,d,g.mono (fun x a=>⟨by omega,a.2⟩) (fun x a=>a.2.1) (fun a=>a.2.2 rfl),by omega,k.trans i (fun _ _ h=>h)⟩
end
section
def JE(a:Bool)(c:List (List Bool)):List Nat:=c.flatMap fun l=>mZ (l.length / 4) ++ mP a l
def yA(a:Bool)(lone:Nat)(c:List (List Bool)):List Nat:=mZ lone ++ (mZ c.length ++ JE a c)
end
section
open Go.RowKit
theorem U2(l:TypeId){wr:World}(B:Nat)(v sv:Value)(bs j:List Nat)(a:eP B wr v bs)(c:Sl .u8 wr sv (dD j))(t:bs.length+j.length<=10000000000)(x:B<=wr.heap.size) :
  ∃v' w',(Builtin.append_ #[30,30] l #[v,sv]).run Tryz.prog wr=.ok v' w'/\eP B w' v' (bs ++ j)/\Keeps (fun k=>v.ownBlock=some k) wr w'/\(v'.ownBlock=v.ownBlock\/∃k,v'.ownBlock=some k/\wr.heap.size<=k):=by
 obtain⟨i,u,m,o,p⟩:=info_parts tL;obtain⟨q,cap,rfl,_⟩:=id c;cases q with
 | none =>
  obtain⟨rfl,y,r⟩:=c.vC;have hr:=run_append_owned_none (P:=Tryz.prog) (w:=wr) B 30 l 5 i 1 Tryz.underlying30 u v bs.length _ a;rw[r];exact⟨v,wr,hr,by simpa using a,Keeps.refl _ _,.inl rfl⟩
 | some q =>
  obtain⟨z,d⟩:=c.rY;obtain⟨v',w',hr,e,g,_,s⟩:=run_append_own_at (P:=Tryz.prog) (w:=wr) B 30 l 5 i (.int .u8 0) 1 1 Tryz.underlying30 u m o p rfl (by decide) v bs.length _ a q j.length cap (ys j) (by simp[GA]) d (IZ j) (by unfold maxLen;omega) (by omega) x;refine⟨v',w',by rw[z];exact hr,?_,(Keeps.refl _ wr).grown g (fun k A=>.inl A),s.imp id (fun h=>⟨_,h,Nat.le_refl _⟩)⟩;unfold eP;rw[List.length_append,GD];exact e
theorem U3{c:Array Oper}{o:Oper}{a:Act}{K:Act->World->Prop}{Q:Exit->Act->World->Prop}{E:Prop}{wr:World}(i:o.guard=none)(s x:Operand)
  (l:o.op=.call { callee:=.builtin .append,args:=#[s,x],argTypes:=#[30,30] })(B:Nat)(v sv:Value)(bs g:List Nat)(m:a.eval s=v)(p:a.eval x=sv)
  (d:eP B wr v bs)(j:Sl .u8 wr sv (dD g))(e:bs.length+g.length<=10000000000)(q:B<=wr.heap.size)
  (h:∀v' w',eP B w' v' (bs ++ g)->Keeps (fun k=>v.ownBlock=some k) wr w'->(v'.ownBlock=v.ownBlock\/∃k,v'.ownBlock=some k/\wr.heap.size<=k)->K (a.put o.dst v') w') :
  if Region.wanted o (yielded c a.tmps)=true then Oper.wp Tryz.prog o a wr K Q else E:=by
 have r:Region.wanted o (yielded c a.tmps)=true:=by simp[Region.wanted,i]
 rw[if_pos r];obtain⟨v',w',hr,t,u,y⟩:=U2 o.type B v sv bs g d j e q;unfold Oper.wp execOp;simp only [l,resolve,invoke,builtin,Sem.run_bind,Sem.run_pure,Result.andThen_ok,List.map_toArray,List.map_cons,List.map_nil,m,p,hr];exact h v' w' t u y
end
section
open Go.RowKit
open Go.Maps (Keyed)
theorem EX:laidOutB Tryz.prog=true:=by kernel_rfl
theorem qm:(359:TypeId)<Tryz.prog.types.size:=of_decide_eq_true (by kernel_rfl)
theorem N8:WideMaps.KeyLaw Tryz.prog 359:=deep_law_laid EX (m:=2) (by omega) qm (by kernel_rfl) (by rw[Tryz.underlying359])
theorem q16:Keyed Tryz.prog 359:=Keyed.of_law N8
def kp(x y:Nat):Lit:=.string (keyBytes [.int .i64 (x:Int),.int .i64 (y:Int)])
theorem U4:Tryz.prog.keyType 359=true:=by kernel_rfl
theorem U5:Tryz.prog.cellsOf 3=1:=by kernel_rfl
theorem N9:Tryz.prog.cellsOf 359=2:=by kernel_rfl
theorem U6:∃m,Tryz.prog.types.size=m+1:=⟨Tryz.prog.types.size - 1,by kernel_rfl⟩
theorem GZ{x y:Nat}(a:x<=1000000000000)(c:y<=1000000000000):keyOf Tryz.prog 359 (.agg #[.int .i64 x,.int .i64 y])=some (kp x y):=by
 have d:=Gz a;have e:=Gz c;have g:(Value.agg #[.int .i64 (x:Int),.int .i64 (y:Int)]).formed Tryz.prog 359=true:=by simp[Value.formed,Tryz.underlying359,N9]
 obtain⟨m,i⟩:=U6;unfold keyOf kp;simp only [Tryz.underlying359];rw[if_pos (by rw[U4,g];rfl),i];unfold Program.keyLits;simp only [Tryz.underlying359,Value.cells];rw[if_pos ⟨by rw[N9];rfl,by simp⟩];simp[Program.keyLits,Tryz.underlying3,d,e,U5]
theorem U7{x y u v:Nat}(c:x<=1000000000000)(d:y<=1000000000000)(e:u<=1000000000000)(g:v<=1000000000000)(h:kp x y=kp u v):x=u/\y=v:=by have i:=GZ c d;have a:=GZ e g;rw[<-h]at a;have:=q16.inj i a;simp only [Value.agg.injEq,Array.mk.injEq,List.cons.injEq,Value.int.injEq,true_and,and_true]at this;omega
def oD(w:World)(b n:Nat)(f:Nat->Nat->Nat):Prop :=
 ∃D:DataW Unit,w.ownsMap Tryz.prog 359 (plainElem Tryz.prog 3) b n D/\Maps.IsMap D /\
  ∀x y:Nat,x<=1000000->y<=1000000->D.atKey (kp x y) (.lit (.int .i64 0))=.lit (.int .i64 (f x y:Nat))
def kv(x y:Nat):Value:=.agg #[.int .i64 (x:Int),.int .i64 (y:Int)]
def wV(f:Nat->Nat->Nat)(x y z:Nat)(u v:Nat):Nat:=if u=x/\v=y then z else f u v
theorem oD.made(w:World):oD (w.alloc (.map #[] 0)) w.heap.size 0 (fun _ _=>0) :=
 ⟨.map [],World.ownsMap_made _ _ _ _,Maps.isMap_empty,fun _ _ _ _=>rfl⟩
section
variable {w:World} {b n:Nat} {f:Nat->Nat->Nat} (h:oD w b n f)
include h
theorem oD.more{a:Nat}(c:n<=a):oD w b a f:=by obtain⟨D,d,e⟩:=h;exact⟨D,d.mono c,e⟩
theorem oD.keeps{w':World}{F:Nat->Prop}(k:Keeps F w w')(c:¬F b):oD w' b n f:=by obtain⟨D,⟨d,a,e,g⟩,i⟩:=h;exact⟨D,⟨d,a,k.at e c,g⟩,i⟩
theorem oD.look{x y:Nat}(e:x<=1000000)(g:y<=1000000):(Instr.lookup 357 (.map (some b)) (kv x y) false).run Tryz.prog w=.ok (.int .i64 (f x y:Nat)) w:=by obtain⟨D,i,k,j⟩:=h;obtain⟨c,d,a,_⟩:=i.lookup_int q16 Tryz.underlying357 Tryz.underlying3 (Gy w) (GZ (x:=x) (y:=y) (by omega) (by omega));rw[j x y e g]at a;simp only [DataW.lit.injEq,Lit.int.injEq,true_and]at a;rw[a];exact d
theorem oD.entry{x y:Nat}(hn:n<=1000000)(hx:x<=1000000)(hy:y<=1000000):∃Q w1,∃N:Nat,(Instr.mapEntry 357 (.map (some b)) (kv x y)).run Tryz.prog w=.ok (.tuple #[Q,.int .i64 N]) w1/\Keeps (fun q=>q=b) w w1 /\
  (Instr.lookup 357 (.map (some b)) (kv x y) false).run Tryz.prog w1=.ok (.int .i64 (f x y:Nat)) w1 /\
  ∀z:Nat,z<=1000000->∃R,(Instr.entryStore 357 (.map (some b)) (.int .i64 N) (.int .i64 z)).run Tryz.prog w1=.ok () R/\oD R b (n+1) (wV f x y z)/\Keeps (fun q=>q=b) w R:=by
 have hh:=h;obtain⟨D,S,O,h3⟩:=h;have m:=GZ (x:=x) (y:=y) (by omega) (by omega);obtain⟨s,a,p,F,hs,hD⟩:=id S;obtain⟨Q,N,A,d,T,e2,e3⟩:=WideElems.entry_then_store N8 Tryz.underlying357 Gy p F m;have J:(ChangeMaps.setBlock w b (.map A d)).heap[b]? = some (.map A d):=ChangeMaps.heap_setBlock_same p _;have B:∀o,Keeps (fun q=>q=b) w (ChangeMaps.setBlock w b o):=fun o=>(Keeps.refl (fun q=>q=b) w).grown (row:=some b) ⟨rfl,rfl,rfl,by simp[ChangeMaps.setBlock],fun i _ hi=>ChangeMaps.heap_setBlock_other p _ (fun e=>hi (by rw[e]))⟩ (fun q U=>.inl (Option.some.inj U).symm);refine⟨Q,_,N,T,B _,?_,fun z hz=>?_⟩
 ·obtain⟨s1,s2,_⟩:=F.stamped;rcases q16.find w m s.toList F.keys with⟨P,C⟩|⟨j,t,P,E,K⟩
  ·have V:(Instr.mapEntry 357 (.map (some b)) (kv x y)).run Tryz.prog w=.ok (.tuple #[.int .i64 0,goInt a]) (ChangeMaps.setBlock w b (.map (s.push ⟨kv x y,.int .i64 0,a⟩) (a+1))):=by simp[Instr.mapEntry,run_underlying Tryz.underlying357,MapKept.run_getObj_map p,q16.check w false m,P,MapKept.run_setObj_map _ p,Result.andThen,ChangeMaps.setBlock,kv]
   have r2:(Instr.mapUpdate 357 (.map (some b)) (kv x y) (.int .i64 0)).run Tryz.prog w=.ok () (ChangeMaps.setBlock w b (.map (s.push ⟨kv x y,.int .i64 0,a⟩) (a+1))):=by simp[Instr.mapUpdate,run_underlying Tryz.underlying357,MapKept.run_getObj_map p,q16.check w false m,P,MapKept.run_setObj_map _ p,Result.andThen,ChangeMaps.setBlock,kv]
   obtain⟨w',g,W,_⟩:=S.update q16 Tryz.underlying357 (by unfold maxLen;omega) m (plainElem_int Tryz.underlying3 (Gz (k:=0) (by omega)));have L:=r2.symm.trans g;simp only [Result.ok.injEq,true_and]at L;have M:=V.symm.trans T;simp only [Result.ok.injEq]at M;rw[<-M.2,L];obtain⟨c,G,H,_⟩:=W.lookup_int q16 Tryz.underlying357 Tryz.underlying3 (Gy w') m;rw[Maps.atKey_put_same O (q16.key m)]at H;simp only [DataW.lit.injEq,Lit.int.injEq,true_and]at H;have X:=hh.look (x:=x) (y:=y) hx hy
   have r0:(Instr.lookup 357 (.map (some b)) (kv x y) false).run Tryz.prog w=.ok (.int .i64 0) w:=by
    rcases Maps.fit_look false q16 Tryz.underlying357 (Gy w) p F m with⟨g,_,_⟩|⟨t,y0,Y,Z,_⟩
    ·exact g
    ·exact absurd Z (C t Y)
   rw[r0]at X;simp only [Result.ok.injEq,and_true]at X;rw[<-X,show (0:Int)=c from H];exact G
  ·have hj:s[j]? = some t:=by simpa using E
   have I:s.modify j (fun e=>{ e with key:=kv x y })=s:=by
    apply Array.ext';rw[Array.toList_modify,ChangeMaps.modify_eq_set _ _ _ _ E];have:({ t with key:=kv x y }:MapEntry)=t:=by rw[show kv x y=t.key from K.symm]
    rw[this];exact WideElems.set_self _ _ _ E
   have V:(Instr.mapEntry 357 (.map (some b)) (kv x y)).run Tryz.prog w=.ok (.tuple #[t.val,goInt t.born]) (ChangeMaps.setBlock w b (.map s a)):=by have l:=I;unfold kv at l ⊢;simp[Instr.mapEntry,run_underlying Tryz.underlying357,MapKept.run_getObj_map p,q16.check w false m,P,hj,K,q16.stays w m,l,MapKept.run_setObj_map _ p,Result.andThen,ChangeMaps.setBlock]
   have M:=V.symm.trans T;simp only [Result.ok.injEq]at M;rw[<-M.2];refine oD.look (h:=⟨D,⟨s,a,ChangeMaps.heap_setBlock_same p _,F,hs,hD⟩,O,h3⟩) hx hy
 ·obtain⟨ab,r,q1,q2⟩:=e3 _ (.int .i64 z) J;obtain⟨w',g,W,g2⟩:=S.update q16 Tryz.underlying357 (by unfold maxLen;omega) m (plainElem_int Tryz.underlying3 (Gz (k:=z) (by omega)));have L:=q2.symm.trans g;simp only [Result.ok.injEq,true_and]at L;have hE:(ChangeMaps.setBlock (ChangeMaps.setBlock w b (.map A d)) b (.map ab r))=w':=by rw[<-L];unfold ChangeMaps.setBlock;simp
  refine⟨_,q1,?_,?_⟩
  ·rw[hE];refine⟨_,W,O.put _ _,fun u v hu hv=>?_⟩;unfold wV;by_cases hc:u=x/\v=y
   ·obtain⟨rfl,rfl⟩:=hc;rw[if_pos ⟨rfl,rfl⟩];exact Maps.atKey_put_same O (q16.key m) _ _
   ·rw[if_neg hc,Maps.atKey_put_other (fun e=>hc (U7 (by omega) (by omega) (by omega) (by omega) e))];exact h3 u v hu hv
  ·rw[hE];exact(Keeps.refl (fun q=>q=b) w).grown g2 (fun q U=>.inl (Option.some.inj U).symm)
end
end
