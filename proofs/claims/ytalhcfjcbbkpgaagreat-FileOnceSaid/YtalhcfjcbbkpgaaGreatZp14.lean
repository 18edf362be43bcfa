import Derived.Laws.CopyOwn
import Derived.Lib.Overlaps
import Derived.StillTailTactics
import Derived.Test.YtalhcfjcbbkpgaaGreatZp09
import Derived.Test.YtalhcfjcbbkpgaaGreatZp08
set_option maxRecDepth 100000
set_option maxHeartbeats 4000000
namespace Go.Proofs.YtalhcfjcbbkpgaaGreat
open Go.RowKit
def jr(w:World)(g:Nat)(cur:List Value):Prop:=w.heap[g]? = some (.cells cur.toArray 3 (0,0))
theorem Wm(w:World)(g:Nat)(b:Array Value):Keeps (fun k=>k=g) w (w.setRow g b) :=
 ⟨rfl,rfl,rfl,by simp[World.setRow],fun k _ c=>setRow_other w g k b c⟩
theorem hsz1:(Tryz.prog.info? 3).map (·.size)=some 1:=by obtain⟨i,c,_,b,_⟩:=info_parts nX;rw[c];simp[b]
theorem Dw{w:World}{g off:Nat}{cur:List Value}(p:jr w g cur)(r s:Option Addr)(d e:Nat)(f:List Value)(n:Nat)(t:f.length=n)(u:n=Nat.min e d)
  (h:0<f.length->r=some ⟨g,off,none⟩/\∃q,s=some q/\∀j v,f[j]? = some v->w.cell? (q.add j)=some v)(i:off+f.length<=cur.length)(x:∀v ∈ f,v.oneCell'=true) :
  ∃w',(∀l b c,(Builtin.copy_ #[25,25] l #[.slice r d b,.slice s e c]).run Tryz.prog w=.ok (.int .i64 n) w')/\jr w' g (splice cur off f)/\Keeps (fun k=>k=g) w w':=by
 subst t;by_cases y:f.length=0
 ·obtain rfl:f=[]:=List.eq_nil_of_length_eq_zero y;exact⟨w,fun l b c=>run_copy_none (P:=Tryz.prog) w 25 25 l 3 r s d b e c Tryz.underlying25 hsz1 (by simpa using u.symm),by unfold jr at p ⊢;simpa [splice]using p,Keeps.refl _ _⟩
 ·obtain⟨rfl,q,rfl,m⟩:=h (by omega);refine⟨_,fun l b c=>run_copy_row (P:=Tryz.prog) w 25 25 l 3 g off d b q e c cur.toArray 3 f Tryz.underlying25 hsz1 p u m (by simpa using i) x,?_,Wm w g _⟩;unfold jr splice;rw[<-List.append_assoc];simpa using setRow_heap w g _ _ 3 _ p
section
variable {ops:Array Oper} {rest:List Oper} {o:Oper} {a:Act} {Q:Exit->Act->World->Prop} {w:World}
theorem Wn(q:o.guard=none)(s x:Operand)
  (E:o.op=.call { callee:=.builtin .append,args:=#[s,x],argTypes:=#[25,3] })(B g cap n:Nat)(zs:List Int)(k:Nat)(F:a.eval s=.slice (some ⟨g,0,none⟩) n cap)(G:a.eval x=.int .i64 k)(r:zs.length=n)
  (d:dH B w (.slice (some ⟨g,0,none⟩) n cap) zs)(H:0<k)(D:n+k<=10000000000)(t:cap<n+k)
  (h:∀b w' cur,jr w' w.heap.size cur->cur.length=b->n+k<=b->b<=maxLen->cur.take (n+k)=ints (zs ++ List.replicate k 0)->Keeps (fun _=>False) w w'->wpList Tryz.prog ops Q rest (a.put o.dst (.slice (some ⟨w.heap.size,0,none⟩) (n+k) b)) w') :
  wpList Tryz.prog ops Q (o :: rest) a w:=by
 obtain⟨i,I,v,y,l⟩:=info_parts nX;have c:w.ownsRow B 3 1 (.slice (some ⟨g,0,none⟩) n cap) n (ints zs):=by rw[<-r]at d ⊢;exact d
 have f:∀j u,(ints zs)[j]? = some u->w.cell? ((⟨g,0,none⟩:Addr).add j)=some u:=c.cells (g:=g) rfl
 have J:(Builtin.firstCells i.size n (.slice (some ⟨g,0,none⟩) n cap)).run Tryz.prog w.drew=.ok (ints zs).toArray w.drew :=
  run_firstCells_some (P:=Tryz.prog) w.drew i.size n ⟨g,0,none⟩ n cap (ints zs) (by rw[y];have:=c.1;omega) (fun j u K=>f j u K)
 have z:n+k<=maxLen:=by unfold maxLen;omega
 have L:k * i.bytes<=(n+k) * i.bytes:=Nat.mul_le_mul_right _ (by omega);have hr:=Go.Lib.run_append_grow_zeros (P:=Tryz.prog) w 25 3 o.type 3 i (.int .i64 0) .i64 .i64 Tryz.underlying25 Tryz.underlying3 I v (some ⟨g,0,none⟩) n cap (ints zs) J k H (by omega) (by omega) (by omega) (by rw[l];omega) (growslice_fits (by omega) (by rw[l];omega));have A:=grownCap_ge w (n+k) cap 3;have C:=grownCap_le_maxLen w (n+k) cap 3 z;have p:∀m,Builtin.zeroCells (Value.int .i64 0).cells m=(List.replicate m (.int .i64 0)).toArray:=fun m=>Lm (.int .i64 0) m;refine Go.Lib.wpList_append_run _ q s x _ _ E _ _ F G _ _ hr ?_;refine h _ _ (ints zs ++ List.replicate k (.int .i64 0) ++ List.replicate (grownCap w (n+k) cap 3 - (n+k)) (.int .i64 0)) ?_ ?_ A C ?_ ?_
 ·unfold jr;rw[p,p];have e:((ints zs).toArray ++ (List.replicate k (Value.int .i64 0)).toArray ++ (List.replicate (grownCap w (n+k) cap 3 - (n+k)) (Value.int .i64 0)).toArray)=(ints zs ++ List.replicate k (Value.int .i64 0) ++ List.replicate (grownCap w (n+k) cap 3 - (n+k)) (Value.int .i64 0)).toArray:=by apply Array.toList_inj.1;simp only [Array.toList_append]
  rw[e];exact heap_alloc_new w.drew _
 ·have:(ints zs).length=n:=by simp[ints,r]
  simp only [List.length_append,List.length_replicate];omega
 ·have M:(ints zs ++ List.replicate k (Value.int .i64 0)).length=n+k:=by simp[ints,r]
  rw[<-M,List.take_left];simp[ints]
 ·exact((Keeps.refl (fun _=>False) w).drew).alloc _
end
theorem A8{α:Type}{cur X:List α}{i:Nat}(h:i+X.length<=cur.length):(splice cur i X).length=cur.length:=length_splice cur i X h
theorem OT{α:Type}{cur X Y:List α}{i p T:Nat}(b:p=i+X.length)(d:T=p+Y.length)(g:T<=cur.length):(splice (splice cur i X) p Y).take T=cur.take i ++ (X ++ Y):=by
 have c:(cur.take i).length=i:=by rw[List.length_take];omega
 have e:(splice cur i X).take p=cur.take i ++ X:=by unfold splice;rw[<-List.append_assoc,List.take_left' (by rw[List.length_append,c,b])]
 have f:(cur.take i ++ X).length=p:=by rw[List.length_append,c,b]
 rw[splice,e,<-List.append_assoc,List.take_left' (by rw[List.length_append,f,d]),List.append_assoc]
theorem OU{W:World}{g c L m:Nat}{cur:List Value}{zs:List Int}(hr:jr W g cur)(d:cur.length=c)(e:cur.take L=ints zs)(i:zs.length=L)(j:L<=c)(f:c<=maxLen)(h:m<=L):dH 0 W (.slice (some ⟨g,0,none⟩) m c) (zs.take m):=by
 have b:(zs.take m).length=m:=by rw[List.length_take];omega
 refine⟨by simp only [ints,List.length_map,Nat.mul_one],.inr ⟨g,c,cur.toArray,by rw[b],Nat.zero_le _,hr,by rw[b];omega,f,by simp[d],?_⟩⟩;rw[b,Nat.mul_one,List.toList_toArray];have:=congrArg (List.take m) e;rw[List.take_take,Nat.min_eq_left h]at this;rw[this];simp only [ints,List.map_take]
theorem yh{W:World}{c:Option Addr}{k i:Nat}{b:List Int}(h:Sl .i64 W (.slice c k i) b)(d:Addr):0<(ints b).length->some d=some d/\∃e,c=some e/\∀j v,(ints b)[j]? = some v->W.cell? (e.add j)=some v:=fun l=>by
 have m:0<b.length:=by simpa [ints]using l
 obtain⟨g,off,rfl,-⟩:=h.cellAt (List.getElem?_eq_getElem m);refine⟨rfl,_,rfl,fun j v f=>?_⟩;simp only [ints,List.getElem?_map,Option.map_eq_some_iff]at f;obtain⟨z,n,rfl⟩:=f;rw[Addr.add_lit];exact h.cellOf n
def qW(w:World)(b:Nat)(zs:List Int)(e:Ending)(w':World):Prop:=∃g cap cur,e=.returned (.slice (some ⟨g,0,none⟩) zs.length cap)/\jr w' g cur/\cur.length=cap/\zs.length<=cap/\cap<=maxLen/\cur.take zs.length=ints zs/\Keeps (fun k=>k=b) w w'/\(g=b\/w.heap.size<=g)
theorem Wp{w:World}{s L c i j k vc T:Nat}{V:Option Addr}{zs t:List Int}{cur:List Value}(hr:jr w s cur)(G:cur.length=c)(H:cur.take L=ints zs)(u:zs.length=L)(af:L<=c)(ag:c<=maxLen)(aw:L<=1000000)
  (hv:Sl .i64 w (.slice V k vc) t)(I:t.length=k)(ax:k<=1000000)(hj:j=i+1)(ay:j<L)(hT:T+1=L+k)(az:c<T) :
  Calls Tryz.prog 223 #[.slice (some ⟨s,0,none⟩) L c,.int .i64 i,.int .i64 j,.slice V k vc] w (qW w s (zs.take i ++ (t ++ zs.drop j))):=by
 obtain⟨p,hp⟩:∃p,p=i+k:=⟨_,rfl⟩
 obtain⟨q,P⟩:∃q,T=i+q:=⟨T - i,by omega⟩
 obtain⟨r,m⟩:∃r,L=j+r:=⟨L - j,by omega⟩
 have aA:IntKind.i64.wrap ((i:Int)+(k:Int))=(p:Int):=by rw[show (i:Int)+(k:Int)=(p:Int) by omega];exact IntWalk.i64_in _ (by omega)
 have aB:IntKind.i64.wrap ((p:Int)+((L - j:Nat):Int))=(T:Int):=by rw[show (p:Int)+((L - j:Nat):Int)=(T:Int) by omega];exact IntWalk.i64_in _ (by omega)
 have aC:IntKind.i64.wrap ((T:Int) - (i:Int))=(q:Int):=by rw[show (T:Int) - (i:Int)=(q:Int) by omega];exact IntWalk.i64_in _ (by omega)
 have ah:0<q:=by omega
 have ai:i+q=T:=by omega
 have b8:i<=T:=by omega
 have b9:p<=T:=by omega
 have aD:p<T:=by omega
 have aE:((i:Int) == (j:Int))=false:=by rw[beq_eq_false_iff_ne];omega
 have aq:((j:Int) == (L:Int))=false:=by rw[beq_eq_false_iff_ne];omega
 have b1:i<=j:=by omega
 have b2:j<=c:=by omega
 have b3:i<=c:=by omega
 have b4:¬i=c:=by omega
 have b5:¬c=i:=by omega
 have b6:¬j=c:=by omega
 have b7:¬c=j:=by omega
 have W:=dh (dn hj (dn hp (dn P m)));clear hj hp P m;go_enter Tryz.func223,Tryz.ntmps223;go_wp2_with fail;go_quiet (fail);have aj:decide (c<T)=true:=decide_eq_true (by omega);generalize X:World.drewN w _=W0 at *;have C:Keeps (fun _=>False) w W0:=by rw[<-X];exact(Keeps.refl _ _).drewN _
 have J:jr W0 s cur:=C.at hr (fun h=>h);have K:dH 0 W0 (.slice (some ⟨s,0,none⟩) i c) (zs.take i):=OU J G H u af ag (by omega);have ak:(zs.take i).length=i:=by rw[List.length_take];omega
 have Y:Sl .i64 W0 (.slice V k vc) t:=hv.keeps C (fun _ _ h=>h);have R:=dh (dn C (dn J (dn H (dn G u))));clear X C J hr hv H G;have y:∀l:List Int,∀v ∈ ints l,v.oneCell'=true:=fun l v hv=>by obtain⟨z,_,rfl⟩:=List.mem_map.1 hv;rfl
 have D:(ints t).length=k:=by simp only [ints,List.length_map,I]
 have E:(ints (zs.drop j)).length=L - j:=by simp only [ints,List.length_map,List.length_drop,u]
 have Z:k=Nat.min k (T - i):=by show k=min k (T - i);omega
 have aa:L - j=Nat.min (L - j) (T - p):=by have:=W.out;show L - j=min (L - j) (T - p);omega
 have HF:Hid (∀b M d,jr M W0.heap.size d->d.length=b->T<=b->Keeps (fun _=>False) W0 M->∃N,(∀ty A B,(Builtin.copy_ #[25,25] ty #[.slice (some ⟨W0.heap.size,i,none⟩) (T - i) A,.slice V k B]).run Tryz.prog M=.ok (.int .i64 k) N) /\
   ∃S,(∀ty A B,(Builtin.copy_ #[25,25] ty #[.slice (some ⟨W0.heap.size,p,none⟩) (T - p) A,.slice (some ⟨s,j,none⟩) (L - j) B]).run Tryz.prog N.drew=.ok (.int .i64 ((L - j:Nat):Int)) S)/\jr S W0.heap.size (splice (splice d i (ints t)) p (ints (zs.drop j)))/\Keeps (fun k=>k=s) w S):=dh (by
  intro b M d m f ab n;have aF:s<W0.heap.size:=lt_of_block R.out.2.1;obtain⟨N,e3,r3,k3⟩:=Dw (off:=i) m (some ⟨W0.heap.size,i,none⟩) V (T - i) k (ints t) k D Z (yh (Y.keeps n (fun _ _ h=>h)) _) (by rw[D,f];omega) (y t);have al:jr N.drew s cur:=k3.drew.at (n.at R.out.2.1 (fun h=>h)) (by omega);have am:(cur.drop j).take (L - j)=ints (zs.drop j):=by have:=congrArg (List.drop j) R.out.2.2.1;rw[List.drop_take]at this;rw[this];simp only [ints,List.map_drop]
  obtain⟨S,e4,r4,k4⟩:=Dw (w:=N.drew) (off:=p) (g:=W0.heap.size) r3 (some ⟨W0.heap.size,p,none⟩) (some ⟨s,j,none⟩) (T - p) (L - j) (ints (zs.drop j)) (L - j) E aa (fun _=>⟨rfl,_,rfl,fun q v P=>by
   rw[Addr.add_lit];have:=dw al (j+q);rw[this];have ad:(cur.drop j)[q]? = some v:=by have h5:=gX P;rw[E]at h5;rw[<-am,List.getElem?_take_of_lt h5]at P;exact P
   rw[List.getElem?_drop]at ad;simpa using ad⟩) (by rw[A8 (by rw[D,f];omega),E,f];have:=W.out;omega) (y _)
  refine⟨N,e3,S,e4,r4,?_⟩;have kA:=R.out.1.trans n (fun _ _ h=>h);refine((kA.mono (fun _ _ h=>h.elim):Keeps (fun k=>k=s) w M).trans (k3.drew.trans k4 (fun _ _ h=>h)) (fun x hx e=>?_));have:=R.out.1.size;omega)
 have HZ:=dh (dn u I);clear u I Z aa D E y Y;go_wp2_with (at_builtin;refine Wn rfl (.tmp 63) (.tmp 66) rfl 0 s c i (zs.take i) q rfl rfl ak K ah (by omega) (by omega) ?_;rw[ai];intro b M d m f ae ab F n;obtain⟨N,e3,S,e4,r4,k4⟩:=HF.out b M d m f ae n;have ar:¬b=i:=(by omega);have au:¬b=p:=(by omega);have av:p<=b:=(by omega))
 have U:=dh (dn F (dn r4 (dn k4 (dn ae (dn f ab)))));have an:=dh R.out.1.size;clear F m n r4 k4;go_region
 all_goals go_wp2
 all_goals go_ret
 have O:(zs.take i ++ (t ++ zs.drop j)).length=T:=by have:=HZ.out;simp only [List.length_append,List.length_take,List.length_drop];have:=W.out;omega
 have ao:d.length=b:=U.out.2.2.2.2.1
 have ap:(splice (splice d i (ints t)) p (ints (zs.drop j))).length=b:=by
  have:=HZ.out;have:=W.out;have hx:(ints t).length=k:=by simp only [ints,List.length_map];omega
  have hy:(ints (zs.drop j)).length=L - j:=by simp only [ints,List.length_map,List.length_drop];omega
  rw[A8 (by rw[A8 (by omega),hy];omega),A8 (by omega),ao]
 refine⟨W0.heap.size,b,_,by rw[O];rfl,U.out.2.1,ap,by rw[O];exact U.out.2.2.2.1,U.out.2.2.2.2.2,?_,U.out.2.2.1,.inr an.out⟩;rw[O];have h1:=HZ.out;have h2:=W.out;have hx:(ints t).length=k:=by simp only [ints,List.length_map];omega
 have hy:(ints (zs.drop j)).length=L - j:=by simp only [ints,List.length_map,List.length_drop];omega
 rw[OT (by rw[hx];omega) (by rw[hy];omega) (by omega)];have h3:d.take i=ints (zs.take i):=by have:=congrArg (List.take i) U.out.1;rw[List.take_take,Nat.min_eq_left (by omega)]at this;rw[this];simp only [ints,List.map_append];rw[List.take_left' (by simp only [List.length_map,List.length_take];omega)]
 rw[h3];simp only [ints,List.map_append]
theorem Keeps.setCells'{g:Nat}:∀(b:List Value) (o:Nat) (w:World),Keeps (fun k=>k=g) w (w.setCells g o b)
 | [],_,w=>Keeps.refl _ w
 | v :: r,o,w=>((Keeps.refl (fun k=>k=g) w).setCell (p:=⟨g,o,none⟩) (.inl rfl) v).trans (Keeps.setCells' r (o+1) _) (fun _ _ h=>h)
theorem OV{g:Nat}:∀(d:List Value) (off:Nat) (cur:List Value) (w:World),jr w g cur->off+d.length<=cur.length->jr (w.setCells g off d) g (splice cur off d)
 | [],off,cur,w,c,_=>by unfold jr at c ⊢;simpa [splice,World.setCells]using c
 | v :: r,off,cur,w,c,e=>by
  have h:jr (w.setCell ⟨g,off,none⟩ v) g (cur.set off v):=by unfold jr;rw[jM c off v];simp
  have f:=OV r (off+1) (cur.set off v) (w.setCell ⟨g,off,none⟩ v) h (by simp only [List.length_set];simp only [List.length_cons]at e;omega)
  have i:splice (cur.set off v) (off+1) r=splice cur off (v :: r):=by
   have b:off<cur.length:=by simp only [List.length_cons]at e;omega
   unfold splice;rw[List.take_set,List.take_add_one,List.getElem?_eq_getElem b,List.set_append_right _ _ (by rw[List.length_take];omega)];simp only [List.length_take,Nat.min_eq_left (Nat.le_of_lt b),Nat.sub_self,Option.toList_some,List.set_cons_zero,List.append_assoc,List.cons_append,List.nil_append,List.length_cons];congr 3;rw[List.drop_set,if_pos (by omega)];congr 1;omega
  rw[i]at f;exact f
theorem Ws{w:World}{g off n:Nat}{cur:List Value}(f:jr w g cur)(d:off+n<=cur.length) :
  ∃w' c,(∀h b,(Builtin.clear_ #[25] h #[.slice (some ⟨g,off,none⟩) n b]).run Tryz.prog w=.ok (.tuple #[]) w')/\jr w' g c/\c.length=cur.length/\c.take off=cur.take off/\Keeps (fun k=>k=g) w w'/\(n=0->w'=w):=by
 obtain⟨i,q,l,r,s⟩:=info_parts nX;have m:∀w,(zeroValue 3).run Tryz.prog w=.ok (.int .i64 0) w:=fun w=>by simp[zeroValue,typeInfo,q,l]
 rcases Nat.eq_zero_or_pos n with p|p
 ·subst p;exact⟨w,cur,fun h b=>by simp[Builtin.clear_,run_underlying Tryz.underlying25],f,rfl,rfl,Keeps.refl _ _,fun _=>rfl⟩
 ·have t:∀j,j<n->(w.cell? ⟨g,off+j,none⟩).isSome=true:=fun j u=>by have:=dw f (off+j);rw[this];simp;omega
  have hr:=fun h b=>Go.Lib.run_clear_slice (P:=Tryz.prog) w 25 3 h (.int .i64 0) Tryz.underlying25 m rfl rfl g off n b p t (fun j u=>dx f _);refine⟨_,_,hr,OV _ off cur w f (by rw[List.length_replicate];exact d),length_splice _ _ _ (by rw[List.length_replicate];exact d),?_,Keeps.setCells' (List.replicate n (.int .i64 0)) off w,fun e=>absurd e (by omega)⟩;unfold splice;rw[List.take_left' (by rw[List.length_take];omega)]
theorem Wt{w:World}{m L c i j k X T:Nat}{V:Option Addr}{zs b:List Int}{cur:List Value}(hr:jr w m cur)(x:cur.length=c)(C:cur.take L=ints zs)(F:zs.length=L)(ah:L<=c)(Y:c<=maxLen)(ai:L<=1000000)
  (W:Sl .i64 w (.slice V k X) b)(G:b.length=k)(aj:k<=1000000)(hj:j=i+1)(ak:j<L)(hT:T+1=L+k)(Z:T<=c)(al:k<=1) :
  Calls Tryz.prog 223 #[.slice (some ⟨m,0,none⟩) L c,.int .i64 i,.int .i64 j,.slice V k X] w (qW w m (zs.take i ++ (b ++ zs.drop j))):=by
 obtain⟨p,hp⟩:∃p,p=i+k:=⟨_,rfl⟩
 obtain⟨q,D⟩:∃q,T=i+q:=⟨T - i,by omega⟩
 obtain⟨r,H⟩:∃r,L=j+r:=⟨L - j,by omega⟩
 have am:IntKind.i64.wrap ((i:Int)+(k:Int))=(p:Int):=by rw[show (i:Int)+(k:Int)=(p:Int) by omega];exact IntWalk.i64_in _ (by omega)
 have an:IntKind.i64.wrap ((p:Int)+((L - j:Nat):Int))=(T:Int):=by rw[show (p:Int)+((L - j:Nat):Int)=(T:Int) by omega];exact IntWalk.i64_in _ (by omega)
 have ao:decide ((p:Int)<=(j:Int))=true:=decide_eq_true (by omega);have af:decide (p<=j)=true:=decide_eq_true (by omega);have ap:¬p=c:=by omega
 have aq:¬c=p:=by omega
 have ar:p<=c:=by omega
 have au:T<=L:=by omega
 have av:IntKind.i64.wrap ((T:Int) - (i:Int))=(q:Int):=by rw[show (T:Int) - (i:Int)=(q:Int) by omega];exact IntWalk.i64_in _ (by omega)
 have aw:0<q:=by omega
 have ax:i+q=T:=by omega
 have b8:i<=T:=by omega
 have b9:p<=T:=by omega
 have ay:p<T:=by omega
 have az:((i:Int) == (j:Int))=false:=by rw[beq_eq_false_iff_ne];omega
 have ag:((j:Int) == (L:Int))=false:=by rw[beq_eq_false_iff_ne];omega
 have b1:i<=j:=by omega
 have b2:j<=c:=by omega
 have b3:i<=c:=by omega
 have b4:¬i=c:=by omega
 have b5:¬c=i:=by omega
 have b6:¬j=c:=by omega
 have b7:¬c=j:=by omega
 have E:=dh (dn hj (dn hp (dn D H)));clear hj hp D H;go_enter Tryz.func223,Tryz.ntmps223;go_wp2_with fail;go_quiet (fail);have aa:decide (c<T)=false:=decide_eq_false (by omega);generalize I:World.drewN w _=W0 at *;have y:Keeps (fun _=>False) w W0:=by rw[<-I];exact(Keeps.refl _ _).drewN _
 have J:jr W0 m cur:=y.at hr (fun h=>h);have K:Sl .i64 W0 (.slice V k X) b:=W.keeps y (fun _ _ h=>h);have t:∀l:List Int,∀v ∈ ints l,v.oneCell'=true:=fun l v W=>by obtain⟨z,_,rfl⟩:=List.mem_map.1 W;rfl
 have d:(ints b).length=k:=by simp only [ints,List.length_map,G]
 have s:(ints (zs.drop j)).length=L - j:=by simp only [ints,List.length_map,List.length_drop,F]
 have M:k=Nat.min k (T - i):=by show k=min k (T - i);omega
 have N:L - j=Nat.min (L - j) (T - p):=by have:=E.out;show L - j=min (L - j) (T - p);omega
 obtain⟨w3,e3,r3,k3⟩:=Dw (off:=i) J (some ⟨m,i,none⟩) V (T - i) k (ints b) k d M (yh K _) (by rw[d,x];omega) (t b);have f:(splice cur i (ints b)).length=c:=by rw[A8 (by rw[d,x];omega),x]
 obtain⟨w4,e4,r4,k4⟩:=Dw (w:=w3.drew) (off:=p) (g:=m) r3 (some ⟨m,p,none⟩) (some ⟨m,j,none⟩) (T - p) (L - j) (ints (zs.drop j)) (L - j) s N (fun _=>⟨rfl,_,rfl,fun q v D=>by
  rw[Addr.add_lit];have ab:jr w3.drew m (splice cur i (ints b)):=r3;have:=dw ab (j+q);rw[this];have h5:=gX D;rw[s]at h5;have h6:(splice cur i (ints b))[j+q]? = cur[j+q]?:=by have h7:=E.out;unfold splice;rw[List.getElem?_append_right (by rw[List.length_take];omega),List.getElem?_append_right (by rw[List.length_take,d];omega),List.getElem?_drop];congr 1;rw[List.length_take,d];omega
  have h8:cur[j+q]? = some v:=by have:=congrArg (fun l=>l[j+q]?) C;rw[List.getElem?_take_of_lt (by omega)]at this;rw[this];simp only [ints,List.map_drop,List.getElem?_drop]at D;exact D
  simpa [h6]using h8⟩) (by rw[f,s];have:=E.out;omega) (t _)
 have u:(splice (splice cur i (ints b)) p (ints (zs.drop j))).length=c:=by rw[A8 (by rw[f,s];have:=E.out;omega),f]
 have O:(splice (splice cur i (ints b)) p (ints (zs.drop j))).take T=ints (zs.take i ++ (b ++ zs.drop j)):=by
  have h2:=E.out;rw[OT (by rw[d];omega) (by rw[s];omega) (by omega)];have h3:cur.take i=ints (zs.take i):=by have:=congrArg (List.take i) C;rw[List.take_take,Nat.min_eq_left (by omega)]at this;rw[this];simp only [ints,List.map_take]
  rw[h3];simp only [ints,List.map_append]
 obtain⟨w5,P,e5,r5,R,S,k5,U⟩:=Ws (off:=T) (n:=L - T) r4 (by rw[u];omega);have A:(zs.take i ++ (b ++ zs.drop j)).length=T:=by simp only [List.length_append,List.length_take,List.length_drop];have:=E.out;omega
 have HE:Hid (qW w m (zs.take i ++ (b ++ zs.drop j)) (.returned (.slice (some ⟨m,0,none⟩) T c)) w5):=dh ⟨m,c,P,by rw[A],r5,by rw[R,u],by rw[A];exact Z,Y,by rw[A,S,O],((((y.mono (fun _ _ h=>h.elim):Keeps (fun k=>k=m) w W0).trans k3 (fun _ _ h=>h)).drew.trans k4 (fun _ _ h=>h)).trans k5 (fun _ _ h=>h)),.inl rfl⟩;have aA:c=T->∀(ty:TypeId) (ad:Addr) (B:Nat),(Builtin.clear_ #[25] ty #[.slice (some ad) (L - T) B]).run Tryz.prog w4=.ok (.tuple #[]) w4:=fun ec ty ad B=>by rw[show L - T=0 by omega];simp[Builtin.clear_,run_underlying Tryz.underlying25]
 have ae:=dh U;clear U;clear M N d s t K I y J r3 k3 r4 k4 f u O r5 R S k5 A W C x hr F G;go_wp2_with fail;go_region
 all_goals go_wp2
 all_goals go_ret
 all_goals first|exact HE.out | (have e:w5=w4:=ae.out (by omega);have h3:c=T:=(by assumption);have h2:=HE.out;rw[<-e];rw[h3]at h2;exact h2)
theorem Wu{α:Type}{cur X Y:List α}{i p T:Nat}(b:p=i+X.length)(j:T=p+Y.length)(k:T<=cur.length):(splice (splice cur p Y) i X).take T=cur.take i ++ (X ++ Y):=by
 have c:(cur.take i).length=i:=by rw[List.length_take];omega
 have d:(cur.take p).length=p:=by rw[List.length_take];omega
 have e:(splice cur p Y).take i=cur.take i:=by unfold splice;rw[List.take_append_of_le_length (by omega),List.take_take,Nat.min_eq_left (by omega)]
 have f:(splice cur p Y).drop (i+X.length)=Y ++ cur.drop (p+Y.length):=by unfold splice;rw[<-b,List.drop_left' d]
 have g:(cur.take i ++ (X ++ Y)).length=T:=by rw[List.length_append,List.length_append,c];omega
 have h:splice (splice cur p Y) i X=(cur.take i ++ (X ++ Y)) ++ cur.drop (p+Y.length):=by rw[splice,e,f];simp only [List.append_assoc]
 rw[h,List.take_left' g]
theorem hsz0(w:World):(Go.sizeOf 3).run Tryz.prog w=.ok 1 w:=by obtain⟨i,c,_,b,_⟩:=info_parts nX;simp[Go.sizeOf,typeInfo,c,b]
theorem Wv{w:World}{B b L c i j k H T:Nat}{Y:Option Addr}{zs f:List Int}{cur:List Value}(hr:jr w b cur)(x:cur.length=c)(I:cur.take L=ints zs)(N:zs.length=L)(aj:L<=c)(aa:c<=maxLen)(ak:L<=1000000)
  (Z:dH B w (.slice Y k H) f)(O:∀q,(Value.slice Y k H).ownBlock=some q->q≠b)(y:f.length=k)(al:k<=1000000)(hj:j=i+1)(am:j<L)(hT:T+1=L+k)(ab:T<=c)(an:2<=k) :
  Calls Tryz.prog 223 #[.slice (some ⟨b,0,none⟩) L c,.int .i64 i,.int .i64 j,.slice Y k H] w (qW w b (zs.take i ++ (f ++ zs.drop j))):=by
 obtain⟨p,hp⟩:∃p,p=i+k:=⟨_,rfl⟩
 obtain⟨q,F⟩:∃q,T=i+q:=⟨T - i,by omega⟩
 obtain⟨r,P⟩:∃r,L=j+r:=⟨L - j,by omega⟩
 have ao:IntKind.i64.wrap ((i:Int)+(k:Int))=(p:Int):=by rw[show (i:Int)+(k:Int)=(p:Int) by omega];exact IntWalk.i64_in _ (by omega)
 have ap:IntKind.i64.wrap ((p:Int)+((L - j:Nat):Int))=(T:Int):=by rw[show (p:Int)+((L - j:Nat):Int)=(T:Int) by omega];exact IntWalk.i64_in _ (by omega)
 have aq:decide ((p:Int)<=(j:Int))=false:=decide_eq_false (by omega);have ah:decide (p<=j)=false:=decide_eq_false (by omega);have ar:¬p=c:=by omega
 have au:¬c=p:=by omega
 have av:p<=c:=by omega
 have aw:IntKind.i64.wrap ((T:Int) - (i:Int))=(q:Int):=by rw[show (T:Int) - (i:Int)=(q:Int) by omega];exact IntWalk.i64_in _ (by omega)
 have ax:0<q:=by omega
 have ay:i+q=T:=by omega
 have b8:i<=T:=by omega
 have b9:p<=T:=by omega
 have az:p<T:=by omega
 have aA:((i:Int) == (j:Int))=false:=by rw[beq_eq_false_iff_ne];omega
 have ai:((j:Int) == (L:Int))=false:=by rw[beq_eq_false_iff_ne];omega
 have b1:i<=j:=by omega
 have b2:j<=c:=by omega
 have b3:i<=c:=by omega
 have b4:¬i=c:=by omega
 have b5:¬c=i:=by omega
 have b6:¬j=c:=by omega
 have b7:¬c=j:=by omega
 have J:=dh (dn hj (dn hp (dn F P)));clear hj hp F P;go_enter Tryz.func223,Tryz.ntmps223;go_wp2_with fail;go_quiet (fail);have ad:decide (c<T)=false:=decide_eq_false (by omega);generalize R:World.drewN w _=g at *;have A:Keeps (fun _=>False) w g:=by rw[<-R];exact(Keeps.refl _ _).drewN _
 have m:jr g b cur:=A.at hr (fun h=>h);have C:dH B g (.slice Y k H) f:=Z.keeps A (fun _ _ h=>h);obtain⟨K,rfl⟩:=oU C (by rw[y];omega);have S:Sl .i64 g (.slice (some ⟨K,0,none⟩) k H) f:=by have:=C.sl;exact this
 have ae:b≠K:=fun e=>O K rfl e.symm
 obtain⟨D,U,af⟩:∃D:Array Value,g.heap[K]? = some (.cells D 3 (0,0))/\D.size≠0:=by
  rcases C.2 with⟨e,-⟩|⟨g',c',ag,e1,-,e3,e4,-,e6,-⟩
  ·cases e
  ·simp only [Value.slice.injEq,Option.some.injEq,Addr.mk.injEq,and_true]at e1;obtain⟨rfl,-,rfl⟩:=e1;exact⟨ag,e3,by rw[e6];rw[y]at e4;omega⟩
 have aB:∀lb cb,(callFunc 258 #[.slice (some ⟨b,p,none⟩) lb cb,.slice (some ⟨K,0,none⟩) k H]).run Tryz.prog g=.ok (.value (.bool false)) g:=fun lb cb=>by
  rw[run_callFunc_extern Tryz.func258 (by kernel_rfl) (by kernel_rfl) (by kernel_rfl) (e:=Extern.SlicesOverlaps.overlaps #[25,25] #[4]) (by kernel_rfl),
   Lib.run_overlaps_apart g 25 4 3 Tryz.underlying25 1 hsz0 ⟨b,p,none⟩ ⟨K,0,none⟩ lb cb k H ae 3 3 cur.length D.size (by unfold World.shape?;unfold jr at m;rw[m];simp) (by unfold World.shape?;rw[U]) af (dx m _) (dx m _)]
  rfl
 have s:∀l:List Int,∀v ∈ ints l,v.oneCell'=true:=fun l v Z=>by obtain⟨z,_,rfl⟩:=List.mem_map.1 Z;rfl
 have t:(ints f).length=k:=by simp only [ints,List.length_map,y]
 have n:(ints (zs.drop j)).length=L - j:=by simp only [ints,List.length_map,List.length_drop,N]
 have V:k=Nat.min k (T - i):=by show k=min k (T - i);omega
 have W:L - j=Nat.min (L - j) (T - p):=by have:=J.out;show L - j=min (L - j) (T - p);omega
 have M:jr g.drew b cur:=m
 obtain⟨w3,e3,r3,k3⟩:=Dw (w:=g.drew) (off:=p) M (some ⟨b,p,none⟩) (some ⟨b,j,none⟩) (T - p) (L - j) (ints (zs.drop j)) (L - j) n W (fun _=>⟨rfl,_,rfl,fun q v F=>by
  rw[Addr.add_lit];have:=dw M (j+q);rw[this];have h5:=gX F;rw[n]at h5;have h8:cur[j+q]? = some v:=by have:=congrArg (fun l=>l[j+q]?) I;rw[List.getElem?_take_of_lt (by omega)]at this;rw[this];simp only [ints,List.map_drop,List.getElem?_drop]at F;exact F
  simpa using h8⟩) (by rw[x,n];have:=J.out;omega) (s _)
 have d:(splice cur p (ints (zs.drop j))).length=c:=by rw[A8 (by rw[n,x];have:=J.out;omega),x]
 have u:Keeps (fun k=>k=b) g w3:=((Keeps.refl (fun k=>k=b) g).drew).trans k3 (fun _ _ h=>h);obtain⟨w4,e4,r4,k4⟩:=Dw (off:=i) r3 (some ⟨b,i,none⟩) (some ⟨K,0,none⟩) (T - i) k (ints f) k t V (yh (S.keeps u (fun q F e=>by simp only [Value.ownBlock,Option.some.injEq]at F;omega)) _) (by rw[t,d];have:=J.out;omega) (s f);have G:(splice (splice cur p (ints (zs.drop j))) i (ints f)).length=c:=by rw[A8 (by rw[d,t];have:=J.out;omega),d]
 have E:(zs.take i ++ (f ++ zs.drop j)).length=T:=by simp only [List.length_append,List.length_take,List.length_drop];have:=J.out;omega
 have X:(splice (splice cur p (ints (zs.drop j))) i (ints f)).take T=ints (zs.take i ++ (f ++ zs.drop j)):=by
  have h2:=J.out;have h3:cur.take i=ints (zs.take i):=by have:=congrArg (List.take i) I;rw[List.take_take,Nat.min_eq_left (by omega)]at this;rw[this];simp only [ints,List.map_take]
  rw[Wu (by rw[t];omega) (by rw[n];omega) (by omega),h3];simp only [ints,List.map_append]
 have HE:Hid (qW w b (zs.take i ++ (f ++ zs.drop j)) (.returned (.slice (some ⟨b,0,none⟩) T c)) w4):=dh ⟨b,c,_,by rw[E],r4,G,by rw[E];exact ab,aa,by rw[E,X],(((A.mono (fun _ _ h=>h.elim):Keeps (fun k=>k=b) w g).trans u (fun _ _ h=>h)).trans k4 (fun _ _ h=>h)),.inl rfl⟩;clear R m hr Z I x C S U O V W t n s M r3 k3 r4 k4 d G X E u A N y;go_wp2_with fail;go_region
 all_goals go_wp2
 all_goals go_ret
 all_goals exact HE.out
def A9(w:World)(b:Nat)(zs:List Int)(e:Ending)(w':World):Prop:=∃g cap,e=.returned (.slice (some ⟨g,0,none⟩) zs.length cap)/\dH 0 w' (.slice (some ⟨g,0,none⟩) zs.length cap) zs/\Keeps (fun k=>k=b) w w'/\(g=b\/(w.heap.size<=g/\g<w'.heap.size))
theorem Wx{w:World}{d L c i j k:Nat}{B B':Nat}{y:Option Addr}{z:Nat}{zs v:List Int}(K:dH B w (.slice (some ⟨d,0,none⟩) L c) zs)(b:zs.length=L)(f:L<=1000000)
  (C:dH B' w (.slice y k z) v)(D:∀q,(Value.slice y k z).ownBlock=some q->q≠d)(l:v.length=k)(n:k<=1000000)(E:j=i+1)(p:j<L) :
  Calls Tryz.prog 223 #[.slice (some ⟨d,0,none⟩) L c,.int .i64 i,.int .i64 j,.slice y k z] w (A9 w d (zs.take i ++ (v ++ zs.drop j))):=by
 obtain⟨cur,hr,r,s,t,u⟩:∃cur,jr w d cur/\cur.length=c/\cur.take L=ints zs/\L<=c/\c<=maxLen:=by
  rcases K.2 with⟨e,-⟩|⟨W,X,F,G,-,M,Y,N,O,H⟩
  ·cases e
  ·simp only [Value.slice.injEq,Option.some.injEq,Addr.mk.injEq,and_true]at G;obtain⟨rfl,Z,rfl⟩:=G;refine⟨F.toList,by unfold jr;simpa using M,by simpa using O,?_,by omega,N⟩;rw[Nat.mul_one]at H;rw[<-b];exact H
 have P:Calls Tryz.prog 223 #[.slice (some ⟨d,0,none⟩) L c,.int .i64 i,.int .i64 j,.slice y k z] w (qW w d (zs.take i ++ (v ++ zs.drop j))):=by
  rcases Nat.lt_or_ge c (L+k - 1)with h|h
  ·exact Wp (T:=L+k - 1) hr r s b t u f C.sl l n E p (by omega) h
  ·rcases Nat.lt_or_ge k 2 with A|A
   ·exact Wt (T:=L+k - 1) hr r s b t u f C.sl l n E p (by omega) h (by omega)
   ·exact Wv (T:=L+k - 1) hr r s b t u f C D l n E p (by omega) h A
 refine P.mono ?_;rintro e w' ⟨g,cap,I,rfl,J,A,R,S,U,V,x⟩;refine⟨g,cap,rfl,?_,V,?_⟩
 ·have:=OU (m:=(zs.take i ++ (v ++ zs.drop j)).length) J A U rfl R S (Nat.le_refl _);rw[List.take_length]at this;exact this
 ·rcases x with x|x
  ·exact .inl x
  ·exact .inr ⟨x,lt_of_block J⟩
