import Derived.Test.YtalhcfjcbbkpgaaGreatZt0z
import Derived.Test.YtalhcfjcbbkpgaaGreatZt18
set_option maxRecDepth 100000
set_option maxHeartbeats 4000000
namespace Go.Proofs.YtalhcfjcbbkpgaaGreat
section
open Go.RowKit
theorem PZ(o a b c:Nat)(t p l:Bool)(w:World)(i:bits .and .u8 (o:Int) 1=(a:Int))(j:bits .and .u8 (o:Int) 2=(b:Int))(k:bits .and .u8 (o:Int) 4=(c:Int))(d:decide (0<a)=t)(f:decide (0<b)=p)(t4:decide (0<c)=l) :
  Calls Tryz.prog 13 #[.int .u8 o] w fun e w'=>e=.returned (gY t p l)/\Keeps (fun _=>False) w w':=by
 have s1:decide ((0:Int)<(a:Int))=t:=by rw[<-d];simp
 have s2:decide ((0:Int)<(b:Int))=p:=by rw[<-f];simp
 have m:decide ((0:Int)<(c:Int))=l:=by rw[<-t4];simp
 unfold gY;go_enter Tryz.func13,Tryz.ntmps13;go_wp2;refine bodyPost_ret (v:=.agg #[.bool t,.bool p,.bool l]) ?_ rfl ⟨rfl,(Keeps.refl (fun _=>False) w).alloc _⟩;simp[results,Tryz.results13,go_sem]
theorem XI(lab:List Bool)(p:Bool):∃c,Dl p false 1 [] lab=[80,81,uJ false p false,1,0] ++ c/\c.length=4:=by refine⟨four (lC (80 :: 81 :: uJ false p false :: xw p false 1 [] lab)),?_,rfl⟩;rw[XH];unfold xw yA;rw[List.map_nil,List.length_nil,zR (by decide),zR (by decide)];rfl
theorem XJ(w:World):Calls Tryz.prog 10 #[] w fun e w'=>e=.returned (.bool true)/\Keeps (fun _=>False) w w':=by
 have M:=G6 (s:=[]) (rt:=-1) (ln:=1) (sv:=.slice none 0 0) (W:=w) ⟨none,0,rfl,by simp[dD],by decide,fun _=>rfl,fun j z q=>by simp[dD]at q⟩ ⟨fun d H=>absurd H (by simp),fun d e H=>absurd H (by simp)⟩ rfl (by simp) (by decide) (.inl ⟨rfl,rfl⟩);go_enter Tryz.func10,Tryz.ntmps10;go_wp2_with fail;refine M.mono ?_;clear M;rintro e w1 ⟨b,rfl,N,Q,r⟩;have t:fU (jG [] 1)=0:=by simp[jG,mO,fU]
 have f:eu [] (-1)=[]:=by simp[eu]
 have u:=XE false false false N t sQ (PX false false (by rw[f];exact fun k I=>by cases I)) (by rw[f,Hy];simp) (by rw[f];exact fun k I=>by cases I);rw[f]at u;obtain⟨y,i⟩:∃y,y=jH false false false 1 (([]:List (List Nat)).map sQ) (lG [] (-1)):=⟨_,rfl⟩
 rw[<-i]at u;obtain⟨c,A,C⟩:=XI (lG [] (-1)) false;have l:y=[80,81,0,1,0] ++ c:=by rw[i];exact A
 have a:y.length=9:=by rw[l,List.length_append,C];rfl
 have J:=dh (dn r (dn Q (dn l a)));unfold gY at u;clear N t f i A C r;go_wp2_with fail;refine u.mono ?_;clear u;rintro e p ⟨v,rfl,K,-,D⟩;obtain⟨g,X,O,R,S,E,P⟩:=K.row (by rw[a];decide);rw[a]at O E;subst O;have m:=K.sl.take 5 (by rw[q01,a];decide);have L:=(Keeps.refl (fun _=>False) p).alloc (.cells #[.int .u8 80,.int .u8 81,.int .u8 0,.int .u8 1,.int .u8 0] 5);have F:Sl .u8 (p.alloc (.cells #[.int .u8 80,.int .u8 81,.int .u8 0,.int .u8 1,.int .u8 0] 5)) (.slice (some ⟨p.heap.size,0,none⟩) 5 5) (dD [80,81,0,1,0]):=by refine⟨some ⟨p.heap.size,0,none⟩,5,rfl,by simp[dD],by decide,(fun h=>by cases h),fun j z q=>⟨p.heap.size,0,rfl,?_⟩⟩;have T:=dw (heap_alloc_new p (.cells #[.int .u8 80,.int .u8 81,.int .u8 0,.int .u8 1,.int .u8 0] 5)) (0+j);rw[T];have U:j<5:=iE q;rcases(show j=0\/j=1\/j=2\/j=3\/j=4 by omega)with rfl|rfl|rfl|rfl|rfl <;> (simp[dD]at q;subst q;rfl)
 have G:(dD y).take 5=dD [80,81,0,1,0]:=by rw[J.out.2.2.1];simp[dD]
 rw[G]at m;have o:=Tn _ _ _ _ _ (m.keeps L (fun _ _ h=>h)) F (by decide) (by decide);rw[decide_eq_true rfl]at o;have V:=dh ((J.out.1.trans D (fun x Y e=>by have:=J.out.2.1;omega)).trans L (fun _ _ h=>h));clear K m F G D L a l;go_wp2_with fail;refine o.mono ?_;clear o;rintro e Z ⟨rfl,rfl⟩;go_wp2_with fail;go_ret;exact⟨by simp,V.out⟩
end
section
open Go.RowKit
theorem XK:(Tryz.prog.info? 217).map (fun i=>(i.zero,i.size,i.bytes))=some (some (.agg #[.int .i64 0,.int .i64 0]),2,16):=by kernel_rfl
def qD(ps:List (Int × Int)):List Value:=ps.flatMap fun p=>[.int .i64 p.1,.int .i64 p.2]
theorem FN:∀ps:List (Int × Int),(qD ps).length=ps.length * 2
 | []=>rfl
 | p :: ps=>by simp only [qD,List.flatMap_cons,List.length_append,List.length_cons,List.length_nil]at *;have:=FN ps;simp only [qD]at this;omega
theorem P5(ps a:List (Int × Int)):qD (ps ++ a)=qD ps ++ qD a:=by simp[qD]
theorem P6:∀{ps:List (Int × Int)} {k:Nat} {p:Int × Int},ps[k]? = some p->(qD ps)[k * 2]? = some (.int .i64 p.1)/\(qD ps)[k * 2+1]? = some (.int .i64 p.2)
 | [],k,p,h=>by simp at h
 | q :: ps,0,p,h=>by simp only [List.getElem?_cons_zero,Option.some.injEq]at h;subst h;exact⟨rfl,rfl⟩
 | q :: ps,k+1,p,h=>by have:=P6 (ps:=ps) (k:=k) (p:=p) (by simpa using h);have e:qD (q :: ps)=.int .i64 q.1 :: .int .i64 q.2 :: qD ps:=rfl;rw[e,show (k+1) * 2=k * 2+1+1 by omega];simpa using this
theorem KG:∀{ps:List (Int × Int)} {k:Nat} {p:Int × Int} (z:Int),ps[k]? = some p->(qD ps).set (k * 2) (.int .i64 z)=qD (ps.set k (z,p.2))/\(qD ps).set (k * 2+1) (.int .i64 z)=qD (ps.set k (p.1,z))
 | [],k,p,z,h=>by simp at h
 | q :: ps,0,p,z,h=>by simp only [List.getElem?_cons_zero,Option.some.injEq]at h;subst h;exact⟨rfl,rfl⟩
 | q :: ps,k+1,p,z,h=>by obtain⟨a,b⟩:=KG (ps:=ps) (k:=k) (p:=p) z (by simpa using h);have e:∀l:List (Int × Int),qD (q :: l)=.int .i64 q.1 :: .int .i64 q.2 :: qD l:=fun _=>rfl;rw[List.set_cons_succ,List.set_cons_succ,e,e,e,show (k+1) * 2=k * 2+1+1 by omega];simp only [List.set_cons_succ];rw[a,b];exact⟨rfl,rfl⟩
def gP(B:Nat)(w:World)(v:Value)(ps:List (Int × Int)):Prop:=w.ownsRow B 217 2 v ps.length (qD ps)
theorem gP.keeps{B:Nat}{w w':World}{v:Value}{ps:List (Int × Int)}{F:Nat->Prop}(h:gP B w v ps)(k:Keeps F w w')(a:∀b,v.ownBlock=some b->¬F b):gP B w' v ps:=k.owns h a
theorem gP.lt{B:Nat}{w:World}{v:Value}{ps:List (Int × Int)}(h:gP B w v ps):∀k,v.ownBlock=some k->B<=k/\k<w.heap.size:=World.ownsRow.lt h
theorem gP.made(w:World)(x y:Int):gP w.heap.size (w.alloc (.cells #[.int .i64 x,.int .i64 y] 217)) (.slice (some ⟨w.heap.size,0,none⟩) 1 1) [(x,y)] :=
 ⟨rfl,.inr ⟨w.heap.size,1,_,rfl,Nat.le_refl _,heap_alloc_new w _,Nat.le_refl _,by unfold maxLen;omega,rfl,rfl⟩⟩
theorem gP.isS{B:Nat}{w:World}{v:Value}{ps:List (Int × Int)}(h:gP B w v ps)(i:0<ps.length):∃g cap,v=.slice (some ⟨g,0,none⟩) ps.length cap/\ps.length<=cap:=by
 rcases h.2 with⟨e,j⟩|⟨a,b,c,d,k,l,f,m,o,p⟩
 ·omega
 ·exact⟨a,b,d,f⟩
theorem gP.XL{B:Nat}{w:World}{v:Value}(h:gP B w v []):∃a cap,v=.slice a 0 cap:=by
 rcases h.2 with⟨e,d⟩|⟨f,i,b,c,j,k,l,m,o,p⟩
 ·exact⟨_,_,e⟩
 ·exact⟨_,_,c⟩
section
variable {B g n cap:Nat} {w:World} {ps:List (Int × Int)} (h:gP B w (.slice (some ⟨g,0,none⟩) n cap) ps)
include h
theorem gP.raw(l:0<ps.length):∃cur:Array Value,w.heap[g]? = some (.cells cur 217 (0,0))/\n=ps.length/\n<=cap/\cap<=maxLen/\cur.size=cap * 2/\cur.toList.take (n * 2)=qD ps/\B<=g:=by
 rcases h.2 with⟨e,m⟩|⟨o,p,a,b,c,d,f,i,j,k⟩
 ·omega
 ·simp only [Value.slice.injEq,Option.some.injEq,Addr.mk.injEq,and_true]at b;obtain⟨rfl,rfl,rfl⟩:=b;exact⟨a,d,rfl,f,i,j,k,c⟩
theorem gP.cell{k:Nat}{p:Int × Int}(b:ps[k]? = some p):w.cell? ⟨g,k * 2,none⟩=some (.int .i64 p.1)/\w.cell? ⟨g,k * 2+1,none⟩=some (.int .i64 p.2)/\w.frozen? ⟨g,k * 2,none⟩=false/\w.frozen? ⟨g,k * 2+1,none⟩=false:=by
 have i:k<ps.length:=by
  rcases Nat.lt_or_ge k ps.length with e|e
  ·exact e
  ·rw[List.getElem?_eq_none e]at b;cases b
 obtain⟨cur,a,j,l,m,o,f,-⟩:=h.raw (by omega);obtain⟨c,d⟩:=P6 b;rw[<-f]at c d;rw[List.getElem?_take_of_lt (by omega)]at c d;refine⟨?_,?_,dx a _,dx a _⟩
 ·rw[dw a,<-c];simp
 ·rw[dw a,<-d];simp
theorem gP.set1{k:Nat}{p:Int × Int}(a:ps[k]? = some p)(z:Int):gP B (w.setCell ⟨g,k * 2,none⟩ (.int .i64 z)) (.slice (some ⟨g,0,none⟩) n cap) (ps.set k (z,p.2)):=by
 have l:k<ps.length:=by
  rcases Nat.lt_or_ge k ps.length with e|e
  ·exact e
  ·rw[List.getElem?_eq_none e]at a;cases a
 obtain⟨cur,c,b,m,d,f,i,j⟩:=h.raw (by omega);refine⟨FN _,.inr ⟨g,cap,_,by rw[List.length_set,b],j,jM c _ _,by rw[List.length_set];omega,d,by rw[Array.size_setIfInBounds];exact f,?_⟩⟩;rw[Array.toList_setIfInBounds,List.length_set,List.take_set,<-b,i,(KG z a).1]
theorem gP.set2{k:Nat}{p:Int × Int}(a:ps[k]? = some p)(z:Int):gP B (w.setCell ⟨g,k * 2+1,none⟩ (.int .i64 z)) (.slice (some ⟨g,0,none⟩) n cap) (ps.set k (p.1,z)):=by
 have l:k<ps.length:=by
  rcases Nat.lt_or_ge k ps.length with e|e
  ·exact e
  ·rw[List.getElem?_eq_none e]at a;cases a
 obtain⟨cur,c,b,m,d,f,i,j⟩:=h.raw (by omega);refine⟨FN _,.inr ⟨g,cap,_,by rw[List.length_set,b],j,jM c _ _,by rw[List.length_set];omega,d,by rw[Array.size_setIfInBounds];exact f,?_⟩⟩;rw[Array.toList_setIfInBounds,List.length_set,List.take_set,<-b,i,(KG z a).2]
theorem gP.take(b:0<ps.length)(m:Nat)(k:m<=ps.length):gP B w (.slice (some ⟨g,0,none⟩) m cap) (ps.take m):=by
 obtain⟨cur,c,l,o,d,f,i,j⟩:=h.raw b;have a:(ps.take m).length=m:=by rw[List.length_take];omega
 refine⟨FN _,.inr ⟨g,cap,cur,by rw[a],j,c,by rw[a];omega,d,f,?_⟩⟩;rw[a];have e:qD ps=qD (ps.take m) ++ qD (ps.drop m):=by rw[<-P5,List.take_append_drop]
 have:cur.toList.take (m * 2)=(qD ps).take (m * 2):=by rw[<-i,List.take_take,Nat.min_eq_left (by omega)]
 rw[this,e,List.take_left' (by rw[FN,a])]
end
theorem XM(w:World)(x y:Int):∀(j:Nat) (u:Value),[Value.int .i64 x,.int .i64 y][j]? = some u->(w.alloc (.cells #[.int .i64 x,.int .i64 y] 217)).cell? ((⟨w.heap.size,0,none⟩:Addr).add j)=some u:=fun j u a=>by rw[Addr.add_lit,dw (heap_alloc_new w _),Nat.zero_add,<-a];rcases j with _|_|j <;> rfl
theorem XO{d:Array Oper}{rest:List Oper}{o:Oper}{a:Act}{Q:Exit->Act->World->Prop}{wr:World}(n:Nat)(f:o.guard=none)(s x:Operand)
  (A:o.op=.call { callee:=.builtin .append,args:=#[s,x],argTypes:=#[252,252] })(B:Nat)(v:Value)(ps:List (Int × Int))(j l:Int)(m:Hid (ps.length=n))(H:Nat)(C:wr.heap.size=H)(D:a.eval s=v)(E:a.eval x=.slice (some ⟨H,0,none⟩) 1 1)
  (e:gP B wr v ps)(y:n<=100000000)(I:B<=wr.heap.size)
  (h:∀g cap w',gP B w' (.slice (some ⟨g,0,none⟩) (n+1) cap) (ps ++ [(j,l)])->Keeps (fun k=>v.ownBlock=some k) wr w'->(v.ownBlock=some g\/wr.heap.size<=g) ->
   wpList Tryz.prog d Q rest (a.put o.dst (.slice (some ⟨g,0,none⟩) (n+1) cap)) w') :
  wpList Tryz.prog d Q (o :: rest) a (wr.alloc (.cells #[.int .i64 j,.int .i64 l] 217)):=by
 obtain⟨i,F,p,q,r⟩:=info_parts XK;have m:=m.out;subst m;subst C;refine wpList_append_lies _ f s x _ A B 217 i _ 2 16 Tryz.underlying252 F p q r rfl (by decide) v ps.length _ D (World.ownsRow.alloc e _) ⟨wr.heap.size,0,none⟩ 1 1 [.int .i64 j,.int .i64 l] E rfl (XM _ _ _) ?_ (by decide) ?_ ?_ ?_ (wr.heap.size+1) (by simp) ?_
 ·intro u z;simp at z;rcases z with rfl|rfl <;> rfl
 ·unfold maxLen;omega
 ·omega
 ·simp;omega
 ·intro g cap w1 b c t _;refine h g cap w1 ?_ (((Keeps.refl _ wr).alloc _).grown c (fun k G=>.inl G)) (t.imp id (fun h=>by omega));unfold gP;rw[List.length_append,P5];exact b
end
