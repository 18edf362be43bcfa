import Derived.Test.YtalhcfjcbbkpgaaGreatZp1e
set_option maxRecDepth 100000
set_option maxHeartbeats 4000000
namespace Go.Proofs.YtalhcfjcbbkpgaaGreat
section
theorem Pn{k:List Nat}(h:gH k):(yU k).1.length<=4 * k.length/\(yU k).2<=k.length:=by
 have a:=pG k;have c:=h.wd.iD;unfold yU;split
 ·next d =>
  have:=d.yC c (by rw[a];exact h.wd.mD);have b:=oV (sg (dN k)) (dN k).length;rw[a]at this b;exact⟨by show (qA (dN k)).length<=_;omega,by rw[a];exact b⟩
 ·exact⟨by simp,Nat.zero_le _⟩
theorem Po:∀{ks:List (List Nat)},kJ ks->fC (ks.map yU)<=4 * ks.flatten.length
 | [],_=>by simp[fC]
 | k :: ks,h=>by have c:=(Pn (h k (by simp)).1).1;have a:=Po (ks:=ks) (fun q b=>h q (by simp[b]));simp only [List.map_cons,fC,List.sum_cons,List.flatten_cons,List.length_append]at a ⊢;omega
end
section
open Go.RowKit Go.ChangeShapes Go.WideShapes
theorem Xz{H:Type}{j:TypeId × Value->H}{P:Program}{w:World}{base:Nat}{g:Bool}{t e:TypeId}{i:Nat}{o:List Value}{x:DataW H × List MemPlace}(q:P.underlying t=some (.slice e))(r:P.underlying e=some (.int .u8))(s:P.cellsOf e=1)
  (h:DataW.trod j P w base (fun _=>true) g i t o=some x):∃(p:Value) (ps:List Nat),o=[p]/\Sl .u8 w p (dD ps)/\∀b ∈ ps,b<256:=by
 rcases open_ints q r s h with⟨d,_⟩|⟨y,l,c,zs,d,_,u,v,z,_,f,k⟩
 ·obtain⟨ps,m,n⟩:=RowIn.bytes (w:=w) (a:=none) (len:=0) (cap:=0) (zs:=[]) (.inl ⟨rfl,rfl,rfl,rfl⟩);exact⟨_,ps,d,m,n⟩
 ·obtain⟨ps,m,n⟩:=RowIn.bytes (.inr ⟨y,rfl,u,v,by simpa using z,f,k⟩);exact⟨_,ps,d,m,n⟩
theorem J6{H:Type}{c:TypeId × Value->H}{P:Program}{w:World}{base:Nat}{a:Bool}{t:TypeId}{b:Nat}{e:List Value}{x:DataW H × List MemPlace}(f:P.underlying t=some (.int .u8))
  (h:DataW.trod c P w base (fun _=>true) a b t e=some x):∃k:Nat,e=[.int .u8 k]/\k<256:=by
 obtain⟨n,d,_,g⟩:=DataW.trod_int f h;obtain⟨k,rfl,i⟩:=u8_in g;exact⟨k,d,i⟩
end
section
open Go.RowKit Go.ChangeShapes Go.WideShapes
def SomeV(w:World)(v:Value):Prop:=∃(k m r:Nat) (a:Value) (ps:List Nat),v=.agg #[.int .u8 k,.int .u8 m,a,.int .u8 r]/\k<256/\m<256/\r<256/\Sl .u8 w a (dD ps)/\∀b ∈ ps,b<256
theorem somev_in{H:Type}{k:TypeId × Value->H}{P:Program}{w:World}{base:Nat}{a:Bool}{e s:TypeId}{d f g i:Field}{b:Nat}{o:List Value}{j:Array Value}{x:DataW H × List MemPlace}
  (A:P.underlying e=some (.struct #[d,f,g,i]))(B:P.cellsOf e=4)(C:d.offset=0)(D:f.offset=1)(E:g.offset=2)(F:i.offset=3)
  (u0:P.underlying d.type=some (.int .u8))(u1:P.underlying f.type=some (.int .u8))(u2:P.underlying g.type=some (.slice s))(G:P.underlying s=some (.int .u8))(u3:P.underlying i.type=some (.int .u8))
  (I:P.cellsOf d.type=1)(J:P.cellsOf f.type=1)(K:P.cellsOf g.type=1)(L:P.cellsOf i.type=1)(M:P.cellsOf s=1)(c:j.size=P.cellsOf e)
  (h:DataW.trod k P w base (fun _=>true) a b e o=some x)(m:o=j.toList):SomeV w (.agg j):=by
 subst m;rw[B]at c;obtain⟨W,X,Y,Z,n',_,_,p,q,r,t⟩:=Go.Joins.trod_struct4 A h;obtain⟨l⟩:=j
 match l,c with
 | [v0,v1,N,v3],_ =>
  simp[C,D,E,F,I,J,K,L]at p q r t;obtain⟨O,u,Q⟩:=J6 u0 p;obtain⟨R,v,S⟩:=J6 u1 q;obtain⟨bv,ps,y,T,n⟩:=Xz u2 G M r;obtain⟨U,z,V⟩:=J6 u3 t;simp only [List.cons.injEq,and_true]at u v y z;subst u v y z;exact⟨O,R,U,N,ps,rfl,Q,S,V,T,n⟩
end
