import Derived.Test.YtalhcfjcbbkpgaaGreatZt1c
set_option maxRecDepth 100000
set_option maxHeartbeats 4000000
namespace Go.Proofs.YtalhcfjcbbkpgaaGreat
section
theorem Qe{k:List Nat}(h:gB k):(uw k).1.length<=4 * k.length/\(uw k).2<=k.length:=by
 have a:=oL k;have c:=h.wd.gL;unfold uw;split
 ·next d =>
  have:=d.uo c (by rw[a];exact h.wd.lM);have b:=nY (sg (dM k)) (dM k).length;rw[a]at this b;exact⟨by show (qF (dM k)).length<=_;omega,by rw[a];exact b⟩
 ·exact⟨by simp,Nat.zero_le _⟩
theorem KN:∀{ks:List (List Nat)},jL ks->eX (ks.map uw)<=4 * ks.flatten.length
 | [],_=>by simp[eX]
 | k :: ks,h=>by have b:=(Qe (h k (by simp)).1).1;have a:=KN (ks:=ks) (fun q hq=>h q (by simp[hq]));simp only [List.map_cons,eX,List.sum_cons,List.flatten_cons,List.length_append]at a ⊢;omega
end
section
section
variable {p q:List Nat} (hp:dU p.length (sg p)) (hq:dU q.length (sg q))
include hp hq
theorem FX:dY (sg (fV p q)) (fV p q).length=dY (sg p) p.length+dY (sg q) q.length:=by
 unfold dY;rw[yJ];refine VX _ _ _ (fun x a=>?_) (fun x a=>?_)
 ·rw[VQ hp hq a]
 ·rw[VR hp hq a];by_cases e:rep (sg q) x=x
  ·rw[e];simp
  ·rw[beq_eq_false_iff_ne.2 e,beq_eq_false_iff_ne];omega
end
theorem Qf:∀{ks:List (List Nat)},jL ks->dY (sg (iy (ks.map dM))) (iy (ks.map dM)).length=(ks.map fun k=>dY (sg (dM k)) (dM k).length).sum
 | [],_=>rfl
 | k :: ks,h=>by have a:jL ks:=fun x b=>h x (by simp[b]);rw[List.map_cons,JW,FX (h k (by simp)).1.wd.gL (G8 a),Qf a];simp
theorem qc3:∀{ks:List (List Nat)},jL ks->(∀k ∈ ks,jl (dM k) 0)->eX (ks.map uw)<=4 * (ks.map fun k=>dY (sg (dM k)) (dM k).length).sum
 | [],_,_=>by simp[eX]
 | k :: ks,h,a=>by have d:=qc3 (ks:=ks) (fun x b=>h x (by simp[b])) (fun x b=>a x (by simp[b]));have c:=(h k (by simp)).1.wd;have f:=(a k (by simp)).uo c.gL (by rw[oL];exact c.lM);have e:=KM (a k (by simp));simp only [List.map_cons,eX,List.sum_cons]at d ⊢;rw[e];simp only;omega
theorem qc4{s:List Nat}{rt:Int}{ln:Nat}(g:dU s.length (sg s))(i:s.length % 2=0)(j:fU (jG s ln)=0)(c:(s.length=0/\rt=-1)\/(0<=rt/\rt<s.length))(l:∀k ∈ eu s rt,jl (dM k) 0) :
  eX ((eu s rt).map uw)<=4 * dY (sg s) s.length:=by
 obtain⟨d,a,-,e,-,f,-⟩:=FK g i j c;have b:=qc3 d l;rw[<-Qf d]at b;have h:=G8 d;have m:(iy ((eu s rt).map dM)).length=s.length:=by rw[E8,a]
 rw[m]at b h;rw[Bq h g e f]at b;exact b
theorem Ya(a:Bool)(l:List Bool){c:Nat}(h:(l.length+7) / 8 * 8<=l.length+c):8 * (mP a l).length<=l.length+c+8:=by have:=Kr a l;omega
theorem Qg(a:Bool)(q:List Bool × Nat){c:Nat}(hq:q.2<128)(h:(q.1.length+7) / 8 * 8<=q.1.length+c):8 * (kZ a q).length<=q.1.length+c+16:=by have b:=Ya a q.1 h;unfold kZ;rw[zR hq,List.length_append,List.length_singleton];omega
theorem Qh(a:Bool)(b:List Nat->List Bool × Nat):∀(ks:List (List Nat)),(∀k ∈ ks,8 * (kZ a (b k)).length<=(b k).1.length+10 * k.length)->8 * (rD a (ks.map b)).length<=eX (ks.map b)+10 * ks.flatten.length
 | [],_=>by simp[rD]
 | k :: ks,h=>by have e:=h k (by simp);have c:=Qh a b ks (fun x d=>h x (by simp[d]));simp only [List.map_cons,eX,rD,List.sum_cons,List.flatMap_cons,List.flatten_cons,List.length_append]at c ⊢;omega
theorem Qi:∀{ks:List (List Nat)},jL ks->ks.length<=ks.flatten.length
 | [],_=>Nat.le_refl _
 | k :: ks,h=>by have:=(h k (by simp)).2;have b:=Qi (ks:=ks) (fun x a=>h x (by simp[a]));simp only [List.length_cons,List.flatten_cons,List.length_append];omega
theorem Qj(t p:Bool)(a:List Nat->List Bool × Nat){ks:List (List Nat)}(lab:List Bool)(b:jL ks)(c:ks.flatten.length<=42)(h:∀k ∈ ks,8 * (kZ p (a k)).length<=(a k).1.length+10 * k.length) :
  (jH t p false 0 (ks.map a) lab).length<=(eX (ks.map a)+7) / 8+64/\4<=(jH t p false 0 (ks.map a) lab).length:=by
 have d:=Qh p a ks h;have e:=Qi b;unfold jH qz;rw[zR (x:=0) (by decide),List.length_map,zR (x:=ks.length) (by omega)];simp only [List.length_append,List.length_cons,List.length_nil,four,if_neg Bool.false_ne_true];omega
theorem Yb(p:Bool){k:List Nat}(h:gB k/\0<k.length)(a:k.length<=42):8 * (kZ p (sQ k)).length<=(sQ k).1.length+10 * k.length:=by have b:=h.1.wd.lM;have d:=Qg p (sQ k) (c:=4) (by show k.length / 2<128;omega) (by show ((jE k).length+7) / 8 * 8<=(jE k).length+4;rw[Gq];omega);have:=h.2;omega
theorem Yc(p:Bool){k:List Nat}(h:gB k/\0<k.length)(a:jl (dM k) 0)(b:k.length<=42):8 * (kZ p (uw k)).length<=(uw k).1.length+10 * k.length:=by have d:=a.1;have f:=nY (sg (dM k)) (dM k).length;have e:=oL k;have g:=Qg p (uw k) (c:=7) (by rw[KM a];show dY (sg (dM k)) (dM k).length<128;omega) (by omega);omega
end
section
def uR(s:List Nat)(j x:Nat):Prop:=dB (sg s) x=eA s j/\dB (sg s) (mt x)=eB s j
open Classical in
noncomputable def l8(s:List Nat):Nat->Nat
 | 0=>0
 | j+1=>l8 s j+if (∃x,x<2 * j/\uR s j x)/\eA s j≠eB s j then 1 else 0
theorem KO(s:List Nat):∀j,l8 s j<=j
 | 0=>Nat.le_refl _
 | j+1=>by have:=KO s j;unfold l8;split <;> omega
theorem Qk{s:List Nat}:∀{j},l8 s j=0->∀f,f<j->eA s f≠eB s f->∀x,x<2 * f->¬uR s f x
 | 0,_,f,c,_,_,_=>by omega
 | j+1,h,f,c,a,x,b=>by
  unfold l8 at h;by_cases e:f=j
  ·subst e;intro d;rw[if_pos ⟨⟨x,b,d⟩,a⟩]at h;omega
  ·exact Qk (j:=j) (by omega) f (by omega) a x b
theorem Yd{s:List Nat}{j:Nat}(h:l8 s j=0):lF s j=0:=by
 rw[DU];intro e f k b l d m;have a:=Qk h f b d;have g:mt (2 * e)=2 * e+1:=by unfold mt;rw[if_pos (by omega)]
 have i:mt (2 * e+1)=2 * e:=by unfold mt;rw[if_neg (by omega)];omega
 by_cases c:eA s e=eA s f
 ·exact a (2 * e) (by omega) ⟨c,by rw[g];show eB s e=_;omega⟩
 ·exact a (2 * e+1) (by omega) ⟨by show eB s e=_;omega,by rw[i];show eA s e=_;omega⟩
end
section
open Go.RowKit Go.ChangeShapes Go.WideShapes
theorem Ye{H:Type}{j:TypeId × Value->H}{P:Program}{w:World}{base:Nat}{g:Bool}{t e:TypeId}{i:Nat}{o:List Value}{x:DataW H × List MemPlace}(s:P.underlying t=some (.slice e))(u:P.underlying e=some (.int .u8))(v:P.cellsOf e=1)
  (h:DataW.trod j P w base (fun _=>true) g i t o=some x):∃(r:Value) (ps:List Nat),o=[r]/\Sl .u8 w r (dD ps)/\∀b ∈ ps,b<256:=by
 rcases open_ints s u v h with⟨d,_⟩|⟨y,l,c,zs,d,_,z,A,B,_,f,k⟩
 ·obtain⟨ps,m,n⟩:=qU.bytes (w:=w) (a:=none) (len:=0) (cap:=0) (zs:=[]) (.inl ⟨rfl,rfl,rfl,rfl⟩);exact⟨_,ps,d,m,n⟩
 ·obtain⟨ps,m,n⟩:=qU.bytes (.inr ⟨y,rfl,z,A,by simpa using B,f,k⟩);exact⟨_,ps,d,m,n⟩
theorem KP{H:Type}{c:TypeId × Value->H}{P:Program}{w:World}{base:Nat}{a:Bool}{t:TypeId}{b:Nat}{e:List Value}{x:DataW H × List MemPlace}(f:P.underlying t=some (.int .u8))
  (h:DataW.trod c P w base (fun _=>true) a b t e=some x):∃k:Nat,e=[.int .u8 k]/\k<256:=by
 obtain⟨n,d,_,g⟩:=DataW.trod_int f h;obtain⟨k,rfl,i⟩:=u8_in g;exact⟨k,d,i⟩
end
section
open Go.RowKit Go.ChangeShapes Go.WideShapes
def SomeV(w:World)(v:Value):Prop:=∃(k m r:Nat) (a:Value) (ps:List Nat),v=.agg #[.int .u8 k,.int .u8 m,a,.int .u8 r]/\k<256/\m<256/\r<256/\Sl .u8 w a (dD ps)/\∀b ∈ ps,b<256
theorem somev_in{H:Type}{k:TypeId × Value->H}{P:Program}{w:World}{base:Nat}{a:Bool}{e s:TypeId}{d f g i:Field}{b:Nat}{o:List Value}{j:Array Value}{x:DataW H × List MemPlace}
  (C:P.underlying e=some (.struct #[d,f,g,i]))(D:P.cellsOf e=4)(E:d.offset=0)(F:f.offset=1)(G:g.offset=2)(I:i.offset=3)
  (u0:P.underlying d.type=some (.int .u8))(u1:P.underlying f.type=some (.int .u8))(u2:P.underlying g.type=some (.slice s))(J:P.underlying s=some (.int .u8))(u3:P.underlying i.type=some (.int .u8))
  (K:P.cellsOf d.type=1)(L:P.cellsOf f.type=1)(M:P.cellsOf g.type=1)(N:P.cellsOf i.type=1)(O:P.cellsOf s=1)(c:j.size=P.cellsOf e)
  (h:DataW.trod k P w base (fun _=>true) a b e o=some x)(m:o=j.toList):SomeV w (.agg j):=by
 subst m;rw[D]at c;obtain⟨Y,Z,y2,y3,n',_,_,r,t,u,v⟩:=Go.Joins.trod_struct4 C h;obtain⟨l⟩:=j
 match l,c with
 | [v0,v1,Q,v3],_ =>
  simp[E,F,G,I,K,L,M,N]at r t u v;obtain⟨R,y,S⟩:=KP u0 r;obtain⟨T,z,U⟩:=KP u1 t;obtain⟨bv,ps,A,V,n⟩:=Ye u2 J O u;obtain⟨W,B,X⟩:=KP u3 v;simp only [List.cons.injEq,and_true]at y z A B;subst y z A B;exact⟨R,T,W,Q,ps,rfl,S,U,X,V,n⟩
end
