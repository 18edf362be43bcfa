import Derived.Test.YtalhcfjcbbkpgaaGreatZp1f
set_option maxRecDepth 100000
set_option maxHeartbeats 4000000
namespace Go.Proofs.YtalhcfjcbbkpgaaGreat
section
open Go.RowKit
def Fv(t:Bool)(k:List Nat):Prop:=t=true->kK (dN k) 0
noncomputable def DF(t:Bool)(k:List Nat):List Bool × Nat:=if t then yU k else wE k
theorem XA(t p l:Bool){ks:List (List Nat)}(h:kJ ks):yg t p l (Fv t) (DF t) ks:=by
 cases t
 ·intro k a W b c d;exact⟨fun _=>(OW p l h).AZ k a W b c d,fun j=>absurd (fun e=>by cases e) j⟩
 ·intro k a W b c d;have i:=Xy p l ks k a W b c d;exact⟨fun g=>i.1 (g rfl),fun g=>i.2 (fun m=>g (fun _=>m))⟩
open Classical in
noncomputable def j4(t:Bool)(s:List Nat)(rt:Int)(ln:Nat):Nat:=if fV (jN s ln)=0 then (if ∀k ∈ dY s rt,Fv t k then 0 else 8)else 7
noncomputable def jS(t p l:Bool)(s:List Nat)(rt:Int)(ln:Nat):List Nat:=if j4 t s rt ln=0 then jJ t p l ln ((dY s rt).map (DF t)) (jR s rt)else []
noncomputable def encZ(t l:Bool)(s:List Nat)(rt:Int)(ln:Nat):Nat:=if j4 t s rt ln=0 then fC ((dY s rt).map (DF t))+(if l then (jR s rt).length else 0)else 0
theorem J7{t:Bool}{s:List Nat}{rt:Int}{ln:Nat}:j4 t s rt ln=0↔fV (jN s ln)=0/\∀k ∈ dY s rt,Fv t k:=by
 unfold j4;by_cases h:fV (jN s ln)=0
 ·by_cases k:∀k ∈ dY s rt,Fv t k
  ·rw[if_pos h,if_pos k];exact⟨fun _=>⟨h,k⟩,fun _=>rfl⟩
  ·rw[if_pos h,if_neg k];exact⟨fun e=>by omega,fun e=>absurd e.2 k⟩
 ·rw[if_neg h];exact⟨fun e=>by omega,fun e=>absurd e.1 h⟩
def yD(w:World)(b:Nat)(s:List Nat)(rt ln:Int)(R:Nat->Prop)(w':World):Prop:=(∃a,MapAt w' b s rt ln a/\∀x,a x->R x\/w.heap.size<=x)/\Keeps (fun k=>k=b) w w'
theorem XB{w:World}{b:Nat}{s:List Nat}{rt:Int}{ln:Nat}{R:Nat->Prop}(t p l:Bool)(h:MapAt w b s rt ln R)(g:¬fV (jN s ln)=0) :
  Calls Tryz.prog 45 #[.pointer (some ⟨b,0,none⟩),iL t p l] w fun e w'=>e=.returned (.tuple #[.slice none 0 0,.int .i64 0,.int .i64 7])/\yD w b s rt ln R w':=by
 have i:∀(x:Bool) (w:World),(Op.unary .not (.bool x)).run Tryz.prog w=.ok (.bool (!x)) w:=fun _ _=>rfl;have d:=(Keeps.refl (fun _=>False) w).alloc (.cells #[.bool t,.bool p,.bool l] 35);have j:=h.keeps d (fun h=>h) (fun _ _ h=>h);have a:=EB (l:=ln) j;rw[decide_eq_false g]at a;have k:=dh d;clear h j g d;unfold iL;go_enter Tryz.func45,Tryz.ntmps45;go_wp2_with fail;refine a.mono ?_;clear a;rintro e w1 ⟨rfl,c⟩;have m:Hid (yD w b s rt ln R w1):=dh ⟨⟨_,c.1,fun x n=>n.imp id (fun h=>by have:=k.out.size;have o:=h.1;omega)⟩,(show Keeps (fun x=>x=b) w _ from k.out.mono (fun _ _ h=>h.elim)).trans c.2 (fun _ _ h=>h)⟩;clear c;go_wp2_with fail;refine bodyPost_ret (v:=.tuple #[.slice none 0 0,.int .i64 0,.int .i64 7]) (by simp[results,Tryz.results45,go_sem]) rfl ?_;exact⟨rfl,m.out⟩
theorem XC{w:World}{b:Nat}{s:List Nat}{rt:Int}{ln:Nat}{R:Nat->Prop}(t p l:Bool)(h:MapAt w b s rt ln R) :
  Calls Tryz.prog 45 #[.pointer (some ⟨b,0,none⟩),iL t p l] w fun e w'=>∃v,e=.returned (.tuple #[v,.int .i64 (encZ t l s rt ln:Nat),.int .i64 (j4 t s rt ln:Nat)])/\dZ w.heap.size w' v (jS t p l s rt ln)/\yD w b s rt ln R w':=by
 by_cases a:fV (jN s ln)=0
 ·obtain⟨d,n,-⟩:=GU h.dR h.even a h.rt;have o:=h.le
  have q:fC ((dY s rt).map (DF t))<=1000000:=by
   cases t
   ·have:=JQ (dY s rt);show fC ((dY s rt).map wE)<=_;omega
   ·have:=Po d;show fC ((dY s rt).map yU)<=_;omega
  have u:∀k ∈ dY s rt,(DF t k).2<=1000000:=fun k c=>by
   have B:=WA c;cases t
   ·show k.length / 2<=_;omega
   ·have:=(Pn (d k c).1).2;show (yU k).2<=_;omega
  refine(OQ t p l h a (Fv t) (DF t) (XA t p l d) q u).mono ?_;rintro e w' (⟨g,v,rfl,z,i,c⟩|⟨⟨k,j,m⟩,rfl,i,c⟩)
  ·have hc:j4 t s rt ln=0:=J7.2 ⟨a,g⟩;unfold encZ jS;rw[if_pos hc,if_pos hc,hc];exact⟨v,rfl,z,i,c⟩
  ·have hc:j4 t s rt ln=8:=by unfold j4;rw[if_pos a,if_neg (fun h=>m (h k j))]
   unfold encZ jS;rw[hc,if_neg (by decide),if_neg (by decide)];exact⟨_,rfl,dZ.nil _ _,i,c⟩
 ·refine(XB t p l h a).mono ?_;rintro e w' ⟨rfl,A⟩;have hc:j4 t s rt ln=7:=by unfold j4;rw[if_neg a]
  unfold encZ jS;rw[hc,if_neg (by decide),if_neg (by decide)];exact⟨_,rfl,dZ.nil _ _,A⟩
theorem XD{w:World}{b:Nat}{s:List Nat}{rt:Int}{ln:Nat}{R:Nat->Prop}(t p l:Bool)(h:MapAt w b s rt ln R) :
  Calls Tryz.prog 12 #[.pointer (some ⟨b,0,none⟩),iL t p l] w fun e w'=>∃v,e=.returned (.tuple #[v,.int .i64 (j4 t s rt ln:Nat)])/\dZ w.heap.size w' v (jS t p l s rt ln)/\yD w b s rt ln R w':=by
 have d:=(Keeps.refl (fun _=>False) w).alloc (.cells #[.bool t,.bool p,.bool l] 35);have g:=XC t p l (h.keeps d (fun h=>h) (fun _ _ h=>h));have i:=dh d;clear h d;generalize j4 t s rt ln=c at *;generalize encZ t l s rt ln=z at *;generalize jS t p l s rt ln=fs at *;unfold iL at g ⊢;go_enter Tryz.func12,Tryz.ntmps12;go_wp2_with fail;refine g.mono ?_;clear g;rintro e w1 ⟨v,rfl,j,⟨o,m,a⟩,n⟩;have u:Hid (dZ w.heap.size w1 v fs/\yD w b s rt ln R w1):=dh ⟨j.mono (fun q A=>by have C:=(j.lt q A).1;have:=i.out.size;omega),⟨o,m,fun x B=>(a x B).imp id (fun h=>by have:=i.out.size;omega)⟩,(i.out.mono (fun _ _ h=>h.elim):Keeps (fun k=>k=b) w _).trans n (fun _ _ h=>h)⟩;clear j n m a;go_wp2_with fail;refine bodyPost_ret (v:=.tuple #[v,.int .i64 (c:Nat)]) (by simp[results,Tryz.results12,go_sem]) rfl ?_;exact⟨v,rfl,u.out⟩
end
section
structure su (s t:List Nat)(f:Nat->Nat):Prop where
 len:t.length=s.length
 dR:dO s.length f
 turn:∀d,d<s.length->sg t (f d)=f (sg s d)
 mate:∀d,d<s.length->f (mt d)=mt (f d)
section
variable {s t:List Nat} {f:Nat->Nat} (hP:dO s.length (sg s)) (he:s.length % 2=0) (hQ:dO t.length (sg t)) (h:su s t f)
include hP h
theorem su.itr{d:Nat}(a:d<s.length):∀k,itr (sg t) k (f d)=f (itr (sg s) k d)
 | 0=>rfl
 | k+1=>by show sg t (Go.Proofs.YtalhcfjcbbkpgaaGreat.itr (sg t) k (f d))=f (sg s (Go.Proofs.YtalhcfjcbbkpgaaGreat.itr (sg s) k d));rw[su.itr a k,h.turn _ (hP.dW a k)]
include hQ in
theorem su.vnum{x y:Nat}(a:x<s.length)(b:y<s.length):vnum (sg t) (f x)=vnum (sg t) (f y)↔vnum (sg s) x=vnum (sg s) y:=by
 have c:=h.len;rw[hQ.eT (by rw[c];exact h.dR.lt _ a) (by rw[c];exact h.dR.lt _ b),hP.eT a b];constructor
 ·rintro⟨k,hk⟩;rw[h.itr hP a k]at hk;exact⟨k,h.dR.inj _ _ (hP.dW a k) b hk⟩
 ·rintro⟨k,hk⟩;exact⟨k,by rw[h.itr hP a k,hk]⟩
include he in
theorem su.conn{x z:Nat}(d:x<s.length):dI t.length (sg t) (f x) z↔∃y,z=f y/\y<s.length/\dI s.length (sg s) x y:=by
 constructor
 ·intro hc;refine hc (fun z=>∃y,z=f y/\y<s.length/\dI s.length (sg s) x y) ⟨x,rfl,d,dI.refl _ _ _⟩ (fun z _ a=>?_);obtain⟨y,rfl,b,hc⟩:=a;exact⟨⟨_,h.turn y b,hP.lt y b,hc.trans (dI.turn b)⟩,⟨_,(h.mate y b).symm,dQ he b,hc.trans (dI.mate b)⟩⟩
 ·rintro⟨y,rfl,b,hc⟩;refine(hc (fun z=>z<s.length/\dI t.length (sg t) (f x) (f z)) ⟨d,dI.refl _ _ _⟩ (fun z a k=>?_)).2;have c:f z<t.length:=by rw[h.len];exact h.dR.lt z a
  refine⟨⟨hP.lt z a,?_⟩,⟨dQ he a,?_⟩⟩
  ·rw[<-h.turn z a];exact k.2.trans (dI.turn c)
  ·rw[h.mate z a];exact k.2.trans (dI.mate c)
include he hQ in
theorem su.wK{r:Nat}(hr:r<s.length):wK t (f r)=wK s r:=by have c:=(GH hP he hr).1;obtain⟨d,g⟩:=iV.map (n:=t.length) (S:=sg t) (v:=Go.Proofs.YtalhcfjcbbkpgaaGreat.vnum (sg t)) (f:=f) hP he h.turn h.mate (fun x y a b e=>h.dR.inj _ _ a b e) (fun x y a b=>h.vnum hP hQ a b) hr (by rw[h.len];exact Nat.le_refl _) (fun x a=>by rw[h.len];exact h.dR.lt x a) (fun z=>h.conn hP he hr) c;rw[d.AQ,g];rfl
end
theorem Pq{s:List Nat}{r:Nat}(hr:r<s.length)(hc:∀x,x<s.length->dI s.length (sg s) r x):dY s (r:Nat)=[wK s r]:=by have e:(lD s r).tail=[]:=List.eq_nil_iff_forall_not_mem.2 (fun d g=>by obtain⟨a,-,c⟩:=EO g;exact c (hc d a));have b:lD s r=r :: (lD s r).tail:=rfl;unfold dY fP;rw[if_neg (by omega),Int.toNat_natCast,b,e];rfl
theorem XE{s t:List Nat}{f:Nat->Nat}(hP:dO s.length (sg s))(he:s.length % 2=0)(hQ:dO t.length (sg t))(h:su s t f)(j:0<s.length)(hc:∀x y,x<s.length->y<s.length->dI s.length (sg s) x y):fV (jN t 0)=fV (jN s 0):=by
 have e:=h.len;have c:t.length % 2=0:=by rw[e];exact he
 have k:∀x,x<t.length->dI t.length (sg t) 0 x:=fun x i=>by rw[e]at i;obtain⟨a,n,A⟩:=h.dR.back j;obtain⟨b,o,rfl⟩:=h.dR.back i;rw[<-A];exact(h.conn hP he n).2 ⟨b,rfl,o,hc a b n o⟩
 have B:=Gw hP he j (fun x i=>hc 0 x j i);have C:=Gw hQ c (by omega) k;rw[EC hP he B,EC hQ c C,e];have l:dO s.length (sg t):=by rw[<-e];exact hQ
 have D:eu (sg t) s.length=eu (sg s) s.length:=Dn l hP h.dR h.turn;have p:∀{u:List Nat} (q:dO u.length (sg u)) (v:u.length % 2=0),dO u.length (sg (dS u)):=fun q v=>by have:=F3 q v;rwa [oD]at this
 have w:∀{u:List Nat} {d:Nat},d<u.length->sg (dS u) d=sg u (mt d):=fun g=>by simp[sg,dS,g]
 have E:eu (sg (dS t)) s.length=eu (sg (dS s)) s.length:=by have z:=p hQ c;rw[e]at z;refine Dn z (p hP he) h.dR (fun d g=>?_);have m:=h.dR.lt d g;rw[w (by rw[e];exact m),w g,<-h.mate d g,h.turn _ (dQ he g)]
 rw[D,E]
theorem XF(u p:Bool)(ln:Nat)(a:List (List Bool × Nat))(l m:List Bool):jJ u p false ln a l=jJ u p false ln a m:=by unfold jJ oJ;rw[if_neg Bool.false_ne_true,if_neg Bool.false_ne_true]
section
variable {s t:List Nat} {f:Nat->Nat} (hP:dO s.length (sg s)) (he:s.length % 2=0) (hQ:dO t.length (sg t)) (h:su s t f) (hc:∀x y,x<s.length->y<s.length->dI s.length (sg s) x y) {rt oL:Int} (hr:(s.length=0/\rt=-1/\oL=-1)\/∃r:Nat,r<s.length/\rt=r/\oL=(f r:Nat))
include hP he hQ h hc hr
theorem Pv:dY t oL=dY s rt/\fV (jN t 0)=fV (jN s 0):=by
 rcases hr with⟨c,rfl,rfl⟩|⟨r,hr,rfl,rfl⟩
 ·have g:s=[]:=List.eq_nil_of_length_eq_zero c;have i:t=[]:=List.eq_nil_of_length_eq_zero (by rw[h.len];exact c);rw[g,i];exact⟨rfl,rfl⟩
 ·have a:f r<t.length:=by rw[h.len];exact h.dR.lt r hr
  rw[Pq hr (fun x j=>hc r x hr j),Pq a (fun z d=>by rw[h.len]at d;obtain⟨b,e,rfl⟩:=h.dR.back d;exact(h.conn hP he hr).2 ⟨b,rfl,e,hc r b hr e⟩),h.wK hP he hQ hr];exact⟨rfl,XE hP he hQ h (by omega) hc⟩
theorem XG(u p:Bool):j4 u t oL 0=j4 u s rt 0/\jS u p false t oL 0=jS u p false s rt 0:=by
 obtain⟨a,c⟩:=Pv hP he hQ h hc hr;have b:j4 u t oL 0=j4 u s rt 0:=by unfold j4;rw[a,c]
 refine⟨b,?_⟩;unfold jS;rw[b,a,XF u p 0 _ (jR t oL) (jR s rt)]
end
theorem XH{l m:List Bool}(g:l.length=m.length)(h:fH l=fH m):l=m:=by
 apply List.ext_getElem?;intro i;rcases Nat.lt_or_ge i l.length with c|c
 ·have d:=LB l (i:=i) (by rw[yJ];omega);have e:=LB m (i:=i) (by rw[yJ];omega);rw[h,e]at d;rw[List.getD_eq_getElem?_getD,List.getD_eq_getElem?_getD,List.getElem?_eq_getElem c,List.getElem?_eq_getElem (show i<m.length by omega)]at d;rw[List.getElem?_eq_getElem c,List.getElem?_eq_getElem (show i<m.length by omega)];congr 1;generalize l[i]=a at *;generalize m[i]'_=b at *
  revert d
  cases a <;> cases b <;> simp
 ·rw[List.getElem?_eq_none c,List.getElem?_eq_none (by omega)]
theorem XI{n m:Nat}{f g:Nat->Nat}(h:lK n f m=lK n g m)(a:n<=18446744073709551616)(b:∀e,e<m->f e / 2<n)(c:∀e,e<m->g e / 2<n):∀e,e<m->f e=g e:=fun e he=>by obtain⟨d,i⟩:=Nn n f m e he (b e he) a;obtain⟨j,k⟩:=Nn n g m e he (c e he) a;rw[h]at d i;omega
theorem XJ{s t:List Nat}{rt oL:Int}(hP:dO s.length (sg s))(he:s.length % 2=0)(hQ:dO t.length (sg t))(k:t.length=s.length)(J:s.length<=131072)(l:(s.length=0/\rt=-1)\/(0<=rt/\rt<s.length))(c:(t.length=0/\oL=-1)\/(0<=oL/\oL<t.length)){u p:Bool}
  (hc:j4 u s rt 0=0)(m:j4 u t oL 0=0)(C:dY t oL=dY s rt)(h:jS u p true s rt 0=jS u p true t oL 0):s=t/\rt=oL:=by
 obtain⟨-,-,K,n,L,M,N⟩:=GU hP he (J7.1 hc).1 l;obtain⟨-,-,D,j,E,z,F⟩:=GU hQ (by rw[k];exact he) (J7.1 m).1 c;rw[k]at D j E z F;rw[C]at z;unfold jS at h;rw[if_pos hc,if_pos m,C]at h;have A:(jR s rt).length=(jR t oL).length:=by unfold jR;rw[Ci,Ci,k]
 have g:jR s rt=jR t oL:=by
  refine XH A ?_;unfold jJ oJ at h;rw[if_pos rfl,if_pos rfl]at h;have G:∀x,(four x).length=4:=fun x=>by simp[four]
  have b:=(List.append_inj' h (by rw[G,G])).1;exact List.append_cancel_left b
 unfold jR at g;rw[k]at g;have o:∀{v:List Nat} {w:Int},dO s.length (sg (iX v w))->(iX v w).length=s.length->∀e,e<s.length / 2->sg (kU (iX v w)) (2 * e) / 2<s.length / 2:=fun O S e b=>by rw[Dv (by omega)];have:=O.eF (e:=2 * e) (by omega);omega
 have B:=XI g (by omega) (o n K) (o j D)
 have q:∀d,d<s.length->gq (sg (iX s rt)) d=gq (sg (iX t oL)) d:=fun d a=>by
  have b:=B (d / 2) (by omega);rw[Dv (by omega),Dv (by omega)]at b;rcases(show d=2 * (d / 2)\/d=mt (2 * (d / 2)) by unfold mt;rw[if_pos (by omega)];omega)with e|e
  ·rw[e];exact b
  ·rw[e,JO n he L (by omega),JO j he E (by omega),b]
 have i:∀d,d<s.length->sg (iX s rt) d=sg (iX t oL) d:=fun d a=>by have b:=q _ (n.lt d a);rw[n.inv_of a]at b;exact(j.fD (n.lt d a)).symm.trans (congrArg (sg (iX t oL)) b.symm)
 constructor
 ·apply List.ext_getElem?;intro d;rcases Nat.lt_or_ge d s.length with a|a
  ·rw[tZ a,tZ (by omega)];congr 1;have b:=M d a;rw[i d a,z d a]at b;have P:dO s.length (sg t):=by rw[<-k];exact hQ
   exact(j.inj _ _ (P.lt d a) (hP.lt d a) (b.trans (i _ (hP.lt d a)))).symm
  ·rw[List.getElem?_eq_none a,List.getElem?_eq_none (by omega)]
 ·rcases l with⟨T,rfl⟩|⟨U,V⟩
  ·rcases c with⟨-,rfl⟩|⟨H,Q⟩
   ·rfl
   ·omega
  ·rcases c with⟨H,-⟩|⟨H,Q⟩
   ·omega
   ·have I:=N (by omega);have R:=F (by omega);rw[i _ (by omega)]at I;have:=j.inj _ _ (show rt.toNat<s.length by omega) (show oL.toNat<s.length by omega) (I.trans R.symm);omega
end
section
open Go.RowKit
def nM(q:List Nat)(fl:Nat->Bool)(d:Nat):Nat:=if d % 2=0 then 2 * sg q (d / 2)+(fl (d / 2)).toNat else mt (2 * sg q (d / 2)+(fl (d / 2)).toNat)
theorem Px(q:List Nat)(fl:Nat->Bool)(d:Nat):nM q fl (mt d)=mt (nM q fl d):=by
 unfold nM;rw[DV];by_cases h:d % 2=0
 ·rw[if_pos h,if_neg (by unfold mt;rw[if_pos h];omega)]
 ·rw[if_neg h,if_pos (by unfold mt;rw[if_neg h];omega),dF]
theorem J8(q:List Nat)(fl:Nat->Bool)(d:Nat):nM q fl d / 2=sg q (d / 2):=by
 have:(fl (d / 2)).toNat<=1:=by cases fl (d / 2) <;> simp
 unfold nM;split
 ·omega
 ·rw[DV];omega
theorem XK{q:List Nat}{fl:Nat->Bool}{m:Nat}(h:dO m (sg q)):dO (2 * m) (nM q fl):=by
 refine⟨fun d i=>?_,fun d e i he a=>?_⟩
 ·have b:=h.lt (d / 2) (by omega);have g:=J8 q fl d;omega
 ·have b:=J8 q fl d;rw[a,J8]at b;have g:=h.inj _ _ (by omega) (by omega) b;rcases FL g with c|c
  ·exact c.symm ▸ rfl
  ·rw[c,Px]at a;exact absurd a (sM _)
def lX(q:List Nat)(fl:Nat->Bool)(m:Nat):List Nat:=(List.range (2 * m)).map (nM q fl)
theorem G8(q:List Nat)(fl:Nat->Bool)(m:Nat):(lX q fl m).length=2 * m:=by simp[lX]
theorem XL(q:List Nat)(fl:Nat->Bool)(j:Nat):lX q fl (j+1)=lX q fl j ++ [2 * sg q j+(fl j).toNat,mt (2 * sg q j+(fl j).toNat)]:=by
 unfold lX;rw[show 2 * (j+1)=2 * j+1+1 by omega,List.range_succ,List.range_succ,List.map_append,List.map_append,List.append_assoc];congr 1;have a:nM q fl (2 * j)=2 * sg q j+(fl j).toNat:=by unfold nM;rw[if_pos (by omega),show 2 * j / 2=j by omega]
 have b:nM q fl (2 * j+1)=mt (2 * sg q j+(fl j).toNat):=by unfold nM;rw[if_neg (by omega),show (2 * j+1) / 2=j by omega]
 simp[a,b]
theorem XM{q:List Nat}{fl:Nat->Bool}{m d:Nat}(h:d<2 * m):sg (lX q fl m) d=nM q fl d:=by simp[sg,lX,h]
noncomputable def jL(s:List Nat)(f:Nat->Nat):List Nat:=(List.range s.length).map fun d=>f (sg s (gq f d))
theorem Bg(s:List Nat)(f:Nat->Nat):(jL s f).length=s.length:=by simp[jL]
theorem XO{s:List Nat}{f:Nat->Nat}(a:dO s.length f)(c:∀d,f (mt d)=mt (f d)):su s (jL s f) f:=by
 refine⟨Bg s f,a,fun d b=>?_,fun d _=>c d⟩;have:=a.lt d b;have e:sg (jL s f) (f d)=f (sg s (gq f (f d))):=by simp[sg,jL,this]
 rw[e,a.inv_of b]
theorem XP{s:List Nat}{f:Nat->Nat}(hP:dO s.length (sg s))(a:dO s.length f):dO s.length (sg (jL s f)):=by
 have e:∀d,d<s.length->sg (jL s f) d=f (sg s (gq f d)):=fun d b=>by simp[sg,jL,b]
 refine⟨fun d b=>?_,fun d g b c h=>?_⟩
 ·rw[e d b];exact a.lt _ (hP.lt _ (a.eF b))
 ·rw[e d b,e g c]at h;have i:=a.inj _ _ (hP.lt _ (a.eF b)) (hP.lt _ (a.eF c)) h;have j:=hP.inj _ _ (a.eF b) (a.eF c) i;rw[<-a.fD b,j,a.fD c]
def tT(s:List Nat)(f:Nat->Nat)(j:Nat)(zs:List Int):Prop:=∀d,d<j->zs[f d]? = some ((f (sg s d):Nat):Int)
theorem tT.step{s:List Nat}{f:Nat->Nat}{j:Nat}{zs:List Int}(a:dO s.length f)(g:zs.length=s.length)(b:j<s.length)(h:tT s f j zs):tT s f (j+1) (zs.set (f j) ((f (sg s j):Nat):Int)):=fun d i=>by
 rw[List.getElem?_set];by_cases e:f j=f d
 ·have:=a.inj _ _ b (by omega) e;subst this;rw[if_pos rfl,if_pos (by rw[g];exact a.lt _ b)]
 ·rw[if_neg e];exact h d (by rcases Nat.lt_or_ge d j with c|c;exact c;exact absurd (by rw[show d=j by omega]) e)
theorem tT.done{s:List Nat}{f:Nat->Nat}{zs:List Int}(b:dO s.length f)(d:zs.length=s.length)(h:tT s f s.length zs):zs=dD (jL s f):=by
 apply List.ext_getElem?;intro i;rcases Nat.lt_or_ge i s.length with a|a
 ·have c:=h _ (b.eF a);rw[b.fD a]at c;rw[c];simp[dD,jL,a]
 ·rw[List.getElem?_eq_none (by omega),List.getElem?_eq_none (by rw[q01,Bg];omega)]
theorem BoolsIn.fn{w:World}{a:Option Addr}{len cap:Nat}(h:BoolsIn w a len cap):∃fl:Nat->Bool,(∀i,len<=i->fl i=false)/\∀i,i<len->∃g off,a=some ⟨g,off,none⟩/\g<w.heap.size/\w.cell? ⟨g,off+i,none⟩=some (.bool (fl i)):=by
 classical
 have c:=h.at.2;refine⟨fun i=>if b:i<len then (c i b).choose_spec.choose_spec.choose else false,fun i b=>dif_neg (by omega),fun i b=>?_⟩;refine⟨(c i b).choose,(c i b).choose_spec.choose,?_⟩;simp only [dif_pos b];exact(c i b).choose_spec.choose_spec.choose_spec
def J9(w:World)(s:List Nat)(rt ln:Int)(e:Ending)(w':World):Prop :=
 ∃(a b:Value) (f:Nat->Nat) (oL:Int),e=.returned (.tuple #[fI a oL ln,b])/\dO s.length f/\(∀d,f (mt d)=mt (f d))/\((s.length=0/\oL=rt)\/(0<s.length/\oL=(f rt.toNat:Nat)))/\dH w.heap.size w' a (dD (jL s f))/\Keeps (fun _=>False) w w'
theorem XQ(sv:Value)(rt ln:Int)(s:List Nat)(pv:Value)(ps:List Nat)(fa:Option Addr)(M fc:Nat)(w:World)(hs:Sl .i64 w sv (dD s))(hP:dO s.length (sg s))(he:s.length % 2=0)(hl:s.length<=1000)(Z:(s.length=0/\rt=-1)\/∃r:Nat,rt=r/\r<s.length)
  (hp:Sl .u8 w pv (dD ps))(ar:∀b ∈ ps,b<256)(hb:BoolsIn w fa M fc) :
  Calls Tryz.prog 24 #[.agg #[sv,.int .i64 rt,.int .i64 ln],pv,.slice fa M fc] w (J9 w s rt ln):=by
 obtain⟨W0,I⟩:∃W0,W0=(w.alloc (.cells #[sv,.int .i64 rt,.int .i64 ln] 27)).alloc (.cells #[.slice none 0 0,.int .i64 0,.int .i64 0] 27):=⟨_,rfl⟩
 have k0:Keeps (fun _=>False) w W0:=by rw[I];exact((Keeps.refl _ w).alloc _).alloc _
 have b0:W0.heap[w.heap.size]? = some (.cells #[sv,.int .i64 rt,.int .i64 ln] 27 (0,0)):=by rw[I];exact((Keeps.refl (fun _=>False) _).alloc _).at (heap_alloc_new w _) (fun h=>h)
 have b1:W0.heap[w.heap.size+1]? = some (.cells #[.slice none 0 0,.int .i64 0,.int .i64 0] 27 (0,0)):=by rw[I];have:=heap_alloc_new (w.alloc (.cells #[sv,.int .i64 rt,.int .i64 ln] 27)) (.cells #[.slice none 0 0,.int .i64 0,.int .i64 0] 27);simpa using this
 obtain⟨xb,ah⟩:∃xb,xb=w.heap.size+1:=⟨_,rfl⟩
 rw[<-ah]at b1;obtain⟨fl,au,av⟩:=hb.fn;have aw:Hid ((∀i,M<=i->fl i=false)/\∀i,i<M->∃g off,fa=some ⟨g,off,none⟩/\g<w.heap.size/\w.cell? ⟨g,off+i,none⟩=some (.bool (fl i))):=dh ⟨au,av⟩;have HS:Hid (∀W,Keeps (fun _=>False) w W->Sl .i64 W sv (dD s)):=dh (fun W J=>hs.keeps J (fun _ _ h=>h));obtain⟨m,hm⟩:∃m,s.length=2 * m:=⟨s.length / 2,by omega⟩
 have ai:=ML pv ps m W0 (hp.keeps k0 (fun _ _ h=>h)) ar (by omega);obtain⟨sa,sc,rfl,-,-⟩:=hs.form;rw[q01]at *;have c0:=dw b0 0;have d1:((s.length:Nat):Int).tdiv 2=(m:Int):=by rw[Int.tdiv_eq_ediv_of_nonneg (by omega)];omega
 have d2:((s.length:Nat):Int) / 2=(m:Int):=by omega
 have d3:IntKind.i64.wrap (m:Int)=(m:Int):=IntWalk.i64_in _ (by omega);have ax:m<=500:=by omega
 have aX:w.heap.size<xb:=by omega
 have HN:Hid (s.length=2 * m):=dh hm;have HP:=dh (dn hP Z);have HW:=dh (dn k0 (dn b0 b1));rw[I]at c0 ai;have aO:=dh I;have aP:=dh ah;clear hs hP he hp ar hb au av hm Z k0 b0 b1 ah I;go_enter Tryz.func24,Tryz.ntmps24;go_wp2_with fail;refine ai.mono ?_;clear ai c0;rintro e w1 ⟨qv,Q,rfl,aa,hQ,O,R⟩;obtain⟨qa,qc,rfl,-,-⟩:=O.form;rw[q01]at *;rw[aa];rw[aa]at O;rw[<-aO.out]at O R;have HQ:Hid (∀W,Keeps (fun _=>False) w1 W->Sl .i64 W (.slice qa m qc) (dD Q)):=dh (fun W J=>(O.keeps J (fun _ _ h=>h)).sl);have ae:=HW.out.1.trans R (fun _ _ h=>h);have H1:=dh (dn hQ (dn ae (dn (R.at HW.out.2.1 (fun h=>h)) (dn (R.at HW.out.2.2 (fun h=>h)) aa))));have h0:dH w1.heap.size w1 (.slice none 0 0) (dD (lX Q fl 0)):=dH.nil _ _;have ay:=Keeps.refl (fun _=>False) w1;clear O R ae hQ aa;go_wp2_with fail;rw[<-aP.out];go_loopg [8,22] m (fun mu lv iv wr=>∃j:Nat,j<=m/\mu=m - j/\iv=.int .i64 j/\dH w1.heap.size wr lv (dD (lX Q fl j))/\Keeps (fun _=>False) w1 wr)
 case atStart=>exact⟨0,Nat.zero_le _,rfl,rfl,h0,ay⟩
 case round =>
  clear h0 ay;obtain⟨j,hj,S,rfl,hO,hK⟩:=hrel;have aj:=dh S;clear S;have G:(dD (lX Q fl j)).length=2 * j:=by rw[q01,G8]
  obtain⟨la,lc,rfl,-,-⟩:=hO.form;rw[G]at hO ⊢;obtain⟨L,hL⟩:∃L,L=2 * j:=⟨_,rfl⟩
  rw[<-hL]at hO G ⊢;have HL:=dh (dn hL G);have aY:L<=2000:=by omega
  clear hL G;by_cases C:j<m
  ·have H:=H1.out.1.lt j C;have az:=jA (tZ (s:=Q) (d:=j) (by have:=H1.out.2.2.2.2;omega));obtain⟨g,o,rfl,hc⟩:=(HQ.out wr hK).cellAt az;have T:=XL Q fl j;obtain⟨q,aA⟩:∃q,q=sg Q j:=⟨_,rfl⟩
   rw[<-aA]at H hc T;have aZ:q<500:=by omega
   obtain⟨x,hx⟩:∃x,x=2 * q+(fl j).toNat:=⟨_,rfl⟩
   rw[<-hx]at T;have aQ:(fl j).toNat<=1:=by cases fl j <;> simp
   have D:=fun W=>BA x W (by omega);obtain⟨y,n⟩:∃y,y=mt x:=⟨_,rfl⟩
   rw[<-n]at T D;have f1:IntKind.i64.wrap (2 * (q:Int))=2 * (q:Int):=IntWalk.i64_in _ (by omega)
   have aB:(decide ((j:Int)<(M:Int))=true/\decide (j<M)=true/\(∃g' o',fa=some ⟨g',o',none⟩/\wr.cell? ⟨g',o'+j,none⟩=some (.bool (fl j))))\/(decide ((j:Int)<(M:Int))=false/\decide (j<M)=false/\fl j=false):=by
    rcases Nat.lt_or_ge j M with h|h
    ·obtain⟨g',o',e1,e2,e3⟩:=aw.out.2 j h;exact .inl ⟨decide_eq_true (by omega),decide_eq_true h,g',o',e1,(World.cell?_of_block ((H1.out.2.1.trans hK (fun _ _ h=>h)).block g' e2 (fun h=>h))).trans e3⟩
    ·exact .inr ⟨decide_eq_false (by omega),decide_eq_false (by omega),aw.out.1 j h⟩
   have HO:=dh (dn hO (dn hK T));obtain⟨b,ak⟩:∃b,b=fl j:=⟨_,rfl⟩
   rw[<-ak]at aB hx;have f2:IntKind.i64.wrap (2 * (q:Int))=((2 * q:Nat):Int):=by rw[f1];omega
   have HX:Hid (x=2 * q+b.toNat):=dh hx;have a0:x<=1001:=by rw[ak]at hx;omega
   clear hO hK T az aA n H aQ hx ak f1;obtain⟨x0,al⟩:∃x0,x0=2 * q:=⟨_,rfl⟩
   rw[<-al]at f2;have aC:=dh al;clear al;have ab:b=true->IntKind.i64.wrap ((x0:Int)+1)=(x:Int):=fun h=>by have h1:=HX.out;have h2:=aC.out;rw[h]at h1;simp at h1;rw[IntWalk.i64_in _ (by omega)];omega
   have U:b=false->x0=x:=fun h=>by have h1:=HX.out;have h2:=aC.out;rw[h]at h1;simp at h1;omega
   rcases aB with⟨t1,t2,g',o',rfl,a1⟩|⟨t1,t2,rfl⟩
   case' inl =>
    have i0:(0:Int)<=(j:Int):=by omega
    have i1:(j:Int)<(M:Int):=of_decide_eq_true t1;have i2:j<M:=of_decide_eq_true t2;cases b
    case' true =>
     have f3:=ab rfl;clear ab U;go_wp2_with fail
    case' false =>
     obtain rfl:=U rfl;clear ab U;go_wp2_with fail
   case' inr =>
    obtain rfl:=U rfl;clear ab U;go_wp2_with fail
   all_goals
    refine(D _).mono ?_;rintro e w' ⟨rfl,rfl⟩;go_wp2_with (at_builtin;(refine FH rfl _ _ rfl w1.heap.size (.slice la L lc) (.slice (some ⟨wr.heap.size,0,none⟩) 2 2) (dD (lX Q fl j)) [(_:Int),(y:Int)] rfl rfl (HO.out.1.alloc _) (Sl.two wr .i64 _ y _) (by rw[HL.out.2];simp only [List.length_cons,List.length_nil];omega) (by have:=HO.out.2.1.size;simp;omega) ?_);intro v5 w5 V aD aE)
    have HF:=dh (dn V ((HO.out.2.1.trans ((Keeps.refl (fun _=>False) wr).alloc _) (fun _ _ h=>h)).trans aD (fun x hx e=>by have:=(HO.out.1.lt x e).1;omega)));clear V aD aE;go_wp2;go_roundg (m - (j+1))
    case measure=>rw[aj.out];omega
    case rel=>exact⟨j+1,by omega,rfl,by go_num,by rw[HO.out.2.2];simpa [dD]using HF.out.1,HF.out.2⟩
  ·obtain rfl:j=m:=by omega
   have am:=HN.out;have hF:=XK (q:=Q) (fl:=fl) H1.out.1;rw[<-am]at hF;have aF:=H1.out.2.1.trans hK (fun _ _ h=>h);have k:=hK.at H1.out.2.2.1 (fun h=>h);have a:=hK.at H1.out.2.2.2.1 (fun h=>h);have aR:Hid (∀W,Keeps (fun q=>wr.heap.size<=q) wr W->Sl .i64 W (.slice la L lc) (dD (lX Q fl j))):=dh (fun W J=>(hO.keeps J (fun q H e=>by have:=(hO.lt q H).2;omega)).sl);have an:=fun d=>Px Q fl d;have ao:∀d,d<s.length->sg (lX Q fl j) d=nM Q fl d:=fun d hd=>XM (by omega);have ad:L=s.length:=by rw[HL.out.1,am]
   obtain⟨f,aG⟩:∃f,f=nM Q fl:=⟨_,rfl⟩
   rw[<-aG]at hF an ao;obtain⟨N,hN⟩:∃N,N=s.length:=⟨_,rfl⟩
   have u:=dh (dn hF (dn an (dn ao (dn aF (dn k (dn a (dn ad hN)))))));have e0:=dw k 0;have e1:=dw k 1;have e2:=dw k 2;have ax:=G8 Q fl j;obtain⟨i,hi,aH,X,aI⟩:=info_parts nX;have ap:=fun w=>run_make (P:=Tryz.prog) w 25 3 i _ Tryz.underlying25 hi aH .i64 .i64 (s.length:Int) (s.length:Int) (by omega) (Int.le_refl _) (by rw[aI];omega) (by omega);simp only [X,Int.toNat_natCast,Nat.mul_one]at ap;have aJ:=dV.made wr s.length (tT s f 0) (fun d hd=>by omega) (by omega);clear an ao aF k a ad hN aG hO hi aH X aI hF am ax;go_upto_region 10 with fail;go_cut [12]from 48 to 56 (fun v wz=>∃g yb,v=.pointer (some ⟨yb,0,none⟩)/\dV wr g s.length (tT s f 0) wz/\wz.heap[yb]? = some (.cells #[.slice (some ⟨g,0,none⟩) s.length s.length,.int .i64 rt,.int .i64 ln] 27 (0,0))/\g≠yb/\wr.heap.size<=yb)
   case first =>
    have q0:=fun (o:Obj)=>vK e0 o;have q1:=fun (o:Obj)=>vK e1 o;have q2:=fun (o:Obj)=>vK e2 o;have q3:=fun (o p:Obj)=>vK (q1 o) p;have q4:=fun (o p:Obj)=>vK (q2 o) p;go_region
    all_goals
     clear ap q0 q1 q2 q3 q4;go_wp2;go_meet
    ·refine⟨wr.heap.size,wr.heap.size+1,rfl,aJ.keeps (((Keeps.refl (fun _=>False) _).alloc _).drew),?_,by omega,by omega⟩;have:=heap_alloc_new (wr.alloc (.cells (madeCells #[.int .i64 0] s.length) 3)) (.cells #[.slice (some ⟨wr.heap.size,0,none⟩) s.length s.length,.int .i64 rt,.int .i64 ln] 27);rw[show (wr.alloc (.cells (madeCells #[.int .i64 0] s.length) 3)).heap.size=wr.heap.size+1 by simp]at this;exact this
    ·refine⟨wr.heap.size+1,wr.heap.size,rfl,⟨List.replicate s.length 0,by simp,fun d hd=>by omega,?_,(((Keeps.refl (fun _=>False) wr).alloc _).alloc _).drew⟩,?_,by omega,by omega⟩
     ·have:=dH.made wr.heap.size (wr.alloc (.cells #[.slice (some ⟨wr.heap.size+1,0,none⟩) s.length s.length,.int .i64 rt,.int .i64 ln] 27)) s.length (by simp) (by omega);rw[show (wr.alloc (.cells #[.slice (some ⟨wr.heap.size+1,0,none⟩) s.length s.length,.int .i64 rt,.int .i64 ln] 27)).heap.size=wr.heap.size+1 by simp]at this;exact this.drew
     ·exact(((Keeps.refl (fun _=>False) _).alloc _).drew).at (heap_alloc_new wr _) (fun h=>h)
   case rest =>
    obtain⟨g,yb,rfl,D,n,aK,aL⟩:=hcut;obtain⟨_,_,_,_,aM⟩:=id D;have ad:=u.out.2.2.2.2.2.2.1;subst ad;have e3:=dw (aM.at u.out.2.2.2.2.1 (fun h=>h)) 0;have HY:=dh (dn aK aL);clear ap aJ e0 e1 e2 aM aK aL;go_wp2_with fail;generalize wr=wo at *;go_loopg [60] s.length (fun mu iv w2=>∃d:Nat,d<=s.length/\mu=s.length - d/\iv=.int .i64 d/\dV wo g s.length (tT s f d) w2/\w2.heap[yb]? = some (.cells #[.slice (some ⟨g,0,none⟩) s.length s.length,.int .i64 rt,.int .i64 ln] 27 (0,0)))
    case atStart=>exact⟨0,Nat.zero_le _,rfl,rfl,D,n⟩
    case round =>
     clear D n e3;obtain⟨d,hd,S,rfl,D,n⟩:=hrel;have aj:=dh S;clear S;obtain⟨_,_,_,_,J⟩:=id D;have l:=u.out.2.2.2.1.trans J (fun _ _ h=>h);have K:=aR.out wr (J.mono (fun _ _ h=>h.elim));by_cases C:d<s.length
     ·have aS:=HP.out.1.lt d C;obtain⟨gs,os,rfl,c1⟩:=(HS.out wr l).cellAt (uf C);have e1:(lX Q fl j).length=s.length:=by rw[G8,HN.out]
      have c2:=K.cellAt (uf (s:=lX Q fl j) (d:=d) (by omega));obtain⟨gl,ol,rfl,c2⟩:=c2;have c3:=K.cellOf (uf (s:=lX Q fl j) (d:=sg s d) (by omega));rw[u.out.2.2.1 d C]at c2;rw[u.out.2.2.1 _ aS]at c3;have aT:=u.out.1.lt d C;obtain⟨z,-,c4,c5⟩:=D.cell (f d) aT;have hN:=D.set (f d) ((f (sg s d):Nat):Int) (fun zs hz h=>h.step u.out.1 hz C);have E:=((Keeps.refl (fun q=>q=g) wr).setCell (p:=⟨g,f d,none⟩) (.inl rfl) (.int .i64 (f (sg s d):Nat))).at n (fun e=>HY.out.1 e.symm);have HF:=dh (dn hN E);have c6:=dw n 0;generalize f (sg s d)=x1 at *;generalize f d=x0 at *;generalize sg s d=y0 at *;have i1:(0:Int)<=(d:Int):=by omega
      have i2:(d:Int)<(s.length:Int):=by omega
      have i3:(0:Int)<=(y0:Int):=by omega
      have i4:(y0:Int)<(s.length:Int):=by omega
      have i5:(0:Int)<=(x0:Int):=by omega
      have i6:(x0:Int)<(s.length:Int):=by omega
      clear hN E D n J l K e1;go_wp2_with fail;go_region
      all_goals
       go_wp2_with fail
       go_roundg (s.length - (d+1))
       case measure=>rw[aj.out];omega
       case rel=>exact⟨d+1,by omega,rfl,by go_num,by first|exact HF.out|exact⟨HF.out.1.keeps (Keeps.refl _ _).drew,HF.out.2⟩⟩
     ·have aU:d=s.length:=by omega
      rw[aU]at D;have aV:=D.mono (fun zs hz h=>h.done u.out.1 hz);have k:=J.at u.out.2.2.2.2.1 (fun h=>h);have a:=J.at u.out.2.2.2.2.2.1 (fun h=>h);obtain⟨zs,X,rfl,F,-⟩:=aV;have A:dH wo.heap.size wr (.slice (some ⟨g,0,none⟩) s.length s.length) (dD (jL s f)):=F;have a2:xb<wo.heap.size:=lt_of_block u.out.2.2.2.2.2.1;have a3:=(A.lt g rfl).1;have a4:=u.out.2.2.2.1.size;have e0:=dw k 0;have e1:=dw k 1;by_cases hn:s.length=0
      ·have Z:rt=-1:=by
        rcases HP.out.2 with h|⟨r,-,h⟩
        ·exact h.2
        ·omega
       have t1:decide ((0:Int)<(s.length:Int))=false:=decide_eq_false (by omega);have t2:decide (0<s.length)=false:=decide_eq_false (by omega);have d0:=dw n 0;have d1:=dw n 1;have d2:=dw n 2;have u0:=dw a 0;have u1:=dw a 1;have u2:=dw a 2;have v0:=dx a 0;have v1:=dx a 1;have v2:=dx a 2;have B:=nu a (.slice (some ⟨g,0,none⟩) s.length s.length) (.int .i64 rt) (.int .i64 ln);have HE:=dh (dn A (dn l (dn hn B)));clear F A l hn B D J k a n K X Z;go_wp2_with fail;obtain⟨F,l,hn,B⟩:=HE.out;refine bodyPost_ret (v:=.tuple #[fI (.slice (some ⟨g,0,none⟩) s.length s.length) rt ln,.slice la s.length lc]) ?_ rfl ⟨_,_,f,rt,rfl,u.out.1,u.out.2.1,.inl ⟨hn,rfl⟩,(F.keeps B.2 (fun q H e=>by simp only [Value.ownBlock,Option.some.injEq]at H;omega)).mono (fun q H=>by simp only [Value.ownBlock,Option.some.injEq]at H;omega),l.trans B.2 (fun x hx e=>by omega)⟩;have w0:=dw B.1 0;have Y:=dw B.1 1;have w2:=dw B.1 2;simp at w0 Y w2;simp[results,Tryz.results24,go_sem,fI,w0,Y,w2]
      ·obtain⟨r,rfl,aq⟩:∃r:Nat,rt=r/\r<s.length:=by
        rcases HP.out.2 with h|h
        ·exact absurd h.1 hn
        ·exact h
       have t1:decide ((0:Int)<(s.length:Int))=true:=decide_eq_true (by omega);have t2:decide (0<s.length)=true:=decide_eq_true (by omega);have e5:(lX Q fl j).length=s.length:=by rw[G8,HN.out]
       obtain⟨gl,ol,rfl,c1⟩:=K.cellAt (uf (s:=lX Q fl j) (d:=r) (by omega));rw[u.out.2.2.1 r aq]at c1;have d1:=dw n 1;have df:=dx n 1;have E:=jM n 1 (.int .i64 (f r:Nat));have k2:=(Keeps.refl (fun q=>q=yb) wr).setCell (p:=⟨yb,1,none⟩) (.inl rfl) (.int .i64 (f r:Nat));have c:=k2.at a (fun e=>by have:=HY.out.2;omega);have af:=A.keeps k2 (fun q H e=>by simp only [Value.ownBlock,Option.some.injEq]at H;have:=HY.out.1;omega);have ag:=l.trans k2 (fun x hx e=>by have:=HY.out.2;omega);have d0:=dw E 0;have d2:=dw E 2;have a5:=dw E 1;have u0:=dw c 0;have u1:=dw c 1;have u2:=dw c 2;have v0:=dx c 0;have v1:=dx c 1;have v2:=dx c 2;have B:=nu c (.slice (some ⟨g,0,none⟩) s.length s.length) (.int .i64 (f r:Nat)) (.int .i64 ln);have HE:=dh (dn af (dn ag (dn aq B)));have i3:(0:Int)<=(r:Int):=by omega
       have i4:(r:Int)<(s.length:Int):=by omega
       generalize aN:f r=fr at *;have aW:=dh aN.symm;clear aN;clear F A l hn B D J k a n K X E k2 c af ag e5;go_wp2_with fail;obtain⟨F,l,aq,B⟩:=HE.out;refine bodyPost_ret (v:=.tuple #[fI (.slice (some ⟨g,0,none⟩) s.length s.length) (fr:Nat) ln,.slice (some ⟨gl,ol,none⟩) s.length lc]) ?_ rfl ⟨_,_,f,(fr:Nat),rfl,u.out.1,u.out.2.1,.inr ⟨by omega,by rw[aW.out];simp⟩,(F.keeps B.2 (fun q H e=>by simp only [Value.ownBlock,Option.some.injEq]at H;omega)).mono (fun q H=>by simp only [Value.ownBlock,Option.some.injEq]at H;omega),l.trans B.2 (fun x hx e=>by omega)⟩;have w0:=dw B.1 0;have Y:=dw B.1 1;have w2:=dw B.1 2;simp at w0 Y w2;simp[results,Tryz.results24,go_sem,fI,w0,Y,w2]
end
