import Derived.Test.YtalhcfjcbbkpgaaGreatZt0q
import Derived.Test.YtalhcfjcbbkpgaaGreatZt0r
set_option maxRecDepth 100000
set_option maxHeartbeats 4000000
namespace Go.Proofs.YtalhcfjcbbkpgaaGreat
section
open Go.RowKit
theorem sO{n:Nat}{S:Nat->Nat}(h:dU n S){d:Nat}(a:d<n):dB S d<=d:=Nat.le_trans (nY S _) (h.gK a)
noncomputable def eA(s:List Nat)(e:Nat):Nat:=dB (sg s) (2 * e)
noncomputable def eB(s:List Nat)(e:Nat):Nat:=dB (sg s) (2 * e+1)
noncomputable def ig(s:List Nat):Nat->Nat
 | 0=>0
 | j+1=>ig s j+if eA s j=eB s j then 1 else 0
noncomputable def mR(s:List Nat):Nat->Nat->Nat->Nat
 | 0=>fun _ _=>0
 | j+1=>if eA s j=eB s j then mR s j else wV (mR s j) (min (eA s j) (eB s j)) (max (eA s j) (eB s j)) (mR s j (min (eA s j) (eB s j)) (max (eA s j) (eB s j))+1)
noncomputable def lF(s:List Nat):Nat->Nat
 | 0=>0
 | j+1=>lF s j+if eA s j≠eB s j/\0<mR s j (min (eA s j) (eB s j)) (max (eA s j) (eB s j))then 1 else 0
theorem Fj(s:List Nat):∀j,ig s j<=j
 | 0=>Nat.le_refl _
 | j+1=>by have:=Fj s j;unfold ig;split <;> omega
theorem JQ(s:List Nat):∀j x y,mR s j x y<=j
 | 0,_,_=>Nat.le_refl _
 | j+1,x,y=>by
  have:=JQ s j x y;have:=JQ s j (min (eA s j) (eB s j)) (max (eA s j) (eB s j));unfold mR;by_cases h:eA s j=eB s j
  ·rw[if_pos h];omega
  ·rw[if_neg h];unfold wV;split <;> omega
theorem JR(s:List Nat):∀j,lF s j<=j
 | 0=>Nat.le_refl _
 | j+1=>by have:=JR s j;unfold lF;split <;> omega
theorem Fp{s:List Nat}:∀{j},ig s j=0↔∀e,e<j->eA s e≠eB s e
 | 0=>⟨fun _ e a=>by omega,fun _=>rfl⟩
 | j+1=>by
  unfold ig;have c:=Fp (s:=s) (j:=j);constructor
  ·intro h e a;by_cases d:eA s j=eB s j
   ·rw[if_pos d]at h;omega
   ·rcases Nat.lt_or_ge e j with f|f
    ·exact c.1 (by omega) e f
    ·obtain rfl:e=j:=by omega
     exact d
  ·intro h;rw[if_neg (h j (by omega)),c.2 (fun e a=>h e (by omega))]
theorem JU{s:List Nat}{x y:Nat}:∀{j},0<mR s j x y↔∃e,e<j/\eA s e≠eB s e/\min (eA s e) (eB s e)=x/\max (eA s e) (eB s e)=y
 | 0=>⟨fun h=>by simp[mR]at h,fun ⟨e,he,_⟩=>by omega⟩
 | j+1=>by
  have d:=JU (s:=s) (x:=x) (y:=y) (j:=j);unfold mR;by_cases h:eA s j=eB s j
  ·rw[if_pos h,d];constructor
   ·rintro⟨e,he,h1⟩;exact⟨e,by omega,h1⟩
   ·rintro⟨e,he,h1,h2⟩;rcases Nat.lt_or_ge e j with a|a
    ·exact⟨e,a,h1,h2⟩
    ·obtain rfl:e=j:=by omega
     exact absurd h h1
  ·rw[if_neg h];unfold wV;by_cases c:x=min (eA s j) (eB s j)/\y=max (eA s j) (eB s j)
   ·rw[if_pos c];exact⟨fun _=>⟨j,by omega,h,c.1.symm,c.2.symm⟩,fun _=>by omega⟩
   ·rw[if_neg c,d];constructor
    ·rintro⟨e,he,h1⟩;exact⟨e,by omega,h1⟩
    ·rintro⟨e,he,h1,h2,a⟩;rcases Nat.lt_or_ge e j with f|f
     ·exact⟨e,f,h1,h2,a⟩
     ·obtain rfl:e=j:=by omega
      exact absurd ⟨h2.symm,a.symm⟩ c
theorem DU{s:List Nat}:∀{j},lF s j=0↔∀e f,e<f->f<j->eA s e≠eB s e->eA s f≠eB s f->¬(min (eA s e) (eB s e)=min (eA s f) (eB s f)/\max (eA s e) (eB s e)=max (eA s f) (eB s f))
 | 0=>⟨fun _ e f _ l=>by omega,fun _=>rfl⟩
 | j+1=>by
  have m:=DU (s:=s) (j:=j);unfold lF;constructor
  ·intro h e f a l d g c;by_cases k:eA s j≠eB s j/\0<mR s j (min (eA s j) (eB s j)) (max (eA s j) (eB s j))
   ·rw[if_pos k]at h;omega
   ·rw[if_neg k]at h;rcases Nat.lt_or_ge f j with i|i
    ·exact m.1 (by omega) e f a i d g c
    ·obtain rfl:f=j:=by omega
     exact k ⟨g,JU.2 ⟨e,a,d,c.1,c.2⟩⟩
  ·intro h;have n:lF s j=0:=m.2 (fun e f a l=>h e f a (by omega));rw[n,if_neg];rintro⟨d,g⟩;obtain⟨e,a,c,i,o⟩:=JU.1 g;exact h e j a (by omega) c d ⟨i,o⟩
section
variable {w:World} {b:Nat} {s:List Nat} {root lone:Int} {R:Nat->Prop} (h:MapAt w b s root lone R)
include h
theorem Vw:Calls Tryz.prog 274 #[.pointer (some ⟨b,0,none⟩)] w fun e w'=>e=.returned (.int .i64 (ig s (s.length / 2):Nat))/\fP w b s root lone R w':=by
 have D:=EP h;have K:=h.le;have J:=h.mw;obtain⟨E,q⟩:∃E,E=s.length / 2:=⟨_,rfl⟩
 rw[<-q]at D ⊢;have M:2 * E<=s.length:=by omega
 clear h q;go_enter Tryz.func274,Tryz.ntmps274;go_wp2_with fail;refine D.mono ?_;rintro e w' ⟨rfl,rfl⟩;clear D;go_wp2_with fail;go_loopg [3,7] E (fun m c i wr=>∃j:Nat,j<=E/\m=E - j/\i=.int .i64 j/\c=.int .i64 (ig s j:Nat)/\MW w b s root lone R (fun _=>False) wr)
 case atStart=>exact⟨0,Nat.zero_le _,rfl,rfl,rfl,J⟩
 case round =>
  clear J;obtain⟨j,N,r,rfl,rfl,C⟩:=hrel;have F:=dh r;clear r;have O:=Fj s j;by_cases G:j<E
  ·obtain⟨R1,f,t⟩:=C.ask;have g:=C8 f (2 * j) (by omega);rw[show ((2 * j:Nat):Int)=2 * (j:Int) by omega]at g;have a:ig s (j+1)=ig s j+if eA s j=eB s j then 1 else 0:=rfl
   obtain⟨o,k⟩:∃o,o=eA s j:=⟨_,rfl⟩
   obtain⟨p,l⟩:∃p,p=eB s j:=⟨_,rfl⟩
   rw[<-k,<-l]at a;have Q:o<=s.length:=by rw[k];have S:=sO f.dW (d:=2 * j) (by omega);simp only [eA];omega
   have T:p<=s.length:=by rw[l];have S:=sO f.dW (d:=2 * j+1) (by omega);simp only [eB];omega
   have H:2 * j+1<s.length:=by omega
   rw[show dB (sg s) (2 * j)=o by rw[k];rfl]at g;have U:=dh (show dB (sg s) (2 * j+1)=p by rw[l];rfl);clear k l;go_wp2_with fail;refine g.mono ?_;rintro e w1 ⟨rfl,u⟩;have v:=(t w1 u.two).1;clear g t u f;obtain⟨R2,x,y⟩:=v.ask;have n:=C8 x (2 * j+1) H;rw[show ((2 * j+1:Nat):Int)=2 * (j:Int)+1 by omega,U.out]at n;go_wp2_with fail;refine n.mono ?_;rintro e X ⟨rfl,z⟩;have A:=dh (y X z.two).1;clear n y z x v C;by_cases B:o=p
   ·subst B;rw[if_pos rfl]at a;have I:=dh a;clear a;generalize ig s j=c at *;go_wp2;go_roundg (E - (j+1))
    case measure=>rw[F.out];omega
    case rel=>exact⟨j+1,by omega,rfl,by go_num,by rw[I.out];go_num,A.out⟩
   ·have Y:((o:Int) == (p:Int))=false:=by rw[beq_eq_false_iff_ne];omega
    rw[if_neg B]at a;have I:=dh a;clear a;generalize ig s j=c at *;go_wp2;go_roundg (E - (j+1))
    case measure=>rw[F.out];omega
    case rel=>exact⟨j+1,by omega,rfl,by go_num,by rw[I.out];go_num,A.out⟩
  ·obtain rfl:j=E:=by omega
   have Z:=dh C.all;clear C G N F;go_wp2;go_ret;exact⟨rfl,Z.out⟩
theorem Vx:Calls Tryz.prog 275 #[.pointer (some ⟨b,0,none⟩)] w fun e w'=>e=.returned (.int .i64 (lF s (s.length / 2):Nat))/\fP w b s root lone R w':=by
 have D:Keeps (fun _=>False) w (w.alloc (.map #[] 0)):=(Keeps.refl _ w).alloc _;have hE:=EP (h.keeps D (fun h=>h) (fun _ _ h=>h));have av:=h.le;have hW:MW w b s root lone R (fun x=>x=w.heap.size) (w.alloc (.map #[] 0)):=h.mw.fresh D (fun x F=>.inr ⟨by omega,by simp;omega⟩);have N:=oD.made w;obtain⟨E,O⟩:∃E,E=s.length / 2:=⟨_,rfl⟩
 rw[<-O]at hE ⊢;have aw:2 * E<=s.length:=by omega
 clear h O D;have am:=@run_makeMap Tryz.prog;go_enter Tryz.func275,Tryz.ntmps275;go_wp2_with fail;refine hE.mono ?_;rintro e w' ⟨rfl,rfl⟩;clear hE am;generalize an:w.alloc (.map #[] 0)=wM at *;clear an;go_wp2_with fail;go_loopg [4,12] E (fun m c i wr=>∃j:Nat,j<=E/\m=E - j/\i=.int .i64 j/\c=.int .i64 (lF s j:Nat)/\MW w b s root lone R (fun x=>x=w.heap.size) wr/\oD wr w.heap.size j (mR s j))
 case atStart=>exact⟨0,Nat.zero_le _,rfl,rfl,rfl,hW,N⟩
 case round =>
  clear hW N;obtain⟨j,hj,Q,rfl,rfl,hM,hP⟩:=hrel;have HG:=dh Q;clear Q;have ax:=JR s j;by_cases ao:j<E
  ·obtain⟨R1,n,S⟩:=hM.ask;have o:=C8 n (2 * j) (by omega);rw[show ((2 * j:Nat):Int)=2 * (j:Int) by omega]at o;have g:lF s (j+1)=lF s j+if eA s j≠eB s j/\0<mR s j (min (eA s j) (eB s j)) (max (eA s j) (eB s j))then 1 else 0:=rfl
   have a:mR s (j+1)=if eA s j=eB s j then mR s j else wV (mR s j) (min (eA s j) (eB s j)) (max (eA s j) (eB s j)) (mR s j (min (eA s j) (eB s j)) (max (eA s j) (eB s j))+1):=rfl
   have T:=JQ s j (min (eA s j) (eB s j)) (max (eA s j) (eB s j));obtain⟨k,p⟩:∃k,k=eA s j:=⟨_,rfl⟩
   obtain⟨l,r⟩:∃l,l=eB s j:=⟨_,rfl⟩
   rw[<-p,<-r]at g a T;have ay:k<=s.length:=by rw[p];have hh:=sO n.dW (d:=2 * j) (by omega);simp only [eA];omega
   have az:l<=s.length:=by rw[r];have hh:=sO n.dW (d:=2 * j+1) (by omega);simp only [eB];omega
   have ap:2 * j+1<s.length:=by omega
   rw[show dB (sg s) (2 * j)=k by rw[p];rfl]at o;have HV:=dh (show dB (sg s) (2 * j+1)=l by rw[r];rfl);clear p r;generalize lF s j=c at *;generalize mR s j=f at *;go_wp2_with fail;refine o.mono ?_;rintro e w1 ⟨rfl,U⟩;obtain⟨X,Y⟩:=S w1 U.two;have Z:=hP.keeps Y (fun h=>h rfl);clear o S U n Y hP;obtain⟨R2,aa,ab⟩:=X.ask;have G:=C8 aa (2 * j+1) ap;rw[show ((2 * j+1:Nat):Int)=2 * (j:Int)+1 by omega,HV.out]at G;go_wp2_with fail;refine G.mono ?_;rintro e J ⟨rfl,ad⟩;obtain⟨t,ae⟩:=ab J ad.two;have u:=Z.keeps ae (fun h=>h rfl);clear G ab ad aa X hM ae Z;by_cases H:k=l
   ·subst H;rw[if_neg (fun h=>h.1 rfl)]at g;rw[if_pos rfl]at a;have K:=dh (dn g (dn t (a ▸ u.more (Nat.le_succ j))));clear g a t u;go_wp2;go_roundg (E - (j+1))
    case measure=>rw[HG.out];omega
    case rel=>exact⟨j+1,by omega,rfl,by go_num,by rw[K.out.1];go_num,K.out.2⟩
   ·have aA:((k:Int) == (l:Int))=false:=by rw[beq_eq_false_iff_ne];omega
    rw[if_neg H]at a;obtain⟨x,F⟩:∃x,x=min k l:=⟨_,rfl⟩
    obtain⟨y,hy⟩:∃y,y=max k l:=⟨_,rfl⟩
    rw[<-F,<-hy]at g a T;have v:x<=1000000:=by omega
    have z:y<=1000000:=by omega
    have aB:min (k:Int) (l:Int)=(x:Int):=by omega
    have aC:max (k:Int) (l:Int)=(y:Int):=by omega
    obtain⟨M,A⟩:∃M,M=J.alloc (.cells #[.int .i64 (x:Int),.int .i64 (y:Int)] 359):=⟨_,rfl⟩
    have D:Keeps (fun _=>False) J M:=by rw[A];exact(Keeps.refl _ J).alloc _
    have af:=t.fresh D (M':=fun x=>x=w.heap.size) (fun _ F=>.inl F);have B:=u.keeps D (fun h=>h);have ag:=B.look v z;have C:=(B.keeps (Keeps.refl (fun _=>False) M).drew (fun h=>h)).look v z;obtain⟨v0,w4,st,ah,aq,ar,ai⟩:=(B.keeps (Keeps.refl (fun _=>False) M).drew (fun h=>h)).entry (by omega) v z;obtain⟨w5,au,I,aj⟩:=ai (f x y+1) (by omega);rw[<-a]at I;have ak:=(af.drew.own aj (M':=fun x=>x=w.heap.size) (fun _ F=>.inl F))
    have al:(M.drew.heap[J.heap.size]?)=some (.cells #[.int .i64 (x:Int),.int .i64 (y:Int)] 359 (0,0)):=by rw[A];exact heap_alloc_new J _
    have HX:=dh (dn g (dn ak I));clear g a ak I af B t u D aq aj ai F hy v z;unfold kv at ag C ah ar;rw[show ((f x y+1:Nat):Int)=(f x y:Int)+1 by omega]at au;generalize f x y=q at *;rw[A]at ag C ah al;clear A al;rcases Nat.eq_zero_or_pos q with hq|hq
    ·have hz:decide (0<q)=false:=decide_eq_false (by omega);have K:=dh (show lF s (j+1)=c by rw[HX.out.1,if_neg (fun h=>by have:=h.2;omega)];rfl);clear hq;go_wp2;go_region
     all_goals
      go_wp2;go_roundg (E - (j+1))
      case measure=>rw[HG.out];omega
      case rel=>exact⟨j+1,by omega,rfl,by go_num,by rw[K.out],HX.out.2⟩
    ·have hz:decide (0<q)=true:=decide_eq_true (by omega);have K:=dh (show lF s (j+1)=c+1 by rw[HX.out.1,if_pos ⟨H,hq⟩]);clear hq;go_wp2;go_region
     all_goals
      go_wp2;go_roundg (E - (j+1))
      case measure=>rw[HG.out];omega
      case rel=>exact⟨j+1,by omega,rfl,by go_num,by rw[K.out];go_num,HX.out.2⟩
  ·obtain rfl:j=E:=by omega
   have HF:=dh hM.all;clear hM hP ao hj HG;go_wp2;go_ret;exact⟨rfl,HF.out⟩
end
end
section
open Go.RowKit
theorem Vy{w:World}{b:Nat}{s:List Nat}{root lone:Int}{R:Nat->Prop}(h:MapAt w b s root lone R):Calls Tryz.prog 248 #[.pointer (some ⟨b,0,none⟩)] w fun e w'=>e=.returned (.bool (decide (ig s (s.length / 2)=0/\lF s (s.length / 2)=0)))/\fP w b s root lone R w':=by
 have j:=Vw h;have p:=h.mw;obtain⟨B,k,d⟩:=p.ask;have t:=Fj s (s.length / 2);have u:=JR s (s.length / 2);have v:=h.le;obtain⟨x,q⟩:∃x,x=ig s (s.length / 2):=⟨_,rfl⟩
 obtain⟨y,l⟩:∃y,y=lF s (s.length / 2):=⟨_,rfl⟩
 have z:=dh l;rw[<-q]at j t ⊢;rw[<-l]at u ⊢;have i:=dh (dn j (dn h d));clear j k d p h q l;by_cases f:x=0
 ·subst f;rw[show decide ((0:Nat)=0/\y=0)=decide (y=0) by simp];go_enter Tryz.func248,Tryz.ntmps248;go_wp2_with fail;refine i.out.1.mono ?_;rintro e w1 ⟨rfl,a⟩;have m:=(i.out.2.1.mw.ask)
  have n:=Vx a.1;rw[<-z.out]at n;have A:Hid (∀g,fP w1 b s root lone (grow R w w1) g->fP w b s root lone R g):=dh (fun g c=>a.trans i.out.2.1 c);clear a m
  have r:((y:Int) == 0)=decide (y=0):=by
   by_cases e:y=0
   ·subst e;rfl
   ·rw[decide_eq_false e,beq_eq_false_iff_ne];omega
  go_wp2_with fail
  refine n.mono ?_;rintro e g ⟨rfl,c⟩;have o:=dh (A.out g c);clear c n;go_wp2;go_ret;exact⟨by first|rfl|rw[r],o.out⟩
 ·rw[show decide (x=0/\y=0)=false from decide_eq_false (fun e=>f e.1)];have r:((x:Int) == 0)=false:=by rw[beq_eq_false_iff_ne];omega
  go_enter Tryz.func248,Tryz.ntmps248;go_wp2_with fail;refine i.out.1.mono ?_;rintro e w1 ⟨rfl,a⟩;have o:=dh a;clear a;go_wp2;go_ret;exact⟨rfl,o.out⟩
def jl(s:List Nat)(l:Nat):Prop:=3<=dY (sg s) s.length+l/\dZ s.length (sg s) s.length+l=1/\fU (jG s l)=0/\(ig s (s.length / 2)=0/\lF s (s.length / 2)=0) /\
 ∀d,d<s.length->sg s (mt (sg s (mt (sg s (mt d)))))=d/\sg s (mt d)≠d
theorem Bv{p:Prop}(h:¬p):(false=true↔p):=⟨fun e=>Bool.noConfusion e,fun e=>absurd e h⟩
def JV(w:World)(b:Nat)(s:List Nat)(root:Int)(l:Nat)(R:Nat->Prop)(e:Ending)(w':World):Prop:=∃t:Bool,e=.returned (.bool t)/\(t=true↔jl s l)/\fP w b s root l R w'
theorem OO{w:World}{b:Nat}{s:List Nat}{root:Int}{l:Nat}{R:Nat->Prop}(h:MapAt w b s root l R):Calls Tryz.prog 213 #[.pointer (some ⟨b,0,none⟩)] w (JV w b s root l R):=by
 have ak:=h.le;have ag:=h.ln;have ah:=nY (sg s) s.length;have F:=dh (dn h.dW h.even);obtain⟨R0,H,I⟩:=h.mw.ask;have hV:=ER H;obtain⟨V,J⟩:∃V,V=dY (sg s) s.length+l:=⟨_,rfl⟩
 rw[show (((dY (sg s) s.length:Nat):Int)+(l:Int))=(V:Int) by omega]at hV;have al:V<=10000000:=by omega
 have n:Hid (∀t:Bool,(t=true↔3<=V/\dZ s.length (sg s) s.length+l=1/\fU (jG s l)=0/\(ig s (s.length / 2)=0/\lF s (s.length / 2)=0)/\∀d,d<s.length->sg s (mt (sg s (mt (sg s (mt d)))))=d/\sg s (mt d)≠d)->∀w',MW w b s root l R (fun _=>False) w'->JV w b s root l R (.returned (.bool t)) w') :=
  dh (fun t ht w' hm=>⟨t,rfl,by rw[ht,J];rfl,hm.all⟩)
 clear h J ag ah;go_enter Tryz.func213,Tryz.ntmps213;go_wp2_with fail;refine hV.mono ?_;rintro e w1 ⟨rfl,K⟩;have o:=(I w1 K.two).1;clear hV K I H;by_cases c0:3<=V
 rotate_left
 ·have t0:decide (V<3)=true:=decide_eq_true (by omega);have a:=dh (n.out false (Bv (fun e=>c0 e.1)) w1 o);clear o n;go_wp2;go_ret;exact a.out
 have t0:decide (V<3)=false:=decide_eq_false (by omega);obtain⟨R1,M,N⟩:=o.ask;have O:=NS M;go_wp2_with fail;refine O.mono ?_;rintro e w2 ⟨rfl,Q⟩;have p:=(N w2 Q.two).1;clear O Q N M o;by_cases S:dZ s.length (sg s) s.length+l=1
 rotate_left
 ·rw[decide_eq_false S];have a:=dh (n.out false (Bv (fun e=>S e.2.1)) w2 p);clear p n;go_wp2;go_ret;exact a.out
 rw[decide_eq_true S];obtain⟨R2,T,U⟩:=p.ask;have X:=EW T;go_wp2_with fail;refine X.mono ?_;rintro e w3 ⟨rfl,Y⟩;have q:=(U w3 Y.two).1;clear X Y U T p;by_cases Z:fU (jG s l)=0
 rotate_left
 ·rw[decide_eq_false Z];have a:=dh (n.out false (Bv (fun e=>Z e.2.2.1)) w3 q);clear q n;go_wp2;go_ret;exact a.out
 rw[decide_eq_true Z];obtain⟨R3,aa,ab⟩:=q.ask;have ad:=Vy aa;go_wp2_with fail;refine ad.mono ?_;rintro e w4 ⟨rfl,ae⟩;have f:=(ab w4 ae).1;clear ad ae ab aa q;by_cases c3:ig s (s.length / 2)=0/\lF s (s.length / 2)=0
 rotate_left
 ·rw[decide_eq_false c3];have a:=dh (n.out false (Bv (fun e=>c3 e.2.2.2.1)) w4 f);clear f n;go_wp2;go_ret;exact a.out
 rw[decide_eq_true c3];obtain⟨R4,g,ai⟩:=f.ask;have hD:=vH g
 have v:Hid (∀t:Bool,(t=true↔∀d,d<s.length->sg s (mt (sg s (mt (sg s (mt d)))))=d/\sg s (mt d)≠d)->JV w b s root l R (.returned (.bool t)) w4):=dh (fun t ht=>n.out t (by
  constructor
  ·intro e;exact⟨c0,S,Z,c3,ht.1 e⟩
  ·intro e;exact ht.2 e.2.2.2.2) w4 f)
 clear S Z c3 n ai f;go_wp2_with fail;refine hD.mono ?_;rintro e w' ⟨rfl,rfl⟩;clear hD;go_wp2_with fail;go_loopg [25] s.length (fun m i wr=>∃j:Nat,j<=s.length/\m=s.length - j/\i=.int .i64 j/\(∀d,d<j->sg s (mt (sg s (mt (sg s (mt d)))))=d/\sg s (mt d)≠d)/\wr=w4)
 case atStart=>exact⟨0,Nat.zero_le _,rfl,rfl,fun d hd=>by omega,rfl⟩
 case round =>
  obtain⟨j,hj,af,rfl,u,rfl⟩:=hrel;have HG:=dh af;have HA:=dh u;clear af u;by_cases k:j<s.length
  ·have y:=F.out.1.lt (mt j) (dR F.out.2 k);have c:=Jz g j k;obtain⟨z,r⟩:∃x,x=sg s (mt j):=⟨_,rfl⟩
   rw[<-r]at c y;have A:=F.out.1.lt (mt z) (dR F.out.2 y);have B:=Jz g z y;obtain⟨x2,C⟩:∃x,x=sg s (mt z):=⟨_,rfl⟩
   rw[<-C]at B A;have aj:=F.out.1.lt (mt x2) (dR F.out.2 A);have D:=Jz g x2 A;obtain⟨x3,E⟩:∃x,x=sg s (mt x2):=⟨_,rfl⟩
   rw[<-E]at D aj;have HX:Hid (sg s (mt (sg s (mt (sg s (mt j)))))=x3/\sg s (mt j)=z):=dh ⟨by rw[E,C,r],r.symm⟩;clear r C E;go_wp2_with fail;refine c.mono ?_;rintro e w' ⟨rfl,rfl⟩;go_wp2_with fail;refine B.mono ?_;rintro e w' ⟨rfl,rfl⟩;go_wp2_with fail;refine D.mono ?_;rintro e w' ⟨rfl,rfl⟩;clear B D;by_cases G:x3=j
   rotate_left
   ·have t4:((x3:Int) != (j:Int))=true:=by rw[bne_iff_ne];omega
    have a:=dh (v.out false (Bv (fun e=>G (HX.out.1.symm.trans (e j k).1))));clear v c;go_wp2;go_ret;exact a.out
   ·have t4:((x3:Int) != (j:Int))=false:=by rw[G];exact bne_self_eq_false _
    have am:((x3:Int) == (j:Int))=true:=by rw[G];exact beq_self_eq_true _
    by_cases c5:z=j
    ·have t5:((z:Int) == (j:Int))=true:=by rw[c5];exact beq_self_eq_true _
     have a:=dh (v.out false (Bv (fun e=>(e j k).2 (HX.out.2.trans c5))));clear v G c5;go_wp2_with fail;refine c.mono ?_;rintro e w' ⟨rfl,rfl⟩;clear c;go_wp2;go_ret;exact a.out
    ·have t5:((z:Int) == (j:Int))=false:=by rw[beq_eq_false_iff_ne];omega
     have a:=dh (show ∀d,d<j+1->sg s (mt (sg s (mt (sg s (mt d)))))=d/\sg s (mt d)≠d from fun d hd=>by
      rcases Nat.lt_or_ge d j with h1|h1
      ·exact HA.out d h1
      ·obtain rfl:d=j:=by omega
       exact⟨HX.out.1.trans G,fun e=>c5 (HX.out.2.symm.trans e)⟩)
     clear v G c5;go_wp2_with fail;refine c.mono ?_;rintro e w' ⟨rfl,rfl⟩;clear c;go_wp2;go_roundg (s.length - (j+1))
     case measure=>rw[HG.out];omega
     case rel=>exact⟨j+1,by omega,rfl,by go_num,a.out,rfl⟩
  ·obtain rfl:j=s.length:=by omega
   have a:=dh (v.out true (by simp only [true_iff];exact HA.out));clear v g k hj HG;go_wp2;go_ret;exact a.out
end
section
theorem jl.Bw{s:List Nat}{l:Nat}(h:dU s.length (sg s))(p:s.length % 2=0)(Y:jl s l):l=0/\0<s.length/\jB s.length (sg s):=by
 obtain⟨v,hc,G,⟨H,T⟩,I⟩:=Y
 have a:0<s.length:=by
  rcases Nat.eq_zero_or_pos s.length with U|U
  ·have u:=nY (sg s) s.length;have J:0<=dZ s.length (sg s) s.length:=Nat.zero_le _;omega
  ·exact U
 have Z:=h.lW p a;have hl:l=0:=by omega
 subst hl;have A:dZ s.length (sg s) s.length=1:=by omega
 have i:∀x y,x<s.length->y<s.length->dJ s.length (sg s) x y:=fun x y j K=>U8 h p A j K;have k:=JG h p A;rw[G]at k
 have hF:dY (sg (dS s)) s.length=dY (fun d=>sg s (mt d)) s.length:=by
  have X:=Bn h p;rw[mK]at X;have hq:dU s.length (fun d=>sg s (mt d)):=⟨fun d B=>h.lt _ (dR p B),fun d e B M hh=>by have:=h.inj _ _ (dR p B) (dR p M) hh;rw[<-dG d,this,dG]⟩
  exact x8 X hq (fun d B=>wQ B) _ (Nat.le_refl _)
 have N:s.length / 2+1<=dY (sg s) s.length+dY (fun d=>sg s (mt d)) s.length:=by rw[hF]at k;generalize dY (sg s) s.length=V at *;generalize dY (fun d=>sg s (mt d)) s.length=F at *;apply Nat.not_lt.1;intro q;rw[Int.tdiv_eq_ediv_of_nonneg (by omega)]at k;omega
 have m:∀x,x<s.length->∃e,e<s.length / 2/\((x=2 * e/\mt x=2 * e+1)\/(x=2 * e+1/\mt x=2 * e)):=fun x j=>⟨x / 2,by omega,by unfold mt;split <;> omega⟩
 have n:∀x,x<s.length->dB (sg s) x≠dB (sg s) (mt x):=fun x j=>by
  obtain⟨e,u,⟨o,c⟩|⟨o,c⟩⟩:=m x j
  ·rw[c,o];exact Fp.1 H e u
  ·rw[c,o];exact(Fp.1 H e u).symm
 refine⟨rfl,a,h,p,i,OE h p a (fun x j=>i 0 x a j) N,fun x j=>(I x j).1,n,fun x y j K u J=>?_⟩;obtain⟨e,O,C⟩:=m x j;obtain⟨f,Q,D⟩:=m y K;have r:∀g,g<s.length / 2->eA s g≠eB s g:=fun g G=>Fp.1 H g G;have t:=n x j;have z:min (eA s e) (eB s e)=min (eA s f) (eB s f)/\max (eA s e) (eB s e)=max (eA s f) (eB s f):=by rcases C with⟨v,o⟩|⟨v,o⟩ <;> rcases D with⟨c,E⟩|⟨c,E⟩ <;> rw[o,E]at J <;> rw[v,c]at u <;> unfold eA eB <;> rw[u,J] <;> refine⟨?_,?_⟩ <;> omega
 have S:e=f:=by
  rcases Nat.lt_trichotomy e f with q|rfl|q
  ·exact absurd z (DU.1 T e f q Q (r e O) (r f Q))
  ·rfl
  ·exact absurd ⟨z.1.symm,z.2.symm⟩ (DU.1 T f e q O (r f Q) (r e O))
 subst S;rcases C with⟨v,o⟩|⟨v,o⟩ <;> rcases D with⟨c,E⟩|⟨c,E⟩
 ·rw[v,c]
 ·exfalso;rw[o,<-c]at t;exact t u
 ·exfalso;rw[o,<-c]at t;exact t u
 ·rw[v,c]
end
section
open Go.RowKit
section
variable {w:World} {b:Nat} {s:List Nat} {root lone:Int} {R:Nat->Prop} (h:MapAt w b s root lone R) {W:World} (hq:fB w b s root lone R W)
include h hq
theorem MapAt.seq{a:World}(k:Keeps (fun _=>False) W a):fB w b s root lone R a:=h.sH hq (hq.1.Dc k)
theorem MapAt.yI:fB w b s root lone R W.drew:=h.seq hq ((Keeps.refl _ W).drew)
theorem MapAt.OP{d:Nat}(a:d<s.length):Calls Tryz.prog 123 #[.pointer (some ⟨b,0,none⟩),.int .i64 d] W fun e w'=>e=.returned (.int .i64 (dB (sg s) d:Nat))/\fB w b s root lone R w'/\Keeps (fun k=>k=b) W w' :=
 (JI hq.1 d a).mono (fun _ _ ⟨c,h2,_⟩=>⟨c,h.sH hq h2,h2.2⟩)
omit h in
theorem MapAt.OQ{d:Nat}(a:d<s.length):Calls Tryz.prog 77 #[.pointer (some ⟨b,0,none⟩),.int .i64 d] W fun e w'=>e=.returned (.int .i64 (mt d:Nat))/\W=w':=tO hq.1 d a
omit h in
theorem MapAt.Vz{d:Nat}(a:d<s.length):Calls Tryz.prog 125 #[.pointer (some ⟨b,0,none⟩),.int .i64 d] W fun e w'=>e=.returned (.int .i64 (sg s d:Nat))/\W=w':=wR hq.1 d a
theorem MapAt.OT{d:Nat}(a:d<s.length):Calls Tryz.prog 229 #[.pointer (some ⟨b,0,none⟩),.int .i64 d] W fun e w'=>∃v,e=.returned v/\dI W.heap.size w' v (dD (jg (sg s) d))/\fB w b s root lone R w'/\Keeps (fun _=>False) W w' :=
 (Ov hq.1 d a).mono (fun _ _ ⟨v,h1,h2,h3⟩=>⟨v,h1,h2,h.seq hq h3,h3⟩)
end
def lY(w:World)(g n:Nat)(P:Nat->Prop):Prop:=∃bs:List Bool,bs.length=n/\(∀x,x<n->(bs[x]? = some true/\P x)\/(bs[x]? = some false/\¬P x))/\w.heap[g]? = some (.cells (bs.map Value.bool).toArray 4 (0,0))
theorem lY.keeps{w w':World}{g n:Nat}{P F:Nat->Prop}(h:lY w g n P)(k:Keeps F w w')(a:¬F g):lY w' g n P:=by obtain⟨bs,c,d,e⟩:=h;exact⟨bs,c,d,k.at e a⟩
theorem lY.cell{w:World}{g n:Nat}{P:Nat->Prop}(h:lY w g n P){x:Nat}(f:x<n):∃t:Bool,(t=true↔P x)/\w.cell? ⟨g,x,none⟩=some (.bool t)/\w.frozen? ⟨g,x,none⟩=false:=by
 obtain⟨bs,j,i,c⟩:=h;have d:=dw c x;have e:=dx c x;rcases i x f with⟨a,b⟩|⟨a,b⟩
 ·exact⟨true,by simp[b],by rw[d];simp[a],e⟩
 ·exact⟨false,by simp[b],by rw[d];simp[a],e⟩
theorem lY.set{w:World}{g n:Nat}{P Q:Nat->Prop}(h:lY w g n P){x:Nat}(i:x<n)(e:∀y,y<n->(Q y↔P y\/y=x)):lY (w.setCell ⟨g,x,none⟩ (.bool true)) g n Q:=by
 obtain⟨bs,j,k,l⟩:=h;refine⟨bs.set x true,by simpa using j,fun y f=>?_,?_⟩
 ·rw[List.getElem?_set];by_cases d:x=y
  ·subst d;left;rw[if_pos rfl,if_pos (by omega)];exact⟨rfl,(e x i).2 (.inr rfl)⟩
  ·rw[if_neg d];rcases k y f with⟨a,b⟩|⟨a,b⟩
   ·exact .inl ⟨a,(e y f).2 (.inl b)⟩
   ·exact .inr ⟨a,fun hq=>by rcases(e y f).1 hq with c|c;exact b c;exact d c.symm⟩
 ·rw[jM l x (.bool true)];simp[List.map_set]
structure ni (w:World)(bx b V:Nat)(bv:Value)(gg gd:Nat)(bs ds:List Nat)(P:Nat->Prop):Prop where
 blk:w.heap[bx]? = some (.cells #[.pointer (some ⟨b,0,none⟩),bv,.slice (some ⟨gg,0,none⟩) V V,.slice (some ⟨gd,0,none⟩) V V] 304 (0,0))
 tY:dI 0 w bv (dD bs)
 Fq:lY w gg V P
 xO:dI 0 w (.slice (some ⟨gd,0,none⟩) V V) (dD ds)
 Fv:ds.length=V
 nb:bx≠b/\gg≠b/\gd≠b/\∀k,bv.ownBlock=some k->k≠b
 ap:gg≠bx/\gd≠bx/\gg≠gd/\∀k,bv.ownBlock=some k->k≠bx/\k≠gg/\k≠gd
section
variable {w:World} {bx b V:Nat} {bv:Value} {gg gd:Nat} {bs ds:List Nat} {P:Nat->Prop} (h:ni w bx b V bv gg gd bs ds P)
include h
theorem ni.keeps{w':World}{F:Nat->Prop}(k:Keeps F w w')(a:¬F bx)(c:¬F gg)(d:¬F gd)(e:∀q,bv.ownBlock=some q->¬F q):ni w' bx b V bv gg gd bs ds P :=
 ⟨k.at h.blk a,h.tY.keeps k e,h.Fq.keeps k c,h.xO.keeps k (fun q hq=>by simp only [Value.ownBlock,Option.some.injEq]at hq;subst hq;exact d),h.Fv,h.nb,h.ap⟩
theorem ni.ny{w':World}{F:Nat->Prop}(k:Keeps F w w')(hF:∀x,F x->x=b):ni w' bx b V bv gg gd bs ds P :=
 h.keeps k (fun e=>h.nb.1 (hF _ e)) (fun e=>h.nb.2.1 (hF _ e)) (fun e=>h.nb.2.2.1 (hF _ e)) (fun q hq e=>h.nb.2.2.2 q hq (hF _ e))
theorem ni.c0:w.cell? ⟨bx,0,none⟩=some (.pointer (some ⟨b,0,none⟩)):=dw h.blk 0
theorem ni.c1:w.cell? ⟨bx,1,none⟩=some bv:=dw h.blk 1
theorem ni.c2:w.cell? ⟨bx,2,none⟩=some (.slice (some ⟨gg,0,none⟩) V V):=dw h.blk 2
theorem ni.c3:w.cell? ⟨bx,3,none⟩=some (.slice (some ⟨gd,0,none⟩) V V):=dw h.blk 3
theorem ni.Fz{a d:Nat}(c:ds[a]? = some d):w.cell? ⟨gd,a,none⟩=some (.int .i64 (d:Nat)):=(h.xO.cell (jI c)).1
end
noncomputable def toD(S:Nat->Nat)(l:List Nat)(c:Nat):Int:=match l.find? (fun d=>dB S (mt d) == c) with|some d=>(d:Int)|none=>-1
theorem OU{S:Nat->Nat}{l:List Nat}{c j d:Nat}(g:l[j]? = some d)(k:dB S (mt d)=c)(f:∀(i:Nat) (e:Nat),i<j->l[i]? = some e->dB S (mt e)≠c):toD S l c=(d:Int):=by
 induction l generalizing j with
 | nil=>simp at g
 | cons a l m =>
  unfold toD;rcases j with _|j
  ·simp only [List.getElem?_cons_zero,Option.some.injEq]at g;subst g;simp[k]
  ·have n:=f 0 a (by omega) rfl;have:(dB S (mt a) == c)=false:=by rw[beq_eq_false_iff_ne];exact n
   rw[List.find?_cons,this];have:=m (j:=j) (by simpa using g) (fun i e p o=>f (i+1) e (by omega) (by simpa using o));unfold toD at this;exact this
theorem VA{S:Nat->Nat}{l:List Nat}{c:Nat}(a:∀(i:Nat) (e:Nat),l[i]? = some e->dB S (mt e)≠c):toD S l c=-1:=by
 unfold toD;have:l.find? (fun d=>dB S (mt d) == c)=none:=by rw[List.find?_eq_none];intro x f;obtain⟨i,g,j⟩:=List.mem_iff_getElem.1 f;have:=a i x (by rw[List.getElem?_eq_getElem g,j]);simpa using this
 rw[this]
section
variable {w:World} {b:Nat} {s:List Nat} {root lone:Int} {R:Nat->Prop} (h:MapAt w b s root lone R)
variable {bx V:Nat} {bv:Value} {gg gd:Nat} {bs ds:List Nat} {P:Nat->Prop} (L:ni w bx b V bv gg gd bs ds P)
include h L
theorem VB(a c d:Nat)(M:ds[a]? = some d)(I:d<s.length) :
  Calls Tryz.prog 261 #[.pointer (some ⟨bx,0,none⟩),.int .i64 a,.int .i64 c] w fun e w'=>e=.returned (.int .i64 (toD (sg s) (jg (sg s) d) c))/\fB w b s root lone R w':=by
 have aa:a<V:=by rw[<-L.Fv];exact iE M
 have Z:Hid (∀W,fB w b s root lone R W->Calls Tryz.prog 229 #[.pointer (some ⟨b,0,none⟩),.int .i64 d] W fun e w'=>∃v,e=.returned v/\dI W.heap.size w' v (dD (jg (sg s) d))/\fB w b s root lone R w'/\Keeps (fun _=>False) W w'):=dh (fun W hq=>h.OT hq I)
 have z:Hid (∀W,fB w b s root lone R W->W.cell? ⟨bx,0,none⟩=some (.pointer (some ⟨b,0,none⟩))/\W.cell? ⟨bx,3,none⟩=some (.slice (some ⟨gd,0,none⟩) V V)/\W.cell? ⟨gd,a,none⟩=some (.int .i64 (d:Nat))) :=
  dh (fun W hq=>by have O:=L.ny hq.2 (fun _ h=>h);exact⟨O.c0,O.c3,O.Fz M⟩)
 have J:=dh h;have p:=h.vN;have n:=h.yI p;have ab:=h.le;obtain⟨l,K⟩:∃l,l=jg (sg s) d:=⟨_,rfl⟩
 rw[<-K]at Z ⊢;have Q:l.length<=1000000:=by rw[K];have h2:=(h.dW.dQ I).2.1;simp only [q0z];omega
 have T:Hid (∀x ∈ l,x<s.length/\mt x<s.length):=dh (fun x hx=>by rw[K]at hx;have:=h.dW.fK I ((h.dW.gF I).1 hx);exact⟨this,dR h.even this⟩);clear h L M K;obtain⟨d0,d3,dd⟩:=z.out w p;go_enter Tryz.func261,Tryz.ntmps261;go_wp2_with fail;go_region_held3 (fun w'=>w'.cell? ⟨bx,0,none⟩=some (.pointer (some ⟨b,0,none⟩))/\w'.cell? ⟨bx,3,none⟩=some (.slice (some ⟨gd,0,none⟩) V V)/\w'.cell? ⟨gd,a,none⟩=some (.int .i64 (d:Nat))) (first|exact z.out _ p|exact z.out _ n|exact z.out _ f) (first | (go_at_call 229;refine(Z.out _ (by first|exact p|exact n)).mono ?_;rintro e w1 ⟨v1,rfl,o,f,U⟩;obtain⟨va,vc,rfl,-,-⟩:=o.form));rw[q01];have ad:w.heap.size<=w1.heap.size:=f.2.size;have HS:Hid (∀W,Keeps (fun k=>k=b) w1 W->Sl .i64 W (.slice va l.length vc) (dD l)):=dh (fun W t=>by have hb:=J.out.lt;have:=o.keeps t (fun q hq e=>by have:=(o.lt q hq).1;simp at this;omega);rw[q01]at this;exact this.sl);clear o U p n d0 d3 dd;obtain⟨N,X⟩:∃N,N=l.length:=⟨_,rfl⟩
 rw[<-X]at HS Q ⊢;have HN:=dh X;clear X;go_wp2_with fail;go_loopg [22] N (fun m i wr=>∃j:Nat,j<=N/\m=N - j/\i=.int .i64 j/\(∀(k e:Nat),k<j->l[k]? = some e->dB (sg s) (mt e)≠c)/\fB w b s root lone R wr/\Keeps (fun k=>k=b) w1 wr)
 case atStart=>exact⟨0,Nat.zero_le _,rfl,rfl,fun k e t=>by omega,f,Keeps.refl _ _⟩
 case round =>
  clear f;obtain⟨j,hj,E,rfl,F,hq,t⟩:=hrel;have HG:=dh E;have Y:=dh F;clear E F;by_cases G:j<N
  ·obtain⟨y,D⟩:∃y,l[j]? = some y:=⟨_,List.getElem?_eq_getElem (by rw[<-HN.out];exact G)⟩
   obtain⟨g,off,rfl,ae⟩:=(HS.out wr t).cellAt (jI D);have B:=T.out y (List.mem_of_getElem? D);have n:=J.out.yI hq;have HM:Hid (∀W,fB w b s root lone R W->Calls Tryz.prog 77 #[.pointer (some ⟨b,0,none⟩),.int .i64 y] W fun e w'=>e=.returned (.int .i64 (mt y:Nat))/\W=w'):=dh (fun W hq=>MapAt.OQ hq B.1);have HX:Hid (∀W,fB w b s root lone R W->Calls Tryz.prog 123 #[.pointer (some ⟨b,0,none⟩),.int .i64 (mt y:Nat)] W fun e w'=>e=.returned (.int .i64 (dB (sg s) (mt y):Nat))/\fB w b s root lone R w'/\Keeps (fun k=>k=b) W w'):=dh (fun W hq=>J.out.OP hq B.2);have af:=sO J.out.dW B.2;obtain⟨d0,-,-⟩:=z.out wr hq;go_wp2_with fail;go_region_held3 (fun w'=>w'.cell? ⟨bx,0,none⟩=some (.pointer (some ⟨b,0,none⟩))) (first|exact(z.out _ hq).1|exact(z.out _ n).1|exact(z.out _ f).1) (first | (go_at_call 77;refine(HM.out _ (by first|exact hq|exact n)).mono ?_;rintro e w' ⟨rfl,rfl⟩) | (go_at_call 123;refine(HX.out _ (by first|exact hq|exact n)).mono ?_;rintro e w2 ⟨rfl,f,u⟩));have H:Keeps (fun k=>k=b) w1 w2:=by first|exact t.trans u (fun _ _ e=>e)|exact t.drew.trans u (fun _ _ e=>e)
   by_cases r:dB (sg s) (mt y)=c
   ·have tv:((dB (sg s) (mt y):Int) == (c:Int))=true:=by rw[r];exact beq_self_eq_true _
    have C:=dh (dn (OU D r (fun i e hi A=>Y.out i e hi A)) f);clear f u t hq n D r;go_wp2;go_ret;exact⟨by rw[C.out.1];rfl,C.out.2⟩
   ·have tv:((dB (sg s) (mt y):Int) == (c:Int))=false:=by rw[beq_eq_false_iff_ne];omega
    have C:=dh (dn (show ∀(k e:Nat),k<j+1->l[k]? = some e->dB (sg s) (mt e)≠c from fun k e t A=>by
     rcases Nat.lt_or_ge k j with h1|h1
     ·exact Y.out k e h1 A
     ·obtain rfl:k=j:=by omega
      rw[D]at A;obtain rfl:=Option.some.inj A;exact r) (dn f H))
    clear f u t hq n D r H;go_wp2;go_roundg (N - (j+1))
    case measure=>rw[HG.out];omega
    case rel=>exact⟨j+1,by omega,rfl,by go_num,C.out⟩
  ·obtain rfl:j=N:=by omega
   have C:=dh (dn (VA (S:=sg s) (c:=c) (l:=l) (fun i e A=>Y.out i e (by rw[HN.out];exact iE A) A)) hq);clear hq t G;go_wp2;go_ret;exact⟨by rw[C.out.1];rfl,C.out.2⟩
noncomputable def vO(S:Nat->Nat)(bs l:List Nat):Nat:=(l.filter fun y=>bs.contains (dB S (mt y))).length
omit h L in
theorem VD{S:Nat->Nat}{l:List Nat}{j y:Nat}(c:l[j]? = some y):vO S bs (l.take (j+1))=vO S bs (l.take j)+if dB S (mt y) ∈ bs then 1 else 0:=by
 unfold vO;rw[pE c,List.filter_append,List.length_append];congr 1;by_cases a:dB S (mt y) ∈ bs
 ·rw[if_pos a,List.filter_cons_of_pos (by simpa using a)];rfl
 ·rw[if_neg a,List.filter_cons_of_neg (by simpa using a)];rfl
omit h L in
theorem VE(S:Nat->Nat)(l:List Nat)(j:Nat):vO S bs (l.take j)<=j:=by unfold vO;have:=List.length_filter_le (fun y=>bs.contains (dB S (mt y))) (l.take j);rw[List.length_take]at this;omega
theorem VF(i v d:Nat)(hi:bs[i]? = some v)(ha:ds[v]? = some d)(Z:d<s.length)(p:∀u ∈ bs,¬P u)(ai:bs.length<=1000000)(M:∀x,x<s.length->dB (sg s) x<V) :
  Calls Tryz.prog 256 #[.pointer (some ⟨bx,0,none⟩),.int .i64 i] w fun e w'=>e=.returned (.bool (decide (vO (sg s) bs (jg (sg s) d)=2)))/\fB w b s root lone R w':=by
 have aj:v<V:=by rw[<-L.Fv];exact iE ha
 have ak:i<bs.length:=iE hi;have HA:Hid (∀W,fB w b s root lone R W->Calls Tryz.prog 229 #[.pointer (some ⟨b,0,none⟩),.int .i64 d] W fun e w'=>∃v,e=.returned v/\dI W.heap.size w' v (dD (jg (sg s) d))/\fB w b s root lone R w'/\Keeps (fun _=>False) W w'):=dh (fun W hq=>h.OT hq Z);have HL:Hid (∀W,fB w b s root lone R W->ni W bx b V bv gg gd bs ds P):=dh (fun W hq=>L.ny hq.2 (fun _ h=>h))
 have C:Hid (∀W,fB w b s root lone R W->W.cell? ⟨bx,0,none⟩=some (.pointer (some ⟨b,0,none⟩))/\W.cell? ⟨bx,3,none⟩=some (.slice (some ⟨gd,0,none⟩) V V)/\W.cell? ⟨gd,v,none⟩=some (.int .i64 (d:Nat))) :=
  dh (fun W hq=>by have L':=L.ny hq.2 (fun _ h=>h);exact⟨L'.c0,L'.c3,L'.Fz ha⟩)
 have HH:=dh h;have r:=h.vN;have o:=h.yI r;have al:=h.le;obtain⟨l,hl⟩:∃l,l=jg (sg s) d:=⟨_,rfl⟩
 rw[<-hl]at HA ⊢;have aa:l.length<=1000000:=by rw[hl];have h2:=(h.dW.dQ Z).2.1;simp only [q0z];omega
 have ab:Hid (∀x ∈ l,x<s.length/\mt x<s.length):=dh (fun x K=>by rw[hl]at K;have:=h.dW.fK Z ((h.dW.gF Z).1 K);exact⟨this,dR h.even this⟩);have HV:=dh (dn M p);have ad:=L.tY.form;obtain⟨ba,bc,rfl,am,-⟩:=ad;rw[q01]at HL L;have e1:=L.c1;obtain⟨bg,rfl⟩:=pz L.tY (by rw[q01];omega);have e2:=(L.tY.cell (jI hi)).1;obtain⟨d0,d3,dd⟩:=C.out w r;clear h L ha hl M p;go_enter Tryz.func256,Tryz.ntmps256;go_wp2_with fail;go_region_held3 (fun w'=>w'.cell? ⟨bx,0,none⟩=some (.pointer (some ⟨b,0,none⟩))/\w'.cell? ⟨bx,3,none⟩=some (.slice (some ⟨gd,0,none⟩) V V)/\w'.cell? ⟨gd,v,none⟩=some (.int .i64 (d:Nat))) (first|exact C.out _ r|exact C.out _ o|exact C.out _ f) (first | (go_at_call 229;refine(HA.out _ (by first|exact r|exact o)).mono ?_;rintro e w1 ⟨v1,rfl,n,f,ae⟩;obtain⟨va,vc,rfl,-,-⟩:=n.form));rw[q01];have an:w.heap.size<=w1.heap.size:=f.2.size;have HS:Hid (∀W,Keeps (fun k=>k=b) w1 W->Sl .i64 W (.slice va l.length vc) (dD l)):=dh (fun W E=>by have hb:=HH.out.lt;have:=n.keeps E (fun q hq e=>by have:=(n.lt q hq).1;simp at this;omega);rw[q01]at this;exact this.sl);clear n ae r o d0 d3 dd e1 e2;obtain⟨N,hN⟩:∃N,N=l.length:=⟨_,rfl⟩
 rw[<-hN]at HS aa ⊢;have HN:=dh hN;clear hN;go_wp2_with fail;go_loopg [6,30] N (fun m c i wr=>∃j:Nat,j<=N/\m=N - j/\i=.int .i64 j/\c=.int .i64 (vO (sg s) bs (l.take j):Nat)/\fB w b s root lone R wr/\Keeps (fun k=>k=b) w1 wr)
 case atStart=>exact⟨0,Nat.zero_le _,rfl,rfl,rfl,f,Keeps.refl _ _⟩
 case round =>
  clear f;obtain⟨j,hj,O,rfl,rfl,hq,E⟩:=hrel;have HG:=dh O;clear O;have af:=VE (bs:=bs) (sg s) l j;by_cases Q:j<N
  ·obtain⟨y,hy⟩:∃y,l[j]? = some y:=⟨_,List.getElem?_eq_getElem (by rw[<-HN.out];exact Q)⟩
   obtain⟨g,off,rfl,ag⟩:=(HS.out wr E).cellAt (jI hy);have F:=ab.out y (List.mem_of_getElem? hy);have o:=HH.out.yI hq;have HM:Hid (∀W,fB w b s root lone R W->Calls Tryz.prog 77 #[.pointer (some ⟨b,0,none⟩),.int .i64 y] W fun e w'=>e=.returned (.int .i64 (mt y:Nat))/\W=w'):=dh (fun W hq=>MapAt.OQ hq F.1);have HX:Hid (∀W,fB w b s root lone R W->Calls Tryz.prog 123 #[.pointer (some ⟨b,0,none⟩),.int .i64 (mt y:Nat)] W fun e w'=>e=.returned (.int .i64 (dB (sg s) (mt y):Nat))/\fB w b s root lone R w'/\Keeps (fun k=>k=b) W w'):=dh (fun W hq=>HH.out.OP hq F.2);have T:=HV.out.1 _ F.2;have a:=VD (bs:=bs) (S:=sg s) hy;obtain⟨u,hu⟩:∃u,u=dB (sg s) (mt y):=⟨_,rfl⟩
   rw[<-hu]at HX T a;obtain⟨d0,-,-⟩:=C.out wr hq;clear hu;go_wp2_with fail;go_region_held3 (fun w'=>w'.cell? ⟨bx,0,none⟩=some (.pointer (some ⟨b,0,none⟩))) (first|exact(C.out _ hq).1|exact(C.out _ o).1|exact(C.out _ f).1) (first | (go_at_call 77;refine(HM.out _ (by first|exact hq|exact o)).mono ?_;rintro e w' ⟨rfl,rfl⟩) | (go_at_call 123;refine(HX.out _ (by first|exact hq|exact o)).mono ?_;rintro e w2 ⟨rfl,f,G⟩));have U:Keeps (fun k=>k=b) w1 w2:=by first|exact E.trans G (fun _ _ e=>e)|exact E.drew.trans G (fun _ _ e=>e)
   have X:=HL.out w2 f;have e1:=X.c1;have e2:=X.c2;obtain⟨t1,t,ao,-⟩:=X.Fq.cell T;have H:=Ox (u:Int) X.tY.sl (by rw[q01];omega);have I:=dh (dn f U);clear f G E hq o U X d0 ag hy;generalize vO (sg s) bs (l.take j)=c at *;by_cases J:P u
   ·have ah:u ∉ bs:=fun e=>HV.out.2 u e J;rw[if_neg ah]at a;obtain rfl:t1=true:=t.2 J;have D:=dh a;clear a H t;go_wp2;go_roundg (N - (j+1))
    case measure=>rw[HG.out];omega
    case rel=>exact⟨j+1,by omega,rfl,by go_num,by rw[D.out];go_num,I.out⟩
   ·obtain rfl:t1=false:=by
     cases t1
     ·rfl
     ·exact absurd (t.1 rfl) J
    clear t;go_wp2_with fail;refine H.mono ?_;rintro e w' ⟨rfl,t2,rfl,z⟩;clear H
    have A:(u:Int) ∈ dD bs↔u ∈ bs:=by
     unfold dD;rw[List.mem_map]
     exact⟨fun ⟨x,K,e⟩=>by
                   have:x=u:=by omega
                   rwa [this]at K,fun K=>⟨u,K,rfl⟩⟩
    by_cases B:u ∈ bs
    ·rw[if_pos B]at a;obtain rfl:t2=true:=z.2 (A.2 B);have D:=dh a;clear a z A;go_wp2;go_roundg (N - (j+1))
     case measure=>rw[HG.out];omega
     case rel=>exact⟨j+1,by omega,rfl,by go_num,by rw[D.out];go_num,I.out⟩
    ·rw[if_neg B]at a
     obtain rfl:t2=false:=by
      cases t2
      ·rfl
      ·exact absurd (A.1 (z.1 rfl)) B
     have D:=dh a;clear a z A;go_wp2;go_roundg (N - (j+1))
     case measure=>rw[HG.out];omega
     case rel=>exact⟨j+1,by omega,rfl,by go_num,by rw[D.out];go_num,I.out⟩
  ·obtain rfl:j=N:=by omega
   rw[List.take_of_length_le (by rw[HN.out];exact Nat.le_refl _)]at af ⊢
   have Y:(((vO (sg s) bs l:Nat):Int) == 2)=decide (vO (sg s) bs l=2):=by
    by_cases e:vO (sg s) bs l=2
    ·rw[e];rfl
    ·rw[decide_eq_false e,beq_eq_false_iff_ne];omega
   have D:=dh (dn Y hq);clear hq E Q Y;go_wp2;go_ret;exact⟨by rw[<-D.out.1];rfl,D.out.2⟩
theorem VG(F:Nat)(hF:1<=F)(D:F<bs.length)(f:∀j,1<=j->j<=F->∃v d,bs[j]? = some v/\ds[v]? = some d/\d<s.length/\(vO (sg s) bs (jg (sg s) d)=2↔j=F))(a:∀u ∈ bs,¬P u)(q:bs.length<=1000000)(g:∀x,x<s.length->dB (sg s) x<V) :
  Calls Tryz.prog 222 #[.pointer (some ⟨bx,0,none⟩)] w fun e w'=>e=.returned (.int .i64 (F:Nat))/\fB w b s root lone R w':=by
 have E:Hid (∀W,fB w b s root lone R W->ni W bx b V bv gg gd bs ds P):=dh (fun W hq=>L.ny hq.2 (fun _ h=>h));have G:=dh h;have k:=h.vN;have r:=dh (dn f (dn a g));clear h L f a g;go_enter Tryz.func222,Tryz.ntmps222;go_wp2_with fail;go_loopg [3] (F - 1) (fun m i wr=>∃j:Nat,1<=j/\j<=F/\m=F - j/\i=.int .i64 j/\fB w b s root lone R wr)
 case atStart=>exact⟨1,Nat.le_refl _,hF,rfl,rfl,k⟩
 case round =>
  clear k;obtain⟨j,t,H,l,rfl,hq⟩:=hrel;have I:=dh l;clear l;obtain⟨v,d,y,z,A,B⟩:=r.out.1 j t H;have n:=VF hq.1 (E.out wr hq) j v d y z A r.out.2.1 q r.out.2.2;have J:=dh hq;have C:=dh B;clear hq y z A B;go_wp2_with fail;refine n.mono ?_;rintro e K ⟨rfl,o⟩;have p:=dh (G.out.sH J.out o);clear o n;by_cases c:j=F
  ·rw[decide_eq_true (C.out.2 c)];subst c;go_wp2;go_ret;exact⟨rfl,p.out⟩
  ·rw[decide_eq_false (fun e=>c (C.out.1 e))];go_wp2;go_roundg (F - (j+1))
   case measure=>rw[I.out];omega
   case rel=>exact⟨j+1,by omega,by omega,rfl,by go_num,p.out⟩
end
end
section
def iL:(Nat->Bool)->Nat->Nat
 | _,0=>0
 | f,n+1=>(f 0).toNat+2 * iL (fun i=>f (i+1)) n
theorem q1z:∀(n:Nat) (f:Nat->Bool) (i:Nat),Nat.testBit (iL f n) i=(decide (i<n) && f i)
 | 0,f,i=>by simp[iL]
 | n+1,f,0=>by unfold iL;rw[Nat.testBit_zero];cases f 0 <;> simp <;> omega
 | n+1,f,i+1=>by
  unfold iL;rw[Nat.testBit_succ]
  have e:((f 0).toNat+2 * iL (fun i=>f (i+1)) n) / 2=iL (fun i=>f (i+1)) n:=by
   have:(f 0).toNat<=1:=by cases f 0 <;> simp
   omega
  rw[e,q1z n];simp
theorem OV:∀(n:Nat) (f:Nat->Bool),iL f n<2 ^ n
 | 0,f=>by simp[iL]
 | n+1,f=>by
  unfold iL;have:=OV n (fun i=>f (i+1));have:(f 0).toNat<=1:=by cases f 0 <;> simp
  omega
theorem VH{n:Nat}{f g:Nat->Bool}(h:∀i,i<n->f i=g i):iL f n=iL g n:=by
 apply Nat.eq_of_testBit_eq;intro i;rw[q1z,q1z];by_cases a:i<n
 ·rw[h i a]
 ·simp[a]
theorem VI{f:Nat->Bool}{b:Nat}(c:b<256):iL (fun i=>if i<8 then f i != Nat.testBit b i else f i) 32=iL f 32 ^^^ b:=by
 apply Nat.eq_of_testBit_eq;intro i;rw[q1z,Nat.testBit_xor,q1z];by_cases a:i<8
 ·have:i<32:=by omega
  simp[a,this]
 ·have:Nat.testBit b i=false:=Nat.testBit_lt_two_pow (Nat.lt_of_lt_of_le (show b<2 ^ 8 from c) (Nat.pow_le_pow_right (by omega) (by omega)));simp[a,this]
theorem VJ{f:Nat->Bool}:iL (fun i=>(if i<31 then f (i+1)else false) != (f 0 && Nat.testBit 3988292384 i)) 32=xJ (iL f 32):=by
 have a:Nat.testBit (iL f 32) 0=f 0:=by rw[q1z];simp
 have g:∀i,Nat.testBit (iL f 32 / 2) i=(decide (i+1<32) && f (i+1)):=fun i=>by rw[<-Nat.testBit_succ,q1z]
 unfold xJ;rw[Nat.testBit_zero]at a;apply Nat.eq_of_testBit_eq;intro i;rw[q1z];cases hf:f 0
 ·have d:iL f 32 % 2=0:=by rw[hf]at a;simp at a;omega
  rw[if_pos d,g];by_cases c:i<31
  ·have:i<32:=by omega
   have e:i+1<32:=by omega
   simp[c,this,e]
  ·have:¬i+1<32:=by omega
   simp[c,this]
 ·have d:¬iL f 32 % 2=0:=by rw[hf]at a;simp at a;omega
  rw[if_neg d,Nat.testBit_xor,g];by_cases c:i<31
  ·have:i<32:=by omega
   have e:i+1<32:=by omega
   simp[c,this,e]
  ·by_cases j:i<32
   ·have:i=31:=by omega
    subst this;simp
   ·have k:Nat.testBit 3988292384 i=false:=Nat.testBit_lt_two_pow (Nat.lt_of_lt_of_le (show 3988292384<2 ^ 32 by decide) (Nat.pow_le_pow_right (by omega) (by omega)));have:¬i+1<32:=by omega
    simp only [c,j,k,this,decide_false,Bool.false_and,Bool.and_false,if_false,bne_self_eq_false]
theorem VK(f:Nat->Bool):iL (fun i=>!f i) 32=iL f 32 ^^^ 4294967295:=by
 apply Nat.eq_of_testBit_eq;intro i;rw[q1z,Nat.testBit_xor,q1z];have h:Nat.testBit 4294967295 i=decide (i<32):=by have:=Nat.testBit_two_pow_sub_one 32 i;exact this
 rw[h];by_cases a:i<32 <;> simp[a]
theorem VL:iL (fun _=>true) 32=4294967295:=by decide
theorem VN(f:Nat->Bool){i:Nat}(c:i<32):iL (fun q=>!f (i+q)) (32 - i)=(!f i).toNat+2 * iL (fun q=>!f (i+1+q)) (32 - (i+1)):=by
 obtain⟨m,a⟩:∃m,32 - i=m+1:=⟨31 - i,by omega⟩
 rw[a,show 32 - (i+1)=m by omega];show (!f (i+0)).toNat+2 * iL (fun q=>!f (i+(q+1))) m=_;rw[Nat.add_zero];congr 2;apply VH;intro q _;rw[show i+(q+1)=i+1+q by omega]
end
