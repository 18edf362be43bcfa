import Derived.Deep.CutRange
import Derived.Test.YtalhcfjcbbkpgaaGreatZp03
set_option maxRecDepth 100000
set_option maxHeartbeats 4000000
namespace Go.Proofs.YtalhcfjcbbkpgaaGreat
section
open Go.RowKit
theorem Sl.take{k:IntKind}{w:World}{a:Option Addr}{n cap:Nat}{zs:List Int}(h:Sl k w (.slice a n cap) zs)(m:Nat)(l:m<=zs.length):Sl k w (.slice a m cap) (zs.take m):=by
 obtain⟨o,c,d,p,e,f,g⟩:=h;simp only [Value.slice.injEq]at d;obtain⟨rfl,rfl,rfl⟩:=d;have i:(zs.take m).length=m:=by simp;omega
 refine⟨a,cap,by rw[i],by omega,e,f,fun j z b=>?_⟩;rw[List.getElem?_take]at b;split at b
 ·exact g j z b
 ·cases b
def ku(s:Nat)(ks:List Nat):List Int:=(ks.filter fun k=>k / 2 == s).map fun k=>1 - (k % 2:Nat)
theorem QF(s:Nat)(ks:List Nat):∀z ∈ ku s ks,z=0\/z=1:=by intro z a;simp only [ku,List.mem_map]at a;obtain⟨k,_,rfl⟩:=a;omega
theorem KT(s:Nat)(ks:List Nat):q0z (ku s ks)=ownB s ks:=by unfold q0z ku ownB;rw[List.map_map];apply List.map_congr_left;intro k _;simp only [Function.comp];rcases Nat.mod_two_eq_zero_or_one k with h|h <;> rw[h] <;> rfl
theorem FQ(s:Nat)(ks:List Nat):(ku s ks).length=(ownB s ks).length:=by simp[ku,ownB]
theorem QG{s:Nat}{ks:List Nat}{i k:Nat}(h:ks[i]? = some k)(a:k / 2=s):ku s (ks.take (i+1))=ku s (ks.take i) ++ [1 - ((k % 2:Nat):Int)]:=by rw[oW h];simp[ku,a]
theorem QH{s:Nat}{ks:List Nat}{i k:Nat}(h:ks[i]? = some k)(a:¬k / 2=s):ku s (ks.take (i+1))=ku s (ks.take i):=by rw[oW h];simp[ku,a]
def o8(s:Nat)(ks:List Nat)(i:Nat)(ps:List Nat):Prop:=ps.length=pr s ks i/\∀j n,ps[j]? = some n->fM s ks j n
theorem o8.step{s:Nat}{ks:List Nat}{i k:Nat}{ps:List Nat}(b:o8 s ks i ps)(h:ks[i]? = some k)(e:k / 2=s):o8 s ks (i+1) (ps ++ [i]):=by
 refine⟨by rw[List.length_append,b.1,Bo s h,if_pos e];rfl,fun j n a=>?_⟩;rw[List.getElem?_append]at a;split at a
 ·exact b.2 j n a
 ·rename_i f
  have c:j - ps.length=0:=by
   rcases Nat.eq_zero_or_pos (j - ps.length)with h|h
   ·exact h
   ·rw[List.getElem?_eq_none (by simp;omega)]at a;cases a
  rw[c]at a;simp only [List.getElem?_cons_zero,Option.some.injEq]at a;subst a;have d:j=pr s ks i:=by rw[<-b.1];omega
  subst d;exact fM.at h e
theorem o8.skip{s:Nat}{ks:List Nat}{i k:Nat}{ps:List Nat}(a:o8 s ks i ps)(h:ks[i]? = some k)(b:¬k / 2=s):o8 s ks (i+1) ps :=
 ⟨by rw[Bo s h,if_neg b];exact a.1,a.2⟩
def sN(w:World)(s:Nat)(ks:List Nat)(i:Nat)(a b:Value)(wr:World):Prop :=
 ∃ps,dH w.heap.size wr a (ku s (ks.take i))/\dH w.heap.size wr b (dD ps)/\o8 s ks i ps/\(∀k,a.ownBlock=some k->b.ownBlock≠some k)/\Keeps (fun _=>False) w wr
theorem qc5(sv:Value)(ks:List Nat)(s:Nat)(w:World)(hs:Sl .i64 w sv (dD ks))(h4:∀k ∈ ks,k<4)(hl:ks.length<=100000000) :
  Calls Tryz.prog 182 #[sv,.int .i64 s] w fun e w'=>∃J K,e=.returned (.tuple #[J,K])/\sN w s ks ks.length J K w':=by
 obtain⟨a,cap,rfl,Q,ae,_,R⟩:=hs;rw[q01]at Q ⊢;go_enter Tryz.func182,Tryz.ntmps182;go_wp2_with fail;go_loopw [6,7,12] (fun J K i wr=>∃k:Nat,k<=ks.length/\i=.int .i64 k/\sN w s ks k J K wr) (fun _ _ i _=>ks.length - (intOf i).toNat)
 case atStart=>exact⟨0,Nat.zero_le _,rfl,[],dH.nil _ _,dH.nil _ _,⟨by rw[qc4];rfl,fun j n h=>by simp at h⟩,fun k t=>by simp[Value.ownBlock]at t,Keeps.refl _ _⟩
 case round =>
  obtain⟨i,hi,rfl,ps,u,p,z,v,d⟩:=hrel;have D:=d.size;obtain⟨S,oc,rfl,E,ab⟩:=u.form;obtain⟨L,ac,rfl,F,ad⟩:=p.form;obtain⟨n,M⟩:∃n,n=(ku s (ks.take i)).length:=⟨_,rfl⟩
  obtain⟨m,N⟩:∃m,m=(dD ps).length:=⟨_,rfl⟩
  have T:n<=10000000000:=by rw[M,FQ];have:=qc3 s (ks.take i);have:(ks.take i).length<=i:=List.length_take_le _ _;omega
  have U:m<=10000000000:=by rw[N,q01,z.1];have:=uK s ks i hi;have:=qc3 s ks;omega
  rw[<-M]at u E v ⊢;rw[<-N]at p F v ⊢;have HN:=dh M.symm;have HM:=dh N.symm;clear M N;by_cases V:i<ks.length
  ·have t:=List.getElem?_eq_getElem V;have af:=h4 _ (List.mem_of_getElem? t);obtain⟨g,off,rfl,q⟩:=R i _ (jA t);have O:=d.oQ q;generalize ks[i]=k at *;clear R q;by_cases o:k / 2=s
   ·have tk:((k:Int) / 2 == (s:Int))=true:=by rw[beq_iff_eq];omega
    have t1:=QG t o;have t2:=z.step t o;have HT:=dh (dn t1 t2);have f:k<=3:=by omega
    clear t1 t2 z t o;go_wp2_with (first | (at_builtin;refine oz n rfl _ _ rfl w.heap.size (.slice S n oc) (ku s (ks.take i)) (1 - (k:Int) % 2) HN _ rfl rfl rfl u T D ?_;intro C G w3 l f A hg) | (at_builtin;refine oz m rfl _ _ rfl w.heap.size (.slice L m ac) (dD ps) i HM _ rfl rfl rfl (p.keeps f (fun b P h=>v b h P)) U (Nat.le_trans D f.size) ?_;intro W H w5 r B y ag))
    have c:sN w s ks (i+1) (.slice (some ⟨C,0,none⟩) (n+1) G) (.slice (some ⟨W,0,none⟩) (m+1) H) w5:=by
     have ah:C≠W:=by
      rcases A with h|h <;> rcases y with X|X
      ·intro e;subst e;exact v _ h X
      ·have:=(u.lt C h).2;have:=f.size;omega
      ·have:=(p.lt W X).2;omega
      ·have:=(l.lt C rfl).2;omega
     have Y:Value.ownBlock (.slice L m ac)≠some C:=by
      intro e;rcases A with h|h
      ·exact v _ h e
      ·have:=(p.lt C e).2;omega
     refine⟨ps ++ [i],?_,?_,HT.out.2,fun x Z hy=>?_,(d.trans f (fun x Z h=>by have:=(u.lt x h).1;omega)).trans B (fun x Z h=>by have:=(p.lt x h).1;omega)⟩
     ·rw[HT.out.1];have e:(1:Int) - ((k % 2:Nat):Int)=1 - (k:Int) % 2:=by omega
      rw[e];exact l.keeps B (fun b P h=>by simp only [Value.ownBlock,Option.some.injEq]at P;subst P;exact Y h)
     ·have e:dD (ps ++ [i])=dD ps ++ [(i:Int)]:=by simp[dD]
      rw[e];exact r
     ·simp only [Value.ownBlock,Option.some.injEq]at Z hy;omega
    have I:=dh c;clear c l f A r B y u p v d;go_wp2;go_roundw
    case rel=>exact⟨i+1,by omega,by go_num,I.out⟩
    case measure=>simp[intOf];omega
   ·have tk:((k:Int) / 2 == (s:Int))=false:=by rw[beq_eq_false_iff_ne];omega
    have c:sN w s ks (i+1) (.slice S n oc) (.slice L m ac) wr:=⟨ps,by rw[QH t o];exact u,p,z.skip t o,v,d⟩
    have I:=dh c;have f:k<=3:=by omega
    clear c u p v z t o d;go_wp2;go_roundw
    case rel=>exact⟨i+1,by omega,by go_num,I.out⟩
    case measure=>simp[intOf];omega
  ·obtain rfl:ks.length=i:=by omega
   have c:sN w s ks ks.length (.slice S n oc) (.slice L m ac) wr:=⟨ps,u,p,z,v,d⟩
   have I:=dh c;clear c u p v z R d;go_wp2;go_ret2;exact⟨_,_,rfl,I.out⟩
end
section
open Go.RowKit
def Af(w:World)(ks:List Nat)(g:Nat)(D:Nat->Prop)(wr:World):Prop :=
 ∃a,dH w.heap.size wr (.slice (some ⟨g,0,none⟩) ks.length ks.length) a/\a.length=ks.length/\(∀i,D i->∃m:Nat,a[i]? = some (m:Int)/\fF ks i m)/\Keeps (fun _=>False) w wr
theorem dH.made(B:Nat)(w:World)(n:Nat)(b:B<=w.heap.size)(d:n<=100000000):dH B (w.alloc (.cells (madeCells #[.int .i64 0] n) 3)) (.slice (some ⟨w.heap.size,0,none⟩) n n) (List.replicate n 0):=by
 have c:(madeCells #[.int .i64 0] n).toList=ints (List.replicate n 0):=by rw[toList_madeCells_one];simp[ints]
 have a:=World.ownsRow_lit (base:=B) (e:=3) (size:=1) w (madeCells #[.int .i64 0] n) n b (by unfold maxLen;omega) (by rw[size_madeCells];omega);rw[c]at a;unfold dH;rw[List.length_replicate];exact a
theorem QI(sv:Value)(ks:List Nat)(w:World)(hs:Sl .i64 w sv (dD ks))(h4:∀k ∈ ks,k<4)(hl:ks.length<=100000000)(hB:oZ ks) :
  Calls Tryz.prog 158 #[sv] w fun e w'=>∃g,e=.returned (.slice (some ⟨g,0,none⟩) ks.length ks.length)/\Af w ks g (fun i=>i<ks.length) w':=by
 have J:=fun W (S:Keeps (fun _=>False) w W)=>hs.keeps S (fun _ _ h=>h);obtain⟨a,cap,rfl,al,ax,_,hc⟩:=hs;rw[q01]at al J ⊢;obtain⟨i,y,U,V,X⟩:=info_parts nX;have Y:=fun w=>run_make (P:=Tryz.prog) w 25 3 i _ Tryz.underlying25 y U .i64 .i64 (ks.length:Int) (ks.length:Int) (by omega) (Int.le_refl _) (by rw[X];omega) (by omega);simp only [V,Int.toNat_natCast,Nat.mul_one]at Y;have hO:=dH.made w.heap.size w ks.length (Nat.le_refl _) hl;have HS:=dh (dn J (dn hB h4));clear y U V X hc J hB h4;go_enter Tryz.func158,Tryz.ntmps158;go_wp2_with fail;have K:Af w ks w.heap.size (fun i=>∃k,ks[i]? = some k/\k / 2<0) (w.alloc (.cells (madeCells #[.int .i64 0] ks.length) 3)):=⟨_,hO,by simp,fun i h=>by obtain⟨k,_,h⟩:=h;omega,(Keeps.refl _ w).alloc _⟩
 clear hO Y;generalize World.alloc _ _=wM at *;obtain⟨g,hg⟩:∃g,g=w.heap.size:=⟨_,rfl⟩
 rw[<-hg]at K;rw[<-hg];clear hg;go_loopw [4] (fun t wr=>∃s:Nat,s<=2/\t=.int .i64 s/\Af w ks g (fun i=>∃k,ks[i]? = some k/\k / 2<s) wr) (fun t _=>2 - (intOf t).toNat)
 case atStart=>exact⟨0,by omega,rfl,K⟩
 case round =>
  obtain⟨s,hs,rfl,ms,v,o,q,f⟩:=hrel;clear K;by_cases Z:s<2
  ·have hS:=qc5 _ ks s wr (HS.out.1 wr f) HS.out.2.2 hl;have HM:=dh (dn v (dn o q));clear v o q;go_wp2_with fail;refine hS.mono ?_;rintro e w2 ⟨ov,av,rfl,ps,ho,ha,hp,hd,z⟩;rw[List.take_of_length_le (Nat.le_refl _)]at ho;have r:=HS.out.2.1.get Z;rw[<-KT]at r;have am:(ku s ks).length<=100000000:=by rw[FQ];exact Nat.le_trans (qc3 s ks) hl
   have hT:=Qv ov (ku s ks) w2 ho.sl (QF s ks) am r;have M:ps.length=(ku s ks).length:=by rw[hp.1,FQ,yH]
   obtain⟨oa,oc,rfl,ar,au⟩:=ho.form;obtain⟨aa,ac,rfl,ab,aw⟩:=ha.form;rw[q01,M]at ha ab hd ⊢;have D:(ownB s ks).length=(ku s ks).length:=(FQ s ks).symm;have N:=dh (dn hp (dn M D));clear hS ho hd hp M D;go_wp2_with fail;refine hT.mono ?_;rintro e w3 ⟨gm,gr,ay,rfl,cs,rs,st,hI,u,an,_,ao,_,_,l⟩;have d:=(show MInv (q0z (ku s ks)) (q0z (ku s ks)).length cs rs st from by rw[Hq];exact hI).fin r;rw[Hq]at d u;rw[KT]at d;have ad:=ha.keeps l (fun _ _ h=>h);have E:=(f.trans z (fun _ _ h=>h)).trans l (fun _ _ h=>h);have F:=z.trans l (fun _ _ h=>h)
   have G:Af w ks g (fun i=>(∃k,ks[i]? = some k/\k / 2<s)\/∃j,j<0/\fM s ks j i) w3:=⟨ms,HM.out.1.keeps F (fun _ _ h=>h),HM.out.2.1,fun i h=>by
    rcases h with h|⟨j,h,_⟩
    ·exact HM.out.2.2 i h
    ·omega,E⟩
   have az:=(HM.out.1.lt g rfl).2;have ae:∀k,(Value.slice aa (ku s ks).length ac).ownBlock=some k->k≠g:=fun k S e=>by have:=(ha.lt k S).1;omega
   have af:gm≠g:=fun e=>by have:=(u.lt gm rfl).1;have:=z.size;omega
   have HR:=dh (dn d (dn ae (dn ad (dn u af))));clear hT hI an ao l z ha f E F u d ae ad r af;generalize (ku s ks).length=L at *;go_wp2_with fail;go_loopw [31] (fun t wr=>∃j:Nat,j<=L/\t=.int .i64 j/\Af w ks g (fun i=>(∃k,ks[i]? = some k/\k / 2<s)\/∃A,A<j/\fM s ks A i) wr/\Keeps (fun x=>x=g) w3 wr) (fun t _=>L - (intOf t).toNat)
   case atStart=>exact⟨0,Nat.zero_le _,rfl,G,Keeps.refl _ _⟩
   case round =>
    obtain⟨j,hj,rfl,⟨ap,v,o,q,f⟩,l⟩:=hrel;clear G;by_cases ag:j<L
    ·obtain⟨n,hn⟩:∃n,ps[j]? = some n:=⟨_,List.getElem?_eq_getElem (by have:=N.out.2;omega)⟩
     have B:=N.out.1.2 j n hn;obtain⟨⟨c,ah,O⟩,_⟩:=HR.out.1 j ag;have aq:=O.lt;rw[N.out.2.2]at aq;obtain⟨m,Q⟩:∃m,ps[c]? = some m:=⟨_,List.getElem?_eq_getElem (by have:=N.out.2.1;omega)⟩
     have ai:=N.out.1.2 c m Q;have aA:=B.lt;have H:fF ks n m:=⟨s,j,c,Z,B,ai,O⟩
     have C:=HR.out.2.2.1.keeps l (fun b hb e=>HR.out.2.1 b hb e);have aj:=HR.out.2.2.2.1.keeps l (fun b hb e=>by simp only [Value.ownBlock,Option.some.injEq]at hb;exact HR.out.2.2.2.2 (hb.trans e));obtain⟨ga,rfl⟩:=oU C (by rw[q01];have:=N.out.2.1;omega);obtain⟨q1,_⟩:=C.cell (jA hn);obtain⟨q2,_⟩:=C.cell (jA Q);obtain⟨q3,_⟩:=aj.cell ah;obtain⟨x,q4,f4⟩:=v.has n (by omega)
     have d:Af w ks g (fun i=>(∃k,ks[i]? = some k/\k / 2<s)\/∃A,A<j+1/\fM s ks A i) (wr.setCell ⟨g,n,none⟩ (.int .i64 m))/\Keeps (fun x=>x=g) w3 (wr.setCell ⟨g,n,none⟩ (.int .i64 m)):=by
      refine⟨⟨_,v.set n m,by simpa using o,fun i y=>?_,f.setCell (p:=⟨g,n,none⟩) (.inr (v.lt g rfl).1) _⟩,l.setCell (p:=⟨g,n,none⟩) (.inl rfl) _⟩;by_cases R:i=n
      ·subst R;exact⟨m,by rw[List.getElem?_set_self (by omega)],H⟩
      ·rw[List.getElem?_set_ne (fun e=>R e.symm)];refine q i ?_;rcases y with h|⟨A,h1,h2⟩
       ·exact .inl h
       ·refine .inr ⟨A,?_,h2⟩;rcases Nat.lt_or_ge A j with h|h
        ·exact h
        ·obtain rfl:A=j:=by omega
         exact absurd (h2.unique B) R
     have T:=dh d;clear d v o q f l hn B ah O Q ai H C aj;go_wp2;go_roundw
     case rel=>exact⟨j+1,by omega,by go_num,T.out.1,T.out.2⟩
     case measure=>simp[intOf];omega
    ·obtain rfl:L=j:=by omega
     have d:Af w ks g (fun i=>∃k,ks[i]? = some k/\k / 2<s+1) wr:=⟨ap,v,o,fun i y=>by
      obtain⟨k,S,aB⟩:=y;refine q i ?_;by_cases h:k / 2<s
      ·exact .inl ⟨k,S,h⟩
      ·have ak:k / 2=s:=by omega
       have I:=fM.at S ak;refine .inr ⟨_,?_,I⟩;have:=I.Hy;rw[N.out.2.2]at this;exact this,f⟩
     have T:=dh d;clear d v o q f l;go_wp2;go_roundw
     case rel=>exact⟨s+1,by omega,by go_num,T.out⟩
     case measure=>simp[intOf];omega
  ·obtain rfl:2=s:=by omega
   have d:Af w ks g (fun i=>i<ks.length) wr:=⟨ms,v,o,fun i y=>q i ⟨_,List.getElem?_eq_getElem y,by have:=HS.out.2.2 _ (List.getElem_mem y);omega⟩,f⟩
   have T:=dh d;clear d v o q f;go_wp2;go_ret;exact⟨g,rfl,T.out⟩
end
section
open Go.RowKit
end
section
open Go.RowKit
def NN(l:List Bool)(x:Nat):Prop:=ex l l.length=x/\∀p,p<=l.length->0<=ex l p
theorem NN.nil:NN [] 0:=⟨by rw[List.length_nil,DR];rfl,fun p a=>by
 obtain rfl:p=0:=by simpa using a
 rw[DR];omega⟩
theorem NN.snoc{l:List Bool}{x y:Nat}(h:NN l x)(b:Bool)(d:(y:Int)=x+if b then 1 else -1):NN (l ++ [b]) y:=by
 have a:=Qu l b;rw[h.1,<-d]at a;refine⟨by simpa using a,fun p e=>?_⟩;by_cases c:p<=l.length
 ·rw[Qq _ _ c];exact h.2 p c
 ·obtain rfl:p=l.length+1:=by simp at e;omega
  rw[a];omega
structure iZ (P:Nat)(ks:List Nat)(r e:Nat):Prop where
 k4:∀k ∈ ks,k<4
 n0:NN (ownB 0 ks) r
 n1:NN (ownB 1 ks) e
 le:r+e+ks.length<=2 * P
 par:(r+e+ks.length) % 2=0
theorem iZ.start(P:Nat):iZ P [] 0 0:=⟨fun k h=>by simp at h,NN.nil,NN.nil,by simp,rfl⟩
theorem FR{ks:List Nat}{k:Nat}(h:∀k ∈ ks,k<4)(b:k<4):∀x ∈ ks ++ [k],x<4:=by
 intro x c;rcases List.mem_append.1 c with a | a
 ·exact h x a
 ·rw[List.mem_singleton.1 a];exact b
theorem iZ.Ag{P:Nat}{ks:List Nat}{r e:Nat}(h:iZ P ks r e)(hr:r+e+ks.length<2 * P):iZ P (ks ++ [0]) (r+1) e:=by
 have a:=h.par;refine⟨FR h.k4 (by omega),?_,?_,by simp;omega,by simp;omega⟩
 ·rw[yZ];exact h.n0.snoc true (by simp)
 ·rw[yZ,show ownB 1 [0]=[] by rfl,List.append_nil];exact h.n1
theorem iZ.Ah{P:Nat}{ks:List Nat}{r e:Nat}(h:iZ P ks r e)(hr:r+e+ks.length<2 * P):iZ P (ks ++ [2]) r (e+1):=by
 have a:=h.par;refine⟨FR h.k4 (by omega),?_,?_,by simp;omega,by simp;omega⟩
 ·rw[yZ,show ownB 0 [2]=[] by rfl,List.append_nil];exact h.n0
 ·rw[yZ];exact h.n1.snoc true (by simp)
theorem iZ.uL{P:Nat}{ks:List Nat}{r e:Nat}(h:iZ P ks (r+1) e):iZ P (ks ++ [1]) r e:=by
 have a:=h.par;have b:=h.le;refine⟨FR h.k4 (by omega),?_,?_,by simp;omega,by simp;omega⟩
 ·rw[yZ];exact h.n0.snoc false (by simp;omega)
 ·rw[yZ,show ownB 1 [1]=[] by rfl,List.append_nil];exact h.n1
theorem iZ.uM{P:Nat}{ks:List Nat}{r e:Nat}(h:iZ P ks r (e+1)):iZ P (ks ++ [3]) r e:=by
 have a:=h.par;have b:=h.le;refine⟨FR h.k4 (by omega),?_,?_,by simp;omega,by simp;omega⟩
 ·rw[yZ,show ownB 0 [3]=[] by rfl,List.append_nil];exact h.n0
 ·rw[yZ];exact h.n1.snoc false (by simp;omega)
theorem iZ.done{P:Nat}{ks:List Nat}{r e:Nat}(h:iZ P ks r e)(b:¬ks.length<2 * P):(∀k ∈ ks,k<4)/\ks.length=2 * P/\oZ ks:=by
 have a:=h.le;obtain rfl:r=0:=by omega
 obtain rfl:e=0:=by omega
 exact⟨h.k4,by omega,⟨h.n0.1,h.n0.2⟩,⟨h.n1.1,h.n1.2⟩⟩
def AnyM(w:World)(P k r e:Nat)(a:Value)(wr:World):Prop :=
 ∃ks,dH w.heap.size wr a (dD ks)/\ks.length=k/\iZ P ks r e/\Keeps (fun _=>False) w wr
theorem AnyM.start(w:World)(P:Nat):AnyM w P 0 0 0 (.slice none 0 0) w:=⟨[],dH.nil _ _,rfl,iZ.start P,Keeps.refl _ _⟩
theorem AnyM.push{w wr w1:World}{P r e k n:Nat}{f b:Value}{ks:List Nat}{x:Int}(i:ks.length=n)(g:x=(k:Nat))(h:iZ P (ks ++ [k]) r e)(j:Keeps (fun _=>False) w wr)(c:dH w.heap.size wr f (dD ks))
  (a:dH w.heap.size w1 b (dD ks ++ [x]))(d:Keeps (fun k=>f.ownBlock=some k) wr w1):AnyM w P (n+1) r e b w1 :=
 ⟨ks ++ [k],by simpa [dD,g]using a,by simp[i],h,j.trans d (fun x g h=>by have:=(c.lt x h).1;omega)⟩
theorem QJ(pv:Value)(ps:List Nat)(P:Nat)(w:World)(hp:Sl .u8 w pv (dD ps))(H:∀b ∈ ps,b<256)(hP:P<=100000) :
  Calls Tryz.prog 84 #[.int .i64 P,pv] w fun e w'=>∃v ks,e=.returned v/\dH w.heap.size w' v (dD ks)/\((∀k ∈ ks,k<4)/\ks.length=2 * P/\oZ ks)/\Keeps (fun _=>False) w w':=by
 obtain⟨a,cap,rfl,af,aj,_,T⟩:=hp;have U:(dD ps).length=ps.length:=by simp[dD]
 rw[U]at af ⊢;clear U;go_enter Tryz.func84,Tryz.ntmps84;go_wp2_with fail;go_loopg [5,6,7,8] (2 * P) (fun m lv r e i wr=>∃k r' e':Nat,m=2 * P - k/\i=.int .i64 k/\r=.int .i64 r'/\e=.int .i64 e'/\AnyM w P k r' e' lv wr)
 case atStart=>exact⟨0,0,0,rfl,rfl,rfl,rfl,AnyM.start _ _⟩
 case round =>
  obtain⟨k,r,e,V,rfl,rfl,rfl,ks,x,rfl,Q,B⟩:=hrel;have G:=dh V;clear V;have W:=x.form;rw[q01]at W;obtain⟨C,D,rfl,ak,ai⟩:=W;have N:=B.size;have al:=Q.le;have z:=Q.par;have l:ks.length<=10000000000:=by omega
  have E:Hid ((dD ks).length=ks.length):=dh (q01 ks);by_cases X:ks.length<2 * P
  ·have F:=dh (dn Q (dn z X));have ag:r+e=0->r=0/\e=0:=by omega
   clear Q z ag;generalize Y:ks.length=n at *;have A:=dh Y;clear Y;go_upto_if 19 with fail;go_cut [9]from 11 to 92 (fun b wx=>∃v:Nat,b=.int .u8 v/\v<256/\∃nq,wx=wr.drewN nq)
   case first =>
    by_cases Z:0<ps.length
    ·obtain⟨M,hr⟩:∃r,r=n % ps.length:=⟨_,rfl⟩
     have O:M<ps.length:=by rw[hr];exact Nat.mod_lt _ Z
     obtain⟨g,off,rfl,I⟩:=T M ps[M] (by simp[dD,O]);have hb:=H ps[M] (List.getElem_mem O);have ae:wr.cell? ⟨g,off+M,none⟩=some (.int .u8 (ps[M]:Nat)):=B.oQ I;obtain⟨d,hd⟩:∃d,d=n / ps.length:=⟨_,rfl⟩
     obtain⟨t,ht⟩:∃t,t=d % 5:=⟨_,rfl⟩
     have am:t<5:=by omega
     have e1:(n:Int).tmod (ps.length:Int)=(M:Int):=by rw[hr,Int.tmod_eq_emod_of_nonneg (by omega)];simp
     have e2:(n:Int).tdiv (ps.length:Int)=(d:Int):=by rw[hd,Int.tdiv_eq_ediv_of_nonneg (by omega)];simp
     have e3:(d:Int).tmod 5=(t:Int):=by rw[ht,Int.tmod_eq_emod_of_nonneg (by omega)];simp
     have e4:IntKind.i64.wrap (1+(t:Int))=1+(t:Int):=IntWalk.i64_in _ (by omega);have e5:IntKind.u8.wrap (1+(t:Int))=1+(t:Int):=by rw[IntKind.wrap_u8];omega
     have e6:((1+(t:Int)) == 0)=false:=by rw[beq_eq_false_iff_ne];omega
     have e7:(0:Int)<=(M:Int):=by omega
     have e8:(M:Int)<(ps.length:Int):=by omega
     have HR:=dh (dn hr (dn hd ht));clear hr hd ht T H I;generalize ps[M]=y at *;clear O;generalize ps.length=m at *;have e9:¬m=0:=by omega
     have an:¬1+(t:Int)=0:=by omega
     have ao:d<=n:=by rw[HR.out.2.1];exact Nat.div_le_self _ _
     have ap:IntKind.i64.wrap (d:Int)=(d:Int):=IntWalk.i64_in _ (by omega);obtain⟨v,hv⟩:∃v,v=y / (1+t):=⟨_,rfl⟩
     have aq:v<=y:=by rw[hv];exact Nat.div_le_self _ _
     have ar:(y:Int).tdiv (1+(t:Int))=(v:Int):=by rw[hv,Int.tdiv_eq_ediv_of_nonneg (by omega)];simp
     have au:IntKind.u8.wrap (v:Int)=(v:Int):=by rw[IntKind.wrap_u8];omega
     clear hv;go_wp2_with fail;go_quiet (fail);go_wp2;go_meet;exact⟨v,rfl,by omega,nq,rfl⟩
    ·have aa:ps.length=0:=by omega
     clear x B N T H Z;generalize ps.length=m at *;subst aa;go_wp2;go_meet;exact⟨0,rfl,by omega,0,rfl⟩
   case rest =>
    obtain⟨v,rfl,hv,nq,rfl⟩:=hcut;clear T H;have f:dH w.heap.size (wr.drewN nq) (.slice C n D) (dD ks):=x.keeps ((Keeps.refl (fun _=>False) wr).drewN nq) (fun _ _ h=>h);have o:w.heap.size<=(wr.drewN nq).heap.size:=N;have p:Keeps (fun _=>False) w (wr.drewN nq):=B.drewN nq;clear x B N;generalize wr.drewN nq=w2 at *;obtain⟨R,ab⟩:∃h,h=v / 2:=⟨_,rfl⟩
    obtain⟨S,ad⟩:∃h,h=v / 4:=⟨_,rfl⟩
    have d2:(v:Int).tdiv 2=(R:Int):=by rw[ab,Int.tdiv_eq_ediv_of_nonneg (by omega)];simp
    have d4:(v:Int).tdiv 4=(S:Int):=by rw[ad,Int.tdiv_eq_ediv_of_nonneg (by omega)];simp
    have av:IntKind.u8.wrap (R:Int)=(R:Int):=by rw[IntKind.wrap_u8];omega
    have aw:IntKind.u8.wrap (S:Int)=(S:Int):=by rw[IntKind.wrap_u8];omega
    have m0:(v:Int).tmod 2=0\/(v:Int).tmod 2=1:=by rw[Int.tmod_eq_emod_of_nonneg (by omega)];omega
    have m2:(R:Int).tmod 2=0\/(R:Int).tmod 2=1:=by rw[Int.tmod_eq_emod_of_nonneg (by omega)];omega
    have m4:(S:Int).tmod 2=0\/(S:Int).tmod 2=1:=by rw[Int.tmod_eq_emod_of_nonneg (by omega)];omega
    have hh:R<128/\S<64:=by omega
    clear ab ad;have z:=F.out.2.1;by_cases c1:r+e+n<2 * P
    ·have ah:(r:Int)+e<2 * P - n:=by omega
     clear z;rcases m0 with q0|q0
     ·skip
      rcases m2 with q2|q2
      ·skip
       go_wp2_with (at_builtin;refine oz n rfl _ _ rfl w.heap.size (.slice C n D) (dD ks) 0 E w2.heap.size rfl rfl rfl f l o ?_;intro J q K c j s L)
       have u:=dh c;clear c;go_wp2;go_roundg (2 * P - (n+1))
       case measure=>rw[G.out];omega
       case rel=>exact⟨n+1,r+1,e,rfl,by go_num,by go_num,by go_num,AnyM.push A.out (by rfl) (iZ.Ag F.out.1 (by rw[A.out];omega)) p f u.out j⟩
      ·skip
       go_wp2_with (at_builtin;refine oz n rfl _ _ rfl w.heap.size (.slice C n D) (dD ks) 2 E w2.heap.size rfl rfl rfl f l o ?_;intro J q K c j s L)
       have u:=dh c;clear c;go_wp2;go_roundg (2 * P - (n+1))
       case measure=>rw[G.out];omega
       case rel=>exact⟨n+1,r,e+1,rfl,by go_num,by go_num,by go_num,AnyM.push A.out (by rfl) (iZ.Ah F.out.1 (by rw[A.out];omega)) p f u.out j⟩
     ·by_cases c3:r+e=0
      ·obtain rfl:r=0:=by omega
       obtain rfl:e=0:=by omega
       rcases m2 with q2|q2
       ·skip
        go_wp2_with (at_builtin;refine oz n rfl _ _ rfl w.heap.size (.slice C n D) (dD ks) 0 E w2.heap.size rfl rfl rfl f l o ?_;intro J q K c j s L)
        have u:=dh c;clear c;go_wp2;go_roundg (2 * P - (n+1))
        case measure=>rw[G.out];omega
        case rel=>exact⟨n+1,0+1,0,rfl,by go_num,by go_num,by go_num,AnyM.push A.out (by rfl) (iZ.Ag F.out.1 (by rw[A.out];omega)) p f u.out j⟩
       ·skip
        go_wp2_with (at_builtin;refine oz n rfl _ _ rfl w.heap.size (.slice C n D) (dD ks) 2 E w2.heap.size rfl rfl rfl f l o ?_;intro J q K c j s L)
        have u:=dh c;clear c;go_wp2;go_roundg (2 * P - (n+1))
        case measure=>rw[G.out];omega
        case rel=>exact⟨n+1,0,0+1,rfl,by go_num,by go_num,by go_num,AnyM.push A.out (by rfl) (iZ.Ah F.out.1 (by rw[A.out];omega)) p f u.out j⟩
      ·skip
       rcases r with _|r
       ·rcases e with _|e
        ·exfalso;omega
        ·skip
         go_wp2_with (at_builtin;refine oz n rfl _ _ rfl w.heap.size (.slice C n D) (dD ks) 3 E w2.heap.size rfl rfl rfl f l o ?_;intro J q K c j s L)
         have u:=dh c;clear c;go_wp2;go_roundg (2 * P - (n+1))
         case measure=>rw[G.out];omega
         case rel=>exact⟨n+1,0,e,rfl,by go_num,by go_num,by go_num,AnyM.push A.out (by rfl) (iZ.uM F.out.1 ) p f u.out j⟩
       ·rcases m4 with q4|q4
        ·skip
         go_wp2_with (at_builtin;refine oz n rfl _ _ rfl w.heap.size (.slice C n D) (dD ks) 1 E w2.heap.size rfl rfl rfl f l o ?_;intro J q K c j s L)
         have u:=dh c;clear c;go_wp2;go_roundg (2 * P - (n+1))
         case measure=>rw[G.out];omega
         case rel=>exact⟨n+1,r,e,rfl,by go_num,by go_num,by go_num,AnyM.push A.out (by rfl) (iZ.uL F.out.1 ) p f u.out j⟩
        ·rcases e with _|e
         ·skip
          go_wp2_with (at_builtin;refine oz n rfl _ _ rfl w.heap.size (.slice C n D) (dD ks) 1 E w2.heap.size rfl rfl rfl f l o ?_;intro J q K c j s L)
          have u:=dh c;clear c;go_wp2;go_roundg (2 * P - (n+1))
          case measure=>rw[G.out];omega
          case rel=>exact⟨n+1,r,0,rfl,by go_num,by go_num,by go_num,AnyM.push A.out (by rfl) (iZ.uL F.out.1 ) p f u.out j⟩
         ·skip
          go_wp2_with (at_builtin;refine oz n rfl _ _ rfl w.heap.size (.slice C n D) (dD ks) 3 E w2.heap.size rfl rfl rfl f l o ?_;intro J q K c j s L)
          have u:=dh c;clear c;go_wp2;go_roundg (2 * P - (n+1))
          case measure=>rw[G.out];omega
          case rel=>exact⟨n+1,(r+1),e,rfl,by go_num,by go_num,by go_num,AnyM.push A.out (by rfl) (iZ.uM F.out.1 ) p f u.out j⟩
    ·have ah:¬(r:Int)+e<2 * P - n:=by omega
     have c3:¬r+e=0:=by omega
     clear z;rcases r with _|r
     ·rcases e with _|e
      ·exfalso;omega
      ·skip
       go_wp2_with (at_builtin;refine oz n rfl _ _ rfl w.heap.size (.slice C n D) (dD ks) 3 E w2.heap.size rfl rfl rfl f l o ?_;intro J q K c j s L)
       have u:=dh c;clear c;go_wp2;go_roundg (2 * P - (n+1))
       case measure=>rw[G.out];omega
       case rel=>exact⟨n+1,0,e,rfl,by go_num,by go_num,by go_num,AnyM.push A.out (by rfl) (iZ.uM F.out.1 ) p f u.out j⟩
     ·rcases m4 with q4|q4
      ·skip
       go_wp2_with (at_builtin;refine oz n rfl _ _ rfl w.heap.size (.slice C n D) (dD ks) 1 E w2.heap.size rfl rfl rfl f l o ?_;intro J q K c j s L)
       have u:=dh c;clear c;go_wp2;go_roundg (2 * P - (n+1))
       case measure=>rw[G.out];omega
       case rel=>exact⟨n+1,r,e,rfl,by go_num,by go_num,by go_num,AnyM.push A.out (by rfl) (iZ.uL F.out.1 ) p f u.out j⟩
      ·rcases e with _|e
       ·skip
        go_wp2_with (at_builtin;refine oz n rfl _ _ rfl w.heap.size (.slice C n D) (dD ks) 1 E w2.heap.size rfl rfl rfl f l o ?_;intro J q K c j s L)
        have u:=dh c;clear c;go_wp2;go_roundg (2 * P - (n+1))
        case measure=>rw[G.out];omega
        case rel=>exact⟨n+1,r,0,rfl,by go_num,by go_num,by go_num,AnyM.push A.out (by rfl) (iZ.uL F.out.1 ) p f u.out j⟩
       ·skip
        go_wp2_with (at_builtin;refine oz n rfl _ _ rfl w.heap.size (.slice C n D) (dD ks) 3 E w2.heap.size rfl rfl rfl f l o ?_;intro J q K c j s L)
        have u:=dh c;clear c;go_wp2;go_roundg (2 * P - (n+1))
        case measure=>rw[G.out];omega
        case rel=>exact⟨n+1,(r+1),e,rfl,by go_num,by go_num,by go_num,AnyM.push A.out (by rfl) (iZ.uM F.out.1 ) p f u.out j⟩
  ·have HF:=dh (dn (Q.done X) (dn x B));clear Q x B T H z E;go_wp2;go_ret;exact⟨_,ks,rfl,HF.out.2.1,HF.out.1,HF.out.2.2⟩
end
section
open Go.RowKit
end
