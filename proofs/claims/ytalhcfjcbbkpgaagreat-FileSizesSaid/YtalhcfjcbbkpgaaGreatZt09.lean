import Derived.Test.YtalhcfjcbbkpgaaGreatZt06
import Derived.Test.YtalhcfjcbbkpgaaGreatZt08
set_option maxRecDepth 100000
set_option maxHeartbeats 4000000
namespace Go.Proofs.YtalhcfjcbbkpgaaGreat
section
open Go.RowKit
def pK(a:Nat)(sv:Value)(rt ln:Int)(wr:World):Prop:=wr.heap[a]? = some (.cells #[sv,.int .i64 rt,.int .i64 ln] 27 (0,0))
theorem pK.keeps{a:Nat}{sv:Value}{rt ln:Int}{wr w1:World}{F:Nat->Prop}(h:pK a sv rt ln wr)(b:Keeps F wr w1)(hF:¬F a):pK a sv rt ln w1:=b.at h hF
theorem pK.cell{a:Nat}{sv:Value}{rt ln:Int}{wr:World}(h:pK a sv rt ln wr):wr.cell? ⟨a,0,none⟩=some sv:=dw h 0
theorem pK.set{a g:Nat}{sv:Value}{rt ln:Int}{wr:World}(h:pK a sv rt ln wr)(b:g≠a)(i:Nat)(u:Value):pK a sv rt ln (wr.setCell ⟨g,i,none⟩ u) :=
 ((Keeps.refl (fun q=>q=g) wr).setCell (p:=⟨g,i,none⟩) (.inl rfl) u).at h (fun e=>b e.symm)
theorem dV.made'{w wr:World}(a:Keeps (fun _=>False) w wr)(n:Nat)(P:List Int->Prop)(b:P (List.replicate n 0))(c:n<=100000000):dV w wr.heap.size n P (wr.alloc (.cells (madeCells #[.int .i64 0] n) 3)) :=
 ⟨_,by simp,b,dI.made w.heap.size wr n a.size c,a.alloc _⟩
theorem dV.uH{w wr w1:World}{g n:Nat}{P:List Int->Prop}{F:Nat->Prop}(h:dV w g n P wr)(b:Keeps F wr w1)(c:¬F g)(hF:∀x,F x->w.heap.size<=x):dV w g n P w1:=by obtain⟨zs,d,f,i,j⟩:=h;exact⟨zs,d,f,i.keeps b (fun x a e=>by simp only [Value.ownBlock,Option.some.injEq]at a;subst a;exact c e),j.trans b (fun x a e=>by have:=hF x e;omega)⟩
structure jZ (n:Nat)(S:Nat->Nat)(y7:List Nat)(d k:Nat)(t:Bool)(nm:List Nat):Prop where
 Dz:wD n S nm
 same:t=false->nm=y7/\(∀e,e<d->y7.getD (S e) 0=y7.getD e 0/\y7.getD (mt e) 0=y7.getD e 0)/\(1<=k->y7.getD (S d) 0=y7.getD d 0)/\(2<=k->y7.getD (mt d) 0=y7.getD d 0)
 less:t=true->nm.sum<y7.sum
theorem jZ.Cj{n:Nat}{S:Nat->Nat}{a nm:List Nat}{d k:Nat}{t:Bool}(h:jZ n S a d k t nm):nm.sum<=a.sum:=by
 cases t
 ·rw[(h.same rfl).1];exact Nat.le_refl _
 ·exact Nat.le_of_lt (h.less rfl)
theorem jZ.lower{n:Nat}{S:Nat->Nat}{b nm:List Nat}{d k a v:Nat}{t:Bool}(h:jZ n S b d k t nm)(c:a<n)(f:v<nm.getD a 0)(g:dJ n S a v):jZ n S b d (k+1) true (nm.set a v):=by obtain⟨i,j,l⟩:=h.Dz.get c;refine⟨h.Dz.set c (by omega) g,(fun e=>by cases e),fun _=>?_⟩;have:=MF i f;have:=h.Cj;omega
theorem jZ.equal{n:Nat}{S:Nat->Nat}{a nm:List Nat}{d k x:Nat}{t:Bool}(h:jZ n S a d k t nm)(c:(k=0/\x=S d)\/(k=1/\x=mt d))(b:nm.getD x 0=nm.getD d 0):jZ n S a d (k+1) t nm:=by
 refine⟨h.Dz,fun e=>?_,h.less⟩;obtain⟨f,g,i,j⟩:=h.same e;subst f;refine⟨rfl,g,fun _=>?_,fun l=>?_⟩
 ·rcases c with⟨rfl,rfl⟩|⟨rfl,rfl⟩
  ·exact b
  ·exact i (by omega)
 ·rcases c with⟨rfl,rfl⟩|⟨rfl,rfl⟩
  ·omega
  ·exact b
theorem jZ.next{n:Nat}{S:Nat->Nat}{a nm:List Nat}{d:Nat}{t:Bool}(h:jZ n S a d 2 t nm):jZ n S a (d+1) 0 t nm:=by
 refine⟨h.Dz,fun c=>?_,h.less⟩;obtain⟨f,g,i,j⟩:=h.same c;refine⟨f,fun e l=>?_,fun k=>by omega,fun k=>by omega⟩;by_cases b:e=d
 ·subst b;exact⟨i (by omega),j (by omega)⟩
 ·exact g e (by omega)
def tC(s:List Nat)(j:Nat)(zs:List Int):Prop:=∀i,i<j->zs[i]? = some ((eF s.length (sg s) i:Nat):Int)
theorem tC.step{s:List Nat}{j:Nat}{zs:List Int}(b:zs.length=s.length)(c:j<s.length)(h:tC s j zs):tC s (j+1) (zs.set j ((eF s.length (sg s) j:Nat):Int)):=by
 intro i d;rw[List.getElem?_set];by_cases a:j=i
 ·subst a;rw[if_pos rfl,if_pos (by omega)]
 ·rw[if_neg a];exact h i (by omega)
theorem tC.all{s:List Nat}{zs:List Int}(b:zs.length=s.length)(h:tC s s.length zs):zs=dD ((List.range s.length).map (eF s.length (sg s))):=by
 apply List.ext_getElem?;intro e;rcases Nat.lt_or_ge e s.length with a|a
 ·rw[h e a];simp[dD,a]
 ·rw[List.getElem?_eq_none (by omega),List.getElem?_eq_none (by simp[dD];exact a)]
def tF(j:Nat)(zs:List Int):Prop:=∀i:Nat,i<j->zs[i]? = some (i:Int)
theorem tF.step{j:Nat}{zs:List Int}(b:j<zs.length)(h:tF j zs):tF (j+1) (zs.set j (j:Int)):=by
 intro i c;rw[List.getElem?_set];by_cases a:j=i
 ·subst a;rw[if_pos rfl,if_pos b]
 ·rw[if_neg a];exact h i (by omega)
theorem tF.all{n:Nat}{zs:List Int}(b:zs.length=n)(h:tF n zs):zs=dD (List.range n):=by
 apply List.ext_getElem?;intro e;rcases Nat.lt_or_ge e n with a|a
 ·rw[h e a];simp[dD,a]
 ·rw[List.getElem?_eq_none (by omega),List.getElem?_eq_none (by simp[dD];exact a)]
def kV(w:World)(g n:Nat)(S:Nat->Nat)(nm:List Nat)(wr:World):Prop:=dV w g n (fun zs=>zs=dD nm) wr/\wD n S nm
theorem kV.cell{w wr:World}{g n:Nat}{S:Nat->Nat}{nm:List Nat}(h:kV w g n S nm wr){d:Nat}(b:d<n):wr.cell? ⟨g,d,none⟩=some (.int .i64 (nm.getD d 0:Nat))/\wr.frozen? ⟨g,d,none⟩=false:=by obtain⟨z,⟨zs,_,rfl,a⟩,c,e⟩:=h.1.cell d b;rw[jI (h.2.get b).1]at a;simp only [Option.some.injEq]at a;subst a;exact⟨c,e⟩
theorem kV.set{w wr:World}{g n:Nat}{S:Nat->Nat}{nm:List Nat}(h:kV w g n S nm wr){d v:Nat}(a:wD n S (nm.set d v)):kV w g n S (nm.set d v) (wr.setCell ⟨g,d,none⟩ (.int .i64 v)):=by refine⟨h.1.set d v (fun zs _ h=>?_),a⟩;rw[h];simp[dD,List.map_set]
theorem kV.keeps{w wr w1:World}{g n:Nat}{S:Nat->Nat}{nm:List Nat}(h:kV w g n S nm wr)(a:Keeps (fun _=>False) wr w1):kV w g n S nm w1:=⟨h.1.keeps a,h.2⟩
theorem Sn(sv:Value)(rt ln:Int)(s:List Nat)(w:World)(hs:Sl .i64 w sv (dD s))(hP:dU s.length (sg s))(he:s.length % 2=0)(hl:s.length<=1000000) :
  Calls Tryz.prog 97 #[.agg #[sv,.int .i64 rt,.int .i64 ln]] w fun e w'=>∃g,e=.returned (.slice (some ⟨g,0,none⟩) s.length s.length)/\dV w g s.length (fun zs=>zs=dD ((List.range s.length).map (eF s.length (sg s)))) w':=by
 obtain⟨G,aw⟩:∃G,G=w.heap.size:=⟨_,rfl⟩
 obtain⟨g,hg⟩:∃g,g=w.heap.size+1:=⟨_,rfl⟩
 have k0:Keeps (fun _=>False) w (w.alloc (.cells #[sv,.int .i64 rt,.int .i64 ln] 27)):=(Keeps.refl _ w).alloc _;have ax:pK G sv rt ln (w.alloc (.cells #[sv,.int .i64 rt,.int .i64 ln] 27)):=by rw[aw];exact heap_alloc_new w _
 have am:=dV.made' k0 s.length (tF 0) (fun i hi=>by omega) (by omega);have ay:=ax.keeps ((Keeps.refl (fun _=>False) _).alloc (.cells (madeCells #[.int .i64 0] s.length) 3)) (fun h=>h);have HS:Hid (∀W,Keeps (fun _=>False) w W->Sl .i64 W sv (dD s)):=dh (fun W hk=>hs.keeps hk (fun _ _ h=>h));obtain⟨a,cap,rfl,bc,bv⟩:=hs.form;rw[q01]at bc HS ax k0 am ay ⊢;have az:(w.alloc (.cells #[.slice a s.length cap,.int .i64 rt,.int .i64 ln] 27)).heap.size=g:=by rw[hg];simp
 rw[az]at am;have aA:=dh (dn aw (dn hg az));have aB:g≠G:=by omega
 have bw:w.heap.size<=g:=by omega
 have bz:w.heap.size<=G:=by omega
 have HP:=dh hP;obtain⟨i,hi,Y,Z,aa⟩:=info_parts om;have ab:=fun w=>run_make (P:=Tryz.prog) w 25 3 i _ Tryz.underlying25 hi Y .i64 .i64 (s.length:Int) (s.length:Int) (by omega) (Int.le_refl _) (by rw[aa];omega) (by omega);simp only [Z,Int.toNat_natCast,Nat.mul_one]at ab;clear hs hP hi Y Z aa aw hg az k0 ax;go_enter Tryz.func97,Tryz.ntmps97;go_wp2_with fail;clear ab;rw[<-aA.out.1,show G+1=g by have:=aA.out.1;have:=aA.out.2.1;omega];generalize World.alloc (World.alloc _ _) _=wM at *;go_loopg [19] s.length (fun m i wr=>∃j:Nat,j<=s.length/\m=s.length - j/\i=.int .i64 j/\dV w g s.length (tF j) wr/\pK G (.slice a s.length cap) rt ln wr)
 case atStart=>exact⟨0,Nat.zero_le _,rfl,rfl,am,ay⟩
 case round =>
  clear am ay;obtain⟨j,hj,n,rfl,hM,r⟩:=hrel;have HG:=dh n;clear n;by_cases b:j<s.length
  ·obtain⟨z,_,hc,hf⟩:=hM.cell j b;have HN:=dh (dn (hM.set (Q:=tF (j+1)) j (j:Int) (fun zs H h=>h.step (by omega))) (r.set aB j (.int .i64 j)));clear hM r;go_wp2;go_roundg (s.length - (j+1))
   case measure=>rw[HG.out];omega
   case rel=>exact⟨j+1,by omega,rfl,by go_num,HN.out⟩
  ·obtain rfl:j=s.length:=by omega
   have h1:kV w g s.length (sg s) (List.range s.length) wr/\pK G (.slice a s.length cap) rt ln wr:=⟨⟨hM.mono (fun zs H h=>h.all H),wD.init _ _⟩,r⟩
   clear hM r b hj;go_wp2_with fail;go_loopg [5] ((List.range s.length).sum+1) (fun m tv wr=>∃(t:Bool) (nm:List Nat),tv=.bool t/\m=(if t=true then nm.sum+1 else 0)/\(kV w g s.length (sg s) nm wr/\pK G (.slice a s.length cap) rt ln wr)/\(t=false->∀d,d<s.length->nm.getD (sg s d) 0=nm.getD d 0/\nm.getD (mt d) 0=nm.getD d 0))
   case atStart=>exact⟨true,_,rfl,rfl,h1,(fun h=>by cases h)⟩
   case round =>
    clear h1 HG;obtain⟨t,D,rfl,n,⟨f,r⟩,ap⟩:=hrel;have HG:=dh n;have HX:=dh ap;clear n ap;cases t
    ·have I:=HX.out (by trivial);have aO:∀d,d<s.length->D.getD d 0=eH s.length (sg s) d:=fun d hd=>f.2.fixed HP.out he I hd
     have aP:dV w g s.length (fun zs=>zs=dD ((List.range s.length).map (eH s.length (sg s)))) wr:=f.1.mono (fun zs H h=>by
      rw[h];congr 1;apply List.ext_getElem?;intro e;rcases Nat.lt_or_ge e s.length with T|T
      ·rw[(f.2.get T).1,aO e T];simp[T]
      ·rw[List.getElem?_eq_none (by rw[f.2.len];exact T),List.getElem?_eq_none (by simpa using T)])
     have ad:Keeps (fun _=>False) w wr:=by obtain⟨_,_,_,_,h⟩:=f.1;exact h
     obtain⟨go,aC⟩:∃go,go=wr.heap.size:=⟨_,rfl⟩
     have X:=dV.made' ad s.length (tC s 0) (fun i hi=>by omega) (by omega);have bq:g<go:=by have:=f.1.old.2;omega
     have aQ:dV w g s.length (fun zs=>zs=dD ((List.range s.length).map (eH s.length (sg s)))) (wr.alloc (.cells (madeCells #[.int .i64 0] s.length) 3)):=aP.keeps ((Keeps.refl _ wr).alloc _);rw[<-aC]at X;have bd:=dh aC;obtain⟨ii,hi,Y,Z,aa⟩:=info_parts om;have ab:=fun w=>run_make (P:=Tryz.prog) w 25 3 ii _ Tryz.underlying25 hi Y .i64 .i64 (s.length:Int) (s.length:Int) (by omega) (Int.le_refl _) (by rw[aa];omega) (by omega);simp only [Z,Int.toNat_natCast,Nat.mul_one]at ab;have h5:=dn aQ X;clear f r aP X aQ I aO ad aC HX HG hi Y Z aa;go_wp2_with fail;clear ab;rw[<-bd.out];generalize World.alloc _ _=wM at *;go_loopg [10,85] s.length (fun m c i wr=>∃j:Nat,j<=s.length/\m=s.length - j/\i=.int .i64 j/\c=.int .i64 (dZ s.length (sg s) j:Nat)/\dV w g s.length (fun zs=>zs=dD ((List.range s.length).map (eH s.length (sg s)))) wr/\dV w go s.length (tC s j) wr)
     case atStart=>exact⟨0,Nat.zero_le _,rfl,rfl,rfl,h5⟩
     case round =>
      clear h5;obtain⟨j,hj,n,rfl,rfl,f,X⟩:=hrel;have HG:=dh n;clear n;have U:=uz s.length (sg s) j;have bA:=xG s.length (sg s) j;have aR:=X.old.1;by_cases b:j<s.length
      ·obtain⟨z,⟨zs,_,rfl,hz⟩,ae,bB⟩:=f.cell j b;have be:z=(eH s.length (sg s) j:Nat):=by simp[dD,b]at hz;exact hz.symm
       subst be;clear hz;have aS:=HP.out.kU he b;have aT:eH s.length (sg s) j<=j:=wC (dJ.refl _ _ _);obtain⟨zo,⟨bC,br,af,ah⟩,bf,bg⟩:=X.cell (eH s.length (sg s) j) aS;obtain⟨zj,_,bD,bE⟩:=X.cell j b;have J:∀v:Value,Keeps (fun q=>q=go) wr (wr.setCell ⟨go,j,none⟩ v):=fun v=>(Keeps.refl (fun q=>q=go) wr).setCell (p:=⟨go,j,none⟩) (.inl rfl) v;have an:∀v:Value,dV w g s.length (fun zs=>zs=dD ((List.range s.length).map (eH s.length (sg s)))) (wr.setCell ⟨go,j,none⟩ v):=fun v=>f.uH (J v) (by omega) (fun x hx=>by subst hx;exact aR);have ai:=X.set (Q:=tC s (j+1)) j ((eF s.length (sg s) j:Nat):Int) (fun zs H h=>h.step H b);by_cases hr:eH s.length (sg s) j=j
       ·have aU:eF s.length (sg s) j=dZ s.length (sg s) j:=by unfold eF;rw[hr]
        rw[if_pos hr]at U;rw[aU]at ai;rw[hr]at ae;have F:=dh (dn (an (.int .i64 ((dZ s.length (sg s) j:Nat):Int))) (dn ai U));clear an ai U J f X af ah bf bg hr aU aS aT;generalize u:dZ s.length (sg s) j=c at *;have HC:=dh u;clear u;have bt:(((j:Nat):Int) == ((j:Nat):Int))=true:=by simp
        go_wp2;go_roundg (s.length - (j+1))
        case measure=>rw[HG.out];omega
        case rel=>exact⟨j+1,by omega,rfl,by go_num,by rw[F.out.2.2];go_num,F.out.1,F.out.2.1⟩
       ·have aV:eH s.length (sg s) j<j:=by omega
        have bh:zo=(eF s.length (sg s) j:Nat):=by rw[af _ aV]at ah;simp only [Option.some.injEq]at ah;rw[<-ah];unfold eF;rw[HP.out.iP he b]
        subst bh;rw[if_neg hr]at U;have F:=dh (dn (an (.int .i64 ((eF s.length (sg s) j:Nat):Int))) (dn ai U));have bt:(((eH s.length (sg s) j:Nat):Int) == ((j:Nat):Int))=false:=by rw[beq_eq_false_iff_ne];omega
        clear an ai U J f X af ah hr;generalize eH s.length (sg s) j=y at *;generalize dZ s.length (sg s) j=c at *;generalize eF s.length (sg s) j=v at *;go_wp2;go_roundg (s.length - (j+1))
        case measure=>rw[HG.out];omega
        case rel=>exact⟨j+1,by omega,rfl,by go_num,by rw[F.out.2.2];go_num,F.out.1,F.out.2.1⟩
      ·obtain rfl:j=s.length:=by omega
       have F:=dh (X.mono (fun zs H h=>h.all H));clear f X;go_wp2;go_ret;exact⟨go,rfl,F.out⟩
    ·clear HX;have aW:jZ s.length (sg s) D 0 0 false D:=⟨f.2,fun _=>⟨rfl,fun e he=>by omega,fun hk=>by omega,fun hk=>by omega⟩,fun h=>by cases h⟩
     have h2:∃nm,kV w g s.length (sg s) nm wr/\pK G (.slice a s.length cap) rt ln wr/\jZ s.length (sg s) D 0 0 false nm:=⟨D,f,r,aW⟩
     clear f r aW;go_wp2_with fail;go_loopg [5,30] s.length (fun m tv i wr=>∃(t:Bool) (d:Nat),d<=s.length/\m=s.length - d/\i=.int .i64 d/\tv=.bool t/\∃nm,kV w g s.length (sg s) nm wr/\pK G (.slice a s.length cap) rt ln wr/\jZ s.length (sg s) D d 0 t nm)
     case atStart=>exact⟨false,0,Nat.zero_le _,rfl,rfl,rfl,h2⟩
     case round =>
      clear h2;obtain⟨t,d,hd,n,rfl,rfl,nm,f,r,l⟩:=hrel;have bi:=dh n;clear n;by_cases b:d<s.length
      ·obtain⟨_,_,_,_,ad⟩:=f.1;obtain⟨ag,off,rfl,B⟩:=(HS.out wr ad).cellAt (uG b);have aD:=fun W=>A8 d W (by omega);have hb:=r.cell;have aX:wr.drew.cell? ⟨G,0,none⟩=some (.slice (some ⟨ag,off,none⟩) s.length cap):=hb;have u:wr.drew.cell? ⟨ag,off+d,none⟩=some (.int .i64 (sg s d:Nat)):=B;have aY:=fun (o:Obj)=>yZ hb o;have aE:=fun (o:Obj)=>yZ B o;have HH:=dh (dn f (dn r l));clear f r l ad;obtain⟨K,aF⟩:∃K,K=sg s d:=⟨_,rfl⟩
       obtain⟨O,aG⟩:∃O,O=mt d:=⟨_,rfl⟩
       rw[<-aF]at B u aE;rw[<-aG]at aD;have aZ:=dh (dn aF aG);clear aF aG;have bF:(0:Int)<=(d:Int):=by omega
       have bG:(d:Int)<(s.length:Int):=by omega
       go_wp2_with fail
       go_region_held3 (fun w'=>w'.cell? ⟨G,0,none⟩=some (.slice (some ⟨ag,off,none⟩) s.length cap)/\w'.cell? ⟨ag,off+d,none⟩=some (.int .i64 (K:Nat))) (first|exact⟨aX,u⟩|exact⟨aY _,aE _⟩) ((go_at_call 67;refine(aD _).mono ?_;rintro e w' ⟨rfl,rfl⟩))
       clear aX u aY aE aD hb B;obtain⟨p2,aH⟩:∃p2,p2=wr.heap.size:=⟨_,rfl⟩
       obtain⟨f,r,l⟩:=HH.out;have aj:Keeps (fun _=>False) wr (wr.alloc (.cells #[.int .i64 (K:Nat),.int .i64 (O:Nat)] 3)).drew:=((Keeps.refl _ wr).alloc _).drew;have a0:(wr.alloc (.cells #[.int .i64 (K:Nat),.int .i64 (O:Nat)] 3)).drew.heap[p2]? = some (.cells #[.int .i64 (K:Nat),.int .i64 (O:Nat)] 3 (0,0)):=by rw[aH];exact heap_alloc_new wr _
       have a1:g≠p2:=by have:=f.1.old.2;omega
       rw[<-aH]
       have h3:∃nm,kV w g s.length (sg s) nm (wr.alloc (.cells #[.int .i64 (K:Nat),.int .i64 (O:Nat)] 3)).drew/\pK G (.slice (some ⟨ag,off,none⟩) s.length cap) rt ln (wr.alloc (.cells #[.int .i64 (K:Nat),.int .i64 (O:Nat)] 3)).drew/\jZ s.length (sg s) D d 0 t nm/\(wr.alloc (.cells #[.int .i64 (K:Nat),.int .i64 (O:Nat)] 3)).drew.heap[p2]? = some (.cells #[.int .i64 (K:Nat),.int .i64 (O:Nat)] 3 (0,0)) :=
        ⟨nm,f.keeps aj,r.keeps aj (fun h=>h),l,a0⟩
       clear f r l aj a0 aH HH;generalize World.drew _=w3 at *;go_wp2_with fail;go_loopg [5,42] 2 (fun m tv i wr=>∃(t:Bool) (k:Nat),k<=2/\m=2 - k/\i=.int .i64 k/\tv=.bool t/\∃nm,kV w g s.length (sg s) nm wr/\pK G (.slice (some ⟨ag,off,none⟩) s.length cap) rt ln wr/\jZ s.length (sg s) D d k t nm/\wr.heap[p2]? = some (.cells #[.int .i64 (K:Nat),.int .i64 (O:Nat)] 3 (0,0)))
       case atStart=>exact⟨t,0,by omega,rfl,rfl,rfl,h3⟩
       case round =>
        clear h3;obtain⟨t,k,hk,n,rfl,rfl,nm,f,r,l,hT⟩:=hrel;have aI:=dh n;clear n;by_cases aj:k<2
        ·obtain⟨x,hx,a2⟩:∃x,((k=0/\x=sg s d)\/(k=1/\x=mt d))/\∀W:World,W.heap[p2]? = some (.cells #[.int .i64 (K:Nat),.int .i64 (O:Nat)] 3 (0,0))->W.cell? ⟨p2,k,none⟩=some (.int .i64 (x:Nat)):=by
          have bj:k=0\/k=1:=by omega
          rcases bj with rfl|rfl
          ·exact⟨K,.inl ⟨rfl,aZ.out.1⟩,fun W h=>dw h 0⟩
          ·exact⟨O,.inr ⟨rfl,aZ.out.2⟩,fun W h=>dw h 1⟩
         have ao:x<s.length:=by
          rcases hx with⟨_,rfl⟩|⟨_,rfl⟩
          ·exact HP.out.lt d b
          ·exact dR he b
         have aq:dJ s.length (sg s) d x:=by
          rcases hx with⟨_,rfl⟩|⟨_,rfl⟩
          ·exact dJ.turn b
          ·exact dJ.mate b
         have ae:=a2 wr hT;obtain⟨V,I⟩:=f.cell ao;obtain⟨u,aJ⟩:=f.cell b;obtain⟨_,bk,a3⟩:=f.2.get ao;obtain⟨_,a4,a5⟩:=f.2.get b;have HX:=dh (dn hx (dn aq (dn a3 a5)));have E:=dh (dn f (dn r (dn l hT)));clear hx a2 aq a3 a5 f r l hT;obtain⟨vx,aK⟩:∃vx,vx=nm.getD x 0:=⟨_,rfl⟩
         obtain⟨L,aL⟩:∃L,L=nm.getD d 0:=⟨_,rfl⟩
         rw[<-aK]at V bk;rw[<-aL]at u a4;have HV:=dh (dn aK aL);clear aK aL;have bH:(x:Int)<(s.length:Int):=by omega
         have bI:(d:Int)<(s.length:Int):=by omega
         have bs:(0:Int)<=(x:Int):=by omega
         have bu:(0:Int)<=(d:Int):=by omega
         by_cases aM:vx<L
         ·have b1:decide (vx<L)=true:=decide_eq_true aM;have A:=E.out.2.2.1.lower b (by rw[<-HV.out.2];exact aM) (HX.out.2.1.trans (by rw[HV.out.1];exact HX.out.2.2.1));go_wp2_with fail;go_quiet (fail);go_wp2_with fail;obtain⟨f,r,l,hT⟩:=E.out;have kq:=(Keeps.refl (fun _=>False) wr).drewN nq;have M:=(f.keeps kq).set (d:=d) (v:=vx) A.Dz;have ak:=(r.keeps kq (fun h=>h)).set aB d (.int .i64 (vx:Nat))
          have al:((wr.drewN nq).setCell ⟨g,d,none⟩ (.int .i64 (vx:Nat))).heap[p2]? = some (.cells #[.int .i64 (K:Nat),.int .i64 (O:Nat)] 3 (0,0)) :=
           (kq.mono (fun x _ h=>h.elim):Keeps (fun q=>q=g) wr (wr.drewN nq)).setCell (p:=⟨g,d,none⟩) (.inl rfl) (.int .i64 (vx:Nat)) |>.at hT (fun e=>a1 e.symm)
          have e1:(nm.set d vx).getD d 0=vx:=by rw[List.getD_eq_getElem?_getD,List.getElem?_set,if_pos rfl,if_pos (by rw[f.2.len];exact b)];rfl
          have e2:(nm.set d vx).getD x 0=vx:=by
           rw[List.getD_eq_getElem?_getD,List.getElem?_set];by_cases a6:d=x
           ·rw[if_pos a6,if_pos (by rw[f.2.len];exact b)];rfl
           ·rw[if_neg a6,<-List.getD_eq_getElem?_getD,HV.out.1]
          obtain⟨ar,_⟩:=M.cell ao;obtain⟨au,_⟩:=M.cell b;rw[e2]at ar;rw[e1]at au;have C:=dh (dn M (dn ak (dn A al)));have b2:decide (vx<vx)=false:=decide_eq_false (by omega);clear f r l hT kq M ak al A V u I aJ e1 e2 ae;generalize World.setCell _ _ _=w5 at *;go_quiet (fail);have bl:=dh (C.out.1.keeps ((Keeps.refl (fun _=>False) w5).drewN nq));have bm:=dh (C.out.2.1.keeps ((Keeps.refl (fun _=>False) w5).drewN nq) (fun h=>h));have bn:=dh (C.out.2.2.2);clear ar au;go_wp2;go_roundg (2 - (k+1))
          case measure=>rw[aI.out];omega
          case rel=>exact⟨true,k+1,by omega,rfl,by go_num,rfl,_,bl.out,bm.out,C.out.2.2.1,bn.out⟩
         ·have b1:decide (vx<L)=false:=decide_eq_false aM;by_cases aN:L<vx
          ·have b2:decide (L<vx)=true:=decide_eq_true aN;have A:=E.out.2.2.1.lower ao (by rw[<-HV.out.1];exact aN) ((HP.out.iD he b HX.out.2.1).trans (by rw[HV.out.2];exact HX.out.2.2.2));go_wp2_with fail;go_quiet (fail);go_wp2_with fail;have a7:=(Keeps.refl (fun _=>False) wr).drewN nq;have R:(wr.drewN nq).cell? ⟨g,x,none⟩=some (.int .i64 (vx:Nat)):=V;have S:(wr.drewN nq).cell? ⟨g,d,none⟩=some (.int .i64 (L:Nat)):=u;have av:(wr.drewN nq).frozen? ⟨g,x,none⟩=false:=I;have KQ:=dh a7;clear a7 V u I aJ ae;generalize wr.drewN nq=wq at *;go_quiet (fail);have bo:Hid ((wq.drewN nq).frozen? ⟨g,x,none⟩=false/\(wq.drewN nq).cell? ⟨g,x,none⟩=some (.int .i64 (vx:Nat))/\(wq.drewN nq).cell? ⟨g,d,none⟩=some (.int .i64 (L:Nat))):=dh ⟨av,R,S⟩;have N:=dh (KQ.out.trans ((Keeps.refl (fun _=>False) wq).drewN nq) (fun _ _ h=>h));clear R S av;generalize wq.drewN nq=wz at *;obtain⟨bp,a8,a9⟩:=bo.out;go_wp2_with fail;obtain⟨f,r,l,hT⟩:=E.out;have M:=(f.keeps N.out).set (d:=x) (v:=L) A.Dz;have ak:=(r.keeps N.out (fun h=>h)).set aB x (.int .i64 (L:Nat))
           have al:(wz.setCell ⟨g,x,none⟩ (.int .i64 (L:Nat))).heap[p2]? = some (.cells #[.int .i64 (K:Nat),.int .i64 (O:Nat)] 3 (0,0)) :=
            (N.out.mono (fun x _ h=>h.elim):Keeps (fun q=>q=g) wr wz).setCell (p:=⟨g,x,none⟩) (.inl rfl) (.int .i64 (L:Nat)) |>.at hT (fun e=>a1 e.symm)
           have C:=dh (dn M (dn ak (dn A al)));clear f r l hT M ak al A bp a8 a9;go_roundg (2 - (k+1))
           case measure=>rw[aI.out];omega
           case rel=>exact⟨true,k+1,by omega,rfl,by go_num,rfl,_,C.out.1,C.out.2.1,C.out.2.2.1,C.out.2.2.2⟩
          ·have b2:decide (L<vx)=false:=decide_eq_false aN;have ba:=E.out.2.2.1.equal HX.out.1 (by rw[<-HV.out.1,<-HV.out.2];omega);have HE:=dh ba;clear ba;go_wp2_with fail;go_quiet (fail);go_wp2_with fail;have R:(wr.drewN nq).cell? ⟨g,x,none⟩=some (.int .i64 (vx:Nat)):=V;have S:(wr.drewN nq).cell? ⟨g,d,none⟩=some (.int .i64 (L:Nat)):=u;have KQ:=dh ((Keeps.refl (fun _=>False) wr).drewN nq);clear V u I aJ ae;generalize wr.drewN nq=wq at *;go_quiet (fail);have N:=dh (KQ.out.trans ((Keeps.refl (fun _=>False) wq).drewN nq) (fun _ _ h=>h));clear R S;generalize wq.drewN nq=wz at *;go_wp2_with fail;go_roundg (2 - (k+1))
           case measure=>rw[aI.out];omega
           case rel=>exact⟨t,k+1,by omega,rfl,by go_num,rfl,_,E.out.1.keeps N.out,E.out.2.1.keeps N.out (fun h=>h),HE.out,N.out.at E.out.2.2.2 (fun h=>h)⟩
        ·obtain rfl:k=2:=by omega
         have F:=dh (dn f (dn r l.next));clear f r l hT aj;go_wp2;go_roundg (s.length - (d+1))
         case measure=>rw[bi.out];omega
         case rel=>exact⟨t,d+1,by omega,rfl,by go_num,rfl,nm,F.out⟩
      ·obtain rfl:d=s.length:=by omega
       have F:=dh (dn f (dn r l));clear f r l b hd;go_wp2;go_roundg (if t=true then nm.sum+1 else 0)
       case measure =>
        rw[HG.out,if_pos trivial];cases t
        ·rw[if_neg (by decide)];omega
        ·rw[if_pos rfl];have:=F.out.2.2.less rfl;omega
       case rel=>exact⟨t,nm,rfl,rfl,⟨F.out.1,F.out.2.1⟩,fun ht d hd=>by obtain⟨h1,h2,_⟩:=F.out.2.2.same ht;rw[h1];exact h2 d hd⟩
end
section
structure jS (n:Nat)(S dH:Nat->Nat)(root T:Nat):Prop where
 right:gB (jJ (fC S dH root T).2)
 nd:((fC S dH root T).2.map Prod.fst).Nodup
 uD:∀x,x<n->(dJ n S root x↔vis (fC S dH root T).2 x)
 lt:∀x,vis (fC S dH root T).2 x->x<n
 cur:∀j,j<T->(fC S dH root j).1<n/\¬vis (fC S dH root j).2 (fC S dH root j).1
 k4:∀j,j<=T->∀x k,(x,k) ∈ (fC S dH root j).2->k<4
 le:T<=n
theorem Sr{n:Nat}{S dH:Nat->Nat}(h:dU n S)(A:n % 2=0)(l:∀x y,x<n->y<n->(dH x=dH y↔dK S x y)){root:Nat}(hr:root<n):∃T,jS n S dH root T:=by
 have c:∀x,x<n->dH (S x)=dH x:=fun x m=>((l x (S x) m (h.lt x m)).2 (dK.step S x)).symm;obtain⟨T,r,I,B,b⟩:=LV h A l hr n 0 0 [] (by omega) (Gl l hr) (fun i N=>by omega)
 have o:∀j,j<=T->∃r C a,iK n S dH root r C (fC S dH root j).1 (fC S dH root j).2/\tq (fC S dH root j).2 C a:=by
  intro j
  induction j with
  | zero=>intro _;exact⟨0,[],[],Gl l hr,LY⟩
  | succ j F =>
   intro q;obtain⟨t,st1,a,g,u⟩:=F (by omega);obtain⟨D,st2,p,d⟩:=b j (by omega);obtain⟨E,s,k⟩:=p.fresh h hr d;have v:¬jO S root t st1:=fun e=>k (g.all h hr e c s);obtain⟨G,sU,H,J⟩:=g.step h A l hr v;obtain⟨f,K⟩:=u.step h hr g k H;exact⟨G,sU,f,J,K⟩
 obtain⟨t,st1,a,g,u⟩:=o T (Nat.le_refl _);have e:jO S root t st1:=by apply Classical.byContradiction;intro L;obtain⟨_,s,k⟩:=g.fresh h hr L;exact k (I.all h hr B c s)
 obtain⟨rfl,w⟩:=id e;refine⟨T,⟨u.done h hr g ⟨rfl,w⟩,I.nd,fun x m=>⟨fun M=>I.all h hr B c M,fun z=>(I.conn x z).2⟩,fun x m=>(I.conn x m).1,fun j q=>?_,fun j q=>?_,?_⟩⟩
 ·obtain⟨D,st2,p,d⟩:=b j q;obtain⟨E,s,k⟩:=p.fresh h hr d;exact⟨E,k⟩
 ·obtain⟨D,st2,_,p,_⟩:=o j q;exact p.k4
 ·have:=I.len;rwa [sN]at this
theorem jS.total{n:Nat}{S dH:Nat->Nat}{root T:Nat}(h:jS n S dH root T)(p:Nat->Bool)(c:∀x,x<n->(p x=true↔dJ n S root x)):((List.range n).filter p).length=T:=by
 have d:((List.range n).filter p).length=((fC S dH root T).2.map Prod.fst).length:=by
  refine vY (List.Pairwise.filter _ List.nodup_range) h.nd (fun x=>?_);rw[List.mem_filter,List.mem_range,<-Dv];constructor
  ·rintro⟨a,h3⟩;exact(h.uD x a).1 ((c x a).1 h3)
  ·intro a;have b:=h.lt x a;exact⟨b,(c x b).2 ((h.uD x b).2 a)⟩
 rw[d,List.length_map,sN]
def j4(a:List (Nat × Nat))(e:Nat):Option Nat:=(a.find? (fun p=>p.1 / 2 == e)).map Prod.snd
theorem IL(a:List (Nat × Nat))(d k e:Nat):j4 (a ++ [(d,k)]) e=match j4 a e with|some x=>some x|none=>if d / 2=e then some k else none:=by
 unfold j4;rw[List.find?_append];cases a.find? (fun p=>p.1 / 2 == e) with
 | some p=>rfl
 | none =>
  by_cases h:d / 2=e
  ·simp[h]
  ·simp[h]
theorem MG(dH:Nat->Nat)(root:Nat)(a:List (Nat × Nat))(d:Nat):fH dH root a d=match j4 a (d / 2) with|some x=>x+1|none=>if iB dH root a (dH (mt d))then 2 else 0:=by unfold fH j4;cases a.find? (fun p=>p.1 / 2 == d / 2) <;> rfl
end
section
open Go.RowKit
theorem IQ(w:World):dI w.heap.size (w.alloc (.cells #[] 3)) (.slice (some ⟨w.heap.size,0,none⟩) 0 0) []:=by refine⟨rfl,.inr ⟨w.heap.size,0,#[],rfl,Nat.le_refl _,heap_alloc_new w _,Nat.le_refl _,Nat.zero_le _,?_,?_⟩⟩ <;> simp[ints]
theorem IU(sv:Value)(zs:List Int)(w:World)(p:Sl .i64 w sv zs)(A:zs.length<=1000000000) :
  Calls Tryz.prog 113 #[sv] w fun e w'=>∃v,e=.returned v/\dI w.heap.size w' v zs/\Keeps (fun _=>False) w w':=by
 have q:=fun (w:World) (a:Option Addr) (n c:Nat)=>Lib.run_eql_slice_nil (P:=Tryz.prog) w 25 3 a n c 0 0 Tryz.underlying25;have f:=p;obtain⟨a,cap,rfl,s,t,b,k⟩:=p;cases a with
 | none =>
  have u:zs=[]:=by
   cases zs with
   | nil=>rfl
   | cons y ys=>obtain⟨g,off,h,_⟩:=k 0 y rfl;cases h
  subst u;obtain rfl:=b rfl;clear k f b;go_enter Tryz.func113,Tryz.ntmps113;go_wp2;go_ret;exact⟨_,rfl,dI.nil _ _,Keeps.refl _ _⟩
 | some a =>
  have l:=(Keeps.refl (fun _=>False) w).alloc (.cells #[] 3);have i:=f.keeps l (fun _ _ h=>h);have r:=IQ w;have m:=dh (dn i (dn r l));clear k f b i r l;go_enter Tryz.func113,Tryz.ntmps113;go_wp2_with (at_builtin;(refine Ij rfl _ _ rfl w.heap.size (.slice (some ⟨w.heap.size,0,none⟩) 0 0) (.slice (some a) zs.length cap) [] zs rfl rfl m.out.2.1 m.out.1 (by simp;omega) (by simp) ?_);intro v5 w5 d j o)
  have z:Hid (dI w.heap.size w5 v5 zs/\Keeps (fun _=>False) w w5):=dh ⟨by simpa using d,m.out.2.2.trans j (fun x B h=>by simp only [Value.ownBlock,Option.some.injEq]at h;omega)⟩;clear d j o;go_wp2;go_ret;exact⟨_,rfl,z.out⟩
end
section
open Go.RowKit
structure rU (W:World)(bw bv:Nat)(vv:Value)(s:iG):Prop where
 sp:gV W bw 261 s.l s.h [.pointer (some ⟨bv,0,none⟩),.int .i64 s.w]
 vec:fq W bv vv s.o
 ne:bw≠bv
 no:vv.ownBlock≠some bw
theorem rU.c2{W:World}{a b:Nat}{c:Value}{s:iG}(h:rU W a b c s):W.cell? ⟨a,2,none⟩=some (.pointer (some ⟨b,0,none⟩)):=by have:=dw h.sp 2;simpa using this
theorem rU.c3{W:World}{a b:Nat}{c:Value}{s:iG}(h:rU W a b c s):W.cell? ⟨a,3,none⟩=some (.int .i64 s.w):=by have:=dw h.sp 3;simpa using this
theorem rU.free{W:World}{a b:Nat}{c:Value}{s:iG}(h:rU W a b c s):∀i,W.frozen? ⟨a,i,none⟩=false:=dx h.sp
theorem rU.keeps{W d:World}{a b:Nat}{c:Value}{s:iG}{G:Nat->Prop}(h:rU W a b c s)(k:Keeps G W d)(e:¬G a)(f:¬G b)(g:∀q,c.ownBlock=some q->¬G q):rU d a b c s:=⟨h.sp.keeps k e,h.vec.keeps k f g,h.ne,h.no⟩
def wE(w:World)(b c:Nat)(d:Value)(s:iG)(w':World):Prop :=
 ∃a,rU w' b c a s/\Keeps (fun k=>k=b\/k=c\/d.ownBlock=some k) w w'/\(a.ownBlock=d.ownBlock\/∃k,a.ownBlock=some k/\w.heap.size<=k)
theorem rU.grown{w w1:World}{a b:Nat}{c:Value}{s:iG}{o:List Bool}(h:rU w a b c s)(j:a<w.heap.size)(g:fA w b c o w1):wE w a b c { s with o:=o } w1:=by
 obtain⟨v',l,f,i⟩:=g;refine⟨v',⟨h.sp.keeps f (fun e=>?_),l,h.ne,fun e=>?_⟩,f.mono (fun _ _ e=>.inr e),i⟩
 ·rcases e with e|e
  ·exact h.ne e
  ·exact h.no e
 ·rcases i with d|⟨k,d,m⟩
  ·exact h.no (by rw[<-d];exact e)
  ·rw[d]at e;have:=Option.some.inj e;omega
theorem wE.trans{w w1 j:World}{f g:Nat}{i a:Value}{s:iG}(k:Keeps (fun k=>k=f\/k=g\/i.ownBlock=some k) w w1)(l:a.ownBlock=i.ownBlock\/∃k,a.ownBlock=some k/\w.heap.size<=k)(h:wE w1 f g a s j):wE w f g i s j:=by
 obtain⟨m,n,o,p⟩:=h;refine⟨m,n,k.trans o (fun x r e=>?_),?_⟩
 ·rcases e with e|e|e
  ·exact .inl e
  ·exact .inr (.inl e)
  ·rcases l with b|⟨q,b,c⟩
   ·exact .inr (.inr (by rw[<-b];exact e))
   ·rw[b]at e;have:=Option.some.inj e;omega
 ·rcases p with d|⟨q,d,c⟩
  ·rcases l with b|⟨q,b,c⟩
   ·exact .inl (d.trans b)
   ·exact .inr ⟨q,d.trans b,c⟩
  ·exact .inr ⟨q,d,Nat.le_trans k.size c⟩
end
