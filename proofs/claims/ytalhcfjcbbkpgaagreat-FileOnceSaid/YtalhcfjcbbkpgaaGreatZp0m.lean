import Derived.StillTailTactics
import Derived.Test.YtalhcfjcbbkpgaaGreatZp0k
set_option maxRecDepth 100000
set_option maxHeartbeats 4000000
namespace Go.Proofs.YtalhcfjcbbkpgaaGreat
section
def qR(n:Nat)(S:Nat->Nat)(d:Nat)(zs:List Int):Prop:=∀x,x<n->zs[x]? = some (if eU n S x<d then ((eP n S x:Nat):Int)else -1)
def wV(n:Nat)(S:Nat->Nat)(d:Nat)(V:List Nat)(zs:List Int):Prop:=∀x,x<n->zs[x]? = some (if x ∈ V then ((dX n S d:Nat):Int)else if eU n S x<d then ((eP n S x:Nat):Int)else -1)
structure mE (n:Nat)(S:Nat->Nat)(d:Nat)(V st:List Nat):Prop where
 nd:V.Nodup
 cl:∀z ∈ V,z<n/\dI n S d z
 dm:d ∈ V
 sub:∀z ∈ st,z ∈ V
 sn:st.Nodup
theorem mE.Ez{n:Nat}{S:Nat->Nat}{d:Nat}{V a:List Nat}(h:mE n S d V a):a.length<=V.length:=sK a V h.sn h.sub
theorem mE.pop{n:Nat}{S:Nat->Nat}{d x:Nat}{V a:List Nat}(h:mE n S d V (a ++ [x])):mE n S d V a :=
 ⟨h.nd,h.cl,h.dm,fun z c=>h.sub z (by simp[c]),(List.nodup_append.1 h.sn).1⟩
theorem mE.len{n:Nat}{S:Nat->Nat}{d:Nat}{V a:List Nat}(h:mE n S d V a):V.length<=n:=Bl n V h.nd (fun z c=>(h.cl z c).1)
section
variable {n:Nat} {S:Nat->Nat} (h:dO n S) (he:n % 2=0) {d:Nat} (hd:d<n)
include h he hd
omit h he in
theorem qR.at{zs:List Int}{z:Int}(k:qR n S d zs)(c:zs[d]? = some z):(eU n S d=d/\z=-1)\/(eU n S d≠d/\0<=z):=by
 rw[k d hd]at c;have c:=Option.some.inj c;have e:=xu (dI.refl n S d);by_cases a:eU n S d=d
 ·rw[if_neg (by omega)]at c;exact .inl ⟨a,c.symm⟩
 ·rw[if_pos (by omega)]at c;exact .inr ⟨a,by omega⟩
omit hd in
theorem qR.skip{zs:List Int}(k:qR n S d zs)(i:eU n S d≠d):qR n S (d+1) zs:=fun x c=>by
 rw[k x c];by_cases a:eU n S x<d
 ·rw[if_pos a,if_pos (by omega)]
 ·have:eU n S x≠d:=fun e=>i (by have f:=h.jf he c;rw[e]at f;exact f);rw[if_neg a,if_neg (by omega)]
omit h in
theorem qR.start{zs:List Int}(f:zs.length=n)(k:qR n S d zs)(i:eU n S d=d):wV n S d [d] (zs.set d ((dX n S d:Nat):Int))/\mE n S d [d] [d]:=by
 refine⟨fun x e=>?_,⟨by simp,fun z c=>by simp at c;subst c;exact⟨hd,dI.refl n S _⟩,by simp,fun z c=>c,by simp⟩⟩;rw[List.getElem?_set];by_cases a:d=x
 ·subst a;rw[if_pos rfl,if_pos (by omega),if_pos (by simp)]
 ·rw[if_neg a,if_neg (by simp;omega)];exact k x e
omit h he hd in
theorem wV.old{V:List Nat}{zs:List Int}{y:Nat}{z:Int}(k:wV n S d V zs)(c:y<n)(e:y ∈ V)(a:zs[y]? = some z):0<=z:=by rw[k y c,if_pos e]at a;have:=Option.some.inj a;omega
theorem wV.fresh{V:List Nat}{zs:List Int}{y:Nat}{z:Int}(k:wV n S d V zs)(j:eU n S d=d)(c:y<n)(a:dI n S d y)(i:y ∉ V)(f:zs[y]? = some z):z=-1:=by have e:=(h.jG he hd c).2 a;rw[k y c,if_neg i,if_neg (by omega)]at f;exact(Option.some.inj f).symm
omit h he hd in
theorem wV.push{V:List Nat}{zs:List Int}{y:Nat}(f:zs.length=n)(k:wV n S d V zs)(i:y<n):wV n S d (y :: V) (zs.set y ((dX n S d:Nat):Int)):=fun x c=>by
 rw[List.getElem?_set];by_cases a:y=x
 ·subst a;rw[if_pos rfl,if_pos (by omega),if_pos (by simp)]
 ·rw[if_neg a,k x c];have:(x ∈ y :: V)↔x ∈ V:=by simp;omega
  by_cases b:x ∈ V
  ·rw[if_pos b,if_pos (this.2 b)]
  ·rw[if_neg b,if_neg (fun e=>b (this.1 e))]
omit h he hd in
theorem mE.push{V e:List Nat}(k:mE n S d V e){y:Nat}(i:y<n)(c:dI n S d y)(f:y ∉ V):mE n S d (y :: V) (e ++ [y]) :=
 ⟨List.nodup_cons.2 ⟨f,k.nd⟩,fun z a=>by
  rcases List.mem_cons.1 a with rfl|a
  ·exact⟨i,c⟩
  ·exact k.cl z a,List.mem_cons_of_mem _ k.dm,fun z a=>by
  rcases List.mem_append.1 a with a|a
  ·exact List.mem_cons_of_mem _ (k.sub z a)
  ·simp at a;subst a;simp,Ic k.sn (fun j=>f (k.sub y j))⟩
theorem wV.done{V:List Nat}{zs:List Int}(k:wV n S d V zs)(I:mE n S d V [])(j:eU n S d=d)(c:∀z ∈ V,S z ∈ V/\mt z ∈ V):qR n S (d+1) zs:=fun x f=>by
 have m:x ∈ V↔eU n S x=d:=by
  constructor
  ·intro o;rw[<-(h.jG he hd f).2 (I.cl x o).2];exact j
  ·intro e;have i:dI n S d x:=(h.jG he hd f).1 (by rw[j,e]);exact i (fun z=>z ∈ V) I.dm (fun z _ p=>c z p)
 rw[k x f];by_cases a:x ∈ V
 ·have e:=m.1 a;rw[if_pos a,if_pos (by omega)];unfold eP;rw[e]
 ·have e:eU n S x≠d:=fun e=>a (m.2 e);rw[if_neg a];by_cases b:eU n S x<d
  ·rw[if_pos b,if_pos (by omega)]
  ·rw[if_neg b,if_neg (by omega)]
end
theorem qR.zero{n:Nat}{S:Nat->Nat}{zs:List Int}(h:∀i,i<n->zs[i]? = some (-1)):qR n S 0 zs:=fun x a=>by rw[if_neg (by omega)];exact h x a
theorem qR.all{n:Nat}{S:Nat->Nat}{zs:List Int}(h:dO n S)(he:n % 2=0)(c:zs.length=n)(k:qR n S n zs):zs=dD ((List.range n).map (eP n S)):=by
 apply List.ext_getElem?;intro i;rcases Nat.lt_or_ge i n with a|a
 ·rw[k i a,if_pos (h.lF he a)];simp[dD,a]
 ·rw[List.getElem?_eq_none (by omega),List.getElem?_eq_none (by simp[dD];omega)]
end
section
open Go.RowKit
theorem dH.dropLast{B:Nat}{w:World}{g n cap:Nat}{zs:List Int}{z:Int}(h:dH B w (.slice (some ⟨g,0,none⟩) (n+1) cap) (zs ++ [z])):dH B w (.slice (some ⟨g,0,none⟩) n cap) zs:=by
 obtain⟨r,a⟩:=h;rcases a with⟨a,_⟩|⟨t,i,cur,j,k,m,c,e,f,o⟩
 ·cases a
 ·simp only [Value.slice.injEq,Option.some.injEq,Addr.mk.injEq,and_true]at j;obtain⟨rfl,p,rfl⟩:=j;have q:zs.length=n:=by simp at p;omega
  refine⟨by simp[ints],.inr ⟨g,cap,cur,by rw[q],k,m,by simp at c;omega,e,f,?_⟩⟩;have:=congrArg (List.take (zs.length * 1)) o;rw[List.take_take]at this;rw[Nat.min_eq_left (by simp)]at this;rw[this];simp[ints]
theorem TN(B g n cap:Nat)(zs:List Nat)(x:Nat)(w:World)(h:dH B w (.slice (some ⟨g,0,none⟩) (n+1) cap) (dD (zs ++ [x])))(o:zs.length=n)(F:n<=1000000000) :
  Calls Tryz.prog 155 #[.slice (some ⟨g,0,none⟩) (n+1) cap] w fun e w'=>e=.returned (.tuple #[.int .i64 x,.slice (some ⟨g,0,none⟩) n cap])/\∃k,w'=w.drewN k:=by
 have G:=(h.cell (i:=n) (z:=(x:Int)) (by rw[tV,List.getElem?_append_right (by rw[q01];omega),q01,o];simp)).1;obtain⟨a,c,p,f,H⟩:=h.form;simp only [Value.slice.injEq]at p;obtain⟨rfl,u,rfl⟩:=p;clear u;have j:n+1<=cap:=by rw[q01]at f;simp at f;omega
 have v:¬n=cap:=by omega
 have y:¬cap=n:=by omega
 have A:¬cap=0:=by omega
 have q:¬0=cap:=by omega
 obtain⟨N,r⟩:∃N,N=n+1:=⟨_,rfl⟩
 rw[<-r]at j ⊢;have C:n<N:=by omega
 have t:(n:Int)<(N:Int):=by omega
 have m:IntKind.i64.wrap ((N:Int) - 1)=(n:Int):=by rw[show ((N:Int) - 1)=(n:Int) by omega];exact IntWalk.i64_in _ (by omega)
 have D:n<=cap:=by omega
 have E:N<=1000000001:=by omega
 clear h f o r;go_enter Tryz.func155,Tryz.ntmps155;go_wp2;go_quiet (fail);clear m;go_wp2;go_ret2;exact⟨rfl,_,rfl⟩
structure ES (w:World)(n:Nat)(S:Nat->Nat)(d g:Nat)(V st:List Nat)(wv:Value)(wr:World):Prop where
 nm:dV w g n (wV n S d V) wr
 wt:dH w.heap.size wr wv (dD st)
 ne:∀k,wv.ownBlock=some k->k≠g
theorem ES.fJ{w:World}{n:Nat}{S:Nat->Nat}{d g:Nat}{V a:List Nat}{c:Value}{wr:World}(h:ES w n S d g V a c wr):Keeps (fun _=>False) w wr:=by obtain⟨_,_,_,_,e⟩:=h.nm;exact e
theorem ES.drewN{w:World}{n:Nat}{S:Nat->Nat}{d g:Nat}{V a:List Nat}{c:Value}{wr:World}(h:ES w n S d g V a c wr)(k:Nat):ES w n S d g V a c (wr.drewN k):=by have e:=(Keeps.refl (fun _=>False) wr).drewN k;exact⟨h.nm.keeps e,h.wt.keeps e (fun _ _ h=>h),h.ne⟩
theorem ES.pop{w:World}{n:Nat}{S:Nat->Nat}{d g:Nat}{V a:List Nat}{x c m cap:Nat}{wr:World}(h:ES w n S d g V (a ++ [x]) (.slice (some ⟨c,0,none⟩) (m+1) cap) wr):ES w n S d g V a (.slice (some ⟨c,0,none⟩) m cap) wr :=
 ⟨h.nm,dH.dropLast (z:=(x:Int)) (by rw[<-tV];exact h.wt),fun k e=>h.ne k e⟩
theorem ES.store{w:World}{n:Nat}{S:Nat->Nat}{d g:Nat}{V c:List Nat}{f:Value}{wr:World}(h:ES w n S d g V c f wr){y:Nat}(i:y<n):ES w n S d g (y :: V) c f (wr.setCell ⟨g,y,none⟩ (.int .i64 ((dX n S d:Nat):Int))):=by have j:=(Keeps.refl (fun q=>q=g) wr).setCell (p:=⟨g,y,none⟩) (.inl rfl) (.int .i64 ((dX n S d:Nat):Int));exact⟨h.nm.set y _ (fun zs a k=>k.push a i),h.wt.keeps j (fun q m e=>h.ne q m e),h.ne⟩
theorem ES.app{w:World}{n:Nat}{S:Nat->Nat}{d g:Nat}{V a:List Nat}{c:Value}{wr:World}(h:ES w n S d g V a c wr){y g5 m cap:Nat}{w5:World}
  (j:dH w.heap.size w5 (.slice (some ⟨g5,0,none⟩) m cap) (dD a ++ [(y:Int)]))(k:Keeps (fun q=>c.ownBlock=some q) wr w5)(f:c.ownBlock=some g5\/wr.heap.size<=g5) :
  ES w n S d g V (a ++ [y]) (.slice (some ⟨g5,0,none⟩) m cap) w5:=by
 have p:=h.nm.old;refine⟨h.nm.xA k (fun e=>h.ne g e rfl) (fun x o=>(h.wt.lt x o).1),by rw[tV];exact j,fun q i=>?_⟩;simp only [Value.ownBlock,Option.some.injEq]at i;subst i;rcases f with e|e
 ·exact h.ne _ e
 ·omega
theorem Jf{w:World}{b:Nat}{s:List Nat}{root lone:Int}{R:Nat->Prop}(h:MapAt w b s root lone R) :
  Calls Tryz.prog 120 #[.pointer (some ⟨b,0,none⟩)] w fun e w'=>∃g,e=.returned (.slice (some ⟨g,0,none⟩) s.length s.length)/\dV w g s.length (fun zs=>zs=dD ((List.range s.length).map (eP s.length (sg s)))) w':=by
 have aN:Hid (∀W,Keeps (fun _=>False) w W->MapAt W b s root lone R):=dh (fun W hk=>h.keeps hk (fun h=>h) (fun _ _ h=>h));have hD:=uS h;have a4:=h.le;have K:=dh (dn h.dR h.even);clear h;obtain⟨i,hi,ag,Z,an⟩:=info_parts nX;have ao:=fun w=>run_make (P:=Tryz.prog) w 25 3 i _ Tryz.underlying25 hi ag .i64 .i64 (s.length:Int) (s.length:Int) (by omega) (Int.le_refl _) (by rw[an];omega) (by omega);simp only [Z,Int.toNat_natCast,Nat.mul_one]at ao;have h0:=dV.made w s.length (fun zs=>∀i,i<0->zs[i]? = some (-1)) (fun i hi=>by omega) (by omega);clear hi ag Z an;go_enter Tryz.func120,Tryz.ntmps120;go_wp2_with fail;refine hD.mono ?_;rintro e w' ⟨rfl,rfl⟩;clear hD;go_wp2_with fail;clear ao;generalize aO:World.alloc _ _=wM at *;clear aO;obtain⟨g,hg⟩:∃g,g=w.heap.size:=⟨_,rfl⟩
 rw[<-hg]at h0;rw[<-hg];clear hg;go_loopg [17] s.length (fun m i wr=>∃j:Nat,j<=s.length/\m=s.length - j/\i=.int .i64 j/\dV w g s.length (fun zs=>∀i,i<j->zs[i]? = some (-1)) wr)
 case atStart=>exact⟨0,Nat.zero_le _,rfl,rfl,h0⟩
 case round =>
  clear h0;obtain⟨j,hj,p,rfl,E⟩:=hrel;have HG:=dh p;clear p;by_cases t:j<s.length
  ·obtain⟨z,_,hc,hf⟩:=E.cell j t
   have F:=dh (E.set (Q:=fun zs=>∀i,i<j+1->zs[i]? = some (-1)) j (-1) (fun zs o h i hi=>by
    rw[List.getElem?_set];by_cases ap:j=i
    ·rw[if_pos ap,if_pos (by omega)]
    ·rw[if_neg ap];exact h i (by omega)))
   clear E;go_wp2;go_roundg (s.length - (j+1))
   case measure=>rw[HG.out];omega
   case rel=>exact⟨j+1,by omega,rfl,by go_num,F.out⟩
  ·obtain rfl:j=s.length:=by omega
   have h1:dV w g s.length (qR s.length (sg s) 0) wr:=E.mono (fun zs _ h=>qR.zero h);clear E t hj HG;go_wp2_with fail;go_loopg [5,26] s.length (fun m c i wr=>∃d:Nat,d<=s.length/\m=s.length - d/\i=.int .i64 d/\c=.int .i64 (dX s.length (sg s) d:Nat)/\dV w g s.length (qR s.length (sg s) d) wr)
   case atStart=>exact⟨0,Nat.zero_le _,rfl,rfl,rfl,h1⟩
   case round =>
    clear h1;obtain⟨d,hd,p,rfl,rfl,E⟩:=hrel;have HG:=dh p;clear p;have a5:=BD s.length (sg s) d;have G:=ug s.length (sg s) d;by_cases t:d<s.length
    rotate_left
    ·obtain rfl:d=s.length:=by omega
     have HF:=dh (E.mono (fun zs o h=>qR.all K.out.1 K.out.2 o h));clear E G;go_wp2;go_ret;exact⟨g,rfl,HF.out⟩
    ·obtain⟨z,⟨zs,o,v,D⟩,hc,hf⟩:=E.cell d t;rcases qR.at t v D with⟨hr,rfl⟩|⟨hr,L⟩
     rotate_left
     ·rw[if_neg hr]at G;have HF:=dh (dn (E.mono (fun zs _ h=>qR.skip K.out.1 K.out.2 h hr)) G);clear E hr G v D o;generalize dX s.length (sg s) d=c at *;go_wp2;go_roundg (s.length - (d+1))
      case measure=>rw[HG.out];omega
      case rel=>exact⟨d+1,by omega,rfl,by go_num,by rw[HF.out.2];go_num,HF.out.1⟩
     ·rw[if_pos hr]at G;have a0:decide ((0:Int)<=-1)=false:=by decide
      obtain⟨_,_,_,_,aq⟩:=id E;have a6:=E.old;have kb:=(E.set (Q:=wV s.length (sg s) d [d]) d ((dX s.length (sg s) d:Nat):Int) (fun zs o k=>(qR.start K.out.2 t o k hr).1))
      have ka:=(Keeps.refl (fun _=>False) (wr.setCell ⟨g,d,none⟩ (.int .i64 ((dX s.length (sg s) d:Nat):Int)))).alloc (.cells #[.int .i64 d] 3);have h2:ES w s.length (sg s) d g [d] [d] (.slice (some ⟨wr.heap.size,0,none⟩) 1 1) ((wr.setCell ⟨g,d,none⟩ (.int .i64 ((dX s.length (sg s) d:Nat):Int))).alloc (.cells #[.int .i64 d] 3)):=by have ho:dH _ _ _ [(d:Int)]:=q3z (wr.setCell ⟨g,d,none⟩ (.int .i64 ((dX s.length (sg s) d:Nat):Int))) (d:Int);rw[show (wr.setCell ⟨g,d,none⟩ (.int .i64 ((dX s.length (sg s) d:Nat):Int))).heap.size=wr.heap.size by simp]at ho;exact⟨kb.keeps ka,ho.mono (fun q hq=>by simp only [Value.ownBlock,Option.some.injEq]at hq;have:=aq.size;omega),fun k hk=>by simp only [Value.ownBlock,Option.some.injEq]at hk;omega⟩
      have ar:=(qR.start (zs:=zs) K.out.2 t o v hr).2;have aP:=vK hc (.cells #[.int .i64 d] 3);have aQ:(wr.alloc (.cells #[.int .i64 d] 3)).frozen? ⟨g,d,none⟩=false:=by obtain⟨z2,_,_,aR⟩:=(E.keeps ((Keeps.refl (fun _=>False) wr).alloc (.cells #[.int .i64 d] 3))).cell d t;exact aR
      have HR:=dh (dn hr G);have H2:=dh (dn h2 ar);generalize au:dX s.length (sg s) d=c at *;have HC:=dh au;clear E hr G v D o aq ka kb h2 ar au;go_wp2_with fail;clear aP aQ hc hf;generalize World.alloc _ _=w2 at *;generalize Value.slice (some ⟨wr.heap.size,0,none⟩) 1 1=XW at *;go_loopg [7] (2 * (s.length - 1)+1) (fun m wv wr=>∃V st,m=2 * (s.length - V.length)+st.length/\mE s.length (sg s) d V st/\(∀z ∈ V,z ∈ st\/(sg s z ∈ V/\mt z ∈ V))/\ES w s.length (sg s) d g V st wv wr)
      case atStart =>
       exact⟨[d],[d],rfl,H2.out.2,fun z L=>.inl L,H2.out.1⟩
      case round =>
       clear H2;obtain⟨V,st,p,B,f,C⟩:=hrel;have av:=dh p;clear p;rcases List.eq_nil_or_concat st with rfl|⟨st',x,rfl⟩
       ·have aS:=C.wt.form;obtain⟨wa,wc,rfl,_,_⟩:=aS;have HF:=dh (C.nm.mono (fun zs o k=>k.done K.out.1 K.out.2 t B HR.out.1 (fun z L=>(f z L).resolve_left (by simp))));have aw:(dD ([]:List Nat)).length=0:=rfl;rw[aw];clear C B f aw;go_wp2;go_roundg (s.length - (d+1))
        case measure=>rw[HG.out];omega
        case rel=>exact⟨d+1,by omega,rfl,by go_num,by rw[HR.out.2];go_num,HF.out⟩
       ·rw[List.concat_eq_append]at *;obtain⟨m,hm⟩:∃m,m=st'.length:=⟨_,rfl⟩
        obtain⟨wg,wc,rfl,a7,_⟩:=ru C.wt (by rw[q01];simp);have ax:(dD (st' ++ [x])).length=m+1:=by rw[q01,hm];simp
        rw[ax]at C ⊢;have a8:=B.len;have u:=B.sub x (by simp);have I:=(B.cl x u).1;have ah:=(B.cl x u).2;have a9:m<=131072:=by have h5:=B.Ez;simp at h5;omega
        have hL:=TN w.heap.size wg m wc st' x wr C.wt hm.symm (by omega);have ay:=C.pop;have az:=B.pop;have aA:gk=2 * (s.length - V.length)+(m+1):=by rw[av.out];simp[hm]
        have M:∀z ∈ V,z ∈ st'\/z=x\/(sg s z ∈ V/\mt z ∈ V):=fun z L=>by
         rcases f z L with h6|h6
         ·simp only [List.mem_append,List.mem_singleton]at h6;rcases h6 with h6|h6
          ·exact .inl h6
          ·exact .inr (.inl h6)
         ·exact .inr (.inr h6)
        have aB:=K.out.1.lt x I;have aC:=dQ K.out.2 I;have aD:=ah.trans (dI.turn I:dI s.length (sg s) x (sg s x));have aE:=ah.trans (dI.mate I:dI s.length (sg s) x (mt x));have A:=dh (dn ay (dn az (dn M (dn aA (dn u (dn aD (dn aE hm)))))));have a1:decide ((0:Int)<((m+1:Nat):Int))=true:=decide_eq_true (by omega);clear C ay B az f M aA u aD aE ah hm ax av;go_wp2_with fail;refine hL.mono ?_;rintro e w' ⟨rfl,nq,rfl⟩;clear hL;have ai:=aN.out _ (A.out.1.drewN nq).fJ;have aF:=vW ai x I;have aG:=sZ ai x I;have aH:=dh (A.out.1.drewN nq);clear ai;generalize wr.drewN nq=w4 at *;go_wp2_with (first | (go_at_call 125;refine aF.mono ?_;rintro e w' ⟨rfl,rfl⟩) | (go_at_call 77;refine aG.mono ?_;rintro e w' ⟨rfl,rfl⟩))
        clear aF aG;obtain⟨X0,aj⟩:∃X0,X0=sg s x:=⟨_,rfl⟩
        obtain⟨X1,ak⟩:∃X1,X1=mt x:=⟨_,rfl⟩
        rw[<-aj]at aB ⊢;rw[<-ak]at aC ⊢;have HX:=dh (dn aj ak);clear aj ak
        have aI:∀(k:Nat),k<2->∃y:Nat,y<s.length/\y=(if k=0 then X0 else X1)/\∀W,(Instr.index 217 (.agg #[.int .i64 X0,.int .i64 X1]) (.int .i64 (k:Int))).run Tryz.prog W=.ok (.int .i64 y) W:=fun k hk=>by
         rcases Nat.eq_zero_or_pos k with rfl|ba
         ·exact⟨X0,aB,rfl,fun W=>rfl⟩
         ·obtain rfl:k=1:=by omega
          exact⟨X1,aC,rfl,fun W=>rfl⟩
        have aT:=dh aI;clear aI;go_loopg [7,56] 2 (fun q wv i wr=>∃k a st2,q=2 - k/\k<=2/\i=.int .i64 (k:Nat)/\mE s.length (sg s) d a st2/\x ∈ a/\(∀z ∈ a,z ∈ st2\/z=x\/(sg s z ∈ a/\mt z ∈ a))/\(1<=k->sg s x ∈ a)/\(2<=k->mt x ∈ a)/\2 * (s.length - a.length)+st2.length<=2 * (s.length - V.length)+m/\ES w s.length (sg s) d g a st2 wv wr)
        case atStart=>exact⟨0,V,st',rfl,by omega,rfl,A.out.2.1,A.out.2.2.2.2.1,A.out.2.2.1,fun h=>by omega,fun h=>by omega,by rw[A.out.2.2.2.2.2.2.2];exact Nat.le_refl _,aH.out⟩
        case round =>
         clear aH;obtain⟨k,a,st2,p,bc,rfl,B,u,f,J,aa,N,C⟩:=hrel;have aJ:=dh p;clear p;obtain⟨O,T⟩:∃O,O=st2.length:=⟨_,rfl⟩
         obtain⟨wa,al,rfl,_,_⟩:=C.wt.form;rw[show (dD st2).length=O by rw[q01,T]]at C ⊢;have a2:O<=131072:=by have h5:=B.Ez;have:=B.len;omega
         by_cases aU:k<2
         ·have tk:decide ((k:Int)<2)=true:=decide_eq_true (by omega);obtain⟨y,U,r,a3⟩:=aT.out k aU
          have ab:dI s.length (sg s) d y:=by
           rw[r];split
           ·rw[HX.out.1];exact A.out.2.2.2.2.2.1
           ·rw[HX.out.2];exact A.out.2.2.2.2.2.2.1
          obtain⟨z,⟨zs,o,v,D⟩,hc,hf⟩:=C.nm.cell y U;by_cases H:y ∈ a
          ·have ag:=v.old U H D;have tz:decide (z<0)=false:=decide_eq_false (by omega)
           have F:Hid (mE s.length (sg s) d a st2/\x ∈ a/\(∀z ∈ a,z ∈ st2\/z=x\/(sg s z ∈ a/\mt z ∈ a))/\(1<=k+1->sg s x ∈ a)/\(2<=k+1->mt x ∈ a)/\2 * (s.length - a.length)+st2.length<=2 * (s.length - V.length)+m/\ES w s.length (sg s) d g a st2 (.slice wa O al) wr):=dh (by
            refine⟨B,u,f,fun _=>?_,fun _=>?_,N,C⟩
            ·by_cases e:k=0
             ·rw[if_pos e,HX.out.1]at r;rw[<-r];exact H
             ·exact J (by omega)
            ·by_cases e:k=0
             ·omega
             ·rw[if_neg e,HX.out.2]at r;rw[<-r];exact H)
           clear B u f J aa N C o v D H r ab T;go_wp2;go_roundg (2 - (k+1))
           case measure=>rw[aJ.out];omega
           case rel=>exact⟨k+1,a,st2,rfl,by omega,by go_num,F.out⟩
          ·have Z:=v.fresh K.out.1 K.out.2 t HR.out.1 U ab H D;subst Z;have tz:decide ((-1:Int)<0)=true:=by decide
           have X:=C.store (y:=y) U;rw[show dX s.length (sg s) d=c from HC.out]at X;have aK:=X.wt;have aV:=X.fJ.size;have aW:Hid ((dD st2).length=O):=dh (by rw[q01,T]);have aX:O<=10000000000:=by omega
           have ad:=fun (w5:World) g5 cap=>X.app (y:=y) (g5:=g5) (m:=O+1) (cap:=cap) (w5:=w5);have am:=B.push U ab H;have ae:=am.len
           have F:Hid (mE s.length (sg s) d (y :: a) (st2 ++ [y])/\x ∈ y :: a/\(∀z ∈ y :: a,z ∈ st2 ++ [y]\/z=x\/(sg s z ∈ y :: a/\mt z ∈ y :: a))/\(1<=k+1->sg s x ∈ y :: a)/\(2<=k+1->mt x ∈ y :: a)/\2 * (s.length - (y :: a).length)+(st2 ++ [y]).length<=2 * (s.length - V.length)+m):=dh (by
            refine⟨am,List.mem_cons_of_mem _ u,fun z L=>?_,fun _=>?_,fun _=>?_,?_⟩
            ·rcases List.mem_cons.1 L with rfl|L
             ·exact .inl (by simp)
             ·rcases f z L with e|e|e
              ·exact .inl (by simp[e])
              ·exact .inr (.inl e)
              ·exact .inr (.inr ⟨List.mem_cons_of_mem _ e.1,List.mem_cons_of_mem _ e.2⟩)
            ·by_cases e:k=0
             ·rw[if_pos e,HX.out.1]at r;rw[<-r];simp
             ·exact List.mem_cons_of_mem _ (J (by omega))
            ·by_cases e:k=0
             ·omega
             ·rw[if_neg e,HX.out.2]at r;rw[<-r];simp
            ·simp only [List.length_cons,List.length_append,List.length_nil]at ae ⊢;omega)
           have aY:=dh ad;clear B u f J aa N C o v D H r ab T X ad am ae;go_wp2_with (at_builtin;refine oz O rfl _ _ rfl w.heap.size (.slice wa O al) (dD st2) (y:Nat) aW (wr.setCell ⟨g,y,none⟩ (.int .i64 (c:Nat))).heap.size (by simp) (by simp[Act.eval]) (by simp[Act.eval]) aK aX aV ?_;intro g5 aL w5 Y aM af bd;have aZ:=dh (aY.out w5 g5 aL Y aM af);clear Y aM af)
           go_roundg (2 - (k+1))
           case measure=>rw[aJ.out];omega
           case rel=>exact⟨k+1,_,_,rfl,by omega,by go_num,F.out.1,F.out.2.1,F.out.2.2.1,F.out.2.2.2.1,F.out.2.2.2.2.1,F.out.2.2.2.2.2,aZ.out⟩
         ·obtain rfl:k=2:=by omega
          have F:Hid (mE s.length (sg s) d a st2/\(∀z ∈ a,z ∈ st2\/(sg s z ∈ a/\mt z ∈ a))/\2 * (s.length - a.length)+st2.length<=2 * (s.length - V.length)+m/\ES w s.length (sg s) d g a st2 (.slice wa O al) wr):=dh ⟨B,fun z L=>by
           rcases f z L with e|e|e
           ·exact .inl e
           ·subst e;exact .inr ⟨J (by omega),aa (by omega)⟩
           ·exact .inr e,N,C⟩
          clear B u f J aa N C T;go_wp2;go_roundg (2 * (s.length - a.length)+st2.length)
          case measure=>rw[A.out.2.2.2.1];have:=F.out.2.2.1;omega
          case rel=>exact⟨a,st2,rfl,F.out.1,F.out.2.1,F.out.2.2.2⟩
end
section
open Go.RowKit
theorem TP{w:World}{base:Nat}{e:TypeId}{g n cap:Nat}{m:List Value}(h:w.ownsRow base e 5 (.slice (some ⟨g,0,none⟩) n cap) n m)(i:Nat)(u:Value) :
  (w.setCell ⟨g,i,none⟩ u).ownsRow base e 5 (.slice (some ⟨g,0,none⟩) n cap) n (m.set i u):=by
 obtain⟨r,t⟩:=h;refine⟨by simpa using r,?_⟩;rcases t with⟨v,_⟩|⟨A,o,cur,p,x,y,f,j,c,z⟩
 ·cases v
 ·simp only [Value.slice.injEq,Option.some.injEq,Addr.mk.injEq]at p;obtain⟨⟨rfl,_⟩,_,rfl⟩:=p;refine .inr ⟨g,cap,cur.setIfInBounds i u,rfl,x,jM y i u,f,j,by simpa using c,?_⟩;rw[Array.toList_setIfInBounds,<-z];apply List.ext_getElem?;intro k;simp only [List.getElem?_take,List.getElem?_set,List.length_take];by_cases q:k<n * 5
  ·simp only [if_pos q];by_cases a:i=k
   ·subst a;have:(i<min (n * 5) cur.toList.length)=(i<cur.toList.length):=by rw[Nat.lt_min];simp;omega
    simp only [if_true,this]
   ·simp[a]
  ·simp only [if_neg q];by_cases a:i=k
   ·subst a;rw[if_pos rfl,if_neg (by omega)]
   ·simp[a]
theorem TQ:∀{ps:List (List Int)} {j k:Nat} {p:List Int} (z:Int),(∀p ∈ ps,p.length=5)->ps[j]? = some p->k<5->(ps.set j (p.set k z)).flatten=ps.flatten.set (j * 5+k) z:=by
 intro ps
 induction ps with
 | nil=>intro j k p z _ h;simp at h
 | cons q ps e =>
  intro j k p z c a f;have i:=c q (by simp);cases j with
  | zero =>
   obtain rfl:q=p:=by simpa using a
   rw[List.set_cons_zero,List.flatten_cons,List.flatten_cons,List.set_append_left _ _ (by omega)];congr 2;omega
  | succ j =>
   rw[List.set_cons_succ,List.flatten_cons,List.flatten_cons,List.set_append_right _ _ (by omega),i];rw[e z (fun p a=>c p (by simp[a])) (by simpa using a) f];congr 2;omega
theorem Own5.set{t:TypeId}{B:Nat}{w:World}{g n cap:Nat}{ps:List (List Int)}(h:Own5 t B w (.slice (some ⟨g,0,none⟩) n cap) ps){j k:Nat}{p:List Int}(i:ps[j]? = some p)(r:k<5)(z:Int) :
  Own5 t B (w.setCell ⟨g,j * 5+k,none⟩ (.int .i64 z)) (.slice (some ⟨g,0,none⟩) n cap) (ps.set j (p.set k z)):=by
 obtain⟨a,c,m⟩:=h.form;simp only [Value.slice.injEq]at m;obtain⟨_,rfl,_⟩:=m;have f:=h.2 p (List.mem_of_getElem? i);refine⟨?_,fun q u=>?_⟩
 ·have o:=TP h.1 (j * 5+k) (.int .i64 z);rw[List.length_set,TQ z h.2 i r];unfold ints at o ⊢;rw[List.map_set];exact o
 ·rcases List.mem_or_eq_of_mem_set u with e|e
  ·exact h.2 q e
  ·rw[e];simpa using f
theorem Own5.free{t:TypeId}{B:Nat}{w:World}{g n cap:Nat}{ps:List (List Int)}(h:Own5 t B w (.slice (some ⟨g,0,none⟩) n cap) ps)(i:Nat):w.frozen? ⟨g,i,none⟩=false:=by
 obtain⟨⟨_,e⟩,_⟩:=h;rcases e with⟨f,_⟩|⟨k,a,cur,c,m,j,_⟩
 ·cases f
 ·simp only [Value.slice.injEq,Option.some.injEq,Addr.mk.injEq]at c;obtain⟨⟨rfl,_⟩,_⟩:=c;exact dx j i
def nQ(nm:List Nat)(k i:Nat):Nat:=((List.range i).filter fun d=>sg nm d == k && d % 2 == 1).length
theorem Gv(nm:List Nat)(k i:Nat):nQ nm k (i+1)=nQ nm k i+if sg nm i=k then i % 2 else 0:=by unfold nQ;rw[List.range_succ,List.filter_append,List.length_append];rcases Nat.mod_two_eq_zero_or_one i with a|a <;> by_cases c:sg nm i=k <;> simp[a,c]
theorem MZ(nm:List Nat)(k i:Nat):nQ nm k i<=i:=by unfold nQ;have:=List.length_filter_le (fun d=>sg nm d == k && d % 2 == 1) (List.range i);simpa using this
theorem M4{nm:List Nat}{n:Nat}(a:∀e,2 * e+1<n->sg nm (2 * e)=sg nm (2 * e+1))(k:Nat):∀m,2 * m<=n->oF nm k (2 * m)=2 * nQ nm k (2 * m)
 | 0,_=>rfl
 | m+1,i=>by
  have c:=M4 a k m (by omega);have f:=a m (by omega);rw[show 2 * (m+1)=2 * m+1+1 by omega,LU,LU,Gv,Gv,c,<-f];by_cases e:sg nm (2 * m)=k
  ·simp only [if_pos e];omega
  ·simp only [if_neg e];omega
noncomputable def jq(s:List Nat)(j:Nat):Nat:=((List.range s.length).filter fun d=>eU s.length (sg s) d == d).getD j 0
theorem TR{p:Nat->Bool}:∀(n j r:Nat),((List.range n).filter p)[j]? = some r->r<n/\p r=true/\((List.range r).filter p).length=j:=by
 intro n
 induction n with
 | zero=>intro j r h;simp at h
 | succ n f =>
  intro j r h;rw[List.range_succ,List.filter_append]at h;rcases Nat.lt_or_ge j ((List.range n).filter p).length with a|c
  ·rw[List.getElem?_append_left a]at h;obtain⟨o,i,k⟩:=f j r h;exact⟨by omega,i,k⟩
  ·rw[List.getElem?_append_right c]at h;by_cases e:p n=true
   ·simp only [List.filter_cons,e,List.filter_nil,if_true]at h;have m:j - ((List.range n).filter p).length=0:=by have:=gX h;simp at this;omega
    rw[m]at h;simp at h;subst h;exact⟨by omega,e,by omega⟩
   ·simp[e]at h
section
variable {s:List Nat} (hP:dO s.length (sg s)) (he:s.length % 2=0)
include hP he
omit hP he in
theorem Jg{j:Nat}(e:j<dX s.length (sg s) s.length):jq s j<s.length/\eU s.length (sg s) (jq s j)=jq s j/\eP s.length (sg s) (jq s j)=j:=by unfold jq;have f:j<((List.range s.length).filter fun d=>eU s.length (sg s) d == d).length:=e;have c:=List.getElem?_eq_getElem f;rw[List.getD_eq_getElem?_getD,c,Option.getD_some];obtain⟨i,a,k⟩:=TR _ _ _ c;simp only [beq_iff_eq]at a;refine⟨i,a,?_⟩;unfold eP;rw[a];exact k
theorem TT{d:Nat}(hd:d<s.length)(e:eU s.length (sg s) d=d):jq s (dX s.length (sg s) d)=d:=by have i:=ug s.length (sg s) d;rw[if_pos e]at i;have m:=C9 s.length (sg s) (show d+1<=s.length from hd);obtain⟨a,b,c⟩:=Jg (s:=s) (j:=dX s.length (sg s) d) (by omega);have k:eP s.length (sg s) d=dX s.length (sg s) d:=(hP.pO he hd).2 e;have:=(hP.iT he hd a).1 (by rw[k,c]);have f:=(hP.jG he hd a).2 this;rw[e,b]at f;exact f.symm
noncomputable def rV(s:List Nat)(d j:Nat):List Int:=[(jq s j:Int),(qB s (kS s) j d:Nat),(nQ (kS s) j d:Nat),(qB (dS s) (kS s) j d:Nat),0]
noncomputable def gQ(s:List Nat)(m d:Nat):List (List Int):=(List.range m).map (rV s d)
omit hP he in
theorem vX(s:List Nat)(m d:Nat):(gQ s m d).length=m:=by simp[gQ]
omit hP he in
theorem EA{s:List Nat}{m d j:Nat}(a:j<m):(gQ s m d)[j]? = some (rV s d j):=by simp[gQ,a]
theorem TU{d x:Nat}(hd:d<s.length)(i:x<d)(a:eU s.length (sg s) d=d):eP s.length (sg s) x≠dX s.length (sg s) d:=by intro e;have c:eP s.length (sg s) d=dX s.length (sg s) d:=(hP.pO he hd).2 a;have:=(hP.jG he (show x<s.length by omega) hd).2 ((hP.iT he (show x<s.length by omega) hd).1 (by rw[e,c]));rw[a]at this;have f:=xu (dI.refl s.length (sg s) x);omega
theorem TV{d:Nat}(hd:d<s.length)(a:eU s.length (sg s) d=d):gQ s (dX s.length (sg s) d) d ++ [[(d:Int),0,0,0,0]]=gQ s (dX s.length (sg s) (d+1)) d:=by
 have f:=ug s.length (sg s) d;rw[if_pos a]at f;have c:∀(p:Nat->Bool),((List.range d).filter fun x=>p x && sg (kS s) x == dX s.length (sg s) d)=[]:=by intro p;rw[List.filter_eq_nil_iff];intro x e;have e:=List.mem_range.1 e;have:=TU hP he hd e a;rw[Aq (by omega)];simp;intro _;exact this
 have i:rV s d (dX s.length (sg s) d)=[(d:Int),0,0,0,0]:=by
  unfold rV qB nQ;rw[TT hP he hd a,c,c];have:((List.range d).filter fun x=>sg (kS s) x == dX s.length (sg s) d && x % 2 == 1)=[]:=by rw[<-c (fun x=>x % 2 == 1)];refine List.filter_congr (fun x _=>?_);rw[Bool.and_comm]
  rw[this];rfl
 rw[f];unfold gQ;rw[List.range_succ,List.map_append];simp[i]
omit hP he in
theorem TW{m d:Nat}(hd:d<s.length)(f:eP s.length (sg s) d<m) :
  gQ s m (d+1)=(gQ s m d).set (eP s.length (sg s) d) [(jq s (eP s.length (sg s) d):Int),((qB s (kS s) (eP s.length (sg s) d) d+if rep (sg s) d=d then 1 else 0:Nat):Int),
   ((nQ (kS s) (eP s.length (sg s) d) d+d % 2:Nat):Int),((qB (dS s) (kS s) (eP s.length (sg s) d) d+if rep (sg (dS s)) d=d then 1 else 0:Nat):Int),0]:=by
 have a:=Aq hd;apply List.ext_getElem?;intro j;rw[List.getElem?_set,vX];by_cases c:j<m
 ·rw[EA c];by_cases e:eP s.length (sg s) d=j
  ·subst e;rw[if_pos rfl,if_pos f];unfold rV;rw[FZ,FZ,Gv,if_pos a];simp only [a,and_true]
  ·rw[if_neg e,EA c];unfold rV;rw[FZ,FZ,Gv];simp only [a,e,and_false,if_false,Nat.add_zero]
 ·rw[List.getElem?_eq_none (by rw[vX];omega)];by_cases e:eP s.length (sg s) d=j
  ·omega
  ·rw[if_neg e,List.getElem?_eq_none (by rw[vX];omega)]
theorem TY{j:Nat}(f:j<dX s.length (sg s) s.length):∃i:Int,(pK s s.length)[j]? = some ((rV s s.length j).set 4 i) /\
  i=(2 - ((qB s (kS s) j s.length:Nat):Int)+((nQ (kS s) j s.length:Nat):Int) - ((qB (dS s) (kS s) j s.length:Nat):Int)).tdiv 2:=by
 obtain⟨t,u,k⟩:=Jg (s:=s) f;have o:j<((List.range s.length).filter fun d=>eU s.length (sg s) d == d).length:=f;have p:((List.range s.length).filter fun d=>eU s.length (sg s) d == d)[j]? = some (jq s j):=by unfold jq;rw[List.getD_eq_getElem?_getD,List.getElem?_eq_getElem o];rfl
 have a:oF (kS s) j s.length=2 * nQ (kS s) j s.length:=by
  obtain⟨m,q⟩:∃m,s.length=2 * m:=⟨s.length / 2,by omega⟩
  have:=M4 (nm:=kS s) (n:=s.length) (fun e c=>by
   rw[Aq (by omega),Aq c];refine(hP.iT he (by omega) c).2 ?_;have r:mt (2 * e)=2 * e+1:=by unfold mt;rw[if_pos (by omega)]
   rw[<-r];exact dI.mate (by omega)) j m (by omega)
  rw[<-q]at this;exact this
 refine⟨_,?_,rfl⟩;unfold pK;rw[List.getElem?_map,p];simp only [Option.map_some];unfold xE vO Df BJ Dh rV;rw[k,a,Nat.mul_div_cancel_left _ (by omega)];rfl
end
end
section
open Go.RowKit
theorem T9:(Tryz.prog.info? 183).map (fun i=>(i.zero,i.size,i.bytes))=some (some (.agg #[.int .i64 0,.int .i64 0,.int .i64 0,.int .i64 0,.int .i64 0]),5,40):=by kernel_rfl
theorem qe{m:Array Oper}{rest:List Oper}{o:Oper}{a:Act}{Q:Exit->Act->World->Prop}{wr:World}(n:Nat)(q:o.guard=none)(s x:Operand)
  (I:o.op=.call { callee:=.builtin .append,args:=#[s,x],argTypes:=#[181,181] })(B:Nat)(v:Value)(ps:List (List Int))(r t y z3 z4:Int)(z:Hid (ps.length=n))(H:Nat)(J:wr.heap.size=H)(K:a.eval s=v)(L:a.eval x=.slice (some ⟨H,0,none⟩) 1 1)
  (e:Own5 183 B wr v ps)(F:n<=100000000)(O:B<=wr.heap.size)
  (h:∀g cap w',Own5 183 B w' (.slice (some ⟨g,0,none⟩) (n+1) cap) (ps ++ [[r,t,y,z3,z4]])->Keeps (fun k=>v.ownBlock=some k) wr w'->(v.ownBlock=some g\/wr.heap.size<=g) ->
   wpList Tryz.prog m Q rest (a.put o.dst (.slice (some ⟨g,0,none⟩) (n+1) cap)) w') :
  wpList Tryz.prog m Q (o :: rest) a (wr.alloc (.cells #[.int .i64 r,.int .i64 t,.int .i64 y,.int .i64 z3,.int .i64 z4] 183)):=by
 obtain⟨i,M,A,C,D⟩:=info_parts T9;have z:=z.out;subst z;subst J;refine wpList_append_lies _ q s x _ I B 183 i _ 5 40 Tryz.underlying181 M A C D rfl (by decide) v ps.length _ K (World.ownsRow.alloc e.1 _) ⟨wr.heap.size,0,none⟩ 1 1 [.int .i64 r,.int .i64 t,.int .i64 y,.int .i64 z3,.int .i64 z4] L rfl (RJ _ _ _ _ _ _ _) ?_ (by decide) ?_ ?_ ?_ (wr.heap.size+1) (by simp) ?_
 ·intro u G;simp at G;rcases G with rfl|rfl|rfl|rfl|rfl <;> rfl
 ·unfold maxLen;omega
 ·omega
 ·simp;omega
 ·intro g cap w1 c f E _;refine h g cap w1 ⟨?_,?_⟩ (((Keeps.refl _ wr).alloc _).grown f (fun k N=>.inl N)) (E.imp id (fun h=>by omega))
  ·rw[List.length_append,List.flatten_append];unfold ints at c ⊢;rw[List.map_append];exact c
  ·intro p j;rcases List.mem_append.1 j with j|j
   ·exact e.2 p j
   ·simp at j;subst j;rfl
structure PS (w:World)(b:Nat)(s:List Nat)(root lone:Int)(R:Nat->Prop)(g:Nat)(ps:List (List Int))(ov:Value)(wr:World):Prop where
 mq:∃R',MapAt wr b s root lone R'/\(∀x,R' x->R x\/(w.heap.size<=x/\x<wr.heap.size))/\¬R' g/\∀k,ov.ownBlock=some k->¬R' k
 nm:dH w.heap.size wr (.slice (some ⟨g,0,none⟩) s.length s.length) (dD (kS s))
 ow:Own5 183 w.heap.size wr ov ps
 ne:∀k,ov.ownBlock=some k->k≠g
 bw:b<w.heap.size
 fJ:Keeps (fun k=>k=b) w wr
section
variable {w:World} {b:Nat} {s:List Nat} {root lone:Int} {R:Nat->Prop} {g:Nat} {ps:List (List Int)} {ov:Value} {wr:World} (h:PS w b s root lone R g ps ov wr)
include h
theorem PS.ask:∃f,MapAt wr b s root lone f/\∀j,gU wr b s root lone f j->PS w b s root lone R g ps ov j:=by
 obtain⟨f,o,p,r,t⟩:=h.mq;have u:=h.bw;have y:=h.nm.lt g rfl;refine⟨f,o,fun j i=>⟨⟨grow f wr j,i.1,fun x a=>?_,fun a=>?_,fun k m a=>?_⟩,h.nm.keeps i.2 (fun q c e=>by have:=(h.nm.lt q c).1;omega),h.ow.keeps i.2 (fun q c e=>by have:=(h.ow.lt q c).1;omega),h.ne,u,h.fJ.trans i.2 (fun _ _ e=>e)⟩⟩
 ·have z:=h.fJ.size;have v:=i.2.size;rcases a with a|a
  ·rcases p x a with e|e
   ·exact .inl e
   ·exact .inr ⟨e.1,by omega⟩
  ·exact .inr ⟨by omega,a.2⟩
 ·rcases a with a|a
  ·exact r a
  ·omega
 ·rcases a with a|a
  ·exact t k m a
  ·have:=(h.ow.lt k m).2;omega
theorem PS.app{p:List Int}{g5 m cap:Nat}{w5:World}(r:Own5 183 w.heap.size w5 (.slice (some ⟨g5,0,none⟩) m cap) (ps ++ [p]))(k:Keeps (fun q=>ov.ownBlock=some q) wr w5)(f:ov.ownBlock=some g5\/wr.heap.size<=g5) :
  PS w b s root lone R g (ps ++ [p]) (.slice (some ⟨g5,0,none⟩) m cap) w5:=by
 obtain⟨t,j,u,v,o⟩:=h.mq;have y:=h.bw;have A:=h.nm.lt g rfl;have i:¬ov.ownBlock=some b:=fun e=>by have:=(h.ow.lt b e).1;omega
 refine⟨⟨t,j.keeps k i (fun x c e=>o x e c),fun x c=>?_,v,fun q a c=>?_⟩,h.nm.keeps k (fun q a e=>h.ne q e (by simp only [Value.ownBlock,Option.some.injEq]at a;exact a.symm)),r,fun q a=>?_,y,h.fJ.trans k (fun x c e=>by have:=(h.ow.lt x e).1;omega)⟩
 ·have z:=k.size;rcases u x c with e|e
  ·exact .inl e
  ·exact .inr ⟨e.1,by omega⟩
 ·simp only [Value.ownBlock,Option.some.injEq]at a;subst a;rcases f with e|e
  ·exact o _ e c
  ·have:=j.old _ c;omega
 ·simp only [Value.ownBlock,Option.some.injEq]at a;subst a;rcases f with e|e
  ·exact h.ne _ e
  ·omega
end
theorem PS.set{w:World}{b:Nat}{s:List Nat}{root lone:Int}{R:Nat->Prop}{g:Nat}{ps:List (List Int)}{g5 m cap:Nat}{wr:World}(h:PS w b s root lone R g ps (.slice (some ⟨g5,0,none⟩) m cap) wr){j k:Nat}{p:List Int}(i:ps[j]? = some p)(o:k<5)(z:Int) :
  PS w b s root lone R g (ps.set j (p.set k z)) (.slice (some ⟨g5,0,none⟩) m cap) (wr.setCell ⟨g5,j * 5+k,none⟩ (.int .i64 z)):=by
 obtain⟨r,t,u,v,f⟩:=h.mq;have y:=h.bw;have A:=h.ow.lt g5 rfl;have a:=(Keeps.refl (fun q=>q=g5) wr).setCell (p:=⟨g5,j * 5+k,none⟩) (.inl rfl) (.int .i64 z);refine⟨⟨r,t.keeps a (fun e=>by omega) (fun x c e=>f g5 rfl (e ▸ c)),fun x c=>?_,v,f⟩,h.nm.keeps a (fun q B e=>h.ne g5 rfl (by simp only [Value.ownBlock,Option.some.injEq]at B;omega)),h.ow.set i o z,h.ne,y,h.fJ.trans a (fun x c e=>by omega)⟩;have C:=a.size;rcases u x c with e|e
 ·exact .inl e
 ·exact .inr ⟨e.1,by omega⟩
theorem PS.drewN{w:World}{b:Nat}{s:List Nat}{root lone:Int}{R:Nat->Prop}{g:Nat}{ps:List (List Int)}{ov:Value}{wr:World}(h:PS w b s root lone R g ps ov wr)(n:Nat):PS w b s root lone R g ps ov (wr.drewN n):=by obtain⟨c,e,f,i,j⟩:=h.mq;have a:=(Keeps.refl (fun _=>False) wr).drewN n;exact⟨⟨c,e.keeps a (fun h=>h) (fun _ _ h=>h),f,i,j⟩,h.nm.keeps a (fun _ _ h=>h),h.ow.keeps a (fun _ _ h=>h),h.ne,h.bw,h.fJ.drewN n⟩
theorem Ua{α:Type}{l:List α}{j:Nat}{x:α}(h:l[j]? = some x):l.set j x=l:=by
 apply List.ext_getElem?;intro i;rw[List.getElem?_set];by_cases e:j=i
 ·subst e;rw[if_pos rfl,if_pos (gX h),h]
 ·rw[if_neg e]
theorem M5{n:Nat}{S:Nat->Nat}(h:dO n S){d:Nat}(hd:d<n):vnum S d=eu S d↔rep S d=d:=by
 have e:=h.iB hd;constructor
 ·intro a;rcases Nat.lt_or_ge (rep S d) d with c|f
  ·have i:=sw S (rep S d);rw[if_pos (h.iY hd)]at i;have j:=CY S (show rep S d+1<=d from c);unfold vnum at a;omega
  ·omega
 ·intro a;unfold vnum;rw[a]
noncomputable def lq(s:List Nat)(j:Nat):List (List Int):=(pK s s.length).take j ++ (gQ s (dX s.length (sg s) s.length) s.length).drop j
theorem M6(s:List Nat)(j:Nat):(lq s j).length=dX s.length (sg s) s.length:=by unfold lq;rw[List.length_append,List.length_take,List.length_drop,vX,xF];omega
theorem M7{s:List Nat}{j:Nat}(a:j<dX s.length (sg s) s.length):(lq s j)[j]? = some (rV s s.length j):=by unfold lq;rw[List.getElem?_append_right (by rw[List.length_take,xF];omega),List.length_take,xF,Nat.min_eq_left (by omega),Nat.sub_self,List.getElem?_drop,Nat.add_zero,EA a]
theorem Ub{s:List Nat}{j:Nat}{p:List Int}(c:j<dX s.length (sg s) s.length)(f:(pK s s.length)[j]? = some p):(lq s j).set j p=lq s (j+1):=by
 apply List.ext_getElem?;intro i;rw[List.getElem?_set,M6];have k:=xF s s.length;unfold lq;by_cases e:j=i
 ·subst e;rw[if_pos rfl,if_pos c,List.getElem?_append_left (by rw[List.length_take];omega),List.getElem?_take,if_pos (by omega),f]
 ·rw[if_neg e];rcases Nat.lt_or_ge i j with a|a
  ·rw[List.getElem?_append_left (by rw[List.length_take];omega),List.getElem?_append_left (by rw[List.length_take];omega),List.getElem?_take,List.getElem?_take,if_pos a,if_pos (by omega)]
  ·rw[List.getElem?_append_right (by rw[List.length_take];omega),List.getElem?_append_right (by rw[List.length_take];omega),List.length_take,List.length_take,k,Nat.min_eq_left (by omega),Nat.min_eq_left (by omega),List.getElem?_drop,List.getElem?_drop];congr 1;omega
theorem Uc(s:List Nat):lq s (dX s.length (sg s) s.length)=pK s s.length:=by unfold lq;rw[List.take_of_length_le (by rw[xF];exact Nat.le_refl _),List.drop_of_length_le (by rw[vX];exact Nat.le_refl _),List.append_nil]
theorem Jh{w:World}{b:Nat}{s:List Nat}{root:Int}{l:Nat}{R:Nat->Prop}(h:MapAt w b s root l R) :
  Calls Tryz.prog 122 #[.pointer (some ⟨b,0,none⟩)] w fun e w'=>∃ov,e=.returned ov/\Own5 183 w.heap.size w' ov (jN s l)/\gU w b s root l R w':=by
 have hN:=Jf h;have aY:=h.le;have aZ:=h.ln;have HP:=dh (dn h.dR (dn h.even (AJ h.dR h.even)));have HH:=dh h;clear h;go_enter Tryz.func122,Tryz.ntmps122;go_wp2_with fail;refine hN.mono ?_;rintro e w1 ⟨g,rfl,hM⟩;clear hN;have h0:PS w b s root l R g (gQ s (dX s.length (sg s) 0) 0) (.slice none 0 0) w1:=by obtain⟨zs,h1,h2,h3,h4⟩:=hM;subst h2;have hs:=h4.size;refine⟨⟨R,HH.out.keeps h4 (fun h=>h) (fun _ _ h=>h),fun x hx=>.inl hx,fun hx=>by have:=HH.out.old g hx;have:=(h3.lt g rfl).1;omega,fun k hk=>by simp[Value.ownBlock]at hk⟩,h3,Own5.nil _ _ _,fun k hk=>by simp[Value.ownBlock]at hk,HH.out.lt,h4.mono (fun _ _ h=>h.elim)⟩
 clear hM;go_wp2_with fail;go_loopg [3,4,5,14] s.length (fun m ov c1 c2 i wr=>∃d:Nat,d<=s.length/\m=s.length - d/\i=.int .i64 d/\c1=.int .i64 (eu (sg s) d:Nat)/\c2=.int .i64 (eu (sg (dS s)) d:Nat)/\PS w b s root l R g (gQ s (dX s.length (sg s) d) d) ov wr)
 case atStart=>exact⟨0,Nat.zero_le _,rfl,rfl,rfl,rfl,h0⟩
 case round =>
  clear h0;obtain⟨d,hd,F,rfl,rfl,rfl,r⟩:=hrel;have HG:=dh F;clear F;by_cases A:d<s.length
  ·have a0:=oV (sg s) d;have a1:=oV (sg (dS s)) d;have a2:=BD s.length (sg s) d;have a3:=BD s.length (sg s) (d+1);have f:=ug s.length (sg s) d;obtain⟨oa,oc,rfl⟩:=r.ow.form;rw[vX]at r ⊢;have a4:=(r.nm.cell (show (dD (kS s))[d]? = some ((eP s.length (sg s) d:Nat):Int)from jA (by simp[kS,A]))).1;obtain⟨k,hk⟩:∃k,k=eP s.length (sg s) d:=⟨_,rfl⟩
   obtain⟨M,hM⟩:∃M,M=dX s.length (sg s) d:=⟨_,rfl⟩
   rw[<-hk]at a4;rw[<-hM]at r a2 f ⊢;obtain⟨A1,Z⟩:∃A1,A1=eu (sg s) d:=⟨_,rfl⟩
   obtain⟨A2,aa⟩:∃A2,A2=eu (sg (dS s)) d:=⟨_,rfl⟩
   rw[<-Z]at a0 ⊢;rw[<-aa]at a1 ⊢;have B:=dh (dn Z aa);clear Z aa;have aN:(k=M↔eU s.length (sg s) d=d):=by rw[hk,hM];exact HP.out.1.pO HP.out.2.1 A
   have HK:=dh (dn hk (dn hM aN));have HT:=dh r;clear r hk aN hM;go_upto_if 22 with fail;generalize G:((k:Int) == (M:Int))=tb;have aD:=dh G;clear G;go_cut [3]from 23 to 27 (fun ov wx=>PS w b s root l R g (gQ s (dX s.length (sg s) (d+1)) d) ov wx)
   case first =>
    by_cases ab:k=M
    ·have ad:=HK.out.2.2.1 ab;have aE:=TV HP.out.1 HP.out.2.1 A ad;have C:Hid ((gQ s M d).length=M):=dh (vX _ _ _);have X:=HT.out.ow;have aF:=HT.out.fJ.size;have aq:M<=100000000:=by omega
     have H:=fun (w5:World) g5 cap=>HT.out.app (p:=[(d:Int),0,0,0,0]) (g5:=g5) (m:=M+1) (cap:=cap) (w5:=w5);rw[<-HK.out.2.1]at aE;have HA:=dh (dn H aE);have bh:=dh ab;obtain rfl:tb=true:=by rw[<-aD.out,beq_iff_eq];omega
     clear H aE ad ab;go_wp2_with (at_builtin;refine qe M rfl _ _ rfl w.heap.size (.slice oa M oc) (gQ s M d) (d:Int) 0 0 0 0 C wr.heap.size rfl rfl rfl X aq aF ?_;intro g5 ae w5 u af I;have aG:=dh (HA.out.1 w5 g5 ae u af I);clear u af I)
     go_meet
     rw[<-HA.out.2];exact aG.out
    ·have ad:¬eU s.length (sg s) d=d:=fun e=>ab (HK.out.2.2.2 e);rw[if_neg ad]at f;obtain rfl:tb=false:=by rw[<-aD.out,beq_eq_false_iff_ne];omega
     have HF:=dh (show PS w b s root l R g (gQ s (dX s.length (sg s) (d+1)) d) (.slice oa M oc) wr by rw[f];exact HT.out);clear ad ab f;go_wp2;go_meet;exact HF.out
   case rest =>
    rename_i ov wx;have ar:=hcut;clear hcut HT aD f;obtain⟨Q,au⟩:∃Q,Q=dX s.length (sg s) (d+1):=⟨_,rfl⟩
    have K:k<Q:=by have h5:=ug s.length (sg s) (eU s.length (sg s) d);rw[if_pos (HP.out.1.jf HP.out.2.1 A)]at h5;have h6:=C9 s.length (sg s) (show eU s.length (sg s) d+1<=d+1 by have:=xu (dI.refl s.length (sg s) d);omega);rw[HK.out.1,au];unfold eP;omega
    rw[<-au]at ar a3;have a5:=dh au;clear au;obtain⟨g5,c5,rfl,a⟩:=ar.ow.cell (EA (s:=s) (d:=d) K);rw[vX]at *;obtain⟨v,hv⟩:∃v,v=qB s (kS s) k d:=⟨_,rfl⟩
    obtain⟨e,T⟩:∃e,e=nQ (kS s) k d:=⟨_,rfl⟩
    obtain⟨q,hq⟩:∃q,q=qB (dS s) (kS s) k d:=⟨_,rfl⟩
    obtain⟨r0,aH⟩:∃r0,r0=jq s k:=⟨_,rfl⟩
    have ay:(gQ s Q d)[k]? = some [(r0:Int),v,e,q,0]:=by rw[EA K,hv,T,hq,aH];rfl
    have a6:v<=131072:=by have:=Dc s (kS s) k d;omega
    have a7:e<=131072:=by have:=MZ (kS s) k d;omega
    have a8:q<=131072:=by have:=Dc (dS s) (kS s) k d;omega
    have HV:=dh (dn hv (dn T (dn hq (dn aH ay))));obtain⟨R',N,O⟩:=ar.ask;have ag:=BZ N d A;have P:=dh O;clear hv T hq aH ay a ar N O;go_wp2_with fail;refine ag.mono ?_;rintro en w2 ⟨rfl,ah⟩;have ai:=dh (P.out w2 ah);clear ag P ah;have E:=M5 HP.out.1 A;rw[<-B.out.1]at E;obtain⟨x1,aj⟩:∃x1,x1=vnum (sg s) d:=⟨_,rfl⟩
    have D:=HP.out.1.gK A;have Y:=oV (sg s) s.length;rw[<-aj]at E D ⊢;have U:=dh E;clear E aj;go_upto_if 35 with fail;generalize G:((x1:Int) == (A1:Int))=aO;have ak:=dh G;clear G;go_cut [4]from 36 to 44 (fun c1 wy=>c1=.int .i64 (eu (sg s) (d+1):Nat)/\PS w b s root l R g ((gQ s Q d).set k [(r0:Int),((v+if rep (sg s) d=d then 1 else 0:Nat):Int),e,q,0]) (.slice (some ⟨g5,0,none⟩) Q c5) wy)
    case first =>
     have f:=sw (sg s) d;by_cases hr:rep (sg s) d=d
     ·obtain rfl:aO=true:=by rw[<-ak.out,beq_iff_eq];have:=U.out.2 hr;omega
      rw[if_pos hr]at f;have y:=dh (dn hr f);obtain⟨g6,c6,z,a⟩:=ai.out.ow.cell HV.out.2.2.2.2;rw[vX]at z;simp only [Value.slice.injEq,Option.some.injEq,Addr.mk.injEq,and_true,true_and]at z;obtain⟨rfl,rfl⟩:=z;have k1:=a 1 (v:Int) rfl;have f1:=ai.out.ow.free (k * 5+1);have c:=ai.out.set HV.out.2.2.2.2 (k:=1) (by omega) ((v:Int)+1);have HF:=dh c;clear c a hr f;go_wp2;go_meet;exact⟨by rw[y.out.2,<-B.out.1];go_num,by rw[if_pos y.out.1];exact HF.out⟩
     ·obtain rfl:aO=false:=by rw[<-ak.out,beq_eq_false_iff_ne];have:=U.out;intro hh;exact hr (this.1 (by omega))
      rw[if_neg hr]at f;have y:=dh (dn hr f);have HF:=dh (show PS w b s root l R g ((gQ s Q d).set k [(r0:Int),((v+0:Nat):Int),e,q,0]) (.slice (some ⟨g5,0,none⟩) Q c5) w2 by rw[show (gQ s Q d).set k [(r0:Int),((v+0:Nat):Int),e,q,0]=gQ s Q d from Ua HV.out.2.2.2.2];exact ai.out);clear hr f;go_wp2;go_meet;exact⟨by rw[y.out.2,Nat.add_zero,<-B.out.1],by rw[if_neg y.out.1];exact HF.out⟩
    case rest =>
     rename_i c1 wy;obtain⟨rfl,aI⟩:=hcut;clear ak ai U D Y;obtain⟨v1,av⟩:∃v1,v1=v+if rep (sg s) d=d then 1 else 0:=⟨_,rfl⟩
     have bf:v1<=131073:=by rw[av];split <;> omega
     rw[<-av]at aI;have al:((gQ s Q d).set k [(r0:Int),(v1:Int),e,q,0])[k]? = some [(r0:Int),(v1:Int),e,q,0]:=by rw[List.getElem?_set,if_pos rfl,if_pos (by rw[vX];exact K)]
     have aJ:=dh (dn av al);obtain⟨R2,N,O⟩:=aI.ask;have ag:=TJ N d A;have P:=dh O;clear av al aI N O;obtain⟨B1,aK⟩:∃B1,B1=eu (sg s) (d+1):=⟨_,rfl⟩
     have aP:=oV (sg s) (d+1);rw[<-aK]at aP ⊢;have a9:=dh aK;clear aK;go_wp2_with fail;refine ag.mono ?_;rintro en w3 ⟨rfl,ah⟩;have am:=dh (P.out w3 ah);clear ag P ah;have az:d<(dS s).length:=by rw[oD];exact A
     have E:=M5 HP.out.2.2 az;rw[<-B.out.2]at E;obtain⟨x1,aj⟩:∃x1,x1=vnum (sg (dS s)) d:=⟨_,rfl⟩
     have D:=HP.out.2.2.gK az;have Y:=oV (sg (dS s)) (dS s).length;rw[oD]at Y D;rw[<-aj]at E D ⊢;have U:=dh E;clear E aj;go_upto_if 49 with fail;generalize G:((x1:Int) == (A2:Int))=aQ;have an:=dh G;clear G;go_cut [5]from 50 to 58 (fun c1 wy=>c1=.int .i64 (eu (sg (dS s)) (d+1):Nat)/\PS w b s root l R g ((gQ s Q d).set k [(r0:Int),(v1:Int),e,((q+if rep (sg (dS s)) d=d then 1 else 0:Nat):Int),0]) (.slice (some ⟨g5,0,none⟩) Q c5) wy)
     case first =>
      have f:=sw (sg (dS s)) d;by_cases hr:rep (sg (dS s)) d=d
      ·obtain rfl:aQ=true:=by rw[<-an.out,beq_iff_eq];have:=U.out.2 hr;omega
       rw[if_pos hr]at f;have y:=dh (dn hr f);obtain⟨g6,c6,z,a⟩:=am.out.ow.cell aJ.out.2;rw[List.length_set,vX]at z;simp only [Value.slice.injEq,Option.some.injEq,Addr.mk.injEq,and_true,true_and]at z;obtain⟨rfl,rfl⟩:=z;have k1:=a 3 (q:Int) rfl;have f1:=am.out.ow.free (k * 5+3);have c:=am.out.set aJ.out.2 (k:=3) (by omega) ((q:Int)+1);rw[List.set_set]at c;have HF:=dh c;clear c a hr f;go_wp2;go_meet;exact⟨by rw[y.out.2,<-B.out.2];go_num,by rw[if_pos y.out.1];exact HF.out⟩
      ·obtain rfl:aQ=false:=by rw[<-an.out,beq_eq_false_iff_ne];have:=U.out;intro hh;exact hr (this.1 (by omega))
       rw[if_neg hr]at f;have y:=dh (dn hr f);clear hr f;go_wp2;go_meet;exact⟨by rw[y.out.2,Nat.add_zero,<-B.out.2],by rw[if_neg y.out.1];exact am.out⟩
     case rest =>
      rename_i c2 wz;obtain⟨rfl,ao⟩:=hcut;clear an am U D Y;obtain⟨q1,aw⟩:∃q1,q1=q+if rep (sg (dS s)) d=d then 1 else 0:=⟨_,rfl⟩
      have bg:q1<=131073:=by rw[aw];split <;> omega
      rw[<-aw]at ao;have V:((gQ s Q d).set k [(r0:Int),(v1:Int),e,q1,0])[k]? = some [(r0:Int),(v1:Int),e,q1,0]:=by rw[List.getElem?_set,if_pos rfl,if_pos (by rw[vX];exact K)]
      obtain⟨g6,c6,z,a⟩:=ao.ow.cell V;rw[List.length_set,vX]at z;simp only [Value.slice.injEq,Option.some.injEq,Addr.mk.injEq,and_true,true_and]at z;obtain⟨rfl,rfl⟩:=z;have k1:=a 2 (e:Int) rfl;have f1:=ao.ow.free (k * 5+2);obtain⟨o,ho⟩:∃o,o=d % 2:=⟨_,rfl⟩
      have bi:o<2:=by omega
      have bj:(d:Int).tmod 2=(o:Int):=by rw[ho,Int.tmod_eq_emod_of_nonneg (by omega)];simp
      have bk:(d:Int) % 2=(o:Int):=by rw[ho];simp
      have c:=ao.set V (k:=2) (by omega) ((e:Int)+o);rw[List.set_set]at c;have t:=TW (s:=s) (m:=Q) A (by rw[<-HK.out.1];exact K);rw[<-HK.out.1,<-HV.out.1,<-HV.out.2.1,<-HV.out.2.2.1,<-HV.out.2.2.2.1,<-aJ.out.1,<-aw,<-ho]at t;have aR:gQ s Q (d+1)=gQ s (dX s.length (sg s) (d+1)) (d+1):=by rw[a5.out]
      have e9:([(r0:Int),(v1:Int),(e:Int),(q1:Int),0].set 2 ((e:Int)+o))=[(r0:Int),(v1:Int),((e+o:Nat):Int),(q1:Int),0]:=by simp
      rw[e9,<-t,aR]at c;clear e9;have aA:=c;have HF:=dh aA;obtain⟨B2,aL⟩:∃B2,B2=eu (sg (dS s)) (d+1):=⟨_,rfl⟩
      rw[<-aL];have ba:=dh aL;clear aA aR c t V a ao aw aL ho;go_wp2;go_roundg (s.length - (d+1))
      case measure=>rw[HG.out];omega
      case rel=>exact⟨d+1,by omega,rfl,by go_num,by rw[a9.out],by rw[ba.out],HF.out⟩
  ·obtain rfl:d=s.length:=by omega
   have bc:=BD s.length (sg s) s.length;have e0:gQ s (dX s.length (sg s) s.length) s.length=lq s 0:=by unfold lq;simp
   have h1:=r;rw[e0]at h1;clear e0;obtain⟨oa,oc,rfl⟩:=h1.ow.form;rw[M6]at h1 ⊢;have bl:=dh (dn aY aZ);clear r HG;obtain⟨L,hL⟩:∃L,L=dX s.length (sg s) s.length:=⟨_,rfl⟩
   rw[<-hL]at h1 bc ⊢;have HL:=dh hL;clear hL;obtain⟨A1,Z⟩:∃A1,A1=eu (sg s) s.length:=⟨_,rfl⟩
   obtain⟨A2,aa⟩:∃A2,A2=eu (sg (dS s)) s.length:=⟨_,rfl⟩
   rw[<-Z,<-aa];clear Z aa;go_wp2_with fail;go_loopg [71] L (fun m i wr=>∃j:Nat,j<=L/\m=L - j/\i=.int .i64 j/\PS w b s root l R g (lq s j) (.slice oa L oc) wr)
   case atStart=>exact⟨0,Nat.zero_le _,rfl,rfl,h1⟩
   case round =>
    clear h1;obtain⟨j,hj,F,rfl,r⟩:=hrel;have HG:=dh F;clear F;by_cases aS:j<L
    ·have ax:j<dX s.length (sg s) s.length:=by rw[<-HL.out];exact aS
     obtain⟨g5,c5,aT,a⟩:=r.ow.cell (M7 ax);simp only [Value.slice.injEq]at aT;obtain⟨rfl,e5,rfl⟩:=aT;clear e5;obtain⟨gn,hp,aM⟩:=TY HP.out.1 HP.out.2.1 ax;have t:=Ub ax hp;have c:=r.set (M7 ax) (k:=4) (by omega) gn;rw[t]at c;obtain⟨v,hv⟩:∃v,v=qB s (kS s) j s.length:=⟨_,rfl⟩
     obtain⟨e,T⟩:∃e,e=nQ (kS s) j s.length:=⟨_,rfl⟩
     obtain⟨q,hq⟩:∃q,q=qB (dS s) (kS s) j s.length:=⟨_,rfl⟩
     have a6:v<=131072:=by have:=Dc s (kS s) j s.length;omega
     have a7:e<=131072:=by have:=MZ (kS s) j s.length;omega
     have a8:q<=131072:=by have:=Dc (dS s) (kS s) j s.length;omega
     rw[<-hv,<-T,<-hq]at aM;have k1:wr.cell? ⟨g5,j * 5+1,none⟩=some (.int .i64 v):=by rw[hv];exact a 1 _ rfl
     have k2:wr.cell? ⟨g5,j * 5+2,none⟩=some (.int .i64 e):=by rw[T];exact a 2 _ rfl
     have k3:wr.cell? ⟨g5,j * 5+3,none⟩=some (.int .i64 q):=by rw[hq];exact a 3 _ rfl
     have k4:wr.cell? ⟨g5,j * 5+4,none⟩=some (.int .i64 0):=a 4 _ rfl;have f4:=r.ow.free (j * 5+4);have HF:=dh c;clear c t hp a r hv T hq;go_wp2_with fail;have s1:IntKind.i64.wrap (2 - (v:Int))=2 - (v:Int):=IntWalk.i64_in _ (by omega);have s2:IntKind.i64.wrap (2 - (v:Int)+(e:Int))=2 - (v:Int)+(e:Int):=IntWalk.i64_in _ (by omega);have s3:IntKind.i64.wrap (2 - (v:Int)+(e:Int) - (q:Int))=2 - (v:Int)+(e:Int) - (q:Int):=IntWalk.i64_in _ (by omega);have bd:=dh aM;clear aM;go_still_tail 19,(by kernel_rfl)
     change wpList _ _ _ _ _ wr.drew;go_wp2;go_roundg (L - (j+1))
     case measure=>rw[HG.out];omega
     case rel=>exact⟨j+1,by omega,rfl,by go_num,by have:=HF.out.drewN 1;rw[bd.out]at this;exact this⟩
    ·obtain rfl:j=L:=by omega
     have e1:lq s j=pK s s.length:=by have:=HL.out;subst this;exact Uc s
     rw[e1]at r;have h2:PS w b s root l R g (pK s s.length ++ List.replicate 0 [-1,1,0,1,0]) (.slice oa j oc) wr:=by simpa using r
     have aU:∀W,Keeps (fun k=>k=b) w W->True:=fun _ _=>trivial;obtain⟨R',N,_⟩:=r.ask;have aV:=Jd N;clear r e1 aU N HG aS hj;go_wp2_with (go_at_call 89;refine aV.mono ?_;rintro e w' ⟨rfl,rfl⟩)
     clear aV;have be:=dh (show (pK s s.length).length=j by rw[xF];exact HL.out.symm);go_loopg [3,99] l (fun m ov i wr=>∃q:Nat,q<=l/\m=l - q/\i=.int .i64 q/\PS w b s root l R g (pK s s.length ++ List.replicate q [-1,1,0,1,0]) ov wr)
     case atStart=>exact⟨0,Nat.zero_le _,rfl,rfl,h2⟩
     case round =>
      clear h2;obtain⟨q,hq,F,rfl,r⟩:=hrel;have HG:=dh F;clear F;obtain⟨oa,oc,rfl⟩:=r.ow.form;have C:(pK s s.length ++ List.replicate q [(-1:Int),1,0,1,0]).length=j+q:=by rw[List.length_append,be.out,List.length_replicate]
      rw[C]at r ⊢;by_cases bm:q<l
      ·have X:=r.ow;have aF:=r.fJ.size;have H:=fun (w5:World) g5 cap=>r.app (p:=[(-1:Int),1,0,1,0]) (g5:=g5) (m:=j+q+1) (cap:=cap) (w5:=w5);have aW:Hid ((pK s s.length ++ List.replicate q [(-1:Int),1,0,1,0]).length=j+q):=dh C;have aq:j+q<=100000000:=by omega
       have aB:(pK s s.length ++ List.replicate q [(-1:Int),1,0,1,0]) ++ [[(-1:Int),1,0,1,0]]=pK s s.length ++ List.replicate (q+1) [(-1:Int),1,0,1,0]:=by rw[List.append_assoc,<-List.replicate_succ']
       have HA:=dh (dn H aB);obtain⟨J,hJ⟩:∃J,J=j+q:=⟨_,rfl⟩
       rw[<-hJ]at X aq aW HA ⊢;clear H aB r C hJ;go_wp2_with (at_builtin;refine qe J rfl _ _ rfl w.heap.size (.slice oa J oc) (pK s s.length ++ List.replicate q [(-1:Int),1,0,1,0]) (-1) 1 0 1 0 aW wr.heap.size rfl rfl rfl X aq aF ?_;intro g5 ae w5 u af I;have aG:=dh (HA.out.1 w5 g5 ae u af I);clear u af I)
       go_roundg (l - (q+1))
       case measure=>rw[HG.out];omega
       case rel=>exact⟨q+1,by omega,rfl,by go_num,by rw[<-HA.out.2];exact aG.out⟩
      ·obtain rfl:q=l:=by omega
       obtain⟨R2,h1,h2,h3,h4⟩:=r.mq;have ap:=r.fJ;have aC:=HH.out.old
       have aX:gU w b s root q R wr:=by
        refine⟨h1.mono (fun x hx=>?_) (fun x hx=>?_) (fun hx=>?_),ap⟩
        ·rcases h2 x hx with e|e
         ·exact .inl e
         ·exact .inr e
        ·have:=ap.size;rcases hx with e|e
         ·have:=aC x e;omega
         ·exact e.2
        ·have:=HH.out.lt;rcases hx with e|e
         ·exact HH.out.kC e
         ·omega
       have HF:=dh (dn r.ow aX);clear r h1 h2 h3 h4 ap aC aX C;go_wp2;go_ret;exact⟨_,rfl,HF.out⟩
end
section
open Go.RowKit
section
variable {w:World} {b:Nat} {s:List Nat} {root:Int} {l:Nat} {R:Nat->Prop} (h:MapAt w b s root l R)
include h
theorem Ud:Calls Tryz.prog 128 #[.pointer (some ⟨b,0,none⟩)] w fun e w'=>e=.returned (.int .i64 (fV (jN s l)))/\gU w b s root l R w':=by
 have q:=Jh h;have I:=h.le;have J:=h.ln;have A:=R9 s (by omega) l;have Y:(jN s l).length<=2000000:=by rw[q24];have:=BD s.length (sg s) s.length;omega
 have K:=dh h;generalize jN s l=ps at *;clear h;go_enter Tryz.func128,Tryz.ntmps128;go_wp2_with fail;refine q.mono ?_;rintro e w1 ⟨Z,rfl,f,r⟩;obtain⟨L,M,rfl⟩:=f.form;have O:Hid (∀W,Keeps (fun _=>False) w1 W->Own5 183 w.heap.size W (.slice L ps.length M) ps):=dh (fun W k=>f.keeps k (fun _ _ h=>h));have y:=dh (dn A (dn (R8 A) r));have D:=Keeps.refl (fun _=>False) w1;clear q f r A;generalize E:ps.length=N at *;have B:=dh E;clear E;go_wp2_with fail;go_loopg [3,9] N (fun m c i wr=>∃j:Nat,j<=N/\m=N - j/\i=.int .i64 j/\c=.int .i64 (fV (ps.take j))/\Keeps (fun _=>False) w1 wr)
 case atStart=>exact⟨0,Nat.zero_le _,rfl,rfl,rfl,D⟩
 case round =>
  clear D;obtain⟨j,P,t,rfl,rfl,k⟩:=hrel;have Q:=dh t;clear t;obtain⟨T,U⟩:=y.out.2.1 j P;by_cases u:j<N
  ·have v:=List.getElem?_eq_getElem (l:=ps) (i:=j) (by rw[B.out];exact u);obtain⟨p,x⟩:∃p,p=ps[j]'(by rw[B.out];exact u):=⟨_,rfl⟩
   rw[<-x]at v;clear x;obtain⟨C,F,G,z3,z4,rfl,V,X⟩:=y.out.1 p (List.mem_of_getElem? v);have o:=LV v;simp only [List.getD_cons_succ,List.getD_cons_zero]at o;obtain⟨g,cap,H,a⟩:=(O.out wr k).cell v;simp only [Value.slice.injEq]at H;obtain⟨rfl,-,rfl⟩:=H;have d0:wr.cell? ⟨g,j * 5,none⟩=some (.int .i64 C):=a 0 C rfl;have d1:=a 1 F rfl;have d2:=a 2 G rfl;have d3:=a 3 z3 rfl;have d4:=a 4 z4 rfl;have z:=dh (dn o (k.alloc (.cells #[.int .i64 C,.int .i64 F,.int .i64 G,.int .i64 z3,.int .i64 z4] 183)));clear o k a v;generalize fV (ps.take j)=S at *;go_wp2;go_roundg (N - (j+1))
   case measure=>rw[Q.out];omega
   case rel=>exact⟨j+1,by omega,rfl,by go_num,by rw[z.out.1],z.out.2⟩
  ·obtain rfl:j=N:=by omega
   rw[List.take_of_length_le (by rw[B.out];exact Nat.le_refl _)];have z:=dh (K.out.trans y.out.2.2 (y.out.2.2.1.still k));clear k;go_wp2;go_ret;exact⟨rfl,z.out⟩
theorem M8:Calls Tryz.prog 163 #[.pointer (some ⟨b,0,none⟩)] w fun e w'=>e=.returned (.bool (decide (dX s.length (sg s) s.length+l=1)))/\gU w b s root l R w':=by
 have f:=Jh h;have a:=q24 s l;obtain⟨N,j⟩:∃N,N=dX s.length (sg s) s.length+l:=⟨_,rfl⟩
 rw[<-j]at a ⊢;have k:=dh a
 have hd:((N:Int) == 1)=decide (N=1):=by
  by_cases e:N=1
  ·subst e;rfl
  ·rw[decide_eq_false e,beq_eq_false_iff_ne];omega
 have m:=dh hd;clear h j a hd;go_enter Tryz.func163,Tryz.ntmps163;go_wp2_with fail;refine f.mono ?_;rintro e w1 ⟨p,rfl,c,i⟩;obtain⟨q,r,rfl⟩:=c.form;rw[k.out];have o:=dh i;clear f c i;go_wp2;go_ret;exact⟨by rw[<-m.out];rfl,o.out⟩
theorem EB:Calls Tryz.prog 85 #[.pointer (some ⟨b,0,none⟩)] w fun e w'=>e=.returned (.bool (decide (fV (jN s l)=0)))/\gU w b s root l R w':=by
 have c:=Ud h;obtain⟨N,f⟩:∃N,N=fV (jN s l):=⟨_,rfl⟩
 rw[<-f]at c ⊢
 have hd:(N == 0)=decide (N=0):=by
  by_cases e:N=0
  ·subst e;rfl
  ·rw[decide_eq_false e,beq_eq_false_iff_ne];exact e
 have i:=dh hd;clear h f hd;go_enter Tryz.func85,Tryz.ntmps85;go_wp2_with fail;refine c.mono ?_;rintro e w1 ⟨rfl,a⟩;have j:=dh a;clear c a;go_wp2;go_ret;exact⟨by rw[<-i.out];rfl,j.out⟩
end
end
