import Derived.Test.YtalhcfjcbbkpgaaGreatZp18
set_option maxRecDepth 100000
set_option maxHeartbeats 4000000
namespace Go.Proofs.YtalhcfjcbbkpgaaGreat
open Go.RowKit
def Dy(o:List Nat)(j:Nat)(pl:List Nat):Prop:=∀i v,i<j->o[i]? = some v->pl[v]? = some i
theorem Dy.step{o pl:List Nat}{j v:Nat}(h:Dy o j pl)(k:o.Nodup)(c:o[j]? = some v)(m:v<pl.length):Dy o (j+1) (pl.set v j):=by
 intro i u t a;by_cases e:i=j
 ·subst e;rw[c]at a;obtain rfl:=Option.some.inj a;exact List.getElem?_set_self m
 ·have d:v≠u:=fun p=>by subst p;have f:=gX a;have g:=gX c;rw[List.getElem?_eq_getElem f]at a;rw[List.getElem?_eq_getElem g]at c;have q:=List.pairwise_iff_getElem.1 k i j f g (by omega);exact q (by rw[Option.some.inj a,Option.some.inj c])
  rw[List.getElem?_set_ne d];exact h i u (by omega) a
section
variable {n:Nat} {S:Nat->Nat} (T:jO n S) {r:Nat} (hr:r<n) {N:Nat} (K:dJ n S r N)
include T hr K
theorem dJ.wH:(lN S r N).Nodup:=by
 unfold lN;rw[List.nodup_cons,List.nodup_cons];refine⟨fun h=>?_,fun h=>K.Dq (List.mem_reverse.1 h),K.Nr.perm (List.reverse_perm _).symm⟩;rcases List.mem_cons.1 h with e|e
 ·exact T.loop r hr e
 ·exact K.one (List.mem_reverse.1 e)
omit T hr in
theorem dJ.r9:(lN S r N).length=eu S n:=by have:=K.cnt;simp[lN,iP];omega
theorem dJ.CP{v:Nat}(h:v ∈ lN S r N):v<eu S n:=by
 unfold lN at h;rcases List.mem_cons.1 h with rfl|h
 ·exact T.dR.gK hr
 ·rcases List.mem_cons.1 h with rfl|h
  ·exact T.dR.gK (T.mlt hr)
  ·obtain⟨j,a,rfl⟩:=oO.1 (List.mem_reverse.1 h);exact T.dR.gK (K.Ba T hr a)
omit T hr K in
theorem qi{j:Nat}(a:j<N):(lN S r N)[2+(N - 1 - j)]? = some (kX S r j):=by unfold lN;rw[show 2+(N - 1 - j)=N - 1 - j+1+1 by omega,List.getElem?_cons_succ,List.getElem?_cons_succ,List.getElem?_reverse (by simp[iP];omega)];simp only [iP,List.length_map,List.length_range];rw[show N - 1 - (N - 1 - j)=j by omega,List.getElem?_map,List.getElem?_range a];rfl
theorem dJ.tL{j:Nat}(a:j<N)(d:0<j):¬p9 S r (kX S r j):=by
 obtain⟨f,g,c⟩:=K.first T hr;rintro (e|e|e)
 ·exact K.one (by rw[<-e];exact oO.2 ⟨j,a,rfl⟩)
 ·rw[T.vf hr]at e;exact K.Dq (by rw[<-e];exact oO.2 ⟨j,a,rfl⟩)
 ·rw[<-c]at e;have:=K.inj a (by omega) e;omega
omit T hr in
theorem dJ.place{pl:List Nat}(d:Dy (lN S r N) (lN S r N).length pl){j x:Nat}(u:j<N)(t:x<n):∃a,pl[vnum S x]? = some a/\(a<2+(N - 1 - j)↔vnum S x ∉ iP S r (j+1)):=by
 have f:=K.r9;have v:=K.cnt;rcases K.all x t with h|h|h
 ·obtain⟨i,g,k⟩:=oO.1 h;refine⟨2+(N - 1 - i),d _ _ (by omega) (by rw[<-k];exact qi g),?_⟩;rw[<-k,oO];constructor
  ·rintro m ⟨q,p,c⟩;have:=K.inj (by omega) g c;omega
  ·intro m;apply Classical.byContradiction;intro y;exact m ⟨i,by omega,rfl⟩
 ·refine⟨0,d 0 _ (by omega) (by rw[h];rfl),⟨fun _ e=>?_,fun _=>by omega⟩⟩;obtain⟨q,p,c⟩:=oO.1 e;exact K.one (by rw[<-h,<-c];exact oO.2 ⟨q,by omega,rfl⟩)
 ·refine⟨1,d 1 _ (by omega) (by rw[h];rfl),⟨fun _ e=>?_,fun _=>by omega⟩⟩;obtain⟨q,p,c⟩:=oO.1 e;exact K.Dq (by rw[<-h,<-c];exact oO.2 ⟨q,by omega,rfl⟩)
theorem dJ.Fb{j d:Nat}(k:j<N)(C:0<j)(p:d<n)(G:vnum S d=kX S r j) :
  ∃m,m<n/\itr S m d=iN S r j/\(∀t,t<m->¬(vnum S (mt (itr S t d)) ∉ iP S r (j+1)/\¬vnum S (mt (gq S (itr S t d))) ∉ iP S r (j+1))) /\
   (vnum S (mt (itr S m d)) ∉ iP S r (j+1)/\¬vnum S (mt (gq S (itr S m d))) ∉ iP S r (j+1)) /\
   (∀t,t<runN S r j->vnum S (mt (itr S (t+1) (itr S m d))) ∉ iP S r (j+1))/\¬vnum S (mt (itr S (runN S r j+1) (itr S m d))) ∉ iP S r (j+1):=by
 have a:=K.mW T hr k;have u:=K.tJ T hr k;have v:=(T.dR.eT p a).1 (by rw[G,u]);obtain⟨m,H,f⟩:=T.dR.iQ p v;have D:=(T.dR.dM p).2.1;obtain⟨I,-,L,-⟩:=T.dR.dM a;have E:=K.yt T hr k (K.tL T hr k C)
 have c:∀t,t<per S (iN S r j)->(vnum S (mt (itr S t (iN S r j))) ∉ iP S r (j+1)↔t<=runN S r j):=fun t A=>by
  have B:=K.ahead T hr k A;have x:=T.dR.dW a t;have J:vnum S (mt (itr S t (iN S r j)))≠kX S r j:=fun e=>T.loop _ x (by rw[T.pE a,u,e]);rw[Cj,List.mem_append,List.mem_singleton,B];constructor
  ·intro h;exact Nat.le_of_not_lt (fun e=>h (.inl e))
  ·rintro h (e|e)
   ·omega
   ·exact J e
 have i:∀t,t<per S (iN S r j)->0<t->gq S (itr S t (iN S r j))=itr S (t - 1) (iN S r j):=fun t A C=>by have:=T.dR.inv_of (T.dR.dW a (t - 1));rw[<-this];congr 1;show _=itr S (t - 1+1) _;rw[show t - 1+1=t by omega]
 have g:gq S (iN S r j)=itr S (per S (iN S r j) - 1) (iN S r j):=rfl;refine⟨m,by omega,f,?_,?_,?_,?_⟩
 ·rintro t A ⟨B,x⟩;have y:dK S (iN S r j) (itr S t d):=(T.dR.eO p v).trans ⟨t,rfl⟩;obtain⟨q,F,z⟩:=T.dR.iQ a y;rw[<-z]at B x;rw[c q F]at B;rcases Nat.eq_zero_or_pos q with e|e
  ·subst e;have:itr S t d=itr S m d:=by rw[<-z,f];rfl
   have:=T.dR.fB p (by omega) H this;omega
  ·rw[i q F e]at x;exact x ((c (q - 1) (by omega)).2 (by omega))
 ·rw[f];refine⟨(c 0 I).2 (Nat.zero_le _),fun h=>?_⟩;rw[g,c _ (by omega)]at h;omega
 ·intro t A;rw[f];exact(c (t+1) (by omega)).2 (by omega)
 ·rw[f];intro h;rw[c _ (by omega)]at h;omega
end
theorem JZ{s:List Nat}{r:Nat}(o:List Int)(d:Nat)(c:Int):uE s (vnum (sg s) (fc (sg s) (fc (sg s) r))) (vnum (sg s) r) (vnum (sg s) (fc (sg s) r)) o d c=tK (sg s) r o (d,c):=by
 unfold uE tK uD p9
 have e:∀v:Nat,(v=vnum (sg s) (fc (sg s) (fc (sg s) r))\/v=vnum (sg s) r\/v=vnum (sg s) (fc (sg s) r))↔(v=vnum (sg s) r\/v=vnum (sg s) (fc (sg s) r)\/v=vnum (sg s) (fc (sg s) (fc (sg s) r))):=fun v=>by
  constructor
  ·rintro (h|h|h)
   ·exact .inr (.inr h)
   ·exact .inl h
   ·exact .inr (.inl h)
  ·rintro (h|h|h)
   ·exact .inr (.inl h)
   ·exact .inr (.inr h)
   ·exact .inl h
 simp only [e]
structure oK (w0:World)(b:Nat)(s:List Nat)(root lone:Int)(R M:Nat->Prop)(bw dL:Nat)(dv:Value)(k0 k1 k2:Nat)(ol:List Int)(ds:List Nat)(og oc V gp:Nat)(o pl:List Nat)(wr:World):Prop where
 wm:WM w0 b s root lone R M bw dL dv k0 k1 k2 ol ds wr
 od:dH 0 wr (.slice (some ⟨og,0,none⟩) V oc) (dD o)
 pw:dH 0 wr (.slice (some ⟨gp,0,none⟩) V V) (dD pl)
 Dz:pl.length=V
 mm:M og/\M gp
 ne:gp≠og/\gp≠bw/\gp≠dL/\¬dv.ownBlock=some gp/\og≠dL
section
variable {w0:World} {b:Nat} {s:List Nat} {root lone:Int} {R M:Nat->Prop} {bw dL:Nat} {dv:Value} {k0 k1 k2:Nat} {ol:List Int} {ds:List Nat} {og oc V gp:Nat} {o pl:List Nat} {wr:World} (h:oK w0 b s root lone R M bw dL dv k0 k1 k2 ol ds og oc V gp o pl wr)
include h
theorem oK.step{c:World}(d:WM w0 b s root lone R M bw dL dv k0 k1 k2 ol ds c)(k:Keeps (fun k=>¬M k) wr c):oK w0 b s root lone R M bw dL dv k0 k1 k2 ol ds og oc V gp o pl c :=
 ⟨d,h.od.keeps k (fun q a e=>by simp only [Value.ownBlock,Option.some.injEq]at a;subst a;exact e h.mm.1),h.pw.keeps k (fun q a e=>by simp only [Value.ownBlock,Option.some.injEq]at a;subst a;exact e h.mm.2),h.Dz,h.mm,h.ne⟩
theorem oK.qp{d:World}{a:List Int}(f:WM w0 b s root lone R M bw dL dv k0 k1 k2 a ds d)(k:Keeps (fun k=>k=dL) wr d):oK w0 b s root lone R M bw dL dv k0 k1 k2 a ds og oc V gp o pl d :=
 ⟨f,h.od.keeps k (fun q c e=>by simp only [Value.ownBlock,Option.some.injEq]at c;subst c;exact h.ne.2.2.2.2 e),h.pw.keeps k (fun q c e=>by simp only [Value.ownBlock,Option.some.injEq]at c;subst c;exact h.ne.2.2.1 e),h.Dz,h.mm,h.ne⟩
theorem oK.put(v j:Nat):oK w0 b s root lone R M bw dL dv k0 k1 k2 ol ds og oc V gp o (pl.set v j) (wr.setCell ⟨gp,v,none⟩ (.int .i64 j)):=by obtain⟨i,c,d,f,u⟩:=h.ne;have k:Keeps (fun q=>q=gp) wr (wr.setCell ⟨gp,v,none⟩ (.int .i64 j)):=(Keeps.refl (fun q=>q=gp) wr).setCell (p:=⟨gp,v,none⟩) (.inl rfl) _;refine⟨⟨h.wm.m.own (k.mono (fun x _ e=>e ▸ h.mm.2)) (fun x g=>.inl g),h.wm.t.keeps k (fun e=>h.wm.nb h.mm.2 e.symm),h.wm.W.keeps k (fun e=>c e.symm) (fun e=>d e.symm) (fun q a e=>f (e ▸ a)),h.wm.own⟩,h.od.keeps k (fun q a e=>by simp only [Value.ownBlock,Option.some.injEq]at a;omega),?_,by rw[List.length_set];exact h.Dz,h.mm,h.ne⟩;have:=h.pw.set v (j:Nat);rw[show dD (pl.set v j)=(dD pl).set v (j:Nat) by simp[dD,List.map_set]];exact this
end
section
variable {w:World} {b:Nat} {s:List Nat} {root:Int} {l:Nat} {R:Nat->Prop} (h:MapAt w b s root l R)
include h
theorem Xa(d:¬kK s l):Calls Tryz.prog 159 #[.pointer (some ⟨b,0,none⟩)] w fun e w'=>e=.returned (.tuple #[.pointer none,.int .i64 8])/\fO w b s root l R w':=by have a:=WT h d;clear h;go_enter Tryz.func159,Tryz.ntmps159;go_wp2_with fail;refine a.mono ?_;rintro e w1 ⟨rfl,c⟩;have f:=dh c;clear c a;go_wp2;go_ret2;exact⟨rfl,f.out⟩
def Xb(w:World)(b:Nat)(s:List Nat)(root:Int)(l:Nat)(R:Nat->Prop)(r N:Nat)(e:Ending)(w':World):Prop :=
 ∃bw dL dv M,e=.returned (.tuple #[.pointer (some ⟨bw,0,none⟩),.int .i64 0]) /\
  WM w b s root l R M bw dL dv (vnum (sg s) (fc (sg s) (fc (sg s) r))) (vnum (sg s) r) (vnum (sg s) (fc (sg s) r)) (jK (sg s) r s.length N 0) (qX (sg s) s.length) w'
theorem Xc(g:kK s l){r N:Nat}(D:root=(r:Int))(hr:r<s.length)(K:dJ s.length (sg s) r N):Calls Tryz.prog 159 #[.pointer (some ⟨b,0,none⟩)] w (Xb w b s root l R r N):=by
 obtain⟨bg,ad,T⟩:=g.CB h.dR h.even;have hC:=WV h g D hr;have bh:=h.le;have HH:=dh h;have F:=dh (dn T (dn hr K));have HT:=dh (dn g D);clear h T K g D;go_enter Tryz.func159,Tryz.ntmps159;go_wp2_with fail;refine hC.mono ?_;rintro e w1 ⟨bw,dL,dv,M0,rfl,aj⟩;clear hC;obtain⟨R1,aw,ax⟩:=aj.m.JU;have hO:=WQ aw HT.out.1 HT.out.2 hr F.out.2.2;have f:=dh (dn aj ax);clear aj aw ax;go_wp2_with fail;refine hO.mono ?_;rintro e L ⟨v,rfl,a,ay,az⟩;clear hO;obtain⟨aA,aB⟩:=f.out.2 _ L ay
 have ak:WM w b s root l R (fun x=>M0 x\/v.ownBlock=some x) bw dL dv (vnum (sg s) (fc (sg s) (fc (sg s) r))) (vnum (sg s) r) (vnum (sg s) (fc (sg s) r)) (List.replicate s.length (-1)) (qX (sg s) s.length) L :=
  ⟨aA,az,f.out.1.W.keeps aB (fun e=>e f.out.1.own.1) (fun e=>e f.out.1.own.2.1) (fun q hq e=>e (f.out.1.own.2.2 q hq)),.inl f.out.1.own.1,.inl f.out.1.own.2.1,fun q hq=>.inl (f.out.1.own.2.2 q hq)⟩
 obtain⟨oa,oc,rfl,-,-⟩:=a.form;have G:=F.out.2.2.r9;have aC:=F.out.2.2.cnt;have a4:=oV (sg s) s.length;rw[q01]at a ⊢;obtain⟨og,rfl⟩:=oU a (by rw[q01];omega);obtain⟨V,hV⟩:∃V,V=(lN (sg s) r N).length:=⟨_,rfl⟩
 rw[<-hV]at a G ⊢;have bi:V<=1000000:=by omega
 obtain⟨ii,hi,aD,aE,aF⟩:=info_parts nX;have aG:=fun w=>run_make (P:=Tryz.prog) w 25 3 ii _ Tryz.underlying25 hi aD .i64 .i64 (V:Int) (V:Int) (by omega) (Int.le_refl _) (by rw[aF];omega) (by omega);simp only [aE,Int.toNat_natCast,Nat.mul_one]at aG;have HV:=dh (dn hV (dn G aC))
 have ad:oK w b s root l R (fun x=>(M0 x\/(Value.slice (some ⟨og,0,none⟩) V oc).ownBlock=some x)\/x=L.heap.size) bw dL dv (vnum (sg s) (fc (sg s) (fc (sg s) r))) (vnum (sg s) r) (vnum (sg s) (fc (sg s) r)) (List.replicate s.length (-1)) (qX (sg s) s.length) og oc V L.heap.size (lN (sg s) r N) (List.replicate V 0) (L.alloc (.cells (madeCells #[.int .i64 0] V) 3)):=by
  have k:=(Keeps.refl (fun _=>False) L).alloc (.cells (madeCells #[.int .i64 0] V) 3);have e1:=heap_alloc_new L (.cells (madeCells #[.int .i64 0] V) 3);have e2:=lt_of_block e1;obtain⟨l1,l2,l3⟩:=ak.W.lt;obtain⟨q1,q2,q3⟩:=f.out.1.W.lt;have h5:=a.lt og rfl;refine⟨ak.more k (fun x hx=>.inl hx) (fun x hx=>?_),(a.mono (fun _ _=>Nat.zero_le _)).keeps k (fun _ _ h=>h),?_,by simp,⟨.inl (.inr rfl),.inr rfl⟩,by omega,by omega,by omega,fun e=>by have:=l3 _ e;omega,by omega⟩
  ·rcases hx with hx|hx
   ·exact .inl hx
   ·exact .inr ⟨by omega,by omega⟩
  ·refine⟨by simp[ints,dD],.inr ⟨L.heap.size,V,_,by simp[dD],Nat.zero_le _,e1,by simp[dD],by unfold maxLen;omega,by rw[size_madeCells];simp,?_⟩⟩;rw[toList_madeCells_one];simp[ints,dD]
 generalize a5:(fun x=>(M0 x\/(Value.slice (some ⟨og,0,none⟩) V oc).ownBlock=some x)\/x=L.heap.size)=M at ad;have al:=dh ad;have aH:=F.out.2.2.wH F.out.1 F.out.2.1;have aI:=dh aH;clear hi aD aE aF hV G aC a4 a ak aA aB ay az ad a5 aH f;go_wp2_with fail;obtain⟨gp,aJ⟩:∃gp,gp=L.heap.size:=⟨_,rfl⟩
 rw[<-aJ]at al ⊢;generalize L.alloc _=wx at *;clear aJ aG;obtain⟨o,ho⟩:∃o,o=lN (sg s) r N:=⟨_,rfl⟩
 rw[<-ho]at al aI HV;have HO:=dh ho;clear ho;go_loopg [34] V (fun mu i wr=>∃j:Nat,j<=V/\mu=V - j/\i=.int .i64 j/\∃pl,oK w b s root l R M bw dL dv (vnum (sg s) (fc (sg s) (fc (sg s) r))) (vnum (sg s) r) (vnum (sg s) (fc (sg s) r)) (List.replicate s.length (-1)) (qX (sg s) s.length) og oc V gp o pl wr/\Dy o j pl)
 case atStart=>exact⟨0,Nat.zero_le _,rfl,rfl,_,al.out,fun i v hi=>by omega⟩
 case round =>
  obtain⟨j,hj,aK,rfl,pl,c,hP⟩:=hrel;have HG:=dh aK;clear aK;by_cases aL:j<V
  ·obtain⟨v,hv⟩:∃v,o[j]? = some v:=⟨_,List.getElem?_eq_getElem (by rw[<-HV.out.1];exact aL)⟩
   have aM:v<V:=by have:=F.out.2.2.CP F.out.1 F.out.2.1 (v:=v) (by rw[<-HO.out];exact List.mem_of_getElem? hv);have:=HV.out.2.1;omega
   have c1:=(c.od.cell (jA hv)).1;obtain⟨z,z1,z2⟩:=c.pw.has v (by rw[q01,c.Dz];exact aM);have HN:=dh (dn (c.put v j) (hP.step aI.out hv (by rw[c.Dz];exact aM)));clear c hP hv;go_wp2_with fail;go_roundg (V - (j+1))
   case measure=>rw[HG.out];omega
   case rel=>exact⟨j+1,by omega,rfl,by go_num,_,HN.out⟩
  ·obtain rfl:j=V:=by omega
   have bj:2<oc/\j<=oc:=by have hf:=c.od.form;obtain⟨_,_,he,h1,-⟩:=hf;simp only [Value.slice.injEq]at he;have h2:=HV.out.1;have h3:=HV.out.2.2;have h4:=HV.out.2.1;have h5:=F.out.2.2.pos;rw[q01]at h1;omega
   have aN:j=N+2:=by have h3:=HV.out.2.2;have h4:=HV.out.2.1;omega
   have bk:=dh aN;have bl:¬oc=2:=by omega
   have bm:¬2=oc:=by omega
   have bn:2<=oc:=by omega
   have bo:2<=j:=by omega
   have bp:¬(j:Int)<2:=by omega
   have bq:(j:Int) - 2=(N:Int):=by omega
   have br:j - 2=N:=by omega
   have aO:Dy (lN (sg s) r N) (lN (sg s) r N).length pl:=by rw[<-HO.out,<-HV.out.1];exact hP
   have aP:oK w b s root l R M bw dL dv (vnum (sg s) (fc (sg s) (fc (sg s) r))) (vnum (sg s) r) (vnum (sg s) (fc (sg s) r)) (jK (sg s) r s.length N (N - 0)) (qX (sg s) s.length) og oc j gp o pl wr:=by rw[Nat.sub_zero,WE];exact c
   have HP:=dh aO;clear c hP aO aN aL;go_wp2_with fail;go_loopg [47] N (fun mu i wr=>∃q:Nat,q<=N/\mu=N - q/\i=.int .i64 q/\oK w b s root l R M bw dL dv (vnum (sg s) (fc (sg s) (fc (sg s) r))) (vnum (sg s) r) (vnum (sg s) (fc (sg s) r)) (jK (sg s) r s.length N (N - q)) (qX (sg s) s.length) og oc j gp o pl wr)
   case atStart=>exact⟨0,Nat.zero_le _,rfl,rfl,aP⟩
   case round =>
    clear aP;obtain⟨q,hq,ah,rfl,c⟩:=hrel;have a6:=dh ah;clear ah;by_cases aQ:q<N
    ·obtain⟨J,hJ⟩:∃J,J=N - 1 - q:=⟨_,rfl⟩
     have p:J<N:=by omega
     have g:=F.out.1;have d:=F.out.2.1;have O:=F.out.2.2;have aR:o[2+q]? = some (kX (sg s) r J):=by have:=qi (S:=sg s) (r:=r) p;rw[show N - 1 - J=q by omega]at this;rw[HO.out];exact this
     have c1:=(c.od.cell (jA aR)).1;have am:=O.Ba g d p;have H:=O.mW g d p;obtain⟨f1,f2,f3⟩:=O.first g d;obtain⟨p0,p1,p2⟩:=O.rZ g d p;have a7:=(g.dR.dM H).2.1;have Q:=c.Dz
     have hE:Calls Tryz.prog 186 #[.pointer (some ⟨bw,0,none⟩),.int .i64 (kX (sg s) r J:Nat),.slice (some ⟨gp,0,none⟩) j j] wr (JY w b s root l R M bw dL dv (vnum (sg s) (fc (sg s) (fc (sg s) r))) (vnum (sg s) r) (vnum (sg s) (fc (sg s) r)) (jK (sg s) r s.length N (N - q)) (qX (sg s) s.length) wr (iN (sg s) r J) (oI (sg s) r J)):=by
      rcases Nat.eq_zero_or_pos J with e0|e0
      ·rw[e0,f1,f2,f3];have U:=c.pw;rw[<-Q]at U ⊢;exact WZ c.wm U c.mm.2 r (fc (sg s) r) (fc (sg s) (fc (sg s) r)) HT.out.2 d (g.rY d) (g.gD d)
      ·have a8:vnum (sg s) (oI (sg s) r J)=kX (sg s) r J:=rfl;obtain⟨d0,g1,g2,g3⟩:=g.dR.zT s.length (Nat.le_refl _) (oI (sg s) r J) am;rw[a8]at g1 g3;obtain⟨m,m1,m2,m3,m4,m5,m6⟩:=O.Fb g d p e0 g2 g3;have U:=c.pw;rw[<-Q]at U ⊢;have a9:pl[kX (sg s) r J]? = some (2+(N - 1 - J)):=HP.out _ _ (by have:=O.r9;have:=O.cnt;omega) (qi p);have ba:kX (sg s) r J≠vnum (sg s) (fc (sg s) (fc (sg s) r)):=fun e=>O.tL g d p e0 (.inr (.inr e));have:=WY c.wm U c.mm.2 (kX (sg s) r J) d0 (2+(N - 1 - J)) m (runN (sg s) r J) ba g1 g2 a9 (fun x=>vnum (sg s) (mt x) ∉ iP (sg s) r (J+1)) (fun x hx=>O.place HP.out p (g.mlt (g.dR.fK g2 hx))) m3 m4 m5 m6;rw[m2,p2]at this;exact this
     obtain⟨v,hv⟩:∃v,v=kX (sg s) r J:=⟨_,rfl⟩
     rw[<-hv]at hE c1;have u:=O.qp g d p;rw[show J+1=N - q by omega]at u;have aS:Bd (sg s) r J=(iN (sg s) r J,1) :: ((List.range (runN (sg s) r J - 1)).map (fun t=>(mt (itr (sg s) (t+1) (iN (sg s) r J)),(0:Int))) ++ [(oI (sg s) r J,2)]):=rfl;rw[aS,List.foldl_cons,List.foldl_append,List.foldl_cons,List.foldl_nil]at u;rw[show J=N - (q+1) by omega]at u;have A:∀t,t+1<runN (sg s) r J->itr (sg s) (t+1) (iN (sg s) r J)≠oI (sg s) r J:=fun t ht e=>by rw[<-p2]at e;have:=g.dR.fB H (by omega) p1 e;omega
     rw[show N - (q+1)=J by omega]at u;obtain⟨m,hm⟩:∃m,m+1=runN (sg s) r J:=⟨runN (sg s) r J - 1,by omega⟩
     rw[<-hm]at p2 A u;rw[show m+1 - 1=m by omega]at u;have bs:m<=131072:=by omega
     obtain⟨I,X⟩:∃I,I=iN (sg s) r J:=⟨_,rfl⟩
     obtain⟨rt,Y⟩:∃rt,rt=oI (sg s) r J:=⟨_,rfl⟩
     rw[<-X,<-Y]at hE u p2 A;rw[<-X]at H;rw[<-Y]at am;have HS:=dh c;have HZ:=dh (dn u (dn p2 A));have HJ:=dh hJ;obtain⟨ol,G⟩:∃ol,ol=jK (sg s) r s.length N (N - q):=⟨_,rfl⟩
     rw[<-G]at HS HZ hE;clear c aR hv u aS p0 p1 p2 hm X Y A hJ G f1 f2 f3 a7 g O d Q;go_wp2_with fail;refine hE.mono ?_;rintro e w3 ⟨rfl,aT,aU⟩;have an:=HS.out.step aT aU;clear hE aT aU;have aV:=JX an.wm I H 1;have bc:=dh an;clear an c1;go_wp2_with fail;refine aV.mono ?_;rintro e w4 ⟨rfl,ao,aW⟩;rw[JZ]at ao;have ap:=bc.out.qp ao aW;clear aV ao aW;obtain⟨R4,aX,-,-⟩:=ap.wm.m.mp;have Z:=vW aX I H;have bd:=dh ap;clear aX ap;go_wp2_with fail;refine Z.mono ?_;rintro e w' ⟨rfl,rfl⟩;clear Z;go_wp2_with fail;go_loopg [15] m (fun mu dd wr=>∃t:Nat,t<=m/\mu=m - t/\dd=.int .i64 (itr (sg s) (t+1) I:Nat)/\oK w b s root l R M bw dL dv (vnum (sg s) (fc (sg s) (fc (sg s) r))) (vnum (sg s) r) (vnum (sg s) (fc (sg s) r)) (((List.range t).map (fun t=>(mt (itr (sg s) (t+1) I),(0:Int)))).foldl (tK (sg s) r) (tK (sg s) r ol (I,1))) (qX (sg s) s.length) og oc j gp o pl wr)
     case atStart=>exact⟨0,Nat.zero_le _,rfl,rfl,bd.out⟩
     case round =>
      obtain⟨t,ht,ai,rfl,aq⟩:=hrel;have be:=dh ai;clear ai;have ae:itr (sg s) (t+1) I<s.length:=F.out.1.dR.dW H _;obtain⟨y,hy⟩:∃y,y=itr (sg s) (t+1) I:=⟨_,rfl⟩
      have af:t<m↔y≠rt:=by
       rw[hy];constructor
       ·intro e;exact HZ.out.2.2 t (by omega)
       ·intro e;rcases Nat.lt_or_ge t m with e2|e2
        ·exact e2
        ·obtain rfl:t=m:=by omega
         exact absurd HZ.out.2.1 e
      rw[<-hy]at ae ⊢;have HY:=dh hy;obtain⟨R5,ar,-,-⟩:=aq.wm.m.mp;have au:=sZ ar y ae;have aY:=dQ ar.even ae;have ag:=dh aq;clear hy ar aq;by_cases B:t<m
      ·have bf:((y:Int) != (rt:Int))=true:=by rw[bne_iff_ne];have:=af.1 B;omega
       have aa:=JX ag.out.wm (mt y) aY 0;have aZ:=dh B;clear af B;go_wp2_with fail;refine au.mono ?_;rintro e w' ⟨rfl,rfl⟩;go_wp2_with fail;refine aa.mono ?_;rintro e w6 ⟨rfl,E,ab⟩;rw[JZ]at E;have C:=ag.out.qp E ab;obtain⟨R6,a0,-,-⟩:=C.wm.m.mp;have Z:=vW a0 y ae;have a1:((List.range (t+1)).map (fun t=>(mt (itr (sg s) (t+1) I),(0:Int)))).foldl (tK (sg s) r) (tK (sg s) r ol (I,1))=tK (sg s) r (((List.range t).map (fun t=>(mt (itr (sg s) (t+1) I),(0:Int)))).foldl (tK (sg s) r) (tK (sg s) r ol (I,1))) (mt y,0):=by rw[List.range_succ,List.map_append,List.foldl_append,HY.out];rfl
       rw[<-a1]at C;have av:=dh C;clear aa E ab a0 C a1 au;go_wp2_with fail;refine Z.mono ?_;rintro e w' ⟨rfl,rfl⟩;clear Z;go_wp2_with fail;go_roundg (m - (t+1))
       case measure=>rw[be.out];have:=aZ.out;omega
       case rel=>exact⟨t+1,aZ.out,rfl,by rw[HY.out];rfl,av.out⟩
      ·obtain rfl:t=m:=by omega
       have bf:((y:Int) != (rt:Int))=false:=by
        have:y=rt:=by apply Classical.byContradiction;intro e;exact B (af.2 e)
        rw[this];exact bne_self_eq_false _
       have aa:=JX ag.out.wm rt am 2;have a2:q+1<=N:=aQ;have a3:=dh a2;clear af B au a2;go_wp2_with fail;refine aa.mono ?_;rintro e w6 ⟨rfl,E,ab⟩;rw[JZ,HZ.out.1,HJ.out]at E;have C:=ag.out.qp E ab;rw[show N - 1 - q=N - (q+1) by omega]at C;have av:=dh C;clear aa E ab C;go_wp2_with fail;go_roundg (N - (q+1))
       case measure=>rw[a6.out];have:=a3.out;omega
       case rel=>exact⟨q+1,a3.out,rfl,by go_num,av.out⟩
    ·obtain rfl:q=N:=by omega
     rw[Nat.sub_self]at c;have HF:=dh c.wm;clear c;go_wp2;go_ret2;exact⟨_,_,_,_,rfl,HF.out⟩
end
