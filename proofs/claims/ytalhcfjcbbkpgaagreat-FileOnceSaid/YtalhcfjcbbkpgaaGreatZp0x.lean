import Derived.Test.YtalhcfjcbbkpgaaGreatZp0t
set_option maxRecDepth 100000
set_option maxHeartbeats 4000000
namespace Go.Proofs.YtalhcfjcbbkpgaaGreat
section
def iq(p q:List Nat):List Nat:=p ++ q.map (p.length + ·)
theorem Oh(p:List Nat)(ps:List (List Nat)):iO (p :: ps)=iq p (iO ps):=rfl
theorem AU(p q:List Nat):(iq p q).length=p.length+q.length:=by simp[iq]
theorem om{p q:List Nat}{x:Nat}(h:x<p.length):sg (iq p q) x=sg p x:=by unfold sg iq;rw[List.getD_eq_getElem?_getD,List.getElem?_append_left h,<-List.getD_eq_getElem?_getD]
theorem oq{p q:List Nat}{x:Nat}(h:x<q.length):sg (iq p q) (p.length+x)=p.length+sg q x:=by unfold sg iq;rw[List.getD_eq_getElem?_getD,List.getElem?_append_right (by omega),Nat.add_sub_cancel_left,List.getElem?_map,List.getElem?_eq_getElem h,List.getD_eq_getElem?_getD,List.getElem?_eq_getElem h];rfl
theorem Oi{a x:Nat}(h:a % 2=0):mt (a+x)=a+mt x:=by unfold mt;split <;> split <;> omega
theorem JG{a b x:Nat}(h:x<a+b):x<a\/∃y,x=a+y/\y<b:=by
 rcases Nat.lt_or_ge x a with c|c
 ·exact .inl c
 ·exact .inr ⟨x - a,by omega,by omega⟩
section
variable {p q:List Nat} (hp:dO p.length (sg p)) (hq:dO q.length (sg q))
include hp hq
theorem Vu:dO (iq p q).length (sg (iq p q)):=by
 rw[AU];refine⟨fun x c=>?_,fun x y c d e=>?_⟩
 ·rcases JG c with h|⟨y,rfl,h⟩
  ·rw[om h];have:=hp.lt x h;omega
  ·rw[oq h];have:=hq.lt y h;omega
 ·rcases JG c with h|⟨u,rfl,h⟩ <;> rcases JG d with a | ⟨v,rfl,a⟩
  ·rw[om h,om a]at e;exact hp.inj _ _ h a e
  ·rw[om h,oq a]at e;have:=hp.lt x h;omega
  ·rw[oq h,om a]at e;have:=hp.lt y a;omega
  ·rw[oq h,oq a]at e;rw[hq.inj u v h a (by omega)]
end
section
variable {p q:List Nat} (hp:dO p.length (sg p)) (hq:dO q.length (sg q)) (ep:p.length % 2=0) (eq:q.length % 2=0)
include hp hq ep eq
theorem Oj{x y:Nat}(h:x<p.length):dI (iq p q).length (sg (iq p q)) x y↔dI p.length (sg p) x y:=by
 have _:=hq;constructor
 ·intro d;refine(d (fun z=>z<p.length/\dI p.length (sg p) x z) ⟨h,dI.refl _ _ _⟩ (fun z _ a=>?_)).2;rw[om a.1];exact⟨⟨hp.lt z a.1,a.2.trans (dI.turn a.1)⟩,⟨dQ ep a.1,a.2.trans (dI.mate a.1)⟩⟩
 ·intro d;refine d (fun z=>dI (iq p q).length (sg (iq p q)) x z) (dI.refl _ _ _) (fun z a e=>?_);have c:z<(iq p q).length:=by rw[AU];omega
  refine⟨?_,e.trans (dI.mate c)⟩;have:=e.trans (dI.turn c);rwa [om a]at this
theorem Ol{x z:Nat}(h:x<q.length):dI (iq p q).length (sg (iq p q)) (p.length+x) z↔∃y,z=p.length+y/\dI q.length (sg q) x y:=by
 have _:=hp;constructor
 ·intro c;obtain⟨y,e,_,a⟩:=c (fun z=>∃y,z=p.length+y/\y<q.length/\dI q.length (sg q) x y) ⟨x,rfl,h,dI.refl _ _ _⟩ (fun z _ f=>by obtain⟨y,rfl,a,c⟩:=f;rw[oq a,Oi ep];exact⟨⟨_,rfl,hq.lt y a,c.trans (dI.turn a)⟩,⟨_,rfl,dQ eq a,c.trans (dI.mate a)⟩⟩);exact⟨y,e,a⟩
 ·rintro⟨y,rfl,c⟩;refine c (fun z=>dI (iq p q).length (sg (iq p q)) (p.length+x) (p.length+z)) (dI.refl _ _ _) (fun z f i=>?_);have d:p.length+z<(iq p q).length:=by rw[AU];omega
  have j:=i.trans (dI.turn d);have k:=i.trans (dI.mate d);rw[oq f]at j;rw[Oi ep]at k;exact⟨j,k⟩
theorem Om{x:Nat}(h:x<p.length):eU (iq p q).length (sg (iq p q)) x=eU p.length (sg p) x :=
 Nat.le_antisymm (xu ((Oj hp hq ep eq h).2 (wO _ _ _))) (xu ((Oj hp hq ep eq h).1 (wO _ _ _)))
theorem Oo{x:Nat}(h:x<q.length):eU (iq p q).length (sg (iq p q)) (p.length+x)=p.length+eU q.length (sg q) x:=by refine Nat.le_antisymm (xu ((Ol hp hq ep eq h).2 ⟨_,rfl,wO _ _ _⟩)) ?_;obtain⟨y,e,a⟩:=(Ol hp hq ep eq h).1 (wO _ _ _);have:=xu a;omega
theorem Oq:∀i,i<=p.length->dX (iq p q).length (sg (iq p q)) i=dX p.length (sg p) i:=by
 intro i
 induction i with
 | zero=>intro _;rfl
 | succ i a =>
  intro c;rw[ug,ug,a (by omega),Om hp hq ep eq (by omega)]
theorem Vv:∀i,i<=q.length->dX (iq p q).length (sg (iq p q)) (p.length+i)=dX p.length (sg p) p.length+dX q.length (sg q) i:=by
 intro i
 induction i with
 | zero=>intro _;rw[Nat.add_zero,Oq hp hq ep eq _ (Nat.le_refl _)];rfl
 | succ i c =>
  intro d;rw[<-Nat.add_assoc,ug,ug,c (by omega),Oo hp hq ep eq (by omega)];by_cases a:eU q.length (sg q) i=i
  ·rw[if_pos a,if_pos (by omega)];omega
  ·rw[if_neg a,if_neg (by omega)];omega
theorem Vw{x:Nat}(h:x<p.length):eP (iq p q).length (sg (iq p q)) x=eP p.length (sg p) x:=by unfold eP;rw[Om hp hq ep eq h,Oq hp hq ep eq _ (Nat.le_of_lt (hp.lF ep h))]
theorem Vx{x:Nat}(h:x<q.length):eP (iq p q).length (sg (iq p q)) (p.length+x)=dX p.length (sg p) p.length+eP q.length (sg q) x:=by unfold eP;rw[Oo hp hq ep eq h,Vv hp hq ep eq _ (Nat.le_of_lt (hq.lF eq h))]
end
theorem Ot{i:Nat}{f:Nat->Nat}(r:i % 2=0)(j:∀x,x<i->f (mt x)=mt (f x))(k:∀x y,x<i->y<i->f x=f y->x=y){d:Nat}(m:d<i) :
  ∀a:List (Nat × Nat),(∀p ∈ a,p.1<i)->(a.map fun p=>(f p.1,p.2)).find? (fun p=>p.1 / 2 == f d / 2)=(a.find? (fun p=>p.1 / 2 == d / 2)).map fun p=>(f p.1,p.2)
 | [],_=>rfl
 | p :: a,h=>by
  have hp:=h p (by simp);have t:=Ot r j k m a (fun x u=>h x (by simp[u]));rw[List.map_cons,List.find?_cons,List.find?_cons]
  have e:((f p.1) / 2 == f d / 2)=(p.1 / 2 == d / 2):=by
   refine Bool.eq_iff_iff.2 ?_;simp only [beq_iff_eq];constructor
   ·intro o;rcases FL o with c|c
    ·rw[k _ _ m hp c]
    ·rw[<-j _ hp]at c;rw[k _ _ m (dQ r hp) c,DV]
   ·intro o;rcases FL o with c|c
    ·rw[c]
    ·rw[c,j _ hp,DV]
  rw[e,t];cases p.1 / 2 == d / 2 <;> rfl
theorem Vy{c:Nat}{i v f:Nat->Nat}(j:c % 2=0)(m:∀x,x<c->f (mt x)=mt (f x))(u:∀x y,x<c->y<c->f x=f y->x=y)(t:∀x y,x<c->y<c->(v (f x)=v (f y)↔i x=i y)){r d:Nat}(hr:r<c)(k:d<c)(a:List (Nat × Nat))(o:∀p ∈ a,p.1<c) :
  eZ v (f r) (a.map fun p=>(f p.1,p.2)) (f d)=eZ i r a d:=by
 unfold eZ;rw[Ot j m u k a o];cases hf:a.find? (fun p=>p.1 / 2 == d / 2) with
 | some p=>rfl
 | none =>
  show (if gG v (f r) _ (v (mt (f d)))then 2 else 0)=(if gG i r a (i (mt d))then 2 else 0)
  have e:gG v (f r) (a.map fun p=>(f p.1,p.2)) (v (mt (f d)))=gG i r a (i (mt d)):=by
   unfold gG;rw[<-m d k,List.any_map];have z:(v (f (mt d)) == v (f r))=(i (mt d) == i r):=by refine Bool.eq_iff_iff.2 ?_;simp only [beq_iff_eq];exact t _ _ (dQ j k) hr
   rw[z];congr 1;refine Bool.eq_iff_iff.2 ?_;simp only [List.any_eq_true,Function.comp,Bool.and_eq_true,beq_iff_eq];refine exists_congr (fun p=>and_congr_right (fun hp=>and_congr_right (fun _=>?_)));rw[<-m _ (o p hp)];exact t _ _ (dQ j (o p hp)) (dQ j k)
  rw[e]
theorem Vz{d:Nat}{c S a v f:Nat->Nat}(A:dO d c)(m:d % 2=0)(C:∀x,x<d->S (f x)=f (c x))(o:∀x,x<d->f (mt x)=mt (f x))(D:∀x y,x<d->y<d->f x=f y->x=y)(E:∀x y,x<d->y<d->(v (f x)=v (f y)↔a x=a y)){r:Nat}(hr:r<d) :
  ∀j,(eD S v (f r) j).1=f (eD c a r j).1/\(eD S v (f r) j).2=(eD c a r j).2.map (fun p=>(f p.1,p.2))/\(eD c a r j).1<d/\∀p ∈ (eD c a r j).2,p.1<d:=by
 intro j
 induction j with
 | zero=>exact⟨rfl,rfl,hr,fun p hp=>by simp[eD]at hp⟩
 | succ j F =>
  obtain⟨k,t,e,u⟩:=F;have z:=Vy m o D E hr e _ u;rw[<-k,<-t]at z;have G:(eD S v (f r) (j+1)).1=S (if eZ v (f r) (eD S v (f r) j).2 (eD S v (f r) j).1<2 then mt (eD S v (f r) j).1 else (eD S v (f r) j).1):=rfl;have H:(eD c a r (j+1)).1=c (if eZ a r (eD c a r j).2 (eD c a r j).1<2 then mt (eD c a r j).1 else (eD c a r j).1):=rfl;have I:(eD S v (f r) (j+1)).2=(eD S v (f r) j).2 ++ [((eD S v (f r) j).1,eZ v (f r) (eD S v (f r) j).2 (eD S v (f r) j).1)]:=rfl;have J:(eD c a r (j+1)).2=(eD c a r j).2 ++ [((eD c a r j).1,eZ a r (eD c a r j).2 (eD c a r j).1)]:=rfl;rw[G,H,I,J,z]
  have i:(if eZ a r (eD c a r j).2 (eD c a r j).1<2 then mt (eD c a r j).1 else (eD c a r j).1)<d:=by
   split
   ·exact dQ m e
   ·exact e
  refine⟨?_,by rw[t,List.map_append,k];rfl,A.lt _ i,fun p hp=>?_⟩
  ·rw[<-C _ i];congr 1;split
   ·rw[k,o _ e]
   ·exact k
  ·rcases List.mem_append.1 hp with h|h
   ·exact u p h
   ·simp only [List.mem_singleton]at h;rw[h];exact e
theorem iV.map{d n:Nat}{A S C v f:Nat->Nat}(N:dO d A)(O:d % 2=0)(Q:∀x,x<d->S (f x)=f (A x))(U:∀x,x<d->f (mt x)=mt (f x))(H:∀x y,x<d->y<d->f x=f y->x=y)(W:∀x y,x<d->y<d->(v (f x)=v (f y)↔C x=C y)){r:Nat}(hr:r<d)
  (Y:d<=n)(D:∀x,x<d->f x<n)(G:∀z,dI n S (f r) z↔∃y,z=f y/\y<d/\dI d A r y){T:Nat}(k:iV d A C r T) :
  iV n S v (f r) T/\jk (eD S v (f r) T).2=jk (eD A C r T).2:=by
 have u:=Vz N O Q U H W hr;have K:∀j,jk (eD S v (f r) j).2=jk (eD A C r j).2:=fun j=>by rw[(u j).2.1];unfold jk;rw[List.map_map];rfl
 have i:∀j x,vis (eD S v (f r) j).2 x↔∃y,x=f y/\vis (eD A C r j).2 y:=fun j x=>by
  rw[(u j).2.1];unfold vis;simp only [List.mem_map,Prod.mk.injEq,Prod.exists];constructor
  ·rintro⟨c,a,b,t,m,h3⟩;exact⟨a,m.symm,b,t⟩
  ·rintro⟨y,t,c,m⟩;exact⟨c,y,c,m,t.symm,rfl⟩
 refine⟨?_,K T⟩;refine { right:=by rw[K T];exact k.right,nd:=?_,rR:=fun x o=>?_,lt:=fun x o=>?_,cur:=fun j I=>?_,k4:=fun j I x c o=>?_,le:=by have:=k.le;omega }
 ·rw[(u T).2.1,List.map_map];have E:=k.nd;rw[List.Nodup,List.pairwise_map]at E ⊢;refine List.Pairwise.imp_of_mem (fun {x y} o F J e=>J ?_) E;exact H _ _ ((u T).2.2.2 x o) ((u T).2.2.2 y F) e
 ·rw[G,i];constructor
  ·rintro⟨y,t,m,h3⟩;exact⟨y,t,(k.rR y m).1 h3⟩
  ·rintro⟨y,t,m⟩;exact⟨y,t,k.lt y m,(k.rR y (k.lt y m)).2 m⟩
 ·obtain⟨y,rfl,F⟩:=(i T x).1 o;exact D y (k.lt y F)
 ·obtain⟨M,X⟩:=k.cur j I;rw[(u j).1];refine⟨D _ M,fun o=>?_⟩;obtain⟨y,e,F⟩:=(i j _).1 o;obtain⟨c,G⟩:=F;have:=H _ _ M ((u j).2.2.2 _ G) e;exact X ⟨c,this ▸ G⟩
 ·rw[(u j).2.1]at o;simp only [List.mem_map,Prod.mk.injEq,Prod.exists]at o;obtain⟨a,b,t,m,rfl⟩:=o;exact k.k4 j I a b t
theorem Ou:∀{l:List (List Nat)},kJ l->(iO (l.map dN)).length % 2=0
 | [],_=>rfl
 | k :: l,h=>by rw[List.map_cons,Oh,AU,pG];have c:=(h k (by simp)).1.wd.mD;have d:=Ou (l:=l) (fun x a=>h x (by simp[a]));omega
def ji(l:List (List Nat))(i:Nat):Nat:=((l.take i).flatten).length
theorem JH(l:List (List Nat)):ji l 0=0:=rfl
theorem Ov{l:List (List Nat)}{i:Nat}{k:List Nat}(h:l[i]? = some k):ji l (i+1)=ji l i+k.length:=by unfold ji;rw[oW h,List.flatten_append,List.length_append];simp
theorem Ox(l:List (List Nat)):ji l l.length=l.flatten.length:=by unfold ji;rw[List.take_of_length_le (Nat.le_refl _)]
theorem Oy{l:List (List Nat)}{i:Nat}:ji l i<=l.flatten.length:=by
 unfold ji
 conv=>rhs;rw[<-List.take_append_drop i l]
 rw[List.flatten_append,List.length_append];omega
theorem Oz(k:List Nat)(l:List (List Nat))(i:Nat):ji (k :: l) (i+1)=k.length+ji l i:=by simp[ji]
theorem OA:∀{l:List (List Nat)},kJ l->∀i k,l[i]? = some k->∀x,x<k.length->ji l i+x<(iO (l.map dN)).length/\sg (iO (l.map dN)) (ji l i+x)=ji l i+sg (dN k) x/\eP (iO (l.map dN)).length (sg (iO (l.map dN))) (ji l i+x)=i
 | [],_,i,k,d,_,_=>by simp at d
 | e :: l,h,i,k,d,x,f=>by
  have j:=(h e (by simp)).1;have m:=(h e (by simp)).2;have o:kJ l:=fun x f=>h x (by simp[f]);have u:=OA o;have hp:=j.wd.iD;have hq:=NP o;have a:=pG e;have ep:(dN e).length % 2=0:=by rw[a];exact j.wd.mD
  have eq:=Ou o;have r:=j.wd.uz m;rw[List.map_cons,Oh];cases i with
  | zero =>
   simp only [List.getElem?_cons_zero,Option.some.injEq]at d;subst d;have c:x<(dN e).length:=by omega
   rw[JH,Nat.zero_add,Nat.zero_add,om c,Vw hp hq ep eq c,AU];have:=hp.lG ep c;exact⟨by omega,rfl,by omega⟩
  | succ i =>
   rw[List.getElem?_cons_succ]at d;obtain⟨t,v,a3⟩:=u i k d x f;rw[Oz,<-a,Nat.add_assoc,oq t,Vx hp hq ep eq t,v,a3,AU,r.1];exact⟨by omega,by omega,by omega⟩
end
section
open Go.RowKit
section
variable {w:World} {b:Nat} {s:List Nat} {root lone:Int} {R:Nat->Prop} (h:MapAt w b s root lone R)
include h
theorem VA(ht:Told w b):Calls Tryz.prog 61 #[.pointer (some ⟨b,0,none⟩)] w fun e w'=>e=.returned (.int .i64 (eu (sg s) s.length:Nat))/\w=w':=by
 obtain⟨t,u,sv,v,a,x,y,k,z,A,c,m,o,i,r⟩:=h.ex;have d:w.cell? ⟨b,1,none⟩=some (.int .u32 (if a then 1 else 0)):=dw c 1
 obtain rfl:a=true:=by
  unfold Told at ht;rw[ht]at d;cases a
  ·simp at d
  ·rfl
 have j:=FD ⟨b,1,none⟩ (.func (.func 110) #[.pointer (some ⟨b,0,none⟩)] #[]) w ht;have f:w.cell? ⟨b,5,none⟩=some k:=dw c 5;obtain⟨C,D,rfl,_,_⟩:=i.2.form;rw[q01,wR]at f;clear h c m o i r d ht;go_enter Tryz.func61,Tryz.ntmps61;go_wp2_with fail;refine j.mono ?_;rintro e w1 ⟨rfl,rfl⟩;clear j;go_wp2;go_ret;exact⟨rfl,rfl⟩
theorem VB(ht:Told w b):Calls Tryz.prog 19 #[.pointer (some ⟨b,0,none⟩)] w fun e w'=>e=.returned (.int .i64 ((eu (sg s) s.length:Nat)+lone))/\w'=w.drew:=by
 have d:=h.keeps (Keeps.refl (fun _=>False) w).drew (fun h=>h) (fun _ _ h=>h);have i:=VA d (show Told w.drew b from ht);obtain⟨j,x,nC,y,k,z,m,o,A,C,f,_⟩:=h.ex;have c:w.cell? ⟨b,13,none⟩=some (.int .i64 lone):=dw f 13;have r:=oV (sg s) s.length;have t:=h.le;have u:=h.ln;clear h ht f d;generalize eu (sg s) s.length=v at *;go_enter Tryz.func19,Tryz.ntmps19;go_wp2_with fail;have a:IntKind.i64.wrap ((v:Int)+lone)=(v:Int)+lone:=IntWalk.i64_in _ (by omega);go_region_held3 (fun w'=>w'.cell? ⟨b,13,none⟩=some (.int .i64 lone)) (exact c) (first | (go_at_call 61;refine i.mono ?_;rintro e w' ⟨rfl,rfl⟩));clear a
 all_goals
  go_wp2;go_ret
  exact⟨rfl,rfl⟩
end
theorem jO.rY{s:List Nat}(T:jO s.length (sg s)){r:Nat}(hr:r<s.length):jg (sg (dS s)) r=[r,fc (sg s) r,fc (sg s) (fc (sg s) r)]:=by
 have j:=AJ T.dR T.even;rw[oD]at j;obtain⟨o,-,d,k⟩:=j.dM hr;obtain⟨a,b,c⟩:=T.zG hr;have f:itr (sg (dS s)) 1 r=fc (sg s) r:=wU hr;have i:itr (sg (dS s)) 2 r=fc (sg s) (fc (sg s) r):=by show sg (dS s) (itr (sg (dS s)) 1 r)=_;rw[f];exact wU (T.gD hr)
 have m:itr (sg (dS s)) 3 r=r:=by show sg (dS s) (itr (sg (dS s)) 2 r)=_;rw[i];exact(wU (T.gD (T.gD hr))).trans (T.f3 hr)
 have hp:per (sg (dS s)) r=3:=by
  have t:per (sg (dS s)) r≠1:=fun e=>by rw[e,f]at d;exact a (by rw[d])
  have u:per (sg (dS s)) r≠2:=fun e=>by rw[e,i]at d;exact c (by rw[d])
  rcases Nat.lt_or_ge 3 (per (sg (dS s)) r)with h|h
  ·exact absurd m (k 3 (by omega) h)
  ·omega
 unfold jg;rw[hp];show [itr (sg (dS s)) 0 r,itr (sg (dS s)) 1 r,itr (sg (dS s)) 2 r]=_;rw[f,i];rfl
section
variable {w:World} {b:Nat} {s:List Nat} {root:Int} {l:Nat} {R:Nat->Prop} (h:MapAt w b s root l R)
include h
theorem qd(c:¬kK s l):Calls Tryz.prog 221 #[.pointer (some ⟨b,0,none⟩)] w fun e w'=>e=.returned (.tuple #[.slice none 0 0,.int .i64 8])/\fO w b s root l R w':=by
 have a:=NZ h;clear h;go_enter Tryz.func221,Tryz.ntmps221;go_wp2_with fail;refine a.mono ?_;rintro e w1 ⟨t,rfl,ht,hq⟩
 obtain rfl:t=false:=by
  cases t
  ·rfl
  ·exact absurd (ht.1 rfl) c
 clear a ht;have d:=dh hq;clear hq;go_wp2;go_ret2;exact⟨rfl,d.out⟩
theorem OB(M:kK s l){r:Nat}(C:root=(r:Int))(hr:r<s.length) :
  Calls Tryz.prog 221 #[.pointer (some ⟨b,0,none⟩)] w fun e w'=>∃v,e=.returned (.tuple #[v,.int .i64 0])/\dH w.heap.size w' v (dD [vnum (sg s) r,vnum (sg s) (fc (sg s) r),vnum (sg s) (fc (sg s) (fc (sg s) r))]) /\
   fO w b s root l R w'/\Told w' b:=by
 have T:=(M.CB h.dR h.even).2.2;have hE:=NZ h;have d:=T.rY hr;have D:=T.gD hr;have E:=T.gD (T.gD hr);have Y:=dh h;have HA:Hid (∀W,fO w b s root l R W->MapAt W b s root l (grow R w W)):=dh (fun W hq=>hq.1);have av:=h.le;obtain⟨H,N⟩:∃H,H=r:=⟨_,rfl⟩
 obtain⟨z,O⟩:∃z,z=fc (sg s) r:=⟨_,rfl⟩
 obtain⟨I,Q⟩:∃I,I=fc (sg s) (fc (sg s) r):=⟨_,rfl⟩
 have v0:=xY T.dR hr;have v1:=xY T.dR D;have v2:=xY T.dR E;rw[<-Q,<-O]at d ⊢;rw[<-Q]at v2 E;rw[<-O]at v1 D;rw[<-N]at hr v0 ⊢;have aa:jg (sg (dS s)) r=[H,z,I]:=by rw[d,N]
 have HB:Hid (∀W,fO w b s root l R W->Calls Tryz.prog 160 #[.pointer (some ⟨b,0,none⟩),.int .i64 r] W fun e w'=>∃v,e=.returned v/\dH W.heap.size w' v (dD [H,z,I])/\Keeps (fun _=>False) W w') :=
  dh (fun W hq=>by rw[<-aa];exact Jq hq.1 r (by omega))
 have HR:Hid (∀W,fO w b s root l R W->Calls Tryz.prog 121 #[.pointer (some ⟨b,0,none⟩)] W fun e w'=>e=.returned (.int .i64 r)/\W=w'):=dh (fun W hq=>by have:=Dl hq.1;rw[C]at this;exact this);clear h T d N O Q aa C;have HT:=dh M;clear M;go_enter Tryz.func221,Tryz.ntmps221;go_wp2_with fail;refine hE.mono ?_;rintro e w1 ⟨t,rfl,ht,hq⟩;obtain rfl:t=true:=ht.2 HT.out;clear hE ht;go_wp2_with fail;refine(HR.out w1 hq).mono ?_;rintro e w' ⟨rfl,rfl⟩;go_wp2_with fail;refine(HB.out w1 hq).mono ?_;have ab:=hq.2;rintro e a ⟨v,rfl,c,Z⟩;obtain⟨va,vc,rfl,-,-⟩:=c.form;obtain⟨vg,rfl⟩:=oU c (Nat.zero_lt_succ 2);have J:fO w b s root l R a:=hq.trans Y.out (gU.two (hq.1.still Z));have ad:MV a b s root l (grow R w a) (fun x=>(Value.slice none 0 0).ownBlock=some x) a:=(HA.out a J).mv.fresh (Keeps.refl _ _) (fun x A=>by cases A);have aw:w.heap.size<=a.heap.size:=J.2.size;have HS:Hid (∀W,Keeps (fun k=>k=b) a W->Sl .i64 W (.slice (some ⟨vg,0,none⟩) 3 vc) (dD [H,z,I])):=dh (fun W Z=>by have hb:=Y.out.lt;exact(c.keeps Z (fun q hq e=>by have:=(c.lt q hq).1;have:=ab.size;omega)).sl)
 have ae:Hid (∀wr v3,MV a b s root l (grow R w a) (fun x=>v3.ownBlock=some x) wr->Told wr b->dH a.heap.size wr v3 (dD ([H,z,I].map (vnum (sg s))))->dH w.heap.size wr v3 (dD [vnum (sg s) H,vnum (sg s) z,vnum (sg s) I])/\fO w b s root l R wr/\Told wr b) :=
  dh (fun wr v3 hm ht d=>⟨d.mono (fun q hq=>by have:=(d.lt q hq).1;omega),J.trans Y.out (hm.all.two),ht⟩)
 clear c Z J hq ab HA HB HR;obtain⟨f,F⟩:∃f,f=[H,z,I]:=⟨_,rfl⟩
 have af:f.length=3:=by rw[F];rfl
 have HL:Hid (∀x ∈ f,x<s.length):=dh (fun x A=>by rw[F]at A;simp only [List.mem_cons,List.not_mem_nil,or_false]at A;rcases A with rfl|rfl|rfl <;> assumption);rw[show (dD [H,z,I]).length=3 from rfl];rw[<-F]at HS ae;have S:=dh (dn F af);clear F af hr D E v0 v1 v2;go_wp2_with fail;go_loopg [4,19] 3 (fun m ov i wr=>∃j:Nat,j<=3/\m=3 - j/\i=.int .i64 j/\dH a.heap.size wr ov (dD ((f.take j).map (vnum (sg s))))/\MV a b s root l (grow R w a) (fun x=>ov.ownBlock=some x) wr/\(0<j->Told wr b))
 case atStart=>exact⟨0,Nat.zero_le _,rfl,rfl,dH.nil _ _,ad,fun h=>absurd h (by omega)⟩
 case round =>
  clear ad;obtain⟨j,hj,ag,rfl,d,hV,M⟩:=hrel;have HG:=dh ag;clear ag;by_cases an:j<3
  ·obtain⟨y,hy⟩:∃y,f[j]? = some y:=⟨_,List.getElem?_eq_getElem (by rw[S.out.2];exact an)⟩
   have ah:=HL.out y (List.mem_of_getElem? hy);obtain⟨g,off,hg,ao⟩:=(HS.out wr hV.fJ).cellAt (jA hy);obtain⟨rfl,rfl⟩:vg=g/\0=off:=by simpa using hg
   rw[Nat.zero_add]at ao;have hX:=hV.AP ah;have ap:vnum (sg s) y<=1000000:=by have:=xY Y.out.dR ah;omega
   obtain⟨x,A⟩:∃x,x=vnum (sg s) y:=⟨_,rfl⟩
   have HX:Hid ((f.take (j+1)).map (vnum (sg s))=(f.take j).map (vnum (sg s)) ++ [x]):=dh (by rw[oW hy,List.map_append,A];rfl);rw[<-A]at hX ap;have G:((f.take j).map (vnum (sg s))).length=j:=by rw[List.length_map,List.length_take,S.out.2];omega
   obtain⟨oa,oc,rfl,aq,-⟩:=d.form;rw[q01,G]at d hX aq ⊢;have ar:Hid (∀w',Keeps (fun k=>k=b) wr w'->dH a.heap.size w' (.slice oa j oc) (dD ((f.take j).map (vnum (sg s))))):=dh (fun w' Z=>d.keeps Z (fun q hq e=>by have:=(d.lt q hq).1;have:=Y.out.lt;omega));have au:=hV.fJ.size;clear A hy hg d hV M;go_wp2_with fail;refine hX.mono ?_;rintro e w3 ⟨rfl,U,ai,aj⟩;have o:=ar.out w3 aj;have ak:a.heap.size<=w3.heap.size:=U.fJ.size;have al:(dD ((f.take j).map (vnum (sg s)))).length=j:=by rw[q01,G]
   have HN:=dh al;clear hX G al;go_wp2_with (at_builtin;refine FE rfl _ _ rfl a.heap.size (.slice oa j oc) (dD ((f.take j).map (vnum (sg s)))) (x:Nat) _ rfl rfl rfl o (by rw[HN.out];omega) ak ?_;rw[HN.out];intro g2 K w4 u X am hg)
   have HF:Hid (dH a.heap.size w4 (.slice (some ⟨g2,0,none⟩) (j+1) K) (dD ((f.take (j+1)).map (vnum (sg s))))/\MV a b s root l (grow R w a) (fun x=>(Value.slice (some ⟨g2,0,none⟩) (j+1) K).ownBlock=some x) w4/\Told w4 b):=dh (by
    refine⟨by rw[HX.out,tV];exact u,U.own X (fun x A=>?_),ai.keeps X (fun e=>?_)⟩
    ·simp only [Value.ownBlock,Option.some.injEq]at A;subst A;rcases am with z|z
     ·exact .inl z
     ·exact .inr ⟨z,(u.lt _ rfl).2⟩
    ·have:=(o.lt _ e).1;have:=Y.out.lt;omega)
   clear u X am hg U ai aj o;go_wp2;go_roundg (3 - (j+1))
   case measure=>rw[HG.out];omega
   case rel=>exact⟨j+1,by omega,rfl,by go_num,HF.out.1,HF.out.2.1,fun _=>HF.out.2.2⟩
  ·obtain rfl:j=3:=by omega
   have e3:f.take 3=f:=List.take_of_length_le (by rw[S.out.2];omega);rw[e3]at d;have HF:=dh (ae.out wr _ hV (M (by omega)) d);clear d hV M e3;go_wp2;go_ret2;exact⟨_,rfl,HF.out⟩
end
end
section
open Go.RowKit
section
variable {w:World} {b:Nat} {s:List Nat} {root lone:Int} {R:Nat->Prop} (h:MapAt w b s root lone R) (ht:Told w b)
include h ht
theorem GK(d:Nat)(r:d<s.length):Calls Tryz.prog 123 #[.pointer (some ⟨b,0,none⟩),.int .i64 d] w fun e w'=>e=.returned (.int .i64 (vnum (sg s) d:Nat))/\w=w':=by
 obtain⟨A,C,sv,D,c,E,t,F,G,H,i,u,v,j,x⟩:=h.ex;have k:w.cell? ⟨b,1,none⟩=some (.int .u32 (if c then 1 else 0)):=dw i 1
 obtain rfl:c=true:=by
  unfold Told at ht;rw[ht]at k;cases c
  ·simp at k
  ·rfl
 have m:=FD ⟨b,1,none⟩ (.func (.func 110) #[.pointer (some ⟨b,0,none⟩)] #[]) w ht;have f:w.cell? ⟨b,4,none⟩=some t:=dw i 4;have a:=j.1;obtain⟨I,oc,rfl,_,_⟩:=j.1.form;rw[q01,List.length_map,List.length_range]at f a;obtain⟨g,off,rfl,y⟩:=a.cellAt (jA (show ((List.range s.length).map (vnum (sg s)))[d]? = some (vnum (sg s) d) by simp[r]));have z:decide ((d:Int)<0)=false:=decide_eq_false (by omega);have c:decide (s.length<=d)=false:=decide_eq_false (by omega);clear h i u v j x k ht a;have o:Calls Tryz.prog 157 #[.pointer (some ⟨b,0,none⟩),.int .i64 d] w fun e w'=>e=.returned (.int .i64 (vnum (sg s) d:Nat))/\w=w':=by go_enter Tryz.func157,Tryz.ntmps157;go_wp2_with fail;refine m.mono ?_;rintro e w1 ⟨rfl,rfl⟩;clear m;go_wp2;go_ret;exact⟨rfl,rfl⟩
 clear m f y z c;go_enter Tryz.func123,Tryz.ntmps123;go_wp2_with fail;refine o.mono ?_;rintro e w1 ⟨rfl,rfl⟩;clear o;go_wp2;go_ret;exact⟨rfl,rfl⟩
end
theorem VD{w:World}{b:Nat}{s:List Nat}{root lone:Int}{R:Nat->Prop}(h:MapAt w b s root lone R)(d:Nat)(K:d<s.length) :
  Calls Tryz.prog 227 #[.pointer (some ⟨b,0,none⟩),.int .i64 d] w fun e w'=>e=.returned (.int .i64 (gq (sg s) d:Nat))/\fO w b s root lone R w'/\Keeps (fun k=>R k) w w':=by
 obtain⟨⟨j,M,sv,N,O,Q,S,T,U,W,t,f,y,z,A,o,C,D,E,m,c⟩,F,X,a3,a4,a5,Y,G⟩:=id h;have c0:w.cell? ⟨b,0,none⟩=some (.pointer (some ⟨j,0,none⟩)):=dw t 0;have u:j≠b:=fun e=>G (e ▸ o);have H:=f.lt;have I:=UO j sv s d R w E f.2.1 f.2.2 F (by omega) K
 have i:∀w',lT w' j sv s (grow R w w')->Keeps (fun k=>k=j) w w'->fO w b s root lone R w'/\Keeps (fun k=>R k) w w':=fun w' ht a=>by
  refine⟨?_,a.mono (fun x _ e=>e ▸ o)⟩
  have v:PermAt w' j sv s:=by
   refine⟨?_,f.2.1.keeps a (fun q hq e=>(f.2.2 q hq).1 e),fun q hq=>⟨(f.2.2 q hq).1,Nat.lt_of_lt_of_le (f.2.2 q hq).2 a.size⟩⟩;rcases ht with ht|⟨g,ht,_⟩
   ·exact⟨_,_,_,_,ht⟩
   ·exact⟨_,_,_,_,ht⟩
  refine⟨⟨⟨j,M,sv,N,O,Q,S,T,U,W,a.at t (fun e=>u e.symm),v,y.keeps a m (fun q hq=>c q (.inl hq)),z.keeps a (fun q hq=>c q (by rcases hq with e|e;exact .inr (.inl e);exact .inr (.inr (.inl e)))),A.keeps a (fun q hq=>c q (by rcases hq with e|e;exact .inr (.inr (.inr (.inl e)));exact .inr (.inr (.inr (.inr e))))),
   .inl o,.inl C,fun q hq=>.inl (D q hq),ht,m,c⟩,F,X,a3,a4,a5,CX Y a.size,fun r=>?_⟩,a.mono (fun x _ e=>.inr (e ▸ o))⟩
  have:=h.lt;rcases r with r|r
  ·exact G r
  ·omega
 have J:=dh (dn I i);clear h t f y z A o C D E m c I i;go_enter Tryz.func227,Tryz.ntmps227;go_wp2_with fail;refine J.out.1.mono ?_;rintro e w1 ⟨rfl,ht,a⟩;have Z:=dh (J.out.2 w1 ht a);clear ht a;go_wp2;go_ret;exact⟨rfl,Z.out⟩
end
section
open Go.RowKit
noncomputable def qV(S:Nat->Nat)(e m:Nat):List Nat:=(List.range m).map fun t=>vnum S (mt (itr S (t+1) e))
theorem JI(S:Nat->Nat)(e m:Nat):(qV S e m).length=m:=by simp[qV]
theorem VE(S:Nat->Nat)(e m:Nat):qV S e (m+1)=qV S e m ++ [vnum S (mt (itr S (m+1) e))]:=by unfold qV;rw[List.range_succ,List.map_append];rfl
section
variable {w:World} {b:Nat} {s:List Nat} {root lone:Int} {R:Nat->Prop} (h:MapAt w b s root lone R)
variable {bx V:Nat} {bv:Value} {gg gd:Nat} {bs ds:List Nat} {P:Nat->Prop} (L:mP w bx b V bv gg gd bs ds P)
include h L
theorem VF(k f u v z d e M:Nat)(ab:f=k+1)(hu:bs[k]? = some u)(hv:bs[f]? = some v)(hz:bs[f+1]? = some z)(ha:ds[v]? = some d)(hd:d<s.length)(ad:toD (sg s) (jg (sg s) d) u=(e:Int))(he:e<s.length)(hM:1<=M)
  (ae:vnum (sg s) (mt (itr (sg s) M e))=z)(af:∀t,1<=t->t<M->vnum (sg s) (mt (itr (sg s) t e))≠z)(aB:M<=1000000)(av:bs.length<=1000000) :
  Calls Tryz.prog 224 #[.pointer (some ⟨bx,0,none⟩),.int .i64 (f:Nat)] w fun o w'=>∃ag,o=.returned ag/\dH w.heap.size w' ag (dD (qV (sg s) e (M - 1)))/\fq w b s root lone R w':=by
 have T:f+1<bs.length:=gX hz;obtain⟨J,U⟩:∃J,J=f+1:=⟨_,rfl⟩
 rw[<-U]at hz T;have HL:Hid (∀W,Keeps (fun k=>k=b) w W->mP W bx b V bv gg gd bs ds P):=dh (fun W hq=>L.mU hq (fun _ h=>h));obtain⟨ba,bc,rfl,ah,-⟩:=L.tF.form;rw[q01]at HL L ah;obtain⟨C,rfl⟩:=oU L.tF (by rw[q01];omega)
 have i:Hid (∀W,Keeps (fun k=>k=b) w W->W.cell? ⟨bx,0,none⟩=some (.pointer (some ⟨b,0,none⟩))/\W.cell? ⟨bx,1,none⟩=some (.slice (some ⟨C,0,none⟩) bs.length bc)/\W.cell? ⟨C,k,none⟩=some (.int .i64 (u:Nat))/\W.cell? ⟨C,f,none⟩=some (.int .i64 (v:Nat))/\W.cell? ⟨C,J,none⟩=some (.int .i64 (z:Nat))) :=
  dh (fun W hq=>by have L':=HL.out W hq;exact⟨L'.c0,L'.c1,(L'.tF.cell (jA hu)).1,(L'.tF.cell (jA hv)).1,(L'.tF.cell (jA hz)).1⟩)
 have HT:Hid (∀W,fq w b s root lone R W->Calls Tryz.prog 261 #[.pointer (some ⟨bx,0,none⟩),.int .i64 v,.int .i64 u] W fun o w'=>o=.returned (.int .i64 (e:Nat))/\fq w b s root lone R w') :=
  dh (fun W hq=>(Va hq.1 (HL.out W hq.2) v u d ha hd).mono (fun _ _ ⟨D,e2⟩=>⟨by rw[D,ad],h.rX hq e2⟩))
 have HS:Hid (∀W,fq w b s root lone R W->Calls Tryz.prog 125 #[.pointer (some ⟨b,0,none⟩),.int .i64 e] W fun o w'=>o=.returned (.int .i64 (sg s e:Nat))/\W=w'):=dh (fun W hq=>MapAt.U8 hq he);have HH:=dh h;have HP:=dh (dn h.dR (dn h.even h.le));have X:=h.uY;have Y:=h.xZ X;have ai:=dh (dn ae af);have aw:IntKind.i64.wrap ((f:Int) - 1)=(k:Int):=by rw[show (f:Int) - 1=(k:Int) by omega];exact IntWalk.i64_in _ (by omega)
 have aC:IntKind.i64.wrap ((f:Int)+1)=(J:Int):=by rw[show (f:Int)+1=(J:Int) by omega];exact IntWalk.i64_in _ (by omega)
 obtain⟨N,hN⟩:∃N,N=bs.length:=⟨_,rfl⟩
 rw[<-hN]at HL i ah av T;have b1:k<N:=by omega
 have b2:f<N:=by omega
 have b3:J<N:=by omega
 have b4:(k:Int)<(N:Int):=by omega
 have b5:(f:Int)<(N:Int):=by omega
 have b6:(J:Int)<(N:Int):=by omega
 have aD:=dh (dn ab (dn U hN));clear ab U hN T;clear h L ha hu hv hz ad ae af;go_enter Tryz.func224,Tryz.ntmps224;go_wp2_with fail;go_region_held3 (fun w'=>w'.cell? ⟨bx,0,none⟩=some (.pointer (some ⟨b,0,none⟩))/\w'.cell? ⟨bx,1,none⟩=some (.slice (some ⟨C,0,none⟩) N bc)/\w'.cell? ⟨C,k,none⟩=some (.int .i64 (u:Nat))/\w'.cell? ⟨C,f,none⟩=some (.int .i64 (v:Nat))/\w'.cell? ⟨C,J,none⟩=some (.int .i64 (z:Nat))) (first|exact i.out _ (Keeps.refl _ _)|exact i.out _ Y.2|exact i.out _ a.2) (first | (go_at_call 261;refine(HT.out _ (by first|exact X|exact Y)).mono ?_;rintro o w1 ⟨rfl,a⟩) | (go_at_call 125;refine(HS.out _ (by first|exact a)).mono ?_;rintro o w' ⟨rfl,rfl⟩));have aj:MV w b s root lone R (fun x=>(Value.slice none 0 0).ownBlock=some x) w1:=by have hq:=HH.out;refine⟨⟨_,a.1,fun x A=>A,fun x A=>(by cases A)⟩,fun x A=>(by cases A),hq.lt,hq.old,hq.kC,a.2,a.3⟩
 have ak:dH w.heap.size w1 (.slice none 0 0) (dD (qV (sg s) e 0)):=dH.nil _ _;clear a X Y aw;go_wp2_with fail;go_loopg [5,6] (M - 1) (fun m ov x wr=>∃t:Nat,t+1<=M/\m=M - 1 - t/\x=.int .i64 (itr (sg s) (t+1) e:Nat)/\dH w.heap.size wr ov (dD (qV (sg s) e t))/\MV w b s root lone R (fun x=>ov.ownBlock=some x) wr)
 case atStart=>exact⟨0,hM,rfl,rfl,ak,aj⟩
 case round =>
  clear ak aj;obtain⟨t,ht,al,rfl,r,Z⟩:=hrel;have HG:=dh al;clear al;obtain⟨y,hy⟩:∃y,y=itr (sg s) (t+1) e:=⟨_,rfl⟩
  have aa:y<s.length:=by rw[hy];exact HP.out.1.dW he _
  have am:=dQ HP.out.2.1 aa;have E:=Z.drew;obtain⟨x,A⟩:∃x,x=vnum (sg s) (mt y):=⟨_,rfl⟩
  have aE:x<=1000000:=by have:=xY HP.out.1 am;have:=HP.out.2.2;omega
  obtain⟨Q,oc,rfl,ax,-⟩:=r.form;rw[q01,JI]at r Z E ax ⊢;have HM:Hid (∀W,MV w b s root lone R (fun x=>(Value.slice Q t oc).ownBlock=some x) W->Calls Tryz.prog 77 #[.pointer (some ⟨b,0,none⟩),.int .i64 y] W fun e w'=>e=.returned (.int .i64 (mt y:Nat))/\W=w'):=dh (fun W hq=>hq.mate aa);have HX:Hid (∀W,MV w b s root lone R (fun x=>(Value.slice Q t oc).ownBlock=some x) W->Calls Tryz.prog 123 #[.pointer (some ⟨b,0,none⟩),.int .i64 (mt y:Nat)] W fun e w'=>e=.returned (.int .i64 (x:Nat))/\MV w b s root lone R (fun x=>(Value.slice Q t oc).ownBlock=some x) w'/\Keeps (fun k=>k=b) W w'):=dh (fun W hq=>by rw[A];exact hq.dG am);have ay:Hid (∀W M',MV w b s root lone R M' W->Calls Tryz.prog 125 #[.pointer (some ⟨b,0,none⟩),.int .i64 y] W fun o w'=>o=.returned (.int .i64 (itr (sg s) (t+1+1) e:Nat))/\W=w'):=dh (fun W M' hq=>by rw[show itr (sg s) (t+1+1) e=sg s y by rw[hy];rfl];exact hq.sigma aa);have HO:Hid (∀W W',dH w.heap.size W (.slice Q t oc) (dD (qV (sg s) e t))->Keeps (fun k=>k=b) W W'->dH w.heap.size W' (.slice Q t oc) (dD (qV (sg s) e t))):=dh (fun W W' ho hk=>ho.keeps hk (fun q hq e=>by have:=(ho.lt q hq).1;have:=HH.out.lt;omega))
  have HY:Hid (x=z↔t+1=M):=dh (by
   rw[A,hy];constructor
   ·intro D;apply Classical.byContradiction;intro e2;exact ai.out.2 (t+1) (by omega) (by omega) D
   ·intro D;rw[D];exact ai.out.1)
  have az:Hid (x=vnum (sg s) (mt (itr (sg s) (t+1) e))):=dh (by rw[A,hy]);rw[<-hy];clear A hy;obtain⟨d0,d1,-,-,d2⟩:=i.out wr Z.fJ;have aA:t<=10000000000:=by omega
  go_wp2_with fail
  go_region_held3 (fun w'=>w'.cell? ⟨bx,0,none⟩=some (.pointer (some ⟨b,0,none⟩))/\w'.cell? ⟨bx,1,none⟩=some (.slice (some ⟨C,0,none⟩) N bc)/\w'.cell? ⟨C,k,none⟩=some (.int .i64 (u:Nat))/\w'.cell? ⟨C,f,none⟩=some (.int .i64 (v:Nat))/\w'.cell? ⟨C,J,none⟩=some (.int .i64 (z:Nat))) (first|exact i.out _ Z.fJ|exact i.out _ E.fJ|exact i.out _ a.fJ) (first | (go_at_call 77;refine(HM.out _ (by first|exact Z|exact E)).mono ?_;rintro o w' ⟨rfl,rfl⟩) | (go_at_call 123;refine(HX.out _ (by first|exact Z|exact E)).mono ?_;rintro o w2 ⟨rfl,a,an⟩))
  have c:dH w.heap.size w2 (.slice Q t oc) (dD (qV (sg s) e t)):=HO.out wr.drew w2 r an;clear Z E r an d0 d1 d2;by_cases ao:t+1=M
  ·have K:=HY.out.2 ao;have tz:((x:Int) != (z:Int))=false:=by rw[K];exact bne_self_eq_false _
   have e3:dH w.heap.size w2 (.slice Q t oc) (dD (qV (sg s) e (M - 1))):=by rw[show M - 1=t by omega];exact c
   have HF:=dh (dn e3 a.all);clear c a K e3;go_wp2;go_ret;exact⟨_,rfl,HF.out⟩
  ·have K:x≠z:=fun D=>ao (HY.out.1 D);have tz:((x:Int) != (z:Int))=true:=by rw[bne_iff_ne];omega
   obtain⟨d0,-⟩:=i.out w2 a.fJ;have O:=a.drew;have HN:Hid ((dD (qV (sg s) e t)).length=t):=dh (by rw[q01,JI]);clear K;go_wp2_with fail;go_region_held3 (fun w'=>w'.cell? ⟨bx,0,none⟩=some (.pointer (some ⟨b,0,none⟩))) (first|exact(i.out _ a.fJ).1|exact(i.out _ O.fJ).1|exact(i.out _ F.fJ).1|exact(i.out _ (F.fJ.alloc _)).1|exact(i.out _ G.fJ).1) (first | (go_at_call 77;refine(HM.out _ (by first|exact a|exact O)).mono ?_;rintro o w' ⟨rfl,rfl⟩) | (go_at_call 123;refine(HX.out _ (by first|exact a|exact O)).mono ?_;rintro o w3 ⟨rfl,F,ap⟩;have H:=HO.out w2.drew w3 c ap;have aq:w.heap.size<=w3.heap.size:=F.fJ.size) | ((refine QX t (by rfl) (.tmp 55) (.tmp 67) (by rfl) w.heap.size (.slice Q t oc) (dD (qV (sg s) e t)) (x:Nat) HN w3.heap.size rfl (by simp[Act.eval]) (by simp[Act.eval]) H aA aq ?_;intro g2 S w4 j ar au hg;have G:MV w b s root lone R (fun x=>(Value.slice (some ⟨g2,0,none⟩) (t+1) S).ownBlock=some x) w4:=F.own ar (fun x A=>by simp only [Value.ownBlock,Option.some.injEq]at A;subst A;rcases au with D|D;exact .inl D;exact .inr ⟨D,(j.lt _ rfl).2⟩))));have I:dH w.heap.size w4 (.slice (some ⟨g2,0,none⟩) (t+1) S) (dD (qV (sg s) e (t+1))):=by rw[VE,tV,<-az.out];exact j
   have hS:=ay.out w4 _ G;obtain⟨d0,-⟩:=i.out w4 G.fJ;have HF:=dh (dn I G);clear I G j H c ar au a F O ap;go_wp2_with fail;refine hS.mono ?_;rintro o w' ⟨rfl,rfl⟩;go_wp2;go_roundg (M - 1 - (t+1))
   case measure=>rw[HG.out];omega
   case rel=>exact⟨t+1,by omega,rfl,rfl,HF.out⟩
end
end
section
open Go.RowKit
theorem VG:(Tryz.prog.info? 217).map (fun i=>(i.zero,i.size,i.bytes))=some (some (.agg #[.int .i64 0,.int .i64 0]),2,16):=by kernel_rfl
def pY(ps:List (Int × Int)):List Value:=ps.flatMap fun p=>[.int .i64 p.1,.int .i64 p.2]
theorem E5:∀ps:List (Int × Int),(pY ps).length=ps.length * 2
 | []=>rfl
 | p :: ps=>by simp only [pY,List.flatMap_cons,List.length_append,List.length_cons,List.length_nil]at *;have:=E5 ps;simp only [pY]at this;omega
theorem OC(ps a:List (Int × Int)):pY (ps ++ a)=pY ps ++ pY a:=by simp[pY]
theorem OD:∀{ps:List (Int × Int)} {k:Nat} {p:Int × Int},ps[k]? = some p->(pY ps)[k * 2]? = some (.int .i64 p.1)/\(pY ps)[k * 2+1]? = some (.int .i64 p.2)
 | [],k,p,h=>by simp at h
 | q :: ps,0,p,h=>by simp only [List.getElem?_cons_zero,Option.some.injEq]at h;subst h;exact⟨rfl,rfl⟩
 | q :: ps,k+1,p,h=>by have:=OD (ps:=ps) (k:=k) (p:=p) (by simpa using h);have e:pY (q :: ps)=.int .i64 q.1 :: .int .i64 q.2 :: pY ps:=rfl;rw[e,show (k+1) * 2=k * 2+1+1 by omega];simpa using this
theorem JJ:∀{ps:List (Int × Int)} {k:Nat} {p:Int × Int} (z:Int),ps[k]? = some p->(pY ps).set (k * 2) (.int .i64 z)=pY (ps.set k (z,p.2))/\(pY ps).set (k * 2+1) (.int .i64 z)=pY (ps.set k (p.1,z))
 | [],k,p,z,h=>by simp at h
 | q :: ps,0,p,z,h=>by simp only [List.getElem?_cons_zero,Option.some.injEq]at h;subst h;exact⟨rfl,rfl⟩
 | q :: ps,k+1,p,z,h=>by obtain⟨a,c⟩:=JJ (ps:=ps) (k:=k) (p:=p) z (by simpa using h);have e:∀l:List (Int × Int),pY (q :: l)=.int .i64 q.1 :: .int .i64 q.2 :: pY l:=fun _=>rfl;rw[List.set_cons_succ,List.set_cons_succ,e,e,e,show (k+1) * 2=k * 2+1+1 by omega];simp only [List.set_cons_succ];rw[a,c];exact⟨rfl,rfl⟩
def gB(B:Nat)(w:World)(v:Value)(ps:List (Int × Int)):Prop:=w.ownsRow B 217 2 v ps.length (pY ps)
theorem gB.keeps{B:Nat}{w w':World}{v:Value}{ps:List (Int × Int)}{F:Nat->Prop}(h:gB B w v ps)(k:Keeps F w w')(a:∀b,v.ownBlock=some b->¬F b):gB B w' v ps:=k.owns h a
theorem gB.lt{B:Nat}{w:World}{v:Value}{ps:List (Int × Int)}(h:gB B w v ps):∀k,v.ownBlock=some k->B<=k/\k<w.heap.size:=World.ownsRow.lt h
theorem gB.made(w:World)(x y:Int):gB w.heap.size (w.alloc (.cells #[.int .i64 x,.int .i64 y] 217)) (.slice (some ⟨w.heap.size,0,none⟩) 1 1) [(x,y)] :=
 ⟨rfl,.inr ⟨w.heap.size,1,_,rfl,Nat.le_refl _,heap_alloc_new w _,Nat.le_refl _,by unfold maxLen;omega,rfl,rfl⟩⟩
theorem gB.isS{B:Nat}{w:World}{v:Value}{ps:List (Int × Int)}(h:gB B w v ps)(j:0<ps.length):∃g cap,v=.slice (some ⟨g,0,none⟩) ps.length cap/\ps.length<=cap:=by
 rcases h.2 with⟨e,k⟩|⟨a,c,d,f,m,o,i,r,t,u⟩
 ·omega
 ·exact⟨a,c,f,i⟩
theorem gB.VH{B:Nat}{w:World}{v:Value}(h:gB B w v []):∃a cap,v=.slice a 0 cap:=by
 rcases h.2 with⟨e,f⟩|⟨i,j,c,d,k,m,o,r,t,u⟩
 ·exact⟨_,_,e⟩
 ·exact⟨_,_,d⟩
section
variable {B g n cap:Nat} {w:World} {ps:List (Int × Int)} (h:gB B w (.slice (some ⟨g,0,none⟩) n cap) ps)
include h
theorem gB.raw(o:0<ps.length):∃cur:Array Value,w.heap[g]? = some (.cells cur 217 (0,0))/\n=ps.length/\n<=cap/\cap<=maxLen/\cur.size=cap * 2/\cur.toList.take (n * 2)=pY ps/\B<=g:=by
 rcases h.2 with⟨e,r⟩|⟨t,u,a,c,d,f,i,j,k,m⟩
 ·omega
 ·simp only [Value.slice.injEq,Option.some.injEq,Addr.mk.injEq,and_true]at c;obtain⟨rfl,rfl,rfl⟩:=c;exact⟨a,f,rfl,i,j,k,m,d⟩
theorem gB.cell{k:Nat}{p:Int × Int}(hp:ps[k]? = some p):w.cell? ⟨g,k * 2,none⟩=some (.int .i64 p.1)/\w.cell? ⟨g,k * 2+1,none⟩=some (.int .i64 p.2)/\w.frozen? ⟨g,k * 2,none⟩=false/\w.frozen? ⟨g,k * 2+1,none⟩=false:=by
 have i:k<ps.length:=by
  rcases Nat.lt_or_ge k ps.length with e|e
  ·exact e
  ·rw[List.getElem?_eq_none e]at hp;cases hp
 obtain⟨cur,a,j,m,o,r,f,-⟩:=h.raw (by omega);obtain⟨c,d⟩:=OD hp;rw[<-f]at c d;rw[List.getElem?_take_of_lt (by omega)]at c d;refine⟨?_,?_,dx a _,dx a _⟩
 ·rw[dw a,<-c];simp
 ·rw[dw a,<-d];simp
theorem gB.set1{k:Nat}{p:Int × Int}(hp:ps[k]? = some p)(z:Int):gB B (w.setCell ⟨g,k * 2,none⟩ (.int .i64 z)) (.slice (some ⟨g,0,none⟩) n cap) (ps.set k (z,p.2)):=by
 have m:k<ps.length:=by
  rcases Nat.lt_or_ge k ps.length with e|e
  ·exact e
  ·rw[List.getElem?_eq_none e]at hp;cases hp
 obtain⟨cur,c,a,o,d,f,i,j⟩:=h.raw (by omega);refine⟨E5 _,.inr ⟨g,cap,_,by rw[List.length_set,a],j,jM c _ _,by rw[List.length_set];omega,d,by rw[Array.size_setIfInBounds];exact f,?_⟩⟩;rw[Array.toList_setIfInBounds,List.length_set,List.take_set,<-a,i,(JJ z hp).1]
theorem gB.set2{k:Nat}{p:Int × Int}(hp:ps[k]? = some p)(z:Int):gB B (w.setCell ⟨g,k * 2+1,none⟩ (.int .i64 z)) (.slice (some ⟨g,0,none⟩) n cap) (ps.set k (p.1,z)):=by
 have m:k<ps.length:=by
  rcases Nat.lt_or_ge k ps.length with e|e
  ·exact e
  ·rw[List.getElem?_eq_none e]at hp;cases hp
 obtain⟨cur,c,a,o,d,f,i,j⟩:=h.raw (by omega);refine⟨E5 _,.inr ⟨g,cap,_,by rw[List.length_set,a],j,jM c _ _,by rw[List.length_set];omega,d,by rw[Array.size_setIfInBounds];exact f,?_⟩⟩;rw[Array.toList_setIfInBounds,List.length_set,List.take_set,<-a,i,(JJ z hp).2]
theorem gB.take(c:0<ps.length)(m:Nat)(o:m<=ps.length):gB B w (.slice (some ⟨g,0,none⟩) m cap) (ps.take m):=by
 obtain⟨cur,d,r,t,f,i,j,k⟩:=h.raw c;have a:(ps.take m).length=m:=by rw[List.length_take];omega
 refine⟨E5 _,.inr ⟨g,cap,cur,by rw[a],k,d,by rw[a];omega,f,i,?_⟩⟩;rw[a];have e:pY ps=pY (ps.take m) ++ pY (ps.drop m):=by rw[<-OC,List.take_append_drop]
 have:cur.toList.take (m * 2)=(pY ps).take (m * 2):=by rw[<-j,List.take_take,Nat.min_eq_left (by omega)]
 rw[this,e,List.take_left' (by rw[E5,a])]
end
theorem VI(w:World)(x y:Int):∀(j:Nat) (u:Value),[Value.int .i64 x,.int .i64 y][j]? = some u->(w.alloc (.cells #[.int .i64 x,.int .i64 y] 217)).cell? ((⟨w.heap.size,0,none⟩:Addr).add j)=some u:=fun j u a=>by rw[Addr.add_lit,dw (heap_alloc_new w _),Nat.zero_add,<-a];rcases j with _|_|j <;> rfl
theorem VJ{e:Array Oper}{rest:List Oper}{o:Oper}{a:Act}{Q:Exit->Act->World->Prop}{wr:World}(n:Nat)(j:o.guard=none)(s x:Operand)
  (F:o.op=.call { callee:=.builtin .append,args:=#[s,x],argTypes:=#[252,252] })(B:Nat)(v:Value)(ps:List (Int × Int))(m r:Int)(t:Hid (ps.length=n))(H:Nat)(G:wr.heap.size=H)(I:a.eval s=v)(J:a.eval x=.slice (some ⟨H,0,none⟩) 1 1)
  (f:gB B wr v ps)(D:n<=100000000)(N:B<=wr.heap.size)
  (h:∀g cap w',gB B w' (.slice (some ⟨g,0,none⟩) (n+1) cap) (ps ++ [(m,r)])->Keeps (fun k=>v.ownBlock=some k) wr w'->(v.ownBlock=some g\/wr.heap.size<=g) ->
   wpList Tryz.prog e Q rest (a.put o.dst (.slice (some ⟨g,0,none⟩) (n+1) cap)) w') :
  wpList Tryz.prog e Q (o :: rest) a (wr.alloc (.cells #[.int .i64 m,.int .i64 r] 217)):=by
 obtain⟨i,K,y,z,A⟩:=info_parts VG;have t:=t.out;subst t;subst G;refine wpList_append_lies _ j s x _ F B 217 i _ 2 16 Tryz.underlying252 K y z A rfl (by decide) v ps.length _ I (World.ownsRow.alloc f _) ⟨wr.heap.size,0,none⟩ 1 1 [.int .i64 m,.int .i64 r] J rfl (VI _ _ _) ?_ (by decide) ?_ ?_ ?_ (wr.heap.size+1) (by simp) ?_
 ·intro u E;simp at E;rcases E with rfl|rfl <;> rfl
 ·unfold maxLen;omega
 ·omega
 ·simp;omega
 ·intro g cap w1 c d C _;refine h g cap w1 ?_ (((Keeps.refl _ wr).alloc _).grown d (fun k M=>.inl M)) (C.imp id (fun h=>by omega));unfold gB;rw[List.length_append,OC];exact c
end
