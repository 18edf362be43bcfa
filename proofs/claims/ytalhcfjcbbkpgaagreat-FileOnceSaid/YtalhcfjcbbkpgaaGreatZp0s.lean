import Derived.Test.YtalhcfjcbbkpgaaGreatZp0r
set_option maxRecDepth 100000
set_option maxHeartbeats 4000000
namespace Go.Proofs.YtalhcfjcbbkpgaaGreat
section
theorem NU:∀(l:List Int),(∀x ∈ l,0<=x)->0<=l.sum/\∀x ∈ l,x<=l.sum
 | [],_=>⟨by simp,fun x c=>by simp at c⟩
 | a :: l,h=>by
  obtain⟨e,d⟩:=NU l (fun x c=>h x (by simp[c]));have f:=h a (by simp);rw[List.sum_cons];refine⟨by omega,fun x c=>?_⟩;rcases List.mem_cons.1 c with rfl|c
  ·omega
  ·have:=d x c;omega
section
variable {s:List Nat} (h:dO s.length (sg s)) (he:s.length % 2=0)
include h he
open Classical in
theorem NV{r:Nat}(hr:r<s.length)(l:List Nat):qB l (kS s) (eP s.length (sg s) r) s.length=((List.range s.length).filter fun x=>rep (sg l) x == x && decide (dI s.length (sg s) r x)).length:=by
 unfold qB;congr 1;refine List.filter_congr (fun x a=>?_);have a:=List.mem_range.1 a;rw[Aq a];congr 1;by_cases c:dI s.length (sg s) r x
 ·rw[decide_eq_true c,(h.iT he hr a).2 c];simp
 ·rw[decide_eq_false c,beq_eq_false_iff_ne];exact fun e=>c ((h.iT he hr a).1 e.symm)
theorem UZ{r T:Nat}{D:Nat->Nat}{ks:List Nat}(hr:r<s.length)(k:BR s.length (sg s) r T D ks):oF (kS s) (eP s.length (sg s) r) s.length=T:=by
 have:=vI (l:=(List.range s.length).filter fun d=>sg (kS s) d == eP s.length (sg s) r) (m:=(List.range T).map D) (List.Pairwise.filter _ List.nodup_range) (by
  rw[List.Nodup,List.pairwise_map];refine List.Pairwise.imp_of_mem (fun {x y} a j f e=>f ?_) (List.nodup_range (n:=T));exact k.inj x y (List.mem_range.1 a) (List.mem_range.1 j) e) (fun x=>by
  simp only [List.mem_filter,List.mem_range,beq_iff_eq,List.mem_map];constructor
  ·rintro⟨a,e⟩;rw[Aq a]at e;obtain⟨i,c,o⟩:=k.rR x a ((h.iT he hr a).1 e.symm);exact⟨i,c,o⟩
  ·rintro⟨i,c,rfl⟩;have g:=k.lt i c;refine⟨g,?_⟩;rw[Aq g];exact((h.iT he hr g).2 (k.conn he i c)).symm)
 unfold oF;rw[this,List.length_map,List.length_range]
theorem NW{r:Nat}(hr:r<s.length){T:Nat}{D:Nat->Nat}{ks:List Nat}(k:BR s.length (sg s) r T D ks):0<=vO s (eP s.length (sg s) r)/\(vO s (eP s.length (sg s) r)=0->∀i,i<T->D (mp ks i)=mt (D i)):=by
 have t:=k.xK h hr he;have g:=k.xI h hr he;have j:=k.faces h he;have a:=F3 h he;rw[oD]at a;have c:dO s.length (fun d=>sg s (mt d)):=a.congr (fun d e=>(wU e).symm);have l:Df s (eP s.length (sg s) r)=_:=NV h he hr s;have f:Dh s (eP s.length (sg s) r)=_:=NV h he hr (dS s);have m:BJ s (eP s.length (sg s) r)=T / 2:=by unfold BJ;rw[UZ h he hr k]
 have n:((List.range s.length).filter fun x=>rep (sg (dS s)) x == x && @decide (dI s.length (sg s) r x) (Classical.propDecidable _))=(List.range s.length).filter fun x=>rep (fun d=>sg s (mt d)) x == x && @decide (dI s.length (sg s) r x) (Classical.propDecidable _) :=
  List.filter_congr (fun x o=>by rw[Gi a c (fun d e=>wU e) (List.mem_range.1 o)])
 rw[n]at f;unfold vO;rw[l,f,m];generalize ((List.range s.length).filter fun x=>rep (sg s) x == x && @decide (dI s.length (sg s) r x) (Classical.propDecidable _)).length=V at *;generalize ((List.range s.length).filter fun x=>rep (fun d=>sg s (mt d)) x == x && @decide (dI s.length (sg s) r x) (Classical.propDecidable _)).length=F at *;have p:0<=2 - (V:Int)+((T / 2:Nat):Int) - (F:Int):=by omega
 rw[Int.tdiv_eq_ediv_of_nonneg p];refine⟨by omega,fun u i q=>?_⟩;exact k.xJ he g j (by omega) q
theorem U0{ln:Nat}(f:fV (jN s ln)=0){r:Nat}(hr:r<s.length):vO s (eP s.length (sg s) r)=0:=by
 have g:∀x y,x<s.length->y<s.length->(vnum (sg s) x=vnum (sg s) y↔dK (sg s) x y):=fun x y a i=>h.eT a i;have key:∀x,x<s.length->0<=vO s (eP s.length (sg s) x):=fun x a=>by obtain⟨T,_,_,k⟩:=Ep h he g a;exact(NW h he a k).1
 have e:fV (jN s ln)=(((List.range s.length).filter fun d=>eU s.length (sg s) d == d).map fun d=>vO s (eP s.length (sg s) d)).sum:=by
  unfold fV jN pK;rw[List.map_append,List.sum_append,List.map_map]
  have:∀m:Nat,((List.replicate m ([-1,1,0,1,0]:List Int)).map fun p=>p.getD 4 0).sum=0:=fun m=>by
   induction m with
   | zero=>rfl
   | succ m j=>rw[List.replicate_succ,List.map_cons,List.sum_cons,j];rfl
  rw[this,Int.add_zero];rfl
 obtain⟨_,l⟩:=NU (((List.range s.length).filter fun d=>eU s.length (sg s) d == d).map fun d=>vO s (eP s.length (sg s) d)) (fun x a=>by obtain⟨d,n,rfl⟩:=List.mem_map.1 a;exact key d (List.mem_range.1 (List.mem_filter.1 n).1));have c:=h.lF he hr;have o:=l (vO s (eP s.length (sg s) (eU s.length (sg s) r))) (List.mem_map.2 ⟨eU s.length (sg s) r,List.mem_filter.2 ⟨List.mem_range.2 c,by rw[h.jf he hr];simp⟩,rfl⟩);have q:eP s.length (sg s) (eU s.length (sg s) r)=eP s.length (sg s) r:=((h.iT he hr c).2 (wO _ _ _)).symm;rw[q,<-e,f]at o;have:=key r hr;omega
end
open Classical in
noncomputable def wT(s:List Nat)(r:Nat):Nat:=if h:∃T,iV s.length (sg s) (vnum (sg s)) r T then h.choose else 0
noncomputable def wK(s:List Nat)(r:Nat):List Nat:=jk (eD (sg s) (vnum (sg s)) r (wT s r)).2
noncomputable def DA(s:List Nat):List Nat->Nat->Nat
 | [],_=>0
 | r :: a,p=>if p<wT s r then (eD (sg s) (vnum (sg s)) r p).1 else DA s a (p - wT s r)
theorem Js(s:List Nat)(r:Nat):(wK s r).length=wT s r:=by unfold wK;rw[Bz,sF]
theorem iV.xX{s:List Nat}{r T:Nat}(h:iV s.length (sg s) (vnum (sg s)) r T):wT s r=T:=by
 unfold wT;have a:∃T,iV s.length (sg s) (vnum (sg s)) r T:=⟨T,h⟩
 rw[dif_pos a];exact a.choose_spec.unique h
theorem iV.AQ{s:List Nat}{r T:Nat}(h:iV s.length (sg s) (vnum (sg s)) r T):wK s r=jk (eD (sg s) (vnum (sg s)) r T).2:=by unfold wK;rw[h.xX]
theorem BR.U1{n:Nat}{S:Nat->Nat}{root T:Nat}{D:Nat->Nat}{ks:List Nat}(k:BR n S root T D ks)(f:∀i,i<T->D (mp ks i)=mt (D i)){i:Nat}(d:i<T):S (D i)=D (tn ks i):=by
 have e:Wd ks:=k.right.wd;have g:=k.len;have a:i<ks.length:=by omega
 unfold tn;rw[g];by_cases c:ks.getD i 0<2
 ·have j:=e.gP a;rw[if_pos c,k.next _ (by omega),if_pos ((e.zM a).2 c),f i d,dF]
 ·rw[if_neg c,k.next i d,if_neg c]
section
variable {s:List Nat} (h:dO s.length (sg s)) (he:s.length % 2=0)
include h he
theorem GH{r:Nat}(hr:r<s.length):iV s.length (sg s) (vnum (sg s)) r (wT s r)/\BR s.length (sg s) r (wT s r) (fun i=>(eD (sg s) (vnum (sg s)) r i).1) (wK s r):=by obtain⟨T,a,_,c⟩:=Ep h he (fun x y d f=>h.eT d f) hr;have e:=a.xX;have g:=a.AQ;rw[e,g];exact⟨a,c⟩
structure pX (s:List Nat)(rs:List Nat):Prop where
 lt:∀r ∈ rs,r<s.length
 apart:rs.Pairwise fun a b=>¬dI s.length (sg s) a b
 flat:∀r ∈ rs,vO s (eP s.length (sg s) r)=0
theorem pX.EN{a:List Nat}(k:pX s a):kJ (a.map (wK s)):=fun x d=>by obtain⟨r,hr,rfl⟩:=List.mem_map.1 d;obtain⟨_,c⟩:=GH h he (k.lt r hr);exact⟨c.right,by rw[Js];exact c.pos⟩
theorem pX.walks:∀{a:List Nat},pX s a->(∀i,i<(a.map (wK s)).flatten.length->DA s a i<s.length/\(∃r ∈ a,dI s.length (sg s) r (DA s a i))/\DA s a (mp (a.map (wK s)).flatten i)=mt (DA s a i)/\sg s (DA s a i)=DA s a (xU (a.map (wK s)) i)) /\
  (∀i j,i<(a.map (wK s)).flatten.length->j<(a.map (wK s)).flatten.length->DA s a i=DA s a j->i=j)/\(∀x r,r ∈ a->x<s.length->dI s.length (sg s) r x->∃i,i<(a.map (wK s)).flatten.length/\DA s a i=x)
 | [],_=>⟨fun i l=>by simp at l,fun i j l=>by simp at l,fun x r hr=>by simp at hr⟩
 | r :: a,k=>by
  have hr:=k.lt r (by simp);have A:pX s a:=⟨fun x o=>k.lt x (by simp[o]),(List.pairwise_cons.1 k.apart).2,fun x o=>k.flat x (by simp[o])⟩
  obtain⟨t,B,C⟩:=pX.walks A;obtain⟨_,w⟩:=GH h he hr;have H:=(NW h he hr w).2 (k.flat r (by simp));have u:=w.right;have D:=A.EN h he;have hF:=D.flat;have v:Wd (wK s r ++ (a.map (wK s)).flatten):=(u.app hF).wd;have y:=w.len;rw[List.map_cons,List.flatten_cons];have c:∀i,i<wT s r->DA s (r :: a) i=(eD (sg s) (vnum (sg s)) r i).1:=fun i l=>by show (if i<wT s r then _ else _)=_;rw[if_pos l]
  have d:∀i,DA s (r :: a) ((wK s r).length+i)=DA s a i:=fun i=>by show (if (wK s r).length+i<wT s r then _ else _)=_;rw[y,if_neg (by omega),Nat.add_sub_cancel_left]
  have n:∀i j,i<wT s r->j<(a.map (wK s)).flatten.length->(eD (sg s) (vnum (sg s)) r i).1≠DA s a j:=fun i j l p e=>by obtain⟨_,⟨q,f,z⟩,_⟩:=t j p;have g:=w.conn he i l;have g:dI s.length (sg s) r (eD (sg s) (vnum (sg s)) r i).1:=g;rw[e]at g;exact(List.pairwise_cons.1 k.apart).1 q f (g.trans (h.gL he (A.lt q f) z))
  refine⟨fun i l=>?_,fun i j l p e=>?_,fun x q f o z=>?_⟩
  ·rw[List.length_append]at l;rcases Nat.lt_or_ge i (wK s r).length with g|g
   ·have m:i<wT s r:=by omega
    have I:=u.wd.gP g;have J:=u.wd.jc.lt i g;rw[ND u.wd v g,c i m,c _ (by omega)];refine⟨w.lt i m,⟨r,by simp,w.conn he i m⟩,H i m,?_⟩;show _=DA s (r :: a) (if i<(wK s r).length then tn (wK s r) i else _);rw[if_pos g,c _ (by omega)];exact w.U1 H m
   ·obtain⟨j,rfl⟩:=Nat.exists_eq_add_of_le g;have p:j<(a.map (wK s)).flatten.length:=by omega
    obtain⟨K,⟨q,f,L⟩,a3,a4⟩:=t j p;rw[NG u.wd hF.wd v p,d,d];refine⟨K,⟨q,by simp[f],L⟩,a3,?_⟩;show _=DA s (r :: a) (if (wK s r).length+j<(wK s r).length then _ else (wK s r).length+xU (a.map (wK s)) ((wK s r).length+j - (wK s r).length));rw[if_neg (by omega),Nat.add_sub_cancel_left,d];exact a4
  ·rw[List.length_append]at l p;rcases Nat.lt_or_ge i (wK s r).length with g|g <;> rcases Nat.lt_or_ge j (wK s r).length with E|E
   ·rw[c i (by omega),c j (by omega)]at e;exact w.inj i j (by omega) (by omega) e
   ·obtain⟨F,rfl⟩:=Nat.exists_eq_add_of_le E;rw[c i (by omega),d]at e;exact absurd e (n i F (by omega) (by omega))
   ·obtain⟨G,rfl⟩:=Nat.exists_eq_add_of_le g;rw[c j (by omega),d]at e;exact absurd e.symm (n j G (by omega) (by omega))
   ·obtain⟨G,rfl⟩:=Nat.exists_eq_add_of_le g;obtain⟨F,rfl⟩:=Nat.exists_eq_add_of_le E;rw[d,d]at e;rw[B G F (by omega) (by omega) e]
  ·rw[List.length_append];rcases List.mem_cons.1 f with rfl|f
   ·obtain⟨i,l,e⟩:=w.rR x o z;exact⟨i,by omega,by rw[c i l];exact e⟩
   ·obtain⟨i,l,e⟩:=C x q f o z;exact⟨(wK s r).length+i,by omega,by rw[d];exact e⟩
open Classical in
noncomputable def lD(s:List Nat)(r:Nat):List Nat:=r :: ((List.range s.length).filter fun d=>eU s.length (sg s) d == d && !decide (dI s.length (sg s) r d))
omit h he in
theorem EO{s:List Nat}{r d:Nat}(a:d ∈ (lD s r).tail):d<s.length/\eU s.length (sg s) d=d/\¬dI s.length (sg s) r d:=by unfold lD at a;simp only [List.tail_cons,List.mem_filter,List.mem_range,Bool.and_eq_true,beq_iff_eq,Bool.not_eq_true',decide_eq_false_iff_not]at a;exact a
theorem NY{ln:Nat}(f:fV (jN s ln)=0){r:Nat}(hr:r<s.length):pX s (lD s r):=by
 have c:∀x ∈ lD s r,x<s.length:=fun x a=>by
  rcases List.mem_cons.1 a with rfl|a
  ·exact hr
  ·exact(EO a).1
 refine⟨c,?_,fun x a=>U0 h he f (c x a)⟩;refine List.pairwise_cons.2 ⟨fun x a=>(EO (s:=s) (r:=r) a).2.2,?_⟩;have d:((lD s r).tail).Nodup:=List.Pairwise.filter _ List.nodup_range;refine List.Pairwise.imp_of_mem (fun {x y} a g e i=>e ?_) d;obtain⟨j,k,_⟩:=EO a;obtain⟨l,m,_⟩:=EO g;rw[<-k,<-m];exact(h.jG he j l).2 i
open Classical in
theorem qf{r x:Nat}(a:x<s.length):∃e ∈ lD s r,dI s.length (sg s) e x:=by
 by_cases c:dI s.length (sg s) r x
 ·exact⟨r,by simp[lD],c⟩
 ·have f:=wO s.length (sg s) x;have g:=h.lF he a;have d:=h.gL he a f;refine⟨eU s.length (sg s) x,?_,d⟩;unfold lD;refine List.mem_cons_of_mem _ (List.mem_filter.2 ⟨List.mem_range.2 g,?_⟩);have i:¬dI s.length (sg s) r (eU s.length (sg s) x):=fun j=>c (j.trans d);rw[h.jf he a,decide_eq_false i];simp
noncomputable def fP(s:List Nat)(r:Nat):List (List Nat):=(lD s r).map (wK s)
theorem walks_all{ln:Nat}(v:fV (jN s ln)=0){r:Nat}(hr:r<s.length):EL s.length (sg s) (DA s (lD s r)) (fP s r)/\DA s (lD s r) 0=r:=by
 have k:=NY h he v hr;obtain⟨f,q,z⟩:=k.walks h he;have d:=k.EN h he
 have a:(fP s r).flatten.length=s.length:=by
  have t:=vI (l:=(List.range (fP s r).flatten.length).map (DA s (lD s r))) (m:=List.range s.length) (by
   rw[List.Nodup,List.pairwise_map];refine List.Pairwise.imp_of_mem (fun {x y} g A o e=>o ?_) (List.nodup_range (n:=(fP s r).flatten.length));exact q x y (List.mem_range.1 g) (List.mem_range.1 A) e) List.nodup_range (fun x=>by
   simp only [List.mem_map,List.mem_range];constructor
   ·rintro⟨i,c,rfl⟩;exact(f i c).1
   ·intro g;obtain⟨B,p,C⟩:=qf h he g;exact z x B p g C)
  rw[List.length_map,List.length_range,List.length_range]at t;exact t
 refine⟨⟨⟨d.flat.wd,a,⟨fun i c=>(f i (by rw[<-a]at c;exact c)).1,fun i j c u e=>q i j (by rw[<-a]at c;exact c) (by rw[<-a]at u;exact u) e⟩,fun i c=>(f i (by rw[<-a]at c;exact c)).2.2.1⟩,d,fun i c=>(f i (by rw[<-a]at c;exact c)).2.2.2⟩,?_⟩;obtain⟨_,w⟩:=GH h he hr;show (if 0<wT s r then (eD (sg s) (vnum (sg s)) r 0).1 else _)=r;rw[if_pos w.pos];rfl
end
end
section
open Go.RowKit
theorem xY{n:Nat}{S:Nat->Nat}(h:dO n S){d:Nat}(a:d<n):vnum S d<=d:=Nat.le_trans (oV S _) (h.iB a)
noncomputable def eA(s:List Nat)(e:Nat):Nat:=vnum (sg s) (2 * e)
noncomputable def eB(s:List Nat)(e:Nat):Nat:=vnum (sg s) (2 * e+1)
noncomputable def jV(s:List Nat):Nat->Nat
 | 0=>0
 | j+1=>jV s j+if eA s j=eB s j then 1 else 0
noncomputable def mF(s:List Nat):Nat->Nat->Nat->Nat
 | 0=>fun _ _=>0
 | j+1=>if eA s j=eB s j then mF s j else wu (mF s j) (min (eA s j) (eB s j)) (max (eA s j) (eB s j)) (mF s j (min (eA s j) (eB s j)) (max (eA s j) (eB s j))+1)
noncomputable def lV(s:List Nat):Nat->Nat
 | 0=>0
 | j+1=>lV s j+if eA s j≠eB s j/\0<mF s j (min (eA s j) (eB s j)) (max (eA s j) (eB s j))then 1 else 0
theorem Jt(s:List Nat):∀j,jV s j<=j
 | 0=>Nat.le_refl _
 | j+1=>by have:=Jt s j;unfold jV;split <;> omega
theorem Ju(s:List Nat):∀j x y,mF s j x y<=j
 | 0,_,_=>Nat.le_refl _
 | j+1,x,y=>by
  have:=Ju s j x y;have:=Ju s j (min (eA s j) (eB s j)) (max (eA s j) (eB s j));unfold mF;by_cases h:eA s j=eB s j
  ·rw[if_pos h];omega
  ·rw[if_neg h];unfold wu;split <;> omega
theorem Jv(s:List Nat):∀j,lV s j<=j
 | 0=>Nat.le_refl _
 | j+1=>by have:=Jv s j;unfold lV;split <;> omega
theorem GI{s:List Nat}:∀{j},jV s j=0↔∀e,e<j->eA s e≠eB s e
 | 0=>⟨fun _ e he=>by omega,fun _=>rfl⟩
 | j+1=>by
  unfold jV;have a:=GI (s:=s) (j:=j);constructor
  ·intro h e he;by_cases c:eA s j=eB s j
   ·rw[if_pos c]at h;omega
   ·rcases Nat.lt_or_ge e j with d|d
    ·exact a.1 (by omega) e d
    ·obtain rfl:e=j:=by omega
     exact c
  ·intro h;rw[if_neg (h j (by omega)),a.2 (fun e he=>h e (by omega))]
theorem Jw{s:List Nat}{x y:Nat}:∀{j},0<mF s j x y↔∃e,e<j/\eA s e≠eB s e/\min (eA s e) (eB s e)=x/\max (eA s e) (eB s e)=y
 | 0=>⟨fun h=>by simp[mF]at h,fun ⟨e,he,_⟩=>by omega⟩
 | j+1=>by
  have d:=Jw (s:=s) (x:=x) (y:=y) (j:=j);unfold mF;by_cases h:eA s j=eB s j
  ·rw[if_pos h,d];constructor
   ·rintro⟨e,he,h1⟩;exact⟨e,by omega,h1⟩
   ·rintro⟨e,he,h1,h2⟩;rcases Nat.lt_or_ge e j with a|a
    ·exact⟨e,a,h1,h2⟩
    ·obtain rfl:e=j:=by omega
     exact absurd h h1
  ·rw[if_neg h];unfold wu;by_cases c:x=min (eA s j) (eB s j)/\y=max (eA s j) (eB s j)
   ·rw[if_pos c];exact⟨fun _=>⟨j,by omega,h,c.1.symm,c.2.symm⟩,fun _=>by omega⟩
   ·rw[if_neg c,d];constructor
    ·rintro⟨e,he,h1⟩;exact⟨e,by omega,h1⟩
    ·rintro⟨e,he,h1,h2,a⟩;rcases Nat.lt_or_ge e j with f|f
     ·exact⟨e,f,h1,h2,a⟩
     ·obtain rfl:e=j:=by omega
      exact absurd ⟨h2.symm,a.symm⟩ c
theorem Jy{s:List Nat}:∀{j},lV s j=0↔∀e f,e<f->f<j->eA s e≠eB s e->eA s f≠eB s f->¬(min (eA s e) (eB s e)=min (eA s f) (eB s f)/\max (eA s e) (eB s e)=max (eA s f) (eB s f))
 | 0=>⟨fun _ e f _ k=>by omega,fun _=>rfl⟩
 | j+1=>by
  have l:=Jy (s:=s) (j:=j);unfold lV;constructor
  ·intro h e f he k c d a;by_cases i:eA s j≠eB s j/\0<mF s j (min (eA s j) (eB s j)) (max (eA s j) (eB s j))
   ·rw[if_pos i]at h;omega
   ·rw[if_neg i]at h;rcases Nat.lt_or_ge f j with g|g
    ·exact l.1 (by omega) e f he g c d a
    ·obtain rfl:f=j:=by omega
     exact i ⟨d,Jw.2 ⟨e,he,c,a.1,a.2⟩⟩
  ·intro h;have m:lV s j=0:=l.2 (fun e f he k=>h e f he (by omega));rw[m,if_neg];rintro⟨c,d⟩;obtain⟨e,he,a,g,n⟩:=Jw.1 d;exact h e j he (by omega) a c ⟨g,n⟩
section
variable {w:World} {b:Nat} {s:List Nat} {root lone:Int} {R:Nat->Prop} (h:MapAt w b s root lone R)
include h
theorem U2:Calls Tryz.prog 274 #[.pointer (some ⟨b,0,none⟩)] w fun e w'=>e=.returned (.int .i64 (jV s (s.length / 2):Nat))/\fO w b s root lone R w':=by
 have D:=Gq h;have K:=h.le;have J:=h.mw;obtain⟨E,q⟩:∃E,E=s.length / 2:=⟨_,rfl⟩
 rw[<-q]at D ⊢;have L:2 * E<=s.length:=by omega
 clear h q;go_enter Tryz.func274,Tryz.ntmps274;go_wp2_with fail;refine D.mono ?_;rintro e w' ⟨rfl,rfl⟩;clear D;go_wp2_with fail;go_loopg [3,7] E (fun m c i wr=>∃j:Nat,j<=E/\m=E - j/\i=.int .i64 j/\c=.int .i64 (jV s j:Nat)/\MW w b s root lone R (fun _=>False) wr)
 case atStart=>exact⟨0,Nat.zero_le _,rfl,rfl,rfl,J⟩
 case round =>
  clear J;obtain⟨j,M,r,rfl,rfl,C⟩:=hrel;have F:=dh r;clear r;have N:=Jt s j;by_cases G:j<E
  ·obtain⟨W,f,t⟩:=C.ask;have g:=BZ f (2 * j) (by omega);rw[show ((2 * j:Nat):Int)=2 * (j:Int) by omega]at g;have a:jV s (j+1)=jV s j+if eA s j=eB s j then 1 else 0:=rfl
   obtain⟨o,k⟩:∃o,o=eA s j:=⟨_,rfl⟩
   obtain⟨p,l⟩:∃p,p=eB s j:=⟨_,rfl⟩
   rw[<-k,<-l]at a;have O:o<=s.length:=by rw[k];have P:=xY f.dR (d:=2 * j) (by omega);simp only [eA];omega
   have Q:p<=s.length:=by rw[l];have P:=xY f.dR (d:=2 * j+1) (by omega);simp only [eB];omega
   have H:2 * j+1<s.length:=by omega
   rw[show vnum (sg s) (2 * j)=o by rw[k];rfl]at g;have S:=dh (show vnum (sg s) (2 * j+1)=p by rw[l];rfl);clear k l;go_wp2_with fail;refine g.mono ?_;rintro e w1 ⟨rfl,u⟩;have v:=(t w1 u.two).1;clear g t u f;obtain⟨X,x,y⟩:=v.ask;have n:=BZ x (2 * j+1) H;rw[show ((2 * j+1:Nat):Int)=2 * (j:Int)+1 by omega,S.out]at n;go_wp2_with fail;refine n.mono ?_;rintro e T ⟨rfl,z⟩;have A:=dh (y T z.two).1;clear n y z x v C;by_cases B:o=p
   ·subst B;rw[if_pos rfl]at a;have I:=dh a;clear a;generalize jV s j=c at *;go_wp2;go_roundg (E - (j+1))
    case measure=>rw[F.out];omega
    case rel=>exact⟨j+1,by omega,rfl,by go_num,by rw[I.out];go_num,A.out⟩
   ·have U:((o:Int) == (p:Int))=false:=by rw[beq_eq_false_iff_ne];omega
    rw[if_neg B]at a;have I:=dh a;clear a;generalize jV s j=c at *;go_wp2;go_roundg (E - (j+1))
    case measure=>rw[F.out];omega
    case rel=>exact⟨j+1,by omega,rfl,by go_num,by rw[I.out];go_num,A.out⟩
  ·obtain rfl:j=E:=by omega
   have V:=dh C.all;clear C G M F;go_wp2;go_ret;exact⟨rfl,V.out⟩
theorem U3:Calls Tryz.prog 275 #[.pointer (some ⟨b,0,none⟩)] w fun e w'=>e=.returned (.int .i64 (lV s (s.length / 2):Nat))/\fO w b s root lone R w':=by
 have D:Keeps (fun _=>False) w (w.alloc (.map #[] 0)):=(Keeps.refl _ w).alloc _;have hE:=Gq (h.keeps D (fun h=>h) (fun _ _ h=>h));have ap:=h.le;have hW:MW w b s root lone R (fun x=>x=w.heap.size) (w.alloc (.map #[] 0)):=h.mw.fresh D (fun x F=>.inr ⟨by omega,by simp;omega⟩);have M:=nR.made w;obtain⟨E,N⟩:∃E,E=s.length / 2:=⟨_,rfl⟩
 rw[<-N]at hE ⊢;have aq:2 * E<=s.length:=by omega
 clear h N D;have ai:=@run_makeMap Tryz.prog;go_enter Tryz.func275,Tryz.ntmps275;go_wp2_with fail;refine hE.mono ?_;rintro e w' ⟨rfl,rfl⟩;clear hE ai;generalize aj:w.alloc (.map #[] 0)=wM at *;clear aj;go_wp2_with fail;go_loopg [4,12] E (fun m c i wr=>∃j:Nat,j<=E/\m=E - j/\i=.int .i64 j/\c=.int .i64 (lV s j:Nat)/\MW w b s root lone R (fun x=>x=w.heap.size) wr/\nR wr w.heap.size j (mF s j))
 case atStart=>exact⟨0,Nat.zero_le _,rfl,rfl,rfl,hW,M⟩
 case round =>
  clear hW M;obtain⟨j,hj,O,rfl,rfl,hM,hP⟩:=hrel;have HG:=dh O;clear O;have ar:=Jv s j;by_cases ak:j<E
  ·obtain⟨R1,n,P⟩:=hM.ask;have o:=BZ n (2 * j) (by omega);rw[show ((2 * j:Nat):Int)=2 * (j:Int) by omega]at o;have g:lV s (j+1)=lV s j+if eA s j≠eB s j/\0<mF s j (min (eA s j) (eB s j)) (max (eA s j) (eB s j))then 1 else 0:=rfl
   have a:mF s (j+1)=if eA s j=eB s j then mF s j else wu (mF s j) (min (eA s j) (eB s j)) (max (eA s j) (eB s j)) (mF s j (min (eA s j) (eB s j)) (max (eA s j) (eB s j))+1):=rfl
   have Q:=Ju s j (min (eA s j) (eB s j)) (max (eA s j) (eB s j));obtain⟨k,p⟩:∃k,k=eA s j:=⟨_,rfl⟩
   obtain⟨l,r⟩:∃l,l=eB s j:=⟨_,rfl⟩
   rw[<-p,<-r]at g a Q;have au:k<=s.length:=by rw[p];have hh:=xY n.dR (d:=2 * j) (by omega);simp only [eA];omega
   have av:l<=s.length:=by rw[r];have hh:=xY n.dR (d:=2 * j+1) (by omega);simp only [eB];omega
   have al:2 * j+1<s.length:=by omega
   rw[show vnum (sg s) (2 * j)=k by rw[p];rfl]at o;have HV:=dh (show vnum (sg s) (2 * j+1)=l by rw[r];rfl);clear p r;generalize lV s j=c at *;generalize mF s j=f at *;go_wp2_with fail;refine o.mono ?_;rintro e w1 ⟨rfl,S⟩;obtain⟨T,U⟩:=P w1 S.two;have V:=hP.keeps U (fun h=>h rfl);clear o P S n U hP;obtain⟨R2,W,X⟩:=T.ask;have G:=BZ W (2 * j+1) al;rw[show ((2 * j+1:Nat):Int)=2 * (j:Int)+1 by omega,HV.out]at G;go_wp2_with fail;refine G.mono ?_;rintro e J ⟨rfl,Y⟩;obtain⟨t,Z⟩:=X J Y.two;have u:=V.keeps Z (fun h=>h rfl);clear G X Y W T hM Z V;by_cases H:k=l
   ·subst H;rw[if_neg (fun h=>h.1 rfl)]at g;rw[if_pos rfl]at a;have K:=dh (dn g (dn t (a ▸ u.more (Nat.le_succ j))));clear g a t u;go_wp2;go_roundg (E - (j+1))
    case measure=>rw[HG.out];omega
    case rel=>exact⟨j+1,by omega,rfl,by go_num,by rw[K.out.1];go_num,K.out.2⟩
   ·have aw:((k:Int) == (l:Int))=false:=by rw[beq_eq_false_iff_ne];omega
    rw[if_neg H]at a;obtain⟨x,F⟩:∃x,x=min k l:=⟨_,rfl⟩
    obtain⟨y,hy⟩:∃y,y=max k l:=⟨_,rfl⟩
    rw[<-F,<-hy]at g a Q;have v:x<=1000000:=by omega
    have z:y<=1000000:=by omega
    have ax:min (k:Int) (l:Int)=(x:Int):=by omega
    have ay:max (k:Int) (l:Int)=(y:Int):=by omega
    obtain⟨L,A⟩:∃L,L=J.alloc (.cells #[.int .i64 (x:Int),.int .i64 (y:Int)] 359):=⟨_,rfl⟩
    have D:Keeps (fun _=>False) J L:=by rw[A];exact(Keeps.refl _ J).alloc _
    have aa:=t.fresh D (M':=fun x=>x=w.heap.size) (fun _ F=>.inl F);have B:=u.keeps D (fun h=>h);have ab:=B.look v z;have C:=(B.keeps (Keeps.refl (fun _=>False) L).drew (fun h=>h)).look v z;obtain⟨v0,w4,st,ad,am,an,ae⟩:=(B.keeps (Keeps.refl (fun _=>False) L).drew (fun h=>h)).entry (by omega) v z;obtain⟨w5,ao,I,af⟩:=ae (f x y+1) (by omega);rw[<-a]at I;have ag:=(aa.drew.own af (M':=fun x=>x=w.heap.size) (fun _ F=>.inl F))
    have ah:(L.drew.heap[J.heap.size]?)=some (.cells #[.int .i64 (x:Int),.int .i64 (y:Int)] 359 (0,0)):=by rw[A];exact heap_alloc_new J _
    have HX:=dh (dn g (dn ag I));clear g a ag I aa B t u D am af ae F hy v z;unfold kv at ab C ad an;rw[show ((f x y+1:Nat):Int)=(f x y:Int)+1 by omega]at ao;generalize f x y=q at *;rw[A]at ab C ad ah;clear A ah;rcases Nat.eq_zero_or_pos q with hq|hq
    ·have hz:decide (0<q)=false:=decide_eq_false (by omega);have K:=dh (show lV s (j+1)=c by rw[HX.out.1,if_neg (fun h=>by have:=h.2;omega)];rfl);clear hq;go_wp2;go_region
     all_goals
      go_wp2;go_roundg (E - (j+1))
      case measure=>rw[HG.out];omega
      case rel=>exact⟨j+1,by omega,rfl,by go_num,by rw[K.out],HX.out.2⟩
    ·have hz:decide (0<q)=true:=decide_eq_true (by omega);have K:=dh (show lV s (j+1)=c+1 by rw[HX.out.1,if_pos ⟨H,hq⟩]);clear hq;go_wp2;go_region
     all_goals
      go_wp2;go_roundg (E - (j+1))
      case measure=>rw[HG.out];omega
      case rel=>exact⟨j+1,by omega,rfl,by go_num,by rw[K.out];go_num,HX.out.2⟩
  ·obtain rfl:j=E:=by omega
   have HF:=dh hM.all;clear hM hP ak hj HG;go_wp2;go_ret;exact⟨rfl,HF.out⟩
end
end
