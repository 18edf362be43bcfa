import Derived.Shelf.Small.Bits
import Derived.Test.YtalhcfjcbbkpgaaGreatZt0q
import Derived.Test.YtalhcfjcbbkpgaaGreatZt0r
set_option maxRecDepth 100000
set_option maxHeartbeats 4000000
namespace Go.Proofs.YtalhcfjcbbkpgaaGreat
section
theorem OG:∀(l:List Int),(∀x ∈ l,0<=x)->0<=l.sum/\∀x ∈ l,x<=l.sum
 | [],_=>⟨by simp,fun x b=>by simp at b⟩
 | a :: l,h=>by
  obtain⟨d,c⟩:=OG l (fun x b=>h x (by simp[b]));have e:=h a (by simp);rw[List.sum_cons];refine⟨by omega,fun x b=>?_⟩;rcases List.mem_cons.1 b with rfl|b
  ·omega
  ·have:=c x b;omega
section
variable {s:List Nat} (h:dU s.length (sg s)) (he:s.length % 2=0)
include h he
open Classical in
theorem OH{r:Nat}(hr:r<s.length)(l:List Nat):nI l (iV s) (eF s.length (sg s) r) s.length=((List.range s.length).filter fun x=>rep (sg l) x == x && decide (dJ s.length (sg s) r x)).length:=by
 unfold nI;congr 1;refine List.filter_congr (fun x a=>?_);have a:=List.mem_range.1 a;rw[Ba a];congr 1;by_cases b:dJ s.length (sg s) r x
 ·rw[decide_eq_true b,(h.jd he hr a).2 b];simp
 ·rw[decide_eq_false b,beq_eq_false_iff_ne];exact fun e=>b ((h.jd he hr a).1 e.symm)
theorem Vo{r T:Nat}{D:Nat->Nat}{ks:List Nat}(hr:r<s.length)(k:CV s.length (sg s) r T D ks):mM (iV s) (eF s.length (sg s) r) s.length=T:=by
 have:=vY (l:=(List.range s.length).filter fun d=>sg (iV s) d == eF s.length (sg s) r) (m:=(List.range T).map D) (List.Pairwise.filter _ List.nodup_range) (by
  rw[List.Nodup,List.pairwise_map];refine List.Pairwise.imp_of_mem (fun {x y} a g c e=>c ?_) (List.nodup_range (n:=T));exact k.inj x y (List.mem_range.1 a) (List.mem_range.1 g) e) (fun x=>by
  simp only [List.mem_filter,List.mem_range,beq_iff_eq,List.mem_map];constructor
  ·rintro⟨a,e⟩;rw[Ba a]at e;obtain⟨i,b,j⟩:=k.uD x a ((h.jd he hr a).1 e.symm);exact⟨i,b,j⟩
  ·rintro⟨i,b,rfl⟩;have f:=k.lt i b;refine⟨f,?_⟩;rw[Ba f];exact((h.jd he hr f).2 (k.conn he i b)).symm)
 unfold mM;rw[this,List.length_map,List.length_range]
theorem OI{r:Nat}(hr:r<s.length){T:Nat}{D:Nat->Nat}{ks:List Nat}(k:CV s.length (sg s) r T D ks):0<=vk s (eF s.length (sg s) r)/\(vk s (eF s.length (sg s) r)=0->∀i,i<T->D (mp ks i)=mt (D i)):=by
 have q:=k.yt h hr he;have f:=k.yh h hr he;have g:=k.faces h he;have a:=Bd h he;rw[mK]at a;have b:dU s.length (fun d=>sg s (mt d)):=a.congr (fun d c=>(wQ c).symm);have j:CF s (eF s.length (sg s) r)=_:=OH h he hr s;have e:CG s (eF s.length (sg s) r)=_:=OH h he hr (dS s);have l:Bc s (eF s.length (sg s) r)=T / 2:=by unfold Bc;rw[Vo h he hr k]
 have m:((List.range s.length).filter fun x=>rep (sg (dS s)) x == x && @decide (dJ s.length (sg s) r x) (Classical.propDecidable _))=(List.range s.length).filter fun x=>rep (fun d=>sg s (mt d)) x == x && @decide (dJ s.length (sg s) r x) (Classical.propDecidable _) :=
  List.filter_congr (fun x n=>by rw[GI a b (fun d c=>wQ c) (List.mem_range.1 n)])
 rw[m]at e;unfold vk;rw[j,e,l];generalize ((List.range s.length).filter fun x=>rep (sg s) x == x && @decide (dJ s.length (sg s) r x) (Classical.propDecidable _)).length=V at *;generalize ((List.range s.length).filter fun x=>rep (fun d=>sg s (mt d)) x == x && @decide (dJ s.length (sg s) r x) (Classical.propDecidable _)).length=F at *;have o:0<=2 - (V:Int)+((T / 2:Nat):Int) - (F:Int):=by omega
 rw[Int.tdiv_eq_ediv_of_nonneg o];refine⟨by omega,fun t i p=>?_⟩;exact k.yj he f g (by omega) p
theorem Vp{ln:Nat}(f:fU (jG s ln)=0){r:Nat}(hr:r<s.length):vk s (eF s.length (sg s) r)=0:=by
 have g:∀x y,x<s.length->y<s.length->(dB (sg s) x=dB (sg s) y↔dK (sg s) x y):=fun x y a i=>h.eY a i;have b:∀x,x<s.length->0<=vk s (eF s.length (sg s) x):=fun x a=>by obtain⟨T,_,_,k⟩:=EH h he g a;exact(OI h he a k).1
 have e:fU (jG s ln)=(((List.range s.length).filter fun d=>eH s.length (sg s) d == d).map fun d=>vk s (eF s.length (sg s) d)).sum:=by
  unfold fU jG mO;rw[List.map_append,List.sum_append,List.map_map]
  have:∀m:Nat,((List.replicate m ([-1,1,0,1,0]:List Int)).map fun p=>p.getD 4 0).sum=0:=fun m=>by
   induction m with
   | zero=>rfl
   | succ m j=>rw[List.replicate_succ,List.map_cons,List.sum_cons,j];rfl
  rw[this,Int.add_zero];rfl
 obtain⟨_,l⟩:=OG (((List.range s.length).filter fun d=>eH s.length (sg s) d == d).map fun d=>vk s (eF s.length (sg s) d)) (fun x a=>by obtain⟨d,n,rfl⟩:=List.mem_map.1 a;exact b d (List.mem_range.1 (List.mem_filter.1 n).1));have c:=h.kU he hr;have o:=l (vk s (eF s.length (sg s) (eH s.length (sg s) r))) (List.mem_map.2 ⟨eH s.length (sg s) r,List.mem_filter.2 ⟨List.mem_range.2 c,by rw[h.iP he hr];simp⟩,rfl⟩);have q:eF s.length (sg s) (eH s.length (sg s) r)=eF s.length (sg s) r:=((h.jd he hr c).2 (wB _ _ _)).symm;rw[q,<-e,f]at o;have:=b r hr;omega
end
open Classical in
noncomputable def wT(s:List Nat)(r:Nat):Nat:=if h:∃T,jS s.length (sg s) (dB (sg s)) r T then h.choose else 0
noncomputable def wK(s:List Nat)(r:Nat):List Nat:=jJ (fC (sg s) (dB (sg s)) r (wT s r)).2
noncomputable def DA(s:List Nat):List Nat->Nat->Nat
 | [],_=>0
 | r :: a,p=>if p<wT s r then (fC (sg s) (dB (sg s)) r p).1 else DA s a (p - wT s r)
theorem JN(s:List Nat)(r:Nat):(wK s r).length=wT s r:=by unfold wK;rw[Cc,sN]
theorem jS.yH{s:List Nat}{r T:Nat}(h:jS s.length (sg s) (dB (sg s)) r T):wT s r=T:=by
 unfold wT;have a:∃T,jS s.length (sg s) (dB (sg s)) r T:=⟨T,h⟩
 rw[dif_pos a];exact a.choose_spec.unique h
theorem jS.Fe{s:List Nat}{r T:Nat}(h:jS s.length (sg s) (dB (sg s)) r T):wK s r=jJ (fC (sg s) (dB (sg s)) r T).2:=by unfold wK;rw[h.yH]
theorem CV.Vq{n:Nat}{S:Nat->Nat}{root T:Nat}{D:Nat->Nat}{ks:List Nat}(k:CV n S root T D ks)(e:∀i,i<T->D (mp ks i)=mt (D i)){i:Nat}(c:i<T):S (D i)=D (tn ks i):=by
 have d:Wd ks:=k.right.wd;have f:=k.len;have a:i<ks.length:=by omega
 unfold tn;rw[f];by_cases b:ks.getD i 0<2
 ·have g:=d.gW a;rw[if_pos b,k.next _ (by omega),if_pos ((d.Af a).2 b),e i c,dG]
 ·rw[if_neg b,k.next i c,if_neg b]
section
variable {s:List Nat} (h:dU s.length (sg s)) (he:s.length % 2=0)
include h he
theorem JO{r:Nat}(hr:r<s.length):jS s.length (sg s) (dB (sg s)) r (wT s r)/\CV s.length (sg s) r (wT s r) (fun i=>(fC (sg s) (dB (sg s)) r i).1) (wK s r):=by obtain⟨T,a,_,b⟩:=EH h he (fun x y c d=>h.eY c d) hr;have e:=a.yH;have f:=a.Fe;rw[e,f];exact⟨a,b⟩
structure p9 (s:List Nat)(rs:List Nat):Prop where
 lt:∀r ∈ rs,r<s.length
 apart:rs.Pairwise fun a b=>¬dJ s.length (sg s) a b
 flat:∀r ∈ rs,vk s (eF s.length (sg s) r)=0
theorem p9.Fg{a:List Nat}(k:p9 s a):jL (a.map (wK s)):=fun x c=>by obtain⟨r,hr,rfl⟩:=List.mem_map.1 c;obtain⟨_,b⟩:=JO h he (k.lt r hr);exact⟨b.right,by rw[JN];exact b.pos⟩
theorem p9.walks:∀{a:List Nat},p9 s a->(∀i,i<(a.map (wK s)).flatten.length->DA s a i<s.length/\(∃r ∈ a,dJ s.length (sg s) r (DA s a i))/\DA s a (mp (a.map (wK s)).flatten i)=mt (DA s a i)/\sg s (DA s a i)=DA s a (yD (a.map (wK s)) i)) /\
  (∀i j,i<(a.map (wK s)).flatten.length->j<(a.map (wK s)).flatten.length->DA s a i=DA s a j->i=j)/\(∀x r,r ∈ a->x<s.length->dJ s.length (sg s) r x->∃i,i<(a.map (wK s)).flatten.length/\DA s a i=x)
 | [],_=>⟨fun i g=>by simp at g,fun i j g=>by simp at g,fun x r hr=>by simp at hr⟩
 | r :: a,k=>by
  have hr:=k.lt r (by simp);have z:p9 s a:=⟨fun x n=>k.lt x (by simp[n]),(List.pairwise_cons.1 k.apart).2,fun x n=>k.flat x (by simp[n])⟩
  obtain⟨q,A,B⟩:=p9.walks z;obtain⟨_,w⟩:=JO h he hr;have G:=(OI h he hr w).2 (k.flat r (by simp));have t:=w.right;have C:=z.Fg h he;have hF:=C.flat;have u:Wd (wK s r ++ (a.map (wK s)).flatten):=(t.app hF).wd;have v:=w.len;rw[List.map_cons,List.flatten_cons];have b:∀i,i<wT s r->DA s (r :: a) i=(fC (sg s) (dB (sg s)) r i).1:=fun i g=>by show (if i<wT s r then _ else _)=_;rw[if_pos g]
  have c:∀i,DA s (r :: a) ((wK s r).length+i)=DA s a i:=fun i=>by show (if (wK s r).length+i<wT s r then _ else _)=_;rw[v,if_neg (by omega),Nat.add_sub_cancel_left]
  have m:∀i j,i<wT s r->j<(a.map (wK s)).flatten.length->(fC (sg s) (dB (sg s)) r i).1≠DA s a j:=fun i j g o e=>by obtain⟨_,⟨p,d,y⟩,_⟩:=q j o;have f:=w.conn he i g;have f:dJ s.length (sg s) r (fC (sg s) (dB (sg s)) r i).1:=f;rw[e]at f;exact(List.pairwise_cons.1 k.apart).1 p d (f.trans (h.iD he (z.lt p d) y))
  refine⟨fun i g=>?_,fun i j g o e=>?_,fun x p d n y=>?_⟩
  ·rw[List.length_append]at g;rcases Nat.lt_or_ge i (wK s r).length with f|f
   ·have l:i<wT s r:=by omega
    have H:=t.wd.gW f;have I:=t.wd.iU.lt i f;rw[Og t.wd u f,b i l,b _ (by omega)];refine⟨w.lt i l,⟨r,by simp,w.conn he i l⟩,G i l,?_⟩;show _=DA s (r :: a) (if i<(wK s r).length then tn (wK s r) i else _);rw[if_pos f,b _ (by omega)];exact w.Vq G l
   ·obtain⟨j,rfl⟩:=Nat.exists_eq_add_of_le f;have o:j<(a.map (wK s)).flatten.length:=by omega
    obtain⟨J,⟨p,d,K⟩,a3,a4⟩:=q j o;rw[Oh t.wd hF.wd u o,c,c];refine⟨J,⟨p,by simp[d],K⟩,a3,?_⟩;show _=DA s (r :: a) (if (wK s r).length+j<(wK s r).length then _ else (wK s r).length+yD (a.map (wK s)) ((wK s r).length+j - (wK s r).length));rw[if_neg (by omega),Nat.add_sub_cancel_left,c];exact a4
  ·rw[List.length_append]at g o;rcases Nat.lt_or_ge i (wK s r).length with f|f <;> rcases Nat.lt_or_ge j (wK s r).length with D|D
   ·rw[b i (by omega),b j (by omega)]at e;exact w.inj i j (by omega) (by omega) e
   ·obtain⟨E,rfl⟩:=Nat.exists_eq_add_of_le D;rw[b i (by omega),c]at e;exact absurd e (m i E (by omega) (by omega))
   ·obtain⟨F,rfl⟩:=Nat.exists_eq_add_of_le f;rw[b j (by omega),c]at e;exact absurd e.symm (m j F (by omega) (by omega))
   ·obtain⟨F,rfl⟩:=Nat.exists_eq_add_of_le f;obtain⟨E,rfl⟩:=Nat.exists_eq_add_of_le D;rw[c,c]at e;rw[A F E (by omega) (by omega) e]
  ·rw[List.length_append];rcases List.mem_cons.1 d with rfl|d
   ·obtain⟨i,g,e⟩:=w.uD x n y;exact⟨i,by omega,by rw[b i g];exact e⟩
   ·obtain⟨i,g,e⟩:=B x p d n y;exact⟨(wK s r).length+i,by omega,by rw[c];exact e⟩
open Classical in
noncomputable def lV(s:List Nat)(r:Nat):List Nat:=r :: ((List.range s.length).filter fun d=>eH s.length (sg s) d == d && !decide (dJ s.length (sg s) r d))
omit h he in
theorem Fh{s:List Nat}{r d:Nat}(a:d ∈ (lV s r).tail):d<s.length/\eH s.length (sg s) d=d/\¬dJ s.length (sg s) r d:=by unfold lV at a;simp only [List.tail_cons,List.mem_filter,List.mem_range,Bool.and_eq_true,beq_iff_eq,Bool.not_eq_true',decide_eq_false_iff_not]at a;exact a
theorem OJ{ln:Nat}(e:fU (jG s ln)=0){r:Nat}(hr:r<s.length):p9 s (lV s r):=by
 have b:∀x ∈ lV s r,x<s.length:=fun x a=>by
  rcases List.mem_cons.1 a with rfl|a
  ·exact hr
  ·exact(Fh a).1
 refine⟨b,?_,fun x a=>Vp h he e (b x a)⟩;refine List.pairwise_cons.2 ⟨fun x a=>(Fh (s:=s) (r:=r) a).2.2,?_⟩;have c:((lV s r).tail).Nodup:=List.Pairwise.filter _ List.nodup_range;refine List.Pairwise.imp_of_mem (fun {x y} a f d g=>d ?_) c;obtain⟨i,j,_⟩:=Fh a;obtain⟨k,l,_⟩:=Fh f;rw[<-j,<-l];exact(h.jR he i k).2 g
open Classical in
theorem Vr{r x:Nat}(a:x<s.length):∃d ∈ lV s r,dJ s.length (sg s) d x:=by
 by_cases b:dJ s.length (sg s) r x
 ·exact⟨r,by simp[lV],b⟩
 ·have e:=wB s.length (sg s) x;have f:=h.kU he a;have c:=h.iD he a e;refine⟨eH s.length (sg s) x,?_,c⟩;unfold lV;refine List.mem_cons_of_mem _ (List.mem_filter.2 ⟨List.mem_range.2 f,?_⟩);have g:¬dJ s.length (sg s) r (eH s.length (sg s) x):=fun i=>b (i.trans c);rw[h.iP he a,decide_eq_false g];simp
noncomputable def fQ(s:List Nat)(r:Nat):List (List Nat):=(lV s r).map (wK s)
theorem walks_all{ln:Nat}(u:fU (jG s ln)=0){r:Nat}(hr:r<s.length):Fa s.length (sg s) (DA s (lV s r)) (fQ s r)/\DA s (lV s r) 0=r:=by
 have k:=OJ h he u hr;obtain⟨d,p,v⟩:=k.walks h he;have c:=k.Fg h he
 have a:(fQ s r).flatten.length=s.length:=by
  have q:=vY (l:=(List.range (fQ s r).flatten.length).map (DA s (lV s r))) (m:=List.range s.length) (by
   rw[List.Nodup,List.pairwise_map];refine List.Pairwise.imp_of_mem (fun {x y} f z g e=>g ?_) (List.nodup_range (n:=(fQ s r).flatten.length));exact p x y (List.mem_range.1 f) (List.mem_range.1 z) e) List.nodup_range (fun x=>by
   simp only [List.mem_map,List.mem_range];constructor
   ·rintro⟨i,b,rfl⟩;exact(d i b).1
   ·intro f;obtain⟨A,o,B⟩:=Vr h he f;exact v x A o f B)
  rw[List.length_map,List.length_range,List.length_range]at q;exact q
 refine⟨⟨⟨c.flat.wd,a,⟨fun i b=>(d i (by rw[<-a]at b;exact b)).1,fun i j b t e=>p i j (by rw[<-a]at b;exact b) (by rw[<-a]at t;exact t) e⟩,fun i b=>(d i (by rw[<-a]at b;exact b)).2.2.1⟩,c,fun i b=>(d i (by rw[<-a]at b;exact b)).2.2.2⟩,?_⟩;obtain⟨_,w⟩:=JO h he hr;show (if 0<wT s r then (fC (sg s) (dB (sg s)) r 0).1 else _)=r;rw[if_pos w.pos];rfl
end
end
end Go.Proofs.YtalhcfjcbbkpgaaGreat
namespace Go.Proofs
open Go.Shelf
def Tryz.lays125_ren:Go.Shelf.Ren:=⟨fun|125=>169|128=>198|129=>199|n=>n,fun|3=>3|4=>4|5=>5|9=>9|46=>177|51=>49|53=>88|n=>n,fun|n=>n⟩
theorem Tryz.lays125:Go.Proofs.Lays.n125 Tryz.prog Tryz.lays125_ren:={
 mixed:=by kernel_rfl
 f125:=Tryz.func169.trans (congrArg some (by kernel_rfl))
 f128:=Tryz.func198.trans (congrArg some (by kernel_rfl))
 f129:=Tryz.func199.trans (congrArg some (by kernel_rfl))
 t3:=Tryz.underlying3
 a3:=Tryz.isAgg3
 z3:=Tryz.sizeOf3
 v3:=Tryz.zeroValue3
 t4:=Tryz.underlying4
 a4:=Tryz.isAgg4
 z4:=Tryz.sizeOf4
 v4:=Tryz.zeroValue4
 t5:=Tryz.underlying5
 a5:=Tryz.isAgg5
 z5:=Tryz.sizeOf5
 v5:=Tryz.zeroValue5
 t9:=Tryz.underlying9
 a9:=Tryz.isAgg9
 z9:=Tryz.sizeOf9
 v9:=Tryz.zeroValue9
 t46:=Tryz.underlying177
 a46:=Tryz.isAgg177
 z46:=Tryz.sizeOf177
 v46:=Tryz.zeroValue177
 t51:=Tryz.underlying49
 a51:=Tryz.isAgg49
 z51:=Tryz.sizeOf49
 v51:=Tryz.zeroValue49
 t53:=Tryz.underlying88
 a53:=Tryz.isAgg88
 z53:=Tryz.sizeOf88
 v53:=Tryz.zeroValue88 }
end Go.Proofs
namespace Go.Proofs.YtalhcfjcbbkpgaaGreat
open Go.RowKit
section
open Go.RowKit
theorem Vs(x:Nat)(w:World)(a:x<=18446744073709551615) :
  Calls Tryz.prog 169 #[.int .u64 x] w fun e w'=>e=.returned (.int .i64 (Lib.bitLen x:Nat))/\w=w' :=
 (Any.bits_Len Tryz.lays125 x w (by omega) (by omega)).mono (fun _ _ ⟨a,h2⟩=>⟨by rw[a];simp,h2.symm⟩)
theorem Vt(n:Nat)(w:World)(d:n<=1000000):Calls Tryz.prog 135 #[.int .i64 n] w fun e w'=>e=.returned (.int .i64 (ou n:Nat))/\w=w':=by
 by_cases h:n<2
 ·have a:decide ((n:Int)<2)=true:=decide_eq_true (by omega);have b:decide (n<2)=true:=decide_eq_true h;have e:ou n=0:=by unfold ou;rw[if_pos h]
  rw[e];go_enter Tryz.func135,Tryz.ntmps135;go_wp2;go_ret;exact⟨rfl,rfl⟩
 ·have a:decide ((n:Int)<2)=false:=decide_eq_false (by omega);have b:decide (n<2)=false:=decide_eq_false h;have e:ou n=Lib.bitLen (n - 1):=by unfold ou;rw[if_neg h]
  rw[e];obtain⟨m,rfl⟩:∃m,n=m+1:=⟨n - 1,by omega⟩
  rw[Nat.add_sub_cancel];have c:=Vs m w (by omega);have f:((m+1:Nat):Int) - 1=(m:Int):=by omega
  have g:(m:Int)+1 - 1=(m:Int):=by omega
  go_enter Tryz.func135,Tryz.ntmps135;go_wp2_with fail;refine c.mono ?_;rintro e w' ⟨rfl,rfl⟩;go_wp2;go_ret;exact⟨rfl,rfl⟩
theorem iF.add1{w wr:World}{b:Nat}{l:List Bool}(h:iF w b l wr)(z:Int)(x:Bool)(j:x=!(z == 0))(p:l.length<900000000) :
  Calls Tryz.prog 136 #[.pointer (some ⟨b,0,none⟩),.slice (some ⟨wr.heap.size,0,none⟩) 1 1] (wr.alloc (.cells #[.int .i64 z] 3)) fun e w'=>e=.returned (.tuple #[])/\iF w b (l ++ [x]) w':=by
 obtain⟨v,a,k,c,m⟩:=h;have g:=(Keeps.refl (fun _=>False) wr).alloc (.cells #[.int .i64 z] 3);have d:=a.apart;have n:=a.lt;refine(D7 b v l (.slice (some ⟨wr.heap.size,0,none⟩) 1 1) [z] _ (a.keeps g (fun h=>h) (fun _ _ h=>h)) (Sl.one wr .i64 z _) (fun q i=>?_) (by simp;omega)).mono ?_
 ·simp only [Value.ownBlock,Option.some.injEq]at i;subst i;exact⟨by omega,fun e=>by have:=(d _ e).2;omega⟩
 ·rintro e w' ⟨rfl,o⟩;refine⟨rfl,?_⟩;have f:=iF.grown k c (m.trans g (fun _ _ h=>h)) o;rw[j];exact f
theorem Vu(b:Nat)(sv:Value)(ps:List Nat)(w:World)(h:PermAt w b sv ps)(hP:dU ps.length (sg ps))(he:ps.length % 2=0)(hl:ps.length<=131072)(hm:∀d,d<ps.length->sg ps (mt d)=mt (sg ps d)) :
  Calls Tryz.prog 93 #[.pointer (some ⟨b,0,none⟩)] w fun e w'=>∃g,e=.returned (.tuple #[.pointer (some ⟨g,0,none⟩),.int .i64 0])/\iF w g (oV (ps.length / 2) (fun e=>sg ps (2 * e)) (ps.length / 2)) w':=by
 have X:Hid (∀W,Keeps (fun _=>False) w W->PermAt W b sv ps):=dh (fun W f=>h.keeps f (fun h=>h) (fun _ _ h=>h));have Y:=Bl b sv ps w h;obtain⟨n,Z⟩:∃n,n=ps.length:=⟨_,rfl⟩
 obtain⟨m,z⟩:∃m,m=ps.length / 2:=⟨_,rfl⟩
 have F:n=2 * m:=by omega
 rw[<-Z]at Y;rw[<-z];have HA:=dh (dn hP hm);have HN:=dh (dn Z z);have aj:n<=131072:=by omega
 clear h hP hm Z z he;have e1:(n:Int) % 2=0:=by omega
 have e2:(n:Int).tmod 2=0:=by rw[Int.tmod_eq_emod_of_nonneg (by omega)];omega
 have e3:(n:Int) / 2=(m:Int):=by omega
 have e4:(n:Int).tdiv 2=(m:Int):=by rw[Int.tdiv_eq_ediv_of_nonneg (by omega)];omega
 have e5:IntKind.i64.wrap (m:Int)=(m:Int):=IntWalk.i64_in _ (by omega);have aa:=dh F;clear F;go_enter Tryz.func93,Tryz.ntmps93;go_wp2_with fail;refine Y.mono ?_;rintro e w' ⟨rfl,rfl⟩;clear Y;go_wp2_with fail;refine(F6 _).mono ?_;rintro e w' ⟨rfl,rfl⟩;have A:iF w w.heap.size [] (w.alloc (.cells #[.slice none 0 0,.int .i64 0] 198)):=⟨_,Ic w,Nat.le_refl _,fun k f=>by simp[Value.ownBlock]at f,(Keeps.refl (fun _=>False) w).alloc _⟩
 have c:=Bl b sv ps _ (X.out _ ((Keeps.refl (fun _=>False) w).alloc (.cells #[.slice none 0 0,.int .i64 0] 198)));rw[<-HN.out.1]at c;obtain⟨g,B⟩:∃g,g=w.heap.size:=⟨_,rfl⟩
 rw[<-B]at A;go_wp2_with fail;rw[<-B];clear B;refine c.mono ?_;rintro e w' ⟨rfl,rfl⟩;clear c;generalize World.alloc _ _=w1 at *;go_wp2_with fail;go_loopg [21] m (fun q iv wr=>∃j:Nat,j<=m/\q=m - j/\iv=.int .i64 j/\iF w g (oV m (fun e=>sg ps (2 * e)) j) wr)
 case atStart=>exact⟨0,Nat.zero_le _,by omega,rfl,A⟩
 case round =>
  clear A;obtain⟨j,hj,G,rfl,H⟩:=hrel;have ab:=dh G;clear G;by_cases ak:j<m
  ·have f:Keeps (fun _=>False) w wr:=by obtain⟨_,_,_,_,f⟩:=id H;exact f
   have I:2 * j+1<ps.length:=by have:=HN.out.1;have:=aa.out;omega
   have t:=q22 b sv ps (2 * j) wr (X.out wr f) (by omega);have i:=q22 b sv ps (2 * j+1) wr (X.out wr f) I;obtain⟨d,C⟩:∃d,d=sg ps (2 * j):=⟨_,rfl⟩
   have J:mt (2 * j)=2 * j+1:=by unfold mt;rw[if_pos (by omega)]
   have K:sg ps (2 * j+1)=mt d:=by rw[<-J,HA.out.2 _ (by omega),C]
   rw[K]at i;rw[<-C]at t;have ad:d<ps.length:=by rw[C];exact HA.out.1.lt _ (by omega)
   have hx:=EO d (by omega);have M:=fun W=>Vt m W (by omega);have x:=q6z m (fun e=>sg ps (2 * e)) j;have a:=qb m (fun e=>sg ps (2 * e)) j;have l:=MS m;have N:(oV m (fun e=>sg ps (2 * e)) j).length<=10000000:=by rw[x];have:j * (ou m+1)<=65536 * 65:=Nat.mul_le_mul (by omega) (by omega);omega
   have e6:(d:Int) / 2=((d / 2:Nat):Int):=by omega
   have e7:(d:Int).tdiv 2=((d / 2:Nat):Int):=by rw[Int.tdiv_eq_ediv_of_nonneg (by omega)];omega
   have e8:(d:Int).tmod 2=((d % 2:Nat):Int):=by rw[Int.tmod_eq_emod_of_nonneg (by omega)];omega
   have e9:(d:Int) % 2=((d % 2:Nat):Int):=by omega
   obtain⟨D,o⟩:∃D,D=d / 2:=⟨_,rfl⟩
   obtain⟨E,p⟩:∃E,E=d % 2:=⟨_,rfl⟩
   rw[<-o]at e6 e7;rw[<-p]at e8 e9;have ah:D<=100000:=by omega
   have ai:E<2:=by omega
   have al:IntKind.u64.wrap (D:Int)=(D:Int):=by rw[IntKind.wrap_u64];omega
   have O:((2 * j:Nat):Int)=2 * (j:Int):=by omega
   have P:((2 * j+1:Nat):Int)=2 * (j:Int)+1:=by omega
   rw[O]at t;rw[P]at i;obtain⟨md,Q⟩:∃md,md=mt d:=⟨_,rfl⟩
   rw[<-Q]at i hx;have V:=dh (dn H (dn N (dn a (dn C (dn o p)))));clear H f C K J x a o p O P N Q I ad;generalize oV m (fun e=>sg ps (2 * e)) j=L at *;generalize c:oV m (fun e=>sg ps (2 * e)) (j+1)=L2 at *;have ae:=dh c;clear c;go_wp2_with fail;refine t.mono ?_;clear t;rintro e w' ⟨rfl,rfl⟩;go_wp2_with fail;refine i.mono ?_;clear i;rintro e w' ⟨rfl,rfl⟩;go_wp2_with fail;refine(M _).mono ?_;rintro e w' ⟨rfl,rfl⟩;clear M;obtain⟨vv,R,hb,S,f⟩:=V.out.1;have r:=LX g vv L D (ou m) wr R (by have:=V.out.2.1;omega) (by omega) l;have HB:=dh (dn hb (dn S f));have y:=dh l;clear R hb S f l;obtain⟨wd,u⟩:∃wd,wd=ou m:=⟨_,rfl⟩
   rw[<-u]at r y;rw[<-u];have af:=dh u;clear u;go_wp2_with fail;refine r.mono ?_;clear r;rintro e w2 ⟨rfl,hg⟩;have T:iF w g (L ++ nE D wd) w2:=iF.grown HB.out.1 HB.out.2.1 HB.out.2.2 hg
   have hA:=T.add1 (E:Int) (E == 1) (by
    have ag:E=0\/E=1:=by omega
    rcases ag with rfl|rfl <;> rfl) (by rw[List.length_append,Gp];have:=V.out.2.1;have:=y.out;omega)
   clear hg T;go_wp2_with fail;refine hA.mono ?_;clear hA;rintro e w3 ⟨rfl,U⟩;have HF:Hid (iF w g L2 w3):=dh (by obtain⟨_,_,a,C,o,p⟩:=V.out;rw[a];unfold xX;rw[<-C,<-o,<-af.out,<-p,<-List.append_assoc];exact U);clear U;go_wp2_with fail;go_roundg (m - (j+1))
   case measure=>rw[ab.out];omega
   case rel=>exact⟨j+1,by omega,rfl,by go_num,by rw[ae.out];exact HF.out⟩
  ·obtain rfl:j=m:=by omega
   have HF:=dh H;clear H;go_wp2;refine bodyPost_ret (v:=.tuple #[.pointer (some ⟨g,0,none⟩),.int .i64 0]) (by simp[results,Tryz.results93,go_sem]) rfl ?_;exact⟨g,rfl,HF.out⟩
end
