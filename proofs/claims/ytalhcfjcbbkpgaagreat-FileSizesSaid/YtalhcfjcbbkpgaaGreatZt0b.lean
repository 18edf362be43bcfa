import Derived.Test.YtalhcfjcbbkpgaaGreatZt09
set_option maxRecDepth 100000
set_option maxHeartbeats 4000000
namespace Go.Proofs.YtalhcfjcbbkpgaaGreat
section
open Go.RowKit
noncomputable def nI(l nm:List Nat)(part i:Nat):Nat:=((List.range i).filter fun d=>rep (sg l) d == d && sg nm d == part).length
theorem Ep(l nm:List Nat)(part i:Nat):nI l nm part (i+1)=nI l nm part i+if rep (sg l) i=i/\sg nm i=part then 1 else 0:=by unfold nI;rw[List.range_succ,List.filter_append,List.length_append];by_cases a:rep (sg l) i=i <;> by_cases b:sg nm i=part <;> simp[a,b]
theorem zP(l nm:List Nat)(part i:Nat):nI l nm part i<=i:=by unfold nI;have:=List.length_filter_le (fun d=>rep (sg l) d == d && sg nm d == part) (List.range i);simpa using this
theorem dU.wG{n:Nat}{S:Nat->Nat}(h:dU n S){d:Nat}(a:d<n):rep S d=d↔∀i,i<per S d->d<=dN S i d:=by
 constructor
 ·intro hr i b;have:=h.jU a (e:=dN S i d) ⟨i,rfl⟩;omega
 ·intro c;obtain⟨i,b,f⟩:=h.iJ a (h.fM a);have g:=c i b;have j:=h.gK a;omega
theorem MK(Y Z:Value)(l nm:List Nat)(part:Nat)(w:World)(hl:Sl .i64 w Y (dD l))(hn:Sl .i64 w Z (dD nm))(b:nm.length=l.length)(hP:dU l.length (sg l))(hb:l.length<=1000000) :
  Calls Tryz.prog 108 #[Y,Z,.int .i64 part] w fun e w'=>e=.returned (.int .i64 (nI l nm part l.length:Nat))/\Keeps (fun _=>False) w w':=by
 have HS:Hid (∀W,Keeps (fun _=>False) w W->Sl .i64 W Y (dD l)):=dh (fun W F=>hl.keeps F (fun _ _ h=>h));have HN:Hid (∀W,Keeps (fun _=>False) w W->Sl .i64 W Z (dD nm)):=dh (fun W F=>hn.keeps F (fun _ _ h=>h));obtain⟨a,cap,rfl,aa,am⟩:=hl.form;obtain⟨a2,ak,rfl,v,H⟩:=hn.form;rw[q01]at aa HS;rw[q01]at v HN;rw[b]at HN;simp only [q01,b];have T:=dh (dn hP b);clear hP hl hn b v H;have h0:=Keeps.refl (fun _=>False) w;generalize I:l.length=L at *;have A:=dh I;clear I;go_enter Tryz.func108,Tryz.ntmps108;go_wp2_with fail;go_loopg [7,14] L (fun m c i wr=>∃j:Nat,j<=L/\m=L - j/\i=.int .i64 j/\c=.int .i64 (nI l nm part j:Nat)/\Keeps (fun _=>False) w wr)
 case atStart=>exact⟨0,Nat.zero_le _,rfl,rfl,rfl,h0⟩
 case round =>
  clear h0;obtain⟨j,hj,f,rfl,rfl,g⟩:=hrel;have HG:=dh f;have J:=Ep l nm part j;have an:=zP l nm part j;clear f;by_cases r:j<L
  ·have ab:j<l.length:=by rw[A.out];exact r
   have hO:=Gu (.slice a L cap) l j wr (HS.out wr g) (by rw[A.out];exact T.out.1) ab (by rw[A.out];exact hb);have ao:=(T.out.1.dQ r).2.1;have K:=T.out.1.wG r;have s:=dh (dn K J);have ad:j<nm.length:=by rw[T.out.2];exact r
   have B:=uG ad;clear K J;obtain⟨x,hx⟩:∃x,x=sg nm j:=⟨_,rfl⟩
   rw[<-hx]at B;have HX:=dh (dn hx B);clear hx B;generalize M:nI l nm part j=c at *;have HC:=dh M;clear M;go_wp2_with fail;refine hO.mono ?_;rintro e w3 ⟨ov,rfl,n,N⟩;have O:(dD (jg (sg l) j)).length=per (sg l) j:=by rw[q01,q0z]
   have P:=n.form;rw[O]at P;obtain⟨oa,oc,rfl,_,ap⟩:=P;have z:=g.trans N (fun _ _ h=>h);have ae:Hid (∀W,Keeps (fun _=>False) w3 W->Sl .i64 W (.slice oa (per (sg l) j) oc) (dD (jg (sg l) j))):=dh (fun W F=>(n.keeps F (fun _ _ h=>h)).sl);have h3:=Keeps.refl (fun _=>False) w3;have af:=dh z;clear hO n O N g z;generalize Q:per (sg l) j=p at *;have ag:=dh Q;clear Q;go_wp2_with fail;go_loopg [9,21] p (fun m tv i wr=>∃k:Nat,k<=p/\m=p - k/\i=.int .i64 k/\∃t:Bool,tv=.bool t/\(t=true↔∀i,i<k->j<=dN (sg l) i j)/\Keeps (fun _=>False) w3 wr)
   case atStart=>exact⟨0,Nat.zero_le _,rfl,rfl,true,rfl,⟨fun _ i hi=>by omega,fun _=>rfl⟩,h3⟩
   case round =>
    clear h3;obtain⟨k,F,f,rfl,t,rfl,U,o⟩:=hrel;have C:=dh f;clear f;by_cases ah:k<p
    ·have R:=Ed (S:=sg l) (d:=j) (by rw[ag.out];exact ah);obtain⟨og,oo,rfl,q⟩:=(ae.out _ o).cellAt (jI R);obtain⟨y,V⟩:∃y,y=dN (sg l) k j:=⟨_,rfl⟩
     rw[<-V]at q
     have HT:Hid (∀t2:Bool,(t2=true↔(t=true/\j<=y))->(t2=true↔∀i,i<k+1->j<=dN (sg l) i j)):=dh (fun t2 h2=>by
      rw[h2,U];constructor
      ·rintro⟨X,h6⟩ i hi;rcases Nat.lt_or_ge i k with h7|h7
       ·exact X i h7
       ·obtain rfl:i=k:=by omega
        rw[<-V];exact h6
      ·intro X;exact⟨fun i hi=>X i (by omega),by rw[V];exact X k (by omega)⟩)
     have D:=dh o;clear U R V o;cases t
     ·go_wp2;go_roundg (p - (k+1))
      case measure=>rw[C.out];omega
      case rel=>exact⟨k+1,by omega,rfl,by go_num,false,rfl,HT.out false (by simp),D.out⟩
     ·by_cases ai:j<=y
      ·have hd:decide ((j:Int)<=(y:Int))=true:=decide_eq_true (by omega);go_wp2;go_roundg (p - (k+1))
       case measure=>rw[C.out];omega
       case rel=>exact⟨k+1,by omega,rfl,by go_num,true,rfl,HT.out true (by simp;exact ai),D.out⟩
      ·have hd:decide ((j:Int)<=(y:Int))=false:=decide_eq_false (by omega);go_wp2;go_roundg (p - (k+1))
       case measure=>rw[C.out];omega
       case rel=>exact⟨k+1,by omega,rfl,by go_num,false,rfl,HT.out false (by simp;omega),D.out⟩
    ·obtain rfl:k=p:=by omega
     have E:=af.out.trans o (fun _ _ h=>h);obtain⟨ng,al,rfl,q⟩:=(HN.out _ E).cellAt HX.out.2;have G:=dh (dn U E);clear U o E;have hr:t=true↔rep (sg l) j=j:=by rw[G.out.1,s.out.1]
     have HR:=dh hr;clear hr;cases t
     ·go_wp2;go_roundg (L - (j+1))
      case measure=>rw[HG.out];omega
      case rel=>exact⟨j+1,by omega,rfl,by go_num,by rw[s.out.2,if_neg (fun h=>by have:=HR.out.2 h.1;cases this)];go_num,G.out.2⟩
     ·by_cases u:x=part
      ·have hd:(((x:Nat):Int) == (part:Int))=true:=by simp[u]
       have aj:=dh u;clear u;go_wp2;go_roundg (L - (j+1))
       case measure=>rw[HG.out];omega
       case rel=>exact⟨j+1,by omega,rfl,by go_num,by rw[s.out.2,if_pos ⟨HR.out.1 (by trivial),by rw[<-HX.out.1];exact aj.out⟩];go_num,G.out.2⟩
      ·have hd:(((x:Nat):Int) == (part:Int))=false:=by rw[beq_eq_false_iff_ne];omega
       go_wp2;go_roundg (L - (j+1))
       case measure=>rw[HG.out];omega
       case rel=>exact⟨j+1,by omega,rfl,by go_num,by rw[s.out.2,if_neg (fun h=>u (by rw[HX.out.1];exact h.2))];go_num,G.out.2⟩
  ·obtain rfl:j=L:=by omega
   have G:=dh g;clear g;go_wp2;go_ret;exact⟨rfl,G.out⟩
end
section
open Go.RowKit
theorem ML(w:World)(a b c d e:Value)(t:TypeId):∀j u,[a,b,c,d,e][j]? = some u->(w.alloc (.cells #[a,b,c,d,e] t)).cell? ((⟨w.heap.size,0,none⟩:Addr).add j)=some u:=by
 intro j u f
 match j,f with
 | 0,f=>simp at f;subst f;simp[Addr.add]
 | 1,f=>simp at f;subst f;simp[Addr.add]
 | 2,f=>simp at f;subst f;simp[Addr.add]
 | 3,f=>simp at f;subst f;simp[Addr.add]
 | 4,f=>simp at f;subst f;simp[Addr.add]
 | j+5,f=>simp at f
def Own5(t:TypeId)(B:Nat)(w:World)(v:Value)(ps:List (List Int)):Prop:=w.ownsRow B t 5 v ps.length (ints ps.flatten)/\∀p ∈ ps,p.length=5
theorem SC:∀{ps:List (List Int)} {j k:Nat} {p:List Int},(∀p ∈ ps,p.length=5)->ps[j]? = some p->k<5->ps.flatten[j * 5+k]? = p[k]?:=by
 intro ps
 induction ps with
 | nil=>intro j k p _ h;simp at h
 | cons q ps c =>
  intro j k p b a d;have e:=b q (by simp);cases j with
  | zero =>
   obtain rfl:q=p:=by simpa using a
   rw[List.flatten_cons,List.getElem?_append_left (by omega)];congr 1;omega
  | succ j =>
   rw[List.flatten_cons,List.getElem?_append_right (by omega),e];have:=c (j:=j) (k:=k) (p:=p) (fun p a=>b p (by simp[a])) (by simpa using a) d;rw[<-this];congr 1;omega
theorem Own5.nil(t:TypeId)(B:Nat)(w:World):Own5 t B w (.slice none 0 0) []:=⟨World.ownsRow_nil _ _ _ _,fun p a=>by cases a⟩
theorem Own5.keeps{t:TypeId}{B:Nat}{w w':World}{v:Value}{ps:List (List Int)}{F:Nat->Prop}(h:Own5 t B w v ps)(k:Keeps F w w')(a:∀b,v.ownBlock=some b->¬F b):Own5 t B w' v ps:=⟨k.owns h.1 a,h.2⟩
theorem Own5.lt{t:TypeId}{B:Nat}{w:World}{v:Value}{ps:List (List Int)}(h:Own5 t B w v ps):∀k,v.ownBlock=some k->B<=k/\k<w.heap.size:=World.ownsRow.lt h.1
theorem Own5.mono{t:TypeId}{B B':Nat}{w:World}{v:Value}{ps:List (List Int)}(h:Own5 t B w v ps)(a:B'<=B):Own5 t B' w v ps:=by
 obtain⟨⟨b,h⟩,c⟩:=h;refine⟨⟨b,?_⟩,c⟩;rcases h with h|⟨g,cap,cur,d,e,f⟩
 ·exact .inl h
 ·exact .inr ⟨g,cap,cur,d,Nat.le_trans a e,f⟩
theorem Own5.form{t:TypeId}{B:Nat}{w:World}{v:Value}{ps:List (List Int)}(h:Own5 t B w v ps):∃a cap,v=.slice a ps.length cap:=by
 obtain⟨⟨_,h⟩,_⟩:=h;rcases h with⟨rfl,b⟩|⟨g,cap,cur,rfl,_⟩
 ·exact⟨none,0,by rw[b]⟩
 ·exact⟨_,cap,rfl⟩
theorem Own5.cell{t:TypeId}{B:Nat}{w:World}{v:Value}{ps:List (List Int)}(h:Own5 t B w v ps){j:Nat}{p:List Int}(a:ps[j]? = some p):∃g cap,v=.slice (some ⟨g,0,none⟩) ps.length cap/\∀k z,p[k]? = some z->w.cell? ⟨g,j * 5+k,none⟩=some (.int .i64 z):=by
 obtain⟨c,d⟩:=h;have i:=iE a;obtain⟨l,e⟩:=id c;rcases e with⟨_,e⟩|⟨g,cap,cur,rfl,_⟩
 ·omega
 ·refine⟨g,cap,rfl,fun k z f=>?_⟩;have b:k<5:=by have:=iE f;have:=d p (List.mem_of_getElem? a);omega
  rw[World.ownsRow.cellAt c _ (by omega)];unfold ints;rw[List.getElem?_map,SC d a b,f];rfl
theorem SE:(Tryz.prog.info? 97).map (fun i=>(i.zero,i.size,i.bytes))=some (some (.agg #[.int .i64 0,.int .i64 0,.int .i64 0,.int .i64 0,.int .i64 0]),5,40):=by kernel_rfl
theorem MN{f:Array Oper}{rest:List Oper}{o:Oper}{a:Act}{Q:Exit->Act->World->Prop}{wr:World}(n:Nat)(j:o.guard=none)(s x:Operand)
  (C:o.op=.call { callee:=.builtin .append,args:=#[s,x],argTypes:=#[94,94] })(B:Nat)(v:Value)(ps:List (List Int))(l m q z3 z4:Int)(r:Hid (ps.length=n))(H:Nat)(D:wr.heap.size=H)(E:a.eval s=v)(F:a.eval x=.slice (some ⟨H,0,none⟩) 1 1)
  (c:Own5 97 B wr v ps)(z:n<=100000000)(K:B<=wr.heap.size)
  (h:∀g cap w',Own5 97 B w' (.slice (some ⟨g,0,none⟩) (n+1) cap) (ps ++ [[l,m,q,z3,z4]])->Keeps (fun k=>v.ownBlock=some k) wr w' ->
   wpList Tryz.prog f Q rest (a.put o.dst (.slice (some ⟨g,0,none⟩) (n+1) cap)) w') :
  wpList Tryz.prog f Q (o :: rest) a (wr.alloc (.cells #[.int .i64 l,.int .i64 m,.int .i64 q,.int .i64 z3,.int .i64 z4] 97)):=by
 obtain⟨i,G,t,w,y⟩:=info_parts SE;have r:=r.out;subst r;subst D;refine wpList_append_lies _ j s x _ C B 97 i _ 5 40 Tryz.underlying94 G t w y rfl (by decide) v ps.length _ E (World.ownsRow.alloc c.1 _) ⟨wr.heap.size,0,none⟩ 1 1 [.int .i64 l,.int .i64 m,.int .i64 q,.int .i64 z3,.int .i64 z4] F rfl (ML _ _ _ _ _ _ _) ?_ (by decide) ?_ ?_ ?_ (wr.heap.size+1) (by simp) ?_
 ·intro u A;simp at A;rcases A with rfl|rfl|rfl|rfl|rfl <;> rfl
 ·unfold maxLen;omega
 ·omega
 ·simp;omega
 ·intro g cap w1 b d I _;refine h g cap w1 ⟨?_,?_⟩ (((Keeps.refl _ wr).alloc _).grown d (fun k J=>.inl J))
  ·rw[List.length_append,List.flatten_append];unfold ints at b ⊢;rw[List.map_append];exact b
  ·intro p e;rcases List.mem_append.1 e with e|e
   ·exact c.2 p e
   ·simp at e;subst e;rfl
noncomputable def iV(s:List Nat):List Nat:=(List.range s.length).map (eF s.length (sg s))
theorem IX(s:List Nat):(iV s).length=s.length:=by simp[iV]
theorem Ba{s:List Nat}{d:Nat}(a:d<s.length):sg (iV s) d=eF s.length (sg s) d:=by simp[sg,iV,a]
def mM(nm:List Nat)(k i:Nat):Nat:=((List.range i).filter fun d=>sg nm d == k).length
theorem IY(nm:List Nat)(k i:Nat):mM nm k (i+1)=mM nm k i+if sg nm i=k then 1 else 0:=by unfold mM;rw[List.range_succ,List.filter_append,List.length_append];by_cases a:sg nm i=k <;> simp[a]
theorem MO(nm:List Nat)(k i:Nat):mM nm k i<=i:=by unfold mM;have:=List.length_filter_le (fun d=>sg nm d == k) (List.range i);simpa using this
noncomputable def CF(s:List Nat)(k:Nat):Nat:=nI s (iV s) k s.length
noncomputable def CG(s:List Nat)(k:Nat):Nat:=nI (dS s) (iV s) k s.length
noncomputable def Bc(s:List Nat)(k:Nat):Nat:=mM (iV s) k s.length / 2
noncomputable def vk(s:List Nat)(k:Nat):Int:=(2 - (CF s k:Int)+Bc s k - CG s k).tdiv 2
noncomputable def qZ(s:List Nat)(d:Nat):List Int:=[(d:Int),CF s (eF s.length (sg s) d),Bc s (eF s.length (sg s) d),CG s (eF s.length (sg s) d),vk s (eF s.length (sg s) d)]
noncomputable def mO(s:List Nat)(j:Nat):List (List Int):=((List.range j).filter fun d=>eH s.length (sg s) d == d).map (qZ s)
theorem vw(s:List Nat)(j:Nat):(mO s j).length=dZ s.length (sg s) j:=by simp[mO,dZ]
theorem SF(s:List Nat)(j:Nat):mO s (j+1)=mO s j ++ if eH s.length (sg s) j=j then [qZ s j]else []:=by unfold mO;rw[List.range_succ,List.filter_append,List.map_append];by_cases h:eH s.length (sg s) j=j <;> simp[h]
noncomputable def jG(s:List Nat)(lone:Nat):List (List Int):=mO s s.length ++ List.replicate lone [-1,1,0,1,0]
theorem dU.nQ{n:Nat}{S:Nat->Nat}(h:dU n S)(c:n % 2=0){j:Nat}(d:j<n):eF n S j=dZ n S j↔eH n S j=j:=by
 have e:eH n S j<=j:=wC (dJ.refl _ _ _);constructor
 ·intro a;rcases Nat.lt_or_ge (eH n S j) j with b|f
  ·have g:=uz n S (eH n S j);rw[if_pos (h.iP c d)]at g;have i:=Dy n S (show eH n S j+1<=j from b);unfold eF at a;omega
  ·omega
 ·intro a;unfold eF;rw[a]
end
section
open Go.RowKit
theorem Bd{s:List Nat}(g:dU s.length (sg s))(c:s.length % 2=0):dU (dS s).length (sg (dS s)):=by
 have f:∀d,d<s.length->sg (dS s) d=sg s (mt d):=fun d a=>by simp[sg,dS,a]
 rw[mK];refine⟨fun d a=>by rw[f d a];exact g.lt _ (dR c a),fun d e a b h=>?_⟩;rw[f d a,f e b]at h;have:=g.inj _ _ (dR c a) (dR c b) h;rw[<-dG d,this,dG]
theorem MP{a M:Int}(c:-M<=a)(d:a<=M):-M<=a.tdiv 2/\a.tdiv 2<=M:=by
 rcases Int.le_total 0 a with h|h
 ·rw[Int.tdiv_eq_ediv_of_nonneg h];omega
 ·have b:a.tdiv 2=-((-a).tdiv 2):=by rw[Int.neg_tdiv,Int.neg_neg]
  rw[b,Int.tdiv_eq_ediv_of_nonneg (by omega)];omega
theorem MQ(sv:Value)(rt:Int)(lone:Nat)(s:List Nat)(w:World)(hs:Sl .i64 w sv (dD s))(hP:dU s.length (sg s))(he:s.length % 2=0)(hl:s.length<=1000000)(a3:lone<=1000000) :
  Calls Tryz.prog 56 #[.agg #[sv,.int .i64 rt,.int .i64 lone]] w fun e w'=>∃v,e=.returned v/\Own5 97 w.heap.size w' v (jG s lone)/\Keeps (fun _=>False) w w':=by
 have k0:Keeps (fun _=>False) w (w.alloc (.cells #[sv,.int .i64 rt,.int .i64 lone] 27)):=(Keeps.refl _ w).alloc _;have R:pK w.heap.size sv rt lone (w.alloc (.cells #[sv,.int .i64 rt,.int .i64 lone] 27)):=heap_alloc_new w _;have aD:=Sn sv rt lone s _ (hs.keeps k0 (fun _ _ h=>h)) hP he hl;have aS:=R.cell;have HS:Hid (∀W,Keeps (fun _=>False) w W->Sl .i64 W sv (dD s)):=dh (fun W hk=>hs.keeps hk (fun _ _ h=>h));have aE:=dh R;have aF:=dh k0;have HP:=dh hP;have c1:(w.alloc (.cells #[sv,.int .i64 rt,.int .i64 lone] 27)).cell? ⟨w.heap.size,1,none⟩=some (.int .i64 rt):=dw R 1;have c2:(w.alloc (.cells #[sv,.int .i64 rt,.int .i64 lone] 27)).cell? ⟨w.heap.size,2,none⟩=some (.int .i64 lone):=dw R 2;clear hs hP R k0;go_enter Tryz.func56,Tryz.ntmps56;go_wp2_with fail;refine aD.mono ?_;rintro e w1 ⟨g,rfl,hM⟩;clear aD c1 c2 aS;obtain⟨_,_,_,_,ap⟩:=id hM;have k1:=aF.out.trans ap (fun _ _ h=>h);have S:=aE.out.keeps ap (fun h=>h);have c0:=dw S 0;have c1:=dw S 1;have c2:=dw S 2;have aG:=Gw sv rt lone s w1 (HS.out w1 k1) he hl;go_wp2_with fail;refine aG.mono ?_;rintro e C ⟨pv,rfl,aq,ar⟩;clear aG c0 c1 c2;have aj:dD ((List.range s.length).map (eF s.length (sg s)))=dD (iV s):=rfl;rw[aj]at hM;have T:Hid (∀W,Keeps (fun _=>False) C W->Sl .i64 W sv (dD s)/\dV (w.alloc (.cells #[sv,.int .i64 rt,.int .i64 lone] 27)) g s.length (fun zs=>zs=dD (iV s)) W/\Sl .i64 W pv (dD (dS s))/\pK w.heap.size sv rt lone W):=dh (fun W hk=>by have kk:=ar.trans hk (fun _ _ h=>h);exact⟨HS.out W (k1.trans kk (fun _ _ h=>h)),hM.keeps kk,(aq.keeps hk (fun _ _ h=>h)).sl,S.keeps kk (fun h=>h)⟩);have aH:=dh (k1.trans ar (fun _ _ h=>h));obtain⟨pa,pc,rfl,aT,a4⟩:=aq.form;rw[q01,mK]at T ⊢;have h0:Own5 97 C.heap.size C (.slice none 0 0) (mO s 0)/\Keeps (fun _=>False) C C:=⟨Own5.nil _ _ _,Keeps.refl _ _⟩
 have au:=mK s;have aU:=dh (Bd HP.out he);generalize aV:dS s=P at *;clear hM aq S k1 ap ar aE aF aj aT;go_wp2_with fail;go_loopg [3,18] s.length (fun m ov i wr=>∃j:Nat,j<=s.length/\m=s.length - j/\i=.int .i64 j/\Own5 97 C.heap.size wr ov (mO s j)/\Keeps (fun _=>False) C wr)
 case atStart=>exact⟨0,Nat.zero_le _,rfl,rfl,h0⟩
 case round =>
  clear h0;obtain⟨j,hj,D,rfl,b,f⟩:=hrel;have HG:=dh D;clear D;by_cases ad:j<s.length
  ·obtain⟨U,r,X,u⟩:=T.out wr f;obtain⟨z,⟨zs,av,rfl,hz⟩,hc,hf⟩:=r.cell j ad;have aw:z=(eF s.length (sg s) j:Nat):=by simp[dD,iV,ad]at hz;exact hz.symm
   subst aw;clear hz av;have E:=HP.out.nQ he ad;have N:=SF s j;obtain⟨oa,oc,rfl⟩:=b.form;rw[vw]at *;have ax:=xG s.length (sg s) j;obtain⟨c,O⟩:∃c,c=dZ s.length (sg s) j:=⟨_,rfl⟩
   rw[<-O]at b E ax ⊢;have HC:=dh O;clear O;by_cases hr:eH s.length (sg s) j=j
   ·have hk:=E.2 hr;rw[hk]at hc;rw[if_pos hr]at N;have HR:=dh (dn hr (dn hk N));have bt:(((c:Nat):Int) != ((c:Nat):Int))=false:=by simp
    have aI:=MK sv (.slice (some ⟨g,0,none⟩) s.length s.length) s (iV s) c wr U (by obtain⟨zs,_,rfl,ho,_⟩:=r;exact ho.sl) (IX s) HP.out hl;have c0:=dw u 0;have HB:=dh u;have HO:=dh b;clear E hr hk N U X u;go_wp2_with fail;refine aI.mono ?_;rintro e w3 ⟨rfl,n⟩;clear aI hc hf r c0;have K:=f.trans n (fun _ _ h=>h);obtain⟨U,r,X,u⟩:=T.out w3 K;have ay:=MK (.slice pa s.length pc) (.slice (some ⟨g,0,none⟩) s.length s.length) P (iV s) c w3 X (by obtain⟨zs,_,rfl,ho,_⟩:=r;exact ho.sl) (by rw[IX,au]) aU.out (by rw[au];exact hl);rw[au]at ay;clear U X u r;go_wp2_with fail;refine ay.mono ?_;rintro e w4 ⟨rfl,ae⟩;clear ay;have a5:=zP s (iV s) c s.length;have a6:=zP P (iV s) c s.length;have HV:Hid (qZ s j=[(j:Int),(nI s (iV s) c s.length:Nat),(mM (iV s) c s.length / 2:Nat),(nI P (iV s) c s.length:Nat),(2 - (nI s (iV s) c s.length:Int)+(mM (iV s) c s.length / 2:Nat) - (nI P (iV s) c s.length:Nat)).tdiv 2]):=dh (by unfold qZ vk CF CG Bc;rw[HR.out.2.1,aV]);generalize nI s (iV s) c s.length=V at *;generalize nI P (iV s) c s.length=B at *;have ak:=K.trans ae (fun _ _ h=>h);obtain⟨A,af⟩:∃A,A=w4.heap.size:=⟨_,rfl⟩
    have aJ:=ak.size;have h5:(w4.alloc (.cells #[.int .i64 j,.int .i64 V,.int .i64 0,.int .i64 B,.int .i64 0] 97)).heap[A]? = some (.cells #[.int .i64 j,.int .i64 V,.int .i64 (mM (iV s) c 0:Nat),.int .i64 B,.int .i64 0] 97 (0,0)):=by rw[af];exact heap_alloc_new w4 _
    have k5:=ae.alloc (.cells #[.int .i64 j,.int .i64 V,.int .i64 0,.int .i64 B,.int .i64 0] 97);have al:=K.trans k5 (fun _ _ h=>h);have am:=dh (dn al ((n.trans k5 (fun _ _ h=>h))));have aK:=Keeps.refl (fun q=>q=A) (w4.alloc (.cells #[.int .i64 j,.int .i64 V,.int .i64 0,.int .i64 B,.int .i64 0] 97));have a0:C.heap.size<=A:=by omega
    have aW:=(f.trans n (fun _ _ h=>h)).size;have a1:wr.heap.size<=A:=by have:=n.size;have:=ae.size;omega
    clear n ae K ak k5 al;go_wp2_with fail;rw[<-af];have a7:=dh af;clear af aJ aW;generalize (w4.alloc (.cells #[.int .i64 j,.int .i64 V,.int .i64 0,.int .i64 B,.int .i64 0] 97))=w5 at *;go_loopg [40] s.length (fun m t wr=>∃i:Nat,i<=s.length/\m=s.length - i/\t=.int .i64 i/\wr.heap[A]? = some (.cells #[.int .i64 j,.int .i64 V,.int .i64 (mM (iV s) c i:Nat),.int .i64 B,.int .i64 0] 97 (0,0))/\Keeps (fun q=>q=A) w5 wr)
    case atStart=>exact⟨0,Nat.zero_le _,rfl,rfl,h5,aK⟩
    case round =>
     clear h5 aK;obtain⟨i,hi,D,rfl,d,Q⟩:=hrel;have ag:=dh D;clear D;have F:=IY (iV s) c i;have aL:=MO (iV s) c i;have H:=am.out.1.trans Q (fun x hx h=>by omega);obtain⟨e,I⟩:∃e,e=mM (iV s) c i:=⟨_,rfl⟩
     rw[<-I]at d F aL;have HE:=dh I;clear I;by_cases az:i<s.length
     ·obtain⟨_,r,_,_⟩:=T.out _ H;obtain⟨z,⟨zs,av,rfl,hz⟩,hc,hf⟩:=r.cell i az;have aw:z=(sg (iV s) i:Nat):=by rw[uG (by rw[IX];exact az)]at hz;exact(Option.some.inj hz).symm
      subst aw;have d2:=dw d 2;have z2:=dx d 2;have an:=jM d 2 (.int .i64 ((e+1:Nat):Int));have aM:=Q.setCell (p:=⟨A,2,none⟩) (.inl rfl) (.int .i64 ((e+1:Nat):Int));have aN:=dh (dn an aM);have aO:=dh (dn d Q);clear r hz av an aM d Q H;obtain⟨y,hy⟩:∃y,y=sg (iV s) i:=⟨_,rfl⟩
      rw[<-hy]at hc;have HY:=dh hy;clear hy;by_cases Y:y=c
      ·have hd:(((y:Nat):Int) == (c:Int))=true:=by simp[Y]
       rw[if_pos (by rw[<-HY.out];exact Y)]at F;have aA:=dh (dn Y F);clear Y F;go_wp2;go_roundg (s.length - (i+1))
       case measure=>rw[ag.out];omega
       case rel=>exact⟨i+1,by omega,rfl,by go_num,by rw[aA.out.2];exact aN.out.1,aN.out.2⟩
      ·have hd:(((y:Nat):Int) == (c:Int))=false:=by rw[beq_eq_false_iff_ne];omega
       rw[if_neg (by rw[<-HY.out];exact Y)]at F;have aA:=dh F;clear F;go_wp2;go_roundg (s.length - (i+1))
       case measure=>rw[ag.out];omega
       case rel=>exact⟨i+1,by omega,rfl,by go_num,by rw[aA.out];exact aO.out.1,aO.out.2⟩
     ·obtain rfl:i=s.length:=by omega
      have d0:=dw d 0;have d1:=dw d 1;have d2:=dw d 2;have d3:=dw d 3;have d4:=dw d 4;have z2:=dx d 2;have z4:=dx d 4;obtain⟨J,I⟩:∃J,J=e / 2:=⟨_,rfl⟩
      have ee:((e:Nat):Int).tdiv 2=(J:Int):=by rw[I,Int.tdiv_eq_ediv_of_nonneg (by omega)];simp
      have a2:J<=s.length:=by omega
      obtain⟨G,hG⟩:∃G:Int,G=(2 - (V:Int)+J - B).tdiv 2:=⟨_,rfl⟩
      have ah:=HO.out;have Z:=(ah.keeps am.out.2 (fun _ _ h=>h)).keeps Q (fun q hq e=>by have:=(ah.lt q hq).2;omega);have k:(wr.setCell ⟨A,2,none⟩ (.int .i64 (J:Int))).heap[A]? = some (.cells #[.int .i64 j,.int .i64 V,.int .i64 J,.int .i64 B,.int .i64 0] 97 (0,0)):=jM d 2 (.int .i64 (J:Int));have l:((wr.setCell ⟨A,2,none⟩ (.int .i64 (J:Int))).setCell ⟨A,4,none⟩ (.int .i64 G)).heap[A]? = some (.cells #[.int .i64 j,.int .i64 V,.int .i64 J,.int .i64 B,.int .i64 G] 97 (0,0)):=jM k 4 (.int .i64 G);have aP:=(Keeps.refl (fun q=>q=A) wr).setCell (p:=⟨A,2,none⟩) (.inl rfl) (.int .i64 (J:Int));have ai:=aP.setCell (p:=⟨A,4,none⟩) (.inl rfl) (.int .i64 G);have ao:=Z.keeps ai (fun q hq e=>by have:=(ah.lt q hq).2;omega);have f1:=dw k 1;have f2:=dw k 2;have f3:=dw k 3;have q0:=dw l 0;have q1:=dw l 1;have q2:=dw l 2;have q3:=dw l 3;have q4:=dw l 4;have y4:=dx k 4;have aB:c<=100000000:=by omega
      have HN:Hid ((mO s j).length=c):=dh (by rw[vw];exact HC.out.symm);have aa:C.heap.size<=((wr.setCell ⟨A,2,none⟩ (.int .i64 (J:Int))).setCell ⟨A,4,none⟩ (.int .i64 G)).heap.size:=by have:=H.size;have:=ai.size;omega
      have aQ:=dh (dn H (dn ai (dn I hG)));have aC:=HV.out;rw[<-HE.out,<-I,<-hG]at aC;have aX:=dh aC;have eG:(2 - (V:Int)+(J:Int) - (B:Int)).tdiv 2=G:=hG.symm;have aR:=MP (a:=2 - (V:Int)+(J:Int) - (B:Int)) (M:=9000000) (by omega) (by omega);rw[eG]at aR;obtain⟨a8,a9⟩:=aR;clear hG aC ah Z k l aP ai I H Q d F;go_wp2_with (at_builtin;go_loud (refine MN c rfl _ _ rfl C.heap.size (.slice oa c oc) (mO s j) j V J B G HN wr.heap.size (by simp) rfl rfl ao aB aa ?_);intro g2 ab w9 o n)
      have HF:=dh (dn (by rw[HR.out.2.2,aX.out];exact o:Own5 97 C.heap.size w9 (.slice (some ⟨g2,0,none⟩) (c+1) ab) (mO s (j+1))) ((aQ.out.1.trans aQ.out.2.1 (fun x hx h=>by omega)).trans n (fun y hy h=>by have:=(HO.out.lt y h).1;omega)));clear o n ao;go_roundg (s.length - (j+1))
      case measure=>rw[HG.out];omega
      case rel=>exact⟨j+1,by omega,rfl,by go_num,HF.out⟩
   ·have aY:eF s.length (sg s) j≠c:=fun h=>hr (E.1 h);rw[if_neg hr,List.append_nil]at N;rw[<-N]at b;have bt:(((eF s.length (sg s) j:Nat):Int) != ((c:Nat):Int))=true:=by rw[bne_iff_ne];omega
    have HF:=dh (dn b f);clear E hr N U X u r b f hf aY;generalize eF s.length (sg s) j=y at *;go_wp2;go_roundg (s.length - (j+1))
    case measure=>rw[HG.out];omega
    case rel=>exact⟨j+1,by omega,rfl,by go_num,HF.out⟩
  ·obtain rfl:j=s.length:=by omega
   have h3:Own5 97 C.heap.size wr _ (mO s s.length ++ List.replicate 0 [-1,1,0,1,0])/\Keeps (fun _=>False) C wr:=⟨by simpa using b,f⟩
   clear b f ad hj HG;go_wp2_with fail;go_loopg [3,11] lone (fun m ov t wr=>∃i:Nat,i<=lone/\m=lone - i/\t=.int .i64 i/\Own5 97 C.heap.size wr ov (mO s s.length ++ List.replicate i [-1,1,0,1,0])/\Keeps (fun _=>False) C wr)
   case atStart=>exact⟨0,Nat.zero_le _,rfl,rfl,h3⟩
   case round =>
    clear h3;obtain⟨i,hi,D,rfl,b,f⟩:=hrel;have ag:=dh D;clear D;obtain⟨_,_,_,u⟩:=T.out wr f;have c2:=dw u 2;have ax:=xG s.length (sg s) s.length;obtain⟨oa,oc,rfl⟩:=b.form;have L:(mO s s.length ++ List.replicate i [-1,1,0,1,0]).length=dZ s.length (sg s) s.length+i:=by rw[List.length_append,vw,List.length_replicate]
    rw[L]at b ⊢;obtain⟨c,O⟩:∃c,c=dZ s.length (sg s) s.length+i:=⟨_,rfl⟩
    rw[<-O]at b L ⊢;have aB:c<=100000000:=by omega
    have HN:=dh L;clear L u O ax;by_cases az:i<lone
    ·have aa:=f.size;have aZ:=dh f;clear f;go_wp2_with (at_builtin;go_loud (refine MN c rfl _ _ rfl C.heap.size (.slice oa c oc) _ (-1) 1 0 1 0 HN wr.heap.size rfl rfl rfl b aB aa ?_);intro g2 ab w3 o n)
     have HF:=dh (dn (by rw[List.replicate_succ',<-List.append_assoc];exact o:Own5 97 C.heap.size w3 (.slice (some ⟨g2,0,none⟩) (c+1) ab) (mO s s.length ++ List.replicate (i+1) [-1,1,0,1,0])) (aZ.out.trans n (fun y hy h=>by have:=(b.lt y h).1;omega)));clear o n b c2;go_roundg (lone - (i+1))
     case measure=>rw[ag.out];omega
     case rel=>exact⟨i+1,by omega,rfl,by go_num,HF.out⟩
    ·obtain rfl:i=lone:=by omega
     have aa:=aH.out.size;have HF:=dh (dn b (aH.out.trans f (fun _ _ h=>h)));clear b f;go_wp2;go_ret;have ho:=HF.out.1.mono (B':=w.heap.size) aa;exact⟨_,rfl,ho,HF.out.2⟩
end
