import Derived.Test.YtalhcfjcbbkpgaaGreatZp01
set_option maxRecDepth 100000
set_option maxHeartbeats 4000000
namespace Go.Proofs.YtalhcfjcbbkpgaaGreat
section
open Go.RowKit
theorem Qu(l:List Bool)(b:Bool):ex (l ++ [b]) (l.length+1)=ex l l.length+if b then 1 else -1:=by rw[Qr];cases b <;> rfl
theorem qc1{zs:List Int}(h:∀z ∈ zs,z=0\/z=1){k:Nat}{z:Int}(b:zs[k]? = some z):(q0z zs).getD k false=(z == 1):=by have a:=Qm h b;have c:=h z (List.mem_of_getElem? b);cases hb:(q0z zs).getD k false <;> rw[hb]at a <;> simp at a <;> subst a <;> rfl
end
section
open Go.RowKit
structure MInv (l:List Bool)(k:Nat)(ms rs:List Int)(st:List Nat):Prop where
 lm:ms.length=l.length
 lr:rs.length=l.length
 hx:ex l k=st.length
 stk:∀(j o:Nat),st[j]? = some o->o<k/\l.getD o false=true/\ex l o=j/\∀p,o<p->p<=k->(j:Int)<ex l p
 done:∀p,p<k->(∃j:Nat,st[j]? = some p)\/∃m:Nat,ms[p]? = some (m:Int)/\jl l p m
 rd:∀p,p<k->∃r:Int,rs[p]? = some r/\KI l p r
theorem MInv.start(l:List Bool):MInv l 0 (List.replicate l.length 0) (List.replicate l.length 0) [] :=
 ⟨by simp,by simp,by rw[DR];rfl,fun j o h=>by simp at h,fun p a=>by omega,fun p a=>by omega⟩
theorem MInv.open{l:List Bool}{k:Nat}{v w:List Int}{b:List Nat}(h:MInv l k v w b)(x:k<l.length)(f:l.getD k false=true)(r:Int)
  (hr:(b=[]/\r=-1)\/∃o,b[b.length - 1]? = some o/\0<b.length/\r=(o:Nat)):MInv l (k+1) v (w.set k r) (b ++ [k]):=by
 have d:=yV l x;rw[f,if_pos rfl,h.hx]at d
 have g:Hr l k r:=by
  rcases hr with⟨rfl,rfl⟩|⟨o,A,D,rfl⟩
  ·exact .inl ⟨h.hx,rfl⟩
  ·obtain⟨y,z,i,m⟩:=h.stk _ _ A;refine .inr ⟨by rw[h.hx];omega,o,rfl,y,by omega,by rw[i,h.hx];omega,fun p e n=>?_⟩;have:=m p e n;rw[h.hx];omega
 refine⟨h.lm,by simpa using h.lr,by simpa using d,fun j o a=>?_,fun p q=>?_,fun p q=>?_⟩
 ·rw[List.getElem?_append]at a;split at a
  ·obtain⟨y,z,i,m⟩:=h.stk _ _ a;refine⟨by omega,z,i,fun p e n=>?_⟩;by_cases q:p<=k
   ·exact m p e q
   ·obtain rfl:p=k+1:=by omega
    rw[d];omega
  ·rename_i B
   have s:j - b.length=0:=by
    rcases Nat.eq_zero_or_pos (j - b.length)with h|h
    ·exact h
    ·rw[List.getElem?_eq_none (by simp;omega)]at a;cases a
   rw[s]at a;simp only [List.getElem?_cons_zero,Option.some.injEq]at a;subst a;have t:j=b.length:=by omega
   subst t;refine⟨by omega,f,h.hx,fun p e n=>?_⟩;obtain rfl:p=k+1:=by omega
   rw[d];omega
 ·by_cases c:p<k
  ·rcases h.done p c with⟨j,a⟩|C
   ·refine .inl ⟨j,?_⟩;rw[List.getElem?_append_left]
    ·exact a
    ·rcases Nat.lt_or_ge j b.length with u | u
     ·exact u
     ·rw[List.getElem?_eq_none u]at a;cases a
   ·exact .inr C
  ·obtain rfl:p=k:=by omega
   exact .inl ⟨b.length,by simp⟩
 ·by_cases c:p<k
  ·rw[List.getElem?_set_ne (by omega)];exact h.rd p c
  ·obtain rfl:p=k:=by omega
   exact⟨r,by rw[List.getElem?_set_self (by rw[h.lr];exact x)],.inl ⟨f,g⟩⟩
theorem MInv.top{l:List Bool}{k:Nat}{g i:List Int}{a:List Nat}(h:MInv l k g i a)(j:Bal l)(b:k<l.length)(m:l.getD k false=false) :
  ∃o,a[a.length - 1]? = some o/\0<a.length/\o<k/\fT l o k:=by
 have c:=yV l b;rw[m,if_neg (by simp),h.hx]at c;have t:=j.2 (k+1) (by omega);have n:0<a.length:=by omega
 obtain⟨o,d⟩:∃o,a[a.length - 1]? = some o:=⟨_,List.getElem?_eq_getElem (by omega)⟩
 obtain⟨e,u,f,q⟩:=h.stk _ _ d;refine⟨o,d,n,e,e,b,by rw[c,f];omega,fun p r s=>?_⟩;rw[f];exact q p r s
theorem MInv.close{l:List Bool}{k:Nat}{w n:List Int}{b:List Nat}(h:MInv l k w n b)(s:k<l.length)(x:l.getD k false=false){o:Nat}(y:b[b.length - 1]? = some o)(E:0<b.length)(t:o<k)(i:fT l o k)(r:Int)(hr:n[o]? = some r) :
  MInv l (k+1) ((w.set k (o:Int)).set o (k:Int)) (n.set k r) (b.take (b.length - 1)):=by
 have u:=yV l s;rw[x,if_neg (by simp),h.hx]at u;refine⟨by simpa using h.lm,by simpa using h.lr,by rw[u,List.length_take];omega,fun j q a=>?_,fun p v=>?_,fun p v=>?_⟩
 ·rw[List.getElem?_take]at a;split at a
  ·obtain⟨m,c,z,A⟩:=h.stk _ _ a;refine⟨by omega,c,z,fun p B F=>?_⟩;by_cases v:p<=k
   ·exact A p B v
   ·obtain rfl:p=k+1:=by omega
    rw[u];omega
  ·cases a
 ·by_cases d:p=o
  ·subst d;exact .inr ⟨k,by rw[List.getElem?_set_self (by rw[List.length_set,h.lm];omega)],i.wX⟩
  ·rw[List.getElem?_set_ne (fun e=>d e.symm)];by_cases f:p<k
   ·rw[List.getElem?_set_ne (by omega)];rcases h.done p f with⟨j,a⟩|C
    ·refine .inl ⟨j,?_⟩
     have D:j<b.length:=by
      rcases Nat.lt_or_ge j b.length with g | g
      ·exact g
      ·rw[List.getElem?_eq_none g]at a;cases a
     rw[List.getElem?_take,if_pos]
     ·exact a
     ·rcases Nat.lt_or_ge j (b.length - 1)with g | g
      ·exact g
      ·obtain rfl:j=b.length - 1:=by omega
       rw[y]at a;simp only [Option.some.injEq]at a;exact absurd a.symm d
    ·exact .inr C
   ·obtain rfl:p=k:=by omega
    exact .inr ⟨o,by rw[List.getElem?_set_self (by rw[h.lm];exact s)],i.wY⟩
 ·by_cases f:p<k
  ·rw[List.getElem?_set_ne (by omega)];exact h.rd p f
  ·obtain rfl:p=k:=by omega
   obtain⟨G,m,c⟩:=h.rd o t;rw[hr]at m;simp only [Option.some.injEq]at m;subst m;refine⟨r,by rw[List.getElem?_set_self (by rw[h.lr];exact s)],.inr ⟨x,o,i,?_⟩⟩;rcases c with⟨_,c⟩|⟨c,_⟩
   ·exact c
   ·rw[i.opens.1]at c;cases c
theorem MInv.fin{l:List Bool}{b c:List Int}{d:List Nat}(h:MInv l l.length b c d)(g:Bal l):∀p,p<l.length->(∃m:Nat,b[p]? = some (m:Int)/\jl l p m)/\∃r:Int,c[p]? = some r/\KI l p r:=by
 intro p e;refine⟨?_,h.rd p e⟩;have i:=h.hx;rw[g.1]at i;have a:d=[]:=List.eq_nil_of_length_eq_zero (by omega);rcases h.done p e with⟨j,f⟩|k
 ·rw[a]at f;simp at f
 ·exact k
theorem dH.set{B:Nat}{w:World}{g n cap:Nat}{zs:List Int}(h:dH B w (.slice (some ⟨g,0,none⟩) n cap) zs)(i:Nat)(z:Int):dH B (w.setCell ⟨g,i,none⟩ (.int .i64 z)) (.slice (some ⟨g,0,none⟩) n cap) (zs.set i z):=by
 have d:n=zs.length:=by obtain⟨a,c,b,_⟩:=h.form;simp only [Value.slice.injEq]at b;exact b.2.1
 subst d;have:=q5z h i (.int .i64 z);unfold dH ints at *;rw[List.length_set,List.map_set];exact this
theorem dH.other{B:Nat}{w:World}{v:Value}{zs:List Int}(h:dH B w v zs)(a:Addr)(b:v.ownBlock≠some a.block)(u:Value):dH B (w.setCell a u) v zs :=
 ownsRow_setCell_other h b u
theorem dH.cell{B:Nat}{w:World}{g n cap:Nat}{zs:List Int}(h:dH B w (.slice (some ⟨g,0,none⟩) n cap) zs){i:Nat}{z:Int}(a:zs[i]? = some z):w.cell? ⟨g,i,none⟩=some (.int .i64 z)/\w.frozen? ⟨g,i,none⟩=false:=by
 have f:i<zs.length:=by
  rcases Nat.lt_or_ge i zs.length with b | b
  ·exact b
  ·rw[List.getElem?_eq_none b]at a;cases a
 obtain⟨j,c,d,_,_,e,_,_⟩:=ru h (by omega);simp only [Value.slice.injEq,Option.some.injEq,Addr.mk.injEq,and_true]at d;obtain⟨rfl,_⟩:=d;exact e i (.int .i64 z) (by rw[ints,List.getElem?_map,a];rfl)
theorem dH.has{B:Nat}{w:World}{g n cap:Nat}{zs:List Int}(h:dH B w (.slice (some ⟨g,0,none⟩) n cap) zs)(i:Nat)(a:i<zs.length):∃z:Int,w.cell? ⟨g,i,none⟩=some (.int .i64 z)/\w.frozen? ⟨g,i,none⟩=false :=
 ⟨_,h.cell (List.getElem?_eq_getElem a)⟩
theorem oU{B:Nat}{w:World}{a:Option Addr}{n cap:Nat}{zs:List Int}(h:dH B w (.slice a n cap) zs)(d:0<zs.length):∃g,a=some ⟨g,0,none⟩:=by obtain⟨g,b,c,_⟩:=ru h d;simp only [Value.slice.injEq]at c;exact⟨g,c.1⟩
theorem dH.take{B:Nat}{w:World}{v:Value}{a:Option Addr}{n cap:Nat}{zs:List Int}(h:dH B w v zs)(f:v=.slice a n cap)(m:Nat)(j:m<=zs.length):dH B w (.slice a m cap) (zs.take m):=by
 obtain⟨r,k⟩:=h;have l:(zs.take m).length=m:=by simp;omega
 unfold dH;rw[l];refine⟨by simp[ints];omega,?_⟩;rcases k with⟨b,s⟩|⟨g,i,cur,b,o,p,q,c,d,e⟩
 ·rw[f]at b;simp only [Value.slice.injEq]at b;obtain⟨rfl,rfl,rfl⟩:=b;refine .inl ⟨?_,by omega⟩;obtain rfl:m=0:=by omega
  rfl
 ·rw[f]at b;simp only [Value.slice.injEq]at b;obtain⟨rfl,rfl,rfl⟩:=b;refine .inr ⟨g,cap,cur,rfl,o,p,by omega,c,d,?_⟩;simp only [Nat.mul_one]at e ⊢;rw[ints,List.map_take];unfold ints at e;rw[<-e,List.take_take,Nat.min_eq_left j]
theorem jA{l:List Nat}{i x:Nat}(h:l[i]? = some x):(dD l)[i]? = some (x:Int):=by simp[dD,h]
theorem q01(l:List Nat):(dD l).length=l.length:=by simp[dD]
theorem oz{b:Array Oper}{rest:List Oper}{o:Oper}{a:Act}{Q:Exit->Act->World->Prop}{wr:World}(n:Nat)(e:o.guard=none)(s x:Operand)
  (i:o.op=.call { callee:=.builtin .append,args:=#[s,x],argTypes:=#[25,25] })(B:Nat)(v:Value)(zs:List Int)(z:Int)(f:Hid (zs.length=n))(H:Nat)(j:wr.heap.size=H)(l:a.eval s=v)(m:a.eval x=.slice (some ⟨H,0,none⟩) 1 1)
  (c:dH B wr v zs)(d:n<=10000000000)(p:B<=wr.heap.size)
  (h:∀g cap w',dH B w' (.slice (some ⟨g,0,none⟩) (n+1) cap) (zs ++ [z])->Keeps (fun k=>v.ownBlock=some k) wr w'->(v.ownBlock=some g\/wr.heap.size<=g)->B<=g ->
   wpList Tryz.prog b Q rest (a.put o.dst (.slice (some ⟨g,0,none⟩) (n+1) cap)) w') :
  wpList Tryz.prog b Q (o :: rest) a (wr.alloc (.cells #[.int .i64 z] 3)):=by
 have f:=f.out;subst f;exact FE e s x i B v zs z H j l m c d p h
def yE(w:World)(l:List Bool)(a b k:Nat)(c:Value)(wr:World):Prop :=
 ∃d e f,MInv l k d e f/\dH w.heap.size wr (.slice (some ⟨a,0,none⟩) l.length l.length) d/\dH w.heap.size wr (.slice (some ⟨b,0,none⟩) l.length l.length) e/\dH w.heap.size wr c (dD f) /\
  a≠b/\c.ownBlock≠some a/\c.ownBlock≠some b/\Keeps (fun _=>False) w wr
theorem yE.start(w:World)(l:List Bool)(n:l.length<=100000000)(a b:Nat)(j:(a=w.heap.size/\b=w.heap.size+1)\/(b=w.heap.size/\a=w.heap.size+1)) :
  yE w l a b 0 (.slice none 0 0) (((w.alloc (.cells (madeCells #[.int .i64 0] l.length) 3)).alloc (.cells (madeCells #[.int .i64 0] l.length) 3)).drew):=by
 have k:(madeCells #[.int .i64 0] l.length).toList=ints (List.replicate l.length 0):=by rw[toList_madeCells_one];simp[ints]
 have d:=World.ownsRow_lit (base:=w.heap.size) (e:=3) (size:=1) w (madeCells #[.int .i64 0] l.length) l.length (Nat.le_refl _) (by unfold maxLen;omega) (by rw[size_madeCells];omega);have c:=World.ownsRow_lit (base:=w.heap.size) (e:=3) (size:=1) (w.alloc (.cells (madeCells #[.int .i64 0] l.length) 3)) (madeCells #[.int .i64 0] l.length) l.length (by simp) (by unfold maxLen;omega) (by rw[size_madeCells];omega);rw[k]at d c;have m:(w.alloc (.cells (madeCells #[.int .i64 0] l.length) 3)).heap.size=w.heap.size+1:=by simp
 rw[m]at c
 have f:dH w.heap.size (((w.alloc (.cells (madeCells #[.int .i64 0] l.length) 3)).alloc (.cells (madeCells #[.int .i64 0] l.length) 3)).drew) (.slice (some ⟨w.heap.size,0,none⟩) l.length l.length) (List.replicate l.length 0):=by
  have:dH w.heap.size (w.alloc (.cells (madeCells #[.int .i64 0] l.length) 3)) (.slice (some ⟨w.heap.size,0,none⟩) l.length l.length) (List.replicate l.length 0):=by unfold dH;rw[List.length_replicate];exact d
  exact(this.alloc _).keeps ((Keeps.refl (fun _=>False) _).drew) (fun _ _ h=>h)
 have g:dH w.heap.size (((w.alloc (.cells (madeCells #[.int .i64 0] l.length) 3)).alloc (.cells (madeCells #[.int .i64 0] l.length) 3)).drew) (.slice (some ⟨w.heap.size+1,0,none⟩) l.length l.length) (List.replicate l.length 0):=by
  have:dH w.heap.size ((w.alloc (.cells (madeCells #[.int .i64 0] l.length) 3)).alloc (.cells (madeCells #[.int .i64 0] l.length) 3)) (.slice (some ⟨w.heap.size+1,0,none⟩) l.length l.length) (List.replicate l.length 0):=by unfold dH;rw[List.length_replicate];exact c
  exact this.keeps ((Keeps.refl (fun _=>False) _).drew) (fun _ _ h=>h)
 have i:Keeps (fun _=>False) w (((w.alloc (.cells (madeCells #[.int .i64 0] l.length) 3)).alloc (.cells (madeCells #[.int .i64 0] l.length) 3)).drew):=(((Keeps.refl _ w).alloc _).alloc _).drew;rcases j with⟨rfl,rfl⟩|⟨rfl,rfl⟩
 ·exact⟨_,_,[],MInv.start l,f,g,dH.nil _ _,by omega,by simp[Value.ownBlock],by simp[Value.ownBlock],i⟩
 ·exact⟨_,_,[],MInv.start l,g,f,dH.nil _ _,by omega,by simp[Value.ownBlock],by simp[Value.ownBlock],i⟩
theorem yE.pushed{w a r:World}{l:List Bool}{d f k g c n:Nat}{s t:List Int}{i:List Nat}{j:Value}(A:MInv l (k+1) s t (i ++ [k]))(B:dH w.heap.size a (.slice (some ⟨d,0,none⟩) l.length l.length) s)(hr:dH w.heap.size a (.slice (some ⟨f,0,none⟩) l.length l.length) t)
  (z:dH w.heap.size r (.slice (some ⟨g,0,none⟩) (n+1) c) (dD i ++ [(k:Int)]))(u:Keeps (fun k=>j.ownBlock=some k) a r)(v:d≠f)(m:j.ownBlock≠some d)(o:j.ownBlock≠some f)(y:dH w.heap.size a j (dD i))(_:w.heap.size<=f)(_:w.heap.size<=d)
  (C:Keeps (fun _=>False) w a)(p:j.ownBlock=some g\/a.heap.size<=g)(D:d<a.heap.size)(E:f<a.heap.size):yE w l d f (k+1) (.slice (some ⟨g,0,none⟩) (n+1) c) r:=by
 have F:dD i ++ [(k:Int)]=dD (i ++ [k]):=by simp[dD]
 rw[F]at z
 have G:g≠d:=by
  rcases p with h|h
  ·intro e;rw[e]at h;exact m h
  ·omega
 have H:g≠f:=by
  rcases p with h|h
  ·intro e;rw[e]at h;exact o h
  ·omega
 refine⟨s,t,_,A,B.keeps u (fun b q h=>?_),hr.keeps u (fun b q h=>?_),z,v,by simp[Value.ownBlock];exact G,by simp[Value.ownBlock];exact H,C.trans u (fun x I h=>by have:=(y.lt x h).1;omega)⟩
 ·simp only [Value.ownBlock,Option.some.injEq]at q;subst q;exact m h
 ·simp only [Value.ownBlock,Option.some.injEq]at q;subst q;exact o h
theorem Qv(sv:Value)(zs:List Int)(w:World)(hs:Sl .i64 w sv zs)(ak:∀z ∈ zs,z=0\/z=1)(hl:zs.length<=100000000)(hB:Bal (q0z zs)) :
  Calls Tryz.prog 183 #[sv] w fun e w'=>∃h b ov,e=.returned (.tuple #[.slice (some ⟨h,0,none⟩) zs.length zs.length,.slice (some ⟨b,0,none⟩) zs.length zs.length])/\yE w (q0z zs) h b zs.length ov w':=by
 obtain⟨a,cap,rfl,aI,aJ,_,hc⟩:=hs;have ad:=Hq zs;obtain⟨i,hi,al,J,am⟩:=info_parts nX;have ae:=fun w=>run_make (P:=Tryz.prog) w 25 3 i _ Tryz.underlying25 hi al .i64 .i64 (zs.length:Int) (zs.length:Int) (by omega) (Int.le_refl _) (by rw[am];omega) (by omega);simp only [J,Int.toNat_natCast,Nat.mul_one]at ae;have K:=yE.start w (q0z zs) (by omega);rw[ad]at K;have af:=dh K;have HB:=dh (dn hB ad);clear K hB ad hi al J am;go_enter Tryz.func183,Tryz.ntmps183;go_wp2_with fail;go_region
 case' _ =>
  have hS:=af.out w.heap.size (w.heap.size+1) (.inl ⟨rfl,rfl⟩);obtain⟨h,C⟩:∃h,h=w.heap.size:=⟨_,rfl⟩
  obtain⟨b,D⟩:∃b,b=w.heap.size+1:=⟨_,rfl⟩
  rw[<-D,<-C]at hS;rw[<-D,<-C]
 rotate_left
 case' _ =>
  have hS:=af.out (w.heap.size+1) w.heap.size (.inr ⟨rfl,rfl⟩);obtain⟨b,D⟩:∃b,b=w.heap.size:=⟨_,rfl⟩
  obtain⟨h,C⟩:∃h,h=w.heap.size+1:=⟨_,rfl⟩
  rw[<-C,<-D]at hS;rw[<-C,<-D]
 all_goals
  clear af ae C D;go_wp2_with fail;go_loopw [6,18] (fun ov i wr=>∃k:Nat,k<=zs.length/\i=.int .i64 k/\yE w (q0z zs) h b k ov wr) (fun _ i _=>zs.length - (intOf i).toNat)
  case atStart=>exact⟨0,Nat.zero_le _,rfl,hS⟩
  case round =>
   obtain⟨k,hk,rfl,ms,rs,W,E,L,hr,F,f,G,s,A⟩:=hrel;have aK:=A.size;have an:=F.form;obtain⟨n,X⟩:∃n,n=(dD W).length:=⟨_,rfl⟩
   rw[<-X]at an;rw[q01]at X;obtain⟨oa,oc,rfl,aF,aG⟩:=an;have M:=E.lm;have N:=E.lr;rw[HB.out.2]at M N;by_cases Y:k<zs.length
   ·have hz:=List.getElem?_eq_getElem (l:=zs) (i:=k) (by omega);obtain⟨g,off,rfl,O⟩:=hc k _ hz;have az:=A.oQ O;clear hS;have c:=qc1 ak hz;generalize zs[k]=z at *;have ao:n<=10000000000:=by have h1:=Qp (q0z zs) k (by rw[HB.out.2];exact hl);rw[E.hx,<-X]at h1;omega
    obtain⟨x1,ap,aL⟩:=hr.has k (by omega);obtain⟨x2,ae,aM⟩:=L.has k (by omega);have HN:Hid ((dD W).length=n):=dh (by rw[q01];exact X.symm);have v:=(hr.lt b rfl)
    have H:=(L.lt h rfl)
    clear hc hz O;cases J:(z == 1)
    ·rw[J]at c;obtain⟨o,Z,x,ag,aq⟩:=E.top HB.out.1 (by rw[HB.out.2];exact Y) c;obtain⟨r,ah,aA⟩:=E.rd o ag;clear aA;have t:=E.close (by rw[HB.out.2];exact Y) c Z x ag aq r ah;obtain⟨aN,aO⟩:=hr.cell ah;obtain⟨x3,aB,aP⟩:=L.has o (by omega);obtain⟨m,Q⟩:∃m,n=m+1:=⟨n - 1,by omega⟩
     rw[<-X,Q,show m+1 - 1=m by omega]at Z t;have R:=jA Z;obtain⟨og,rfl⟩:=oU F (by rw[q01];omega);obtain⟨ar,aC⟩:=F.cell R;have ai:=F.take rfl m (by rw[q01];omega);have au:(dD W).take m=dD (W.take m):=by simp[dD]
     rw[au]at ai;have I:og≠h:=fun e=>G (by rw[e];rfl);have S:og≠b:=fun e=>s (by rw[e];rfl);have aD:=I.symm;have av:=S.symm;have aj:=f.symm;have y:=((L.set k o).set o k).other ⟨b,k,none⟩ (by simp[Value.ownBlock];exact f) (.int .i64 r);have u:=(((hr.other ⟨h,k,none⟩ (by simp[Value.ownBlock];exact aj) (.int .i64 o)).other ⟨h,o,none⟩ (by simp[Value.ownBlock];exact aj) (.int .i64 k))).set k r;have aw:=(((ai.other ⟨h,k,none⟩ (by simp[Value.ownBlock];exact I) (.int .i64 o)).other ⟨h,o,none⟩ (by simp[Value.ownBlock];exact I) (.int .i64 k))).other ⟨b,k,none⟩ (by simp[Value.ownBlock];exact S) (.int .i64 r);have q:=((A.setCell (p:=⟨h,k,none⟩) (.inr H.1) (.int .i64 o)).setCell (p:=⟨h,o,none⟩) (.inr H.1) (.int .i64 k)).setCell (p:=⟨b,k,none⟩) (.inr v.1) (.int .i64 r);have aQ:o<zs.length:=by omega
     have aH:¬o=k:=by omega
     have ax:¬k=o:=by omega
     have q1:(wr.setCell ⟨h,k,none⟩ (.int .i64 o)).cell? ⟨h,o,none⟩=some (.int .i64 x3):=by rw[World.cell?_setCell_other _ _ _ _ (by intro e;exact ax (congrArg Addr.off e))];exact aB
     have q2:((wr.setCell ⟨h,k,none⟩ (.int .i64 o)).setCell ⟨h,o,none⟩ (.int .i64 k)).cell? ⟨b,k,none⟩=some (.int .i64 x1):=by rw[World.cell?_setCell_other _ _ _ _ (by intro e;exact f (congrArg Addr.block e)),World.cell?_setCell_other _ _ _ _ (by intro e;exact f (congrArg Addr.block e))];exact ap
     have B:=dh (dn t (dn y (dn u (dn aw q))));clear E t L y hr u F ai aw q c au R X aq Z x ah M N ag HN;subst Q;go_wp2_with fail;go_roundw
     case rel=>exact⟨k+1,by omega,by go_num,_,_,_,B.out.1,B.out.2.1,B.out.2.2.1,B.out.2.2.2.1,f,by simp[Value.ownBlock];exact I,by simp[Value.ownBlock];exact S,B.out.2.2.2.2⟩
     case measure=>simp[intOf];omega
    ·rw[J]at c;by_cases aE:n=0
     ·have ab:W=[]:=List.eq_nil_of_length_eq_zero (by omega);have t:=E.open (by rw[HB.out.2];exact Y) c (-1) (.inl ⟨ab,rfl⟩);have y:=L.other ⟨b,k,none⟩ (by simp[Value.ownBlock];exact f) (.int .i64 (-1));have u:=hr.set k (-1);have x:=F.other ⟨b,k,none⟩ s (.int .i64 (-1));have q:=A.setCell (p:=⟨b,k,none⟩) (.inr v.1) (.int .i64 (-1));have T:w.heap.size<=(wr.setCell ⟨b,k,none⟩ (.int .i64 (-1))).heap.size:=q.size;have B:=dh (dn t (dn y (dn u q)));clear E t L y hr u F q c X ab M N;subst aE;go_wp2_with (at_builtin;refine oz 0 rfl _ _ rfl w.heap.size (.slice oa 0 oc) (dD W) k HN wr.heap.size (by simp) rfl rfl x ao T ?_;intro g2 ay w3 j U V hg)
      have d:=yE.pushed B.out.1 B.out.2.1 B.out.2.2.1 j U f G s x v.1 H.1 B.out.2.2.2 V (by simpa using H.2) (by simpa using v.2);have HF:=dh d;clear d j U V;go_wp2;go_roundw
      case rel=>exact⟨k+1,by omega,by go_num,HF.out⟩
      case measure=>simp[intOf];omega
     ·obtain⟨o,aa⟩:∃o,W[W.length - 1]? = some o:=⟨_,List.getElem?_eq_getElem (by omega)⟩
      obtain⟨m,Q⟩:∃m,n=m+1:=⟨n - 1,by omega⟩
      have t:=E.open (by rw[HB.out.2];exact Y) c o (.inr ⟨o,aa,by omega,rfl⟩);rw[<-X,Q,show m+1 - 1=m by omega]at aa;have R:=jA aa;obtain⟨og,rfl⟩:=oU F (by rw[q01];omega);obtain⟨ar,aC⟩:=F.cell R;have I:og≠h:=fun e=>G (by rw[e];rfl);have S:og≠b:=fun e=>s (by rw[e];rfl);have aD:=I.symm;have av:=S.symm;have aj:=f.symm;have y:=(L.other ⟨b,k,none⟩ (by simp[Value.ownBlock];exact f) (.int .i64 (-1))).other ⟨b,k,none⟩ (by simp[Value.ownBlock];exact f) (.int .i64 o);have u:=(hr.set k (-1)).set k o;rw[List.set_set]at u;have x:=(F.other ⟨b,k,none⟩ s (.int .i64 (-1))).other ⟨b,k,none⟩ s (.int .i64 o);have q:=(A.setCell (p:=⟨b,k,none⟩) (.inr v.1) (.int .i64 (-1))).setCell (p:=⟨b,k,none⟩) (.inr v.1) (.int .i64 o);have T:w.heap.size<=((wr.setCell ⟨b,k,none⟩ (.int .i64 (-1))).setCell ⟨b,k,none⟩ (.int .i64 o)).heap.size:=q.size;have q1:(wr.setCell ⟨b,k,none⟩ (.int .i64 (-1))).cell? ⟨og,m,none⟩=some (.int .i64 o):=by rw[World.cell?_setCell_other _ _ _ _ (by intro e;exact av (congrArg Addr.block e))];exact ar
      have q2:(wr.setCell ⟨b,k,none⟩ (.int .i64 (-1))).cell? ⟨b,k,none⟩=some (.int .i64 (-1)):=World.cell?_setCell_same _ _ _ ap;have B:=dh (dn t (dn y (dn u q)));clear E t L y hr u F q c X M N aa R;subst Q;go_wp2_with (at_builtin;refine oz (m+1) rfl _ _ rfl w.heap.size (.slice (some ⟨og,0,none⟩) (m+1) oc) (dD W) k HN wr.heap.size (by simp) rfl rfl x ao T ?_;intro g2 ay w3 j U V hg)
      have d:=yE.pushed B.out.1 B.out.2.1 B.out.2.2.1 j U f G s x v.1 H.1 B.out.2.2.2 V (by simpa using H.2) (by simpa using v.2);have HF:=dh d;clear d j U V;go_wp2;go_roundw
      case rel=>exact⟨k+1,by omega,by go_num,HF.out⟩
      case measure=>simp[intOf];omega
   ·obtain rfl:k=zs.length:=by omega
    have d:yE w (q0z zs) h b zs.length (.slice oa n oc) wr:=⟨ms,rs,W,E,L,hr,F,f,G,s,A⟩
    have HF:=dh d;clear d hS E L hr F G s A hc ak X M N;go_wp2;go_ret2;exact⟨h,b,_,rfl,HF.out⟩
end
section
open Go.RowKit
def l6:List Bool:=q0z [1,1,0,1,0,0]
end
