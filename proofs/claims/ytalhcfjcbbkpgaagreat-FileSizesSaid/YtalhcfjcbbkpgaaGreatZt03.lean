import Derived.Lib.Bytealg
import Derived.Test.YtalhcfjcbbkpgaaGreatZt02
set_option maxRecDepth 100000
set_option maxHeartbeats 4000000
namespace Go.Proofs.YtalhcfjcbbkpgaaGreat
section
open Go.RowKit
theorem Rf:(Tryz.prog.info? 5).map (fun i=>(i.zero,i.size,i.bytes))=some (some (.int .u8 0),1,1):=by kernel_rfl
def Gh(ks:List Nat):List Value:=ks.map fun k:Nat=>Value.int .u8 k
def gQ(w:World)(b:Nat)(v:Value)(ks:List Nat):Prop :=
 w.heap[b]? = some (.cells #[v] 231 (0,0))/\w.ownsRow 0 5 1 v ks.length (Gh ks)
theorem gQ.lt{w:World}{b:Nat}{v:Value}{ks:List Nat}(h:gQ w b v ks):b<w.heap.size:=lt_of_block h.1
theorem gQ.apart{w:World}{b:Nat}{v:Value}{ks:List Nat}(h:gQ w b v ks):∀k,v.ownBlock=some k->k≠b/\k<w.heap.size:=by
 intro k a;obtain⟨d,_,e⟩:=h;rcases e with⟨rfl,_⟩|⟨g,cap,cur,rfl,_,c,_⟩
 ·simp[Value.ownBlock]at a
 ·simp only [Value.ownBlock,Option.some.injEq]at a;subst a;refine⟨?_,lt_of_block c⟩;rintro rfl;rw[d]at c;simp at c
theorem gQ.keeps{w w':World}{F:Nat->Prop}{b:Nat}{v:Value}{ks:List Nat}(h:gQ w b v ks)(k:Keeps F w w')(a:¬F b)(hv:∀k,v.ownBlock=some k->¬F k):gQ w' b v ks :=
 ⟨k.at h.1 a,k.owns h.2 hv⟩
theorem gQ.form{w:World}{b:Nat}{v:Value}{ks:List Nat}(h:gQ w b v ks):∃a cap,v=.slice a ks.length cap/\ks.length<=cap/\cap<=9223372036854775807/\∀j k,ks[j]? = some k->∃g,a=some ⟨g,0,none⟩/\w.cell? ⟨g,j,none⟩=some (.int .u8 (k:Nat)):=by
 by_cases f:0<ks.length
 ·obtain⟨g,cap,rfl,i,d,l,_,_⟩:=qR h.2 f;refine⟨_,cap,rfl,i,by unfold maxLen at d;omega,fun j k c=>⟨g,rfl,?_⟩⟩;exact(l j (.int .u8 (k:Nat)) (by rw[Gh,List.getElem?_map,c];rfl)).1
 ·have m:ks=[]:=List.eq_nil_of_length_eq_zero (by omega);subst m;obtain⟨_,_,d⟩:=h;rcases d with⟨rfl,_⟩|⟨g,cap,cur,rfl,_,p,o,e,_⟩
  ·exact⟨none,0,rfl,by simp,by decide,fun j k c=>by simp at c⟩
  ·exact⟨_,cap,rfl,by simp,by unfold maxLen at e;omega,fun j k c=>by simp at c⟩
theorem Rh(w:World):gQ (w.alloc (.cells #[.slice none 0 0] 231)) w.heap.size (.slice none 0 0) [] :=
 ⟨heap_alloc_new w _,World.ownsRow_nil _ _ _ _⟩
theorem LH(w:World) :
  Calls Tryz.prog 164 #[] w fun e w'=>e=.returned (.pointer (some ⟨w.heap.size,0,none⟩))/\w'=w.alloc (.cells #[.slice none 0 0] 231):=by
 go_enter Tryz.func164,Tryz.ntmps164;go_wp2;go_ret;exact⟨rfl,rfl⟩
theorem Ri(b:Nat)(v:Value)(ks:List Nat)(w:World)(h:gQ w b v ks) :
  Calls Tryz.prog 166 #[.pointer (some ⟨b,0,none⟩)] w fun e w'=>e=.returned (.int .i64 ks.length)/\w=w':=by
 have c:w.cell? ⟨b,0,none⟩=some v:=dw h.1 0;obtain⟨a,cap,rfl,d,f,_⟩:=h.form;clear h;go_enter Tryz.func166,Tryz.ntmps166;go_wp2;go_ret;exact⟨rfl,rfl⟩
def ji(w:World)(b:Nat)(v:Value)(a:List Nat)(w':World):Prop :=
 ∃v',gQ w' b v' a/\Keeps (fun k=>k=b\/v.ownBlock=some k) w w'/\(v'.ownBlock=v.ownBlock\/∃k,v'.ownBlock=some k/\w.heap.size<=k)
theorem ji.trans{w w1 i:World}{b:Nat}{v e:Value}{c:List Nat}(f:Keeps (fun k=>k=b\/v.ownBlock=some k) w w1)
  (hv:e.ownBlock=v.ownBlock\/∃k,e.ownBlock=some k/\w.heap.size<=k)(h:ji w1 b e c i):ji w b v c i:=by
 obtain⟨j,l,m,d⟩:=h;refine⟨j,l,f.trans m ?_,?_⟩
 ·rintro x o (rfl|a)
  ·exact .inl rfl
  ·rcases hv with hv|⟨k,hv,f⟩
   ·exact .inr (by rw[<-hv];exact a)
   ·rw[hv]at a;cases a;omega
 ·rcases d with d|⟨k,d,g⟩
  ·rw[d];exact hv
  ·exact .inr ⟨k,d,Nat.le_trans f.size g⟩
theorem gQ.grown{w:World}{b:Nat}{v:Value}{ks:List Nat}(h:gQ w b v ks):ji w b v ks w:=⟨v,h,Keeps.refl _ _,.inl rfl⟩
theorem gQ.push{wr w1:World}{b:Nat}{v:Value}{ks:List Nat}{o:Obj}{k g cap:Nat}(h:gQ wr b v ks)
  (d:w1.ownsRow 0 5 1 (.slice (some ⟨g,0,none⟩) (ks.length+1) cap) (ks.length+1) (Gh ks ++ [.int .u8 k]))(c:(wr.alloc o).grownBy w1 v.ownBlock)(f:v.ownBlock=some g\/g=wr.heap.size+1) :
  ji wr b v (ks ++ [k]) (w1.setCell ⟨b,0,none⟩ (.slice (some ⟨g,0,none⟩) (ks.length+1) cap))/\w1.heap[b]? = some (.cells #[v] 231 (0,0)):=by
 have q:=h.lt;have i:=h.apart;have m:Keeps (fun k=>v.ownBlock=some k) wr w1:=((Keeps.refl _ wr).alloc _).grown c (fun k p=>.inl p);have j:=m.at h.1 (fun e=>(i b e).1 rfl)
 have l:g≠b:=by
  rcases f with h|h
  ·exact(i g h).1
  ·omega
 refine⟨⟨_,⟨jM j 0 _,?_⟩,(m.mono (fun x _ h=>.inr h)).setCell (.inl (.inl rfl)) _,?_⟩,j⟩
 ·have:=ownsRow_setCell_other d (a:=⟨b,0,none⟩) (by simp[Value.ownBlock];exact l) (.slice (some ⟨g,0,none⟩) (ks.length+1) cap);simpa [Gh]using this
 ·rcases f with h|h
  ·exact .inl h.symm
  ·exact .inr ⟨g,rfl,by omega⟩
def Il(zs:List Int):Prop:=∀z ∈ zs,0<=z/\z<=3
theorem Rj(z:Int)(t:Bool)(w:World)(d:t=decide (0<=z/\z<=3)) :
  Calls Tryz.prog 233 #[.int .i64 z] w fun e w'=>e=.returned (.bool t)/\w=w':=by
 subst d;by_cases c:0<=z
 ·by_cases b:z<=3
  ·have a:decide (0<=z/\z<=3)=true:=decide_eq_true ⟨c,b⟩;rw[a];clear a;go_enter Tryz.func233,Tryz.ntmps233;go_wp2;go_ret;exact⟨rfl,rfl⟩
  ·have a:decide (0<=z/\z<=3)=false:=decide_eq_false (fun h=>b h.2);rw[a];have f:decide (z<=3)=false:=decide_eq_false b;clear a b;go_enter Tryz.func233,Tryz.ntmps233;go_wp2;go_ret;exact⟨rfl,rfl⟩
 ·have a:decide (0<=z/\z<=3)=false:=decide_eq_false (fun h=>c h.1);rw[a];have f:z<0:=by omega
  clear a c;go_enter Tryz.func233,Tryz.ntmps233;go_wp2;go_ret;exact⟨rfl,rfl⟩
theorem Rk(z:Int)(t:Bool)(w:World)(a:t=decide (0<=z/\z<=3)) :
  Calls Tryz.prog 232 #[.int .i64 z] w fun e w'=>e=.returned (.bool (!t))/\w=w':=by
 have b:∀(x:Bool) (w:World),(Op.unary .not (.bool x)).run Tryz.prog w=.ok (.bool (!x)) w:=fun _ _=>rfl;have c:=Rj z t w a;clear a;go_enter Tryz.func232,Tryz.ntmps232;go_wp2_with (go_at_call 233;refine c.mono ?_;rintro e w' ⟨rfl,rfl⟩)
 go_ret;exact⟨rfl,rfl⟩
theorem Rl(sv:Value)(zs:List Int)(w:World)(o:Sl .i64 w sv zs)(c:Il zs) :
  Calls Tryz.prog 264 #[sv,.func (.func 232) #[] #[]] w fun e w'=>e=.returned (.int .i64 (-1))/\w=w':=by
 obtain⟨a,cap,rfl,p,q,_,d⟩:=o;go_enter Tryz.func264,Tryz.ntmps264;go_wp2_with fail;go_loop [8] (fun i=>∃k:Nat,k<=zs.length/\i=.int .i64 k) (fun i=>zs.length - (intOf i).toNat)
 case atStart=>exact⟨0,Nat.zero_le _,rfl⟩
 case round =>
  obtain⟨k,s,rfl⟩:=hrel;by_cases f:k<zs.length
  ·have j:=List.getElem?_eq_getElem (l:=zs) (i:=k) f;obtain⟨g,off,rfl,m⟩:=d k _ j;have b:=c _ (List.mem_of_getElem? j);have r:=Rk zs[k] true w (decide_eq_true b).symm;clear d j c b;generalize zs[k]=z at *;go_wp2_with (go_at_call 232;refine r.mono ?_;rintro e w' ⟨rfl,rfl⟩)
   go_round
   case rel=>exact⟨k+1,by omega,by go_num⟩
   case measure=>simp[intOf];omega
  ·obtain rfl:k=zs.length:=by omega
   clear d c;go_wp2;go_ret;exact⟨rfl,rfl⟩
theorem Rn(sv:Value)(zs:List Int)(w:World)(a:Sl .i64 w sv zs)(b:Il zs) :
  Calls Tryz.prog 231 #[sv,.func (.func 232) #[] #[]] w fun e w'=>e=.returned (.bool false)/\w=w':=by
 have c:=Rl sv zs w a b;clear a b;go_enter Tryz.func231,Tryz.ntmps231;go_wp2_with (go_at_call 264;refine c.mono ?_;rintro e w' ⟨rfl,rfl⟩)
 go_ret;exact⟨rfl,rfl⟩
def rO(zs:List Int):List Nat:=zs.map Int.toNat
theorem Ro(b:Nat)(v:Value)(ks:List Nat)(sv:Value)(zs:List Int)(w:World)(h:gQ w b v ks)(M:Sl .i64 w sv zs)(B:Il zs)
  (N:∀k,sv.ownBlock=some k->k≠b/\v.ownBlock≠some k)(hl:ks.length+zs.length<1000000000) :
  Calls Tryz.prog 191 #[.pointer (some ⟨b,0,none⟩),sv] w fun e w'=>e=.returned (.int .i64 0)/\ji w b v (ks ++ rO zs) w':=by
 have O:=Rn sv zs w M B;obtain⟨a,cap,rfl,T,U,_,E⟩:=M;obtain⟨i,V,F,G,H⟩:=info_parts Rf;go_enter Tryz.func191,Tryz.ntmps191;go_wp2_with (go_at_call 231;refine O.mono ?_;rintro e w' ⟨rfl,rfl⟩)
 clear O;go_loopw [15] (fun i wr=>∃k:Nat,k<=zs.length/\i=.int .i64 k/\ji w b v (ks ++ rO (zs.take k)) wr) (fun i _=>zs.length - (intOf i).toNat)
 case atStart=>exact⟨0,Nat.zero_le _,rfl,by simpa [rO]using h.grown⟩
 case round =>
  obtain⟨k,hk,rfl,l⟩:=hrel;by_cases o:k<zs.length
  ·obtain⟨z,q⟩:∃z,zs[k]? = some z:=⟨_,List.getElem?_eq_getElem o⟩
   obtain⟨g,off,rfl,c⟩:=E k z q;obtain⟨I,d,r,J⟩:=l;have C:wr.cell? ⟨g,off+k,none⟩=some (.int .i64 z):=by rw[World.cell?_of_block (w:=w) (r.block g (World.block_lt_of_cell? _ _ c) (by rintro (h|h);exact(N g rfl).1 h;exact(N g rfl).2 h))];exact c
   have s:=B z (List.mem_of_getElem? q);obtain⟨n,rfl⟩:=Int.eq_ofNat_of_zero_le s.1;have hn:n<=3:=by omega
   have t:ks ++ rO (zs.take (k+1))=(ks ++ rO (zs.take k)) ++ [n]:=by rw[List.take_succ_eq_append_getElem o];rw[List.getElem?_eq_getElem o]at q;simp only [Option.some.injEq]at q;simp[rO,q]
   have W:=dh t;have P:(ks ++ rO (zs.take k)).length<1000000000:=by simp[rO];omega
   have X:=d.apart;have m:=d.2;have p:=d.1;have Y:wr.cell? ⟨b,0,none⟩=some I:=dw p 0;have Z:=dh d;clear t E q c h B s d;generalize ks ++ rO (zs.take k)=L at *;have HB:=dh p;clear p;go_wp2_with (at_builtin;refine wpList_append_lies _ rfl _ _ _ rfl 0 5 i (.int .u8 0) 1 1 Tryz.underlying30 V F G H rfl (by decide) I L.length _ rfl (m.alloc _) ⟨wr.heap.size,0,none⟩ 1 1 [.int .u8 (n:Nat)] rfl rfl (cell_one_new _ _ _) ?c2 (by decide) ?c3 ?c4 ?c5 (wr.heap.size+1) (by simp) ?_)
   case c2=>intro u Q;simp at Q;subst Q;rfl
   case c3=>unfold maxLen;omega
   case c4=>omega
   case c5=>simp
   intro g2 R w1 f j A aa;have D:=Z.out.push f j A;have d0:w1.cell? ⟨b,0,none⟩=some I:=dw D.2 0;have f0:w1.frozen? ⟨b,0,none⟩=false:=dx D.2 0;have K:=ji.trans r J D.1;rw[<-W.out]at K;have HW:=dh K;clear D K f j A Y m;go_wp2;go_roundw
   case rel=>exact⟨k+1,by omega,by go_num,HW.out⟩
   case measure=>simp[intOf];omega
  ·obtain rfl:k=zs.length:=by omega
   rw[List.take_of_length_le (Nat.le_refl _)]at l;have HG:=dh l;clear l B E;go_wp2;go_ret;exact⟨rfl,HG.out⟩
end
section
def BR(s:Nat)(ks:List Nat):List Bool:=ks.map fun k=>k / 2 == s
def ownB(s:Nat)(ks:List Nat):List Bool:=(ks.filter fun k=>k / 2 == s).map fun k=>k % 2 == 0
def pr(s:Nat)(ks:List Nat)(n:Nat):Nat:=((ks.take n).filter fun k=>k / 2 == s).length
def eO(ks:List Nat)(a:Nat):Nat:=(ks.filter fun k=>k == a).length
theorem iE{α:Type}{l:List α}{i:Nat}{x:α}(h:l[i]? = some x):i<l.length:=by
 rcases Nat.lt_or_ge i l.length with a | a
 ·exact a
 ·rw[List.getElem?_eq_none a]at h;cases h
theorem pE{α:Type}{l:List α}{i:Nat}{x:α}(h:l[i]? = some x):l.take (i+1)=l.take i ++ [x]:=by have a:=iE h;rw[List.getElem?_eq_getElem a]at h;simp only [Option.some.injEq]at h;rw[List.take_succ_eq_append_getElem a,h]
theorem Rq(ks:List Nat)(p:Nat->Bool):cnt (ks.map p)=(ks.filter p).length:=by
 induction ks with
 | nil=>rfl
 | cons k ks a=>simp only [List.map_cons,cnt,a,List.filter_cons];cases p k <;> simp <;> omega
theorem LJ(s:Nat)(ks:List Nat)(n:Nat):rk (BR s ks) 1 n=pr s ks n:=by unfold rk D8 BR pr;rw[if_pos rfl,<-List.map_take,Rq]
theorem LK(s:Nat)(ks:List Nat):(BR s ks).length=ks.length:=by simp[BR]
theorem yY(s:Nat)(ks:List Nat):(ownB s ks).length=pr s ks ks.length:=by simp[ownB,pr]
theorem Io(s:Nat)(ks:List Nat):(ownB s ks).length<=ks.length:=by unfold ownB;rw[List.length_map];exact List.length_filter_le _ _
theorem LM(s:Nat){ks:List Nat}{i k:Nat}(h:ks[i]? = some k):(BR s ks).getD i false=(k / 2 == s):=by simp[BR,List.getD_eq_getElem?_getD,h]
theorem Ip(s:Nat)(ks:List Nat):pr s ks 0=0:=by simp[pr]
theorem BS(s:Nat){ks:List Nat}{i k:Nat}(h:ks[i]? = some k):pr s ks (i+1)=pr s ks i+if k / 2=s then 1 else 0:=by unfold pr;rw[pE h,List.filter_append,List.length_append];by_cases a:k / 2=s <;> simp[a]
theorem BU(s:Nat)(ks:List Nat){a c:Nat}(h:a<=c):pr s ks a<=pr s ks c:=by
 unfold pr
 have:ks.take c=ks.take a ++ (ks.take c).drop a:=by
  conv=>lhs;rw[<-List.take_append_drop a (ks.take c)]
  rw[List.take_take,Nat.min_eq_left h]
 rw[this,List.filter_append,List.length_append];omega
theorem uW(s:Nat)(ks:List Nat)(n:Nat)(h:n<=ks.length):pr s ks n<=(ownB s ks).length:=by rw[yY];exact BU s ks h
theorem zC(s:Nat)(a c:List Nat):ownB s (a ++ c)=ownB s a ++ ownB s c:=by simp[ownB]
theorem LP{s:Nat}{ks:List Nat}{i k:Nat}(h:ks[i]? = some k)(a:k / 2=s):(ownB s ks)[pr s ks i]? = some (k % 2 == 0):=by
 have d:=iE h
 have b:ks=ks.take i ++ (k :: ks.drop (i+1)):=by
  conv=>lhs;rw[<-List.take_append_drop (i+1) ks,pE h,List.append_assoc]
  rfl
 have c:(ownB s (ks.take i)).length=pr s ks i:=by simp[ownB,pr]
 conv=>lhs;arg 1;rw[b,zC]
 rw[List.getElem?_append_right (by omega),c,Nat.sub_self];simp[ownB,a]
def fO(s:Nat)(ks:List Nat)(j n:Nat):Prop:=∃k,ks[n]? = some k/\k / 2=s/\pr s ks n=j
theorem fO.lt{s:Nat}{ks:List Nat}{j n:Nat}(h:fO s ks j n):n<ks.length:=by obtain⟨k,a,_⟩:=h;exact iE a
theorem fO.own{s:Nat}{ks:List Nat}{j n k:Nat}(h:fO s ks j n)(b:ks[n]? = some k):k / 2=s/\(ownB s ks)[j]? = some (k % 2 == 0):=by obtain⟨e,a,c,d⟩:=h;rw[b]at a;simp only [Option.some.injEq]at a;subst a;exact⟨c,by rw[<-d];exact LP b c⟩
theorem fO.Iq{s:Nat}{ks:List Nat}{j n:Nat}(h:fO s ks j n):j<(ownB s ks).length:=by obtain⟨k,a,_⟩:=id h;exact iE (h.own a).2
theorem fO.AO{s:Nat}{ks:List Nat}{j n:Nat}:fO s ks j n↔uT (BR s ks) 1 j n:=by
 constructor
 ·rintro⟨k,h1,h2,h3⟩;refine⟨by rw[LK];exact iE h1,by rw[LM s h1,h2];simp,by rw[LJ,h3]⟩
 ·rintro⟨h1,h2,h3⟩;rw[LK]at h1;have a:=List.getElem?_eq_getElem h1;rw[LM s a]at h2;refine⟨_,a,?_,by rw[LJ]at h3;omega⟩;by_cases he:ks[n] / 2=s
  ·exact he
  ·rw[show (ks[n] / 2 == s)=false by simp[he]]at h2;cases h2
theorem fO.unique{s:Nat}{ks:List Nat}{j n m:Nat}(h:fO s ks j n)(k:fO s ks j m):n=m :=
 (fO.AO.1 h).unique (.inr rfl) (fO.AO.1 k)
theorem fO.at{s:Nat}{ks:List Nat}{i k:Nat}(h:ks[i]? = some k)(a:k / 2=s):fO s ks (pr s ks i) i:=⟨k,h,a,rfl⟩
theorem fO.cmp{s:Nat}{ks:List Nat}{j n:Nat}(h:fO s ks j n)(i:Nat):j<pr s ks i↔n<i:=by
 obtain⟨k,a,b,e⟩:=h;have c:=BS s a;rw[if_pos b]at c;constructor
 ·intro f;rcases Nat.lt_or_ge n i with h|h
  ·exact h
  ·have:=BU s ks h;omega
 ·intro d;have:=BU s ks (show n+1<=i from d);omega
def fG(ks:List Nat)(i m:Nat):Prop:=∃s a c,s<2/\fO s ks a i/\fO s ks c m/\jq (ownB s ks) a c
theorem fG.symm{ks:List Nat}{i m:Nat}(h:fG ks i m):fG ks m i:=by obtain⟨s,a,c,b,d,e,f⟩:=h;exact⟨s,c,a,b,e,d,f.symm⟩
theorem fG.lt{ks:List Nat}{i m:Nat}(h:fG ks i m):m<ks.length:=by obtain⟨s,a,c,_,d,b,e⟩:=h;exact b.lt
theorem fG.unique{ks:List Nat}{i m n:Nat}(h:fG ks i m)(k:fG ks i n):m=n:=by obtain⟨s,a,c,_,l,j,o⟩:=h;obtain⟨u,v,w,_,p,q,r⟩:=k;obtain⟨x,t,e,f⟩:=l;obtain⟨y,g,b,d⟩:=p;rw[t]at g;simp only [Option.some.injEq]at g;subst g;rw[e]at b;subst b;rw[f]at d;subst d;rw[o.unique r]at j;exact j.unique q
def nN(ks:List Nat)(i:Nat)(r:Int):Prop :=
 (ex (ownB 0 ks) (pr 0 ks i)=0/\r=-1)\/(0<ex (ownB 0 ks) (pr 0 ks i)/\∃o n:Nat,kH (ownB 0 ks) (pr 0 ks i) (ex (ownB 0 ks) (pr 0 ks i) - 1) o/\fO 0 ks o n/\r=n)
theorem Ir{s:Nat}{ks:List Nat}{j:Nat}(b:j<(ownB s ks).length):∃n,fO s ks j n:=by
 rw[yY]at b;obtain⟨n,i,k,e,f⟩:=BP (fun n=>j<pr s ks n) 0 ks.length (by simpa using b)
 obtain⟨m,rfl⟩:∃m,n=m+1:=⟨n - 1,by
  rcases Nat.eq_zero_or_pos n with h|h
  ·rw[h,Ip]at e;omega
  ·omega⟩
 have g:m<ks.length:=by omega
 have c:=List.getElem?_eq_getElem g;have d:=BS s c;have l:=f m (by omega) (by omega);by_cases a:ks[m] / 2=s
 ·rw[if_pos a]at d;exact⟨m,_,c,a,by omega⟩
 ·rw[if_neg a]at d;omega
def pF(ks:List Nat):Prop:=Bal (ownB 0 ks)/\Bal (ownB 1 ks)
theorem pF.get{ks:List Nat}(h:pF ks){s:Nat}(a:s<2):Bal (ownB s ks):=by
 match s,a with
 | 0,_=>exact h.1
 | 1,_=>exact h.2
theorem pF.mate{ks:List Nat}(h:pF ks)(f:∀k ∈ ks,k<4){i:Nat}(g:i<ks.length):∃m,fG ks i m:=by
 have a:=List.getElem?_eq_getElem g;have b:ks[i] / 2<2:=by have:=f _ (List.mem_of_getElem? a);omega
 have d:=fO.at a rfl;obtain⟨c,e⟩:=(h.get b).mate d.Iq;obtain⟨m,j⟩:=Ir e.lt;exact⟨m,_,_,c,b,d,j,e⟩
theorem pF.owner{ks:List Nat}(h:pF ks){i:Nat}(b:i<=ks.length):∃r,nN ks i r:=by
 have e:=h.1.2 (pr 0 ks i) (uW 0 ks i b);by_cases c:ex (ownB 0 ks) (pr 0 ks i)=0
 ·exact⟨-1,.inl ⟨c,rfl⟩⟩
 ·obtain⟨o,a⟩:=LA (ownB 0 ks) (pr 0 ks i) (uW 0 ks i b) (by omega) _ rfl;obtain⟨n,d⟩:=Ir (s:=0) (ks:=ks) (j:=o) (by have:=a.lt;have:=a.le;omega);exact⟨n,.inr ⟨by omega,o,n,a,d,rfl⟩⟩
theorem xC{ks:List Nat}{i k:Nat}(h:ks[i]? = some k)(a:Nat):eO (ks.take (i+1)) a=eO (ks.take i) a+if k=a then 1 else 0:=by unfold eO;rw[pE h,List.filter_append,List.length_append];by_cases b:k=a <;> simp[b]
theorem LQ{ks:List Nat}(s:Nat)(n:Nat)(p:n<=ks.length) :
  pr s ks n=eO (ks.take n) (2 * s)+eO (ks.take n) (2 * s+1)/\ex (ownB s ks) (pr s ks n)=eO (ks.take n) (2 * s) - (eO (ks.take n) (2 * s+1):Int):=by
 induction n with
 | zero=>simp[Ip,eO,Ea]
 | succ n m =>
  obtain⟨q,o⟩:=m (by omega);have g:=List.getElem?_eq_getElem (l:=ks) (i:=n) (by omega);have b:=BS s g;have c:=xC g (2 * s);have d:=xC g (2 * s+1);generalize ks[n]=k at *;by_cases a:k / 2=s
  ·rw[if_pos a]at b;have j:=LP g a;have e:=zy (ownB s ks) (iE j);rw[List.getD_eq_getElem?_getD,j,Option.getD_some,<-b]at e;by_cases f:k % 2=0
   ·rw[if_pos (by simp[f])]at e;rw[if_pos (by omega)]at c;rw[if_neg (by omega)]at d;rw[e,c,d,b];omega
   ·rw[if_neg (by simp[f])]at e;rw[if_neg (by omega)]at c;rw[if_pos (by omega)]at d;rw[e,c,d,b];omega
  ·rw[if_neg a]at b;rw[if_neg (by omega)]at c;rw[if_neg (by omega)]at d;rw[b,c,d];exact⟨by omega,by rw[Nat.add_zero,o];omega⟩
theorem Gi(ks:List Nat)(a:Nat):eO ks a<=ks.length:=List.length_filter_le _ _
end
section
open Go.RowKit
theorem nZ{P:Program}{f:FuncId}{args:Array Value}{w:World}{n:Nat}{v:Value}
  (h:Calls P f args (w.drewN n) fun e w'=>e=.returned v/\w.drewN n=w'):Calls P f args (w.drewN n) fun e a=>e=.returned v/\∃m,a=w.drewN m :=
 h.mono fun _ _ ⟨he,hm⟩=>⟨he,n,hm.symm⟩
end
section
open Go.RowKit
theorem yZ{w:World}{a:Addr}{v:Value}(h:w.cell? a=some v)(o:Obj):(w.alloc o).cell? a=some v:=((Keeps.refl (fun _=>False) w).alloc o).jY h
end
section
open Go.RowKit
end
section
open Go.RowKit
theorem Iu(ks:List Nat)(b:Nat){a c:Nat}(h:a<=c):eO (ks.take a) b<=eO (ks.take c) b:=by
 have:ks.take c=ks.take a ++ (ks.take c).drop a:=by
  conv=>lhs;rw[<-List.take_append_drop a (ks.take c)]
  rw[List.take_take,Nat.min_eq_left h]
 rw[this];unfold eO;rw[List.filter_append,List.length_append];omega
end
section
open Go.RowKit
end
section
open Go.RowKit
end
section
open Go.RowKit
end
section
def iB(dH:Nat->Nat)(root:Nat)(a:List (Nat × Nat))(v:Nat):Bool:=v == dH root || a.any fun p=>p.2 == 0 && dH (mt p.1) == v
def fH(dH:Nat->Nat)(root:Nat)(a:List (Nat × Nat))(d:Nat):Nat :=
 match a.find? (fun p=>p.1 / 2 == d / 2) with
 | some p=>p.2+1
 | none=>if iB dH root a (dH (mt d))then 2 else 0
def pG(S dH:Nat->Nat)(root:Nat)(s:Nat × List (Nat × Nat)):Nat × List (Nat × Nat) :=
 (S (if fH dH root s.2 s.1<2 then mt s.1 else s.1),s.2 ++ [(s.1,fH dH root s.2 s.1)])
def fC(S dH:Nat->Nat)(root:Nat):Nat->Nat × List (Nat × Nat)
 | 0=>(root,[])
 | j+1=>pG S dH root (fC S dH root j)
theorem sN(S dH:Nat->Nat)(root j:Nat):(fC S dH root j).2.length=j:=by
 induction j with
 | zero=>rfl
 | succ j a=>simp[fC,pG,a]
def vis(a:List (Nat × Nat))(x:Nat):Prop:=∃k,(x,k) ∈ a
theorem nu{a:List (Nat × Nat)}{d k x:Nat}:vis (a ++ [(d,k)]) x↔vis a x\/x=d:=by
 constructor
 ·rintro⟨b,hk⟩;rcases List.mem_append.1 hk with h|h
  ·exact .inl ⟨b,h⟩
  ·simp at h;exact .inr h.1
 ·rintro (⟨b,h⟩|rfl)
  ·exact⟨b,by simp[h]⟩
  ·exact⟨k,by simp⟩
theorem Gj(x:Nat):¬vis [] x:=by rintro⟨k,hk⟩;cases hk
theorem Dv{a:List (Nat × Nat)}{x:Nat}:vis a x↔x ∈ a.map Prod.fst:=by
 constructor
 ·rintro⟨k,b⟩;exact List.mem_map.2 ⟨(x,k),b,rfl⟩
 ·intro c;obtain⟨⟨y,k⟩,b,rfl⟩:=List.mem_map.1 c;exact⟨k,b⟩
theorem xD{dH:Nat->Nat}{root d k v:Nat}{a:List (Nat × Nat)}:iB dH root (a ++ [(d,k)]) v=true↔iB dH root a v=true\/(k=0/\dH (mt d)=v):=by unfold iB;rw[List.any_append];simp only [Bool.or_eq_true,List.any_cons,List.any_nil,Bool.or_false,Bool.and_eq_true,beq_iff_eq];exact or_assoc.symm
structure Fr where
 a:Nat
 k:Nat
 o:Nat
def zD(S:Nat->Nat)(root r:Nat):List Fr->Nat
 | []=>dN S r root
 | f :: _=>dN S f.k f.a
def sW(S:Nat->Nat)(root r:Nat):List Fr->Nat
 | []=>dN S (r - 1) root
 | f :: _=>dN S (f.k - 1) f.a
def BX(r:Nat):List Fr->Nat
 | []=>r
 | f :: _=>f.k
def Chain(n:Nat)(S:Nat->Nat)(root r:Nat)(b:List (Nat × Nat)):List Fr->Prop
 | []=>True
 | f :: rest=>(f.a<n/\f.k<per S f.a/\1<=BX r rest/\dN S (per S f.a - 1) f.a=mt (sW S root r rest)/\b[f.o]? = some (sW S root r rest,0))/\Chain n S root r b rest
theorem Chain.append{n:Nat}{S:Nat->Nat}{root r:Nat}{a:List (Nat × Nat)}(p:Nat × Nat):∀{b:List Fr},Chain n S root r a b->Chain n S root r (a ++ [p]) b
 | [],_=>trivial
 | _ :: _,⟨⟨d,e,f,g,c⟩,i⟩=>⟨⟨d,e,f,g,by rw[List.getElem?_append_left (iE c)];exact c⟩,i.append p⟩
theorem Chain.lt{n:Nat}{S:Nat->Nat}{root r:Nat}{c:List (Nat × Nat)}:∀{d:List Fr},Chain n S root r c d->∀f ∈ d,f.a<n/\f.k<per S f.a
 | [],_,f,b=>by cases b
 | g :: d,⟨e,i⟩,f,b=>by
  rcases List.mem_cons.1 b with rfl|b
  ·exact⟨e.1,e.2.1⟩
  ·exact i.lt f b
theorem Chain.old{n:Nat}{S:Nat->Nat}{root r:Nat}{a:List (Nat × Nat)}:∀{c:List Fr},Chain n S root r a c->∀f ∈ c,f.o<a.length
 | [],_,f,b=>by cases b
 | g :: c,⟨d,e⟩,f,b=>by
  rcases List.mem_cons.1 b with rfl|b
  ·exact iE d.2.2.2.2
  ·exact e.old f b
structure iK (n:Nat)(S dH:Nat->Nat)(root r:Nat)(st:List Fr)(d:Nat)(out:List (Nat × Nat)):Prop where
 cur:d=zD S root r st
 AP:r<=per S root
 chain:Chain n S root r out st
 nd:(out.map Prod.fst).Nodup
 conn:∀x,vis out x->x<n/\dJ n S root x
 qG:∀f ∈ st,∀i,i<per S f.a->(vis out (dN S i f.a)↔i<f.k)
 qH:∀i,i<per S root->(vis out (dN S i root)↔i<r)
 apart:st.Pairwise (fun f g=>¬dK S f.a g.a)
 lq:∀f ∈ st,¬dK S f.a root
 rP:∀f ∈ st,iB dH root out (dH f.a)=true
 met:∀x,x<n->iB dH root out (dH x)=true->dK S root x\/(∃f ∈ st,dK S f.a x)\/vis out x
 mH:∀x,x<n->iB dH root out (dH x)=false->¬vis out x
 half:∀x k,(x,k) ∈ out->¬vis out (mt x)->(k=0/\∃f ∈ st,dN S (per S f.a - 1) f.a=mt x)\/k=2
 late:∀l x,out[l]? = some (x,2)->¬vis out (mt x)->dK S root (mt x)\/∃f ∈ st,dK S f.a (mt x)/\f.o<l
 k4:∀x k,(x,k) ∈ out->k<4
def jO(S:Nat->Nat)(root r:Nat)(a:List Fr):Prop:=a=[]/\r=per S root
theorem BZ{a:List (Nat × Nat)}{d:Nat}(e:¬vis a d):(∃k,a.find? (fun p=>p.1 / 2 == d / 2)=some (mt d,k)/\(mt d,k) ∈ a)\/(a.find? (fun p=>p.1 / 2 == d / 2)=none/\¬vis a (mt d)):=by
 cases hf:a.find? (fun p=>p.1 / 2 == d / 2) with
 | none =>
  refine .inr ⟨rfl,?_⟩;rintro⟨k,hk⟩;have:=List.find?_eq_none.1 hf _ hk;simp[Q5]at this
 | some p =>
  obtain⟨x,k⟩:=p;have b:=List.find?_some hf;have c:=List.mem_of_find?_eq_some hf;simp only [beq_iff_eq]at b;rcases Q7 b.symm with rfl|rfl
  ·exact absurd ⟨k,c⟩ e
  ·exact .inl ⟨k,rfl,c⟩
def jk:List Fr->List Fr
 | []=>[]
 | f :: rest=>⟨f.a,f.k+1,f.o⟩ :: rest
def l9(r:Nat):List Fr->Nat
 | []=>r+1
 | _ :: _=>r
theorem Rt(S:Nat->Nat)(root r:Nat)(a:List Fr):zD S root (l9 r a) (jk a)=S (zD S root r a):=by cases a <;> rfl
theorem LU(S:Nat->Nat)(root r:Nat)(a:List Fr):sW S root (l9 r a) (jk a)=zD S root r a:=by cases a <;> rfl
theorem Ru(r:Nat)(a:List Fr):1<=BX (l9 r a) (jk a):=by cases a <;> simp[BX,l9,jk]
theorem AQ(a:List Fr):(jk a).length=a.length:=by cases a <;> rfl
theorem Ee{c:List Fr}{g:Fr}(b:g ∈ jk c):∃f ∈ c,f.a=g.a/\f.o=g.o:=by
 cases c with
 | nil=>cases b
 | cons f rest =>
  rcases List.mem_cons.1 b with rfl|b
  ·exact⟨f,by simp,rfl,rfl⟩
  ·exact⟨g,by simp[b],rfl,rfl⟩
theorem Cb{c:List Fr}{f:Fr}(b:f ∈ c):∃g ∈ jk c,g.a=f.a/\g.o=f.o:=by
 cases c with
 | nil=>cases b
 | cons d rest =>
  rcases List.mem_cons.1 b with rfl|b
  ·exact⟨⟨f.a,f.k+1,f.o⟩,by simp[jk],rfl,rfl⟩
  ·exact⟨f,by simp[jk,b],rfl,rfl⟩
theorem zF{α:Type}{l:List α}{x y:α}{i:Nat}(h:(l ++ [x])[i]? = some y):l[i]? = some y\/(i=l.length/\y=x):=by
 rcases Nat.lt_trichotomy i l.length with a|rfl|a
 ·rw[List.getElem?_append_left a]at h;exact .inl h
 ·rw[List.getElem?_append_right (Nat.le_refl _),Nat.sub_self]at h;simp at h;exact .inr ⟨rfl,h.symm⟩
 ·rw[List.getElem?_eq_none (by simp;omega)]at h;cases h
theorem Iw{l:List Nat}{x:Nat}(h:l.Nodup)(d:x ∉ l):(l ++ [x]).Nodup:=by rw[List.Nodup,List.pairwise_append];exact⟨h,List.pairwise_singleton _ _,fun a e b c=>by simp only [List.mem_singleton]at c;rintro rfl;exact d (c ▸ e)⟩
section
variable {n:Nat} {S dH:Nat->Nat} (h:dU n S) (he:n % 2=0) (hv:∀x y,x<n->y<n->(dH x=dH y↔dK S x y)) {root:Nat} (hr:root<n)
include h hr
omit h in
include hv in
theorem Gl:iK n S dH root 0 [] root [] where
 cur:=rfl
 AP:=Nat.zero_le _
 chain:=trivial
 nd:=List.nodup_nil
 conn:=fun x a=>absurd a (Gj x)
 qG:=fun f b=>by cases b
 qH:=fun i _=>⟨fun a=>absurd a (Gj _),fun e=>by omega⟩
 apart:=List.Pairwise.nil
 lq:=fun f b=>by cases b
 rP:=fun f b=>by cases b
 met:=fun x a d=>by
  have:dH root=dH x:=by have c:(dH x == dH root || false)=true:=d;rw[Bool.or_false,beq_iff_eq]at c;exact c.symm
  exact .inl ((hv root x hr a).1 this)
 mH:=fun x _ _=>Gj x
 half:=fun x k a=>by cases a
 late:=fun l x a=>by simp at a
 k4:=fun x k a=>by cases a
include he
omit he hr in
theorem Chain.conn{r:Nat}{b:List (Nat × Nat)}(i:∀x,vis b x->x<n/\dJ n S root x):∀{d:List Fr},Chain n S root r b d->∀f ∈ d,dJ n S root f.a
 | [],_,f,c=>by cases c
 | g :: d,⟨⟨e,s,t,k,l⟩,m⟩,f,c=>by
  rcases List.mem_cons.1 c with rfl|c
  ·obtain⟨o,p⟩:=i _ ⟨0,List.mem_of_getElem? l⟩;have j:=p.trans (dJ.mate o);rw[<-k]at j;have k4:=j.trans (dJ.turn (h.eD e _))
   have:S (dN S (per S f.a - 1) f.a)=f.a:=by
    have q:=(h.dQ e).1;have:dN S (per S f.a - 1+1) f.a=f.a:=by rw[Nat.sub_add_cancel q];exact(h.dQ e).2.2.1
    exact this
   rwa [this]at k4
  ·exact Chain.conn i m f c
omit he in
theorem iK.fresh{r:Nat}{c:List Fr}{d:Nat}{b:List (Nat × Nat)}(I:iK n S dH root r c d b)(j:¬jO S root r c):d<n/\dJ n S root d/\¬vis b d:=by
 cases c with
 | nil =>
  have g:r<per S root:=by have:=I.AP;have:r≠per S root:=fun e=>j ⟨rfl,e⟩;omega
  rw[I.cur];exact⟨h.eD hr r,h.oq hr ⟨r,rfl⟩,fun a=>by have:=(I.qH r g).1 a;omega⟩
 | cons f rest =>
  obtain⟨i,l,m,o,p⟩:=I.chain.1;rw[I.cur];exact⟨h.eD i f.k,(I.chain.conn h I.conn f (by simp)).trans (h.oq i ⟨f.k,rfl⟩),fun a=>by have:=(I.qG f (by simp) f.k l).1 a;omega⟩
omit h hr he in
theorem iK.o7{r:Nat}{c:List Fr}{d:Nat}{b:List (Nat × Nat)}(I:iK n S dH root r c d b):∀{f:Fr} {rest:List Fr},c=f :: rest->dK S f.a d:=by rintro f rest rfl;exact⟨f.k,I.cur.symm⟩
omit he in
theorem iK.bump{r:Nat}{j:List Fr}{d:Nat}{b:List (Nat × Nat)}(I:iK n S dH root r j d b)(E:¬jO S root r j)(k:Nat)
  (J:∀f rest,j=f :: rest->f.k+1<per S f.a) :
  l9 r j<=per S root/\Chain n S root (l9 r j) (b ++ [(d,k)]) (jk j)/\((b ++ [(d,k)]).map Prod.fst).Nodup /\
  (∀x,vis (b ++ [(d,k)]) x->x<n/\dJ n S root x)/\(∀f ∈ jk j,∀i,i<per S f.a->(vis (b ++ [(d,k)]) (dN S i f.a)↔i<f.k)) /\
  (∀i,i<per S root->(vis (b ++ [(d,k)]) (dN S i root)↔i<l9 r j))/\(jk j).Pairwise (fun f g=>¬dK S f.a g.a) /\
  (∀f ∈ jk j,¬dK S f.a root)/\(∀f ∈ jk j,iB dH root (b ++ [(d,k)]) (dH f.a)=true):=by
 obtain⟨K,L,M⟩:=I.fresh h hr E;have u:((b ++ [(d,k)]).map Prod.fst).Nodup:=by rw[List.map_append];exact Iw I.nd (fun N=>M (Dv.2 N))
 have q:∀x,vis (b ++ [(d,k)]) x->x<n/\dJ n S root x:=by
  intro x A;rcases nu.1 A with A|rfl
  ·exact I.conn x A
  ·exact⟨K,L⟩
 cases j with
 | nil =>
  have v:r<per S root:=by have:=I.AP;have:r≠per S root:=fun e=>E ⟨rfl,e⟩;omega
  refine⟨v,trivial,u,q,(fun f w=>by cases w),fun i s=>?_,List.Pairwise.nil,(fun f w=>by cases w),(fun f w=>by cases w)⟩;rw[nu,I.qH i s,I.cur];show i<r\/dN S i root=dN S r root↔i<r+1;constructor
  ·rintro (l|l)
   ·omega
   ·have:=h.fE hr s v l;omega
  ·intro l;by_cases B:i<r
   ·exact .inl B
   ·obtain rfl:i=r:=by omega
    exact .inr rfl
 | cons f rest =>
  obtain⟨⟨F,O,P,Q,G⟩,H⟩:=I.chain;have C:=J f rest rfl;have t:=List.pairwise_cons.1 I.apart;have m:d=dN S f.k f.a:=I.cur;have p:∀g ∈ rest,∀i,dN S i g.a≠d:=by intro g c i e;refine t.1 g c ?_;have D:=(H.lt g c).1;exact dK.trans (⟨f.k,m.symm.trans e.symm⟩:dK S f.a (dN S i g.a)) (h.eU D ⟨i,rfl⟩)
  refine⟨I.AP,⟨⟨F,C,P,Q,?_⟩,H.append _⟩,u,q,?_,?_,?_,?_,?_⟩
  ·show (b ++ [(d,k)])[f.o]? = _;rw[List.getElem?_append_left (iE G)];exact G
  ·intro g c i s;rcases List.mem_cons.1 c with rfl|c
   ·show vis _ (dN S i f.a)↔i<f.k+1;have z:i<per S f.a:=s;rw[nu,I.qG f (by simp) i z,m];constructor
    ·rintro (l|l)
     ·omega
     ·have:=h.fE F z O l;omega
    ·intro l;by_cases B:i<f.k
     ·exact .inl B
     ·obtain rfl:i=f.k:=by omega
      exact .inr rfl
   ·rw[nu,I.qG g (by simp[c]) i s];exact⟨fun l=>l.resolve_right (p g c i),.inl⟩
  ·intro i s;show _↔i<r;rw[nu,I.qH i s];refine⟨fun l=>l.resolve_right (fun e=>?_),.inl⟩;refine I.lq f (by simp) ?_;exact dK.trans (⟨f.k,m.symm.trans e.symm⟩:dK S f.a (dN S i root)) (h.eU hr ⟨i,rfl⟩)
  ·exact List.pairwise_cons.2 ⟨fun g c=>t.1 g c,t.2⟩
  ·intro g c;rcases List.mem_cons.1 c with rfl|c
   ·exact I.lq f (by simp)
   ·exact I.lq g (by simp[c])
  ·intro g c;refine xD.2 (.inl ?_);rcases List.mem_cons.1 c with rfl|c
   ·exact I.rP f (by simp)
   ·exact I.rP g (by simp[c])
include hv
omit h he in
theorem iK.uF{r:Nat}{e:List Fr}{d:Nat}{b:List (Nat × Nat)}(I:iK n S dH root r e d b)(c:d<n):iB dH root b (dH d)=true:=by
 cases e with
 | nil =>
  have:dH root=dH d:=(hv root d hr c).2 (by rw[I.cur];exact⟨r,rfl⟩);unfold iB;simp[this]
 | cons f rest =>
  have:dH f.a=dH d:=(hv f.a d I.chain.1.1 c).2 (I.o7 rfl);rw[<-this];exact I.rP f (by simp)
omit he in
theorem iK.close{r:Nat}{f:Fr}{rest:List Fr}{d:Nat}{m:List (Nat × Nat)}(I:iK n S dH root r (f :: rest) d m)(W:f.k+1=per S f.a) :
  mt d=sW S root r rest/\(mt d,0) ∈ m/\iK n S dH root r rest (S (mt d)) (m ++ [(d,1)]):=by
 have Q:¬jO S root r (f :: rest):=fun e=>by have:=e.1;cases this
 obtain⟨M,R,T⟩:=I.fresh h hr Q;obtain⟨⟨N,X,O,U,V⟩,P⟩:=I.chain;have o:d=dN S f.k f.a:=I.cur;have q:dN S (per S f.a - 1) f.a=d:=by rw[o];congr 1;omega
 have z:mt d=sW S root r rest:=by rw[<-q,U,dG]
 have v:(mt d,0) ∈ m:=by rw[z];exact List.mem_of_getElem? V
 have D:=List.pairwise_cons.1 I.apart;have u:∀g ∈ rest,∀i,dN S i g.a≠d:=by intro g c i e;refine D.1 g c ?_;have H:=(P.lt g c).1;exact dK.trans (⟨f.k,o.symm.trans e.symm⟩:dK S f.a (dN S i g.a)) (h.eU H ⟨i,rfl⟩)
 refine⟨z,v,?_⟩
 exact {
  cur:=by
   rw[z];cases rest with
   | nil =>
    show S (dN S (r - 1) root)=dN S r root;obtain⟨E,rfl⟩:∃E,r=E+1:=⟨r - 1,by have:1<=r:=O;omega⟩
    rfl
   | cons g rest =>
    show S (dN S (g.k - 1) g.a)=dN S g.k g.a;have:1<=g.k:=O;obtain⟨E,J⟩:∃E,g.k=E+1:=⟨g.k - 1,by omega⟩
    rw[J];rfl
  AP:=I.AP
  chain:=P.append _
  nd:=by rw[List.map_append];exact Iw I.nd (fun w=>T (Dv.2 w))
  conn:=fun x j=>by
   rcases nu.1 j with j|rfl
   ·exact I.conn x j
   ·exact⟨M,R⟩
  qG:=fun g c i A=>by rw[nu,I.qG g (by simp[c]) i A];exact⟨fun b=>b.resolve_right (u g c i),.inl⟩
  qH:=fun i A=>by rw[nu,I.qH i A];refine⟨fun b=>b.resolve_right (fun e=>?_),.inl⟩;refine I.lq f (by simp) ?_;exact dK.trans (⟨f.k,o.symm.trans e.symm⟩:dK S f.a (dN S i root)) (h.eU hr ⟨i,rfl⟩)
  apart:=D.2
  lq:=fun g c=>I.lq g (by simp[c])
  rP:=fun g c=>xD.2 (.inl (I.rP g (by simp[c])))
  met:=fun x j w=>by
   rcases xD.1 w with w|⟨b,_⟩
   ·rcases I.met x j w with b|⟨g,c,b⟩|b
    ·exact .inl b
    ·rcases List.mem_cons.1 c with rfl|c
     ·obtain⟨i,A,rfl⟩:=h.iJ N b;refine .inr (.inr (nu.2 ?_));by_cases B:i<g.k
      ·exact .inl ((I.qG g (by simp) i A).2 B)
      ·obtain rfl:i=g.k:=by omega
       exact .inr o.symm
     ·exact .inr (.inl ⟨g,c,b⟩)
    ·exact .inr (.inr (nu.2 (.inl b)))
   ·cases b
  mH:=fun x j w K=>by
   have C:iB dH root m (dH x)=false:=by
    cases hb:iB dH root m (dH x)
    ·rfl
    ·rw[xD.2 (.inl hb)]at w;cases w
   rcases nu.1 K with b|rfl
   ·exact I.mH x j C b
   ·rw[I.uF hv hr M]at C;cases C
  half:=fun x k j s=>by
   have p:¬vis m (mt x):=fun b=>s (nu.2 (.inl b));have t:mt x≠d:=fun b=>s (nu.2 (.inr b));rcases List.mem_append.1 j with j|j
   ·rcases I.half x k j p with⟨b,g,c,G⟩|b
    ·rcases List.mem_cons.1 c with rfl|c
     ·exact absurd (G.symm.trans q) t
     ·exact .inl ⟨b,g,c,G⟩
    ·exact .inr b
   ·simp only [List.mem_singleton,Prod.mk.injEq]at j;obtain⟨rfl,rfl⟩:=j;exact absurd ⟨0,v⟩ p
  late:=fun l x L s=>by
   have p:¬vis m (mt x):=fun b=>s (nu.2 (.inl b));have t:mt x≠d:=fun b=>s (nu.2 (.inr b));rcases zF L with L|⟨_,b⟩
   ·rcases I.late l x L p with b|⟨g,c,b,G⟩
    ·exact .inl b
    ·rcases List.mem_cons.1 c with rfl|c
     ·exfalso;obtain⟨i,A,F⟩:=h.iJ N b;by_cases B:i<g.k
      ·exact p (F ▸ (I.qG g (by simp) i A).2 B)
      ·obtain rfl:i=g.k:=by omega
       exact t (F.symm.trans o.symm)
     ·exact .inr ⟨g,c,b,G⟩
   ·simp only [Prod.mk.injEq]at b;omega
  k4:=fun x k j=>by
   rcases List.mem_append.1 j with j|j
   ·exact I.k4 x k j
   ·simp only [List.mem_singleton,Prod.mk.injEq]at j;omega }
theorem iK.pass{r:Nat}{t:List Fr}{d:Nat}{c:List (Nat × Nat)}(I:iK n S dH root r t d c)(F:¬jO S root r t)(k:Nat)
  (H:∀f rest,t=f :: rest->f.k+1<per S f.a)(u:(k=3/\vis c (mt d))\/(k=2/\iB dH root c (dH (mt d))=true)) :
  iK n S dH root (l9 r t) (jk t) (S d) (c ++ [(d,k)]):=by
 obtain⟨G,T,U⟩:=I.fresh h hr F;obtain⟨J,K,L,M,N,O,P,Q,R⟩:=I.bump h hr F k H;have z:k≠0:=by omega
 exact {
  cur:=by rw[Rt,<-I.cur]
  AP:=J,chain:=K,nd:=L,conn:=M,qG:=N,qH:=O,apart:=P,lq:=Q,rP:=R
  met:=fun x i m=>by
   rcases xD.1 m with m|⟨b,_⟩
   ·rcases I.met x i m with b|⟨g,o,b⟩|b
    ·exact .inl b
    ·obtain⟨p,j,v,_⟩:=Cb o;exact .inr (.inl ⟨p,j,by rw[v];exact b⟩)
    ·exact .inr (.inr (nu.2 (.inl b)))
   ·exact absurd b z
  mH:=fun x i m A=>by
   have q:iB dH root c (dH x)=false:=by
    cases hb:iB dH root c (dH x)
    ·rfl
    ·rw[xD.2 (.inl hb)]at m;cases m
   rcases nu.1 A with b|rfl
   ·exact I.mH x i q b
   ·rw[I.uF hv hr G]at q;cases q
  half:=fun x B i s=>by
   have e:¬vis c (mt x):=fun b=>s (nu.2 (.inl b));rcases List.mem_append.1 i with i|i
   ·rcases I.half x B i e with⟨b,g,o,v⟩|b
    ·obtain⟨p,j,w,_⟩:=Cb o;exact .inl ⟨b,p,j,by rw[w];exact v⟩
    ·exact .inr b
   ·simp only [List.mem_singleton,Prod.mk.injEq]at i;obtain⟨rfl,rfl⟩:=i;rcases u with⟨_,b⟩|⟨b,_⟩
    ·exact absurd b e
    ·exact .inr b
  late:=fun l x C s=>by
   have e:¬vis c (mt x):=fun b=>s (nu.2 (.inl b));rcases zF C with C|⟨D,b⟩
   ·rcases I.late l x C e with b|⟨g,o,b,v⟩
    ·exact .inl b
    ·obtain⟨p,j,w,E⟩:=Cb o;exact .inr ⟨p,j,by rw[w];exact b,by rw[E];exact v⟩
   ·simp only [Prod.mk.injEq]at b;obtain⟨rfl,rfl⟩:=b;rcases u with⟨b,_⟩|⟨_,m⟩
    ·omega
    ·rcases I.met _ (dR he G) m with b|⟨g,o,b⟩|b
     ·exact .inl b
     ·obtain⟨p,j,w,E⟩:=Cb o;exact .inr ⟨p,j,by rw[w];exact b,by rw[E,D];exact I.chain.old g o⟩
     ·exact absurd b e
  k4:=fun x B i=>by
   rcases List.mem_append.1 i with i|i
   ·exact I.k4 x B i
   ·simp only [List.mem_singleton,Prod.mk.injEq]at i;omega }
theorem iK.opens{r:Nat}{z:List Fr}{d:Nat}{c:List (Nat × Nat)}(I:iK n S dH root r z d c)(U:¬jO S root r z)
  (V:∀f rest,z=f :: rest->f.k+1<per S f.a)(D:iB dH root c (dH (mt d))=false) :
  iK n S dH root (l9 r z) (⟨S (mt d),0,c.length⟩ :: jk z) (S (mt d)) (c ++ [(d,0)]):=by
 obtain⟨K,f2,f3⟩:=I.fresh h hr U;obtain⟨W,X,Y,Z,b5,b6,b7,b8,b9⟩:=I.bump h hr U 0 V;have q:=dR he K;have m:=h.lt _ q;have A:dK S (S (mt d)) (mt d):=h.eU q (dK.step S _);have E:=h.xR q (dK.step S (mt d));have F:=(h.dQ q).1;have s:dH (S (mt d))=dH (mt d):=(hv _ _ m q).2 A;have L:∀x,dK S (S (mt d)) x->x<n->¬vis c x:=by intro x j G;refine I.mH x G ?_;rw[<-(hv _ x m G).2 j,s];exact D
 have p:=I.uF hv hr K;have M:¬dK S (S (mt d)) d:=fun H=>by rw[<-(hv _ d m K).2 H,s,D]at p;cases p
 have N:∀g ∈ z,g.a<n->¬dK S (S (mt d)) g.a:=by intro g e O H;have b:=I.rP g e;rw[<-(hv _ g.a m O).2 H,s,D]at b;cases b
 have u:dN S (per S (S (mt d)) - 1) (S (mt d))=mt d:=by rw[E,<-Ec,Nat.sub_add_cancel F];exact(h.dQ q).2.2.1
 exact {
  cur:=rfl
  AP:=W
  chain:=⟨⟨m,by rw[E];exact F,Ru r z,by rw[u,LU,<-I.cur],by rw[LU,<-I.cur];simp⟩,X⟩
  nd:=Y
  conn:=Z
  qG:=fun g e i hi=>by
   rcases List.mem_cons.1 e with rfl|e
   ·show vis _ (dN S i (S (mt d)))↔i<0;rw[nu];constructor
    ·rintro (b|b)
     ·exact absurd b (L _ ⟨i,rfl⟩ (h.eD m i))
     ·exact absurd ⟨i,b⟩ M
    ·omega
   ·exact b5 g e i hi
  qH:=b6
  apart:=List.pairwise_cons.2 ⟨fun g e=>by obtain⟨w,o,b,_⟩:=Ee e;show ¬dK S (S (mt d)) g.a;rw[<-b];exact N w o (I.chain.lt w o).1,b7⟩
  lq:=fun g e=>by
   rcases List.mem_cons.1 e with rfl|e
   ·show ¬dK S (S (mt d)) root;intro H;have:dH root=dH (mt d):=by rw[<-s];exact((hv _ root m hr).2 H).symm
    unfold iB at D;rw[<-this]at D;simp at D
   ·exact b8 g e
  rP:=fun g e=>by
   rcases List.mem_cons.1 e with rfl|e
   ·exact xD.2 (.inr ⟨rfl,s.symm⟩)
   ·exact b9 g e
  met:=fun x j t=>by
   rcases xD.1 t with t|⟨_,b⟩
   ·rcases I.met x j t with b|⟨g,e,b⟩|b
    ·exact .inl b
    ·obtain⟨w,o,J,_⟩:=Cb e;exact .inr (.inl ⟨w,by simp[o],by rw[J];exact b⟩)
    ·exact .inr (.inr (nu.2 (.inl b)))
   ·exact .inr (.inl ⟨⟨S (mt d),0,c.length⟩,by simp,(hv _ x m j).1 (s.trans b)⟩)
  mH:=fun x j t P=>by
   have B:iB dH root c (dH x)=false:=by
    cases hb:iB dH root c (dH x)
    ·rfl
    ·rw[xD.2 (.inl hb)]at t;cases t
   rcases nu.1 P with b|rfl
   ·exact I.mH x j B b
   ·rw[p]at B;cases B
  half:=fun x Q j C=>by
   have v:¬vis c (mt x):=fun b=>C (nu.2 (.inl b));rcases List.mem_append.1 j with j|j
   ·rcases I.half x Q j v with⟨b,g,e,J⟩|b
    ·obtain⟨w,o,R,_⟩:=Cb e;exact .inl ⟨b,w,by simp[o],by rw[R];exact J⟩
    ·exact .inr b
   ·simp only [List.mem_singleton,Prod.mk.injEq]at j;obtain⟨rfl,rfl⟩:=j;exact .inl ⟨rfl,⟨S (mt x),0,c.length⟩,by simp,u⟩
  late:=fun l x T C=>by
   have v:¬vis c (mt x):=fun b=>C (nu.2 (.inl b));rcases zF T with T|⟨aa,b⟩
   ·rcases I.late l x T v with b|⟨g,e,b,J⟩
    ·exact .inl b
    ·obtain⟨w,o,R,h4⟩:=Cb e;exact .inr ⟨w,by simp[o],by rw[R];exact b,by rw[h4];exact J⟩
   ·simp only [Prod.mk.injEq]at b;omega
  k4:=fun x Q j=>by
   rcases List.mem_append.1 j with j|j
   ·exact I.k4 x Q j
   ·simp only [List.mem_singleton,Prod.mk.injEq]at j;omega }
inductive qY (n:Nat) (S dH:Nat->Nat) (root r:Nat) (st:List Fr) (d:Nat) (out:List (Nat × Nat)):Nat->Nat->List Fr->Prop
 | close (f:Fr) (rest:List Fr):st=f :: rest->(mt d,0) ∈ out->qY n S dH root r st d out 1 r rest
 | right:(mt d,2) ∈ out->qY n S dH root r st d out 3 (l9 r st) (jk st)
 | left:¬vis out (mt d)->iB dH root out (dH (mt d))=true->qY n S dH root r st d out 2 (l9 r st) (jk st)
 | opens:¬vis out (mt d)->iB dH root out (dH (mt d))=false->qY n S dH root r st d out 0 (l9 r st) (⟨S (mt d),0,out.length⟩ :: jk st)
theorem iK.step{r:Nat}{s:List Fr}{d:Nat}{c:List (Nat × Nat)}(I:iK n S dH root r s d c)(C:¬jO S root r s) :
  ∃K st',qY n S dH root r s d c (fH dH root c d) K st'/\iK n S dH root K st' (S (if fH dH root c d<2 then mt d else d)) (c ++ [(d,fH dH root c d)]):=by
 obtain⟨O,P,E⟩:=I.fresh h hr C;by_cases v:∃f rest,s=f :: rest/\f.k+1=per S f.a
 ·obtain⟨f,rest,rfl,t⟩:=v;obtain⟨L,o,M⟩:=I.close h hv hr t
  have i:fH dH root c d=1:=by
   unfold fH;rcases BZ E with⟨k,u,m⟩|⟨_,m⟩
   ·rw[u]
    have:k=0:=by
     have w:=I.nd;rw[List.Nodup,List.pairwise_map]at w;apply Classical.byContradiction;intro F
     have G:∀l:List (Nat × Nat),l.Pairwise (fun a b=>a.1≠b.1)->(mt d,k) ∈ l->(mt d,0) ∈ l->False:=by
      intro l
      induction l with
      | nil=>intro _ h;cases h
      | cons p l N =>
       intro D q j;rw[List.pairwise_cons]at D;rcases List.mem_cons.1 q with q|q
       ·rcases List.mem_cons.1 j with j|j
        ·rw[<-q]at j;simp only [Prod.mk.injEq,true_and]at j;exact F j.symm
        ·exact D.1 _ j (by rw[<-q])
       ·rcases List.mem_cons.1 j with j|j
        ·exact D.1 _ q (by rw[<-j])
        ·exact N D.2 q j
     exact G c w m o
    rw[this]
   ·exact absurd ⟨0,o⟩ m
  rw[i];exact⟨r,rest,.close f rest rfl o,by simpa using M⟩
 ·have t:∀f rest,s=f :: rest->f.k+1<per S f.a:=by rintro f rest rfl;have:=I.chain.1.2.1;have:f.k+1≠per S f.a:=fun e=>v ⟨f,rest,rfl,e⟩;omega
  rcases BZ E with⟨k,u,m⟩|⟨u,m⟩
  ·have H:k=2:=by
    rcases I.half _ _ m (by rw[dG];exact E) with⟨_,g,z,o⟩|L
    ·exfalso;rw[dG]at o;cases s with
     | nil=>cases z
     | cons f rest =>
      rcases List.mem_cons.1 z with rfl|z
      ·have A:d=dN S g.k g.a:=I.cur;rw[A]at o;have B:=I.chain.1;have:=h.fE B.1 (by omega) B.2.1 o;have:=t g rest rfl;omega
      ·refine(List.pairwise_cons.1 I.apart).1 g z ?_;have J:=(I.chain.2.lt g z).1;exact(I.o7 rfl).trans (h.eU J ⟨_,o⟩)
    ·exact L
   subst H;have i:fH dH root c d=3:=by unfold fH;rw[u]
   rw[i];exact⟨_,_,.right m,by simpa using I.pass h he hv hr C 3 t (.inl ⟨rfl,2,m⟩)⟩
  ·cases hmet:iB dH root c (dH (mt d))
   ·have i:fH dH root c d=0:=by unfold fH;rw[u];simp[hmet]
    rw[i];exact⟨_,_,.opens m hmet,by simpa using I.opens h he hv hr C t hmet⟩
   ·have i:fH dH root c d=2:=by unfold fH;rw[u];simp[hmet]
    rw[i];exact⟨_,_,.left m hmet,by simpa using I.pass h he hv hr C 2 t (.inr ⟨rfl,hmet⟩)⟩
omit hv he in
theorem iK.all{r:Nat}{p:List Fr}{d:Nat}{b:List (Nat × Nat)}(I:iK n S dH root r p d b)(u:jO S root r p)
  (f:∀x,x<n->dH (S x)=dH x){x:Nat}(v:dJ n S root x):vis b x:=by
 obtain⟨rfl,rfl⟩:=u;have a:∀y,dK S root y->vis b y:=by intro y w;obtain⟨i,q,rfl⟩:=h.iJ hr w;exact(I.qH i q).2 q
 refine v (vis b) (a root (dK.refl S root)) (fun z j s=>⟨?_,?_⟩)
 ·have A:iB dH root b (dH (S z))=true:=by
   cases hb:iB dH root b (dH (S z))
   ·rw[f z j]at hb;exact absurd s (I.mH z j hb)
   ·rfl
  rcases I.met (S z) (h.lt z j) A with c|⟨g,e,_⟩|c
  ·exact a _ c
  ·cases e
  ·exact c
 ·apply Classical.byContradiction;intro m;obtain⟨k,t⟩:=s;rcases I.half z k t m with⟨_,g,e,_⟩|B
  ·cases e
  ·subst B;obtain⟨l,C,o⟩:=List.mem_iff_getElem.1 t;rcases I.late l z (by rw[List.getElem?_eq_getElem C,o]) m with c|⟨g,e,_⟩
   ·exact m (a _ c)
   ·cases e
omit h he hv hr in
theorem iK.len{r:Nat}{b:List Fr}{d:Nat}{a:List (Nat × Nat)}(I:iK n S dH root r b d a):a.length<=n:=by have:=BQ n _ I.nd (fun x c=>(I.conn x (Dv.2 c)).1);simpa using this
theorem LV:∀m j r b,n<=j+m->iK n S dH root r b (fC S dH root j).1 (fC S dH root j).2->(∀i,i<j->∃r b,iK n S dH root r b (fC S dH root i).1 (fC S dH root i).2/\¬jO S root r b) ->
  ∃T r,iK n S dH root r [] (fC S dH root T).1 (fC S dH root T).2/\jO S root r []/\∀i,i<T->∃r b,iK n S dH root r b (fC S dH root i).1 (fC S dH root i).2/\¬jO S root r b:=by
 intro m
 induction m with
 | zero =>
  intro j r b g I a;by_cases c:jO S root r b
  ·obtain⟨rfl,k⟩:=id c;exact⟨j,r,I,c,a⟩
  ·exfalso;obtain⟨f,st',_,d⟩:=I.step h he hv hr c;have:=d.len;rw[List.length_append,sN]at this;simp at this;omega
 | succ m l =>
  intro j r b g I a;by_cases c:jO S root r b
  ·obtain⟨rfl,k⟩:=id c;exact⟨j,r,I,c,a⟩
  ·obtain⟨f,st',_,d⟩:=I.step h he hv hr c;refine l (j+1) f st' (by omega) d (fun i p=>?_);rcases Nat.lt_or_ge i j with e|o
   ·exact a i e
   ·obtain rfl:i=j:=by omega
    exact⟨r,b,I,c⟩
end
end
