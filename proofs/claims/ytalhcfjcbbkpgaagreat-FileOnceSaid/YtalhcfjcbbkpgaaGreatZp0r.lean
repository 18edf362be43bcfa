import Derived.Test.YtalhcfjcbbkpgaaGreatZp0q
set_option maxRecDepth 100000
set_option maxHeartbeats 4000000
namespace Go.Proofs.YtalhcfjcbbkpgaaGreat
section
open Go.RowKit
def EM(w:World)(b:Nat)(sv a c d:Value)(s:List Nat)(g j:Nat)(wr:World):Prop :=
 ∃zs,sQ s j zs/\dH w.heap.size wr (.slice (some ⟨g,0,none⟩) s.length s.length) zs/\wr.heap[b]? = some (.cells #[sv,a,c,d,.slice (some ⟨g,0,none⟩) s.length s.length] 174 (0,0))/\Sl .i64 wr sv (dD s)/\Keeps (fun k=>k=b) w wr
theorem EM.step{w:World}{b:Nat}{sv d f i:Value}{s:List Nat}{g j:Nat}{wr:World}(h:EM w b sv d f i s g j wr)(m:dO s.length (sg s))(n:j<s.length)(a:g≠b)(c:sv.ownBlock≠some g):EM w b sv d f i s g (j+1) (wr.setCell ⟨g,sg s j,none⟩ (.int .i64 (j:Int))):=by obtain⟨zs,o,l,r,t,u⟩:=h;have y:=l.lt g rfl;have k:Keeps (fun k=>k=g) wr (wr.setCell ⟨g,sg s j,none⟩ (.int .i64 (j:Int))):=(Keeps.refl (fun k=>k=g) wr).setCell (p:=⟨g,sg s j,none⟩) (.inl rfl) _;refine⟨_,o.step m n,l.set _ _,k.at r (fun e=>a e.symm),t.keeps k (fun q v e=>c (by rw[<-e];exact v)),u.trans k (fun x z e=>?_)⟩;subst e;omega
theorem NQ(b:Nat)(sv F G H Y:Value)(s:List Nat)(w:World)(n:w.heap[b]? = some (.cells #[sv,F,G,H,Y] 174 (0,0)))(N:Sl .i64 w sv (dD s))(Z:∀k,sv.ownBlock=some k->k≠b/\k<w.heap.size)(hP:dO s.length (sg s))(hl:s.length<=1000000) :
  Calls Tryz.prog 137 #[.pointer (some ⟨b,0,none⟩)] w fun e w'=>e=.returned (.tuple #[])/\∃g,w'.heap[b]? = some (.cells #[sv,F,G,H,.slice (some ⟨g,0,none⟩) s.length s.length] 174 (0,0))/\dH w.heap.size w' (.slice (some ⟨g,0,none⟩) s.length s.length) (dD (kU s))/\Keeps (fun k=>k=b) w w':=by
 have I:w.cell? ⟨b,0,none⟩=some sv:=dw n 0;have O:=lt_of_block n;have Q:Keeps (fun k=>k=b) w (w.setCell ⟨b,4,none⟩ (.slice (some ⟨w.heap.size,0,none⟩) s.length s.length)):=(Keeps.refl (fun k=>k=b) w).setCell (p:=⟨b,4,none⟩) (.inl rfl) _;have f:(w.setCell ⟨b,4,none⟩ (.slice (some ⟨w.heap.size,0,none⟩) s.length s.length)).heap.size=w.heap.size:=by simp
 have J:=(Keeps.refl (fun _=>False) (w.setCell ⟨b,4,none⟩ (.slice (some ⟨w.heap.size,0,none⟩) s.length s.length))).alloc (.cells (madeCells #[.int .i64 0] s.length) 3);have c:=dH.made w.heap.size (w.setCell ⟨b,4,none⟩ (.slice (some ⟨w.heap.size,0,none⟩) s.length s.length)) s.length (by omega) (by omega);rw[f]at c;have o:w.cell? ⟨b,4,none⟩=some Y:=dw n 4;have S:=dx n 4;have r:=J.at (jM n 4 (.slice (some ⟨w.heap.size,0,none⟩) s.length s.length)) (fun h=>h)
 have d:EM w b sv F G H s w.heap.size 0 ((w.setCell ⟨b,4,none⟩ (.slice (some ⟨w.heap.size,0,none⟩) s.length s.length)).alloc (.cells (madeCells #[.int .i64 0] s.length) 3)) :=
  ⟨_,⟨by simp,fun i T=>by omega⟩,c,r,(N.keeps Q (fun q hq e=>(Z q hq).1 e)).keeps J (fun _ _ h=>h),Q.trans J (fun _ _ h=>h.elim)⟩
 have t:=dh (dn hP (dn O Z));obtain⟨i,T,u,v,y⟩:=info_parts nX;have z:=fun w=>run_make (P:=Tryz.prog) w 25 3 i _ Tryz.underlying25 T u .i64 .i64 (s.length:Int) (s.length:Int) (by omega) (Int.le_refl _) (by rw[y];omega) (by omega);simp only [v,Int.toNat_natCast,Nat.mul_one]at z;obtain⟨a,cap,rfl,U,aa⟩:=N.form;rw[q01]at I U d;clear hP N T u v y n c J Q r f;go_enter Tryz.func137,Tryz.ntmps137;go_upto_region 1 with fail;clear z o S;generalize V:World.alloc _ _=wM at *;clear V I;have I:wM.cell? ⟨b,0,none⟩=some (.slice a s.length cap):=by obtain⟨_,_,_,h3,_⟩:=d;have:=dw h3 0;simpa [q01]using this
 go_wp2_with fail
 clear I;go_loopg [18] s.length (fun m iv wr=>∃j:Nat,j<=s.length/\m=s.length - j/\iv=.int .i64 j/\EM w b (.slice a s.length cap) F G H s w.heap.size j wr)
 case atStart=>exact⟨0,Nat.zero_le _,by omega,rfl,d⟩
 case round =>
  clear d;obtain⟨j,hj,A,rfl,K⟩:=hrel;have HG:=dh A;clear A;by_cases l:j<s.length
  ·obtain⟨zs,B,C,z3,z4,z5⟩:=id K;obtain⟨g,off,rfl,W⟩:=z4.cellAt (uf l);have o:=dw z3 4;have X:=t.out.1.lt j l;obtain⟨zx,D⟩:∃zx,zs[sg s j]? = some zx:=⟨_,List.getElem?_eq_getElem (by rw[B.1];exact X)⟩
   obtain⟨ab,ad⟩:=C.cell D;have E:=K.step t.out.1 l (by have:=t.out.2.1;omega) (fun e=>by have:=(t.out.2.2 _ e).2;omega);have L:=dh E;clear K E B C z3 z4 z5 D;generalize sg s j=x at *;go_wp2;go_roundg (s.length - (j+1))
   case measure=>rw[HG.out];omega
   case rel=>exact⟨j+1,by omega,rfl,by go_num,L.out⟩
  ·obtain rfl:j=s.length:=by omega
   obtain⟨zs,B,C,z3,z4,z5⟩:=K;have:=B.done t.out.1;subst this;have L:=dh (dn z3 (dn C z5));clear B C z3 z4 z5;go_wp2;refine bodyPost_end (results_none rfl _ _ _) rfl ?_;refine⟨rfl,_,?_,L.out.2⟩;rw[q01];exact L.out.1
theorem NR(b:Nat)(W:World):(callFunc 137 #[.pointer (some ⟨b,0,none⟩)]).run Tryz.prog W=.ok (.enter 137 #[.pointer (some ⟨b,0,none⟩)]) W:=by go_simp
theorem UM(b:Nat)(sv:Value)(s:List Nat)(w:World)(h:kP w b sv s)(U:dO s.length (sg s))(V:s.length<=1000000) :
  Calls Tryz.prog 94 #[.pointer (some ⟨b,0,none⟩)] w fun e w'=>∃y m,e=.returned (.pointer (some ⟨y,0,none⟩))/\kP w' y m (kU s)/\w.heap.size<=y/\(∀k,m.ownBlock=some k->w.heap.size<=k)/\Keeps (fun k=>k=b) w w':=by
 obtain⟨⟨_,H,u⟩,i⟩:=h;have z:=lt_of_block i;have I:w.cell? ⟨b,1,none⟩=some (.int .u32 0):=dw i 1;have J:w.cell? ⟨b,2,none⟩=some (.int .i32 0):=dw i 2;have n:=jM i 2 (.int .i32 1);have A:Keeps (fun k=>k=b) w (w.setCell ⟨b,2,none⟩ (.int .i32 1)):=(Keeps.refl (fun k=>k=b) w).setCell (p:=⟨b,2,none⟩) (.inl rfl) _;have B:=NQ b sv (.int .u32 0) (.int .i32 1) (.int .u32 0) (.slice none 0 0) s _ n (H.keeps A (fun q j e=>(u q j).1 e)) (fun q j=>⟨(u q j).1,by have:=(u q j).2;simpa using this⟩) U V;have o:(w.setCell ⟨b,2,none⟩ (.int .i32 1)).heap.size=w.heap.size:=by simp
 rw[o]at B;have r:=Ho b 1 137 #[.pointer (some ⟨b,0,none⟩)] (fun w1=>∃g,w1.heap[b]? = some (.cells #[sv,.int .u32 0,.int .i32 1,.int .u32 0,.slice (some ⟨g,0,none⟩) s.length s.length] 174 (0,0))/\dH w.heap.size w1 (.slice (some ⟨g,0,none⟩) s.length s.length) (dD (kU s))/\Keeps (fun k=>k=b) (w.setCell ⟨b,2,none⟩ (.int .i32 1)) w1) w (NR b) I J (dx i _) (B.mono (by rintro e w1 ⟨rfl,K⟩;obtain⟨g,c,x,z3⟩:=id K;exact⟨rfl,dw c 1,dw c 2,dx c _,dx c _,K⟩));have L:=dh (dn A z);clear B n A H u I J o i;go_enter Tryz.func94,Tryz.ntmps94;go_wp2_with fail;refine r.mono ?_;clear r;rintro e X ⟨rfl,w1,⟨g,c,x,z3⟩,rfl⟩;have t:w1.drew.heap[b]? = _:=c;have N:=jM t 1 (.int .u32 1);have O:=jM N 2 (.int .i32 0);have C:Keeps (fun k=>k=b) w1 ((w1.drew.setCell ⟨b,1,none⟩ (.int .u32 1)).setCell ⟨b,2,none⟩ (.int .i32 0)):=((Keeps.refl (fun k=>k=b) w1).drew.setCell (p:=⟨b,1,none⟩) (.inl rfl) _).setCell (p:=⟨b,2,none⟩) (.inl rfl) _;have P:=(L.out.1.trans z3 (fun _ _ h=>h)).trans C (fun _ _ h=>h);have Q:=x.keeps C (fun q j e=>by have:=(x.lt q j).1;have:=L.out.2;omega);have Y:=dw O 4;generalize D:(w1.drew.setCell ⟨b,1,none⟩ (.int .u32 1)).setCell ⟨b,2,none⟩ (.int .i32 0)=wS at *;have S:=II (.slice (some ⟨g,0,none⟩) s.length s.length) (dD (kU s)) wS Q.sl (by rw[q01,MR];omega);have T:=dh P;clear c t x z3 N O C P Q D;go_wp2_with fail;refine S.mono ?_;clear S;rintro e l ⟨v,rfl,a,d⟩;have k4:=(Keeps.refl (fun _=>False) l).alloc (.cells #[v,.int .u32 0,.int .i32 0,.int .u32 0,.slice none 0 0] 174);have f:=heap_alloc_new l (.cells #[v,.int .u32 0,.int .i32 0,.int .u32 0,.slice none 0 0] 174);have E:=T.out.size;have F:=d.size
 have W:Hid (kP (l.alloc (.cells #[v,.int .u32 0,.int .i32 0,.int .u32 0,.slice none 0 0] 174)) l.heap.size v (kU s)/\w.heap.size<=l.heap.size/\(∀k,v.ownBlock=some k->w.heap.size<=k)/\Keeps (fun k=>k=b) w (l.alloc (.cells #[v,.int .u32 0,.int .i32 0,.int .u32 0,.slice none 0 0] 174))) :=
  dh ⟨⟨⟨⟨_,_,_,_,f⟩,(a.keeps k4 (fun _ _ h=>h)).sl,fun k G=>by have:=(a.lt k G).2;simp;omega⟩,f⟩,by omega,fun k G=>by have:=(a.lt k G).1;omega,(T.out.trans d (fun _ _ h=>h.elim)).trans k4 (fun _ _ h=>h.elim)⟩
 obtain⟨Z,vc,rfl,_,_⟩:=a.form;clear a d k4 f E F;go_wp2;go_ret;exact⟨_,_,rfl,W.out⟩
end
section
open Go.RowKit
theorem Jq{w:World}{b:Nat}{s:List Nat}{root lone:Int}{R:Nat->Prop}(h:MapAt w b s root lone R)(d:Nat)(l:d<s.length) :
  Calls Tryz.prog 160 #[.pointer (some ⟨b,0,none⟩),.int .i64 d] w fun e w'=>∃v,e=.returned v/\dH w.heap.size w' v (dD (jg (sg (dS s)) d))/\Keeps (fun _=>False) w w':=by
 obtain⟨p,a,sv,m,q,r,t,u,x,y,c,n,f,_⟩:=h.ex;have z:w.cell? ⟨b,6,none⟩=some (.pointer (some ⟨a,0,none⟩)):=dw c 6;have g:=I4 a m (dS s) d w f (AJ h.dR h.even) (by rw[oD];exact l) (by rw[oD];have:=h.le;omega);have o:=dh g;clear h c n f g;go_enter Tryz.func160,Tryz.ntmps160;go_wp2_with fail;refine o.out.mono ?_;rintro e w' ⟨v,rfl,i,j⟩;have k:=dh (dn i j);clear i j;obtain⟨A,B,rfl,-,-⟩:=k.out.1.form;go_wp2;go_ret;exact⟨_,rfl,k.out⟩
theorem UN{s:List Nat}{d:Nat}(a:d<s.length):(dD (kU s))[d]? = some ((gq (sg s) d:Nat):Int):=by unfold dD kU;rw[List.getElem?_map,List.getElem?_map,List.getElem?_range a];rfl
theorem UO(b:Nat)(sv:Value)(s:List Nat)(d:Nat)(R:Nat->Prop)(w:World)(h:lT w b sv s R)(r:Sl .i64 w sv (dD s))(j:∀k,sv.ownBlock=some k->k≠b/\k<w.heap.size)(V:dO s.length (sg s))(W:s.length<=1000000)(X:d<s.length) :
  Calls Tryz.prog 262 #[.pointer (some ⟨b,0,none⟩),.int .i64 d] w fun e w'=>e=.returned (.int .i64 (gq (sg s) d:Nat))/\lT w' b sv s (grow R w w')/\Keeps (fun k=>k=b) w w':=by
 have l:PermAt w b sv s:=by
  rcases h with h|⟨g,h,_⟩
  ·exact⟨⟨_,_,_,_,h⟩,r,j⟩
  ·exact⟨⟨_,_,_,_,h⟩,r,j⟩
 have z:=AA b sv s w l;have t1:decide ((d:Int)<0)=false:=decide_eq_false (by omega);have t2:decide ((s.length:Int)<=(d:Int))=false:=decide_eq_false (by omega);have Y:decide (s.length<=d)=false:=decide_eq_false (by omega);have a:=UN X;obtain⟨O,t⟩:∃O,O=gq (sg s) d:=⟨_,rfl⟩
 rw[<-t]at a ⊢;clear t;rcases h with c|⟨g,c,f,D,E⟩
 ·have F:=lt_of_block c;have u:w.cell? ⟨b,1,none⟩=some (.int .u32 0):=dw c 1;have P:w.cell? ⟨b,2,none⟩=some (.int .i32 0):=dw c 2;have v:=jM c 2 (.int .i32 1);have G:Keeps (fun k=>k=b) w (w.setCell ⟨b,2,none⟩ (.int .i32 1)):=(Keeps.refl (fun k=>k=b) w).setCell (p:=⟨b,2,none⟩) (.inl rfl) _;have H:=NQ b sv (.int .u32 0) (.int .i32 1) (.int .u32 0) (.slice none 0 0) s _ v (r.keeps G (fun q o e=>(j q o).1 e)) (fun q o=>⟨(j q o).1,by have:=(j q o).2;simpa using this⟩) V W;have x:(w.setCell ⟨b,2,none⟩ (.int .i32 1)).heap.size=w.heap.size:=by simp
  rw[x]at H;have i:=Ho b 1 137 #[.pointer (some ⟨b,0,none⟩)] (fun w1=>∃g,w1.heap[b]? = some (.cells #[sv,.int .u32 0,.int .i32 1,.int .u32 0,.slice (some ⟨g,0,none⟩) s.length s.length] 174 (0,0))/\dH w.heap.size w1 (.slice (some ⟨g,0,none⟩) s.length s.length) (dD (kU s))/\Keeps (fun k=>k=b) (w.setCell ⟨b,2,none⟩ (.int .i32 1)) w1) w (NR b) u P (dx c _) (H.mono (by rintro e w1 ⟨rfl,Q⟩;obtain⟨g,m,A,z3⟩:=id Q;exact⟨rfl,dw m 1,dw m 2,dx m _,dx m _,Q⟩));have B:=dh (dn G (dn F a));have I:=dh z;clear H v G r j u P x c l z a;go_enter Tryz.func262,Tryz.ntmps262;go_wp2_with fail;refine I.out.mono ?_;rintro e S ⟨rfl,rfl⟩;go_wp2_with fail;refine i.mono ?_;clear i;rintro e w2 ⟨rfl,w1,⟨g,m,A,z3⟩,rfl⟩;have y:w1.drew.heap[b]? = _:=m;have T:=jM y 1 (.int .u32 1);have J:=jM T 2 (.int .i32 0);have K:Keeps (fun k=>k=b) w1 ((w1.drew.setCell ⟨b,1,none⟩ (.int .u32 1)).setCell ⟨b,2,none⟩ (.int .i32 0)):=((Keeps.refl (fun k=>k=b) w1).drew.setCell (p:=⟨b,1,none⟩) (.inl rfl) _).setCell (p:=⟨b,2,none⟩) (.inl rfl) _;have U:=(B.out.1.trans z3 (fun _ _ h=>h)).trans K (fun _ _ h=>h);have C:=A.keeps K (fun q o e=>by have:=(A.lt q o).1;have:=B.out.2.1;omega);have y4:((w1.drew.setCell ⟨b,1,none⟩ (.int .u32 1)).setCell ⟨b,2,none⟩ (.int .i32 0)).cell? ⟨b,4,none⟩=some (.slice (some ⟨g,0,none⟩) s.length s.length):=dw J 4;have n:=C.lt g rfl;generalize L:(w1.drew.setCell ⟨b,1,none⟩ (.int .u32 1)).setCell ⟨b,2,none⟩ (.int .i32 0)=wS at *;obtain⟨Z,-⟩:=C.cell B.out.2.2;have N:Hid (lT wS b sv s (grow R w wS)/\Keeps (fun k=>k=b) w wS):=dh ⟨.inr ⟨g,J,C.mono (fun _ _=>Nat.zero_le _),.inr ⟨n.1,n.2⟩,by have:=B.out.2.1;omega⟩,U⟩;clear m y A z3 T J K U C L n;go_wp2;go_ret;exact⟨rfl,N.out⟩
 ·have u:w.cell? ⟨b,1,none⟩=some (.int .u32 1):=dw c 1;have c4:w.cell? ⟨b,4,none⟩=some (.slice (some ⟨g,0,none⟩) s.length s.length):=dw c 4;have i:=fun fv=>FD ⟨b,1,none⟩ fv w u;obtain⟨Z,-⟩:=f.cell a;have N:Hid (lT w b sv s (grow R w w)/\Keeps (fun k=>k=b) w w):=dh ⟨.inr ⟨g,c,f,.inl D,E⟩,Keeps.refl _ _⟩;have I:=dh z;clear r j l z a c f u;go_enter Tryz.func262,Tryz.ntmps262;go_wp2_with fail;refine I.out.mono ?_;rintro e S ⟨rfl,rfl⟩;go_wp2_with fail;refine(i _).mono ?_;rintro e S ⟨rfl,rfl⟩;go_wp2;go_ret;exact⟨rfl,N.out⟩
def fO(a:World)(b:Nat)(s:List Nat)(root lone:Int)(R:Nat->Prop)(w':World):Prop:=MapAt w' b s root lone (grow R a w')/\Keeps (fun k=>k=b\/R k) a w'
end
section
open Go.RowKit
structure MW (w:World)(b:Nat)(s:List Nat)(root lone:Int)(R M:Nat->Prop)(wr:World):Prop where
 mp:∃R',MapAt wr b s root lone R'/\(∀x,R' x->R x\/(w.heap.size<=x/\x<wr.heap.size))/\∀x,M x->¬R' x
 mb:∀x,M x->w.heap.size<=x/\x<wr.heap.size
 bw:b<w.heap.size
 old:∀x,R x->x<w.heap.size
 kC:¬R b
 fJ:Keeps (fun k=>k=b\/R k) w wr
theorem MapAt.mw{w:World}{b:Nat}{s:List Nat}{root lone:Int}{R:Nat->Prop}(h:MapAt w b s root lone R):MW w b s root lone R (fun _=>False) w :=
 ⟨⟨R,h,fun _ a=>.inl a,fun _ h=>h.elim⟩,fun _ h=>h.elim,h.lt,h.old,h.kC,Keeps.refl _ _⟩
theorem gU.two{w w':World}{b:Nat}{s:List Nat}{root lone:Int}{R:Nat->Prop}(h:gU w b s root lone R w'):fO w b s root lone R w':=⟨h.1,h.2.mono (fun _ _ e=>.inl e)⟩
theorem fO.trans{w w1 g:World}{b:Nat}{s:List Nat}{root lone:Int}{R:Nat->Prop}(i:fO w b s root lone R w1)(h:MapAt w b s root lone R)(c:fO w1 b s root lone (grow R w w1) g):fO w b s root lone R g:=by
 have j:=h.lt;have d:=i.2.size;have f:=c.2.size;refine⟨c.1.mono (Kz d f) (CX h.old (by omega)) (fun a=>?_),i.2.trans c.2 (fun x a e=>?_)⟩
 ·rcases a with a|a
  ·exact h.kC a
  ·omega
 ·rcases e with e|e|e
  ·exact .inl e
  ·exact .inr e
  ·omega
section
variable {w:World} {b:Nat} {s:List Nat} {root lone:Int} {R M:Nat->Prop} {wr:World} (h:MW w b s root lone R M wr)
include h
theorem MW.ask:∃d,MapAt wr b s root lone d/\∀f,fO wr b s root lone d f->MW w b s root lone R M f/\Keeps (fun k=>¬M k) wr f:=by
 obtain⟨d,n,c,l⟩:=h.mp;have j:=h.bw;refine⟨d,n,fun f g=>?_⟩;have p:=g.2.size;have o:=h.fJ.size;refine⟨⟨⟨grow d wr f,g.1,fun x a=>?_,fun x a i=>?_⟩,fun x a=>⟨(h.mb x a).1,by have:=(h.mb x a).2;omega⟩,j,h.old,h.kC,?_⟩,?_⟩
 ·rcases a with a|a
  ·rcases c x a with c|c
   ·exact .inl c
   ·exact .inr ⟨c.1,by omega⟩
  ·exact .inr ⟨by omega,a.2⟩
 ·rcases i with i|i
  ·exact l x a i
  ·have:=(h.mb x a).2;omega
 ·refine h.fJ.trans g.2 (fun x a e=>?_);rcases e with e|e
  ·exact .inl e
  ·rcases c x e with e|e
   ·exact .inr e
   ·omega
 ·refine g.2.mono (fun x _ e m=>?_);rcases e with e|e
  ·have:=(h.mb x m).1;omega
  ·exact l x m e
theorem MW.own{f:World}(k:Keeps M wr f){M':Nat->Prop}(i:∀x,M' x->M x\/(wr.heap.size<=x/\x<f.heap.size)):MW w b s root lone R M' f:=by
 obtain⟨m,j,c,l⟩:=h.mp;have g:=h.bw;have o:=k.size;have n:=h.fJ.size;refine⟨⟨m,j.keeps k (fun e=>by have:=(h.mb b e).1;omega) (fun x a e=>l x e a),fun x a=>?_,fun x a hr=>?_⟩,fun x a=>?_,g,h.old,h.kC,?_⟩
 ·rcases c x a with c|c
  ·exact .inl c
  ·exact .inr ⟨c.1,by omega⟩
 ·rcases i x a with d|d
  ·exact l x d hr
  ·have:=j.old x hr;omega
 ·rcases i x a with d|d
  ·have:=h.mb x d;omega
  ·omega
 ·refine h.fJ.trans k (fun x a e=>?_);have:=(h.mb x e).1;omega
theorem MW.fresh{a:World}(k:Keeps (fun _=>False) wr a){M':Nat->Prop}(c:∀x,M' x->M x\/(wr.heap.size<=x/\x<a.heap.size)):MW w b s root lone R M' a:=h.own (k.mono (fun _ _ e=>e.elim)) c
theorem MW.drew:MW w b s root lone R M wr.drew:=h.fresh ((Keeps.refl _ wr).drew) (fun _ a=>.inl a)
theorem MW.all:fO w b s root lone R wr:=by
 obtain⟨g,c,d,i⟩:=h.mp;have e:=h.bw;have f:=h.fJ.size;refine⟨c.mono d (fun x a=>?_) (fun a=>?_),h.fJ⟩
 ·rcases a with a|a
  ·have:=h.old x a;omega
  ·exact a.2
 ·rcases a with a|a
  ·exact h.kC a
  ·omega
end
def Told(w:World)(b:Nat):Prop:=w.cell? ⟨b,1,none⟩=some (.int .u32 1)
section
variable {w:World} {b:Nat} {s:List Nat} {root lone:Int} {R:Nat->Prop} (h:MapAt w b s root lone R)
include h
theorem UQ(d:Nat)(o:d<s.length):Calls Tryz.prog 123 #[.pointer (some ⟨b,0,none⟩),.int .i64 d] w fun e w'=>e=.returned (.int .i64 (vnum (sg s) d:Nat))/\gU w b s root lone R w'/\Told w' b:=by obtain⟨p,sv,q,r,t,c,k,l,f,g,a⟩:=h.Jc;have m:=Jb b 0 _ _ p q r t sv s d w c l k f g h.dR (by have:=h.le;omega) o;have n:=dh a;clear h c l k f g a;go_enter Tryz.func123,Tryz.ntmps123;go_wp2_with fail;refine m.mono ?_;rintro e w1 ⟨rfl,i⟩;have j:=i;obtain⟨v,x,c,-⟩:=j;have u:=dh (dn (n.out _ i) (show Told w1 b from c.c1));clear m i n c;go_wp2;go_ret;exact⟨rfl,u.out⟩
end
theorem Told.keeps{w w':World}{b:Nat}{F:Nat->Prop}(h:Told w b)(k:Keeps F w w')(a:¬F b):Told w' b:=by
 unfold Told World.cell? at h ⊢
 have c:b<w.heap.size:=by
  rcases Nat.lt_or_ge b w.heap.size with e|e
  ·exact e
  ·rw[Array.getElem?_eq_none e]at h;simp at h
 rw[show w'.heap[(⟨b,1,none⟩:Addr).block]? = w.heap[(⟨b,1,none⟩:Addr).block]? from k.block b c a];exact h
structure fq (wh:World)(b:Nat)(s:List Nat)(root lone:Int)(R:Nat->Prop)(w':World):Prop where
 mp:MapAt w' b s root lone (grow R wh w')
 fJ:Keeps (fun k=>k=b) wh w'
 tl:Told wh b->Told w' b
theorem fq.q{a:World}{b:Nat}{s:List Nat}{root lone:Int}{R:Nat->Prop}{w':World}(h:fq a b s root lone R w'):gU a b s root lone R w':=⟨h.1,h.2⟩
theorem fq.two{a:World}{b:Nat}{s:List Nat}{root lone:Int}{R:Nat->Prop}{w':World}(h:fq a b s root lone R w'):fO a b s root lone R w':=h.q.two
section
variable {w:World} {b:Nat} {s:List Nat} {root lone:Int} {R:Nat->Prop} (h:MapAt w b s root lone R)
include h
theorem MapAt.uY:fq w b s root lone R w:=⟨h.same.1,h.same.2,fun t=>t⟩
theorem MapAt.rX{w1 d:World}(a:fq w b s root lone R w1)(c:fq w1 b s root lone (grow R w w1) d):fq w b s root lone R d :=
 ⟨(h.trans a.q c.q).1,(h.trans a.q c.q).2,fun t=>c.3 (a.3 t)⟩
theorem MapAt.Cm{w1:World}(k:Keeps (fun _=>False) w w1):fq w b s root lone R w1:=⟨(h.still k).1,(h.still k).2,fun t=>t.keeps k (fun h=>h)⟩
theorem Jr(d:Nat)(a:d<s.length):Calls Tryz.prog 123 #[.pointer (some ⟨b,0,none⟩),.int .i64 d] w fun e w'=>e=.returned (.int .i64 (vnum (sg s) d:Nat))/\fq w b s root lone R w'/\Told w' b :=
 (UQ h d a).mono (fun _ _ ⟨c,h2,h3⟩=>⟨c,⟨h2.1,h2.2,fun _=>h3⟩,h3⟩)
end
structure MV (w:World)(b:Nat)(s:List Nat)(root lone:Int)(R M:Nat->Prop)(wr:World):Prop where
 mp:∃R',MapAt wr b s root lone R'/\(∀x,R' x->R x\/(w.heap.size<=x/\x<wr.heap.size))/\∀x,M x->¬R' x
 mb:∀x,M x->w.heap.size<=x/\x<wr.heap.size
 bw:b<w.heap.size
 old:∀x,R x->x<w.heap.size
 kC:¬R b
 fJ:Keeps (fun k=>k=b) w wr
 tl:Told w b->Told wr b
theorem MapAt.mv{w:World}{b:Nat}{s:List Nat}{root lone:Int}{R:Nat->Prop}(h:MapAt w b s root lone R):MV w b s root lone R (fun _=>False) w :=
 ⟨⟨R,h,fun _ a=>.inl a,fun _ h=>h.elim⟩,fun _ h=>h.elim,h.lt,h.old,h.kC,Keeps.refl _ _,fun t=>t⟩
section
variable {w:World} {b:Nat} {s:List Nat} {root lone:Int} {R M:Nat->Prop} {wr:World} (h:MV w b s root lone R M wr)
include h
theorem MV.ask:∃c,MapAt wr b s root lone c/\∀f,fq wr b s root lone c f->MV w b s root lone R M f:=by
 obtain⟨c,k,d,l⟩:=h.mp;have j:=h.bw;refine⟨c,k,fun f g=>?_⟩;have n:=g.2.size;have m:=h.fJ.size;refine⟨⟨grow c wr f,g.1,fun x a=>?_,fun x a i=>?_⟩,fun x a=>⟨(h.mb x a).1,by have:=(h.mb x a).2;omega⟩,j,h.old,h.kC,h.fJ.trans g.2 (fun _ _ e=>e),fun t=>g.3 (h.tl t)⟩
 ·rcases a with a|a
  ·rcases d x a with d|d
   ·exact .inl d
   ·exact .inr ⟨d.1,by omega⟩
  ·exact .inr ⟨by omega,a.2⟩
 ·rcases i with i|i
  ·exact l x a i
  ·have:=(h.mb x a).2;omega
theorem MV.own{f:World}(k:Keeps M wr f){M':Nat->Prop}(i:∀x,M' x->M x\/(wr.heap.size<=x/\x<f.heap.size)):MV w b s root lone R M' f:=by
 obtain⟨m,j,c,l⟩:=h.mp;have g:=h.bw;have o:=k.size;have n:=h.fJ.size;refine⟨⟨m,j.keeps k (fun e=>by have:=(h.mb b e).1;omega) (fun x a e=>l x e a),fun x a=>?_,fun x a hr=>?_⟩,fun x a=>?_,g,h.old,h.kC,?_,fun t=>(h.tl t).keeps k (fun e=>by have:=(h.mb b e).1;omega)⟩
 ·rcases c x a with c|c
  ·exact .inl c
  ·exact .inr ⟨c.1,by omega⟩
 ·rcases i x a with d|d
  ·exact l x d hr
  ·have:=j.old x hr;omega
 ·rcases i x a with d|d
  ·have:=h.mb x d;omega
  ·omega
 ·refine h.fJ.trans k (fun x a e=>?_);have:=(h.mb x e).1;omega
theorem MV.fresh{a:World}(k:Keeps (fun _=>False) wr a){M':Nat->Prop}(c:∀x,M' x->M x\/(wr.heap.size<=x/\x<a.heap.size)):MV w b s root lone R M' a:=h.own (k.mono (fun _ _ e=>e.elim)) c
theorem MV.drew:MV w b s root lone R M wr.drew:=h.fresh ((Keeps.refl _ wr).drew) (fun _ a=>.inl a)
theorem MV.all:fq w b s root lone R wr:=by
 obtain⟨g,c,d,i⟩:=h.mp;have e:=h.bw;have f:=h.fJ.size;refine⟨c.mono d (fun x a=>?_) (fun a=>?_),h.fJ,h.tl⟩
 ·rcases a with a|a
  ·have:=h.old x a;omega
  ·exact a.2
 ·rcases a with a|a
  ·exact h.kC a
  ·omega
theorem MV.mate{d:Nat}(a:d<s.length):Calls Tryz.prog 77 #[.pointer (some ⟨b,0,none⟩),.int .i64 d] wr fun e w'=>e=.returned (.int .i64 (mt d:Nat))/\wr=w':=by obtain⟨f,c,_⟩:=h.mp;exact sZ c d a
theorem MV.sigma{d:Nat}(a:d<s.length):Calls Tryz.prog 125 #[.pointer (some ⟨b,0,none⟩),.int .i64 d] wr fun e w'=>e=.returned (.int .i64 (sg s d:Nat))/\wr=w':=by obtain⟨f,c,_⟩:=h.mp;exact vW c d a
theorem MV.dG{d:Nat}(a:d<s.length):Calls Tryz.prog 123 #[.pointer (some ⟨b,0,none⟩),.int .i64 d] wr fun e w'=>e=.returned (.int .i64 (vnum (sg s) d:Nat))/\MV w b s root lone R M w'/\Keeps (fun k=>k=b) wr w':=by obtain⟨i,c,f⟩:=h.ask;exact(Jr c d a).mono (fun _ _ ⟨g,e2,_⟩=>⟨g,f _ e2,e2.2⟩)
theorem MV.AP{d:Nat}(a:d<s.length):Calls Tryz.prog 123 #[.pointer (some ⟨b,0,none⟩),.int .i64 d] wr fun e w'=>e=.returned (.int .i64 (vnum (sg s) d:Nat))/\MV w b s root lone R M w'/\Told w' b/\Keeps (fun k=>k=b) wr w':=by obtain⟨i,c,f⟩:=h.ask;exact(Jr c d a).mono (fun _ _ ⟨g,e2,e3⟩=>⟨g,f _ e2,e3,e2.2⟩)
end
end
section
open Go.RowKit
theorem NS{w:World}{b:Nat}{s:List Nat}{root lone:Int}{R:Nat->Prop}(h:MapAt w b s root lone R)(d:Nat)(l:d<s.length) :
  Calls Tryz.prog 229 #[.pointer (some ⟨b,0,none⟩),.int .i64 d] w fun e w'=>∃v,e=.returned v/\dH w.heap.size w' v (dD (jg (sg s) d))/\Keeps (fun _=>False) w w':=by
 obtain⟨a,o,sv,p,q,r,t,u,x,y,c,f,m,_⟩:=h.ex;have z:w.cell? ⟨b,0,none⟩=some (.pointer (some ⟨a,0,none⟩)):=dw c 0;have g:=I4 a sv s d w f h.dR l (by have:=h.le;omega);have n:=dh g;clear h c f m g;go_enter Tryz.func229,Tryz.ntmps229;go_wp2_with fail;refine n.out.mono ?_;rintro e w' ⟨v,rfl,i,j⟩;have k:=dh (dn i j);clear i j;obtain⟨A,B,rfl,-,-⟩:=k.out.1.form;go_wp2;go_ret;exact⟨_,rfl,k.out⟩
def UR(zs:List Int)(x:Int)(w:World)(e:Ending)(w':World):Prop:=w=w'/\∃r:Int,e=.returned (.int .i64 r)/\(0<=r↔x ∈ zs)
theorem UU{w:World}{sv:Value}{zs:List Int}(x:Int)(p:Sl .i64 w sv zs)(B:zs.length<=1000000000):Calls Tryz.prog 300 #[sv,.int .i64 x] w (UR zs x w):=by
 obtain⟨a,cap,rfl,r,C⟩:=p.form;obtain⟨N,u⟩:∃N,N=zs.length:=⟨_,rfl⟩
 rw[<-u]at r B p ⊢;have D:=dh p;have y:=dh u;clear p u;go_enter Tryz.func300,Tryz.ntmps300;go_wp2_with fail;go_loopg [8] N (fun m i wr=>∃j:Nat,j<=N/\m=N - j/\i=.int .i64 j/\(∀k,k<j->zs[k]?≠some x)/\wr=w)
 case atStart=>exact⟨0,Nat.zero_le _,rfl,rfl,fun k q=>by omega,rfl⟩
 case round =>
  obtain⟨j,G,d,rfl,f,rfl⟩:=hrel;have E:=dh d;have A:=dh f;clear d f;by_cases l:j<N
  ·obtain⟨z,n⟩:∃z,zs[j]? = some z:=⟨_,List.getElem?_eq_getElem (by rw[<-y.out];exact l)⟩
   obtain⟨g,off,rfl,H⟩:=D.out.cellAt n;by_cases c:x=z
   ·subst c;have o:=dh (List.mem_of_getElem? n);clear n;go_wp2;go_ret;exact⟨rfl,_,rfl,by simp only [o.out,iff_true];omega⟩
   ·have t:(x == z)=false:=by rw[beq_eq_false_iff_ne];exact c
    have o:=dh (show ∀k,k<j+1->zs[k]?≠some x from fun k q=>by
     rcases Nat.lt_or_ge k j with h|h
     ·exact A.out k h
     ·obtain rfl:k=j:=by omega
      rw[n];exact fun e=>c (Option.some.inj e).symm)
    clear n c;go_wp2;go_roundg (N - (j+1))
    case measure=>rw[E.out];omega
    case rel=>exact⟨j+1,by omega,rfl,by go_num,o.out,rfl⟩
  ·obtain rfl:j=N:=by omega
   have o:Hid (x ∉ zs):=dh (fun F=>by obtain⟨k,q,v⟩:=List.mem_iff_getElem.1 F;exact A.out k (by rw[y.out];exact q) (by rw[List.getElem?_eq_getElem q,v]));clear l;go_wp2;go_ret;exact⟨rfl,_,rfl,by simp only [o.out,iff_false];decide⟩
def UW(zs:List Int)(x:Int)(w:World)(e:Ending)(w':World):Prop:=w=w'/\∃t:Bool,e=.returned (.bool t)/\(t=true↔x ∈ zs)
theorem NT{w:World}{sv:Value}{zs:List Int}(x:Int)(c:Sl .i64 w sv zs)(g:zs.length<=1000000000):Calls Tryz.prog 285 #[sv,.int .i64 x] w (UW zs x w):=by have i:=UU x c g;obtain⟨a,cap,rfl,d,f⟩:=c.form;clear c g d f;go_enter Tryz.func285,Tryz.ntmps285;go_wp2_with fail;refine i.mono ?_;rintro e w' ⟨rfl,r,rfl,hr⟩;have j:=dh hr;clear hr i;go_wp2;go_ret;exact⟨rfl,_,rfl,by rw[<-j.out];exact decide_eq_true_iff⟩
def qL(zs:List Int)(k:Nat)(cur:List Int):Prop:=cur.length=zs.length/\∀p,p<zs.length->cur[p]? = if p<k\/zs.length<=p+k then zs[zs.length - 1 - p]? else zs[p]?
theorem qL.zero(zs:List Int):qL zs 0 zs:=⟨rfl,fun p a=>by rw[if_neg (by omega)]⟩
theorem qL.done{zs cur:List Int}{k:Nat}(h:qL zs k cur)(d:zs.length<=2 * k+1):cur=zs.reverse:=by
 apply List.ext_getElem?;intro p;rcases Nat.lt_or_ge p zs.length with a|a
 ·rw[h.2 p a,List.getElem?_reverse a];by_cases c:p<k\/zs.length<=p+k
  ·rw[if_pos c]
  ·rw[if_neg c,show zs.length - 1 - p=p by omega]
 ·rw[List.getElem?_eq_none (by rw[h.1];exact a),List.getElem?_eq_none (by rw[List.length_reverse];exact a)]
theorem qL.step{zs cur:List Int}{k:Nat}{x y:Int}(h:qL zs k cur)(l:2 * k+1<zs.length)(g:cur[k]? = some x)(i:cur[zs.length - 1 - k]? = some y):qL zs (k+1) ((cur.set k y).set (zs.length - 1 - k) x):=by
 refine⟨by simp[h.1],fun p j=>?_⟩;have c:=h.2 k (by omega);rw[if_neg (by omega),g]at c;have d:=h.2 (zs.length - 1 - k) (by omega);rw[if_neg (by omega),i]at d;rw[List.getElem?_set,List.length_set];by_cases e:zs.length - 1 - k=p
 ·rw[if_pos e,if_pos (by rw[h.1];omega),if_pos (by omega),c];congr 1;omega
 ·rw[if_neg e,List.getElem?_set];by_cases a:k=p
  ·rw[if_pos a,if_pos (by rw[h.1];omega),if_pos (by omega),d,<-a]
  ·rw[if_neg a,h.2 p j];by_cases f:p<k\/zs.length<=p+k
   ·rw[if_pos f,if_pos (by omega)]
   ·rw[if_neg f,if_neg (by omega)]
theorem UY{w:World}{sv:Value}{zs:List Int}{B:Nat}(A:dH B w sv zs)(K:zs.length<=1000000000) :
  Calls Tryz.prog 225 #[sv] w fun e w'=>e=.returned (.tuple #[])/\dH B w' sv zs.reverse/\Keeps (fun k=>sv.ownBlock=some k) w w':=by
 obtain⟨a,cap,rfl,D,L⟩:=A.form;obtain⟨N,E⟩:∃N,N=zs.length:=⟨_,rfl⟩
 rw[<-E]at D K A ⊢;have o:=dh E;have H:dH B w (.slice a N cap) zs/\qL zs 0 zs/\Keeps (fun k=>(Value.slice a N cap).ownBlock=some k) w w:=⟨A,qL.zero zs,Keeps.refl _ _⟩
 clear A E;go_enter Tryz.func225,Tryz.ntmps225;go_wp2_with fail;go_loopg [2,3] N (fun m i j wr=>∃k:Nat,2 * k<=N/\m=N - k/\i=.int .i64 k/\j=.int .i64 ((N:Int) - 1 - k)/\∃cur,dH B wr (.slice a N cap) cur/\qL zs k cur/\Keeps (fun k=>(Value.slice a N cap).ownBlock=some k) w wr)
 case atStart=>exact⟨0,by omega,rfl,rfl,by simp,zs,H⟩
 case round =>
  clear H;obtain⟨k,U,r,rfl,rfl,cur,c,d,f⟩:=hrel;have O:=dh r;clear r;by_cases t:2 * k+1<N
  ·have u:=d.1;rw[<-o.out]at u;obtain⟨g,rfl⟩:=oU c (by omega);obtain⟨q,F⟩:∃q,q=N - 1 - k:=⟨_,rfl⟩
   rw[show ((N:Int) - 1 - (k:Int))=(q:Int) by omega];have P:k<q:=by omega
   have I:(k:Int)<(q:Int):=by omega
   have Q:q<N:=by omega
   have v:((q:Int) - 1)=(N:Int) - 1 - ((k+1:Nat):Int):=by omega
   obtain⟨x,C⟩:∃x,cur[k]? = some x:=⟨_,List.getElem?_eq_getElem (by omega)⟩
   obtain⟨y,G⟩:∃y,cur[q]? = some y:=⟨_,List.getElem?_eq_getElem (by omega)⟩
   obtain⟨V,W⟩:=c.cell C;obtain⟨X,Y⟩:=c.cell G;obtain⟨Z,S,T⟩:=(c.set k y).has q (by rw[List.length_set];omega);have l:=d.step (x:=x) (y:=y) (by rw[<-o.out];exact t) C (by rw[<-o.out,<-F];exact G);rw[<-o.out,<-F]at l;have n:=dh (dn ((c.set k y).set q x) (dn l (dn f v)));clear l c d f C G u v F;go_wp2_with fail;go_region
   all_goals
    go_wp2;go_roundg (N - (k+1))
    case measure=>rw[O.out];omega
    case rel=>exact⟨k+1,by omega,rfl,by go_num,by rw[<-n.out.2.2.2],_,n.out.1.keeps ((Keeps.refl (fun _=>False) _).drew) (fun _ _ h=>h),n.out.2.1,(n.out.2.2.1.trans (((Keeps.refl (fun x=>x=g) wr).setCell (p:=⟨g,k,none⟩) (.inl rfl) _).setCell (p:=⟨g,q,none⟩) (.inl rfl) _) (fun x C e=>by rw[e];rfl)).trans ((Keeps.refl (fun _=>False) _).drew) (fun _ _ h=>h.elim)⟩
  ·have J:¬(k:Int)<(N:Int) - 1 - k:=by omega
   have z:=d.done (by rw[<-o.out];omega);rw[z]at c;have n:=dh (dn c f);clear c f d z t;go_wp2;go_end0;exact⟨rfl,n.out⟩
end
