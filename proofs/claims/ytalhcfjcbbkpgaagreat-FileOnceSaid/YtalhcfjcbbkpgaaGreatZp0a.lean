import Derived.Test.YtalhcfjcbbkpgaaGreatZp09
set_option maxRecDepth 100000
set_option maxHeartbeats 4000000
namespace Go.Proofs.YtalhcfjcbbkpgaaGreat
open Go.RowKit
def gJ(W:World)(b:Nat)(t:TypeId)(l h:Nat)(a:List Value):Prop:=W.heap[b]? = some (.cells ⟨.int .u64 l :: .int .u64 h :: a⟩ t (0,0))
theorem gJ.c0{W:World}{b:Nat}{t:TypeId}{l h:Nat}{a:List Value}(k:gJ W b t l h a):W.cell? ⟨b,0,none⟩=some (.int .u64 l):=by have:=dw k 0;simpa using this
theorem gJ.c1{W:World}{b:Nat}{t:TypeId}{l h:Nat}{a:List Value}(k:gJ W b t l h a):W.cell? ⟨b,1,none⟩=some (.int .u64 h):=by have:=dw k 1;simpa using this
theorem gJ.low{W:World}{b:Nat}{t:TypeId}{l h:Nat}{a:List Value}(k:gJ W b t l h a)(z:Nat):gJ (W.setCell ⟨b,0,none⟩ (.int .u64 (z:Int))) b t z h a:=by have:=jM k 0 (.int .u64 (z:Int));simpa [gJ]using this
theorem gJ.high{W:World}{b:Nat}{t:TypeId}{l h:Nat}{a:List Value}(k:gJ W b t l h a)(z:Nat):gJ (W.setCell ⟨b,1,none⟩ (.int .u64 (z:Int))) b t l z a:=by have:=jM k 1 (.int .u64 (z:Int));simpa [gJ]using this
theorem gJ.keeps{W a:World}{b:Nat}{t:TypeId}{l h:Nat}{c:List Value}{G:Nat->Prop}(k:gJ W b t l h c)(d:Keeps G W a)(e:¬G b):gJ a b t l h c:=d.at k e
theorem Rj(b:Nat)(l h:Nat)(c:Nat × Nat)(t:TypeId)(q:List Value)(w:World)(n:gJ w b t l h q)(j:wP l h)(o:zh c) :
  Calls Tryz.prog 234 #[.pointer (some ⟨b,0,none⟩),.agg #[.int .u64 c.1,.int .u64 c.2]] w fun e w'=>e=.returned (.int .u64 (pq l h c:Nat))/\Keeps (fun _=>False) w w':=by
 have r:=Io j o;have d:pq l h c=l+(h - l+1) * c.1 / (c.1+c.2) - 1:=rfl;obtain⟨a,g⟩:=c;obtain⟨z,A,B⟩:=o;have C:=j.2.1;have s:=j.1;simp only at *;have m:=(Keeps.refl (fun _=>False) w).alloc (.cells #[.int .u64 a,.int .u64 g] 265);have f:=n.keeps m (fun h=>h);have D:=f.c0;have E:=f.c1;obtain⟨P,i⟩:∃P,P=(h - l+1) * a:=⟨_,rfl⟩
 have u:P<281474976710656:=by
  rw[i]
  calc (h - l+1) * a<=4294967296 * a:=Nat.mul_le_mul_right _ (by omega)
   _<4294967296 * 65536:=Nat.mul_lt_mul_of_pos_left (by omega) (by decide)
   _=281474976710656:=by decide
 obtain⟨Q,k⟩:∃Q,Q=P / (a+g):=⟨_,rfl⟩
 rw[<-i,<-k]at d;rw[<-i,<-k]at r;have F:((h:Int) - (l:Int)+1) * (a:Int)=(P:Int):=by rw[i];push_cast;congr 1;omega
 have G:(P:Int) / ((a:Int)+(g:Int))=(Q:Int):=by rw[k];push_cast;rfl
 have v:¬(a:Int)+(g:Int)=0:=by omega
 have x:Q<=4294967296:=by omega
 have p:=dh (dn d m);clear n j i k d m f;generalize pq l h (a,g)=M at *;go_enter Tryz.func234,Tryz.ntmps234;go_wp2_with fail;go_quiet (fail);have y:=dh (p.out.2.drewN nq);go_wp2;go_ret;refine⟨?_,y.out⟩;show Ending.returned (.int .u64 ((l:Int)+(Q:Int) - 1))=_;rw[p.out.1];congr 2;omega
theorem Rk(b:Nat)(l h:Nat)(c:Nat × Nat)(x:Bool)(t:TypeId)(g:List Value)(w:World)(n:gJ w b t l h g)(i:wP l h)(o:zh c) :
  Calls Tryz.prog 194 #[.pointer (some ⟨b,0,none⟩),.agg #[.int .u64 c.1,.int .u64 c.2],.int .i64 (x.toNat:Int)] w fun e w'=>e=.returned (.tuple #[])/\gJ w' b t (if x then pq l h c+1 else l) (if x then h else pq l h c) g/\Keeps (fun k=>k=b) w w':=by
 have q:=(Keeps.refl (fun _=>False) w).alloc (.cells #[.int .u64 c.1,.int .u64 c.2] 265);have d:=n.keeps q (fun h=>h);have s:=Rj b l h c t g _ d i o;have A:=Io i o;have B:=i.2.1;have u:=dh q;have r:=dh d;have v:b<w.heap.size:=lt_of_block n;clear n i q d;generalize pq l h c=M at *;obtain⟨C,D⟩:=c;simp only at *;clear o;go_enter Tryz.func194,Tryz.ntmps194;go_wp2_with fail;refine s.mono ?_;clear s;rintro e w1 ⟨rfl,a⟩;have f:=r.out.keeps a (fun h=>h);have j:Keeps (fun k=>k=b) w w1:=(u.out.trans a (fun _ _ h=>h)).mono (fun _ _ h=>h.elim);have E:=f.c0;have y:=f.c1;have F:=dx f;cases x
 ·have m:Hid (gJ (w1.setCell ⟨b,1,none⟩ (.int .u64 (M:Int))) b t l M g/\Keeps (fun k=>k=b) w (w1.setCell ⟨b,1,none⟩ (.int .u64 (M:Int)))):=dh ⟨f.high M,j.setCell (p:=⟨b,1,none⟩) (.inl rfl) _⟩;clear j f a;go_wp2_with fail;go_end0;exact⟨rfl,m.out⟩
 ·have m:Hid (gJ (w1.setCell ⟨b,0,none⟩ (.int .u64 ((M+1:Nat):Int))) b t (M+1) h g/\Keeps (fun k=>k=b) w (w1.setCell ⟨b,0,none⟩ (.int .u64 ((M+1:Nat):Int)))):=dh ⟨f.low (M+1),j.setCell (p:=⟨b,0,none⟩) (.inl rfl) _⟩;clear j f a;have z:((M+1:Nat):Int)=(M:Int)+1:=by omega
  rw[z]at m;go_wp2_with fail;go_end0;exact⟨rfl,m.out⟩
def iI(l h:Nat):Nat:=if way l h=0 then l else 2 * (l - l9 (way l h))
def jB(l h:Nat):Nat:=if way l h=0 then h else 2 * (h - l9 (way l h))+1
theorem DX{l h:Nat}(e:way l h=1):iI l h=2 * (l - 0)/\jB l h=2 * (h - 0)+1:=by unfold iI jB;rw[e,show l9 1=0 from rfl,if_neg (by decide),if_neg (by decide)];exact⟨rfl,rfl⟩
theorem DY{l h:Nat}(e:way l h=2):iI l h=2 * (l - 2147483648)/\jB l h=2 * (h - 2147483648)+1:=by unfold iI jB;rw[e,show l9 2=2147483648 from rfl,if_neg (by decide),if_neg (by decide)];exact⟨rfl,rfl⟩
theorem DZ{l h:Nat}(e:way l h=3):iI l h=2 * (l - 1073741824)/\jB l h=2 * (h - 1073741824)+1:=by unfold iI jB;rw[e,show l9 3=1073741824 from rfl,if_neg (by decide),if_neg (by decide)];exact⟨rfl,rfl⟩
theorem Rl(b:Nat)(l h:Nat)(t:TypeId)(q:List Value)(w:World)(g:gJ w b t l h q)(D:l<=h)(F:h<4294967296) :
  Calls Tryz.prog 196 #[.pointer (some ⟨b,0,none⟩)] w fun e w'=>e=.returned (.int .i64 (way l h:Nat))/\gJ w' b t (iI l h) (jB l h) q/\Keeps (fun k=>k=b) w w':=by
 have G:=g.c0;have I:=g.c1;have J:=dx g;have K:b<w.heap.size:=lt_of_block g
 have a:∀(x y:Nat),gJ ((w.setCell ⟨b,0,none⟩ (.int .u64 (x:Int))).setCell ⟨b,1,none⟩ (.int .u64 (y:Int))) b t x y q/\Keeps (fun k=>k=b) w ((w.setCell ⟨b,0,none⟩ (.int .u64 (x:Int))).setCell ⟨b,1,none⟩ (.int .u64 (y:Int))):=fun x y =>
  ⟨(g.low x).high y,((Keeps.refl (fun k=>k=b) w).setCell (p:=⟨b,0,none⟩) (.inl rfl) _).setCell (p:=⟨b,1,none⟩) (.inl rfl) _⟩
 have n:∀x:Nat,(w.setCell ⟨b,0,none⟩ (.int .u64 (x:Int))).cell? ⟨b,1,none⟩=some (.int .u64 h):=fun x=>(g.low x).c1;have o:∀(x:Nat) (i:Nat),(w.setCell ⟨b,0,none⟩ (.int .u64 (x:Int))).frozen? ⟨b,i,none⟩=false:=fun x i=>dx (g.low x) i;have E:=dh g;clear g;rcases Da l h with⟨e,s⟩|⟨e,s,v⟩|⟨e,s,v,a3,a4⟩|⟨e,s,v,a3⟩
 ·obtain⟨d,f⟩:=DX e;have c:=dh (dn e (a (2 * (l - 0)) (2 * (h - 0)+1)));rw[<-d,<-f]at c;have r:=dh (dn d f);have u:decide ((h:Int)<2147483648)=true:=decide_eq_true (by omega);have n:=n (iI l h);have o:=o (iI l h);have z:2 * (l:Int)=((iI l h:Nat):Int):=by rw[d];omega
  have A:2 * (h:Int)+1=((jB l h:Nat):Int):=by rw[f];omega
  clear a d f;generalize iI l h=L at *;generalize jB l h=H at *;go_enter Tryz.func196,Tryz.ntmps196;go_wp2_with fail;go_region
  all_goals
   go_wp2;go_ret
   exact⟨by rw[c.out.1];rfl,c.out.2.1.keeps ((Keeps.refl (fun _=>False) _).drew) (fun h=>h),c.out.2.2.trans ((Keeps.refl (fun _=>False) _).drew) (fun _ _ h=>h.elim)⟩
 ·obtain⟨d,f⟩:=DY e;have c:=dh (dn e (a (2 * (l - 2147483648)) (2 * (h - 2147483648)+1)));rw[<-d,<-f]at c;have r:=dh (dn d f);have u:decide ((h:Int)<2147483648)=false:=decide_eq_false (by omega);have B:decide ((2147483648:Int)<=(l:Int))=true:=decide_eq_true (by omega);have n:=n (iI l h);have o:=o (iI l h);have z:2 * ((l:Int) - 2147483648)=((iI l h:Nat):Int):=by rw[d];omega
  have A:2 * ((h:Int) - 2147483648)+1=((jB l h:Nat):Int):=by rw[f];omega
  clear a d f;generalize iI l h=L at *;generalize jB l h=H at *;go_enter Tryz.func196,Tryz.ntmps196;go_wp2_with fail;go_region
  all_goals
   go_wp2;go_ret
   exact⟨by rw[c.out.1];rfl,c.out.2.1.keeps ((Keeps.refl (fun _=>False) _).drew) (fun h=>h),c.out.2.2.trans ((Keeps.refl (fun _=>False) _).drew) (fun _ _ h=>h.elim)⟩
 ·obtain⟨d,f⟩:=DZ e;have c:=dh (dn e (a (2 * (l - 1073741824)) (2 * (h - 1073741824)+1)));rw[<-d,<-f]at c;have r:=dh (dn d f);have u:decide ((h:Int)<2147483648)=false:=decide_eq_false (by omega);have B:decide ((2147483648:Int)<=(l:Int))=false:=decide_eq_false (by omega);have t3:decide ((1073741824:Int)<=(l:Int))=true:=decide_eq_true (by omega);have t4:decide ((h:Int)<3221225472)=true:=decide_eq_true (by omega);have n:=n (iI l h);have o:=o (iI l h);have z:2 * ((l:Int) - 1073741824)=((iI l h:Nat):Int):=by rw[d];omega
  have A:2 * ((h:Int) - 1073741824)+1=((jB l h:Nat):Int):=by rw[f];omega
  clear a d f;generalize iI l h=L at *;generalize jB l h=H at *;go_enter Tryz.func196,Tryz.ntmps196;go_wp2_with fail;go_region
  all_goals
   go_wp2;go_ret
   exact⟨by rw[c.out.1];rfl,c.out.2.1.keeps ((Keeps.refl (fun _=>False) _).drew) (fun h=>h),c.out.2.2.trans ((Keeps.refl (fun _=>False) _).drew) (fun _ _ h=>h.elim)⟩
 ·have c:Hid (way l h=0/\gJ w b t (iI l h) (jB l h) q):=dh ⟨e,by unfold iI jB;rw[if_pos e,if_pos e];exact E.out⟩;have u:decide ((h:Int)<2147483648)=false:=decide_eq_false (by omega);have B:decide ((2147483648:Int)<=(l:Int))=false:=decide_eq_false (by omega);have j:∀W,Keeps (fun _=>False) w W->gJ W b t (iI l h) (jB l h) q/\Keeps (fun k=>k=b) w W:=fun W C=>⟨c.out.2.keeps C (fun h=>h),C.mono (fun _ _ h=>h.elim)⟩
  have m:=dh j;clear a j n o;by_cases M:l<1073741824
  ·have t3:decide ((1073741824:Int)<=(l:Int))=false:=decide_eq_false (by omega);go_enter Tryz.func196,Tryz.ntmps196;go_wp2_with fail;go_ret;exact⟨by rw[c.out.1];rfl,m.out _ (Keeps.refl _ _)⟩
  ·have t3:decide ((1073741824:Int)<=(l:Int))=true:=decide_eq_true (by omega);have t4:decide ((h:Int)<3221225472)=false:=decide_eq_false (by omega);go_enter Tryz.func196,Tryz.ntmps196;go_wp2_with fail;go_ret;exact⟨by rw[c.out.1];rfl,m.out _ (Keeps.refl _ _)⟩
