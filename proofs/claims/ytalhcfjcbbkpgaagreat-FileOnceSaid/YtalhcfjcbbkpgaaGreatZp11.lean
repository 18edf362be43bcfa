import Derived.Shelf.Small.Bits
import Derived.Test.YtalhcfjcbbkpgaaGreatZp0r
set_option maxRecDepth 100000
set_option maxHeartbeats 4000000
namespace Go.Proofs
open Go.Shelf
def Tryz.lays125_ren:Go.Shelf.Ren:=⟨fun|125=>169|128=>198|129=>199|n=>n,fun|3=>3|4=>4|5=>5|9=>9|46=>177|51=>49|53=>88|n=>n,fun|n=>n⟩
theorem Tryz.lays125:Go.Proofs.Lays.n125 Tryz.prog Tryz.lays125_ren:={
 mixed:=by kernel_rfl
 f125:=Tryz.func169.trans (congrArg some (by kernel_rfl))
 f128:=Tryz.func198.trans (congrArg some (by kernel_rfl))
 f129:=Tryz.func199.trans (congrArg some (by kernel_rfl))
 t3:=Tryz.underlying3
 a3:=Tryz.isAgg3
 z3:=Tryz.sizeOf3
 v3:=Tryz.zeroValue3
 t4:=Tryz.underlying4
 a4:=Tryz.isAgg4
 z4:=Tryz.sizeOf4
 v4:=Tryz.zeroValue4
 t5:=Tryz.underlying5
 a5:=Tryz.isAgg5
 z5:=Tryz.sizeOf5
 v5:=Tryz.zeroValue5
 t9:=Tryz.underlying9
 a9:=Tryz.isAgg9
 z9:=Tryz.sizeOf9
 v9:=Tryz.zeroValue9
 t46:=Tryz.underlying177
 a46:=Tryz.isAgg177
 z46:=Tryz.sizeOf177
 v46:=Tryz.zeroValue177
 t51:=Tryz.underlying49
 a51:=Tryz.isAgg49
 z51:=Tryz.sizeOf49
 v51:=Tryz.zeroValue49
 t53:=Tryz.underlying88
 a53:=Tryz.isAgg88
 z53:=Tryz.sizeOf88
 v53:=Tryz.zeroValue88 }
end Go.Proofs
namespace Go.Proofs.YtalhcfjcbbkpgaaGreat
open Go.RowKit
theorem VX(x:Nat)(w:World)(a:x<=18446744073709551615) :
  Calls Tryz.prog 169 #[.int .u64 x] w fun e w'=>e=.returned (.int .i64 (Lib.bitLen x:Nat))/\w=w' :=
 (Any.bits_Len Tryz.lays125 x w (by omega) (by omega)).mono (fun _ _ ⟨a,h2⟩=>⟨by rw[a];simp,h2.symm⟩)
theorem VY(n:Nat)(w:World)(d:n<=1000000):Calls Tryz.prog 135 #[.int .i64 n] w fun e w'=>e=.returned (.int .i64 (iM n:Nat))/\w=w':=by
 by_cases h:n<2
 ·have a:decide ((n:Int)<2)=true:=decide_eq_true (by omega);have b:decide (n<2)=true:=decide_eq_true h;have e:iM n=0:=by unfold iM;rw[if_pos h]
  rw[e];go_enter Tryz.func135,Tryz.ntmps135;go_wp2;go_ret;exact⟨rfl,rfl⟩
 ·have a:decide ((n:Int)<2)=false:=decide_eq_false (by omega);have b:decide (n<2)=false:=decide_eq_false h;have e:iM n=Lib.bitLen (n - 1):=by unfold iM;rw[if_neg h]
  rw[e];obtain⟨m,rfl⟩:∃m,n=m+1:=⟨n - 1,by omega⟩
  rw[Nat.add_sub_cancel];have c:=VX m w (by omega);have f:((m+1:Nat):Int) - 1=(m:Int):=by omega
  have g:(m:Int)+1 - 1=(m:Int):=by omega
  go_enter Tryz.func135,Tryz.ntmps135;go_wp2_with fail;refine c.mono ?_;rintro e w' ⟨rfl,rfl⟩;go_wp2;go_ret;exact⟨rfl,rfl⟩
theorem gY.add1{w wr:World}{b:Nat}{l:List Bool}(h:gY w b l wr)(z:Int)(x:Bool)(j:x=!(z == 0))(p:l.length<900000000) :
  Calls Tryz.prog 136 #[.pointer (some ⟨b,0,none⟩),.slice (some ⟨wr.heap.size,0,none⟩) 1 1] (wr.alloc (.cells #[.int .i64 z] 3)) fun e w'=>e=.returned (.tuple #[])/\gY w b (l ++ [x]) w':=by
 obtain⟨v,a,k,c,m⟩:=h;have g:=(Keeps.refl (fun _=>False) wr).alloc (.cells #[.int .i64 z] 3);have d:=a.apart;have n:=a.lt;refine(DK b v l (.slice (some ⟨wr.heap.size,0,none⟩) 1 1) [z] _ (a.keeps g (fun h=>h) (fun _ _ h=>h)) (Sl.one wr .i64 z _) (fun q i=>?_) (by simp;omega)).mono ?_
 ·simp only [Value.ownBlock,Option.some.injEq]at i;subst i;exact⟨by omega,fun e=>by have:=(d _ e).2;omega⟩
 ·rintro e w' ⟨rfl,o⟩;refine⟨rfl,?_⟩;have f:=gY.grown k c (m.trans g (fun _ _ h=>h)) o;rw[j];exact f
theorem VZ(b:Nat)(sv:Value)(ps:List Nat)(w:World)(h:PermAt w b sv ps)(hP:dO ps.length (sg ps))(he:ps.length % 2=0)(hl:ps.length<=131072)(hm:∀d,d<ps.length->sg ps (mt d)=mt (sg ps d)) :
  Calls Tryz.prog 93 #[.pointer (some ⟨b,0,none⟩)] w fun e w'=>∃g,e=.returned (.tuple #[.pointer (some ⟨g,0,none⟩),.int .i64 0])/\gY w g (lK (ps.length / 2) (fun e=>sg ps (2 * e)) (ps.length / 2)) w':=by
 have V:Hid (∀W,Keeps (fun _=>False) w W->PermAt W b sv ps):=dh (fun W f=>h.keeps f (fun h=>h) (fun _ _ h=>h));have X:=AA b sv ps w h;obtain⟨n,Y⟩:∃n,n=ps.length:=⟨_,rfl⟩
 obtain⟨m,y⟩:∃m,m=ps.length / 2:=⟨_,rfl⟩
 have E:n=2 * m:=by omega
 rw[<-Y]at X;rw[<-y];have HA:=dh (dn hP hm);have HN:=dh (dn Y y);have ai:n<=131072:=by omega
 clear h hP hm Y y he;have e1:(n:Int) % 2=0:=by omega
 have e2:(n:Int).tmod 2=0:=by rw[Int.tmod_eq_emod_of_nonneg (by omega)];omega
 have e3:(n:Int) / 2=(m:Int):=by omega
 have e4:(n:Int).tdiv 2=(m:Int):=by rw[Int.tdiv_eq_ediv_of_nonneg (by omega)];omega
 have e5:IntKind.i64.wrap (m:Int)=(m:Int):=IntWalk.i64_in _ (by omega);have Z:=dh E;clear E;go_enter Tryz.func93,Tryz.ntmps93;go_wp2_with fail;refine X.mono ?_;rintro e w' ⟨rfl,rfl⟩;clear X;go_wp2_with fail;refine(FC _).mono ?_;rintro e w' ⟨rfl,rfl⟩;have z:gY w w.heap.size [] (w.alloc (.cells #[.slice none 0 0,.int .i64 0] 198)):=⟨_,Hf w,Nat.le_refl _,fun k f=>by simp[Value.ownBlock]at f,(Keeps.refl (fun _=>False) w).alloc _⟩
 have c:=AA b sv ps _ (V.out _ ((Keeps.refl (fun _=>False) w).alloc (.cells #[.slice none 0 0,.int .i64 0] 198)));rw[<-HN.out.1]at c;obtain⟨g,A⟩:∃g,g=w.heap.size:=⟨_,rfl⟩
 rw[<-A]at z;go_wp2_with fail;rw[<-A];clear A;refine c.mono ?_;rintro e w' ⟨rfl,rfl⟩;clear c;generalize World.alloc _ _=w1 at *;go_wp2_with fail;go_loopg [21] m (fun q iv wr=>∃j:Nat,j<=m/\q=m - j/\iv=.int .i64 j/\gY w g (lK m (fun e=>sg ps (2 * e)) j) wr)
 case atStart=>exact⟨0,Nat.zero_le _,by omega,rfl,z⟩
 case round =>
  clear z;obtain⟨j,hj,F,rfl,G⟩:=hrel;have aa:=dh F;clear F;by_cases aj:j<m
  ·have f:Keeps (fun _=>False) w wr:=by obtain⟨_,_,_,_,f⟩:=id G;exact f
   have H:2 * j+1<ps.length:=by have:=HN.out.1;have:=Z.out;omega
   have s:=AB b sv ps (2 * j) wr (V.out wr f) (by omega);have i:=AB b sv ps (2 * j+1) wr (V.out wr f) H;obtain⟨d,B⟩:∃d,d=sg ps (2 * j):=⟨_,rfl⟩
   have I:mt (2 * j)=2 * j+1:=by unfold mt;rw[if_pos (by omega)]
   have J:sg ps (2 * j+1)=mt d:=by rw[<-I,HA.out.2 _ (by omega),B]
   rw[J]at i;rw[<-B]at s;have ab:d<ps.length:=by rw[B];exact HA.out.1.lt _ (by omega)
   have hx:=Ey d (by omega);have K:=fun W=>VY m W (by omega);have u:=Ci m (fun e=>sg ps (2 * e)) j;have a:=Jj m (fun e=>sg ps (2 * e)) j;have l:=qh m;have M:(lK m (fun e=>sg ps (2 * e)) j).length<=10000000:=by rw[u];have:j * (iM m+1)<=65536 * 65:=Nat.mul_le_mul (by omega) (by omega);omega
   have e6:(d:Int) / 2=((d / 2:Nat):Int):=by omega
   have e7:(d:Int).tdiv 2=((d / 2:Nat):Int):=by rw[Int.tdiv_eq_ediv_of_nonneg (by omega)];omega
   have e8:(d:Int).tmod 2=((d % 2:Nat):Int):=by rw[Int.tmod_eq_emod_of_nonneg (by omega)];omega
   have e9:(d:Int) % 2=((d % 2:Nat):Int):=by omega
   obtain⟨C,o⟩:∃C,C=d / 2:=⟨_,rfl⟩
   obtain⟨D,p⟩:∃D,D=d % 2:=⟨_,rfl⟩
   rw[<-o]at e6 e7;rw[<-p]at e8 e9;have ag:C<=100000:=by omega
   have ah:D<2:=by omega
   have ak:IntKind.u64.wrap (C:Int)=(C:Int):=by rw[IntKind.wrap_u64];omega
   have N:((2 * j:Nat):Int)=2 * (j:Int):=by omega
   have O:((2 * j+1:Nat):Int)=2 * (j:Int)+1:=by omega
   rw[N]at s;rw[O]at i;obtain⟨md,P⟩:∃md,md=mt d:=⟨_,rfl⟩
   rw[<-P]at i hx;have U:=dh (dn G (dn M (dn a (dn B (dn o p)))));clear G f B J I u a o p N O M P H ab;generalize lK m (fun e=>sg ps (2 * e)) j=L at *;generalize c:lK m (fun e=>sg ps (2 * e)) (j+1)=L2 at *;have ad:=dh c;clear c;go_wp2_with fail;refine s.mono ?_;clear s;rintro e w' ⟨rfl,rfl⟩;go_wp2_with fail;refine i.mono ?_;clear i;rintro e w' ⟨rfl,rfl⟩;go_wp2_with fail;refine(K _).mono ?_;rintro e w' ⟨rfl,rfl⟩;clear K;obtain⟨vv,Q,hb,R,f⟩:=U.out.1;have r:=KU g vv L C (iM m) wr Q (by have:=U.out.2.1;omega) (by omega) l;have HB:=dh (dn hb (dn R f));have x:=dh l;clear Q hb R f l;obtain⟨wd,t⟩:∃wd,wd=iM m:=⟨_,rfl⟩
   rw[<-t]at r x;rw[<-t];have ae:=dh t;clear t;go_wp2_with fail;refine r.mono ?_;clear r;rintro e w2 ⟨rfl,hg⟩;have S:gY w g (L ++ mK C wd) w2:=gY.grown HB.out.1 HB.out.2.1 HB.out.2.2 hg
   have hA:=S.add1 (D:Int) (D == 1) (by
    have af:D=0\/D=1:=by omega
    rcases af with rfl|rfl <;> rfl) (by rw[List.length_append,Br];have:=U.out.2.1;have:=x.out;omega)
   clear hg S;go_wp2_with fail;refine hA.mono ?_;clear hA;rintro e w3 ⟨rfl,T⟩;have HF:Hid (gY w g L2 w3):=dh (by obtain⟨_,_,a,B,o,p⟩:=U.out;rw[a];unfold qJ;rw[<-B,<-o,<-ae.out,<-p,<-List.append_assoc];exact T);clear T;go_wp2_with fail;go_roundg (m - (j+1))
   case measure=>rw[aa.out];omega
   case rel=>exact⟨j+1,by omega,rfl,by go_num,by rw[ad.out];exact HF.out⟩
  ·obtain rfl:j=m:=by omega
   have HF:=dh G;clear G;go_wp2;refine bodyPost_ret (v:=.tuple #[.pointer (some ⟨g,0,none⟩),.int .i64 0]) (by simp[results,Tryz.results93,go_sem]) rfl ?_;exact⟨g,rfl,HF.out⟩
