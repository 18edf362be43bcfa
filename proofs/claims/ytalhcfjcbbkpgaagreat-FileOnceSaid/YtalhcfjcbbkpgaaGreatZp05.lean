import Derived.Shelf.Strings.Builder1
import Derived.Test.YtalhcfjcbbkpgaaGreatZp04
set_option maxRecDepth 100000
set_option maxHeartbeats 4000000
namespace Go.Proofs
open Go.Shelf
end Go.Proofs
namespace Go.Proofs.YtalhcfjcbbkpgaaGreat
section
open Go.RowKit
end
section
open Go.RowKit
end
section
open Go.RowKit
def mK(x k:Nat):List Bool:=(List.range k).map fun i=>x / 2 ^ i % 2 == 1
theorem qg(x k:Nat):mK x (k+1)=mK x k ++ [x / 2 ^ k % 2 == 1]:=by simp[mK,List.range_succ]
theorem Br(x k:Nat):(mK x k).length=k:=by simp[mK]
theorem eX.grown{w:World}{b:Nat}{v:Value}{l:List Bool}(h:eX w b v l):eY w b v l w:=⟨v,h,Keeps.refl _ _,.inl rfl⟩
theorem QK(y:Nat)(b:y<18446744073709551616):bits BinOp.and IntKind.u64 (y:Int) 1=(((y % 2 == 1).toNat:Nat):Int):=by
 have h:=bits_and_u64_nat y 1 b (by omega);rw[show ((1:Nat):Int)=1 from rfl]at h;rw[h,Nat.and_one_is_mod];have a:y % 2=0\/y % 2=1:=by omega
 rcases a with a|a <;> rw[a] <;> rfl
theorem KU(b:Nat)(v:Value)(l:List Bool)(x k:Nat)(w:World)(h:eX w b v l)(G:l.length+64<1000000000)(z:x<18446744073709551616)(H:k<=64) :
  Calls Tryz.prog 134 #[.pointer (some ⟨b,0,none⟩),.int .u64 x,.int .i64 k] w fun e w'=>e=.returned (.tuple #[])/\eY w b v (l ++ mK x k) w':=by
 have A:min (k:Int) 64=k:=by omega
 go_enter Tryz.func134,Tryz.ntmps134;go_wp2_with fail;clear A;go_loopg [12] k (fun m i wr=>∃j:Nat,j<=k/\m=k - j/\i=.int .i64 j/\eY w b v (l ++ mK x j) wr)
 case atStart=>exact⟨0,Nat.zero_le _,rfl,rfl,by simpa [mK]using h.grown⟩
 case round =>
  obtain⟨j,I,c,rfl,p,d,f,g⟩:=hrel;have B:=dh c;clear c;by_cases C:j<k
  ·have q:=qbv b p (l ++ mK x j) (x / 2 ^ j % 2 == 1) wr d (by simp[Br];omega);have r:=dh (dn f g);clear d f g;have n:=QK (x / 2 ^ j) (Nat.lt_of_le_of_lt (Nat.div_le_self _ _) z);have s:(x:Int) / 2 ^ j=((x / 2 ^ j:Nat):Int):=by simp
   rw[<-s]at n;have D:=dh n;clear n s;go_wp2_with fail;rw[D.out];refine q.mono ?_;rintro e E ⟨rfl,F,t,u,y⟩;have a:eY w b v (l ++ mK x (j+1)) E:=eY.trans r.out.1 r.out.2 ⟨F,by rw[qg,<-List.append_assoc];exact t,u,y⟩;have o:=dh a;clear q t u y a;go_wp2;go_roundg (k - (j+1))
   case measure=>rw[B.out];omega
   case rel=>exact⟨j+1,by omega,rfl,by go_num,o.out⟩
  ·obtain rfl:j=k:=by omega
   have o:Hid (eY w b v (l ++ mK x j) wr):=dh ⟨p,d,f,g⟩;clear d f g;go_wp2;go_end0;exact⟨rfl,o.out⟩
end
section
open Go.RowKit
def jT(ks:List Nat):List Bool:=ks.flatMap fun k=>mK k 2
theorem QL{ks:List Nat}{i x:Nat}(h:ks[i]? = some x):jT (ks.take (i+1))=jT (ks.take i) ++ mK x 2:=by unfold jT;rw[oW h,List.flatMap_append];simp
theorem Ib(ks:List Nat):(jT ks).length=2 * ks.length:=by
 induction ks with
 | nil=>rfl
 | cons k ks a=>simp only [jT,List.flatMap_cons,List.length_append,Br,List.length_cons]at *;omega
def gY(w:World)(b:Nat)(l:List Bool)(w':World):Prop:=∃v,eX w' b v l/\w.heap.size<=b/\(∀k,v.ownBlock=some k->w.heap.size<=k)/\Keeps (fun _=>False) w w'
theorem gY.grown{w wr w1:World}{b:Nat}{l:List Bool}{v:Value}(i:w.heap.size<=b)(f:∀k,v.ownBlock=some k->w.heap.size<=k)(g:Keeps (fun _=>False) w wr)(h:eY wr b v l w1):gY w b l w1:=by
 obtain⟨j,m,n,c⟩:=h;refine⟨j,m,i,fun k a=>?_,g.trans n (fun x o e=>?_)⟩
 ·rcases c with c|⟨p,c,d⟩
  ·rw[c]at a;exact f k a
  ·rw[c]at a;cases a;exact Nat.le_trans g.size d
 ·rcases e with rfl|e
  ·omega
  ·have:=f x e;omega
theorem QM(b:Nat)(v:Value)(ks:List Nat)(w:World)(G:gF w b v ks)(H:∀k ∈ ks,k<4)(R:ks.length<=1000000) :
  Calls Tryz.prog 131 #[.pointer (some ⟨b,0,none⟩)] w fun e w'=>∃d,e=.returned (.pointer (some ⟨d,0,none⟩))/\gY w d (jT ks) w':=by
 have A:=(Keeps.refl (fun _=>False) w).alloc (.cells #[.slice none 0 0,.int .i64 0] 198);have I:Hid (∀W,Keeps (fun _=>False) w W->gF W b v ks):=dh (fun W B=>G.keeps B (fun h=>h) (fun _ _ h=>h));have J:=qc2 b v ks _ (I.out _ A);have l:gY w w.heap.size [] (w.alloc (.cells #[.slice none 0 0,.int .i64 0] 198)):=⟨_,Hf w,Nat.le_refl _,fun k B=>by simp[Value.ownBlock]at B,A⟩
 have L:=dh H;clear G H A;go_enter Tryz.func131,Tryz.ntmps131;go_wp2_with fail;refine(FC _).mono ?_;rintro e w1 ⟨rfl,rfl⟩;go_wp2_with fail;refine J.mono ?_;rintro e w1 ⟨rfl,rfl⟩;clear J;go_wp2_with fail;generalize World.alloc _ _=wM at *;obtain⟨d,n⟩:∃d,d=w.heap.size:=⟨_,rfl⟩
 rw[<-n]at l;rw[<-n];clear n;go_loopg [8] ks.length (fun m i wr=>∃j:Nat,j<=ks.length/\m=ks.length - j/\i=.int .i64 j/\gY w d (jT (ks.take j)) wr)
 case atStart=>exact⟨0,Nat.zero_le _,rfl,rfl,l⟩
 case round =>
  obtain⟨j,S,p,rfl,K,t,u,x,q⟩:=hrel;have M:=dh p;clear p l;by_cases C:j<ks.length
  ·have o:=I.out wr q;obtain⟨a,cap,rfl,N,O,c⟩:=o.form;have T:wr.cell? ⟨b,0,none⟩=some (.slice a ks.length cap):=dw o.1 0;have z:=List.getElem?_eq_getElem C;obtain⟨g,rfl,U⟩:=c j _ z;have P:=L.out _ (List.mem_of_getElem? z);have r:=QL z;have f:=Ib (ks.take j);have D:=KU d K (jT (ks.take j)) ks[j] 2 wr t (by rw[f,List.length_take];omega) (by omega) (by omega);rw[<-r]at D;generalize ks[j]=y at *;have E:=dh (dn u (dn x q));clear z r c o t u x q f;go_wp2_with fail;refine D.mono ?_;rintro e Q ⟨rfl,s⟩;have F:Hid (gY w d (jT (ks.take (j+1))) Q):=dh (gY.grown E.out.1 E.out.2.1 E.out.2.2 s);clear D s;go_wp2;go_roundg (ks.length - (j+1))
   case measure=>rw[M.out];omega
   case rel=>exact⟨j+1,by omega,rfl,by go_num,F.out⟩
  ·obtain rfl:j=ks.length:=by omega
   have F:Hid (gY w d (jT (ks.take ks.length)) wr):=dh ⟨K,t,u,x,q⟩;clear t u x q;go_wp2;go_ret;refine⟨d,rfl,?_⟩;have:=F.out;rwa [List.take_of_length_le (Nat.le_refl _)]at this
end
section
open Go.RowKit
end
section
open Go.RowKit
theorem Sl.two(w:World)(k:IntKind)(p q:Int)(t:TypeId):Sl k (w.alloc (.cells #[.int k p,.int k q] t)) (.slice (some ⟨w.heap.size,0,none⟩) 2 2) [p,q]:=by
 refine⟨_,_,rfl,by simp,by decide,fun h=>by simp at h,fun j z a=>⟨_,_,rfl,?_⟩⟩;rw[dw (heap_alloc_new w _)]
 match j,a with
 | 0,a=>simp at a;subst a;rfl
 | 1,a=>simp at a;subst a;rfl
end
