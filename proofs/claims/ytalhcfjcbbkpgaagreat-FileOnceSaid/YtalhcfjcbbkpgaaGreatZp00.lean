import Derived.Deep.AppendLies
import Derived.Lib.Hide
import Derived.Test.YtalhcfjcbbkpgaaGreatProg
import Derived.WalkSpells
import Derived.WalkLawsBesides
import Derived.BigQuiet
import Derived.Deep.LoopGhost
import Derived.Laws.AppendOwnNone
set_option maxRecDepth 100000
set_option maxHeartbeats 4000000
namespace Go.Proofs.YtalhcfjcbbkpgaaGreat
section
theorem dh{p:Prop}(h:p):Go.RowKit.Hid p:=Go.Lib.hid h
theorem dn{a b:Prop}(h:a)(k:b):a/\b:=⟨h,k⟩
def nO:List Bool->Nat
 | []=>0
 | b :: l=>b.toNat+2 * nO l
theorem Ko(l:List Bool):nO l<2 ^ l.length:=by
 induction l with
 | nil=>simp[nO]
 | cons b l a=>simp only [nO,List.length_cons,Nat.pow_succ];cases b <;> simp <;> omega
theorem Pz(l:List Bool)(b:Bool):nO (l ++ [b])=nO l+b.toNat * 2 ^ l.length:=by
 induction l with
 | nil=>simp[nO]
 | cons c l a =>
  simp only [List.cons_append,nO,a,List.length_cons,Nat.pow_succ,Nat.mul_add];have:b.toNat * (2 ^ l.length * 2)=2 * (b.toNat * 2 ^ l.length):=by rw[<-Nat.mul_assoc,Nat.mul_comm]
  omega
theorem PD(l:List Bool)(i:Nat):nO l / 2 ^ i % 2=(l.getD i false).toNat:=by
 induction l generalizing i with
 | nil=>simp[nO]
 | cons b l a =>
  cases i with
  | zero=>simp only [nO,Nat.pow_zero,Nat.div_one,List.getD_cons_zero];cases b <;> simp <;> omega
  | succ i =>
   simp only [nO,List.getD_cons_succ];rw[<-a i,Nat.pow_succ,Nat.mul_comm (2 ^ i) 2,<-Nat.div_div_eq_div_mul];congr 2;cases b <;> simp <;> omega
def mX(l:List Bool)(k:Nat):Nat:=nO ((l.drop (64 * k)).take 64)
def words(l:List Bool):List Nat:=(List.range ((l.length+63) / 64)).map (mX l)
theorem vH(l:List Bool):(words l).length=(l.length+63) / 64:=by simp[words]
theorem Aa{l:List Bool}{k:Nat}(h:k<(l.length+63) / 64):(words l)[k]? = some (mX l k):=by simp[words,h]
theorem FB(l:List Bool)(k:Nat):mX l k<18446744073709551616:=by have h:=Ko ((l.drop (64 * k)).take 64);have a:((l.drop (64 * k)).take 64).length<=64:=List.length_take_le _ _;have b:2 ^ ((l.drop (64 * k)).take 64).length<=2 ^ 64:=Nat.pow_le_pow_right (by decide) a;unfold mX;omega
theorem Kq(l:List Bool)(i:Nat):mX l (i / 64) / 2 ^ (i % 64) % 2=(l.getD i false).toNat:=by unfold mX;rw[PD];simp only [List.getD_eq_getElem?_getD,List.getElem?_take,List.getElem?_drop];rw[if_pos (Nat.mod_lt _ (by decide)),show 64 * (i / 64)+i % 64=i by omega]
theorem Kr{l:List Bool}(r:Nat)(hr:r=l.length % 64):mX l (l.length / 64)<2 ^ r:=by
 have h:=Ko ((l.drop (64 * (l.length / 64))).take 64);have a:((l.drop (64 * (l.length / 64))).take 64).length=r:=by simp;omega
 rw[a]at h;exact h
theorem PE(l:List Bool)(b:Bool){k:Nat}(h:k<l.length / 64):mX (l ++ [b]) k=mX l k:=by unfold mX;congr 1;rw[List.drop_append_of_le_length (by omega),List.take_append_of_le_length (by simp;omega)]
theorem PG(l:List Bool)(b:Bool):mX (l ++ [b]) (l.length / 64)=mX l (l.length / 64)+b.toNat * 2 ^ (l.length % 64):=by unfold mX;rw[List.drop_append_of_le_length (by omega),List.take_of_length_le (by simp;omega),Pz,List.take_of_length_le (by simp;omega)];congr 3;simp;omega
def nW(l:List Bool):List Nat:=if l.length % 64=0 then words l ++ [0]else words l
theorem G9(l:List Bool):(nW l).length=l.length / 64+1:=by unfold nW;split <;> simp[vH] <;> omega
theorem PI(l:List Bool):(nW l)[l.length / 64]? = some (mX l (l.length / 64)):=by
 unfold nW;split
 ·rename_i h;rw[List.getElem?_append_right (by rw[vH];omega),vH,show l.length / 64 - (l.length+63) / 64=0 by omega];have:=Kr (l:=l) 0 h.symm;simp at this;simp[this]
 ·exact Aa (by omega)
theorem PK{x r:Nat}(a:x<2 ^ r)(b:Bool):x ||| (b.toNat * 2 ^ r)=x+b.toNat * 2 ^ r:=by have h:=Nat.two_pow_add_eq_or_of_lt a b.toNat;rw[Nat.mul_comm,Nat.or_comm,<-h,Nat.add_comm]
theorem Kt(l:List Bool)(b:Bool):words (l ++ [b])=(nW l).set (l.length / 64) (mX l (l.length / 64) ||| (b.toNat * 2 ^ (l.length % 64))):=by
 rw[PK (Kr _ rfl),<-PG];apply List.ext_getElem?;intro k;rw[List.getElem?_set];have a:(l ++ [b]).length=l.length+1:=by simp
 by_cases d:l.length / 64=k
 ·subst d;rw[if_pos rfl,if_pos (by rw[G9];omega)];exact Aa (by rw[a];omega)
 ·rw[if_neg d];by_cases c:k<l.length / 64
  ·rw[Aa (by rw[a];omega),PE l b c];unfold nW;split
   ·rw[List.getElem?_append_left (by rw[vH];omega),Aa (by omega)]
   ·rw[Aa (by omega)]
  ·rw[List.getElem?_eq_none (by rw[vH,a];omega),List.getElem?_eq_none (by rw[G9];omega)]
end
section
def lU:List Nat->Nat
 | []=>0
 | b :: l=>b+256 * lU l
theorem DI(b c y m:Nat)(f:b<256)(g:c<256):(b+256 * y) &&& (c+256 * m)=(b &&& c)+256 * (y &&& m):=by
 have d:b+256 * y=2 ^ 8 * y+b:=by omega
 have e:c+256 * m=2 ^ 8 * m+c:=by omega
 have a:b &&& c<2 ^ 8:=Nat.and_lt_two_pow _ (by omega);rw[d,e];apply Nat.eq_of_testBit_eq;intro i;rw[show (b &&& c)+256 * (y &&& m)=2 ^ 8 * (y &&& m)+(b &&& c) by omega,Nat.testBit_and,Nat.testBit_two_pow_mul_add _ (by omega),Nat.testBit_two_pow_mul_add _ (by omega),Nat.testBit_two_pow_mul_add _ a];split <;> simp[Nat.testBit_and]
def st1(m x:Nat):Nat:=((x / 2) &&& m)+(x &&& m)
def st2(m x:Nat):Nat:=((x / 4) &&& m)+(x &&& m)
def sI(m x:Nat):Nat:=(x / 16+x) &&& m
theorem PL:∀b,b<256->∀c,c<2->(b / 2+128 * c) &&& 85=(b / 2) &&& 85:=by decide +kernel
theorem PN:∀b,b<256->∀c,c<4->(b / 4+64 * c) &&& 51=(b / 4) &&& 51:=by decide +kernel
theorem PO:∀b,b<256->st1 85 b<256:=by decide +kernel
theorem PU:∀b,b<256->st2 51 (st1 85 b)<256/\st2 51 (st1 85 b) % 16<=4/\st2 51 (st1 85 b) / 16<=4:=by decide +kernel
theorem PV:∀b,b<256->∀c,c<=4->b % 16<=4->b / 16<=4->(b / 16+16 * c+b) &&& 15=sI 15 b:=by decide +kernel
theorem PW(bs:List Nat)(h:∀b ∈ bs,b<256):st1 (lU (bs.map fun _=>85)) (lU bs)=lU (bs.map (st1 85)):=by
 induction bs with
 | nil=>simp[lU,st1]
 | cons b l a =>
  have d:=h b (by simp);have a:=a (fun c f=>h c (by simp[f]));simp only [List.map_cons,lU];generalize lU l=y at *;generalize lU (l.map fun _=>85)=m at *;generalize lU (l.map (st1 85))=r at *;unfold st1 at a ⊢;have e:(b+256 * y) / 2=(b / 2+128 * (y % 2))+256 * (y / 2):=by omega
  rw[e,DI _ _ _ _ (by omega) (by decide),DI _ _ _ _ d (by decide),PL b d _ (Nat.mod_lt _ (by decide))];omega
theorem PX(bs:List Nat)(h:∀b ∈ bs,b<256):st2 (lU (bs.map fun _=>51)) (lU bs)=lU (bs.map (st2 51)):=by
 induction bs with
 | nil=>simp[lU,st2]
 | cons b l a =>
  have d:=h b (by simp);have a:=a (fun c f=>h c (by simp[f]));simp only [List.map_cons,lU];generalize lU l=y at *;generalize lU (l.map fun _=>51)=m at *;generalize lU (l.map (st2 51))=r at *;unfold st2 at a ⊢;have e:(b+256 * y) / 4=(b / 4+64 * (y % 4))+256 * (y / 4):=by omega
  rw[e,DI _ _ _ _ (by omega) (by decide),DI _ _ _ _ d (by decide),PN b d _ (Nat.mod_lt _ (by decide))];omega
theorem PY(bs:List Nat)(h:∀b ∈ bs,b<256/\b % 16<=4/\b / 16<=4):lU bs % 16<=4:=by
 cases bs with
 | nil=>simp[lU]
 | cons b l=>have:=h b (by simp);simp only [lU];omega
theorem PZ(bs:List Nat)(h:∀b ∈ bs,b<256/\b % 16<=4/\b / 16<=4):sI (lU (bs.map fun _=>15)) (lU bs)=lU (bs.map (sI 15)):=by
 induction bs with
 | nil=>simp[lU,sI]
 | cons b l a =>
  have d:=h b (by simp);have g:=PY l (fun c f=>h c (by simp[f]));have a:=a (fun c f=>h c (by simp[f]));simp only [List.map_cons,lU];generalize lU l=y at *;generalize lU (l.map fun _=>15)=m at *;generalize lU (l.map (sI 15))=r at *;have e:(b+256 * y) / 16+(b+256 * y)=(b / 16+16 * (y % 16)+b)+256 * (y / 16+y):=by omega
  rw[show sI (15+256 * m) (b+256 * y)=((b+256 * y) / 16+(b+256 * y)) &&& (15+256 * m)from rfl,e,DI _ _ _ _ (by omega) (by decide),PV b d.1 _ g d.2.1 d.2.2];rw[show (y / 16+y) &&& m=sI m y from rfl,a]
def pop8(b:Nat):Nat:=sI 15 (st2 51 (st1 85 b))
theorem Ab:∀b,b<256->pop8 b<=8:=by decide +kernel
theorem P5(b c d e f g h i:Nat)(j:b<=8)(k:c<=8)(l:d<=8)(m:e<=8)(n:f<=8)(o:g<=8)(p:h<=8)(r:i<=8) :
  b+256 * (c+256 * (d+256 * (e+256 * (f+256 * (g+256 * (h+256 * (i+256 * 0)))))))<=578721382704613384:=by
 have a:∀q Z M:Nat,q<=8->Z<=M->q+256 * Z<=8+256 * M:=fun q Z M s t=>by omega
 exact a b _ 2260630401189896 j (a c _ 8830587504648 k (a d _ 34494482440 l (a e _ 134744072 m (a f _ 526344 n (a g _ 2056 o (a h _ 8 p (by omega)))))))
theorem P6(j i g e f d c b a:Nat)(u:j<=8)(v:i<=8)(w:g<=8)(x:e<=8)(y:f<=8)(z:d<=8)(A:c<=8)(B:b<=8)
  (l:a=j+256 * (i+256 * (g+256 * (e+256 * (f+256 * (d+256 * (c+256 * (b+256 * 0)))))))) :
  (a+a / 256+(a+a / 256) / 65536+(a+a / 256+(a+a / 256) / 65536) / 4294967296) % 128=j+i+g+e+f+d+c+b:=by
 have m:∀s Z,s<256->(s+256 * Z) / 256=Z:=fun s Z h=>by omega
 have n:∀k s1 Z,k<256->s1<256->(k+256 * (s1+256 * Z)) / 65536=Z:=fun k s1 Z r t=>by omega
 have o:∀k s1 s2 s3 Z,k<256->s1<256->s2<256->s3<256->(k+256 * (s1+256 * (s2+256 * (s3+256 * Z)))) / 4294967296=Z:=fun k s1 s2 s3 Z r t C D=>by omega
 have p:a+a / 256=(j+i)+256 * ((i+g)+256 * ((g+e)+256 * ((e+f)+256 * ((f+d)+256 * ((d+c)+256 * ((c+b)+256 * b)))))):=by rw[l,m j _ (by omega)];omega
 rw[p];clear p l
 have q:(j+i)+256 * ((i+g)+256 * ((g+e)+256 * ((e+f)+256 * ((f+d)+256 * ((d+c)+256 * ((c+b)+256 * b)))))) +
   ((j+i)+256 * ((i+g)+256 * ((g+e)+256 * ((e+f)+256 * ((f+d)+256 * ((d+c)+256 * ((c+b)+256 * b))))))) / 65536
   = (j+i+g+e)+256 * ((i+g+e+f)+256 * ((g+e+f+d)+256 * ((e+f+d+c)+256 * ((f+d+c+b)+256 * ((d+c+b)+256 * ((c+b)+256 * b)))))):=by
  rw[n _ _ _ (by omega) (by omega)];omega
 rw[q,o _ _ _ _ _ (by omega) (by omega) (by omega) (by omega)];clear m n o q;generalize (d+c+b)+256 * ((c+b)+256 * b)=V;omega
def DJ(x:Nat):Nat :=
 let a:=sI 1085102592571150095 (st2 3689348814741910323 (st1 6148914691236517205 x))
 let b:=a+a / 256
 let c:=b+b / 65536
 (c+c / 4294967296) % 128
theorem XU(a d e f g h i j:Nat)(z:a<256)(A:d<256)(B:e<256)(C:f<256)(D:g<256)(E:h<256)(F:i<256)(G:j<256) :
  DJ (lU [a,d,e,f,g,h,i,j])=pop8 a+pop8 d+pop8 e+pop8 f+pop8 g+pop8 h+pop8 i+pop8 j /\
  sI 1085102592571150095 (st2 3689348814741910323 (st1 6148914691236517205 (lU [a,d,e,f,g,h,i,j])))<=578721382704613384:=by
 have m:∀b ∈ [a,d,e,f,g,h,i,j],b<256:=by simp;omega
 have n:=PW _ m;have o:=PX ([a,d,e,f,g,h,i,j].map (st1 85)) (by intro c l;obtain⟨b,k,rfl⟩:=List.mem_map.1 l;exact PO b (m b k));have p:=PZ (([a,d,e,f,g,h,i,j].map (st1 85)).map (st2 51)) (by intro c l;simp only [List.map_map,List.mem_map]at l;obtain⟨b,k,rfl⟩:=l;exact PU b (m b k));have H:lU ([a,d,e,f,g,h,i,j].map fun _=>85)=6148914691236517205:=by simp[lU]
 have I:lU (([a,d,e,f,g,h,i,j].map (st1 85)).map fun _=>51)=3689348814741910323:=by simp[lU]
 have J:lU ((([a,d,e,f,g,h,i,j].map (st1 85)).map (st2 51)).map fun _=>15)=1085102592571150095:=by simp[lU]
 rw[H]at n;rw[I]at o;rw[J]at p;have q:=Ab a z;have r:=Ab d A;have s:=Ab e B;have t:=Ab f C;have u:=Ab g D;have v:=Ab h E;have w:=Ab i F;have x:=Ab j G
 have y:sI 1085102592571150095 (st2 3689348814741910323 (st1 6148914691236517205 (lU [a,d,e,f,g,h,i,j]))) =
   pop8 a+256 * (pop8 d+256 * (pop8 e+256 * (pop8 f+256 * (pop8 g+256 * (pop8 h+256 * (pop8 i+256 * (pop8 j+256 * 0))))))):=by
  rw[n,o,p];rfl
 constructor
 ·unfold DJ;exact P6 _ _ _ _ _ _ _ _ _ q r s t u v w x y
 ·rw[y];exact P5 _ _ _ _ _ _ _ _ q r s t u v w x
def cnt:List Bool->Nat
 | []=>0
 | b :: l=>b.toNat+cnt l
theorem Ku(a b:List Bool):cnt (a ++ b)=cnt a+cnt b:=by
 induction a with
 | nil=>simp[cnt]
 | cons x l c=>simp only [List.cons_append,cnt,c];omega
end
section
open Go.RowKit
structure Keeps (F:Nat->Prop)(w w':World):Prop where
 os:w'.os=w.os
 tape:w'.tape=w.tape
 output:w'.output=w.output
 size:w.heap.size<=w'.heap.size
 block:∀k,k<w.heap.size->¬F k->w'.heap[k]? = w.heap[k]?
theorem Keeps.refl(F:Nat->Prop)(w:World):Keeps F w w:=⟨rfl,rfl,rfl,Nat.le_refl _,fun _ _ _=>rfl⟩
theorem Keeps.trans{F G:Nat->Prop}{a b c:World}(h:Keeps F a b)(k:Keeps G b c)(f:∀x,x<a.heap.size->G x->F x):Keeps F a c :=
 ⟨k.os.trans h.os,k.tape.trans h.tape,k.output.trans h.output,Nat.le_trans h.size k.size,
  fun i d e=>(k.block i (Nat.lt_of_lt_of_le d h.size) (fun g=>e (f i d g))).trans (h.block i d e)⟩
theorem Keeps.mono{F G:Nat->Prop}{a b:World}(h:Keeps F a b)(d:∀x,x<a.heap.size->F x->G x):Keeps G a b :=
 ⟨h.os,h.tape,h.output,h.size,fun i c e=>h.block i c (fun f=>e (d i c f))⟩
theorem Keeps.drew{F:Nat->Prop}{a w:World}(h:Keeps F a w):Keeps F a w.drew:=⟨h.os,h.tape,h.output,h.size,h.block⟩
theorem Keeps.alloc{F:Nat->Prop}{a w:World}(h:Keeps F a w)(o:Obj):Keeps F a (w.alloc o) :=
 ⟨h.os,h.tape,h.output,Nat.le_trans h.size (by simp),fun k b c=>(Below.heap_alloc w o k (Nat.lt_of_lt_of_le b h.size)).trans (h.block k b c)⟩
theorem Keeps.setCell{F:Nat->Prop}{a w:World}(h:Keeps F a w){p:Addr}(b:F p.block\/a.heap.size<=p.block)(u:Value):Keeps F a (w.setCell p u) :=
 ⟨h.os,h.tape,h.output,by simpa [World.setCell]using h.size,fun k d c=>(Below.heap_setCell w p u k (by
  rintro rfl;rcases b with b|b
  ·exact c b
  ·omega)).trans (h.block k d c)⟩
theorem Keeps.grown{F:Nat->Prop}{a w w':World}{row:Option Nat}(h:Keeps F a w)(b:w.grownBy w' row)(hr:∀k,row=some k->F k\/a.heap.size<=k):Keeps F a w' :=
 ⟨b.os.trans h.os,b.tape.trans h.tape,b.output.trans h.output,Nat.le_trans h.size b.size,fun k c d =>
  (b.block k (Nat.lt_of_lt_of_le c h.size) (fun e=>by
   rcases hr k e.symm with f|f
   ·exact d f
   ·omega)).trans (h.block k c d)⟩
theorem Keeps.below{F:Nat->Prop}{a w:World}(h:Keeps F a w)(hF:∀x,x<a.heap.size->¬F x):Below a.heap.size a w :=
 ⟨h.os,h.tape,h.output,h.size,fun k b=>h.block k b (hF k b)⟩
theorem Keeps.of_below{a w:World}(h:Below a.heap.size a w)(F:Nat->Prop):Keeps F a w :=
 ⟨h.os,h.tape,h.output,h.size,fun k b _=>h.block k b⟩
theorem Keeps.drewN{F:Nat->Prop}{a w:World}(h:Keeps F a w)(n:Nat):Keeps F a (w.drewN n):=⟨h.os,h.tape,h.output,h.size,h.block⟩
theorem Keeps.at{F:Nat->Prop}{a w:World}(h:Keeps F a w){k:Nat}{o:Obj}(b:a.heap[k]? = some o)(c:¬F k):w.heap[k]? = some o:=by rw[h.block k (lt_of_block b) c];exact b
theorem Keeps.owns{F:Nat->Prop}{a w:World}(h:Keeps F a w){base:Nat}{e:TypeId}{size:Nat}{v:Value}{n:Nat}{c:List Value}
  (d:a.ownsRow base e size v n c)(f:∀k,v.ownBlock=some k->¬F k):w.ownsRow base e size v n c:=by
 obtain⟨i,b⟩:=d;refine⟨i,?_⟩;rcases b with b|⟨g,cap,cur,rfl,j,l,r⟩
 ·exact .inl b
 ·exact .inr ⟨g,cap,cur,rfl,j,h.at l (f g rfl),r⟩
theorem dw{w:World}{b:Nat}{a:Array Value}{t:TypeId}{c:Nat × Nat}(h:w.heap[b]? = some (.cells a t c))(i:Nat):w.cell? ⟨b,i,none⟩=a[i]?:=by simp[World.cell?,h]
theorem dx{w:World}{b:Nat}{a:Array Value}{t:TypeId}(h:w.heap[b]? = some (.cells a t (0,0)))(i:Nat):w.frozen? ⟨b,i,none⟩=false:=by simp[World.frozen?,h]
theorem jM{w:World}{b:Nat}{a:Array Value}{t:TypeId}{c:Nat × Nat}(h:w.heap[b]? = some (.cells a t c))(i:Nat)(u:Value) :
  (w.setCell ⟨b,i,none⟩ u).heap[b]? = some (.cells (a.setIfInBounds i u) t c):=by
 simp[World.setCell,Array.getElem?_modify,h]
theorem ru{w:World}{base:Nat}{e:TypeId}{v:Value}{n:Nat}{f:List Value}(h:w.ownsRow base e 1 v n f)(m:0<n) :
  ∃g cap,v=.slice (some ⟨g,0,none⟩) n cap/\n<=cap/\cap<=maxLen/\(∀j u,f[j]? = some u->w.cell? ⟨g,j,none⟩=some u/\w.frozen? ⟨g,j,none⟩=false)/\v.ownBlock=some g/\g<w.heap.size:=by
 obtain⟨o,k⟩:=h;rcases k with⟨_,p⟩|⟨g,cap,cur,rfl,q,b,c,d,i,l⟩
 ·omega
 ·refine⟨g,cap,rfl,c,d,fun j u a=>?_,rfl,lt_of_block b⟩;rw[dw b,dx b];refine⟨?_,rfl⟩;rw[<-l]at a;rw[List.getElem?_take]at a;split at a
  ·simpa using a
  ·cases a
theorem q5z{w:World}{base:Nat}{e:TypeId}{g n cap:Nat}{f:List Value}(h:w.ownsRow base e 1 (.slice (some ⟨g,0,none⟩) n cap) n f)(i:Nat)(u:Value) :
  (w.setCell ⟨g,i,none⟩ u).ownsRow base e 1 (.slice (some ⟨g,0,none⟩) n cap) n (f.set i u):=by
 obtain⟨o,p⟩:=h;refine⟨by simpa using o,?_⟩;rcases p with⟨q,_⟩|⟨v,j,cur,l,r,s,c,d,b,t⟩
 ·cases q
 ·simp only [Value.slice.injEq,Option.some.injEq,Addr.mk.injEq]at l;obtain⟨⟨rfl,_⟩,_,rfl⟩:=l;refine .inr ⟨g,cap,cur.setIfInBounds i u,rfl,r,jM s i u,c,d,by simpa using b,?_⟩;rw[Array.toList_setIfInBounds,<-t];apply List.ext_getElem?;intro k;simp only [List.getElem?_take,List.getElem?_set,List.length_take];by_cases m:k<n * 1
  ·simp only [if_pos m];by_cases a:i=k
   ·subst a;have:(i<min (n * 1) cur.toList.length)=(i<cur.toList.length):=by rw[Nat.lt_min];simp;omega
    simp only [if_true,this]
   ·simp[a]
  ·simp only [if_neg m];by_cases a:i=k
   ·subst a;rw[if_pos rfl,if_neg (by omega)]
   ·simp[a]
def Sl(k:IntKind)(w:World)(v:Value)(zs:List Int):Prop :=
 ∃a cap,v=.slice a zs.length cap/\zs.length<=cap/\cap<=9223372036854775807/\(a=none->cap=0)/\∀j z,zs[j]? = some z->∃g off,a=some ⟨g,off,none⟩/\w.cell? ⟨g,off+j,none⟩=some (.int k z)
theorem Sl.keeps{k:IntKind}{w w':World}{v:Value}{zs:List Int}{F:Nat->Prop}(h:Sl k w v zs)(d:Keeps F w w')(e:∀b,v.ownBlock=some b->¬F b):Sl k w' v zs:=by obtain⟨a,cap,rfl,f,i,l,m⟩:=h;refine⟨a,cap,rfl,f,i,l,fun j z n=>?_⟩;obtain⟨g,off,rfl,c⟩:=m j z n;refine⟨g,off,rfl,?_⟩;rw[World.cell?_of_block (w:=w) (d.block g (World.block_lt_of_cell? _ _ c) (e g rfl))];exact c
theorem Sl.rz{k:IntKind}{w:World}{base:Nat}{e:TypeId}{v:Value}{n:Nat}{zs:List Int}(h:w.ownsRow base e 1 v n (zs.map fun z=>Value.int k z)):Sl k w v zs:=by
 have d:n=zs.length:=by have:=h.1;simp at this;exact this.symm
 subst d;by_cases f:0<zs.length
 ·obtain⟨g,cap,rfl,i,b,l,_,_⟩:=ru h f;refine⟨_,cap,rfl,i,by unfold maxLen at b;omega,(fun h=>by cases h),fun j z a=>⟨g,0,rfl,?_⟩⟩;rw[Nat.zero_add];exact(l j (.int k z) (by rw[List.getElem?_map,a];rfl)).1
 ·have m:zs=[]:=by cases zs <;> simp_all
  subst m;obtain⟨_,b⟩:=h;rcases b with⟨rfl,_⟩|⟨g,cap,cur,rfl,p,q,o,c,_⟩
  ·exact⟨none,0,rfl,by simp,by decide,fun _=>rfl,fun j z a=>by simp at a⟩
  ·exact⟨_,cap,rfl,by simp,by unfold maxLen at c;omega,(fun h=>by cases h),fun j z a=>by simp at a⟩
def RowIn(k:IntKind)(w:World)(a:Option Addr)(len cap:Nat)(zs:List Int):Prop :=
 (a=none/\len=0/\cap=0/\zs=[]) \/
 ∃x,a=some x/\len<=cap/\cap<=maxLen/\zs.length=cap/\(∀i,i<zs.length->w.cell? (x.add i)=some (.int k (zs.getD i 0)))/\∀n ∈ zs,(Lit.int k n).wf=true
theorem He{w:World}{x:Addr}{v:Value}(h:w.cell? x=some v):x=⟨x.block,x.off,none⟩:=by
 have b:x.spot=none:=by
  unfold World.cell? at h;split at h
  ·split at h
   ·cases h
   ·rename_i a;simpa using a
  ·cases h
 cases x
 simp_all
theorem RowIn.sl{k:IntKind}{w:World}{a:Option Addr}{len cap:Nat}{zs:List Int}(h:RowIn k w a len cap zs) :
  Sl k w (.slice a len cap) (zs.take len)/\(zs.take len).length=len/\(∀n ∈ zs.take len,(Lit.int k n).wf=true)/\∀b,(Value.slice a len cap).ownBlock=some b->zs.take len≠[]->b<w.heap.size:=by
 rcases h with⟨rfl,rfl,rfl,rfl⟩|⟨x,rfl,y,t,A,g,u⟩
 ·exact⟨⟨none,0,rfl,by simp,by decide,fun _=>rfl,fun j z d=>by simp at d⟩,rfl,fun n i=>by simp at i,fun b _ l=>absurd rfl l⟩
 ·have p:(zs.take len).length=len:=by simp;omega
  have c:∀j,j<len->w.cell? ⟨x.block,x.off+j,none⟩=some (.int k (zs.getD j 0)):=by
   intro j d;have q:=He (g 0 (by omega));have m:x.add 0=x:=by simp[Addr.add]
   rw[m]at q
   have e:x.add j=⟨x.block,x.off+j,none⟩:=by
    unfold Addr.add;split
    ·rename_i o;subst o;exact q
    ·rfl
   rw[<-e];exact g j (by omega)
  refine⟨⟨some x,cap,by rw[p],by omega,by unfold maxLen at t;omega,(fun h=>by cases h),fun j z d=>?_⟩,p,fun n i=>u n (List.mem_of_mem_take i),fun b r l=>?_⟩
  ·have f:j<len:=by
    rcases Nat.lt_or_ge j len with h|h
    ·exact h
    ·rw[List.getElem?_eq_none (by omega)]at d;cases d
   rw[List.getElem?_take,if_pos f]at d;have s:=He (g 0 (by omega));have m:x.add 0=x:=by simp[Addr.add]
   rw[m]at s;refine⟨x.block,x.off,congrArg some s,?_⟩;rw[c j f,List.getD_eq_getElem?_getD,d];rfl
  ·simp only [Value.ownBlock,Option.some.injEq]at r;subst r
   have v:0<len:=by
    rcases Nat.eq_zero_or_pos len with h|h
    ·subst h;simp at l
    ·exact h
   exact World.block_lt_of_cell? w ⟨x.block,x.off+0,none⟩ (c 0 v)
end
section
open Go.RowKit
theorem P7:(Tryz.prog.info? 88).map (fun i=>(i.zero,i.size,i.bytes))=some (some (.int .u64 0),1,8):=by kernel_rfl
def eX(w:World)(b:Nat)(v:Value)(l:List Bool):Prop :=
 w.heap[b]? = some (.cells #[v,.int .i64 l.length] 198 (0,0))/\w.ownsRow 0 88 1 v (words l).length ((words l).map fun x:Nat=>Value.int .u64 x)
theorem eX.lt{w:World}{b:Nat}{v:Value}{l:List Bool}(h:eX w b v l):b<w.heap.size:=lt_of_block h.1
theorem eX.apart{w:World}{b:Nat}{v:Value}{l:List Bool}(h:eX w b v l):∀k,v.ownBlock=some k->k≠b/\k<w.heap.size:=by
 intro k a;obtain⟨d,_,e⟩:=h;rcases e with⟨rfl,_⟩|⟨g,cap,cur,rfl,_,c,_⟩
 ·simp[Value.ownBlock]at a
 ·simp only [Value.ownBlock,Option.some.injEq]at a;subst a;refine⟨?_,lt_of_block c⟩;rintro rfl;rw[d]at c;simp at c
theorem eX.keeps{w w':World}{F:Nat->Prop}{b:Nat}{v:Value}{l:List Bool}(h:eX w b v l)(k:Keeps F w w')(a:¬F b)(c:∀k,v.ownBlock=some k->¬F k):eX w' b v l :=
 ⟨k.at h.1 a,k.owns h.2 c⟩
theorem FC(w:World) :
  Calls Tryz.prog 133 #[] w fun e w'=>e=.returned (.pointer (some ⟨w.heap.size,0,none⟩))/\w'=w.alloc (.cells #[.slice none 0 0,.int .i64 0] 198):=by
 go_enter Tryz.func133,Tryz.ntmps133;go_wp2;go_ret;exact⟨rfl,rfl⟩
theorem Hf(w:World):eX (w.alloc (.cells #[.slice none 0 0,.int .i64 0] 198)) w.heap.size (.slice none 0 0) [] :=
 ⟨heap_alloc_new w _,World.ownsRow_nil _ _ _ _⟩
theorem Bh(b:Nat)(v:Value)(l:List Bool)(w:World)(h:eX w b v l) :
  Calls Tryz.prog 91 #[.pointer (some ⟨b,0,none⟩)] w fun e w'=>e=.returned (.int .i64 l.length)/\w=w':=by
 have a:w.cell? ⟨b,1,none⟩=some (.int .i64 l.length):=dw h.1 1;clear h;go_enter Tryz.func91,Tryz.ntmps91;go_wp2;go_ret;exact⟨rfl,rfl⟩
theorem P8{k:IntKind}{a b:Int}(h:a=b):Ending.returned (.int k a)=.returned (.int k b):=by rw[h]
theorem P9(x:Nat)(a:x<18446744073709551616):wrap64 (bits BinOp.and IntKind.u64 (x:Int) 1)=((x % 2:Nat):Int):=by have h:=bits_and_u64_nat x 1 a (by omega);rw[show ((1:Nat):Int)=1 from rfl]at h;rw[h,Nat.and_one_is_mod];exact IntWalk.wrap64_in _ ⟨by omega,by omega⟩
theorem Ac(b:Nat)(v:Value)(l:List Bool)(i:Nat)(w:World)(h:eX w b v l)(u:i<l.length)(y:l.length<=1000000000) :
  Calls Tryz.prog 190 #[.pointer (some ⟨b,0,none⟩),.int .i64 i] w fun e w'=>e=.returned (.int .i64 (l.getD i false).toNat)/\w=w':=by
 have o:i / 64<(words l).length:=by rw[vH];omega
 have q:(words l).length<=1000000000:=by rw[vH];omega
 obtain⟨g,cap,rfl,r,j,p,_,_⟩:=ru h.2 (by omega);have s:=(p (i / 64) (.int .u64 (mX l (i / 64):Nat)) (by rw[List.getElem?_map,Aa (by rw[vH]at o;exact o)];rfl)).1;clear p;have z:w.cell? ⟨b,1,none⟩=some (.int .i64 l.length):=dw h.1 1;have A:w.cell? ⟨b,0,none⟩=some (.slice (some ⟨g,0,none⟩) (words l).length cap):=dw h.1 0;unfold maxLen at j;have H:Hid _:=h;have c:=Bh b _ l w h;clear h;have d:=FB l (i / 64);have a:=Kq l i;generalize mX l (i / 64)=x at s d a;have f:=dh a;clear a;generalize (words l).length=m at *;generalize l.length=n at *;go_enter Tryz.func190,Tryz.ntmps190;go_wp2_with (go_at_call 91;refine c.mono ?_;rintro e w' ⟨rfl,rfl⟩)
 go_ret;have t:(x:Int) / 2 ^ (i % 64)=((x / 2 ^ (i % 64):Nat):Int):=by simp
 have k:x / 2 ^ (i % 64)<=x:=Nat.div_le_self _ _;exact⟨P8 (by rw[t,P9 _ (Nat.lt_of_le_of_lt k d),f.out]),rfl⟩
theorem Qa(a r:Nat)(x:Bool)(b:a<18446744073709551616)(hr:r<64) :
  bits BinOp.or IntKind.u64 (a:Int) (IntKind.u64.wrap ((x.toNat:Int) * 2 ^ r))=((a ||| x.toNat * 2 ^ r:Nat):Int):=by
 have d:2 ^ r<=2 ^ 63:=Nat.pow_le_pow_right (by decide) (by omega);have c:x.toNat * 2 ^ r<18446744073709551616:=by cases x <;> simp <;> omega
 have e:((x.toNat:Int) * 2 ^ r)=((x.toNat * 2 ^ r:Nat):Int):=by simp
 rw[e,IntKind.wrap_u64,show (((x.toNat * 2 ^ r:Nat):Int) % 18446744073709551616)=((x.toNat * 2 ^ r:Nat):Int) by omega];exact bits_or_u64_nat _ _ b c
theorem Kv{w:World}{b g cap:Nat}{l:List Bool}(x:Bool)(d:w.heap[b]? = some (.cells #[.slice (some ⟨g,0,none⟩) (nW l).length cap,.int .i64 l.length] 198 (0,0)))
  (f:w.ownsRow 0 88 1 (.slice (some ⟨g,0,none⟩) (nW l).length cap) (nW l).length ((nW l).map fun x:Nat=>Value.int .u64 x))(c:g≠b) :
  eX (((w.setCell ⟨g,l.length / 64,none⟩ (.int .u64 (bits BinOp.or IntKind.u64 (mX l (l.length / 64):Nat) (IntKind.u64.wrap ((x.toNat:Int) * 2 ^ (l.length % 64)))))).setCell ⟨b,1,none⟩ (.int .i64 ((l.length:Int)+1))).drew)
   b (.slice (some ⟨g,0,none⟩) (nW l).length cap) (l ++ [x]) /\
  Keeps (fun k=>k=b\/k=g) w (((w.setCell ⟨g,l.length / 64,none⟩ (.int .u64 (bits BinOp.or IntKind.u64 (mX l (l.length / 64):Nat) (IntKind.u64.wrap ((x.toNat:Int) * 2 ^ (l.length % 64)))))).setCell ⟨b,1,none⟩ (.int .i64 ((l.length:Int)+1))).drew):=by
 rw[Qa _ _ _ (FB _ _) (Nat.mod_lt _ (by decide))];refine⟨⟨?_,?_⟩,(((Keeps.refl _ w).setCell (.inl (.inr rfl)) _).setCell (.inl (.inl rfl)) _).drew⟩
 ·show ((w.setCell _ _).setCell _ _).heap[b]? = _;have h:(w.setCell ⟨g,l.length / 64,none⟩ (.int .u64 ((mX l (l.length / 64) ||| x.toNat * 2 ^ (l.length % 64):Nat):Int))).heap[b]? = _:=(Below.heap_setCell w _ _ b (by simpa using c.symm)).trans d;rw[jM h];simp
 ·have i:=q5z f (l.length / 64) (.int .u64 ((mX l (l.length / 64) ||| x.toNat * 2 ^ (l.length % 64):Nat):Int));have j:=ownsRow_setCell_other i (a:=⟨b,1,none⟩) (by simp[Value.ownBlock];exact c) (.int .i64 ((l.length:Int)+1));have e:(words (l ++ [x])).length=(nW l).length:=by rw[Kt];simp
  rw[e,Kt,List.map_set];exact j
theorem qbv(b:Nat)(v:Value)(l:List Bool)(x:Bool)(w:World)(h:eX w b v l)(hl:l.length<1000000000) :
  Calls Tryz.prog 168 #[.pointer (some ⟨b,0,none⟩),.int .u64 x.toNat] w fun e w'=>e=.returned (.tuple #[])/\∃v',eX w' b v' (l ++ [x])/\Keeps (fun k=>k=b\/v.ownBlock=some k) w w'/\(v'.ownBlock=v.ownBlock\/∃k,v'.ownBlock=some k/\w.heap.size<=k):=by
 have h1:w.cell? ⟨b,1,none⟩=some (.int .i64 l.length):=dw h.1 1;have h0:w.cell? ⟨b,0,none⟩=some v:=dw h.1 0;have f1:=dx h.1 1;have f0:=dx h.1 0;by_cases G:l.length % 64=0
 ·have P:(((l.length:Int) % 64) == 0)=true:=by simp;omega
  have C:=h.2;have s:(words l).length=l.length / 64:=by rw[vH];omega
  have E:=h.apart;have H:=h.1;have c:nW l=words l ++ [0]:=by unfold nW;rw[if_pos G]
  have t:=PI l;have A:=G9 l;obtain⟨i,V,I,J,K⟩:=info_parts P7;clear h;have Hb:=dh H;clear H;have y:=dh (dn c (dn t (dn A s)));clear c t A s;have Hn:=dh G;clear G;go_enter Tryz.func168,Tryz.ntmps168;go_wp2_with (at_builtin;refine wpList_append_lies _ rfl _ _ _ rfl 0 88 i (.int .u64 0) 1 8 Tryz.underlying196 V I J K rfl (by decide) v (words l).length _ rfl (C.alloc _) ⟨w.heap.size,0,none⟩ 1 1 [.int .u64 0] rfl rfl (cell_one_new _ _ _) ?c2 (by decide) ?c3 ?c4 ?c5 (w.heap.size+1) (by simp) ?_)
  case c2=>intro u W;simp at W;subst W;rfl
  case c3=>have:=y.out.2.2.2;unfold maxLen;omega
  case c4=>have:=y.out.2.2.2;omega
  case c5=>simp
  intro g cap w1 f j B ad;obtain⟨c,t,A,s⟩:=y.out;have H:=Hb.out;have G:=Hn.out;have Q:b<w.heap.size:=lt_of_block H
  have q:g≠b:=by
   rcases B with h|h
   ·exact(E g h).1
   ·omega
  have R:=q.symm;have r:w1.heap[b]? = some (.cells #[v,.int .i64 l.length] 198 (0,0)):=by rw[j.block b (by simp;omega) (fun e=>(E b e.symm).1 rfl),Below.heap_alloc _ _ _ Q];exact H
  have z:(nW l).length=(words l).length+1:=by rw[c];simp
  have D:(words l).map (fun x:Nat=>Value.int .u64 x) ++ [Value.int .u64 0]=(nW l).map (fun x:Nat=>Value.int .u64 x):=by rw[c];simp
  rw[D,<-z]at f;have X:Keeps (fun k=>k=b\/v.ownBlock=some k) w w1:=((Keeps.refl _ w).alloc _).grown j (fun k Y=>.inl (.inr Y));have L:(w1.setCell ⟨b,0,none⟩ (.slice (some ⟨g,0,none⟩) (nW l).length cap)).heap[b]? = some (.cells #[.slice (some ⟨g,0,none⟩) (nW l).length cap,.int .i64 l.length] 198 (0,0)):=by rw[jM r];simp
  have M:=ownsRow_setCell_other f (a:=⟨b,0,none⟩) (by simp[Value.ownBlock];exact q) (.slice (some ⟨g,0,none⟩) (nW l).length cap);have Z:=X.setCell (p:=⟨b,0,none⟩) (.inl (.inl rfl)) (.slice (some ⟨g,0,none⟩) (nW l).length cap);have d:=Kv x L M q
  have k3:=Z.trans d.2 (by
   rintro k Y (rfl|rfl)
   ·exact .inl rfl
   ·rcases B with h|h
    ·exact .inr h
    ·omega)
  have hv:(Value.slice (some ⟨g,0,none⟩) (nW l).length cap).ownBlock=v.ownBlock\/∃k,(Value.slice (some ⟨g,0,none⟩) (nW l).length cap).ownBlock=some k/\w.heap.size<=k:=by
   rcases B with h|h
   ·exact .inl h.symm
   ·exact .inr ⟨g,rfl,by omega⟩
  have o:=dh (dn d.1 (dn k3 hv));clear d k3 hv M;obtain⟨g',aa,N,S,F,O,_,_⟩:=ru f (by omega);simp only [Value.slice.injEq,Option.some.injEq,Addr.mk.injEq]at N;obtain⟨⟨rfl,_⟩,_,rfl⟩:=N;obtain⟨T,U⟩:=O (l.length / 64) (.int .u64 (mX l (l.length / 64):Nat)) (by rw[List.getElem?_map,t];rfl);have c0:=dw r 0;have c1:=dw r 1;have d0:=dx r 0;have d1:=dx r 1;simp only [List.getElem?_toArray,List.getElem?_cons_zero,List.getElem?_cons_succ]at c0 c1;rw[<-z];have ab:l.length / 64<(nW l).length:=by omega
  clear A O X Z L r j B f D c t G H E C V I J K z s;unfold maxLen at F;have ae:=FB l (l.length / 64);generalize mX l (l.length / 64)=x0 at *;generalize (nW l).length=m at *;generalize l.length=n at *;go_wp2_with fail;go_region
  all_goals
   go_wp2;go_end0
   exact⟨rfl,_,o.out⟩
 ·have P:(((l.length:Int) % 64) == 0)=false:=by simp;omega
  have hm:l.length / 64<(words l).length:=by rw[vH];omega
  have s:(words l).length<=1000000000:=by rw[vH];omega
  obtain⟨g,cap,rfl,S,F,O,_,_⟩:=ru h.2 (by omega);have T:=O (l.length / 64) (.int .u64 (mX l (l.length / 64):Nat)) (by rw[List.getElem?_map,Aa (by rw[vH]at hm;exact hm)];rfl);obtain⟨T,U⟩:=T;clear O;unfold maxLen at F;have q:=(h.apart g rfl).1;have R:=q.symm;have c:nW l=words l:=by unfold nW;rw[if_neg G]
  have d:=Kv (w:=w) (b:=b) (g:=g) (cap:=cap) (l:=l) x (by rw[c];exact h.1) (by rw[c];exact h.2) q;rw[c]at d;clear c h;have o:=dh d;clear d;generalize mX l (l.length / 64)=x0 at *;generalize l.length=n at *;generalize (words l).length=m at *;go_enter Tryz.func168,Tryz.ntmps168;go_wp2_with fail;go_region
  all_goals
   go_wp2;go_end0
   exact⟨rfl,_,o.out.1,o.out.2.mono (by rintro k _ (rfl|rfl);exact .inl rfl;exact .inr rfl),.inl rfl⟩
theorem Qb(b:Nat)(v:Value)(l:List Bool)(w:World)(h:eX w b v l)(a:l.length<1000000000) :
  Calls Tryz.prog 168 #[.pointer (some ⟨b,0,none⟩),.int .u64 1] w fun e w'=>e=.returned (.tuple #[])/\∃v',eX w' b v' (l ++ [true])/\Keeps (fun k=>k=b\/v.ownBlock=some k) w w'/\(v'.ownBlock=v.ownBlock\/∃k,v'.ownBlock=some k/\w.heap.size<=k) :=
 qbv b v l true w h a
theorem add_zero(b:Nat)(v:Value)(l:List Bool)(w:World)(h:eX w b v l)(a:l.length<1000000000) :
  Calls Tryz.prog 168 #[.pointer (some ⟨b,0,none⟩),.int .u64 0] w fun e w'=>e=.returned (.tuple #[])/\∃v',eX w' b v' (l ++ [false])/\Keeps (fun k=>k=b\/v.ownBlock=some k) w w'/\(v'.ownBlock=v.ownBlock\/∃k,v'.ownBlock=some k/\w.heap.size<=k) :=
 qbv b v l false w h a
end
section
open Go.RowKit
def q0z(zs:List Int):List Bool:=zs.map fun z=>!(z == 0)
theorem Qc(zs:List Int)(k:Nat)(z:Int)(h:zs[k]? = some z):q0z (zs.take (k+1))=q0z (zs.take k) ++ [!(z == 0)]:=by
 have b:k<zs.length:=by
  rcases Nat.lt_or_ge k zs.length with a | a
  ·exact a
  ·rw[List.getElem?_eq_none a]at h;cases h
 rw[List.take_succ_eq_append_getElem b];simp only [q0z,List.map_append,List.map_cons,List.map_nil];rw[List.getElem?_eq_getElem b]at h;cases h;rfl
def eY(w:World)(b:Nat)(v:Value)(l':List Bool)(w':World):Prop :=
 ∃v',eX w' b v' l'/\Keeps (fun k=>k=b\/v.ownBlock=some k) w w'/\(v'.ownBlock=v.ownBlock\/∃k,v'.ownBlock=some k/\w.heap.size<=k)
theorem eY.trans{w w1 i:World}{b:Nat}{v e:Value}{l':List Bool}(f:Keeps (fun k=>k=b\/v.ownBlock=some k) w w1)
  (c:e.ownBlock=v.ownBlock\/∃k,e.ownBlock=some k/\w.heap.size<=k)(h:eY w1 b e l' i):eY w b v l' i:=by
 obtain⟨j,l,m,d⟩:=h;refine⟨j,l,f.trans m ?_,?_⟩
 ·rintro x n (rfl|a)
  ·exact .inl rfl
  ·rcases c with c|⟨k,c,f⟩
   ·exact .inr (by rw[<-c];exact a)
   ·rw[c]at a;cases a;omega
 ·rcases d with d|⟨k,d,g⟩
  ·rw[d];exact c
  ·exact .inr ⟨k,d,Nat.le_trans f.size g⟩
theorem DK(b:Nat)(v:Value)(l:List Bool)(sv:Value)(zs:List Int)(w:World)(h:eX w b v l)(D:Sl .i64 w sv zs)
  (A:∀k,sv.ownBlock=some k->k≠b/\v.ownBlock≠some k)(I:l.length+zs.length<1000000000) :
  Calls Tryz.prog 136 #[.pointer (some ⟨b,0,none⟩),sv] w fun e w'=>e=.returned (.tuple #[])/\eY w b v (l ++ q0z zs) w':=by
 obtain⟨a,cap,rfl,E,F,_,B⟩:=D;go_enter Tryz.func136,Tryz.ntmps136;go_wp2_with fail;go_loopw [10] (fun i wr=>∃k:Nat,k<=zs.length/\i=.int .i64 k/\eY w b v (l ++ q0z (zs.take k)) wr) (fun i _=>zs.length - (intOf i).toNat)
 case atStart=>exact⟨0,Nat.zero_le _,rfl,v,by simpa [q0z]using h,Keeps.refl _ _,.inl rfl⟩
 case round =>
  obtain⟨k,J,rfl,s⟩:=hrel;by_cases t:k<zs.length
  ·obtain⟨z,u⟩:∃z,zs[k]? = some z:=⟨_,List.getElem?_eq_getElem t⟩
   obtain⟨g,off,rfl,c⟩:=B k z u;obtain⟨C,m,f,n⟩:=s;have r:wr.cell? ⟨g,off+k,none⟩=some (.int .i64 z):=by rw[World.cell?_of_block (w:=w) (f.block g (World.block_lt_of_cell? _ _ c) (by rintro (h|h);exact(A g rfl).1 h;exact(A g rfl).2 h))];exact c
   have o:=Qc zs k z u;have p:(l ++ q0z (zs.take k)).length<1000000000:=by simp[q0z];omega
   have x:=dh o;clear o B u c h;by_cases d:z=0
   ·subst d;have y:=add_zero b C _ wr m p;go_wp2_with (go_at_call 168;refine y.mono ?_;rintro e G ⟨rfl,j⟩)
    go_roundw
    case rel=>exact⟨k+1,by omega,by go_num,by have e:=x.out;simp only [beq_self_eq_true,Bool.not_true]at e;rw[e,<-List.append_assoc];exact eY.trans f n j⟩
    case measure=>simp[intOf];omega
   ·have q:(!(z == 0))=true:=by simp[d]
    have H:(z != 0)=true:=by simp[d]
    rw[q]at x;clear q d;have y:=Qb b C _ wr m p;go_wp2_with (go_at_call 168;refine y.mono ?_;rintro e G ⟨rfl,j⟩)
    go_roundw
    case rel=>exact⟨k+1,by omega,by go_num,by rw[x.out,<-List.append_assoc];exact eY.trans f n j⟩
    case measure=>simp[intOf];omega
  ·obtain rfl:k=zs.length:=by omega
   rw[List.take_of_length_le (Nat.le_refl _)]at s;go_wp2;go_end0;exact⟨rfl,s⟩
theorem Kw(l:List Bool)(k:Nat)(h:k<l.length):l.take (k+1)=l.take k ++ [l.getD k false]:=by rw[List.take_succ_eq_append_getElem h];simp[h]
theorem Sl.one(w:World)(k:IntKind)(z:Int)(t:TypeId):Sl k (w.alloc (.cells #[.int k z] t)) (.slice (some ⟨w.heap.size,0,none⟩) 1 1) [z]:=by
 refine⟨_,1,rfl,by simp,by decide,(fun h=>by cases h),fun j x a=>?_⟩;cases j with
 | zero=>simp at a;subst a;exact⟨_,_,rfl,by simp⟩
 | succ j=>simp at a
theorem Qd(b:Nat)(v:Value)(l:List Bool)(d:Nat)(g:Value)(a:List Bool)(w:World)(h:eX w b v l)(q:eX w d g a)
  (D:d≠b)(r:v.ownBlock≠some d)(s:g.ownBlock≠some b)(u:∀k,g.ownBlock=some k->v.ownBlock≠some k)(I:l.length+a.length<1000000000) :
  Calls Tryz.prog 162 #[.pointer (some ⟨b,0,none⟩),.pointer (some ⟨d,0,none⟩)] w fun e w'=>e=.returned (.tuple #[])/\eY w b v (l ++ a) w':=by
 have c:=Bh d g a w q;go_enter Tryz.func162,Tryz.ntmps162;go_wp2_with (go_at_call 91;refine c.mono ?_;rintro e w' ⟨rfl,rfl⟩)
 clear c;go_loopw [7] (fun i wr=>∃k:Nat,k<=a.length/\i=.int .i64 k/\eY w b v (l ++ a.take k) wr) (fun i _=>a.length - (intOf i).toNat)
 case atStart=>exact⟨0,Nat.zero_le _,rfl,v,by simpa using h,Keeps.refl _ _,.inl rfl⟩
 case round =>
  obtain⟨k,J,rfl,y⟩:=hrel;by_cases j:k<a.length
  ·obtain⟨E,f,m,z⟩:=y
   have n:eX wr d g a:=q.keeps m (by rintro (h|h);exact D h;exact r h) (by
    rintro x o (rfl|h)
    ·exact s o
    ·exact u x o h)
   have F:=Ac d g a k wr n j (by omega)
   have B:=fun t:TypeId=>DK b E (l ++ a.take k) (.slice (some ⟨wr.heap.size,0,none⟩) 1 1) [((a.getD k false).toNat:Int)] (wr.alloc (.cells #[.int .i64 ((a.getD k false).toNat:Int)] t))
    (f.keeps ((Keeps.refl (fun _=>False) wr).alloc _) (fun h=>h) (fun _ _ h=>h)) (Sl.one wr .i64 _ t) (by intro x o;simp only [Value.ownBlock,Option.some.injEq]at o;subst o;exact⟨fun e=>by have:=f.lt;omega,fun e=>by have:=(f.apart _ e).2;omega⟩) (by simp;omega)
   have C:=Kw a k j;have G:=dh C;have p:q0z [((a.getD k false).toNat:Int)]=[a.getD k false]:=by cases a.getD k false <;> rfl
   rw[p]at B;clear C p h q n;generalize a.getD k false=x at *;go_wp2_with (first | (go_at_call 190;refine F.mono ?_;rintro e H ⟨rfl,rfl⟩) | (go_at_call 136;refine(B _).mono ?_;rintro e H ⟨rfl,A⟩))
   go_roundw
   case rel=>exact⟨k+1,by omega,by go_num,by rw[G.out,<-List.append_assoc];exact eY.trans (m.alloc _) z A⟩
   case measure=>simp[intOf];omega
  ·obtain rfl:k=a.length:=by omega
   rw[List.take_of_length_le (Nat.le_refl _)]at y;go_wp2;go_end0;exact⟨rfl,y⟩
end
section
open Go.RowKit
theorem CW(a m:Nat)(M:Int)(b:M=(m:Int))(c:a<18446744073709551616)(d:m<18446744073709551616):bits BinOp.and IntKind.u64 (a:Int) M=((a &&& m:Nat):Int):=by rw[b];exact bits_and_u64_nat a m c d
theorem Hg(n:Nat)(h:n<18446744073709551616):IntKind.u64.wrap (n:Int)=(n:Int):=by rw[IntKind.wrap_u64];omega
theorem Hl(x k:Nat)(K:Int)(a:K=(k:Int)):(x:Int) / K=((x / k:Nat):Int):=by rw[a];exact(Int.natCast_ediv x k).symm
theorem s1(x:Nat)(b:x<18446744073709551616) :
  IntKind.u64.wrap (bits BinOp.and IntKind.u64 ((x:Int) / 2) 6148914691236517205+bits BinOp.and IntKind.u64 (x:Int) 6148914691236517205)=((st1 6148914691236517205 x:Nat):Int)/\st1 6148914691236517205 x<=12297829382473034410:=by
 have c:(x / 2) &&& 6148914691236517205<=6148914691236517205:=Nat.and_le_right;have d:x &&& 6148914691236517205<=6148914691236517205:=Nat.and_le_right;have a:st1 6148914691236517205 x<=12297829382473034410:=by unfold st1;omega
 refine⟨?_,a⟩;rw[Hl x 2 2 rfl,CW (x / 2) 6148914691236517205 6148914691236517205 rfl (by omega) (by omega),CW x 6148914691236517205 6148914691236517205 rfl b (by omega),<-Int.natCast_add,Hg _ (by unfold st1 at a;omega)];rfl
theorem s2(x:Nat)(b:x<18446744073709551616) :
  IntKind.u64.wrap (bits BinOp.and IntKind.u64 ((x:Int) / 4) 3689348814741910323+bits BinOp.and IntKind.u64 (x:Int) 3689348814741910323)=((st2 3689348814741910323 x:Nat):Int)/\st2 3689348814741910323 x<=7378697629483820646:=by
 have c:(x / 4) &&& 3689348814741910323<=3689348814741910323:=Nat.and_le_right;have d:x &&& 3689348814741910323<=3689348814741910323:=Nat.and_le_right;have a:st2 3689348814741910323 x<=7378697629483820646:=by unfold st2;omega
 refine⟨?_,a⟩;rw[Hl x 4 4 rfl,CW (x / 4) 3689348814741910323 3689348814741910323 rfl (by omega) (by omega),CW x 3689348814741910323 3689348814741910323 rfl b (by omega),<-Int.natCast_add,Hg _ (by unfold st2 at a;omega)];rfl
theorem s3(x:Nat)(a:x<=7378697629483820646) :
  bits BinOp.and IntKind.u64 (IntKind.u64.wrap ((x:Int) / 16+(x:Int))) 1085102592571150095=((sI 1085102592571150095 x:Nat):Int):=by
 rw[Hl x 16 16 rfl,<-Int.natCast_add,Hg _ (by omega),CW (x / 16+x) 1085102592571150095 1085102592571150095 rfl (by omega) (by omega)];rfl
end
section
open Go.RowKit
theorem disable(w:World):(callFunc 235 #[]).run Tryz.prog w=.ok (.value (.tuple #[])) w:=run_call_mark0 Tryz.func235 (by kernel_rfl) (by kernel_rfl) (by kernel_rfl) .disable (by kernel_rfl) w
theorem enable(w:World):(callFunc 237 #[]).run Tryz.prog w=.ok (.value (.tuple #[])) w:=run_call_mark0 Tryz.func237 (by kernel_rfl) (by kernel_rfl) (by kernel_rfl) .enable (by kernel_rfl) w
theorem acquire(a:Addr)(w:World):(callFunc 238 #[.pointer (some a)]).run Tryz.prog w=.ok (.value (.tuple #[])) w:=run_call_marked Tryz.func238 (by kernel_rfl) (by kernel_rfl) (by kernel_rfl) .acquire (by kernel_rfl) a w
theorem releaseMerge(a:Addr)(w:World):(callFunc 240 #[.pointer (some a)]).run Tryz.prog w=.ok (.value (.tuple #[])) w:=run_call_marked Tryz.func240 (by kernel_rfl) (by kernel_rfl) (by kernel_rfl) .releaseMerge (by kernel_rfl) a w
theorem Qe(a:Addr)(x:Value)(u:FrameMode)(w:World)(g:w.cell? a=some x)(h:w.frozen? a=false) :
  CallsD Tryz.prog 174 #[.pointer (some a),.bool true] u w fun e d w'=>d=u/\(e=.returned (.tuple #[])/\w'=w.drew.setCell a (.int .u32 1)):=by
 have b:w.drew.cell? a=some x:=by go_simp
 have c:w.drew.frozen? a=false:=by go_simp
 have f:=run_call_store (P:=Tryz.prog) Tryz.func202 (by kernel_rfl) (by kernel_rfl) (by kernel_rfl) (by kernel_rfl) (k:=.u32) (y:=1) b c;go_enter_d Tryz.func174,Tryz.ntmps174;go_wp2;go_region_calls
 all_goals (go_end0;exact⟨rfl,rfl⟩)
theorem Qf(a:Addr)(u:FrameMode)(w:World)(b:w.cell? a=some (.int .i32 1))(d:w.frozen? a=false) :
  CallsD Tryz.prog 173 #[.pointer (some a)] u w fun e f w'=>f=u/\(e=.returned (.tuple #[])/\w'=w.setCell a (.int .i32 0)):=by
 have h:=disable;have i:=enable;have hr:=releaseMerge;have c:=run_call_add (P:=Tryz.prog) Tryz.func241 (by kernel_rfl) (by kernel_rfl) (by kernel_rfl) .i32 (by kernel_rfl) (y:=-1) (s:=0) b d (by simp[go_sem];rfl);have g:=run_convert_to_unsafe (P:=Tryz.prog) (src:=311) (dst:=315) Tryz.underlying311 Tryz.underlying315 (by kernel_rfl) b;go_enter_d Tryz.func173,Tryz.ntmps173;go_wp2;go_end0;go_wp2;go_end0;exact⟨rfl,rfl⟩
theorem Qg(a:Addr)(w:World)(c:w.cell? a=some (.int .i32 0))(f:w.frozen? a=false) :
  Calls Tryz.prog 172 #[.pointer (some a)] w fun e w'=>e=.returned (.tuple #[])/\w'=w.setCell a (.int .i32 1):=by
 have h:=disable;have i:=enable;have j:=acquire;have d:=run_call_cas_hit (P:=Tryz.prog) Tryz.func236 (by kernel_rfl) (by kernel_rfl) (by kernel_rfl) .i32 (by kernel_rfl) (y:=1) c f;have b:(w.setCell a (.int .i32 1)).cell? a=some (.int .i32 1):=World.cell?_setCell_same w a _ c;have g:=run_convert_to_unsafe (P:=Tryz.prog) (src:=311) (dst:=315) Tryz.underlying311 Tryz.underlying315 (by kernel_rfl) b;go_enter Tryz.func172,Tryz.ntmps172;go_wp2
 first|go_end0 | (simp only [Exit.inBlock,Exit.then];refine bodyPost_ret (results_none rfl _ _ _) rfl ?_)|refine bodyPost_ret (results_none rfl _ _ _) rfl ?_
 go_wp2;go_end0
 exact⟨rfl,rfl⟩
def Ky(b off:Nat)(R:World->Prop)(e:Ending)(w':World):Prop :=
 e=.returned (.tuple #[])/\w'.cell? ⟨b,off,none⟩=some (.int .u32 0)/\w'.cell? ⟨b,off+1,none⟩=some (.int .i32 1)/\w'.frozen? ⟨b,off,none⟩=false/\w'.frozen? ⟨b,off+1,none⟩=false/\R w'
theorem Qh(b off:Nat)(d:FuncId)(first:Array Value)(R:World->Prop)(w:World)(k:∀W,(callFunc d first).run Tryz.prog W=.ok (.enter d first) W)
  (h:w.cell? ⟨b,off,none⟩=some (.int .u32 0))(l:w.cell? ⟨b,off+1,none⟩=some (.int .i32 0))
  (m:w.frozen? ⟨b,off+1,none⟩=false)
  (c:Calls Tryz.prog d first (w.setCell ⟨b,off+1,none⟩ (.int .i32 1)) (Ky b off R)) :
  Calls Tryz.prog 143 #[.pointer (some ⟨b,off,none⟩),.func (.func d) first #[]] w fun e w'=>e=.returned (.tuple #[]) /\
   ∃w1,R w1/\w'=(w1.drew.setCell ⟨b,off,none⟩ (.int .u32 1)).setCell ⟨b,off+1,none⟩ (.int .i32 0):=by
 have n:=run_call_load (P:=Tryz.prog) Tryz.func171 (by kernel_rfl) (by kernel_rfl) (by kernel_rfl) .u32 (by kernel_rfl) (w:=w.setCell ⟨b,off+1,none⟩ (.int .i32 1)) (a:=⟨b,off,none⟩) (x:=0) ((World.cell?_setCell_other _ ⟨b,off+1,none⟩ ⟨b,off,none⟩ _ (by simp)).trans h);have i:∀(x:Bool) (w:World),(Op.unary .not (.bool x)).run Tryz.prog w=.ok (.bool (!x)) w:=fun _ _=>rfl;have j:=dh c;clear c;go_enter_defers Tryz.func143,Tryz.ntmps143;go_wp2_with (go_at_call 172;refine(Qg ⟨b,off+1,none⟩ _ (by go_simp) (by go_simp)).mono ?_;rintro e w' ⟨rfl,rfl⟩)
 go_wp2;refine j.out.mono ?_
 rintro e w1 ⟨rfl,o,p,q,r,s⟩;clear h l m n j;go_wp2;refine leaves_cons (f:=174) (args:=#[.pointer (some ⟨b,off,none⟩),.bool true]) (by simp) (by simp[go_sem]) ?_;refine(Qe ⟨b,off,none⟩ (.int .u32 0) .returning _ o q).mono ?_;rintro e t g ⟨rfl,rfl,rfl⟩;refine leaves_cons (f:=173) (args:=#[.pointer (some ⟨b,off+1,none⟩)]) (by simp[settle]) (by simp[go_sem]) ?_;refine(Qf ⟨b,off+1,none⟩ _ _ ?_ (by simp[r])).mono ?_
 ·refine(World.cell?_setCell_other _ ⟨b,off,none⟩ ⟨b,off+1,none⟩ _ (by simp)).trans ?_;rw[World.cell?_drew];exact p
 rintro e t g ⟨rfl,rfl,rfl⟩;simp[Leaves,settle,results,Tryz.results143];exact⟨w1,s,rfl⟩
theorem Ho(b off:Nat)(a:FuncId)(first:Array Value)(R:World->Prop)(w:World)(c:∀W,(callFunc a first).run Tryz.prog W=.ok (.enter a first) W)
  (f:w.cell? ⟨b,off,none⟩=some (.int .u32 0))(h:w.cell? ⟨b,off+1,none⟩=some (.int .i32 0))
  (i:w.frozen? ⟨b,off+1,none⟩=false)
  (d:Calls Tryz.prog a first (w.setCell ⟨b,off+1,none⟩ (.int .i32 1)) (Ky b off R)) :
  Calls Tryz.prog 109 #[.pointer (some ⟨b,off,none⟩),.func (.func a) first #[]] w fun e w'=>e=.returned (.tuple #[]) /\
   ∃w1,R w1/\w'=(w1.drew.setCell ⟨b,off,none⟩ (.int .u32 1)).setCell ⟨b,off+1,none⟩ (.int .i32 0):=by
 have l:=run_call_load (P:=Tryz.prog) Tryz.func171 (by kernel_rfl) (by kernel_rfl) (by kernel_rfl) .u32 (by kernel_rfl) f;have g:∀(x:Bool) (w:World),(Op.unary .not (.bool x)).run Tryz.prog w=.ok (.bool (!x)) w:=fun _ _=>rfl;have j:=dh (Qh b off a first R w c f h i d);clear d c;go_enter Tryz.func109,Tryz.ntmps109;go_wp2_with (first | (go_at_call 143;refine j.out.mono ?_;rintro e w' ⟨rfl,k⟩) | (go_at_call 142;go_in))
 go_end0
 exact⟨rfl,k⟩
theorem FD(a:Addr)(c:Value)(w:World)(d:w.cell? a=some (.int .u32 1)) :
  Calls Tryz.prog 109 #[.pointer (some a),c] w fun e w'=>e=.returned (.tuple #[])/\w=w':=by
 have f:=run_call_load (P:=Tryz.prog) Tryz.func171 (by kernel_rfl) (by kernel_rfl) (by kernel_rfl) .u32 (by kernel_rfl) d;have b:∀(x:Bool) (w:World),(Op.unary .not (.bool x)).run Tryz.prog w=.ok (.bool (!x)) w:=fun _ _=>rfl;go_enter Tryz.func109,Tryz.ntmps109;go_wp2;go_end0;exact⟨rfl,rfl⟩
end
section
open Go.RowKit
theorem nX:(Tryz.prog.info? 3).map (fun i=>(i.zero,i.size,i.bytes))=some (some (.int .i64 0),1,8):=by kernel_rfl
def ints(zs:List Int):List Value:=zs.map fun z=>Value.int .i64 z
def dH(B:Nat)(w:World)(v:Value)(zs:List Int):Prop:=w.ownsRow B 3 1 v zs.length (ints zs)
theorem dH.nil(B:Nat)(w:World):dH B w (.slice none 0 0) []:=World.ownsRow_nil _ _ _ _
theorem dH.sl{B:Nat}{w:World}{v:Value}{zs:List Int}(h:dH B w v zs):Sl .i64 w v zs:=Sl.rz h
theorem dH.keeps{B:Nat}{w w':World}{v:Value}{zs:List Int}{F:Nat->Prop}(h:dH B w v zs)(k:Keeps F w w')(a:∀b,v.ownBlock=some b->¬F b):dH B w' v zs:=k.owns h a
theorem dH.lt{B:Nat}{w:World}{v:Value}{zs:List Int}(h:dH B w v zs):∀k,v.ownBlock=some k->B<=k/\k<w.heap.size:=World.ownsRow.lt h
theorem dH.alloc{B:Nat}{w:World}{v:Value}{zs:List Int}(h:dH B w v zs)(o:Obj):dH B (w.alloc o) v zs:=World.ownsRow.alloc h o
theorem dH.form{B:Nat}{w:World}{v:Value}{zs:List Int}(h:dH B w v zs):∃a cap,v=.slice a zs.length cap/\zs.length<=cap/\cap<=9223372036854775807:=by obtain⟨a,cap,b,c,d,_,_⟩:=h.sl;exact⟨a,cap,b,c,d⟩
theorem dH.mono{B B':Nat}{w:World}{v:Value}{zs:List Int}(h:dH B w v zs)(b:∀k,v.ownBlock=some k->B'<=k):dH B' w v zs:=by
 obtain⟨c,a⟩:=h;refine⟨c,?_⟩;rcases a with a|⟨g,cap,cur,rfl,d,r⟩
 ·exact .inl a
 ·exact .inr ⟨g,cap,cur,rfl,b g rfl,r⟩
theorem FE{d:Array Oper}{rest:List Oper}{o:Oper}{a:Act}{Q:Exit->Act->World->Prop}{wr:World}(f:o.guard=none)(s x:Operand)
  (r:o.op=.call { callee:=.builtin .append,args:=#[s,x],argTypes:=#[25,25] })(B:Nat)(v:Value)(zs:List Int)(z:Int)(H:Nat)(t:wr.heap.size=H)(w:a.eval s=v)(y:a.eval x=.slice (some ⟨H,0,none⟩) 1 1)
  (e:dH B wr v zs)(p:zs.length<=10000000000)(D:B<=wr.heap.size)
  (h:∀g cap w',dH B w' (.slice (some ⟨g,0,none⟩) (zs.length+1) cap) (zs ++ [z])->Keeps (fun k=>v.ownBlock=some k) wr w'->(v.ownBlock=some g\/wr.heap.size<=g)->B<=g ->
   wpList Tryz.prog d Q rest (a.put o.dst (.slice (some ⟨g,0,none⟩) (zs.length+1) cap)) w') :
  wpList Tryz.prog d Q (o :: rest) a (wr.alloc (.cells #[.int .i64 z] 3)):=by
 obtain⟨i,A,j,l,m⟩:=info_parts nX;subst t;refine wpList_append_lies _ f s x _ r B 3 i (.int .i64 0) 1 8 Tryz.underlying25 A j l m rfl (by decide) v zs.length _ w (e.alloc _) ⟨wr.heap.size,0,none⟩ 1 1 [.int .i64 z] y rfl (cell_one_new _ _ _) ?_ (by decide) ?_ ?_ ?_ (wr.heap.size+1) (by simp) ?_
 ·intro u q;simp at q;subst q;rfl
 ·unfold maxLen;omega
 ·omega
 ·simp;omega
 ·intro g cap w1 b c n _;refine h g cap w1 ?_ (((Keeps.refl _ wr).alloc _).grown c (fun k C=>.inl C)) (n.imp id (fun h=>by omega)) ?_
  ·unfold dH ints;rw[List.length_append,List.map_append];exact b
  ·exact(b.lt g rfl).1
theorem FH{m:Array Oper}{rest:List Oper}{o:Oper}{a:Act}{Q:Exit->Act->World->Prop}{wr:World}(n:o.guard=none)(s x:Operand)
  (D:o.op=.call { callee:=.builtin .append,args:=#[s,x],argTypes:=#[25,25] })(B:Nat)(v sv:Value)(zs ys:List Int)(E:a.eval s=v)(F:a.eval x=sv)
  (b:dH B wr v zs)(q:Sl .i64 wr sv ys)(G:zs.length+ys.length<=10000000000)(N:B<=wr.heap.size)
  (h:∀v' w',dH B w' v' (zs ++ ys)->Keeps (fun k=>v.ownBlock=some k) wr w'->(v'.ownBlock=v.ownBlock\/∃k,v'.ownBlock=some k/\wr.heap.size<=k)->wpList Tryz.prog m Q rest (a.put o.dst v') w') :
  wpList Tryz.prog m Q (o :: rest) a wr:=by
 obtain⟨i,H,r,t,w⟩:=info_parts nX;obtain⟨A,cap,rfl,O,P,d,I⟩:=q;cases A with
 | none =>
  have R:ys=[]:=by
   cases ys with
   | nil=>rfl
   | cons y ys=>obtain⟨g,off,h,_⟩:=I 0 y rfl;cases h
  subst R;have:=d rfl;subst this;refine wpList_append_own_none n s x _ D B 3 i 1 Tryz.underlying25 H v zs.length _ E b F ?_;exact h v wr (by simpa using b) (Keeps.refl _ _) (.inl rfl)
 | some A =>
  refine wpList_append_own_at _ n s x _ D B 3 i (.int .i64 0) 1 8 Tryz.underlying25 H r t w rfl (by decide) v zs.length _ E b A ys.length cap (ints ys) F (by simp[ints]) ?_ ?_ ?_ ?_ N ?_
  ·intro j u J;simp only [ints,List.getElem?_map,Option.map_eq_some_iff]at J;obtain⟨z,S,rfl⟩:=J;obtain⟨K,c,L,e⟩:=I j z S;simp only [Option.some.injEq]at L;subst L;have p:(⟨K,c,none⟩:Addr).add j=⟨K,c+j,none⟩:=by unfold Addr.add;split <;> simp_all
   rw[p];exact e
  ·intro u M;simp only [ints,List.mem_map]at M;obtain⟨z,_,rfl⟩:=M;rfl
  ·unfold maxLen;omega
  ·omega
  ·intro v' w' f l _ C;refine h v' w' ?_ ((Keeps.refl _ wr).grown l (fun k T=>.inl T)) (C.imp id (fun h=>⟨_,h,Nat.le_refl _⟩));unfold dH ints;rw[List.length_append,List.map_append];exact f
end
section
open Go.RowKit
def dD(l:List Nat):List Int:=l.map fun x:Nat=>(x:Int)
end
