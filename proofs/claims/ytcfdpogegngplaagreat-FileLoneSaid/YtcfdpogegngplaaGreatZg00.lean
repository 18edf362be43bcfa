import Derived.Deep.AppendLies
import Derived.Lib.Hide
import Derived.Test.YtcfdpogegngplaaGreatProg
import Derived.WalkSpells
import Derived.WalkLawsBesides
import Derived.BigQuiet
import Derived.Deep.LoopGhost
import Derived.Laws.AppendOwnNone
set_option maxRecDepth 100000
set_option maxHeartbeats 4000000
namespace Go.Proofs.YtcfdpogegngplaaGreat
section
theorem ah{p:Prop}(h:p):Go.RowKit.Hid p:=Go.Lib.hid h
theorem aj{a b:Prop}(h:a)(k:b):a∧b:=⟨h,k⟩
def dL:List Bool→Nat
 | []=>0
 | b :: l=>b.toNat+2 * dL l
theorem Qi(l:List Bool):dL l<2 ^ l.length:=by
 induction l with
 | nil=>simp[dL]
 | cons b l ih=>simp only [dL,List.length_cons,Nat.pow_succ];cases b <;> simp <;> omega
theorem qhx(l:List Bool)(b:Bool):dL (l ++ [b])=dL l+b.toNat * 2 ^ l.length:=by
 induction l with
 | nil=>simp[dL]
 | cons c l ih =>
  simp only [List.cons_append,dL,ih,List.length_cons,Nat.pow_succ,Nat.mul_add]
  have:b.toNat * (2 ^ l.length * 2)=2 * (b.toNat * 2 ^ l.length):=by rw[← Nat.mul_assoc,Nat.mul_comm]
  omega
theorem BI(l:List Bool)(i:Nat):dL l / 2 ^ i % 2=(l.getD i false).toNat:=by
 induction l generalizing i with
 | nil=>simp[dL]
 | cons b l ih =>
  cases i with
  | zero=>simp only [dL,Nat.pow_zero,Nat.div_one,List.getD_cons_zero];cases b <;> simp <;> omega
  | succ i =>
   simp only [dL,List.getD_cons_succ]
   rw[← ih i,Nat.pow_succ,Nat.mul_comm (2 ^ i) 2,← Nat.div_div_eq_div_mul]
   congr 2
   cases b <;> simp <;> omega
def jy(l:List Bool)(k:Nat):Nat:=dL ((l.drop (64 * k)).take 64)
def words(l:List Bool):List Nat:=(List.range ((l.length+63) / 64)).map (jy l)
theorem rX(l:List Bool):(words l).length=(l.length+63) / 64:=by simp[words]
theorem yO{l:List Bool}{k:Nat}(h:k<(l.length+63) / 64):(words l)[k]? = some (jy l k):=by
 simp[words,h]
theorem KL(l:List Bool)(k:Nat):jy l k<18446744073709551616:=by
 have h:=Qi ((l.drop (64 * k)).take 64)
 have h2:((l.drop (64 * k)).take 64).length≤64:=List.length_take_le _ _
 have h3:2 ^ ((l.drop (64 * k)).take 64).length≤2 ^ 64:=Nat.pow_le_pow_right (by decide) h2
 unfold jy
 omega
theorem Qj(l:List Bool)(i:Nat):jy l (i / 64) / 2 ^ (i % 64) % 2=(l.getD i false).toNat:=by
 unfold jy
 rw[BI]
 simp only [List.getD_eq_getElem?_getD,List.getElem?_take,List.getElem?_drop]
 rw[if_pos (Nat.mod_lt _ (by decide)),show 64 * (i / 64)+i % 64=i by omega]
theorem YJ{l:List Bool}(r:Nat)(hr:r=l.length % 64):jy l (l.length / 64)<2 ^ r:=by
 have h:=Qi ((l.drop (64 * (l.length / 64))).take 64)
 have h2:((l.drop (64 * (l.length / 64))).take 64).length=r:=by simp;omega
 rw[h2] at h
 exact h
theorem q9j(l:List Bool)(b:Bool){k:Nat}(h:k<l.length / 64):jy (l ++ [b]) k=jy l k:=by
 unfold jy
 congr 1
 rw[List.drop_append_of_le_length (by omega),List.take_append_of_le_length (by simp;omega)]
theorem qe3(l:List Bool)(b:Bool):jy (l ++ [b]) (l.length / 64)=jy l (l.length / 64)+b.toNat * 2 ^ (l.length % 64):=by
 unfold jy
 rw[List.drop_append_of_le_length (by omega),List.take_of_length_le (by simp;omega),qhx,List.take_of_length_le (by simp;omega)]
 congr 3
 simp;omega
def mM(l:List Bool):List Nat:=if l.length % 64=0 then words l ++ [0] else words l
theorem TF(l:List Bool):(mM l).length=l.length / 64+1:=by
 unfold mM
 split <;> simp[rX] <;> omega
theorem qgt(l:List Bool):(mM l)[l.length / 64]? = some (jy l (l.length / 64)):=by
 unfold mM
 split
 ·rename_i h
  rw[List.getElem?_append_right (by rw[rX];omega),rX,show l.length / 64 - (l.length+63) / 64=0 by omega]
  have:=YJ (l:=l) 0 h.symm
  simp at this
  simp[this]
 ·exact yO (by omega)
theorem ql4{x r:Nat}(hx:x<2 ^ r)(b:Bool):x ||| (b.toNat * 2 ^ r)=x+b.toNat * 2 ^ r:=by
 have h:=Nat.two_pow_add_eq_or_of_lt hx b.toNat
 rw[Nat.mul_comm,Nat.or_comm,← h,Nat.add_comm]
theorem YK(l:List Bool)(b:Bool):words (l ++ [b])=(mM l).set (l.length / 64) (jy l (l.length / 64) ||| (b.toNat * 2 ^ (l.length % 64))):=by
 rw[ql4 (YJ _ rfl),← qe3]
 apply List.ext_getElem?
 intro k
 rw[List.getElem?_set]
 have hn:(l ++ [b]).length=l.length+1:=by simp
 by_cases hk:l.length / 64=k
 ·subst hk
  rw[if_pos rfl,if_pos (by rw[TF];omega)]
  exact yO (by rw[hn];omega)
 ·rw[if_neg hk]
  by_cases hlt:k<l.length / 64
  ·rw[yO (by rw[hn];omega),q9j l b hlt]
   unfold mM
   split
   ·rw[List.getElem?_append_left (by rw[rX];omega),yO (by omega)]
   ·rw[yO (by omega)]
  ·rw[List.getElem?_eq_none (by rw[rX,hn];omega),List.getElem?_eq_none (by rw[TF];omega)]
end
section
def jA:List Nat→Nat
 | []=>0
 | b :: l=>b+256 * jA l
theorem KM(b c y m:Nat)(hb:b<256)(hc:c<256):(b+256 * y) &&& (c+256 * m)=(b &&& c)+256 * (y &&& m):=by
 have h1:b+256 * y=2 ^ 8 * y+b:=by omega
 have h2:c+256 * m=2 ^ 8 * m+c:=by omega
 have hbc:b &&& c<2 ^ 8:=Nat.and_lt_two_pow _ (by omega)
 rw[h1,h2]
 apply Nat.eq_of_testBit_eq
 intro i
 rw[show (b &&& c)+256 * (y &&& m)=2 ^ 8 * (y &&& m)+(b &&& c) by omega,Nat.testBit_and,Nat.testBit_two_pow_mul_add _ (by omega),Nat.testBit_two_pow_mul_add _ (by omega),Nat.testBit_two_pow_mul_add _ hbc]
 split <;> simp[Nat.testBit_and]
def st1(m x:Nat):Nat:=((x / 2) &&& m)+(x &&& m)
def st2(m x:Nat):Nat:=((x / 4) &&& m)+(x &&& m)
def oQ(m x:Nat):Nat:=(x / 16+x) &&& m
theorem qn7:∀ b,b<256→∀ c,c<2→(b / 2+128 * c) &&& 85=(b / 2) &&& 85:=by decide +kernel
theorem qn8:∀ b,b<256→∀ c,c<4→(b / 4+64 * c) &&& 51=(b / 4) &&& 51:=by decide +kernel
theorem qoh:∀ b,b<256→st1 85 b<256:=by decide +kernel
theorem qoi:∀ b,b<256→st2 51 (st1 85 b)<256∧st2 51 (st1 85 b) % 16≤4∧st2 51 (st1 85 b) / 16≤4:=by decide +kernel
theorem qn9:∀ b,b<256→∀ c,c≤4→b % 16≤4→b / 16≤4→(b / 16+16 * c+b) &&& 15=oQ 15 b:=by decide +kernel
theorem qhy(bs:List Nat)(h:∀ b ∈ bs,b<256):st1 (jA (bs.map fun _=>85)) (jA bs)=jA (bs.map (st1 85)):=by
 induction bs with
 | nil=>simp[jA,st1]
 | cons b l ih =>
  have hb:=h b (by simp)
  have ih:=ih (fun c hc=>h c (by simp[hc]))
  simp only [List.map_cons,jA]
  generalize jA l=y at *
  generalize jA (l.map fun _=>85)=m at *
  generalize jA (l.map (st1 85))=r at *
  unfold st1 at ih ⊢
  have e:(b+256 * y) / 2=(b / 2+128 * (y % 2))+256 * (y / 2):=by omega
  rw[e,KM _ _ _ _ (by omega) (by decide),KM _ _ _ _ hb (by decide),qn7 b hb _ (Nat.mod_lt _ (by decide))]
  omega
theorem qhz(bs:List Nat)(h:∀ b ∈ bs,b<256):st2 (jA (bs.map fun _=>51)) (jA bs)=jA (bs.map (st2 51)):=by
 induction bs with
 | nil=>simp[jA,st2]
 | cons b l ih =>
  have hb:=h b (by simp)
  have ih:=ih (fun c hc=>h c (by simp[hc]))
  simp only [List.map_cons,jA]
  generalize jA l=y at *
  generalize jA (l.map fun _=>51)=m at *
  generalize jA (l.map (st2 51))=r at *
  unfold st2 at ih ⊢
  have e:(b+256 * y) / 4=(b / 4+64 * (y % 4))+256 * (y / 4):=by omega
  rw[e,KM _ _ _ _ (by omega) (by decide),KM _ _ _ _ hb (by decide),qn8 b hb _ (Nat.mod_lt _ (by decide))]
  omega
theorem qgu(bs:List Nat)(h:∀ b ∈ bs,b<256∧b % 16≤4∧b / 16≤4):jA bs % 16≤4:=by
 cases bs with
 | nil=>simp[jA]
 | cons b l=>have:=h b (by simp);simp only [jA];omega
theorem qi(bs:List Nat)(h:∀ b ∈ bs,b<256∧b % 16≤4∧b / 16≤4):oQ (jA (bs.map fun _=>15)) (jA bs)=jA (bs.map (oQ 15)):=by
 induction bs with
 | nil=>simp[jA,oQ]
 | cons b l ih =>
  have hb:=h b (by simp)
  have hl:=qgu l (fun c hc=>h c (by simp[hc]))
  have ih:=ih (fun c hc=>h c (by simp[hc]))
  simp only [List.map_cons,jA]
  generalize jA l=y at *
  generalize jA (l.map fun _=>15)=m at *
  generalize jA (l.map (oQ 15))=r at *
  have e:(b+256 * y) / 16+(b+256 * y)=(b / 16+16 * (y % 16)+b)+256 * (y / 16+y):=by omega
  rw[show oQ (15+256 * m) (b+256 * y)=((b+256 * y) / 16+(b+256 * y)) &&& (15+256 * m) from rfl,e,KM _ _ _ _ (by omega) (by decide),qn9 b hb.1 _ hl hb.2.1 hb.2.2]
  rw[show (y / 16+y) &&& m=oQ m y from rfl,ih]
def pop8(b:Nat):Nat:=oQ 15 (st2 51 (st1 85 b))
theorem DX:∀ b,b<256→pop8 b≤8:=by decide +kernel
theorem ql5(q0 q1 q2 q3 q4 q5 q6 q7:Nat)(p0:q0≤8)(p1:q1≤8)(p2:q2≤8)(p3:q3≤8)(p4:q4≤8)(p5:q5≤8)(p6:q6≤8)(p7:q7≤8) :
  q0+256 * (q1+256 * (q2+256 * (q3+256 * (q4+256 * (q5+256 * (q6+256 * (q7+256 * 0)))))))≤578721382704613384:=by
 have st:∀ q Z M:Nat,q≤8→Z≤M→q+256 * Z≤8+256 * M:=fun q Z M h1 h2=>by omega
 exact st q0 _ 2260630401189896 p0 (st q1 _ 8830587504648 p1 (st q2 _ 34494482440 p2 (st q3 _ 134744072 p3 (st q4 _ 526344 p4 (st q5 _ 2056 p5 (st q6 _ 8 p6 (by omega)))))))
theorem ql6(q0 q1 q2 q3 q4 q5 q6 q7 a:Nat)(p0:q0≤8)(p1:q1≤8)(p2:q2≤8)(p3:q3≤8)(p4:q4≤8)(p5:q5≤8)(p6:q6≤8)(p7:q7≤8)
  (ha:a=q0+256 * (q1+256 * (q2+256 * (q3+256 * (q4+256 * (q5+256 * (q6+256 * (q7+256 * 0)))))))) :
  (a+a / 256+(a+a / 256) / 65536+(a+a / 256+(a+a / 256) / 65536) / 4294967296) % 128=q0+q1+q2+q3+q4+q5+q6+q7:=by
 have d1:∀ s Z,s<256→(s+256 * Z) / 256=Z:=fun s Z h=>by omega
 have d2:∀ s0 s1 Z,s0<256→s1<256→(s0+256 * (s1+256 * Z)) / 65536=Z:=fun s0 s1 Z h0 h1=>by omega
 have d4:∀ s0 s1 s2 s3 Z,s0<256→s1<256→s2<256→s3<256→(s0+256 * (s1+256 * (s2+256 * (s3+256 * Z)))) / 4294967296=Z:=fun s0 s1 s2 s3 Z h0 h1 h2 h3=>by omega
 have e1:a+a / 256=(q0+q1)+256 * ((q1+q2)+256 * ((q2+q3)+256 * ((q3+q4)+256 * ((q4+q5)+256 * ((q5+q6)+256 * ((q6+q7)+256 * q7)))))):=by
  rw[ha,d1 q0 _ (by omega)];omega
 rw[e1]
 clear e1 ha
 have e2:(q0+q1)+256 * ((q1+q2)+256 * ((q2+q3)+256 * ((q3+q4)+256 * ((q4+q5)+256 * ((q5+q6)+256 * ((q6+q7)+256 * q7)))))) +
   ((q0+q1)+256 * ((q1+q2)+256 * ((q2+q3)+256 * ((q3+q4)+256 * ((q4+q5)+256 * ((q5+q6)+256 * ((q6+q7)+256 * q7))))))) / 65536
   = (q0+q1+q2+q3)+256 * ((q1+q2+q3+q4)+256 * ((q2+q3+q4+q5)+256 * ((q3+q4+q5+q6)+256 * ((q4+q5+q6+q7)+256 * ((q5+q6+q7)+256 * ((q6+q7)+256 * q7)))))):=by
  rw[d2 _ _ _ (by omega) (by omega)];omega
 rw[e2,d4 _ _ _ _ _ (by omega) (by omega) (by omega) (by omega)]
 clear d1 d2 d4 e2
 generalize (q5+q6+q7)+256 * ((q6+q7)+256 * q7)=V
 omega
def qB(x:Nat):Nat :=
 let a:=oQ 1085102592571150095 (st2 3689348814741910323 (st1 6148914691236517205 x))
 let b:=a+a / 256
 let c:=b+b / 65536
 (c+c / 4294967296) % 128
theorem qgv(b0 b1 b2 b3 b4 b5 b6 b7:Nat)(h0:b0<256)(h1:b1<256)(h2:b2<256)(h3:b3<256)(h4:b4<256)(h5:b5<256)(h6:b6<256)(h7:b7<256) :
  qB (jA [b0,b1,b2,b3,b4,b5,b6,b7])=pop8 b0+pop8 b1+pop8 b2+pop8 b3+pop8 b4+pop8 b5+pop8 b6+pop8 b7 ∧
  oQ 1085102592571150095 (st2 3689348814741910323 (st1 6148914691236517205 (jA [b0,b1,b2,b3,b4,b5,b6,b7])))≤578721382704613384:=by
 have hb:∀ b ∈ [b0,b1,b2,b3,b4,b5,b6,b7],b<256:=by simp;omega
 have e1:=qhy _ hb
 have e2:=qhz ([b0,b1,b2,b3,b4,b5,b6,b7].map (st1 85)) (by
  intro c hc
  obtain⟨b,hb',rfl⟩:=List.mem_map.1 hc
  exact qoh b (hb b hb'))
 have e3:=qi (([b0,b1,b2,b3,b4,b5,b6,b7].map (st1 85)).map (st2 51)) (by
  intro c hc
  simp only [List.map_map,List.mem_map] at hc
  obtain⟨b,hb',rfl⟩:=hc
  exact qoi b (hb b hb'))
 have m1:jA ([b0,b1,b2,b3,b4,b5,b6,b7].map fun _=>85)=6148914691236517205:=by simp[jA]
 have m2:jA (([b0,b1,b2,b3,b4,b5,b6,b7].map (st1 85)).map fun _=>51)=3689348814741910323:=by simp[jA]
 have m3:jA ((([b0,b1,b2,b3,b4,b5,b6,b7].map (st1 85)).map (st2 51)).map fun _=>15)=1085102592571150095:=by simp[jA]
 rw[m1] at e1
 rw[m2] at e2
 rw[m3] at e3
 have p0:=DX b0 h0
 have p1:=DX b1 h1
 have p2:=DX b2 h2
 have p3:=DX b3 h3
 have p4:=DX b4 h4
 have p5:=DX b5 h5
 have p6:=DX b6 h6
 have p7:=DX b7 h7
 have ha:oQ 1085102592571150095 (st2 3689348814741910323 (st1 6148914691236517205 (jA [b0,b1,b2,b3,b4,b5,b6,b7]))) =
   pop8 b0+256 * (pop8 b1+256 * (pop8 b2+256 * (pop8 b3+256 * (pop8 b4+256 * (pop8 b5+256 * (pop8 b6+256 * (pop8 b7+256 * 0))))))):=by
  rw[e1,e2,e3]
  rfl
 constructor
 ·unfold qB
  exact ql6 _ _ _ _ _ _ _ _ _ p0 p1 p2 p3 p4 p5 p6 p7 ha
 ·rw[ha]
  exact ql5 _ _ _ _ _ _ _ _ p0 p1 p2 p3 p4 p5 p6 p7
def cnt:List Bool→Nat
 | []=>0
 | b :: l=>b.toNat+cnt l
theorem Qk(a b:List Bool):cnt (a ++ b)=cnt a+cnt b:=by
 induction a with
 | nil=>simp[cnt]
 | cons x l ih=>simp only [List.cons_append,cnt,ih];omega
theorem DY(l:List Bool):cnt l≤l.length:=by
 induction l with
 | nil=>simp[cnt]
 | cons x l ih=>simp only [cnt,List.length_cons];cases x <;> simp <;> omega
theorem qi0:∀ b,b<256→pop8 b=b / 1 % 2+b / 2 % 2+b / 4 % 2+b / 8 % 2+b / 16 % 2+b / 32 % 2+b / 64 % 2+b / 128 % 2:=by decide +kernel
theorem qi1(l:List Bool)(h:l.length≤8):cnt l=(l.getD 0 false).toNat+(l.getD 1 false).toNat+(l.getD 2 false).toNat+(l.getD 3 false).toNat+(l.getD 4 false).toNat+(l.getD 5 false).toNat+(l.getD 6 false).toNat+(l.getD 7 false).toNat:=by
 match l,h with
 | [],_=>simp[cnt]
 | [a],_=>simp[cnt]
 | [a,b],_=>simp[cnt]
 | [a,b,c],_=>simp[cnt];omega
 | [a,b,c,d],_=>simp[cnt];omega
 | [a,b,c,d,e],_=>simp[cnt];omega
 | [a,b,c,d,e,f],_=>simp[cnt];omega
 | [a,b,c,d,e,f,g],_=>simp[cnt];omega
 | [a,b,c,d,e,f,g,i],_=>simp[cnt];omega
 | a :: b :: c :: d :: e :: f :: g :: i :: j :: k,h=>simp at h
theorem ql7(l:List Bool)(h:l.length≤8):pop8 (dL l)=cnt l:=by
 have hb:dL l<256:=by
  have h1:=Qi l
  have h2:2 ^ l.length≤2 ^ 8:=Nat.pow_le_pow_right (by decide) h
  omega
 rw[qi0 _ hb,qi1 l h,← BI,← BI,← BI,← BI,← BI,← BI,← BI,← BI]
theorem DZ(l:List Bool):dL l=dL (l.take 8)+256 * dL (l.drop 8):=by
 match l with
 | []=>simp[dL]
 | [a]=>simp[dL]
 | [a,b]=>simp[dL]
 | [a,b,c]=>simp[dL]
 | [a,b,c,d]=>simp[dL]
 | [a,b,c,d,e]=>simp[dL]
 | [a,b,c,d,e,f]=>simp[dL]
 | [a,b,c,d,e,f,g]=>simp[dL]
 | a :: b :: c :: d :: e :: f :: g :: i :: k=>simp[dL];omega
theorem D5(l:List Bool):cnt l=cnt (l.take 8)+cnt (l.drop 8):=by
 rw[← Qk,List.take_append_drop]
theorem ql8(l:List Bool)(h:l.length≤64):qB (dL l)=cnt l∧oQ 1085102592571150095 (st2 3689348814741910323 (st1 6148914691236517205 (dL l)))≤578721382704613384:=by
 have hlt:∀ m:List Bool,dL (m.take 8)<256:=fun m=>by
  have h1:=Qi (m.take 8)
  have h2:2 ^ (m.take 8).length≤2 ^ 8:=Nat.pow_le_pow_right (by decide) (List.length_take_le _ _)
  omega
 have hc:∀ m:List Bool,pop8 (dL (m.take 8))=cnt (m.take 8):=fun m=>ql7 _ (List.length_take_le _ _)
 obtain⟨l0,hl0⟩:∃ l0,l0=l:=⟨_,rfl⟩
 obtain⟨l1,hl1⟩:∃ l1,l1=l0.drop 8:=⟨_,rfl⟩
 obtain⟨l2,hl2⟩:∃ l2,l2=l1.drop 8:=⟨_,rfl⟩
 obtain⟨l3,hl3⟩:∃ l3,l3=l2.drop 8:=⟨_,rfl⟩
 obtain⟨l4,hl4⟩:∃ l4,l4=l3.drop 8:=⟨_,rfl⟩
 obtain⟨l5,hl5⟩:∃ l5,l5=l4.drop 8:=⟨_,rfl⟩
 obtain⟨l6,TG⟩:∃ l6,l6=l5.drop 8:=⟨_,rfl⟩
 obtain⟨l7,TH⟩:∃ l7,l7=l6.drop 8:=⟨_,rfl⟩
 have h8:l7.drop 8=[]:=by
  apply List.drop_eq_nil_of_le
  rw[TH,TG,hl5,hl4,hl3,hl2,hl1,hl0]
  simp
  omega
 have hv:dL l=jA [dL (l0.take 8),dL (l1.take 8),dL (l2.take 8),dL (l3.take 8),dL (l4.take 8),dL (l5.take 8),dL (l6.take 8),dL (l7.take 8)]:=by
  simp only [jA]
  have e7:=DZ l7
  rw[h8] at e7
  have e6:=DZ l6
  rw[← TH] at e6
  have e5:=DZ l5
  rw[← TG] at e5
  have e4:=DZ l4
  rw[← hl5] at e4
  have e3:=DZ l3
  rw[← hl4] at e3
  have e2:=DZ l2
  rw[← hl3] at e2
  have e1:=DZ l1
  rw[← hl2] at e1
  have e0:=DZ l0
  rw[← hl1] at e0
  rw[← hl0,e0,e1,e2,e3,e4,e5,e6,e7]
  rfl
 have hn:cnt l=cnt (l0.take 8)+cnt (l1.take 8)+cnt (l2.take 8)+cnt (l3.take 8)+cnt (l4.take 8)+cnt (l5.take 8)+cnt (l6.take 8)+cnt (l7.take 8):=by
  have e7:=D5 l7
  rw[h8] at e7
  have e6:=D5 l6
  rw[← TH] at e6
  have e5:=D5 l5
  rw[← TG] at e5
  have e4:=D5 l4
  rw[← hl5] at e4
  have e3:=D5 l3
  rw[← hl4] at e3
  have e2:=D5 l2
  rw[← hl3] at e2
  have e1:=D5 l1
  rw[← hl2] at e1
  have e0:=D5 l0
  rw[← hl1] at e0
  have ez:cnt []=0:=rfl
  rw[← hl0]
  omega
 have hs:=qgv _ _ _ _ _ _ _ _ (hlt l0) (hlt l1) (hlt l2) (hlt l3) (hlt l4) (hlt l5) (hlt l6) (hlt l7)
 rw[← hv] at hs
 rw[hn,← hc l0,← hc l1,← hc l2,← hc l3,← hc l4,← hc l5,← hc l6,← hc l7]
 exact hs
theorem qi2(l:List Bool)(k:Nat):cnt (l.take (64 * (k+1)))=cnt (l.take (64 * k))+cnt ((l.drop (64 * k)).take 64):=by
 rw[← Qk,← List.take_add]
 congr 2
theorem qi3(l:List Bool)(k:Nat):qB (jy l k)=cnt ((l.drop (64 * k)).take 64)∧oQ 1085102592571150095 (st2 3689348814741910323 (st1 6148914691236517205 (jy l k)))≤578721382704613384 :=
 ql8 _ (List.length_take_le _ _)
end
section
open Go.RowKit
structure Keeps (F:Nat→Prop)(w w':World):Prop where
 os:w'.os=w.os
 tape:w'.tape=w.tape
 output:w'.output=w.output
 size:w.heap.size≤w'.heap.size
 block:∀ k,k<w.heap.size→¬ F k→w'.heap[k]? = w.heap[k]?
theorem Keeps.refl(F:Nat→Prop)(w:World):Keeps F w w:=⟨rfl,rfl,rfl,Nat.le_refl _,fun _ _ _=>rfl⟩
theorem Keeps.trans{F G:Nat→Prop}{a b c:World}(h:Keeps F a b)(k:Keeps G b c)(hG:∀ x,x<a.heap.size→G x→F x):Keeps F a c :=
 ⟨k.os.trans h.os,k.tape.trans h.tape,k.output.trans h.output,Nat.le_trans h.size k.size,
  fun i hi hf=>(k.block i (Nat.lt_of_lt_of_le hi h.size) (fun hg=>hf (hG i hi hg))).trans (h.block i hi hf)⟩
theorem Keeps.mono{F G:Nat→Prop}{a b:World}(h:Keeps F a b)(hG:∀ x,x<a.heap.size→F x→G x):Keeps G a b :=
 ⟨h.os,h.tape,h.output,h.size,fun i hi hf=>h.block i hi (fun hg=>hf (hG i hi hg))⟩
theorem Keeps.drew{F:Nat→Prop}{a w:World}(h:Keeps F a w):Keeps F a w.drew:=⟨h.os,h.tape,h.output,h.size,h.block⟩
theorem Keeps.alloc{F:Nat→Prop}{a w:World}(h:Keeps F a w)(o:Obj):Keeps F a (w.alloc o) :=
 ⟨h.os,h.tape,h.output,Nat.le_trans h.size (by simp),fun k hk hf=>(Below.heap_alloc w o k (Nat.lt_of_lt_of_le hk h.size)).trans (h.block k hk hf)⟩
theorem Keeps.setCell{F:Nat→Prop}{a w:World}(h:Keeps F a w){p:Addr}(hp:F p.block∨a.heap.size≤p.block)(u:Value):Keeps F a (w.setCell p u) :=
 ⟨h.os,h.tape,h.output,by simpa [World.setCell] using h.size,fun k hk hf=>(Below.heap_setCell w p u k (by
  rintro rfl
  rcases hp with hp|hp
  ·exact hf hp
  ·omega)).trans (h.block k hk hf)⟩
theorem Keeps.grown{F:Nat→Prop}{a w w':World}{row:Option Nat}(h:Keeps F a w)(hg:w.grownBy w' row)(hr:∀ k,row=some k→F k∨a.heap.size≤k):Keeps F a w' :=
 ⟨hg.os.trans h.os,hg.tape.trans h.tape,hg.output.trans h.output,Nat.le_trans h.size hg.size,fun k hk hf =>
  (hg.block k (Nat.lt_of_lt_of_le hk h.size) (fun e=>by
   rcases hr k e.symm with h1|h1
   ·exact hf h1
   ·omega)).trans (h.block k hk hf)⟩
theorem Keeps.below{F:Nat→Prop}{a w:World}(h:Keeps F a w)(hF:∀ x,x<a.heap.size→¬ F x):Below a.heap.size a w :=
 ⟨h.os,h.tape,h.output,h.size,fun k hk=>h.block k hk (hF k hk)⟩
theorem Keeps.of_below{a w:World}(h:Below a.heap.size a w)(F:Nat→Prop):Keeps F a w :=
 ⟨h.os,h.tape,h.output,h.size,fun k hk _=>h.block k hk⟩
theorem Keeps.drewN{F:Nat→Prop}{a w:World}(h:Keeps F a w)(n:Nat):Keeps F a (w.drewN n):=⟨h.os,h.tape,h.output,h.size,h.block⟩
theorem Keeps.at{F:Nat→Prop}{a w:World}(h:Keeps F a w){k:Nat}{o:Obj}(ho:a.heap[k]? = some o)(hf:¬ F k):w.heap[k]? = some o:=by
 rw[h.block k (lt_of_block ho) hf];exact ho
theorem Keeps.owns{F:Nat→Prop}{a w:World}(h:Keeps F a w){base:Nat}{e:TypeId}{size:Nat}{v:Value}{n:Nat}{xs:List Value}
  (ho:a.ownsRow base e size v n xs)(hf:∀ k,v.ownBlock=some k→¬ F k):w.ownsRow base e size v n xs:=by
 obtain⟨h1,h2⟩:=ho
 refine⟨h1,?_⟩
 rcases h2 with h2|⟨g,cap,cur,rfl,hb,hg,r⟩
 ·exact .inl h2
 ·exact .inr ⟨g,cap,cur,rfl,hb,h.at hg (hf g rfl),r⟩
theorem ak{w:World}{b:Nat}{cs:Array Value}{t:TypeId}{fr:Nat × Nat}(h:w.heap[b]? = some (.cells cs t fr))(i:Nat):w.cell? ⟨b,i,none⟩=cs[i]?:=by
 simp[World.cell?,h]
theorem au{w:World}{b:Nat}{cs:Array Value}{t:TypeId}(h:w.heap[b]? = some (.cells cs t (0,0)))(i:Nat):w.frozen? ⟨b,i,none⟩=false:=by
 simp[World.frozen?,h]
theorem dM{w:World}{b:Nat}{cs:Array Value}{t:TypeId}{fr:Nat × Nat}(h:w.heap[b]? = some (.cells cs t fr))(i:Nat)(u:Value) :
  (w.setCell ⟨b,i,none⟩ u).heap[b]? = some (.cells (cs.setIfInBounds i u) t fr):=by
 simp[World.setCell,Array.getElem?_modify,h]
theorem o7{w:World}{base:Nat}{e:TypeId}{v:Value}{n:Nat}{xs:List Value}(h:w.ownsRow base e 1 v n xs)(hn:0<n) :
  ∃ g cap,v=.slice (some ⟨g,0,none⟩) n cap∧n≤cap∧cap≤maxLen∧(∀ j u,xs[j]? = some u→w.cell? ⟨g,j,none⟩=some u∧w.frozen? ⟨g,j,none⟩=false)∧v.ownBlock=some g∧g<w.heap.size:=by
 obtain⟨hl,h2⟩:=h
 rcases h2 with⟨_,h0⟩|⟨g,cap,cur,rfl,hb,hg,hnc,hcm,hcur,ht⟩
 ·omega
 ·refine⟨g,cap,rfl,hnc,hcm,fun j u hj=>?_,rfl,lt_of_block hg⟩
  rw[ak hg,au hg]
  refine⟨?_,rfl⟩
  rw[← ht] at hj
  rw[List.getElem?_take] at hj
  split at hj
  ·simpa using hj
  ·cases hj
theorem Ql{w:World}{base:Nat}{e:TypeId}{g n cap:Nat}{xs:List Value}(h:w.ownsRow base e 1 (.slice (some ⟨g,0,none⟩) n cap) n xs)(i:Nat)(u:Value) :
  (w.setCell ⟨g,i,none⟩ u).ownsRow base e 1 (.slice (some ⟨g,0,none⟩) n cap) n (xs.set i u):=by
 obtain⟨hl,h2⟩:=h
 refine⟨by simpa using hl,?_⟩
 rcases h2 with⟨h0,_⟩|⟨g',cap',cur,hv,hb,hg,hnc,hcm,hcur,ht⟩
 ·cases h0
 ·simp only [Value.slice.injEq,Option.some.injEq,Addr.mk.injEq] at hv
  obtain⟨⟨rfl,_⟩,_,rfl⟩:=hv
  refine .inr ⟨g,cap,cur.setIfInBounds i u,rfl,hb,dM hg i u,hnc,hcm,by simpa using hcur,?_⟩
  rw[Array.toList_setIfInBounds,← ht]
  apply List.ext_getElem?
  intro k
  simp only [List.getElem?_take,List.getElem?_set,List.length_take]
  by_cases hk:k<n * 1
  ·simp only [if_pos hk]
   by_cases hik:i=k
   ·subst hik
    have:(i<min (n * 1) cur.toList.length)=(i<cur.toList.length):=by rw[Nat.lt_min];simp;omega
    simp only [if_true,this]
   ·simp[hik]
  ·simp only [if_neg hk]
   by_cases hik:i=k
   ·subst hik
    rw[if_pos rfl,if_neg (by omega)]
   ·simp[hik]
def Sl(k:IntKind)(w:World)(v:Value)(zs:List Int):Prop :=
 ∃ a cap,v=.slice a zs.length cap∧zs.length≤cap∧cap≤9223372036854775807∧(a=none→cap=0)∧∀ j z,zs[j]? = some z→∃ g off,a=some ⟨g,off,none⟩∧w.cell? ⟨g,off+j,none⟩=some (.int k z)
theorem Sl.keeps{k:IntKind}{w w':World}{v:Value}{zs:List Int}{F:Nat→Prop}(h:Sl k w v zs)(hk:Keeps F w w')(hf:∀ b,v.ownBlock=some b→¬ F b):Sl k w' v zs:=by
 obtain⟨a,cap,rfl,h1,h2,hn,h3⟩:=h
 refine⟨a,cap,rfl,h1,h2,hn,fun j z hj=>?_⟩
 obtain⟨g,off,rfl,hc⟩:=h3 j z hj
 refine⟨g,off,rfl,?_⟩
 rw[World.cell?_of_block (w:=w) (hk.block g (World.block_lt_of_cell? _ _ hc) (hf g rfl))]
 exact hc
theorem Sl.lC{k:IntKind}{w:World}{base:Nat}{e:TypeId}{v:Value}{n:Nat}{zs:List Int}(h:w.ownsRow base e 1 v n (zs.map fun z=>Value.int k z)):Sl k w v zs:=by
 have hn:n=zs.length:=by have:=h.1;simp at this;exact this.symm
 subst hn
 by_cases h0:0<zs.length
 ·obtain⟨g,cap,rfl,h1,h2,hc,_,_⟩:=o7 h h0
  refine⟨_,cap,rfl,h1,by unfold maxLen at h2;omega,(fun h=>by cases h),fun j z hj=>⟨g,0,rfl,?_⟩⟩
  rw[Nat.zero_add]
  exact (hc j (.int k z) (by rw[List.getElem?_map,hj];rfl)).1
 ·have hz:zs=[]:=by cases zs <;> simp_all
  subst hz
  obtain⟨_,h2⟩:=h
  rcases h2 with⟨rfl,_⟩|⟨g,cap,cur,rfl,hb,hg,hnc,hcm,_⟩
  ·exact⟨none,0,rfl,by simp,by decide,fun _=>rfl,fun j z hj=>by simp at hj⟩
  ·exact⟨_,cap,rfl,by simp,by unfold maxLen at hcm;omega,(fun h=>by cases h),fun j z hj=>by simp at hj⟩
def RowIn(k:IntKind)(w:World)(a:Option Addr)(len cap:Nat)(zs:List Int):Prop :=
 (a=none∧len=0∧cap=0∧zs=[]) ∨
 ∃ x,a=some x∧len≤cap∧cap≤maxLen∧zs.length=cap∧(∀ i,i<zs.length→w.cell? (x.add i)=some (.int k (zs.getD i 0)))∧∀ n ∈ zs,(Lit.int k n).wf=true
theorem TI{w:World}{x:Addr}{v:Value}(h:w.cell? x=some v):x=⟨x.block,x.off,none⟩:=by
 have hs:x.spot=none:=by
  unfold World.cell? at h
  split at h
  ·split at h
   ·cases h
   ·rename_i hsp
    simpa using hsp
  ·cases h
 cases x
 simp_all
theorem RowIn.sl{k:IntKind}{w:World}{a:Option Addr}{len cap:Nat}{zs:List Int}(h:RowIn k w a len cap zs) :
  Sl k w (.slice a len cap) (zs.take len)∧(zs.take len).length=len∧(∀ n ∈ zs.take len,(Lit.int k n).wf=true)∧∀ b,(Value.slice a len cap).ownBlock=some b→zs.take len≠[]→b<w.heap.size:=by
 rcases h with⟨rfl,rfl,rfl,rfl⟩|⟨x,rfl,h1,h2,h3,h4,h5⟩
 ·exact⟨⟨none,0,rfl,by simp,by decide,fun _=>rfl,fun j z hj=>by simp at hj⟩,rfl,fun n hn=>by simp at hn,fun b _ hz=>absurd rfl hz⟩
 ·have hl:(zs.take len).length=len:=by simp;omega
  have hcell:∀ j,j<len→w.cell? ⟨x.block,x.off+j,none⟩=some (.int k (zs.getD j 0)):=by
   intro j hj
   have h0:=TI (h4 0 (by omega))
   have e0:x.add 0=x:=by simp[Addr.add]
   rw[e0] at h0
   have hadd:x.add j=⟨x.block,x.off+j,none⟩:=by
    unfold Addr.add
    split
    ·rename_i hj0
     subst hj0
     exact h0
    ·rfl
   rw[← hadd]
   exact h4 j (by omega)
  refine⟨⟨some x,cap,by rw[hl],by omega,by unfold maxLen at h2;omega,(fun h=>by cases h),fun j z hj=>?_⟩,hl,fun n hn=>h5 n (List.mem_of_mem_take hn),fun b hb hz=>?_⟩
  ·have hj':j<len:=by
    rcases Nat.lt_or_ge j len with h|h
    ·exact h
    ·rw[List.getElem?_eq_none (by omega)] at hj;cases hj
   rw[List.getElem?_take,if_pos hj'] at hj
   have hx:=TI (h4 0 (by omega))
   have e0:x.add 0=x:=by simp[Addr.add]
   rw[e0] at hx
   refine⟨x.block,x.off,congrArg some hx,?_⟩
   rw[hcell j hj',List.getD_eq_getElem?_getD,hj]
   rfl
  ·simp only [Value.ownBlock,Option.some.injEq] at hb
   subst hb
   have hp:0<len:=by
    rcases Nat.eq_zero_or_pos len with h|h
    ·subst h;simp at hz
    ·exact h
   exact World.block_lt_of_cell? w ⟨x.block,x.off+0,none⟩ (hcell 0 hp)
end
section
open Go.RowKit
theorem YL:(Tryz.prog.info? 94).map (fun i=>(i.zero,i.size,i.bytes))=some (some (.int .u64 0),1,8):=by kernel_rfl
def aK(w:World)(b:Nat)(v:Value)(l:List Bool):Prop :=
 w.heap[b]? = some (.cells #[v,.int .i64 l.length] 203 (0,0))∧w.ownsRow 0 94 1 v (words l).length ((words l).map fun x:Nat=>Value.int .u64 x)
theorem aK.lt{w:World}{b:Nat}{v:Value}{l:List Bool}(h:aK w b v l):b<w.heap.size:=lt_of_block h.1
theorem aK.apart{w:World}{b:Nat}{v:Value}{l:List Bool}(h:aK w b v l):∀ k,v.ownBlock=some k→k≠b∧k<w.heap.size:=by
 intro k hk
 obtain⟨h1,_,h2⟩:=h
 rcases h2 with⟨rfl,_⟩|⟨g,cap,cur,rfl,_,hg,_⟩
 ·simp[Value.ownBlock] at hk
 ·simp only [Value.ownBlock,Option.some.injEq] at hk
  subst hk
  refine⟨?_,lt_of_block hg⟩
  rintro rfl
  rw[h1] at hg
  simp at hg
theorem aK.keeps{w w':World}{F:Nat→Prop}{b:Nat}{v:Value}{l:List Bool}(h:aK w b v l)(k:Keeps F w w')(hb:¬ F b)(hv:∀ k,v.ownBlock=some k→¬ F k):aK w' b v l :=
 ⟨k.at h.1 hb,k.owns h.2 hv⟩
theorem BJ(w:World) :
  Calls Tryz.prog 139 #[] w fun e w'=>e=.returned (.pointer (some ⟨w.heap.size,0,none⟩))∧w'=w.alloc (.cells #[.slice none 0 0,.int .i64 0] 203):=by
 go_enter Tryz.func139,Tryz.ntmps139
 go_wp2
 go_ret
 exact⟨rfl,rfl⟩
theorem FN(w:World):aK (w.alloc (.cells #[.slice none 0 0,.int .i64 0] 203)) w.heap.size (.slice none 0 0) [] :=
 ⟨heap_alloc_new w _,World.ownsRow_nil _ _ _ _⟩
theorem rY(b:Nat)(v:Value)(l:List Bool)(w:World)(h:aK w b v l) :
  Calls Tryz.prog 99 #[.pointer (some ⟨b,0,none⟩)] w fun e w'=>e=.returned (.int .i64 l.length)∧w=w':=by
 have h1:w.cell? ⟨b,1,none⟩=some (.int .i64 l.length):=ak h.1 1
 clear h
 go_enter Tryz.func99,Tryz.ntmps99
 go_wp2
 go_ret
 exact⟨rfl,rfl⟩
theorem AV{k:IntKind}{a b:Int}(h:a=b):Ending.returned (.int k a)=.returned (.int k b):=by rw[h]
def x9(l:List Bool)(i:Int):Int:=if 0≤i∧i<l.length then (l.getD i.toNat false).toNat else -1
theorem qna(x:Nat)(hx:x<18446744073709551616):wrap64 (bits BinOp.and IntKind.u64 (x:Int) 1)=((x % 2:Nat):Int):=by
 have h:=bits_and_u64_nat x 1 hx (by omega)
 rw[show ((1:Nat):Int)=1 from rfl] at h
 rw[h,Nat.and_one_is_mod]
 exact IntWalk.wrap64_in _ ⟨by omega,by omega⟩
theorem lD(b:Nat)(v:Value)(l:List Bool)(i:Nat)(w:World)(h:aK w b v l)(hi:i<l.length)(hl:l.length≤1000000000) :
  Calls Tryz.prog 195 #[.pointer (some ⟨b,0,none⟩),.int .i64 i] w fun e w'=>e=.returned (.int .i64 (l.getD i false).toNat)∧w=w':=by
 have hm:i / 64<(words l).length:=by rw[rX];omega
 have hml:(words l).length≤1000000000:=by rw[rX];omega
 obtain⟨g,cap,rfl,hnc,hcm,hc,_,_⟩:=o7 h.2 (by omega)
 have hx:=(hc (i / 64) (.int .u64 (jy l (i / 64):Nat)) (by rw[List.getElem?_map,yO (by rw[rX] at hm;exact hm)];rfl)).1
 clear hc
 have h1:w.cell? ⟨b,1,none⟩=some (.int .i64 l.length):=ak h.1 1
 have h0:w.cell? ⟨b,0,none⟩=some (.slice (some ⟨g,0,none⟩) (words l).length cap):=ak h.1 0
 unfold maxLen at hcm
 have H:Hid _:=h
 have hlen:=rY b _ l w h
 clear h
 have hlt:=KL l (i / 64)
 have hbit:=Qj l i
 generalize jy l (i / 64)=x at hx hlt hbit
 have TJ:=ah hbit
 clear hbit
 generalize (words l).length=m at *
 generalize l.length=n at *
 go_enter Tryz.func195,Tryz.ntmps195
 go_wp2_with (go_at_call 99;refine hlen.mono ?_;rintro e w' ⟨rfl,rfl⟩)
 go_ret
 have e1:(x:Int) / 2 ^ (i % 64)=((x / 2 ^ (i % 64):Nat):Int):=by simp
 have hle:x / 2 ^ (i % 64)≤x:=Nat.div_le_self _ _
 exact⟨AV (by rw[e1,qna _ (Nat.lt_of_le_of_lt hle hlt),TJ.out]),rfl⟩
theorem qoj(b:Nat)(v:Value)(l:List Bool)(i:Int)(w:World)(h:aK w b v l)(hi:¬ (0≤i∧i<l.length)) :
  Calls Tryz.prog 195 #[.pointer (some ⟨b,0,none⟩),.int .i64 i] w fun e w'=>e=.returned (.int .i64 (-1))∧w=w':=by
 have hlen:=rY b _ l w h
 clear h
 generalize l.length=n at *
 by_cases h0:i<0
 ·go_enter Tryz.func195,Tryz.ntmps195
  go_wp2_with (go_at_call 99;refine hlen.mono ?_;rintro e w' ⟨rfl,rfl⟩)
  go_ret
  exact⟨rfl,rfl⟩
 ·have h1:(n:Int)≤i:=by omega
  go_enter Tryz.func195,Tryz.ntmps195
  go_wp2_with (go_at_call 99;refine hlen.mono ?_;rintro e w' ⟨rfl,rfl⟩)
  go_ret
  exact⟨rfl,rfl⟩
theorem Qm(b:Nat)(v:Value)(l:List Bool)(i:Int)(w:World)(h:aK w b v l)(hl:l.length≤1000000000) :
  Calls Tryz.prog 195 #[.pointer (some ⟨b,0,none⟩),.int .i64 i] w fun e w'=>e=.returned (.int .i64 (x9 l i))∧w=w':=by
 unfold x9
 split
 ·rename_i hi
  obtain⟨n,rfl⟩:=Int.eq_ofNat_of_zero_le hi.1
  exact lD b v l n w h (by omega) hl
 ·rename_i hi
  exact qoj b v l i w h hi
theorem qok(x0 r:Nat)(x:Bool)(hx:x0<18446744073709551616)(hr:r<64) :
  bits BinOp.or IntKind.u64 (x0:Int) (IntKind.u64.wrap ((x.toNat:Int) * 2 ^ r))=((x0 ||| x.toNat * 2 ^ r:Nat):Int):=by
 have h2:2 ^ r≤2 ^ 63:=Nat.pow_le_pow_right (by decide) (by omega)
 have h3:x.toNat * 2 ^ r<18446744073709551616:=by cases x <;> simp <;> omega
 have e:((x.toNat:Int) * 2 ^ r)=((x.toNat * 2 ^ r:Nat):Int):=by simp
 rw[e,IntKind.wrap_u64,show (((x.toNat * 2 ^ r:Nat):Int) % 18446744073709551616)=((x.toNat * 2 ^ r:Nat):Int) by omega]
 exact bits_or_u64_nat _ _ hx h3
theorem YM{w:World}{b g cap:Nat}{l:List Bool}(x:Bool)(hb:w.heap[b]? = some (.cells #[.slice (some ⟨g,0,none⟩) (mM l).length cap,.int .i64 l.length] 203 (0,0)))
  (ho:w.ownsRow 0 94 1 (.slice (some ⟨g,0,none⟩) (mM l).length cap) (mM l).length ((mM l).map fun x:Nat=>Value.int .u64 x))(hgb:g≠b) :
  aK (((w.setCell ⟨g,l.length / 64,none⟩ (.int .u64 (bits BinOp.or IntKind.u64 (jy l (l.length / 64):Nat) (IntKind.u64.wrap ((x.toNat:Int) * 2 ^ (l.length % 64)))))).setCell ⟨b,1,none⟩ (.int .i64 ((l.length:Int)+1))).drew)
   b (.slice (some ⟨g,0,none⟩) (mM l).length cap) (l ++ [x]) ∧
  Keeps (fun k=>k=b∨k=g) w (((w.setCell ⟨g,l.length / 64,none⟩ (.int .u64 (bits BinOp.or IntKind.u64 (jy l (l.length / 64):Nat) (IntKind.u64.wrap ((x.toNat:Int) * 2 ^ (l.length % 64)))))).setCell ⟨b,1,none⟩ (.int .i64 ((l.length:Int)+1))).drew):=by
 rw[qok _ _ _ (KL _ _) (Nat.mod_lt _ (by decide))]
 refine⟨⟨?_,?_⟩,(((Keeps.refl _ w).setCell (.inl (.inr rfl)) _).setCell (.inl (.inl rfl)) _).drew⟩
 ·show ((w.setCell _ _).setCell _ _).heap[b]? = _
  have h1:(w.setCell ⟨g,l.length / 64,none⟩ (.int .u64 ((jy l (l.length / 64) ||| x.toNat * 2 ^ (l.length % 64):Nat):Int))).heap[b]? = _:=(Below.heap_setCell w _ _ b (by simpa using hgb.symm)).trans hb
  rw[dM h1]
  simp
 ·have h2:=Ql ho (l.length / 64) (.int .u64 ((jy l (l.length / 64) ||| x.toNat * 2 ^ (l.length % 64):Nat):Int))
  have h3:=ownsRow_setCell_other h2 (a:=⟨b,1,none⟩) (by simp[Value.ownBlock];exact hgb) (.int .i64 ((l.length:Int)+1))
  have e:(words (l ++ [x])).length=(mM l).length:=by rw[YK];simp
  rw[e,YK,List.map_set]
  exact h3
theorem Qn(b:Nat)(v:Value)(l:List Bool)(x:Bool)(w:World)(h:aK w b v l)(hl:l.length<1000000000) :
  Calls Tryz.prog 173 #[.pointer (some ⟨b,0,none⟩),.int .u64 x.toNat] w fun e w'=>e=.returned (.tuple #[])∧∃ v',aK w' b v' (l ++ [x])∧Keeps (fun k=>k=b∨v.ownBlock=some k) w w'∧(v'.ownBlock=v.ownBlock∨∃ k,v'.ownBlock=some k∧w.heap.size≤k):=by
 have h1:w.cell? ⟨b,1,none⟩=some (.int .i64 l.length):=ak h.1 1
 have h0:w.cell? ⟨b,0,none⟩=some v:=ak h.1 0
 have f1:=au h.1 1
 have f0:=au h.1 0
 by_cases hn:l.length % 64=0
 ·have hn':(((l.length:Int) % 64) == 0)=true:=by simp;omega
  have hown:=h.2
  have hml:(words l).length=l.length / 64:=by rw[rX];omega
  have hap:=h.apart
  have hb:=h.1
  have nQ:mM l=words l ++ [0]:=by unfold mM;rw[if_pos hn]
  have hpg:=qgt l
  have hpl:=TF l
  obtain⟨i,hi,hz0,hz1,hz2⟩:=info_parts YL
  clear h
  have Hb:=ah hb
  clear hb
  have FQ:=ah (aj nQ (aj hpg (aj hpl hml)))
  clear nQ hpg hpl hml
  have Hn:=ah hn
  clear hn
  go_enter Tryz.func173,Tryz.ntmps173
  go_wp2_with (at_builtin;refine wpList_append_lies _ rfl _ _ _ rfl 0 94 i (.int .u64 0) 1 8 Tryz.underlying201 hi hz0 hz1 hz2 rfl (by decide) v (words l).length _ rfl (hown.alloc _) ⟨w.heap.size,0,none⟩ 1 1 [.int .u64 0] rfl rfl (cell_one_new _ _ _) ?c2 (by decide) ?c3 ?c4 ?c5 (w.heap.size+1) (by simp) ?_)
  case c2=>intro u hu;simp at hu;subst hu;rfl
  case c3=>have:=FQ.out.2.2.2;unfold maxLen;omega
  case c4=>have:=FQ.out.2.2.2;omega
  case c5=>simp
  intro g cap w1 hown1 hgrow hat hlt
  obtain⟨nQ,hpg,hpl,hml⟩:=FQ.out
  have hb:=Hb.out
  have hn:=Hn.out
  have hbl:b<w.heap.size:=lt_of_block hb
  have hgb:g≠b:=by
   rcases hat with h|h
   ·exact (hap g h).1
   ·omega
  have hbg:=hgb.symm
  have hb1:w1.heap[b]? = some (.cells #[v,.int .i64 l.length] 203 (0,0)):=by
   rw[hgrow.block b (by simp;omega) (fun e=>(hap b e.symm).1 rfl),Below.heap_alloc _ _ _ hbl]
   exact hb
  have hlen:(mM l).length=(words l).length+1:=by rw[nQ];simp
  have hmap:(words l).map (fun x:Nat=>Value.int .u64 x) ++ [Value.int .u64 0]=(mM l).map (fun x:Nat=>Value.int .u64 x):=by rw[nQ];simp
  rw[hmap,← hlen] at hown1
  have k1:Keeps (fun k=>k=b∨v.ownBlock=some k) w w1:=((Keeps.refl _ w).alloc _).grown hgrow (fun k hk=>.inl (.inr hk))
  have hb2:(w1.setCell ⟨b,0,none⟩ (.slice (some ⟨g,0,none⟩) (mM l).length cap)).heap[b]? = some (.cells #[.slice (some ⟨g,0,none⟩) (mM l).length cap,.int .i64 l.length] 203 (0,0)):=by
   rw[dM hb1];simp
  have ho2:=ownsRow_setCell_other hown1 (a:=⟨b,0,none⟩) (by simp[Value.ownBlock];exact hgb) (.slice (some ⟨g,0,none⟩) (mM l).length cap)
  have k2:=k1.setCell (p:=⟨b,0,none⟩) (.inl (.inl rfl)) (.slice (some ⟨g,0,none⟩) (mM l).length cap)
  have hfin:=YM x hb2 ho2 hgb
  have k3:=k2.trans hfin.2 (by
   rintro k hk (rfl|rfl)
   ·exact .inl rfl
   ·rcases hat with h|h
    ·exact .inr h
    ·omega)
  have hv:(Value.slice (some ⟨g,0,none⟩) (mM l).length cap).ownBlock=v.ownBlock∨∃ k,(Value.slice (some ⟨g,0,none⟩) (mM l).length cap).ownBlock=some k∧w.heap.size≤k:=by
   rcases hat with h|h
   ·exact .inl h.symm
   ·exact .inr ⟨g,rfl,by omega⟩
  have BK:=ah (aj hfin.1 (aj k3 hv))
  clear hfin k3 hv ho2
  obtain⟨g',cap',hg',hnc,hcm,hc,_,_⟩:=o7 hown1 (by omega)
  simp only [Value.slice.injEq,Option.some.injEq,Addr.mk.injEq] at hg'
  obtain⟨⟨rfl,_⟩,_,rfl⟩:=hg'
  obtain⟨hx,hfx⟩:=hc (l.length / 64) (.int .u64 (jy l (l.length / 64):Nat)) (by rw[List.getElem?_map,hpg];rfl)
  have c0:=ak hb1 0
  have c1:=ak hb1 1
  have d0:=au hb1 0
  have d1:=au hb1 1
  simp only [List.getElem?_toArray,List.getElem?_cons_zero,List.getElem?_cons_succ] at c0 c1
  rw[← hlen]
  have hlt2:l.length / 64<(mM l).length:=by omega
  clear hpl hc k1 k2 hb2 hb1 hgrow hat hown1 hmap nQ hpg hn hb hap hown hi hz0 hz1 hz2 hlen hml
  unfold maxLen at hcm
  have hxl:=KL l (l.length / 64)
  generalize jy l (l.length / 64)=x0 at *
  generalize (mM l).length=m at *
  generalize l.length=n at *
  go_wp2_with fail
  go_region
  all_goals
   go_wp2
   go_end0
   exact⟨rfl,_,BK.out⟩
 ·have hn':(((l.length:Int) % 64) == 0)=false:=by simp;omega
  have hm:l.length / 64<(words l).length:=by rw[rX];omega
  have hml:(words l).length≤1000000000:=by rw[rX];omega
  obtain⟨g,cap,rfl,hnc,hcm,hc,_,_⟩:=o7 h.2 (by omega)
  have hx:=hc (l.length / 64) (.int .u64 (jy l (l.length / 64):Nat)) (by rw[List.getElem?_map,yO (by rw[rX] at hm;exact hm)];rfl)
  obtain⟨hx,hfx⟩:=hx
  clear hc
  unfold maxLen at hcm
  have hgb:=(h.apart g rfl).1
  have hbg:=hgb.symm
  have nQ:mM l=words l:=by unfold mM;rw[if_neg hn]
  have hfin:=YM (w:=w) (b:=b) (g:=g) (cap:=cap) (l:=l) x (by rw[nQ];exact h.1) (by rw[nQ];exact h.2) hgb
  rw[nQ] at hfin
  clear nQ h
  have BK:=ah hfin
  clear hfin
  generalize jy l (l.length / 64)=x0 at *
  generalize l.length=n at *
  generalize (words l).length=m at *
  go_enter Tryz.func173,Tryz.ntmps173
  go_wp2_with fail
  go_region
  all_goals
   go_wp2
   go_end0
   exact⟨rfl,_,BK.out.1,BK.out.2.mono (by rintro k _ (rfl|rfl);exact .inl rfl;exact .inr rfl),.inl rfl⟩
theorem qnb(b:Nat)(v:Value)(l:List Bool)(w:World)(h:aK w b v l)(hl:l.length<1000000000) :
  Calls Tryz.prog 173 #[.pointer (some ⟨b,0,none⟩),.int .u64 1] w fun e w'=>e=.returned (.tuple #[])∧∃ v',aK w' b v' (l ++ [true])∧Keeps (fun k=>k=b∨v.ownBlock=some k) w w'∧(v'.ownBlock=v.ownBlock∨∃ k,v'.ownBlock=some k∧w.heap.size≤k) :=
 Qn b v l true w h hl
theorem add_zero(b:Nat)(v:Value)(l:List Bool)(w:World)(h:aK w b v l)(hl:l.length<1000000000) :
  Calls Tryz.prog 173 #[.pointer (some ⟨b,0,none⟩),.int .u64 0] w fun e w'=>e=.returned (.tuple #[])∧∃ v',aK w' b v' (l ++ [false])∧Keeps (fun k=>k=b∨v.ownBlock=some k) w w'∧(v'.ownBlock=v.ownBlock∨∃ k,v'.ownBlock=some k∧w.heap.size≤k) :=
 Qn b v l false w h hl
end
section
open Go.RowKit
def lF(zs:List Int):List Bool:=zs.map fun z=>!(z == 0)
theorem qe4(zs:List Int)(k:Nat)(z:Int)(h:zs[k]? = some z):lF (zs.take (k+1))=lF (zs.take k) ++ [!(z == 0)]:=by
 have hk:k<zs.length:=by
  rcases Nat.lt_or_ge k zs.length with h' | h'
  ·exact h'
  ·rw[List.getElem?_eq_none h'] at h;cases h
 rw[List.take_succ_eq_append_getElem hk]
 simp only [lF,List.map_append,List.map_cons,List.map_nil]
 rw[List.getElem?_eq_getElem hk] at h
 cases h
 rfl
def bN(w:World)(b:Nat)(v:Value)(l':List Bool)(w':World):Prop :=
 ∃ v',aK w' b v' l'∧Keeps (fun k=>k=b∨v.ownBlock=some k) w w'∧(v'.ownBlock=v.ownBlock∨∃ k,v'.ownBlock=some k∧w.heap.size≤k)
theorem bN.trans{w w1 w2:World}{b:Nat}{v v1:Value}{l':List Bool}(hk:Keeps (fun k=>k=b∨v.ownBlock=some k) w w1)
  (hv:v1.ownBlock=v.ownBlock∨∃ k,v1.ownBlock=some k∧w.heap.size≤k)(h:bN w1 b v1 l' w2):bN w b v l' w2:=by
 obtain⟨v2,h1,h2,h3⟩:=h
 refine⟨v2,h1,hk.trans h2 ?_,?_⟩
 ·rintro x hx (rfl|hx2)
  ·exact .inl rfl
  ·rcases hv with hv|⟨k,hv,hk⟩
   ·exact .inr (by rw[← hv];exact hx2)
   ·rw[hv] at hx2;cases hx2;omega
 ·rcases h3 with h3|⟨k,h3,hk3⟩
  ·rw[h3];exact hv
  ·exact .inr ⟨k,h3,Nat.le_trans hk.size hk3⟩
theorem KN(b:Nat)(v:Value)(l:List Bool)(sv:Value)(zs:List Int)(w:World)(h:aK w b v l)(hs:Sl .i64 w sv zs)
  (hd:∀ k,sv.ownBlock=some k→k≠b∧v.ownBlock≠some k)(hl:l.length+zs.length<1000000000) :
  Calls Tryz.prog 142 #[.pointer (some ⟨b,0,none⟩),sv] w fun e w'=>e=.returned (.tuple #[])∧bN w b v (l ++ lF zs) w':=by
 obtain⟨a,cap,rfl,hnc,hcm,_,hc⟩:=hs
 go_enter Tryz.func142,Tryz.ntmps142
 go_wp2_with fail
 go_loopw [10] (fun i wr=>∃ k:Nat,k≤zs.length∧i=.int .i64 k∧bN w b v (l ++ lF (zs.take k)) wr) (fun i _=>zs.length - (intOf i).toNat)
 case atStart=>exact⟨0,Nat.zero_le _,rfl,v,by simpa [lF] using h,Keeps.refl _ _,.inl rfl⟩
 case round =>
  obtain⟨k,hk,rfl,hg⟩:=hrel
  by_cases hlt:k<zs.length
  ·obtain⟨z,hz⟩:∃ z,zs[k]? = some z:=⟨_,List.getElem?_eq_getElem hlt⟩
   obtain⟨g,off,rfl,hcell⟩:=hc k z hz
   obtain⟨v1,hv1,hk1,hf1⟩:=hg
   have hcell1:wr.cell? ⟨g,off+k,none⟩=some (.int .i64 z):=by
    rw[World.cell?_of_block (w:=w) (hk1.block g (World.block_lt_of_cell? _ _ hcell) (by rintro (h|h);exact (hd g rfl).1 h;exact (hd g rfl).2 h))]
    exact hcell
   have hs2:=qe4 zs k z hz
   have hll:(l ++ lF (zs.take k)).length<1000000000:=by simp[lF];omega
   have HS:=ah hs2
   clear hs2 hc hz hcell h
   by_cases hz0:z=0
   ·subst hz0
    have hA:=add_zero b v1 _ wr hv1 hll
    go_wp2_with (go_at_call 173;refine hA.mono ?_;rintro e w2 ⟨rfl,hw2⟩)
    go_roundw
    case rel=>exact⟨k+1,by omega,by go_num,by have e:=HS.out;simp only [beq_self_eq_true,Bool.not_true] at e;rw[e,← List.append_assoc];exact bN.trans hk1 hf1 hw2⟩
    case measure=>simp[intOf];omega
   ·have hz1:(!(z == 0))=true:=by simp[hz0]
    have hz2:(z != 0)=true:=by simp[hz0]
    rw[hz1] at HS
    clear hz1 hz0
    have hA:=qnb b v1 _ wr hv1 hll
    go_wp2_with (go_at_call 173;refine hA.mono ?_;rintro e w2 ⟨rfl,hw2⟩)
    go_roundw
    case rel=>exact⟨k+1,by omega,by go_num,by rw[HS.out,← List.append_assoc];exact bN.trans hk1 hf1 hw2⟩
    case measure=>simp[intOf];omega
  ·obtain rfl:k=zs.length:=by omega
   rw[List.take_of_length_le (Nat.le_refl _)] at hg
   go_wp2
   go_end0
   exact⟨rfl,hg⟩
theorem YN(l:List Bool)(k:Nat)(h:k<l.length):l.take (k+1)=l.take k ++ [l.getD k false]:=by
 rw[List.take_succ_eq_append_getElem h]
 simp[h]
theorem Sl.one(w:World)(k:IntKind)(z:Int)(t:TypeId):Sl k (w.alloc (.cells #[.int k z] t)) (.slice (some ⟨w.heap.size,0,none⟩) 1 1) [z]:=by
 refine⟨_,1,rfl,by simp,by decide,(fun h=>by cases h),fun j x hj=>?_⟩
 cases j with
 | zero=>simp at hj;subst hj;exact⟨_,_,rfl,by simp⟩
 | succ j=>simp at hj
theorem ql9(b:Nat)(v:Value)(l:List Bool)(b2:Nat)(v2:Value)(l2:List Bool)(w:World)(h:aK w b v l)(h2:aK w b2 v2 l2)
  (hd:b2≠b)(hd2:v.ownBlock≠some b2)(hd3:v2.ownBlock≠some b)(hd4:∀ k,v2.ownBlock=some k→v.ownBlock≠some k)(hl:l.length+l2.length<1000000000) :
  Calls Tryz.prog 167 #[.pointer (some ⟨b,0,none⟩),.pointer (some ⟨b2,0,none⟩)] w fun e w'=>e=.returned (.tuple #[])∧bN w b v (l ++ l2) w':=by
 have hlen:=rY b2 v2 l2 w h2
 go_enter Tryz.func167,Tryz.ntmps167
 go_wp2_with (go_at_call 99;refine hlen.mono ?_;rintro e w' ⟨rfl,rfl⟩)
 clear hlen
 go_loopw [7] (fun i wr=>∃ k:Nat,k≤l2.length∧i=.int .i64 k∧bN w b v (l ++ l2.take k) wr) (fun i _=>l2.length - (intOf i).toNat)
 case atStart=>exact⟨0,Nat.zero_le _,rfl,v,by simpa using h,Keeps.refl _ _,.inl rfl⟩
 case round =>
  obtain⟨k,hk,rfl,hg⟩:=hrel
  by_cases hlt:k<l2.length
  ·obtain⟨v1,hv1,hk1,hf1⟩:=hg
   have h2':aK wr b2 v2 l2:=h2.keeps hk1 (by rintro (h|h);exact hd h;exact hd2 h) (by
    rintro x hx (rfl|h)
    ·exact hd3 hx
    ·exact hd4 x hx h)
   have hA:=lD b2 v2 l2 k wr h2' hlt (by omega)
   have hB:=fun t:TypeId=>KN b v1 (l ++ l2.take k) (.slice (some ⟨wr.heap.size,0,none⟩) 1 1) [((l2.getD k false).toNat:Int)] (wr.alloc (.cells #[.int .i64 ((l2.getD k false).toNat:Int)] t))
    (hv1.keeps ((Keeps.refl (fun _=>False) wr).alloc _) (fun h=>h) (fun _ _ h=>h)) (Sl.one wr .i64 _ t) (by
     intro x hx
     simp only [Value.ownBlock,Option.some.injEq] at hx
     subst hx
     exact⟨fun e=>by have:=hv1.lt;omega,fun e=>by have:=(hv1.apart _ e).2;omega⟩) (by simp;omega)
   have hs:=YN l2 k hlt
   have HS:=ah hs
   have mO:lF [((l2.getD k false).toNat:Int)]=[l2.getD k false]:=by cases l2.getD k false <;> rfl
   rw[mO] at hB
   clear hs mO h h2 h2'
   generalize l2.getD k false=x at *
   go_wp2_with (first | (go_at_call 195;refine hA.mono ?_;rintro e w2 ⟨rfl,rfl⟩) | (go_at_call 142;refine (hB _).mono ?_;rintro e w2 ⟨rfl,hw2⟩))
   go_roundw
   case rel=>exact⟨k+1,by omega,by go_num,by rw[HS.out,← List.append_assoc];exact bN.trans (hk1.alloc _) hf1 hw2⟩
   case measure=>simp[intOf];omega
  ·obtain rfl:k=l2.length:=by omega
   rw[List.take_of_length_le (Nat.le_refl _)] at hg
   go_wp2
   go_end0
   exact⟨rfl,hg⟩
end
section
open Go.RowKit
theorem Js(a m:Nat)(M:Int)(hM:M=(m:Int))(ha:a<18446744073709551616)(hm:m<18446744073709551616):bits BinOp.and IntKind.u64 (a:Int) M=((a &&& m:Nat):Int):=by
 rw[hM];exact bits_and_u64_nat a m ha hm
theorem Jt(n:Nat)(h:n<18446744073709551616):IntKind.u64.wrap (n:Int)=(n:Int):=by
 rw[IntKind.wrap_u64];omega
theorem Ju(x k:Nat)(K:Int)(hK:K=(k:Int)):(x:Int) / K=((x / k:Nat):Int):=by rw[hK];exact (Int.natCast_ediv x k).symm
theorem s1(x:Nat)(hx:x<18446744073709551616) :
  IntKind.u64.wrap (bits BinOp.and IntKind.u64 ((x:Int) / 2) 6148914691236517205+bits BinOp.and IntKind.u64 (x:Int) 6148914691236517205)=((st1 6148914691236517205 x:Nat):Int)∧st1 6148914691236517205 x≤12297829382473034410:=by
 have h1:(x / 2) &&& 6148914691236517205≤6148914691236517205:=Nat.and_le_right
 have h2:x &&& 6148914691236517205≤6148914691236517205:=Nat.and_le_right
 have hle:st1 6148914691236517205 x≤12297829382473034410:=by unfold st1;omega
 refine⟨?_,hle⟩
 rw[Ju x 2 2 rfl,Js (x / 2) 6148914691236517205 6148914691236517205 rfl (by omega) (by omega),Js x 6148914691236517205 6148914691236517205 rfl hx (by omega),← Int.natCast_add,Jt _ (by unfold st1 at hle;omega)]
 rfl
theorem s2(x:Nat)(hx:x<18446744073709551616) :
  IntKind.u64.wrap (bits BinOp.and IntKind.u64 ((x:Int) / 4) 3689348814741910323+bits BinOp.and IntKind.u64 (x:Int) 3689348814741910323)=((st2 3689348814741910323 x:Nat):Int)∧st2 3689348814741910323 x≤7378697629483820646:=by
 have h1:(x / 4) &&& 3689348814741910323≤3689348814741910323:=Nat.and_le_right
 have h2:x &&& 3689348814741910323≤3689348814741910323:=Nat.and_le_right
 have hle:st2 3689348814741910323 x≤7378697629483820646:=by unfold st2;omega
 refine⟨?_,hle⟩
 rw[Ju x 4 4 rfl,Js (x / 4) 3689348814741910323 3689348814741910323 rfl (by omega) (by omega),Js x 3689348814741910323 3689348814741910323 rfl hx (by omega),← Int.natCast_add,Jt _ (by unfold st2 at hle;omega)]
 rfl
theorem s3(x:Nat)(hx:x≤7378697629483820646) :
  bits BinOp.and IntKind.u64 (IntKind.u64.wrap ((x:Int) / 16+(x:Int))) 1085102592571150095=((oQ 1085102592571150095 x:Nat):Int):=by
 rw[Ju x 16 16 rfl,← Int.natCast_add,Jt _ (by omega),Js (x / 16+x) 1085102592571150095 1085102592571150095 rfl (by omega) (by omega)]
 rfl
def D6(x:Int):Int :=
 let a:=IntKind.u64.wrap (bits BinOp.and IntKind.u64 (x / 2) 6148914691236517205+bits BinOp.and IntKind.u64 x 6148914691236517205)
 let b:=IntKind.u64.wrap (bits BinOp.and IntKind.u64 (a / 4) 3689348814741910323+bits BinOp.and IntKind.u64 a 3689348814741910323)
 let c:=bits BinOp.and IntKind.u64 (IntKind.u64.wrap (b / 16+b)) 1085102592571150095
 let d:=IntKind.u64.wrap (c+c / 256)
 let e:=IntKind.u64.wrap (d+d / 65536)
 let f:=IntKind.u64.wrap (e+e / 4294967296)
 bits BinOp.and IntKind.i64 (wrap64 f) 127
theorem qol(n:Nat)(h:n<9223372036854775808):bits BinOp.and IntKind.i64 (wrap64 (n:Int)) 127=((n % 128:Nat):Int):=by
 rw[IntWalk.wrap64_in _ ⟨by omega,by omega⟩]
 have h1:=bits_nat .i64 63 (by decide) (fun m h0 h1=>IntWalk.i64_in m (by omega)) n 127 (by omega) (by omega)
 rw[show (127:Int)=((127:Nat):Int) from rfl,h1.1,Nat.and_two_pow_sub_one_eq_mod n 7]
theorem qla(x:Nat)(hx:x<18446744073709551616)(hs:oQ 1085102592571150095 (st2 3689348814741910323 (st1 6148914691236517205 x))≤578721382704613384):D6 x=(qB x:Nat):=by
 obtain⟨e1,l1⟩:=s1 x hx
 obtain⟨e2,l2⟩:=s2 (st1 6148914691236517205 x) (by omega)
 have e3:=s3 _ l2
 unfold D6
 simp only [e1,e2,e3]
 unfold qB
 simp only []
 generalize oQ 1085102592571150095 (st2 3689348814741910323 (st1 6148914691236517205 x))=a at *
 clear e1 e2 e3 l1 l2
 rw[Ju a 256 256 rfl,← Int.natCast_add,Jt _ (by omega)]
 have hb:a+a / 256≤600000000000000000:=by omega
 generalize a+a / 256=b at *
 rw[Ju b 65536 65536 rfl,← Int.natCast_add,Jt _ (by omega)]
 have hc:b+b / 65536≤700000000000000000:=by omega
 generalize b+b / 65536=c at *
 rw[Ju c 4294967296 4294967296 rfl,← Int.natCast_add,Jt _ (by omega),qol _ (by omega)]
theorem qgw(x:Nat)(w:World)(hx:x<18446744073709551616)(hs:oQ 1085102592571150095 (st2 3689348814741910323 (st1 6148914691236517205 x))≤578721382704613384) :
  Calls Tryz.prog 313 #[.int .u64 x] w fun e w'=>e=.returned (.int .i64 (qB x))∧w=w':=by
 have hE:=ah (qla x hx hs)
 clear hs
 go_enter Tryz.func313,Tryz.ntmps313
 go_wp2
 go_ret
 refine⟨?_,rfl⟩
 rw[← hE.out]
 rfl
theorem qlb(b:Nat)(v:Value)(l:List Bool)(w:World)(h:aK w b v l)(hl:l.length≤1000000000) :
  Calls Tryz.prog 309 #[.pointer (some ⟨b,0,none⟩)] w fun e w'=>e=.returned (.int .i64 (cnt l))∧w=w':=by
 have h0:w.cell? ⟨b,0,none⟩=some v:=ak h.1 0
 have hml:(words l).length≤1000000000:=by rw[rX];omega
 have hw:=h.2
 have hwl:=rX l
 have hform:∃ a cap,v=.slice a (words l).length cap∧(words l).length≤cap∧cap≤9223372036854775807∧∀ j,j<(words l).length→∃ g,a=some ⟨g,0,none⟩∧w.cell? ⟨g,j,none⟩=some (.int .u64 (jy l j:Nat)):=by
  by_cases hp:0<(words l).length
  ·obtain⟨g,cap,rfl,h1,h2,hc,_,_⟩:=o7 hw hp
   refine⟨_,cap,rfl,h1,by unfold maxLen at h2;omega,fun j hj=>⟨g,rfl,?_⟩⟩
   exact (hc j _ (by rw[List.getElem?_map,yO (by omega)];rfl)).1
  ·have hz:(words l).length=0:=by omega
   rw[hz] at hw ⊢
   rcases hw.2 with⟨rfl,_⟩|⟨g,cap,cur,rfl,hb,hg,hnc,hcm,_⟩
   ·exact⟨none,0,rfl,by omega,by decide,fun j hj=>by omega⟩
   ·exact⟨_,cap,rfl,by omega,by unfold maxLen at hcm;omega,fun j hj=>by omega⟩
 obtain⟨a,cap,rfl,hnc,hcm,hc⟩:=hform
 have hcl:cnt (l.take (64 * (words l).length))=cnt l:=by rw[List.take_of_length_le (by omega)]
 clear hw h
 have HL:=ah hcl
 clear hcl hwl
 generalize (words l).length=m at *
 go_enter Tryz.func309,Tryz.ntmps309
 go_wp2_with fail
 go_loop [3,13] (fun n i=>∃ k:Nat,k≤m∧i=.int .i64 k∧n=.int .i64 (cnt (l.take (64 * k)))) (fun _ i=>m - (intOf i).toNat)
 case atStart=>exact⟨0,Nat.zero_le _,rfl,rfl⟩
 case round =>
  obtain⟨k,hk,rfl,rfl⟩:=hrel
  by_cases hlt:k<m
  ·obtain⟨g,rfl,hcell⟩:=hc k hlt
   have hsw:=qi3 l k
   have hO:=qgw (jy l k) w (KL l k) hsw.2
   have hle:=DY (l.take (64 * (k+1)))
   have hll:(l.take (64 * (k+1))).length≤1000000000:=by simp;omega
   have hcw:=qi2 l k
   rw[← hsw.1] at hcw
   have hb1:cnt (l.take (64 * k))≤1000000000:=by omega
   have hb2:qB (jy l k)≤1000000000:=by omega
   have HC:=ah hcw
   clear hsw hcw hc hle hll
   generalize qB (jy l k)=y at *
   generalize jy l k=z at *
   generalize cnt (l.take (64 * k))=p at *
   go_wp2_with (go_at_call 313;refine hO.mono ?_;rintro e w' ⟨rfl,rfl⟩)
   go_round
   case rel=>exact⟨k+1,by omega,by go_num,by rw[HC.out];go_num⟩
   case measure=>simp[intOf];omega
  ·obtain rfl:k=m:=by omega
   go_wp2
   go_ret
   exact⟨AV (by rw[HL.out]),rfl⟩
end
section
open Go.RowKit
theorem disable(w:World):(callFunc 240 #[]).run Tryz.prog w=.ok (.value (.tuple #[])) w:=run_call_mark0 Tryz.func240 (by kernel_rfl) (by kernel_rfl) (by kernel_rfl) .disable (by kernel_rfl) w
theorem enable(w:World):(callFunc 242 #[]).run Tryz.prog w=.ok (.value (.tuple #[])) w:=run_call_mark0 Tryz.func242 (by kernel_rfl) (by kernel_rfl) (by kernel_rfl) .enable (by kernel_rfl) w
theorem acquire(a:Addr)(w:World):(callFunc 243 #[.pointer (some a)]).run Tryz.prog w=.ok (.value (.tuple #[])) w:=run_call_marked Tryz.func243 (by kernel_rfl) (by kernel_rfl) (by kernel_rfl) .acquire (by kernel_rfl) a w
theorem releaseMerge(a:Addr)(w:World):(callFunc 245 #[.pointer (some a)]).run Tryz.prog w=.ok (.value (.tuple #[])) w:=run_call_marked Tryz.func245 (by kernel_rfl) (by kernel_rfl) (by kernel_rfl) .releaseMerge (by kernel_rfl) a w
theorem q9k(a:Addr)(x:Value)(u:FrameMode)(w:World)(hc:w.cell? a=some x)(hz:w.frozen? a=false) :
  CallsD Tryz.prog 179 #[.pointer (some a),.bool true] u w fun e u' w'=>u'=u∧(e=.returned (.tuple #[])∧w'=w.drew.setCell a (.int .u32 1)):=by
 have hc':w.drew.cell? a=some x:=by go_simp
 have hz':w.drew.frozen? a=false:=by go_simp
 have hst:=run_call_store (P:=Tryz.prog) Tryz.func207 (by kernel_rfl) (by kernel_rfl) (by kernel_rfl) (by kernel_rfl) (k:=.u32) (y:=1) hc' hz'
 go_enter_d Tryz.func179,Tryz.ntmps179
 go_wp2
 go_region_calls
 all_goals (go_end0;exact⟨rfl,rfl⟩)
theorem q8e(a:Addr)(u:FrameMode)(w:World)(hc:w.cell? a=some (.int .i32 1))(hz:w.frozen? a=false) :
  CallsD Tryz.prog 178 #[.pointer (some a)] u w fun e u' w'=>u'=u∧(e=.returned (.tuple #[])∧w'=w.setCell a (.int .i32 0)):=by
 have hd:=disable
 have he:=enable
 have hr:=releaseMerge
 have hadd:=run_call_add (P:=Tryz.prog) Tryz.func246 (by kernel_rfl) (by kernel_rfl) (by kernel_rfl) .i32 (by kernel_rfl) (y:=-1) (s:=0) hc hz (by simp[go_sem];rfl)
 have hcv:=run_convert_to_unsafe (P:=Tryz.prog) (src:=316) (dst:=320) Tryz.underlying316 Tryz.underlying320 (by kernel_rfl) hc
 go_enter_d Tryz.func178,Tryz.ntmps178
 go_wp2
 go_end0
 go_wp2
 go_end0
 exact⟨rfl,rfl⟩
theorem qi5(a:Addr)(w:World)(hc:w.cell? a=some (.int .i32 0))(hz:w.frozen? a=false) :
  Calls Tryz.prog 177 #[.pointer (some a)] w fun e w'=>e=.returned (.tuple #[])∧w'=w.setCell a (.int .i32 1):=by
 have hd:=disable
 have he:=enable
 have ha:=acquire
 have hcas:=run_call_cas_hit (P:=Tryz.prog) Tryz.func241 (by kernel_rfl) (by kernel_rfl) (by kernel_rfl) .i32 (by kernel_rfl) (y:=1) hc hz
 have hc':(w.setCell a (.int .i32 1)).cell? a=some (.int .i32 1):=World.cell?_setCell_same w a _ hc
 have hcv:=run_convert_to_unsafe (P:=Tryz.prog) (src:=316) (dst:=320) Tryz.underlying316 Tryz.underlying320 (by kernel_rfl) hc'
 go_enter Tryz.func177,Tryz.ntmps177
 go_wp2
 first|go_end0 | (simp only [Exit.inBlock,Exit.then];refine bodyPost_ret (results_none rfl _ _ _) rfl ?_)|refine bodyPost_ret (results_none rfl _ _ _) rfl ?_
 go_wp2
 go_end0
 exact⟨rfl,rfl⟩
def YO(b off:Nat)(R:World→Prop)(e:Ending)(w':World):Prop :=
 e=.returned (.tuple #[])∧w'.cell? ⟨b,off,none⟩=some (.int .u32 0)∧w'.cell? ⟨b,off+1,none⟩=some (.int .i32 1)∧w'.frozen? ⟨b,off,none⟩=false∧w'.frozen? ⟨b,off+1,none⟩=false∧R w'
theorem qlc(b off:Nat)(fn:FuncId)(first:Array Value)(R:World→Prop)(w:World)(hfn:∀ W,(callFunc fn first).run Tryz.prog W=.ok (.enter fn first) W)
  (h0:w.cell? ⟨b,off,none⟩=some (.int .u32 0))(h1:w.cell? ⟨b,off+1,none⟩=some (.int .i32 0))
  (f1:w.frozen? ⟨b,off+1,none⟩=false)
  (hcb:Calls Tryz.prog fn first (w.setCell ⟨b,off+1,none⟩ (.int .i32 1)) (YO b off R)) :
  Calls Tryz.prog 149 #[.pointer (some ⟨b,off,none⟩),.func (.func fn) first #[]] w fun e w'=>e=.returned (.tuple #[]) ∧
   ∃ w1,R w1∧w'=(w1.drew.setCell ⟨b,off,none⟩ (.int .u32 1)).setCell ⟨b,off+1,none⟩ (.int .i32 0):=by
 have hl:=run_call_load (P:=Tryz.prog) Tryz.func176 (by kernel_rfl) (by kernel_rfl) (by kernel_rfl) .u32 (by kernel_rfl) (w:=w.setCell ⟨b,off+1,none⟩ (.int .i32 1)) (a:=⟨b,off,none⟩) (x:=0) ((World.cell?_setCell_other _ ⟨b,off+1,none⟩ ⟨b,off,none⟩ _ (by simp)).trans h0)
 have hnot:∀ (x:Bool) (w:World),(Op.unary .not (.bool x)).run Tryz.prog w=.ok (.bool (!x)) w:=fun _ _=>rfl
 have HC:=ah hcb
 clear hcb
 go_enter_defers Tryz.func149,Tryz.ntmps149
 go_wp2_with (go_at_call 177;refine (qi5 ⟨b,off+1,none⟩ _ (by go_simp) (by go_simp)).mono ?_;rintro e w' ⟨rfl,rfl⟩)
 go_wp2
 refine HC.out.mono ?_
 rintro e w1 ⟨rfl,c0,c1,g0,g1,hR⟩
 clear h0 h1 f1 hl HC
 go_wp2
 refine leaves_cons (f:=179) (args:=#[.pointer (some ⟨b,off,none⟩),.bool true]) (by simp) (by simp[go_sem]) ?_
 refine (q9k ⟨b,off,none⟩ (.int .u32 0) .returning _ c0 g0).mono ?_
 rintro e u' w'' ⟨rfl,rfl,rfl⟩
 refine leaves_cons (f:=178) (args:=#[.pointer (some ⟨b,off+1,none⟩)]) (by simp[settle]) (by simp[go_sem]) ?_
 refine (q8e ⟨b,off+1,none⟩ _ _ ?_ (by simp[g1])).mono ?_
 ·refine (World.cell?_setCell_other _ ⟨b,off,none⟩ ⟨b,off+1,none⟩ _ (by simp)).trans ?_
  rw[World.cell?_drew]
  exact c1
 rintro e u' w'' ⟨rfl,rfl,rfl⟩
 simp[Leaves,settle,results,Tryz.results149]
 exact⟨w1,hR,rfl⟩
theorem Qo(b off:Nat)(fn:FuncId)(first:Array Value)(R:World→Prop)(w:World)(hfn:∀ W,(callFunc fn first).run Tryz.prog W=.ok (.enter fn first) W)
  (h0:w.cell? ⟨b,off,none⟩=some (.int .u32 0))(h1:w.cell? ⟨b,off+1,none⟩=some (.int .i32 0))
  (f1:w.frozen? ⟨b,off+1,none⟩=false)
  (hcb:Calls Tryz.prog fn first (w.setCell ⟨b,off+1,none⟩ (.int .i32 1)) (YO b off R)) :
  Calls Tryz.prog 117 #[.pointer (some ⟨b,off,none⟩),.func (.func fn) first #[]] w fun e w'=>e=.returned (.tuple #[]) ∧
   ∃ w1,R w1∧w'=(w1.drew.setCell ⟨b,off,none⟩ (.int .u32 1)).setCell ⟨b,off+1,none⟩ (.int .i32 0):=by
 have hl:=run_call_load (P:=Tryz.prog) Tryz.func176 (by kernel_rfl) (by kernel_rfl) (by kernel_rfl) .u32 (by kernel_rfl) h0
 have hnot:∀ (x:Bool) (w:World),(Op.unary .not (.bool x)).run Tryz.prog w=.ok (.bool (!x)) w:=fun _ _=>rfl
 have HS:=ah (qlc b off fn first R w hfn h0 h1 f1 hcb)
 clear hcb hfn
 go_enter Tryz.func117,Tryz.ntmps117
 go_wp2_with (first | (go_at_call 149;refine HS.out.mono ?_;rintro e w' ⟨rfl,hR⟩) | (go_at_call 148;go_in))
 go_end0
 exact⟨rfl,hR⟩
theorem TK(a:Addr)(fv:Value)(w:World)(h0:w.cell? a=some (.int .u32 1)) :
  Calls Tryz.prog 117 #[.pointer (some a),fv] w fun e w'=>e=.returned (.tuple #[])∧w=w':=by
 have hl:=run_call_load (P:=Tryz.prog) Tryz.func176 (by kernel_rfl) (by kernel_rfl) (by kernel_rfl) .u32 (by kernel_rfl) h0
 have hnot:∀ (x:Bool) (w:World),(Op.unary .not (.bool x)).run Tryz.prog w=.ok (.bool (!x)) w:=fun _ _=>rfl
 go_enter Tryz.func117,Tryz.ntmps117
 go_wp2
 go_end0
 exact⟨rfl,rfl⟩
theorem yP(a:Addr)(x y:Int)(w:World)(hc:w.cell? a=some (.int .i64 x))(hz:w.frozen? a=false)(hb:-9223372036854775808≤x+y∧x+y≤9223372036854775807) :
  Calls Tryz.prog 292 #[.pointer (some a),.int .i64 y] w fun e w'=>e=.returned (.int .i64 (x+y))∧w'=w.setCell a (.int .i64 (x+y)):=by
 have hadd:=run_call_add (P:=Tryz.prog) Tryz.func306 (by kernel_rfl) (by kernel_rfl) (by kernel_rfl) .i64 (by kernel_rfl) (y:=y) (s:=x+y) hc hz (by simp[go_sem,IntWalk.i64_in _ hb])
 clear hb
 go_enter Tryz.func292,Tryz.ntmps292
 go_wp2
 go_ret
 exact⟨rfl,rfl⟩
end
section
open Go.RowKit
theorem pU:(Tryz.prog.info? 3).map (fun i=>(i.zero,i.size,i.bytes))=some (some (.int .i64 0),1,8):=by kernel_rfl
def ints(zs:List Int):List Value:=zs.map fun z=>Value.int .i64 z
def aF(B:Nat)(w:World)(v:Value)(zs:List Int):Prop:=w.ownsRow B 3 1 v zs.length (ints zs)
theorem aF.nil(B:Nat)(w:World):aF B w (.slice none 0 0) []:=World.ownsRow_nil _ _ _ _
theorem aF.sl{B:Nat}{w:World}{v:Value}{zs:List Int}(h:aF B w v zs):Sl .i64 w v zs:=Sl.lC h
theorem aF.keeps{B:Nat}{w w':World}{v:Value}{zs:List Int}{F:Nat→Prop}(h:aF B w v zs)(k:Keeps F w w')(hf:∀ b,v.ownBlock=some b→¬ F b):aF B w' v zs:=k.owns h hf
theorem aF.lt{B:Nat}{w:World}{v:Value}{zs:List Int}(h:aF B w v zs):∀ k,v.ownBlock=some k→B≤k∧k<w.heap.size:=World.ownsRow.lt h
theorem aF.alloc{B:Nat}{w:World}{v:Value}{zs:List Int}(h:aF B w v zs)(o:Obj):aF B (w.alloc o) v zs:=World.ownsRow.alloc h o
theorem aF.form{B:Nat}{w:World}{v:Value}{zs:List Int}(h:aF B w v zs):∃ a cap,v=.slice a zs.length cap∧zs.length≤cap∧cap≤9223372036854775807:=by
 obtain⟨a,cap,hv,h1,h2,_,_⟩:=h.sl
 exact⟨a,cap,hv,h1,h2⟩
theorem aF.mono{B B':Nat}{w:World}{v:Value}{zs:List Int}(h:aF B w v zs)(hB:∀ k,v.ownBlock=some k→B'≤k):aF B' w v zs:=by
 obtain⟨h1,h2⟩:=h
 refine⟨h1,?_⟩
 rcases h2 with h2|⟨g,cap,cur,rfl,hb,r⟩
 ·exact .inl h2
 ·exact .inr ⟨g,cap,cur,rfl,hB g rfl,r⟩
theorem qnc{ops:Array Oper}{rest:List Oper}{o:Oper}{a:Act}{Q:Exit→Act→World→Prop}{wr:World}(hgd:o.guard=none)(s x:Operand)
  (ho:o.op=.call { callee:=.builtin .append,args:=#[s,x],argTypes:=#[25,25] })(B:Nat)(v:Value)(zs:List Int)(z:Int)(H:Nat)(hH:wr.heap.size=H)(hs:a.eval s=v)(hx:a.eval x=.slice (some ⟨H,0,none⟩) 1 1)
  (hown:aF B wr v zs)(hlen:zs.length≤10000000000)(hB:B≤wr.heap.size)
  (h:∀ g cap w',aF B w' (.slice (some ⟨g,0,none⟩) (zs.length+1) cap) (zs ++ [z])→Keeps (fun k=>v.ownBlock=some k) wr w'→(v.ownBlock=some g∨wr.heap.size≤g)→B≤g →
   wpList Tryz.prog ops Q rest (a.put o.dst (.slice (some ⟨g,0,none⟩) (zs.length+1) cap)) w') :
  wpList Tryz.prog ops Q (o :: rest) a (wr.alloc (.cells #[.int .i64 z] 3)):=by
 obtain⟨i,hi,hz0,hz1,hz2⟩:=info_parts pU
 subst hH
 refine wpList_append_lies _ hgd s x _ ho B 3 i (.int .i64 0) 1 8 Tryz.underlying25 hi hz0 hz1 hz2 rfl (by decide) v zs.length _ hs (hown.alloc _) ⟨wr.heap.size,0,none⟩ 1 1 [.int .i64 z] hx rfl (cell_one_new _ _ _) ?_ (by decide) ?_ ?_ ?_ (wr.heap.size+1) (by simp) ?_
 ·intro u hu;simp at hu;subst hu;rfl
 ·unfold maxLen;omega
 ·omega
 ·simp;omega
 ·intro g cap w1 hown1 hgrow hat _
  refine h g cap w1 ?_ (((Keeps.refl _ wr).alloc _).grown hgrow (fun k hk=>.inl hk)) (hat.imp id (fun h=>by omega)) ?_
  ·unfold aF ints
   rw[List.length_append,List.map_append]
   exact hown1
  ·exact (hown1.lt g rfl).1
theorem Qp{ops:Array Oper}{rest:List Oper}{o:Oper}{a:Act}{Q:Exit→Act→World→Prop}{wr:World}(hgd:o.guard=none)(s x:Operand)
  (ho:o.op=.call { callee:=.builtin .append,args:=#[s,x],argTypes:=#[25,25] })(B:Nat)(v sv:Value)(zs ys:List Int)(hs:a.eval s=v)(hx:a.eval x=sv)
  (hown:aF B wr v zs)(hsl:Sl .i64 wr sv ys)(hlen:zs.length+ys.length≤10000000000)(hB:B≤wr.heap.size)
  (h:∀ v' w',aF B w' v' (zs ++ ys)→Keeps (fun k=>v.ownBlock=some k) wr w'→(v'.ownBlock=v.ownBlock∨∃ k,v'.ownBlock=some k∧wr.heap.size≤k)→wpList Tryz.prog ops Q rest (a.put o.dst v') w') :
  wpList Tryz.prog ops Q (o :: rest) a wr:=by
 obtain⟨i,hi,hz0,hz1,hz2⟩:=info_parts pU
 obtain⟨ad,cap,rfl,hnc,hcm,hnone,hc⟩:=hsl
 cases ad with
 | none =>
  have hy:ys=[]:=by
   cases ys with
   | nil=>rfl
   | cons y ys=>obtain⟨g,off,h,_⟩:=hc 0 y rfl;cases h
  subst hy
  have:=hnone rfl
  subst this
  refine wpList_append_own_none hgd s x _ ho B 3 i 1 Tryz.underlying25 hi v zs.length _ hs hown hx ?_
  exact h v wr (by simpa using hown) (Keeps.refl _ _) (.inl rfl)
 | some ad =>
  refine wpList_append_own_at _ hgd s x _ ho B 3 i (.int .i64 0) 1 8 Tryz.underlying25 hi hz0 hz1 hz2 rfl (by decide) v zs.length _ hs hown ad ys.length cap (ints ys) hx (by simp[ints]) ?_ ?_ ?_ ?_ hB ?_
  ·intro j u hj
   simp only [ints,List.getElem?_map,Option.map_eq_some_iff] at hj
   obtain⟨z,hz,rfl⟩:=hj
   obtain⟨g',off',hg,hcell⟩:=hc j z hz
   simp only [Option.some.injEq] at hg
   subst hg
   have hadd:(⟨g',off',none⟩:Addr).add j=⟨g',off'+j,none⟩:=by
    unfold Addr.add
    split <;> simp_all
   rw[hadd]
   exact hcell
  ·intro u hu
   simp only [ints,List.mem_map] at hu
   obtain⟨z,_,rfl⟩:=hu
   rfl
  ·unfold maxLen;omega
  ·omega
  ·intro v' w' hown' hgrow _ hat
   refine h v' w' ?_ ((Keeps.refl _ wr).grown hgrow (fun k hk=>.inl hk)) (hat.imp id (fun h=>⟨_,h,Nat.le_refl _⟩))
   unfold aF ints
   rw[List.length_append,List.map_append]
   exact hown'
end
section
open Go.RowKit
def aB(l:List Nat):List Int:=l.map fun x:Nat=>(x:Int)
end
