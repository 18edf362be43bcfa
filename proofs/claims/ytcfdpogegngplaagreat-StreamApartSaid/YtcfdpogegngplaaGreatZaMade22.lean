import Derived.Test.YtcfdpogegngplaaGreatZaEncW
import Derived.Test.YtcfdpogegngplaaGreatZaReadM
import Derived.Test.YtcfdpogegngplaaGreatZaDecF
import Derived.Test.YtcfdpogegngplaaGreatZaCode
import Derived.Test.YtcfdpogegngplaaGreatZaCat2
import Derived.Test.YtcfdpogegngplaaGreatZaPlane
import Derived.Test.YtcfdpogegngplaaGreatZaDecPl
set_option maxRecDepth 100000
set_option maxHeartbeats 4000000
namespace Go.Proofs.YtcfdpogegngplaaGreat
section
open Go.RowKit
theorem q36 {w:World} {b:Nat} {s:List Nat} {rt:Int} {ln:Nat} {R:Nat→Prop} (t p l:Bool) (h:MapAt w b s rt ln R) (hg:genS (q0b s ln)=0) (cd:List Nat→List Bool × Nat) (hC:qif t p l cd (kssM s rt)) (hB:sizeN ((kssM s rt).map cd)≤1000000) (hN:∀ k ∈ kssM s rt,(cd k).2≤1000000) :
  Calls Tryz.prog 17 #[.pointer (some ⟨b,0,none⟩),optV t p l] w fun e w'=>∃ v,e=.returned (.tuple #[v,.int .i64 0])∧OwnY w.heap.size w' v (fileN t p l ln ((kssM s rt).map cd) (labM s rt))∧(∃ R',MapAt w' b s rt ln R'∧∀ x,R' x→R x∨w.heap.size≤x)∧Keeps (fun k=>k=b) w w':=by
 have ka:=(Keeps.refl (fun _=>False) w).alloc (.cells #[.bool t,.bool p,.bool l] 35)
 have hE:=qig t p l (h.keeps ka (fun h=>h) (fun _ _ h=>h)) hg cd hC hB hN
 obtain⟨fs,hfs⟩:∃ fs,fs=fileN t p l ln ((kssM s rt).map cd) (labM s rt):=⟨_,rfl⟩
 obtain⟨sz,hsz⟩:∃ sz,sz=sizeN ((kssM s rt).map cd)+if l then (labM s rt).length else 0:=⟨_,rfl⟩
 rw[← hfs,← hsz] at hE
 rw[← hfs]
 have HA:=Lib.hid ka
 clear h ka hfs hsz hC hB hN hg
 unfold optV at hE ⊢
 go_enter Tryz.func17,Tryz.ntmps17
 go_wp2_with fail
 refine hE.mono ?_
 clear hE
 rintro e w1 ⟨v,rfl,hO,⟨R',hM,hR'⟩,hk⟩
 have HF:Hid (OwnY w.heap.size w1 v fs∧(∃ R',MapAt w1 b s rt ln R'∧∀ x,R' x→R x∨w.heap.size≤x)∧Keeps (fun k=>k=b) w w1):=Lib.hid ⟨hO.mono (fun q hq=>by have h1:=(hO.lt q hq).1;have:=HA.out.size;omega),⟨R',hM,fun x hx=>(hR' x hx).imp id (fun h=>by have:=HA.out.size;omega)⟩,(HA.out.mono (fun _ _ h=>h.elim):Keeps (fun k=>k=b) w _).trans hk (fun _ _ h=>h)⟩
 clear hO hk hM hR'
 go_wp2_with fail
 refine bodyPost_ret (v:=.tuple #[v,.int .i64 0]) (by simp[results,Tryz.results17,go_sem]) rfl ?_
 exact⟨v,rfl,HF.out⟩
def cdP (k:List Nat):List Bool × Nat:=(wbits k,k.length / 2)
theorem q45 (p l:Bool) {ks:List (List Nat)} (h:KsOk ks):qif false p l cdP ks:=fun k hk _ _ _ hM=>(qgm p l hM (h k hk).1 (h k hk).2).mono fun _ _ hx=>hx
theorem qa6 (p:Bool) (ks:List (List Nat)):q29 p (ks.map cdP)=q8m p (ks.map wbits):=by
 unfold q29 q8m
 rw[List.flatMap_map,List.flatMap_map]
 congr 1
 funext k
 unfold codeB cdP
 simp only
 rw[q1r,show 2 * k.length / 4=k.length / 2 by omega]
theorem q8s {k:List Nat} (h:WRight k) (hn:0<k.length) (hl:k.length≤131072):qfr okP (wbits k):=by
 have:=h.wd.even2
 refine⟨by rw[q1r];omega,by rw[q1r];omega,k,⟨h,rfl⟩,hn⟩
theorem qa7 {ks:List (List Nat)} (h:KsOk ks):catV (ks.map wbits)=catM (ks.map decL):=by
 unfold catV
 congr 1
 rw[List.map_map,List.map_map,]
 refine List.map_congr_left (fun k hk=>?_)
 simp only [Function.comp]
 rw[q25 k (h k hk).1.k4]
theorem qcj {ks:List (List Nat)} (h:KsOk ks):(ks.map wbits).map pairK=ks:=by
 rw[List.map_map]
 conv=>rhs;rw[← List.map_id ks]
 refine List.map_congr_left (fun k hk=>?_)
 simp only [Function.comp,id]
 rw[q25 k (h k hk).1.k4]
theorem KsOk.count:∀ {ks:List (List Nat)},KsOk ks→2 * ks.length≤ks.flatten.length
 | [],_=>by simp
 | k :: ks,h=>by
  have h1:=KsOk.count (ks:=ks) (fun x hx=>h x (by simp[hx]))
  have h2:=(h k (by simp)).1.wd.even2
  have h3:=(h k (by simp)).2
  rw[List.flatten_cons,List.length_append,List.length_cons]
  omega
theorem q46:∀ (ks:List (List Nat)),sizeN (ks.map cdP)=2 * ks.flatten.length
 | []=>rfl
 | k :: ks=>by
  have h1:=q46 ks
  have e:sizeN ((k :: ks).map cdP)=(wbits k).length+sizeN (ks.map cdP):=by simp[sizeN,cdP]
  rw[e,h1,q1r,List.flatten_cons,List.length_append]
  omega
theorem q3m {ks:List (List Nat)} {k:List Nat} (hk:k ∈ ks):k.length≤ks.flatten.length:=by
 induction ks with
 | nil=>cases hk
 | cons a ks ih =>
  rw[List.flatten_cons,List.length_append]
  rcases List.mem_cons.1 hk with rfl|h
  ·omega
  ·have:=ih h;omega
def filP (p l:Bool) (ln:Nat) (ks:List (List Nat)) (lab:List Bool):List Nat:=fileN false p l ln (ks.map cdP) lab
def bodP (p l:Bool) (ln:Nat) (ks:List (List Nat)) (lab:List Bool):List Nat:=bodyB p ln (ks.map wbits) ++ if l then octB lab else []
theorem qb4 (p l:Bool) (ln:Nat) (ks:List (List Nat)) (lab:List Bool):encN false p l ln (ks.map cdP) lab=80 :: 81 :: flN false p l :: bodP p l ln ks lab:=by
 unfold encN bodP bodyB
 rw[qa6,List.length_map,List.length_map]
 simp
theorem qj3 (p l:Bool) (ln:Nat) (ks:List (List Nat)) (lab:List Bool):∀ b ∈ bodP p l ln ks lab,b<256:=fun b hb=>by
 have:=qav false p l ln (ks.map cdP) lab b
 rw[qb4] at this
 exact this (by simp[hb])
section
variable (p l:Bool) (ln:Nat) (ks:List (List Nat)) (lab:List Bool)
theorem q3n:filP p l ln ks lab=(80 :: 81 :: flN false p l :: bodP p l ln ks lab) ++ four (crcV (80 :: 81 :: flN false p l :: bodP p l ln ks lab)):=by
 unfold filP fileN
 rw[qb4]
theorem q1n:(filP p l ln ks lab).length=(bodP p l ln ks lab).length+7:=by
 rw[q3n,List.length_append];simp[four]
theorem qj4:∀ b ∈ filP p l ln ks lab,b<256:=fun b hb=>by
 rw[q3n] at hb
 rcases List.mem_append.1 hb with h|h
 ·have:=qav false p l ln (ks.map cdP) lab b
  rw[qb4] at this
  exact this h
 ·exact qn3 _ b h
theorem qb5:ownF (filP p l ln ks lab)=80 :: 81 :: flN false p l :: bodP p l ln ks lab:=by
 unfold ownF
 rw[q1n,q3n,List.take_append_of_le_length (by simp)]
 exact List.take_of_length_le (by simp)
theorem qfv:(filP p l ln ks lab).drop ((filP p l ln ks lab).length - 4)=four (crcV (ownF (filP p l ln ks lab))):=by
 rw[qb5,q1n,q3n,List.drop_append_of_le_length (by simp)]
 rw[List.drop_of_length_le (by simp)]
 rfl
theorem q6p:headC (filP p l ln ks lab)=0:=by
 unfold headC
 have h1:=q1n p l ln ks lab
 have h2:(filP p l ln ks lab).take 2=[80,81]:=by rw[q3n];rfl
 have h3:(filP p l ln ks lab).getD 2 0=flN false p l:=by rw[q3n];rfl
 rw[if_neg (by rintro (h|h);omega;exact h h2),h3,if_neg (by have:=qiz false p l;omega)]
theorem q2m:headV (filP p l ln ks lab)=optV false p l:=by
 have h3:(filP p l ln ks lab).getD 2 0=flN false p l:=by rw[q3n];rfl
 unfold headV
 rw[if_pos (q6p p l ln ks lab),h3]
 obtain⟨e1,e2,e3⟩:=qfs false p l
 simp only [e1,e2,e3,optV]
end
theorem qck (p l:Bool) (ln:Nat) (ks:List (List Nat)) (lab:List Bool):2≤(bodP p l ln ks lab).length:=by
 have h1:=qir ln
 have h2:=qir (ks.map wbits).length
 unfold bodP bodyB
 rw[List.length_append,List.length_append,List.length_append]
 omega
theorem qb6 (p:Bool) (ln:Nat) (ks:List (List Nat)) (lab:List Bool) (hk:KsOk ks) (hf:ks.flatten.length≤131072) (hln:ln≤65536):(bodP p false ln ks lab).length≤1048596:=by
 have h1:=q0z (x:=ln) (by omega)
 have hc:=hk.count
 have h2:=q0z (x:=(ks.map wbits).length) (by rw[List.length_map];omega)
 have h3:=q5t p (ks.map cdP) (fun q hq=>by
  obtain⟨k,hk',rfl⟩:=List.mem_map.1 hq
  have:=q3m hk'
  show k.length / 2≤_
  omega)
 rw[qa6,q46,List.length_map] at h3
 unfold bodP bodyB
 simp only [Bool.false_eq_true,if_false,List.append_nil,List.length_append]
 omega
theorem q7v {t p l t' p' l':Bool} (h:optV t p l=optV t' p' l'):t=t'∧p=p'∧l=l':=by
 simpa [optV] using h
def CatAt (B0:Nat) (ks:List (List Nat)) (ln:Nat) (b:Nat) (W:World):Prop:=∃ R,MapAt W b (catM (ks.map decL)) (rt0 (catM (ks.map decL)).length) ln R∧(∀ x,R x→B0<x)∧B0<b
theorem qlk {ks:List (List Nat)} (h:KsOk ks):kssM (catM (ks.map decL)) (rt0 (catM (ks.map decL)).length)=ks:=by
 by_cases hn:ks=[]
 ·subst hn;rfl
 ·have h0:¬ (catM (ks.map decL)).length=0:=by
   rw[q0n]
   obtain⟨k,hk⟩:=List.exists_mem_of_ne_nil ks hn
   have:=q3m hk
   have:=(h k hk).2
   omega
  unfold kssM rt0
  rw[if_neg h0,if_neg h0]
  exact qmw h hn
theorem q6q (pv:Value) (p:Bool) (ks:List (List Nat)) (ln:Nat) (lim:Int) (w:World) (lab:List Bool) (hk:KsOk ks) (hf:ks.flatten.length≤131072) (hln:ln≤65536) (hp:Sl .u8 w pv (nats (filP p false ln ks lab))) (hlim:-9223372036854775808≤lim∧lim≤9223372036854775807) :
  Calls Tryz.prog 34 #[pv,.int .i64 lim] w (qar w (CatAt w.heap.size ks ln) (filP p false ln ks lab) (if max lim 0<(ks.flatten.length / 2:Nat) then 12 else 0)):=by
 obtain⟨cs,hcs⟩:∃ cs,cs=filP p false ln ks lab:=⟨_,rfl⟩
 have hlen:=q1n p false ln ks lab
 have hb2:=qck p false ln ks lab
 have hb3:=qb6 p ln ks lab hk hf hln
 have hcl:(catM (ks.map decL)).length=ks.flatten.length:=q0n ks
 have hC:decC cs lim true cs (ks.flatten.length / 2)=if max lim 0<(ks.flatten.length / 2:Nat) then 12 else 0:=by
  unfold decC
  rw[if_neg (by rw[hcs];omega),if_neg (by rw[hcs];omega),if_neg (by rw[hcs,q6p];simp),if_neg (by rw[hcs,qfv];simp),if_neg (by simp)]
 rw[← hC]
 rw[← hcs] at hp ⊢
 have hlt:∀ x ∈ cs,x<256:=by rw[hcs];exact qj4 p false ln ks lab
 refine q4s pv cs lim w (CatAt w.heap.size ks ln) true cs (ks.flatten.length / 2) hp hlt (by rw[hcs];omega) hlim hlt ?_ ?_ ?_ ?_
 ·rintro - b W W' ⟨R,hM,hR,hb⟩ hk'
  exact⟨R,hM.keeps hk' (fun h=>by omega) (fun x hx h=>by have:=hR x hx;omega),hR,hb⟩
 ·intro h9 t p' l hv W br pv' hW hbr hrd hob hsl
  rw[hcs,q2m] at hv
  obtain⟨rfl,rfl,rfl⟩:=q7v hv
  have hbw:=lt_of_block hrd
  have hbd:(ownF cs).drop 3=bodyB p ln (ks.map wbits):=by
   rw[hcs,qb5]
   show bodP p false ln ks lab=_
   simp[bodP]
  rw[hbd] at hsl
  have hbl:(bodyB p ln (ks.map wbits)).length=(bodP p false ln ks lab).length:=by simp[bodP]
  have hrb:=qa1 (plain:=p) (ok:=okP) (lone:=ln) (ls:=ks.map wbits) (fun v hv=>by
   obtain⟨k,hk',rfl⟩:=List.mem_map.1 hv
   have:=q3m hk'
   exact q8s (hk k hk').1 (hk k hk').2 (by omega)) hln (by rw[List.length_map];have:=hk.count;omega) []
  rw[List.append_nil] at hrb
  refine qag br p false pv' _ W (CatAt w.heap.size ks ln) true hrd (fun q hq=>⟨?_,fun e=>hob (by rw[hq,e])⟩) hsl (fun x hx=>?_) (by omega) (fun h=>by rw[hrb] at h;cases h) ?_
  ·obtain⟨a,cap,rfl,-,-⟩:=hsl.form
   obtain⟨y,hy⟩:∃ y,(bodyB p ln (ks.map wbits))[0]? = some y:=⟨_,List.getElem?_eq_getElem (by omega)⟩
   obtain⟨g,off,rfl,hcell⟩:=hsl.cellAt (j:=0) (z:=(y:Int)) (by simp[nats,hy])
   simp only [Value.ownBlock,Option.some.injEq] at hq
   subst hq
   exact World.block_lt_of_cell? _ _ hcell
  ·refine qj3 p false ln ks lab x ?_
   simpa [bodP] using hx
  ·intro lone vs rest h
   rw[hrb] at h
   simp only [Option.some.injEq,Prod.mk.injEq] at h
   obtain⟨rfl,rfl,rfl⟩:=h
   rw[qa7 hk,qcj hk]
   refine⟨hk,by omega,fun _=>⟨rfl,fun W' b R hM hR hb=>⟨R,hM,fun x hx=>by have:=hR x hx;omega,by omega⟩⟩,fun h=>by cases h⟩
 ·rintro - t p' l hv b W ⟨R,hM,hR,hb⟩ hbw
  rw[hcs,q2m] at hv
  obtain⟨rfl,rfl,rfl⟩:=q7v hv
  have hks:=qlk hk
  have hE:=q36 false p false hM ((q7o hk).2.2 ln) cdP (by rw[hks];exact q45 p false hk) (by rw[hks,q46];omega) (fun k hk'=>by
   rw[hks] at hk'
   have:=q3m hk'
   show k.length / 2≤_
   omega)
  rw[hks] at hE
  refine hE.mono ?_
  rintro e w' ⟨v,rfl,hO,⟨R',hM',hR'⟩,hkk⟩
  have hfe:fileN false p false ln (ks.map cdP) (labM (catM (ks.map decL)) (rt0 (catM (ks.map decL)).length))=cs:=by
   rw[hcs]
   unfold filP fileN encN
   simp
  rw[hfe] at hO
  refine⟨v,0,rfl,hO.sl,fun _=>⟨R',hM',fun x hx=>?_,hb⟩,hkk⟩
  rcases hR' x hx with h|h
  ·exact hR x h
  ·have:=hM.lt;omega
 ·rintro - - b W ⟨R,hM,hR,hb⟩
  have:=q28 hM
  rwa [hcl] at this
end
section
open Go.RowKit
structure PlaneS (s:List Nat) (rt:Int) (ln P:Nat):Prop where
 isP:IsP s.length (sg s)
 even:s.length % 2=0
 gen:genS (q0b s ln)=0
 rt:(s.length=0∧rt=-1)∨(0≤rt∧rt<s.length)
 ln:ln≤1
 len:s.length=2 * P
theorem PlaneS.of {k0:List Nat} {rt:Int} {ln P root:Nat} (h:Wd k0) (hl:k0.length=2 * P) (hrt:rt=if k0.length=0 then -1 else ((root % k0.length:Nat):Int)) (hln:ln=if k0.length=0 then 1 else 0):PlaneS (decL k0) rt ln P:=by
 have hd:=q03 k0
 by_cases h0:k0.length=0
 ·obtain rfl:k0=[]:=List.eq_nil_of_length_eq_zero h0
  rw[if_pos h0] at hrt hln
  subst hrt hln
  exact⟨q5n _,rfl,(q7o (l:=[]) (fun k hk=>by cases hk)).2.2 1,.inl ⟨rfl,rfl⟩,by omega,by rw[hd];exact hl⟩
 ·rw[if_neg h0] at hrt hln
  subst hln
  have hm:=Nat.mod_lt root (show 0<k0.length by omega)
  exact⟨h.decL_isP,by rw[hd];exact h.even2,(h.dec_plane1 (by omega)).2,.inr (by rw[hrt,hd];omega),by omega,by rw[hd];exact hl⟩
def qfw (w:World) (P:Nat) (p l:Bool) (e:Ending) (w':World):Prop :=
 ∃ v s rt ln,e=.returned v∧PlaneS s rt ln P∧OwnY w.heap.size w' v (filP p l ln (kssM s rt) (labM s rt))∧Keeps (fun _=>False) w w'
theorem PlaneS.ks {s:List Nat} {rt:Int} {ln P:Nat} (h:PlaneS s rt ln P):KsOk (kssM s rt)∧(kssM s rt).flatten.length=2 * P:=by
 obtain⟨h1,h2,-⟩:=qaw h.isP h.even h.gen h.rt
 exact⟨h1,by rw[h2,h.len]⟩
theorem qj5 (p l:Bool) (ln:Nat) (ks:List (List Nat)) (lab:List Bool):(filP p l ln ks lab)[0]? = some 80:=by rw[q3n];rfl
theorem qll (p l:Bool) (ln:Nat) (ks:List (List Nat)) (lab:List Bool):(filP p l ln ks lab).set 0 80=filP p l ln ks lab:=by rw[q3n,List.cons_append,List.set_cons_zero]
theorem qa8 (a o x2 x4:Nat) (pv rv:Value) (ps:List Nat) (p l:Bool) (w:World) (ha:a<256) (hp:Sl .u8 w pv (nats ps)) (hps:∀ x ∈ ps,x<256)
  (o2:bits .and .u8 (o:Int) 2=(x2:Int)) (o4:bits .and .u8 (o:Int) 4=(x4:Int)) (o8:bits .and .u8 (o:Int) 8=0) (t2:decide (0<x2)=p) (t4:decide (0<x4)=l) :
  Calls Tryz.prog 41 #[.int .u8 a,pv,.int .u8 o,rv,.int .u8 0,.int .u8 0] w (qfw w (a % 30) p l):=by
 have hnot:∀ (x:Bool) (w:World),(Op.unary .not (.bool x)).run Tryz.prog w=.ok (.bool (!x)) w:=fun _ _=>rfl
 have hP:=q9j pv ps (a % 30) 0 w hp hps (by omega) (by omega)
 obtain⟨P,hPP⟩:∃ P,P=a % 30:=⟨_,rfl⟩
 have e1:(a:Int) % 30=(P:Int):=by omega
 have e2:(a:Int).tmod 30=(P:Int):=by rw[Int.tmod_eq_emod_of_nonneg (by omega)];exact e1
 have hP30:P<30:=by omega
 have e3:IntKind.i64.wrap (P:Int)=(P:Int):=IntWalk.i64_in _ (by omega)
 rw[← hPP] at hP ⊢
 have hx:bits .xor .u8 80 0=80:=by decide
 clear hp hps hPP
 go_enter Tryz.func41,Tryz.ntmps41
 go_wp2_with fail
 refine hP.mono ?_
 rintro e w2 ⟨sv,k0,rfl,hW0,hl0,hsv,hk2⟩
 clear hP
 have hdl:=q03 k0
 obtain⟨ln,hln,hln2⟩:∃ ln:Nat,(if k0.length=0 then (1:Int) else 0)=(ln:Int)∧ln=if k0.length=0 then 1 else 0:=by
  by_cases h:k0.length=0
  ·exact⟨1,by rw[if_pos h];rfl,by rw[if_pos h]⟩
  ·exact⟨0,by rw[if_neg h];rfl,by rw[if_neg h]⟩
 obtain⟨rt,hrt⟩:∃ rt:Int,rt=if k0.length=0 then -1 else ((0 % k0.length:Nat):Int):=⟨_,rfl⟩
 rw[hln,← hrt]
 have HPl:=Lib.hid (PlaneS.of hW0 hl0 hrt hln2)
 obtain⟨s,hs⟩:∃ s,s=decL k0:=⟨_,rfl⟩
 rw[← hs] at HPl hsv
 have ka:=(Keeps.refl (fun _=>False) w2).alloc (.cells #[sv,.int .i64 rt,.int .i64 ln] 27)
 have hbx:=heap_alloc_new w2 (.cells #[sv,.int .i64 rt,.int .i64 ln] 27)
 have hsv2:=hsv.keeps ka (fun _ _ h=>h)
 have hNw:=qdq (rt:=rt) (ln:=ln) hsv2.sl HPl.out.isP HPl.out.even (by have:=HPl.out.len;omega) (by have:=HPl.out.ln;omega) (by
  rcases HPl.out.rt with h|h
  ·exact .inl h
  ·exact .inr ⟨rt.toNat,by omega,by omega⟩)
 have c0:=World.cell_of_heap hbx 0
 have c1:=World.cell_of_heap hbx 1
 have c2:=World.cell_of_heap hbx 2
 obtain⟨sa,sc,hsvf,_,_⟩:=hsv.form
 have HX:=Lib.hid (hk2.trans ka (fun _ _ h=>h))
 clear hk2 hsv hsv2 ka hbx hl0 hW0 hln hln2 hrt hdl
 obtain⟨N,hN⟩:∃ N,N=(nats s).length:=⟨_,rfl⟩
 rw[← hN] at hsvf
 clear hs hN
 subst hsvf
 unfold mapV
 go_wp2_with fail
 refine hNw.mono ?_
 clear hNw
 rintro e w3 ⟨b,rfl,hA,hb,hk3⟩
 obtain⟨hks,hfl⟩:=HPl.out.ks
 have hE:=q36 false p l hA HPl.out.gen cdP (q45 p l hks) (by rw[q46];omega) (fun k hk'=>by
  have:=q3m hk'
  show k.length / 2≤_
  omega)
 have HN:=Lib.hid (And.intro (HX.out.trans hk3 (fun _ _ h=>h)) (show w.heap.size≤b by have:=HX.out.size;omega))
 obtain⟨fs,hfs⟩:∃ fs,fs=fileN false p l ln ((kssM s rt).map cdP) (labM s rt):=⟨_,rfl⟩
 rw[← hfs] at hE
 have hf2:fs=filP p l ln (kssM s rt) (labM s rt):=hfs
 have h0:fs[0]? = some 80:=by rw[hf2];exact qj5 _ _ _ _ _
 have hst:fs.set 0 80=fs:=by rw[hf2];exact qll _ _ _ _ _
 have hpos:0<fs.length:=q01 h0
 have HF:=Lib.hid (And.intro hf2 (And.intro h0 hst))
 clear hA hb hk3 hks hfl hfs hf2 h0 hst
 unfold optV at hE
 go_wp2_with fail
 refine hE.mono ?_
 clear hE
 rintro e w4 ⟨v,rfl,hO,-,hk4⟩
 have hk04:=HN.out.1.trans hk4 (fun x hx e=>by have:=HN.out.2;omega)
 obtain⟨g,vc,rfl,hgB,hgs⟩:=hO.row hpos
 obtain⟨hcell,hfr⟩:=hO.cell HF.out.2.1
 have hO5:=hO.set 0 80
 rw[HF.out.2.2] at hO5
 have hO6:OwnY w.heap.size (w4.setCell ⟨g,0,none⟩ (.int .u8 80)) (.slice (some ⟨g,0,none⟩) fs.length vc) fs:=hO5.mono (fun q hq=>by have:=(hO5.lt q hq).1;have:=HN.out.1.size;omega)
 have HG:Hid (qfw w P p l (.returned (.slice (some ⟨g,0,none⟩) fs.length vc)) (w4.setCell ⟨g,0,none⟩ (.int .u8 80))):=Lib.hid ⟨_,s,rt,ln,rfl,HPl.out,by rw[← HF.out.1];exact hO6,hk04.setCell (p:=⟨g,0,none⟩) (.inr (by have:=HN.out.1.size;show w.heap.size≤g;omega)) _⟩
 clear hO hO5 hO6 hk04 hk4
 generalize fs.length=n at *
 have hn0:¬ n=0:=by omega
 have hn1:decide (0<n)=true:=decide_eq_true hpos
 go_wp2_with fail
 refine bodyPost_ret (v:=.slice (some ⟨g,0,none⟩) n vc) (by simp[results,Tryz.results41,go_sem]) rfl ?_
 exact HG.out
end
end Go.Proofs.YtcfdpogegngplaaGreat
