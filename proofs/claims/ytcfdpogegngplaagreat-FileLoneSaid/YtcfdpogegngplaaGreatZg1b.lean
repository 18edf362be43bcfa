import Derived.Test.YtcfdpogegngplaaGreatZg19
set_option maxRecDepth 100000
set_option maxHeartbeats 4000000
namespace Go.Proofs.YtcfdpogegngplaaGreat
open Go.RowKit
theorem Tq{w:World}{b:Nat}{s:List Nat}{rt:Int}{ln:Nat}{R:Nat→Prop}(t p l:Bool)(h:MapAt w b s rt ln R)(hg:dn (iC s ln)=0)(cd:List Nat→List Bool × Nat)(hC:XP t p l cd (bA s rt))(hB:dA ((bA s rt).map cd)≤1000000)(hN:∀ k ∈ bA s rt,(cd k).2≤1000000) :
  Calls Tryz.prog 17 #[.pointer (some ⟨b,0,none⟩),cu t p l] w fun e w'=>∃ v,e=.returned (.tuple #[v,.int .i64 0])∧bB w.heap.size w' v (jw t p l ln ((bA s rt).map cd) (gU s rt))∧(∃ R',MapAt w' b s rt ln R'∧∀ x,R' x→R x∨w.heap.size≤x)∧Keeps (fun k=>k=b) w w':=by
 have ka:=(Keeps.refl (fun _=>False) w).alloc (.cells #[.bool t,.bool p,.bool l] 35)
 have hE:=qkv t p l (h.keeps ka (fun h=>h) (fun _ _ h=>h)) hg cd hC hB hN
 obtain⟨fs,hfs⟩:∃ fs,fs=jw t p l ln ((bA s rt).map cd) (gU s rt):=⟨_,rfl⟩
 obtain⟨sz,hsz⟩:∃ sz,sz=dA ((bA s rt).map cd)+if l then (gU s rt).length else 0:=⟨_,rfl⟩
 rw[← hfs,← hsz] at hE
 rw[← hfs]
 have HA:=ah ka
 clear h ka hfs hsz hC hB hN hg
 unfold cu at hE ⊢
 go_enter Tryz.func17,Tryz.ntmps17
 go_wp2_with fail
 refine hE.mono ?_
 clear hE
 rintro e w1 ⟨v,rfl,hO,⟨R',hM,hR'⟩,hk⟩
 have HF:Hid (bB w.heap.size w1 v fs∧(∃ R',MapAt w1 b s rt ln R'∧∀ x,R' x→R x∨w.heap.size≤x)∧Keeps (fun k=>k=b) w w1):=ah ⟨hO.mono (fun q hq=>by have h1:=(hO.lt q hq).1;have:=HA.out.size;omega),⟨R',hM,fun x hx=>(hR' x hx).imp id (fun h=>by have:=HA.out.size;omega)⟩,(HA.out.mono (fun _ _ h=>h.elim):Keeps (fun k=>k=b) w _).trans hk (fun _ _ h=>h)⟩
 clear hO hk hM hR'
 go_wp2_with fail
 refine bodyPost_ret (v:=.tuple #[v,.int .i64 0]) (by simp[results,Tryz.results17,go_sem]) rfl ?_
 exact⟨v,rfl,HF.out⟩
def qA(k:List Nat):List Bool × Nat:=(bP k,k.length / 2)
theorem Tt(p l:Bool){ks:List (List Nat)}(h:eD ks):XP false p l qA ks:=fun k hk _ _ _ hM=>(qhg p l hM (h k hk).1 (h k hk).2).mono fun _ _ hx=>hx
theorem qan(p:Bool)(ks:List (List Nat)):tV p (ks.map qA)=DJ p (ks.map bP):=by
 unfold tV DJ
 rw[List.flatMap_map,List.flatMap_map]
 congr 1
 funext k
 unfold mX qA
 simp only
 rw[J6,show 2 * k.length / 4=k.length / 2 by omega]
theorem q9h{k:List Nat}(h:bZ k)(hn:0<k.length)(hl:k.length≤131072):SK nD (bP k):=by
 have:=h.wd.jJ
 refine⟨by rw[J6];omega,by rw[J6];omega,k,⟨h,rfl⟩,hn⟩
theorem qao{ks:List (List Nat)}(h:eD ks):iM (ks.map bP)=bH (ks.map aG):=by
 unfold iM
 congr 1
 rw[List.map_map,List.map_map,]
 refine List.map_congr_left (fun k hk=>?_)
 simp only [Function.comp]
 rw[J7 k (h k hk).1.k4]
theorem qe0{ks:List (List Nat)}(h:eD ks):(ks.map bP).map bX=ks:=by
 rw[List.map_map]
 conv=>rhs;rw[← List.map_id ks]
 refine List.map_congr_left (fun k hk=>?_)
 simp only [Function.comp,id]
 rw[J7 k (h k hk).1.k4]
theorem eD.count:∀ {ks:List (List Nat)},eD ks→2 * ks.length≤ks.flatten.length
 | [],_=>by simp
 | k :: ks,h=>by
  have h1:=eD.count (ks:=ks) (fun x hx=>h x (by simp[hx]))
  have h2:=(h k (by simp)).1.wd.jJ
  have h3:=(h k (by simp)).2
  rw[List.flatten_cons,List.length_append,List.length_cons]
  omega
theorem KF:∀ (ks:List (List Nat)),dA (ks.map qA)=2 * ks.flatten.length
 | []=>rfl
 | k :: ks=>by
  have h1:=KF ks
  have e:dA ((k :: ks).map qA)=(bP k).length+dA (ks.map qA):=by simp[dA,qA]
  rw[e,h1,J6,List.flatten_cons,List.length_append]
  omega
theorem q3z{ks:List (List Nat)}{k:List Nat}(hk:k ∈ ks):k.length≤ks.flatten.length:=by
 induction ks with
 | nil=>cases hk
 | cons a ks ih =>
  rw[List.flatten_cons,List.length_append]
  rcases List.mem_cons.1 hk with rfl|h
  ·omega
  ·have:=ih h;omega
def iN(p l:Bool)(ln:Nat)(ks:List (List Nat))(lab:List Bool):List Nat:=jw false p l ln (ks.map qA) lab
def iA(p l:Bool)(ln:Nat)(ks:List (List Nat))(lab:List Bool):List Nat:=ku p ln (ks.map bP) ++ if l then bI lab else []
theorem Yn(p l:Bool)(ln:Nat)(ks:List (List Nat))(lab:List Bool):oN false p l ln (ks.map qA) lab=80 :: 81 :: lU false p l :: iA p l ln ks lab:=by
 unfold oN iA ku
 rw[qan,List.length_map,List.length_map]
 simp
theorem qky(p l:Bool)(ln:Nat)(ks:List (List Nat))(lab:List Bool):∀ b ∈ iA p l ln ks lab,b<256:=fun b hb=>by
 have:=SN false p l ln (ks.map qA) lab b
 rw[Yn] at this
 exact this (by simp[hb])
section
variable (p l:Bool) (ln:Nat) (ks:List (List Nat)) (lab:List Bool)
theorem FK:iN p l ln ks lab=(80 :: 81 :: lU false p l :: iA p l ln ks lab) ++ four (iW (80 :: 81 :: lU false p l :: iA p l ln ks lab)):=by
 unfold iN jw
 rw[Yn]
theorem Jo:(iN p l ln ks lab).length=(iA p l ln ks lab).length+7:=by
 rw[FK,List.length_append];simp[four]
theorem qkz:∀ b ∈ iN p l ln ks lab,b<256:=fun b hb=>by
 rw[FK] at hb
 rcases List.mem_append.1 hb with h|h
 ·have:=SN false p l ln (ks.map qA) lab b
  rw[Yn] at this
  exact this h
 ·exact qoa _ b h
theorem Yo:jR (iN p l ln ks lab)=80 :: 81 :: lU false p l :: iA p l ln ks lab:=by
 unfold jR
 rw[Jo,FK,List.take_append_of_le_length (by simp)]
 exact List.take_of_length_le (by simp)
theorem qgp:(iN p l ln ks lab).drop ((iN p l ln ks lab).length - 4)=four (iW (jR (iN p l ln ks lab))):=by
 rw[Yo,Jo,FK,List.drop_append_of_le_length (by simp)]
 rw[List.drop_of_length_le (by simp)]
 rfl
theorem Yp:gK (iN p l ln ks lab)=0:=by
 unfold gK
 have h1:=Jo p l ln ks lab
 have h2:(iN p l ln ks lab).take 2=[80,81]:=by rw[FK];rfl
 have h3:(iN p l ln ks lab).getD 2 0=lU false p l:=by rw[FK];rfl
 rw[if_neg (by rintro (h|h);omega;exact h h2),h3,if_neg (by have:=Xc false p l;omega)]
theorem KG:iF (iN p l ln ks lab)=cu false p l:=by
 have h3:(iN p l ln ks lab).getD 2 0=lU false p l:=by rw[FK];rfl
 unfold iF
 rw[if_pos (Yp p l ln ks lab),h3]
 obtain⟨e1,e2,e3⟩:=qge false p l
 simp only [e1,e2,e3,cu]
end
theorem qe1(p l:Bool)(ln:Nat)(ks:List (List Nat))(lab:List Bool):2≤(iA p l ln ks lab).length:=by
 have h1:=qkk ln
 have h2:=qkk (ks.map bP).length
 unfold iA ku
 rw[List.length_append,List.length_append,List.length_append]
 omega
theorem qgq(p:Bool)(ln:Nat)(ks:List (List Nat))(lab:List Bool)(hk:eD ks)(hf:ks.flatten.length≤131072)(hln:ln≤65536):(iA p false ln ks lab).length≤1048596:=by
 have h1:=xU (x:=ln) (by omega)
 have hc:=hk.count
 have h2:=xU (x:=(ks.map bP).length) (by rw[List.length_map];omega)
 have h3:=SL p (ks.map qA) (fun q hq=>by
  obtain⟨k,hk',rfl⟩:=List.mem_map.1 hq
  have:=q3z hk'
  show k.length / 2≤_
  omega)
 rw[qan,KF,List.length_map] at h3
 unfold iA ku
 simp only [Bool.false_eq_true,if_false,List.append_nil,List.length_append]
 omega
theorem Tv{t p l t' p' l':Bool}(h:cu t p l=cu t' p' l'):t=t'∧p=p'∧l=l':=by
 simpa [cu] using h
def AQ(B0:Nat)(ks:List (List Nat))(ln:Nat)(b:Nat)(W:World):Prop:=∃ R,MapAt W b (bH (ks.map aG)) (rG (bH (ks.map aG)).length) ln R∧(∀ x,R x→B0<x)∧B0<b
theorem qmt{ks:List (List Nat)}(h:eD ks):bA (bH (ks.map aG)) (rG (bH (ks.map aG)).length)=ks:=by
 by_cases hn:ks=[]
 ·subst hn;rfl
 ·have h0:¬ (bH (ks.map aG)).length=0:=by
   rw[Dw]
   obtain⟨k,hk⟩:=List.exists_mem_of_ne_nil ks hn
   have:=q3z hk
   have:=(h k hk).2
   omega
  unfold bA rG
  rw[if_neg h0,if_neg h0]
  exact qo2 h hn
theorem q75(pv:Value)(p:Bool)(ks:List (List Nat))(ln:Nat)(lim:Int)(w:World)(lab:List Bool)(hk:eD ks)(hf:ks.flatten.length≤131072)(hln:ln≤65536)(hp:Sl .u8 w pv (aB (iN p false ln ks lab)))(hlim:-9223372036854775808≤lim∧lim≤9223372036854775807) :
  Calls Tryz.prog 34 #[pv,.int .i64 lim] w (Yi w (AQ w.heap.size ks ln) (iN p false ln ks lab) (if max lim 0<(ks.flatten.length / 2:Nat) then 12 else 0)):=by
 obtain⟨cs,hcs⟩:∃ cs,cs=iN p false ln ks lab:=⟨_,rfl⟩
 have hlen:=Jo p false ln ks lab
 have hb2:=qe1 p false ln ks lab
 have hb3:=qgq p ln ks lab hk hf hln
 have hcl:(bH (ks.map aG)).length=ks.flatten.length:=Dw ks
 have hC:nE cs lim true cs (ks.flatten.length / 2)=if max lim 0<(ks.flatten.length / 2:Nat) then 12 else 0:=by
  unfold nE
  rw[if_neg (by rw[hcs];omega),if_neg (by rw[hcs];omega),if_neg (by rw[hcs,Yp];simp),if_neg (by rw[hcs,qgp];simp),if_neg (by simp)]
 rw[← hC]
 rw[← hcs] at hp ⊢
 have hlt:∀ x ∈ cs,x<256:=by rw[hcs];exact qkz p false ln ks lab
 refine q51 pv cs lim w (AQ w.heap.size ks ln) true cs (ks.flatten.length / 2) hp hlt (by rw[hcs];omega) hlim hlt ?_ ?_ ?_ ?_
 ·rintro - b W W' ⟨R,hM,hR,hb⟩ hk'
  exact⟨R,hM.keeps hk' (fun h=>by omega) (fun x hx h=>by have:=hR x hx;omega),hR,hb⟩
 ·intro h9 t p' l hv W br pv' hW hbr hrd kI hsl
  rw[hcs,KG] at hv
  obtain⟨rfl,rfl,rfl⟩:=Tv hv
  have hbw:=lt_of_block hrd
  have hbd:(jR cs).drop 3=ku p ln (ks.map bP):=by
   rw[hcs,Yo]
   show iA p false ln ks lab=_
   simp[iA]
  rw[hbd] at hsl
  have hbl:(ku p ln (ks.map bP)).length=(iA p false ln ks lab).length:=by simp[iA]
  have hrb:=qaj (plain:=p) (ok:=nD) (lone:=ln) (ls:=ks.map bP) (fun v hv=>by
   obtain⟨k,hk',rfl⟩:=List.mem_map.1 hv
   have:=q3z hk'
   exact q9h (hk k hk').1 (hk k hk').2 (by omega)) hln (by rw[List.length_map];have:=hk.count;omega) []
  rw[List.append_nil] at hrb
  refine qam br p false pv' _ W (AQ w.heap.size ks ln) true hrd (fun q hq=>⟨?_,fun e=>kI (by rw[hq,e])⟩) hsl (fun x hx=>?_) (by omega) (fun h=>by rw[hrb] at h;cases h) ?_
  ·obtain⟨a,cap,rfl,-,-⟩:=hsl.form
   obtain⟨y,hy⟩:∃ y,(ku p ln (ks.map bP))[0]? = some y:=⟨_,List.getElem?_eq_getElem (by omega)⟩
   obtain⟨g,off,rfl,hcell⟩:=hsl.cellAt (j:=0) (z:=(y:Int)) (by simp[aB,hy])
   simp only [Value.ownBlock,Option.some.injEq] at hq
   subst hq
   exact World.block_lt_of_cell? _ _ hcell
  ·refine qky p false ln ks lab x ?_
   simpa [iA] using hx
  ·intro lone vs rest h
   rw[hrb] at h
   simp only [Option.some.injEq,Prod.mk.injEq] at h
   obtain⟨rfl,rfl,rfl⟩:=h
   rw[qao hk,qe0 hk]
   refine⟨hk,by omega,fun _=>⟨rfl,fun W' b R hM hR hb=>⟨R,hM,fun x hx=>by have:=hR x hx;omega,by omega⟩⟩,fun h=>by cases h⟩
 ·rintro - t p' l hv b W ⟨R,hM,hR,hb⟩ hbw
  rw[hcs,KG] at hv
  obtain⟨rfl,rfl,rfl⟩:=Tv hv
  have hks:=qmt hk
  have hE:=Tq false p false hM ((WM hk).2.2 ln) qA (by rw[hks];exact Tt p false hk) (by rw[hks,KF];omega) (fun k hk'=>by
   rw[hks] at hk'
   have:=q3z hk'
   show k.length / 2≤_
   omega)
  rw[hks] at hE
  refine hE.mono ?_
  rintro e w' ⟨v,rfl,hO,⟨R',hM',hR'⟩,hkk⟩
  have hfe:jw false p false ln (ks.map qA) (gU (bH (ks.map aG)) (rG (bH (ks.map aG)).length))=cs:=by
   rw[hcs]
   unfold iN jw oN
   simp
  rw[hfe] at hO
  refine⟨v,0,rfl,hO.sl,fun _=>⟨R',hM',fun x hx=>?_,hb⟩,hkk⟩
  rcases hR' x hx with h|h
  ·exact hR x h
  ·have:=hM.lt;omega
 ·rintro - - b W ⟨R,hM,hR,hb⟩
  have:=Hz hM
  rwa [hcl] at this
