import Derived.Test.YtcfdpogegngplaaGreatZg1f
import Derived.Test.YtcfdpogegngplaaGreatZg1b
set_option maxRecDepth 100000
set_option maxHeartbeats 4000000
namespace Go.Proofs.YtcfdpogegngplaaGreat
section
open Go.RowKit
def Yy(w:World)(b:Nat)(s:List Nat)(rt ln:Int)(R:Nat→Prop)(e:Ending)(w':World):Prop :=
 ∃ b2 R2,e=.returned (.tuple #[.pointer (some ⟨b2,0,none⟩),.int .i64 0])∧MapAt w' b2 s rt ln R2∧(∀ x,R2 x→R x∨w.heap.size≤x)∧(b2=b∨w.heap.size≤b2)∧Keeps (fun k=>k=b) w w'
theorem q9y{w:World}{br b:Nat}{p:Bool}{pv sv:Value}{s:List Nat}{rt:Int}{ln:Nat}{R:Nat→Prop}(hR:kL w br false p true pv sv true)(hP:aM s.length (sg s))(he:s.length % 2=0)(hle:s.length≤131072)(hg:dn (iC s ln)=0)(hrt:(s.length=0∧rt=-1)∨(0≤rt∧rt<s.length))
  (hc:MapAt w b (bH ((bA s rt).map aG)) (rG s.length) ln R)(hp:Sl .u8 w pv (aB (bI (gU s rt)))) :
  Calls Tryz.prog 124 #[.pointer (some ⟨br,0,none⟩),.pointer (some ⟨b,0,none⟩)] w (Yy w b s rt ln R):=by
 have hnot:∀ (x:Bool) (w:World),(Op.unary .not (.bool x)).run Tryz.prog w=.ok (.bool (!x)) w:=fun _ _=>rfl
 obtain⟨hok,hfl,hnl,rW,hnm,hnt,hn0⟩:=SQ hP he hg hrt
 have hcl:(bH ((bA s rt).map aG)).length=s.length:=by rw[Dw,hfl]
 obtain⟨E,hE⟩:∃ E,E=s.length / 2:=⟨_,rfl⟩
 have Yz:s.length=2 * E:=by omega
 obtain⟨Q,hQ⟩:∃ Q,Q=jO (iy s rt):=⟨_,rfl⟩
 have OY:Q.length=2 * E:=by rw[hQ];simp[jO,hnl,Yz]
 have hsg:∀ d,d<s.length→sg Q d=gQ (sg (iy s rt)) d:=fun d hd=>by rw[hQ];exact SV (by omega)
 have YA:aM Q.length (sg Q):=by
  have e:Q.length=s.length:=by omega
  rw[e]
  refine⟨fun d hd=>by rw[hsg d hd];exact rW.bC hd,fun d f hd hf h=>?_⟩
  rw[hsg d hd,hsg f hf] at h
  rw[← rW.bS hd,← rW.bS hf,h]
 have YB:∀ d,d<Q.length→sg Q (mt d)=mt (sg Q d):=fun d hd=>by
  have hd':d<s.length:=by omega
  rw[hsg _ (aU he hd'),hsg d hd',qgo rW he hnm hd']
 have hlab:gU s rt=iY E (fun e=>sg Q (2 * e)) E:=by unfold gU;rw[← hQ,← hE]
 have PY:∀ d,d<s.length→sg s (sg Q d)=sg Q (sg (bH ((bA s rt).map aG)) d):=fun d hd=>by
  have h1:=rW.bC hd
  have h2:=hnt _ h1
  rw[rW.bS hd] at h2
  rw[hsg d hd,h2,hsg _ (rW.lt _ (hP.lt _ h1)),rW.inv_of (hP.lt _ h1)]
 have hQ0:0<s.length→((sg Q 0:Nat):Int)=rt:=fun h=>by
  have h1:0≤rt∧rt<s.length:=by rcases hrt with h' | h' <;> omega
  have h2:=rW.inv_of (d:=rt.toNat) (by omega)
  rw[hn0 h] at h2
  rw[hsg 0 h,h2]
  omega
 have Ao:E≤65536:=by omega
 have hll:=qgr (f:=fun e=>sg Q (2 * e)) Ao
 have hlen:=BG E (fun e=>sg Q (2 * e)) E
 rw[hlab] at hp
 obtain⟨lab,hlb⟩:∃ lab,lab=iY E (fun e=>sg Q (2 * e)) E:=⟨_,rfl⟩
 rw[← hlb] at hp hll hlen
 obtain⟨S,hS⟩:∃ S,S=E * (dN E+1):=⟨_,rfl⟩
 have hSz:=fun W=>q98 E W Ao
 rw[← hS] at hSz hlen
 have BF:∀ W,Keeps (fun _=>False) w W→Calls Tryz.prog 155 #[pv,.int .i64 S] W fun e w'=>∃ bv vv,e=.returned (.tuple #[.pointer (some ⟨bv,0,none⟩),.int .i64 0])∧aK w' bv vv lab∧Keeps (fun _=>False) W w':=fun W hW=>by
  refine (q7o pv (bI lab) S W (hp.keeps hW (fun _ _ h=>h)) (fun x hx=>SI _ _ hx) (by rw[uS];omega) (by omega)).mono ?_
  rintro e w' h
  rw[← hlen,qmo,qgl] at h
  rcases h with⟨-,bv,rfl,vv,hV,-,-,hk⟩|⟨h,-⟩
  ·exact⟨bv,vv,rfl,hV,hk⟩
  ·exact absurd rfl h
 have rT:∀ W,Keeps (fun _=>False) w W→Calls Tryz.prog 25 #[.pointer (some ⟨b,0,none⟩)] W fun e w'=>e=.returned (.int .i64 (E:Nat))∧W=w':=fun W hW=>by
  have:=Hz (hc.keeps hW (fun h=>h) (fun _ _ h=>h))
  rwa [hcl,← hE] at this
 have wD:∀ W,Keeps (fun _=>False) w W→Calls Tryz.prog 38 #[.pointer (some ⟨b,0,none⟩)] W fun e w'=>e=.returned (.int .i64 (2 * E:Nat))∧W=w':=fun W hW=>by
  have:=vM (hc.keeps hW (fun h=>h) (fun _ _ h=>h))
  rwa [hcl,Yz] at this
 have hLD:∀ W bv vv,aK W bv vv lab→Calls Tryz.prog 157 #[.pointer (some ⟨bv,0,none⟩),.int .i64 E] W fun e w'=>∃ bp sv,e=.returned (.tuple #[.pointer (some ⟨bp,0,none⟩),.int .i64 0])∧iw w' bp sv Q∧Keeps (fun _=>False) W w':=fun W bv vv hV=>by
  rw[hlb] at hV
  refine (qbu bv vv E Q W hV Ao OY YA YB).mono ?_
  rintro e w' ⟨bp,sv,rfl,h1,-,-,h2⟩
  exact⟨bp,sv,rfl,h1,h2⟩
 have PZ:E=0→∀ W,Keeps (fun _=>False) w W→Yy w b s rt ln R (.returned (.tuple #[.pointer (some ⟨b,0,none⟩),.int .i64 0])) W:=fun h0 W hW=>by
  have h1:s.length=0:=by omega
  have h2:bH ((bA s rt).map aG)=s:=by rw[List.eq_nil_of_length_eq_zero (hcl.trans h1),List.eq_nil_of_length_eq_zero h1]
  have h3:rG s.length=rt:=by unfold rG;rw[if_pos h1];rcases hrt with h|h <;> omega
  rw[h2,h3] at hc
  exact⟨b,R,rfl,hc.keeps hW (fun h=>h) (fun _ _ h=>h),fun x hx=>.inl hx,.inl rfl,hW.mono (fun _ _ h=>h.elim)⟩
 have hRl:0<E→∀ W bp sv,Keeps (fun _=>False) w W→iw W bp sv Q→Calls Tryz.prog 87 #[.pointer (some ⟨b,0,none⟩),.pointer (some ⟨bp,0,none⟩)] W (Yy w b s rt ln R):=fun h0 W bp sv hW hF=>by
  have h3:rG s.length=((0:Nat):Int):=by unfold rG;rw[if_neg (by omega)];rfl
  rw[h3] at hc
  have hh:=q8y (t:=s) (hc.keeps hW (fun h=>h) (fun _ _ h=>h)) hF.1 (by omega) (by omega) (by rw[hcl,← show Q.length=s.length by omega];exact YA) (fun d hd=>YB d (by omega)) hcl.symm (fun d hd=>PY d (by omega)) (by rw[hcl];exact hP)
  refine hh.mono ?_
  rintro e w' ⟨b2,rfl,hM,hb2,hk⟩
  rw[hQ0 (by omega)] at hM
  have:=hW.size
  exact⟨b2,_,rfl,hM,fun x hx=>.inr (by have:=hx.1;omega),.inr (by omega),(hW.trans hk (fun _ _ h=>h)).mono (fun _ _ h=>h.elim)⟩
 have HC:Hid (∀ W,Keeps (fun _=>False) w W→W.cell? ⟨br,3,none⟩=some pv):=ah (fun W hW=>ak (hR.keeps hW (fun h=>h)) 3)
 have d3:=HC.out w (Keeps.refl _ _)
 obtain⟨pa,pc,rfl,-,-⟩:=hp.kP
 obtain⟨N,hN⟩:∃ N,N=(bI lab).length:=⟨_,rfl⟩
 rw[← hN] at d3 HC BF
 have HX:=ah (aj rT (aj wD (aj hLD (aj PZ hRl))))
 clear hR hP he hle hg hrt hc hp hok hfl hnl rW hnm hnt hn0 hcl hE Yz hQ OY hsg YA YB hlab PY hQ0 hll hlen hlb hS wD hLD PZ hRl hN
 go_enter Tryz.func124,Tryz.ntmps124
 go_wp2_with fail
 go_region_held3 (fun w'=>w'.cell? ⟨br,3,none⟩=some (.slice pa N pc)) (first|exact HC.out _ (Keeps.refl _ _)|exact HC.out _ (Keeps.refl (fun _=>False) w).drew|exact HC.out _ HK.out.2) (first | (go_at_call 25;refine (HX.out.1 _ (by first|exact Keeps.refl _ _|exact (Keeps.refl (fun _=>False) w).drew)).mono ?_;rintro e w' ⟨rfl,rfl⟩) | (go_at_call 156;refine (hSz _).mono ?_;rintro e w' ⟨rfl,rfl⟩) | (go_at_call 155;refine (BF _ (by first|exact Keeps.refl _ _|exact (Keeps.refl (fun _=>False) w).drew)).mono ?_;rintro e w1 ⟨bv,vv,rfl,hV,hk1⟩;have HK:Hid (aK w1 bv vv lab∧Keeps (fun _=>False) w w1):=ah ⟨hV,(by first|exact hk1|exact (Keeps.refl (fun _=>False) w).drew.trans hk1 (fun _ _ h=>h))⟩;clear hV hk1))
 all_goals
  have P5:=HX.out.1 w1 HK.out.2
  have hLd:=HX.out.2.2.1 w1 bv vv HK.out.1
  go_wp2_with fail
  refine P5.mono ?_
  clear P5
  rintro e w' ⟨rfl,rfl⟩
  go_wp2_with fail
  refine hLd.mono ?_
  clear hLd
  rintro e w2 ⟨bp,zR,rfl,hF,hk2⟩
  have k2:=HK.out.2.trans hk2 (fun _ _ h=>h)
  have wD:=HX.out.2.1 w2 k2
  obtain⟨D,hD⟩:∃ D,D=2 * E:=⟨_,rfl⟩
  rw[← hD] at wD
  have H2:=ah (aj hF (aj k2 hD))
  clear hF hk2 k2 hD
  by_cases h0:D=0
  ·have t0:((D:Int) == 0)=true:=by rw[beq_iff_eq];omega
   have t1:(D == 0)=true:=by rw[beq_iff_eq];exact h0
   have HF:=ah (HX.out.2.2.2.1 (by have:=H2.out.2.2;omega) w2 H2.out.2.1)
   clear h0
   go_wp2_with fail
   refine wD.mono ?_
   clear wD
   rintro e w' ⟨rfl,rfl⟩
   go_wp2_with fail
   refine bodyPost_ret (v:=.tuple #[.pointer (some ⟨b,0,none⟩),.int .i64 0]) (by simp[results,Tryz.results124,go_sem]) rfl ?_
   exact HF.out
  ·have t0:((D:Int) == 0)=false:=by rw[beq_eq_false_iff_ne];omega
   have t1:(D == 0)=false:=by rw[beq_eq_false_iff_ne];exact h0
   have hRl:=HX.out.2.2.2.2 (by have:=H2.out.2.2;omega) w2 bp zR H2.out.2.1 H2.out.1
   clear h0
   go_wp2_with fail
   refine wD.mono ?_
   clear wD
   rintro e w' ⟨rfl,rfl⟩
   go_wp2_with fail
   refine hRl.mono ?_
   clear hRl
   rintro e w3 ⟨b2,R2,rfl,h1,h2,h3,h4⟩
   have HF:Hid (MapAt w3 b2 s rt ln R2∧(∀ x,R2 x→R x∨w.heap.size≤x)∧(b2=b∨w.heap.size≤b2)∧Keeps (fun k=>k=b) w w3):=ah ⟨h1,h2,h3,h4⟩
   clear h1 h2 h3 h4
   go_wp2_with fail
   refine bodyPost_ret (v:=.tuple #[.pointer (some ⟨b2,0,none⟩),.int .i64 0]) (by simp[results,Tryz.results124,go_sem]) rfl ?_
   exact⟨b2,R2,rfl,HF.out⟩
end
section
open Go.RowKit
structure KH (s:List Nat)(rt:Int)(ln:Nat):Prop where
 dH:aM s.length (sg s)
 even:s.length % 2=0
 gen:dn (iC s ln)=0
 rt:(s.length=0∧rt=-1)∨(0≤rt∧rt<s.length)
 ln:ln≤65536
 len:s.length≤131072
def Tz(B0:Nat)(s:List Nat)(rt:Int)(ln:Nat)(b:Nat)(W:World):Prop:=∃ R,MapAt W b s rt ln R∧(∀ x,R x→B0<x)∧B0<b
theorem qmu{s:List Nat}{rt:Int}(h:s.length≤131072):(gU s rt).length≤4259840:=by
 unfold gU
 rw[BG]
 have:=Kv (s.length / 2)
 calc s.length / 2 * (dN (s.length / 2)+1)≤65536 * 65:=Nat.mul_le_mul (by omega) (by omega)
  _≤_:=by decide
theorem ql0(p:Bool)(ln:Nat)(ks:List (List Nat))(lab:List Bool)(hk:eD ks)(hf:ks.flatten.length≤131072)(hln:ln≤65536)(hl:lab.length≤4259840):(iA p true ln ks lab).length≤1600000:=by
 have h1:=qgq p ln ks lab hk hf hln
 have e1:(iA p true ln ks lab).length=(iA p false ln ks lab).length+(bI lab).length:=by simp[iA]
 rw[e1,uS]
 omega
theorem q76(pv:Value)(p:Bool)(s:List Nat)(rt:Int)(ln:Nat)(lim:Int)(w:World)(hs:KH s rt ln)(hp:Sl .u8 w pv (aB (iN p true ln (bA s rt) (gU s rt))))(hlim:-9223372036854775808≤lim∧lim≤9223372036854775807) :
  Calls Tryz.prog 34 #[pv,.int .i64 lim] w (Yi w (Tz w.heap.size s rt ln) (iN p true ln (bA s rt) (gU s rt)) (if max lim 0<(s.length / 2:Nat) then 12 else 0)):=by
 obtain⟨hk,hfl,-⟩:=SQ hs.dH hs.even hs.gen hs.rt
 have hf:(bA s rt).flatten.length≤131072:=by have:=hs.len;omega
 obtain⟨ks,hks⟩:∃ ks,ks=bA s rt:=⟨_,rfl⟩
 obtain⟨lab,hlab⟩:∃ lab,lab=gU s rt:=⟨_,rfl⟩
 have hll:=qmu (rt:=rt) hs.len
 rw[← hks] at hk hf hfl hp ⊢
 rw[← hlab] at hp hll ⊢
 obtain⟨cs,hcs⟩:∃ cs,cs=iN p true ln ks lab:=⟨_,rfl⟩
 have hlen:=Jo p true ln ks lab
 have hb2:=qe1 p true ln ks lab
 have hb3:=ql0 p ln ks lab hk hf hs.ln hll
 have hcl:(bH (ks.map aG)).length=s.length:=by rw[Dw,hfl]
 have hC:nE cs lim true cs (s.length / 2)=if max lim 0<(s.length / 2:Nat) then 12 else 0:=by
  unfold nE
  rw[if_neg (by rw[hcs];omega),if_neg (by rw[hcs];omega),if_neg (by rw[hcs,Yp];simp),if_neg (by rw[hcs,qgp];simp),if_neg (by simp)]
 rw[← hC]
 rw[← hcs] at hp ⊢
 have hlt:∀ x ∈ cs,x<256:=by rw[hcs];exact qkz p true ln ks lab
 refine q51 pv cs lim w (Tz w.heap.size s rt ln) true cs (s.length / 2) hp hlt (by rw[hcs];omega) hlim hlt ?_ ?_ ?_ ?_
 ·rintro - b W W' ⟨R,hM,hR,hb⟩ hk'
  exact⟨R,hM.keeps hk' (fun h=>by omega) (fun x hx h=>by have:=hR x hx;omega),hR,hb⟩
 ·intro h9 t p' l hv W br pv' hW hbr hrd kI hsl
  rw[hcs,KG] at hv
  obtain⟨rfl,rfl,rfl⟩:=Tv hv
  have hbw:=lt_of_block hrd
  have hbd:(jR cs).drop 3=iA p true ln ks lab:=by
   rw[hcs,Yo]
   rfl
  rw[hbd] at hsl
  have hrb:=qaj (plain:=p) (ok:=nD) (lone:=ln) (ls:=ks.map bP) (fun v hv=>by
   obtain⟨k,hk',rfl⟩:=List.mem_map.1 hv
   have:=q3z hk'
   exact q9h (hk k hk').1 (hk k hk').2 (by omega)) hs.ln (by rw[List.length_map];have:=hk.count;omega) (bI lab)
  have P6:kD p nD (iA p true ln ks lab)=some (ln,ks.map bP,bI lab):=by
   rw[← hrb];rfl
  refine qam br p true pv' _ W (Tz w.heap.size s rt ln) true hrd (fun q hq=>⟨?_,fun e=>kI (by rw[hq,e])⟩) hsl (fun x hx=>qky p true ln ks lab x hx) (by omega) (fun h=>by rw[P6] at h;cases h) ?_
  ·obtain⟨a,cap,rfl,-,-⟩:=hsl.form
   obtain⟨y,hy⟩:∃ y,(iA p true ln ks lab)[0]? = some y:=⟨_,List.getElem?_eq_getElem (by omega)⟩
   obtain⟨g,off,rfl,hcell⟩:=hsl.cellAt (j:=0) (z:=(y:Int)) (by simp[aB,hy])
   simp only [Value.ownBlock,Option.some.injEq] at hq
   subst hq
   exact World.block_lt_of_cell? _ _ hcell
  ·intro lone vs rest h
   rw[P6] at h
   simp only [Option.some.injEq,Prod.mk.injEq] at h
   obtain⟨rfl,rfl,rfl⟩:=h
   rw[qao hk,qe0 hk]
   refine⟨hk,by have:=hs.len;omega,fun h=>(by cases h),fun _ W' yN jI b R hR hpo hsr hM hRR hb hkW=>?_⟩
   rw[hcl,hks] at hM
   rw[hlab] at hsr
   refine (q9y hR hs.dH hs.even hs.len hs.gen hs.rt hM hsr).mono ?_
   rintro e w' ⟨b2,R2,rfl,h1,h2,h3,h4⟩
   have:=hkW.size
   refine⟨h4,_,0,by decide,rfl,by simp,fun _=>⟨b2,rfl,⟨R2,h1,fun x hx=>?_,by rcases h3 with h|h <;> omega⟩,by rcases h3 with h|h <;> omega⟩⟩
   rcases h2 x hx with h|h
   ·have:=hRR x h;omega
   ·omega
 ·rintro - t p' l hv b W ⟨R,hM,hR,hb⟩ hbw
  rw[hcs,KG] at hv
  obtain⟨rfl,rfl,rfl⟩:=Tv hv
  have hE:=Tq false p true hM hs.gen qA (by rw[← hks];exact Tt p true hk) (by rw[← hks,KF];omega) (fun k hk'=>by
   rw[← hks] at hk'
   have:=q3z hk'
   show k.length / 2≤_
   omega)
  rw[← hks,← hlab] at hE
  refine hE.mono ?_
  rintro e w' ⟨v,rfl,hO,⟨R',hM',hR'⟩,hkk⟩
  have hfe:jw false p true ln (ks.map qA) lab=cs:=by rw[hcs];rfl
  rw[hfe] at hO
  refine⟨v,0,rfl,hO.sl,fun _=>⟨R',hM',fun x hx=>?_,hb⟩,hkk⟩
  rcases hR' x hx with h|h
  ·exact hR x h
  ·have:=hM.lt;omega
 ·rintro - - b W ⟨R,hM,hR,hb⟩
  exact Hz hM
end
