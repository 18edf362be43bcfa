import Derived.Test.YtcfdpogegngplaaGreatZlMade22
import Derived.Test.YtcfdpogegngplaaGreatZlFeed22
namespace Go.Proofs.YtcfdpogegngplaaGreat
open Go.RowKit
theorem i64_bd {z:Int} (h:(Lit.int .i64 z).wf=true):-9223372036854775808≤z∧z≤9223372036854775807:=by
 have h1:(Lit.int .i64 z).wf=(decide (IntKind.i64.min≤z) && decide (z≤IntKind.i64.max)):=rfl
 rw [h1,show IntKind.i64.min=-9223372036854775808 by decide,show IntKind.i64.max=9223372036854775807 by decide] at h
 simpa using h
theorem CatAt.mono {B B':Nat} {ks:List (List Nat)} {ln b:Nat} {W:World} (h:CatAt B ks ln b W) (hB:B'≤B):CatAt B' ks ln b W:=by
 obtain ⟨R,h1,h2,h3⟩:=h
 exact ⟨R,h1,fun x hx=>by have:=h2 x hx;omega,by omega⟩
theorem CatAt.keeps {B:Nat} {ks:List (List Nat)} {ln b:Nat} {W W':World} {G:Nat→Prop} (h:CatAt B ks ln b W) (k:Keeps G W W') (hG:∀ x,B < x→x < W.heap.size→¬ G x):CatAt B ks ln b W':=by
 obtain ⟨R,h1,h2,h3⟩:=h
 exact ⟨R,h1.keeps k (hG b h3 h1.lt) (fun x hx=>hG x (h2 x hx) (h1.old x hx)),h2,h3⟩
def DonePl (B:Nat) (ks:List (List Nat)) (ln:Nat) (lim:Int) (P:Value) (_x _y _z:Bool) (c:Int) (W:World):Prop :=
 (max lim 0 < (ks.flatten.length / 2:Nat)→c=12∧P=.pointer none)∧(¬ max lim 0 < (ks.flatten.length / 2:Nat)→c=0∧∃ b2,P=.pointer (some ⟨b2,0,none⟩)∧CatAt B ks ln b2 W)
theorem strDone_honest (b B:Nat) (lim:Int) (pv:Value) (p:Bool) (ks:List (List Nat)) (ln:Nat) (lab:List Bool) (n:Nat) (w:World) (hS:StrAt w B b lim pv (filP p false ln ks lab) n false) (hk:KsOk ks) (hf:ks.flatten.length≤131072) (hln:ln≤65536) (hlim:-9223372036854775808≤lim∧lim≤9223372036854775807) :
  Calls Tryz.prog 46 #[.pointer (some ⟨b,0,none⟩)] w fun e w'=>∃ P x y z c,e=.returned (.tuple #[P,.agg #[.bool x,.bool y,.bool z],.int .i64 c])∧DonePl w.heap.size ks ln lim P x y z c w'∧Keeps (fun k=>k=b) w w'∧StrAt w' B b lim (.slice none 0 0) [] n true:=by
 refine (strDone_any b B lim pv _ n w hS (fun P x y z c W=>DonePl (w.heap.size+1) ks ln lim P x y z c W) (fun W hW hsz=>?_)).mono ?_
 ·refine (fileDecode_honest pv p ks ln lim W lab hk hf hln (hS.own.sl.keeps hW (fun q hq e=>hS.ne (by rw [hq,e]))) hlim).mono ?_
  rintro e w' ⟨hk',h⟩
  by_cases hl:max lim 0 < (ks.flatten.length / 2:Nat)
  ·rw [if_pos hl] at h
   rcases h with ⟨h,-⟩ | ⟨-,rfl⟩
   ·cases h
   ·exact ⟨_,_,_,_,_,rfl,hk',fun _=>⟨rfl,rfl⟩,fun h=>absurd hl h⟩
  ·rw [if_neg hl] at h
   rcases h with ⟨-,b2,rfl,hQ⟩ | ⟨h,-⟩
   ·rw [filP_headV]
    exact ⟨_,_,_,_,_,rfl,hk',fun h=>absurd h hl,fun _=>⟨rfl,b2,rfl,hQ.mono (by omega)⟩⟩
   ·exact absurd rfl h
 ·rintro e w' ⟨P,x,y,z,c,rfl,⟨w1,⟨hd1,hd2⟩,hk1⟩,hk2,hS2⟩
  have:=hS.lt
  refine ⟨P,x,y,z,c,rfl,⟨hd1,fun h=>?_⟩,hk2,hS2⟩
  obtain ⟨hc,b2,hP,hA⟩:=hd2 h
  exact ⟨hc,b2,hP,(hA.keeps hk1 (fun x hx _ e=>by rcases e with e | e <;> omega)).mono (by omega)⟩
set_option maxRecDepth 100000 in
set_option maxHeartbeats 1000000 in
theorem walkStreamLimits (a0:Int) (a1:Option Addr) (len1 cap1:Nat) (z1:List Int) (a2 a3:Int) (w:World) (w0:(Lit.int .u8 a0).wf=true) (w1:RowIn .u8 w a1 len1 cap1 z1) (w2:(Lit.int .i64 a2).wf=true) (w3:(Lit.int .u8 a3).wf=true) :
  Calls Tryz.prog 12 #[.int .u8 a0,.slice a1 len1 cap1,.int .i64 a2,.int .u8 a3] w fun e w'=>e=.returned (.bool true)∧Below w.heap.size w w':=by
 have hnot:∀ (x:Bool) (w:World),(Op.unary .not (.bool x)).run Tryz.prog w=.ok (.bool (!x)) w:=fun _ _=>rfl
 obtain ⟨a,rfl,ha⟩:=u8_in w0
 obtain ⟨ps,hp,hps⟩:=w1.bytes
 have hlim:=i64_bd w2
 obtain ⟨t,rfl,ht⟩:=u8_in w3
 have hMd:∀ W,Keeps (fun _=>False) w W→Calls Tryz.prog 41 #[.int .u8 a,.slice a1 len1 cap1,.int .u8 2,.slice none 0 0,.int .u8 0,.int .u8 0] W (Made22 W (a % 30) true false):=fun W hk=>made22_any a 2 2 0 (.slice a1 len1 cap1) (.slice none 0 0) ps true false W ha (hp.keeps hk (fun _ _ h=>h)) hps (by decide) (by decide) (by decide) (by decide) (by decide)
 clear w0 w1 w2 w3 hp hps
 go_enter Tryz.func12,Tryz.ntmps12
 go_wp2_with fail
 refine (awake_any _).mono ?_
 rintro e w1 ⟨rfl,hk1⟩
 have H1:=Lib.hid hk1
 have hMd1:=hMd w1 hk1
 clear hk1 hMd
 go_wp2_with fail
 refine hMd1.mono ?_
 clear hMd1
 rintro e w2 ⟨v,s,rt,ln,rfl,hPl,hO,hk2⟩
 obtain ⟨hks,hfl⟩:=hPl.ks
 have hln:=hPl.ln
 obtain ⟨ks,hkk⟩:∃ ks,ks=kssM s rt:=⟨_,rfl⟩
 obtain ⟨lab,hlab⟩:∃ lab,lab=labM s rt:=⟨_,rfl⟩
 rw [← hkk] at hks hfl hO
 rw [← hlab] at hO
 clear hPl hkk hlab
 have hD1:=fileDecode_honest v true ks ln 1000 w2 lab hks (by omega) (by omega) hO.sl (by decide)
 obtain ⟨E,hE⟩:∃ E,E=ks.flatten.length / 2:=⟨_,rfl⟩
 have hE30:E < 30:=by omega
 rw [← hE,if_neg (by omega)] at hD1
 obtain ⟨fs,hfs⟩:∃ fs,fs=filP true false ln ks lab:=⟨_,rfl⟩
 have hhv:headV fs=optV false true false:=by rw [hfs,filP_headV]
 have hb3:=bodP_big true ln ks lab hks (by omega) (by omega)
 have hfl2:=filP_length true false ln ks lab
 rw [← hfs] at hO hD1 hfl2
 have hfsl:fs.length≤1048610∧0 < fs.length:=by omega
 have HK:=Lib.hid (And.intro hks (And.intro hfl (And.intro hln (And.intro hE hfs))))
 have H2:=Lib.hid (And.intro (H1.out.trans hk2 (fun _ _ h=>h)) hO)
 obtain ⟨g,vc,hv,hgB,hgs⟩:=hO.row hfsl.2
 obtain ⟨N,hN⟩:∃ N,N=fs.length:=⟨_,rfl⟩
 rw [← hN] at hv hgs hfsl
 subst hv
 have HN0:=Lib.hid hN
 clear hks hfl hln hE hfs hk2 hO hb3 hfl2 hN
 go_wp2_with fail
 refine hD1.mono ?_
 clear hD1
 rintro e w3 ⟨hk3,h3⟩
 rcases h3 with ⟨-,b1,rfl,hQ1⟩ | ⟨h,-⟩
 rotate_left
 ·exact absurd rfl h
 rw [hhv]
 unfold optV
 obtain ⟨wA,hwA⟩:∃ wA,wA=w3.alloc (.cells #[.bool false,.bool true,.bool false] 35):=⟨_,rfl⟩
 have kA:Keeps (fun _=>False) w3 wA:=by rw [hwA];exact (Keeps.refl (fun _=>False) w3).alloc _
 have hNw:=strNew_any a2 wA
 have hQA:=hQ1.keeps kA (fun _ _ _ h=>h)
 have H3:=Lib.hid (And.intro (H2.out.1.trans (hk3.trans kA (fun _ _ h=>h)) (fun _ _ h=>h)) (And.intro (H2.out.2.keeps (hk3.trans kA (fun _ _ h=>h)) (fun _ _ h=>h)) (And.intro hQA (show g < wA.heap.size by have:=hk3.size;have:=kA.size;omega))))
 clear hk3 hQ1 hhv kA hQA
 go_wp2_with fail
 rw [← hwA]
 refine hNw.mono ?_
 clear hNw hwA
 rintro e w4 ⟨rfl,hS4,hk4⟩
 obtain ⟨M,hM⟩:∃ M,M=N+1:=⟨_,rfl⟩
 obtain ⟨k,hk⟩:∃ k,k=t % M:=⟨_,rfl⟩
 have hkN:k≤N:=by have:=Nat.mod_lt t (show 0 < M by omega);omega
 have m1:(N:Int)+1=(M:Int):=by omega
 have m2:(t:Int).tmod (M:Int)=(k:Int):=by rw [Int.tmod_eq_emod_of_nonneg (by omega),hk];simp
 have m3:IntKind.i64.wrap (M:Int)=(M:Int):=IntWalk.i64_in _ (by omega)
 have m4:IntKind.i64.wrap (k:Int)=(k:Int):=IntWalk.i64_in _ (by omega)
 have m5:IntKind.i64.wrap (t:Int)=(t:Int):=IntWalk.i64_in _ (by omega)
 have m6:¬ (M:Int)=0:=by omega
 have m7:¬ M=0:=by omega
 have hO4:=H3.out.2.1.sl.keeps hk4 (fun _ _ h=>h)
 have hgb:g≠wA.heap.size:=by have:=H3.out.2.2.2;omega
 have hT4:=hO4.take k (by rw [nats_len];have:=HN0.out;omega)
 rw [show (nats fs).take k=nats (fs.take k) by simp [nats]] at hT4
 have hF1:=feedIn hk4 hS4 hT4 (by simp) (by rw [List.length_take];omega) (by omega) (by simp [Value.ownBlock];exact hgb)
 have e1:([]:List Nat) ++ (fs.take k).take (2097153 - ([]:List Nat).length)=fs.take k:=by
  rw [List.nil_append,List.take_of_length_le (by rw [List.length_take];simp;omega)]
 rw [e1] at hF1
 have HN:=Lib.hid (And.intro hM hk)
 clear hM hk hS4 hk4 hO4 hT4 e1
 go_wp2_with fail
 refine hF1.mono ?_
 clear hF1
 rintro e w5 ⟨rfl,pv5,hS5,hk5,-,-⟩
 have hl5:(fs.take k).length=k:=by rw [List.length_take];have:=HN0.out;omega
 have hdl:(fs.drop k).length=N - k:=by rw [List.length_drop];have:=HN0.out;omega
 have hO5:=H3.out.2.1.sl.keeps hk5 (fun _ _ h=>h)
 have hT5:=hO5.tailY k (by omega)
 rw [Nat.zero_add] at hT5
 have e2:fs.take k ++ (fs.drop k).take (2097153 - (fs.take k).length)=fs:=by
  rw [List.take_of_length_le (l:=fs.drop k) (by rw [hdl,hl5];omega),List.take_append_drop]
 have hF2:∀ sv,Sl .u8 w5 sv (nats (fs.drop k))→sv.ownBlock≠some wA.heap.size→Calls Tryz.prog 43 #[.pointer (some ⟨wA.heap.size,0,none⟩),sv] w5 fun e w'=>e=.returned (.int .i64 0)∧∃ pv' n,StrAt w' wA.heap.size wA.heap.size a2 pv' fs n false∧Keeps (fun _=>False) wA w':=fun sv h1 h2=>by
  refine (feedIn hk5 hS5 h1 (by omega) (by omega) (by omega) h2).mono ?_
  rintro e w' ⟨rfl,pv',h3,h4,-,-⟩
  rw [e2] at h3
  exact ⟨rfl,pv',_,h3,h4⟩
 have HF2:=Lib.hid (And.intro hF2 hT5)
 have hE0:k=N→fs.drop k=[]:=fun h=>List.eq_nil_of_length_eq_zero (by omega)
 have HE0:=Lib.hid hE0
 clear hS5 hk5 hl5 hdl hO5 hT5 e2 hF2 hE0
 go_wp2_with fail
 all_goals
  refine (HF2.out.1 _ (by first | exact HF2.out.2 | (rw [HE0.out (by omega),show N - k=0 by omega];exact Sl.emptyY _ _)) (by simp [Value.ownBlock];exact hgb)).mono ?_
  rintro e w6 ⟨rfl,pv6,n6,hS6,hk6⟩
  have hDn:=strDone_honest wA.heap.size wA.heap.size a2 pv6 true ks ln lab n6 w6 (by rw [← HK.out.2.2.2.2];exact hS6) HK.out.1 (by have:=HK.out.2.1;omega) (by have:=HK.out.2.2.1;omega) hlim
  have H6:=Lib.hid hk6
  clear hS6 hk6
  go_wp2_with fail
  refine hDn.mono ?_
  clear hDn
  rintro e w7 ⟨P,x,y,z,c,rfl,hD,hk7,-⟩
  obtain ⟨wB,hwB⟩:∃ wB,wB=w7.alloc (.cells #[.bool x,.bool y,.bool z] 35):=⟨_,rfl⟩
  have k7B:Keeps (fun _=>False) w7 wB:=by rw [hwB];exact (Keeps.refl (fun _=>False) w7).alloc _
  have kAB:Keeps (fun _=>False) wA wB:=(H6.out.trans hk7 (fun x hx e=>by omega)).trans k7B (fun _ _ h=>h)
  have hQB:=H3.out.2.2.1.keeps kAB (fun _ _ _ h=>h)
  have hEd:Calls Tryz.prog 25 #[.pointer (some ⟨b1,0,none⟩)] wB fun e w'=>e=.returned (.int .i64 (E:Nat))∧wB=w':=by
   obtain ⟨R,hM,-,-⟩:=hQB
   have:=mapEdges_any hM
   rwa [dec_cat_length,← HK.out.2.2.2.1] at this
  rw [DonePl,← HK.out.2.2.2.1] at hD
  have HB:Hid (Keeps (fun _=>False) w wB):=Lib.hid (H3.out.1.trans kAB (fun _ _ h=>h))
  have HQB:=Lib.hid (And.intro hQB k7B)
  clear hk7 k7B kAB hQB
  by_cases hcase:a2 < (E:Int)∧0 < E
  ·obtain ⟨rfl,rfl⟩:=hD.1 (by omega)
   have t1:decide (a2 < (E:Int))=true:=decide_eq_true hcase.1
   have t2:decide (0 < E)=true:=decide_eq_true hcase.2
   clear hD hcase
   go_wp2_with fail
   rw [← hwB]
   clear hwB
   refine hEd.mono ?_
   rintro e w8 ⟨rfl,rfl⟩
   go_wp2_with fail
   refine hEd.mono ?_
   clear hEd
   rintro e w8 ⟨rfl,rfl⟩
   go_wp2_with fail
   go_ret
   exact ⟨rfl,HB.out.below (fun _ _ h=>h)⟩
  ·obtain ⟨rfl,b2,rfl,hA2⟩:=hD.2 (by omega)
   have hSm:Calls Tryz.prog 31 #[.pointer (some ⟨b2,0,none⟩),.pointer (some ⟨b1,0,none⟩)] wB fun e w'=>e=.returned (.bool true)∧Keeps (fun _=>False) wB w':=by
    obtain ⟨R,hM,-,-⟩:=HQB.out.1
    obtain ⟨R2,hM2,-,-⟩:=hA2.keeps HQB.out.2 (fun _ _ _ h=>h)
    exact mapSame_eq hM2 hM (by rw [dec_cat_length];have:=HK.out.2.1;omega)
   have HSm:=Lib.hid hSm
   clear hD hA2 hSm
   by_cases hlt:a2 < (E:Int)
   ·have t1:decide (a2 < (E:Int))=true:=decide_eq_true hlt
    have t2:decide (0 < E)=false:=decide_eq_false (fun h=>hcase ⟨hlt,h⟩)
    clear hcase hlt
    go_wp2_with fail
    rw [← hwB]
    clear hwB
    refine hEd.mono ?_
    rintro e w8 ⟨rfl,rfl⟩
    go_wp2_with fail
    refine hEd.mono ?_
    clear hEd
    rintro e w8 ⟨rfl,rfl⟩
    go_wp2_with fail
    refine HSm.out.mono ?_
    rintro e w9 ⟨rfl,hk9⟩
    have HF:=Lib.hid ((HB.out.trans hk9 (fun _ _ h=>h)).below (fun _ _ h=>h))
    clear hk9
    go_wp2_with fail
    go_ret
    exact ⟨rfl,HF.out⟩
   ·have t1:decide (a2 < (E:Int))=false:=decide_eq_false hlt
    clear hcase hlt
    go_wp2_with fail
    rw [← hwB]
    clear hwB
    refine hEd.mono ?_
    clear hEd
    rintro e w8 ⟨rfl,rfl⟩
    go_wp2_with fail
    refine HSm.out.mono ?_
    rintro e w9 ⟨rfl,hk9⟩
    have HF:=Lib.hid ((HB.out.trans hk9 (fun _ _ h=>h)).below (fun _ _ h=>h))
    clear hk9
    go_wp2_with fail
    go_ret
    exact ⟨rfl,HF.out⟩
end Go.Proofs.YtcfdpogegngplaaGreat
