import Derived.Test.YtcfdpogegngplaaGreatZbMade22
import Derived.Test.YtcfdpogegngplaaGreatZbFeed22
import Derived.Test.YtcfdpogegngplaaGreatZbFileC
set_option maxRecDepth 100000
set_option maxHeartbeats 4000000
namespace Go.Proofs.YtcfdpogegngplaaGreat
section
open Go.RowKit
theorem PlaneS.pl {s:List Nat} {rt:Int} {ln P:Nat} (h:PlaneS s rt ln P) (hP:P<30):PlS s rt ln :=
 ⟨h.isP,h.even,h.gen,h.rt,by have:=h.ln;omega,by have:=h.len;omega⟩
theorem qlq (pv:Value) (p l:Bool) (s:List Nat) (rt:Int) (ln P:Nat) (lim:Int) (w:World) (h:PlaneS s rt ln P) (hP:P<30) (hp:Sl .u8 w pv (nats (filP p l ln (kssM s rt) (labM s rt)))) (hlim:30≤lim∧lim≤1000) :
  Calls Tryz.prog 34 #[pv,.int .i64 lim] w fun e w'=>∃ b2 x y z,e=.returned (.tuple #[.pointer (some ⟨b2,0,none⟩),.agg #[.bool x,.bool y,.bool z],.int .i64 0])∧Keeps (fun _=>False) w w':=by
 obtain⟨hk,hfl⟩:=h.ks
 have hs:=h.len
 have hln:=h.ln
 cases l
 ·refine (q6z pv p (kssM s rt) ln lim w (labM s rt) hk (by omega) (by omega) hp (by omega)).mono ?_
  rw[if_neg (by omega)]
  rintro e w' ⟨hk',h⟩
  rcases h with⟨-,b,rfl,-⟩|⟨h,-⟩
  ·rw[q2n]
   exact⟨b,_,_,_,rfl,hk'⟩
  ·exact absurd rfl h
 ·refine (q6s pv p s rt ln lim w (h.pl hP) hp (by omega)).mono ?_
  rw[if_neg (by omega)]
  rintro e w' ⟨hk',h⟩
  rcases h with⟨-,b,rfl,-⟩|⟨h,-⟩
  ·rw[q2n]
   exact⟨b,_,_,_,rfl,hk'⟩
  ·exact absurd rfl h
theorem qcp (b B:Nat) (lim:Int) (pv:Value) (p l:Bool) (s:List Nat) (rt:Int) (ln P n:Nat) (w:World) (h:PlaneS s rt ln P) (hP:P<30) (hS:StrAt w B b lim pv (filP p l ln (kssM s rt) (labM s rt)) n false) (hlim:30≤lim∧lim≤1000) :
  Calls Tryz.prog 46 #[.pointer (some ⟨b,0,none⟩)] w fun e w'=>∃ b2 x y z,e=.returned (.tuple #[.pointer (some ⟨b2,0,none⟩),.agg #[.bool x,.bool y,.bool z],.int .i64 0])∧Keeps (fun k=>k=b) w w':=by
 refine (q8q b B lim pv _ n w hS (fun P _ _ _ c _=>c=0∧∃ b2,P=.pointer (some ⟨b2,0,none⟩)) (fun W hW _=>?_)).mono ?_
 ·refine (qlq pv p l s rt ln P lim W h hP (hS.own.sl.keeps hW (fun q hq e=>hS.ne (by rw[hq,e]))) hlim).mono ?_
  rintro e w' ⟨b2,x,y,z,rfl,hk⟩
  exact⟨_,_,_,_,_,rfl,hk,rfl,b2,rfl⟩
 ·rintro e w' ⟨P',x,y,z,c,rfl,⟨_,⟨rfl,b2,rfl⟩,-⟩,hk,-⟩
  exact⟨b2,x,y,z,rfl,hk⟩
theorem qh4 (b B:Nat) (lim:Int) (pv:Value) (p l:Bool) (s:List Nat) (rt:Int) (ln P n k:Nat) (w:World) (h:PlaneS s rt ln P) (hP:P<30) (hk:k<(filP p l ln (kssM s rt) (labM s rt)).length) (hS:StrAt w B b lim pv ((filP p l ln (kssM s rt) (labM s rt)).take k) n false) (hlim:30≤lim∧lim≤1000) :
  Calls Tryz.prog 46 #[.pointer (some ⟨b,0,none⟩)] w fun e w'=>∃ x y z c,e=.returned (.tuple #[.pointer none,.agg #[.bool x,.bool y,.bool z],.int .i64 c])∧c≠0∧Keeps (fun k=>k=b) w w':=by
 obtain⟨hks,hfl⟩:=h.ks
 have hs:=h.len
 have hln:=h.ln
 refine (q8q b B lim pv _ n w hS (fun P _ _ _ c _=>c≠0∧P=.pointer none) (fun W hW _=>?_)).mono ?_
 ·obtain⟨c,hc,hD⟩:=q9q pv p l (kssM s rt) ln (labM s rt) lim W k hks (by omega) (by omega) (fun _=>by unfold labM;rw[q0x,hfl,hs]) (qb2 (by omega)) hk (hS.own.sl.keeps hW (fun q hq e=>hS.ne (by rw[hq,e]))) (by omega)
  refine hD.mono ?_
  rintro e w' ⟨hk',h⟩
  rcases h with⟨-,b,-,h⟩|⟨h,rfl⟩
  ·exact h.elim
  ·exact⟨_,_,_,_,_,rfl,hk',by omega,rfl⟩
 ·rintro e w' ⟨P',x,y,z,c,rfl,⟨_,⟨hc,rfl⟩,-⟩,hk,-⟩
  exact⟨x,y,z,c,rfl,hc,hk⟩
end
section
open Go.RowKit
theorem qj9 (p l:Bool) (ln:Nat) (ks:List (List Nat)) (lab:List Bool) (i:Nat) (hl:(filP p l ln ks lab).length≤2097152):sureC ((filP p l ln ks lab).take i) false=0:=by
 unfold sureC
 rw[if_neg (by decide),if_neg (by rw[List.length_take];omega),q2e]
 rcases (show i=0∨i=1∨i=2∨3≤i by omega) with rfl|rfl|rfl|h
 ·show headC [80,81,0]=0
  decide +kernel
 ·show headC [80,81,0]=0
  decide +kernel
 ·show headC [80,81,0]=0
  decide +kernel
 ·obtain⟨m,rfl⟩:∃ m,i=m+3:=⟨i - 3,by omega⟩
  have e:fillH (((80 :: 81 :: flN false p l :: bodP p l ln ks lab) ++ four (crcV (80 :: 81 :: flN false p l :: bodP p l ln ks lab))).take (m+3))=80 :: 81 :: flN false p l :: []:=by
   unfold fillH
   rw[List.take_take,Nat.min_eq_left (by omega),Nat.min_eq_right (by rw[List.length_take];simp)]
   rfl
  rw[e,(qa7 false p l []).1]
structure Two (lim:Int) (wA:World) (bs bt:Nat) (cs ds:List Nat) (wr:World):Prop where
 ex:∃ ps pt,StrAt wr bs bs lim ps cs cs.length false∧StrAt wr bt bt lim pt ds ds.length false∧ps.ownBlock≠some bt∧pt.ownBlock≠some bs∧∀ q,ps.ownBlock=some q→pt.ownBlock≠some q
 kee:Keeps (fun _=>False) wA wr
 lo:wA.heap.size≤bs∧wA.heap.size≤bt∧bs≠bt
theorem Two.swap {lim:Int} {wA:World} {bs bt:Nat} {cs ds:List Nat} {wr:World} (h:Two lim wA bs bt cs ds wr):Two lim wA bt bs ds cs wr:=by
 obtain⟨⟨ps,pt,h1,h2,h3,h4,h5⟩,hk,hl⟩:=h
 exact⟨⟨pt,ps,h2,h1,h4,h3,fun q hq e=>h5 q e hq⟩,hk,hl.2.1,hl.1,hl.2.2.symm⟩
theorem Two.keeps {lim:Int} {wA:World} {bs bt:Nat} {cs ds:List Nat} {wr W:World} (h:Two lim wA bs bt cs ds wr) (k:Keeps (fun _=>False) wr W):Two lim wA bs bt cs ds W:=by
 obtain⟨⟨ps,pt,h1,h2,h3⟩,hk,hl⟩:=h
 exact⟨⟨ps,pt,h1.keeps k (fun h=>h) (fun _ _ h=>h),h2.keeps k (fun h=>h) (fun _ _ h=>h),h3⟩,hk.trans k (fun _ _ h=>h),hl⟩
theorem Two.feed {lim:Int} {wA:World} {bs bt:Nat} {cs ds es:List Nat} {wr:World} {sv:Value} (h:Two lim wA bs bt cs ds wr) (hp:Sl .u8 wr sv (nats es)) (hl:cs.length+es.length≤2097152) (hsb:sv.ownBlock≠some bs) :
  Calls Tryz.prog 43 #[.pointer (some ⟨bs,0,none⟩),sv] wr fun e w'=>e=.returned (.int .i64 0)∧Two lim wA bs bt (cs ++ es) ds w':=by
 obtain⟨⟨ps,pt,h1,h2,h3,h4,h5⟩,hk,hlo⟩:=h
 refine (q5l bs bs lim ps sv cs es cs.length wr h1 hp (by omega) (by omega) (by omega) hsb (by have:=h1.lt;omega)).mono ?_
 rintro e w' ⟨rfl,p',g1,g2,g3⟩
 rw[List.take_of_length_le (by omega),← List.length_append] at g1
 have hbt:=h2.lt
 refine⟨rfl,⟨p',pt,g1,h2.keeps g2 (fun e=>?_) (fun q hq e=>?_),?_,h4,?_⟩,hk.trans g2 (fun q hq e=>?_),hlo⟩
 ·rcases e with e|e
  ·exact hlo.2.2 e.symm
  ·exact h3 e
 ·rcases e with e|e
  ·exact h4 (by rw[hq,e])
  ·exact h5 q e hq
 ·rcases g3 with e|⟨k,e,hk'⟩
  ·rw[e];exact h3
  ·rw[e];intro e';have:=Option.some.inj e';omega
 ·intro q hq e
  rcases g3 with e' | ⟨k,e',hk'⟩
  ·exact h5 q (by rw[← e'];exact hq) e
  ·rw[e'] at hq
   have:=Option.some.inj hq
   have:=(h2.own.lt q e).2
   omega
 ·rcases e with e|e
  ·have:=hlo.1;omega
  ·have:=(h1.own.lt q e).1;have:=hlo.1;omega
theorem Two.sure {lim:Int} {wA:World} {bs bt:Nat} {cs ds:List Nat} {wr:World} (h:Two lim wA bs bt cs ds wr) (h1:∀ x ∈ cs,x<256) (h2:cs.length≤2097153) (h3:sureC cs false=0) :
  Calls Tryz.prog 44 #[.pointer (some ⟨bs,0,none⟩)] wr fun e w'=>e=.returned (.int .i64 0)∧Two lim wA bs bt cs ds w':=by
 obtain⟨⟨ps,pt,g1,-⟩,-,-⟩:=id h
 refine (q5m bs bs lim ps cs cs.length false wr g1 h1 h2).mono ?_
 rintro e w' ⟨rfl,hk⟩
 rw[h3]
 exact⟨rfl,h.keeps hk⟩
theorem Two.len {lim:Int} {wA:World} {bs bt:Nat} {cs ds:List Nat} {wr:World} (h:Two lim wA bs bt cs ds wr) :
  Calls Tryz.prog 45 #[.pointer (some ⟨bs,0,none⟩)] wr fun e w'=>e=.returned (.int .i64 (cs.length:Nat))∧wr=w':=by
 obtain⟨⟨ps,pt,g1,-⟩,-,-⟩:=id h
 exact qan bs bs lim ps cs cs.length false wr g1
end
section
open Go.RowKit
theorem opt7 (o:Nat) (ho:o<256):∃ (o7 x2 x4:Nat) (p l:Bool),bits .and .u8 (o:Int) 7=(o7:Int)∧bits .and .u8 (o7:Int) 2=(x2:Int)∧bits .and .u8 (o7:Int) 4=(x4:Int)∧bits .and .u8 (o7:Int) 8=0∧decide (0<x2)=p∧decide (0<x4)=l:=by
 have h:∀ o:Fin 256,bits .and .u8 ((o.val:Nat):Int) 7=((o.val % 8:Nat):Int):=by decide +kernel
 have h2:∀ o:Fin 8,bits .and .u8 ((o.val:Nat):Int) 2=((o.val / 2 % 2 * 2:Nat):Int)∧bits .and .u8 ((o.val:Nat):Int) 4=((o.val / 4 * 4:Nat):Int)∧bits .and .u8 ((o.val:Nat):Int) 8=0:=by decide +kernel
 have h3:=h2 ⟨o % 8,Nat.mod_lt _ (by decide)⟩
 exact⟨o % 8,_,_,_,_,h ⟨o,ho⟩,h3.1,h3.2.1,h3.2.2,rfl,rfl⟩
theorem walkStreamBytes (a0:Int) (a1:Option Addr) (len1 cap1:Nat) (z1:List Int) (a2 a3:Int) (w:World) (w0:(Lit.int .u8 a0).wf=true) (w1:RowIn .u8 w a1 len1 cap1 z1) (w2:(Lit.int .u8 a2).wf=true) (w3:(Lit.int .u8 a3).wf=true) :
  Calls Tryz.prog 10 #[.int .u8 a0,.slice a1 len1 cap1,.int .u8 a2,.int .u8 a3] w fun e w'=>e=.returned (.bool true)∧Below w.heap.size w w':=by
 have hnot:∀ (x:Bool) (w:World),(Op.unary .not (.bool x)).run Tryz.prog w=.ok (.bool (!x)) w:=fun _ _=>rfl
 obtain⟨a,rfl,ha⟩:=u8_in w0
 obtain⟨ps,hp,hps⟩:=w1.bytes
 obtain⟨o,rfl,ho⟩:=u8_in w2
 obtain⟨t,rfl,ht⟩:=u8_in w3
 obtain⟨o7,x2,x4,p,l,q7,q2,q4,q8,t2,t4⟩:=opt7 o ho
 have hMd:∀ W,Keeps (fun _=>False) w W→Calls Tryz.prog 41 #[.int .u8 a,.slice a1 len1 cap1,.int .u8 o7,.slice none 0 0,.int .u8 0,.int .u8 0] W (qja W (a % 30) p l):=fun W hk=>qh5 a o7 x2 x4 (.slice a1 len1 cap1) (.slice none 0 0) ps p l W ha (hp.keeps hk (fun _ _ h=>h)) hps q2 q4 q8 t2 t4
 clear w0 w1 w2 w3 hp hps q2 q4 q8 t2 t4
 go_enter Tryz.func10,Tryz.ntmps10
 go_wp2_with fail
 refine (qiq _).mono ?_
 rintro e w1 ⟨rfl,hk1⟩
 have H1:=Lib.hid hk1
 have hMd1:=hMd w1 hk1
 clear hk1 hMd
 go_wp2_with fail
 refine hMd1.mono ?_
 clear hMd1
 rintro e w2 ⟨v,s,rt,ln,rfl,hPl,hO,hk2⟩
 have hP30:a % 30<30:=Nat.mod_lt _ (by decide)
 obtain⟨hks,hfl⟩:=hPl.ks
 have hbg:(filP p l ln (kssM s rt) (labM s rt)).length≤1700000:=by
  rw[q14]
  have h1:=hPl.len
  have h2:=hPl.ln
  cases l
  ·have:=q85 p ln (kssM s rt) (labM s rt) hks (by omega) (by omega);omega
  ·have:=q8u p ln (kssM s rt) (labM s rt) hks (by omega) (by omega) (qb2 (by omega));omega
 obtain⟨fs,hfs⟩:∃ fs,fs=filP p l ln (kssM s rt) (labM s rt):=⟨_,rfl⟩
 have hpos:0<fs.length:=by rw[hfs,q14];omega
 rw[← hfs] at hO hbg
 have HP:=Lib.hid (And.intro hPl (And.intro hP30 hfs))
 have hSu:∀ i,sureC (fs.take i) false=0:=fun i=>by rw[hfs];exact qj9 p l ln _ _ i (by rw[← hfs];omega)
 have HSu:=Lib.hid hSu
 have hF256:∀ x ∈ fs,x<256:=by rw[hfs];exact qbc _ _ _ _ _
 have HFS:=Lib.hid hF256
 clear hF256
 obtain⟨g,vc,hv,hgB,hgs⟩:=hO.row hpos
 obtain⟨N,hN⟩:∃ N,N=fs.length:=⟨_,rfl⟩
 rw[← hN] at hv hgs hpos hbg
 subst hv
 have HN:=Lib.hid hN
 have H2:=Lib.hid (And.intro (H1.out.trans hk2 (fun _ _ h=>h)) hO)
 have hN1:=q4s 100 w2
 clear hPl hks hfl hP30 hfs hSu hN hO hk2
 go_wp2_with fail
 refine hN1.mono ?_
 clear hN1
 rintro e w3 ⟨rfl,hS3,hk3⟩
 have hN2:=q4s 100 w3
 have HS3:=Lib.hid (And.intro hS3 hk3)
 clear hS3 hk3
 go_wp2_with fail
 refine hN2.mono ?_
 clear hN2
 rintro e w4 ⟨rfl,hT4,hk4⟩
 have hTw:Two 100 w2 w2.heap.size w3.heap.size [] [] w4:=by
  have h1:=HS3.out.1.lt
  have h3:=HS3.out.2.size
  exact⟨⟨_,_,HS3.out.1.keeps hk4 (fun h=>h) (fun _ _ h=>h),hT4,by simp[Value.ownBlock],by simp[Value.ownBlock],fun q hq=>by simp[Value.ownBlock] at hq⟩,HS3.out.2.trans hk4 (fun _ _ h=>h),Nat.le_refl _,h3,by omega⟩
 have HT:=Lib.hid hTw
 clear hT4 hk4 hTw
 obtain⟨M,hM⟩:∃ M,M=N+1:=⟨_,rfl⟩
 obtain⟨k,hk⟩:∃ k,k=t % M:=⟨_,rfl⟩
 have hkN:k≤N:=by have:=Nat.mod_lt t (show 0<M by omega);omega
 have m1:(N:Int)+1=(M:Int):=by omega
 have m2:(t:Int).tmod (M:Int)=(k:Int):=by rw[Int.tmod_eq_emod_of_nonneg (by omega),hk];simp
 have m3:IntKind.i64.wrap (M:Int)=(M:Int):=IntWalk.i64_in _ (by omega)
 have m4:IntKind.i64.wrap (k:Int)=(k:Int):=IntWalk.i64_in _ (by omega)
 have m5:IntKind.i64.wrap (t:Int)=(t:Int):=IntWalk.i64_in _ (by omega)
 have m6:¬ (M:Int)=0:=by omega
 have m7:¬ M=0:=by omega
 clear hM hk
 go_wp2_with fail
 go_loopg [38] N (fun mu iv wr=>∃ i:Nat,i≤N∧mu=N - i∧iv=.int .i64 i∧Two 100 w2 w2.heap.size w3.heap.size (fs.take i) (fs.take (min i k)) wr)
 case atStart=>exact⟨0,Nat.zero_le _,by omega,rfl,by rw[Nat.zero_min];exact HT.out⟩
 case round =>
  obtain⟨i,hi,hgk,rfl,hT⟩:=hrel
  have HG:=Lib.hid hgk
  clear hgk
  by_cases hlt:i<N
  ·obtain⟨y,hy⟩:∃ y,fs[i]? = some y:=⟨_,List.getElem?_eq_getElem (by have:=HN.out;omega)⟩
   obtain⟨hc,-⟩:=(H2.out.2.keeps hT.kee (fun _ _ h=>h)).cell hy
   have t1:decide ((i:Int)<(N:Int))=true:=decide_eq_true (by omega)
   have t2:decide (i<N)=true:=decide_eq_true hlt
   have ka:=(Keeps.refl (fun _=>False) wr).alloc (.cells #[.int .u8 (y:Int)] 5)
   have hlit:=OwnY.lit1 wr y
   have hTA:=hT.keeps ka
   have hbs:w2.heap.size<wr.heap.size∧w3.heap.size<wr.heap.size:=by
    obtain⟨⟨_,_,h1,h2,_⟩,_,_⟩:=hT
    exact⟨h1.lt,h2.lt⟩
   have hF:=hTA.feed hlit.sl (by rw[List.length_take];have:=HN.out;simp;omega) (by simp[Value.ownBlock];omega)
   have e1:fs.take i ++ [y]=fs.take (i+1):=(q0f hy).symm
   rw[e1] at hF
   have HY:=Lib.hid (And.intro hy (And.intro hbs e1))
   clear hT ka hlit hTA hbs hy e1 HT
   go_wp2_with fail
   refine hF.mono ?_
   clear hF
   rintro e w5 ⟨rfl,hT5⟩
   have hl1:(fs.take (i+1)).length=i+1:=by rw[List.length_take];have:=HN.out;omega
   have hSr:=hT5.sure (by have:=HFS.out;exact fun x hx=>this x (List.mem_of_mem_take hx)) (by omega) (HSu.out (i+1))
   have HL1:=Lib.hid hl1
   clear hT5 hl1
   go_wp2_with fail
   refine hSr.mono ?_
   clear hSr
   rintro e w6 ⟨rfl,hT6⟩
   have hLn:=hT6.len
   rw[HL1.out] at hLn
   have HT6:=Lib.hid hT6
   clear hT6
   have t6:(((i+1:Nat):Int) != (i:Int)+1)=false:=by rw[bne_eq_false_iff_eq];omega
   go_wp2_with fail
   refine hLn.mono ?_
   clear hLn
   rintro e w7 ⟨rfl,rfl⟩
   by_cases hik:i<k
   ·have t3:decide ((i:Int)<(k:Int))=true:=decide_eq_true (by omega)
    have t4:decide (i<k)=true:=decide_eq_true hik
    have ka:=(Keeps.refl (fun _=>False) w6).alloc (.cells #[.int .u8 (y:Int)] 5)
    have hF:=(HT6.out.keeps ka).swap.feed (OwnY.lit1 w6 y).sl (by rw[List.length_take];have:=HN.out;simp;omega) (by
     obtain⟨⟨_,_,_,h2,_⟩,_,_⟩:=HT6.out
     have:=h2.lt
     simp[Value.ownBlock];omega)
    have e2:fs.take (min i k) ++ [y]=fs.take (min (i+1) k):=by
     rw[Nat.min_eq_left (by omega),Nat.min_eq_left (by omega)];exact HY.out.2.2
    rw[e2] at hF
    clear ka e2
    go_wp2_with fail
    refine hF.mono ?_
    clear hF
    rintro e w8 ⟨rfl,hT8⟩
    have HF:=Lib.hid hT8.swap
    clear hT8
    go_wp2_with fail
    go_roundg (N - (i+1))
    case measure=>rw[HG.out];omega
    case rel=>exact⟨i+1,by omega,rfl,by go_num,HF.out⟩
   ·have t3:decide ((i:Int)<(k:Int))=false:=decide_eq_false (by omega)
    have t4:decide (i<k)=false:=decide_eq_false hik
    have HF:Hid (Two 100 w2 w2.heap.size w3.heap.size (fs.take (i+1)) (fs.take (min (i+1) k)) w6):=Lib.hid (by
     have h:=HT6.out
     rwa [Nat.min_eq_right (show k≤i by omega),← Nat.min_eq_right (show k≤i+1 by omega)] at h)
    go_wp2_with fail
    go_roundg (N - (i+1))
    case measure=>rw[HG.out];omega
    case rel=>exact⟨i+1,by omega,rfl,by go_num,HF.out⟩
  ·have hiN:i=N:=by omega
   have t1:decide ((i:Int)<(N:Int))=false:=decide_eq_false (by omega)
   have t2:decide (i<N)=false:=decide_eq_false hlt
   rw[List.take_of_length_le (by have:=HN.out;omega),Nat.min_eq_right (by omega)] at hT
   obtain⟨⟨qs,qt,hS,hTt,hst,hts,hpp⟩,hkw,hlo⟩:=hT
   have hS2:=hS
   rw[HP.out.2.2] at hS2
   have hD1:=qcp _ _ 100 qs p l s rt ln _ _ wr HP.out.1 HP.out.2.1 hS2 (by decide)
   have HT2:=Lib.hid (And.intro hTt (And.intro hts (And.intro hkw hlo)))
   clear hS hS2 hTt hst hts hpp hkw hlo hiN HT
   go_wp2_with fail
   refine hD1.mono ?_
   clear hD1
   rintro e w5 ⟨b2,x,y,z,rfl,hk5⟩
   obtain⟨wB,hwB⟩:∃ wB,wB=w5.alloc (.cells #[.bool x,.bool y,.bool z] 35):=⟨_,rfl⟩
   have k5B:Keeps (fun _=>False) w5 wB:=by rw[hwB];exact (Keeps.refl (fun _=>False) w5).alloc _
   have kB:=hk5.trans k5B (fun _ _ h=>h.elim)
   have hTB:=HT2.out.1.keeps kB (fun e=>HT2.out.2.2.2.2.2 e.symm) (fun q hq e=>HT2.out.2.1 (by rw[hq,e]))
   have HB:Hid (Keeps (fun _=>False) w wB):=Lib.hid ((H2.out.1.trans HT2.out.2.2.1 (fun _ _ h=>h)).trans kB (fun q hq e=>by have:=H2.out.1.size;have:=HT2.out.2.2.2.1;omega))
   have hB3:w.heap.size≤w3.heap.size:=by have:=H2.out.1.size;have:=HT2.out.2.2.2.2.1;omega
   by_cases hkk:k<N
   ·have hD2:=qh4 _ _ 100 qt p l s rt ln _ _ k wB HP.out.1 HP.out.2.1 (by rw[← HP.out.2.2];have:=HN.out;omega) (by rw[← HP.out.2.2];exact hTB) (by decide)
    have t3:decide ((k:Int)<(N:Int))=true:=decide_eq_true (by omega)
    have t4:decide (k<N)=true:=decide_eq_true hkk
    have t5:((k:Int) == (N:Int))=false:=by rw[beq_eq_false_iff_ne];omega
    have t6:(k == N)=false:=by rw[beq_eq_false_iff_ne];omega
    clear hk5 k5B kB hTB
    go_wp2_with fail
    rw[← hwB]
    clear hwB
    refine hD2.mono ?_
    clear hD2
    rintro e w6 ⟨x',y',z',c,rfl,hc,hk6⟩
    have HF:Hid (∀ W,Keeps (fun _=>False) w6 W→Below w.heap.size w W):=Lib.hid (fun W hW=>((HB.out.trans hk6 (fun q hq e=>by omega)).trans hW (fun _ _ h=>h)).below (fun _ _ h=>h))
    have t7:(c == 0)=false:=by rw[beq_eq_false_iff_ne];exact hc
    have t8:decide (c=0)=false:=decide_eq_false hc
    clear hk6
    go_wp2_with fail
    go_ret
    exact⟨by simp,HF.out _ ((Keeps.refl (fun _=>False) w6).alloc _)⟩
   ·have hke:k=N:=by omega
    have hTe:=hTB
    rw[List.take_of_length_le (by have:=HN.out;omega),HP.out.2.2] at hTe
    have hD2:=qcp _ _ 100 qt p l s rt ln _ _ wB HP.out.1 HP.out.2.1 hTe (by decide)
    have t3:decide ((k:Int)<(N:Int))=false:=decide_eq_false (by omega)
    have t4:decide (k<N)=false:=decide_eq_false hkk
    have t5:((k:Int) == (N:Int))=true:=by rw[beq_iff_eq];omega
    have t6:(k == N)=true:=by rw[beq_iff_eq];omega
    clear hk5 k5B kB hTB hTe hke
    go_wp2_with fail
    rw[← hwB]
    clear hwB
    refine hD2.mono ?_
    clear hD2
    rintro e w6 ⟨b3,x',y',z',rfl,hk6⟩
    have HF:Hid (∀ W,Keeps (fun _=>False) w6 W→Below w.heap.size w W):=Lib.hid (fun W hW=>((HB.out.trans hk6 (fun q hq e=>by omega)).trans hW (fun _ _ h=>h)).below (fun _ _ h=>h))
    clear hk6
    go_wp2_with fail
    go_ret
    exact⟨by simp,HF.out _ ((Keeps.refl (fun _=>False) w6).alloc _)⟩
end
end Go.Proofs.YtcfdpogegngplaaGreat
