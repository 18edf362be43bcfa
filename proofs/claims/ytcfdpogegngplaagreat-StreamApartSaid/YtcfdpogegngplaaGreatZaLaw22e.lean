import Derived.Deep.RegionHeld3
import Derived.Test.YtcfdpogegngplaaGreatZaMade22
import Derived.Test.YtcfdpogegngplaaGreatZaFeed22
import Derived.Test.YtcfdpogegngplaaGreatZaFileL
import Derived.Test.YtcfdpogegngplaaGreatZaLabDec
import Derived.Test.YtcfdpogegngplaaGreatZaDecF
set_option maxRecDepth 100000
set_option maxHeartbeats 4000000
namespace Go.Proofs.YtcfdpogegngplaaGreat
section
open Go.RowKit
theorem PlaneS.pl {s:List Nat} {rt:Int} {ln P:Nat} (h:PlaneS s rt ln P) (hP:P<30):PlS s rt ln :=
 ⟨h.isP,h.even,h.gen,h.rt,by have:=h.ln;omega,by have:=h.len;omega⟩
end
section
open Go.RowKit
structure Two (lim:Int) (wA:World) (bs bt:Nat) (cs ds:List Nat) (wr:World):Prop where
 ex:∃ ps pt,StrAt wr bs bs lim ps cs cs.length false∧StrAt wr bt bt lim pt ds ds.length false∧ps.ownBlock≠some bt∧pt.ownBlock≠some bs∧∀ q,ps.ownBlock=some q→pt.ownBlock≠some q
 kee:Keeps (fun _=>False) wA wr
 lo:wA.heap.size≤bs∧wA.heap.size≤bt∧bs≠bt
theorem Two.swap {lim:Int} {wA:World} {bs bt:Nat} {cs ds:List Nat} {wr:World} (h:Two lim wA bs bt cs ds wr):Two lim wA bt bs ds cs wr:=by
 obtain⟨⟨ps,pt,h1,h2,h3,h4,h5⟩,hk,hl⟩:=h
 exact⟨⟨pt,ps,h2,h1,h4,h3,fun q hq e=>h5 q e hq⟩,hk,hl.2.1,hl.1,hl.2.2.symm⟩
theorem Two.feed {lim:Int} {wA:World} {bs bt:Nat} {cs ds es:List Nat} {wr:World} {sv:Value} (h:Two lim wA bs bt cs ds wr) (hp:Sl .u8 wr sv (nats es)) (hl:cs.length+es.length≤2097152) (hsb:sv.ownBlock≠some bs) :
  Calls Tryz.prog 43 #[.pointer (some ⟨bs,0,none⟩),sv] wr fun e w'=>e=.returned (.int .i64 0)∧Two lim wA bs bt (cs ++ es) ds w':=by
 obtain⟨⟨ps,pt,h1,h2,h3,h4,h5⟩,hk,hlo⟩:=h
 refine (q5g bs bs lim ps sv cs es cs.length wr h1 hp (by omega) (by omega) (by omega) hsb (by have:=h1.lt;omega)).mono ?_
 rintro e w' ⟨rfl,p',g1,g2,g3⟩
 rw[List.take_of_length_le (by omega),← List.length_append] at g1
 have hbt:=h2.lt
 refine⟨rfl,⟨p',pt,g1,h2.keeps g2 (fun e=>?_) (fun q hq e=>?_),?_,h4,?_⟩,hk.trans g2 (fun q hq e=>?_),hlo⟩
 ·rcases e with e|e
  ·exact hlo.2.2 e.symm
  ·exact h3 e
 ·rcases e with e|e
  ·exact h4 (by rw[hq,e])
  ·exact h5 q e hq
 ·rcases g3 with e|⟨k,e,hk'⟩
  ·rw[e];exact h3
  ·rw[e];intro e';have:=Option.some.inj e';omega
 ·intro q hq e
  rcases g3 with e' | ⟨k,e',hk'⟩
  ·exact h5 q (by rw[← e'];exact hq) e
  ·rw[e'] at hq
   have:=Option.some.inj hq
   have:=(h2.own.lt q e).2
   omega
 ·rcases e with e|e
  ·have:=hlo.1;omega
  ·have:=(h1.own.lt q e).1;have:=hlo.1;omega
end
section
open Go.RowKit
theorem SameAt.mono {B B':Nat} {s:List Nat} {rt:Int} {ln b:Nat} {W:World} (h:SameAt B s rt ln b W) (hB:B'≤B):SameAt B' s rt ln b W:=by
 obtain⟨R,h1,h2,h3⟩:=h
 exact⟨R,h1,fun x hx=>by have:=h2 x hx;omega,by omega⟩
theorem SameAt.keeps {B:Nat} {s:List Nat} {rt:Int} {ln b:Nat} {W W':World} {G:Nat→Prop} (h:SameAt B s rt ln b W) (k:Keeps G W W') (hG:∀ x,B<x→x<W.heap.size→¬ G x):SameAt B s rt ln b W':=by
 obtain⟨R,h1,h2,h3⟩:=h
 exact⟨R,h1.keeps k (hG b h3 h1.lt) (fun x hx=>hG x (h2 x hx) (h1.old x hx)),h2,h3⟩
noncomputable def sBk (l:Bool) (s:List Nat) (rt:Int):List Nat:=if l then s else catM ((kssM s rt).map decL)
noncomputable def rBk (l:Bool) (s:List Nat) (rt:Int):Int:=if l then rt else rt0 (catM ((kssM s rt).map decL)).length
theorem qj2 {l:Bool} {s:List Nat} {rt:Int} {ln P:Nat} (h:PlaneS s rt ln P) (hP:P<30):(sBk l s rt).length≤100000:=by
 have h1:=h.len
 have h2:=h.ks.2
 cases l
 ·show (catM ((kssM s rt).map decL)).length≤100000
  rw[q0n]
  omega
 ·show s.length≤100000
  omega
theorem q8r (pv:Value) (p l:Bool) (s:List Nat) (rt:Int) (ln P:Nat) (lim:Int) (w:World) (h:PlaneS s rt ln P) (hP:P<30) (hp:Sl .u8 w pv (nats (filP p l ln (kssM s rt) (labM s rt)))) (hlim:30≤lim∧lim≤1000) :
  Calls Tryz.prog 34 #[pv,.int .i64 lim] w fun e w'=>∃ b2,e=.returned (.tuple #[.pointer (some ⟨b2,0,none⟩),.agg #[.bool false,.bool p,.bool l],.int .i64 0])∧Keeps (fun _=>False) w w'∧SameAt w.heap.size (sBk l s rt) (rBk l s rt) ln b2 w':=by
 obtain⟨hk,hfl⟩:=h.ks
 have hs:=h.len
 have hln:=h.ln
 cases l
 ·refine (q6q pv p (kssM s rt) ln lim w (labM s rt) hk (by omega) (by omega) hp (by omega)).mono ?_
  rw[if_neg (by omega)]
  rintro e w' ⟨hk',h⟩
  rcases h with⟨-,b,rfl,hQ⟩|⟨h,-⟩
  ·rw[q2m]
   exact⟨b,rfl,hk',hQ⟩
  ·exact absurd rfl h
 ·refine (q6m pv p s rt ln lim w (h.pl hP) hp (by omega)).mono ?_
  rw[if_neg (by omega)]
  rintro e w' ⟨hk',h⟩
  rcases h with⟨-,b,rfl,hQ⟩|⟨h,-⟩
  ·rw[q2m]
   exact⟨b,rfl,hk',hQ⟩
  ·exact absurd rfl h
theorem qa4 (b B:Nat) (lim:Int) (pv:Value) (p l:Bool) (s:List Nat) (rt:Int) (ln P n:Nat) (w:World) (h:PlaneS s rt ln P) (hP:P<30) (hS:StrAt w B b lim pv (filP p l ln (kssM s rt) (labM s rt)) n false) (hlim:30≤lim∧lim≤1000) :
  Calls Tryz.prog 46 #[.pointer (some ⟨b,0,none⟩)] w fun e w'=>∃ b2,e=.returned (.tuple #[.pointer (some ⟨b2,0,none⟩),.agg #[.bool false,.bool p,.bool l],.int .i64 0])∧Keeps (fun k=>k=b) w w'∧SameAt w.heap.size (sBk l s rt) (rBk l s rt) ln b2 w':=by
 refine (qe4 b B lim pv _ n w hS (fun P x y z c W=>c=0∧x=false∧y=p∧z=l∧∃ b2,P=.pointer (some ⟨b2,0,none⟩)∧SameAt (w.heap.size+1) (sBk l s rt) (rBk l s rt) ln b2 W) (fun W hW hsz=>?_)).mono ?_
 ·refine (q8r pv p l s rt ln P lim W h hP (hS.own.sl.keeps hW (fun q hq e=>hS.ne (by rw[hq,e]))) hlim).mono ?_
  rintro e w' ⟨b2,rfl,hk,hQ⟩
  exact⟨_,_,_,_,_,rfl,hk,rfl,rfl,rfl,rfl,b2,rfl,hQ.mono (by omega)⟩
 ·rintro e w' ⟨P',x,y,z,c,rfl,⟨w1,⟨rfl,rfl,rfl,rfl,b2,rfl,hQ⟩,hk1⟩,hk,-⟩
  have:=hS.lt
  exact⟨b2,rfl,hk,(hQ.keeps hk1 (fun x hx _ e=>by rcases e with e|e <;> omega)).mono (by omega)⟩
theorem qci {B:Nat} {w wr:World} {g vc N i na ca:Nat} {fs:List Nat} (h:OwnY B w (.slice (some ⟨g,0,none⟩) N vc) fs) (hk:Keeps (fun _=>False) w wr) (hN:N=fs.length) (hi:i+na=N) (hca:i+ca=vc) (h0:0<na) :
  ∃ y,Sl .u8 wr (.slice (some ⟨g,i,none⟩) 1 ca) (nats [y])∧fs.take i ++ [y]=fs.take (i+1):=by
 obtain⟨y,hy⟩:∃ y,fs[i]? = some y:=⟨_,List.getElem?_eq_getElem (by omega)⟩
 have h1:=((h.keeps hk (fun _ _ h=>h)).sl.tailY i (by omega)).take 1 (by rw[q02,List.length_drop];omega)
 have hd:fs.drop i=y :: fs.drop (i+1):=by
  rw[List.drop_eq_getElem_cons (by omega)]
  rw[List.getElem?_eq_getElem (by omega)] at hy
  rw[Option.some.inj hy]
 rw[Nat.zero_add,show vc - i=ca by omega,show (nats (fs.drop i)).take 1=nats [y] by rw[hd];simp[nats]] at h1
 exact⟨y,h1,(q0e hy).symm⟩
theorem qa5 {B:Nat} {w wr:World} {g vc N i na ca o:Nat} {fs:List Nat} (h:OwnY B w (.slice (some ⟨g,0,none⟩) N vc) fs) (hk:Keeps (fun _=>False) w wr) (hN:N=fs.length) (hi:i+na=N) (hca:i+ca=vc) (ha:0<na→o=i) (hnc:vc≤9223372036854775807) :
  Sl .u8 wr (.slice (some ⟨g,o,none⟩) na ca) (nats (fs.drop i)):=by
 by_cases h0:0<na
 ·have h1:=(h.keeps hk (fun _ _ h=>h)).sl.tailY i (by omega)
  rw[Nat.zero_add,show vc - i=ca by omega,show N - i=na by omega] at h1
  rw[ha h0];exact h1
 ·rw[List.drop_eq_nil_of_le (by omega),show na=0 by omega]
  exact⟨some ⟨g,o,none⟩,ca,by simp[nats],by simp[nats],by omega,(fun h=>by cases h),fun j z hj=>by simp[nats] at hj⟩
def BoolsIn (w:World) (a:Option Addr) (len cap:Nat):Prop :=
 (a=none∧len=0∧cap=0)∨∃ (x:Addr) (B:Nat→Bool),a=some x∧len≤cap∧cap≤maxLen∧∀ i,i<cap→w.cell? (x.add i)=some (.bool (B i))
theorem BoolsIn.at {w:World} {a:Option Addr} {len cap:Nat} (h:BoolsIn w a len cap):len≤9223372036854775807∧∀ i,i<len→∃ g off b,a=some ⟨g,off,none⟩∧g<w.heap.size∧w.cell? ⟨g,off+i,none⟩=some (.bool b):=by
 rcases h with⟨rfl,rfl,rfl⟩|⟨x,B,rfl,h1,h2,h3⟩
 ·exact⟨by decide,fun i hi=>by omega⟩
 ·refine⟨by unfold maxLen at h2;omega,fun i hi=>?_⟩
  have h0:=q6c (h3 0 (by omega))
  have e0:x.add 0=x:=by simp[Addr.add]
  rw[e0] at h0
  have hadd:x.add i=⟨x.block,x.off+i,none⟩:=by
   unfold Addr.add
   split
   ·rename_i hj0
    subst hj0
    exact h0
   ·rfl
  have hc:=h3 i (by omega)
  rw[hadd] at hc
  exact⟨x.block,x.off,B i,by rw[← h0],World.block_lt_of_cell? _ ⟨x.block,x.off+i,none⟩ hc,hc⟩
theorem walkStreamApart (a0 a1:Int) (a2:Option Addr) (len2 cap2:Nat) (z2:List Int) (a3:Option Addr) (len3 cap3:Nat) (z3:List Int) (a4:Option Addr) (len4 cap4:Nat) (w:World) (w0:(Lit.int .u8 a0).wf=true) (w1:(Lit.int .u8 a1).wf=true) (w2:RowIn .u8 w a2 len2 cap2 z2) (w3:RowIn .u8 w a3 len3 cap3 z3) (w4:BoolsIn w a4 len4 cap4) :
  Calls Tryz.prog 14 #[.int .u8 a0,.int .u8 a1,.slice a2 len2 cap2,.slice a3 len3 cap3,.slice a4 len4 cap4] w fun e w'=>e=.returned (.bool true)∧Below w.heap.size w w':=by
 have hnot:∀ (x:Bool) (w:World),(Op.unary .not (.bool x)).run Tryz.prog w=.ok (.bool (!x)) w:=fun _ _=>rfl
 obtain⟨a,rfl,ha⟩:=u8_in w0
 obtain⟨b,rfl,hb⟩:=u8_in w1
 obtain⟨ps,hp,hps⟩:=w2.bytes
 obtain⟨qs,hq,hqs⟩:=w3.bytes
 obtain⟨hK,hcell⟩:=w4.at
 have hMp:∀ W,Keeps (fun _=>False) w W→Calls Tryz.prog 41 #[.int .u8 a,.slice a2 len2 cap2,.int .u8 0,.slice none 0 0,.int .u8 0,.int .u8 0] W (qfw W (a % 30) false false):=fun W hk=>qa8 a 0 0 0 (.slice a2 len2 cap2) (.slice none 0 0) ps false false W ha (hp.keeps hk (fun _ _ h=>h)) hps (by decide) (by decide) (by decide) (by decide) (by decide)
 have hMq:∀ W,Keeps (fun _=>False) w W→Calls Tryz.prog 41 #[.int .u8 b,.slice a3 len3 cap3,.int .u8 4,.slice none 0 0,.int .u8 0,.int .u8 0] W (qfw W (b % 30) false true):=fun W hk=>qa8 b 4 0 4 (.slice a3 len3 cap3) (.slice none 0 0) qs false true W hb (hq.keeps hk (fun _ _ h=>h)) hqs (by decide) (by decide) (by decide) (by decide) (by decide)
 have HC:=Lib.hid hcell
 clear w0 w1 w2 w3 w4 hp hps hq hqs hcell
 go_enter Tryz.func14,Tryz.ntmps14
 go_wp2_with fail
 refine (qil _).mono ?_
 rintro e w1 ⟨rfl,hk1⟩
 have H1:=Lib.hid hk1
 have hMp1:=hMp w1 hk1
 have HMq:=Lib.hid hMq
 clear hk1 hMp hMq
 go_wp2_with fail
 refine hMp1.mono ?_
 clear hMp1
 rintro e w2 ⟨v,s,rt,ln,rfl,hPl,hO,hk2⟩
 have hk02:=H1.out.trans hk2 (fun _ _ h=>h)
 have hMq2:=HMq.out w2 hk02
 have H2:=Lib.hid (And.intro hk02 (And.intro hPl hO))
 clear hPl hO hk2 hk02
 go_wp2_with fail
 refine hMq2.mono ?_
 clear hMq2
 rintro e w3 ⟨v2,s2,rt2,ln2,rfl,hPl2,hO2,hk3⟩
 obtain⟨fs,hfs⟩:∃ fs,fs=filP false false ln (kssM s rt) (labM s rt):=⟨_,rfl⟩
 obtain⟨gs,hgs⟩:∃ gs,gs=filP false true ln2 (kssM s2 rt2) (labM s2 rt2):=⟨_,rfl⟩
 have hP30:a % 30<30:=Nat.mod_lt _ (by decide)
 have hQ30:b % 30<30:=Nat.mod_lt _ (by decide)
 have hbg:fs.length≤1700000∧0<fs.length:=by
  obtain⟨hks,hfl⟩:=H2.out.2.1.ks
  rw[hfs,q1n]
  have h1:=H2.out.2.1.len
  have h2:=H2.out.2.1.ln
  have:=qb6 false ln (kssM s rt) (labM s rt) hks (by omega) (by omega)
  omega
 have hbg2:gs.length≤1700000∧0<gs.length:=by
  obtain⟨hks,hfl⟩:=hPl2.ks
  rw[hgs,q1n]
  have h1:=hPl2.len
  have h2:=hPl2.ln
  have:=qc3 false ln2 (kssM s2 rt2) (labM s2 rt2) hks (by omega) (by omega) (qfl (by omega))
  omega
 have hO:=H2.out.2.2
 rw[← hfs] at hO
 rw[← hgs] at hO2
 have HP:=Lib.hid (And.intro H2.out.2.1 (And.intro hP30 (And.intro hfs (And.intro hPl2 (And.intro hQ30 hgs)))))
 have hk03:=H2.out.1.trans hk3 (fun _ _ h=>h)
 have hO3:=hO.keeps hk3 (fun _ _ h=>h)
 obtain⟨g,vc,hv,hgB,hgs1,hvc1,hvc2⟩:=hO3.row hbg.2
 obtain⟨g2,vc2,hv2,hgB2,hgs2,hvd1,hvd2⟩:=hO2.row hbg2.2
 obtain⟨N,hN⟩:∃ N,N=fs.length:=⟨_,rfl⟩
 obtain⟨P,hP⟩:∃ P,P=gs.length:=⟨_,rfl⟩
 rw[← hN] at hv hvc1 hbg
 rw[← hP] at hv2 hvd1 hbg2
 subst hv
 subst hv2
 have HN:=Lib.hid (And.intro hN hP)
 have H3:=Lib.hid (And.intro hk03 (And.intro hO3 hO2))
 have hN1:=q4p 50 w3
 clear H2 hfs hgs hPl2 hP30 hQ30 hO hO3 hO2 hk3 hk03 hN hP
 go_wp2_with fail
 refine hN1.mono ?_
 clear hN1
 rintro e w4 ⟨rfl,hS4,hk4⟩
 have hN2:=q4p 50 w4
 have HS4:=Lib.hid (And.intro hS4 hk4)
 clear hS4 hk4
 go_wp2_with fail
 refine hN2.mono ?_
 clear hN2
 rintro e w5 ⟨rfl,hT5,hk5⟩
 have hTw:Two 50 w3 w3.heap.size w4.heap.size [] [] w5:=by
  have h1:=HS4.out.1.lt
  have h3:=HS4.out.2.size
  exact⟨⟨_,_,HS4.out.1.keeps hk5 (fun h=>h) (fun _ _ h=>h),hT5,by simp[Value.ownBlock],by simp[Value.ownBlock],fun q hq=>by simp[Value.ownBlock] at hq⟩,HS4.out.2.trans hk5 (fun _ _ h=>h),Nat.le_refl _,h3,by omega⟩
 have hws:w3.heap.size<w4.heap.size:=hTw.lo.2.2 |> fun h1=>by have:=HS4.out.1.lt;omega
 have HT:=Lib.hid hTw
 clear hT5 hk5 hTw
 go_wp2_with fail
 go_loopg [15,16,45] len4 (fun mu va vb iv wr=>∃ t i j oa na ca ob nb cb:Nat,t≤len4∧mu=len4 - t∧iv=.int .i64 t∧i+na=N∧j+nb=P∧i+ca=vc∧j+cb=vc2 ∧
  va=.slice (some ⟨g,oa,none⟩) na ca∧vb=.slice (some ⟨g2,ob,none⟩) nb cb∧(0<na→oa=i)∧(0<nb→ob=j) ∧
  Two 50 w3 w3.heap.size w4.heap.size (fs.take i) (gs.take j) wr)
 case atStart=>exact⟨0,0,0,0,N,vc,0,P,vc2,Nat.zero_le _,by omega,rfl,by omega,by omega,by omega,by omega,rfl,rfl,fun _=>rfl,fun _=>rfl,HT.out⟩
 case round =>
  obtain⟨t,i,j,oa,na,ca,ob,nb,cb,ht,hgk,rfl,hi,hj,hca,hcb,rfl,rfl,ha1,hb1,hT⟩:=hrel
  have HG:=Lib.hid hgk
  clear hgk
  by_cases hlt:t<len4
  ·obtain⟨gb,off,bb,rfl,hgl,hc0⟩:=HC.out t hlt
   have hcb0:wr.cell? ⟨gb,off+t,none⟩=some (.bool bb):=(World.cell?_of_block ((H3.out.1.trans hT.kee (fun _ _ h=>h)).block gb hgl (fun h=>h))).trans hc0
   have t1:decide ((t:Int)<(len4:Int))=true:=decide_eq_true (by omega)
   have t2:decide (t<len4)=true:=decide_eq_true hlt
   have HB:=Lib.hid (And.intro hc0 (And.intro hgl (And.intro ha1 hb1)))
   clear hc0 ha1 hb1 HT
   cases bb
   ·by_cases hnb:0<nb
    ·have HA:=HB.out.2.2.1
     obtain rfl:=(HB.out.2.2.2 hnb).symm
     have HA:=Lib.hid HA
     have t3:decide (0<(nb:Int))=true:=decide_eq_true (by omega)
     have t4:decide (0<nb)=true:=decide_eq_true hnb
     obtain⟨y,hsl,hty⟩:=qci H3.out.2.2 hT.kee HN.out.2 hj hcb hnb
     have hF:=hT.swap.feed hsl (by rw[List.length_take];simp;omega) (by simp[Value.ownBlock];omega)
     rw[hty] at hF
     clear hsl hty hT
     go_wp2_with fail
     refine hF.mono ?_
     clear hF hcb0
     rintro e w6 ⟨rfl,hT6⟩
     have HT6:=Lib.hid hT6.swap
     clear hT6
     go_wp2_with fail
     all_goals
      go_roundg (len4 - (t+1))
      case measure=>rw[HG.out];omega
      case rel=>exact⟨t+1,i,j+1,oa,na,ca,_,nb - 1,_,by omega,rfl,by go_num,hi,by omega,hca,by omega,rfl,rfl,HA.out,by first|exact fun _=>rfl | (intro h0;exfalso;omega),HT6.out⟩
    ·have HA:=Lib.hid (And.intro HB.out.2.2.1 HB.out.2.2.2)
     have t3:decide (0<(nb:Int))=false:=decide_eq_false (by omega)
     have t4:decide (0<nb)=false:=decide_eq_false hnb
     have HT6:=Lib.hid hT
     clear hT
     go_wp2_with fail
     go_roundg (len4 - (t+1))
     case measure=>rw[HG.out];omega
     case rel=>exact⟨t+1,i,j,oa,na,ca,ob,nb,cb,by omega,rfl,by go_num,hi,hj,hca,hcb,rfl,rfl,HA.out.1,HA.out.2,HT6.out⟩
   ·by_cases hnb:0<na
    ·have HA:=HB.out.2.2.2
     obtain rfl:=(HB.out.2.2.1 hnb).symm
     have HA:=Lib.hid HA
     have t3:decide (0<(na:Int))=true:=decide_eq_true (by omega)
     have t4:decide (0<na)=true:=decide_eq_true hnb
     obtain⟨y,hsl,hty⟩:=qci H3.out.2.1 hT.kee HN.out.1 hi hca hnb
     have hF:=hT.feed hsl (by rw[List.length_take];simp;omega) (by simp[Value.ownBlock];omega)
     rw[hty] at hF
     clear hsl hty hT
     go_wp2_with fail
     refine hF.mono ?_
     clear hF hcb0
     rintro e w6 ⟨rfl,hT6⟩
     have HT6:=Lib.hid hT6
     clear hT6
     go_wp2_with fail
     all_goals
      go_roundg (len4 - (t+1))
      case measure=>rw[HG.out];omega
      case rel=>exact⟨t+1,i+1,j,_,na - 1,_,ob,nb,cb,by omega,rfl,by go_num,by omega,hj,by omega,hcb,rfl,rfl,by first|exact fun _=>rfl | (intro h0;exfalso;omega),HA.out,HT6.out⟩
    ·have HA:=Lib.hid (And.intro HB.out.2.2.1 HB.out.2.2.2)
     have t3:decide (0<(na:Int))=false:=decide_eq_false (by omega)
     have t4:decide (0<na)=false:=decide_eq_false hnb
     have HT6:=Lib.hid hT
     clear hT
     go_wp2_with fail
     go_roundg (len4 - (t+1))
     case measure=>rw[HG.out];omega
     case rel=>exact⟨t+1,i,j,oa,na,ca,ob,nb,cb,by omega,rfl,by go_num,hi,hj,hca,hcb,rfl,rfl,HA.out.1,HA.out.2,HT6.out⟩
  ·have t1:decide ((t:Int)<(len4:Int))=false:=decide_eq_false (by omega)
   have t2:decide (t<len4)=false:=decide_eq_false hlt
   have hr1:=fun W (k:Keeps (fun _=>False) w3 W)=>qa5 H3.out.2.1 k HN.out.1 hi hca ha1 hvc2
   have hr2:=fun W (k:Keeps (fun _=>False) w3 W)=>qa5 H3.out.2.2 k HN.out.2 hj hcb hb1 hvd2
   have hF:=hT.feed (hr1 wr hT.kee) (by have:=HN.out;rw[List.length_take,List.length_drop];omega) (by simp[Value.ownBlock];omega)
   rw[List.take_append_drop] at hF
   have HR:=Lib.hid hr2
   clear ha1 hb1 HT HC hT hr1 hr2
   go_wp2_with fail
   refine hF.mono ?_
   clear hF
   rintro e w6 ⟨rfl,hT6⟩
   have hF:=hT6.swap.feed (HR.out w6 hT6.kee) (by have:=HN.out;rw[List.length_take,List.length_drop];omega) (by simp[Value.ownBlock];omega)
   rw[List.take_append_drop] at hF
   clear hT6 HR
   go_wp2_with fail
   refine hF.mono ?_
   clear hF
   rintro e w7 ⟨rfl,hT7⟩
   obtain⟨⟨qs',qt,hS,hTt,hst,hts,hpp⟩,hkw,hlo⟩:=hT7.swap
   have hS2:=hS
   rw[HP.out.2.2.1] at hS2
   have hD1:=qa4 _ _ 50 qs' false false s rt ln _ _ w7 HP.out.1 HP.out.2.1 hS2 (by decide)
   have HT2:=Lib.hid (And.intro hTt (And.intro hts hkw))
   have hb7:w3.heap.size<w7.heap.size∧w4.heap.size<w7.heap.size:=⟨hS.lt,hTt.lt⟩
   clear hS hS2 hTt hst hts hpp hkw hlo hT7
   go_wp2_with fail
   refine hD1.mono ?_
   clear hD1
   rintro e w8 ⟨b1,rfl,hk8,hA1⟩
   obtain⟨wB,hwB⟩:∃ wB,wB=w8.alloc (.cells #[.bool false,.bool false,.bool false] 35):=⟨_,rfl⟩
   have k8B:Keeps (fun _=>False) w8 wB:=by rw[hwB];exact (Keeps.refl (fun _=>False) w8).alloc _
   have kB:=hk8.trans k8B (fun _ _ h=>h.elim)
   have hTB:=HT2.out.1.keeps kB (fun e=>by omega) (fun q hq e=>HT2.out.2.1 (by rw[hq,e]))
   have hk3B:Keeps (fun _=>False) w3 wB:=HT2.out.2.2.trans kB (fun q hq e=>by omega)
   have hAB:=hA1.keeps k8B (fun _ _ _ h=>h)
   have hOv:=qf1 _ _ _ _ _ _ _ wB hTB
   have hLn:=qah _ _ _ _ _ _ _ wB hTB
   rw[← HN.out.2] at hLn
   have hTB2:=hTB
   rw[HP.out.2.2.2.2.2] at hTB2
   have hD2:=qa4 _ _ 50 qt false true s2 rt2 ln2 _ _ wB HP.out.2.2.2.1 HP.out.2.2.2.2.1 hTB2 (by decide)
   have hbB:w7.heap.size≤wB.heap.size:=kB.size
   have HB:=Lib.hid (And.intro hk3B hAB)
   have t3:((P:Int) != (P:Int))=false:=by simp
   clear hk8 hA1 k8B kB hTB hk3B hAB hTB2 HT2
   go_wp2_with fail
   rw[← hwB]
   refine hOv.mono ?_
   clear hOv
   rintro e w9 ⟨rfl,rfl⟩
   clear hwB
   go_wp2_with fail
   refine hLn.mono ?_
   clear hLn
   rintro e w9 ⟨rfl,rfl⟩
   go_wp2_with fail
   refine hD2.mono ?_
   clear hD2
   rintro e w9 ⟨b2,rfl,hk9,hA2⟩
   obtain⟨wC,hwC⟩:∃ wC,wC=w9.alloc (.cells #[.bool false,.bool false,.bool true] 35):=⟨_,rfl⟩
   have k9C:Keeps (fun _=>False) w9 wC:=by rw[hwC];exact (Keeps.refl (fun _=>False) w9).alloc _
   have hcl:wC.cell? ⟨w9.heap.size,2,none⟩=some (.bool true):=by
    rw[hwC];exact World.cell_of_heap (heap_alloc_new w9 _) 2
   have hk3C:Keeps (fun _=>False) w3 wC:=(HB.out.1.trans hk9 (fun q hq e=>by omega)).trans k9C (fun _ _ h=>h)
   have hA1C:=(HB.out.2.keeps hk9 (fun x hx _ e=>by omega)).keeps k9C (fun _ _ _ h=>h)
   have hA2C:=hA2.keeps k9C (fun _ _ _ h=>h)
   have hs9:w9.heap.size<wC.heap.size:=by rw[hwC];simp
   have hOC:=H3.out.2.1.keeps hk3C (fun _ _ h=>h)
   have hsl:=hOC.sl
   rw[HP.out.2.2.1] at hsl
   have hD3:=q8r _ false false s rt ln _ 50 wC HP.out.1 HP.out.2.1 hsl (by decide)
   have HC1:=Lib.hid (And.intro hk3C (And.intro hA1C (And.intro hA2C (And.intro hcl hs9))))
   clear hk9 hA2 k9C hcl hk3C hA1C hA2C hOC hsl HB hs9
   go_wp2_with fail
   rw[← hwC]
   clear hwC
   refine hD3.mono ?_
   clear hD3
   rintro e wD ⟨b3,rfl,hkD,hA3⟩
   obtain⟨wE,hwE⟩:∃ wE,wE=wD.alloc (.cells #[.bool false,.bool false,.bool false] 35):=⟨_,rfl⟩
   have kDE:Keeps (fun _=>False) wD wE:=by rw[hwE];exact (Keeps.refl (fun _=>False) wD).alloc _
   have kCE:=hkD.trans kDE (fun _ _ h=>h)
   have hA3E:=hA3.keeps kDE (fun _ _ _ h=>h)
   have hOE:=H3.out.2.2.keeps (HC1.out.1.trans kCE (fun _ _ h=>h)) (fun _ _ h=>h)
   have hsl:=hOE.sl
   rw[HP.out.2.2.2.2.2] at hsl
   have hD4:=q8r _ false true s2 rt2 ln2 _ 50 wE HP.out.2.2.2.1 HP.out.2.2.2.2.1 hsl (by decide)
   have HE:=Lib.hid (And.intro kCE hA3E)
   clear hkD hA3 kDE kCE hA3E hOE hsl
   go_wp2_with fail
   rw[← hwE]
   clear hwE
   refine hD4.mono ?_
   clear hD4
   rintro e wF ⟨b4,rfl,hkF,hA4⟩
   obtain⟨wG,hwG⟩:∃ wG,wG=wF.alloc (.cells #[.bool false,.bool false,.bool true] 35):=⟨_,rfl⟩
   have kFG:Keeps (fun _=>False) wF wG:=by rw[hwG];exact (Keeps.refl (fun _=>False) wF).alloc _
   have kEG:=hkF.trans kFG (fun _ _ h=>h)
   have kCG:=HE.out.1.trans kEG (fun _ _ h=>h)
   have hclG:wG.cell? ⟨w9.heap.size,2,none⟩=some (.bool true):=(World.cell?_of_block (kCG.block _ HC1.out.2.2.2.2 (fun h=>h))).trans HC1.out.2.2.2.1
   have g1:=HC1.out.2.1.keeps kCG (fun _ _ _ h=>h)
   have g2':=HC1.out.2.2.1.keeps kCG (fun _ _ _ h=>h)
   have g3:=HE.out.2.keeps kEG (fun _ _ _ h=>h)
   have g4:=hA4.keeps kFG (fun _ _ _ h=>h)
   have hS1:Calls Tryz.prog 31 #[.pointer (some ⟨b1,0,none⟩),.pointer (some ⟨b3,0,none⟩)] wG fun e w'=>e=.returned (.bool true)∧Keeps (fun _=>False) wG w':=by
    obtain⟨R,hM,-,-⟩:=g1
    obtain⟨R2,hM2,-,-⟩:=g3
    exact q9u hM hM2 (qj2 HP.out.1 HP.out.2.1)
   have hS2:∀ W,Keeps (fun _=>False) wG W→Calls Tryz.prog 31 #[.pointer (some ⟨b2,0,none⟩),.pointer (some ⟨b4,0,none⟩)] W fun e w'=>e=.returned (.bool true)∧Keeps (fun _=>False) W w':=fun W hW=>by
    obtain⟨R,hM,-,-⟩:=g2'.keeps hW (fun _ _ _ h=>h)
    obtain⟨R2,hM2,-,-⟩:=g4.keeps hW (fun _ _ _ h=>h)
    exact q9u hM hM2 (qj2 HP.out.2.2.2.1 HP.out.2.2.2.2.1)
   have HS2:=Lib.hid hS2
   have HG2:=Lib.hid (And.intro (H3.out.1.trans (HC1.out.1.trans kCG (fun _ _ h=>h)) (fun _ _ h=>h)) trivial)
   have hclF:=hclG
   rw[hwG] at hclF
   clear hkF hA4 kFG kEG kCG g1 g2' g3 g4 hS2
   go_wp2_with fail
   rw[← hwG]
   clear hwG
   refine hS1.mono ?_
   clear hS1
   rintro e wH ⟨rfl,hkH⟩
   have hS2:=HS2.out wH hkH
   have HH:=Lib.hid (HG2.out.1.trans hkH (fun _ _ h=>h))
   clear hkH
   go_wp2_with fail
   refine hS2.mono ?_
   clear hS2
   rintro e wI ⟨rfl,hkI⟩
   have HI:=Lib.hid (HH.out.trans hkI (fun _ _ h=>h))
   clear hkI
   go_wp2_with fail
   go_ret
   exact⟨by simp,HI.out.below (fun _ _ h=>h)⟩
end
end Go.Proofs.YtcfdpogegngplaaGreat
