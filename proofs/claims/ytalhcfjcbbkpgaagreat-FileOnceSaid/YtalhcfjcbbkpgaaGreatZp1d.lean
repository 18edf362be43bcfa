import Derived.Test.YtalhcfjcbbkpgaaGreatZp1c
set_option maxRecDepth 100000
set_option maxHeartbeats 4000000
namespace Go.Proofs.YtalhcfjcbbkpgaaGreat
section
open Go.RowKit
structure DC (w0:World)(b:Nat)(s:List Nat)(root lone:Int)(R Mw:Nat->Prop)(bw dL:Nat)(dv:Value)(k0 k1 k2:Nat)(ds:List Nat)(bt gt go:Nat)(r N B:Nat)(k:Nat)(v:Value)(ps:List (Int × Int))(vt vo:Value)(wr:World):Prop where
 ow:gB B wr v ps
 tr:iy w0 b s root lone R (fun x=>Mw x\/v.ownBlock=some x) bw dL dv k0 k1 k2 (jK (sg s) r s.length N 0) ds bt gt go (fc (sg s) (fc (sg s) r)) (mt (fc (sg s) r)) vt vo (iH (sg s) r N (min k s.length)) (iE (sg s) r N (min k s.length)) wr
 ps1:k<=s.length->ps=kG (sg s) r N k
 ps2:s.length<k->ps=[]
 vb:∀q,v.ownBlock=some q->¬Mw q
section
variable {w0:World} {b:Nat} {s:List Nat} {root lone:Int} {R Mw:Nat->Prop} {bw dL:Nat} {dv:Value} {k0 k1 k2:Nat} {ds:List Nat} {bt gt go:Nat} {r N:Nat} {vt vo:Value} {wr:World}
def Xq(w0:World)(b:Nat)(s:List Nat)(root lone:Int)(R:Nat->Prop)(bw dL:Nat)(dv:Value)(k0 k1 k2:Nat)(ds:List Nat)(bt gt go:Nat)(r N:Nat)(e:Ending)(w':World):Prop :=
 e=.returned (.tuple #[])/\∃a c d,iy w0 b s root lone R a bw dL dv k0 k1 k2 (jK (sg s) r s.length N 0) ds bt gt go (fc (sg s) (fc (sg s) r)) (mt (fc (sg s) r)) c d (iH (sg s) r N s.length) (iE (sg s) r N s.length) w'
theorem Xr(h:iy w0 b s root lone R Mw bw dL dv k0 k1 k2 (jK (sg s) r s.length N 0) ds bt gt go (fc (sg s) (fc (sg s) r)) (mt (fc (sg s) r)) vt vo [] [] wr)(T:jO s.length (sg s))(hr:r<s.length)(K:dJ s.length (sg s) r N)(bn:s.length<=131072) :
  Calls Tryz.prog 161 #[.pointer (some ⟨bt,0,none⟩),.int .i64 (fc (sg s) (fc (sg s) r):Nat),.int .i64 (-1)] wr (Xq w0 b s root lone R bw dL dv k0 k1 k2 ds bt gt go r N):=by
 have a:=dh (dn T (dn hr K));have aP:=dh (dn h.mw (fun x (hx:Mw x)=>h.old hx))
 have aQ:DC w0 b s root lone R Mw bw dL dv k0 k1 k2 ds bt gt go r N wr.heap.size 0 (.slice (some ⟨wr.heap.size,0,none⟩) 1 1) (kG (sg s) r N 0) vt vo (wr.alloc (.cells #[.int .i64 (fc (sg s) (fc (sg s) r):Nat),.int .i64 (-1)] 217)):=by
  have k:=(Keeps.refl (fun _=>False) wr).alloc (.cells #[.int .i64 (fc (sg s) (fc (sg s) r):Nat),.int .i64 (-1)] 217);have e:=heap_alloc_new wr (.cells #[.int .i64 (fc (sg s) (fc (sg s) r):Nat),.int .i64 (-1)] 217);have e2:=lt_of_block e
  have hT:iy w0 b s root lone R (fun x=>Mw x\/(Value.slice none 0 0).ownBlock=some x) bw dL dv k0 k1 k2 (jK (sg s) r s.length N 0) ds bt gt go (fc (sg s) (fc (sg s) r)) (mt (fc (sg s) r)) vt vo [] [] wr:=by
   have e3:(fun x=>Mw x\/(Value.slice none 0 0).ownBlock=some x)=Mw:=by funext x;simp[Value.ownBlock]
   rw[e3];exact h
  refine⟨?_,?_,fun _=>rfl,fun e=>by omega,fun q i hm=>?_⟩
  ·have:=gB.made wr (fc (sg s) (fc (sg s) r):Nat) (-1);have e4:kG (sg s) r N 0=[(((fc (sg s) (fc (sg s) r):Nat):Int),-1)]:=by unfold kG;rw[O6];rfl
   rw[e4];exact this
  ·rw[Nat.zero_min];exact hT.wait (k.mono (fun _ _ e=>e.elim)) h.mw (fun q i=>by cases i) (fun q i=>.inr (by simp only [Value.ownBlock,Option.some.injEq]at i;subst i;exact⟨Nat.le_refl _,e2⟩))
  ·simp only [Value.ownBlock,Option.some.injEq]at i;subst i;have:=h.old hm;omega
 have az:=dh aQ;obtain⟨B,hB⟩:∃B,B=wr.heap.size:=⟨_,rfl⟩
 rw[<-hB]at az;clear h T K hr aQ;go_enter Tryz.func161,Tryz.ntmps161;go_wp2_with fail;rw[<-hB];generalize wr.alloc _=w1 at *;have aA:Hid (Mw bw/\Mw dL/\∀q,dv.ownBlock=some q->Mw q):=dh aP.out.1;clear aP hB;obtain⟨n,hn⟩:∃n,n=s.length:=⟨_,rfl⟩
 have Q:=dh hn;rw[<-hn]at bn;clear hn;go_loopg [6] (n+1) (fun mu v wr=>∃k:Nat,k<=n+1/\mu=n+1 - k/\∃ps vt vo,DC w0 b s root lone R Mw bw dL dv k0 k1 k2 ds bt gt go r N B k v ps vt vo wr)
 case atStart=>exact⟨0,Nat.zero_le _,rfl,_,_,_,az.out⟩
 case round =>
  clear az;obtain⟨k,hk,aR,ps,af,U,hA⟩:=hrel;have HG:=dh aR;clear aR;by_cases aB:n<k
  ·have ab:=hA.ps2 (by rw[<-Q.out];exact aB);subst ab;obtain⟨va,vc,rfl⟩:=hA.ow.VH;have hT:=hA.tr;rw[show min k s.length=s.length by have:=Q.out;omega]at hT;have HF:=dh hT;clear hA hT aB;go_wp2;go_end0;exact⟨rfl,_,_,_,HF.out⟩
  have V:k<=s.length:=by rw[<-Q.out];omega
  have bD:k<=n:=by omega
  have ab:=hA.ps1 V;obtain⟨t1,f1,f2,f3⟩:=Ph (sg s) (fQ (sg s) r N k) ((jw (sg s) r N k:Nat):Int) (jy (sg s) r N k);have aC:ps.length=(fQ (sg s) r N k).length+1:=by rw[ab];unfold kG;rw[List.length_reverse,yT]
  have aS:=J2 (sg s) r N k;obtain⟨g,cap,rfl,aT⟩:=hA.ow.isS (by omega);have o:ps[(fQ (sg s) r N k).length]? = some (((jw (sg s) r N k:Nat):Int),t1):=by rw[ab];exact f1
  obtain⟨c1,c2,an,ao⟩:=hA.ow.cell o;have t:=a.out.1.sj a.out.2.1 (N:=N) k;obtain⟨m,hm⟩:∃m,m=(fQ (sg s) r N k).length:=⟨_,rfl⟩
  obtain⟨L,hL⟩:∃L,L=ps.length:=⟨_,rfl⟩
  obtain⟨x,hx⟩:∃x,x=jw (sg s) r N k:=⟨_,rfl⟩
  rw[<-hm]at c1 c2 an ao aC o aS f2;rw[<-hL]at aC aT hA ⊢;rw[<-hx]at c1 t;have bE:IntKind.i64.wrap ((L:Int) - 1)=(m:Int):=by rw[show ((L:Int) - 1)=(m:Int) by omega];exact IntWalk.i64_in _ (by omega)
  have l1:m<L:=by omega
  have l2:(m:Int)<(L:Int):=by omega
  have l3:0<L:=by omega
  have l4:decide (0<(L:Int))=true:=decide_eq_true (by omega);have l5:decide (0<L)=true:=decide_eq_true (by omega);have bF:m<=cap:=by omega
  have c:=dh (dn hm (dn hL (dn hx (dn ab (dn o (dn f2 (dn f3 V)))))));have HA:=dh hA;clear hA hm hL hx ab o f1 f2 f3 V aB aC aS;by_cases W:t1=(x:Int)
  ·subst W;have tt:((x:Int) == (x:Int))=true:=beq_self_eq_true _;have ag:=HA.out.ow.take (by have:=c.out.2.1;omega) m (by have:=c.out.2.1;omega);by_cases ah:m=0
   ·
    subst ah
    have av:k=n:=by
     have Z:fQ (sg s) r N k=[]:=List.eq_nil_of_length_eq_zero c.out.1.symm
     have u:((x:Nat):Int)=jy (sg s) r N k:=by
      rcases c.out.2.2.2.2.2.2.1 with⟨-,e⟩|⟨y,l,e,-⟩
      ·exact e
      ·rw[Z]at e;cases e
     rcases Nat.lt_or_ge k n with e|e
     ·have bo:x=fc (sg s) (fc (sg s) r):=by
       rcases Pg (sg s) r N k with e2|e2
       ·rw[e2]at u;omega
       ·rw[e2]at u;omega
      have h0:k=0:=a.out.2.2.vw a.out.1 a.out.2.1 (by rw[<-Q.out];exact e) (by rw[<-Q.out];omega) (by rw[<-c.out.2.2.1,bo];rfl);subst h0;rw[O6]at u;omega
     ·omega
    have HF:Hid (DC w0 b s root lone R Mw bw dL dv k0 k1 k2 ds bt gt go r N B (k+1) (.slice (some ⟨g,0,none⟩) 0 cap) [] af U wr):=dh (by have hT:=HA.out.tr;rw[show min k s.length=min (k+1) s.length by have:=Q.out;omega]at hT;exact⟨by simpa using ag,hT,fun e=>by have:=Q.out;omega,fun _=>rfl,HA.out.vb⟩);have HE:=dh av;clear ag av HA;go_wp2_with fail;go_roundg (n+1 - (k+1))
    case measure=>rw[HG.out];have:=HE.out;omega
    case rel=>exact⟨k+1,by have:=HE.out;omega,rfl,_,_,_,HF.out⟩
   ·
    have d:=HA.out.tr;obtain⟨R',ai,-,-⟩:=d.wm.m.mp;have ad:=sZ ai x t;have ap:=dQ a.out.1.even t
    obtain⟨y,l,F⟩:∃y l,fQ (sg s) r N k=y :: l:=by
     rcases u:fQ (sg s) r N k with _|⟨y,l⟩
     ·rw[u]at c;exact absurd c.out.1 ah
     ·exact⟨_,_,rfl⟩
    have aU:x=mt y:=by
     rcases c.out.2.2.2.2.2.2.1 with⟨e,-⟩|⟨y',l',e,e2⟩
     ·rw[F]at e;cases e
     ·rw[F]at e;obtain⟨rfl,rfl⟩:=List.cons.inj e;omega
    have G:k<n:=by
     rcases Nat.lt_or_ge k n with e|e
     ·exact e
     ·have:=a.out.2.2.vC a.out.1 a.out.2.1;rw[show k=s.length by have:=Q.out;omega,this]at F;cases F
    obtain⟨u1,u2,u3,u4,u5⟩:=a.out.2.2.zY a.out.1 a.out.2.1 c.out.2.2.2.2.2.2.2 F (by rw[<-c.out.2.2.1];exact aU);have aV:=a.out.2.2.nV a.out.1 a.out.2.1;have bp:=oV (sg s) s.length;have aj:=Pj (sg s) r N (j:=k) (s.length - k);rw[show k+(s.length - k)=s.length by have:=Q.out;omega]at aj;have aD:=J4 (sg s) r N k;have A:=Q.out;have H:min k s.length=k:=by omega
    rw[H]at d;have aE:=Xo d (mt x) ap (by omega) (by omega);rw[dF,qm a.out.1 t,c.out.2.2.1,<-u4,<-u5,<-c.out.2.2.1]at aE;have c5:=d.c1;have ak:ps.take m=kG (sg s) r N (k+1):=by rw[c.out.2.2.2.1];unfold kG;rw[F,u1,u2,u3];simp only [sH,List.reverse_cons];rw[List.take_left' (by rw[List.length_reverse,yT,c.out.1,F];rfl)]
    have HF:Hid (∀X C D,iy w0 b s root lone R (fun x=>Mw x\/(Value.slice (some ⟨g,0,none⟩) L cap).ownBlock=some x) bw dL dv k0 k1 k2 (jK (sg s) r s.length N 0) ds bt gt go (fc (sg s) (fc (sg s) r)) (mt (fc (sg s) r)) C D (iH (sg s) r N (k+1)) (iE (sg s) r N (k+1)) X->kL gt go af U wr C D X->DC w0 b s root lone R Mw bw dL dv k0 k1 k2 ds bt gt go r N B (k+1) (.slice (some ⟨g,0,none⟩) m cap) (kG (sg s) r N (k+1)) C D X):=dh (fun X C D h1 h2=>by
     rw[ak]at ag;refine⟨ag.keeps h2.1 (fun q i e=>?_),by rw[show min (k+1) s.length=k+1 by omega];exact h1,fun _=>rfl,fun e=>by omega,HA.out.vb⟩;simp only [Value.ownBlock,Option.some.injEq]at i;subst i;obtain⟨n1,n2,n3,-⟩:=d.ne;rcases e with e|e|e|e
     ·exact n2 (.inr (by rw[<-e];rfl))
     ·exact n3 (.inr (by rw[<-e];rfl))
     ·exact(d.nt _ e).1 (.inr rfl)
     ·exact(d.no _ e).1 (.inr rfl))
    have bG:decide (0<(m:Int))=true:=decide_eq_true (by omega);have bH:decide (0<m)=true:=decide_eq_true (by omega);have bI:0<m:=by omega
    have HE:=dh G;clear ag ak d ai F aU G u1 u2 u3 u4 u5 aV bp aj aD A H HA ah;go_wp2_with fail;refine ad.mono ?_;rintro e w' ⟨rfl,rfl⟩;go_wp2_with fail;refine aE.mono ?_;rintro e X ⟨rfl,C,D,h1,h2⟩;have bq:=dh (HF.out X C D h1 h2);clear aE ad h1 h2;go_wp2_with fail;go_roundg (n+1 - (k+1))
    case measure=>rw[HG.out];have:=HE.out;omega
    case rel=>exact⟨k+1,by have:=HE.out;omega,rfl,_,_,_,bq.out⟩
  ·have tt:((x:Int) == t1)=false:=by rw[beq_eq_false_iff_ne];exact fun e=>W e.symm
   have d:=HA.out.tr;obtain⟨R',ai,-,-⟩:=d.wm.m.mp;have A:=Q.out;have V:=c.out.2.2.2.2.2.2.2
   have G:k<n:=by
    rcases Nat.lt_or_ge k n with e|e
    ·exact e
    ·have aF:k=s.length:=by omega
     have h1:=a.out.2.2.vC a.out.1 a.out.2.1;have h2:=a.out.2.2.zX a.out.1 a.out.2.1;have h3:=a.out.2.2.vB a.out.1 a.out.2.1;rcases c.out.2.2.2.2.2.2.1 with⟨-,e⟩|⟨y,l,e,-⟩
     ·rw[aF,h2]at e;rw[c.out.2.2.1,aF,h3]at W;exact absurd e W
     ·rw[aF,h1]at e;cases e
   have H:min k s.length=k:=by omega
   rw[H]at d
   have aw:¬kid (sg s) r N (mt x):=by
    rw[c.out.2.2.1];rcases c.out.2.2.2.2.2.2.1 with⟨e,-⟩|⟨y,l,e,e2⟩
    ·exact a.out.2.2.zU a.out.1 a.out.2.1 V e
    ·intro aG;have:=((a.out.2.2.uG a.out.1 a.out.2.1 V e).1).1 aG;rw[c.out.2.2.1,this]at W;exact W e2
   have ap:=dQ a.out.1.even t;have bC:sg s x<s.length:=a.out.1.slt t;have I:=vW (ai.keeps (Keeps.refl (fun _=>False) wr).drew (fun h=>h) (fun _ _ h=>h)) x t;have aW:bt≠g:=fun e=>d.ne.1 (.inr (by rw[e];rfl));obtain⟨E,ae⟩:∃E,E=sg s x:=⟨_,rfl⟩
   rw[<-ae]at I;have aX:Hid (∀X,Keeps (fun q=>(Value.slice (some ⟨g,0,none⟩) L cap).ownBlock=some q) wr X->iy w0 b s root lone R (fun x=>Mw x\/(Value.slice (some ⟨g,0,none⟩) L cap).ownBlock=some x) bw dL dv k0 k1 k2 (jK (sg s) r s.length N 0) ds bt gt go (fc (sg s) (fc (sg s) r)) (mt (fc (sg s) r)) af U (iH (sg s) r N k) (iE (sg s) r N k) X):=dh (fun X aG=>by obtain⟨m1,m2,m3⟩:=aA.out;exact d.wait aG aA.out HA.out.vb (fun q i=>.inl i));have c5:=d.c1;have br:=dh HA.out.ow;have aH:=dh HA.out.vb;have HX:=dh (dn G (dn aw (dn ap ae)));clear d ai G H aw ap ae HA W V A;have aI:wr.drew.cell? ⟨bt,1,none⟩=some (.pointer (some ⟨b,0,none⟩)):=c5;have aY:((wr.drew).setCell ⟨g,m * 2,none⟩ (.int .i64 (E:Nat))).cell? ⟨bt,1,none⟩=some (.pointer (some ⟨b,0,none⟩)):=(World.cell?_setCell_other _ ⟨g,m * 2,none⟩ ⟨bt,1,none⟩ _ (fun e=>aW (congrArg Addr.block e).symm)).trans aI;have aZ:(wr.setCell ⟨g,m * 2,none⟩ (.int .i64 (E:Nat))).cell? ⟨bt,1,none⟩=some (.pointer (some ⟨b,0,none⟩)):=(World.cell?_setCell_other _ ⟨g,m * 2,none⟩ ⟨bt,1,none⟩ _ (fun e=>aW (congrArg Addr.block e).symm)).trans c5;go_wp2_with fail;go_region_held3 (fun w'=>w'.cell? ⟨bt,1,none⟩=some (.pointer (some ⟨b,0,none⟩))) (first|exact c5|exact aI|exact aY|exact aZ) (first | (go_at_call 125;refine I.mono ?_;rintro e w' ⟨rfl,rfl⟩));clear c5 aI aY aZ I c1 c2 an ao;have k2:Keeps (fun q=>(Value.slice (some ⟨g,0,none⟩) L cap).ownBlock=some q) wr ((wr.setCell ⟨g,m * 2,none⟩ (.int .i64 (E:Nat))).drew):=((Keeps.refl (fun q=>(Value.slice (some ⟨g,0,none⟩) L cap).ownBlock=some q) wr).setCell (p:=⟨g,m * 2,none⟩) (.inl rfl) _).drew;have aq:gB B ((wr.setCell ⟨g,m * 2,none⟩ (.int .i64 (E:Nat))).drew) (.slice (some ⟨g,0,none⟩) L cap) (sH (sg s) (fQ (sg s) r N k) ((E:Nat):Int) (jy (sg s) r N k)).reverse:=by have h1:=(br.out.set1 c.out.2.2.2.2.1 ((E:Nat):Int)).keeps ((Keeps.refl (fun _=>False) _).drew) (fun _ _ h=>h);rw[c.out.2.2.2.1]at h1;unfold kG at h1;rw[c.out.2.2.2.2.2.1]at h1;exact h1
   generalize ((wr.setCell ⟨g,m * 2,none⟩ (.int .i64 (E:Nat))).drew)=X at *
   have al:(sH (sg s) (fQ (sg s) r N k) ((E:Nat):Int) (jy (sg s) r N k)).reverse[m]? = some (((E:Nat):Int),t1):=by
    obtain⟨t2,g1,g2,g3⟩:=Ph (sg s) (fQ (sg s) r N k) ((E:Nat):Int) (jy (sg s) r N k)
    have e:t2=t1:=by
     rcases g3 with⟨a1,a2⟩|⟨y,l,a1,a2⟩
     ·rcases c.out.2.2.2.2.2.2.1 with⟨J,b2⟩|⟨y',l',J,b2⟩
      ·rw[a2,b2]
      ·rw[a1]at J;cases J
     ·rcases c.out.2.2.2.2.2.2.1 with⟨J,b2⟩|⟨y',l',J,b2⟩
      ·rw[a1]at J;cases J
      ·rw[a1]at J;obtain⟨rfl,rfl⟩:=List.cons.inj J;rw[a2,b2]
    rw[c.out.1,<-e];exact g1
   obtain⟨c1,c2,an,ao⟩:=aq.cell al;obtain⟨M,aa⟩:=JW (t1<0/\E=fc (sg s) (fc (sg s) r))
   have O:Hid (∀w3,(M=false->w3=X)->(M=true->w3=X.setCell ⟨g,m * 2+1,none⟩ (.int .i64 (fc (sg s) (fc (sg s) r):Nat)))->gB B w3 (.slice (some ⟨g,0,none⟩) L cap) (sH (sg s) (fQ (sg s) r N k) ((E:Nat):Int) (jy (sg s) r N (k+1))).reverse/\Keeps (fun q=>(Value.slice (some ⟨g,0,none⟩) L cap).ownBlock=some q) wr w3):=dh (by
    intro w3 h1 h2;have ae:=HX.out.2.2.2;have f:=c.out.2.2.1;cases M
    ·rw[h1 rfl]
     have u:jy (sg s) r N (k+1)=jy (sg s) r N k:=by
      by_cases e:sg s (jw (sg s) r N k)=fc (sg s) (fc (sg s) r)
      ·rw[O7 e];rcases Pg (sg s) r N k with e2|e2
       ·rcases c.out.2.2.2.2.2.2.1 with⟨J,b2⟩|⟨y',l',J,b2⟩
        ·have:(false=true):=aa.2 ⟨by rw[b2,e2];omega,by rw[ae,f,e]⟩;cases this
        ·exact absurd e (a.out.2.2.tQ a.out.1 a.out.2.1 c.out.2.2.2.2.2.2.2 J)
       ·rw[e2]
      ·exact O9 e
     rw[u];exact⟨aq,k2⟩
    ·rw[h2 rfl];obtain⟨b0,J⟩:=aa.1 rfl;have h3:=aq.set2 al ((fc (sg s) (fc (sg s) r):Nat):Int)
     have Z:fQ (sg s) r N k=[]:=by
      rcases c.out.2.2.2.2.2.2.1 with⟨J,b2⟩|⟨y',l',J,b2⟩
      ·exact J
      ·rw[b2]at b0;omega
     have ah:m=0:=by rw[c.out.1,Z];rfl
     have u:jy (sg s) r N (k+1)=((fc (sg s) (fc (sg s) r):Nat):Int):=O7 (by rw[<-f,<-ae,J]);rw[Z]at h3 ⊢;rw[u];subst ah;exact⟨h3,k2.setCell (p:=⟨g,0 * 2+1,none⟩) (.inl rfl) _⟩)
   have am:=dh aa;clear aq k2 al aa;go_upto_region 9 with fail;go_cut [69]from 57 to 70 (fun v wz=>∃wx,wx=wz/\v=.bool M/\wx=X)
   case first =>
    by_cases e1:t1<0
    ·have d1:decide (t1<0)=true:=decide_eq_true e1;have d2:(((E:Nat):Int) == ((fc (sg s) (fc (sg s) r):Nat):Int))=M:=by rw[Bool.eq_iff_iff,am.out,beq_iff_eq];exact⟨fun e=>⟨e1,by omega⟩,fun e=>by omega⟩
     go_wp2_with fail
     go_meet
     exact⟨_,rfl,rfl,rfl⟩
    ·have d1:decide (t1<0)=false:=decide_eq_false e1
     have d2:M=false:=by
      cases M
      ·rfl
      ·exact absurd (am.out.1 rfl).1 e1
     go_wp2_with fail
     go_meet
     exact⟨_,rfl,by rw[d2],rfl⟩
   case rest =>
    obtain⟨w3,bs,rfl,bu⟩:=hcut;subst bs;obtain rfl:w3=X:=bu;go_upto_if 69 with fail;go_cut []from 70 to 74 (fun wz=>∃wx,wx=wz/\gB B wx (.slice (some ⟨g,0,none⟩) L cap) (sH (sg s) (fQ (sg s) r N k) ((E:Nat):Int) (jy (sg s) r N (k+1))).reverse/\Keeps (fun q=>(Value.slice (some ⟨g,0,none⟩) L cap).ownBlock=some q) wr wx)
    case first =>
     cases M
     ·have HF:=dh (O.out w3 (fun _=>rfl) (fun e=>by cases e));clear O am;go_wp2_with fail;go_meet;exact⟨_,rfl,HF.out⟩
     ·have HF:=dh (O.out _ (fun e=>by cases e) (fun _=>rfl));clear O am;go_wp2_with fail;go_meet;exact⟨_,rfl,HF.out⟩
    case rest =>
     obtain⟨w4,bv,a0,a3⟩:=hcut;subst bv;have aJ:=aX.out w4 a3;clear O am c1 c2 an ao aX;have A:=Q.out;obtain⟨z,hz⟩:∃z,(jK (sg s) r s.length N 0)[mt x]? = some z:=⟨_,J3 HX.out.2.2.1⟩
     have a4:z=col (sg s) r N (mt x):=by rw[J3 HX.out.2.2.1]at hz;exact(Option.some.inj hz).symm
     have a5:=Xk aJ x t z hz;have a6:Hid ((z=0\/x=fc (sg s) (fc (sg s) r)\/x=mt (fc (sg s) r))↔kid (sg s) r N x):=dh (by rw[a4];exact Iff.rfl);have aK:=dh (dn a0 aJ);clear hz a4 a0 a3 aJ A;go_wp2_with fail;refine a5.mono ?_;rintro e w5 ⟨⟨q5,rfl⟩,t5,rfl,a7⟩;have a8:=dh (a7.trans a6.out);have k5:=(Keeps.refl (fun _=>False) w4).drewN q5;have ar:=aK.out.1.keeps k5 (fun _ _ h=>h);have P:=aK.out.2.still k5;clear a5 a7 a6 k5 aK;generalize w4.drewN q5=w6 at *;cases t5
     ·have a9:¬kid (sg s) r N x:=fun e=>by cases a8.out.2 e
      have HF:Hid (DC w0 b s root lone R Mw bw dL dv k0 k1 k2 ds bt gt go r N B (k+1) (.slice (some ⟨g,0,none⟩) L cap) (kG (sg s) r N (k+1)) af U w6):=dh (by
       have f:=c.out.2.2.1;obtain⟨u1,u2,u3,u4⟩:=Xp (S:=sg s) (r:=r) (N:=N) (k:=k) (by rw[<-f];exact a9) (by rw[<-f];exact HX.out.2.1);have bx:=HX.out.1;have A:=Q.out;refine⟨?_,?_,fun _=>rfl,fun e=>by omega,aH.out⟩
       ·unfold kG;rw[u1,u2,<-f,<-HX.out.2.2.2];exact ar
       ·rw[show min (k+1) s.length=k+1 by omega,u3,u4];exact P)
      have HE:=dh HX.out.1;clear a9 ar P;go_wp2_with fail;go_roundg (n+1 - (k+1))
      case measure=>rw[HG.out];have:=HE.out;omega
      case rel=>exact⟨k+1,by have:=HE.out;omega,rfl,_,_,_,HF.out⟩
     ·have ba:kid (sg s) r N x:=a8.out.1 rfl;have f:=c.out.2.2.1;have A:=Q.out;have aD:=J4 (sg s) r N k;have aL:=P.Fj 1 true rfl (by omega);obtain⟨u1,u2,u3,u4⟩:=a.out.2.2.yB a.out.1 a.out.2.1 (k:=k) (by rw[<-f];exact ba);rw[<-u3,<-u4]at aL;have c2:=P.c2;obtain⟨n1,n2,n3,-⟩:=P.ne
      have bc:∀C D w7,kL gt go af U w6 C D w7->gB B w7 (.slice (some ⟨g,0,none⟩) L cap) (sH (sg s) (fQ (sg s) r N k) ((E:Nat):Int) (jy (sg s) r N (k+1))).reverse:=fun C D w7 h2=>ar.keeps h2.1 (fun q i e=>by
       simp only [Value.ownBlock,Option.some.injEq]at i;subst i;rcases e with e|e|e|e
       ·exact n2 (.inr (by rw[<-e];rfl))
       ·exact n3 (.inr (by rw[<-e];rfl))
       ·exact(P.nt _ e).1 (.inr rfl)
       ·exact(P.no _ e).1 (.inr rfl))
      have bz:=dh bc;have Y:(sH (sg s) (fQ (sg s) r N k) ((E:Nat):Int) (jy (sg s) r N (k+1))).reverse.length=L:=by rw[List.length_reverse,yT,c.out.2.1,c.out.2.2.2.1];unfold kG;rw[List.length_reverse,yT]
      have ak:(sH (sg s) (fQ (sg s) r N k) ((E:Nat):Int) (jy (sg s) r N (k+1))).reverse ++ [(((sg s (mt x):Nat):Int),((mt x:Nat):Int))]=kG (sg s) r N (k+1):=by unfold kG;rw[u1,u2,<-f];simp only [sH,List.reverse_cons];rw[HX.out.2.2.2]
      have HW:=dh (dn Y ak);have bA:L<=100000000:=by have h1:=J2 (sg s) r N k;have h2:=c.out.1;rw[<-Y,List.length_reverse,yT];omega
      have bd:=HX.out.2.2.1;have HE:=dh HX.out.1;clear ba f A aD u1 u2 u3 u4 n1 n2 n3 bc Y ak ar P;go_wp2_with fail;refine aL.mono ?_;rintro e w7 ⟨rfl,be,au,bf⟩;have aM:=bz.out be U w7 bf;obtain⟨R7,aN,-,-⟩:=au.wm.m.mp;have ad:=sZ aN x t;have I:=vW aN (mt x) bd;have c1:=au.c1;have bg:=dh au;have bh:B<=w7.heap.size:=by have:=aM.lt g rfl;omega
      have bi:(mt x:Nat)<s.length:=bd;obtain⟨e1,bj⟩:∃e1,e1=mt x:=⟨_,rfl⟩
      rw[<-bj]at ad I HW;obtain⟨y2,bk⟩:∃y2,y2=sg s e1:=⟨_,rfl⟩
      rw[<-bk]at I HW;clear aN bf aL au c2 bj bk bi;go_wp2_with fail;refine ad.mono ?_;rintro e w' ⟨rfl,rfl⟩;go_wp2_with fail;refine I.mono ?_;rintro e w' ⟨rfl,rfl⟩;go_wp2_with (at_builtin;refine VJ L rfl _ _ rfl B (.slice (some ⟨g,0,none⟩) L cap) _ (y2:Nat) (e1:Nat) (dh HW.out.1) _ rfl rfl rfl aM bA bh ?_;intro g8 ax w8 aO bl ay)
      have HF:Hid (DC w0 b s root lone R Mw bw dL dv k0 k1 k2 ds bt gt go r N B (k+1) (.slice (some ⟨g8,0,none⟩) (L+1) ax) (kG (sg s) r N (k+1)) be U w8):=dh (by
       have bx:=HE.out;have A:=Q.out;have bB:=aO.lt g8 rfl
       have bm:∀q,(Value.slice (some ⟨g8,0,none⟩) (L+1) ax).ownBlock=some q->(Value.slice (some ⟨g,0,none⟩) L cap).ownBlock=some q\/(w7.heap.size<=q/\q<w8.heap.size):=fun q i=>by
        simp only [Value.ownBlock,Option.some.injEq]at i;subst i;rcases ay with e|e
        ·exact .inl e
        ·exact .inr ⟨e,bB.2⟩
       refine⟨by rw[<-HW.out.2];exact aO,?_,fun _=>rfl,fun e=>by omega,fun q i hm=>?_⟩
       ·rw[show min (k+1) s.length=k+1 by omega];exact bg.out.wait bl aA.out aH.out bm
       ·rcases bm q i with e|e
        ·exact aH.out q e hm
        ·have:=bg.out.old (x:=q) (.inl hm);omega)
      clear aO bl ay ad I aM;go_wp2_with fail;go_roundg (n+1 - (k+1))
      case measure=>rw[HG.out];have:=HE.out;omega
      case rel=>exact⟨k+1,by have:=HE.out;omega,rfl,_,_,_,HF.out⟩
end
end
section
open Go.RowKit
noncomputable def zZ(s:List Nat)(r N:Nat):List Bool:=iH (sg s) r N s.length ++ iE (sg s) r N s.length
structure Xt (w1:World)(bw b fst lst bt gt go:Nat)(wz:World):Prop where
 t:wz.heap[bt]? = some (.cells #[.pointer (some ⟨bw,0,none⟩),.pointer (some ⟨b,0,none⟩),.pointer (some ⟨gt,0,none⟩),.pointer (some ⟨go,0,none⟩),.int .i64 fst,.int .i64 lst] 225 (0,0))
 a:wz.heap[gt]? = some (.cells #[.slice none 0 0,.int .i64 0] 198 (0,0))
 o:wz.heap[go]? = some (.cells #[.slice none 0 0,.int .i64 0] 198 (0,0))
 k:Keeps (fun _=>False) w1 wz
 d:w1.heap.size<=bt/\w1.heap.size<=gt/\w1.heap.size<=go/\bt≠gt/\bt≠go/\gt≠go
theorem J5(W:World)(a c d:Obj):(((W.alloc a).alloc c).alloc d).drew.heap[W.heap.size]? = some a/\(((W.alloc a).alloc c).alloc d).drew.heap[W.heap.size+1]? = some c/\(((W.alloc a).alloc c).alloc d).drew.heap[W.heap.size+1+1]? = some d/\Keeps (fun _=>False) W (((W.alloc a).alloc c).alloc d).drew:=by obtain⟨e,f,g,i⟩:=GZ W a c d;exact⟨e,f,g,i.drew⟩
section
variable {w:World} {b:Nat} {s:List Nat} {root:Int} {l:Nat} {R:Nat->Prop} (h:MapAt w b s root l R)
include h
theorem Xu(d:¬kK s l):Calls Tryz.prog 129 #[.pointer (some ⟨b,0,none⟩)] w fun e w'=>e=.returned (.tuple #[.pointer none,.int .i64 8])/\fO w b s root l R w':=by have a:=Xa h d;clear h;go_enter Tryz.func129,Tryz.ntmps129;go_wp2_with fail;refine a.mono ?_;rintro e w1 ⟨rfl,c⟩;have f:=dh c;clear c a;go_wp2;go_ret2;exact⟨rfl,f.out⟩
def Pm(w:World)(b:Nat)(s:List Nat)(root:Int)(l:Nat)(R:Nat->Prop)(ks:List Bool)(e:Ending)(w':World):Prop :=
 ∃a c,e=.returned (.tuple #[.pointer (some ⟨a,0,none⟩),.int .i64 0])/\eX w' a c ks/\w.heap.size<=a/\(∀q,c.ownBlock=some q->w.heap.size<=q)/\fO w b s root l R w'
theorem Xv(hT:kK s l){r N:Nat}(c:root=(r:Int))(hr:r<s.length)(K:dJ s.length (sg s) r N):Calls Tryz.prog 129 #[.pointer (some ⟨b,0,none⟩)] w (Pm w b s root l R (zZ s r N)):=by
 obtain⟨af,ag,T⟩:=hT.CB h.dR h.even;have hC:=Xc h hT c hr K;have aa:=h.le;have o:=dh (dn T (dn hr K));have HT:=dh c;have I:=T.rY hr;have y:=T.gD hr;have J:=T.gD (T.gD hr);clear h T K hT c;go_enter Tryz.func129,Tryz.ntmps129;go_wp2_with fail;refine hC.mono ?_;rintro e w1 ⟨bw,dL,dv,M,rfl,L⟩;clear hC;have HR:Hid (∀W,Keeps (fun _=>False) w1 W->Calls Tryz.prog 121 #[.pointer (some ⟨b,0,none⟩)] W fun e w'=>e=.returned (.int .i64 r)/\W=w'):=dh (fun W a=>by obtain⟨R',O,-,-⟩:=(L.still a).m.mp;have:=Dl O;rw[HT.out]at this;exact this);have HB:Hid (∀W,Keeps (fun _=>False) w1 W->Calls Tryz.prog 160 #[.pointer (some ⟨b,0,none⟩),.int .i64 r] W fun e w'=>∃v,e=.returned v/\dH W.heap.size w' v (dD [r,fc (sg s) r,fc (sg s) (fc (sg s) r)])/\Keeps (fun _=>False) W w'):=dh (fun W a=>by obtain⟨R',O,-,-⟩:=(L.still a).m.mp;rw[<-I];exact Jq O r hr);have HM:Hid (∀W,Keeps (fun _=>False) w1 W->Calls Tryz.prog 77 #[.pointer (some ⟨b,0,none⟩),.int .i64 (fc (sg s) r:Nat)] W fun e w'=>e=.returned (.int .i64 (mt (fc (sg s) r):Nat))/\W=w'):=dh (fun W a=>by obtain⟨R',O,-,-⟩:=(L.still a).m.mp;exact sZ O _ y);have HW:=dh L;clear L I;go_wp2_with fail;refine(HR.out w1 (Keeps.refl _ _)).mono ?_;rintro e w' ⟨rfl,rfl⟩;go_wp2_with fail;refine(HB.out w1 (Keeps.refl _ _)).mono ?_;rintro e A ⟨v,rfl,d,B⟩;obtain⟨va,vc,rfl,-,-⟩:=d.form;obtain⟨Y,rfl⟩:=oU d (Nat.zero_lt_succ 2);rw[show (dD [r,fc (sg s) r,fc (sg s) (fc (sg s) r)]).length=3 from rfl];have C:Hid (∀W,Keeps (fun _=>False) A W->W.cell? ⟨Y,2,none⟩=some (.int .i64 (fc (sg s) (fc (sg s) r):Nat))/\W.cell? ⟨Y,1,none⟩=some (.int .i64 (fc (sg s) r:Nat))):=dh (fun W a=>by have ho:=d.keeps a (fun _ _ h=>h);exact⟨(ho.cell (i:=2) rfl).1,(ho.cell (i:=1) rfl).1⟩);have P:Hid (∀W,Keeps (fun _=>False) A W->Calls Tryz.prog 77 #[.pointer (some ⟨b,0,none⟩),.int .i64 (fc (sg s) r:Nat)] W fun e w'=>e=.returned (.int .i64 (mt (fc (sg s) r):Nat))/\W=w'):=dh (fun W a=>HM.out W (B.trans a (fun _ _ h=>h)));have Q:=FC;obtain⟨d2,d1⟩:=C.out A (Keeps.refl _ _);have D:=dh (HW.out.still B);obtain⟨fst,g⟩:∃f,f=fc (sg s) (fc (sg s) r):=⟨_,rfl⟩
 obtain⟨e1,p⟩:∃f,f=fc (sg s) r:=⟨_,rfl⟩
 obtain⟨ab,k⟩:∃f,f=mt (fc (sg s) r):=⟨_,rfl⟩
 have S:=dh (dn g k);rw[<-g,<-p]at C;rw[<-k,<-p]at P;rw[<-g]at d2;rw[<-p]at d1;clear d B HR HB HM HW g p k y J;have z:=Keeps.refl (fun _=>False) A;go_upto_region 5 with fail;go_cut [7]from 20 to 34 (fun p7 wz=>∃Z bt gt go,Z=wz/\p7=.pointer (some ⟨bt,0,none⟩)/\Xt A bw b fst ab bt gt go Z)
 case first =>
  go_region_held3 (fun w'=>w'.cell? ⟨Y,2,none⟩=some (.int .i64 (fst:Nat))/\w'.cell? ⟨Y,1,none⟩=some (.int .i64 (e1:Nat))) (exact C.out _ (by repeat (first|exact z|refine Keeps.drew ?_|refine Keeps.alloc ?_ _|refine Keeps.drewN ?_ _))) (first | (go_at_call 133;refine(Q _).mono ?_;rintro e w' ⟨rfl,rfl⟩) | (go_at_call 77;refine(P.out _ (by repeat (first|exact z|refine Keeps.drew ?_|refine Keeps.alloc ?_ _|refine Keeps.drewN ?_ _))).mono ?_;rintro e w' ⟨rfl,rfl⟩))
  all_goals
   go_wp2_with fail
   go_meet
   obtain⟨h1,h2,h3,a⟩:=J5 A _ _ _;exact⟨_,_,_,_,rfl,rfl,⟨by first|exact h1|exact h2|exact h3,by first|exact h1|exact h2|exact h3,by first|exact h1|exact h2|exact h3,a,by omega⟩⟩
 case rest =>
  obtain⟨Z,bt,gt,go,ad,rfl,hO⟩:=hcut;subst ad
  have t:iy w b s root l R M bw dL dv (vnum (sg s) (fc (sg s) (fc (sg s) r))) (vnum (sg s) r) (vnum (sg s) (fc (sg s) r)) (jK (sg s) r s.length N 0) (qX (sg s) s.length) bt gt go (fc (sg s) (fc (sg s) r)) (mt (fc (sg s) r)) (.slice none 0 0) (.slice none 0 0) [] [] Z:=by
   obtain⟨o1,o2,o3,o4,q1,q2,q3,q4,q5,q6⟩:=hO;have l1:=lt_of_block o1;have l2:=lt_of_block o2;have l3:=lt_of_block o3;have hM:∀x,M x->x<A.heap.size:=fun x j=>(D.out.m.mb x j).2;rw[S.out.1,S.out.2]at o1;refine⟨D.out.more o4 (fun x j=>.inl j) (fun x j=>?_),D.out.own,o1,⟨o2,World.ownsRow_nil _ _ _ _⟩,⟨o3,World.ownsRow_nil _ _ _ _⟩,⟨fun e=>?_,fun e=>?_,fun e=>?_,q4,q5,q6⟩,fun q E=>(by cases E),fun q E=>(by cases E)⟩
   ·rcases j with j|j|j|j|j|j
    ·exact .inl j
    ·exact .inr (by omega)
    ·exact .inr (by omega)
    ·exact .inr (by omega)
    ·cases j
    ·cases j
   ·have:=hM _ e;omega
   ·have:=hM _ e;omega
   ·have:=hM _ e;omega
  have U:=Xr t o.out.1 o.out.2.1 o.out.2.2 aa;have c4:=t.c4;have F:=o.out.2.2.qZ o.out.1 o.out.2.1;have G:=o.out.2.2.nV o.out.1 o.out.2.1;have ae:=oV (sg s) s.length;have ah:(iH (sg s) r N s.length).length<=1000000:=by omega
  have ai:(iE (sg s) r N s.length).length<=1000000:=by omega
  clear t hO F G ae d1 d2 z Q;go_wp2_with fail;refine U.mono ?_;rintro e w4 ⟨rfl,Mw,vt,vo,t⟩;clear U c4;have z:=Keeps.refl (fun _=>False) w4;have hJ:Hid (∀W,Keeps (fun _=>False) w4 W->Calls Tryz.prog 162 #[.pointer (some ⟨gt,0,none⟩),.pointer (some ⟨go,0,none⟩)] W fun e w'=>e=.returned (.tuple #[])/\eY W gt vt (zZ s r N) w'):=dh (fun W a=>by have H:=t.still a;obtain⟨n1,n2,n3,n4,n5,n6⟩:=H.ne;exact Qd gt vt _ go vo _ W H.tr H.on (fun e=>n6 e.symm) (fun e=>(H.nt _ e).2.2.2.1 rfl) (fun e=>(H.no _ e).2.2.1 rfl) (fun q E e=>(H.nt q e).2.2.2.2 E) (by omega));have V:Hid (∀W,Keeps (fun _=>False) w4 W->W.cell? ⟨bt,2,none⟩=some (.pointer (some ⟨gt,0,none⟩))/\W.cell? ⟨bt,3,none⟩=some (.pointer (some ⟨go,0,none⟩))):=dh (fun W a=>⟨(t.still a).c2,(t.still a).c3⟩);obtain⟨c2,c3⟩:=V.out w4 z;have HS:=dh t;clear t;go_wp2_with fail;go_region_held3 (fun w'=>w'.cell? ⟨bt,2,none⟩=some (.pointer (some ⟨gt,0,none⟩))/\w'.cell? ⟨bt,3,none⟩=some (.pointer (some ⟨go,0,none⟩))) (first|exact⟨c2,c3⟩|exact V.out _ z.drew|exact⟨f2,f3⟩) (first | (go_at_call 162;refine(hJ.out _ z.drew).mono ?_;rintro e w5 ⟨rfl,hg⟩;obtain⟨X,u,-⟩:=HS.out.yA z.drew hg;have f2:=u.c2;have f3:=u.c3;have n:=dh u;clear hg u))
  all_goals
   have HF:Hid (eX w5 gt X (zZ s r N)/\w.heap.size<=gt/\(∀q,X.ownBlock=some q->w.heap.size<=q)/\fO w b s root l R w5):=dh ⟨n.out.tr,(n.out.wm.m.mb gt (.inr (.inr (.inl rfl)))).1,fun q E=>(n.out.wm.m.mb q (.inr (.inr (.inr (.inr (.inl E)))))).1,n.out.wm.m.all⟩;clear n;go_wp2;go_ret2;exact⟨_,_,rfl,HF.out⟩
end
end
