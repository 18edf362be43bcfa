import Derived.Test.YtcfdpogegngplaaGreatZg12
import Derived.Test.YtcfdpogegngplaaGreatZg0q
set_option maxRecDepth 100000
set_option maxHeartbeats 4000000
namespace Go.Proofs.YtcfdpogegngplaaGreat
open Go.RowKit
theorem X7{c0 n:Nat}{cs:List Nat}{l:List Bool}(h:dz c0 cs n=some l):l.length=n:=by
 unfold dz at h
 split at h
 ·exact (SE h).1
 ·split at h
  ·cases h
  ·split at h
   ·cases h
   ·split at h
    ·cases h;exact Xt _ _ _
    ·cases h
theorem q9e(plain:Bool)(l:List Bool)(h:l.length≤1000000):(bE plain l).length≤10000000:=by
 have h1:=qdt plain l 9
 rw[uS] at h1
 unfold bE
 omega
def qoe(w:World)(o:Option (List Bool × Nat))(e:Ending)(w':World):Prop :=
 (∃ l u b,o=some (l,u)∧e=.returned (.tuple #[.pointer (some ⟨b,0,none⟩),.int .i64 (u:Nat),.int .i64 0])∧aY w b l w') ∨
 (o=none∧∃ c:Nat,c≠0∧c<17∧e=.returned (.tuple #[.pointer none,.int .i64 0,.int .i64 c])∧Keeps (fun _=>False) w w')
theorem qhq(pv:Value)(cs:List Nat)(n:Nat)(plain:Bool)(w:World)(hp:Sl .u8 w pv (aB cs))(hcs:∀ x ∈ cs,x<256)(hl:cs.length≤10000000)(hn:n≤1000000) :
  Calls Tryz.prog 153 #[pv,.int .i64 n,.bool plain] w (qoe w (nC cs n plain)):=by
 have hnot:∀ (x:Bool) (w:World),(Op.unary .not (.bool x)).run Tryz.prog w=.ok (.bool (!x)) w:=fun _ _=>rfl
 have q0:decide ((n:Int)<0)=false:=decide_eq_false (by omega)
 have q1:decide ((16777216:Int)<(n:Int))=false:=decide_eq_false (by omega)
 obtain⟨pa,pc,rfl,hpc,hpm⟩:=hp.kP
 cases cs with
 | nil =>
  simp only [List.length_nil] at *
  have HU:Hid (nC [] n plain=none):=ah rfl
  clear hp hcs
  go_enter Tryz.func153,Tryz.ntmps153
  go_wp2_with fail
  refine bodyPost_ret (v:=.tuple #[.pointer none,.int .i64 0,.int .i64 3]) (by simp[results,Tryz.results153,go_sem]) rfl ?_
  exact .inr ⟨HU.out,3,by decide,by decide,rfl,Keeps.refl _ _⟩
 | cons c0 tl =>
  obtain⟨pa',pc',hv,_,_,_,hc⟩:=id hp
  simp only [Value.slice.injEq] at hv
  obtain⟨rfl,hln,rfl⟩:=hv
  obtain⟨g,off,rfl,hc0⟩:=hc 0 (c0:Int) rfl
  rw[Nat.add_zero] at hc0
  have X8:=hcs c0 (by simp)
  have hlen:(c0 :: tl).length=tl.length+1:=rfl
  obtain⟨N,hN⟩:∃ N,N=(c0 :: tl).length:=⟨_,rfl⟩
  have hN0:0<N:=by omega
  have t0:((N:Int) == 0)=false:=by rw[beq_eq_false_iff_ne];omega
  have HP:=ah (aj hp (aj hcs (aj hl hN)))
  rw[← hN] at hpc ⊢
  clear hln hc hlen hp hcs hl hN
  by_cases h9:9<c0
  ·have t1:decide ((9:Int)<(c0:Int))=true:=decide_eq_true (by omega)
   have HU:Hid (nC (c0 :: tl) n plain=none):=ah (by unfold nC;simp only;rw[if_pos (.inl h9)])
   go_enter Tryz.func153,Tryz.ntmps153
   go_wp2_with fail
   refine bodyPost_ret (v:=.tuple #[.pointer none,.int .i64 0,.int .i64 3]) (by simp[results,Tryz.results153,go_sem]) rfl ?_
   exact .inr ⟨HU.out,3,by decide,by decide,rfl,Keeps.refl _ _⟩
  ·have t1:decide ((9:Int)<(c0:Int))=false:=decide_eq_false (by omega)
   by_cases hpl:plain=true∧0<c0
   ·obtain⟨rfl,Ig⟩:=hpl
    have t2:decide ((0:Int)<(c0:Int))=true:=decide_eq_true (by omega)
    have t3:decide (0<c0)=true:=decide_eq_true Ig
    have HU:Hid (nC (c0 :: tl) n true=none):=ah (by unfold nC;simp only;rw[if_pos (.inr ⟨trivial,Ig⟩)])
    go_enter Tryz.func153,Tryz.ntmps153
    go_wp2_with fail
    refine bodyPost_ret (v:=.tuple #[.pointer none,.int .i64 0,.int .i64 3]) (by simp[results,Tryz.results153,go_sem]) rfl ?_
    exact .inr ⟨HU.out,3,by decide,by decide,rfl,Keeps.refl _ _⟩
   ·have rE:=qdo (.slice (some ⟨g,off,none⟩) N pc) c0 tl n w (by have h1:=HP.out.1;rw[← HP.out.2.2.2] at h1;exact h1) HP.out.2.1 (by have:=HP.out.2.2.1;simp at this;omega) hn (by omega)
    have hU:(dz c0 tl n=none→nC (c0 :: tl) n plain=none)∧∀ v,dz c0 tl n=some v→nC (c0 :: tl) n plain=if (c0 :: tl).take (bE plain v).length=bE plain v then some (v,(bE plain v).length) else none:=by
     have hc:¬ (9<c0∨plain=true∧0<c0):=by rintro (h|h);exact h9 h;exact hpl h
     refine⟨fun h=>?_,fun v h=>?_⟩
     ·unfold nC;simp only;rw[if_neg hc,h]
     ·unfold nC;simp only;rw[if_neg hc,h]
    have HU:=ah hU
    have X9:plain=false∨(plain=true∧decide (0<c0)=false∧decide ((0:Int)<(c0:Int))=false):=by
     cases plain
     ·exact .inl rfl
     ·exact .inr ⟨rfl,decide_eq_false (fun h=>hpl ⟨rfl,h⟩),decide_eq_false (fun h=>hpl ⟨rfl,by omega⟩)⟩
    clear hU hpl
    rcases X9 with rfl|⟨rfl,t2,t3⟩
    ·go_enter Tryz.func153,Tryz.ntmps153
     go_wp2_with fail
     refine rE.mono ?_
     clear rE
     intro e w1 h1
     rcases h1 with⟨l,hl1,b,rfl,v,hV,hb,o8,hk1⟩|⟨hn1,c,hc1,hc2,rfl,hk1⟩
     ·have hll:l.length≤1000000:=by
       have:l.length=n:=X7 hl1
       omega
      have Bq:=XA b v l false w1 hV hll
      have H1:Hid (Keeps (fun _=>False) w w1∧aY w b l w1∧nC (c0 :: tl) n false=if (c0 :: tl).take (bE false l).length=bE false l then some (l,(bE false l).length) else none):=ah ⟨hk1,⟨v,hV,hb,o8,hk1⟩,HU.out.2 l hl1⟩
      clear hV hb o8 hk1 hl1
      go_wp2_with fail
      refine Bq.mono ?_
      clear Bq
      rintro e w2 ⟨v2,rfl,hO2,hk2⟩
      have yM:=H1.out.1.trans hk2 (fun _ _ h=>h)
      have hs0:=HP.out.1
      rw[← HP.out.2.2.2] at hs0
      have Pq:=Xb (.slice (some ⟨g,off,none⟩) N pc) v2 (c0 :: tl) (bE false l) w2 (hs0.keeps yM (fun _ _ h=>h)) hO2.sl HP.out.2.1 (XK false l)
      obtain⟨va,vc,rfl,hv1,hv2⟩:=hO2.form
      have H2:=ah (aj yM (show aY w b l w2 from by
       obtain⟨v',h1,h2,h3,h4⟩:=H1.out.2.1
       exact⟨v',h1.keeps hk2 (fun h=>h) (fun _ _ h=>h),h2,h3,yM⟩))
      have hpb:(bE false l).length≤10000000:=q9e false l hll
      clear hO2 hk2 yM hs0
      go_wp2_with fail
      refine Pq.mono ?_
      clear Pq
      rintro e w3 ⟨rfl,rfl⟩
      by_cases hpf:(c0 :: tl).take (bE false l).length=bE false l
      ·rw[decide_eq_true hpf]
       have HZ:Hid (nC (c0 :: tl) n false=some (l,(bE false l).length)):=ah (by rw[H1.out.2.2,if_pos hpf])
       clear hpf
       generalize (bE false l).length=u at *
       go_wp2_with fail
       refine bodyPost_ret (v:=.tuple #[.pointer (some ⟨b,0,none⟩),.int .i64 u,.int .i64 0]) (by simp[results,Tryz.results153,go_sem]) rfl ?_
       exact .inl ⟨l,u,b,HZ.out,rfl,H2.out.2⟩
      ·rw[decide_eq_false hpf]
       have HZ:Hid (nC (c0 :: tl) n false=none):=ah (by rw[H1.out.2.2,if_neg hpf])
       clear hpf
       go_wp2_with fail
       refine bodyPost_ret (v:=.tuple #[.pointer none,.int .i64 0,.int .i64 10]) (by simp[results,Tryz.results153,go_sem]) rfl ?_
       exact .inr ⟨HZ.out,10,by decide,by decide,rfl,H2.out.1⟩
     ·have HN:=ah (aj (HU.out.1 hn1) hk1)
      have hcb:((c:Int) != 0)=true:=by rw[bne_iff_ne];omega
      clear hn1 hk1
      go_wp2_with fail
      refine bodyPost_ret (v:=.tuple #[.pointer none,.int .i64 0,.int .i64 c]) (by simp[results,Tryz.results153,go_sem]) rfl ?_
      exact .inr ⟨HN.out.1,c,hc1,hc2,rfl,HN.out.2⟩
    ·go_enter Tryz.func153,Tryz.ntmps153
     go_wp2_with fail
     refine rE.mono ?_
     clear rE
     intro e w1 h1
     rcases h1 with⟨l,hl1,b,rfl,v,hV,hb,o8,hk1⟩|⟨hn1,c,hc1,hc2,rfl,hk1⟩
     ·have hll:l.length≤1000000:=by
       have:l.length=n:=X7 hl1
       omega
      have Bq:=XA b v l true w1 hV hll
      have H1:Hid (Keeps (fun _=>False) w w1∧aY w b l w1∧nC (c0 :: tl) n true=if (c0 :: tl).take (bE true l).length=bE true l then some (l,(bE true l).length) else none):=ah ⟨hk1,⟨v,hV,hb,o8,hk1⟩,HU.out.2 l hl1⟩
      clear hV hb o8 hk1 hl1
      go_wp2_with fail
      refine Bq.mono ?_
      clear Bq
      rintro e w2 ⟨v2,rfl,hO2,hk2⟩
      have yM:=H1.out.1.trans hk2 (fun _ _ h=>h)
      have hs0:=HP.out.1
      rw[← HP.out.2.2.2] at hs0
      have Pq:=Xb (.slice (some ⟨g,off,none⟩) N pc) v2 (c0 :: tl) (bE true l) w2 (hs0.keeps yM (fun _ _ h=>h)) hO2.sl HP.out.2.1 (XK true l)
      obtain⟨va,vc,rfl,hv1,hv2⟩:=hO2.form
      have H2:=ah (aj yM (show aY w b l w2 from by
       obtain⟨v',h1,h2,h3,h4⟩:=H1.out.2.1
       exact⟨v',h1.keeps hk2 (fun h=>h) (fun _ _ h=>h),h2,h3,yM⟩))
      have hpb:(bE true l).length≤10000000:=q9e true l hll
      clear hO2 hk2 yM hs0
      go_wp2_with fail
      refine Pq.mono ?_
      clear Pq
      rintro e w3 ⟨rfl,rfl⟩
      by_cases hpf:(c0 :: tl).take (bE true l).length=bE true l
      ·rw[decide_eq_true hpf]
       have HZ:Hid (nC (c0 :: tl) n true=some (l,(bE true l).length)):=ah (by rw[H1.out.2.2,if_pos hpf])
       clear hpf
       generalize (bE true l).length=u at *
       go_wp2_with fail
       refine bodyPost_ret (v:=.tuple #[.pointer (some ⟨b,0,none⟩),.int .i64 u,.int .i64 0]) (by simp[results,Tryz.results153,go_sem]) rfl ?_
       exact .inl ⟨l,u,b,HZ.out,rfl,H2.out.2⟩
      ·rw[decide_eq_false hpf]
       have HZ:Hid (nC (c0 :: tl) n true=none):=ah (by rw[H1.out.2.2,if_neg hpf])
       clear hpf
       go_wp2_with fail
       refine bodyPost_ret (v:=.tuple #[.pointer none,.int .i64 0,.int .i64 10]) (by simp[results,Tryz.results153,go_sem]) rfl ?_
       exact .inr ⟨HZ.out,10,by decide,by decide,rfl,H2.out.1⟩
     ·have HN:=ah (aj (HU.out.1 hn1) hk1)
      have hcb:((c:Int) != 0)=true:=by rw[bne_iff_ne];omega
      clear hn1 hk1
      go_wp2_with fail
      refine bodyPost_ret (v:=.tuple #[.pointer none,.int .i64 0,.int .i64 c]) (by simp[results,Tryz.results153,go_sem]) rfl ?_
      exact .inr ⟨HN.out.1,c,hc1,hc2,rfl,HN.out.2⟩
