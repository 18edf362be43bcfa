import Derived.Test.YtcfdpogegngplaaGreatZaPack
import Derived.Test.YtcfdpogegngplaaGreatZaBytesQ
set_option maxRecDepth 100000
set_option maxHeartbeats 4000000
namespace Go.Proofs.YtcfdpogegngplaaGreat
open Go.RowKit
theorem q93 {c0 n:Nat} {cs:List Nat} {l:List Bool} (h:readV c0 cs n=some l):l.length=n:=by
 unfold readV at h
 split at h
 ·exact (q60 h).1
 ·split at h
  ·cases h
  ·split at h
   ·cases h
   ·split at h
    ·cases h;exact q53 _ _ _
    ·cases h
theorem q94 (plain:Bool) (l:List Bool) (h:l.length≤1000000):(packB plain l).length≤10000000:=by
 have h1:=qc8 plain l 9
 rw[q0f] at h1
 unfold packB
 omega
def qnn (w:World) (o:Option (List Bool × Nat)) (e:Ending) (w':World):Prop :=
 (∃ l u b,o=some (l,u)∧e=.returned (.tuple #[.pointer (some ⟨b,0,none⟩),.int .i64 (u:Nat),.int .i64 0])∧VecNew w b l w') ∨
 (o=none∧∃ c:Nat,c≠0∧c<17∧e=.returned (.tuple #[.pointer none,.int .i64 0,.int .i64 c])∧Keeps (fun _=>False) w w')
theorem qhd (pv:Value) (cs:List Nat) (n:Nat) (plain:Bool) (w:World) (hp:Sl .u8 w pv (nats cs)) (hcs:∀ x ∈ cs,x<256) (hl:cs.length≤10000000) (hn:n≤1000000) :
  Calls Tryz.prog 153 #[pv,.int .i64 n,.bool plain] w (qnn w (q0q cs n plain)):=by
 have hnot:∀ (x:Bool) (w:World),(Op.unary .not (.bool x)).run Tryz.prog w=.ok (.bool (!x)) w:=fun _ _=>rfl
 have q0:decide ((n:Int)<0)=false:=decide_eq_false (by omega)
 have q1:decide ((16777216:Int)<(n:Int))=false:=decide_eq_false (by omega)
 obtain⟨pa,pc,rfl,hpc,hpm⟩:=hp.formY
 cases cs with
 | nil =>
  simp only [List.length_nil] at *
  have HU:Hid (q0q [] n plain=none):=Lib.hid rfl
  clear hp hcs
  go_enter Tryz.func153,Tryz.ntmps153
  go_wp2_with fail
  refine bodyPost_ret (v:=.tuple #[.pointer none,.int .i64 0,.int .i64 3]) (by simp[results,Tryz.results153,go_sem]) rfl ?_
  exact .inr ⟨HU.out,3,by decide,by decide,rfl,Keeps.refl _ _⟩
 | cons c0 tl =>
  obtain⟨pa',pc',hv,_,_,_,hc⟩:=id hp
  simp only [Value.slice.injEq] at hv
  obtain⟨rfl,hln,rfl⟩:=hv
  obtain⟨g,off,rfl,hc0⟩:=hc 0 (c0:Int) rfl
  rw[Nat.add_zero] at hc0
  have hlt256:=hcs c0 (by simp)
  have hlen:(c0 :: tl).length=tl.length+1:=rfl
  obtain⟨N,hN⟩:∃ N,N=(c0 :: tl).length:=⟨_,rfl⟩
  have hN0:0<N:=by omega
  have t0:((N:Int) == 0)=false:=by rw[beq_eq_false_iff_ne];omega
  have HP:=Lib.hid (And.intro hp (And.intro hcs (And.intro hl hN)))
  rw[← hN] at hpc ⊢
  clear hln hc hlen hp hcs hl hN
  by_cases h9:9<c0
  ·have t1:decide ((9:Int)<(c0:Int))=true:=decide_eq_true (by omega)
   have HU:Hid (q0q (c0 :: tl) n plain=none):=Lib.hid (by unfold q0q;simp only;rw[if_pos (.inl h9)])
   go_enter Tryz.func153,Tryz.ntmps153
   go_wp2_with fail
   refine bodyPost_ret (v:=.tuple #[.pointer none,.int .i64 0,.int .i64 3]) (by simp[results,Tryz.results153,go_sem]) rfl ?_
   exact .inr ⟨HU.out,3,by decide,by decide,rfl,Keeps.refl _ _⟩
  ·have t1:decide ((9:Int)<(c0:Int))=false:=decide_eq_false (by omega)
   by_cases hpl:plain=true∧0<c0
   ·obtain⟨rfl,hc00⟩:=hpl
    have t2:decide ((0:Int)<(c0:Int))=true:=decide_eq_true (by omega)
    have t3:decide (0<c0)=true:=decide_eq_true hc00
    have HU:Hid (q0q (c0 :: tl) n true=none):=Lib.hid (by unfold q0q;simp only;rw[if_pos (.inr ⟨trivial,hc00⟩)])
    go_enter Tryz.func153,Tryz.ntmps153
    go_wp2_with fail
    refine bodyPost_ret (v:=.tuple #[.pointer none,.int .i64 0,.int .i64 3]) (by simp[results,Tryz.results153,go_sem]) rfl ?_
    exact .inr ⟨HU.out,3,by decide,by decide,rfl,Keeps.refl _ _⟩
   ·have hRd:=qct (.slice (some ⟨g,off,none⟩) N pc) c0 tl n w (by have h1:=HP.out.1;rw[← HP.out.2.2.2] at h1;exact h1) HP.out.2.1 (by have:=HP.out.2.2.1;simp at this;omega) hn (by omega)
    have hU:(readV c0 tl n=none→q0q (c0 :: tl) n plain=none)∧∀ v,readV c0 tl n=some v→q0q (c0 :: tl) n plain=if (c0 :: tl).take (packB plain v).length=packB plain v then some (v,(packB plain v).length) else none:=by
     have hc:¬ (9<c0∨plain=true∧0<c0):=by rintro (h|h);exact h9 h;exact hpl h
     refine⟨fun h=>?_,fun v h=>?_⟩
     ·unfold q0q;simp only;rw[if_neg hc,h]
     ·unfold q0q;simp only;rw[if_neg hc,h]
    have HU:=Lib.hid hU
    have hpl2:plain=false∨(plain=true∧decide (0<c0)=false∧decide ((0:Int)<(c0:Int))=false):=by
     cases plain
     ·exact .inl rfl
     ·exact .inr ⟨rfl,decide_eq_false (fun h=>hpl ⟨rfl,h⟩),decide_eq_false (fun h=>hpl ⟨rfl,by omega⟩)⟩
    clear hU hpl
    rcases hpl2 with rfl|⟨rfl,t2,t3⟩
    ·go_enter Tryz.func153,Tryz.ntmps153
     go_wp2_with fail
     refine hRd.mono ?_
     clear hRd
     intro e w1 h1
     rcases h1 with⟨l,hl1,b,rfl,v,hV,hb,hvo,hk1⟩|⟨hn1,c,hc1,hc2,rfl,hk1⟩
     ·have hll:l.length≤1000000:=by
       have:l.length=n:=q93 hl1
       omega
      have hPk:=q48 b v l false w1 hV hll
      have H1:Hid (Keeps (fun _=>False) w w1∧VecNew w b l w1∧q0q (c0 :: tl) n false=if (c0 :: tl).take (packB false l).length=packB false l then some (l,(packB false l).length) else none):=Lib.hid ⟨hk1,⟨v,hV,hb,hvo,hk1⟩,HU.out.2 l hl1⟩
      clear hV hb hvo hk1 hl1
      go_wp2_with fail
      refine hPk.mono ?_
      clear hPk
      rintro e w2 ⟨v2,rfl,hO2,hk2⟩
      have k02:=H1.out.1.trans hk2 (fun _ _ h=>h)
      have hs0:=HP.out.1
      rw[← HP.out.2.2.2] at hs0
      have hBp:=q2p (.slice (some ⟨g,off,none⟩) N pc) v2 (c0 :: tl) (packB false l) w2 (hs0.keeps k02 (fun _ _ h=>h)) hO2.sl HP.out.2.1 (qb0 false l)
      obtain⟨va,vc,rfl,hv1,hv2⟩:=hO2.form
      have H2:=Lib.hid (And.intro k02 (show VecNew w b l w2 from by
       obtain⟨v',h1,h2,h3,h4⟩:=H1.out.2.1
       exact⟨v',h1.keeps hk2 (fun h=>h) (fun _ _ h=>h),h2,h3,k02⟩))
      have hpb:(packB false l).length≤10000000:=q94 false l hll
      clear hO2 hk2 k02 hs0
      go_wp2_with fail
      refine hBp.mono ?_
      clear hBp
      rintro e w3 ⟨rfl,rfl⟩
      by_cases hpf:(c0 :: tl).take (packB false l).length=packB false l
      ·rw[decide_eq_true hpf]
       have HZ:Hid (q0q (c0 :: tl) n false=some (l,(packB false l).length)):=Lib.hid (by rw[H1.out.2.2,if_pos hpf])
       clear hpf
       generalize (packB false l).length=u at *
       go_wp2_with fail
       refine bodyPost_ret (v:=.tuple #[.pointer (some ⟨b,0,none⟩),.int .i64 u,.int .i64 0]) (by simp[results,Tryz.results153,go_sem]) rfl ?_
       exact .inl ⟨l,u,b,HZ.out,rfl,H2.out.2⟩
      ·rw[decide_eq_false hpf]
       have HZ:Hid (q0q (c0 :: tl) n false=none):=Lib.hid (by rw[H1.out.2.2,if_neg hpf])
       clear hpf
       go_wp2_with fail
       refine bodyPost_ret (v:=.tuple #[.pointer none,.int .i64 0,.int .i64 10]) (by simp[results,Tryz.results153,go_sem]) rfl ?_
       exact .inr ⟨HZ.out,10,by decide,by decide,rfl,H2.out.1⟩
     ·have HN:=Lib.hid (And.intro (HU.out.1 hn1) hk1)
      have hcb:((c:Int) != 0)=true:=by rw[bne_iff_ne];omega
      clear hn1 hk1
      go_wp2_with fail
      refine bodyPost_ret (v:=.tuple #[.pointer none,.int .i64 0,.int .i64 c]) (by simp[results,Tryz.results153,go_sem]) rfl ?_
      exact .inr ⟨HN.out.1,c,hc1,hc2,rfl,HN.out.2⟩
    ·go_enter Tryz.func153,Tryz.ntmps153
     go_wp2_with fail
     refine hRd.mono ?_
     clear hRd
     intro e w1 h1
     rcases h1 with⟨l,hl1,b,rfl,v,hV,hb,hvo,hk1⟩|⟨hn1,c,hc1,hc2,rfl,hk1⟩
     ·have hll:l.length≤1000000:=by
       have:l.length=n:=q93 hl1
       omega
      have hPk:=q48 b v l true w1 hV hll
      have H1:Hid (Keeps (fun _=>False) w w1∧VecNew w b l w1∧q0q (c0 :: tl) n true=if (c0 :: tl).take (packB true l).length=packB true l then some (l,(packB true l).length) else none):=Lib.hid ⟨hk1,⟨v,hV,hb,hvo,hk1⟩,HU.out.2 l hl1⟩
      clear hV hb hvo hk1 hl1
      go_wp2_with fail
      refine hPk.mono ?_
      clear hPk
      rintro e w2 ⟨v2,rfl,hO2,hk2⟩
      have k02:=H1.out.1.trans hk2 (fun _ _ h=>h)
      have hs0:=HP.out.1
      rw[← HP.out.2.2.2] at hs0
      have hBp:=q2p (.slice (some ⟨g,off,none⟩) N pc) v2 (c0 :: tl) (packB true l) w2 (hs0.keeps k02 (fun _ _ h=>h)) hO2.sl HP.out.2.1 (qb0 true l)
      obtain⟨va,vc,rfl,hv1,hv2⟩:=hO2.form
      have H2:=Lib.hid (And.intro k02 (show VecNew w b l w2 from by
       obtain⟨v',h1,h2,h3,h4⟩:=H1.out.2.1
       exact⟨v',h1.keeps hk2 (fun h=>h) (fun _ _ h=>h),h2,h3,k02⟩))
      have hpb:(packB true l).length≤10000000:=q94 true l hll
      clear hO2 hk2 k02 hs0
      go_wp2_with fail
      refine hBp.mono ?_
      clear hBp
      rintro e w3 ⟨rfl,rfl⟩
      by_cases hpf:(c0 :: tl).take (packB true l).length=packB true l
      ·rw[decide_eq_true hpf]
       have HZ:Hid (q0q (c0 :: tl) n true=some (l,(packB true l).length)):=Lib.hid (by rw[H1.out.2.2,if_pos hpf])
       clear hpf
       generalize (packB true l).length=u at *
       go_wp2_with fail
       refine bodyPost_ret (v:=.tuple #[.pointer (some ⟨b,0,none⟩),.int .i64 u,.int .i64 0]) (by simp[results,Tryz.results153,go_sem]) rfl ?_
       exact .inl ⟨l,u,b,HZ.out,rfl,H2.out.2⟩
      ·rw[decide_eq_false hpf]
       have HZ:Hid (q0q (c0 :: tl) n true=none):=Lib.hid (by rw[H1.out.2.2,if_neg hpf])
       clear hpf
       go_wp2_with fail
       refine bodyPost_ret (v:=.tuple #[.pointer none,.int .i64 0,.int .i64 10]) (by simp[results,Tryz.results153,go_sem]) rfl ?_
       exact .inr ⟨HZ.out,10,by decide,by decide,rfl,H2.out.1⟩
     ·have HN:=Lib.hid (And.intro (HU.out.1 hn1) hk1)
      have hcb:((c:Int) != 0)=true:=by rw[bne_iff_ne];omega
      clear hn1 hk1
      go_wp2_with fail
      refine bodyPost_ret (v:=.tuple #[.pointer none,.int .i64 0,.int .i64 c]) (by simp[results,Tryz.results153,go_sem]) rfl ?_
      exact .inr ⟨HN.out.1,c,hc1,hc2,rfl,HN.out.2⟩
end Go.Proofs.YtcfdpogegngplaaGreat
