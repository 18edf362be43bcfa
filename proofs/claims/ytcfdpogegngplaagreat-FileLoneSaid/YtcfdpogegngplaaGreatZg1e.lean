import Derived.Test.YtcfdpogegngplaaGreatZg1d
import Derived.Test.YtcfdpogegngplaaGreatZg0s
set_option maxRecDepth 100000
set_option maxHeartbeats 4000000
namespace Go.Proofs.YtcfdpogegngplaaGreat
open Go.RowKit
theorem iX.keeps{W W':World}{r rv:Nat}{vv:Value}{l:List Bool}{a:Nat}{G:Nat→Prop}(h:iX W r rv vv l a)(k:Keeps G W W')(h1:¬ G r)(h2:¬ G rv)(h3:∀ q,vv.ownBlock=some q→¬ G q):iX W' r rv vv l a :=
 ⟨k.at h.blk h1,h.vec.keeps k h2 h3,h.ne⟩
theorem iX.drewN{W:World}{r rv:Nat}{vv:Value}{l:List Bool}{a:Nat}(h:iX W r rv vv l a)(q:Nat):iX (W.drewN q) r rv vv l a:=h.keeps ((Keeps.refl (fun _=>False) W).drewN q) (fun h=>h) (fun h=>h) (fun _ _ h=>h)
theorem iX.step{W:World}{r rv:Nat}{vv:Value}{l:List Bool}{a:Nat}(h:iX W r rv vv l a):iX (W.setCell ⟨r,2,none⟩ (.int .i64 (a+1:Nat))) r rv vv l (a+1)∧Keeps (fun x=>x=r) W (W.setCell ⟨r,2,none⟩ (.int .i64 (a+1:Nat))):=by
 have k:=(Keeps.refl (fun x=>x=r) W).setCell (p:=⟨r,2,none⟩) (Or.inl rfl) (.int .i64 (a+1:Nat))
 refine⟨⟨by simpa using dM h.blk 2 (.int .i64 (a+1:Nat)),h.vec.keeps k (fun e=>h.ne.1 e.symm) (fun q hq e=>h.ne.2 (by rw[hq,e])),h.ne⟩,k⟩
theorem q9x(r rv:Nat)(vv:Value)(l:List Bool)(a:Nat)(w:World)(h:iX w r rv vv l a)(ha:a≤l.length)(hl:l.length≤100000000) :
  Calls Tryz.prog 225 #[.pointer (some ⟨r,0,none⟩)] w fun e w'=>e=.returned (.int .i64 ((l.length - a:Nat):Int))∧Keeps (fun _=>False) w w':=by
 obtain⟨n,hn⟩:∃ n,n=l.length:=⟨_,rfl⟩
 have hb:=h.blk
 rw[← hn] at hb ha hl ⊢
 have c1:=ak hb 1
 have c2:=ak hb 2
 obtain⟨m,hm⟩:∃ m,m=n - a:=⟨_,rfl⟩
 have e1:(n:Int) - (a:Int)=(m:Int):=by omega
 have e2:IntKind.i64.wrap (m:Int)=(m:Int):=IntWalk.i64_in _ (by omega)
 rw[← hm]
 clear h hb hn hm
 go_enter Tryz.func225,Tryz.ntmps225
 go_wp2_with fail
 go_quiet (fail)
 go_wp2_with fail
 go_ret
 exact⟨rfl,(Keeps.refl _ _).drewN _⟩
theorem q6h(r rv:Nat)(vv:Value)(l:List Bool)(a k:Nat)(w:World)(h:iX w r rv vv l a)(hk:k≤64)(ha:a+k≤l.length)(hl:l.length≤100000000) :
  Calls Tryz.prog 186 #[.pointer (some ⟨r,0,none⟩),.int .i64 k] w fun e w'=>e=.returned (.tuple #[.int .u64 (vZ l a k:Nat),.int .i64 0])∧iX w' r rv vv l (a+k)∧Keeps (fun x=>x=r) w w':=by
 have hmx:∀ W,(Builtin.max_ #[3,3] 3 #[.int .i64 (k:Int),.int .i64 0]).run Tryz.prog W=.ok (.int .i64 k) W:=fun W=>by
  have h5:(Builtin.max_ #[3,3] 3 #[.int .i64 (k:Int),.int .i64 0]).run Tryz.prog W=.ok (.int .i64 (if (k:Int)<0 then 0 else k)) W:=rfl
  rw[h5,if_neg (by omega)]
 have hmn:∀ W,(Builtin.min_ #[3,3] 3 #[.int .i64 (k:Int),.int .i64 64]).run Tryz.prog W=.ok (.int .i64 k) W:=fun W=>by
  have h5:(Builtin.min_ #[3,3] 3 #[.int .i64 (k:Int),.int .i64 64]).run Tryz.prog W=.ok (.int .i64 (if (64:Int)<k then 64 else k)) W:=rfl
  rw[h5,if_neg (by omega)]
 have Yw:=q9x r rv vv l a w h (by omega) hl
 obtain⟨m,hm⟩:∃ m,m=l.length - a:=⟨_,rfl⟩
 rw[← hm] at Yw
 have t0:decide ((m:Int)<(k:Int))=false:=decide_eq_false (by omega)
 have hmk:k≤m:=by omega
 have H:=ah h
 clear h hm
 go_enter Tryz.func186,Tryz.ntmps186
 go_wp2_with fail
 refine Yw.mono ?_
 clear Yw
 rintro e w1 ⟨rfl,hk1⟩
 have h0:iX w1 r rv vv l a∧Keeps (fun x=>x=r) w w1:=⟨H.out.keeps hk1 (fun h=>h) (fun h=>h) (fun _ _ h=>h),hk1.mono (fun _ _ h=>h.elim)⟩
 have H0:=ah h0
 clear hk1 h0 H
 go_wp2_with fail
 go_loopg [6,20] k (fun mu xv iv wr=>∃ j:Nat,j≤k∧mu=k - j∧xv=.int .u64 (vZ l a j:Nat)∧iv=.int .i64 j∧iX wr r rv vv l (a+j)∧Keeps (fun x=>x=r) w wr)
 case atStart=>exact⟨0,Nat.zero_le _,by omega,rfl,rfl,H0.out⟩
 case round =>
  clear H0
  obtain⟨j,hj,aN,rfl,rfl,hR,hkr⟩:=hrel
  have HG:=ah aN
  clear aN
  by_cases hlt:j<k
  ·have hAt:=fun q=>lD rv vv l (a+j) (wr.drewN q) ((hR.drewN q).vec) (by omega) (by omega)
   have hst:vZ l a (j+1)=vZ l a j+(l.getD (a+j) false).toNat * 2 ^ j:=rfl
   have Yx:=qp3 l a j
   have hz1:(l.getD (a+j) false).toNat≤1:=by cases l.getD (a+j) false <;> simp
   obtain⟨X,hX⟩:∃ X,X=vZ l a j:=⟨_,rfl⟩
   obtain⟨z,hz⟩:∃ z,z=(l.getD (a+j) false).toNat:=⟨_,rfl⟩
   obtain⟨c,hc⟩:∃ c,c=a+j:=⟨_,rfl⟩
   obtain⟨s,hs⟩:∃ s,s=z * 2 ^ j:=⟨_,rfl⟩
   obtain⟨Y,hY⟩:∃ Y,Y=X+s:=⟨_,rfl⟩
   have rF:2 ^ j * 2≤18446744073709551616:=by
    have:2 ^ (j+1)≤2 ^ 64:=Nat.pow_le_pow_right (by decide) (by omega)
    rw[Nat.pow_succ] at this
    exact this
   rw[← hX] at Yx hst
   rw[← hz] at hz1 hst hAt
   rw[← hs] at hst
   rw[← hY] at hst
   rw[← hc] at hAt
   have hsb:s≤2 ^ j:=by rw[hs];have:=Nat.mul_le_mul_right (2 ^ j) hz1;omega
   have o1:bits .or .u64 (X:Int) (s:Int)=(Y:Int):=by
    have h3:=bits_or_u64_nat X s (by omega) (by omega)
    rw[hs,Nat.or_comm,Nat.mul_comm,← Nat.two_pow_add_eq_or_of_lt Yx,Nat.mul_comm,← hs,Nat.add_comm,← hY] at h3
    exact h3
   have w1:IntKind.u64.wrap (z:Int)=(z:Int):=by rw[IntKind.wrap_u64];omega
   have w2:IntKind.u64.wrap ((z:Int) * 2 ^ j)=(s:Int):=by
    have e:(z:Int) * 2 ^ j=(s:Int):=by rw[hs];push_cast;rfl
    rw[e,IntKind.wrap_u64];omega
   have hR2:=hR
   rw[← hc] at hR2
   have c0:=ak hR2.blk 0
   have c2:=ak hR2.blk 2
   have w3:IntKind.i64.wrap ((c:Int)+1)=(c:Int)+1:=IntWalk.i64_in _ (by omega)
   have w4:IntKind.i64.wrap ((j:Int)+1)=(j:Int)+1:=IntWalk.i64_in _ (by omega)
   have t1:decide ((j:Int)<(k:Int))=true:=decide_eq_true (by omega)
   have HS:Hid (∀ q,((wr.drewN q).cell? ⟨r,2,none⟩=some (.int .i64 c))∧(∀ i,(wr.drewN q).frozen? ⟨r,i,none⟩=false)∧iX ((wr.drewN q).setCell ⟨r,2,none⟩ (.int .i64 ((c:Int)+1))) r rv vv l (a+(j+1))∧Keeps (fun x=>x=r) w ((wr.drewN q).setCell ⟨r,2,none⟩ (.int .i64 ((c:Int)+1)))):=ah (fun q=>by
    have h1:=(hR2.drewN q).step
    rw[show c+1=a+(j+1) by omega] at h1
    have e:((a+(j+1):Nat):Int)=(c:Int)+1:=by omega
    rw[e] at h1
    exact⟨ak (hR2.drewN q).blk 2,au (hR2.drewN q).blk,h1.1,(hkr.drewN q).trans h1.2 (fun _ _ h=>h)⟩)
   have HV:=ah hst
   rw[← hX]
   clear hst Yx hX hz hc hs hY hsb hR hR2 hkr hz1 rF
   go_wp2_with fail
   go_quiet ((go_at_call 195;exact qH (hAt _)))
   obtain⟨d2,df,oF,hk3⟩:=HS.out nq
   have HF:=ah (aj oF hk3)
   clear oF hk3
   go_wp2_with fail
   go_roundg (k - (j+1))
   case measure=>rw[HG.out];omega
   case rel=>exact⟨j+1,by omega,rfl,by rw[HV.out],by go_num,HF.out⟩
  ·obtain rfl:j=k:=by omega
   have t1:decide ((j:Int)<(j:Int))=false:=decide_eq_false (by omega)
   have HF:=ah (aj hR hkr)
   clear hR hkr
   go_wp2_with fail
   refine bodyPost_ret (v:=.tuple #[.int .u64 (vZ l a j:Nat),.int .i64 0]) (by simp[results,Tryz.results186,go_sem]) rfl ?_
   exact⟨rfl,HF.out⟩
