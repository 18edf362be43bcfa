import Derived.Shelf.Bytes.SlSmallAll
import Derived.Test.YtcfdpogegngplaaGreatZg0p
import Derived.Test.YtcfdpogegngplaaGreatZg0c
set_option maxRecDepth 100000
set_option maxHeartbeats 4000000
namespace Go.Proofs.YtcfdpogegngplaaGreat
open Go.RowKit
theorem Sl.conv{w:World}{sv:Value}{cs:List Nat}(h:Sl .u8 w sv (aB cs)):(convert 30 9 sv).run Tryz.prog w=.ok (.string (strOfNums (aB cs))) w:=by
 obtain⟨a,cap,rfl,h1,h2,h3,hc⟩:=h
 cases cs with
 | nil=>exact run_convert_bytes_zero w _ _ Tryz.underlying30 Tryz.underlying5 a cap _ Tryz.underlying9
 | cons x cs =>
  obtain⟨g,off,rfl,_⟩:=hc 0 (x:Int) rfl
  refine run_convert_bytes_arg (P:=Tryz.prog) w _ _ Tryz.underlying30 Tryz.underlying5 g off _ cap (aB (x :: cs)) rfl (fun i hi=>?_) _ Tryz.underlying9
  obtain⟨z,hz⟩:∃ z,(aB (x :: cs))[i]? = some z:=⟨_,List.getElem?_eq_getElem hi⟩
  obtain⟨g',off',he,hcell⟩:=hc i z hz
  simp only [Option.some.injEq,Addr.mk.injEq] at he
  obtain⟨rfl,rfl,_⟩:=he
  rw[hcell,List.getD_eq_getElem?_getD,hz];rfl
theorem qo4{cs ds:List Nat}(hc:∀ x ∈ cs,x<256)(hd:∀ x ∈ ds,x<256)(h:cs.map (fun n=>UInt8.ofNat n)=ds.map (fun n=>UInt8.ofNat n)):cs=ds:=by
 have h2:=congrArg (List.map UInt8.toNat) h
 rw[List.map_map,List.map_map] at h2
 have e:∀ l:List Nat,(∀ x ∈ l,x<256)→l.map (UInt8.toNat ∘ fun n=>UInt8.ofNat n)=l:=by
  intro l hl
  conv=>rhs;rw[← List.map_id l]
  refine List.map_congr_left fun x hx=>?_
  have:=hl x hx
  simp[UInt8.toNat_ofNat']
  omega
 rwa [e cs hc,e ds hd] at h2
theorem qdb(cs:List Nat):(strOfNums (aB cs)).toList=cs.map (fun n=>UInt8.ofNat n):=by
 rw[Lib.strOfNums_toList]
 unfold Lib.bytesOf aB
 rw[List.map_map]
 exact List.map_congr_left fun x _=>by simp
theorem qma{cs ds:List Nat}(hc:∀ x ∈ cs,x<256)(hd:∀ x ∈ ds,x<256):(strOfNums (aB cs)).toList=(strOfNums (aB ds)).toList↔cs=ds:=by
 refine⟨fun h=>?_,fun h=>by rw[h]⟩
 rw[qdb,qdb] at h
 exact qo4 hc hd h
theorem Xa(p q:Value)(cs ds:List Nat)(w:World)(hp:Sl .u8 w p (aB cs))(hq:Sl .u8 w q (aB ds))(hc:∀ x ∈ cs,x<256)(hd:∀ x ∈ ds,x<256) :
  Calls Tryz.prog 21 #[p,q] w fun e w'=>e=.returned (.bool (decide (cs=ds)))∧w=w':=by
 have k1:=hp.conv
 have k2:=hq.conv
 obtain⟨b,hb⟩:∃ b,decide (cs=ds)=b:=⟨_,rfl⟩
 have hb2:((strOfNums (aB cs)).toList == (strOfNums (aB ds)).toList)=b:=by
  rw[← hb]
  by_cases h:cs=ds
  ·rw[h,beq_self_eq_true];simp
  ·rw[beq_eq_false_iff_ne.2 ((not_congr (qma hc hd)).2 h),decide_eq_false h]
 rw[hb]
 clear hp hq hc hd hb
 generalize strOfNums (aB cs)=s1 at *
 generalize strOfNums (aB ds)=s2 at *
 go_enter Tryz.func21,Tryz.ntmps21
 go_wp2_with fail
 go_ret
 exact⟨rfl,rfl⟩
theorem Xb(p q:Value)(cs ds:List Nat)(w:World)(hp:Sl .u8 w p (aB cs))(hq:Sl .u8 w q (aB ds))(hc:∀ x ∈ cs,x<256)(hd:∀ x ∈ ds,x<256) :
  Calls Tryz.prog 79 #[p,q] w fun e w'=>e=.returned (.bool (decide (cs.take ds.length=ds)))∧w=w':=by
 obtain⟨pa,pc,rfl,hpc,hpm⟩:=hp.form
 obtain⟨qa,qc,rfl,hqc,hqm⟩:=hq.form
 rw[show (aB cs).length=cs.length by simp[aB]] at *
 rw[show (aB ds).length=ds.length by simp[aB]] at *
 by_cases hle:ds.length≤cs.length
 ·have hsub:=hp.take ds.length (by simpa [aB] using hle)
  rw[show (aB cs).take ds.length=aB (cs.take ds.length) by simp[aB]] at hsub
  have hE:=Xa _ _ (cs.take ds.length) ds w hsub hq (fun x hx=>hc x (List.mem_of_mem_take hx)) hd
  have t0:decide ((ds.length:Int)≤(cs.length:Int))=true:=decide_eq_true (by omega)
  have hdc:ds.length≤pc:=by omega
  clear hsub hp hq hc hd
  generalize decide (cs.take ds.length=ds)=B at *
  generalize cs.length=n at *
  generalize ds.length=m at *
  go_enter Tryz.func79,Tryz.ntmps79
  go_wp2_with fail
  refine hE.mono ?_
  rintro e w' ⟨rfl,rfl⟩
  go_wp2_with fail
  go_ret
  exact⟨rfl,rfl⟩
 ·have hb:decide (cs.take ds.length=ds)=false:=by
   refine decide_eq_false (fun h=>?_)
   have:=congrArg List.length h
   rw[List.length_take] at this
   omega
  have t0:decide ((ds.length:Int)≤(cs.length:Int))=false:=decide_eq_false (by omega)
  rw[hb]
  clear hp hq hc hd hb
  generalize cs.length=n at *
  generalize ds.length=m at *
  go_enter Tryz.func79,Tryz.ntmps79
  go_wp2_with fail
  go_ret
  exact⟨rfl,rfl⟩
