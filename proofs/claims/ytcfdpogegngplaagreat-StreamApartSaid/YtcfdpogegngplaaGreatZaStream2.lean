import Derived.Test.YtcfdpogegngplaaGreatZaStream
set_option maxRecDepth 100000
set_option maxHeartbeats 4000000
namespace Go.Proofs.YtcfdpogegngplaaGreat
open Go.RowKit
theorem qf2 (ty:TypeId) {wr:World} (B:Nat) (v:Value) (s:ByteArray) (bs cs:List Nat) (hown:OwnY B wr v bs) (hstr:Lib.strCells s=ys cs) (hlen:bs.length+s.size≤10000000000) (hB:B≤wr.heap.size) :
  ∃ v' w',(Builtin.append_ #[30,9] ty #[v,.string s]).run Tryz.prog wr=.ok v' w'∧OwnY B w' v' (bs ++ cs)∧Keeps (fun k=>v.ownBlock=some k) wr w':=by
 obtain⟨i,hi,hz0,hz1,hz2⟩:=info_parts infoY
 have hsz:s.size=cs.length:=by
  have:=congrArg List.length hstr
  rw[Lib.strCells_length,q47] at this
  exact this
 obtain⟨v',w',hr,hown',hgrow,_⟩:=Lib.run_append_own_string (P:=Tryz.prog) (w:=wr) B 30 9 ty 5 i Tryz.underlying30 Tryz.underlying9 hi hz0 hz1 hz2 v bs.length _ hown s (by unfold maxLen;omega) (by omega) hB
 refine⟨v',w',hr,?_,(Keeps.refl _ wr).grown hgrow (fun k hk=>.inl hk)⟩
 unfold OwnY
 rw[List.length_append,qcr,← hstr,← hsz]
 exact hown'
theorem q30 {ops:Array Oper} {o:Oper} {a:Act} {K:Act→World→Prop} {Q:Exit→Act→World→Prop} {E:Prop} {wr:World} (hgd:o.guard=none) (sl x:Operand)
  (ho:o.op=.call { callee:=.builtin .append,args:=#[sl,x],argTypes:=#[30,9] }) (B:Nat) (v:Value) (s:ByteArray) (bs cs:List Nat) (hs:a.eval sl=v) (hx:a.eval x=.string s)
  (hown:OwnY B wr v bs) (hstr:Lib.strCells s=ys cs) (hlen:bs.length+s.size≤10000000000) (hB:B≤wr.heap.size)
  (h:∀ v' w',OwnY B w' v' (bs ++ cs)→Keeps (fun k=>v.ownBlock=some k) wr w'→K (a.put o.dst v') w') :
  if Region.wanted o (yielded ops a.tmps)=true then Oper.wp Tryz.prog o a wr K Q else E:=by
 have hw:Region.wanted o (yielded ops a.tmps)=true:=by simp[Region.wanted,hgd]
 rw[if_pos hw]
 obtain⟨v',w',hr,h2,h3⟩:=qf2 o.type B v s bs cs hown hstr hlen hB
 unfold Oper.wp execOp
 simp only [ho,resolve,invoke,builtin,Sem.run_bind,Sem.run_pure,Result.andThen_ok,List.map_toArray,List.map_cons,List.map_nil,hs,hx,hr]
 exact h v' w' h2 h3
theorem q4q (cs:List Nat):∃ t p l:Bool,headV cs=.agg #[.bool t,.bool p,.bool l]:=by
 unfold headV
 split
 ·exact⟨_,_,_,rfl⟩
 ·exact⟨_,_,_,rfl⟩
theorem strX (k:Nat) (hk:k≤3):Lib.strCells ((⟨#[80,81,0]⟩:ByteArray).extract k 3)=ys ([80,81,0].drop k):=by
 obtain rfl|rfl|rfl|rfl:k=0∨k=1∨k=2∨k=3:=by omega
 all_goals simp[Lib.strCells,ys,nats,ByteArray.extract_mk]
theorem strXs (k:Nat):((⟨#[80,81,0]⟩:ByteArray).extract k 3).size≤3:=by
 rw[ByteArray.size_extract]
 have:(⟨#[80,81,0]⟩:ByteArray).size=3:=rfl
 omega
def fillH (cs:List Nat):List Nat:=cs.take 3 ++ [80,81,0].drop (min cs.length 3)
def sureC (cs:List Nat) (over:Bool):Nat:=if over=true then 0 else if 2097152<cs.length then 6 else headC (fillH cs)
theorem q91 (b B:Nat) (lim:Int) (pv:Value) (cs:List Nat) (n:Nat) (over:Bool) (w:World) (hS:StrAt w B b lim pv cs n over) (hcs:∀ x ∈ cs,x<256) (hcl:cs.length≤2097153) :
  Calls Tryz.prog 44 #[.pointer (some ⟨b,0,none⟩)] w fun e w'=>e=.returned (.int .i64 (sureC cs over:Nat))∧Keeps (fun _=>False) w w':=by
 obtain⟨pa,pc,rfl,hp1,hp2⟩:=hS.own.form
 have c3:=World.cell_of_heap hS.blk 3
 have c1:=World.cell_of_heap hS.blk 1
 cases over
 rotate_left
 ·have hs:sureC cs true=0:=by unfold sureC;rw[if_pos rfl]
  rw[hs]
  clear hS hcs
  generalize cs.length=cl at *
  go_enter Tryz.func44,Tryz.ntmps44
  go_wp2
  go_ret
  exact⟨rfl,Keeps.refl _ _⟩
 by_cases hbig:2097152<cs.length
 ·have hs:sureC cs false=6:=by unfold sureC;rw[if_neg (by decide),if_pos hbig]
  rw[hs]
  have t1:decide ((2097152:Int)<(cs.length:Int))=true:=decide_eq_true (by omega)
  clear hS hcs
  generalize cs.length=cl at *
  go_enter Tryz.func44,Tryz.ntmps44
  go_wp2_with fail
  go_ret
  exact⟨rfl,Keeps.refl _ _⟩
 ·have hs:sureC cs false=headC (fillH cs):=by unfold sureC;rw[if_neg (by decide),if_neg hbig]
  rw[hs]
  have t1:decide ((2097152:Int)<(cs.length:Int))=false:=decide_eq_false (by omega)
  obtain⟨k,hk⟩:∃ k,k=min cs.length 3:=⟨_,rfl⟩
  have hk3:k≤3:=by omega
  have hmn:∀ W,(Builtin.min_ #[3,3] 3 #[.int .i64 (cs.length:Int),.int .i64 3]).run Tryz.prog W=.ok (.int .i64 (k:Int)) W:=fun W=>by
   have h5:(Builtin.min_ #[3,3] 3 #[.int .i64 (cs.length:Int),.int .i64 3]).run Tryz.prog W=.ok (.int .i64 (if (3:Int)<(cs.length:Int) then 3 else (cs.length:Int))) W:=rfl
   rw[h5]
   congr 2
   split <;> omega
  have hf:fillH cs=cs.take k ++ [80,81,0].drop k:=by
   unfold fillH
   rw[← hk]
   congr 1
   rw[hk]
   rcases Nat.le_total cs.length 3 with h|h
   ·rw[Nat.min_eq_left h,List.take_of_length_le h,List.take_of_length_le (Nat.le_refl _)]
   ·rw[Nat.min_eq_right h]
  have hlt:∀ x ∈ fillH cs,x<256:=by
   intro x hx
   rw[hf] at hx
   rcases List.mem_append.1 hx with h|h
   ·exact hcs x (List.mem_of_mem_take h)
   ·have:=List.mem_of_mem_drop h
    simp at this
    omega
  have hfl:(fillH cs).length≤100:=by
   rw[hf,List.length_append,List.length_take,List.length_drop]
   simp
   omega
  have hkc:k≤cs.length:=by omega
  have hkp:k≤pc:=by omega
  have HX:=Lib.hid (And.intro hS (And.intro hf (And.intro hlt (And.intro hfl hkc))))
  clear hS hcs hk hf hlt hfl hs
  generalize hcl':cs.length=cl at *
  have HCL:=Lib.hid hcl'
  clear hcl'
  go_enter Tryz.func44,Tryz.ntmps44
  have HOS:Hid (∀ W,Keeps (fun _=>False) (w.alloc (.cells #[] 5)) W→Keeps (fun _=>False) w W∧OwnY w.heap.size W (.slice (some ⟨w.heap.size,0,none⟩) 0 0) []∧Sl .u8 W (.slice pa k pc) (nats (cs.take k))∧w.heap.size≤W.heap.size):=Lib.hid (fun W hW=>by
   have h0:=((Keeps.refl (fun _=>False) w).alloc (.cells #[] 5)).trans hW (fun _ _ h=>h)
   have h1:=(HX.out.1.own.sl.keeps h0 (fun _ _ h=>h)).take k (by rw[q02,HCL.out];exact HX.out.2.2.2.2)
   rw[show (nats cs).take k=nats (cs.take k) by simp[nats]] at h1
   have h2:OwnY w.heap.size (w.alloc (.cells #[] 5)) (.slice (some ⟨w.heap.size,0,none⟩) 0 0) []:=World.ownsRow_lit (base:=w.heap.size) (e:=5) (size:=1) w #[] 0 (Nat.le_refl _) (by decide) rfl
   exact⟨h0,h2.keeps hW (fun _ _ h=>h),h1,h0.size⟩)
  have HC:Hid (∀ W,Keeps (fun _=>False) w W→W.cell? ⟨b,1,none⟩=some (.slice pa cl pc)):=Lib.hid (fun W hW=>World.cell_of_heap (hW.at HX.out.1.blk (fun h=>h)) 1)
  have HL:Hid (([]:List Nat).length+(cs.take k).length≤10000000000):=Lib.hid (by rw[List.length_take];simp;omega)
  have HL2:Hid ((cs.take k).length≤3):=Lib.hid (by rw[List.length_take];omega)
  go_wp2_with fail
  clear c3 c1
  obtain rfl|rfl|rfl|rfl:k=0∨k=1∨k=2∨k=3:=by omega
  ·have hstr:Lib.strCells ((⟨#[80,81,0]⟩:ByteArray).extract 0 3)=ys ([80,81,0].drop 0):=strX 0 (by decide)
   have hssz:((⟨#[80,81,0]⟩:ByteArray).extract 0 3).size≤3:=strXs 0
   go_region_held3 (fun w'=>w'.cell? ⟨b,1,none⟩=some (.slice pa cl pc)) (first|exact HC.out _ (Keeps.refl _ _)|exact HC.out _ (Keeps.refl (fun _=>False) w).drew|exact HC.out _ HK4.out.1|exact HC.out _ HK3.out.1|exact HC.out _ (HOS.out _ (by first|exact Keeps.refl _ _|exact (Keeps.refl _ _).drew)).1) (first
    | (refine q1s rfl (.tmp 21) (.tmp 32) rfl w.heap.size (.slice (some ⟨w.heap.size,0,none⟩) 0 0) (.slice pa 0 pc) [] (cs.take 0) (by simp[Act.eval]) (by simp[Act.eval]) (HOS.out _ (by first|exact Keeps.refl _ _|exact (Keeps.refl _ _).drew)).2.1 (HOS.out _ (by first|exact Keeps.refl _ _|exact (Keeps.refl _ _).drew)).2.2.1 HL.out (HOS.out _ (by first|exact Keeps.refl _ _|exact (Keeps.refl _ _).drew)).2.2.2 ?_;intro v1 w3 hown3 hk3 hat3;have HK3:Hid (Keeps (fun _=>False) w w3∧OwnY w.heap.size w3 v1 (cs.take 0)):=Lib.hid ⟨(HOS.out _ (by first|exact Keeps.refl _ _|exact (Keeps.refl _ _).drew)).1.trans hk3 (fun q hq e=>by simp[Value.ownBlock] at e;omega),hown3⟩;clear hown3 hk3 hat3)
    | (refine q30 rfl (.tmp 33) (.tmp 40) rfl w.heap.size v1 ((⟨#[80,81,0]⟩:ByteArray).extract 0 3) (cs.take 0) ([80,81,0].drop 0) (by simp[Act.eval]) (by simp[Act.eval]) HK3.out.2 hstr (by have:=HL2.out;omega) HK3.out.1.size ?_;intro v4 w4 hown4 hk4;have HK4:Hid (Keeps (fun _=>False) w w4∧OwnY w.heap.size w4 v4 (cs.take 0 ++ [80,81,0].drop 0)):=Lib.hid ⟨HK3.out.1.trans hk4 (fun q hq e=>by have:=(HK3.out.2.lt q e).1;omega),hown4⟩;clear hown4 hk4))
   all_goals
    have hfe:cs.take 0 ++ [80,81,0].drop 0=fillH cs:=HX.out.2.1.symm
    rw[hfe] at HK4
    have hHd:=q2a v4 (fillH cs) w4 HK4.out.2.sl HX.out.2.2.1 (by have:=HX.out.2.2.2.1;omega)
    clear hfe
    go_wp2_with fail
    refine hHd.mono ?_
    clear hHd
    rintro e w5 ⟨rfl,hk5⟩
    have HKF:Hid (∀ o,Keeps (fun _=>False) w (w5.alloc o)):=Lib.hid (fun o=>(HK4.out.1.trans hk5 (fun _ _ h=>h)).alloc o)
    clear hk5
    obtain⟨ft,fp,fl,hfv⟩:=q4q (fillH cs)
    rw[hfv]
    clear hfv
    go_wp2_with fail
    go_ret
    exact⟨rfl,HKF.out _⟩
  ·have hq1:¬ (pc:Int)<1:=by omega
   have hq2:(1:Int)≤(pc:Int):=by omega
   have hstr:Lib.strCells ((⟨#[80,81,0]⟩:ByteArray).extract 1 3)=ys ([80,81,0].drop 1):=strX 1 (by decide)
   have hssz:((⟨#[80,81,0]⟩:ByteArray).extract 1 3).size≤3:=strXs 1
   go_region_held3 (fun w'=>w'.cell? ⟨b,1,none⟩=some (.slice pa cl pc)) (first|exact HC.out _ (Keeps.refl _ _)|exact HC.out _ (Keeps.refl (fun _=>False) w).drew|exact HC.out _ HK4.out.1|exact HC.out _ HK3.out.1|exact HC.out _ (HOS.out _ (by first|exact Keeps.refl _ _|exact (Keeps.refl _ _).drew)).1) (first
    | (refine q1s rfl (.tmp 21) (.tmp 32) rfl w.heap.size (.slice (some ⟨w.heap.size,0,none⟩) 0 0) (.slice pa 1 pc) [] (cs.take 1) (by simp[Act.eval]) (by simp[Act.eval]) (HOS.out _ (by first|exact Keeps.refl _ _|exact (Keeps.refl _ _).drew)).2.1 (HOS.out _ (by first|exact Keeps.refl _ _|exact (Keeps.refl _ _).drew)).2.2.1 HL.out (HOS.out _ (by first|exact Keeps.refl _ _|exact (Keeps.refl _ _).drew)).2.2.2 ?_;intro v1 w3 hown3 hk3 hat3;have HK3:Hid (Keeps (fun _=>False) w w3∧OwnY w.heap.size w3 v1 (cs.take 1)):=Lib.hid ⟨(HOS.out _ (by first|exact Keeps.refl _ _|exact (Keeps.refl _ _).drew)).1.trans hk3 (fun q hq e=>by simp[Value.ownBlock] at e;omega),hown3⟩;clear hown3 hk3 hat3)
    | (refine q30 rfl (.tmp 33) (.tmp 40) rfl w.heap.size v1 ((⟨#[80,81,0]⟩:ByteArray).extract 1 3) (cs.take 1) ([80,81,0].drop 1) (by simp[Act.eval]) (by simp[Act.eval]) HK3.out.2 hstr (by have:=HL2.out;omega) HK3.out.1.size ?_;intro v4 w4 hown4 hk4;have HK4:Hid (Keeps (fun _=>False) w w4∧OwnY w.heap.size w4 v4 (cs.take 1 ++ [80,81,0].drop 1)):=Lib.hid ⟨HK3.out.1.trans hk4 (fun q hq e=>by have:=(HK3.out.2.lt q e).1;omega),hown4⟩;clear hown4 hk4))
   all_goals
    have hfe:cs.take 1 ++ [80,81,0].drop 1=fillH cs:=HX.out.2.1.symm
    rw[hfe] at HK4
    have hHd:=q2a v4 (fillH cs) w4 HK4.out.2.sl HX.out.2.2.1 (by have:=HX.out.2.2.2.1;omega)
    clear hfe
    go_wp2_with fail
    refine hHd.mono ?_
    clear hHd
    rintro e w5 ⟨rfl,hk5⟩
    have HKF:Hid (∀ o,Keeps (fun _=>False) w (w5.alloc o)):=Lib.hid (fun o=>(HK4.out.1.trans hk5 (fun _ _ h=>h)).alloc o)
    clear hk5
    obtain⟨ft,fp,fl,hfv⟩:=q4q (fillH cs)
    rw[hfv]
    clear hfv
    go_wp2_with fail
    go_ret
    exact⟨rfl,HKF.out _⟩
  ·have hq1:¬ (pc:Int)<2:=by omega
   have hq2:(2:Int)≤(pc:Int):=by omega
   have hstr:Lib.strCells ((⟨#[80,81,0]⟩:ByteArray).extract 2 3)=ys ([80,81,0].drop 2):=strX 2 (by decide)
   have hssz:((⟨#[80,81,0]⟩:ByteArray).extract 2 3).size≤3:=strXs 2
   go_region_held3 (fun w'=>w'.cell? ⟨b,1,none⟩=some (.slice pa cl pc)) (first|exact HC.out _ (Keeps.refl _ _)|exact HC.out _ (Keeps.refl (fun _=>False) w).drew|exact HC.out _ HK4.out.1|exact HC.out _ HK3.out.1|exact HC.out _ (HOS.out _ (by first|exact Keeps.refl _ _|exact (Keeps.refl _ _).drew)).1) (first
    | (refine q1s rfl (.tmp 21) (.tmp 32) rfl w.heap.size (.slice (some ⟨w.heap.size,0,none⟩) 0 0) (.slice pa 2 pc) [] (cs.take 2) (by simp[Act.eval]) (by simp[Act.eval]) (HOS.out _ (by first|exact Keeps.refl _ _|exact (Keeps.refl _ _).drew)).2.1 (HOS.out _ (by first|exact Keeps.refl _ _|exact (Keeps.refl _ _).drew)).2.2.1 HL.out (HOS.out _ (by first|exact Keeps.refl _ _|exact (Keeps.refl _ _).drew)).2.2.2 ?_;intro v1 w3 hown3 hk3 hat3;have HK3:Hid (Keeps (fun _=>False) w w3∧OwnY w.heap.size w3 v1 (cs.take 2)):=Lib.hid ⟨(HOS.out _ (by first|exact Keeps.refl _ _|exact (Keeps.refl _ _).drew)).1.trans hk3 (fun q hq e=>by simp[Value.ownBlock] at e;omega),hown3⟩;clear hown3 hk3 hat3)
    | (refine q30 rfl (.tmp 33) (.tmp 40) rfl w.heap.size v1 ((⟨#[80,81,0]⟩:ByteArray).extract 2 3) (cs.take 2) ([80,81,0].drop 2) (by simp[Act.eval]) (by simp[Act.eval]) HK3.out.2 hstr (by have:=HL2.out;omega) HK3.out.1.size ?_;intro v4 w4 hown4 hk4;have HK4:Hid (Keeps (fun _=>False) w w4∧OwnY w.heap.size w4 v4 (cs.take 2 ++ [80,81,0].drop 2)):=Lib.hid ⟨HK3.out.1.trans hk4 (fun q hq e=>by have:=(HK3.out.2.lt q e).1;omega),hown4⟩;clear hown4 hk4))
   all_goals
    have hfe:cs.take 2 ++ [80,81,0].drop 2=fillH cs:=HX.out.2.1.symm
    rw[hfe] at HK4
    have hHd:=q2a v4 (fillH cs) w4 HK4.out.2.sl HX.out.2.2.1 (by have:=HX.out.2.2.2.1;omega)
    clear hfe
    go_wp2_with fail
    refine hHd.mono ?_
    clear hHd
    rintro e w5 ⟨rfl,hk5⟩
    have HKF:Hid (∀ o,Keeps (fun _=>False) w (w5.alloc o)):=Lib.hid (fun o=>(HK4.out.1.trans hk5 (fun _ _ h=>h)).alloc o)
    clear hk5
    obtain⟨ft,fp,fl,hfv⟩:=q4q (fillH cs)
    rw[hfv]
    clear hfv
    go_wp2_with fail
    go_ret
    exact⟨rfl,HKF.out _⟩
  ·have hq1:¬ (pc:Int)<3:=by omega
   have hq2:(3:Int)≤(pc:Int):=by omega
   have hstr:Lib.strCells ((⟨#[80,81,0]⟩:ByteArray).extract 3 3)=ys ([80,81,0].drop 3):=strX 3 (by decide)
   have hssz:((⟨#[80,81,0]⟩:ByteArray).extract 3 3).size≤3:=strXs 3
   go_region_held3 (fun w'=>w'.cell? ⟨b,1,none⟩=some (.slice pa cl pc)) (first|exact HC.out _ (Keeps.refl _ _)|exact HC.out _ (Keeps.refl (fun _=>False) w).drew|exact HC.out _ HK4.out.1|exact HC.out _ HK3.out.1|exact HC.out _ (HOS.out _ (by first|exact Keeps.refl _ _|exact (Keeps.refl _ _).drew)).1) (first
    | (refine q1s rfl (.tmp 21) (.tmp 32) rfl w.heap.size (.slice (some ⟨w.heap.size,0,none⟩) 0 0) (.slice pa 3 pc) [] (cs.take 3) (by simp[Act.eval]) (by simp[Act.eval]) (HOS.out _ (by first|exact Keeps.refl _ _|exact (Keeps.refl _ _).drew)).2.1 (HOS.out _ (by first|exact Keeps.refl _ _|exact (Keeps.refl _ _).drew)).2.2.1 HL.out (HOS.out _ (by first|exact Keeps.refl _ _|exact (Keeps.refl _ _).drew)).2.2.2 ?_;intro v1 w3 hown3 hk3 hat3;have HK3:Hid (Keeps (fun _=>False) w w3∧OwnY w.heap.size w3 v1 (cs.take 3)):=Lib.hid ⟨(HOS.out _ (by first|exact Keeps.refl _ _|exact (Keeps.refl _ _).drew)).1.trans hk3 (fun q hq e=>by simp[Value.ownBlock] at e;omega),hown3⟩;clear hown3 hk3 hat3)
    | (refine q30 rfl (.tmp 33) (.tmp 40) rfl w.heap.size v1 ((⟨#[80,81,0]⟩:ByteArray).extract 3 3) (cs.take 3) ([80,81,0].drop 3) (by simp[Act.eval]) (by simp[Act.eval]) HK3.out.2 hstr (by have:=HL2.out;omega) HK3.out.1.size ?_;intro v4 w4 hown4 hk4;have HK4:Hid (Keeps (fun _=>False) w w4∧OwnY w.heap.size w4 v4 (cs.take 3 ++ [80,81,0].drop 3)):=Lib.hid ⟨HK3.out.1.trans hk4 (fun q hq e=>by have:=(HK3.out.2.lt q e).1;omega),hown4⟩;clear hown4 hk4))
   all_goals
    have hfe:cs.take 3 ++ [80,81,0].drop 3=fillH cs:=HX.out.2.1.symm
    rw[hfe] at HK4
    have hHd:=q2a v4 (fillH cs) w4 HK4.out.2.sl HX.out.2.2.1 (by have:=HX.out.2.2.2.1;omega)
    clear hfe
    go_wp2_with fail
    refine hHd.mono ?_
    clear hHd
    rintro e w5 ⟨rfl,hk5⟩
    have HKF:Hid (∀ o,Keeps (fun _=>False) w (w5.alloc o)):=Lib.hid (fun o=>(HK4.out.1.trans hk5 (fun _ _ h=>h)).alloc o)
    clear hk5
    obtain⟨ft,fp,fl,hfv⟩:=q4q (fillH cs)
    rw[hfv]
    clear hfv
    go_wp2_with fail
    go_ret
    exact⟨rfl,HKF.out _⟩
end Go.Proofs.YtcfdpogegngplaaGreat
