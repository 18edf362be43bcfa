import Derived.Test.YtcfdpogegngplaaGreatZaRanks
import Derived.Test.YtcfdpogegngplaaGreatZaParens
set_option maxRecDepth 100000
set_option maxHeartbeats 4000000
namespace Go.Proofs.YtcfdpogegngplaaGreat
section
open Go.RowKit
theorem qnc (l:List Bool) (b:Bool):ex (l ++ [b]) (l.length+1)=ex l l.length+if b then 1 else -1:=by
 rw[qb9]
 cases b <;> rfl
theorem qem {zs:List Int} (h:∀ z ∈ zs,z=0∨z=1) {k:Nat} {z:Int} (hz:zs[k]? = some z):(q0w zs).getD k false=(z == 1):=by
 have h1:=qlx h hz
 have h2:=h z (List.mem_of_getElem? hz)
 cases hb:(q0w zs).getD k false <;> rw[hb] at h1 <;> simp at h1 <;> subst h1 <;> rfl
end
section
open Go.RowKit
structure MInv (l:List Bool) (k:Nat) (ms rs:List Int) (st:List Nat):Prop where
 lm:ms.length=l.length
 lr:rs.length=l.length
 hx:ex l k=st.length
 stk:∀ (j o:Nat),st[j]? = some o→o<k∧l.getD o false=true∧ex l o=j∧∀ p,o<p→p≤k→(j:Int)<ex l p
 done:∀ p,p<k→(∃ j:Nat,st[j]? = some p)∨∃ m:Nat,ms[p]? = some (m:Int)∧MateOf l p m
 rd:∀ p,p<k→∃ r:Int,rs[p]? = some r∧q8x l p r
theorem MInv.start (l:List Bool):MInv l 0 (List.replicate l.length 0) (List.replicate l.length 0) [] :=
 ⟨by simp,by simp,by rw[q5b];rfl,fun j o h=>by simp at h,fun p hp=>by omega,fun p hp=>by omega⟩
theorem MInv.open {l:List Bool} {k:Nat} {ms rs:List Int} {st:List Nat} (h:MInv l k ms rs st) (hk:k<l.length) (hb:l.getD k false=true) (r:Int)
  (hr:(st=[]∧r=-1)∨∃ o,st[st.length - 1]? = some o∧0<st.length∧r=(o:Nat)):MInv l (k+1) ms (rs.set k r) (st ++ [k]):=by
 have hs:=q49 l hk
 rw[hb,if_pos rfl,h.hx] at hs
 have hRA:qek l k r:=by
  rcases hr with⟨rfl,rfl⟩|⟨o,ho,hl,rfl⟩
  ·exact .inl ⟨h.hx,rfl⟩
  ·obtain⟨h1,h2,h3,h4⟩:=h.stk _ _ ho
   refine .inr ⟨by rw[h.hx];omega,o,rfl,h1,by omega,by rw[h3,h.hx];omega,fun p h5 h6=>?_⟩
   have:=h4 p h5 h6
   rw[h.hx];omega
 refine⟨h.lm,by simpa using h.lr,by simpa using hs,fun j o hj=>?_,fun p hp=>?_,fun p hp=>?_⟩
 ·rw[List.getElem?_append] at hj
  split at hj
  ·obtain⟨h1,h2,h3,h4⟩:=h.stk _ _ hj
   refine⟨by omega,h2,h3,fun p h5 h6=>?_⟩
   by_cases hp:p≤k
   ·exact h4 p h5 hp
   ·obtain rfl:p=k+1:=by omega
    rw[hs];omega
  ·rename_i hlt
   have hj2:j - st.length=0:=by
    rcases Nat.eq_zero_or_pos (j - st.length) with h|h
    ·exact h
    ·rw[List.getElem?_eq_none (by simp;omega)] at hj;cases hj
   rw[hj2] at hj
   simp only [List.getElem?_cons_zero,Option.some.injEq] at hj
   subst hj
   have hjl:j=st.length:=by omega
   subst hjl
   refine⟨by omega,hb,h.hx,fun p h5 h6=>?_⟩
   obtain rfl:p=k+1:=by omega
   rw[hs];omega
 ·by_cases hpk:p<k
  ·rcases h.done p hpk with⟨j,hj⟩|hm
   ·refine .inl ⟨j,?_⟩
    rw[List.getElem?_append_left]
    ·exact hj
    ·rcases Nat.lt_or_ge j st.length with h' | h'
     ·exact h'
     ·rw[List.getElem?_eq_none h'] at hj;cases hj
   ·exact .inr hm
  ·obtain rfl:p=k:=by omega
   exact .inl ⟨st.length,by simp⟩
 ·by_cases hpk:p<k
  ·rw[List.getElem?_set_ne (by omega)]
   exact h.rd p hpk
  ·obtain rfl:p=k:=by omega
   exact⟨r,by rw[List.getElem?_set_self (by rw[h.lr];exact hk)],.inl ⟨hb,hRA⟩⟩
theorem MInv.top {l:List Bool} {k:Nat} {ms rs:List Int} {st:List Nat} (h:MInv l k ms rs st) (hB:Bal l) (hk:k<l.length) (hb:l.getD k false=false) :
  ∃ o,st[st.length - 1]? = some o∧0<st.length∧o<k∧IsPair l o k:=by
 have hs:=q49 l hk
 rw[hb,if_neg (by simp),h.hx] at hs
 have h0:=hB.2 (k+1) (by omega)
 have hl:0<st.length:=by omega
 obtain⟨o,ho⟩:∃ o,st[st.length - 1]? = some o:=⟨_,List.getElem?_eq_getElem (by omega)⟩
 obtain⟨h1,h2,h3,h4⟩:=h.stk _ _ ho
 refine⟨o,ho,hl,h1,h1,hk,by rw[hs,h3];omega,fun p h5 h6=>?_⟩
 rw[h3]
 exact h4 p h5 h6
theorem MInv.close {l:List Bool} {k:Nat} {ms rs:List Int} {st:List Nat} (h:MInv l k ms rs st) (hk:k<l.length) (hb:l.getD k false=false) {o:Nat} (ho:st[st.length - 1]? = some o) (hl:0<st.length) (hok:o<k) (hP:IsPair l o k) (r:Int) (hr:rs[o]? = some r) :
  MInv l (k+1) ((ms.set k (o:Int)).set o (k:Int)) (rs.set k r) (st.take (st.length - 1)):=by
 have hs:=q49 l hk
 rw[hb,if_neg (by simp),h.hx] at hs
 refine⟨by simpa using h.lm,by simpa using h.lr,by rw[hs,List.length_take];omega,fun j q hj=>?_,fun p hp=>?_,fun p hp=>?_⟩
 ·rw[List.getElem?_take] at hj
  split at hj
  ·obtain⟨h1,h2,h3,h4⟩:=h.stk _ _ hj
   refine⟨by omega,h2,h3,fun p h5 h6=>?_⟩
   by_cases hp:p≤k
   ·exact h4 p h5 hp
   ·obtain rfl:p=k+1:=by omega
    rw[hs];omega
  ·cases hj
 ·by_cases hpo:p=o
  ·subst hpo
   exact .inr ⟨k,by rw[List.getElem?_set_self (by rw[List.length_set,h.lm];omega)],hP.mate_l⟩
  ·rw[List.getElem?_set_ne (fun e=>hpo e.symm)]
   by_cases hpk:p<k
   ·rw[List.getElem?_set_ne (by omega)]
    rcases h.done p hpk with⟨j,hj⟩|hm
    ·refine .inl ⟨j,?_⟩
     have hjl:j<st.length:=by
      rcases Nat.lt_or_ge j st.length with h' | h'
      ·exact h'
      ·rw[List.getElem?_eq_none h'] at hj;cases hj
     rw[List.getElem?_take,if_pos]
     ·exact hj
     ·rcases Nat.lt_or_ge j (st.length - 1) with h' | h'
      ·exact h'
      ·obtain rfl:j=st.length - 1:=by omega
       rw[ho] at hj
       simp only [Option.some.injEq] at hj
       exact absurd hj.symm hpo
    ·exact .inr hm
   ·obtain rfl:p=k:=by omega
    exact .inr ⟨o,by rw[List.getElem?_set_self (by rw[h.lm];exact hk)],hP.mate_r⟩
 ·by_cases hpk:p<k
  ·rw[List.getElem?_set_ne (by omega)]
   exact h.rd p hpk
  ·obtain rfl:p=k:=by omega
   obtain⟨r',h1,h2⟩:=h.rd o hok
   rw[hr] at h1
   simp only [Option.some.injEq] at h1
   subst h1
   refine⟨r,by rw[List.getElem?_set_self (by rw[h.lr];exact hk)],.inr ⟨hb,o,hP,?_⟩⟩
   rcases h2 with⟨_,h2⟩|⟨h2,_⟩
   ·exact h2
   ·rw[hP.opens.1] at h2;cases h2
theorem MInv.fin {l:List Bool} {ms rs:List Int} {st:List Nat} (h:MInv l l.length ms rs st) (hB:Bal l):∀ p,p<l.length→(∃ m:Nat,ms[p]? = some (m:Int)∧MateOf l p m)∧∃ r:Int,rs[p]? = some r∧q8x l p r:=by
 intro p hp
 refine⟨?_,h.rd p hp⟩
 have hx:=h.hx
 rw[hB.1] at hx
 have hst:st=[]:=List.eq_nil_of_length_eq_zero (by omega)
 rcases h.done p hp with⟨j,hj⟩|hm
 ·rw[hst] at hj;simp at hj
 ·exact hm
theorem OwnI.set {B:Nat} {w:World} {g n cap:Nat} {zs:List Int} (h:OwnI B w (.slice (some ⟨g,0,none⟩) n cap) zs) (i:Nat) (z:Int):OwnI B (w.setCell ⟨g,i,none⟩ (.int .i64 z)) (.slice (some ⟨g,0,none⟩) n cap) (zs.set i z):=by
 have hn:n=zs.length:=by
  obtain⟨a,c,hv,_⟩:=h.form
  simp only [Value.slice.injEq] at hv
  exact hv.2.1
 subst hn
 have:=q7j h i (.int .i64 z)
 unfold OwnI ints at *
 rw[List.length_set,List.map_set]
 exact this
theorem OwnI.other {B:Nat} {w:World} {v:Value} {zs:List Int} (h:OwnI B w v zs) (a:Addr) (ha:v.ownBlock≠some a.block) (u:Value):OwnI B (w.setCell a u) v zs :=
 ownsRow_setCell_other h ha u
theorem OwnI.cell {B:Nat} {w:World} {g n cap:Nat} {zs:List Int} (h:OwnI B w (.slice (some ⟨g,0,none⟩) n cap) zs) {i:Nat} {z:Int} (hz:zs[i]? = some z):w.cell? ⟨g,i,none⟩=some (.int .i64 z)∧w.frozen? ⟨g,i,none⟩=false:=by
 have hi:i<zs.length:=by
  rcases Nat.lt_or_ge i zs.length with h' | h'
  ·exact h'
  ·rw[List.getElem?_eq_none h'] at hz;cases hz
 obtain⟨g',cap',hv,_,_,hc,_,_⟩:=q0d h (by omega)
 simp only [Value.slice.injEq,Option.some.injEq,Addr.mk.injEq,and_true] at hv
 obtain⟨rfl,_⟩:=hv
 exact hc i (.int .i64 z) (by rw[ints,List.getElem?_map,hz];rfl)
theorem OwnI.has {B:Nat} {w:World} {g n cap:Nat} {zs:List Int} (h:OwnI B w (.slice (some ⟨g,0,none⟩) n cap) zs) (i:Nat) (hi:i<zs.length):∃ z:Int,w.cell? ⟨g,i,none⟩=some (.int .i64 z)∧w.frozen? ⟨g,i,none⟩=false :=
 ⟨_,h.cell (List.getElem?_eq_getElem hi)⟩
theorem q7x {B:Nat} {w:World} {a:Option Addr} {n cap:Nat} {zs:List Int} (h:OwnI B w (.slice a n cap) zs) (hn:0<zs.length):∃ g,a=some ⟨g,0,none⟩:=by
 obtain⟨g,cap',hv,_⟩:=q0d h hn
 simp only [Value.slice.injEq] at hv
 exact⟨g,hv.1⟩
theorem OwnI.take {B:Nat} {w:World} {v:Value} {a:Option Addr} {n cap:Nat} {zs:List Int} (h:OwnI B w v zs) (hv:v=.slice a n cap) (m:Nat) (hm:m≤zs.length):OwnI B w (.slice a m cap) (zs.take m):=by
 obtain⟨h1,h2⟩:=h
 have hl:(zs.take m).length=m:=by simp;omega
 unfold OwnI
 rw[hl]
 refine⟨by simp[ints];omega,?_⟩
 rcases h2 with⟨h3,h4⟩|⟨g,cap',cur,h3,hb,hg,hnc,hcm,hcs,ht⟩
 ·rw[hv] at h3
  simp only [Value.slice.injEq] at h3
  obtain⟨rfl,rfl,rfl⟩:=h3
  refine .inl ⟨?_,by omega⟩
  obtain rfl:m=0:=by omega
  rfl
 ·rw[hv] at h3
  simp only [Value.slice.injEq] at h3
  obtain⟨rfl,rfl,rfl⟩:=h3
  refine .inr ⟨g,cap,cur,rfl,hb,hg,by omega,hcm,hcs,?_⟩
  simp only [Nat.mul_one] at ht ⊢
  rw[ints,List.map_take]
  unfold ints at ht
  rw[← ht,List.take_take,Nat.min_eq_left hm]
theorem q0i {l:List Nat} {i x:Nat} (h:l[i]? = some x):(nats l)[i]? = some (x:Int):=by simp[nats,h]
theorem q02 (l:List Nat):(nats l).length=l.length:=by simp[nats]
theorem q0l {ops:Array Oper} {rest:List Oper} {o:Oper} {a:Act} {Q:Exit→Act→World→Prop} {wr:World} (n:Nat) (hgd:o.guard=none) (s x:Operand)
  (ho:o.op=.call { callee:=.builtin .append,args:=#[s,x],argTypes:=#[25,25] }) (B:Nat) (v:Value) (zs:List Int) (z:Int) (hn:Hid (zs.length=n)) (H:Nat) (hH:wr.heap.size=H) (hs:a.eval s=v) (hx:a.eval x=.slice (some ⟨H,0,none⟩) 1 1)
  (hown:OwnI B wr v zs) (hlen:n≤10000000000) (hB:B≤wr.heap.size)
  (h:∀ g cap w',OwnI B w' (.slice (some ⟨g,0,none⟩) (n+1) cap) (zs ++ [z])→Keeps (fun k=>v.ownBlock=some k) wr w'→(v.ownBlock=some g∨wr.heap.size≤g)→B≤g →
   wpList Tryz.prog ops Q rest (a.put o.dst (.slice (some ⟨g,0,none⟩) (n+1) cap)) w') :
  wpList Tryz.prog ops Q (o :: rest) a (wr.alloc (.cells #[.int .i64 z] 3)):=by
 have hn:=hn.out
 subst hn
 exact qmn hgd s x ho B v zs z H hH hs hx hown hlen hB h
def MSt (w:World) (l:List Bool) (gm gr k:Nat) (ov:Value) (wr:World):Prop :=
 ∃ ms rs st,MInv l k ms rs st∧OwnI w.heap.size wr (.slice (some ⟨gm,0,none⟩) l.length l.length) ms∧OwnI w.heap.size wr (.slice (some ⟨gr,0,none⟩) l.length l.length) rs∧OwnI w.heap.size wr ov (nats st) ∧
  gm≠gr∧ov.ownBlock≠some gm∧ov.ownBlock≠some gr∧Keeps (fun _=>False) w wr
theorem MSt.start (w:World) (l:List Bool) (hl:l.length≤100000000) (gm gr:Nat) (hg:(gm=w.heap.size∧gr=w.heap.size+1)∨(gr=w.heap.size∧gm=w.heap.size+1)) :
  MSt w l gm gr 0 (.slice none 0 0) (((w.alloc (.cells (madeCells #[.int .i64 0] l.length) 3)).alloc (.cells (madeCells #[.int .i64 0] l.length) 3)).drew):=by
 have ht:(madeCells #[.int .i64 0] l.length).toList=ints (List.replicate l.length 0):=by
  rw[toList_madeCells_one];simp[ints]
 have h1:=World.ownsRow_lit (base:=w.heap.size) (e:=3) (size:=1) w (madeCells #[.int .i64 0] l.length) l.length (Nat.le_refl _) (by unfold maxLen;omega) (by rw[size_madeCells];omega)
 have h2:=World.ownsRow_lit (base:=w.heap.size) (e:=3) (size:=1) (w.alloc (.cells (madeCells #[.int .i64 0] l.length) 3)) (madeCells #[.int .i64 0] l.length) l.length (by simp) (by unfold maxLen;omega) (by rw[size_madeCells];omega)
 rw[ht] at h1 h2
 have hs:(w.alloc (.cells (madeCells #[.int .i64 0] l.length) 3)).heap.size=w.heap.size+1:=by simp
 rw[hs] at h2
 have q1:OwnI w.heap.size (((w.alloc (.cells (madeCells #[.int .i64 0] l.length) 3)).alloc (.cells (madeCells #[.int .i64 0] l.length) 3)).drew) (.slice (some ⟨w.heap.size,0,none⟩) l.length l.length) (List.replicate l.length 0):=by
  have:OwnI w.heap.size (w.alloc (.cells (madeCells #[.int .i64 0] l.length) 3)) (.slice (some ⟨w.heap.size,0,none⟩) l.length l.length) (List.replicate l.length 0):=by
   unfold OwnI;rw[List.length_replicate];exact h1
  exact (this.alloc _).keeps ((Keeps.refl (fun _=>False) _).drew) (fun _ _ h=>h)
 have q2:OwnI w.heap.size (((w.alloc (.cells (madeCells #[.int .i64 0] l.length) 3)).alloc (.cells (madeCells #[.int .i64 0] l.length) 3)).drew) (.slice (some ⟨w.heap.size+1,0,none⟩) l.length l.length) (List.replicate l.length 0):=by
  have:OwnI w.heap.size ((w.alloc (.cells (madeCells #[.int .i64 0] l.length) 3)).alloc (.cells (madeCells #[.int .i64 0] l.length) 3)) (.slice (some ⟨w.heap.size+1,0,none⟩) l.length l.length) (List.replicate l.length 0):=by
   unfold OwnI;rw[List.length_replicate];exact h2
  exact this.keeps ((Keeps.refl (fun _=>False) _).drew) (fun _ _ h=>h)
 have hk:Keeps (fun _=>False) w (((w.alloc (.cells (madeCells #[.int .i64 0] l.length) 3)).alloc (.cells (madeCells #[.int .i64 0] l.length) 3)).drew):=(((Keeps.refl _ w).alloc _).alloc _).drew
 rcases hg with⟨rfl,rfl⟩|⟨rfl,rfl⟩
 ·exact⟨_,_,[],MInv.start l,q1,q2,OwnI.nil _ _,by omega,by simp[Value.ownBlock],by simp[Value.ownBlock],hk⟩
 ·exact⟨_,_,[],MInv.start l,q2,q1,OwnI.nil _ _,by omega,by simp[Value.ownBlock],by simp[Value.ownBlock],hk⟩
theorem MSt.pushed {w w2 w3:World} {l:List Bool} {gm gr k g2 cap2 n:Nat} {ms rs:List Int} {st:List Nat} {ov:Value} (hI:MInv l (k+1) ms rs (st ++ [k])) (hm:OwnI w.heap.size w2 (.slice (some ⟨gm,0,none⟩) l.length l.length) ms) (hr:OwnI w.heap.size w2 (.slice (some ⟨gr,0,none⟩) l.length l.length) rs)
  (ho:OwnI w.heap.size w3 (.slice (some ⟨g2,0,none⟩) (n+1) cap2) (nats st ++ [(k:Int)])) (k3:Keeps (fun k=>ov.ownBlock=some k) w2 w3) (hgg:gm≠gr) (hom:ov.ownBlock≠some gm) (hor:ov.ownBlock≠some gr) (hov:OwnI w.heap.size w2 ov (nats st)) (_:w.heap.size≤gr) (_:w.heap.size≤gm)
  (k2:Keeps (fun _=>False) w w2) (hat:ov.ownBlock=some g2∨w2.heap.size≤g2) (hmg:gm<w2.heap.size) (hrg:gr<w2.heap.size):MSt w l gm gr (k+1) (.slice (some ⟨g2,0,none⟩) (n+1) cap2) w3:=by
 have hn:nats st ++ [(k:Int)]=nats (st ++ [k]):=by simp[nats]
 rw[hn] at ho
 have h1:g2≠gm:=by
  rcases hat with h|h
  ·intro e;rw[e] at h;exact hom h
  ·omega
 have h2:g2≠gr:=by
  rcases hat with h|h
  ·intro e;rw[e] at h;exact hor h
  ·omega
 refine⟨ms,rs,_,hI,hm.keeps k3 (fun b hb h=>?_),hr.keeps k3 (fun b hb h=>?_),ho,hgg,by simp[Value.ownBlock];exact h1,by simp[Value.ownBlock];exact h2,k2.trans k3 (fun x hx h=>by have:=(hov.lt x h).1;omega)⟩
 ·simp only [Value.ownBlock,Option.some.injEq] at hb;subst hb;exact hom h
 ·simp only [Value.ownBlock,Option.some.injEq] at hb;subst hb;exact hor h
theorem qd0 (sv:Value) (zs:List Int) (w:World) (hs:Sl .i64 w sv zs) (h01:∀ z ∈ zs,z=0∨z=1) (hl:zs.length≤100000000) (hB:Bal (q0w zs)) :
  Calls Tryz.prog 188 #[sv] w fun e w'=>∃ gm gr ov,e=.returned (.tuple #[.slice (some ⟨gm,0,none⟩) zs.length zs.length,.slice (some ⟨gr,0,none⟩) zs.length zs.length])∧MSt w (q0w zs) gm gr zs.length ov w':=by
 obtain⟨a,cap,rfl,hnc,hcm,_,hc⟩:=hs
 have hbl:=q3s zs
 obtain⟨i,hi,hz0,hz1,hz2⟩:=info_parts q1d
 have hmk:=fun w=>run_make (P:=Tryz.prog) w 25 3 i _ Tryz.underlying25 hi hz0 .i64 .i64 (zs.length:Int) (zs.length:Int) (by omega) (Int.le_refl _) (by rw[hz2];omega) (by omega)
 simp only [hz1,Int.toNat_natCast,Nat.mul_one] at hmk
 have hst1:=MSt.start w (q0w zs) (by omega)
 rw[hbl] at hst1
 have HST:=Lib.hid hst1
 have HB:=Lib.hid (And.intro hB hbl)
 clear hst1 hB hbl hi hz0 hz1 hz2
 go_enter Tryz.func188,Tryz.ntmps188
 go_wp2_with fail
 go_region
 case' _ =>
  have hS:=HST.out w.heap.size (w.heap.size+1) (.inl ⟨rfl,rfl⟩)
  obtain⟨gm,hgm⟩:∃ gm,gm=w.heap.size:=⟨_,rfl⟩
  obtain⟨gr,hgr⟩:∃ gr,gr=w.heap.size+1:=⟨_,rfl⟩
  rw[← hgr,← hgm] at hS
  rw[← hgr,← hgm]
 rotate_left
 case' _ =>
  have hS:=HST.out (w.heap.size+1) w.heap.size (.inr ⟨rfl,rfl⟩)
  obtain⟨gr,hgr⟩:∃ gr,gr=w.heap.size:=⟨_,rfl⟩
  obtain⟨gm,hgm⟩:∃ gm,gm=w.heap.size+1:=⟨_,rfl⟩
  rw[← hgm,← hgr] at hS
  rw[← hgm,← hgr]
 all_goals
  clear HST hmk hgm hgr
  go_wp2_with fail
  go_loopw [6,18] (fun ov i wr=>∃ k:Nat,k≤zs.length∧i=.int .i64 k∧MSt w (q0w zs) gm gr k ov wr) (fun _ i _=>zs.length - (intOf i).toNat)
  case atStart=>exact⟨0,Nat.zero_le _,rfl,hS⟩
  case round =>
   obtain⟨k,hk,rfl,ms,rs,st,hI,hm,hr,ho,hgg,hom,hor,hkw⟩:=hrel
   have hsz:=hkw.size
   have hfo:=ho.form
   obtain⟨n,hn⟩:∃ n,n=(nats st).length:=⟨_,rfl⟩
   rw[← hn] at hfo
   rw[q02] at hn
   obtain⟨oa,oc,rfl,hoc1,hoc2⟩:=hfo
   have hlm:=hI.lm
   have hlr:=hI.lr
   rw[HB.out.2] at hlm hlr
   by_cases hlt:k<zs.length
   ·have hz:=List.getElem?_eq_getElem (l:=zs) (i:=k) (by omega)
    obtain⟨g,off,rfl,hcell⟩:=hc k _ hz
    have hcell1:=hkw.cellF hcell
    clear hS
    have hbit:=qem h01 hz
    generalize zs[k]=z at *
    have hst:n≤10000000000:=by
     have h1:=q1f (q0w zs) k (by rw[HB.out.2];exact hl)
     rw[hI.hx,← hn] at h1
     omega
    obtain⟨x1,hrk,frk⟩:=hr.has k (by omega)
    obtain⟨x2,hmk,fmk⟩:=hm.has k (by omega)
    have HN:Hid ((nats st).length=n):=Lib.hid (by rw[q02];exact hn.symm)
    have hrg:=(hr.lt gr rfl)
    have hmg:=(hm.lt gm rfl)
    clear hc hz hcell
    cases hz1:(z == 1)
    ·rw[hz1] at hbit
     obtain⟨o,ho1,ho2,hok,hpr⟩:=hI.top HB.out.1 (by rw[HB.out.2];exact hlt) hbit
     obtain⟨r,hr1,hrr⟩:=hI.rd o hok
     clear hrr
     have hI2:=hI.close (by rw[HB.out.2];exact hlt) hbit ho1 ho2 hok hpr r hr1
     obtain⟨hro,fro⟩:=hr.cell hr1
     obtain⟨x3,hmo,fmo⟩:=hm.has o (by omega)
     obtain⟨m,hnm⟩:∃ m,n=m+1:=⟨n - 1,by omega⟩
     rw[← hn,hnm,show m+1 - 1=m by omega] at ho1 hI2
     have hnz:=q0i ho1
     obtain⟨og,rfl⟩:=q7x ho (by rw[q02];omega)
     obtain⟨hoo,foo⟩:=ho.cell hnz
     have ho3:=ho.take rfl m (by rw[q02];omega)
     have hnt:(nats st).take m=nats (st.take m):=by simp[nats]
     rw[hnt] at ho3
     have hg1:og≠gm:=fun e=>hom (by rw[e];rfl)
     have hg2:og≠gr:=fun e=>hor (by rw[e];rfl)
     have hg3:=hg1.symm
     have hg4:=hg2.symm
     have hg5:=hgg.symm
     have hm2:=((hm.set k o).set o k).other ⟨gr,k,none⟩ (by simp[Value.ownBlock];exact hgg) (.int .i64 r)
     have hr2:=(((hr.other ⟨gm,k,none⟩ (by simp[Value.ownBlock];exact hg5) (.int .i64 o)).other ⟨gm,o,none⟩ (by simp[Value.ownBlock];exact hg5) (.int .i64 k))).set k r
     have ho4:=(((ho3.other ⟨gm,k,none⟩ (by simp[Value.ownBlock];exact hg1) (.int .i64 o)).other ⟨gm,o,none⟩ (by simp[Value.ownBlock];exact hg1) (.int .i64 k))).other ⟨gr,k,none⟩ (by simp[Value.ownBlock];exact hg2) (.int .i64 r)
     have hk2:=((hkw.setCell (p:=⟨gm,k,none⟩) (.inr hmg.1) (.int .i64 o)).setCell (p:=⟨gm,o,none⟩) (.inr hmg.1) (.int .i64 k)).setCell (p:=⟨gr,k,none⟩) (.inr hrg.1) (.int .i64 r)
     have hoz:o<zs.length:=by omega
     have hok1:¬ o=k:=by omega
     have hok2:¬ k=o:=by omega
     have q1:(wr.setCell ⟨gm,k,none⟩ (.int .i64 o)).cell? ⟨gm,o,none⟩=some (.int .i64 x3):=by
      rw[World.cell?_setCell_other _ _ _ _ (by intro e;exact hok2 (congrArg Addr.off e))];exact hmo
     have q2:((wr.setCell ⟨gm,k,none⟩ (.int .i64 o)).setCell ⟨gm,o,none⟩ (.int .i64 k)).cell? ⟨gr,k,none⟩=some (.int .i64 x1):=by
      rw[World.cell?_setCell_other _ _ _ _ (by intro e;exact hgg (congrArg Addr.block e)),World.cell?_setCell_other _ _ _ _ (by intro e;exact hgg (congrArg Addr.block e))];exact hrk
     have HI:=Lib.hid (And.intro hI2 (And.intro hm2 (And.intro hr2 (And.intro ho4 hk2))))
     clear hI hI2 hm hm2 hr hr2 ho ho3 ho4 hk2 hbit hnt hnz hn hpr ho1 ho2 hr1 hlm hlr hok HN
     subst hnm
     go_wp2_with fail
     go_roundw
     case rel=>exact⟨k+1,by omega,by go_num,_,_,_,HI.out.1,HI.out.2.1,HI.out.2.2.1,HI.out.2.2.2.1,hgg,by simp[Value.ownBlock];exact hg1,by simp[Value.ownBlock];exact hg2,HI.out.2.2.2.2⟩
     case measure=>simp[intOf];omega
    ·rw[hz1] at hbit
     by_cases hs0:n=0
     ·have hst0:st=[]:=List.eq_nil_of_length_eq_zero (by omega)
      have hI2:=hI.open (by rw[HB.out.2];exact hlt) hbit (-1) (.inl ⟨hst0,rfl⟩)
      have hm2:=hm.other ⟨gr,k,none⟩ (by simp[Value.ownBlock];exact hgg) (.int .i64 (-1))
      have hr2:=hr.set k (-1)
      have ho2:=ho.other ⟨gr,k,none⟩ hor (.int .i64 (-1))
      have hk2:=hkw.setCell (p:=⟨gr,k,none⟩) (.inr hrg.1) (.int .i64 (-1))
      have hsz2:w.heap.size≤(wr.setCell ⟨gr,k,none⟩ (.int .i64 (-1))).heap.size:=hk2.size
      have HI:=Lib.hid (And.intro hI2 (And.intro hm2 (And.intro hr2 hk2)))
      clear hI hI2 hm hm2 hr hr2 ho hk2 hbit hn hst0 hlm hlr
      subst hs0
      go_wp2_with (at_builtin;refine q0l 0 rfl _ _ rfl w.heap.size (.slice oa 0 oc) (nats st) k HN wr.heap.size (by simp) rfl rfl ho2 hst hsz2 ?_;intro g2 cap2 w3 hown3 hk3 hat hg)
      have hfin:=MSt.pushed HI.out.1 HI.out.2.1 HI.out.2.2.1 hown3 hk3 hgg hom hor ho2 hrg.1 hmg.1 HI.out.2.2.2 hat (by simpa using hmg.2) (by simpa using hrg.2)
      have HF:=Lib.hid hfin
      clear hfin hown3 hk3 hat
      go_wp2
      go_roundw
      case rel=>exact⟨k+1,by omega,by go_num,HF.out⟩
      case measure=>simp[intOf];omega
     ·obtain⟨o,hso⟩:∃ o,st[st.length - 1]? = some o:=⟨_,List.getElem?_eq_getElem (by omega)⟩
      obtain⟨m,hnm⟩:∃ m,n=m+1:=⟨n - 1,by omega⟩
      have hI2:=hI.open (by rw[HB.out.2];exact hlt) hbit o (.inr ⟨o,hso,by omega,rfl⟩)
      rw[← hn,hnm,show m+1 - 1=m by omega] at hso
      have hnz:=q0i hso
      obtain⟨og,rfl⟩:=q7x ho (by rw[q02];omega)
      obtain⟨hoo,foo⟩:=ho.cell hnz
      have hg1:og≠gm:=fun e=>hom (by rw[e];rfl)
      have hg2:og≠gr:=fun e=>hor (by rw[e];rfl)
      have hg3:=hg1.symm
      have hg4:=hg2.symm
      have hg5:=hgg.symm
      have hm2:=(hm.other ⟨gr,k,none⟩ (by simp[Value.ownBlock];exact hgg) (.int .i64 (-1))).other ⟨gr,k,none⟩ (by simp[Value.ownBlock];exact hgg) (.int .i64 o)
      have hr2:=(hr.set k (-1)).set k o
      rw[List.set_set] at hr2
      have ho2:=(ho.other ⟨gr,k,none⟩ hor (.int .i64 (-1))).other ⟨gr,k,none⟩ hor (.int .i64 o)
      have hk2:=(hkw.setCell (p:=⟨gr,k,none⟩) (.inr hrg.1) (.int .i64 (-1))).setCell (p:=⟨gr,k,none⟩) (.inr hrg.1) (.int .i64 o)
      have hsz2:w.heap.size≤((wr.setCell ⟨gr,k,none⟩ (.int .i64 (-1))).setCell ⟨gr,k,none⟩ (.int .i64 o)).heap.size:=hk2.size
      have q1:(wr.setCell ⟨gr,k,none⟩ (.int .i64 (-1))).cell? ⟨og,m,none⟩=some (.int .i64 o):=by
       rw[World.cell?_setCell_other _ _ _ _ (by intro e;exact hg4 (congrArg Addr.block e))];exact hoo
      have q2:(wr.setCell ⟨gr,k,none⟩ (.int .i64 (-1))).cell? ⟨gr,k,none⟩=some (.int .i64 (-1)):=World.cell?_setCell_same _ _ _ hrk
      have HI:=Lib.hid (And.intro hI2 (And.intro hm2 (And.intro hr2 hk2)))
      clear hI hI2 hm hm2 hr hr2 ho hk2 hbit hn hlm hlr hso hnz
      subst hnm
      go_wp2_with (at_builtin;refine q0l (m+1) rfl _ _ rfl w.heap.size (.slice (some ⟨og,0,none⟩) (m+1) oc) (nats st) k HN wr.heap.size (by simp) rfl rfl ho2 hst hsz2 ?_;intro g2 cap2 w3 hown3 hk3 hat hg)
      have hfin:=MSt.pushed HI.out.1 HI.out.2.1 HI.out.2.2.1 hown3 hk3 hgg hom hor ho2 hrg.1 hmg.1 HI.out.2.2.2 hat (by simpa using hmg.2) (by simpa using hrg.2)
      have HF:=Lib.hid hfin
      clear hfin hown3 hk3 hat
      go_wp2
      go_roundw
      case rel=>exact⟨k+1,by omega,by go_num,HF.out⟩
      case measure=>simp[intOf];omega
   ·obtain rfl:k=zs.length:=by omega
    have hfin:MSt w (q0w zs) gm gr zs.length (.slice oa n oc) wr:=⟨ms,rs,st,hI,hm,hr,ho,hgg,hom,hor,hkw⟩
    have HF:=Lib.hid hfin
    clear hfin hS hI hm hr ho hom hor hkw hc h01 hn hlm hlr
    go_wp2
    go_ret2
    exact⟨gm,gr,_,rfl,HF.out⟩
end
section
open Go.RowKit
def l6:List Bool:=q0w [1,1,0,1,0,0]
end
section
def itr (S:Nat→Nat):Nat→Nat→Nat
 | 0,d=>d
 | k+1,d=>S (itr S k d)
theorem q37 (S:Nat→Nat) (a b d:Nat):itr S (a+b) d=itr S a (itr S b d):=by
 induction a with
 | zero=>simp[itr]
 | succ a ih=>rw[Nat.succ_add];simp only [itr,ih]
theorem qjq (S:Nat→Nat) (k d:Nat):itr S (k+1) d=itr S k (S d):=q37 S k 1 d
structure IsP (n:Nat) (S:Nat→Nat):Prop where
 lt:∀ d,d<n→S d<n
 inj:∀ d e,d<n→e<n→S d=S e→d=e
theorem q65 (n:Nat):∀ l:List Nat,l.Nodup→l.length≤(l.filter (fun x=>x != n)).length+1
 | [],_=>by simp
 | x :: l,h=>by
  rw[List.nodup_cons] at h
  by_cases hx:x=n
  ·subst hx
   have:l.filter (fun y=>y != x)=l:=List.filter_eq_self.2 (fun y hy=>by
    rw[bne_iff_ne];rintro rfl;exact h.1 hy)
   rw[List.filter_cons,if_neg (by simp),this]
   simp
  ·have:=q65 n l h.2
   rw[List.filter_cons,if_pos (by simpa using hx)]
   simp only [List.length_cons]
   omega
theorem q7y:∀ (n:Nat) (l:List Nat),l.Nodup→(∀ x ∈ l,x<n)→l.length≤n
 | 0,l,_,h=>by
  cases l with
  | nil=>simp
  | cons x l=>exact absurd (h x (by simp)) (by omega)
 | n+1,l,hd,h=>by
  have h1:=q7y n (l.filter (fun x=>x != n)) (hd.filter _) (fun x hx=>by
   obtain⟨h1,h2⟩:=List.mem_filter.1 hx
   have:=h x h1
   have h3:x≠n:=by simpa using h2
   omega)
  have h2:=q65 n l hd
  omega
theorem q0t:∀ (l m:List Nat),l.Nodup→(∀ x ∈ l,x ∈ m)→l.length≤m.length
 | [],m,_,_=>by simp
 | x :: l,m,hd,h=>by
  rw[List.nodup_cons] at hd
  have hx:=h x (by simp)
  have h1:=q0t l (m.erase x) hd.2 (fun y hy=>(List.mem_erase_of_ne (by rintro rfl;exact hd.1 hy)).2 (h y (by simp[hy])))
  rw[List.length_erase_of_mem hx] at h1
  have:0<m.length:=List.length_pos_of_mem hx
  simp only [List.length_cons]
  omega
theorem q4a {l m:List Nat} (hl:l.Nodup) (hm:m.Nodup) (h:∀ x,x ∈ l↔x ∈ m):l.length=m.length :=
 Nat.le_antisymm (q0t l m hl (fun x hx=>(h x).1 hx)) (q0t m l hm (fun x hx=>(h x).2 hx))
section
variable {n:Nat} {S:Nat→Nat} (h:IsP n S)
include h
theorem IsP.itr_lt {d:Nat} (hd:d<n) (k:Nat):itr S k d<n:=by
 induction k with
 | zero=>exact hd
 | succ k ih=>exact h.lt _ ih
theorem IsP.itr_inj {d e:Nat} (hd:d<n) (he:e<n) (k:Nat) (hk:itr S k d=itr S k e):d=e:=by
 induction k with
 | zero=>exact hk
 | succ k ih=>exact ih (h.inj _ _ (h.itr_lt hd k) (h.itr_lt he k) hk)
theorem IsP.ret {d:Nat} (hd:d<n):∃ p,0<p∧p≤n∧itr S p d=d:=by
 apply Classical.byContradiction
 intro hno
 have hne:∀ i j,i<j→j≤n→itr S i d≠itr S j d:=by
  intro i j hij hj he
  refine hno ⟨j - i,by omega,by omega,?_⟩
  have e1:itr S j d=itr S i (itr S (j - i) d):=by rw[← q37];congr 1;omega
  rw[e1] at he
  exact (h.itr_inj hd (h.itr_lt hd _) i he).symm
 have hnd:((List.range (n+1)).map fun i=>itr S i d).Nodup:=by
  rw[List.Nodup,List.pairwise_iff_getElem]
  intro i j hi hj hij
  simp only [List.length_map,List.length_range] at hi hj
  simp only [List.getElem_map,List.getElem_range]
  exact hne i j hij (by omega)
 have:=q7y n _ hnd (fun x hx=>by
  obtain⟨i,_,rfl⟩:=List.mem_map.1 hx
  exact h.itr_lt hd i)
 simp at this
 omega
end
noncomputable def per (S:Nat→Nat) (d:Nat):Nat :=
 open Classical in if h:∃ p,0<p∧itr S p d=d∧∀ i,0<i→i<p→itr S i d≠d then h.choose else 0
section
variable {n:Nat} {S:Nat→Nat} (h:IsP n S)
include h
theorem IsP.per_spec {d:Nat} (hd:d<n):0<per S d∧per S d≤n∧itr S (per S d) d=d∧∀ i,0<i→i<per S d→itr S i d≠d:=by
 obtain⟨p,hp0,hpn,hp⟩:=h.ret hd
 have hex:∃ p,0<p∧itr S p d=d∧∀ i,0<i→i<p→itr S i d≠d:=by
  obtain⟨q,h1,h2,h3,h4⟩:=q63 (fun i=>itr S i d=d) 1 (p - 1) (by rw[show 1+(p - 1)=p by omega];exact hp)
  exact⟨q,h1,h3,fun i hi hq=>h4 i hi hq⟩
 have hper:per S d=hex.choose:=by unfold per;rw[dif_pos hex]
 obtain⟨h1,h2,h3⟩:=hex.choose_spec
 rw[← hper] at h1 h2 h3
 refine⟨h1,?_,h2,h3⟩
 rcases Nat.lt_or_ge p (per S d) with hlt|hge
 ·exact absurd hp (h3 p hp0 hlt)
 ·omega
theorem IsP.itr_mul {d:Nat} (hd:d<n) (q:Nat):itr S (per S d * q) d=d:=by
 induction q with
 | zero=>rfl
 | succ q ih=>rw[Nat.mul_succ,Nat.add_comm,q37,ih,(h.per_spec hd).2.2.1]
theorem IsP.itr_mod {d:Nat} (hd:d<n) (k:Nat):itr S k d=itr S (k % per S d) d:=by
 conv=>lhs;rw[← Nat.mod_add_div k (per S d),q37,h.itr_mul hd]
theorem IsP.itr_diff {d:Nat} (hd:d<n) {i j:Nat} (hi:i<per S d) (hj:j<per S d) (he:itr S i d=itr S j d):i=j:=by
 rcases Nat.lt_trichotomy i j with hlt|rfl|hlt
 ·have e1:itr S j d=itr S i (itr S (j - i) d):=by rw[← q37];congr 1;omega
  rw[e1] at he
  exact absurd (h.itr_inj hd (h.itr_lt hd _) i he).symm ((h.per_spec hd).2.2.2 _ (by omega) (by omega))
 ·rfl
 ·have e1:itr S i d=itr S j (itr S (i - j) d):=by rw[← q37];congr 1;omega
  rw[e1] at he
  exact absurd (h.itr_inj (h.itr_lt hd _) hd j he) ((h.per_spec hd).2.2.2 _ (by omega) (by omega))
end
def SameO (S:Nat→Nat) (d e:Nat):Prop:=∃ k,itr S k d=e
theorem SameO.refl (S:Nat→Nat) (d:Nat):SameO S d d:=⟨0,rfl⟩
theorem SameO.trans {S:Nat→Nat} {d e f:Nat} (h:SameO S d e) (k:SameO S e f):SameO S d f:=by
 obtain⟨i,rfl⟩:=h
 obtain⟨j,rfl⟩:=k
 exact⟨j+i,q37 S j i d⟩
theorem SameO.step (S:Nat→Nat) (d:Nat):SameO S d (S d):=⟨1,rfl⟩
section
variable {n:Nat} {S:Nat→Nat} (h:IsP n S)
include h
theorem IsP.sameO_symm {d e:Nat} (hd:d<n) (hs:SameO S d e):SameO S e d:=by
 obtain⟨k,rfl⟩:=hs
 have h0:=(h.per_spec hd).1
 refine⟨per S d * (k+1) - k,?_⟩
 rw[← q37]
 have:k≤per S d * (k+1):=Nat.le_trans (by omega) (Nat.le_mul_of_pos_left (k+1) h0)
 rw[Nat.sub_add_cancel this,h.itr_mul hd]
theorem IsP.sameO_lt {d e:Nat} (hd:d<n) (hs:SameO S d e):e<n:=by
 obtain⟨k,rfl⟩:=hs
 exact h.itr_lt hd k
theorem IsP.sameO_ex {d e:Nat} (hd:d<n) (hs:SameO S d e):∃ i,i<per S d∧itr S i d=e:=by
 obtain⟨k,rfl⟩:=hs
 exact⟨k % per S d,Nat.mod_lt _ (h.per_spec hd).1,(h.itr_mod hd k).symm⟩
theorem IsP.back {d:Nat} (hd:d<n):∃ e,e<n∧S e=d:=by
 obtain⟨h0,_,h1,_⟩:=h.per_spec hd
 refine⟨itr S (per S d - 1) d,h.itr_lt hd _,?_⟩
 have:itr S (per S d - 1+1) d=d:=by rw[Nat.sub_add_cancel h0];exact h1
 exact this
theorem IsP.per_same {d e:Nat} (hd:d<n) (hs:SameO S d e):per S e=per S d:=by
 have he:=h.sameO_lt hd hs
 have hs':=h.sameO_symm hd hs
 have key:∀ {x y:Nat},x<n→SameO S x y→y<n→per S y≤per S x:=by
  intro x y hx hxy hy
  obtain⟨k,rfl⟩:=hxy
  have h1:itr S (per S x) (itr S k x)=itr S k x:=by rw[← q37,Nat.add_comm,q37,(h.per_spec hx).2.2.1]
  rcases Nat.lt_or_ge (per S x) (per S (itr S k x)) with hlt|hge
  ·exact absurd h1 ((h.per_spec hy).2.2.2 _ (h.per_spec hx).1 hlt)
  ·exact hge
 exact Nat.le_antisymm (key hd hs he) (key he hs' hd)
end
noncomputable def orb (S:Nat→Nat) (d:Nat):List Nat:=(List.range (per S d)).map fun i=>itr S i d
theorem qad (S:Nat→Nat) (d:Nat):(orb S d).length=per S d:=by simp[orb]
theorem qnd {S:Nat→Nat} {d i:Nat} (hi:i<per S d):(orb S d)[i]? = some (itr S i d):=by simp[orb,hi]
section
variable {n:Nat} {S:Nat→Nat} (h:IsP n S)
include h
theorem IsP.mem_orb {d e:Nat} (hd:d<n):e ∈ orb S d↔SameO S d e:=by
 constructor
 ·intro he
  obtain⟨i,_,rfl⟩:=List.mem_map.1 he
  exact⟨i,rfl⟩
 ·intro hs
  obtain⟨i,hi,rfl⟩:=h.sameO_ex hd hs
  exact List.mem_map.2 ⟨i,List.mem_range.2 hi,rfl⟩
end
theorem q7a:∀ (l:List Nat) (a:Nat),l.foldl min a≤a∧∀ x ∈ l,l.foldl min a≤x
 | [],a=>⟨Nat.le_refl _,fun x h=>by cases h⟩
 | y :: l,a=>by
  obtain⟨h1,h2⟩:=q7a l (min a y)
  refine⟨by simp only [List.foldl_cons];omega,fun x hx=>?_⟩
  simp only [List.foldl_cons]
  rcases List.mem_cons.1 hx with rfl|hx
  ·omega
  ·exact h2 x hx
theorem q66:∀ (l:List Nat) (a:Nat),l.foldl min a=a∨l.foldl min a ∈ l
 | [],a=>.inl rfl
 | y :: l,a=>by
  simp only [List.foldl_cons]
  rcases q66 l (min a y) with h|h
  ·rw[h]
   rcases Nat.le_total a y with hle|hle
   ·exact .inl (Nat.min_eq_left hle)
   ·exact .inr (by rw[Nat.min_eq_right hle];simp)
  ·exact .inr (by simp[h])
noncomputable def rep (S:Nat→Nat) (d:Nat):Nat:=(orb S d).foldl min d
section
variable {n:Nat} {S:Nat→Nat} (h:IsP n S)
include h
theorem IsP.rep_same {d:Nat} (hd:d<n):SameO S d (rep S d):=by
 rcases q66 (orb S d) d with h1|h1
 ·unfold rep;rw[h1];exact SameO.refl S d
 ·exact (h.mem_orb hd).1 h1
theorem IsP.rep_le {d e:Nat} (hd:d<n) (hs:SameO S d e):rep S d≤e:=(q7a (orb S d) d).2 e ((h.mem_orb hd).2 hs)
theorem IsP.rep_lt {d:Nat} (hd:d<n):rep S d<n:=h.sameO_lt hd (h.rep_same hd)
theorem IsP.rep_iff {d e:Nat} (hd:d<n) (he:e<n):rep S d=rep S e↔SameO S d e:=by
 constructor
 ·intro hr
  have h1:=h.rep_same hd
  rw[hr] at h1
  exact h1.trans (h.sameO_symm he (h.rep_same he))
 ·intro hs
  exact Nat.le_antisymm (h.rep_le hd (hs.trans (h.rep_same he))) (h.rep_le he ((h.sameO_symm hd hs).trans (h.rep_same hd)))
theorem IsP.rep_rep {d:Nat} (hd:d<n):rep S (rep S d)=rep S d:=((h.rep_iff hd (h.rep_lt hd)).2 (h.rep_same hd)).symm
end
noncomputable def ldr (S:Nat→Nat) (i:Nat):Nat:=((List.range i).filter fun x=>rep S x == x).length
noncomputable def vnum (S:Nat→Nat) (d:Nat):Nat:=ldr S (rep S d)
theorem q1a (S:Nat→Nat) (i:Nat):ldr S (i+1)=ldr S i+if rep S i=i then 1 else 0:=by
 unfold ldr
 rw[List.range_succ,List.filter_append,List.length_append]
 by_cases hi:rep S i=i <;> simp[hi]
theorem q67 (S:Nat→Nat) {i j:Nat} (hij:i≤j):ldr S i≤ldr S j:=by
 induction j with
 | zero=>rw[show i=0 by omega];exact Nat.le_refl _
 | succ j ih =>
  rcases Nat.lt_or_ge i (j+1) with hlt|hge
  ·have:=q1a S j
   have:=ih (by omega)
   omega
  ·rw[show i=j+1 by omega];exact Nat.le_refl _
theorem q4x (S:Nat→Nat) (i:Nat):ldr S i≤i:=by
 unfold ldr
 exact Nat.le_trans (List.length_filter_le _ _) (by simp)
section
variable {n:Nat} {S:Nat→Nat} (h:IsP n S)
include h
theorem IsP.vnum_iff {d e:Nat} (hd:d<n) (he:e<n):vnum S d=vnum S e↔SameO S d e:=by
 rw[← h.rep_iff hd he]
 constructor
 ·intro hv
  unfold vnum at hv
  rcases Nat.lt_trichotomy (rep S d) (rep S e) with hlt|heq|hlt
  ·have h1:=q1a S (rep S d)
   rw[if_pos (h.rep_rep hd)] at h1
   have h2:=q67 S (show rep S d+1≤rep S e from hlt)
   omega
  ·exact heq
  ·have h1:=q1a S (rep S e)
   rw[if_pos (h.rep_rep he)] at h1
   have h2:=q67 S (show rep S e+1≤rep S d from hlt)
   omega
 ·intro hr
  unfold vnum;rw[hr]
theorem IsP.vnum_lt {d:Nat} (hd:d<n):vnum S d<ldr S n:=by
 have h1:=q1a S (rep S d)
 rw[if_pos (h.rep_rep hd)] at h1
 have h2:=q67 S (show rep S d+1≤n from h.rep_lt hd)
 unfold vnum
 omega
theorem IsP.mark_step {i x:Nat} (hi:i<n) (hx:x<n) (hr:rep S i=i):(rep S x<i+1↔rep S x<i∨x ∈ orb S i)∧(x ∈ orb S i→vnum S x=ldr S i∧¬ rep S x<i):=by
 have h1:x ∈ orb S i↔rep S x=i:=by
  rw[h.mem_orb hi,← h.rep_iff hi hx,hr]
  exact eq_comm
 refine⟨?_,fun hm=>?_⟩
 ·rw[h1];omega
 ·have:=h1.1 hm
  exact⟨by unfold vnum;rw[this],by omega⟩
theorem IsP.mark_skip {i x:Nat} (hx:x<n) (hr:rep S i≠i):rep S x<i+1↔rep S x<i:=by
 constructor
 ·intro hlt
  rcases Nat.lt_or_ge (rep S x) i with h1|h1
  ·exact h1
  ·have:rep S x=i:=by omega
   exact absurd (by rw[← this];exact h.rep_rep hx) hr
 ·omega
theorem IsP.rep_self_le {i:Nat} (hi:i<n):rep S i≤i:=h.rep_le hi (SameO.refl S i)
end
def mt (d:Nat):Nat:=if d % 2=0 then d+1 else d - 1
theorem mt_mt (d:Nat):mt (mt d)=d:=by unfold mt;split <;> split <;> omega
theorem mt_ne (d:Nat):mt d≠d:=by unfold mt;split <;> omega
theorem qen (d:Nat):mt d / 2=d / 2:=by unfold mt;split <;> omega
theorem mt_lt {n d:Nat} (he:n % 2=0) (h:d<n):mt d<n:=by unfold mt;split <;> omega
theorem qeo {d e:Nat} (h:d / 2=e / 2):e=d∨e=mt d:=by unfold mt;split <;> omega
def Conn (n:Nat) (S:Nat→Nat) (x y:Nat):Prop:=∀ P:Nat→Prop,P x→(∀ z,z<n→P z→P (S z)∧P (mt z))→P y
theorem Conn.refl (n:Nat) (S:Nat→Nat) (x:Nat):Conn n S x x:=fun _ h _=>h
theorem Conn.trans {n:Nat} {S:Nat→Nat} {x y z:Nat} (h:Conn n S x y) (k:Conn n S y z):Conn n S x z:=fun P hx hP=>k P (h P hx hP) hP
theorem Conn.turn {n:Nat} {S:Nat→Nat} {x:Nat} (h:x<n):Conn n S x (S x):=fun _ hx hP=>(hP x h hx).1
theorem Conn.mate {n:Nat} {S:Nat→Nat} {x:Nat} (h:x<n):Conn n S x (mt x):=fun _ hx hP=>(hP x h hx).2
section
variable {n:Nat} {S:Nat→Nat} (h:IsP n S) (he:n % 2=0)
include h
theorem IsP.conn_same {x y:Nat} (hx:x<n) (hs:SameO S x y):Conn n S x y:=by
 obtain⟨k,rfl⟩:=hs
 induction k with
 | zero=>exact Conn.refl _ _ _
 | succ k ih=>exact ih.trans (Conn.turn (h.itr_lt hx k))
include he
theorem IsP.conn_lt {x y:Nat} (hx:x<n) (hc:Conn n S x y):y<n:=hc (fun z=>z<n) hx (fun z hz _=>⟨h.lt z hz,mt_lt he hz⟩)
theorem IsP.conn_symm {x y:Nat} (hx:x<n) (hc:Conn n S x y):Conn n S y x:=by
 have:=hc (fun z=>z<n∧Conn n S z x) ⟨hx,Conn.refl _ _ _⟩ (fun z hz hP=>by
  refine⟨⟨h.lt z hz,Conn.trans ?_ hP.2⟩,⟨mt_lt he hz,Conn.trans ?_ hP.2⟩⟩
  ·exact h.conn_same (h.lt z hz) (h.sameO_symm hz (SameO.step S z))
  ·have:=Conn.mate (S:=S) (mt_lt he hz)
   rwa [mt_mt] at this)
 exact this.2
end
end
end Go.Proofs.YtcfdpogegngplaaGreat
