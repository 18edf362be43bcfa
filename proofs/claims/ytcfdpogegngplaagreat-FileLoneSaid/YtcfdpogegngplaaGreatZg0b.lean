import Derived.Test.YtcfdpogegngplaaGreatZg0a
set_option maxRecDepth 100000
set_option maxHeartbeats 4000000
namespace Go.Proofs.YtcfdpogegngplaaGreat
open Go.RowKit
def CV(s:List Nat)(i k:Nat):List Nat:=(s.set i (sg s k)).set k (sg s i)
theorem Vi(s:List Nat)(i k:Nat):(CV s i k).length=s.length:=by simp[CV]
theorem qov{s:List Nat}{i k d:Nat}(hi:i<s.length)(hk:k<s.length):sg (CV s i k) d=sg s (iO i k d):=by
 unfold CV iO
 show ((s.set i (sg s k)).set k (sg s i)).getD d 0=_
 simp only [List.getD_eq_getElem?_getD,List.getElem?_set,List.length_set]
 by_cases h1:k=d
 ·subst h1
  rw[if_pos rfl,if_pos hk]
  by_cases h2:k=i
  ·subst h2;simp
  ·rw[if_neg h2,if_pos rfl];rfl
 ·rw[if_neg h1]
  by_cases h2:i=d
  ·subst h2;rw[if_pos rfl,if_pos hi,if_pos rfl];rfl
  ·rw[if_neg h2,if_neg (fun h=>h2 h.symm),if_neg (fun h=>h1 h.symm)];rfl
theorem qnp{s:List Nat}{i k:Nat}(hi:i<s.length)(hk:k<s.length)(h:aM s.length (sg s)):aM (CV s i k).length (sg (CV s i k)):=by
 rw[Vi]
 exact (h.tw hi hk).congr (fun d _=>qov hi hk)
theorem qlt(s:List Nat)(i k:Nat):aB (CV s i k)=((aB s).set i (sg s k:Nat)).set k (sg s i:Nat):=by
 simp[aB,CV,List.map_set]
theorem qlu{n d:Nat}(h:d<n):sg (List.range n) d=d:=by simp[sg,h]
theorem qj4(n:Nat):aM (List.range n).length (sg (List.range n)):=by
 rw[List.length_range]
 exact (⟨fun d hd=>hd,fun d e _ _ h=>h⟩:aM n (fun d=>d)).congr (fun d hd=>qlu hd)
theorem qh4(pv:Value)(ps:List Nat)(n:Nat)(w:World)(hp:Sl .u8 w pv (aB ps))(hps:∀ b ∈ ps,b<256)(hn:n≤100000) :
  Calls Tryz.prog 73 #[.int .i64 n,pv] w fun e w'=>∃ v s,e=.returned v∧s.length=n∧aM n (sg s)∧aF w.heap.size w' v (aB s)∧Keeps (fun _=>False) w w':=by
 have HP:Hid (∀ W,Keeps (fun _=>False) w W→Sl .u8 W pv (aB ps)):=ah (fun W hk=>hp.keeps hk (fun _ _ h=>h))
 obtain⟨pa,pc,rfl,hpc,hpm⟩:=hp.form
 rw[q01] at hpc HP ⊢
 have HPS:=ah hps
 have h0:aF w.heap.size w (.slice none 0 0) (aB ((List.range n).take 0))∧Keeps (fun _=>False) w w:=⟨by simpa [aB] using aF.nil _ _,Keeps.refl _ _⟩
 clear hp hps
 go_enter Tryz.func73,Tryz.ntmps73
 go_wp2_with fail
 go_loopg [5,6] n (fun m lv i wr=>∃ j:Nat,j≤n∧m=n - j∧i=.int .i64 j∧aF w.heap.size wr lv (aB ((List.range n).take j))∧Keeps (fun _=>False) w wr)
 case atStart=>exact⟨0,Nat.zero_le _,rfl,rfl,h0⟩
 case round =>
  clear h0
  obtain⟨j,hj,aN,rfl,hown,aT⟩:=hrel
  have HG:=ah aN
  clear aN
  by_cases hlt:j<n
  ·have hlen:((List.range n).take j).length=j:=by simp;omega
   have hfo:=hown.form
   rw[q01,hlen] at hfo
   obtain⟨fa,fc,rfl,_,_⟩:=hfo
   have HN:Hid ((aB ((List.range n).take j)).length=j):=ah (by rw[q01,hlen])
   have hsz:=aT.size
   have HK:=ah aT
   have hjl:j≤10000000000:=by omega
   clear aT hlen
   go_wp2_with (at_builtin;go_loud (refine mP j rfl _ _ rfl w.heap.size (.slice fa j fc) (aB ((List.range n).take j)) (j:Int) HN wr.heap.size rfl rfl rfl hown hjl hsz ?_);intro g2 cap2 w3 hown3 hk3 hat hg)
   have ho:aF w.heap.size w3 (.slice (some ⟨g2,0,none⟩) (j+1) cap2) (aB ((List.range n).take (j+1))):=by
    have:(List.range n).take (j+1)=(List.range n).take j ++ [j]:=lX (by simp[hlt])
    rw[this,xk]
    exact hown3
   have HF:=ah (aj ho (HK.out.trans hk3 (fun x hx h=>by have:=(hown.lt x h).1;omega)))
   clear ho hown3 hk3 hat hown
   go_wp2
   go_roundg (n - (j+1))
   case measure=>rw[HG.out];omega
   case rel=>exact⟨j+1,by omega,rfl,by go_num,HF.out⟩
  ·obtain rfl:j=n:=by omega
   have hall:(List.range j).take j=List.range j:=by rw[List.take_of_length_le (by simp)]
   rw[hall] at hown
   have hfo:=hown.form
   rw[q01,List.length_range] at hfo
   obtain⟨fa,fc,rfl,_,_⟩:=hfo
   have h1:∃ s:List Nat,s.length=j∧aM j (sg s)∧aF w.heap.size wr (.slice fa j fc) (aB s)∧Keeps (fun _=>False) w wr:=⟨List.range j,by simp,by have:=qj4 j;rwa [List.length_range] at this,hown,aT⟩
   clear hall hown aT hlt hj
   go_wp2_with fail
   go_loopg [7,8,20] j (fun m _x _y t wr=>∃ i:Nat,i≤j∧m=j - i∧t=.int .i64 i∧∃ s:List Nat,s.length=j∧aM j (sg s)∧aF w.heap.size wr (.slice fa j fc) (aB s)∧Keeps (fun _=>False) w wr)
   case atStart=>exact⟨0,Nat.zero_le _,rfl,rfl,h1⟩
   case round =>
    clear h1
    obtain⟨i,hi,zA,rfl,s,hsl,hsP,hown,aT⟩:=hrel
    have HG2:=ah zA
    clear zA
    by_cases hlt:i<j
    ·by_cases Q5:i<ps.length
     ·obtain⟨g,rfl⟩:=AZ hown (by rw[q01];omega)
      obtain⟨b,hb⟩:∃ b,ps[i]? = some b:=⟨_,List.getElem?_eq_getElem Q5⟩
      obtain⟨a',cap',zB,_,_,_,hc⟩:=HP.out wr aT
      simp only [Value.slice.injEq] at zB
      obtain⟨rfl,-,rfl⟩:=zB
      obtain⟨g0,off,rfl,hcell⟩:=hc i _ (jq hb)
      have hb256:=HPS.out b (List.mem_of_getElem? hb)
      obtain⟨k,hk,hkr⟩:∃ k,k<j∧wrap64 ((i:Int)+(b:Int) % ((j:Int) - (i:Int)))=(k:Int):=by
       refine⟨i+b % (j - i),by have:=Nat.mod_lt b (show 0<j - i by omega);omega,?_⟩
       have h5:(i:Int)+(b:Int) % ((j:Int) - (i:Int))=((i+b % (j - i):Nat):Int):=by
        rw[show (j:Int) - i=((j - i:Nat):Int) by omega]
        push_cast
        rfl
       have h6:i+b % (j - i)<j:=by have:=Nat.mod_lt b (show 0<j - i by omega);omega
       rw[h5]
       exact IntWalk.wrap64_in _ (by omega)
      have hji:¬ (j:Int) - i=0:=by omega
      obtain⟨ci,fi⟩:=hown.cell (jq (yB (by omega:i<s.length)))
      obtain⟨ck,fk⟩:=hown.cell (jq (yB (by omega:k<s.length)))
      obtain⟨zk,ck2,fk2⟩:=(hown.set i (sg s k:Nat)).has k (by rw[List.length_set,q01];omega)
      have hsw:=qnp (s:=s) (i:=i) (k:=k) (by omega) (by omega) (by rw[hsl];exact hsP)
      rw[Vi,hsl] at hsw
      have hset:=(hown.set i (sg s k:Nat)).set k (sg s i:Nat)
      rw[← qlt] at hset
      have HF:=ah (aj hsw (aj hset (aj hsl (aj hown aT))))
      clear hsw hset hsP hown aT hsl hb hc
      generalize sg s k=sk at *
      generalize sg s i=si at *
      have aaj:j≤100000:=hn
      go_wp2_with fail
      go_region
      all_goals
       go_wp2
       go_roundg (j - (i+1))
       case measure=>rw[HG2.out];omega
       case rel=>exact⟨i+1,by omega,rfl,by go_num,CV s i k,by rw[Vi];exact HF.out.2.2.1,HF.out.1,HF.out.2.1.keeps ((Keeps.refl (fun _=>False) _).drew) (fun _ _ h=>h),((HF.out.2.2.2.2.trans (((Keeps.refl (fun x=>x=g) wr).setCell (p:=⟨g,i,none⟩) (.inl rfl) _).setCell (p:=⟨g,k,none⟩) (.inl rfl) _) (fun x hx e=>by have:=(HF.out.2.2.2.1.lt g rfl).1;omega)).trans ((Keeps.refl (fun _=>False) _).drew) (fun _ _ h=>h))⟩
     ·have HF:=ah (aj hsl (aj hsP (aj hown aT)))
      clear hsl hsP hown aT
      go_wp2
      go_roundg (j - (i+1))
      case measure=>rw[HG2.out];omega
      case rel=>exact⟨i+1,by omega,rfl,by go_num,s,HF.out⟩
    ·have HF:=ah (aj hsl (aj hsP (aj hown aT)))
     clear hsl hsP hown aT
     go_wp2
     go_ret
     exact⟨_,s,rfl,HF.out⟩
def nZ(E:Nat)(s:List Nat)(rt:Int):Prop:=s.length=2 * E∧aM s.length (sg s)∧((s.length=0∧rt=-1)∨∃ r:Nat,rt=r∧r<s.length)
theorem nZ.of{E:Nat}{s:List Nat}{rt:Int}(h1:s.length=2 * E)(h2:aM s.length (sg s))(h3:(s.length=0∧rt=-1)∨∃ r:Nat,rt=r∧r<s.length):nZ E s rt:=⟨h1,h2,h3⟩
theorem qcr(pv:Value)(ps:List Nat)(E root:Nat)(w:World)(hp:Sl .u8 w pv (aB ps))(hps:∀ b ∈ ps,b<256)(hE:E≤10000)(hr:root<256) :
  Calls Tryz.prog 52 #[.int .i64 E,pv,.int .u8 root] w fun e w'=>∃ sv s rt,e=.returned (cZ sv rt 0)∧nZ E s rt∧aF w.heap.size w' sv (aB s)∧Keeps (fun _=>False) w w':=by
 have k0:=(Keeps.refl (fun _=>False) w).alloc (.cells #[.slice none 0 0,.int .i64 0,.int .i64 0] 27)
 have hb0:(w.alloc (.cells #[.slice none 0 0,.int .i64 0,.int .i64 0] 27)).heap[w.heap.size]? = some (.cells #[.slice none 0 0,.int .i64 0,.int .i64 0] 27 (0,0)):=heap_alloc_new w _
 have hM:=qh4 pv ps (2 * E) _ (hp.keeps k0 (fun _ _ h=>h)) hps (by omega)
 rw[show ((2 * E:Nat):Int)=2 * (E:Int) by omega] at hM
 have hsz0:(w.alloc (.cells #[.slice none 0 0,.int .i64 0,.int .i64 0] 27)).heap.size=w.heap.size+1:=by simp
 have l8:=ah (aj k0 hb0)
 clear hp k0 hb0
 have hbw:(w.alloc (.cells #[.slice none 0 0,.int .i64 0,.int .i64 0] 27)).heap.size=w.heap.size+1:=by simp
 go_enter Tryz.func52,Tryz.ntmps52
 go_upto_region 1 with fail
 go_cut [7] from 8 to 12 (fun v wz=>∃ wx bx sv s,wx=wz∧v=.pointer (some ⟨bx,0,none⟩)∧s.length=2 * E∧aM s.length (sg s)∧wx.heap[bx]? = some (.cells #[sv,.int .i64 (-1),.int .i64 0] 27 (0,0))∧w.heap.size<bx ∧
  wx.heap[w.heap.size]? = some (.cells #[.slice none 0 0,.int .i64 0,.int .i64 0] 27 (0,0))∧aF (w.heap.size+1) wx sv (aB s)∧(∀ q,sv.ownBlock=some q→q≠bx)∧Keeps (fun _=>False) w wx)
 case first =>
  go_wp2_with fail
  refine hM.mono ?_
  rintro e w2 ⟨sv,s,rfl,hlen,hsP,hsv,hk2⟩
  have qP:=l8.out.1.trans hk2 (fun _ _ h=>h)
  have hb2:=hk2.at l8.out.2 (fun h=>h)
  have hs2:=hk2.size
  clear hM hk2
  have gI:=heap_alloc_new w2 (.cells #[sv,.int .i64 (-1),.int .i64 0] 27)
  have hb3:=((Keeps.refl (fun _=>False) w2).alloc (.cells #[sv,.int .i64 (-1),.int .i64 0] 27)).at hb2 (fun h=>h)
  have lM:=qP.alloc (.cells #[sv,.int .i64 (-1),.int .i64 0] 27)
  have zy:=(hsv.mono (B':=w.heap.size+1) (fun q hq=>by have:=(hsv.lt q hq).1;omega)).alloc (.cells #[sv,.int .i64 (-1),.int .i64 0] 27)
  have hq:∀ q,sv.ownBlock=some q→q≠w2.heap.size:=fun q hq=>by have:=(hsv.lt q hq).2;omega
  obtain⟨a,cap,hfo,_,_⟩:=hsv.form
  rw[q01,hlen] at hfo
  subst hfo
  have HF:=ah (aj hlen (aj hsP (aj gI (aj hb3 (aj zy (aj hq lM))))))
  have hlt:w.heap.size<w2.heap.size:=by omega
  clear hlen hsP gI hb3 zy hq lM hsv qP hb2 hs2
  go_wp2
  go_meet
  obtain⟨h1,h2,h3,h4,h5,h6,h7⟩:=HF.out
  exact⟨_,_,_,s,rfl,rfl,h1,by rw[h1];exact h2,h3,hlt,h4,h5,h6,h7⟩
 case rest =>
  obtain⟨wx,bx,sv,s,rfl,rfl,hlen,hsP,gI,hbx,hb3,hsv,hq,hk3⟩:=hcut
  obtain⟨a,cap,rfl,_,_⟩:=hsv.form
  generalize hnl:(aB s).length=nl at *
  have yC:=ah hnl
  clear hnl
  have HH:=ah (aj hsP (aj hb3 (aj hsv (aj hq (aj hk3 hlen)))))
  clear hM hsP hb3 hsv hq hk3 l8 hlen
  by_cases hp0:0<E
  rotate_left
  ·have bt:decide ((0:Int)<(E:Int))=false:=decide_eq_false (by omega)
   have H0:Hid (E=0):=ah (by omega)
   have d0:=ak gI 0
   have d1:=ak gI 1
   have d2:=ak gI 2
   have zz:=au HH.out.2.1
   have e0:=ak HH.out.2.1 0
   have e1:=ak HH.out.2.1 1
   have e2:=ak HH.out.2.1 2
   go_wp2
   obtain⟨r1,r2⟩:=lZ HH.out.2.1 (.slice a nl cap) (.int .i64 (-1)) (.int .i64 0)
   have c0:=ak r1 0
   have c1:=ak r1 1
   have c2:=ak r1 2
   refine bodyPost_ret (v:=cZ (.slice a nl cap) (-1) 0) ?_ rfl ⟨_,s,-1,rfl,nZ.of HH.out.2.2.2.2.2 HH.out.1 (.inl ⟨by rw[HH.out.2.2.2.2.2,H0.out],rfl⟩),(HH.out.2.2.1.keeps r2 (fun q hq e=>by have:=(HH.out.2.2.1.lt q hq).1;omega)).mono (fun q hq=>by have:=(HH.out.2.2.1.lt q hq).1;omega),HH.out.2.2.2.2.1.trans r2 (fun x hx e=>by omega)⟩
   ·simp at c0 c1 c2
    simp[results,Tryz.results52,go_sem,cZ,c0,c1,c2]
  ·have bt:decide ((0:Int)<(E:Int))=true:=decide_eq_true (by omega)
   have hlen:=HH.out.2.2.2.2.2
   obtain⟨r,hrr⟩:∃ r,r=root % (2 * E):=⟨_,rfl⟩
   have hrn:r<2 * E:=by rw[hrr];exact Nat.mod_lt _ (by omega)
   have er:((root:Nat):Int).tmod (2 * (E:Int))=(r:Int):=by rw[show 2 * (E:Int)=((2 * E:Nat):Int) by omega,hrr,Int.tmod_eq_emod_of_nonneg (by omega)];simp
   have er2:((root:Nat):Int) % (2 * (E:Int))=(r:Int):=by rw[← er,Int.tmod_eq_emod_of_nonneg (by omega)]
   have hn0:¬ 2 * (E:Int)=0:=by omega
   have hE0:¬ (E:Int)=0:=by omega
   have HR:Hid (r<s.length):=ah (by omega)
   have iT:(wx.setCell ⟨bx,1,none⟩ (.int .i64 (r:Int))).heap[bx]? = some (.cells #[.slice a nl cap,.int .i64 r,.int .i64 0] 27 (0,0)):=dM gI 1 _
   have k4:=(Keeps.refl (fun k=>k=bx) wx).setCell (p:=⟨bx,1,none⟩) (.inl rfl) (.int .i64 (r:Int))
   have hb4:=k4.at HH.out.2.1 (fun e=>by omega)
   have d0:=ak gI 0
   have d1:=ak gI 1
   have yy:=au gI
   have f0:=ak iT 0
   have f1:=ak iT 1
   have f2:=ak iT 2
   have zz:=au hb4
   have e0:=ak hb4 0
   have e1:=ak hb4 1
   have e2:=ak hb4 2
   clear hrr hrn hlen
   go_wp2
   obtain⟨r1,r2⟩:=lZ hb4 (.slice a nl cap) (.int .i64 r) (.int .i64 0)
   have c0:=ak r1 0
   have c1:=ak r1 1
   have c2:=ak r1 2
   have G7:=HH.out.2.2.1.keeps k4 (fun q hq e=>HH.out.2.2.2.1 q hq e)
   have kk:=HH.out.2.2.2.2.1.trans k4 (fun x hx e=>by omega)
   refine bodyPost_ret (v:=cZ (.slice a nl cap) r 0) ?_ rfl ⟨_,s,r,rfl,nZ.of HH.out.2.2.2.2.2 HH.out.1 (.inr ⟨r,rfl,HR.out⟩),(G7.keeps r2 (fun q hq e=>by have:=(HH.out.2.2.1.lt q hq).1;omega)).mono (fun q hq=>by have:=(HH.out.2.2.1.lt q hq).1;omega),kk.trans r2 (fun x hx e=>by omega)⟩
   ·simp at c0 c1 c2
    simp[results,Tryz.results52,go_sem,cZ,c0,c1,c2]
