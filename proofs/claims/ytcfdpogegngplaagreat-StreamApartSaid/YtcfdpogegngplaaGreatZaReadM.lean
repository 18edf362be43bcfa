import Derived.Test.YtcfdpogegngplaaGreatZaRead
set_option maxRecDepth 100000
set_option maxHeartbeats 4000000
namespace Go.Proofs.YtcfdpogegngplaaGreat
open Go.RowKit
theorem qd7:∀ (l:List (List Nat)) (p:List Nat),catM (l ++ [p])=catM l ++ p.map ((catM l).length + ·)
 | [],p=>by
  show p ++ (catM []).map _=_
  simp[catM]
 | q :: l,p=>by
  show q ++ (catM (l ++ [p])).map (q.length + ·)=_
  rw[qd7 l p]
  have e:(catM (q :: l))=q ++ (catM l).map (q.length + ·):=rfl
  rw[e,List.map_append,List.map_map,List.append_assoc,List.length_append,List.length_map]
  congr 2
  refine List.map_congr_left (fun x _=>?_)
  show q.length+((catM l).length+x)=q.length+(catM l).length+x
  omega
noncomputable def catV (vs:List (List Bool)):List Nat:=catM ((vs.map pairK).map decL)
theorem qd8 (vs:List (List Bool)) (v:List Bool):catV (vs ++ [v])=catV vs ++ movL (catV vs).length (pairK v):=by
 unfold catV movL
 rw[List.map_append,List.map_append,List.map_cons,List.map_nil,List.map_cons,List.map_nil,qd7]
theorem WordB'.eq {l:List Bool} {ks:List Nat} (h:WordB' l ks):ks=pairK l:=by rw[← h.2,q25 ks h.1.k4]
open Classical in
theorem qew (p:Bool) (ok:List Bool→Prop) (k:Nat) (cs:List Nat):q1y p ok (k+1) cs=match rpart p ok cs with|none=>none|some (v,cs1)=>(q1y p ok k cs1).map fun q=>(v :: q.1,q.2):=by
 show (match rpart p ok cs with|none=>none|some (v,cs1)=>match q1y p ok k cs1 with|none=>none|some (vs,cs2)=>some (v :: vs,cs2))=_
 cases rpart p ok cs with
 | none=>rfl
 | some q =>
  obtain⟨v,cs1⟩:=q
  show (match q1y p ok k cs1 with|none=>none|some (vs,cs2)=>some (v :: vs,cs2))=(q1y p ok k cs1).map fun q=>(v :: q.1,q.2)
  cases q1y p ok k cs1 with
  | none=>rfl
  | some q=>rfl
structure RdS (w:World) (br:Nat) (p l:Bool) (pv:Value) (o:Option (List (List Bool) × List Nat)) (K i:Nat) (wr:World):Prop where
 ex:∃ vs cs' pv' sv',vs.length=i∧o=(q1y p okP (K - i) cs').map (fun q=>(vs ++ q.1,q.2))∧RdF wr br false p l pv' sv' true∧(∀ q,pv'.ownBlock=some q→pv.ownBlock=some q)∧Sl .u8 wr pv' (nats cs')∧(∀ x ∈ cs',x<256)∧cs'.length≤10000000∧OwnI w.heap.size wr sv' (nats (catV vs))∧(catV vs).length≤131072 * i
 kee:Keeps (fun k=>k=br) w wr
theorem qag (br:Nat) (p l:Bool) (pv:Value) (cs:List Nat) (w:World) (Q:Nat→World→Prop) (r:Bool) (hR:RdF w br false p l pv (.slice none 0 0) true) (hpB:∀ q,pv.ownBlock=some q→q<w.heap.size∧q≠br) (hp:Sl .u8 w pv (nats cs)) (hcs:∀ x ∈ cs,x<256) (hl:cs.length≤10000000)
  (hF:rbody p okP cs=none→r=false)
  (hS:∀ lone vs rest,rbody p okP cs=some (lone,vs,rest)→KsOk (vs.map pairK)∧(catV vs).length≤131072∧(l=false→r=true∧∀ W b R,MapAt W b (catV vs) (rt0 (catV vs).length) lone R→(∀ x,R x→w.heap.size≤x)→w.heap.size≤b→Q b W) ∧
   (l=true→∀ W pv' sv' b R,RdF W br false p l pv' sv' true→(∀ q,pv'.ownBlock=some q→pv.ownBlock=some q)→Sl .u8 W pv' (nats rest)→MapAt W b (catV vs) (rt0 (catV vs).length) lone R→(∀ x,R x→w.heap.size≤x)→w.heap.size≤b→Keeps (fun k=>k=br) w W →
    Calls Tryz.prog 124 #[.pointer (some ⟨br,0,none⟩),.pointer (some ⟨b,0,none⟩)] W fun e w'=>Keeps (fun k=>k=b) W w'∧∃ v,∃ c:Nat,c<100∧e=.returned (.tuple #[v,.int .i64 c])∧(r=true↔c=0)∧(c=0→∃ b2,v=.pointer (some ⟨b2,0,none⟩)∧Q b2 w'∧w.heap.size≤b2))) :
  Calls Tryz.prog 78 #[.pointer (some ⟨br,0,none⟩)] w fun e w'=>∃ v,e=.returned (.tuple #[v,.bool r])∧(r=true→∃ b,v=.pointer (some ⟨b,0,none⟩)∧Q b w'∧w.heap.size≤b)∧Keeps (fun k=>k=br) w w':=by
 have hnot:∀ (x:Bool) (w:World),(Op.unary .not (.bool x)).run Tryz.prog w=.ok (.bool (!x)) w:=fun _ _=>rfl
 have hN:=q5o br false p l true pv (.slice none 0 0) cs 65536 w hR (fun e=>(hpB br e).2 rfl) hp hcs hl (by decide)
 have hbrw:=lt_of_block hR
 have HP0:=Lib.hid hp
 have HC:=Lib.hid (And.intro hpB (And.intro hcs (And.intro hl hbrw)))
 have HFS:=Lib.hid (And.intro hF hS)
 obtain⟨ob,hob⟩:∃ ob,ob=rbody p okP cs:=⟨_,rfl⟩
 have HOB:=Lib.hid hob
 unfold rbody at hob
 have HO:=Lib.hid hob
 clear hR hp hcs hl hpB hF hS hob
 go_enter Tryz.func78,Tryz.ntmps78
 go_wp2_with fail
 refine hN.mono ?_
 clear hN
 intro e w1 h1
 rcases h1 with⟨lone,cs1,pv1,-,hne,rfl,hR1,hpo1,hp1,hk1⟩|⟨hno,rfl,hR1,hk1⟩
 rotate_left
 ·have hon:rbody p okP cs=none:=by
   have:=HO.out
   rcases hno with h|h
   ·cases h
   ·rw[h] at this
    rw[← HOB.out];exact this
  have hrf:=HFS.out.1 hon
  subst hrf
  have hN2:=q5o br false p l false pv (.slice none 0 0) cs 65536 w1 hR1 (fun e=>(HC.out.1 br e).2 rfl) (HP0.out.keeps hk1 (fun q hq e=>(HC.out.1 q hq).2 e)) HC.out.2.1 HC.out.2.2.1 (by decide)
  have HK1:=Lib.hid hk1
  clear hR1 hk1 hno hon HFS
  go_wp2_with fail
  refine hN2.mono ?_
  clear hN2
  intro e w2 h2
  rcases h2 with⟨_,_,_,h,_⟩|⟨_,rfl,hR2,hk2⟩
  ·cases h
  ·have d5:w2.cell? ⟨br,5,none⟩=some (.bool false):=World.cell_of_heap hR2 5
   have HF:Hid (Keeps (fun k=>k=br) w w2):=Lib.hid (HK1.out.trans hk2 (fun _ _ h=>h))
   clear hR2 hk2
   go_wp2_with fail
   refine wp_loop_once ?_
   go_wp2_with fail
   refine bodyPost_ret (v:=.tuple #[.pointer none,.bool false]) (by simp[results,Tryz.results78,go_sem]) rfl ?_
   exact⟨_,rfl,(fun h=>by cases h),HF.out⟩
 ·obtain⟨hln,u1,hcu⟩:=qbg hne
  have hcs1:∀ x ∈ cs1,x<256:=fun x hx=>HC.out.2.1 x (List.mem_of_mem_drop (by rw[hcu] at hx;exact hx))
  have hl1:cs1.length≤10000000:=by rw[hcu,List.length_drop];have:=HC.out.2.2.1;omega
  have hpB1:∀ q,pv1.ownBlock=some q→q<w.heap.size∧q≠br:=fun q hq=>HC.out.1 q (hpo1 q hq)
  have HO1:Hid (ob=match numV cs1 65536 with|none=>none|some (k,cs2)=>match q1y p okP k cs2 with|none=>none|some (vs,cs3)=>some (lone,vs,cs3)):=Lib.hid (by
   have:=HO.out
   rw[hne] at this
   exact this)
  have hN2:=q5o br false p l true pv1 (.slice none 0 0) cs1 65536 w1 hR1 (fun e=>(hpB1 br e).2 rfl) hp1 hcs1 hl1 (by decide)
  have H1:=Lib.hid (And.intro hk1 (And.intro hpo1 (And.intro hcs1 (And.intro hl1 hpB1))))
  clear hR1 hk1 hpo1 hp1 hcs1 hl1 hpB1 hne hcu
  go_wp2_with fail
  refine hN2.mono ?_
  clear hN2
  intro e w2 h2
  rcases h2 with⟨K,cs2,pv2,-,hne,rfl,hR2,hpo2,hp2,hk2⟩|⟨hno,rfl,hR2,hk2⟩
  rotate_left
  ·have hon:rbody p okP cs=none:=by
    have:=HO1.out
    rcases hno with h|h
    ·cases h
    ·rw[h] at this
     rw[← HOB.out];exact this
   have hrf:=HFS.out.1 hon
   subst hrf
   have d5:w2.cell? ⟨br,5,none⟩=some (.bool false):=World.cell_of_heap hR2 5
   have HF:Hid (Keeps (fun k=>k=br) w w2):=Lib.hid (H1.out.1.trans hk2 (fun _ _ h=>h))
   clear hR2 hk2 hno hon
   go_wp2_with fail
   refine wp_loop_once ?_
   go_wp2_with fail
   refine bodyPost_ret (v:=.tuple #[.pointer none,.bool false]) (by simp[results,Tryz.results78,go_sem]) rfl ?_
   exact⟨_,rfl,(fun h=>by cases h),HF.out⟩
  ·obtain⟨hKn,u2,hcu2⟩:=qbg hne
   have hob2:ob=(q1y p okP K cs2).map fun q=>(lone,q.1,q.2):=by
    have:=HO1.out
    rw[hne] at this
    rw[this]
    simp only
    cases q1y p okP K cs2 with
    | none=>rfl
    | some q=>rfl
   obtain⟨op,hop⟩:∃ op,op=q1y p okP K cs2:=⟨_,rfl⟩
   rw[← hop] at hob2
   have HO2:=Lib.hid hob2
   clear hob2
   have hcs2:∀ x ∈ cs2,x<256:=fun x hx=>H1.out.2.2.1 x (List.mem_of_mem_drop (by rw[hcu2] at hx;exact hx))
   have hl2:cs2.length≤10000000:=by rw[hcu2,List.length_drop];have:=H1.out.2.2.2.1;omega
   have hS0:RdS w br p l pv op K 0 w2:=by
    refine⟨⟨[],cs2,pv2,_,rfl,?_,hR2,fun q hq=>H1.out.2.1 q (hpo2 q hq),hp2,hcs2,hl2,OwnI.nil _ _,by simp[catV,catM]⟩,H1.out.1.trans hk2 (fun _ _ h=>h)⟩
    rw[hop]
    show q1y p okP K cs2=(q1y p okP K cs2).map fun q=>([] ++ q.1,q.2)
    cases q1y p okP K cs2 with
    | none=>rfl
    | some q=>rfl
   have HS0:=Lib.hid hS0
   clear hR2 hpo2 hp2 hk2 hne hcu2 hop hcs2 hl2 hS0
   go_wp2_with fail
   go_loopg [11] K (fun q iv wr=>∃ i:Nat,i≤K∧q=K - i∧iv=.int .i64 i∧RdS w br p l pv op K i wr)
   case atStart=>exact⟨0,Nat.zero_le _,by omega,rfl,HS0.out⟩
   case round =>
    clear HS0
    obtain⟨i,hi,hgk,rfl,hS⟩:=hrel
    have HGK:=Lib.hid hgk
    clear hgk
    obtain⟨⟨vs,cs',pv',sv',hvl,hoo,hRr,hpo,hpr,hcr,hlr,hsr,hcl⟩,hkr⟩:=hS
    have hbrw:=HC.out.2.2.2
    by_cases hlt:i<K
    ·have hPt:=qh9 w.heap.size br p l pv' sv' cs' (catV vs) wr hRr (fun q hq=>HC.out.1 q (hpo q hq)) hpr hcr hlr hsr (by omega) hbrw hkr.size
     have HX:=Lib.hid (And.intro hvl (And.intro hoo (And.intro hpo (And.intro hcr (And.intro hlr (And.intro hcl hkr))))))
     clear hvl hoo hRr hpo hpr hcr hlr hsr hcl hkr
     go_wp2_with fail
     refine hPt.mono ?_
     clear hPt
     rintro e w3 ⟨rfl,hk3,hc⟩
     have hkw3:Keeps (fun k=>k=br) w w3:=(Keeps.refl (fun k=>k=br) w).trans ((HX.out.2.2.2.2.2.2.mono (fun _ _ h=>.inl h):Keeps (fun k=>k=br∨w.heap.size≤k) w wr).trans hk3 (fun _ _ h=>h):Keeps (fun k=>k=br∨w.heap.size≤k) w w3) (fun x hx e=>by omega)
     obtain⟨hvl,hoo,hpo,hcr,hlr,hcl,hkr⟩:=HX.out
     have hst:=qew p okP (K - (i+1)) cs'
     rw[show K - (i+1)+1=K - i by omega] at hst
     rcases hc with⟨bits,cs'',ks,pv'',sv'',hrp,hwb,hk0,hR3,hpo3,hp3,hs3⟩|⟨hrp,pv'',sv'',hR3⟩
     ·have d5:w3.cell? ⟨br,5,none⟩=some (.bool true):=World.cell_of_heap hR3 5
      have hks:=hwb.eq
      rw[hrp] at hst
      have hsub:(∀ x ∈ cs'',x<256)∧cs''.length≤10000000∧bits.length≤262144:=by
       unfold rpart at hrp
       cases hnv:numV cs' 65536 with
       | none=>rw[hnv] at hrp;cases hrp
       | some nq =>
        obtain⟨n,c1⟩:=nq
        rw[hnv] at hrp
        obtain⟨hnn,u,hu⟩:=qbg hnv
        simp only at hrp
        cases hun:q0q c1 (4 * n) p with
        | none=>rw[hun] at hrp;cases hrp
        | some vq =>
         obtain⟨v,uu⟩:=vq
         rw[hun] at hrp
         simp only at hrp
         split at hrp
         ·simp only [Option.some.injEq,Prod.mk.injEq] at hrp
          obtain⟨rfl,rfl⟩:=hrp
          have hbl:=(qaf hun).1
          rw[hu]
          exact⟨fun x hx=>hcr x (List.mem_of_mem_drop (List.mem_of_mem_drop hx)),by rw[List.length_drop,List.length_drop];omega,by omega⟩
         ·cases hrp
      have hkb:ks.length≤131072:=by
       have h1:=q1r ks
       rw[hwb.2] at h1
       have:=hsub.2.2
       omega
      have HS:Hid (RdS w br p l pv op K (i+1) w3):=by
       refine Lib.hid ⟨⟨vs ++ [bits],cs'',pv'',sv'',by rw[List.length_append,hvl];rfl,?_,hR3,fun q hq=>hpo q (hpo3 q hq),hp3,hsub.1,hsub.2.1,by rw[qd8,← hks];exact hs3,?_⟩,hkw3⟩
       ·rw[hoo,hst]
        simp only
        cases q1y p okP (K - (i+1)) cs'' with
        | none=>rfl
        | some q=>simp
       ·rw[qd8,List.length_append]
        unfold movL
        rw[List.length_map,q03,← hks]
        omega
      clear hvl hoo hpo hcr hlr hcl hkr hst hrp hwb hk0 hR3 hpo3 hp3 hs3 hks hsub hkb hk3 hkw3
      go_wp2_with fail
      go_roundg (K - (i+1))
      case measure=>rw[HGK.out];omega
      case rel=>exact⟨i+1,by omega,rfl,by go_num,HS.out⟩
     ·have d5:w3.cell? ⟨br,5,none⟩=some (.bool false):=World.cell_of_heap hR3 5
      rw[hrp] at hst
      have hon:rbody p okP cs=none:=by
       rw[hst] at hoo
       rw[← HOB.out,HO2.out,hoo];rfl
      have hrf:=HFS.out.1 hon
      subst hrf
      have HF:=Lib.hid hkw3
      clear hvl hoo hpo hcr hlr hcl hkr hst hrp hR3 hk3 hkw3 hon
      go_wp2
      refine bodyPost_ret (v:=.tuple #[.pointer none,.bool false]) (by simp[results,Tryz.results78,go_sem]) rfl ?_
      exact⟨_,rfl,(fun h=>by cases h),HF.out⟩
    ·obtain rfl:i=K:=by omega
     have hob3:rbody p okP cs=some (lone,vs,cs'):=by
      rw[← HOB.out,HO2.out,hoo,Nat.sub_self]
      show some (lone,vs ++ [],cs')=_
      rw[List.append_nil]
     obtain⟨hok,hcv,hlf,hlt'⟩:=HFS.out.2 lone vs cs' hob3
     have d5:wr.cell? ⟨br,5,none⟩=some (.bool true):=World.cell_of_heap hRr 5
     obtain⟨sa,sc,rfl,_,_⟩:=hsr.form
     rw[q02] at hRr hsr
     have d4:wr.cell? ⟨br,4,none⟩=some (.slice sa (catV vs).length sc):=World.cell_of_heap hRr 4
     have hNw:=qdq (rt:=rt0 (catV vs).length) (ln:=lone) (hsr.keeps (Keeps.refl (fun _=>False) wr).drew (fun _ _ h=>h)).sl (q2q hok) (q5m hok) hcv hln (by
      unfold rt0
      by_cases h0:(catV vs).length=0
      ·exact .inl ⟨h0,by rw[if_pos h0]⟩
      ·exact .inr ⟨0,by rw[if_neg h0];rfl,by show 0<(catV vs).length;omega⟩)
     have hfr:∀ W,Keeps (fun _=>False) wr W→RdF W br false p l pv' (.slice sa (catV vs).length sc) true∧Sl .u8 W pv' (nats cs'):=fun W hW=>⟨hRr.keeps hW (fun h=>h),hpr.keeps hW (fun _ _ h=>h)⟩
     have HL:=Lib.hid (And.intro hlf (And.intro hlt' (And.intro hkr (And.intro hpo hfr))))
     have HC4:Hid (∀ W,Keeps (fun _=>False) wr W→W.cell? ⟨br,4,none⟩=some (.slice sa (catV vs).length sc)):=Lib.hid (fun W hW=>World.cell_of_heap (hRr.keeps hW (fun h=>h)) 4)
     have hC2:∀ W,Keeps (fun _=>False) wr W→W.cell? ⟨br,2,none⟩=some (.bool l):=fun W hW=>World.cell_of_heap (hRr.keeps hW (fun h=>h)) 2
     have HC2:=Lib.hid hC2
     obtain⟨rtv,hrtv⟩:∃ rtv,rtv=rt0 (catV vs).length:=⟨_,rfl⟩
     rw[← hrtv] at hNw HL
     obtain⟨N,hN⟩:∃ N,N=(catV vs).length:=⟨_,rfl⟩
     rw[← hN] at hrtv d4 HC4 HL hNw
     have hcvN:N≤131072:=by omega
     have hmn:∀ W,(Builtin.min_ #[3,3] 3 #[.int .i64 0,.int .i64 ((N:Int) - 1)]).run Tryz.prog W=.ok (.int .i64 rtv) W:=fun W=>by
      have h5:(Builtin.min_ #[3,3] 3 #[.int .i64 0,.int .i64 ((N:Int) - 1)]).run Tryz.prog W=.ok (.int .i64 (if (N:Int) - 1<0 then (N:Int) - 1 else 0)) W:=rfl
      rw[h5,hrtv]
      unfold rt0
      by_cases h0:N=0
      ·rw[if_pos h0,if_pos (by omega),h0];rfl
      ·rw[if_neg h0,if_neg (by omega)]
     have HN:=Lib.hid (And.intro hN hrtv)
     have hN1:IntKind.i64.wrap ((N:Int) - 1)=(N:Int) - 1:=IntWalk.i64_in _ (by omega)
     clear hvl hoo hpo hcr hlr hcl hkr hob3 hok hcv hlf hlt' hRr hpr hsr hfr hC2 hN hrtv
     go_wp2_with fail
     go_region_held3 (fun w'=>w'.cell? ⟨br,4,none⟩=some (.slice sa N sc)) (first|exact HC4.out _ (Keeps.refl _ _)|exact HC4.out _ (Keeps.refl (fun _=>False) wr).drew|exact HC4.out _ HK3.out.2.2) ((go_at_call 30;refine hNw.mono ?_;rintro e w3 ⟨b3,rfl,hA3,hb3,hk3⟩;have HK3:Hid (MapAt w3 b3 (catV vs) rtv lone (fun x=>wr.heap.size≤x∧x<w3.heap.size∧x≠b3)∧wr.heap.size≤b3∧Keeps (fun _=>False) wr w3):=Lib.hid ⟨hA3,hb3,(Keeps.refl (fun _=>False) wr).drew.trans hk3 (fun _ _ h=>h)⟩;clear hA3 hb3 hk3))
     all_goals
      have c2:=HC2.out w3 HK3.out.2.2
      have hs3:=HK3.out.2.2.size
      have hkw3:Keeps (fun k=>k=br) w w3:=HL.out.2.2.1.trans HK3.out.2.2 (fun _ _ h=>h.elim)
      have hswr:=HL.out.2.2.1.size
      clear hNw hmn d4 d5
      cases l
      ·obtain⟨hr1,hQ⟩:=HL.out.1 rfl
       subst hr1
       have HF:Hid (Q b3 w3∧w.heap.size≤b3∧Keeps (fun k=>k=br) w w3):=Lib.hid ⟨hQ _ _ _ HK3.out.1 (fun x hx=>by have:=hx.1;omega) (by have:=HK3.out.2.1;omega),by have:=HK3.out.2.1;omega,hkw3⟩
       clear hQ hkw3
       go_wp2_with fail
       refine bodyPost_ret (v:=.tuple #[.pointer (some ⟨b3,0,none⟩),.bool true]) (by simp[results,Tryz.results78,go_sem]) rfl ?_
       exact⟨_,rfl,⟨b3,rfl,HF.out.1,HF.out.2.1⟩,HF.out.2.2⟩
      ·obtain⟨hR3,hp3⟩:=HL.out.2.2.2.2 w3 HK3.out.2.2
       have hNm:=HL.out.2.1 rfl w3 pv' _ b3 _ hR3 HL.out.2.2.2.1 hp3 HK3.out.1 (fun x hx=>by have:=hx.1;omega) (by have:=HK3.out.2.1;omega) hkw3
       have HKW:=Lib.hid hkw3
       clear hR3 hp3 hkw3
       go_wp2_with fail
       refine hNm.mono ?_
       clear hNm
       rintro e w4 ⟨hk4,v,c,hc100,rfl,hrc,hQ⟩
       have hrr:((c:Int) == 0)=r:=by
        cases r
        ·rw[beq_eq_false_iff_ne]
         intro h0
         have:=hrc.2 (by omega)
         cases this
        ·have:=hrc.1 rfl
         rw[this];rfl
       have HF:Hid ((r=true→∃ b,v=.pointer (some ⟨b,0,none⟩)∧Q b w4∧w.heap.size≤b)∧Keeps (fun k=>k=br) w w4):=Lib.hid ⟨fun h=>hQ (hrc.1 h),HKW.out.trans hk4 (fun x hx e=>by have:=HK3.out.2.1;omega)⟩
       clear hk4 hrc hQ
       go_wp2_with fail
       refine bodyPost_ret (v:=.tuple #[v,.bool r]) (by simp[results,Tryz.results78,go_sem]) rfl ?_
       exact⟨_,rfl,HF.out⟩
end Go.Proofs.YtcfdpogegngplaaGreat
