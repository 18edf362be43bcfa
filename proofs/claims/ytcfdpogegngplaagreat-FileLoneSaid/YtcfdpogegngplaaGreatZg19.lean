import Derived.Test.YtcfdpogegngplaaGreatZg18
set_option maxRecDepth 100000
set_option maxHeartbeats 4000000
namespace Go.Proofs.YtcfdpogegngplaaGreat
open Go.RowKit
theorem qdz:∀ (l:List (List Nat)) (p:List Nat),bH (l ++ [p])=bH l ++ p.map ((bH l).length + ·)
 | [],p=>by
  show p ++ (bH []).map _=_
  simp[bH]
 | q :: l,p=>by
  show q ++ (bH (l ++ [p])).map (q.length + ·)=_
  rw[qdz l p]
  have e:(bH (q :: l))=q ++ (bH l).map (q.length + ·):=rfl
  rw[e,List.map_append,List.map_map,List.append_assoc,List.length_append,List.length_map]
  congr 2
  refine List.map_congr_left (fun x _=>?_)
  show q.length+((bH l).length+x)=q.length+(bH l).length+x
  omega
noncomputable def iM(vs:List (List Bool)):List Nat:=bH ((vs.map bX).map aG)
theorem qe(vs:List (List Bool))(v:List Bool):iM (vs ++ [v])=iM vs ++ lq (iM vs).length (bX v):=by
 unfold iM lq
 rw[List.map_append,List.map_append,List.map_cons,List.map_nil,List.map_cons,List.map_nil,qdz]
theorem kE.eq{l:List Bool}{ks:List Nat}(h:kE l ks):ks=bX l:=by rw[← h.2,J7 ks h.1.k4]
open Classical in
theorem qfg(p:Bool)(ok:List Bool→Prop)(k:Nat)(cs:List Nat):q24 p ok (k+1) cs=match kC p ok cs with|none=>none|some (v,cs1)=>(q24 p ok k cs1).map fun q=>(v :: q.1,q.2):=by
 show (match kC p ok cs with|none=>none|some (v,cs1)=>match q24 p ok k cs1 with|none=>none|some (vs,cs2)=>some (v :: vs,cs2))=_
 cases kC p ok cs with
 | none=>rfl
 | some q =>
  obtain⟨v,cs1⟩:=q
  show (match q24 p ok k cs1 with|none=>none|some (vs,cs2)=>some (v :: vs,cs2))=(q24 p ok k cs1).map fun q=>(v :: q.1,q.2)
  cases q24 p ok k cs1 with
  | none=>rfl
  | some q=>rfl
structure Yg (w:World)(br:Nat)(p l:Bool)(pv:Value)(o:Option (List (List Bool) × List Nat))(K i:Nat)(wr:World):Prop where
 ex:∃ vs cs' pv' jI,vs.length=i∧o=(q24 p nD (K - i) cs').map (fun q=>(vs ++ q.1,q.2))∧kL wr br false p l pv' jI true∧(∀ q,pv'.ownBlock=some q→pv.ownBlock=some q)∧Sl .u8 wr pv' (aB cs')∧(∀ x ∈ cs',x<256)∧cs'.length≤10000000∧aF w.heap.size wr jI (aB (iM vs))∧(iM vs).length≤131072 * i
 dR:Keeps (fun k=>k=br) w wr
theorem qam(br:Nat)(p l:Bool)(pv:Value)(cs:List Nat)(w:World)(Q:Nat→World→Prop)(r:Bool)(hR:kL w br false p l pv (.slice none 0 0) true)(Jc:∀ q,pv.ownBlock=some q→q<w.heap.size∧q≠br)(hp:Sl .u8 w pv (aB cs))(hcs:∀ x ∈ cs,x<256)(hl:cs.length≤10000000)
  (hF:kD p nD cs=none→r=false)
  (hS:∀ lone vs rest,kD p nD cs=some (lone,vs,rest)→eD (vs.map bX)∧(iM vs).length≤131072∧(l=false→r=true∧∀ W b R,MapAt W b (iM vs) (rG (iM vs).length) lone R→(∀ x,R x→w.heap.size≤x)→w.heap.size≤b→Q b W) ∧
   (l=true→∀ W pv' jI b R,kL W br false p l pv' jI true→(∀ q,pv'.ownBlock=some q→pv.ownBlock=some q)→Sl .u8 W pv' (aB rest)→MapAt W b (iM vs) (rG (iM vs).length) lone R→(∀ x,R x→w.heap.size≤x)→w.heap.size≤b→Keeps (fun k=>k=br) w W →
    Calls Tryz.prog 124 #[.pointer (some ⟨br,0,none⟩),.pointer (some ⟨b,0,none⟩)] W fun e w'=>Keeps (fun k=>k=b) W w'∧∃ v,∃ c:Nat,c<100∧e=.returned (.tuple #[v,.int .i64 c])∧(r=true↔c=0)∧(c=0→∃ b2,v=.pointer (some ⟨b2,0,none⟩)∧Q b2 w'∧w.heap.size≤b2))) :
  Calls Tryz.prog 78 #[.pointer (some ⟨br,0,none⟩)] w fun e w'=>∃ v,e=.returned (.tuple #[v,.bool r])∧(r=true→∃ b,v=.pointer (some ⟨b,0,none⟩)∧Q b w'∧w.heap.size≤b)∧Keeps (fun k=>k=br) w w':=by
 have hnot:∀ (x:Bool) (w:World),(Op.unary .not (.bool x)).run Tryz.prog w=.ok (.bool (!x)) w:=fun _ _=>rfl
 have hN:=Tc br false p l true pv (.slice none 0 0) cs 65536 w hR (fun e=>(Jc br e).2 rfl) hp hcs hl (by decide)
 have tT:=lt_of_block hR
 have HP0:=ah hp
 have HC:=ah (aj Jc (aj hcs (aj hl tT)))
 have I7:=ah (aj hF hS)
 obtain⟨ob,kI⟩:∃ ob,ob=kD p nD cs:=⟨_,rfl⟩
 have IZ:=ah kI
 unfold kD at kI
 have HO:=ah kI
 clear hR hp hcs hl Jc hF hS kI
 go_enter Tryz.func78,Tryz.ntmps78
 go_wp2_with fail
 refine hN.mono ?_
 clear hN
 intro e w1 h1
 rcases h1 with⟨lone,cs1,DR,-,hne,rfl,mI,uY,hp1,hk1⟩|⟨hno,rfl,mI,hk1⟩
 rotate_left
 ·have hon:kD p nD cs=none:=by
   have:=HO.out
   rcases hno with h|h
   ·cases h
   ·rw[h] at this
    rw[← IZ.out];exact this
  have hrf:=I7.out.1 hon
  subst hrf
  have mQ:=Tc br false p l false pv (.slice none 0 0) cs 65536 w1 mI (fun e=>(HC.out.1 br e).2 rfl) (HP0.out.keeps hk1 (fun q hq e=>(HC.out.1 q hq).2 e)) HC.out.2.1 HC.out.2.2.1 (by decide)
  have BD:=ah hk1
  clear mI hk1 hno hon I7
  go_wp2_with fail
  refine mQ.mono ?_
  clear mQ
  intro e w2 h2
  rcases h2 with⟨_,_,_,h,_⟩|⟨_,rfl,hR2,hk2⟩
  ·cases h
  ·have d5:w2.cell? ⟨br,5,none⟩=some (.bool false):=ak hR2 5
   have HF:Hid (Keeps (fun k=>k=br) w w2):=ah (BD.out.trans hk2 (fun _ _ h=>h))
   clear hR2 hk2
   go_wp2_with fail
   refine wp_loop_once ?_
   go_wp2_with fail
   refine bodyPost_ret (v:=.tuple #[.pointer none,.bool false]) (by simp[results,Tryz.results78,go_sem]) rfl ?_
   exact⟨_,rfl,(fun h=>by cases h),HF.out⟩
 ·obtain⟨hln,u1,Jd⟩:=Ta hne
  have hcs1:∀ x ∈ cs1,x<256:=fun x hx=>HC.out.2.1 x (List.mem_of_mem_drop (by rw[Jd] at hx;exact hx))
  have hl1:cs1.length≤10000000:=by rw[Jd,List.length_drop];have:=HC.out.2.2.1;omega
  have xY:∀ q,DR.ownBlock=some q→q<w.heap.size∧q≠br:=fun q hq=>HC.out.1 q (uY q hq)
  have KD:Hid (ob=match kK cs1 65536 with|none=>none|some (k,cs2)=>match q24 p nD k cs2 with|none=>none|some (vs,XL)=>some (lone,vs,XL)):=ah (by
   have:=HO.out
   rw[hne] at this
   exact this)
  have mQ:=Tc br false p l true DR (.slice none 0 0) cs1 65536 w1 mI (fun e=>(xY br e).2 rfl) hp1 hcs1 hl1 (by decide)
  have H1:=ah (aj hk1 (aj uY (aj hcs1 (aj hl1 xY))))
  clear mI hk1 uY hp1 hcs1 hl1 xY hne Jd
  go_wp2_with fail
  refine mQ.mono ?_
  clear mQ
  intro e w2 h2
  rcases h2 with⟨K,cs2,yN,-,hne,rfl,hR2,PI,hp2,hk2⟩|⟨hno,rfl,hR2,hk2⟩
  rotate_left
  ·have hon:kD p nD cs=none:=by
    have:=KD.out
    rcases hno with h|h
    ·cases h
    ·rw[h] at this
     rw[← IZ.out];exact this
   have hrf:=I7.out.1 hon
   subst hrf
   have d5:w2.cell? ⟨br,5,none⟩=some (.bool false):=ak hR2 5
   have HF:Hid (Keeps (fun k=>k=br) w w2):=ah (H1.out.1.trans hk2 (fun _ _ h=>h))
   clear hR2 hk2 hno hon
   go_wp2_with fail
   refine wp_loop_once ?_
   go_wp2_with fail
   refine bodyPost_ret (v:=.tuple #[.pointer none,.bool false]) (by simp[results,Tryz.results78,go_sem]) rfl ?_
   exact⟨_,rfl,(fun h=>by cases h),HF.out⟩
  ·obtain⟨hKn,u2,Jh⟩:=Ta hne
   have Ji:ob=(q24 p nD K cs2).map fun q=>(lone,q.1,q.2):=by
    have:=KD.out
    rw[hne] at this
    rw[this]
    simp only
    cases q24 p nD K cs2 with
    | none=>rfl
    | some q=>rfl
   obtain⟨op,hop⟩:∃ op,op=q24 p nD K cs2:=⟨_,rfl⟩
   rw[← hop] at Ji
   have FH:=ah Ji
   clear Ji
   have hcs2:∀ x ∈ cs2,x<256:=fun x hx=>H1.out.2.2.1 x (List.mem_of_mem_drop (by rw[Jh] at hx;exact hx))
   have hl2:cs2.length≤10000000:=by rw[Jh,List.length_drop];have:=H1.out.2.2.2.1;omega
   have hS0:Yg w br p l pv op K 0 w2:=by
    refine⟨⟨[],cs2,yN,_,rfl,?_,hR2,fun q hq=>H1.out.2.1 q (PI q hq),hp2,hcs2,hl2,aF.nil _ _,by simp[iM,bH]⟩,H1.out.1.trans hk2 (fun _ _ h=>h)⟩
    rw[hop]
    show q24 p nD K cs2=(q24 p nD K cs2).map fun q=>([] ++ q.1,q.2)
    cases q24 p nD K cs2 with
    | none=>rfl
    | some q=>rfl
   have Bl:=ah hS0
   clear hR2 PI hp2 hk2 hne Jh hop hcs2 hl2 hS0
   go_wp2_with fail
   go_loopg [11] K (fun q iv wr=>∃ i:Nat,i≤K∧q=K - i∧iv=.int .i64 i∧Yg w br p l pv op K i wr)
   case atStart=>exact⟨0,Nat.zero_le _,by omega,rfl,Bl.out⟩
   case round =>
    clear Bl
    obtain⟨i,hi,aN,rfl,hS⟩:=hrel
    have tq:=ah aN
    clear aN
    obtain⟨⟨vs,cs',pv',jI,hvl,wP,hRr,hpo,hpr,hcr,hlr,hsr,hcl⟩,hkr⟩:=hS
    have tT:=HC.out.2.2.2
    by_cases hlt:i<K
    ·have kN:=qhr w.heap.size br p l pv' jI cs' (iM vs) wr hRr (fun q hq=>HC.out.1 q (hpo q hq)) hpr hcr hlr hsr (by omega) tT hkr.size
     have HX:=ah (aj hvl (aj wP (aj hpo (aj hcr (aj hlr (aj hcl hkr))))))
     clear hvl wP hRr hpo hpr hcr hlr hsr hcl hkr
     go_wp2_with fail
     refine kN.mono ?_
     clear kN
     rintro e w3 ⟨rfl,hk3,hc⟩
     have lY:Keeps (fun k=>k=br) w w3:=(Keeps.refl (fun k=>k=br) w).trans ((HX.out.2.2.2.2.2.2.mono (fun _ _ h=>.inl h):Keeps (fun k=>k=br∨w.heap.size≤k) w wr).trans hk3 (fun _ _ h=>h):Keeps (fun k=>k=br∨w.heap.size≤k) w w3) (fun x hx e=>by omega)
     obtain⟨hvl,wP,hpo,hcr,hlr,hcl,hkr⟩:=HX.out
     have hst:=qfg p nD (K - (i+1)) cs'
     rw[show K - (i+1)+1=K - i by omega] at hst
     rcases hc with⟨bits,cs'',ks,PK,PL,oW,hwb,hk0,oF,Az,hp3,hs3⟩|⟨oW,PK,PL,oF⟩
     ·have d5:w3.cell? ⟨br,5,none⟩=some (.bool true):=ak oF 5
      have hks:=hwb.eq
      rw[oW] at hst
      have hsub:(∀ x ∈ cs'',x<256)∧cs''.length≤10000000∧bits.length≤262144:=by
       unfold kC at oW
       cases nJ:kK cs' 65536 with
       | none=>rw[nJ] at oW;cases oW
       | some nq =>
        obtain⟨n,c1⟩:=nq
        rw[nJ] at oW
        obtain⟨hnn,u,hu⟩:=Ta nJ
        simp only at oW
        cases hun:nC c1 (4 * n) p with
        | none=>rw[hun] at oW;cases oW
        | some vq =>
         obtain⟨v,uu⟩:=vq
         rw[hun] at oW
         simp only at oW
         split at oW
         ·simp only [Option.some.injEq,Prod.mk.injEq] at oW
          obtain⟨rfl,rfl⟩:=oW
          have hbl:=(qal hun).1
          rw[hu]
          exact⟨fun x hx=>hcr x (List.mem_of_mem_drop (List.mem_of_mem_drop hx)),by rw[List.length_drop,List.length_drop];omega,by omega⟩
         ·cases oW
      have hkb:ks.length≤131072:=by
       have h1:=J6 ks
       rw[hwb.2] at h1
       have:=hsub.2.2
       omega
      have HS:Hid (Yg w br p l pv op K (i+1) w3):=by
       refine ah ⟨⟨vs ++ [bits],cs'',PK,PL,by rw[List.length_append,hvl];rfl,?_,oF,fun q hq=>hpo q (Az q hq),hp3,hsub.1,hsub.2.1,by rw[qe,← hks];exact hs3,?_⟩,lY⟩
       ·rw[wP,hst]
        simp only
        cases q24 p nD (K - (i+1)) cs'' with
        | none=>rfl
        | some q=>simp
       ·rw[qe,List.length_append]
        unfold lq
        rw[List.length_map,kJ,← hks]
        omega
      clear hvl wP hpo hcr hlr hcl hkr hst oW hwb hk0 oF Az hp3 hs3 hks hsub hkb hk3 lY
      go_wp2_with fail
      go_roundg (K - (i+1))
      case measure=>rw[tq.out];omega
      case rel=>exact⟨i+1,by omega,rfl,by go_num,HS.out⟩
     ·have d5:w3.cell? ⟨br,5,none⟩=some (.bool false):=ak oF 5
      rw[oW] at hst
      have hon:kD p nD cs=none:=by
       rw[hst] at wP
       rw[← IZ.out,FH.out,wP];rfl
      have hrf:=I7.out.1 hon
      subst hrf
      have HF:=ah lY
      clear hvl wP hpo hcr hlr hcl hkr hst oW oF hk3 lY hon
      go_wp2
      refine bodyPost_ret (v:=.tuple #[.pointer none,.bool false]) (by simp[results,Tryz.results78,go_sem]) rfl ?_
      exact⟨_,rfl,(fun h=>by cases h),HF.out⟩
    ·obtain rfl:i=K:=by omega
     have zF:kD p nD cs=some (lone,vs,cs'):=by
      rw[← IZ.out,FH.out,wP,Nat.sub_self]
      show some (lone,vs ++ [],cs')=_
      rw[List.append_nil]
     obtain⟨hok,hcv,hlf,hlt'⟩:=I7.out.2 lone vs cs' zF
     have d5:wr.cell? ⟨br,5,none⟩=some (.bool true):=ak hRr 5
     obtain⟨sa,sc,rfl,_,_⟩:=hsr.form
     rw[q01] at hRr hsr
     have d4:wr.cell? ⟨br,4,none⟩=some (.slice sa (iM vs).length sc):=ak hRr 4
     have mU:=Kq (rt:=rG (iM vs).length) (ln:=lone) (hsr.keeps (Keeps.refl (fun _=>False) wr).drew (fun _ _ h=>h)).sl (q2z hok) (NY hok) hcv hln (by
      unfold rG
      by_cases h0:(iM vs).length=0
      ·exact .inl ⟨h0,by rw[if_pos h0]⟩
      ·exact .inr ⟨0,by rw[if_neg h0];rfl,by show 0<(iM vs).length;omega⟩)
     have hfr:∀ W,Keeps (fun _=>False) wr W→kL W br false p l pv' (.slice sa (iM vs).length sc) true∧Sl .u8 W pv' (aB cs'):=fun W hW=>⟨hRr.keeps hW (fun h=>h),hpr.keeps hW (fun _ _ h=>h)⟩
     have HL:=ah (aj hlf (aj hlt' (aj hkr (aj hpo hfr))))
     have Tf:Hid (∀ W,Keeps (fun _=>False) wr W→W.cell? ⟨br,4,none⟩=some (.slice sa (iM vs).length sc)):=ah (fun W hW=>ak (hRr.keeps hW (fun h=>h)) 4)
     have hC2:∀ W,Keeps (fun _=>False) wr W→W.cell? ⟨br,2,none⟩=some (.bool l):=fun W hW=>ak (hRr.keeps hW (fun h=>h)) 2
     have rR:=ah hC2
     obtain⟨Ti,AL⟩:∃ Ti,Ti=rG (iM vs).length:=⟨_,rfl⟩
     rw[← AL] at mU HL
     obtain⟨N,hN⟩:∃ N,N=(iM vs).length:=⟨_,rfl⟩
     rw[← hN] at AL d4 Tf HL mU
     have alB:N≤131072:=by omega
     have hmn:∀ W,(Builtin.min_ #[3,3] 3 #[.int .i64 0,.int .i64 ((N:Int) - 1)]).run Tryz.prog W=.ok (.int .i64 Ti) W:=fun W=>by
      have h5:(Builtin.min_ #[3,3] 3 #[.int .i64 0,.int .i64 ((N:Int) - 1)]).run Tryz.prog W=.ok (.int .i64 (if (N:Int) - 1<0 then (N:Int) - 1 else 0)) W:=rfl
      rw[h5,AL]
      unfold rG
      by_cases h0:N=0
      ·rw[if_pos h0,if_pos (by omega),h0];rfl
      ·rw[if_neg h0,if_neg (by omega)]
     have HN:=ah (aj hN AL)
     have hN1:IntKind.i64.wrap ((N:Int) - 1)=(N:Int) - 1:=IntWalk.i64_in _ (by omega)
     clear hvl wP hpo hcr hlr hcl hkr zF hok hcv hlf hlt' hRr hpr hsr hfr hC2 hN AL
     go_wp2_with fail
     go_region_held3 (fun w'=>w'.cell? ⟨br,4,none⟩=some (.slice sa N sc)) (first|exact Tf.out _ (Keeps.refl _ _)|exact Tf.out _ (Keeps.refl (fun _=>False) wr).drew|exact Tf.out _ xZ.out.2.2) ((go_at_call 30;refine mU.mono ?_;rintro e w3 ⟨b3,rfl,hA3,hb3,hk3⟩;have xZ:Hid (MapAt w3 b3 (iM vs) Ti lone (fun x=>wr.heap.size≤x∧x<w3.heap.size∧x≠b3)∧wr.heap.size≤b3∧Keeps (fun _=>False) wr w3):=ah ⟨hA3,hb3,(Keeps.refl (fun _=>False) wr).drew.trans hk3 (fun _ _ h=>h)⟩;clear hA3 hb3 hk3))
     all_goals
      have c2:=rR.out w3 xZ.out.2.2
      have hs3:=xZ.out.2.2.size
      have lY:Keeps (fun k=>k=br) w w3:=HL.out.2.2.1.trans xZ.out.2.2 (fun _ _ h=>h.elim)
      have alC:=HL.out.2.2.1.size
      clear mU hmn d4 d5
      cases l
      ·obtain⟨hr1,hQ⟩:=HL.out.1 rfl
       subst hr1
       have HF:Hid (Q b3 w3∧w.heap.size≤b3∧Keeps (fun k=>k=br) w w3):=ah ⟨hQ _ _ _ xZ.out.1 (fun x hx=>by have:=hx.1;omega) (by have:=xZ.out.2.1;omega),by have:=xZ.out.2.1;omega,lY⟩
       clear hQ lY
       go_wp2_with fail
       refine bodyPost_ret (v:=.tuple #[.pointer (some ⟨b3,0,none⟩),.bool true]) (by simp[results,Tryz.results78,go_sem]) rfl ?_
       exact⟨_,rfl,⟨b3,rfl,HF.out.1,HF.out.2.1⟩,HF.out.2.2⟩
      ·obtain⟨oF,hp3⟩:=HL.out.2.2.2.2 w3 xZ.out.2.2
       have rQ:=HL.out.2.1 rfl w3 pv' _ b3 _ oF HL.out.2.2.2.1 hp3 xZ.out.1 (fun x hx=>by have:=hx.1;omega) (by have:=xZ.out.2.1;omega) lY
       have Dk:=ah lY
       clear oF hp3 lY
       go_wp2_with fail
       refine rQ.mono ?_
       clear rQ
       rintro e w4 ⟨hk4,v,c,adL,rfl,hrc,hQ⟩
       have hrr:((c:Int) == 0)=r:=by
        cases r
        ·rw[beq_eq_false_iff_ne]
         intro h0
         have:=hrc.2 (by omega)
         cases this
        ·have:=hrc.1 rfl
         rw[this];rfl
       have HF:Hid ((r=true→∃ b,v=.pointer (some ⟨b,0,none⟩)∧Q b w4∧w.heap.size≤b)∧Keeps (fun k=>k=br) w w4):=ah ⟨fun h=>hQ (hrc.1 h),Dk.out.trans hk4 (fun x hx e=>by have:=xZ.out.2.1;omega)⟩
       clear hk4 hrc hQ
       go_wp2_with fail
       refine bodyPost_ret (v:=.tuple #[v,.bool r]) (by simp[results,Tryz.results78,go_sem]) rfl ?_
       exact⟨_,rfl,HF.out⟩
