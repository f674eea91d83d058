/- Texts merged into one, for the number of files a claim may have: TaO, TaQ, RgL, TmE, TmF. -/
import Derived.Test.YtgblfflikgnfpaaGreatTk
import Derived.Test.YtgblfflikgnfpaaGreatTY5
import Derived.Test.YtgblfflikgnfpaaGreatTY6
import Derived.Test.YtgblfflikgnfpaaGreatTY10
import Derived.Test.YtgblfflikgnfpaaGreatTY14
import Derived.Test.YtgblfflikgnfpaaGreatTY16
import Derived.Test.YtgblfflikgnfpaaGreatTY17
import Derived.Test.YtgblfflikgnfpaaGreatTY18
namespace Go.Proofs.YtgblfflikgnfpaaGreat
open Go.RowKit Go.Fb
set_option maxRecDepth 100000
set_option maxHeartbeats 16000000
set_option linter.unusedVariables false
theorem outletTy:SliceTy Tryz.prog 134 170 4 32:=SliceTy.mk' (z:=.agg #[.pointer none,.int .i64 0,.int .i64 0,.int .i64 0]) Tryz.underlying134 (by kernel_rfl) rfl (by omega)
def goes (c id ix:Int) (i:Nat):List (Int × Int × Int):=(List.range i).map fun (k:Nat)=>(c,(k:Int),chanN id ix c (k:Int))
theorem goes_snoc (c id ix:Int) (i:Nat):goes c id ix (i+1)=goes c id ix i ++ [(c,(i:Int),chanN id ix c (i:Int))]:=by unfold goes;rw [List.range_succ,List.map_append];rfl
def sendF (L:List Nd) (id ix:Int) (c:Int):List (Int × Int × Int):=match findN L c with
 | none=>[]
 | some p=>goes c id ix p.par.toNat
theorem sendF_some {L:List Nd} {id ix c:Int} {p:Nd} (h:findN L c=some p):sendF L id ix c=goes c id ix p.par.toNat:=by unfold sendF;rw [h]
def sendL (L:List Nd) (id ix:Int):List (Int × Int × Int):=(childN L id).flatMap (sendF L id ix)
def kidsL (L:List Nd) (id:Int):List Nd:=(childN L id).filterMap (findN L)
structure SendM (col:Nat->Nat) (w:World) (g:Nat) (cs:Array Value) (inc:Int) (ks:List Ndm) (Ls:List (Int × Int × Int)) (kA:Option Addr) (kc:Nat) (oA:Option Addr) (oc:Nat) (gos:List Nat):Prop where
 st:CB col 1 w g 136 ((cs.setIfInBounds 16 (.slice kA ks.length kc)).setIfInBounds 18 (.slice oA Ls.length oc))
 kr:CR col 4 w 66 13 (.slice kA ks.length kc) ks.length (cellsN ks)
 gl:gos.length=Ls.length
 row:CR col 6 w 170 4 (.slice oA Ls.length oc) Ls.length ((gos.zip Ls).flatMap outF)
 om:∀ k gk m,gos[k]?=some gk->Ls[k]?=some m->OutM col (21+2 * k) w gk ⟨m.2.2,inc,[],0,0⟩
theorem SendM.cg0 {col col':Nat->Nat} {w w':World} {g:Nat} {cs:Array Value} {inc:Int} {ks:List Ndm} {Ls:List (Int × Int × Int)} {kA oA:Option Addr} {kc oc:Nat} {gos:List Nat} (h:SendM col w g cs inc ks Ls kA kc oA oc gos) (k:Cg (fun _=>False) col w col' w'):SendM col' w' g cs inc ks Ls kA kc oA oc gos :=
 ⟨h.st.cg k (fun h=>h),h.kr.cg k (fun h=>h),h.gl,h.row.cg k (fun h=>h),fun j gj m h1 h2=>(h.om j gj m h1 h2).cg k (fun h=>h)⟩
theorem sendF_le {L:List Nd} (hR:RightG L) (id ix c:Int):(sendF L id ix c).length<=3:=by
 cases h:findN L c with
 | none=>unfold sendF;rw [h];simp
 | some p =>
  rw [sendF_some h];have:=right8_par (nodeB_iff.1 (hR.each p (findN_mem h))).2.2.2.1;simp [goes];omega
theorem child_few {L:List Nd} (hR:RightG L) (id:Int):(childN L id).length<=8:=by
 unfold childN;rw [srt_len];have h1:=kidsN_le L id [];have h2:=hR.len;simp at h1;omega
theorem send_len {L:List Nd} (hR:RightG L) (id ix:Int) (j:Nat):(((childN L id).take j).flatMap (sendF L id ix)).length<=24:=by
 have h1:=flat_le (sendF L id ix) 3 (sendF_le hR id ix) ((childN L id).take j);have h2:=child_few hR id;have h3:((childN L id).take j).length<=8:=(by rw [List.length_take];omega);omega
theorem set2_ne {cs:Array Value} {u v x:Value} {i:Nat} (h:cs[i]?=some x) (h1:i ≠ 16) (h2:i ≠ 18):((cs.setIfInBounds 16 u).setIfInBounds 18 v)[i]?=some x:=by rw [Array.getElem?_setIfInBounds_ne (by omega),Array.getElem?_setIfInBounds_ne (by omega)];exact h
theorem set2_16 {cs:Array Value} {u v x:Value} (h:cs[16]?=some x):((cs.setIfInBounds 16 u).setIfInBounds 18 v)[16]?=some u:=by
 have:=(Array.getElem?_eq_some_iff.1 h).1;rw [Array.getElem?_setIfInBounds_ne (by decide),Array.getElem?_setIfInBounds_self_of_lt this]
theorem set2_18 {cs:Array Value} {u v x:Value} (h:cs[18]?=some x):((cs.setIfInBounds 16 u).setIfInBounds 18 v)[18]?=some v:=by
 have:=(Array.getElem?_eq_some_iff.1 h).1;rw [Array.getElem?_setIfInBounds_self_of_lt (by simpa using this)]
theorem set2_same {cs:Array Value} {x:Value} {i:Nat} (h:cs[i]?=some x):cs.setIfInBounds i x=cs:=by
 apply Array.ext_getElem?;intro j
 by_cases hj:j=i
 · subst hj;rw [Array.getElem?_setIfInBounds_self_of_lt (Array.getElem?_eq_some_iff.1 h).1];exact h.symm
 · rw [Array.getElem?_setIfInBounds_ne (by omega)]
def NO (c:Nat):Prop:=c=1 \/ c=4 \/ c=6
theorem tsend_any (col:Nat->Nat) (w:World) (g B n c:Nat) (A:Option Addr) (M:List Ndm) (cs:Array Value) (nd:Nd) (ix inc:Int) (hN:Nds w B A n M) (hB:B<=w.heap.size) (hz:∀ q,q < B->¬ NO (col q)) (hs:Small M) (hR:RightG (fstN M)) (hnd:nd ∈ fstN M) (hix:0<=ix/\ix<=3)
  (st:CB col 1 w g 136 cs) (c2:cs[2]?=some (.int .i64 nd.id)) (c15:cs[15]?=some (.int .i64 ix)) (c16:cs[16]?=some (.slice none 0 0)) (c18:cs[18]?=some (.slice none 0 0)) :
  Calls Tryz.prog 61 #[.pointer (some ⟨g,0,none⟩),.slice A n c,.int .i64 inc] w fun e w' =>
   ∃ col' ks kA kc oA oc gos,e=.returned (.tuple #[])/\KsOf ks (kidsL (fstN M) nd.id)/\SendM col' w' g cs inc ks (sendL (fstN M) nd.id ix) kA kc oA oc gos/\Cg NO col w col' w':=by
 have HCH:=zh (children_any nd.id A c B n M w hN hB hs);have k2:=(st.b.cell 2).trans c2;have ST:=zh st;have HC2:=zh c2;have HC15:=zh c15;have HC16:=zh c16;have HC18:=zh c18;have HN:=zh (fun W (hf:Fr B [] w W)=>hN.frw hf (Nat.le_refl _) (by simp));have HZ:=zh hz;have HS:=zh hs;have HR:=zh hR;have HND:=zh hnd;clear hN hz hs hR hnd st c2 c15 c16 c18;go_enter Tryz.func61,Tryz.ntmps61;go_wp2_with fail;refine HCH.out.mono ?_;rintro e w2 ⟨A1,c1,m,hm,rfl,hown,f2⟩;obtain ⟨C,hC⟩:=nm (childN (fstN M) nd.id);have hm2:m=C.length:=(by rw [hC];exact hm);have hm8:m<=8:=(by rw [hm2,hC];exact child_few HR.out nd.id);have hown2:w2.ownsRow w.heap.size 3 1 (.slice A1 m c1) m (C.map (Value.int .i64)):=(by rw [hC];exact hown);have HCC:=zh hC;have HMM:=zh hm2;obtain ⟨col2,hcol2⟩:=nm (paint col w.heap.size 9);have FRD:CRd col2 9 w2 1 A1 m (C.map (Value.int .i64)):=⟨Reads.of_own hown2,fun ad ha _=>by rw [hcol2];exact paint_ge (own_low hown2 ad ha)⟩;have G2:Cg NO col w col2 w2:=(by rw [hcol2];exact (cgf NO f2).paint 9)
 have RM : SendM col2 w2 g cs inc [] [] none 0 none 0 [] := ⟨by
  have:=ST.out.cg (by rw [hcol2];exact (cg0 f2).paint 9:Cg (fun _=>False) col w col2 w2) (fun h=>h);rw [show (cs.setIfInBounds 16 (.slice none ([]:List Ndm).length 0))=cs from set2_same HC16.out,show cs.setIfInBounds 18 (.slice none ([]:List (Int × Int × Int)).length 0)=cs from set2_same HC18.out]
  exact this,CR.nil _ _ _ _ _,rfl,CR.nil _ _ _ _ _,fun k gk mm h _=>by simp at h⟩
 replace FRD:=zh FRD;replace G2:=zh G2;replace RM:=zh RM;clear hown hown2 f2 hcol2 k2 hC hm hm2 HCH;go_upto_region 1 with fail;go_loopg [8,20] m (fun q s8 s20 wr=>∃ j:Nat,j<=m/\q=m - j/\s20=.int .i64 j/\(s8=undef \/ ∃ a,s8=.pointer a)/\∃ colr ks kA kc oA oc gos,Hid (KsOf ks ((C.take j).filterMap (findN (fstN M))))/\Hid (SendM colr wr g cs inc ks ((C.take j).flatMap (sendF (fstN M) nd.id ix)) kA kc oA oc gos)/\Hid (CRd colr 9 wr 1 A1 m (C.map (Value.int .i64)))/\Hid (Cg NO col w colr wr))
 case atStart=>exact ⟨0,Nat.zero_le _,rfl,rfl,.inl rfl,col2,[],none,0,none,0,[],zh ⟨rfl,by simp⟩,RM,FRD,G2⟩
 case round =>
  clear RM FRD G2;obtain ⟨j,hj,rfl,rfl,hs8,colr,ks,kA,kc,oA,oc,gos,HK,RM,FRD,G2⟩:=hrel
  by_cases hjm:j < m
  ·
   have hji:(j:Int) < (m:Int):=by omega
   obtain ⟨f,hf⟩:∃ f,C[j]?=some f:=⟨_,List.getElem?_eq_getElem (by rw [<- HMM.out];exact hjm)⟩;have hfm:f ∈ childN (fstN M) nd.id:=(by rw [<- HCC.out];exact List.mem_of_getElem? hf);obtain ⟨pn0,hp0,hp1,_⟩:=childN_mem.1 hfm;obtain ⟨pn,hpn⟩:∃ pn,findN (fstN M) f=some pn:=findN_ids.2 (by rw [<- hp1];exact List.mem_map.2 ⟨pn0,hp0,rfl⟩);have hpm:=HR.out.each pn (findN_mem hpn);obtain ⟨g1,g2,_,g4,_⟩:=nodeB_iff.1 hpm;have hpr:=right8_par g4;rw [findN_id hpn] at g1 g2;obtain ⟨n1,n2,_⟩:=nodeB_iff.1 (HR.out.each nd HND.out);obtain ⟨b,off,rfl,hb,hcell⟩:=FRD.out.1.2 (by omega);have x0:=hcell j (.int .i64 f) (by rw [List.getElem?_map,hf];rfl)
   have HTK := zh (show (C.take (j + 1)).flatMap (sendF (fstN M) nd.id ix) = (C.take j).flatMap (sendF (fstN M) nd.id ix) ++ goes f nd.id ix pn.par.toNat by
    rw [List.take_add_one,hf,List.flatMap_append]
    simp [sendF_some hpn])
   have HTF := zh (show (C.take (j + 1)).filterMap (findN (fstN M)) = (C.take j).filterMap (findN (fstN M)) ++ [pn] by
    rw [List.take_add_one,hf,List.filterMap_append]
    simp [hpn])
   have HKL := zh (show ks.length <= 8 by
    have h1:ks.length=(ks.map (·.1)).length:=(by simp);rw [h1,HK.out.m]
    exact Nat.le_trans (List.length_filterMap_le _ _) (by rw [List.length_take,<- HMM.out];omega))
   have FB:=zh (G2.out.fr hB HZ.out);have HFI:=zh (find_any f A c B n M wr (HN.out wr FB.out) (Nat.le_trans hB G2.out.size) HS.out);have HPN:=zh hpn;clear hcell hf hfm hpm g4 hp0 hp1;go_wp2_with fail;refine HFI.out.mono ?_;rintro e w3 ⟨h1,f3⟩
   rcases h1 with ⟨h1,_⟩ | ⟨x,sf,sp,h1,rfl,⟨⟨sA,sc,hsf,_⟩,⟨tA,tc,hsp,_⟩⟩⟩
   · exact absurd ((show findN (fstN M) f=none from h1).symm.trans HPN.out) (by simp)
   obtain rfl:x=pn:=by
    have:findN (fstN M) f=some x:=h1;rw [HPN.out] at this;injection this with this
    exact this.symm
   simp only at hsf hsp;subst hsf hsp;clear h1 HFI;have RM3:=zh (RM.out.cg0 (cg0 f3));have FRD3:=zh (FRD.out.cg (cg0 f3) (fun h=>h));have G3:=zh (G2.out.trans (cgf NO f3));clear f3 RM FRD G2 FB x0;go_upto_region 4 with fail;have fa:=(Fr.refl w3.heap.size [] w3).alloc (Nat.le_refl _) (.cells (ndA x (.slice sA x.fr.length sc) (.slice tA x.pg.length tc)) 66);have ka:=(cg0 (col:=colr) fa).paint 0;have BP:=zh (⟨Blk.new w3 _ _,paint_ge (Nat.le_refl _)⟩:CB (paint colr w3.heap.size 0) 0 (w3.alloc (.cells (ndA x (.slice sA x.fr.length sc) (.slice tA x.pg.length tc)) 66)) w3.heap.size 66 (ndA x (.slice sA x.fr.length sc) (.slice tA x.pg.length tc)));have RM4:=zh (RM3.out.cg0 ka);have FRD4:=zh (FRD3.out.cg ka (fun h=>h));have G4:=zh (G3.out.trans (ka.mono (C':=NO) (fun _ h=>h.elim)));clear fa ka RM3 FRD3 G3;generalize paint colr w3.heap.size 0=col4 at *;obtain ⟨gp,hgp⟩:=nm (w3.heap.size);rw [<- hgp] at BP ⊢;generalize w3.alloc _=w4 at *;clear hgp;obtain ⟨Lj,hLj⟩:=nm ((C.take j).flatMap (sendF (fstN M) nd.id ix));have HLL:=zh (by rw [hLj,HCC.out];exact send_len HR.out nd.id ix j:Lj.length<=24);rw [<- hLj] at RM4 HTK;clear hLj;have c16:w4.cell? ⟨g,16,none⟩=some (.slice kA ks.length kc):=(RM4.out.st.b.cell 16).trans (set2_16 HC16.out);have hg4:=RM4.out.st.b.lt;have hkl:=HKL.out;have RM:=zh (RM4.out.cg0 ((Cg.refl _ _ _).drew));have FRD:=zh (FRD4.out.cg (C:=fun _=>False) ((Cg.refl _ _ _).drew) (fun h=>h));have G:=zh G4.out.drew;have BPC:=zh (BP.out.cg (C:=fun _=>False) ((Cg.refl _ _ _).drew) (fun h=>h));have SF:=zh (fun (W:World) (bp:Blk W gp 66 (ndA x (.slice sA x.fr.length sc) (.slice tA x.pg.length tc)))=>(⟨bp.cell 0,bp.cell 1,bp.cell 2,bp.cell 3,bp.cell 4,bp.cell 5,bp.cell 6,bp.cell 7,bp.cell 8,bp.cell 9,bp.cell 10,bp.cell 11,bp.cell 12⟩:W.cell? ⟨gp,0,none⟩=some (.int .i64 x.id)/\W.cell? ⟨gp,1,none⟩=some (.int .i64 x.kind)/\W.cell? ⟨gp,2,none⟩=some (.slice sA x.fr.length sc)/\W.cell? ⟨gp,3,none⟩=some (.slice tA x.pg.length tc)/\W.cell? ⟨gp,4,none⟩=some (.int .i64 x.par)/\W.cell? ⟨gp,5,none⟩=some (.int .i64 (x.rt 0))/\W.cell? ⟨gp,6,none⟩=some (.int .i64 (x.rt 1))/\W.cell? ⟨gp,7,none⟩=some (.int .i64 (x.rt 2))/\W.cell? ⟨gp,8,none⟩=some (.int .i64 (x.rt 3))/\W.cell? ⟨gp,9,none⟩=some (.int .i64 (x.rt 4))/\W.cell? ⟨gp,10,none⟩=some (.int .i64 (x.rt 5))/\W.cell? ⟨gp,11,none⟩=some (.int .i64 (x.rt 6))/\W.cell? ⟨gp,12,none⟩=some (.int .i64 (x.rt 7))));clear RM4 FRD4 G4 BP;refine wp_region_held_drew (S:=fun W=>W.cell? ⟨gp,0,none⟩=some (.int .i64 x.id)/\W.cell? ⟨gp,1,none⟩=some (.int .i64 x.kind)/\W.cell? ⟨gp,2,none⟩=some (.slice sA x.fr.length sc)/\W.cell? ⟨gp,3,none⟩=some (.slice tA x.pg.length tc)/\W.cell? ⟨gp,4,none⟩=some (.int .i64 x.par)/\W.cell? ⟨gp,5,none⟩=some (.int .i64 (x.rt 0))/\W.cell? ⟨gp,6,none⟩=some (.int .i64 (x.rt 1))/\W.cell? ⟨gp,7,none⟩=some (.int .i64 (x.rt 2))/\W.cell? ⟨gp,8,none⟩=some (.int .i64 (x.rt 3))/\W.cell? ⟨gp,9,none⟩=some (.int .i64 (x.rt 4))/\W.cell? ⟨gp,10,none⟩=some (.int .i64 (x.rt 5))/\W.cell? ⟨gp,11,none⟩=some (.int .i64 (x.rt 6))/\W.cell? ⟨gp,12,none⟩=some (.int .i64 (x.rt 7))) (by kernel_rfl) (SF.out _ BPC.out.b) (fun hHeld => ?_);refine tk (i:=0) (oi:=⟨some 30,_,_,_,_,_⟩) (v:=?_) rfl ?_ hHeld ?_
   rotate_left
   · intro w hSw;(try dsimp only at hSw);go_simp;(try with_reducible rfl)
   simp only [Act.put,lPt];refine tk (i:=1) (oi:=⟨some 31,_,_,_,_,_⟩) (v:=?_) rfl ?_ hHeld ?_
   rotate_left
   · intro w hSw;(try dsimp only at hSw);go_simp;(try with_reducible rfl)
   simp only [Act.put,lPt];refine tk (i:=2) (oi:=⟨some 32,_,_,_,_,_⟩) (v:=?_) rfl ?_ hHeld ?_
   rotate_left
   · intro w hSw;(try dsimp only at hSw);go_simp;(try with_reducible rfl)
   simp only [Act.put,lPt];refine tk (i:=3) (oi:=⟨some 33,_,_,_,_,_⟩) (v:=?_) rfl ?_ hHeld ?_
   rotate_left
   · intro w hSw;(try dsimp only at hSw);go_simp;(try with_reducible rfl)
   simp only [Act.put,lPt];refine tk (i:=5) (oi:=⟨some 35,_,_,_,_,_⟩) (v:=?_) rfl ?_ hHeld ?_
   rotate_left
   · intro w hSw;(try dsimp only at hSw);go_simp;(try with_reducible rfl)
   simp only [Act.put,lPt];refine wpAnyH_ready (rs:=[4,6]) (by kernel_rfl) (by simp) ?_;refine AllReadyH.cons (o:=⟨some 34,_,_,_,_,_⟩) rfl (fun K hK => ?_) (AllReadyH.cons (o:=⟨some 36,_,_,_,_,_⟩) rfl (fun K hK => ?_) AllReadyH.nil)
   ·
    skip
    rw [if_pos (by rfl)];go_simp;refine hK.out _ _ (SF.out _ BPC.out.b) (fun hHeld => ?_);clear hK K
    try simp only [Act.put,lPt]
    refine wpAnyH_ready (rs:=[6]) (by kernel_rfl) (by simp) ?_;refine AllReadyH.cons (o:=⟨some 36,_,_,_,_,_⟩) rfl (fun K hK => ?_) AllReadyH.nil;rw [if_pos (by rfl)];go_simp;have fa:=(Fr.refl w4.drew.heap.size [] w4.drew).alloc (Nat.le_refl _) (.cells (ndA x (.slice sA x.fr.length sc) (.slice tA x.pg.length tc)) 66);have BL:=zh (Blk.new w4.drew 66 (ndA x (.slice sA x.fr.length sc) (.slice tA x.pg.length tc)));have RM:=zh (RM.out.cg0 (cg0 fa));have FRD:=zh (FRD.out.cg (cg0 fa) (fun h=>h));have G:=zh (G.out.trans (cgf NO fa));have BPC:=zh (BPC.out.cg (cg0 fa) (fun h=>h));clear fa;refine hK.out _ _ (SF.out _ BPC.out.b) (fun hHeld => ?_);clear hK K
    try simp only [Act.put,lPt]
    refine wpAnyH_ready (rs:=[7]) (by kernel_rfl) (by simp) ?_;refine AllReadyH.cons (o:=⟨some 37,_,_,_,_,_⟩) rfl (fun K hK => ?_) AllReadyH.nil;refine step_appC _ (by rfl) (.tmp 34) (.tmp 36) nodeTy (by rfl) _ ks.length _ (by rfl) RM.out.kr (w4.drew.heap.size+1) (some ⟨w4.drew.heap.size,0,none⟩) 1 1 (ndL (x,Value.slice sA x.fr.length sc,Value.slice tA x.pg.length tc)) (by rfl) (Reads.of_blk (m:=1) (size:=13) BL.out rfl) (by simp [ndL,Value.oneCell']) (by omega) (by omega) ?_;intro A' c' w6 hrow hap hgr;have ST6:=zh (RM.out.st.cg hap (by omega));have OM6:=zh (fun k gk mm (h1:gos[k]?=some gk) (h2:Lj[k]?=some mm)=>(RM.out.om k gk mm h1 h2).cg hap (by omega));have RW6:=zh (RM.out.row.cg hap (by omega));have FRD:=zh (FRD.out.cg hap (by omega));have G:=zh (G.out.trans (hap.mono (C':=NO) (fun _ h=>.inr (.inl h))));have BPC:=zh (BPC.out.cg hap (by omega));have GL:=zh RM.out.gl;generalize paint col4 _ 4=col6 at *;have ROW:=zh hrow;clear hrow hap hgr BL c16 hg4;refine hK.out _ _ (SF.out _ BPC.out.b) (fun hHeld => ?_);clear hK K
    try simp only [Act.put,lPt]
    refine tk (i:=8) (oi:=⟨some 38,_,_,_,_,_⟩) (v:=?_) rfl ?_ hHeld ?_
    rotate_left
    · intro w hSw;(try dsimp only at hSw);go_simp;(try with_reducible rfl)
    simp only [Act.put,lPt];refine tk (i:=9) (oi:=⟨some 39,_,_,_,_,_⟩) (v:=?_) rfl ?_ hHeld ?_
    rotate_left
    · intro w hSw;(try dsimp only at hSw);go_simp;(try with_reducible rfl)
    simp only [Act.put,lPt];refine wpAnyH_ready (rs:=[10]) (by kernel_rfl) (by simp) ?_;refine AllReadyH.cons (o:=⟨none,_,_,_,_,_⟩) rfl (fun K hK => ?_) AllReadyH.nil;rw [if_pos (by rfl)];have c16z:=(ST6.out.b.cell 16).trans (set2_16 HC16.out);have f16z:=ST6.out.b.frozen 16;have g16z:=ST6.out.b.lt;go_simp;have k1:Cg (· = 1) col6 w6 col6 (w6.setCell ⟨g,16,none⟩ (.slice A' (ks.length+1) c')):=(Cg.refl _ _ _).set ST6.out.k _;have hln:(ks ++ [(x,Value.slice sA x.fr.length sc,Value.slice tA x.pg.length tc)]).length=ks.length+1:=(by simp)
    have RMF := zh (by
     refine ⟨⟨?_,ST6.out.k⟩,?_,GL.out,RW6.out.cg k1 (by omega),fun k gk mm h1 h2=>(OM6.out k gk mm h1 h2).cg k1 (by omega)⟩
     · have:=ST6.out.b.set_ 16 (.slice A' (ks.length+1) c');rw [Array.setIfInBounds_comm _ _ (by decide),Array.setIfInBounds_setIfInBounds] at this;rw [hln];exact this
     ·
      have:=ROW.out.cg k1 (by omega);rw [hln,cellsN_app]
      simpa [cellsN] using this:SendM col6 (w6.setCell ⟨g,16,none⟩ (.slice A' (ks.length+1) c')) g cs inc (ks ++ [(x,Value.slice sA x.fr.length sc,Value.slice tA x.pg.length tc)]) Lj A' c' oA oc gos)
    have FRD:=zh (FRD.out.cg k1 (by omega));have G:=zh (G.out.trans (k1.mono (C':=NO) (fun _ h=>.inl h)));have BPC:=zh (BPC.out.cg k1 (by omega));clear k1 hln c16z f16z g16z;refine hK.out _ _ (SF.out _ BPC.out.b) (fun hHeld => ?_);clear hK K
    try simp only [Act.put]
    refine wpAnyH_done (by kernel_rfl) ?_ _;clear hHeld ROW OM6 ST6 RW6 GL
    have HK2 := zh (show KsOf (ks ++ [(x, Value.slice sA x.fr.length sc, Value.slice tA x.pg.length tc)]) ((C.take (j + 1)).filterMap (findN (fstN M))) from ⟨by rw [HTF.out, List.map_append, HK.out.m]; rfl, fun y hy => by
      rcases List.mem_append.1 hy with h | h
      · exact HK.out.s y h
      ·
       obtain rfl:=List.mem_singleton.1 h
       exact ⟨⟨sA,sc,rfl⟩,⟨tA,tc,rfl⟩⟩⟩)
    generalize ks ++ [(x,Value.slice sA x.fr.length sc,Value.slice tA x.pg.length tc)]=ks2 at *;generalize w6.setCell _ _=w7 at *;have q4:=BPC.out.b.cell 4;replace q4:w7.cell? ⟨gp,4,none⟩=some (.int .i64 x.par):=q4;obtain ⟨pt,hpt⟩:∃ pt:Nat,(pt:Int)=x.par:=⟨x.par.toNat,by omega⟩;have HPT:=zh (show x.par.toNat=pt by omega);rw [<- hpt] at q4;have hpt3:pt<=3:=(by omega);clear hpt BPC SF;go_upto_region 6 with fail;go_loopg [42] pt (fun q s42 wi=>∃ i:Nat,i<=pt/\q=pt - i/\s42=.int .i64 i/\∃ coli oA2 oc2 gos2,Hid (SendM coli wi g cs inc ks2 (Lj ++ goes f nd.id ix i) A' c' oA2 oc2 gos2)/\Hid (CRd coli 9 wi 1 (some ⟨b,off,none⟩) m (C.map (Value.int .i64)))/\Hid (Cg NO col w coli wi))
    case atStart=>exact ⟨0,Nat.zero_le _,rfl,rfl,col6,oA,oc,gos,by simpa [goes] using RMF,FRD,G⟩
    case round =>
     clear RMF FRD G q4;obtain ⟨i,hi,rfl,rfl,coli,oA2,oc2,gos2,RM,FRD,G⟩:=hrel
     by_cases hip:i < pt
     ·
      have hii:(i:Int) < (pt:Int):=by omega
      obtain ⟨ch,hch⟩:=nm (chanN nd.id ix f (i:Int));have HCA:=zh (by rw [hch];exact channel_any nd.id ix f (i:Int) (by omega) (by omega) (by omega) (by omega):∀ W,Calls Tryz.prog 38 #[.int .i64 nd.id,.int .i64 ix,.int .i64 f,.int .i64 (i:Int)] W fun e w'=>e=.returned (.int .i64 ch)/\w'=W);obtain ⟨Ls,hLs⟩:=nm (Lj ++ goes f nd.id ix i);rw [<- hLs] at RM;have HLS:=zh (show Lj ++ goes f nd.id ix (i+1)=Ls ++ [(f,(i:Int),ch)] by rw [goes_snoc,<- List.append_assoc,<- hLs,<- hch])
      have hll:Ls.length<=1000000:=by
       rw [hLs,List.length_append];have h1:(goes f nd.id ix i).length=i:=(by simp [goes]);have h2:=HLL.out;omega
      clear hch hLs;have SF:=zh (⟨(RM.out.st.b.cell 2).trans (set2_ne HC2.out (by decide) (by decide)),(RM.out.st.b.cell 15).trans (set2_ne HC15.out (by decide) (by decide))⟩:wr.cell? ⟨g,2,none⟩=some (.int .i64 nd.id)/\wr.cell? ⟨g,15,none⟩=some (.int .i64 ix));go_upto_region 8 with fail;refine wp_region_held_drew (S:=fun W=>W.cell? ⟨g,2,none⟩=some (.int .i64 nd.id)/\W.cell? ⟨g,15,none⟩=some (.int .i64 ix)) (by kernel_rfl) (SF.out) (fun hHeld => ?_);refine tk (i:=0) (oi:=⟨some 45,_,_,_,_,_⟩) (v:=?_) rfl ?_ hHeld ?_
      rotate_left
      · intro w hSw;(try dsimp only at hSw);go_simp;(try with_reducible rfl)
      simp only [Act.put,lPt];refine tk (i:=1) (oi:=⟨some 46,_,_,_,_,_⟩) (v:=?_) rfl ?_ hHeld ?_
      rotate_left
      · intro w hSw;(try dsimp only at hSw);go_simp;(try with_reducible rfl)
      simp only [Act.put,lPt];refine tk (i:=2) (oi:=⟨some 47,_,_,_,_,_⟩) (v:=?_) rfl ?_ hHeld ?_
      rotate_left
      · intro w hSw;(try dsimp only at hSw);go_simp;(try with_reducible rfl)
      simp only [Act.put,lPt];refine tk (i:=3) (oi:=⟨some 48,_,_,_,_,_⟩) (v:=?_) rfl ?_ hHeld ?_
      rotate_left
      · intro w hSw;(try dsimp only at hSw);go_simp;(try with_reducible rfl)
      simp only [Act.put,lPt];refine tk (i:=4) (oi:=⟨some 49,_,_,_,_,_⟩) (v:=?_) rfl ?_ hHeld ?_
      rotate_left
      · intro w hSw;(try dsimp only at hSw);go_simp;(try with_reducible rfl)
      simp only [Act.put,lPt];refine tk (i:=5) (oi:=⟨some 50,_,_,_,_,_⟩) (v:=?_) rfl ?_ hHeld ?_
      rotate_left
      · intro w hSw;(try dsimp only at hSw);go_simp;(try with_reducible rfl)
      simp only [Act.put,lPt];refine tk (i:=6) (oi:=⟨some 51,_,_,_,_,_⟩) (v:=?_) rfl ?_ hHeld ?_
      rotate_left
      · intro w hSw;(try dsimp only at hSw);go_simp;(try with_reducible rfl)
      simp only [Act.put,lPt];refine tk (i:=7) (oi:=⟨some 52,_,_,_,_,_⟩) (v:=?_) rfl ?_ hHeld ?_
      rotate_left
      · intro w hSw;(try dsimp only at hSw);go_simp;(try with_reducible rfl)
      simp only [Act.put,lPt];refine tk (i:=8) (oi:=⟨some 53,_,_,_,_,_⟩) (v:=?_) rfl ?_ hHeld ?_
      rotate_left
      · intro w hSw;(try dsimp only at hSw);go_simp;(try with_reducible rfl)
      simp only [Act.put,lPt];refine tk (i:=9) (oi:=⟨some 54,_,_,_,_,_⟩) (v:=?_) rfl ?_ hHeld ?_
      rotate_left
      · intro w hSw;(try dsimp only at hSw);go_simp;(try with_reducible rfl)
      simp only [Act.put,lPt];refine tk (i:=10) (oi:=⟨some 55,_,_,_,_,_⟩) (v:=?_) rfl ?_ hHeld ?_
      rotate_left
      · intro w hSw;(try dsimp only at hSw);go_simp;(try with_reducible rfl)
      simp only [Act.put,lPt];refine wpAnyH_ready (rs:=[11]) (by kernel_rfl) (by simp) ?_;refine AllReadyH.cons (o:=⟨some 56,_,_,_,_,_⟩) rfl (fun K hK => ?_) AllReadyH.nil;rw [if_pos (by rfl)];go_simp;refine (HCA.out _).mono ?_;rintro e w' ⟨rfl,rfl⟩;refine hK.out _ _ (SF.out) (fun hHeld => ?_);clear hK K
      try simp only [Act.put,lPt]
      refine tk (i:=12) (oi:=⟨some 11,_,_,_,_,_⟩) (v:=?_) rfl ?_ hHeld ?_
      rotate_left
      · intro w hSw;(try dsimp only at hSw);go_simp;(try with_reducible rfl)
      simp only [Act.put,lPt];refine wpAnyH_done (by kernel_rfl) ?_ _
      skip
      go_upto_region 9 with fail;replace RM:=zh (RM.out.cg0 ((Cg.refl _ _ _).drew));replace FRD:=zh (FRD.out.cg (C:=fun _=>False) ((Cg.refl _ _ _).drew) (fun h=>h));replace G:=zh G.out.drew;clear SF hHeld;generalize wr.drew=wd at *;have c18:wd.cell? ⟨g,18,none⟩=some (.slice oA2 Ls.length oc2):=(RM.out.st.b.cell 18).trans (set2_18 HC18.out);have RM:=zh (RM.out.cg0 ((Cg.refl _ _ _).drew));have FRD:=zh (FRD.out.cg (C:=fun _=>False) ((Cg.refl _ _ _).drew) (fun h=>h));have G:=zh G.out.drew;refine wp_region_held_drew (S:=fun _=>True) (by kernel_rfl) (trivial) (fun hHeld => ?_);refine tk (i:=0) (oi:=⟨some 57,_,_,_,_,_⟩) (v:=?_) rfl ?_ hHeld ?_
      rotate_left
      · intro w hSw;(try dsimp only at hSw);go_simp;(try with_reducible rfl)
      simp only [Act.put,lPt];refine tk (i:=1) (oi:=⟨some 58,_,_,_,_,_⟩) (v:=?_) rfl ?_ hHeld ?_
      rotate_left
      · intro w hSw;(try dsimp only at hSw);go_simp;(try with_reducible rfl)
      simp only [Act.put,lPt];refine tk (i:=2) (oi:=⟨some 59,_,_,_,_,_⟩) (v:=?_) rfl ?_ hHeld ?_
      rotate_left
      · intro w hSw;(try dsimp only at hSw);go_simp;(try with_reducible rfl)
      simp only [Act.put,lPt];refine tk (i:=3) (oi:=⟨some 60,_,_,_,_,_⟩) (v:=?_) rfl ?_ hHeld ?_
      rotate_left
      · intro w hSw;(try dsimp only at hSw);go_simp;(try with_reducible rfl)
      simp only [Act.put,lPt];refine tk (i:=5) (oi:=⟨some 62,_,_,_,_,_⟩) (v:=?_) rfl ?_ hHeld ?_
      rotate_left
      · intro w hSw;(try dsimp only at hSw);go_simp;(try with_reducible rfl)
      simp only [Act.put,lPt];refine tk (i:=6) (oi:=⟨some 63,_,_,_,_,_⟩) (v:=?_) rfl ?_ hHeld ?_
      rotate_left
      · intro w hSw;(try dsimp only at hSw);go_simp;(try with_reducible rfl)
      simp only [Act.put,lPt];refine tk (i:=8) (oi:=⟨some 65,_,_,_,_,_⟩) (v:=?_) rfl ?_ hHeld ?_
      rotate_left
      · intro w hSw;(try dsimp only at hSw);go_simp;(try with_reducible rfl)
      simp only [Act.put,lPt];refine tk (i:=9) (oi:=⟨some 66,_,_,_,_,_⟩) (v:=?_) rfl ?_ hHeld ?_
      rotate_left
      · intro w hSw;(try dsimp only at hSw);go_simp;(try with_reducible rfl)
      simp only [Act.put,lPt];refine tk (i:=10) (oi:=⟨some 67,_,_,_,_,_⟩) (v:=?_) rfl ?_ hHeld ?_
      rotate_left
      · intro w hSw;(try dsimp only at hSw);go_simp;(try with_reducible rfl)
      simp only [Act.put,lPt];refine wpAnyH_ready (rs:=[4,7]) (by kernel_rfl) (by simp) ?_;refine AllReadyH.cons (o:=⟨some 61,_,_,_,_,_⟩) rfl (fun K hK => ?_) (AllReadyH.cons (o:=⟨some 64,_,_,_,_,_⟩) rfl (fun K hK => ?_) AllReadyH.nil)
      ·
       skip
       rw [if_pos (by rfl)];go_simp;refine hK.out _ _ (trivial) (fun hHeld => ?_);clear hK K
       try simp only [Act.put,lPt]
       refine wpAnyH_ready (rs:=[7]) (by kernel_rfl) (by simp) ?_;refine AllReadyH.cons (o:=⟨some 64,_,_,_,_,_⟩) rfl (fun K hK => ?_) AllReadyH.nil;rw [if_pos (by rfl)];go_simp;refine (newOut_any _ _ _).mono ?_;rintro e w5 ⟨rfl,f5,hin⟩;have k5:=(cg0 (col:=coli) f5).paint (21+2 * Ls.length);have RM:=zh (RM.out.cg0 k5);have FRD:=zh (FRD.out.cg k5 (fun h=>h));have G:=zh (G.out.trans (k5.mono (C':=NO) (fun _ h=>h.elim)));have HIN:=zh (hin coli (21+2 * Ls.length));have BT5:=zh RM.out.st.b;clear f5 hin k5;generalize paint coli _ _=col5 at *;obtain ⟨gn,hgn⟩:=nm (wd.drew.heap.size);rw [<- hgn] at HIN ⊢;clear hgn;refine hK.out _ _ (trivial) (fun hHeld => ?_);clear hK K
       try simp only [Act.put,lPt]
       refine tk (i:=11) (oi:=⟨some 68,_,_,_,_,_⟩) (v:=?_) rfl ?_ hHeld ?_
       rotate_left
       · intro w hSw;(try dsimp only at hSw);go_simp;(try with_reducible rfl)
       simp only [Act.put,lPt];refine wpAnyH_ready (rs:=[12]) (by kernel_rfl) (by simp) ?_;refine AllReadyH.cons (o:=⟨some 69,_,_,_,_,_⟩) rfl (fun K hK => ?_) AllReadyH.nil;rw [if_pos (by rfl)];go_simp;have BL:=zh (Blk.new w5 170 #[.pointer (some ⟨gn,0,none⟩),.int .i64 f,.int .i64 (i:Int),.int .i64 ch]);have fa:=(Fr.refl w5.heap.size [] w5).alloc (Nat.le_refl _) (.cells #[.pointer (some ⟨gn,0,none⟩),.int .i64 f,.int .i64 (i:Int),.int .i64 ch] 170);have RM:=zh (RM.out.cg0 (cg0 fa));have FRD:=zh (FRD.out.cg (cg0 fa) (fun h=>h));have G:=zh (G.out.trans (cgf NO fa));have HIN:=zh (HIN.out.fr0 fa);clear fa;refine hK.out _ _ (trivial) (fun hHeld => ?_);clear hK K
       try simp only [Act.put,lPt]
       refine wpAnyH_ready (rs:=[13]) (by kernel_rfl) (by simp) ?_;refine AllReadyH.cons (o:=⟨some 70,_,_,_,_,_⟩) rfl (fun K hK => ?_) AllReadyH.nil;refine step_appC _ (by rfl) (.tmp 61) (.tmp 69) outletTy (by rfl) _ Ls.length _ (by rfl) RM.out.row (w5.heap.size+1) (some ⟨w5.heap.size,0,none⟩) 1 1 (outF (gn,f,(i:Int),ch)) (by rfl) (Reads.of_blk (m:=1) (size:=4) BL.out rfl) (by simp [outF,Value.oneCell']) (by omega) (by omega) ?_;intro A9 c9 w8 hrow hap hgr;have ST6:=zh (RM.out.st.cg hap (by omega));have KR6:=zh (RM.out.kr.cg hap (by omega));have IM6:=zh (fun k gk mm (h1:gos2[k]?=some gk) (h2:Ls[k]?=some mm)=>(RM.out.om k gk mm h1 h2).cg hap (by omega));have HIN:=zh (HIN.out.cg hap (by omega));have FRD:=zh (FRD.out.cg hap (by omega));have G:=zh (G.out.trans (hap.mono (C':=NO) (fun _ h=>.inr (.inr h))));have GL:=zh RM.out.gl;generalize paint col5 _ 6=col8 at *;have ROW:=zh hrow;clear hrow hap hgr BL;refine hK.out _ _ (trivial) (fun hHeld => ?_);clear hK K
       try simp only [Act.put,lPt]
       refine tk (i:=14) (oi:=⟨some 71,_,_,_,_,_⟩) (v:=?_) rfl ?_ hHeld ?_
       rotate_left
       · intro w hSw;(try dsimp only at hSw);go_simp;(try with_reducible rfl)
       simp only [Act.put,lPt];refine tk (i:=15) (oi:=⟨some 72,_,_,_,_,_⟩) (v:=?_) rfl ?_ hHeld ?_
       rotate_left
       · intro w hSw;(try dsimp only at hSw);go_simp;(try with_reducible rfl)
       simp only [Act.put,lPt];refine wpAnyH_ready (rs:=[16]) (by kernel_rfl) (by simp) ?_;refine AllReadyH.cons (o:=⟨none,_,_,_,_,_⟩) rfl (fun K hK => ?_) AllReadyH.nil;rw [if_pos (by rfl)];have c18z:=(ST6.out.b.cell 18).trans (set2_18 HC18.out);have f18z:=ST6.out.b.frozen 18;have g18z:=ST6.out.b.lt;go_simp;have k1:Cg (· = 1) col8 w8 col8 (w8.setCell ⟨g,18,none⟩ (.slice A9 (Ls.length+1) c9)):=(Cg.refl _ _ _).set ST6.out.k _;have hln:(Ls ++ [(f,(i:Int),ch)]).length=Ls.length+1:=(by simp)
       have RMF := zh (by
        refine ⟨⟨?_,ST6.out.k⟩,KR6.out.cg k1 (by omega),by simp [GL.out],?_,fun k gk mm h1 h2 => ?_⟩
        · have:=ST6.out.b.set_ 18 (.slice A9 (Ls.length+1) c9);rw [Array.setIfInBounds_setIfInBounds] at this;rw [hln];exact this
        · have:=ROW.out.cg k1 (by omega);rw [hln,zip_snoc _ _ GL.out,List.flatMap_append];simpa using this
        ·
         rcases Nat.lt_or_ge k Ls.length with hk | hk
         · rw [List.getElem?_append_left (by rw [GL.out];exact hk)] at h1;rw [List.getElem?_append_left hk] at h2;exact (IM6.out k gk mm h1 h2).cg k1 (by omega)
         ·
          have hk2:k=Ls.length:=by
           have:=(List.getElem?_eq_some_iff.1 h2).1;simp at this;omega
          subst hk2;rw [<- GL.out,List.getElem?_append_right (Nat.le_refl _),Nat.sub_self] at h1;rw [List.getElem?_append_right (Nat.le_refl _),Nat.sub_self] at h2;injection h1 with h1
          injection h2 with h2
          rw [<- h1,<- h2]
          exact HIN.out.cg k1 (by omega):SendM col8 (w8.setCell ⟨g,18,none⟩ (.slice A9 (Ls.length+1) c9)) g cs inc ks2 (Ls ++ [(f,(i:Int),ch)]) A' c' A9 c9 (gos2 ++ [gn]))
       have FRD:=zh (FRD.out.cg k1 (by omega));have G:=zh (G.out.trans (k1.mono (C':=NO) (fun _ h=>.inl h)));clear k1 hln c18z f18z g18z;refine hK.out _ _ (trivial) (fun hHeld => ?_);clear hK K
       try simp only [Act.put]
       refine wpAnyH_done (by kernel_rfl) ?_ _;rw [<- HLS.out] at RMF;generalize w8.setCell _ _=w9 at *;clear hHeld ROW IM6 ST6 KR6 HIN GL;have hi30:i<=1000:=(by omega);go_wp2_with fail;go_roundg (pt - (i+1))
       case measure=>omega
       case rel=>exact ⟨i+1,hip,rfl,by go_num,col8,A9,c9,gos2 ++ [gn],RMF,FRD,G⟩
      ·
       skip
       rw [if_pos (by rfl)];go_simp;refine (newOut_any _ _ _).mono ?_;rintro e w5 ⟨rfl,f5,hin⟩;have k5:=(cg0 (col:=coli) f5).paint (21+2 * Ls.length);have RM:=zh (RM.out.cg0 k5);have FRD:=zh (FRD.out.cg k5 (fun h=>h));have G:=zh (G.out.trans (k5.mono (C':=NO) (fun _ h=>h.elim)));have HIN:=zh (hin coli (21+2 * Ls.length));have BT5:=zh RM.out.st.b;clear f5 hin k5;generalize paint coli _ _=col5 at *;obtain ⟨gn,hgn⟩:=nm (wd.drew.heap.size);rw [<- hgn] at HIN ⊢;clear hgn;refine hK.out _ _ (trivial) (fun hHeld => ?_);clear hK K
       try simp only [Act.put,lPt]
       refine tk (i:=11) (oi:=⟨some 68,_,_,_,_,_⟩) (v:=?_) rfl ?_ hHeld ?_
       rotate_left
       · intro w hSw;(try dsimp only at hSw);go_simp;(try with_reducible rfl)
       simp only [Act.put,lPt];refine wpAnyH_ready (rs:=[4,12]) (by kernel_rfl) (by simp) ?_;refine AllReadyH.cons (o:=⟨some 61,_,_,_,_,_⟩) rfl (fun K hK => ?_) (AllReadyH.cons (o:=⟨some 69,_,_,_,_,_⟩) rfl (fun K hK => ?_) AllReadyH.nil)
       ·
        skip
        rw [if_pos (by rfl)];have c18:=(BT5.out.cell 18).trans (set2_18 HC18.out);go_simp;refine hK.out _ _ (trivial) (fun hHeld => ?_);clear hK K
        try simp only [Act.put,lPt]
        refine wpAnyH_ready (rs:=[12]) (by kernel_rfl) (by simp) ?_;refine AllReadyH.cons (o:=⟨some 69,_,_,_,_,_⟩) rfl (fun K hK => ?_) AllReadyH.nil;rw [if_pos (by rfl)];go_simp;have BL:=zh (Blk.new w5 170 #[.pointer (some ⟨gn,0,none⟩),.int .i64 f,.int .i64 (i:Int),.int .i64 ch]);have fa:=(Fr.refl w5.heap.size [] w5).alloc (Nat.le_refl _) (.cells #[.pointer (some ⟨gn,0,none⟩),.int .i64 f,.int .i64 (i:Int),.int .i64 ch] 170);have RM:=zh (RM.out.cg0 (cg0 fa));have FRD:=zh (FRD.out.cg (cg0 fa) (fun h=>h));have G:=zh (G.out.trans (cgf NO fa));have HIN:=zh (HIN.out.fr0 fa);clear fa;refine hK.out _ _ (trivial) (fun hHeld => ?_);clear hK K
        try simp only [Act.put,lPt]
        refine wpAnyH_ready (rs:=[13]) (by kernel_rfl) (by simp) ?_;refine AllReadyH.cons (o:=⟨some 70,_,_,_,_,_⟩) rfl (fun K hK => ?_) AllReadyH.nil;refine step_appC _ (by rfl) (.tmp 61) (.tmp 69) outletTy (by rfl) _ Ls.length _ (by rfl) RM.out.row (w5.heap.size+1) (some ⟨w5.heap.size,0,none⟩) 1 1 (outF (gn,f,(i:Int),ch)) (by rfl) (Reads.of_blk (m:=1) (size:=4) BL.out rfl) (by simp [outF,Value.oneCell']) (by omega) (by omega) ?_;intro A9 c9 w8 hrow hap hgr;have ST6:=zh (RM.out.st.cg hap (by omega));have KR6:=zh (RM.out.kr.cg hap (by omega));have IM6:=zh (fun k gk mm (h1:gos2[k]?=some gk) (h2:Ls[k]?=some mm)=>(RM.out.om k gk mm h1 h2).cg hap (by omega));have HIN:=zh (HIN.out.cg hap (by omega));have FRD:=zh (FRD.out.cg hap (by omega));have G:=zh (G.out.trans (hap.mono (C':=NO) (fun _ h=>.inr (.inr h))));have GL:=zh RM.out.gl;generalize paint col5 _ 6=col8 at *;have ROW:=zh hrow;clear hrow hap hgr BL;refine hK.out _ _ (trivial) (fun hHeld => ?_);clear hK K
        try simp only [Act.put,lPt]
        refine tk (i:=14) (oi:=⟨some 71,_,_,_,_,_⟩) (v:=?_) rfl ?_ hHeld ?_
        rotate_left
        · intro w hSw;(try dsimp only at hSw);go_simp;(try with_reducible rfl)
        simp only [Act.put,lPt];refine tk (i:=15) (oi:=⟨some 72,_,_,_,_,_⟩) (v:=?_) rfl ?_ hHeld ?_
        rotate_left
        · intro w hSw;(try dsimp only at hSw);go_simp;(try with_reducible rfl)
        simp only [Act.put,lPt];refine wpAnyH_ready (rs:=[16]) (by kernel_rfl) (by simp) ?_;refine AllReadyH.cons (o:=⟨none,_,_,_,_,_⟩) rfl (fun K hK => ?_) AllReadyH.nil;rw [if_pos (by rfl)];have c18z:=(ST6.out.b.cell 18).trans (set2_18 HC18.out);have f18z:=ST6.out.b.frozen 18;have g18z:=ST6.out.b.lt;go_simp;have k1:Cg (· = 1) col8 w8 col8 (w8.setCell ⟨g,18,none⟩ (.slice A9 (Ls.length+1) c9)):=(Cg.refl _ _ _).set ST6.out.k _;have hln:(Ls ++ [(f,(i:Int),ch)]).length=Ls.length+1:=(by simp)
        have RMF := zh (by
         refine ⟨⟨?_,ST6.out.k⟩,KR6.out.cg k1 (by omega),by simp [GL.out],?_,fun k gk mm h1 h2 => ?_⟩
         · have:=ST6.out.b.set_ 18 (.slice A9 (Ls.length+1) c9);rw [Array.setIfInBounds_setIfInBounds] at this;rw [hln];exact this
         · have:=ROW.out.cg k1 (by omega);rw [hln,zip_snoc _ _ GL.out,List.flatMap_append];simpa using this
         ·
          rcases Nat.lt_or_ge k Ls.length with hk | hk
          · rw [List.getElem?_append_left (by rw [GL.out];exact hk)] at h1;rw [List.getElem?_append_left hk] at h2;exact (IM6.out k gk mm h1 h2).cg k1 (by omega)
          ·
           have hk2:k=Ls.length:=by
            have:=(List.getElem?_eq_some_iff.1 h2).1;simp at this;omega
           subst hk2;rw [<- GL.out,List.getElem?_append_right (Nat.le_refl _),Nat.sub_self] at h1;rw [List.getElem?_append_right (Nat.le_refl _),Nat.sub_self] at h2;injection h1 with h1
           injection h2 with h2
           rw [<- h1,<- h2]
           exact HIN.out.cg k1 (by omega):SendM col8 (w8.setCell ⟨g,18,none⟩ (.slice A9 (Ls.length+1) c9)) g cs inc ks2 (Ls ++ [(f,(i:Int),ch)]) A' c' A9 c9 (gos2 ++ [gn]))
        have FRD:=zh (FRD.out.cg k1 (by omega));have G:=zh (G.out.trans (k1.mono (C':=NO) (fun _ h=>.inl h)));clear k1 hln c18z f18z g18z;refine hK.out _ _ (trivial) (fun hHeld => ?_);clear hK K
        try simp only [Act.put]
        refine wpAnyH_done (by kernel_rfl) ?_ _;rw [<- HLS.out] at RMF;generalize w8.setCell _ _=w9 at *;clear hHeld ROW IM6 ST6 KR6 HIN GL;have hi30:i<=1000:=(by omega);go_wp2_with fail;go_roundg (pt - (i+1))
        case measure=>omega
        case rel=>exact ⟨i+1,hip,rfl,by go_num,col8,A9,c9,gos2 ++ [gn],RMF,FRD,G⟩
       ·
        skip
        rw [if_pos (by rfl)];go_simp;have BL:=zh (Blk.new w5 170 #[.pointer (some ⟨gn,0,none⟩),.int .i64 f,.int .i64 (i:Int),.int .i64 ch]);have fa:=(Fr.refl w5.heap.size [] w5).alloc (Nat.le_refl _) (.cells #[.pointer (some ⟨gn,0,none⟩),.int .i64 f,.int .i64 (i:Int),.int .i64 ch] 170);have RM:=zh (RM.out.cg0 (cg0 fa));have FRD:=zh (FRD.out.cg (cg0 fa) (fun h=>h));have G:=zh (G.out.trans (cgf NO fa));have HIN:=zh (HIN.out.fr0 fa);clear fa;refine hK.out _ _ (trivial) (fun hHeld => ?_);clear hK K
        try simp only [Act.put,lPt]
        refine wpAnyH_ready (rs:=[4]) (by kernel_rfl) (by simp) ?_;refine AllReadyH.cons (o:=⟨some 61,_,_,_,_,_⟩) rfl (fun K hK => ?_) AllReadyH.nil;rw [if_pos (by rfl)];have hg5:=BT5.out.lt;have c18:=(BT5.out.cell 18).trans (set2_18 HC18.out);go_simp;refine hK.out _ _ (trivial) (fun hHeld => ?_);clear hK K
        try simp only [Act.put,lPt]
        refine wpAnyH_ready (rs:=[13]) (by kernel_rfl) (by simp) ?_;refine AllReadyH.cons (o:=⟨some 70,_,_,_,_,_⟩) rfl (fun K hK => ?_) AllReadyH.nil;refine step_appC _ (by rfl) (.tmp 61) (.tmp 69) outletTy (by rfl) _ Ls.length _ (by rfl) RM.out.row (w5.heap.size+1) (some ⟨w5.heap.size,0,none⟩) 1 1 (outF (gn,f,(i:Int),ch)) (by rfl) (Reads.of_blk (m:=1) (size:=4) BL.out rfl) (by simp [outF,Value.oneCell']) (by omega) (by omega) ?_;intro A9 c9 w8 hrow hap hgr;have ST6:=zh (RM.out.st.cg hap (by omega));have KR6:=zh (RM.out.kr.cg hap (by omega));have IM6:=zh (fun k gk mm (h1:gos2[k]?=some gk) (h2:Ls[k]?=some mm)=>(RM.out.om k gk mm h1 h2).cg hap (by omega));have HIN:=zh (HIN.out.cg hap (by omega));have FRD:=zh (FRD.out.cg hap (by omega));have G:=zh (G.out.trans (hap.mono (C':=NO) (fun _ h=>.inr (.inr h))));have GL:=zh RM.out.gl;generalize paint col5 _ 6=col8 at *;have ROW:=zh hrow;clear hrow hap hgr BL;refine hK.out _ _ (trivial) (fun hHeld => ?_);clear hK K
        try simp only [Act.put,lPt]
        refine tk (i:=14) (oi:=⟨some 71,_,_,_,_,_⟩) (v:=?_) rfl ?_ hHeld ?_
        rotate_left
        · intro w hSw;(try dsimp only at hSw);go_simp;(try with_reducible rfl)
        simp only [Act.put,lPt];refine tk (i:=15) (oi:=⟨some 72,_,_,_,_,_⟩) (v:=?_) rfl ?_ hHeld ?_
        rotate_left
        · intro w hSw;(try dsimp only at hSw);go_simp;(try with_reducible rfl)
        simp only [Act.put,lPt];refine wpAnyH_ready (rs:=[16]) (by kernel_rfl) (by simp) ?_;refine AllReadyH.cons (o:=⟨none,_,_,_,_,_⟩) rfl (fun K hK => ?_) AllReadyH.nil;rw [if_pos (by rfl)];have c18z:=(ST6.out.b.cell 18).trans (set2_18 HC18.out);have f18z:=ST6.out.b.frozen 18;have g18z:=ST6.out.b.lt;go_simp;have k1:Cg (· = 1) col8 w8 col8 (w8.setCell ⟨g,18,none⟩ (.slice A9 (Ls.length+1) c9)):=(Cg.refl _ _ _).set ST6.out.k _;have hln:(Ls ++ [(f,(i:Int),ch)]).length=Ls.length+1:=(by simp)
        have RMF := zh (by
         refine ⟨⟨?_,ST6.out.k⟩,KR6.out.cg k1 (by omega),by simp [GL.out],?_,fun k gk mm h1 h2 => ?_⟩
         · have:=ST6.out.b.set_ 18 (.slice A9 (Ls.length+1) c9);rw [Array.setIfInBounds_setIfInBounds] at this;rw [hln];exact this
         · have:=ROW.out.cg k1 (by omega);rw [hln,zip_snoc _ _ GL.out,List.flatMap_append];simpa using this
         ·
          rcases Nat.lt_or_ge k Ls.length with hk | hk
          · rw [List.getElem?_append_left (by rw [GL.out];exact hk)] at h1;rw [List.getElem?_append_left hk] at h2;exact (IM6.out k gk mm h1 h2).cg k1 (by omega)
          ·
           have hk2:k=Ls.length:=by
            have:=(List.getElem?_eq_some_iff.1 h2).1;simp at this;omega
           subst hk2;rw [<- GL.out,List.getElem?_append_right (Nat.le_refl _),Nat.sub_self] at h1;rw [List.getElem?_append_right (Nat.le_refl _),Nat.sub_self] at h2;injection h1 with h1
           injection h2 with h2
           rw [<- h1,<- h2]
           exact HIN.out.cg k1 (by omega):SendM col8 (w8.setCell ⟨g,18,none⟩ (.slice A9 (Ls.length+1) c9)) g cs inc ks2 (Ls ++ [(f,(i:Int),ch)]) A' c' A9 c9 (gos2 ++ [gn]))
        have FRD:=zh (FRD.out.cg k1 (by omega));have G:=zh (G.out.trans (k1.mono (C':=NO) (fun _ h=>.inl h)));clear k1 hln c18z f18z g18z;refine hK.out _ _ (trivial) (fun hHeld => ?_);clear hK K
        try simp only [Act.put]
        refine wpAnyH_done (by kernel_rfl) ?_ _;rw [<- HLS.out] at RMF;generalize w8.setCell _ _=w9 at *;clear hHeld ROW IM6 ST6 KR6 HIN GL;have hi30:i<=1000:=(by omega);go_wp2_with fail;go_roundg (pt - (i+1))
        case measure=>omega
        case rel=>exact ⟨i+1,hip,rfl,by go_num,col8,A9,c9,gos2 ++ [gn],RMF,FRD,G⟩
     ·
      obtain rfl:i=pt:=by omega
      have hj30:j<=1000000:=(by omega);go_wp2_with fail;go_roundg (m - (j+1))
      case measure=>omega
      case rel=>exact ⟨j+1,hjm,rfl,by go_num,.inr ⟨_,rfl⟩,coli,ks2,A',c',oA2,oc2,gos2,HK2,by rw [HTK.out,HPT.out];exact RM,FRD,G⟩
   ·
    skip
    rw [if_pos (by rfl)];go_simp;have fa:=(Fr.refl w4.drew.heap.size [] w4.drew).alloc (Nat.le_refl _) (.cells (ndA x (.slice sA x.fr.length sc) (.slice tA x.pg.length tc)) 66);have BL:=zh (Blk.new w4.drew 66 (ndA x (.slice sA x.fr.length sc) (.slice tA x.pg.length tc)));have RM:=zh (RM.out.cg0 (cg0 fa));have FRD:=zh (FRD.out.cg (cg0 fa) (fun h=>h));have G:=zh (G.out.trans (cgf NO fa));have BPC:=zh (BPC.out.cg (cg0 fa) (fun h=>h));clear fa;refine hK.out _ _ (SF.out _ BPC.out.b) (fun hHeld => ?_);clear hK K
    try simp only [Act.put,lPt]
    refine wpAnyH_ready (rs:=[4]) (by kernel_rfl) (by simp) ?_;refine AllReadyH.cons (o:=⟨some 34,_,_,_,_,_⟩) rfl (fun K hK => ?_) AllReadyH.nil;rw [if_pos (by rfl)];go_simp;refine hK.out _ _ (SF.out _ BPC.out.b) (fun hHeld => ?_);clear hK K
    try simp only [Act.put,lPt]
    refine wpAnyH_ready (rs:=[7]) (by kernel_rfl) (by simp) ?_;refine AllReadyH.cons (o:=⟨some 37,_,_,_,_,_⟩) rfl (fun K hK => ?_) AllReadyH.nil;refine step_appC _ (by rfl) (.tmp 34) (.tmp 36) nodeTy (by rfl) _ ks.length _ (by rfl) RM.out.kr (w4.drew.heap.size+1) (some ⟨w4.drew.heap.size,0,none⟩) 1 1 (ndL (x,Value.slice sA x.fr.length sc,Value.slice tA x.pg.length tc)) (by rfl) (Reads.of_blk (m:=1) (size:=13) BL.out rfl) (by simp [ndL,Value.oneCell']) (by omega) (by omega) ?_;intro A' c' w6 hrow hap hgr;have ST6:=zh (RM.out.st.cg hap (by omega));have OM6:=zh (fun k gk mm (h1:gos[k]?=some gk) (h2:Lj[k]?=some mm)=>(RM.out.om k gk mm h1 h2).cg hap (by omega));have RW6:=zh (RM.out.row.cg hap (by omega));have FRD:=zh (FRD.out.cg hap (by omega));have G:=zh (G.out.trans (hap.mono (C':=NO) (fun _ h=>.inr (.inl h))));have BPC:=zh (BPC.out.cg hap (by omega));have GL:=zh RM.out.gl;generalize paint col4 _ 4=col6 at *;have ROW:=zh hrow;clear hrow hap hgr BL c16 hg4;refine hK.out _ _ (SF.out _ BPC.out.b) (fun hHeld => ?_);clear hK K
    try simp only [Act.put,lPt]
    refine tk (i:=8) (oi:=⟨some 38,_,_,_,_,_⟩) (v:=?_) rfl ?_ hHeld ?_
    rotate_left
    · intro w hSw;(try dsimp only at hSw);go_simp;(try with_reducible rfl)
    simp only [Act.put,lPt];refine tk (i:=9) (oi:=⟨some 39,_,_,_,_,_⟩) (v:=?_) rfl ?_ hHeld ?_
    rotate_left
    · intro w hSw;(try dsimp only at hSw);go_simp;(try with_reducible rfl)
    simp only [Act.put,lPt];refine wpAnyH_ready (rs:=[10]) (by kernel_rfl) (by simp) ?_;refine AllReadyH.cons (o:=⟨none,_,_,_,_,_⟩) rfl (fun K hK => ?_) AllReadyH.nil;rw [if_pos (by rfl)];have c16z:=(ST6.out.b.cell 16).trans (set2_16 HC16.out);have f16z:=ST6.out.b.frozen 16;have g16z:=ST6.out.b.lt;go_simp;have k1:Cg (· = 1) col6 w6 col6 (w6.setCell ⟨g,16,none⟩ (.slice A' (ks.length+1) c')):=(Cg.refl _ _ _).set ST6.out.k _;have hln:(ks ++ [(x,Value.slice sA x.fr.length sc,Value.slice tA x.pg.length tc)]).length=ks.length+1:=(by simp)
    have RMF := zh (by
     refine ⟨⟨?_,ST6.out.k⟩,?_,GL.out,RW6.out.cg k1 (by omega),fun k gk mm h1 h2=>(OM6.out k gk mm h1 h2).cg k1 (by omega)⟩
     · have:=ST6.out.b.set_ 16 (.slice A' (ks.length+1) c');rw [Array.setIfInBounds_comm _ _ (by decide),Array.setIfInBounds_setIfInBounds] at this;rw [hln];exact this
     ·
      have:=ROW.out.cg k1 (by omega);rw [hln,cellsN_app]
      simpa [cellsN] using this:SendM col6 (w6.setCell ⟨g,16,none⟩ (.slice A' (ks.length+1) c')) g cs inc (ks ++ [(x,Value.slice sA x.fr.length sc,Value.slice tA x.pg.length tc)]) Lj A' c' oA oc gos)
    have FRD:=zh (FRD.out.cg k1 (by omega));have G:=zh (G.out.trans (k1.mono (C':=NO) (fun _ h=>.inl h)));have BPC:=zh (BPC.out.cg k1 (by omega));clear k1 hln c16z f16z g16z;refine hK.out _ _ (SF.out _ BPC.out.b) (fun hHeld => ?_);clear hK K
    try simp only [Act.put]
    refine wpAnyH_done (by kernel_rfl) ?_ _;clear hHeld ROW OM6 ST6 RW6 GL
    have HK2 := zh (show KsOf (ks ++ [(x, Value.slice sA x.fr.length sc, Value.slice tA x.pg.length tc)]) ((C.take (j + 1)).filterMap (findN (fstN M))) from ⟨by rw [HTF.out, List.map_append, HK.out.m]; rfl, fun y hy => by
      rcases List.mem_append.1 hy with h | h
      · exact HK.out.s y h
      ·
       obtain rfl:=List.mem_singleton.1 h
       exact ⟨⟨sA,sc,rfl⟩,⟨tA,tc,rfl⟩⟩⟩)
    generalize ks ++ [(x,Value.slice sA x.fr.length sc,Value.slice tA x.pg.length tc)]=ks2 at *;generalize w6.setCell _ _=w7 at *;have q4:=BPC.out.b.cell 4;replace q4:w7.cell? ⟨gp,4,none⟩=some (.int .i64 x.par):=q4;obtain ⟨pt,hpt⟩:∃ pt:Nat,(pt:Int)=x.par:=⟨x.par.toNat,by omega⟩;have HPT:=zh (show x.par.toNat=pt by omega);rw [<- hpt] at q4;have hpt3:pt<=3:=(by omega);clear hpt BPC SF;go_upto_region 6 with fail;go_loopg [42] pt (fun q s42 wi=>∃ i:Nat,i<=pt/\q=pt - i/\s42=.int .i64 i/\∃ coli oA2 oc2 gos2,Hid (SendM coli wi g cs inc ks2 (Lj ++ goes f nd.id ix i) A' c' oA2 oc2 gos2)/\Hid (CRd coli 9 wi 1 (some ⟨b,off,none⟩) m (C.map (Value.int .i64)))/\Hid (Cg NO col w coli wi))
    case atStart=>exact ⟨0,Nat.zero_le _,rfl,rfl,col6,oA,oc,gos,by simpa [goes] using RMF,FRD,G⟩
    case round =>
     clear RMF FRD G q4;obtain ⟨i,hi,rfl,rfl,coli,oA2,oc2,gos2,RM,FRD,G⟩:=hrel
     by_cases hip:i < pt
     ·
      have hii:(i:Int) < (pt:Int):=by omega
      obtain ⟨ch,hch⟩:=nm (chanN nd.id ix f (i:Int));have HCA:=zh (by rw [hch];exact channel_any nd.id ix f (i:Int) (by omega) (by omega) (by omega) (by omega):∀ W,Calls Tryz.prog 38 #[.int .i64 nd.id,.int .i64 ix,.int .i64 f,.int .i64 (i:Int)] W fun e w'=>e=.returned (.int .i64 ch)/\w'=W);obtain ⟨Ls,hLs⟩:=nm (Lj ++ goes f nd.id ix i);rw [<- hLs] at RM;have HLS:=zh (show Lj ++ goes f nd.id ix (i+1)=Ls ++ [(f,(i:Int),ch)] by rw [goes_snoc,<- List.append_assoc,<- hLs,<- hch])
      have hll:Ls.length<=1000000:=by
       rw [hLs,List.length_append];have h1:(goes f nd.id ix i).length=i:=(by simp [goes]);have h2:=HLL.out;omega
      clear hch hLs;have SF:=zh (⟨(RM.out.st.b.cell 2).trans (set2_ne HC2.out (by decide) (by decide)),(RM.out.st.b.cell 15).trans (set2_ne HC15.out (by decide) (by decide))⟩:wr.cell? ⟨g,2,none⟩=some (.int .i64 nd.id)/\wr.cell? ⟨g,15,none⟩=some (.int .i64 ix));go_upto_region 8 with fail;refine wp_region_held_drew (S:=fun W=>W.cell? ⟨g,2,none⟩=some (.int .i64 nd.id)/\W.cell? ⟨g,15,none⟩=some (.int .i64 ix)) (by kernel_rfl) (SF.out) (fun hHeld => ?_);refine tk (i:=0) (oi:=⟨some 45,_,_,_,_,_⟩) (v:=?_) rfl ?_ hHeld ?_
      rotate_left
      · intro w hSw;(try dsimp only at hSw);go_simp;(try with_reducible rfl)
      simp only [Act.put,lPt];refine tk (i:=1) (oi:=⟨some 46,_,_,_,_,_⟩) (v:=?_) rfl ?_ hHeld ?_
      rotate_left
      · intro w hSw;(try dsimp only at hSw);go_simp;(try with_reducible rfl)
      simp only [Act.put,lPt];refine tk (i:=2) (oi:=⟨some 47,_,_,_,_,_⟩) (v:=?_) rfl ?_ hHeld ?_
      rotate_left
      · intro w hSw;(try dsimp only at hSw);go_simp;(try with_reducible rfl)
      simp only [Act.put,lPt];refine tk (i:=3) (oi:=⟨some 48,_,_,_,_,_⟩) (v:=?_) rfl ?_ hHeld ?_
      rotate_left
      · intro w hSw;(try dsimp only at hSw);go_simp;(try with_reducible rfl)
      simp only [Act.put,lPt];refine tk (i:=4) (oi:=⟨some 49,_,_,_,_,_⟩) (v:=?_) rfl ?_ hHeld ?_
      rotate_left
      · intro w hSw;(try dsimp only at hSw);go_simp;(try with_reducible rfl)
      simp only [Act.put,lPt];refine tk (i:=5) (oi:=⟨some 50,_,_,_,_,_⟩) (v:=?_) rfl ?_ hHeld ?_
      rotate_left
      · intro w hSw;(try dsimp only at hSw);go_simp;(try with_reducible rfl)
      simp only [Act.put,lPt];refine tk (i:=6) (oi:=⟨some 51,_,_,_,_,_⟩) (v:=?_) rfl ?_ hHeld ?_
      rotate_left
      · intro w hSw;(try dsimp only at hSw);go_simp;(try with_reducible rfl)
      simp only [Act.put,lPt];refine tk (i:=7) (oi:=⟨some 52,_,_,_,_,_⟩) (v:=?_) rfl ?_ hHeld ?_
      rotate_left
      · intro w hSw;(try dsimp only at hSw);go_simp;(try with_reducible rfl)
      simp only [Act.put,lPt];refine tk (i:=8) (oi:=⟨some 53,_,_,_,_,_⟩) (v:=?_) rfl ?_ hHeld ?_
      rotate_left
      · intro w hSw;(try dsimp only at hSw);go_simp;(try with_reducible rfl)
      simp only [Act.put,lPt];refine tk (i:=9) (oi:=⟨some 54,_,_,_,_,_⟩) (v:=?_) rfl ?_ hHeld ?_
      rotate_left
      · intro w hSw;(try dsimp only at hSw);go_simp;(try with_reducible rfl)
      simp only [Act.put,lPt];refine tk (i:=10) (oi:=⟨some 55,_,_,_,_,_⟩) (v:=?_) rfl ?_ hHeld ?_
      rotate_left
      · intro w hSw;(try dsimp only at hSw);go_simp;(try with_reducible rfl)
      simp only [Act.put,lPt];refine wpAnyH_ready (rs:=[11]) (by kernel_rfl) (by simp) ?_;refine AllReadyH.cons (o:=⟨some 56,_,_,_,_,_⟩) rfl (fun K hK => ?_) AllReadyH.nil;rw [if_pos (by rfl)];go_simp;refine (HCA.out _).mono ?_;rintro e w' ⟨rfl,rfl⟩;refine hK.out _ _ (SF.out) (fun hHeld => ?_);clear hK K
      try simp only [Act.put,lPt]
      refine tk (i:=12) (oi:=⟨some 11,_,_,_,_,_⟩) (v:=?_) rfl ?_ hHeld ?_
      rotate_left
      · intro w hSw;(try dsimp only at hSw);go_simp;(try with_reducible rfl)
      simp only [Act.put,lPt];refine wpAnyH_done (by kernel_rfl) ?_ _
      skip
      go_upto_region 9 with fail;replace RM:=zh (RM.out.cg0 ((Cg.refl _ _ _).drew));replace FRD:=zh (FRD.out.cg (C:=fun _=>False) ((Cg.refl _ _ _).drew) (fun h=>h));replace G:=zh G.out.drew;clear SF hHeld;generalize wr.drew=wd at *;have c18:wd.cell? ⟨g,18,none⟩=some (.slice oA2 Ls.length oc2):=(RM.out.st.b.cell 18).trans (set2_18 HC18.out);have RM:=zh (RM.out.cg0 ((Cg.refl _ _ _).drew));have FRD:=zh (FRD.out.cg (C:=fun _=>False) ((Cg.refl _ _ _).drew) (fun h=>h));have G:=zh G.out.drew;refine wp_region_held_drew (S:=fun _=>True) (by kernel_rfl) (trivial) (fun hHeld => ?_);refine tk (i:=0) (oi:=⟨some 57,_,_,_,_,_⟩) (v:=?_) rfl ?_ hHeld ?_
      rotate_left
      · intro w hSw;(try dsimp only at hSw);go_simp;(try with_reducible rfl)
      simp only [Act.put,lPt];refine tk (i:=1) (oi:=⟨some 58,_,_,_,_,_⟩) (v:=?_) rfl ?_ hHeld ?_
      rotate_left
      · intro w hSw;(try dsimp only at hSw);go_simp;(try with_reducible rfl)
      simp only [Act.put,lPt];refine tk (i:=2) (oi:=⟨some 59,_,_,_,_,_⟩) (v:=?_) rfl ?_ hHeld ?_
      rotate_left
      · intro w hSw;(try dsimp only at hSw);go_simp;(try with_reducible rfl)
      simp only [Act.put,lPt];refine tk (i:=3) (oi:=⟨some 60,_,_,_,_,_⟩) (v:=?_) rfl ?_ hHeld ?_
      rotate_left
      · intro w hSw;(try dsimp only at hSw);go_simp;(try with_reducible rfl)
      simp only [Act.put,lPt];refine tk (i:=5) (oi:=⟨some 62,_,_,_,_,_⟩) (v:=?_) rfl ?_ hHeld ?_
      rotate_left
      · intro w hSw;(try dsimp only at hSw);go_simp;(try with_reducible rfl)
      simp only [Act.put,lPt];refine tk (i:=6) (oi:=⟨some 63,_,_,_,_,_⟩) (v:=?_) rfl ?_ hHeld ?_
      rotate_left
      · intro w hSw;(try dsimp only at hSw);go_simp;(try with_reducible rfl)
      simp only [Act.put,lPt];refine tk (i:=8) (oi:=⟨some 65,_,_,_,_,_⟩) (v:=?_) rfl ?_ hHeld ?_
      rotate_left
      · intro w hSw;(try dsimp only at hSw);go_simp;(try with_reducible rfl)
      simp only [Act.put,lPt];refine tk (i:=9) (oi:=⟨some 66,_,_,_,_,_⟩) (v:=?_) rfl ?_ hHeld ?_
      rotate_left
      · intro w hSw;(try dsimp only at hSw);go_simp;(try with_reducible rfl)
      simp only [Act.put,lPt];refine tk (i:=10) (oi:=⟨some 67,_,_,_,_,_⟩) (v:=?_) rfl ?_ hHeld ?_
      rotate_left
      · intro w hSw;(try dsimp only at hSw);go_simp;(try with_reducible rfl)
      simp only [Act.put,lPt];refine wpAnyH_ready (rs:=[4,7]) (by kernel_rfl) (by simp) ?_;refine AllReadyH.cons (o:=⟨some 61,_,_,_,_,_⟩) rfl (fun K hK => ?_) (AllReadyH.cons (o:=⟨some 64,_,_,_,_,_⟩) rfl (fun K hK => ?_) AllReadyH.nil)
      ·
       skip
       rw [if_pos (by rfl)];go_simp;refine hK.out _ _ (trivial) (fun hHeld => ?_);clear hK K
       try simp only [Act.put,lPt]
       refine wpAnyH_ready (rs:=[7]) (by kernel_rfl) (by simp) ?_;refine AllReadyH.cons (o:=⟨some 64,_,_,_,_,_⟩) rfl (fun K hK => ?_) AllReadyH.nil;rw [if_pos (by rfl)];go_simp;refine (newOut_any _ _ _).mono ?_;rintro e w5 ⟨rfl,f5,hin⟩;have k5:=(cg0 (col:=coli) f5).paint (21+2 * Ls.length);have RM:=zh (RM.out.cg0 k5);have FRD:=zh (FRD.out.cg k5 (fun h=>h));have G:=zh (G.out.trans (k5.mono (C':=NO) (fun _ h=>h.elim)));have HIN:=zh (hin coli (21+2 * Ls.length));have BT5:=zh RM.out.st.b;clear f5 hin k5;generalize paint coli _ _=col5 at *;obtain ⟨gn,hgn⟩:=nm (wd.drew.heap.size);rw [<- hgn] at HIN ⊢;clear hgn;refine hK.out _ _ (trivial) (fun hHeld => ?_);clear hK K
       try simp only [Act.put,lPt]
       refine tk (i:=11) (oi:=⟨some 68,_,_,_,_,_⟩) (v:=?_) rfl ?_ hHeld ?_
       rotate_left
       · intro w hSw;(try dsimp only at hSw);go_simp;(try with_reducible rfl)
       simp only [Act.put,lPt];refine wpAnyH_ready (rs:=[12]) (by kernel_rfl) (by simp) ?_;refine AllReadyH.cons (o:=⟨some 69,_,_,_,_,_⟩) rfl (fun K hK => ?_) AllReadyH.nil;rw [if_pos (by rfl)];go_simp;have BL:=zh (Blk.new w5 170 #[.pointer (some ⟨gn,0,none⟩),.int .i64 f,.int .i64 (i:Int),.int .i64 ch]);have fa:=(Fr.refl w5.heap.size [] w5).alloc (Nat.le_refl _) (.cells #[.pointer (some ⟨gn,0,none⟩),.int .i64 f,.int .i64 (i:Int),.int .i64 ch] 170);have RM:=zh (RM.out.cg0 (cg0 fa));have FRD:=zh (FRD.out.cg (cg0 fa) (fun h=>h));have G:=zh (G.out.trans (cgf NO fa));have HIN:=zh (HIN.out.fr0 fa);clear fa;refine hK.out _ _ (trivial) (fun hHeld => ?_);clear hK K
       try simp only [Act.put,lPt]
       refine wpAnyH_ready (rs:=[13]) (by kernel_rfl) (by simp) ?_;refine AllReadyH.cons (o:=⟨some 70,_,_,_,_,_⟩) rfl (fun K hK => ?_) AllReadyH.nil;refine step_appC _ (by rfl) (.tmp 61) (.tmp 69) outletTy (by rfl) _ Ls.length _ (by rfl) RM.out.row (w5.heap.size+1) (some ⟨w5.heap.size,0,none⟩) 1 1 (outF (gn,f,(i:Int),ch)) (by rfl) (Reads.of_blk (m:=1) (size:=4) BL.out rfl) (by simp [outF,Value.oneCell']) (by omega) (by omega) ?_;intro A9 c9 w8 hrow hap hgr;have ST6:=zh (RM.out.st.cg hap (by omega));have KR6:=zh (RM.out.kr.cg hap (by omega));have IM6:=zh (fun k gk mm (h1:gos2[k]?=some gk) (h2:Ls[k]?=some mm)=>(RM.out.om k gk mm h1 h2).cg hap (by omega));have HIN:=zh (HIN.out.cg hap (by omega));have FRD:=zh (FRD.out.cg hap (by omega));have G:=zh (G.out.trans (hap.mono (C':=NO) (fun _ h=>.inr (.inr h))));have GL:=zh RM.out.gl;generalize paint col5 _ 6=col8 at *;have ROW:=zh hrow;clear hrow hap hgr BL;refine hK.out _ _ (trivial) (fun hHeld => ?_);clear hK K
       try simp only [Act.put,lPt]
       refine tk (i:=14) (oi:=⟨some 71,_,_,_,_,_⟩) (v:=?_) rfl ?_ hHeld ?_
       rotate_left
       · intro w hSw;(try dsimp only at hSw);go_simp;(try with_reducible rfl)
       simp only [Act.put,lPt];refine tk (i:=15) (oi:=⟨some 72,_,_,_,_,_⟩) (v:=?_) rfl ?_ hHeld ?_
       rotate_left
       · intro w hSw;(try dsimp only at hSw);go_simp;(try with_reducible rfl)
       simp only [Act.put,lPt];refine wpAnyH_ready (rs:=[16]) (by kernel_rfl) (by simp) ?_;refine AllReadyH.cons (o:=⟨none,_,_,_,_,_⟩) rfl (fun K hK => ?_) AllReadyH.nil;rw [if_pos (by rfl)];have c18z:=(ST6.out.b.cell 18).trans (set2_18 HC18.out);have f18z:=ST6.out.b.frozen 18;have g18z:=ST6.out.b.lt;go_simp;have k1:Cg (· = 1) col8 w8 col8 (w8.setCell ⟨g,18,none⟩ (.slice A9 (Ls.length+1) c9)):=(Cg.refl _ _ _).set ST6.out.k _;have hln:(Ls ++ [(f,(i:Int),ch)]).length=Ls.length+1:=(by simp)
       have RMF := zh (by
        refine ⟨⟨?_,ST6.out.k⟩,KR6.out.cg k1 (by omega),by simp [GL.out],?_,fun k gk mm h1 h2 => ?_⟩
        · have:=ST6.out.b.set_ 18 (.slice A9 (Ls.length+1) c9);rw [Array.setIfInBounds_setIfInBounds] at this;rw [hln];exact this
        · have:=ROW.out.cg k1 (by omega);rw [hln,zip_snoc _ _ GL.out,List.flatMap_append];simpa using this
        ·
         rcases Nat.lt_or_ge k Ls.length with hk | hk
         · rw [List.getElem?_append_left (by rw [GL.out];exact hk)] at h1;rw [List.getElem?_append_left hk] at h2;exact (IM6.out k gk mm h1 h2).cg k1 (by omega)
         ·
          have hk2:k=Ls.length:=by
           have:=(List.getElem?_eq_some_iff.1 h2).1;simp at this;omega
          subst hk2;rw [<- GL.out,List.getElem?_append_right (Nat.le_refl _),Nat.sub_self] at h1;rw [List.getElem?_append_right (Nat.le_refl _),Nat.sub_self] at h2;injection h1 with h1
          injection h2 with h2
          rw [<- h1,<- h2]
          exact HIN.out.cg k1 (by omega):SendM col8 (w8.setCell ⟨g,18,none⟩ (.slice A9 (Ls.length+1) c9)) g cs inc ks2 (Ls ++ [(f,(i:Int),ch)]) A' c' A9 c9 (gos2 ++ [gn]))
       have FRD:=zh (FRD.out.cg k1 (by omega));have G:=zh (G.out.trans (k1.mono (C':=NO) (fun _ h=>.inl h)));clear k1 hln c18z f18z g18z;refine hK.out _ _ (trivial) (fun hHeld => ?_);clear hK K
       try simp only [Act.put]
       refine wpAnyH_done (by kernel_rfl) ?_ _;rw [<- HLS.out] at RMF;generalize w8.setCell _ _=w9 at *;clear hHeld ROW IM6 ST6 KR6 HIN GL;have hi30:i<=1000:=(by omega);go_wp2_with fail;go_roundg (pt - (i+1))
       case measure=>omega
       case rel=>exact ⟨i+1,hip,rfl,by go_num,col8,A9,c9,gos2 ++ [gn],RMF,FRD,G⟩
      ·
       skip
       rw [if_pos (by rfl)];go_simp;refine (newOut_any _ _ _).mono ?_;rintro e w5 ⟨rfl,f5,hin⟩;have k5:=(cg0 (col:=coli) f5).paint (21+2 * Ls.length);have RM:=zh (RM.out.cg0 k5);have FRD:=zh (FRD.out.cg k5 (fun h=>h));have G:=zh (G.out.trans (k5.mono (C':=NO) (fun _ h=>h.elim)));have HIN:=zh (hin coli (21+2 * Ls.length));have BT5:=zh RM.out.st.b;clear f5 hin k5;generalize paint coli _ _=col5 at *;obtain ⟨gn,hgn⟩:=nm (wd.drew.heap.size);rw [<- hgn] at HIN ⊢;clear hgn;refine hK.out _ _ (trivial) (fun hHeld => ?_);clear hK K
       try simp only [Act.put,lPt]
       refine tk (i:=11) (oi:=⟨some 68,_,_,_,_,_⟩) (v:=?_) rfl ?_ hHeld ?_
       rotate_left
       · intro w hSw;(try dsimp only at hSw);go_simp;(try with_reducible rfl)
       simp only [Act.put,lPt];refine wpAnyH_ready (rs:=[4,12]) (by kernel_rfl) (by simp) ?_;refine AllReadyH.cons (o:=⟨some 61,_,_,_,_,_⟩) rfl (fun K hK => ?_) (AllReadyH.cons (o:=⟨some 69,_,_,_,_,_⟩) rfl (fun K hK => ?_) AllReadyH.nil)
       ·
        skip
        rw [if_pos (by rfl)];have c18:=(BT5.out.cell 18).trans (set2_18 HC18.out);go_simp;refine hK.out _ _ (trivial) (fun hHeld => ?_);clear hK K
        try simp only [Act.put,lPt]
        refine wpAnyH_ready (rs:=[12]) (by kernel_rfl) (by simp) ?_;refine AllReadyH.cons (o:=⟨some 69,_,_,_,_,_⟩) rfl (fun K hK => ?_) AllReadyH.nil;rw [if_pos (by rfl)];go_simp;have BL:=zh (Blk.new w5 170 #[.pointer (some ⟨gn,0,none⟩),.int .i64 f,.int .i64 (i:Int),.int .i64 ch]);have fa:=(Fr.refl w5.heap.size [] w5).alloc (Nat.le_refl _) (.cells #[.pointer (some ⟨gn,0,none⟩),.int .i64 f,.int .i64 (i:Int),.int .i64 ch] 170);have RM:=zh (RM.out.cg0 (cg0 fa));have FRD:=zh (FRD.out.cg (cg0 fa) (fun h=>h));have G:=zh (G.out.trans (cgf NO fa));have HIN:=zh (HIN.out.fr0 fa);clear fa;refine hK.out _ _ (trivial) (fun hHeld => ?_);clear hK K
        try simp only [Act.put,lPt]
        refine wpAnyH_ready (rs:=[13]) (by kernel_rfl) (by simp) ?_;refine AllReadyH.cons (o:=⟨some 70,_,_,_,_,_⟩) rfl (fun K hK => ?_) AllReadyH.nil;refine step_appC _ (by rfl) (.tmp 61) (.tmp 69) outletTy (by rfl) _ Ls.length _ (by rfl) RM.out.row (w5.heap.size+1) (some ⟨w5.heap.size,0,none⟩) 1 1 (outF (gn,f,(i:Int),ch)) (by rfl) (Reads.of_blk (m:=1) (size:=4) BL.out rfl) (by simp [outF,Value.oneCell']) (by omega) (by omega) ?_;intro A9 c9 w8 hrow hap hgr;have ST6:=zh (RM.out.st.cg hap (by omega));have KR6:=zh (RM.out.kr.cg hap (by omega));have IM6:=zh (fun k gk mm (h1:gos2[k]?=some gk) (h2:Ls[k]?=some mm)=>(RM.out.om k gk mm h1 h2).cg hap (by omega));have HIN:=zh (HIN.out.cg hap (by omega));have FRD:=zh (FRD.out.cg hap (by omega));have G:=zh (G.out.trans (hap.mono (C':=NO) (fun _ h=>.inr (.inr h))));have GL:=zh RM.out.gl;generalize paint col5 _ 6=col8 at *;have ROW:=zh hrow;clear hrow hap hgr BL;refine hK.out _ _ (trivial) (fun hHeld => ?_);clear hK K
        try simp only [Act.put,lPt]
        refine tk (i:=14) (oi:=⟨some 71,_,_,_,_,_⟩) (v:=?_) rfl ?_ hHeld ?_
        rotate_left
        · intro w hSw;(try dsimp only at hSw);go_simp;(try with_reducible rfl)
        simp only [Act.put,lPt];refine tk (i:=15) (oi:=⟨some 72,_,_,_,_,_⟩) (v:=?_) rfl ?_ hHeld ?_
        rotate_left
        · intro w hSw;(try dsimp only at hSw);go_simp;(try with_reducible rfl)
        simp only [Act.put,lPt];refine wpAnyH_ready (rs:=[16]) (by kernel_rfl) (by simp) ?_;refine AllReadyH.cons (o:=⟨none,_,_,_,_,_⟩) rfl (fun K hK => ?_) AllReadyH.nil;rw [if_pos (by rfl)];have c18z:=(ST6.out.b.cell 18).trans (set2_18 HC18.out);have f18z:=ST6.out.b.frozen 18;have g18z:=ST6.out.b.lt;go_simp;have k1:Cg (· = 1) col8 w8 col8 (w8.setCell ⟨g,18,none⟩ (.slice A9 (Ls.length+1) c9)):=(Cg.refl _ _ _).set ST6.out.k _;have hln:(Ls ++ [(f,(i:Int),ch)]).length=Ls.length+1:=(by simp)
        have RMF := zh (by
         refine ⟨⟨?_,ST6.out.k⟩,KR6.out.cg k1 (by omega),by simp [GL.out],?_,fun k gk mm h1 h2 => ?_⟩
         · have:=ST6.out.b.set_ 18 (.slice A9 (Ls.length+1) c9);rw [Array.setIfInBounds_setIfInBounds] at this;rw [hln];exact this
         · have:=ROW.out.cg k1 (by omega);rw [hln,zip_snoc _ _ GL.out,List.flatMap_append];simpa using this
         ·
          rcases Nat.lt_or_ge k Ls.length with hk | hk
          · rw [List.getElem?_append_left (by rw [GL.out];exact hk)] at h1;rw [List.getElem?_append_left hk] at h2;exact (IM6.out k gk mm h1 h2).cg k1 (by omega)
          ·
           have hk2:k=Ls.length:=by
            have:=(List.getElem?_eq_some_iff.1 h2).1;simp at this;omega
           subst hk2;rw [<- GL.out,List.getElem?_append_right (Nat.le_refl _),Nat.sub_self] at h1;rw [List.getElem?_append_right (Nat.le_refl _),Nat.sub_self] at h2;injection h1 with h1
           injection h2 with h2
           rw [<- h1,<- h2]
           exact HIN.out.cg k1 (by omega):SendM col8 (w8.setCell ⟨g,18,none⟩ (.slice A9 (Ls.length+1) c9)) g cs inc ks2 (Ls ++ [(f,(i:Int),ch)]) A' c' A9 c9 (gos2 ++ [gn]))
        have FRD:=zh (FRD.out.cg k1 (by omega));have G:=zh (G.out.trans (k1.mono (C':=NO) (fun _ h=>.inl h)));clear k1 hln c18z f18z g18z;refine hK.out _ _ (trivial) (fun hHeld => ?_);clear hK K
        try simp only [Act.put]
        refine wpAnyH_done (by kernel_rfl) ?_ _;rw [<- HLS.out] at RMF;generalize w8.setCell _ _=w9 at *;clear hHeld ROW IM6 ST6 KR6 HIN GL;have hi30:i<=1000:=(by omega);go_wp2_with fail;go_roundg (pt - (i+1))
        case measure=>omega
        case rel=>exact ⟨i+1,hip,rfl,by go_num,col8,A9,c9,gos2 ++ [gn],RMF,FRD,G⟩
       ·
        skip
        rw [if_pos (by rfl)];go_simp;have BL:=zh (Blk.new w5 170 #[.pointer (some ⟨gn,0,none⟩),.int .i64 f,.int .i64 (i:Int),.int .i64 ch]);have fa:=(Fr.refl w5.heap.size [] w5).alloc (Nat.le_refl _) (.cells #[.pointer (some ⟨gn,0,none⟩),.int .i64 f,.int .i64 (i:Int),.int .i64 ch] 170);have RM:=zh (RM.out.cg0 (cg0 fa));have FRD:=zh (FRD.out.cg (cg0 fa) (fun h=>h));have G:=zh (G.out.trans (cgf NO fa));have HIN:=zh (HIN.out.fr0 fa);clear fa;refine hK.out _ _ (trivial) (fun hHeld => ?_);clear hK K
        try simp only [Act.put,lPt]
        refine wpAnyH_ready (rs:=[4]) (by kernel_rfl) (by simp) ?_;refine AllReadyH.cons (o:=⟨some 61,_,_,_,_,_⟩) rfl (fun K hK => ?_) AllReadyH.nil;rw [if_pos (by rfl)];have hg5:=BT5.out.lt;have c18:=(BT5.out.cell 18).trans (set2_18 HC18.out);go_simp;refine hK.out _ _ (trivial) (fun hHeld => ?_);clear hK K
        try simp only [Act.put,lPt]
        refine wpAnyH_ready (rs:=[13]) (by kernel_rfl) (by simp) ?_;refine AllReadyH.cons (o:=⟨some 70,_,_,_,_,_⟩) rfl (fun K hK => ?_) AllReadyH.nil;refine step_appC _ (by rfl) (.tmp 61) (.tmp 69) outletTy (by rfl) _ Ls.length _ (by rfl) RM.out.row (w5.heap.size+1) (some ⟨w5.heap.size,0,none⟩) 1 1 (outF (gn,f,(i:Int),ch)) (by rfl) (Reads.of_blk (m:=1) (size:=4) BL.out rfl) (by simp [outF,Value.oneCell']) (by omega) (by omega) ?_;intro A9 c9 w8 hrow hap hgr;have ST6:=zh (RM.out.st.cg hap (by omega));have KR6:=zh (RM.out.kr.cg hap (by omega));have IM6:=zh (fun k gk mm (h1:gos2[k]?=some gk) (h2:Ls[k]?=some mm)=>(RM.out.om k gk mm h1 h2).cg hap (by omega));have HIN:=zh (HIN.out.cg hap (by omega));have FRD:=zh (FRD.out.cg hap (by omega));have G:=zh (G.out.trans (hap.mono (C':=NO) (fun _ h=>.inr (.inr h))));have GL:=zh RM.out.gl;generalize paint col5 _ 6=col8 at *;have ROW:=zh hrow;clear hrow hap hgr BL;refine hK.out _ _ (trivial) (fun hHeld => ?_);clear hK K
        try simp only [Act.put,lPt]
        refine tk (i:=14) (oi:=⟨some 71,_,_,_,_,_⟩) (v:=?_) rfl ?_ hHeld ?_
        rotate_left
        · intro w hSw;(try dsimp only at hSw);go_simp;(try with_reducible rfl)
        simp only [Act.put,lPt];refine tk (i:=15) (oi:=⟨some 72,_,_,_,_,_⟩) (v:=?_) rfl ?_ hHeld ?_
        rotate_left
        · intro w hSw;(try dsimp only at hSw);go_simp;(try with_reducible rfl)
        simp only [Act.put,lPt];refine wpAnyH_ready (rs:=[16]) (by kernel_rfl) (by simp) ?_;refine AllReadyH.cons (o:=⟨none,_,_,_,_,_⟩) rfl (fun K hK => ?_) AllReadyH.nil;rw [if_pos (by rfl)];have c18z:=(ST6.out.b.cell 18).trans (set2_18 HC18.out);have f18z:=ST6.out.b.frozen 18;have g18z:=ST6.out.b.lt;go_simp;have k1:Cg (· = 1) col8 w8 col8 (w8.setCell ⟨g,18,none⟩ (.slice A9 (Ls.length+1) c9)):=(Cg.refl _ _ _).set ST6.out.k _;have hln:(Ls ++ [(f,(i:Int),ch)]).length=Ls.length+1:=(by simp)
        have RMF := zh (by
         refine ⟨⟨?_,ST6.out.k⟩,KR6.out.cg k1 (by omega),by simp [GL.out],?_,fun k gk mm h1 h2 => ?_⟩
         · have:=ST6.out.b.set_ 18 (.slice A9 (Ls.length+1) c9);rw [Array.setIfInBounds_setIfInBounds] at this;rw [hln];exact this
         · have:=ROW.out.cg k1 (by omega);rw [hln,zip_snoc _ _ GL.out,List.flatMap_append];simpa using this
         ·
          rcases Nat.lt_or_ge k Ls.length with hk | hk
          · rw [List.getElem?_append_left (by rw [GL.out];exact hk)] at h1;rw [List.getElem?_append_left hk] at h2;exact (IM6.out k gk mm h1 h2).cg k1 (by omega)
          ·
           have hk2:k=Ls.length:=by
            have:=(List.getElem?_eq_some_iff.1 h2).1;simp at this;omega
           subst hk2;rw [<- GL.out,List.getElem?_append_right (Nat.le_refl _),Nat.sub_self] at h1;rw [List.getElem?_append_right (Nat.le_refl _),Nat.sub_self] at h2;injection h1 with h1
           injection h2 with h2
           rw [<- h1,<- h2]
           exact HIN.out.cg k1 (by omega):SendM col8 (w8.setCell ⟨g,18,none⟩ (.slice A9 (Ls.length+1) c9)) g cs inc ks2 (Ls ++ [(f,(i:Int),ch)]) A' c' A9 c9 (gos2 ++ [gn]))
        have FRD:=zh (FRD.out.cg k1 (by omega));have G:=zh (G.out.trans (k1.mono (C':=NO) (fun _ h=>.inl h)));clear k1 hln c18z f18z g18z;refine hK.out _ _ (trivial) (fun hHeld => ?_);clear hK K
        try simp only [Act.put]
        refine wpAnyH_done (by kernel_rfl) ?_ _;rw [<- HLS.out] at RMF;generalize w8.setCell _ _=w9 at *;clear hHeld ROW IM6 ST6 KR6 HIN GL;have hi30:i<=1000:=(by omega);go_wp2_with fail;go_roundg (pt - (i+1))
        case measure=>omega
        case rel=>exact ⟨i+1,hip,rfl,by go_num,col8,A9,c9,gos2 ++ [gn],RMF,FRD,G⟩
     ·
      obtain rfl:i=pt:=by omega
      have hj30:j<=1000000:=(by omega);go_wp2_with fail;go_roundg (m - (j+1))
      case measure=>omega
      case rel=>exact ⟨j+1,hjm,rfl,by go_num,.inr ⟨_,rfl⟩,coli,ks2,A',c',oA2,oc2,gos2,HK2,by rw [HTK.out,HPT.out];exact RM,FRD,G⟩
  ·
   obtain rfl:j=m:=by omega
   go_wp2_with fail;refine bodyPost_end (results_none rfl _ _ _) rfl ⟨colr,ks,kA,kc,oA,oc,gos,rfl,?_,?_,G2.out⟩
   · have h1:=HK.out;rw [List.take_of_length_le (by rw [<- HMM.out];exact Nat.le_refl _),HCC.out] at h1;exact h1
   · have h1:=RM.out;rw [List.take_of_length_le (by rw [<- HMM.out];exact Nat.le_refl _),HCC.out] at h1;exact h1
def task0 (L:List Nd) (nd:Nd) (ix inc:Int) (l:List (Nat->Int)):TaskS where
 nd:=nd
 ix:=ix
 T:=tabL (partC nd.id nd.rt ix.toNat l)
 bs:=List.replicate (recvL L nd ix).length false
 b:=false
 ep:=0
 p:=false
 many:=0
 last:=((recvL L nd ix).length:Int) - 1
 kids:=kidsL L nd.id
 im:=recvL L nd ix
 ins:=(recvL L nd ix).map fun m=>⟨m.2,inc,[],0⟩
 om:=sendL L nd.id ix
 outs:=(sendL L nd.id ix).map fun m=>⟨m.2.2,inc,[],0,0⟩
 lns:=[]
 asked:=Itm.zero
 stop:=false
 out:=[]
def NewOk (col:Nat->Nat) (S:TaskS) (w:World) (e:Ending) (w':World):Prop :=
 ∃ g X col',e=.returned (.tuple #[.pointer (some ⟨g,0,none⟩),.int .i64 0])/\w.heap.size<=g/\TaskM col' w' g S X/\Cg (fun _=>False) col w col' w'
abbrev tk0 (x : Nd) (sA : Option Addr) (sc : Nat) (tA : Option Addr) (tc : Nat) (ix : Int) (p0 p1 : Option Addr) : Array Value := #[.pointer p0, .pointer p1, .int .i64 x.id, .int .i64 x.kind, .slice sA x.fr.length sc, .slice tA x.pg.length tc, .int .i64 x.par, .int .i64 (x.rt 0), .int .i64 (x.rt 1), .int .i64 (x.rt 2), .int .i64 (x.rt 3), .int .i64 (x.rt 4), .int .i64 (x.rt 5), .int .i64 (x.rt 6), .int .i64 (x.rt 7), .int .i64 ix,
 .slice none 0 0,.slice none 0 0,.slice none 0 0,.slice none 0 0,.bool false,.int .i64 0,.int .i64 0,.int .i64 0,.int .i64 0,.bool false,.bool false,.slice none 0 0]
theorem tnew_any (col:Nat->Nat) (w:World) (A eA:Option Addr) (n c ec:Nat) (M:List Ndm) (id ix inc:Int) (nd:Nd) (l:List (Nat->Int)) (hN:Nds w w.heap.size A n M) (hs:Small M) (hR:RightG (fstN M)) (hf:findN (fstN M) id=some nd) (hi0:0<=ix) (hi1:ix < nd.par) (hl:l.length<=100) (hok:l.all okE=true) (he:Reads w w.heap.size 6 eA l.length (cellsE l)) (hz:∀ q,q < w.heap.size->¬ TC (col q)) :
  Calls Tryz.prog 23 #[.slice A n c,.int .i64 id,.int .i64 ix,.int .i64 inc,.slice eA l.length ec] w (NewOk col (task0 (fstN M) nd ix inc l) w):=by
 have hnm:=findN_mem hf;have hb:=nodeB_iff.1 (hR.each nd hnm);have hpr:=right8_par hb.2.2.2.1;have HGC:=zh (by have:=gcheck_any A c w.heap.size n M w hN (Nat.le_refl _) hs;rw [checkN_zero.2 hR] at this;exact this:Calls Tryz.prog 55 #[.slice A n c] w fun e w'=>e=.returned (.int .i64 0)/\Fr w.heap.size [] w w');have HN:=zh (fun W (hf:Fr w.heap.size [] w W)=>hN.frw hf (Nat.le_refl _) (by simp));have HE:=zh (fun W (hf:Fr w.heap.size [] w W)=>he.fr hf (Nat.le_refl _) (by simp));have HS:=zh hs;have HR:=zh hR;have HF:=zh hf;have HZ:=zh hz;have HOK:=zh hok;have HNM:=zh hnm;have HRT:=zh hb.2.2.2.1;obtain ⟨pt,hpt⟩:∃ pt:Nat,(pt:Int)=nd.par:=⟨nd.par.toNat,by omega⟩;obtain ⟨k,hk⟩:∃ k:Nat,(k:Int)=ix:=⟨ix.toNat,by omega⟩;have hkp:k < pt:=(by omega);subst hk;clear hN hs hR hf hz hok he hnm hb;obtain ⟨S0,hS0⟩:=nm (task0 (fstN M) nd (k:Int) inc l);rw [<- hS0];have HS0:=zh hS0;clear hS0;go_enter Tryz.func23,Tryz.ntmps23;go_wp2_with fail;refine HGC.out.mono ?_;rintro e w2 ⟨rfl,f2⟩;have F2:=zh f2;have HFI:=zh (findF_any id A c w.heap.size n M w2 (HN.out w2 f2) f2.size HS.out);clear f2 HGC;go_wp2_with fail;refine HFI.out.mono ?_;rintro e w3 ⟨h1,f3⟩
 rcases h1 with ⟨h1,_⟩ | ⟨x,sf,sp,h1,rfl,⟨⟨sA,sc,hsf,hrf⟩,⟨tA,tc,hsp,hrp⟩⟩,hq1,hq2⟩
 · exact absurd ((show findN (fstN M) id=none from h1).symm.trans HF.out) (by simp)
 obtain rfl:x=nd:=by
  have:findN (fstN M) id=some x:=h1;rw [HF.out] at this;injection this with this
  exact this.symm
 simp only at hsf hsp hrf hrp;subst hsf hsp;have F3:=zh (F2.out.nx f3);have RF:=zh hrf;have RP:=zh hrp;have Q1:=zh (fun h0 ad (ha:sA=some ad)=>Nat.le_trans F2.out.size (hq1 _ _ _ rfl h0 ad ha));have Q2:=zh (fun h0 ad (ha:tA=some ad)=>Nat.le_trans F2.out.size (hq2 _ _ _ rfl h0 ad ha));clear h1 HFI hrf hrp hq1 hq2 f3 F2;go_upto_region 6 with fail;have fa:=(Fr.refl w3.heap.size [] w3).alloc (Nat.le_refl _) (.cells (ndA x (.slice sA x.fr.length sc) (.slice tA x.pg.length tc)) 66);have BN:=zh (Blk.new w3 66 (ndA x (.slice sA x.fr.length sc) (.slice tA x.pg.length tc)));have F4:=zh (F3.out.nx fa);have RF4:=zh ((RF.out.fr fa (Nat.le_refl _) (by simp)).more fa.size);have RP4:=zh ((RP.out.fr fa (Nat.le_refl _) (by simp)).more fa.size);obtain ⟨gb,hgb⟩:=nm (w3.heap.size);rw [<- hgb] at BN ⊢;generalize w3.alloc _=w4 at *;clear fa F3 RF RP hgb;have HCN:=zh (cnew_any eA l.length ec w.heap.size l w4 rfl (by omega) (HE.out w4 F4.out) F4.out.size);go_wp2_with fail;refine HCN.out.mono ?_;rintro e w5 h5
 rcases h5 with ⟨h5,_⟩ | ⟨_,rfl,_,f5⟩
 · exact absurd (h5.symm.trans HOK.out) (by simp)
 have F5:=zh (F4.out.nx f5);have BN5:=zh (BN.out.fr f5 BN.out.lt (by simp));have RF5:=zh ((RF4.out.fr f5 (Nat.le_refl _) (by simp)).more f5.size);have RP5:=zh ((RP4.out.fr f5 (Nat.le_refl _) (by simp)).more f5.size);clear f5 F4 BN RF4 RP4 HCN;have q0:=BN5.out.cell 0;have q1:=BN5.out.cell 1;have q2:=BN5.out.cell 2;have q3:=BN5.out.cell 3;have q4:=BN5.out.cell 4;have q5:=BN5.out.cell 5;have q6:=BN5.out.cell 6;have q7:=BN5.out.cell 7;have q8:=BN5.out.cell 8;have q9:=BN5.out.cell 9;have q10:=BN5.out.cell 10;have q11:=BN5.out.cell 11;have q12:=BN5.out.cell 12;simp at q0 q1 q2 q3 q4 q5 q6 q7 q8 q9 q10 q11 q12;go_upto_region 10 with fail;have fa:=(Fr.refl w5.heap.size [] w5).alloc (Nat.le_refl _) (.cells (tk0 x sA sc tA tc (k:Int) none none) 136);have BT:=zh (Blk.new w5 136 (tk0 x sA sc tA tc (k:Int) none none));have HGL:=zh F5.out.size
 have HPB := zh (fun (h0 : 0 < x.pg.length) ad (ha : tA = some ad) => (by
  obtain ⟨b,off,e,hb,_⟩:=RP5.out.2 h0;rw [ha] at e;injection e with e
  rw [e]
  exact hb:ad.block < w5.heap.size))
 have HFB := zh (fun (h0 : 0 < x.fr.length) ad (ha : sA = some ad) => (by
  obtain ⟨b,off,e,hb,_⟩:=RF5.out.2 h0;rw [ha] at e;injection e with e
  rw [e]
  exact hb:ad.block < w5.heap.size))
 have F6:=zh (F5.out.nx fa);have BN6:=zh (BN5.out.fr fa BN5.out.lt (by simp));have RF6:=zh ((RF5.out.fr fa (Nat.le_refl _) (by simp)).more fa.size);have RP6:=zh ((RP5.out.fr fa (Nat.le_refl _) (by simp)).more fa.size);clear fa F5 BN5 RF5 RP5 q0 q1 q2 q3 q4 q5 q6 q7 q8 q9 q10 q11 q12;obtain ⟨g,hg⟩:=nm (w5.heap.size);rw [<- hg] at BT HGL HPB HFB ⊢;generalize w5.alloc _=w6 at *;clear hg;have q0:=BN6.out.cell 0;have q1:=BN6.out.cell 1;have q2:=BN6.out.cell 2;have q3:=BN6.out.cell 3;have q4:=BN6.out.cell 4;have q5:=BN6.out.cell 5;have q6:=BN6.out.cell 6;have q7:=BN6.out.cell 7;have q8:=BN6.out.cell 8;have q9:=BN6.out.cell 9;have q10:=BN6.out.cell 10;have q11:=BN6.out.cell 11;have q12:=BN6.out.cell 12;simp at q0 q1 q2 q3 q4 q5 q6 q7 q8 q9 q10 q11 q12;have HPA:=zh (by have:=parts_yes x.id pt (.int .i64 x.kind) (.slice sA x.fr.length sc) (.slice tA x.pg.length tc) x.rt l eA ec w6 (by rw [hpt];exact HRT.out) hl ((HE.out w6 F6.out).more F6.out.size);rw [hpt] at this;exact this:Calls Tryz.prog 58 #[.agg (ndA x (.slice sA x.fr.length sc) (.slice tA x.pg.length tc)),.slice eA l.length ec] w6 fun e w'=>∃ gr R,e=.returned (.slice (some ⟨gr,0,none⟩) pt pt)/\PInv w6 gr pt (fun t=>partC x.id x.rt t l) R w');go_wp2_with fail;refine HPA.out.mono ?_;rintro e w7 ⟨gr,R,rfl,hpi⟩;have hown:=hpi.own k hkp;obtain ⟨A7,c7,hRk,_,_,_⟩:=ownsRow_shape hown;have x0:=(hpi.blk.cell k).trans (rowsA_get R hkp);rw [hRk] at x0 hown;have RD7:=Reads.of_own (size:=6) hown;have hrl:=hpi.blk.lt;have hkpi:(k:Int) < (pt:Int):=(by omega);obtain ⟨lk,hlk⟩:=nm (partC x.id x.rt k l);rw [<- hlk] at RD7 x0;have HLK:=zh hlk;have hlkl:lk.length<=100:=(by rw [hlk];exact Nat.le_trans (List.length_filter_le _ _) hl);have HOKK:=zh (by rw [hlk,List.all_eq_true];intro y hy;exact List.all_eq_true.1 HOK.out y (List.mem_filter.1 hy).1:lk.all okE=true);have F7:=zh (F6.out.nx hpi.fr);have BT7:=zh (BT.out.fr hpi.fr BT.out.lt (by simp));have RF7:=zh ((RF6.out.fr hpi.fr (Nat.le_refl _) (by simp)).more hpi.fr.size);have RP7:=zh ((RP6.out.fr hpi.fr (Nat.le_refl _) (by simp)).more hpi.fr.size);have HSZ6:=zh hpi.fr.size;have HG6:=zh BT.out.lt;have HCN:=zh (cnew_any A7 lk.length c7 w7.heap.size lk w7 rfl (by omega) RD7 (Nat.le_refl _));clear hpi hown RD7 F6 BT BN6 RF6 RP6 hlk hRk q0 q1 q2 q3 q4 q5 q6 q7 q8 q9 q10 q11 q12 HPA;go_wp2_with fail;refine HCN.out.mono ?_;rintro e w8 h8
 rcases h8 with ⟨h8,_⟩ | ⟨_,rfl,hct,f8⟩
 · exact absurd (h8.symm.trans HOKK.out) (by simp)
 have F8:=zh (F7.out.nx f8);have BT8:=zh (BT7.out.fr f8 BT7.out.lt (by simp));have RF8:=zh ((RF7.out.fr f8 (Nat.le_refl _) (by simp)).more f8.size);have RP8:=zh ((RP7.out.fr f8 (Nat.le_refl _) (by simp)).more f8.size);have CT8:=zh hct;have HSZ7:=zh (show g < w7.heap.size by have:=HG6.out;have:=HSZ6.out;omega);clear f8 hct F7 BT7 RF7 RP7 HCN x0 hrl HOKK;have t0:=BT8.out.cell 0;have z0:=BT8.out.frozen 0;simp at t0;go_upto_region 11 with fail;obtain ⟨col9,hcol9⟩:∃ c:Nat->Nat,c=fun q=>if q < w.heap.size then col q else if q=g then 1 else if w7.heap.size<=q then 2 else 9:=⟨_,rfl⟩
 have HLO:=zh (show ∀ q,q < w.heap.size->col9 q=col q by intro q hq;rw [hcol9];simp only [];rw [if_pos hq]);have HG1:=zh (show col9 g=1 by rw [hcol9];simp only [];rw [if_neg (by have:=HGL.out;omega)];simp);have HT2:=zh (show ∀ q,w7.heap.size<=q->col9 q=2 by intro q hq;rw [hcol9];simp only [];rw [if_neg (by have:=HGL.out;have:=HSZ7.out;omega),if_neg (by have:=HSZ7.out;omega),if_pos hq]);have HP9:=zh (show ∀ q,w.heap.size<=q->q < g->col9 q=9 by intro q h1 h2;rw [hcol9];simp only [];rw [if_neg (by omega),if_neg (by omega),if_neg (by have:=HSZ7.out;omega)]);have fs:=(Fr.refl w8.heap.size [g] w8).setCell (p:=⟨g,0,none⟩) (.inr (by simp)) (.pointer (some ⟨w7.heap.size+1,0,none⟩));have F9:=zh (F8.out.trans (fs.mono (L':=[]) F8.out.size (fun q hq hlt=>by simp at hq;have:=HGL.out;omega)));have ST9:=zh (⟨BT8.out.set_ 0 (.pointer (some ⟨w7.heap.size+1,0,none⟩)),HG1.out⟩:CB col9 1 (w8.setCell ⟨g,0,none⟩ (.pointer (some ⟨w7.heap.size+1,0,none⟩))) g 136 (tk0 x sA sc tA tc (k:Int) (some ⟨w7.heap.size+1,0,none⟩) none));have CT9:=zh (CT8.out.fr fs CT8.out.bk.lt (by simp;have:=HSZ7.out;omega) (KMap.lt CT8.out.mp) (by simp;have:=HSZ7.out;omega));have PG9:=zh (⟨(RP8.out.frL fs (Nat.le_refl _) (fun h0 ad ha hm=>by have:=HPB.out h0 ad ha;simp at hm;omega)).more fs.size,fun ad ha h0=>HP9.out _ (Q2.out h0 ad ha) (HPB.out h0 ad ha)⟩:CRd col9 9 (w8.setCell ⟨g,0,none⟩ (.pointer (some ⟨w7.heap.size+1,0,none⟩))) 2 tA x.pg.length (cellsI x.pg));have RF9:=zh ((RF8.out.frL fs (Nat.le_refl _) (fun h0 ad ha hm=>by have:=HFB.out h0 ad ha;simp at hm;omega)).more fs.size);have HK1:=zh (HT2.out _ (Nat.le_succ w7.heap.size));have HK2:=zh (HT2.out _ (Nat.le_refl w7.heap.size));clear fs F8 BT8 CT8 RP8 RF8 hcol9 HT2 HP9 t0 z0;generalize w8.setCell _ _=w9 at *;have hk3:(k:Int)<=3:=(by omega);have HRC:=zh (receive_any col9 w9 g w.heap.size n c A M (tk0 x sA sc tA tc (k:Int) (some ⟨w7.heap.size+1,0,none⟩) none) x (k:Int) inc sA sc (HN.out w9 F9.out) F9.out.size (fun q hq=>by rw [HLO.out q hq];intro h;exact HZ.out q hq (by unfold NC at h;unfold TC;omega)) HS.out HR.out HNM.out ⟨hi0,hk3⟩ ST9.out rfl rfl rfl rfl RF9.out);go_wp2_with fail;refine HRC.out.mono ?_;rintro e w10 ⟨col10,iA,ic,gis,rfl,hrm,hg10⟩;obtain ⟨rl,hrl⟩:=nm (recvL (fstN M) x (k:Int));rw [<- hrl] at hrm;have HRL:=zh hrl;have hrlen:rl.length<=9:=(by rw [hrl];have:=recv_len HR.out HNM.out (k:Int) (srt x.fr).length;rw [List.take_of_length_le (Nat.le_refl _)] at this;exact this);have RM:=zh hrm;have G10:=zh hg10;have CT10:=zh (ct_cg CT9.out HK1.out HK2.out hg10 (by unfold NC;omega));have PG10:=zh ((show CRd col9 9 w9 2 tA x.pg.length (cellsI x.pg) from PG9.out).cg hg10 (by unfold NC;omega));clear hrm hg10 HRC hrl CT9 PG9 RF9;have c17:w10.cell? ⟨g,17,none⟩=some (.slice iA rl.length ic):=(RM.out.st.b.cell 17).trans (set17_eq (by rfl:(tk0 x sA sc tA tc (k:Int) (some ⟨w7.heap.size+1,0,none⟩) none)[17]?=some (.slice none 0 0)));have c1:w10.cell? ⟨g,1,none⟩=some (.pointer none):=(RM.out.st.b.cell 1).trans (set17_ne (by rfl) (by decide));have z1:=RM.out.st.b.frozen 1;have HAN:=zh (anew_yes rl.length w10 (by omega));go_wp2_with fail;refine HAN.out.mono ?_;rintro e w11 ⟨rfl,hal,f11⟩;have k11:=(cg0 (col:=col10) f11).paint 3;have AL:=zh hal;have RM11:=zh (RM.out.cg0 k11);have CT11:=zh (ct_cg CT10.out.1 CT10.out.2.1 CT10.out.2.2 k11 (fun h=>h));have PG11:=zh (PG10.out.cg k11 (fun h=>h));have AK:=zh (⟨paint_ge (Nat.le_succ _),paint_ge (Nat.le_refl _)⟩:paint col10 w10.heap.size 3 (w10.heap.size+1)=3/\paint col10 w10.heap.size 3 w10.heap.size=3);have G11:=zh (G10.out.trans (k11.mono (C':=NC) (fun _ h=>h.elim)));generalize paint col10 w10.heap.size 3=col11 at *;have hgw:=RM11.out.st.b.lt;have c1b:w11.cell? ⟨g,1,none⟩=some (.pointer none):=(RM11.out.st.b.cell 1).trans (set17_ne (by rfl) (by decide));have z1b:=RM11.out.st.b.frozen 1;clear hal f11 k11 RM CT10 PG10 G10 HAN c17 c1 z1;go_upto_region 13 with fail;have ks:Cg (· = 1) col11 w11 col11 (w11.setCell ⟨g,1,none⟩ (.pointer (some ⟨w10.heap.size+1,0,none⟩))):=(Cg.refl _ _ _).set RM11.out.st.k _;have ST12:=zh (⟨RM11.out.st.b.set_ 1 (.pointer (some ⟨w10.heap.size+1,0,none⟩)),RM11.out.st.k⟩:CB col11 1 (w11.setCell ⟨g,1,none⟩ (.pointer (some ⟨w10.heap.size+1,0,none⟩))) g 136 (((tk0 x sA sc tA tc (k:Int) (some ⟨w7.heap.size+1,0,none⟩) none).setIfInBounds 17 (.slice iA rl.length ic)).setIfInBounds 1 (.pointer (some ⟨w10.heap.size+1,0,none⟩))));have GL:=zh RM11.out.gl;have IR:=zh (RM11.out.row.cg ks (by omega));have IM:=zh (fun j gj m h1 h2=>(RM11.out.im j gj m h1 h2).cg ks (by omega));have AL12:=zh (al_cg AL.out AK.out.1 AK.out.2 ks (by omega));have CT12:=zh (ct_cg CT11.out.1 CT11.out.2.1 CT11.out.2.2 ks (by omega));have PG12:=zh (PG11.out.cg ks (by omega));have G12:=zh (G11.out.trans (ks.mono (C':=NC) (fun _ h=>.inl h)));clear ks RM11 AL CT11 PG11 AK G11 c1b z1b hgw;obtain ⟨ga,hga⟩:=nm (w10.heap.size);rw [<- hga] at ST12 AL12 IR IM CT12 PG12 G12 ⊢;clear hga;generalize w11.setCell _ _=w12 at *;have HSD:=zh (tsend_any col11 w12 g w.heap.size n c A M _ x (k:Int) inc (HN.out w12 (F9.out.trans (G12.out.fr F9.out.size (fun q hq=>by rw [HLO.out q hq];intro h;exact HZ.out q hq (by unfold NC at h;unfold TC;omega))))) (Nat.le_trans F9.out.size G12.out.size) (fun q hq=>by rw [G12.out.same q (Nat.lt_of_lt_of_le hq F9.out.size),HLO.out q hq];intro h;exact HZ.out q hq (by unfold NO at h;unfold TC;omega)) HS.out HR.out HNM.out ⟨hi0,hk3⟩ ST12.out rfl rfl rfl rfl);go_wp2_with fail;refine HSD.out.mono ?_;rintro e w13 ⟨col13,ks,kA,kc,oA,oc,gos,rfl,hks,hsm,hg13⟩;have SM:=zh hsm;have HKS:=zh hks;have AL13:=zh (al_cg AL12.out.1 AL12.out.2.1 AL12.out.2.2 hg13 (by unfold NO;omega));have CT13:=zh (ct_cg CT12.out.1 CT12.out.2.1 CT12.out.2.2 hg13 (by unfold NO;omega));have PG13:=zh (PG12.out.cg hg13 (by unfold NO;omega));have IR13:=zh (IR.out.cg hg13 (by unfold NO;omega));have IM13:=zh (fun j gj m h1 h2=>(IM.out j gj m h1 h2).cg hg13 (by unfold NO;omega));have G13:=zh hg13;clear hks hsm hg13 HSD AL12 CT12 PG12 IR IM;go_wp2_with fail;go_ret2;have hkl:(kidsL (fstN M) x.id).length=ks.length:=(by rw [<- HKS.out.m,List.length_map]);have hsl:(sendL (fstN M) x.id (k:Int)).length<=24:=(by have:=send_len HR.out x.id (k:Int) (childN (fstN M) x.id).length;rw [List.take_of_length_le (Nat.le_refl _)] at this;exact this);have hkn:(k:Int).toNat=k:=(by omega);have GB:=(G12.out.mono (C':=TC) (fun c hc=>by unfold NC at hc;unfold TC;omega)).trans (G13.out.mono (C':=TC) (fun c hc=>by unfold NO at hc;unfold TC;omega));refine ⟨g,⟨w7.heap.size+1,w7.heap.size,ga+1,ga,.slice sA x.fr.length sc,tA,tc,kA,iA,oA,none,none,kc,ic,oc,0,0,gis,gos,ks⟩,col13,rfl,HGL.out,?_,?_⟩
 ·
  rw [HS0.out];refine ⟨?_,?_,CT13.out.2.1,CT13.out.2.2,?_,AL13.out.2.1,AL13.out.2.2,PG13.out,HKS.out,?_,?_,?_,?_,fun j gj sj h1 h2 => ?_,?_,?_,?_,fun j gj sj h1 h2 => ?_,CR.nil _ _ _ _ _,CR.nil _ _ _ _ _,?_⟩
  · have:=SM.out.st;rw [<- hkl] at this;simp only [HRL.out] at this;exact this
  · have:=CT13.out.1;rw [HLK.out] at this;simpa [task0,hkn] using this
  · have:=AL13.out.1;rw [HRL.out] at this;exact this
  · have:=SM.out.kr;rw [<- hkl] at this;exact this.rd
  · rw [GL.out,HRL.out];rfl
  · simp [task0]
  · have:=IR13.out.rd;rw [HRL.out] at this;exact this
  ·
   have h3:∃ m,(recvL (fstN M) x (k:Int))[j]?=some m/\sj=⟨m.2,inc,[],0⟩:=by
    have h4:((recvL (fstN M) x (k:Int)).map fun m=>(⟨m.2,inc,[],0⟩:InS))[j]?=some sj:=h2;rw [List.getElem?_map] at h4
    cases h5:(recvL (fstN M) x (k:Int))[j]? with
    | none=>rw [h5] at h4;cases h4
    | some m=>rw [h5] at h4;injection h4 with h4;exact ⟨m,rfl,h4.symm⟩
   obtain ⟨m,h5,rfl⟩:=h3;exact IM13.out j gj m h1 (by rw [HRL.out];exact h5)
  · rw [SM.out.gl];rfl
  · simp [task0]
  · exact SM.out.row.rd
  ·
   have h3:∃ m,(sendL (fstN M) x.id (k:Int))[j]?=some m/\sj=⟨m.2.2,inc,[],0,0⟩:=by
    have h4:((sendL (fstN M) x.id (k:Int)).map fun m=>(⟨m.2.2,inc,[],0,0⟩:OutS))[j]?=some sj:=h2;rw [List.getElem?_map] at h4
    cases h5:(sendL (fstN M) x.id (k:Int))[j]? with
    | none=>rw [h5] at h4;cases h4
    | some m=>rw [h5] at h4;injection h4 with h4;exact ⟨m,rfl,h4.symm⟩
   obtain ⟨m,h5,rfl⟩:=h3;exact SM.out.om j gj m h1 h5
  ·
   refine ⟨?_,Nat.le_trans hsl (by decide)⟩
   show (recvL (fstN M) x (k:Int)).length<=30
   rw [<- HRL.out];omega
 · exact ⟨GB.os.trans F9.out.os,GB.tape.trans F9.out.tape,GB.output.trans F9.out.output,Nat.le_trans F9.out.size GB.size,fun q hq=>(GB.same q (Nat.lt_of_lt_of_le hq F9.out.size)).trans (HLO.out q hq),fun q hq _=>(GB.block q (Nat.lt_of_lt_of_le hq F9.out.size) (by rw [HLO.out q hq];exact HZ.out q hq)).trans (F9.out.block q hq (by simp))⟩
end Go.Proofs.YtgblfflikgnfpaaGreat
namespace Go.Proofs.YtgblfflikgnfpaaGreat
open Go.RowKit Go.Fb
set_option maxRecDepth 100000
set_option maxHeartbeats 16000000
set_option linter.unusedVariables false
def feedF (L:List Nd) (id ix:Int) (f:Int):List Feed:=match findN L f with
 | none=>[]
 | some p=>(List.range p.par.toNat).map fun (k:Nat)=>⟨⟨chanN f (k:Int) id ix,1,[],0,0⟩,f,[]⟩
def feedsN (L:List Nd) (nd:Nd) (ix:Int) (j:Nat):List Feed:=(List.range j).flatMap fun (f:Nat)=>if hasI nd.fr (f:Int) then feedF L nd.id ix (f:Int) else []
def feedsT (f id ix:Int) (i:Nat):List Feed:=(List.range i).map fun (k:Nat)=>⟨⟨chanN f (k:Int) id ix,1,[],0,0⟩,f,[]⟩
theorem wrapC {f k id ix:Int} (h1:0<=f/\f<=100) (h2:0<=k/\k<=100) (h3:0<=id/\id<=100) (h4:0<=ix/\ix<=100):IntKind.i64.wrap (IntKind.i64.wrap (IntKind.i64.wrap (IntKind.i64.wrap (IntKind.i64.wrap (IntKind.i64.wrap (f * 3)+k) * 8)+id) * 3)+ix)=chanN f k id ix:=by
 have e:∀ x:Int,0<=x->x<=1000000->IntKind.i64.wrap x=x:=fun x a b=>by rw [IntKind.wrap_i64];omega
 unfold chanN;rw [e (f * 3) (by omega) (by omega),e (f * 3+k) (by omega) (by omega),e ((f * 3+k) * 8) (by omega) (by omega),e ((f * 3+k) * 8+id) (by omega) (by omega),e (((f * 3+k) * 8+id) * 3) (by omega) (by omega),e (((f * 3+k) * 8+id) * 3+ix) (by omega) (by omega)]
theorem feedsT_snoc (f id ix:Int) (i:Nat):feedsT f id ix (i+1)=feedsT f id ix i ++ [⟨⟨chanN f (i:Int) id ix,1,[],0,0⟩,f,[]⟩]:=by unfold feedsT;rw [List.range_succ,List.map_append];rfl
theorem feedF_some {L:List Nd} {id ix f:Int} {p:Nd} (h:findN L f=some p):feedF L id ix f=feedsT f id ix p.par.toNat:=by unfold feedF;rw [h];rfl
theorem feedF_le {L:List Nd} (hR:RightG L) (id ix f:Int):(feedF L id ix f).length<=3:=by
 cases h:findN L f with
 | none=>unfold feedF;rw [h];simp
 | some p =>
  rw [feedF_some h];have:=right8_par (nodeB_iff.1 (hR.each p (findN_mem h))).2.2.2.1;simp [feedsT];omega
theorem feedsN_snoc (L:List Nd) (nd:Nd) (ix:Int) (j:Nat):feedsN L nd ix (j+1)=feedsN L nd ix j ++ (if hasI nd.fr (j:Int) then feedF L nd.id ix (j:Int) else []):=by unfold feedsN;rw [List.range_succ,List.flatMap_append];simp
theorem feedsN_le {L:List Nd} (hR:RightG L) (nd:Nd) (ix:Int) (j:Nat):(feedsN L nd ix j).length<=3 * j:=by
 have := flat_le (fun (f : Nat) => if hasI nd.fr (f : Int) then feedF L nd.id ix (f : Int) else []) 3 (fun f => by
  show (if hasI nd.fr (f:Int) then feedF L nd.id ix (f:Int) else []).length<=3
  split
  · exact feedF_le hR _ _ _
  · simp) (List.range j)
 rw [List.length_range] at this;exact this
def drainsT (c id ix:Int) (i:Nat):List Drain:=(List.range i).map fun (k:Nat)=>⟨⟨chanN id ix c (k:Int),1,[],0⟩,c,(k:Int),[]⟩
theorem drainsT_snoc (c id ix:Int) (i:Nat):drainsT c id ix (i+1)=drainsT c id ix i ++ [⟨⟨chanN id ix c (i:Int),1,[],0⟩,c,(i:Int),[]⟩]:=by unfold drainsT;rw [List.range_succ,List.map_append];rfl
def drainF (L:List Nd) (id ix:Int) (c:Int):List Drain:=match findN L c with
 | none=>[]
 | some p=>(List.range p.par.toNat).map fun (k:Nat)=>⟨⟨chanN id ix c (k:Int),1,[],0⟩,c,(k:Int),[]⟩
def drainsL (L:List Nd) (nd:Nd) (ix:Int):List Drain:=(childR L nd.id).flatMap (drainF L nd.id ix)
theorem feedP:SliceTy Tryz.prog 40 38 1 8:=SliceTy.mk' (z:=.pointer none) Tryz.underlying40 (by kernel_rfl) rfl (by omega)
theorem drainP:SliceTy Tryz.prog 41 114 1 8:=SliceTy.mk' (z:=.pointer none) Tryz.underlying41 (by kernel_rfl) rfl (by omega)
section
variable {col col':Nat->Nat} {w w':World} {g:Nat} {R:RigS} {Y:RX}
theorem RigM.addF (h:RigM col w g R Y) (hc:Cg (· = 111) col w col' w') {A:Option Addr} {c gn:Nat} {F:Feed} (hr:CR col' 111 w' 38 1 (.slice A (R.fs.length+1) c) (R.fs.length+1) ((Y.gf ++ [gn]).flatMap ptrF)) (hF:FeedM col' R.fs.length w' gn F) (hfew:R.fs.length+1<=60) :
  RigM col' (w'.setCell ⟨g,1,none⟩ (.slice A (R.fs.length+1) c)) g { R with fs:=R.fs ++ [F] } { Y with fA:=A,fc:=c,gf:=Y.gf ++ [gn] }/\CR col' 111 (w'.setCell ⟨g,1,none⟩ (.slice A (R.fs.length+1) c)) 38 1 (.slice A (R.fs.length+1) c) (R.fs.length+1) ((Y.gf ++ [gn]).flatMap ptrF):=by
 have hs:=h.st.cg hc (by omega);have k:Cg (fun c=>c=111 \/ c=110) col w col' (w'.setCell ⟨g,1,none⟩ (.slice A (R.fs.length+1) c)):=(hc.mono (fun _ h=>.inl h)).set (.inr hs.k) _;have k1:Cg (· = 110) col' w' col' (w'.setCell ⟨g,1,none⟩ (.slice A (R.fs.length+1) c)):=(Cg.refl _ _ _).set hs.k _;have hf:=h.few;have hfl:=h.fl;have hdl:=h.dl;have hl:(R.fs ++ [F]).length=R.fs.length+1:=(by simp);refine ⟨⟨⟨by simpa [hl] using hs.b.set_ 1 (.slice A (R.fs.length+1) c),hs.k⟩,h.t.cg k (fun c hT=>by unfold TC at hT;omega),by simp [hfl],by rw [hl];exact hr.rd.cg k1 (by omega),fun j gj F1 h1 h2 => ?_,h.dl,h.dr.cg k (by omega),fun j gj D h1 h2=>(h.dm j gj D h1 h2).cg k ⟨by omega,by omega,by omega⟩,h.al,h.ar.cg k (by omega),fun x hx=>⟨(h.am x hx).1.cg k (by omega),(h.am x hx).2.cg k (by omega)⟩,by rw [hl];exact ⟨hfew,hf.2⟩⟩,hr.cg k1 (by omega)⟩
 rcases Nat.lt_or_ge j R.fs.length with hj | hj
 · have h1:(Y.gf ++ [gn])[j]?=some gj:=h1;have h2:(R.fs ++ [F])[j]?=some F1:=h2;rw [List.getElem?_append_left (by rw [hfl];exact hj)] at h1;rw [List.getElem?_append_left hj] at h2;exact (h.fm j gj F1 h1 h2).cg k ⟨by omega,by omega,by omega⟩
 ·
  have h1:(Y.gf ++ [gn])[j]?=some gj:=h1;have h2:(R.fs ++ [F])[j]?=some F1:=h2
  have hj2:j=R.fs.length:=by
   have:=(List.getElem?_eq_some_iff.1 h2).1;simp at this;omega
  subst hj2;rw [<- hfl,List.getElem?_append_right (Nat.le_refl _),Nat.sub_self] at h1;rw [List.getElem?_append_right (Nat.le_refl _),Nat.sub_self] at h2;injection h1 with h1
  injection h2 with h2
  rw [<- h1,<- h2];exact hF.cg k1 ⟨by omega,by omega,by omega⟩
theorem RigM.addD (h:RigM col w g R Y) (hc:Cg (· = 112) col w col' w') {A:Option Addr} {c gn:Nat} {D:Drain} (hr:CR col' 112 w' 114 1 (.slice A (R.ds.length+1) c) (R.ds.length+1) ((Y.gd ++ [gn]).flatMap ptrF)) (hF:DrainM col' R.ds.length w' gn D) (hfew:R.ds.length+1<=60) :
  RigM col' (w'.setCell ⟨g,2,none⟩ (.slice A (R.ds.length+1) c)) g { R with ds:=R.ds ++ [D] } { Y with dA:=A,dc:=c,gd:=Y.gd ++ [gn] }/\CR col' 112 (w'.setCell ⟨g,2,none⟩ (.slice A (R.ds.length+1) c)) 114 1 (.slice A (R.ds.length+1) c) (R.ds.length+1) ((Y.gd ++ [gn]).flatMap ptrF):=by
 have hs:=h.st.cg hc (by omega);have k:Cg (fun c=>c=112 \/ c=110) col w col' (w'.setCell ⟨g,2,none⟩ (.slice A (R.ds.length+1) c)):=(hc.mono (fun _ h=>.inl h)).set (.inr hs.k) _;have k1:Cg (· = 110) col' w' col' (w'.setCell ⟨g,2,none⟩ (.slice A (R.ds.length+1) c)):=(Cg.refl _ _ _).set hs.k _;have hf:=h.few;have hfl:=h.fl;have hdl:=h.dl;have hl:(R.ds ++ [D]).length=R.ds.length+1:=(by simp);refine ⟨⟨⟨by simpa [hl] using hs.b.set_ 2 (.slice A (R.ds.length+1) c),hs.k⟩,h.t.cg k (fun c hT=>by unfold TC at hT;omega),h.fl,h.fr.cg k (by omega),fun j gj F h1 h2=>(h.fm j gj F h1 h2).cg k ⟨by omega,by omega,by omega⟩,by simp [hdl],by rw [hl];exact hr.rd.cg k1 (by omega),fun j gj F1 h1 h2 => ?_,h.al,h.ar.cg k (by omega),fun x hx=>⟨(h.am x hx).1.cg k (by omega),(h.am x hx).2.cg k (by omega)⟩,by rw [hl];exact ⟨hf.1,hfew⟩⟩,hr.cg k1 (by omega)⟩
 rcases Nat.lt_or_ge j R.ds.length with hj | hj
 · have h1:(Y.gd ++ [gn])[j]?=some gj:=h1;have h2:(R.ds ++ [D])[j]?=some F1:=h2;rw [List.getElem?_append_left (by rw [hdl];exact hj)] at h1;rw [List.getElem?_append_left hj] at h2;exact (h.dm j gj F1 h1 h2).cg k ⟨by omega,by omega,by omega⟩
 ·
  have h1:(Y.gd ++ [gn])[j]?=some gj:=h1;have h2:(R.ds ++ [D])[j]?=some F1:=h2
  have hj2:j=R.ds.length:=by
   have:=(List.getElem?_eq_some_iff.1 h2).1;simp at this;omega
  subst hj2;rw [<- hdl,List.getElem?_append_right (Nat.le_refl _),Nat.sub_self] at h1;rw [List.getElem?_append_right (Nat.le_refl _),Nat.sub_self] at h2;injection h1 with h1
  injection h2 with h2
  rw [<- h1,<- h2];exact hF.cg k1 ⟨by omega,by omega,by omega⟩
end
end Go.Proofs.YtgblfflikgnfpaaGreat
namespace Go.Proofs.YtgblfflikgnfpaaGreat
open Go.RowKit Go.Fb
set_option maxRecDepth 100000
set_option maxHeartbeats 16000000
set_option linter.unusedVariables false
section
variable (w:World)
end
end Go.Proofs.YtgblfflikgnfpaaGreat
namespace Go.Proofs.YtgblfflikgnfpaaGreat
open Go.RowKit Go.Fb
set_option maxRecDepth 100000
set_option maxHeartbeats 16000000
set_option linter.unusedVariables false
section
variable (col:Nat->Nat) (w:World) (A eA:Option Addr) (n c ec:Nat) (M:List Ndm) (id ix inc:Int) (l:List (Nat->Int))
end
section
variable {col:Nat->Nat} {w:World} {g:Nat} {S:TaskS} {X:TX}
def askE (S:TaskS) (ep:Int):Int:=if S.nd.kind ≠ 0 \/ ep < 0 \/ 2147483647 < ep then 1 else if S.asked.b=true \/ S.stop=true then 14 else 0
def TaskS.ask (S:TaskS) (ep:Int) (p:Bool):TaskS:=if askE S ep=0 then { S with asked:=⟨true,0,0,0,ep,p⟩ } else S
theorem ask_any (h:TaskM col w g S X) (ep:Int) (p:Bool):Calls Tryz.prog 31 #[.pointer (some ⟨g,0,none⟩),.int .i64 ep,.bool p] w fun e w'=>e=.returned (.int .i64 (askE S ep))/\TaskM col w' g (S.ask ep p) X/\Cg (· = 1) col w col w':=by
 have t3:=h.st.b.cell 3;replace t3:w.cell? ⟨g,3,none⟩=some (.int .i64 S.nd.kind):=t3;have t20:=h.st.b.cell 20;replace t20:w.cell? ⟨g,20,none⟩=some (.bool S.asked.b):=t20;have t26:=h.st.b.cell 26;replace t26:w.cell? ⟨g,26,none⟩=some (.bool S.stop):=t26
 by_cases h1:S.nd.kind ≠ 0 \/ ep < 0 \/ 2147483647 < ep
 ·
  have hv:askE S ep=1:=by unfold askE;rw [if_pos h1]
  have hs:S.ask ep p=S:=(by unfold TaskS.ask;rw [hv];rfl);rw [hv,hs];have H:=zh h;clear hv hs h;generalize S.nd.kind=kd at *
  by_cases hk:kd=0
  ·
   subst hk
   by_cases he:ep < 0
   · clear h1;go_enter Tryz.func31,Tryz.ntmps31;go_wp2_with fail;go_ret;exact ⟨rfl,H.out,Cg.refl _ _ _⟩
   ·
    have he2:2147483647 < ep:=by omega
    clear h1;go_enter Tryz.func31,Tryz.ntmps31;go_wp2_with fail;go_ret;exact ⟨rfl,H.out,Cg.refl _ _ _⟩
  · clear h1;go_enter Tryz.func31,Tryz.ntmps31;go_wp2_with fail;go_ret;exact ⟨rfl,H.out,Cg.refl _ _ _⟩
 have hk:S.nd.kind=0:=(by omega);have he:¬ ep < 0:=(by omega);have he2:¬ 2147483647 < ep:=(by omega);rw [hk] at t3
 by_cases h2:S.asked.b=true \/ S.stop=true
 ·
  have hv:askE S ep=14:=by unfold askE;rw [if_neg h1,if_pos h2]
  have hs:S.ask ep p=S:=(by unfold TaskS.ask;rw [hv];rfl);rw [hv,hs];have H:=zh h;clear hv hs h h1 hk;generalize S.asked.b=ab at *;generalize S.stop=sb at *
  cases ab with
  | true =>
   clear h2;go_enter Tryz.func31,Tryz.ntmps31;go_wp2_with fail;go_ret;exact ⟨rfl,H.out,Cg.refl _ _ _⟩
  | false =>
   obtain rfl:sb=true:=by simpa using h2
   clear h2;go_enter Tryz.func31,Tryz.ntmps31;go_wp2_with fail;go_ret;exact ⟨rfl,H.out,Cg.refl _ _ _⟩
 ·
  have hv:askE S ep=0:=by unfold askE;rw [if_neg h1,if_neg h2]
  have hs:S.ask ep p={ S with stop:=S.stop,asked:=⟨true,0,0,0,ep,p⟩ }:=(by unfold TaskS.ask;rw [hv];rfl);rw [hv,hs];have ha:S.asked.b=false:=(by simpa using fun h=>h2 (.inl h));have hb:S.stop=false:=(by simpa using fun h=>h2 (.inr h));rw [ha] at t20;rw [hb] at t26;have f20:=h.st.b.frozen 20;have f21:=h.st.b.frozen 21;have f22:=h.st.b.frozen 22;have f23:=h.st.b.frozen 23;have f24:=h.st.b.frozen 24;have f25:=h.st.b.frozen 25;have t21:=h.st.b.cell 21;replace t21:w.cell? ⟨g,21,none⟩=some (.int .i64 S.asked.k):=t21;have t22:=h.st.b.cell 22;replace t22:w.cell? ⟨g,22,none⟩=some (.int .i64 S.asked.re):=t22;have t23:=h.st.b.cell 23;replace t23:w.cell? ⟨g,23,none⟩=some (.int .i64 S.asked.im):=t23;have t24:=h.st.b.cell 24;replace t24:w.cell? ⟨g,24,none⟩=some (.int .i64 S.asked.ep):=t24;have t25:=h.st.b.cell 25;replace t25:w.cell? ⟨g,25,none⟩=some (.bool S.asked.p):=t25;have H:=zh h;clear hv hs h h1 hk h2 ha hb;go_enter Tryz.func31,Tryz.ntmps31;go_wp2_with fail;go_ret;have hk:=H.out.st.k;have K:∀ (v0 v1 v2 v3 v4 v5:Value),Cg (· = 1) col w col ((((((w.setCell ⟨g,20,none⟩ v0).setCell ⟨g,21,none⟩ v1).setCell ⟨g,22,none⟩ v2).setCell ⟨g,23,none⟩ v3).setCell ⟨g,24,none⟩ v4).setCell ⟨g,25,none⟩ v5):=fun v0 v1 v2 v3 v4 v5=>((((((Cg.refl (· = 1) col w).set (p:=⟨g,20,none⟩) hk v0).set (p:=⟨g,21,none⟩) hk v1).set (p:=⟨g,22,none⟩) hk v2).set (p:=⟨g,23,none⟩) hk v3).set (p:=⟨g,24,none⟩) hk v4).set (p:=⟨g,25,none⟩) hk v5;refine ⟨rfl,H.out.mark _ _ (K _ _ _ _ _ _) ?_,K _ _ _ _ _ _⟩;have hb:=(((((H.out.st.b.set_ 20 (.bool true)).set_ 21 (.int .i64 0)).set_ 22 (.int .i64 0)).set_ 23 (.int .i64 0)).set_ 24 (.int .i64 ep)).set_ 25 (.bool p);simpa using hb
end
end Go.Proofs.YtgblfflikgnfpaaGreat
