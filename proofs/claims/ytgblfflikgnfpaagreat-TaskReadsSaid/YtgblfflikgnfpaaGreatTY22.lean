/- Texts merged into one, for the number of files a claim may have: TaskReads. -/
import Derived.Test.YtgblfflikgnfpaaGreatTk
import Derived.Test.YtgblfflikgnfpaaGreatTY14
import Derived.Test.YtgblfflikgnfpaaGreatTY15
import Derived.Test.YtgblfflikgnfpaaGreatTY21
namespace Go.Proofs.YtgblfflikgnfpaaGreat
open Go.RowKit Go.Fb
set_option maxRecDepth 100000
set_option maxHeartbeats 16000000
set_option linter.unusedVariables false
def TrW (w:World) (e:Ending) (w':World):Prop:=e=.returned (.bool true)/\Below w.heap.size w w'
theorem walk_TaskReads (A:Option Addr) (n c:Nat) (M:List Ndm) (hnc:n<=c) (hm:c<=maxLen) (rA:Option Addr) (rc:Nat) (xs:List (Nat->Int)) (hrc:xs.length<=rc) (hrm:rc<=maxLen) (tq ak:Int) (plan:Bool) (htk:0<=tq/\tq<=255) (hak:0<=ak/\ak<=255) (w:World) (h:Nds w w.heap.size A n M) (hcap:CapN M) (hr:Reads w w.heap.size 3 rA xs.length (cellsR xs)) :
  Calls Tryz.prog 7 #[.slice A n c,.slice rA xs.length rc,.agg #[.int .u8 tq,.int .u8 ak,.bool plan]] w (TrW w):=by
 obtain ⟨L,hL⟩:=nm (fstN M);have HL:=zh hL;have H:=zh h;have HCAP:=zh hcap;have HRX:=zh hr;have HG0:=great08_any A c w.heap.size n M;obtain ⟨gb,hgb⟩:=nm (greatN L)
 have HG := zh (fun (wx : World) (hx : Fr w.heap.size [] w wx) => (by
  have:=HG0 wx (h.frw hx (Nat.le_refl _) (by simp)) hx.size (by omega);rw [<- hL,<- hgb] at this
  exact this:Calls Tryz.prog 21 #[.slice A n c] wx fun e w'=>e=.returned (.bool gb)/\Fr wx.heap.size [] wx w'))
 have HGB:=zh hgb;obtain ⟨nx,hnx⟩:=nm (xs.length);have HNX:=zh hnx;have hnx2:=Nat.le_trans hrc hrm;unfold maxLen at hnx2;rw [<- hnx] at hnx2 ⊢;obtain ⟨col1,hcol1⟩:=nm (paint (fun _=>5000) w.heap.size 4000);have BQ:=zh (by rw [hcol1];exact ⟨Blk.new w _ _,paint_ge (Nat.le_refl _)⟩:CB col1 4000 (w.alloc (.cells #[.int .u8 tq,.int .u8 ak,.bool plan] 112)) w.heap.size 112 #[.int .u8 tq,.int .u8 ak,.bool plan]);have C1:=zh (by rw [hcol1];exact (cgf (col:=fun _=>5000) (· ≠ 5000) ((Fr.refl w.heap.size [] w).alloc (Nat.le_refl _) (.cells #[.int .u8 tq,.int .u8 ak,.bool plan] 112))).paint 4000:Cg (· ≠ 5000) (fun _=>5000) w col1 (w.alloc (.cells #[.int .u8 tq,.int .u8 ak,.bool plan] 112)))
 have HCL := zh (show ∀ q, col1 q = 5000 \/ col1 q = 4000 by
  intro q;rw [hcol1]
  by_cases hq:q < w.heap.size
  · exact .inl (paint_lt hq)
  · exact .inr (paint_ge (by omega)))
 clear h hL hgb HG0 hcap hr hnx hrc hrm hnc hm hcol1;go_enter Tryz.func7,Tryz.ntmps7;go_upto_region 1 with fail;obtain ⟨gq,hgq⟩:=nm (w.heap.size);rw [<- hgq] at BQ ⊢;clear hgq;generalize w.alloc _=w0 at *;go_wp2_with fail;refine (awake20_any _).mono ?_;rintro e w1 ⟨rfl,f1⟩;have C2:=zh (C1.out.trans (cgf _ f1));have BQ2:=zh (BQ.out.cg (cg0 f1) (fun h=>h));have F2:=zh (C2.out.fr (Nat.le_refl _) (fun q _ hq=>hq rfl));clear f1 C1 BQ;go_wp2_with fail;refine (HG.out w1 F2.out).mono ?_;rintro e w2 ⟨rfl,f2⟩;have C3:=zh (C2.out.trans (cgf _ f2));have BQ3:=zh (BQ2.out.cg (cg0 f2) (fun h=>h));have F3:=zh (C3.out.fr (Nat.le_refl _) (fun q _ hq=>hq rfl));clear f2 C2 BQ2 F2 HG
 cases gb with
 | true =>
  go_wp2_with fail;go_ret;exact ⟨rfl,F3.out.below⟩
 | false =>
 by_cases h60:nx<=60
 case neg =>
  have hd:decide (60 < (nx:Int))=true:=decide_eq_true (by omega);go_wp2_with fail;go_ret;exact ⟨rfl,F3.out.below⟩
 have hd60:decide (60 < (nx:Int))=false:=decide_eq_false (by omega);obtain ⟨hl20,hs,_⟩:=small_grt (by rw [<- HL.out];exact HGB.out.symm:greatN (fstN M)=false);have HS:=zh hs;have hn20:n<=20:=(by rw [H.out.num];exact hl20);clear hs hl20 HGB;have HRC:=zh (by have:=rcheck_any A c w.heap.size n M w2 (H.out.frw F3.out (Nat.le_refl _) (by simp)) F3.out.size HS.out HCAP.out;rw [<- HL.out] at this;exact this);obtain ⟨cv,hcv⟩:=nm (checkN L);rw [<- hcv] at HRC;have HCV:=zh hcv;clear hcv HCAP;go_wp2_with fail;refine HRC.out.mono ?_;rintro e w3 ⟨rfl,f3⟩;have C4:=zh (C3.out.trans (cgf _ f3));have BQ4:=zh (BQ3.out.cg (cg0 f3) (fun h=>h));have F4:=zh (C4.out.fr (Nat.le_refl _) (fun q _ hq=>hq rfl));clear f3 C3 BQ3 F3 HRC
 by_cases hcv0:cv=0
 case neg =>
  go_wp2_with fail;go_ret;exact ⟨rfl,F4.out.below⟩
 subst hcv0;have HRG:=zh (checkN_zero.1 HCV.out.symm:RightG L);obtain ⟨nd,hfn,hkd,hfr,hrt,hp1,hp3⟩:=src_node HRG.out
 obtain ⟨k,m,hk0,hmk,hmn⟩:∃ (k:Nat) (m:Ndm),ixN L 0=(k:Int)/\M[k]?=some m/\m.1=nd:=by
  rcases ixN_cases L 0 with ⟨_,h2⟩ | ⟨k,x,h1,h2,h3⟩
  · rw [hfn] at h2;cases h2
  ·
   rw [hfn] at h3;injection h3 with h3
   rw [HL.out] at h2;unfold fstN at h2;rw [List.getElem?_map] at h2
   cases hm:M[k]? with
   | none=>rw [hm] at h2;cases h2
   | some m =>
    rw [hm] at h2;injection h2 with h2
    exact ⟨k,m,h1,hm,h2.trans h3.symm⟩
 obtain ⟨nd',sf,sp⟩:=m;obtain rfl:nd'=nd:=hmn;have HFN:=zh hfn;have HKD:=zh hkd;have HFR:=zh hfr;have HRT:=zh hrt;obtain ⟨P,hP⟩:∃ P:Nat,nd'.par=(P:Int):=⟨nd'.par.toNat,by omega⟩;have HP:=zh hP;have hP1:1<=P:=(by omega);have hP3:P<=3:=(by omega);have hkn:k < n:=(by rw [H.out.num];exact (List.getElem?_eq_some_iff.1 hmk).1);have hki:(k:Int) < (n:Int):=(by omega);have hk00:(0:Int)<=(k:Int):=(by omega);have HFI:=zh (by have:=rfind_any 0 A c w.heap.size n M w3 (H.out.frw F4.out (Nat.le_refl _) (by simp)) (by omega);rw [<- HL.out,hk0] at this;exact this);have HND1:=H.out.frw F4.out (Nat.le_refl _) (by simp);obtain ⟨⟨Af,cf,hf1,hf2⟩,⟨Ap,cp,hp91,hp92⟩⟩:=HND1.inn _ (List.mem_of_getElem? hmk);simp only at hf1 hf2 hp91 hp92;subst hf1 hp91;obtain ⟨b1,o1,rfl,hb1,hcell⟩:=HND1.get hmk;have p0:=hcell 0 _ rfl;have p1:=hcell 1 _ rfl;have p2:=hcell 2 _ rfl;have p3:=hcell 3 _ rfl;have p4:=hcell 4 _ rfl;have p5:=hcell 5 _ rfl;have p6:=hcell 6 _ rfl;have p7:=hcell 7 _ rfl;have p8:=hcell 8 _ rfl;have p9:=hcell 9 _ rfl;have p10:=hcell 10 _ rfl;have p11:=hcell 11 _ rfl;have p12:=hcell 12 _ rfl;simp only [Nat.add_zero] at p0;have fa:=(Fr.refl w3.heap.size [] w3).alloc (Nat.le_refl _) (.cells (ndA nd' (.slice Af nd'.fr.length cf) (.slice Ap nd'.pg.length cp)) 66);have C5:=zh (C4.out.trans (cgf _ fa));have BQ5:=zh (BQ4.out.cg (cg0 fa) (fun h=>h));have BN:=zh (Blk.new w3 66 (ndA nd' (.slice Af nd'.fr.length cf) (.slice Ap nd'.pg.length cp)));clear hfn hkd hfr hrt hp1 hp3 hk0 hmk hcell fa hP hb1 hf2 hp92 HND1;go_wp2_with fail;refine HFI.out.mono ?_;rintro e w4 ⟨rfl,rfl⟩;clear HFI;go_upto_region 6 with fail;obtain ⟨gn,hgn⟩:=nm (w3.heap.size);rw [<- hgn] at BN ⊢;clear hgn p0 p1 p2 p3 p4 p5 p6 p7 p8 p9 p10 p11 p12 C4 BQ4 F4;generalize w3.alloc _=w4 at *;have r0:=BQ5.out.b.cell 0;have r1:=BQ5.out.b.cell 1;have r2:=BQ5.out.b.cell 2;simp at r0 r1 r2;have n4:w4.cell? ⟨gn,4,none⟩=some (.int .i64 (P:Int)):=(by rw [<- HP.out];exact BN.out.cell 4);obtain ⟨i,hi⟩:∃ i:Nat,(i:Int)=tq % (P:Int):=⟨(tq % (P:Int)).toNat,by have:=Int.emod_nonneg tq (show (P:Int) ≠ 0 by omega);omega⟩;have hiP:i < P:=(by have:=Int.emod_lt_of_pos tq (show (0:Int) < (P:Int) by omega);omega);have htw:IntKind.i64.wrap tq=tq:=(by rw [IntKind.wrap_i64];omega);have hrem:tq.tmod (P:Int)=(i:Int):=(by rw [Int.tmod_eq_emod_of_nonneg htk.1,hi]);have hremw:IntKind.i64.wrap (tq.tmod (P:Int))=(i:Int):=(by rw [hrem,IntKind.wrap_i64];omega);have hPz:¬ (P:Int)=0:=(by omega);go_upto_region 7 with fail;rw [<- hi];clear n4 hPz htw hrem hremw r0 hi;have n0:=BN.out.cell 0;have n1:=BN.out.cell 1;have n2:=BN.out.cell 2;have n3:=BN.out.cell 3;have n4:=BN.out.cell 4;have n5:=BN.out.cell 5;have n6:=BN.out.cell 6;have n7:=BN.out.cell 7;have n8:=BN.out.cell 8;have n9:=BN.out.cell 9;have n10:=BN.out.cell 10;have n11:=BN.out.cell 11;have n12:=BN.out.cell 12;simp at n0 n1 n2 n3 n4 n5 n6 n7 n8 n9 n10 n11 n12;have HNW:=zh (snew_any nd'.id nd'.kind nd'.par (.slice Af nd'.fr.length cf) (.slice Ap nd'.pg.length cp) nd'.rt w4);go_wp2_with fail;refine HNW.out.mono ?_;rintro e w5 (⟨_,_,P',gs,gp,hP',rfl,hsp,hlow,f5⟩ | ⟨hno,_⟩)
 case inr=>exact absurd ⟨HKD.out,HRT.out⟩ hno
 obtain rfl:P'=P:=by have:=HP.out;omega
 have k5:=(cg0 (col:=col1) f5).paint 3000;obtain ⟨col2,hcol2⟩:=nm (paint col1 w4.heap.size 3000);rw [<- hcol2] at k5;have SPC:=zh (by rw [hcol2];exact ⟨paint_ge hlow.1,paint_ge hlow.2,fun _ _ q hq=>by cases hq⟩:SpC col2 3000 gs gp P' noV);have SP:=zh hsp
 have HCL2 := zh (show ∀ q, ¬ RC (col2 q) by
  intro q
  have h9:col2 q=5000 \/ col2 q=4000 \/ col2 q=3000:=by
   rw [hcol2]
   by_cases hq:q < w4.heap.size
   · rw [paint_lt hq];have:=HCL.out q;omega
   · exact .inr (.inr (paint_ge (by omega)))
  unfold RC TC
  omega)
 have C6:=zh (C5.out.trans (k5.mono (C':=(· ≠ 5000)) (fun _ h=>h.elim)));have F6:=zh (C6.out.fr (Nat.le_refl _) (fun q _ hq=>hq rfl));have HGP:=zh (show w.heap.size<=gp from Nat.le_trans (C5.out.size) hlow.2);have BQ6:=zh (BQ5.out.cg k5 (fun h=>h));have HMD:=zh (rd_made col2 w5 (some ⟨b1,o1,none⟩) n c M nd' ((H.out.frw F6.out (Nat.le_refl _) (by simp)).more F6.out.size) HS.out (by rw [<- HL.out];exact HRG.out) (by rw [<- HL.out];exact HFN.out) HFR.out i (by rw [hP'];omega) HCL2.out);rw [<- HL.out] at HMD;clear hP' hsp hlow f5 k5 hcol2 HCL C5 BQ5 BN HNW n0 n1 n2 n3 n4 n5 n6 n7 n8 n9 n10 n11 n12 r1 r2;go_wp2_with fail;refine HMD.out.mono ?_;rintro e w6 ⟨g,Y,col3,rfl,hrm,hc6⟩;have RM:=zh hrm;have SP6:=zh (SP.out.cg SPC.out hc6 (by unfold RC TC;omega));have BQ7:=zh (BQ6.out.cg hc6 (by unfold RC TC;omega));have C7:=zh (C6.out.trans (hc6.mono (C':=(· ≠ 5000)) (fun c h=>by unfold RC TC at h;omega)));have HAP:=zh (by have:=rd_law BQ7.out RM.out SP6.out.1 SP6.out.2 C7.out HRT.out HP.out xs rA rc (by rw [<- HNX.out];exact h60) HRX.out HGP.out HRG.out HKD.out HFR.out hiP;rw [<- HNX.out] at this;exact this);clear hrm hc6 HMD SP SPC BQ6 C6 F6 HCL2 RM SP6 BQ7 C7;go_wp2_with fail;refine HAP.out.mono ?_;rintro e w7 ⟨v1,v2,Z,rfl,rfl,rfl,rfl,rfl,hlaw,hS⟩;have HS0:=zh hS;have LAW:=zh hlaw;clear hS hlaw HAP HKD HFR HRT HFN HP HGP HRX HNX hP1 hP3 hiP;have T0:=zh (rd_start LAW.out HS0.out);clear HS0 HCV HRG hnx2 h60 hd60 HS;obtain ⟨mi,hmi⟩:=nm (Z.l.length);have HMI:=zh hmi;have hmi60:mi<=60:=(by rw [hmi];exact LAW.out.l60);clear hmi;have hiP:(Z.i:Int) < (Z.P:Int):=(by have:=LAW.out.ok.hi;omega);have hP3:Z.P<=3:=LAW.out.P.2;go_upto_region 12 with fail;go_wp2_with fail;refine T0.out.lens.mono ?_;rintro e w8 ⟨oA,oc,rfl,hown,f8⟩;have T1:=zh (T0.out.fr0 f8);obtain ⟨bo,oo,hoA,_,hcell⟩:=(Reads.of_own hown).2 (by omega);subst hoA;have x0:w8.cell? ⟨bo,oo+Z.i,none⟩=some (.int .i64 (mi:Int)):=(by rw [HMI.out];exact hcell Z.i _ (lensL_get LAW.out.ok.hi));have hi0:(0:Int)<=(Z.i:Int):=(by omega);clear hown f8 hcell T0;have r1:=T1.out.cell1;have hak1:0<=Z.ak/\Z.ak<=255:=(by rw [LAW.out.ak];exact hak);obtain ⟨cut,hcut⟩:∃ cut:Nat,(cut:Int)=Z.ak % ((mi:Int)+1):=⟨(Z.ak % ((mi:Int)+1)).toNat,by have:=Int.emod_nonneg Z.ak (show (mi:Int)+1 ≠ 0 by omega);omega⟩;have hcm:cut<=mi:=(by have:=Int.emod_lt_of_pos Z.ak (show (0:Int) < (mi:Int)+1 by omega);omega);have haw:IntKind.i64.wrap Z.ak=Z.ak:=(by rw [IntKind.wrap_i64];omega);have hm1:IntKind.i64.wrap ((mi:Int)+1)=(mi:Int)+1:=(by rw [IntKind.wrap_i64];omega);have hrem:Z.ak.tmod ((mi:Int)+1)=(cut:Int):=(by rw [Int.tmod_eq_emod_of_nonneg hak1.1,hcut]);have hremw:IntKind.i64.wrap (Z.ak.tmod ((mi:Int)+1))=(cut:Int):=(by rw [hrem,IntKind.wrap_i64];omega);have hPz:¬ (mi:Int)+1=0:=(by omega);go_upto_region 14 with fail;rw [<- hcut];clear haw hm1 hrem hremw hPz hcut r1 x0 hak1 htk hak;go_upto_region 15 with fail;go_loopg [14] cut (fun q s14 wr=>∃ k:Nat,k<=cut/\q=cut - k/\s14=.int .i64 k/\Hid (Z.T (evA Z.l k) Itm.zero false [] k wr))
 case atStart=>exact ⟨0,Nat.zero_le _,rfl,rfl,T1⟩
 case round =>
  clear T1;obtain ⟨k9,hk,rfl,rfl,T1⟩:=hrel
  by_cases hkc:k9 < cut
  ·
   have hki':(k9:Int) < (cut:Int):=by omega
   have HW:=zh (rd_a LAW.out T1.out (by rw [<- HMI.out];omega));clear T1;go_wp2_with fail;refine HW.out.mono ?_;rintro e w9 ⟨rfl,hT⟩;have T2:=zh hT;clear hT HW;go_wp2_with fail;go_roundg (cut - (k9+1))
   case measure=>omega
   case rel=>exact ⟨k9+1,hkc,rfl,by go_num,T2⟩
  ·
   have hki':¬ (k9:Int) < (cut:Int):=by omega
   have e9:k9=cut:=(by omega);rw [e9] at T1;clear hk hkc e9;go_upto_region 19 with fail;have T1:=zh (T1.out.fr0 (Fr.refl _ _ _).drew);refine wp_region_held_drew (S:=fun W=>W.cell? ⟨Z.g,0,none⟩=some (.pointer (some ⟨Z.gt,0,none⟩))/\W.cell? ⟨Z.gq,2,none⟩=some (.bool Z.plan)) (by kernel_rfl) (T1.out.cells) (fun hHeld => ?_);refine tk (i:=0) (oi:=⟨some 87,_,_,_,_,_⟩) (v:=?_) rfl ?_ hHeld ?_
   rotate_left
   · intro w hSw;(try dsimp only at hSw);go_simp;(try with_reducible rfl)
   simp only [Act.put,lPt];refine tk (i:=1) (oi:=⟨some 88,_,_,_,_,_⟩) (v:=?_) rfl ?_ hHeld ?_
   rotate_left
   · intro w hSw;(try dsimp only at hSw);go_simp;(try with_reducible rfl)
   simp only [Act.put,lPt];refine tk (i:=2) (oi:=⟨some 89,_,_,_,_,_⟩) (v:=?_) rfl ?_ hHeld ?_
   rotate_left
   · intro w hSw;(try dsimp only at hSw);go_simp;(try with_reducible rfl)
   simp only [Act.put,lPt];refine tk (i:=3) (oi:=⟨some 90,_,_,_,_,_⟩) (v:=?_) rfl ?_ hHeld ?_
   rotate_left
   · intro w hSw;(try dsimp only at hSw);go_simp;(try with_reducible rfl)
   simp only [Act.put,lPt];refine tk (i:=4) (oi:=⟨some 91,_,_,_,_,_⟩) (v:=?_) rfl ?_ hHeld ?_
   rotate_left
   · intro w hSw;(try dsimp only at hSw);go_simp;(try with_reducible rfl)
   simp only [Act.put,lPt];refine tk (i:=5) (oi:=⟨some 92,_,_,_,_,_⟩) (v:=?_) rfl ?_ hHeld ?_
   rotate_left
   · intro w hSw;(try dsimp only at hSw);go_simp;(try with_reducible rfl)
   simp only [Act.put,lPt];refine wpAnyH_ready (rs:=[6]) (by kernel_rfl) (by simp) ?_;refine AllReadyH.cons (o:=⟨some 93,_,_,_,_,_⟩) rfl (fun K hK => ?_) AllReadyH.nil;rw [if_pos (by rfl)];go_simp;refine (rd_ask LAW.out T1.out).mono ?_;rintro e w9 ⟨rfl,hT⟩;have T1:=zh hT;clear hT;refine hK.out _ _ (T1.out.cells) (fun hHeld => ?_);clear hK K
   try simp only [Act.put,lPt]
   refine tk (i:=7) (oi:=⟨some 94,_,_,_,_,_⟩) (v:=?_) rfl ?_ hHeld ?_
   rotate_left
   · intro w hSw;(try dsimp only at hSw);go_simp;(try with_reducible rfl)
   simp only [Act.put,lPt];refine tk (i:=8) (oi:=⟨some 95,_,_,_,_,_⟩) (v:=?_) rfl ?_ hHeld ?_
   rotate_left
   · intro w hSw;(try dsimp only at hSw);go_simp;(try with_reducible rfl)
   simp only [Act.put,lPt];refine tk (i:=9) (oi:=⟨some 96,_,_,_,_,_⟩) (v:=?_) rfl ?_ hHeld ?_
   rotate_left
   · intro w hSw;(try dsimp only at hSw);go_simp;(try with_reducible rfl)
   simp only [Act.put,lPt];refine tk (i:=10) (oi:=⟨some 97,_,_,_,_,_⟩) (v:=?_) rfl ?_ hHeld ?_
   rotate_left
   · intro w hSw;(try dsimp only at hSw);go_simp;(try with_reducible rfl)
   simp only [Act.put,lPt];refine tk (i:=11) (oi:=⟨some 98,_,_,_,_,_⟩) (v:=?_) rfl ?_ hHeld ?_
   rotate_left
   · intro w hSw;(try dsimp only at hSw);go_simp;(try with_reducible rfl)
   simp only [Act.put,lPt];refine tk (i:=12) (oi:=⟨some 99,_,_,_,_,_⟩) (v:=?_) rfl ?_ hHeld ?_
   rotate_left
   · intro w hSw;(try dsimp only at hSw);go_simp;(try with_reducible rfl)
   simp only [Act.put,lPt];refine wpAnyH_ready (rs:=[13]) (by kernel_rfl) (by simp) ?_;refine AllReadyH.cons (o:=⟨some 100,_,_,_,_,_⟩) rfl (fun K hK => ?_) AllReadyH.nil;rw [if_pos (by rfl)];go_simp;refine (rd_busy LAW.out T1.out (.inl rfl)).mono ?_;rintro e w10 ⟨rfl,hT⟩;have T1:=zh hT;clear hT;refine hK.out _ _ (T1.out.cells) (fun hHeld => ?_);clear hK K
   try simp only [Act.put,lPt]
   refine tk (i:=14) (oi:=⟨some 101,_,_,_,_,_⟩) (v:=?_) rfl ?_ hHeld ?_
   rotate_left
   · intro w hSw;(try dsimp only at hSw);go_simp;(try with_reducible rfl)
   simp only [Act.put,lPt];refine tk (i:=15) (oi:=⟨some 102,_,_,_,_,_⟩) (v:=?_) rfl ?_ hHeld ?_
   rotate_left
   · intro w hSw;(try dsimp only at hSw);go_simp;(try with_reducible rfl)
   simp only [Act.put,lPt];refine tk (i:=16) (oi:=⟨some 103,_,_,_,_,_⟩) (v:=?_) rfl ?_ hHeld ?_
   rotate_left
   · intro w hSw;(try dsimp only at hSw);go_simp;(try with_reducible rfl)
   simp only [Act.put,lPt];refine tk (i:=17) (oi:=⟨some 104,_,_,_,_,_⟩) (v:=?_) rfl ?_ hHeld ?_
   rotate_left
   · intro w hSw;(try dsimp only at hSw);go_simp;(try with_reducible rfl)
   simp only [Act.put,lPt];refine tk (i:=18) (oi:=⟨some 105,_,_,_,_,_⟩) (v:=?_) rfl ?_ hHeld ?_
   rotate_left
   · intro w hSw;(try dsimp only at hSw);go_simp;(try with_reducible rfl)
   simp only [Act.put,lPt];refine wpAnyH_ready (rs:=[19]) (by kernel_rfl) (by simp) ?_;refine AllReadyH.cons (o:=⟨some 106,_,_,_,_,_⟩) rfl (fun K hK => ?_) AllReadyH.nil;rw [if_pos (by rfl)];go_simp;refine (rd_bar LAW.out T1.out).mono ?_;rintro e w11 ⟨rfl,hT⟩;have T1:=zh hT;clear hT;refine hK.out _ _ (T1.out.cells) (fun hHeld => ?_);clear hK K
   try simp only [Act.put,lPt]
   refine tk (i:=20) (oi:=⟨some 107,_,_,_,_,_⟩) (v:=?_) rfl ?_ hHeld ?_
   rotate_left
   · intro w hSw;(try dsimp only at hSw);go_simp;(try with_reducible rfl)
   simp only [Act.put,lPt];refine tk (i:=21) (oi:=⟨some 108,_,_,_,_,_⟩) (v:=?_) rfl ?_ hHeld ?_
   rotate_left
   · intro w hSw;(try dsimp only at hSw);go_simp;(try with_reducible rfl)
   simp only [Act.put,lPt];refine tk (i:=22) (oi:=⟨some 109,_,_,_,_,_⟩) (v:=?_) rfl ?_ hHeld ?_
   rotate_left
   · intro w hSw;(try dsimp only at hSw);go_simp;(try with_reducible rfl)
   simp only [Act.put,lPt];refine tk (i:=23) (oi:=⟨some 110,_,_,_,_,_⟩) (v:=?_) rfl ?_ hHeld ?_
   rotate_left
   · intro w hSw;(try dsimp only at hSw);go_simp;(try with_reducible rfl)
   simp only [Act.put,lPt];refine tk (i:=24) (oi:=⟨some 111,_,_,_,_,_⟩) (v:=?_) rfl ?_ hHeld ?_
   rotate_left
   · intro w hSw;(try dsimp only at hSw);go_simp;(try with_reducible rfl)
   simp only [Act.put,lPt];refine tk (i:=25) (oi:=⟨some 112,_,_,_,_,_⟩) (v:=?_) rfl ?_ hHeld ?_
   rotate_left
   · intro w hSw;(try dsimp only at hSw);go_simp;(try with_reducible rfl)
   simp only [Act.put,lPt];refine tk (i:=26) (oi:=⟨some 113,_,_,_,_,_⟩) (v:=?_) rfl ?_ hHeld ?_
   rotate_left
   · intro w hSw;(try dsimp only at hSw);go_simp;(try with_reducible rfl)
   simp only [Act.put,lPt];refine tk (i:=28) (oi:=⟨some 115,_,_,_,_,_⟩) (v:=?_) rfl ?_ hHeld ?_
   rotate_left
   · intro w hSw;(try dsimp only at hSw);go_simp;(try with_reducible rfl)
   simp only [Act.put,lPt];refine tk (i:=29) (oi:=⟨some 116,_,_,_,_,_⟩) (v:=?_) rfl ?_ hHeld ?_
   rotate_left
   · intro w hSw;(try dsimp only at hSw);go_simp;(try with_reducible rfl)
   simp only [Act.put,lPt];refine wpAnyH_ready (rs:=[27]) (by kernel_rfl) (by simp) ?_;refine AllReadyH.cons (o:=⟨some 114,_,_,_,_,_⟩) rfl (fun K hK => ?_) AllReadyH.nil;rw [if_pos (by rfl)];go_simp;refine (rd_stop T1.out).mono ?_;rintro e w12 ⟨rfl,hT⟩;have T1:=zh hT;clear hT;refine hK.out _ _ (T1.out.cells) (fun hHeld => ?_);clear hK K
   try simp only [Act.put,lPt]
   refine tk (i:=30) (oi:=⟨some 117,_,_,_,_,_⟩) (v:=?_) rfl ?_ hHeld ?_
   rotate_left
   · intro w hSw;(try dsimp only at hSw);go_simp;(try with_reducible rfl)
   simp only [Act.put,lPt];refine tk (i:=31) (oi:=⟨some 118,_,_,_,_,_⟩) (v:=?_) rfl ?_ hHeld ?_
   rotate_left
   · intro w hSw;(try dsimp only at hSw);go_simp;(try with_reducible rfl)
   simp only [Act.put,lPt];refine wpAnyH_done (by kernel_rfl) ?_ _;clear hHeld;have hpp:(Z.plan != Z.plan)=false:=by cases Z.plan <;> rfl
   go_upto_region 21 with fail;have q2:=T1.out.cells.2;go_upto_if 120 with fail;go_cut [131] (fun _ wx=>Hid (Z.T (evB Z.l cut Z.bar cut) Itm.zero false [Z.ackC cut] cut wx))
   case first =>
    as_aux_lemma =>
    -- @dev
    obtain ⟨pl,hpl⟩:=nm (Z.plan);rw [<- hpl] at T1 q2 ⊢;clear hpl hpp
    cases pl with
    | false =>
     go_wp2_with fail;go_meet
     case rel=>exact T1
    | true =>
     have HW:=zh (rd_stands LAW.out T1.out (by simp) (.inl rfl));clear T1;go_wp2_with fail;refine HW.out.mono ?_;rintro e w13 ⟨rfl,hT⟩;have T2:=zh hT;have HB:=zh (rd_busy LAW.out hT (.inr rfl));have q0:=hT.cells.1;clear hT HW q2;go_wp2_with fail;refine HB.out.mono ?_;rintro e w14 ⟨rfl,hT⟩;have HR:=zh (rd_resume hT);have q9:=hT.cells.1;clear hT HB q0 T2;go_wp2_with fail;refine HR.out.mono ?_;rintro e w15 ⟨rfl,hT⟩;have T2:=zh hT;clear hT HR q9;go_wp2_with fail;go_meet
     case rel=>exact T2
    -- @end
   case rest =>
    have T1:=hcut;clear hcut q2 hpp;go_upto_region 26 with fail;go_loopg [15] (mi - cut) (fun q s15 wr=>∃ k:Nat,cut<=k/\k<=mi/\q=mi - k/\s15=.int .i64 k/\Hid (Z.T (evB Z.l cut Z.bar k) Itm.zero false [Z.ackC cut] k wr))
    case atStart=>exact ⟨cut,Nat.le_refl _,hcm,rfl,rfl,T1⟩
    case round =>
     clear T1 hki';obtain ⟨k8,hck,hkm,rfl,rfl,T1⟩:=hrel
     by_cases hkc:k8 < mi
     ·
      have hki':(k8:Int) < (mi:Int):=by omega
      have HW:=zh (rd_b LAW.out T1.out (by simp) hck (by rw [<- HMI.out];exact hkc));clear T1;go_wp2_with fail;refine HW.out.mono ?_;rintro e w13 ⟨rfl,hT⟩;have T2:=zh hT;clear hT HW;go_wp2_with fail;go_roundg (mi - (k8+1))
      case measure=>omega
      case rel=>exact ⟨k8+1,by omega,hkc,rfl,by go_num,T2⟩
     ·
      have hki':¬ (k8:Int) < (mi:Int):=by omega
      have e9:k8=Z.l.length:=(by rw [<- HMI.out];omega);rw [e9] at T1;have HW:=zh (rd_stands LAW.out T1.out (by simp) (.inr (Nat.le_refl _)));clear hck hkm hkc e9 T1;go_wp2_with fail;refine HW.out.mono ?_;rintro e w13 ⟨rfl,hT⟩;have T1:=zh hT;obtain ⟨ab,ao,ac,a3,a2,a5⟩:=rd_acks hT;clear hT HW;go_upto_region 32 with fail;clear a3 a2 a5;go_wp2_with fail;refine T1.out.lens.mono ?_;rintro e w14 ⟨lA,lc,rfl,hown,f14⟩;have T2:=zh (T1.out.fr0 f14);have HB:=zh (T2.out.between LAW.out lA lc _ (Reads.of_own hown) (Nat.le_refl _));clear hown f14 T1;go_wp2_with fail;refine HB.out.mono ?_;rintro e w15 ⟨rB,cB,rfl,hown,f15⟩;have T1:=zh (T2.out.fr0 f15);have RA:=zh (Reads.of_own hown);obtain ⟨N,hN⟩:=nm ((flatR Z.R Z.P).length)
      have hNc:N<=cB:=by
       obtain ⟨_,_,e,_,hle,_⟩:=ownsRow_shape hown;injection e with _ _ e2
       omega
      rw [<- hN] at RA ⊢;have HN:=zh hN;have hN1:N<=1000:=(by rw [hN];exact LAW.out.flat);clear hN hown f15 HB T2;go_upto_region 35 with fail;go_loopg [17,18] Z.i (fun q s17 s18 wr=>∃ k:Nat,k<=Z.i/\q=Z.i - k/\s17=.int .i64 ((flatR Z.R k).length:Nat)/\s18=.int .i64 k/\Hid (Z.T (evB Z.l cut Z.bar Z.l.length) Itm.zero false [Z.ackC cut] Z.l.length wr)/\Hid (Reads wr wr.heap.size 3 rB N (cellsR (flatR Z.R Z.P))))
      case atStart=>exact ⟨0,Nat.zero_le _,rfl,rfl,rfl,T1,RA⟩
      case round =>
       clear T1 RA;obtain ⟨k7,hk7,rfl,rfl,rfl,T1,RA⟩:=hrel;obtain ⟨f0,hf0⟩:=nm ((flatR Z.R k7).length);have hf1:f0<=1000:=(by rw [hf0];exact Nat.le_trans (flatR_le Z.R (by omega)) LAW.out.flat)
       by_cases hkc:k7 < Z.i
       ·
        have hki':(k7:Int) < (Z.i:Int):=by omega
        have hkP:(k7:Int) < (Z.P:Int):=(by omega);have hk0':(0:Int)<=(k7:Int):=(by omega);obtain ⟨x7,hx7⟩:=nm ((Z.R k7).length);have hx60:x7<=60:=(by rw [hx7];exact LAW.out.few k7);have HFS:=zh (show (flatR Z.R (k7+1)).length=f0+x7 by rw [flatR_succ,List.length_append,hf0,hx7]);have hfw:IntKind.i64.wrap ((f0:Int)+(x7:Int))=((f0+x7:Nat):Int):=(by rw [IntKind.wrap_i64];omega);rw [<- hf0];go_wp2_with fail;refine T1.out.lens.mono ?_;rintro e w16 ⟨lA,lc,rfl,hown,f16⟩;have T2:=zh (T1.out.fr0 f16);have RA2:=zh ((RA.out.fr f16 (Nat.le_refl _) (by simp)).more f16.size);obtain ⟨bo,oo,hoA,_,hcell⟩:=(Reads.of_own hown).2 (by omega);subst hoA;have x0:w16.cell? ⟨bo,oo+k7,none⟩=some (.int .i64 (x7:Int)):=(by rw [hx7];exact hcell k7 _ (lensL_get (by omega)));clear hown f16 hcell T1 RA hx7;go_wp2_with fail;go_roundg (Z.i - (k7+1))
        case measure=>omega
        case rel=>exact ⟨k7+1,hkc,rfl,by rw [HFS.out,<- hf0];exact congrArg (Value.int .i64) (by omega),by go_num,T2,RA2⟩
       ·
        have hki':¬ (k7:Int) < (Z.i:Int):=by omega
        have e9:k7=Z.i:=(by omega);rw [e9] at hf0 ⊢;rw [<- hf0];obtain ⟨t9,ht9⟩:=flatR_split Z.R LAW.out.ok.hi;have hsum:f0+mi<=N:=(by rw [HN.out,ht9,List.length_append,List.length_append,hf0,HMI.out];show _+(Z.R Z.i).length<=_;omega);have hfw:IntKind.i64.wrap ((f0:Int)+(mi:Int))=((f0+mi:Nat):Int):=(by rw [IntKind.wrap_i64];omega);have RP:=zh (recs_part (f:=f0) (mi:=mi) RA.out HN.out hNc ⟨_,ht9,hf0⟩ HMI.out);have hs1:(0:Int)<=(f0:Int):=(by omega);have hs2:(f0:Int)<=((f0+mi:Nat):Int):=(by omega);have hs3:((f0+mi:Nat):Int)<=(cB:Int):=(by omega);clear RA hf0 ht9 hkc e9 hk7;go_upto_region 39 with fail;rw [Nat.add_sub_cancel_left];obtain ⟨rP,hrP⟩:=nm ((if cB=f0 then rB else Option.map (fun x=>x.add (f0 * 3)) rB));rw [<- hrP] at RP ⊢;obtain ⟨cP,hcP⟩:=nm (cB - f0);rw [<- hcP];clear hrP hcP hs1 hs2 hs3 hfw hsum hNc HN hN1 hf1 hki' hki hk00 hi0;obtain ⟨dA,dc,gd,kd2,hgd,hdr,hdd⟩:=rd_drains (by rw [<- HMI.out];exact hcm) T1.out;obtain ⟨nd9,hnd9⟩:=nm (Z.om.length);rw [<- hnd9] at kd2 hgd hdr;have HND:=zh hnd9;have hnd24:nd9<=24:=(by rw [hnd9];exact om_few LAW.out);have HGD:=zh hgd;have HDR:=zh hdr;have HDD:=zh hdd;clear hgd hdr hdd hnd9;obtain ⟨E,rfl⟩:=nm (wr);have RPX:=zh (fun W (f:Fr E.heap.size [] E W)=>(RP.out.fr f (Nat.le_refl _) (by simp):Reads W E.heap.size 3 rP mi (cellsR Z.l)));have TX:=zh (fun W (f:Fr E.heap.size [] E W)=>(T1.out.fr0 f).cells.2);have NX:=zh (fun W (f:Fr E.heap.size [] E W)=>H.out.frw ((T1.out.frame LAW.out).nx f) (Nat.le_refl _) (by simp));have FX:=zh (T1.out.frame LAW.out);clear RP T1 H;go_upto_region 40 with fail;clear kd2;go_loopg [20,21,22,23,24,206] nd9 (fun q s20 s21 s22 s23 s24 s206 wl=>∃ j:Nat,j<=nd9/\q=nd9 - j/\s206=.int .i64 j/\(s20=undef \/ ∃ a,s20=.pointer a)/\(s21=undef \/ ∃ a,s21=.pointer a)/\(s22=undef \/ ∃ A n c,s22=.slice A n c)/\(s23=undef \/ ∃ z,s23=.int .i64 z)/\(s24=undef \/ ∃ z,s24=.int .i64 z)/\Hid (Fr E.heap.size [] E wl))
        case atStart=>exact ⟨0,Nat.zero_le _,rfl,rfl,.inl rfl,.inl rfl,.inl rfl,.inl rfl,.inl rfl,zh (Fr.refl _ _ _)⟩
        case round =>
         obtain ⟨j,hj,rfl,rfl,hs20,hs21,hs22,hs23,hs24,FE⟩:=hrel;have HS24:=zh hs24;clear hs20 hs21 hs22 hs23 hs24
         by_cases hjn:j < nd9
         ·
          have hji:(j:Int) < (nd9:Int):=by omega
          obtain ⟨⟨mc,mt,mch⟩,hm⟩:∃ m,Z.om[j]?=some m:=⟨_,List.getElem?_eq_getElem (by rw [<- HND.out];exact hjn)⟩;obtain ⟨gk,hgk⟩:∃ gk,gd[j]?=some gk:=⟨_,List.getElem?_eq_getElem (by rw [HGD.out];exact hjn)⟩;obtain ⟨bd,od,hdA,_,_,hcell⟩:=Reads.elem ptrF_len (HDR.out.fr FE.out (Nat.le_refl _) (by simp)) hgk (by omega);have y0:=hcell 0 _ rfl;simp only [Nat.add_zero,Nat.mul_one] at y0;obtain ⟨gi,gA,gc,hbk,hgr⟩:=HDD.out j gk (mc,mt,mch) hgk hm;simp only at hbk;obtain ⟨nG,hnG⟩:=nm ((Z.want cut j (Z.l.length+1)).length);rw [<- hnG] at hbk hgr;have HNG:=zh hnG;have hnG2:nG<=200:=(by rw [hnG];exact want_len LAW.out _ _ _);have DB:=zh (fun W (f:Fr E.heap.size [] E W)=>hbk.fr f hbk.lt (by simp));have GR:=zh (fun W (f:Fr E.heap.size [] E W)=>hgr.fr f (Nat.le_refl _) (by simp));obtain ⟨n2,hn2,hsel⟩:=want_sel LAW.out hm;simp only at hn2 hsel;have HSEL:=zh hsel
          obtain ⟨kk,m2,hk2,hmk2,hmn2⟩:∃ (kk:Nat) (m:Ndm),ixN L mc=(kk:Int)/\M[kk]?=some m/\m.1=n2:=by
           rcases ixN_cases L mc with ⟨_,h2⟩ | ⟨k,x,h1,h2,h3⟩
           · rw [hn2] at h2;cases h2
           ·
            rw [hn2] at h3;injection h3 with h3
            rw [HL.out] at h2;unfold fstN at h2;rw [List.getElem?_map] at h2
            cases hm:M[k]? with
            | none=>rw [hm] at h2;cases h2
            | some m =>
             rw [hm] at h2;injection h2 with h2
             exact ⟨k,m,h1,hm,h2.trans h3.symm⟩
          obtain ⟨n2',sf2,sp2⟩:=m2;obtain rfl:n2'=n2:=hmn2;have hkn2:kk < n:=(by rw [(NX.out _ FE.out).num];exact (List.getElem?_eq_some_iff.1 hmk2).1);have hki2:(kk:Int) < (n:Int):=Int.ofNat_lt.2 hkn2;have hk02:(0:Int)<=(kk:Int):=Int.natCast_nonneg _;have h6:n<=1000000:=Nat.le_trans hn20 (Nat.le_of_ble_eq_true rfl);have h8:=rfind_any mc (some ⟨b1,o1,none⟩) c w.heap.size n M wr (NX.out wr FE.out) h6;rw [<- HL.out,hk2] at h8;have HFI:=zh h8;clear h6 h8;obtain ⟨⟨Af2,cf2,hf1,hf2⟩,⟨Ap2,cp2,hp91,hp92⟩⟩:=(NX.out _ FE.out).inn _ (List.mem_of_getElem? hmk2);simp only at hf1 hf2 hp91 hp92;subst hf1 hp91;obtain ⟨b3,o3,hA3,_,hcl⟩:=(NX.out _ FE.out).get hmk2;injection hA3 with hA3
          injection hA3 with e1 e2
          subst e1 e2;have p0:=hcl 0 _ rfl;have p1:=hcl 1 _ rfl;have p2:=hcl 2 _ rfl;have p3:=hcl 3 _ rfl;have p4:=hcl 4 _ rfl;have p5:=hcl 5 _ rfl;have p6:=hcl 6 _ rfl;have p7:=hcl 7 _ rfl;have p8:=hcl 8 _ rfl;have p9:=hcl 9 _ rfl;have p10:=hcl 10 _ rfl;have p11:=hcl 11 _ rfl;have p12:=hcl 12 _ rfl;simp only [Nat.add_zero] at p0;have d1:wr.cell? ⟨gk,1,none⟩=some (.int .i64 mc):=(DB.out _ FE.out).cell 1;have fa:=(Fr.refl wr.heap.size [] wr).alloc (Nat.le_refl _) (.cells (ndA n2' (.slice Af2 n2'.fr.length cf2) (.slice Ap2 n2'.pg.length cp2)) 66);have FE5:=zh (FE.out.nx fa);have BN:=zh (Blk.new wr 66 (ndA n2' (.slice Af2 n2'.fr.length cf2) (.slice Ap2 n2'.pg.length cp2)));rw [hdA];clear hm hgk hcell hbk hgr hnG hsel hn2 hk2 hmk2 hf2 hp92 hcl fa;go_wp2_with fail;refine HFI.out.mono ?_;rintro e w16 ⟨rfl,rfl⟩;clear HFI y0 d1;go_upto_region 45 with fail;obtain ⟨gn2,hgn2⟩:=nm (wr.heap.size);rw [<- hgn2] at BN ⊢;clear hgn2 p0 p1 p2 p3 p4 p5 p6 p7 p8 p9 p10 p11 p12 FE;generalize wr.alloc _=w5 at *;have CR0:=zh (CR.nil (fun _=>0) 7 w5 46 6);have CC0:=zh (Cg.refl (· = 7) (fun _=>0) w5);go_loopg [22,23] (mi+1) (fun q s22 s23 wx=>∃ k:Nat,k<=mi+1/\q=mi+1 - k/\s23=.int .i64 k/\∃ Aw nw cw colx,s22=.slice Aw nw cw/\Hid (nw=(Z.want cut j k).length)/\Hid (CR colx 7 wx 46 6 (.slice Aw nw cw) nw (itmsC (Z.want cut j k)))/\Hid (Cg (· = 7) (fun _=>0) w5 colx wx))
          case atStart=>exact ⟨0,Nat.zero_le _,rfl,rfl,none,0,0,fun _=>0,rfl,zh (by rw [want_0];rfl),zh (by rw [want_0];exact CR0.out),CC0⟩
          case round =>
           clear CR0 CC0;obtain ⟨k5,hk5,rfl,rfl,Aw,nw,cw,colx,rfl,HNW,WR,WC⟩:=hrel;have F5:=zh (WC.out.fr (Nat.le_refl _) (fun _ _ h=>absurd h (by decide)))
           by_cases hk6:k5<=mi
           ·
            have hki5:(k5:Int)<=(mi:Int):=Int.ofNat_le.2 hk6;have hnw:nw<=200:=(by rw [HNW.out];exact want_len LAW.out _ _ _);obtain ⟨pl,hpl⟩:=nm (Z.plan);have q2:=TX.out _ (FE5.out.nx F5.out);rw [<- hpl] at q2;have HBR:=zh (show Z.bar=⟨true,0,0,0,7,pl⟩ by rw [hpl];rfl);clear hpl F5;go_upto_if 226 with fail;go_cut [22] (fun s22 wx=>∃ Aw nw cw colx,s22=.slice Aw nw cw/\Hid (nw=(Z.mid cut j k5).length)/\Hid (CR colx 7 wx 46 6 (.slice Aw nw cw) nw (itmsC (Z.mid cut j k5)))/\Hid (Cg (· = 7) (fun _=>0) w5 colx wx))
            case first =>
             by_cases hkc:k5=cut
             ·
              have hkb:((k5:Int) == (cut:Int))=true:=by rw [hkc];exact beq_self_eq_true _
              have fa:=(Fr.refl wr.heap.size [] wr).alloc (Nat.le_refl _) (.cells #[.bool true,.int .i64 0,.int .i64 0,.int .i64 0,.int .i64 7,.bool pl] 46);have BS:=zh (Blk.new wr 46 #[.bool true,.int .i64 0,.int .i64 0,.int .i64 0,.int .i64 7,.bool pl]);have WR:=zh (WR.out.cg (cg0 fa) (fun h=>h));have WC:=zh (WC.out.trans (cgf _ fa));have HML:=zh (show nw+1=(Z.mid cut j k5).length by rw [mid_yes Z hkc,List.length_append,HNW.out];rfl);have HMI2:=zh (show itmsC (Z.want cut j k5) ++ itF ⟨true,0,0,0,7,pl⟩=itmsC (Z.mid cut j k5) by rw [mid_yes Z hkc,itmsC_snoc,HBR.out]);clear fa hkc;go_wp2_with (at_builtin;refine wpList_appC _ rfl (.tmp 227) (.tmp 231) itemTyD rfl _ nw _ rfl WR.out (wr.heap.size+1) (some ⟨wr.heap.size,0,none⟩) 1 1 (itF ⟨true,0,0,0,7,pl⟩) rfl (Reads.of_blk (m:=1) (size:=6) BS.out rfl) (itF_ones _) (by omega) (by omega) ?_);intro A' c' w8 hrow hap hgr;rw [HMI2.out] at hrow;have WR:=zh hrow;have WC:=zh (WC.out.trans hap);clear hrow hap hgr BS HMI2;generalize paint colx _ _=col8 at *;go_wp2_with fail;go_meet
              case rel=>exact ⟨A',nw+1,c',col8,rfl,HML,WR,WC⟩
             ·
              have hkb:((k5:Int) == (cut:Int))=false:=beq_eq_false_iff_ne.2 (fun e=>hkc (Int.ofNat.inj e));go_wp2_with fail;go_meet
              case rel=>exact ⟨Aw,nw,cw,colx,rfl,by rw [mid_no Z hkc];exact HNW,by rw [mid_no Z hkc];exact WR,WC⟩
            case rest =>
             clear HNW WR WC hnw q2 HBR;obtain ⟨Aw,nw,cw,colx,rfl,HNW,WR,WC⟩:=hcut;go_upto_region 49 with fail;have F5:=zh (WC.out.fr (Nat.le_refl _) (fun _ _ h=>absurd h (by decide)));have F9:=zh (FE5.out.nx F5.out);have hnw:nw<=300:=(by rw [HNW.out];exact mid_len LAW.out _ _ _);have HCL:=zh (show cut<=Z.l.length by rw [<- HMI.out];exact hcm)
             by_cases hkm:k5 < mi
             ·
              have hkmi:(k5:Int) < (mi:Int):=Int.ofNat_lt.2 hkm;obtain ⟨x,hx⟩:∃ x,Z.l[k5]?=some x:=⟨_,List.getElem?_eq_getElem (by rw [<- HMI.out];exact hkm)⟩;obtain ⟨bp,op,hPA,hbp,_,hcell⟩:=Reads.elem (f:=recC) (fun _=>rfl) (RPX.out _ F9.out) hx (by decide);have y0:=hcell 0 _ rfl;have y1:=hcell 1 _ rfl;have y2:=hcell 2 _ rfl;simp only [Nat.add_zero] at y0;obtain ⟨q8,hq8,hq9,hqt,hqw,hqe⟩:=rec_key (LAW.out.ok.hx x (List.mem_of_getElem? hx));obtain ⟨rv,hrv⟩:=nm (n2'.rt q8);have n5:wc.cell? ⟨gn2,5+q8,none⟩=some (.int .i64 rv):=(by rw [hrv];exact ((BN.out.fr F5.out BN.out.lt (by simp)).cell (5+q8)).trans (ndA_rt _ _ _ hq8));have d2:wc.cell? ⟨gk,2,none⟩=some (.int .i64 mt):=(DB.out _ F9.out).cell 2;obtain ⟨cb,hcb⟩:=nm ((rv == mt));have HWN:=zh (mid_next Z HCL.out hx (b:=cb) (by rw [HSEL.out,hq9,<- hrv,hcb];rfl));have hcb':=hcb.symm;have hq0:(0:Int)<=(q8:Int):=Int.natCast_nonneg _;have hq1:(q8:Int) < 8:=Int.ofNat_lt.2 hq8;have HX:=zh hx;rw [hPA];clear hx hcell hrv hcb F5 hq9 hq8
              cases cb with
              | false =>
               have HW2:=zh (show Z.want cut j (k5+1)=Z.mid cut j k5 from HWN.out);clear HWN;go_quiet (fail);go_wp2_with fail;rw [<- hPA];go_roundg (mi+1 - (k5+1))
               case measure=>omega
               case rel=>exact ⟨k5+1,by omega,rfl,by go_num,Aw,nw,cw,colx,rfl,by rw [HW2.out];exact HNW,by rw [HW2.out];exact zh (WR.out.cg (cg0 ((Fr.refl _ _ _).drewN _)) (fun h=>h)),zh (WC.out.trans (cgf _ ((Fr.refl _ _ _).drewN _)))⟩
              | true =>
               have HW2:=zh (show Z.want cut j (k5+1)=Z.mid cut j k5 ++ [recI x] from HWN.out);clear HWN;have hbp2:bp < wc.heap.size:=Nat.lt_of_lt_of_le hbp F9.out.size;go_quiet (fail);have fd:Fr wc.heap.size [] wc (wc.drewN nq):=(Fr.refl _ _ _).drewN nq;have z0:=(fd.cell (p:=⟨bp,op+k5 * 3,none⟩) hbp2 (by simp)).trans y0;have z1:=(fd.cell (p:=⟨bp,op+k5 * 3+1,none⟩) hbp2 (by simp)).trans y1;have z2:=(fd.cell (p:=⟨bp,op+k5 * 3+2,none⟩) hbp2 (by simp)).trans y2;have WR:=zh (WR.out.cg (cg0 fd) (fun h=>h));have WC:=zh (WC.out.trans (cgf _ fd));clear fd y0 y1 y2 n5 d2 hqt hqw hqe hq0 hq1 hcb' F9 hbp hbp2;generalize wc.drewN nq=wd at *;have fa:=(Fr.refl wd.heap.size [] wd).alloc (Nat.le_refl _) (.cells #[.bool false,.int .i64 (x 0),.int .i64 (x 1),.int .i64 (x 2),.int .i64 0,.bool false] 46);have BS:=zh (Blk.new wd 46 #[.bool false,.int .i64 (x 0),.int .i64 (x 1),.int .i64 (x 2),.int .i64 0,.bool false]);have WR:=zh (WR.out.cg (cg0 fa) (fun h=>h));have WC:=zh (WC.out.trans (cgf _ fa));have HML:=zh (show nw+1=(Z.want cut j (k5+1)).length by rw [HW2.out,List.length_append,HNW.out];rfl);have HMI2:=zh (show itmsC (Z.mid cut j k5) ++ itF ⟨false,x 0,x 1,x 2,0,false⟩=itmsC (Z.want cut j (k5+1)) by rw [HW2.out,itmsC_snoc];rfl);clear fa HW2;go_wp2_with (at_builtin;refine wpList_appC _ rfl (.tmp 252) (.tmp 258) itemTyD rfl _ nw _ rfl WR.out (wd.heap.size+1) (some ⟨wd.heap.size,0,none⟩) 1 1 (itF ⟨false,x 0,x 1,x 2,0,false⟩) rfl (Reads.of_blk (m:=1) (size:=6) BS.out rfl) (itF_ones _) (by omega) (by omega) ?_);intro A' c' w8 hrow hap hgr;rw [HMI2.out] at hrow;have WR:=zh hrow;have WC:=zh (WC.out.trans hap);clear hrow hap hgr BS HMI2 z0 z1 z2;generalize paint colx _ _=col8 at *;go_wp2_with fail;rw [<- hPA];go_roundg (mi+1 - (k5+1))
               case measure=>omega
               case rel=>exact ⟨k5+1,by omega,rfl,by go_num,A',nw+1,c',col8,rfl,HML,WR,WC⟩
             ·
              have hkmi:¬ (k5:Int) < (mi:Int):=fun e=>hkm (Int.ofNat_lt.1 e);have HW2:=zh (mid_end Z (j:=j) (k:=k5) HCL.out (by rw [<- HMI.out];exact hkm));clear F5 F9 hnw hkm;go_quiet (fail);go_wp2_with fail;go_roundg (mi+1 - (k5+1))
              case measure=>omega
              case rel=>exact ⟨k5+1,by omega,rfl,by go_num,Aw,nw,cw,colx,rfl,by rw [HW2.out];exact HNW,by rw [HW2.out];exact zh (WR.out.cg (cg0 ((Fr.refl _ _ _).drewN _)) (fun h=>h)),zh (WC.out.trans (cgf _ ((Fr.refl _ _ _).drewN _)))⟩
           ·
            have hki5:¬ (k5:Int)<=(mi:Int):=fun e=>hk6 (Int.ofNat_le.1 e);have F9:=zh (FE5.out.nx F5.out);have hke:k5=Z.l.length+1:=(by rw [<- HMI.out];omega);have hnn:nw=nG:=(by rw [HNW.out,hke,<- HNG.out]);have WW:=zh (by have h9:=WR.out;rw [hke] at h9;exact h9:CR colx 7 wr 46 6 (.slice Aw nw cw) nw (itmsC (Z.want cut j (Z.l.length+1))));have d3:wr.cell? ⟨gk,3,none⟩=some (.slice gA nG gc):=(DB.out _ F9.out).cell 3;have GR9:=zh (GR.out _ F9.out);have D3:=zh (fun W (f:Fr wr.heap.size [] wr W)=>(by rw [hnn];exact (DB.out _ (F9.out.nx f)).cell 3:W.cell? ⟨gk,3,none⟩=some (.slice gA nw gc)));have hnw:nw<=200:=(by rw [hnn];exact hnG2);rw [<- hnn] at d3 GR9;have HNN:=zh (show nw=(Z.want cut j (Z.l.length+1)).length by rw [hnn,HNG.out]);have HW6:=zh (fun W (f:Fr wr.heap.size [] wr W)=>(WW.out.rd.1.fr f (Nat.le_refl _) (by simp):Reads W wr.heap.size 6 Aw nw (itmsC (Z.want cut j (Z.l.length+1)))));have HG6:=zh (fun W (f:Fr wr.heap.size [] wr W)=>(GR9.out.fr f F9.out.size (by simp):Reads W E.heap.size 6 gA nw (itmsC (Z.want cut j (Z.l.length+1)))));clear hnn hke F5 WR WC HNW hk6 WW GR9;go_upto_region 54 with fail;clear d3;go_loopg [24,270] nw (fun q s24 s270 wx=>∃ i:Nat,i<=nw/\q=nw - i/\s270=.int .i64 i/\Hid (s24=undef \/ ∃ z,s24=.int .i64 z)/\Hid (Fr wr.heap.size [] wr wx))
            case atStart=>exact ⟨0,Nat.zero_le _,rfl,rfl,HS24,zh (Fr.refl _ _ _)⟩
            case round =>
             obtain ⟨i6,hi6,rfl,rfl,HS6,F6⟩:=hrel
             by_cases hin:i6 < nw
             ·
              have hii:(i6:Int) < (nw:Int):=Int.ofNat_lt.2 hin;have hi0:(0:Int)<=(i6:Int):=Int.natCast_nonneg _;obtain ⟨⟨jb,jk,jre,jim,jep,jp⟩,hit⟩:∃ it,(Z.want cut j (Z.l.length+1))[i6]?=some it:=⟨_,List.getElem?_eq_getElem (by rw [<- HNN.out];exact hin)⟩;obtain ⟨b7,o7,hA7,_,_,hc7⟩:=Reads.elem itF_len (HW6.out _ F6.out) hit (by decide);obtain ⟨b8,o8,hA8,_,_,hc8⟩:=Reads.elem itF_len (HG6.out _ F6.out) hit (by decide);have z0:=hc7 0 _ rfl;have z1:=hc7 1 _ rfl;have z2:=hc7 2 _ rfl;have z3:=hc7 3 _ rfl;have z4:=hc7 4 _ rfl;have z5:=hc7 5 _ rfl;have v0:=hc8 0 _ rfl;have v1:=hc8 1 _ rfl;have v2:=hc8 2 _ rfl;have v3:=hc8 3 _ rfl;have v4:=hc8 4 _ rfl;have v5:=hc8 5 _ rfl;simp only [Nat.add_zero] at z0 v0;have d3:=D3.out _ F6.out;rw [hA8] at d3;rw [hA7];clear hc7 hc8 hit hA8;go_upto_region 56 with fail;go_quiet (fail);go_wp2_with fail;rw [<- hA7];go_roundg (nw - (i6+1))
              case measure=>omega
              case rel=>exact ⟨i6+1,hin,rfl,by go_num,zh (.inr ⟨_,rfl⟩),zh (F6.out.drewN _)⟩
             ·
              have hii:¬ (i6:Int) < (nw:Int):=fun e=>hin (Int.ofNat_lt.1 e);go_wp2_with fail;rw [<- hdA];go_roundg (nd9 - (j+1))
              case measure=>omega
              case rel=>exact ⟨j+1,hjn,rfl,by go_num,.inr ⟨_,rfl⟩,.inr ⟨_,rfl⟩,.inr ⟨_,_,_,rfl⟩,.inr ⟨_,rfl⟩,HS6.out,zh (F9.out.nx F6.out)⟩
         ·
          obtain rfl:j=nd9:=by omega
          have hji:¬ (j:Int) < (j:Int):=Int.lt_irrefl _;have FF:=zh (FX.out.nx FE.out);go_wp2_with fail;go_ret;exact ⟨rfl,FF.out.below⟩
end Go.Proofs.YtgblfflikgnfpaaGreat
