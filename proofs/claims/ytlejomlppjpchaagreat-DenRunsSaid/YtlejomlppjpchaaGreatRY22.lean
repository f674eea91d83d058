/- Texts merged into one, for the number of files a claim may have: R15, R16, DnG, DnU, DenRuns. -/
import Derived.Test.YtlejomlppjpchaaGreatRY5
import Derived.Test.YtlejomlppjpchaaGreatRY10
import Derived.Test.YtlejomlppjpchaaGreatRY11
import Derived.Test.YtlejomlppjpchaaGreatRY13
import Derived.Test.YtlejomlppjpchaaGreatRY17
import Derived.Test.YtlejomlppjpchaaGreatRY18
import Derived.Test.YtlejomlppjpchaaGreatRY21
namespace Go.Proofs.YtlejomlppjpchaaGreat
open Go.RowKit Go.Fb
set_option maxRecDepth 100000
set_option maxHeartbeats 16000000
set_option linter.unusedVariables false
def planR (X:GS) (P:List Stp):Int × GS:=if P.length=0 then (0,X) else ((applyR X.L P).1,⟨(applyR X.L P).2.2,kepL X.T P,X.out⟩)
def recsR (X:GS) (R:List (Nat->Int)):Int × GS :=
 if checkN X.L ≠ 0 then (10,X) else if R.all recR=false then (1,X) else (0,⟨X.L,(flowD X.L R (st0 X.T)).T,X.out ++ (flowD X.L R (st0 X.T)).out⟩)
def segR (X:GS) (P:List Stp) (R:List (Nat->Int)):Int × GS:=if (planR X P).1 ≠ 0 then planR X P else recsR (planR X P).2 R
def segsR:List (List Stp × List (Nat->Int))->GS->Int × GS
 | [],X=>(0,X)
 | z :: Z,X=>if (segR X z.1 z.2).1 ≠ 0 then segR X z.1 z.2 else segsR Z (segR X z.1 z.2).2
theorem segsR_err {P:List Stp} {R:List (Nat->Int)} {Z:List (List Stp × List (Nat->Int))} {X:GS} (h:(segR X P R).1 ≠ 0):segsR ((P,R) :: Z) X=segR X P R:=by
 unfold segsR;rw [if_pos h]
theorem segsR_ok {P:List Stp} {R:List (Nat->Int)} {Z:List (List Stp × List (Nat->Int))} {X:GS} (h:(segR X P R).1=0):segsR ((P,R) :: Z) X=segsR Z (segR X P R).2:=by
 conv=>lhs;unfold segsR
 rw [if_neg (fun c=>c h)]
theorem NdX.frL {w w':World} {gu:Nat} {A:Option Addr} {n:Nat} {M:List Ndm} {L:List Nat} (h:NdX w gu A n M) (hg:gu < w.heap.size) (hf:Fr w.heap.size L w w') (h1:∀ q ∈ L,gu<=q) (h2:∀ q ∈ L,0 < n -> ∀ ad,A=some ad->ad.block ≠ q):NdX w' gu A n M :=
 ⟨h.num,(h.rd.frL hf (Nat.le_refl _) (fun hn ad ha hm=>h2 _ hm hn ad ha rfl)).more hf.size,h.off,fun m hm=>(h.inn m hm).frw hf (Nat.le_of_lt hg) h1⟩
theorem NdX.lt {w:World} {gu:Nat} {A:Option Addr} {n:Nat} {M:List Ndm} (h:NdX w gu A n M) (hn:0 < n) {ad:Addr} (ha:A=some ad):ad.block < w.heap.size:=by
 obtain ⟨b,off,e,hb,_⟩:=h.rd.2 hn;rw [ha] at e;injection e with e
 rw [e];exact hb
def st1 (X:GS):DS:=⟨X.T,X.out,fun _=>none⟩
def RSegs (r:Int × GS) (w:World) (e:Ending) (w':World):Prop :=
 (r.1 ≠ 0/\e=.returned (.tuple #[.slice none 0 0,.slice none 0 0,.pointer none,.int .i64 r.1])/\Fr w.heap.size [] w w') \/
 (r.1=0/\∃ Ao no co A n c M gu,e=.returned (.tuple #[.slice Ao no co,.slice A n c,.pointer (some ⟨gu,0,none⟩),.int .i64 0])/\no=r.2.out.length/\no<=5301443000/\w'.ownsRow w.heap.size 69 5 (.slice Ao no co) no (cellsLn r.2.out)/\Nds w' w'.heap.size A n M/\fstN M=r.2.L/\Small M/\n<=c/\CapN M/\RT w' gu r.2.T/\TOk r.2.T/\Fr w.heap.size [] w w')
def CapG (Z:List Sg):Prop:=∀ z ∈ Z,∀ m ∈ z.P,∀ A n c,m.2.1=.slice A n c->n<=c
theorem rsegs_any (A Az:Option Addr) (c cz B n nz:Nat) (M:List Ndm) (Z:List Sg) (w:World) (h:Nds w B A n M) (hB:B<=w.heap.size) (hs:Small M) (hcap:CapN M) (hnc:n<=c) (hZ:Sgs w B Az nz Z) (hsg:∀ z ∈ Z,SmallS z.P/\z.P.length<=1000/\z.R.length<=40) (hcz:CapG Z) (hz5:nz<=5) :
  Calls Tryz.prog 12 #[.slice A n c,.slice Az nz cz] w (RSegs (segsR (bare Z) ⟨fstN M,fun _=>c0,[]⟩) w):=by
 obtain ⟨X0,hX0⟩:=nm (⟨fstN M,fun _=>c0,[]⟩:GS);obtain ⟨r,hr⟩:=nm (segsR (bare Z) X0);rw [<- hX0,<- hr];have HR:=zh hr;have HX0:=zh (show X0.L=fstN M/\X0.T=(fun _=>c0)/\X0.out=[] by rw [hX0];exact ⟨rfl,rfl,rfl⟩);have HSG:=zh hsg;have HCZ:=zh hcz;have HNZ:=zh hZ.num;have HSM:=zh hs;have HCP:=zh hcap;obtain ⟨gu,hgu⟩:=nm (w.heap.size);have HGU:=zh hgu;have fa:=(Fr.refl w.heap.size [] w).alloc (Nat.le_refl _) (.cells Tryz.zeroCells117 117)
 have hru:RT (w.alloc (.cells Tryz.zeroCells117 117)) gu (fun _=>c0):=by
  have h1:=Blk.new w 117 Tryz.zeroCells117
  have e:Tryz.zeroCells117=tabA (fun _=>c0):=by
   rw [tabA_zero]
   kernel_rfl
  unfold RT;rw [<- e,hgu];exact h1
 have HU1:=zh hru;have H1:=zh (h.frw fa hB (by simp));have HZ1:=zh (hZ.frw fa hB (by simp));have F1:=zh fa;have hw1:gu < (w.alloc (.cells Tryz.zeroCells117 117)).heap.size:=hru.lt;rw [<- hgu] at hB;clear hX0 hr hsg hcz h hZ hs hcap fa hru hgu;go_enter Tryz.func12,Tryz.ntmps12;go_upto_region 2 with fail;generalize w.alloc (.cells Tryz.zeroCells117 117)=w1 at *;rw [<- HGU.out];go_upto_region 3 with fail;have FB:=zh ((Fr.refl w1.heap.size [] w1).alloc (Nat.le_refl _) (.cells #[] 69));have HO:=zh (lowns_empty w1);have hb2:w1.heap.size < (w1.alloc (.cells #[] 69)).heap.size:=(by simp);generalize w1.alloc (.cells #[] 69)=w2 at *;obtain ⟨b1,hb1⟩:=nm (w1.heap.size);have HU2:=zh (HU1.out.fr FB.out HU1.out.lt (by simp));have H2:=zh (H1.out.frw FB.out (by omega) (by simp));have HZ2:=zh (HZ1.out.frw FB.out (by omega) (by simp));have F2:=zh (F1.out.nx FB.out);rw [<- hb1] at HO hw1 hb2 ⊢;have hgu2:gu < w2.heap.size:=(by omega);have HJ0:=zh (show PJ gu b1 [b1] w2 w2 (st1 X0) (some ⟨b1,0,none⟩) 0 0 from ⟨by unfold st1;rw [HX0.out.2.2];rfl,by unfold st1;rw [HX0.out.2.2];exact HO.out,by unfold st1;rw [HX0.out.2.1];exact HU2.out,by unfold st1;rw [HX0.out.2.1];exact TOk.zero,Fr.refl _ _ _,fun q hq=>by simp [Value.ownBlock] at hq;exact .inl (by simp [hq]),hw1⟩);have HX2:=zh (NdX.of_low (gu:=gu) (H2.out.more hB) hgu2);have HZS:=zh (fun (W:World) (hf:Fr w2.heap.size [gu,b1] w2 W)=>((HZ2.out.frw hf (by omega) (by simp;omega)):Sgs W B Az nz Z))
 have HNA0 := zh (show ∀ q, (Value.slice (some ⟨b1, 0, none⟩) 0 0).ownBlock = some q -> 0 < n -> ∀ ad, A = some ad -> ad.block ≠ q from fun q hq h0 ad ha => by
  obtain ⟨b,off,e,hb,_⟩:=H2.out.rd.2 h0;rw [ha] at e;injection e with e
  simp [Value.ownBlock] at hq;rw [e];simp only
  omega)
 clear HU1 HU2 H1 H2 HZ1 F1 FB HO hb1;go_wp2_with fail;go_loopg [0,9,10,11,12,13] nz (fun g s0 s9 s10 s11 s12 s13 wr=>∃ (k:Nat) (X:GS) (Al:Option Addr) (nl cl:Nat) (Ml:List Ndm) (Ao:Option Addr) (no co:Nat),k<=nz/\g=nz - k/\s0=.slice Al nl cl/\s9=.slice Ao no co/\s10=.int .i64 k/\(s11=undef \/ ∃ a q z,s11=.slice a q z)/\(s12=undef \/ ∃ a:Int,s12=.int .i64 a)/\(s13=undef \/ ∃ a:Int,s13=.int .i64 a)/\nl<=cl/\no<=k * 1060288600/\Hid (r=segsR (bare (Z.drop k)) X)/\Hid (PJ gu b1 [b1] w2 wr (st1 X) Ao no co)/\Hid (NdX wr gu Al nl Ml/\fstN Ml=X.L/\Small Ml/\CapN Ml)/\Hid (∀ q,(Value.slice Ao no co).ownBlock=some q->0 < nl -> ∀ ad,Al=some ad->ad.block ≠ q))
 case atStart=>exact ⟨0,X0,A,n,c,M,_,0,0,Nat.zero_le _,rfl,rfl,rfl,rfl,.inl rfl,.inl rfl,.inl rfl,hnc,Nat.zero_le _,HR,HJ0,zh ⟨HX2.out,HX0.out.1.symm,HSM.out,HCP.out⟩,HNA0⟩
 case round =>
  clear HR HJ0 HX2 HX0 HNA0;obtain ⟨k,X,Al,nl,cl,Ml,Ao,no,co,hk,rfl,rfl,rfl,rfl,h11,h12,h13,hlc,hno,HX,HJ,HM,HNA⟩:=hrel;have hszr:=HJ.out.fr.size;have hgur:gu < wr.heap.size:=(by omega)
  by_cases hkn:k < nz
  case pos =>
   have hki:(k:Int) < (nz:Int):=(by omega);have hk0:(0:Int)<=(k:Int):=(by omega);obtain ⟨z,hz⟩:∃ z,Z[k]?=some z:=⟨_,List.getElem?_eq_getElem (by rw [<- HNZ.out];exact hkn)⟩;have hzs:=HSG.out z (List.mem_of_getElem? hz);have hzc:=HCZ.out z (List.mem_of_getElem? hz)
   have hdr:Z.drop k=z :: Z.drop (k+1):=by
    obtain ⟨hlt,hg⟩:=List.getElem?_eq_some_iff.1 hz;rw [List.drop_eq_getElem_cons hlt,hg]
   rw [hdr] at HX;obtain ⟨bz,oz,rfl,hbz,hq0,hq1⟩:=(HZS.out wr HJ.out.fr).get hz;clear hq0 hq1
   have HZF := zh (fun (W : World) (hf : Fr w2.heap.size [gu, b1] w2 W) => (by
    obtain ⟨b',o',e,_,q0,q1⟩:=(HZS.out W hf).get hz;injection e with e
    injection e with e1 e2
    rw [e1,e2]
    exact ⟨q0,q1,(HZS.out W hf).inn z (List.mem_of_getElem? hz)⟩:W.cell? ⟨bz,oz+k * 2,none⟩=some z.sp/\W.cell? ⟨bz,oz+k * 2+1,none⟩=some z.sr/\SgIn W B z))
   obtain ⟨P,R,sp,sr⟩:=z;obtain ⟨hq0,hq1,⟨⟨Ap,cp,hsp,hq2⟩,⟨Ar,cr,hsr,hq3⟩⟩⟩:=HZF.out wr HJ.out.fr;clear hq0 hq1 hq2 hq3;simp only at hsp hsr hzs hzc HZF;subst hsp;subst hsr;obtain ⟨hz1,hz2,hz3⟩:=hzs;obtain ⟨np,hnp⟩:=nm (P.length);obtain ⟨nr,hnr⟩:=nm (R.length)
   have HZG := zh (fun (W : World) (hf : Fr w2.heap.size [gu, b1] w2 W) => (by
    obtain ⟨q0,q1,⟨⟨A1,c1,e1,r1⟩,⟨A2,c2,e2,r2⟩⟩⟩:=HZF.out W hf;simp only at e1 e2 r1 r2;injection e1 with a1 a2 a3
    injection e2 with b1 b2 b3
    rw [hnp,hnr,a1,b1];rw [a1,a3] at q0;rw [b1,b3] at q1
    exact ⟨by rw [a3];exact q0,by rw [b3];exact q1,r1,r2⟩:W.cell? ⟨bz,oz+k * 2,none⟩=some (.slice Ap np cp)/\W.cell? ⟨bz,oz+k * 2+1,none⟩=some (.slice Ar nr cr)/\Sts W B Ap np P/\Reads W B 3 Ar nr (cellsR R)))
   rw [<- hnp] at hz2;rw [<- hnr] at hz3;have HNP:=zh hnp;have HNR:=zh hnr;have HSS:=zh hz1;have HSC:=zh hzc;clear hdr hz HZF hz1 hzc hnp hnr;obtain ⟨p0,p1,hq2,hq3⟩:=HZG.out wr HJ.out.fr;clear hq2 hq3
   rcases Nat.eq_zero_or_pos np with hp | hp
   case' inl =>
    have hle:(np:Int)<=0:=(by omega);go_upto_region 11 with fail;have HPL:=zh (show planR X (fstS P)=(0,X) by unfold planR;rw [if_pos (by unfold fstS;rw [List.length_map,<- HNP.out];exact hp)]);have HX3:=HX;have HJ3:=HJ;have HM3:=HM;have HH:=zh (And.intro h11 h12);have HNA3:=HNA;have HEQ:=zh (show True/\nl<=cl from ⟨trivial,hlc⟩);obtain ⟨X2,hX2⟩:=nm (X);have HX2:=zh (show planR X (fstS P)=(0,X2) by rw [hX2];exact HPL.out);rw [<- hX2] at HJ3 HM3;have H13:=zh h13;clear HJ HM HX HNA hX2 p0 p1 HPL h11 h12 h13 hle hp hlc hszr hgur;generalize Al=Al2 at *;generalize nl=nl2 at *;generalize cl=cl2 at *;generalize Ml=Ml2 at *;generalize wr=w5 at *
   case' inr =>
    have hlt:(0:Int) < (np:Int):=(by omega);have hsts:=(HZG.out wr HJ.out.fr).2.2.1;have HAP:=zh (rplan_any gu X.T Al Ap cl cp nl np Ml P wr HJ.out.tab HM.out.1 HM.out.2.2.1 (hsts.more hB) HSS.out (by omega) HM.out.2.2.2 hlc HSC.out);rw [HM.out.2.1] at HAP;have hpl:(fstS P).length ≠ 0:=(by unfold fstS;rw [List.length_map,<- HNP.out];omega);have HPG:=zh (show planR X (fstS P)=((applyR X.L (fstS P)).1,⟨(applyR X.L (fstS P)).2.2,kepL X.T (fstS P),X.out⟩) by unfold planR;rw [if_neg hpl]);obtain ⟨ap,hap⟩:=nm (applyR X.L (fstS P));rw [<- hap] at HAP HPG;obtain ⟨r1,r2,r3⟩:=ap;unfold RPl at HAP;simp only at HAP HPG;clear hap hpl hsts hp;go_wp2_with fail;refine HAP.out.mono ?_;rintro e w5 (⟨hr1,rfl,f5⟩ | ⟨hr1,Al2,cl2,nl2,Ml2,rfl,hnx,hcp2,hle2,hfs2,hfm,hrg,hrt,f5⟩)
    ·
     have HR1:=zh hr1;have hcb:=kd_ne hr1;have FF:=zh (F2.out.trans ((HJ.out.fr.mono (B':=w.heap.size) (L':=[]) F2.out.size (fun q hq hlt=>by have:=HGU.out;simp at hq;omega)).trans (f5.mono (B':=w.heap.size) (L':=[]) (Nat.le_trans F2.out.size hszr) (by simp))));clear f5 HAP hr1;go_wp2_with fail
     (try simp only [Exit.inBlock,Exit.then])
     refine bodyPost_ret (results_tmp4 rfl _ _ _) rfl ?_
     have hsg:segR X (fstS P) R=(r1,⟨r3,kepL X.T (fstS P),X.out⟩):=by
      unfold segR;rw [HPG.out];simp only;rw [if_pos HR1.out]
     have hrr:r=segR X (fstS P) R:=HX.out.trans (segsR_err (by rw [hsg];exact HR1.out));rw [hsg] at hrr;rw [hrr];exact .inl ⟨HR1.out,rfl,FF.out⟩
    subst hr1;obtain ⟨X2,hX2⟩:=nm (⟨r3,kepL X.T (fstS P),X.out⟩:GS);have HX2:=zh (show planR X (fstS P)=(0,X2) by rw [hX2];exact HPG.out);have HX3:=HX;have HJ3:=zh (HJ.out.tabs (S':=st1 X2) f5 (by rw [hX2];exact hrt) (by rw [hX2];exact TOk.kepL HJ.out.ok) (by rw [hX2];rfl));have HM3:=zh (show NdX w5 gu Al2 nl2 Ml2/\fstN Ml2=X2.L/\Small Ml2/\CapN Ml2 from ⟨hnx,by rw [hX2];exact hfm,small_right (by rw [hfm];exact hrg),hcp2⟩);have HEQ:=zh (show True/\nl2<=cl2 from ⟨trivial,hle2⟩);have HNA3:=zh (show ∀ q,(Value.slice Ao no co).ownBlock=some q->0 < nl2 -> ∀ ad,Al2=some ad->ad.block ≠ q from fun q hq h0 ad ha=>by have h1:=hfs2 ad ha;have h2:=(HJ.out.row.lt q hq).2;omega);have H13:=zh h13;clear hfs2 HNA h13 hnx hcp2 hle2 hfm hrg hrt f5 HAP HPG HX HJ HM hX2 p0 p1 hlc hszr hgur h11 h12;go_upto_region 11 with fail
   all_goals
    obtain ⟨hnx,hfm,hsm,hcp⟩:=HM3.out;have hgu5:gu < w5.heap.size:=HJ3.out.tab.lt;obtain ⟨cv,hcv⟩:=nm (checkN X2.L);have HCK:=zh (by rw [hcv,<- hfm];exact rcheck_any Al2 cl2 w5.heap.size nl2 Ml2 w5 (hnx.nds hgu5 w5 (Fr.refl _ _ _)) (Nat.le_refl _) hsm hcp:Calls Tryz.prog 29 #[.slice Al2 nl2 cl2] w5 fun e w'=>e=.returned (.int .i64 cv)/\Fr w5.heap.size [] w5 w');have HCV:=zh hcv;have HSEG:=zh (show segR X (fstS P) R=recsR X2 R by unfold segR;rw [HX2.out];simp);clear hnx hfm hsm hcp hcv HX2;go_wp2_with fail;refine HCK.out.mono ?_;rintro e w6 ⟨rfl,f6⟩;have HJ6:=zh (HJ3.out.mv f6);have HM6:=zh (And.intro (HM3.out.1.fr hgu5 (f6.mono (B':=w5.heap.size) (L':=[gu]) (Nat.le_refl _) (by simp))) HM3.out.2);clear HCK HJ3 HM3 f6 hgu5;have hsz6:=HJ6.out.fr.size
    by_cases hc:cv=0
    case neg =>
     have hcb:=kd_ne hc;have HC:=zh hc;have FF:=zh (F2.out.trans (HJ6.out.fr.mono (B':=w.heap.size) (L':=[]) F2.out.size (fun q hq hlt=>by have:=HGU.out;simp at hq;omega)));clear hc;go_wp2_with fail
     (try simp only [Exit.inBlock,Exit.then])
     refine bodyPost_ret (results_tmp4 rfl _ _ _) rfl ?_
     have hsg:segR X (fstS P) R=(10,X2):=by
      rw [HSEG.out];unfold recsR;rw [if_pos (by rw [<- HCV.out];exact HC.out)]
     have hrr:r=segR X (fstS P) R:=HX3.out.trans (segsR_err (by rw [hsg];simp));rw [hsg] at hrr;rw [hrr];exact .inl ⟨by simp,rfl,FF.out⟩
    case pos =>
     subst hc;have HRG:=zh (show RightG X2.L from checkN_zero.1 HCV.out.symm);go_upto_region 14 with fail;go_loopg [13] nr (fun g s13 wq=>∃ i:Nat,i<=nr/\g=nr - i/\s13=.int .i64 i/\Hid ((R.take i).all recR=true)/\Hid (Fr w6.heap.size [] w6 wq))
     case atStart=>exact ⟨0,Nat.zero_le _,rfl,rfl,zh rfl,zh (Fr.refl _ _ _)⟩
     case round =>
      obtain ⟨i,hi,rfl,rfl,HAL,FQ⟩:=hrel;have HJQ:=zh (HJ6.out.mv FQ.out);obtain ⟨p0,p1,hsts,hrd⟩:=HZG.out wr HJQ.out.fr
      by_cases hin:i < nr
      case pos =>
       have hii:(i:Int) < (nr:Int):=(by omega);have hi0:(0:Int)<=(i:Int):=(by omega);obtain ⟨x,hx⟩:∃ x,R[i]?=some x:=⟨_,List.getElem?_eq_getElem (by rw [<- HNR.out];exact hin)⟩;obtain ⟨b,off,rfl,hbl,hcc⟩:=reads_rec (by rw [<- HNR.out];exact hrd) hx;have c0':wr.cell? ⟨b,off+i * 3,none⟩=some (.int .i64 (x 0)):=hcc 0 (by omega);have c1':wr.cell? ⟨b,off+i * 3+1,none⟩=some (.int .i64 (x 1)):=hcc 1 (by omega);have c2':wr.cell? ⟨b,off+i * 3+2,none⟩=some (.int .i64 (x 2)):=hcc 2 (by omega);obtain ⟨bv,hbv⟩:=nm (recB (x 0) (x 1) (x 2));have HRC:=zh (by rw [hbv];exact rrec_any (x 0) (x 1) (x 2) wr:Calls Tryz.prog 22 #[.agg #[.int .i64 (x 0),.int .i64 (x 1),.int .i64 (x 2)]] wr fun e w'=>e=.returned (.bool bv)/\Fr wr.heap.size [] wr w');have HBV:=zh hbv;have HXR:=zh hx;clear hcc hx hbv hsts hrd;go_wp2_with fail;refine HRC.out.mono ?_;rintro e w8 ⟨rfl,f8⟩;have FQ8:=zh (FQ.out.nx f8);clear f8 HRC p0 p1 c0' c1' c2'
       cases bv with
       | false =>
        have FF:=zh (F2.out.trans (((HJ6.out.mv FQ8.out).fr).mono (B':=w.heap.size) (L':=[]) F2.out.size (fun q hq hlt=>by have:=HGU.out;simp at hq;omega)))
        have hsg:segR X (fstS P) R=(1,X2):=by
         rw [HSEG.out];unfold recsR;rw [if_neg (by rw [<- HCV.out];simp),if_pos];rw [List.all_eq_false];exact ⟨x,List.mem_of_getElem? HXR.out,by unfold recR;rw [<- HBV.out];simp⟩
        have HRR:=zh (show r=(1,X2) from (HX3.out.trans (segsR_err (by rw [hsg];simp))).trans hsg);clear hsg;go_wp2_with fail
        (try simp only [Exit.inBlock,Exit.then])
        refine bodyPost_ret (results_tmp4 rfl _ _ _) rfl ?_;rw [HRR.out];exact .inl ⟨by simp,rfl,FF.out⟩
       | true =>
        have HAL2 := zh (show (R.take (i + 1)).all recR = true by
         rw [List.take_add_one,HXR.out,List.all_append,HAL.out]
         simp [recR,<- HBV.out])
        go_wp2_with fail;go_roundg (nr - (i+1))
        case measure=>omega
        case rel=>exact ⟨i+1,by omega,rfl,by go_num,HAL2,FQ8⟩
      case neg =>
       obtain rfl:nr=i:=by omega
       have hall:R.all recR=true:=by
        have h:=HAL.out;rw [List.take_of_length_le (by rw [HNR.out];exact Nat.le_refl _)] at h;exact h
       have hgur:gu < wr.heap.size:=HJQ.out.tab.lt;have HMQ:=zh (And.intro (HM6.out.1.fr HJ6.out.tab.lt (FQ.out.mono (B':=w6.heap.size) (L':=[gu]) (Nat.le_refl _) (by simp))) HM6.out.2);have hnd:=HMQ.out.1.nds hgur
       have HRUN := zh (by
        have h:=rrun_any gu wr.heap.size nl2 cl2 Al2 Ml2 (by rw [HMQ.out.2.1];exact HRG.out) HMQ.out.2.2.1 X2.T Ar nr cr R wr HNR.out hz3 B hrd hB hall HJQ.out.ok hnd (Nat.le_refl _) HJQ.out.tab;rw [HMQ.out.2.1] at h
        exact h:Calls Tryz.prog 56 #[.slice Al2 nl2 cl2,.pointer (some ⟨gu,0,none⟩),.slice Ar nr cr] wr (RPut gu (flowD X2.L R (st0 X2.T)) wr))
       obtain ⟨X3,hX3⟩:=nm (⟨X2.L,(flowD X2.L R (st0 X2.T)).T,X2.out ++ (flowD X2.L R (st0 X2.T)).out⟩:GS)
       have hsg:segR X (fstS P) R=(0,X3):=by
        rw [HSEG.out];unfold recsR;rw [if_neg (by rw [<- HCV.out];simp),if_neg (by rw [hall];simp),hX3]
       have HR3 := zh (show r = segsR (bare (Z.drop (k + 1))) X3 from by
        have h1:=HX3.out.trans (segsR_ok (by rw [hsg]));rw [hsg] at h1
        exact h1)
       have hfew:=flow_few HRG.out hall (S:=st0 X2.T) HJQ.out.ok
       have hfew2:(flowD X2.L R (st0 X2.T)).out.length<=1060288600:=by
        have h1:=HNR.out;have h2:(st0 X2.T).out.length=0:=rfl;omega
       have HOK3:=zh (flow_ok HRG.out hall (s:=st0 X2.T) HJQ.out.ok);obtain ⟨S2,hS2⟩:=nm (flowD X2.L R (st0 X2.T));rw [<- hS2] at HRUN hX3 hfew2 HOK3;have HX3':=zh (show X3.L=X2.L/\X3.T=S2.T/\X3.out=X2.out ++ S2.out from by rw [hX3];exact ⟨rfl,rfl,rfl⟩);clear hX3 hsg hfew hS2 hall hnd hsts hrd HX3 HSEG HAL HM6 HJ6 FQ hin hi;go_wp2_with fail;refine HRUN.out.mono ?_;rintro e w9 ⟨A6,n6,c6,hn6,rfl,how,hrt,f9⟩;have HJ9:=zh (HJQ.out.tabs (S':=(⟨S2.T,X2.out,fun _=>none⟩:DS)) f9 hrt HOK3.out rfl);have HM9:=zh (HMQ.out.1.fr hgur f9);have hn6b:n6<=1060288600:=(by rw [hn6];exact hfew2);have HN6:=zh hn6;have hrm:=Reads.of_own how;have hown:=HJ9.out.row;have hb9:b1<=w9.heap.size:=(by have:=HJ9.out.fr.size;omega);have hgu9:gu < w9.heap.size:=HJ9.out.tab.lt;clear hn6 how hrt f9 HRUN HJQ p0 p1;go_wp2_with (at_builtin;refine wpList_app2 _ rfl (.tmp 68) (.tmp 76) lineTy rfl b1 (.slice Ao no co) no _ rfl hown w9.heap.size A6 n6 c6 (cellsLn S2.out) rfl hrm lnOne (by omega) (by omega) hb9 ?_;intro A7 c7 w7 hown7 hg7 hat7);have f7:=(Fr.refl w9.heap.size (Value.slice Ao no co).ownBlock.toList w9).grown hg7 (Nat.le_refl _) (fun k hk=>.inr (by simp [hk]))
       have HM7 := zh (And.intro (HM9.out.frL hgu9 f7 (fun q hq => by
        simp only [Option.mem_toList] at hq;have:=(hown.lt q hq).1
        omega) (fun q hq h0 ad ha=>by
        simp only [Option.mem_toList] at hq
        exact HNA3.out q hq h0 ad ha)) (show fstN Ml2=X3.L/\Small Ml2/\CapN Ml2 from by rw [HX3'.out.1];exact HMQ.out.2))
       have HNA7 := zh (show ∀ q, (Value.slice A7 (no + n6) c7).ownBlock = some q -> 0 < nl2 -> ∀ ad, Al2 = some ad -> ad.block ≠ q from fun q hq h0 ad ha => by
        rcases hat7 with e | e
        · rw [e] at hq;exact HNA3.out q hq h0 ad ha
        ·
         rw [e] at hq;injection hq with hq
         have:=HM9.out.lt h0 ha
         omega)
       have HJ7 := zh (HJ9.out.grow (S' := st1 X3) (A3 := A7) (n3 := no + n6) (c3 := c7) (by
        show World.ownsRow _ _ _ _ _ _ (cellsLn X3.out)
        rw [HX3'.out.2.2,show cellsLn (X2.out ++ S2.out)=cellsLn X2.out ++ cellsLn S2.out by simp [cellsLn]]
        exact hown7) hg7 hat7 HX3'.out.2.1 (by
        show no+n6=X3.out.length
        rw [HX3'.out.2.2,List.length_append,<- HN6.out,show no=X2.out.length from HJ9.out.num]))
       clear hown7 hg7 hat7 f7 hown hrm HJ9 HM9 HMQ;go_roundg (nz - (k+1))
       case measure=>omega
       case rel=>exact ⟨k+1,X3,Al2,nl2,cl2,Ml2,A7,no+n6,c7,by omega,rfl,rfl,rfl,by go_num,(by first | exact HH.out.1 | exact .inr ⟨_,_,_,rfl⟩),(by first | exact HH.out.2 | exact .inr ⟨_,rfl⟩),.inr ⟨_,rfl⟩,HEQ.out.2,by omega,HR3,HJ7,HM7,HNA7⟩
  case neg =>
   obtain rfl:nz=k:=by omega
   have HF:=zh (F2.out.trans (HJ.out.fr.mono (B':=w.heap.size) (L':=[]) F2.out.size (fun q hq hlt=>by have:=HGU.out;simp at hq;omega)))
   have hrr:r=(0,X):=by
    rw [HX.out,List.drop_eq_nil_of_le (by rw [<- HNZ.out];exact Nat.le_refl _)];rfl
   have HRR:=zh hrr;clear hrr HX;go_wp2_with fail
   (try simp only [Exit.inBlock,Exit.then])
   refine bodyPost_ret (results_tmp4 rfl _ _ _) rfl ?_;rw [HRR.out];exact .inr ⟨rfl,Ao,no,co,Al,nl,cl,Ml,gu,rfl,HJ.out.num,by omega,ownsRow_base HJ.out.row (by have:=HGU.out;omega),HM.out.1.nds hgur wr (Fr.refl _ _ _),HM.out.2.1,HM.out.2.2.1,hlc,HM.out.2.2.2,HJ.out.tab,HJ.out.ok,HF.out⟩
theorem like_perm {L K:List Nd} (h:L.Perm K) (hr:RightG K):LikeG L K :=
 ⟨fun c=>by rw [find_perm h ((ids_perm h).nodup_iff.2 hr.uni)],fun c=>child_perm h c⟩
theorem apply_perm {L K:List Nd} (h:L.Perm K) (p:List Stp):(applyN L p).1=(applyR K p).1/\((applyN L p).1=0->RightG (applyR K p).2.2/\(applyN L p).2.2.Perm (applyR K p).2.2):=by
 unfold applyN applyR;rw [check_perm h]
 by_cases c:checkN K ≠ 0
 · rw [if_pos c,if_pos c];exact ⟨rfl,fun e=>by cases e⟩
 rw [if_neg c,if_neg c]
 split
 · exact ⟨rfl,fun e=>by cases e⟩
 · have:=go_agree p 0 h (checkN_zero.1 (Decidable.not_not.1 c));exact ⟨this.1,this.2.2⟩
structure Pair (X Y:GS):Prop where
 T:X.T=Y.T
 out:X.out=Y.out
 L:X.L.Perm Y.L
theorem plan_agree {X Y:GS} (h:Pair X Y) (P:List Stp):(planG X P).1=(planR Y P).1/\((planG X P).1=0->Pair (planG X P).2 (planR Y P).2):=by
 unfold planG planR
 by_cases h0:P.length=0
 · rw [if_pos h0,if_pos h0];exact ⟨rfl,fun _=>h⟩
 · rw [if_neg h0,if_neg h0];obtain ⟨h1,h2⟩:=apply_perm h.L P;exact ⟨h1,fun e=>⟨by show kepL X.T P=kepL Y.T P;rw [h.T],h.out,(h2 e).2⟩⟩
theorem flow_pair {L K:List Nd} (h:L.Perm K) (hr:RightG K) (R:List (Nat->Int)) (T:Pk->CV) (C:Int->Option Int):(flowD L R ⟨T,[],C⟩).T=(flowD K R (st0 T)).T/\(flowD L R ⟨T,[],C⟩).out=(flowD K R (st0 T)).out:=by
 have e:flowD L R ⟨T,[],C⟩=flowD K R ⟨T,[],C⟩:=flow_like (like_perm h hr) R _;rw [e];obtain ⟨h1,h2⟩:=flow_new (L:=K) R ⟨T,[],C⟩ (fun _=>none);exact ⟨h1,by rw [h2];rfl⟩
theorem recs_agree {X Y:GS} (h:Pair X Y) (R:List (Nat->Int)):(recsG X R).1=(recsR Y R).1/\((recsG X R).1=0->Pair (recsG X R).2 (recsR Y R).2/\RightG (recsR Y R).2.L):=by
 unfold recsG recsR;rw [check_perm h.L]
 by_cases c:checkN Y.L ≠ 0
 · rw [if_pos c,if_pos c];exact ⟨rfl,fun e=>by cases e⟩
 rw [if_neg c,if_neg c]
 by_cases d:R.all recR=false
 · rw [if_pos d,if_pos d];exact ⟨rfl,fun e=>by cases e⟩
 rw [if_neg d,if_neg d];have hr:=checkN_zero.1 (Decidable.not_not.1 c);obtain ⟨h1,h2⟩:=flow_pair h.L hr R X.T (cnt0 X.L);rw [h.T] at h1 h2;refine ⟨rfl,fun _=>⟨⟨?_,?_,h.L⟩,hr⟩⟩
 ·
  show (flowD X.L R ⟨X.T,[],cnt0 X.L⟩).T=_
  rw [h.T];exact h1
 ·
  show X.out ++ (flowD X.L R ⟨X.T,[],cnt0 X.L⟩).out=_
  rw [h.T,h.out,h2]
theorem seg_agree {X Y:GS} (h:Pair X Y) (P:List Stp) (R:List (Nat->Int)):(segG X P R).1=(segR Y P R).1/\((segG X P R).1=0->Pair (segG X P R).2 (segR Y P R).2/\RightG (segR Y P R).2.L):=by
 obtain ⟨h1,h2⟩:=plan_agree h P;unfold segG segR;rw [<- h1]
 by_cases c:(planG X P).1 ≠ 0
 · rw [if_pos c,if_pos c];exact ⟨h1,fun e=>absurd e c⟩
 · rw [if_neg c,if_neg c];exact recs_agree (h2 (Decidable.not_not.1 c)) R
theorem segs_agree:∀ (Z:List (List Stp × List (Nat->Int))) {X Y:GS},Pair X Y->(segsG Z X).1=(segsR Z Y).1/\((segsG Z X).1=0->Pair (segsG Z X).2 (segsR Z Y).2/\(Z ≠ []->RightG (segsR Z Y).2.L))
 | [],X,Y,h=>⟨rfl,fun _=>⟨h,fun c=>absurd rfl c⟩⟩
 | z :: Z,X,Y,h=>by
  obtain ⟨h1,h2⟩:=seg_agree h z.1 z.2;unfold segsG segsR;rw [<- h1]
  by_cases c:(segG X z.1 z.2).1 ≠ 0
  · rw [if_pos c,if_pos c];exact ⟨h1,fun e=>absurd e c⟩
  ·
   rw [if_neg c,if_neg c];obtain ⟨h3,h4⟩:=h2 (Decidable.not_not.1 c);obtain ⟨h5,h6⟩:=segs_agree Z h3;refine ⟨h5,fun e=>⟨(h6 e).1,fun _ => ?_⟩⟩
   by_cases hz:Z=[]
   · subst hz;exact h4
   · exact (h6 e).2 hz
theorem wide1_any (gB:Nat) (m:Int) (A:Option Addr) (c B n:Nat) (l:List (Int × Int)) (w:World) (hn:n=l.length) (hm:n<=1000000) (hr:Reads w B 2 A n (cellsI l)) (hB:B<=w.heap.size) (hb:Blk w gB 3 #[.int .i64 m]) :
  Calls Tryz.prog 94 #[.slice A n c,.pointer (some ⟨gB,0,none⟩)] w fun e w'=>e=.returned (.tuple #[])/\(∃ m',Blk w' gB 3 #[.int .i64 m'])/\Fr w.heap.size [gB] w w':=by
 have HR:=zh hr;have HN:=zh hn;have HBB:=zh hb;have hgb:=hb.lt;clear hr hn hb;go_enter Tryz.func94,Tryz.ntmps94;go_wp2_with fail;go_loopg [3,5,8] n (fun g s3 s5 s8 wr=>∃ (k:Nat) (e:Int),k<=n/\g=n - k/\s3=.int .i64 e/\(s5=undef \/ ∃ a,s5=.pointer a)/\s8=.int .i64 k/\Hid (Fr w.heap.size [] w wr))
 case atStart=>exact ⟨0,0,Nat.zero_le _,rfl,rfl,.inl rfl,rfl,zh (Fr.refl _ _ _)⟩
 case round =>
  obtain ⟨k,e,hk,rfl,rfl,h5,rfl,FR⟩:=hrel
  by_cases hkn:k < n
  ·
   have hki:(k:Int) < (n:Int):=by omega
   have hk0:(0:Int)<=(k:Int):=(by omega);obtain ⟨x,hx⟩:∃ x,l[k]?=some x:=⟨_,List.getElem?_eq_getElem (by rw [<- HN.out];exact hkn)⟩;obtain ⟨b,off,rfl,hb,p0,p1⟩:=reads_ins (by rw [<- HN.out];exact HR.out.fr FR.out hB (by simp)) hx;have fa:=(Fr.refl wr.heap.size [] wr).alloc (Nat.le_refl _) (.cells #[.int .i64 x.1,.int .i64 x.2] 217);have BX:=zh (Blk.new wr 217 #[.int .i64 x.1,.int .i64 x.2]);have FA:=zh (FR.out.nx fa);clear fa FR hx;go_upto_region 4 with fail;clear p0 p1;generalize wr.alloc (.cells #[.int .i64 x.1,.int .i64 x.2] 217)=wa at *;have x0:=BX.out.cell 0;simp at x0
   by_cases h14:x.1=14
   ·
    go_wp2_with fail;go_roundg (n - (k+1))
    case measure=>omega
    case rel=>exact ⟨k+1,_,by omega,rfl,rfl,.inr ⟨_,rfl⟩,by go_num,FA⟩
   ·
    go_wp2_with fail;go_roundg (n - (k+1))
    case measure=>omega
    case rel=>exact ⟨k+1,_,by omega,rfl,rfl,.inr ⟨_,rfl⟩,by go_num,FA⟩
  ·
   obtain rfl:n=k:=by omega
   have hbr:=HBB.out.fr FR.out hgb (by simp);have q0:=hbr.cell 0;have z0:=hbr.frozen 0;have HBR:=zh hbr;simp at q0;clear hbr
   by_cases h1000:m < 1000
   · go_wp2_with fail;go_end0;refine ⟨rfl,⟨_,HBR.out.set_ 0 _⟩,(FR.out.mono (B':=w.heap.size) (L':=[gB]) (Nat.le_refl _) (by simp)).setCell (p:=⟨gB,0,none⟩) (.inr (by simp)) _⟩
   · go_wp2_with fail;go_end0;exact ⟨rfl,⟨m,HBR.out⟩,FR.out.mono (Nat.le_refl _) (by simp)⟩
theorem wide_any (A A2:Option Addr) (c c2 B n n2:Nat) (M:List Ndm) (S:List Stm) (w:World) (h:Nds w B A n M) (hB:B<=w.heap.size) (hs:∀ m ∈ M,m.1.pg.length<=1000000) (hn:n<=1000000) (hS:Sts w B A2 n2 S) (hss:∀ m ∈ S,m.1.nd.pg.length<=1000000) (hn2:n2<=1000000) :
  Calls Tryz.prog 52 #[.slice A n c,.slice A2 n2 c2] w fun e w'=>(∃ b,e=.returned (.bool b))/\Fr w.heap.size [] w w':=by
 have HM:=zh (fun (wx:World) (hx:Fr w.heap.size [] w wx)=>(h.frw hx hB (by simp):Nds wx B A n M));have HS:=zh (fun (wx:World) (hx:Fr w.heap.size [] w wx)=>(hS.frw hx hB (by simp):Sts wx B A2 n2 S));have HSM:=zh hs;have HSS:=zh hss;have HBB:=zh hB;have fb:=(Fr.refl w.heap.size [] w).alloc (Nat.le_refl _) (.cells #[.int .i64 1] 3);have BM0:=zh (Blk.new w 3 #[.int .i64 1]);have F0:=zh fb;clear h hS hs hss fb;go_enter Tryz.func52,Tryz.ntmps52;go_upto_region 2 with fail;generalize w.alloc (.cells #[.int .i64 1] 3)=w1 at *;obtain ⟨gB,hgB⟩:=nm (w.heap.size);rw [<- hgB] at BM0 ⊢;have hgBw:w.heap.size<=gB:=(by omega);clear hgB;go_wp2_with fail;go_loopg [8,14] n (fun g s8 s14 wr=>∃ (k:Nat) (mm:Int),k<=n/\g=n - k/\(s8=undef \/ ∃ a,s8=.pointer a)/\s14=.int .i64 k/\Hid (Blk wr gB 3 #[.int .i64 mm])/\Hid (Fr w.heap.size [] w wr))
 case atStart=>exact ⟨0,1,Nat.zero_le _,rfl,.inl rfl,rfl,BM0,F0⟩
 case round =>
  clear BM0 F0;obtain ⟨k,mm,hk,rfl,h8,rfl,BM,FR⟩:=hrel;have hszr:=FR.out.size
  by_cases hkn:k < n
  ·
   have hki:(k:Int) < (n:Int):=by omega
   have hk0:(0:Int)<=(k:Int):=(by omega);have HND:=HM.out wr FR.out;obtain ⟨m,hx⟩:∃ m,M[k]?=some m:=⟨_,List.getElem?_eq_getElem (by rw [<- HND.num];exact hkn)⟩;obtain ⟨b1,o1,rfl,hb1,hc1⟩:=HND.get hx;have hin:=HND.inn m (List.mem_of_getElem? hx);have hsm:=HSM.out m (List.mem_of_getElem? hx);obtain ⟨x,sf,sp⟩:=m;obtain ⟨⟨Af,cf,hf1,_⟩,⟨Ap,cp,hp1,hrp⟩⟩:=hin;simp only at hf1 hp1 hrp hsm;subst hf1;subst hp1;obtain ⟨nf,hnf⟩:=nm (x.fr.length);obtain ⟨np,hnp⟩:=nm (x.pg.length);rw [<- hnf,<- hnp] at hc1;rw [<- hnp] at hrp hsm;have HNP:=zh hnp;have p0:=hc1 0 (.int .i64 x.id) rfl;have p1:=hc1 1 (.int .i64 x.kind) rfl;have p2:=hc1 2 (.slice Af nf cf) rfl;have p3:=hc1 3 (.slice Ap np cp) rfl;have p4:=hc1 4 (.int .i64 x.par) rfl;have p5:=hc1 5 (.int .i64 (x.rt 0)) rfl;have p6:=hc1 6 (.int .i64 (x.rt 1)) rfl;have p7:=hc1 7 (.int .i64 (x.rt 2)) rfl;have p8:=hc1 8 (.int .i64 (x.rt 3)) rfl;have p9:=hc1 9 (.int .i64 (x.rt 4)) rfl;have p10:=hc1 10 (.int .i64 (x.rt 5)) rfl;have p11:=hc1 11 (.int .i64 (x.rt 6)) rfl;have p12:=hc1 12 (.int .i64 (x.rt 7)) rfl;simp only [Nat.add_zero] at p0;have HRP:=zh hrp;clear hc1 hx HND hnf hnp hrp;have fa:=(Fr.refl wr.heap.size [] wr).alloc (Nat.le_refl _) (.cells (ndA x (.slice Af nf cf) (.slice Ap np cp)) 83);have BX:=zh (Blk.new wr 83 (ndA x (.slice Af nf cf) (.slice Ap np cp)));have BMa:=zh (BM.out.fr fa BM.out.lt (by simp));have HRPa:=zh (HRP.out.fr fa (Nat.le_trans HBB.out hszr) (by simp));have FRa:=zh (FR.out.trans (fa.mono (B':=w.heap.size) (L':=[]) hszr (by simp)));clear fa hb1 FR BM HRP;go_upto_region 6 with fail;clear p0 p1 p2 p3 p4 p5 p6 p7 p8 p9 p10 p11 p12;generalize wr.alloc (.cells (ndA x (.slice Af nf cf) (.slice Ap np cp)) 83)=wa at *;generalize wr.heap.size=gx at *;have x3:wa.cell? ⟨gx,3,none⟩=some (.slice Ap np cp):=BX.out.cell 3;have HC:=zh (wide1_any gB mm Ap cp w.heap.size np x.pg wa HNP.out (by omega) (HRPa.out.more HBB.out) FRa.out.size BMa.out);go_wp2_with fail;refine HC.out.mono ?_;rintro e w5 ⟨rfl,⟨mm2,hb5⟩,f5⟩;have BM5:=zh hb5;have FR5:=zh (FRa.out.trans (f5.mono (B':=w.heap.size) (L':=[]) FRa.out.size (by simp;omega)));clear hb5 f5 HC x3 BX;go_wp2_with fail;go_roundg (n - (k+1))
   case measure=>omega
   case rel=>exact ⟨k+1,mm2,by omega,rfl,.inr ⟨_,rfl⟩,by go_num,BM5,FR5⟩
  ·
   obtain rfl:n=k:=by omega
   clear h8;go_wp2_with fail;go_loopg [10,25] n2 (fun g s10 s25 wr=>∃ (k:Nat) (mm:Int),k<=n2/\g=n2 - k/\(s10=undef \/ ∃ a,s10=.pointer a)/\s25=.int .i64 k/\Hid (Blk wr gB 3 #[.int .i64 mm])/\Hid (Fr w.heap.size [] w wr))
   case atStart=>exact ⟨0,mm,Nat.zero_le _,rfl,.inl rfl,rfl,BM,FR⟩
   case round =>
    clear BM FR hk hszr hkn;obtain ⟨k,mm,hk,rfl,h10,rfl,BM,FR⟩:=hrel;have hszr:=FR.out.size
    by_cases hkn:k < n2
    ·
     have hki:(k:Int) < (n2:Int):=by omega
     have hk0:(0:Int)<=(k:Int):=(by omega);have HND:=HS.out wr FR.out;obtain ⟨m,hx⟩:∃ m,S[k]?=some m:=⟨_,List.getElem?_eq_getElem (by rw [<- HND.num];exact hkn)⟩;obtain ⟨b1,o1,rfl,hb1,hc1⟩:=HND.get hx;have hin:=HND.inn m (List.mem_of_getElem? hx);have hsm:=HSS.out m (List.mem_of_getElem? hx);obtain ⟨⟨kd,x,rs⟩,sf,sp⟩:=m;obtain ⟨⟨Af,cf,hf1,_⟩,⟨Ap,cp,hp1,hrp⟩⟩:=hin;simp only at hf1 hp1 hrp hsm;subst hf1;subst hp1;obtain ⟨nf,hnf⟩:=nm (x.fr.length);obtain ⟨np,hnp⟩:=nm (x.pg.length);rw [<- hnf,<- hnp] at hc1;rw [<- hnp] at hrp hsm;have HNP:=zh hnp;have p0:=hc1 0 (.int .i64 kd) rfl;have p1:=hc1 1 (.int .i64 x.id) rfl;have p2:=hc1 2 (.int .i64 x.kind) rfl;have p3:=hc1 3 (.slice Af nf cf) rfl;have p4:=hc1 4 (.slice Ap np cp) rfl;have p5:=hc1 5 (.int .i64 x.par) rfl;have p6:=hc1 6 (.int .i64 (x.rt 0)) rfl;have p7:=hc1 7 (.int .i64 (x.rt 1)) rfl;have p8:=hc1 8 (.int .i64 (x.rt 2)) rfl;have p9:=hc1 9 (.int .i64 (x.rt 3)) rfl;have p10:=hc1 10 (.int .i64 (x.rt 4)) rfl;have p11:=hc1 11 (.int .i64 (x.rt 5)) rfl;have p12:=hc1 12 (.int .i64 (x.rt 6)) rfl;have p13:=hc1 13 (.int .i64 (x.rt 7)) rfl;have p14:=hc1 14 (.bool rs) rfl;simp only [Nat.add_zero] at p0;have HRP:=zh hrp;clear hc1 hx HND hnf hnp hrp;have fa:=(Fr.refl wr.heap.size [] wr).alloc (Nat.le_refl _) (.cells (stA kd x rs (.slice Af nf cf) (.slice Ap np cp)) 215);have BX:=zh (Blk.new wr 215 (stA kd x rs (.slice Af nf cf) (.slice Ap np cp)));have BMa:=zh (BM.out.fr fa BM.out.lt (by simp));have HRPa:=zh (HRP.out.fr fa (Nat.le_trans HBB.out hszr) (by simp));have FRa:=zh (FR.out.trans (fa.mono (B':=w.heap.size) (L':=[]) hszr (by simp)));clear fa hb1 FR BM HRP;go_upto_region 11 with fail;clear p0 p1 p2 p3 p4 p5 p6 p7 p8 p9 p10 p11 p12 p13 p14;generalize wr.alloc (.cells (stA kd x rs (.slice Af nf cf) (.slice Ap np cp)) 215)=wa at *;generalize wr.heap.size=gx at *;have x3:wa.cell? ⟨gx,4,none⟩=some (.slice Ap np cp):=BX.out.cell 4;have HC:=zh (wide1_any gB mm Ap cp w.heap.size np x.pg wa HNP.out (by omega) (HRPa.out.more HBB.out) FRa.out.size BMa.out);go_wp2_with fail;refine HC.out.mono ?_;rintro e w5 ⟨rfl,⟨mm2,hb5⟩,f5⟩;have BM5:=zh hb5;have FR5:=zh (FRa.out.trans (f5.mono (B':=w.heap.size) (L':=[]) FRa.out.size (by simp;omega)));clear hb5 f5 HC x3 BX;go_wp2_with fail;go_roundg (n2 - (k+1))
     case measure=>omega
     case rel=>exact ⟨k+1,mm2,by omega,rfl,.inr ⟨_,rfl⟩,by go_num,BM5,FR5⟩
    ·
     obtain rfl:n2=k:=by omega
     have q0:=BM.out.cell 0;simp at q0;go_wp2_with fail;go_ret;exact ⟨⟨_,rfl⟩,FR.out⟩
theorem greatP_small {P:List Stp} (h:greatP [] P=false):P.length<=20 /\ ∀ s ∈ P,s.nd.fr.length<=20/\s.nd.pg.length<=60:=by
 unfold greatP at h;simp only [Bool.or_eq_false_iff,decide_eq_false_iff_not,List.any_eq_false] at h;obtain ⟨_,h1,h2⟩:=h;refine ⟨by omega,fun s hs => ?_⟩;have h3:=h2 s hs;unfold greatN at h3;simp at h3;omega
theorem greatN_small {L:List Nd} (h:greatN L=false):L.length<=20 /\ ∀ x ∈ L,x.fr.length<=20/\x.pg.length<=60:=by
 unfold greatN at h;simp only [Bool.or_eq_false_iff,decide_eq_false_iff_not,List.any_eq_false] at h;obtain ⟨h1,h2⟩:=h;refine ⟨by omega,fun s hs => ?_⟩;have h3:=h2 s hs;simp at h3;omega
theorem great_small {M:List Ndm} (h:greatN (fstN M)=false):Small M:=by
 obtain ⟨h1,h2⟩:=greatN_small h;refine ⟨by simp [fstN] at h1;omega,fun m hm => ?_⟩;have:=h2 m.1 (List.mem_map.2 ⟨m,hm,rfl⟩);omega
theorem greatP_smallS {S:List Stm} (h:greatP [] (fstS S)=false):SmallS S/\S.length<=1000:=by
 obtain ⟨h1,h2⟩:=greatP_small h;refine ⟨fun m hm => ?_,by simp [fstS] at h1;omega⟩;have:=h2 m.1 (List.mem_map.2 ⟨m,hm,rfl⟩);omega
def GreatIn (M:List Ndm) (Z:List Sg):Prop:=greatN (fstN M)=false/\Z.length<=5 /\ ∀ z ∈ Z,greatP [] (fstS z.P)=false/\z.R.length<=40
theorem GreatIn.small {M:List Ndm} {Z:List Sg} (h:GreatIn M Z):Small M/\SmallG Z/\M.length<=20:=by
 refine ⟨great_small h.1,fun z hz => ?_,by have:=(greatN_small h.1).1;simpa [fstN] using this⟩;obtain ⟨h1,h2⟩:=h.2.2 z hz;exact ⟨(greatP_smallS h1).1,(greatP_smallS h1).2,Nat.le_trans h2 (by decide)⟩
theorem great12_any (A Az:Option Addr) (c cz B n nz:Nat) (M:List Ndm) (Z:List Sg) (w:World) (h:Nds w B A n M) (hB:B<=w.heap.size) (hn:n<=maxLen) (hZ:Sgs w B Az nz Z) (hmz:∀ z ∈ Z,z.P.length<=maxLen/\z.R.length<=maxLen) :
  Calls Tryz.prog 10 #[.slice A n c,.slice Az nz cz] w fun e w'=>(∃ g,e=.returned (.bool g)/\(g=false->GreatIn M Z))/\Fr w.heap.size [] w w':=by
 have HG8:=zh (great08_any A c B n M w h hB hn);have HM:=zh (fun (wx:World) (hx:Fr w.heap.size [] w wx)=>(h.frw hx hB (by simp):Nds wx B A n M));have HZS:=zh (fun (wx:World) (hx:Fr w.heap.size [] w wx)=>(hZ.frw hx hB (by simp):Sgs wx B Az nz Z));have HNZ:=zh hZ.num;have HNM:=zh h.num;have HMZ:=zh hmz;have HBB:=zh hB;obtain ⟨g8,hg8⟩:=nm (greatN (fstN M));rw [<- hg8] at HG8;have HE8:=zh hg8;clear h hZ hmz hg8;go_enter Tryz.func10,Tryz.ntmps10;go_wp2_with fail;refine HG8.out.mono ?_;rintro e w1 ⟨rfl,f1⟩;have F1:=zh f1;clear f1 HG8
 cases g8 with
 | true =>
  go_wp2_with fail;go_ret;exact ⟨⟨true,rfl,fun h=>by cases h⟩,F1.out⟩
 | false => ?_
 by_cases h5:nz<=5
 ·
  have h5i:((nz:Nat):Int)<=5:=by omega
  have hsm:=great_small HE8.out.symm;have HSM:=zh hsm;have hn20:n<=20:=(by rw [HNM.out];have:=(greatN_small HE8.out.symm).1;simpa [fstN] using this);clear hsm hn;go_wp2_with fail;go_loopg [6,16] nz (fun g s6 s16 wr=>∃ (k:Nat),k<=nz/\g=nz - k/\(s6=undef \/ ∃ a,s6=.pointer a)/\s16=.int .i64 k/\Hid (∀ z ∈ Z.take k,greatP [] (fstS z.P)=false/\z.R.length<=40)/\Hid (Fr w.heap.size [] w wr))
  case atStart=>exact ⟨0,Nat.zero_le _,rfl,.inl rfl,rfl,zh (by simp),F1⟩
  case round =>
   clear F1;obtain ⟨k,hk,rfl,h6,rfl,HP,FR⟩:=hrel;have hszr:=FR.out.size
   by_cases hkn:k < nz
   ·
    have hki:(k:Int) < (nz:Int):=by omega
    have hk0:(0:Int)<=(k:Int):=(by omega);obtain ⟨z,hz⟩:∃ z,Z[k]?=some z:=⟨_,List.getElem?_eq_getElem (by rw [<- HNZ.out];exact hkn)⟩;have HSW:=HZS.out wr FR.out;obtain ⟨bz,oz,rfl,hbz,p0,p1⟩:=HSW.get hz;have hzi:=HSW.inn z (List.mem_of_getElem? hz);have hzm:=HMZ.out z (List.mem_of_getElem? hz);have htk:Z.take (k+1)=Z.take k ++ [z]:=(by rw [List.take_add_one,hz];rfl);have HTK:=zh htk;clear hz HSW htk;obtain ⟨P,R,sp,sr⟩:=z;obtain ⟨⟨Ap,cp,hsp,hP⟩,⟨Ar,cr,hsr,hR⟩⟩:=hzi;simp only at hsp hsr hP hR p0 p1 hzm;subst hsp;subst hsr;obtain ⟨np,hnp⟩:=nm (P.length);obtain ⟨nr,hnr⟩:=nm (R.length);rw [<- hnp] at hP p0 hzm;rw [<- hnr] at hR p1 hzm;have HNP:=zh hnp;have HNR:=zh hnr;have fa:=(Fr.refl wr.heap.size [] wr).alloc (Nat.le_refl _) (.cells #[.slice Ap np cp,.slice Ar nr cr] 136);have BX:=zh (Blk.new wr 136 #[.slice Ap np cp,.slice Ar nr cr]);have HPa:=zh (hP.frw fa (Nat.le_trans HBB.out hszr) (by simp));have FRa:=zh (FR.out.trans (fa.mono (B':=w.heap.size) (L':=[]) hszr (by simp)));clear fa hP hR hnp hnr FR;go_upto_region 6 with fail;clear p0 p1;generalize wr.alloc (.cells #[.slice Ap np cp,.slice Ar nr cr] 136)=wa at *;obtain ⟨gx,hgx⟩:=nm (wr.heap.size);rw [<- hgx] at BX ⊢;clear hgx;have x0:=BX.out.cell 0;have x1:=BX.out.cell 1;simp at x0 x1;have HG10:=zh (great10_any none Ap 0 cp w.heap.size 0 np [] P wa ⟨rfl,Reads.none_,by simp⟩ FRa.out.size (by unfold maxLen;omega) (HPa.out.more HBB.out) hzm.1);rw [show fstN []=[] from rfl] at HG10;obtain ⟨g10,hg10⟩:=nm (greatP [] (fstS P));rw [<- hg10] at HG10;have HE10:=zh hg10;have HBX:=BX.out.lt;clear hg10
    cases g10 with
    | true =>
     go_wp2_with fail;refine HG10.out.mono ?_;rintro e w5 ⟨rfl,f5⟩;have FF:=zh (FRa.out.nx f5);clear f5;go_wp2_with fail;go_ret;exact ⟨⟨true,rfl,fun h=>by cases h⟩,FF.out⟩
    | false => ?_
    obtain ⟨hp1,hp2⟩:=greatP_small HE10.out.symm
    by_cases h40:nr<=40
    ·
     have h40i:((nr:Nat):Int)<=40:=by omega
     have HWD:=zh (fun (wx:World) (hx:Fr w.heap.size [] w wx) (hp:Sts wx B Ap np P)=>wide_any A Ap c cp B n np M P wx (HM.out wx hx) (Nat.le_trans HBB.out hx.size) (fun m hm=>(HSM.out.2 m hm).2) (by omega) hp (fun m hm=>by have:=hp2 m.1 (List.mem_map.2 ⟨m,hm,rfl⟩);omega) (by rw [HNP.out];simp [fstS] at hp1;omega));clear hp1 hp2;go_wp2_with fail;refine HG10.out.mono ?_;rintro e w5 ⟨rfl,f5⟩;have FF:=zh (FRa.out.nx f5);have HP5:=zh (HPa.out.frw f5 (Nat.le_trans HBB.out FRa.out.size) (by simp));have BX5:=BX.out.fr f5 HBX (by simp);have y0:=BX5.cell 0;have y1:=BX5.cell 1;simp at y0 y1;have HW5:=zh (HWD.out w5 FF.out HP5.out);clear f5 HG10 x0 x1 BX5 HWD;go_wp2_with fail;refine HW5.out.mono ?_;rintro e w6 ⟨⟨b,rfl⟩,f6⟩;have FG:=zh (FF.out.nx f6);clear f6 HW5 y0 y1 FF
     cases b with
     | true =>
      go_wp2_with fail;go_ret;exact ⟨⟨true,rfl,fun h=>by cases h⟩,FG.out⟩
     | false =>
      go_wp2_with fail;go_roundg (nz - (k+1))
      case measure=>omega
      case rel =>
       refine ⟨k+1,by omega,rfl,.inr ⟨_,rfl⟩,by go_num,zh (fun z hz => ?_),FG⟩;rw [HTK.out] at hz
       rcases List.mem_append.1 hz with e | e
       · exact HP.out z e
       · rw [List.mem_singleton.1 e];exact ⟨HE10.out.symm,by rw [<- HNR.out];exact h40⟩
    ·
     have h40i:(40:Int) < (nr:Int):=by omega
     clear hp1 hp2;go_wp2_with fail;refine HG10.out.mono ?_;rintro e w5 ⟨rfl,f5⟩;have FF:=zh (FRa.out.nx f5);have BX5:=BX.out.fr f5 HBX (by simp);have y0:=BX5.cell 0;have y1:=BX5.cell 1;simp at y0 y1;clear f5 HG10 x0 x1 BX5;go_wp2_with fail;go_ret;exact ⟨⟨true,rfl,fun h=>by cases h⟩,FF.out⟩
   ·
    obtain rfl:nz=k:=by omega
    have hT:Z.take nz=Z:=List.take_of_length_le (by rw [HNZ.out];exact Nat.le_refl _);rw [hT] at HP;clear hT;go_wp2_with fail;go_ret;exact ⟨⟨false,rfl,fun _=>⟨HE8.out.symm,by rw [<- HNZ.out];exact h5,HP.out⟩⟩,FR.out⟩
 ·
  have h5i:(5:Int) < ((nz:Nat):Int):=by omega
  go_wp2_with fail;go_ret;exact ⟨⟨true,rfl,fun h=>by cases h⟩,F1.out⟩
theorem allT_few (T:Pk->CV):(allT T).length<=512:=by
 unfold allT someE someT;rw [List.length_map];refine Nat.le_trans (List.length_filter_le _ _) ?_;unfold plcs;simp
theorem lnlen {w:World} {base n c:Nat} {A:Option Addr} {l:List (Nat->Int)} (h:w.ownsRow base 69 5 (.slice A n c) n (cellsLn l)):n=l.length:=by
 have h1:=h.1;rw [cellsLn_length] at h1;omega
theorem zero_len {Z:List Sg} (h:(bare Z) ≠ []):Z.length ≠ 0:=fun e=>h (by rw [List.eq_nil_of_length_eq_zero e];rfl)
theorem walk_DenRuns (A:Option Addr) (n c:Nat) (M:List Ndm) (hn:n<=maxLen) (hnc:n<=c) (hcap:CapN M) (Az:Option Addr) (nz cz:Nat) (Z:List Sg) (hmz:∀ z ∈ Z,z.P.length<=maxLen/\z.R.length<=maxLen) (hcz:CapG Z) (w:World) (h:Nds w w.heap.size A n M) (hZ:Sgs w w.heap.size Az nz Z) :
  Calls Tryz.prog 3 #[.slice A n c,.slice Az nz cz] w fun e w'=>e=.returned (.bool true)/\Below w.heap.size w w':=by
 have HM:=zh (fun (wx:World) (hx:Fr w.heap.size [] w wx)=>(h.frw hx (Nat.le_refl _) (by simp):Nds wx w.heap.size A n M));have HZ:=zh (fun (wx:World) (hx:Fr w.heap.size [] w wx)=>(hZ.frw hx (Nat.le_refl _) (by simp):Sgs wx w.heap.size Az nz Z));have HNZ:=zh hZ.num;have HCP:=zh hcap;have HCZ:=zh hcz;have HAW:=zh (awake12_any w);clear h hZ hcap hcz;go_enter Tryz.func3,Tryz.ntmps3;go_wp2_with fail;refine HAW.out.mono ?_;rintro e w1 ⟨rfl,f1⟩;have F1:=zh f1;have HGR:=zh (great12_any A Az c cz w.heap.size n nz M Z w1 (HM.out w1 f1) f1.size hn (HZ.out w1 f1) hmz);clear f1 HAW hmz;go_wp2_with fail;refine HGR.out.mono ?_;rintro e w2 ⟨⟨g,rfl,hg⟩,f2⟩;have F2:=zh (F1.out.nx f2);have HG:=zh hg;clear f2 hg HGR F1
 cases g with
 | true =>
  go_wp2_with fail;go_ret;exact ⟨rfl,F2.out.below⟩
 | false => ?_
 have hgi:=HG.out rfl;obtain ⟨hsm,hsg,hM20⟩:=hgi.small;have HR40:=zh (fun z hz=>⟨(hsg z hz).1,(hsg z hz).2.1,(hgi.2.2 z hz).2⟩:∀ z ∈ Z,SmallS z.P/\z.P.length<=1000/\z.R.length<=40);have hz5:nz<=5:=(by rw [HNZ.out];exact hgi.2.1);have hn20:n<=20:=(by rw [(HM.out w2 F2.out).num];exact hM20);have HSM:=zh hsm;have HSA:=zh (segs_any A Az c cz w.heap.size n nz M Z w2 (HM.out w2 F2.out) F2.out.size hsm hn20 (HZ.out w2 F2.out) hsg hz5);have HRS:=zh (fun (wx:World) (hx:Fr w.heap.size [] w wx) (Ap:Option Addr) (cp:Nat) (hp:Sgs wx wx.heap.size Ap nz Z)=>rsegs_any A Ap c cp wx.heap.size n nz M Z wx ((HM.out wx hx).more hx.size) (Nat.le_refl _) HSM.out HCP.out hnc hp HR40.out HCZ.out hz5);obtain ⟨X0,hX0⟩:=nm (⟨normL (fstN M),fun _=>c0,[]⟩:GS);obtain ⟨Y0,hY0⟩:=nm (⟨fstN M,fun _=>c0,[]⟩:GS);have hpr:Pair X0 Y0:=(by rw [hX0,hY0];exact ⟨rfl,rfl,normL_perm _⟩);obtain ⟨he,hk⟩:=segs_agree (bare Z) hpr;rw [<- hX0] at HSA;rw [<- hY0] at HRS;obtain ⟨E,hE⟩:=nm (segsG (bare Z) X0);obtain ⟨D,hD⟩:=nm (segsR (bare Z) Y0);rw [<- hE] at he hk HSA;rw [<- hD] at he hk HRS;have HE:=zh he;have HK:=zh hk;have HPL:=zh (fun (wx:World) (hx:Fr w.heap.size [] w wx)=>plain12_any Az cz w.heap.size nz Z wx (HZ.out wx hx) hx.size (by omega));clear hgi hsm hsg hM20 HG hn hX0 hY0 hE hD hpr he hk;unfold SegsOut at HSA;unfold RSegs at HRS;go_wp2_with fail;refine HSA.out.mono ?_;rintro e w3 (⟨hr1,rfl,f3⟩ | ⟨hr1,Ao,no,co,A1,n1,c1,M1,gt,gm,rfl,hol,hnd1,hfm1,hsm1,hct,hok,_,_,f3⟩)
 case inl =>
  have F3:=zh (F2.out.nx f3);have HP3:=zh (HPL.out w3 F3.out);have R1:=zh hr1;clear f3 HSA hr1;go_wp2_with fail;refine HP3.out.mono ?_;rintro e w4 ⟨Ap,cp,rfl,hp4,f4⟩;have F4:=zh (F3.out.nx f4);have HR4:=zh (HRS.out w4 F4.out Ap cp hp4);clear f4 HP3 hp4;go_wp2_with fail;refine HR4.out.mono ?_;rintro e w5 (⟨hd1,rfl,f5⟩ | ⟨hd1,_⟩)
  · have F5:=zh (F4.out.nx f5);rw [<- HE.out];obtain ⟨ev,hev⟩:=nm (E.1);rw [<- hev];have hne:(ev == 0)=false:=kd_ne (by rw [hev];exact R1.out);clear hev HE hd1 f5 HR4;go_wp2_with fail;go_ret;exact ⟨rfl,F5.out.below⟩
  · exact absurd (HE.out.trans hd1) R1.out
 case inr =>
  have F3:=zh (F2.out.nx f3);have HP3:=zh (HPL.out w3 F3.out);have HOL:=zh hol;have HND1:=zh (And.intro hnd1 (And.intro hfm1 hsm1));have HCT:=zh (And.intro hct hok);have KK:=zh (HK.out hr1);have HD0:=zh (HE.out.symm.trans hr1);clear f3 HSA hr1 hol hnd1 hfm1 hsm1 hct hok;go_wp2_with fail;refine HP3.out.mono ?_;rintro e w4 ⟨Ap,cp,rfl,hp4,f4⟩;have F4:=zh (F3.out.nx f4);have F34:=zh f4;have HR4:=zh (HRS.out w4 F4.out Ap cp hp4);clear f4 HP3 hp4;go_wp2_with fail;refine HR4.out.mono ?_;rintro e w5 (⟨hd1,_⟩ | ⟨hd1,Ao2,no2,co2,A2,n2,c2,M2,gu,rfl,hno2,hno3,hol2,hnd2,hfm2,hsm2,_,_,hrt,hok2,f5⟩)
  · exact absurd HD0.out hd1
  obtain ⟨⟨hTT,hOO,hLL⟩,hRR⟩:=KK.out;have F35:=zh (F34.out.nx f5);have F5:=zh (F4.out.nx f5);have hol1:=ownsRow_fr HOL.out F35.out (fun q hq=>⟨(HOL.out.lt q hq).2,by simp⟩);have e1:=lnlen HOL.out;rw [hOO] at hol1 e1;have e12:no2=no:=(by rw [e1,hno2]);subst e12;have HRA:=zh (fun (wx:World) (hx:Fr w5.heap.size [] w5 wx)=>((Reads.of_own hol1).fr hx (Nat.le_refl _) (by simp):Reads wx w5.heap.size 5 Ao no2 (cellsLn D.2.out)));have HRB:=zh (fun (wx:World) (hx:Fr w5.heap.size [] w5 wx)=>((Reads.of_own hol2).fr hx (Nat.le_refl _) (by simp):Reads wx w5.heap.size 5 Ao2 no2 (cellsLn D.2.out)));have HL1:=zh (lines_yes (c1:=co) (c2:=co2) hno2 (HRA.out w5 (Fr.refl _ _ _)) (HRB.out w5 (Fr.refl _ _ _)) (by omega));have hct5:=HCT.out.1.fr F35.out HCT.out.1.bk.lt (by simp) HCT.out.1.mp.lt (by simp);have HCA:=zh (fun (wx:World) (hx:Fr w5.heap.size [] w5 wx)=>call_any gt gm E.2.T HCT.out.2 wx (hct5.fr hx hct5.bk.lt (by simp) hct5.mp.lt (by simp)));have HCB:=zh (fun (wx:World) (hx:Fr w5.heap.size [] w5 wx)=>r7all_any gu D.2.T wx (hrt.fr hx hrt.lt (by simp)));rw [hTT] at HCA;have h512:=allT_few D.2.T;obtain ⟨la,hla⟩:=nm (allT D.2.T);rw [<- hla] at HCA h512;unfold R7AOut at HCB;rw [<- hla] at HCB;unfold EntsOut at HCA
  have HSG := zh (fun (wx : World) (hx : Fr w5.heap.size [] w5 wx) (hz : nz ≠ 0) => (by
   have h1:=((HND1.out.1.frw F35.out (Nat.le_refl _) (by simp)).more F35.out.size);have h:=rsame_any A1 A2 c1 c2 w5.heap.size n1 n2 M1 M2 wx (h1.frw hx (Nat.le_refl _) (by simp)) (hnd2.frw hx (Nat.le_refl _) (by simp)) hx.size HND1.out.2.2 hsm2
   rw [HND1.out.2.1, hfm2, rsameL_perm hLL (hRR (fun e => hz (by
    rw [HNZ.out];have:(bare Z).length=0:=(by rw [e];rfl)
    simpa [bare] using this))).uni] at h
   exact h:Calls Tryz.prog 18 #[.slice A1 n1 c1,.slice A2 n2 c2] wx fun e w'=>e=.returned (.bool true)/\Fr wx.heap.size [] wx w'))
  clear hla hTT hOO hLL hRR f5 hol1 e1 hno2 hol2 hnd2 hfm2 hsm2 hrt hok2 hct5 HR4 HRS HPL HE HK HD0 HOL HND1 HCT KK F34 F35 hd1;go_wp2_with fail;refine HL1.out.mono ?_;rintro e w7 ⟨rfl,f7⟩;have F7:=zh f7;have HC5:=zh (HCA.out w7 f7);clear f7 HL1;go_wp2_with fail;refine HC5.out.mono ?_;rintro e w8 ⟨Aa,ca,rfl,ra,_,_,f8⟩;have F8:=zh (F7.out.nx f8);have RA:=zh ra;have HC6:=zh (HCB.out w8 F8.out);clear f8 ra HC5 F7;go_wp2_with fail;refine HC6.out.mono ?_;rintro e w9 ⟨Ab,nb,cb,hnb,rfl,rb',f9⟩;have F9:=zh (F8.out.nx f9);subst hnb;have HSY:=zh (same_yes (c1:=ca) (c2:=cb) (RA.out.fr f9 (Nat.le_refl _) (by simp)) (Reads.of_own rb') (by omega));clear f9 rb' HC6 F8 RA;go_wp2_with fail;refine HSY.out.mono ?_;rintro e w10 ⟨rfl,f10⟩;have F10:=zh (F9.out.nx f10);clear f10 HSY F9
  rcases Nat.eq_zero_or_pos nz with hz | hz
  · subst hz;have FZ:=zh (F5.out.nx F10.out);go_wp2_with fail;go_ret;exact ⟨rfl,FZ.out.below⟩
  · have HS10:=zh (HSG.out w10 F10.out (by omega));have hzn:((nz:Int) == 0)=false:=kd_ne (by omega);clear HSG;go_wp2_with fail;refine HS10.out.mono ?_;rintro e w11 ⟨rfl,f11⟩;have FZ:=zh (F5.out.trans ((F10.out.nx f11).mono (B':=w.heap.size) (L':=[]) F5.out.size (by simp)));clear f11;go_wp2_with fail;go_ret;exact ⟨rfl,FZ.out.below⟩
end Go.Proofs.YtlejomlppjpchaaGreat
