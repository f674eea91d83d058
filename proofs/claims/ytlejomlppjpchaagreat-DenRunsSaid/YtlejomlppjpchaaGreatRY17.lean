/- Texts merged into one, for the number of files a claim may have: R7, FlB, DnP, DnA, DnB, FlC, FlD, DnC, DnQ, WkC, R7A. -/
import Derived.Test.YtlejomlppjpchaaGreatTk
import Derived.Test.YtlejomlppjpchaaGreatRY5
import Derived.Test.YtlejomlppjpchaaGreatRY10
import Derived.Test.YtlejomlppjpchaaGreatRY11
import Derived.Test.YtlejomlppjpchaaGreatRY12
import Derived.Test.YtlejomlppjpchaaGreatRY13
import Derived.Test.YtlejomlppjpchaaGreatRY16
namespace Go.Proofs.YtlejomlppjpchaaGreat
open Go.RowKit Go.Fb
set_option maxRecDepth 100000
set_option maxHeartbeats 16000000
set_option linter.unusedVariables false
def R7Out (gu:Nat) (T:Pk->CV) (p:Pk) (l:List (Int × Int)) (x:Int × Int) (w:World) (e:Ending) (w':World):Prop :=
 ∃ A n c,n=(outP_ l x (ccT (T p))).length/\e=.returned (.slice A n c)/\w'.ownsRow w.heap.size 50 3 (.slice A n c) n (cellsR (rcL p.2 (outP_ l x (ccT (T p)))))/\RT w' gu (updT T p (cvT (celP l x (ccT (T p)))))/\Fr w.heap.size [gu] w w'
theorem owns7_empty (w:World):(w.alloc (.cells #[] 50)).ownsRow w.heap.size 50 3 (.slice (some ⟨w.heap.size,0,none⟩) 0 0) 0 []:=by
 refine ⟨rfl,.inr ⟨w.heap.size,0,#[],rfl,Nat.le_refl _,Blk.new _ _ _,?_⟩⟩;simp
def R6P (o:List (Int × Int)) (d:(Int × Int) × (Int × Int)) (w:World) (e:Ending) (w':World):Prop :=
 ∃ A n cc st,n=o.length/\e=.returned (.tuple #[.slice A n cc,c4 d,.int .i64 st])/\w'.ownsRow w.heap.size 48 2 (.slice A n cc) n (cellsV o)/\Fr w.heap.size [] w w'
theorem r7run_any (gu:Nat) (T:Pk->CV) (nd key:Nat) (Ap:Option Addr) (cp B:Nat) (l:List (Int × Int)) (s:CS) (x:Int × Int) (w:World) (h:RT w gu T) (hsf:chkL l=some s) (hrd:Reads w B 2 Ap l.length (cellsI l)) (hB:B<=w.heap.size) (hx:vOk x) (hnd:nd < 8) (hky:key < 64) (hT:cvB (T ((nd:Int),(key:Int)))=true) (hn:(outP_ l x (ccT (T ((nd:Int),(key:Int))))).length<=1000) :
  Calls Tryz.prog 73 #[.pointer (some ⟨gu,0,none⟩),.int .i64 nd,.slice Ap l.length cp,.agg #[.int .i64 key,.int .i64 x.1,.int .i64 x.2]] w (R7Out gu T ((nd:Int),(key:Int)) l x w):=by
 have hg:=h.get hnd hky
 have HRUN := zh (fun (wx : World) (hf : Fr w.heap.size [] w wx) => (by
  have h:=r6run_any Ap cp B l s x (ccT (T ((nd:Int),(key:Int)))) wx hsf (hrd.fr hf hB (by simp)) (Nat.le_trans hB hf.size) hx (cvB_ok hT)
  exact h:Calls Tryz.prog 116 #[.slice Ap l.length cp,.agg #[.int .i64 x.1,.int .i64 x.2],c4 (ccT (T ((nd:Int),(key:Int))))] wx (R6P (outP_ l x (ccT (T ((nd:Int),(key:Int))))) (celP l x (ccT (T ((nd:Int),(key:Int))))) wx)))
 obtain ⟨cv,hcv⟩:=nm (T ((nd:Int),(key:Int)));unfold R7Out;rw [<- hcv] at HRUN hn hg ⊢;have HCV:=zh hcv;obtain ⟨o,ho⟩:=nm (outP_ l x (ccT cv));obtain ⟨d,hd⟩:=nm (celP l x (ccT cv));rw [<- ho,<- hd] at HRUN;rw [<- ho] at hn;rw [<- ho,<- hd];have HON:=zh hn;have hgu:=h.lt;have HT:=zh h;have fa:=(Fr.refl w.heap.size [] w).alloc (Nat.le_refl _) (.cells #[.int .i64 key,.int .i64 x.1,.int .i64 x.2] 50);have BX:=zh (Blk.new w 50 #[.int .i64 key,.int .i64 x.1,.int .i64 x.2]);have FA:=zh fa;obtain ⟨nl,hnl⟩:=nm (l.length);rw [<- hnl] at HRUN ⊢;have n0:(0:Int)<=(nd:Int):=(by omega);have n1:(nd:Int) < 8:=(by omega);have k0:(0:Int)<=(key:Int):=(by omega);have k1:(key:Int) < 64:=(by omega);clear h hsf hrd hx hT hcv ho hd fa hnl hn hg hB;go_enter Tryz.func73,Tryz.ntmps73;go_upto_region 1 with fail;generalize w.alloc (.cells #[.int .i64 key,.int .i64 x.1,.int .i64 x.2] 50)=w1 at *;obtain ⟨gx,hgx⟩:=nm (w.heap.size);rw [<- hgx] at BX ⊢;have HGX:=zh hgx;have hgw1:w.heap.size<=w1.heap.size:=FA.out.size;clear hgx
 have SF := zh (fun (W : World) (hf : Fr w1.heap.size [] w1 W) => (by
  have b:=BX.out.fr hf BX.out.lt (by simp);have t:=((HT.out.fr FA.out hgu (by simp)).fr hf (by omega) (by simp)).get hnd hky;rw [<- HCV.out] at t
  exact ⟨b.cell 0,b.cell 1,b.cell 2,t.1,t.2.1,t.2.2.1,t.2.2.2⟩:W.cell? ⟨gx,0,none⟩=some (.int .i64 key)/\W.cell? ⟨gx,1,none⟩=some (.int .i64 x.1)/\W.cell? ⟨gx,2,none⟩=some (.int .i64 x.2)/\W.cell? ⟨gu,nd * 256+key * 4,none⟩=some (.int .i64 cv.1)/\W.cell? ⟨gu,nd * 256+key * 4+1,none⟩=some (.int .i64 cv.2.1)/\W.cell? ⟨gu,nd * 256+key * 4+2,none⟩=some (.int .i64 cv.2.2.1)/\W.cell? ⟨gu,nd * 256+key * 4+3,none⟩=some (.int .i64 cv.2.2.2)))
 have I:=zh ((Fr.refl w1.heap.size [] w1).drew);have HR2:=zh (fun (wx:World) (hf:Fr w1.heap.size [] w1 wx)=>(HRUN.out wx (FA.out.trans (hf.mono (B':=w.heap.size) (L':=[]) hgw1 (by simp))):Calls Tryz.prog 116 #[.slice Ap nl cp,.agg #[.int .i64 x.1,.int .i64 x.2],.agg #[.int .i64 cv.1,.int .i64 cv.2.1,.int .i64 cv.2.2.1,.int .i64 cv.2.2.2]] wx (R6P o d wx)));clear HRUN;go_cut [9,10,11] (fun s9 s10 s11 wx=>∃ A n cc st g10,s9=.slice A n cc/\s10=.pointer (some ⟨g10,0,none⟩)/\s11=.int .i64 st/\Hid (n=o.length)/\Hid (Blk wx g10 109 #[.int .i64 d.1.1,.int .i64 d.1.2,.int .i64 d.2.1,.int .i64 d.2.2])/\Hid (wx.ownsRow w1.heap.size 48 2 (.slice A n cc) n (cellsV o))/\Hid (Fr w1.heap.size [] w1 wx)/\Hid (w1.heap.size<=g10)/\Hid (∀ q,(Value.slice A n cc).ownBlock=some q->q ≠ g10))
 case first =>
  refine wp_region_held_drew (S:=fun W=>W.cell? ⟨gx,0,none⟩=some (.int .i64 key)/\W.cell? ⟨gx,1,none⟩=some (.int .i64 x.1)/\W.cell? ⟨gx,2,none⟩=some (.int .i64 x.2)/\W.cell? ⟨gu,nd * 256+key * 4,none⟩=some (.int .i64 cv.1)/\W.cell? ⟨gu,nd * 256+key * 4+1,none⟩=some (.int .i64 cv.2.1)/\W.cell? ⟨gu,nd * 256+key * 4+2,none⟩=some (.int .i64 cv.2.2.1)/\W.cell? ⟨gu,nd * 256+key * 4+3,none⟩=some (.int .i64 cv.2.2.2)) (by kernel_rfl) (SF.out _ I.out) (fun hHeld => ?_);refine tk (i:=0) (oi:=⟨some 15,_,_,_,_,_⟩) (v:=?_) rfl ?_ hHeld ?_
  rotate_left
  · intro w hSw;(try dsimp only at hSw);go_simp;(try with_reducible rfl)
  simp only [Act.put,lPt];refine tk (i:=1) (oi:=⟨some 16,_,_,_,_,_⟩) (v:=?_) rfl ?_ hHeld ?_
  rotate_left
  · intro w hSw;(try dsimp only at hSw);go_simp;(try with_reducible rfl)
  simp only [Act.put,lPt];refine tk (i:=2) (oi:=⟨some 17,_,_,_,_,_⟩) (v:=?_) rfl ?_ hHeld ?_
  rotate_left
  · intro w hSw;(try dsimp only at hSw);go_simp;(try with_reducible rfl)
  simp only [Act.put,lPt];refine tk (i:=3) (oi:=⟨some 18,_,_,_,_,_⟩) (v:=?_) rfl ?_ hHeld ?_
  rotate_left
  · intro w hSw;(try dsimp only at hSw);go_simp;(try with_reducible rfl)
  simp only [Act.put,lPt];refine tk (i:=4) (oi:=⟨some 19,_,_,_,_,_⟩) (v:=?_) rfl ?_ hHeld ?_
  rotate_left
  · intro w hSw;(try dsimp only at hSw);go_simp;(try with_reducible rfl)
  simp only [Act.put,lPt];refine tk (i:=5) (oi:=⟨some 20,_,_,_,_,_⟩) (v:=?_) rfl ?_ hHeld ?_
  rotate_left
  · intro w hSw;(try dsimp only at hSw);go_simp;(try with_reducible rfl)
  simp only [Act.put,lPt];refine tk (i:=6) (oi:=⟨some 21,_,_,_,_,_⟩) (v:=?_) rfl ?_ hHeld ?_
  rotate_left
  · intro w hSw;(try dsimp only at hSw);go_simp;(try with_reducible rfl)
  simp only [Act.put,lPt];refine tk (i:=7) (oi:=⟨some 22,_,_,_,_,_⟩) (v:=?_) rfl ?_ hHeld ?_
  rotate_left
  · intro w hSw;(try dsimp only at hSw);go_simp;(try with_reducible rfl)
  simp only [Act.put,lPt];refine tk (i:=8) (oi:=⟨some 23,_,_,_,_,_⟩) (v:=?_) rfl ?_ hHeld ?_
  rotate_left
  · intro w hSw;(try dsimp only at hSw);go_simp;(try with_reducible rfl)
  simp only [Act.put,lPt];refine tk (i:=9) (oi:=⟨some 24,_,_,_,_,_⟩) (v:=?_) rfl ?_ hHeld ?_
  rotate_left
  · intro w hSw;(try dsimp only at hSw);go_simp;(try with_reducible rfl)
  simp only [Act.put,lPt];refine tk (i:=10) (oi:=⟨some 25,_,_,_,_,_⟩) (v:=?_) rfl ?_ hHeld ?_
  rotate_left
  · intro w hSw;(try dsimp only at hSw);go_simp;(try with_reducible rfl)
  simp only [Act.put,lPt];refine wpAnyH_ready (rs:=[11,16]) (by kernel_rfl) (by simp) ?_;refine AllReadyH.cons (o:=⟨some 26,_,_,_,_,_⟩) rfl (fun K hK => ?_) (AllReadyH.cons (o:=⟨some 10,_,_,_,_,_⟩) rfl (fun K hK => ?_) AllReadyH.nil)
  ·
   skip
   rw [if_pos (by rfl)];go_simp;refine (HR2.out _ I.out).mono ?_;rintro e w5 ⟨A,n,cc,st,hn,rfl,how,f5⟩;have hIs:=I.out.size;have HOW:=zh (ownsRow_base how hIs);have I:=zh (I.out.trans (f5.mono (B':=w1.heap.size) (L':=[]) hIs (by simp)));have HN:=zh hn;clear hn how;refine hK.out _ _ (SF.out _ I.out) (fun hHeld => ?_);clear hK K
   try simp only [Act.put,lPt]
   refine tk (i:=12) (oi:=⟨some 14,_,_,_,_,_⟩) (v:=?_) rfl ?_ hHeld ?_
   rotate_left
   · intro w hSw;(try dsimp only at hSw);go_simp;(try with_reducible rfl)
   simp only [Act.put,lPt];refine tk (i:=13) (oi:=⟨some 27,_,_,_,_,_⟩) (v:=?_) rfl ?_ hHeld ?_
   rotate_left
   · intro w hSw;(try dsimp only at hSw);go_simp;(try with_reducible rfl)
   simp only [Act.put,lPt];refine tk (i:=14) (oi:=⟨some 28,_,_,_,_,_⟩) (v:=?_) rfl ?_ hHeld ?_
   rotate_left
   · intro w hSw;(try dsimp only at hSw);go_simp;(try with_reducible rfl)
   simp only [Act.put,lPt];refine tk (i:=15) (oi:=⟨some 29,_,_,_,_,_⟩) (v:=?_) rfl ?_ hHeld ?_
   rotate_left
   · intro w hSw;(try dsimp only at hSw);go_simp;(try with_reducible rfl)
   simp only [Act.put,lPt];refine wpAnyH_ready (rs:=[16]) (by kernel_rfl) (by simp) ?_;refine AllReadyH.cons (o:=⟨some 10,_,_,_,_,_⟩) rfl (fun K hK => ?_) AllReadyH.nil;rw [if_pos (by rfl)];go_simp;have BO:=zh (fr_new I.out 109 #[.int .i64 0,.int .i64 0,.int .i64 0,.int .i64 0]);have hIs:=I.out.size;have hG10:=hIs;have I0:=I;have HNE:=zh (fun (q:Nat) (hq:(Value.slice A n cc).ownBlock=some q)=>(show q ≠ w5.heap.size by have:=(HOW.out.lt q hq).2;omega));have HOW0:=HOW;have HOW:=zh (ownsRow_fr HOW0.out ((Fr.refl _ [] _).alloc (Nat.le_refl _) (.cells #[.int .i64 0,.int .i64 0,.int .i64 0,.int .i64 0] 109)) (fun q hq=>⟨(HOW0.out.lt q hq).2,by simp⟩));have I:=zh (I.out.alloc hIs (.cells #[.int .i64 0,.int .i64 0,.int .i64 0,.int .i64 0] 109));refine hK.out _ _ (SF.out _ I.out) (fun hHeld => ?_);clear hK K
   try simp only [Act.put,lPt]
   refine tk (i:=17) (oi:=⟨some 9,_,_,_,_,_⟩) (v:=?_) rfl ?_ hHeld ?_
   rotate_left
   · intro w hSw;(try dsimp only at hSw);go_simp;(try with_reducible rfl)
   simp only [Act.put,lPt];refine wpAnyH_ready (rs:=[18]) (by kernel_rfl) (by simp) ?_;refine AllReadyH.cons (o:=⟨none,_,_,_,_,_⟩) rfl (fun K hK => ?_) AllReadyH.nil;rw [if_pos (by rfl)];have y0:=BO.out.cell 0;have y1:=BO.out.cell 1;have y2:=BO.out.cell 2;have y3:=BO.out.cell 3;have z0:=BO.out.frozen 0;have z1:=BO.out.frozen 1;have z2:=BO.out.frozen 2;have z3:=BO.out.frozen 3;simp at y0 y1 y2 y3;go_simp;have BO:=zh (fr_new I0.out 109 #[.int .i64 d.1.1,.int .i64 d.1.2,.int .i64 d.2.1,.int .i64 d.2.2]);have HOW:=zh (ownsRow_fr HOW0.out ((Fr.refl _ [] _).alloc (Nat.le_refl _) (.cells #[.int .i64 d.1.1,.int .i64 d.1.2,.int .i64 d.2.1,.int .i64 d.2.2] 109)) (fun q hq=>⟨(HOW0.out.lt q hq).2,by simp⟩));have I:=zh (I0.out.alloc hIs (.cells #[.int .i64 d.1.1,.int .i64 d.1.2,.int .i64 d.2.1,.int .i64 d.2.2] 109));clear y0 y1 y2 y3 z0 z1 z2 z3;refine hK.out _ _ (SF.out _ I.out) (fun hHeld => ?_);clear hK K
   try simp only [Act.put]
   refine tk (i:=19) (oi:=⟨some 11,_,_,_,_,_⟩) (v:=?_) rfl ?_ hHeld ?_
   rotate_left
   · intro w hSw;(try dsimp only at hSw);go_simp;(try with_reducible rfl)
   simp only [Act.put,lPt];refine wpAnyH_done (by kernel_rfl) ?_ _;go_wp2_with fail;go_meet;exact ⟨A,n,cc,st,_,rfl,rfl,rfl,HN,BO,HOW,I,zh hG10,HNE⟩
  ·
   skip
   rw [if_pos (by rfl)];go_simp;have BO:=zh (show Blk (w1.alloc (.cells #[.int .i64 0,.int .i64 0,.int .i64 0,.int .i64 0] 109)).drew w1.heap.size 109 #[.int .i64 0,.int .i64 0,.int .i64 0,.int .i64 0] from fr_new I.out 109 #[.int .i64 0,.int .i64 0,.int .i64 0,.int .i64 0]);have hIs:=I.out.size;have hG10:=hIs;have I0:=I;have I:=zh (I.out.alloc hIs (.cells #[.int .i64 0,.int .i64 0,.int .i64 0,.int .i64 0] 109));refine hK.out _ _ (SF.out _ I.out) (fun hHeld => ?_);clear hK K
   try simp only [Act.put,lPt]
   refine wpAnyH_ready (rs:=[11]) (by kernel_rfl) (by simp) ?_;refine AllReadyH.cons (o:=⟨some 26,_,_,_,_,_⟩) rfl (fun K hK => ?_) AllReadyH.nil;rw [if_pos (by rfl)];go_simp;refine (HR2.out _ I.out).mono ?_;rintro e w5 ⟨A,n,cc,st,hn,rfl,how,f5⟩;have hIs:=I.out.size;have HOW:=zh (ownsRow_base how hIs);have I:=zh (I.out.trans (f5.mono (B':=w1.heap.size) (L':=[]) hIs (by simp)));have HN:=zh hn;have BO:=zh (BO.out.fr f5 BO.out.lt (by simp));have HNE:=zh (fun (q:Nat) (hq:(Value.slice A n cc).ownBlock=some q)=>(fun (e:q=w1.heap.size)=>(BO.out.ne_own HOW.out (by decide)) (by rw [hq,e])));clear hn how;refine hK.out _ _ (SF.out _ I.out) (fun hHeld => ?_);clear hK K
   try simp only [Act.put,lPt]
   refine tk (i:=12) (oi:=⟨some 14,_,_,_,_,_⟩) (v:=?_) rfl ?_ hHeld ?_
   rotate_left
   · intro w hSw;(try dsimp only at hSw);go_simp;(try with_reducible rfl)
   simp only [Act.put,lPt];refine tk (i:=13) (oi:=⟨some 27,_,_,_,_,_⟩) (v:=?_) rfl ?_ hHeld ?_
   rotate_left
   · intro w hSw;(try dsimp only at hSw);go_simp;(try with_reducible rfl)
   simp only [Act.put,lPt];refine tk (i:=14) (oi:=⟨some 28,_,_,_,_,_⟩) (v:=?_) rfl ?_ hHeld ?_
   rotate_left
   · intro w hSw;(try dsimp only at hSw);go_simp;(try with_reducible rfl)
   simp only [Act.put,lPt];refine tk (i:=15) (oi:=⟨some 29,_,_,_,_,_⟩) (v:=?_) rfl ?_ hHeld ?_
   rotate_left
   · intro w hSw;(try dsimp only at hSw);go_simp;(try with_reducible rfl)
   simp only [Act.put,lPt];refine tk (i:=17) (oi:=⟨some 9,_,_,_,_,_⟩) (v:=?_) rfl ?_ hHeld ?_
   rotate_left
   · intro w hSw;(try dsimp only at hSw);go_simp;(try with_reducible rfl)
   simp only [Act.put,lPt];refine wpAnyH_ready (rs:=[18]) (by kernel_rfl) (by simp) ?_;refine AllReadyH.cons (o:=⟨none,_,_,_,_,_⟩) rfl (fun K hK => ?_) AllReadyH.nil;rw [if_pos (by rfl)];have y0:=BO.out.cell 0;have y1:=BO.out.cell 1;have y2:=BO.out.cell 2;have y3:=BO.out.cell 3;have z0:=BO.out.frozen 0;have z1:=BO.out.frozen 1;have z2:=BO.out.frozen 2;have z3:=BO.out.frozen 3;simp at y0 y1 y2 y3;go_simp;have FQ:=zh (((((Fr.refl w5.heap.size [w1.heap.size] w5).setCell (p:=⟨w1.heap.size,0,none⟩) (.inr (by simp)) (.int .i64 d.1.1)).setCell (p:=⟨w1.heap.size,1,none⟩) (.inr (by simp)) (.int .i64 d.1.2)).setCell (p:=⟨w1.heap.size,2,none⟩) (.inr (by simp)) (.int .i64 d.2.1)).setCell (p:=⟨w1.heap.size,3,none⟩) (.inr (by simp)) (.int .i64 d.2.2));have HOW:=zh (ownsRow_fr HOW.out (B:=w5.heap.size) FQ.out (fun q hq=>⟨(HOW.out.lt q hq).2,by simp;exact HNE.out q hq⟩));have bs:=(((BO.out.set_ 0 (.int .i64 d.1.1)).set_ 1 (.int .i64 d.1.2)).set_ 2 (.int .i64 d.2.1)).set_ 3 (.int .i64 d.2.2);simp only [List.setIfInBounds_toArray,List.set_cons_zero,List.set_cons_succ] at bs;have BO:=zh bs;have I:=zh (I.out.nx FQ.out);clear bs;clear y0 y1 y2 y3 z0 z1 z2 z3;refine hK.out _ _ (SF.out _ I.out) (fun hHeld => ?_);clear hK K
   try simp only [Act.put]
   refine tk (i:=19) (oi:=⟨some 11,_,_,_,_,_⟩) (v:=?_) rfl ?_ hHeld ?_
   rotate_left
   · intro w hSw;(try dsimp only at hSw);go_simp;(try with_reducible rfl)
   simp only [Act.put,lPt];refine wpAnyH_done (by kernel_rfl) ?_ _;go_wp2_with fail;go_meet;exact ⟨A,n,cc,st,_,rfl,rfl,rfl,HN,BO,HOW,I,zh hG10,HNE⟩
 case rest =>
  obtain ⟨A,n,cc,st,g10,rfl,rfl,rfl,HN,B10,HOW,F4,hg10,HNE⟩:=hcut;have hg10:=hg10.out;clear SF I HR2;have BXc:=zh (BX.out.fr F4.out BX.out.lt (by simp));have HTc:=zh ((HT.out.fr FA.out hgu (by simp)).fr F4.out (by omega) (by simp));have FC:=zh (FA.out.trans (F4.out.mono (B':=w.heap.size) (L':=[]) hgw1 (by simp)));have hgxw:gx < w1.heap.size:=BX.out.lt;have hgug:gu < g10:=(by omega);have hw1c:w1.heap.size<=wc.heap.size:=F4.out.size;clear BX HT;have x0:=BXc.out.cell 0;have x0':=BXc.out.drew.cell 0;have b0:=B10.out.cell 0;have b1:=B10.out.cell 1;have b2:=B10.out.cell 2;have b3:=B10.out.cell 3;have b0':=B10.out.drew.cell 0;have b1':=B10.out.drew.cell 1;have b2':=B10.out.drew.cell 2;have b3':=B10.out.drew.cell 3;obtain ⟨t0,t1,t2,t3⟩:=HTc.out.get hnd hky;obtain ⟨t0',t1',t2',t3'⟩:=(HTc.out.fr (Fr.refl wc.heap.size [] wc).drew HTc.out.lt (by simp)).get hnd hky;have z0:=HTc.out.thaw (nd * 256+key * 4);have z1:=HTc.out.thaw (nd * 256+key * 4+1);have z2:=HTc.out.thaw (nd * 256+key * 4+2);have z3:=HTc.out.thaw (nd * 256+key * 4+3);have z0':=(HTc.out.fr (Fr.refl wc.heap.size [] wc).drew HTc.out.lt (by simp)).thaw (nd * 256+key * 4);have z1':=(HTc.out.fr (Fr.refl wc.heap.size [] wc).drew HTc.out.lt (by simp)).thaw (nd * 256+key * 4+1);have z2':=(HTc.out.fr (Fr.refl wc.heap.size [] wc).drew HTc.out.lt (by simp)).thaw (nd * 256+key * 4+2);have z3':=(HTc.out.fr (Fr.refl wc.heap.size [] wc).drew HTc.out.lt (by simp)).thaw (nd * 256+key * 4+3);simp at x0 x0' b0 b1 b2 b3 b0' b1' b2' b3';rw [<- HCV.out] at t0 t1 t2 t3 t0' t1' t2' t3';have HPUT:=zh (HTc.out.put hnd hky (cvT d));have FS:=zh (((((Fr.refl wc.heap.size [gu] wc).setCell (p:=⟨gu,nd * 256+key * 4,none⟩) (.inr (by simp)) (.int .i64 d.1.1)).setCell (p:=⟨gu,nd * 256+key * 4+1,none⟩) (.inr (by simp)) (.int .i64 d.1.2)).setCell (p:=⟨gu,nd * 256+key * 4+2,none⟩) (.inr (by simp)) (.int .i64 d.2.1)).setCell (p:=⟨gu,nd * 256+key * 4+3,none⟩) (.inr (by simp)) (.int .i64 d.2.2)).drew;have HPUT2:RT (((((wc.setCell ⟨gu,nd * 256+key * 4,none⟩ (.int .i64 d.1.1)).setCell ⟨gu,nd * 256+key * 4+1,none⟩ (.int .i64 d.1.2)).setCell ⟨gu,nd * 256+key * 4+2,none⟩ (.int .i64 d.2.1)).setCell ⟨gu,nd * 256+key * 4+3,none⟩ (.int .i64 d.2.2)).drew) gu (updT T ((nd:Int),(key:Int)) (cvT d)):=HPUT.out.fr (Fr.refl _ [] _).drew HPUT.out.lt (by simp);have HP:=zh HPUT2;clear HPUT HPUT2;go_upto_region 2 with fail;go_region;clear x0 x0' b0 b1 b2 b3 b0' b1' b2' b3' t0 t1 t2 t3 t0' t1' t2' t3' z0 z1 z2 z3 z0' z1' z2' z3';have hws:wc.heap.size<=(((((wc.setCell ⟨gu,nd * 256+key * 4,none⟩ (.int .i64 d.1.1)).setCell ⟨gu,nd * 256+key * 4+1,none⟩ (.int .i64 d.1.2)).setCell ⟨gu,nd * 256+key * 4+2,none⟩ (.int .i64 d.2.1)).setCell ⟨gu,nd * 256+key * 4+3,none⟩ (.int .i64 d.2.2)).drew).heap.size:=FS.out.size;generalize ((((wc.setCell ⟨gu,nd * 256+key * 4,none⟩ (.int .i64 d.1.1)).setCell ⟨gu,nd * 256+key * 4+1,none⟩ (.int .i64 d.1.2)).setCell ⟨gu,nd * 256+key * 4+2,none⟩ (.int .i64 d.2.1)).setCell ⟨gu,nd * 256+key * 4+3,none⟩ (.int .i64 d.2.2)).drew=wd at *;have FD:=zh ((FC.out.mono (B':=w.heap.size) (L':=[gu]) (Nat.le_refl _) (by simp)).trans (FS.out.mono (B':=w.heap.size) (L':=[gu]) FC.out.size (by simp)));have BXd:=zh (BXc.out.fr FS.out BXc.out.lt (by have:=HGX.out;simp;omega));have HVd:=zh (Reads.of_own (ownsRow_fr HOW.out FS.out (fun q hq=>⟨(HOW.out.lt q hq).2,by have:=(HOW.out.lt q hq).1;simp;omega⟩)));have HUd:=zh HP.out.lt;clear BXc HTc FC FS HOW B10 HNE;go_upto_region 4 with fail;have HO0:=zh (ownsRow_base (owns7_empty wd) (Nat.le_refl _));have FE:=zh ((Fr.refl wd.heap.size [] wd).alloc (Nat.le_refl _) (.cells #[] 50));generalize wd.alloc (.cells #[] 50)=we at *;go_wp2_with fail;go_loopg [12,13] n (fun g s12 s13 wr=>∃ (k:Nat) (A':Option Addr) (c':Nat),k<=n/\g=n - k/\s12=.slice A' k c'/\s13=.int .i64 k/\Hid (wr.ownsRow wd.heap.size 50 3 (.slice A' k c') k (cellsR (rcL key (o.take k))))/\Hid (Fr wd.heap.size [] wd wr))
  case atStart=>exact ⟨0,_,0,Nat.zero_le _,rfl,rfl,rfl,HO0,FE⟩
  case round =>
   clear HO0 FE;obtain ⟨k,A',c',hk,rfl,rfl,rfl,HO,FR⟩:=hrel;have hszr:=FR.out.size;have hnn:n<=1000:=(by have:=HN.out;have:=HON.out;omega)
   by_cases hkn:k < n
   case pos =>
    have hki:(k:Int) < (n:Int):=(by omega);have hk0:(0:Int)<=(k:Int):=(by omega);obtain ⟨v,hv⟩:∃ v,o[k]?=some v:=⟨_,List.getElem?_eq_getElem (by rw [<- HN.out];exact hkn)⟩
    have HTK := zh (show cellsR (rcL key (o.take (k + 1))) = cellsR (rcL key (o.take k)) ++ [.int .i64 key, .int .i64 v.1, .int .i64 v.2] by
     rw [List.take_add_one,hv]
     simp [rcL,cellsR,rcF_C])
    obtain ⟨b,off,rfl,hb,p0,p1⟩:=reads_val (by rw [<- HN.out];exact HVd.out.fr FR.out (Nat.le_refl _) (by simp)) hv
    have RV := zh (fun (W : World) (hf : Fr wd.heap.size [] wr W) => (by
     have bb:=(BXd.out.fr FR.out BXd.out.lt (by simp)).fr hf BXd.out.lt (by simp)
     exact ⟨bb.cell 0,(hf.cell (p:=⟨b,off+k * 2,none⟩) (by simp only;omega) (by simp)).trans p0,(hf.cell (p:=⟨b,off+k * 2+1,none⟩) (by simp only;omega) (by simp)).trans p1⟩:W.cell? ⟨gx,0,none⟩=some (.int .i64 key)/\W.cell? ⟨b,off+k * 2,none⟩=some (.int .i64 v.1)/\W.cell? ⟨b,off+k * 2+1,none⟩=some (.int .i64 v.2)))
    have I:=zh ((Fr.refl wd.heap.size [] wr).drew);have hszw:wd.heap.size<=wr.drew.heap.size:=hszr;clear hv p0 p1;go_upto_region 7 with fail;refine wp_region_held_drew (S:=fun W=>W.cell? ⟨gx,0,none⟩=some (.int .i64 key)/\W.cell? ⟨b,off+k * 2,none⟩=some (.int .i64 v.1)/\W.cell? ⟨b,off+k * 2+1,none⟩=some (.int .i64 v.2)) (by kernel_rfl) (RV.out _ I.out) (fun hHeld => ?_);refine tk (i:=0) (oi:=⟨some 45,_,_,_,_,_⟩) (v:=?_) rfl ?_ hHeld ?_
    rotate_left
    · intro w hSw;(try dsimp only at hSw);go_simp;(try with_reducible rfl)
    simp only [Act.put,lPt];refine tk (i:=1) (oi:=⟨some 46,_,_,_,_,_⟩) (v:=?_) rfl ?_ hHeld ?_
    rotate_left
    · intro w hSw;(try dsimp only at hSw);go_simp;(try with_reducible rfl)
    simp only [Act.put,lPt];refine tk (i:=2) (oi:=⟨some 47,_,_,_,_,_⟩) (v:=?_) rfl ?_ hHeld ?_
    rotate_left
    · intro w hSw;(try dsimp only at hSw);go_simp;(try with_reducible rfl)
    simp only [Act.put,lPt];refine tk (i:=3) (oi:=⟨some 48,_,_,_,_,_⟩) (v:=?_) rfl ?_ hHeld ?_
    rotate_left
    · intro w hSw;(try dsimp only at hSw);go_simp;(try with_reducible rfl)
    simp only [Act.put,lPt];refine tk (i:=4) (oi:=⟨some 49,_,_,_,_,_⟩) (v:=?_) rfl ?_ hHeld ?_
    rotate_left
    · intro w hSw;(try dsimp only at hSw);go_simp;(try with_reducible rfl)
    simp only [Act.put,lPt];refine tk (i:=5) (oi:=⟨some 50,_,_,_,_,_⟩) (v:=?_) rfl ?_ hHeld ?_
    rotate_left
    · intro w hSw;(try dsimp only at hSw);go_simp;(try with_reducible rfl)
    simp only [Act.put,lPt];refine tk (i:=6) (oi:=⟨some 51,_,_,_,_,_⟩) (v:=?_) rfl ?_ hHeld ?_
    rotate_left
    · intro w hSw;(try dsimp only at hSw);go_simp;(try with_reducible rfl)
    simp only [Act.put,lPt];refine tk (i:=7) (oi:=⟨some 52,_,_,_,_,_⟩) (v:=?_) rfl ?_ hHeld ?_
    rotate_left
    · intro w hSw;(try dsimp only at hSw);go_simp;(try with_reducible rfl)
    simp only [Act.put,lPt];refine wpAnyH_ready (rs:=[8]) (by kernel_rfl) (by simp) ?_;refine AllReadyH.cons (o:=⟨some 53,_,_,_,_,_⟩) rfl (fun K hK => ?_) AllReadyH.nil;rw [if_pos (by rfl)];go_simp;have BR:=zh (fr_new I.out 50 #[.int .i64 key,.int .i64 v.1,.int .i64 v.2]);have HOa:=zh (ownsRow_fr HO.out ((Fr.refl wr.heap.size [] wr).alloc (Nat.le_refl _) (.cells #[.int .i64 key,.int .i64 v.1,.int .i64 v.2] 50)).drew (fun q hq=>⟨(HO.out.lt q hq).2,by simp⟩));have I:=zh ((((Fr.refl wd.heap.size [] wr).alloc hszr (.cells #[.int .i64 key,.int .i64 v.1,.int .i64 v.2] 50))).drew);refine hK.out _ _ (RV.out _ I.out) (fun hHeld => ?_);clear hK K
    try simp only [Act.put,lPt]
    refine wpAnyH_ready (rs:=[9]) (by kernel_rfl) (by simp) ?_;refine AllReadyH.cons (o:=⟨some 54,_,_,_,_,_⟩) rfl (fun K hK => ?_) AllReadyH.nil;have hown:=HOa.out;have hsz0:=I.out.size;have hsz1:=Nat.le_trans hszr hsz0;refine step_app (by rfl) (.tmp 45) (.tmp 53) recsTy (by rfl) wd.heap.size (.slice A' k c') k _ (by rfl) hown _ _ 1 1 _ (by rfl) (Reads.of_blk BR.out rfl) (by simp [Value.oneCell']) (by omega) (by omega) hsz1 ?_;intro A6 c6 w6 hown6 hg6 hat6;have I:=zh (I.out.grown hg6 hsz1 (fun k hk=>.inl (hown.lt k hk).1));refine hK.out _ _ (RV.out _ I.out) (fun hHeld => ?_);clear hK K
    try simp only [Act.put,lPt]
    refine tk (i:=10) (oi:=⟨some 12,_,_,_,_,_⟩) (v:=?_) rfl ?_ hHeld ?_
    rotate_left
    · intro w hSw;(try dsimp only at hSw);go_simp;(try with_reducible rfl)
    simp only [Act.put,lPt];refine wpAnyH_done (by kernel_rfl) ?_ _;go_wp2_with fail;have HO6:=zh hown6;rw [<- HTK.out] at HO6;go_roundg (n - (k+1))
    case measure=>omega
    case rel=>exact ⟨k+1,A6,c6,by omega,rfl,rfl,by go_num,HO6,zh (FR.out.trans I.out)⟩
   case neg =>
    obtain rfl:n=k:=by omega
    have hT:o.take n=o:=List.take_of_length_le (by rw [HN.out];exact Nat.le_refl _);rw [hT] at HO;have hwd:w.heap.size<=wd.heap.size:=FD.out.size;clear hT;go_wp2_with fail;go_ret;exact ⟨A',n,c',HN.out,rfl,ownsRow_base HO.out hwd,HP.out.fr FR.out HUd.out (by simp),FD.out.trans (FR.out.mono (B':=w.heap.size) (L':=[gu]) hwd (by simp))⟩
def cntT (C:Int->Option Int):Int->Option Value:=fun x=>(C x).map (Value.int .i64)
def cntU (C:Int->Option Int) (x:Int):Int->Option Int:=fun q=>if q=x then some (wrap64 ((C x).getD 0+1)) else C q
theorem cntU_T (C:Int->Option Int) (x:Int):updI (cntT C) x (.int .i64 (wrap64 ((C x).getD 0+1)))=cntT (cntU C x):=by
 funext q
 unfold updI cntT cntU
 by_cases e:q=x
 · rw [if_pos e,if_pos e];rfl
 · rw [if_neg e,if_neg e]
theorem cntT_get (C:Int->Option Int) (x:Int):(cntT C x).getD (.int .i64 0)=.int .i64 ((C x).getD 0):=by
 unfold cntT
 cases C x <;> rfl
def lnF (sink frm k re im:Int):Nat->Int:=fun j=>if j=0 then sink else if j=1 then frm else if j=2 then k else if j=3 then re else im
theorem lnF_C (sink frm k re im:Int):lnC (lnF sink frm k re im)=[.int .i64 sink,.int .i64 frm,.int .i64 k,.int .i64 re,.int .i64 im]:=rfl
structure FlD (b0:Nat) (w:World) (gf gn gc gk gt:Nat) (C:Int->Option Int) (out:List (Nat->Int)) (A:Option Addr) (n c:Nat):Prop where
 num:n=out.length
 blk:Blk w gf 213 #[.map (some gn),.map (some gc),.pointer (some ⟨gt,0,none⟩),.slice A n c,.map (some gk)]
 cnt:IMap w gk (cntT C)
 row:w.ownsRow b0 69 5 (.slice A n c) n (cellsLn out)
theorem FlD.mv {b0:Nat} {w w':World} {gf gn gc gk gt:Nat} {C:Int->Option Int} {out:List (Nat->Int)} {A:Option Addr} {n c:Nat} (h:FlD b0 w gf gn gc gk gt C out A n c) (hf:Fr w.heap.size [] w w'):FlD b0 w' gf gn gc gk gt C out A n c :=
 ⟨h.num,h.blk.fr hf h.blk.lt (by simp),h.cnt.fr hf h.cnt.lt (by simp),ownsRow_fr h.row hf (fun q hq=>⟨(h.row.lt q hq).2,by simp⟩)⟩
theorem come_sink (b0 gf gn gc gk gt:Nat) (TN:Int->Option Value) (C:Int->Option Int) (out:List (Nat->Int)) (A:Option Addr) (n c:Nat) (frm id:Int) (x:Nd) (sf sp:Value) (k re im:Int) (w:World)
  (hD:FlD b0 w gf gn gc gk gt C out A n c) (hN:IMap w gn TN) (hx:TN id=some (.agg (ndA x sf sp))) (hsl:SlN (x,sf,sp)) (hk:x.kind=2) (hb:gn < gk/\gk < gf/\gf < b0/\b0<=w.heap.size) (hlen:n<=6000000000) :
  Calls Tryz.prog 177 #[.pointer (some ⟨gf,0,none⟩),.int .i64 frm,.int .i64 id,.agg #[.int .i64 k,.int .i64 re,.int .i64 im]] w fun e w'=>e=.returned (.tuple #[])/\(∃ A' c',FlD b0 w' gf gn gc gk gt (cntU C id) (out ++ [lnF id frm k re im]) A' (n+1) c' /\ ∀ q,(Value.slice A' (n+1) c').ownBlock=some q->(Value.slice A n c).ownBlock=some q \/ w.heap.size<=q)/\Fr w.heap.size (gf :: gk :: (Value.slice A n c).ownBlock.toList) w w':=by
 obtain ⟨Af,nf,cf,Ap,np,cp,h1,h2⟩:=hsl;simp only at h1 h2;subst h1;subst h2;obtain ⟨hb1,hb2,hb3,hb4⟩:=hb;have HD:=zh hD;have HNI:=zh hN;have HX:=zh hx;have HK:=zh hk;have hzN:∀ u,(zeroValue 83).run Tryz.prog u=.ok (.agg ndZ) u:=fun u=>by kernel_rfl
 have hzI:∀ u,(zeroValue 3).run Tryz.prog u=.ok (.int .i64 0) u:=fun u=>by kernel_rfl
 have HZN:=zh hzN;have HZI:=zh hzI;clear hD hN hx hk hzN hzI;have fa:=(Fr.refl w.heap.size [] w).alloc (Nat.le_refl _) (.cells #[.int .i64 k,.int .i64 re,.int .i64 im] 50);have BR:=zh (Blk.new w 50 #[.int .i64 k,.int .i64 re,.int .i64 im]);have D1:=zh (HD.out.mv fa);have N1:=zh (HNI.out.fr fa HNI.out.lt (by simp));obtain ⟨LL,hLL⟩:=nm (gf :: gk :: (Value.slice A n c).ownBlock.toList);have hLf:gf ∈ LL:=(by rw [hLL];simp);have hLk:gk ∈ LL:=(by rw [hLL];simp);have hLo:∀ q,(Value.slice A n c).ownBlock=some q->q ∈ LL:=fun q hq=>by rw [hLL,hq];simp
 rw [<- hLL];have HLf:=zh hLf;have HLk:=zh hLk;have HLo:=zh hLo;have F1:=zh (fa.mono (B':=w.heap.size) (L':=LL) (Nat.le_refl _) (by simp));clear hLL hLf hLk hLo;have hsz1:w.heap.size<=(w.alloc (.cells #[.int .i64 k,.int .i64 re,.int .i64 im] 50)).heap.size:=fa.size;clear fa HD HNI;go_enter Tryz.func177,Tryz.ntmps177;go_upto_region 1 with fail;generalize w.alloc (.cells #[.int .i64 k,.int .i64 re,.int .i64 im] 50)=w1 at *;obtain ⟨gr,hgre⟩:=nm (w.heap.size);rw [<- hgre] at BR F1 hb4 hsz1 ⊢;have HGR:=zh hgre;clear hgre;have q0:w1.cell? ⟨gf,0,none⟩=some (.map (some gn)):=D1.out.blk.cell 0;have hlk:=N1.out.look Tryz.underlying210 HZN.out id;rw [HX.out] at hlk;simp only [Option.getD_some] at hlk;have hg1:gr < w1.heap.size:=BR.out.lt;have fb:=(Fr.refl w1.heap.size [] w1).alloc (Nat.le_refl _) (.cells (ndA x (.slice Af nf cf) (.slice Ap np cp)) 83);have BN:=zh (Blk.new w1 83 (ndA x (.slice Af nf cf) (.slice Ap np cp)));have D2:=zh (D1.out.mv fb);have BR2:=zh (BR.out.fr fb BR.out.lt (by simp));have F2:=zh (F1.out.trans (fb.mono (B':=gr) (L':=LL) hsz1 (by simp)));go_upto_region 2 with fail;clear fb q0 hlk D1 BR F1;generalize w1.alloc (.cells (ndA x (.slice Af nf cf) (.slice Ap np cp)) 83)=w2 at *;obtain ⟨gx,hgx⟩:=nm (w1.heap.size);rw [<- hgx] at BN ⊢;have hgx0:b0<=gx:=(by omega);clear hgx;have q4:w2.cell? ⟨gf,4,none⟩=some (.map (some gk)):=D2.out.blk.cell 4;have hlc:=D2.out.cnt.look Tryz.underlying105 HZI.out id;rw [cntT_get] at hlc;obtain ⟨v,hv⟩:=nm ((C id).getD 0);rw [<- hv] at hlc;obtain ⟨w3,hup,hm3,f3,hs3⟩:=D2.out.cnt.upd Tryz.underlying105 id (.int .i64 (wrap64 (v+1)));rw [hv,cntU_T] at hm3;have hkf:gf ≠ gk:=(by omega);have BN3:=zh (BN.out.fr f3 BN.out.lt (by simp;omega));have BR3:=zh (BR2.out.fr f3 BR2.out.lt (by simp;omega));have D3:=zh (show FlD b0 w3 gf gn gc gk gt (cntU C id) out A n c from ⟨D2.out.num,D2.out.blk.fr f3 D2.out.blk.lt (by simpa using hkf),hm3,ownsRow_fr D2.out.row f3 (fun q hq=>⟨(D2.out.row.lt q hq).2,by have:=(D2.out.row.lt q hq).1;simp;omega⟩)⟩);have F3:=zh (F2.out.trans (f3.mono (B':=gr) (L':=LL) (Nat.le_of_lt BR2.out.lt) (by intro q hq _;simp at hq;subst hq;exact HLk.out)));have hb23:b0<=w3.heap.size:=(by rw [hs3];have:=BN.out.lt;omega);have hgr3:gr < w3.heap.size:=BR3.out.lt;clear hm3 f3 hs3 hv D2 BR2 F2 BN;have x1:w3.cell? ⟨gx,1,none⟩=some (.int .i64 x.kind):=BN3.out.cell 1;rw [HK.out] at x1;go_upto_region 4 with fail;clear q4 hlc hup x1;have ho:=D3.out.row;have hcr:=D3.out.blk.cell 3;have hfz:=D3.out.blk.frozen 3;have hoff:(Value.slice A n c).ownBlock ≠ some gf:=fun hq=>by have:=(ho.lt gf hq).1;omega
 have r0:=BR3.out.cell 0;have r1:=BR3.out.cell 1;have r2:=BR3.out.cell 2;simp at r0 r1 r2 hcr;have hcrA:(w3.alloc (.cells #[.int .i64 id,.int .i64 frm,.int .i64 k,.int .i64 re,.int .i64 im] 69)).cell? ⟨gf,3,none⟩=some (.slice A n c):=(D3.out.blk.alloc _).cell 3;obtain ⟨i0,hi0,hz0,hz1,hz2⟩:=info_parts (show (Tryz.prog.info? 69).map (fun i=>(i.zero,i.size,i.bytes))=some (some (.agg #[.int .i64 0,.int .i64 0,.int .i64 0,.int .i64 0,.int .i64 0]),5,40) by kernel_rfl);go_wp2_with fail
 go_region_law
  ((refine step_append_lies _ (by rfl) _ _ _ (by rfl) b0 69 i0 _ 5 40 Tryz.underlying26 hi0 hz0 hz1 hz2 rfl (by omega) (.slice A n c) n _ (by rfl) ((ho.alloc _).drew)
      ⟨w3.heap.size,0,none⟩ 1 1 (lnC (lnF id frm k re im)) (by rfl) (by rfl) (World.news_of_block (cs:=(lnC (lnF id frm k re im)).toArray) (t:=69) (fr:=(0,0)) (heap_alloc_new w3 _)) (by simp [lnC,Value.oneCell'])
      (by omega) (by unfold maxLen;omega) (by omega) (by simp;omega) (w3.heap.size+1) (by simp) ?_;intro gg cap w6 hown1 hgrow hat hlt6;have hfz6:w6.frozen? ⟨gf,3,none⟩=false:=(hgrow.frozen_far ⟨gf,3,none⟩ (by simp;omega) (Ne.symm hoff)).trans ((D3.out.blk.alloc _).frozen 3);have hcr6:w6.cell? ⟨gf,3,none⟩=some (.slice A n c):=(hgrow.cell_far ⟨gf,3,none⟩ (by simp;omega) (Ne.symm hoff)).trans (((D3.out.blk.alloc _).cell 3))))
 all_goals
  go_wp2_with fail;have hba:=(D3.out.blk.alloc (.cells #[.int .i64 id,.int .i64 frm,.int .i64 k,.int .i64 re,.int .i64 im] 69)).drew;have hca:=D3.out.cnt.fr (((Fr.refl w3.heap.size [] w3).alloc (Nat.le_refl _) (.cells #[.int .i64 id,.int .i64 frm,.int .i64 k,.int .i64 re,.int .i64 im] 69)).drew) D3.out.cnt.lt (by simp);have hgkr:some gk ≠ (Value.slice A n c).ownBlock:=fun e=>by have:=(ho.lt gk e.symm).1;omega
  have hb6:Blk w6 gf 213 #[.map (some gn),.map (some gc),.pointer (some ⟨gt,0,none⟩),.slice A n c,.map (some gk)]:=(hgrow.block gf hba.lt (Ne.symm hoff)).trans hba
  have hc6:IMap w6 gk (cntT (cntU C id)):=by
   obtain ⟨K,es,clock,h1,h2⟩:=hca;exact ⟨K,es,clock,(hgrow.block gk (IMap.lt ⟨K,es,clock,h1,h2⟩) hgkr).trans h1,h2⟩
  have hgg:b0<=gg:=(hown1.lt gg rfl).1;refine bodyPost_ret (results_none rfl _ _ _) rfl ⟨rfl,⟨some ⟨gg,0,none⟩,cap,⟨?_,?_,?_,?_⟩,fun q hq => ?_⟩,?_⟩
  · rw [List.length_append,<- D3.out.num];rfl
  · have:=hb6.set_ 3 (.slice (some ⟨gg,0,none⟩) (n+1) cap);simpa using this
  · exact hc6.fr ((Fr.refl w6.heap.size [gf] w6).setCell (p:=⟨gf,3,none⟩) (.inr (by simp)) _) hc6.lt (by simp;omega)
  · have h5:(w6.setCell ⟨gf,3,none⟩ (.slice (some ⟨gg,0,none⟩) (n+1) cap)).ownsRow b0 69 5 (.slice (some ⟨gg,0,none⟩) (n+1) cap) (n+1) (cellsLn out ++ lnC (lnF id frm k re im)):=ownsRow_setCell_other hown1 (by show (some gg:Option Nat) ≠ some gf;simp;omega) _;rw [cellsLn_app];simpa [cellsLn] using h5
  ·
   have hq2:gg=q:=by simpa [Value.ownBlock] using hq
   subst hq2
   rcases hat with hat | hat
   · exact .inl hat
   · exact .inr (by rw [<- HGR.out];omega)
  · rw [<- HGR.out];exact (((F3.out.alloc (by omega) _).drew).grown hgrow (by simp;omega) (fun q hq=>.inr (HLo.out q hq))).setCell (p:=⟨gf,3,none⟩) (.inr HLf.out) _
structure DS where
 T:Pk->CV
 out:List (Nat->Int)
 C:Int->Option Int
def emitsD (x:Nd) (T:Pk->CV) (id key:Int) (v:Int × Int):List (Int × Int):=outP_ x.pg v (ccT (T (id,key)))
def keepD (x:Nd) (T:Pk->CV) (id key:Int) (v:Int × Int):Pk->CV:=updT T (id,key) (cvT (celP x.pg v (ccT (T (id,key)))))
def comeD (L:List Nd) (put:Int->Int->Int × Int->DS->DS) (frm id key:Int) (v:Int × Int) (S:DS):DS :=
 match findN L id with
 | none=>S
 | some x =>
  if x.kind=2 then ⟨S.T,S.out ++ [lnF id frm key v.1 v.2],cntU S.C id⟩
  else (emitsD x S.T id key v).foldl (fun s u=>put id key u s) ⟨keepD x S.T id key v,S.out,cntU S.C id⟩
def putD (L:List Nd):Nat->Int->Int->Int × Int->DS->DS
 | 0,_,_,_,S=>S
 | d+1,id,key,v,S=>(childN L id).foldl (fun s c=>comeD L (putD L d) id c key v s) S
theorem foldl_ind {α β:Type} (P:β->Prop) (f:β->α->β):∀ (l:List α) (b:β),P b->(∀ b a,a ∈ l->P b->P (f b a))->P (l.foldl f b)
 | [],b,h,_=>h
 | a :: l,b,h,hf=>foldl_ind P f l (f b a) (hf b a (by simp) h) (fun b c hc hb=>hf b c (by simp [hc]) hb)
def Ahead (a b:DS):Prop:=∃ t,b.out=a.out ++ t
theorem Ahead.refl (a:DS):Ahead a a:=⟨[],by simp⟩
theorem Ahead.trans {a b c:DS} (h:Ahead a b) (k:Ahead b c):Ahead a c:=by
 obtain ⟨t,e⟩:=h;obtain ⟨u,e2⟩:=k;exact ⟨t ++ u,by rw [e2,e,List.append_assoc]⟩
theorem Ahead.len {a b:DS} (h:Ahead a b):a.out.length<=b.out.length:=by
 obtain ⟨t,e⟩:=h;rw [e,List.length_append];omega
theorem foldl_ahead {α:Type} (f:DS->α->DS) (hf:∀ s a,Ahead s (f s a)):∀ (l:List α) (s:DS),Ahead s (l.foldl f s)
 | [],s=>Ahead.refl s
 | a :: l,s=>(hf s a).trans (foldl_ahead f hf l (f s a))
theorem come_ahead {L:List Nd} {put:Int->Int->Int × Int->DS->DS} (hp:∀ id key v S,Ahead S (put id key v S)) (frm id key:Int) (v:Int × Int) (S:DS):Ahead S (comeD L put frm id key v S):=by
 unfold comeD
 split
 · exact Ahead.refl S
 ·
  split
  · exact ⟨_,rfl⟩
  · exact Ahead.trans (b:=⟨_,S.out,_⟩) ⟨[],by simp⟩ (foldl_ahead _ (fun s u=>hp _ _ _ _) _ _)
theorem put_ahead (L:List Nd):∀ (d:Nat) (id key:Int) (v:Int × Int) (S:DS),Ahead S (putD L d id key v S)
 | 0,_,_,_,S=>Ahead.refl S
 | d+1,id,key,v,S=>foldl_ahead _ (fun s c=>come_ahead (put_ahead L d) _ _ _ _ _) _ _
def keyOk (k:Int):Prop:=0<=k/\k < 64
theorem op_safe {L:List Nd} (h:RightG L) {x:Nd} (hx:x ∈ L) (h2:x.kind ≠ 2) (h0:x.id ≠ 0):∃ s,chkL x.pg=some s:=by
 have hk:=(nodeB_iff.1 (h.each x hx)).2.2.1;have hz:=kindB_zero hk;unfold kindB at hk;rw [if_neg (fun e=>h0 (hz.2 e))] at hk
 split at hk
 · simp only [Bool.and_eq_true] at hk;exact Option.isSome_iff_exists.1 hk.2.2
 · cases hk
theorem child_node {L:List Nd} (h:RightG L) {id c:Int} (hc:c ∈ childN L id):∃ x ∈ L,x.id=c/\findN L c=some x/\c ≠ 0/\id ∈ x.fr:=by
 obtain ⟨x,hx,e,hf⟩:=childN_mem.1 hc;refine ⟨x,hx,e,by rw [<- e];exact findN_one h.uni hx,fun e0 => ?_,hf⟩;have hk:=(nodeB_iff.1 (h.each x hx)).2.2.1;have hz:=kindB_zero hk;have h0:x.kind=0:=hz.1 (by rw [e];exact e0);unfold kindB at hk;rw [if_pos h0] at hk;simp only [Bool.and_eq_true,decide_eq_true_eq] at hk;have:=hk.2.1;rw [List.length_eq_zero_iff] at this;rw [this] at hf
 cases hf
theorem place_there {L:List Nd} (h:RightG L) {x:Nd} (hx:x ∈ L) {key:Int} (hk:keyOk key):thereB (x.id,key)=true:=by
 have h1:=nodeB_iff.1 (h.each x hx);unfold thereB;exact decide_eq_true ⟨h1.1,h1.2.1,hk.1,hk.2⟩
theorem T_ok {T:Pk->CV} (h:TOk T) (p:Pk):cvB (T p)=true:=by
 by_cases e:T p=c0
 · rw [e];decide
 · exact (h p e).2
theorem keep_ok {L:List Nd} (h:RightG L) {x:Nd} (hx:x ∈ L) {s:CS} (hs:chkL x.pg=some s) {T:Pk->CV} (hT:TOk T) {key:Int} (hk:keyOk key) {v:Int × Int} (hv:vOk v):TOk (keepD x T x.id key v) /\ ∀ u ∈ emitsD x T x.id key v,vOk u:=by
 obtain ⟨h1,h2⟩:=prog_ok (safe_of hs) hv (cvB_ok (T_ok hT (x.id,key)));refine ⟨hT.upd ?_,h2⟩;unfold setB2;rw [place_there h hx hk,cvT_ok h1];rfl
theorem put_ok {L:List Nd} (h:RightG L):∀ (d:Nat) (id key:Int) (v:Int × Int) (S:DS),keyOk key->vOk v->TOk S.T->TOk (putD L d id key v S).T
 | 0,_,_,_,S,_,_,hT=>hT
 | d+1,id,key,v,S,hk,hv,hT=>by
  unfold putD;refine foldl_ind (fun s:DS=>TOk s.T) _ _ _ hT fun s c hc hs => ?_;obtain ⟨x,hx,e,hf,h0,_⟩:=child_node h hc;unfold comeD;rw [hf];simp only
  split
  · exact hs
  · rename_i h2;obtain ⟨t,ht⟩:=op_safe h hx h2 (by rw [e];exact h0);obtain ⟨k1,k2⟩:=keep_ok h hx ht hs hk hv;rw [e] at k1 k2;exact foldl_ind (fun s:DS=>TOk s.T) _ _ _ k1 fun s u hu hs=>put_ok h d c key u s hk (k2 u hu) hs
theorem come_ok {L:List Nd} (h:RightG L) {d:Nat} {frm c key:Int} {v:Int × Int} {S:DS} {id:Int} (hc:c ∈ childN L id) (hk:keyOk key) (hv:vOk v) (hT:TOk S.T):TOk (comeD L (putD L d) frm c key v S).T:=by
 obtain ⟨x,hx,e,hf,h0,_⟩:=child_node h hc;unfold comeD;rw [hf];simp only
 split
 · exact hT
 · rename_i h2;obtain ⟨t,ht⟩:=op_safe h hx h2 (by rw [e];exact h0);obtain ⟨k1,k2⟩:=keep_ok h hx ht hT hk hv;rw [e] at k1 k2;exact foldl_ind (fun s:DS=>TOk s.T) _ _ _ k1 fun s u hu hs=>put_ok h d c key u s hk (k2 u hu) hs
structure FlS (b0:Nat) (w3:World) (gf gn gc gk gt gm:Nat) (L:List Nd) (TN TC:Int->Option Value):Prop where
 n:IMap w3 gn TN
 c:IMap w3 gc TC
 ns:∀ x ∈ L,∃ Af nf cf Ap np cp,TN x.id=some (.agg (ndA x (.slice Af nf cf) (.slice Ap np cp)))/\np=x.pg.length/\Reads w3 b0 2 Ap np (cellsI x.pg)/\Fresh (gf+1) (.slice Ap np cp)
 cs:∀ x ∈ L,∃ A q c,TC x.id=some (.slice A q c)/\q=(childN L x.id).length/\Reads w3 b0 1 A q ((childN L x.id).map (Value.int .i64))/\Fresh (gf+1) (.slice A q c)
 o:gm < gn/\gt < gn/\gn < gc/\gc < gk/\gk < gf/\gf < b0/\b0<=w3.heap.size
theorem reads_kept {w3 w:World} {b0 gf gk gm size n c:Nat} {A:Option Addr} {xs:List Value} (h:Reads w3 b0 size A n xs) (hf:Fresh (gf+1) (.slice A n c)) (F:Fr b0 [gf,gk,gm] w3 w) (o:gm < gf/\gk < gf):Reads w b0 size A n xs :=
 h.frL F (Nat.le_refl _) (fun hn ad ha hm => by
  have h1:=hf _ _ _ rfl hn ad ha;simp at hm
  omega)
theorem FlD.frL {b0:Nat} {w w':World} {gf gn gc gk gt:Nat} {C:Int->Option Int} {out:List (Nat->Int)} {A:Option Addr} {n c B:Nat} {L:List Nat} (h:FlD b0 w gf gn gc gk gt C out A n c) (hf:Fr B L w w') (hB:w.heap.size<=B) (h1:gf ∉ L) (h2:gk ∉ L) (h3:∀ q,(Value.slice A n c).ownBlock=some q->q ∉ L):FlD b0 w' gf gn gc gk gt C out A n c :=
 ⟨h.num,h.blk.fr hf (Nat.lt_of_lt_of_le h.blk.lt hB) h1,h.cnt.fr hf (Nat.lt_of_lt_of_le h.cnt.lt hB) h2,ownsRow_fr h.row hf (fun q hq=>⟨Nat.lt_of_lt_of_le (h.row.lt q hq).2 hB,h3 q hq⟩)⟩
def PutOut (b0 gf gn gc gk gt gm:Nat) (S':DS) (A:Option Addr) (n c:Nat) (w:World) (e:Ending) (w':World):Prop :=
 e=.returned (.tuple #[])/\∃ A' n' c',FlD b0 w' gf gn gc gk gt S'.C S'.out A' n' c'/\(∀ q,(Value.slice A' n' c').ownBlock=some q->(Value.slice A n c).ownBlock=some q \/ w.heap.size<=q)/\CT w' gt gm S'.T/\Fr w.heap.size (gf :: gk :: gm :: (Value.slice A n c).ownBlock.toList) w w'
structure PutIn (b0:Nat) (w3:World) (gf gn gc gk gt gm:Nat) (key:Int) (v:Int × Int) (S:DS) (A:Option Addr) (n c:Nat) (w:World):Prop where
 k:keyOk key
 v:vOk v
 t:TOk S.T
 d:FlD b0 w gf gn gc gk gt S.C S.out A n c
 ct:CT w gt gm S.T
 f:Fr b0 [gf,gk,gm] w3 w
theorem PutIn.own {b0:Nat} {w3:World} {gf gn gc gk gt gm:Nat} {key:Int} {v:Int × Int} {S:DS} {A:Option Addr} {n c:Nat} {w:World} (h:PutIn b0 w3 gf gn gc gk gt gm key v S A n c w):∀ q,(Value.slice A n c).ownBlock=some q->b0<=q/\q < w.heap.size:=fun q hq=>h.d.row.lt q hq
theorem come_op (b0 gf gn gc gk gt gm:Nat) (w3:World) (L:List Nd) (TN TC:Int->Option Value) (hS:FlS b0 w3 gf gn gc gk gt gm L TN TC) (hR:RightG L) (put:Int->Int->Int × Int->DS->DS) (hah:∀ id key v S,Ahead S (put id key v S)) (x:Nd) (hx:x ∈ L) (h2:x.kind ≠ 2) (h0:x.id ≠ 0)
  (hok:∀ key v S,keyOk key->vOk v->TOk S.T->TOk (put x.id key v S).T)
  (hput:∀ key v S A n c w,PutIn b0 w3 gf gn gc gk gt gm key v S A n c w->(put x.id key v S).out.length<=6000000000->Calls Tryz.prog 142 #[.pointer (some ⟨gf,0,none⟩),.int .i64 x.id,.agg #[.int .i64 key,.int .i64 v.1,.int .i64 v.2]] w (PutOut b0 gf gn gc gk gt gm (put x.id key v S) A n c w))
  (frm key:Int) (v:Int × Int) (S:DS) (A:Option Addr) (n c:Nat) (w:World) (hI:PutIn b0 w3 gf gn gc gk gt gm key v S A n c w) (hlen:(comeD L put frm x.id key v S).out.length<=6000000000) :
  Calls Tryz.prog 177 #[.pointer (some ⟨gf,0,none⟩),.int .i64 frm,.int .i64 x.id,.agg #[.int .i64 key,.int .i64 v.1,.int .i64 v.2]] w (PutOut b0 gf gn gc gk gt gm (comeD L put frm x.id key v S) A n c w):=by
 obtain ⟨Af,nf,cf,Ap,np,cp,hTN,hnp,hrp,hfp⟩:=hS.ns x hx;obtain ⟨o1,o2,o3,o4,o5,o6,o7⟩:=hS.o;obtain ⟨s,hs⟩:=op_safe hR hx h2 h0;have hpl:=place_there hR hx hI.k;obtain ⟨hk1,hk2⟩:=keep_ok hR hx hs hI.t hI.k hI.v
 have hce:comeD L put frm x.id key v S=(emitsD x S.T x.id key v).foldl (fun s u=>put x.id key u s) ⟨keepD x S.T x.id key v,S.out,cntU S.C x.id⟩:=by
  unfold comeD;rw [findN_one hR.uni hx];simp only;rw [if_neg h2]
 rw [hce] at hlen ⊢;obtain ⟨id,hid⟩:=nm (x.id);rw [<- hid] at hTN hput hlen hk1 hk2 hpl hok ⊢;have hszE:(emitsD x S.T id key v).length<=1000:=Nat.le_trans (outP_len hs v _) (by decide);obtain ⟨o,ho⟩:=nm (emitsD x S.T id key v);obtain ⟨T1,hT1⟩:=nm (keepD x S.T id key v)
 have HRUN := zh (fun (wx : World) (hct : CT wx gt gm S.T) (hrx : Reads wx b0 2 Ap np (cellsI x.pg)) (hbx : b0 <= wx.heap.size) => (by
  have h:=ctrun_any gt gm S.T (id,key) Ap cp b0 x.pg s v wx hct hs (by rw [<- hnp];exact hrx) hbx hI.v hpl (T_ok hI.t _) hszE;unfold TRunOut at h;rw [<- hnp] at h;rw [ho,hT1]
  exact h:Calls Tryz.prog 175 #[.pointer (some ⟨gt,0,none⟩),.int .i64 id,.slice Ap np cp,.agg #[.int .i64 key,.int .i64 v.1,.int .i64 v.2]] wx fun e w'=>∃ A n c,n=o.length/\e=.returned (.tuple #[.slice A n c,.int .i64 0])/\w'.ownsRow wx.heap.size 50 3 (.slice A n c) n (cellsR (rcL key o))/\CT w' gt gm T1/\Fr wx.heap.size [gm] wx w'))
 have HSZE:=zh (show o.length<=6000000000 by rw [ho];exact Nat.le_trans hszE (by decide));rw [<- ho,<- hT1] at hlen;rw [<- hT1] at hk1;rw [<- ho] at hk2;rw [<- ho,<- hT1];obtain ⟨S1,hS1⟩:=nm (⟨T1,S.out,cntU S.C id⟩:DS);rw [<- hS1] at hlen ⊢;have HE1:=zh (show S1.T=T1 by rw [hS1]);have HE2:=zh (show S1.out=S.out by rw [hS1]);have HE3:=zh (show S1.C=cntU S.C id by rw [hS1]);clear hS1;have HOK2:=zh hk2;have HT1K:=zh hk1;have HPUT:=zh hput;have HAH:=zh hah;have HOKP:=zh hok;have HI:=zh hI;have HSS:=zh hS;have HTN:=zh hTN;have HRP:=zh (fun (wx:World) (hf:Fr b0 [gf,gk,gm] w3 wx)=>reads_kept hrp hfp hf ⟨by omega,by omega⟩);have HLEN:=zh hlen;have HD:=zh hI.d;have HCT:=zh hI.ct;have HF3:=zh hI.f;have hb4:b0<=w.heap.size:=Nat.le_trans o7 hI.f.size;have hKD:x.kind ≠ 2:=h2;obtain ⟨kd,hkd⟩:=nm (x.kind);rw [<- hkd] at hKD;have HKD:=zh hkd;have HZN:=zh (show ∀ u,(zeroValue 83).run Tryz.prog u=.ok (.agg ndZ) u from fun u=>by kernel_rfl);have HZI:=zh (show ∀ u,(zeroValue 3).run Tryz.prog u=.ok (.int .i64 0) u from fun u=>by kernel_rfl);have HOWN:=zh hI.own;clear hTN hnp hrp hfp hs hpl hk1 hk2 hce hput hok hah hI hS h2 hlen hszE ho hT1 hkd hx h0 hid;have fa:=(Fr.refl w.heap.size [] w).alloc (Nat.le_refl _) (.cells #[.int .i64 key,.int .i64 v.1,.int .i64 v.2] 50);have BR:=zh (Blk.new w 50 #[.int .i64 key,.int .i64 v.1,.int .i64 v.2]);have D1:=zh (HD.out.mv fa);have CT1:=zh (HCT.out.keep fa);obtain ⟨LL,hLL⟩:=nm (gf :: gk :: gm :: (Value.slice A n c).ownBlock.toList);have HLL:=zh hLL;have HLm:=zh (show ∀ q,q ∈ LL ↔ (q=gf \/ q=gk \/ q=gm \/ (Value.slice A n c).ownBlock=some q) from fun q=>by rw [hLL];simp);unfold PutOut;rw [<- hLL];have F1:=zh (fa.mono (B':=w.heap.size) (L':=LL) (Nat.le_refl _) (by simp));have hsz1:w.heap.size<=(w.alloc (.cells #[.int .i64 key,.int .i64 v.1,.int .i64 v.2] 50)).heap.size:=fa.size
 have HB := zh (fun (wx : World) (F : Fr w.heap.size LL w wx) => (show Fr b0 [gf, gk, gm] w3 wx from HF3.out.trans (F.mono (B' := b0) (L' := [gf, gk, gm]) hb4 (fun q hq hlt => by
  rcases (HLm.out q).1 hq with e | e | e | e
  · simp [e]
  · simp [e]
  · simp [e]
  · have:=(HOWN.out q e).1;omega))))
 clear fa HD HCT hLL;go_enter Tryz.func177,Tryz.ntmps177;go_upto_region 1 with fail;generalize w.alloc (.cells #[.int .i64 key,.int .i64 v.1,.int .i64 v.2] 50)=w1 at *;obtain ⟨gr,hgre⟩:=nm (w.heap.size);rw [<- hgre] at BR F1 hb4 hsz1 HB ⊢;have HGR:=zh hgre;clear hgre;have q0:w1.cell? ⟨gf,0,none⟩=some (.map (some gn)):=D1.out.blk.cell 0;have hnL:gn ∉ [gf,gk,gm]:=(by simp;omega);have hlk:=(HSS.out.n.fr (HB.out w1 F1.out) (by omega) hnL).look Tryz.underlying210 HZN.out id;rw [HTN.out] at hlk;simp only [Option.getD_some] at hlk;have hg1:gr < w1.heap.size:=BR.out.lt;have fb:=(Fr.refl w1.heap.size [] w1).alloc (Nat.le_refl _) (.cells (ndA x (.slice Af nf cf) (.slice Ap np cp)) 83);have BN:=zh (Blk.new w1 83 (ndA x (.slice Af nf cf) (.slice Ap np cp)));have D2:=zh (D1.out.mv fb);have CT2:=zh (CT1.out.keep fb);have BR2:=zh (BR.out.fr fb BR.out.lt (by simp));have F2:=zh (F1.out.trans (fb.mono (B':=gr) (L':=LL) hsz1 (by simp)));go_upto_region 2 with fail;clear fb q0 hlk D1 BR F1 CT1;generalize w1.alloc (.cells (ndA x (.slice Af nf cf) (.slice Ap np cp)) 83)=w2 at *;obtain ⟨gx,hgx⟩:=nm (w1.heap.size);rw [<- hgx] at BN ⊢;have hgx0:b0<=gx:=(by omega);clear hgx;have q4:w2.cell? ⟨gf,4,none⟩=some (.map (some gk)):=D2.out.blk.cell 4;have hlc:=D2.out.cnt.look Tryz.underlying105 HZI.out id;rw [cntT_get] at hlc;obtain ⟨u,hu⟩:=nm ((S.C id).getD 0);rw [<- hu] at hlc;obtain ⟨w4,hup,hm4,f4,hs4⟩:=D2.out.cnt.upd Tryz.underlying105 id (.int .i64 (wrap64 (u+1)));rw [hu,cntU_T] at hm4;have BN4:=zh (BN.out.fr f4 BN.out.lt (by simp;omega));have BR4:=zh (BR2.out.fr f4 BR2.out.lt (by simp;omega));have CT4:=zh (CT2.out.fr f4 CT2.out.bk.lt (by simp;omega) CT2.out.mp.lt (by simp;omega));have D4:=zh (show FlD b0 w4 gf gn gc gk gt (cntU S.C id) S.out A n c from ⟨D2.out.num,D2.out.blk.fr f4 D2.out.blk.lt (by simp;omega),hm4,ownsRow_fr D2.out.row f4 (fun q hq=>⟨(D2.out.row.lt q hq).2,by have:=(D2.out.row.lt q hq).1;simp;omega⟩)⟩);have F4:=zh (F2.out.trans (f4.mono (B':=gr) (L':=LL) (Nat.le_of_lt BR2.out.lt) (by intro q hq _;simp at hq;exact (HLm.out q).2 (.inr (.inl hq)))));have hb24:b0<=w4.heap.size:=(by rw [hs4];have:=BN.out.lt;omega);have hgr4:gr < w4.heap.size:=BR4.out.lt;clear hm4 f4 hs4 hu D2 BR2 F2 BN CT2;have x1:w4.cell? ⟨gx,1,none⟩=some (.int .i64 kd):=(by rw [HKD.out];exact BN4.out.cell 1);go_upto_region 5 with fail;clear q4 hlc hup x1;have g2:=D4.out.blk.cell 2;have x3:w4.cell? ⟨gx,3,none⟩=some (.slice Ap np cp):=BN4.out.cell 3;have r0:=BR4.out.cell 0;have r1:=BR4.out.cell 1;have r2:=BR4.out.cell 2;simp at g2 r0 r1 r2;have HRUN4:=zh (HRUN.out w4.drew (CT4.out.keep (Fr.refl _ _ _).drew) (HRP.out w4.drew (HB.out _ F4.out.drew)) hb24);go_cut [9] (fun s9 wx=>∃ A1 n1 c1,s9=.slice A1 n1 c1/\n1=o.length/\wx.ownsRow w4.heap.size 50 3 (.slice A1 n1 c1) n1 (cellsR (rcL key o))/\CT wx gt gm T1/\Fr w4.heap.size [gm] w4 wx)
 case first =>
  go_region_law ((rw [if_pos (by rfl)];go_simp;refine HRUN4.out.mono ?_;rintro e w5 ⟨A1,n1,c1,hn1,rfl,how,hct5,f5⟩;have HN1:=zh hn1;clear hn1;dsimp only))
  all_goals
   go_wp2_with fail;go_meet;exact ⟨A1,n1,c1,rfl,HN1.out,how,hct5,(Fr.refl _ _ _).drew.trans f5⟩
 case rest =>
  obtain ⟨A1,n1,c1,rfl,hn1,how,hct,f5⟩:=hcut;have HN:=zh hn1;have HRV:=zh (Reads.of_own how)
  have HRB := zh (show ∀ ad, A1 = some ad -> w4.heap.size <= ad.block from fun ad ha => by
   obtain ⟨A2,c2,e,h,_⟩:=ownsRow_shape how;injection e with e
   subst e
   exact (h ad ha).2.2.1)
  have HCT5:=zh hct;have D5:=zh (D4.out.frL f5 (Nat.le_refl _) (by simp;omega) (by simp;omega) (fun q hq=>by have:=(D4.out.row.lt q hq).1;simp;omega));have F5:=zh (F4.out.trans (f5.mono (B':=gr) (L':=LL) (Nat.le_of_lt hgr4) (by intro q hq _;simp at hq;exact (HLm.out q).2 (.inr (.inr (.inl hq))))));have h45:w4.heap.size<=wc.heap.size:=f5.size;have hn24:n1<=6000000000:=(by rw [hn1];exact HSZE.out);clear hn1 how hct f5 HRUN HRUN4 D4 F4 CT4 BN4 BR4 g2 x3 r0 r1 r2 HRP HZN HZI HTN HKD hKD HSS;rw [<- HE1.out] at HCT5 HT1K;rw [<- HE2.out,<- HE3.out] at D5;clear HE1 HE2 HE3;go_wp2_with fail;go_loopg [12,59] n1 (fun g s12 s59 wr=>∃ (j:Nat) (A':Option Addr) (n' c':Nat),j<=n1/\g=n1 - j/\s59=.int .i64 j/\(s12=undef \/ ∃ a,s12=.pointer a)/\Hid (FlD b0 wr gf gn gc gk gt ((o.take j).foldl (fun s u=>put id key u s) S1).C ((o.take j).foldl (fun s u=>put id key u s) S1).out A' n' c')/\Hid (CT wr gt gm ((o.take j).foldl (fun s u=>put id key u s) S1).T/\TOk ((o.take j).foldl (fun s u=>put id key u s) S1).T)/\Hid (∀ q,(Value.slice A' n' c').ownBlock=some q->(Value.slice A n c).ownBlock=some q \/ wc.heap.size<=q)/\Hid (Fr wc.heap.size LL wc wr))
  case atStart=>exact ⟨0,A,n,c,Nat.zero_le _,rfl,rfl,.inl rfl,D5,zh ⟨HCT5.out,HT1K.out⟩,zh (fun q hq=>.inl hq),zh (Fr.refl _ _ _)⟩
  case round =>
   clear D5 HCT5;obtain ⟨j,A',n',c',hj,rfl,rfl,h12,D,CTJ,HO,F⟩:=hrel;have hsz:=F.out.size
   by_cases hjn:j < n1
   ·
    have hji:(j:Int) < (n1:Int):=by omega
    have hj0:(0:Int)<=(j:Int):=(by omega);obtain ⟨u,hu⟩:∃ u,o[j]?=some u:=⟨_,List.getElem?_eq_getElem (by rw [<- HN.out];exact hjn)⟩;have hur:(rcL key o)[j]?=some (rcF key u):=(by unfold rcL;rw [List.getElem?_map,hu];rfl);have hnr:n1=(rcL key o).length:=(by unfold rcL;rw [List.length_map];exact HN.out)
    obtain ⟨b, off, rfl, hbl, hc⟩ := reads_rec (by rw [<- hnr]; exact HRV.out.frL (F.out.mono (B' := wc.heap.size) (L' := LL) (Nat.le_refl _) (fun q hq _ => hq)) (Nat.le_refl _) (fun hn ad ha hm => by
     have h1:=HRB.out ad ha
     rcases (HLm.out _).1 hm with e | e | e | e
     · omega
     · omega
     · omega
     · have:=(HOWN.out _ e).2;have:=HGR.out;omega)) hur
    have p0:wr.cell? ⟨b,off+j * 3,none⟩=some (.int .i64 key):=hc 0 (by omega);have p1:wr.cell? ⟨b,off+j * 3+1,none⟩=some (.int .i64 u.1):=hc 1 (by omega);have p2:wr.cell? ⟨b,off+j * 3+2,none⟩=some (.int .i64 u.2):=hc 2 (by omega);have HTK:=zh (show (o.take (j+1)).foldl (fun s u=>put id key u s) S1=put id key u ((o.take j).foldl (fun s u=>put id key u s) S1) by rw [List.take_add_one,hu,List.foldl_append];rfl);have HUO:=zh (HOK2.out u (List.mem_of_getElem? hu))
    have HLJ := zh (show (put id key u ((o.take j).foldl (fun s u => put id key u s) S1)).out.length <= 6000000000 by
     rw [<- HTK.out];refine Nat.le_trans (Ahead.len ?_) HLEN.out
     conv=>rhs;rw [<- List.take_append_drop (j+1) o,List.foldl_append]
     exact foldl_ahead _ (fun s u=>HAH.out id key u s) _ _)
    clear hc hur hnr hu hbl;have fa:=(Fr.refl wr.heap.size [] wr).alloc (Nat.le_refl _) (.cells #[.int .i64 key,.int .i64 u.1,.int .i64 u.2] 50);have BX:=zh (Blk.new wr 50 #[.int .i64 key,.int .i64 u.1,.int .i64 u.2]);have DA:=zh (D.out.mv fa);have CTA:=zh (CTJ.out.1.keep fa);have FA:=zh (F.out.trans (fa.mono (B':=wc.heap.size) (L':=LL) hsz (by simp)));have HTA:=zh CTJ.out.2;clear fa D F CTJ;go_upto_region 9 with fail;clear p0 p1 p2;generalize wr.alloc (.cells #[.int .i64 key,.int .i64 u.1,.int .i64 u.2] 50)=wa at *;have hwa:wc.heap.size<=wa.heap.size:=FA.out.size;obtain ⟨SJ,hSJ⟩:=nm ((o.take j).foldl (fun s u=>put id key u s) S1);rw [<- hSJ] at HTK HLJ DA CTA HTA;have FWA:=zh (F5.out.trans (FA.out.mono (B':=gr) (L':=LL) (by omega) (fun q hq _=>hq)));have HPT:=zh (HPUT.out key u SJ A' n' c' wa ⟨HI.out.k,HUO.out,HTA.out,DA.out,CTA.out,HB.out wa FWA.out⟩ HLJ.out);have x0:=BX.out.cell 0;have x1:=BX.out.cell 1;have x2:=BX.out.cell 2;simp at x0 x1 x2;go_wp2_with fail;refine HPT.out.mono ?_;rintro e w6 ⟨rfl,A6,n6,c6,d6,o6',ct6,f6⟩;have D6:=zh d6;have CT6:=zh (And.intro ct6 (HOKP.out key u SJ HI.out.k HUO.out HTA.out))
    have HO6 := zh (show ∀ q, (Value.slice A6 n6 c6).ownBlock = some q -> (Value.slice A n c).ownBlock = some q \/ wc.heap.size <= q from fun q hq => by
     rcases o6' q hq with h | h
     · exact HO.out q h
     · exact .inr (by omega))
    have F6 := zh (FA.out.trans (f6.mono (B' := wc.heap.size) (L' := LL) hwa (fun q hq hlt => by
     simp at hq
     rcases hq with e | e | e | e
     · exact (HLm.out q).2 (.inl e)
     · exact (HLm.out q).2 (.inr (.inl e))
     · exact (HLm.out q).2 (.inr (.inr (.inl e)))
     ·
      rcases HO.out q e with h | h
      · exact (HLm.out q).2 (.inr (.inr (.inr h)))
      · omega)))
    rw [<- HTK.out] at D6 CT6;clear d6 o6' ct6 f6 HPT DA CTA HTA FA BX x0 x1 x2 HO FWA;go_wp2_with fail;go_roundg (n1 - (j+1))
    case measure=>omega
    case rel=>exact ⟨j+1,A6,n6,c6,by omega,rfl,by go_num,.inr ⟨_,rfl⟩,D6,CT6,HO6,F6⟩
   ·
    obtain rfl:n1=j:=by omega
    have hT:o.take n1=o:=List.take_of_length_le (by rw [HN.out];exact Nat.le_refl _);rw [hT] at D CTJ;clear hT;go_wp2_with fail;have h1:Fr gr LL w wr:=F5.out.trans (F.out.mono (B':=gr) (L':=LL) (by omega) (fun q hq _=>hq))
    have h2:∀ q,(Value.slice A' n' c').ownBlock=some q->(Value.slice A n c).ownBlock=some q \/ gr<=q:=fun q hq=>by
     rcases HO.out q hq with h | h
     · exact .inl h
     · exact .inr (by omega)
    go_end0;exact ⟨rfl,A',n',c',D.out,by rw [<- HGR.out];exact h2,CTJ.out.1,by rw [<- HGR.out];exact h1⟩
theorem come_snk (b0 gf gn gc gk gt gm:Nat) (w3:World) (L:List Nd) (TN TC:Int->Option Value) (hS:FlS b0 w3 gf gn gc gk gt gm L TN TC) (hR:RightG L) (put:Int->Int->Int × Int->DS->DS) (x:Nd) (hx:x ∈ L) (h2:x.kind=2)
  (frm key:Int) (v:Int × Int) (S:DS) (A:Option Addr) (n c:Nat) (w:World) (hI:PutIn b0 w3 gf gn gc gk gt gm key v S A n c w) (hlen:(comeD L put frm x.id key v S).out.length<=6000000000) :
  Calls Tryz.prog 177 #[.pointer (some ⟨gf,0,none⟩),.int .i64 frm,.int .i64 x.id,.agg #[.int .i64 key,.int .i64 v.1,.int .i64 v.2]] w (PutOut b0 gf gn gc gk gt gm (comeD L put frm x.id key v S) A n c w):=by
 obtain ⟨Af,nf,cf,Ap,np,cp,hTN,_⟩:=hS.ns x hx;obtain ⟨o1,o2,o3,o4,o5,o6,o7⟩:=hS.o;have hb4:b0<=w.heap.size:=Nat.le_trans o7 hI.f.size
 have hce:comeD L put frm x.id key v S=⟨S.T,S.out ++ [lnF x.id frm key v.1 v.2],cntU S.C x.id⟩:=by
  unfold comeD;rw [findN_one hR.uni hx];simp only;rw [if_pos h2]
 rw [hce] at hlen ⊢
 have hn:n<=6000000000:=by
  have h1:=hI.d.num;simp only [List.length_append] at hlen;omega
 refine (come_sink b0 gf gn gc gk gt TN S.C S.out A n c frm x.id x (.slice Af nf cf) (.slice Ap np cp) key v.1 v.2 w hI.d (hS.n.fr hI.f (by omega) (by simp;omega)) hTN ⟨Af,nf,cf,Ap,np,cp,rfl,rfl⟩ h2 ⟨by omega,o5,o6,hb4⟩ hn).mono ?_;rintro e w' ⟨rfl,⟨A',c',d,o⟩,f⟩;refine ⟨rfl,A',n+1,c',d,o,?_,?_⟩
 ·
  have hm:∀ q,q ∈ (gf :: gk :: (Value.slice A n c).ownBlock.toList)->q=gf \/ q=gk \/ b0<=q:=fun q hq=>by
   simp at hq
   rcases hq with e | e | e
   · exact .inl e
   · exact .inr (.inl e)
   · exact .inr (.inr (hI.own q e).1)
  exact hI.ct.fr f hI.ct.bk.lt (fun h=>by rcases hm _ h with e | e | e <;> omega) hI.ct.mp.lt (fun h=>by rcases hm _ h with e | e | e <;> omega)
 ·
  exact f.mono (Nat.le_refl _) (fun q hq _ => by
   simp at hq ⊢
   rcases hq with e | e | e
   · exact .inl e
   · exact .inr (.inl e)
   · exact .inr (.inr (.inr e)))
theorem childN_len {L:List Nd} (h:RightG L) (id:Int):(childN L id).length<=8:=by
 have h1:=kidsN_le L id [];have h2:(childN L id).length=(kidsN L id []).length:=(srt_perm _).length_eq;have h3:=h.len;simp at h1;omega
theorem put_step (b0 gf gn gc gk gt gm:Nat) (w3:World) (L:List Nd) (TN TC:Int->Option Value) (hS:FlS b0 w3 gf gn gc gk gt gm L TN TC) (hR:RightG L) (cm:Int->DS->DS) (x:Nd) (hx:x ∈ L) (key:Int) (v:Int × Int)
  (hah:∀ c S,Ahead S (cm c S)) (hok:∀ c ∈ childN L x.id,∀ S,TOk S.T->TOk (cm c S).T)
  (hcm:∀ c ∈ childN L x.id,∀ S A n cc w,PutIn b0 w3 gf gn gc gk gt gm key v S A n cc w->(cm c S).out.length<=6000000000->Calls Tryz.prog 177 #[.pointer (some ⟨gf,0,none⟩),.int .i64 x.id,.int .i64 c,.agg #[.int .i64 key,.int .i64 v.1,.int .i64 v.2]] w (PutOut b0 gf gn gc gk gt gm (cm c S) A n cc w))
  (S:DS) (A:Option Addr) (n c:Nat) (w:World) (hI:PutIn b0 w3 gf gn gc gk gt gm key v S A n c w) (hlen:((childN L x.id).foldl (fun s c=>cm c s) S).out.length<=6000000000) :
  Calls Tryz.prog 142 #[.pointer (some ⟨gf,0,none⟩),.int .i64 x.id,.agg #[.int .i64 key,.int .i64 v.1,.int .i64 v.2]] w (PutOut b0 gf gn gc gk gt gm ((childN L x.id).foldl (fun s c=>cm c s) S) A n c w):=by
 obtain ⟨Ac,nc,cc,hTC,hnc,hrc,hfc⟩:=hS.cs x hx;obtain ⟨o1,o2,o3,o4,o5,o6,o7⟩:=hS.o;obtain ⟨K,hK⟩:=nm (childN L x.id);have hnc8:nc<=8:=(by rw [hnc];exact childN_len hR x.id);rw [<- hK] at hnc hrc hcm hok hlen ⊢;obtain ⟨id,hid⟩:=nm (x.id);rw [<- hid] at hTC hcm ⊢;have HCM:=zh hcm;have HAH:=zh hah;have HOK:=zh hok;have HI:=zh hI;have HSS:=zh hS;have HTC:=zh hTC;have HNC:=zh hnc;have HRC:=zh (fun (wx:World) (hf:Fr b0 [gf,gk,gm] w3 wx)=>reads_kept hrc hfc hf ⟨by omega,by omega⟩);have HLEN:=zh hlen;have HD:=zh hI.d;have HCT:=zh hI.ct;have HTO:=zh hI.t;have HF3:=zh hI.f;have hb4:b0<=w.heap.size:=Nat.le_trans o7 hI.f.size;have HOWN:=zh hI.own;have HZC:=zh (show ∀ u,(zeroValue 43).run Tryz.prog u=.ok (.slice none 0 0) u from fun u=>by kernel_rfl);clear hTC hnc hrc hfc hcm hah hok hI hS hlen hK hx hid;have fa:=(Fr.refl w.heap.size [] w).alloc (Nat.le_refl _) (.cells #[.int .i64 key,.int .i64 v.1,.int .i64 v.2] 50);have BR:=zh (Blk.new w 50 #[.int .i64 key,.int .i64 v.1,.int .i64 v.2]);have D1:=zh (HD.out.mv fa);have CT1:=zh (HCT.out.keep fa);obtain ⟨LL,hLL⟩:=nm (gf :: gk :: gm :: (Value.slice A n c).ownBlock.toList);have HLm:=zh (show ∀ q,q ∈ LL ↔ (q=gf \/ q=gk \/ q=gm \/ (Value.slice A n c).ownBlock=some q) from fun q=>by rw [hLL];simp);unfold PutOut;rw [<- hLL];have F1:=zh (fa.mono (B':=w.heap.size) (L':=LL) (Nat.le_refl _) (by simp));have hsz1:w.heap.size<=(w.alloc (.cells #[.int .i64 key,.int .i64 v.1,.int .i64 v.2] 50)).heap.size:=fa.size
 have HB := zh (fun (wx : World) (F : Fr w.heap.size LL w wx) => (show Fr b0 [gf, gk, gm] w3 wx from HF3.out.trans (F.mono (B' := b0) (L' := [gf, gk, gm]) hb4 (fun q hq hlt => by
  rcases (HLm.out q).1 hq with e | e | e | e
  · simp [e]
  · simp [e]
  · simp [e]
  · have:=(HOWN.out q e).1;omega))))
 clear fa HD HCT hLL;go_enter Tryz.func142,Tryz.ntmps142;go_upto_region 1 with fail;generalize w.alloc (.cells #[.int .i64 key,.int .i64 v.1,.int .i64 v.2] 50)=w1 at *;obtain ⟨gr,hgre⟩:=nm (w.heap.size);rw [<- hgre] at BR F1 hb4 hsz1 HB ⊢;have HGR:=zh hgre
 have hgrL:gr ∉ LL:=fun h=>by
  rcases (HLm.out gr).1 h with e | e | e | e
  · omega
  · omega
  · omega
  · have:=(HOWN.out gr e).2;omega
 clear hgre;have hgr1:gr < w1.heap.size:=BR.out.lt;have q1:w1.cell? ⟨gf,1,none⟩=some (.map (some gc)):=D1.out.blk.cell 1;have hlk:=(HSS.out.c.fr (HB.out w1 F1.out) (by omega) (by simp;omega)).look Tryz.underlying211 HZC.out id;rw [HTC.out] at hlk;simp only [Option.getD_some] at hlk;go_wp2_with fail;go_loopg [7,15] nc (fun g s7 s15 wr=>∃ (j:Nat) (A':Option Addr) (n' c':Nat),j<=nc/\g=nc - j/\s15=.int .i64 j/\(s7=undef \/ ∃ a:Int,s7=.int .i64 a)/\Hid (FlD b0 wr gf gn gc gk gt ((K.take j).foldl (fun s c=>cm c s) S).C ((K.take j).foldl (fun s c=>cm c s) S).out A' n' c')/\Hid (CT wr gt gm ((K.take j).foldl (fun s c=>cm c s) S).T/\TOk ((K.take j).foldl (fun s c=>cm c s) S).T)/\Hid (∀ q,(Value.slice A' n' c').ownBlock=some q->(Value.slice A n c).ownBlock=some q \/ w1.heap.size<=q)/\Hid (Fr w1.heap.size LL w1 wr))
 case atStart=>exact ⟨0,A,n,c,Nat.zero_le _,rfl,rfl,.inl rfl,D1,zh ⟨CT1.out,HTO.out⟩,zh (fun q hq=>.inl hq),zh (Fr.refl _ _ _)⟩
 case round =>
  clear D1 CT1 q1 hlk;obtain ⟨j,A',n',c',hj,rfl,rfl,h7,D,CTJ,HO,F⟩:=hrel;have hsz:=F.out.size;have FW:=zh (F1.out.trans (F.out.mono (B':=gr) (L':=LL) (by omega) (fun q hq _=>hq)))
  by_cases hjn:j < nc
  ·
   have hji:(j:Int) < (nc:Int):=by omega
   have hj0:(0:Int)<=(j:Int):=(by omega);obtain ⟨u,hu⟩:∃ u,K[j]?=some u:=⟨_,List.getElem?_eq_getElem (by rw [<- HNC.out];exact hjn)⟩;obtain ⟨b5,o5',u5,rfl,hb5',hu5,hc5⟩:=(HRC.out wr (HB.out wr FW.out)).one hjn;rw [List.getElem?_map,hu] at hu5;simp at hu5;subst hu5;obtain ⟨SJ,hSJ⟩:=nm ((K.take j).foldl (fun s c=>cm c s) S);rw [<- hSJ] at D CTJ;have HTK:=zh (show (K.take (j+1)).foldl (fun s c=>cm c s) S=cm u SJ by rw [List.take_add_one,hu,List.foldl_append,hSJ];rfl);have hum:=List.mem_of_getElem? hu
   have HLJ := zh (show (cm u SJ).out.length <= 6000000000 by
    rw [<- HTK.out];refine Nat.le_trans (Ahead.len ?_) HLEN.out
    conv=>rhs;rw [<- List.take_append_drop (j+1) K,List.foldl_append]
    exact foldl_ahead _ (fun s c=>HAH.out c s) _ _)
   have HC:=zh (HCM.out u hum SJ A' n' c' wr ⟨HI.out.k,HI.out.v,CTJ.out.2,D.out,CTJ.out.1,HB.out wr FW.out⟩ HLJ.out);have HTJ:=zh (HOK.out u hum SJ CTJ.out.2);have BRr:=BR.out.fr F.out hgr1 hgrL;have r0:=BRr.cell 0;have r1:=BRr.cell 1;have r2:=BRr.cell 2;simp at r0 r1 r2;clear hu hum BRr hSJ D CTJ;go_wp2_with fail;refine HC.out.mono ?_;rintro e w6 ⟨rfl,A6,n6,c6,d6,o6',ct6,f6⟩;have D6:=zh d6;have CT6:=zh (And.intro ct6 HTJ.out)
   have HO6 := zh (show ∀ q, (Value.slice A6 n6 c6).ownBlock = some q -> (Value.slice A n c).ownBlock = some q \/ w1.heap.size <= q from fun q hq => by
    rcases o6' q hq with h | h
    · exact HO.out q h
    · exact .inr (by omega))
   have F6 := zh (F.out.trans (f6.mono (B' := w1.heap.size) (L' := LL) hsz (fun q hq hlt => by
    simp at hq
    rcases hq with e | e | e | e
    · exact (HLm.out q).2 (.inl e)
    · exact (HLm.out q).2 (.inr (.inl e))
    · exact (HLm.out q).2 (.inr (.inr (.inl e)))
    ·
     rcases HO.out q e with h | h
     · exact (HLm.out q).2 (.inr (.inr (.inr h)))
     · omega)))
   rw [<- HTK.out] at D6 CT6;clear d6 o6' ct6 f6 HC HTJ F HO FW r0 r1 r2;go_wp2_with fail;go_roundg (nc - (j+1))
   case measure=>omega
   case rel=>exact ⟨j+1,A6,n6,c6,by omega,rfl,by go_num,.inr ⟨_,rfl⟩,D6,CT6,HO6,F6⟩
  ·
   obtain rfl:nc=j:=by omega
   have hT:K.take nc=K:=List.take_of_length_le (by rw [HNC.out];exact Nat.le_refl _);rw [hT] at D CTJ;clear hT;go_wp2_with fail
   have h2:∀ q,(Value.slice A' n' c').ownBlock=some q->(Value.slice A n c).ownBlock=some q \/ gr<=q:=fun q hq=>by
    rcases HO.out q hq with h | h
    · exact .inl h
    · exact .inr (by omega)
   go_end0;exact ⟨rfl,A',n',c',D.out,by rw [<- HGR.out];exact h2,CTJ.out.1,by rw [<- HGR.out];exact FW.out⟩
theorem put_any (b0 gf gn gc gk gt gm:Nat) (w3:World) (L:List Nd) (TN TC:Int->Option Value) (hS:FlS b0 w3 gf gn gc gk gt gm L TN TC) (hR:RightG L) (r:Int->Nat) (D:Nat) (hr:∀ n ∈ L,∀ f ∈ n.fr,r f < r n.id) (hD:∀ n ∈ L,r n.id < D) :
  ∀ (d:Nat) (x:Nd),x ∈ L->D<=d+r x.id -> ∀ (key:Int) (v:Int × Int) (S:DS) (A:Option Addr) (n c:Nat) (w:World),PutIn b0 w3 gf gn gc gk gt gm key v S A n c w->(putD L d x.id key v S).out.length<=6000000000 ->
   Calls Tryz.prog 142 #[.pointer (some ⟨gf,0,none⟩),.int .i64 x.id,.agg #[.int .i64 key,.int .i64 v.1,.int .i64 v.2]] w (PutOut b0 gf gn gc gk gt gm (putD L d x.id key v S) A n c w)
 | 0,x,hx,hd,key,v,S,A,n,c,w,hI,hlen=>by
  have:=hD x hx;omega
 | d+1,x,hx,hd,key,v,S,A,n,c,w,hI,hlen=>by
  refine put_step b0 gf gn gc gk gt gm w3 L TN TC hS hR (fun c s=>comeD L (putD L d) x.id c key v s) x hx key v (fun c S=>come_ahead (put_ahead L d) _ _ _ _ _) (fun c hc S hT=>come_ok hR hc hI.k hI.v hT) ?_ S A n c w hI hlen;intro c' hc S' A' n' cc w' hI' hlen';obtain ⟨y,hy,rfl,hf,h0,hfx⟩:=child_node hR hc
  by_cases h2:y.kind=2
  · exact come_snk b0 gf gn gc gk gt gm w3 L TN TC hS hR (putD L d) y hy h2 x.id key v S' A' n' cc w' hI' hlen'
  · refine come_op b0 gf gn gc gk gt gm w3 L TN TC hS hR (putD L d) (put_ahead L d) y hy h2 h0 (fun key v S hk hv hT=>put_ok hR d y.id key v S hk hv hT) ?_ x.id key v S' A' n' cc w' hI' hlen';intro key v S A n c w hI hlen;have:=hr y hy x.id hfx;exact put_any b0 gf gn gc gk gt gm w3 L TN TC hS hR r D hr hD d y hy (by omega) key v S A n c w hI hlen
def cntL (C:Int->Option Int) (K:List Int):Int->Option Int:=K.foldl cntU C
theorem cntL_snoc (C:Int->Option Int) (K:List Int) (x:Int):cntL C (K ++ [x])=cntU (cntL C K) x:=by unfold cntL;rw [List.foldl_append];rfl
def SnkAt (TN:Int->Option Value) (c:Int):Prop:=∃ x sf sp,TN c=some (.agg (ndA x sf sp))/\SlN (x,sf,sp)/\x.kind=2
def outP (id k re im:Int) (K:List Int):List (Nat->Int):=K.map fun c=>lnF c id k re im
theorem put_sinks (b0 gf gn gc gk gt:Nat) (TN TC:Int->Option Value) (C:Int->Option Int) (out:List (Nat->Int)) (A:Option Addr) (n c:Nat) (id:Int) (Ac:Option Addr) (nc cc:Nat) (K:List Int) (k re im:Int) (w:World)
  (hD:FlD b0 w gf gn gc gk gt C out A n c) (hN:IMap w gn TN) (hC:IMap w gc TC) (hx:TC id=some (.slice Ac nc cc)) (hnc:nc=K.length) (hrd:Reads w b0 1 Ac nc (K.map (Value.int .i64))) (hfr:Fresh (gf+1) (.slice Ac nc cc)) (hK:∀ c ∈ K,SnkAt TN c) (hb:gn < gc/\gc < gk/\gk < gf/\gf < b0/\b0<=w.heap.size) (hlen:n+nc<=1000000) :
  Calls Tryz.prog 142 #[.pointer (some ⟨gf,0,none⟩),.int .i64 id,.agg #[.int .i64 k,.int .i64 re,.int .i64 im]] w fun e w'=>e=.returned (.tuple #[])/\(∃ A' c',FlD b0 w' gf gn gc gk gt (cntL C K) (out ++ outP id k re im K) A' (n+nc) c' /\ ∀ q,(Value.slice A' (n+nc) c').ownBlock=some q->(Value.slice A n c).ownBlock=some q \/ w.heap.size<=q)/\Fr w.heap.size (gf :: gk :: (Value.slice A n c).ownBlock.toList) w w':=by
 obtain ⟨hb1,hb2,hb3,hb4,hb5⟩:=hb;have HD:=zh hD;have HN:=zh hN;have HC:=zh hC;have HX:=zh hx;have HNC:=zh hnc;have HRD:=zh hrd;have HFR:=zh hfr;have HKS:=zh hK;have HZC:=zh (show ∀ u,(zeroValue 43).run Tryz.prog u=.ok (.slice none 0 0) u from fun u=>by kernel_rfl);clear hD hN hC hx hnc hrd hfr hK;have fa:=(Fr.refl w.heap.size [] w).alloc (Nat.le_refl _) (.cells #[.int .i64 k,.int .i64 re,.int .i64 im] 50);have BR:=zh (Blk.new w 50 #[.int .i64 k,.int .i64 re,.int .i64 im]);have D1:=zh (HD.out.mv fa);have N1:=zh (HN.out.fr fa HN.out.lt (by simp));have C1:=zh (HC.out.fr fa HC.out.lt (by simp));have R1:=zh (HRD.out.fr fa hb5 (by simp));have F1:=zh fa;have hLo0:=fun q (hq:(Value.slice A n c).ownBlock=some q)=>HD.out.row.lt q hq;obtain ⟨LL,hLL⟩:=nm (gf :: gk :: (Value.slice A n c).ownBlock.toList)
 have hLm:∀ q,q ∈ LL->q=gf \/ q=gk \/ (Value.slice A n c).ownBlock=some q:=fun q hq=>by
  rw [hLL] at hq;simpa using hq
 have hLi:∀ q,q=gf \/ q=gk \/ (Value.slice A n c).ownBlock=some q->q ∈ LL:=fun q hq=>by
  rw [hLL];simpa using hq
 rw [<- hLL];have HLm:=zh hLm;have HLi:=zh hLi;have HLo:=zh hLo0;clear fa HD HN HC HRD hLL hLm hLi hLo0;go_enter Tryz.func142,Tryz.ntmps142;go_upto_region 1 with fail;generalize w.alloc (.cells #[.int .i64 k,.int .i64 re,.int .i64 im] 50)=w1 at *;obtain ⟨gr,hgre⟩:=nm (w.heap.size);rw [<- hgre] at BR F1 hb5 ⊢;have HGR:=zh hgre;clear hgre;have hgr:gr < w1.heap.size:=BR.out.lt
 have hgL:gr ∉ LL:=fun h=>by
  rcases HLm.out gr h with e | e | e
  · omega
  · omega
  · have:=(HLo.out gr e).2;have:=HGR.out;omega
 have hnL:gn ∉ LL:=fun h=>by
  rcases HLm.out gn h with e | e | e
  · omega
  · omega
  · have:=(HLo.out gn e).1;omega
 have q1:w1.cell? ⟨gf,1,none⟩=some (.map (some gc)):=D1.out.blk.cell 1;have hlk:=C1.out.look Tryz.underlying211 HZC.out id;rw [HX.out] at hlk;simp only [Option.getD_some] at hlk;go_wp2_with fail;go_loopg [7,15] nc (fun g s7 s15 wr=>∃ (j:Nat) (A':Option Addr) (c':Nat),j<=nc/\g=nc - j/\s15=.int .i64 j/\(s7=undef \/ ∃ a:Int,s7=.int .i64 a)/\Hid (FlD b0 wr gf gn gc gk gt (cntL C (K.take j)) (out ++ outP id k re im (K.take j)) A' (n+j) c')/\Hid (∀ q,(Value.slice A' (n+j) c').ownBlock=some q->(Value.slice A n c).ownBlock=some q \/ w1.heap.size<=q)/\Hid (Fr w1.heap.size LL w1 wr))
 case atStart=>exact ⟨0,A,c,Nat.zero_le _,rfl,rfl,.inl rfl,zh (by simpa [outP,cntL] using D1.out),zh (fun q hq=>.inl (by simpa using hq)),zh (Fr.refl _ _ _)⟩
 case round =>
  clear q1 hlk D1;obtain ⟨j,A',c',hj,rfl,rfl,h7,D,HO,F⟩:=hrel;have hsz:=F.out.size
  by_cases hjn:j < nc
  ·
   have hji:(j:Int) < (nc:Int):=by omega
   have hj0:(0:Int)<=(j:Int):=(by omega);obtain ⟨v,hv⟩:∃ v,K[j]?=some v:=⟨_,List.getElem?_eq_getElem (by rw [<- HNC.out];exact hjn)⟩
   obtain ⟨b5, o5, u5, rfl, hb5', hu5, hc5⟩ := (R1.out.frL (F.out.mono (B' := w1.heap.size) (L' := LL) (Nat.le_refl _) (fun q hq _ => hq)) (by omega) (fun hn ad ha hm => by
    have h1:=HFR.out _ _ _ rfl hn ad ha;obtain ⟨b,off,e,hlt,_⟩:=R1.out.2 hn;rw [ha] at e;injection e with e
    subst e
    rcases HLm.out _ hm with e | e | e
    · omega
    · omega
    ·
     have:=(HLo.out _ e).1;simp at this hlt
     omega)).one hjn
   rw [List.getElem?_map,hv] at hu5;simp at hu5;subst hu5;have HTK:=zh (show K.take (j+1)=K.take j ++ [v] by rw [List.take_add_one,hv];rfl);obtain ⟨x,sf,sp,hx1,hx2,hx3⟩:=HKS.out v (List.mem_of_getElem? hv);have HCM:=zh (come_sink b0 gf gn gc gk gt TN (cntL C (K.take j)) (out ++ outP id k re im (K.take j)) A' (n+j) c' id v x sf sp k re im wr D.out (N1.out.fr F.out (by omega) hnL) hx1 hx2 hx3 ⟨by omega,hb3,hb4,by omega⟩ (by omega));have BRr:=BR.out.fr F.out hgr hgL;have r0:=BRr.cell 0;have r1:=BRr.cell 1;have r2:=BRr.cell 2;simp at r0 r1 r2;clear hv hx1 hx2 hx3 BRr;go_wp2_with fail;refine HCM.out.mono ?_;rintro e w3 ⟨rfl,⟨A3,c3,d3,o3⟩,f3⟩
   have D3 := zh (show FlD b0 w3 gf gn gc gk gt (cntL C (K.take (j + 1))) (out ++ outP id k re im (K.take (j + 1))) A3 (n + (j + 1)) c3 by
    rw [HTK.out,cntL_snoc];have e1:outP id k re im (K.take j ++ [v])=outP id k re im (K.take j) ++ [lnF v id k re im]:=(by unfold outP;rw [List.map_append];rfl);rw [e1,<- List.append_assoc]
    exact d3)
   have O3 := zh (show ∀ q, (Value.slice A3 (n + (j + 1)) c3).ownBlock = some q -> (Value.slice A n c).ownBlock = some q \/ w1.heap.size <= q from fun q hq => by
    rcases o3 q hq with h | h
    · exact HO.out q h
    · exact .inr (by omega))
   have F3 := zh (F.out.trans (f3.mono (B' := w1.heap.size) (L' := LL) hsz (fun q hq hlt => by
    simp at hq
    rcases hq with e | e | e
    · exact HLi.out q (.inl e)
    · exact HLi.out q (.inr (.inl e))
    ·
     rcases HO.out q e with h | h
     · exact HLi.out q (.inr (.inr h))
     · omega)))
   clear d3 o3 f3 HCM D HO F r0 r1 r2;go_wp2_with fail;go_roundg (nc - (j+1))
   case measure=>omega
   case rel=>exact ⟨j+1,A3,c3,by omega,rfl,by go_num,.inr ⟨_,rfl⟩,D3,O3,F3⟩
  ·
   obtain rfl:nc=j:=by omega
   have hT:K.take nc=K:=List.take_of_length_le (by rw [HNC.out];exact Nat.le_refl _);rw [hT] at D;clear hT;go_wp2_with fail
   have h1 : ∃ A' c', FlD b0 wr gf gn gc gk gt (cntL C K) (out ++ outP id k re im K) A' (n + nc) c' /\ ∀ q, (Value.slice A' (n + nc) c').ownBlock = some q -> (Value.slice A n c).ownBlock = some q \/ gr <= q := ⟨A', c', D.out, fun q hq => by
    rcases HO.out q hq with h | h
    · exact .inl h
    · exact .inr (by omega)⟩
   have h2:Fr gr LL w wr:=(F1.out.mono (B':=gr) (L':=LL) (by rw [HGR.out];exact Nat.le_refl _) (by simp)).trans (F.out.mono (B':=gr) (L':=LL) (by omega) (fun q hq _=>hq));go_end0;exact ⟨rfl,by rw [<- HGR.out];exact h1,by rw [<- HGR.out];exact h2⟩
def recR (x:Nat->Int):Bool:=recB (x 0) (x 1) (x 2)
def outR (K:List Int) (l:List (Nat->Int)):List (Nat->Int):=l.flatMap fun x=>outP 0 (x 0) (x 1) (x 2) K
theorem outR_snoc (K:List Int) (l:List (Nat->Int)) (x:Nat->Int):outR K (l ++ [x])=outR K l ++ outP 0 (x 0) (x 1) (x 2) K:=by unfold outR;rw [List.flatMap_append];simp
def FlowsOut (K:List Int) (l:List (Nat->Int)) (gt:Nat) (w:World) (e:Ending) (w':World):Prop :=
 (l.all recR=false/\e=.returned (.tuple #[.pointer none,.int .i64 1])/\Fr w.heap.size [] w w') \/
 (l.all recR=true/\∃ b0 gf gn gc gk C A n c,e=.returned (.tuple #[.pointer (some ⟨gf,0,none⟩),.int .i64 0])/\FlD b0 w' gf gn gc gk gt C (outR K l) A n c/\w.heap.size<=b0/\Fr w.heap.size [] w w')
theorem flows_any (gt:Nat) (A Ar:Option Addr) (c cr B n nr:Nat) (M:List Ndm) (l:List (Nat->Int)) (w:World) (h:Nds w B A n M) (hB:B<=w.heap.size) (hs:Small M) (hr:RightG (fstN M)) (hnr:nr=l.length) (hn:nr<=1000) (hrd:Reads w B 3 Ar nr (cellsR l))
  (hK:∀ c ∈ childN (fstN M) 0,∃ x,findN (fstN M) c=some x/\x.kind=2) :
  Calls Tryz.prog 93 #[.slice A n c,.pointer (some ⟨gt,0,none⟩),.slice Ar nr cr] w (FlowsOut (childN (fstN M) 0) l gt w):=by
 obtain ⟨L,hL⟩:=nm (fstN M);have HCK:=zh (gcheck_any A c B n M w h hB hs);have HMD:=zh (fun (wx:World) (hx:Fr w.heap.size [] w wx)=>made_any gt A c B n M wx (h.frw hx hB (by simp)) (Nat.le_trans hB hx.size) hs hr);have HCF:=zh (fun (wx:World) (hx:Fr w.heap.size [] w wx)=>rccontains_any 140 #[] (fun x=>!recR x) Ar cr B nr l wx (enters_of Tryz.func140 (by kernel_rfl) rfl) (fun x w' _ _=>by exact flows1_any x w') hnr (by omega) (hrd.fr hx hB (by simp)) (Nat.le_trans hB hx.size));rw [checkN_zero.2 hr] at HCK;rw [<- hL] at HMD hK ⊢;have hr2:RightG L:=(by rw [hL];exact hr);have HRG:=zh hr2;have HRD:=zh hrd;have HNR:=zh hnr;have HKS:=zh hK;obtain ⟨K,hKe⟩:=nm (childN L 0);have HKE:=zh hKe;rw [<- hKe] at HKS ⊢;obtain ⟨ab,hab⟩:=nm (l.any (fun x=>!recR x));rw [<- hab] at HCF;have HAB:=zh (show l.all recR=!ab by rw [hab,List.not_any_eq_all_not];simp)
 have hK8:K.length<=8:=by
  rw [hKe];have h1:=kidsN_le L 0 [];have h2:(childN L 0).length=(kidsN L 0 []).length:=(srt_perm _).length_eq;have h3:=hr2.len;simp at h1;omega
 clear h hs hr hnr hrd hK hKe hab hL hr2;go_enter Tryz.func93,Tryz.ntmps93;go_wp2_with fail;refine HCK.out.mono ?_;rintro e w1 ⟨rfl,f1⟩;have F1:=zh f1;have HC1:=zh (HCF.out w1 f1);clear f1 HCK HCF;go_wp2_with fail;refine HC1.out.mono ?_;rintro e w2 ⟨rfl,f2⟩;have F2:=zh (F1.out.nx f2);have HM2:=zh (HMD.out w2 F2.out);clear f2 HC1 F1 HMD
 cases ab with
 | true =>
  go_wp2_with fail;go_ret2;exact .inl ⟨HAB.out,rfl,F2.out⟩
 | false => ?_
 go_wp2_with fail;refine HM2.out.mono ?_;rintro e w3 ⟨lo,gf,gn,gc,gk,M',TN,TC,TK,rfl,hb3,hfl,hgn,f3⟩;have F3:=zh (F2.out.nx f3);obtain ⟨b0,hb0⟩:=nm (w3.heap.size);obtain ⟨o1,o2,o3,o4,o5⟩:=And.intro hfl.o1 (And.intro hfl.o2 (And.intro hfl.o3 (And.intro hfl.o4 hfl.o5)));have hwgn:w.heap.size<=gn:=Nat.le_trans F2.out.size hgn
 have h0:∃ m ∈ M',m.1.id=0:=by
  have h1:(0:Int) ∈ idsN (fstN M'):=(by rw [hfl.nm];exact ((normL_perm L).map (fun n:Nd=>n.id)).mem_iff.2 HRG.out.zero);obtain ⟨x,hx,e⟩:=List.mem_map.1 h1;obtain ⟨m,hm,rfl⟩:=List.mem_map.1 hx;exact ⟨m,hm,e⟩
 obtain ⟨m0,hm0,he0⟩:=h0;obtain ⟨Ac,nc,cc,hc1,hc2,hc3,hc4⟩:=hfl.fm.cs m0 (by rw [List.take_length];exact hm0);rw [he0] at hc1 hc2 hc3;rw [<- HKE.out] at hc2 hc3
 have HSN := zh (show ∀ c ∈ K, SnkAt TN c from fun c hc => by
  obtain ⟨x,hx,hk⟩:=HKS.out c hc;have hxm:x ∈ fstN M':=(by rw [hfl.nm];exact (normL_perm L).mem_iff.2 (findN_mem hx));obtain ⟨m,hm,rfl⟩:=List.mem_map.1 hxm;obtain ⟨⟨⟨A1,c1,e1,_⟩,⟨A2,c2,e2,_⟩⟩,_⟩:=hfl.inn m hm;have h5:=hfl.fm.ns m (by rw [List.take_length];exact hm);rw [findN_id hx] at h5
  exact ⟨m.1,m.2.1,m.2.2,h5,⟨A1,_,c1,A2,_,c2,e1,e2⟩,hk⟩)
 have HIN:=zh hfl.fm.n;have HIC:=zh hfl.fm.c;have HX0:=zh hc1;have HNC:=zh hc2;have HRC:=zh hc3;have HFC:=zh (fresh_le hc4 (show gf+1<=lo by omega))
 obtain ⟨C0,hC0⟩:∃ C:Int->Option Int,TK=cntT C:=by
  refine ⟨fun x=>match TK x with | none=>none | some _=>some 0,?_⟩
  funext x
  unfold cntT
  rcases hfl.fm.ki x with e | e
  · simp [e]
  · simp [e]
 have HD3:=zh (FlD.mk (b0:=b0) (gn:=gn) (gc:=gc) (gt:=gt) (out:=[]) (A:=none) (n:=0) (c:=0) rfl hb3 (by rw [<- hC0];exact hfl.fm.q) (World.ownsRow_nil _ _ _ _));rw [<- hb0] at HRC;have hb3s:b0<=w3.heap.size:=(by omega);have hb3t:w3.heap.size<=b0:=(by omega);have hnc8:nc<=8:=(by rw [hc2];exact hK8);have HB0:=zh hb0;have HZI:=zh (show ∀ u,(zeroValue 3).run Tryz.prog u=.ok (.int .i64 0) u from fun u=>by kernel_rfl);clear hfl hc1 hc2 hc3 hc4 f3 HM2 F2 hb3 hC0 hm0 he0 hb0;go_wp2_with fail;go_loopg [10,27] nr (fun g s10 s27 wr=>∃ (k:Nat) (C:Int->Option Int) (A':Option Addr) (n' c':Nat),k<=nr/\g=nr - k/\s27=.int .i64 k/\(s10=undef \/ ∃ a,s10=.pointer a)/\n'<=8 * k/\Hid (FlD b0 wr gf gn gc gk gt C (outR K (l.take k)) A' n' c')/\Hid (Fr b0 [gf,gk] w3 wr))
 case atStart=>exact ⟨0,C0,none,0,0,Nat.zero_le _,rfl,rfl,.inl rfl,by omega,HD3,zh (Fr.refl _ _ _)⟩
 case round =>
  clear HD3;obtain ⟨k,C,A',n',c',hk,rfl,rfl,h10,hn8,D,F⟩:=hrel;have hszr:=F.out.size;have FW:=zh (F3.out.trans (F.out.mono (B':=w.heap.size) (L':=[]) (by omega) (by intro q hq hlt;simp at hq;omega)))
  by_cases hkn:k < nr
  ·
   have hki:(k:Int) < (nr:Int):=by omega
   have hk0:(0:Int)<=(k:Int):=(by omega);obtain ⟨x,hx⟩:∃ x,l[k]?=some x:=⟨_,List.getElem?_eq_getElem (by rw [<- HNR.out];exact hkn)⟩;have hrl:=HRD.out.fr FW.out hB (by simp);rw [HNR.out] at hrl;obtain ⟨b1,of1,rfl,hb1,hc1⟩:=reads_rec hrl hx;have p0:=hc1 0 (by omega);have p1:=hc1 1 (by omega);have p2:=hc1 2 (by omega);simp only [Nat.add_zero,<- Nat.add_assoc] at p0 p1 p2;have HTK:=zh (show l.take (k+1)=l.take k ++ [x] by rw [List.take_add_one,hx];rfl);clear hc1 hrl hx hb1;have fa:=(Fr.refl wr.heap.size [] wr).alloc (Nat.le_refl _) (.cells #[.int .i64 (x 0),.int .i64 (x 1),.int .i64 (x 2)] 50);have BX:=zh (Blk.new wr 50 #[.int .i64 (x 0),.int .i64 (x 1),.int .i64 (x 2)]);have DA:=zh (D.out.mv fa);have FA:=zh (F.out.trans (fa.mono (B':=b0) (L':=[gf,gk]) (by omega) (by simp)));clear fa D F FW;go_upto_region 9 with fail;clear p0 p1 p2;generalize wr.alloc (.cells #[.int .i64 (x 0),.int .i64 (x 1),.int .i64 (x 2)] 50)=wa at *;obtain ⟨gx,hgx⟩:=nm (wr.heap.size);rw [<- hgx] at BX ⊢;have hgx0:b0<=gx:=(by omega);clear hgx hszr;have q4:wa.cell? ⟨gf,4,none⟩=some (.map (some gk)):=DA.out.blk.cell 4;have hlc:=DA.out.cnt.look Tryz.underlying105 HZI.out 0;rw [cntT_get] at hlc;obtain ⟨v,hv⟩:=nm ((C 0).getD 0);rw [<- hv] at hlc;obtain ⟨w5,hup,hm5,f5,hs5⟩:=DA.out.cnt.upd Tryz.underlying105 0 (.int .i64 (wrap64 (v+1)));rw [hv,cntU_T] at hm5;have hltx:gx < wa.heap.size:=BX.out.lt;have BX5:=zh (BX.out.fr f5 BX.out.lt (by simp;omega));have D5:=zh (show FlD b0 w5 gf gn gc gk gt (cntU C 0) (outR K (l.take k)) A' n' c' from ⟨DA.out.num,DA.out.blk.fr f5 DA.out.blk.lt (by simp;omega),hm5,ownsRow_fr DA.out.row f5 (fun q hq=>⟨(DA.out.row.lt q hq).2,by have:=(DA.out.row.lt q hq).1;simp;omega⟩)⟩);have F5:=zh (FA.out.trans (f5.mono (B':=b0) (L':=[gf,gk]) (by omega) (by simp)));have hb5:b0<=w5.heap.size:=(by omega);clear hm5 f5 hs5 hv DA FA BX;go_upto_region 10 with fail;clear q4 hlc hup
   have HPT := zh (put_sinks b0 gf gn gc gk gt TN TC (cntU C 0) (outR K (l.take k)) A' n' c' 0 Ac nc cc K (x 0) (x 1) (x 2) w5 D5.out (HIN.out.fr F5.out (by omega) (by simp; omega)) (HIC.out.fr F5.out (by omega) (by simp; omega)) HX0.out HNC.out (HRC.out.frL F5.out (Nat.le_refl _) (fun hn ad ha hm2 => by
    have h1:=HFC.out _ _ _ rfl hn ad ha;simp at hm2
    omega)) HFC.out HSN.out ⟨o1,o2,o3,by omega,hb5⟩ (by omega))
   have x0:=BX5.out.cell 0;have x1:=BX5.out.cell 1;have x2:=BX5.out.cell 2;simp at x0 x1 x2;go_wp2_with fail;refine HPT.out.mono ?_;rintro e w6 ⟨rfl,⟨A6,c6,d6,_⟩,f6⟩;have D6:=zh (show FlD b0 w6 gf gn gc gk gt (cntL (cntU C 0) K) (outR K (l.take (k+1))) A6 (n'+nc) c6 by rw [HTK.out,outR_snoc];exact d6)
   have F6 := zh (F5.out.trans (f6.mono (B' := b0) (L' := [gf, gk]) hb5 (fun q hq hlt => by
    simp at hq
    rcases hq with e | e | e
    · simp [e]
    · simp [e]
    ·
     have:=(D5.out.row.lt q e).1
     omega)))
   clear d6 f6 HPT D5 F5 x0 x1 x2;go_wp2_with fail;go_roundg (nr - (k+1))
   case measure=>omega
   case rel=>exact ⟨k+1,_,A6,n'+nc,c6,by omega,rfl,by go_num,.inr ⟨_,rfl⟩,by omega,D6,F6⟩
  ·
   obtain rfl:nr=k:=by omega
   have hT:l.take nr=l:=List.take_of_length_le (by rw [HNR.out];exact Nat.le_refl _);rw [hT] at D;clear hT;go_wp2_with fail;go_ret2;exact .inr ⟨HAB.out,b0,gf,gn,gc,gk,C,A',n',c',rfl,D.out,by omega,FW.out⟩
def DRunOut (K:List Int) (l:List (Nat->Int)) (w:World) (e:Ending) (w':World):Prop :=
 (l.all recR=false/\e=.returned (.tuple #[.slice none 0 0,.int .i64 1])/\Fr w.heap.size [] w w') \/
 (l.all recR=true/\∃ A n c,n=(outR K l).length/\e=.returned (.tuple #[.slice A n c,.int .i64 0])/\Reads w' w'.heap.size 5 A n (cellsLn (outR K l))/\n<=c/\Fr w.heap.size [] w w')
theorem drun_any (gt:Nat) (A Ar:Option Addr) (c cr B n nr:Nat) (M:List Ndm) (l:List (Nat->Int)) (w:World) (h:Nds w B A n M) (hB:B<=w.heap.size) (hs:Small M) (hr:RightG (fstN M)) (hnr:nr=l.length) (hn:nr<=1000) (hrd:Reads w B 3 Ar nr (cellsR l))
  (hK:∀ c ∈ childN (fstN M) 0,∃ x,findN (fstN M) c=some x/\x.kind=2) :
  Calls Tryz.prog 50 #[.slice A n c,.pointer (some ⟨gt,0,none⟩),.slice Ar nr cr] w (DRunOut (childN (fstN M) 0) l w):=by
 have H:=zh (flows_any gt A Ar c cr B n nr M l w h hB hs hr hnr hn hrd hK);obtain ⟨K,hKe⟩:=nm (childN (fstN M) 0);rw [<- hKe] at H ⊢;clear h hs hr hnr hrd hK hKe;go_enter Tryz.func50,Tryz.ntmps50;go_wp2_with fail;refine H.out.mono ?_;rintro e w1 (⟨ha,rfl,f1⟩ | ⟨ha,b0,gf,gn,gc,gk,C,A1,n1,c1,rfl,hd,_,f1⟩)
 · have F1:=zh f1;have HA:=zh ha;clear f1 ha H;go_wp2_with fail;go_ret2;exact .inl ⟨HA.out,rfl,F1.out⟩
 · have F1:=zh f1;have HA:=zh ha;have HD:=zh hd;have q3:w1.cell? ⟨gf,3,none⟩=some (.slice A1 n1 c1):=hd.blk.cell 3;clear f1 ha H hd;go_wp2_with fail;go_ret2;have hcap:n1<=c1:=(by obtain ⟨_,_,hx,_,hy,_⟩:=ownsRow_shape HD.out.row;injection hx with _ _ hx;omega);exact .inr ⟨HA.out,A1,n1,c1,HD.out.num,rfl,Reads.of_own HD.out.row,hcap,F1.out⟩
def cnt0 (L:List Nd):Int->Option Int:=fun x=>if x ∈ idsN L then some 0 else none
def oneD (L:List Nd) (s:DS) (x:Nat->Int):DS:=putD L 8 0 (x 0) (x 1,x 2) ⟨s.T,s.out,cntU s.C 0⟩
def flowD (L:List Nd) (l:List (Nat->Int)) (S:DS):DS:=l.foldl (oneD L) S
theorem one_ahead (L:List Nd) (s:DS) (x:Nat->Int):Ahead s (oneD L s x):=Ahead.trans (b:=⟨s.T,s.out,cntU s.C 0⟩) ⟨[],by simp⟩ (put_ahead L 8 _ _ _ _)
theorem recR_ok {x:Nat->Int} (h:recR x=true):keyOk (x 0)/\vOk (x 1,x 2):=by
 unfold recR recB at h;rw [Bool.and_eq_true] at h;obtain ⟨h1,h2⟩:=h;refine ⟨?_,h2⟩;simp at h1;unfold keyOk;omega
theorem one_ok {L:List Nd} (h:RightG L) {s:DS} {x:Nat->Int} (hx:recR x=true) (hT:TOk s.T):TOk (oneD L s x).T:=put_ok h 8 _ _ _ _ (recR_ok hx).1 (recR_ok hx).2 hT
theorem flow_ahead (L:List Nd) (l:List (Nat->Int)) (s:DS):Ahead s (flowD L l s):=foldl_ahead _ (one_ahead L) l s
theorem flow_ok {L:List Nd} (h:RightG L) {l:List (Nat->Int)} (hl:l.all recR=true) {s:DS} (hT:TOk s.T):TOk (flowD L l s).T :=
 foldl_ind (fun s:DS=>TOk s.T) _ _ _ hT fun s x hx hs=>one_ok h (List.all_eq_true.1 hl x hx) hs
theorem flow_snoc (L:List Nd) (l:List (Nat->Int)) (x:Nat->Int) (s:DS):flowD L (l ++ [x]) s=oneD L (flowD L l s) x:=by unfold flowD;rw [List.foldl_append];rfl
def FlowsD (L:List Nd) (l:List (Nat->Int)) (T:Pk->CV) (gt gm:Nat) (w:World) (e:Ending) (w':World):Prop :=
 (l.all recR=false/\e=.returned (.tuple #[.pointer none,.int .i64 1])/\Fr w.heap.size [] w w') \/
 (l.all recR=true/\∃ b0 gf gn gc gk A n c,e=.returned (.tuple #[.pointer (some ⟨gf,0,none⟩),.int .i64 0])/\FlD b0 w' gf gn gc gk gt (flowD L l ⟨T,[],cnt0 L⟩).C (flowD L l ⟨T,[],cnt0 L⟩).out A n c/\CT w' gt gm (flowD L l ⟨T,[],cnt0 L⟩).T/\w.heap.size<=b0/\w.heap.size<=gk/\Fr w.heap.size [gm] w w')
theorem flowsD_any (gt gm:Nat) (T:Pk->CV) (A Ar:Option Addr) (c cr B Br n nr:Nat) (M:List Ndm) (l:List (Nat->Int)) (w:World) (h:Nds w B A n M) (hB:B<=w.heap.size) (hs:Small M) (hr:RightG (fstN M)) (hnr:nr=l.length) (hn:nr<=1000) (hrd:Reads w Br 3 Ar nr (cellsR l))
  (hct:CT w gt gm T) (hBr:Br<=w.heap.size) (hBg:Br<=gm) (hTO:TOk T) (hlen:l.all recR=true->(flowD (fstN M) l ⟨T,[],cnt0 (fstN M)⟩).out.length<=6000000000) :
  Calls Tryz.prog 93 #[.slice A n c,.pointer (some ⟨gt,0,none⟩),.slice Ar nr cr] w (FlowsD (fstN M) l T gt gm w):=by
 obtain ⟨L,hL⟩:=nm (fstN M);have HCK:=zh (gcheck_any A c B n M w h hB hs);have HMD:=zh (fun (wx:World) (hx:Fr w.heap.size [] w wx)=>made_any gt A c B n M wx (h.frw hx hB (by simp)) (Nat.le_trans hB hx.size) hs hr);have HCF:=zh (fun (wx:World) (hx:Fr w.heap.size [] w wx)=>rccontains_any 140 #[] (fun x=>!recR x) Ar cr Br nr l wx (enters_of Tryz.func140 (by kernel_rfl) rfl) (fun x w' _ _=>by exact flows1_any x w') hnr (by omega) (hrd.fr hx hBr (by simp)) (Nat.le_trans hBr hx.size));rw [checkN_zero.2 hr] at HCK;rw [<- hL] at HMD hlen ⊢;have hgt:=hct.bk.lt;have hgm:=hct.mp.lt;have HCT:=zh hct;have HTO:=zh hTO;have HLEN:=zh hlen;have hr2:RightG L:=(by rw [hL];exact hr);have HRG:=zh hr2;have HRD:=zh (fun (wx:World) (hf:Fr w.heap.size [gm] w wx)=>(hrd.fr hf hBr (by simp;exact hBg):Reads wx Br 3 Ar nr (cellsR l)));have HNR:=zh hnr;obtain ⟨ab,hab⟩:=nm (l.any (fun x=>!recR x));rw [<- hab] at HCF;have HAB:=zh (show l.all recR=!ab by rw [hab,List.not_any_eq_all_not];simp);clear h hs hr hnr hrd hct hTO hlen hab hL hr2;go_enter Tryz.func93,Tryz.ntmps93;go_wp2_with fail;refine HCK.out.mono ?_;rintro e w1 ⟨rfl,f1⟩;have F1:=zh f1;have HC1:=zh (HCF.out w1 f1);clear f1 HCK HCF;go_wp2_with fail;refine HC1.out.mono ?_;rintro e w2 ⟨rfl,f2⟩;have F2:=zh (F1.out.nx f2);have HM2:=zh (HMD.out w2 F2.out);clear f2 HC1 F1 HMD
 cases ab with
 | true =>
  go_wp2_with fail;go_ret2;exact .inl ⟨HAB.out,rfl,F2.out⟩
 | false => ?_
 go_wp2_with fail;refine HM2.out.mono ?_;rintro e w3 ⟨lo,gf,gn,gc,gk,M',TN,TC,TK,rfl,hb3,hfl,hgn,f3⟩;have F3:=zh (F2.out.nx f3);obtain ⟨b0,hb0⟩:=nm (w3.heap.size);obtain ⟨o1,o2,o3,o4,o5⟩:=And.intro hfl.o1 (And.intro hfl.o2 (And.intro hfl.o3 (And.intro hfl.o4 hfl.o5)));have hwgn:w.heap.size<=gn:=Nat.le_trans F2.out.size hgn
 have hmem:∀ x ∈ L,∃ m ∈ M',m.1=x:=fun x hx=>by
  have hxm:x ∈ fstN M':=(by rw [hfl.nm];exact (normL_perm L).mem_iff.2 hx);obtain ⟨m,hm,e⟩:=List.mem_map.1 hxm;exact ⟨m,hm,e⟩
 have hFS:FlS b0 w3 gf gn gc gk gt gm L TN TC:=by
  refine ⟨hfl.fm.n,hfl.fm.c,fun x hx => ?_,fun x hx => ?_,by omega,by omega,o1,o2,o3,by omega,by omega⟩
  · obtain ⟨m,hm,rfl⟩:=hmem x hx;obtain ⟨⟨⟨A1,c1,e1,_⟩,⟨A2,c2,e2,r2⟩⟩,_,g2⟩:=hfl.inn m hm;have h5:=hfl.fm.ns m (by rw [List.take_length];exact hm);rw [e2] at g2;exact ⟨A1,_,c1,A2,_,c2,by rw [h5,e1,e2],rfl,by rw [hb0];exact r2,fresh_le g2 (by omega)⟩
  · obtain ⟨m,hm,rfl⟩:=hmem x hx;obtain ⟨A',q',c',h1,h2,h3,h4⟩:=hfl.fm.cs m (by rw [List.take_length];exact hm);exact ⟨A',q',c',h1,h2,by rw [hb0];exact h3,fresh_le h4 (by omega)⟩
 have hC0:TK=cntT (cnt0 L):=by
  funext y
  unfold cntT cnt0
  by_cases hy:y ∈ idsN L
  · rw [if_pos hy];obtain ⟨x,hx,rfl⟩:=List.mem_map.1 hy;obtain ⟨m,hm,rfl⟩:=hmem x hx;exact hfl.fm.ks m (by rw [List.take_length];exact hm)
  ·
   rw [if_neg hy]
   cases hTK:TK y with
   | none=>rfl
   | some v =>
    obtain ⟨m,hm,e⟩:=hfl.fm.kn y (by rw [hTK];simp);rw [List.take_length] at hm
    exfalso
    apply hy;have h1:m.1 ∈ fstN M':=List.mem_map.2 ⟨m,hm,rfl⟩;rw [hfl.nm] at h1;exact List.mem_map.2 ⟨m.1,(normL_perm L).mem_iff.1 h1,e⟩
 obtain ⟨x0,hx0,he0⟩:∃ x ∈ L,x.id=0:=List.mem_map.1 HRG.out.zero;have HX0:=zh hx0;have HE0:=zh he0;have HFS:=zh hFS;have HCT3:=zh (HCT.out.fr F3.out hgt (by simp) hgm (by simp));have HD3:=zh (FlD.mk (b0:=b0) (gn:=gn) (gc:=gc) (gt:=gt) (out:=[]) (A:=none) (n:=0) (c:=0) rfl hb3 (by rw [<- hC0];exact hfl.fm.q) (World.ownsRow_nil _ _ _ _));have hb3s:b0<=w3.heap.size:=(by omega);have hb3t:w.heap.size<=b0:=(by rw [hb0];exact F3.out.size);have hb3u:w3.heap.size<=b0:=(by omega);have hgfb:gf < b0:=(by omega);have HB0:=zh hb0;have HZI:=zh (show ∀ u,(zeroValue 3).run Tryz.prog u=.ok (.int .i64 0) u from fun u=>by kernel_rfl);have HPA:=zh (fun (key:Int) (v:Int × Int) (S:DS) (A:Option Addr) (n c:Nat) (w:World) (hI:PutIn b0 w3 gf gn gc gk gt gm key v S A n c w) (hl:(putD L 8 x0.id key v S).out.length<=6000000000)=>put_any b0 gf gn gc gk gt gm w3 L TN TC hFS HRG.out (posI (sortN L)) 8 (complete_rank HRG.out.uni HRG.out.complete) (fun n hn=>Nat.lt_of_lt_of_le (posI_lt (complete_all HRG.out.complete hn)) (by have h1:=HRG.out.complete;have h2:=HRG.out.len;unfold Complete at h1;omega)) 8 x0 hx0 (Nat.le_add_right _ _) key v S A n c w hI hl);rw [he0] at HPA;clear hfl f3 HM2 F2 hb3 hC0 hb0 hmem hFS hx0 he0 HCT;go_wp2_with fail;go_loopg [10,27] nr (fun g s10 s27 wr=>∃ (k:Nat) (A':Option Addr) (n' c':Nat),k<=nr/\g=nr - k/\s27=.int .i64 k/\(s10=undef \/ ∃ a,s10=.pointer a)/\Hid (FlD b0 wr gf gn gc gk gt (flowD L (l.take k) ⟨T,[],cnt0 L⟩).C (flowD L (l.take k) ⟨T,[],cnt0 L⟩).out A' n' c')/\Hid (CT wr gt gm (flowD L (l.take k) ⟨T,[],cnt0 L⟩).T)/\Hid (Fr b0 [gf,gk,gm] w3 wr))
 case atStart=>exact ⟨0,none,0,0,Nat.zero_le _,rfl,rfl,.inl rfl,HD3,HCT3,zh (Fr.refl _ _ _)⟩
 case round =>
  clear HD3 HCT3;obtain ⟨k,A',n',c',hk,rfl,rfl,h10,D,CTK,F⟩:=hrel;have hszr:=F.out.size;have FW:=zh ((F3.out.mono (B':=w.heap.size) (L':=[gm]) (Nat.le_refl _) (by simp)).trans (F.out.mono (B':=w.heap.size) (L':=[gm]) (by omega) (by intro q hq hlt;simp at hq ⊢;omega)))
  by_cases hkn:k < nr
  ·
   have hki:(k:Int) < (nr:Int):=by omega
   have hk0:(0:Int)<=(k:Int):=(by omega);obtain ⟨x,hx⟩:∃ x,l[k]?=some x:=⟨_,List.getElem?_eq_getElem (by rw [<- HNR.out];exact hkn)⟩;have hrl:=HRD.out wr FW.out;rw [HNR.out] at hrl;obtain ⟨b1,of1,rfl,hb1,hc1⟩:=reads_rec hrl hx;have p0:=hc1 0 (by omega);have p1:=hc1 1 (by omega);have p2:=hc1 2 (by omega);simp only [Nat.add_zero,<- Nat.add_assoc] at p0 p1 p2;have hTK0:l.take (k+1)=l.take k ++ [x]:=(by rw [List.take_add_one,hx];rfl);obtain ⟨SK,hSK⟩:=nm (flowD L (l.take k) ⟨T,[],cnt0 L⟩);have HTK:=zh (show flowD L (l.take (k+1)) ⟨T,[],cnt0 L⟩=oneD L SK x by rw [hTK0,flow_snoc,hSK]);have HRX:=zh (recR_ok (List.all_eq_true.1 HAB.out x (List.mem_of_getElem? hx)))
   have HTS := zh (show TOk SK.T by
    rw [hSK]
    exact flow_ok HRG.out (List.all_eq_true.2 fun y hy=>List.all_eq_true.1 HAB.out y (List.mem_of_mem_take hy)) HTO.out)
   have HLK := zh (show (oneD L SK x).out.length <= 6000000000 by
    rw [<- HTK.out];refine Nat.le_trans (Ahead.len ?_) (HLEN.out HAB.out)
    have e:flowD L l ⟨T,[],cnt0 L⟩=flowD L (l.drop (k+1)) (flowD L (l.take (k+1)) ⟨T,[],cnt0 L⟩):=by
     unfold flowD;rw [<- List.foldl_append,List.take_append_drop]
    rw [e]
    exact flow_ahead _ _ _)
   rw [<- hSK] at D CTK;clear hc1 hrl hx hb1 hTK0 hSK;have fa:=(Fr.refl wr.heap.size [] wr).alloc (Nat.le_refl _) (.cells #[.int .i64 (x 0),.int .i64 (x 1),.int .i64 (x 2)] 50);have BX:=zh (Blk.new wr 50 #[.int .i64 (x 0),.int .i64 (x 1),.int .i64 (x 2)]);have DA:=zh (D.out.mv fa);have CTA:=zh (CTK.out.keep fa);have FA:=zh (F.out.trans (fa.mono (B':=b0) (L':=[gf,gk,gm]) (by omega) (by simp)));clear fa D F FW CTK;go_upto_region 9 with fail;clear p0 p1 p2;generalize wr.alloc (.cells #[.int .i64 (x 0),.int .i64 (x 1),.int .i64 (x 2)] 50)=wa at *;obtain ⟨gx,hgx⟩:=nm (wr.heap.size);rw [<- hgx] at BX ⊢;have hgx0:b0<=gx:=(by omega);clear hgx hszr;have q4:wa.cell? ⟨gf,4,none⟩=some (.map (some gk)):=DA.out.blk.cell 4;have hlc:=DA.out.cnt.look Tryz.underlying105 HZI.out 0;rw [cntT_get] at hlc;obtain ⟨v,hv⟩:=nm ((SK.C 0).getD 0);rw [<- hv] at hlc;obtain ⟨w5,hup,hm5,f5,hs5⟩:=DA.out.cnt.upd Tryz.underlying105 0 (.int .i64 (wrap64 (v+1)));rw [hv,cntU_T] at hm5;have hltx:gx < wa.heap.size:=BX.out.lt;have BX5:=zh (BX.out.fr f5 BX.out.lt (by simp;omega));have D5:=zh (show FlD b0 w5 gf gn gc gk gt (cntU SK.C 0) SK.out A' n' c' from ⟨DA.out.num,DA.out.blk.fr f5 DA.out.blk.lt (by simp;omega),hm5,ownsRow_fr DA.out.row f5 (fun q hq=>⟨(DA.out.row.lt q hq).2,by have:=(DA.out.row.lt q hq).1;simp;omega⟩)⟩);have CT5:=zh (CTA.out.fr f5 CTA.out.bk.lt (by simp;omega) CTA.out.mp.lt (by simp;omega));have F5:=zh (FA.out.trans (f5.mono (B':=b0) (L':=[gf,gk,gm]) (by omega) (by simp)));have hb5:b0<=w5.heap.size:=(by omega);clear hm5 f5 hs5 hv DA FA BX CTA;go_upto_region 10 with fail;clear q4 hlc hup;have HPT:=zh (HPA.out (x 0) (x 1,x 2) ⟨SK.T,SK.out,cntU SK.C 0⟩ A' n' c' w5 ⟨HRX.out.1,HRX.out.2,HTS.out,D5.out,CT5.out,F5.out⟩ HLK.out);have x0:=BX5.out.cell 0;have x1:=BX5.out.cell 1;have x2:=BX5.out.cell 2;simp at x0 x1 x2;go_wp2_with fail;refine HPT.out.mono ?_;rintro e w6 ⟨rfl,A6,n6,c6,d6,_,ct6,f6⟩;have D6:=zh (show FlD b0 w6 gf gn gc gk gt (flowD L (l.take (k+1)) ⟨T,[],cnt0 L⟩).C (flowD L (l.take (k+1)) ⟨T,[],cnt0 L⟩).out A6 n6 c6 by rw [HTK.out];exact d6);have CT6:=zh (show CT w6 gt gm (flowD L (l.take (k+1)) ⟨T,[],cnt0 L⟩).T by rw [HTK.out];exact ct6)
   have F6 := zh (F5.out.trans (f6.mono (B' := b0) (L' := [gf, gk, gm]) hb5 (fun q hq hlt => by
    simp at hq
    rcases hq with e | e | e | e
    · simp [e]
    · simp [e]
    · simp [e]
    ·
     have:=(D5.out.row.lt q e).1
     omega)))
   clear d6 ct6 f6 HPT D5 F5 CT5 x0 x1 x2;go_wp2_with fail;go_roundg (nr - (k+1))
   case measure=>omega
   case rel=>exact ⟨k+1,A6,n6,c6,by omega,rfl,by go_num,.inr ⟨_,rfl⟩,D6,CT6,F6⟩
  ·
   obtain rfl:nr=k:=by omega
   have hT:l.take nr=l:=List.take_of_length_le (by rw [HNR.out];exact Nat.le_refl _);rw [hT] at D CTK;clear hT;go_wp2_with fail;go_ret2;exact .inr ⟨HAB.out,b0,gf,gn,gc,gk,A',n',c',rfl,D.out,CTK.out,by omega,by omega,FW.out⟩
theorem flows_bad (gt:Option Addr) (A Ar:Option Addr) (c cr B n nr:Nat) (M:List Ndm) (w:World) (h:Nds w B A n M) (hB:B<=w.heap.size) (hs:Small M) (hr:checkN (fstN M) ≠ 0) :
  Calls Tryz.prog 93 #[.slice A n c,.pointer gt,.slice Ar nr cr] w fun e w'=>e=.returned (.tuple #[.pointer none,.int .i64 10])/\Fr w.heap.size [] w w':=by
 have HCK:=zh (gcheck_any A c B n M w h hB hs);obtain ⟨k,hk⟩:=nm (checkN (fstN M));rw [<- hk] at HCK hr;clear hk h hs;go_enter Tryz.func93,Tryz.ntmps93;go_wp2_with fail;refine HCK.out.mono ?_;rintro e w1 ⟨rfl,f1⟩;have F1:=zh f1;clear f1 HCK;go_wp2_with fail;go_ret2;exact ⟨rfl,F1.out⟩
def DRunD (L:List Nd) (l:List (Nat->Int)) (T:Pk->CV) (gt gm:Nat) (w:World) (e:Ending) (w':World):Prop :=
 (l.all recR=false/\e=.returned (.tuple #[.slice none 0 0,.int .i64 1])/\Fr w.heap.size [] w w') \/
 (l.all recR=true/\∃ A n c,e=.returned (.tuple #[.slice A n c,.int .i64 0])/\w'.ownsRow w.heap.size 69 5 (.slice A n c) n (cellsLn (flowD L l ⟨T,[],cnt0 L⟩).out)/\CT w' gt gm (flowD L l ⟨T,[],cnt0 L⟩).T/\Fr w.heap.size [gm] w w')
theorem drunD_any (gt gm:Nat) (T:Pk->CV) (A Ar:Option Addr) (c cr B Br n nr:Nat) (M:List Ndm) (l:List (Nat->Int)) (w:World) (h:Nds w B A n M) (hB:B<=w.heap.size) (hs:Small M) (hr:RightG (fstN M)) (hnr:nr=l.length) (hn:nr<=1000) (hrd:Reads w Br 3 Ar nr (cellsR l))
  (hct:CT w gt gm T) (hBr:Br<=w.heap.size) (hBg:Br<=gm) (hTO:TOk T) (hlen:l.all recR=true->(flowD (fstN M) l ⟨T,[],cnt0 (fstN M)⟩).out.length<=6000000000) :
  Calls Tryz.prog 50 #[.slice A n c,.pointer (some ⟨gt,0,none⟩),.slice Ar nr cr] w (DRunD (fstN M) l T gt gm w):=by
 have H:=zh (flowsD_any gt gm T A Ar c cr B Br n nr M l w h hB hs hr hnr hn hrd hct hBr hBg hTO hlen);obtain ⟨X,hX⟩:=nm (flowD (fstN M) l ⟨T,[],cnt0 (fstN M)⟩);unfold FlowsD at H;unfold DRunD;rw [<- hX] at H ⊢;clear h hs hr hnr hrd hct hTO hlen hX;go_enter Tryz.func50,Tryz.ntmps50;go_wp2_with fail;refine H.out.mono ?_;rintro e w1 (⟨ha,rfl,f1⟩ | ⟨ha,b0,gf,gn,gc,gk,A1,n1,c1,rfl,hd,hct,hb0,_,f1⟩)
 · have F1:=zh f1;have HA:=zh ha;clear f1 ha H;go_wp2_with fail;go_ret2;exact .inl ⟨HA.out,rfl,F1.out⟩
 · have F1:=zh f1;have HA:=zh ha;have HD:=zh hd;have HCT:=zh hct;have HB0:=zh hb0;have q3:w1.cell? ⟨gf,3,none⟩=some (.slice A1 n1 c1):=hd.blk.cell 3;clear f1 ha H hd hct hb0;go_wp2_with fail;go_ret2;exact .inr ⟨HA.out,A1,n1,c1,rfl,ownsRow_base HD.out.row HB0.out,HCT.out,F1.out⟩
theorem drun_bad (gt:Option Addr) (A Ar:Option Addr) (c cr B n nr:Nat) (M:List Ndm) (w:World) (h:Nds w B A n M) (hB:B<=w.heap.size) (hs:Small M) (hr:checkN (fstN M) ≠ 0) :
  Calls Tryz.prog 50 #[.slice A n c,.pointer gt,.slice Ar nr cr] w fun e w'=>e=.returned (.tuple #[.slice none 0 0,.int .i64 10])/\Fr w.heap.size [] w w':=by
 have H:=zh (flows_bad gt A Ar c cr B n nr M w h hB hs hr);clear h hs hr;go_enter Tryz.func50,Tryz.ntmps50;go_wp2_with fail;refine H.out.mono ?_;rintro e w1 ⟨rfl,f1⟩;have F1:=zh f1;clear f1 H;go_wp2_with fail;go_ret2;exact ⟨rfl,F1.out⟩
def mostD:Nat->Nat
 | 0=>0
 | h+1=>(h+1) * (4 * mostD h+1)
theorem mostD_mono:∀ {a b:Nat},a<=b->mostD a<=mostD b
 | 0,b,_=>Nat.zero_le _
 | a+1,0,h=>by omega
 | a+1,b+1,h=>by
  unfold mostD;have:=mostD_mono (a:=a) (b:=b) (by omega);exact Nat.mul_le_mul (by omega) (by omega)
theorem foldl_few {α:Type} (f:DS->α->DS) (b:Nat):∀ (l:List α) (s:DS),(∀ s a,a ∈ l->TOk s.T->TOk (f s a).T/\(f s a).out.length<=s.out.length+b)->TOk s.T->(l.foldl f s).out.length<=s.out.length+l.length * b
 | [],s,_,_=>Nat.le_add_right _ _
 | a :: l,s,h,hT=>by
  obtain ⟨h1,h2⟩:=h s a (by simp) hT;have h3:=foldl_few f b l (f s a) (fun s x hx=>h s x (by simp [hx])) h1;rw [List.length_cons,Nat.succ_mul];exact Nat.le_trans h3 (by omega)
theorem few_nats:∀ {l:List Nat} {a b:Nat},l.Nodup->(∀ x ∈ l,a < x/\x < b)->l.length<=b - a - 1:=by
 intro l a b hn h;have h1:l.length<=((List.range b).filter fun x=>decide (a < x)).length:=nodup_subG hn (fun x hx=>List.mem_filter.2 ⟨List.mem_range.2 (h x hx).2,decide_eq_true (h x hx).1⟩)
 have h2:∀ b:Nat,((List.range b).filter fun x=>decide (a < x)).length=b - a - 1:=by
  intro b
  induction b with
  | zero=>simp
  | succ b ih =>
   rw [List.range_succ,List.filter_append,List.length_append,ih]
   by_cases c:a < b
   · rw [List.filter_cons_of_pos (by simpa using c)];simp;omega
   · rw [List.filter_cons_of_neg (by simpa using c)];simp;omega
 rw [h2] at h1;exact h1
theorem child_few {L:List Nd} (h:RightG L) {x:Nd} (hx:x ∈ L):(childN L x.id).length<=7 - posI (sortN L) x.id:=by
 have hc:=h.complete;have hlen:(sortN L).length<=8:=(by have h1:=h.len;have h2:(sortN L).length=L.length:=hc;omega);have hnd:(childN L x.id).Nodup:=(childN_rises L x.id).imp (fun h e=>by omega)
 have hmem:∀ c ∈ childN L x.id,c ∈ sortN L/\posI (sortN L) x.id < posI (sortN L) c:=fun c hc'=>by
  obtain ⟨y,hy,e,_,_,hf⟩:=child_node h hc';subst e;exact ⟨complete_all hc hy,complete_rank h.uni hc y hy x.id hf⟩
 have h1:((childN L x.id).map (posI (sortN L))).Nodup:=by
  refine List.Pairwise.map _ (fun a b hab=>hab) ?_;refine (List.Pairwise.and_mem.1 hnd).imp ?_;rintro a b ⟨ha,hb,hab⟩ e;apply hab;have e1:=posI_get (hmem a ha).1;have e2:=posI_get (hmem b hb).1;rw [e,e2] at e1;injection e1 with e1
  exact e1.symm
 have h2 := few_nats (a := posI (sortN L) x.id) (b := 8) h1 (fun y hy => by
  obtain ⟨c,hc',rfl⟩:=List.mem_map.1 hy
  exact ⟨(hmem c hc').2,Nat.lt_of_lt_of_le (posI_lt (hmem c hc').1) hlen⟩)
 rw [List.length_map] at h2;omega
theorem put_few {L:List Nd} (h:RightG L):∀ (d:Nat) (x:Nd),x ∈ L -> ∀ (key:Int) (v:Int × Int) (S:DS),keyOk key->vOk v->TOk S.T->(putD L d x.id key v S).out.length<=S.out.length+mostD (7 - posI (sortN L) x.id)
 | 0,x,hx,key,v,S,_,_,_=>Nat.le_add_right _ _
 | d+1,x,hx,key,v,S,hk,hv,hT=>by
  have hcf:=child_few h hx;obtain ⟨m,hm⟩:=nm (7 - posI (sortN L) x.id);rw [<- hm] at hcf ⊢;unfold putD
  cases m with
  | zero =>
   have:childN L x.id=[]:=List.eq_nil_of_length_eq_zero (by omega);rw [this];exact Nat.le_add_right _ _
  | succ m =>
   refine Nat.le_trans (foldl_few _ (4 * mostD m+1) _ _ (fun s c hc hs => ?_) hT) (by have h9:=Nat.mul_le_mul_right (4 * mostD m+1) hcf;have e9:mostD (m+1)=(m+1) * (4 * mostD m+1):=rfl;rw [e9];omega);refine ⟨come_ok h hc hk hv hs,?_⟩;obtain ⟨y,hy,e,hf,h0,hfx⟩:=child_node h hc;unfold comeD;rw [hf];simp only
   split
   · simp
   ·
    rename_i h2;obtain ⟨t,ht⟩:=op_safe h hy h2 (by rw [e];exact h0);obtain ⟨k1,k2⟩:=keep_ok h hy ht hs hk hv;rw [e] at k1 k2;have hrk:=complete_rank h.uni h.complete y hy x.id hfx;rw [e] at hrk;have h4:(emitsD y s.T c key v).length<=4:=outP_four ht hv (cvB_ok (T_ok hs _))
    have hst := foldl_few (fun s u => putD L d c key u s) (mostD m) (emitsD y s.T c key v) ⟨keepD y s.T c key v, s.out, cntU s.C c⟩ (fun s' u hu hs' => ⟨put_ok h d c key u s' hk (k2 u hu) hs', by
     have h6:=put_few h d y hy key u s' hk (k2 u hu) hs';rw [e] at h6
     exact Nat.le_trans h6 (Nat.add_le_add_left (mostD_mono (by omega)) _)⟩) k1
    refine Nat.le_trans hst ?_;have:=Nat.mul_le_mul_right (mostD m) h4
    show s.out.length+_<=_
    omega
theorem flow_few {L:List Nd} (h:RightG L) {l:List (Nat->Int)} (hl:l.all recR=true) {S:DS} (hT:TOk S.T):(flowD L l S).out.length<=S.out.length+l.length * 26507215:=by
 obtain ⟨x0,hx0,he0⟩:∃ x ∈ L,x.id=0:=List.mem_map.1 h.zero;refine foldl_few (oneD L) 26507215 l S (fun s x hx hs => ?_) hT;have hr:=List.all_eq_true.1 hl x hx;refine ⟨one_ok h hr hs,?_⟩;have h1:=put_few h 8 x0 hx0 (x 0) (x 1,x 2) ⟨s.T,s.out,cntU s.C 0⟩ (recR_ok hr).1 (recR_ok hr).2 hs;rw [he0] at h1;refine Nat.le_trans h1 (Nat.add_le_add_left ?_ _);exact Nat.le_trans (mostD_mono (a:=7 - posI (sortN L) 0) (b:=7) (by omega)) (by decide)
theorem slN_of {w:World} {B:Nat} {m:Ndm} (h:NdIn w B m):SlN m:=by
 obtain ⟨⟨A,c,h1,_⟩,⟨A',c',h3,_⟩⟩:=h;exact ⟨A,_,c,A',_,c',h1,h3⟩
theorem change_remove (gw gr n c k:Nat) (y:Nd) (rs:Bool) (sf sp:Value) (M:List Ndm) (m:Ndm) (w:World) (h:Wk gw gr n c 3 y rs sf sp k M w) (hk:M[k]?=some m) (hid:m.1.id=y.id) (hu:(idsN (fstN M)).Nodup) (hs:Small M) (hn:n<=20) :
  Calls Tryz.prog 183 #[.pointer (some ⟨gw,0,none⟩)] w (ChgOut (chgN (fstN M) ⟨3,y,rs⟩) 3 y rs sf sp k gw gr w):=by
 have hkl:k < M.length:=(List.getElem?_eq_some_iff.1 hk).1;obtain ⟨x,tf,tp⟩:=m;simp only at hid;obtain ⟨g0,g1,g2,g3,g4,g5,g6,g7,g8,g9,g10,g11,g12⟩:=ndL_get (x,tf,tp);obtain ⟨r,hr⟩:=nm (chgN (fstN M) ⟨3,y,rs⟩)
 have HR := zh (show r = if x.kind = 0 \/ (childN (fstN M) y.id).length ≠ 0 then (11, []) else (0, delN (fstN M) y.id) by
  rw [hr];unfold chgN;rw [find_here hu hk hid]
  simp)
 rw [<- hr];have HUP:=zh (del_here hu hk hid);have q16:=h.blk.cell 16;have q0:=h.blk.cell 0;have q1:=h.blk.cell 1;simp at q16 q0 q1;have r1:=nd_cell h.own hk 1 _ g1;have r0:=nd_cell h.own hk 0 _ g0;simp only [Nat.add_zero] at r0;rw [hid] at r0;have HK:=zh hk;have HKL:=zh hkl;have H:=zh h;have HS:=zh hs;have HNM:=zh h.num;have hk0:(0:Int)<=(k:Int):=(by omega);have hkn:(k:Int) < (n:Int):=(by have:=h.num;omega);clear h hk hid hu g0 g1 g2 g3 g4 g5 g6 g7 g8 g9 g10 g11 g12 hkl hr hs;go_enter Tryz.func183,Tryz.ntmps183;go_upto_region 3 with fail;go_region;have HQ:=zh q0;have HWD:=zh (H.out.keep (Fr.refl w.heap.size [] w).drew);have F0:=zh (Fr.refl w.heap.size [gw,gr] w).drew;replace q1:w.drew.cell? ⟨gw,1,none⟩=some (.int .i64 3):=q1;replace q0:w.drew.cell? ⟨gw,0,none⟩=some (.slice (some ⟨gr,0,none⟩) n c):=q0;replace q16:w.drew.cell? ⟨gw,16,none⟩=some (.int .i64 k):=q16;replace r1:w.drew.cell? ⟨gr,k * 13+1,none⟩=some (.int .i64 x.kind):=r1;replace r0:w.drew.cell? ⟨gr,k * 13,none⟩=some (.int .i64 y.id):=r0;clear H;generalize w.drew=wz at *
 by_cases hx:x.kind=0
 · have HR1:=zh (show r=(11,[]) by rw [HR.out,if_pos (.inl hx)]);rw [hx] at r1;clear HR hx;go_upto_region 11 with fail;go_region;go_wp2_with fail;go_ret;rw [HR1.out];exact .inl ⟨by simp,rfl,F0.out.drew⟩
 ·
  have hkb:=kd_ne hx;obtain ⟨q,hq⟩:=nm ((childN (fstN M) y.id).length)
  have HR2 := zh (show r = if q ≠ 0 then (11, []) else (0, delN (fstN M) y.id) by
   rw [HR.out,hq]
   by_cases h0:(childN (fstN M) y.id).length ≠ 0
   · rw [if_pos (.inr h0),if_pos h0]
   · rw [if_neg h0,if_neg (by rintro (h | h) <;> contradiction)])
  have hq1:q<=1000:=by
   rw [hq];have:=kidsN_le (fstN M) y.id [];have h2:(childN (fstN M) y.id).length=(kidsN (fstN M) y.id []).length:=(by unfold childN;rw [srt_len]);simp at this;have hl:(fstN M).length=M.length:=(by simp [fstN]);have:=HNM.out;omega
  have HCH := zh (fun (wx : World) (hx : Fr wz.heap.size [] wz wx) => (by
   have hk:=HWD.out.keep hx;refine (children_any y.id (some ⟨gr,0,none⟩) c wx.heap.size n M wx hk.nds (Nat.le_refl _) HS.out).mono ?_;rintro e w' ⟨A8,c8,q8,hq8,rfl,_,f8⟩;obtain rfl:q8=q:=by rw [hq8,hq];rfl
   exact ⟨A8,c8,rfl,f8⟩:Calls Tryz.prog 125 #[.slice (some ⟨gr,0,none⟩) n c,.int .i64 y.id] wx fun e w'=>∃ A8 c8,e=.returned (.slice A8 q c8)/\Fr wx.heap.size [] wx w'))
  have I0:=zh (Fr.refl wz.heap.size [] wz).drew;clear HR hx hq;go_upto_region 11 with fail;have SS:wz.drew.cell? ⟨gr,k * 13+1,none⟩=some (.int .i64 x.kind)/\wz.drew.cell? ⟨gw,0,none⟩=some (.slice (some ⟨gr,0,none⟩) n c)/\wz.drew.cell? ⟨gr,k * 13,none⟩=some (.int .i64 y.id):=⟨r1,q0,r0⟩;have hlw:=HWD.out.blk.lt;have hlr:=(HWD.out.own.lt gr rfl).2;go_region_held3 (fun w=>w.cell? ⟨gr,k * 13+1,none⟩=some (.int .i64 x.kind)/\w.cell? ⟨gw,0,none⟩=some (.slice (some ⟨gr,0,none⟩) n c)/\w.cell? ⟨gr,k * 13,none⟩=some (.int .i64 y.id)) (assumption) ((go_at_call 125;refine (HCH.out _ I0.out).mono ?_;rintro e w1 ⟨A8,c8,rfl,f8⟩;have SS:w1.cell? ⟨gr,k * 13+1,none⟩=some (.int .i64 x.kind)/\w1.cell? ⟨gw,0,none⟩=some (.slice (some ⟨gr,0,none⟩) n c)/\w1.cell? ⟨gr,k * 13,none⟩=some (.int .i64 y.id):=⟨(f8.cell (p:=⟨gr,k * 13+1,none⟩) hlr (by simp)).trans r1,(f8.cell (p:=⟨gw,0,none⟩) hlw (by simp)).trans q0,(f8.cell (p:=⟨gr,k * 13,none⟩) hlr (by simp)).trans r0⟩));have HW1:=zh (HWD.out.keep (I0.out.trans f8));have F1:=zh (F0.out.trans ((I0.out.trans f8).mono (B':=w.heap.size) (L':=[gw,gr]) F0.out.size (by simp)));clear f8 SS HWD F0 I0 HCH q0 q1 q16 r0 r1 hlw hlr HQ
  rcases Nat.eq_zero_or_pos q with h0 | h0
  ·
   have HR1:=zh (show r=(0,delN (fstN M) y.id) by rw [HR2.out,if_neg (by omega)]);subst h0;have q1:=HW1.out.blk.cell 1;have q0:=HW1.out.blk.cell 0;have q16:=HW1.out.blk.cell 16;have z0:=HW1.out.blk.frozen 0;simp at q0 q1 q16;have HDL:=zh (fun (wx:World) (hx:Fr w1.heap.size [] w1 wx)=>ndel_any 0 gr n c k M wx HNM.out (by omega) (by omega) (fun m hm=>slN_of (HW1.out.each m hm).inn) (HW1.out.keep hx).own);have I1:=zh (Fr.refl w1.heap.size [] w1).drew;have hne:=HW1.out.ne;have hlw:=HW1.out.blk.lt;have hlr:=(HW1.out.own.lt gr rfl).2;have hwk:IntKind.i64.wrap ((k:Int)+1)=(k:Int)+1:=(by rw [IntKind.wrap_i64];omega);clear HR2;go_upto_region 13 with fail;go_region_law ((rw [if_pos (by rfl)];go_simp;refine (HDL.out _ I1.out).mono ?_;rintro e w2 ⟨rfl,ho2,f2⟩;have z0:=(f2.frozen (p:=⟨gw,0,none⟩) hlw (by simpa using hne)).trans z0;have q0:=(f2.cell (p:=⟨gw,0,none⟩) hlw (by simpa using hne)).trans q0;dsimp only))
   all_goals
    have f12:Fr w1.heap.size [gr] w1 w2:=(I1.out.mono (Nat.le_refl _) (by simp)).trans f2;have fz:Fr w1.heap.size [gw,gr] w1 (w2.setCell ⟨gw,0,none⟩ (.slice (some ⟨gr,0,none⟩) (n - 1) c)):=(f12.mono (L':=[gw,gr]) (Nat.le_refl _) (by intro q hq _;simp at hq;simp [hq])).setCell (p:=⟨gw,0,none⟩) (.inr (by simp)) _;have hb:=(HW1.out.blk.fr f12 hlw (by simpa using hne)).set_ 0 (.slice (some ⟨gr,0,none⟩) (n - 1) c);simp only [List.setIfInBounds_toArray,List.set_cons_zero] at hb;have HB:=zh hb;have HO:=zh (ownsRow_fr ho2 ((Fr.refl w2.heap.size [gw] w2).setCell (p:=⟨gw,0,none⟩) (.inr (by simp)) (.slice (some ⟨gr,0,none⟩) (n - 1) c)) (fun q hq=>⟨(ho2.lt q hq).2,by simp [Value.ownBlock] at hq;simp [<- hq];exact Ne.symm hne⟩));have FZ:=zh (F1.out.trans (fz.mono (B':=w.heap.size) (L':=[gw,gr]) F1.out.size (by simp)))
    have HE := zh (show ∀ m ∈ M.take k ++ M.drop (k + 1), Apart gw gr (w2.setCell ⟨gw, 0, none⟩ (.slice (some ⟨gr, 0, none⟩) (n - 1) c)) m from fun m hm => (HW1.out.each m (by
     rcases List.mem_append.1 hm with h | h
     · exact List.mem_of_mem_take h
     · exact List.mem_of_mem_drop h)).keep fz)
    have HL := zh (show n - 1 = (M.take k ++ M.drop (k + 1)).length by
     rw [List.length_append,List.length_take,List.length_drop,<- HNM.out]
     omega)
    clear f12 fz hb ho2 f2 z0 q0 q1 q16;go_wp2_with fail;go_ret;rw [HR1.out];exact .inr ⟨rfl,rfl,_,n - 1,c,_,HB.out,HO.out,HL.out,HE.out,HUP.out,FZ.out⟩
  · have HR1:=zh (show r=(11,[]) by rw [HR2.out,if_pos (by omega)]);clear HR2;go_wp2_with fail;go_ret;rw [HR1.out];exact .inl ⟨by simp,rfl,F1.out⟩
def outA (T:Pk->CV) (i:Nat):List (Nat->Int):=((plcs.take i).filter fun p=>decide (T p ≠ c0) && (fun _=>true) p).map fun p=>entF p (T p)
theorem plcs_len:plcs.length=512:=by unfold plcs;rw [List.length_map,List.length_range]
theorem outA_all (T:Pk->CV):outA T 512=allT T:=by
 unfold outA allT someE someT;rw [List.take_of_length_le (by rw [plcs_len];exact Nat.le_refl _)]
theorem outA_len (T:Pk->CV) (i:Nat):(outA T i).length<=512:=by
 unfold outA;rw [List.length_map];refine Nat.le_trans (List.length_filter_le _ _) ?_;rw [List.length_take,plcs_len];omega
theorem plcs_at {n k:Nat} (hn:n < 8) (hk:k < 64):plcs[n * 64+k]?=some ((n:Int),(k:Int)):=by
 unfold plcs;rw [List.getElem?_map,List.getElem?_range (by omega)];simp only [Option.map_some];rw [show (n * 64+k) / 64=n by omega,show (n * 64+k) % 64=k by omega]
theorem outA_hit (T:Pk->CV) {n k:Nat} (hn:n < 8) (hk:k < 64) (h:T ((n:Int),(k:Int)) ≠ c0):outA T (n * 64+k+1)=outA T (n * 64+k) ++ [entF ((n:Int),(k:Int)) (T ((n:Int),(k:Int)))]:=by
 unfold outA;rw [List.take_add_one,plcs_at hn hk,List.filter_append,List.map_append];simp [h]
theorem outA_miss (T:Pk->CV) {n k:Nat} (hn:n < 8) (hk:k < 64) (h:T ((n:Int),(k:Int))=c0):outA T (n * 64+k+1)=outA T (n * 64+k):=by
 unfold outA;rw [List.take_add_one,plcs_at hn hk,List.filter_append,List.map_append];simp [h]
theorem cv_neqz (x:CV) (w:World):(binOp .neq 109 (cvV x) (.agg #[.int .i64 0,.int .i64 0,.int .i64 0,.int .i64 0])).run Tryz.prog w=.ok (.bool (decide (x ≠ c0))) w:=by
 have h:(Op.equalIn (9997+3) 109 (cvV x) (.agg #[.int .i64 0,.int .i64 0,.int .i64 0,.int .i64 0])).run Tryz.prog w=.ok (decide (x=c0)) w:=cv_eqd 9997 x c0 w;rw [show (9997+3:Nat)=10000 from rfl] at h;have e:decide (x ≠ c0)=!decide (x=c0):=(by simp);rw [e];generalize decide (x=c0)=b at h;simp [binOp,Op.equal,Op.maxDepth,h]
theorem eowns_empty (w:World):(w.alloc (.cells #[] 111)).ownsRow w.heap.size 111 6 (.slice (some ⟨w.heap.size,0,none⟩) 0 0) 0 []:=by
 refine ⟨rfl,.inr ⟨w.heap.size,0,#[],rfl,Nat.le_refl _,Blk.new _ _ _,?_⟩⟩;simp
def R7AOut (T:Pk->CV) (w:World) (e:Ending) (w':World):Prop :=
 ∃ A n c,n=(allT T).length/\e=.returned (.slice A n c)/\w'.ownsRow w.heap.size 111 6 (.slice A n c) n (cellsE (allT T))/\Fr w.heap.size [] w w'
theorem r7all_any (gu:Nat) (T:Pk->CV) (w:World) (h:RT w gu T):Calls Tryz.prog 17 #[.pointer (some ⟨gu,0,none⟩)] w (R7AOut T w):=by
 obtain ⟨OA,hOA⟩:=nm (outA T);have HOA:=zh hOA;have HLEN:=zh (fun i=>(by rw [hOA];exact outA_len T i:(OA i).length<=512));have HT:=zh h;have hgu:=h.lt;have HALL:=zh (show OA 512=allT T by rw [hOA];exact outA_all T);obtain ⟨AT,hAT⟩:=nm (allT T);unfold R7AOut;rw [<- hAT] at HALL ⊢;have FE:=zh ((Fr.refl w.heap.size [] w).alloc (Nat.le_refl _) (.cells #[] 111));have HO0:=zh (eowns_empty w);have HZ0:=zh (show OA 0=[] by rw [hOA];rfl);clear h hOA hAT;go_enter Tryz.func17,Tryz.ntmps17;go_upto_region 2 with fail;generalize w.alloc (.cells #[] 111)=w1 at *;go_wp2_with fail;go_loopg [3,4,5] 8 (fun g s3 s4 s5 wr=>∃ (nd m c:Nat) (A:Option Addr),nd<=8/\g=8 - nd/\s3=.slice A m c/\s4=.int .i64 nd/\(s5=undef \/ ∃ a:Int,s5=.int .i64 a)/\Hid (m=(OA (nd * 64)).length)/\Hid (wr.ownsRow w.heap.size 111 6 (.slice A m c) m (cellsE (OA (nd * 64))))/\Hid (Fr w.heap.size [] w wr))
 case atStart=>exact ⟨0,0,0,_,by omega,rfl,rfl,rfl,.inl rfl,zh (by rw [Nat.zero_mul,HZ0.out];rfl),(by rw [Nat.zero_mul,HZ0.out];exact HO0),FE⟩
 case round =>
  clear HO0 FE;obtain ⟨nd,m,c,A,hnd,rfl,rfl,rfl,h5,HM,HO,FR⟩:=hrel
  by_cases hn8:nd < 8
  case pos =>
   have n0:(0:Int)<=(nd:Int):=(by omega);have n1:(nd:Int) < 8:=(by omega);go_upto_region 6 with fail;go_loopg [3,5] 64 (fun g s3 s5 wq=>∃ (k m c:Nat) (A:Option Addr),k<=64/\g=64 - k/\s3=.slice A m c/\s5=.int .i64 k/\Hid (m=(OA (nd * 64+k)).length)/\Hid (wq.ownsRow w.heap.size 111 6 (.slice A m c) m (cellsE (OA (nd * 64+k))))/\Hid (Fr w.heap.size [] w wq))
   case atStart=>exact ⟨0,m,c,A,by omega,rfl,rfl,rfl,HM,HO,FR⟩
   case round =>
    clear HM HO FR;obtain ⟨k,m,c,A,hk,rfl,rfl,rfl,HM,HO,FR⟩:=hrel
    by_cases hk64:k < 64
    case pos =>
     have k0:(0:Int)<=(k:Int):=(by omega);have k1:(k:Int) < 64:=(by omega);obtain ⟨t0,t1,t2,t3⟩:=(HT.out.fr FR.out hgu (by simp)).get hn8 hk64;have hnq:=cv_neqz (T ((nd:Int),(k:Int)));have hm5:m<=512:=(by rw [HM.out];exact HLEN.out _);have hszr:=FR.out.size
     by_cases hz:T ((nd:Int),(k:Int))=c0
     case pos =>
      have e:=outA_miss T hn8 hk64 hz;rw [<- HOA.out] at e;have HO2:=HO;have HM2:=HM;rw [<- e] at HO2 HM2;rw [show decide (T ((nd:Int),(k:Int)) ≠ c0)=false by simp [hz]] at hnq;clear HM HO hz e;generalize T ((nd:Int),(k:Int))=cv at *;go_wp2_with fail;go_roundg (64 - (k+1))
      case measure=>omega
      case rel=>exact ⟨k+1,m,c,A,by omega,rfl,rfl,by go_num,HM2,HO2,FR⟩
     case neg =>
      have e:=outA_hit T hn8 hk64 hz;rw [<- HOA.out] at e;have HE:=zh e;rw [show decide (T ((nd:Int),(k:Int)) ≠ c0)=true by simp [hz]] at hnq;clear hz e;generalize T ((nd:Int),(k:Int))=cv at *;have hown:=HO.out;go_wp2_with (at_builtin;refine wpList_app_lit _ rfl (.tmp 24) (.tmp 35) entTy rfl w.heap.size (.slice A m c) m _ rfl hown 1 1 _ rfl rfl (by simp [Value.oneCell']) (by omega) (by omega) hszr ?_;intro A3 c3 w3 hown3 hg3 hat3)
      have HO3 := zh (show w3.ownsRow w.heap.size 111 6 (.slice A3 (m + 1) c3) (m + 1) (cellsE (OA (nd * 64 + k + 1))) from by
       rw [HE.out];have e:cellsE (OA (nd * 64+k) ++ [entF ((nd:Int),(k:Int)) cv])=cellsE (OA (nd * 64+k)) ++ [.int .i64 nd,.int .i64 k,.int .i64 cv.1,.int .i64 cv.2.1,.int .i64 cv.2.2.1,.int .i64 cv.2.2.2]:=(by simp [cellsE,entF_C]);rw [e]
       exact hown3)
      have HM3:=zh (show m+1=(OA (nd * 64+k+1)).length by rw [HE.out,List.length_append,<- HM.out];rfl);have F3:=zh (FR.out.trans (Fr.of_app hg3 hown hszr));clear hown3 hg3 hat3 hown t0 t1 t2 t3;go_roundg (64 - (k+1))
      case measure=>omega
      case rel=>exact ⟨k+1,m+1,c3,A3,by omega,rfl,rfl,by go_num,HM3,HO3,F3⟩
    case neg =>
     obtain rfl:k=64:=by omega
     have e:nd * 64+64=(nd+1) * 64:=(by omega);rw [e] at HM HO;clear e;go_wp2_with fail;go_roundg (8 - (nd+1))
     case measure=>omega
     case rel=>exact ⟨nd+1,m,c,A,by omega,rfl,rfl,by go_num,.inr ⟨_,rfl⟩,HM,HO,FR⟩
  case neg =>
   obtain rfl:nd=8:=by omega
   rw [show 8 * 64=512 from rfl,HALL.out] at HM HO;go_wp2_with fail;go_ret;exact ⟨A,m,c,HM.out,rfl,HO.out,FR.out⟩
end Go.Proofs.YtlejomlppjpchaaGreat
