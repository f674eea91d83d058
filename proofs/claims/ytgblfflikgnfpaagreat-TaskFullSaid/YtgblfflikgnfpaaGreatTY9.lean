/- Texts merged into one, for the number of files a claim may have: LkB, LkC, Gauss, ItemA, ItemB, ItemC, ItemD, LnA, LnB, SrcA, SrcB, SpA, SrcC, SrcD, SrcE, SrcF, SrcG. -/
import Derived.Test.YtgblfflikgnfpaaGreatTk
import Derived.Test.YtgblfflikgnfpaaGreatTY4
import Derived.Deep.DeepCutAuto
import Derived.Deep.RegionHeld3
import Derived.Deep.RegionLaw
import Derived.Test.YtgblfflikgnfpaaGreatRows
namespace Go.Proofs.YtgblfflikgnfpaaGreat
open Go.RowKit Go.Fb
set_option maxRecDepth 100000
set_option maxHeartbeats 16000000
set_option linter.unusedVariables false
section
variable {col:Nat->Nat} {c g:Nat} {w:World}
def AckOut (col:Nat->Nat) (c g:Nat) (S:OutS) (p:Pkt) (w:World) (e:Ending) (w':World):Prop :=
 ∃ col',e=.returned (.tuple #[])/\OutM col' c w' g (ackO p S)/\Cg (· = c) col w col' w'
theorem outAck_any {S:OutS} (h:OutM col c w g S) (p:Pkt) (h6:S.ws.length<=1000000) (hp:Cn p.ack) (h0:Cn S.last):Calls Tryz.prog 48 #[.pointer (some ⟨g,0,none⟩),.agg (pkC p)] w (AckOut col c g S p w):=by
 have HIS:=zh (fun w=>endIs_any S.ch S.inc p 1 w);have H0:=zh h;obtain ⟨A,cp,hb,hr⟩:=h;have hg:=hb.b.lt;have hne:=hb.b.ne_rowO hr.r (by decide);obtain ⟨_,_,e,hA,hle,hml,_⟩:=hr.r.shape;injection e with e1 _ e2
 subst e1 e2;unfold maxLen at hml;have BG:=zh (hb.b.alloc (.cells (pkC p) 89));have BP:=zh (Blk.new w 89 (pkC p));have HK:=zh hb.k;have HRW:=zh hr;have HN:=zh hne;have F0:=zh ((Fr.refl w.heap.size [] w).alloc (Nat.le_refl _) (.cells (pkC p) 89))
 have hAO:∀ W,Fr w.heap.size [] w W->(isP S.ch S.inc p 1=false \/ S.last < p.ack \/ p.ack - (S.last - (S.ws.length:Int))<=0)->AckOut col c g S p w (.returned (.tuple #[])) W:=by
  intro W hf hc;refine ⟨col,rfl,?_,(cg0 hf).mono (fun _ h=>h.elim)⟩
  have:ackO p S=S:=by
   unfold ackO
   split
   · rfl
   ·
    rename_i hn
    rw [show (p.ack - (S.last - (S.ws.length : Int))).toNat = 0 by
     rcases hc with h | h | h
     · exact absurd (.inl h) hn
     · exact absurd (.inr h) hn
     · omega,List.drop_zero]
  rw [this];exact H0.out.fr0 hf
 have HAO:=zh hAO;obtain ⟨q,hq⟩:=nm (isP S.ch S.inc p 1);rw [<- hq] at HIS HAO;have HQ:=zh hq;clear hq hAO hb hr hne H0;simp only [pkC] at BG BP F0 HIS ⊢;go_enter Tryz.func48,Tryz.ntmps48;go_upto_region 1 with fail;generalize hw1:w.alloc _=w1 at *;have HW1:=zh hw1;clear hw1;have INV:=zh ((Fr.refl w1.heap.size [] w1).drew);have SF:=zh (fun (W:World) (hf:Fr w1.heap.size [] w1 W)=>(⟨(BP.out.fr hf BP.out.lt (by simp)).cell 0,(BP.out.fr hf BP.out.lt (by simp)).cell 1,(BP.out.fr hf BP.out.lt (by simp)).cell 2,(BP.out.fr hf BP.out.lt (by simp)).cell 3,(BP.out.fr hf BP.out.lt (by simp)).cell 4,(BP.out.fr hf BP.out.lt (by simp)).cell 5,(BG.out.fr hf BG.out.lt (by simp)).cell 0,(BG.out.fr hf BG.out.lt (by simp)).cell 1,(BG.out.fr hf BG.out.lt (by simp)).cell 3⟩:W.cell? ⟨w.heap.size,0,none⟩=some (.int .i64 p.ch)/\W.cell? ⟨w.heap.size,1,none⟩=some (.int .i64 p.bk)/\W.cell? ⟨w.heap.size,2,none⟩=some (.int .i64 p.inc)/\W.cell? ⟨w.heap.size,3,none⟩=some (.int .i64 p.seq)/\W.cell? ⟨w.heap.size,4,none⟩=some (.int .i64 p.ack)/\W.cell? ⟨w.heap.size,5,none⟩=some (.string p.ld)/\W.cell? ⟨g,0,none⟩=some (.int .i64 S.ch)/\W.cell? ⟨g,1,none⟩=some (.int .i64 S.inc)/\W.cell? ⟨g,3,none⟩=some (.int .i64 S.last)))
 by_cases hqf:q=false
 ·
  subst hqf;refine wp_region_held_drew (S:=fun W=>W.cell? ⟨w.heap.size,0,none⟩=some (.int .i64 p.ch)/\W.cell? ⟨w.heap.size,1,none⟩=some (.int .i64 p.bk)/\W.cell? ⟨w.heap.size,2,none⟩=some (.int .i64 p.inc)/\W.cell? ⟨w.heap.size,3,none⟩=some (.int .i64 p.seq)/\W.cell? ⟨w.heap.size,4,none⟩=some (.int .i64 p.ack)/\W.cell? ⟨w.heap.size,5,none⟩=some (.string p.ld)/\W.cell? ⟨g,0,none⟩=some (.int .i64 S.ch)/\W.cell? ⟨g,1,none⟩=some (.int .i64 S.inc)/\W.cell? ⟨g,3,none⟩=some (.int .i64 S.last)) (by kernel_rfl) (SF.out _ INV.out) (fun hHeld => ?_);refine tk (i:=0) (oi:=⟨some 5,_,_,_,_,_⟩) (v:=?_) rfl ?_ hHeld ?_
  rotate_left
  · intro w hSw;(try dsimp only at hSw);go_simp;(try with_reducible rfl)
  simp only [Act.put,lPt];refine tk (i:=1) (oi:=⟨some 6,_,_,_,_,_⟩) (v:=?_) rfl ?_ hHeld ?_
  rotate_left
  · intro w hSw;(try dsimp only at hSw);go_simp;(try with_reducible rfl)
  simp only [Act.put,lPt];refine tk (i:=2) (oi:=⟨some 7,_,_,_,_,_⟩) (v:=?_) rfl ?_ hHeld ?_
  rotate_left
  · intro w hSw;(try dsimp only at hSw);go_simp;(try with_reducible rfl)
  simp only [Act.put,lPt];refine tk (i:=3) (oi:=⟨some 8,_,_,_,_,_⟩) (v:=?_) rfl ?_ hHeld ?_
  rotate_left
  · intro w hSw;(try dsimp only at hSw);go_simp;(try with_reducible rfl)
  simp only [Act.put,lPt];refine tk (i:=4) (oi:=⟨some 9,_,_,_,_,_⟩) (v:=?_) rfl ?_ hHeld ?_
  rotate_left
  · intro w hSw;(try dsimp only at hSw);go_simp;(try with_reducible rfl)
  simp only [Act.put,lPt];refine tk (i:=5) (oi:=⟨some 10,_,_,_,_,_⟩) (v:=?_) rfl ?_ hHeld ?_
  rotate_left
  · intro w hSw;(try dsimp only at hSw);go_simp;(try with_reducible rfl)
  simp only [Act.put,lPt];refine tk (i:=6) (oi:=⟨some 11,_,_,_,_,_⟩) (v:=?_) rfl ?_ hHeld ?_
  rotate_left
  · intro w hSw;(try dsimp only at hSw);go_simp;(try with_reducible rfl)
  simp only [Act.put,lPt];refine tk (i:=7) (oi:=⟨some 12,_,_,_,_,_⟩) (v:=?_) rfl ?_ hHeld ?_
  rotate_left
  · intro w hSw;(try dsimp only at hSw);go_simp;(try with_reducible rfl)
  simp only [Act.put,lPt];refine wpAnyH_ready (rs:=[8]) (by kernel_rfl) (by simp) ?_;refine AllReadyH.cons (o:=⟨some 13,_,_,_,_,_⟩) rfl (fun K hK => ?_) AllReadyH.nil;rw [if_pos (by rfl)];go_simp;refine (HIS.out _).mono ?_;rintro e w' ⟨rfl,hf⟩;have INV:=zh (INV.out.trans (hf.mono INV.out.size (by simp)));clear hf;refine hK.out _ _ (SF.out _ INV.out) (fun hHeld => ?_);clear hK K
  try simp only [Act.put,lPt]
  refine tk (i:=9) (oi:=⟨some 14,_,_,_,_,_⟩) (v:=?_) rfl ?_ hHeld ?_
  rotate_left
  · intro w hSw;(try dsimp only at hSw);go_simp;(try with_reducible rfl)
  simp only [Act.put,lPt];refine tk (i:=10) (oi:=⟨some 15,_,_,_,_,_⟩) (v:=?_) rfl ?_ hHeld ?_
  rotate_left
  · intro w hSw;(try dsimp only at hSw);go_simp;(try with_reducible rfl)
  simp only [Act.put,lPt];refine tk (i:=11) (oi:=⟨some 16,_,_,_,_,_⟩) (v:=?_) rfl ?_ hHeld ?_
  rotate_left
  · intro w hSw;(try dsimp only at hSw);go_simp;(try with_reducible rfl)
  simp only [Act.put,lPt];refine wpAnyH_take (i:=12) (oi:=⟨some 17,_,_,_,_,_⟩) (v:=undef) rfl (by kernel_rfl) (by kernel_rfl) (by kernel_rfl) (fun _ _ _ h=>h) (Or.inr ⟨by rfl,rfl⟩) hHeld ?_;simp only [Act.put,lPt];refine wpAnyH_take (i:=13) (oi:=⟨some 18,_,_,_,_,_⟩) (v:=undef) rfl (by kernel_rfl) (by kernel_rfl) (by kernel_rfl) (fun _ _ _ h=>h) (Or.inr ⟨by rfl,rfl⟩) hHeld ?_;simp only [Act.put,lPt];refine wpAnyH_take (i:=14) (oi:=⟨some 19,_,_,_,_,_⟩) (v:=undef) rfl (by kernel_rfl) (by kernel_rfl) (by kernel_rfl) (fun _ _ _ h=>h) (Or.inr ⟨by rfl,rfl⟩) hHeld ?_;simp only [Act.put,lPt];refine wpAnyH_take (i:=15) (oi:=⟨some 20,_,_,_,_,_⟩) (v:=undef) rfl (by kernel_rfl) (by kernel_rfl) (by kernel_rfl) (fun _ _ _ h=>h) (Or.inr ⟨by rfl,rfl⟩) hHeld ?_;simp only [Act.put,lPt];refine wpAnyH_take (i:=16) (oi:=⟨some 21,_,_,_,_,_⟩) (v:=undef) rfl (by kernel_rfl) (by kernel_rfl) (by kernel_rfl) (fun _ _ _ h=>h) (Or.inr ⟨by rfl,rfl⟩) hHeld ?_;simp only [Act.put,lPt];refine wpAnyH_take (i:=17) (oi:=⟨some 22,_,_,_,_,_⟩) (v:=undef) rfl (by kernel_rfl) (by kernel_rfl) (by kernel_rfl) (fun _ _ _ h=>h) (Or.inr ⟨by rfl,rfl⟩) hHeld ?_;simp only [Act.put,lPt];refine wpAnyH_take (i:=18) (oi:=⟨some 23,_,_,_,_,_⟩) (v:=undef) rfl (by kernel_rfl) (by kernel_rfl) (by kernel_rfl) (fun _ _ _ h=>h) (Or.inr ⟨by rfl,rfl⟩) hHeld ?_;simp only [Act.put,lPt];refine tk (i:=19) (oi:=⟨some 24,_,_,_,_,_⟩) (v:=?_) rfl ?_ hHeld ?_
  rotate_left
  · intro w hSw;(try dsimp only at hSw);go_simp;(try with_reducible rfl)
  simp only [Act.put,lPt];refine wpAnyH_done (by kernel_rfl) ?_ _;go_wp2_with fail;exact bodyPost_ret (results_none rfl _ _ _) rfl (HAO.out _ (F0.out.nx INV.out) (by simp))
 obtain rfl:q=true:=by simpa using hqf
 by_cases hl:S.last < p.ack
 ·
  have hlt:decide (S.last < p.ack)=true:=by simpa using hl
  refine wp_region_held_drew (S:=fun W=>W.cell? ⟨w.heap.size,0,none⟩=some (.int .i64 p.ch)/\W.cell? ⟨w.heap.size,1,none⟩=some (.int .i64 p.bk)/\W.cell? ⟨w.heap.size,2,none⟩=some (.int .i64 p.inc)/\W.cell? ⟨w.heap.size,3,none⟩=some (.int .i64 p.seq)/\W.cell? ⟨w.heap.size,4,none⟩=some (.int .i64 p.ack)/\W.cell? ⟨w.heap.size,5,none⟩=some (.string p.ld)/\W.cell? ⟨g,0,none⟩=some (.int .i64 S.ch)/\W.cell? ⟨g,1,none⟩=some (.int .i64 S.inc)/\W.cell? ⟨g,3,none⟩=some (.int .i64 S.last)) (by kernel_rfl) (SF.out _ INV.out) (fun hHeld => ?_);refine tk (i:=0) (oi:=⟨some 5,_,_,_,_,_⟩) (v:=?_) rfl ?_ hHeld ?_
  rotate_left
  · intro w hSw;(try dsimp only at hSw);go_simp;(try with_reducible rfl)
  simp only [Act.put,lPt];refine tk (i:=1) (oi:=⟨some 6,_,_,_,_,_⟩) (v:=?_) rfl ?_ hHeld ?_
  rotate_left
  · intro w hSw;(try dsimp only at hSw);go_simp;(try with_reducible rfl)
  simp only [Act.put,lPt];refine tk (i:=2) (oi:=⟨some 7,_,_,_,_,_⟩) (v:=?_) rfl ?_ hHeld ?_
  rotate_left
  · intro w hSw;(try dsimp only at hSw);go_simp;(try with_reducible rfl)
  simp only [Act.put,lPt];refine tk (i:=3) (oi:=⟨some 8,_,_,_,_,_⟩) (v:=?_) rfl ?_ hHeld ?_
  rotate_left
  · intro w hSw;(try dsimp only at hSw);go_simp;(try with_reducible rfl)
  simp only [Act.put,lPt];refine tk (i:=4) (oi:=⟨some 9,_,_,_,_,_⟩) (v:=?_) rfl ?_ hHeld ?_
  rotate_left
  · intro w hSw;(try dsimp only at hSw);go_simp;(try with_reducible rfl)
  simp only [Act.put,lPt];refine tk (i:=5) (oi:=⟨some 10,_,_,_,_,_⟩) (v:=?_) rfl ?_ hHeld ?_
  rotate_left
  · intro w hSw;(try dsimp only at hSw);go_simp;(try with_reducible rfl)
  simp only [Act.put,lPt];refine tk (i:=6) (oi:=⟨some 11,_,_,_,_,_⟩) (v:=?_) rfl ?_ hHeld ?_
  rotate_left
  · intro w hSw;(try dsimp only at hSw);go_simp;(try with_reducible rfl)
  simp only [Act.put,lPt];refine tk (i:=7) (oi:=⟨some 12,_,_,_,_,_⟩) (v:=?_) rfl ?_ hHeld ?_
  rotate_left
  · intro w hSw;(try dsimp only at hSw);go_simp;(try with_reducible rfl)
  simp only [Act.put,lPt];refine wpAnyH_ready (rs:=[8]) (by kernel_rfl) (by simp) ?_;refine AllReadyH.cons (o:=⟨some 13,_,_,_,_,_⟩) rfl (fun K hK => ?_) AllReadyH.nil;rw [if_pos (by rfl)];go_simp;refine (HIS.out _).mono ?_;rintro e w' ⟨rfl,hf⟩;have INV:=zh (INV.out.trans (hf.mono INV.out.size (by simp)));clear hf;refine hK.out _ _ (SF.out _ INV.out) (fun hHeld => ?_);clear hK K
  try simp only [Act.put,lPt]
  refine tk (i:=9) (oi:=⟨some 14,_,_,_,_,_⟩) (v:=?_) rfl ?_ hHeld ?_
  rotate_left
  · intro w hSw;(try dsimp only at hSw);go_simp;(try with_reducible rfl)
  simp only [Act.put,lPt];refine tk (i:=10) (oi:=⟨some 15,_,_,_,_,_⟩) (v:=?_) rfl ?_ hHeld ?_
  rotate_left
  · intro w hSw;(try dsimp only at hSw);go_simp;(try with_reducible rfl)
  simp only [Act.put,lPt];refine tk (i:=11) (oi:=⟨some 16,_,_,_,_,_⟩) (v:=?_) rfl ?_ hHeld ?_
  rotate_left
  · intro w hSw;(try dsimp only at hSw);go_simp;(try with_reducible rfl)
  simp only [Act.put,lPt];refine tk (i:=12) (oi:=⟨some 17,_,_,_,_,_⟩) (v:=?_) rfl ?_ hHeld ?_
  rotate_left
  · intro w hSw;(try dsimp only at hSw);go_simp;(try with_reducible rfl)
  simp only [Act.put,lPt];refine tk (i:=13) (oi:=⟨some 18,_,_,_,_,_⟩) (v:=?_) rfl ?_ hHeld ?_
  rotate_left
  · intro w hSw;(try dsimp only at hSw);go_simp;(try with_reducible rfl)
  simp only [Act.put,lPt];refine tk (i:=14) (oi:=⟨some 19,_,_,_,_,_⟩) (v:=?_) rfl ?_ hHeld ?_
  rotate_left
  · intro w hSw;(try dsimp only at hSw);go_simp;(try with_reducible rfl)
  simp only [Act.put,lPt];refine tk (i:=15) (oi:=⟨some 20,_,_,_,_,_⟩) (v:=?_) rfl ?_ hHeld ?_
  rotate_left
  · intro w hSw;(try dsimp only at hSw);go_simp;(try with_reducible rfl)
  simp only [Act.put,lPt];refine tk (i:=16) (oi:=⟨some 21,_,_,_,_,_⟩) (v:=?_) rfl ?_ hHeld ?_
  rotate_left
  · intro w hSw;(try dsimp only at hSw);go_simp;(try with_reducible rfl)
  simp only [Act.put,lPt];refine tk (i:=17) (oi:=⟨some 22,_,_,_,_,_⟩) (v:=?_) rfl ?_ hHeld ?_
  rotate_left
  · intro w hSw;(try dsimp only at hSw);go_simp;(try with_reducible rfl)
  simp only [Act.put,lPt];refine tk (i:=18) (oi:=⟨some 23,_,_,_,_,_⟩) (v:=?_) rfl ?_ hHeld ?_
  rotate_left
  · intro w hSw;(try dsimp only at hSw);go_simp;(try with_reducible rfl)
  simp only [Act.put,lPt];refine tk (i:=19) (oi:=⟨some 24,_,_,_,_,_⟩) (v:=?_) rfl ?_ hHeld ?_
  rotate_left
  · intro w hSw;(try dsimp only at hSw);go_simp;(try with_reducible rfl)
  simp only [Act.put,lPt];refine wpAnyH_done (by kernel_rfl) ?_ _;go_wp2_with fail;exact bodyPost_ret (results_none rfl _ _ _) rfl (HAO.out _ (F0.out.nx INV.out) (.inr (.inl hl)))
 have hl2:p.ack<=S.last:=(by omega);have hl3:decide (S.last < p.ack)=false:=(by simpa using hl2);obtain ⟨hpa,hpb⟩:=hp;obtain ⟨hsa,hsb⟩:=h0;generalize hn:S.ws.length=n at *;have HNN:=zh hn.symm;clear hn;have hw1:IntKind.i64.wrap (S.last - (n:Int))=S.last - (n:Int):=(by rw [IntKind.wrap_i64];omega);refine wp_region_held_drew (S:=fun W=>W.cell? ⟨w.heap.size,0,none⟩=some (.int .i64 p.ch)/\W.cell? ⟨w.heap.size,1,none⟩=some (.int .i64 p.bk)/\W.cell? ⟨w.heap.size,2,none⟩=some (.int .i64 p.inc)/\W.cell? ⟨w.heap.size,3,none⟩=some (.int .i64 p.seq)/\W.cell? ⟨w.heap.size,4,none⟩=some (.int .i64 p.ack)/\W.cell? ⟨w.heap.size,5,none⟩=some (.string p.ld)/\W.cell? ⟨g,0,none⟩=some (.int .i64 S.ch)/\W.cell? ⟨g,1,none⟩=some (.int .i64 S.inc)/\W.cell? ⟨g,3,none⟩=some (.int .i64 S.last)) (by kernel_rfl) (SF.out _ INV.out) (fun hHeld => ?_);refine tk (i:=0) (oi:=⟨some 5,_,_,_,_,_⟩) (v:=?_) rfl ?_ hHeld ?_
 rotate_left
 · intro w hSw;(try dsimp only at hSw);go_simp;(try with_reducible rfl)
 simp only [Act.put,lPt];refine tk (i:=1) (oi:=⟨some 6,_,_,_,_,_⟩) (v:=?_) rfl ?_ hHeld ?_
 rotate_left
 · intro w hSw;(try dsimp only at hSw);go_simp;(try with_reducible rfl)
 simp only [Act.put,lPt];refine tk (i:=2) (oi:=⟨some 7,_,_,_,_,_⟩) (v:=?_) rfl ?_ hHeld ?_
 rotate_left
 · intro w hSw;(try dsimp only at hSw);go_simp;(try with_reducible rfl)
 simp only [Act.put,lPt];refine tk (i:=3) (oi:=⟨some 8,_,_,_,_,_⟩) (v:=?_) rfl ?_ hHeld ?_
 rotate_left
 · intro w hSw;(try dsimp only at hSw);go_simp;(try with_reducible rfl)
 simp only [Act.put,lPt];refine tk (i:=4) (oi:=⟨some 9,_,_,_,_,_⟩) (v:=?_) rfl ?_ hHeld ?_
 rotate_left
 · intro w hSw;(try dsimp only at hSw);go_simp;(try with_reducible rfl)
 simp only [Act.put,lPt];refine tk (i:=5) (oi:=⟨some 10,_,_,_,_,_⟩) (v:=?_) rfl ?_ hHeld ?_
 rotate_left
 · intro w hSw;(try dsimp only at hSw);go_simp;(try with_reducible rfl)
 simp only [Act.put,lPt];refine tk (i:=6) (oi:=⟨some 11,_,_,_,_,_⟩) (v:=?_) rfl ?_ hHeld ?_
 rotate_left
 · intro w hSw;(try dsimp only at hSw);go_simp;(try with_reducible rfl)
 simp only [Act.put,lPt];refine tk (i:=7) (oi:=⟨some 12,_,_,_,_,_⟩) (v:=?_) rfl ?_ hHeld ?_
 rotate_left
 · intro w hSw;(try dsimp only at hSw);go_simp;(try with_reducible rfl)
 simp only [Act.put,lPt];refine wpAnyH_ready (rs:=[8]) (by kernel_rfl) (by simp) ?_;refine AllReadyH.cons (o:=⟨some 13,_,_,_,_,_⟩) rfl (fun K hK => ?_) AllReadyH.nil;rw [if_pos (by rfl)];go_simp;refine (HIS.out _).mono ?_;rintro e w' ⟨rfl,hf⟩;have INV:=zh (INV.out.trans (hf.mono INV.out.size (by simp)));clear hf;refine hK.out _ _ (SF.out _ INV.out) (fun hHeld => ?_);clear hK K
 try simp only [Act.put,lPt]
 refine tk (i:=9) (oi:=⟨some 14,_,_,_,_,_⟩) (v:=?_) rfl ?_ hHeld ?_
 rotate_left
 · intro w hSw;(try dsimp only at hSw);go_simp;(try with_reducible rfl)
 simp only [Act.put,lPt];refine tk (i:=10) (oi:=⟨some 15,_,_,_,_,_⟩) (v:=?_) rfl ?_ hHeld ?_
 rotate_left
 · intro w hSw;(try dsimp only at hSw);go_simp;(try with_reducible rfl)
 simp only [Act.put,lPt];refine tk (i:=11) (oi:=⟨some 16,_,_,_,_,_⟩) (v:=?_) rfl ?_ hHeld ?_
 rotate_left
 · intro w hSw;(try dsimp only at hSw);go_simp;(try with_reducible rfl)
 simp only [Act.put,lPt];refine tk (i:=12) (oi:=⟨some 17,_,_,_,_,_⟩) (v:=?_) rfl ?_ hHeld ?_
 rotate_left
 · intro w hSw;(try dsimp only at hSw);go_simp;(try with_reducible rfl)
 simp only [Act.put,lPt];refine tk (i:=13) (oi:=⟨some 18,_,_,_,_,_⟩) (v:=?_) rfl ?_ hHeld ?_
 rotate_left
 · intro w hSw;(try dsimp only at hSw);go_simp;(try with_reducible rfl)
 simp only [Act.put,lPt];refine tk (i:=14) (oi:=⟨some 19,_,_,_,_,_⟩) (v:=?_) rfl ?_ hHeld ?_
 rotate_left
 · intro w hSw;(try dsimp only at hSw);go_simp;(try with_reducible rfl)
 simp only [Act.put,lPt];refine tk (i:=15) (oi:=⟨some 20,_,_,_,_,_⟩) (v:=?_) rfl ?_ hHeld ?_
 rotate_left
 · intro w hSw;(try dsimp only at hSw);go_simp;(try with_reducible rfl)
 simp only [Act.put,lPt];refine tk (i:=16) (oi:=⟨some 21,_,_,_,_,_⟩) (v:=?_) rfl ?_ hHeld ?_
 rotate_left
 · intro w hSw;(try dsimp only at hSw);go_simp;(try with_reducible rfl)
 simp only [Act.put,lPt];refine tk (i:=17) (oi:=⟨some 22,_,_,_,_,_⟩) (v:=?_) rfl ?_ hHeld ?_
 rotate_left
 · intro w hSw;(try dsimp only at hSw);go_simp;(try with_reducible rfl)
 simp only [Act.put,lPt];refine tk (i:=18) (oi:=⟨some 23,_,_,_,_,_⟩) (v:=?_) rfl ?_ hHeld ?_
 rotate_left
 · intro w hSw;(try dsimp only at hSw);go_simp;(try with_reducible rfl)
 simp only [Act.put,lPt];refine tk (i:=19) (oi:=⟨some 24,_,_,_,_,_⟩) (v:=?_) rfl ?_ hHeld ?_
 rotate_left
 · intro w hSw;(try dsimp only at hSw);go_simp;(try with_reducible rfl)
 simp only [Act.put,lPt];refine wpAnyH_done (by kernel_rfl) ?_ _;go_upto_region 2 with fail;have F1:=zh (F0.out.nx INV.out);have k4:=(BP.out.fr INV.out BP.out.lt (by simp)).cell 4;have BW:=BG.out.fr INV.out BG.out.lt (by simp);have c2:=BW.cell 2;have c3:=BW.cell 3;have f2:=BW.frozen 2;simp at k4 c2 c3;have HBW:=zh BW;have hw2:IntKind.i64.wrap (p.ack - (S.last - (n:Int)))=p.ack - (S.last - (n:Int)):=(by rw [IntKind.wrap_i64];omega);clear BW SF INV BP BG F0 HW1 hqf hl;go_region
 by_cases hd:p.ack - (S.last - (n:Int))<=0
 ·
  have hd2:decide (0 < p.ack - (S.last - (n:Int)))=false:=by rw [decide_eq_false_iff_not];omega
  go_wp2_with fail;exact bodyPost_end (results_none rfl _ _ _) rfl (HAO.out _ F1.out.drew (.inr (.inr hd)))
 have hd2:decide (0 < p.ack - (S.last - (n:Int)))=true:=(by rw [decide_eq_true_iff];omega);obtain ⟨k,hk⟩:∃ k:Nat,(k:Int)=p.ack - (S.last - (n:Int)):=⟨(p.ack - (S.last - (n:Int))).toNat,by omega⟩;have hk0:0 < k:=(by omega);have hkn:k<=n:=(by omega);have hkni:(k:Int)<=(n:Int):=(by omega);have hcni:(n:Int)<=(cp:Int):=(by omega)
 have hAK:ackO p S={ S with ws:=S.ws.drop k }:=by
  unfold ackO;rw [if_neg (by rw [<- HQ.out];simp;omega),<- HNN.out,show (p.ack - (S.last - (n:Int))).toNat=k by omega]
 have HFIN:∀ W,W=(w'.setCell ⟨g,2,none⟩ (.slice (if cp=k then A else A.map (·.add k)) (n - k) (cp - k))).drew->AckOut col c g S p w (.returned (.tuple #[])) W:=by
  rintro W rfl;have hr1:=(HRW.out.cg (cg0 F1.out) (fun h=>h)).from_ (k:=k) hkn;rw [Nat.mul_one,<- List.map_drop] at hr1;have hr2:=(hr1.far (p:=⟨g,2,none⟩) (by rw [ownBlock_from];cases A <;> exact HN.out) (.slice (if cp=k then A else A.map (·.add k)) (n - k) (cp - k))).drew;refine ⟨col,rfl,?_,(((cg0 F1.out).mono (fun _ h=>h.elim)).set (p:=⟨g,2,none⟩) HK.out _).drew⟩;rw [hAK];have hl:(S.ws.drop k).length=n - k:=(by rw [List.length_drop,<- HNN.out]);refine ⟨if cp=k then A else A.map (·.add k),cp - k,⟨?_,HK.out⟩,?_⟩
  · rw [hl];have:=(HBW.out.set_ 2 (.slice (if cp=k then A else A.map (·.add k)) (n - k) (cp - k))).drew;simpa using this
  · rw [hl];exact hr2
 have HFIN:=zh HFIN;clear hAK;rw [<- hk] at hd2 ⊢;clear hk hw2 hd
 by_cases hcf:cp=k
 · have HF2:=zh (HFIN.out (w'.setCell ⟨g,2,none⟩ (.slice A (n - k) 0)).drew (by rw [if_pos hcf,show cp - k=0 by omega]));have hci:(cp:Int)=(k:Int):=(by omega);clear HFIN;go_wp2_with fail;exact bodyPost_end (results_none rfl _ _ _) rfl HF2.out
 · have HF2:=zh (HFIN.out _ (by rw [if_neg hcf]));have hci:¬ (cp:Int)=(k:Int):=(by omega);clear HFIN;go_wp2_with fail;exact bodyPost_end (results_none rfl _ _ _) rfl HF2.out
theorem crd_new {w5 w7:World} {n:Nat} {xs:List Value} (h:Reads w5 (w7.heap.size+1) 6 (some ⟨w7.heap.size,0,none⟩) n xs) (hf:Fr w7.heap.size [] w7 w5):CRd (paint col w7.heap.size c) c w5 6 (some ⟨w7.heap.size,0,none⟩) n xs:=by
 refine ⟨⟨h.1,fun hn => ?_⟩,?_⟩
 ·
  obtain ⟨b,off,e,hb,hc⟩:=h.2 hn;injection e with e
  injection e with e1 e2
  subst e1 e2;refine ⟨_,_,rfl,?_,hc⟩;have hl:=h.1
  cases xs with
  | nil=>simp at hl;omega
  | cons x l=>exact World.block_lt_of_cell? w5 _ (hc 0 x rfl)
 ·
  rintro a ha _;injection ha with ha
  rw [<- ha];exact paint_ge (Nat.le_refl _)
def TakeOut (col:Nat->Nat) (c g:Nat) (S:InS) (p:Pkt) (w:World) (e:Ending) (w':World):Prop :=
 ∃ A cp col',e=.returned (.slice A (takeI p S).2.length cp)/\CRd col' c w' 6 A (takeI p S).2.length (pksC (takeI p S).2)/\InM col' c w' g (takeI p S).1/\Cg (· = c) col w col' w'
theorem take_any {S:InS} (h:InM col c w g S) (p:Pkt) (h6:S.ls.length<=6) (h0:Cn S.out):Calls Tryz.prog 71 #[.pointer (some ⟨g,0,none⟩),.agg (pkC p)] w (TakeOut col c g S p w):=by
 have HIS:=zh (fun w=>endIs_any S.ch S.inc p 0 w);have H0:=zh h;obtain ⟨A,cp,hb,hr⟩:=h;have hg:=hb.b.lt;have hne:=hb.b.ne_rowO hr.r (by decide);have BG:=zh (hb.b.alloc (.cells (pkC p) 89));have BP:=zh (Blk.new w 89 (pkC p));have HK:=zh hb.k;have HRW:=zh hr;have HN:=zh hne;have F0:=zh ((Fr.refl w.heap.size [] w).alloc (Nat.le_refl _) (.cells (pkC p) 89))
 -- nothing is told, nothing has turned
 have hno:∀ W,Fr w.heap.size [] w W->takeI p S=(S,[])->TakeOut col c g S p w (.returned (.slice none 0 0)) W:=by
  intro W hf he;refine ⟨none,0,col,by rw [he];rfl,by rw [he];exact CRd.none_ _ _ _,?_,(cg0 hf).mono (fun _ h=>h.elim)⟩;rw [he];exact H0.out.fr0 hf
 have HNO:=zh hno;obtain ⟨q,hq⟩:=nm (isP S.ch S.inc p 0);rw [<- hq] at HIS;have HQ:=zh hq;generalize hn:S.ls.length=n at *;have HNN:=zh hn.symm;clear hn;have hse:p.ld.toList.isEmpty=decide (p.ld.size=0):=emptyS;clear hq hno hb hr hne;simp only [pkC] at BG BP F0 HIS ⊢;go_enter Tryz.func71,Tryz.ntmps71;go_upto_region 1 with fail;generalize hw1:w.alloc _=w1 at *;clear hw1;have INV:=zh ((Fr.refl w1.heap.size [] w1).drew);have SF:=zh (fun (W:World) (hf:Fr w1.heap.size [] w1 W)=>(⟨(BP.out.fr hf BP.out.lt (by simp)).cell 0,(BP.out.fr hf BP.out.lt (by simp)).cell 1,(BP.out.fr hf BP.out.lt (by simp)).cell 2,(BP.out.fr hf BP.out.lt (by simp)).cell 3,(BP.out.fr hf BP.out.lt (by simp)).cell 4,(BP.out.fr hf BP.out.lt (by simp)).cell 5,(BG.out.fr hf BG.out.lt (by simp)).cell 0,(BG.out.fr hf BG.out.lt (by simp)).cell 1,(BG.out.fr hf BG.out.lt (by simp)).cell 2,(BG.out.fr hf BG.out.lt (by simp)).cell 3⟩:(fun W=>W.cell? ⟨w.heap.size,0,none⟩=some (.int .i64 p.ch)/\W.cell? ⟨w.heap.size,1,none⟩=some (.int .i64 p.bk)/\W.cell? ⟨w.heap.size,2,none⟩=some (.int .i64 p.inc)/\W.cell? ⟨w.heap.size,3,none⟩=some (.int .i64 p.seq)/\W.cell? ⟨w.heap.size,4,none⟩=some (.int .i64 p.ack)/\W.cell? ⟨w.heap.size,5,none⟩=some (.string p.ld)/\W.cell? ⟨g,0,none⟩=some (.int .i64 S.ch)/\W.cell? ⟨g,1,none⟩=some (.int .i64 S.inc)/\W.cell? ⟨g,2,none⟩=some (.slice A n cp)/\W.cell? ⟨g,3,none⟩=some (.int .i64 S.out)) W))
 by_cases hqf:q=false
 ·
  subst hqf;have HT:=zh (show takeI p S=(S,[]) by unfold takeI;rw [if_pos (.inl HQ.out.symm)]);refine wp_region_held_drew (S:=fun W=>W.cell? ⟨w.heap.size,0,none⟩=some (.int .i64 p.ch)/\W.cell? ⟨w.heap.size,1,none⟩=some (.int .i64 p.bk)/\W.cell? ⟨w.heap.size,2,none⟩=some (.int .i64 p.inc)/\W.cell? ⟨w.heap.size,3,none⟩=some (.int .i64 p.seq)/\W.cell? ⟨w.heap.size,4,none⟩=some (.int .i64 p.ack)/\W.cell? ⟨w.heap.size,5,none⟩=some (.string p.ld)/\W.cell? ⟨g,0,none⟩=some (.int .i64 S.ch)/\W.cell? ⟨g,1,none⟩=some (.int .i64 S.inc)/\W.cell? ⟨g,2,none⟩=some (.slice A n cp)/\W.cell? ⟨g,3,none⟩=some (.int .i64 S.out)) (by kernel_rfl) (SF.out _ INV.out) (fun hHeld => ?_);refine tk (i:=0) (oi:=⟨some 5,_,_,_,_,_⟩) (v:=?_) rfl ?_ hHeld ?_
  rotate_left
  · intro w hSw;(try dsimp only at hSw);go_simp;(try with_reducible rfl)
  simp only [Act.put,lPt];refine tk (i:=1) (oi:=⟨some 6,_,_,_,_,_⟩) (v:=?_) rfl ?_ hHeld ?_
  rotate_left
  · intro w hSw;(try dsimp only at hSw);go_simp;(try with_reducible rfl)
  simp only [Act.put,lPt];refine tk (i:=2) (oi:=⟨some 7,_,_,_,_,_⟩) (v:=?_) rfl ?_ hHeld ?_
  rotate_left
  · intro w hSw;(try dsimp only at hSw);go_simp;(try with_reducible rfl)
  simp only [Act.put,lPt];refine tk (i:=3) (oi:=⟨some 8,_,_,_,_,_⟩) (v:=?_) rfl ?_ hHeld ?_
  rotate_left
  · intro w hSw;(try dsimp only at hSw);go_simp;(try with_reducible rfl)
  simp only [Act.put,lPt];refine tk (i:=4) (oi:=⟨some 9,_,_,_,_,_⟩) (v:=?_) rfl ?_ hHeld ?_
  rotate_left
  · intro w hSw;(try dsimp only at hSw);go_simp;(try with_reducible rfl)
  simp only [Act.put,lPt];refine tk (i:=5) (oi:=⟨some 10,_,_,_,_,_⟩) (v:=?_) rfl ?_ hHeld ?_
  rotate_left
  · intro w hSw;(try dsimp only at hSw);go_simp;(try with_reducible rfl)
  simp only [Act.put,lPt];refine tk (i:=6) (oi:=⟨some 11,_,_,_,_,_⟩) (v:=?_) rfl ?_ hHeld ?_
  rotate_left
  · intro w hSw;(try dsimp only at hSw);go_simp;(try with_reducible rfl)
  simp only [Act.put,lPt];refine tk (i:=7) (oi:=⟨some 12,_,_,_,_,_⟩) (v:=?_) rfl ?_ hHeld ?_
  rotate_left
  · intro w hSw;(try dsimp only at hSw);go_simp;(try with_reducible rfl)
  simp only [Act.put,lPt];refine wpAnyH_ready (rs:=[8]) (by kernel_rfl) (by simp) ?_;refine AllReadyH.cons (o:=⟨some 13,_,_,_,_,_⟩) rfl (fun K hK => ?_) AllReadyH.nil;rw [if_pos (by rfl)];go_simp;refine (HIS.out _).mono ?_;rintro e w' ⟨rfl,hf⟩;have INV:=zh (INV.out.trans (hf.mono INV.out.size (by simp)));clear hf;refine hK.out _ _ (SF.out _ INV.out) (fun hHeld => ?_);clear hK K
  try simp only [Act.put,lPt]
  refine tk (i:=9) (oi:=⟨some 14,_,_,_,_,_⟩) (v:=?_) rfl ?_ hHeld ?_
  rotate_left
  · intro w hSw;(try dsimp only at hSw);go_simp;(try with_reducible rfl)
  simp only [Act.put,lPt];refine tk (i:=10) (oi:=⟨some 15,_,_,_,_,_⟩) (v:=?_) rfl ?_ hHeld ?_
  rotate_left
  · intro w hSw;(try dsimp only at hSw);go_simp;(try with_reducible rfl)
  simp only [Act.put,lPt];refine tk (i:=11) (oi:=⟨some 16,_,_,_,_,_⟩) (v:=?_) rfl ?_ hHeld ?_
  rotate_left
  · intro w hSw;(try dsimp only at hSw);go_simp;(try with_reducible rfl)
  simp only [Act.put,lPt];refine wpAnyH_take (i:=12) (oi:=⟨some 17,_,_,_,_,_⟩) (v:=undef) rfl (by kernel_rfl) (by kernel_rfl) (by kernel_rfl) (fun _ _ _ h=>h) (Or.inr ⟨by rfl,rfl⟩) hHeld ?_;simp only [Act.put,lPt];refine wpAnyH_take (i:=13) (oi:=⟨some 18,_,_,_,_,_⟩) (v:=undef) rfl (by kernel_rfl) (by kernel_rfl) (by kernel_rfl) (fun _ _ _ h=>h) (Or.inr ⟨by rfl,rfl⟩) hHeld ?_;simp only [Act.put,lPt];refine wpAnyH_take (i:=14) (oi:=⟨some 19,_,_,_,_,_⟩) (v:=undef) rfl (by kernel_rfl) (by kernel_rfl) (by kernel_rfl) (fun _ _ _ h=>h) (Or.inr ⟨by rfl,rfl⟩) hHeld ?_;simp only [Act.put,lPt];refine tk (i:=15) (oi:=⟨some 20,_,_,_,_,_⟩) (v:=?_) rfl ?_ hHeld ?_
  rotate_left
  · intro w hSw;(try dsimp only at hSw);go_simp;(try with_reducible rfl)
  simp only [Act.put,lPt];refine wpAnyH_done (by kernel_rfl) ?_ _;go_wp2_with fail;go_ret;exact HNO.out _ (F0.out.nx INV.out) HT.out
 obtain rfl:q=true:=by simpa using hqf
 by_cases hz:p.ld.size=0
 ·
  have HT:=zh (show takeI p S=(S,[]) by unfold takeI;rw [if_pos (.inr hz)]);have hse2:p.ld.toList.isEmpty=true:=(by rw [hse];simpa using hz);clear hse;refine wp_region_held_drew (S:=fun W=>W.cell? ⟨w.heap.size,0,none⟩=some (.int .i64 p.ch)/\W.cell? ⟨w.heap.size,1,none⟩=some (.int .i64 p.bk)/\W.cell? ⟨w.heap.size,2,none⟩=some (.int .i64 p.inc)/\W.cell? ⟨w.heap.size,3,none⟩=some (.int .i64 p.seq)/\W.cell? ⟨w.heap.size,4,none⟩=some (.int .i64 p.ack)/\W.cell? ⟨w.heap.size,5,none⟩=some (.string p.ld)/\W.cell? ⟨g,0,none⟩=some (.int .i64 S.ch)/\W.cell? ⟨g,1,none⟩=some (.int .i64 S.inc)/\W.cell? ⟨g,2,none⟩=some (.slice A n cp)/\W.cell? ⟨g,3,none⟩=some (.int .i64 S.out)) (by kernel_rfl) (SF.out _ INV.out) (fun hHeld => ?_);refine tk (i:=0) (oi:=⟨some 5,_,_,_,_,_⟩) (v:=?_) rfl ?_ hHeld ?_
  rotate_left
  · intro w hSw;(try dsimp only at hSw);go_simp;(try with_reducible rfl)
  simp only [Act.put,lPt];refine tk (i:=1) (oi:=⟨some 6,_,_,_,_,_⟩) (v:=?_) rfl ?_ hHeld ?_
  rotate_left
  · intro w hSw;(try dsimp only at hSw);go_simp;(try with_reducible rfl)
  simp only [Act.put,lPt];refine tk (i:=2) (oi:=⟨some 7,_,_,_,_,_⟩) (v:=?_) rfl ?_ hHeld ?_
  rotate_left
  · intro w hSw;(try dsimp only at hSw);go_simp;(try with_reducible rfl)
  simp only [Act.put,lPt];refine tk (i:=3) (oi:=⟨some 8,_,_,_,_,_⟩) (v:=?_) rfl ?_ hHeld ?_
  rotate_left
  · intro w hSw;(try dsimp only at hSw);go_simp;(try with_reducible rfl)
  simp only [Act.put,lPt];refine tk (i:=4) (oi:=⟨some 9,_,_,_,_,_⟩) (v:=?_) rfl ?_ hHeld ?_
  rotate_left
  · intro w hSw;(try dsimp only at hSw);go_simp;(try with_reducible rfl)
  simp only [Act.put,lPt];refine tk (i:=5) (oi:=⟨some 10,_,_,_,_,_⟩) (v:=?_) rfl ?_ hHeld ?_
  rotate_left
  · intro w hSw;(try dsimp only at hSw);go_simp;(try with_reducible rfl)
  simp only [Act.put,lPt];refine tk (i:=6) (oi:=⟨some 11,_,_,_,_,_⟩) (v:=?_) rfl ?_ hHeld ?_
  rotate_left
  · intro w hSw;(try dsimp only at hSw);go_simp;(try with_reducible rfl)
  simp only [Act.put,lPt];refine tk (i:=7) (oi:=⟨some 12,_,_,_,_,_⟩) (v:=?_) rfl ?_ hHeld ?_
  rotate_left
  · intro w hSw;(try dsimp only at hSw);go_simp;(try with_reducible rfl)
  simp only [Act.put,lPt];refine wpAnyH_ready (rs:=[8]) (by kernel_rfl) (by simp) ?_;refine AllReadyH.cons (o:=⟨some 13,_,_,_,_,_⟩) rfl (fun K hK => ?_) AllReadyH.nil;rw [if_pos (by rfl)];go_simp;refine (HIS.out _).mono ?_;rintro e w' ⟨rfl,hf⟩;have INV:=zh (INV.out.trans (hf.mono INV.out.size (by simp)));clear hf;refine hK.out _ _ (SF.out _ INV.out) (fun hHeld => ?_);clear hK K
  try simp only [Act.put,lPt]
  refine tk (i:=9) (oi:=⟨some 14,_,_,_,_,_⟩) (v:=?_) rfl ?_ hHeld ?_
  rotate_left
  · intro w hSw;(try dsimp only at hSw);go_simp;(try with_reducible rfl)
  simp only [Act.put,lPt];refine tk (i:=10) (oi:=⟨some 15,_,_,_,_,_⟩) (v:=?_) rfl ?_ hHeld ?_
  rotate_left
  · intro w hSw;(try dsimp only at hSw);go_simp;(try with_reducible rfl)
  simp only [Act.put,lPt];refine tk (i:=11) (oi:=⟨some 16,_,_,_,_,_⟩) (v:=?_) rfl ?_ hHeld ?_
  rotate_left
  · intro w hSw;(try dsimp only at hSw);go_simp;(try with_reducible rfl)
  simp only [Act.put,lPt];refine tk (i:=12) (oi:=⟨some 17,_,_,_,_,_⟩) (v:=?_) rfl ?_ hHeld ?_
  rotate_left
  · intro w hSw;(try dsimp only at hSw);go_simp;(try with_reducible rfl)
  simp only [Act.put,lPt];refine tk (i:=13) (oi:=⟨some 18,_,_,_,_,_⟩) (v:=?_) rfl ?_ hHeld ?_
  rotate_left
  · intro w hSw;(try dsimp only at hSw);go_simp;(try with_reducible rfl)
  simp only [Act.put,lPt];refine tk (i:=14) (oi:=⟨some 19,_,_,_,_,_⟩) (v:=?_) rfl ?_ hHeld ?_
  rotate_left
  · intro w hSw;(try dsimp only at hSw);go_simp;(try with_reducible rfl)
  simp only [Act.put,lPt];refine tk (i:=15) (oi:=⟨some 20,_,_,_,_,_⟩) (v:=?_) rfl ?_ hHeld ?_
  rotate_left
  · intro w hSw;(try dsimp only at hSw);go_simp;(try with_reducible rfl)
  simp only [Act.put,lPt];refine wpAnyH_done (by kernel_rfl) ?_ _;go_wp2_with fail;go_ret;exact HNO.out _ (F0.out.nx INV.out) HT.out
 have hse2:p.ld.toList.isEmpty=false:=(by rw [hse];simpa using hz);clear hse;have HZ:=zh (show ¬ (isP S.ch S.inc p 0=false \/ p.ld.size=0) by rw [<- HQ.out];simp [hz]);obtain ⟨hsa,hsb⟩:=h0;have hw1:IntKind.i64.wrap (S.out+(n:Int))=S.out+(n:Int):=(by rw [IntKind.wrap_i64];omega);have hw2:IntKind.i64.wrap (S.out+(n:Int)+1)=S.out+(n:Int)+1:=(by rw [IntKind.wrap_i64];omega);refine wp_region_held_drew (S:=fun W=>W.cell? ⟨w.heap.size,0,none⟩=some (.int .i64 p.ch)/\W.cell? ⟨w.heap.size,1,none⟩=some (.int .i64 p.bk)/\W.cell? ⟨w.heap.size,2,none⟩=some (.int .i64 p.inc)/\W.cell? ⟨w.heap.size,3,none⟩=some (.int .i64 p.seq)/\W.cell? ⟨w.heap.size,4,none⟩=some (.int .i64 p.ack)/\W.cell? ⟨w.heap.size,5,none⟩=some (.string p.ld)/\W.cell? ⟨g,0,none⟩=some (.int .i64 S.ch)/\W.cell? ⟨g,1,none⟩=some (.int .i64 S.inc)/\W.cell? ⟨g,2,none⟩=some (.slice A n cp)/\W.cell? ⟨g,3,none⟩=some (.int .i64 S.out)) (by kernel_rfl) (SF.out _ INV.out) (fun hHeld => ?_);refine tk (i:=0) (oi:=⟨some 5,_,_,_,_,_⟩) (v:=?_) rfl ?_ hHeld ?_
 rotate_left
 · intro w hSw;(try dsimp only at hSw);go_simp;(try with_reducible rfl)
 simp only [Act.put,lPt];refine tk (i:=1) (oi:=⟨some 6,_,_,_,_,_⟩) (v:=?_) rfl ?_ hHeld ?_
 rotate_left
 · intro w hSw;(try dsimp only at hSw);go_simp;(try with_reducible rfl)
 simp only [Act.put,lPt];refine tk (i:=2) (oi:=⟨some 7,_,_,_,_,_⟩) (v:=?_) rfl ?_ hHeld ?_
 rotate_left
 · intro w hSw;(try dsimp only at hSw);go_simp;(try with_reducible rfl)
 simp only [Act.put,lPt];refine tk (i:=3) (oi:=⟨some 8,_,_,_,_,_⟩) (v:=?_) rfl ?_ hHeld ?_
 rotate_left
 · intro w hSw;(try dsimp only at hSw);go_simp;(try with_reducible rfl)
 simp only [Act.put,lPt];refine tk (i:=4) (oi:=⟨some 9,_,_,_,_,_⟩) (v:=?_) rfl ?_ hHeld ?_
 rotate_left
 · intro w hSw;(try dsimp only at hSw);go_simp;(try with_reducible rfl)
 simp only [Act.put,lPt];refine tk (i:=5) (oi:=⟨some 10,_,_,_,_,_⟩) (v:=?_) rfl ?_ hHeld ?_
 rotate_left
 · intro w hSw;(try dsimp only at hSw);go_simp;(try with_reducible rfl)
 simp only [Act.put,lPt];refine tk (i:=6) (oi:=⟨some 11,_,_,_,_,_⟩) (v:=?_) rfl ?_ hHeld ?_
 rotate_left
 · intro w hSw;(try dsimp only at hSw);go_simp;(try with_reducible rfl)
 simp only [Act.put,lPt];refine tk (i:=7) (oi:=⟨some 12,_,_,_,_,_⟩) (v:=?_) rfl ?_ hHeld ?_
 rotate_left
 · intro w hSw;(try dsimp only at hSw);go_simp;(try with_reducible rfl)
 simp only [Act.put,lPt];refine wpAnyH_ready (rs:=[8]) (by kernel_rfl) (by simp) ?_;refine AllReadyH.cons (o:=⟨some 13,_,_,_,_,_⟩) rfl (fun K hK => ?_) AllReadyH.nil;rw [if_pos (by rfl)];go_simp;refine (HIS.out _).mono ?_;rintro e w' ⟨rfl,hf⟩;have INV:=zh (INV.out.trans (hf.mono INV.out.size (by simp)));clear hf;refine hK.out _ _ (SF.out _ INV.out) (fun hHeld => ?_);clear hK K
 try simp only [Act.put,lPt]
 refine tk (i:=9) (oi:=⟨some 14,_,_,_,_,_⟩) (v:=?_) rfl ?_ hHeld ?_
 rotate_left
 · intro w hSw;(try dsimp only at hSw);go_simp;(try with_reducible rfl)
 simp only [Act.put,lPt];refine tk (i:=10) (oi:=⟨some 15,_,_,_,_,_⟩) (v:=?_) rfl ?_ hHeld ?_
 rotate_left
 · intro w hSw;(try dsimp only at hSw);go_simp;(try with_reducible rfl)
 simp only [Act.put,lPt];refine tk (i:=11) (oi:=⟨some 16,_,_,_,_,_⟩) (v:=?_) rfl ?_ hHeld ?_
 rotate_left
 · intro w hSw;(try dsimp only at hSw);go_simp;(try with_reducible rfl)
 simp only [Act.put,lPt];refine tk (i:=12) (oi:=⟨some 17,_,_,_,_,_⟩) (v:=?_) rfl ?_ hHeld ?_
 rotate_left
 · intro w hSw;(try dsimp only at hSw);go_simp;(try with_reducible rfl)
 simp only [Act.put,lPt];refine tk (i:=13) (oi:=⟨some 18,_,_,_,_,_⟩) (v:=?_) rfl ?_ hHeld ?_
 rotate_left
 · intro w hSw;(try dsimp only at hSw);go_simp;(try with_reducible rfl)
 simp only [Act.put,lPt];refine tk (i:=14) (oi:=⟨some 19,_,_,_,_,_⟩) (v:=?_) rfl ?_ hHeld ?_
 rotate_left
 · intro w hSw;(try dsimp only at hSw);go_simp;(try with_reducible rfl)
 simp only [Act.put,lPt];refine tk (i:=15) (oi:=⟨some 20,_,_,_,_,_⟩) (v:=?_) rfl ?_ hHeld ?_
 rotate_left
 · intro w hSw;(try dsimp only at hSw);go_simp;(try with_reducible rfl)
 simp only [Act.put,lPt];refine wpAnyH_done (by kernel_rfl) ?_ _
 skip
 go_upto_region 3 with fail
 skip
 have SX:=SF.out _ INV.out;obtain ⟨k0,k1,k2,k3,k4,k5,c0,c1,c2,c3⟩:=SX;have F1:=zh (F0.out.nx INV.out);have HBW:=zh (BG.out.fr INV.out BG.out.lt (by simp));have HBP:=zh (BP.out.fr INV.out BP.out.lt (by simp));clear SF INV BP BG F0 hqf;go_region
 by_cases hsq:p.seq=S.out+(n:Int)+1
 rotate_left
 ·
  have hsq2:(p.seq == S.out+(n:Int)+1)=false:=by rw [beq_eq_false_iff_ne];exact hsq
  have HT:=zh (show takeI p S=(S,[ackP S]) by unfold takeI;rw [if_neg HZ.out,if_neg (by rw [<- HNN.out];exact hsq)]);have HM:=zh (H0.out.fr0 F1.out.drew);have HA:=zh (ack_any HM.out);clear hsq;go_wp2_with fail;refine HA.out.mono ?_;rintro e w5 ⟨rfl,hrd,f5⟩;have F5:=zh f5;have HRD:=zh hrd;clear f5 hrd HA;go_wp2_with fail;go_ret;refine ⟨some ⟨w'.drew.heap.size,0,none⟩,1,paint col w'.drew.heap.size c,by rw [HT.out];rfl,?_,?_,?_⟩
  · rw [HT.out];exact crd_new HRD.out F5.out
  · rw [HT.out];exact HM.out.cg ((cg0 F5.out).paint c) (fun h=>h)
  · exact (((cg0 F1.out).mono (fun _ h=>h.elim)).drew).trans (((cg0 F5.out).mono (fun _ h=>h.elim)).paint c)
 have hsq2:(p.seq == S.out+(n:Int)+1)=true:=(by rw [beq_iff_eq];exact hsq)
 by_cases h6b:n=6
 · have HT:=zh (show takeI p S=(S,[]) by unfold takeI;rw [if_neg HZ.out,if_pos (by rw [<- HNN.out];exact hsq),if_pos (by rw [<- HNN.out];omega)]);have hge:decide (6<=(n:Int))=true:=(by rw [decide_eq_true_iff];omega);have hge2:6<=n:=(by omega);clear hsq;go_wp2_with fail;go_ret;exact HNO.out _ F1.out.drew HT.out
 have HT:=zh (show takeI p S=({ S with ls:=S.ls ++ [p.ld] },[ackP S]) by unfold takeI;rw [if_neg HZ.out,if_pos (by rw [<- HNN.out];exact hsq),if_neg (by rw [<- HNN.out];omega)]);have hge:decide (6<=(n:Int))=false:=(by rw [decide_eq_false_iff_not];omega);have hge2:¬ 6<=n:=(by omega);clear hsq;go_upto_region 6 with fail;have HWD:=zh ((HRW.out.cg (cg0 F1.out) (fun h=>h)).drew);have CD:=zh (((cg0 F1.out).mono (fun _ h=>h.elim)).drew:Cg (· = c) col w col w'.drew);have BPD:=zh HBP.out.drew;have BGD:=zh HBW.out.drew;clear HBP HBW k0 k1 k2 k3 k4 k5 c0 c1 c2 c3 HNO F1;generalize w'.drew=wd at *;have BP:=zh BPD.out.drew;have BG:=zh BGD.out.drew;have CRW:=zh HWD.out.drew;have CC:=zh CD.out.drew;have c2:=BGD.out.cell 2;have hgd:=BGD.out.lt;simp at c2;clear BPD BGD HWD CD;refine wp_region_held_drew (S:=fun W=>W.cell? ⟨w.heap.size,5,none⟩=some (.string p.ld)) (by kernel_rfl) (BP.out.cell 5) (fun hHeld => ?_);refine tk (i:=0) (oi:=⟨some 41,_,_,_,_,_⟩) (v:=?_) rfl ?_ hHeld ?_
 rotate_left
 · intro w hSw;(try dsimp only at hSw);go_simp;(try with_reducible rfl)
 simp only [Act.put,lPt];refine tk (i:=1) (oi:=⟨some 42,_,_,_,_,_⟩) (v:=?_) rfl ?_ hHeld ?_
 rotate_left
 · intro w hSw;(try dsimp only at hSw);go_simp;(try with_reducible rfl)
 simp only [Act.put,lPt];refine tk (i:=2) (oi:=⟨some 43,_,_,_,_,_⟩) (v:=?_) rfl ?_ hHeld ?_
 rotate_left
 · intro w hSw;(try dsimp only at hSw);go_simp;(try with_reducible rfl)
 simp only [Act.put,lPt];refine tk (i:=3) (oi:=⟨some 44,_,_,_,_,_⟩) (v:=?_) rfl ?_ hHeld ?_
 rotate_left
 · intro w hSw;(try dsimp only at hSw);go_simp;(try with_reducible rfl)
 simp only [Act.put,lPt];refine tk (i:=5) (oi:=⟨some 46,_,_,_,_,_⟩) (v:=?_) rfl ?_ hHeld ?_
 rotate_left
 · intro w hSw;(try dsimp only at hSw);go_simp;(try with_reducible rfl)
 simp only [Act.put,lPt];refine tk (i:=6) (oi:=⟨some 47,_,_,_,_,_⟩) (v:=?_) rfl ?_ hHeld ?_
 rotate_left
 · intro w hSw;(try dsimp only at hSw);go_simp;(try with_reducible rfl)
 simp only [Act.put,lPt];refine wpAnyH_ready (rs:=[4,7]) (by kernel_rfl) (by simp) ?_;refine AllReadyH.cons (o:=⟨some 45,_,_,_,_,_⟩) rfl (fun K hK => ?_) (AllReadyH.cons (o:=⟨some 48,_,_,_,_,_⟩) rfl (fun K hK => ?_) AllReadyH.nil)
 ·
  skip
  rw [if_pos (by rfl)];go_simp;refine hK.out _ _ (BP.out.cell 5) (fun hHeld => ?_);clear hK K
  try simp only [Act.put,lPt]
  refine wpAnyH_ready (rs:=[7]) (by kernel_rfl) (by simp) ?_;refine AllReadyH.cons (o:=⟨some 48,_,_,_,_,_⟩) rfl (fun K hK => ?_) AllReadyH.nil;rw [if_pos (by rfl)];go_simp;have BL:=zh (Blk.new wd.drew 9 #[.string p.ld]);have BP:=zh (BP.out.alloc (.cells #[.string p.ld] 9));have BG:=zh (BG.out.alloc (.cells #[.string p.ld] 9));have CRW:=zh (CRW.out.alloc (.cells #[.string p.ld] 9));have CC:=zh (CC.out.new (.cells #[.string p.ld] 9));refine hK.out _ _ (BP.out.cell 5) (fun hHeld => ?_);clear hK K
  try simp only [Act.put,lPt]
  refine wpAnyH_ready (rs:=[8]) (by kernel_rfl) (by simp) ?_;refine AllReadyH.cons (o:=⟨some 49,_,_,_,_,_⟩) rfl (fun K hK => ?_) AllReadyH.nil;refine step_appC _ (by rfl) (.tmp 45) (.tmp 48) strTy (by rfl) _ n _ (by rfl) CRW.out (wd.drew.heap.size+1) (some ⟨wd.drew.heap.size,0,none⟩) 1 1 [.string p.ld] (by rfl) (Reads.of_blk (m:=1) (size:=1) BL.out rfl) (by simp [Value.oneCell']) (by omega) (by omega) ?_;intro A' c' w6 hrow hcg hgr;have BP:=zh (BP.out.grown hgr (BP.out.ne_rowO CRW.out.r (by decide)));have BG:=zh (BG.out.grown hgr (BG.out.ne_rowO CRW.out.r (by decide)));have CC:=zh (CC.out.trans hcg);generalize paint col _ c=col6 at *;have CRW:=zh hrow;clear hrow hcg hgr BL;refine hK.out _ _ (BP.out.cell 5) (fun hHeld => ?_);clear hK K
  try simp only [Act.put,lPt]
  refine tk (i:=9) (oi:=⟨some 50,_,_,_,_,_⟩) (v:=?_) rfl ?_ hHeld ?_
  rotate_left
  · intro w hSw;(try dsimp only at hSw);go_simp;(try with_reducible rfl)
  simp only [Act.put,lPt];refine tk (i:=10) (oi:=⟨some 51,_,_,_,_,_⟩) (v:=?_) rfl ?_ hHeld ?_
  rotate_left
  · intro w hSw;(try dsimp only at hSw);go_simp;(try with_reducible rfl)
  simp only [Act.put,lPt];refine wpAnyH_ready (rs:=[11]) (by kernel_rfl) (by simp) ?_;refine AllReadyH.cons (o:=⟨none,_,_,_,_,_⟩) rfl (fun K hK => ?_) AllReadyH.nil;rw [if_pos (by rfl)];have hf2:=BG.out.frozen 2;have hg2:=BG.out.lt;have hc2:=BG.out.cell 2;simp at hc2;go_simp;have hne:=BG.out.ne_rowO CRW.out.r (by decide);have hne2:=BG.out.ne_ BP.out (by decide);have BP:=zh (BP.out.far (p:=⟨g,2,none⟩) hne2.symm (.slice A' (n+1) c'));have BG:=zh (BG.out.set_ 2 (.slice A' (n+1) c'));have CRW:=zh (CRW.out.far (p:=⟨g,2,none⟩) hne (.slice A' (n+1) c'));have CC:=zh (CC.out.set (p:=⟨g,2,none⟩) ((CC.out.same g hg).trans HK.out) (.slice A' (n+1) c'));refine hK.out _ _ (BP.out.cell 5) (fun hHeld => ?_);clear hK K
  try simp only [Act.put]
  refine wpAnyH_done (by kernel_rfl) ?_ _;clear hf2 hg2 hc2 hne hne2 c2 hgd hHeld
  have HM:InM col6 c (w6.setCell ⟨g,2,none⟩ (.slice A' (n+1) c')) g ⟨S.ch,S.inc,S.ls ++ [p.ld],S.out⟩ :=
   ⟨A',c',⟨by have:=BG.out;simpa [HNN.out] using this,(CC.out.same g hg).trans HK.out⟩,by have:=CRW.out;simpa [HNN.out] using this⟩
  generalize w6.setCell _ _=w7 at *;have HA:=zh (ack_any HM);have HM:=zh HM;clear BP BG CRW;go_wp2_with fail;refine HA.out.mono ?_;rintro e w5 ⟨rfl,hrd,f5⟩;have F5:=zh f5;have HRD:=zh hrd;clear f5 hrd HA;go_wp2_with fail;go_ret;refine ⟨some ⟨w7.heap.size,0,none⟩,1,paint col6 w7.heap.size c,by rw [HT.out];rfl,?_,?_,?_⟩
  · rw [HT.out];exact crd_new HRD.out F5.out
  · rw [HT.out];exact HM.out.cg ((cg0 F5.out).paint c) (fun h=>h)
  · exact CC.out.trans (((cg0 F5.out).mono (fun _ h=>h.elim)).paint c)
 ·
  skip
  rw [if_pos (by rfl)];go_simp;have BL:=zh (Blk.new wd.drew 9 #[.string p.ld]);have BP:=zh (BP.out.alloc (.cells #[.string p.ld] 9));have BG:=zh (BG.out.alloc (.cells #[.string p.ld] 9));have CRW:=zh (CRW.out.alloc (.cells #[.string p.ld] 9));have CC:=zh (CC.out.new (.cells #[.string p.ld] 9));refine hK.out _ _ (BP.out.cell 5) (fun hHeld => ?_);clear hK K
  try simp only [Act.put,lPt]
  refine wpAnyH_ready (rs:=[4]) (by kernel_rfl) (by simp) ?_;refine AllReadyH.cons (o:=⟨some 45,_,_,_,_,_⟩) rfl (fun K hK => ?_) AllReadyH.nil;rw [if_pos (by rfl)];go_simp;refine hK.out _ _ (BP.out.cell 5) (fun hHeld => ?_);clear hK K
  try simp only [Act.put,lPt]
  refine wpAnyH_ready (rs:=[8]) (by kernel_rfl) (by simp) ?_;refine AllReadyH.cons (o:=⟨some 49,_,_,_,_,_⟩) rfl (fun K hK => ?_) AllReadyH.nil;refine step_appC _ (by rfl) (.tmp 45) (.tmp 48) strTy (by rfl) _ n _ (by rfl) CRW.out (wd.drew.heap.size+1) (some ⟨wd.drew.heap.size,0,none⟩) 1 1 [.string p.ld] (by rfl) (Reads.of_blk (m:=1) (size:=1) BL.out rfl) (by simp [Value.oneCell']) (by omega) (by omega) ?_;intro A' c' w6 hrow hcg hgr;have BP:=zh (BP.out.grown hgr (BP.out.ne_rowO CRW.out.r (by decide)));have BG:=zh (BG.out.grown hgr (BG.out.ne_rowO CRW.out.r (by decide)));have CC:=zh (CC.out.trans hcg);generalize paint col _ c=col6 at *;have CRW:=zh hrow;clear hrow hcg hgr BL;refine hK.out _ _ (BP.out.cell 5) (fun hHeld => ?_);clear hK K
  try simp only [Act.put,lPt]
  refine tk (i:=9) (oi:=⟨some 50,_,_,_,_,_⟩) (v:=?_) rfl ?_ hHeld ?_
  rotate_left
  · intro w hSw;(try dsimp only at hSw);go_simp;(try with_reducible rfl)
  simp only [Act.put,lPt];refine tk (i:=10) (oi:=⟨some 51,_,_,_,_,_⟩) (v:=?_) rfl ?_ hHeld ?_
  rotate_left
  · intro w hSw;(try dsimp only at hSw);go_simp;(try with_reducible rfl)
  simp only [Act.put,lPt];refine wpAnyH_ready (rs:=[11]) (by kernel_rfl) (by simp) ?_;refine AllReadyH.cons (o:=⟨none,_,_,_,_,_⟩) rfl (fun K hK => ?_) AllReadyH.nil;rw [if_pos (by rfl)];have hf2:=BG.out.frozen 2;have hg2:=BG.out.lt;have hc2:=BG.out.cell 2;simp at hc2;go_simp;have hne:=BG.out.ne_rowO CRW.out.r (by decide);have hne2:=BG.out.ne_ BP.out (by decide);have BP:=zh (BP.out.far (p:=⟨g,2,none⟩) hne2.symm (.slice A' (n+1) c'));have BG:=zh (BG.out.set_ 2 (.slice A' (n+1) c'));have CRW:=zh (CRW.out.far (p:=⟨g,2,none⟩) hne (.slice A' (n+1) c'));have CC:=zh (CC.out.set (p:=⟨g,2,none⟩) ((CC.out.same g hg).trans HK.out) (.slice A' (n+1) c'));refine hK.out _ _ (BP.out.cell 5) (fun hHeld => ?_);clear hK K
  try simp only [Act.put]
  refine wpAnyH_done (by kernel_rfl) ?_ _;clear hf2 hg2 hc2 hne hne2 c2 hgd hHeld
  have HM:InM col6 c (w6.setCell ⟨g,2,none⟩ (.slice A' (n+1) c')) g ⟨S.ch,S.inc,S.ls ++ [p.ld],S.out⟩ :=
   ⟨A',c',⟨by have:=BG.out;simpa [HNN.out] using this,(CC.out.same g hg).trans HK.out⟩,by have:=CRW.out;simpa [HNN.out] using this⟩
  generalize w6.setCell _ _=w7 at *;have HA:=zh (ack_any HM);have HM:=zh HM;clear BP BG CRW;go_wp2_with fail;refine HA.out.mono ?_;rintro e w5 ⟨rfl,hrd,f5⟩;have F5:=zh f5;have HRD:=zh hrd;clear f5 hrd HA;go_wp2_with fail;go_ret;refine ⟨some ⟨w7.heap.size,0,none⟩,1,paint col6 w7.heap.size c,by rw [HT.out];rfl,?_,?_,?_⟩
  · rw [HT.out];exact crd_new HRD.out F5.out
  · rw [HT.out];exact HM.out.cg ((cg0 F5.out).paint c) (fun h=>h)
  · exact CC.out.trans (((cg0 F5.out).mono (fun _ h=>h.elim)).paint c)
end
end Go.Proofs.YtgblfflikgnfpaaGreat
namespace Go.Proofs.YtgblfflikgnfpaaGreat
open Go.RowKit Go.Fb
set_option maxRecDepth 100000
set_option maxHeartbeats 16000000
set_option linter.unusedVariables false
section
variable {col:Nat->Nat} {c g:Nat} {w:World}
theorem inPeek_any {S:InS} (h:InM col c w g S) {s:ByteArray} (hs:S.ls[0]?=some s):Calls Tryz.prog 114 #[.pointer (some ⟨g,0,none⟩)] w fun e w'=>e=.returned (.tuple #[.string s,.bool true])/\w'=w:=by
 have HL:=zh (len_any h)
 have hl:0 < S.ls.length:=by
  rcases Nat.eq_zero_or_pos S.ls.length with h0 | h0
  · rw [List.getElem?_eq_none (by omega)] at hs;cases hs
  · exact h0
 obtain ⟨A,cp,hb,hr⟩:=h;have hc2:=hb.b.cell 2;obtain ⟨b,off,rfl,hlt,hcell⟩:=(hr.r.reads).2 hl;have hx:=hcell 0 (.string s) (by rw [List.getElem?_map,hs];rfl);rw [Nat.add_zero] at hx;have hli:(0:Int) < (S.ls.length:Int):=(by omega);have hle:((S.ls.length:Int) == 0)=false:=(by rw [beq_eq_false_iff_ne];omega);have hl2:¬ S.ls.length=0:=(by omega);generalize S.ls.length=n at *;simp at hc2;clear hcell hr hb hs;go_enter Tryz.func114,Tryz.ntmps114;go_wp2_with fail;refine HL.out.mono ?_;rintro e w' ⟨rfl,rfl⟩;go_wp2_with fail;go_ret2;exact ⟨rfl,rfl⟩
def PopOut (col:Nat->Nat) (c g:Nat) (S:InS) (s:ByteArray) (w:World) (e:Ending) (w':World):Prop :=
 ∃ A cp col',e=.returned (.tuple #[.string s,.slice A 1 cp,.bool true])/\CRd col' c w' 6 A 1 (pksC [ackP (popI S)])/\InM col' c w' g (popI S)/\Cg (· = c) col w col' w'
theorem inPop_any {S:InS} (h:InM col c w g S) {s:ByteArray} (hs:S.ls[0]?=some s) (h6:S.ls.length<=1000000) (h0:Cn S.out):Calls Tryz.prog 80 #[.pointer (some ⟨g,0,none⟩)] w (PopOut col c g S s w):=by
 have HP:=zh (inPeek_any h hs)
 have hl:0 < S.ls.length:=by
  rcases Nat.eq_zero_or_pos S.ls.length with h0 | h0
  · rw [List.getElem?_eq_none (by omega)] at hs;cases hs
  · exact h0
 obtain ⟨A,cp,hb,hr⟩:=h;obtain ⟨_,_,e,_,hle,_,_⟩:=hr.r.shape;injection e with e1 _ e2
 subst e1 e2;have hg:=hb.b.lt;have hne:=hb.b.ne_rowO hr.r (by decide);have hc2:=hb.b.cell 2;have hc3:=hb.b.cell 3;have hf2:=hb.b.frozen 2;have hf3:=hb.b.frozen 3;simp at hc2 hc3;have hr1:=hr.from_ (k:=1) (by omega);rw [Nat.mul_one,<- List.map_drop] at hr1;obtain ⟨A2,hA2⟩:=nm ((if cp=1 then A else A.map (·.add 1)));have hr2:=(hr1.far (p:=⟨g,2,none⟩) (by rw [ownBlock_from];cases A <;> exact hne) (.slice A2 (S.ls.length - 1) (cp - 1))).far (p:=⟨g,3,none⟩) (by rw [ownBlock_from];cases A <;> exact hne) (.int .i64 (S.out+1));rw [<- hA2] at hr2;have hb2:=(hb.b.set_ 2 (.slice A2 (S.ls.length - 1) (cp - 1))).set_ 3 (.int .i64 (S.out+1));have C2:=zh (((Cg.refl (· = c) col w).set (p:=⟨g,2,none⟩) hb.k (.slice A2 (S.ls.length - 1) (cp - 1))).set (p:=⟨g,3,none⟩) hb.k (.int .i64 (S.out+1)));have hdl:(S.ls.drop 1).length=S.ls.length - 1:=List.length_drop
 have hm:InM col c ((w.setCell ⟨g,2,none⟩ (.slice A2 (S.ls.length - 1) (cp - 1))).setCell ⟨g,3,none⟩ (.int .i64 (S.out+1))) g (popI S) :=
  ⟨A2,cp - 1,⟨by unfold popI;simp only [hdl];simpa using hb2,hb.k⟩,by unfold popI;simp only [hdl];exact hr2⟩
 have HM:=zh hm;have HA:=zh (ack_any hm);have hli:(1:Int)<=(S.ls.length:Int):=(by omega);have hcl:(S.ls.length:Int)<=(cp:Int):=(by omega);have hl1:1<=S.ls.length:=hl;have hl2:1<=cp:=(by omega);obtain ⟨ho1,ho2⟩:=h0;have HA2:=zh hA2;clear hr hr1 hr2 hb hb2 hm hdl hs hA2;generalize S.ls.length=n at *
 by_cases hc1:cp=1
 ·
  have e2:A2=A:=by rw [HA2.out,if_pos hc1]
  subst hc1;subst e2;obtain rfl:n=1:=by omega
  clear HA2;go_enter Tryz.func80,Tryz.ntmps80;go_wp2_with fail;refine HP.out.mono ?_;rintro e w' ⟨rfl,rfl⟩;go_wp2_with fail;refine HA.out.mono ?_;rintro e w5 ⟨rfl,hrd,f5⟩;have F5:=zh f5;have HRD:=zh hrd;clear f5 hrd HA;generalize hW:(w'.setCell _ _).setCell _ _=W at *;have HSZ:=zh (show W.heap.size=w'.heap.size by rw [<- hW];simp);clear hW;go_wp2_with fail;go_ret3;refine ⟨some ⟨W.heap.size,0,none⟩,1,paint col W.heap.size c,by rw [HSZ.out];rfl,?_⟩;exact ⟨crd_new HRD.out F5.out,HM.out.cg ((cg0 F5.out).paint c) (fun h=>h),C2.out.trans (((cg0 F5.out).mono (fun _ h=>h.elim)).paint c)⟩
 ·
  have e2:A2=A.map (·.add 1):=by rw [HA2.out,if_neg hc1]
  subst e2;have hci:¬ (cp:Int)=1:=(by omega);go_enter Tryz.func80,Tryz.ntmps80;go_wp2_with fail;refine HP.out.mono ?_;rintro e w' ⟨rfl,rfl⟩;go_wp2_with fail;refine HA.out.mono ?_;rintro e w5 ⟨rfl,hrd,f5⟩;have F5:=zh f5;have HRD:=zh hrd;clear f5 hrd HA;generalize hW:(w'.setCell _ _).setCell _ _=W at *;have HSZ:=zh (show W.heap.size=w'.heap.size by rw [<- hW];simp);clear hW;go_wp2_with fail;go_ret3;refine ⟨some ⟨W.heap.size,0,none⟩,1,paint col W.heap.size c,by rw [HSZ.out];rfl,?_⟩;exact ⟨crd_new HRD.out F5.out,HM.out.cg ((cg0 F5.out).paint c) (fun h=>h),C2.out.trans (((cg0 F5.out).mono (fun _ h=>h.elim)).paint c)⟩
end
end Go.Proofs.YtgblfflikgnfpaaGreat
namespace Go.Proofs.YtgblfflikgnfpaaGreat
open Go.RowKit Go.Fb
set_option maxRecDepth 100000
set_option maxHeartbeats 16000000
set_option linter.unusedVariables false
def cen (n:Int):Int:=(n+524288) % 1048576 - 524288
theorem cen_of {n q m:Int} (h:n=1048576 * q+m) (hm:-524288<=m/\m < 524288):cen n=m:=by unfold cen;omega
theorem cen_iff (n:Int):cen n=n ↔ -524288<=n/\n < 524288:=by unfold cen;omega
def valB (re im:Int):Bool:=decide (-524288<=re/\re < 524288 /\ -524288<=im/\im < 524288)
theorem valB_cen (re im:Int):(re == cen re && im == cen im)=valB re im:=by
 unfold valB;rw [Bool.eq_iff_iff];simp only [Bool.and_eq_true,beq_iff_eq,decide_eq_true_eq];have h1:=cen_iff re;have h2:=cen_iff im;constructor
 · rintro ⟨a,b⟩;have:=h1.1 a.symm;have:=h2.1 b.symm;omega
 · intro h;exact ⟨(h1.2 (by omega)).symm,(h2.2 (by omega)).symm⟩
theorem tmod_parts (n:Int):∃ q m:Int,n=1048576 * q+m/\n.tmod 1048576=m /\ -1048576 < m/\m < 1048576:=by
 refine ⟨n.tdiv 1048576,n.tmod 1048576,(Int.mul_tdiv_add_tmod n 1048576).symm,rfl,?_⟩
 rcases Int.le_total 0 n with h | h
 · rw [Int.tmod_eq_emod_of_nonneg h];omega
 · have:=Int.neg_tmod n 1048576;have h2:(-n).tmod 1048576=(-n) % 1048576:=Int.tmod_eq_emod_of_nonneg (by omega);omega
theorem into_any (n:Int) (w:World):Calls Tryz.prog 159 #[.int .i64 n] w fun e w'=>e=.returned (.int .i64 (cen n))/\w=w':=by
 obtain ⟨q,m,hn,hm,h1,h2⟩:=tmod_parts n;have HN:=zh hn;clear hn
 by_cases c1:m < -524288
 · have hv:cen n=m+1048576:=cen_of (q:=q - 1) (by rw [HN.out];omega) (by omega);rw [hv];clear hv;go_enter Tryz.func159,Tryz.ntmps159;go_wp2_with fail;go_ret;exact ⟨rfl,rfl⟩
 by_cases c2:m < 0
 ·
  have hv:cen n=m+1048576 - 1048576:=by rw [cen_of HN.out (by omega)];omega
  rw [hv];clear hv;go_enter Tryz.func159,Tryz.ntmps159;go_wp2_with fail;go_ret;exact ⟨rfl,rfl⟩
 by_cases c3:m < 524288
 · have hv:cen n=m:=cen_of HN.out (by omega);rw [hv];clear hv;go_enter Tryz.func159,Tryz.ntmps159;go_wp2_with fail;go_ret;exact ⟨rfl,rfl⟩
 · have hv:cen n=m - 1048576:=cen_of (q:=q+1) (by rw [HN.out];omega) (by omega);rw [hv];clear hv;go_enter Tryz.func159,Tryz.ntmps159;go_wp2_with fail;go_ret;exact ⟨rfl,rfl⟩
theorem gof_any (re im:Int) (w:World):Calls Tryz.prog 133 #[.int .i64 re,.int .i64 im] w fun e w'=>e=.returned (.agg #[.int .i64 (cen re),.int .i64 (cen im)])/\Fr w.heap.size [] w w':=by
 have h1:=into_any re;have h2:=into_any im;generalize cen re=a at *;generalize cen im=b at *;go_enter Tryz.func133,Tryz.ntmps133;go_wp2_with fail;refine (h1 _).mono ?_;rintro e w' ⟨rfl,rfl⟩;go_wp2_with fail;refine (h2 _).mono ?_;rintro e w' ⟨rfl,rfl⟩;go_wp2_with fail;exact bodyPost_ret (results_cell_row rfl _ _ w.heap.size 30 #[.int .i64 a,.int .i64 b] (0,0) _ rfl (Blk.new w 30 #[.int .i64 a,.int .i64 b]) Tryz.underlying30 rfl (by kernel_rfl)) rfl ⟨rfl,(Fr.refl _ _ _).alloc (Nat.le_refl _) _⟩
theorem val_cmp (a b c d:Int) (w:World):(binOp .eql 30 (.agg #[.int .i64 a,.int .i64 b]) (.agg #[.int .i64 c,.int .i64 d])).run Tryz.prog w=.ok (.bool (a == c && b == d)) w:=by
 have h:(Op.equalIn 10000 30 (.agg #[.int .i64 a,.int .i64 b]) (.agg #[.int .i64 c,.int .i64 d])).run Tryz.prog w=.ok (a == c && b == d) w:=by
  rw [run_equalIn_struct w 9999 30 _ _ (by kernel_rfl) (by kernel_rfl)];simp [Program.fieldsOf,Tryz.underlying30]
  by_cases h1:a=c
  · by_cases h2:b=d <;> simp [Op.eqFields,part,isAgg,run_underlying Tryz.underlying3,run_equalIn_int w 9998 3 .i64 .i64 _ _ Tryz.underlying3,h1,h2]
  · simp [Op.eqFields,part,isAgg,run_underlying Tryz.underlying3,run_equalIn_int w 9998 3 .i64 .i64 _ _ Tryz.underlying3,h1]
 simp [binOp,Op.equal,Op.maxDepth,h]
def recB (k re im:Int):Bool:=decide (0<=k/\k < 64) && valB re im
theorem gright_any (re im:Int) (w:World):Calls Tryz.prog 98 #[.agg #[.int .i64 re,.int .i64 im]] w fun e w'=>e=.returned (.bool (valB re im))/\Fr w.heap.size [] w w':=by
 have hcmp:=fun w=>val_cmp re im (cen re) (cen im) w;rw [valB_cen] at hcmp;have HO:=zh (gof_any re im);generalize cen re=a at *;generalize cen im=b at *;generalize valB re im=v at *;go_enter Tryz.func98,Tryz.ntmps98;go_wp2_with fail;have hb:=Blk.new w 30 #[.int .i64 re,.int .i64 im];have hf:=(Fr.refl w.heap.size [] w).alloc (Nat.le_refl _) (.cells #[.int .i64 re,.int .i64 im] 30);generalize w.alloc _=w1 at *;have INV:Hid (Blk w1 w.heap.size 30 #[.int .i64 re,.int .i64 im]/\Fr w.heap.size [] w w1):=⟨hb,hf⟩;have INV:Hid (Blk w1.drew w.heap.size 30 #[.int .i64 re,.int .i64 im]/\Fr w.heap.size [] w w1.drew):=⟨INV.out.1.drew,INV.out.2.drew⟩;clear hb hf
 go_region_held3 (fun wx=>wx.cell? ⟨w.heap.size,0,none⟩=some (.int .i64 re)/\wx.cell? ⟨w.heap.size,1,none⟩=some (.int .i64 im)) (exact ⟨INV.out.1.cell 0,INV.out.1.cell 1⟩)
  ((go_at_call 133;refine (HO.out _).mono ?_;rintro e w' ⟨rfl,hf⟩;have INV:Hid (Blk w' w.heap.size 30 #[.int .i64 re,.int .i64 im]/\Fr w.heap.size [] w w'):=⟨INV.out.1.fr hf INV.out.1.lt (by simp),INV.out.2.trans (hf.mono INV.out.2.size (by simp))⟩;clear hf))
 all_goals
  go_wp2_with fail;go_ret;exact ⟨rfl,INV.out.2⟩
theorem cthere_any (k:Int) (w:World):Calls Tryz.prog 97 #[.int .i64 0,.int .i64 k] w fun e w'=>e=.returned (.bool (decide (0<=k/\k < 64)))/\w=w':=by
 by_cases h1:0<=k
 ·
  by_cases h2:k < 64
  ·
   have hv:decide (0<=k/\k < 64)=true:=by simp;omega
   rw [hv];clear hv;go_enter Tryz.func97,Tryz.ntmps97;go_wp2_with fail;go_ret;exact ⟨rfl,rfl⟩
  ·
   have hv:decide (0<=k/\k < 64)=false:=by simp;omega
   rw [hv];clear hv;go_enter Tryz.func97,Tryz.ntmps97;go_wp2_with fail;go_ret;exact ⟨rfl,rfl⟩
 ·
  have hv:decide (0<=k/\k < 64)=false:=by simp;omega
  rw [hv];clear hv;go_enter Tryz.func97,Tryz.ntmps97;go_wp2_with fail;go_ret;exact ⟨rfl,rfl⟩
theorem cellright_any (k re im:Int) (w:World):Calls Tryz.prog 62 #[.agg #[.int .i64 k,.int .i64 re,.int .i64 im]] w fun e w'=>e=.returned (.bool (recB k re im))/\Fr w.heap.size [] w w':=by
 have HO:=zh (gright_any re im);have HT:=zh (cthere_any k)
 rcases Bool.eq_false_or_eq_true (decide (0<=k/\k < 64)) with hk | hk
 ·
  have hv:recB k re im=valB re im:=by unfold recB;rw [hk];rfl
  rw [hv];rw [hk] at HT;clear hv hk;go_enter Tryz.func62,Tryz.ntmps62;go_wp2_with fail;refine (HT.out _).mono ?_;rintro e w1 ⟨rfl,rfl⟩;go_wp2_with fail;refine (HO.out _).mono ?_;rintro e w1 ⟨rfl,hf⟩;have HF:=zh hf;clear hf;go_wp2_with fail;go_ret;exact ⟨rfl,((Fr.refl _ _ _).alloc (Nat.le_refl _) _).trans (HF.out.mono (by simp) (by simp))⟩
 ·
  have hv:recB k re im=false:=by unfold recB;rw [hk];rfl
  rw [hv];rw [hk] at HT;clear hv hk;go_enter Tryz.func62,Tryz.ntmps62;go_wp2_with fail;refine (HT.out _).mono ?_;rintro e w1 ⟨rfl,rfl⟩;go_wp2_with fail;go_ret;exact ⟨rfl,(Fr.refl _ _ _).alloc (Nat.le_refl _) _⟩
def putI (b:Bool) (k re im ep:Int) (p:Bool):Option (List Int) :=
 if b then (if 0<=ep/\ep<=2147483647 then some (66 :: (be ep ++ be (if p then 1 else 0))) else none)
 else (if recB k re im then some (82 :: (be k ++ (be re ++ be im))) else none)
def putS:Option (List Int)->ByteArray
 | some l=>strOfNums l
 | none=>ByteArray.empty
theorem str_cons (a:UInt8) (l:List Int):(⟨#[a]⟩:ByteArray) ++ strOfNums l=strOfNums ((a.toNat:Int) :: l):=by
 apply ByteArray.ext;simp [strOfNums,ByteArray.data_append]
theorem recB_fits {k re im:Int} (h:recB k re im=true):ofitsB k=true/\ofitsB re=true/\ofitsB im=true:=by
 unfold recB valB at h;simp only [Bool.and_eq_true,decide_eq_true_eq] at h;simp only [ofitsB,decide_eq_true_eq];omega
theorem num_new {w0:World} {g:Nat} (l:List Int) (hl:l.all ofitsB=true) (hn:l.length<=60) (bs:List Int) (hbs:bs.length<=1000) (hw:∀ base,Wr base w0 g bs) (hg:g < w0.heap.size) :
  Calls Tryz.prog 75 #[.pointer (some ⟨g,0,none⟩),.slice (some ⟨w0.heap.size,0,none⟩) l.length l.length] (w0.alloc (.cells (l.map (Value.int .i64)).toArray 3)) fun e w' =>
   e=.returned (.int .i64 0)/\Wr (w0.heap.size+1) w' g (bs ++ l.flatMap be)/\Fr w0.heap.size [g] w0 w':=by
 have hf:Fr w0.heap.size [] w0 (w0.alloc (.cells (l.map (Value.int .i64)).toArray 3)):=(Fr.refl _ _ _).alloc (Nat.le_refl _) _;refine (num_any (w0.heap.size+1) g _ _ _ (w0.heap.size+1) l bs _ (by omega) (by omega) ((hw _).fr hf hg (Nat.le_refl _) (by simp)) (by simp) ?_ (by simp) ?_).mono ?_
 · have h:=Reads.of_blk (Blk.new w0 3 (l.map (Value.int .i64)).toArray) (m:=l.length) (size:=1) (by simp);simpa using h
 ·
  rintro - ad e;injection e with e
  subst e;exact (hw (w0.heap.size+1)).apart_new hf
 ·
  rintro e w' (⟨_,rfl,h1,h2⟩ | ⟨h,_⟩)
  · exact ⟨rfl,h1,(hf.mono (B':=w0.heap.size) (L':=[g]) (Nat.le_refl _) (by simp)).trans (h2.mono (B':=w0.heap.size) (L':=[g]) (by omega) (by simp))⟩
  · rw [hl] at h;cases h
def RetPut (o:Option (List Int)) (w:World) (e:Ending) (w':World):Prop:=e=.returned (.tuple #[.string (putS o),.int .i64 (if o.isSome then 0 else 1)])/\Fr w.heap.size [] w w'
theorem aput_any (b:Bool) (k re im ep:Int) (p:Bool) (w:World):Calls Tryz.prog 46 #[.agg (It b k re im ep p)] w (RetPut (putI b k re im ep p) w):=by
 cases b
 ·
  have HC:=zh (cellright_any k re im)
  rcases Bool.eq_false_or_eq_true (recB k re im) with hR | hR
  case' inr =>
   have hv:putI false k re im ep p=none:=(by simp [putI,hR]);rw [hv];rw [hR] at HC;clear hv hR;go_enter Tryz.func46,Tryz.ntmps46;go_wp2_with fail;refine (HC.out _).mono ?_;rintro e w1 ⟨rfl,f1⟩;have F1:=zh f1;clear f1;go_wp2_with fail;go_ret2;exact ⟨rfl,(((Fr.refl _ _ _).alloc (Nat.le_refl _) _).alloc (by simp) _).trans (F1.out.mono (by simp;omega) (by simp))⟩
  have hv:putI false k re im ep p=some (82 :: (be k ++ (be re ++ be im))):=(by simp [putI,hR]);rw [hv];rw [hR] at HC;obtain ⟨hf1,hf2,hf3⟩:=recB_fits hR;have hall:[k,re,im].all ofitsB=true:=(by simp [hf1,hf2,hf3]);have HALL:=zh hall;clear hv hR hf1 hf2 hf3 hall;go_enter Tryz.func46,Tryz.ntmps46;go_wp2_with fail;have bi:=(Blk.new w 46 (It false k re im ep p)).alloc (.cells #[.slice none 0 0] 184);have bw:=fun base=>Wr.new (w.alloc (.cells (It false k re im ep p) 46)) base;have fw:=((Fr.refl w.heap.size [] w).alloc (Nat.le_refl _) (.cells (It false k re im ep p) 46)).alloc (by simp) (.cells #[.slice none 0 0] 184);rw [show (w.alloc (.cells (It false k re im ep p) 46)).heap.size=w.heap.size+1 by simp] at bw;have hgs:w.heap.size+1 < ((w.alloc (.cells (It false k re im ep p) 46)).alloc (.cells #[.slice none 0 0] 184)).heap.size:=(by simp);generalize (w.alloc _).alloc _=w2 at *;have BI:=zh bi;have BW:=zh bw;have FW:=zh fw;clear bi bw fw;refine (HC.out _).mono ?_;rintro e w3 ⟨rfl,f3⟩;have bi:=BI.out.fr f3 BI.out.lt (by simp);have c1:=bi.cell 1;have c2:=bi.cell 2;have c3:=bi.cell 3;simp at c1 c2 c3;have hg3:w.heap.size+1 < w3.heap.size:=(by have:=f3.size;omega);have BW3:=zh (fun base=>(BW.out base).fr f3 hgs (Nat.le_refl _) (by simp));have F3:=zh (FW.out.trans (f3.mono (B':=w.heap.size) (L':=[]) (by omega) (by simp)));clear bi f3;have HN:=zh (num_new [k,re,im] HALL.out (by simp) [] (by simp) BW3.out hg3);go_wp2_with fail;refine HN.out.mono ?_;rintro e w4 ⟨rfl,hw4,f4⟩;have HW4:=zh hw4;have F4:=zh (F3.out.trans (f4.mono (B':=w.heap.size) (L':=[]) (by omega) (fun q hq hlt=>by simp at hq;omega)));clear hw4 f4;go_wp2_with fail;refine (out_any _ _ _ _ HW4.out).mono ?_;rintro e w5 ⟨rfl,rfl⟩;have hsz:(strOfNums ([] ++ [k,re,im].flatMap be)).size<=12:=(by rw [strOfNums_size];simp [be])
  have hst:(⟨#[82]⟩:ByteArray) ++ strOfNums ([] ++ [k,re,im].flatMap be)=putS (some (82 :: (be k ++ (be re ++ be im)))):=by
   rw [str_cons];simp [putS]
  have HST:=zh hst;clear hst;go_wp2_with fail;go_ret2;exact ⟨by rw [<- HST.out];rfl,F4.out⟩
 ·
  by_cases h1:ep < 0
  ·
   have hv:putI true k re im ep p=none:=by simp [putI];omega
   rw [hv];clear hv;go_enter Tryz.func46,Tryz.ntmps46;go_wp2_with fail;go_ret2;exact ⟨rfl,((Fr.refl _ _ _).alloc (Nat.le_refl _) _).alloc (by simp) _⟩
  by_cases h2:2147483647 < ep
  ·
   have hv:putI true k re im ep p=none:=by simp [putI];omega
   rw [hv];clear hv;go_enter Tryz.func46,Tryz.ntmps46;go_wp2_with fail;go_ret2;exact ⟨rfl,((Fr.refl _ _ _).alloc (Nat.le_refl _) _).alloc (by simp) _⟩
  have hv:putI true k re im ep p=some (66 :: (be ep ++ be (if p then 1 else 0))):=(by simp [putI];omega);rw [hv];obtain ⟨pn,hpn⟩:=nm (if p then 1 else 0:Int);rw [<- hpn];have hp01:ofitsB pn=true:=by rw [hpn];cases p <;> rfl
  have hall:[ep,pn].all ofitsB=true:=(by simp [hp01];simp [ofitsB];omega);have HALL:=zh hall;clear hv hall hp01
  cases p
  ·
   replace hpn:pn=0:=hpn;subst hpn;go_enter Tryz.func46,Tryz.ntmps46;go_upto_region 12 with fail;have bi:=(Blk.new w 46 (It true k re im ep false)).alloc (.cells #[.slice none 0 0] 184);have bw:=fun base=>Wr.new (w.alloc (.cells (It true k re im ep false) 46)) base;have fw:=((Fr.refl w.heap.size [] w).alloc (Nat.le_refl _) (.cells (It true k re im ep false) 46)).alloc (by simp) (.cells #[.slice none 0 0] 184);rw [show (w.alloc (.cells (It true k re im ep false) 46)).heap.size=w.heap.size+1 by simp] at bw;have hg3:w.heap.size+1 < ((w.alloc (.cells (It true k re im ep false) 46)).alloc (.cells #[.slice none 0 0] 184)).heap.size:=(by simp);generalize (w.alloc _).alloc _=w3 at *;have c2:=bi.cell 4;simp at c2;have BW3:=zh bw;have F3:=zh fw;have HN:=zh (num_new [ep,0] HALL.out (by simp) [] (by simp) BW3.out hg3);clear bi bw fw h1 h2;go_wp2_with fail;refine HN.out.mono ?_;rintro e w4 ⟨rfl,hw4,f4⟩;have HW4:=zh hw4;have F4:=zh (F3.out.trans (f4.mono (B':=w.heap.size) (L':=[]) (by omega) (fun q hq hlt=>by simp at hq;omega)));clear hw4 f4;go_wp2_with fail;refine (out_any _ _ _ _ HW4.out).mono ?_;rintro e w5 ⟨rfl,rfl⟩;have hsz:(strOfNums ([] ++ [ep,0].flatMap be)).size<=12:=(by rw [strOfNums_size];simp [be])
   have hst:(⟨#[66]⟩:ByteArray) ++ strOfNums ([] ++ [ep,0].flatMap be)=putS (some (66 :: (be ep ++ be 0))):=by
    rw [str_cons];simp [putS]
   have HST:=zh hst;clear hst;go_wp2_with fail;go_ret2;exact ⟨by rw [<- HST.out];rfl,F4.out⟩
  ·
   replace hpn:pn=1:=hpn;subst hpn;go_enter Tryz.func46,Tryz.ntmps46;go_upto_region 12 with fail;have bi:=(Blk.new w 46 (It true k re im ep true)).alloc (.cells #[.slice none 0 0] 184);have bw:=fun base=>Wr.new (w.alloc (.cells (It true k re im ep true) 46)) base;have fw:=((Fr.refl w.heap.size [] w).alloc (Nat.le_refl _) (.cells (It true k re im ep true) 46)).alloc (by simp) (.cells #[.slice none 0 0] 184);rw [show (w.alloc (.cells (It true k re im ep true) 46)).heap.size=w.heap.size+1 by simp] at bw;have hg3:w.heap.size+1 < ((w.alloc (.cells (It true k re im ep true) 46)).alloc (.cells #[.slice none 0 0] 184)).heap.size:=(by simp);generalize (w.alloc _).alloc _=w3 at *;have c2:=bi.cell 4;simp at c2;have BW3:=zh bw;have F3:=zh fw;have HN:=zh (num_new [ep,1] HALL.out (by simp) [] (by simp) BW3.out hg3);clear bi bw fw h1 h2;go_wp2_with fail;refine HN.out.mono ?_;rintro e w4 ⟨rfl,hw4,f4⟩;have HW4:=zh hw4;have F4:=zh (F3.out.trans (f4.mono (B':=w.heap.size) (L':=[]) (by omega) (fun q hq hlt=>by simp at hq;omega)));clear hw4 f4;go_wp2_with fail;refine (out_any _ _ _ _ HW4.out).mono ?_;rintro e w5 ⟨rfl,rfl⟩;have hsz:(strOfNums ([] ++ [ep,1].flatMap be)).size<=12:=(by rw [strOfNums_size];simp [be])
   have hst:(⟨#[66]⟩:ByteArray) ++ strOfNums ([] ++ [ep,1].flatMap be)=putS (some (66 :: (be ep ++ be 1))):=by
    rw [str_cons];simp [putS]
   have HST:=zh hst;clear hst;go_wp2_with fail;go_ret2;exact ⟨by rw [<- HST.out];rfl,F4.out⟩

def leftS (s:ByteArray):Nat->ByteArray
 | 0=>s.extract 1 s.size
 | k+1=>(rnumOf (leftS s k)).2.2
def numK (s:ByteArray) (k:Nat):Int:=(rnumOf (leftS s k)).1
theorem leftS_size (s:ByteArray):∀ k,(leftS s k).size<=s.size
 | 0=>by simp [leftS,ByteArray.size_extract]
 | k+1=>by
  have ih:=leftS_size s k;unfold leftS rnumOf
  split
  · exact ih
  · simp [ByteArray.size_extract];omega
theorem toList_ne {t s:ByteArray} (h:¬ t=s):(t.toList == s.toList)=false:=by
 rw [beq_eq_false_iff_ne];intro e;rw [ByteArray.toList_eq,ByteArray.toList_eq] at e;exact h (ByteArray.ext (Array.toList_inj.1 e))
structure Itm where
 b:Bool
 k:Int
 re:Int
 im:Int
 ep:Int
 p:Bool
def Itm.zero:Itm:=⟨false,0,0,0,0,false⟩
abbrev Itm.cs (i:Itm):Array Value:=It i.b i.k i.re i.im i.ep i.p
def Itm.put (i:Itm):Option (List Int):=putI i.b i.k i.re i.im i.ep i.p
def isB (s:ByteArray):Bool:=(s.extract 0 1).toList == [66]
def candI (s:ByteArray):Itm:=if isB s then ⟨true,0,0,0,numK s 0,numK s 1 == 1⟩ else ⟨false,numK s 0,numK s 1,numK s 2,0,false⟩
def goodI (s:ByteArray):Bool:=(candI s).put.isSome && decide (putS (candI s).put=s)
def getI (s:ByteArray):Itm:=if goodI s then candI s else Itm.zero
def C3 (f:Nat->Int) (k:Nat):Array Value:=#[.int .i64 (if 0 < k then f 0 else 0),.int .i64 (if 1 < k then f 1 else 0),.int .i64 (if 2 < k then f 2 else 0)]
theorem C3_set (f:Nat->Int):∀ k,k < 3->(C3 f k).setIfInBounds k (.int .i64 (f k))=C3 f (k+1)
 | 0,_=>rfl
 | 1,_=>rfl
 | 2,_=>rfl
 | k+3,h=>by omega
theorem C3_get (f:Nat->Int):∀ k,k < 3->(C3 f k)[k]?=some (.int .i64 0)
 | 0,_=>rfl
 | 1,_=>rfl
 | 2,_=>rfl
 | k+3,h=>by omega
theorem aget_any (s:ByteArray) (w:World) (hm:s.size<=1000):Calls Tryz.prog 81 #[.string s] w fun e w'=>e=.returned (.tuple #[.agg (getI s).cs,.int .i64 (if goodI s then 0 else 4)])/\Fr w.heap.size [] w w':=by
 by_cases h0:s.size=0
 ·
  have hg:goodI s=false:=by
   unfold goodI
   cases hp:(candI s).put with
   | none=>rfl
   | some l =>
    have hne:putS (some l) ≠ s:=by
     intro e;have hz:(putS (some l)).size=0:=(by rw [e,h0])
     have hl:l ≠ []:=by
      unfold Itm.put putI at hp
      split at hp <;> split at hp <;> simp at hp <;> rw [<- hp] <;> simp
     simp only [putS,strOfNums_size] at hz;exact hl (List.eq_nil_of_length_eq_zero hz)
    simp [hne]
  have hv:getI s=Itm.zero:=(by unfold getI;rw [hg];rfl);rw [hv,hg];have he:s.toList.isEmpty=true:=(by rw [isEmpty_of_size];simp [h0]);clear hg hv h0;go_enter Tryz.func81,Tryz.ntmps81;go_wp2_with fail;exact bodyPost_ret (results_row_tmp rfl _ _ w.heap.size 46 It0 (0,0) _ rfl (Blk.new w 46 It0) Tryz.underlying46 rfl (by kernel_rfl)) rfl ⟨rfl,(Fr.refl _ _ w).alloc (Nat.le_refl _) _⟩
 have he:s.toList.isEmpty=false:=(by rw [isEmpty_of_size];simp [h0]);obtain ⟨code,hcode⟩:=nm (if goodI s then 0 else 4:Int);have HCODE:=zh hcode;rw [<- hcode];obtain ⟨res,hres⟩:=nm (getI s);have HRES:=zh hres;rw [<- hres];have h1s:1<=s.size:=(by omega);have HL:=zh (leftS_size s);clear hcode hres h0;go_enter Tryz.func81,Tryz.ntmps81;go_wp2_with fail;have b0:=Blk.new w 46 It0;have f0:=(Fr.refl w.heap.size [] w).alloc (Nat.le_refl _) (.cells It0 46);generalize w.alloc _=w1 at *;refine (new_any _ _).mono ?_;rintro e w2 ⟨rfl,hw2⟩;have hr2:Rd w2 w1.heap.size (leftS s 0):=(by rw [hw2];exact Blk.new _ _ _);have f2:Fr w1.heap.size [] w1 w2:=(by rw [hw2];exact (Fr.refl _ _ _).alloc (Nat.le_refl _) _);have B2:=zh (b0.fr f2 b0.lt (by simp));have F2:=zh (f0.trans (f2.mono f0.size (by simp)));have hgr:w.heap.size < w1.heap.size:=b0.lt;have R2:=zh hr2;clear hw2 hr2 f2 b0 f0;generalize w1.heap.size=gr at *;go_wp2_with fail;have hba:=Blk.new w2 241 (C3 (numK s) 0);have hfa:=(Fr.refl w2.heap.size [] w2).alloc (Nat.le_refl _) (.cells (C3 (numK s) 0) 241);have hg2:gr < w2.heap.size:=R2.out.lt
 have INV0:Hid (Rd (w2.alloc (.cells (C3 (numK s) 0) 241)) gr (leftS s 0)/\Blk (w2.alloc (.cells (C3 (numK s) 0) 241)) w2.heap.size 241 (C3 (numK s) 0)/\Blk (w2.alloc (.cells (C3 (numK s) 0) 241)) w.heap.size 46 It0/\Fr w.heap.size [] w (w2.alloc (.cells (C3 (numK s) 0) 241))) :=
  ⟨R2.out.fr hfa hg2 (by simp),hba,B2.out.fr hfa B2.out.lt (by simp),F2.out.trans (hfa.mono F2.out.size (by simp))⟩
 clear hba hfa B2 F2 R2;generalize w2.heap.size=ga at *;go_loopw [16] (fun i wr=>∃ k:Nat,k<=3/\i=.int .i64 k/\Hid (Rd wr gr (leftS s k)/\Blk wr ga 241 (C3 (numK s) k)/\Blk wr w.heap.size 46 It0/\Fr w.heap.size [] w wr)) (fun i _=>3 - (intOf i).toNat)
 case atStart=>exact ⟨0,by omega,rfl,INV0⟩
 case round =>
  obtain ⟨k,hk,rfl,INV⟩:=hrel
  by_cases hk3:k < 3
  ·
   have hki:(k:Int) < 3:=by omega
   have hN:=rnum_any gr (leftS s k) wr INV.out.1 (by have:=HL.out k;unfold maxLen;omega);have HN:=zh hN;clear hN;go_wp2_with fail;refine HN.out.mono ?_;rintro e w3 ⟨rfl,hr3,f3⟩;have hlt:=INV.out.2.1.lt;have hltw:=INV.out.2.2.1.lt
   have INV3:Hid (Rd w3 gr (leftS s (k+1))/\Blk w3 ga 241 (C3 (numK s) k)/\Blk w3 w.heap.size 46 It0/\Fr w.heap.size [] w w3) :=
    ⟨hr3,INV.out.2.1.fr f3 hlt (by simp;omega),INV.out.2.2.1.fr f3 hltw (by simp;omega),INV.out.2.2.2.trans (f3.mono (B':=w.heap.size) (L':=[]) (by omega) (fun q hq hl=>by simp at hq;omega))⟩
   have hc:=INV3.out.2.1.cell k;rw [C3_get _ _ hk3] at hc;have hz:=INV3.out.2.1.frozen k;have hv:(rnumOf (leftS s k)).1=numK s k:=rfl;rw [hv];clear hr3 f3 HN hv;generalize hnk:numK s k=nk at *;have HNK:=zh hnk;clear hnk;generalize (rnumOf (leftS s k)).2.1=ec at *;go_wp2_with fail;go_roundw
   case rel =>
    have hb:=INV3.out.2.1.set_ k (.int .i64 nk);rw [<- HNK.out,C3_set _ _ hk3,HNK.out] at hb;exact ⟨k+1,by omega,by go_num,INV3.out.1.far (by simp;omega) _,hb,INV3.out.2.2.1.far (by simp;omega) _,INV3.out.2.2.2.setCell (.inl (by simp;omega)) _⟩
   case measure=>simp [intOf];omega
  ·
   obtain rfl:k=3:=by omega
   go_upto_region 11 with fail;have hB:((s.extract 0 1).toList == [66])=isB s:=rfl;rw [hB];have hcand:candI s=if isB s then ⟨true,0,0,0,numK s 0,numK s 1 == 1⟩ else ⟨false,numK s 0,numK s 1,numK s 2,0,false⟩:=rfl
   obtain ⟨hrd,hbk,hb0,hfr⟩:=INV.out;have hbk':Blk wr ga 241 #[.int .i64 (numK s 0),.int .i64 (numK s 1),.int .i64 (numK s 2)]:=hbk;generalize numK s 0=n0 at *;generalize numK s 1=n1 at *;generalize numK s 2=n2 at *;have hgx:w.heap.size < wr.heap.size:=(by have:=hb0.lt;omega);have hga:ga < wr.heap.size:=hbk'.lt
   rcases Bool.eq_false_or_eq_true (isB s) with hb | hb
   ·
    rw [hb] at hcand ⊢;simp only [if_true] at hcand;have HCAND:=zh hcand;have hfa:=(Fr.refl wr.heap.size [] wr).alloc (Nat.le_refl _) (.cells (It true 0 0 0 0 false) 46);have BX:=zh (Blk.new wr 46 (It true 0 0 0 0 false));have BA:=zh (hbk'.fr hfa hga (by simp));have B0:=zh (hb0.fr hfa hgx (by simp));have FA:=zh (hfr.trans (hfa.mono hfr.size (by simp)));clear hcand hB hrd hbk hb0 hfr hbk' hfa INV;generalize wr.alloc _=wa at *;generalize wr.heap.size=gx at *;have a0:=BA.out.cell 0;have a1:=BA.out.cell 1;have a2:=BA.out.cell 2;have x0:=BX.out.cell 0;have x2:=BX.out.cell 4;have x3:=BX.out.cell 5;have z2:=BX.out.frozen 4;have z3:=BX.out.frozen 5;simp at a0 a1 a2 x0 x2 x3;go_wp2_with fail;go_region
    all_goals
     have BQ:Hid (Blk (((wa.setCell ⟨gx,4,none⟩ (.int .i64 n0)).setCell ⟨gx,5,none⟩ (.bool (n1 == 1))).drew) gx 46 (It true 0 0 0 n0 (n1 == 1))):=by
      show Blk _ _ _ _
      have h:=((BX.out.set_ 4 (.int .i64 n0)).set_ 5 (.bool (n1 == 1))).drew;simpa using h
     have B0Q:Hid (Blk (((wa.setCell ⟨gx,4,none⟩ (.int .i64 n0)).setCell ⟨gx,5,none⟩ (.bool (n1 == 1))).drew) w.heap.size 46 It0):=((B0.out.far (by simp;omega) _).far (by simp;omega) _).drew;have FQ:Hid (Fr w.heap.size [] w (((wa.setCell ⟨gx,4,none⟩ (.int .i64 n0)).setCell ⟨gx,5,none⟩ (.bool (n1 == 1))).drew)):=((FA.out.setCell (.inl (by simp;omega)) _).setCell (.inl (by simp;omega)) _).drew;generalize ((wa.setCell ⟨gx,4,none⟩ (.int .i64 n0)).setCell ⟨gx,5,none⟩ (.bool (n1 == 1))).drew=wq at *;clear BX BA B0 FA a0 a1 a2 x0 x2 x3 z2 z3;have y0:=BQ.out.cell 0;have y1:=BQ.out.cell 1;have y2:=BQ.out.cell 2;have y3:=BQ.out.cell 3;have y4:=BQ.out.cell 4;have y5:=BQ.out.cell 5;simp at y0 y1 y2 y3 y4 y5;go_wp2_with fail;clear y0 y1 y2 y3 y4 y5;refine (aput_any true 0 0 0 n0 (n1 == 1) _).mono ?_;rintro e w5 ⟨rfl,f5⟩;have hput:(candI s).put=putI true 0 0 0 n0 (n1 == 1):=(by rw [HCAND.out];rfl);have hgood:goodI s=((putI true 0 0 0 n0 (n1 == 1)).isSome && decide (putS (putI true 0 0 0 n0 (n1 == 1))=s)):=(by unfold goodI;rw [hput]);generalize putI true 0 0 0 n0 (n1 == 1)=o at *;have BQ5:=zh (BQ.out.fr f5 BQ.out.lt (by simp));have B05:=zh (B0Q.out.fr f5 B0Q.out.lt (by simp));have FQ5:=zh (FQ.out.trans (f5.mono FQ.out.size (by simp)));have y0:=BQ5.out.cell 0;have y1:=BQ5.out.cell 1;have y2:=BQ5.out.cell 2;have y3:=BQ5.out.cell 3;have y4:=BQ5.out.cell 4;have y5:=BQ5.out.cell 5;have q0:=B05.out.cell 0;have q1:=B05.out.cell 1;have q2:=B05.out.cell 2;have q3:=B05.out.cell 3;have q4:=B05.out.cell 4;have q5:=B05.out.cell 5;have r0:=B05.out.frozen 0;have r1:=B05.out.frozen 1;have r2:=B05.out.frozen 2;have r3:=B05.out.frozen 3;have r4:=B05.out.frozen 4;have r5:=B05.out.frozen 5;simp at y0 y1 y2 y3 y4 y5 q0 q1 q2 q3 q4 q5;clear f5 hput
     rcases o with _ | l
     ·
      have hgf:goodI s=false:=by rw [hgood];rfl
      have hgr':res=Itm.zero:=(by rw [HRES.out];unfold getI;rw [hgf];rfl);have hgc:code=4:=(by rw [HCODE.out,hgf];rfl);subst hgr' hgc;clear hgood;go_wp2_with fail;exact bodyPost_ret (results_row_tmp rfl _ _ w.heap.size 46 It0 (0,0) _ rfl (blk_set6 B05.out _ _ _ _ _ _) Tryz.underlying46 rfl (by kernel_rfl)) rfl ⟨rfl,fr_set6 FQ5.out (.inl (Nat.le_refl _)) _ _ _ _ _ _⟩
     ·
      by_cases hps:putS (some l)=s
      ·
       have hgf:goodI s=true:=by rw [hgood];simp [hps]
       have hgr':res=candI s:=(by rw [HRES.out];unfold getI;rw [hgf];rfl);have hgc:code=0:=(by rw [HCODE.out,hgf];rfl);rw [HCAND.out] at hgr';subst hgr' hgc;clear hgood;rw [hps];go_wp2_with fail;exact bodyPost_ret (results_row_tmp rfl _ _ w.heap.size 46 (It true 0 0 0 n0 (n1 == 1)) (0,0) _ rfl (blk_set6 B05.out _ _ _ _ _ _) Tryz.underlying46 rfl (by kernel_rfl)) rfl ⟨rfl,fr_set6 FQ5.out (.inl (Nat.le_refl _)) _ _ _ _ _ _⟩
      ·
       have hgf:goodI s=false:=by rw [hgood];simp [hps]
       have hgr':res=Itm.zero:=(by rw [HRES.out];unfold getI;rw [hgf];rfl);have hgc:code=4:=(by rw [HCODE.out,hgf];rfl);subst hgr' hgc;clear hgood;generalize putS (some l)=t at *;have htl:=toList_ne hps;go_wp2_with fail;exact bodyPost_ret (results_row_tmp rfl _ _ w.heap.size 46 It0 (0,0) _ rfl (blk_set6 B05.out _ _ _ _ _ _) Tryz.underlying46 rfl (by kernel_rfl)) rfl ⟨rfl,fr_set6 FQ5.out (.inl (Nat.le_refl _)) _ _ _ _ _ _⟩
   ·
    rw [hb] at hcand ⊢;simp only [Bool.false_eq_true,if_false] at hcand;have HCAND:=zh hcand;have hfa:=(Fr.refl wr.heap.size [] wr).alloc (Nat.le_refl _) (.cells (It false 0 0 0 0 false) 46);have BX:=zh (Blk.new wr 46 (It false 0 0 0 0 false));have BA:=zh (hbk'.fr hfa hga (by simp));have B0:=zh (hb0.fr hfa hgx (by simp));have FA:=zh (hfr.trans (hfa.mono hfr.size (by simp)));clear hcand hB hrd hbk hb0 hfr hbk' hfa INV;generalize wr.alloc _=wa at *;generalize wr.heap.size=gx at *;have a0:=BA.out.cell 0;have a1:=BA.out.cell 1;have a2:=BA.out.cell 2;have x0:=BX.out.cell 0;have x1:=BX.out.cell 1;have x2:=BX.out.cell 2;have x3:=BX.out.cell 3;have z1:=BX.out.frozen 1;have z2:=BX.out.frozen 2;have z3:=BX.out.frozen 3;simp at a0 a1 a2 x0 x1 x2 x3;go_upto_region 14 with fail
    have BQ:Hid (Blk (((wa.setCell ⟨gx,1,none⟩ (.int .i64 n0)).setCell ⟨gx,2,none⟩ (.int .i64 n1)).setCell ⟨gx,3,none⟩ (.int .i64 n2)) gx 46 (It false n0 n1 n2 0 false)):=by
     show Blk _ _ _ _
     have h:=((BX.out.set_ 1 (.int .i64 n0)).set_ 2 (.int .i64 n1)).set_ 3 (.int .i64 n2);simpa using h
    have B0Q:Hid (Blk (((wa.setCell ⟨gx,1,none⟩ (.int .i64 n0)).setCell ⟨gx,2,none⟩ (.int .i64 n1)).setCell ⟨gx,3,none⟩ (.int .i64 n2)) w.heap.size 46 It0):=((B0.out.far (by simp;omega) _).far (by simp;omega) _).far (by simp;omega) _;have FQ:Hid (Fr w.heap.size [] w (((wa.setCell ⟨gx,1,none⟩ (.int .i64 n0)).setCell ⟨gx,2,none⟩ (.int .i64 n1)).setCell ⟨gx,3,none⟩ (.int .i64 n2))):=((FA.out.setCell (.inl (by simp;omega)) _).setCell (.inl (by simp;omega)) _).setCell (.inl (by simp;omega)) _;generalize ((wa.setCell ⟨gx,1,none⟩ (.int .i64 n0)).setCell ⟨gx,2,none⟩ (.int .i64 n1)).setCell ⟨gx,3,none⟩ (.int .i64 n2)=wq at *;clear BX BA B0 FA a0 a1 a2 x0 x1 x2 x3 z1 z2 z3;have y0:=BQ.out.cell 0;have y1:=BQ.out.cell 1;have y2:=BQ.out.cell 2;have y3:=BQ.out.cell 3;have y4:=BQ.out.cell 4;have y5:=BQ.out.cell 5;simp at y0 y1 y2 y3 y4 y5;go_wp2_with fail;clear y0 y1 y2 y3 y4 y5;refine (aput_any false n0 n1 n2 0 false _).mono ?_;rintro e w5 ⟨rfl,f5⟩;have hput:(candI s).put=putI false n0 n1 n2 0 false:=(by rw [HCAND.out];rfl);have hgood:goodI s=((putI false n0 n1 n2 0 false).isSome && decide (putS (putI false n0 n1 n2 0 false)=s)):=(by unfold goodI;rw [hput]);generalize putI false n0 n1 n2 0 false=o at *;have BQ5:=zh (BQ.out.fr f5 BQ.out.lt (by simp));have B05:=zh (B0Q.out.fr f5 B0Q.out.lt (by simp));have FQ5:=zh (FQ.out.trans (f5.mono FQ.out.size (by simp)));have y0:=BQ5.out.cell 0;have y1:=BQ5.out.cell 1;have y2:=BQ5.out.cell 2;have y3:=BQ5.out.cell 3;have y4:=BQ5.out.cell 4;have y5:=BQ5.out.cell 5;have q0:=B05.out.cell 0;have q1:=B05.out.cell 1;have q2:=B05.out.cell 2;have q3:=B05.out.cell 3;have q4:=B05.out.cell 4;have q5:=B05.out.cell 5;have r0:=B05.out.frozen 0;have r1:=B05.out.frozen 1;have r2:=B05.out.frozen 2;have r3:=B05.out.frozen 3;have r4:=B05.out.frozen 4;have r5:=B05.out.frozen 5;simp at y0 y1 y2 y3 y4 y5 q0 q1 q2 q3 q4 q5;clear f5 hput
    rcases o with _ | l
    ·
     have hgf:goodI s=false:=by rw [hgood];rfl
     have hgr':res=Itm.zero:=(by rw [HRES.out];unfold getI;rw [hgf];rfl);have hgc:code=4:=(by rw [HCODE.out,hgf];rfl);subst hgr' hgc;clear hgood;go_wp2_with fail;exact bodyPost_ret (results_row_tmp rfl _ _ w.heap.size 46 It0 (0,0) _ rfl (blk_set6 B05.out _ _ _ _ _ _) Tryz.underlying46 rfl (by kernel_rfl)) rfl ⟨rfl,fr_set6 FQ5.out (.inl (Nat.le_refl _)) _ _ _ _ _ _⟩
    ·
     by_cases hps:putS (some l)=s
     ·
      have hgf:goodI s=true:=by rw [hgood];simp [hps]
      have hgr':res=candI s:=(by rw [HRES.out];unfold getI;rw [hgf];rfl);have hgc:code=0:=(by rw [HCODE.out,hgf];rfl);rw [HCAND.out] at hgr';subst hgr' hgc;clear hgood;rw [hps];go_wp2_with fail;exact bodyPost_ret (results_row_tmp rfl _ _ w.heap.size 46 (It false n0 n1 n2 0 false) (0,0) _ rfl (blk_set6 B05.out _ _ _ _ _ _) Tryz.underlying46 rfl (by kernel_rfl)) rfl ⟨rfl,fr_set6 FQ5.out (.inl (Nat.le_refl _)) _ _ _ _ _ _⟩
     ·
      have hgf:goodI s=false:=by rw [hgood];simp [hps]
      have hgr':res=Itm.zero:=(by rw [HRES.out];unfold getI;rw [hgf];rfl);have hgc:code=4:=(by rw [HCODE.out,hgf];rfl);subst hgr' hgc;clear hgood;generalize putS (some l)=t at *;have htl:=toList_ne hps;go_wp2_with fail;exact bodyPost_ret (results_row_tmp rfl _ _ w.heap.size 46 It0 (0,0) _ rfl (blk_set6 B05.out _ _ _ _ _ _) Tryz.underlying46 rfl (by kernel_rfl)) rfl ⟨rfl,fr_set6 FQ5.out (.inl (Nat.le_refl _)) _ _ _ _ _ _⟩
def lnC (x:Nat->Int):List Value:=[.int .i64 (x 0),.int .i64 (x 1),.int .i64 (x 2),.int .i64 (x 3),.int .i64 (x 4)]
def cellsLn (l:List (Nat->Int)):List Value:=l.flatMap lnC
theorem cellsLn_app (a b:List (Nat->Int)):cellsLn (a ++ b)=cellsLn a ++ cellsLn b:=by simp [cellsLn]
theorem lnC_one {l:List (Nat->Int)}:∀ u ∈ cellsLn l,u.oneCell'=true:=by
 intro u hu;obtain ⟨x,_,hx⟩:=List.mem_flatMap.1 hu;simp only [lnC,List.mem_cons,List.not_mem_nil,or_false] at hx
 rcases hx with rfl | rfl | rfl | rfl | rfl <;> rfl
theorem lineTy:SliceTy Tryz.prog 49 52 5 40:=SliceTy.mk' (z:=.agg #[.int .i64 0,.int .i64 0,.int .i64 0,.int .i64 0,.int .i64 0]) Tryz.underlying49 (by kernel_rfl) rfl (by omega)
theorem lowns_empty (w:World):(w.alloc (.cells #[] 52)).ownsRow w.heap.size 52 5 (.slice (some ⟨w.heap.size,0,none⟩) 0 0) 0 []:=by
 refine ⟨rfl,.inr ⟨w.heap.size,0,#[],rfl,Nat.le_refl _,Blk.new _ _ _,?_⟩⟩;simp
theorem lines_nil (A:Option Addr) (n c:Nat) (w:World):(binOp .eql 49 (.slice A n c) (.slice none 0 0)).run Tryz.prog w=.ok (.bool A.isNone) w:=by
 simp only [binOp];simp [run_equal_slice_nil w _ _ A n c Tryz.underlying49]
theorem lclone_any (A:Option Addr) (n c B:Nat) (l:List (Nat->Int)) (w:World) (hl:n=l.length) (hn:n<=1000000) (hr:Reads w B 5 A n (cellsLn l)) (hB:B<=w.heap.size) :
  Calls Tryz.prog 50 #[.slice A n c] w fun e w'=>∃ A' c',e=.returned (.slice A' n c')/\w'.ownsRow w.heap.size 52 5 (.slice A' n c') n (cellsLn l)/\Fr w.heap.size [] w w':=by
 rcases A with _ | ad
 ·
  have h0:n=0:=by
   rcases Nat.eq_zero_or_pos n with h | h
   · exact h
   ·
    obtain ⟨b,off,e,_⟩:=hr.2 h
    cases e
  subst h0;have hle:l=[]:=List.eq_nil_of_length_eq_zero hl.symm;subst hle;have hq:∀ w,(binOp .eql 49 (.slice none 0 c) (.slice none 0 0)).run Tryz.prog w=.ok (.bool true) w:=lines_nil none 0 c;clear hr hn hl;go_enter Tryz.func50,Tryz.ntmps50;go_wp2_with fail;go_ret;exact ⟨none,0,rfl,World.ownsRow_nil _ _ _ _,Fr.refl _ _ _⟩
 · have ho:=lowns_empty w;have hf:=(Fr.refl w.heap.size [] w).alloc (Nat.le_refl _) (.cells #[] 52);have hr1:=hr.fr hf hB (by simp);have hs:w.heap.size < (w.alloc (.cells #[] 52)).heap.size:=(by simp);have hq:∀ w,(binOp .eql 49 (.slice (some ad) n c) (.slice none 0 0)).run Tryz.prog w=.ok (.bool false) w:=lines_nil (some ad) n c;clear hr hl;go_enter Tryz.func50,Tryz.ntmps50;go_wp2_with (at_builtin;refine wpList_app _ rfl (.tmp 5) (.tmp 6) lineTy rfl w.heap.size (.slice (some ⟨w.heap.size,0,none⟩) 0 0) 0 [] rfl ho B _ n _ (cellsLn l) rfl hr1 lnC_one (by omega) (by omega) (by simp) ?_;intro A2 c2 w2 hown2 hg2 hat2);go_ret;rw [Nat.zero_add] at hown2;exact ⟨A2,c2,rfl,by simpa using hown2,hf.grown hg2 (by simp) (fun k hk=>.inl (by simp [Value.ownBlock] at hk;omega))⟩
def recC (x:Nat->Int):List Value:=[.int .i64 (x 0),.int .i64 (x 1),.int .i64 (x 2)]
def cellsR (l:List (Nat->Int)):List Value:=l.flatMap recC
theorem cellsR_length (l:List (Nat->Int)):(cellsR l).length=l.length * 3:=by
 unfold cellsR
 induction l with
 | nil=>rfl
 | cons x l ih=>rw [List.flatMap_cons,List.length_append,ih];simp [recC];omega
theorem recC_get (x:Nat->Int):∀ j,j < 3->(recC x)[j]?=some (.int .i64 (x j))
 | 0,_=>rfl
 | 1,_=>rfl
 | 2,_=>rfl
 | j+3,h=>by omega
theorem cellsR_get:∀ {l:List (Nat->Int)} {k:Nat} {x:Nat->Int},l[k]?=some x -> ∀ j,j < 3->(cellsR l)[k * 3+j]?=some (.int .i64 (x j))
 | [],k,x,h,_,_=>by simp at h
 | y :: l,0,x,h,j,hj=>by
  simp at h;subst h;rw [cellsR,List.flatMap_cons,Nat.zero_mul,Nat.zero_add,List.getElem?_append_left (by simp [recC];omega)];exact recC_get y j hj
 | y :: l,k+1,x,h,j,hj=>by
  rw [cellsR,List.flatMap_cons,List.getElem?_append_right (by simp [recC];omega)];have ih:=cellsR_get (l:=l) (k:=k) (x:=x) (by simpa using h) j hj;have e:(k+1) * 3+j - (recC y).length=k * 3+j:=(by simp [recC];omega);rw [e];exact ih
theorem reads_rec {w:World} {B:Nat} {A:Option Addr} {l:List (Nat->Int)} (h:Reads w B 3 A l.length (cellsR l)) {k:Nat} {x:Nat->Int} (hx:l[k]?=some x) :
  ∃ b off,A=some ⟨b,off,none⟩/\b < B /\ ∀ j,j < 3->w.cell? ⟨b,off+(k * 3+j),none⟩=some (.int .i64 (x j)):=by
 have hk:k < l.length:=by
  rcases Nat.lt_or_ge k l.length with h | h
  · exact h
  · rw [List.getElem?_eq_none h] at hx;cases hx
 obtain ⟨b,off,e,hb,hc⟩:=h.2 (by omega);exact ⟨b,off,e,hb,fun j hj=>hc _ _ (cellsR_get hx j hj)⟩
def goodN:List (Nat->Int)->Nat
 | []=>0
 | x :: l=>if recB (x 0) (x 1) (x 2) then goodN l+1 else 0
theorem goodN_le:∀ l,goodN l<=l.length
 | []=>Nat.le_refl _
 | x :: l=>by
  have:=goodN_le l;unfold goodN
  split <;> simp <;> omega
theorem goodN_at:∀ {l:List (Nat->Int)} {k:Nat} {x:Nat->Int},l[k]?=some x->k<=goodN l->recB (x 0) (x 1) (x 2)=false->goodN l=k
 | [],k,x,h,_,_=>by simp at h
 | y :: l,0,x,h,_,hb=>by
  simp at h;subst h;rw [goodN,hb];rfl
 | y :: l,k+1,x,h,hk,hb=>by
  unfold goodN at hk ⊢
  split at hk
  · rename_i hy;rw [if_pos hy,goodN_at (l:=l) (k:=k) (x:=x) (by simpa using h) (by omega) hb]
  · omega
theorem goodN_next:∀ {l:List (Nat->Int)} {k:Nat} {x:Nat->Int},l[k]?=some x->k<=goodN l->recB (x 0) (x 1) (x 2)=true->k+1<=goodN l
 | [],k,x,h,_,_=>by simp at h
 | y :: l,0,x,h,_,hb=>by
  simp at h;subst h;rw [goodN,hb];simp
 | y :: l,k+1,x,h,hk,hb=>by
  unfold goodN at hk ⊢
  split at hk
  · rename_i hy;rw [if_pos hy];have:=goodN_next (l:=l) (k:=k) (x:=x) (by simpa using h) (by omega) hb;omega
  · omega
theorem recTy:SliceTy Tryz.prog 22 32 3 24:=SliceTy.mk' (z:=.agg #[.int .i64 0,.int .i64 0,.int .i64 0]) Tryz.underlying22 (by kernel_rfl) rfl (by omega)
end Go.Proofs.YtgblfflikgnfpaaGreat
namespace Go.Proofs.YtgblfflikgnfpaaGreat
open Go.RowKit Go.Fb
set_option maxRecDepth 100000
set_option maxHeartbeats 16000000
set_option linter.unusedVariables false
def ptC (P:Nat) (V:Nat->Value) (a:Nat->Int):Array Value:=if P=1 then #[V 0,.int .i64 (a 0)] else if P=2 then #[V 0,.int .i64 (a 0),V 1,.int .i64 (a 1)] else #[V 0,.int .i64 (a 0),V 1,.int .i64 (a 1),V 2,.int .i64 (a 2)]
theorem p3 {P:Nat} (h1:1<=P) (h3:P<=3):P=1 \/ P=2 \/ P=3:=by omega
theorem ptC_get {P i:Nat} {V:Nat->Value} {a:Nat->Int} (h3:P<=3) (hi:i < P):(ptC P V a)[i * 2]?=some (V i)/\(ptC P V a)[i * 2+1]?=some (.int .i64 (a i)):=by
 rcases p3 (by omega) h3 with rfl | rfl | rfl
 ·
  obtain rfl:i=0:=by omega
  exact ⟨rfl,rfl⟩
 · rcases (show i=0 \/ i=1 by omega) with rfl | rfl <;> exact ⟨rfl,rfl⟩
 · rcases (show i=0 \/ i=1 \/ i=2 by omega) with rfl | rfl | rfl <;> exact ⟨rfl,rfl⟩
def updV (V:Nat->Value) (i:Nat) (v:Value) (j:Nat):Value:=if j=i then v else V j
theorem ptC_set {P i:Nat} {V:Nat->Value} {a:Nat->Int} (h3:P<=3) (hi:i < P) (v:Value):(ptC P V a).setIfInBounds (i * 2) v=ptC P (updV V i v) a:=by
 rcases p3 (by omega) h3 with rfl | rfl | rfl
 ·
  obtain rfl:i=0:=by omega
  rfl
 · rcases (show i=0 \/ i=1 by omega) with rfl | rfl <;> rfl
 · rcases (show i=0 \/ i=1 \/ i=2 by omega) with rfl | rfl | rfl <;> rfl
def updA (a:Nat->Int) (i:Nat) (z:Int) (j:Nat):Int:=if j=i then z else a j
theorem ptC_seta {P i:Nat} {V:Nat->Value} {a:Nat->Int} (h3:P<=3) (hi:i < P) (z:Int):(ptC P V a).setIfInBounds (i * 2+1) (.int .i64 z)=ptC P V (updA a i z):=by
 rcases p3 (by omega) h3 with rfl | rfl | rfl
 ·
  obtain rfl:i=0:=by omega
  rfl
 · rcases (show i=0 \/ i=1 by omega) with rfl | rfl <;> rfl
 · rcases (show i=0 \/ i=1 \/ i=2 by omega) with rfl | rfl | rfl <;> rfl
def noA (_:Nat):Int:=0
def srcR (r:Nat->Int) (gp P:Nat):Array Value:=#[.int .i64 (r 0),.int .i64 (r 1),.int .i64 (r 2),.int .i64 (r 3),.int .i64 (r 4),.int .i64 (r 5),.int .i64 (r 6),.int .i64 (r 7),.slice (some ⟨gp,0,none⟩) P P]
structure Sp (base gs gp P:Nat) (r:Nat->Int) (R:Nat->List (Nat->Int)) (V:Nat->Value) (a:Nat->Int) (w:World):Prop where
 pos:1<=P/\P<=3
 st:Blk w gs 149 (srcR r gp P)
 pt:Blk w gp 162 (ptC P V a)
 own:∀ i,i < P->w.ownsRow base 32 3 (V i) (R i).length (cellsR (R i))
 sep:∀ i j,i < P->j < P->i ≠ j->(V i).ownBlock=none \/ (V i).ownBlock ≠ (V j).ownBlock
section
variable {base gs gp P:Nat} {r:Nat->Int} {R:Nat->List (Nat->Int)} {V:Nat->Value} {a:Nat->Int} {w w':World}
theorem Sp.ne (h:Sp base gs gp P r R V a w):gs ≠ gp:=h.st.ne_ h.pt (by decide)
theorem Sp.ngs (h:Sp base gs gp P r R V a w) {i:Nat} (hi:i < P):some gs ≠ (V i).ownBlock:=h.st.ne_own (h.own i hi) (by decide)
theorem Sp.ngp (h:Sp base gs gp P r R V a w) {i:Nat} (hi:i < P):some gp ≠ (V i).ownBlock:=h.pt.ne_own (h.own i hi) (by decide)
theorem Sp.keep (h:Sp base gs gp P r R V a w) (hf:Fr w.heap.size [] w w'):Sp base gs gp P r R V a w' :=
 ⟨h.pos,h.st.fr hf h.st.lt (by simp),h.pt.fr hf h.pt.lt (by simp),fun i hi=>ownsRow_fr (h.own i hi) hf (fun q hq=>⟨((h.own i hi).lt q hq).2,by simp⟩),h.sep⟩
end
def noV (_:Nat):Value:=.slice none 0 0
def noR (_:Nat):List (Nat->Int):=[]
theorem mkparts {P:Nat} (h1:1<=P) (h3:P<=3) (W:World):(Instr.makeSlice 147 (.int .i64 (P:Nat)) (.int .i64 (P:Nat))).run Tryz.prog W=.ok (.slice (some ⟨W.heap.size,0,none⟩) P P) (W.alloc (.cells (ptC P noV noA) 162)):=by
 have info:(Tryz.prog.info? 162).map (fun i=>(i.zero,i.size,i.bytes))=some (some (Value.agg #[.slice none 0 0,.int .i64 0]),2,32):=(by kernel_rfl);obtain ⟨i,hi,hz,hsz,hby⟩:=info_parts info;have hr:=run_make (P:=Tryz.prog) W 147 162 i (.agg #[.slice none 0 0,.int .i64 0]) Tryz.underlying147 hi hz .i64 .i64 (P:Nat) (P:Nat) (by omega) (by omega) (by rw [hby];omega) (by omega)
 have hmc:madeCells (Value.agg #[.slice none 0 0,.int .i64 0]).cells (((P:Nat):Int).toNat * i.size)=ptC P noV noA:=by
  rw [hsz,Int.toNat_natCast]
  rcases p3 h1 h3 with rfl | rfl | rfl
  ·
   apply Array.ext
   · simp [size_madeCells,ptC]
   ·
    intro j h1 h2;have h3:j < 2:=(by simpa [ptC] using h2)
    match j,h3 with
    | 0,_=>simp [madeCells,Value.cells,ptC,noV,noA]
    | 1,_=>simp [madeCells,Value.cells,ptC,noV,noA]
  ·
   apply Array.ext
   · simp [size_madeCells,ptC]
   ·
    intro j h1 h2;have h3:j < 4:=(by simpa [ptC] using h2)
    match j,h3 with
    | 0,_=>simp [madeCells,Value.cells,ptC,noV,noA]
    | 1,_=>simp [madeCells,Value.cells,ptC,noV,noA]
    | 2,_=>simp [madeCells,Value.cells,ptC,noV,noA]
    | 3,_=>simp [madeCells,Value.cells,ptC,noV,noA]
  ·
   apply Array.ext
   · simp [size_madeCells,ptC]
   ·
    intro j h1 h2;have h3:j < 6:=(by simpa [ptC] using h2)
    match j,h3 with
    | 0,_=>simp [madeCells,Value.cells,ptC,noV,noA]
    | 1,_=>simp [madeCells,Value.cells,ptC,noV,noA]
    | 2,_=>simp [madeCells,Value.cells,ptC,noV,noA]
    | 3,_=>simp [madeCells,Value.cells,ptC,noV,noA]
    | 4,_=>simp [madeCells,Value.cells,ptC,noV,noA]
    | 5,_=>simp [madeCells,Value.cells,ptC,noV,noA]
 rw [hmc] at hr;simpa using hr
def NewOut (kind par:Int) (r:Nat->Int) (w:World) (e:Ending) (w':World):Prop :=
 (kind=0/\right8 par r=true/\∃ P gs gp:Nat,par=(P:Int)/\e=.returned (.tuple #[.pointer (some ⟨gs,0,none⟩),.int .i64 0])/\Sp w.heap.size gs gp P r noR noV noA w'/\(w.heap.size<=gs/\w.heap.size<=gp)/\Fr w.heap.size [] w w') \/
 (¬ (kind=0/\right8 par r=true)/\e=.returned (.tuple #[.pointer none,.int .i64 1])/\Fr w.heap.size [] w w')
abbrev spNodeV (id kind par:Int) (u2 u3:Value) (r:Nat->Int):Array Value:=#[.int .i64 id,.int .i64 kind,u2,u3,.int .i64 par,.int .i64 (r 0),.int .i64 (r 1),.int .i64 (r 2),.int .i64 (r 3),.int .i64 (r 4),.int .i64 (r 5),.int .i64 (r 6),.int .i64 (r 7)]
theorem snew_any (id kind par:Int) (u2 u3:Value) (r:Nat->Int) (w:World):Calls Tryz.prog 22 #[.agg (spNodeV id kind par u2 u3 r)] w (NewOut kind par r w):=by
 have b1:=Blk.new w 66 (spNodeV id kind par u2 u3 r);have f1:=(Fr.refl w.heap.size [] w).alloc (Nat.le_refl _) (.cells (spNodeV id kind par u2 u3 r) 66)
 by_cases hk:kind=0
 ·
  subst hk;have HR:=zh (right_any par r);go_enter Tryz.func22,Tryz.ntmps22;go_wp2_with fail;generalize w.alloc _=w1 at *;refine (HR.out _).mono ?_;rintro e w2 ⟨rfl,f2⟩;have b2:=zh (b1.fr f2 b1.lt (by simp));have F2:=zh (f1.trans (f2.mono f1.size (by simp)));clear b1 f1 f2
  cases hrt:right8 par r with
  | false =>
   go_wp2_with fail;go_ret2;exact .inr ⟨(fun h=>by rw [h.2] at hrt;cases hrt),rfl,F2.out⟩
  | true =>
   have hp:1<=par/\par<=3:=by
    unfold right8 at hrt;simp only [Bool.and_eq_true,decide_eq_true_eq] at hrt;exact hrt.1
   obtain ⟨P,hP⟩:∃ P:Nat,par=(P:Int):=⟨par.toNat,by omega⟩;subst hP;have h1:1<=P:=(by omega);have h3':P<=3:=(by omega);have HM:=mkparts h1 h3';have HRT:=zh hrt;have c4:=b2.out.cell 4;have c5:=b2.out.cell 5;have c6:=b2.out.cell 6;have c7:=b2.out.cell 7;have c8:=b2.out.cell 8;have c9:=b2.out.cell 9;have c10:=b2.out.cell 10;have c11:=b2.out.cell 11;have c12:=b2.out.cell 12;have hlt:=b2.out.lt;simp at c4 c5 c6 c7 c8 c9 c10 c11 c12;clear hrt;go_wp2_with fail;go_region
   all_goals
    have e1:(w2.alloc (.cells (ptC P noV noA) 162)).heap.size=w2.heap.size+1:=(by simp);have hs:=Blk.new (w2.alloc (.cells (ptC P noV noA) 162)) 149 (srcR r w2.heap.size P);rw [e1] at hs;have hp:=(Blk.new w2 162 (ptC P noV noA)).alloc (.cells (srcR r w2.heap.size P) 149);have hfr:=((Fr.refl w2.heap.size [] w2).alloc (Nat.le_refl _) (.cells (ptC P noV noA) 162)).alloc (by simp) (.cells (srcR r w2.heap.size P) 149);go_wp2_with fail;go_ret2;exact .inl ⟨rfl,HRT.out,P,w2.heap.size+1,w2.heap.size,rfl,rfl,⟨⟨h1,h3'⟩,hs.drew,hp.drew,fun i hi=>World.ownsRow_nil _ _ _ _,fun i j _ _ _=>.inl rfl⟩,⟨by have:=F2.out.size;omega,F2.out.size⟩,F2.out.trans (hfr.drew.mono F2.out.size (by simp))⟩
 · go_enter Tryz.func22,Tryz.ntmps22;go_wp2_with fail;go_ret2;exact .inr ⟨fun h=>hk h.1,rfl,f1⟩
end Go.Proofs.YtgblfflikgnfpaaGreat
namespace Go.Proofs.YtgblfflikgnfpaaGreat
open Go.RowKit Go.Fb
set_option maxRecDepth 100000
set_option maxHeartbeats 16000000
set_option linter.unusedVariables false
abbrev recA (x:Nat->Int):Array Value:=#[.int .i64 (x 0),.int .i64 (x 1),.int .i64 (x 2)]
abbrev rec0:Array Value:=#[.int .i64 0,.int .i64 0,.int .i64 0]
def set3 (w:World) (g:Nat) (u0 u1 u2:Value):World:=((w.setCell ⟨g,0,none⟩ u0).setCell ⟨g,1,none⟩ u1).setCell ⟨g,2,none⟩ u2
theorem blk_set3 {w:World} {g t:Nat} {a0 a1 a2:Value} (h:Blk w g t #[a0,a1,a2]) (u0 u1 u2:Value):Blk (set3 w g u0 u1 u2) g t #[u0,u1,u2]:=by
 have h2:=((h.set_ 0 u0).set_ 1 u1).set_ 2 u2;simp at h2;exact h2
theorem fr_set3 {B g:Nat} {L:List Nat} {a w:World} (h:Fr B L a w) (hg:B<=g \/ g ∈ L) (u0 u1 u2:Value):Fr B L a (set3 w g u0 u1 u2) :=
 ((h.setCell (p:=⟨g,0,none⟩) hg _).setCell (p:=⟨g,1,none⟩) hg _).setCell (p:=⟨g,2,none⟩) hg _

theorem recC_one {l:List (Nat->Int)}:∀ u ∈ cellsR l,u.oneCell'=true:=by
 intro u hu;obtain ⟨x,_,hx⟩:=List.mem_flatMap.1 hu;simp only [recC,List.mem_cons,List.not_mem_nil,or_false] at hx
 rcases hx with rfl | rfl | rfl <;> rfl
theorem owns_empty (w:World):(w.alloc (.cells #[] 32)).ownsRow w.heap.size 32 3 (.slice (some ⟨w.heap.size,0,none⟩) 0 0) 0 []:=by
 refine ⟨rfl,.inr ⟨w.heap.size,0,#[],rfl,Nat.le_refl _,Blk.new _ _ _,?_⟩⟩;simp
theorem recs_nil (A:Option Addr) (n c:Nat) (w:World):(binOp .eql 22 (.slice A n c) (.slice none 0 0)).run Tryz.prog w=.ok (.bool A.isNone) w:=by
 simp only [binOp];simp [run_equal_slice_nil w _ _ A n c Tryz.underlying22]
theorem clone_any (A:Option Addr) (n c:Nat) (l:List (Nat->Int)) (w:World) (hl:n=l.length) (hn:n<=1000) (hr:Reads w w.heap.size 3 A n (cellsR l)) :
  Calls Tryz.prog 73 #[.slice A n c] w fun e w'=>∃ A' c',e=.returned (.slice A' n c')/\w'.ownsRow w.heap.size 32 3 (.slice A' n c') n (cellsR l)/\Fr w.heap.size [] w w':=by
 rcases A with _ | ad
 ·
  have h0:n=0:=by
   rcases Nat.eq_zero_or_pos n with h | h
   · exact h
   ·
    obtain ⟨b,off,e,_⟩:=hr.2 h
    cases e
  subst h0;have hle:l=[]:=List.eq_nil_of_length_eq_zero hl.symm;subst hle;have hq:∀ w,(binOp .eql 22 (.slice none 0 c) (.slice none 0 0)).run Tryz.prog w=.ok (.bool true) w:=recs_nil none 0 c;clear hr hn hl;go_enter Tryz.func73,Tryz.ntmps73;go_wp2_with fail;go_ret;exact ⟨none,0,rfl,World.ownsRow_nil _ _ _ _,Fr.refl _ _ _⟩
 · have ho:=owns_empty w;have hf:=(Fr.refl w.heap.size [] w).alloc (Nat.le_refl _) (.cells #[] 32);have hr1:=hr.fr hf (Nat.le_refl _) (by simp);have hs:w.heap.size < (w.alloc (.cells #[] 32)).heap.size:=(by simp);have hq:∀ w,(binOp .eql 22 (.slice (some ad) n c) (.slice none 0 0)).run Tryz.prog w=.ok (.bool false) w:=recs_nil (some ad) n c;clear hr hl;go_enter Tryz.func73,Tryz.ntmps73;go_wp2_with (at_builtin;refine wpList_app _ rfl (.tmp 5) (.tmp 6) recTy rfl w.heap.size (.slice (some ⟨w.heap.size,0,none⟩) 0 0) 0 [] rfl ho w.heap.size _ n _ (cellsR l) rfl hr1 recC_one (by omega) (by omega) (by simp) ?_;intro A2 c2 w2 hown2 hg2 hat2);go_ret;rw [Nat.zero_add] at hown2;exact ⟨A2,c2,rfl,by simpa using hown2,hf.grown hg2 (by simp) (fun k hk=>.inl (by simp [Value.ownBlock] at hk;omega))⟩


end Go.Proofs.YtgblfflikgnfpaaGreat
