/- Texts merged into one, for the number of files a claim may have: CtE, TaE, TaF, TaG, TaH, TaI, Rg, RgS. -/
import Derived.Test.YtgblfflikgnfpaaGreatTk
import Derived.Test.YtgblfflikgnfpaaGreatTY4
import Derived.Test.YtgblfflikgnfpaaGreatTY5
import Derived.Test.YtgblfflikgnfpaaGreatTY6
import Derived.Test.YtgblfflikgnfpaaGreatTY9
import Derived.Test.YtgblfflikgnfpaaGreatTY12
import Derived.Test.YtgblfflikgnfpaaGreatTY14
import Derived.Shelf.SlMaps.Clone
namespace Go.Proofs.YtgblfflikgnfpaaGreat
open Go.RowKit Go.Fb
set_option maxRecDepth 100000
set_option maxHeartbeats 16000000
set_option linter.unusedVariables false
theorem all1_any (p:Pk) (w:World):Calls Tryz.prog 110 #[pkV p] w fun e w'=>e=.returned (.bool true)/\Fr w.heap.size [] w w':=by
 go_enter Tryz.func110,Tryz.ntmps110;go_wp2_with fail;go_ret;exact ⟨rfl,(Fr.refl _ _ _).alloc (Nat.le_refl _) _⟩
theorem call_any (gt gm:Nat) (T:Pk->CV) (hok:TOk T) (w:World) (h:CT w gt gm T) :
  Calls Tryz.prog 70 #[.pointer (some ⟨gt,0,none⟩)] w (EntsOut (allT T) w):=by
 have H:=zh (csome_any 110 #[] (fun _=>true) gt gm T hok w h (enters_of Tryz.func110 (by kernel_rfl) rfl) (fun p w' _=>by exact all1_any p w'));obtain ⟨l,hl⟩:=nm (allT T);have H2:=zh (by rw [hl];exact H.out:Calls Tryz.prog 109 #[.pointer (some ⟨gt,0,none⟩),.func (.func 110) #[] #[]] w (EntsOut l w));rw [<- hl];clear H hl h hok;go_enter Tryz.func70,Tryz.ntmps70;go_wp2_with fail;refine H2.out.mono ?_;rintro e w' ⟨A,c,rfl,h1,h2,h3,h4⟩;have P:=zh (And.intro h1 (And.intro h2 (And.intro h3 h4)));clear h1 h2 h3 h4 H2;go_wp2_with fail;go_ret;exact ⟨A,c,rfl,P.out.1,P.out.2.1,P.out.2.2.1,P.out.2.2.2⟩
end Go.Proofs.YtgblfflikgnfpaaGreat
namespace Go.Proofs.YtgblfflikgnfpaaGreat
open Go.RowKit Go.Fb
set_option maxRecDepth 100000
set_option maxHeartbeats 16000000
set_option linter.unusedVariables false
theorem puts_next (S:TaskS) (i:Itm) (k:Nat):S.puts i (k+1)=(S.puts i k).put k i:=by unfold TaskS.puts;rw [List.range_succ,List.foldl_append];rfl
theorem put_same (S:TaskS) (k:Nat) (i:Itm):(S.put k i).nd=S.nd/\(S.put k i).ix=S.ix/\(S.put k i).T=S.T/\(S.put k i).lns=S.lns/\(S.put k i).om=S.om/\(S.put k i).im=S.im/\(S.put k i).kids=S.kids/\(S.put k i).ins=S.ins/\(S.put k i).outs.length=S.outs.length/\(∀ j,j ≠ k->(S.put k i).outs[j]?=S.outs[j]?)/\(S.put k i).out.length<=S.out.length+1:=by
 unfold TaskS.put
 split
 · exact ⟨rfl,rfl,rfl,rfl,rfl,rfl,rfl,rfl,rfl,fun _ _=>rfl,Nat.le_succ _⟩
 · rename_i o ho;refine ⟨rfl,rfl,rfl,rfl,rfl,rfl,rfl,rfl,by simp,fun j hj=>by simp only [];rw [List.getElem?_set_ne (by omega)],?_⟩;simp only [List.length_append];have:=send_few (putS i.put) o;omega
theorem puts_same (S:TaskS) (i:Itm):∀ k,(S.puts i k).om=S.om/\(S.puts i k).outs.length=S.outs.length/\(∀ j,k<=j->(S.puts i k).outs[j]?=S.outs[j]?)/\(S.puts i k).out.length<=S.out.length+k
 | 0=>⟨rfl,rfl,fun _ _=>rfl,Nat.le_refl _⟩
 | k+1=>by
  obtain ⟨h1,h2,h3,h4⟩:=puts_same S i k;obtain ⟨p1,p2,p3,p4,p5,p6,p7,p8,p9,p10,p11⟩:=put_same (S.puts i k) k i;rw [puts_next];exact ⟨p5.trans h1,p9.trans h2,fun j hj=>(p10 j (by omega)).trans (h3 j (by omega)),by omega⟩
abbrev ackV (a:AckS) (eA:Option Addr) (ec:Nat) (lA:Option Addr) (lc:Nat):Array Value:=#[.int .i64 a.node,.int .i64 a.ix,.int .i64 a.ep,.slice eA a.ents.length ec,.slice lA a.lns.length lc,.int .i64 a.off]
def BarOut (col:Nat->Nat) (g:Nat) (S':TaskS) (X:TX) (a:AckS) (w:World) (e:Ending) (w':World):Prop :=
 ∃ uA uc eA ec lA lc col',e=.returned (.agg (ackV a eA ec lA lc))/\CRd col' 12 w' 6 eA a.ents.length (cellsE a.ents)/\CRd col' 12 w' 5 lA a.lns.length (cellsLn a.lns)/\TaskM col' w' g S' { X with uA:=uA,uc:=uc }/\Cg SC col w col' w'
theorem own_up {w:World} {base e size n c:Nat} {A:Option Addr} {xs:List Value} (h:w.ownsRow base e size (.slice A n c) n xs):∀ ad,A=some ad->ad.block < w.heap.size:=by
 rintro ad rfl;exact (h.lt _ rfl).2
theorem own_low {w:World} {base e size n c:Nat} {A:Option Addr} {xs:List Value} (h:w.ownsRow base e size (.slice A n c) n xs):∀ ad,A=some ad->base<=ad.block:=by
 rintro ad rfl
 rcases h.2 with ⟨hv,_⟩ | ⟨g',cap,cur,hv,hb,_⟩
 · cases hv
 ·
  injection hv with hv _ _
  injection hv with hv
  rw [hv];exact hb
section
variable {col:Nat->Nat} {w:World} {g:Nat} {S:TaskS} {X:TX}
theorem barrier_any (h:TaskM col w g S X) (hok:TOk S.T) (hln:S.lns.length<=1000000) (hq:S.out.length<=900000) (ho:∀ o ∈ S.outs,o.ws.length<=6/\0<=o.last/\o.last<=1099511627776) (i:Itm) (off:Int) :
  Calls Tryz.prog 101 #[.pointer (some ⟨g,0,none⟩),.agg i.cs,.int .i64 off] w (BarOut col g (S.puts i S.om.length) X (S.ack i off) w):=by
 obtain ⟨col1,hcol1⟩:=nm (paint col w.heap.size 12);have HC1:=zh hcol1;have CG1:=zh (fun W (hf:Fr w.heap.size [] w W)=>(by rw [hcol1];exact (cgf SC hf).paint 12:Cg SC col w col1 W));have HM:=zh (fun W (hf:Fr w.heap.size [] w W)=>(by rw [hcol1];exact h.cg ((cg0 hf).paint 12) (fun _ _ h=>h):TaskM col1 W g S X));have HL:=zh (fun W (hf:Fr w.heap.size [] w W)=>lines_any (h.fr0 hf) hln);have BI:=zh ((Blk.new w 46 i.cs).alloc (.cells #[.int .i64 0,.int .i64 0,.int .i64 0,.slice none 0 0,.slice none 0 0,.int .i64 0] 72));have BR:=Blk.new (w.alloc (.cells i.cs 46)) 72 #[.int .i64 0,.int .i64 0,.int .i64 0,.slice none 0 0,.slice none 0 0,.int .i64 0];rw [World.size_alloc] at BR;replace BR:=zh BR;have F1:=zh (((Fr.refl w.heap.size [] w).alloc (Nat.le_refl _) (.cells i.cs 46)).alloc (by simp) (.cells #[.int .i64 0,.int .i64 0,.int .i64 0,.slice none 0 0,.slice none 0 0,.int .i64 0] 72));have BT:=zh (((h.st.b.alloc (.cells i.cs 46)).alloc (.cells #[.int .i64 0,.int .i64 0,.int .i64 0,.slice none 0 0,.slice none 0 0,.int .i64 0] 72)));have HO:=zh ho;have HOK:=zh hok;have HFW:=zh h.few;have HGO:=zh h.go;have HOL:=zh h.ol;clear hcol1 ho hok h;go_enter Tryz.func101,Tryz.ntmps101;go_upto_region 1 with fail;generalize (w.alloc _).alloc _=wb at *;go_cut [7] (fun s7 wx=>∃ ga lA lc,s7=.pointer (some ⟨ga,0,none⟩)/\w.heap.size+2<=ga/\Hid (Blk wx ga 72 #[.int .i64 S.nd.id,.int .i64 S.ix,.int .i64 i.ep,.slice none 0 0,.slice lA S.lns.length lc,.int .i64 off])/\Hid (Reads wx wx.heap.size 5 lA S.lns.length (cellsLn S.lns) /\ ∀ ad,lA=some ad->w.heap.size+2<=ad.block/\ad.block ≠ ga)/\Hid (Fr wb.heap.size [] wb wx))
 case first =>
  have INV:=zh (Fr.refl wb.heap.size [] wb).drew;have SF:=zh (fun (W:World) (hf:Fr wb.heap.size [] wb W)=>(⟨(BT.out.fr hf BT.out.lt (by simp)).cell 2,(BT.out.fr hf BT.out.lt (by simp)).cell 15,(BI.out.fr hf BI.out.lt (by simp)).cell 4⟩:W.cell? ⟨g,2,none⟩=some (.int .i64 S.nd.id)/\W.cell? ⟨g,15,none⟩=some (.int .i64 S.ix)/\W.cell? ⟨w.heap.size,4,none⟩=some (.int .i64 i.ep)));refine wp_region_held_drew (S:=fun W=>W.cell? ⟨g,2,none⟩=some (.int .i64 S.nd.id)/\W.cell? ⟨g,15,none⟩=some (.int .i64 S.ix)/\W.cell? ⟨w.heap.size,4,none⟩=some (.int .i64 i.ep)) (by kernel_rfl) (SF.out _ INV.out) (fun hHeld => ?_);refine tk (i:=0) (oi:=⟨some 10,_,_,_,_,_⟩) (v:=?_) rfl ?_ hHeld ?_
  rotate_left
  · intro w hSw;(try dsimp only at hSw);go_simp;(try with_reducible rfl)
  simp only [Act.put,lPt];refine tk (i:=1) (oi:=⟨some 11,_,_,_,_,_⟩) (v:=?_) rfl ?_ hHeld ?_
  rotate_left
  · intro w hSw;(try dsimp only at hSw);go_simp;(try with_reducible rfl)
  simp only [Act.put,lPt];refine tk (i:=2) (oi:=⟨some 12,_,_,_,_,_⟩) (v:=?_) rfl ?_ hHeld ?_
  rotate_left
  · intro w hSw;(try dsimp only at hSw);go_simp;(try with_reducible rfl)
  simp only [Act.put,lPt];refine tk (i:=3) (oi:=⟨some 13,_,_,_,_,_⟩) (v:=?_) rfl ?_ hHeld ?_
  rotate_left
  · intro w hSw;(try dsimp only at hSw);go_simp;(try with_reducible rfl)
  simp only [Act.put,lPt];refine tk (i:=4) (oi:=⟨some 14,_,_,_,_,_⟩) (v:=?_) rfl ?_ hHeld ?_
  rotate_left
  · intro w hSw;(try dsimp only at hSw);go_simp;(try with_reducible rfl)
  simp only [Act.put,lPt];refine tk (i:=5) (oi:=⟨some 15,_,_,_,_,_⟩) (v:=?_) rfl ?_ hHeld ?_
  rotate_left
  · intro w hSw;(try dsimp only at hSw);go_simp;(try with_reducible rfl)
  simp only [Act.put,lPt];refine tk (i:=6) (oi:=⟨some 16,_,_,_,_,_⟩) (v:=?_) rfl ?_ hHeld ?_
  rotate_left
  · intro w hSw;(try dsimp only at hSw);go_simp;(try with_reducible rfl)
  simp only [Act.put,lPt];refine tk (i:=7) (oi:=⟨some 17,_,_,_,_,_⟩) (v:=?_) rfl ?_ hHeld ?_
  rotate_left
  · intro w hSw;(try dsimp only at hSw);go_simp;(try with_reducible rfl)
  simp only [Act.put,lPt];refine tk (i:=8) (oi:=⟨some 18,_,_,_,_,_⟩) (v:=?_) rfl ?_ hHeld ?_
  rotate_left
  · intro w hSw;(try dsimp only at hSw);go_simp;(try with_reducible rfl)
  simp only [Act.put,lPt];refine tk (i:=9) (oi:=⟨some 19,_,_,_,_,_⟩) (v:=?_) rfl ?_ hHeld ?_
  rotate_left
  · intro w hSw;(try dsimp only at hSw);go_simp;(try with_reducible rfl)
  simp only [Act.put,lPt];refine tk (i:=10) (oi:=⟨some 20,_,_,_,_,_⟩) (v:=?_) rfl ?_ hHeld ?_
  rotate_left
  · intro w hSw;(try dsimp only at hSw);go_simp;(try with_reducible rfl)
  simp only [Act.put,lPt];refine tk (i:=11) (oi:=⟨some 21,_,_,_,_,_⟩) (v:=?_) rfl ?_ hHeld ?_
  rotate_left
  · intro w hSw;(try dsimp only at hSw);go_simp;(try with_reducible rfl)
  simp only [Act.put,lPt];refine tk (i:=13) (oi:=⟨some 23,_,_,_,_,_⟩) (v:=?_) rfl ?_ hHeld ?_
  rotate_left
  · intro w hSw;(try dsimp only at hSw);go_simp;(try with_reducible rfl)
  simp only [Act.put,lPt];refine wpAnyH_ready (rs:=[12,15]) (by kernel_rfl) (by simp) ?_;refine AllReadyH.cons (o:=⟨some 22,_,_,_,_,_⟩) rfl (fun K hK => ?_) (AllReadyH.cons (o:=⟨some 7,_,_,_,_,_⟩) rfl (fun K hK => ?_) AllReadyH.nil)
  ·
   skip
   rw [if_pos (by rfl)];go_simp;refine (HL.out _ (F1.out.nx INV.out)).mono ?_;rintro e w2 ⟨lA,lc,rfl,hown,f2⟩;have HLR:=zh (Reads.of_own hown);have HLT:=zh (own_up hown);have HLB:=zh (fun ad (ha:lA=some ad)=>Nat.le_trans (Nat.le_trans BR.out.lt INV.out.size) (own_low hown ad ha));have INV:=zh (INV.out.nx f2);clear hown f2;refine hK.out _ _ (SF.out _ INV.out) (fun hHeld => ?_);clear hK K
   try simp only [Act.put,lPt]
   refine tk (i:=14) (oi:=⟨some 24,_,_,_,_,_⟩) (v:=?_) rfl ?_ hHeld ?_
   rotate_left
   · intro w hSw;(try dsimp only at hSw);go_simp;(try with_reducible rfl)
   simp only [Act.put,lPt];refine wpAnyH_ready (rs:=[15]) (by kernel_rfl) (by simp) ?_;refine AllReadyH.cons (o:=⟨some 7,_,_,_,_,_⟩) rfl (fun K hK => ?_) AllReadyH.nil;rw [if_pos (by rfl)];go_simp;have HAB:=zh ((fun (W:World) (hf:Fr wb.heap.size [] wb W)=>Blk.new W 72 #[.int .i64 0,.int .i64 0,.int .i64 0,.slice none 0 0,.slice none 0 0,.int .i64 0]) _ INV.out);have HAG:=zh (INV.out.size);have INVP:=INV;have INV:=zh (INV.out.alloc INV.out.size (.cells #[.int .i64 0,.int .i64 0,.int .i64 0,.slice none 0 0,.slice none 0 0,.int .i64 0] 72));refine hK.out _ _ (SF.out _ INV.out) (fun hHeld => ?_);clear hK K
   try simp only [Act.put,lPt]
   refine wpAnyH_ready (rs:=[16]) (by kernel_rfl) (by simp) ?_;refine AllReadyH.cons (o:=⟨none,_,_,_,_,_⟩) rfl (fun K hK => ?_) AllReadyH.nil;rw [if_pos (by rfl)];go_simp;have INV:=zh (INVP.out.alloc INVP.out.size (.cells #[.int .i64 S.nd.id,.int .i64 S.ix,.int .i64 i.ep,.slice none 0 0,.slice lA S.lns.length lc,.int .i64 off] 72));have HAB:=zh (Blk.new w2 72 #[.int .i64 S.nd.id,.int .i64 S.ix,.int .i64 i.ep,.slice none 0 0,.slice lA S.lns.length lc,.int .i64 off]);refine hK.out _ _ (SF.out _ INV.out) (fun hHeld => ?_);clear hK K
   try simp only [Act.put]
   refine wpAnyH_done (by kernel_rfl) ?_ _;go_wp2_with fail;go_meet;exact ⟨w2.heap.size,lA,lc,rfl,Nat.le_trans (by have:=F1.out.size;have:=BR.out.lt;omega) HAG.out,HAB,zh ⟨HLR.out.fr ((Fr.refl w2.heap.size [] w2).alloc (Nat.le_refl _) _) (Nat.le_refl _) (by simp) |>.more (by simp),fun ad ha=>⟨HLB.out ad ha,Nat.ne_of_lt (HLT.out ad ha)⟩⟩,INV⟩
  ·
   skip
   rw [if_pos (by rfl)];go_simp;have HAB:=zh ((fun (W:World) (hf:Fr wb.heap.size [] wb W)=>Blk.new W 72 #[.int .i64 0,.int .i64 0,.int .i64 0,.slice none 0 0,.slice none 0 0,.int .i64 0]) _ INV.out);have HAG:=zh (INV.out.size);have INVP:=INV;have INV:=zh (INV.out.alloc INV.out.size (.cells #[.int .i64 0,.int .i64 0,.int .i64 0,.slice none 0 0,.slice none 0 0,.int .i64 0] 72));refine hK.out _ _ (SF.out _ INV.out) (fun hHeld => ?_);clear hK K
   try simp only [Act.put,lPt]
   refine wpAnyH_ready (rs:=[12]) (by kernel_rfl) (by simp) ?_;refine AllReadyH.cons (o:=⟨some 22,_,_,_,_,_⟩) rfl (fun K hK => ?_) AllReadyH.nil;rw [if_pos (by rfl)];go_simp;refine (HL.out _ (F1.out.nx INV.out)).mono ?_;rintro e w2 ⟨lA,lc,rfl,hown,f2⟩;have HLR:=zh (Reads.of_own hown);have HLT:=zh (own_up hown);have HLB:=zh (fun ad (ha:lA=some ad)=>Nat.le_trans (Nat.le_trans BR.out.lt INV.out.size) (own_low hown ad ha));have HLN:=zh (fun ad (ha:lA=some ad)=>(fun (e:ad.block=wb.heap.size)=>by have h1:=own_low hown ad ha;have h2:=HAB.out.lt;rw [e] at h1;exact absurd h1 (Nat.not_le.2 h2):ad.block ≠ wb.heap.size));have HAB:=zh (HAB.out.fr f2 HAB.out.lt (by simp));have INV:=zh (INV.out.nx f2);clear hown f2;refine hK.out _ _ (SF.out _ INV.out) (fun hHeld => ?_);clear hK K
   try simp only [Act.put,lPt]
   refine tk (i:=14) (oi:=⟨some 24,_,_,_,_,_⟩) (v:=?_) rfl ?_ hHeld ?_
   rotate_left
   · intro w hSw;(try dsimp only at hSw);go_simp;(try with_reducible rfl)
   simp only [Act.put,lPt];refine wpAnyH_ready (rs:=[16]) (by kernel_rfl) (by simp) ?_;refine AllReadyH.cons (o:=⟨none,_,_,_,_,_⟩) rfl (fun K hK => ?_) AllReadyH.nil;rw [if_pos (by rfl)];have a0:=HAB.out.cell 0;have a1:=HAB.out.cell 1;have a2:=HAB.out.cell 2;have a3:=HAB.out.cell 3;have a4:=HAB.out.cell 4;have a5:=HAB.out.cell 5;simp at a0 a1 a2 a3 a4 a5;have z0:w2.frozen? ⟨wb.heap.size,0,none⟩=false:=HAB.out.frozen 0;have z1:w2.frozen? ⟨wb.heap.size,1,none⟩=false:=HAB.out.frozen 1;have z2:w2.frozen? ⟨wb.heap.size,2,none⟩=false:=HAB.out.frozen 2;have z3:w2.frozen? ⟨wb.heap.size,3,none⟩=false:=HAB.out.frozen 3;have z4:w2.frozen? ⟨wb.heap.size,4,none⟩=false:=HAB.out.frozen 4;have z5:w2.frozen? ⟨wb.heap.size,5,none⟩=false:=HAB.out.frozen 5;go_simp;have HAB:=zh (blk_set6 HAB.out (.int .i64 S.nd.id) (.int .i64 S.ix) (.int .i64 i.ep) (.slice none 0 0) (.slice lA S.lns.length lc) (.int .i64 off));have INV:=zh (fr_set6 INV.out (.inl (Nat.le_refl _)) (.int .i64 S.nd.id) (.int .i64 S.ix) (.int .i64 i.ep) (.slice none 0 0) (.slice lA S.lns.length lc) (.int .i64 off));have HLR:=zh (HLR.out.frL (fr_set6 (g:=wb.heap.size) (L:=[wb.heap.size]) (Fr.refl w2.heap.size [wb.heap.size] w2) (.inr (by simp)) (.int .i64 S.nd.id) (.int .i64 S.ix) (.int .i64 i.ep) (.slice none 0 0) (.slice lA S.lns.length lc) (.int .i64 off)) (Nat.le_refl _) (fun _ ad ha hm=>HLN.out ad ha (by simpa using hm)));refine hK.out _ _ (SF.out _ INV.out) (fun hHeld => ?_);clear hK K
   try simp only [Act.put]
   refine wpAnyH_done (by kernel_rfl) ?_ _;go_wp2_with fail;go_meet;exact ⟨wb.heap.size,lA,lc,rfl,by have:=BR.out.lt;omega,HAB,zh ⟨HLR.out.more (by simp),fun ad ha=>⟨HLB.out ad ha,HLN.out ad ha⟩⟩,INV⟩
 case rest =>
  obtain ⟨ga,lA,lc,rfl,hga,HAB,HLR,FC⟩:=hcut;have BTC:=zh (BT.out.fr FC.out BT.out.lt (by simp));have BIC:=zh (BI.out.fr FC.out BI.out.lt (by simp));have BRC:=zh (BR.out.fr FC.out BR.out.lt (by simp));have FW:=zh (F1.out.nx FC.out);clear BT BI BR F1 FC HL;have t3:=BTC.out.cell 3;replace t3:wc.cell? ⟨g,3,none⟩=some (.int .i64 S.nd.kind):=t3;have t0:=BTC.out.cell 0;replace t0:wc.cell? ⟨g,0,none⟩=some (.pointer (some ⟨X.tb,0,none⟩)):=t0;have hgal:=HAB.out.lt
  rcases Int.decEq S.nd.kind 1 with hk | hk
  case' isTrue =>
   have HAL:=zh (call_any X.tb X.tm S.T HOK.out wc (HM.out wc FW.out).tab);have hents:(S.ack i off).ents=allT S.T:=(by unfold TaskS.ack;simp only [];rw [if_pos hk]);rw [hk] at t3;go_wp2_with fail;refine HAL.out.mono ?_;rintro e wd ⟨eA,ec,rfl,hrd,_,hbl,fd⟩;rw [<- hents] at hrd ⊢;have HAD:=zh (HAB.out.fr fd hgal (by simp));have a3:=HAD.out.cell 3;have z3:wd.frozen? ⟨ga,3,none⟩=false:=HAD.out.frozen 3;simp at a3;have HER:=zh hrd;have HEB:=zh (fun ad (ha:eA=some ad)=>Nat.le_trans BRC.out.lt (hbl ad ha));have HEC:=zh hbl;have FD:=zh fd;clear hrd hbl fd hents HAL;have A4:=zh (HAD.out.set_ 3 (.slice eA (S.ack i off).ents.length ec));have fs:=(Fr.refl wd.heap.size [ga] wd).setCell (p:=⟨ga,3,none⟩) (.inr (by simp)) (.slice eA (S.ack i off).ents.length ec);have ER4:=zh (HER.out.frL fs (Nat.le_refl _) (fun _ ad ha hm=>by have h1:=HEC.out ad ha;simp at hm;omega));have LR4:=zh ((HLR.out.1.fr FD.out (Nat.le_refl _) (by simp)).frL (fs.mono FD.out.size (fun _ h _=>h)) (Nat.le_refl _) (fun _ ad ha hm=>(HLR.out.2 ad ha).2 (by simpa using hm)));have F4:=zh ((FW.out.nx FD.out).trans (fs.mono (L':=[]) (Nat.le_trans FW.out.size FD.out.size) (fun q hq hlt=>by simp at hq;omega)));have BI4:=zh ((BIC.out.fr FD.out BIC.out.lt (by simp)).far (p:=⟨ga,3,none⟩) (show w.heap.size ≠ ga by omega) (.slice eA (S.ack i off).ents.length ec));have BR4:=zh ((BRC.out.fr FD.out BRC.out.lt (by simp)).far (p:=⟨ga,3,none⟩) (show w.heap.size+1 ≠ ga by omega) (.slice eA (S.ack i off).ents.length ec));have hsz:wd.heap.size=(wd.setCell ⟨ga,3,none⟩ (.slice eA (S.ack i off).ents.length ec)).heap.size:=(by simp);go_upto_region 4 with fail;replace ER4:=zh (ER4.out.more (Nat.le_of_eq hsz));replace LR4:=zh (LR4.out.more (Nat.le_trans FD.out.size (Nat.le_of_eq hsz)));generalize wd.setCell _ _=wx at *;clear HAD HER FD fs a3 z3 hsz HAB
  case' isFalse =>
   have hents:(S.ack i off).ents=[]:=(by unfold TaskS.ack;simp only [];rw [if_neg hk]);have hke:(S.nd.kind == 1)=false:=(by rw [beq_eq_false_iff_ne];exact hk);obtain ⟨eA,heA⟩:=nm (none:Option Addr);obtain ⟨ec,hec⟩:=nm (0:Nat);have A4:=zh (by rw [hents,heA,hec];exact HAB.out:Blk wc ga 72 #[.int .i64 S.nd.id,.int .i64 S.ix,.int .i64 i.ep,.slice eA (S.ack i off).ents.length ec,.slice lA S.lns.length lc,.int .i64 off]);have ER4:=zh (by rw [hents];exact ⟨rfl,fun h=>absurd h (by simp)⟩:Reads wc wc.heap.size 6 eA (S.ack i off).ents.length (cellsE (S.ack i off).ents));have HEB:=zh (fun ad (ha:eA=some ad)=>(show w.heap.size+1+1<=ad.block by rw [heA] at ha;cases ha));have LR4:=zh HLR.out.1;have F4:=zh FW.out;have BI4:=BIC;have BR4:=BRC;go_upto_region 4 with fail;generalize wc=wx at *;clear hents heA hec HAB hke
  all_goals
   have hn1:wx.cell? ⟨g,18,none⟩=some (.slice X.oA S.om.length X.oc):=(HM.out wx F4.out).st.b.cell 18;have T4:=zh (HM.out wx F4.out);have C4:=zh (CG1.out wx F4.out);have KA:∀ q,w.heap.size<=q->col1 q=12:=fun q hq=>by rw [HC1.out];exact paint_ge hq
   have BA4:=zh (⟨A4.out,KA _ (by omega)⟩:CB col1 12 wx ga 72 #[.int .i64 S.nd.id,.int .i64 S.ix,.int .i64 i.ep,.slice eA (S.ack i off).ents.length ec,.slice lA S.lns.length lc,.int .i64 off]);have BI5:=zh (⟨BI4.out,KA _ (Nat.le_refl _)⟩:CB col1 12 wx w.heap.size 46 i.cs);have BR5:=zh (⟨BR4.out,KA _ (Nat.le_succ _)⟩:CB col1 12 wx (w.heap.size+1) 72 #[.int .i64 0,.int .i64 0,.int .i64 0,.slice none 0 0,.slice none 0 0,.int .i64 0]);have ER5:=zh (⟨ER4.out,fun ad ha _=>KA _ (by have:=HEB.out ad ha;omega)⟩:CRd col1 12 wx 6 eA (S.ack i off).ents.length (cellsE (S.ack i off).ents));have LR5:=zh (⟨LR4.out,fun ad ha _=>KA _ (by have:=(HLR.out.2 ad ha).1;omega)⟩:CRd col1 12 wx 5 lA S.lns.length (cellsLn S.lns));have HLB:=zh (fun ad (ha:lA=some ad)=>(HLR.out.2 ad ha).1);clear BTC BIC BRC FW A4 ER4 LR4 F4 BI4 BR4 HLR KA HM CG1 HOK;go_upto_region 5 with fail;go_loopg [9,42] (S.om.length) (fun q s9 s42 wr=>∃ j:Nat,j<=S.om.length/\q=S.om.length - j/\s42=.int .i64 j/\(s9=undef \/ ∃ a,s9=.pointer a)/\∃ uA uc colr,Hid (TaskM colr wr g (S.puts i j) { X with uA:=uA,uc:=uc })/\Hid (CB colr 12 wr ga 72 #[.int .i64 S.nd.id,.int .i64 S.ix,.int .i64 i.ep,.slice eA (S.ack i off).ents.length ec,.slice lA S.lns.length lc,.int .i64 off])/\Hid (CB colr 12 wr w.heap.size 46 i.cs)/\Hid (CB colr 12 wr (w.heap.size+1) 72 #[.int .i64 0,.int .i64 0,.int .i64 0,.slice none 0 0,.slice none 0 0,.int .i64 0])/\Hid (CRd colr 12 wr 6 eA (S.ack i off).ents.length (cellsE (S.ack i off).ents))/\Hid (CRd colr 12 wr 5 lA S.lns.length (cellsLn S.lns))/\Hid (Cg SC col w colr wr))
   case atStart=>exact ⟨0,Nat.zero_le _,by omega,rfl,.inl rfl,X.uA,X.uc,col1,T4,BA4,BI5,BR5,ER5,LR5,C4⟩
   case round =>
    clear T4 BA4 BI5 BR5 ER5 LR5 C4 hn1;obtain ⟨j,hj,rfl,rfl,hs9,uA,uc,colr,T,BA,BIx,BRx,ER,LR,CC⟩:=hrel;obtain ⟨ps1,ps2,ps3,ps4⟩:=puts_same S i j;have PS1:=zh ps1;have PS3:=zh ps3;have hj30:j<=30:=(by have:=HFW.out.2;omega);have hqo:(S.puts i j).out.length<=1000000:=(by omega);clear ps1 ps2 ps3 ps4
    by_cases hjn:j < S.om.length
    ·
     have hji:(j:Int) < (S.om.length:Int):=by omega
     obtain ⟨mx,hmx⟩:∃ mx,S.om[j]?=some mx:=⟨_,List.getElem?_eq_getElem hjn⟩;obtain ⟨gk,hgk⟩:∃ gk,X.go[j]?=some gk:=⟨_,List.getElem?_eq_getElem (by rw [HGO.out];exact hjn)⟩;obtain ⟨sk,hsk⟩:∃ sk,S.outs[j]?=some sk:=⟨_,List.getElem?_eq_getElem (by rw [HOL.out];exact hjn)⟩;have hsk2:(S.puts i j).outs[j]?=some sk:=(PS3.out j (Nat.le_refl _)).trans hsk;have hmx2:(S.puts i j).om[j]?=some mx:=(by rw [PS1.out];exact hmx);have hz:(X.go.zip (S.puts i j).om)[j]?=some (gk,mx):=(by rw [List.getElem?_zip_eq_some];exact ⟨hgk,hmx2⟩);obtain ⟨b,off2,hA,hb,_,hcell⟩:=Reads.elem outF_len T.out.or_.1 hz (by omega);replace hA:X.oA=some ⟨b,off2,none⟩:=hA;have x0:=hcell 0 _ rfl;have x1:=hcell 1 _ rfl;have x2:=hcell 2 _ rfl;have x3:=hcell 3 _ rfl;simp only [Nat.add_zero] at x0 x1 x2 x3;have hsm:=HO.out sk (List.mem_of_getElem? hsk);have F1:=(Fr.refl wr.heap.size [] wr).alloc (Nat.le_refl _) (.cells #[.pointer (some ⟨gk,0,none⟩),.int .i64 mx.1,.int .i64 mx.2.1,.int .i64 mx.2.2] 170);have T1:=zh (T.out.fr0 F1);have HTK:=zh (put_any T1.out j gk mx sk hgk hmx2 hsk2 hsm.1 hsm.2.1 hsm.2.2 hqo i);have C1:=zh (CC.out.trans (cgf SC F1));have BA1:=zh (BA.out.cg (cg0 F1) (fun h=>h));have BI1:=zh (BIx.out.cg (cg0 F1) (fun h=>h));have BR1:=zh (BRx.out.cg (cg0 F1) (fun h=>h));have ER1:=zh (ER.out.cg (cg0 F1) (fun h=>h));have LR1:=zh (LR.out.cg (cg0 F1) (fun h=>h));have q0:=BIx.out.b.cell 0;have q1:=BIx.out.b.cell 1;have q2:=BIx.out.b.cell 2;have q3:=BIx.out.b.cell 3;have q4:=BIx.out.b.cell 4;have q5:=BIx.out.b.cell 5;have hql:=BIx.out.b.lt;simp at q0 q1 q2 q3 q4 q5;clear hz hcell T CC BA BIx BRx ER LR hsm hsk hsk2 hgk hmx hmx2 F1;rw [hA];go_wp2_with fail;refine HTK.out.mono ?_;rintro e w1 ⟨uA2,uc2,col2,rfl,htm,hcg⟩;generalize wr.alloc _=wa at *;rw [<- puts_next] at htm;have T2:=zh htm;have C2:=zh (C1.out.trans hcg);have BA2:=zh (BA1.out.cg hcg (by unfold SC;omega));have BI2:=zh (BI1.out.cg hcg (by unfold SC;omega));have BR2:=zh (BR1.out.cg hcg (by unfold SC;omega));have ER2:=zh (ER1.out.cg hcg (by unfold SC;omega));have LR2:=zh (LR1.out.cg hcg (by unfold SC;omega));clear htm hcg T1 BA1 BI1 BR1 ER1 LR1 C1 HTK;go_wp2_with fail;rw [<- hA];go_roundg (S.om.length - (j+1))
     case measure=>omega
     case rel=>exact ⟨j+1,hjn,rfl,by go_num,.inr ⟨_,rfl⟩,uA2,uc2,col2,T2,BA2,BI2,BR2,ER2,LR2,C2⟩
    ·
     obtain rfl:j=S.om.length:=by omega
     have a0:=BA.out.b.cell 0;have a1:=BA.out.b.cell 1;have a2:=BA.out.b.cell 2;have a3:=BA.out.b.cell 3;have a4:=BA.out.b.cell 4;have a5:=BA.out.b.cell 5;simp at a0 a1 a2 a3 a4 a5;have r0:=BRx.out.b.cell 0;have r1:=BRx.out.b.cell 1;have r2:=BRx.out.b.cell 2;have r3:=BRx.out.b.cell 3;have r4:=BRx.out.b.cell 4;have r5:=BRx.out.b.cell 5;simp at r0 r1 r2 r3 r4 r5;have z0:=BRx.out.b.frozen 0;have z1:=BRx.out.b.frozen 1;have z2:=BRx.out.b.frozen 2;have z3:=BRx.out.b.frozen 3;have z4:=BRx.out.b.frozen 4;have z5:=BRx.out.b.frozen 5;go_wp2_with fail;have hrs:=blk_set6 BRx.out.b (.int .i64 S.nd.id) (.int .i64 S.ix) (.int .i64 i.ep) (.slice eA (S.ack i off).ents.length ec) (.slice lA S.lns.length lc) (.int .i64 off);have fs:=fr_set6 (g:=w.heap.size+1) (L:=[w.heap.size+1]) (Fr.refl wr.heap.size [w.heap.size+1] wr) (.inr (by simp)) (.int .i64 S.nd.id) (.int .i64 S.ix) (.int .i64 i.ep) (.slice eA (S.ack i off).ents.length ec) (.slice lA S.lns.length lc) (.int .i64 off);have cs:Cg (· = 12) colr wr colr _:=Cg.of_fr fs (by simp [BRx.out.k]);refine bodyPost_ret (results_cell_row rfl _ _ (w.heap.size+1) 72 (ackV (S.ack i off) eA ec lA lc) (0,0) _ rfl hrs Tryz.underlying72 rfl (by kernel_rfl)) rfl ⟨uA,uc,eA,ec,lA,lc,colr,rfl,?_,?_,?_,?_⟩
     · exact ⟨ER.out.1.frL fs (Nat.le_refl _) (fun _ ad ha hm=>by have:=HEB.out ad ha;simp at hm;omega) |>.more fs.size,ER.out.2⟩
     · exact ⟨LR.out.1.frL fs (Nat.le_refl _) (fun _ ad ha hm=>by have:=HLB.out ad ha;simp at hm;omega) |>.more fs.size,LR.out.2⟩
     · exact T.out.cg cs (fun c hc h=>by subst h;unfold TC at hc;omega)
     · exact ⟨fs.os.trans CC.out.os,fs.tape.trans CC.out.tape,fs.output.trans CC.out.output,Nat.le_trans CC.out.size fs.size,CC.out.same,fun q hq hn=>(fs.block q (Nat.lt_of_lt_of_le hq CC.out.size) (by simp;omega)).trans (CC.out.block q hq hn)⟩
end
end Go.Proofs.YtgblfflikgnfpaaGreat
namespace Go.Proofs.YtgblfflikgnfpaaGreat
open Go.RowKit Go.Fb
set_option maxRecDepth 100000
set_option maxHeartbeats 16000000
set_option linter.unusedVariables false
structure BarOk (S:TaskS) (c:Nat) (i:Itm):Prop where
 free:S.bs[c]?=some false
 one:¬ 0 < S.many \/ (S.b=true/\S.ep=i.ep/\S.p=i.p)
 lo:-9223372036854775807<=S.many
 hi:S.many < 9223372036854775806
section
variable {col:Nat->Nat} {w:World} {g:Nat} {S:TaskS} {X:TX}
theorem itemBar_any (h:TaskM col w g S X) (c:Nat) (i:Itm) (hi:i.b=true) (hb:BarOk S c i):Calls Tryz.prog 108 #[.pointer (some ⟨g,0,none⟩),.int .i64 (c:Int),.agg i.cs] w fun e w' =>
  ∃ col',e=.returned (.tuple #[])/\TaskM col' w' g (S.block c i) X/\Cg (· = 3) col w col' w':=by
 obtain ⟨ib,ik,ire,iim,iep,ip⟩:=i;simp only at hi;subst hi;have F1:=(Fr.refl w.heap.size [] w).alloc (Nat.le_refl _) (.cells (It true ik ire iim iep ip) 46);have C1:=zh ((cgf (col:=col) (· = 3) F1).paint 0);have T1:=zh (h.cg ((cg0 F1).paint 0) (fun _ _ h=>h));have BX:=zh (⟨Blk.new w _ _,paint_ge (Nat.le_refl _)⟩:CB (paint col w.heap.size 0) 0 (w.alloc (.cells (It true ik ire iim iep ip) 46)) w.heap.size 46 (It true ik ire iim iep ip));generalize paint col w.heap.size 0=col1 at *;have HB:=zh hb;clear h hb F1;go_enter Tryz.func108,Tryz.ntmps108;go_upto_region 8 with fail;generalize w.alloc _=wb at *;have HBL:=zh (fun W (hf:Fr wb.heap.size [] wb W)=>block_ok (T1.out.al.fr0 hf) c HB.out.free ik ire iim iep ip HB.out.one HB.out.hi HB.out.lo);have INV:=zh ((Cg.refl (· = 3) col1 wb).drew);have SF:=zh (fun (W:World) (k:Cg (· = 3) col1 wb col1 W)=>(⟨(T1.out.st.cg k (by omega)).b.cell 1,(BX.out.cg k (by omega)).b.cell 0,(BX.out.cg k (by omega)).b.cell 1,(BX.out.cg k (by omega)).b.cell 2,(BX.out.cg k (by omega)).b.cell 3,(BX.out.cg k (by omega)).b.cell 4,(BX.out.cg k (by omega)).b.cell 5⟩:W.cell? ⟨g,1,none⟩=some (.pointer (some ⟨X.ga,0,none⟩))/\W.cell? ⟨w.heap.size,0,none⟩=some (.bool true)/\W.cell? ⟨w.heap.size,1,none⟩=some (.int .i64 ik)/\W.cell? ⟨w.heap.size,2,none⟩=some (.int .i64 ire)/\W.cell? ⟨w.heap.size,3,none⟩=some (.int .i64 iim)/\W.cell? ⟨w.heap.size,4,none⟩=some (.int .i64 iep)/\W.cell? ⟨w.heap.size,5,none⟩=some (.bool ip)));refine wp_region_held_drew (S:=fun W=>W.cell? ⟨g,1,none⟩=some (.pointer (some ⟨X.ga,0,none⟩))/\W.cell? ⟨w.heap.size,0,none⟩=some (.bool true)/\W.cell? ⟨w.heap.size,1,none⟩=some (.int .i64 ik)/\W.cell? ⟨w.heap.size,2,none⟩=some (.int .i64 ire)/\W.cell? ⟨w.heap.size,3,none⟩=some (.int .i64 iim)/\W.cell? ⟨w.heap.size,4,none⟩=some (.int .i64 iep)/\W.cell? ⟨w.heap.size,5,none⟩=some (.bool ip)) (by kernel_rfl) (SF.out _ INV.out) (fun hHeld => ?_);refine tk (i:=0) (oi:=⟨some 43,_,_,_,_,_⟩) (v:=?_) rfl ?_ hHeld ?_
 rotate_left
 · intro w hSw;(try dsimp only at hSw);go_simp;(try with_reducible rfl)
 simp only [Act.put,lPt];refine tk (i:=1) (oi:=⟨some 44,_,_,_,_,_⟩) (v:=?_) rfl ?_ hHeld ?_
 rotate_left
 · intro w hSw;(try dsimp only at hSw);go_simp;(try with_reducible rfl)
 simp only [Act.put,lPt];refine tk (i:=2) (oi:=⟨some 45,_,_,_,_,_⟩) (v:=?_) rfl ?_ hHeld ?_
 rotate_left
 · intro w hSw;(try dsimp only at hSw);go_simp;(try with_reducible rfl)
 simp only [Act.put,lPt];refine tk (i:=3) (oi:=⟨some 46,_,_,_,_,_⟩) (v:=?_) rfl ?_ hHeld ?_
 rotate_left
 · intro w hSw;(try dsimp only at hSw);go_simp;(try with_reducible rfl)
 simp only [Act.put,lPt];refine tk (i:=4) (oi:=⟨some 47,_,_,_,_,_⟩) (v:=?_) rfl ?_ hHeld ?_
 rotate_left
 · intro w hSw;(try dsimp only at hSw);go_simp;(try with_reducible rfl)
 simp only [Act.put,lPt];refine tk (i:=5) (oi:=⟨some 48,_,_,_,_,_⟩) (v:=?_) rfl ?_ hHeld ?_
 rotate_left
 · intro w hSw;(try dsimp only at hSw);go_simp;(try with_reducible rfl)
 simp only [Act.put,lPt];refine wpAnyH_ready (rs:=[6]) (by kernel_rfl) (by simp) ?_;refine AllReadyH.cons (o:=⟨some 49,_,_,_,_,_⟩) rfl (fun K hK => ?_) AllReadyH.nil;rw [if_pos (by rfl)];go_simp;refine (HBL.out _ (Fr.refl _ _ _).drew).mono ?_;rintro e w2 ⟨rfl,hal,hfr⟩;have k2:Cg (· = 3) col1 wb col1 w2:=INV.out.then_fr hfr (by simp [T1.out.ak1,T1.out.ak2]);have INV:=zh k2;have T2:=zh (T1.out.newAl k2 hal);clear hal hfr k2;refine hK.out _ _ (SF.out _ INV.out) (fun hHeld => ?_);clear hK K
 try simp only [Act.put,lPt]
 refine wpAnyH_done (by kernel_rfl) ?_ _;go_wp2_with fail;exact bodyPost_end (results_none rfl _ _ _) rfl ⟨col1,rfl,T2.out,C1.out.trans INV.out⟩
theorem itemSink_any (h:TaskM col w g S X) (c:Nat) (i:Itm) (hi:i.b=false) (hk:S.nd.kind=2) (hc:c < S.im.length) (hl:S.lns.length<=1000000):Calls Tryz.prog 108 #[.pointer (some ⟨g,0,none⟩),.int .i64 (c:Int),.agg i.cs] w fun e w' =>
  ∃ lA lc col',e=.returned (.tuple #[])/\TaskM col' w' g (S.line c i) { X with lA:=lA,lc:=lc }/\Cg (fun q=>q=1 \/ q=7) col w col' w':=by
 obtain ⟨S',hS'⟩:∃ S',S'=S.line c i:=⟨_,rfl⟩;rw [<- hS'];have HS':=zh hS';clear hS';obtain ⟨ib,ik,ire,iim,iep,ip⟩:=i;simp only at hi;subst hi;have F1:=(Fr.refl w.heap.size [] w).alloc (Nat.le_refl _) (.cells (It false ik ire iim iep ip) 46);have C1:=zh ((cgf (col:=col) (fun q=>q=1 \/ q=7) F1).paint 0);have T1:=zh (h.cg ((cg0 F1).paint 0) (fun _ _ h=>h));have BX:=zh (⟨Blk.new w _ _,paint_ge (Nat.le_refl _)⟩:CB (paint col w.heap.size 0) 0 (w.alloc (.cells (It false ik ire iim iep ip) 46)) w.heap.size 46 (It false ik ire iim iep ip));generalize paint col w.heap.size 0=col1 at *;have t3:=h.st.b.cell 3;replace t3:w.cell? ⟨g,3,none⟩=some (.int .i64 S.nd.kind):=t3;have hg:=h.st.b.lt;rw [hk] at t3;obtain ⟨mx,hmx⟩:∃ mx,S.im[c]?=some mx:=⟨_,List.getElem?_eq_getElem hc⟩;obtain ⟨gk,hgk⟩:∃ gk,X.gi[c]?=some gk:=⟨_,List.getElem?_eq_getElem (by rw [h.gi];exact hc)⟩;have hz:(X.gi.zip S.im)[c]?=some (gk,mx):=(by rw [List.getElem?_zip_eq_some];exact ⟨hgk,hmx⟩);have HMX:=zh hmx;have HZ:=zh hz;clear h F1 hmx hgk hz;go_enter Tryz.func108,Tryz.ntmps108;go_upto_region 10 with fail;generalize w.alloc _=wb at *;clear t3 hg;obtain ⟨b,off,hA,hb,hcm,hcell⟩:=Reads.elem inF_len T1.out.ir.1 HZ.out (by omega);have hkb:col1 b=5:=T1.out.ir.2 _ hA (by omega);have x1:=hcell 1 _ rfl;have BT:=zh T1.out.st;have SF:=zh (fun (W:World) (col2:Nat->Nat) (k:Cg (fun q=>q=1 \/ q=7) col1 wb col2 W) (bt:W.cell? ⟨g,2,none⟩=some (.int .i64 S.nd.id)/\W.cell? ⟨g,17,none⟩=some (.slice X.iA S.im.length X.ic))=>(⟨bt.1,bt.2,by rw [<- x1];exact World.cell?_of_block (w:=wb) (k.block b hb (by rw [hkb];omega)),(BX.out.cg k (by omega)).b.cell 1,(BX.out.cg k (by omega)).b.cell 2,(BX.out.cg k (by omega)).b.cell 3⟩:W.cell? ⟨g,2,none⟩=some (.int .i64 S.nd.id)/\W.cell? ⟨g,17,none⟩=some (.slice X.iA S.im.length X.ic)/\W.cell? ⟨b,off+c * 3+1,none⟩=some (.int .i64 mx.1)/\W.cell? ⟨w.heap.size,1,none⟩=some (.int .i64 ik)/\W.cell? ⟨w.heap.size,2,none⟩=some (.int .i64 ire)/\W.cell? ⟨w.heap.size,3,none⟩=some (.int .i64 iim)));clear x1 hcell hb;rw [hA] at SF;have hci:(c:Int) < (S.im.length:Int):=(by omega);have C7:=zh ((Cg.refl (· = 7) col1 wb).drew);have BTC:=zh (BT.out.b.drew:Blk wb.drew g 136 (tkC S X));have BTF:=zh (⟨BT.out.b.drew.cell 2,BT.out.b.drew.cell 17⟩:wb.drew.cell? ⟨g,2,none⟩=some (.int .i64 S.nd.id)/\wb.drew.cell? ⟨g,17,none⟩=some (.slice X.iA S.im.length X.ic));rw [hA] at BTF;have LN:=zh (T1.out.ln.drew:CR col1 7 wb.drew 52 5 (.slice X.lA S.lns.length X.lc) S.lns.length (cellsLn S.lns));have c19:wb.cell? ⟨g,19,none⟩=some (.slice X.lA S.lns.length X.lc):=BT.out.b.cell 19;have hgb:=BT.out.b.lt;obtain ⟨nl,hnl⟩:=nm (S.lns.length);rw [<- hnl] at c19 LN hl;have HNL:=zh hnl;obtain ⟨xf,hxf⟩:=nm (lineF S c ⟨false,ik,ire,iim,iep,ip⟩);have HXF:=zh hxf
 have HX:(⟨S.nd.id,mx.1,ik,ire,iim⟩:Int × Int × Int × Int × Int)=(xf 0,xf 1,xf 2,xf 3,xf 4):=by
  rw [hxf];simp [lineF,List.getD,HMX.out]
 injection HX with e0 HX
 injection HX with e1 HX
 injection HX with e2 HX
 injection HX with e3 e4
 have HXC:=zh (show lnC xf=[.int .i64 S.nd.id,.int .i64 mx.1,.int .i64 ik,.int .i64 ire,.int .i64 iim] by unfold lnC;rw [<- e0,<- e1,<- e2,<- e3,<- e4]);clear hnl hxf e0 e1 e2 e3 e4;refine wp_region_held_drew (S:=fun W=>W.cell? ⟨g,2,none⟩=some (.int .i64 S.nd.id)/\W.cell? ⟨g,17,none⟩=some (.slice (some ⟨b,off,none⟩) S.im.length X.ic)/\W.cell? ⟨b,off+c * 3+1,none⟩=some (.int .i64 mx.1)/\W.cell? ⟨w.heap.size,1,none⟩=some (.int .i64 ik)/\W.cell? ⟨w.heap.size,2,none⟩=some (.int .i64 ire)/\W.cell? ⟨w.heap.size,3,none⟩=some (.int .i64 iim)) (by kernel_rfl) (SF.out _ _ (C7.out.mono (fun _ h=>.inr h)) BTF.out) (fun hHeld => ?_);refine tk (i:=0) (oi:=⟨some 57,_,_,_,_,_⟩) (v:=?_) rfl ?_ hHeld ?_
 rotate_left
 · intro w hSw;(try dsimp only at hSw);go_simp;(try with_reducible rfl)
 simp only [Act.put,lPt];refine tk (i:=1) (oi:=⟨some 58,_,_,_,_,_⟩) (v:=?_) rfl ?_ hHeld ?_
 rotate_left
 · intro w hSw;(try dsimp only at hSw);go_simp;(try with_reducible rfl)
 simp only [Act.put,lPt];refine tk (i:=2) (oi:=⟨some 59,_,_,_,_,_⟩) (v:=?_) rfl ?_ hHeld ?_
 rotate_left
 · intro w hSw;(try dsimp only at hSw);go_simp;(try with_reducible rfl)
 simp only [Act.put,lPt];refine tk (i:=3) (oi:=⟨some 60,_,_,_,_,_⟩) (v:=?_) rfl ?_ hHeld ?_
 rotate_left
 · intro w hSw;(try dsimp only at hSw);go_simp;(try with_reducible rfl)
 simp only [Act.put,lPt];refine tk (i:=5) (oi:=⟨some 62,_,_,_,_,_⟩) (v:=?_) rfl ?_ hHeld ?_
 rotate_left
 · intro w hSw;(try dsimp only at hSw);go_simp;(try with_reducible rfl)
 simp only [Act.put,lPt];refine tk (i:=6) (oi:=⟨some 63,_,_,_,_,_⟩) (v:=?_) rfl ?_ hHeld ?_
 rotate_left
 · intro w hSw;(try dsimp only at hSw);go_simp;(try with_reducible rfl)
 simp only [Act.put,lPt];refine tk (i:=7) (oi:=⟨some 64,_,_,_,_,_⟩) (v:=?_) rfl ?_ hHeld ?_
 rotate_left
 · intro w hSw;(try dsimp only at hSw);go_simp;(try with_reducible rfl)
 simp only [Act.put,lPt];refine tk (i:=8) (oi:=⟨some 65,_,_,_,_,_⟩) (v:=?_) rfl ?_ hHeld ?_
 rotate_left
 · intro w hSw;(try dsimp only at hSw);go_simp;(try with_reducible rfl)
 simp only [Act.put,lPt];refine tk (i:=9) (oi:=⟨some 66,_,_,_,_,_⟩) (v:=?_) rfl ?_ hHeld ?_
 rotate_left
 · intro w hSw;(try dsimp only at hSw);go_simp;(try with_reducible rfl)
 simp only [Act.put,lPt];refine tk (i:=10) (oi:=⟨some 67,_,_,_,_,_⟩) (v:=?_) rfl ?_ hHeld ?_
 rotate_left
 · intro w hSw;(try dsimp only at hSw);go_simp;(try with_reducible rfl)
 simp only [Act.put,lPt];refine tk (i:=11) (oi:=⟨some 68,_,_,_,_,_⟩) (v:=?_) rfl ?_ hHeld ?_
 rotate_left
 · intro w hSw;(try dsimp only at hSw);go_simp;(try with_reducible rfl)
 simp only [Act.put,lPt];refine tk (i:=12) (oi:=⟨some 69,_,_,_,_,_⟩) (v:=?_) rfl ?_ hHeld ?_
 rotate_left
 · intro w hSw;(try dsimp only at hSw);go_simp;(try with_reducible rfl)
 simp only [Act.put,lPt];refine tk (i:=13) (oi:=⟨some 70,_,_,_,_,_⟩) (v:=?_) rfl ?_ hHeld ?_
 rotate_left
 · intro w hSw;(try dsimp only at hSw);go_simp;(try with_reducible rfl)
 simp only [Act.put,lPt];refine tk (i:=14) (oi:=⟨some 71,_,_,_,_,_⟩) (v:=?_) rfl ?_ hHeld ?_
 rotate_left
 · intro w hSw;(try dsimp only at hSw);go_simp;(try with_reducible rfl)
 simp only [Act.put,lPt];refine tk (i:=15) (oi:=⟨some 72,_,_,_,_,_⟩) (v:=?_) rfl ?_ hHeld ?_
 rotate_left
 · intro w hSw;(try dsimp only at hSw);go_simp;(try with_reducible rfl)
 simp only [Act.put,lPt];refine tk (i:=16) (oi:=⟨some 73,_,_,_,_,_⟩) (v:=?_) rfl ?_ hHeld ?_
 rotate_left
 · intro w hSw;(try dsimp only at hSw);go_simp;(try with_reducible rfl)
 simp only [Act.put,lPt];refine tk (i:=17) (oi:=⟨some 74,_,_,_,_,_⟩) (v:=?_) rfl ?_ hHeld ?_
 rotate_left
 · intro w hSw;(try dsimp only at hSw);go_simp;(try with_reducible rfl)
 simp only [Act.put,lPt];refine tk (i:=18) (oi:=⟨some 75,_,_,_,_,_⟩) (v:=?_) rfl ?_ hHeld ?_
 rotate_left
 · intro w hSw;(try dsimp only at hSw);go_simp;(try with_reducible rfl)
 simp only [Act.put,lPt];refine tk (i:=19) (oi:=⟨some 76,_,_,_,_,_⟩) (v:=?_) rfl ?_ hHeld ?_
 rotate_left
 · intro w hSw;(try dsimp only at hSw);go_simp;(try with_reducible rfl)
 simp only [Act.put,lPt];refine tk (i:=20) (oi:=⟨some 77,_,_,_,_,_⟩) (v:=?_) rfl ?_ hHeld ?_
 rotate_left
 · intro w hSw;(try dsimp only at hSw);go_simp;(try with_reducible rfl)
 simp only [Act.put,lPt];refine tk (i:=21) (oi:=⟨some 78,_,_,_,_,_⟩) (v:=?_) rfl ?_ hHeld ?_
 rotate_left
 · intro w hSw;(try dsimp only at hSw);go_simp;(try with_reducible rfl)
 simp only [Act.put,lPt];refine tk (i:=22) (oi:=⟨some 79,_,_,_,_,_⟩) (v:=?_) rfl ?_ hHeld ?_
 rotate_left
 · intro w hSw;(try dsimp only at hSw);go_simp;(try with_reducible rfl)
 simp only [Act.put,lPt];refine tk (i:=23) (oi:=⟨some 80,_,_,_,_,_⟩) (v:=?_) rfl ?_ hHeld ?_
 rotate_left
 · intro w hSw;(try dsimp only at hSw);go_simp;(try with_reducible rfl)
 simp only [Act.put,lPt];refine tk (i:=24) (oi:=⟨some 81,_,_,_,_,_⟩) (v:=?_) rfl ?_ hHeld ?_
 rotate_left
 · intro w hSw;(try dsimp only at hSw);go_simp;(try with_reducible rfl)
 simp only [Act.put,lPt];refine wpAnyH_ready (rs:=[4,25]) (by kernel_rfl) (by simp) ?_;refine AllReadyH.cons (o:=⟨some 61,_,_,_,_,_⟩) rfl (fun K hK => ?_) (AllReadyH.cons (o:=⟨some 82,_,_,_,_,_⟩) rfl (fun K hK => ?_) AllReadyH.nil)
 ·
  skip
  rw [if_pos (by rfl)];go_simp;refine hK.out _ _ (SF.out _ _ (C7.out.mono (fun _ h=>.inr h)) BTF.out) (fun hHeld => ?_);clear hK K
  try simp only [Act.put,lPt]
  refine wpAnyH_ready (rs:=[25]) (by kernel_rfl) (by simp) ?_;refine AllReadyH.cons (o:=⟨some 82,_,_,_,_,_⟩) rfl (fun K hK => ?_) AllReadyH.nil;rw [if_pos (by rfl)];go_simp;have BL:=zh (Blk.new wb.drew 52 #[.int .i64 S.nd.id,.int .i64 mx.1,.int .i64 ik,.int .i64 ire,.int .i64 iim]);have BTC:=zh (BTC.out.alloc (.cells #[.int .i64 S.nd.id,.int .i64 mx.1,.int .i64 ik,.int .i64 ire,.int .i64 iim] 52));have BTF:=zh (by rw [<- hA];exact ⟨BTC.out.cell 2,BTC.out.cell 17⟩:(wb.drew.alloc (.cells #[.int .i64 S.nd.id,.int .i64 mx.1,.int .i64 ik,.int .i64 ire,.int .i64 iim] 52)).cell? ⟨g,2,none⟩=some (.int .i64 S.nd.id)/\(wb.drew.alloc (.cells #[.int .i64 S.nd.id,.int .i64 mx.1,.int .i64 ik,.int .i64 ire,.int .i64 iim] 52)).cell? ⟨g,17,none⟩=some (.slice (some ⟨b,off,none⟩) S.im.length X.ic));have LN:=zh (LN.out.alloc (.cells #[.int .i64 S.nd.id,.int .i64 mx.1,.int .i64 ik,.int .i64 ire,.int .i64 iim] 52));have C7:=zh (C7.out.new (.cells #[.int .i64 S.nd.id,.int .i64 mx.1,.int .i64 ik,.int .i64 ire,.int .i64 iim] 52));refine hK.out _ _ (SF.out _ _ (C7.out.mono (fun _ h=>.inr h)) BTF.out) (fun hHeld => ?_);clear hK K
  try simp only [Act.put,lPt]
  refine wpAnyH_ready (rs:=[26]) (by kernel_rfl) (by simp) ?_;refine AllReadyH.cons (o:=⟨some 83,_,_,_,_,_⟩) rfl (fun K hK => ?_) AllReadyH.nil;refine step_appC _ (by rfl) (.tmp 61) (.tmp 82) lineTy (by rfl) _ nl _ (by rfl) LN.out (wb.drew.heap.size+1) (some ⟨wb.drew.heap.size,0,none⟩) 1 1 (lnC xf) (by rfl) (by rw [HXC.out];exact Reads.of_blk (m:=1) (size:=5) BL.out rfl) (by simp [lnC,Value.oneCell']) (by omega) (by omega) ?_;intro A' c' w6 hrow hcg hgr;have BTC:=zh (BTC.out.grown hgr (BTC.out.ne_rowO LN.out.r (by decide)));have BTF:=zh (by rw [<- hA];exact ⟨BTC.out.cell 2,BTC.out.cell 17⟩:w6.cell? ⟨g,2,none⟩=some (.int .i64 S.nd.id)/\w6.cell? ⟨g,17,none⟩=some (.slice (some ⟨b,off,none⟩) S.im.length X.ic));have C7:=zh (C7.out.trans hcg);generalize paint col1 _ 7=col6 at *;have LN:=zh hrow;clear hrow hcg hgr BL c19 hgb;refine hK.out _ _ (SF.out _ _ (C7.out.mono (fun _ h=>.inr h)) BTF.out) (fun hHeld => ?_);clear hK K
  try simp only [Act.put,lPt]
  refine tk (i:=27) (oi:=⟨some 84,_,_,_,_,_⟩) (v:=?_) rfl ?_ hHeld ?_
  rotate_left
  · intro w hSw;(try dsimp only at hSw);go_simp;(try with_reducible rfl)
  simp only [Act.put,lPt];refine tk (i:=28) (oi:=⟨some 85,_,_,_,_,_⟩) (v:=?_) rfl ?_ hHeld ?_
  rotate_left
  · intro w hSw;(try dsimp only at hSw);go_simp;(try with_reducible rfl)
  simp only [Act.put,lPt];refine wpAnyH_ready (rs:=[29]) (by kernel_rfl) (by simp) ?_;refine AllReadyH.cons (o:=⟨none,_,_,_,_,_⟩) rfl (fun K hK => ?_) AllReadyH.nil;rw [if_pos (by rfl)];have hf19:=BTC.out.frozen 19;have hg19:=BTC.out.lt;have hc19:w6.cell? ⟨g,19,none⟩=some (.slice X.lA S.lns.length X.lc):=BTC.out.cell 19;go_simp;have CC:=zh ((C7.out.mono (C':=fun q=>q=1 \/ q=7) (fun _ h=>.inr h)).set (p:=⟨g,19,none⟩) (.inl ((C7.out.same g BT.out.b.lt).trans BT.out.k)) (.slice A' (nl+1) c'));have BTS:=BTC.out.set_ 19 (.slice A' (nl+1) c');have BTF:=zh (by rw [<- hA];exact ⟨BTS.cell 2,BTS.cell 17⟩:(w6.setCell ⟨g,19,none⟩ (.slice A' (nl+1) c')).cell? ⟨g,2,none⟩=some (.int .i64 S.nd.id)/\(w6.setCell ⟨g,19,none⟩ (.slice A' (nl+1) c')).cell? ⟨g,17,none⟩=some (.slice (some ⟨b,off,none⟩) S.im.length X.ic));refine hK.out _ _ (SF.out _ _ CC.out BTF.out) (fun hHeld => ?_);clear hK K
  try simp only [Act.put]
  refine wpAnyH_done (by kernel_rfl) ?_ _;go_wp2_with fail;refine bodyPost_end (results_none rfl _ _ _) rfl ⟨A',c',col6,rfl,?_,C1.out.trans CC.out⟩;have hln:(S.lns ++ [xf]).length=nl+1:=(by rw [List.length_append,HNL.out];rfl);have hcl:cellsLn (S.lns ++ [xf])=cellsLn S.lns ++ lnC xf:=(by rw [cellsLn_app];simp [cellsLn]);have hrow:=LN.out;rw [<- hcl,<- hln] at hrow;have hT:=T1.out.newLn C7.out hrow;rw [hln] at hT;rw [HS'.out];unfold TaskS.line;rw [<- HXF.out];exact hT
 ·
  skip
  rw [if_pos (by rfl)];go_simp;have BL:=zh (Blk.new wb.drew 52 #[.int .i64 S.nd.id,.int .i64 mx.1,.int .i64 ik,.int .i64 ire,.int .i64 iim]);have BTC:=zh (BTC.out.alloc (.cells #[.int .i64 S.nd.id,.int .i64 mx.1,.int .i64 ik,.int .i64 ire,.int .i64 iim] 52));have BTF:=zh (by rw [<- hA];exact ⟨BTC.out.cell 2,BTC.out.cell 17⟩:(wb.drew.alloc (.cells #[.int .i64 S.nd.id,.int .i64 mx.1,.int .i64 ik,.int .i64 ire,.int .i64 iim] 52)).cell? ⟨g,2,none⟩=some (.int .i64 S.nd.id)/\(wb.drew.alloc (.cells #[.int .i64 S.nd.id,.int .i64 mx.1,.int .i64 ik,.int .i64 ire,.int .i64 iim] 52)).cell? ⟨g,17,none⟩=some (.slice (some ⟨b,off,none⟩) S.im.length X.ic));have LN:=zh (LN.out.alloc (.cells #[.int .i64 S.nd.id,.int .i64 mx.1,.int .i64 ik,.int .i64 ire,.int .i64 iim] 52));have C7:=zh (C7.out.new (.cells #[.int .i64 S.nd.id,.int .i64 mx.1,.int .i64 ik,.int .i64 ire,.int .i64 iim] 52));refine hK.out _ _ (SF.out _ _ (C7.out.mono (fun _ h=>.inr h)) BTF.out) (fun hHeld => ?_);clear hK K
  try simp only [Act.put,lPt]
  refine wpAnyH_ready (rs:=[4]) (by kernel_rfl) (by simp) ?_;refine AllReadyH.cons (o:=⟨some 61,_,_,_,_,_⟩) rfl (fun K hK => ?_) AllReadyH.nil;rw [if_pos (by rfl)];go_simp;refine hK.out _ _ (SF.out _ _ (C7.out.mono (fun _ h=>.inr h)) BTF.out) (fun hHeld => ?_);clear hK K
  try simp only [Act.put,lPt]
  refine wpAnyH_ready (rs:=[26]) (by kernel_rfl) (by simp) ?_;refine AllReadyH.cons (o:=⟨some 83,_,_,_,_,_⟩) rfl (fun K hK => ?_) AllReadyH.nil;refine step_appC _ (by rfl) (.tmp 61) (.tmp 82) lineTy (by rfl) _ nl _ (by rfl) LN.out (wb.drew.heap.size+1) (some ⟨wb.drew.heap.size,0,none⟩) 1 1 (lnC xf) (by rfl) (by rw [HXC.out];exact Reads.of_blk (m:=1) (size:=5) BL.out rfl) (by simp [lnC,Value.oneCell']) (by omega) (by omega) ?_;intro A' c' w6 hrow hcg hgr;have BTC:=zh (BTC.out.grown hgr (BTC.out.ne_rowO LN.out.r (by decide)));have BTF:=zh (by rw [<- hA];exact ⟨BTC.out.cell 2,BTC.out.cell 17⟩:w6.cell? ⟨g,2,none⟩=some (.int .i64 S.nd.id)/\w6.cell? ⟨g,17,none⟩=some (.slice (some ⟨b,off,none⟩) S.im.length X.ic));have C7:=zh (C7.out.trans hcg);generalize paint col1 _ 7=col6 at *;have LN:=zh hrow;clear hrow hcg hgr BL c19 hgb;refine hK.out _ _ (SF.out _ _ (C7.out.mono (fun _ h=>.inr h)) BTF.out) (fun hHeld => ?_);clear hK K
  try simp only [Act.put,lPt]
  refine tk (i:=27) (oi:=⟨some 84,_,_,_,_,_⟩) (v:=?_) rfl ?_ hHeld ?_
  rotate_left
  · intro w hSw;(try dsimp only at hSw);go_simp;(try with_reducible rfl)
  simp only [Act.put,lPt];refine tk (i:=28) (oi:=⟨some 85,_,_,_,_,_⟩) (v:=?_) rfl ?_ hHeld ?_
  rotate_left
  · intro w hSw;(try dsimp only at hSw);go_simp;(try with_reducible rfl)
  simp only [Act.put,lPt];refine wpAnyH_ready (rs:=[29]) (by kernel_rfl) (by simp) ?_;refine AllReadyH.cons (o:=⟨none,_,_,_,_,_⟩) rfl (fun K hK => ?_) AllReadyH.nil;rw [if_pos (by rfl)];have hf19:=BTC.out.frozen 19;have hg19:=BTC.out.lt;have hc19:w6.cell? ⟨g,19,none⟩=some (.slice X.lA S.lns.length X.lc):=BTC.out.cell 19;go_simp;have CC:=zh ((C7.out.mono (C':=fun q=>q=1 \/ q=7) (fun _ h=>.inr h)).set (p:=⟨g,19,none⟩) (.inl ((C7.out.same g BT.out.b.lt).trans BT.out.k)) (.slice A' (nl+1) c'));have BTS:=BTC.out.set_ 19 (.slice A' (nl+1) c');have BTF:=zh (by rw [<- hA];exact ⟨BTS.cell 2,BTS.cell 17⟩:(w6.setCell ⟨g,19,none⟩ (.slice A' (nl+1) c')).cell? ⟨g,2,none⟩=some (.int .i64 S.nd.id)/\(w6.setCell ⟨g,19,none⟩ (.slice A' (nl+1) c')).cell? ⟨g,17,none⟩=some (.slice (some ⟨b,off,none⟩) S.im.length X.ic));refine hK.out _ _ (SF.out _ _ CC.out BTF.out) (fun hHeld => ?_);clear hK K
  try simp only [Act.put]
  refine wpAnyH_done (by kernel_rfl) ?_ _;go_wp2_with fail;refine bodyPost_end (results_none rfl _ _ _) rfl ⟨A',c',col6,rfl,?_,C1.out.trans CC.out⟩;have hln:(S.lns ++ [xf]).length=nl+1:=(by rw [List.length_append,HNL.out];rfl);have hcl:cellsLn (S.lns ++ [xf])=cellsLn S.lns ++ lnC xf:=(by rw [cellsLn_app];simp [cellsLn]);have hrow:=LN.out;rw [<- hcl,<- hln] at hrow;have hT:=T1.out.newLn C7.out hrow;rw [hln] at hT;rw [HS'.out];unfold TaskS.line;rw [<- HXF.out];exact hT
end
end Go.Proofs.YtgblfflikgnfpaaGreat
namespace Go.Proofs.YtgblfflikgnfpaaGreat
open Go.RowKit Go.Fb
set_option maxRecDepth 100000
set_option maxHeartbeats 16000000
set_option linter.unusedVariables false
structure TaskOk (S:TaskS):Prop where
 bl:S.bs.length=S.im.length
 il:S.ins.length=S.im.length
 l0:-1<=S.last
 l1:S.last < (S.im.length:Int)
 m0:0<=S.many
 m1:S.many<=1000
 tk:TOk S.T
 ln:S.lns.length<=100000
 ou:S.out.length<=100000
 is:∀ s ∈ S.ins,s.ls.length<=6/\Cn s.out /\ ∀ x ∈ s.ls,x.size<=1000
 os:∀ o ∈ S.outs,o.ws.length<=6/\0<=o.last/\o.last<=1000000000
def hasL (S:TaskS) (c:Nat):Bool:=decide (0 < (S.ins.getD c ⟨0,0,[],0⟩).ls.length)
def FC (c:Nat):Prop:=c=1 \/ c=3 \/ c=2 \/ c=7 \/ c=8 \/ (20<=c/\c < 100)
def TaskS.bar (S:TaskS):Itm:=⟨S.b,0,0,0,S.ep,S.p⟩
def TaskS.popped (S:TaskS) (c:Nat):TaskS:={ S with last:=(c:Int),ins:=S.ins.set c (popI (S.ins.getD c ⟨0,0,[],0⟩)),out:=S.out ++ [ackP (popI (S.ins.getD c ⟨0,0,[],0⟩))] }
section
variable {col:Nat->Nat} {w:World} {g:Nat} {S:TaskS} {X:TX}
theorem flow1_any (h:TaskM col w g S X) (gt c:Nat) (hc:c < S.im.length) (hb:Blk w gt 39 #[.pointer (some ⟨g,0,none⟩)]):Calls Tryz.prog 107 #[.int .i64 (c:Int),.pointer (some ⟨gt,0,none⟩)] w fun e w'=>e=.returned (.bool (hasL S c))/\Fr w.heap.size [] w w':=by
 obtain ⟨mx,hmx⟩:∃ mx,S.im[c]?=some mx:=⟨_,List.getElem?_eq_getElem hc⟩;obtain ⟨gk,hgk⟩:∃ gk,X.gi[c]?=some gk:=⟨_,List.getElem?_eq_getElem (by rw [h.gi];exact hc)⟩;obtain ⟨s,hs⟩:∃ s,S.ins[c]?=some s:=⟨_,List.getElem?_eq_getElem (by rw [h.il];exact hc)⟩;have hz:(X.gi.zip S.im)[c]?=some (gk,mx):=(by rw [List.getElem?_zip_eq_some];exact ⟨hgk,hmx⟩);obtain ⟨b,off,hA,hlt,hcm,hcell⟩:=Reads.elem inF_len h.ir.1 hz (by omega);have x0:=hcell 0 _ rfl;simp only [Nat.add_zero] at x0;have HL:=zh (len_any (h.im c gk s hgk hs));have t17:=h.st.b.cell 17;replace t17:w.cell? ⟨g,17,none⟩=some (.slice X.iA S.im.length X.ic):=t17;rw [hA] at t17;have q0:=hb.cell 0;simp at q0;have hci:(c:Int) < (S.im.length:Int):=(by omega);have hh:hasL S c=decide (0 < s.ls.length):=(by unfold hasL;rw [List.getD,hs];rfl);rw [hh];generalize s.ls.length=n at *;clear h hb hz hcell hmx hgk hs hh;go_enter Tryz.func107,Tryz.ntmps107;go_wp2_with fail;refine HL.out.mono ?_;rintro e w' ⟨rfl,rfl⟩;go_wp2_with fail;go_ret;exact ⟨by simp,Fr.refl _ _ _⟩
def MetOut (col:Nat->Nat) (g:Nat) (S':TaskS) (X:TX) (a:AckS) (w:World) (e:Ending) (w':World):Prop :=
 ∃ A cp uA uc eA ec lA lc col',e=.returned (.tuple #[.slice A 1 cp,.bool true])/\CRd col' 12 w' 6 A 1 (ackV a eA ec lA lc).toList/\CRd col' 12 w' 6 eA a.ents.length (cellsE a.ents)/\CRd col' 12 w' 5 lA a.lns.length (cellsLn a.lns)/\TaskM col' w' g S' { X with uA:=uA,uc:=uc }/\Cg FC col w col' w'
theorem flowMet_any (h:TaskM col w g S X) (hk:TaskOk S) (hm:metB S.many S.bs.length=true) (hr:S.room 1=true) :
  Calls Tryz.prog 65 #[.pointer (some ⟨g,0,none⟩)] w (MetOut col g ((S.puts S.bar S.om.length).clear) X (S.ack S.bar 0) w):=by
 have HMT:=zh (fun W (hf:Fr w.heap.size [] w W)=>met_yes (h.al.fr0 hf) hm);have HRM:=zh (fun W (hf:Fr w.heap.size [] w W)=>(by have:=room_any (h.fr0 hf) 1;rw [hr] at this;exact this:Calls Tryz.prog 100 #[.pointer (some ⟨g,0,none⟩),.int .i64 1] W fun e w'=>e=.returned (.bool true)/\Fr W.heap.size [] W w'));obtain ⟨S5,hS5⟩:=nm (S.puts S.bar S.om.length);obtain ⟨a,ha⟩:=nm (S.ack S.bar 0);rw [<- hS5,<- ha];have HS5:=zh hS5;have HA:=zh ha;clear hS5 ha;have HM:=zh h;have HK:=zh hk;have t1:=h.st.b.cell 1;replace t1:w.cell? ⟨g,1,none⟩=some (.pointer (some ⟨X.ga,0,none⟩)):=t1;have hg:=h.st.b.lt;have F0:=zh ((Fr.refl w.heap.size [] w).alloc (Nat.le_refl _) (.cells #[.pointer (some ⟨g,0,none⟩)] 39));have BG:=zh (Blk.new w 39 #[.pointer (some ⟨g,0,none⟩)]);clear h hk hm hr;go_enter Tryz.func65,Tryz.ntmps65;go_wp2_with fail;refine (HMT.out _ F0.out).mono ?_;rintro e w2 ⟨rfl,f2⟩;have F2:=zh (F0.out.nx f2);have BG2:=zh (BG.out.fr f2 BG.out.lt (by simp));clear f2 HMT F0 BG t1 hg;have q0:=BG2.out.cell 0;simp at q0;have hql:=BG2.out.lt;go_upto_region 3 with fail;have BI:=zh (Blk.new w2 46 #[.bool S.b,.int .i64 0,.int .i64 0,.int .i64 0,.int .i64 S.ep,.bool S.p]);have BG3:=zh (BG2.out.alloc (.cells #[.bool S.b,.int .i64 0,.int .i64 0,.int .i64 0,.int .i64 S.ep,.bool S.p] 46));have F3:=zh (F2.out.alloc F2.out.size (.cells #[.bool S.b,.int .i64 0,.int .i64 0,.int .i64 0,.int .i64 S.ep,.bool S.p] 46));obtain ⟨gi,hgi⟩:=nm (w2.heap.size);have HGI:=zh (show w.heap.size<=gi by rw [hgi];exact F2.out.size);rw [<- hgi] at BI ⊢;generalize w2.alloc _=w3 at *;clear BG2 F2 q0 hql hgi;have q0:=BG3.out.cell 0;simp at q0;go_wp2_with fail;refine (HRM.out _ F3.out).mono ?_;rintro e w4 ⟨rfl,f4⟩;have F4:=zh (F3.out.nx f4);have BG4:=BG3.out.fr f4 BG3.out.lt (by simp);have BI4:=BI.out.fr f4 BI.out.lt (by simp);clear f4 F3 BG3 BI q0;obtain ⟨col1,hcol1⟩:=nm (paint col w.heap.size 12);have M4:=zh (by rw [hcol1];exact HM.out.cg ((cg0 F4.out).paint 12) (fun _ _ h=>h):TaskM col1 w4 g S X);have C4:=zh (by rw [hcol1];exact (cgf (col:=col) FC F4.out).paint 12:Cg FC col w col1 w4);have CG4:=zh (⟨BG4,by rw [hcol1];exact paint_ge (Nat.le_refl _)⟩:CB col1 12 w4 w.heap.size 39 #[.pointer (some ⟨g,0,none⟩)]);have CI4:=zh (⟨BI4,by rw [hcol1];exact paint_ge HGI.out⟩:CB col1 12 w4 gi 46 #[.bool S.b,.int .i64 0,.int .i64 0,.int .i64 0,.int .i64 S.ep,.bool S.p]);have HBA:=zh (barrier_any M4.out HK.out.tk (Nat.le_trans HK.out.ln (by decide)) (Nat.le_trans HK.out.ou (by decide)) (fun o ho=>⟨(HK.out.os o ho).1,(HK.out.os o ho).2.1,by have:=(HK.out.os o ho).2.2;omega⟩) S.bar 0);rw [<- HS5.out,<- HA.out] at HBA;clear F4 BG4 BI4 hcol1 HM HRM;have q0:=CG4.out.b.cell 0;have i0:=CI4.out.b.cell 0;have i1:=CI4.out.b.cell 1;have i2:=CI4.out.b.cell 2;have i3:=CI4.out.b.cell 3;have i4:=CI4.out.b.cell 4;have i5:=CI4.out.b.cell 5;simp at q0 i0 i1 i2 i3 i4 i5;go_wp2_with fail;refine HBA.out.mono ?_;rintro e w5 ⟨uA,uc,eA,ec,lA,lc,col5,rfl,hre,hrl,htm,hcg⟩;have C5:=zh (C4.out.trans (hcg.mono (C':=FC) (fun c hc=>by unfold SC at hc;unfold FC;omega)));have CG5:=zh (CG4.out.cg hcg (by unfold SC;omega));have RE5:=zh hre;have RL5:=zh hrl;have M5:=zh htm;clear hre hrl htm hcg HBA CG4 CI4 C4 q0 i0 i1 i2 i3 i4 i5 M4;have q0:=CG5.out.b.cell 0;simp at q0;have hql:=CG5.out.b.lt;go_upto_region 6 with fail;have FA:=(Fr.refl w5.heap.size [] w5).alloc (Nat.le_refl _) (.cells (ackV a eA ec lA lc) 72);have CA:=(cg0 (col:=col5) FA).paint 12;have BA:=zh (⟨Blk.new w5 72 (ackV a eA ec lA lc),paint_ge (Nat.le_refl _)⟩:CB (paint col5 w5.heap.size 12) 12 (w5.alloc (.cells (ackV a eA ec lA lc) 72)) w5.heap.size 72 (ackV a eA ec lA lc));have CG6:=zh (CG5.out.cg CA (fun h=>h));have RE6:=zh (RE5.out.cg CA (fun h=>h));have RL6:=zh (RL5.out.cg CA (fun h=>h));have M6:=zh (M5.out.cg CA (fun _ _ h=>h));have C6:=zh (C5.out.trans (CA.mono (fun _ h=>h.elim)));generalize paint col5 w5.heap.size 12=col6 at *;obtain ⟨ga,hga⟩:=nm (w5.heap.size);rw [<- hga] at BA ⊢;generalize w5.alloc _=w6 at *;clear hga FA CA CG5 RE5 RL5 M5 C5 q0 hql;have q0:=CG6.out.b.cell 0;simp at q0;have t1:=M6.out.st.b.cell 1;replace t1:w6.cell? ⟨g,1,none⟩=some (.pointer (some ⟨X.ga,0,none⟩)):=t1;have HCL:=zh (clear_any M6.out.al);go_wp2_with fail;refine HCL.out.mono ?_;rintro e w7 ⟨rfl,hal,hfr⟩;have k7:Cg (· = 3) col6 w6 col6 w7:=Cg.of_fr hfr (by have h1:=M6.out.ak1;have h2:=M6.out.ak2;simp at h1 h2;simp [h1,h2]);have M7:=zh (M6.out.newAl k7 hal);have BA7:=zh (BA.out.cg k7 (by omega));have RE7:=zh (RE6.out.cg k7 (by omega));have RL7:=zh (RL6.out.cg k7 (by omega));have C7:=zh (C6.out.trans (k7.mono (C':=FC) (fun c hc=>.inr (.inl hc))));clear hal hfr k7 HCL M6 BA RE6 RL6 C6 CG6 q0 t1;have a0:=BA7.out.b.cell 0;have a1:=BA7.out.b.cell 1;have a2:=BA7.out.b.cell 2;have a3:=BA7.out.b.cell 3;have a4:=BA7.out.b.cell 4;have a5:=BA7.out.b.cell 5;simp at a0 a1 a2 a3 a4 a5;go_wp2_with fail;go_ret2;have FB:=(Fr.refl w7.heap.size [] w7).alloc (Nat.le_refl _) (.cells (ackV a eA ec lA lc) 72);have CB7:=(cg0 (col:=col6) FB).paint 12;refine ⟨some ⟨w7.heap.size,0,none⟩,1,uA,uc,eA,ec,lA,lc,paint col6 w7.heap.size 12,rfl,⟨(Reads.of_blk (m:=1) (size:=6) (Blk.new w7 72 (ackV a eA ec lA lc)) rfl).more (by simp),?_⟩,RE7.out.cg CB7 (fun h=>h),RL7.out.cg CB7 (fun h=>h),M7.out.cg CB7 (fun _ _ h=>h),C7.out.trans (CB7.mono (fun _ h=>h.elim))⟩;rintro ad had _;injection had with had
 rw [<- had];exact paint_ge (Nat.le_refl _)
end
end Go.Proofs.YtgblfflikgnfpaaGreat
namespace Go.Proofs.YtgblfflikgnfpaaGreat
open Go.RowKit Go.Fb
set_option maxRecDepth 100000
set_option maxHeartbeats 16000000
set_option linter.unusedVariables false
section
variable {col:Nat->Nat} {w:World} {g:Nat} {S:TaskS} {X:TX}
theorem flowNone_any (h:TaskM col w g S X) (hk:TaskOk S) (hm:metB S.many S.bs.length=false) (hr:S.room 4=true) (hp:∀ k,k < S.bs.length->freeAt S.bs (hasL S) S.last k=false) :
  Calls Tryz.prog 65 #[.pointer (some ⟨g,0,none⟩)] w fun e w'=>e=.returned (.tuple #[.slice none 0 0,.bool false])/\Fr w.heap.size [] w w':=by
 have HMT:=zh (fun W (hf:Fr w.heap.size [] w W)=>met_no (h.al.fr0 hf) hm);have HRM:=zh (fun W (hf:Fr w.heap.size [] w W)=>(by have:=room_any (h.fr0 hf) 4;rw [hr] at this;exact this:Calls Tryz.prog 100 #[.pointer (some ⟨g,0,none⟩),.int .i64 4] W fun e w'=>e=.returned (.bool true)/\Fr W.heap.size [] W w'));have t1:=h.st.b.cell 1;replace t1:w.cell? ⟨g,1,none⟩=some (.pointer (some ⟨X.ga,0,none⟩)):=t1;have hg:=h.st.b.lt;have F0:=zh ((Fr.refl w.heap.size [] w).alloc (Nat.le_refl _) (.cells #[.pointer (some ⟨g,0,none⟩)] 39));have BG:=zh (Blk.new w 39 #[.pointer (some ⟨g,0,none⟩)]);have hent:=enters_of Tryz.func107 (by kernel_rfl) rfl
 have HPK := zh (fun W (hf : Fr w.heap.size [] w W) (hb : Blk W w.heap.size 39 #[.pointer (some ⟨g, 0, none⟩)]) => (by
  refine (pick_any 107 #[.pointer (some ⟨w.heap.size,0,none⟩)] (hasL S) (h.al.fr0 hf) (by have:=h.few.1;have:=hk.bl;omega) hk.l0 (by rw [hk.bl];exact hk.l1) hent (fun k w' hkb hf'=>flow1_any ((h.fr0 hf).fr0 hf') w.heap.size k (by rw [<- hk.bl];exact hkb) (hb.fr hf' hb.lt (by simp)))).mono ?_;rintro e w' (⟨k,h1,h2,_⟩ | ⟨_,h2,h3⟩)
  · rw [hp k h1] at h2;cases h2
  · exact ⟨h2,h3⟩:Calls Tryz.prog 106 #[.pointer (some ⟨X.ga,0,none⟩),.func (.func 107) #[] #[.pointer (some ⟨w.heap.size,0,none⟩)]] W fun e w'=>e=.returned (.tuple #[.int .i64 0,.bool false])/\Fr W.heap.size [] W w'))
 have BTW:=zh h.st.b;clear h hk hm hr hp hent;go_enter Tryz.func65,Tryz.ntmps65;go_wp2_with fail;refine (HMT.out _ F0.out).mono ?_;rintro e w2 ⟨rfl,f2⟩;have F2:=zh (F0.out.nx f2);have BG2:=zh (BG.out.fr f2 BG.out.lt (by simp));clear f2 HMT F0 BG t1 hg;have q0:=BG2.out.cell 0;simp at q0;have hql:=BG2.out.lt;go_upto_region 8 with fail;have BG3:=zh (BG2.out.alloc (.cells #[.bool false,.int .i64 0,.int .i64 0,.int .i64 0,.int .i64 0,.bool false] 46));have F3:=zh (F2.out.alloc F2.out.size (.cells #[.bool false,.int .i64 0,.int .i64 0,.int .i64 0,.int .i64 0,.bool false] 46));generalize w2.alloc _=w3 at *;clear BG2 F2 q0 hql;have q0:=BG3.out.cell 0;simp at q0;go_wp2_with fail;refine (HRM.out _ F3.out).mono ?_;rintro e w4 ⟨rfl,f4⟩;have F4:=zh (F3.out.nx f4);have BG4:=zh (BG3.out.fr f4 BG3.out.lt (by simp));clear f4 F3 BG3 q0;have q0:=BG4.out.cell 0;simp at q0;have t1:w4.cell? ⟨g,1,none⟩=some (.pointer (some ⟨X.ga,0,none⟩)):=(BTW.out.fr F4.out BTW.out.lt (by simp)).cell 1;have HP4:=zh (HPK.out w4 F4.out BG4.out);go_wp2_with fail;refine HP4.out.mono ?_;rintro e w5 ⟨rfl,f5⟩;have F5:=zh (F4.out.nx f5);clear f5;go_wp2_with fail;go_ret2;exact ⟨rfl,F5.out⟩
def DidOut (col:Nat->Nat) (g:Nat) (S2:TaskS) (v:Value) (w:World) (e:Ending) (w':World):Prop:=∃ X' col',e=.returned v/\TaskM col' w' g S2 X'/\Cg FC col w col' w'
theorem flowItem_any (h:TaskM col w g S X) (hk:TaskOk S) (hm:metB S.many S.bs.length=false) (hr:S.room 4=true) (k:Nat) (hkb:k < S.bs.length) (hp:freeAt S.bs (hasL S) S.last k=true) (hpb:∀ j,j < k->freeAt S.bs (hasL S) S.last j=false) (c:Nat) (hc:c=pickC S.last S.bs.length k)
  (s:ByteArray) (hs:(S.ins.getD c ⟨0,0,[],0⟩).ls[0]?=some s) (hgd:goodI s=true) (S2:TaskS)
  (hit:∀ col' W X',TaskM col' W g (S.popped c) X'->Calls Tryz.prog 108 #[.pointer (some ⟨g,0,none⟩),.int .i64 (c:Int),.agg (getI s).cs] W (DidOut col' g S2 (.tuple #[]) W)) :
  Calls Tryz.prog 65 #[.pointer (some ⟨g,0,none⟩)] w (DidOut col g S2 (.tuple #[.slice none 0 0,.bool true]) w):=by
 have hcl:c < S.im.length:=(by rw [hc,<- hk.bl];exact pickC_lt (by omega));have HMT:=zh (fun W (hf:Fr w.heap.size [] w W)=>met_no (h.al.fr0 hf) hm);have HRM:=zh (fun W (hf:Fr w.heap.size [] w W)=>(by have:=room_any (h.fr0 hf) 4;rw [hr] at this;exact this:Calls Tryz.prog 100 #[.pointer (some ⟨g,0,none⟩),.int .i64 4] W fun e w'=>e=.returned (.bool true)/\Fr W.heap.size [] W w'));have t1:=h.st.b.cell 1;replace t1:w.cell? ⟨g,1,none⟩=some (.pointer (some ⟨X.ga,0,none⟩)):=t1;have hg:=h.st.b.lt;have F0:=zh ((Fr.refl w.heap.size [] w).alloc (Nat.le_refl _) (.cells #[.pointer (some ⟨g,0,none⟩)] 39));have BG:=zh (Blk.new w 39 #[.pointer (some ⟨g,0,none⟩)]);have hent:=enters_of Tryz.func107 (by kernel_rfl) rfl
 have HPK := zh (fun W (hf : Fr w.heap.size [] w W) (hb : Blk W w.heap.size 39 #[.pointer (some ⟨g, 0, none⟩)]) => (by
  refine (pick_any 107 #[.pointer (some ⟨w.heap.size,0,none⟩)] (hasL S) (h.al.fr0 hf) (by have:=h.few.1;have:=hk.bl;omega) hk.l0 (by rw [hk.bl];exact hk.l1) hent (fun k w' hkb hf'=>flow1_any ((h.fr0 hf).fr0 hf') w.heap.size k (by rw [<- hk.bl];exact hkb) (hb.fr hf' hb.lt (by simp)))).mono ?_;rintro e w' (⟨j,h1,h2,h3,h4,h5,h6⟩ | ⟨h1,_⟩)
  ·
   have hjk:j=k:=by
    rcases Nat.lt_trichotomy j k with h | h | h
    · rw [hpb j h] at h2;cases h2
    · exact h
    · rw [h3 k h] at hp;cases hp
   subst hjk;rw [<- hc] at h4 h5;exact ⟨h4,h5,h6⟩
  · exact absurd ((h1 k hkb).symm.trans hp) (by decide):Calls Tryz.prog 106 #[.pointer (some ⟨X.ga,0,none⟩),.func (.func 107) #[] #[.pointer (some ⟨w.heap.size,0,none⟩)]] W fun e w'=>e=.returned (.tuple #[.int .i64 (c:Int),.bool true])/\Al w' X.ga X.gb S.bs S.b S.ep S.p S.many (c:Int)/\Fr W.heap.size [X.ga] W w'))
 obtain ⟨mx,hmx⟩:∃ mx,S.im[c]?=some mx:=⟨_,List.getElem?_eq_getElem hcl⟩;obtain ⟨gk,hgk⟩:∃ gk,X.gi[c]?=some gk:=⟨_,List.getElem?_eq_getElem (by rw [h.gi];exact hcl)⟩;obtain ⟨sk,hsk⟩:∃ sk,S.ins[c]?=some sk:=⟨_,List.getElem?_eq_getElem (by rw [h.il];exact hcl)⟩;have hsd:S.ins.getD c ⟨0,0,[],0⟩=sk:=(by rw [List.getD,hsk];rfl);rw [hsd] at hs;have hsb:=hk.is sk (List.mem_of_getElem? hsk);have HZ:=zh (show (X.gi.zip S.im)[c]?=some (gk,mx) by rw [List.getElem?_zip_eq_some];exact ⟨hgk,hmx⟩);have HS:=zh hs;have HSK:=zh hsk;have HGK:=zh hgk;have HPO:=zh (show S.popped c={ S with last:=(c:Int),ins:=S.ins.set c (popI sk),out:=S.out ++ [ackP (popI sk)] } by unfold TaskS.popped;rw [hsd]);have HGT:=zh (by have:=aget_any s;rw [hgd] at this;exact fun W=>this W (hsb.2.2 s (List.mem_of_getElem? hs)):∀ W,Calls Tryz.prog 81 #[.string s] W fun e w'=>e=.returned (.tuple #[.agg (getI s).cs,.int .i64 0])/\Fr W.heap.size [] W w');have HIT:=zh hit;have HM:=zh h;have hou:=hk.ou;have HB6:=zh hsb;clear h hk hm hr hp hpb hent hc hs hgd hit hmx hgk hsk hsd hsb hkb;go_enter Tryz.func65,Tryz.ntmps65;go_wp2_with fail;refine (HMT.out _ F0.out).mono ?_;rintro e w2 ⟨rfl,f2⟩;have F2:=zh (F0.out.nx f2);have BG2:=zh (BG.out.fr f2 BG.out.lt (by simp));clear f2 HMT F0 BG t1 hg;have q0:=BG2.out.cell 0;simp at q0;have hql:=BG2.out.lt;go_upto_region 8 with fail;have BG3:=zh (BG2.out.alloc (.cells #[.bool false,.int .i64 0,.int .i64 0,.int .i64 0,.int .i64 0,.bool false] 46));have F3:=zh (F2.out.alloc F2.out.size (.cells #[.bool false,.int .i64 0,.int .i64 0,.int .i64 0,.int .i64 0,.bool false] 46));generalize w2.alloc _=w3 at *;clear BG2 F2 q0 hql;have q0:=BG3.out.cell 0;simp at q0;go_wp2_with fail;refine (HRM.out _ F3.out).mono ?_;rintro e w4 ⟨rfl,f4⟩;have F4:=zh (F3.out.nx f4);have BG4:=zh (BG3.out.fr f4 BG3.out.lt (by simp));clear f4 F3 BG3 q0;have q0:=BG4.out.cell 0;simp at q0;have M4:=HM.out.cg ((cg0 F4.out).paint 0) (fun _ _ h=>h);have C4:=(cgf (col:=col) FC F4.out).paint 0;have CG4:CB (paint col w.heap.size 0) 0 w4 w.heap.size 39 #[.pointer (some ⟨g,0,none⟩)]:=⟨BG4.out,paint_ge (Nat.le_refl _)⟩;generalize paint col w.heap.size 0=col4 at *;have M4:=zh M4;have C4:=zh C4;have CG4:=zh CG4;have t1:w4.cell? ⟨g,1,none⟩=some (.pointer (some ⟨X.ga,0,none⟩)):=M4.out.st.b.cell 1;have HP4:=zh (HPK.out w4 F4.out BG4.out);clear HM HPK HRM F4 BG4;go_wp2_with fail;refine HP4.out.mono ?_;rintro e w5 ⟨rfl,hal,hfr⟩;have k5:Cg (· = 3) col4 w4 col4 w5:=Cg.of_fr hfr (by have h1:=M4.out.ak1;simp [h1]);have M5:=zh (M4.out.newAl k5 hal);have C5:=zh (C4.out.trans (k5.mono (C':=FC) (fun c hc=>.inr (.inl hc))));have CG5:=zh (CG4.out.cg k5 (by omega));clear hal hfr k5 M4 C4 CG4 q0 t1 HP4;have q0:=CG5.out.b.cell 0;simp at q0;have t17:w5.cell? ⟨g,17,none⟩=some (.slice X.iA S.im.length X.ic):=M5.out.st.b.cell 17;obtain ⟨b,off,hA,hlt,_,hcell⟩:=Reads.elem inF_len M5.out.ir.1 HZ.out (by omega);have x0:=hcell 0 _ rfl;simp only [Nat.add_zero] at x0;rw [hA] at t17;have hci:(c:Int) < (S.im.length:Int):=(by omega);have HPP:=zh (inPop_any (M5.out.im c gk sk HGK.out HSK.out) HS.out (by have:=HB6.out.1;omega) HB6.out.2.1);clear hcell hA;go_wp2_with fail;refine HPP.out.mono ?_;rintro e w6 ⟨A6,c6,col6,rfl,hrd,hin,hcg⟩;have M6:=zh (M5.out.setIn HGK.out HSK.out hcg hin);have RD:=zh hrd;have C6:=zh (C5.out.trans (hcg.mono (C':=FC) (fun q hq=>by have:=M5.out.few.1;have hq2:q=20+2 * c:=hq;unfold FC;simp only at this;omega)));have CG6:=zh (CG5.out.cg hcg (by omega));clear hrd hin hcg M5 C5 CG5 q0 t17 x0 HPP hlt;go_upto_region 14 with fail;have BGC:=zh CG6.out.b.drew;have BTC:=zh M6.out.st.b.drew;have OU:=zh (M6.out.ou.drew:CR col6 8 w6.drew 89 6 (.slice X.uA S.out.length X.uc) S.out.length (pksC S.out));have c27:w6.cell? ⟨g,27,none⟩=some (.slice X.uA S.out.length X.uc):=M6.out.st.b.cell 27;have hg6:=M6.out.st.b.lt;obtain ⟨no,hno⟩:=nm (S.out.length);rw [<- hno] at c27 OU hou;have HNO:=zh hno;clear hno;have CC:=zh ((Cg.refl (· = 8) col6 w6).drew);refine wp_region_held_drew (S:=fun W=>W.cell? ⟨w.heap.size,0,none⟩=some (.pointer (some ⟨g,0,none⟩))) (by kernel_rfl) (BGC.out.cell 0) (fun hHeld => ?_);refine tk (i:=0) (oi:=⟨some 63,_,_,_,_,_⟩) (v:=?_) rfl ?_ hHeld ?_
 rotate_left
 · intro w hSw;(try dsimp only at hSw);go_simp;(try with_reducible rfl)
 simp only [Act.put,lPt];refine tk (i:=1) (oi:=⟨some 64,_,_,_,_,_⟩) (v:=?_) rfl ?_ hHeld ?_
 rotate_left
 · intro w hSw;(try dsimp only at hSw);go_simp;(try with_reducible rfl)
 simp only [Act.put,lPt];refine tk (i:=2) (oi:=⟨some 65,_,_,_,_,_⟩) (v:=?_) rfl ?_ hHeld ?_
 rotate_left
 · intro w hSw;(try dsimp only at hSw);go_simp;(try with_reducible rfl)
 simp only [Act.put,lPt];refine tk (i:=3) (oi:=⟨some 66,_,_,_,_,_⟩) (v:=?_) rfl ?_ hHeld ?_
 rotate_left
 · intro w hSw;(try dsimp only at hSw);go_simp;(try with_reducible rfl)
 simp only [Act.put,lPt];refine tk (i:=5) (oi:=⟨some 68,_,_,_,_,_⟩) (v:=?_) rfl ?_ hHeld ?_
 rotate_left
 · intro w hSw;(try dsimp only at hSw);go_simp;(try with_reducible rfl)
 simp only [Act.put,lPt];refine wpAnyH_ready (rs:=[4]) (by kernel_rfl) (by simp) ?_;refine AllReadyH.cons (o:=⟨some 67,_,_,_,_,_⟩) rfl (fun K hK => ?_) AllReadyH.nil;rw [if_pos (by rfl)];go_simp;refine hK.out _ _ (BGC.out.cell 0) (fun hHeld => ?_);clear hK K
 try simp only [Act.put,lPt]
 refine wpAnyH_ready (rs:=[6]) (by kernel_rfl) (by simp) ?_;refine AllReadyH.cons (o:=⟨some 69,_,_,_,_,_⟩) rfl (fun K hK => ?_) AllReadyH.nil;refine step_appC _ (by rfl) (.tmp 67) (.tmp 68) pktTy (by rfl) _ no _ (by rfl) OU.out w6.heap.size A6 1 c6 (pksC [ackP (popI sk)]) (by rfl) (RD.out.1) (pksC_one _) (by omega) (by omega) ?_;intro A' c' w7 hrow hcg hgr;have CC:=zh (CC.out.trans hcg);have BTC:=zh (BTC.out.grown hgr (BTC.out.ne_rowO OU.out.r (by decide)));have BGC:=zh (CG6.out.cg CC.out (by omega)).b;have OU:=zh hrow;generalize paint col6 _ 8=col7 at *;clear hrow hcg hgr c27 hg6;refine hK.out _ _ (BGC.out.cell 0) (fun hHeld => ?_);clear hK K
 try simp only [Act.put,lPt]
 refine tk (i:=7) (oi:=⟨some 70,_,_,_,_,_⟩) (v:=?_) rfl ?_ hHeld ?_
 rotate_left
 · intro w hSw;(try dsimp only at hSw);go_simp;(try with_reducible rfl)
 simp only [Act.put,lPt];refine tk (i:=8) (oi:=⟨some 71,_,_,_,_,_⟩) (v:=?_) rfl ?_ hHeld ?_
 rotate_left
 · intro w hSw;(try dsimp only at hSw);go_simp;(try with_reducible rfl)
 simp only [Act.put,lPt];refine wpAnyH_ready (rs:=[9]) (by kernel_rfl) (by simp) ?_;refine AllReadyH.cons (o:=⟨none,_,_,_,_,_⟩) rfl (fun K hK => ?_) AllReadyH.nil;rw [if_pos (by rfl)];have hf27:=BTC.out.frozen 27;have hg27:=BTC.out.lt;have hc27:w7.cell? ⟨g,27,none⟩=some (.slice X.uA no X.uc):=(by rw [HNO.out];exact BTC.out.cell 27);go_simp;have BGC:=zh ((CG6.out.cg CC.out (by omega)).b.far (p:=⟨g,27,none⟩) (fun e=>by have h1:=CG6.out.k;have h2:=M6.out.st.k;simp only at e;rw [e,h2] at h1;omega) (.slice A' (no+1) c'));refine hK.out _ _ (BGC.out.cell 0) (fun hHeld => ?_);clear hK K
 try simp only [Act.put]
 refine wpAnyH_done (by kernel_rfl) ?_ _
 skip
 have hol:(S.out ++ [ackP (popI sk)]).length=no+1:=(by rw [List.length_append,HNO.out];rfl);have hou2:=OU.out;rw [<- pksC_app,<- hol] at hou2;have m8:=M6.out.newOut CC.out hou2;rw [hol] at m8;have M8:=zh (by rw [HPO.out];exact m8:TaskM col7 (w7.setCell ⟨g,27,none⟩ (.slice A' (no+1) c')) g (S.popped c) { X with uA:=A',uc:=c' });have C8:=zh ((C6.out.trans (CC.out.mono (C':=FC) (fun q hq=>by have hq2:q=8:=hq;unfold FC;omega))).set (p:=⟨g,27,none⟩) (by have:=M6.out.st.cg CC.out (by omega);show FC (col7 g);rw [this.k];unfold FC;omega) (.slice A' (no+1) c'));have CG8:=zh (⟨BGC.out,(CC.out.same _ CG6.out.b.lt).trans CG6.out.k⟩:CB col7 0 (w7.setCell ⟨g,27,none⟩ (.slice A' (no+1) c')) w.heap.size 39 #[.pointer (some ⟨g,0,none⟩)]);generalize w7.setCell _ _=w8 at *;clear hol hou2 m8 CC BGC BTC OU C6 CG6 M6 hHeld hc27 hf27 hg27;have q0:=CG8.out.b.cell 0;simp at q0;go_wp2_with fail;refine (HGT.out w8).mono ?_;rintro e w9 ⟨rfl,f9⟩;have M9:=zh (M8.out.fr0 f9);have C9:=zh (C8.out.trans (cgf FC f9));have CG9:=zh (CG8.out.cg (cg0 f9) (fun h=>h));clear f9 M8 C8 CG8 q0 HGT;go_upto_region 16 with fail;have FA:=(Fr.refl w9.heap.size [] w9).alloc (Nat.le_refl _) (.cells (getI s).cs 46);have M10:=zh (M9.out.fr0 FA);have C10:=zh (C9.out.trans (cgf FC FA));have CG10:=zh (CG9.out.cg (cg0 FA) (fun h=>h));have BI:=zh (Blk.new w9 46 (getI s).cs);have HIT10:=zh (HIT.out col7 _ _ M10.out);clear FA M9 C9 CG9 HIT;obtain ⟨gi,hgi⟩:=nm (w9.heap.size);rw [<- hgi] at BI ⊢;generalize w9.alloc _=w10 at *;clear hgi;have q0:=CG10.out.b.cell 0;have i0:=BI.out.cell 0;have i1:=BI.out.cell 1;have i2:=BI.out.cell 2;have i3:=BI.out.cell 3;have i4:=BI.out.cell 4;have i5:=BI.out.cell 5;simp at q0 i0 i1 i2 i3 i4 i5;go_wp2_with fail;refine HIT10.out.mono ?_;rintro e w11 ⟨X11,col11,rfl,hm11,hc11⟩;have M11:=zh hm11;have C11:=zh (C10.out.trans hc11);clear hm11 hc11 HIT10;go_wp2_with fail;go_ret2;exact ⟨X11,col11,rfl,M11.out,C11.out⟩
end
end Go.Proofs.YtgblfflikgnfpaaGreat
namespace Go.Proofs.YtgblfflikgnfpaaGreat
open Go.RowKit Go.Fb
set_option maxRecDepth 100000
set_option maxHeartbeats 16000000
set_option linter.unusedVariables false
section
variable {col:Nat->Nat} {w:World} {g:Nat} {S:TaskS} {X:TX}
def WorkOut (col:Nat->Nat) (g:Nat) (S2:TaskS) (did:Bool) (R:Value->(Nat->Nat)->World->Prop) (w:World) (e:Ending) (w':World):Prop :=
 ∃ A c V X' col',e=.returned (.tuple #[.slice A S2.out.length c,V,.bool did])/\CRd col' 8 w' 6 A S2.out.length (pksC S2.out)/\TaskM col' w' g { S2 with out:=[] } X'/\Cg FC col w col' w'/\R V col' w'
theorem work_any (h:TaskM col w g S X) (hk:S.nd.kind ≠ 0) (vs:Value) (did:Bool) (S2:TaskS) (R:Value->(Nat->Nat)->World->Prop) (hR:∀ V col' w1 w2,R V col' w1->Cg (· = 1) col' w1 col' w2->R V col' w2)
  (hfl:Calls Tryz.prog 65 #[.pointer (some ⟨g,0,none⟩)] w fun e w'=>∃ V X' col',e=.returned (.tuple #[V,.bool did])/\TaskM col' w' g S2 X'/\Cg FC col w col' w'/\R V col' w') :
  Calls Tryz.prog 25 #[.pointer (some ⟨g,0,none⟩),vs] w (WorkOut col g S2 did R w):=by
 have t3:=h.st.b.cell 3;replace t3:w.cell? ⟨g,3,none⟩=some (.int .i64 S.nd.kind):=t3;have hke:(S.nd.kind == 0)=false:=(by rw [beq_eq_false_iff_ne];exact hk);have HF:=zh hfl;have HR:=zh hR;clear h hk hfl hR;go_enter Tryz.func25,Tryz.ntmps25;go_wp2_with fail;refine HF.out.mono ?_;rintro e w2 ⟨V,X2,col2,rfl,hm,hc,hr⟩;have M2:=zh hm;have C2:=zh hc;have R2:=zh hr;clear hm hc hr HF t3;have c27:w2.cell? ⟨g,27,none⟩=some (.slice X2.uA S2.out.length X2.uc):=M2.out.st.b.cell 27;have f27:=M2.out.st.b.frozen 27;go_wp2_with fail;go_ret3;have k:Cg (· = 1) col2 w2 col2 (w2.setCell ⟨g,27,none⟩ (.slice none 0 0)):=(Cg.refl _ _ _).set M2.out.st.k _;have m3:=M2.out.newOut (l:=[]) (Cg.refl _ _ _) (CR.nil col2 8 w2 89 6);exact ⟨X2.uA,X2.uc,V,_,col2,rfl,M2.out.ou.rd.cg k (by omega),m3,C2.out.trans (k.mono (fun q hq=>.inl hq)),HR.out _ _ _ _ R2.out k⟩
theorem workItem_any (h:TaskM col w g S X) (hk:S.nd.kind ≠ 0) (vs:Value) (S2:TaskS) (hfl:Calls Tryz.prog 65 #[.pointer (some ⟨g,0,none⟩)] w (DidOut col g S2 (.tuple #[.slice none 0 0,.bool true]) w)) :
  Calls Tryz.prog 25 #[.pointer (some ⟨g,0,none⟩),vs] w (WorkOut col g S2 true (fun V _ _=>V=.slice none 0 0) w) :=
 work_any h hk vs true S2 _ (fun _ _ _ _ h _=>h) (hfl.mono (by rintro e w' ⟨X',col',rfl,h1,h2⟩;exact ⟨_,X',col',rfl,h1,h2,rfl⟩))
theorem workNone_any (h:TaskM col w g S X) (hk:S.nd.kind ≠ 0) (vs:Value) (hfl:Calls Tryz.prog 65 #[.pointer (some ⟨g,0,none⟩)] w fun e w'=>e=.returned (.tuple #[.slice none 0 0,.bool false])/\Fr w.heap.size [] w w') :
  Calls Tryz.prog 25 #[.pointer (some ⟨g,0,none⟩),vs] w (WorkOut col g S false (fun V _ _=>V=.slice none 0 0) w) :=
 work_any h hk vs false S _ (fun _ _ _ _ h _=>h) (hfl.mono (by rintro e w' ⟨rfl,hf⟩;exact ⟨_,X,col,rfl,h.fr0 hf,cgf FC hf,rfl⟩))
def AckM (a:AckS) (V:Value) (col:Nat->Nat) (w:World):Prop :=
 ∃ A cp eA ec lA lc,V=.slice A 1 cp/\CRd col 12 w 6 A 1 (ackV a eA ec lA lc).toList/\CRd col 12 w 6 eA a.ents.length (cellsE a.ents)/\CRd col 12 w 5 lA a.lns.length (cellsLn a.lns)
theorem workMet_any (h:TaskM col w g S X) (hk:S.nd.kind ≠ 0) (vs:Value) (S2:TaskS) (a:AckS) (hfl:Calls Tryz.prog 65 #[.pointer (some ⟨g,0,none⟩)] w (MetOut col g S2 X a w)) :
  Calls Tryz.prog 25 #[.pointer (some ⟨g,0,none⟩),vs] w (WorkOut col g S2 true (AckM a) w) :=
 work_any h hk vs true S2 _ (by
  rintro V col' w1 w2 ⟨A,cp,eA,ec,lA,lc,rfl,h1,h2,h3⟩ k
  exact ⟨A, cp, eA, ec, lA, lc, rfl, h1.cg k (by omega), h2.cg k (by omega), h3.cg k (by omega)⟩) (hfl.mono (by
  rintro e w' ⟨A,cp,uA,uc,eA,ec,lA,lc,col',rfl,h1,h2,h3,h4,h5⟩
  exact ⟨_,_,col',rfl,h4,h5,A,cp,eA,ec,lA,lc,rfl,h1,h2,h3⟩))
end
end Go.Proofs.YtgblfflikgnfpaaGreat
namespace Go.Proofs.YtgblfflikgnfpaaGreat
open Go.RowKit Go.Fb
set_option maxRecDepth 100000
set_option maxHeartbeats 16000000
set_option linter.unusedVariables false
structure Feed where
 (o:OutS) (fr:Int) (left:List Itm)
structure Drain where
 (i:InS) (dest task:Int) (got:List Itm)
structure RigS where
 (t:TaskS) (fs:List Feed) (ds:List Drain) (acks:List AckS) (ix:Int)
def itF (i:Itm):List Value:=i.cs.toList
theorem itF_len (i:Itm):(itF i).length=6:=rfl
def itmsC (l:List Itm):List Value:=l.flatMap itF
theorem itmsC_one (l:List Itm):∀ u ∈ itmsC l,u.oneCell'=true:=by
 intro u hu;obtain ⟨p,_,hp⟩:=List.mem_flatMap.1 hu;simp [itF] at hp
 rcases hp with rfl | rfl | rfl | rfl | rfl | rfl <;> rfl
theorem itmsC_drop (l:List Itm) (k:Nat):(itmsC l).drop (k * 6)=itmsC (l.drop k):=by
 induction k generalizing l with
 | zero=>simp
 | succ k ih =>
  cases l with
  | nil=>simp [itmsC]
  | cons a l =>
   have e:itmsC (a :: l)=itF a ++ itmsC l:=List.flatMap_cons;rw [e,List.drop_append,itF_len,List.drop_eq_nil_of_le (by rw [itF_len];omega),List.nil_append,show (k+1) * 6 - 6=k * 6 by omega,ih];rfl
def FeedM (col:Nat->Nat) (k:Nat) (w:World) (g:Nat) (F:Feed):Prop :=
 ∃ go A c,CB col (200+4 * k) w g 37 #[.pointer (some ⟨go,0,none⟩),.int .i64 F.fr,.slice A F.left.length c]/\CR col (201+4 * k) w 46 6 (.slice A F.left.length c) F.left.length (itmsC F.left)/\OutM col (202+4 * k) w go F.o
def DrainM (col:Nat->Nat) (k:Nat) (w:World) (g:Nat) (D:Drain):Prop :=
 ∃ gi A c,CB col (500+4 * k) w g 117 #[.pointer (some ⟨gi,0,none⟩),.int .i64 D.dest,.int .i64 D.task,.slice A D.got.length c]/\CR col (501+4 * k) w 46 6 (.slice A D.got.length c) D.got.length (itmsC D.got)/\InM col (502+4 * k) w gi D.i
section
variable {C:Nat->Prop} {col col':Nat->Nat} {w w':World} {g k:Nat}
theorem FeedM.cg {F:Feed} (h:FeedM col k w g F) (c:Cg C col w col' w') (hc:¬ C (200+4 * k)/\¬ C (201+4 * k)/\¬ C (202+4 * k)):FeedM col' k w' g F:=by
 obtain ⟨go,A,cp,h1,h2,h3⟩:=h;exact ⟨go,A,cp,h1.cg c hc.1,h2.cg c hc.2.1,h3.cg c hc.2.2⟩
theorem DrainM.cg {D:Drain} (h:DrainM col k w g D) (c:Cg C col w col' w') (hc:¬ C (500+4 * k)/\¬ C (501+4 * k)/\¬ C (502+4 * k)):DrainM col' k w' g D:=by
 obtain ⟨go,A,cp,h1,h2,h3⟩:=h;exact ⟨go,A,cp,h1.cg c hc.1,h2.cg c hc.2.1,h3.cg c hc.2.2⟩
end
structure AckX where
 (a:AckS) (eA:Option Addr) (ec:Nat) (lA:Option Addr) (lc:Nat)
def ackF (x:AckX):List Value:=(ackV x.a x.eA x.ec x.lA x.lc).toList
theorem ackF_len (x:AckX):(ackF x).length=6:=rfl
structure RX where
 (gt:Nat) (X:TX) (fA dA aA:Option Addr) (fc dc ac:Nat) (gf gd:List Nat) (aks:List AckX)
def ptrF (g:Nat):List Value:=[.pointer (some ⟨g,0,none⟩)]
theorem ptrF_len (g:Nat):(ptrF g).length=1:=rfl
structure RigM (col:Nat->Nat) (w:World) (g:Nat) (R:RigS) (Y:RX):Prop where
 st:CB col 110 w g 44 #[.pointer (some ⟨Y.gt,0,none⟩),.slice Y.fA R.fs.length Y.fc,.slice Y.dA R.ds.length Y.dc,.slice Y.aA R.acks.length Y.ac,.int .i64 R.ix]
 t:TaskM col w Y.gt R.t Y.X
 fl:Y.gf.length=R.fs.length
 fr:CRd col 111 w 1 Y.fA R.fs.length (Y.gf.flatMap ptrF)
 fm:∀ k gk F,Y.gf[k]?=some gk->R.fs[k]?=some F->FeedM col k w gk F
 dl:Y.gd.length=R.ds.length
 dr:CRd col 112 w 1 Y.dA R.ds.length (Y.gd.flatMap ptrF)
 dm:∀ k gk D,Y.gd[k]?=some gk->R.ds[k]?=some D->DrainM col k w gk D
 al:Y.aks.map (·.a)=R.acks
 ar:CR col 113 w 72 6 (.slice Y.aA R.acks.length Y.ac) R.acks.length (Y.aks.flatMap ackF)
 am:∀ x ∈ Y.aks,CRd col 12 w 6 x.eA x.a.ents.length (cellsE x.a.ents)/\CRd col 12 w 5 x.lA x.a.lns.length (cellsLn x.a.lns)
 few:R.fs.length<=60/\R.ds.length<=60
def RC (c:Nat):Prop:=TC c \/ c=12 \/ (110<=c/\c<=113) \/ (200<=c/\c < 1000)
section
variable {C:Nat->Prop} {col col':Nat->Nat} {w w':World} {g:Nat} {R:RigS} {Y:RX}
theorem RigM.cg (h:RigM col w g R Y) (k:Cg C col w col' w') (hc:∀ c,RC c->¬ C c):RigM col' w' g R Y:=by
 have hf:=h.few;have hfl:=h.fl;have hdl:=h.dl;refine ⟨h.st.cg k (hc _ (.inr (.inr (.inl (by omega))))),h.t.cg k (fun c h=>hc c (.inl h)),h.fl,h.fr.cg k (hc _ (.inr (.inr (.inl (by omega))))),fun j gj F h1 h2 => ?_,h.dl,h.dr.cg k (hc _ (.inr (.inr (.inl (by omega))))),fun j gj D h1 h2 => ?_,h.al,h.ar.cg k (hc _ (.inr (.inr (.inl (by omega))))),fun x hx=>⟨(h.am x hx).1.cg k (hc _ (.inr (.inl rfl))),(h.am x hx).2.cg k (hc _ (.inr (.inl rfl)))⟩,h.few⟩
 · have hj:=(List.getElem?_eq_some_iff.1 h2).1;exact (h.fm j gj F h1 h2).cg k ⟨hc _ (.inr (.inr (.inr (by omega)))),hc _ (.inr (.inr (.inr (by omega)))),hc _ (.inr (.inr (.inr (by omega))))⟩
 · have hj:=(List.getElem?_eq_some_iff.1 h2).1;exact (h.dm j gj D h1 h2).cg k ⟨hc _ (.inr (.inr (.inr (by omega)))),hc _ (.inr (.inr (.inr (by omega)))),hc _ (.inr (.inr (.inr (by omega))))⟩
theorem RigM.fr0 (h:RigM col w g R Y) (k:Fr w.heap.size [] w w'):RigM col w' g R Y:=h.cg (cg0 k) (fun _ _ h=>h)
theorem RigM.setT (h:RigM col w g R Y) (k:Cg C col w col' w') (hc:∀ c,C c->TC c \/ c=10) {t:TaskS} {X:TX} (ht:TaskM col' w' Y.gt t X):RigM col' w' g { R with t:=t } { Y with X:=X }:=by
 have hn:∀ c,(c=12 \/ 100<=c)->¬ C c:=fun c h hC=>by
  rcases hc c hC with h1 | h1
  · unfold TC at h1;omega
  · omega
 exact ⟨h.st.cg k (hn _ (by omega)),ht,h.fl,h.fr.cg k (hn _ (by omega)),fun j gj F h1 h2=>(h.fm j gj F h1 h2).cg k ⟨hn _ (by omega),hn _ (by omega),hn _ (by omega)⟩,h.dl,h.dr.cg k (hn _ (by omega)),fun j gj D h1 h2=>(h.dm j gj D h1 h2).cg k ⟨hn _ (by omega),hn _ (by omega),hn _ (by omega)⟩,h.al,h.ar.cg k (hn _ (by omega)),fun x hx=>⟨(h.am x hx).1.cg k (hn _ (by omega)),(h.am x hx).2.cg k (hn _ (by omega))⟩,h.few⟩
theorem RigM.setF (h:RigM col w g R Y) {j gj:Nat} {F':Feed} (k:Cg C col w col' w') (hc:∀ c,C c->200+4 * j<=c/\c < 204+4 * j) (hg:Y.gf[j]?=some gj) (hf:FeedM col' j w' gj F'):RigM col' w' g { R with fs:=R.fs.set j F' } Y:=by
 have hj:j < R.fs.length:=(by rw [<- h.fl];exact (List.getElem?_eq_some_iff.1 hg).1);have hfw:=h.few;have hn:∀ c,(c < 200+4 * j \/ 204+4 * j<=c)->¬ C c:=fun c h hC=>by have:=hc c hC;omega
 refine ⟨by simpa using h.st.cg k (hn _ (by omega)),h.t.cg k (fun c hT=>hn _ (by unfold TC at hT;omega)),by simpa using h.fl,by simpa using h.fr.cg k (hn _ (by omega)),fun i gi F h1 h2 => ?_,h.dl,h.dr.cg k (hn _ (by omega)),fun i gi D h1 h2=>(h.dm i gi D h1 h2).cg k ⟨hn _ (by omega),hn _ (by omega),hn _ (by omega)⟩,h.al,h.ar.cg k (hn _ (by omega)),fun x hx=>⟨(h.am x hx).1.cg k (hn _ (by omega)),(h.am x hx).2.cg k (hn _ (by omega))⟩,by simpa using h.few⟩
 rcases Nat.decEq i j with hij | rfl
 · have h2:(R.fs.set j F')[i]?=some F:=h2;rw [List.getElem?_set_ne (by omega)] at h2;exact (h.fm i gi F h1 h2).cg k ⟨hn _ (by omega),hn _ (by omega),hn _ (by omega)⟩
 ·
  have h2:(R.fs.set i F')[i]?=some F:=h2;rw [List.getElem?_set_self hj] at h2;rw [h1] at hg;injection hg with hg
  injection h2 with h2
  subst hg h2;exact hf
theorem RigM.setD (h:RigM col w g R Y) {j gj:Nat} {D':Drain} (k:Cg C col w col' w') (hc:∀ c,C c->500+4 * j<=c/\c < 504+4 * j) (hg:Y.gd[j]?=some gj) (hf:DrainM col' j w' gj D'):RigM col' w' g { R with ds:=R.ds.set j D' } Y:=by
 have hj:j < R.ds.length:=(by rw [<- h.dl];exact (List.getElem?_eq_some_iff.1 hg).1);have hfw:=h.few;have hn:∀ c,(c < 500+4 * j \/ 504+4 * j<=c)->¬ C c:=fun c h hC=>by have:=hc c hC;omega
 refine ⟨by simpa using h.st.cg k (hn _ (by omega)),h.t.cg k (fun c hT=>hn _ (by unfold TC at hT;omega)),h.fl,h.fr.cg k (hn _ (by omega)),fun i gi F h1 h2 => ?_,by simpa using h.dl,by simpa using h.dr.cg k (hn _ (by omega)),fun i gi D h1 h2 => ?_,h.al,h.ar.cg k (hn _ (by omega)),fun x hx=>⟨(h.am x hx).1.cg k (hn _ (by omega)),(h.am x hx).2.cg k (hn _ (by omega))⟩,by simpa using h.few⟩
 · have hi:i < R.fs.length:=(List.getElem?_eq_some_iff.1 h2).1;exact (h.fm i gi F h1 h2).cg k ⟨hn _ (by omega),hn _ (by omega),hn _ (by omega)⟩
 rcases Nat.decEq i j with hij | rfl
 · have h2:(R.ds.set j D')[i]?=some D:=h2;rw [List.getElem?_set_ne (by omega)] at h2;exact (h.dm i gi D h1 h2).cg k ⟨hn _ (by omega),hn _ (by omega),hn _ (by omega)⟩
 ·
  have h2:(R.ds.set i D')[i]?=some D:=h2;rw [List.getElem?_set_self hj] at h2;rw [h1] at hg;injection hg with hg
  injection h2 with h2
  subst hg h2;exact hf
end
end Go.Proofs.YtgblfflikgnfpaaGreat
namespace Go.Proofs.YtgblfflikgnfpaaGreat
open Go.RowKit Go.Fb
set_option maxRecDepth 100000
set_option maxHeartbeats 16000000
set_option linter.unusedVariables false
def ackAll (l:List Pkt) (o:OutS):OutS:=l.foldl (fun o a=>ackO a o) o
theorem ackAll_snoc (l:List Pkt) (a:Pkt) (o:OutS):ackAll (l ++ [a]) o=ackO a (ackAll l o):=by unfold ackAll;rw [List.foldl_append];rfl
theorem ackO_few (p:Pkt) (o:OutS):(ackO p o).ws.length<=o.ws.length/\(ackO p o).last=o.last:=by
 unfold ackO
 split
 · exact ⟨Nat.le_refl _,rfl⟩
 · exact ⟨by simp only [List.length_drop];omega,rfl⟩
theorem ackAll_few (l:List Pkt):∀ o:OutS,(ackAll l o).ws.length<=o.ws.length/\(ackAll l o).last=o.last:=by
 induction l with
 | nil=>intro o;exact ⟨Nat.le_refl _,rfl⟩
 | cons a l ih =>
  intro o;have h1:=ih (ackO a o);have h2:=ackO_few a o;exact ⟨Nat.le_trans h1.1 h2.1,h1.2.trans h2.2⟩
theorem tells_ack {S:TaskS} {p:Pkt} {m:Nat} {a:Pkt} (h:a ∈ S.tells p m):∃ s ∈ S.ins,a.ack=s.out:=by
 unfold TaskS.tells at h;obtain ⟨s,hs,ha⟩:=List.mem_flatMap.1 h;refine ⟨s,List.mem_of_mem_take hs,?_⟩;unfold takeI at ha
 split at ha
 · cases ha
 ·
  split at ha
  ·
   split at ha
   · cases ha
   · have:=List.mem_singleton.1 ha;rw [this];rfl
  · have:=List.mem_singleton.1 ha;rw [this];rfl
theorem pkF_len (p:Pkt):((pkC p).toList).length=6:=rfl
section
variable {col:Nat->Nat} {w:World} {g:Nat} {R:RigS} {Y:RX}
def SentOut (col:Nat->Nat) (g:Nat) (R':RigS) (Y:RX) (w:World) (e:Ending) (w':World):Prop :=
 ∃ col',e=.returned (.tuple #[])/\RigM col' w' g R' Y/\Cg (fun c=>RC c \/ c=10) col w col' w'
theorem rsend_any (h:RigM col w g R Y) (k:Nat) (F:Feed) (i:Itm) (rest:List Itm) (hF:R.fs[k]?=some F) (hl:F.left=i :: rest) (h6:F.o.ws.length < 6) (h0:0<=F.o.last) (h1:F.o.last<=1000000000) (hll:F.left.length<=1000000)
  (hs:(putS i.put).size ≠ 0) (hi:∀ s ∈ R.t.ins,s.ls.length<=6/\Cn s.out) (ho:∀ o ∈ R.t.outs,o.ws.length<=1000000/\Cn o.last) (p:Pkt) (hp:p=⟨F.o.ch,0,F.o.inc,F.o.last+1,0,putS i.put⟩) (o1:OutS) (ho1:o1={ F.o with ws:=F.o.ws ++ [putS i.put],last:=F.o.last+1 }) :
  Calls Tryz.prog 12 #[.pointer (some ⟨g,0,none⟩),.int .i64 (k:Int)] w (SentOut col g { R with t:=R.t.take p,fs:=R.fs.set k ⟨ackAll (R.t.tells p R.t.ins.length) o1,F.fr,rest⟩ } Y w):=by
 obtain ⟨R',hR'⟩:∃ R':RigS,R'={ R with t:=R.t.take p,fs:=R.fs.set k ⟨ackAll (R.t.tells p R.t.ins.length) o1,F.fr,rest⟩ }:=⟨_,rfl⟩;rw [<- hR'];have HR':=zh hR';have hk:k < R.fs.length:=(List.getElem?_eq_some_iff.1 hF).1;obtain ⟨gk,hgk⟩:∃ gk,Y.gf[k]?=some gk:=⟨_,List.getElem?_eq_getElem (by rw [h.fl];exact hk)⟩;obtain ⟨b,off,hA,hb,_,hcell⟩:=Reads.elem ptrF_len h.fr.1 hgk (by omega);have x0:=hcell 0 _ rfl;simp only [Nat.add_zero,Nat.mul_one] at x0;have r1:=h.st.b.cell 1;replace r1:w.cell? ⟨g,1,none⟩=some (.slice Y.fA R.fs.length Y.fc):=r1;rw [hA] at r1;have hki:(k:Int) < (R.fs.length:Int):=(by omega);obtain ⟨go,lA,lc,hf1,hf2,hf3⟩:=h.fm k gk F hgk hF;obtain ⟨s,hsd⟩:=nm (putS i.put);rw [<- hsd] at hs hp ho1
 have hso:sendO s F.o=(o1,[p],0):=by
  unfold sendO;rw [if_neg hs,if_neg (by omega),ho1,hp]
 have HSO:=zh hso;have HFR:=zh (free_any hf3);have hfe:(6 - (F.o.ws.length:Int) == 0)=false:=(by rw [beq_eq_false_iff_ne];omega);obtain ⟨nl,hnl⟩:=nm (F.left.length);have hnl1:nl=rest.length+1:=(by rw [hnl,hl];rfl);have fl2:=hf1.b.cell 2;replace fl2:w.cell? ⟨gk,2,none⟩=some (.slice lA F.left.length lc):=fl2;have fl0:=hf1.b.cell 0;simp at fl0;rw [<- hnl] at fl2;obtain ⟨b2,off2,hA2,hb2,_,hcell2⟩:=Reads.elem itF_len hf2.r.reads (by rw [hl];rfl:F.left[0]?=some i) (by omega);have y0:=hcell2 0 _ rfl;have y1:=hcell2 1 _ rfl;have y2:=hcell2 2 _ rfl;have y3:=hcell2 3 _ rfl;have y4:=hcell2 4 _ rfl;have y5:=hcell2 5 _ rfl;simp only [Nat.add_zero,Nat.zero_mul] at y0 y1 y2 y3 y4 y5;have hnle:((nl:Int) == 0)=false:=(by rw [beq_eq_false_iff_ne];omega);have hnl0:¬ nl=0:=(by omega);have hnlp:(0:Int) < (nl:Int):=(by omega);obtain ⟨ok,hok⟩:=nm ((if i.put.isSome then 0 else 1):Int);have HPT:=zh (fun W=>(by have:=aput_any i.b i.k i.re i.im i.ep i.p W;unfold RetPut at this;rw [show putI i.b i.k i.re i.im i.ep i.p=i.put from rfl,<- hsd,<- hok] at this;exact this:Calls Tryz.prog 46 #[.agg (It i.b i.k i.re i.im i.ep i.p)] W fun e w'=>e=.returned (.tuple #[.string s,.int .i64 ok])/\Fr W.heap.size [] W w'));have HM:=zh h;have HF:=zh hF;have HGK:=zh hgk;have HI:=zh hi;have HO:=zh ho;have HNL:=zh hnl;have HL:=zh hl;have HNL1:=zh hnl1;have HPA:=zh (show p.ack=0 by rw [hp]);have HO1W:=zh (show o1.ws.length<=1000000 by rw [ho1];simp;omega);have HO1L:=zh (show Cn o1.last by rw [ho1];exact ⟨by show _<=F.o.last+1;omega,by show F.o.last+1<=_;omega⟩);have HFEW:=zh (show k < 60 by have:=h.few.1;omega);have hnl1b:1<=nl:=(by omega);have hnlm:nl<=1000000:=(by omega);have K1:=zh hf1;have K2:=zh hf2;have K3:=zh hf3;rw [hA2] at fl2;clear hR' hF hgk hcell hcell2 hsd hso hok hi ho h hnl hl hf1 hf2 hf3 hb hb2 hnl1 hll hp ho1 hs;go_enter Tryz.func12,Tryz.ntmps12;go_wp2_with fail;refine HFR.out.mono ?_;rintro e w' ⟨rfl,rfl⟩;go_wp2_with fail;refine (HPT.out _).mono ?_;rintro e w2 ⟨rfl,f2⟩;have M2:=zh (HM.out.fr0 f2);have K12:=zh (K1.out.cg (cg0 f2) (fun h=>h));have K22:=zh (K2.out.cg (cg0 f2) (fun h=>h));have C2:=zh (cgf (col:=col) (fun c=>RC c \/ c=10) f2);have HSE:=zh (by have:=send_any (K3.out.fr0 f2) s (by omega) h0 (by omega);unfold SendOut at this;rw [HSO.out] at this;exact this:Calls Tryz.prog 47 #[.pointer (some ⟨go,0,none⟩),.string s] w2 fun e w'=>∃ A cp col',e=.returned (.tuple #[.slice A 1 cp,.int .i64 0])/\CRd col' (202+4 * k) w' 6 A 1 (pksC [p])/\OutM col' (202+4 * k) w' go o1/\Cg (· = 202+4 * k) col w2 col' w');clear f2 HPT HM K1 K2 K3 HFR HSO fl0 fl2 x0 r1 y0 y1 y2 y3 y4 y5;have fl0:w2.cell? ⟨gk,0,none⟩=some (.pointer (some ⟨go,0,none⟩)):=K12.out.b.cell 0;go_wp2_with fail;refine HSE.out.mono ?_;rintro e w3 ⟨A3,c3,col3,rfl,hrd,hom,hcg⟩;have M3:=zh (M2.out.setF (F':=⟨o1,F.fr,F.left⟩) hcg (fun c hc=>by have hc2:c=202+4 * k:=hc;omega) HGK.out ⟨go,lA,lc,K12.out.cg hcg (by omega),K22.out.cg hcg (by omega),hom⟩);have RD:=zh hrd;have J1:=zh (K12.out.cg hcg (by omega));have J2:=zh (K22.out.cg hcg (by omega));have J3:=zh hom;have C3:=zh (C2.out.trans (hcg.mono (C':=fun c=>RC c \/ c=10) (fun c hc=>.inl (.inr (.inr (.inr (by have hc2:c=202+4 * k:=hc;have:=M3.out.few.1;simp at this;omega)))))));clear hrd hom hcg K12 K22 C2 M2 HSE fl0;go_upto_region 5 with fail;have g3:=J1.out.b.lt;have z2:=J1.out.b.frozen 2;have fl2:w3.cell? ⟨gk,2,none⟩=some (.slice (some ⟨b2,off2,none⟩) nl lc):=(by rw [<- hA2,HNL.out];exact J1.out.b.cell 2);go_cut [60] (fun s60 wx=>∃ colx,Hid (RigM colx wx g { R with fs:=R.fs.set k ⟨o1,F.fr,rest⟩ } Y)/\Hid (CRd colx (202+4 * k) wx 6 A3 1 (pksC [p]))/\Hid (Cg (fun c=>RC c \/ c=10) col w' colx wx))
 case first =>
  have hfin:∀ v lc2,v=.slice (if lc=1 then lA else lA.map (·.add 6)) (nl - 1) lc2->lc2=lc - 1->∃ colx,Hid (RigM colx (w3.setCell ⟨gk,2,none⟩ v) g { R with fs:=R.fs.set k ⟨o1,F.fr,rest⟩ } Y)/\Hid (CRd colx (202+4 * k) (w3.setCell ⟨gk,2,none⟩ v) 6 A3 1 (pksC [p]))/\Hid (Cg (fun c=>RC c \/ c=10) col w' colx (w3.setCell ⟨gk,2,none⟩ v)):=by
   rintro v lc2 rfl rfl;have hr:=J2.out.from_ (k:=1) (by rw [HL.out];simp);rw [Nat.one_mul] at hr;have hd:(itmsC F.left).drop 6=itmsC rest:=(by rw [HL.out];exact itmsC_drop (i :: rest) 1);rw [hd,<- HNL.out,show nl - 1=rest.length by have:=HNL1.out;omega] at hr;have k1:Cg (· = 200+4 * k) col3 w3 col3 (w3.setCell ⟨gk,2,none⟩ (.slice (if lc=1 then lA else lA.map (·.add 6)) (nl - 1) (lc - 1))):=(Cg.refl _ _ _).set J1.out.k _;refine ⟨col3,zh ?_,zh (RD.out.cg k1 (by omega)),zh (C3.out.set (p:=⟨gk,2,none⟩) (.inl (.inr (.inr (.inr ⟨by show 200<=col3 gk;rw [J1.out.k];omega,by show col3 gk < 1000;rw [J1.out.k];have:=M3.out.few.1;simp at this;omega⟩)))) _)⟩;have hm:=M3.out.setF (F':=⟨o1,F.fr,rest⟩) k1 (fun c hc=>by have hc2:c=200+4 * k:=hc;omega) HGK.out ⟨go,_,_,⟨by have:=J1.out.b.set_ 2 (.slice (if lc=1 then lA else lA.map (·.add 6)) rest.length (lc - 1));rw [show nl - 1=rest.length by have:=HNL1.out;omega];simpa using this,J1.out.k⟩,hr.cg k1 (by omega),J3.out.cg k1 (by omega)⟩;simpa using hm
  have HFIN:=zh hfin;clear hfin
  have hlci:(nl:Int)<=(lc:Int):=by
   obtain ⟨_,_,e,_,hle,_,_⟩:=J2.out.r.shape;injection e with _ _ e2
   have:=HNL.out;omega
  have hlcn:nl<=lc:=(by omega)
  by_cases hlc:lc=1
  · have HF2:=zh (HFIN.out (.slice (some ⟨b2,off2,none⟩) (nl - 1) 0) 0 (by rw [if_pos hlc,hA2]) (by omega));clear HFIN;go_wp2_with fail;go_meet;exact HF2.out
  · have HF2:=zh (HFIN.out (.slice (some ⟨b2,off2+6,none⟩) (nl - 1) (lc - 1)) (lc - 1) (by rw [if_neg hlc,hA2];simp [Addr.add]) rfl);have hlci2:¬ (lc:Int)=1:=(by omega);clear HFIN;go_wp2_with fail;go_meet;exact HF2.out
 case rest =>
  obtain ⟨colx,RM,RD2,CC⟩:=hcut;clear C3 J1 J2 J3 M3 RD g3 z2 fl2;obtain ⟨tl,htl⟩:=nm (R.t.tells p R.t.ins.length);rw [<- htl] at HR';have HTL:=zh htl
  have htlen:tl.length<=1000:=by
   rw [htl];have h1:=tells_few R.t p R.t.ins.length;have h2:=RM.out.t.il;have h3:=RM.out.t.few.1;simp only at h2 h3;omega
  clear htl;go_upto_region 7 with fail;go_loopg [10,12,65] 1 (fun q s10 s12 s65 wr=>(q=1/\s65=.int .i64 0/\(s10=undef \/ ∃ a,s10=.pointer a)/\(s12=undef \/ ∃ a,s12=.pointer a)/\∃ colx,Hid (RigM colx wr g { R with fs:=R.fs.set k ⟨o1,F.fr,rest⟩ } Y)/\Hid (CRd colx (202+4 * k) wr 6 A3 1 (pksC [p]))/\Hid (Cg (fun c=>RC c \/ c=10) col w' colx wr)) \/ (q=0/\s65=.int .i64 1/\(s10=undef \/ ∃ a,s10=.pointer a)/\(s12=undef \/ ∃ a,s12=.pointer a)/\∃ colx,Hid (RigM colx wr g R' Y)/\Hid (Cg (fun c=>RC c \/ c=10) col w' colx wr)))
  case atStart=>exact .inl ⟨rfl,rfl,.inl rfl,.inl rfl,colx,RM,RD2,CC⟩
  case round =>
   clear RM RD2 CC
   rcases hrel with ⟨rfl,rfl,hs10,hs12,colx,RM,RD,CC⟩ | ⟨rfl,rfl,hs10,hs12,colx,RM,CC⟩
   ·
    obtain ⟨b3,off3,hA3,_,_,hcell⟩:=Reads.elem pkF_len RD.out.1 (rfl:[p][0]?=some p) (by omega);subst hA3;have p0:=hcell 0 _ rfl;have p1:=hcell 1 _ rfl;have p2:=hcell 2 _ rfl;have p3:=hcell 3 _ rfl;have p4:=hcell 4 _ rfl;have p5:=hcell 5 _ rfl;simp only [Nat.add_zero,Nat.zero_mul] at p0 p1 p2 p3 p4 p5;have fa:=(Fr.refl wr.heap.size [] wr).alloc (Nat.le_refl _) (.cells (pkC p) 89);have ka:=(cg0 (col:=colx) fa).paint 0;have BX:=zh (⟨Blk.new wr _ _,paint_ge (Nat.le_refl _)⟩:CB (paint colx wr.heap.size 0) 0 (wr.alloc (.cells (pkC p) 89)) wr.heap.size 89 (pkC p));have RMa:=zh (RM.out.cg ka (fun _ _ h=>h));have CCa:=zh (CC.out.trans (ka.mono (C':=fun c=>RC c \/ c=10) (fun _ h=>h.elim)));generalize paint colx wr.heap.size 0=cola at *;clear hcell ka fa RM RD CC;go_upto_region 9 with fail;obtain ⟨gb,hgb⟩:=nm (wr.heap.size);simp only [pkC] at BX RMa CCa;rw [<- hgb] at BX ⊢;clear hgb;generalize wr.alloc _=wb at *;clear p0 p1 p2 p3 p4 p5;have RM:=zh (RMa.out.fr0 (Fr.refl _ _ _).drew);have BXC:=zh (BX.out.cg (cg0 (Fr.refl _ _ _).drew) (fun h=>h));have CC:=zh CCa.out.drew;have hin:(({ R with fs:=R.fs.set k ⟨o1,F.fr,rest⟩ }:RigS)).t=R.t:=rfl;have HTA:=zh (fun (W:World) (c:Nat->Nat) (hh:TaskM c W Y.gt R.t Y.X)=>(by have:=ttake_any hh p HI.out HO.out (by rw [HPA.out];exact ⟨by decide,by decide⟩);unfold TaTake at this;rw [<- HTL.out] at this;simp only [pkC] at this;exact this:Calls Tryz.prog 34 #[.pointer (some ⟨Y.gt,0,none⟩),.agg #[.int .i64 p.ch,.int .i64 p.bk,.int .i64 p.inc,.int .i64 p.seq,.int .i64 p.ack,.string p.ld]] W fun e w'=>∃ A cp col',e=.returned (.slice A tl.length cp)/\CRd col' 10 w' 6 A tl.length (pksC tl)/\TaskM col' w' Y.gt (R.t.take p) Y.X/\Cg (fun c=>(20<=c/\c < 100) \/ c=10) c W col' w'));have SF:=zh (fun (W:World) (bx:Blk W gb 89 #[.int .i64 p.ch,.int .i64 p.bk,.int .i64 p.inc,.int .i64 p.seq,.int .i64 p.ack,.string p.ld]) (rg:W.cell? ⟨g,0,none⟩=some (.pointer (some ⟨Y.gt,0,none⟩)))=>(⟨rg,bx.cell 0,bx.cell 1,bx.cell 2,bx.cell 3,bx.cell 4,bx.cell 5⟩:W.cell? ⟨g,0,none⟩=some (.pointer (some ⟨Y.gt,0,none⟩))/\W.cell? ⟨gb,0,none⟩=some (.int .i64 p.ch)/\W.cell? ⟨gb,1,none⟩=some (.int .i64 p.bk)/\W.cell? ⟨gb,2,none⟩=some (.int .i64 p.inc)/\W.cell? ⟨gb,3,none⟩=some (.int .i64 p.seq)/\W.cell? ⟨gb,4,none⟩=some (.int .i64 p.ack)/\W.cell? ⟨gb,5,none⟩=some (.string p.ld)));have RG:=zh (RM.out.st.b.cell 0:wb.drew.cell? ⟨g,0,none⟩=some (.pointer (some ⟨Y.gt,0,none⟩)));refine wp_region_held_drew (S:=fun W=>W.cell? ⟨g,0,none⟩=some (.pointer (some ⟨Y.gt,0,none⟩))/\W.cell? ⟨gb,0,none⟩=some (.int .i64 p.ch)/\W.cell? ⟨gb,1,none⟩=some (.int .i64 p.bk)/\W.cell? ⟨gb,2,none⟩=some (.int .i64 p.inc)/\W.cell? ⟨gb,3,none⟩=some (.int .i64 p.seq)/\W.cell? ⟨gb,4,none⟩=some (.int .i64 p.ack)/\W.cell? ⟨gb,5,none⟩=some (.string p.ld)) (by kernel_rfl) (SF.out _ BXC.out.b RG.out) (fun hHeld => ?_);refine tk (i:=0) (oi:=⟨some 69,_,_,_,_,_⟩) (v:=?_) rfl ?_ hHeld ?_
    rotate_left
    · intro w hSw;(try dsimp only at hSw);go_simp;(try with_reducible rfl)
    simp only [Act.put,lPt];refine tk (i:=1) (oi:=⟨some 70,_,_,_,_,_⟩) (v:=?_) rfl ?_ hHeld ?_
    rotate_left
    · intro w hSw;(try dsimp only at hSw);go_simp;(try with_reducible rfl)
    simp only [Act.put,lPt];refine tk (i:=2) (oi:=⟨some 71,_,_,_,_,_⟩) (v:=?_) rfl ?_ hHeld ?_
    rotate_left
    · intro w hSw;(try dsimp only at hSw);go_simp;(try with_reducible rfl)
    simp only [Act.put,lPt];refine tk (i:=3) (oi:=⟨some 72,_,_,_,_,_⟩) (v:=?_) rfl ?_ hHeld ?_
    rotate_left
    · intro w hSw;(try dsimp only at hSw);go_simp;(try with_reducible rfl)
    simp only [Act.put,lPt];refine tk (i:=4) (oi:=⟨some 73,_,_,_,_,_⟩) (v:=?_) rfl ?_ hHeld ?_
    rotate_left
    · intro w hSw;(try dsimp only at hSw);go_simp;(try with_reducible rfl)
    simp only [Act.put,lPt];refine tk (i:=7) (oi:=⟨some 76,_,_,_,_,_⟩) (v:=?_) rfl ?_ hHeld ?_
    rotate_left
    · intro w hSw;(try dsimp only at hSw);go_simp;(try with_reducible rfl)
    simp only [Act.put,lPt];refine wpAnyH_ready (rs:=[5]) (by kernel_rfl) (by simp) ?_;refine AllReadyH.cons (o:=⟨some 74,_,_,_,_,_⟩) rfl (fun K hK => ?_) AllReadyH.nil;rw [if_pos (by rfl)];go_simp;refine (HTA.out _ _ RM.out.t).mono ?_;rintro e w5 ⟨A5,c5,col5,rfl,hrd5,ht5,hc5⟩;have RM5:=zh (RM.out.setT hc5 (fun c hc=>by unfold TC;omega) ht5);have BXC:=zh (BXC.out.cg hc5 (by omega));have CC:=zh (CC.out.trans (hc5.mono (C':=fun c=>RC c \/ c=10) (fun c hc=>by unfold RC TC;omega)));have RD5:=zh hrd5;have RG:=zh (RM5.out.st.b.cell 0:w5.cell? ⟨g,0,none⟩=some (.pointer (some ⟨Y.gt,0,none⟩)));clear hrd5 ht5 hc5;refine hK.out _ _ (SF.out _ BXC.out.b RG.out) (fun hHeld => ?_);clear hK K
    try simp only [Act.put,lPt]
    refine tk (i:=6) (oi:=⟨some 75,_,_,_,_,_⟩) (v:=?_) rfl ?_ hHeld ?_
    rotate_left
    · intro w hSw;(try dsimp only at hSw);go_simp;(try with_reducible rfl)
    simp only [Act.put,lPt];refine wpAnyH_done (by kernel_rfl) ?_ _
    skip
    clear RM BX BXC SF RG hHeld HTA RMa CCa hs10;go_upto_region 10 with fail;go_loopg [12,76] tl.length (fun q s12 s76 wi=>∃ j:Nat,j<=tl.length/\q=tl.length - j/\s76=.int .i64 j/\(s12=undef \/ ∃ a,s12=.pointer a)/\∃ colr,Hid (RigM colr wi g { R with t:=R.t.take p,fs:=R.fs.set k ⟨ackAll (tl.take j) o1,F.fr,rest⟩ } Y)/\Hid (CRd colr 10 wi 6 A5 tl.length (pksC tl))/\Hid (Cg (fun c=>RC c \/ c=10) col w' colr wi))
    case atStart=>exact ⟨0,Nat.zero_le _,rfl,rfl,hs12,col5,RM5,RD5,CC⟩
    case round =>
     clear RM5 RD5 CC hs12;obtain ⟨j,hj,rfl,rfl,hs12,colr,RM,RD,CC⟩:=hrel
     by_cases hjn:j < tl.length
     ·
      have hji:(j:Int) < (tl.length:Int):=by omega
      obtain ⟨a,ha⟩:∃ a,tl[j]?=some a:=⟨_,List.getElem?_eq_getElem hjn⟩;obtain ⟨b3,off3,hA5,_,_,hcell⟩:=Reads.elem pkF_len RD.out.1 ha (by omega);have a0:=hcell 0 _ rfl;have a1:=hcell 1 _ rfl;have a2:=hcell 2 _ rfl;have a3:=hcell 3 _ rfl;have a4:=hcell 4 _ rfl;have a5:=hcell 5 _ rfl;simp only [Nat.add_zero] at a0 a1 a2 a3 a4 a5;have HTK:=zh (show ackAll (tl.take (j+1)) o1=ackO a (ackAll (tl.take j) o1) by rw [List.take_add_one,ha];exact ackAll_snoc _ _ _)
      have HAC := zh (by
       obtain ⟨sx,h1,h2⟩:=tells_ack (by rw [<- HTL.out];exact List.mem_of_getElem? ha:a ∈ R.t.tells p R.t.ins.length);rw [h2]
       exact (HI.out sx h1).2:Cn a.ack)
      have hj30:j<=1000:=(by omega);have fa:=(Fr.refl wr.heap.size [] wr).alloc (Nat.le_refl _) (.cells (pkC a) 89);have ka:=(cg0 (col:=colr) fa).paint 0;have BX:=zh (⟨Blk.new wr _ _,paint_ge (Nat.le_refl _)⟩:CB (paint colr wr.heap.size 0) 0 (wr.alloc (.cells (pkC a) 89)) wr.heap.size 89 (pkC a));have RMa:=zh (RM.out.cg ka (fun _ _ h=>h));have RDa:=zh (RD.out.cg ka (fun h=>h));have CCa:=zh (CC.out.trans (ka.mono (C':=fun c=>RC c \/ c=10) (fun _ h=>h.elim)));generalize paint colr wr.heap.size 0=cola at *;rw [hA5];clear hcell ka fa RM RD CC;go_upto_region 12 with fail;obtain ⟨gx,hgx⟩:=nm (wr.heap.size);simp only [pkC] at BX RMa RDa CCa;rw [<- hgx] at BX ⊢;clear hgx;generalize wr.alloc _=wb at *;clear a0 a1 a2 a3 a4 a5;have RM:=zh (RMa.out.fr0 (Fr.refl _ _ _).drew);have RD:=zh (RDa.out.cg (C:=fun _=>False) ((Cg.refl _ _ _).drew) (fun h=>h));have BXC:=zh (BX.out.cg (cg0 (Fr.refl _ _ _).drew) (fun h=>h));have CC:=zh CCa.out.drew;obtain ⟨go2,lA2,lc2,e1,e2,e3⟩:=RM.out.fm k gk ⟨ackAll (tl.take j) o1,F.fr,rest⟩ HGK.out (by show (R.fs.set k _)[k]?=_;rw [List.getElem?_set_self hk]);have E1:=zh e1;have E2:=zh e2;have HAK:=zh (outAck_any e3 a (Nat.le_trans (ackAll_few _ _).1 HO1W.out) HAC.out (by rw [(ackAll_few (tl.take j) o1).2];exact HO1L.out));simp only [pkC] at HAK;clear e1 e2 e3;have SF:=zh (fun (W:World) (bx:Blk W gx 89 #[.int .i64 a.ch,.int .i64 a.bk,.int .i64 a.inc,.int .i64 a.seq,.int .i64 a.ack,.string a.ld]) (rg:W.cell? ⟨gk,0,none⟩=some (.pointer (some ⟨go2,0,none⟩)))=>(⟨rg,bx.cell 0,bx.cell 1,bx.cell 2,bx.cell 3,bx.cell 4,bx.cell 5⟩:W.cell? ⟨gk,0,none⟩=some (.pointer (some ⟨go2,0,none⟩))/\W.cell? ⟨gx,0,none⟩=some (.int .i64 a.ch)/\W.cell? ⟨gx,1,none⟩=some (.int .i64 a.bk)/\W.cell? ⟨gx,2,none⟩=some (.int .i64 a.inc)/\W.cell? ⟨gx,3,none⟩=some (.int .i64 a.seq)/\W.cell? ⟨gx,4,none⟩=some (.int .i64 a.ack)/\W.cell? ⟨gx,5,none⟩=some (.string a.ld)));have RG:=zh (E1.out.b.cell 0:wb.drew.cell? ⟨gk,0,none⟩=some (.pointer (some ⟨go2,0,none⟩)));refine wp_region_held_drew (S:=fun W=>W.cell? ⟨gk,0,none⟩=some (.pointer (some ⟨go2,0,none⟩))/\W.cell? ⟨gx,0,none⟩=some (.int .i64 a.ch)/\W.cell? ⟨gx,1,none⟩=some (.int .i64 a.bk)/\W.cell? ⟨gx,2,none⟩=some (.int .i64 a.inc)/\W.cell? ⟨gx,3,none⟩=some (.int .i64 a.seq)/\W.cell? ⟨gx,4,none⟩=some (.int .i64 a.ack)/\W.cell? ⟨gx,5,none⟩=some (.string a.ld)) (by kernel_rfl) (SF.out _ BXC.out.b RG.out) (fun hHeld => ?_);refine tk (i:=0) (oi:=⟨some 80,_,_,_,_,_⟩) (v:=?_) rfl ?_ hHeld ?_
      rotate_left
      · intro w hSw;(try dsimp only at hSw);go_simp;(try with_reducible rfl)
      simp only [Act.put,lPt];refine tk (i:=1) (oi:=⟨some 81,_,_,_,_,_⟩) (v:=?_) rfl ?_ hHeld ?_
      rotate_left
      · intro w hSw;(try dsimp only at hSw);go_simp;(try with_reducible rfl)
      simp only [Act.put,lPt];refine tk (i:=2) (oi:=⟨some 82,_,_,_,_,_⟩) (v:=?_) rfl ?_ hHeld ?_
      rotate_left
      · intro w hSw;(try dsimp only at hSw);go_simp;(try with_reducible rfl)
      simp only [Act.put,lPt];refine tk (i:=3) (oi:=⟨some 83,_,_,_,_,_⟩) (v:=?_) rfl ?_ hHeld ?_
      rotate_left
      · intro w hSw;(try dsimp only at hSw);go_simp;(try with_reducible rfl)
      simp only [Act.put,lPt];refine tk (i:=4) (oi:=⟨some 84,_,_,_,_,_⟩) (v:=?_) rfl ?_ hHeld ?_
      rotate_left
      · intro w hSw;(try dsimp only at hSw);go_simp;(try with_reducible rfl)
      simp only [Act.put,lPt];refine wpAnyH_ready (rs:=[5]) (by kernel_rfl) (by simp) ?_;refine AllReadyH.cons (o:=⟨some 85,_,_,_,_,_⟩) rfl (fun K hK => ?_) AllReadyH.nil;rw [if_pos (by rfl)];go_simp;refine HAK.out.mono ?_;rintro e w6 ⟨col6,rfl,hom6,hc6⟩;have EE:=zh (E1.out.cg hc6 (by omega));have RM6:=zh (RM.out.setF (F':=⟨ackO a (ackAll (tl.take j) o1),F.fr,rest⟩) hc6 (fun c hc=>by have hc2:c=202+4 * k:=hc;omega) HGK.out ⟨go2,lA2,lc2,EE.out,E2.out.cg hc6 (by omega),hom6⟩);have BXC:=zh (BXC.out.cg hc6 (by omega));have CC:=zh (CC.out.trans (hc6.mono (C':=fun c=>RC c \/ c=10) (fun c hc=>.inl (.inr (.inr (.inr (by have hc2:c=202+4 * k:=hc;have:=HFEW.out;omega)))))));have RD6:=zh (RD.out.cg hc6 (by omega));have RG:=zh (EE.out.b.cell 0:w6.cell? ⟨gk,0,none⟩=some (.pointer (some ⟨go2,0,none⟩)));clear hom6 hc6;refine hK.out _ _ (SF.out _ BXC.out.b RG.out) (fun hHeld => ?_);clear hK K
      try simp only [Act.put,lPt]
      refine wpAnyH_done (by kernel_rfl) ?_ _
      skip
      clear RM BX BXC SF RG hHeld HAK RMa RDa CCa E1 E2 EE RD;go_wp2_with fail;rw [<- hA5];go_roundg (tl.length - (j+1))
      case measure=>omega
      case rel=>exact ⟨j+1,hjn,rfl,by go_num,.inr ⟨_,rfl⟩,col6,by rw [HTK.out];simpa using RM6,RD6,CC⟩
     ·
      obtain rfl:j=tl.length:=by omega
      go_wp2_with fail;go_roundg 0
      case measure=>omega
      case rel=>exact .inr ⟨rfl,rfl,.inr ⟨_,rfl⟩,hs12,colr,by rw [HR'.out];simpa [List.take_of_length_le] using RM,CC⟩
   · go_wp2_with fail;refine bodyPost_end (results_none rfl _ _ _) rfl ⟨colx,rfl,RM.out,CC.out⟩
end
end Go.Proofs.YtgblfflikgnfpaaGreat
