/- Texts merged into one, for the number of files a claim may have: StpA, StpB, Stp, PlStep, StL, Apply, Idle, GPass, GAwake, PlAwake, FlE. -/
import Derived.Test.YtlejomlppjpchaaGreatTk
import Derived.Test.YtlejomlppjpchaaGreatRY4
import Derived.Test.YtlejomlppjpchaaGreatRY6
import Derived.Test.YtlejomlppjpchaaGreatRY10
import Derived.Test.YtlejomlppjpchaaGreatRY13
import Derived.Test.YtlejomlppjpchaaGreatRY17
namespace Go.Proofs.YtlejomlppjpchaaGreat
open Go.RowKit Go.Fb
set_option maxRecDepth 100000
set_option maxHeartbeats 16000000
set_option linter.unusedVariables false
theorem clean_1 (kd:Int) (x:Nd) (rs:Bool) (sf sp:Value) (B:Nat) (w:World) (hkd:kd=1) (h:NdIn w B (x,sf,sp)) (hB:B<=w.heap.size) (h1:x.fr.length<=1000000) (h2:x.pg.length<=1000000) :
  Calls Tryz.prog 180 #[.agg (stA kd x rs sf sp)] w (CleanOut ⟨kd,x,rs⟩ w):=by
 have HKD:=zh hkd;clear hkd;obtain ⟨⟨Af,cf,hf1,hf2⟩,⟨Ap,cp,hp1,hp2⟩⟩:=h;simp only at hf1 hf2 hp1 hp2;subst hf1;subst hp1;obtain ⟨nf,hnf⟩:=nm (x.fr.length);obtain ⟨np,hnp⟩:=nm (x.pg.length);have RP:=zh hp2;have RF:=zh hf2;rw [<- hnf] at RF h1 ⊢;rw [<- hnp] at RP h2 ⊢;have HNF:=zh hnf;have HNP:=zh hnp;obtain ⟨cs,hcs⟩:=nm (cleanS ⟨kd,x,rs⟩);obtain ⟨Q,hQ⟩:=nm (CleanOut ⟨kd,x,rs⟩ w);rw [<- hQ]
 have HOUT := zh (fun (tf tp : Value) (w' : World) (ha : NdIn w' w'.heap.size (cs.nd, tf, tp)) (hb : Fresh w.heap.size tf) (hc : Fresh w.heap.size tp) (hd : Fr w.heap.size [] w w') => (by
  rw [hQ];unfold CleanOut;rw [<- hcs]
  exact ⟨tf,tp,rfl,ha,hb,hc,hd⟩:Q (.returned (.agg (stV cs tf tp))) w'))
 have HCS:=zh hcs;obtain ⟨B1,B2,B3,B4,FA,HSA⟩:=wCl_all w kd x rs (.slice Af nf cf) (.slice Ap np cp);clear hf2 hp2 hnf hnp hcs hQ;go_enter Tryz.func180,Tryz.ntmps180;go_upto_region 3 with fail;generalize hW:wCl w kd x rs (.slice Af nf cf) (.slice Ap np cp)=wa at *;unfold wCl at hW;rw [hW];clear hW;obtain ⟨g,hg⟩:=nm (w.heap.size);rw [<- hg] at B1 B2 B3 B4 HSA
 try rw [<- hg]
 have HG:=zh hg;clear hg;have k0:=B1.out.cell 0;have k14:=B1.out.cell 14;have n0:=B3.out.cell 0;have n1:=B3.out.cell 1;have n2:=B3.out.cell 2;have n3:=B3.out.cell 3;have n4:=B3.out.cell 4;have n5:=B3.out.cell 5;have n6:=B3.out.cell 6;have n7:=B3.out.cell 7;have n8:=B3.out.cell 8;have n9:=B3.out.cell 9;have n10:=B3.out.cell 10;have n11:=B3.out.cell 11;have n12:=B3.out.cell 12;simp at k0 k14 n0 n1 n2 n3 n4 n5 n6 n7 n8 n9 n10 n11 n12;have y1:=B4.out.frozen 1;have y2:=B4.out.frozen 2;have y3:=B4.out.frozen 3;have y4:=B4.out.frozen 4;have y5:=B4.out.frozen 5;have y6:=B4.out.frozen 6;have y7:=B4.out.frozen 7;have y8:=B4.out.frozen 8;have y9:=B4.out.frozen 9;have y10:=B4.out.frozen 10;have y11:=B4.out.frozen 11;have y12:=B4.out.frozen 12;have y13:=B4.out.frozen 13;have y14:=B4.out.frozen 14;have m1:=B4.out.cell 1;have m2:=B4.out.cell 2;have m3:=B4.out.cell 3;have m4:=B4.out.cell 4;have m5:=B4.out.cell 5;have m6:=B4.out.cell 6;have m7:=B4.out.cell 7;have m8:=B4.out.cell 8;have m9:=B4.out.cell 9;have m10:=B4.out.cell 10;have m11:=B4.out.cell 11;have m12:=B4.out.cell 12;have m13:=B4.out.cell 13;have m14:=B4.out.cell 14;simp at m1 m2 m3 m4 m5 m6 m7 m8 m9 m10 m11 m12 m13 m14
 by_cases e1:kd=1
 ·
  subst e1
  obtain rfl:cs=⟨1,⟨x.id,0,0,[],x.pg,fun _=>0⟩,rs⟩:=by
   rw [HCS.out];unfold cleanS;simp
  clear HCS
  have HCL := zh (fun (wx : World) (hx : Fr wa.heap.size [] wa wx) => (by
   have FX:=FA.out.nx hx
   exact pclone_any Ap np cp B x.pg wx HNP.out h2 (RP.out.fr FX hB (by simp)) (Nat.le_trans hB FX.size):Calls Tryz.prog 143 #[.slice Ap np cp] wx fun e w'=>∃ A' c',e=.returned (.slice A' np c')/\w'.ownsRow wx.heap.size 217 2 (.slice A' np c') np (cellsI x.pg)/\Fr wx.heap.size [] wx w'))
  have SF:=zh (fun (w:World) (h:Fr wa.heap.size [g+1+1+1] wa w)=>(⟨(B3.out.fr h B3.out.lt (by simp)).cell 0,(B3.out.fr h B3.out.lt (by simp)).cell 3,(B1.out.fr h B1.out.lt (by simp;omega)).cell 14⟩:w.cell? ⟨g+1+1,0,none⟩=some (.int .i64 x.id)/\w.cell? ⟨g+1+1,3,none⟩=some (.slice Ap np cp)/\w.cell? ⟨g,14,none⟩=some (.bool rs)));have INV:=zh ((Fr.refl wa.heap.size [g+1+1+1] wa).drew);have IN0:=zh ((Fr.refl wa.heap.size [] wa).drew);go_wp2_with fail;clear k0 k14 n0 n1 n2 n3 n4 n5 n6 n7 n8 n9 n10 n11 n12 y1 m1 y2 m2 y3 m3 y4 m4 y5 m5 y6 m6 y7 m7 y8 m8 y9 m9 y10 m10 y11 m11 y12 m12 y13 m13 y14 m14;refine wp_region_held_drew (S:=fun w=>w.cell? ⟨g+1+1,0,none⟩=some (.int .i64 x.id)/\w.cell? ⟨g+1+1,3,none⟩=some (.slice Ap np cp)/\w.cell? ⟨g,14,none⟩=some (.bool rs)) (by kernel_rfl) (SF.out _ INV.out) (fun hHeld => ?_);refine tk (i:=0) (oi:=⟨some 15,_,_,_,_,_⟩) (v:=?_) rfl ?_ hHeld ?_
  rotate_left
  · intro w hSw;(try dsimp only at hSw);go_simp;(try with_reducible rfl)
  simp only [Act.put,lPt];refine tk (i:=1) (oi:=⟨some 16,_,_,_,_,_⟩) (v:=?_) rfl ?_ hHeld ?_
  rotate_left
  · intro w hSw;(try dsimp only at hSw);go_simp;(try with_reducible rfl)
  simp only [Act.put,lPt];refine tk (i:=2) (oi:=⟨some 17,_,_,_,_,_⟩) (v:=?_) rfl ?_ hHeld ?_
  rotate_left
  · intro w hSw;(try dsimp only at hSw);go_simp;(try with_reducible rfl)
  simp only [Act.put,lPt];refine tk (i:=3) (oi:=⟨some 18,_,_,_,_,_⟩) (v:=?_) rfl ?_ hHeld ?_
  rotate_left
  · intro w hSw;(try dsimp only at hSw);go_simp;(try with_reducible rfl)
  simp only [Act.put,lPt];refine tk (i:=6) (oi:=⟨some 21,_,_,_,_,_⟩) (v:=?_) rfl ?_ hHeld ?_
  rotate_left
  · intro w hSw;(try dsimp only at hSw);go_simp;(try with_reducible rfl)
  simp only [Act.put,lPt];refine tk (i:=7) (oi:=⟨some 22,_,_,_,_,_⟩) (v:=?_) rfl ?_ hHeld ?_
  rotate_left
  · intro w hSw;(try dsimp only at hSw);go_simp;(try with_reducible rfl)
  simp only [Act.put,lPt];refine wpAnyH_ready (rs:=[4]) (by kernel_rfl) (by simp) ?_;refine AllReadyH.cons (o:=⟨some 19,_,_,_,_,_⟩) rfl (fun K hK => ?_) AllReadyH.nil;rw [if_pos (by rfl)];go_simp;refine (HCL.out _ IN0.out).mono ?_;rintro e w' ⟨A1,c1,rfl,ho,hf⟩;have HO:=zh (ownsRow_base ho IN0.out.size);have IN0:=zh (IN0.out.trans (hf.mono IN0.out.size (by simp)));have INV:=zh (INV.out.trans (hf.mono INV.out.size (by simp)));clear ho hf;refine hK.out _ _ (SF.out _ INV.out) (fun hHeld => ?_);clear hK K
  try simp only [Act.put,lPt]
  refine tk (i:=5) (oi:=⟨some 20,_,_,_,_,_⟩) (v:=?_) rfl ?_ hHeld ?_
  rotate_left
  · intro w hSw;(try dsimp only at hSw);go_simp;(try with_reducible rfl)
  simp only [Act.put,lPt];refine tk (i:=8) (oi:=⟨some 23,_,_,_,_,_⟩) (v:=?_) rfl ?_ hHeld ?_
  rotate_left
  · intro w hSw;(try dsimp only at hSw);go_simp;(try with_reducible rfl)
  simp only [Act.put,lPt];refine wpAnyH_ready (rs:=[9]) (by kernel_rfl) (by simp) ?_;refine AllReadyH.cons (o:=⟨none,_,_,_,_,_⟩) rfl (fun K hK => ?_) AllReadyH.nil;rw [if_pos (by rfl)];have B4':=B4.out.fr IN0.out B4.out.lt (by simp);have y1:=B4'.frozen 1;have y2:=B4'.frozen 2;have y3:=B4'.frozen 3;have y4:=B4'.frozen 4;have y5:=B4'.frozen 5;have y6:=B4'.frozen 6;have y7:=B4'.frozen 7;have y8:=B4'.frozen 8;have y9:=B4'.frozen 9;have y10:=B4'.frozen 10;have y11:=B4'.frozen 11;have y12:=B4'.frozen 12;have y13:=B4'.frozen 13;have m1:=B4'.cell 1;have m2:=B4'.cell 2;have m3:=B4'.cell 3;have m4:=B4'.cell 4;have m5:=B4'.cell 5;have m6:=B4'.cell 6;have m7:=B4'.cell 7;have m8:=B4'.cell 8;have m9:=B4'.cell 9;have m10:=B4'.cell 10;have m11:=B4'.cell 11;have m12:=B4'.cell 12;have m13:=B4'.cell 13;simp at m1 m2 m3 m4 m5 m6 m7 m8 m9 m10 m11 m12 m13;go_simp;have INV1:=zh (fr_setL (g:=g+1+1+1) (.inr (by simp)) ([.int .i64 x.id,.int .i64 0,(.slice none 0 0),(.slice A1 np c1),.int .i64 0,.int .i64 0,.int .i64 0,.int .i64 0,.int .i64 0,.int .i64 0,.int .i64 0,.int .i64 0,.int .i64 0]) 1 INV.out);have INV:=INV1;clear y1 m1 y2 m2 y3 m3 y4 m4 y5 m5 y6 m6 y7 m7 y8 m8 y9 m9 y10 m10 y11 m11 y12 m12 y13 m13;refine hK.out _ _ (SF.out _ INV.out) (fun hHeld => ?_);clear hK K
  try simp only [Act.put,lPt]
  refine tk (i:=10) (oi:=⟨some 24,_,_,_,_,_⟩) (v:=?_) rfl ?_ hHeld ?_
  rotate_left
  · intro w hSw;(try dsimp only at hSw);go_simp;(try with_reducible rfl)
  simp only [Act.put,lPt];refine wpAnyH_ready (rs:=[11]) (by kernel_rfl) (by simp) ?_;refine AllReadyH.cons (o:=⟨none,_,_,_,_,_⟩) rfl (fun K hK => ?_) AllReadyH.nil;rw [if_pos (by rfl)];have b5:=blk_setL ([.int .i64 x.id,.int .i64 0,(.slice none 0 0),(.slice A1 np c1),.int .i64 0,.int .i64 0,.int .i64 0,.int .i64 0,.int .i64 0,.int .i64 0,.int .i64 0,.int .i64 0,.int .i64 0]) 1 (B4.out.fr IN0.out B4.out.lt (by simp));simp only [putL,List.setIfInBounds_toArray,List.set_cons_succ,List.set_cons_zero,Nat.reduceAdd] at b5;have y14:=b5.frozen 14;have m14:=b5.cell 14;simp at m14;simp only [setL,Nat.reduceAdd] at y14 m14;go_simp;have INV:=zh (INV1.out.setCell (p:=⟨g+1+1+1,14,none⟩) (.inr (by simp)) (.bool rs));clear b5 y14 m14;refine hK.out _ _ (SF.out _ INV.out) (fun hHeld => ?_);clear hK K
  try simp only [Act.put,lPt]
  refine wpAnyH_done (by kernel_rfl) ?_ _;have B45:=zh (B4.out.fr IN0.out B4.out.lt (by simp));have B25:=zh (B2.out.fr IN0.out B2.out.lt (by simp));have F5:=zh (FA.out.nx IN0.out);clear INV SF hHeld HCL;go_upto_region 15 with fail;generalize hwz:World.setCell _ _ _=wz;have d4:=(blk_setL ([.int .i64 x.id,.int .i64 0,(.slice none 0 0),(.slice A1 np c1),.int .i64 0,.int .i64 0,.int .i64 0,.int .i64 0,.int .i64 0,.int .i64 0,.int .i64 0,.int .i64 0,.int .i64 0]) 1 B45.out).set_ 14 (.bool rs);simp only [putL,List.setIfInBounds_toArray,List.set_cons_succ,List.set_cons_zero,Nat.reduceAdd] at d4;have d2:=(far_setL (g:=g+1+1+1) (by omega) ([.int .i64 x.id,.int .i64 0,(.slice none 0 0),(.slice A1 np c1),.int .i64 0,.int .i64 0,.int .i64 0,.int .i64 0,.int .i64 0,.int .i64 0,.int .i64 0,.int .i64 0,.int .i64 0]) 1 B25.out).far (p:=⟨g+1+1+1,14,none⟩) (by simp) (.bool rs);have fz:=(fr_setL (g:=g+1+1+1) (.inl (by have:=HG.out;omega)) ([.int .i64 x.id,.int .i64 0,(.slice none 0 0),(.slice A1 np c1),.int .i64 0,.int .i64 0,.int .i64 0,.int .i64 0,.int .i64 0,.int .i64 0,.int .i64 0,.int .i64 0,.int .i64 0]) 1 F5.out).setCell (p:=⟨g+1+1+1,14,none⟩) (.inl (by have:=HG.out;simp;omega)) (.bool rs);have fs:=(fr_setL (g:=g+1+1+1) (.inr (by simp)) ([.int .i64 x.id,.int .i64 0,(.slice none 0 0),(.slice A1 np c1),.int .i64 0,.int .i64 0,.int .i64 0,.int .i64 0,.int .i64 0,.int .i64 0,.int .i64 0,.int .i64 0,.int .i64 0]) 1 (Fr.refl w'.heap.size [g+1+1+1] w')).setCell (p:=⟨g+1+1+1,14,none⟩) (.inr (by simp)) (.bool rs);have D4:=zh (by rw [<- hwz];exact d4:Blk wz (g+1+1+1) 215 _);have D2:=zh (by rw [<- hwz];exact d2:Blk wz (g+1) 215 _);have FZ:=zh (by rw [<- hwz];exact fz:Fr w.heap.size [] w wz);have FS:=zh (by rw [<- hwz];exact fs:Fr w'.heap.size [g+1+1+1] w' wz);clear hwz d4 d2 fz fs;have OWN:=zh (ownsRow_fr HO.out FS.out (fun q hq=>⟨(HO.out.lt q hq).2,by have:=(HO.out.lt q hq).1;have:=HSA.out;simp;omega⟩));have NIN:=zh (show NdIn wz wz.heap.size ((⟨x.id,0,0,[],x.pg,fun _=>0⟩:Nd),.slice none 0 0,.slice A1 np c1) from ⟨⟨none,0,rfl,Reads.none_⟩,⟨A1,c1,by rw [HNP.out],by rw [<- HNP.out];exact Reads.of_own OWN.out⟩⟩);have FP:=zh (fresh_own HO.out (b:=g+4) (by have:=HSA.out;omega));have FF:=zh (fresh_nil (g+4));clear FS HO OWN IN0;have q0:=D4.out.cell 0;have q1:=D4.out.cell 1;have q2:=D4.out.cell 2;have q3:=D4.out.cell 3;have q4:=D4.out.cell 4;have q5:=D4.out.cell 5;have q6:=D4.out.cell 6;have q7:=D4.out.cell 7;have q8:=D4.out.cell 8;have q9:=D4.out.cell 9;have q10:=D4.out.cell 10;have q11:=D4.out.cell 11;have q12:=D4.out.cell 12;have q13:=D4.out.cell 13;have q14:=D4.out.cell 14;simp at q0 q1 q2 q3 q4 q5 q6 q7 q8 q9 q10 q11 q12 q13 q14;have z0:=D2.out.frozen 0;have z1:=D2.out.frozen 1;have z2:=D2.out.frozen 2;have z3:=D2.out.frozen 3;have z4:=D2.out.frozen 4;have z5:=D2.out.frozen 5;have z6:=D2.out.frozen 6;have z7:=D2.out.frozen 7;have z8:=D2.out.frozen 8;have z9:=D2.out.frozen 9;have z10:=D2.out.frozen 10;have z11:=D2.out.frozen 11;have z12:=D2.out.frozen 12;have z13:=D2.out.frozen 13;have z14:=D2.out.frozen 14;have s0:=D2.out.cell 0;have s1:=D2.out.cell 1;have s2:=D2.out.cell 2;have s3:=D2.out.cell 3;have s4:=D2.out.cell 4;have s5:=D2.out.cell 5;have s6:=D2.out.cell 6;have s7:=D2.out.cell 7;have s8:=D2.out.cell 8;have s9:=D2.out.cell 9;have s10:=D2.out.cell 10;have s11:=D2.out.cell 11;have s12:=D2.out.cell 12;have s13:=D2.out.cell 13;have s14:=D2.out.cell 14;simp at s0 s1 s2 s3 s4 s5 s6 s7 s8 s9 s10 s11 s12 s13 s14;go_wp2_with fail;have be:=blk_setL ([.int .i64 1,.int .i64 x.id,.int .i64 0,(.slice none 0 0),(.slice A1 np c1),.int .i64 0,.int .i64 (0:Int),.int .i64 (0:Int),.int .i64 (0:Int),.int .i64 (0:Int),.int .i64 (0:Int),.int .i64 (0:Int),.int .i64 (0:Int),.int .i64 (0:Int),.bool rs]) 0 D2.out;simp only [putL,List.setIfInBounds_toArray,List.set_cons_succ,List.set_cons_zero,Nat.reduceAdd] at be;have BE:=zh be;clear be;have fe:=fr_setL (g:=g+1) (.inr (by simp)) ([.int .i64 1,.int .i64 x.id,.int .i64 0,(.slice none 0 0),(.slice A1 np c1),.int .i64 0,.int .i64 (0:Int),.int .i64 (0:Int),.int .i64 (0:Int),.int .i64 (0:Int),.int .i64 (0:Int),.int .i64 (0:Int),.int .i64 (0:Int),.int .i64 (0:Int),.bool rs]) 0 (Fr.refl wz.heap.size [g+1] wz);have FE:=zh (FZ.out.trans (fe.mono (B':=w.heap.size) (L':=[]) FZ.out.size (by intro k hk hlt;have:=HG.out;simp at hk;omega)));have NE:=zh ((ndin_fresh NIN.out FF.out FP.out fe (Nat.le_refl _) (by intro k hk;simp at hk;omega)).more fe.size);refine bodyPost_ret (results_cell_row rfl _ _ (g+1) 215 (stV (⟨1,⟨x.id,0,0,[],x.pg,fun _=>0⟩,rs⟩:Stp) (.slice none 0 0) (.slice A1 np c1)) (0,0) _ rfl BE.out Tryz.underlying215 rfl (by kernel_rfl)) rfl (HOUT.out (.slice none 0 0) (.slice A1 np c1) _ NE.out (fresh_le FF.out (by have:=HG.out;omega)) (fresh_le FP.out (by have:=HG.out;omega)) FE.out)
 · exact absurd HKD.out e1
theorem clean_5 (kd:Int) (x:Nd) (rs:Bool) (sf sp:Value) (B:Nat) (w:World) (hkd:kd=5) (h:NdIn w B (x,sf,sp)) (hB:B<=w.heap.size) (h1:x.fr.length<=1000000) (h2:x.pg.length<=1000000) :
  Calls Tryz.prog 180 #[.agg (stA kd x rs sf sp)] w (CleanOut ⟨kd,x,rs⟩ w):=by
 have HKD:=zh hkd;clear hkd;obtain ⟨⟨Af,cf,hf1,hf2⟩,⟨Ap,cp,hp1,hp2⟩⟩:=h;simp only at hf1 hf2 hp1 hp2;subst hf1;subst hp1;obtain ⟨nf,hnf⟩:=nm (x.fr.length);obtain ⟨np,hnp⟩:=nm (x.pg.length);have RP:=zh hp2;have RF:=zh hf2;rw [<- hnf] at RF h1 ⊢;rw [<- hnp] at RP h2 ⊢;have HNF:=zh hnf;have HNP:=zh hnp;obtain ⟨cs,hcs⟩:=nm (cleanS ⟨kd,x,rs⟩);obtain ⟨Q,hQ⟩:=nm (CleanOut ⟨kd,x,rs⟩ w);rw [<- hQ]
 have HOUT := zh (fun (tf tp : Value) (w' : World) (ha : NdIn w' w'.heap.size (cs.nd, tf, tp)) (hb : Fresh w.heap.size tf) (hc : Fresh w.heap.size tp) (hd : Fr w.heap.size [] w w') => (by
  rw [hQ];unfold CleanOut;rw [<- hcs]
  exact ⟨tf,tp,rfl,ha,hb,hc,hd⟩:Q (.returned (.agg (stV cs tf tp))) w'))
 have HCS:=zh hcs;obtain ⟨B1,B2,B3,B4,FA,HSA⟩:=wCl_all w kd x rs (.slice Af nf cf) (.slice Ap np cp);clear hf2 hp2 hnf hnp hcs hQ;go_enter Tryz.func180,Tryz.ntmps180;go_upto_region 3 with fail;generalize hW:wCl w kd x rs (.slice Af nf cf) (.slice Ap np cp)=wa at *;unfold wCl at hW;rw [hW];clear hW;obtain ⟨g,hg⟩:=nm (w.heap.size);rw [<- hg] at B1 B2 B3 B4 HSA
 try rw [<- hg]
 have HG:=zh hg;clear hg;have k0:=B1.out.cell 0;have k14:=B1.out.cell 14;have n0:=B3.out.cell 0;have n1:=B3.out.cell 1;have n2:=B3.out.cell 2;have n3:=B3.out.cell 3;have n4:=B3.out.cell 4;have n5:=B3.out.cell 5;have n6:=B3.out.cell 6;have n7:=B3.out.cell 7;have n8:=B3.out.cell 8;have n9:=B3.out.cell 9;have n10:=B3.out.cell 10;have n11:=B3.out.cell 11;have n12:=B3.out.cell 12;simp at k0 k14 n0 n1 n2 n3 n4 n5 n6 n7 n8 n9 n10 n11 n12;have y1:=B4.out.frozen 1;have y2:=B4.out.frozen 2;have y3:=B4.out.frozen 3;have y4:=B4.out.frozen 4;have y5:=B4.out.frozen 5;have y6:=B4.out.frozen 6;have y7:=B4.out.frozen 7;have y8:=B4.out.frozen 8;have y9:=B4.out.frozen 9;have y10:=B4.out.frozen 10;have y11:=B4.out.frozen 11;have y12:=B4.out.frozen 12;have y13:=B4.out.frozen 13;have y14:=B4.out.frozen 14;have m1:=B4.out.cell 1;have m2:=B4.out.cell 2;have m3:=B4.out.cell 3;have m4:=B4.out.cell 4;have m5:=B4.out.cell 5;have m6:=B4.out.cell 6;have m7:=B4.out.cell 7;have m8:=B4.out.cell 8;have m9:=B4.out.cell 9;have m10:=B4.out.cell 10;have m11:=B4.out.cell 11;have m12:=B4.out.cell 12;have m13:=B4.out.cell 13;have m14:=B4.out.cell 14;simp at m1 m2 m3 m4 m5 m6 m7 m8 m9 m10 m11 m12 m13 m14
 by_cases e5:kd=5
 ·
  subst e5
  obtain rfl:cs=⟨5,⟨x.id,0,0,x.fr,[],fun _=>0⟩,false⟩:=by
   rw [HCS.out];unfold cleanS;simp
  clear HCS
  have HCL := zh (fun (wx : World) (hx : Fr wa.heap.size [] wa wx) => (by
   have FX:=FA.out.nx hx
   exact iclone_any Af nf cf B x.fr wx HNF.out h1 (RF.out.fr FX hB (by simp)) (Nat.le_trans hB FX.size):Calls Tryz.prog 123 #[.slice Af nf cf] wx fun e w'=>∃ A' c',e=.returned (.slice A' nf c')/\w'.ownsRow wx.heap.size 3 1 (.slice A' nf c') nf (x.fr.map (Value.int .i64))/\Fr wx.heap.size [] wx w'))
  have SF:=zh (fun (w:World) (h:Fr wa.heap.size [g+1+1+1] wa w)=>(⟨(B3.out.fr h B3.out.lt (by simp)).cell 0,(B3.out.fr h B3.out.lt (by simp)).cell 2⟩:w.cell? ⟨g+1+1,0,none⟩=some (.int .i64 x.id)/\w.cell? ⟨g+1+1,2,none⟩=some (.slice Af nf cf)));have INV:=zh ((Fr.refl wa.heap.size [g+1+1+1] wa).drew);have IN0:=zh ((Fr.refl wa.heap.size [] wa).drew);go_wp2_with fail;clear k0 k14 n0 n1 n2 n3 n4 n5 n6 n7 n8 n9 n10 n11 n12 y1 m1 y2 m2 y3 m3 y4 m4 y5 m5 y6 m6 y7 m7 y8 m8 y9 m9 y10 m10 y11 m11 y12 m12 y13 m13 y14 m14

  refine wp_region_held_drew (S:=fun w=>w.cell? ⟨g+1+1,0,none⟩=some (.int .i64 x.id)/\w.cell? ⟨g+1+1,2,none⟩=some (.slice Af nf cf)) (by kernel_rfl) (SF.out _ INV.out) (fun hHeld => ?_);refine tk (i:=0) (oi:=⟨some 51,_,_,_,_,_⟩) (v:=?_) rfl ?_ hHeld ?_
  rotate_left
  · intro w hSw;(try dsimp only at hSw);go_simp;(try with_reducible rfl)
  simp only [Act.put,lPt];refine tk (i:=1) (oi:=⟨some 52,_,_,_,_,_⟩) (v:=?_) rfl ?_ hHeld ?_
  rotate_left
  · intro w hSw;(try dsimp only at hSw);go_simp;(try with_reducible rfl)
  simp only [Act.put,lPt];refine tk (i:=2) (oi:=⟨some 53,_,_,_,_,_⟩) (v:=?_) rfl ?_ hHeld ?_
  rotate_left
  · intro w hSw;(try dsimp only at hSw);go_simp;(try with_reducible rfl)
  simp only [Act.put,lPt];refine tk (i:=3) (oi:=⟨some 54,_,_,_,_,_⟩) (v:=?_) rfl ?_ hHeld ?_
  rotate_left
  · intro w hSw;(try dsimp only at hSw);go_simp;(try with_reducible rfl)
  simp only [Act.put,lPt];refine wpAnyH_ready (rs:=[4]) (by kernel_rfl) (by simp) ?_;refine AllReadyH.cons (o:=⟨some 55,_,_,_,_,_⟩) rfl (fun K hK => ?_) AllReadyH.nil;rw [if_pos (by rfl)];go_simp;refine (HCL.out _ IN0.out).mono ?_;rintro e w' ⟨A1,c1,rfl,ho,hf⟩;have HO:=zh (ownsRow_base ho IN0.out.size);have IN0:=zh (IN0.out.trans (hf.mono IN0.out.size (by simp)));have INV:=zh (INV.out.trans (hf.mono INV.out.size (by simp)));clear ho hf;refine hK.out _ _ (SF.out _ INV.out) (fun hHeld => ?_);clear hK K
  try simp only [Act.put,lPt]
  refine tk (i:=5) (oi:=⟨some 56,_,_,_,_,_⟩) (v:=?_) rfl ?_ hHeld ?_
  rotate_left
  · intro w hSw;(try dsimp only at hSw);go_simp;(try with_reducible rfl)
  simp only [Act.put,lPt];refine tk (i:=6) (oi:=⟨some 57,_,_,_,_,_⟩) (v:=?_) rfl ?_ hHeld ?_
  rotate_left
  · intro w hSw;(try dsimp only at hSw);go_simp;(try with_reducible rfl)
  simp only [Act.put,lPt];refine wpAnyH_ready (rs:=[7]) (by kernel_rfl) (by simp) ?_;refine AllReadyH.cons (o:=⟨none,_,_,_,_,_⟩) rfl (fun K hK => ?_) AllReadyH.nil;rw [if_pos (by rfl)];have B4':=B4.out.fr IN0.out B4.out.lt (by simp);have y1:=B4'.frozen 1;have y2:=B4'.frozen 2;have y3:=B4'.frozen 3;have y4:=B4'.frozen 4;have y5:=B4'.frozen 5;have y6:=B4'.frozen 6;have y7:=B4'.frozen 7;have y8:=B4'.frozen 8;have y9:=B4'.frozen 9;have y10:=B4'.frozen 10;have y11:=B4'.frozen 11;have y12:=B4'.frozen 12;have y13:=B4'.frozen 13;have m1:=B4'.cell 1;have m2:=B4'.cell 2;have m3:=B4'.cell 3;have m4:=B4'.cell 4;have m5:=B4'.cell 5;have m6:=B4'.cell 6;have m7:=B4'.cell 7;have m8:=B4'.cell 8;have m9:=B4'.cell 9;have m10:=B4'.cell 10;have m11:=B4'.cell 11;have m12:=B4'.cell 12;have m13:=B4'.cell 13;simp at m1 m2 m3 m4 m5 m6 m7 m8 m9 m10 m11 m12 m13;go_simp;have INS:=zh (fr_setL (g:=g+1+1+1) (.inr (by simp)) ([.int .i64 x.id,.int .i64 0,(.slice A1 nf c1),(.slice none 0 0),.int .i64 0,.int .i64 0,.int .i64 0,.int .i64 0,.int .i64 0,.int .i64 0,.int .i64 0,.int .i64 0,.int .i64 0]) 1 INV.out);have INV:=INS;clear y1 m1 y2 m2 y3 m3 y4 m4 y5 m5 y6 m6 y7 m7 y8 m8 y9 m9 y10 m10 y11 m11 y12 m12 y13 m13;refine hK.out _ _ (SF.out _ INV.out) (fun hHeld => ?_);clear hK K
  try simp only [Act.put,lPt]
  refine wpAnyH_done (by kernel_rfl) ?_ _;have B45:=zh (B4.out.fr IN0.out B4.out.lt (by simp));have B25:=zh (B2.out.fr IN0.out B2.out.lt (by simp));have F5:=zh (FA.out.nx IN0.out);clear INV INS SF hHeld HCL;go_upto_region 15 with fail;generalize hwz:World.setCell _ _ _=wz;have d4:=blk_setL ([.int .i64 x.id,.int .i64 0,(.slice A1 nf c1),(.slice none 0 0),.int .i64 0,.int .i64 0,.int .i64 0,.int .i64 0,.int .i64 0,.int .i64 0,.int .i64 0,.int .i64 0,.int .i64 0]) 1 B45.out;simp only [putL,List.setIfInBounds_toArray,List.set_cons_succ,List.set_cons_zero,Nat.reduceAdd] at d4;have d2:=far_setL (g:=g+1+1+1) (by omega) ([.int .i64 x.id,.int .i64 0,(.slice A1 nf c1),(.slice none 0 0),.int .i64 0,.int .i64 0,.int .i64 0,.int .i64 0,.int .i64 0,.int .i64 0,.int .i64 0,.int .i64 0,.int .i64 0]) 1 B25.out;have fz:=fr_setL (g:=g+1+1+1) (.inl (by have:=HG.out;omega)) ([.int .i64 x.id,.int .i64 0,(.slice A1 nf c1),(.slice none 0 0),.int .i64 0,.int .i64 0,.int .i64 0,.int .i64 0,.int .i64 0,.int .i64 0,.int .i64 0,.int .i64 0,.int .i64 0]) 1 F5.out;have fs:=fr_setL (g:=g+1+1+1) (.inr (by simp)) ([.int .i64 x.id,.int .i64 0,(.slice A1 nf c1),(.slice none 0 0),.int .i64 0,.int .i64 0,.int .i64 0,.int .i64 0,.int .i64 0,.int .i64 0,.int .i64 0,.int .i64 0,.int .i64 0]) 1 (Fr.refl w'.heap.size [g+1+1+1] w');have D4:=zh (by rw [<- hwz];exact d4:Blk wz (g+1+1+1) 215 _);have D2:=zh (by rw [<- hwz];exact d2:Blk wz (g+1) 215 _);have FZ:=zh (by rw [<- hwz];exact fz:Fr w.heap.size [] w wz);have FS:=zh (by rw [<- hwz];exact fs:Fr w'.heap.size [g+1+1+1] w' wz);clear hwz d4 d2 fz fs;have OWN:=zh (ownsRow_fr HO.out FS.out (fun q hq=>⟨(HO.out.lt q hq).2,by have:=(HO.out.lt q hq).1;have:=HSA.out;simp;omega⟩));have NIN:=zh (show NdIn wz wz.heap.size ((⟨x.id,0,0,x.fr,[],fun _=>0⟩:Nd),.slice A1 nf c1,.slice none 0 0) from ⟨⟨A1,c1,by rw [HNF.out],by rw [<- HNF.out];exact Reads.of_own OWN.out⟩,⟨none,0,rfl,Reads.none_⟩⟩);have FF:=zh (fresh_own HO.out (b:=g+4) (by have:=HSA.out;omega));have FP:=zh (fresh_nil (g+4));clear FS HO OWN IN0;have q0:=D4.out.cell 0;have q1:=D4.out.cell 1;have q2:=D4.out.cell 2;have q3:=D4.out.cell 3;have q4:=D4.out.cell 4;have q5:=D4.out.cell 5;have q6:=D4.out.cell 6;have q7:=D4.out.cell 7;have q8:=D4.out.cell 8;have q9:=D4.out.cell 9;have q10:=D4.out.cell 10;have q11:=D4.out.cell 11;have q12:=D4.out.cell 12;have q13:=D4.out.cell 13;have q14:=D4.out.cell 14;simp at q0 q1 q2 q3 q4 q5 q6 q7 q8 q9 q10 q11 q12 q13 q14;have z0:=D2.out.frozen 0;have z1:=D2.out.frozen 1;have z2:=D2.out.frozen 2;have z3:=D2.out.frozen 3;have z4:=D2.out.frozen 4;have z5:=D2.out.frozen 5;have z6:=D2.out.frozen 6;have z7:=D2.out.frozen 7;have z8:=D2.out.frozen 8;have z9:=D2.out.frozen 9;have z10:=D2.out.frozen 10;have z11:=D2.out.frozen 11;have z12:=D2.out.frozen 12;have z13:=D2.out.frozen 13;have z14:=D2.out.frozen 14;have s0:=D2.out.cell 0;have s1:=D2.out.cell 1;have s2:=D2.out.cell 2;have s3:=D2.out.cell 3;have s4:=D2.out.cell 4;have s5:=D2.out.cell 5;have s6:=D2.out.cell 6;have s7:=D2.out.cell 7;have s8:=D2.out.cell 8;have s9:=D2.out.cell 9;have s10:=D2.out.cell 10;have s11:=D2.out.cell 11;have s12:=D2.out.cell 12;have s13:=D2.out.cell 13;have s14:=D2.out.cell 14;simp at s0 s1 s2 s3 s4 s5 s6 s7 s8 s9 s10 s11 s12 s13 s14;go_wp2_with fail;have be:=blk_setL ([.int .i64 5,.int .i64 x.id,.int .i64 0,(.slice A1 nf c1),(.slice none 0 0),.int .i64 0,.int .i64 (0:Int),.int .i64 (0:Int),.int .i64 (0:Int),.int .i64 (0:Int),.int .i64 (0:Int),.int .i64 (0:Int),.int .i64 (0:Int),.int .i64 (0:Int),.bool false]) 0 D2.out;simp only [putL,List.setIfInBounds_toArray,List.set_cons_succ,List.set_cons_zero,Nat.reduceAdd] at be;have BE:=zh be;clear be;have fe:=fr_setL (g:=g+1) (.inr (by simp)) ([.int .i64 5,.int .i64 x.id,.int .i64 0,(.slice A1 nf c1),(.slice none 0 0),.int .i64 0,.int .i64 (0:Int),.int .i64 (0:Int),.int .i64 (0:Int),.int .i64 (0:Int),.int .i64 (0:Int),.int .i64 (0:Int),.int .i64 (0:Int),.int .i64 (0:Int),.bool false]) 0 (Fr.refl wz.heap.size [g+1] wz);have FE:=zh (FZ.out.trans (fe.mono (B':=w.heap.size) (L':=[]) FZ.out.size (by intro k hk hlt;have:=HG.out;simp at hk;omega)));have NE:=zh ((ndin_fresh NIN.out FF.out FP.out fe (Nat.le_refl _) (by intro k hk;simp at hk;omega)).more fe.size);refine bodyPost_ret (results_cell_row rfl _ _ (g+1) 215 (stV (⟨5,⟨x.id,0,0,x.fr,[],fun _=>0⟩,false⟩:Stp) (.slice A1 nf c1) (.slice none 0 0)) (0,0) _ rfl BE.out Tryz.underlying215 rfl (by kernel_rfl)) rfl (HOUT.out (.slice A1 nf c1) (.slice none 0 0) _ NE.out (fresh_le FF.out (by have:=HG.out;omega)) (fresh_le FP.out (by have:=HG.out;omega)) FE.out)
 · exact absurd HKD.out e5
theorem clean_2 (kd:Int) (x:Nd) (rs:Bool) (sf sp:Value) (B:Nat) (w:World) (hkd:kd=2) (h:NdIn w B (x,sf,sp)) (hB:B<=w.heap.size) (h1:x.fr.length<=1000000) (h2:x.pg.length<=1000000) :
  Calls Tryz.prog 180 #[.agg (stA kd x rs sf sp)] w (CleanOut ⟨kd,x,rs⟩ w):=by
 have HKD:=zh hkd;clear hkd;obtain ⟨⟨Af,cf,hf1,hf2⟩,⟨Ap,cp,hp1,hp2⟩⟩:=h;simp only at hf1 hf2 hp1 hp2;subst hf1;subst hp1;obtain ⟨nf,hnf⟩:=nm (x.fr.length);obtain ⟨np,hnp⟩:=nm (x.pg.length);have RP:=zh hp2;have RF:=zh hf2;rw [<- hnf] at RF h1 ⊢;rw [<- hnp] at RP h2 ⊢;have HNF:=zh hnf;have HNP:=zh hnp;obtain ⟨cs,hcs⟩:=nm (cleanS ⟨kd,x,rs⟩);obtain ⟨Q,hQ⟩:=nm (CleanOut ⟨kd,x,rs⟩ w);rw [<- hQ]
 have HOUT := zh (fun (tf tp : Value) (w' : World) (ha : NdIn w' w'.heap.size (cs.nd, tf, tp)) (hb : Fresh w.heap.size tf) (hc : Fresh w.heap.size tp) (hd : Fr w.heap.size [] w w') => (by
  rw [hQ];unfold CleanOut;rw [<- hcs]
  exact ⟨tf,tp,rfl,ha,hb,hc,hd⟩:Q (.returned (.agg (stV cs tf tp))) w'))
 have HCS:=zh hcs;obtain ⟨B1,B2,B3,B4,FA,HSA⟩:=wCl_all w kd x rs (.slice Af nf cf) (.slice Ap np cp);clear hf2 hp2 hnf hnp hcs hQ;go_enter Tryz.func180,Tryz.ntmps180;go_upto_region 3 with fail;generalize hW:wCl w kd x rs (.slice Af nf cf) (.slice Ap np cp)=wa at *;unfold wCl at hW;rw [hW];clear hW;obtain ⟨g,hg⟩:=nm (w.heap.size);rw [<- hg] at B1 B2 B3 B4 HSA
 try rw [<- hg]
 have HG:=zh hg;clear hg;have k0:=B1.out.cell 0;have k14:=B1.out.cell 14;have n0:=B3.out.cell 0;have n1:=B3.out.cell 1;have n2:=B3.out.cell 2;have n3:=B3.out.cell 3;have n4:=B3.out.cell 4;have n5:=B3.out.cell 5;have n6:=B3.out.cell 6;have n7:=B3.out.cell 7;have n8:=B3.out.cell 8;have n9:=B3.out.cell 9;have n10:=B3.out.cell 10;have n11:=B3.out.cell 11;have n12:=B3.out.cell 12;simp at k0 k14 n0 n1 n2 n3 n4 n5 n6 n7 n8 n9 n10 n11 n12;have y1:=B4.out.frozen 1;have y2:=B4.out.frozen 2;have y3:=B4.out.frozen 3;have y4:=B4.out.frozen 4;have y5:=B4.out.frozen 5;have y6:=B4.out.frozen 6;have y7:=B4.out.frozen 7;have y8:=B4.out.frozen 8;have y9:=B4.out.frozen 9;have y10:=B4.out.frozen 10;have y11:=B4.out.frozen 11;have y12:=B4.out.frozen 12;have y13:=B4.out.frozen 13;have y14:=B4.out.frozen 14;have m1:=B4.out.cell 1;have m2:=B4.out.cell 2;have m3:=B4.out.cell 3;have m4:=B4.out.cell 4;have m5:=B4.out.cell 5;have m6:=B4.out.cell 6;have m7:=B4.out.cell 7;have m8:=B4.out.cell 8;have m9:=B4.out.cell 9;have m10:=B4.out.cell 10;have m11:=B4.out.cell 11;have m12:=B4.out.cell 12;have m13:=B4.out.cell 13;have m14:=B4.out.cell 14;simp at m1 m2 m3 m4 m5 m6 m7 m8 m9 m10 m11 m12 m13 m14
 by_cases e2:kd=2
 ·
  subst e2
  obtain rfl:cs=⟨2,x,false⟩:=by
   rw [HCS.out];unfold cleanS;simp
  clear HCS;have hnd:=(Fr.refl wa.heap.size [] wa).alloc (Nat.le_refl _) (.cells #[.int .i64 x.id,.int .i64 x.kind,.slice Af nf cf,.slice Ap np cp,.int .i64 x.par,.int .i64 (x.rt 0),.int .i64 (x.rt 1),.int .i64 (x.rt 2),.int .i64 (x.rt 3),.int .i64 (x.rt 4),.int .i64 (x.rt 5),.int .i64 (x.rt 6),.int .i64 (x.rt 7)] 83);have hin:NdIn (wa.alloc (.cells #[.int .i64 x.id,.int .i64 x.kind,.slice Af nf cf,.slice Ap np cp,.int .i64 x.par,.int .i64 (x.rt 0),.int .i64 (x.rt 1),.int .i64 (x.rt 2),.int .i64 (x.rt 3),.int .i64 (x.rt 4),.int .i64 (x.rt 5),.int .i64 (x.rt 6),.int .i64 (x.rt 7)] 83)) B (x,.slice Af nf cf,.slice Ap np cp):=⟨⟨Af,cf,by rw [HNF.out],by rw [<- HNF.out];exact (RF.out.fr FA.out hB (by simp)).fr hnd (Nat.le_trans hB FA.out.size) (by simp)⟩,⟨Ap,cp,by rw [HNP.out],by rw [<- HNP.out];exact (RP.out.fr FA.out hB (by simp)).fr hnd (Nat.le_trans hB FA.out.size) (by simp)⟩⟩
  have hns : Nds (wa.alloc (.cells #[.int .i64 x.id, .int .i64 x.kind, .slice Af nf cf, .slice Ap np cp, .int .i64 x.par, .int .i64 (x.rt 0), .int .i64 (x.rt 1), .int .i64 (x.rt 2), .int .i64 (x.rt 3), .int .i64 (x.rt 4), .int .i64 (x.rt 5), .int .i64 (x.rt 6), .int .i64 (x.rt 7)] 83)) (wa.heap.size + 1) (some ⟨wa.heap.size, 0, none⟩) 1 [(x, .slice Af nf cf, .slice Ap np cp)] := ⟨rfl, by
   have:=Reads.of_blk (size:=13) (m:=1) (Blk.new wa 83 #[.int .i64 x.id,.int .i64 x.kind,.slice Af nf cf,.slice Ap np cp,.int .i64 x.par,.int .i64 (x.rt 0),.int .i64 (x.rt 1),.int .i64 (x.rt 2),.int .i64 (x.rt 3),.int .i64 (x.rt 4),.int .i64 (x.rt 5),.int .i64 (x.rt 6),.int .i64 (x.rt 7)]) rfl;exact this,fun m hm=>by
   rw [List.mem_singleton.1 hm]
   exact hin.more (by have:=FA.out.size;omega)⟩
  have HNM := zh (norm_any (some ⟨wa.heap.size, 0, none⟩) 1 (wa.heap.size + 1) 1 _ _ hns (by simp) ⟨by simp, fun m hm => by
   rw [List.mem_singleton.1 hm]
   exact ⟨by rw [<- HNF.out];exact h1,by rw [<- HNP.out];exact h2⟩⟩ (by omega))
  have HND:=zh hnd;clear hnd hin hns;go_wp2_with fail;refine HNM.out.mono ?_;rintro e w5 ⟨A1,c1,n1,M1,hn1,rfl,ho1,hi1,hf1,f1⟩
  have hM:∃ tf tp,M1=[(x,tf,tp)]:=by
   have e1:fstN M1=[x]:=(by rw [hf1];exact normL_self (by simp [fstN]))
   match M1,e1 with
   | [(y,a,b)],e1 =>
    simp only [fstN,List.map_cons,List.map_nil,List.cons.injEq,and_true] at e1;subst e1;exact ⟨a,b,rfl⟩
  obtain ⟨tf,tp,rfl⟩:=hM;obtain rfl:n1=1:=hn1;obtain ⟨gn,cap,hv,hbg,hlt⟩:=ho1.form (by omega);injection hv with hv1 _ hv3
  subst hv1;subst hv3;obtain ⟨⟨⟨A2,c2,hq1,hq2⟩,⟨A3,c3,hq3,hq4⟩⟩,_,_,ff1,ff2⟩:=hi1 (x,tf,tp) List.mem_cons_self;simp only at hq1 hq3 ff1 ff2 hq2 hq4;subst hq1;subst hq3;have f5:Fr wa.heap.size [] wa w5:=HND.out.nx f1;have B45:=zh (B4.out.fr f5 B4.out.lt (by simp));have B25:=zh (B2.out.fr f5 B2.out.lt (by simp));have F5:=zh (FA.out.nx f5);have NI5:=zh (show NdIn w5 w5.heap.size (x,.slice A2 x.fr.length c2,.slice A3 x.pg.length c3) from ⟨⟨A2,c2,rfl,hq2⟩,⟨A3,c3,rfl,hq4⟩⟩);have hgz:g+4<=(wa.alloc (.cells #[.int .i64 x.id,.int .i64 x.kind,.slice Af nf cf,.slice Ap np cp,.int .i64 x.par,.int .i64 (x.rt 0),.int .i64 (x.rt 1),.int .i64 (x.rt 2),.int .i64 (x.rt 3),.int .i64 (x.rt 4),.int .i64 (x.rt 5),.int .i64 (x.rt 6),.int .i64 (x.rt 7)] 83)).heap.size:=(by have:=HSA.out;simp;omega);have FF:=zh (fresh_le ff1 hgz);have FP:=zh (fresh_le ff2 hgz);have r0:=nd_cell ho1 (k:=0) rfl 0 (.int .i64 x.id) rfl;have r1:=nd_cell ho1 (k:=0) rfl 1 (.int .i64 x.kind) rfl;have r2:=nd_cell ho1 (k:=0) rfl 2 (.slice A2 x.fr.length c2) rfl;have r3:=nd_cell ho1 (k:=0) rfl 3 (.slice A3 x.pg.length c3) rfl;have r4:=nd_cell ho1 (k:=0) rfl 4 (.int .i64 x.par) rfl;have r5:=nd_cell ho1 (k:=0) rfl 5 (.int .i64 (x.rt 0)) rfl;have r6:=nd_cell ho1 (k:=0) rfl 6 (.int .i64 (x.rt 1)) rfl;have r7:=nd_cell ho1 (k:=0) rfl 7 (.int .i64 (x.rt 2)) rfl;have r8:=nd_cell ho1 (k:=0) rfl 8 (.int .i64 (x.rt 3)) rfl;have r9:=nd_cell ho1 (k:=0) rfl 9 (.int .i64 (x.rt 4)) rfl;have r10:=nd_cell ho1 (k:=0) rfl 10 (.int .i64 (x.rt 5)) rfl;have r11:=nd_cell ho1 (k:=0) rfl 11 (.int .i64 (x.rt 6)) rfl;have r12:=nd_cell ho1 (k:=0) rfl 12 (.int .i64 (x.rt 7)) rfl;simp at r0 r1 r2 r3 r4 r5 r6 r7 r8 r9 r10 r11 r12;clear ho1 hi1 hf1 f1 hbg hlt ff1 ff2 hq2 hq4 hgz f5 HNM k0 k14 n0 n1 n2 n3 n4 n5 n6 n7 n8 n9 n10 n11 n12 y1 m1 y2 m2 y3 m3 y4 m4 y5 m5 y6 m6 y7 m7 y8 m8 y9 m9 y10 m10 y11 m11 y12 m12 y13 m13 y14 m14;have y1:=B45.out.frozen 1;have y2:=B45.out.frozen 2;have y3:=B45.out.frozen 3;have y4:=B45.out.frozen 4;have y5:=B45.out.frozen 5;have y6:=B45.out.frozen 6;have y7:=B45.out.frozen 7;have y8:=B45.out.frozen 8;have y9:=B45.out.frozen 9;have y10:=B45.out.frozen 10;have y11:=B45.out.frozen 11;have y12:=B45.out.frozen 12;have y13:=B45.out.frozen 13;have m1:=B45.out.cell 1;have m2:=B45.out.cell 2;have m3:=B45.out.cell 3;have m4:=B45.out.cell 4;have m5:=B45.out.cell 5;have m6:=B45.out.cell 6;have m7:=B45.out.cell 7;have m8:=B45.out.cell 8;have m9:=B45.out.cell 9;have m10:=B45.out.cell 10;have m11:=B45.out.cell 11;have m12:=B45.out.cell 12;have m13:=B45.out.cell 13;simp at m1 m2 m3 m4 m5 m6 m7 m8 m9 m10 m11 m12 m13;go_upto_region 15 with fail;generalize hwz:World.setCell _ _ _=wz;have d4:=blk_setL ([.int .i64 x.id,.int .i64 x.kind,(.slice A2 x.fr.length c2),(.slice A3 x.pg.length c3),.int .i64 x.par,.int .i64 (x.rt 0),.int .i64 (x.rt 1),.int .i64 (x.rt 2),.int .i64 (x.rt 3),.int .i64 (x.rt 4),.int .i64 (x.rt 5),.int .i64 (x.rt 6),.int .i64 (x.rt 7)]) 1 B45.out;simp only [putL,List.setIfInBounds_toArray,List.set_cons_succ,List.set_cons_zero,Nat.reduceAdd] at d4;have d2:=far_setL (g:=g+1+1+1) (by omega) ([.int .i64 x.id,.int .i64 x.kind,(.slice A2 x.fr.length c2),(.slice A3 x.pg.length c3),.int .i64 x.par,.int .i64 (x.rt 0),.int .i64 (x.rt 1),.int .i64 (x.rt 2),.int .i64 (x.rt 3),.int .i64 (x.rt 4),.int .i64 (x.rt 5),.int .i64 (x.rt 6),.int .i64 (x.rt 7)]) 1 B25.out;have fz:=fr_setL (g:=g+1+1+1) (.inl (by have:=HG.out;omega)) ([.int .i64 x.id,.int .i64 x.kind,(.slice A2 x.fr.length c2),(.slice A3 x.pg.length c3),.int .i64 x.par,.int .i64 (x.rt 0),.int .i64 (x.rt 1),.int .i64 (x.rt 2),.int .i64 (x.rt 3),.int .i64 (x.rt 4),.int .i64 (x.rt 5),.int .i64 (x.rt 6),.int .i64 (x.rt 7)]) 1 F5.out;have fs:=fr_setL (g:=g+1+1+1) (.inr (by simp)) ([.int .i64 x.id,.int .i64 x.kind,(.slice A2 x.fr.length c2),(.slice A3 x.pg.length c3),.int .i64 x.par,.int .i64 (x.rt 0),.int .i64 (x.rt 1),.int .i64 (x.rt 2),.int .i64 (x.rt 3),.int .i64 (x.rt 4),.int .i64 (x.rt 5),.int .i64 (x.rt 6),.int .i64 (x.rt 7)]) 1 (Fr.refl w5.heap.size [g+1+1+1] w5);have D4:=zh (by rw [<- hwz];exact d4:Blk wz (g+1+1+1) 215 _);have D2:=zh (by rw [<- hwz];exact d2:Blk wz (g+1) 215 _);have FZ:=zh (by rw [<- hwz];exact fz:Fr w.heap.size [] w wz);have FS:=zh (by rw [<- hwz];exact fs:Fr w5.heap.size [g+1+1+1] w5 wz);clear hwz d4 d2 fz fs;have NIN:=zh ((ndin_fresh NI5.out FF.out FP.out FS.out (Nat.le_refl _) (by intro k hk;simp at hk;omega)).more FS.out.size);clear FS NI5 y1 m1 y2 m2 y3 m3 y4 m4 y5 m5 y6 m6 y7 m7 y8 m8 y9 m9 y10 m10 y11 m11 y12 m12 y13 m13 r0 r1 r2 r3 r4 r5 r6 r7 r8 r9 r10 r11 r12;have q0:=D4.out.cell 0;have q1:=D4.out.cell 1;have q2:=D4.out.cell 2;have q3:=D4.out.cell 3;have q4:=D4.out.cell 4;have q5:=D4.out.cell 5;have q6:=D4.out.cell 6;have q7:=D4.out.cell 7;have q8:=D4.out.cell 8;have q9:=D4.out.cell 9;have q10:=D4.out.cell 10;have q11:=D4.out.cell 11;have q12:=D4.out.cell 12;have q13:=D4.out.cell 13;have q14:=D4.out.cell 14;simp at q0 q1 q2 q3 q4 q5 q6 q7 q8 q9 q10 q11 q12 q13 q14;have z0:=D2.out.frozen 0;have z1:=D2.out.frozen 1;have z2:=D2.out.frozen 2;have z3:=D2.out.frozen 3;have z4:=D2.out.frozen 4;have z5:=D2.out.frozen 5;have z6:=D2.out.frozen 6;have z7:=D2.out.frozen 7;have z8:=D2.out.frozen 8;have z9:=D2.out.frozen 9;have z10:=D2.out.frozen 10;have z11:=D2.out.frozen 11;have z12:=D2.out.frozen 12;have z13:=D2.out.frozen 13;have z14:=D2.out.frozen 14;have s0:=D2.out.cell 0;have s1:=D2.out.cell 1;have s2:=D2.out.cell 2;have s3:=D2.out.cell 3;have s4:=D2.out.cell 4;have s5:=D2.out.cell 5;have s6:=D2.out.cell 6;have s7:=D2.out.cell 7;have s8:=D2.out.cell 8;have s9:=D2.out.cell 9;have s10:=D2.out.cell 10;have s11:=D2.out.cell 11;have s12:=D2.out.cell 12;have s13:=D2.out.cell 13;have s14:=D2.out.cell 14;simp at s0 s1 s2 s3 s4 s5 s6 s7 s8 s9 s10 s11 s12 s13 s14;go_wp2_with fail;have be:=blk_setL ([.int .i64 2,.int .i64 x.id,.int .i64 x.kind,(.slice A2 x.fr.length c2),(.slice A3 x.pg.length c3),.int .i64 x.par,.int .i64 (x.rt 0),.int .i64 (x.rt 1),.int .i64 (x.rt 2),.int .i64 (x.rt 3),.int .i64 (x.rt 4),.int .i64 (x.rt 5),.int .i64 (x.rt 6),.int .i64 (x.rt 7),.bool false]) 0 D2.out;simp only [putL,List.setIfInBounds_toArray,List.set_cons_succ,List.set_cons_zero,Nat.reduceAdd] at be;have BE:=zh be;clear be;have fe:=fr_setL (g:=g+1) (.inr (by simp)) ([.int .i64 2,.int .i64 x.id,.int .i64 x.kind,(.slice A2 x.fr.length c2),(.slice A3 x.pg.length c3),.int .i64 x.par,.int .i64 (x.rt 0),.int .i64 (x.rt 1),.int .i64 (x.rt 2),.int .i64 (x.rt 3),.int .i64 (x.rt 4),.int .i64 (x.rt 5),.int .i64 (x.rt 6),.int .i64 (x.rt 7),.bool false]) 0 (Fr.refl wz.heap.size [g+1] wz);have FE:=zh (FZ.out.trans (fe.mono (B':=w.heap.size) (L':=[]) FZ.out.size (by intro k hk hlt;have:=HG.out;simp at hk;omega)));have NE:=zh ((ndin_fresh NIN.out FF.out FP.out fe (Nat.le_refl _) (by intro k hk;simp at hk;omega)).more fe.size);refine bodyPost_ret (results_cell_row rfl _ _ (g+1) 215 (stV (⟨2,x,false⟩:Stp) (.slice A2 x.fr.length c2) (.slice A3 x.pg.length c3)) (0,0) _ rfl BE.out Tryz.underlying215 rfl (by kernel_rfl)) rfl (HOUT.out (.slice A2 x.fr.length c2) (.slice A3 x.pg.length c3) _ NE.out (fresh_le FF.out (by have:=HG.out;omega)) (fresh_le FP.out (by have:=HG.out;omega)) FE.out)
 · exact absurd HKD.out e2
theorem clean_3 (kd:Int) (x:Nd) (rs:Bool) (sf sp:Value) (B:Nat) (w:World) (hkd:kd=3) (h:NdIn w B (x,sf,sp)) (hB:B<=w.heap.size) (h1:x.fr.length<=1000000) (h2:x.pg.length<=1000000) :
  Calls Tryz.prog 180 #[.agg (stA kd x rs sf sp)] w (CleanOut ⟨kd,x,rs⟩ w):=by
 have HKD:=zh hkd;clear hkd;obtain ⟨⟨Af,cf,hf1,hf2⟩,⟨Ap,cp,hp1,hp2⟩⟩:=h;simp only at hf1 hf2 hp1 hp2;subst hf1;subst hp1;obtain ⟨nf,hnf⟩:=nm (x.fr.length);obtain ⟨np,hnp⟩:=nm (x.pg.length);have RP:=zh hp2;have RF:=zh hf2;rw [<- hnf] at RF h1 ⊢;rw [<- hnp] at RP h2 ⊢;have HNF:=zh hnf;have HNP:=zh hnp;obtain ⟨cs,hcs⟩:=nm (cleanS ⟨kd,x,rs⟩);obtain ⟨Q,hQ⟩:=nm (CleanOut ⟨kd,x,rs⟩ w);rw [<- hQ]
 have HOUT := zh (fun (tf tp : Value) (w' : World) (ha : NdIn w' w'.heap.size (cs.nd, tf, tp)) (hb : Fresh w.heap.size tf) (hc : Fresh w.heap.size tp) (hd : Fr w.heap.size [] w w') => (by
  rw [hQ];unfold CleanOut;rw [<- hcs]
  exact ⟨tf,tp,rfl,ha,hb,hc,hd⟩:Q (.returned (.agg (stV cs tf tp))) w'))
 have HCS:=zh hcs;obtain ⟨B1,B2,B3,B4,FA,HSA⟩:=wCl_all w kd x rs (.slice Af nf cf) (.slice Ap np cp);clear hf2 hp2 hnf hnp hcs hQ;go_enter Tryz.func180,Tryz.ntmps180;go_upto_region 3 with fail;generalize hW:wCl w kd x rs (.slice Af nf cf) (.slice Ap np cp)=wa at *;unfold wCl at hW;rw [hW];clear hW;obtain ⟨g,hg⟩:=nm (w.heap.size);rw [<- hg] at B1 B2 B3 B4 HSA
 try rw [<- hg]
 have HG:=zh hg;clear hg;have k0:=B1.out.cell 0;have k14:=B1.out.cell 14;have n0:=B3.out.cell 0;have n1:=B3.out.cell 1;have n2:=B3.out.cell 2;have n3:=B3.out.cell 3;have n4:=B3.out.cell 4;have n5:=B3.out.cell 5;have n6:=B3.out.cell 6;have n7:=B3.out.cell 7;have n8:=B3.out.cell 8;have n9:=B3.out.cell 9;have n10:=B3.out.cell 10;have n11:=B3.out.cell 11;have n12:=B3.out.cell 12;simp at k0 k14 n0 n1 n2 n3 n4 n5 n6 n7 n8 n9 n10 n11 n12;have y1:=B4.out.frozen 1;have y2:=B4.out.frozen 2;have y3:=B4.out.frozen 3;have y4:=B4.out.frozen 4;have y5:=B4.out.frozen 5;have y6:=B4.out.frozen 6;have y7:=B4.out.frozen 7;have y8:=B4.out.frozen 8;have y9:=B4.out.frozen 9;have y10:=B4.out.frozen 10;have y11:=B4.out.frozen 11;have y12:=B4.out.frozen 12;have y13:=B4.out.frozen 13;have y14:=B4.out.frozen 14;have m1:=B4.out.cell 1;have m2:=B4.out.cell 2;have m3:=B4.out.cell 3;have m4:=B4.out.cell 4;have m5:=B4.out.cell 5;have m6:=B4.out.cell 6;have m7:=B4.out.cell 7;have m8:=B4.out.cell 8;have m9:=B4.out.cell 9;have m10:=B4.out.cell 10;have m11:=B4.out.cell 11;have m12:=B4.out.cell 12;have m13:=B4.out.cell 13;have m14:=B4.out.cell 14;simp at m1 m2 m3 m4 m5 m6 m7 m8 m9 m10 m11 m12 m13 m14
 by_cases e3:kd=3
 ·
  subst e3
  obtain rfl:cs=⟨3,⟨x.id,0,0,[],[],fun _=>0⟩,false⟩:=by
   rw [HCS.out];unfold cleanS;simp
  clear HCS;go_upto_region 15 with fail;have d4:=B4.out.set_ 1 (.int .i64 x.id);simp only [List.setIfInBounds_toArray,List.set_cons_succ,List.set_cons_zero] at d4;have D4:=zh d4;clear d4;have D2:=zh (B2.out.far (p:=⟨g+1+1+1,1,none⟩) (by simp) (.int .i64 x.id));have FZ:=zh (FA.out.setCell (p:=⟨g+1+1+1,1,none⟩) (.inl (by have:=HG.out;simp;omega)) (.int .i64 x.id));generalize wa.setCell ⟨g+1+1+1,1,none⟩ (.int .i64 x.id)=wz at *;have NIN:=zh (nd_bare wz wz.heap.size (⟨x.id,0,0,[],[],fun _=>0⟩:Nd) rfl rfl);have FF:=zh (fresh_nil (g+4));have FP:=zh (fresh_nil (g+4));clear y1 m1 y2 m2 y3 m3 y4 m4 y5 m5 y6 m6 y7 m7 y8 m8 y9 m9 y10 m10 y11 m11 y12 m12 y13 m13 y14 m14 n0 n1 n2 n3 n4 n5 n6 n7 n8 n9 n10 n11 n12 k0 k14;have q0:=D4.out.cell 0;have q1:=D4.out.cell 1;have q2:=D4.out.cell 2;have q3:=D4.out.cell 3;have q4:=D4.out.cell 4;have q5:=D4.out.cell 5;have q6:=D4.out.cell 6;have q7:=D4.out.cell 7;have q8:=D4.out.cell 8;have q9:=D4.out.cell 9;have q10:=D4.out.cell 10;have q11:=D4.out.cell 11;have q12:=D4.out.cell 12;have q13:=D4.out.cell 13;have q14:=D4.out.cell 14;simp at q0 q1 q2 q3 q4 q5 q6 q7 q8 q9 q10 q11 q12 q13 q14;have z0:=D2.out.frozen 0;have z1:=D2.out.frozen 1;have z2:=D2.out.frozen 2;have z3:=D2.out.frozen 3;have z4:=D2.out.frozen 4;have z5:=D2.out.frozen 5;have z6:=D2.out.frozen 6;have z7:=D2.out.frozen 7;have z8:=D2.out.frozen 8;have z9:=D2.out.frozen 9;have z10:=D2.out.frozen 10;have z11:=D2.out.frozen 11;have z12:=D2.out.frozen 12;have z13:=D2.out.frozen 13;have z14:=D2.out.frozen 14;have s0:=D2.out.cell 0;have s1:=D2.out.cell 1;have s2:=D2.out.cell 2;have s3:=D2.out.cell 3;have s4:=D2.out.cell 4;have s5:=D2.out.cell 5;have s6:=D2.out.cell 6;have s7:=D2.out.cell 7;have s8:=D2.out.cell 8;have s9:=D2.out.cell 9;have s10:=D2.out.cell 10;have s11:=D2.out.cell 11;have s12:=D2.out.cell 12;have s13:=D2.out.cell 13;have s14:=D2.out.cell 14;simp at s0 s1 s2 s3 s4 s5 s6 s7 s8 s9 s10 s11 s12 s13 s14;go_wp2_with fail;have be:=blk_setL ([.int .i64 3,.int .i64 x.id,.int .i64 0,(.slice none 0 0),(.slice none 0 0),.int .i64 0,.int .i64 (0:Int),.int .i64 (0:Int),.int .i64 (0:Int),.int .i64 (0:Int),.int .i64 (0:Int),.int .i64 (0:Int),.int .i64 (0:Int),.int .i64 (0:Int),.bool false]) 0 D2.out;simp only [putL,List.setIfInBounds_toArray,List.set_cons_succ,List.set_cons_zero,Nat.reduceAdd] at be;have BE:=zh be;clear be;have fe:=fr_setL (g:=g+1) (.inr (by simp)) ([.int .i64 3,.int .i64 x.id,.int .i64 0,(.slice none 0 0),(.slice none 0 0),.int .i64 0,.int .i64 (0:Int),.int .i64 (0:Int),.int .i64 (0:Int),.int .i64 (0:Int),.int .i64 (0:Int),.int .i64 (0:Int),.int .i64 (0:Int),.int .i64 (0:Int),.bool false]) 0 (Fr.refl wz.heap.size [g+1] wz);have FE:=zh (FZ.out.trans (fe.mono (B':=w.heap.size) (L':=[]) FZ.out.size (by intro k hk hlt;have:=HG.out;simp at hk;omega)));have NE:=zh ((ndin_fresh NIN.out FF.out FP.out fe (Nat.le_refl _) (by intro k hk;simp at hk;omega)).more fe.size);refine bodyPost_ret (results_cell_row rfl _ _ (g+1) 215 (stV (⟨3,⟨x.id,0,0,[],[],fun _=>0⟩,false⟩:Stp) (.slice none 0 0) (.slice none 0 0)) (0,0) _ rfl BE.out Tryz.underlying215 rfl (by kernel_rfl)) rfl (HOUT.out (.slice none 0 0) (.slice none 0 0) _ NE.out (fresh_le FF.out (by have:=HG.out;omega)) (fresh_le FP.out (by have:=HG.out;omega)) FE.out)
 · exact absurd HKD.out e3
theorem clean_4 (kd:Int) (x:Nd) (rs:Bool) (sf sp:Value) (B:Nat) (w:World) (hkd:kd=4) (h:NdIn w B (x,sf,sp)) (hB:B<=w.heap.size) (h1:x.fr.length<=1000000) (h2:x.pg.length<=1000000) :
  Calls Tryz.prog 180 #[.agg (stA kd x rs sf sp)] w (CleanOut ⟨kd,x,rs⟩ w):=by
 have HKD:=zh hkd;clear hkd;obtain ⟨⟨Af,cf,hf1,hf2⟩,⟨Ap,cp,hp1,hp2⟩⟩:=h;simp only at hf1 hf2 hp1 hp2;subst hf1;subst hp1;obtain ⟨nf,hnf⟩:=nm (x.fr.length);obtain ⟨np,hnp⟩:=nm (x.pg.length);have RP:=zh hp2;have RF:=zh hf2;rw [<- hnf] at RF h1 ⊢;rw [<- hnp] at RP h2 ⊢;have HNF:=zh hnf;have HNP:=zh hnp;obtain ⟨cs,hcs⟩:=nm (cleanS ⟨kd,x,rs⟩);obtain ⟨Q,hQ⟩:=nm (CleanOut ⟨kd,x,rs⟩ w);rw [<- hQ]
 have HOUT := zh (fun (tf tp : Value) (w' : World) (ha : NdIn w' w'.heap.size (cs.nd, tf, tp)) (hb : Fresh w.heap.size tf) (hc : Fresh w.heap.size tp) (hd : Fr w.heap.size [] w w') => (by
  rw [hQ];unfold CleanOut;rw [<- hcs]
  exact ⟨tf,tp,rfl,ha,hb,hc,hd⟩:Q (.returned (.agg (stV cs tf tp))) w'))
 have HCS:=zh hcs;obtain ⟨B1,B2,B3,B4,FA,HSA⟩:=wCl_all w kd x rs (.slice Af nf cf) (.slice Ap np cp);clear hf2 hp2 hnf hnp hcs hQ;go_enter Tryz.func180,Tryz.ntmps180;go_upto_region 3 with fail;generalize hW:wCl w kd x rs (.slice Af nf cf) (.slice Ap np cp)=wa at *;unfold wCl at hW;rw [hW];clear hW;obtain ⟨g,hg⟩:=nm (w.heap.size);rw [<- hg] at B1 B2 B3 B4 HSA
 try rw [<- hg]
 have HG:=zh hg;clear hg;have k0:=B1.out.cell 0;have k14:=B1.out.cell 14;have n0:=B3.out.cell 0;have n1:=B3.out.cell 1;have n2:=B3.out.cell 2;have n3:=B3.out.cell 3;have n4:=B3.out.cell 4;have n5:=B3.out.cell 5;have n6:=B3.out.cell 6;have n7:=B3.out.cell 7;have n8:=B3.out.cell 8;have n9:=B3.out.cell 9;have n10:=B3.out.cell 10;have n11:=B3.out.cell 11;have n12:=B3.out.cell 12;simp at k0 k14 n0 n1 n2 n3 n4 n5 n6 n7 n8 n9 n10 n11 n12;have y1:=B4.out.frozen 1;have y2:=B4.out.frozen 2;have y3:=B4.out.frozen 3;have y4:=B4.out.frozen 4;have y5:=B4.out.frozen 5;have y6:=B4.out.frozen 6;have y7:=B4.out.frozen 7;have y8:=B4.out.frozen 8;have y9:=B4.out.frozen 9;have y10:=B4.out.frozen 10;have y11:=B4.out.frozen 11;have y12:=B4.out.frozen 12;have y13:=B4.out.frozen 13;have y14:=B4.out.frozen 14;have m1:=B4.out.cell 1;have m2:=B4.out.cell 2;have m3:=B4.out.cell 3;have m4:=B4.out.cell 4;have m5:=B4.out.cell 5;have m6:=B4.out.cell 6;have m7:=B4.out.cell 7;have m8:=B4.out.cell 8;have m9:=B4.out.cell 9;have m10:=B4.out.cell 10;have m11:=B4.out.cell 11;have m12:=B4.out.cell 12;have m13:=B4.out.cell 13;have m14:=B4.out.cell 14;simp at m1 m2 m3 m4 m5 m6 m7 m8 m9 m10 m11 m12 m13 m14
 by_cases e4:kd=4
 ·
  subst e4
  obtain rfl:cs=⟨4,⟨x.id,0,x.par,[],[],x.rt⟩,false⟩:=by
   rw [HCS.out];unfold cleanS;simp
  clear HCS;go_upto_region 15 with fail;generalize hwz:World.setCell _ _ _=wz;have d4:=blk_setL ([.int .i64 x.id,.int .i64 0,(.slice none 0 0),(.slice none 0 0),.int .i64 x.par,.int .i64 (x.rt 0),.int .i64 (x.rt 1),.int .i64 (x.rt 2),.int .i64 (x.rt 3),.int .i64 (x.rt 4),.int .i64 (x.rt 5),.int .i64 (x.rt 6),.int .i64 (x.rt 7)]) 1 B4.out;simp only [putL,List.setIfInBounds_toArray,List.set_cons_succ,List.set_cons_zero,Nat.reduceAdd] at d4;have d2:=far_setL (g:=g+1+1+1) (by omega) ([.int .i64 x.id,.int .i64 0,(.slice none 0 0),(.slice none 0 0),.int .i64 x.par,.int .i64 (x.rt 0),.int .i64 (x.rt 1),.int .i64 (x.rt 2),.int .i64 (x.rt 3),.int .i64 (x.rt 4),.int .i64 (x.rt 5),.int .i64 (x.rt 6),.int .i64 (x.rt 7)]) 1 B2.out;have fz:=fr_setL (g:=g+1+1+1) (.inl (by have:=HG.out;omega)) ([.int .i64 x.id,.int .i64 0,(.slice none 0 0),(.slice none 0 0),.int .i64 x.par,.int .i64 (x.rt 0),.int .i64 (x.rt 1),.int .i64 (x.rt 2),.int .i64 (x.rt 3),.int .i64 (x.rt 4),.int .i64 (x.rt 5),.int .i64 (x.rt 6),.int .i64 (x.rt 7)]) 1 FA.out;have fs:=fr_setL (g:=g+1+1+1) (.inr (by simp)) ([.int .i64 x.id,.int .i64 0,(.slice none 0 0),(.slice none 0 0),.int .i64 x.par,.int .i64 (x.rt 0),.int .i64 (x.rt 1),.int .i64 (x.rt 2),.int .i64 (x.rt 3),.int .i64 (x.rt 4),.int .i64 (x.rt 5),.int .i64 (x.rt 6),.int .i64 (x.rt 7)]) 1 (Fr.refl wa.heap.size [g+1+1+1] wa);have D4:=zh (by rw [<- hwz];exact d4:Blk wz (g+1+1+1) 215 _);have D2:=zh (by rw [<- hwz];exact d2:Blk wz (g+1) 215 _);have FZ:=zh (by rw [<- hwz];exact fz:Fr w.heap.size [] w wz);have FS:=zh (by rw [<- hwz];exact fs:Fr wa.heap.size [g+1+1+1] wa wz);clear hwz d4 d2 fz fs;have NIN:=zh (nd_bare wz wz.heap.size (⟨x.id,0,x.par,[],[],x.rt⟩:Nd) rfl rfl);have FF:=zh (fresh_nil (g+4));have FP:=zh (fresh_nil (g+4));clear y1 m1 y2 m2 y3 m3 y4 m4 y5 m5 y6 m6 y7 m7 y8 m8 y9 m9 y10 m10 y11 m11 y12 m12 y13 m13 y14 m14 n0 n1 n2 n3 n4 n5 n6 n7 n8 n9 n10 n11 n12 k0 k14 FS;have q0:=D4.out.cell 0;have q1:=D4.out.cell 1;have q2:=D4.out.cell 2;have q3:=D4.out.cell 3;have q4:=D4.out.cell 4;have q5:=D4.out.cell 5;have q6:=D4.out.cell 6;have q7:=D4.out.cell 7;have q8:=D4.out.cell 8;have q9:=D4.out.cell 9;have q10:=D4.out.cell 10;have q11:=D4.out.cell 11;have q12:=D4.out.cell 12;have q13:=D4.out.cell 13;have q14:=D4.out.cell 14;simp at q0 q1 q2 q3 q4 q5 q6 q7 q8 q9 q10 q11 q12 q13 q14;have z0:=D2.out.frozen 0;have z1:=D2.out.frozen 1;have z2:=D2.out.frozen 2;have z3:=D2.out.frozen 3;have z4:=D2.out.frozen 4;have z5:=D2.out.frozen 5;have z6:=D2.out.frozen 6;have z7:=D2.out.frozen 7;have z8:=D2.out.frozen 8;have z9:=D2.out.frozen 9;have z10:=D2.out.frozen 10;have z11:=D2.out.frozen 11;have z12:=D2.out.frozen 12;have z13:=D2.out.frozen 13;have z14:=D2.out.frozen 14;have s0:=D2.out.cell 0;have s1:=D2.out.cell 1;have s2:=D2.out.cell 2;have s3:=D2.out.cell 3;have s4:=D2.out.cell 4;have s5:=D2.out.cell 5;have s6:=D2.out.cell 6;have s7:=D2.out.cell 7;have s8:=D2.out.cell 8;have s9:=D2.out.cell 9;have s10:=D2.out.cell 10;have s11:=D2.out.cell 11;have s12:=D2.out.cell 12;have s13:=D2.out.cell 13;have s14:=D2.out.cell 14;simp at s0 s1 s2 s3 s4 s5 s6 s7 s8 s9 s10 s11 s12 s13 s14;go_wp2_with fail;have be:=blk_setL ([.int .i64 4,.int .i64 x.id,.int .i64 0,(.slice none 0 0),(.slice none 0 0),.int .i64 x.par,.int .i64 (x.rt 0),.int .i64 (x.rt 1),.int .i64 (x.rt 2),.int .i64 (x.rt 3),.int .i64 (x.rt 4),.int .i64 (x.rt 5),.int .i64 (x.rt 6),.int .i64 (x.rt 7),.bool false]) 0 D2.out;simp only [putL,List.setIfInBounds_toArray,List.set_cons_succ,List.set_cons_zero,Nat.reduceAdd] at be;have BE:=zh be;clear be;have fe:=fr_setL (g:=g+1) (.inr (by simp)) ([.int .i64 4,.int .i64 x.id,.int .i64 0,(.slice none 0 0),(.slice none 0 0),.int .i64 x.par,.int .i64 (x.rt 0),.int .i64 (x.rt 1),.int .i64 (x.rt 2),.int .i64 (x.rt 3),.int .i64 (x.rt 4),.int .i64 (x.rt 5),.int .i64 (x.rt 6),.int .i64 (x.rt 7),.bool false]) 0 (Fr.refl wz.heap.size [g+1] wz);have FE:=zh (FZ.out.trans (fe.mono (B':=w.heap.size) (L':=[]) FZ.out.size (by intro k hk hlt;have:=HG.out;simp at hk;omega)));have NE:=zh ((ndin_fresh NIN.out FF.out FP.out fe (Nat.le_refl _) (by intro k hk;simp at hk;omega)).more fe.size);refine bodyPost_ret (results_cell_row rfl _ _ (g+1) 215 (stV (⟨4,⟨x.id,0,x.par,[],[],x.rt⟩,false⟩:Stp) (.slice none 0 0) (.slice none 0 0)) (0,0) _ rfl BE.out Tryz.underlying215 rfl (by kernel_rfl)) rfl (HOUT.out (.slice none 0 0) (.slice none 0 0) _ NE.out (fresh_le FF.out (by have:=HG.out;omega)) (fresh_le FP.out (by have:=HG.out;omega)) FE.out)
 · exact absurd HKD.out e4
theorem clean_0 (kd:Int) (x:Nd) (rs:Bool) (sf sp:Value) (B:Nat) (w:World) (e1:kd ≠ 1) (e2:kd ≠ 2) (e3:kd ≠ 3) (e4:kd ≠ 4) (e5:kd ≠ 5) (h:NdIn w B (x,sf,sp)) (hB:B<=w.heap.size) (h1:x.fr.length<=1000000) (h2:x.pg.length<=1000000) :
  Calls Tryz.prog 180 #[.agg (stA kd x rs sf sp)] w (CleanOut ⟨kd,x,rs⟩ w):=by
 obtain ⟨⟨Af,cf,hf1,hf2⟩,⟨Ap,cp,hp1,hp2⟩⟩:=h;simp only at hf1 hf2 hp1 hp2;subst hf1;subst hp1;obtain ⟨nf,hnf⟩:=nm (x.fr.length);obtain ⟨np,hnp⟩:=nm (x.pg.length);have RP:=zh hp2;have RF:=zh hf2;rw [<- hnf] at RF h1 ⊢;rw [<- hnp] at RP h2 ⊢;have HNF:=zh hnf;have HNP:=zh hnp;obtain ⟨cs,hcs⟩:=nm (cleanS ⟨kd,x,rs⟩);obtain ⟨Q,hQ⟩:=nm (CleanOut ⟨kd,x,rs⟩ w);rw [<- hQ]
 have HOUT := zh (fun (tf tp : Value) (w' : World) (ha : NdIn w' w'.heap.size (cs.nd, tf, tp)) (hb : Fresh w.heap.size tf) (hc : Fresh w.heap.size tp) (hd : Fr w.heap.size [] w w') => (by
  rw [hQ];unfold CleanOut;rw [<- hcs]
  exact ⟨tf,tp,rfl,ha,hb,hc,hd⟩:Q (.returned (.agg (stV cs tf tp))) w'))
 have HCS:=zh hcs;obtain ⟨B1,B2,B3,B4,FA,HSA⟩:=wCl_all w kd x rs (.slice Af nf cf) (.slice Ap np cp);clear hf2 hp2 hnf hnp hcs hQ;go_enter Tryz.func180,Tryz.ntmps180;go_upto_region 3 with fail;generalize hW:wCl w kd x rs (.slice Af nf cf) (.slice Ap np cp)=wa at *;unfold wCl at hW;rw [hW];clear hW;obtain ⟨g,hg⟩:=nm (w.heap.size);rw [<- hg] at B1 B2 B3 B4 HSA
 try rw [<- hg]
 have HG:=zh hg;clear hg;have k0:=B1.out.cell 0;have k14:=B1.out.cell 14;have n0:=B3.out.cell 0;have n1:=B3.out.cell 1;have n2:=B3.out.cell 2;have n3:=B3.out.cell 3;have n4:=B3.out.cell 4;have n5:=B3.out.cell 5;have n6:=B3.out.cell 6;have n7:=B3.out.cell 7;have n8:=B3.out.cell 8;have n9:=B3.out.cell 9;have n10:=B3.out.cell 10;have n11:=B3.out.cell 11;have n12:=B3.out.cell 12;simp at k0 k14 n0 n1 n2 n3 n4 n5 n6 n7 n8 n9 n10 n11 n12;have y1:=B4.out.frozen 1;have y2:=B4.out.frozen 2;have y3:=B4.out.frozen 3;have y4:=B4.out.frozen 4;have y5:=B4.out.frozen 5;have y6:=B4.out.frozen 6;have y7:=B4.out.frozen 7;have y8:=B4.out.frozen 8;have y9:=B4.out.frozen 9;have y10:=B4.out.frozen 10;have y11:=B4.out.frozen 11;have y12:=B4.out.frozen 12;have y13:=B4.out.frozen 13;have y14:=B4.out.frozen 14;have m1:=B4.out.cell 1;have m2:=B4.out.cell 2;have m3:=B4.out.cell 3;have m4:=B4.out.cell 4;have m5:=B4.out.cell 5;have m6:=B4.out.cell 6;have m7:=B4.out.cell 7;have m8:=B4.out.cell 8;have m9:=B4.out.cell 9;have m10:=B4.out.cell 10;have m11:=B4.out.cell 11;have m12:=B4.out.cell 12;have m13:=B4.out.cell 13;have m14:=B4.out.cell 14;simp at m1 m2 m3 m4 m5 m6 m7 m8 m9 m10 m11 m12 m13 m14;have f1:=kd_ne e1;have f2:=kd_ne e2;have f3:=kd_ne e3;have f4:=kd_ne e4;have f5:=kd_ne e5
 obtain rfl:cs=⟨0,⟨0,0,0,[],[],fun _=>0⟩,false⟩:=by
  rw [HCS.out];unfold cleanS;simp [e1,e2,e3,e4,e5]
 clear HCS;have z0:=B2.out.frozen 0;have z1:=B2.out.frozen 1;have z2:=B2.out.frozen 2;have z3:=B2.out.frozen 3;have z4:=B2.out.frozen 4;have z5:=B2.out.frozen 5;have z6:=B2.out.frozen 6;have z7:=B2.out.frozen 7;have z8:=B2.out.frozen 8;have z9:=B2.out.frozen 9;have z10:=B2.out.frozen 10;have z11:=B2.out.frozen 11;have z12:=B2.out.frozen 12;have z13:=B2.out.frozen 13;have z14:=B2.out.frozen 14;have s0:=B2.out.cell 0;have s1:=B2.out.cell 1;have s2:=B2.out.cell 2;have s3:=B2.out.cell 3;have s4:=B2.out.cell 4;have s5:=B2.out.cell 5;have s6:=B2.out.cell 6;have s7:=B2.out.cell 7;have s8:=B2.out.cell 8;have s9:=B2.out.cell 9;have s10:=B2.out.cell 10;have s11:=B2.out.cell 11;have s12:=B2.out.cell 12;have s13:=B2.out.cell 13;have s14:=B2.out.cell 14;simp at s0 s1 s2 s3 s4 s5 s6 s7 s8 s9 s10 s11 s12 s13 s14;go_wp2_with fail;have be:=blk_setL ([.int .i64 0,.int .i64 0,.int .i64 0,.slice none 0 0,.slice none 0 0,.int .i64 0,.int .i64 0,.int .i64 0,.int .i64 0,.int .i64 0,.int .i64 0,.int .i64 0,.int .i64 0,.int .i64 0,.bool false]) 0 B2.out;simp only [putL,List.setIfInBounds_toArray,List.set_cons_succ,List.set_cons_zero,Nat.reduceAdd] at be;have fe:=fr_setL (g:=g+1) (.inr (by simp)) ([.int .i64 0,.int .i64 0,.int .i64 0,.slice none 0 0,.slice none 0 0,.int .i64 0,.int .i64 0,.int .i64 0,.int .i64 0,.int .i64 0,.int .i64 0,.int .i64 0,.int .i64 0,.int .i64 0,.bool false]) 0 (Fr.refl wa.heap.size [g+1] wa);have FE:=zh (FA.out.trans (fe.mono (B':=w.heap.size) (L':=[]) FA.out.size (by intro k hk hlt;have:=HG.out;simp at hk;omega)));refine bodyPost_ret (results_cell_row rfl _ _ (g+1) 215 (stV (⟨0,⟨0,0,0,[],[],fun _=>0⟩,false⟩:Stp) (.slice none 0 0) (.slice none 0 0)) (0,0) _ rfl be Tryz.underlying215 rfl (by kernel_rfl)) rfl (HOUT.out (.slice none 0 0) (.slice none 0 0) _ (nd_bare _ _ _ rfl rfl) (fresh_nil _) (fresh_nil _) FE.out)
theorem clean_any (kd:Int) (x:Nd) (rs:Bool) (sf sp:Value) (B:Nat) (w:World) (h:NdIn w B (x,sf,sp)) (hB:B<=w.heap.size) (h1:x.fr.length<=1000000) (h2:x.pg.length<=1000000) :
  Calls Tryz.prog 180 #[.agg (stA kd x rs sf sp)] w (CleanOut ⟨kd,x,rs⟩ w):=by
 by_cases e1:kd=1
 · exact clean_1 kd x rs sf sp B w e1 h hB h1 h2
 by_cases e2:kd=2
 · exact clean_2 kd x rs sf sp B w e2 h hB h1 h2
 by_cases e3:kd=3
 · exact clean_3 kd x rs sf sp B w e3 h hB h1 h2
 by_cases e4:kd=4
 · exact clean_4 kd x rs sf sp B w e4 h hB h1 h2
 by_cases e5:kd=5
 · exact clean_5 kd x rs sf sp B w e5 h hB h1 h2
 exact clean_0 kd x rs sf sp B w e1 e2 e3 e4 e5 h hB h1 h2
theorem stepf_any (x y:Nd) (sf sp tf tp:Value) (g:Nat) (kd:Int) (rs:Bool) (w:World) (hb:Blk w g 215 (stA kd y rs tf tp)) :
  Calls Tryz.prog 181 #[.agg (ndA x sf sp),.pointer (some ⟨g,0,none⟩)] w fun e w'=>e=.returned (.bool (decide (x.id=y.id)))/\Fr w.heap.size [] w w':=by
 have BX:=zh (Blk.new w 83 (ndA x sf sp));have F1:=zh ((Fr.refl w.heap.size [] w).alloc (Nat.le_refl _) (.cells (ndA x sf sp) 83));have BS:=zh (hb.alloc (.cells (ndA x sf sp) 83));clear hb;go_enter Tryz.func181,Tryz.ntmps181;go_upto_region 1 with fail;generalize w.alloc (.cells (ndA x sf sp) 83)=wa at *;have q0:=BX.out.cell 0;have q1:=BS.out.cell 1;simp at q0 q1;go_wp2_with fail;go_ret;exact ⟨rfl,F1.out⟩
def AtI (M:List Ndm) (id i:Int):Prop:=(i = -1 /\ ∀ m ∈ M,decide (m.1.id=id)=false) \/ ∃ (k:Nat) (m:Ndm),i=(k:Int)/\M[k]?=some m/\decide (m.1.id=id)=true /\ ∀ j y,j < k->M[j]?=some y->decide (y.1.id=id)=false
theorem change_any (gw gr n c:Nat) (kd:Int) (y:Nd) (rs:Bool) (sf sp:Value) (i:Int) (M:List Ndm) (w:World) (h:Wk gw gr n c kd y rs sf sp i M w) (hk:kd=1 \/ kd=3 \/ kd=4 \/ kd=5) (hi:AtI M y.id i) (hu:(idsN (fstN M)).Nodup) (hs:Small M) (hn:n<=20) (h2:y.pg.length<=1000000) :
  Calls Tryz.prog 183 #[.pointer (some ⟨gw,0,none⟩)] w (ChgOut (chgN (fstN M) ⟨kd,y,rs⟩) kd y rs sf sp i gw gr w):=by
 rcases hi with ⟨rfl,hno⟩ | ⟨k,m,rfl,hm,hid,_⟩
 ·
  have:chgN (fstN M) ⟨kd,y,rs⟩=(12,[]):=by
   unfold chgN;rw [show findN (fstN M) y.id=none from findN_none hno];simp only;rw [if_neg (by omega)]
  rw [this];exact change_none gw gr n c kd y rs sf sp (-1) M w h (by omega)
 ·
  have hid:=of_decide_eq_true hid
  rcases hk with rfl | rfl | rfl | rfl
  · exact change_swap gw gr n c k y rs sf sp M m w h hm hid hu h2
  · exact change_remove gw gr n c k y rs sf sp M m w h hm hid hu hs hn
  · exact change_route gw gr n c k y rs sf sp M m w h hm hid hu
  · exact change_link gw gr n c k y rs sf sp M m w h hm hid hu
theorem add_chg (gw gr n c:Nat) (y:Nd) (rs:Bool) (sf sp:Value) (i:Int) (M:List Ndm) (w:World) (h:Wk gw gr n c 2 y rs sf sp i M w) (hi:AtI M y.id i) (hu:(idsN (fstN M)).Nodup) (hn:n<=20) :
  Calls Tryz.prog 182 #[.pointer (some ⟨gw,0,none⟩)] w (ChgOut (chgN (fstN M) ⟨2,y,rs⟩) 2 y rs sf sp i gw gr w):=by
 refine (add_any n c 2 y rs sf sp i gw gr M w h.blk h.own (by omega) h.st.inn h.ne).mono ?_;intro e w' ho
 rcases hi with ⟨rfl,hno⟩ | ⟨k,m,rfl,hm,hid,_⟩
 ·
  have hr:chgN (fstN M) ⟨2,y,rs⟩=if y.kind=0 then (11,[]) else (0,fstN M ++ [y]):=by
   unfold chgN;rw [show findN (fstN M) y.id=none from findN_none hno];simp
  rcases ho with ⟨h0,_⟩ | ⟨_,h1,rfl,hf⟩ | ⟨_,h1,rfl,A',c',hb,hoo,hf⟩
  · omega
  · rw [hr,if_pos h1];exact .inl ⟨by simp,rfl,hf.mono (Nat.le_refl _) (by simp)⟩
  ·
   rw [hr,if_neg h1];refine .inr ⟨rfl,rfl,A',n+1,c',_,hb,hoo,by rw [List.length_append,<- h.num];rfl,fun m hm => ?_,by simp [fstN],hf⟩
   rcases List.mem_append.1 hm with hm | hm
   · exact (h.each m hm).keep hf
   · rw [List.mem_singleton.1 hm];exact h.st.keep hf
 ·
  have hid:=of_decide_eq_true hid
  have hr:chgN (fstN M) ⟨2,y,rs⟩=(13,[]):=by
   unfold chgN;rw [find_here hu hm hid];simp
  rcases ho with ⟨_,rfl,hf⟩ | ⟨h1,_⟩ | ⟨h1,_⟩
  · rw [hr];exact .inl ⟨by simp,rfl,hf.mono (Nat.le_refl _) (by simp)⟩
  · omega
  · omega
theorem chg_clean (N:List Nd) (s:Stp) (h:1<=s.kind/\s.kind<=5):chgN N (cleanS s)=chgN N s/\(cleanS s).kind=s.kind/\(cleanS s).nd.id=s.nd.id:=by
 obtain ⟨kd,y,rs⟩:=s;simp only at h
 rcases (show kd=1 \/ kd=2 \/ kd=3 \/ kd=4 \/ kd=5 by omega) with rfl | rfl | rfl | rfl | rfl <;> exact ⟨rfl,rfl,rfl⟩
theorem clean_small (s:Stp):(cleanS s).nd.fr.length<=s.nd.fr.length/\(cleanS s).nd.pg.length<=s.nd.pg.length:=by
 unfold cleanS
 split
 · exact ⟨by simp,by simp⟩
 split
 · exact ⟨Nat.le_refl _,Nat.le_refl _⟩
 split
 · exact ⟨by simp,by simp⟩
 split
 · exact ⟨by simp,by simp⟩
 split
 · exact ⟨by simp,by simp⟩
 · exact ⟨by simp,by simp⟩
theorem chg_le (N:List Nd) (s:Stp):(chgN N s).2.length<=N.length+1:=by
 unfold chgN;have h1:∀ f,(updN N s.nd.id f).length=N.length:=fun f=>by simp [updN]
 have h2:(delN N s.nd.id).length<=N.length:=List.length_filter_le _ _
 split <;> (try split) <;> (try split) <;> (try split) <;> (try split) <;> (try split) <;> simp [h1] <;> omega
theorem chg_sml {M M':List Ndm} {s:Stp} {K:Nat} (hK:M.length+1<=K) (hs:∀ x ∈ fstN M,x.fr.length<=K/\x.pg.length<=K) (h1:s.nd.fr.length<=K) (h2:s.nd.pg.length<=K) (h:fstN M'=(chgN (fstN M) s).2):M'.length<=K /\ ∀ m ∈ M',m.1.fr.length<=K/\m.1.pg.length<=K:=by
 have hl:M'.length=(fstN M').length:=(by simp [fstN]);refine ⟨?_,fun m hm => ?_⟩
 · rw [hl,h];have:=chg_le (fstN M) s;have:(fstN M).length=M.length:=(by simp [fstN]);omega
 ·
  have hx:m.1 ∈ (chgN (fstN M) s).2:=by rw [<- h];exact List.mem_map.2 ⟨m,hm,rfl⟩
  revert hx
  generalize m.1=x
  have hupd:∀ f:Nd->Nd,(∀ z:Nd,z.fr.length<=K/\z.pg.length<=K->(f z).fr.length<=K/\(f z).pg.length<=K)->x ∈ updN (fstN M) s.nd.id f->x.fr.length<=K/\x.pg.length<=K:=by
   intro f hf hx;unfold updN at hx;obtain ⟨z,hz,rfl⟩:=List.mem_map.1 hx
   by_cases hid:z.id=s.nd.id
   · rw [if_pos hid];exact hf z (hs z hz)
   · rw [if_neg hid];exact hs z hz
  unfold chgN
  split
  ·
   split
   ·
    split
    · simp
    ·
     intro hx
     rcases List.mem_append.1 hx with hx | hx
     · exact hs x hx
     · rw [List.mem_singleton.1 hx];exact ⟨h1,h2⟩
   · simp
  split
  · simp
  split
  ·
   split
   ·
    split
    · exact hupd _ fun z hz=>⟨hz.1,h2⟩
    · simp
   · simp
  split
  ·
   split
   · simp
   · intro hx;exact hs x (List.mem_filter.1 hx).1
  split
  ·
   split
   · simp
   · exact hupd _ fun z hz=>hz
  split
  · exact hupd _ fun z hz=>⟨h1,hz.2⟩
  · simp
def PStepOut (r:Int × List Nd) (w:World) (e:Ending) (w':World):Prop :=
 (r.1 ≠ 0/\e=.returned (.tuple #[.slice none 0 0,.int .i64 r.1])/\Fr w.heap.size [] w w') \/
 (r.1=0/\∃ A c n M,e=.returned (.tuple #[.slice A n c,.int .i64 0])/\Nmd w.heap.size w' A n c M/\fstN M=r.2/\Fr w.heap.size [] w w')
theorem off_low {w:World} {B size n g c:Nat} {A:Option Addr} {xs:List Value} (h:Reads w B size A n xs) (hg:B<=g):Off (some g) (.slice A n c):=by
 intro A' n' c' hv hn ad ha e;injection hv with h1 h2 h3
 subst h1;subst h2;have:=h.apart hg hn ad ha;injection e with e
 exact this e
theorem off_fresh {b g:Nat} {v:Value} (h:Fresh b v) (hg:g < b):Off (some g) v:=by
 intro A n c hv hn ad ha e;have:=h A n c hv hn ad ha;injection e with e
 omega
theorem ndin_low {w:World} {B g:Nat} {m:Ndm} (h:NdIn w B m) (hg:B<=g):Off (some g) m.2.1/\Off (some g) m.2.2:=by
 obtain ⟨⟨A,c,h1,h2⟩,⟨A',c',h3,h4⟩⟩:=h;rw [h1,h3];exact ⟨off_low h2 hg,off_low h4 hg⟩
structure Pre (b gr n c:Nat) (y:Nd) (sf sp:Value) (M:List Ndm) (w:World):Prop where
 own:w.ownsRow 0 83 13 (.slice (some ⟨gr,0,none⟩) n c) n (cellsN M)
 num:n=M.length
 each:∀ m ∈ M,NdIn w w.heap.size m/\Off (some gr) m.2.1/\Off (some gr) m.2.2
 st:NdIn w w.heap.size (y,sf,sp)/\Off (some gr) sf/\Off (some gr) sp
 hi:b<=gr
theorem Pre.wk {b gr n c:Nat} {kd:Int} {y:Nd} {rs:Bool} {sf sp:Value} {i:Int} {M:List Ndm} {w:World} (h:Pre b gr n c y sf sp M w) (t:Nat) (ht:t=316) :
  Wk w.heap.size gr n c kd y rs sf sp i M (w.alloc (.cells (wkA (.slice (some ⟨gr,0,none⟩) n c) kd y rs sf sp i) t)):=by
 subst ht;have hf:=(Fr.refl w.heap.size [] w).alloc (Nat.le_refl _) (.cells (wkA (.slice (some ⟨gr,0,none⟩) n c) kd y rs sf sp i) 316);have hlt:=(h.own.lt gr rfl).2;refine ⟨Blk.new _ _ _,ownsRow_fr h.own hf (fun q hq=>⟨(h.own.lt q hq).2,by simp⟩),h.num,fun m hm => ?_,?_,by omega⟩
 · obtain ⟨h1,h2,h3⟩:=h.each m hm;have:=ndin_low h1 (Nat.le_refl _);exact ⟨(h1.frw hf (Nat.le_refl _) (by simp)).more hf.size,h2,h3,this.1,this.2⟩
 · obtain ⟨h1,h2,h3⟩:=h.st;have:=ndin_low h1 (Nat.le_refl _);exact ⟨(h1.frw hf (Nat.le_refl _) (by simp)).more hf.size,h2,h3,this.1,this.2⟩
theorem pre_one {b gr n c:Nat} {y:Nd} {sf sp:Value} {M:List Ndm} {w1 w2:World} (hb:b<=gr) (ho:w1.ownsRow b 83 13 (.slice (some ⟨gr,0,none⟩) n c) n (cellsN M)) (hn:n=M.length) (hi:NmI b (some gr) w1 M)
  (hs:NdIn w2 w2.heap.size (y,sf,sp)) (h1:Fresh w1.heap.size sf) (h2:Fresh w1.heap.size sp) (hf:Fr w1.heap.size [] w1 w2):Pre b gr n c y sf sp M w2 :=
 ⟨ownsRow_base (ownsRow_fr ho hf (fun q hq=>⟨(ho.lt q hq).2,by simp⟩)) (Nat.zero_le _),hn,fun m hm=>⟨((hi m hm).inn.frw hf (Nat.le_refl _) (by simp)).more hf.size,(hi m hm).o1,(hi m hm).o2⟩,⟨hs,off_fresh h1 (ho.lt gr rfl).2,off_fresh h2 (ho.lt gr rfl).2⟩,hb⟩
theorem Wk.seti {gw gr n c:Nat} {kd:Int} {y:Nd} {rs:Bool} {sf sp:Value} {i:Int} {M:List Ndm} {w:World} (h:Wk gw gr n c kd y rs sf sp i M w) (j:Int):Wk gw gr n c kd y rs sf sp j M (w.setCell ⟨gw,16,none⟩ (.int .i64 j)):=by
 have hf:=(Fr.refl w.heap.size [gw] w).setCell (p:=⟨gw,16,none⟩) (.inr (by simp)) (.int .i64 j);have hf2:=hf.mono (B':=w.heap.size) (L':=[gw,gr]) (Nat.le_refl _) (by intro q hq _;simp at hq;simp [hq]);have hb:=h.blk.set_ 16 (.int .i64 j);simp only [List.setIfInBounds_toArray,List.set_cons_succ,List.set_cons_zero] at hb;exact ⟨hb,ownsRow_fr h.own hf (fun q hq=>⟨(h.own.lt q hq).2,by simp [Value.ownBlock] at hq;simp [<- hq];exact Ne.symm h.ne⟩),h.num,fun m hm=>(h.each m hm).keep hf2,h.st.keep hf2,h.ne⟩
theorem Nmd.low {b b':Nat} {w:World} {A:Option Addr} {n c:Nat} {M:List Ndm} (h:Nmd b w A n c M) (hb:b'<=b):Nmd b' w A n c M :=
 ⟨h.num, ownsRow_base h.own hb, fun m hm => by
  obtain ⟨h1,h2,h3,h4,h5,h6⟩:=h.inn m hm
  exact ⟨h1,h2,h3,fresh_le h4 hb,fresh_le h5 hb,h6⟩⟩
theorem pstep_any (A:Option Addr) (c B n:Nat) (M:List Ndm) (s:Stp) (sf sp:Value) (w:World) (h:Nds w B A n M) (hB:B<=w.heap.size) (hs:Small M) (hst:NdIn w B (s.nd,sf,sp)) (h1:s.nd.fr.length<=1000) (h2:s.nd.pg.length<=1000) (hk:∀ x ∈ fstN M,x.fr.length<=1000/\x.pg.length<=1000) :
  Calls Tryz.prog 145 #[.slice A n c,.agg (stV s sf sp)] w (PStepOut (stepN (fstN M) s) w):=by
 obtain ⟨L,hL⟩:=nm (fstN M);obtain ⟨cv,hcv⟩:=nm (checkN L);obtain ⟨r,hr⟩:=nm (stepN L s);rw [<- hL,<- hr];obtain ⟨kd,y,rs⟩:=s;have hnm:=h.num;obtain ⟨⟨Af,cf,hf1,hf2⟩,⟨Ap,cp,hp1,hp2⟩⟩:=hst;simp only at hf1 hp1 hf2 hp2 h1 h2;subst hf1;subst hp1;have wa0:=(Fr.refl w.heap.size [] w).alloc (Nat.le_refl _) (.cells (stA kd y rs (.slice Af y.fr.length cf) (.slice Ap y.pg.length cp)) 215);have hst2:NdIn w B (y,.slice Af y.fr.length cf,.slice Ap y.pg.length cp):=⟨⟨Af,cf,rfl,hf2⟩,⟨Ap,cp,rfl,hp2⟩⟩;obtain ⟨nf,hnf⟩:=nm (y.fr.length);obtain ⟨np,hnp⟩:=nm (y.pg.length);rw [<- hnf,<- hnp] at wa0 hst2 ⊢;have BS:=zh (Blk.new w 215 (stA kd y rs (.slice Af nf cf) (.slice Ap np cp)));have FA:=zh wa0;obtain ⟨wa,hwa⟩:=nm (w.alloc (.cells (stA kd y rs (.slice Af nf cf) (.slice Ap np cp)) 215));rw [<- hwa] at BS FA;have HCK:=zh (by rw [hcv,hL];exact gcheck_any A c B n M wa (h.frw FA.out hB (by simp)) (Nat.le_trans hB FA.out.size) hs:Calls Tryz.prog 75 #[.slice A n c] wa fun e w'=>e=.returned (.int .i64 cv)/\Fr wa.heap.size [] wa w');have HR:=zh hr;have HCV:=zh hcv;have HL:=zh hL;have H:=zh h;have HS:=zh hs;have HST:=zh hst2;have HK:=zh hk;have HNF:=zh hnf;have HNP:=zh hnp;have HWA:=zh hwa;have HNM:=zh hnm;clear hr hcv hL h hs hst2 hk hf2 hp2 wa0 hnf hnp hwa hnm;go_enter Tryz.func145,Tryz.ntmps145;go_upto_region 1 with fail;rw [<- HWA.out];generalize hgS:w.heap.size=gS at BS;go_wp2_with fail;refine HCK.out.mono ?_;rintro e w1 ⟨rfl,f1⟩;have F1:=zh (FA.out.nx f1);have BS1:=zh (BS.out.fr f1 BS.out.lt (by simp));have hgl:gS < w1.heap.size:=BS1.out.lt;clear f1 HCK HWA BS FA
 by_cases hc:cv=0
 case' neg =>
  have hr1:r=(10,[]):=(by rw [HR.out];unfold stepN;rw [if_pos (by rw [<- HCV.out];exact hc)]);have HR1:=zh hr1;have hcb:=kd_ne hc;clear hr1 hc;go_wp2_with fail;go_ret2;rw [HR1.out];exact .inl ⟨by simp,rfl,F1.out⟩
 subst hc;have k0:=BS1.out.cell 0;simp at k0
 by_cases hk1:kd < 1 \/ 5 < kd
 case' pos =>
  have hr1:r=(11,[]):=(by rw [HR.out];unfold stepN;rw [if_neg (by rw [<- HCV.out];simp),if_pos hk1]);have HR1:=zh hr1;clear hr1
  rcases hk1 with hk1 | hk1
  · go_wp2_with fail;go_ret2;rw [HR1.out];exact .inl ⟨by simp,rfl,F1.out⟩
  ·
   have hk2:¬ kd < 1:=by omega
   go_wp2_with fail;go_ret2;rw [HR1.out];exact .inl ⟨by simp,rfl,F1.out⟩
 have hka:¬ kd < 1:=(by omega);have hkb:¬ 5 < kd:=(by omega);go_upto_region 5 with fail;have hright:RightG L:=checkN_zero.1 HCV.out.symm;have HRT:=zh hright;have hLn:L.length=n:=(by rw [HL.out,HNM.out];simp [fstN]);have hn8:n<=8:=(by rw [<- hLn];exact hright.len)
 have hn1:0 < n:=by
  rw [<- hLn];have:=hright.zero
  rcases Nat.eq_zero_or_pos L.length with h0 | h0
  · rw [List.eq_nil_of_length_eq_zero h0] at this;simp [idsN] at this
  · exact h0
 obtain ⟨cs,hcs⟩:=nm (cleanS ⟨kd,y,rs⟩);obtain ⟨hc1,hc2,hc3⟩:=chg_clean (normL L) ⟨kd,y,rs⟩ (by simp only;omega);have hc4:=clean_small ⟨kd,y,rs⟩;rw [<- hcs] at hc1 hc2 hc3 hc4;simp only at hc2 hc3 hc4;have HCS:=zh hcs
 have HNM1 := zh (fun (wx : World) (hx : Fr w1.heap.size [] w1 wx) => (by
  have FX:=F1.out.nx hx;refine (norm_any A c B n M wx (H.out.frw FX hB (by simp)) (Nat.le_trans hB FX.size) HS.out (by omega)).mono ?_;rintro e w' ⟨A1,c1,n1,M1,hn1',rfl,ho1,hi1,hf1,f1⟩
  have:n1=n:=by
   rw [hn1',<- hLn,show M1.length=(fstN M1).length by simp [fstN],hf1,normL_len,HL.out]
  subst this;obtain ⟨gr,cap,hv,hbg,hlt⟩:=ho1.form hn1;injection hv with hv1 _ hv3
  subst hv1;subst hv3
  exact ⟨gr,c1,M1,rfl,ho1,hi1,by rw [hf1,HL.out],hn1',f1⟩:Calls Tryz.prog 53 #[.slice A n c] wx fun e w'=>∃ gr c1 M1,e=.returned (.slice (some ⟨gr,0,none⟩) n c1)/\w'.ownsRow wx.heap.size 83 13 (.slice (some ⟨gr,0,none⟩) n c1) n (cellsN M1)/\NmI wx.heap.size (some gr) w' M1/\fstN M1=normL L/\n=M1.length/\Fr wx.heap.size [] wx w'))
 have HCL := zh (fun (wx : World) (hx : Fr w1.heap.size [] w1 wx) => (by
  have FX:=F1.out.nx hx;refine (clean_any kd y rs (.slice Af nf cf) (.slice Ap np cp) B wx (HST.out.frw FX hB (by simp)) (Nat.le_trans hB FX.size) (by omega) (by omega)).mono ?_;rintro e w' ⟨tf,tp,rfl,hn',h3,h4,f1⟩;rw [<- HCS.out] at hn';obtain ⟨⟨A1,c1,e1,e2⟩,⟨A2,c2,e3,e4⟩⟩:=hn';simp only at e1 e2 e3 e4;subst e1;subst e3;refine ⟨A1,_,c1,A2,_,c2,?_,⟨⟨A1,c1,rfl,e2⟩,⟨A2,c2,rfl,e4⟩⟩,h3,h4,f1⟩
  rw [<- HCS.out,<- hc2]:Calls Tryz.prog 180 #[.agg (stA kd y rs (.slice Af nf cf) (.slice Ap np cp))] wx fun e w'=>∃ A1 n1 c1 A2 n2 c2,e=.returned (.agg (stA kd cs.nd cs.rs (.slice A1 n1 c1) (.slice A2 n2 c2)))/\NdIn w' w'.heap.size (cs.nd,.slice A1 n1 c1,.slice A2 n2 c2)/\Fresh wx.heap.size (.slice A1 n1 c1)/\Fresh wx.heap.size (.slice A2 n2 c2)/\Fr wx.heap.size [] wx w'))
 have INV:=zh (Fr.refl w1.heap.size [] w1).drew;obtain ⟨cy,hcy⟩:=nm (cs.nd);obtain ⟨crs,hcrs⟩:=nm (cs.rs);rw [<- hcy,<- hcrs] at HCL;rw [<- hcy] at hc3 hc4;have HC1:=zh hc1;have HC3:=zh hc3;have HC4:=zh hc4;have HEQ:=zh (show cs=⟨kd,cy,crs⟩ by rw [hcy,hcrs,<- hc2]);clear hc1 hc2 hc3 hc4 hcs hcy hcrs hright hLn k0;have k0:=BS1.out.cell 0;have k1:=BS1.out.cell 1;have k2:=BS1.out.cell 2;have k3:=BS1.out.cell 3;have k4:=BS1.out.cell 4;have k5:=BS1.out.cell 5;have k6:=BS1.out.cell 6;have k7:=BS1.out.cell 7;have k8:=BS1.out.cell 8;have k9:=BS1.out.cell 9;have k10:=BS1.out.cell 10;have k11:=BS1.out.cell 11;have k12:=BS1.out.cell 12;have k13:=BS1.out.cell 13;have k14:=BS1.out.cell 14;simp at k0 k1 k2 k3 k4 k5 k6 k7 k8 k9 k10 k11 k12 k13 k14
 go_region_law ((rw [if_pos (by rfl)]; go_simp; first
  | (go_at_call 53;refine (HNM1.out _ INV.out).mono ?_;rintro e wn ⟨gr,c1,M1,rfl,ho1,hi1,hf1,hm1,fn⟩;have HO1:=zh ho1;have HI1:=zh hi1;have HF1:=zh hf1;have HM1:=zh hm1;clear ho1 hi1 hf1 hm1;have INV:=zh (INV.out.nx fn);have BS2:=BS1.out.fr INV.out BS1.out.lt (by simp);have k0:=BS2.cell 0;have k1:=BS2.cell 1;have k2:=BS2.cell 2;have k3:=BS2.cell 3;have k4:=BS2.cell 4;have k5:=BS2.cell 5;have k6:=BS2.cell 6;have k7:=BS2.cell 7;have k8:=BS2.cell 8;have k9:=BS2.cell 9;have k10:=BS2.cell 10;have k11:=BS2.cell 11;have k12:=BS2.cell 12;have k13:=BS2.cell 13;have k14:=BS2.cell 14;simp at k0 k1 k2 k3 k4 k5 k6 k7 k8 k9 k10 k11 k12 k13 k14)
  | (go_at_call 180;refine (HCL.out _ INV.out).mono ?_;rintro e wc ⟨A1,n1,c1',A2,n2,c2,rfl,hnc,hc5,hc6,fc⟩;have INV:=zh (INV.out.nx fc));dsimp only))
 all_goals
  have PRE:=zh (pre_one (b:=w1.drew.heap.size) (HO1.out.lt gr rfl).1 HO1.out HM1.out HI1.out hnc hc5 hc6 fc);have hgr:w1.heap.size<=gr:=PRE.out.hi;have FQ:=zh (F1.out.nx INV.out);have BSQ:=zh (BS1.out.fr INV.out BS1.out.lt (by simp));have hwq:w1.heap.size<=wc.heap.size:=INV.out.size;have F1sz:w.heap.size<=w1.heap.size:=F1.out.size;clear fn fc hnc hc5 hc6 INV BS1 BS2 F1 HNM1 HCL HI1 HO1 k0 k1 k2 k3 k4 k5 k6 k7 k8 k9 k10 k11 k12 k13 k14;have WK:=zh (PRE.out.wk (kd:=kd) (rs:=crs) (i:=0) 316 rfl);have BSW:=zh (BSQ.out.alloc (.cells (wkA (.slice (some ⟨gr,0,none⟩) n c1) kd cy crs (.slice A1 n1 c1') (.slice A2 n2 c2) 0) 316));have FW:=zh (FQ.out.alloc FQ.out.size (.cells (wkA (.slice (some ⟨gr,0,none⟩) n c1) kd cy crs (.slice A1 n1 c1') (.slice A2 n2 c2) 0) 316));obtain ⟨wx,hwx⟩:=nm (wc.alloc (.cells (wkA (.slice (some ⟨gr,0,none⟩) n c1) kd cy crs (.slice A1 n1 c1') (.slice A2 n2 c2) 0) 316));obtain ⟨gw,hgw⟩:=nm (wc.heap.size);rw [<- hwx] at WK BSW FW ⊢;rw [<- hgw] at WK
  try rw [<- hgw]
  have hgw2:w1.heap.size<=gw:=(by omega);clear hwx hwq PRE FQ BSQ hgw;have hent:=enters_of Tryz.func181 (by kernel_rfl) rfl;have HIX:=zh (nindex_any 181 #[.pointer (some ⟨gS,0,none⟩)] (fun x=>decide (x.id=y.id)) (some ⟨gr,0,none⟩) c1 wx.heap.size n M1 wx hent (fun m w' _ hf=>stepf_any m.1 y m.2.1 m.2.2 (.slice Af nf cf) (.slice Ap np cp) gS kd rs w' (BSW.out.fr hf BSW.out.lt (by simp))) (by omega) WK.out.nds (Nat.le_refl _));have q0:=WK.out.blk.cell 0;simp at q0;have z16:=WK.out.blk.frozen 16;have c16:=WK.out.blk.cell 16;simp at c16;go_wp2_with fail;refine HIX.out.mono ?_;rintro e w3 ⟨i,rfl,hai,f3⟩;have HAI:=zh (show AtI M1 cy.id i by rw [HC3.out];exact hai);have W3:=zh (WK.out.keep f3);have BS3:=zh (BSW.out.fr f3 BSW.out.lt (by simp));have F3:=zh (FW.out.nx f3);have z16:=W3.out.blk.frozen 16;have c16:=W3.out.blk.cell 16;simp at c16;clear f3 hai HIX WK BSW FW q0 hent;go_upto_region 7 with fail;have W4:=zh (W3.out.seti i);have BS4:=zh (BS3.out.far (p:=⟨gw,16,none⟩) (by simp;omega) (.int .i64 i));have F4:=zh (F3.out.setCell (p:=⟨gw,16,none⟩) (.inl (by have:=F1sz;simp;omega)) (.int .i64 i));clear W3 BS3 F3 c16 z16;generalize w3.setCell ⟨gw,16,none⟩ (.int .i64 i)=w4 at *;have k0:=BS4.out.cell 0;simp at k0;obtain ⟨rc,hrc⟩:=nm (chgN (fstN M1) ⟨kd,y,rs⟩);have HRC:=zh hrc;clear hrc;have HKE:=zh (show kd=2 \/ (kd=1 \/ kd=3 \/ kd=4 \/ kd=5) by omega);have hnod:(idsN (fstN M1)).Nodup:=(by rw [HF1.out];exact ((normL_perm L).map _).nodup_iff.2 HRT.out.uni);have hsm1:Small M1:=small_norm HS.out (by rw [HF1.out,HL.out]);have hk1':∀ x ∈ fstN M1,x.fr.length<=1000/\x.pg.length<=1000:=fun x hx=>HK.out x (by rw [HF1.out,normL_mem,HL.out] at hx;exact hx);have hrcc:chgN (fstN M1) ⟨kd,cy,crs⟩=rc:=(by rw [HRC.out,HF1.out,<- HC1.out,HEQ.out])
  have HADD := zh (fun (h2 : kd = 2) => (by
   subst h2;rw [<- hrcc]
   exact add_chg gw gr n c1 cy crs _ _ i M1 w4 W4.out HAI.out hnod (by omega):Calls Tryz.prog 182 #[.pointer (some ⟨gw,0,none⟩)] w4 (ChgOut rc kd cy crs (.slice A1 n1 c1') (.slice A2 n2 c2) i gw gr w4)))
  have HCHG := zh (fun (h2 : kd = 1 \/ kd = 3 \/ kd = 4 \/ kd = 5) => (by
   rw [<- hrcc]
   exact change_any gw gr n c1 kd cy crs _ _ i M1 w4 W4.out h2 HAI.out hnod hsm1 (by omega) (by have:=HC4.out.2;omega):Calls Tryz.prog 183 #[.pointer (some ⟨gw,0,none⟩)] w4 (ChgOut rc kd cy crs (.slice A1 n1 c1') (.slice A2 n2 c2) i gw gr w4)))
  have HSML:=zh (fun (M':List Ndm) (h:fstN M'=rc.2)=>chg_sml (M:=M1) (M':=M') (s:=⟨kd,y,rs⟩) (K:=1000) (by rw [<- HM1.out];omega) hk1' h1 h2 (by rw [h,HRC.out]))
  have HLEN := zh (fun (M' : List Ndm) (h : fstN M' = rc.2) => (by
   have h3:=chg_le (fstN M1) ⟨kd,y,rs⟩;rw [<- HRC.out,<- h] at h3;simp only [fstN,List.length_map] at h3;rw [<- HM1.out] at h3
   omega:M'.length<=20))
  have HRR := zh (show r = endN rc by
   rw [HR.out,HRC.out,HF1.out];unfold stepN
   rw [if_neg (by rw [<- HCV.out];simp),if_neg hk1])
  have hgwb:¬ gw < w.heap.size:=(by omega);have hgrb:¬ gr < w.heap.size:=(by omega);clear hnod hsm1 hk1' hrcc W4 BS4 HAI HR;obtain ⟨T1,hT1⟩:=nm (Value.slice A1 n1 c1');obtain ⟨T2,hT2⟩:=nm (Value.slice A2 n2 c2);rw [<- hT1,<- hT2] at HADD HCHG;clear hT1 hT2
  rcases HKE.out with hk2 | hk2
  case' inl =>
   have HG:=zh (HADD.out hk2);rw [hk2] at k0;have HK2:=zh hk2;clear hk2 HADD HCHG HKE;go_wp2_with fail;refine HG.out.mono ?_
  case' inr =>
   have HG:=zh (HCHG.out hk2);have hkn:=kd_ne (show kd ≠ 2 by omega);have HK2:=zh hk2;clear hk2 HADD HCHG HKE;go_wp2_with fail;refine HG.out.mono ?_
  all_goals
   rintro e w5 (⟨e1,rfl,f5⟩ | ⟨e1,rfl,A',n',c',M',hb5,ho5,hn5,he5,hf5,f5⟩)
   ·
    have F5 := zh (F4.out.trans (f5.mono (B' := w.heap.size) (L' := []) F4.out.size (by
     intro q hq hlt;simp at hq
     rcases hq with h | h
     · exact absurd hlt (by rw [h];exact hgwb)
     · exact absurd hlt (by rw [h];exact hgrb))))
    have HR1:=zh (show r=(rc.1,[]) by rw [HRR.out];unfold endN;rw [if_pos e1]);have hcb:(rc.1 == 0)=false:=kd_ne e1;have E1:=zh e1;clear f5 HG e1 k0;go_wp2_with fail;go_ret2;rw [HR1.out];exact .inl ⟨E1.out,rfl,F5.out⟩
   ·
    have F5 := zh (F4.out.trans (f5.mono (B' := w.heap.size) (L' := []) F4.out.size (by
     intro q hq hlt;simp at hq
     rcases hq with h | h
     · exact absurd hlt (by rw [h];exact hgwb)
     · exact absurd hlt (by rw [h];exact hgrb))))
    have hs5:=HSML.out M' hf5;have hs5':Small M':=⟨by omega,fun m hm=>⟨by have:=(hs5.2 m hm).1;omega,by have:=(hs5.2 m hm).2;omega⟩⟩;have nd5:Nds w5 w5.heap.size A' n' M':=⟨hn5,Reads.of_own ho5,fun m hm=>(he5 m hm).inn⟩;have hn20:n'<=20:=(by rw [hn5];exact HLEN.out M' hf5);obtain ⟨cv2,hcv2⟩:=nm (checkN rc.2);have HCK2:=zh (by rw [hcv2,<- hf5];exact gcheck_any A' c' w5.heap.size n' M' w5 nd5 (Nat.le_refl _) hs5':Calls Tryz.prog 75 #[.slice A' n' c'] w5 fun e w'=>e=.returned (.int .i64 cv2)/\Fr w5.heap.size [] w5 w');have HNM2:=zh (fun (wx:World) (hx:Fr w5.heap.size [] w5 wx)=>(by rw [<- hf5];exact norm_any A' c' w5.heap.size n' M' wx (nd5.frw hx (Nat.le_refl _) (by simp)) hx.size hs5' hn20:Calls Tryz.prog 53 #[.slice A' n' c'] wx (NormOut rc.2 wx)));have HRE:=zh (show r=if cv2 ≠ 0 then (cv2,[]) else (0,normL rc.2) by rw [HRR.out,hcv2];unfold endN;rw [if_neg (by rw [e1];simp)]);have HB5:=zh hb5;have q0:=hb5.cell 0;simp at q0;clear hs5 hs5' nd5 hn20 hcv2 hb5 ho5 hn5 he5 hf5 f5 e1 HG k0 HRR HSML HLEN;go_wp2_with fail;refine HCK2.out.mono ?_;rintro e w6 ⟨rfl,f6⟩;have F6:=zh (F5.out.nx f6);have HN6:=zh (HNM2.out w6 f6);have q0:=(HB5.out.fr f6 HB5.out.lt (by simp)).cell 0;simp at q0;clear f6 HNM2 HCK2 HB5 F5
    by_cases hc2:cv2=0
    · subst hc2;have HR1:=zh (show r=(0,normL rc.2) by rw [HRE.out];rfl);clear HRE;go_wp2_with fail;refine HN6.out.mono ?_;rintro e w7 ⟨A7,c7,n7,M7,hn7,rfl,ho7,hi7,hf7,f7⟩;have F7:=zh (F6.out.nx f7);have ND7:=zh ((⟨hn7,ho7,hi7⟩:Nmd w6.heap.size w7 A7 n7 c7 M7).low F6.out.size);have HF7:=zh hf7;clear hn7 ho7 hi7 hf7 f7 HN6;go_wp2_with fail;go_ret2;rw [HR1.out];exact .inr ⟨rfl,A7,c7,n7,M7,rfl,ND7.out,HF7.out,F7.out⟩
    · have HR1:=zh (show r=(cv2,[]) by rw [HRE.out,if_pos hc2]);have hcb:=kd_ne hc2;have HC2:=zh hc2;clear HRE hc2;go_wp2_with fail;go_ret2;rw [HR1.out];exact .inl ⟨HC2.out,rfl,F6.out⟩
abbrev Stm:=Stp × Value × Value
def stL (m:Stm):List Value:=(stV m.1 m.2.1 m.2.2).toList
def cellsS (S:List Stm):List Value:=S.flatMap stL
theorem cellsS_length (S:List Stm):(cellsS S).length=S.length * 15:=by
 unfold cellsS
 induction S with
 | nil=>rfl
 | cons x S ih=>rw [List.flatMap_cons,List.length_append,ih];simp [stL];omega
theorem cellsS_get:∀ {S:List Stm} {k:Nat} {m:Stm},S[k]?=some m -> ∀ j,j < 15->(cellsS S)[k * 15+j]?=(stL m)[j]?
 | [],k,x,h,_,_=>by simp at h
 | y :: l,0,x,h,j,hj=>by
  simp at h;subst h;rw [cellsS,List.flatMap_cons,Nat.zero_mul,Nat.zero_add,List.getElem?_append_left (by simp [stL];omega)]
 | y :: l,k+1,x,h,j,hj=>by
  rw [cellsS,List.flatMap_cons,List.getElem?_append_right (by simp [stL];omega)];have ih:=cellsS_get (S:=l) (k:=k) (m:=x) (by simpa using h) j hj;have e:(k+1) * 15+j - (stL y).length=k * 15+j:=(by simp [stL];omega);rw [e];exact ih
structure Sts (w:World) (B:Nat) (A:Option Addr) (n:Nat) (S:List Stm):Prop where
 num:n=S.length
 rd:Reads w B 15 A n (cellsS S)
 inn:∀ m ∈ S,NdIn w B (m.1.nd,m.2.1,m.2.2)
theorem Sts.frw {w w':World} {B B' n:Nat} {A:Option Addr} {L:List Nat} {S:List Stm} (h:Sts w B A n S) (hf:Fr B' L w w') (hB:B<=B') (hL:∀ k ∈ L,B<=k):Sts w' B A n S :=
 ⟨h.num,h.rd.fr hf hB hL,fun m hm=>(h.inn m hm).frw hf hB hL⟩
theorem Sts.more {w:World} {B B' n:Nat} {A:Option Addr} {S:List Stm} (h:Sts w B A n S) (hB:B<=B'):Sts w B' A n S :=
 ⟨h.num,h.rd.more hB,fun m hm=>(h.inn m hm).more hB⟩
theorem Sts.get {w:World} {B n:Nat} {A:Option Addr} {S:List Stm} (h:Sts w B A n S) {k:Nat} {m:Stm} (hk:S[k]?=some m) :
  ∃ b off,A=some ⟨b,off,none⟩/\b < B /\ ∀ j u,(stL m)[j]?=some u->w.cell? ⟨b,off+k * 15+j,none⟩=some u:=by
 have hkn:k < n:=by
  rw [h.num]
  rcases Nat.lt_or_ge k S.length with h | h
  · exact h
  · rw [List.getElem?_eq_none h] at hk;cases hk
 obtain ⟨b,off,e,hb,hc⟩:=h.rd.2 (by omega);refine ⟨b,off,e,hb,fun j u hu => ?_⟩
 have hj:j < 15:=by
  rcases Nat.lt_or_ge j 15 with h | h
  · exact h
  · rw [List.getElem?_eq_none (by simp [stL];omega)] at hu;cases hu
 rw [Nat.add_assoc];exact hc _ u (by rw [cellsS_get hk j hj];exact hu)
def SmallS (S:List Stm):Prop:=∀ m ∈ S,m.1.nd.fr.length<=1000/\m.1.nd.pg.length<=1000
def fstS (S:List Stm):List Stp:=S.map (·.1)
theorem right_small {L:List Nd} (h:RightG L):∀ x ∈ L,x.fr.length<=1000/\x.pg.length<=1000:=by
 intro x hx;obtain ⟨_,_,hk,_,_⟩:=nodeB_iff.1 (h.each x hx)
 have hpg:∀ l,(chkL l).isSome=true->l.length<=1000:=by
  intro l hl;obtain ⟨s,hs⟩:=Option.isSome_iff_exists.1 hl;unfold chkL at hs
  by_cases hf:fitsB l=true
  · unfold fitsB at hf;rw [Bool.and_eq_true] at hf;have:=of_decide_eq_true hf.1;omega
  · rw [if_neg hf] at hs;cases hs
 unfold kindB at hk
 split at hk
 · simp only [Bool.and_eq_true,decide_eq_true_eq] at hk;omega
 split at hk
 · simp only [Bool.and_eq_true,decide_eq_true_eq] at hk;exact ⟨by omega,hpg _ hk.2.2⟩
 split at hk
 · simp only [Bool.and_eq_true,decide_eq_true_eq] at hk;omega
 · cases hk
theorem step_right {L:List Nd} {s:Stp} (h:(stepN L s).1=0):RightG (stepN L s).2:=by
 obtain ⟨h1,h2⟩:=(step_agree (List.Perm.refl L) s).2 h;rw [h2];exact right_perm (normL_perm _).symm h1
theorem small_right {M:List Ndm} (h:RightG (fstN M)):Small M:=by
 refine ⟨?_,fun m hm => ?_⟩
 · have:=h.len;simp only [fstN,List.length_map] at this;omega
 · have:=right_small h m.1 (List.mem_map.2 ⟨m,hm,rfl⟩);omega
def ApOut (r:Int × Nat × List Nd) (w:World) (e:Ending) (w':World):Prop :=
 (r.1 ≠ 0/\e=.returned (.tuple #[.slice none 0 0,.int .i64 (r.2.1:Int),.int .i64 r.1])/\Fr w.heap.size [] w w') \/
 (r.1=0/\∃ A c n M,e=.returned (.tuple #[.slice A n c,.int .i64 0,.int .i64 0])/\Nmd w.heap.size w' A n c M/\fstN M=r.2.2/\RightG r.2.2/\Fr w.heap.size [] w w')
structure GoJ (L:List Nd) (P:List Stp) (A:Option Addr) (c n:Nat) (w wr:World) (k:Nat) (Al:Option Addr) (nl cl:Nat) (Ml:List Ndm):Prop where
 fr:Fr w.heap.size [] w wr
 nds:Nds wr wr.heap.size Al nl Ml
 rt:RightG (fstN Ml)
 go:goN 0 L P=goN k (fstN Ml) (P.drop k)
 nmd:0 < k->Nmd w.heap.size wr Al nl cl Ml
theorem GoJ.next {L:List Nd} {P:List Stp} {A:Option Addr} {c n:Nat} {w wr w':World} {k:Nat} {Al:Option Addr} {nl cl:Nat} {Ml:List Ndm} (h:GoJ L P A c n w wr k Al nl cl Ml) {s:Stp} (hs:P[k]?=some s) (h0:(stepN (fstN Ml) s).1=0)
  {A':Option Addr} {n' c':Nat} {M':List Ndm} (hn:Nmd wr.heap.size w' A' n' c' M') (hf:fstN M'=(stepN (fstN Ml) s).2) (hfr:Fr wr.heap.size [] wr w'):GoJ L P A c n w w' (k+1) A' n' c' M':=by
 refine ⟨h.fr.nx hfr,hn.nds (L:=[]) (Fr.refl _ _ _) (by simp),by rw [hf];exact step_right h0,?_,fun _=>hn.low h.fr.size⟩;rw [h.go]
 have hk:k < P.length:=by
  rcases Nat.lt_or_ge k P.length with h | h
  · exact h
  · rw [List.getElem?_eq_none h] at hs;cases hs
 have hd:P.drop k=s :: P.drop (k+1):=by
  rw [List.drop_eq_getElem_cons hk]
  congr 1
  rw [List.getElem?_eq_getElem hk] at hs;injection hs
 rw [hd]
 show (if (stepN (fstN Ml) s).1 ≠ 0 then _ else _)=_
 rw [if_neg (by rw [h0];simp),hf]
theorem GoJ.stop {L:List Nd} {P:List Stp} {A:Option Addr} {c n:Nat} {w wr:World} {k:Nat} {Al:Option Addr} {nl cl:Nat} {Ml:List Ndm} (h:GoJ L P A c n w wr k Al nl cl Ml) {s:Stp} (hs:P[k]?=some s) (h0:(stepN (fstN Ml) s).1 ≠ 0):goN 0 L P=((stepN (fstN Ml) s).1,k+1,[]):=by
 rw [h.go]
 have hk:k < P.length:=by
  rcases Nat.lt_or_ge k P.length with h | h
  · exact h
  · rw [List.getElem?_eq_none h] at hs;cases hs
 have hd:P.drop k=s :: P.drop (k+1):=by
  rw [List.drop_eq_getElem_cons hk]
  congr 1
  rw [List.getElem?_eq_getElem hk] at hs;injection hs
 rw [hd]
 show (if (stepN (fstN Ml) s).1 ≠ 0 then _ else _)=_
 rw [if_pos h0]
theorem papply_any (A A2:Option Addr) (c c2 B n n2:Nat) (M:List Ndm) (S:List Stm) (w:World) (h:Nds w B A n M) (hB:B<=w.heap.size) (hs:Small M) (hS:Sts w B A2 n2 S) (hss:SmallS S) (hn2:n2<=1000000) :
  Calls Tryz.prog 98 #[.slice A n c,.slice A2 n2 c2] w (ApOut (applyN (fstN M) (fstS S)) w):=by
 obtain ⟨L,hL⟩:=nm (fstN M);obtain ⟨P,hP⟩:=nm (fstS S);obtain ⟨cv,hcv⟩:=nm (checkN L);obtain ⟨r,hr⟩:=nm (applyN L P);rw [<- hL,<- hP,<- hr];have hpl:P.length=n2:=(by rw [hP,hS.num];simp [fstS]);have HCK:=zh (by rw [hcv,hL];exact gcheck_any A c B n M w h hB hs:Calls Tryz.prog 75 #[.slice A n c] w fun e w'=>e=.returned (.int .i64 cv)/\Fr w.heap.size [] w w');have HR:=zh hr;have HCV:=zh hcv;have HL:=zh hL;have HP:=zh hP;have HPL:=zh hpl;have H:=zh h;have HSS:=zh hss;have HST:=zh hS;have HNU:=zh hS.num;clear hr hcv hL hP h hs hS hss hpl;go_enter Tryz.func98,Tryz.ntmps98;go_wp2_with fail;refine HCK.out.mono ?_;rintro e w1 ⟨rfl,f1⟩;have F1:=zh f1;clear f1 HCK
 by_cases hc:cv=0
 case' neg =>
  have HR1:=zh (show r=(10,0,[]) by rw [HR.out];unfold applyN;rw [if_pos (by rw [<- HCV.out];exact hc)]);have hcb:=kd_ne hc;clear hc;go_wp2_with fail;go_ret3;rw [HR1.out];exact .inl ⟨by simp,rfl,F1.out⟩
 subst hc
 by_cases hk1:n2 < 1 \/ 6 < n2
 case' pos =>
  have HR1:=zh (show r=(11,0,[]) by rw [HR.out];unfold applyN;rw [if_neg (by rw [<- HCV.out];simp),if_pos (by rw [HPL.out];exact hk1)])
  rcases hk1 with hk1 | hk1
  ·
   obtain rfl:n2=0:=by omega
   go_wp2_with fail;go_ret3;rw [HR1.out];exact .inl ⟨by simp,rfl,F1.out⟩
  ·
   have hk2:¬ ((n2:Int) < 1):=by omega
   have hk3:(6:Int) < (n2:Int):=(by omega);go_wp2_with fail;go_ret3;rw [HR1.out];exact .inl ⟨by simp,rfl,F1.out⟩
 have hka:¬ ((n2:Int) < 1):=(by omega);have hkb:¬ ((6:Int) < (n2:Int)):=(by omega);have hn2p:0 < n2:=(by omega);have hright:RightG L:=checkN_zero.1 HCV.out.symm;have J0:=zh (show GoJ L P A c n w w1 0 A n c M from ⟨F1.out,((H.out.frw F1.out hB (by simp)).more (Nat.le_trans hB F1.out.size)),by rw [<- HL.out];exact hright,by rw [<- HL.out];rfl,fun h=>absurd h (by omega)⟩);have HRR:=zh (show r=goN 0 L P by rw [HR.out];unfold applyN;rw [if_neg (by rw [<- HCV.out];simp),if_neg (by rw [HPL.out];exact hk1)]);clear hright HR HCV hk1;go_wp2_with fail;go_loopg [0,8,26] n2 (fun g s0 s8 s26 wr=>∃ (k:Nat) (Al:Option Addr) (nl cl:Nat) (Ml:List Ndm),k<=n2/\g=n2 - k/\s26=.int .i64 k/\(s8=undef \/ ∃ a,s8=.pointer a)/\s0=.slice Al nl cl/\Hid (GoJ L P A c n w wr k Al nl cl Ml))
 case atStart=>exact ⟨0,A,n,c,M,Nat.zero_le _,rfl,rfl,.inl rfl,rfl,J0⟩
 case round =>
  clear J0 F1;obtain ⟨k,Al,nl,cl,Ml,hk,rfl,rfl,h8,rfl,J⟩:=hrel
  by_cases hkn:k < n2
  ·
   have hki:(k:Int) < (n2:Int):=by omega
   have hk0:(0:Int)<=(k:Int):=(by omega);obtain ⟨m,hx⟩:∃ m,S[k]?=some m:=⟨_,List.getElem?_eq_getElem (by rw [<- HNU.out];exact hkn)⟩;have HSW:=HST.out.frw J.out.fr hB (by simp);obtain ⟨b1,o1,rfl,hb1,hc1⟩:=HSW.get hx;have hin:=HSW.inn m (List.mem_of_getElem? hx);have hsm:=HSS.out m (List.mem_of_getElem? hx);have HPK:=zh (show P[k]?=some m.1 by rw [HP.out];simp [fstS,hx]);obtain ⟨⟨kd,y,rs⟩,sf,sp⟩:=m;simp only at hin hsm HPK;obtain ⟨⟨Af,cf,hf1,hf2⟩,⟨Ap,cp,hp1,hp2⟩⟩:=hin;simp only at hf1 hp1 hf2 hp2;subst hf1;subst hp1;have hin2:NdIn wr B (y,.slice Af y.fr.length cf,.slice Ap y.pg.length cp):=⟨⟨Af,cf,rfl,hf2⟩,⟨Ap,cp,rfl,hp2⟩⟩;clear hf2 hp2;obtain ⟨nf,hnf⟩:=nm (y.fr.length);obtain ⟨np,hnp⟩:=nm (y.pg.length);rw [<- hnf,<- hnp] at hin2 hc1;have p0:=hc1 0 (.int .i64 kd) rfl;have p1:=hc1 1 (.int .i64 y.id) rfl;have p2:=hc1 2 (.int .i64 y.kind) rfl;have p3:=hc1 3 (.slice Af nf cf) rfl;have p4:=hc1 4 (.slice Ap np cp) rfl;have p5:=hc1 5 (.int .i64 y.par) rfl;have p6:=hc1 6 (.int .i64 (y.rt 0)) rfl;have p7:=hc1 7 (.int .i64 (y.rt 1)) rfl;have p8:=hc1 8 (.int .i64 (y.rt 2)) rfl;have p9:=hc1 9 (.int .i64 (y.rt 3)) rfl;have p10:=hc1 10 (.int .i64 (y.rt 4)) rfl;have p11:=hc1 11 (.int .i64 (y.rt 5)) rfl;have p12:=hc1 12 (.int .i64 (y.rt 6)) rfl;have p13:=hc1 13 (.int .i64 (y.rt 7)) rfl;have p14:=hc1 14 (.bool rs) rfl;simp only [Nat.add_zero] at p0;have HIN:=zh hin2;have HSM:=zh hsm;clear hc1 hx HSW hsm hin2 hnf hnp;have fa:=(Fr.refl wr.heap.size [] wr).alloc (Nat.le_refl _) (.cells (stA kd y rs (.slice Af nf cf) (.slice Ap np cp)) 215);have BX:=zh (Blk.new wr 215 (stA kd y rs (.slice Af nf cf) (.slice Ap np cp)));obtain ⟨sr,hsr⟩:=nm (stepN (fstN Ml) ⟨kd,y,rs⟩);have HPS:=zh (by rw [hsr];exact pstep_any Al cl wr.heap.size nl Ml ⟨kd,y,rs⟩ (.slice Af nf cf) (.slice Ap np cp) (wr.alloc (.cells (stA kd y rs (.slice Af nf cf) (.slice Ap np cp)) 215)) (J.out.nds.frw fa (Nat.le_refl _) (by simp)) fa.size (small_right J.out.rt) ((HIN.out.frw fa (Nat.le_trans hB J.out.fr.size) (by simp)).more (Nat.le_trans hB J.out.fr.size)) HSM.out.1 HSM.out.2 (right_small J.out.rt):Calls Tryz.prog 145 #[.slice Al nl cl,.agg (stA kd y rs (.slice Af nf cf) (.slice Ap np cp))] (wr.alloc (.cells (stA kd y rs (.slice Af nf cf) (.slice Ap np cp)) 215)) (PStepOut sr (wr.alloc (.cells (stA kd y rs (.slice Af nf cf) (.slice Ap np cp)) 215))));have HSR:=zh hsr;have HFA:=zh fa;clear hsr fa hb1;go_upto_region 8 with fail;clear p0 p1 p2 p3 p4 p5 p6 p7 p8 p9 p10 p11 p12 p13 p14;generalize wr.alloc (.cells (stA kd y rs (.slice Af nf cf) (.slice Ap np cp)) 215)=wa at *;generalize wr.heap.size=gx at BX;have q0:=BX.out.cell 0;have q1:=BX.out.cell 1;have q2:=BX.out.cell 2;have q3:=BX.out.cell 3;have q4:=BX.out.cell 4;have q5:=BX.out.cell 5;have q6:=BX.out.cell 6;have q7:=BX.out.cell 7;have q8:=BX.out.cell 8;have q9:=BX.out.cell 9;have q10:=BX.out.cell 10;have q11:=BX.out.cell 11;have q12:=BX.out.cell 12;have q13:=BX.out.cell 13;have q14:=BX.out.cell 14;simp at q0 q1 q2 q3 q4 q5 q6 q7 q8 q9 q10 q11 q12 q13 q14;go_wp2_with fail;refine HPS.out.mono ?_;rintro e w2 (⟨e1,rfl,f2⟩ | ⟨e1,A',c',n',M',rfl,hn',hf',f2⟩)
   · have F2:=zh (J.out.fr.trans ((HFA.out.nx f2).mono (B':=w.heap.size) (L':=[]) J.out.fr.size (by simp)));have HR1:=zh (show r=(sr.1,k+1,[]) by rw [HRR.out,J.out.stop HPK.out (by rw [<- HSR.out];exact e1),<- HSR.out]);have E1:=zh e1;have hcb:=kd_ne e1;have hwk:IntKind.i64.wrap ((k:Int)+1)=(k:Int)+1:=(by rw [IntKind.wrap_i64];omega);clear f2 e1 HPS HFA J;go_wp2_with fail;go_ret3;rw [HR1.out];exact .inl ⟨E1.out,by simp,F2.out⟩
   ·
    have J2:=zh (J.out.next HPK.out (by rw [<- HSR.out];exact e1) (hn'.low HFA.out.size) (by rw [hf',HSR.out]) (HFA.out.nx f2));clear hn' hf' f2 HPS HFA J e1;go_wp2_with fail;go_roundg (n2 - (k+1))
    case measure=>omega
    case rel=>exact ⟨k+1,A',n',c',M',by omega,rfl,by go_num,.inr ⟨_,rfl⟩,rfl,J2⟩
  ·
   obtain rfl:k=n2:=by omega
   have HR1 := zh (show r = (0, 0, fstN Ml) by
    rw [HRR.out,J.out.go,List.drop_eq_nil_of_le (by rw [HPL.out];exact Nat.le_refl _)]
    rfl)
   have ND:=zh (J.out.nmd (by omega));go_wp2_with fail;go_ret3;rw [HR1.out];exact .inr ⟨rfl,Al,cl,nl,Ml,rfl,ND.out,rfl,J.out.rt,J.out.fr⟩

def parP (p:Int):Int:=min (max p 1) 3
theorem parP_in (p:Int):1<=parP p/\parP p<=3:=by unfold parP;omega
def rtk (k:Nat) (p:Int) (g:Nat):Int:=if g < k then (g:Int) % p else 0
def pasN (k:Nat) (p:Int):Nd:=⟨0,0,p,[],[],rtk k p⟩
def pasS (p:Int):Nd:=⟨1,2,p,[0],[],rtk 8 p⟩
def passL (p:Int):List Nd:=[pasN 8 (parP p),pasS (parP p)]
theorem pas_set (p:Int) (k:Nat) (hk:k < 8):(ndA (pasN k p) (.slice none 0 0) (.slice none 0 0)).setIfInBounds (5+k) (.int .i64 ((k:Int) % p))=ndA (pasN (k+1) p) (.slice none 0 0) (.slice none 0 0):=by
 rcases (show k=0 \/ k=1 \/ k=2 \/ k=3 \/ k=4 \/ k=5 \/ k=6 \/ k=7 by omega) with rfl | rfl | rfl | rfl | rfl | rfl | rfl | rfl <;> simp [ndA,pasN,rtk]
theorem pas_get (p:Int) (k:Nat) (hk:k < 8):(ndA (pasN k p) (.slice none 0 0) (.slice none 0 0))[5+k]?=some (.int .i64 0):=by
 rcases (show k=0 \/ k=1 \/ k=2 \/ k=3 \/ k=4 \/ k=5 \/ k=6 \/ k=7 by omega) with rfl | rfl | rfl | rfl | rfl | rfl | rfl | rfl <;> simp [ndA,pasN,rtk]
theorem owns_blk {w:World} {g base e size n:Nat} {cs:Array Value} (h:Blk w g e cs) (hs:cs.size=n * size) (hb:base<=g) (hn:n<=maxLen):w.ownsRow base e size (.slice (some ⟨g,0,none⟩) n n) n cs.toList:=by
 refine ⟨by simpa using hs,.inr ⟨g,n,cs,rfl,hb,h,Nat.le_refl _,hn,hs,?_⟩⟩;exact List.take_of_length_le (by simp [hs])
def PassOut (p:Int) (w:World) (e:Ending) (w':World):Prop :=
 ∃ A c M,e=.returned (.slice A 2 c)/\Nmd w.heap.size w' A 2 c M/\fstN M=passL p/\Fr w.heap.size [] w w'
theorem pass_any (par:Int) (w:World):Calls Tryz.prog 21 #[.int .i64 par] w (PassOut par w):=by
 obtain ⟨p,hp⟩:=nm (min (max par 1) 3);have HP:=zh (show p=parP par from hp);have hp1:1<=p:=(by omega);have hp3:p<=3:=(by omega);have BA0:=Blk.new w 83 (ndA (pasN 0 p) (.slice none 0 0) (.slice none 0 0));have F0:=(Fr.refl w.heap.size [] w).alloc (Nat.le_refl _) (.cells (ndA (pasN 0 p) (.slice none 0 0) (.slice none 0 0)) 83);have HB:=zh BA0;have HF:=zh F0;clear BA0 F0;go_enter Tryz.func21,Tryz.ntmps21;go_wp2_with fail;rw [<- hp];have HB1:Hid (Blk (w.alloc (.cells #[.int .i64 0,.int .i64 0,.slice none 0 0,.slice none 0 0,.int .i64 p,.int .i64 0,.int .i64 0,.int .i64 0,.int .i64 0,.int .i64 0,.int .i64 0,.int .i64 0,.int .i64 0] 83)) w.heap.size 83 (ndA (pasN 0 p) (.slice none 0 0) (.slice none 0 0))):=HB;have HF1:Hid (Fr w.heap.size [] w (w.alloc (.cells #[.int .i64 0,.int .i64 0,.slice none 0 0,.slice none 0 0,.int .i64 p,.int .i64 0,.int .i64 0,.int .i64 0,.int .i64 0,.int .i64 0,.int .i64 0,.int .i64 0,.int .i64 0] 83))):=HF;clear hp HB HF;generalize w.alloc (.cells #[.int .i64 0,.int .i64 0,.slice none 0 0,.slice none 0 0,.int .i64 p,.int .i64 0,.int .i64 0,.int .i64 0,.int .i64 0,.int .i64 0,.int .i64 0,.int .i64 0,.int .i64 0] 83)=w1 at *;go_loopg [4,11] 8 (fun g s4 s11 wr=>∃ k:Nat,k<=8/\g=8 - k/\s11=.int .i64 k/\Hid (Blk wr w.heap.size 83 (ndA (pasN k p) (.slice none 0 0) (.slice none 0 0)))/\Hid (Fr w.heap.size [] w wr))
 case atStart=>exact ⟨0,Nat.zero_le _,rfl,rfl,HB1,HF1⟩
 case round =>
  obtain ⟨k,hk,rfl,rfl,HB,HF⟩:=hrel
  by_cases hk8:k < 8
  ·
   have hki:(k:Int) < 8:=by omega
   have hk0:(0:Int)<=(k:Int):=(by omega);have c5:=HB.out.cell (5+k);rw [pas_get p k hk8] at c5;have z5:=HB.out.frozen (5+k);have HB2:=zh (HB.out.set_ (5+k) (.int .i64 ((k:Int) % p)));rw [pas_set p k hk8] at HB2;have HF2:=zh (HF.out.setCell (p:=⟨w.heap.size,5+k,none⟩) (.inl (Nat.le_refl _)) (.int .i64 ((k:Int) % p)));have hmod:(k:Int).tmod p=(k:Int) % p:=Int.tmod_eq_emod_of_nonneg hk0;go_wp2_with fail;go_roundg (8 - (k+1))
   case measure=>omega
   case rel=>exact ⟨k+1,by omega,rfl,by go_num,HB2,HF2⟩
  ·
   obtain rfl:k=8:=by omega
   obtain ⟨x,hx⟩:=nm (pasN 8 p);have HX:=zh hx;rw [<- hx] at HB;clear hx;have q0:=HB.out.cell 0;have q1:=HB.out.cell 1;have q2:=HB.out.cell 2;have q3:=HB.out.cell 3;have q4:=HB.out.cell 4;have q5:=HB.out.cell 5;have q6:=HB.out.cell 6;have q7:=HB.out.cell 7;have q8:=HB.out.cell 8;have q9:=HB.out.cell 9;have q10:=HB.out.cell 10;have q11:=HB.out.cell 11;have q12:=HB.out.cell 12;simp at q0 q1 q2 q3 q4 q5 q6 q7 q8 q9 q10 q11 q12;have BA:=zh (HB.out.alloc (.cells (ndA x (.slice none 0 0) (.slice none 0 0)) 83));have BB:=zh (Blk.new wr 83 (ndA x (.slice none 0 0) (.slice none 0 0)));have F2:=zh (HF.out.alloc HF.out.size (.cells (ndA x (.slice none 0 0) (.slice none 0 0)) 83));have hlt:=HF.out.size;have hga:=HB.out.lt;clear HB HF;go_upto_region 9 with fail;clear q0 q1 q2 q3 q4 q5 q6 q7 q8 q9 q10 q11 q12;generalize wr.alloc (.cells (ndA x (.slice none 0 0) (.slice none 0 0)) 83)=w2 at *;generalize wr.heap.size=gb at *;have hgb:=BB.out.lt;have b0:=BB.out.cell 0;have b1:=BB.out.cell 1;have b2:=BB.out.cell 2;have z0:=BB.out.frozen 0;have z1:=BB.out.frozen 1;have z2:=BB.out.frozen 2;simp at b0 b1 b2;go_upto_region 10 with fail;obtain ⟨y,hy⟩:=nm (⟨1,2,x.par,[0],[],x.rt⟩:Nd);have BA3:=zh ((((BA.out.far (p:=⟨gb,0,none⟩) (by simp;omega) (.int .i64 1)).far (p:=⟨gb,1,none⟩) (by simp;omega) (.int .i64 2)).far (p:=⟨gb,2,none⟩) (by simp;omega) (.slice (some ⟨w2.heap.size,0,none⟩) 1 1)).alloc (.cells #[.int .i64 0] 3))
   have BB3 := zh (show Blk ((((w2.setCell ⟨gb, 0, none⟩ (.int .i64 1)).setCell ⟨gb, 1, none⟩ (.int .i64 2)).setCell ⟨gb, 2, none⟩ (.slice (some ⟨w2.heap.size, 0, none⟩) 1 1)).alloc (.cells #[.int .i64 0] 3)) gb 83 (ndA y (.slice (some ⟨w2.heap.size, 0, none⟩) 1 1) (.slice none 0 0)) by
    have:=(((BB.out.set_ 0 (.int .i64 1)).set_ 1 (.int .i64 2)).set_ 2 (.slice (some ⟨w2.heap.size,0,none⟩) 1 1)).alloc (.cells #[.int .i64 0] 3);rw [hy]
    simpa using this)
   have BC0:=Blk.new (((w2.setCell ⟨gb,0,none⟩ (.int .i64 1)).setCell ⟨gb,1,none⟩ (.int .i64 2)).setCell ⟨gb,2,none⟩ (.slice (some ⟨w2.heap.size,0,none⟩) 1 1)) 3 #[.int .i64 0];rw [show (((w2.setCell ⟨gb,0,none⟩ (.int .i64 1)).setCell ⟨gb,1,none⟩ (.int .i64 2)).setCell ⟨gb,2,none⟩ (.slice (some ⟨w2.heap.size,0,none⟩) 1 1)).heap.size=w2.heap.size by simp [World.setCell]] at BC0;have BC3:=zh BC0;have F3:=zh ((((F2.out.setCell (p:=⟨gb,0,none⟩) (.inl hlt) (.int .i64 1)).setCell (p:=⟨gb,1,none⟩) (.inl hlt) (.int .i64 2)).setCell (p:=⟨gb,2,none⟩) (.inl hlt) (.slice (some ⟨w2.heap.size,0,none⟩) 1 1)).alloc (by have:=F2.out.size;simp [World.setCell];exact this) (.cells #[.int .i64 0] 3));have HY:=zh hy;clear BA BB F2 b0 b1 b2 z0 z1 z2 BC0 hy;generalize (((w2.setCell ⟨gb,0,none⟩ (.int .i64 1)).setCell ⟨gb,1,none⟩ (.int .i64 2)).setCell ⟨gb,2,none⟩ (.slice (some ⟨w2.heap.size,0,none⟩) 1 1)).alloc (.cells #[.int .i64 0] 3)=w3 at *;generalize w2.heap.size=g2 at *;have a0:=BA3.out.cell 0;have a1:=BA3.out.cell 1;have a2:=BA3.out.cell 2;have a3:=BA3.out.cell 3;have a4:=BA3.out.cell 4;have a5:=BA3.out.cell 5;have a6:=BA3.out.cell 6;have a7:=BA3.out.cell 7;have a8:=BA3.out.cell 8;have a9:=BA3.out.cell 9;have a10:=BA3.out.cell 10;have a11:=BA3.out.cell 11;have a12:=BA3.out.cell 12;simp at a0 a1 a2 a3 a4 a5 a6 a7 a8 a9 a10 a11 a12;have b0:=BB3.out.cell 0;have b1:=BB3.out.cell 1;have b2:=BB3.out.cell 2;have b3:=BB3.out.cell 3;have b4:=BB3.out.cell 4;have b5:=BB3.out.cell 5;have b6:=BB3.out.cell 6;have b7:=BB3.out.cell 7;have b8:=BB3.out.cell 8;have b9:=BB3.out.cell 9;have b10:=BB3.out.cell 10;have b11:=BB3.out.cell 11;have b12:=BB3.out.cell 12;simp at b0 b1 b2 b3 b4 b5 b6 b7 b8 b9 b10 b11 b12;go_wp2_with fail;go_ret;have hx:=HX.out;have hy:=HY.out;subst hx;have hg2:w.heap.size<=g2:=(by omega);have B4:=Blk.new w3 83 (ndA (pasN 8 p) (.slice none 0 0) (.slice none 0 0) ++ ndA y (.slice (some ⟨g2,0,none⟩) 1 1) (.slice none 0 0));have BC4:=BC3.out.alloc (.cells (ndA (pasN 8 p) (.slice none 0 0) (.slice none 0 0) ++ ndA y (.slice (some ⟨g2,0,none⟩) 1 1) (.slice none 0 0)) 83);have F4:=F3.out.alloc F3.out.size (.cells (ndA (pasN 8 p) (.slice none 0 0) (.slice none 0 0) ++ ndA y (.slice (some ⟨g2,0,none⟩) 1 1) (.slice none 0 0)) 83);have hc3:=BC3.out.lt;have h3:=F3.out.size;refine ⟨some ⟨w3.heap.size,0,none⟩,2,[(pasN 8 p,.slice none 0 0,.slice none 0 0),(y,.slice (some ⟨g2,0,none⟩) 1 1,.slice none 0 0)],rfl,⟨rfl,owns_blk B4 rfl h3 (by unfold maxLen;omega),?_⟩,?_,F4⟩
   ·
    intro m hm;simp only [List.mem_cons,List.not_mem_nil,or_false] at hm;have hoff:Off (some w3.heap.size) (.slice none 0 0):=(by intro A n c hv hn;injection hv;omega);have hfre:Fresh w.heap.size (.slice none 0 0):=(by intro A n c hv hn;injection hv;omega)
    rcases hm with rfl | rfl
    · exact ⟨⟨⟨none,0,rfl,Reads.none_⟩,⟨none,0,rfl,Reads.none_⟩⟩,hoff,hoff,hfre,hfre,thaw_nil _⟩
    ·
     subst hy;refine ⟨⟨⟨some ⟨g2,0,none⟩,1,rfl,(Reads.of_blk (size:=1) (m:=1) BC4 rfl).more (by simp;omega)⟩,⟨none,0,rfl,Reads.none_⟩⟩,?_,hoff,?_,hfre,thaw_nil _⟩
     ·
      intro A n c hv hn ad ha e;injection hv with h1 h2 h3
      subst h1;injection ha with ha
      subst ha;simp [Value.ownBlock] at e;omega
     ·
      intro A n c hv hn ad ha;injection hv with h1 h2 h3
      subst h1;injection ha with ha
      subst ha;exact hg2
   · rw [hy,HP.out];rfl
theorem pas_right8 (p:Int) (h1:1<=p) (h3:p<=3):right8 p (rtk 8 p)=true:=by
 unfold right8 inTo;rw [Bool.and_eq_true];refine ⟨by simp;omega,?_⟩;rw [List.all_eq_true];intro k hk;have hk:=List.mem_range.1 hk;have hp:0 < p:=(by omega);have a1:=Int.emod_nonneg (k:Int) (show p ≠ 0 by omega);have a2:=Int.emod_lt_of_pos (k:Int) hp;simp [rtk,hk];omega
theorem pass_right (p:Int):RightG (passL p):=by
 obtain ⟨h1,h3⟩:=parP_in p;have hr:=pas_right8 (parP p) h1 h3;refine ⟨by simp [passL],?_,?_,by simp [passL,idsN,pasN],⟨fun f=>if f=0 then 0 else 1,?_⟩⟩
 ·
  intro n hn;simp only [passL,List.mem_cons,List.not_mem_nil,or_false] at hn
  rcases hn with rfl | rfl
  · simp [nodeB,pasN,kindB,hr]
  ·
   have hu:unlikeB [0]=true:=by simp [unlikeB]
   have ha:aboveB (passL p) 0=false:=(by simp [aboveB,findN,passL,pasN]);simp [nodeB,pasS,kindB,hr,hu,ha]
 · simp [passL,idsN,pasN,pasS]
 ·
  intro n hn f hf;simp only [passL,List.mem_cons,List.not_mem_nil,or_false] at hn
  rcases hn with rfl | rfl
  · simp [pasN] at hf
  · simp [pasS] at hf;subst hf;simp [pasS]
theorem small_pass {p:Int} {M:List Ndm} (h:fstN M=passL p):Small M:=by
 refine ⟨?_,fun m hm => ?_⟩
 · have:=congrArg List.length h;simp [fstN,passL] at this;omega
 ·
  have h1:m.1 ∈ fstN M:=List.mem_map.2 ⟨m,hm,rfl⟩;rw [h] at h1;simp only [passL,List.mem_cons,List.not_mem_nil,or_false] at h1
  rcases h1 with h1 | h1 <;> rw [h1] <;> simp [pasN,pasS]
def greatN (L:List Nd):Bool:=decide (20 < L.length) || L.any fun x=>decide (60 < x.pg.length) || decide (20 < x.fr.length)
theorem great08_any (A:Option Addr) (c B n:Nat) (M:List Ndm) (w:World) (h:Nds w B A n M) (hB:B<=w.heap.size) (hm:n<=maxLen) :
  Calls Tryz.prog 32 #[.slice A n c] w fun e w'=>e=.returned (.bool (greatN (fstN M)))/\Fr w.heap.size [] w w':=by
 unfold maxLen at hm;obtain ⟨L,hL⟩:=nm (fstN M);obtain ⟨v,hv⟩:=nm (greatN L);have hnl:L.length=n:=(by rw [hL,h.num];simp [fstN]);rw [<- hL,<- hv];have HV:=zh hv;have HL:=zh hL;have HNL:=zh hnl;have H:=zh h;clear h hL hv hnl
 by_cases h20:20 < n
 ·
  have hv:v=true:=by rw [HV.out,greatN,HNL.out,decide_eq_true h20];rfl
  have HVV:=zh hv;clear hv;go_enter Tryz.func32,Tryz.ntmps32;go_wp2_with fail;go_ret;exact ⟨by rw [HVV.out];rfl,Fr.refl _ _ _⟩
 have hn20:n<=20:=(by omega);have HVA:=zh (show v=L.any (fun x=>decide (60 < x.pg.length) || decide (20 < x.fr.length)) by rw [HV.out,greatN,HNL.out,decide_eq_false h20];rfl);go_enter Tryz.func32,Tryz.ntmps32;go_wp2_with fail;go_loopg [10] n (fun g s10 wr=>∃ k:Nat,k<=n/\g=n - k/\s10=.int .i64 k/\Hid (∀ x ∈ L.take k,(decide (60 < x.pg.length) || decide (20 < x.fr.length))=false)/\Hid (Fr w.heap.size [] w wr))
 case atStart=>exact ⟨0,Nat.zero_le _,rfl,rfl,zh (by simp),zh (Fr.refl _ _ _)⟩
 case round =>
  obtain ⟨k,hk,rfl,rfl,HB,FR⟩:=hrel
  by_cases hkn:k < n
  ·
   have hki:(k:Int) < (n:Int):=by omega
   have hk0:(0:Int)<=(k:Int):=(by omega);obtain ⟨m,hx⟩:∃ m,M[k]?=some m:=⟨_,List.getElem?_eq_getElem (by rw [<- H.out.num];exact hkn)⟩;have HND:=H.out.frw FR.out hB (by simp);obtain ⟨b1,o1,rfl,hb1,hc1⟩:=HND.get hx;have hin:=HND.inn m (List.mem_of_getElem? hx);have HTK:=zh (show L.take (k+1)=L.take k ++ [m.1] by rw [HL.out];exact fst_take hx);have HX:=zh (show L[k]?=some m.1 by rw [HL.out];simp [fstN,hx]);obtain ⟨x,sf,sp⟩:=m;have FA:=zh (FR.out.alloc FR.out.size (.cells (ndA x sf sp) 83));obtain ⟨⟨Af,cf,hf1,_⟩,⟨Ap,cp,hp1,_⟩⟩:=hin;simp only at hf1 hp1 HTK HX;subst hf1;subst hp1;obtain ⟨g0,g1,g2,g3,g4,g5,g6,g7,g8,g9,g10,g11,g12⟩:=ndL_get (x,.slice Af x.fr.length cf,.slice Ap x.pg.length cp);have p0:=hc1 0 _ g0;have p1:=hc1 1 _ g1;have p2:=hc1 2 _ g2;have p3:=hc1 3 _ g3;have p4:=hc1 4 _ g4;have p5:=hc1 5 _ g5;have p6:=hc1 6 _ g6;have p7:=hc1 7 _ g7;have p8:=hc1 8 _ g8;have p9:=hc1 9 _ g9;have p10:=hc1 10 _ g10;have p11:=hc1 11 _ g11;have p12:=hc1 12 _ g12;simp only [Nat.add_zero] at p0;obtain ⟨nf,hnf⟩:=nm (x.fr.length);obtain ⟨np,hnp⟩:=nm (x.pg.length);rw [<- hnf] at p2 FA;rw [<- hnp] at p3 FA;have HNF:=zh hnf;have HNP:=zh hnp;clear hc1 hx g0 g1 g2 g3 g4 g5 g6 g7 g8 g9 g10 g11 g12 HND hnf hnp hb1
   by_cases e1:60 < np
   ·
    have hv:v=true:=by rw [HVA.out];exact any_take HX.out (by rw [<- HNP.out,decide_eq_true e1];rfl)
    have HVV:=zh hv;clear hv;go_wp2_with fail;go_ret;exact ⟨by rw [HVV.out];rfl,FA.out⟩
   ·
    by_cases e2:20 < nf
    ·
     have hv:v=true:=by rw [HVA.out];exact any_take HX.out (by rw [<- HNF.out,decide_eq_true e2];simp)
     have HVV:=zh hv;clear hv;go_wp2_with fail;go_ret;exact ⟨by rw [HVV.out];rfl,FA.out⟩
    ·
     have HB2 := zh (show ∀ y ∈ L.take (k + 1), (decide (60 < y.pg.length) || decide (20 < y.fr.length)) = false from fun y hy => by
      rw [HTK.out] at hy
      rcases List.mem_append.1 hy with hy | hy
      · exact HB.out y hy
      · rw [List.mem_singleton.1 hy,<- HNP.out,<- HNF.out,decide_eq_false e1,decide_eq_false e2];rfl)
     go_wp2_with fail;go_roundg (n - (k+1))
     case measure=>omega
     case rel=>exact ⟨k+1,by omega,rfl,by go_num,HB2,FA⟩
  ·
   obtain rfl:k=n:=by omega
   have hv:v=false:=by
    have htk:L.take k=L:=List.take_of_length_le (by rw [HNL.out];exact Nat.le_refl _);have h:=HB.out;rw [htk] at h;rw [HVA.out];exact any_none h
   have HVV:=zh hv;clear hv;go_wp2_with fail;go_ret;exact ⟨by rw [HVV.out];rfl,FR.out⟩
def greatP (L:List Nd) (P:List Stp):Bool:=greatN L || (decide (20 < P.length) || P.any fun s=>greatN [s.nd])
theorem great10_any (A A2:Option Addr) (c c2 B n n2:Nat) (M:List Ndm) (S:List Stm) (w:World) (h:Nds w B A n M) (hB:B<=w.heap.size) (hm:n<=maxLen) (hS:Sts w B A2 n2 S) (hm2:n2<=maxLen) :
  Calls Tryz.prog 51 #[.slice A n c,.slice A2 n2 c2] w fun e w'=>e=.returned (.bool (greatP (fstN M) (fstS S)))/\Fr w.heap.size [] w w':=by
 obtain ⟨L,hL⟩:=nm (fstN M);obtain ⟨P,hP⟩:=nm (fstS S);obtain ⟨v,hv⟩:=nm (greatP L P);obtain ⟨g0,hg0⟩:=nm (greatN L);have hpl:P.length=n2:=(by rw [hP,hS.num];simp [fstS]);have HG:=zh (by rw [hg0,hL];exact great08_any A c B n M w h hB hm:Calls Tryz.prog 32 #[.slice A n c] w fun e w'=>e=.returned (.bool g0)/\Fr w.heap.size [] w w');rw [<- hL,<- hP,<- hv];have HV:=zh (show v=(g0 || (decide (20 < n2) || P.any fun s=>greatN [s.nd])) by rw [hv,hg0,<- hpl];rfl);have HP:=zh hP;have HST:=zh hS;have HNU:=zh hS.num;unfold maxLen at hm2;clear hL hP hv hg0 h hS hpl;go_enter Tryz.func51,Tryz.ntmps51;go_wp2_with fail;refine HG.out.mono ?_;rintro e w1 ⟨rfl,f1⟩;have F1:=zh f1;clear f1 HG
 cases g0 with
 | true =>
  have HV1:=zh (show v=true by rw [HV.out];rfl);go_wp2_with fail;go_ret;exact ⟨by rw [HV1.out];rfl,F1.out⟩
 | false => ?_
 by_cases h20:20 < n2
 · have HV1:=zh (show v=true by rw [HV.out,decide_eq_true h20];rfl);have h21:(20:Int) < (n2:Int):=(by omega);go_wp2_with fail;go_ret;exact ⟨by rw [HV1.out];rfl,F1.out⟩
 have h21:¬ (20:Int) < (n2:Int):=(by omega);have hn20:n2<=20:=(by omega);have HVA:=zh (show v=P.any (fun s=>greatN [s.nd]) by rw [HV.out,decide_eq_false h20];rfl);clear HV h20;go_wp2_with fail;go_loopg [6,16] n2 (fun g s6 s16 wr=>∃ (k:Nat),k<=n2/\g=n2 - k/\s16=.int .i64 k/\(s6=undef \/ ∃ a,s6=.pointer a)/\Hid (∀ s ∈ P.take k,greatN [s.nd]=false)/\Hid (Fr w.heap.size [] w wr))
 case atStart=>exact ⟨0,Nat.zero_le _,rfl,rfl,.inl rfl,zh (by simp),F1⟩
 case round =>
  clear F1;obtain ⟨k,hk,rfl,rfl,h8,HB,FR⟩:=hrel
  by_cases hkn:k < n2
  ·
   have hki:(k:Int) < (n2:Int):=by omega
   have hk0:(0:Int)<=(k:Int):=(by omega);obtain ⟨m,hx⟩:∃ m,S[k]?=some m:=⟨_,List.getElem?_eq_getElem (by rw [<- HNU.out];exact hkn)⟩;have HSW:=HST.out.frw FR.out hB (by simp);obtain ⟨b1,o1,rfl,hb1,hc1⟩:=HSW.get hx;have hin:=HSW.inn m (List.mem_of_getElem? hx);have HTK:=zh (show P.take (k+1)=P.take k ++ [m.1] by rw [HP.out,List.take_add_one];simp [fstS,hx]);have HMM:=zh (show m.1 ∈ P by rw [HP.out];exact List.mem_map.2 ⟨m,List.mem_of_getElem? hx,rfl⟩);obtain ⟨⟨kd,y,rs⟩,sf,sp⟩:=m;simp only at hin HTK HMM;obtain ⟨⟨Af,cf,hf1,hf2⟩,⟨Ap,cp,hp1,hp2⟩⟩:=hin;simp only at hf1 hp1 hf2 hp2;subst hf1;subst hp1;have hin2:NdIn wr B (y,.slice Af y.fr.length cf,.slice Ap y.pg.length cp):=⟨⟨Af,cf,rfl,hf2⟩,⟨Ap,cp,rfl,hp2⟩⟩;clear hf2 hp2;obtain ⟨nf,hnf⟩:=nm (y.fr.length);obtain ⟨np,hnp⟩:=nm (y.pg.length);rw [<- hnf,<- hnp] at hin2 hc1;have p0:=hc1 0 (.int .i64 kd) rfl;have p1:=hc1 1 (.int .i64 y.id) rfl;have p2:=hc1 2 (.int .i64 y.kind) rfl;have p3:=hc1 3 (.slice Af nf cf) rfl;have p4:=hc1 4 (.slice Ap np cp) rfl;have p5:=hc1 5 (.int .i64 y.par) rfl;have p6:=hc1 6 (.int .i64 (y.rt 0)) rfl;have p7:=hc1 7 (.int .i64 (y.rt 1)) rfl;have p8:=hc1 8 (.int .i64 (y.rt 2)) rfl;have p9:=hc1 9 (.int .i64 (y.rt 3)) rfl;have p10:=hc1 10 (.int .i64 (y.rt 4)) rfl;have p11:=hc1 11 (.int .i64 (y.rt 5)) rfl;have p12:=hc1 12 (.int .i64 (y.rt 6)) rfl;have p13:=hc1 13 (.int .i64 (y.rt 7)) rfl;have p14:=hc1 14 (.bool rs) rfl;simp only [Nat.add_zero] at p0;have HIN:=zh hin2;clear hc1 hx HSW hin2 hnf hnp;have BX:=zh (Blk.new wr 215 (stA kd y rs (.slice Af nf cf) (.slice Ap np cp)));have fa:=(Fr.refl wr.heap.size [] wr).alloc (Nat.le_refl _) (.cells (stA kd y rs (.slice Af nf cf) (.slice Ap np cp)) 215);have FA:=zh (FR.out.nx fa);have HIA:=zh (HIN.out.frw fa (Nat.le_trans hB FR.out.size) (by simp));have hBa:B<=(wr.alloc (.cells (stA kd y rs (.slice Af nf cf) (.slice Ap np cp)) 215)).heap.size:=Nat.le_trans hB FA.out.size;clear fa;go_upto_region 6 with fail;clear p0 p1 p2 p3 p4 p5 p6 p7 p8 p9 p10 p11 p12 p13 p14;generalize wr.alloc (.cells (stA kd y rs (.slice Af nf cf) (.slice Ap np cp)) 215)=wa at *;generalize wr.heap.size=gx at BX;have q1:=BX.out.cell 1;have q2:=BX.out.cell 2;have q3:=BX.out.cell 3;have q4:=BX.out.cell 4;have q5:=BX.out.cell 5;have q6:=BX.out.cell 6;have q7:=BX.out.cell 7;have q8:=BX.out.cell 8;have q9:=BX.out.cell 9;have q10:=BX.out.cell 10;have q11:=BX.out.cell 11;have q12:=BX.out.cell 12;have q13:=BX.out.cell 13;simp at q1 q2 q3 q4 q5 q6 q7 q8 q9 q10 q11 q12 q13;have fb:=(Fr.refl wa.heap.size [] wa).alloc (Nat.le_refl _) (.cells (ndA y (.slice Af nf cf) (.slice Ap np cp)) 83)
   have hns : Nds (wa.alloc (.cells (ndA y (.slice Af nf cf) (.slice Ap np cp)) 83)) (wa.heap.size + 1) (some ⟨wa.heap.size, 0, none⟩) 1 [(y, .slice Af nf cf, .slice Ap np cp)] := ⟨rfl, by
    have:=Reads.of_blk (size:=13) (m:=1) (Blk.new wa 83 (ndA y (.slice Af nf cf) (.slice Ap np cp))) rfl;exact this,fun m hm=>by
    rw [List.mem_singleton.1 hm]
    exact (HIA.out.frw fb hBa (by simp)).more (by omega)⟩
   obtain ⟨gk,hgk⟩:=nm (greatN [y]);have HGK:=zh (by rw [hgk];exact great08_any (some ⟨wa.heap.size,0,none⟩) 1 _ 1 _ _ hns (by simp) (by simp [maxLen]):Calls Tryz.prog 32 #[.slice (some ⟨wa.heap.size,0,none⟩) 1 1] (wa.alloc (.cells (ndA y (.slice Af nf cf) (.slice Ap np cp)) 83)) fun e w'=>e=.returned (.bool gk)/\Fr (wa.alloc (.cells (ndA y (.slice Af nf cf) (.slice Ap np cp)) 83)).heap.size [] (wa.alloc (.cells (ndA y (.slice Af nf cf) (.slice Ap np cp)) 83)) w');have HGV:=zh hgk;have FB:=zh (FA.out.nx fb);clear fb hns hgk;go_wp2_with fail;refine HGK.out.mono ?_;rintro e w3 ⟨rfl,f3⟩;have F3:=zh (FB.out.nx f3);clear f3 HGK
   cases gk with
   | true =>
    have HV1:=zh (show v=true by rw [HVA.out,List.any_eq_true];exact ⟨_,HMM.out,HGV.out.symm⟩);go_wp2_with fail;go_ret;exact ⟨by rw [HV1.out];rfl,F3.out⟩
   | false =>
    have HB2 := zh (show ∀ s ∈ P.take (k + 1), greatN [s.nd] = false from fun s hs => by
     rw [HTK.out] at hs
     rcases List.mem_append.1 hs with hs | hs
     · exact HB.out s hs
     · rw [List.mem_singleton.1 hs];exact HGV.out.symm)
    go_wp2_with fail;go_roundg (n2 - (k+1))
    case measure=>omega
    case rel=>exact ⟨k+1,by omega,rfl,by go_num,.inr ⟨_,rfl⟩,HB2,F3⟩
  ·
   obtain rfl:k=n2:=by omega
   have HV1 := zh (show v = false by
    rw [HVA.out,List.any_eq_false];intro s hs;have htk:P.take k=P:=List.take_of_length_le (by rw [HP.out,HNU.out];simp [fstS]);rw [<- htk] at hs
    simp [HB.out s hs])
   go_wp2_with fail;go_ret;exact ⟨by rw [HV1.out];rfl,FR.out⟩
theorem pass_child (p:Int):childN (passL p) 0=[1]:=by
 have h:kidsN (passL p) 0 []=[1]:=(by simp [kidsN,hasI,passL,pasN,pasS]);unfold childN;rw [h];exact List.perm_singleton.1 (srt_perm _)
theorem pass_sinks (p:Int):∀ c ∈ childN (passL p) 0,∃ x,findN (passL p) c=some x/\x.kind=2:=by
 intro c hc;rw [pass_child,List.mem_singleton] at hc;subst hc;exact ⟨pasS (parP p),by simp [findN,passL,pasN,pasS],rfl⟩
theorem awake12_any (w:World):Calls Tryz.prog 9 #[] w fun e w'=>e=.returned (.bool true)/\Fr w.heap.size [] w w':=by
 have HN:=zh (cnew_any none 0 0 w.heap.size [] w rfl (by omega) Reads.none_ (Nat.le_refl _));go_enter Tryz.func9,Tryz.ntmps9;go_wp2_with fail;refine HN.out.mono ?_;rintro e w1 (⟨hb,_⟩ | ⟨_,rfl,c1,f1⟩)
 · cases hb
 have F1:=zh f1;have HP:=zh (pass_any 1 w1);clear c1 f1 HN;go_wp2_with fail;refine HP.out.mono ?_;rintro e w2 ⟨A,c,M,rfl,hn,hf,f2⟩;have F2:=zh (F1.out.nx f2);have fa:=(Fr.refl w2.heap.size [] w2).alloc (Nat.le_refl _) (.cells #[.int .i64 5,.int .i64 1,.int .i64 0] 50);have BA:=Blk.new w2 50 #[.int .i64 5,.int .i64 1,.int .i64 0];have HND:=(hn.nds (L:=[]) (Fr.refl _ _ _) (by simp)).frw fa (Nat.le_refl _) (by simp)
 have HRN := zh (by
  have:=drun_any (w.heap.size+1) A (some ⟨w2.heap.size,0,none⟩) c 1 (w2.heap.size+1) 2 1 M [fun j=>if j=0 then 5 else if j=1 then 1 else 0] (w2.alloc (.cells #[.int .i64 5,.int .i64 1,.int .i64 0] 50)) (HND.more (by omega)) (by simp) (small_pass hf) (by rw [hf];exact pass_right 1) rfl (by omega) (Reads.of_blk BA rfl) (by rw [hf];exact pass_sinks 1);rw [hf,pass_child] at this
  exact this)
 have FA:=zh (F2.out.nx fa);clear hn hf f2 fa BA HND HP F1 F2;go_wp2_with fail;refine HRN.out.mono ?_;rintro e w3 (⟨hb,_⟩ | ⟨_,A3,n3,c3,hn3,rfl,hr3,hc3,f3⟩)
 · exact absurd hb (by decide)
 have F3:=zh (FA.out.nx f3);have hn1:n3=1:=hn3;subst hn1;obtain ⟨b,off,rfl,hb,hcc⟩:=reads_ln (l:=outR [1] [fun j=>if j=0 then 5 else if j=1 then 1 else 0]) hr3 (k:=0) (x:=lnF 1 0 5 1 0) rfl;have p0:w3.cell? ⟨b,off,none⟩=some (.int .i64 1):=hcc 0 (by omega);have p1:w3.cell? ⟨b,off+1,none⟩=some (.int .i64 0):=hcc 1 (by omega);have p2:w3.cell? ⟨b,off+2,none⟩=some (.int .i64 5):=hcc 2 (by omega);have p3:w3.cell? ⟨b,off+3,none⟩=some (.int .i64 1):=hcc 3 (by omega);have p4:w3.cell? ⟨b,off+4,none⟩=some (.int .i64 0):=hcc 4 (by omega);have heq:∀ W,(binOp .eql 69 (.agg #[.int .i64 1,.int .i64 0,.int .i64 5,.int .i64 1,.int .i64 0]) (.agg #[.int .i64 1,.int .i64 0,.int .i64 5,.int .i64 1,.int .i64 0])).run Tryz.prog W=.ok (.bool true) W:=fun W=>by kernel_rfl
 clear hcc hr3 f3 hb HRN hn3;go_wp2_with fail;go_ret;exact ⟨rfl,F3.out⟩
end Go.Proofs.YtlejomlppjpchaaGreat
