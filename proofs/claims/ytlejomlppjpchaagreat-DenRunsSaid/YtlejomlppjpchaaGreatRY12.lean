/- Texts merged into one, for the number of files a claim may have: VmE, VmF, VmQ, RcI, VmR. -/
import Derived.Test.YtlejomlppjpchaaGreatRY11
import Derived.Shelf.Abstract
namespace Go.Proofs.YtlejomlppjpchaaGreat
open Go.RowKit Go.Fb
set_option maxRecDepth 100000
set_option maxHeartbeats 16000000
set_option linter.unusedVariables false
theorem MC.at_ {b0 g:Nat} {vp:Value} {S:MS} {L:List Nat} {w:World} (h:MC b0 g vp S L w) (n:Nat):MC b0 g vp { S with at_:=n } L (w.setCell ⟨g,9,none⟩ (.int .i64 (n:Int))):=by
 obtain ⟨Ao,no,co,As,ns,cs,h1,h2,h3,h4,h5,h6,h7⟩:=h;refine ⟨Ao,no,co,As,ns,cs,h1,h2,?_,own_far h3 h4 (by decide) 9 _,own_far h3 h5 (by decide) 9 _,h6,h7⟩;have:=h3.set_ 9 (.int .i64 (n:Int));simpa [mcA] using this
theorem MC.st_ {b0 g:Nat} {vp:Value} {S:MS} {L:List Nat} {w:World} (h:MC b0 g vp S L w) (n:Int):MC b0 g vp { S with st:=n } L (w.setCell ⟨g,5,none⟩ (.int .i64 n)):=by
 obtain ⟨Ao,no,co,As,ns,cs,h1,h2,h3,h4,h5,h6,h7⟩:=h;refine ⟨Ao,no,co,As,ns,cs,h1,h2,?_,own_far h3 h4 (by decide) 5 _,own_far h3 h5 (by decide) 5 _,h6,h7⟩;have:=h3.set_ 5 (.int .i64 n);simpa [mcA] using this
theorem MC.c0_ {b0 g:Nat} {vp:Value} {S:MS} {L:List Nat} {w:World} (h:MC b0 g vp S L w) (v:Int × Int):MC b0 g vp { S with c:=(v,S.c.2) } L ((w.setCell ⟨g,1,none⟩ (.int .i64 v.1)).setCell ⟨g,2,none⟩ (.int .i64 v.2)):=by
 obtain ⟨Ao,no,co,As,ns,cs,h1,h2,h3,h4,h5,h6,h7⟩:=h;have k1:=h3.set_ 1 (.int .i64 v.1);refine ⟨Ao,no,co,As,ns,cs,h1,h2,?_,own_far k1 (own_far h3 h4 (by decide) 1 _) (by decide) 2 _,own_far k1 (own_far h3 h5 (by decide) 1 _) (by decide) 2 _,h6,h7⟩;have:=k1.set_ 2 (.int .i64 v.2);simpa [mcA] using this
theorem MC.c1_ {b0 g:Nat} {vp:Value} {S:MS} {L:List Nat} {w:World} (h:MC b0 g vp S L w) (v:Int × Int):MC b0 g vp { S with c:=(S.c.1,v) } L ((w.setCell ⟨g,3,none⟩ (.int .i64 v.1)).setCell ⟨g,4,none⟩ (.int .i64 v.2)):=by
 obtain ⟨Ao,no,co,As,ns,cs,h1,h2,h3,h4,h5,h6,h7⟩:=h;have k1:=h3.set_ 3 (.int .i64 v.1);refine ⟨Ao,no,co,As,ns,cs,h1,h2,?_,own_far k1 (own_far h3 h4 (by decide) 3 _) (by decide) 4 _,own_far k1 (own_far h3 h5 (by decide) 3 _) (by decide) 4 _,h6,h7⟩;have:=k1.set_ 4 (.int .i64 v.2);simpa [mcA] using this
theorem MC.blk {b0 g:Nat} {vp:Value} {S:MS} {L:List Nat} {w:World} (h:MC b0 g vp S L w):∃ vo vs,Blk w g 374 (mcA vo S vp vs):=by
 obtain ⟨Ao,no,co,As,ns,cs,h1,h2,h3,h4,h5,h6,h7⟩:=h;exact ⟨_,_,h3⟩
theorem MC.own {b0 g:Nat} {vp:Value} {S:MS} {L:List Nat} {w:World} (h:MC b0 g vp S L w):g ∈ L:=by
 obtain ⟨Ao,no,co,As,ns,cs,h1,h2,h3,h4,h5,h6,h7⟩:=h;rw [h7];simp
theorem actM_o (i:Int × Int) (S:MS):(actM i S).o.length<=S.o.length+1:=by
 refine act_cases (fun X=>X.o.length<=S.o.length+1) (fun _=>Nat.le_succ _) (fun _=>Nat.le_succ _) (Nat.le_succ _) (Nat.le_succ _) (Nat.le_succ _) (fun c => ?_) (fun _=>Nat.le_succ _) (Nat.le_succ _) ?_
 · unfold jzM;split <;> exact Nat.le_succ _
 · refine top_cases (fun X=>X.o.length<=S.o.length+1) (Nat.le_succ _) (Nat.le_succ _) (Nat.le_succ _) (Nat.le_succ _) ?_ (Nat.le_succ _);simp
theorem RunS.far {l:List (Int × Int)} {D:Nat->Int} {b0 g gi:Nat} {vp:Value} {F:MS} {L0:List Nat} {w0:World} {S:MS} {L:List Nat} {w w':World} (h:RunS l D b0 g gi vp F L0 w0 S L w) (hf:Fr w.heap.size [gi] w w'):RunS l D b0 g gi vp F L0 w0 S L w' :=
 ⟨h.inv,h.new_,⟨h.mv.fr.trans (hf.mono h.mv.fr.size (fun q hq hlt=>by simp at hq;have:=h.new_.2;omega)),h.mv.of⟩,h.res,h.few,Nat.le_trans h.base hf.size,h.base0⟩
theorem Mv.set_ {L0 L:List Nat} {w0 w:World} (h:Mv L0 w0 L w) {p:Addr} (hp:p.block ∈ L) (u:Value):Mv L0 w0 L (w.setCell p u) :=
 h.trans ⟨(Fr.refl w.heap.size L w).setCell (.inr hp) u,fun q hq=>.inl hq⟩
theorem RunS.next {l:List (Int × Int)} {D:Nat->Int} {b0 g gi:Nat} {vp:Value} {F:MS} {L0:List Nat} {w0:World} {S:MS} {L:List Nat} {w:World} (h:RunS l D b0 g gi vp F L0 w0 S L w) (P:SafeD l D) {i:Int × Int} (hi:l[S.at_]?=some i) (h0:i.1 ≠ 0) {S':MS} (hS:actM i (nextM S)=S') {L':List Nat} {w':World} (hg:gi ∉ L') (hv:Mv L0 w0 L' w') :
  RunS l D b0 g gi vp F L0 w0 S' L' w':=by
 subst hS;refine ⟨(h.inv.act P hi h0).1,⟨hg,h.new_.2⟩,hv,by rw [<- runE_step P.fit.1 hi h0];exact h.res,?_,Nat.le_trans h.base0 hv.fr.size,h.base0⟩;have h1:=actM_o i (nextM S);have h2:=actM_at i (nextM S);have h3:=h.few;have e:(nextM S).at_=S.at_+1:=rfl;have e2:(nextM S).o=S.o:=rfl;rw [e2] at h1;omega
theorem act_fn (a:Act) (g gi:Nat) (h1:a.tmps.size=117) (h2:a.tmps[0]?=some (.pointer (some ⟨g,0,none⟩))) (h3:a.tmps[2]?=some (.pointer (some ⟨gi,0,none⟩))) (h4:a.defers=[]):∃ u:Nat->Value,a={ tmps:=#[.pointer (some ⟨g,0,none⟩),u 1,.pointer (some ⟨gi,0,none⟩),u 3,u 4,u 5,u 6,u 7,u 8,u 9,u 10,u 11,u 12,u 13,u 14,u 15,u 16,u 17,u 18,u 19,u 20,u 21,u 22,u 23,u 24,u 25,u 26,u 27,u 28,u 29,u 30,u 31,u 32,u 33,u 34,u 35,u 36,u 37,u 38,u 39,u 40,u 41,u 42,u 43,u 44,u 45,u 46,u 47,u 48,u 49,u 50,u 51,u 52,u 53,u 54,u 55,u 56,u 57,u 58,u 59,u 60,u 61,u 62,u 63,u 64,u 65,u 66,u 67,u 68,u 69,u 70,u 71,u 72,u 73,u 74,u 75,u 76,u 77,u 78,u 79,u 80,u 81,u 82,u 83,u 84,u 85,u 86,u 87,u 88,u 89,u 90,u 91,u 92,u 93,u 94,u 95,u 96,u 97,u 98,u 99,u 100,u 101,u 102,u 103,u 104,u 105,u 106,u 107,u 108,u 109,u 110,u 111,u 112,u 113,u 114,u 115,u 116],defers:=[] }:=by
 obtain ⟨t,d⟩:=a;simp only at h1 h2 h3 h4;subst h4;refine ⟨fun i=>t[i]?.getD undef,?_⟩
 have key:t=((List.range 117).map fun i=>t[i]?.getD undef).toArray:=by
  apply Array.ext
  · simp [h1]
  · intro i h _;simp [Array.getElem?_eq_getElem h]
 have e0:t[0]?.getD undef=.pointer (some ⟨g,0,none⟩):=(by rw [h2];rfl);have e2:t[2]?.getD undef=.pointer (some ⟨gi,0,none⟩):=(by rw [h3];rfl)
 congr 1
 obtain ⟨f,hf⟩:∃ f:Nat->Value,f=fun i:Nat=>t[i]?.getD undef:=⟨_,rfl⟩;have e0:f 0=.pointer (some ⟨g,0,none⟩):=(by rw [hf];exact e0);have e2:f 2=.pointer (some ⟨gi,0,none⟩):=(by rw [hf];exact e2);rw [<- hf] at key ⊢;refine key.trans ?_;rw [<- e0,<- e2];rfl
theorem run_any (b0 g:Nat) (Ap:Option Addr) (cp B:Nat) (l:List (Int × Int)) (D:Nat->Int) (S0:MS) (L0:List Nat) (w0:World) (hP:SafeD l D) (hI:MInv l D S0) (hf:S0.o.length<=S0.at_) (hM:MC b0 g (.slice Ap l.length cp) S0 L0 w0) (hb:b0<=w0.heap.size)
  (hrd:Reads w0 B 2 Ap l.length (cellsI l)) (hB:B<=w0.heap.size) (hL:∀ q ∈ L0,B<=q) :
  Calls Tryz.prog 240 #[.pointer (some ⟨g,0,none⟩)] w0 fun e w'=>e=.returned (.tuple #[])/\∃ L',MC b0 g (.slice Ap l.length cp) (runE l S0) L' w'/\Mv L0 w0 L' w':=by
 obtain ⟨F,hF⟩:=nm (runE l S0);rw [<- hF];have HP:=zh hP;have HRD:=zh (fun (L:List Nat) (w:World) (h:Mv L0 w0 L w)=>(hrd.fr h.fr hB hL:Reads w B 2 Ap l.length (cellsI l)));have BI:=zh (Blk.new w0 217 #[.int .i64 0,.int .i64 0]);have fa:=(Fr.refl w0.heap.size [] w0).alloc (Nat.le_refl _) (.cells #[.int .i64 0,.int .i64 0] 217);have M0:=zh (hM.mv fa);obtain ⟨gi,hgi⟩:=nm (w0.heap.size);have S0':=zh (show RunS l D b0 g gi (.slice Ap l.length cp) F L0 w0 S0 L0 (w0.alloc (.cells #[.int .i64 0,.int .i64 0] 217)) from ⟨hI,⟨fun c=>by have:=hM.lt gi c;omega,by omega⟩,(Mv.refl L0 w0).fr_ fa,hF.symm,hf,Nat.le_trans hb fa.size,hb⟩);rw [<- hgi] at BI;have HGI:=zh hgi;have h24:=hP.fit.1;have hgne:g ≠ gi:=(by have:=hM.lt g hM.own;omega);have hgiw:w0.heap.size<=gi:=(by omega);clear fa hP hI hf hM hb hrd hB hL hF hgi;go_enter Tryz.func240,Tryz.ntmps240;go_wp2_with fail;refine wp_scope_labels (fun k n a w=>a.tmps.size=117/\a.tmps[0]?=some (.pointer (some ⟨g,0,none⟩))/\a.tmps[2]?=some (.pointer (some ⟨gi,0,none⟩))/\a.defers=[]/\Hid (RunJ 1 2 0 l D b0 g gi (.slice Ap l.length cp) F L0 w0 k n w)) ?pass ?first
 case' first =>
  intro HFIRST;go_wp2_with fail;go_step3;rw [<- HGI.out];generalize w0.alloc (.cells #[.int .i64 0,.int .i64 0] 217)=w1 at *;rename_i hK;refine hK _ _ ?_;clear hK;refine HFIRST 1 (2 * (100 - S0.at_)) _ _ ⟨rfl,rfl,rfl,rfl,zh (.inl ⟨rfl,S0,L0,0,0,rfl,S0'.out,M0.out,BI.out⟩)⟩ _ rfl
 case' pass =>
  clear BI M0 S0' HGI;rintro k n a w ⟨ha1,ha2,ha3,ha4,HJ⟩;obtain ⟨u,hu⟩:∃ u:Nat->Value,a={ tmps:=#[.pointer (some ⟨g,0,none⟩),u 1,.pointer (some ⟨gi,0,none⟩),u 3,u 4,u 5,u 6,u 7,u 8,u 9,u 10,u 11,u 12,u 13,u 14,u 15,u 16,u 17,u 18,u 19,u 20,u 21,u 22,u 23,u 24,u 25,u 26,u 27,u 28,u 29,u 30,u 31,u 32,u 33,u 34,u 35,u 36,u 37,u 38,u 39,u 40,u 41,u 42,u 43,u 44,u 45,u 46,u 47,u 48,u 49,u 50,u 51,u 52,u 53,u 54,u 55,u 56,u 57,u 58,u 59,u 60,u 61,u 62,u 63,u 64,u 65,u 66,u 67,u 68,u 69,u 70,u 71,u 72,u 73,u 74,u 75,u 76,u 77,u 78,u 79,u 80,u 81,u 82,u 83,u 84,u 85,u 86,u 87,u 88,u 89,u 90,u 91,u 92,u 93,u 94,u 95,u 96,u 97,u 98,u 99,u 100,u 101,u 102,u 103,u 104,u 105,u 106,u 107,u 108,u 109,u 110,u 111,u 112,u 113,u 114,u 115,u 116],defers:=[] }:=act_fn a g gi ha1 ha2 ha3 ha4;clear ha1 ha2 ha3 ha4;subst hu
  rcases HJ.out with ⟨rfl,S,L,x,y,hn,hs,hm,hbi⟩ | ⟨rfl,S,L,x,y,hn,h49,hy1,hy2,hs,hm,hbi⟩ | ⟨rfl,hn,L,hm,hv⟩
  ·
   refine ⟨_,.inl rfl,?_⟩;have HS:=zh hs;have HM:=zh hm;have BI:=zh hbi;have h49:=hs.inv.at_;have h8:=hs.inv.small;have hfew:=hs.few;obtain ⟨vo,vs,hbk⟩:=hm.blk;have BK:=zh hbk;have HN:=zh hn;clear HJ hs hm hbi hbk hn;have c9:w.cell? ⟨g,9,none⟩=some (.int .i64 (S.at_:Int)):=BK.out.cell 9;have c6:w.cell? ⟨g,6,none⟩=some (.slice Ap l.length cp):=BK.out.cell 6;have hlen:((l.length:Nat):Int)<=24:=(by omega);obtain ⟨nl,hnl⟩:=nm (l.length);obtain ⟨at_,hat⟩:=nm (S.at_);rw [<- hnl] at c6 hlen;rw [<- hat] at c9 h49 hfew;have HNL:=zh hnl;have HAT:=zh hat;have hati:(0:Int)<=(at_:Int):=(by omega);clear hnl hat
   by_cases hend:nl<=at_
   ·
    have hge:((nl:Nat):Int)<=(at_:Int):=by omega
    go_wp2_with fail;go_quiet (fail);go_wp2_with fail;go_step3;refine ⟨0,?_,rfl,rfl,rfl,rfl,zh (.inr (.inr ⟨rfl,rfl,L,?_,HS.out.mv.fr_ ((Fr.refl _ _ _).drewN _)⟩))⟩
    · rw [HN.out];rw [HAT.out] at h49;omega
    · rw [<- HS.out.res,runE_end (by rw [<- HAT.out,<- HNL.out];exact hend)];exact HM.out.mv ((Fr.refl _ _ _).drewN _)
   ·
    have hlt:(at_:Int) < ((nl:Nat):Int):=by omega
    go_wp2_with fail;go_quiet (fail);have fd:=(Fr.refl w.heap.size [] w).drewN nq;have HS1:=zh (HS.out.mvw fd);have HM1:=zh (HM.out.mv fd);have BI1:=zh (BI.out.drewN nq);have BK1:=zh (BK.out.drewN nq);clear fd HS HM BI BK c9 c6;generalize w.drewN nq=w1 at *;obtain ⟨i,hi⟩:∃ i,l[at_]?=some i:=⟨_,List.getElem?_eq_getElem (by rw [<- HNL.out];omega)⟩;have HI:=zh hi;obtain ⟨bp,op,hAp,hbp,p0,p1⟩:=reads_ins (HRD.out L w1 HS1.out.mv) hi;subst hAp;obtain ⟨ip,ia⟩:=i;simp only at p0 p1;have c9:w1.cell? ⟨g,9,none⟩=some (.int .i64 (at_:Int)):=(by rw [HAT.out];exact BK1.out.cell 9);have c6:w1.cell? ⟨g,6,none⟩=some (.slice (some ⟨bp,op,none⟩) nl cp):=(by rw [HNL.out];exact BK1.out.cell 6);have g0:=BI1.out.cell 0;have g1:=BI1.out.cell 1;have z0:=BI1.out.frozen 0;have z1:=BI1.out.frozen 1;simp at g0 g1;clear hi;go_upto_region 2 with fail;go_region;have fI:=(((Fr.refl w1.heap.size [gi] w1).setCell (p:=⟨gi,0,none⟩) (.inr (by simp)) (.int .i64 ip)).setCell (p:=⟨gi,1,none⟩) (.inr (by simp)) (.int .i64 ia)).drew;have HS2:=zh (HS1.out.far fI);have HM2:=zh (HM1.out.far fI HS1.out.new_.1);have BI2:=((BI1.out.set_ 0 (.int .i64 ip)).set_ 1 (.int .i64 ia)).drew;simp only [List.setIfInBounds_toArray,List.set_cons_zero,List.set_cons_succ] at BI2;replace BI2:=zh BI2;clear fI HS1 HM1 BI1 BK1 p0 p1 c9 c6 g0 g1 z0 z1;generalize ((w1.setCell ⟨gi,0,none⟩ (.int .i64 ip)).setCell ⟨gi,1,none⟩ (.int .i64 ia)).drew=w2 at *;obtain ⟨vo2,vs2,hbk⟩:=HM2.out.blk;have c9:w2.cell? ⟨g,9,none⟩=some (.int .i64 (at_:Int)):=(by rw [HAT.out];exact hbk.cell 9);have z9:=hbk.frozen 9;have hgL:=HM2.out.own;have hwr:wrap64 ((at_:Int)+1)=(at_:Int)+1:=(by unfold wrap64;omega);clear hbk;go_upto_region 4 with fail;have HM3:=zh (show MC b0 g (.slice (some ⟨bp,op,none⟩) l.length cp) { S with at_:=at_+1 } L (w2.setCell ⟨g,9,none⟩ (.int .i64 ((at_:Int)+1))) from HM2.out.at_ (at_+1));have HV3:=zh (HS2.out.mv.set_ (p:=⟨g,9,none⟩) hgL (.int .i64 ((at_:Int)+1)));have BI3:=zh (BI2.out.far (p:=⟨g,9,none⟩) (Ne.symm hgne) (.int .i64 ((at_:Int)+1)));clear c9 z9 HM2 BI2 hwr;generalize w2.setCell ⟨g,9,none⟩ (.int .i64 ((at_:Int)+1))=w3 at *;obtain ⟨vo3,vs3,hbk⟩:=HM3.out.blk;obtain ⟨st,hst⟩:=nm (S.st);have c5:w3.cell? ⟨g,5,none⟩=some (.int .i64 st):=(by rw [hst];exact hbk.cell 5);have z5:=hbk.frozen 5;have HST:=zh hst;clear hbk hst;go_upto_region 5 with fail
    have HM4 := zh (show MC b0 g (.slice (some ⟨bp, op, none⟩) l.length cp) (nextM S) L (w3.setCell ⟨g, 5, none⟩ (.int .i64 (wrap64 (st + 1)))) by
     have h:=HM3.out.st_ (wrap64 (st+1));rw [HST.out,HAT.out] at h;rw [HST.out]
     exact h)
    have HV4:=zh (HV3.out.set_ (p:=⟨g,5,none⟩) hgL (.int .i64 (wrap64 (st+1))));have BI4:=zh (BI3.out.far (p:=⟨g,5,none⟩) (Ne.symm hgne) (.int .i64 (wrap64 (st+1))));clear c5 z5 HM3 HV3 BI3;generalize w3.setCell ⟨g,5,none⟩ (.int .i64 (wrap64 (st+1)))=w4 at *;clear HST;have b0':=BI4.out.cell 0;have b1':=BI4.out.cell 1;simp at b0' b1';go_upto_region 7 with fail;obtain ⟨hr1,hr2,hr3,hr4⟩:=right_jump (HP.out.fit.2 (ip,ia) (List.mem_of_getElem? HI.out));have HIT:=zh (show l[S.at_]?=some (ip,ia) by rw [<- HAT.out];exact HI.out);have HTK:=zh (fun (h0:ip ≠ 0)=>(HS2.out.inv.act HP.out HIT.out h0).2);have HSN:=zh (fun (h0:ip ≠ 0) (S':MS) (L':List Nat) (w':World) (hS:actM (ip,ia) (nextM S)=S') (hg:gi ∉ L') (hv:Mv L0 w0 L' w')=>HS2.out.next HP.out HIT.out h0 hS hg hv);have HHA:=zh (fun (h0:ip=0)=>(HS2.out.res.symm.trans (runE_halt HIT.out h0):F=nextM S));have HLT:=zh (show 2 * (100 - (S.at_+1)) < n by rw [HN.out];rw [HAT.out] at h49;omega);have HLJ:=zh (show 2 * (100 - (S.at_+1))+1 < n by rw [HN.out];rw [HAT.out] at h49;omega);have h49':(nextM S).at_<=49:=(by show S.at_+1<=49;rw [<- HAT.out];omega);have HPJ:=zh (fun (h0:ip ≠ 0)=>(HS2.out.inv.act HP.out HIT.out h0).1.at_);have hgi4:gi < w4.heap.size:=BI4.out.lt;have HGL:=zh HS2.out.new_.1;have hb4:b0<=w4.heap.size:=Nat.le_trans HS2.out.base0 HV4.out.fr.size;have hTS:(nextM S).s.length<=8:=h8;have hTO:(nextM S).o.length<=49:=(by show S.o.length<=49;omega);have hc1:(nextM S).x=S.x:=rfl;obtain ⟨vo4,vs4,hbk⟩:=HM4.out.blk;have BK4:=zh hbk;have hTL:(nextM S).s.length=S.s.length:=rfl;clear hbk HS2 HN HI b0' b1';have hop:ip=0 \/ ip=1 \/ ip=2 \/ ip=3 \/ ip=4 \/ ip=5 \/ ip=6 \/ ip=7 \/ ip=8 \/ ip=9 \/ ip=10 \/ ip=11 \/ ip=12 \/ ip=13 \/ ip=14 \/ ip=15 \/ ip=16 \/ ip=17:=(by simp only at hr1;omega);have b0':=BI4.out.cell 0;have b1':=BI4.out.cell 1;simp at b0' b1';clear hr1
    rcases hop with rfl | rfl | rfl | rfl | rfl | rfl | rfl | rfl | rfl | rfl | rfl | rfl | rfl | rfl | rfl | rfl | rfl | rfl
    · go_wp2_with fail;go_step3;refine ⟨0,by have:=HLT.out;omega,rfl,rfl,rfl,rfl,zh (.inr (.inr ⟨rfl,rfl,L,?_,HV4.out⟩))⟩;rw [HHA.out (by first | rfl | trivial)];exact HM4.out
    · go_wp2_with fail;refine (push_any b0 g _ (nextM S) L (ia,0) w4 HM4.out (by omega) (by omega)).mono ?_;rintro e w5 ⟨rfl,L5,m5,v5⟩;have b5:=BI4.out.fr v5.fr hgi4 HGL.out;have hg5:=v5.old hgi4 HGL.out;have hs5:=HSN.out (by decide) _ L5 w5 (rfl) hg5 (HV4.out.trans v5);go_wp2_with fail;go_step3;exact ⟨_,HLT.out,rfl,rfl,rfl,rfl,zh (.inl ⟨rfl,_,L5,_,_,rfl,hs5,m5,b5⟩)⟩
    · go_wp2_with fail;refine (push_any b0 g _ (nextM S) L (0,ia) w4 HM4.out (by omega) (by omega)).mono ?_;rintro e w5 ⟨rfl,L5,m5,v5⟩;have b5:=BI4.out.fr v5.fr hgi4 HGL.out;have hg5:=v5.old hgi4 HGL.out;have hs5:=HSN.out (by decide) _ L5 w5 (rfl) hg5 (HV4.out.trans v5);go_wp2_with fail;go_step3;exact ⟨_,HLT.out,rfl,rfl,rfl,rfl,zh (.inl ⟨rfl,_,L5,_,_,rfl,hs5,m5,b5⟩)⟩
    · have c7:w4.cell? ⟨g,7,none⟩=some (.int .i64 S.x.1):=BK4.out.cell 7;have c8:w4.cell? ⟨g,8,none⟩=some (.int .i64 S.x.2):=BK4.out.cell 8;go_wp2_with fail;refine (push_any b0 g _ (nextM S) L S.x w4 HM4.out (by omega) (by omega)).mono ?_;rintro e w5 ⟨rfl,L5,m5,v5⟩;have b5:=BI4.out.fr v5.fr hgi4 HGL.out;have hg5:=v5.old hgi4 HGL.out;have hs5:=HSN.out (by decide) _ L5 w5 (rfl) hg5 (HV4.out.trans v5);go_wp2_with fail;go_step3;exact ⟨_,HLT.out,rfl,rfl,rfl,rfl,zh (.inl ⟨rfl,_,L5,_,_,rfl,hs5,m5,b5⟩)⟩
    ·
     have hj:=hr3 (.inl rfl);have ha:ia=0 \/ ia=1:=(by simp only at hj;omega)
     rcases ha with rfl | rfl
     ·
      have c1:w4.cell? ⟨g,1,none⟩=some (.int .i64 S.c.1.1):=BK4.out.cell 1;have c2:w4.cell? ⟨g,2,none⟩=some (.int .i64 S.c.1.2):=BK4.out.cell 2;go_upto_region 15 with fail;go_region_law ((rw [if_pos (by rfl)];go_simp;refine (push_any b0 g _ (nextM S) L S.c.1 _ (HM4.out.mv (Fr.refl _ _ _).drew) (by simp;omega) (by omega)).mono ?_;rintro e w5 ⟨rfl,L5,m5,v5⟩;dsimp only))
      all_goals
       replace v5:=((Mv.refl L w4).fr_ (Fr.refl _ _ _).drew).trans v5;have b5:=BI4.out.fr v5.fr hgi4 HGL.out;have hg5:=v5.old hgi4 HGL.out;have hs5:=HSN.out (by decide) _ L5 w5 (rfl) hg5 (HV4.out.trans v5);go_wp2_with fail;go_step3;exact ⟨_,HLT.out,rfl,rfl,rfl,rfl,zh (.inl ⟨rfl,_,L5,_,_,rfl,hs5,m5,b5⟩)⟩
     
     ·
      have c1:w4.cell? ⟨g,3,none⟩=some (.int .i64 S.c.2.1):=BK4.out.cell 3;have c2:w4.cell? ⟨g,4,none⟩=some (.int .i64 S.c.2.2):=BK4.out.cell 4;go_upto_region 15 with fail;go_region_law ((rw [if_pos (by rfl)];go_simp;refine (push_any b0 g _ (nextM S) L S.c.2 _ (HM4.out.mv (Fr.refl _ _ _).drew) (by simp;omega) (by omega)).mono ?_;rintro e w5 ⟨rfl,L5,m5,v5⟩;dsimp only))
      all_goals
       replace v5:=((Mv.refl L w4).fr_ (Fr.refl _ _ _).drew).trans v5;have b5:=BI4.out.fr v5.fr hgi4 HGL.out;have hg5:=v5.old hgi4 HGL.out;have hs5:=HSN.out (by decide) _ L5 w5 (rfl) hg5 (HV4.out.trans v5);go_wp2_with fail;go_step3;exact ⟨_,HLT.out,rfl,rfl,rfl,rfl,zh (.inl ⟨rfl,_,L5,_,_,rfl,hs5,m5,b5⟩)⟩
     
     
    ·
     have hj:=hr3 (.inr rfl);have ha:ia=0 \/ ia=1:=(by simp only at hj;omega);have htk:0 < (nextM S).s.length:=(by have h1:=HTK.out (by decide);have h2:takesF 5=1:=rfl;simp only [h2] at h1;omega)
     rcases ha with rfl | rfl
     ·
      go_upto_region 17 with fail;go_region_law ((rw [if_pos (by rfl)];go_simp;refine (pop_any b0 g _ (nextM S) L _ (HM4.out.mv (Fr.refl _ _ _).drew) (by simp;omega) htk (by omega)).mono ?_;rintro e w5 ⟨rfl,L5,m5,v5⟩;obtain ⟨vo5,vs5,hb5⟩:=m5.blk;have q1:=hb5.cell 1;have q2:=hb5.cell 2;have z1:=hb5.frozen 1;have z2:=hb5.frozen 2;simp [mcA,popM] at q1 q2;have k1:=(BI4.out.drew.fr v5.fr hgi4 HGL.out).cell 1;simp at k1;dsimp only))
      all_goals
       replace v5:=((Mv.refl L w4).fr_ (Fr.refl _ _ _).drew).trans v5;have hgL5:=m5.own;have b5:=BI4.out.fr v5.fr hgi4 HGL.out;have hg5:=v5.old hgi4 HGL.out;have m6:=m5.c0_ (topV (nextM S).s);have v6:=((HV4.out.trans v5).set_ (p:=⟨g,1,none⟩) hgL5 (.int .i64 (topV (nextM S).s).1)).set_ (p:=⟨g,2,none⟩) hgL5 (.int .i64 (topV (nextM S).s).2);have b6:=(b5.far (p:=⟨g,1,none⟩) (Ne.symm hgne) (.int .i64 (topV (nextM S).s).1)).far (p:=⟨g,2,none⟩) (Ne.symm hgne) (.int .i64 (topV (nextM S).s).2);have hs6:=HSN.out (by decide) _ L5 _ (rfl) hg5 v6;go_wp2_with fail;go_step3;exact ⟨_,HLT.out,rfl,rfl,rfl,rfl,zh (.inl ⟨rfl,_,L5,_,_,rfl,hs6,m6,b6⟩)⟩
     ·
      go_upto_region 17 with fail;go_region_law ((rw [if_pos (by rfl)];go_simp;refine (pop_any b0 g _ (nextM S) L _ (HM4.out.mv (Fr.refl _ _ _).drew) (by simp;omega) htk (by omega)).mono ?_;rintro e w5 ⟨rfl,L5,m5,v5⟩;obtain ⟨vo5,vs5,hb5⟩:=m5.blk;have q1:=hb5.cell 3;have q2:=hb5.cell 4;have z1:=hb5.frozen 3;have z2:=hb5.frozen 4;simp [mcA,popM] at q1 q2;have k1:=(BI4.out.drew.fr v5.fr hgi4 HGL.out).cell 1;simp at k1;dsimp only))
      all_goals
       replace v5:=((Mv.refl L w4).fr_ (Fr.refl _ _ _).drew).trans v5;have hgL5:=m5.own;have b5:=BI4.out.fr v5.fr hgi4 HGL.out;have hg5:=v5.old hgi4 HGL.out;have m6:=m5.c1_ (topV (nextM S).s);have v6:=((HV4.out.trans v5).set_ (p:=⟨g,3,none⟩) hgL5 (.int .i64 (topV (nextM S).s).1)).set_ (p:=⟨g,4,none⟩) hgL5 (.int .i64 (topV (nextM S).s).2);have b6:=(b5.far (p:=⟨g,3,none⟩) (Ne.symm hgne) (.int .i64 (topV (nextM S).s).1)).far (p:=⟨g,4,none⟩) (Ne.symm hgne) (.int .i64 (topV (nextM S).s).2);have hs6:=HSN.out (by decide) _ L5 _ (rfl) hg5 v6;go_wp2_with fail;go_step3;exact ⟨_,HLT.out,rfl,rfl,rfl,rfl,zh (.inl ⟨rfl,_,L5,_,_,rfl,hs6,m6,b6⟩)⟩
     
    ·
     have htk:2<=(nextM S).s.length:=by have h1:=HTK.out (by decide);have h2:takesF 6=2:=rfl;simp only [h2] at h1;omega
     go_wp2_with fail;refine (two_any b0 g _ (nextM S) L 6 w4 HM4.out (by omega) htk (by omega) (by decide)).mono ?_;rintro e w5 ⟨rfl,L5,m5,v5⟩;have b5:=BI4.out.fr v5.fr hgi4 HGL.out;have hg5:=v5.old hgi4 HGL.out;have hs5:=HSN.out (by decide) _ L5 w5 (rfl) hg5 (HV4.out.trans v5);go_wp2_with fail;go_step3;exact ⟨_,HLT.out,rfl,rfl,rfl,rfl,zh (.inl ⟨rfl,_,L5,_,_,rfl,hs5,m5,b5⟩)⟩
    ·
     have htk:2<=(nextM S).s.length:=by have h1:=HTK.out (by decide);have h2:takesF 7=2:=rfl;simp only [h2] at h1;omega
     go_wp2_with fail;refine (two_any b0 g _ (nextM S) L 7 w4 HM4.out (by omega) htk (by omega) (by decide)).mono ?_;rintro e w5 ⟨rfl,L5,m5,v5⟩;have b5:=BI4.out.fr v5.fr hgi4 HGL.out;have hg5:=v5.old hgi4 HGL.out;have hs5:=HSN.out (by decide) _ L5 w5 (rfl) hg5 (HV4.out.trans v5);go_wp2_with fail;go_step3;exact ⟨_,HLT.out,rfl,rfl,rfl,rfl,zh (.inl ⟨rfl,_,L5,_,_,rfl,hs5,m5,b5⟩)⟩
    ·
     have htk:2<=(nextM S).s.length:=by have h1:=HTK.out (by decide);have h2:takesF 8=2:=rfl;simp only [h2] at h1;omega
     go_wp2_with fail;refine (two_any b0 g _ (nextM S) L 8 w4 HM4.out (by omega) htk (by omega) (by decide)).mono ?_;rintro e w5 ⟨rfl,L5,m5,v5⟩;have b5:=BI4.out.fr v5.fr hgi4 HGL.out;have hg5:=v5.old hgi4 HGL.out;have hs5:=HSN.out (by decide) _ L5 w5 (rfl) hg5 (HV4.out.trans v5);go_wp2_with fail;go_step3;exact ⟨_,HLT.out,rfl,rfl,rfl,rfl,zh (.inl ⟨rfl,_,L5,_,_,rfl,hs5,m5,b5⟩)⟩
    ·
     have htk:1<=(nextM S).s.length:=by have h1:=HTK.out (by decide);have h2:takesF 9=1:=rfl;simp only [h2] at h1;omega
     go_wp2_with fail;refine (top_any b0 g _ (nextM S) L 9 w4 HM4.out (by omega) (by omega) (by intro _;omega) (by omega) (by omega) (by decide)).mono ?_;rintro e w5 ⟨rfl,L5,m5,v5⟩;have b5:=BI4.out.fr v5.fr hgi4 HGL.out;have hg5:=v5.old hgi4 HGL.out;have hs5:=HSN.out (by decide) _ L5 w5 (rfl) hg5 (HV4.out.trans v5);go_wp2_with fail;go_step3;exact ⟨_,HLT.out,rfl,rfl,rfl,rfl,zh (.inl ⟨rfl,_,L5,_,_,rfl,hs5,m5,b5⟩)⟩
    ·
     have htk:1<=(nextM S).s.length:=by have h1:=HTK.out (by decide);have h2:takesF 10=1:=rfl;simp only [h2] at h1;omega
     go_wp2_with fail;refine (top_any b0 g _ (nextM S) L 10 w4 HM4.out (by omega) (by omega) (by intro _;omega) (by omega) (by omega) (by decide)).mono ?_;rintro e w5 ⟨rfl,L5,m5,v5⟩;have b5:=BI4.out.fr v5.fr hgi4 HGL.out;have hg5:=v5.old hgi4 HGL.out;have hs5:=HSN.out (by decide) _ L5 w5 (rfl) hg5 (HV4.out.trans v5);go_wp2_with fail;go_step3;exact ⟨_,HLT.out,rfl,rfl,rfl,rfl,zh (.inl ⟨rfl,_,L5,_,_,rfl,hs5,m5,b5⟩)⟩
    ·
     have htk:1<=(nextM S).s.length:=by have h1:=HTK.out (by decide);have h2:takesF 11=1:=rfl;simp only [h2] at h1;omega
     go_wp2_with fail;refine (top_any b0 g _ (nextM S) L 11 w4 HM4.out (by omega) (by omega) (by intro _;omega) (by omega) (by omega) (by decide)).mono ?_;rintro e w5 ⟨rfl,L5,m5,v5⟩;have b5:=BI4.out.fr v5.fr hgi4 HGL.out;have hg5:=v5.old hgi4 HGL.out;have hs5:=HSN.out (by decide) _ L5 w5 (rfl) hg5 (HV4.out.trans v5);go_wp2_with fail;go_step3;exact ⟨_,HLT.out,rfl,rfl,rfl,rfl,zh (.inl ⟨rfl,_,L5,_,_,rfl,hs5,m5,b5⟩)⟩
    ·
     have htk:2<=(nextM S).s.length:=by have h1:=HTK.out (by decide);have h2:takesF 12=2:=rfl;simp only [h2] at h1;omega
     go_wp2_with fail;refine (top_any b0 g _ (nextM S) L 12 w4 HM4.out (by omega) (by omega) (by intro _;omega) (by omega) (by omega) (by decide)).mono ?_;rintro e w5 ⟨rfl,L5,m5,v5⟩;have b5:=BI4.out.fr v5.fr hgi4 HGL.out;have hg5:=v5.old hgi4 HGL.out;have hs5:=HSN.out (by decide) _ L5 w5 (rfl) hg5 (HV4.out.trans v5);go_wp2_with fail;go_step3;exact ⟨_,HLT.out,rfl,rfl,rfl,rfl,zh (.inl ⟨rfl,_,L5,_,_,rfl,hs5,m5,b5⟩)⟩
    ·
     have htk:1<=(nextM S).s.length:=by have h1:=HTK.out (by decide);have h2:takesF 13=1:=rfl;simp only [h2] at h1;omega
     go_wp2_with fail;refine (top_any b0 g _ (nextM S) L 13 w4 HM4.out (by omega) (by omega) (by intro _;omega) (by omega) (by omega) (by decide)).mono ?_;rintro e w5 ⟨rfl,L5,m5,v5⟩;have b5:=BI4.out.fr v5.fr hgi4 HGL.out;have hg5:=v5.old hgi4 HGL.out;have hs5:=HSN.out (by decide) _ L5 w5 (rfl) hg5 (HV4.out.trans v5);go_wp2_with fail;go_step3;exact ⟨_,HLT.out,rfl,rfl,rfl,rfl,zh (.inl ⟨rfl,_,L5,_,_,rfl,hs5,m5,b5⟩)⟩
    ·
     have htk:1<=(nextM S).s.length:=by have h1:=HTK.out (by decide);have h2:takesF 14=1:=rfl;simp only [h2] at h1;omega
     go_wp2_with fail;refine (top_any b0 g _ (nextM S) L 14 w4 HM4.out (by omega) (by omega) (by intro _;omega) (by omega) (by omega) (by decide)).mono ?_;rintro e w5 ⟨rfl,L5,m5,v5⟩;have b5:=BI4.out.fr v5.fr hgi4 HGL.out;have hg5:=v5.old hgi4 HGL.out;have hs5:=HSN.out (by decide) _ L5 w5 (rfl) hg5 (HV4.out.trans v5);go_wp2_with fail;go_step3;exact ⟨_,HLT.out,rfl,rfl,rfl,rfl,zh (.inl ⟨rfl,_,L5,_,_,rfl,hs5,m5,b5⟩)⟩
    ·
     have hj:=hr2 (.inl rfl);have htk:0 < (nextM S).s.length:=(by have h1:=HTK.out (by decide);have h2:takesF 15=1:=rfl;simp only [h2] at h1;omega);go_wp2_with fail;refine (pop_any b0 g _ (nextM S) L w4 HM4.out (by omega) htk (by omega)).mono ?_;rintro e w5 ⟨rfl,L5,m5,v5⟩;have HB5:=zh (BI4.out.fr v5.fr hgi4 HGL.out);have HG5:=zh (v5.old hgi4 HGL.out);have HM5:=zh m5;have HV5:=zh (HV4.out.trans v5);obtain ⟨zv,hzv⟩:=nm (zeroV (topV (nextM S).s));have HZV:=zh hzv;have HZ:=zh (fun w=>(gzero_any (topV (nextM S).s) w:Calls Tryz.prog 249 _ w _));obtain ⟨tv,htv⟩:=nm (topV (nextM S).s);rw [<- htv] at HZ ⊢;have HZ2:=zh (show decide (cen tv.1=0/\cen tv.2=0)=zv by rw [hzv,htv];rfl);clear m5 v5 hzv htv;go_wp2_with fail;refine (HZ.out w5).mono ?_;rw [HZ2.out];rintro e w6 ⟨rfl,f6⟩;have hB6:=HB5.out.fr f6 HB5.out.lt (by simp);have hM6:=HM5.out.mv f6;have hV6:=HV5.out.fr_ f6
     cases zv with
     | true =>
      go_wp2_with fail;go_step3;exact ⟨_,HLJ.out,rfl,rfl,rfl,rfl,zh (.inr (.inl ⟨rfl,popM (nextM S),L5,15,ia,rfl,h49',hj.1,hj.2,HSN.out (by decide) _ L5 w6 (by show jzM ia (nextM S)=_;unfold jzM;rw [if_pos HZV.out.symm];rfl) HG5.out hV6,hM6,hB6⟩))⟩
     | false =>
      have hs5:=HSN.out (by decide) (popM (nextM S)) L5 w6 (by show jzM ia (nextM S)=_;unfold jzM;rw [if_neg (by rw [<- HZV.out];decide)];rfl) HG5.out hV6;go_wp2_with fail;go_step3;exact ⟨_,HLT.out,rfl,rfl,rfl,rfl,zh (.inl ⟨rfl,_,L5,_,_,rfl,hs5,hM6,hB6⟩)⟩
    · have hj:=hr2 (.inr rfl);go_wp2_with fail;go_step3;exact ⟨_,HLJ.out,rfl,rfl,rfl,rfl,zh (.inr (.inl ⟨rfl,nextM S,L,16,ia,rfl,h49',hj.1,hj.2,HSN.out (by decide) _ L w4 rfl HGL.out HV4.out,HM4.out,BI4.out⟩))⟩
    ·
     have htk:2<=(nextM S).s.length:=by have h1:=HTK.out (by decide);have h2:takesF 17=2:=rfl;simp only [h2] at h1;omega
     go_wp2_with fail;refine (two_any b0 g _ (nextM S) L 17 w4 HM4.out (by omega) htk (by omega) (by decide)).mono ?_;rintro e w5 ⟨rfl,L5,m5,v5⟩;have b5:=BI4.out.fr v5.fr hgi4 HGL.out;have hg5:=v5.old hgi4 HGL.out;have hs5:=HSN.out (by decide) _ L5 w5 (rfl) hg5 (HV4.out.trans v5);go_wp2_with fail;go_step3;exact ⟨_,HLT.out,rfl,rfl,rfl,rfl,zh (.inl ⟨rfl,_,L5,_,_,rfl,hs5,m5,b5⟩)⟩
  ·
   refine ⟨_,.inl rfl,?_⟩;have HS:=zh hs;have HM:=zh hm;have BI:=zh hbi;have HN:=zh hn;obtain ⟨vo,vs,hbk⟩:=hm.blk;have BK:=zh hbk;have hgL:=hm.own;clear HJ hs hm hbi hbk hn;obtain ⟨at_,hat⟩:=nm (S.at_);have HAT:=zh hat;rw [<- hat] at h49;have c9:w.cell? ⟨g,9,none⟩=some (.int .i64 (at_:Int)):=(by rw [hat];exact BK.out.cell 9);have z9:=BK.out.frozen 9;have b1:=BI.out.cell 1;simp at b1;have hwr:wrap64 ((at_:Int)+y)=(at_:Int)+y:=(by unfold wrap64;omega);clear hat BK;go_wp2_with fail;go_region;have hyn:((y.toNat:Nat):Int)=y:=(by omega);have HM2:=HM.out.at_ (at_+y.toNat);have hv2:(((at_+y.toNat:Nat)):Int)=(at_:Int)+y:=(by omega);rw [hv2] at HM2;have HV2:=HS.out.mv.set_ (p:=⟨g,9,none⟩) hgL (.int .i64 ((at_:Int)+y));have BI2:=BI.out.far (p:=⟨g,9,none⟩) (Ne.symm hgne) (.int .i64 ((at_:Int)+y));have HS2:RunS l D b0 g gi (.slice Ap l.length cp) F L0 w0 (jumpM y S) L (w.setCell ⟨g,9,none⟩ (.int .i64 ((at_:Int)+y))):=⟨HS.out.inv,HS.out.new_,HV2,HS.out.res,HS.out.few,Nat.le_trans HS.out.base0 HV2.fr.size,HS.out.base0⟩;have HM3:MC b0 g (.slice Ap l.length cp) (jumpM y S) L (w.setCell ⟨g,9,none⟩ (.int .i64 ((at_:Int)+y))):=(by rw [show (jumpM y S)={ S with at_:=at_+y.toNat } by rw [HAT.out];rfl];exact HM2);go_wp2_with fail;go_step3;refine ⟨_,?_,rfl,rfl,rfl,rfl,zh (.inl ⟨rfl,jumpM y S,L,_,_,rfl,HS2.mvw (Fr.refl _ _ (w.setCell ⟨g,9,none⟩ (.int .i64 ((at_:Int)+y)))).drew,HM3.mv (Fr.refl _ _ (w.setCell ⟨g,9,none⟩ (.int .i64 ((at_:Int)+y)))).drew,BI2.drew⟩)⟩;rw [HN.out]
   show 2 * (100 - (S.at_+y.toNat)) < _
   rw [<- HAT.out];omega
  · refine ⟨.skip,.inr ⟨rfl,by intro d h;cases h⟩,?_⟩;go_wp2_with fail;simp only [jumpsX];go_end0;exact ⟨rfl,L,hm,hv⟩
theorem vxindex_any (F:FuncId) (cap:Array Value) (p:Int × Int->Bool) (A:Option Addr) (c B n:Nat) (l:List (Int × Int)) (w:World) (hent:∀ (args:Array Value) (w:World),(callFunc F args).run Tryz.prog w=.ok (.enter F args) w)
  (hF:∀ (x:Int × Int) (w':World),x ∈ l->Fr w.heap.size [] w w'->Calls Tryz.prog F (#[.agg #[.int .i64 x.1,.int .i64 x.2]] ++ cap) w' fun e w''=>e=.returned (.bool (p x))/\Fr w'.heap.size [] w' w'')
  (hn:n=l.length) (hm:n<=1000000) (hr:Reads w B 2 A n (cellsV l)) (hB:B<=w.heap.size) :
  Calls Tryz.prog 246 #[.slice A n c,.func (.func F) #[] cap] w fun e w'=>∃ i:Int,e=.returned (.int .i64 i)/\decide (0<=i)=l.any p/\Fr w.heap.size [] w w':=by
 have HF:=zh hF;have HR:=zh hr;have HN:=zh hn;clear hF hr hn;go_enter Tryz.func246,Tryz.ntmps246;go_wp2_with fail;go_loopg [8] n (fun g s8 wr=>∃ k:Nat,k<=n/\g=n - k/\s8=.int .i64 k/\Hid (∀ j y,j < k->l[j]?=some y->p y=false)/\Hid (Fr w.heap.size [] w wr))
 case atStart=>exact ⟨0,Nat.zero_le _,rfl,rfl,zh (fun j y h=>absurd h (by omega)),zh (Fr.refl _ _ _)⟩
 case round =>
  obtain ⟨k,hk,rfl,rfl,HP,FR⟩:=hrel
  by_cases hkn:k < n
  ·
   have hki:(k:Int) < (n:Int):=by omega
   have hk0:(0:Int)<=(k:Int):=(by omega);obtain ⟨x,hx⟩:∃ x,l[k]?=some x:=⟨_,List.getElem?_eq_getElem (by rw [<- HN.out];exact hkn)⟩;obtain ⟨b,off,rfl,hb,p0,p1⟩:=reads_val (by rw [<- HN.out];exact HR.out.fr FR.out hB (by simp)) hx;have HC:=HF.out x wr (List.mem_of_getElem? hx) FR.out;have HX:=zh hx;clear hx;obtain ⟨bb,hbb⟩:=nm (p x);rw [<- hbb] at HC;have HC:=zh HC;have HPX:=zh hbb;clear hbb
   cases bb with
   | true =>
    go_wp2_with fail;refine HC.out.mono ?_;rintro e w2 ⟨rfl,f2⟩;have F2:=zh (FR.out.nx f2);clear f2 HC;go_wp2_with fail;go_ret;refine ⟨k,rfl,?_,F2.out⟩;rw [List.any_eq_true.2 ⟨x,List.mem_of_getElem? HX.out,HPX.out.symm⟩];simp
   | false =>
    go_wp2_with fail;refine HC.out.mono ?_;rintro e w2 ⟨rfl,f2⟩;have F2:=zh (FR.out.nx f2);clear f2 HC;go_wp2_with fail;go_roundg (n - (k+1))
    case measure=>omega
    case rel =>
     refine ⟨k+1,by omega,rfl,by go_num,zh fun j y hj hy => ?_,F2⟩
     rcases Nat.lt_or_ge j k with h | h
     · exact HP.out j y h hy
     ·
      have:j=k:=by omega
      subst this;rw [HX.out] at hy;injection hy with hy
      rw [<- hy];exact HPX.out.symm
  ·
   obtain rfl:k=n:=by omega
   go_wp2_with fail;go_ret;refine ⟨-1,rfl,?_,FR.out⟩
   symm
   rw [show decide ((0:Int) <= -1)=false by simp,List.any_eq_false];intro x hx;obtain ⟨j,hj,rfl⟩:=List.mem_iff_getElem.1 hx;rw [HP.out j _ (by rw [HN.out];exact hj) (List.getElem?_eq_getElem hj)];simp
theorem vxcontains_any (F:FuncId) (cap:Array Value) (p:Int × Int->Bool) (A:Option Addr) (c B n:Nat) (l:List (Int × Int)) (w:World) (hent:∀ (args:Array Value) (w:World),(callFunc F args).run Tryz.prog w=.ok (.enter F args) w)
  (hF:∀ (x:Int × Int) (w':World),x ∈ l->Fr w.heap.size [] w w'->Calls Tryz.prog F (#[.agg #[.int .i64 x.1,.int .i64 x.2]] ++ cap) w' fun e w''=>e=.returned (.bool (p x))/\Fr w'.heap.size [] w' w'')
  (hn:n=l.length) (hm:n<=1000000) (hr:Reads w B 2 A n (cellsV l)) (hB:B<=w.heap.size) :
  Calls Tryz.prog 238 #[.slice A n c,.func (.func F) #[] cap] w fun e w'=>e=.returned (.bool (l.any p))/\Fr w.heap.size [] w w':=by
 have H:=zh (vxindex_any F cap p A c B n l w hent hF hn hm hr hB);obtain ⟨b,hb⟩:=nm (l.any p);rw [<- hb] at H ⊢;clear hF hn hr hb;go_enter Tryz.func238,Tryz.ntmps238;go_wp2_with fail;refine H.out.mono ?_;rintro e w1 ⟨i,rfl,hi,f1⟩;have F1:=zh f1;have HI:=zh hi;clear hi f1 H;go_wp2_with fail;go_ret;exact ⟨by rw [<- HI.out];rfl,F1.out⟩
def vOkB (v:Int × Int):Bool:=valB v.1 v.2
theorem vwrong_any (x:Int × Int) (w:World):Calls Tryz.prog 239 #[.agg #[.int .i64 x.1,.int .i64 x.2]] w fun e w'=>e=.returned (.bool (!vOkB x))/\Fr w.heap.size [] w w':=by
 have HC:=zh (gright_any x.1 x.2);have fa:=(Fr.refl w.heap.size [] w).alloc (Nat.le_refl _) (.cells #[.int .i64 x.1,.int .i64 x.2] 48);have BX:=zh (Blk.new w 48 #[.int .i64 x.1,.int .i64 x.2]);have FA:=zh fa;have HV:=zh (show valB x.1 x.2=vOkB x from rfl);generalize vOkB x=v at *;clear fa;go_enter Tryz.func239,Tryz.ntmps239;go_upto_region 1 with fail;generalize w.alloc _=w1 at *;obtain ⟨gx,hgx⟩:=nm (w.heap.size);rw [<- hgx] at BX ⊢;have HGX:=zh hgx;clear hgx;have q0:=BX.out.cell 0;have q1:=BX.out.cell 1;simp at q0 q1;rw [HV.out] at HC;go_wp2_with fail;refine (HC.out _).mono ?_;rintro e w2 ⟨rfl,f2⟩;have F2:=zh (FA.out.nx f2);clear f2;go_wp2_with fail;go_ret;exact ⟨rfl,F2.out⟩
def mach0 (x:Int × Int) (c:(Int × Int) × (Int × Int)):MS:=⟨[],c,0,x,0,[]⟩
theorem mach0_inv {l:List (Int × Int)} {D:Nat->Int} (P:SafeD l D) {x:Int × Int} {c:(Int × Int) × (Int × Int)} (hx:vOk x) (hc:vOk c.1/\vOk c.2):MInv l D (mach0 x c) :=
 ⟨fun h=>P.zero (List.length_pos_iff.1 h),Nat.zero_le _,Nat.zero_le _,hx,hc,by simp [mach0],by simp [mach0]⟩
theorem runF_ok {l:List (Int × Int)} {D:Nat->Int} (P:SafeD l D):∀ (f:Nat) (S:MS),MInv l D S->(vOk (runF l f S).c.1/\vOk (runF l f S).c.2) /\ ∀ v ∈ (runF l f S).o,vOk v
 | 0,S,I=>⟨I.c,I.o⟩
 | f+1,S,I=>by
  unfold runF
  cases h:l[S.at_]? with
  | none=>exact ⟨I.c,I.o⟩
  | some i =>
   simp only
   split
   · exact ⟨I.c,I.o⟩
   · rename_i h0;exact runF_ok P f _ (I.act P h h0).1
def outP_ (l:List (Int × Int)) (x:Int × Int) (c:(Int × Int) × (Int × Int)):List (Int × Int):=(runE l (mach0 x c)).o
def celP (l:List (Int × Int)) (x:Int × Int) (c:(Int × Int) × (Int × Int)):(Int × Int) × (Int × Int):=(runE l (mach0 x c)).c
theorem prog_ok {l:List (Int × Int)} {D:Nat->Int} (P:SafeD l D) {x:Int × Int} {c:(Int × Int) × (Int × Int)} (hx:vOk x) (hc:vOk c.1/\vOk c.2):(vOk (celP l x c).1/\vOk (celP l x c).2) /\ ∀ v ∈ outP_ l x c,vOk v:=runF_ok P 100 _ (mach0_inv P hx hc)
abbrev c4 (c:(Int × Int) × (Int × Int)):Value:=.agg #[.int .i64 c.1.1,.int .i64 c.1.2,.int .i64 c.2.1,.int .i64 c.2.2]
def RunOut (l:List (Int × Int)) (x:Int × Int) (c:(Int × Int) × (Int × Int)) (w:World) (e:Ending) (w':World):Prop :=
 ∃ A n cc st,n=(outP_ l x c).length/\e=.returned (.tuple #[.agg #[.slice A n cc,.int .i64 (celP l x c).1.1,.int .i64 (celP l x c).1.2,.int .i64 (celP l x c).2.1,.int .i64 (celP l x c).2.2,.int .i64 st],.int .i64 0])/\w'.ownsRow w.heap.size 48 2 (.slice A n cc) n (cellsV (outP_ l x c))/\Fr w.heap.size [] w w'
theorem each_any (Ap:Option Addr) (cp B:Nat) (l:List (Int × Int)) (s:CS) (x:Int × Int) (c:(Int × Int) × (Int × Int)) (gv tv cv:Nat) (w:World) (hsf:chkL l=some s) (hrd:Reads w B 2 Ap l.length (cellsI l)) (hB:B<=w.heap.size) (hx:vOk x) (hc:vOk c.1/\vOk c.2) (hv:Blk w gv tv #[.int .i64 x.1,.int .i64 x.2]) :
  Calls Tryz.prog 229 #[.slice Ap l.length cp,c4 c,.slice (some ⟨gv,0,none⟩) 1 cv] w (RunOut l x c w):=by
 have hP:=safe_of hsf;have h24:=hP.fit.1;have HSF:=zh (fun (wx:World) (hf:Fr w.heap.size [] w wx)=>(safe_yes (hrd.fr hf hB (by simp)) (Nat.le_trans hB hf.size) (by unfold maxLen;omega) hsf:Calls Tryz.prog 197 #[.slice Ap l.length cp] wx _));have HP:=zh hP;have HIN:=zh (mach0_inv hP hx hc);have hR0:RunOut l x c=RunOut l x c:=rfl;obtain ⟨F,hF⟩:=nm (runE l (mach0 x c));have HF:=zh hF;have HV1:=zh (show [c.1,c.2].any (fun v=>!vOkB v)=false by simp [vOkB];exact ⟨hc.1,hc.2⟩);have HV2:=zh (show [x].any (fun v=>!vOkB v)=false by simp [vOkB];exact hx);have HRD:=zh hrd;have HBV:=zh hv;have hgv:=hv.lt;obtain ⟨nl,hnl⟩:=nm (l.length);have HNL:=zh hnl;rw [<- hnl] at HSF h24 ⊢;have fa:=((Fr.refl w.heap.size [] w).alloc (Nat.le_refl _) (.cells #[.int .i64 c.1.1,.int .i64 c.1.2,.int .i64 c.2.1,.int .i64 c.2.2] 109)).alloc (by simp) (.cells #[.slice none 0 0,.int .i64 0,.int .i64 0,.int .i64 0,.int .i64 0,.int .i64 0] 341);have BC:=zh ((Blk.new w 109 #[.int .i64 c.1.1,.int .i64 c.1.2,.int .i64 c.2.1,.int .i64 c.2.2]).alloc (.cells #[.slice none 0 0,.int .i64 0,.int .i64 0,.int .i64 0,.int .i64 0,.int .i64 0] 341));have BR:=Blk.new (w.alloc (.cells #[.int .i64 c.1.1,.int .i64 c.1.2,.int .i64 c.2.1,.int .i64 c.2.2] 109)) 341 #[.slice none 0 0,.int .i64 0,.int .i64 0,.int .i64 0,.int .i64 0,.int .i64 0];rw [World.size_alloc] at BR;have BR:=zh BR;have FA:=zh fa;clear fa hrd hsf hP hF hv hx hc hR0 hnl;go_enter Tryz.func229,Tryz.ntmps229;go_upto_region 1 with fail;obtain ⟨gb,hgb⟩:=nm (w.heap.size);obtain ⟨gr,hgr⟩:=nm (w.heap.size+1);rw [<- hgr] at BR ⊢;rw [<- hgb] at BC FA hB hgv ⊢;have HGB:=zh hgb;have hgbr:gb < gr:=(by omega);clear hgb hgr;generalize (w.alloc (.cells #[.int .i64 c.1.1,.int .i64 c.1.2,.int .i64 c.2.1,.int .i64 c.2.2] 109)).alloc (.cells #[.slice none 0 0,.int .i64 0,.int .i64 0,.int .i64 0,.int .i64 0,.int .i64 0] 341)=w1 at *;have HS1:=zh (HSF.out w1 (by rw [<- HGB.out];exact FA.out));clear HSF;go_wp2_with fail;refine HS1.out.mono ?_;rintro e w2 ⟨rfl,f2⟩;have BC2:=zh (BC.out.fr f2 BC.out.lt (by simp));have BR2:=zh (BR.out.fr f2 BR.out.lt (by simp));have FA2:=zh (FA.out.trans (f2.mono (B':=gb) (L':=[]) (by rw [HGB.out];exact FA.out.size) (by simp)));clear f2 BC BR FA HS1;have HC1:=zh (vxcontains_any 239 #[] (fun v=>!vOkB v) (some ⟨gb,0,none⟩) 2 (gb+1) 2 [c.1,c.2] w2 (enters_of Tryz.func239 (by kernel_rfl) rfl) (fun x w' _ _=>vwrong_any x w') rfl (by omega) (Reads.of_blk BC2.out (by rfl)) BC2.out.lt);rw [HV1.out] at HC1;go_upto_region 3 with fail;go_wp2_with fail;refine HC1.out.mono ?_;rintro e w3 ⟨rfl,f3⟩;have BC3:=zh (BC2.out.fr f3 BC2.out.lt (by simp));have BR3:=zh (BR2.out.fr f3 BR2.out.lt (by simp));have FA3:=zh (FA2.out.trans (f3.mono (B':=gb) (L':=[]) (by rw [HGB.out];exact FA2.out.size) (by simp)));have HBV3:=zh (HBV.out.fr FA3.out (by omega) (by simp));have HC2:=zh (vxcontains_any 239 #[] (fun v=>!vOkB v) (some ⟨gv,0,none⟩) cv (gv+1) 1 [x] w3 (enters_of Tryz.func239 (by kernel_rfl) rfl) (fun x w' _ _=>vwrong_any x w') rfl (by omega) (Reads.of_blk HBV3.out (by rfl)) HBV3.out.lt);rw [HV2.out] at HC2;clear f3 BC2 BR2 FA2 HC1;go_wp2_with fail;refine HC2.out.mono ?_;rintro e w4 ⟨rfl,f4⟩;have BC4:=zh (BC3.out.fr f4 BC3.out.lt (by simp));have BR4:=zh (BR3.out.fr f4 BR3.out.lt (by simp));have FA4:=zh (FA3.out.trans (f4.mono (B':=gb) (L':=[]) (by rw [HGB.out];exact FA3.out.size) (by simp)));have HBV4:=zh (HBV.out.fr FA4.out (by omega) (by simp));clear f4 BC3 BR3 FA3 HC2 HBV3 HBV;have c0:=BC4.out.cell 0;have c1:=BC4.out.cell 1;have c2:=BC4.out.cell 2;have c3:=BC4.out.cell 3;simp at c0 c1 c2 c3;go_upto_region 6 with fail;have fo:=(Fr.refl w4.heap.size [] w4).alloc (Nat.le_refl _) (.cells #[.slice none 0 0,.int .i64 c.1.1,.int .i64 c.1.2,.int .i64 c.2.1,.int .i64 c.2.2,.int .i64 0] 341);have BO:=zh (Blk.new w4 341 #[.slice none 0 0,.int .i64 c.1.1,.int .i64 c.1.2,.int .i64 c.2.1,.int .i64 c.2.2,.int .i64 0]);have BR5:=zh (BR4.out.fr fo BR4.out.lt (by simp));have FA5:=zh (FA4.out.trans (fo.mono (B':=gb) (L':=[]) (by rw [HGB.out];exact FA4.out.size) (by simp)));have HBV5:=zh (HBV4.out.fr fo HBV4.out.lt (by simp));obtain ⟨go,hgo⟩:=nm (w4.heap.size);have hgo1:gr < go:=(by have:=BR4.out.lt;omega);rw [<- hgo] at BO ⊢;clear fo BC4 BR4 FA4 HBV4 c0 c1 c2 c3 hgo;generalize w4.alloc (.cells #[.slice none 0 0,.int .i64 c.1.1,.int .i64 c.1.2,.int .i64 c.2.1,.int .i64 c.2.2,.int .i64 0] 341)=w5 at *;go_wp2_with fail;go_loopg [10,11,29] 1 (fun g s10 s11 s29 wr=>(g=1/\s29=.int .i64 0/\s10=undef/\s11=undef/\wr=w5) \/ (g=0/\s29=.int .i64 1/\(∃ a,s10=.pointer a)/\(∃ a,s11=.pointer a)/\Hid (∃ A n cc st,n=F.o.length/\Blk wr go 341 #[.slice A n cc,.int .i64 F.c.1.1,.int .i64 F.c.1.2,.int .i64 F.c.2.1,.int .i64 F.c.2.2,.int .i64 st]/\Blk wr gr 341 #[.slice none 0 0,.int .i64 0,.int .i64 0,.int .i64 0,.int .i64 0,.int .i64 0]/\wr.ownsRow gb 48 2 (.slice A n cc) n (cellsV F.o)/\Fr gb [] w wr)))
 case atStart=>exact .inl ⟨rfl,rfl,rfl,rfl,rfl⟩
 case round =>
  rcases hrel with ⟨rfl,rfl,rfl,rfl,rfl⟩ | ⟨rfl,rfl,⟨a10,rfl⟩,⟨a11,rfl⟩,HE⟩
  ·
   have v0:=HBV5.out.cell 0;have v1:=HBV5.out.cell 1;simp at v0 v1;go_upto_region 9 with fail;have fx:=(Fr.refl wr.heap.size [] wr).alloc (Nat.le_refl _) (.cells #[.int .i64 x.1,.int .i64 x.2] 48);have BX:=zh (Blk.new wr 48 #[.int .i64 x.1,.int .i64 x.2]);have BO6:=zh (BO.out.fr fx BO.out.lt (by simp));have BR6:=zh (BR5.out.fr fx BR5.out.lt (by simp));have FA6:=zh (FA5.out.trans (fx.mono (B':=gb) (L':=[]) (by rw [HGB.out];exact FA5.out.size) (by simp)));obtain ⟨gx,hgx⟩:=nm (wr.heap.size);rw [<- hgx] at BX ⊢;clear fx hgx v0 v1 HBV5;generalize wr.alloc (.cells #[.int .i64 x.1,.int .i64 x.2] 48)=w6 at *;clear BO BR5 FA5;have o0:=BO6.out.cell 0;have o1:=BO6.out.cell 1;have o2:=BO6.out.cell 2;have o3:=BO6.out.cell 3;have o4:=BO6.out.cell 4;have o5:=BO6.out.cell 5;have x0:=BX.out.cell 0;have x1:=BX.out.cell 1;simp at o0 o1 o2 o3 o4 o5 x0 x1;go_upto_region 10 with fail;have fm:=(Fr.refl w6.heap.size [] w6).alloc (Nat.le_refl _) (.cells (mcA (.slice none 0 0) (mach0 x c) (.slice Ap nl cp) (.slice none 0 0)) 374);have BM:=Blk.new w6 374 (mcA (.slice none 0 0) (mach0 x c) (.slice Ap nl cp) (.slice none 0 0));have BO7:=zh (BO6.out.fr fm BO6.out.lt (by simp));have BR7:=zh (BR6.out.fr fm BR6.out.lt (by simp));have FA7:=zh (FA6.out.trans (fm.mono (B':=gb) (L':=[]) (by rw [HGB.out];exact FA6.out.size) (by simp)));obtain ⟨gm,hgm⟩:=nm (w6.heap.size);rw [<- hgm] at BM ⊢;have hgom:go < gm:=(by have:=BO6.out.lt;omega);clear fm o0 o1 o2 o3 o4 o5 x0 x1 BX hgm;have hmc:w6.alloc (.cells #[.slice none 0 0,.int .i64 c.1.1,.int .i64 c.1.2,.int .i64 c.2.1,.int .i64 c.2.2,.int .i64 0,.slice Ap nl cp,.int .i64 x.1,.int .i64 x.2,.int .i64 0,.slice none 0 0] 374)=w6.alloc (.cells (mcA (.slice none 0 0) (mach0 x c) (.slice Ap nl cp) (.slice none 0 0)) 374):=rfl;rw [hmc];clear hmc;generalize w6.alloc (.cells (mcA (.slice none 0 0) (mach0 x c) (.slice Ap nl cp) (.slice none 0 0)) 374)=w7 at *;clear BO6 BR6 FA6;have HMC:=(⟨none,0,0,none,0,0,rfl,rfl,BM,World.ownsRow_nil _ _ _ _,World.ownsRow_nil _ _ _ _,by simp [Value.ownBlock],by simp [Value.ownBlock]⟩:MC gb gm (.slice Ap nl cp) (mach0 x c) [gm] w7);have HRUN:=run_any gb gm Ap cp B l s.D (mach0 x c) [gm] w7 HP.out HIN.out (Nat.zero_le _) (by rw [<- HNL.out];exact HMC) (by have:=BM.lt;omega) (HRD.out.fr FA7.out (by omega) (by simp)) (by have:=BM.lt;omega) (by simp;omega);rw [<- HNL.out,<- HF.out] at HRUN;replace HRUN:=zh HRUN;have HGM:=zh BM.lt;clear BM HMC;go_wp2_with fail;refine HRUN.out.mono ?_;rintro e w8 ⟨rfl,L8,m8,v8⟩;obtain ⟨Ao,no,co,As,ns,cs,h1,h2,hb8,ho8,_,_,_⟩:=m8;have BM8:=zh hb8;have HO8:=zh ho8;have HNO:=zh h1;have BO8:=zh (BO7.out.fr v8.fr BO7.out.lt (by simp;omega));have BR8:=zh (BR7.out.fr v8.fr BR7.out.lt (by simp;omega));have FA8:=zh (FA7.out.trans (v8.fr.mono (B':=gb) (L':=[]) (by rw [HGB.out];exact FA7.out.size) (by simp;omega)));clear h1 h2 hb8 ho8 v8 HRUN BO7 BR7 FA7;have m0:=BM8.out.cell 0;have m1:=BM8.out.cell 1;have m2:=BM8.out.cell 2;have m3:=BM8.out.cell 3;have m4:=BM8.out.cell 4;have m5:=BM8.out.cell 5;have o0:=BO8.out.cell 0;have o1:=BO8.out.cell 1;have o2:=BO8.out.cell 2;have o3:=BO8.out.cell 3;have o4:=BO8.out.cell 4;have o5:=BO8.out.cell 5;have z0:=BO8.out.frozen 0;have z1:=BO8.out.frozen 1;have z2:=BO8.out.frozen 2;have z3:=BO8.out.frozen 3;have z4:=BO8.out.frozen 4;have z5:=BO8.out.frozen 5;simp [mcA] at m0 m1 m2 m3 m4 m5 o0 o1 o2 o3 o4 o5;go_wp2_with fail;have fs:=(((((((Fr.refl w8.heap.size [go] w8).setCell (p:=⟨go,0,none⟩) (.inr (by simp)) (.slice Ao no co)).setCell (p:=⟨go,1,none⟩) (.inr (by simp)) (.int .i64 F.c.1.1)).setCell (p:=⟨go,2,none⟩) (.inr (by simp)) (.int .i64 F.c.1.2)).setCell (p:=⟨go,3,none⟩) (.inr (by simp)) (.int .i64 F.c.2.1)).setCell (p:=⟨go,4,none⟩) (.inr (by simp)) (.int .i64 F.c.2.2)).setCell (p:=⟨go,5,none⟩) (.inr (by simp)) (.int .i64 F.st));have bs:=((((((BO8.out.set_ 0 (.slice Ao no co)).set_ 1 (.int .i64 F.c.1.1)).set_ 2 (.int .i64 F.c.1.2)).set_ 3 (.int .i64 F.c.2.1)).set_ 4 (.int .i64 F.c.2.2)).set_ 5 (.int .i64 F.st));simp only [List.setIfInBounds_toArray,List.set_cons_zero,List.set_cons_succ] at bs;have hne:=BO8.out.ne_own HO8.out (by decide);have os:=ownsRow_fr HO8.out fs (fun q hq=>⟨(HO8.out.lt q hq).2,by simp;rintro rfl;exact hne hq.symm⟩);have br:=BR8.out.fr fs BR8.out.lt (by simp;omega);have ff:=FA8.out.trans (fs.mono (B':=gb) (L':=[]) (by rw [HGB.out];exact FA8.out.size) (by simp;omega));clear m0 m1 m2 m3 m4 m5 o0 o1 o2 o3 o4 o5 z0 z1 z2 z3 z4 z5;generalize ((((((w8.setCell ⟨go,0,none⟩ (.slice Ao no co)).setCell ⟨go,1,none⟩ (.int .i64 F.c.1.1)).setCell ⟨go,2,none⟩ (.int .i64 F.c.1.2)).setCell ⟨go,3,none⟩ (.int .i64 F.c.2.1)).setCell ⟨go,4,none⟩ (.int .i64 F.c.2.2)).setCell ⟨go,5,none⟩ (.int .i64 F.st))=w9 at *;go_roundg 0
   case measure=>omega
   case rel=>exact .inr ⟨rfl,rfl,⟨_,rfl⟩,⟨_,rfl⟩,zh ⟨Ao,no,co,F.st,HNO.out,bs,br,os,ff⟩⟩
  · obtain ⟨A,n,cc,st,hn,hbo,hbr,how,hfr⟩:=HE.out;have BO:=zh hbo;have BR:=zh hbr;have HOW:=zh how;have FF:=zh hfr;have HN:=zh hn;clear HE hn hbo hbr how hfr;have o0:=BO.out.cell 0;have o1:=BO.out.cell 1;have o2:=BO.out.cell 2;have o3:=BO.out.cell 3;have o4:=BO.out.cell 4;have o5:=BO.out.cell 5;have r0:=BR.out.cell 0;have r1:=BR.out.cell 1;have r2:=BR.out.cell 2;have r3:=BR.out.cell 3;have r4:=BR.out.cell 4;have r5:=BR.out.cell 5;have z0:=BR.out.frozen 0;have z1:=BR.out.frozen 1;have z2:=BR.out.frozen 2;have z3:=BR.out.frozen 3;have z4:=BR.out.frozen 4;have z5:=BR.out.frozen 5;simp at o0 o1 o2 o3 o4 o5 r0 r1 r2 r3 r4 r5;go_wp2_with fail;have fs:=(((((((Fr.refl wr.heap.size [gr] wr).setCell (p:=⟨gr,0,none⟩) (.inr (by simp)) (.slice A n cc)).setCell (p:=⟨gr,1,none⟩) (.inr (by simp)) (.int .i64 F.c.1.1)).setCell (p:=⟨gr,2,none⟩) (.inr (by simp)) (.int .i64 F.c.1.2)).setCell (p:=⟨gr,3,none⟩) (.inr (by simp)) (.int .i64 F.c.2.1)).setCell (p:=⟨gr,4,none⟩) (.inr (by simp)) (.int .i64 F.c.2.2)).setCell (p:=⟨gr,5,none⟩) (.inr (by simp)) (.int .i64 st));have bs:=((((((BR.out.set_ 0 (.slice A n cc)).set_ 1 (.int .i64 F.c.1.1)).set_ 2 (.int .i64 F.c.1.2)).set_ 3 (.int .i64 F.c.2.1)).set_ 4 (.int .i64 F.c.2.2)).set_ 5 (.int .i64 st));simp only [List.setIfInBounds_toArray,List.set_cons_zero,List.set_cons_succ] at bs;have hne:=BR.out.ne_own HOW.out (by decide);have os:=ownsRow_fr HOW.out fs (fun q hq=>⟨(HOW.out.lt q hq).2,by simp;rintro rfl;exact hne hq.symm⟩);have ff:=FF.out.trans (fs.mono (B':=gb) (L':=[]) (by rw [HGB.out];exact FF.out.size) (by simp;omega));refine bodyPost_ret (results_cell_row_tmp rfl _ _ gr 341 #[.slice A n cc,.int .i64 F.c.1.1,.int .i64 F.c.1.2,.int .i64 F.c.2.1,.int .i64 F.c.2.2,.int .i64 st] (0,0) _ rfl bs Tryz.underlying341 rfl (by kernel_rfl)) rfl ?_;have e1:outP_ l x c=F.o:=(by unfold outP_;rw [HF.out]);have e2:celP l x c=F.c:=(by unfold celP;rw [HF.out]);unfold RunOut;rw [e1,e2];exact ⟨A,n,cc,st,HN.out,rfl,by rw [<- HGB.out];exact os,by rw [<- HGB.out];exact ff⟩
theorem vrun_any (Ap:Option Addr) (cp B:Nat) (l:List (Int × Int)) (s:CS) (x:Int × Int) (c:(Int × Int) × (Int × Int)) (w:World) (hsf:chkL l=some s) (hrd:Reads w B 2 Ap l.length (cellsI l)) (hB:B<=w.heap.size) (hx:vOk x) (hc:vOk c.1/\vOk c.2) :
  Calls Tryz.prog 212 #[.slice Ap l.length cp,.agg #[.int .i64 x.1,.int .i64 x.2],c4 c] w (RunOut l x c w):=by
 have HE:=zh (fun (gv:Nat) (wx:World) (hf:Fr w.heap.size [] w wx) (hv:Blk wx gv 48 #[.int .i64 x.1,.int .i64 x.2])=>(by exact each_any Ap cp B l s x c gv 48 1 wx hsf (hrd.fr hf hB (by simp)) (Nat.le_trans hB hf.size) hx hc hv:Calls Tryz.prog 229 #[.slice Ap l.length cp,c4 c,.slice (some ⟨gv,0,none⟩) 1 1] wx (RunOut l x c wx)));have fa:=(((Fr.refl w.heap.size [] w).alloc (Nat.le_refl _) (.cells #[.int .i64 x.1,.int .i64 x.2] 48)).alloc (by simp) (.cells #[.int .i64 c.1.1,.int .i64 c.1.2,.int .i64 c.2.1,.int .i64 c.2.2] 109)).alloc (by simp;omega) (.cells #[.slice none 0 0,.int .i64 0,.int .i64 0,.int .i64 0,.int .i64 0,.int .i64 0] 341);have BX:=((Blk.new w 48 #[.int .i64 x.1,.int .i64 x.2]).alloc (.cells #[.int .i64 c.1.1,.int .i64 c.1.2,.int .i64 c.2.1,.int .i64 c.2.2] 109)).alloc (.cells #[.slice none 0 0,.int .i64 0,.int .i64 0,.int .i64 0,.int .i64 0,.int .i64 0] 341);have BC:=(Blk.new (w.alloc (.cells #[.int .i64 x.1,.int .i64 x.2] 48)) 109 #[.int .i64 c.1.1,.int .i64 c.1.2,.int .i64 c.2.1,.int .i64 c.2.2]).alloc (.cells #[.slice none 0 0,.int .i64 0,.int .i64 0,.int .i64 0,.int .i64 0,.int .i64 0] 341);have BR:=Blk.new ((w.alloc (.cells #[.int .i64 x.1,.int .i64 x.2] 48)).alloc (.cells #[.int .i64 c.1.1,.int .i64 c.1.2,.int .i64 c.2.1,.int .i64 c.2.2] 109)) 341 #[.slice none 0 0,.int .i64 0,.int .i64 0,.int .i64 0,.int .i64 0,.int .i64 0];rw [World.size_alloc] at BC BR;rw [World.size_alloc] at BR;have BX:=zh BX;have BC:=zh BC;have BR:=zh BR;have FA:=zh fa;obtain ⟨nl,hnl⟩:=nm (l.length);rw [<- hnl] at HE ⊢;clear fa hrd hsf hx hc hnl hB;go_enter Tryz.func212,Tryz.ntmps212;go_upto_region 1 with fail;obtain ⟨gx,hgx⟩:=nm (w.heap.size);obtain ⟨gc,hgc⟩:=nm (w.heap.size+1);obtain ⟨gr,hgr⟩:=nm (w.heap.size+1+1);rw [<- hgr] at BR ⊢;rw [<- hgc] at BC ⊢;rw [<- hgx] at BX ⊢;have HGX:=zh hgx;have hgxr:gx < gr:=(by omega);clear hgx hgc hgr;generalize ((w.alloc (.cells #[.int .i64 x.1,.int .i64 x.2] 48)).alloc (.cells #[.int .i64 c.1.1,.int .i64 c.1.2,.int .i64 c.2.1,.int .i64 c.2.2] 109)).alloc (.cells #[.slice none 0 0,.int .i64 0,.int .i64 0,.int .i64 0,.int .i64 0,.int .i64 0] 341)=w1 at *;have x0:=BX.out.cell 0;have x1:=BX.out.cell 1;have c0:=BC.out.cell 0;have c1:=BC.out.cell 1;have c2:=BC.out.cell 2;have c3:=BC.out.cell 3;simp at x0 x1 c0 c1 c2 c3;have fl:=(Fr.refl w1.heap.size [] w1).alloc (Nat.le_refl _) (.cells #[.int .i64 x.1,.int .i64 x.2] 48);have HE1:=zh (HE.out w1.heap.size _ (FA.out.nx fl) (Blk.new w1 48 #[.int .i64 x.1,.int .i64 x.2]));have BR1:=zh (BR.out.fr fl BR.out.lt (by simp));have FA1:=zh (FA.out.nx fl);clear fl BX BC BR FA HE;go_wp2_with fail;refine HE1.out.mono ?_;rintro e w2 ⟨A,n,cc,st,hn,rfl,how,f2⟩;have HN:=zh hn;have HOW:=zh how;have BR2:=zh (BR1.out.fr f2 BR1.out.lt (by simp));have FA2:=zh (FA1.out.nx f2);have HSZ:=zh FA1.out.size;clear hn how f2 HE1 BR1 FA1 x0 x1 c0 c1 c2 c3;have r0:=BR2.out.cell 0;have r1:=BR2.out.cell 1;have r2:=BR2.out.cell 2;have r3:=BR2.out.cell 3;have r4:=BR2.out.cell 4;have r5:=BR2.out.cell 5;have z0:=BR2.out.frozen 0;have z1:=BR2.out.frozen 1;have z2:=BR2.out.frozen 2;have z3:=BR2.out.frozen 3;have z4:=BR2.out.frozen 4;have z5:=BR2.out.frozen 5;simp at r0 r1 r2 r3 r4 r5;go_wp2_with fail;have fs:=(((((((Fr.refl w2.heap.size [gr] w2).setCell (p:=⟨gr,0,none⟩) (.inr (by simp)) (.slice A n cc)).setCell (p:=⟨gr,1,none⟩) (.inr (by simp)) (.int .i64 (celP l x c).1.1)).setCell (p:=⟨gr,2,none⟩) (.inr (by simp)) (.int .i64 (celP l x c).1.2)).setCell (p:=⟨gr,3,none⟩) (.inr (by simp)) (.int .i64 (celP l x c).2.1)).setCell (p:=⟨gr,4,none⟩) (.inr (by simp)) (.int .i64 (celP l x c).2.2)).setCell (p:=⟨gr,5,none⟩) (.inr (by simp)) (.int .i64 st));have bs:=((((((BR2.out.set_ 0 (.slice A n cc)).set_ 1 (.int .i64 (celP l x c).1.1)).set_ 2 (.int .i64 (celP l x c).1.2)).set_ 3 (.int .i64 (celP l x c).2.1)).set_ 4 (.int .i64 (celP l x c).2.2)).set_ 5 (.int .i64 st));simp only [List.setIfInBounds_toArray,List.set_cons_zero,List.set_cons_succ] at bs;have hne:=BR2.out.ne_own HOW.out (by decide);have os:=ownsRow_base (ownsRow_fr HOW.out fs (fun q hq=>⟨(HOW.out.lt q hq).2,by simp;rintro rfl;exact hne hq.symm⟩)) HSZ.out;have ff:=FA2.out.trans (fs.mono (B':=w.heap.size) (L':=[]) FA2.out.size (by simp;rw [<- HGX.out];omega));exact bodyPost_ret (results_cell_row_tmp rfl _ _ gr 341 #[.slice A n cc,.int .i64 (celP l x c).1.1,.int .i64 (celP l x c).1.2,.int .i64 (celP l x c).2.1,.int .i64 (celP l x c).2.2,.int .i64 st] (0,0) _ rfl bs Tryz.underlying341 rfl (by kernel_rfl)) rfl ⟨A,n,cc,st,HN.out,rfl,os,ff⟩
def emB (i:Int × Int):Bool:=decide (i.1=14)
theorem actM_em (i:Int × Int) (S:MS):(actM i S).o.length<=S.o.length+(if emB i then 1 else 0):=by
 by_cases h:i.1=14
 · have:=actM_o i S;unfold emB;rw [decide_eq_true h];exact this
 ·
  have h0:(actM i S).o=S.o:=by
   have ht:(topM i.1 S).o=S.o:=by
    unfold topM
    by_cases c9:i.1=9
    · rw [if_pos c9]
    ·
     rw [if_neg c9]
     by_cases c10:i.1=10
     · rw [if_pos c10]
     ·
      rw [if_neg c10]
      by_cases c11:i.1=11
      · rw [if_pos c11]
      ·
       rw [if_neg c11]
       by_cases c12:i.1=12
       · rw [if_pos c12]
       · rw [if_neg c12,if_neg h]
   refine act_cases (fun X=>X.o=S.o) (fun _=>rfl) (fun _=>rfl) rfl rfl rfl (fun c => ?_) (fun _=>rfl) rfl ht;unfold jzM;split <;> rfl
  rw [h0];exact Nat.le_add_right _ _
theorem runF_em (l:List (Int × Int)):∀ (f:Nat) (S:MS),(runF l f S).o.length<=S.o.length+(l.drop S.at_).countP emB
 | 0,S=>Nat.le_add_right _ _
 | f+1,S=>by
  unfold runF
  cases h:l[S.at_]? with
  | none=>exact Nat.le_add_right _ _
  | some i =>
   simp only
   split
   · exact Nat.le_add_right _ _
   ·
    have h1:=runF_em l f (actM i (nextM S));have h2:=actM_em i (nextM S);have h3:S.at_+1<=(actM i (nextM S)).at_:=actM_at i (nextM S);obtain ⟨hlt,hg⟩:=List.getElem?_eq_some_iff.1 h
    have h4:(l.drop S.at_).countP emB=(if emB i then 1 else 0)+(l.drop (S.at_+1)).countP emB:=by
     rw [List.drop_eq_getElem_cons hlt,List.countP_cons,hg];omega
    have h5:(l.drop (actM i (nextM S)).at_).countP emB<=(l.drop (S.at_+1)).countP emB:=by
     obtain ⟨t,ht⟩:=Nat.exists_eq_add_of_le h3;rw [ht,<- List.drop_drop];exact (List.drop_sublist _ _).countP_le
    have h6:(nextM S).o=S.o:=rfl;rw [h6] at h2;omega
theorem outP_em (l:List (Int × Int)) (x:Int × Int) (c:(Int × Int) × (Int × Int)):(outP_ l x c).length<=l.countP emB:=by
 have h:=runF_em l 100 (mach0 x c);have e1:(mach0 x c).o.length=0:=rfl;have e2:l.drop (mach0 x c).at_=l:=rfl;rw [e1,e2,Nat.zero_add] at h;exact h
theorem outP_len {l:List (Int × Int)} {s:CS} (h:chkL l=some s) (x:Int × Int) (c:(Int × Int) × (Int × Int)):(outP_ l x c).length<=24 :=
 Nat.le_trans (outP_em l x c) (Nat.le_trans List.countP_le_length (safe_of h).fit.1)
theorem rcindex_any (F:FuncId) (cap:Array Value) (p:(Nat->Int)->Bool) (A:Option Addr) (c B n:Nat) (l:List (Nat->Int)) (w:World) (hent:∀ (args:Array Value) (w:World),(callFunc F args).run Tryz.prog w=.ok (.enter F args) w)
  (hF:∀ (x:Nat->Int) (w':World),x ∈ l->Fr w.heap.size [] w w'->Calls Tryz.prog F (#[.agg #[.int .i64 (x 0),.int .i64 (x 1),.int .i64 (x 2)]] ++ cap) w' fun e w''=>e=.returned (.bool (p x))/\Fr w'.heap.size [] w' w'')
  (hn:n=l.length) (hm:n<=1000000) (hr:Reads w B 3 A n (cellsR l)) (hB:B<=w.heap.size) :
  Calls Tryz.prog 176 #[.slice A n c,.func (.func F) #[] cap] w fun e w'=>∃ i:Int,e=.returned (.int .i64 i)/\decide (0<=i)=l.any p/\Fr w.heap.size [] w w':=by
 have HF:=zh hF;have HR:=zh hr;have HN:=zh hn;clear hF hr hn;go_enter Tryz.func176,Tryz.ntmps176;go_wp2_with fail;go_loopg [8] n (fun g s8 wr=>∃ k:Nat,k<=n/\g=n - k/\s8=.int .i64 k/\Hid (∀ j y,j < k->l[j]?=some y->p y=false)/\Hid (Fr w.heap.size [] w wr))
 case atStart=>exact ⟨0,Nat.zero_le _,rfl,rfl,zh (fun j y h=>absurd h (by omega)),zh (Fr.refl _ _ _)⟩
 case round =>
  obtain ⟨k,hk,rfl,rfl,HP,FR⟩:=hrel
  by_cases hkn:k < n
  ·
   have hki:(k:Int) < (n:Int):=by omega
   have hk0:(0:Int)<=(k:Int):=(by omega);obtain ⟨x,hx⟩:∃ x,l[k]?=some x:=⟨_,List.getElem?_eq_getElem (by rw [<- HN.out];exact hkn)⟩;obtain ⟨b,off,rfl,hb,hc⟩:=reads_rec (by rw [<- HN.out];exact HR.out.fr FR.out hB (by simp)) hx;have p0:=hc 0 (by omega);have p1:=hc 1 (by omega);have p2:=hc 2 (by omega);simp only [Nat.add_zero,<- Nat.add_assoc] at p0 p1 p2;have HC:=HF.out x wr (List.mem_of_getElem? hx) FR.out;have HX:=zh hx;clear hc hx;obtain ⟨bb,hbb⟩:=nm (p x);rw [<- hbb] at HC;have HC:=zh HC;have HPX:=zh hbb;clear hbb
   cases bb with
   | true =>
    go_wp2_with fail;refine HC.out.mono ?_;rintro e w2 ⟨rfl,f2⟩;have F2:=zh (FR.out.nx f2);clear f2 HC;go_wp2_with fail;go_ret;refine ⟨k,rfl,?_,F2.out⟩;rw [List.any_eq_true.2 ⟨x,List.mem_of_getElem? HX.out,HPX.out.symm⟩];simp
   | false =>
    go_wp2_with fail;refine HC.out.mono ?_;rintro e w2 ⟨rfl,f2⟩;have F2:=zh (FR.out.nx f2);clear f2 HC;go_wp2_with fail;go_roundg (n - (k+1))
    case measure=>omega
    case rel =>
     refine ⟨k+1,by omega,rfl,by go_num,zh fun j y hj hy => ?_,F2⟩
     rcases Nat.lt_or_ge j k with h | h
     · exact HP.out j y h hy
     ·
      have:j=k:=by omega
      subst this;rw [HX.out] at hy;injection hy with hy
      rw [<- hy];exact HPX.out.symm
  ·
   obtain rfl:k=n:=by omega
   go_wp2_with fail;go_ret;refine ⟨-1,rfl,?_,FR.out⟩
   symm
   rw [show decide ((0:Int) <= -1)=false by simp,List.any_eq_false];intro x hx;obtain ⟨j,hj,rfl⟩:=List.mem_iff_getElem.1 hx;rw [HP.out j _ (by rw [HN.out];exact hj) (List.getElem?_eq_getElem hj)];simp
theorem rccontains_any (F:FuncId) (cap:Array Value) (p:(Nat->Int)->Bool) (A:Option Addr) (c B n:Nat) (l:List (Nat->Int)) (w:World) (hent:∀ (args:Array Value) (w:World),(callFunc F args).run Tryz.prog w=.ok (.enter F args) w)
  (hF:∀ (x:Nat->Int) (w':World),x ∈ l->Fr w.heap.size [] w w'->Calls Tryz.prog F (#[.agg #[.int .i64 (x 0),.int .i64 (x 1),.int .i64 (x 2)]] ++ cap) w' fun e w''=>e=.returned (.bool (p x))/\Fr w'.heap.size [] w' w'')
  (hn:n=l.length) (hm:n<=1000000) (hr:Reads w B 3 A n (cellsR l)) (hB:B<=w.heap.size) :
  Calls Tryz.prog 139 #[.slice A n c,.func (.func F) #[] cap] w fun e w'=>e=.returned (.bool (l.any p))/\Fr w.heap.size [] w w':=by
 have H:=zh (rcindex_any F cap p A c B n l w hent hF hn hm hr hB);obtain ⟨b,hb⟩:=nm (l.any p);rw [<- hb] at H ⊢;clear hF hn hr hb;go_enter Tryz.func139,Tryz.ntmps139;go_wp2_with fail;refine H.out.mono ?_;rintro e w1 ⟨i,rfl,hi,f1⟩;have F1:=zh f1;have HI:=zh hi;clear hi f1 H;go_wp2_with fail;go_ret;exact ⟨by rw [<- HI.out];rfl,F1.out⟩
theorem flows1_any (x:Nat->Int) (w:World):Calls Tryz.prog 140 #[.agg #[.int .i64 (x 0),.int .i64 (x 1),.int .i64 (x 2)]] w fun e w'=>e=.returned (.bool (!recB (x 0) (x 1) (x 2)))/\Fr w.heap.size [] w w':=by
 have HC:=zh (cellright_any (x 0) (x 1) (x 2));have fa:=(Fr.refl w.heap.size [] w).alloc (Nat.le_refl _) (.cells #[.int .i64 (x 0),.int .i64 (x 1),.int .i64 (x 2)] 50);have BX:=zh (Blk.new w 50 #[.int .i64 (x 0),.int .i64 (x 1),.int .i64 (x 2)]);have FA:=zh fa;clear fa;go_enter Tryz.func140,Tryz.ntmps140;go_upto_region 1 with fail;generalize w.alloc _=w1 at *;obtain ⟨gx,hgx⟩:=nm (w.heap.size);rw [<- hgx] at BX ⊢;have HGX:=zh hgx;clear hgx;have q0:=BX.out.cell 0;have q1:=BX.out.cell 1;have q2:=BX.out.cell 2;simp at q0 q1 q2;go_wp2_with fail;refine (HC.out _).mono ?_;rintro e w2 ⟨rfl,f2⟩;have F2:=zh (FA.out.nx f2);clear f2;go_wp2_with fail;go_ret;exact ⟨rfl,F2.out⟩
theorem use_E (s:CS) (i:Int × Int):(useF s i).E=s.E:=by unfold useF;split <;> (try split) <;> rfl
theorem come_E {n:Nat} {s s':CS} {t:Nat} {d e:Int} (h:comeF n s t d e=some s'):e<=4/\(∀ x,s.E x<=s'.E x)/\(∀ x,x ≠ t->s'.E x=s.E x)/\(t ≠ n->e<=s'.E t):=by
 unfold comeF at h
 split at h
 · cases h
 ·
  rename_i h1
  split at h
  ·
   rename_i h2;injection h with h;subst h
   exact ⟨by omega,fun x=>Int.le_refl _,fun x _=>rfl,fun h=>absurd h2 h⟩
  ·
   split at h
   · cases h
   ·
    injection h with h;subst h
    refine ⟨by omega,fun x => ?_,fun x hx => ?_,fun _ => ?_⟩
    ·
     simp only [updC]
     split
     · rename_i e;subst e;exact Int.le_max_left _ _
     · exact Int.le_refl _
    · simp only [updC];rw [if_neg hx]
    · simp only [updC,if_true];exact Int.le_max_right _ _
theorem comes_E {n:Nat} {d e:Int}:∀ (l:List Nat) {s s':CS},comesF n d e l s=some s'->(l ≠ []->e<=4)/\(∀ x,s.E x<=s'.E x)/\(∀ x,x ∉ l->s'.E x=s.E x)/\(∀ t ∈ l,t ≠ n->e<=s'.E t)
 | [],s,s',h=>by
  injection h with h;subst h
  exact ⟨fun h=>absurd rfl h,fun x=>Int.le_refl _,fun x _=>rfl,fun t ht=>by cases ht⟩
 | t :: l,s,s',h=>by
  unfold comesF at h
  split at h
  · cases h
  ·
   rename_i s1 h1;obtain ⟨a,b,c,d'⟩:=come_E h1;obtain ⟨_,b2,c2,d2⟩:=comes_E l h;refine ⟨fun _=>a,fun x=>Int.le_trans (b x) (b2 x),fun x hx => ?_,fun u hu hn => ?_⟩
   · rw [c2 x (fun h=>hx (by simp [h])),c x (fun h=>hx (by simp [h]))]
   ·
    rcases List.mem_cons.1 hu with e | e
    · subst e;exact Int.le_trans (d' hn) (b2 u)
    · exact d2 u e hn
theorem check_E {n:Nat} {p:Nat->Int × Int} (hp:∀ k,k < n->((p k).1=15 \/ (p k).1=16->1<=(p k).2)):∀ (m:Nat) {s:CS},m<=n->checkF n p m=some s -> ∀ k,k < m->s.D k ≠ -1->(p k).1 ≠ 0->emF s k (p k)<=4 /\ ∀ t ∈ nextsF n k (p k),t < n->emF s k (p k)<=s.E t
 | 0,s,_,h=>fun k hk=>by omega
 | m+1,s,hm,h=>by
  unfold checkF at h
  split at h
  · cases h
  ·
   rename_i s1 h1;have ih:=check_E hp m (by omega) h1
   split at h
   ·
    rename_i hd;injection h with h;subst h
    intro k hk hne h0
    rcases Nat.lt_or_ge k m with c | c
    · exact ih k c hne h0
    ·
     have:k=m:=by omega
     subst this;exact absurd hd hne
   ·
    rename_i hd;unfold stepF at h
    split at h
    · cases h
    ·
     have hU:(useF s1 (p m)).D=s1.D:=use_D s1 (p m);have hUE:(useF s1 (p m)).E=s1.E:=use_E s1 (p m);obtain ⟨ha,hb,hc,hd2⟩:=comes_E _ h;rw [hUE] at hb hc
     have hoth:∀ x,x<=m->s.D x=s1.D x/\s.E x=s1.E x:=fun x hx=>by
      have hn:x ∉ nextsF n m (p m):=fun c=>by have:=nextsM_gt (by omega) (hp m (by omega)) x c;omega
      exact ⟨by rw [comes_other _ h x hn,hU],hc x hn⟩
     intro k hk hne h0;have hem:emF s k (p k)=emF s1 k (p k):=(by unfold emF;rw [(hoth k (by omega)).2]);rw [(hoth k (by omega)).1] at hne;rw [hem]
     rcases Nat.lt_or_ge k m with c | c
     · obtain ⟨a,b⟩:=ih k c hne h0;exact ⟨a,fun t ht htn=>Int.le_trans (b t ht htn) (hb t)⟩
     ·
      have:k=m:=by omega
      subst this;refine ⟨ha ?_,fun t ht htn=>hd2 t ht (by omega)⟩;unfold nextsF;rw [if_neg h0]
      split
      · simp
      · split <;> simp
theorem act_next {l:List (Int × Int)} {S:MS} {i:Int × Int} (h0:i.1 ≠ 0) (hr:rightB i=true) (hlt:(actM i (nextM S)).at_ < l.length):(actM i (nextM S)).at_ ∈ nextsF l.length S.at_ i:=by
 obtain ⟨j1,j2,j3,j4⟩:=right_jump hr;have h5:(nextM S).at_=S.at_+1:=rfl
 rcases act_at (i:=i) (S:=nextM S) with e | ⟨c,e⟩
 ·
  rw [e]
  by_cases c16:i.1=16
  ·
   exfalso
   have:(actM i (nextM S)).at_=S.at_+1+i.2.toNat:=(by simp [actM,c16,jumpM,nextM]);rw [e] at this;have:=j2 (.inr c16);omega
  ·
   unfold nextsF;rw [if_neg h0,if_neg c16]
   split <;> simp [nextM]
 ·
  rw [e,h5] at hlt ⊢;have hf:S.at_+1+i.2.toNat=farF l.length S.at_ i.2:=(by unfold farF;omega);rw [hf];unfold nextsF;rw [if_neg h0]
  split
  · simp
  · rw [if_pos (by omega)];simp
theorem runF_four {l:List (Int × Int)} {s:CS} (hs:chkL l=some s):∀ (f:Nat) (S:MS),MInv l s.D S->(S.o.length:Int)<=4->(S.at_ < l.length->(S.o.length:Int)<=s.E S.at_)->((runF l f S).o.length:Int)<=4
 | 0,S,_,h,_=>h
 | f+1,S,I,h4,hE=>by
  unfold runF
  cases h:l[S.at_]? with
  | none=>exact h4
  | some i =>
   simp only
   split
   · exact h4
   ·
    rename_i h0;have hP:=safe_of hs;have hk:S.at_ < l.length:=(List.getElem?_eq_some_iff.1 h).1;have hr:=hP.fit.2 i (List.mem_of_getElem? h);obtain ⟨hf,hc⟩:=chkL_some hs
    have hp:∀ k,k < l.length->((pF l k).1=15 \/ (pF l k).1=16->1<=(pF l k).2):=fun k hk c=>by
     have hx:l[k]?=some l[k]:=List.getElem?_eq_getElem hk;have:=pF_of hx;rw [this] at c ⊢;exact ((right_jump (hP.fit.2 _ (List.getElem_mem hk))).2.1 c).1
    have hd:=I.dep hk;have hl:=check_E hp l.length (Nat.le_refl _) hc S.at_ hk (by rw [hd];omega);rw [pF_of h] at hl;obtain ⟨a,b⟩:=hl h0;have hem:=actM_em i (nextM S);have h6:(nextM S).o=S.o:=rfl;rw [h6] at hem;have h7:=hE hk
    have h8:((actM i (nextM S)).o.length:Int)<=emF s S.at_ i:=by
     unfold emF;unfold emB at hem
     by_cases c:i.1=14
     · rw [if_pos c];simp [c] at hem;omega
     · rw [if_neg c];simp [c] at hem;omega
    exact runF_four hs f _ (I.act hP h h0).1 (by omega) (fun hlt=>Int.le_trans h8 (b _ (act_next h0 hr hlt) hlt))
theorem outP_four {l:List (Int × Int)} {s:CS} (h:chkL l=some s) {x:Int × Int} (hx:vOk x) {c:(Int × Int) × (Int × Int)} (hc:vOk c.1/\vOk c.2):(outP_ l x c).length<=4:=by
 have hE:0 < l.length->(0:Int)<=s.E 0:=by
  intro _;obtain ⟨hf,hc⟩:=chkL_some h
  have key:∀ (m:Nat) {s:CS},checkF l.length (pF l) m=some s->(0:Int)<=s.E 0:=by
   intro m
   induction m with
   | zero=>intro s hs;injection hs with hs;subst hs;exact Int.le_refl _
   | succ m ih =>
    intro s hs;unfold checkF at hs
    split at hs
    · cases hs
    ·
     rename_i s1 h1
     split at hs
     · injection hs with hs;subst hs;exact ih h1
     ·
      unfold stepF at hs
      split at hs
      · cases hs
      · have:=(comes_E _ hs).2.1 0;rw [use_E] at this;exact Int.le_trans (ih h1) this
  exact key _ hc
 have:=runF_four h 100 (mach0 x c) (mach0_inv (safe_of h) hx hc) (by show ((0:Nat):Int)<=4;decide) (fun hlt=>hE hlt);unfold outP_ runE;omega
end Go.Proofs.YtlejomlppjpchaaGreat
