/- Texts merged into one, for the number of files a claim may have: SpB, SpC, SpR, SpD. -/
import Derived.Test.YtgblfflikgnfpaaGreatTY9
namespace Go.Proofs.YtgblfflikgnfpaaGreat
open Go.RowKit Go.Fb
set_option maxRecDepth 100000
set_option maxHeartbeats 16000000
set_option linter.unusedVariables false
def tkR (r:Nat->Int) (x:Nat->Int):Int:=r (x 0 % 8).toNat
def addR (r:Nat->Int) (R:Nat->List (Nat->Int)) (xs:List (Nat->Int)) (i:Nat):List (Nat->Int):=R i ++ xs.filter fun x=>decide (tkR r x=(i:Int))
theorem addR_nil (r:Nat->Int) (R:Nat->List (Nat->Int)):addR r R []=R:=by funext i;simp [addR]
theorem addR_snoc (r:Nat->Int) (R:Nat->List (Nat->Int)) (xs:List (Nat->Int)) (x:Nat->Int) (i:Nat):addR r R (xs ++ [x]) i=if tkR r x=(i:Int) then addR r R xs i ++ [x] else addR r R xs i:=by
 unfold addR;rw [List.filter_append]
 by_cases c:tkR r x=(i:Int)
 · rw [if_pos c];simp [c]
 · rw [if_neg c];simp [c]
theorem addR_le (r:Nat->Int) (R:Nat->List (Nat->Int)) (xs:List (Nat->Int)) (i:Nat):(addR r R xs i).length<=(R i).length+xs.length:=by
 unfold addR;rw [List.length_append];exact Nat.add_le_add_left (List.length_filter_le _ _) _
theorem tk_in {P:Nat} {r:Nat->Int} (h:right8 P r=true) (x:Nat->Int):∃ i:Nat,i < P/\tkR r x=(i:Int):=by
 unfold right8 inTo at h;simp only [Bool.and_eq_true,decide_eq_true_eq,List.all_eq_true,List.mem_range] at h;have:=h.2 (x 0 % 8).toNat (by omega);exact ⟨(tkR r x).toNat,by unfold tkR;omega,by unfold tkR;omega⟩
section
variable {base gs gp P:Nat} {r:Nat->Int} {R:Nat->List (Nat->Int)} {V:Nat->Value} {a:Nat->Int} {w w':World}
theorem Sp.grow (h:Sp base gs gp P r R V a w) {i:Nat} (hi:i < P) {R':Nat->List (Nat->Int)} {x:Nat->Int} (hRi:R' i=R i ++ [x]) (hR:∀ j,j < P->j ≠ i->R' j=R j) {g c n:Nat} (hn:n=(R i).length)
  (hown:w'.ownsRow base 32 3 (.slice (some ⟨g,0,none⟩) (n+1) c) (n+1) (cellsR (R i) ++ recC x)) (hg:w.grownBy w' (V i).ownBlock) (hat:(V i).ownBlock=some g \/ w.heap.size<=g) (hlt:g < w'.heap.size) :
  Sp base gs gp P r R' (updV V i (.slice (some ⟨g,0,none⟩) (n+1) c)) a (w'.setCell ⟨gp,i * 2,none⟩ (.slice (some ⟨g,0,none⟩) (n+1) c)):=by
 have hgs:=h.st.lt;have hgp:=h.pt.lt
 have h1:g ≠ gs/\g ≠ gp:=by
  rcases hat with hat | hat
  · exact ⟨fun e=>h.ngs hi (by rw [hat,e]),fun e=>h.ngp hi (by rw [hat,e])⟩
  · omega
 have fs:Fr w'.heap.size [gp] w' (w'.setCell ⟨gp,i * 2,none⟩ (.slice (some ⟨g,0,none⟩) (n+1) c)):=(Fr.refl _ _ _).setCell (.inr (by simp)) _;have hb:=(h.pt.grown hg (h.ngp hi)).set_ (i * 2) (.slice (some ⟨g,0,none⟩) (n+1) c);rw [ptC_set h.pos.2 hi] at hb;refine ⟨h.pos,(h.st.grown hg (h.ngs hi)).far (by simpa using h.ne) _,hb,fun j hj => ?_,fun j k hj hk hjk => ?_⟩
 ·
  by_cases e:j=i
  · subst e;rw [updV,if_pos rfl,hRi,show (R j ++ [x]).length=n+1 by simp [hn],show cellsR (R j ++ [x])=cellsR (R j) ++ recC x by simp [cellsR]];refine ownsRow_fr hown fs (fun q hq => ?_);have:q=g:=(by injection hq with hq;exact hq.symm);subst this;exact ⟨hlt,by simpa using h1.2⟩
  · rw [updV,if_neg e,hR j hj e];have hk1:=(h.own j hj).kept hg (h.sep j i hj hi e);exact ownsRow_fr hk1 fs (fun q hq=>⟨(hk1.lt q hq).2,by simp;rintro rfl;exact h.ngp hj hq.symm⟩)
 ·
  unfold updV;have hv:Value.ownBlock (.slice (some ⟨g,0,none⟩) (n+1) c)=some g:=rfl
  by_cases e1:j=i
  ·
   subst e1;rw [if_pos rfl,if_neg (fun e=>hjk e.symm),hv];refine .inr fun e => ?_
   rcases hat with hat | hat
   ·
    rcases h.sep j k hj hk hjk with h0 | h0
    · rw [hat] at h0;cases h0
    · exact h0 (by rw [hat];exact e)
   · have:=((h.own k hk).lt g e.symm).2;omega
  ·
   rw [if_neg e1]
   by_cases e2:k=i
   ·
    subst e2;rw [if_pos rfl,hv]
    rcases hat with hat | hat
    ·
     rcases h.sep j k hj hk hjk with h0 | h0
     · exact .inl h0
     · exact .inr (fun e=>h0 (by rw [hat];exact e))
    · refine .inr fun e => ?_;have:=((h.own j hj).lt g e).2;omega
   · rw [if_neg e2];exact h.sep j k hj hk hjk
end
theorem append_any {base gs gp P:Nat} {r:Nat->Int} {R:Nat->List (Nat->Int)} {V:Nat->Value} {a:Nat->Int} {w:World} (h:Sp base gs gp P r R V a w) (hbase:base<=w.heap.size) (hrt:right8 P r=true) (xs:List (Nat->Int)) (A:Option Addr) (c B:Nat)
  (hl:∀ i,i < P->(R i).length+xs.length<=399) (hr:Reads w B 3 A xs.length (cellsR xs)) (hB:B<=base) (hBg:B<=gp) :
  Calls Tryz.prog 24 #[.pointer (some ⟨gs,0,none⟩),.slice A xs.length c] w fun e w' =>
   ∃ V',e=.returned (.tuple #[.int .i64 (goodN xs),.int .i64 (if goodN xs=xs.length then 0 else 1)])/\Sp base gs gp P r (addR r R (xs.take (goodN xs))) V' a w'/\Fr base [gp] w w':=by
 have HX:=zh (fun (k:Nat) (hk:k < xs.length)=>(⟨xs[k],List.getElem?_eq_getElem hk⟩:∃ x,xs[k]?=some x));have H:=zh h;have HR:=zh hr;have HL:=zh (fun (i:Nat) (hi:i < P) (k:Nat)=>(Nat.le_trans (addR_le r R (xs.take k) i) (by have:=hl i hi;rw [List.length_take];omega):(addR r R (xs.take k) i).length<=399));have HT:=zh (fun x=>tk_in hrt x);have hgl:=goodN_le xs;have hn399:xs.length<=399:=(by have:=hl 0 (by have:=h.pos.1;omega);omega);obtain ⟨n,hn⟩:=nm (xs.length);have HN:=zh hn;obtain ⟨G,hG⟩:=nm (goodN xs);have HG:=zh hG;have hP3:=h.pos.2;clear h hr hl hrt;rw [<- hG,<- hn] at hgl;rw [<- hn] at hn399;rw [<- hG,<- hn];clear hG hn;obtain ⟨code,hcode⟩:=nm (if G=n then 0 else 1:Int);have HCODE:=zh hcode;rw [<- hcode];clear hcode;go_enter Tryz.func24,Tryz.ntmps24;go_wp2_with fail;go_loopg [13] n (fun g i wr=>∃ (k:Nat) (V':Nat->Value),k<=n/\k<=G/\g=n - k/\i=.int .i64 k/\Hid (Sp base gs gp P r (addR r R (xs.take k)) V' a wr)/\Hid (Fr base [gp] w wr))
 case atStart=>exact ⟨0,V,by omega,by omega,rfl,rfl,by rw [List.take_zero,addR_nil];exact H,zh (Fr.refl _ _ _)⟩
 case round =>
  obtain ⟨k,V',hk,hkG,rfl,rfl,HS,HF⟩:=hrel
  by_cases hkn:k < n
  ·
   obtain ⟨x,hx⟩:=HX.out k (by rw [<- HN.out];exact hkn);have hsz:=HF.out.size;have hrd:=HR.out.fr HF.out hB (by simp;omega);obtain ⟨b1,o1,rfl,hb1,hc1⟩:=reads_rec hrd hx;have p0:=hc1 0 (by omega);have p1:=hc1 1 (by omega);have p2:=hc1 2 (by omega);simp only [Nat.add_zero,<- Nat.add_assoc] at p0 p1 p2;have hki:(k:Int) < (n:Int):=(by omega);have HXK:=zh hx;clear hc1 hrd hx;go_upto_region 6 with fail;have hba:=Blk.new wr 32 #[.int .i64 (x 0),.int .i64 (x 1),.int .i64 (x 2)];have hfa:=(Fr.refl wr.heap.size [] wr).alloc (Nat.le_refl _) (.cells #[.int .i64 (x 0),.int .i64 (x 1),.int .i64 (x 2)] 32);go_wp2_with fail;have hwr:base<=wr.heap.size:=Nat.le_trans hbase hsz;generalize wr.alloc _=wa at *;clear p0 p1 p2;refine (cellright_any (x 0) (x 1) (x 2) _).mono ?_;rintro e w3 ⟨rfl,f3⟩;have hfr3:=hfa.trans (f3.mono hfa.size (by simp));have S3:=zh (HS.out.keep hfr3);have BX:=zh (hba.fr f3 hba.lt (by simp));have F3:=zh (HF.out.trans (hfr3.mono (B':=base) (L':=[gp]) hwr (by simp)));have hw3:base<=w3.heap.size:=Nat.le_trans hwr hfr3.size;obtain ⟨gx,hgxe⟩:=nm (wr.heap.size);rw [<- hgxe] at BX;have HGX:=zh (fun (i q:Nat) (hi:i < P) (hq:(V' i).ownBlock=some q)=>(by have:=((HS.out.own i hi).lt q hq).2;omega:q ≠ gx));have hgxp:gx ≠ gp:=(by have:=HS.out.pt.lt;omega);rw [<- hgxe];clear hba hfa f3 hfr3 hgxe HS HF
   rcases Bool.eq_false_or_eq_true (recB (x 0) (x 1) (x 2)) with hb | hb
   ·
    rw [hb];have hkG1:k+1<=G:=(by rw [HG.out];exact goodN_next HXK.out (by rw [<- HG.out];exact hkG) hb);obtain ⟨i,hi,hti⟩:=HT.out x;have HTI:=zh hti;have HTA:=zh (fun wx=>(by have o:=task_any r (x 0) wx;rw [show r (x 0 % 8).toNat=(i:Int) from hti] at o;exact o:Calls Tryz.prog 63 #[A8 r,.int .i64 (x 0)] wx fun e w'=>e=.returned (.int .i64 (i:Nat))/\Fr wx.heap.size [] wx w'));have hii:(i:Int) < (P:Int):=(by omega);have hi0:(0:Int)<=(i:Int):=(by omega);clear hb hti;go_upto_region 8 with fail;have INV:Hid (Sp base gs gp P r (addR r R (xs.take k)) V' a w3.drew/\Blk w3.drew gx 32 #[.int .i64 (x 0),.int .i64 (x 1),.int .i64 (x 2)]/\Fr base [gp] w w3.drew/\base<=w3.drew.heap.size):=⟨S3.out.keep ((Fr.refl _ _ _).drew),BX.out.drew,F3.out.drew,hw3⟩
    go_region_held3 (fun wx=>wx.cell? ⟨gs,0,none⟩=some (.int .i64 (r 0))/\wx.cell? ⟨gs,1,none⟩=some (.int .i64 (r 1))/\wx.cell? ⟨gs,2,none⟩=some (.int .i64 (r 2))/\wx.cell? ⟨gs,3,none⟩=some (.int .i64 (r 3))/\wx.cell? ⟨gs,4,none⟩=some (.int .i64 (r 4))/\wx.cell? ⟨gs,5,none⟩=some (.int .i64 (r 5))/\wx.cell? ⟨gs,6,none⟩=some (.int .i64 (r 6))/\wx.cell? ⟨gs,7,none⟩=some (.int .i64 (r 7))/\wx.cell? ⟨gs,8,none⟩=some (.slice (some ⟨gp,0,none⟩) P P)/\wx.cell? ⟨gx,0,none⟩=some (.int .i64 (x 0)))
     (exact ⟨INV.out.1.st.cell 0,INV.out.1.st.cell 1,INV.out.1.st.cell 2,INV.out.1.st.cell 3,INV.out.1.st.cell 4,INV.out.1.st.cell 5,INV.out.1.st.cell 6,INV.out.1.st.cell 7,INV.out.1.st.cell 8,INV.out.2.1.cell 0⟩)
     ((go_at_call 63;refine (HTA.out _).mono ?_;rintro e w4 ⟨rfl,f4⟩;have hs4:=f4.size;have INV:Hid (Sp base gs gp P r (addR r R (xs.take k)) V' a w4/\Blk w4 gx 32 #[.int .i64 (x 0),.int .i64 (x 1),.int .i64 (x 2)]/\Fr base [gp] w w4/\base<=w4.heap.size):=⟨INV.out.1.keep f4,INV.out.2.1.fr f4 INV.out.2.1.lt (by simp),INV.out.2.2.1.trans (f4.mono INV.out.2.2.2 (by simp)),Nat.le_trans INV.out.2.2.2 hs4⟩;clear f4))
    all_goals
     obtain ⟨S4,B4,F4,hb4⟩:=INV.out;have ho:=S4.own i hi;obtain ⟨A1,c1,hVi,_,_,_⟩:=ownsRow_shape ho;rw [hVi] at ho;have hoff:=S4.ngp hi;rw [hVi] at hoff;have hoffx:(Value.slice A1 (addR r R (xs.take k) i).length c1).ownBlock ≠ some gx:=fun hq=>HGX.out i gx hi (by rw [hVi];exact hq) rfl;have hpt:=S4.pt.cell (i * 2);have hfz:=S4.pt.frozen (i * 2);rw [(ptC_get hP3 hi).1,hVi] at hpt;have c0:=B4.cell 0;have c1':=B4.cell 1;have c2:=B4.cell 2;simp at c0 c1' c2;have hgp4:=S4.pt.lt;have hgx4:=B4.lt;have hml:=HL.out i hi k;have SS:=zh S4;have FF:=zh F4;have HVI:=zh hVi;clear S4 B4 F4 INV hVi;obtain ⟨m,hm⟩:=nm ((addR r R (xs.take k) i).length);rw [<- hm] at ho hoff hoffx hpt hml;have HMM:=zh hm;have hm4:decide ((400:Int)<=(m:Int))=false:=decide_eq_false (by omega);clear hm;obtain ⟨i0,hi0',hz0,hz1,hz2⟩:=info_parts (show (Tryz.prog.info? 32).map (fun i=>(i.zero,i.size,i.bytes))=some (some (.agg #[.int .i64 0,.int .i64 0,.int .i64 0]),3,24) by kernel_rfl);go_wp2_with fail
     go_region_law
      ((refine step_append_lies _ (by rfl) _ _ _ (by rfl) base 32 i0 _ 3 24 Tryz.underlying22 hi0' hz0 hz1 hz2 rfl (by omega) (.slice A1 m c1) m _ (by rfl) ((ho.alloc _).drew)
            ⟨w4.heap.size,0,none⟩ 1 1 (recC x) (by rfl) (by rfl) (World.news_of_block (cs:=(recC x).toArray) (t:=32) (fr:=(0,0)) (heap_alloc_new w4 _)) (by simp [recC,Value.oneCell'])
            (by omega) (by unfold maxLen;omega) (by omega) (by simp;omega) (w4.heap.size+1) (by simp) ?_;intro gg cap w6 hown1 hgrow hat hlt6;have hfz6:w6.frozen? ⟨gp,i * 2,none⟩=false:=(hgrow.frozen_far ⟨gp,i * 2,none⟩ (by simp;omega) hoff).trans ((SS.out.pt.alloc _).frozen (i * 2));have hcr6:w6.cell? ⟨gp,i * 2,none⟩=some (.slice A1 m c1):=(hgrow.cell_far ⟨gp,i * 2,none⟩ (by simp;omega) hoff).trans (((SS.out.pt.alloc _).cell (i * 2)).trans (by rw [(ptC_get hP3 hi).1,HVI.out,HMM.out]))))
     all_goals
      go_wp2_with fail;go_roundg (n - (k+1))
      case measure=>omega
      case rel =>
       have hmm:=HMM.out;subst hmm;have hgr:=(World.grownBy_alloc w4.drew _ _).trans hgrow;rw [<- HVI.out] at hgr
       have hat':(V' i).ownBlock=some gg \/ w4.drew.heap.size<=gg:=by
        rw [HVI.out]
        rcases hat with hat | hat
        · exact .inl hat
        · exact .inr (by show w4.heap.size<=gg;omega)
       have htk:xs.take (k+1)=xs.take k ++ [x]:=(by rw [List.take_add_one,HXK.out];rfl);have hG:=(SS.out.keep (Fr.drew (Fr.refl _ _ _))).grow (R':=addR r R (xs.take (k+1))) hi (x:=x) (by rw [htk,addR_snoc,if_pos HTI.out]) (fun j hj hji=>by rw [htk,addR_snoc,if_neg (by rw [HTI.out];omega)]) rfl hown1 hgr hat' hlt6;refine ⟨k+1,_,by omega,by omega,rfl,by go_num,hG,?_⟩;refine zh (Fr.setCell ((FF.out.drew).grown hgr (by show base<=w4.heap.size;exact hb4) (fun q hq=>.inl ?_)) (.inr (by simp)) _);exact ((SS.out.own i hi).lt q hq).1
   · rw [hb];have hGk:G=k:=(by rw [HG.out];exact goodN_at HXK.out (by rw [<- HG.out];exact hkG) hb);have hcode:code=1:=(by rw [HCODE.out,if_neg (by omega)]);subst hcode hGk;clear hb;go_wp2_with fail;go_ret2;exact ⟨V',rfl,S3.out,F3.out⟩
  ·
   obtain rfl:k=n:=by omega
   have hGk:G=k:=(by omega);have hcode:code=0:=(by rw [HCODE.out,if_pos hGk]);subst hcode hGk;have S':=HS;clear HS;go_wp2_with fail;go_ret2;exact ⟨rfl,⟨V',S'.out⟩,HF.out⟩
end Go.Proofs.YtgblfflikgnfpaaGreat
namespace Go.Proofs.YtgblfflikgnfpaaGreat
open Go.RowKit Go.Fb
set_option maxRecDepth 100000
set_option maxHeartbeats 16000000
set_option linter.unusedVariables false
theorem lens1 (A:Option Addr) (m c:Nat) (at_:Int) (w:World):Calls Tryz.prog 68 #[.agg #[.slice A m c,.int .i64 at_]] w fun e w'=>e=.returned (.int .i64 (m:Nat))/\Fr w.heap.size [] w w':=by
 go_enter Tryz.func68,Tryz.ntmps68;go_wp2_with fail;go_ret;exact ⟨rfl,(Fr.refl _ _ _).alloc (Nat.le_refl _) _⟩
def lensL (R:Nat->List (Nat->Int)) (k:Nat):List Value:=(List.range k).map fun i=>.int .i64 ((R i).length:Nat)
theorem lensL_succ (R:Nat->List (Nat->Int)) (k:Nat):lensL R (k+1)=lensL R k ++ [.int .i64 ((R k).length:Nat)]:=by
 unfold lensL;rw [List.range_succ,List.map_append];rfl
theorem lensL_get {R:Nat->List (Nat->Int)} {k i:Nat} (h:i < k):(lensL R k)[i]?=some (.int .i64 ((R i).length:Nat)):=by
 unfold lensL;rw [List.getElem?_map,List.getElem?_range h];rfl
section
variable {base gs gp P:Nat} {r:Nat->Int} {R:Nat->List (Nat->Int)} {V:Nat->Value} {a:Nat->Int}
def LensOut (P:Nat) (R:Nat->List (Nat->Int)) (w:World) (e:Ending) (w':World):Prop :=
 ∃ A c,e=.returned (.slice A P c)/\w'.ownsRow w.heap.size 3 1 (.slice A P c) P (lensL R P)/\Fr w.heap.size [] w w'
theorem eachlens_any {w:World} (h:Sp base gs gp P r R V a w):Calls Tryz.prog 66 #[.pointer (some ⟨gs,0,none⟩),.func (.func 68) #[] #[]] w (LensOut P R w):=by
 have H:=zh h;have s8:=h.st.cell 8;simp [srcR] at s8;have hP3:=h.pos.2;have hP1:=h.pos.1;clear h;go_enter Tryz.func66,Tryz.ntmps66;go_wp2_with fail;go_loopg [5,15] P (fun g s5 s15 wr=>∃ (k:Nat) (A:Option Addr) (c:Nat),k<=P/\g=P - k/\s15=.int .i64 k/\s5=.slice A k c/\Hid (wr.ownsRow w.heap.size 3 1 (.slice A k c) k (lensL R k))/\Hid (Fr w.heap.size [] w wr))
 case atStart=>exact ⟨0,none,0,Nat.zero_le _,rfl,rfl,rfl,zh (World.ownsRow_nil _ _ _ _),zh (Fr.refl _ _ _)⟩
 case round =>
  obtain ⟨k,A,c,hk,rfl,rfl,rfl,HO,HF⟩:=hrel
  by_cases hkP:k < P
  ·
   have S:=H.out.keep HF.out;obtain ⟨A1,c1,hVk,_,_,_⟩:=ownsRow_shape (S.own k hkP);have hki:(k:Int) < (P:Int):=(by omega);have t0:=S.pt.cell (k * 2);have t1:=S.pt.cell (k * 2+1);rw [(ptC_get hP3 hkP).1,hVk] at t0;rw [(ptC_get hP3 hkP).2] at t1;obtain ⟨ak,hak⟩:=nm (a k);rw [<- hak] at t1;obtain ⟨m,hm⟩:=nm ((R k).length);rw [<- hm] at t0;have HL:=zh (fun w=>lens1 A1 m c1 ak w);have HLS:=zh (show lensL R (k+1)=lensL R k ++ [.int .i64 (m:Nat)] by rw [hm];exact lensL_succ R k);clear S hVk hm hak;go_wp2_with fail;have f1:=(Fr.refl wr.heap.size [] wr).alloc (Nat.le_refl _) (.cells #[.slice A1 m c1,.int .i64 ak] 162);generalize wr.alloc _=w1 at *;refine (HL.out _).mono ?_;rintro e w2 ⟨rfl,f2⟩;have f12:=f1.nx f2;have HO2:=zh (ownsRow_fr HO.out f12 (fun q hq=>⟨(HO.out.lt q hq).2,by simp⟩));have F2:=zh (HF.out.nx f12);have hsz:=F2.out.size;have hown:=HO2.out;clear f1 f2 f12 HO HF;go_wp2_with (at_builtin;refine wpList_app_lit _ rfl (.tmp 19) (.tmp 23) intsTy rfl w.heap.size (.slice A k c) k _ rfl hown 1 1 _ rfl rfl (by simp [Value.oneCell']) (by omega) (by omega) hsz ?_;intro A2 c2 w3 hown3 hg3 hat3);have F4:=zh (F2.out.trans (Fr.of_app hg3 hown hsz));have HO3:=zh hown3;clear hown3 hg3 hat3 hown;go_roundg (P - (k+1))
   case measure=>omega
   case rel=>exact ⟨k+1,A2,c2,by omega,rfl,by go_num,rfl,by rw [HLS.out];exact HO3,F4⟩
  ·
   obtain rfl:k=P:=by omega
   go_wp2_with fail;go_ret;exact ⟨A,c,rfl,HO.out,HF.out⟩
theorem lens_any {w:World} (h:Sp base gs gp P r R V a w):Calls Tryz.prog 27 #[.pointer (some ⟨gs,0,none⟩)] w (LensOut P R w):=by
 have HE:=zh (eachlens_any h);clear h;go_enter Tryz.func27,Tryz.ntmps27;go_wp2_with fail;refine HE.out.mono ?_;rintro e w1 ⟨A,c,rfl,ho,hf⟩;have HO:=zh ho;have HF:=zh hf;clear ho hf;go_wp2_with fail;go_ret;exact ⟨A,c,rfl,HO.out,HF.out⟩
end
theorem held_nilk (k m:Nat) (w:World):Calls Tryz.prog 72 #[.slice none 0 0,.int .i64 (k:Nat),.int .i64 m] w fun e w'=>e=.returned (.int .i64 0)/\w=w':=by
 have hk:(0:Int)<=(k:Int):=(by omega);go_enter Tryz.func72,Tryz.ntmps72;go_wp2_with fail;go_ret;exact ⟨rfl,rfl⟩
theorem held_lens {A:Option Addr} {c P k m B:Nat} {R:Nat->List (Nat->Int)} (hk:k < P) (hm:m=(R k).length) (w:World) (hr:Reads w B 1 A P (lensL R P)):Calls Tryz.prog 72 #[.slice A P c,.int .i64 (k:Nat),.int .i64 m] w fun e w'=>e=.returned (.int .i64 (m:Nat))/\w=w':=by
 obtain ⟨b1,o1,u,rfl,hb1,hu,hc1⟩:=hr.one hk;rw [lensL_get hk,<- hm] at hu;injection hu with hu
 subst hu;clear hr hm;have hki:(k:Int) < (P:Int):=(by omega);have hk0:(0:Int)<=(k:Int):=(by omega);have hm0:(0:Int)<=(m:Int):=(by omega);go_enter Tryz.func72,Tryz.ntmps72;go_wp2_with fail;go_ret;exact ⟨rfl,rfl⟩
end Go.Proofs.YtgblfflikgnfpaaGreat
namespace Go.Proofs.YtgblfflikgnfpaaGreat
open Go.RowKit Go.Fb
set_option maxRecDepth 100000
set_option maxHeartbeats 16000000
set_option linter.unusedVariables false
section
variable {base gs gp P:Nat} {r:Nat->Int} {R:Nat->List (Nat->Int)} {V:Nat->Value} {a:Nat->Int}
theorem Sp.setAt {w:World} (h:Sp base gs gp P r R V a w) {i:Nat} (hi:i < P) (z:Int):Sp base gs gp P r R V (updA a i z) (w.setCell ⟨gp,i * 2+1,none⟩ (.int .i64 z)):=by
 have fs:Fr w.heap.size [gp] w (w.setCell ⟨gp,i * 2+1,none⟩ (.int .i64 z)):=(Fr.refl _ _ _).setCell (.inr (by simp)) _;have hb:=h.pt.set_ (i * 2+1) (.int .i64 z);rw [ptC_seta h.pos.2 hi] at hb;exact ⟨h.pos,h.st.far (by simpa using h.ne) _,hb,fun j hj=>ownsRow_fr (h.own j hj) fs (fun q hq=>⟨((h.own j hj).lt q hq).2,by simp;rintro rfl;exact h.ngp hj hq.symm⟩),h.sep⟩
theorem Sp.fr_ {w w':World} {B:Nat} {L:List Nat} (h:Sp base gs gp P r R V a w) (hf:Fr B L w w') (hB:w.heap.size<=B) (h1:gs ∉ L) (h2:gp ∉ L) (h3:∀ i,i < P -> ∀ q,(V i).ownBlock=some q->q ∉ L):Sp base gs gp P r R V a w' :=
 ⟨h.pos,h.st.fr hf (Nat.lt_of_lt_of_le h.st.lt hB) h1,h.pt.fr hf (Nat.lt_of_lt_of_le h.pt.lt hB) h2,fun j hj=>ownsRow_fr (h.own j hj) hf (fun q hq=>⟨Nat.lt_of_lt_of_le ((h.own j hj).lt q hq).2 hB,h3 j hj q hq⟩),h.sep⟩
theorem spnext_any {w:World} (h:Sp base gs gp P r R V a w) {i at_:Nat} (hi:i < P) (ha:a i=(at_:Int)) {x:Nat->Int} (hx:(R i)[at_]?=some x) :
  Calls Tryz.prog 137 #[.pointer (some ⟨gs,0,none⟩),.int .i64 (i:Int)] w fun e w'=>e=.returned (.tuple #[.agg (recA x),.bool true])/\Fr w.heap.size [] w w':=by
 have hlt:at_ < (R i).length:=by
  rcases Nat.lt_or_ge at_ (R i).length with h | h
  · exact h
  · rw [List.getElem?_eq_none h] at hx;cases hx
 obtain ⟨A1,c1,hV,_,_,_⟩:=ownsRow_shape (h.own i hi);have hrd:=(by have:=h.own i hi;rw [hV] at this;exact Reads.of_own this);obtain ⟨b1,o1,rfl,hb1,hc1⟩:=reads_rec hrd hx;have p0:=hc1 0 (by omega);have p1:=hc1 1 (by omega);have p2:=hc1 2 (by omega);simp only [Nat.add_zero,<- Nat.add_assoc] at p0 p1 p2;have s8:=h.st.cell 8;simp [srcR] at s8;have t0:=h.pt.cell (i * 2);have t1:=h.pt.cell (i * 2+1);rw [(ptC_get h.pos.2 hi).1,hV] at t0;rw [(ptC_get h.pos.2 hi).2,ha] at t1;have l1:=h.st.lt;have l2:=h.pt.lt;clear h hc1 hrd hx hV ha;generalize (R i).length=m at *;have hti:(at_:Int) < (m:Int):=(by omega);have hii:(i:Int) < (P:Int):=(by omega);have hi0:(0:Int)<=(i:Int):=(by omega);have hd0:decide ((i:Int) < 0)=false:=decide_eq_false (by omega);have hd1:decide ((P:Int)<=(i:Int))=false:=decide_eq_false (by omega);have hd:decide ((m:Int)<=(at_:Int))=false:=decide_eq_false (by omega);go_enter Tryz.func137,Tryz.ntmps137;go_wp2_with fail;go_quiet (fail);go_wp2_with fail;go_region
 all_goals
  go_wp2_with fail;exact bodyPost_ret (results_row_tmp rfl _ _ w.heap.size 32 (recA x) (0,0) _ rfl (show Blk (World.drew (set3 ((w.alloc (.cells rec0 32)).drewN nq) w.heap.size (.int .i64 (x 0)) (.int .i64 (x 1)) (.int .i64 (x 2)))) _ _ _ from (blk_set3 ((Blk.new w 32 rec0).drewN nq) _ _ _).drew) Tryz.underlying32 rfl (by kernel_rfl)) rfl ⟨rfl,(fr_set3 (((Fr.refl w.heap.size [] w).alloc (Nat.le_refl _) (.cells rec0 32)).drewN nq) (.inl (Nat.le_refl _)) _ _ _).drew⟩
theorem spnext_end {w:World} (h:Sp base gs gp P r R V a w) {i at_:Nat} (hi:i < P) (ha:a i=(at_:Int)) (hx:(R i).length<=at_) :
  Calls Tryz.prog 137 #[.pointer (some ⟨gs,0,none⟩),.int .i64 (i:Int)] w fun e w'=>e=.returned (.tuple #[.agg rec0,.bool false])/\Fr w.heap.size [] w w':=by
 obtain ⟨A1,c1,hV,_,_,_⟩:=ownsRow_shape (h.own i hi);have s8:=h.st.cell 8;simp [srcR] at s8;have t0:=h.pt.cell (i * 2);have t1:=h.pt.cell (i * 2+1);rw [(ptC_get h.pos.2 hi).1,hV] at t0;rw [(ptC_get h.pos.2 hi).2,ha] at t1;have l1:=h.st.lt;have l2:=h.pt.lt;clear h hV ha;generalize (R i).length=m at *;have hii:(i:Int) < (P:Int):=(by omega);have hi0:(0:Int)<=(i:Int):=(by omega);have hd0:decide ((i:Int) < 0)=false:=decide_eq_false (by omega);have hd1:decide ((P:Int)<=(i:Int))=false:=decide_eq_false (by omega);have hd:decide ((m:Int)<=(at_:Int))=true:=decide_eq_true (by omega);go_enter Tryz.func137,Tryz.ntmps137;go_wp2_with fail;go_quiet (fail);go_wp2_with fail;exact bodyPost_ret (results_row_tmp rfl _ _ w.heap.size 32 rec0 (0,0) _ rfl (show Blk (set3 ((w.alloc (.cells rec0 32)).drewN nq) w.heap.size (.int .i64 0) (.int .i64 0) (.int .i64 0)) _ _ _ from blk_set3 ((Blk.new w 32 rec0).drewN nq) _ _ _) Tryz.underlying32 rfl (by kernel_rfl)) rfl ⟨rfl,fr_set3 (((Fr.refl w.heap.size [] w).alloc (Nat.le_refl _) (.cells rec0 32)).drewN nq) (.inl (Nat.le_refl _)) _ _ _⟩
theorem spread_any {w:World} (h:Sp base gs gp P r R V a w) {i at_:Nat} (hi:i < P) (ha:a i=(at_:Int)) (hl:(R i).length<=400) {x:Nat->Int} (hx:(R i)[at_]?=some x) :
  Calls Tryz.prog 102 #[.pointer (some ⟨gs,0,none⟩),.int .i64 (i:Int)] w fun e w'=>e=.returned (.tuple #[.agg (recA x),.bool true])/\Sp base gs gp P r R V (updA a i ((at_:Int)+1)) w'/\Fr w.heap.size [gp] w w':=by
 have hlt:at_ < (R i).length:=by
  rcases Nat.lt_or_ge at_ (R i).length with h | h
  · exact h
  · rw [List.getElem?_eq_none h] at hx;cases hx
 have hat:(at_:Int) < 400:=(by omega);have f0:=(Fr.refl w.heap.size [] w).alloc (Nat.le_refl _) (.cells rec0 32);have b0:=Blk.new w 32 rec0;have h1:=h.keep f0;have hgs:=h.st.lt;have hgp:=h.pt.lt;have hne:=h.ne;have HVB:=zh (fun j (hj:j < P) b hb=>((h.own j hj).lt b hb).2);have hii:(i:Int) < (P:Int):=(by omega);have hi0:(0:Int)<=(i:Int):=(by omega);have hP3:=h.pos.2;have HA:=zh ha;clear hlt hl ha;go_enter Tryz.func102,Tryz.ntmps102;go_wp2_with fail;generalize w.alloc _=w1 at *;refine (spnext_any h1 hi HA.out hx).mono ?_;rintro e w2 ⟨rfl,f2⟩;have S2:=zh (h1.keep f2);have B2:=zh (b0.fr f2 b0.lt (by simp));have F2:=zh (f0.trans (f2.mono f0.size (by simp)));clear f0 b0 h1 f2 h hx;have s8:=S2.out.st.cell 8;have t1:=S2.out.pt.cell (i * 2+1);have z1:=S2.out.pt.frozen (i * 2+1);rw [(ptC_get hP3 hi).2,HA.out] at t1;have b0:=B2.out.cell 0;have b1:=B2.out.cell 1;have b2:=B2.out.cell 2;have y0:=B2.out.frozen 0;have y1:=B2.out.frozen 1;have y2:=B2.out.frozen 2;have l1:=S2.out.st.lt;have l2:=S2.out.pt.lt;have l3:=B2.out.lt;simp [srcR] at s8 b0 b1 b2;go_wp2_with fail;have S3:=S2.out.setAt hi ((at_:Int)+1);have hB3:Blk (w2.setCell ⟨gp,i * 2+1,none⟩ (.int .i64 ((at_:Int)+1))) w.heap.size 32 rec0:=B2.out.far (by simp;omega) _;have F3:Fr w.heap.size [gp] w (w2.setCell ⟨gp,i * 2+1,none⟩ (.int .i64 ((at_:Int)+1))):=(F2.out.mono (B':=w.heap.size) (L':=[gp]) (Nat.le_refl _) (by simp)).setCell (.inr (by simp)) _;have S4:=S3.fr_ (fr_set3 (g:=w.heap.size) (Fr.refl (w2.setCell ⟨gp,i * 2+1,none⟩ (.int .i64 ((at_:Int)+1))).heap.size [w.heap.size] _) (.inr (by simp)) (.int .i64 (x 0)) (.int .i64 (x 1)) (.int .i64 (x 2))) (Nat.le_refl _) (by simp;omega) (by simp;omega) (fun j hj b hb=>by have:=HVB.out j hj b hb;simp;omega);have S5:=S4.keep ((Fr.refl _ _ _).alloc (Nat.le_refl _) (.cells (recA x) 32));exact bodyPost_ret (results_row_tmp rfl _ _ w.heap.size 32 (recA x) (0,0) _ rfl ((blk_set3 hB3 (.int .i64 (x 0)) (.int .i64 (x 1)) (.int .i64 (x 2))).alloc (.cells (recA x) 32)) Tryz.underlying32 rfl (by kernel_rfl)) rfl ⟨rfl,S5,(fr_set3 F3 (.inl (Nat.le_refl _)) _ _ _).alloc (by have:=F3.size;simpa [set3] using this) _⟩
theorem spread_end {w:World} (h:Sp base gs gp P r R V a w) {i at_:Nat} (hi:i < P) (ha:a i=(at_:Int)) (hx:(R i).length<=at_) :
  Calls Tryz.prog 102 #[.pointer (some ⟨gs,0,none⟩),.int .i64 (i:Int)] w fun e w'=>e=.returned (.tuple #[.agg rec0,.bool false])/\Fr w.heap.size [] w w':=by
 have f0:=(Fr.refl w.heap.size [] w).alloc (Nat.le_refl _) (.cells rec0 32);have b0:=Blk.new w 32 rec0;have h1:=h.keep f0;clear h;go_enter Tryz.func102,Tryz.ntmps102;go_wp2_with fail;generalize w.alloc _=w1 at *;refine (spnext_end h1 hi ha hx).mono ?_;rintro e w2 ⟨rfl,f2⟩;have B2:=zh (b0.fr f2 b0.lt (by simp));have F2:=zh (f0.trans (f2.mono f0.size (by simp)));clear f0 b0 h1 f2 hx;have b0:=B2.out.cell 0;have b1:=B2.out.cell 1;have b2:=B2.out.cell 2;have y0:=B2.out.frozen 0;have y1:=B2.out.frozen 1;have y2:=B2.out.frozen 2;have l3:=B2.out.lt;simp at b0 b1 b2;go_wp2_with fail;exact bodyPost_ret (results_row_tmp rfl _ _ w.heap.size 32 rec0 (0,0) _ rfl ((blk_set3 B2.out (.int .i64 0) (.int .i64 0) (.int .i64 0)).alloc (.cells rec0 32)) Tryz.underlying32 rfl (by kernel_rfl)) rfl ⟨rfl,(fr_set3 F2.out (.inl (Nat.le_refl _)) _ _ _).alloc (by have:=F2.out.size;simpa [set3] using this) _⟩
end
end Go.Proofs.YtgblfflikgnfpaaGreat
namespace Go.Proofs.YtgblfflikgnfpaaGreat
open Go.RowKit Go.Fb
set_option maxRecDepth 100000
set_option maxHeartbeats 16000000
set_option linter.unusedVariables false
def flatR (R:Nat->List (Nat->Int)) (k:Nat):List (Nat->Int):=(List.range k).flatMap R
theorem flatR_succ (R:Nat->List (Nat->Int)) (k:Nat):flatR R (k+1)=flatR R k ++ R k:=by
 unfold flatR;rw [List.range_succ,List.flatMap_append];simp
theorem cellsR_app (a b:List (Nat->Int)):cellsR (a ++ b)=cellsR a ++ cellsR b:=by simp [cellsR]
theorem flatR_le (R:Nat->List (Nat->Int)) {k P:Nat} (h:k<=P):(flatR R k).length<=(flatR R P).length:=by
 induction P with
 | zero =>
  have:k=0:=(by omega);subst this;exact Nat.le_refl _
 | succ P ih =>
  rcases Nat.lt_or_ge k (P+1) with h1 | h1
  · have:=ih (by omega);rw [flatR_succ,List.length_append];omega
  ·
   have:k=P+1:=by omega
   subst this;exact Nat.le_refl _
section
variable {base gs gp P:Nat} {r:Nat->Int} {R:Nat->List (Nat->Int)} {V:Nat->Value} {a:Nat->Int}
def AllOut (P:Nat) (R:Nat->List (Nat->Int)) (w:World) (e:Ending) (w':World):Prop :=
 ∃ A c,e=.returned (.slice A (flatR R P).length c)/\w'.ownsRow w.heap.size 32 3 (.slice A (flatR R P).length c) (flatR R P).length (cellsR (flatR R P))/\Fr w.heap.size [] w w'
theorem betweenall_any {w:World} (h:Sp base gs gp P r R V a w) (hl:(flatR R P).length<=1000) (AL:Option Addr) (cL B:Nat) (hr:Reads w B 1 AL P (lensL R P)) (hB:B<=w.heap.size) :
  Calls Tryz.prog 39 #[.pointer (some ⟨gs,0,none⟩),.slice none 0 0,.slice AL P cL] w (AllOut P R w):=by
 have H:=zh h;have HR:=zh hr;have HL:=zh (fun k (hk:k<=P)=>Nat.le_trans (flatR_le R hk) hl);have s8:=h.st.cell 8;simp [srcR] at s8;have hP3:=h.pos.2;have hP1:=h.pos.1;have hgsl:=h.st.lt;clear h hr hl;go_enter Tryz.func39,Tryz.ntmps39;go_wp2_with fail;go_loopg [7,19] P (fun g s7 s19 wr=>∃ (k n:Nat) (A:Option Addr) (c:Nat),k<=P/\g=P - k/\s19=.int .i64 k/\s7=.slice A n c/\Hid (n=(flatR R k).length)/\Hid (wr.ownsRow w.heap.size 32 3 (.slice A n c) n (cellsR (flatR R k)))/\Hid (Fr w.heap.size [] w wr))
 case atStart=>exact ⟨0,0,none,0,Nat.zero_le _,rfl,rfl,rfl,zh rfl,zh (World.ownsRow_nil _ _ _ _),zh (Fr.refl _ _ _)⟩
 case round =>
  obtain ⟨k,n,A,c,hk,rfl,rfl,rfl,HN,HO,HF⟩:=hrel
  by_cases hkP:k < P
  ·
   have S:=H.out.keep HF.out;have hown1:=S.own k hkP;obtain ⟨A1,c1,hVk,_,hc1,_⟩:=ownsRow_shape hown1;have hki:(k:Int) < (P:Int):=(by omega);have t0:=S.pt.cell (k * 2);have t1:=S.pt.cell (k * 2+1);rw [(ptC_get hP3 hkP).1,hVk] at t0;rw [(ptC_get hP3 hkP).2] at t1;obtain ⟨ak,hak⟩:=nm (a k);rw [<- hak] at t1;clear hak;rw [hVk] at hown1;obtain ⟨m,hm⟩:=nm ((R k).length);rw [<- hm] at t0 hown1 hc1;have hnm:n+m<=1000:=(by have:=HL.out (k+1) (by omega);rw [flatR_succ,List.length_append,<- HN.out,<- hm] at this;exact this);have HM:=zh hm;have RM:=zh (Reads.of_own hown1);clear S hVk hm hown1;go_upto_region 7 with fail;have bx:=Blk.new wr 162 #[.slice A1 m c1,.int .i64 ak];have fx:=(Fr.refl wr.heap.size [] wr).alloc (Nat.le_refl _) (.cells #[.slice A1 m c1,.int .i64 ak] 162);have HOx:=zh (ownsRow_fr HO.out fx (fun q hq=>⟨(HO.out.lt q hq).2,by simp⟩));have FX:=zh (HF.out.nx fx);have RMx:=zh ((RM.out.fr fx (Nat.le_refl _) (by simp)).more fx.size);have BX:=zh bx;clear bx fx HO HF RM t0 t1;generalize wr.alloc (.cells #[.slice A1 m c1,.int .i64 ak] 162)=w1 at *;generalize wr.heap.size=gx at *;have HHL:=zh (fun nq=>((held_lens (c:=cL) hkP HM.out (w1.drewN nq) ((HR.out.fr FX.out hB (by simp)).keep (fun p _=>rfl))).mono fun _ _ h=>⟨h.1,h.2.symm⟩:Calls Tryz.prog 72 #[.slice AL P cL,.int .i64 (k:Nat),.int .i64 m] (w1.drewN nq) fun e w'=>e=.returned (.int .i64 (m:Nat))/\w'=w1.drewN nq));have HHN:=zh (fun nq=>((held_nilk k m (w1.drewN nq)).mono fun _ _ h=>⟨h.1,h.2.symm⟩:Calls Tryz.prog 72 #[.slice none 0 0,.int .i64 (k:Nat),.int .i64 m] (w1.drewN nq) fun e w'=>e=.returned (.int .i64 0)/\w'=w1.drewN nq))
   have HH := zh (fun (nq b : Nat) (v : Value) (h : (v = .slice none 0 0 /\ b = 0) \/ (v = .slice AL P cL /\ b = m)) => (by
    rcases h with ⟨rfl,rfl⟩ | ⟨rfl,rfl⟩
    · exact HHN.out nq
    · exact HHL.out nq:Calls Tryz.prog 72 #[v,.int .i64 (k:Nat),.int .i64 m] (w1.drewN nq) fun e w'=>e=.returned (.int .i64 (b:Nat))/\w'=w1.drewN nq))
   have x0:=BX.out.cell 0;simp at x0;clear HHL HHN;go_quiet ((go_at_call 72;refine Calls.quiet_of_same (HH.out _ _ _ (by first | exact .inl ⟨rfl,rfl⟩ | exact .inr ⟨rfl,rfl⟩))));have FQ:=zh (FX.out.drewN nq);have HOq:=zh (ownsRow_fr HOx.out ((Fr.refl w1.heap.size [] w1).drewN nq) (fun q hq=>⟨(HOx.out.lt q hq).2,by simp⟩));have RMq:=zh (RMx.out.keep (w':=w1.drewN nq) (fun p _=>rfl));have hsz:=FQ.out.size;have y0:(w1.drewN nq).cell? ⟨gx,0,none⟩=some (.slice A1 m c1):=x0;clear FX HOx RMx HH x0;generalize w1.drewN nq=w2 at *
   by_cases hm0:m=0
   ·
    have hRk:R k=[]:=List.eq_nil_of_length_eq_zero (by rw [<- HM.out];exact hm0);have HFS:=zh (show flatR R (k+1)=flatR R k by rw [flatR_succ,hRk,List.append_nil]);subst hm0;clear hRk;go_wp2_with fail;go_roundg (P - (k+1))
    case measure=>omega
    case rel=>exact ⟨k+1,n,A,c,by omega,rfl,by go_num,rfl,by rw [HFS.out];exact HN,by rw [HFS.out];exact HOq,FQ⟩
   ·
    have hm1:(0:Int) < (m:Int):=by omega
    have hmc:(m:Int)<=(c1:Int):=(by omega);have hown:=HOq.out;have hrm:=RMq.out;have HFS:=zh (show flatR R (k+1)=flatR R k ++ R k from flatR_succ R k);have hm2:decide (0 < m)=true:=decide_eq_true (by omega);go_wp2_with (at_builtin;refine wpList_app _ rfl (.tmp 39) (.tmp 44) recTy rfl w.heap.size (.slice A n c) n _ rfl hown w1.heap.size A1 m c1 (cellsR (R k)) rfl hrm recC_one (by omega) (by omega) hsz ?_;intro A3 c3 w3 hown3 hg3 hat3);have F4:=zh (FQ.out.grown hg3 hsz (fun q hq=>.inl (HOq.out.lt q hq).1));have HO3:=zh hown3;clear hown3 hg3 hat3 hown hrm;go_roundg (P - (k+1))
    case measure=>omega
    case rel=>exact ⟨k+1,n+m,A3,c3,by omega,rfl,by go_num,rfl,by rw [HFS.out,List.length_append,<- HM.out,<- HN.out];exact zh rfl,by rw [HFS.out,cellsR_app];exact HO3,F4⟩
  ·
   obtain rfl:k=P:=by omega
   have hle:=HL.out k (Nat.le_refl _);rw [<- HN.out] at hle;go_wp2_with fail;refine (clone_any A n c _ _ HN.out hle (Reads.of_own HO.out)).mono ?_;rintro e w9 ⟨A9,c9,rfl,ho9,f9⟩;have hsz:=HF.out.size;have HO9:=zh (ownsRow_base ho9 hsz);have F9:=zh (HF.out.trans (f9.mono hsz (by simp)));clear ho9 f9;go_wp2_with fail;go_ret;unfold AllOut;rw [<- HN.out];exact ⟨A9,c9,rfl,HO9.out,F9.out⟩
end
end Go.Proofs.YtgblfflikgnfpaaGreat
