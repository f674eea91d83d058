/- Texts merged into one, for the number of files a claim may have: RgT, RgW, RgN, TaN. -/
import Derived.Test.YtgblfflikgnfpaaGreatTk
import Derived.Test.YtgblfflikgnfpaaGreatMY6
import Derived.Test.YtgblfflikgnfpaaGreatMY10
import Derived.Test.YtgblfflikgnfpaaGreatMY15
namespace Go.Proofs.YtgblfflikgnfpaaGreat
open Go.RowKit Go.Fb
set_option maxRecDepth 100000
set_option maxHeartbeats 16000000
set_option linter.unusedVariables false
def ackF' (l:List Pkt) (F:Feed):Feed:={ F with o:=ackAll l F.o }
def feedsB (l:List Pkt) (fs:List Feed) (j i:Nat):List Feed:=(fs.take i).map (ackF' (l.take (j+1))) ++ (fs.drop i).map (ackF' (l.take j))
theorem feedsB_0 (l:List Pkt) (fs:List Feed) (j:Nat):feedsB l fs j 0=fs.map (ackF' (l.take j)):=by simp [feedsB]
theorem feedsB_n (l:List Pkt) (fs:List Feed) (j:Nat):feedsB l fs j fs.length=fs.map (ackF' (l.take (j+1))):=by simp [feedsB]
theorem feedsB_at {l:List Pkt} {fs:List Feed} {j i:Nat} {F:Feed} (h:fs[i]?=some F):(feedsB l fs j i)[i]?=some (ackF' (l.take j) F):=by
 have hi:=(List.getElem?_eq_some_iff.1 h).1;have hl:((fs.take i).map (ackF' (l.take (j+1)))).length=i:=(by simp;omega);unfold feedsB;rw [List.getElem?_append_right (by omega),hl,Nat.sub_self,List.getElem?_map,List.getElem?_drop,Nat.add_zero,h];rfl
theorem step_map2 {α β:Type} (f g:α->β) {fs:List α} {i:Nat} {F:α} (h:fs[i]?=some F):((fs.take i).map g ++ (fs.drop i).map f).set i (g F)=(fs.take (i+1)).map g ++ (fs.drop (i+1)).map f:=by
 have hi:=(List.getElem?_eq_some_iff.1 h).1;have hx:fs[i]=F:=(by rw [List.getElem?_eq_getElem hi] at h;injection h);have hl:((fs.take i).map g).length=i:=(by simp;omega);rw [List.set_append_right i _ (by omega),hl,Nat.sub_self,List.take_add_one,h,List.map_append,List.append_assoc,List.drop_eq_getElem_cons hi,hx];rfl
theorem feedsB_step {l:List Pkt} {fs:List Feed} {j i:Nat} {F:Feed} (h:fs[i]?=some F):(feedsB l fs j i).set i (ackF' (l.take (j+1)) F)=feedsB l fs j (i+1):=step_map2 (ackF' (l.take j)) (ackF' (l.take (j+1))) h
theorem map_ackF0 (l:List Pkt) (fs:List Feed):fs.map (ackF' (l.take 0))=fs:=by
 have e:ackF' (l.take 0)=id:=funext fun F=>by cases F;rfl
 rw [e,List.map_id]
section
variable {col:Nat->Nat} {w:World} {g:Nat} {R:RigS} {Y:RX}
theorem tells0_any (h:RigM col w g R Y) (hd:R.ds=[]) (l:List Pkt) (A:Option Addr) (c:Nat) (hl:CRd col 8 w 6 A l.length (pksC l)) (hlen:l.length<=1000) (hp:∀ p ∈ l,Cn p.ack) (hf:∀ F ∈ R.fs,F.o.ws.length<=1000000/\Cn F.o.last) :
  Calls Tryz.prog 49 #[.pointer (some ⟨g,0,none⟩),.slice A l.length c] w fun e w'=>∃ col',e=.returned (.tuple #[])/\RigM col' w' g { R with fs:=R.fs.map (ackF' l) } Y/\Cg (fun c=>200<=c/\c < 500) col w col' w':=by
 have RM:=zh (by rw [map_ackF0];exact h:RigM col w g { R with fs:=R.fs.map (ackF' (l.take 0)) } Y);have HD:=zh hd;have HP:=zh hp;have HF:=zh hf;have HFL:=zh h.fl;have HFW:=zh h.few.1;have RD:=zh hl;have CC:=zh (Cg.refl (fun c=>200<=c/\c < 500) col w);obtain ⟨n,hn⟩:=nm (R.fs.length);have HN:=zh hn;have hn60:n<=60:=(by rw [hn];exact h.few.1);clear h hd hp hf hl hn;go_enter Tryz.func49,Tryz.ntmps49;go_upto_region 1 with fail;go_loopg [5,21] l.length (fun q s5 s21 wr=>∃ j:Nat,j<=l.length/\q=l.length - j/\s21=.int .i64 j/\(s5=undef \/ ∃ a,s5=.pointer a)/\∃ colr,Hid (RigM colr wr g { R with fs:=R.fs.map (ackF' (l.take j)) } Y)/\Hid (CRd colr 8 wr 6 A l.length (pksC l))/\Hid (Cg (fun c=>200<=c/\c < 500) col w colr wr))
 case atStart=>exact ⟨0,Nat.zero_le _,rfl,rfl,.inl rfl,col,RM,RD,CC⟩
 case round =>
  clear RM RD CC;obtain ⟨j,hj,rfl,rfl,hs5,colr,RM,RD,CC⟩:=hrel
  by_cases hjn:j < l.length
  ·
   have hji:(j:Int) < (l.length:Int):=by omega
   have hj30:j<=1000:=(by omega);obtain ⟨a,ha⟩:∃ a,l[j]?=some a:=⟨_,List.getElem?_eq_getElem hjn⟩;obtain ⟨b3,off3,hA3,_,_,hcell⟩:=Reads.elem pkF_len RD.out.1 ha (by omega);have a0:=hcell 0 _ rfl;have a1:=hcell 1 _ rfl;have a2:=hcell 2 _ rfl;have a3:=hcell 3 _ rfl;have a4:=hcell 4 _ rfl;have a5:=hcell 5 _ rfl;simp only [Nat.add_zero] at a0 a1 a2 a3 a4 a5;have HAC:=zh (HP.out a (List.mem_of_getElem? ha))
   have HTK := zh (show ∀ F : Feed, ackF' (l.take (j + 1)) F = { F with o := ackO a (ackF' (l.take j) F).o } by
    intro F;unfold ackF';rw [List.take_add_one,ha]
    show _={ F with o:=ackO a (ackAll (l.take j) F.o) }
    rw [<- ackAll_snoc]
    rfl)
   have fa:=(Fr.refl wr.heap.size [] wr).alloc (Nat.le_refl _) (.cells (pkC a) 89);have ka:=(cg0 (col:=colr) fa).paint 0;have BX:=zh (⟨Blk.new wr _ _,paint_ge (Nat.le_refl _)⟩:CB (paint colr wr.heap.size 0) 0 (wr.alloc (.cells (pkC a) 89)) wr.heap.size 89 (pkC a));have RMa:=zh (RM.out.cg ka (fun _ _ h=>h));have RDa:=zh (RD.out.cg ka (fun h=>h));have CCa:=zh (CC.out.trans (ka.mono (C':=fun c=>200<=c/\c < 500) (fun _ h=>h.elim)));generalize paint colr wr.heap.size 0=cola at *;rw [hA3];clear hcell ka fa RM RD CC;go_upto_region 3 with fail;obtain ⟨gx,hgx⟩:=nm (wr.heap.size);simp only [pkC] at BX RMa RDa CCa;rw [<- hgx] at BX ⊢;clear hgx;generalize wr.alloc _=wb at *;clear a0 a1 a2 a3 a4 a5;have r1:wb.cell? ⟨g,1,none⟩=some (.slice Y.fA n Y.fc):=(by rw [HN.out];have:=RMa.out.st.b.cell 1;simpa using this);go_upto_region 4 with fail;rw [<- feedsB_0] at RMa;go_loopg [30] n (fun q s30 wi=>∃ i:Nat,i<=n/\q=n - i/\s30=.int .i64 i/\∃ colr,Hid (RigM colr wi g { R with fs:=feedsB l R.fs j i } Y)/\Hid (CRd colr 8 wi 6 A l.length (pksC l))/\Hid (CB colr 0 wi gx 89 #[.int .i64 a.ch,.int .i64 a.bk,.int .i64 a.inc,.int .i64 a.seq,.int .i64 a.ack,.string a.ld])/\Hid (Cg (fun c=>200<=c/\c < 500) col w colr wi))
   case atStart=>exact ⟨0,Nat.zero_le _,rfl,rfl,cola,RMa,RDa,BX,CCa⟩
   case round =>
    clear RMa RDa BX CCa r1;obtain ⟨i,hi,rfl,rfl,colr,RM,RD,BX,CC⟩:=hrel
    by_cases hin:i < n
    ·
     have hii:(i:Int) < (n:Int):=by omega
     obtain ⟨F,hF⟩:∃ F,R.fs[i]?=some F:=⟨_,List.getElem?_eq_getElem (by rw [<- HN.out];exact hin)⟩;obtain ⟨gk,hgk⟩:∃ gk,Y.gf[i]?=some gk:=⟨_,List.getElem?_eq_getElem (by rw [HFL.out,<- HN.out];exact hin)⟩;obtain ⟨b,off,hA,_,_,hcell⟩:=Reads.elem ptrF_len RM.out.fr.1 hgk (by omega);have x0:=hcell 0 _ rfl;simp only [Nat.add_zero,Nat.mul_one] at x0;obtain ⟨go2,lA2,lc2,e1,e2,e3⟩:=RM.out.fm i gk _ hgk (feedsB_at hF);have E1:=zh e1;have E2:=zh e2;have hff:=HF.out F (List.mem_of_getElem? hF)
     have HAK := zh (fun W (hfr : Fr wr.heap.size [] wr W) => (by
      have:=outAck_any (e3.fr0 hfr) a (Nat.le_trans (ackAll_few _ _).1 hff.1) HAC.out (by show Cn (ackAll (l.take j) F.o).last;rw [(ackAll_few (l.take j) F.o).2];exact hff.2);simp only [pkC] at this
      exact this:Calls Tryz.prog 48 #[.pointer (some ⟨go2,0,none⟩),.agg #[.int .i64 a.ch,.int .i64 a.bk,.int .i64 a.inc,.int .i64 a.seq,.int .i64 a.ack,.string a.ld]] W (AckOut colr (202+4 * i) go2 (ackF' (l.take j) F).o a W)))
     have HST:=zh (feedsB_step (l:=l) (j:=j) hF);have HGK:=zh hgk;have hi60:i<=60:=(by omega);rw [hA];clear e1 e2 e3 hcell hF hgk hff;go_upto_region 6 with fail;have RM:=zh (RM.out.fr0 (Fr.refl _ _ _).drew);have RD:=zh (RD.out.cg (C:=fun _=>False) ((Cg.refl _ _ _).drew) (fun h=>h));have BXC:=zh (BX.out.cg (cg0 (Fr.refl _ _ _).drew) (fun h=>h));have E1:=zh (E1.out.cg (cg0 (Fr.refl _ _ _).drew) (fun h=>h));have E2:=zh (E2.out.cg (cg0 (Fr.refl _ _ _).drew) (fun h=>h));have CC:=zh CC.out.drew;have HAK:=zh (HAK.out _ (Fr.refl _ _ _).drew);have SF:=zh (fun (W:World) (bx:Blk W gx 89 #[.int .i64 a.ch,.int .i64 a.bk,.int .i64 a.inc,.int .i64 a.seq,.int .i64 a.ack,.string a.ld]) (rg:W.cell? ⟨gk,0,none⟩=some (.pointer (some ⟨go2,0,none⟩)))=>(⟨rg,bx.cell 0,bx.cell 1,bx.cell 2,bx.cell 3,bx.cell 4,bx.cell 5⟩:W.cell? ⟨gk,0,none⟩=some (.pointer (some ⟨go2,0,none⟩))/\W.cell? ⟨gx,0,none⟩=some (.int .i64 a.ch)/\W.cell? ⟨gx,1,none⟩=some (.int .i64 a.bk)/\W.cell? ⟨gx,2,none⟩=some (.int .i64 a.inc)/\W.cell? ⟨gx,3,none⟩=some (.int .i64 a.seq)/\W.cell? ⟨gx,4,none⟩=some (.int .i64 a.ack)/\W.cell? ⟨gx,5,none⟩=some (.string a.ld)));have RG:=zh (E1.out.b.cell 0:wr.drew.cell? ⟨gk,0,none⟩=some (.pointer (some ⟨go2,0,none⟩)));refine wp_region_held_drew (S:=fun W=>W.cell? ⟨gk,0,none⟩=some (.pointer (some ⟨go2,0,none⟩))/\W.cell? ⟨gx,0,none⟩=some (.int .i64 a.ch)/\W.cell? ⟨gx,1,none⟩=some (.int .i64 a.bk)/\W.cell? ⟨gx,2,none⟩=some (.int .i64 a.inc)/\W.cell? ⟨gx,3,none⟩=some (.int .i64 a.seq)/\W.cell? ⟨gx,4,none⟩=some (.int .i64 a.ack)/\W.cell? ⟨gx,5,none⟩=some (.string a.ld)) (by kernel_rfl) (SF.out _ BXC.out.b RG.out) (fun hHeld => ?_);refine tk (i:=0) (oi:=⟨some 34,_,_,_,_,_⟩) (v:=?_) rfl ?_ hHeld ?_
     rotate_left
     · intro w hSw;(try dsimp only at hSw);go_simp;(try with_reducible rfl)
     simp only [Act.put,lPt];refine tk (i:=1) (oi:=⟨some 35,_,_,_,_,_⟩) (v:=?_) rfl ?_ hHeld ?_
     rotate_left
     · intro w hSw;(try dsimp only at hSw);go_simp;(try with_reducible rfl)
     simp only [Act.put,lPt];refine tk (i:=2) (oi:=⟨some 36,_,_,_,_,_⟩) (v:=?_) rfl ?_ hHeld ?_
     rotate_left
     · intro w hSw;(try dsimp only at hSw);go_simp;(try with_reducible rfl)
     simp only [Act.put,lPt];refine tk (i:=3) (oi:=⟨some 37,_,_,_,_,_⟩) (v:=?_) rfl ?_ hHeld ?_
     rotate_left
     · intro w hSw;(try dsimp only at hSw);go_simp;(try with_reducible rfl)
     simp only [Act.put,lPt];refine tk (i:=4) (oi:=⟨some 38,_,_,_,_,_⟩) (v:=?_) rfl ?_ hHeld ?_
     rotate_left
     · intro w hSw;(try dsimp only at hSw);go_simp;(try with_reducible rfl)
     simp only [Act.put,lPt];refine wpAnyH_ready (rs:=[5]) (by kernel_rfl) (by simp) ?_;refine AllReadyH.cons (o:=⟨some 39,_,_,_,_,_⟩) rfl (fun K hK => ?_) AllReadyH.nil;rw [if_pos (by rfl)];go_simp;refine HAK.out.mono ?_;rintro e w6 ⟨col6,rfl,hom6,hc6⟩;have EE:=zh (E1.out.cg hc6 (by omega));have hm6:=RM.out.setF (F':=ackF' (l.take (j+1)) F) hc6 (fun c hc=>by have hc2:c=202+4 * i:=hc;omega) HGK.out ⟨go2,lA2,lc2,EE.out,E2.out.cg hc6 (by omega),by rw [HTK.out];exact hom6⟩;have RM6:=zh (by have:=hm6;simp only [HST.out] at this;exact this:RigM col6 w6 g { R with fs:=feedsB l R.fs j (i+1) } Y);have BXC:=zh (BXC.out.cg hc6 (by omega));have CC:=zh (CC.out.trans (hc6.mono (C':=fun c=>200<=c/\c < 500) (fun c hc=>by have hc2:c=202+4 * i:=hc;omega)));have RD6:=zh (RD.out.cg hc6 (by omega));have RG:=zh (EE.out.b.cell 0:w6.cell? ⟨gk,0,none⟩=some (.pointer (some ⟨go2,0,none⟩)));clear hom6 hc6 hm6;refine hK.out _ _ (SF.out _ BXC.out.b RG.out) (fun hHeld => ?_);clear hK K
     try simp only [Act.put,lPt]
     refine wpAnyH_done (by kernel_rfl) ?_ _
     skip
     clear RM SF RG hHeld HAK E1 E2 EE RD;go_wp2_with fail;rw [<- hA];go_roundg (n - (i+1))
     case measure=>omega
     case rel=>exact ⟨i+1,hin,rfl,by go_num,col6,RM6,RD6,BXC,CC⟩
    ·
     obtain rfl:i=n:=by omega
     have r2:wr.cell? ⟨g,2,none⟩=some (.slice Y.dA 0 Y.dc):=(by have:=RM.out.st.b.cell 2;simpa [HD.out] using this);go_wp2_with fail;refine wp_loop_rounds 1 ?_;rw [rounds_succ];go_wp2_with fail;rw [<- hA3];go_roundg (l.length - (j+1))
     case measure=>omega
     case rel=>exact ⟨j+1,hjn,rfl,by go_num,.inr ⟨_,rfl⟩,colr,zh (by have h9:=RM.out;simp only [HN.out,feedsB_n] at h9;exact h9),RD,CC⟩
  ·
   obtain rfl:j=l.length:=by omega
   have r2:wr.cell? ⟨g,2,none⟩=some (.slice Y.dA 0 Y.dc):=(by have:=RM.out.st.b.cell 2;simpa [HD.out] using this);go_wp2_with fail;refine wp_loop_rounds 1 ?_;rw [rounds_succ];go_wp2_with fail;exact bodyPost_end (results_none rfl _ _ _) rfl ⟨colr,rfl,by have h9:=RM.out;rw [List.take_length] at h9;exact h9,CC.out⟩
end
end Go.Proofs.YtgblfflikgnfpaaGreat
namespace Go.Proofs.YtgblfflikgnfpaaGreat
open Go.RowKit Go.Fb
set_option maxRecDepth 100000
set_option maxHeartbeats 16000000
set_option linter.unusedVariables false
theorem ackTy:SliceTy Tryz.prog 42 72 6 80:=SliceTy.mk' (z:=.agg #[.int .i64 0,.int .i64 0,.int .i64 0,.slice none 0 0,.slice none 0 0,.int .i64 0]) Tryz.underlying42 (by kernel_rfl) rfl (by omega)
def AcksM (aks:List AckS) (V:Value) (col:Nat->Nat) (w:World):Prop :=
 ∃ A c,∃ xs:List AckX,V=.slice A aks.length c/\xs.map (·.a)=aks/\CRd col 12 w 6 A aks.length (xs.flatMap ackF) /\ ∀ x ∈ xs,CRd col 12 w 6 x.eA x.a.ents.length (cellsE x.a.ents)/\CRd col 12 w 5 x.lA x.a.lns.length (cellsLn x.a.lns)
theorem AcksM.none {V:Value} {col:Nat->Nat} {w:World} (h:V=.slice none 0 0):AcksM [] V col w:=⟨_,_,[],h,rfl,CRd.none_ _ _ _,by simp⟩
theorem AcksM.one {a:AckS} {V:Value} {col:Nat->Nat} {w:World} (h:AckM a V col w):AcksM [a] V col w:=by
 obtain ⟨A,cp,eA,ec,lA,lc,h0,h1,h2,h3⟩:=h;exact ⟨A,cp,[⟨a,eA,ec,lA,lc⟩],h0,rfl,by simpa [ackF] using h1,by simpa using ⟨h2,h3⟩⟩
theorem acks_one (l:List AckX):∀ u ∈ l.flatMap ackF,u.oneCell'=true:=by
 intro u hu;obtain ⟨p,_,hp⟩:=List.mem_flatMap.1 hu;simp [ackF] at hp
 rcases hp with rfl | rfl | rfl | rfl | rfl | rfl <;> rfl
section
variable {col:Nat->Nat} {w:World} {g:Nat} {R:RigS} {Y:RX}
theorem RigM.setA {col':Nat->Nat} {w':World} (h:RigM col w g R Y) (hc:Cg (· = 113) col w col' w') {A:Option Addr} {c:Nat} {xs:List AckX} {aks:List AckS} (hx:xs.map (·.a)=aks) (hr:CR col' 113 w' 72 6 (.slice A aks.length c) aks.length (xs.flatMap ackF))
  (hm2:∀ x ∈ xs,CRd col 12 w 6 x.eA x.a.ents.length (cellsE x.a.ents)/\CRd col 12 w 5 x.lA x.a.lns.length (cellsLn x.a.lns)) :
  RigM col' (w'.setCell ⟨g,3,none⟩ (.slice A aks.length c)) g { R with acks:=aks } { Y with aA:=A,ac:=c,aks:=xs }:=by
 have hs:=h.st.cg hc (by omega);have k:Cg (fun c=>c=113 \/ c=110) col w col' (w'.setCell ⟨g,3,none⟩ (.slice A aks.length c)):=(hc.mono (fun _ h=>.inl h)).set (.inr hs.k) _;have k1:Cg (· = 110) col' w' col' (w'.setCell ⟨g,3,none⟩ (.slice A aks.length c)):=(Cg.refl _ _ _).set hs.k _;have hf:=h.few;have hfl:=h.fl;have hdl:=h.dl;refine ⟨⟨by simpa using hs.b.set_ 3 (.slice A aks.length c),hs.k⟩,h.t.cg k (fun c hT=>by unfold TC at hT;omega),h.fl,h.fr.cg k (by omega),fun j gj F h1 h2 => ?_,h.dl,h.dr.cg k (by omega),fun j gj D h1 h2 => ?_,hx,hr.cg k1 (by omega),fun x hx=>⟨(hm2 x hx).1.cg k (by omega),(hm2 x hx).2.cg k (by omega)⟩,h.few⟩
 · exact (h.fm j gj F h1 h2).cg k ⟨by omega,by omega,by omega⟩
 · exact (h.dm j gj D h1 h2).cg k ⟨by omega,by omega,by omega⟩
theorem rwork_any (h:RigM col w g R Y) (hd:R.ds=[]) (hn:R.acks.length<=10000) (S2:TaskS) (did:Bool) (aks:List AckS) (has:aks.length<=10) (hlen:S2.out.length<=1000) (hp:∀ p ∈ S2.out,Cn p.ack) (hf:∀ F ∈ R.fs,F.o.ws.length<=1000000/\Cn F.o.last) (vs:Value)
  (hwk:∀ W,Fr w.heap.size [] w W->Calls Tryz.prog 25 #[.pointer (some ⟨Y.gt,0,none⟩),vs] W (WorkOut col Y.gt S2 did (AcksM aks) W)) :
  Calls Tryz.prog 13 #[.pointer (some ⟨g,0,none⟩),vs] w fun e w'=>∃ Y' col',e=.returned (.bool did)/\RigM col' w' g { R with t:={ S2 with out:=[] },fs:=R.fs.map (ackF' S2.out),acks:=R.acks ++ aks } Y'/\Cg RC col w col' w':=by
 have RM:=zh h;have HD:=zh hd;have HN:=zh hn;have HA:=zh has;have HL:=zh hlen;have HP:=zh hp;have HF:=zh hf;have HW:=zh hwk;have r0:w.cell? ⟨g,0,none⟩=some (.pointer (some ⟨Y.gt,0,none⟩)):=h.st.b.cell 0;clear h hd hn has hlen hp hf hwk;go_enter Tryz.func13,Tryz.ntmps13;go_wp2_with fail;refine (HW.out _ (Fr.refl _ _ _)).mono ?_;rintro e w2 ⟨A2,c2,V,X2,col2,rfl,hrd,hm,hc,A3,c3,xs,rfl,hxs,hrx,hxm⟩;have FC2:∀ c,FC c->TC c:=fun c h=>by unfold FC at h;unfold TC;omega
 have RM2:=zh (RM.out.setT hc (fun c h=>.inl (FC2 c h)) hm);have RD:=zh hrd;have C2:=zh (hc.mono (C':=RC) (fun c h=>.inl (FC2 c h)));have HX:=zh hxs;have HRX:=zh hrx;have HXM:=zh hxm;have c3':=RM2.out.st.b.cell 3;replace c3':w2.cell? ⟨g,3,none⟩=some (.slice Y.aA R.acks.length Y.ac):=c3';have hf3:=RM2.out.st.b.frozen 3;have hg2:=RM2.out.st.b.lt;have HOU:=zh (RM2.out.ar:CR col2 113 w2 72 6 (.slice Y.aA R.acks.length Y.ac) R.acks.length (Y.aks.flatMap ackF));clear hrd hm hc hxs hrx hxm RM r0 HW FC2;generalize hnl:aks.length=nl at *;generalize hno:R.acks.length=no at *;generalize hnp:S2.out.length=np at *;have HNL:=zh hnl;have HNO:=zh hno;have HNP:=zh hnp;clear hnl hno hnp;have hno1:=HN.out;have hnl1:=HA.out;go_wp2_with (at_builtin;refine wpList_appC _ rfl (.tmp 22) (.tmp 23) ackTy rfl _ _ _ rfl HOU.out w2.heap.size A3 nl c3 _ rfl HRX.out.1 (acks_one _) (by omega) (by omega) ?_);intro A4 c4 w4 hrow hap hgr;have hs4:=RM2.out.st.cg hap (by omega);have hf4:=hs4.b.frozen 3;have c4':=hs4.b.cell 3;have hg4:=hs4.b.lt;have hl:(R.acks ++ aks).length=no+nl:=(by rw [List.length_append,HNO.out,HNL.out]);rw [<- List.flatMap_append,<- hl] at hrow;have hal:=RM2.out.al
 have RM4 := zh (by
  have h9 := RM2.out.setA hap (A := A4) (c := c4) (xs := Y.aks ++ xs) (aks := R.acks ++ aks) (by rw [List.map_append, HX.out]; exact congrArg (· ++ aks) hal) hrow (fun x hx => by
   rcases List.mem_append.1 hx with h | h
   · exact RM2.out.am x h
   · exact HXM.out x h)
  rw [hl] at h9
  exact h9)
 have RD4:=zh ((RD.out.cg hap (by omega)).cg (C:=(· = 110)) ((Cg.refl _ _ _).set (p:=⟨g,3,none⟩) hs4.k (.slice A4 (no+nl) c4)) (by omega));have C4:=zh ((C2.out.trans (hap.mono (C':=RC) (fun c hc=>.inr (.inr (.inl (by omega)))))).set (p:=⟨g,3,none⟩) (by rw [hs4.k];exact .inr (.inr (.inl (by omega)))) (.slice A4 (no+nl) c4));clear hrow hap hgr hl hal c3' hf3 hg2 HRX HXM HX hs4 RM2 RD C2;go_wp2_with fail;rw [<- HNP.out] at RD4 ⊢;refine (tells0_any RM4.out HD.out S2.out A2 c2 RD4.out (by have:=HL.out;rw [HNP.out];exact this) HP.out HF.out).mono ?_;rintro e w6 ⟨col6,rfl,hm,hc⟩;have RM6:=zh hm;have C6:=zh (C4.out.trans (hc.mono (C':=RC) (fun c h=>.inr (.inr (.inr ⟨h.1,by omega⟩)))));clear hm hc RM4 RD4 C4;go_wp2_with fail;go_ret;exact ⟨_,col6,rfl,RM6.out,C6.out⟩
end
end Go.Proofs.YtgblfflikgnfpaaGreat
namespace Go.Proofs.YtgblfflikgnfpaaGreat
open Go.RowKit Go.Fb
set_option maxRecDepth 100000
set_option maxHeartbeats 16000000
set_option linter.unusedVariables false
section
variable {col:Nat->Nat} {w:World} {g:Nat} {R:RigS} {Y:RX}
end
end Go.Proofs.YtgblfflikgnfpaaGreat
namespace Go.Proofs.YtgblfflikgnfpaaGreat
open Go.RowKit Go.Fb
set_option maxRecDepth 100000
set_option maxHeartbeats 16000000
set_option linter.unusedVariables false
def chanN (f k id ix:Int):Int:=((f * 3+k) * 8+id) * 3+ix
theorem channel_any (f k id ix:Int) (h1:0<=f/\f<=1000) (h2:0<=k/\k<=1000) (h3:0<=id/\id<=1000) (h4:0<=ix/\ix<=1000) (w:World):Calls Tryz.prog 38 #[.int .i64 f,.int .i64 k,.int .i64 id,.int .i64 ix] w fun e w'=>e=.returned (.int .i64 (chanN f k id ix))/\w'=w:=by
 go_enter Tryz.func38,Tryz.ntmps38;go_wp2_with fail;go_ret;exact ⟨rfl,rfl⟩
theorem inletTy:SliceTy Tryz.prog 133 172 3 24:=SliceTy.mk' (z:=.agg #[.pointer none,.int .i64 0,.int .i64 0]) Tryz.underlying133 (by kernel_rfl) rfl (by omega)
theorem sortOwn_any (w:World) (base c n:Nat) (A:Option Addr) (zs:List Int) (hn:n=zs.length) (hown:w.ownsRow base 3 1 (.slice A n c) n (zs.map (Value.int .i64))) (hm:n<=1000000) :
  Calls Tryz.prog 95 #[.slice A n c] w fun e w'=>e=.returned (.tuple #[])/\w'.ownsRow base 3 1 (.slice A n c) n ((srt zs).map (Value.int .i64))/\∃ L,Fr w.heap.size L w w' /\ ∀ q ∈ L,base<=q:=by
 rcases Nat.eq_zero_or_pos n with h0 | h0
 · subst h0;have hz:zs=[]:=List.eq_nil_of_length_eq_zero hn.symm;subst hz;have HS:=Any.slices_Sort_int_none Tryz.sortI A c w;refine HS.mono ?_;intro e w' h;obtain ⟨rfl,rfl⟩:=h;exact ⟨rfl,by simpa [srt] using hown,[],Fr.refl _ _ _,by simp⟩
 ·
  rcases hown.2 with ⟨hv,h1⟩ | ⟨g,cap,cur,hv,hb,_⟩
  · omega
  ·
   injection hv with hA _ hc
   subst hA hc;refine (sorti_any w base g c n zs hn hown hm).mono ?_;rintro e w' ⟨rfl,h2,h3⟩;exact ⟨rfl,h2,[g],h3,by simpa using hb⟩
def recvF (L:List Nd) (id ix:Int) (f:Int):List (Int × Int):=match findN L f with
 | none=>[]
 | some p=>(List.range p.par.toNat).map fun (k:Nat)=>(f,chanN f (k:Int) id ix)
def recvL (L:List Nd) (nd:Nd) (ix:Int):List (Int × Int):=(srt nd.fr).flatMap (recvF L nd.id ix)
theorem right8_par {p:Int} {r:Nat->Int} (h:right8 p r=true):1<=p/\p<=3:=by
 unfold right8 at h;simp only [Bool.and_eq_true,decide_eq_true_eq] at h;omega
structure RecvM (col:Nat->Nat) (w:World) (g:Nat) (cs:Array Value) (inc:Int) (Ls:List (Int × Int)) (iA:Option Addr) (ic:Nat) (gis:List Nat):Prop where
 st:CB col 1 w g 136 (cs.setIfInBounds 17 (.slice iA Ls.length ic))
 gl:gis.length=Ls.length
 row:CR col 5 w 172 3 (.slice iA Ls.length ic) Ls.length ((gis.zip Ls).flatMap inF)
 im:∀ k gk m,gis[k]?=some gk->Ls[k]?=some m->InM col (20+2 * k) w gk ⟨m.2,inc,[],0⟩
theorem RecvM.cg0 {col col':Nat->Nat} {w w':World} {g:Nat} {cs:Array Value} {inc:Int} {Ls:List (Int × Int)} {iA:Option Addr} {ic:Nat} {gis:List Nat} (h:RecvM col w g cs inc Ls iA ic gis) (k:Cg (fun _=>False) col w col' w'):RecvM col' w' g cs inc Ls iA ic gis :=
 ⟨h.st.cg k (fun h=>h),h.gl,h.row.cg k (fun h=>h),fun j gj m h1 h2=>(h.im j gj m h1 h2).cg k (fun h=>h)⟩
theorem zip_snoc {α β:Type}:∀ {a:List α} {b:List β} (x:α) (y:β),a.length=b.length->(a ++ [x]).zip (b ++ [y])=a.zip b ++ [(x,y)]
 | [],[],x,y,_=>rfl
 | p :: a,q :: b,x,y,h=>by simp only [List.cons_append,List.zip_cons_cons];rw [zip_snoc x y (by simpa using h)]
 | [],_ :: _,_,_,h=>by simp at h
 | _ :: _,[],_,_,h=>by simp at h
def NC (c:Nat):Prop:=c=1 \/ c=5
theorem fr_le3 {L:List Nd} {x:Nd} (h:nodeB L x=true):x.fr.length<=3:=by
 obtain ⟨_,_,h3,_⟩:=nodeB_iff.1 h;unfold kindB at h3
 split at h3
 · simp at h3;rw [h3.2.1];simp
 ·
  split at h3
  · simp at h3;omega
  ·
   split at h3
   · simp at h3;omega
   · cases h3
def chans (f id ix:Int) (i:Nat):List (Int × Int):=(List.range i).map fun (k:Nat)=>(f,chanN f (k:Int) id ix)
theorem chans_snoc (f id ix:Int) (i:Nat):chans f id ix (i+1)=chans f id ix i ++ [(f,chanN f (i:Int) id ix)]:=by unfold chans;rw [List.range_succ,List.map_append];rfl
theorem recvF_some {L:List Nd} {id ix f:Int} {p:Nd} (h:findN L f=some p):recvF L id ix f=chans f id ix p.par.toNat:=by unfold recvF;rw [h];rfl
theorem recvF_le {L:List Nd} (hR:RightG L) (id ix f:Int):(recvF L id ix f).length<=3:=by
 cases h:findN L f with
 | none=>unfold recvF;rw [h];simp
 | some p =>
  rw [recvF_some h];have:=right8_par (nodeB_iff.1 (hR.each p (findN_mem h))).2.2.2.1;simp [chans];omega
theorem flat_le {α β:Type} (f:α->List β) (k:Nat) (hf:∀ a,(f a).length<=k):∀ l:List α,(l.flatMap f).length<=k * l.length
 | []=>by simp
 | a :: l=>by
  have h1:=hf a;have h2:=flat_le f k hf l;rw [List.flatMap_cons,List.length_append,List.length_cons,Nat.mul_add];omega
theorem recv_len {L:List Nd} (hR:RightG L) {nd:Nd} (hnd:nd ∈ L) (ix:Int) (j:Nat):(((srt nd.fr).take j).flatMap (recvF L nd.id ix)).length<=9:=by
 have h1:=flat_le (recvF L nd.id ix) 3 (recvF_le hR nd.id ix) ((srt nd.fr).take j);have h2:=fr_le3 (hR.each nd hnd);have h3:((srt nd.fr).take j).length<=3:=(by rw [List.length_take,srt_len];omega);omega
theorem set17_ne {cs:Array Value} {v x:Value} {i:Nat} (h:cs[i]?=some x) (hi:i ≠ 17):(cs.setIfInBounds 17 v)[i]?=some x:=by rw [Array.getElem?_setIfInBounds_ne (by omega)];exact h
theorem set17_eq {cs:Array Value} {v x:Value} (h:cs[17]?=some x):(cs.setIfInBounds 17 v)[17]?=some v:=by
 have:=(Array.getElem?_eq_some_iff.1 h).1;rw [Array.getElem?_setIfInBounds_self_of_lt this]
theorem receive_any (col:Nat->Nat) (w:World) (g B n c:Nat) (A:Option Addr) (M:List Ndm) (cs:Array Value) (nd:Nd) (ix inc:Int) (fA:Option Addr) (fc:Nat) (hN:Nds w B A n M) (hB:B<=w.heap.size) (hz:∀ q,q < B->¬ NC (col q)) (hs:Small M) (hR:RightG (fstN M)) (hnd:nd ∈ fstN M) (hix:0<=ix/\ix<=3)
  (st:CB col 1 w g 136 cs) (c2:cs[2]?=some (.int .i64 nd.id)) (c4:cs[4]?=some (.slice fA nd.fr.length fc)) (c15:cs[15]?=some (.int .i64 ix)) (c17:cs[17]?=some (.slice none 0 0)) (hfr:Reads w w.heap.size 1 fA nd.fr.length (nd.fr.map (Value.int .i64))) :
  Calls Tryz.prog 59 #[.pointer (some ⟨g,0,none⟩),.slice A n c,.int .i64 inc] w fun e w' =>
   ∃ col' iA ic gis,e=.returned (.tuple #[])/\RecvM col' w' g cs inc (recvL (fstN M) nd ix) iA ic gis/\Cg NC col w col' w':=by
 have hsm:nd.fr.length<=1000000:=by
  obtain ⟨m,hm,rfl⟩:=List.mem_map.1 hnd;exact (hs.2 m hm).1
 have HCL:=zh (iclone_any fA nd.fr.length fc w.heap.size nd.fr w rfl hsm hfr (Nat.le_refl _));have k2:=(st.b.cell 2).trans c2;have k4:=(st.b.cell 4).trans c4;have ST:=zh st;have HC2:=zh c2;have HC15:=zh c15;have HC17:=zh c17;have HN:=zh (fun W (hf:Fr B [] w W)=>hN.frw hf (Nat.le_refl _) (by simp));have HZ:=zh hz;have HS:=zh hs;have HR:=zh hR;have HND:=zh hnd;obtain ⟨m,hm⟩:=nm (nd.fr.length);rw [<- hm] at HCL k4 hsm;have HM:=zh hm;clear hm hN hz hs hR hnd st c2 c4 c15 c17 hfr;go_enter Tryz.func59,Tryz.ntmps59;go_wp2_with fail;refine HCL.out.mono ?_;rintro e w1 ⟨A1,c1,rfl,hown,f1⟩;have HSO:=zh (sortOwn_any w1 w.heap.size c1 m A1 nd.fr HM.out hown hsm);have F1:=zh f1;clear hown f1 HCL;go_wp2_with fail;refine HSO.out.mono ?_;rintro e w2 ⟨rfl,hown,L2,f2,hL2⟩;have F2:=F1.out.trans (f2.mono (B':=w.heap.size) (L':=[]) F1.out.size (fun q hq hlt=>by have:=hL2 q hq;omega));obtain ⟨col2,hcol2⟩:=nm (paint col w.heap.size 9);have FRD:CRd col2 9 w2 1 A1 m ((srt nd.fr).map (Value.int .i64)):=⟨Reads.of_own hown,fun ad ha _=>by rw [hcol2];exact paint_ge (own_low hown ad ha)⟩;have G2:Cg NC col w col2 w2:=(by rw [hcol2];exact (cgf NC F2).paint 9)
 have RM : RecvM col2 w2 g cs inc [] none 0 [] := ⟨by
  have:=ST.out.cg (by rw [hcol2];exact (cg0 F2).paint 9:Cg (fun _=>False) col w col2 w2) (fun h=>h)
  rw [show cs.setIfInBounds 17 (.slice none ([] : List (Int × Int)).length 0) = cs from by
   have h:=HC17.out;apply Array.ext';rw [Array.toList_setIfInBounds];apply List.ext_getElem?;intro i
   by_cases hi:i=17
   · subst hi;rw [List.getElem?_set_self (by have:=(Array.getElem?_eq_some_iff.1 h).1;simpa using this)];rw [<- Array.getElem?_toList] at h;exact h.symm
   · rw [List.getElem?_set_ne (by omega)]]
  exact this,rfl,CR.nil _ _ _ _ _,fun k gk mm h _=>by simp at h⟩
 replace FRD:=zh FRD;replace G2:=zh G2;replace RM:=zh RM;clear hown f2 hL2 F2 HSO F1 hcol2 k2 k4;have hsl:(srt nd.fr).length=m:=(by rw [srt_len,HM.out]);go_upto_region 3 with fail;go_loopg [9,23] m (fun q s9 s23 wr=>∃ j:Nat,j<=m/\q=m - j/\s23=.int .i64 j/\(s9=undef \/ ∃ a,s9=.pointer a)/\∃ colr iA ic gis,Hid (RecvM colr wr g cs inc (((srt nd.fr).take j).flatMap (recvF (fstN M) nd.id ix)) iA ic gis)/\Hid (CRd colr 9 wr 1 A1 m ((srt nd.fr).map (Value.int .i64)))/\Hid (Cg NC col w colr wr))
 case atStart=>exact ⟨0,Nat.zero_le _,rfl,rfl,.inl rfl,col2,none,0,[],RM,FRD,G2⟩
 case round =>
  clear RM FRD G2;obtain ⟨j,hj,rfl,rfl,hs9,colr,iA,ic,gis,RM,FRD,G2⟩:=hrel
  by_cases hjm:j < m
  ·
   have hji:(j:Int) < (m:Int):=by omega
   obtain ⟨f,hf⟩:∃ f,(srt nd.fr)[j]?=some f:=⟨_,List.getElem?_eq_getElem (by rw [hsl];exact hjm)⟩;have hfm:f ∈ nd.fr:=(srt_perm nd.fr).mem_iff.1 (List.mem_of_getElem? hf);obtain ⟨pn,hpn,_⟩:=(nodeB_iff.1 (HR.out.each nd HND.out)).2.2.2.2 f hfm;have hpm:=HR.out.each pn (findN_mem hpn);obtain ⟨g1,g2,_,g4,_⟩:=nodeB_iff.1 hpm;have hpr:=right8_par g4;rw [findN_id hpn] at g1 g2;obtain ⟨n1,n2,_⟩:=nodeB_iff.1 (HR.out.each nd HND.out);obtain ⟨b,off,rfl,hb,hcell⟩:=FRD.out.1.2 (by omega);have x0:=hcell j (.int .i64 f) (by rw [List.getElem?_map,hf];rfl)
   have HTK := zh (show ((srt nd.fr).take (j + 1)).flatMap (recvF (fstN M) nd.id ix) = ((srt nd.fr).take j).flatMap (recvF (fstN M) nd.id ix) ++ chans f nd.id ix pn.par.toNat by
    rw [List.take_add_one,hf,List.flatMap_append]
    simp [recvF_some hpn])
   have FB:=zh (G2.out.fr hB HZ.out);have HFI:=zh (find_any f A c B n M wr (HN.out wr FB.out) (Nat.le_trans hB G2.out.size) HS.out);have HPN:=zh hpn;clear hcell hf hfm hpm g4;go_wp2_with fail;refine HFI.out.mono ?_;rintro e w3 ⟨h1,f3⟩
   rcases h1 with ⟨h1,_⟩ | ⟨x,sf,sp,h1,rfl,⟨⟨sA,sc,hsf,_⟩,⟨tA,tc,hsp,_⟩⟩⟩
   · exact absurd ((show findN (fstN M) f=none from h1).symm.trans HPN.out) (by simp)
   obtain rfl:x=pn:=by
    have:findN (fstN M) f=some x:=h1;rw [HPN.out] at this;injection this with this
    exact this.symm
   simp only at hsf hsp;subst hsf hsp;clear h1 HFI;have RM3:=zh (RM.out.cg0 (cg0 f3));have FRD3:=zh (FRD.out.cg (cg0 f3) (fun h=>h));have G3:=zh (G2.out.trans (cgf NC f3));clear f3 RM FRD G2 FB x0;go_upto_region 7 with fail;have fa:=(Fr.refl w3.heap.size [] w3).alloc (Nat.le_refl _) (.cells (ndA x (.slice sA x.fr.length sc) (.slice tA x.pg.length tc)) 66);have RM4:=zh (RM3.out.cg0 (cg0 fa));have FRD4:=zh (FRD3.out.cg (cg0 fa) (fun h=>h));have G4:=zh (G3.out.trans (cgf NC fa));clear fa RM3 FRD3 G3;generalize w3.alloc _=w4 at *;obtain ⟨pt,hpt⟩:∃ pt:Nat,(pt:Int)=x.par:=⟨x.par.toNat,by omega⟩;have HPT:=zh (show x.par.toNat=pt by omega);rw [<- hpt];have hpt3:pt<=3:=(by omega);obtain ⟨Lj,hLj⟩:=nm (((srt nd.fr).take j).flatMap (recvF (fstN M) nd.id ix));rw [<- hLj] at RM4 HTK;have HLJ:=zh hLj;have HLL:=zh (by rw [hLj];exact recv_len HR.out HND.out ix j:Lj.length<=9);clear hpt hLj;go_loopg [35] pt (fun q s35 wi=>∃ i:Nat,i<=pt/\q=pt - i/\s35=.int .i64 i/\∃ coli iA2 ic2 gis2,Hid (RecvM coli wi g cs inc (Lj ++ chans f nd.id ix i) iA2 ic2 gis2)/\Hid (CRd coli 9 wi 1 (some ⟨b,off,none⟩) m ((srt nd.fr).map (Value.int .i64)))/\Hid (Cg NC col w coli wi))
   case atStart=>exact ⟨0,Nat.zero_le _,rfl,rfl,colr,iA,ic,gis,by simpa [chans] using RM4,FRD4,G4⟩
   case round =>
    clear RM4 FRD4 G4;obtain ⟨i,hi,rfl,rfl,coli,iA2,ic2,gis2,RM,FRD,G⟩:=hrel
    by_cases hip:i < pt
    ·
     have hii:(i:Int) < (pt:Int):=by omega
     obtain ⟨ch,hch⟩:=nm (chanN f (i:Int) nd.id ix);have HCA:=zh (by rw [hch];exact channel_any f (i:Int) nd.id ix (by omega) (by omega) (by omega) (by omega):∀ W,Calls Tryz.prog 38 #[.int .i64 f,.int .i64 (i:Int),.int .i64 nd.id,.int .i64 ix] W fun e w'=>e=.returned (.int .i64 ch)/\w'=W);obtain ⟨Ls,hLs⟩:=nm (Lj ++ chans f nd.id ix i);rw [<- hLs] at RM;have HLS:=zh (show Lj ++ chans f nd.id ix (i+1)=Ls ++ [(f,ch)] by rw [chans_snoc,<- List.append_assoc,<- hLs,<- hch])
     have hll:Ls.length<=1000000:=by
      rw [hLs,List.length_append];have h1:(chans f nd.id ix i).length=i:=(by simp [chans]);have h2:=HLL.out;omega
     clear hch hLs;have SF:=zh (⟨(RM.out.st.b.cell 2).trans (set17_ne HC2.out (by decide)),(RM.out.st.b.cell 15).trans (set17_ne HC15.out (by decide))⟩:wr.cell? ⟨g,2,none⟩=some (.int .i64 nd.id)/\wr.cell? ⟨g,15,none⟩=some (.int .i64 ix));go_upto_region 9 with fail;refine wp_region_held_drew (S:=fun W=>W.cell? ⟨g,2,none⟩=some (.int .i64 nd.id)/\W.cell? ⟨g,15,none⟩=some (.int .i64 ix)) (by kernel_rfl) (SF.out) (fun hHeld => ?_);refine tk (i:=0) (oi:=⟨some 38,_,_,_,_,_⟩) (v:=?_) rfl ?_ hHeld ?_
     rotate_left
     · intro w hSw;(try dsimp only at hSw);go_simp;(try with_reducible rfl)
     simp only [Act.put,lPt];refine tk (i:=1) (oi:=⟨some 39,_,_,_,_,_⟩) (v:=?_) rfl ?_ hHeld ?_
     rotate_left
     · intro w hSw;(try dsimp only at hSw);go_simp;(try with_reducible rfl)
     simp only [Act.put,lPt];refine tk (i:=2) (oi:=⟨some 40,_,_,_,_,_⟩) (v:=?_) rfl ?_ hHeld ?_
     rotate_left
     · intro w hSw;(try dsimp only at hSw);go_simp;(try with_reducible rfl)
     simp only [Act.put,lPt];refine tk (i:=3) (oi:=⟨some 41,_,_,_,_,_⟩) (v:=?_) rfl ?_ hHeld ?_
     rotate_left
     · intro w hSw;(try dsimp only at hSw);go_simp;(try with_reducible rfl)
     simp only [Act.put,lPt];refine tk (i:=4) (oi:=⟨some 42,_,_,_,_,_⟩) (v:=?_) rfl ?_ hHeld ?_
     rotate_left
     · intro w hSw;(try dsimp only at hSw);go_simp;(try with_reducible rfl)
     simp only [Act.put,lPt];refine tk (i:=5) (oi:=⟨some 43,_,_,_,_,_⟩) (v:=?_) rfl ?_ hHeld ?_
     rotate_left
     · intro w hSw;(try dsimp only at hSw);go_simp;(try with_reducible rfl)
     simp only [Act.put,lPt];refine tk (i:=6) (oi:=⟨some 44,_,_,_,_,_⟩) (v:=?_) rfl ?_ hHeld ?_
     rotate_left
     · intro w hSw;(try dsimp only at hSw);go_simp;(try with_reducible rfl)
     simp only [Act.put,lPt];refine tk (i:=7) (oi:=⟨some 45,_,_,_,_,_⟩) (v:=?_) rfl ?_ hHeld ?_
     rotate_left
     · intro w hSw;(try dsimp only at hSw);go_simp;(try with_reducible rfl)
     simp only [Act.put,lPt];refine tk (i:=8) (oi:=⟨some 46,_,_,_,_,_⟩) (v:=?_) rfl ?_ hHeld ?_
     rotate_left
     · intro w hSw;(try dsimp only at hSw);go_simp;(try with_reducible rfl)
     simp only [Act.put,lPt];refine tk (i:=9) (oi:=⟨some 47,_,_,_,_,_⟩) (v:=?_) rfl ?_ hHeld ?_
     rotate_left
     · intro w hSw;(try dsimp only at hSw);go_simp;(try with_reducible rfl)
     simp only [Act.put,lPt];refine tk (i:=10) (oi:=⟨some 48,_,_,_,_,_⟩) (v:=?_) rfl ?_ hHeld ?_
     rotate_left
     · intro w hSw;(try dsimp only at hSw);go_simp;(try with_reducible rfl)
     simp only [Act.put,lPt];refine wpAnyH_ready (rs:=[11]) (by kernel_rfl) (by simp) ?_;refine AllReadyH.cons (o:=⟨some 49,_,_,_,_,_⟩) rfl (fun K hK => ?_) AllReadyH.nil;rw [if_pos (by rfl)];go_simp;refine (HCA.out _).mono ?_;rintro e w' ⟨rfl,rfl⟩;refine hK.out _ _ (SF.out) (fun hHeld => ?_);clear hK K
     try simp only [Act.put,lPt]
     refine tk (i:=12) (oi:=⟨some 12,_,_,_,_,_⟩) (v:=?_) rfl ?_ hHeld ?_
     rotate_left
     · intro w hSw;(try dsimp only at hSw);go_simp;(try with_reducible rfl)
     simp only [Act.put,lPt];refine wpAnyH_done (by kernel_rfl) ?_ _
     skip
     go_upto_region 10 with fail;replace RM:=zh (RM.out.cg0 ((Cg.refl _ _ _).drew));replace FRD:=zh (FRD.out.cg (C:=fun _=>False) ((Cg.refl _ _ _).drew) (fun h=>h));replace G:=zh G.out.drew;clear SF hHeld;generalize wr.drew=wd at *;have RM:=zh (RM.out.cg0 ((Cg.refl _ _ _).drew));have FRD:=zh (FRD.out.cg (C:=fun _=>False) ((Cg.refl _ _ _).drew) (fun h=>h));have G:=zh G.out.drew;have c17:wd.cell? ⟨g,17,none⟩=some (.slice iA2 Ls.length ic2):=(RM.out.st.b.cell 17).trans (set17_eq HC17.out);refine wp_region_held_drew (S:=fun _=>True) (by kernel_rfl) (trivial) (fun hHeld => ?_);refine tk (i:=0) (oi:=⟨some 50,_,_,_,_,_⟩) (v:=?_) rfl ?_ hHeld ?_
     rotate_left
     · intro w hSw;(try dsimp only at hSw);go_simp;(try with_reducible rfl)
     simp only [Act.put,lPt];refine tk (i:=1) (oi:=⟨some 51,_,_,_,_,_⟩) (v:=?_) rfl ?_ hHeld ?_
     rotate_left
     · intro w hSw;(try dsimp only at hSw);go_simp;(try with_reducible rfl)
     simp only [Act.put,lPt];refine tk (i:=2) (oi:=⟨some 52,_,_,_,_,_⟩) (v:=?_) rfl ?_ hHeld ?_
     rotate_left
     · intro w hSw;(try dsimp only at hSw);go_simp;(try with_reducible rfl)
     simp only [Act.put,lPt];refine tk (i:=3) (oi:=⟨some 53,_,_,_,_,_⟩) (v:=?_) rfl ?_ hHeld ?_
     rotate_left
     · intro w hSw;(try dsimp only at hSw);go_simp;(try with_reducible rfl)
     simp only [Act.put,lPt];refine tk (i:=5) (oi:=⟨some 55,_,_,_,_,_⟩) (v:=?_) rfl ?_ hHeld ?_
     rotate_left
     · intro w hSw;(try dsimp only at hSw);go_simp;(try with_reducible rfl)
     simp only [Act.put,lPt];refine tk (i:=6) (oi:=⟨some 56,_,_,_,_,_⟩) (v:=?_) rfl ?_ hHeld ?_
     rotate_left
     · intro w hSw;(try dsimp only at hSw);go_simp;(try with_reducible rfl)
     simp only [Act.put,lPt];refine tk (i:=8) (oi:=⟨some 58,_,_,_,_,_⟩) (v:=?_) rfl ?_ hHeld ?_
     rotate_left
     · intro w hSw;(try dsimp only at hSw);go_simp;(try with_reducible rfl)
     simp only [Act.put,lPt];refine tk (i:=9) (oi:=⟨some 59,_,_,_,_,_⟩) (v:=?_) rfl ?_ hHeld ?_
     rotate_left
     · intro w hSw;(try dsimp only at hSw);go_simp;(try with_reducible rfl)
     simp only [Act.put,lPt];refine wpAnyH_ready (rs:=[4,7]) (by kernel_rfl) (by simp) ?_;refine AllReadyH.cons (o:=⟨some 54,_,_,_,_,_⟩) rfl (fun K hK => ?_) (AllReadyH.cons (o:=⟨some 57,_,_,_,_,_⟩) rfl (fun K hK => ?_) AllReadyH.nil)
     ·
      skip
      rw [if_pos (by rfl)];go_simp;refine hK.out _ _ (trivial) (fun hHeld => ?_);clear hK K
      try simp only [Act.put,lPt]
      refine wpAnyH_ready (rs:=[7]) (by kernel_rfl) (by simp) ?_;refine AllReadyH.cons (o:=⟨some 57,_,_,_,_,_⟩) rfl (fun K hK => ?_) AllReadyH.nil;rw [if_pos (by rfl)];go_simp;refine (newIn_any _ _ _).mono ?_;rintro e w5 ⟨rfl,f5,hin⟩;have k5:=(cg0 (col:=coli) f5).paint (20+2 * Ls.length);have RM:=zh (RM.out.cg0 k5);have FRD:=zh (FRD.out.cg k5 (fun h=>h));have G:=zh (G.out.trans (k5.mono (C':=NC) (fun _ h=>h.elim)));have HIN:=zh (hin coli (20+2 * Ls.length));have BT5:=zh RM.out.st.b;clear f5 hin k5;generalize paint coli _ _=col5 at *;obtain ⟨gn,hgn⟩:=nm (wd.drew.heap.size);rw [<- hgn] at HIN ⊢;clear hgn;refine hK.out _ _ (trivial) (fun hHeld => ?_);clear hK K
      try simp only [Act.put,lPt]
      refine tk (i:=10) (oi:=⟨some 60,_,_,_,_,_⟩) (v:=?_) rfl ?_ hHeld ?_
      rotate_left
      · intro w hSw;(try dsimp only at hSw);go_simp;(try with_reducible rfl)
      simp only [Act.put,lPt];refine wpAnyH_ready (rs:=[11]) (by kernel_rfl) (by simp) ?_;refine AllReadyH.cons (o:=⟨some 61,_,_,_,_,_⟩) rfl (fun K hK => ?_) AllReadyH.nil;rw [if_pos (by rfl)];go_simp;have BL:=zh (Blk.new w5 172 #[.pointer (some ⟨gn,0,none⟩),.int .i64 f,.int .i64 ch]);have fa:=(Fr.refl w5.heap.size [] w5).alloc (Nat.le_refl _) (.cells #[.pointer (some ⟨gn,0,none⟩),.int .i64 f,.int .i64 ch] 172);have RM:=zh (RM.out.cg0 (cg0 fa));have FRD:=zh (FRD.out.cg (cg0 fa) (fun h=>h));have G:=zh (G.out.trans (cgf NC fa));have HIN:=zh (HIN.out.fr0 fa);clear fa;refine hK.out _ _ (trivial) (fun hHeld => ?_);clear hK K
      try simp only [Act.put,lPt]
      refine wpAnyH_ready (rs:=[12]) (by kernel_rfl) (by simp) ?_;refine AllReadyH.cons (o:=⟨some 62,_,_,_,_,_⟩) rfl (fun K hK => ?_) AllReadyH.nil;refine step_appC _ (by rfl) (.tmp 54) (.tmp 61) inletTy (by rfl) _ Ls.length _ (by rfl) RM.out.row (w5.heap.size+1) (some ⟨w5.heap.size,0,none⟩) 1 1 (inF (gn,f,ch)) (by rfl) (Reads.of_blk (m:=1) (size:=3) BL.out rfl) (by simp [inF,Value.oneCell']) (by omega) (by omega) ?_;intro A' c' w6 hrow hap hgr;have ST6:=zh (RM.out.st.cg hap (by omega));have IM6:=zh (fun k gk mm (h1:gis2[k]?=some gk) (h2:Ls[k]?=some mm)=>(RM.out.im k gk mm h1 h2).cg hap (by omega));have HIN:=zh (HIN.out.cg hap (by omega));have FRD:=zh (FRD.out.cg hap (by omega));have G:=zh (G.out.trans (hap.mono (C':=NC) (fun _ h=>.inr h)));have GL:=zh RM.out.gl;generalize paint col5 _ 5=col6 at *;have ROW:=zh hrow;clear hrow hap hgr BL;refine hK.out _ _ (trivial) (fun hHeld => ?_);clear hK K
      try simp only [Act.put,lPt]
      refine tk (i:=13) (oi:=⟨some 63,_,_,_,_,_⟩) (v:=?_) rfl ?_ hHeld ?_
      rotate_left
      · intro w hSw;(try dsimp only at hSw);go_simp;(try with_reducible rfl)
      simp only [Act.put,lPt];refine tk (i:=14) (oi:=⟨some 64,_,_,_,_,_⟩) (v:=?_) rfl ?_ hHeld ?_
      rotate_left
      · intro w hSw;(try dsimp only at hSw);go_simp;(try with_reducible rfl)
      simp only [Act.put,lPt];refine wpAnyH_ready (rs:=[15]) (by kernel_rfl) (by simp) ?_;refine AllReadyH.cons (o:=⟨none,_,_,_,_,_⟩) rfl (fun K hK => ?_) AllReadyH.nil;rw [if_pos (by rfl)];have c17z:=(ST6.out.b.cell 17).trans (set17_eq HC17.out);have f17z:=ST6.out.b.frozen 17;have g17z:=ST6.out.b.lt;go_simp;have k1:Cg (· = 1) col6 w6 col6 (w6.setCell ⟨g,17,none⟩ (.slice A' (Ls.length+1) c')):=(Cg.refl _ _ _).set ST6.out.k _;have hln:(Ls ++ [(f,ch)]).length=Ls.length+1:=(by simp)
      have RMF := zh (by
       refine ⟨⟨?_,ST6.out.k⟩,by simp [GL.out],?_,fun k gk mm h1 h2 => ?_⟩
       · have:=ST6.out.b.set_ 17 (.slice A' (Ls.length+1) c');rw [Array.setIfInBounds_setIfInBounds] at this;rw [hln];exact this
       · have:=ROW.out.cg k1 (by omega);rw [hln,zip_snoc _ _ GL.out,List.flatMap_append];simpa using this
       ·
        rcases Nat.lt_or_ge k Ls.length with hk | hk
        · rw [List.getElem?_append_left (by rw [GL.out];exact hk)] at h1;rw [List.getElem?_append_left hk] at h2;exact (IM6.out k gk mm h1 h2).cg k1 (by omega)
        ·
         have hk2:k=Ls.length:=by
          have:=(List.getElem?_eq_some_iff.1 h2).1;simp at this;omega
         subst hk2;rw [<- GL.out,List.getElem?_append_right (Nat.le_refl _),Nat.sub_self] at h1;rw [List.getElem?_append_right (Nat.le_refl _),Nat.sub_self] at h2;injection h1 with h1
         injection h2 with h2
         rw [<- h1,<- h2]
         exact HIN.out.cg k1 (by omega):RecvM col6 (w6.setCell ⟨g,17,none⟩ (.slice A' (Ls.length+1) c')) g cs inc (Ls ++ [(f,ch)]) A' c' (gis2 ++ [gn]))
      have FRD:=zh (FRD.out.cg k1 (by omega));have G:=zh (G.out.trans (k1.mono (C':=NC) (fun _ h=>.inl h)));clear k1 hln c17z f17z g17z;refine hK.out _ _ (trivial) (fun hHeld => ?_);clear hK K
      try simp only [Act.put]
      refine wpAnyH_done (by kernel_rfl) ?_ _;rw [<- HLS.out] at RMF;generalize w6.setCell _ _=w7 at *;clear hHeld ROW IM6 ST6 HIN GL;have hi30:i<=1000:=(by omega);go_wp2_with fail;go_roundg (pt - (i+1))
      case measure=>omega
      case rel=>exact ⟨i+1,hip,rfl,by go_num,col6,A',c',gis2 ++ [gn],RMF,FRD,G⟩
     ·
      skip
      rw [if_pos (by rfl)];go_simp;refine (newIn_any _ _ _).mono ?_;rintro e w5 ⟨rfl,f5,hin⟩;have k5:=(cg0 (col:=coli) f5).paint (20+2 * Ls.length);have RM:=zh (RM.out.cg0 k5);have FRD:=zh (FRD.out.cg k5 (fun h=>h));have G:=zh (G.out.trans (k5.mono (C':=NC) (fun _ h=>h.elim)));have HIN:=zh (hin coli (20+2 * Ls.length));have BT5:=zh RM.out.st.b;clear f5 hin k5;generalize paint coli _ _=col5 at *;obtain ⟨gn,hgn⟩:=nm (wd.drew.heap.size);rw [<- hgn] at HIN ⊢;clear hgn;refine hK.out _ _ (trivial) (fun hHeld => ?_);clear hK K
      try simp only [Act.put,lPt]
      refine tk (i:=10) (oi:=⟨some 60,_,_,_,_,_⟩) (v:=?_) rfl ?_ hHeld ?_
      rotate_left
      · intro w hSw;(try dsimp only at hSw);go_simp;(try with_reducible rfl)
      simp only [Act.put,lPt];refine wpAnyH_ready (rs:=[4,11]) (by kernel_rfl) (by simp) ?_;refine AllReadyH.cons (o:=⟨some 54,_,_,_,_,_⟩) rfl (fun K hK => ?_) (AllReadyH.cons (o:=⟨some 61,_,_,_,_,_⟩) rfl (fun K hK => ?_) AllReadyH.nil)
      ·
       skip
       rw [if_pos (by rfl)];have c17:=(BT5.out.cell 17).trans (set17_eq HC17.out);go_simp;refine hK.out _ _ (trivial) (fun hHeld => ?_);clear hK K
       try simp only [Act.put,lPt]
       refine wpAnyH_ready (rs:=[11]) (by kernel_rfl) (by simp) ?_;refine AllReadyH.cons (o:=⟨some 61,_,_,_,_,_⟩) rfl (fun K hK => ?_) AllReadyH.nil;rw [if_pos (by rfl)];go_simp;have BL:=zh (Blk.new w5 172 #[.pointer (some ⟨gn,0,none⟩),.int .i64 f,.int .i64 ch]);have fa:=(Fr.refl w5.heap.size [] w5).alloc (Nat.le_refl _) (.cells #[.pointer (some ⟨gn,0,none⟩),.int .i64 f,.int .i64 ch] 172);have RM:=zh (RM.out.cg0 (cg0 fa));have FRD:=zh (FRD.out.cg (cg0 fa) (fun h=>h));have G:=zh (G.out.trans (cgf NC fa));have HIN:=zh (HIN.out.fr0 fa);clear fa;refine hK.out _ _ (trivial) (fun hHeld => ?_);clear hK K
       try simp only [Act.put,lPt]
       refine wpAnyH_ready (rs:=[12]) (by kernel_rfl) (by simp) ?_;refine AllReadyH.cons (o:=⟨some 62,_,_,_,_,_⟩) rfl (fun K hK => ?_) AllReadyH.nil;refine step_appC _ (by rfl) (.tmp 54) (.tmp 61) inletTy (by rfl) _ Ls.length _ (by rfl) RM.out.row (w5.heap.size+1) (some ⟨w5.heap.size,0,none⟩) 1 1 (inF (gn,f,ch)) (by rfl) (Reads.of_blk (m:=1) (size:=3) BL.out rfl) (by simp [inF,Value.oneCell']) (by omega) (by omega) ?_;intro A' c' w6 hrow hap hgr;have ST6:=zh (RM.out.st.cg hap (by omega));have IM6:=zh (fun k gk mm (h1:gis2[k]?=some gk) (h2:Ls[k]?=some mm)=>(RM.out.im k gk mm h1 h2).cg hap (by omega));have HIN:=zh (HIN.out.cg hap (by omega));have FRD:=zh (FRD.out.cg hap (by omega));have G:=zh (G.out.trans (hap.mono (C':=NC) (fun _ h=>.inr h)));have GL:=zh RM.out.gl;generalize paint col5 _ 5=col6 at *;have ROW:=zh hrow;clear hrow hap hgr BL;refine hK.out _ _ (trivial) (fun hHeld => ?_);clear hK K
       try simp only [Act.put,lPt]
       refine tk (i:=13) (oi:=⟨some 63,_,_,_,_,_⟩) (v:=?_) rfl ?_ hHeld ?_
       rotate_left
       · intro w hSw;(try dsimp only at hSw);go_simp;(try with_reducible rfl)
       simp only [Act.put,lPt];refine tk (i:=14) (oi:=⟨some 64,_,_,_,_,_⟩) (v:=?_) rfl ?_ hHeld ?_
       rotate_left
       · intro w hSw;(try dsimp only at hSw);go_simp;(try with_reducible rfl)
       simp only [Act.put,lPt];refine wpAnyH_ready (rs:=[15]) (by kernel_rfl) (by simp) ?_;refine AllReadyH.cons (o:=⟨none,_,_,_,_,_⟩) rfl (fun K hK => ?_) AllReadyH.nil;rw [if_pos (by rfl)];have c17z:=(ST6.out.b.cell 17).trans (set17_eq HC17.out);have f17z:=ST6.out.b.frozen 17;have g17z:=ST6.out.b.lt;go_simp;have k1:Cg (· = 1) col6 w6 col6 (w6.setCell ⟨g,17,none⟩ (.slice A' (Ls.length+1) c')):=(Cg.refl _ _ _).set ST6.out.k _;have hln:(Ls ++ [(f,ch)]).length=Ls.length+1:=(by simp)
       have RMF := zh (by
        refine ⟨⟨?_,ST6.out.k⟩,by simp [GL.out],?_,fun k gk mm h1 h2 => ?_⟩
        · have:=ST6.out.b.set_ 17 (.slice A' (Ls.length+1) c');rw [Array.setIfInBounds_setIfInBounds] at this;rw [hln];exact this
        · have:=ROW.out.cg k1 (by omega);rw [hln,zip_snoc _ _ GL.out,List.flatMap_append];simpa using this
        ·
         rcases Nat.lt_or_ge k Ls.length with hk | hk
         · rw [List.getElem?_append_left (by rw [GL.out];exact hk)] at h1;rw [List.getElem?_append_left hk] at h2;exact (IM6.out k gk mm h1 h2).cg k1 (by omega)
         ·
          have hk2:k=Ls.length:=by
           have:=(List.getElem?_eq_some_iff.1 h2).1;simp at this;omega
          subst hk2;rw [<- GL.out,List.getElem?_append_right (Nat.le_refl _),Nat.sub_self] at h1;rw [List.getElem?_append_right (Nat.le_refl _),Nat.sub_self] at h2;injection h1 with h1
          injection h2 with h2
          rw [<- h1,<- h2]
          exact HIN.out.cg k1 (by omega):RecvM col6 (w6.setCell ⟨g,17,none⟩ (.slice A' (Ls.length+1) c')) g cs inc (Ls ++ [(f,ch)]) A' c' (gis2 ++ [gn]))
       have FRD:=zh (FRD.out.cg k1 (by omega));have G:=zh (G.out.trans (k1.mono (C':=NC) (fun _ h=>.inl h)));clear k1 hln c17z f17z g17z;refine hK.out _ _ (trivial) (fun hHeld => ?_);clear hK K
       try simp only [Act.put]
       refine wpAnyH_done (by kernel_rfl) ?_ _;rw [<- HLS.out] at RMF;generalize w6.setCell _ _=w7 at *;clear hHeld ROW IM6 ST6 HIN GL;have hi30:i<=1000:=(by omega);go_wp2_with fail;go_roundg (pt - (i+1))
       case measure=>omega
       case rel=>exact ⟨i+1,hip,rfl,by go_num,col6,A',c',gis2 ++ [gn],RMF,FRD,G⟩
      ·
       skip
       rw [if_pos (by rfl)];go_simp;have BL:=zh (Blk.new w5 172 #[.pointer (some ⟨gn,0,none⟩),.int .i64 f,.int .i64 ch]);have fa:=(Fr.refl w5.heap.size [] w5).alloc (Nat.le_refl _) (.cells #[.pointer (some ⟨gn,0,none⟩),.int .i64 f,.int .i64 ch] 172);have RM:=zh (RM.out.cg0 (cg0 fa));have FRD:=zh (FRD.out.cg (cg0 fa) (fun h=>h));have G:=zh (G.out.trans (cgf NC fa));have HIN:=zh (HIN.out.fr0 fa);clear fa;refine hK.out _ _ (trivial) (fun hHeld => ?_);clear hK K
       try simp only [Act.put,lPt]
       refine wpAnyH_ready (rs:=[4]) (by kernel_rfl) (by simp) ?_;refine AllReadyH.cons (o:=⟨some 54,_,_,_,_,_⟩) rfl (fun K hK => ?_) AllReadyH.nil;rw [if_pos (by rfl)];have hg5:=BT5.out.lt;have c17:=(BT5.out.cell 17).trans (set17_eq HC17.out);go_simp;refine hK.out _ _ (trivial) (fun hHeld => ?_);clear hK K
       try simp only [Act.put,lPt]
       refine wpAnyH_ready (rs:=[12]) (by kernel_rfl) (by simp) ?_;refine AllReadyH.cons (o:=⟨some 62,_,_,_,_,_⟩) rfl (fun K hK => ?_) AllReadyH.nil;refine step_appC _ (by rfl) (.tmp 54) (.tmp 61) inletTy (by rfl) _ Ls.length _ (by rfl) RM.out.row (w5.heap.size+1) (some ⟨w5.heap.size,0,none⟩) 1 1 (inF (gn,f,ch)) (by rfl) (Reads.of_blk (m:=1) (size:=3) BL.out rfl) (by simp [inF,Value.oneCell']) (by omega) (by omega) ?_;intro A' c' w6 hrow hap hgr;have ST6:=zh (RM.out.st.cg hap (by omega));have IM6:=zh (fun k gk mm (h1:gis2[k]?=some gk) (h2:Ls[k]?=some mm)=>(RM.out.im k gk mm h1 h2).cg hap (by omega));have HIN:=zh (HIN.out.cg hap (by omega));have FRD:=zh (FRD.out.cg hap (by omega));have G:=zh (G.out.trans (hap.mono (C':=NC) (fun _ h=>.inr h)));have GL:=zh RM.out.gl;generalize paint col5 _ 5=col6 at *;have ROW:=zh hrow;clear hrow hap hgr BL;refine hK.out _ _ (trivial) (fun hHeld => ?_);clear hK K
       try simp only [Act.put,lPt]
       refine tk (i:=13) (oi:=⟨some 63,_,_,_,_,_⟩) (v:=?_) rfl ?_ hHeld ?_
       rotate_left
       · intro w hSw;(try dsimp only at hSw);go_simp;(try with_reducible rfl)
       simp only [Act.put,lPt];refine tk (i:=14) (oi:=⟨some 64,_,_,_,_,_⟩) (v:=?_) rfl ?_ hHeld ?_
       rotate_left
       · intro w hSw;(try dsimp only at hSw);go_simp;(try with_reducible rfl)
       simp only [Act.put,lPt];refine wpAnyH_ready (rs:=[15]) (by kernel_rfl) (by simp) ?_;refine AllReadyH.cons (o:=⟨none,_,_,_,_,_⟩) rfl (fun K hK => ?_) AllReadyH.nil;rw [if_pos (by rfl)];have c17z:=(ST6.out.b.cell 17).trans (set17_eq HC17.out);have f17z:=ST6.out.b.frozen 17;have g17z:=ST6.out.b.lt;go_simp;have k1:Cg (· = 1) col6 w6 col6 (w6.setCell ⟨g,17,none⟩ (.slice A' (Ls.length+1) c')):=(Cg.refl _ _ _).set ST6.out.k _;have hln:(Ls ++ [(f,ch)]).length=Ls.length+1:=(by simp)
       have RMF := zh (by
        refine ⟨⟨?_,ST6.out.k⟩,by simp [GL.out],?_,fun k gk mm h1 h2 => ?_⟩
        · have:=ST6.out.b.set_ 17 (.slice A' (Ls.length+1) c');rw [Array.setIfInBounds_setIfInBounds] at this;rw [hln];exact this
        · have:=ROW.out.cg k1 (by omega);rw [hln,zip_snoc _ _ GL.out,List.flatMap_append];simpa using this
        ·
         rcases Nat.lt_or_ge k Ls.length with hk | hk
         · rw [List.getElem?_append_left (by rw [GL.out];exact hk)] at h1;rw [List.getElem?_append_left hk] at h2;exact (IM6.out k gk mm h1 h2).cg k1 (by omega)
         ·
          have hk2:k=Ls.length:=by
           have:=(List.getElem?_eq_some_iff.1 h2).1;simp at this;omega
          subst hk2;rw [<- GL.out,List.getElem?_append_right (Nat.le_refl _),Nat.sub_self] at h1;rw [List.getElem?_append_right (Nat.le_refl _),Nat.sub_self] at h2;injection h1 with h1
          injection h2 with h2
          rw [<- h1,<- h2]
          exact HIN.out.cg k1 (by omega):RecvM col6 (w6.setCell ⟨g,17,none⟩ (.slice A' (Ls.length+1) c')) g cs inc (Ls ++ [(f,ch)]) A' c' (gis2 ++ [gn]))
       have FRD:=zh (FRD.out.cg k1 (by omega));have G:=zh (G.out.trans (k1.mono (C':=NC) (fun _ h=>.inl h)));clear k1 hln c17z f17z g17z;refine hK.out _ _ (trivial) (fun hHeld => ?_);clear hK K
       try simp only [Act.put]
       refine wpAnyH_done (by kernel_rfl) ?_ _;rw [<- HLS.out] at RMF;generalize w6.setCell _ _=w7 at *;clear hHeld ROW IM6 ST6 HIN GL;have hi30:i<=1000:=(by omega);go_wp2_with fail;go_roundg (pt - (i+1))
       case measure=>omega
       case rel=>exact ⟨i+1,hip,rfl,by go_num,col6,A',c',gis2 ++ [gn],RMF,FRD,G⟩
    ·
     obtain rfl:i=pt:=by omega
     have hj30:j<=1000000:=(by omega);go_wp2_with fail;go_roundg (m - (j+1))
     case measure=>omega
     case rel=>exact ⟨j+1,hjm,rfl,by go_num,.inr ⟨_,rfl⟩,coli,iA2,ic2,gis2,by rw [HTK.out,HPT.out];exact RM,FRD,G⟩
  ·
   obtain rfl:j=m:=by omega
   go_wp2_with fail;refine bodyPost_end (results_none rfl _ _ _) rfl ⟨colr,iA,ic,gis,rfl,?_,G2.out⟩;have h1:=RM.out;rw [List.take_of_length_le (by rw [hsl];exact Nat.le_refl _)] at h1;exact h1
end Go.Proofs.YtgblfflikgnfpaaGreat
