/- Texts merged into one, for the number of files a claim may have: RgT, TdP, RgD, RgW, TrA, TrB, RgN. -/
import Derived.Test.YtgblfflikgnfpaaGreatTk
import Derived.Test.YtgblfflikgnfpaaGreatTY4
import Derived.Test.YtgblfflikgnfpaaGreatTY14
import Derived.Test.YtgblfflikgnfpaaGreatTY16
namespace Go.Proofs.YtgblfflikgnfpaaGreat
open Go.RowKit Go.Fb
set_option maxRecDepth 100000
set_option maxHeartbeats 16000000
set_option linter.unusedVariables false
def ackF' (l:List Pkt) (F:Feed):Feed:={ F with o:=ackAll l F.o }
def feedsB (l:List Pkt) (fs:List Feed) (j i:Nat):List Feed:=(fs.take i).map (ackF' (l.take (j+1))) ++ (fs.drop i).map (ackF' (l.take j))
theorem feedsB_0 (l:List Pkt) (fs:List Feed) (j:Nat):feedsB l fs j 0=fs.map (ackF' (l.take j)):=by simp [feedsB]
theorem feedsB_n (l:List Pkt) (fs:List Feed) (j:Nat):feedsB l fs j fs.length=fs.map (ackF' (l.take (j+1))):=by simp [feedsB]
theorem feedsB_at {l:List Pkt} {fs:List Feed} {j i:Nat} {F:Feed} (h:fs[i]?=some F):(feedsB l fs j i)[i]?=some (ackF' (l.take j) F):=by
 have hi:=(List.getElem?_eq_some_iff.1 h).1;have hl:((fs.take i).map (ackF' (l.take (j+1)))).length=i:=(by simp;omega);unfold feedsB;rw [List.getElem?_append_right (by omega),hl,Nat.sub_self,List.getElem?_map,List.getElem?_drop,Nat.add_zero,h];rfl
theorem step_map2 {α β:Type} (f g:α->β) {fs:List α} {i:Nat} {F:α} (h:fs[i]?=some F):((fs.take i).map g ++ (fs.drop i).map f).set i (g F)=(fs.take (i+1)).map g ++ (fs.drop (i+1)).map f:=by
 have hi:=(List.getElem?_eq_some_iff.1 h).1;have hx:fs[i]=F:=(by rw [List.getElem?_eq_getElem hi] at h;injection h);have hl:((fs.take i).map g).length=i:=(by simp;omega);rw [List.set_append_right i _ (by omega),hl,Nat.sub_self,List.take_add_one,h,List.map_append,List.append_assoc,List.drop_eq_getElem_cons hi,hx];rfl
theorem feedsB_step {l:List Pkt} {fs:List Feed} {j i:Nat} {F:Feed} (h:fs[i]?=some F):(feedsB l fs j i).set i (ackF' (l.take (j+1)) F)=feedsB l fs j (i+1):=step_map2 (ackF' (l.take j)) (ackF' (l.take (j+1))) h
theorem map_ackF0 (l:List Pkt) (fs:List Feed):fs.map (ackF' (l.take 0))=fs:=by
 have e:ackF' (l.take 0)=id:=funext fun F=>by cases F;rfl
 rw [e,List.map_id]
section
variable {col:Nat->Nat} {w:World} {g:Nat} {R:RigS} {Y:RX}
theorem tells0_any (h:RigM col w g R Y) (hd:R.ds=[]) (l:List Pkt) (A:Option Addr) (c:Nat) (hl:CRd col 8 w 6 A l.length (pksC l)) (hlen:l.length<=1000) (hp:∀ p ∈ l,Cn p.ack) (hf:∀ F ∈ R.fs,F.o.ws.length<=1000000/\Cn F.o.last) :
  Calls Tryz.prog 49 #[.pointer (some ⟨g,0,none⟩),.slice A l.length c] w fun e w'=>∃ col',e=.returned (.tuple #[])/\RigM col' w' g { R with fs:=R.fs.map (ackF' l) } Y/\Cg (fun c=>200<=c/\c < 500) col w col' w':=by
 have RM:=zh (by rw [map_ackF0];exact h:RigM col w g { R with fs:=R.fs.map (ackF' (l.take 0)) } Y);have HD:=zh hd;have HP:=zh hp;have HF:=zh hf;have HFL:=zh h.fl;have HFW:=zh h.few.1;have RD:=zh hl;have CC:=zh (Cg.refl (fun c=>200<=c/\c < 500) col w);obtain ⟨n,hn⟩:=nm (R.fs.length);have HN:=zh hn;have hn60:n<=60:=(by rw [hn];exact h.few.1);clear h hd hp hf hl hn;go_enter Tryz.func49,Tryz.ntmps49;go_upto_region 1 with fail;go_loopg [5,21] l.length (fun q s5 s21 wr=>∃ j:Nat,j<=l.length/\q=l.length - j/\s21=.int .i64 j/\(s5=undef \/ ∃ a,s5=.pointer a)/\∃ colr,Hid (RigM colr wr g { R with fs:=R.fs.map (ackF' (l.take j)) } Y)/\Hid (CRd colr 8 wr 6 A l.length (pksC l))/\Hid (Cg (fun c=>200<=c/\c < 500) col w colr wr))
 case atStart=>exact ⟨0,Nat.zero_le _,rfl,rfl,.inl rfl,col,RM,RD,CC⟩
 case round =>
  clear RM RD CC;obtain ⟨j,hj,rfl,rfl,hs5,colr,RM,RD,CC⟩:=hrel
  by_cases hjn:j < l.length
  ·
   have hji:(j:Int) < (l.length:Int):=by omega
   have hj30:j<=1000:=(by omega);obtain ⟨a,ha⟩:∃ a,l[j]?=some a:=⟨_,List.getElem?_eq_getElem hjn⟩;obtain ⟨b3,off3,hA3,_,_,hcell⟩:=Reads.elem pkF_len RD.out.1 ha (by omega);have a0:=hcell 0 _ rfl;have a1:=hcell 1 _ rfl;have a2:=hcell 2 _ rfl;have a3:=hcell 3 _ rfl;have a4:=hcell 4 _ rfl;have a5:=hcell 5 _ rfl;simp only [Nat.add_zero] at a0 a1 a2 a3 a4 a5;have HAC:=zh (HP.out a (List.mem_of_getElem? ha))
   have HTK := zh (show ∀ F : Feed, ackF' (l.take (j + 1)) F = { F with o := ackO a (ackF' (l.take j) F).o } by
    intro F;unfold ackF';rw [List.take_add_one,ha]
    show _={ F with o:=ackO a (ackAll (l.take j) F.o) }
    rw [<- ackAll_snoc]
    rfl)
   have fa:=(Fr.refl wr.heap.size [] wr).alloc (Nat.le_refl _) (.cells (pkC a) 89);have ka:=(cg0 (col:=colr) fa).paint 0;have BX:=zh (⟨Blk.new wr _ _,paint_ge (Nat.le_refl _)⟩:CB (paint colr wr.heap.size 0) 0 (wr.alloc (.cells (pkC a) 89)) wr.heap.size 89 (pkC a));have RMa:=zh (RM.out.cg ka (fun _ _ h=>h));have RDa:=zh (RD.out.cg ka (fun h=>h));have CCa:=zh (CC.out.trans (ka.mono (C':=fun c=>200<=c/\c < 500) (fun _ h=>h.elim)));generalize paint colr wr.heap.size 0=cola at *;rw [hA3];clear hcell ka fa RM RD CC;go_upto_region 3 with fail;obtain ⟨gx,hgx⟩:=nm (wr.heap.size);simp only [pkC] at BX RMa RDa CCa;rw [<- hgx] at BX ⊢;clear hgx;generalize wr.alloc _=wb at *;clear a0 a1 a2 a3 a4 a5;have r1:wb.cell? ⟨g,1,none⟩=some (.slice Y.fA n Y.fc):=(by rw [HN.out];have:=RMa.out.st.b.cell 1;simpa using this);go_upto_region 4 with fail;rw [<- feedsB_0] at RMa;go_loopg [30] n (fun q s30 wi=>∃ i:Nat,i<=n/\q=n - i/\s30=.int .i64 i/\∃ colr,Hid (RigM colr wi g { R with fs:=feedsB l R.fs j i } Y)/\Hid (CRd colr 8 wi 6 A l.length (pksC l))/\Hid (CB colr 0 wi gx 89 #[.int .i64 a.ch,.int .i64 a.bk,.int .i64 a.inc,.int .i64 a.seq,.int .i64 a.ack,.string a.ld])/\Hid (Cg (fun c=>200<=c/\c < 500) col w colr wi))
   case atStart=>exact ⟨0,Nat.zero_le _,rfl,rfl,cola,RMa,RDa,BX,CCa⟩
   case round =>
    clear RMa RDa BX CCa r1;obtain ⟨i,hi,rfl,rfl,colr,RM,RD,BX,CC⟩:=hrel
    by_cases hin:i < n
    ·
     have hii:(i:Int) < (n:Int):=by omega
     obtain ⟨F,hF⟩:∃ F,R.fs[i]?=some F:=⟨_,List.getElem?_eq_getElem (by rw [<- HN.out];exact hin)⟩;obtain ⟨gk,hgk⟩:∃ gk,Y.gf[i]?=some gk:=⟨_,List.getElem?_eq_getElem (by rw [HFL.out,<- HN.out];exact hin)⟩;obtain ⟨b,off,hA,_,_,hcell⟩:=Reads.elem ptrF_len RM.out.fr.1 hgk (by omega);have x0:=hcell 0 _ rfl;simp only [Nat.add_zero,Nat.mul_one] at x0;obtain ⟨go2,lA2,lc2,e1,e2,e3⟩:=RM.out.fm i gk _ hgk (feedsB_at hF);have E1:=zh e1;have E2:=zh e2;have hff:=HF.out F (List.mem_of_getElem? hF)
     have HAK := zh (fun W (hfr : Fr wr.heap.size [] wr W) => (by
      have:=outAck_any (e3.fr0 hfr) a (Nat.le_trans (ackAll_few _ _).1 hff.1) HAC.out (by show Cn (ackAll (l.take j) F.o).last;rw [(ackAll_few (l.take j) F.o).2];exact hff.2);simp only [pkC] at this
      exact this:Calls Tryz.prog 48 #[.pointer (some ⟨go2,0,none⟩),.agg #[.int .i64 a.ch,.int .i64 a.bk,.int .i64 a.inc,.int .i64 a.seq,.int .i64 a.ack,.string a.ld]] W (AckOut colr (202+4 * i) go2 (ackF' (l.take j) F).o a W)))
     have HST:=zh (feedsB_step (l:=l) (j:=j) hF);have HGK:=zh hgk;have hi60:i<=60:=(by omega);rw [hA];clear e1 e2 e3 hcell hF hgk hff;go_upto_region 6 with fail;have RM:=zh (RM.out.fr0 (Fr.refl _ _ _).drew);have RD:=zh (RD.out.cg (C:=fun _=>False) ((Cg.refl _ _ _).drew) (fun h=>h));have BXC:=zh (BX.out.cg (cg0 (Fr.refl _ _ _).drew) (fun h=>h));have E1:=zh (E1.out.cg (cg0 (Fr.refl _ _ _).drew) (fun h=>h));have E2:=zh (E2.out.cg (cg0 (Fr.refl _ _ _).drew) (fun h=>h));have CC:=zh CC.out.drew;have HAK:=zh (HAK.out _ (Fr.refl _ _ _).drew);have SF:=zh (fun (W:World) (bx:Blk W gx 89 #[.int .i64 a.ch,.int .i64 a.bk,.int .i64 a.inc,.int .i64 a.seq,.int .i64 a.ack,.string a.ld]) (rg:W.cell? ⟨gk,0,none⟩=some (.pointer (some ⟨go2,0,none⟩)))=>(⟨rg,bx.cell 0,bx.cell 1,bx.cell 2,bx.cell 3,bx.cell 4,bx.cell 5⟩:W.cell? ⟨gk,0,none⟩=some (.pointer (some ⟨go2,0,none⟩))/\W.cell? ⟨gx,0,none⟩=some (.int .i64 a.ch)/\W.cell? ⟨gx,1,none⟩=some (.int .i64 a.bk)/\W.cell? ⟨gx,2,none⟩=some (.int .i64 a.inc)/\W.cell? ⟨gx,3,none⟩=some (.int .i64 a.seq)/\W.cell? ⟨gx,4,none⟩=some (.int .i64 a.ack)/\W.cell? ⟨gx,5,none⟩=some (.string a.ld)));have RG:=zh (E1.out.b.cell 0:wr.drew.cell? ⟨gk,0,none⟩=some (.pointer (some ⟨go2,0,none⟩)));refine wp_region_held_drew (S:=fun W=>W.cell? ⟨gk,0,none⟩=some (.pointer (some ⟨go2,0,none⟩))/\W.cell? ⟨gx,0,none⟩=some (.int .i64 a.ch)/\W.cell? ⟨gx,1,none⟩=some (.int .i64 a.bk)/\W.cell? ⟨gx,2,none⟩=some (.int .i64 a.inc)/\W.cell? ⟨gx,3,none⟩=some (.int .i64 a.seq)/\W.cell? ⟨gx,4,none⟩=some (.int .i64 a.ack)/\W.cell? ⟨gx,5,none⟩=some (.string a.ld)) (by kernel_rfl) (SF.out _ BXC.out.b RG.out) (fun hHeld => ?_);refine tk (i:=0) (oi:=⟨some 34,_,_,_,_,_⟩) (v:=?_) rfl ?_ hHeld ?_
     rotate_left
     · intro w hSw;(try dsimp only at hSw);go_simp;(try with_reducible rfl)
     simp only [Act.put,lPt];refine tk (i:=1) (oi:=⟨some 35,_,_,_,_,_⟩) (v:=?_) rfl ?_ hHeld ?_
     rotate_left
     · intro w hSw;(try dsimp only at hSw);go_simp;(try with_reducible rfl)
     simp only [Act.put,lPt];refine tk (i:=2) (oi:=⟨some 36,_,_,_,_,_⟩) (v:=?_) rfl ?_ hHeld ?_
     rotate_left
     · intro w hSw;(try dsimp only at hSw);go_simp;(try with_reducible rfl)
     simp only [Act.put,lPt];refine tk (i:=3) (oi:=⟨some 37,_,_,_,_,_⟩) (v:=?_) rfl ?_ hHeld ?_
     rotate_left
     · intro w hSw;(try dsimp only at hSw);go_simp;(try with_reducible rfl)
     simp only [Act.put,lPt];refine tk (i:=4) (oi:=⟨some 38,_,_,_,_,_⟩) (v:=?_) rfl ?_ hHeld ?_
     rotate_left
     · intro w hSw;(try dsimp only at hSw);go_simp;(try with_reducible rfl)
     simp only [Act.put,lPt];refine wpAnyH_ready (rs:=[5]) (by kernel_rfl) (by simp) ?_;refine AllReadyH.cons (o:=⟨some 39,_,_,_,_,_⟩) rfl (fun K hK => ?_) AllReadyH.nil;rw [if_pos (by rfl)];go_simp;refine HAK.out.mono ?_;rintro e w6 ⟨col6,rfl,hom6,hc6⟩;have EE:=zh (E1.out.cg hc6 (by omega));have hm6:=RM.out.setF (F':=ackF' (l.take (j+1)) F) hc6 (fun c hc=>by have hc2:c=202+4 * i:=hc;omega) HGK.out ⟨go2,lA2,lc2,EE.out,E2.out.cg hc6 (by omega),by rw [HTK.out];exact hom6⟩;have RM6:=zh (by have:=hm6;simp only [HST.out] at this;exact this:RigM col6 w6 g { R with fs:=feedsB l R.fs j (i+1) } Y);have BXC:=zh (BXC.out.cg hc6 (by omega));have CC:=zh (CC.out.trans (hc6.mono (C':=fun c=>200<=c/\c < 500) (fun c hc=>by have hc2:c=202+4 * i:=hc;omega)));have RD6:=zh (RD.out.cg hc6 (by omega));have RG:=zh (EE.out.b.cell 0:w6.cell? ⟨gk,0,none⟩=some (.pointer (some ⟨go2,0,none⟩)));clear hom6 hc6 hm6;refine hK.out _ _ (SF.out _ BXC.out.b RG.out) (fun hHeld => ?_);clear hK K
     try simp only [Act.put,lPt]
     refine wpAnyH_done (by kernel_rfl) ?_ _
     skip
     clear RM SF RG hHeld HAK E1 E2 EE RD;go_wp2_with fail;rw [<- hA];go_roundg (n - (i+1))
     case measure=>omega
     case rel=>exact ⟨i+1,hin,rfl,by go_num,col6,RM6,RD6,BXC,CC⟩
    ·
     obtain rfl:i=n:=by omega
     have r2:wr.cell? ⟨g,2,none⟩=some (.slice Y.dA 0 Y.dc):=(by have:=RM.out.st.b.cell 2;simpa [HD.out] using this);go_wp2_with fail;refine wp_loop_rounds 1 ?_;rw [rounds_succ];go_wp2_with fail;rw [<- hA3];go_roundg (l.length - (j+1))
     case measure=>omega
     case rel=>exact ⟨j+1,hjn,rfl,by go_num,.inr ⟨_,rfl⟩,colr,zh (by have h9:=RM.out;simp only [HN.out,feedsB_n] at h9;exact h9),RD,CC⟩
  ·
   obtain rfl:j=l.length:=by omega
   have r2:wr.cell? ⟨g,2,none⟩=some (.slice Y.dA 0 Y.dc):=(by have:=RM.out.st.b.cell 2;simpa [HD.out] using this);go_wp2_with fail;refine wp_loop_rounds 1 ?_;rw [rounds_succ];go_wp2_with fail;exact bodyPost_end (results_none rfl _ _ _) rfl ⟨colr,rfl,by have h9:=RM.out;rw [List.take_length] at h9;exact h9,CC.out⟩
end
end Go.Proofs.YtgblfflikgnfpaaGreat
namespace Go.Proofs.YtgblfflikgnfpaaGreat
open Go.RowKit Go.Fb
set_option maxRecDepth 100000
set_option maxHeartbeats 16000000
set_option linter.unusedVariables false
def takeAll (l:List Pkt) (i:InS):InS:=l.foldl (fun i p=>(takeI p i).1) i
theorem takeAll_snoc (l:List Pkt) (a:Pkt) (i:InS):takeAll (l ++ [a]) i=(takeI a (takeAll l i)).1:=by unfold takeAll;rw [List.foldl_append];rfl
theorem takeI_few (p:Pkt) {i:InS} (h:i.ls.length<=6):(takeI p i).1.ls.length<=6/\(takeI p i).1.out=i.out:=by
 unfold takeI
 split
 · exact ⟨h,rfl⟩
 ·
  split
  ·
   split
   · exact ⟨h,rfl⟩
   · exact ⟨by simp only [List.length_append,List.length_singleton];omega,rfl⟩
  · exact ⟨h,rfl⟩
theorem takeAll_few (l:List Pkt):∀ i:InS,i.ls.length<=6->(takeAll l i).ls.length<=6/\(takeAll l i).out=i.out:=by
 induction l with
 | nil=>intro i h;exact ⟨h,rfl⟩
 | cons a l ih =>
  intro i h;have h1:=takeI_few a h;have h2:=ih (takeI a i).1 h1.1;exact ⟨h2.1,h2.2.trans h1.2⟩
def takeD (l:List Pkt) (D:Drain):Drain:={ D with i:=takeAll l D.i }
def drainsB (l:List Pkt) (ds:List Drain) (j i:Nat):List Drain:=(ds.take i).map (takeD (l.take (j+1))) ++ (ds.drop i).map (takeD (l.take j))
theorem drainsB_0 (l:List Pkt) (ds:List Drain) (j:Nat):drainsB l ds j 0=ds.map (takeD (l.take j)):=by simp [drainsB]
theorem drainsB_n (l:List Pkt) (ds:List Drain) (j:Nat):drainsB l ds j ds.length=ds.map (takeD (l.take (j+1))):=by simp [drainsB]
theorem drainsB_at {l:List Pkt} {ds:List Drain} {j i:Nat} {D:Drain} (h:ds[i]?=some D):(drainsB l ds j i)[i]?=some (takeD (l.take j) D):=by
 have hi:=(List.getElem?_eq_some_iff.1 h).1;unfold drainsB;rw [List.getElem?_append_right (by simp;omega),List.length_map,List.length_take,Nat.min_eq_left (by omega),Nat.sub_self,List.getElem?_map,List.getElem?_drop,Nat.add_zero,h];rfl
theorem drainsB_step {l:List Pkt} {ds:List Drain} {j i:Nat} {D:Drain} (h:ds[i]?=some D):(drainsB l ds j i).set i (takeD (l.take (j+1)) D)=drainsB l ds j (i+1):=step_map2 (takeD (l.take j)) (takeD (l.take (j+1))) h
theorem map_takeD0 (l:List Pkt) (ds:List Drain):ds.map (takeD (l.take 0))=ds:=by
 rw [List.take_zero];have:takeD []=id:=(by funext D;rfl);rw [this,List.map_id]
def itemOf (s:ByteArray):Itm:=if goodI s then getI s else ⟨false,0,0,0,-1,false⟩
def pop1 (x:TaskS × Drain):TaskS × Drain:=match x.2.i.ls with
 | []=>x
 | s :: _=>(x.1.take (ackP (popI x.2.i)),{ x.2 with i:=popI x.2.i,got:=x.2.got ++ [itemOf s] })
def popN:Nat->TaskS × Drain->TaskS × Drain
 | 0,x=>x
 | n+1,x=>popN n (pop1 x)
def popK:Nat->TaskS->List Drain->TaskS × List Drain
 | 0,t,ds=>(t,ds)
 | i+1,t,ds=>match (popK i t ds).2[i]? with
  | none=>popK i t ds
  | some D=>((popN D.i.ls.length ((popK i t ds).1,D)).1,(popK i t ds).2.set i (popN D.i.ls.length ((popK i t ds).1,D)).2)
def tellR (R:RigS) (l:List Pkt):RigS :=
 { R with t:=(popK R.ds.length R.t (R.ds.map (takeD l))).1,fs:=R.fs.map (ackF' l),ds:=(popK R.ds.length R.t (R.ds.map (takeD l))).2 }
theorem popN_snoc:∀ (n:Nat) (x:TaskS × Drain),popN (n+1) x=pop1 (popN n x)
 | 0,_=>rfl
 | n+1,x=>by
  show popN (n+1) (pop1 x)=pop1 (popN n (pop1 x))
  exact popN_snoc n (pop1 x)
theorem popN_ls:∀ (n:Nat) (x:TaskS × Drain),n<=x.2.i.ls.length->(popN n x).2.i.ls=x.2.i.ls.drop n/\(popN n x).2.i.out=x.2.i.out+(n:Int)/\(popN n x).2.got.length=x.2.got.length+n/\(popN n x).2.i.ch=x.2.i.ch/\(popN n x).2.i.inc=x.2.i.inc/\(popN n x).2.dest=x.2.dest/\(popN n x).2.task=x.2.task
 | 0,x,_=>⟨by simp [popN],by simp [popN],by simp [popN],rfl,rfl,rfl,rfl⟩
 | n+1,x,h=>by
  have ih:=popN_ls n x (by omega);rw [popN_snoc]
  have hne:(popN n x).2.i.ls ≠ []:=by
   rw [ih.1];intro e;have:=congrArg List.length e;rw [List.length_drop] at this;simp at this;omega
  unfold pop1
  cases hc:(popN n x).2.i.ls with
  | nil=>exact absurd hc hne
  | cons s r =>
   simp only;refine ⟨?_,?_,?_,ih.2.2.2.1,ih.2.2.2.2.1,ih.2.2.2.2.2.1,ih.2.2.2.2.2.2⟩
   ·
    show (popN n x).2.i.ls.drop 1=_
    rw [ih.1,List.drop_drop]
   ·
    show (popN n x).2.i.out+1=_
    rw [ih.2.1];omega
   · rw [List.length_append,ih.2.2.1];simp only [List.length_singleton];omega
def TkOk (t:TaskS):Prop:=(∀ s ∈ t.ins,s.ls.length<=6/\Cn s.out) /\ ∀ o ∈ t.outs,o.ws.length<=1000000/\Cn o.last
theorem TkOk.take {t:TaskS} (h:TkOk t) (p:Pkt):TkOk (t.take p):=by
 refine ⟨fun s hs => ?_,fun o ho => ?_⟩
 · have h1:s ∈ (t.ins.take t.ins.length).map (fun s=>(takeI p s).1) ++ t.ins.drop t.ins.length:=hs;rw [List.take_length,List.drop_length,List.append_nil] at h1;obtain ⟨s',hs',rfl⟩:=List.mem_map.1 h1;have h2:=h.1 s' hs';have h3:=takeI_few p h2.1;exact ⟨h3.1,by rw [h3.2];exact h2.2⟩
 · have h1:o ∈ (t.outs.take t.outs.length).map (ackO p) ++ t.outs.drop t.outs.length:=ho;rw [List.take_length,List.drop_length,List.append_nil] at h1;obtain ⟨o',ho',rfl⟩:=List.mem_map.1 h1;have h2:=h.2 o' ho';have h3:=ackO_few p o';exact ⟨Nat.le_trans h3.1 h2.1,by rw [h3.2];exact h2.2⟩
theorem pop1_ok {x:TaskS × Drain} (h:TkOk x.1):TkOk (pop1 x).1:=by
 unfold pop1
 split
 · exact h
 · exact h.take _
theorem popN_ok:∀ (n:Nat) {x:TaskS × Drain},TkOk x.1->TkOk (popN n x).1
 | 0,_,h=>h
 | n+1,x,h=>by rw [popN_snoc];exact pop1_ok (popN_ok n h)
theorem popK_ok (t:TaskS) (ds:List Drain) (h:TkOk t):∀ i,TkOk (popK i t ds).1/\(popK i t ds).2.length=ds.length /\ ∀ j,i<=j->(popK i t ds).2[j]?=ds[j]?
 | 0=>⟨h,rfl,fun _ _=>rfl⟩
 | i+1=>by
  have ih:=popK_ok t ds h i;unfold popK
  split
  · exact ⟨ih.1,ih.2.1,fun j hj=>ih.2.2 j (by omega)⟩
  · rename_i D hD;refine ⟨popN_ok _ ih.1,by rw [List.length_set];exact ih.2.1,fun j hj => ?_⟩;rw [List.getElem?_set_ne (by omega)];exact ih.2.2 j (by omega)
theorem popK_next {t:TaskS} {ds:List Drain} {i:Nat} {D:Drain} (h:TkOk t) (hD:ds[i]?=some D):popK (i+1) t ds=((popN D.i.ls.length ((popK i t ds).1,D)).1,(popK i t ds).2.set i (popN D.i.ls.length ((popK i t ds).1,D)).2):=by
 have h1:=(popK_ok t ds h i).2.2 i (Nat.le_refl _);rw [hD] at h1
 show (match (popK i t ds).2[i]? with
  | none=>popK i t ds
  | some D=>((popN D.i.ls.length ((popK i t ds).1,D)).1,(popK i t ds).2.set i (popN D.i.ls.length ((popK i t ds).1,D)).2))=_
 rw [h1]
end Go.Proofs.YtgblfflikgnfpaaGreat
namespace Go.Proofs.YtgblfflikgnfpaaGreat
open Go.RowKit Go.Fb
set_option maxRecDepth 100000
set_option maxHeartbeats 16000000
set_option linter.unusedVariables false
def XD (c:Nat):Prop:=RC c \/ c=10 \/ c=3500
theorem itemTyD:SliceTy Tryz.prog 34 46 6 48:=SliceTy.mk' (z:=.agg #[.bool false,.int .i64 0,.int .i64 0,.int .i64 0,.int .i64 0,.bool false]) Tryz.underlying34 (by kernel_rfl) rfl (by omega)
theorem drain_more {col:Nat->Nat} {i:Nat} {w:World} {gk gi ng lc c:Nat} {lA A:Option Addr} {Dp Dq:Drain} {it:Itm} (h1:CB col (500+4 * i) w gk 117 #[.pointer (some ⟨gi,0,none⟩),.int .i64 Dp.dest,.int .i64 Dp.task,.slice lA ng lc]) (zk:col gk=500+4 * i) (hr:CR col (501+4 * i) w 46 6 (.slice A (ng+1) c) (ng+1) (itmsC Dp.got ++ itF it)) (h3:InM col (502+4 * i) (w.setCell ⟨gk,3,none⟩ (.slice A (ng+1) c)) gi Dp.i) (hq:Dq={ Dp with got:=Dp.got ++ [it] }) (hgl:Dq.got.length=ng+1) (hgc:itmsC Dq.got=itmsC Dp.got ++ itF it) :
  DrainM col i (w.setCell ⟨gk,3,none⟩ (.slice A (ng+1) c)) gk Dq:=by
 have k1:Cg (· = 500+4 * i) col w col (w.setCell ⟨gk,3,none⟩ (.slice A (ng+1) c)):=(Cg.refl _ _ _).set zk _;refine ⟨gi,A,c,⟨?_,zk⟩,?_,?_⟩
 · rw [hgl];have:=h1.b.set_ 3 (.slice A (ng+1) c);rw [hq];simpa using this
 · rw [hgl,hgc];exact hr.cg k1 (by omega)
 · rw [hq];exact h3
theorem set_same {α:Type} {l:List α} {i:Nat} {x:α} (h:l[i]?=some x):l.set i x=l:=by
 apply List.ext_getElem?;intro j
 by_cases hj:j=i
 · subst hj;rw [List.getElem?_set_self (List.getElem?_eq_some_iff.1 h).1,h]
 · rw [List.getElem?_set_ne (by omega)]
def tkE (tkx:TaskS) (pa:Pkt) (e:Nat):TaskS:=if e=0 then tkx else tkx.take pa
theorem tkE_1 (tkx:TaskS) (pa:Pkt):tkE tkx pa 1=tkx.take pa:=rfl
theorem one_at {e:Nat} (h:e < 1) {pa:Pkt}:[pa][e]?=some pa:=by
 obtain rfl:e=0:=by omega
 rfl
theorem xd_take {c:Nat} (h:(20<=c/\c < 100) \/ c=10):XD c:=by
 unfold XD RC TC;omega
theorem tkE_take {tkx:TaskS} {pa:Pkt} (h:TkOk tkx) (hp:Cn pa.ack) {e:Nat} (he:e < 1) (W:World) (c:Nat->Nat) (gt:Nat) (X:TX) (hh:TaskM c W gt (tkE tkx pa e) X) :
  Calls Tryz.prog 34 #[.pointer (some ⟨gt,0,none⟩),.agg (pkC pa)] W fun e9 w'=>∃ A cp n col',e9=.returned (.slice A n cp)/\TaskM col' w' gt (tkE tkx pa (e+1)) X/\Cg (fun c=>(20<=c/\c < 100) \/ c=10) c W col' w':=by
 obtain rfl:e=0:=by omega
 refine (ttake_any (S:=tkx) hh pa h.1 h.2 hp).mono ?_;rintro e w' ⟨A,cp,col',rfl,_,ht,hc⟩;exact ⟨A,cp,_,col',rfl,ht,hc⟩
section
variable {col:Nat->Nat} {w:World} {g:Nat} {R:RigS} {Y:RX}
theorem tells_any (h:RigM col w g R Y) (l:List Pkt) (A:Option Addr) (c:Nat) (hl:CRd col 8 w 6 A l.length (pksC l)) (hlen:l.length<=1000) (hp:∀ p ∈ l,Cn p.ack) (hf:∀ F ∈ R.fs,F.o.ws.length<=1000000/\Cn F.o.last) (hds:∀ D ∈ R.ds,D.i.ls.length<=6/\Cn D.i.out) (htk:TkOk R.t) (hd2:∀ D ∈ R.ds.map (takeD l),0<=D.i.out/\D.i.out<=1000000000/\D.got.length<=100000 /\ ∀ s ∈ D.i.ls,s.size<=1000) :
  Calls Tryz.prog 49 #[.pointer (some ⟨g,0,none⟩),.slice A l.length c] w fun e w'=>∃ col',e=.returned (.tuple #[])/\RigM col' w' g (tellR R l) Y/\Cg XD col w col' w':=by
 have RM:=zh (by rw [map_ackF0,map_takeD0];exact h:RigM col w g { R with fs:=R.fs.map (ackF' (l.take 0)),ds:=R.ds.map (takeD (l.take 0)) } Y);have HDS:=zh hds;have HTO:=zh htk;have HD2:=zh hd2;have HDL:=zh h.dl;obtain ⟨nd,hnd⟩:=nm (R.ds.length);have HND:=zh hnd;have hnd60:nd<=60:=(by rw [hnd];exact h.few.2);have HP:=zh hp;have HF:=zh hf;have HFL:=zh h.fl;have HFW:=zh h.few.1;have RD:=zh hl;have CC:=zh (Cg.refl (fun c=>200<=c/\c < 1000) col w);obtain ⟨n,hn⟩:=nm (R.fs.length);have HN:=zh hn;have hn60:n<=60:=(by rw [hn];exact h.few.1);clear h hds htk hd2 hp hf hl hn hnd;go_enter Tryz.func49,Tryz.ntmps49;go_upto_region 1 with fail;go_loopg [5,21] l.length (fun q s5 s21 wr=>∃ j:Nat,j<=l.length/\q=l.length - j/\s21=.int .i64 j/\(s5=undef \/ ∃ a,s5=.pointer a)/\∃ colr,Hid (RigM colr wr g { R with fs:=R.fs.map (ackF' (l.take j)),ds:=R.ds.map (takeD (l.take j)) } Y)/\Hid (CRd colr 8 wr 6 A l.length (pksC l))/\Hid (Cg (fun c=>200<=c/\c < 1000) col w colr wr))
 case atStart=>exact ⟨0,Nat.zero_le _,rfl,rfl,.inl rfl,col,RM,RD,CC⟩
 case round =>
  clear RM RD CC;obtain ⟨j,hj,rfl,rfl,hs5,colr,RM,RD,CC⟩:=hrel
  by_cases hjn:j < l.length
  ·
   have hji:(j:Int) < (l.length:Int):=by omega
   have hj30:j<=1000:=(by omega);obtain ⟨a,ha⟩:∃ a,l[j]?=some a:=⟨_,List.getElem?_eq_getElem hjn⟩;obtain ⟨b3,off3,hA3,_,_,hcell⟩:=Reads.elem pkF_len RD.out.1 ha (by omega);have a0:=hcell 0 _ rfl;have a1:=hcell 1 _ rfl;have a2:=hcell 2 _ rfl;have a3:=hcell 3 _ rfl;have a4:=hcell 4 _ rfl;have a5:=hcell 5 _ rfl;simp only [Nat.add_zero] at a0 a1 a2 a3 a4 a5;have HAC:=zh (HP.out a (List.mem_of_getElem? ha));have HLA:=zh ha
   have HTK := zh (show ∀ F : Feed, ackF' (l.take (j + 1)) F = { F with o := ackO a (ackF' (l.take j) F).o } by
    intro F;unfold ackF';rw [List.take_add_one,ha]
    show _={ F with o:=ackO a (ackAll (l.take j) F.o) }
    rw [<- ackAll_snoc]
    rfl)
   have fa:=(Fr.refl wr.heap.size [] wr).alloc (Nat.le_refl _) (.cells (pkC a) 89);have ka:=(cg0 (col:=colr) fa).paint 0;have BX:=zh (⟨Blk.new wr _ _,paint_ge (Nat.le_refl _)⟩:CB (paint colr wr.heap.size 0) 0 (wr.alloc (.cells (pkC a) 89)) wr.heap.size 89 (pkC a));have RMa:=zh (RM.out.cg ka (fun _ _ h=>h));have RDa:=zh (RD.out.cg ka (fun h=>h));have CCa:=zh (CC.out.trans (ka.mono (C':=fun c=>200<=c/\c < 1000) (fun _ h=>h.elim)));generalize paint colr wr.heap.size 0=cola at *;rw [hA3];clear hcell ka fa RM RD CC;go_upto_region 3 with fail;obtain ⟨gx,hgx⟩:=nm (wr.heap.size);simp only [pkC] at BX RMa RDa CCa;rw [<- hgx] at BX ⊢;clear hgx;generalize wr.alloc _=wb at *;clear a0 a1 a2 a3 a4 a5;have r1:wb.cell? ⟨g,1,none⟩=some (.slice Y.fA n Y.fc):=(by rw [HN.out];have:=RMa.out.st.b.cell 1;simpa using this);go_upto_region 4 with fail;rw [<- feedsB_0] at RMa;go_loopg [30] n (fun q s30 wi=>∃ i:Nat,i<=n/\q=n - i/\s30=.int .i64 i/\∃ colr,Hid (RigM colr wi g { R with fs:=feedsB l R.fs j i,ds:=R.ds.map (takeD (l.take j)) } Y)/\Hid (CRd colr 8 wi 6 A l.length (pksC l))/\Hid (CB colr 0 wi gx 89 #[.int .i64 a.ch,.int .i64 a.bk,.int .i64 a.inc,.int .i64 a.seq,.int .i64 a.ack,.string a.ld])/\Hid (Cg (fun c=>200<=c/\c < 1000) col w colr wi))
   case atStart=>exact ⟨0,Nat.zero_le _,rfl,rfl,cola,RMa,RDa,BX,CCa⟩
   case round =>
    clear RMa RDa BX CCa r1;obtain ⟨i,hi,rfl,rfl,colr,RM,RD,BX,CC⟩:=hrel
    by_cases hin:i < n
    ·
     have hii:(i:Int) < (n:Int):=by omega
     obtain ⟨F,hF⟩:∃ F,R.fs[i]?=some F:=⟨_,List.getElem?_eq_getElem (by rw [<- HN.out];exact hin)⟩;obtain ⟨gk,hgk⟩:∃ gk,Y.gf[i]?=some gk:=⟨_,List.getElem?_eq_getElem (by rw [HFL.out,<- HN.out];exact hin)⟩;obtain ⟨b,off,hA,_,_,hcell⟩:=Reads.elem ptrF_len RM.out.fr.1 hgk (by omega);have x0:=hcell 0 _ rfl;simp only [Nat.add_zero,Nat.mul_one] at x0;obtain ⟨go2,lA2,lc2,e1,e2,e3⟩:=RM.out.fm i gk _ hgk (feedsB_at hF);have E1:=zh e1;have E2:=zh e2;have hff:=HF.out F (List.mem_of_getElem? hF)
     have HAK := zh (fun W (hfr : Fr wr.heap.size [] wr W) => (by
      have:=outAck_any (e3.fr0 hfr) a (Nat.le_trans (ackAll_few _ _).1 hff.1) HAC.out (by show Cn (ackAll (l.take j) F.o).last;rw [(ackAll_few (l.take j) F.o).2];exact hff.2);simp only [pkC] at this
      exact this:Calls Tryz.prog 48 #[.pointer (some ⟨go2,0,none⟩),.agg #[.int .i64 a.ch,.int .i64 a.bk,.int .i64 a.inc,.int .i64 a.seq,.int .i64 a.ack,.string a.ld]] W (AckOut colr (202+4 * i) go2 (ackF' (l.take j) F).o a W)))
     have HST:=zh (feedsB_step (l:=l) (j:=j) hF);have HGK:=zh hgk;have hi60:i<=60:=(by omega);rw [hA];clear e1 e2 e3 hcell hF hgk hff;go_upto_region 6 with fail;have RM:=zh (RM.out.fr0 (Fr.refl _ _ _).drew);have RD:=zh (RD.out.cg (C:=fun _=>False) ((Cg.refl _ _ _).drew) (fun h=>h));have BXC:=zh (BX.out.cg (cg0 (Fr.refl _ _ _).drew) (fun h=>h));have E1:=zh (E1.out.cg (cg0 (Fr.refl _ _ _).drew) (fun h=>h));have E2:=zh (E2.out.cg (cg0 (Fr.refl _ _ _).drew) (fun h=>h));have CC:=zh CC.out.drew;have HAK:=zh (HAK.out _ (Fr.refl _ _ _).drew);have SF:=zh (fun (W:World) (bx:Blk W gx 89 #[.int .i64 a.ch,.int .i64 a.bk,.int .i64 a.inc,.int .i64 a.seq,.int .i64 a.ack,.string a.ld]) (rg:W.cell? ⟨gk,0,none⟩=some (.pointer (some ⟨go2,0,none⟩)))=>(⟨rg,bx.cell 0,bx.cell 1,bx.cell 2,bx.cell 3,bx.cell 4,bx.cell 5⟩:W.cell? ⟨gk,0,none⟩=some (.pointer (some ⟨go2,0,none⟩))/\W.cell? ⟨gx,0,none⟩=some (.int .i64 a.ch)/\W.cell? ⟨gx,1,none⟩=some (.int .i64 a.bk)/\W.cell? ⟨gx,2,none⟩=some (.int .i64 a.inc)/\W.cell? ⟨gx,3,none⟩=some (.int .i64 a.seq)/\W.cell? ⟨gx,4,none⟩=some (.int .i64 a.ack)/\W.cell? ⟨gx,5,none⟩=some (.string a.ld)));have RG:=zh (E1.out.b.cell 0:wr.drew.cell? ⟨gk,0,none⟩=some (.pointer (some ⟨go2,0,none⟩)));refine wp_region_held_drew (S:=fun W=>W.cell? ⟨gk,0,none⟩=some (.pointer (some ⟨go2,0,none⟩))/\W.cell? ⟨gx,0,none⟩=some (.int .i64 a.ch)/\W.cell? ⟨gx,1,none⟩=some (.int .i64 a.bk)/\W.cell? ⟨gx,2,none⟩=some (.int .i64 a.inc)/\W.cell? ⟨gx,3,none⟩=some (.int .i64 a.seq)/\W.cell? ⟨gx,4,none⟩=some (.int .i64 a.ack)/\W.cell? ⟨gx,5,none⟩=some (.string a.ld)) (by kernel_rfl) (SF.out _ BXC.out.b RG.out) (fun hHeld => ?_);refine tk (i:=0) (oi:=⟨some 34,_,_,_,_,_⟩) (v:=?_) rfl ?_ hHeld ?_
     rotate_left
     · intro w hSw;(try dsimp only at hSw);go_simp;(try with_reducible rfl)
     simp only [Act.put,lPt];refine tk (i:=1) (oi:=⟨some 35,_,_,_,_,_⟩) (v:=?_) rfl ?_ hHeld ?_
     rotate_left
     · intro w hSw;(try dsimp only at hSw);go_simp;(try with_reducible rfl)
     simp only [Act.put,lPt];refine tk (i:=2) (oi:=⟨some 36,_,_,_,_,_⟩) (v:=?_) rfl ?_ hHeld ?_
     rotate_left
     · intro w hSw;(try dsimp only at hSw);go_simp;(try with_reducible rfl)
     simp only [Act.put,lPt];refine tk (i:=3) (oi:=⟨some 37,_,_,_,_,_⟩) (v:=?_) rfl ?_ hHeld ?_
     rotate_left
     · intro w hSw;(try dsimp only at hSw);go_simp;(try with_reducible rfl)
     simp only [Act.put,lPt];refine tk (i:=4) (oi:=⟨some 38,_,_,_,_,_⟩) (v:=?_) rfl ?_ hHeld ?_
     rotate_left
     · intro w hSw;(try dsimp only at hSw);go_simp;(try with_reducible rfl)
     simp only [Act.put,lPt];refine wpAnyH_ready (rs:=[5]) (by kernel_rfl) (by simp) ?_;refine AllReadyH.cons (o:=⟨some 39,_,_,_,_,_⟩) rfl (fun K hK => ?_) AllReadyH.nil;rw [if_pos (by rfl)];go_simp;refine HAK.out.mono ?_;rintro e w6 ⟨col6,rfl,hom6,hc6⟩;have EE:=zh (E1.out.cg hc6 (by omega));have hm6:=RM.out.setF (F':=ackF' (l.take (j+1)) F) hc6 (fun c hc=>by have hc2:c=202+4 * i:=hc;omega) HGK.out ⟨go2,lA2,lc2,EE.out,E2.out.cg hc6 (by omega),by rw [HTK.out];exact hom6⟩;have RM6:=zh (by have:=hm6;simp only [HST.out] at this;exact this:RigM col6 w6 g { R with fs:=feedsB l R.fs j (i+1),ds:=R.ds.map (takeD (l.take j)) } Y);have BXC:=zh (BXC.out.cg hc6 (by omega));have CC:=zh (CC.out.trans (hc6.mono (C':=fun c=>200<=c/\c < 1000) (fun c hc=>by have hc2:c=202+4 * i:=hc;omega)));have RD6:=zh (RD.out.cg hc6 (by omega));have RG:=zh (EE.out.b.cell 0:w6.cell? ⟨gk,0,none⟩=some (.pointer (some ⟨go2,0,none⟩)));clear hom6 hc6 hm6;refine hK.out _ _ (SF.out _ BXC.out.b RG.out) (fun hHeld => ?_);clear hK K
     try simp only [Act.put,lPt]
     refine wpAnyH_done (by kernel_rfl) ?_ _
     skip
     clear RM SF RG hHeld HAK E1 E2 EE RD;go_wp2_with fail;rw [<- hA];go_roundg (n - (i+1))
     case measure=>omega
     case rel=>exact ⟨i+1,hin,rfl,by go_num,col6,RM6,RD6,BXC,CC⟩
    ·
     obtain rfl:i=n:=by omega
     have RMd:=zh (by have h9:=RM.out;rw [HN.out,feedsB_n,<- drainsB_0] at h9;exact h9:RigM colr wr g { R with fs:=R.fs.map (ackF' (l.take (j+1))),ds:=drainsB l R.ds j 0 } Y)
     have r2:wr.cell? ⟨g,2,none⟩=some (.slice Y.dA nd Y.dc):=by
      have:=RMd.out.st.b.cell 2;rw [HND.out];simpa [drainsB] using this
     clear RM;go_upto_region 9 with fail;go_loopg [46] nd (fun q s46 wi=>∃ i2:Nat,i2<=nd/\q=nd - i2/\s46=.int .i64 i2/\∃ colr,Hid (RigM colr wi g { R with fs:=R.fs.map (ackF' (l.take (j+1))),ds:=drainsB l R.ds j i2 } Y)/\Hid (CRd colr 8 wi 6 A l.length (pksC l))/\Hid (CB colr 0 wi gx 89 #[.int .i64 a.ch,.int .i64 a.bk,.int .i64 a.inc,.int .i64 a.seq,.int .i64 a.ack,.string a.ld])/\Hid (Cg (fun c=>200<=c/\c < 1000) col w colr wi))
     case atStart=>exact ⟨0,Nat.zero_le _,rfl,rfl,colr,RMd,RD,BX,CC⟩
     case round =>
      clear RMd RD BX CC r2;obtain ⟨i2,hi2,rfl,rfl,colr,RM,RD,BX,CC⟩:=hrel
      by_cases hind:i2 < nd
      ·
       have hii:(i2:Int) < (nd:Int):=by omega
       obtain ⟨D,hD⟩:∃ D,R.ds[i2]?=some D:=⟨_,List.getElem?_eq_getElem (by rw [<- HND.out];exact hind)⟩;obtain ⟨gk,hgk⟩:∃ gk,Y.gd[i2]?=some gk:=⟨_,List.getElem?_eq_getElem (by rw [HDL.out,<- HND.out];exact hind)⟩;obtain ⟨b,off,hA,_,_,hcell⟩:=Reads.elem ptrF_len RM.out.dr.1 hgk (by omega);have x0:=hcell 0 _ rfl;simp only [Nat.add_zero,Nat.mul_one] at x0;obtain ⟨go2,lA2,lc2,e1,e2,e3⟩:=RM.out.dm i2 gk _ hgk (drainsB_at hD);have E1:=zh e1;have E2:=zh e2;have hdd:=HDS.out D (List.mem_of_getElem? hD);have htf:=takeAll_few (l.take j) D.i hdd.1
       have HAK := zh (fun W (hfr : Fr wr.heap.size [] wr W) => (by
        have:=take_any (e3.fr0 hfr) a htf.1 (by show Cn (takeAll (l.take j) D.i).out;rw [htf.2];exact hdd.2);simp only [pkC] at this
        exact this:Calls Tryz.prog 71 #[.pointer (some ⟨go2,0,none⟩),.agg #[.int .i64 a.ch,.int .i64 a.bk,.int .i64 a.inc,.int .i64 a.seq,.int .i64 a.ack,.string a.ld]] W (TakeOut colr (502+4 * i2) go2 (takeD (l.take j) D).i a W)))
       have HST:=zh (drainsB_step (l:=l) (j:=j) hD)
       have HTD := zh (show (takeD (l.take (j + 1)) D).i = (takeI a (takeD (l.take j) D).i).1 by
        unfold takeD;rw [List.take_add_one,HLA.out]
        exact takeAll_snoc _ _ _)
       have HGK:=zh hgk;have hi60:i2<=60:=(by omega);rw [hA];clear e1 e2 e3 hcell hD hgk hdd htf;go_upto_region 11 with fail;have RM:=zh (RM.out.fr0 (Fr.refl _ _ _).drew);have RD:=zh (RD.out.cg (C:=fun _=>False) ((Cg.refl _ _ _).drew) (fun h=>h));have BXC:=zh (BX.out.cg (cg0 (Fr.refl _ _ _).drew) (fun h=>h));have E1:=zh (E1.out.cg (cg0 (Fr.refl _ _ _).drew) (fun h=>h));have E2:=zh (E2.out.cg (cg0 (Fr.refl _ _ _).drew) (fun h=>h));have CC:=zh CC.out.drew;have HAK:=zh (HAK.out _ (Fr.refl _ _ _).drew);have SF:=zh (fun (W:World) (bx:Blk W gx 89 #[.int .i64 a.ch,.int .i64 a.bk,.int .i64 a.inc,.int .i64 a.seq,.int .i64 a.ack,.string a.ld]) (rg:W.cell? ⟨gk,0,none⟩=some (.pointer (some ⟨go2,0,none⟩)))=>(⟨rg,bx.cell 0,bx.cell 1,bx.cell 2,bx.cell 3,bx.cell 4,bx.cell 5⟩:W.cell? ⟨gk,0,none⟩=some (.pointer (some ⟨go2,0,none⟩))/\W.cell? ⟨gx,0,none⟩=some (.int .i64 a.ch)/\W.cell? ⟨gx,1,none⟩=some (.int .i64 a.bk)/\W.cell? ⟨gx,2,none⟩=some (.int .i64 a.inc)/\W.cell? ⟨gx,3,none⟩=some (.int .i64 a.seq)/\W.cell? ⟨gx,4,none⟩=some (.int .i64 a.ack)/\W.cell? ⟨gx,5,none⟩=some (.string a.ld)));have RG:=zh (E1.out.b.cell 0:wr.drew.cell? ⟨gk,0,none⟩=some (.pointer (some ⟨go2,0,none⟩)));refine wp_region_held_drew (S:=fun W=>W.cell? ⟨gk,0,none⟩=some (.pointer (some ⟨go2,0,none⟩))/\W.cell? ⟨gx,0,none⟩=some (.int .i64 a.ch)/\W.cell? ⟨gx,1,none⟩=some (.int .i64 a.bk)/\W.cell? ⟨gx,2,none⟩=some (.int .i64 a.inc)/\W.cell? ⟨gx,3,none⟩=some (.int .i64 a.seq)/\W.cell? ⟨gx,4,none⟩=some (.int .i64 a.ack)/\W.cell? ⟨gx,5,none⟩=some (.string a.ld)) (by kernel_rfl) (SF.out _ BXC.out.b RG.out) (fun hHeld => ?_);refine tk (i:=0) (oi:=⟨some 50,_,_,_,_,_⟩) (v:=?_) rfl ?_ hHeld ?_
       rotate_left
       · intro w hSw;(try dsimp only at hSw);go_simp;(try with_reducible rfl)
       simp only [Act.put,lPt];refine tk (i:=1) (oi:=⟨some 51,_,_,_,_,_⟩) (v:=?_) rfl ?_ hHeld ?_
       rotate_left
       · intro w hSw;(try dsimp only at hSw);go_simp;(try with_reducible rfl)
       simp only [Act.put,lPt];refine tk (i:=2) (oi:=⟨some 52,_,_,_,_,_⟩) (v:=?_) rfl ?_ hHeld ?_
       rotate_left
       · intro w hSw;(try dsimp only at hSw);go_simp;(try with_reducible rfl)
       simp only [Act.put,lPt];refine tk (i:=3) (oi:=⟨some 53,_,_,_,_,_⟩) (v:=?_) rfl ?_ hHeld ?_
       rotate_left
       · intro w hSw;(try dsimp only at hSw);go_simp;(try with_reducible rfl)
       simp only [Act.put,lPt];refine tk (i:=4) (oi:=⟨some 54,_,_,_,_,_⟩) (v:=?_) rfl ?_ hHeld ?_
       rotate_left
       · intro w hSw;(try dsimp only at hSw);go_simp;(try with_reducible rfl)
       simp only [Act.put,lPt];refine wpAnyH_ready (rs:=[5]) (by kernel_rfl) (by simp) ?_;refine AllReadyH.cons (o:=⟨some 55,_,_,_,_,_⟩) rfl (fun K hK => ?_) AllReadyH.nil;rw [if_pos (by rfl)];go_simp;refine HAK.out.mono ?_;rintro e w6 ⟨Aq,cq,col6,rfl,_,hom6,hc6⟩;have EE:=zh (E1.out.cg hc6 (by omega));have hm6:=RM.out.setD (D':=takeD (l.take (j+1)) D) hc6 (fun c hc=>by have hc2:c=502+4 * i2:=hc;omega) HGK.out ⟨go2,lA2,lc2,EE.out,E2.out.cg hc6 (by omega),by rw [HTD.out];exact hom6⟩;have RM6:=zh (by have:=hm6;simp only [HST.out] at this;exact this:RigM col6 w6 g { R with fs:=R.fs.map (ackF' (l.take (j+1))),ds:=drainsB l R.ds j (i2+1) } Y);have BXC:=zh (BXC.out.cg hc6 (by omega));have CC:=zh (CC.out.trans (hc6.mono (C':=fun c=>200<=c/\c < 1000) (fun c hc=>by have hc2:c=502+4 * i2:=hc;omega)));have RD6:=zh (RD.out.cg hc6 (by omega));have RG:=zh (EE.out.b.cell 0:w6.cell? ⟨gk,0,none⟩=some (.pointer (some ⟨go2,0,none⟩)));clear hom6 hc6 hm6;refine hK.out _ _ (SF.out _ BXC.out.b RG.out) (fun hHeld => ?_);clear hK K
       try simp only [Act.put,lPt]
       refine wpAnyH_done (by kernel_rfl) ?_ _
       skip
       clear RM SF RG hHeld HAK E1 E2 EE RD;go_wp2_with fail;rw [<- hA];go_roundg (nd - (i2+1))
       case measure=>omega
       case rel=>exact ⟨i2+1,hind,rfl,by go_num,col6,RM6,RD6,BXC,CC⟩
      ·
       obtain rfl:i2=nd:=by omega
       go_wp2_with fail;rw [<- hA3];go_roundg (l.length - (j+1))
       case measure=>omega
       case rel=>exact ⟨j+1,hjn,rfl,by go_num,.inr ⟨_,rfl⟩,colr,zh (by have h9:=RM.out;rw [HND.out,drainsB_n] at h9;exact h9),RD,CC⟩
  ·
   obtain rfl:j=l.length:=by omega
   obtain ⟨DS,hDS⟩:=nm (R.ds.map (takeD l));obtain ⟨FS,hFS⟩:=nm (R.fs.map (ackF' l));have RMp:=zh (by have h9:=RM.out;rw [List.take_length,<- hDS,<- hFS] at h9;exact h9:RigM colr wr g { R with t:=(popK 0 R.t DS).1,fs:=FS,ds:=(popK 0 R.t DS).2 } Y);have HDSL:=zh (show DS.length=nd by rw [hDS,List.length_map,HND.out])
   have HDK := zh (show ∀ D ∈ DS, (D.i.ls.length <= 6 /\ Cn D.i.out) /\ 0 <= D.i.out /\ D.i.out <= 1000000000 /\ D.got.length <= 100000 /\ ∀ s ∈ D.i.ls, s.size <= 1000 by
    intro D hD;refine ⟨?_,HD2.out D (by rw [<- hDS];exact hD)⟩;rw [hDS] at hD;obtain ⟨D',hD',rfl⟩:=List.mem_map.1 hD;have h1:=HDS.out D' hD';have h2:=takeAll_few l D'.i h1.1
    exact ⟨h2.1,by show Cn (takeAll l D'.i).out;rw [h2.2];exact h1.2⟩)
   have HDS0:=zh hDS;have HFS0:=zh hFS;have CCp:=zh (CC.out.mono (C':=XD) (fun c hc=>.inl (.inr (.inr (.inr ⟨hc.1,hc.2⟩)))))
   have r2:wr.cell? ⟨g,2,none⟩=some (.slice Y.dA nd Y.dc):=by
    have:=RMp.out.st.b.cell 2;rw [<- HDSL.out];simpa [popK] using this
   clear RM RD CC hDS hFS HDS HF HP;go_upto_region 15 with fail;go_loopg [12,13,14,15,16,18,63] nd (fun q s12 s13 s14 s15 s16 s18 s63 wd=>∃ i:Nat,i<=nd/\q=nd - i/\s63=.int .i64 i/\(s15=undef \/ ∃ a,s15=.pointer a)/\(s18=undef \/ ∃ a,s18=.pointer a)/\∃ cold,Hid (RigM cold wd g { R with t:=(popK i R.t DS).1,fs:=FS,ds:=(popK i R.t DS).2 } Y)/\Hid (Cg XD col w cold wd))
   case atStart=>exact ⟨0,Nat.zero_le _,rfl,rfl,.inl rfl,.inl rfl,colr,RMp,CCp⟩
   case round =>
    clear RMp CCp r2;obtain ⟨i,hi,rfl,rfl,hs15,hs18,cold,RM,CC⟩:=hrel
    by_cases hin:i < nd
    ·
     have hii:(i:Int) < (nd:Int):=by omega
     obtain ⟨D,hD⟩:∃ D,DS[i]?=some D:=⟨_,List.getElem?_eq_getElem (by rw [HDSL.out];exact hin)⟩;have hpk:=popK_ok R.t DS HTO.out i;have hD2:(popK i R.t DS).2[i]?=some D:=(hpk.2.2 i (Nat.le_refl _)).trans hD;obtain ⟨gk,hgk⟩:∃ gk,Y.gd[i]?=some gk:=⟨_,List.getElem?_eq_getElem (by rw [HDL.out,<- HND.out];exact hin)⟩;have HNX:=zh (popK_next HTO.out hD);have HDD:=zh (HDK.out D (List.mem_of_getElem? hD));obtain ⟨⟨t0,d0⟩,hx0⟩:∃ x,x=popK i R.t DS:=⟨_,rfl⟩;rw [<- hx0] at RM hpk hD2 HNX;simp only at RM hpk hD2 HNX;have HT0:=zh hpk.1;have HD0L:=zh (show d0.length=nd by rw [hpk.2.1,HDSL.out]);obtain ⟨n9,hn9⟩:=nm (D.i.ls.length);have hn96:n9<=6:=(by rw [hn9];exact HDD.out.1.1);have HN9:=zh hn9;obtain ⟨b,off,hA,_,_,hcell⟩:=Reads.elem ptrF_len RM.out.dr.1 hgk (by omega);have x0:=hcell 0 _ rfl;simp only [Nat.add_zero,Nat.mul_one] at x0;have RM1:=zh (by have h9:=RM.out;rw [<- set_same hD2] at h9;exact h9:RigM cold wr g { R with t:=(popN 0 (t0,D)).1,fs:=FS,ds:=d0.set i (popN 0 (t0,D)).2 } Y);have HGK:=zh hgk;have HDI:=zh hD2;have hi60:i<=60:=(by omega);rw [hA];clear hcell hpk hD hD2 hgk hx0 hn9 RM;go_upto_region 17 with fail;clear x0;go_loopg [12,13,14,15,16,18] n9 (fun q s12 s13 s14 s15 s16 s18 wx=>∃ k:Nat,k<=n9/\q=n9 - k/\(s15=undef \/ ∃ a,s15=.pointer a)/\(s18=undef \/ ∃ a,s18=.pointer a)/\∃ colx,Hid (RigM colx wx g { R with t:=(popN k (t0,D)).1,fs:=FS,ds:=d0.set i (popN k (t0,D)).2 } Y)/\Hid (Cg XD col w colx wx))
     case atStart=>exact ⟨0,Nat.zero_le _,rfl,hs15,hs18,cold,RM1,CC⟩
     case round =>
      clear RM1 CC;obtain ⟨k,hk,rfl,hs15,hs18,colx,RM,CC⟩:=hrel;obtain ⟨pl1,pl2,pl3,_,_,_,_⟩:=popN_ls k (t0,D) (by rw [<- HN9.out];exact hk);obtain ⟨⟨tkx,Dk⟩,hxk⟩:∃ x,x=popN k (t0,D):=⟨_,rfl⟩;have HXK:=zh hxk;rw [<- hxk] at RM pl1 pl2 pl3;simp only at RM pl1 pl2 pl3;have hDk:(d0.set i Dk)[i]?=some Dk:=List.getElem?_set_self (by rw [HD0L.out];exact hin);obtain ⟨gi,lA,lc,hf1,hf2,hf3⟩:=RM.out.dm i gk Dk HGK.out hDk;have fl0:=hf1.b.cell 0;simp at fl0;have HLN:=zh (len_any hf3);have hlk:Dk.i.ls.length=n9 - k:=(by rw [pl1,List.length_drop,<- HN9.out]);rw [hlk] at HLN
      by_cases hkn:k < n9
      ·
       have hpos:(0:Int) < ((n9 - k:Nat):Int):=by omega
       obtain ⟨s,hs0⟩:∃ s,Dk.i.ls[0]?=some s:=⟨_,List.getElem?_eq_getElem (by omega)⟩
       have hsm:s ∈ D.i.ls:=by
        have h9:=List.mem_of_getElem? hs0;rw [pl1] at h9;exact List.mem_of_mem_drop h9
       have hsz:=HDD.out.2.2.2.2 s hsm;have hout:=HDD.out.2;have HPP:=zh (inPop_any hf3 hs0 (by omega) (by rw [pl2];exact ⟨by omega,by omega⟩));have HGT:=zh (fun W=>aget_any s W hsz)
       have HP1 := zh (show popN (k + 1) (t0, D) = (tkx.take (ackP (popI Dk.i)), { Dk with i := popI Dk.i, got := Dk.got ++ [itemOf s] }) by
        rw [popN_snoc,<- hxk];unfold pop1
        cases hc:Dk.i.ls with
        | nil=>rw [hc] at hs0;cases hs0
        | cons u r =>
         rw [hc] at hs0;simp at hs0;subst hs0
         rfl)
       have HTK:=zh (show TkOk tkx by have h9:=popN_ok k (x:=(t0,D)) HT0.out;rw [<- hxk] at h9;exact h9);have HGOT:=zh (show Dk.got.length<=200000 by have:=hout.2.2.1;omega);have HACK:=zh (show Cn (ackP (popI Dk.i)).ack by show Cn (Dk.i.out+1);rw [pl2];exact ⟨by omega,by omega⟩);have H1:=zh hf1;have H2:=zh hf2;clear pl1 pl2 pl3 hxk hf1 hf2 hf3 hlk hsm hsz hout hs0 hDk;go_wp2_with fail;refine HLN.out.mono ?_;rintro e w9 ⟨rfl,rfl⟩;go_wp2_with fail;refine HPP.out.mono ?_;rintro e w4 ⟨A4,c4,col4,rfl,hrd4,him4,hc4⟩;have hm4:=RM.out.setD (D':={ Dk with i:=popI Dk.i }) hc4 (fun c hc=>by have hc2:c=502+4 * i:=hc;omega) HGK.out ⟨gi,lA,lc,H1.out.cg hc4 (by omega),H2.out.cg hc4 (by omega),him4⟩;have RM4:=zh (by have h9:=hm4;simp only [List.set_set] at h9;exact h9:RigM col4 w4 g { R with t:=tkx,fs:=FS,ds:=d0.set i { Dk with i:=popI Dk.i } } Y);have RD4:=zh hrd4;have CC4:=zh (CC.out.trans (hc4.mono (C':=XD) (fun c hc=>by have hc2:c=502+4 * i:=hc;exact .inl (.inr (.inr (.inr (by omega)))))));clear hrd4 him4 hc4 hm4 RM CC HPP HLN H1 H2 fl0;go_wp2_with fail;refine (HGT.out _).mono ?_;rintro e w5 ⟨rfl,f5⟩;obtain ⟨⟨ib,ik,ire,iim,iep,ip⟩,hit⟩:∃ it,it=getI s:=⟨_,rfl⟩;have HIT:=zh hit;rw [<- hit];obtain ⟨er,her⟩:=nm (if goodI s=true then 0 else 4:Int);have HER:=zh her;rw [<- her];have fa:=f5.alloc f5.size (.cells #[.bool ib,.int .i64 ik,.int .i64 ire,.int .i64 iim,.int .i64 iep,.bool ip] 46);have ka:=(cg0 (col:=col4) fa).paint 3500;have BX:=zh (⟨Blk.new w5 _ _,paint_ge f5.size⟩:CB (paint col4 w4.heap.size 3500) 3500 (w5.alloc (.cells #[.bool ib,.int .i64 ik,.int .i64 ire,.int .i64 iim,.int .i64 iep,.bool ip] 46)) w5.heap.size 46 #[.bool ib,.int .i64 ik,.int .i64 ire,.int .i64 iim,.int .i64 iep,.bool ip]);have RM5:=zh (RM4.out.cg ka (fun _ _ h=>h));have RD5:=zh (RD4.out.cg ka (fun h=>h));have CC5:=zh (CC4.out.trans (ka.mono (fun _ h=>h.elim)));generalize paint col4 w4.heap.size 3500=col5 at *;obtain ⟨gx,hgx⟩:=nm (w5.heap.size);clear fa ka f5 hit her RM4 RD4 CC4 HGT;go_upto_region 20 with fail;rw [<- hgx] at BX ⊢;clear hgx;generalize w5.alloc _=w6 at *;have hgd:goodI s=true \/ goodI s=false:=Bool.eq_false_or_eq_true _
       rcases hgd with hg | hg
       case' inl =>
        have BY:=zh (by rw [show itemOf s=⟨ib,ik,ire,iim,iep,ip⟩ by unfold itemOf;rw [if_pos hg,<- HIT.out]];exact BX.out:CB col5 3500 w6 gx 46 (itemOf s).cs);obtain rfl:er=0:=by rw [HER.out,if_pos hg]
        have RM6:=RM5;have RD6:=RD5;have CC6:=CC5;clear hg BX RM5 RD5 CC5 HIT HER;go_upto_region 22 with fail;generalize w6=w7 at *
       case' inr =>
        obtain rfl:er=4:=by rw [HER.out,if_neg (by rw [hg];simp)]
        have x0:=BX.out.b.cell 0;have x1:=BX.out.b.cell 1;have x2:=BX.out.b.cell 2;have x3:=BX.out.b.cell 3;have x4:=BX.out.b.cell 4;have x5:=BX.out.b.cell 5;simp at x0 x1 x2 x3 x4 x5;have z0:=BX.out.b.frozen 0;have z1:=BX.out.b.frozen 1;have z2:=BX.out.b.frozen 2;have z3:=BX.out.b.frozen 3;have z4:=BX.out.b.frozen 4;have z5:=BX.out.b.frozen 5;have k6:Cg (· = 3500) col5 w6 col5 (set6 w6 gx (.bool false) (.int .i64 0) (.int .i64 0) (.int .i64 0) (.int .i64 (-1)) (.bool false)):=Cg.of_fr (fr_set6 (L:=[gx]) (Fr.refl w6.heap.size [gx] w6) (.inr (by simp)) _ _ _ _ _ _) (by intro q hq;simp at hq;subst hq;exact BX.out.k);have BY:=zh (by rw [show itemOf s=⟨false,0,0,0,-1,false⟩ by unfold itemOf;rw [if_neg (by rw [hg];simp)]];exact ⟨blk_set6 BX.out.b (.bool false) (.int .i64 0) (.int .i64 0) (.int .i64 0) (.int .i64 (-1)) (.bool false),BX.out.k⟩:CB col5 3500 (set6 w6 gx (.bool false) (.int .i64 0) (.int .i64 0) (.int .i64 0) (.int .i64 (-1)) (.bool false)) gx 46 (itemOf s).cs);have RM6:=zh (RM5.out.cg k6 (fun c hc h=>by subst h;unfold RC TC at hc;omega));have RD6:=zh (RD5.out.cg k6 (by omega));have CC6:=zh (CC5.out.trans (k6.mono (C':=XD) (fun c hc=>.inr (.inr hc))));go_upto_region 22 with fail;clear hg BX RM5 RD5 CC5 HIT HER k6 x0 x1 x2 x3 x4 x5 z0 z1 z2 z3 z4 z5;unfold set6 at *;generalize World.setCell _ _ _=w7 at *
       all_goals
        obtain ⟨Dp,hDp⟩:=nm ({ Dk with i:=popI Dk.i }:Drain);rw [<- hDp] at RM6;have HDP:=zh hDp;have hDk:(d0.set i Dp)[i]?=some Dp:=List.getElem?_set_self (by rw [HD0L.out];exact hin);obtain ⟨gi2,lA2,lc2,e1,e2,e3⟩:=RM6.out.dm i gk Dp HGK.out hDk;obtain ⟨⟨jb,jk,jre,jim,jep,jp⟩,hj⟩:∃ it,it=itemOf s:=⟨_,rfl⟩;rw [<- hj] at BY HP1;obtain ⟨ng,hng⟩:=nm (Dp.got.length);have hng2:ng<=200000:=(by rw [hng,hDp];exact HGOT.out);rw [<- hng] at e1 e2;have HNG:=zh hng;have HJ:=zh hj
        have SF := zh (fun W col' (hc : Cg (fun q => q = 501 + 4 * i \/ q = 500 + 4 * i) col5 w7 col' W) => (by
         have b:=(BY.out.cg hc (by omega)).b
         exact ⟨b.cell 0,b.cell 1,b.cell 2,b.cell 3,b.cell 4,b.cell 5⟩:W.cell? ⟨gx,0,none⟩=some (.bool jb)/\W.cell? ⟨gx,1,none⟩=some (.int .i64 jk)/\W.cell? ⟨gx,2,none⟩=some (.int .i64 jre)/\W.cell? ⟨gx,3,none⟩=some (.int .i64 jim)/\W.cell? ⟨gx,4,none⟩=some (.int .i64 jep)/\W.cell? ⟨gx,5,none⟩=some (.bool jp)))
        have SZ:=zh (fun W col' (hc:Cg (· = 501+4 * i) col5 w7 col' W)=>(⟨(e1.cg hc (by omega)).b.cell 3,(e1.cg hc (by omega)).b.frozen 3,(e1.cg hc (by omega)).b.lt,(e1.cg hc (by omega)).k⟩:W.cell? ⟨gk,3,none⟩=some (.slice lA2 ng lc2)/\W.frozen? ⟨gk,3,none⟩=false/\gk < W.heap.size/\col' gk=500+4 * i));have E1:=zh e1;have E3:=zh e3;have INV:=zh (cgf (col:=col5) (· = 501+4 * i) (Fr.refl w7.heap.size [] w7).drew);have LR:=zh e2.drew;have z2:=(SZ.out _ _ INV.out).1;clear e1 e2 e3 hDk hng hj hDp BY;refine wp_region_held_drew (S:=fun W=>W.cell? ⟨gx,0,none⟩=some (.bool jb)/\W.cell? ⟨gx,1,none⟩=some (.int .i64 jk)/\W.cell? ⟨gx,2,none⟩=some (.int .i64 jre)/\W.cell? ⟨gx,3,none⟩=some (.int .i64 jim)/\W.cell? ⟨gx,4,none⟩=some (.int .i64 jep)/\W.cell? ⟨gx,5,none⟩=some (.bool jp)) (by kernel_rfl) (SF.out _ _ (INV.out.mono (fun q h=>.inl h))) (fun hHeld => ?_);refine tk (i:=0) (oi:=⟨some 90,_,_,_,_,_⟩) (v:=?_) rfl ?_ hHeld ?_
        rotate_left
        · intro w hSw;(try dsimp only at hSw);go_simp;(try with_reducible rfl)
        simp only [Act.put,lPt];refine tk (i:=1) (oi:=⟨some 91,_,_,_,_,_⟩) (v:=?_) rfl ?_ hHeld ?_
        rotate_left
        · intro w hSw;(try dsimp only at hSw);go_simp;(try with_reducible rfl)
        simp only [Act.put,lPt];refine tk (i:=2) (oi:=⟨some 92,_,_,_,_,_⟩) (v:=?_) rfl ?_ hHeld ?_
        rotate_left
        · intro w hSw;(try dsimp only at hSw);go_simp;(try with_reducible rfl)
        simp only [Act.put,lPt];refine tk (i:=3) (oi:=⟨some 93,_,_,_,_,_⟩) (v:=?_) rfl ?_ hHeld ?_
        rotate_left
        · intro w hSw;(try dsimp only at hSw);go_simp;(try with_reducible rfl)
        simp only [Act.put,lPt];refine tk (i:=5) (oi:=⟨some 95,_,_,_,_,_⟩) (v:=?_) rfl ?_ hHeld ?_
        rotate_left
        · intro w hSw;(try dsimp only at hSw);go_simp;(try with_reducible rfl)
        simp only [Act.put,lPt];refine wpAnyH_ready (rs:=[4,6]) (by kernel_rfl) (by simp) ?_;refine AllReadyH.cons (o:=⟨some 94,_,_,_,_,_⟩) rfl (fun K hK => ?_) (AllReadyH.cons (o:=⟨some 96,_,_,_,_,_⟩) rfl (fun K hK => ?_) AllReadyH.nil)
        ·
         skip
         rw [if_pos (by rfl)];go_simp;refine hK.out _ _ (SF.out _ _ (INV.out.mono (fun q h=>.inl h))) (fun hHeld => ?_);clear hK K
         try simp only [Act.put,lPt]
         refine wpAnyH_ready (rs:=[6]) (by kernel_rfl) (by simp) ?_;refine AllReadyH.cons (o:=⟨some 96,_,_,_,_,_⟩) rfl (fun K hK => ?_) AllReadyH.nil;rw [if_pos (by rfl)];go_simp;have BS:=zh (Blk.new w7.drew 46 #[.bool jb,.int .i64 jk,.int .i64 jre,.int .i64 jim,.int .i64 jep,.bool jp]);have fa:=(Fr.refl w7.drew.heap.size [] w7.drew).alloc (Nat.le_refl _) (.cells #[.bool jb,.int .i64 jk,.int .i64 jre,.int .i64 jim,.int .i64 jep,.bool jp] 46);have LR:=zh (LR.out.cg (cg0 fa) (fun h=>h));have INV:=zh (INV.out.trans (cgf _ fa));have z2:(w7.alloc (.cells #[.bool jb,.int .i64 jk,.int .i64 jre,.int .i64 jim,.int .i64 jep,.bool jp] 46)).cell? ⟨gk,3,none⟩=some (.slice lA2 ng lc2):=(SZ.out _ _ INV.out).1;clear fa;refine hK.out _ _ (SF.out _ _ (INV.out.mono (fun q h=>.inl h))) (fun hHeld => ?_);clear hK K
         try simp only [Act.put,lPt]
         refine wpAnyH_ready (rs:=[7]) (by kernel_rfl) (by simp) ?_;refine AllReadyH.cons (o:=⟨some 97,_,_,_,_,_⟩) rfl (fun K hK => ?_) AllReadyH.nil;refine step_appC _ (by rfl) (.tmp 94) (.tmp 96) itemTyD (by rfl) _ ng _ (by rfl) LR.out (w7.drew.heap.size+1) (some ⟨w7.drew.heap.size,0,none⟩) 1 1 (itF ⟨jb,jk,jre,jim,jep,jp⟩) (by rfl) (Reads.of_blk (m:=1) (size:=6) BS.out rfl) (by have:=itmsC_one [(⟨jb,jk,jre,jim,jep,jp⟩:Itm)];simpa [itmsC] using this) (by omega) (by omega) ?_;intro A2 c2 w8 hrow hap hgr;have INV:=zh (INV.out.trans hap);have LR:=zh hrow;obtain ⟨z2,zf,zl,zk⟩:=SZ.out _ _ INV.out;clear hrow hap hgr BS;generalize paint col5 _ _=col8 at *;refine hK.out _ _ (SF.out _ _ (INV.out.mono (fun q h=>.inl h))) (fun hHeld => ?_);clear hK K
         try simp only [Act.put,lPt]
         refine tk (i:=8) (oi:=⟨some 98,_,_,_,_,_⟩) (v:=?_) rfl ?_ hHeld ?_
         rotate_left
         · intro w hSw;(try dsimp only at hSw);go_simp;(try with_reducible rfl)
         simp only [Act.put,lPt];refine tk (i:=9) (oi:=⟨some 99,_,_,_,_,_⟩) (v:=?_) rfl ?_ hHeld ?_
         rotate_left
         · intro w hSw;(try dsimp only at hSw);go_simp;(try with_reducible rfl)
         simp only [Act.put,lPt];refine wpAnyH_ready (rs:=[10]) (by kernel_rfl) (by simp) ?_;refine AllReadyH.cons (o:=⟨none,_,_,_,_,_⟩) rfl (fun K hK => ?_) AllReadyH.nil;rw [if_pos (by rfl)];go_simp;refine hK.out _ _ (SF.out _ _ ((INV.out.mono (fun q h=>.inl h)).set (.inr zk) _)) (fun hHeld => ?_);clear hK K
         try simp only [Act.put]
         refine wpAnyH_done (by kernel_rfl) ?_ _;have K9:Cg (fun q=>q=501+4 * i \/ q=500+4 * i) col5 w7 col8 (w8.setCell ⟨gk,3,none⟩ (.slice A2 (ng+1) c2)):=(INV.out.mono (fun q h=>.inl h)).set (.inr zk) _;have k1:Cg (· = 500+4 * i) col8 w8 col8 (w8.setCell ⟨gk,3,none⟩ (.slice A2 (ng+1) c2)):=(Cg.refl _ _ _).set zk _;obtain ⟨Dq,hDq⟩:=nm ({ Dp with got:=Dp.got ++ [⟨jb,jk,jre,jim,jep,jp⟩] }:Drain);have hgl:Dq.got.length=ng+1:=(by rw [hDq];show (Dp.got ++ [_]).length=_;rw [List.length_append,<- HNG.out];rfl);have hgc:itmsC Dq.got=itmsC Dp.got ++ itF ⟨jb,jk,jre,jim,jep,jp⟩:=(by rw [hDq];show itmsC (Dp.got ++ [_])=_;simp [itmsC]);have hdr:=drain_more (E1.out.cg INV.out (by omega)) zk LR.out (E3.out.cg K9 (by omega)) hDq hgl hgc;have hm9:=RM6.out.setD (D':=Dq) K9 (fun c hc=>by omega) HGK.out hdr;have RM9:=zh (by have h9:=hm9;simp only [List.set_set] at h9;exact h9:RigM col8 (w8.setCell ⟨gk,3,none⟩ (.slice A2 (ng+1) c2)) g { R with t:=tkx,fs:=FS,ds:=d0.set i Dq } Y);have RD9:=zh (RD6.out.cg K9 (by omega));have CC9:=zh (CC6.out.trans (K9.mono (C':=XD) (fun c hc=>.inl (.inr (.inr (.inr (by omega)))))));have HDQ:=zh (show popN (k+1) (t0,D)=(tkx.take (ackP (popI Dk.i)),Dq) by rw [HP1.out,hDq,HDP.out]);clear hHeld K9 k1 hgl hgc hdr hm9 hDq z2 zf zl zk INV LR E1 E3 SF SZ RM6 RD6 CC6 HP1 HNG HJ HDP;generalize w8.setCell _ _=w10 at *;obtain ⟨pa,hpa⟩:=nm (ackP (popI Dk.i));rw [<- hpa] at HDQ RD9 HACK;clear hpa HGOT HXK;go_upto_region 24 with fail;go_loopg [18,102] 1 (fun q s18 s102 wi=>∃ e:Nat,e<=1/\q=1 - e/\s102=.int .i64 e/\(s18=undef \/ ∃ a,s18=.pointer a)/\∃ cole,Hid (RigM cole wi g { R with t:=tkE tkx pa e,fs:=FS,ds:=d0.set i Dq } Y)/\Hid (CRd cole (502+4 * i) wi 6 A4 1 (pksC [pa]))/\Hid (Cg XD col w cole wi))
         case atStart=>exact ⟨0,Nat.zero_le _,rfl,rfl,hs18,col8,RM9,RD9,CC9⟩
         case round =>
          clear RM9 RD9 CC9;obtain ⟨e,he,rfl,rfl,hs18,cole,RM,RD,CC⟩:=hrel
          by_cases he1:e < 1
          ·
           have hei:(e:Int) < (1:Int):=by omega
           obtain ⟨b5,off5,hA5,_,_,hcell⟩:=Reads.elem pkF_len RD.out.1 (one_at he1:[pa][e]?=some pa) (by omega);have a0:=hcell 0 _ rfl;have a1:=hcell 1 _ rfl;have a2:=hcell 2 _ rfl;have a3:=hcell 3 _ rfl;have a4:=hcell 4 _ rfl;have a5:=hcell 5 _ rfl;simp only [Nat.add_zero] at a0 a1 a2 a3 a4 a5;have fa:=(Fr.refl wr.heap.size [] wr).alloc (Nat.le_refl _) (.cells (pkC pa) 89);have ka:=(cg0 (col:=cole) fa).paint 0;have BX:=zh (⟨Blk.new wr _ _,paint_ge (Nat.le_refl _)⟩:CB (paint cole wr.heap.size 0) 0 (wr.alloc (.cells (pkC pa) 89)) wr.heap.size 89 (pkC pa));have RMa:=zh (RM.out.cg ka (fun _ _ h=>h));have RDa:=zh (RD.out.cg ka (fun h=>h));have CCa:=zh (CC.out.trans (ka.mono (C':=XD) (fun _ h=>h.elim)));generalize paint cole wr.heap.size 0=cola at *;rw [hA5];clear hcell ka fa RM RD CC;go_upto_region 26 with fail;obtain ⟨gy,hgy⟩:=nm (wr.heap.size);simp only [pkC] at BX RMa RDa CCa;rw [<- hgy] at BX ⊢;clear hgy;generalize wr.alloc _=wb at *;clear a0 a1 a2 a3 a4 a5;have RM:=zh (RMa.out.fr0 (Fr.refl _ _ _).drew);have RD:=zh (RDa.out.cg (C:=fun _=>False) ((Cg.refl _ _ _).drew) (fun h=>h));have BXC:=zh (BX.out.cg (cg0 (Fr.refl _ _ _).drew) (fun h=>h));have CC:=zh CCa.out.drew;have HTA:=zh (tkE_take HTK.out HACK.out he1);simp only [pkC] at HTA;have SF:=zh (fun (W:World) (bx:Blk W gy 89 #[.int .i64 pa.ch,.int .i64 pa.bk,.int .i64 pa.inc,.int .i64 pa.seq,.int .i64 pa.ack,.string pa.ld]) (rg:W.cell? ⟨g,0,none⟩=some (.pointer (some ⟨Y.gt,0,none⟩)))=>(⟨rg,bx.cell 0,bx.cell 1,bx.cell 2,bx.cell 3,bx.cell 4,bx.cell 5⟩:W.cell? ⟨g,0,none⟩=some (.pointer (some ⟨Y.gt,0,none⟩))/\W.cell? ⟨gy,0,none⟩=some (.int .i64 pa.ch)/\W.cell? ⟨gy,1,none⟩=some (.int .i64 pa.bk)/\W.cell? ⟨gy,2,none⟩=some (.int .i64 pa.inc)/\W.cell? ⟨gy,3,none⟩=some (.int .i64 pa.seq)/\W.cell? ⟨gy,4,none⟩=some (.int .i64 pa.ack)/\W.cell? ⟨gy,5,none⟩=some (.string pa.ld)));have RG:=zh (RM.out.st.b.cell 0:wb.drew.cell? ⟨g,0,none⟩=some (.pointer (some ⟨Y.gt,0,none⟩)));refine wp_region_held_drew (S:=fun W=>W.cell? ⟨g,0,none⟩=some (.pointer (some ⟨Y.gt,0,none⟩))/\W.cell? ⟨gy,0,none⟩=some (.int .i64 pa.ch)/\W.cell? ⟨gy,1,none⟩=some (.int .i64 pa.bk)/\W.cell? ⟨gy,2,none⟩=some (.int .i64 pa.inc)/\W.cell? ⟨gy,3,none⟩=some (.int .i64 pa.seq)/\W.cell? ⟨gy,4,none⟩=some (.int .i64 pa.ack)/\W.cell? ⟨gy,5,none⟩=some (.string pa.ld)) (by kernel_rfl) (SF.out _ BXC.out.b RG.out) (fun hHeld => ?_);refine tk (i:=0) (oi:=⟨some 106,_,_,_,_,_⟩) (v:=?_) rfl ?_ hHeld ?_
           rotate_left
           · intro w hSw;(try dsimp only at hSw);go_simp;(try with_reducible rfl)
           simp only [Act.put,lPt];refine tk (i:=1) (oi:=⟨some 107,_,_,_,_,_⟩) (v:=?_) rfl ?_ hHeld ?_
           rotate_left
           · intro w hSw;(try dsimp only at hSw);go_simp;(try with_reducible rfl)
           simp only [Act.put,lPt];refine tk (i:=2) (oi:=⟨some 108,_,_,_,_,_⟩) (v:=?_) rfl ?_ hHeld ?_
           rotate_left
           · intro w hSw;(try dsimp only at hSw);go_simp;(try with_reducible rfl)
           simp only [Act.put,lPt];refine tk (i:=3) (oi:=⟨some 109,_,_,_,_,_⟩) (v:=?_) rfl ?_ hHeld ?_
           rotate_left
           · intro w hSw;(try dsimp only at hSw);go_simp;(try with_reducible rfl)
           simp only [Act.put,lPt];refine tk (i:=4) (oi:=⟨some 110,_,_,_,_,_⟩) (v:=?_) rfl ?_ hHeld ?_
           rotate_left
           · intro w hSw;(try dsimp only at hSw);go_simp;(try with_reducible rfl)
           simp only [Act.put,lPt];refine wpAnyH_ready (rs:=[5]) (by kernel_rfl) (by simp) ?_;refine AllReadyH.cons (o:=⟨some 111,_,_,_,_,_⟩) rfl (fun K hK => ?_) AllReadyH.nil;rw [if_pos (by rfl)];go_simp;refine (HTA.out _ _ _ _ RM.out.t).mono ?_;rintro e9 w5 ⟨A6,c6,n6,col5,rfl,ht5,hc5⟩;have RM5:=zh (RM.out.setT hc5 (fun c hc=>by unfold TC;omega) ht5);have BXC:=zh (BXC.out.cg hc5 (by omega));have CC:=zh (CC.out.trans (hc5.mono (C':=XD) (fun c hc=>xd_take hc)));have RD5:=zh (RD.out.cg hc5 (by omega));have RG:=zh (RM5.out.st.b.cell 0:w5.cell? ⟨g,0,none⟩=some (.pointer (some ⟨Y.gt,0,none⟩)));clear ht5 hc5;refine hK.out _ _ (SF.out _ BXC.out.b RG.out) (fun hHeld => ?_);clear hK K
           try simp only [Act.put,lPt]
           refine wpAnyH_done (by kernel_rfl) ?_ _
           skip
           clear RM BX BXC SF RG hHeld HTA RMa RDa CCa RD;go_wp2_with fail;rw [<- hA5];go_roundg (1 - (e+1))
           case measure=>omega
           case rel=>exact ⟨e+1,he1,rfl,by go_num,.inr ⟨_,rfl⟩,col5,RM5,RD5,CC⟩
          ·
           have hei:¬ (e:Int) < (1:Int):=by omega
           have hm9:=RM.out;have he2:e=1:=(by omega);rw [he2,tkE_1] at hm9;have RM9:=zh (by rw [HDQ.out];exact hm9:RigM cole wr g { R with t:=(popN (k+1) (t0,D)).1,fs:=FS,ds:=d0.set i (popN (k+1) (t0,D)).2 } Y);clear hm9 RM RD he2;go_wp2_with fail;go_roundg (n9 - (k+1))
           case measure=>omega
           case rel=>exact ⟨k+1,hkn,rfl,.inr ⟨_,rfl⟩,hs18,cole,RM9,CC⟩
        ·
         skip
         rw [if_pos (by rfl)];go_simp;have BS:=zh (Blk.new w7.drew 46 #[.bool jb,.int .i64 jk,.int .i64 jre,.int .i64 jim,.int .i64 jep,.bool jp]);have fa:=(Fr.refl w7.drew.heap.size [] w7.drew).alloc (Nat.le_refl _) (.cells #[.bool jb,.int .i64 jk,.int .i64 jre,.int .i64 jim,.int .i64 jep,.bool jp] 46);have LR:=zh (LR.out.cg (cg0 fa) (fun h=>h));have INV:=zh (INV.out.trans (cgf _ fa));have z2:(w7.alloc (.cells #[.bool jb,.int .i64 jk,.int .i64 jre,.int .i64 jim,.int .i64 jep,.bool jp] 46)).cell? ⟨gk,3,none⟩=some (.slice lA2 ng lc2):=(SZ.out _ _ INV.out).1;clear fa;refine hK.out _ _ (SF.out _ _ (INV.out.mono (fun q h=>.inl h))) (fun hHeld => ?_);clear hK K
         try simp only [Act.put,lPt]
         refine wpAnyH_ready (rs:=[4]) (by kernel_rfl) (by simp) ?_;refine AllReadyH.cons (o:=⟨some 94,_,_,_,_,_⟩) rfl (fun K hK => ?_) AllReadyH.nil;rw [if_pos (by rfl)];go_simp;refine hK.out _ _ (SF.out _ _ (INV.out.mono (fun q h=>.inl h))) (fun hHeld => ?_);clear hK K
         try simp only [Act.put,lPt]
         refine wpAnyH_ready (rs:=[7]) (by kernel_rfl) (by simp) ?_;refine AllReadyH.cons (o:=⟨some 97,_,_,_,_,_⟩) rfl (fun K hK => ?_) AllReadyH.nil;refine step_appC _ (by rfl) (.tmp 94) (.tmp 96) itemTyD (by rfl) _ ng _ (by rfl) LR.out (w7.drew.heap.size+1) (some ⟨w7.drew.heap.size,0,none⟩) 1 1 (itF ⟨jb,jk,jre,jim,jep,jp⟩) (by rfl) (Reads.of_blk (m:=1) (size:=6) BS.out rfl) (by have:=itmsC_one [(⟨jb,jk,jre,jim,jep,jp⟩:Itm)];simpa [itmsC] using this) (by omega) (by omega) ?_;intro A2 c2 w8 hrow hap hgr;have INV:=zh (INV.out.trans hap);have LR:=zh hrow;obtain ⟨z2,zf,zl,zk⟩:=SZ.out _ _ INV.out;clear hrow hap hgr BS;generalize paint col5 _ _=col8 at *;refine hK.out _ _ (SF.out _ _ (INV.out.mono (fun q h=>.inl h))) (fun hHeld => ?_);clear hK K
         try simp only [Act.put,lPt]
         refine tk (i:=8) (oi:=⟨some 98,_,_,_,_,_⟩) (v:=?_) rfl ?_ hHeld ?_
         rotate_left
         · intro w hSw;(try dsimp only at hSw);go_simp;(try with_reducible rfl)
         simp only [Act.put,lPt];refine tk (i:=9) (oi:=⟨some 99,_,_,_,_,_⟩) (v:=?_) rfl ?_ hHeld ?_
         rotate_left
         · intro w hSw;(try dsimp only at hSw);go_simp;(try with_reducible rfl)
         simp only [Act.put,lPt];refine wpAnyH_ready (rs:=[10]) (by kernel_rfl) (by simp) ?_;refine AllReadyH.cons (o:=⟨none,_,_,_,_,_⟩) rfl (fun K hK => ?_) AllReadyH.nil;rw [if_pos (by rfl)];go_simp;refine hK.out _ _ (SF.out _ _ ((INV.out.mono (fun q h=>.inl h)).set (.inr zk) _)) (fun hHeld => ?_);clear hK K
         try simp only [Act.put]
         refine wpAnyH_done (by kernel_rfl) ?_ _;have K9:Cg (fun q=>q=501+4 * i \/ q=500+4 * i) col5 w7 col8 (w8.setCell ⟨gk,3,none⟩ (.slice A2 (ng+1) c2)):=(INV.out.mono (fun q h=>.inl h)).set (.inr zk) _;have k1:Cg (· = 500+4 * i) col8 w8 col8 (w8.setCell ⟨gk,3,none⟩ (.slice A2 (ng+1) c2)):=(Cg.refl _ _ _).set zk _;obtain ⟨Dq,hDq⟩:=nm ({ Dp with got:=Dp.got ++ [⟨jb,jk,jre,jim,jep,jp⟩] }:Drain);have hgl:Dq.got.length=ng+1:=(by rw [hDq];show (Dp.got ++ [_]).length=_;rw [List.length_append,<- HNG.out];rfl);have hgc:itmsC Dq.got=itmsC Dp.got ++ itF ⟨jb,jk,jre,jim,jep,jp⟩:=(by rw [hDq];show itmsC (Dp.got ++ [_])=_;simp [itmsC]);have hdr:=drain_more (E1.out.cg INV.out (by omega)) zk LR.out (E3.out.cg K9 (by omega)) hDq hgl hgc;have hm9:=RM6.out.setD (D':=Dq) K9 (fun c hc=>by omega) HGK.out hdr;have RM9:=zh (by have h9:=hm9;simp only [List.set_set] at h9;exact h9:RigM col8 (w8.setCell ⟨gk,3,none⟩ (.slice A2 (ng+1) c2)) g { R with t:=tkx,fs:=FS,ds:=d0.set i Dq } Y);have RD9:=zh (RD6.out.cg K9 (by omega));have CC9:=zh (CC6.out.trans (K9.mono (C':=XD) (fun c hc=>.inl (.inr (.inr (.inr (by omega)))))));have HDQ:=zh (show popN (k+1) (t0,D)=(tkx.take (ackP (popI Dk.i)),Dq) by rw [HP1.out,hDq,HDP.out]);clear hHeld K9 k1 hgl hgc hdr hm9 hDq z2 zf zl zk INV LR E1 E3 SF SZ RM6 RD6 CC6 HP1 HNG HJ HDP;generalize w8.setCell _ _=w10 at *;obtain ⟨pa,hpa⟩:=nm (ackP (popI Dk.i));rw [<- hpa] at HDQ RD9 HACK;clear hpa HGOT HXK;go_upto_region 24 with fail;go_loopg [18,102] 1 (fun q s18 s102 wi=>∃ e:Nat,e<=1/\q=1 - e/\s102=.int .i64 e/\(s18=undef \/ ∃ a,s18=.pointer a)/\∃ cole,Hid (RigM cole wi g { R with t:=tkE tkx pa e,fs:=FS,ds:=d0.set i Dq } Y)/\Hid (CRd cole (502+4 * i) wi 6 A4 1 (pksC [pa]))/\Hid (Cg XD col w cole wi))
         case atStart=>exact ⟨0,Nat.zero_le _,rfl,rfl,hs18,col8,RM9,RD9,CC9⟩
         case round =>
          clear RM9 RD9 CC9;obtain ⟨e,he,rfl,rfl,hs18,cole,RM,RD,CC⟩:=hrel
          by_cases he1:e < 1
          ·
           have hei:(e:Int) < (1:Int):=by omega
           obtain ⟨b5,off5,hA5,_,_,hcell⟩:=Reads.elem pkF_len RD.out.1 (one_at he1:[pa][e]?=some pa) (by omega);have a0:=hcell 0 _ rfl;have a1:=hcell 1 _ rfl;have a2:=hcell 2 _ rfl;have a3:=hcell 3 _ rfl;have a4:=hcell 4 _ rfl;have a5:=hcell 5 _ rfl;simp only [Nat.add_zero] at a0 a1 a2 a3 a4 a5;have fa:=(Fr.refl wr.heap.size [] wr).alloc (Nat.le_refl _) (.cells (pkC pa) 89);have ka:=(cg0 (col:=cole) fa).paint 0;have BX:=zh (⟨Blk.new wr _ _,paint_ge (Nat.le_refl _)⟩:CB (paint cole wr.heap.size 0) 0 (wr.alloc (.cells (pkC pa) 89)) wr.heap.size 89 (pkC pa));have RMa:=zh (RM.out.cg ka (fun _ _ h=>h));have RDa:=zh (RD.out.cg ka (fun h=>h));have CCa:=zh (CC.out.trans (ka.mono (C':=XD) (fun _ h=>h.elim)));generalize paint cole wr.heap.size 0=cola at *;rw [hA5];clear hcell ka fa RM RD CC;go_upto_region 26 with fail;obtain ⟨gy,hgy⟩:=nm (wr.heap.size);simp only [pkC] at BX RMa RDa CCa;rw [<- hgy] at BX ⊢;clear hgy;generalize wr.alloc _=wb at *;clear a0 a1 a2 a3 a4 a5;have RM:=zh (RMa.out.fr0 (Fr.refl _ _ _).drew);have RD:=zh (RDa.out.cg (C:=fun _=>False) ((Cg.refl _ _ _).drew) (fun h=>h));have BXC:=zh (BX.out.cg (cg0 (Fr.refl _ _ _).drew) (fun h=>h));have CC:=zh CCa.out.drew;have HTA:=zh (tkE_take HTK.out HACK.out he1);simp only [pkC] at HTA;have SF:=zh (fun (W:World) (bx:Blk W gy 89 #[.int .i64 pa.ch,.int .i64 pa.bk,.int .i64 pa.inc,.int .i64 pa.seq,.int .i64 pa.ack,.string pa.ld]) (rg:W.cell? ⟨g,0,none⟩=some (.pointer (some ⟨Y.gt,0,none⟩)))=>(⟨rg,bx.cell 0,bx.cell 1,bx.cell 2,bx.cell 3,bx.cell 4,bx.cell 5⟩:W.cell? ⟨g,0,none⟩=some (.pointer (some ⟨Y.gt,0,none⟩))/\W.cell? ⟨gy,0,none⟩=some (.int .i64 pa.ch)/\W.cell? ⟨gy,1,none⟩=some (.int .i64 pa.bk)/\W.cell? ⟨gy,2,none⟩=some (.int .i64 pa.inc)/\W.cell? ⟨gy,3,none⟩=some (.int .i64 pa.seq)/\W.cell? ⟨gy,4,none⟩=some (.int .i64 pa.ack)/\W.cell? ⟨gy,5,none⟩=some (.string pa.ld)));have RG:=zh (RM.out.st.b.cell 0:wb.drew.cell? ⟨g,0,none⟩=some (.pointer (some ⟨Y.gt,0,none⟩)));refine wp_region_held_drew (S:=fun W=>W.cell? ⟨g,0,none⟩=some (.pointer (some ⟨Y.gt,0,none⟩))/\W.cell? ⟨gy,0,none⟩=some (.int .i64 pa.ch)/\W.cell? ⟨gy,1,none⟩=some (.int .i64 pa.bk)/\W.cell? ⟨gy,2,none⟩=some (.int .i64 pa.inc)/\W.cell? ⟨gy,3,none⟩=some (.int .i64 pa.seq)/\W.cell? ⟨gy,4,none⟩=some (.int .i64 pa.ack)/\W.cell? ⟨gy,5,none⟩=some (.string pa.ld)) (by kernel_rfl) (SF.out _ BXC.out.b RG.out) (fun hHeld => ?_);refine tk (i:=0) (oi:=⟨some 106,_,_,_,_,_⟩) (v:=?_) rfl ?_ hHeld ?_
           rotate_left
           · intro w hSw;(try dsimp only at hSw);go_simp;(try with_reducible rfl)
           simp only [Act.put,lPt];refine tk (i:=1) (oi:=⟨some 107,_,_,_,_,_⟩) (v:=?_) rfl ?_ hHeld ?_
           rotate_left
           · intro w hSw;(try dsimp only at hSw);go_simp;(try with_reducible rfl)
           simp only [Act.put,lPt];refine tk (i:=2) (oi:=⟨some 108,_,_,_,_,_⟩) (v:=?_) rfl ?_ hHeld ?_
           rotate_left
           · intro w hSw;(try dsimp only at hSw);go_simp;(try with_reducible rfl)
           simp only [Act.put,lPt];refine tk (i:=3) (oi:=⟨some 109,_,_,_,_,_⟩) (v:=?_) rfl ?_ hHeld ?_
           rotate_left
           · intro w hSw;(try dsimp only at hSw);go_simp;(try with_reducible rfl)
           simp only [Act.put,lPt];refine tk (i:=4) (oi:=⟨some 110,_,_,_,_,_⟩) (v:=?_) rfl ?_ hHeld ?_
           rotate_left
           · intro w hSw;(try dsimp only at hSw);go_simp;(try with_reducible rfl)
           simp only [Act.put,lPt];refine wpAnyH_ready (rs:=[5]) (by kernel_rfl) (by simp) ?_;refine AllReadyH.cons (o:=⟨some 111,_,_,_,_,_⟩) rfl (fun K hK => ?_) AllReadyH.nil;rw [if_pos (by rfl)];go_simp;refine (HTA.out _ _ _ _ RM.out.t).mono ?_;rintro e9 w5 ⟨A6,c6,n6,col5,rfl,ht5,hc5⟩;have RM5:=zh (RM.out.setT hc5 (fun c hc=>by unfold TC;omega) ht5);have BXC:=zh (BXC.out.cg hc5 (by omega));have CC:=zh (CC.out.trans (hc5.mono (C':=XD) (fun c hc=>xd_take hc)));have RD5:=zh (RD.out.cg hc5 (by omega));have RG:=zh (RM5.out.st.b.cell 0:w5.cell? ⟨g,0,none⟩=some (.pointer (some ⟨Y.gt,0,none⟩)));clear ht5 hc5;refine hK.out _ _ (SF.out _ BXC.out.b RG.out) (fun hHeld => ?_);clear hK K
           try simp only [Act.put,lPt]
           refine wpAnyH_done (by kernel_rfl) ?_ _
           skip
           clear RM BX BXC SF RG hHeld HTA RMa RDa CCa RD;go_wp2_with fail;rw [<- hA5];go_roundg (1 - (e+1))
           case measure=>omega
           case rel=>exact ⟨e+1,he1,rfl,by go_num,.inr ⟨_,rfl⟩,col5,RM5,RD5,CC⟩
          ·
           have hei:¬ (e:Int) < (1:Int):=by omega
           have hm9:=RM.out;have he2:e=1:=(by omega);rw [he2,tkE_1] at hm9;have RM9:=zh (by rw [HDQ.out];exact hm9:RigM cole wr g { R with t:=(popN (k+1) (t0,D)).1,fs:=FS,ds:=d0.set i (popN (k+1) (t0,D)).2 } Y);clear hm9 RM RD he2;go_wp2_with fail;go_roundg (n9 - (k+1))
           case measure=>omega
           case rel=>exact ⟨k+1,hkn,rfl,.inr ⟨_,rfl⟩,hs18,cole,RM9,CC⟩
      ·
       obtain rfl:k=n9:=by omega
       have RM9 := zh (by
        have h9:=RM.out;have e9:popK (i+1) R.t DS=(tkx,d0.set i Dk):=(by rw [HNX.out,<- HN9.out,<- HXK.out]);rw [show tkx=(popK (i+1) R.t DS).1 by rw [e9],show d0.set i Dk=(popK (i+1) R.t DS).2 by rw [e9]] at h9
        exact h9:RigM colx wr g { R with t:=(popK (i+1) R.t DS).1,fs:=FS,ds:=(popK (i+1) R.t DS).2 } Y)
       rw [Nat.sub_self] at HLN;clear pl1 pl2 pl3 hxk hf1 hf2 hf3 hDk hlk RM;go_wp2_with fail;refine HLN.out.mono ?_;rintro e w9 ⟨rfl,rfl⟩;go_wp2_with fail;rw [<- hA];go_roundg (nd - (i+1))
       case measure=>omega
       case rel=>exact ⟨i+1,hin,rfl,by go_num,hs15,hs18,colx,RM9,CC⟩
    ·
     obtain rfl:i=nd:=by omega
     go_wp2_with fail;refine bodyPost_end (results_none rfl _ _ _) rfl ⟨cold,rfl,?_,CC.out⟩;have h9:=RM.out;rw [HND.out,HDS0.out,HFS0.out] at h9;exact h9
end
end Go.Proofs.YtgblfflikgnfpaaGreat
namespace Go.Proofs.YtgblfflikgnfpaaGreat
open Go.RowKit Go.Fb
set_option maxRecDepth 100000
set_option maxHeartbeats 16000000
set_option linter.unusedVariables false
theorem ackTy:SliceTy Tryz.prog 42 72 6 80:=SliceTy.mk' (z:=.agg #[.int .i64 0,.int .i64 0,.int .i64 0,.slice none 0 0,.slice none 0 0,.int .i64 0]) Tryz.underlying42 (by kernel_rfl) rfl (by omega)
def AcksM (aks:List AckS) (V:Value) (col:Nat->Nat) (w:World):Prop :=
 ∃ A c,∃ xs:List AckX,V=.slice A aks.length c/\xs.map (·.a)=aks/\CRd col 12 w 6 A aks.length (xs.flatMap ackF) /\ ∀ x ∈ xs,CRd col 12 w 6 x.eA x.a.ents.length (cellsE x.a.ents)/\CRd col 12 w 5 x.lA x.a.lns.length (cellsLn x.a.lns)
theorem AcksM.none {V:Value} {col:Nat->Nat} {w:World} (h:V=.slice none 0 0):AcksM [] V col w:=⟨_,_,[],h,rfl,CRd.none_ _ _ _,by simp⟩
theorem AcksM.one {a:AckS} {V:Value} {col:Nat->Nat} {w:World} (h:AckM a V col w):AcksM [a] V col w:=by
 obtain ⟨A,cp,eA,ec,lA,lc,h0,h1,h2,h3⟩:=h;exact ⟨A,cp,[⟨a,eA,ec,lA,lc⟩],h0,rfl,by simpa [ackF] using h1,by simpa using ⟨h2,h3⟩⟩
theorem acks_one (l:List AckX):∀ u ∈ l.flatMap ackF,u.oneCell'=true:=by
 intro u hu;obtain ⟨p,_,hp⟩:=List.mem_flatMap.1 hu;simp [ackF] at hp
 rcases hp with rfl | rfl | rfl | rfl | rfl | rfl <;> rfl
section
variable {col:Nat->Nat} {w:World} {g:Nat} {R:RigS} {Y:RX}
theorem RigM.setA {col':Nat->Nat} {w':World} (h:RigM col w g R Y) (hc:Cg (· = 113) col w col' w') {A:Option Addr} {c:Nat} {xs:List AckX} {aks:List AckS} (hx:xs.map (·.a)=aks) (hr:CR col' 113 w' 72 6 (.slice A aks.length c) aks.length (xs.flatMap ackF))
  (hm2:∀ x ∈ xs,CRd col 12 w 6 x.eA x.a.ents.length (cellsE x.a.ents)/\CRd col 12 w 5 x.lA x.a.lns.length (cellsLn x.a.lns)) :
  RigM col' (w'.setCell ⟨g,3,none⟩ (.slice A aks.length c)) g { R with acks:=aks } { Y with aA:=A,ac:=c,aks:=xs }:=by
 have hs:=h.st.cg hc (by omega);have k:Cg (fun c=>c=113 \/ c=110) col w col' (w'.setCell ⟨g,3,none⟩ (.slice A aks.length c)):=(hc.mono (fun _ h=>.inl h)).set (.inr hs.k) _;have k1:Cg (· = 110) col' w' col' (w'.setCell ⟨g,3,none⟩ (.slice A aks.length c)):=(Cg.refl _ _ _).set hs.k _;have hf:=h.few;have hfl:=h.fl;have hdl:=h.dl;refine ⟨⟨by simpa using hs.b.set_ 3 (.slice A aks.length c),hs.k⟩,h.t.cg k (fun c hT=>by unfold TC at hT;omega),h.fl,h.fr.cg k (by omega),fun j gj F h1 h2 => ?_,h.dl,h.dr.cg k (by omega),fun j gj D h1 h2 => ?_,hx,hr.cg k1 (by omega),fun x hx=>⟨(hm2 x hx).1.cg k (by omega),(hm2 x hx).2.cg k (by omega)⟩,h.few⟩
 · exact (h.fm j gj F h1 h2).cg k ⟨by omega,by omega,by omega⟩
 · exact (h.dm j gj D h1 h2).cg k ⟨by omega,by omega,by omega⟩
theorem rwork_any (h:RigM col w g R Y) (hd:R.ds=[]) (hn:R.acks.length<=10000) (S2:TaskS) (did:Bool) (aks:List AckS) (has:aks.length<=10) (hlen:S2.out.length<=1000) (hp:∀ p ∈ S2.out,Cn p.ack) (hf:∀ F ∈ R.fs,F.o.ws.length<=1000000/\Cn F.o.last) (vs:Value)
  (hwk:∀ W,Fr w.heap.size [] w W->Calls Tryz.prog 25 #[.pointer (some ⟨Y.gt,0,none⟩),vs] W (WorkOut col Y.gt S2 did (AcksM aks) W)) :
  Calls Tryz.prog 13 #[.pointer (some ⟨g,0,none⟩),vs] w fun e w'=>∃ Y' col',e=.returned (.bool did)/\RigM col' w' g { R with t:={ S2 with out:=[] },fs:=R.fs.map (ackF' S2.out),acks:=R.acks ++ aks } Y'/\Cg RC col w col' w':=by
 have RM:=zh h;have HD:=zh hd;have HN:=zh hn;have HA:=zh has;have HL:=zh hlen;have HP:=zh hp;have HF:=zh hf;have HW:=zh hwk;have r0:w.cell? ⟨g,0,none⟩=some (.pointer (some ⟨Y.gt,0,none⟩)):=h.st.b.cell 0;clear h hd hn has hlen hp hf hwk;go_enter Tryz.func13,Tryz.ntmps13;go_wp2_with fail;refine (HW.out _ (Fr.refl _ _ _)).mono ?_;rintro e w2 ⟨A2,c2,V,X2,col2,rfl,hrd,hm,hc,A3,c3,xs,rfl,hxs,hrx,hxm⟩;have FC2:∀ c,FC c->TC c:=fun c h=>by unfold FC at h;unfold TC;omega
 have RM2:=zh (RM.out.setT hc (fun c h=>.inl (FC2 c h)) hm);have RD:=zh hrd;have C2:=zh (hc.mono (C':=RC) (fun c h=>.inl (FC2 c h)));have HX:=zh hxs;have HRX:=zh hrx;have HXM:=zh hxm;have c3':=RM2.out.st.b.cell 3;replace c3':w2.cell? ⟨g,3,none⟩=some (.slice Y.aA R.acks.length Y.ac):=c3';have hf3:=RM2.out.st.b.frozen 3;have hg2:=RM2.out.st.b.lt;have HOU:=zh (RM2.out.ar:CR col2 113 w2 72 6 (.slice Y.aA R.acks.length Y.ac) R.acks.length (Y.aks.flatMap ackF));clear hrd hm hc hxs hrx hxm RM r0 HW FC2;generalize hnl:aks.length=nl at *;generalize hno:R.acks.length=no at *;generalize hnp:S2.out.length=np at *;have HNL:=zh hnl;have HNO:=zh hno;have HNP:=zh hnp;clear hnl hno hnp;have hno1:=HN.out;have hnl1:=HA.out;go_wp2_with (at_builtin;refine wpList_appC _ rfl (.tmp 22) (.tmp 23) ackTy rfl _ _ _ rfl HOU.out w2.heap.size A3 nl c3 _ rfl HRX.out.1 (acks_one _) (by omega) (by omega) ?_);intro A4 c4 w4 hrow hap hgr;have hs4:=RM2.out.st.cg hap (by omega);have hf4:=hs4.b.frozen 3;have c4':=hs4.b.cell 3;have hg4:=hs4.b.lt;have hl:(R.acks ++ aks).length=no+nl:=(by rw [List.length_append,HNO.out,HNL.out]);rw [<- List.flatMap_append,<- hl] at hrow;have hal:=RM2.out.al
 have RM4 := zh (by
  have h9 := RM2.out.setA hap (A := A4) (c := c4) (xs := Y.aks ++ xs) (aks := R.acks ++ aks) (by rw [List.map_append, HX.out]; exact congrArg (· ++ aks) hal) hrow (fun x hx => by
   rcases List.mem_append.1 hx with h | h
   · exact RM2.out.am x h
   · exact HXM.out x h)
  rw [hl] at h9
  exact h9)
 have RD4:=zh ((RD.out.cg hap (by omega)).cg (C:=(· = 110)) ((Cg.refl _ _ _).set (p:=⟨g,3,none⟩) hs4.k (.slice A4 (no+nl) c4)) (by omega));have C4:=zh ((C2.out.trans (hap.mono (C':=RC) (fun c hc=>.inr (.inr (.inl (by omega)))))).set (p:=⟨g,3,none⟩) (by rw [hs4.k];exact .inr (.inr (.inl (by omega)))) (.slice A4 (no+nl) c4));clear hrow hap hgr hl hal c3' hf3 hg2 HRX HXM HX hs4 RM2 RD C2;go_wp2_with fail;rw [<- HNP.out] at RD4 ⊢;refine (tells0_any RM4.out HD.out S2.out A2 c2 RD4.out (by have:=HL.out;rw [HNP.out];exact this) HP.out HF.out).mono ?_;rintro e w6 ⟨col6,rfl,hm,hc⟩;have RM6:=zh hm;have C6:=zh (C4.out.trans (hc.mono (C':=RC) (fun c h=>.inr (.inr (.inr ⟨h.1,by omega⟩)))));clear hm hc RM4 RD4 C4;go_wp2_with fail;go_ret;exact ⟨_,col6,rfl,RM6.out,C6.out⟩
end
end Go.Proofs.YtgblfflikgnfpaaGreat
namespace Go.Proofs.YtgblfflikgnfpaaGreat
open Go.RowKit Go.Fb
set_option maxRecDepth 100000
set_option maxHeartbeats 16000000
set_option linter.unusedVariables false
def Few (S:TaskS) (b:Int) (q:Nat):Prop:=(∀ o ∈ S.outs,o.ws.length<=6/\0<=o.last/\o.last<=b)/\S.out.length<=q
theorem Few.mono {S:TaskS} {b b':Int} {q q':Nat} (h:Few S b q) (hb:b<=b') (hq:q<=q'):Few S b' q':=⟨fun o ho=>by have:=h.1 o ho;omega,Nat.le_trans h.2 hq⟩
structure SameS (S S':TaskS):Prop where
 (nd:S'.nd=S.nd) (ix:S'.ix=S.ix) (T:S'.T=S.T) (lns:S'.lns=S.lns) (om:S'.om=S.om) (im:S'.im=S.im) (kids:S'.kids=S.kids) (ins:S'.ins=S.ins) (len:S'.outs.length=S.outs.length) (bs:S'.bs=S.bs) (b:S'.b=S.b) (ep:S'.ep=S.ep) (p:S'.p=S.p) (many:S'.many=S.many) (last:S'.last=S.last) (asked:S'.asked=S.asked) (stop:S'.stop=S.stop)
theorem SameS.refl (S:TaskS):SameS S S:=⟨rfl,rfl,rfl,rfl,rfl,rfl,rfl,rfl,rfl,rfl,rfl,rfl,rfl,rfl,rfl,rfl,rfl⟩
theorem SameS.trans {S S' S'':TaskS} (h:SameS S S') (k:SameS S' S''):SameS S S'':=⟨k.nd.trans h.nd,k.ix.trans h.ix,k.T.trans h.T,k.lns.trans h.lns,k.om.trans h.om,k.im.trans h.im,k.kids.trans h.kids,k.ins.trans h.ins,k.len.trans h.len,k.bs.trans h.bs,k.b.trans h.b,k.ep.trans h.ep,k.p.trans h.p,k.many.trans h.many,k.last.trans h.last,k.asked.trans h.asked,k.stop.trans h.stop⟩
theorem put_sameS (S:TaskS) (k:Nat) (i:Itm):SameS S (S.put k i):=by
 unfold TaskS.put
 cases S.outs[k]? with
 | none=>exact SameS.refl S
 | some o=>exact ⟨rfl,rfl,rfl,rfl,rfl,rfl,rfl,rfl,by simp,rfl,rfl,rfl,rfl,rfl,rfl,rfl,rfl⟩
theorem sendO_few {s:ByteArray} {o:OutS} {b:Int} (h:o.ws.length<=6/\0<=o.last/\o.last<=b):(sendO s o).1.ws.length<=6/\0<=(sendO s o).1.last/\(sendO s o).1.last<=b+1:=by
 unfold sendO
 split
 · simp only;omega
 ·
  split
  · simp only;omega
  · simp only [List.length_append,List.length_singleton];omega
theorem put_few2 {S:TaskS} {b:Int} {q:Nat} (h:Few S b q) (k:Nat) (i:Itm):Few (S.put k i) (b+1) (q+1):=by
 unfold TaskS.put
 cases ho:S.outs[k]? with
 | none=>exact h.mono (by omega) (by omega)
 | some o =>
  refine ⟨fun o' h' => ?_,?_⟩
  ·
   rcases List.mem_or_eq_of_mem_set h' with h1 | rfl
   · have:=h.1 o' h1;omega
   · exact sendO_few (h.1 o (List.mem_of_getElem? ho))
  · simp only [List.length_append];have:=send_few (putS i.put) o;have:=h.2;omega
theorem putTo_sameS (S:TaskS) (k:Nat) (id t:Int) (i:Itm):SameS S (S.putTo k id t i):=by
 unfold TaskS.putTo
 cases S.om[k]? with
 | none=>exact SameS.refl S
 | some m =>
  simp only
  split
  · exact put_sameS S k i
  · exact SameS.refl S
theorem putTo_few {S:TaskS} {b:Int} {q:Nat} (h:Few S b q) (k:Nat) (id t:Int) (i:Itm):Few (S.putTo k id t i) (b+1) (q+1):=by
 unfold TaskS.putTo
 cases S.om[k]? with
 | none=>exact h.mono (by omega) (by omega)
 | some m =>
  simp only
  split
  · exact put_few2 h k i
  · exact h.mono (by omega) (by omega)
theorem toKid_next (S:TaskS) (n:Nd) (x:Nat->Int) (k:Nat):S.toKid n x (k+1)=(S.toKid n x k).putTo k n.id (n.rt (x 0 % 8).toNat) (recI x):=by unfold TaskS.toKid;rw [List.range_succ,List.foldl_append];rfl
theorem toKid_sameS (S:TaskS) (n:Nd) (x:Nat->Int) (k:Nat):SameS S (S.toKid n x k):=by
 induction k with
 | zero=>exact SameS.refl S
 | succ k ih=>rw [toKid_next];exact ih.trans (putTo_sameS _ _ _ _ _)
theorem toKid_few {S:TaskS} {b:Int} {q:Nat} (h:Few S b q) (n:Nd) (x:Nat->Int) (k:Nat):Few (S.toKid n x k) (b+k) (q+k):=by
 induction k with
 | zero=>simpa [TaskS.toKid] using h
 | succ k ih=>rw [toKid_next];exact (putTo_few ih _ _ _ _).mono (by omega) (by omega)
theorem record_next {S:TaskS} {x:Nat->Int} {j:Nat} {n:Nd} (h:S.kids[j]?=some n):S.record x (j+1)=(S.record x j).toKid n x (S.record x j).outs.length:=by
 unfold TaskS.record;rw [List.take_add_one,h,List.foldl_append];rfl
theorem record_end {S:TaskS} {x:Nat->Int} {j:Nat} (h:S.kids[j]?=none):S.record x (j+1)=S.record x j:=by
 unfold TaskS.record;rw [List.take_add_one,h];simp
theorem record_sameS (S:TaskS) (x:Nat->Int) (j:Nat):SameS S (S.record x j):=by
 induction j with
 | zero=>exact SameS.refl S
 | succ j ih =>
  cases h:S.kids[j]? with
  | none=>rw [record_end h];exact ih
  | some n=>rw [record_next h];exact ih.trans (toKid_sameS _ _ _ _)
theorem record_few {S:TaskS} {b:Int} {q:Nat} (h:Few S b q) (x:Nat->Int) (j:Nat):Few (S.record x j) (b+(j:Int) * S.outs.length) (q+j * S.outs.length):=by
 induction j with
 | zero=>simpa [TaskS.record] using h
 | succ j ih =>
  cases hk:S.kids[j]? with
  | none =>
   rw [record_end hk];refine ih.mono ?_ ?_
   · have:=Int.mul_nonneg (show (0:Int)<=1 by omega) (show (0:Int)<=(S.outs.length:Int) by omega);rw [show ((j+1:Nat):Int)=(j:Int)+1 by omega,Int.add_mul];omega
   · rw [Nat.add_mul];omega
  | some n =>
   rw [record_next hk];rw [(record_sameS S x j).len];refine (toKid_few ih n x _).mono ?_ ?_
   · rw [show ((j+1:Nat):Int)=(j:Int)+1 by omega,Int.add_mul];omega
   · rw [Nat.add_mul];omega
section
variable {col:Nat->Nat} {w:World} {g:Nat} {S:TaskS} {X:TX}
theorem record_any (h:TaskM col w g S X) (b:Int) (q:Nat) (hb:b<=1000000000) (hq:q<=100000) (hf:Few S b q) (hk:S.kids.length<=8) (x:Nat->Int) :
  Calls Tryz.prog 103 #[.pointer (some ⟨g,0,none⟩),.agg #[.int .i64 (x 0),.int .i64 (x 1),.int .i64 (x 2)]] w (PutK col g (S.record x S.kids.length) X w):=by
 have fa:=(Fr.refl w.heap.size [] w).alloc (Nat.le_refl _) (.cells #[.int .i64 (x 0),.int .i64 (x 1),.int .i64 (x 2)] 32);have C0:=zh ((cgf (col:=col) SC fa).paint 12);have T0:=zh (h.cg ((cg0 fa).paint 12) (fun _ _ h=>h));have B0:=zh (⟨Blk.new w _ _,paint_ge (Nat.le_refl _)⟩:CB (paint col w.heap.size 12) 12 (w.alloc (.cells #[.int .i64 (x 0),.int .i64 (x 1),.int .i64 (x 2)] 32)) w.heap.size 32 #[.int .i64 (x 0),.int .i64 (x 1),.int .i64 (x 2)]);obtain ⟨gx,hgx⟩:=nm (w.heap.size);have HFW:=zh h.few;have HGO:=zh h.go;have HOL:=zh h.ol;have HKS:=zh h.ks;have HF:=zh hf;obtain ⟨nk,hnk⟩:=nm (S.kids.length);rw [<- hnk] at hk ⊢;have HNK:=zh hnk;obtain ⟨no,hno⟩:=nm (S.om.length);have HNO:=zh hno;have hno30:no<=30:=(by rw [hno];exact h.few.2);obtain ⟨x0,hx0⟩:=nm (x 0);obtain ⟨x1,hx1⟩:=nm (x 1);obtain ⟨x2,hx2⟩:=nm (x 2);rw [<- hx0,<- hx1,<- hx2] at B0 C0 T0 ⊢;have HX:=zh (show recI x=⟨false,x0,x1,x2,0,false⟩ by rw [hx0,hx1,hx2];rfl);have HX0:=zh hx0;clear h fa hf hnk hno hx0 hx1 hx2;generalize paint col w.heap.size 12=col0 at *;go_enter Tryz.func103,Tryz.ntmps103;go_upto_region 1 with fail;rw [<- hgx] at B0 ⊢;clear hgx;generalize w.alloc _=w0 at *;have c16:w0.cell? ⟨g,16,none⟩=some (.slice X.kA nk X.kc):=(by rw [HNK.out];exact T0.out.st.b.cell 16);go_upto_region 2 with fail;go_loopg [5,6,8,14,28] nk (fun q5 s5 s6 s8 s14 s28 wr=>∃ j:Nat,j<=nk/\q5=nk - j/\s14=.int .i64 j/\(s5=undef \/ ∃ a,s5=.pointer a)/\(s6=undef \/ ∃ z,s6=.int .i64 z)/\(s8=undef \/ ∃ a,s8=.pointer a)/\(s28=undef \/ ∃ z,s28=.int .i64 z)/\∃ uA uc colr,Hid (TaskM colr wr g (S.record x j) { X with uA:=uA,uc:=uc })/\Hid (CB colr 12 wr gx 32 #[.int .i64 x0,.int .i64 x1,.int .i64 x2])/\Hid (Cg SC col w colr wr))
 case atStart=>exact ⟨0,Nat.zero_le _,rfl,rfl,.inl rfl,.inl rfl,.inl rfl,.inl rfl,X.uA,X.uc,col0,T0,B0,C0⟩
 case round =>
  clear T0 B0 C0 c16;obtain ⟨j,hj,rfl,rfl,hs5,hs6,hs8,hs28,uA,uc,colr,T,B,C⟩:=hrel
  by_cases hjn:j < nk
  ·
   have hji:(j:Int) < (nk:Int):=by omega
   obtain ⟨n,hn⟩:∃ n,S.kids[j]?=some n:=⟨_,List.getElem?_eq_getElem (by rw [<- HNK.out];exact hjn)⟩;have hss:=record_sameS S x j
   obtain ⟨m,hm,hmn⟩:∃ m,X.ks[j]?=some m/\m.1=n:=by
    have:=HKS.out.m;rw [<- this,List.getElem?_map] at hn;obtain ⟨m,h1,h2⟩:=Option.map_eq_some_iff.1 hn;exact ⟨m,h1,h2⟩
   obtain ⟨nd,sf,sp⟩:=m;simp only at hmn;subst hmn;obtain ⟨⟨sA,sc,hs1⟩,⟨tA,tc,hs2⟩⟩:=HKS.out.s _ (List.mem_of_getElem? hm);simp only at hs1 hs2;subst hs1 hs2;obtain ⟨bk,ok,hA,_,_,hcell⟩:=Reads.elem (f:=ndL) (fun _=>rfl) T.out.kr.1 hm (by omega);replace hA:X.kA=some ⟨bk,ok,none⟩:=hA;have n0:=hcell 0 _ rfl;have n1:=hcell 1 _ rfl;have n2:=hcell 2 _ rfl;have n3:=hcell 3 _ rfl;have n4:=hcell 4 _ rfl;have n5:=hcell 5 _ rfl;have n6:=hcell 6 _ rfl;have n7:=hcell 7 _ rfl;have n8:=hcell 8 _ rfl;have n9:=hcell 9 _ rfl;have n10:=hcell 10 _ rfl;have n11:=hcell 11 _ rfl;have n12:=hcell 12 _ rfl;simp only [Nat.add_zero] at n0;have fa:=(Fr.refl wr.heap.size [] wr).alloc (Nat.le_refl _) (.cells (ndA nd (.slice sA nd.fr.length sc) (.slice tA nd.pg.length tc)) 66);have k1:=(cg0 (col:=colr) fa).paint 12;have BN:=zh (⟨Blk.new wr _ _,paint_ge (Nat.le_refl _)⟩:CB (paint colr wr.heap.size 12) 12 (wr.alloc (.cells (ndA nd (.slice sA nd.fr.length sc) (.slice tA nd.pg.length tc)) 66)) wr.heap.size 66 (ndA nd (.slice sA nd.fr.length sc) (.slice tA nd.pg.length tc)));have T1:=zh (T.out.cg k1 (fun _ _ h=>h));have B1:=zh (B.out.cg k1 (fun h=>h));have C1:=zh (C.out.trans (k1.mono (C':=SC) (fun _ h=>h.elim)));have HRN:=zh (record_next (x:=x) hn);have HSS:=zh hss
   have HFJ := zh (show Few (S.record x j) (b + 240) (q + 240) from (record_few HF.out x j).mono (by
     have h1:(j:Int) * (S.outs.length:Int)<=8 * 30:=by
      have h2:=HOL.out;have h3:S.outs.length<=30:=(by rw [h2,<- HNO.out];exact hno30);exact Int.mul_le_mul (by omega) (by omega) (by omega) (by omega)
     omega) (by
     have h1:j * S.outs.length<=8 * 30:=by
      have h2:=HOL.out;have h3:S.outs.length<=30:=(by rw [h2,<- HNO.out];exact hno30);exact Nat.mul_le_mul (by omega) h3
     omega))
   clear fa k1 hss hn hm hcell T B C;obtain ⟨g5,hg5⟩:=nm (wr.heap.size);rw [hA];go_upto_region 4 with fail;generalize paint colr _ _=col4 at *;rw [<- hg5] at BN ⊢;clear hg5 n0 n1 n2 n3 n4 n5 n6 n7 n8 n9 n10 n11 n12;generalize wr.alloc _=w4 at *;have m0:=BN.out.b.cell 0;have m5:=BN.out.b.cell 5;have m6:=BN.out.b.cell 6;have m7:=BN.out.b.cell 7;have m8:=BN.out.b.cell 8;have m9:=BN.out.b.cell 9;have m10:=BN.out.b.cell 10;have m11:=BN.out.b.cell 11;have m12:=BN.out.b.cell 12;have y0:=B1.out.b.cell 0;simp at m0 m5 m6 m7 m8 m9 m10 m11 m12 y0;have HTK:=zh (task_any nd.rt x0 w4);go_wp2_with fail;refine HTK.out.mono ?_;rintro e w5 ⟨rfl,f5⟩;have T5:=zh (T1.out.fr0 f5);have B5:=zh (B1.out.cg (cg0 f5) (fun h=>h));have BN5:=zh (BN.out.cg (cg0 f5) (fun h=>h));have C5:=zh (C1.out.trans (cgf SC f5));obtain ⟨tk,htk⟩:=nm (nd.rt (x0 % 8).toNat);rw [<- htk];have HTK2:=zh htk;clear f5 HTK T1 B1 BN C1 m0 m5 m6 m7 m8 m9 m10 m11 m12 y0 htk;have c18:w5.cell? ⟨g,18,none⟩=some (.slice X.oA no X.oc):=(by rw [HNO.out,<- HSS.out.om];exact T5.out.st.b.cell 18);go_upto_region 6 with fail;go_loopg [8,28] no (fun q5 s8 s28 wi=>∃ k:Nat,k<=no/\q5=no - k/\s28=.int .i64 k/\(s8=undef \/ ∃ a,s8=.pointer a)/\∃ uA uc coli,Hid (TaskM coli wi g ((S.record x j).toKid nd x k) { X with uA:=uA,uc:=uc })/\Hid (CB coli 12 wi gx 32 #[.int .i64 x0,.int .i64 x1,.int .i64 x2])/\Hid (CB coli 12 wi g5 66 (ndA nd (.slice sA nd.fr.length sc) (.slice tA nd.pg.length tc)))/\Hid (Cg SC col w coli wi))
   case atStart=>exact ⟨0,Nat.zero_le _,rfl,rfl,hs8,uA,uc,col4,T5,B5,BN5,C5⟩
   case round =>
    clear T5 B5 BN5 C5 c18;obtain ⟨k,hk2,rfl,rfl,hs8,uA,uc,coli,T,B,BN,C⟩:=hrel
    by_cases hkn:k < no
    ·
     have hki:(k:Int) < (no:Int):=by omega
     obtain ⟨R,hR⟩:=nm ((S.record x j).toKid nd x k);have hsr:SameS S R:=(by rw [hR];exact HSS.out.trans (toKid_sameS _ _ _ _));have hfr:Few R (b+270) (q+270):=(by rw [hR];exact (toKid_few HFJ.out nd x k).mono (by omega) (by omega));obtain ⟨mx,hmx⟩:∃ mx,S.om[k]?=some mx:=⟨_,List.getElem?_eq_getElem (by rw [<- HNO.out];exact hkn)⟩;obtain ⟨gk,hgk⟩:∃ gk,X.go[k]?=some gk:=⟨_,List.getElem?_eq_getElem (by rw [HGO.out,<- HNO.out];exact hkn)⟩;obtain ⟨sk,hsk⟩:∃ sk,R.outs[k]?=some sk:=⟨_,List.getElem?_eq_getElem (by rw [hsr.len,HOL.out,<- HNO.out];exact hkn)⟩;have hmx2:R.om[k]?=some mx:=(by rw [hsr.om];exact hmx)
     have HNX := zh (show (S.record x j).toKid nd x (k + 1) = if mx.1 = nd.id /\ mx.2.1 = tk then R.put k (recI x) else R by
      rw [toKid_next,<- hR];unfold TaskS.putTo;rw [hmx2];simp only
      rw [HTK2.out,HX0.out])
     rw [<- hR] at T;have hz:(X.go.zip R.om)[k]?=some (gk,mx):=(by rw [List.getElem?_zip_eq_some];exact ⟨hgk,hmx2⟩);obtain ⟨bo,oo,hA2,_,_,hcell⟩:=Reads.elem outF_len T.out.or_.1 hz (by omega);replace hA2:X.oA=some ⟨bo,oo,none⟩:=hA2;have o0:=hcell 0 _ rfl;have o1:=hcell 1 _ rfl;have o2:=hcell 2 _ rfl;have o3:=hcell 3 _ rfl;simp only [Nat.add_zero] at o0 o1 o2 o3;have hsm:=hfr.1 sk (List.mem_of_getElem? hsk);have F1:=(Fr.refl wr.heap.size [] wr).alloc (Nat.le_refl _) (.cells #[.pointer (some ⟨gk,0,none⟩),.int .i64 mx.1,.int .i64 mx.2.1,.int .i64 mx.2.2] 170);have T1:=zh (T.out.fr0 F1);have HPT:=zh (put_any T1.out k gk mx sk hgk hmx2 hsk (by omega) hsm.2.1 (by omega) (by have:=hfr.2;omega) (recI x));have C1:=zh (C.out.trans (cgf SC F1));have B1:=zh (B.out.cg (cg0 F1) (fun h=>h));have BN1:=zh (BN.out.cg (cg0 F1) (fun h=>h));have BO1:=zh (Blk.new wr 170 #[.pointer (some ⟨gk,0,none⟩),.int .i64 mx.1,.int .i64 mx.2.1,.int .i64 mx.2.2]);rw [HX.out] at HPT;clear hcell hz hsm hsk hmx hmx2 hgk hR hsr hfr T B BN C F1;obtain ⟨g8,hg8⟩:=nm (wr.heap.size);rw [hA2];go_upto_region 8 with fail;rw [<- hg8] at BO1 ⊢;clear hg8 o0 o1 o2 o3;generalize wr.alloc _=w6 at *;have d0:=BO1.out.cell 0;have d1:=BO1.out.cell 1;have d2:=BO1.out.cell 2;have d3:=BO1.out.cell 3;have m0:=BN1.out.b.cell 0;have y0:=B1.out.b.cell 0;have y1:=B1.out.b.cell 1;have y2:=B1.out.b.cell 2;simp at d0 d1 d2 d3 m0 y0 y1 y2;obtain ⟨e1,he1⟩:=nm (nd.id);rw [<- he1] at m0 HNX;have HE1:=zh he1;clear he1
     by_cases hh1:mx.1=e1
     ·
      by_cases hh2:mx.2.1=tk
      ·
       have hb1:(mx.1 == e1)=true:=by rw [beq_iff_eq];exact hh1
       have hb2:(mx.2.1 == tk)=true:=(by rw [beq_iff_eq];exact hh2);have HNX2:=zh (show (S.record x j).toKid nd x (k+1)=R.put k (recI x) by rw [HNX.out,if_pos ⟨hh1,hh2⟩]);clear hh1 hh2;go_wp2_with fail;refine HPT.out.mono ?_;rintro e w7 ⟨uA2,uc2,col7,rfl,htm,hcg⟩;rw [<- HX.out,<- HNX2.out] at htm;have T2:=zh htm;have B2:=zh (B1.out.cg hcg (by unfold SC;omega));have BN2:=zh (BN1.out.cg hcg (by unfold SC;omega));have C2:=zh (C1.out.trans hcg);clear htm hcg HPT T1 B1 BN1 C1 BO1 d0 d1 d2 d3 m0 y0 y1 y2;go_wp2_with fail;rw [<- hA2];go_roundg (no - (k+1))
       case measure=>omega
       case rel=>exact ⟨k+1,hkn,rfl,by go_num,.inr ⟨_,rfl⟩,uA2,uc2,col7,T2,B2,BN2,C2⟩
      ·
       have hb1:(mx.1 == e1)=true:=by rw [beq_iff_eq];exact hh1
       have hb2:(mx.2.1 == tk)=false:=(by rw [beq_eq_false_iff_ne];exact hh2);have T2:=zh (by rw [HNX.out,if_neg (by intro h;exact hh2 h.2)];exact T1.out:TaskM coli w6 g ((S.record x j).toKid nd x (k+1)) { X with uA:=uA,uc:=uc });clear hh1 hh2 HPT;go_wp2_with fail;rw [<- hA2];go_roundg (no - (k+1))
       case measure=>omega
       case rel=>exact ⟨k+1,hkn,rfl,by go_num,.inr ⟨_,rfl⟩,uA,uc,coli,T2,B1,BN1,C1⟩
     ·
      have hb1:(mx.1 == e1)=false:=by rw [beq_eq_false_iff_ne];exact hh1
      have T2:=zh (by rw [HNX.out,if_neg (by intro h;exact hh1 h.1)];exact T1.out:TaskM coli w6 g ((S.record x j).toKid nd x (k+1)) { X with uA:=uA,uc:=uc });clear hh1 HPT;go_wp2_with fail;rw [<- hA2];go_roundg (no - (k+1))
      case measure=>omega
      case rel=>exact ⟨k+1,hkn,rfl,by go_num,.inr ⟨_,rfl⟩,uA,uc,coli,T2,B1,BN1,C1⟩
    ·
     obtain rfl:k=no:=by omega
     have T9:=zh (by have h9:=T.out;rw [HNO.out,<- HOL.out,<- HSS.out.len,<- HRN.out] at h9;exact h9:TaskM coli wr g (S.record x (j+1)) { X with uA:=uA,uc:=uc });go_wp2_with fail;rw [<- hA];go_roundg (nk - (j+1))
     case measure=>omega
     case rel=>exact ⟨j+1,hjn,rfl,by go_num,.inr ⟨_,rfl⟩,.inr ⟨_,rfl⟩,hs8,.inr ⟨_,rfl⟩,uA,uc,coli,T9,B,C⟩
  ·
   obtain rfl:j=nk:=by omega
   go_wp2_with fail;exact bodyPost_end (results_none rfl _ _ _) rfl ⟨uA,uc,colr,rfl,T.out,C.out⟩
end
end Go.Proofs.YtgblfflikgnfpaaGreat
namespace Go.Proofs.YtgblfflikgnfpaaGreat
open Go.RowKit Go.Fb
set_option maxRecDepth 100000
set_option maxHeartbeats 16000000
set_option linter.unusedVariables false
def RCo (c:Nat):Prop:=¬ TC c/\c ≠ 12
def ReadOut (col:Nat->Nat) (cs:Nat) (g:Nat) (S2:TaskS) (did:Bool) (U:(Nat->Nat)->World->Prop) (Rv:Value->(Nat->Nat)->World->Prop) (w:World) (e:Ending) (w':World):Prop :=
 ∃ V X' col',e=.returned (.tuple #[V,.bool did])/\TaskM col' w' g S2 X'/\Cg (fun c=>SC c \/ c=cs) col w col' w'/\U col' w'/\Rv V col' w'
section
variable {col:Nat->Nat} {w:World} {g:Nat} {S:TaskS} {X:TX}
theorem asked_cells (h:TaskM col w g S X):w.cell? ⟨g,20,none⟩=some (.bool S.asked.b)/\w.cell? ⟨g,21,none⟩=some (.int .i64 S.asked.k)/\w.cell? ⟨g,22,none⟩=some (.int .i64 S.asked.re)/\w.cell? ⟨g,23,none⟩=some (.int .i64 S.asked.im)/\w.cell? ⟨g,24,none⟩=some (.int .i64 S.asked.ep)/\w.cell? ⟨g,25,none⟩=some (.bool S.asked.p)/\w.cell? ⟨g,26,none⟩=some (.bool S.stop)/\w.cell? ⟨g,15,none⟩=some (.int .i64 S.ix) :=
 ⟨h.st.b.cell 20,h.st.b.cell 21,h.st.b.cell 22,h.st.b.cell 23,h.st.b.cell 24,h.st.b.cell 25,h.st.b.cell 26,h.st.b.cell 15⟩
theorem read_stop (h:TaskM col w g S X) (hr:S.room 1=true) (ha:S.asked.b=false) (hs:S.stop=true) (vs:Value) :
  Calls Tryz.prog 64 #[.pointer (some ⟨g,0,none⟩),vs] w fun e w'=>e=.returned (.tuple #[.slice none 0 0,.bool false])/\Fr w.heap.size [] w w':=by
 have HRM:=zh (by have:=room_any h 1;rw [hr] at this;exact this:Calls Tryz.prog 100 #[.pointer (some ⟨g,0,none⟩),.int .i64 1] w fun e w'=>e=.returned (.bool true)/\Fr w.heap.size [] w w');have HM:=zh h;clear h hr;go_enter Tryz.func64,Tryz.ntmps64;go_wp2_with fail;refine HRM.out.mono ?_;rintro e w2 ⟨rfl,f2⟩;have F2:=zh f2;have T2:=zh (HM.out.fr0 f2);clear f2 HM HRM;obtain ⟨c20,c21,c22,c23,c24,c25,c26,c15⟩:=asked_cells T2.out;rw [ha] at c20;rw [hs] at c26;have FA:=zh (F2.out.alloc F2.out.size (.cells #[.bool false,.int .i64 S.asked.k,.int .i64 S.asked.re,.int .i64 S.asked.im,.int .i64 S.asked.ep,.bool S.asked.p] 46));have TA:=zh (T2.out.fr0 ((Fr.refl w2.heap.size [] w2).alloc (Nat.le_refl _) (.cells #[.bool false,.int .i64 S.asked.k,.int .i64 S.asked.re,.int .i64 S.asked.im,.int .i64 S.asked.ep,.bool S.asked.p] 46)));go_upto_region 4 with fail;have d26:=(asked_cells TA.out).2.2.2.2.2.2.1;rw [hs] at d26;clear ha hs;go_wp2_with fail;go_ret2;exact ⟨rfl,FA.out⟩
section
variable {base gs gp P:Nat} {r:Nat->Int} {R:Nat->List (Nat->Int)} {V:Nat->Value} {a:Nat->Int}
theorem read_end (h:TaskM col w g S X) (hr:S.room 1=true) (ha:S.asked.b=false) (hs:S.stop=false) (hsp:Sp base gs gp P r R V a w) {i at_:Nat} (hi:i < P) (hix:S.ix=(i:Int)) (hat:a i=(at_:Int)) (hx:(R i).length<=at_) :
  Calls Tryz.prog 64 #[.pointer (some ⟨g,0,none⟩),.pointer (some ⟨gs,0,none⟩)] w fun e w'=>e=.returned (.tuple #[.slice none 0 0,.bool false])/\Fr w.heap.size [] w w':=by
 have HRM:=zh (by have:=room_any h 1;rw [hr] at this;exact this:Calls Tryz.prog 100 #[.pointer (some ⟨g,0,none⟩),.int .i64 1] w fun e w'=>e=.returned (.bool true)/\Fr w.heap.size [] w w');have HM:=zh h;have HSP:=zh hsp;clear h hr hsp;go_enter Tryz.func64,Tryz.ntmps64;go_wp2_with fail;refine HRM.out.mono ?_;rintro e w2 ⟨rfl,f2⟩;have F2:=zh f2;have T2:=zh (HM.out.fr0 f2);obtain ⟨c20,c21,c22,c23,c24,c25,c26,c15⟩:=asked_cells T2.out;rw [ha] at c20;have fa:=(Fr.refl w2.heap.size [] w2).alloc (Nat.le_refl _) (.cells #[.bool false,.int .i64 S.asked.k,.int .i64 S.asked.re,.int .i64 S.asked.im,.int .i64 S.asked.ep,.bool S.asked.p] 46);have FA:=zh (F2.out.nx fa);have TA:=zh (T2.out.fr0 fa);have BI:=zh (Blk.new w2 46 #[.bool false,.int .i64 S.asked.k,.int .i64 S.asked.re,.int .i64 S.asked.im,.int .i64 S.asked.ep,.bool S.asked.p]);have HRD:=zh (spread_end ((HSP.out.keep f2).keep fa) hi hat hx);clear f2 HM HRM fa HSP;go_upto_region 4 with fail;obtain ⟨_,_,_,_,_,_,d26,d15⟩:=asked_cells TA.out;rw [hs] at d26;rw [hix] at d15;clear ha hs hat hx hix c20 c21 c22 c23 c24 c25 c26 c15;generalize w2.alloc _=w3 at *;have i0:=BI.out.cell 0;simp at i0;clear BI;go_wp2_with fail;refine HRD.out.mono ?_;rintro e w4 ⟨rfl,f4⟩;have F4:=zh ((FA.out.nx f4).alloc (FA.out.nx f4).size (.cells rec0 32));clear f4 HRD;go_wp2_with fail;go_ret2;exact ⟨rfl,F4.out⟩
theorem read_rec (h:TaskM col w g S X) (hr:S.room 1=true) (ha:S.asked.b=false) (hs:S.stop=false) (b:Int) (q:Nat) (hb:b<=1000000000) (hq:q<=100000) (hf:Few S b q) (hk:S.kids.length<=8) (cs:Nat) (hcs:RCo cs) (hsp:Sp base gs gp P r R V a w) (hcl:SpC col cs gs gp P V) {i at_:Nat} (hi:i < P) (hix:S.ix=(i:Int)) (hat:a i=(at_:Int)) (hl:(R i).length<=400) {x:Nat->Int} (hx:(R i)[at_]?=some x) :
  Calls Tryz.prog 64 #[.pointer (some ⟨g,0,none⟩),.pointer (some ⟨gs,0,none⟩)] w (ReadOut col cs g (S.record x S.kids.length) true (fun col' w'=>Sp base gs gp P r R V (updA a i ((at_:Int)+1)) w'/\SpC col' cs gs gp P V) (fun V _ _=>V=.slice none 0 0) w):=by
 have HRM:=zh (by have:=room_any h 1;rw [hr] at this;exact this:Calls Tryz.prog 100 #[.pointer (some ⟨g,0,none⟩),.int .i64 1] w fun e w'=>e=.returned (.bool true)/\Fr w.heap.size [] w w');have HM:=zh h;have HSP:=zh hsp;have HF:=zh hf;have HCL:=zh hcl;clear h hr hsp hf hcl;go_enter Tryz.func64,Tryz.ntmps64;go_wp2_with fail;refine HRM.out.mono ?_;rintro e w2 ⟨rfl,f2⟩;have F2:=zh f2;have T2:=zh (HM.out.fr0 f2);obtain ⟨c20,c21,c22,c23,c24,c25,c26,c15⟩:=asked_cells T2.out;rw [ha] at c20;have fa:=(Fr.refl w2.heap.size [] w2).alloc (Nat.le_refl _) (.cells #[.bool false,.int .i64 S.asked.k,.int .i64 S.asked.re,.int .i64 S.asked.im,.int .i64 S.asked.ep,.bool S.asked.p] 46);have C3:=zh (cgf (col:=col) (fun c=>SC c \/ c=cs) (F2.out.nx fa));have TA:=zh (T2.out.fr0 fa);have BI:=zh (Blk.new w2 46 #[.bool false,.int .i64 S.asked.k,.int .i64 S.asked.re,.int .i64 S.asked.im,.int .i64 S.asked.ep,.bool S.asked.p]);have HRD:=zh (spread_any ((HSP.out.keep f2).keep fa) hi hat hl hx);have HX:=zh hx;clear f2 HM HRM fa HSP F2 T2;go_upto_region 4 with fail;obtain ⟨_,_,_,_,_,_,d26,d15⟩:=asked_cells TA.out;rw [hs] at d26;rw [hix] at d15;clear ha hs hat hx hix c20 c21 c22 c23 c24 c25 c26 c15 hl;generalize w2.alloc _=w3 at *;have i0:=BI.out.cell 0;simp at i0;clear BI;go_wp2_with fail;refine HRD.out.mono ?_;rintro e w4 ⟨rfl,hs4,f4⟩;have k4:Cg (· = cs) col w3 col w4:=Cg.of_fr f4 (by intro q hq;simp at hq;subst hq;exact HCL.out.2.1);have T4:=zh (TA.out.cg k4 (fun c hc h=>by subst h;exact hcs.1 hc));have C4:=zh (C3.out.trans (k4.mono (fun c hc=>.inr hc)));have S4:=zh hs4;have fb:=(Fr.refl w4.heap.size [] w4).alloc (Nat.le_refl _) (.cells (recA x) 32);have T5:=zh (T4.out.fr0 fb);have S5:=zh (S4.out.keep fb);have C5:=zh (C4.out.trans (cgf _ fb));have HRC:=zh (record_any T5.out b q hb hq HF.out hk x);clear hs4 f4 k4 fb T4 S4 C4 TA C3 HRD d26 d15;go_wp2_with fail;refine HRC.out.mono ?_;rintro e w6 ⟨uA,uc,col6,rfl,htm,hcg⟩;have T6:=zh htm;have S6:=zh (S5.out.cg HCL.out hcg (fun h=>hcs.1 (by unfold SC at h;unfold TC;omega)));have C6:=zh (C5.out.trans (hcg.mono (fun c hc=>.inl hc)));clear htm hcg HRC T5 S5 C5;go_wp2_with fail;go_ret2;exact ⟨_,_,col6,rfl,T6.out,C6.out,S6.out,rfl⟩
def TaskS.begun (S:TaskS):TaskS:={ S with stop:=S.asked.p,asked:=Itm.zero }
theorem barB_any {ak are aim aep av:Int} {ap:Bool} {SB:TaskS} {AB:AckS} (h:TaskM col w g S.begun X) (hA:(⟨true,ak,are,aim,aep,ap⟩:Itm)=S.asked) (hok:TOk S.T) (hln:S.lns.length<=1000000) (hq:S.out.length<=900000) (ho:∀ o ∈ S.outs,o.ws.length<=6/\0<=o.last/\o.last<=1099511627776) (hSB:SB=S.begun.puts S.asked S.om.length) (hAB:AB=S.begun.ack S.asked av) :
  Calls Tryz.prog 101 #[.pointer (some ⟨g,0,none⟩),.agg #[.bool true,.int .i64 ak,.int .i64 are,.int .i64 aim,.int .i64 aep,.bool ap],.int .i64 av] w (BarOut col g SB X AB w):=by
 have h9:=barrier_any h hok hln hq ho ⟨true,ak,are,aim,aep,ap⟩ av;rw [hSB,hAB,<- hA];exact h9
theorem ack_one {AB:AckS} {eA lA:Option Addr} {ec lc:Nat} (h1:CRd (paint col w.heap.size 12) 12 (w.alloc (.cells (ackV AB eA ec lA lc) 72)) 6 eA AB.ents.length (cellsE AB.ents)) (h2:CRd (paint col w.heap.size 12) 12 (w.alloc (.cells (ackV AB eA ec lA lc) 72)) 5 lA AB.lns.length (cellsLn AB.lns)) :
  AckM AB (.slice (some ⟨w.heap.size,0,none⟩) 1 1) (paint col w.heap.size 12) (w.alloc (.cells (ackV AB eA ec lA lc) 72)):=by
 refine ⟨some ⟨w.heap.size,0,none⟩,1,eA,ec,lA,lc,rfl,⟨(Reads.of_blk (m:=1) (size:=6) (Blk.new w 72 (ackV AB eA ec lA lc)) rfl).more (by simp),?_⟩,h1,h2⟩;rintro ad had _;injection had with had
 rw [<- had];exact paint_ge (Nat.le_refl _)
theorem read_bar (h:TaskM col w g S X) (hr:S.room 1=true) (ha:S.asked.b=true) (hok:TOk S.T) (hln:S.lns.length<=1000000) (hq:S.out.length<=900000) (ho:∀ o ∈ S.outs,o.ws.length<=6/\0<=o.last/\o.last<=1099511627776) (cs:Nat) (hcs:RCo cs) (hsp:Sp base gs gp P r R V a w) (hcl:SpC col cs gs gp P V) {i:Nat} (hi:i < P) (hix:S.ix=(i:Int)) :
  Calls Tryz.prog 64 #[.pointer (some ⟨g,0,none⟩),.pointer (some ⟨gs,0,none⟩)] w fun e w'=>∃ V X' col',e=.returned (.tuple #[V,.bool true])/\TaskM col' w' g (S.begun.puts S.asked S.om.length) X'/\Cg SC col w col' w'/\AckM (S.begun.ack S.asked (a i)) V col' w':=by
 have HRM:=zh (by have:=room_any h 1;rw [hr] at this;exact this:Calls Tryz.prog 100 #[.pointer (some ⟨g,0,none⟩),.int .i64 1] w fun e w'=>e=.returned (.bool true)/\Fr w.heap.size [] w w');have HM:=zh h;have HSP:=zh hsp;obtain ⟨SB,hSB⟩:=nm (S.begun.puts S.asked S.om.length);obtain ⟨AB,hAB⟩:=nm (S.begun.ack S.asked (a i));rw [<- hSB,<- hAB];have HSB:=zh hSB;have HAB:=zh hAB;have HOK:=zh hok;have HLN:=zh hln;have HQ:=zh hq;have HO:=zh ho;have hiP:(i:Int) < (P:Int):=(by omega);clear h hr hsp hSB hAB hok hln hq ho;go_enter Tryz.func64,Tryz.ntmps64;go_wp2_with fail;refine HRM.out.mono ?_;rintro e w2 ⟨rfl,f2⟩;have F2:=zh f2;have T2:=zh (HM.out.fr0 f2);obtain ⟨c20,c21,c22,c23,c24,c25,c26,c15⟩:=asked_cells T2.out;obtain ⟨⟨ab,ak,are,aim,aep,ap⟩,hA⟩:∃ A,A=S.asked:=⟨_,rfl⟩;rw [<- hA] at c20 c21 c22 c23 c24 c25 ha;simp only at ha;subst ha;simp only at c20 c21 c22 c23 c24 c25;have HAS:=zh hA;have fa:=(Fr.refl w2.heap.size [] w2).alloc (Nat.le_refl _) (.cells #[.bool true,.int .i64 ak,.int .i64 are,.int .i64 aim,.int .i64 aep,.bool ap] 46);obtain ⟨col1,hcol1⟩:=nm (paint col w.heap.size 12);have C3:=zh (by rw [hcol1];exact (cgf (col:=col) SC (F2.out.nx fa)).paint 12:Cg SC col w col1 _);have TA:=zh (by rw [hcol1];exact HM.out.cg ((cg0 (F2.out.nx fa)).paint 12) (fun _ _ h=>h):TaskM col1 _ g S X);have BI:=zh (⟨Blk.new w2 46 #[.bool true,.int .i64 ak,.int .i64 are,.int .i64 aim,.int .i64 aep,.bool ap],by rw [hcol1];exact paint_ge F2.out.size⟩:CB col1 12 _ w2.heap.size 46 #[.bool true,.int .i64 ak,.int .i64 are,.int .i64 aim,.int .i64 aep,.bool ap]);have SP3:=zh ((HSP.out.keep f2).keep fa)
 have HCS := zh (show ¬ col1 gs = 1 /\ ¬ col1 gp = 1 /\ ∀ i, i < P -> ∀ q, (V i).ownBlock = some q -> ¬ col1 q = 1 from by
  have hn1:cs ≠ 1:=fun h=>hcs.1 (by rw [h];unfold TC;omega);have hw2:=HSP.out;refine ⟨?_,?_,fun i hi q hq => ?_⟩
  · rw [hcol1,paint_lt hw2.st.lt,hcl.1];exact hn1
  · rw [hcol1,paint_lt hw2.pt.lt,hcl.2.1];exact hn1
  · rw [hcol1,paint_lt ((hw2.own i hi).lt q hq).2,hcl.2.2 i hi q hq];exact hn1)
 clear f2 HM HRM fa HSP F2 hA hcol1;obtain ⟨gi,hgi⟩:=nm (w2.heap.size);have hgg:g ≠ gi:=(by have:=T2.out.st.b.lt;omega);go_upto_region 4 with fail;rw [<- hgi] at BI ⊢;generalize w2.alloc _=w3 at *;clear T2 c20 c21 c22 c23 c24 c25 c26 c15 hgi;have i0:=BI.out.b.cell 0;simp at i0;obtain ⟨c20,c21,c22,c23,c24,c25,c26,c15⟩:=asked_cells TA.out;rw [<- HAS.out] at c20 c21 c22 c23 c24 c25;simp only at c20 c21 c22 c23 c24 c25;obtain ⟨sb,hsb⟩:=nm (S.stop);rw [<- hsb] at c26;clear hsb;have f20:=TA.out.st.b.frozen 20;have f21:=TA.out.st.b.frozen 21;have f22:=TA.out.st.b.frozen 22;have f23:=TA.out.st.b.frozen 23;have f24:=TA.out.st.b.frozen 24;have f25:=TA.out.st.b.frozen 25;have f26:=TA.out.st.b.frozen 26;go_upto_region 5 with fail;have hk:=TA.out.st.k;have KM:=zh ((((((((Cg.refl (· = 1) col1 w3).set (p:=⟨g,20,none⟩) hk (.bool false)).set (p:=⟨g,21,none⟩) hk (.int .i64 0)).set (p:=⟨g,22,none⟩) hk (.int .i64 0)).set (p:=⟨g,23,none⟩) hk (.int .i64 0)).set (p:=⟨g,24,none⟩) hk (.int .i64 0)).set (p:=⟨g,25,none⟩) hk (.bool false)).set (p:=⟨g,26,none⟩) hk (.bool ap))
 have HMK := zh (TA.out.mark S.asked.p Itm.zero KM.out (by
  have hb:=((((((TA.out.st.b.set_ 20 (.bool false)).set_ 21 (.int .i64 0)).set_ 22 (.int .i64 0)).set_ 23 (.int .i64 0)).set_ 24 (.int .i64 0)).set_ 25 (.bool false)).set_ 26 (.bool ap);rw [<- HAS.out]
  simpa [Itm.zero] using hb))
 have i5:=BI.out.b.cell 5;simp at i5;have SF:=zh (fun (W:World) (hW:Cg (· = 1) col1 w3 col1 W)=>((BI.out.cg hW (by omega)).b.cell 5:W.cell? ⟨gi,5,none⟩=some (.bool ap)));have K6:=zh ((((((((Cg.refl (· = 1) col1 w3).set (p:=⟨g,20,none⟩) hk (.bool false)).set (p:=⟨g,21,none⟩) hk (.int .i64 0)).set (p:=⟨g,22,none⟩) hk (.int .i64 0)).set (p:=⟨g,23,none⟩) hk (.int .i64 0)).set (p:=⟨g,24,none⟩) hk (.int .i64 0)).set (p:=⟨g,25,none⟩) hk (.bool false)).drew);have d20:w3.drew.cell? ⟨g,20,none⟩=some (.bool true):=c20;have d21:w3.drew.cell? ⟨g,21,none⟩=some (.int .i64 ak):=c21;have d22:w3.drew.cell? ⟨g,22,none⟩=some (.int .i64 are):=c22;have d23:w3.drew.cell? ⟨g,23,none⟩=some (.int .i64 aim):=c23;have d24:w3.drew.cell? ⟨g,24,none⟩=some (.int .i64 aep):=c24;have d25:w3.drew.cell? ⟨g,25,none⟩=some (.bool ap):=c25;have e20:w3.drew.frozen? ⟨g,20,none⟩=false:=f20;have e21:w3.drew.frozen? ⟨g,21,none⟩=false:=f21;have e22:w3.drew.frozen? ⟨g,22,none⟩=false:=f22;have e23:w3.drew.frozen? ⟨g,23,none⟩=false:=f23;have e24:w3.drew.frozen? ⟨g,24,none⟩=false:=f24;have e25:w3.drew.frozen? ⟨g,25,none⟩=false:=f25;have d26:w3.drew.cell? ⟨g,26,none⟩=some (.bool sb):=c26;have e26:w3.drew.frozen? ⟨g,26,none⟩=false:=f26;refine wp_region_held_drew (S:=fun W=>W.cell? ⟨gi,5,none⟩=some (.bool ap)) (by kernel_rfl) (SF.out _ (Cg.refl _ _ _).drew) (fun hHeld => ?_);refine tk (i:=0) (oi:=⟨some 20,_,_,_,_,_⟩) (v:=?_) rfl ?_ hHeld ?_
 rotate_left
 · intro w hSw;(try dsimp only at hSw);go_simp;(try with_reducible rfl)
 simp only [Act.put,lPt];refine tk (i:=1) (oi:=⟨some 21,_,_,_,_,_⟩) (v:=?_) rfl ?_ hHeld ?_
 rotate_left
 · intro w hSw;(try dsimp only at hSw);go_simp;(try with_reducible rfl)
 simp only [Act.put,lPt];refine tk (i:=2) (oi:=⟨some 22,_,_,_,_,_⟩) (v:=?_) rfl ?_ hHeld ?_
 rotate_left
 · intro w hSw;(try dsimp only at hSw);go_simp;(try with_reducible rfl)
 simp only [Act.put,lPt];refine tk (i:=3) (oi:=⟨some 23,_,_,_,_,_⟩) (v:=?_) rfl ?_ hHeld ?_
 rotate_left
 · intro w hSw;(try dsimp only at hSw);go_simp;(try with_reducible rfl)
 simp only [Act.put,lPt];refine tk (i:=4) (oi:=⟨some 24,_,_,_,_,_⟩) (v:=?_) rfl ?_ hHeld ?_
 rotate_left
 · intro w hSw;(try dsimp only at hSw);go_simp;(try with_reducible rfl)
 simp only [Act.put,lPt];refine tk (i:=5) (oi:=⟨some 25,_,_,_,_,_⟩) (v:=?_) rfl ?_ hHeld ?_
 rotate_left
 · intro w hSw;(try dsimp only at hSw);go_simp;(try with_reducible rfl)
 simp only [Act.put,lPt];refine tk (i:=6) (oi:=⟨some 26,_,_,_,_,_⟩) (v:=?_) rfl ?_ hHeld ?_
 rotate_left
 · intro w hSw;(try dsimp only at hSw);go_simp;(try with_reducible rfl)
 simp only [Act.put,lPt];refine wpAnyH_ready (rs:=[7]) (by kernel_rfl) (by simp) ?_;refine AllReadyH.cons (o:=⟨none,_,_,_,_,_⟩) rfl (fun K hK => ?_) AllReadyH.nil;rw [if_pos (by rfl)];go_simp;refine hK.out _ _ (SF.out _ K6.out) (fun hHeld => ?_);clear hK K
 try simp only [Act.put]
 refine tk (i:=8) (oi:=⟨some 27,_,_,_,_,_⟩) (v:=?_) rfl ?_ hHeld ?_
 rotate_left
 · intro w hSw;(try dsimp only at hSw);go_simp;(try with_reducible rfl)
 simp only [Act.put,lPt];refine tk (i:=9) (oi:=⟨some 28,_,_,_,_,_⟩) (v:=?_) rfl ?_ hHeld ?_
 rotate_left
 · intro w hSw;(try dsimp only at hSw);go_simp;(try with_reducible rfl)
 simp only [Act.put,lPt];refine wpAnyH_ready (rs:=[10]) (by kernel_rfl) (by simp) ?_;refine AllReadyH.cons (o:=⟨none,_,_,_,_,_⟩) rfl (fun K hK => ?_) AllReadyH.nil;rw [if_pos (by rfl)];go_simp;refine hK.out _ _ (SF.out _ KM.out.drew) (fun hHeld => ?_);clear hK K
 try simp only [Act.put]
 refine wpAnyH_done (by kernel_rfl) ?_ _;have T4:TaskM col1 ((((((((w3.setCell ⟨g,20,none⟩ (.bool false)).setCell ⟨g,21,none⟩ (.int .i64 0)).setCell ⟨g,22,none⟩ (.int .i64 0)).setCell ⟨g,23,none⟩ (.int .i64 0)).setCell ⟨g,24,none⟩ (.int .i64 0)).setCell ⟨g,25,none⟩ (.bool false)).setCell ⟨g,26,none⟩ (.bool ap)).drew) g S.begun X:=HMK.out.fr0 (Fr.refl _ _ _).drew;have K4:Cg (· = 1) col1 w3 col1 ((((((((w3.setCell ⟨g,20,none⟩ (.bool false)).setCell ⟨g,21,none⟩ (.int .i64 0)).setCell ⟨g,22,none⟩ (.int .i64 0)).setCell ⟨g,23,none⟩ (.int .i64 0)).setCell ⟨g,24,none⟩ (.int .i64 0)).setCell ⟨g,25,none⟩ (.bool false)).setCell ⟨g,26,none⟩ (.bool ap)).drew):=KM.out.drew;have T4:=zh T4;have K4:=zh K4
 have SP4 := zh (show Sp base gs gp P r R V a ((((((((w3.setCell ⟨g, 20, none⟩ (.bool false)).setCell ⟨g, 21, none⟩ (.int .i64 0)).setCell ⟨g, 22, none⟩ (.int .i64 0)).setCell ⟨g, 23, none⟩ (.int .i64 0)).setCell ⟨g, 24, none⟩ (.int .i64 0)).setCell ⟨g, 25, none⟩ (.bool false)).setCell ⟨g, 26, none⟩ (.bool ap)).drew) from by
  obtain ⟨L,hf,hL⟩:=K4.out.toFr;have hc9:=HCS.out
  exact SP3.out.fr_ hf (Nat.le_refl _) (fun hm=>hc9.1 (hL _ hm)) (fun hm=>hc9.2.1 (hL _ hm)) (fun i hi q hq hm=>hc9.2.2 i hi q hq (hL _ hm)))
 have BI4:=zh (BI.out.cg K4.out (by omega));have C4:=zh (C3.out.trans (K4.out.mono (C':=SC) (fun c hc=>.inl hc)));clear hHeld d20 d21 d22 d23 d24 d25 d26 e20 e21 e22 e23 e24 e25 e26 c20 c21 c22 c23 c24 c25 c26 c15 f20 f21 f22 f23 f24 f25 f26 KM K6 HMK i0 i5 SF BI C3 TA SP3 hk HCS K4;generalize ((((((((w3.setCell ⟨g,20,none⟩ (.bool false)).setCell ⟨g,21,none⟩ (.int .i64 0)).setCell ⟨g,22,none⟩ (.int .i64 0)).setCell ⟨g,23,none⟩ (.int .i64 0)).setCell ⟨g,24,none⟩ (.int .i64 0)).setCell ⟨g,25,none⟩ (.bool false)).setCell ⟨g,26,none⟩ (.bool ap)).drew)=w4 at *;go_wp2_with fail;refine (offs_any SP4.out).mono ?_;rintro e w5 ⟨oA,oc,rfl,hown,f5⟩;have T5:=zh (T4.out.fr0 f5);have BI5:=zh (BI4.out.cg (cg0 f5) (fun h=>h));have C5:=zh (C4.out.trans (cgf SC f5));obtain ⟨bo,oo,hoA,_,hcell⟩:=(Reads.of_own hown).2 (by omega);subst hoA;have x0:=hcell i _ (offsL_get hi);have d15:w5.cell? ⟨g,15,none⟩=some (.int .i64 (i:Int)):=(by rw [<- hix];exact T5.out.st.b.cell 15);obtain ⟨av,hav⟩:=nm (a i);rw [<- hav] at x0;have HBA:=zh (barB_any T5.out HAS.out HOK.out HLN.out HQ.out HO.out HSB.out (hav ▸ HAB.out));have q0:=BI5.out.b.cell 0;have q1:=BI5.out.b.cell 1;have q2:=BI5.out.b.cell 2;have q3:=BI5.out.b.cell 3;have q4:=BI5.out.b.cell 4;have q5:=BI5.out.b.cell 5;simp at q0 q1 q2 q3 q4 q5;have hi0:(0:Int)<=(i:Int):=(by omega);clear hown f5 hcell T4 BI4 SP4 C4 hav;go_wp2_with fail;refine HBA.out.mono ?_;rintro e w6 ⟨uA,uc,eA,ec,lA,lc,col6,rfl,hre,hrl,htm,hcg⟩;have FB:=(Fr.refl w6.heap.size [] w6).alloc (Nat.le_refl _) (.cells (ackV AB eA ec lA lc) 72);have CB6:=(cg0 (col:=col6) FB).paint 12;have R1:=zh (hre.cg CB6 (fun h=>h));have R2:=zh (hrl.cg CB6 (fun h=>h));have T6:=zh (htm.cg CB6 (fun _ _ h=>h));have C6:=zh ((C5.out.trans hcg).trans (CB6.mono (C':=SC) (fun _ h=>h.elim)));clear hre hrl htm hcg CB6 FB C5 T5 BI5 HBA x0 d15 q0 q1 q2 q3 q4 q5;go_wp2_with fail;go_ret2;have AM:=ack_one (AB:=AB) (col:=col6) (w:=w6) R1.out R2.out;exact ⟨.slice (some ⟨w6.heap.size,0,none⟩) 1 1,{ X with uA:=uA,uc:=uc },paint col6 w6.heap.size 12,rfl,T6.out,C6.out,AM⟩
end
end
end Go.Proofs.YtgblfflikgnfpaaGreat
namespace Go.Proofs.YtgblfflikgnfpaaGreat
open Go.RowKit Go.Fb
set_option maxRecDepth 100000
set_option maxHeartbeats 16000000
set_option linter.unusedVariables false
section
variable {col:Nat->Nat} {w:World} {g:Nat} {R:RigS} {Y:RX}
end
end Go.Proofs.YtgblfflikgnfpaaGreat
