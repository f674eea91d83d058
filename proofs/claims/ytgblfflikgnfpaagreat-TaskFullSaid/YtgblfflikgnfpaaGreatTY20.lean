/- Texts merged into one, for the number of files a claim may have: RgM. -/
import Derived.Test.YtgblfflikgnfpaaGreatTk
import Derived.Test.YtgblfflikgnfpaaGreatTY19
namespace Go.Proofs.YtgblfflikgnfpaaGreat
open Go.RowKit Go.Fb
set_option maxRecDepth 100000
set_option maxHeartbeats 16000000
set_option linter.unusedVariables false
theorem drainF_some {L:List Nd} {id ix c:Int} {p:Nd} (h:findN L c=some p):drainF L id ix c=drainsT c id ix p.par.toNat:=by unfold drainF;rw [h];rfl
theorem drainF_le {L:List Nd} (hR:RightG L) (id ix c:Int):(drainF L id ix c).length<=3:=by
 cases h:findN L c with
 | none=>unfold drainF;rw [h];simp
 | some p =>
  rw [drainF_some h];have:=right8_par (nodeB_iff.1 (hR.each p (findN_mem h))).2.2.2.1;simp [drainsT];omega
theorem childR_le (L:List Nd) (id:Int):(childR L id).length<=8:=filt_len _ 8
theorem drains_le {L:List Nd} (hR:RightG L) (id ix:Int) (j:Nat):(((childR L id).take j).flatMap (drainF L id ix)).length<=24:=by
 have h1:=flat_le (drainF L id ix) 3 (drainF_le hR id ix) ((childR L id).take j);have h2:=childR_le L id;have h3:((childR L id).take j).length<=8:=(by rw [List.length_take];omega);omega
theorem childR_mem {L:List Nd} {id c:Int} (h:c ∈ childR L id):0<=c/\c < 8/\∃ p,findN L c=some p:=by
 unfold childR at h;obtain ⟨h1,h2⟩:=List.mem_filter.1 h;unfold rngI at h1;obtain ⟨i,hi,rfl⟩:=List.mem_map.1 h1;have:=List.mem_range.1 hi;refine ⟨by omega,by omega,?_⟩
 cases hf:findN L (i:Int) with
 | none=>rw [getN_none hf] at h2;exact absurd h2 (by simp [zNd,hasI])
 | some p=>exact ⟨p,rfl⟩
theorem made_any1 (col:Nat->Nat) (w:World) (A eA:Option Addr) (n c ec:Nat) (M:List Ndm) (id ix:Int) (nd:Nd) (l:List (Nat->Int)) (hN:Nds w w.heap.size A n M) (hs:Small M) (hR:RightG (fstN M)) (hf:findN (fstN M) id=some nd) (hi0:0<=ix) (hi1:ix < nd.par) (hl:l.length<=100) (hok:l.all okE=true) (he:Reads w w.heap.size 6 eA l.length (cellsE l)) (hz:∀ q,q < w.heap.size->¬ RC (col q)) :
  Calls Tryz.prog 9 #[.slice A n c,.int .i64 id,.int .i64 ix,.slice eA l.length ec] w fun e w'=>∃ g Y col',e=.returned (.pointer (some ⟨g,0,none⟩))/\RigM col' w' g ⟨task0 (fstN M) nd ix 1 l,feedsN (fstN M) nd ix 8,drainsL (fstN M) nd ix,[],ix⟩ Y/\Cg RC col w col' w':=by
 have hidd:=findN_id hf;subst hidd;have hnb:=nodeB_iff.1 (hR.each nd (findN_mem hf));have hid0:=hnb.1;have hid1:=hnb.2.1;have hpr0:=right8_par hnb.2.2.2.1;clear hnb;have htn:=tnew_any col w A eA n c ec M nd.id ix 1 nd l hN hs hR hf hi0 hi1 hl hok he (fun q hq h=>hz q hq (.inl h));generalize task0 (fstN M) nd ix 1 l=T0 at *;have HTN:=zh htn;clear htn;have HN:=zh (fun W (hf:Fr w.heap.size [] w W)=>hN.frw hf (Nat.le_refl _) (by simp));have HNUM:=zh hN.num;have HS:=zh hs;have HR:=zh hR;have HF:=zh hf;have HZ:=zh hz;have HI:=zh (And.intro hi0 hi1);have hn:n<=1000000:=(by rw [hN.num];exact hs.1);generalize l.length=ne at *;clear hN hs hR hf hi0 hi1 hl hok he hz;go_enter Tryz.func9,Tryz.ntmps9;go_wp2_with fail;refine HTN.out.mono ?_;rintro e w1 ⟨gt,X,col1,rfl,hgt,hm,hc⟩;have TM:=zh hm;have C1:=zh hc;clear hm hc HTN hgt;go_upto_region 5 with fail
 obtain ⟨gi,nmx,hix,hgi,hnm⟩:∃ (gi:Nat) (m:Ndm),ixN (fstN M) nd.id=gi/\M[gi]?=some m/\m.1=nd:=by
  rcases ixN_cases (fstN M) nd.id with ⟨_,h2⟩ | ⟨k,x,h1,h2,h3⟩
  · exact absurd (h2.symm.trans HF.out) (by simp)
  ·
   rw [HF.out] at h3;injection h3 with h3
   unfold fstN at h2;rw [List.getElem?_map] at h2;obtain ⟨m,hm1,hm2⟩:=Option.map_eq_some_iff.1 h2;exact ⟨k,m,h1,hm1,by rw [hm2,<- h3]⟩
 have F1:=zh (((C1.out.fr (Nat.le_refl _) (fun _ _ h=>h)).alloc C1.out.size (.cells #[.pointer (some ⟨gt,0,none⟩),.slice none 0 0,.slice none 0 0,.slice none 0 0,.int .i64 ix] 44)));have RG:=zh (Blk.new w1 44 #[.pointer (some ⟨gt,0,none⟩),.slice none 0 0,.slice none 0 0,.slice none 0 0,.int .i64 ix]);have FA1:=zh ((Fr.refl w1.heap.size [] w1).alloc (Nat.le_refl _) (.cells #[.pointer (some ⟨gt,0,none⟩),.slice none 0 0,.slice none 0 0,.slice none 0 0,.int .i64 ix] 44));obtain ⟨g,hg⟩:=nm (w1.heap.size);obtain ⟨xd,sf,sp⟩:=nmx;replace hnm:xd=nd:=hnm;subst hnm;have HND1:=HN.out _ F1.out;obtain ⟨⟨Af,cf,hf1,hf2⟩,⟨Ap,cp,hp1,hp2⟩⟩:=HND1.inn _ (List.mem_of_getElem? hgi);simp only at hf1 hf2 hp1 hp2;subst hf1 hp1;obtain ⟨b1,o1,rfl,hb1,hc1⟩:=HND1.get hgi;have rfind_at:=fun W (hf:Fr w.heap.size [] w W)=>(by have:=rfind_any xd.id (some ⟨b1,o1,none⟩) c w.heap.size n M W (HN.out W hf) hn;rw [hix] at this;exact this:Calls Tryz.prog 19 #[.slice (some ⟨b1,o1,none⟩) n c,.int .i64 xd.id] W fun e w'=>e=.returned (.int .i64 gi)/\W=w');generalize w1.alloc _=w2 at *;have hgn:gi < n:=(by rw [HNUM.out];exact (List.getElem?_eq_some_iff.1 hgi).1);have hgni:(gi:Int) < (n:Int):=(by omega)
 have HNC := zh (fun W (hf : Fr w.heap.size [] w W) => (by
  obtain ⟨b,off,hA,_,hc⟩:=(HN.out W hf).get hgi;injection hA with hA
  injection hA with hA1 hA2
  subst hA1 hA2
  exact ⟨hc 0 _ (ndL_get (xd,.slice Af xd.fr.length cf,.slice Ap xd.pg.length cp)).1,hc 1 _ (ndL_get (xd,.slice Af xd.fr.length cf,.slice Ap xd.pg.length cp)).2.1,hc 2 _ (ndL_get (xd,.slice Af xd.fr.length cf,.slice Ap xd.pg.length cp)).2.2.1,hc 3 _ (ndL_get (xd,.slice Af xd.fr.length cf,.slice Ap xd.pg.length cp)).2.2.2.1,hc 4 _ (ndL_get (xd,.slice Af xd.fr.length cf,.slice Ap xd.pg.length cp)).2.2.2.2.1,hc 5 _ (ndL_get (xd,.slice Af xd.fr.length cf,.slice Ap xd.pg.length cp)).2.2.2.2.2.1,hc 6 _ (ndL_get (xd,.slice Af xd.fr.length cf,.slice Ap xd.pg.length cp)).2.2.2.2.2.2.1,hc 7 _ (ndL_get (xd,.slice Af xd.fr.length cf,.slice Ap xd.pg.length cp)).2.2.2.2.2.2.2.1,hc 8 _ (ndL_get (xd,.slice Af xd.fr.length cf,.slice Ap xd.pg.length cp)).2.2.2.2.2.2.2.2.1,hc 9 _ (ndL_get (xd,.slice Af xd.fr.length cf,.slice Ap xd.pg.length cp)).2.2.2.2.2.2.2.2.2.1,hc 10 _ (ndL_get (xd,.slice Af xd.fr.length cf,.slice Ap xd.pg.length cp)).2.2.2.2.2.2.2.2.2.2.1,hc 11 _ (ndL_get (xd,.slice Af xd.fr.length cf,.slice Ap xd.pg.length cp)).2.2.2.2.2.2.2.2.2.2.2.1,hc 12 _ (ndL_get (xd,.slice Af xd.fr.length cf,.slice Ap xd.pg.length cp)).2.2.2.2.2.2.2.2.2.2.2.2⟩:W.cell? ⟨b1,o1+gi * 13,none⟩=some (.int .i64 xd.id)/\W.cell? ⟨b1,o1+gi * 13+1,none⟩=some (.int .i64 xd.kind)/\W.cell? ⟨b1,o1+gi * 13+2,none⟩=some (.slice Af xd.fr.length cf)/\W.cell? ⟨b1,o1+gi * 13+3,none⟩=some (.slice Ap xd.pg.length cp)/\W.cell? ⟨b1,o1+gi * 13+4,none⟩=some (.int .i64 xd.par)/\W.cell? ⟨b1,o1+gi * 13+5,none⟩=some (.int .i64 (xd.rt 0))/\W.cell? ⟨b1,o1+gi * 13+6,none⟩=some (.int .i64 (xd.rt 1))/\W.cell? ⟨b1,o1+gi * 13+7,none⟩=some (.int .i64 (xd.rt 2))/\W.cell? ⟨b1,o1+gi * 13+8,none⟩=some (.int .i64 (xd.rt 3))/\W.cell? ⟨b1,o1+gi * 13+9,none⟩=some (.int .i64 (xd.rt 4))/\W.cell? ⟨b1,o1+gi * 13+10,none⟩=some (.int .i64 (xd.rt 5))/\W.cell? ⟨b1,o1+gi * 13+11,none⟩=some (.int .i64 (xd.rt 6))/\W.cell? ⟨b1,o1+gi * 13+12,none⟩=some (.int .i64 (xd.rt 7))))
 have HFI:=zh rfind_at;clear rfind_at
 have HAF := zh (fun W (hf : Fr w.heap.size [] w W) => (by
  obtain ⟨⟨A9,c9,h1,h2⟩,_⟩:=((HN.out W hf).inn _ (List.mem_of_getElem? hgi));injection h1 with h1 _ h3
  subst h1 h3
  exact h2:Reads W w.heap.size 1 Af xd.fr.length (xd.fr.map (Value.int .i64))))
 have HGI:=zh hgi;clear hc1 hgi hix hf2 hp2 HND1 hb1;obtain ⟨n0,n1,n2,n3,n4,n5,n6,n7,n8,n9,n10,n11,n12⟩:=HNC.out _ F1.out;go_wp2_with fail;refine (HFI.out _ F1.out).mono ?_;rintro e w' ⟨rfl,rfl⟩;go_upto_region 6 with fail;obtain ⟨gn,hgn⟩:=nm (w2.heap.size);have NB:=zh (Blk.new w2 66 #[.int .i64 xd.id,.int .i64 xd.kind,.slice Af xd.fr.length cf,.slice Ap xd.pg.length cp,.int .i64 xd.par,.int .i64 (xd.rt 0),.int .i64 (xd.rt 1),.int .i64 (xd.rt 2),.int .i64 (xd.rt 3),.int .i64 (xd.rt 4),.int .i64 (xd.rt 5),.int .i64 (xd.rt 6),.int .i64 (xd.rt 7)]);have k1:=(cg0 (col:=col1) FA1.out).paint 110;obtain ⟨colA,hcA⟩:=nm (paint col1 w1.heap.size 110);rw [<- hcA] at k1;have fa:=(Fr.refl w2.heap.size [] w2).alloc (Nat.le_refl _) (.cells #[.int .i64 xd.id,.int .i64 xd.kind,.slice Af xd.fr.length cf,.slice Ap xd.pg.length cp,.int .i64 xd.par,.int .i64 (xd.rt 0),.int .i64 (xd.rt 1),.int .i64 (xd.rt 2),.int .i64 (xd.rt 3),.int .i64 (xd.rt 4),.int .i64 (xd.rt 5),.int .i64 (xd.rt 6),.int .i64 (xd.rt 7)] 66);have k2:=(cg0 (col:=colA) fa).paint 0;obtain ⟨colB,hcB⟩:=nm (paint colA w2.heap.size 0);rw [<- hcB] at k2;have NB:=zh (⟨NB.out,by rw [hcB];exact paint_ge (Nat.le_refl _)⟩:CB colB 0 _ w2.heap.size 66 _);have SB:CB colA 110 w2 g 44 #[.pointer (some ⟨gt,0,none⟩),.slice none 0 0,.slice none 0 0,.slice none 0 0,.int .i64 ix]:=⟨by rw [hg];exact RG.out,by rw [hcA,hg];exact paint_ge (Nat.le_refl _)⟩;have RM:=zh (⟨SB.cg k2 (fun h=>h),(TM.out.cg k1 (fun _ _ h=>h)).cg k2 (fun _ _ h=>h),rfl,CRd.none_ _ _ _,fun _ _ _ h _=>absurd h (by simp),rfl,CRd.none_ _ _ _,fun _ _ _ h _=>absurd h (by simp),rfl,CR.nil _ _ _ _ _,fun x hx=>absurd hx (by simp),⟨Nat.zero_le _,Nat.zero_le _⟩⟩:RigM colB _ g ⟨T0,feedsN (fstN M) xd ix 0,[],[],ix⟩ ⟨gt,X,none,none,none,0,0,0,[],[],[]⟩);have CC:=zh (((C1.out.trans k1).trans k2).mono (C':=RC) (fun _ h=>h.elim));have ROW:=zh (CR.nil colB 111 (w2.alloc (.cells #[.int .i64 xd.id,.int .i64 xd.kind,.slice Af xd.fr.length cf,.slice Ap xd.pg.length cp,.int .i64 xd.par,.int .i64 (xd.rt 0),.int .i64 (xd.rt 1),.int .i64 (xd.rt 2),.int .i64 (xd.rt 3),.int .i64 (xd.rt 4),.int .i64 (xd.rt 5),.int .i64 (xd.rt 6),.int .i64 (xd.rt 7)] 66)) 38 1);rw [<- hgn] at NB ⊢;rw [<- hg];clear k1 k2 fa hcA hcB SB hgn hg n0 n1 n2 n3 n4 n5 n6 n7 n8 n9 n10 n11 n12 FA1 RG F1 TM C1 HFI;generalize w2.alloc _=w3 at *;go_upto_region 7 with fail;go_loopg [13,14,15] 8 (fun q s13 s14 s15 wr=>∃ j:Nat,j<=8/\q=8 - j/\s13=.int .i64 j/\(s14=undef \/ ∃ z,s14=.int .i64 z)/\(s15=undef \/ ∃ z,s15=.int .i64 z)/\∃ colr fA fc gf,Hid (RigM colr wr g ⟨T0,feedsN (fstN M) xd ix j,[],[],ix⟩ ⟨gt,X,fA,none,none,fc,0,0,gf,[],[]⟩)/\Hid (CB colr 0 wr gn 66 #[.int .i64 xd.id,.int .i64 xd.kind,.slice Af xd.fr.length cf,.slice Ap xd.pg.length cp,.int .i64 xd.par,.int .i64 (xd.rt 0),.int .i64 (xd.rt 1),.int .i64 (xd.rt 2),.int .i64 (xd.rt 3),.int .i64 (xd.rt 4),.int .i64 (xd.rt 5),.int .i64 (xd.rt 6),.int .i64 (xd.rt 7)])/\Hid (CR colr 111 wr 38 1 (.slice fA (feedsN (fstN M) xd ix j).length fc) (feedsN (fstN M) xd ix j).length (gf.flatMap ptrF))/\Hid (Cg RC col w colr wr))
 case atStart=>exact ⟨0,Nat.zero_le _,rfl,rfl,.inl rfl,.inl rfl,colB,none,0,[],RM,NB,ROW,CC⟩
 case round =>
  clear RM NB ROW CC;obtain ⟨j,hj,rfl,rfl,hs14,hs15,colr,fA,fc,gf,RM,NB,ROW,CC⟩:=hrel
  by_cases hj8:j < 8
  ·
   have hji:(j:Int) < 8:=by omega
   have FB:=zh (CC.out.fr (Nat.le_refl _) HZ.out);have HFI:=rfind_any (j:Int) (some ⟨b1,o1,none⟩) c w.heap.size n M wr (HN.out _ FB.out) hn
   rcases ixN_cases (fstN M) (j:Int) with ⟨h1,h2⟩ | ⟨i1,x1,h1,h2,h3⟩
   ·
    rw [h1] at HFI;have HFI:=zh HFI;have RM9:=zh (by have h9:=RM.out;rw [<- show feedsN (fstN M) xd ix (j+1)=feedsN (fstN M) xd ix j from by rw [feedsN_snoc,feedF,h2];simp] at h9;exact h9:RigM colr wr g ⟨T0,feedsN (fstN M) xd ix (j+1),[],[],ix⟩ ⟨gt,X,fA,none,none,fc,0,0,gf,[],[]⟩);have ROW9:=zh (by have h9:=ROW.out;rw [<- show feedsN (fstN M) xd ix (j+1)=feedsN (fstN M) xd ix j from by rw [feedsN_snoc,feedF,h2];simp] at h9;exact h9:CR colr 111 wr 38 1 (.slice fA (feedsN (fstN M) xd ix (j+1)).length fc) (feedsN (fstN M) xd ix (j+1)).length (gf.flatMap ptrF));clear h1 h2 RM ROW;go_wp2_with fail;refine HFI.out.mono ?_;rintro e w9 ⟨rfl,rfl⟩;go_wp2_with fail;go_roundg (8 - (j+1))
    case measure=>omega
    case rel=>exact ⟨j+1,hj8,rfl,by go_num,.inr ⟨_,rfl⟩,hs15,colr,fA,fc,gf,RM9,NB,ROW9,CC⟩
   ·
    rw [h1] at HFI;have HFI:=zh HFI;have k2:wr.cell? ⟨gn,2,none⟩=some (.slice Af xd.fr.length cf):=NB.out.b.cell 2;have hi10:¬ ((i1:Int) < 0):=(by omega);have hsx:xd.fr.length<=1000000:=(HS.out.2 _ (List.mem_of_getElem? HGI.out)).1;have HHA:=zh (rhas_any (j:Int) Af cf w.heap.size xd.fr.length xd.fr wr rfl hsx (HAF.out _ FB.out))
    cases hb:hasI xd.fr (j:Int) with
    | false =>
     have RM9:=zh (by have h9:=RM.out;rw [<- show feedsN (fstN M) xd ix (j+1)=feedsN (fstN M) xd ix j from by rw [feedsN_snoc,hb];simp] at h9;exact h9:RigM colr wr g ⟨T0,feedsN (fstN M) xd ix (j+1),[],[],ix⟩ ⟨gt,X,fA,none,none,fc,0,0,gf,[],[]⟩);have ROW9:=zh (by have h9:=ROW.out;rw [<- show feedsN (fstN M) xd ix (j+1)=feedsN (fstN M) xd ix j from by rw [feedsN_snoc,hb];simp] at h9;exact h9:CR colr 111 wr 38 1 (.slice fA (feedsN (fstN M) xd ix (j+1)).length fc) (feedsN (fstN M) xd ix (j+1)).length (gf.flatMap ptrF));rw [hb] at HHA;clear h1 h2 h3 RM ROW hb;go_wp2_with fail;refine HFI.out.mono ?_;rintro e w9 ⟨rfl,rfl⟩;go_wp2_with fail;refine HHA.out.mono ?_;rintro e w9 ⟨rfl,rfl⟩;go_wp2_with fail;go_roundg (8 - (j+1))
     case measure=>omega
     case rel=>exact ⟨j+1,hj8,rfl,by go_num,.inr ⟨_,rfl⟩,hs15,colr,fA,fc,gf,RM9,NB,ROW9,CC⟩
    | true =>
     rw [hb] at HHA;go_wp2_with fail;refine HFI.out.mono ?_;rintro e w9 ⟨rfl,rfl⟩;go_wp2_with fail;refine HHA.out.mono ?_;rintro e w9 ⟨rfl,rfl⟩;have hin:i1 < M.length:=(by have:=(List.getElem?_eq_some_iff.1 h2).1;simpa [fstN] using this);have hinn:(i1:Int) < (n:Int):=(by rw [HNUM.out];omega);have hpx:=right8_par (nodeB_iff.1 (HR.out.each x1 (findN_mem h3))).2.2.2.1;obtain ⟨pt,hpt⟩:∃ pt:Nat,(pt:Int)=x1.par:=⟨x1.par.toNat,by omega⟩;have hpt3:pt<=3:=(by omega);have HPT:=zh (show x1.par.toNat=pt by omega);obtain ⟨m1,hm1⟩:∃ m1,M[i1]?=some m1:=⟨_,List.getElem?_eq_getElem hin⟩
     have hmx:m1.1=x1:=by
      unfold fstN at h2;rw [List.getElem?_map,hm1] at h2;injection h2
     have P4 := zh (fun W (hf : Fr w.heap.size [] w W) => (by
      obtain ⟨b,off,hA,_,hc⟩:=(HN.out W hf).get hm1;injection hA with hA
      injection hA with hA1 hA2
      subst hA1 hA2;have:=hc 4 _ (ndL_get m1).2.2.2.2.1;rw [hmx,<- hpt] at this
      exact this:W.cell? ⟨b1,o1+i1 * 13+4,none⟩=some (.int .i64 (pt:Int))))
     have HFF:=zh (feedF_some (id:=xd.id) (ix:=ix) h3);have HSN:=zh (feedsN_snoc (fstN M) xd ix j);have HB:=zh hb;have HLE:=zh (feedsN_le HR.out xd ix j);obtain ⟨Fj,hFj⟩:=nm (feedsN (fstN M) xd ix j);rw [<- hFj] at RM ROW HSN HLE;clear h1 h2 h3 hb hpx hpt hm1 hmx hin hFj k2;go_upto_region 12 with fail;go_loopg [15] pt (fun q s15 wi=>∃ i:Nat,i<=pt/\q=pt - i/\s15=.int .i64 i/\∃ coli fA2 fc2 gf2,Hid (RigM coli wi g ⟨T0,Fj ++ feedsT (j:Int) xd.id ix i,[],[],ix⟩ ⟨gt,X,fA2,none,none,fc2,0,0,gf2,[],[]⟩)/\Hid (CB coli 0 wi gn 66 #[.int .i64 xd.id,.int .i64 xd.kind,.slice Af xd.fr.length cf,.slice Ap xd.pg.length cp,.int .i64 xd.par,.int .i64 (xd.rt 0),.int .i64 (xd.rt 1),.int .i64 (xd.rt 2),.int .i64 (xd.rt 3),.int .i64 (xd.rt 4),.int .i64 (xd.rt 5),.int .i64 (xd.rt 6),.int .i64 (xd.rt 7)])/\Hid (CR coli 111 wi 38 1 (.slice fA2 (Fj ++ feedsT (j:Int) xd.id ix i).length fc2) (Fj ++ feedsT (j:Int) xd.id ix i).length (gf2.flatMap ptrF))/\Hid (Cg RC col w coli wi))
     case atStart=>exact ⟨0,Nat.zero_le _,rfl,rfl,colr,fA,fc,gf,by simpa [feedsT] using RM,NB,by simpa [feedsT] using ROW,CC⟩
     case round =>
      clear RM NB ROW CC FB;obtain ⟨i,hi,rfl,rfl,coli,fA2,fc2,gf2,RM,NB,ROW,CC⟩:=hrel;have FB:=zh (CC.out.fr (Nat.le_refl _) HZ.out);have p4:=P4.out _ FB.out
      by_cases hip:i < pt
      ·
       have hii:(i:Int) < (pt:Int):=by omega
       have hi3:(i:Int) < 3:=(by omega);obtain ⟨Ls,hLs⟩:=nm (Fj ++ feedsT (j:Int) xd.id ix i);rw [<- hLs] at RM ROW;have HLS:=zh (show Fj ++ feedsT (j:Int) xd.id ix (i+1)=Ls ++ [⟨⟨chanN (j:Int) (i:Int) xd.id ix,1,[],0,0⟩,(j:Int),[]⟩] by rw [feedsT_snoc,<- List.append_assoc,<- hLs])
       have hll:Ls.length<=30:=by
        rw [hLs,List.length_append];have h1:(feedsT (j:Int) xd.id ix i).length=i:=(by simp [feedsT]);have h2:=HLE.out;omega
       clear hLs;have HCH:=zh (wrapC (f:=(j:Int)) (k:=(i:Int)) (id:=xd.id) (ix:=ix) (by omega) (by omega) (by omega) (by have:=HI.out;omega));go_upto_region 14 with fail;have RM:=zh (RM.out.fr0 (Fr.refl _ _ _).drew);have NB:=zh (NB.out.cg (cg0 (Fr.refl _ _ _).drew) (fun h=>h));have ROW:=zh (ROW.out.cg (cg0 (Fr.refl _ _ _).drew) (fun h=>h));have CC:=zh CC.out.drew;have r1:wr.drew.cell? ⟨g,1,none⟩=some (.slice fA2 Ls.length fc2):=RM.out.st.b.cell 1;refine wp_region_held_drew (S:=fun _=>True) (by kernel_rfl) (trivial) (fun hHeld => ?_);refine tk (i:=0) (oi:=⟨some 69,_,_,_,_,_⟩) (v:=?_) rfl ?_ hHeld ?_
       rotate_left
       · intro w hSw;(try dsimp only at hSw);go_simp;(try with_reducible rfl)
       simp only [Act.put,lPt];refine tk (i:=1) (oi:=⟨some 70,_,_,_,_,_⟩) (v:=?_) rfl ?_ hHeld ?_
       rotate_left
       · intro w hSw;(try dsimp only at hSw);go_simp;(try with_reducible rfl)
       simp only [Act.put,lPt];refine tk (i:=2) (oi:=⟨some 71,_,_,_,_,_⟩) (v:=?_) rfl ?_ hHeld ?_
       rotate_left
       · intro w hSw;(try dsimp only at hSw);go_simp;(try with_reducible rfl)
       simp only [Act.put,lPt];refine tk (i:=3) (oi:=⟨some 72,_,_,_,_,_⟩) (v:=?_) rfl ?_ hHeld ?_
       rotate_left
       · intro w hSw;(try dsimp only at hSw);go_simp;(try with_reducible rfl)
       simp only [Act.put,lPt];refine tk (i:=5) (oi:=⟨some 74,_,_,_,_,_⟩) (v:=?_) rfl ?_ hHeld ?_
       rotate_left
       · intro w hSw;(try dsimp only at hSw);go_simp;(try with_reducible rfl)
       simp only [Act.put,lPt];refine tk (i:=6) (oi:=⟨some 75,_,_,_,_,_⟩) (v:=?_) rfl ?_ hHeld ?_
       rotate_left
       · intro w hSw;(try dsimp only at hSw);go_simp;(try with_reducible rfl)
       simp only [Act.put,lPt];refine tk (i:=7) (oi:=⟨some 76,_,_,_,_,_⟩) (v:=?_) rfl ?_ hHeld ?_
       rotate_left
       · intro w hSw;(try dsimp only at hSw);go_simp;(try with_reducible rfl)
       simp only [Act.put,lPt];refine tk (i:=8) (oi:=⟨some 77,_,_,_,_,_⟩) (v:=?_) rfl ?_ hHeld ?_
       rotate_left
       · intro w hSw;(try dsimp only at hSw);go_simp;(try with_reducible rfl)
       simp only [Act.put,lPt];refine tk (i:=9) (oi:=⟨some 78,_,_,_,_,_⟩) (v:=?_) rfl ?_ hHeld ?_
       rotate_left
       · intro w hSw;(try dsimp only at hSw);go_simp;(try with_reducible rfl)
       simp only [Act.put,lPt];refine tk (i:=10) (oi:=⟨some 79,_,_,_,_,_⟩) (v:=?_) rfl ?_ hHeld ?_
       rotate_left
       · intro w hSw;(try dsimp only at hSw);go_simp;(try with_reducible rfl)
       simp only [Act.put,lPt];refine tk (i:=11) (oi:=⟨some 80,_,_,_,_,_⟩) (v:=?_) rfl ?_ hHeld ?_
       rotate_left
       · intro w hSw;(try dsimp only at hSw);go_simp;(try with_reducible rfl)
       simp only [Act.put,lPt];refine tk (i:=12) (oi:=⟨some 81,_,_,_,_,_⟩) (v:=?_) rfl ?_ hHeld ?_
       rotate_left
       · intro w hSw;(try dsimp only at hSw);go_simp;(try with_reducible rfl)
       simp only [Act.put,lPt];refine tk (i:=13) (oi:=⟨some 82,_,_,_,_,_⟩) (v:=?_) rfl ?_ hHeld ?_
       rotate_left
       · intro w hSw;(try dsimp only at hSw);go_simp;(try with_reducible rfl)
       simp only [Act.put,lPt];refine tk (i:=14) (oi:=⟨some 83,_,_,_,_,_⟩) (v:=?_) rfl ?_ hHeld ?_
       rotate_left
       · intro w hSw;(try dsimp only at hSw);go_simp;(try with_reducible rfl)
       simp only [Act.put,lPt];refine tk (i:=16) (oi:=⟨some 85,_,_,_,_,_⟩) (v:=?_) rfl ?_ hHeld ?_
       rotate_left
       · intro w hSw;(try dsimp only at hSw);go_simp;(try with_reducible rfl)
       simp only [Act.put,lPt];refine wpAnyH_ready (rs:=[4,15]) (by kernel_rfl) (by simp) ?_;refine AllReadyH.cons (o:=⟨some 73,_,_,_,_,_⟩) rfl (fun K hK => ?_) (AllReadyH.cons (o:=⟨some 84,_,_,_,_,_⟩) rfl (fun K hK => ?_) AllReadyH.nil)
       ·
        skip
        rw [if_pos (by rfl)];go_simp;refine hK.out _ _ (trivial) (fun hHeld => ?_);clear hK K
        try simp only [Act.put,lPt]
        refine wpAnyH_ready (rs:=[15]) (by kernel_rfl) (by simp) ?_;refine AllReadyH.cons (o:=⟨some 84,_,_,_,_,_⟩) rfl (fun K hK => ?_) AllReadyH.nil;rw [if_pos (by rfl)];go_simp;refine (newOut_any _ _ _).mono ?_;rintro e w5 ⟨rfl,f5,hout⟩;have k5:=(cg0 (col:=coli) f5).paint (202+4 * Ls.length);have RM:=zh (RM.out.cg k5 (fun _ _ h=>h));have NB:=zh (NB.out.cg k5 (fun h=>h));have ROW:=zh (ROW.out.cg k5 (fun h=>h));have CC:=zh (CC.out.trans (k5.mono (C':=RC) (fun _ h=>h.elim)));have HO:=zh (by have h9:=hout coli (202+4 * Ls.length);rw [HCH.out] at h9;exact h9);have r1:w5.cell? ⟨g,1,none⟩=some (.slice fA2 Ls.length fc2):=RM.out.st.b.cell 1;clear f5 hout k5;generalize paint coli _ _=col5 at *;obtain ⟨go,hgo⟩:=nm (wr.drew.heap.size);rw [<- hgo] at HO ⊢;clear hgo;refine hK.out _ _ (trivial) (fun hHeld => ?_);clear hK K
        try simp only [Act.put,lPt]
        refine tk (i:=17) (oi:=⟨some 86,_,_,_,_,_⟩) (v:=?_) rfl ?_ hHeld ?_
        rotate_left
        · intro w hSw;(try dsimp only at hSw);go_simp;(try with_reducible rfl)
        simp only [Act.put,lPt];refine wpAnyH_ready (rs:=[18]) (by kernel_rfl) (by simp) ?_;refine AllReadyH.cons (o:=⟨some 87,_,_,_,_,_⟩) rfl (fun K hK => ?_) AllReadyH.nil;rw [if_pos (by rfl)];go_simp;have fa:=(Fr.refl w5.heap.size [] w5).alloc (Nat.le_refl _) (.cells #[.pointer (some ⟨go,0,none⟩),.int .i64 (j:Int),.slice none 0 0] 37);have k6:=(cg0 (col:=col5) fa).paint (200+4 * Ls.length);have BF:=zh (⟨Blk.new w5 _ _,paint_ge (Nat.le_refl _)⟩:CB (paint col5 w5.heap.size (200+4 * Ls.length)) (200+4 * Ls.length) (w5.alloc (.cells #[.pointer (some ⟨go,0,none⟩),.int .i64 (j:Int),.slice none 0 0] 37)) w5.heap.size 37 #[.pointer (some ⟨go,0,none⟩),.int .i64 (j:Int),.slice none 0 0]);have RM:=zh (RM.out.cg k6 (fun _ _ h=>h));have NB:=zh (NB.out.cg k6 (fun h=>h));have ROW:=zh (ROW.out.cg k6 (fun h=>h));have HO:=zh (HO.out.cg k6 (fun h=>h));have CC:=zh (CC.out.trans (k6.mono (C':=RC) (fun _ h=>h.elim)));obtain ⟨gk,hgk⟩:=nm (w5.heap.size);have r1:(w5.alloc (.cells #[.pointer (some ⟨go,0,none⟩),.int .i64 (j:Int),.slice none 0 0] 37)).cell? ⟨g,1,none⟩=some (.slice fA2 Ls.length fc2):=RM.out.st.b.cell 1;clear fa k6;generalize paint col5 _ _=col6 at *;rw [<- hgk] at BF ⊢;clear hgk;generalize w5.alloc _=w6 at *;refine hK.out _ _ (trivial) (fun hHeld => ?_);clear hK K
        try simp only [Act.put,lPt]
        refine wpAnyH_ready (rs:=[19]) (by kernel_rfl) (by simp) ?_;refine AllReadyH.cons (o:=⟨some 88,_,_,_,_,_⟩) rfl (fun K hK => ?_) AllReadyH.nil;rw [if_pos (by rfl)];go_simp;have BS:=zh (Blk.new w6 38 #[.pointer (some ⟨gk,0,none⟩)]);have fa:=(Fr.refl w6.heap.size [] w6).alloc (Nat.le_refl _) (.cells #[.pointer (some ⟨gk,0,none⟩)] 38);have RM:=zh (RM.out.fr0 fa);have NB:=zh (NB.out.cg (cg0 fa) (fun h=>h));have ROW:=zh (ROW.out.cg (cg0 fa) (fun h=>h));have HO:=zh (HO.out.cg (cg0 fa) (fun h=>h));have BF:=zh (BF.out.cg (cg0 fa) (fun h=>h));have CC:=zh (CC.out.trans (cgf RC fa));have r1:(w6.alloc (.cells #[.pointer (some ⟨gk,0,none⟩)] 38)).cell? ⟨g,1,none⟩=some (.slice fA2 Ls.length fc2):=RM.out.st.b.cell 1;clear fa;refine hK.out _ _ (trivial) (fun hHeld => ?_);clear hK K
        try simp only [Act.put,lPt]
        refine wpAnyH_ready (rs:=[20]) (by kernel_rfl) (by simp) ?_;refine AllReadyH.cons (o:=⟨some 89,_,_,_,_,_⟩) rfl (fun K hK => ?_) AllReadyH.nil;refine step_appC _ (by rfl) (.tmp 73) (.tmp 88) feedP (by rfl) _ Ls.length _ (by rfl) ROW.out (w6.heap.size+1) (some ⟨w6.heap.size,0,none⟩) 1 1 (ptrF gk) (by rfl) (Reads.of_blk (m:=1) (size:=1) BS.out rfl) (by simp [ptrF,Value.oneCell']) (by omega) (by omega) ?_;intro A' c' w8 hrow hap hgr;have FM:=zh (⟨go,none,0,BF.out.cg hap (by omega),CR.nil _ _ _ _ _,HO.out.cg hap (by omega)⟩:FeedM _ Ls.length w8 gk ⟨⟨chanN (j:Int) (i:Int) xd.id ix,1,[],0,0⟩,(j:Int),[]⟩);have hrm:=RM.out.addF hap (gn:=gk) (by rw [List.flatMap_append];simpa using hrow) FM.out (by show Ls.length+1<=60;omega);have NB:=zh (NB.out.cg hap (by omega));have SB:=zh (RM.out.st.cg hap (by omega));have CC:=zh (CC.out.trans (hap.mono (C':=RC) (fun c h=>.inr (.inr (.inl (by omega))))));have RM:=zh hrm.1;have ROW:=zh hrm.2;have r1:w8.cell? ⟨g,1,none⟩=some (.slice fA2 Ls.length fc2):=SB.out.b.cell 1;have rf:=SB.out.b.frozen 1;have rg:=SB.out.b.lt;clear hrm hrow hap hgr BS HO BF FM;generalize paint col6 _ _=col8 at *;refine hK.out _ _ (trivial) (fun hHeld => ?_);clear hK K
        try simp only [Act.put,lPt]
        refine tk (i:=21) (oi:=⟨some 90,_,_,_,_,_⟩) (v:=?_) rfl ?_ hHeld ?_
        rotate_left
        · intro w hSw;(try dsimp only at hSw);go_simp;(try with_reducible rfl)
        simp only [Act.put,lPt];refine tk (i:=22) (oi:=⟨some 91,_,_,_,_,_⟩) (v:=?_) rfl ?_ hHeld ?_
        rotate_left
        · intro w hSw;(try dsimp only at hSw);go_simp;(try with_reducible rfl)
        simp only [Act.put,lPt];refine wpAnyH_ready (rs:=[23]) (by kernel_rfl) (by simp) ?_;refine AllReadyH.cons (o:=⟨none,_,_,_,_,_⟩) rfl (fun K hK => ?_) AllReadyH.nil;rw [if_pos (by rfl)];go_simp;refine hK.out _ _ (trivial) (fun hHeld => ?_);clear hK K
        try simp only [Act.put]
        refine wpAnyH_done (by kernel_rfl) ?_ _;have k9:Cg (· = 110) col8 w8 col8 (w8.setCell ⟨g,1,none⟩ (.slice A' (Ls.length+1) c')):=(Cg.refl _ _ _).set SB.out.k _;have NB:=zh (NB.out.cg k9 (by omega));have CC:=zh (CC.out.trans (k9.mono (C':=RC) (fun c h=>.inr (.inr (.inl (by omega))))));have RM:=zh (by have h9:=RM.out;rw [<- HLS.out] at h9;exact h9:RigM col8 (w8.setCell ⟨g,1,none⟩ (.slice A' (Ls.length+1) c')) g ⟨T0,Fj ++ feedsT (j:Int) xd.id ix (i+1),[],[],ix⟩ ⟨gt,X,A',none,none,c',0,0,gf2 ++ [gk],[],[]⟩);have ROW:=zh (by rw [show (Fj ++ feedsT (j:Int) xd.id ix (i+1)).length=Ls.length+1 by rw [HLS.out];simp];exact ROW.out:CR col8 111 (w8.setCell ⟨g,1,none⟩ (.slice A' (Ls.length+1) c')) 38 1 (.slice A' (Fj ++ feedsT (j:Int) xd.id ix (i+1)).length c') (Fj ++ feedsT (j:Int) xd.id ix (i+1)).length ((gf2 ++ [gk]).flatMap ptrF));clear k9 SB rf rg r1;generalize w8.setCell _ _=w9 at *;clear hHeld;go_wp2_with fail;go_roundg (pt - (i+1))
        case measure=>omega
        case rel=>exact ⟨i+1,hip,rfl,by go_num,col8,A',c',gf2 ++ [gk],RM,NB,ROW,CC⟩
       ·
        skip
        rw [if_pos (by rfl)];go_simp;refine (newOut_any _ _ _).mono ?_;rintro e w5 ⟨rfl,f5,hout⟩;have k5:=(cg0 (col:=coli) f5).paint (202+4 * Ls.length);have RM:=zh (RM.out.cg k5 (fun _ _ h=>h));have NB:=zh (NB.out.cg k5 (fun h=>h));have ROW:=zh (ROW.out.cg k5 (fun h=>h));have CC:=zh (CC.out.trans (k5.mono (C':=RC) (fun _ h=>h.elim)));have HO:=zh (by have h9:=hout coli (202+4 * Ls.length);rw [HCH.out] at h9;exact h9);have r1:w5.cell? ⟨g,1,none⟩=some (.slice fA2 Ls.length fc2):=RM.out.st.b.cell 1;clear f5 hout k5;generalize paint coli _ _=col5 at *;obtain ⟨go,hgo⟩:=nm (wr.drew.heap.size);rw [<- hgo] at HO ⊢;clear hgo;refine hK.out _ _ (trivial) (fun hHeld => ?_);clear hK K
        try simp only [Act.put,lPt]
        refine tk (i:=17) (oi:=⟨some 86,_,_,_,_,_⟩) (v:=?_) rfl ?_ hHeld ?_
        rotate_left
        · intro w hSw;(try dsimp only at hSw);go_simp;(try with_reducible rfl)
        simp only [Act.put,lPt];refine wpAnyH_ready (rs:=[4,18]) (by kernel_rfl) (by simp) ?_;refine AllReadyH.cons (o:=⟨some 73,_,_,_,_,_⟩) rfl (fun K hK => ?_) (AllReadyH.cons (o:=⟨some 87,_,_,_,_,_⟩) rfl (fun K hK => ?_) AllReadyH.nil)
        ·
         skip
         rw [if_pos (by rfl)];go_simp;refine hK.out _ _ (trivial) (fun hHeld => ?_);clear hK K
         try simp only [Act.put,lPt]
         refine wpAnyH_ready (rs:=[18]) (by kernel_rfl) (by simp) ?_;refine AllReadyH.cons (o:=⟨some 87,_,_,_,_,_⟩) rfl (fun K hK => ?_) AllReadyH.nil;rw [if_pos (by rfl)];go_simp;have fa:=(Fr.refl w5.heap.size [] w5).alloc (Nat.le_refl _) (.cells #[.pointer (some ⟨go,0,none⟩),.int .i64 (j:Int),.slice none 0 0] 37);have k6:=(cg0 (col:=col5) fa).paint (200+4 * Ls.length);have BF:=zh (⟨Blk.new w5 _ _,paint_ge (Nat.le_refl _)⟩:CB (paint col5 w5.heap.size (200+4 * Ls.length)) (200+4 * Ls.length) (w5.alloc (.cells #[.pointer (some ⟨go,0,none⟩),.int .i64 (j:Int),.slice none 0 0] 37)) w5.heap.size 37 #[.pointer (some ⟨go,0,none⟩),.int .i64 (j:Int),.slice none 0 0]);have RM:=zh (RM.out.cg k6 (fun _ _ h=>h));have NB:=zh (NB.out.cg k6 (fun h=>h));have ROW:=zh (ROW.out.cg k6 (fun h=>h));have HO:=zh (HO.out.cg k6 (fun h=>h));have CC:=zh (CC.out.trans (k6.mono (C':=RC) (fun _ h=>h.elim)));obtain ⟨gk,hgk⟩:=nm (w5.heap.size);have r1:(w5.alloc (.cells #[.pointer (some ⟨go,0,none⟩),.int .i64 (j:Int),.slice none 0 0] 37)).cell? ⟨g,1,none⟩=some (.slice fA2 Ls.length fc2):=RM.out.st.b.cell 1;clear fa k6;generalize paint col5 _ _=col6 at *;rw [<- hgk] at BF ⊢;clear hgk;generalize w5.alloc _=w6 at *;refine hK.out _ _ (trivial) (fun hHeld => ?_);clear hK K
         try simp only [Act.put,lPt]
         refine wpAnyH_ready (rs:=[19]) (by kernel_rfl) (by simp) ?_;refine AllReadyH.cons (o:=⟨some 88,_,_,_,_,_⟩) rfl (fun K hK => ?_) AllReadyH.nil;rw [if_pos (by rfl)];go_simp;have BS:=zh (Blk.new w6 38 #[.pointer (some ⟨gk,0,none⟩)]);have fa:=(Fr.refl w6.heap.size [] w6).alloc (Nat.le_refl _) (.cells #[.pointer (some ⟨gk,0,none⟩)] 38);have RM:=zh (RM.out.fr0 fa);have NB:=zh (NB.out.cg (cg0 fa) (fun h=>h));have ROW:=zh (ROW.out.cg (cg0 fa) (fun h=>h));have HO:=zh (HO.out.cg (cg0 fa) (fun h=>h));have BF:=zh (BF.out.cg (cg0 fa) (fun h=>h));have CC:=zh (CC.out.trans (cgf RC fa));have r1:(w6.alloc (.cells #[.pointer (some ⟨gk,0,none⟩)] 38)).cell? ⟨g,1,none⟩=some (.slice fA2 Ls.length fc2):=RM.out.st.b.cell 1;clear fa;refine hK.out _ _ (trivial) (fun hHeld => ?_);clear hK K
         try simp only [Act.put,lPt]
         refine wpAnyH_ready (rs:=[20]) (by kernel_rfl) (by simp) ?_;refine AllReadyH.cons (o:=⟨some 89,_,_,_,_,_⟩) rfl (fun K hK => ?_) AllReadyH.nil;refine step_appC _ (by rfl) (.tmp 73) (.tmp 88) feedP (by rfl) _ Ls.length _ (by rfl) ROW.out (w6.heap.size+1) (some ⟨w6.heap.size,0,none⟩) 1 1 (ptrF gk) (by rfl) (Reads.of_blk (m:=1) (size:=1) BS.out rfl) (by simp [ptrF,Value.oneCell']) (by omega) (by omega) ?_;intro A' c' w8 hrow hap hgr;have FM:=zh (⟨go,none,0,BF.out.cg hap (by omega),CR.nil _ _ _ _ _,HO.out.cg hap (by omega)⟩:FeedM _ Ls.length w8 gk ⟨⟨chanN (j:Int) (i:Int) xd.id ix,1,[],0,0⟩,(j:Int),[]⟩);have hrm:=RM.out.addF hap (gn:=gk) (by rw [List.flatMap_append];simpa using hrow) FM.out (by show Ls.length+1<=60;omega);have NB:=zh (NB.out.cg hap (by omega));have SB:=zh (RM.out.st.cg hap (by omega));have CC:=zh (CC.out.trans (hap.mono (C':=RC) (fun c h=>.inr (.inr (.inl (by omega))))));have RM:=zh hrm.1;have ROW:=zh hrm.2;have r1:w8.cell? ⟨g,1,none⟩=some (.slice fA2 Ls.length fc2):=SB.out.b.cell 1;have rf:=SB.out.b.frozen 1;have rg:=SB.out.b.lt;clear hrm hrow hap hgr BS HO BF FM;generalize paint col6 _ _=col8 at *;refine hK.out _ _ (trivial) (fun hHeld => ?_);clear hK K
         try simp only [Act.put,lPt]
         refine tk (i:=21) (oi:=⟨some 90,_,_,_,_,_⟩) (v:=?_) rfl ?_ hHeld ?_
         rotate_left
         · intro w hSw;(try dsimp only at hSw);go_simp;(try with_reducible rfl)
         simp only [Act.put,lPt];refine tk (i:=22) (oi:=⟨some 91,_,_,_,_,_⟩) (v:=?_) rfl ?_ hHeld ?_
         rotate_left
         · intro w hSw;(try dsimp only at hSw);go_simp;(try with_reducible rfl)
         simp only [Act.put,lPt];refine wpAnyH_ready (rs:=[23]) (by kernel_rfl) (by simp) ?_;refine AllReadyH.cons (o:=⟨none,_,_,_,_,_⟩) rfl (fun K hK => ?_) AllReadyH.nil;rw [if_pos (by rfl)];go_simp;refine hK.out _ _ (trivial) (fun hHeld => ?_);clear hK K
         try simp only [Act.put]
         refine wpAnyH_done (by kernel_rfl) ?_ _;have k9:Cg (· = 110) col8 w8 col8 (w8.setCell ⟨g,1,none⟩ (.slice A' (Ls.length+1) c')):=(Cg.refl _ _ _).set SB.out.k _;have NB:=zh (NB.out.cg k9 (by omega));have CC:=zh (CC.out.trans (k9.mono (C':=RC) (fun c h=>.inr (.inr (.inl (by omega))))));have RM:=zh (by have h9:=RM.out;rw [<- HLS.out] at h9;exact h9:RigM col8 (w8.setCell ⟨g,1,none⟩ (.slice A' (Ls.length+1) c')) g ⟨T0,Fj ++ feedsT (j:Int) xd.id ix (i+1),[],[],ix⟩ ⟨gt,X,A',none,none,c',0,0,gf2 ++ [gk],[],[]⟩);have ROW:=zh (by rw [show (Fj ++ feedsT (j:Int) xd.id ix (i+1)).length=Ls.length+1 by rw [HLS.out];simp];exact ROW.out:CR col8 111 (w8.setCell ⟨g,1,none⟩ (.slice A' (Ls.length+1) c')) 38 1 (.slice A' (Fj ++ feedsT (j:Int) xd.id ix (i+1)).length c') (Fj ++ feedsT (j:Int) xd.id ix (i+1)).length ((gf2 ++ [gk]).flatMap ptrF));clear k9 SB rf rg r1;generalize w8.setCell _ _=w9 at *;clear hHeld;go_wp2_with fail;go_roundg (pt - (i+1))
         case measure=>omega
         case rel=>exact ⟨i+1,hip,rfl,by go_num,col8,A',c',gf2 ++ [gk],RM,NB,ROW,CC⟩
        ·
         skip
         rw [if_pos (by rfl)];go_simp;have fa:=(Fr.refl w5.heap.size [] w5).alloc (Nat.le_refl _) (.cells #[.pointer (some ⟨go,0,none⟩),.int .i64 (j:Int),.slice none 0 0] 37);have k6:=(cg0 (col:=col5) fa).paint (200+4 * Ls.length);have BF:=zh (⟨Blk.new w5 _ _,paint_ge (Nat.le_refl _)⟩:CB (paint col5 w5.heap.size (200+4 * Ls.length)) (200+4 * Ls.length) (w5.alloc (.cells #[.pointer (some ⟨go,0,none⟩),.int .i64 (j:Int),.slice none 0 0] 37)) w5.heap.size 37 #[.pointer (some ⟨go,0,none⟩),.int .i64 (j:Int),.slice none 0 0]);have RM:=zh (RM.out.cg k6 (fun _ _ h=>h));have NB:=zh (NB.out.cg k6 (fun h=>h));have ROW:=zh (ROW.out.cg k6 (fun h=>h));have HO:=zh (HO.out.cg k6 (fun h=>h));have CC:=zh (CC.out.trans (k6.mono (C':=RC) (fun _ h=>h.elim)));obtain ⟨gk,hgk⟩:=nm (w5.heap.size);have r1:(w5.alloc (.cells #[.pointer (some ⟨go,0,none⟩),.int .i64 (j:Int),.slice none 0 0] 37)).cell? ⟨g,1,none⟩=some (.slice fA2 Ls.length fc2):=RM.out.st.b.cell 1;clear fa k6;generalize paint col5 _ _=col6 at *;rw [<- hgk] at BF ⊢;clear hgk;generalize w5.alloc _=w6 at *;refine hK.out _ _ (trivial) (fun hHeld => ?_);clear hK K
         try simp only [Act.put,lPt]
         refine wpAnyH_ready (rs:=[4,19]) (by kernel_rfl) (by simp) ?_;refine AllReadyH.cons (o:=⟨some 73,_,_,_,_,_⟩) rfl (fun K hK => ?_) (AllReadyH.cons (o:=⟨some 88,_,_,_,_,_⟩) rfl (fun K hK => ?_) AllReadyH.nil)
         ·
          skip
          rw [if_pos (by rfl)];go_simp;refine hK.out _ _ (trivial) (fun hHeld => ?_);clear hK K
          try simp only [Act.put,lPt]
          refine wpAnyH_ready (rs:=[19]) (by kernel_rfl) (by simp) ?_;refine AllReadyH.cons (o:=⟨some 88,_,_,_,_,_⟩) rfl (fun K hK => ?_) AllReadyH.nil;rw [if_pos (by rfl)];go_simp;have BS:=zh (Blk.new w6 38 #[.pointer (some ⟨gk,0,none⟩)]);have fa:=(Fr.refl w6.heap.size [] w6).alloc (Nat.le_refl _) (.cells #[.pointer (some ⟨gk,0,none⟩)] 38);have RM:=zh (RM.out.fr0 fa);have NB:=zh (NB.out.cg (cg0 fa) (fun h=>h));have ROW:=zh (ROW.out.cg (cg0 fa) (fun h=>h));have HO:=zh (HO.out.cg (cg0 fa) (fun h=>h));have BF:=zh (BF.out.cg (cg0 fa) (fun h=>h));have CC:=zh (CC.out.trans (cgf RC fa));have r1:(w6.alloc (.cells #[.pointer (some ⟨gk,0,none⟩)] 38)).cell? ⟨g,1,none⟩=some (.slice fA2 Ls.length fc2):=RM.out.st.b.cell 1;clear fa;refine hK.out _ _ (trivial) (fun hHeld => ?_);clear hK K
          try simp only [Act.put,lPt]
          refine wpAnyH_ready (rs:=[20]) (by kernel_rfl) (by simp) ?_;refine AllReadyH.cons (o:=⟨some 89,_,_,_,_,_⟩) rfl (fun K hK => ?_) AllReadyH.nil;refine step_appC _ (by rfl) (.tmp 73) (.tmp 88) feedP (by rfl) _ Ls.length _ (by rfl) ROW.out (w6.heap.size+1) (some ⟨w6.heap.size,0,none⟩) 1 1 (ptrF gk) (by rfl) (Reads.of_blk (m:=1) (size:=1) BS.out rfl) (by simp [ptrF,Value.oneCell']) (by omega) (by omega) ?_;intro A' c' w8 hrow hap hgr;have FM:=zh (⟨go,none,0,BF.out.cg hap (by omega),CR.nil _ _ _ _ _,HO.out.cg hap (by omega)⟩:FeedM _ Ls.length w8 gk ⟨⟨chanN (j:Int) (i:Int) xd.id ix,1,[],0,0⟩,(j:Int),[]⟩);have hrm:=RM.out.addF hap (gn:=gk) (by rw [List.flatMap_append];simpa using hrow) FM.out (by show Ls.length+1<=60;omega);have NB:=zh (NB.out.cg hap (by omega));have SB:=zh (RM.out.st.cg hap (by omega));have CC:=zh (CC.out.trans (hap.mono (C':=RC) (fun c h=>.inr (.inr (.inl (by omega))))));have RM:=zh hrm.1;have ROW:=zh hrm.2;have r1:w8.cell? ⟨g,1,none⟩=some (.slice fA2 Ls.length fc2):=SB.out.b.cell 1;have rf:=SB.out.b.frozen 1;have rg:=SB.out.b.lt;clear hrm hrow hap hgr BS HO BF FM;generalize paint col6 _ _=col8 at *;refine hK.out _ _ (trivial) (fun hHeld => ?_);clear hK K
          try simp only [Act.put,lPt]
          refine tk (i:=21) (oi:=⟨some 90,_,_,_,_,_⟩) (v:=?_) rfl ?_ hHeld ?_
          rotate_left
          · intro w hSw;(try dsimp only at hSw);go_simp;(try with_reducible rfl)
          simp only [Act.put,lPt];refine tk (i:=22) (oi:=⟨some 91,_,_,_,_,_⟩) (v:=?_) rfl ?_ hHeld ?_
          rotate_left
          · intro w hSw;(try dsimp only at hSw);go_simp;(try with_reducible rfl)
          simp only [Act.put,lPt];refine wpAnyH_ready (rs:=[23]) (by kernel_rfl) (by simp) ?_;refine AllReadyH.cons (o:=⟨none,_,_,_,_,_⟩) rfl (fun K hK => ?_) AllReadyH.nil;rw [if_pos (by rfl)];go_simp;refine hK.out _ _ (trivial) (fun hHeld => ?_);clear hK K
          try simp only [Act.put]
          refine wpAnyH_done (by kernel_rfl) ?_ _;have k9:Cg (· = 110) col8 w8 col8 (w8.setCell ⟨g,1,none⟩ (.slice A' (Ls.length+1) c')):=(Cg.refl _ _ _).set SB.out.k _;have NB:=zh (NB.out.cg k9 (by omega));have CC:=zh (CC.out.trans (k9.mono (C':=RC) (fun c h=>.inr (.inr (.inl (by omega))))));have RM:=zh (by have h9:=RM.out;rw [<- HLS.out] at h9;exact h9:RigM col8 (w8.setCell ⟨g,1,none⟩ (.slice A' (Ls.length+1) c')) g ⟨T0,Fj ++ feedsT (j:Int) xd.id ix (i+1),[],[],ix⟩ ⟨gt,X,A',none,none,c',0,0,gf2 ++ [gk],[],[]⟩);have ROW:=zh (by rw [show (Fj ++ feedsT (j:Int) xd.id ix (i+1)).length=Ls.length+1 by rw [HLS.out];simp];exact ROW.out:CR col8 111 (w8.setCell ⟨g,1,none⟩ (.slice A' (Ls.length+1) c')) 38 1 (.slice A' (Fj ++ feedsT (j:Int) xd.id ix (i+1)).length c') (Fj ++ feedsT (j:Int) xd.id ix (i+1)).length ((gf2 ++ [gk]).flatMap ptrF));clear k9 SB rf rg r1;generalize w8.setCell _ _=w9 at *;clear hHeld;go_wp2_with fail;go_roundg (pt - (i+1))
          case measure=>omega
          case rel=>exact ⟨i+1,hip,rfl,by go_num,col8,A',c',gf2 ++ [gk],RM,NB,ROW,CC⟩
         ·
          skip
          rw [if_pos (by rfl)];go_simp;have BS:=zh (Blk.new w6 38 #[.pointer (some ⟨gk,0,none⟩)]);have fa:=(Fr.refl w6.heap.size [] w6).alloc (Nat.le_refl _) (.cells #[.pointer (some ⟨gk,0,none⟩)] 38);have RM:=zh (RM.out.fr0 fa);have NB:=zh (NB.out.cg (cg0 fa) (fun h=>h));have ROW:=zh (ROW.out.cg (cg0 fa) (fun h=>h));have HO:=zh (HO.out.cg (cg0 fa) (fun h=>h));have BF:=zh (BF.out.cg (cg0 fa) (fun h=>h));have CC:=zh (CC.out.trans (cgf RC fa));have r1:(w6.alloc (.cells #[.pointer (some ⟨gk,0,none⟩)] 38)).cell? ⟨g,1,none⟩=some (.slice fA2 Ls.length fc2):=RM.out.st.b.cell 1;clear fa;refine hK.out _ _ (trivial) (fun hHeld => ?_);clear hK K
          try simp only [Act.put,lPt]
          refine wpAnyH_ready (rs:=[4]) (by kernel_rfl) (by simp) ?_;refine AllReadyH.cons (o:=⟨some 73,_,_,_,_,_⟩) rfl (fun K hK => ?_) AllReadyH.nil;rw [if_pos (by rfl)];go_simp;refine hK.out _ _ (trivial) (fun hHeld => ?_);clear hK K
          try simp only [Act.put,lPt]
          refine wpAnyH_ready (rs:=[20]) (by kernel_rfl) (by simp) ?_;refine AllReadyH.cons (o:=⟨some 89,_,_,_,_,_⟩) rfl (fun K hK => ?_) AllReadyH.nil;refine step_appC _ (by rfl) (.tmp 73) (.tmp 88) feedP (by rfl) _ Ls.length _ (by rfl) ROW.out (w6.heap.size+1) (some ⟨w6.heap.size,0,none⟩) 1 1 (ptrF gk) (by rfl) (Reads.of_blk (m:=1) (size:=1) BS.out rfl) (by simp [ptrF,Value.oneCell']) (by omega) (by omega) ?_;intro A' c' w8 hrow hap hgr;have FM:=zh (⟨go,none,0,BF.out.cg hap (by omega),CR.nil _ _ _ _ _,HO.out.cg hap (by omega)⟩:FeedM _ Ls.length w8 gk ⟨⟨chanN (j:Int) (i:Int) xd.id ix,1,[],0,0⟩,(j:Int),[]⟩);have hrm:=RM.out.addF hap (gn:=gk) (by rw [List.flatMap_append];simpa using hrow) FM.out (by show Ls.length+1<=60;omega);have NB:=zh (NB.out.cg hap (by omega));have SB:=zh (RM.out.st.cg hap (by omega));have CC:=zh (CC.out.trans (hap.mono (C':=RC) (fun c h=>.inr (.inr (.inl (by omega))))));have RM:=zh hrm.1;have ROW:=zh hrm.2;have r1:w8.cell? ⟨g,1,none⟩=some (.slice fA2 Ls.length fc2):=SB.out.b.cell 1;have rf:=SB.out.b.frozen 1;have rg:=SB.out.b.lt;clear hrm hrow hap hgr BS HO BF FM;generalize paint col6 _ _=col8 at *;refine hK.out _ _ (trivial) (fun hHeld => ?_);clear hK K
          try simp only [Act.put,lPt]
          refine tk (i:=21) (oi:=⟨some 90,_,_,_,_,_⟩) (v:=?_) rfl ?_ hHeld ?_
          rotate_left
          · intro w hSw;(try dsimp only at hSw);go_simp;(try with_reducible rfl)
          simp only [Act.put,lPt];refine tk (i:=22) (oi:=⟨some 91,_,_,_,_,_⟩) (v:=?_) rfl ?_ hHeld ?_
          rotate_left
          · intro w hSw;(try dsimp only at hSw);go_simp;(try with_reducible rfl)
          simp only [Act.put,lPt];refine wpAnyH_ready (rs:=[23]) (by kernel_rfl) (by simp) ?_;refine AllReadyH.cons (o:=⟨none,_,_,_,_,_⟩) rfl (fun K hK => ?_) AllReadyH.nil;rw [if_pos (by rfl)];go_simp;refine hK.out _ _ (trivial) (fun hHeld => ?_);clear hK K
          try simp only [Act.put]
          refine wpAnyH_done (by kernel_rfl) ?_ _;have k9:Cg (· = 110) col8 w8 col8 (w8.setCell ⟨g,1,none⟩ (.slice A' (Ls.length+1) c')):=(Cg.refl _ _ _).set SB.out.k _;have NB:=zh (NB.out.cg k9 (by omega));have CC:=zh (CC.out.trans (k9.mono (C':=RC) (fun c h=>.inr (.inr (.inl (by omega))))));have RM:=zh (by have h9:=RM.out;rw [<- HLS.out] at h9;exact h9:RigM col8 (w8.setCell ⟨g,1,none⟩ (.slice A' (Ls.length+1) c')) g ⟨T0,Fj ++ feedsT (j:Int) xd.id ix (i+1),[],[],ix⟩ ⟨gt,X,A',none,none,c',0,0,gf2 ++ [gk],[],[]⟩);have ROW:=zh (by rw [show (Fj ++ feedsT (j:Int) xd.id ix (i+1)).length=Ls.length+1 by rw [HLS.out];simp];exact ROW.out:CR col8 111 (w8.setCell ⟨g,1,none⟩ (.slice A' (Ls.length+1) c')) 38 1 (.slice A' (Fj ++ feedsT (j:Int) xd.id ix (i+1)).length c') (Fj ++ feedsT (j:Int) xd.id ix (i+1)).length ((gf2 ++ [gk]).flatMap ptrF));clear k9 SB rf rg r1;generalize w8.setCell _ _=w9 at *;clear hHeld;go_wp2_with fail;go_roundg (pt - (i+1))
          case measure=>omega
          case rel=>exact ⟨i+1,hip,rfl,by go_num,col8,A',c',gf2 ++ [gk],RM,NB,ROW,CC⟩
      ·
       obtain rfl:i=pt:=by omega
       have RM9:=zh (by have h9:=RM.out;rw [<- HPT.out,<- HFF.out,<- show feedsN (fstN M) xd ix (j+1)=Fj ++ feedF (fstN M) xd.id ix (j:Int) from by rw [HSN.out,HB.out];simp] at h9;exact h9:RigM coli wr g ⟨T0,feedsN (fstN M) xd ix (j+1),[],[],ix⟩ ⟨gt,X,fA2,none,none,fc2,0,0,gf2,[],[]⟩);have ROW9:=zh (by have h9:=ROW.out;rw [<- HPT.out,<- HFF.out,<- show feedsN (fstN M) xd ix (j+1)=Fj ++ feedF (fstN M) xd.id ix (j:Int) from by rw [HSN.out,HB.out];simp] at h9;exact h9:CR coli 111 wr 38 1 (.slice fA2 (feedsN (fstN M) xd ix (j+1)).length fc2) (feedsN (fstN M) xd ix (j+1)).length (gf2.flatMap ptrF));clear RM ROW;go_wp2_with fail;go_roundg (8 - (j+1))
       case measure=>omega
       case rel=>exact ⟨j+1,hj8,rfl,by go_num,.inr ⟨_,rfl⟩,.inr ⟨_,rfl⟩,coli,fA2,fc2,gf2,RM9,NB,ROW9,CC⟩
  ·
   obtain rfl:j=8:=by omega
   have FB:=zh (CC.out.fr (Nat.le_refl _) HZ.out);have HCD:=zh (rchild_any xd.id (some ⟨b1,o1,none⟩) c w.heap.size n M wr (HN.out _ FB.out) CC.out.size HS.out);go_upto_region 15 with fail;go_wp2_with fail;refine HCD.out.mono ?_;rintro e w5 ⟨A5,c5,n5,hn5,rfl,hown,f5⟩;have HCK:=zh (show n5=(childR (fstN M) xd.id).length from hn5);have HC8:=zh (childR_le (fstN M) xd.id);have k5:=(cg0 (col:=colr) f5).paint 0;have FRD:=zh (⟨Reads.of_own hown,fun ad ha _=>paint_ge (own_low hown ad ha)⟩:CRd (paint colr wr.heap.size 0) 0 w5 1 A5 n5 ((childR (fstN M) xd.id).map (Value.int .i64)));have RM:=zh (RM.out.cg k5 (fun _ _ h=>h));have CC:=zh (CC.out.trans (k5.mono (C':=RC) (fun _ h=>h.elim)));obtain ⟨col5,hc5⟩:=nm (paint colr wr.heap.size 0);rw [<- hc5] at RM CC FRD;have ROW:=zh (CR.nil col5 112 w5 114 1);have hn8:n5<=8:=(by rw [hn5];exact childR_le _ _);obtain ⟨Fs,hFs⟩:=nm (feedsN (fstN M) xd ix 8);rw [<- hFs] at RM;have HFS:=zh hFs;clear hn5 k5 hown f5 hc5 NB HCD FB hFs;go_upto_region 16 with fail;go_loopg [17,18,19,96] n5 (fun q s17 s18 s19 s96 wr=>∃ j:Nat,j<=n5/\q=n5 - j/\s96=.int .i64 j/\(s17=undef \/ ∃ z,s17=.int .i64 z)/\(s18=undef \/ ∃ z,s18=.int .i64 z)/\(s19=undef \/ ∃ z,s19=.int .i64 z)/\∃ colr dA dc gd,Hid (RigM colr wr g ⟨T0,Fs,(((childR (fstN M) xd.id).take j).flatMap (drainF (fstN M) xd.id ix)),[],ix⟩ ⟨gt,X,fA,dA,none,fc,dc,0,gf,gd,[]⟩)/\Hid (CRd colr 0 wr 1 A5 n5 ((childR (fstN M) xd.id).map (Value.int .i64)))/\Hid (CR colr 112 wr 114 1 (.slice dA ((((childR (fstN M) xd.id).take j).flatMap (drainF (fstN M) xd.id ix))).length dc) ((((childR (fstN M) xd.id).take j).flatMap (drainF (fstN M) xd.id ix))).length (gd.flatMap ptrF))/\Hid (Cg RC col w colr wr))
   case atStart=>exact ⟨0,Nat.zero_le _,rfl,rfl,.inl rfl,.inl rfl,.inl rfl,col5,none,0,[],RM,FRD,ROW,CC⟩
   case round =>
    clear RM FRD ROW CC;obtain ⟨j,hj,rfl,rfl,hs17,hs18,hs19,colr,dA,dc,gd,RM,FRD,ROW,CC⟩:=hrel
    by_cases hjm:j < n5
    ·
     have hji:(j:Int) < (n5:Int):=by omega
     have FB:=zh (CC.out.fr (Nat.le_refl _) HZ.out);obtain ⟨f,hf⟩:∃ f,(childR (fstN M) xd.id)[j]?=some f:=⟨_,List.getElem?_eq_getElem (by rw [<- HCK.out];exact hjm)⟩;obtain ⟨hf0,hf8,x1,hx1⟩:=childR_mem (List.mem_of_getElem? hf);obtain ⟨b5,off5,rfl,hb5,hcell⟩:=FRD.out.1.2 (by omega);have x0:=hcell j (.int .i64 f) (by rw [List.getElem?_map,hf];rfl)
     have HTK := zh (show ((childR (fstN M) xd.id).take (j + 1)).flatMap (drainF (fstN M) xd.id ix) = (((childR (fstN M) xd.id).take j).flatMap (drainF (fstN M) xd.id ix)) ++ drainsT f xd.id ix x1.par.toNat by
      rw [List.take_add_one,hf,List.flatMap_append]
      simp [drainF_some hx1])
     have HFI:=rfind_any f (some ⟨b1,o1,none⟩) c w.heap.size n M wr (HN.out _ FB.out) hn
     obtain ⟨i1,hi1,h2⟩:∃ i1:Nat,ixN (fstN M) f=i1/\(fstN M)[i1]?=some x1:=by
      rcases ixN_cases (fstN M) f with ⟨_,h2⟩ | ⟨k,x,h1,h2,h3⟩
      · exact absurd (h2.symm.trans hx1) (by simp)
      ·
       rw [hx1] at h3;injection h3 with h3
       exact ⟨k,h1,by rw [h2,h3]⟩
     rw [hi1] at HFI;have HFI:=zh HFI;have hin:i1 < M.length:=(by have:=(List.getElem?_eq_some_iff.1 h2).1;simpa [fstN] using this);have hinn:(i1:Int) < (n:Int):=(by rw [HNUM.out];omega);have hpx:=right8_par (nodeB_iff.1 (HR.out.each x1 (findN_mem hx1))).2.2.2.1;obtain ⟨pt,hpt⟩:∃ pt:Nat,(pt:Int)=x1.par:=⟨x1.par.toNat,by omega⟩;have hpt3:pt<=3:=(by omega);have HPT:=zh (show x1.par.toNat=pt by omega);obtain ⟨m1,hm1⟩:∃ m1,M[i1]?=some m1:=⟨_,List.getElem?_eq_getElem hin⟩
     have hmx:m1.1=x1:=by
      unfold fstN at h2;rw [List.getElem?_map,hm1] at h2;injection h2
     have P4 := zh (fun W (hf : Fr w.heap.size [] w W) => (by
      obtain ⟨b,off,hA,_,hc⟩:=(HN.out W hf).get hm1;injection hA with hA
      injection hA with hA1 hA2
      subst hA1 hA2;have:=hc 4 _ (ndL_get m1).2.2.2.2.1;rw [hmx,<- hpt] at this
      exact this:W.cell? ⟨b1,o1+i1 * 13+4,none⟩=some (.int .i64 (pt:Int))))
     have HLE:=zh (drains_le HR.out xd.id ix j);obtain ⟨Dj,hDj⟩:=nm ((((childR (fstN M) xd.id).take j).flatMap (drainF (fstN M) xd.id ix)));rw [<- hDj] at RM ROW HTK HLE;have hj8:j<=8:=(by omega);clear hi1 h2 hx1 hpx hpt hm1 hmx hin hDj hcell hf hb5;go_wp2_with fail;refine HFI.out.mono ?_;rintro e w9 ⟨rfl,rfl⟩;go_upto_region 20 with fail;go_loopg [19] pt (fun q s19 wi=>∃ i:Nat,i<=pt/\q=pt - i/\s19=.int .i64 i/\∃ coli dA2 dc2 gd2,Hid (RigM coli wi g ⟨T0,Fs,(Dj ++ drainsT f xd.id ix i),[],ix⟩ ⟨gt,X,fA,dA2,none,fc,dc2,0,gf,gd2,[]⟩)/\Hid (CRd coli 0 wi 1 (some ⟨b5,off5,none⟩) n5 ((childR (fstN M) xd.id).map (Value.int .i64)))/\Hid (CR coli 112 wi 114 1 (.slice dA2 ((Dj ++ drainsT f xd.id ix i)).length dc2) ((Dj ++ drainsT f xd.id ix i)).length (gd2.flatMap ptrF))/\Hid (Cg RC col w coli wi))
     case atStart=>exact ⟨0,Nat.zero_le _,rfl,rfl,colr,dA,dc,gd,by simpa [drainsT] using RM,FRD,by simpa [drainsT] using ROW,CC⟩
     case round =>
      clear RM FRD ROW CC FB HFI x0;obtain ⟨i,hi,rfl,rfl,coli,dA2,dc2,gd2,RM,FRD,ROW,CC⟩:=hrel;have FB:=zh (CC.out.fr (Nat.le_refl _) HZ.out);have p4:=P4.out _ FB.out
      by_cases hip:i < pt
      ·
       have hii:(i:Int) < (pt:Int):=by omega
       have hi3:(i:Int) < 3:=(by omega);obtain ⟨Ls,hLs⟩:=nm ((Dj ++ drainsT f xd.id ix i));rw [<- hLs] at RM ROW;have HLS:=zh (show Dj ++ drainsT f xd.id ix (i+1)=Ls ++ [⟨⟨chanN xd.id ix f (i:Int),1,[],0⟩,f,(i:Int),[]⟩] by rw [drainsT_snoc,<- List.append_assoc,<- hLs])
       have hll:Ls.length<=30:=by
        rw [hLs,List.length_append];have h1:(drainsT f xd.id ix i).length=i:=(by simp [drainsT]);have h2:=HLE.out;omega
       clear hLs;have HCH:=zh (wrapC (f:=xd.id) (k:=ix) (id:=f) (ix:=(i:Int)) (by omega) (by have:=HI.out;omega) (by omega) (by omega));go_upto_region 22 with fail;have RM:=zh (RM.out.fr0 (Fr.refl _ _ _).drew);have FRD:=zh (FRD.out.cg (cg0 (Fr.refl _ _ _).drew) (fun h=>h));have ROW:=zh (ROW.out.cg (cg0 (Fr.refl _ _ _).drew) (fun h=>h));have CC:=zh CC.out.drew;have r1:wr.drew.cell? ⟨g,2,none⟩=some (.slice dA2 Ls.length dc2):=RM.out.st.b.cell 2;refine wp_region_held_drew (S:=fun _=>True) (by kernel_rfl) (trivial) (fun hHeld => ?_);refine tk (i:=0) (oi:=⟨some 112,_,_,_,_,_⟩) (v:=?_) rfl ?_ hHeld ?_
       rotate_left
       · intro w hSw;(try dsimp only at hSw);go_simp;(try with_reducible rfl)
       simp only [Act.put,lPt];refine tk (i:=1) (oi:=⟨some 113,_,_,_,_,_⟩) (v:=?_) rfl ?_ hHeld ?_
       rotate_left
       · intro w hSw;(try dsimp only at hSw);go_simp;(try with_reducible rfl)
       simp only [Act.put,lPt];refine tk (i:=2) (oi:=⟨some 114,_,_,_,_,_⟩) (v:=?_) rfl ?_ hHeld ?_
       rotate_left
       · intro w hSw;(try dsimp only at hSw);go_simp;(try with_reducible rfl)
       simp only [Act.put,lPt];refine tk (i:=3) (oi:=⟨some 115,_,_,_,_,_⟩) (v:=?_) rfl ?_ hHeld ?_
       rotate_left
       · intro w hSw;(try dsimp only at hSw);go_simp;(try with_reducible rfl)
       simp only [Act.put,lPt];refine tk (i:=5) (oi:=⟨some 117,_,_,_,_,_⟩) (v:=?_) rfl ?_ hHeld ?_
       rotate_left
       · intro w hSw;(try dsimp only at hSw);go_simp;(try with_reducible rfl)
       simp only [Act.put,lPt];refine tk (i:=6) (oi:=⟨some 118,_,_,_,_,_⟩) (v:=?_) rfl ?_ hHeld ?_
       rotate_left
       · intro w hSw;(try dsimp only at hSw);go_simp;(try with_reducible rfl)
       simp only [Act.put,lPt];refine tk (i:=7) (oi:=⟨some 119,_,_,_,_,_⟩) (v:=?_) rfl ?_ hHeld ?_
       rotate_left
       · intro w hSw;(try dsimp only at hSw);go_simp;(try with_reducible rfl)
       simp only [Act.put,lPt];refine tk (i:=8) (oi:=⟨some 120,_,_,_,_,_⟩) (v:=?_) rfl ?_ hHeld ?_
       rotate_left
       · intro w hSw;(try dsimp only at hSw);go_simp;(try with_reducible rfl)
       simp only [Act.put,lPt];refine tk (i:=9) (oi:=⟨some 121,_,_,_,_,_⟩) (v:=?_) rfl ?_ hHeld ?_
       rotate_left
       · intro w hSw;(try dsimp only at hSw);go_simp;(try with_reducible rfl)
       simp only [Act.put,lPt];refine tk (i:=10) (oi:=⟨some 122,_,_,_,_,_⟩) (v:=?_) rfl ?_ hHeld ?_
       rotate_left
       · intro w hSw;(try dsimp only at hSw);go_simp;(try with_reducible rfl)
       simp only [Act.put,lPt];refine tk (i:=11) (oi:=⟨some 123,_,_,_,_,_⟩) (v:=?_) rfl ?_ hHeld ?_
       rotate_left
       · intro w hSw;(try dsimp only at hSw);go_simp;(try with_reducible rfl)
       simp only [Act.put,lPt];refine tk (i:=12) (oi:=⟨some 124,_,_,_,_,_⟩) (v:=?_) rfl ?_ hHeld ?_
       rotate_left
       · intro w hSw;(try dsimp only at hSw);go_simp;(try with_reducible rfl)
       simp only [Act.put,lPt];refine tk (i:=13) (oi:=⟨some 125,_,_,_,_,_⟩) (v:=?_) rfl ?_ hHeld ?_
       rotate_left
       · intro w hSw;(try dsimp only at hSw);go_simp;(try with_reducible rfl)
       simp only [Act.put,lPt];refine tk (i:=14) (oi:=⟨some 126,_,_,_,_,_⟩) (v:=?_) rfl ?_ hHeld ?_
       rotate_left
       · intro w hSw;(try dsimp only at hSw);go_simp;(try with_reducible rfl)
       simp only [Act.put,lPt];refine tk (i:=16) (oi:=⟨some 128,_,_,_,_,_⟩) (v:=?_) rfl ?_ hHeld ?_
       rotate_left
       · intro w hSw;(try dsimp only at hSw);go_simp;(try with_reducible rfl)
       simp only [Act.put,lPt];refine tk (i:=17) (oi:=⟨some 129,_,_,_,_,_⟩) (v:=?_) rfl ?_ hHeld ?_
       rotate_left
       · intro w hSw;(try dsimp only at hSw);go_simp;(try with_reducible rfl)
       simp only [Act.put,lPt];refine wpAnyH_ready (rs:=[4,15]) (by kernel_rfl) (by simp) ?_;refine AllReadyH.cons (o:=⟨some 116,_,_,_,_,_⟩) rfl (fun K hK => ?_) (AllReadyH.cons (o:=⟨some 127,_,_,_,_,_⟩) rfl (fun K hK => ?_) AllReadyH.nil)
       ·
        skip
        rw [if_pos (by rfl)];go_simp;refine hK.out _ _ (trivial) (fun hHeld => ?_);clear hK K
        try simp only [Act.put,lPt]
        refine wpAnyH_ready (rs:=[15]) (by kernel_rfl) (by simp) ?_;refine AllReadyH.cons (o:=⟨some 127,_,_,_,_,_⟩) rfl (fun K hK => ?_) AllReadyH.nil;rw [if_pos (by rfl)];go_simp;refine (newIn_any _ _ _).mono ?_;rintro e w5 ⟨rfl,f5,hout⟩;have k5:=(cg0 (col:=coli) f5).paint (502+4 * Ls.length);have RM:=zh (RM.out.cg k5 (fun _ _ h=>h));have FRD:=zh (FRD.out.cg k5 (fun h=>h));have ROW:=zh (ROW.out.cg k5 (fun h=>h));have CC:=zh (CC.out.trans (k5.mono (C':=RC) (fun _ h=>h.elim)));have HO:=zh (by have h9:=hout coli (502+4 * Ls.length);rw [HCH.out] at h9;exact h9);have r1:w5.cell? ⟨g,2,none⟩=some (.slice dA2 Ls.length dc2):=RM.out.st.b.cell 2;clear f5 hout k5;generalize paint coli _ _=col5 at *;obtain ⟨go,hgo⟩:=nm (wr.drew.heap.size);rw [<- hgo] at HO ⊢;clear hgo;refine hK.out _ _ (trivial) (fun hHeld => ?_);clear hK K
        try simp only [Act.put,lPt]
        refine tk (i:=18) (oi:=⟨some 130,_,_,_,_,_⟩) (v:=?_) rfl ?_ hHeld ?_
        rotate_left
        · intro w hSw;(try dsimp only at hSw);go_simp;(try with_reducible rfl)
        simp only [Act.put,lPt];refine wpAnyH_ready (rs:=[19]) (by kernel_rfl) (by simp) ?_;refine AllReadyH.cons (o:=⟨some 131,_,_,_,_,_⟩) rfl (fun K hK => ?_) AllReadyH.nil;rw [if_pos (by rfl)];go_simp;have fa:=(Fr.refl w5.heap.size [] w5).alloc (Nat.le_refl _) (.cells #[.pointer (some ⟨go,0,none⟩),.int .i64 f,.int .i64 (i:Int),.slice none 0 0] 117);have k6:=(cg0 (col:=col5) fa).paint (500+4 * Ls.length);have BF:=zh (⟨Blk.new w5 _ _,paint_ge (Nat.le_refl _)⟩:CB (paint col5 w5.heap.size (500+4 * Ls.length)) (500+4 * Ls.length) (w5.alloc (.cells #[.pointer (some ⟨go,0,none⟩),.int .i64 f,.int .i64 (i:Int),.slice none 0 0] 117)) w5.heap.size 117 #[.pointer (some ⟨go,0,none⟩),.int .i64 f,.int .i64 (i:Int),.slice none 0 0]);have RM:=zh (RM.out.cg k6 (fun _ _ h=>h));have FRD:=zh (FRD.out.cg k6 (fun h=>h));have ROW:=zh (ROW.out.cg k6 (fun h=>h));have HO:=zh (HO.out.cg k6 (fun h=>h));have CC:=zh (CC.out.trans (k6.mono (C':=RC) (fun _ h=>h.elim)));obtain ⟨gk,hgk⟩:=nm (w5.heap.size);have r1:(w5.alloc (.cells #[.pointer (some ⟨go,0,none⟩),.int .i64 f,.int .i64 (i:Int),.slice none 0 0] 117)).cell? ⟨g,2,none⟩=some (.slice dA2 Ls.length dc2):=RM.out.st.b.cell 2;clear fa k6;generalize paint col5 _ _=col6 at *;rw [<- hgk] at BF ⊢;clear hgk;generalize w5.alloc _=w6 at *;refine hK.out _ _ (trivial) (fun hHeld => ?_);clear hK K
        try simp only [Act.put,lPt]
        refine wpAnyH_ready (rs:=[20]) (by kernel_rfl) (by simp) ?_;refine AllReadyH.cons (o:=⟨some 132,_,_,_,_,_⟩) rfl (fun K hK => ?_) AllReadyH.nil;rw [if_pos (by rfl)];go_simp;have BS:=zh (Blk.new w6 114 #[.pointer (some ⟨gk,0,none⟩)]);have fa:=(Fr.refl w6.heap.size [] w6).alloc (Nat.le_refl _) (.cells #[.pointer (some ⟨gk,0,none⟩)] 114);have RM:=zh (RM.out.fr0 fa);have FRD:=zh (FRD.out.cg (cg0 fa) (fun h=>h));have ROW:=zh (ROW.out.cg (cg0 fa) (fun h=>h));have HO:=zh (HO.out.cg (cg0 fa) (fun h=>h));have BF:=zh (BF.out.cg (cg0 fa) (fun h=>h));have CC:=zh (CC.out.trans (cgf RC fa));have r1:(w6.alloc (.cells #[.pointer (some ⟨gk,0,none⟩)] 114)).cell? ⟨g,2,none⟩=some (.slice dA2 Ls.length dc2):=RM.out.st.b.cell 2;clear fa;refine hK.out _ _ (trivial) (fun hHeld => ?_);clear hK K
        try simp only [Act.put,lPt]
        refine wpAnyH_ready (rs:=[21]) (by kernel_rfl) (by simp) ?_;refine AllReadyH.cons (o:=⟨some 133,_,_,_,_,_⟩) rfl (fun K hK => ?_) AllReadyH.nil;refine step_appC _ (by rfl) (.tmp 116) (.tmp 132) drainP (by rfl) _ Ls.length _ (by rfl) ROW.out (w6.heap.size+1) (some ⟨w6.heap.size,0,none⟩) 1 1 (ptrF gk) (by rfl) (Reads.of_blk (m:=1) (size:=1) BS.out rfl) (by simp [ptrF,Value.oneCell']) (by omega) (by omega) ?_;intro A' c' w8 hrow hap hgr;have FM:=zh (⟨go,none,0,BF.out.cg hap (by omega),CR.nil _ _ _ _ _,HO.out.cg hap (by omega)⟩:DrainM _ Ls.length w8 gk ⟨⟨chanN xd.id ix f (i:Int),1,[],0⟩,f,(i:Int),[]⟩);have hrm:=RM.out.addD hap (gn:=gk) (by rw [List.flatMap_append];simpa using hrow) FM.out (by show Ls.length+1<=60;omega);have FRD:=zh (FRD.out.cg hap (by omega));have SB:=zh (RM.out.st.cg hap (by omega));have CC:=zh (CC.out.trans (hap.mono (C':=RC) (fun c h=>.inr (.inr (.inl (by omega))))));have RM:=zh hrm.1;have ROW:=zh hrm.2;have r1:w8.cell? ⟨g,2,none⟩=some (.slice dA2 Ls.length dc2):=SB.out.b.cell 2;have rf:=SB.out.b.frozen 2;have rg:=SB.out.b.lt;clear hrm hrow hap hgr BS HO BF FM;generalize paint col6 _ _=col8 at *;refine hK.out _ _ (trivial) (fun hHeld => ?_);clear hK K
        try simp only [Act.put,lPt]
        refine tk (i:=22) (oi:=⟨some 134,_,_,_,_,_⟩) (v:=?_) rfl ?_ hHeld ?_
        rotate_left
        · intro w hSw;(try dsimp only at hSw);go_simp;(try with_reducible rfl)
        simp only [Act.put,lPt];refine tk (i:=23) (oi:=⟨some 135,_,_,_,_,_⟩) (v:=?_) rfl ?_ hHeld ?_
        rotate_left
        · intro w hSw;(try dsimp only at hSw);go_simp;(try with_reducible rfl)
        simp only [Act.put,lPt];refine wpAnyH_ready (rs:=[24]) (by kernel_rfl) (by simp) ?_;refine AllReadyH.cons (o:=⟨none,_,_,_,_,_⟩) rfl (fun K hK => ?_) AllReadyH.nil;rw [if_pos (by rfl)];go_simp;refine hK.out _ _ (trivial) (fun hHeld => ?_);clear hK K
        try simp only [Act.put]
        refine wpAnyH_done (by kernel_rfl) ?_ _;have k9:Cg (· = 110) col8 w8 col8 (w8.setCell ⟨g,2,none⟩ (.slice A' (Ls.length+1) c')):=(Cg.refl _ _ _).set SB.out.k _;have FRD:=zh (FRD.out.cg k9 (by omega));have CC:=zh (CC.out.trans (k9.mono (C':=RC) (fun c h=>.inr (.inr (.inl (by omega))))));have RM:=zh (by have h9:=RM.out;rw [<- HLS.out] at h9;exact h9:RigM col8 (w8.setCell ⟨g,2,none⟩ (.slice A' (Ls.length+1) c')) g ⟨T0,Fs,Dj ++ drainsT f xd.id ix (i+1),[],ix⟩ ⟨gt,X,fA,A',none,fc,c',0,gf,gd2 ++ [gk],[]⟩);have ROW:=zh (by rw [show (Dj ++ drainsT f xd.id ix (i+1)).length=Ls.length+1 by rw [HLS.out];simp];exact ROW.out:CR col8 112 (w8.setCell ⟨g,2,none⟩ (.slice A' (Ls.length+1) c')) 114 1 (.slice A' (Dj ++ drainsT f xd.id ix (i+1)).length c') (Dj ++ drainsT f xd.id ix (i+1)).length ((gd2 ++ [gk]).flatMap ptrF));clear k9 SB rf rg r1;generalize w8.setCell _ _=w9 at *;clear hHeld;go_wp2_with fail;go_roundg (pt - (i+1))
        case measure=>omega
        case rel=>exact ⟨i+1,hip,rfl,by go_num,col8,A',c',gd2 ++ [gk],RM,FRD,ROW,CC⟩
       ·
        skip
        rw [if_pos (by rfl)];go_simp;refine (newIn_any _ _ _).mono ?_;rintro e w5 ⟨rfl,f5,hout⟩;have k5:=(cg0 (col:=coli) f5).paint (502+4 * Ls.length);have RM:=zh (RM.out.cg k5 (fun _ _ h=>h));have FRD:=zh (FRD.out.cg k5 (fun h=>h));have ROW:=zh (ROW.out.cg k5 (fun h=>h));have CC:=zh (CC.out.trans (k5.mono (C':=RC) (fun _ h=>h.elim)));have HO:=zh (by have h9:=hout coli (502+4 * Ls.length);rw [HCH.out] at h9;exact h9);have r1:w5.cell? ⟨g,2,none⟩=some (.slice dA2 Ls.length dc2):=RM.out.st.b.cell 2;clear f5 hout k5;generalize paint coli _ _=col5 at *;obtain ⟨go,hgo⟩:=nm (wr.drew.heap.size);rw [<- hgo] at HO ⊢;clear hgo;refine hK.out _ _ (trivial) (fun hHeld => ?_);clear hK K
        try simp only [Act.put,lPt]
        refine tk (i:=18) (oi:=⟨some 130,_,_,_,_,_⟩) (v:=?_) rfl ?_ hHeld ?_
        rotate_left
        · intro w hSw;(try dsimp only at hSw);go_simp;(try with_reducible rfl)
        simp only [Act.put,lPt];refine wpAnyH_ready (rs:=[4,19]) (by kernel_rfl) (by simp) ?_;refine AllReadyH.cons (o:=⟨some 116,_,_,_,_,_⟩) rfl (fun K hK => ?_) (AllReadyH.cons (o:=⟨some 131,_,_,_,_,_⟩) rfl (fun K hK => ?_) AllReadyH.nil)
        ·
         skip
         rw [if_pos (by rfl)];go_simp;refine hK.out _ _ (trivial) (fun hHeld => ?_);clear hK K
         try simp only [Act.put,lPt]
         refine wpAnyH_ready (rs:=[19]) (by kernel_rfl) (by simp) ?_;refine AllReadyH.cons (o:=⟨some 131,_,_,_,_,_⟩) rfl (fun K hK => ?_) AllReadyH.nil;rw [if_pos (by rfl)];go_simp;have fa:=(Fr.refl w5.heap.size [] w5).alloc (Nat.le_refl _) (.cells #[.pointer (some ⟨go,0,none⟩),.int .i64 f,.int .i64 (i:Int),.slice none 0 0] 117);have k6:=(cg0 (col:=col5) fa).paint (500+4 * Ls.length);have BF:=zh (⟨Blk.new w5 _ _,paint_ge (Nat.le_refl _)⟩:CB (paint col5 w5.heap.size (500+4 * Ls.length)) (500+4 * Ls.length) (w5.alloc (.cells #[.pointer (some ⟨go,0,none⟩),.int .i64 f,.int .i64 (i:Int),.slice none 0 0] 117)) w5.heap.size 117 #[.pointer (some ⟨go,0,none⟩),.int .i64 f,.int .i64 (i:Int),.slice none 0 0]);have RM:=zh (RM.out.cg k6 (fun _ _ h=>h));have FRD:=zh (FRD.out.cg k6 (fun h=>h));have ROW:=zh (ROW.out.cg k6 (fun h=>h));have HO:=zh (HO.out.cg k6 (fun h=>h));have CC:=zh (CC.out.trans (k6.mono (C':=RC) (fun _ h=>h.elim)));obtain ⟨gk,hgk⟩:=nm (w5.heap.size);have r1:(w5.alloc (.cells #[.pointer (some ⟨go,0,none⟩),.int .i64 f,.int .i64 (i:Int),.slice none 0 0] 117)).cell? ⟨g,2,none⟩=some (.slice dA2 Ls.length dc2):=RM.out.st.b.cell 2;clear fa k6;generalize paint col5 _ _=col6 at *;rw [<- hgk] at BF ⊢;clear hgk;generalize w5.alloc _=w6 at *;refine hK.out _ _ (trivial) (fun hHeld => ?_);clear hK K
         try simp only [Act.put,lPt]
         refine wpAnyH_ready (rs:=[20]) (by kernel_rfl) (by simp) ?_;refine AllReadyH.cons (o:=⟨some 132,_,_,_,_,_⟩) rfl (fun K hK => ?_) AllReadyH.nil;rw [if_pos (by rfl)];go_simp;have BS:=zh (Blk.new w6 114 #[.pointer (some ⟨gk,0,none⟩)]);have fa:=(Fr.refl w6.heap.size [] w6).alloc (Nat.le_refl _) (.cells #[.pointer (some ⟨gk,0,none⟩)] 114);have RM:=zh (RM.out.fr0 fa);have FRD:=zh (FRD.out.cg (cg0 fa) (fun h=>h));have ROW:=zh (ROW.out.cg (cg0 fa) (fun h=>h));have HO:=zh (HO.out.cg (cg0 fa) (fun h=>h));have BF:=zh (BF.out.cg (cg0 fa) (fun h=>h));have CC:=zh (CC.out.trans (cgf RC fa));have r1:(w6.alloc (.cells #[.pointer (some ⟨gk,0,none⟩)] 114)).cell? ⟨g,2,none⟩=some (.slice dA2 Ls.length dc2):=RM.out.st.b.cell 2;clear fa;refine hK.out _ _ (trivial) (fun hHeld => ?_);clear hK K
         try simp only [Act.put,lPt]
         refine wpAnyH_ready (rs:=[21]) (by kernel_rfl) (by simp) ?_;refine AllReadyH.cons (o:=⟨some 133,_,_,_,_,_⟩) rfl (fun K hK => ?_) AllReadyH.nil;refine step_appC _ (by rfl) (.tmp 116) (.tmp 132) drainP (by rfl) _ Ls.length _ (by rfl) ROW.out (w6.heap.size+1) (some ⟨w6.heap.size,0,none⟩) 1 1 (ptrF gk) (by rfl) (Reads.of_blk (m:=1) (size:=1) BS.out rfl) (by simp [ptrF,Value.oneCell']) (by omega) (by omega) ?_;intro A' c' w8 hrow hap hgr;have FM:=zh (⟨go,none,0,BF.out.cg hap (by omega),CR.nil _ _ _ _ _,HO.out.cg hap (by omega)⟩:DrainM _ Ls.length w8 gk ⟨⟨chanN xd.id ix f (i:Int),1,[],0⟩,f,(i:Int),[]⟩);have hrm:=RM.out.addD hap (gn:=gk) (by rw [List.flatMap_append];simpa using hrow) FM.out (by show Ls.length+1<=60;omega);have FRD:=zh (FRD.out.cg hap (by omega));have SB:=zh (RM.out.st.cg hap (by omega));have CC:=zh (CC.out.trans (hap.mono (C':=RC) (fun c h=>.inr (.inr (.inl (by omega))))));have RM:=zh hrm.1;have ROW:=zh hrm.2;have r1:w8.cell? ⟨g,2,none⟩=some (.slice dA2 Ls.length dc2):=SB.out.b.cell 2;have rf:=SB.out.b.frozen 2;have rg:=SB.out.b.lt;clear hrm hrow hap hgr BS HO BF FM;generalize paint col6 _ _=col8 at *;refine hK.out _ _ (trivial) (fun hHeld => ?_);clear hK K
         try simp only [Act.put,lPt]
         refine tk (i:=22) (oi:=⟨some 134,_,_,_,_,_⟩) (v:=?_) rfl ?_ hHeld ?_
         rotate_left
         · intro w hSw;(try dsimp only at hSw);go_simp;(try with_reducible rfl)
         simp only [Act.put,lPt];refine tk (i:=23) (oi:=⟨some 135,_,_,_,_,_⟩) (v:=?_) rfl ?_ hHeld ?_
         rotate_left
         · intro w hSw;(try dsimp only at hSw);go_simp;(try with_reducible rfl)
         simp only [Act.put,lPt];refine wpAnyH_ready (rs:=[24]) (by kernel_rfl) (by simp) ?_;refine AllReadyH.cons (o:=⟨none,_,_,_,_,_⟩) rfl (fun K hK => ?_) AllReadyH.nil;rw [if_pos (by rfl)];go_simp;refine hK.out _ _ (trivial) (fun hHeld => ?_);clear hK K
         try simp only [Act.put]
         refine wpAnyH_done (by kernel_rfl) ?_ _;have k9:Cg (· = 110) col8 w8 col8 (w8.setCell ⟨g,2,none⟩ (.slice A' (Ls.length+1) c')):=(Cg.refl _ _ _).set SB.out.k _;have FRD:=zh (FRD.out.cg k9 (by omega));have CC:=zh (CC.out.trans (k9.mono (C':=RC) (fun c h=>.inr (.inr (.inl (by omega))))));have RM:=zh (by have h9:=RM.out;rw [<- HLS.out] at h9;exact h9:RigM col8 (w8.setCell ⟨g,2,none⟩ (.slice A' (Ls.length+1) c')) g ⟨T0,Fs,Dj ++ drainsT f xd.id ix (i+1),[],ix⟩ ⟨gt,X,fA,A',none,fc,c',0,gf,gd2 ++ [gk],[]⟩);have ROW:=zh (by rw [show (Dj ++ drainsT f xd.id ix (i+1)).length=Ls.length+1 by rw [HLS.out];simp];exact ROW.out:CR col8 112 (w8.setCell ⟨g,2,none⟩ (.slice A' (Ls.length+1) c')) 114 1 (.slice A' (Dj ++ drainsT f xd.id ix (i+1)).length c') (Dj ++ drainsT f xd.id ix (i+1)).length ((gd2 ++ [gk]).flatMap ptrF));clear k9 SB rf rg r1;generalize w8.setCell _ _=w9 at *;clear hHeld;go_wp2_with fail;go_roundg (pt - (i+1))
         case measure=>omega
         case rel=>exact ⟨i+1,hip,rfl,by go_num,col8,A',c',gd2 ++ [gk],RM,FRD,ROW,CC⟩
        ·
         skip
         rw [if_pos (by rfl)];go_simp;have fa:=(Fr.refl w5.heap.size [] w5).alloc (Nat.le_refl _) (.cells #[.pointer (some ⟨go,0,none⟩),.int .i64 f,.int .i64 (i:Int),.slice none 0 0] 117);have k6:=(cg0 (col:=col5) fa).paint (500+4 * Ls.length);have BF:=zh (⟨Blk.new w5 _ _,paint_ge (Nat.le_refl _)⟩:CB (paint col5 w5.heap.size (500+4 * Ls.length)) (500+4 * Ls.length) (w5.alloc (.cells #[.pointer (some ⟨go,0,none⟩),.int .i64 f,.int .i64 (i:Int),.slice none 0 0] 117)) w5.heap.size 117 #[.pointer (some ⟨go,0,none⟩),.int .i64 f,.int .i64 (i:Int),.slice none 0 0]);have RM:=zh (RM.out.cg k6 (fun _ _ h=>h));have FRD:=zh (FRD.out.cg k6 (fun h=>h));have ROW:=zh (ROW.out.cg k6 (fun h=>h));have HO:=zh (HO.out.cg k6 (fun h=>h));have CC:=zh (CC.out.trans (k6.mono (C':=RC) (fun _ h=>h.elim)));obtain ⟨gk,hgk⟩:=nm (w5.heap.size);have r1:(w5.alloc (.cells #[.pointer (some ⟨go,0,none⟩),.int .i64 f,.int .i64 (i:Int),.slice none 0 0] 117)).cell? ⟨g,2,none⟩=some (.slice dA2 Ls.length dc2):=RM.out.st.b.cell 2;clear fa k6;generalize paint col5 _ _=col6 at *;rw [<- hgk] at BF ⊢;clear hgk;generalize w5.alloc _=w6 at *;refine hK.out _ _ (trivial) (fun hHeld => ?_);clear hK K
         try simp only [Act.put,lPt]
         refine wpAnyH_ready (rs:=[4,20]) (by kernel_rfl) (by simp) ?_;refine AllReadyH.cons (o:=⟨some 116,_,_,_,_,_⟩) rfl (fun K hK => ?_) (AllReadyH.cons (o:=⟨some 132,_,_,_,_,_⟩) rfl (fun K hK => ?_) AllReadyH.nil)
         ·
          skip
          rw [if_pos (by rfl)];go_simp;refine hK.out _ _ (trivial) (fun hHeld => ?_);clear hK K
          try simp only [Act.put,lPt]
          refine wpAnyH_ready (rs:=[20]) (by kernel_rfl) (by simp) ?_;refine AllReadyH.cons (o:=⟨some 132,_,_,_,_,_⟩) rfl (fun K hK => ?_) AllReadyH.nil;rw [if_pos (by rfl)];go_simp;have BS:=zh (Blk.new w6 114 #[.pointer (some ⟨gk,0,none⟩)]);have fa:=(Fr.refl w6.heap.size [] w6).alloc (Nat.le_refl _) (.cells #[.pointer (some ⟨gk,0,none⟩)] 114);have RM:=zh (RM.out.fr0 fa);have FRD:=zh (FRD.out.cg (cg0 fa) (fun h=>h));have ROW:=zh (ROW.out.cg (cg0 fa) (fun h=>h));have HO:=zh (HO.out.cg (cg0 fa) (fun h=>h));have BF:=zh (BF.out.cg (cg0 fa) (fun h=>h));have CC:=zh (CC.out.trans (cgf RC fa));have r1:(w6.alloc (.cells #[.pointer (some ⟨gk,0,none⟩)] 114)).cell? ⟨g,2,none⟩=some (.slice dA2 Ls.length dc2):=RM.out.st.b.cell 2;clear fa;refine hK.out _ _ (trivial) (fun hHeld => ?_);clear hK K
          try simp only [Act.put,lPt]
          refine wpAnyH_ready (rs:=[21]) (by kernel_rfl) (by simp) ?_;refine AllReadyH.cons (o:=⟨some 133,_,_,_,_,_⟩) rfl (fun K hK => ?_) AllReadyH.nil;refine step_appC _ (by rfl) (.tmp 116) (.tmp 132) drainP (by rfl) _ Ls.length _ (by rfl) ROW.out (w6.heap.size+1) (some ⟨w6.heap.size,0,none⟩) 1 1 (ptrF gk) (by rfl) (Reads.of_blk (m:=1) (size:=1) BS.out rfl) (by simp [ptrF,Value.oneCell']) (by omega) (by omega) ?_;intro A' c' w8 hrow hap hgr;have FM:=zh (⟨go,none,0,BF.out.cg hap (by omega),CR.nil _ _ _ _ _,HO.out.cg hap (by omega)⟩:DrainM _ Ls.length w8 gk ⟨⟨chanN xd.id ix f (i:Int),1,[],0⟩,f,(i:Int),[]⟩);have hrm:=RM.out.addD hap (gn:=gk) (by rw [List.flatMap_append];simpa using hrow) FM.out (by show Ls.length+1<=60;omega);have FRD:=zh (FRD.out.cg hap (by omega));have SB:=zh (RM.out.st.cg hap (by omega));have CC:=zh (CC.out.trans (hap.mono (C':=RC) (fun c h=>.inr (.inr (.inl (by omega))))));have RM:=zh hrm.1;have ROW:=zh hrm.2;have r1:w8.cell? ⟨g,2,none⟩=some (.slice dA2 Ls.length dc2):=SB.out.b.cell 2;have rf:=SB.out.b.frozen 2;have rg:=SB.out.b.lt;clear hrm hrow hap hgr BS HO BF FM;generalize paint col6 _ _=col8 at *;refine hK.out _ _ (trivial) (fun hHeld => ?_);clear hK K
          try simp only [Act.put,lPt]
          refine tk (i:=22) (oi:=⟨some 134,_,_,_,_,_⟩) (v:=?_) rfl ?_ hHeld ?_
          rotate_left
          · intro w hSw;(try dsimp only at hSw);go_simp;(try with_reducible rfl)
          simp only [Act.put,lPt];refine tk (i:=23) (oi:=⟨some 135,_,_,_,_,_⟩) (v:=?_) rfl ?_ hHeld ?_
          rotate_left
          · intro w hSw;(try dsimp only at hSw);go_simp;(try with_reducible rfl)
          simp only [Act.put,lPt];refine wpAnyH_ready (rs:=[24]) (by kernel_rfl) (by simp) ?_;refine AllReadyH.cons (o:=⟨none,_,_,_,_,_⟩) rfl (fun K hK => ?_) AllReadyH.nil;rw [if_pos (by rfl)];go_simp;refine hK.out _ _ (trivial) (fun hHeld => ?_);clear hK K
          try simp only [Act.put]
          refine wpAnyH_done (by kernel_rfl) ?_ _;have k9:Cg (· = 110) col8 w8 col8 (w8.setCell ⟨g,2,none⟩ (.slice A' (Ls.length+1) c')):=(Cg.refl _ _ _).set SB.out.k _;have FRD:=zh (FRD.out.cg k9 (by omega));have CC:=zh (CC.out.trans (k9.mono (C':=RC) (fun c h=>.inr (.inr (.inl (by omega))))));have RM:=zh (by have h9:=RM.out;rw [<- HLS.out] at h9;exact h9:RigM col8 (w8.setCell ⟨g,2,none⟩ (.slice A' (Ls.length+1) c')) g ⟨T0,Fs,Dj ++ drainsT f xd.id ix (i+1),[],ix⟩ ⟨gt,X,fA,A',none,fc,c',0,gf,gd2 ++ [gk],[]⟩);have ROW:=zh (by rw [show (Dj ++ drainsT f xd.id ix (i+1)).length=Ls.length+1 by rw [HLS.out];simp];exact ROW.out:CR col8 112 (w8.setCell ⟨g,2,none⟩ (.slice A' (Ls.length+1) c')) 114 1 (.slice A' (Dj ++ drainsT f xd.id ix (i+1)).length c') (Dj ++ drainsT f xd.id ix (i+1)).length ((gd2 ++ [gk]).flatMap ptrF));clear k9 SB rf rg r1;generalize w8.setCell _ _=w9 at *;clear hHeld;go_wp2_with fail;go_roundg (pt - (i+1))
          case measure=>omega
          case rel=>exact ⟨i+1,hip,rfl,by go_num,col8,A',c',gd2 ++ [gk],RM,FRD,ROW,CC⟩
         ·
          skip
          rw [if_pos (by rfl)];go_simp;have BS:=zh (Blk.new w6 114 #[.pointer (some ⟨gk,0,none⟩)]);have fa:=(Fr.refl w6.heap.size [] w6).alloc (Nat.le_refl _) (.cells #[.pointer (some ⟨gk,0,none⟩)] 114);have RM:=zh (RM.out.fr0 fa);have FRD:=zh (FRD.out.cg (cg0 fa) (fun h=>h));have ROW:=zh (ROW.out.cg (cg0 fa) (fun h=>h));have HO:=zh (HO.out.cg (cg0 fa) (fun h=>h));have BF:=zh (BF.out.cg (cg0 fa) (fun h=>h));have CC:=zh (CC.out.trans (cgf RC fa));have r1:(w6.alloc (.cells #[.pointer (some ⟨gk,0,none⟩)] 114)).cell? ⟨g,2,none⟩=some (.slice dA2 Ls.length dc2):=RM.out.st.b.cell 2;clear fa;refine hK.out _ _ (trivial) (fun hHeld => ?_);clear hK K
          try simp only [Act.put,lPt]
          refine wpAnyH_ready (rs:=[4]) (by kernel_rfl) (by simp) ?_;refine AllReadyH.cons (o:=⟨some 116,_,_,_,_,_⟩) rfl (fun K hK => ?_) AllReadyH.nil;rw [if_pos (by rfl)];go_simp;refine hK.out _ _ (trivial) (fun hHeld => ?_);clear hK K
          try simp only [Act.put,lPt]
          refine wpAnyH_ready (rs:=[21]) (by kernel_rfl) (by simp) ?_;refine AllReadyH.cons (o:=⟨some 133,_,_,_,_,_⟩) rfl (fun K hK => ?_) AllReadyH.nil;refine step_appC _ (by rfl) (.tmp 116) (.tmp 132) drainP (by rfl) _ Ls.length _ (by rfl) ROW.out (w6.heap.size+1) (some ⟨w6.heap.size,0,none⟩) 1 1 (ptrF gk) (by rfl) (Reads.of_blk (m:=1) (size:=1) BS.out rfl) (by simp [ptrF,Value.oneCell']) (by omega) (by omega) ?_;intro A' c' w8 hrow hap hgr;have FM:=zh (⟨go,none,0,BF.out.cg hap (by omega),CR.nil _ _ _ _ _,HO.out.cg hap (by omega)⟩:DrainM _ Ls.length w8 gk ⟨⟨chanN xd.id ix f (i:Int),1,[],0⟩,f,(i:Int),[]⟩);have hrm:=RM.out.addD hap (gn:=gk) (by rw [List.flatMap_append];simpa using hrow) FM.out (by show Ls.length+1<=60;omega);have FRD:=zh (FRD.out.cg hap (by omega));have SB:=zh (RM.out.st.cg hap (by omega));have CC:=zh (CC.out.trans (hap.mono (C':=RC) (fun c h=>.inr (.inr (.inl (by omega))))));have RM:=zh hrm.1;have ROW:=zh hrm.2;have r1:w8.cell? ⟨g,2,none⟩=some (.slice dA2 Ls.length dc2):=SB.out.b.cell 2;have rf:=SB.out.b.frozen 2;have rg:=SB.out.b.lt;clear hrm hrow hap hgr BS HO BF FM;generalize paint col6 _ _=col8 at *;refine hK.out _ _ (trivial) (fun hHeld => ?_);clear hK K
          try simp only [Act.put,lPt]
          refine tk (i:=22) (oi:=⟨some 134,_,_,_,_,_⟩) (v:=?_) rfl ?_ hHeld ?_
          rotate_left
          · intro w hSw;(try dsimp only at hSw);go_simp;(try with_reducible rfl)
          simp only [Act.put,lPt];refine tk (i:=23) (oi:=⟨some 135,_,_,_,_,_⟩) (v:=?_) rfl ?_ hHeld ?_
          rotate_left
          · intro w hSw;(try dsimp only at hSw);go_simp;(try with_reducible rfl)
          simp only [Act.put,lPt];refine wpAnyH_ready (rs:=[24]) (by kernel_rfl) (by simp) ?_;refine AllReadyH.cons (o:=⟨none,_,_,_,_,_⟩) rfl (fun K hK => ?_) AllReadyH.nil;rw [if_pos (by rfl)];go_simp;refine hK.out _ _ (trivial) (fun hHeld => ?_);clear hK K
          try simp only [Act.put]
          refine wpAnyH_done (by kernel_rfl) ?_ _;have k9:Cg (· = 110) col8 w8 col8 (w8.setCell ⟨g,2,none⟩ (.slice A' (Ls.length+1) c')):=(Cg.refl _ _ _).set SB.out.k _;have FRD:=zh (FRD.out.cg k9 (by omega));have CC:=zh (CC.out.trans (k9.mono (C':=RC) (fun c h=>.inr (.inr (.inl (by omega))))));have RM:=zh (by have h9:=RM.out;rw [<- HLS.out] at h9;exact h9:RigM col8 (w8.setCell ⟨g,2,none⟩ (.slice A' (Ls.length+1) c')) g ⟨T0,Fs,Dj ++ drainsT f xd.id ix (i+1),[],ix⟩ ⟨gt,X,fA,A',none,fc,c',0,gf,gd2 ++ [gk],[]⟩);have ROW:=zh (by rw [show (Dj ++ drainsT f xd.id ix (i+1)).length=Ls.length+1 by rw [HLS.out];simp];exact ROW.out:CR col8 112 (w8.setCell ⟨g,2,none⟩ (.slice A' (Ls.length+1) c')) 114 1 (.slice A' (Dj ++ drainsT f xd.id ix (i+1)).length c') (Dj ++ drainsT f xd.id ix (i+1)).length ((gd2 ++ [gk]).flatMap ptrF));clear k9 SB rf rg r1;generalize w8.setCell _ _=w9 at *;clear hHeld;go_wp2_with fail;go_roundg (pt - (i+1))
          case measure=>omega
          case rel=>exact ⟨i+1,hip,rfl,by go_num,col8,A',c',gd2 ++ [gk],RM,FRD,ROW,CC⟩
      ·
       obtain rfl:i=pt:=by omega
       have RM9:=zh (by have h9:=RM.out;rw [<- HPT.out,<- HTK.out] at h9;exact h9:(RigM coli wr g ⟨T0,Fs,(((childR (fstN M) xd.id).take (j+1)).flatMap (drainF (fstN M) xd.id ix)),[],ix⟩ ⟨gt,X,fA,dA2,none,fc,dc2,0,gf,gd2,[]⟩));have ROW9:=ROW.out;rw [<- HPT.out,<- HTK.out] at ROW9;replace ROW9:=zh ROW9;clear RM ROW;go_wp2_with fail;go_roundg (n5 - (j+1))
       case measure=>omega
       case rel=>exact ⟨j+1,hjm,rfl,by go_num,.inr ⟨_,rfl⟩,.inr ⟨_,rfl⟩,.inr ⟨_,rfl⟩,coli,dA2,dc2,gd2,RM9,FRD,ROW9,CC⟩
    ·
     obtain rfl:j=n5:=by omega
     go_wp2_with fail;go_ret;refine ⟨g,⟨gt,X,fA,dA,none,fc,dc,0,gf,gd,[]⟩,colr,rfl,?_,CC.out⟩;have h9:=RM.out;rw [List.take_of_length_le (by rw [HCK.out];exact Nat.le_refl _),HFS.out] at h9;exact h9
end Go.Proofs.YtgblfflikgnfpaaGreat
