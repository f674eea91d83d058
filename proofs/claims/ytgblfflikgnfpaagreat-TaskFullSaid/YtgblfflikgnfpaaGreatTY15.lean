/- Texts merged into one, for the number of files a claim may have: RfD. -/
import Derived.Test.YtgblfflikgnfpaaGreatTY3
import Derived.Test.YtgblfflikgnfpaaGreatTY4
import Derived.Test.YtgblfflikgnfpaaGreatTY10
import Derived.Test.YtgblfflikgnfpaaGreatTY14
namespace Go.Proofs.YtgblfflikgnfpaaGreat
open Go.RowKit Go.Fb
set_option maxRecDepth 100000
set_option maxHeartbeats 16000000
set_option linter.unusedVariables false
theorem nd_rt {x:Nd} {sf sp:Value}:∀ {g:Nat},g < 8->(ndA x sf sp)[5+g]?=some (.int .i64 (x.rt g))
 | 0,_=>rfl
 | 1,_=>rfl
 | 2,_=>rfl
 | 3,_=>rfl
 | 4,_=>rfl
 | 5,_=>rfl
 | 6,_=>rfl
 | 7,_=>rfl
 | n+8,h=>by omega
theorem kn_ok (v:Value) (a b:Int) (x y z:Bool) (w:World):(Instr.field 140 (.agg (knC v a b x y z)) 4).run Tryz.prog w=.ok (.bool z) w:=by kernel_rfl
theorem take_nd {L:List Nd} {k:Nat} {x:Nd} (h:L[k]?=some x):L.take (k+1)=L.take k ++ [x]:=by rw [List.take_add_one,h];rfl
theorem ireads_take {w:World} {B n j:Nat} {A:Option Addr} {xs:List Value} (h:Reads w B 1 A n xs) (hj:j<=n):Reads w B 1 A j (xs.take j):=by
 refine ⟨by rw [List.length_take,h.1];omega,fun h0 => ?_⟩;obtain ⟨b,off,e,hb,hc⟩:=h.2 (by omega);refine ⟨b,off,e,hb,fun i u hu=>hc i u ?_⟩;rw [List.getElem?_take] at hu
 split at hu
 · exact hu
 · cases hu
theorem inTo_all {p:Int} {r:Nat->Int} {n:Nat} (h:∀ k,k < n->0<=r k/\r k < p):inTo p r n=true:=by
 unfold inTo;rw [List.all_eq_true];intro k hk;exact decide_eq_true (h k (List.mem_range.1 hk))
theorem inTo_get {p:Int} {r:Nat->Int} {n:Nat} (h:inTo p r n=true) {k:Nat} (hk:k < n):0<=r k/\r k < p:=by
 unfold inTo at h;rw [List.all_eq_true] at h;exact of_decide_eq_true (h k (List.mem_range.2 hk))
theorem rcheck_any (A:Option Addr) (c B n:Nat) (M:List Ndm) (w:World) (h:Nds w B A n M) (hB:B<=w.heap.size) (hs:Small M) (hcap:CapN M) :
  Calls Tryz.prog 18 #[.slice A n c] w fun e w'=>e=.returned (.int .i64 (checkN (fstN M)))/\Fr w.heap.size [] w w':=by
 obtain ⟨L,hL⟩:=nm (fstN M);obtain ⟨cv,hcv⟩:=nm (checkN L);rw [<- hL,<- hcv];have HL:=zh hL;have HCV:=zh hcv;have H:=zh h;have HS:=zh hs;have hm:n<=1000000:=(by rw [h.num];exact hs.1);have HN:=zh (show L.length=n by rw [hL,h.num];simp [fstN]);have HCAP:=zh hcap;clear hL hcv h hs hcap
 by_cases hn8:n<=8
 case neg =>
  have hv:cv=6:=(by rw [HCV.out];exact checkN_long.2 (by rw [HN.out];omega));have HV:=zh hv;have hd:(8:Int) < (n:Int):=(by omega);clear hv;go_enter Tryz.func18,Tryz.ntmps18;go_wp2_with fail;go_ret;exact ⟨by rw [HV.out];rfl,Fr.refl _ _ _⟩
 have hd8:decide ((8:Int) < (n:Int))=false:=decide_eq_false (by omega);have HTEN:=zh (show ¬ RightG L->cv=10 from fun h=>by rw [HCV.out];exact checkN_ten (by rw [HN.out];exact hn8) h);have HBAD:=zh (show ∀ (i:Nat) (x:Nd),L[i]?=some x->¬ RGood L i x->cv=10 from fun i x hx hg=>HTEN.out fun hr=>hg (right_good hr hx));go_enter Tryz.func18,Tryz.ntmps18;go_wp2_with fail;go_loopg [3,4] n (fun g s3 s4 wr=>∃ k sc:Nat,k<=n/\g=n - k/\s3=.int .i64 sc/\sc<=k/\s4=.int .i64 k/\Hid (sc=srcN (L.take k))/\Hid (∀ (i:Nat) (x:Nd),i < k->L[i]?=some x->RGood L i x)/\Hid (Fr w.heap.size [] w wr))
 case atStart=>exact ⟨0,0,Nat.zero_le _,rfl,rfl,Nat.zero_le _,rfl,zh rfl,zh (fun _ _ h=>by omega),zh (Fr.refl _ _ _)⟩
 case round =>
  obtain ⟨k,sc,hk,rfl,rfl,hsk,rfl,HSC,HG,FR⟩:=hrel
  by_cases hkn:k < n
  ·
   have hki:(k:Int) < (n:Int):=by omega
   have hk0:(0:Int)<=(k:Int):=(by omega);obtain ⟨m,hx⟩:∃ m,M[k]?=some m:=⟨_,List.getElem?_eq_getElem (by rw [<- H.out.num];exact hkn)⟩;have HND:=H.out.frw FR.out hB (by simp);obtain ⟨b1,o1,rfl,hb1,hc1⟩:=HND.get hx;have hin:=HND.inn m (List.mem_of_getElem? hx);have hsm:=HS.out.2 m (List.mem_of_getElem? hx);have hcp:=HCAP.out m (List.mem_of_getElem? hx);have HX:=zh (show L[k]?=some m.1 by rw [HL.out];simp [fstN,hx]);obtain ⟨x,sf,sp⟩:=m;simp only at hsm HX;have hBr:B<=wr.heap.size:=Nat.le_trans hB FR.out.size;have fa:=(Fr.refl wr.heap.size [] wr).alloc (Nat.le_refl _) (.cells (ndA x sf sp) 66);have BX:=zh (Blk.new wr 66 (ndA x sf sp));have HNDa:=zh (HND.frw fa hBr (by simp));have FRa:=zh (FR.out.nx fa);have HINa:=zh (hin.frw fa hBr (by simp));have hBa:B<=(wr.alloc (.cells (ndA x sf sp) 66)).heap.size:=Nat.le_trans hBr fa.size;obtain ⟨⟨Af,cf,hf1,hf2⟩,⟨Ap,cp,hp1,hp2⟩⟩:=HINa.out;simp only at hf1 hf2 hp1 hp2;have HCF:=hcp _ _ _ hf1;clear hcp;subst hf1;subst hp1;obtain ⟨g0,g1,g2,g3,g4,g5,g6,g7,g8,g9,g10,g11,g12⟩:=ndL_get (x,.slice Af x.fr.length cf,.slice Ap x.pg.length cp);have p0:=hc1 0 _ g0;have p1:=hc1 1 _ g1;have p2:=hc1 2 _ g2;have p3:=hc1 3 _ g3;have p4:=hc1 4 _ g4;have p5:=hc1 5 _ g5;have p6:=hc1 6 _ g6;have p7:=hc1 7 _ g7;have p8:=hc1 8 _ g8;have p9:=hc1 9 _ g9;have p10:=hc1 10 _ g10;have p11:=hc1 11 _ g11;have p12:=hc1 12 _ g12;simp only [Nat.add_zero] at p0;clear hc1 g0 g1 g2 g3 g4 g5 g6 g7 g8 g9 g10 g11 g12 hb1 hx hin HND fa;go_upto_region 8 with fail;generalize wr.alloc (.cells (ndA x (.slice Af x.fr.length cf) (.slice Ap x.pg.length cp)) 66)=wa at *;generalize wr.heap.size=gx at *;have HFI:=rfind_any x.id _ c B n M wa HNDa.out hm;rw [<- HL.out] at HFI;have HTE:=zh (fun (wx:World) (hx:Fr wa.heap.size [] wa wx)=>tell_any Ap cp x.pg wx ((hp2.fr hx hBa (by simp)).more (Nat.le_trans hBa hx.size)) (by unfold maxLen;omega));have q0:=BX.out.cell 0;have q1:=BX.out.cell 1;have q2:=BX.out.cell 2;have q4:=BX.out.cell 4;simp at q0 q1 q2 q4;obtain ⟨nf,hnf⟩:=nm (x.fr.length);obtain ⟨np,hnp⟩:=nm (x.pg.length);obtain ⟨id,hid⟩:=nm (x.id);obtain ⟨kd,hkd⟩:=nm (x.kind);obtain ⟨pr,hpr⟩:=nm (x.par);obtain ⟨ix,hix⟩:=nm (ixN L id);rw [<- hid] at q0 HFI;rw [<- hix] at HFI;rw [<- hkd] at q1;rw [<- hpr] at q4;rw [<- hnf] at q2 hf2;have HFI:=zh HFI;rw [<- hnf] at HCF;replace HCF:=zh HCF;have HNF:=zh hnf;have HNP:=zh hnp;have HID:=zh hid;have HKD:=zh hkd;have HPR:=zh hpr;have HIX:=zh hix;have RF:=zh hf2;have hnf1:nf<=1000000:=(by rw [hnf];exact hsm.1);have hnp1:np<=1000000:=(by rw [hnp];exact hsm.2);have HBADk:=zh (show ¬ RGood L k x->cv=10 from HBAD.out k x HX.out);clear hsm hnf hnp hid hkd hpr hix hf2 hp2 p0 p1 p2 p3 p4 p5 p6 p7 p8 p9 p10 p11 p12
   by_cases t0:0<=id
   case neg =>
    have d0:id < 0:=(by omega)
    as_aux_lemma =>
    have hv:cv=10:=HBADk.out fun g=>by have:=g.id0;rw [<- HID.out] at this;omega
    have HV:=zh hv;clear hv;go_wp2_with fail;go_ret;exact ⟨by rw [HV.out];rfl,FRa.out⟩
   have d0:decide (id < 0)=false:=decide_eq_false (by omega)
   by_cases t1:id<=7
   case neg =>
    have d1:7 < id:=(by omega)
    as_aux_lemma =>
    have hv:cv=10:=HBADk.out fun g=>by have:=g.id7;rw [<- HID.out] at this;omega
    have HV:=zh hv;clear hv;go_wp2_with fail;go_ret;exact ⟨by rw [HV.out];rfl,FRa.out⟩
   have d1:decide (7 < id)=false:=decide_eq_false (by omega)
   by_cases t2:ix=(k:Int)
   case neg =>
    have d2:(ix != (k:Int))=true:=(by simpa using t2)
    as_aux_lemma =>
    have hv:cv=10:=HBADk.out fun g=>by have:=g.at_;rw [<- HID.out,<- HIX.out] at this;exact t2 this
    have HV:=zh hv;clear hv;go_wp2_with fail;refine HFI.out.mono ?_;rintro e w2 ⟨rfl,rfl⟩;go_wp2_with fail;go_ret;exact ⟨by rw [HV.out];rfl,FRa.out⟩
   subst t2;have d2:((k:Int) != (k:Int))=false:=(by simp)
   by_cases t3:0<=kd
   case neg =>
    have d3:kd < 0:=(by omega)
    as_aux_lemma =>
    have hv:cv=10:=HBADk.out fun g=>by have:=g.k0;rw [<- HKD.out] at this;omega
    have HV:=zh hv;clear hv;go_wp2_with fail;refine HFI.out.mono ?_;rintro e w2 ⟨rfl,rfl⟩;go_wp2_with fail;go_ret;exact ⟨by rw [HV.out];rfl,FRa.out⟩
   have d3:decide (kd < 0)=false:=decide_eq_false (by omega)
   by_cases t4:kd<=2
   case neg =>
    have d4:2 < kd:=(by omega)
    as_aux_lemma =>
    have hv:cv=10:=HBADk.out fun g=>by have:=g.k2;rw [<- HKD.out] at this;omega
    have HV:=zh hv;clear hv;go_wp2_with fail;refine HFI.out.mono ?_;rintro e w2 ⟨rfl,rfl⟩;go_wp2_with fail;go_ret;exact ⟨by rw [HV.out];rfl,FRa.out⟩
   have d4:decide (2 < kd)=false:=decide_eq_false (by omega)
   by_cases t5:1<=pr
   case neg =>
    have d5:pr < 1:=(by omega)
    as_aux_lemma =>
    have hv:cv=10:=HBADk.out fun g=>by have:=g.p1;rw [<- HPR.out] at this;omega
    have HV:=zh hv;clear hv;go_wp2_with fail;refine HFI.out.mono ?_;rintro e w2 ⟨rfl,rfl⟩;go_wp2_with fail;go_ret;exact ⟨by rw [HV.out];rfl,FRa.out⟩
   have d5:decide (pr < 1)=false:=decide_eq_false (by omega)
   by_cases t6:pr<=3
   case neg =>
    have d6:3 < pr:=(by omega)
    as_aux_lemma =>
    have hv:cv=10:=HBADk.out fun g=>by have:=g.p3;rw [<- HPR.out] at this;omega
    have HV:=zh hv;clear hv;go_wp2_with fail;refine HFI.out.mono ?_;rintro e w2 ⟨rfl,rfl⟩;go_wp2_with fail;go_ret;exact ⟨by rw [HV.out];rfl,FRa.out⟩
   have d6:decide (3 < pr)=false:=decide_eq_false (by omega)
   by_cases t7:nf<=3
   case neg =>
    have d7:(3:Int) < (nf:Int):=(by omega)
    as_aux_lemma =>
    have hv:cv=10:=HBADk.out fun g=>by have:=g.f3;rw [<- HNF.out] at this;omega
    have HV:=zh hv;clear hv;go_wp2_with fail;refine HFI.out.mono ?_;rintro e w2 ⟨rfl,rfl⟩;go_wp2_with fail;go_ret;exact ⟨by rw [HV.out];rfl,FRa.out⟩
   have d7:decide ((3:Int) < (nf:Int))=false:=decide_eq_false (by omega);obtain ⟨bi,hbi⟩:=nm ((id == 0));obtain ⟨bk,hbk⟩:=nm ((kd == 0));have hbi2:(id == 0)=bi:=hbi.symm;have hbk2:(kd == 0)=bk:=hbk.symm;have HBI:=zh hbi2;have HBK:=zh hbk2;clear hbi hbk
   by_cases t8:bi=bk
   case neg =>
    as_aux_lemma =>
    have hv:cv=10:=HBADk.out fun g=>by have:=g.src;rw [<- HID.out,<- HKD.out] at this;apply t8;rw [<- HBI.out,<- HBK.out,Bool.eq_iff_iff];simpa using this
    have HV:=zh hv;clear hv HBI HBK
    cases bi with
    | false =>
     cases bk with
     | false=>exact absurd rfl t8
     | true =>
      clear t8;go_wp2_with fail;refine HFI.out.mono ?_;rintro e w2 ⟨rfl,rfl⟩;go_wp2_with fail;go_ret;exact ⟨by rw [HV.out];rfl,FRa.out⟩
    | true =>
     cases bk with
     | true=>exact absurd rfl t8
     | false =>
      clear t8;go_wp2_with fail;refine HFI.out.mono ?_;rintro e w2 ⟨rfl,rfl⟩;go_wp2_with fail;go_ret;exact ⟨by rw [HV.out];rfl,FRa.out⟩
   subst t8;have d8:(bi != bi)=false:=(by simp)
   have HSRC := zh (show id = 0 ↔ kd = 0 by
    have:=HBI.out.trans HBK.out.symm;rw [Bool.eq_iff_iff] at this
    simpa using this)
   clear HBI HBK;go_wp2_with fail;refine HFI.out.mono ?_;rintro e w2 ⟨rfl,rfl⟩;go_wp2_with fail;clear hbi2 hbk2 d8 d0 d1 d2 d3 d4 d5 d6 d7;go_loopg [6] 8 (fun g s6 wr=>∃ j:Nat,j<=8/\g=8 - j/\s6=.int .i64 j/\Hid (∀ i,i < j->0<=x.rt i/\x.rt i < pr)/\Hid (Fr wa.heap.size [] wa wr))
   case atStart=>exact ⟨0,Nat.zero_le _,rfl,rfl,zh (fun _ h=>by omega),zh (Fr.refl _ _ _)⟩
   case round =>
    obtain ⟨j,hj,rfl,rfl,HR,FJ⟩:=hrel;have BXj:=zh (BX.out.fr FJ.out BX.out.lt (by simp));have FRj:=zh (FRa.out.nx FJ.out);clear q0 q1 q2 q4
    by_cases hj8:j < 8
    ·
     have hji:(j:Int) < 8:=by omega
     have hj0:(0:Int)<=(j:Int):=(by omega);have q4:=BXj.out.cell 4;simp at q4;rw [<- HPR.out] at q4;have qj:=(BXj.out.cell (5+j)).trans (nd_rt hj8);obtain ⟨rj,hrj⟩:=nm (x.rt j);rw [<- hrj] at qj;have HRJ:=zh hrj;clear hrj
     by_cases r0:rj < 0
     ·
      have hv:cv=10:=HBADk.out fun g=>by
       have:=(inTo_get g.rt hj8).1;rw [<- HRJ.out] at this;omega
      have HV:=zh hv;clear hv;go_wp2_with fail;go_quiet (fail);go_wp2_with fail;go_ret;exact ⟨by rw [HV.out];rfl,FRj.out.drewN _⟩
     have r1:decide (rj < 0)=false:=decide_eq_false r0
     by_cases r2:pr<=rj
     ·
      have hv:cv=10:=HBADk.out fun g=>by
       have:=(inTo_get g.rt hj8).2;rw [<- HRJ.out,<- HPR.out] at this;omega
      have HV:=zh hv;clear hv;go_wp2_with fail;go_quiet (fail);go_wp2_with fail;go_ret;exact ⟨by rw [HV.out];rfl,FRj.out.drewN _⟩
     have r3:decide (pr<=rj)=false:=decide_eq_false r2
     have HR2 := zh (show ∀ i, i < j + 1 -> 0 <= x.rt i /\ x.rt i < pr from fun i hi => by
      rcases Nat.lt_or_ge i j with h | h
      · exact HR.out i h
      ·
       obtain rfl:i=j:=by omega
       rw [<- HRJ.out];omega)
     go_wp2_with fail;go_quiet (fail);go_wp2_with fail;go_roundg (8 - (j+1))
     case measure=>omega
     case rel=>exact ⟨j+1,by omega,rfl,by go_num,HR2,zh (FJ.out.drewN _)⟩
    ·
     obtain rfl:j=8:=by omega
     have q1:=BXj.out.cell 1;have q2:=BXj.out.cell 2;have q3:=BXj.out.cell 3;simp at q1 q2 q3;rw [<- HKD.out] at q1;rw [<- HNF.out] at q2;rw [<- HNP.out] at q3;have HRT:=zh (show inTo x.par x.rt 8=true by rw [<- HPR.out];exact inTo_all HR.out);have HTj:=HTE.out wr FJ.out;rw [<- HNP.out] at HTj;have HTj:=zh HTj;obtain ⟨wj,rfl⟩:=nm (wr:World);have HSCK:=zh (fun (b:Bool) (h:b=decide (x.kind=0))=>(by rw [take_nd HX.out,srcN_snoc,<- HSC.out,h];by_cases hh:x.kind=0 <;> simp [hh]:srcN (L.take (k+1))=sc+(if b then 1 else 0)));have hkind:kd=0 \/ kd=1 \/ kd=2:=(by omega)
     rcases hkind with e0 | e0 | e0
     ·
      subst e0
      by_cases c1:nf=0
      case neg =>
       have c2:((nf:Int) != 0)=true:=(by simp;omega);have hv:cv=10:=HBADk.out fun g=>by have:=g.f0 (by have:=HKD.out;omega);have:=HNF.out;omega
       have HV:=zh hv;clear hv;go_wp2_with fail;go_ret;exact ⟨by rw [HV.out];rfl,FRj.out⟩
      have HNF0:=zh c1;have c2:((nf:Int) != 0)=false:=(by rw [c1];simp);clear c1
      by_cases c1:np=0
      case neg =>
       have c3:((np:Int) != 0)=true:=(by simp;omega);have hv:cv=10:=HBADk.out fun g=>by have:=g.s2 (by have:=HKD.out;omega);have:=HNP.out;omega
       have HV:=zh hv;clear hv;go_wp2_with fail;go_ret;exact ⟨by rw [HV.out];rfl,FRj.out⟩
      have HNP0:=zh c1;have c3:((np:Int) != 0)=false:=(by rw [c1];simp);clear c1;go_wp2_with fail;have HGOOD:=zh (fun (hfr:∀ (j:Nat) (f:Int),x.fr[j]?=some f->(∃ m,findN L f=some m/\m.kind ≠ 2)/\f ∉ x.fr.take j)=>(⟨by have:=HID.out;omega,by have:=HID.out;omega,by rw [<- HID.out];exact HIX.out.symm,by have:=HKD.out;omega,by have:=HKD.out;omega,by have:=HPR.out;omega,by have:=HPR.out;omega,by have:=HNF.out;omega,by rw [<- HID.out,<- HKD.out];have:=HSRC.out;simpa using this,HRT.out,(fun h=>by have:=HKD.out;have:=HNF.out;have:=HNF0.out;omega),(fun h=>by have:=HKD.out;have:=HNF.out;have:=HNF0.out;omega),(fun h=>by have:=HKD.out;have:=HNF.out;have:=HNF0.out;omega),(fun h=>by have:=HKD.out;omega),(fun h=>by have:=HKD.out;have:=HNP.out;have:=HNP0.out;omega),hfr⟩:RGood L k x));have FWB:=zh (FRa.out.nx FJ.out);have HNDB:=zh (H.out.frw FWB.out hB (by simp));have BXB:=zh (BX.out.fr FJ.out BX.out.lt (by simp));have RFB:=zh (RF.out.fr FJ.out hBa (by simp));have hBb:B<=wj.heap.size:=Nat.le_trans hBa FJ.out.size;clear q1 q2 q3;go_loopg [7] nf (fun g s7 wr=>∃ j:Nat,j<=nf/\g=nf - j/\s7=.int .i64 j/\Hid (∀ (i:Nat) (f:Int),i < j->x.fr[i]?=some f->(∃ m,findN L f=some m/\m.kind ≠ 2)/\f ∉ x.fr.take i)/\Hid (Fr wj.heap.size [] wj wr))
      case atStart=>exact ⟨0,Nat.zero_le _,rfl,rfl,zh (fun _ _ h=>by omega),zh (Fr.refl _ _ _)⟩
      case round =>
       obtain ⟨j,hj,rfl,rfl,HR,FL⟩:=hrel;have BXr:=BXB.out.fr FL.out BXB.out.lt (by simp);have FRj:=zh (FWB.out.nx FL.out);have q2:=BXr.cell 2;simp at q2;rw [<- HNF.out] at q2;clear BXr
       by_cases hjn:j < nf
       ·
        have hji:(j:Int) < (nf:Int):=by omega
        have hj0:(0:Int)<=(j:Int):=(by omega);obtain ⟨f,hf⟩:∃ f,x.fr[j]?=some f:=⟨_,List.getElem?_eq_getElem (by rw [<- HNF.out];exact hjn)⟩;have hrf:=RFB.out.fr FL.out hBb (by simp);have HHAS:=rhas_any f Af cf B j (x.fr.take j) wr.drew (by rw [List.length_take,<- HNF.out];omega) (by omega) (by rw [List.map_take];exact ireads_take (hrf.fr ((Fr.refl B [] wr).drew) (Nat.le_refl _) (by simp)) (Nat.le_of_lt hjn));obtain ⟨b2,o2,u2,rfl,hb2,hu2,hc2⟩:=hrf.one hjn;rw [List.getElem?_map,hf] at hu2;simp at hu2;subst hu2;have HF:=zh hf;have HNDr:=HNDB.out.frw FL.out hBb (by simp);have HFI2:=rfind_any f _ c B n M wr HNDr hm;rw [<- HL.out] at HFI2;clear hf hrf hb2
        rcases ixN_cases L f with ⟨h1,h2⟩ | ⟨i,y,h1,h2,h3⟩
        ·
         have hv:cv=10:=HBADk.out fun g=>by
          obtain ⟨m,hm,_⟩:=(g.fr j f HF.out).1;rw [h2] at hm
          cases hm
         have HV:=zh hv;rw [h1] at HFI2;have HFI3:=zh HFI2;clear hv HFI2 HHAS HNDr h1 h2;go_wp2_with fail;refine HFI3.out.mono ?_;rintro e w2 ⟨rfl,rfl⟩;go_wp2_with fail;go_quiet (fail);go_wp2_with fail;go_ret;exact ⟨by rw [HV.out];rfl,FRj.out.drewN _⟩
        ·
         rw [h1] at HFI2;have HFI3:=zh HFI2
         have hin2:i < n:=by
          have:=(List.getElem?_eq_some_iff.1 h2).1;rw [HN.out] at this;exact this
         obtain ⟨m2,hx2⟩:∃ m,M[i]?=some m:=⟨_,List.getElem?_eq_getElem (by rw [<- H.out.num];exact hin2)⟩
         have hmx:m2.1=y:=by
          have:=h2;rw [HL.out] at this;simp [fstN,hx2] at this;exact this
         obtain ⟨b3,o3,hAA,hb3,hc3⟩:=HNDr.get hx2;injection hAA with hAA
         injection hAA with e1 e2
         subst e1;subst e2;obtain ⟨y',tf,tp⟩:=m2;simp only at hmx;subst hmx;have r1:=hc3 1 _ (ndL_get (y',tf,tp)).2.1;have H3:=zh h3;obtain ⟨yk,hyk⟩:=nm (y'.kind);rw [<- hyk] at r1;have HYK:=zh hyk;have hii:(i:Int) < (n:Int):=(by omega);have hi0:(0:Int)<=(i:Int):=(by omega);have hi1:decide ((i:Int) < 0)=false:=decide_eq_false (by omega);have hjc:(j:Int)<=(cf:Int):=(by have:=HCF.out;omega);obtain ⟨hb,hhb⟩:=nm (hasI (x.fr.take j) f);rw [<- hhb] at HHAS;have HHB:=zh hhb;have HHS:=zh HHAS;clear HFI2 HHAS HNDr h1 h2 h3 hc3 hx2 hb3 hyk hhb
         by_cases k2:yk=2
         ·
          have hv:cv=10:=HBADk.out fun g=>by
           obtain ⟨m,hm,hm2⟩:=(g.fr j f HF.out).1;rw [H3.out] at hm;injection hm with hm
           subst hm;exact hm2 (by rw [<- HYK.out];exact k2)
          have HV:=zh hv;subst k2;clear hv;go_wp2_with fail;refine HFI3.out.mono ?_;rintro e w2 ⟨rfl,rfl⟩;go_wp2_with fail;go_quiet (fail);go_wp2_with fail;go_ret;exact ⟨by rw [HV.out];rfl,FRj.out.drewN _⟩
         have k3:(yk == 2)=false:=(by simpa using k2);have HK2:=zh k2;clear k2;go_wp2_with fail;refine HFI3.out.mono ?_;rintro e w2 ⟨rfl,rfl⟩;go_upto_region 25 with fail;refine region_tail 20 (by kernel_rfl) (by kernel_rfl) ?_;simp only [List.take_succ_cons,List.take_zero,List.drop_succ_cons,List.drop_zero]
         iterate 20 (refine stillO_step (fun K hK => ?_);go_simp;refine hK _ ?_;clear hK K)
         refine stillO_nil ?_
         cases hb with
         | true =>
          have hv:cv=10:=HBADk.out fun g=>by
           have:=(g.fr j f HF.out).2;exact this (hasI_iff.1 HHB.out.symm)
          have HV:=zh hv;clear hv;go_wp2_with fail;refine HHS.out.mono ?_;rintro e w2 ⟨rfl,rfl⟩;go_wp2_with fail;go_ret;exact ⟨by rw [HV.out];rfl,FRj.out.drew⟩
         | false =>
          have HR2 := zh (show ∀ (i : Nat) (f : Int), i < j + 1 -> x.fr[i]? = some f -> (∃ m, findN L f = some m /\ m.kind ≠ 2) /\ f ∉ x.fr.take i from fun i f' hi hf' => by
           rcases Nat.lt_or_ge i j with h | h
           · exact HR.out i f' h hf'
           ·
            obtain rfl:i=j:=by omega
            rw [HF.out] at hf';injection hf' with hf'
            subst hf'
            exact ⟨⟨_,H3.out,by rw [<- HYK.out];exact HK2.out⟩,fun hm=>by have:=hasI_iff.2 hm;rw [<- HHB.out] at this;cases this⟩)
          go_wp2_with fail;refine HHS.out.mono ?_;rintro e w2 ⟨rfl,rfl⟩;go_wp2_with fail;go_roundg (nf - (j+1))
          case measure=>omega
          case rel=>exact ⟨j+1,by omega,rfl,by go_num,HR2,zh FL.out.drew⟩
       ·
        obtain rfl:j=nf:=by omega
        have HRG:=zh (HGOOD.out fun j f hf=>HR.out j f (by have:=(List.getElem?_eq_some_iff.1 hf).1;rw [<- HNF.out] at this;exact this) hf);go_wp2_with fail;go_roundg (n - (k+1))
        case measure=>omega
        case rel => exact ⟨k + 1, sc + 1, by omega, rfl, by go_num, by omega, by go_num, zh (by have := HSCK.out true (by rw [<- HKD.out]; rfl); rw [this]; rfl), zh (fun i y hi hy => by
         rcases Nat.lt_or_ge i k with h | h
         · exact HG.out i y h hy
         ·
          obtain rfl:i=k:=by omega
          rw [HX.out] at hy;injection hy with hy
          rw [<- hy]
          exact HRG.out),FRj⟩
     ·
      subst e0
      by_cases c1:nf=1
      case neg =>
       have c2:((nf:Int) != 1)=true:=(by simp;omega);have hv:cv=10:=HBADk.out fun g=>by have:=g.f1 (by have:=HKD.out;omega);have:=HNF.out;omega
       have HV:=zh hv;clear hv;go_wp2_with fail;go_ret;exact ⟨by rw [HV.out];rfl,FRj.out⟩
      have HNF0:=zh c1;have c2:((nf:Int) != 1)=false:=(by rw [c1];simp);clear c1;have HNP0:=zh (rfl:np=np)
      rcases (show chkL x.pg=none \/ ∃ s,chkL x.pg=some s by cases chkL x.pg;exact .inl rfl;exact .inr ⟨_,rfl⟩) with hck | ⟨s,hck⟩
      ·
       have HCK:=zh hck;have hv:cv=10:=HBADk.out fun g=>by have:=g.s1 HKD.out.symm;rw [HCK.out] at this;cases this
       have HV:=zh hv;clear hv hck;go_wp2_with fail;refine HTj.out.mono ?_;rintro e w9 ⟨_,o9,f9⟩;obtain rfl:=o9 HCK.out;have F9:=zh (FRj.out.nx f9);clear f9 o9;have hfd:=kn_ok (.slice none 0 0) 0 0 false false false;go_wp2_with fail;go_ret;exact ⟨by rw [HV.out];rfl,F9.out⟩
      ·
       have HCK:=zh hck;have HOK:=zh (show (chkL x.pg).isSome=true by rw [hck];rfl);clear hck;go_wp2_with fail;refine HTj.out.mono ?_;rintro e w9 ⟨o9,_,f9⟩;obtain ⟨A9,c9,D9,rfl,_,_⟩:=o9 s HCK.out;have FB9:=zh (FJ.out.nx f9);have qq1:=(BXj.out.fr f9 BXj.out.lt (by simp)).cell 1;simp at qq1;rw [<- HKD.out] at qq1;clear f9 o9;have hfd:=kn_ok (.slice A9 x.pg.length c9) s.mx s.em s.u0 s.u1 true;go_wp2_with fail;have HGOOD:=zh (fun (hfr:∀ (j:Nat) (f:Int),x.fr[j]?=some f->(∃ m,findN L f=some m/\m.kind ≠ 2)/\f ∉ x.fr.take j)=>(⟨by have:=HID.out;omega,by have:=HID.out;omega,by rw [<- HID.out];exact HIX.out.symm,by have:=HKD.out;omega,by have:=HKD.out;omega,by have:=HPR.out;omega,by have:=HPR.out;omega,by have:=HNF.out;omega,by rw [<- HID.out,<- HKD.out];have:=HSRC.out;simpa using this,HRT.out,(fun h=>by have:=HKD.out;have:=HNF.out;have:=HNF0.out;omega),(fun h=>by have:=HKD.out;have:=HNF.out;have:=HNF0.out;omega),(fun h=>by have:=HKD.out;have:=HNF.out;have:=HNF0.out;omega),(fun h=>HOK.out),(fun h=>by have:=HKD.out;have:=HNP.out;have:=HNP0.out;omega),hfr⟩:RGood L k x));have FWB:=zh (FRa.out.nx FB9.out);have HNDB:=zh (H.out.frw FWB.out hB (by simp));have BXB:=zh (BX.out.fr FB9.out BX.out.lt (by simp));have RFB:=zh (RF.out.fr FB9.out hBa (by simp));have hBb:B<=w9.heap.size:=Nat.le_trans hBa FB9.out.size;clear q1 q2 q3;go_loopg [7] nf (fun g s7 wr=>∃ j:Nat,j<=nf/\g=nf - j/\s7=.int .i64 j/\Hid (∀ (i:Nat) (f:Int),i < j->x.fr[i]?=some f->(∃ m,findN L f=some m/\m.kind ≠ 2)/\f ∉ x.fr.take i)/\Hid (Fr w9.heap.size [] w9 wr))
       case atStart=>exact ⟨0,Nat.zero_le _,rfl,rfl,zh (fun _ _ h=>by omega),zh (Fr.refl _ _ _)⟩
       case round =>
        obtain ⟨j,hj,rfl,rfl,HR,FL⟩:=hrel;have BXr:=BXB.out.fr FL.out BXB.out.lt (by simp);have FRj:=zh (FWB.out.nx FL.out);have q2:=BXr.cell 2;simp at q2;rw [<- HNF.out] at q2;clear BXr
        by_cases hjn:j < nf
        ·
         have hji:(j:Int) < (nf:Int):=by omega
         have hj0:(0:Int)<=(j:Int):=(by omega);obtain ⟨f,hf⟩:∃ f,x.fr[j]?=some f:=⟨_,List.getElem?_eq_getElem (by rw [<- HNF.out];exact hjn)⟩;have hrf:=RFB.out.fr FL.out hBb (by simp);have HHAS:=rhas_any f Af cf B j (x.fr.take j) wr.drew (by rw [List.length_take,<- HNF.out];omega) (by omega) (by rw [List.map_take];exact ireads_take (hrf.fr ((Fr.refl B [] wr).drew) (Nat.le_refl _) (by simp)) (Nat.le_of_lt hjn));obtain ⟨b2,o2,u2,rfl,hb2,hu2,hc2⟩:=hrf.one hjn;rw [List.getElem?_map,hf] at hu2;simp at hu2;subst hu2;have HF:=zh hf;have HNDr:=HNDB.out.frw FL.out hBb (by simp);have HFI2:=rfind_any f _ c B n M wr HNDr hm;rw [<- HL.out] at HFI2;clear hf hrf hb2
         rcases ixN_cases L f with ⟨h1,h2⟩ | ⟨i,y,h1,h2,h3⟩
         ·
          have hv:cv=10:=HBADk.out fun g=>by
           obtain ⟨m,hm,_⟩:=(g.fr j f HF.out).1;rw [h2] at hm
           cases hm
          have HV:=zh hv;rw [h1] at HFI2;have HFI3:=zh HFI2;clear hv HFI2 HHAS HNDr h1 h2;go_wp2_with fail;refine HFI3.out.mono ?_;rintro e w2 ⟨rfl,rfl⟩;go_wp2_with fail;go_quiet (fail);go_wp2_with fail;go_ret;exact ⟨by rw [HV.out];rfl,FRj.out.drewN _⟩
         ·
          rw [h1] at HFI2;have HFI3:=zh HFI2
          have hin2:i < n:=by
           have:=(List.getElem?_eq_some_iff.1 h2).1;rw [HN.out] at this;exact this
          obtain ⟨m2,hx2⟩:∃ m,M[i]?=some m:=⟨_,List.getElem?_eq_getElem (by rw [<- H.out.num];exact hin2)⟩
          have hmx:m2.1=y:=by
           have:=h2;rw [HL.out] at this;simp [fstN,hx2] at this;exact this
          obtain ⟨b3,o3,hAA,hb3,hc3⟩:=HNDr.get hx2;injection hAA with hAA
          injection hAA with e1 e2
          subst e1;subst e2;obtain ⟨y',tf,tp⟩:=m2;simp only at hmx;subst hmx;have r1:=hc3 1 _ (ndL_get (y',tf,tp)).2.1;have H3:=zh h3;obtain ⟨yk,hyk⟩:=nm (y'.kind);rw [<- hyk] at r1;have HYK:=zh hyk;have hii:(i:Int) < (n:Int):=(by omega);have hi0:(0:Int)<=(i:Int):=(by omega);have hi1:decide ((i:Int) < 0)=false:=decide_eq_false (by omega);have hjc:(j:Int)<=(cf:Int):=(by have:=HCF.out;omega);obtain ⟨hb,hhb⟩:=nm (hasI (x.fr.take j) f);rw [<- hhb] at HHAS;have HHB:=zh hhb;have HHS:=zh HHAS;clear HFI2 HHAS HNDr h1 h2 h3 hc3 hx2 hb3 hyk hhb
          by_cases k2:yk=2
          ·
           have hv:cv=10:=HBADk.out fun g=>by
            obtain ⟨m,hm,hm2⟩:=(g.fr j f HF.out).1;rw [H3.out] at hm;injection hm with hm
            subst hm;exact hm2 (by rw [<- HYK.out];exact k2)
           have HV:=zh hv;subst k2;clear hv;go_wp2_with fail;refine HFI3.out.mono ?_;rintro e w2 ⟨rfl,rfl⟩;go_wp2_with fail;go_quiet (fail);go_wp2_with fail;go_ret;exact ⟨by rw [HV.out];rfl,FRj.out.drewN _⟩
          have k3:(yk == 2)=false:=(by simpa using k2);have HK2:=zh k2;clear k2;go_wp2_with fail;refine HFI3.out.mono ?_;rintro e w2 ⟨rfl,rfl⟩;go_upto_region 25 with fail;refine region_tail 20 (by kernel_rfl) (by kernel_rfl) ?_;simp only [List.take_succ_cons,List.take_zero,List.drop_succ_cons,List.drop_zero]
          iterate 20 (refine stillO_step (fun K hK => ?_);go_simp;refine hK _ ?_;clear hK K)
          refine stillO_nil ?_
          cases hb with
          | true =>
           have hv:cv=10:=HBADk.out fun g=>by
            have:=(g.fr j f HF.out).2;exact this (hasI_iff.1 HHB.out.symm)
           have HV:=zh hv;clear hv;go_wp2_with fail;refine HHS.out.mono ?_;rintro e w2 ⟨rfl,rfl⟩;go_wp2_with fail;go_ret;exact ⟨by rw [HV.out];rfl,FRj.out.drew⟩
          | false =>
           have HR2 := zh (show ∀ (i : Nat) (f : Int), i < j + 1 -> x.fr[i]? = some f -> (∃ m, findN L f = some m /\ m.kind ≠ 2) /\ f ∉ x.fr.take i from fun i f' hi hf' => by
            rcases Nat.lt_or_ge i j with h | h
            · exact HR.out i f' h hf'
            ·
             obtain rfl:i=j:=by omega
             rw [HF.out] at hf';injection hf' with hf'
             subst hf'
             exact ⟨⟨_,H3.out,by rw [<- HYK.out];exact HK2.out⟩,fun hm=>by have:=hasI_iff.2 hm;rw [<- HHB.out] at this;cases this⟩)
           go_wp2_with fail;refine HHS.out.mono ?_;rintro e w2 ⟨rfl,rfl⟩;go_wp2_with fail;go_roundg (nf - (j+1))
           case measure=>omega
           case rel=>exact ⟨j+1,by omega,rfl,by go_num,HR2,zh FL.out.drew⟩
        ·
         obtain rfl:j=nf:=by omega
         have HRG:=zh (HGOOD.out fun j f hf=>HR.out j f (by have:=(List.getElem?_eq_some_iff.1 hf).1;rw [<- HNF.out] at this;exact this) hf);go_wp2_with fail;go_roundg (n - (k+1))
         case measure=>omega
         case rel => exact ⟨k + 1, sc, by omega, rfl, by go_num, by omega, by go_num, zh (by have := HSCK.out false (by rw [<- HKD.out]; rfl); rw [this]; rfl), zh (fun i y hi hy => by
          rcases Nat.lt_or_ge i k with h | h
          · exact HG.out i y h hy
          ·
           obtain rfl:i=k:=by omega
           rw [HX.out] at hy;injection hy with hy
           rw [<- hy]
           exact HRG.out),FRj⟩
     ·
      subst e0
      by_cases c1:nf ≠ 0
      case neg =>
       have c2:((nf:Int) == 0)=true:=(by simp;omega);have hv:cv=10:=HBADk.out fun g=>by have:=g.f2 (by have:=HKD.out;omega);have:=HNF.out;omega
       have HV:=zh hv;clear hv;go_wp2_with fail;go_ret;exact ⟨by rw [HV.out];rfl,FRj.out⟩
      have HNF0:=zh c1;have c2:((nf:Int) == 0)=false:=(by simp;omega);clear c1
      by_cases c1:np=0
      case neg =>
       have c3:((np:Int) != 0)=true:=(by simp;omega);have hv:cv=10:=HBADk.out fun g=>by have:=g.s2 (by have:=HKD.out;omega);have:=HNP.out;omega
       have HV:=zh hv;clear hv;go_wp2_with fail;go_ret;exact ⟨by rw [HV.out];rfl,FRj.out⟩
      have HNP0:=zh c1;have c3:((np:Int) != 0)=false:=(by rw [c1];simp);clear c1;go_wp2_with fail;have HGOOD:=zh (fun (hfr:∀ (j:Nat) (f:Int),x.fr[j]?=some f->(∃ m,findN L f=some m/\m.kind ≠ 2)/\f ∉ x.fr.take j)=>(⟨by have:=HID.out;omega,by have:=HID.out;omega,by rw [<- HID.out];exact HIX.out.symm,by have:=HKD.out;omega,by have:=HKD.out;omega,by have:=HPR.out;omega,by have:=HPR.out;omega,by have:=HNF.out;omega,by rw [<- HID.out,<- HKD.out];have:=HSRC.out;simpa using this,HRT.out,(fun h=>by have:=HKD.out;have:=HNF.out;have:=HNF0.out;omega),(fun h=>by have:=HKD.out;have:=HNF.out;have:=HNF0.out;omega),(fun h=>by have:=HKD.out;have:=HNF.out;have:=HNF0.out;omega),(fun h=>by have:=HKD.out;omega),(fun h=>by have:=HKD.out;have:=HNP.out;have:=HNP0.out;omega),hfr⟩:RGood L k x));have FWB:=zh (FRa.out.nx FJ.out);have HNDB:=zh (H.out.frw FWB.out hB (by simp));have BXB:=zh (BX.out.fr FJ.out BX.out.lt (by simp));have RFB:=zh (RF.out.fr FJ.out hBa (by simp));have hBb:B<=wj.heap.size:=Nat.le_trans hBa FJ.out.size;clear q1 q2 q3;go_loopg [7] nf (fun g s7 wr=>∃ j:Nat,j<=nf/\g=nf - j/\s7=.int .i64 j/\Hid (∀ (i:Nat) (f:Int),i < j->x.fr[i]?=some f->(∃ m,findN L f=some m/\m.kind ≠ 2)/\f ∉ x.fr.take i)/\Hid (Fr wj.heap.size [] wj wr))
      case atStart=>exact ⟨0,Nat.zero_le _,rfl,rfl,zh (fun _ _ h=>by omega),zh (Fr.refl _ _ _)⟩
      case round =>
       obtain ⟨j,hj,rfl,rfl,HR,FL⟩:=hrel;have BXr:=BXB.out.fr FL.out BXB.out.lt (by simp);have FRj:=zh (FWB.out.nx FL.out);have q2:=BXr.cell 2;simp at q2;rw [<- HNF.out] at q2;clear BXr
       by_cases hjn:j < nf
       ·
        have hji:(j:Int) < (nf:Int):=by omega
        have hj0:(0:Int)<=(j:Int):=(by omega);obtain ⟨f,hf⟩:∃ f,x.fr[j]?=some f:=⟨_,List.getElem?_eq_getElem (by rw [<- HNF.out];exact hjn)⟩;have hrf:=RFB.out.fr FL.out hBb (by simp);have HHAS:=rhas_any f Af cf B j (x.fr.take j) wr.drew (by rw [List.length_take,<- HNF.out];omega) (by omega) (by rw [List.map_take];exact ireads_take (hrf.fr ((Fr.refl B [] wr).drew) (Nat.le_refl _) (by simp)) (Nat.le_of_lt hjn));obtain ⟨b2,o2,u2,rfl,hb2,hu2,hc2⟩:=hrf.one hjn;rw [List.getElem?_map,hf] at hu2;simp at hu2;subst hu2;have HF:=zh hf;have HNDr:=HNDB.out.frw FL.out hBb (by simp);have HFI2:=rfind_any f _ c B n M wr HNDr hm;rw [<- HL.out] at HFI2;clear hf hrf hb2
        rcases ixN_cases L f with ⟨h1,h2⟩ | ⟨i,y,h1,h2,h3⟩
        ·
         have hv:cv=10:=HBADk.out fun g=>by
          obtain ⟨m,hm,_⟩:=(g.fr j f HF.out).1;rw [h2] at hm
          cases hm
         have HV:=zh hv;rw [h1] at HFI2;have HFI3:=zh HFI2;clear hv HFI2 HHAS HNDr h1 h2;go_wp2_with fail;refine HFI3.out.mono ?_;rintro e w2 ⟨rfl,rfl⟩;go_wp2_with fail;go_quiet (fail);go_wp2_with fail;go_ret;exact ⟨by rw [HV.out];rfl,FRj.out.drewN _⟩
        ·
         rw [h1] at HFI2;have HFI3:=zh HFI2
         have hin2:i < n:=by
          have:=(List.getElem?_eq_some_iff.1 h2).1;rw [HN.out] at this;exact this
         obtain ⟨m2,hx2⟩:∃ m,M[i]?=some m:=⟨_,List.getElem?_eq_getElem (by rw [<- H.out.num];exact hin2)⟩
         have hmx:m2.1=y:=by
          have:=h2;rw [HL.out] at this;simp [fstN,hx2] at this;exact this
         obtain ⟨b3,o3,hAA,hb3,hc3⟩:=HNDr.get hx2;injection hAA with hAA
         injection hAA with e1 e2
         subst e1;subst e2;obtain ⟨y',tf,tp⟩:=m2;simp only at hmx;subst hmx;have r1:=hc3 1 _ (ndL_get (y',tf,tp)).2.1;have H3:=zh h3;obtain ⟨yk,hyk⟩:=nm (y'.kind);rw [<- hyk] at r1;have HYK:=zh hyk;have hii:(i:Int) < (n:Int):=(by omega);have hi0:(0:Int)<=(i:Int):=(by omega);have hi1:decide ((i:Int) < 0)=false:=decide_eq_false (by omega);have hjc:(j:Int)<=(cf:Int):=(by have:=HCF.out;omega);obtain ⟨hb,hhb⟩:=nm (hasI (x.fr.take j) f);rw [<- hhb] at HHAS;have HHB:=zh hhb;have HHS:=zh HHAS;clear HFI2 HHAS HNDr h1 h2 h3 hc3 hx2 hb3 hyk hhb
         by_cases k2:yk=2
         ·
          have hv:cv=10:=HBADk.out fun g=>by
           obtain ⟨m,hm,hm2⟩:=(g.fr j f HF.out).1;rw [H3.out] at hm;injection hm with hm
           subst hm;exact hm2 (by rw [<- HYK.out];exact k2)
          have HV:=zh hv;subst k2;clear hv;go_wp2_with fail;refine HFI3.out.mono ?_;rintro e w2 ⟨rfl,rfl⟩;go_wp2_with fail;go_quiet (fail);go_wp2_with fail;go_ret;exact ⟨by rw [HV.out];rfl,FRj.out.drewN _⟩
         have k3:(yk == 2)=false:=(by simpa using k2);have HK2:=zh k2;clear k2;go_wp2_with fail;refine HFI3.out.mono ?_;rintro e w2 ⟨rfl,rfl⟩;go_upto_region 25 with fail;refine region_tail 20 (by kernel_rfl) (by kernel_rfl) ?_;simp only [List.take_succ_cons,List.take_zero,List.drop_succ_cons,List.drop_zero]
         iterate 20 (refine stillO_step (fun K hK => ?_);go_simp;refine hK _ ?_;clear hK K)
         refine stillO_nil ?_
         cases hb with
         | true =>
          have hv:cv=10:=HBADk.out fun g=>by
           have:=(g.fr j f HF.out).2;exact this (hasI_iff.1 HHB.out.symm)
          have HV:=zh hv;clear hv;go_wp2_with fail;refine HHS.out.mono ?_;rintro e w2 ⟨rfl,rfl⟩;go_wp2_with fail;go_ret;exact ⟨by rw [HV.out];rfl,FRj.out.drew⟩
         | false =>
          have HR2 := zh (show ∀ (i : Nat) (f : Int), i < j + 1 -> x.fr[i]? = some f -> (∃ m, findN L f = some m /\ m.kind ≠ 2) /\ f ∉ x.fr.take i from fun i f' hi hf' => by
           rcases Nat.lt_or_ge i j with h | h
           · exact HR.out i f' h hf'
           ·
            obtain rfl:i=j:=by omega
            rw [HF.out] at hf';injection hf' with hf'
            subst hf'
            exact ⟨⟨_,H3.out,by rw [<- HYK.out];exact HK2.out⟩,fun hm=>by have:=hasI_iff.2 hm;rw [<- HHB.out] at this;cases this⟩)
          go_wp2_with fail;refine HHS.out.mono ?_;rintro e w2 ⟨rfl,rfl⟩;go_wp2_with fail;go_roundg (nf - (j+1))
          case measure=>omega
          case rel=>exact ⟨j+1,by omega,rfl,by go_num,HR2,zh FL.out.drew⟩
       ·
        obtain rfl:j=nf:=by omega
        have HRG:=zh (HGOOD.out fun j f hf=>HR.out j f (by have:=(List.getElem?_eq_some_iff.1 hf).1;rw [<- HNF.out] at this;exact this) hf);go_wp2_with fail;go_roundg (n - (k+1))
        case measure=>omega
        case rel => exact ⟨k + 1, sc, by omega, rfl, by go_num, by omega, by go_num, zh (by have := HSCK.out false (by rw [<- HKD.out]; rfl); rw [this]; rfl), zh (fun i y hi hy => by
         rcases Nat.lt_or_ge i k with h | h
         · exact HG.out i y h hy
         ·
          obtain rfl:i=k:=by omega
          rw [HX.out] at hy;injection hy with hy
          rw [<- hy]
          exact HRG.out),FRj⟩
  ·
   obtain rfl:k=n:=by omega
   have htk:L.take k=L:=List.take_of_length_le (by rw [HN.out];exact Nat.le_refl _);have HSL:=zh (show sc=srcN L by rw [HSC.out,htk]);have HGL:=zh (show ∀ (i:Nat) (x:Nd),L[i]?=some x->RGood L i x from fun i x hx=>HG.out i x (by have:=(List.getElem?_eq_some_iff.1 hx).1;rw [HN.out] at this;exact this) hx);clear htk
   by_cases c1:sc=1
   case neg =>
    have hv:cv=10:=HTEN.out fun hr=>c1 (by rw [HSL.out];exact right_src hr);have HV:=zh hv;have c2:((sc:Int) != 1)=true:=(by simp;omega);clear hv;go_wp2_with fail;go_ret;exact ⟨by rw [HV.out];rfl,FR.out⟩
   have HC1:=zh c1;have c2:((sc:Int) != 1)=false:=(by rw [c1];simp);clear c1;go_wp2_with fail;go_loopg [9] k (fun g s9 wr=>∃ i:Nat,i<=k/\g=k - i/\s9=.int .i64 i/\Hid (∀ x ∈ L.take i,aboveN L x.id 9 x.id=false)/\Hid (Fr w.heap.size [] w wr))
   case atStart=>exact ⟨0,Nat.zero_le _,rfl,rfl,zh (by simp),FR⟩
   case round =>
    obtain ⟨i,hi,rfl,rfl,HA,FI⟩:=hrel
    by_cases hik:i < k
    ·
     have hki:(i:Int) < (k:Int):=by omega
     have hk0:(0:Int)<=(i:Int):=(by omega);obtain ⟨m,hx⟩:∃ m,M[i]?=some m:=⟨_,List.getElem?_eq_getElem (by rw [<- H.out.num];exact hik)⟩;have HND:=H.out.frw FI.out hB (by simp);obtain ⟨b1,o1,rfl,hb1,hc1⟩:=HND.get hx;have HX:=zh (show L[i]?=some m.1 by rw [HL.out];simp [fstN,hx]);have p0:=hc1 0 _ (ndL_get m).1;simp only [Nat.add_zero] at p0;obtain ⟨x,sf,sp⟩:=m;simp only at p0 HX;have HAB:=rabove_any x.id _ c B k M wr.drew (HND.frw ((Fr.refl B [] wr).drew) (Nat.le_refl _) (by simp)) HS.out 9 x.id (by omega);rw [show ((9:Nat):Int)=9 from rfl,<- HL.out] at HAB;obtain ⟨ab,hab⟩:=nm (aboveN L x.id 9 x.id);rw [<- hab] at HAB;have HAN:=zh hab;have HAC:=zh HAB;obtain ⟨xi,hxi⟩:=nm (x.id);rw [<- hxi] at p0 HAC;clear HAB hab hc1 HND hb1 hx hxi;go_wp2_with fail;go_upto_region 32 with fail;refine region_tail 11 (by kernel_rfl) (by kernel_rfl) ?_;simp only [List.take_succ_cons,List.take_zero,List.drop_succ_cons,List.drop_zero]
     iterate 11 (refine stillO_step (fun K hK => ?_);go_simp;refine hK _ ?_;clear hK K)
     refine stillO_nil ?_
     cases ab with
     | true =>
      have hv:cv=10:=HTEN.out fun hr=>by
       have:=right_above hr (x:=x);rw [<- HAN.out] at this
       cases this
      have HV:=zh hv;clear hv;go_wp2_with fail;refine HAC.out.mono ?_;rintro e w2 ⟨rfl,rfl⟩;go_wp2_with fail;go_ret;exact ⟨by rw [HV.out];rfl,FI.out.drew⟩
     | false =>
      have HA2 := zh (show ∀ y ∈ L.take (i + 1), aboveN L y.id 9 y.id = false from fun y hy => by
       rw [take_nd HX.out] at hy
       rcases List.mem_append.1 hy with hy | hy
       · exact HA.out y hy
       · rw [List.mem_singleton.1 hy];exact HAN.out.symm)
      go_wp2_with fail;refine HAC.out.mono ?_;rintro e w2 ⟨rfl,rfl⟩;go_wp2_with fail;go_roundg (k - (i+1))
      case measure=>omega
      case rel=>exact ⟨i+1,by omega,rfl,by go_num,HA2,zh FI.out.drew⟩
    ·
     obtain rfl:i=k:=by omega
     have hv:cv=0:=by
      rw [HCV.out];refine checkN_zero.2 (grgood_right (by rw [HN.out];exact hn8) HGL.out (by rw [<- HSL.out];exact HC1.out) fun x hx=>HA.out x ?_);rw [List.take_of_length_le (by rw [HN.out];exact Nat.le_refl _)];exact hx
     have HV:=zh hv;clear hv;go_wp2_with fail;go_ret;exact ⟨by rw [HV.out];rfl,FI.out⟩
end Go.Proofs.YtgblfflikgnfpaaGreat
