/- Texts merged into one, for the number of files a claim may have: RfD, RfS, RfSt, RfAp. -/
import Derived.Test.YtlejomlppjpchaaGreatRY4
import Derived.Test.YtlejomlppjpchaaGreatRY5
import Derived.Test.YtlejomlppjpchaaGreatRY10
import Derived.Test.YtlejomlppjpchaaGreatRY13
import Derived.Test.YtlejomlppjpchaaGreatRY18
namespace Go.Proofs.YtlejomlppjpchaaGreat
open Go.RowKit Go.Fb
set_option maxRecDepth 100000
set_option maxHeartbeats 16000000
set_option linter.unusedVariables false
theorem nd_rt {x:Nd} {sf sp:Value}:∀ {g:Nat},g < 8->(ndA x sf sp)[5+g]?=some (.int .i64 (x.rt g))
 | 0,_=>rfl
 | 1,_=>rfl
 | 2,_=>rfl
 | 3,_=>rfl
 | 4,_=>rfl
 | 5,_=>rfl
 | 6,_=>rfl
 | 7,_=>rfl
 | n+8,h=>by omega
theorem kn_ok (v:Value) (a b:Int) (x y z:Bool) (w:World):(Instr.field 170 (.agg (knC v a b x y z)) 4).run Tryz.prog w=.ok (.bool z) w:=by kernel_rfl
theorem take_nd {L:List Nd} {k:Nat} {x:Nd} (h:L[k]?=some x):L.take (k+1)=L.take k ++ [x]:=by rw [List.take_add_one,h];rfl
theorem ireads_take {w:World} {B n j:Nat} {A:Option Addr} {xs:List Value} (h:Reads w B 1 A n xs) (hj:j<=n):Reads w B 1 A j (xs.take j):=by
 refine ⟨by rw [List.length_take,h.1];omega,fun h0 => ?_⟩;obtain ⟨b,off,e,hb,hc⟩:=h.2 (by omega);refine ⟨b,off,e,hb,fun i u hu=>hc i u ?_⟩;rw [List.getElem?_take] at hu
 split at hu
 · exact hu
 · cases hu
theorem inTo_all {p:Int} {r:Nat->Int} {n:Nat} (h:∀ k,k < n->0<=r k/\r k < p):inTo p r n=true:=by
 unfold inTo;rw [List.all_eq_true];intro k hk;exact decide_eq_true (h k (List.mem_range.1 hk))
theorem inTo_get {p:Int} {r:Nat->Int} {n:Nat} (h:inTo p r n=true) {k:Nat} (hk:k < n):0<=r k/\r k < p:=by
 unfold inTo at h;rw [List.all_eq_true] at h;exact of_decide_eq_true (h k (List.mem_range.2 hk))
theorem rcheck_any (A:Option Addr) (c B n:Nat) (M:List Ndm) (w:World) (h:Nds w B A n M) (hB:B<=w.heap.size) (hs:Small M) (hcap:CapN M) :
  Calls Tryz.prog 29 #[.slice A n c] w fun e w'=>e=.returned (.int .i64 (checkN (fstN M)))/\Fr w.heap.size [] w w':=by
 obtain ⟨L,hL⟩:=nm (fstN M);obtain ⟨cv,hcv⟩:=nm (checkN L);rw [<- hL,<- hcv];have HL:=zh hL;have HCV:=zh hcv;have H:=zh h;have HS:=zh hs;have hm:n<=1000000:=(by rw [h.num];exact hs.1);have HN:=zh (show L.length=n by rw [hL,h.num];simp [fstN]);have HCAP:=zh hcap;clear hL hcv h hs hcap
 by_cases hn8:n<=8
 case neg =>
  have hv:cv=6:=(by rw [HCV.out];exact checkN_long.2 (by rw [HN.out];omega));have HV:=zh hv;have hd:(8:Int) < (n:Int):=(by omega);clear hv;go_enter Tryz.func29,Tryz.ntmps29;go_wp2_with fail;go_ret;exact ⟨by rw [HV.out];rfl,Fr.refl _ _ _⟩
 have hd8:decide ((8:Int) < (n:Int))=false:=decide_eq_false (by omega);have HTEN:=zh (show ¬ RightG L->cv=10 from fun h=>by rw [HCV.out];exact checkN_ten (by rw [HN.out];exact hn8) h);have HBAD:=zh (show ∀ (i:Nat) (x:Nd),L[i]?=some x->¬ RGood L i x->cv=10 from fun i x hx hg=>HTEN.out fun hr=>hg (right_good hr hx));go_enter Tryz.func29,Tryz.ntmps29;go_wp2_with fail;go_loopg [3,4] n (fun g s3 s4 wr=>∃ k sc:Nat,k<=n/\g=n - k/\s3=.int .i64 sc/\sc<=k/\s4=.int .i64 k/\Hid (sc=srcN (L.take k))/\Hid (∀ (i:Nat) (x:Nd),i < k->L[i]?=some x->RGood L i x)/\Hid (Fr w.heap.size [] w wr))
 case atStart=>exact ⟨0,0,Nat.zero_le _,rfl,rfl,Nat.zero_le _,rfl,zh rfl,zh (fun _ _ h=>by omega),zh (Fr.refl _ _ _)⟩
 case round =>
  obtain ⟨k,sc,hk,rfl,rfl,hsk,rfl,HSC,HG,FR⟩:=hrel
  by_cases hkn:k < n
  ·
   have hki:(k:Int) < (n:Int):=by omega
   have hk0:(0:Int)<=(k:Int):=(by omega);obtain ⟨m,hx⟩:∃ m,M[k]?=some m:=⟨_,List.getElem?_eq_getElem (by rw [<- H.out.num];exact hkn)⟩;have HND:=H.out.frw FR.out hB (by simp);obtain ⟨b1,o1,rfl,hb1,hc1⟩:=HND.get hx;have hin:=HND.inn m (List.mem_of_getElem? hx);have hsm:=HS.out.2 m (List.mem_of_getElem? hx);have hcp:=HCAP.out m (List.mem_of_getElem? hx);have HX:=zh (show L[k]?=some m.1 by rw [HL.out];simp [fstN,hx]);obtain ⟨x,sf,sp⟩:=m;simp only at hsm HX;have hBr:B<=wr.heap.size:=Nat.le_trans hB FR.out.size;have fa:=(Fr.refl wr.heap.size [] wr).alloc (Nat.le_refl _) (.cells (ndA x sf sp) 83);have BX:=zh (Blk.new wr 83 (ndA x sf sp));have HNDa:=zh (HND.frw fa hBr (by simp));have FRa:=zh (FR.out.nx fa);have HINa:=zh (hin.frw fa hBr (by simp));have hBa:B<=(wr.alloc (.cells (ndA x sf sp) 83)).heap.size:=Nat.le_trans hBr fa.size;obtain ⟨⟨Af,cf,hf1,hf2⟩,⟨Ap,cp,hp1,hp2⟩⟩:=HINa.out;simp only at hf1 hf2 hp1 hp2;have HCF:=hcp _ _ _ hf1;clear hcp;subst hf1;subst hp1;obtain ⟨g0,g1,g2,g3,g4,g5,g6,g7,g8,g9,g10,g11,g12⟩:=ndL_get (x,.slice Af x.fr.length cf,.slice Ap x.pg.length cp);have p0:=hc1 0 _ g0;have p1:=hc1 1 _ g1;have p2:=hc1 2 _ g2;have p3:=hc1 3 _ g3;have p4:=hc1 4 _ g4;have p5:=hc1 5 _ g5;have p6:=hc1 6 _ g6;have p7:=hc1 7 _ g7;have p8:=hc1 8 _ g8;have p9:=hc1 9 _ g9;have p10:=hc1 10 _ g10;have p11:=hc1 11 _ g11;have p12:=hc1 12 _ g12;simp only [Nat.add_zero] at p0;clear hc1 g0 g1 g2 g3 g4 g5 g6 g7 g8 g9 g10 g11 g12 hb1 hx hin HND fa;go_upto_region 8 with fail;generalize wr.alloc (.cells (ndA x (.slice Af x.fr.length cf) (.slice Ap x.pg.length cp)) 83)=wa at *;generalize wr.heap.size=gx at *;have HFI:=rfind_any x.id _ c B n M wa HNDa.out hm;rw [<- HL.out] at HFI;have HTE:=zh (fun (wx:World) (hx:Fr wa.heap.size [] wa wx)=>tell_any Ap cp x.pg wx ((hp2.fr hx hBa (by simp)).more (Nat.le_trans hBa hx.size)) (by unfold maxLen;omega));have q0:=BX.out.cell 0;have q1:=BX.out.cell 1;have q2:=BX.out.cell 2;have q4:=BX.out.cell 4;simp at q0 q1 q2 q4;obtain ⟨nf,hnf⟩:=nm (x.fr.length);obtain ⟨np,hnp⟩:=nm (x.pg.length);obtain ⟨id,hid⟩:=nm (x.id);obtain ⟨kd,hkd⟩:=nm (x.kind);obtain ⟨pr,hpr⟩:=nm (x.par);obtain ⟨ix,hix⟩:=nm (ixN L id);rw [<- hid] at q0 HFI;rw [<- hix] at HFI;rw [<- hkd] at q1;rw [<- hpr] at q4;rw [<- hnf] at q2 hf2;have HFI:=zh HFI;rw [<- hnf] at HCF;replace HCF:=zh HCF;have HNF:=zh hnf;have HNP:=zh hnp;have HID:=zh hid;have HKD:=zh hkd;have HPR:=zh hpr;have HIX:=zh hix;have RF:=zh hf2;have hnf1:nf<=1000000:=(by rw [hnf];exact hsm.1);have hnp1:np<=1000000:=(by rw [hnp];exact hsm.2);have HBADk:=zh (show ¬ RGood L k x->cv=10 from HBAD.out k x HX.out);clear hsm hnf hnp hid hkd hpr hix hf2 hp2 p0 p1 p2 p3 p4 p5 p6 p7 p8 p9 p10 p11 p12
   by_cases t0:0<=id
   case neg =>
    have d0:id < 0:=(by omega)
    as_aux_lemma =>
    have hv:cv=10:=HBADk.out fun g=>by have:=g.id0;rw [<- HID.out] at this;omega
    have HV:=zh hv;clear hv;go_wp2_with fail;go_ret;exact ⟨by rw [HV.out];rfl,FRa.out⟩
   have d0:decide (id < 0)=false:=decide_eq_false (by omega)
   by_cases t1:id<=7
   case neg =>
    have d1:7 < id:=(by omega)
    as_aux_lemma =>
    have hv:cv=10:=HBADk.out fun g=>by have:=g.id7;rw [<- HID.out] at this;omega
    have HV:=zh hv;clear hv;go_wp2_with fail;go_ret;exact ⟨by rw [HV.out];rfl,FRa.out⟩
   have d1:decide (7 < id)=false:=decide_eq_false (by omega)
   by_cases t2:ix=(k:Int)
   case neg =>
    have d2:(ix != (k:Int))=true:=(by simpa using t2)
    as_aux_lemma =>
    have hv:cv=10:=HBADk.out fun g=>by have:=g.at_;rw [<- HID.out,<- HIX.out] at this;exact t2 this
    have HV:=zh hv;clear hv;go_wp2_with fail;refine HFI.out.mono ?_;rintro e w2 ⟨rfl,rfl⟩;go_wp2_with fail;go_ret;exact ⟨by rw [HV.out];rfl,FRa.out⟩
   subst t2;have d2:((k:Int) != (k:Int))=false:=(by simp)
   by_cases t3:0<=kd
   case neg =>
    have d3:kd < 0:=(by omega)
    as_aux_lemma =>
    have hv:cv=10:=HBADk.out fun g=>by have:=g.k0;rw [<- HKD.out] at this;omega
    have HV:=zh hv;clear hv;go_wp2_with fail;refine HFI.out.mono ?_;rintro e w2 ⟨rfl,rfl⟩;go_wp2_with fail;go_ret;exact ⟨by rw [HV.out];rfl,FRa.out⟩
   have d3:decide (kd < 0)=false:=decide_eq_false (by omega)
   by_cases t4:kd<=2
   case neg =>
    have d4:2 < kd:=(by omega)
    as_aux_lemma =>
    have hv:cv=10:=HBADk.out fun g=>by have:=g.k2;rw [<- HKD.out] at this;omega
    have HV:=zh hv;clear hv;go_wp2_with fail;refine HFI.out.mono ?_;rintro e w2 ⟨rfl,rfl⟩;go_wp2_with fail;go_ret;exact ⟨by rw [HV.out];rfl,FRa.out⟩
   have d4:decide (2 < kd)=false:=decide_eq_false (by omega)
   by_cases t5:1<=pr
   case neg =>
    have d5:pr < 1:=(by omega)
    as_aux_lemma =>
    have hv:cv=10:=HBADk.out fun g=>by have:=g.p1;rw [<- HPR.out] at this;omega
    have HV:=zh hv;clear hv;go_wp2_with fail;refine HFI.out.mono ?_;rintro e w2 ⟨rfl,rfl⟩;go_wp2_with fail;go_ret;exact ⟨by rw [HV.out];rfl,FRa.out⟩
   have d5:decide (pr < 1)=false:=decide_eq_false (by omega)
   by_cases t6:pr<=3
   case neg =>
    have d6:3 < pr:=(by omega)
    as_aux_lemma =>
    have hv:cv=10:=HBADk.out fun g=>by have:=g.p3;rw [<- HPR.out] at this;omega
    have HV:=zh hv;clear hv;go_wp2_with fail;refine HFI.out.mono ?_;rintro e w2 ⟨rfl,rfl⟩;go_wp2_with fail;go_ret;exact ⟨by rw [HV.out];rfl,FRa.out⟩
   have d6:decide (3 < pr)=false:=decide_eq_false (by omega)
   by_cases t7:nf<=3
   case neg =>
    have d7:(3:Int) < (nf:Int):=(by omega)
    as_aux_lemma =>
    have hv:cv=10:=HBADk.out fun g=>by have:=g.f3;rw [<- HNF.out] at this;omega
    have HV:=zh hv;clear hv;go_wp2_with fail;refine HFI.out.mono ?_;rintro e w2 ⟨rfl,rfl⟩;go_wp2_with fail;go_ret;exact ⟨by rw [HV.out];rfl,FRa.out⟩
   have d7:decide ((3:Int) < (nf:Int))=false:=decide_eq_false (by omega);obtain ⟨bi,hbi⟩:=nm ((id == 0));obtain ⟨bk,hbk⟩:=nm ((kd == 0));have hbi2:(id == 0)=bi:=hbi.symm;have hbk2:(kd == 0)=bk:=hbk.symm;have HBI:=zh hbi2;have HBK:=zh hbk2;clear hbi hbk
   by_cases t8:bi=bk
   case neg =>
    as_aux_lemma =>
    have hv:cv=10:=HBADk.out fun g=>by have:=g.src;rw [<- HID.out,<- HKD.out] at this;apply t8;rw [<- HBI.out,<- HBK.out,Bool.eq_iff_iff];simpa using this
    have HV:=zh hv;clear hv HBI HBK
    cases bi with
    | false =>
     cases bk with
     | false=>exact absurd rfl t8
     | true =>
      clear t8;go_wp2_with fail;refine HFI.out.mono ?_;rintro e w2 ⟨rfl,rfl⟩;go_wp2_with fail;go_ret;exact ⟨by rw [HV.out];rfl,FRa.out⟩
    | true =>
     cases bk with
     | true=>exact absurd rfl t8
     | false =>
      clear t8;go_wp2_with fail;refine HFI.out.mono ?_;rintro e w2 ⟨rfl,rfl⟩;go_wp2_with fail;go_ret;exact ⟨by rw [HV.out];rfl,FRa.out⟩
   subst t8;have d8:(bi != bi)=false:=(by simp)
   have HSRC := zh (show id = 0 ↔ kd = 0 by
    have:=HBI.out.trans HBK.out.symm;rw [Bool.eq_iff_iff] at this
    simpa using this)
   clear HBI HBK;go_wp2_with fail;refine HFI.out.mono ?_;rintro e w2 ⟨rfl,rfl⟩;go_wp2_with fail;clear hbi2 hbk2 d8 d0 d1 d2 d3 d4 d5 d6 d7;go_loopg [6] 8 (fun g s6 wr=>∃ j:Nat,j<=8/\g=8 - j/\s6=.int .i64 j/\Hid (∀ i,i < j->0<=x.rt i/\x.rt i < pr)/\Hid (Fr wa.heap.size [] wa wr))
   case atStart=>exact ⟨0,Nat.zero_le _,rfl,rfl,zh (fun _ h=>by omega),zh (Fr.refl _ _ _)⟩
   case round =>
    obtain ⟨j,hj,rfl,rfl,HR,FJ⟩:=hrel;have BXj:=zh (BX.out.fr FJ.out BX.out.lt (by simp));have FRj:=zh (FRa.out.nx FJ.out);clear q0 q1 q2 q4
    by_cases hj8:j < 8
    ·
     have hji:(j:Int) < 8:=by omega
     have hj0:(0:Int)<=(j:Int):=(by omega);have q4:=BXj.out.cell 4;simp at q4;rw [<- HPR.out] at q4;have qj:=(BXj.out.cell (5+j)).trans (nd_rt hj8);obtain ⟨rj,hrj⟩:=nm (x.rt j);rw [<- hrj] at qj;have HRJ:=zh hrj;clear hrj
     by_cases r0:rj < 0
     ·
      have hv:cv=10:=HBADk.out fun g=>by
       have:=(inTo_get g.rt hj8).1;rw [<- HRJ.out] at this;omega
      have HV:=zh hv;clear hv;go_wp2_with fail;go_quiet (fail);go_wp2_with fail;go_ret;exact ⟨by rw [HV.out];rfl,FRj.out.drewN _⟩
     have r1:decide (rj < 0)=false:=decide_eq_false r0
     by_cases r2:pr<=rj
     ·
      have hv:cv=10:=HBADk.out fun g=>by
       have:=(inTo_get g.rt hj8).2;rw [<- HRJ.out,<- HPR.out] at this;omega
      have HV:=zh hv;clear hv;go_wp2_with fail;go_quiet (fail);go_wp2_with fail;go_ret;exact ⟨by rw [HV.out];rfl,FRj.out.drewN _⟩
     have r3:decide (pr<=rj)=false:=decide_eq_false r2
     have HR2 := zh (show ∀ i, i < j + 1 -> 0 <= x.rt i /\ x.rt i < pr from fun i hi => by
      rcases Nat.lt_or_ge i j with h | h
      · exact HR.out i h
      ·
       obtain rfl:i=j:=by omega
       rw [<- HRJ.out];omega)
     go_wp2_with fail;go_quiet (fail);go_wp2_with fail;go_roundg (8 - (j+1))
     case measure=>omega
     case rel=>exact ⟨j+1,by omega,rfl,by go_num,HR2,zh (FJ.out.drewN _)⟩
    ·
     obtain rfl:j=8:=by omega
     have q1:=BXj.out.cell 1;have q2:=BXj.out.cell 2;have q3:=BXj.out.cell 3;simp at q1 q2 q3;rw [<- HKD.out] at q1;rw [<- HNF.out] at q2;rw [<- HNP.out] at q3;have HRT:=zh (show inTo x.par x.rt 8=true by rw [<- HPR.out];exact inTo_all HR.out);have HTj:=HTE.out wr FJ.out;rw [<- HNP.out] at HTj;have HTj:=zh HTj;obtain ⟨wj,rfl⟩:=nm (wr:World);have HSCK:=zh (fun (b:Bool) (h:b=decide (x.kind=0))=>(by rw [take_nd HX.out,srcN_snoc,<- HSC.out,h];by_cases hh:x.kind=0 <;> simp [hh]:srcN (L.take (k+1))=sc+(if b then 1 else 0)));have hkind:kd=0 \/ kd=1 \/ kd=2:=(by omega)
     rcases hkind with e0 | e0 | e0
     ·
      subst e0
      by_cases c1:nf=0
      case neg =>
       have c2:((nf:Int) != 0)=true:=(by simp;omega);have hv:cv=10:=HBADk.out fun g=>by have:=g.f0 (by have:=HKD.out;omega);have:=HNF.out;omega
       have HV:=zh hv;clear hv;go_wp2_with fail;go_ret;exact ⟨by rw [HV.out];rfl,FRj.out⟩
      have HNF0:=zh c1;have c2:((nf:Int) != 0)=false:=(by rw [c1];simp);clear c1
      by_cases c1:np=0
      case neg =>
       have c3:((np:Int) != 0)=true:=(by simp;omega);have hv:cv=10:=HBADk.out fun g=>by have:=g.s2 (by have:=HKD.out;omega);have:=HNP.out;omega
       have HV:=zh hv;clear hv;go_wp2_with fail;go_ret;exact ⟨by rw [HV.out];rfl,FRj.out⟩
      have HNP0:=zh c1;have c3:((np:Int) != 0)=false:=(by rw [c1];simp);clear c1;go_wp2_with fail;have HGOOD:=zh (fun (hfr:∀ (j:Nat) (f:Int),x.fr[j]?=some f->(∃ m,findN L f=some m/\m.kind ≠ 2)/\f ∉ x.fr.take j)=>(⟨by have:=HID.out;omega,by have:=HID.out;omega,by rw [<- HID.out];exact HIX.out.symm,by have:=HKD.out;omega,by have:=HKD.out;omega,by have:=HPR.out;omega,by have:=HPR.out;omega,by have:=HNF.out;omega,by rw [<- HID.out,<- HKD.out];have:=HSRC.out;simpa using this,HRT.out,(fun h=>by have:=HKD.out;have:=HNF.out;have:=HNF0.out;omega),(fun h=>by have:=HKD.out;have:=HNF.out;have:=HNF0.out;omega),(fun h=>by have:=HKD.out;have:=HNF.out;have:=HNF0.out;omega),(fun h=>by have:=HKD.out;omega),(fun h=>by have:=HKD.out;have:=HNP.out;have:=HNP0.out;omega),hfr⟩:RGood L k x));have FWB:=zh (FRa.out.nx FJ.out);have HNDB:=zh (H.out.frw FWB.out hB (by simp));have BXB:=zh (BX.out.fr FJ.out BX.out.lt (by simp));have RFB:=zh (RF.out.fr FJ.out hBa (by simp));have hBb:B<=wj.heap.size:=Nat.le_trans hBa FJ.out.size;clear q1 q2 q3;go_loopg [7] nf (fun g s7 wr=>∃ j:Nat,j<=nf/\g=nf - j/\s7=.int .i64 j/\Hid (∀ (i:Nat) (f:Int),i < j->x.fr[i]?=some f->(∃ m,findN L f=some m/\m.kind ≠ 2)/\f ∉ x.fr.take i)/\Hid (Fr wj.heap.size [] wj wr))
      case atStart=>exact ⟨0,Nat.zero_le _,rfl,rfl,zh (fun _ _ h=>by omega),zh (Fr.refl _ _ _)⟩
      case round =>
       obtain ⟨j,hj,rfl,rfl,HR,FL⟩:=hrel;have BXr:=BXB.out.fr FL.out BXB.out.lt (by simp);have FRj:=zh (FWB.out.nx FL.out);have q2:=BXr.cell 2;simp at q2;rw [<- HNF.out] at q2;clear BXr
       by_cases hjn:j < nf
       ·
        have hji:(j:Int) < (nf:Int):=by omega
        have hj0:(0:Int)<=(j:Int):=(by omega);obtain ⟨f,hf⟩:∃ f,x.fr[j]?=some f:=⟨_,List.getElem?_eq_getElem (by rw [<- HNF.out];exact hjn)⟩;have hrf:=RFB.out.fr FL.out hBb (by simp);have HHAS:=rhas_any f Af cf B j (x.fr.take j) wr.drew (by rw [List.length_take,<- HNF.out];omega) (by omega) (by rw [List.map_take];exact ireads_take (hrf.fr ((Fr.refl B [] wr).drew) (Nat.le_refl _) (by simp)) (Nat.le_of_lt hjn));obtain ⟨b2,o2,u2,rfl,hb2,hu2,hc2⟩:=hrf.one hjn;rw [List.getElem?_map,hf] at hu2;simp at hu2;subst hu2;have HF:=zh hf;have HNDr:=HNDB.out.frw FL.out hBb (by simp);have HFI2:=rfind_any f _ c B n M wr HNDr hm;rw [<- HL.out] at HFI2;clear hf hrf hb2
        rcases ixN_cases L f with ⟨h1,h2⟩ | ⟨i,y,h1,h2,h3⟩
        ·
         have hv:cv=10:=HBADk.out fun g=>by
          obtain ⟨m,hm,_⟩:=(g.fr j f HF.out).1;rw [h2] at hm
          cases hm
         have HV:=zh hv;rw [h1] at HFI2;have HFI3:=zh HFI2;clear hv HFI2 HHAS HNDr h1 h2;go_wp2_with fail;refine HFI3.out.mono ?_;rintro e w2 ⟨rfl,rfl⟩;go_wp2_with fail;go_quiet (fail);go_wp2_with fail;go_ret;exact ⟨by rw [HV.out];rfl,FRj.out.drewN _⟩
        ·
         rw [h1] at HFI2;have HFI3:=zh HFI2
         have hin2:i < n:=by
          have:=(List.getElem?_eq_some_iff.1 h2).1;rw [HN.out] at this;exact this
         obtain ⟨m2,hx2⟩:∃ m,M[i]?=some m:=⟨_,List.getElem?_eq_getElem (by rw [<- H.out.num];exact hin2)⟩
         have hmx:m2.1=y:=by
          have:=h2;rw [HL.out] at this;simp [fstN,hx2] at this;exact this
         obtain ⟨b3,o3,hAA,hb3,hc3⟩:=HNDr.get hx2;injection hAA with hAA
         injection hAA with e1 e2
         subst e1;subst e2;obtain ⟨y',tf,tp⟩:=m2;simp only at hmx;subst hmx;have r1:=hc3 1 _ (ndL_get (y',tf,tp)).2.1;have H3:=zh h3;obtain ⟨yk,hyk⟩:=nm (y'.kind);rw [<- hyk] at r1;have HYK:=zh hyk;have hii:(i:Int) < (n:Int):=(by omega);have hi0:(0:Int)<=(i:Int):=(by omega);have hi1:decide ((i:Int) < 0)=false:=decide_eq_false (by omega);have hjc:(j:Int)<=(cf:Int):=(by have:=HCF.out;omega);obtain ⟨hb,hhb⟩:=nm (hasI (x.fr.take j) f);rw [<- hhb] at HHAS;have HHB:=zh hhb;have HHS:=zh HHAS;clear HFI2 HHAS HNDr h1 h2 h3 hc3 hx2 hb3 hyk hhb
         by_cases k2:yk=2
         ·
          have hv:cv=10:=HBADk.out fun g=>by
           obtain ⟨m,hm,hm2⟩:=(g.fr j f HF.out).1;rw [H3.out] at hm;injection hm with hm
           subst hm;exact hm2 (by rw [<- HYK.out];exact k2)
          have HV:=zh hv;subst k2;clear hv;go_wp2_with fail;refine HFI3.out.mono ?_;rintro e w2 ⟨rfl,rfl⟩;go_wp2_with fail;go_quiet (fail);go_wp2_with fail;go_ret;exact ⟨by rw [HV.out];rfl,FRj.out.drewN _⟩
         have k3:(yk == 2)=false:=(by simpa using k2);have HK2:=zh k2;clear k2;go_wp2_with fail;refine HFI3.out.mono ?_;rintro e w2 ⟨rfl,rfl⟩;go_upto_region 25 with fail;refine region_tail 20 (by kernel_rfl) (by kernel_rfl) ?_;simp only [List.take_succ_cons,List.take_zero,List.drop_succ_cons,List.drop_zero]
         iterate 20 (refine stillO_step (fun K hK => ?_);go_simp;refine hK _ ?_;clear hK K)
         refine stillO_nil ?_
         cases hb with
         | true =>
          have hv:cv=10:=HBADk.out fun g=>by
           have:=(g.fr j f HF.out).2;exact this (hasI_iff.1 HHB.out.symm)
          have HV:=zh hv;clear hv;go_wp2_with fail;refine HHS.out.mono ?_;rintro e w2 ⟨rfl,rfl⟩;go_wp2_with fail;go_ret;exact ⟨by rw [HV.out];rfl,FRj.out.drew⟩
         | false =>
          have HR2 := zh (show ∀ (i : Nat) (f : Int), i < j + 1 -> x.fr[i]? = some f -> (∃ m, findN L f = some m /\ m.kind ≠ 2) /\ f ∉ x.fr.take i from fun i f' hi hf' => by
           rcases Nat.lt_or_ge i j with h | h
           · exact HR.out i f' h hf'
           ·
            obtain rfl:i=j:=by omega
            rw [HF.out] at hf';injection hf' with hf'
            subst hf'
            exact ⟨⟨_,H3.out,by rw [<- HYK.out];exact HK2.out⟩,fun hm=>by have:=hasI_iff.2 hm;rw [<- HHB.out] at this;cases this⟩)
          go_wp2_with fail;refine HHS.out.mono ?_;rintro e w2 ⟨rfl,rfl⟩;go_wp2_with fail;go_roundg (nf - (j+1))
          case measure=>omega
          case rel=>exact ⟨j+1,by omega,rfl,by go_num,HR2,zh FL.out.drew⟩
       ·
        obtain rfl:j=nf:=by omega
        have HRG:=zh (HGOOD.out fun j f hf=>HR.out j f (by have:=(List.getElem?_eq_some_iff.1 hf).1;rw [<- HNF.out] at this;exact this) hf);go_wp2_with fail;go_roundg (n - (k+1))
        case measure=>omega
        case rel => exact ⟨k + 1, sc + 1, by omega, rfl, by go_num, by omega, by go_num, zh (by have := HSCK.out true (by rw [<- HKD.out]; rfl); rw [this]; rfl), zh (fun i y hi hy => by
         rcases Nat.lt_or_ge i k with h | h
         · exact HG.out i y h hy
         ·
          obtain rfl:i=k:=by omega
          rw [HX.out] at hy;injection hy with hy
          rw [<- hy]
          exact HRG.out),FRj⟩
     ·
      subst e0
      by_cases c1:nf=1
      case neg =>
       have c2:((nf:Int) != 1)=true:=(by simp;omega);have hv:cv=10:=HBADk.out fun g=>by have:=g.f1 (by have:=HKD.out;omega);have:=HNF.out;omega
       have HV:=zh hv;clear hv;go_wp2_with fail;go_ret;exact ⟨by rw [HV.out];rfl,FRj.out⟩
      have HNF0:=zh c1;have c2:((nf:Int) != 1)=false:=(by rw [c1];simp);clear c1;have HNP0:=zh (rfl:np=np)
      rcases (show chkL x.pg=none \/ ∃ s,chkL x.pg=some s by cases chkL x.pg;exact .inl rfl;exact .inr ⟨_,rfl⟩) with hck | ⟨s,hck⟩
      ·
       have HCK:=zh hck;have hv:cv=10:=HBADk.out fun g=>by have:=g.s1 HKD.out.symm;rw [HCK.out] at this;cases this
       have HV:=zh hv;clear hv hck;go_wp2_with fail;refine HTj.out.mono ?_;rintro e w9 ⟨_,o9,f9⟩;obtain rfl:=o9 HCK.out;have F9:=zh (FRj.out.nx f9);clear f9 o9;have hfd:=kn_ok (.slice none 0 0) 0 0 false false false;go_wp2_with fail;go_ret;exact ⟨by rw [HV.out];rfl,F9.out⟩
      ·
       have HCK:=zh hck;have HOK:=zh (show (chkL x.pg).isSome=true by rw [hck];rfl);clear hck;go_wp2_with fail;refine HTj.out.mono ?_;rintro e w9 ⟨o9,_,f9⟩;obtain ⟨A9,c9,D9,rfl,_,_⟩:=o9 s HCK.out;have FB9:=zh (FJ.out.nx f9);have qq1:=(BXj.out.fr f9 BXj.out.lt (by simp)).cell 1;simp at qq1;rw [<- HKD.out] at qq1;clear f9 o9;have hfd:=kn_ok (.slice A9 x.pg.length c9) s.mx s.em s.u0 s.u1 true;go_wp2_with fail;have HGOOD:=zh (fun (hfr:∀ (j:Nat) (f:Int),x.fr[j]?=some f->(∃ m,findN L f=some m/\m.kind ≠ 2)/\f ∉ x.fr.take j)=>(⟨by have:=HID.out;omega,by have:=HID.out;omega,by rw [<- HID.out];exact HIX.out.symm,by have:=HKD.out;omega,by have:=HKD.out;omega,by have:=HPR.out;omega,by have:=HPR.out;omega,by have:=HNF.out;omega,by rw [<- HID.out,<- HKD.out];have:=HSRC.out;simpa using this,HRT.out,(fun h=>by have:=HKD.out;have:=HNF.out;have:=HNF0.out;omega),(fun h=>by have:=HKD.out;have:=HNF.out;have:=HNF0.out;omega),(fun h=>by have:=HKD.out;have:=HNF.out;have:=HNF0.out;omega),(fun h=>HOK.out),(fun h=>by have:=HKD.out;have:=HNP.out;have:=HNP0.out;omega),hfr⟩:RGood L k x));have FWB:=zh (FRa.out.nx FB9.out);have HNDB:=zh (H.out.frw FWB.out hB (by simp));have BXB:=zh (BX.out.fr FB9.out BX.out.lt (by simp));have RFB:=zh (RF.out.fr FB9.out hBa (by simp));have hBb:B<=w9.heap.size:=Nat.le_trans hBa FB9.out.size;clear q1 q2 q3;go_loopg [7] nf (fun g s7 wr=>∃ j:Nat,j<=nf/\g=nf - j/\s7=.int .i64 j/\Hid (∀ (i:Nat) (f:Int),i < j->x.fr[i]?=some f->(∃ m,findN L f=some m/\m.kind ≠ 2)/\f ∉ x.fr.take i)/\Hid (Fr w9.heap.size [] w9 wr))
       case atStart=>exact ⟨0,Nat.zero_le _,rfl,rfl,zh (fun _ _ h=>by omega),zh (Fr.refl _ _ _)⟩
       case round =>
        obtain ⟨j,hj,rfl,rfl,HR,FL⟩:=hrel;have BXr:=BXB.out.fr FL.out BXB.out.lt (by simp);have FRj:=zh (FWB.out.nx FL.out);have q2:=BXr.cell 2;simp at q2;rw [<- HNF.out] at q2;clear BXr
        by_cases hjn:j < nf
        ·
         have hji:(j:Int) < (nf:Int):=by omega
         have hj0:(0:Int)<=(j:Int):=(by omega);obtain ⟨f,hf⟩:∃ f,x.fr[j]?=some f:=⟨_,List.getElem?_eq_getElem (by rw [<- HNF.out];exact hjn)⟩;have hrf:=RFB.out.fr FL.out hBb (by simp);have HHAS:=rhas_any f Af cf B j (x.fr.take j) wr.drew (by rw [List.length_take,<- HNF.out];omega) (by omega) (by rw [List.map_take];exact ireads_take (hrf.fr ((Fr.refl B [] wr).drew) (Nat.le_refl _) (by simp)) (Nat.le_of_lt hjn));obtain ⟨b2,o2,u2,rfl,hb2,hu2,hc2⟩:=hrf.one hjn;rw [List.getElem?_map,hf] at hu2;simp at hu2;subst hu2;have HF:=zh hf;have HNDr:=HNDB.out.frw FL.out hBb (by simp);have HFI2:=rfind_any f _ c B n M wr HNDr hm;rw [<- HL.out] at HFI2;clear hf hrf hb2
         rcases ixN_cases L f with ⟨h1,h2⟩ | ⟨i,y,h1,h2,h3⟩
         ·
          have hv:cv=10:=HBADk.out fun g=>by
           obtain ⟨m,hm,_⟩:=(g.fr j f HF.out).1;rw [h2] at hm
           cases hm
          have HV:=zh hv;rw [h1] at HFI2;have HFI3:=zh HFI2;clear hv HFI2 HHAS HNDr h1 h2;go_wp2_with fail;refine HFI3.out.mono ?_;rintro e w2 ⟨rfl,rfl⟩;go_wp2_with fail;go_quiet (fail);go_wp2_with fail;go_ret;exact ⟨by rw [HV.out];rfl,FRj.out.drewN _⟩
         ·
          rw [h1] at HFI2;have HFI3:=zh HFI2
          have hin2:i < n:=by
           have:=(List.getElem?_eq_some_iff.1 h2).1;rw [HN.out] at this;exact this
          obtain ⟨m2,hx2⟩:∃ m,M[i]?=some m:=⟨_,List.getElem?_eq_getElem (by rw [<- H.out.num];exact hin2)⟩
          have hmx:m2.1=y:=by
           have:=h2;rw [HL.out] at this;simp [fstN,hx2] at this;exact this
          obtain ⟨b3,o3,hAA,hb3,hc3⟩:=HNDr.get hx2;injection hAA with hAA
          injection hAA with e1 e2
          subst e1;subst e2;obtain ⟨y',tf,tp⟩:=m2;simp only at hmx;subst hmx;have r1:=hc3 1 _ (ndL_get (y',tf,tp)).2.1;have H3:=zh h3;obtain ⟨yk,hyk⟩:=nm (y'.kind);rw [<- hyk] at r1;have HYK:=zh hyk;have hii:(i:Int) < (n:Int):=(by omega);have hi0:(0:Int)<=(i:Int):=(by omega);have hi1:decide ((i:Int) < 0)=false:=decide_eq_false (by omega);have hjc:(j:Int)<=(cf:Int):=(by have:=HCF.out;omega);obtain ⟨hb,hhb⟩:=nm (hasI (x.fr.take j) f);rw [<- hhb] at HHAS;have HHB:=zh hhb;have HHS:=zh HHAS;clear HFI2 HHAS HNDr h1 h2 h3 hc3 hx2 hb3 hyk hhb
          by_cases k2:yk=2
          ·
           have hv:cv=10:=HBADk.out fun g=>by
            obtain ⟨m,hm,hm2⟩:=(g.fr j f HF.out).1;rw [H3.out] at hm;injection hm with hm
            subst hm;exact hm2 (by rw [<- HYK.out];exact k2)
           have HV:=zh hv;subst k2;clear hv;go_wp2_with fail;refine HFI3.out.mono ?_;rintro e w2 ⟨rfl,rfl⟩;go_wp2_with fail;go_quiet (fail);go_wp2_with fail;go_ret;exact ⟨by rw [HV.out];rfl,FRj.out.drewN _⟩
          have k3:(yk == 2)=false:=(by simpa using k2);have HK2:=zh k2;clear k2;go_wp2_with fail;refine HFI3.out.mono ?_;rintro e w2 ⟨rfl,rfl⟩;go_upto_region 25 with fail;refine region_tail 20 (by kernel_rfl) (by kernel_rfl) ?_;simp only [List.take_succ_cons,List.take_zero,List.drop_succ_cons,List.drop_zero]
          iterate 20 (refine stillO_step (fun K hK => ?_);go_simp;refine hK _ ?_;clear hK K)
          refine stillO_nil ?_
          cases hb with
          | true =>
           have hv:cv=10:=HBADk.out fun g=>by
            have:=(g.fr j f HF.out).2;exact this (hasI_iff.1 HHB.out.symm)
           have HV:=zh hv;clear hv;go_wp2_with fail;refine HHS.out.mono ?_;rintro e w2 ⟨rfl,rfl⟩;go_wp2_with fail;go_ret;exact ⟨by rw [HV.out];rfl,FRj.out.drew⟩
          | false =>
           have HR2 := zh (show ∀ (i : Nat) (f : Int), i < j + 1 -> x.fr[i]? = some f -> (∃ m, findN L f = some m /\ m.kind ≠ 2) /\ f ∉ x.fr.take i from fun i f' hi hf' => by
            rcases Nat.lt_or_ge i j with h | h
            · exact HR.out i f' h hf'
            ·
             obtain rfl:i=j:=by omega
             rw [HF.out] at hf';injection hf' with hf'
             subst hf'
             exact ⟨⟨_,H3.out,by rw [<- HYK.out];exact HK2.out⟩,fun hm=>by have:=hasI_iff.2 hm;rw [<- HHB.out] at this;cases this⟩)
           go_wp2_with fail;refine HHS.out.mono ?_;rintro e w2 ⟨rfl,rfl⟩;go_wp2_with fail;go_roundg (nf - (j+1))
           case measure=>omega
           case rel=>exact ⟨j+1,by omega,rfl,by go_num,HR2,zh FL.out.drew⟩
        ·
         obtain rfl:j=nf:=by omega
         have HRG:=zh (HGOOD.out fun j f hf=>HR.out j f (by have:=(List.getElem?_eq_some_iff.1 hf).1;rw [<- HNF.out] at this;exact this) hf);go_wp2_with fail;go_roundg (n - (k+1))
         case measure=>omega
         case rel => exact ⟨k + 1, sc, by omega, rfl, by go_num, by omega, by go_num, zh (by have := HSCK.out false (by rw [<- HKD.out]; rfl); rw [this]; rfl), zh (fun i y hi hy => by
          rcases Nat.lt_or_ge i k with h | h
          · exact HG.out i y h hy
          ·
           obtain rfl:i=k:=by omega
           rw [HX.out] at hy;injection hy with hy
           rw [<- hy]
           exact HRG.out),FRj⟩
     ·
      subst e0
      by_cases c1:nf ≠ 0
      case neg =>
       have c2:((nf:Int) == 0)=true:=(by simp;omega);have hv:cv=10:=HBADk.out fun g=>by have:=g.f2 (by have:=HKD.out;omega);have:=HNF.out;omega
       have HV:=zh hv;clear hv;go_wp2_with fail;go_ret;exact ⟨by rw [HV.out];rfl,FRj.out⟩
      have HNF0:=zh c1;have c2:((nf:Int) == 0)=false:=(by simp;omega);clear c1
      by_cases c1:np=0
      case neg =>
       have c3:((np:Int) != 0)=true:=(by simp;omega);have hv:cv=10:=HBADk.out fun g=>by have:=g.s2 (by have:=HKD.out;omega);have:=HNP.out;omega
       have HV:=zh hv;clear hv;go_wp2_with fail;go_ret;exact ⟨by rw [HV.out];rfl,FRj.out⟩
      have HNP0:=zh c1;have c3:((np:Int) != 0)=false:=(by rw [c1];simp);clear c1;go_wp2_with fail;have HGOOD:=zh (fun (hfr:∀ (j:Nat) (f:Int),x.fr[j]?=some f->(∃ m,findN L f=some m/\m.kind ≠ 2)/\f ∉ x.fr.take j)=>(⟨by have:=HID.out;omega,by have:=HID.out;omega,by rw [<- HID.out];exact HIX.out.symm,by have:=HKD.out;omega,by have:=HKD.out;omega,by have:=HPR.out;omega,by have:=HPR.out;omega,by have:=HNF.out;omega,by rw [<- HID.out,<- HKD.out];have:=HSRC.out;simpa using this,HRT.out,(fun h=>by have:=HKD.out;have:=HNF.out;have:=HNF0.out;omega),(fun h=>by have:=HKD.out;have:=HNF.out;have:=HNF0.out;omega),(fun h=>by have:=HKD.out;have:=HNF.out;have:=HNF0.out;omega),(fun h=>by have:=HKD.out;omega),(fun h=>by have:=HKD.out;have:=HNP.out;have:=HNP0.out;omega),hfr⟩:RGood L k x));have FWB:=zh (FRa.out.nx FJ.out);have HNDB:=zh (H.out.frw FWB.out hB (by simp));have BXB:=zh (BX.out.fr FJ.out BX.out.lt (by simp));have RFB:=zh (RF.out.fr FJ.out hBa (by simp));have hBb:B<=wj.heap.size:=Nat.le_trans hBa FJ.out.size;clear q1 q2 q3;go_loopg [7] nf (fun g s7 wr=>∃ j:Nat,j<=nf/\g=nf - j/\s7=.int .i64 j/\Hid (∀ (i:Nat) (f:Int),i < j->x.fr[i]?=some f->(∃ m,findN L f=some m/\m.kind ≠ 2)/\f ∉ x.fr.take i)/\Hid (Fr wj.heap.size [] wj wr))
      case atStart=>exact ⟨0,Nat.zero_le _,rfl,rfl,zh (fun _ _ h=>by omega),zh (Fr.refl _ _ _)⟩
      case round =>
       obtain ⟨j,hj,rfl,rfl,HR,FL⟩:=hrel;have BXr:=BXB.out.fr FL.out BXB.out.lt (by simp);have FRj:=zh (FWB.out.nx FL.out);have q2:=BXr.cell 2;simp at q2;rw [<- HNF.out] at q2;clear BXr
       by_cases hjn:j < nf
       ·
        have hji:(j:Int) < (nf:Int):=by omega
        have hj0:(0:Int)<=(j:Int):=(by omega);obtain ⟨f,hf⟩:∃ f,x.fr[j]?=some f:=⟨_,List.getElem?_eq_getElem (by rw [<- HNF.out];exact hjn)⟩;have hrf:=RFB.out.fr FL.out hBb (by simp);have HHAS:=rhas_any f Af cf B j (x.fr.take j) wr.drew (by rw [List.length_take,<- HNF.out];omega) (by omega) (by rw [List.map_take];exact ireads_take (hrf.fr ((Fr.refl B [] wr).drew) (Nat.le_refl _) (by simp)) (Nat.le_of_lt hjn));obtain ⟨b2,o2,u2,rfl,hb2,hu2,hc2⟩:=hrf.one hjn;rw [List.getElem?_map,hf] at hu2;simp at hu2;subst hu2;have HF:=zh hf;have HNDr:=HNDB.out.frw FL.out hBb (by simp);have HFI2:=rfind_any f _ c B n M wr HNDr hm;rw [<- HL.out] at HFI2;clear hf hrf hb2
        rcases ixN_cases L f with ⟨h1,h2⟩ | ⟨i,y,h1,h2,h3⟩
        ·
         have hv:cv=10:=HBADk.out fun g=>by
          obtain ⟨m,hm,_⟩:=(g.fr j f HF.out).1;rw [h2] at hm
          cases hm
         have HV:=zh hv;rw [h1] at HFI2;have HFI3:=zh HFI2;clear hv HFI2 HHAS HNDr h1 h2;go_wp2_with fail;refine HFI3.out.mono ?_;rintro e w2 ⟨rfl,rfl⟩;go_wp2_with fail;go_quiet (fail);go_wp2_with fail;go_ret;exact ⟨by rw [HV.out];rfl,FRj.out.drewN _⟩
        ·
         rw [h1] at HFI2;have HFI3:=zh HFI2
         have hin2:i < n:=by
          have:=(List.getElem?_eq_some_iff.1 h2).1;rw [HN.out] at this;exact this
         obtain ⟨m2,hx2⟩:∃ m,M[i]?=some m:=⟨_,List.getElem?_eq_getElem (by rw [<- H.out.num];exact hin2)⟩
         have hmx:m2.1=y:=by
          have:=h2;rw [HL.out] at this;simp [fstN,hx2] at this;exact this
         obtain ⟨b3,o3,hAA,hb3,hc3⟩:=HNDr.get hx2;injection hAA with hAA
         injection hAA with e1 e2
         subst e1;subst e2;obtain ⟨y',tf,tp⟩:=m2;simp only at hmx;subst hmx;have r1:=hc3 1 _ (ndL_get (y',tf,tp)).2.1;have H3:=zh h3;obtain ⟨yk,hyk⟩:=nm (y'.kind);rw [<- hyk] at r1;have HYK:=zh hyk;have hii:(i:Int) < (n:Int):=(by omega);have hi0:(0:Int)<=(i:Int):=(by omega);have hi1:decide ((i:Int) < 0)=false:=decide_eq_false (by omega);have hjc:(j:Int)<=(cf:Int):=(by have:=HCF.out;omega);obtain ⟨hb,hhb⟩:=nm (hasI (x.fr.take j) f);rw [<- hhb] at HHAS;have HHB:=zh hhb;have HHS:=zh HHAS;clear HFI2 HHAS HNDr h1 h2 h3 hc3 hx2 hb3 hyk hhb
         by_cases k2:yk=2
         ·
          have hv:cv=10:=HBADk.out fun g=>by
           obtain ⟨m,hm,hm2⟩:=(g.fr j f HF.out).1;rw [H3.out] at hm;injection hm with hm
           subst hm;exact hm2 (by rw [<- HYK.out];exact k2)
          have HV:=zh hv;subst k2;clear hv;go_wp2_with fail;refine HFI3.out.mono ?_;rintro e w2 ⟨rfl,rfl⟩;go_wp2_with fail;go_quiet (fail);go_wp2_with fail;go_ret;exact ⟨by rw [HV.out];rfl,FRj.out.drewN _⟩
         have k3:(yk == 2)=false:=(by simpa using k2);have HK2:=zh k2;clear k2;go_wp2_with fail;refine HFI3.out.mono ?_;rintro e w2 ⟨rfl,rfl⟩;go_upto_region 25 with fail;refine region_tail 20 (by kernel_rfl) (by kernel_rfl) ?_;simp only [List.take_succ_cons,List.take_zero,List.drop_succ_cons,List.drop_zero]
         iterate 20 (refine stillO_step (fun K hK => ?_);go_simp;refine hK _ ?_;clear hK K)
         refine stillO_nil ?_
         cases hb with
         | true =>
          have hv:cv=10:=HBADk.out fun g=>by
           have:=(g.fr j f HF.out).2;exact this (hasI_iff.1 HHB.out.symm)
          have HV:=zh hv;clear hv;go_wp2_with fail;refine HHS.out.mono ?_;rintro e w2 ⟨rfl,rfl⟩;go_wp2_with fail;go_ret;exact ⟨by rw [HV.out];rfl,FRj.out.drew⟩
         | false =>
          have HR2 := zh (show ∀ (i : Nat) (f : Int), i < j + 1 -> x.fr[i]? = some f -> (∃ m, findN L f = some m /\ m.kind ≠ 2) /\ f ∉ x.fr.take i from fun i f' hi hf' => by
           rcases Nat.lt_or_ge i j with h | h
           · exact HR.out i f' h hf'
           ·
            obtain rfl:i=j:=by omega
            rw [HF.out] at hf';injection hf' with hf'
            subst hf'
            exact ⟨⟨_,H3.out,by rw [<- HYK.out];exact HK2.out⟩,fun hm=>by have:=hasI_iff.2 hm;rw [<- HHB.out] at this;cases this⟩)
          go_wp2_with fail;refine HHS.out.mono ?_;rintro e w2 ⟨rfl,rfl⟩;go_wp2_with fail;go_roundg (nf - (j+1))
          case measure=>omega
          case rel=>exact ⟨j+1,by omega,rfl,by go_num,HR2,zh FL.out.drew⟩
       ·
        obtain rfl:j=nf:=by omega
        have HRG:=zh (HGOOD.out fun j f hf=>HR.out j f (by have:=(List.getElem?_eq_some_iff.1 hf).1;rw [<- HNF.out] at this;exact this) hf);go_wp2_with fail;go_roundg (n - (k+1))
        case measure=>omega
        case rel => exact ⟨k + 1, sc, by omega, rfl, by go_num, by omega, by go_num, zh (by have := HSCK.out false (by rw [<- HKD.out]; rfl); rw [this]; rfl), zh (fun i y hi hy => by
         rcases Nat.lt_or_ge i k with h | h
         · exact HG.out i y h hy
         ·
          obtain rfl:i=k:=by omega
          rw [HX.out] at hy;injection hy with hy
          rw [<- hy]
          exact HRG.out),FRj⟩
  ·
   obtain rfl:k=n:=by omega
   have htk:L.take k=L:=List.take_of_length_le (by rw [HN.out];exact Nat.le_refl _);have HSL:=zh (show sc=srcN L by rw [HSC.out,htk]);have HGL:=zh (show ∀ (i:Nat) (x:Nd),L[i]?=some x->RGood L i x from fun i x hx=>HG.out i x (by have:=(List.getElem?_eq_some_iff.1 hx).1;rw [HN.out] at this;exact this) hx);clear htk
   by_cases c1:sc=1
   case neg =>
    have hv:cv=10:=HTEN.out fun hr=>c1 (by rw [HSL.out];exact right_src hr);have HV:=zh hv;have c2:((sc:Int) != 1)=true:=(by simp;omega);clear hv;go_wp2_with fail;go_ret;exact ⟨by rw [HV.out];rfl,FR.out⟩
   have HC1:=zh c1;have c2:((sc:Int) != 1)=false:=(by rw [c1];simp);clear c1;go_wp2_with fail;go_loopg [9] k (fun g s9 wr=>∃ i:Nat,i<=k/\g=k - i/\s9=.int .i64 i/\Hid (∀ x ∈ L.take i,aboveN L x.id 9 x.id=false)/\Hid (Fr w.heap.size [] w wr))
   case atStart=>exact ⟨0,Nat.zero_le _,rfl,rfl,zh (by simp),FR⟩
   case round =>
    obtain ⟨i,hi,rfl,rfl,HA,FI⟩:=hrel
    by_cases hik:i < k
    ·
     have hki:(i:Int) < (k:Int):=by omega
     have hk0:(0:Int)<=(i:Int):=(by omega);obtain ⟨m,hx⟩:∃ m,M[i]?=some m:=⟨_,List.getElem?_eq_getElem (by rw [<- H.out.num];exact hik)⟩;have HND:=H.out.frw FI.out hB (by simp);obtain ⟨b1,o1,rfl,hb1,hc1⟩:=HND.get hx;have HX:=zh (show L[i]?=some m.1 by rw [HL.out];simp [fstN,hx]);have p0:=hc1 0 _ (ndL_get m).1;simp only [Nat.add_zero] at p0;obtain ⟨x,sf,sp⟩:=m;simp only at p0 HX;have HAB:=rabove_any x.id _ c B k M wr.drew (HND.frw ((Fr.refl B [] wr).drew) (Nat.le_refl _) (by simp)) HS.out 9 x.id (by omega);rw [show ((9:Nat):Int)=9 from rfl,<- HL.out] at HAB;obtain ⟨ab,hab⟩:=nm (aboveN L x.id 9 x.id);rw [<- hab] at HAB;have HAN:=zh hab;have HAC:=zh HAB;obtain ⟨xi,hxi⟩:=nm (x.id);rw [<- hxi] at p0 HAC;clear HAB hab hc1 HND hb1 hx hxi;go_wp2_with fail;go_upto_region 32 with fail;refine region_tail 11 (by kernel_rfl) (by kernel_rfl) ?_;simp only [List.take_succ_cons,List.take_zero,List.drop_succ_cons,List.drop_zero]
     iterate 11 (refine stillO_step (fun K hK => ?_);go_simp;refine hK _ ?_;clear hK K)
     refine stillO_nil ?_
     cases ab with
     | true =>
      have hv:cv=10:=HTEN.out fun hr=>by
       have:=right_above hr (x:=x);rw [<- HAN.out] at this
       cases this
      have HV:=zh hv;clear hv;go_wp2_with fail;refine HAC.out.mono ?_;rintro e w2 ⟨rfl,rfl⟩;go_wp2_with fail;go_ret;exact ⟨by rw [HV.out];rfl,FI.out.drew⟩
     | false =>
      have HA2 := zh (show ∀ y ∈ L.take (i + 1), aboveN L y.id 9 y.id = false from fun y hy => by
       rw [take_nd HX.out] at hy
       rcases List.mem_append.1 hy with hy | hy
       · exact HA.out y hy
       · rw [List.mem_singleton.1 hy];exact HAN.out.symm)
      go_wp2_with fail;refine HAC.out.mono ?_;rintro e w2 ⟨rfl,rfl⟩;go_wp2_with fail;go_roundg (k - (i+1))
      case measure=>omega
      case rel=>exact ⟨i+1,by omega,rfl,by go_num,HA2,zh FI.out.drew⟩
    ·
     obtain rfl:i=k:=by omega
     have hv:cv=0:=by
      rw [HCV.out];refine checkN_zero.2 (good_right (by rw [HN.out];exact hn8) HGL.out (by rw [<- HSL.out];exact HC1.out) fun x hx=>HA.out x ?_);rw [List.take_of_length_le (by rw [HN.out];exact Nat.le_refl _)];exact hx
     have HV:=zh hv;clear hv;go_wp2_with fail;go_ret;exact ⟨by rw [HV.out];rfl,FI.out⟩
theorem child_any_iff (L:List Nd) (id:Int):(L.any fun x=>hasI x.fr id)=decide ((childN L id).length ≠ 0):=by
 rw [Bool.eq_iff_iff,List.any_eq_true,decide_eq_true_eq];constructor
 ·
  rintro ⟨x,hx,h⟩ h0;have:x.id ∈ childN L id:=childN_mem.2 ⟨x,hx,rfl,hasI_iff.1 h⟩;rw [List.eq_nil_of_length_eq_zero h0] at this
  cases this
 ·
  intro h
  cases hc:childN L id with
  | nil=>rw [hc] at h;simp at h
  | cons c t =>
   obtain ⟨x,hx,_,hf⟩:=childN_mem.1 (show c ∈ childN L id by rw [hc];simp);exact ⟨x,hx,hasI_iff.2 hf⟩
theorem rchildren_any (id:Int) (A:Option Addr) (c B n:Nat) (M:List Ndm) (w:World) (h:Nds w B A n M) (hs:Small M) :
  Calls Tryz.prog 185 #[.slice A n c,.int .i64 id] w fun e w'=>e=.returned (.bool (decide ((childN (fstN M) id).length ≠ 0)))/\w=w':=by
 have H:=zh h;have HS:=zh hs;have HN:=zh h.num;obtain ⟨L,hL⟩:=nm (fstN M);have HL:=zh hL;obtain ⟨v,hv⟩:=nm (decide ((childN L id).length ≠ 0));rw [<- hL,<- hv];have HV:=zh (show v=L.any fun x=>hasI x.fr id by rw [hv,child_any_iff]);have hn6:n<=1000000:=(by rw [h.num];exact hs.1);clear h hL hv hs;go_enter Tryz.func185,Tryz.ntmps185;go_wp2_with fail;go_loop [5] (fun s=>∃ k:Nat,k<=n/\s=.int .i64 k/\Hid (∀ x ∈ L.take k,hasI x.fr id=false)) (fun s=>n - (intOf s).toNat)
 case atStart=>exact ⟨0,Nat.zero_le _,rfl,zh (by simp)⟩
 case round =>
  obtain ⟨k,hk,rfl,HB⟩:=hrel
  by_cases hkn:k < n
  ·
   have hki:(k:Int) < (n:Int):=by omega
   have hk0:(0:Int)<=(k:Int):=(by omega);obtain ⟨m,hx⟩:∃ m,M[k]?=some m:=⟨_,List.getElem?_eq_getElem (by rw [<- HN.out];exact hkn)⟩;obtain ⟨b1,o1,rfl,hb1,hc1⟩:=H.out.get hx;have p2:=hc1 2 _ (ndL_get m).2.2.1;have hin:=H.out.inn m (List.mem_of_getElem? hx);have hsm:=HS.out.2 m (List.mem_of_getElem? hx);have HTK:=zh (show L.take (k+1)=L.take k ++ [m.1] by rw [HL.out];exact fst_take hx);have HMM:=zh (show m.1 ∈ L by rw [HL.out];exact List.mem_map.2 ⟨m,List.mem_of_getElem? hx,rfl⟩);obtain ⟨x,sf,sp⟩:=m;obtain ⟨⟨Af,cf,hf1,hf2⟩,_⟩:=hin;simp only at hf1 hf2 p2 HTK HMM hsm;subst hf1;have HH:=rhas_any id Af cf B x.fr.length x.fr w rfl hsm.1 hf2;obtain ⟨b,hb⟩:=nm (hasI x.fr id);obtain ⟨nf,hnf⟩:=nm (x.fr.length);rw [<- hb,<- hnf] at HH;rw [<- hnf] at p2;have HH:=zh HH;have HBB:=zh hb;clear hc1 hx hf2 hsm hb hnf
   cases b with
   | true =>
    have HV1:=zh (show v=true by rw [HV.out,List.any_eq_true];exact ⟨x,HMM.out,HBB.out.symm⟩);go_wp2_with fail;refine HH.out.mono ?_;rintro e w2 ⟨rfl,rfl⟩;go_wp2_with fail;go_ret;exact ⟨by rw [HV1.out];rfl,rfl⟩
   | false =>
    have HB2 := zh (show ∀ y ∈ L.take (k + 1), hasI y.fr id = false from fun y hy => by
     rw [HTK.out] at hy
     rcases List.mem_append.1 hy with hy | hy
     · exact HB.out y hy
     · simp at hy;rw [hy];exact HBB.out.symm)
    go_wp2_with fail;refine HH.out.mono ?_;rintro e w2 ⟨rfl,rfl⟩;go_wp2_with fail;go_round
    case rel=>exact ⟨k+1,by omega,by go_num,HB2⟩
    case measure=>simp [intOf];omega
  ·
   obtain rfl:k=n:=by omega
   have HV1 := zh (show v = false by
    rw [HV.out,List.any_eq_false];intro x hx;have htk:L.take k=L:=List.take_of_length_le (by rw [HL.out,HN.out];simp [fstN]);rw [<- htk] at hx;rw [HB.out x hx]
    simp)
   go_wp2_with fail;go_ret;exact ⟨by rw [HV1.out];rfl,rfl⟩
def OrgN (M0:List Ndm) (y:Nd) (sf sp:Value) (M:List Ndm):Prop:=∀ (PF:Value->List Int->Prop) (PP:Value->List (Int × Int)->Prop),(∀ m ∈ M0,PF m.2.1 m.1.fr/\PP m.2.2 m.1.pg)->PF sf y.fr->PP sp y.pg -> ∀ m ∈ M,PF m.2.1 m.1.fr/\PP m.2.2 m.1.pg
theorem OrgN.add (M:List Ndm) (y:Nd) (sf sp:Value):OrgN M y sf sp (M ++ [(y,sf,sp)]):=fun PF PP h h1 h2 m hm=>by
 rcases List.mem_append.1 hm with hm | hm
 · exact h m hm
 · rw [List.mem_singleton.1 hm];exact ⟨h1,h2⟩
theorem OrgN.sub {M M':List Ndm} (y:Nd) (sf sp:Value) (hs:∀ m ∈ M',m ∈ M):OrgN M y sf sp M':=fun PF PP h _ _ m hm=>h m (hs m hm)
theorem OrgN.set {M:List Ndm} {y x:Nd} {sf sp tf tp:Value} {k:Nat} {m':Ndm} (hk:(x,tf,tp) ∈ M) (hf:(m'.2.1=tf/\m'.1.fr=x.fr) \/ (m'.2.1=sf/\m'.1.fr=y.fr)) (hp:(m'.2.2=tp/\m'.1.pg=x.pg) \/ (m'.2.2=sp/\m'.1.pg=y.pg)):OrgN M y sf sp (M.set k m'):=fun PF PP h h1 h2 m hm=>by
 rcases List.mem_or_eq_of_mem_set hm with hm | rfl
 · exact h m hm
 ·
  have h0:=h _ hk;refine ⟨?_,?_⟩
  ·
   rcases hf with ⟨e1,e2⟩ | ⟨e1,e2⟩
   · rw [e1,e2];exact h0.1
   · rw [e1,e2];exact h1
  ·
   rcases hp with ⟨e1,e2⟩ | ⟨e1,e2⟩
   · rw [e1,e2];exact h0.2
   · rw [e1,e2];exact h2
def RStO (M0:List Ndm) (y:Nd) (sf sp:Value) (r:Int × List Nd) (w:World) (e:Ending) (w':World):Prop :=
 (r.1 ≠ 0/\e=.returned (.tuple #[.slice none 0 0,.int .i64 r.1])/\Fr w.heap.size [] w w') \/
 (r.1=0/\∃ A c n M,e=.returned (.tuple #[.slice A n c,.int .i64 0])/\Nds w' w'.heap.size A n M/\fstN M=r.2/\CapN M/\n<=c/\RightG r.2/\OrgN M0 y sf sp M/\(∀ ad,A=some ad->w.heap.size<=ad.block)/\Fr w.heap.size [] w w')
def OrgS (M0:List Ndm) (S:List (Stp × Value × Value)) (M:List Ndm):Prop:=∀ (PF:Value->List Int->Prop) (PP:Value->List (Int × Int)->Prop),(∀ m ∈ M0,PF m.2.1 m.1.fr/\PP m.2.2 m.1.pg)->(∀ s ∈ S,PF s.2.1 s.1.nd.fr/\PP s.2.2 s.1.nd.pg) -> ∀ m ∈ M,PF m.2.1 m.1.fr/\PP m.2.2 m.1.pg
theorem OrgS.refl (M0:List Ndm) (S:List (Stp × Value × Value)):OrgS M0 S M0:=fun _ _ h _=>h
theorem OrgS.step {M0 M M':List Ndm} {S:List (Stp × Value × Value)} {s:Stp × Value × Value} {y:Nd} (h:OrgS M0 S M) (hs:s ∈ S) (hy:s.1.nd=y) (h2:OrgN M y s.2.1 s.2.2 M'):OrgS M0 S M':=fun PF PP a b=>by
 subst hy;exact h2 PF PP (h PF PP a b) (b s hs).1 (b s hs).2
theorem rowns_empty (w:World):(w.alloc (.cells #[] 83)).ownsRow w.heap.size 83 13 (.slice (some ⟨w.heap.size,0,none⟩) 0 0) 0 []:=by
 refine ⟨rfl,.inr ⟨w.heap.size,0,#[],rfl,Nat.le_refl _,Blk.new _ _ _,?_⟩⟩;simp
theorem ndl_one {M:List Ndm} {w:World} {B:Nat} (h:∀ m ∈ M,NdIn w B m):∀ u ∈ cellsN M,u.oneCell'=true:=ndOnes fun m hm=>slN_of (h m hm)
theorem nds_parts {w:World} {B n b off:Nat} {M:List Ndm} (h:Nds w B (some ⟨b,off,none⟩) n M) {k:Nat} (hk:k < n) :
  Reads w B 13 (some ⟨b,off,none⟩) k (cellsN (M.take k))/\Reads w B 13 (some ⟨b,off+(k+1) * 13,none⟩) (n - (k+1)) (cellsN (M.drop (k+1))):=by
 obtain ⟨b2,off2,e,hb,hc⟩:=h.rd.2 (by omega);injection e with e
 injection e with e1 e2 _
 subst e1;subst e2;have hn:=h.num;refine ⟨⟨by rw [cellsN_length,List.length_take];congr 1;omega,fun _=>⟨b,off,rfl,hb,fun j u hu => ?_⟩⟩,⟨by rw [cellsN_length,List.length_drop,<- hn],fun _=>⟨b,_,rfl,hb,fun j u hu => ?_⟩⟩⟩
 · refine hc j u ?_;have e:cellsN M=cellsN (M.take k) ++ cellsN (M.drop k):=(by rw [<- cellsN_app,List.take_append_drop]);rw [e,List.getElem?_append_left (by rcases Nat.lt_or_ge j (cellsN (M.take k)).length with h | h;exact h;rw [List.getElem?_eq_none h] at hu;cases hu)];exact hu
 · rw [Nat.add_assoc];refine hc _ u ?_;have e:cellsN M=cellsN (M.take (k+1)) ++ cellsN (M.drop (k+1)):=(by rw [<- cellsN_app,List.take_append_drop]);have hl:(cellsN (M.take (k+1))).length=(k+1) * 13:=(by rw [cellsN_length,List.length_take];congr 1;omega);rw [e,List.getElem?_append_right (by omega),hl,Nat.add_sub_cancel_left];exact hu
structure Endg (rc:Int × List Nd) (L:List Nd) (s:Stp) (w0 w:World) (A:Option Addr) (n c:Nat) (M:List Ndm):Prop where
 zero:rc.1=0
 nds:Nds w w.heap.size A n M
 fst:fstN M=rc.2
 cap:CapN M
 sml:Small M
 fr:Fr w0.heap.size [] w0 w
 le:n<=c
theorem own_le {w:World} {base e size n c:Nat} {A:Option Addr} {xs:List Value} (h:w.ownsRow base e size (.slice A n c) n xs):n<=c:=by
 obtain ⟨_,_,he,_,hc,_⟩:=ownsRow_shape h;injection he with _ _ h3
 subst h3;exact hc
theorem endg_set {rc:Int × List Nd} {L:List Nd} {s:Stp} {w w4:World} {A A6:Option Addr} {n c2 B k:Nat} {M:List Ndm} {m':Ndm} (hz:rc.1=0) (H:Nds w B A n M) (hB:B<=w.heap.size) (hF:Fr w.heap.size [] w w4)
  (hrd:Reads w4 w4.heap.size 13 A6 n (cellsN (M.set k m'))) (hin:NdIn w4 B m') (hf:fstN (M.set k m')=rc.2) (hc:CapN M) (hc':∀ A n c,m'.2.1=.slice A n c->n<=c) (hs:Small (M.set k m')) (hle:n<=c2):Endg rc L s w w4 A6 n c2 (M.set k m'):=by
 refine ⟨hz,⟨by rw [List.length_set];exact H.num,hrd,fun m hm => ?_⟩,hf,fun m hm => ?_,hs,hF,hle⟩
 ·
  rcases List.mem_or_eq_of_mem_set hm with hm | rfl
  · exact ((H.inn m hm).frw hF hB (by simp)).more (Nat.le_trans hB hF.size)
  · exact hin.more (Nat.le_trans hB hF.size)
 ·
  rcases List.mem_or_eq_of_mem_set hm with hm | rfl
  · exact hc m hm
  · exact hc'
theorem nest_eight (w:World) (g o:Nat) (u5 u6 u7 u8 u9 u10 u11 u12:Value):(((((((w.setCell ⟨g,o+5,none⟩ u5).setCell ⟨g,o+5+1,none⟩ u6).setCell ⟨g,o+5+2,none⟩ u7).setCell ⟨g,o+5+3,none⟩ u8).setCell ⟨g,o+5+4,none⟩ u9).setCell ⟨g,o+5+5,none⟩ u10).setCell ⟨g,o+5+6,none⟩ u11).setCell ⟨g,o+5+7,none⟩ u12=setW w g (o+5) 0 [u5,u6,u7,u8,u9,u10,u11,u12]:=by
 simp only [setW,Nat.add_assoc,Nat.reduceAdd,Nat.add_zero]
theorem rstep_org (A:Option Addr) (c B n:Nat) (M:List Ndm) (s:Stp) (sf sp:Value) (w:World) (h:Nds w B A n M) (hB:B<=w.heap.size) (hs:Small M) (hcap:CapN M) (hst:NdIn w B (s.nd,sf,sp)) (h1:s.nd.fr.length<=1000) (h2:s.nd.pg.length<=1000) (hk:∀ x ∈ fstN M,x.fr.length<=1000/\x.pg.length<=1000) (hcs:∀ A n c,sf=.slice A n c->n<=c) (hnc:n<=c) :
  Calls Tryz.prog 148 #[.slice A n c,.agg (stV s sf sp)] w (RStO M s.nd sf sp (stepR (fstN M) s) w):=by
 obtain ⟨L,hL⟩:=nm (fstN M);obtain ⟨cv,hcv⟩:=nm (checkN L);obtain ⟨r,hr⟩:=nm (stepR L s);rw [<- hL,<- hr];obtain ⟨kd,y,rs⟩:=s;have hnm:=h.num;obtain ⟨⟨Af,cf,hf1,hf2⟩,⟨Ap,cp,hp1,hp2⟩⟩:=hst;simp only at hf1 hp1 hf2 hp2 h1 h2;subst hf1;subst hp1;have wa0:=(Fr.refl w.heap.size [] w).alloc (Nat.le_refl _) (.cells (stA kd y rs (.slice Af y.fr.length cf) (.slice Ap y.pg.length cp)) 215);have hst2:NdIn w B (y,.slice Af y.fr.length cf,.slice Ap y.pg.length cp):=⟨⟨Af,cf,rfl,hf2⟩,⟨Ap,cp,rfl,hp2⟩⟩;have HPR:=zh hp2;obtain ⟨nf,hnf⟩:=nm (y.fr.length);obtain ⟨np,hnp⟩:=nm (y.pg.length);rw [<- hnf,<- hnp] at wa0 hst2 ⊢;rw [<- hnf] at hcs;have BS:=zh (Blk.new w 215 (stA kd y rs (.slice Af nf cf) (.slice Ap np cp)));have FA:=zh wa0;obtain ⟨wa,hwa⟩:=nm (w.alloc (.cells (stA kd y rs (.slice Af nf cf) (.slice Ap np cp)) 215));rw [<- hwa] at BS FA;have HCK:=zh (by rw [hcv,hL];exact rcheck_any A c B n M wa (h.frw FA.out hB (by simp)) (Nat.le_trans hB FA.out.size) hs hcap:Calls Tryz.prog 29 #[.slice A n c] wa fun e w'=>e=.returned (.int .i64 cv)/\Fr wa.heap.size [] wa w');have HR:=zh hr;have HCV:=zh hcv;have HL:=zh hL;have H:=zh h;have HS:=zh hs;have HST:=zh hst2;have HK:=zh hk;have HNF:=zh hnf;have HNP:=zh hnp;have HWA:=zh hwa;have HNM:=zh hnm;have HCAP:=zh hcap;have HCS:=zh hcs;clear hr hcv hL h hs hst2 hk hf2 hp2 wa0 hnf hnp hwa hnm hcap hcs;go_enter Tryz.func148,Tryz.ntmps148;go_upto_region 1 with fail;rw [<- HWA.out];generalize hgS:w.heap.size=gS at BS;go_wp2_with fail;refine HCK.out.mono ?_;rintro e w1 ⟨rfl,f1⟩;have F1:=zh (FA.out.nx f1);have BS1:=zh (BS.out.fr f1 BS.out.lt (by simp));have hgl:gS < w1.heap.size:=BS1.out.lt;clear f1 HCK HWA BS FA
 by_cases hc:cv=0
 case' neg =>
  have hr1:r=(10,[]):=(by rw [HR.out];unfold stepR;rw [if_pos (by rw [<- HCV.out];exact hc)]);have HR1:=zh hr1;have hcb:=kd_ne hc;clear hr1 hc;go_wp2_with fail;go_ret2;rw [HR1.out];exact .inl ⟨by simp,rfl,F1.out⟩
 subst hc;have k0:=BS1.out.cell 0;simp at k0
 by_cases hk1:kd < 1 \/ 5 < kd
 case' pos =>
  have hr1:r=(11,[]):=(by rw [HR.out];unfold stepR;rw [if_neg (by rw [<- HCV.out];simp),if_pos hk1]);have HR1:=zh hr1;clear hr1
  rcases hk1 with hk1 | hk1
  · go_wp2_with fail;go_ret2;rw [HR1.out];exact .inl ⟨by simp,rfl,F1.out⟩
  ·
   have hk2:¬ kd < 1:=by omega
   go_wp2_with fail;go_ret2;rw [HR1.out];exact .inl ⟨by simp,rfl,F1.out⟩
 have hka:¬ kd < 1:=(by omega);have hkb:¬ 5 < kd:=(by omega);have hright:RightG L:=checkN_zero.1 HCV.out.symm;have HRT:=zh hright;have hLn:L.length=n:=(by rw [HL.out,HNM.out];simp [fstN]);have hn8:n<=8:=(by rw [<- hLn];exact hright.len)
 have hn1:0 < n:=by
  rw [<- hLn];have:=hright.zero
  rcases Nat.eq_zero_or_pos L.length with h0 | h0
  · rw [List.eq_nil_of_length_eq_zero h0] at this;simp [idsN] at this
  · exact h0
 obtain ⟨rc,hrc⟩:=nm (chgN L ⟨kd,y,rs⟩);have HRC:=zh hrc
 have HRR := zh (show r = endR rc by
  rw [HR.out,HRC.out];unfold stepR
  rw [if_neg (by rw [<- HCV.out];simp),if_neg hk1])
 clear hright hrc HR;have ho0:=zh (rowns_empty w1);have fe:=(Fr.refl w1.heap.size [] w1).alloc (Nat.le_refl _) (.cells #[] 83);have HR1:=zh ((H.out.frw (F1.out.nx fe) hB (by simp)).rd);have hone:=zh (ndl_one H.out.inn);have FE:=zh fe;have hBw:B<=w1.heap.size:=Nat.le_trans hB F1.out.size;clear fe;go_upto_region 5 with fail;go_upto_region 6 with (at_builtin;refine wpList_app _ rfl (.tmp 20) (.tmp 21) nodeTy rfl w1.heap.size (.slice (some ⟨w1.heap.size,0,none⟩) 0 0) 0 [] rfl ho0.out B _ n _ (cellsN M) rfl HR1.out hone.out (by omega) (by omega) (by simp) ?_;intro A2 c2 w2 hown2 hg2 hat2)
 rw [Nat.zero_add,List.nil_append] at hown2;obtain ⟨gr,cap,hv,hgr,hlr⟩:=hown2.form hn1;injection hv with hv1 _ hv3
 subst hv1;subst hv3;have f12:=FE.out.grown hg2 (by simp) (fun q hq=>.inl (by simp [Value.ownBlock] at hq;omega));have HO2:=zh (ownsRow_base hown2 (Nat.zero_le _));have hle2:n<=c2:=own_le hown2;have F2:=zh (F1.out.nx f12);have BS2:=zh (BS1.out.fr f12 BS1.out.lt (by simp));have ND2:=zh (H.out.frw F2.out hB (by simp));have IN2:=zh (HST.out.frw F2.out hB (by simp));have RP2:=zh (HPR.out.fr F2.out hB (by simp));have hBg:B<=gr:=(by omega);have hwg:w.heap.size<=gr:=(by have:=F1.out.size;omega);have hgs:gS ≠ gr:=(by omega);clear f12 hown2 hg2 hat2 HR1 ho0 FE hgr BS1 k0


 have k0:=BS2.out.cell 0;have k1:=BS2.out.cell 1;have k2:=BS2.out.cell 2;have k3:=BS2.out.cell 3;have k4:=BS2.out.cell 4;have k5:=BS2.out.cell 5;have k6:=BS2.out.cell 6;have k7:=BS2.out.cell 7;have k8:=BS2.out.cell 8;have k9:=BS2.out.cell 9;have k10:=BS2.out.cell 10;have k11:=BS2.out.cell 11;have k12:=BS2.out.cell 12;have k13:=BS2.out.cell 13;have k14:=BS2.out.cell 14;simp at k0 k1 k2 k3 k4 k5 k6 k7 k8 k9 k10 k11 k12 k13 k14;obtain ⟨iv,hiv⟩:=nm (ixN L y.id);have HFD:=zh (by rw [hiv,HL.out];exact rfind_any y.id A c B n M w2 ND2.out (by omega):Calls Tryz.prog 30 #[.slice A n c,.int .i64 y.id] w2 fun e w'=>e=.returned (.int .i64 iv)/\w2=w');have hcase:(iv = -1/\findN L y.id=none) \/ ∃ (k:Nat) (x:Nd),iv=k/\L[k]?=some x/\findN L y.id=some x:=(by rw [hiv];exact ixN_cases L y.id);clear hiv;go_upto_region 6 with fail;go_wp2_with fail;refine HFD.out.mono ?_;rintro e w' ⟨rfl,rfl⟩;clear HFD;go_upto_region 7 with fail
 have h8:(iv = -1/\kd=2/\y.kind=0/\r=(11,[])) \/ (iv = -1/\kd ≠ 2/\r=(12,[])) \/ (∃ k:Nat,iv=k/\kd=2/\r=(13,[])) \/ (iv = -1/\kd=2/\y.kind ≠ 0/\rc=(0,L ++ [y])) \/ (∃ (k:Nat) (x:Nd),iv=k/\L[k]?=some x/\findN L y.id=some x/\(kd=1 \/ kd=3 \/ kd=4 \/ kd=5)):=by
  rcases hcase with ⟨h3,hfn⟩ | ⟨k,x,h3,hLk,hfn⟩
  ·
   by_cases h22:kd=2
   ·
    by_cases hk0:y.kind=0
    · refine .inl ⟨h3,h22,hk0,?_⟩;rw [HRR.out,HRC.out];unfold chgN endR;rw [hfn];simp [hk0,h22]
    · refine .inr (.inr (.inr (.inl ⟨h3,h22,hk0,?_⟩)));rw [HRC.out];unfold chgN;rw [hfn];simp [hk0,h22]
   · refine .inr (.inl ⟨h3,h22,?_⟩);rw [HRR.out,HRC.out];unfold chgN endR;rw [hfn];simp [h22]
  ·
   by_cases h22:kd=2
   · refine .inr (.inr (.inl ⟨k,h3,h22,?_⟩));rw [HRR.out,HRC.out];unfold chgN endR;rw [hfn];simp [h22]
   · exact .inr (.inr (.inr (.inr ⟨k,x,h3,hLk,hfn,by omega⟩)))
 clear hcase
 have CP2 := zh (show ∀ M', (∀ m ∈ M', m ∈ M \/ m.2.1 = .slice Af nf cf) -> CapN M' from fun M' hm m hx A n c e => by
  rcases hm m hx with h | h
  · exact HCAP.out m h A n c e
  · rw [h] at e;exact HCS.out A n c e)
 have HSM := zh (fun (M' : List Ndm) (h : fstN M' = rc.2) => (by
  have hq:=chg_sml (M:=M) (M':=M') (s:=⟨kd,y,rs⟩) (K:=1000) (by rw [<- HNM.out];omega) HK.out h1 h2 (by rw [h,HRC.out,HL.out])
  exact ⟨by have:=hq.1;omega,fun m hm=>⟨by have:=(hq.2 m hm).1;omega,by have:=(hq.2 m hm).2;omega⟩⟩:Small M'))
 rcases h8 with ⟨rfl,h3,h4,h5⟩ | ⟨rfl,h3,h5⟩ | ⟨k,rfl,h3,h5⟩ | ⟨rfl,h3,h4,h5⟩ | ⟨k,x,rfl,hLk,hfn,(h3 | h3 | h3 | h3)⟩
 · have HR1:=zh h5;rw [h3] at k0;rw [h4] at k2;clear h3 h4 h5;go_wp2_with fail;go_ret2;rw [HR1.out];exact .inl ⟨by simp,rfl,F2.out⟩
 · have HR1:=zh h5;have hkn:=kd_ne h3;clear h3 h5;go_wp2_with fail;go_ret2;rw [HR1.out];exact .inl ⟨by simp,rfl,F2.out⟩
 · have HR1:=zh h5;have hk0:(0:Int)<=(k:Int):=(by omega);rw [h3] at k0;clear h3 h5;go_wp2_with fail;go_ret2;rw [HR1.out];exact .inl ⟨by simp,rfl,F2.out⟩
 case' inr.inr.inr.inl =>
  have HC:=zh h5;have HK2:=zh h3;rw [h3] at k0;have hyk:=kd_ne h4;clear h3 h4 h5;go_upto_region 15 with (at_builtin;refine wpList_app_lit w2 rfl (.tmp 37) (.tmp 40) nodeTy rfl 0 (.slice (some ⟨gr,0,none⟩) n c2) n (cellsN M) rfl HO2.out 1 1 (ndA y (.slice Af nf cf) (.slice Ap np cp)) rfl rfl ndOne (by omega) (by omega) (Nat.zero_le _) ?_;intro A6 c6 w4 hown4 hg4 hat4)
  have f24:=((Fr.refl w.heap.size [] w2).alloc F2.out.size (.cells (ndA y (.slice Af nf cf) (.slice Ap np cp)) 83)).grown hg4 (by simp;have:=F2.out.size;omega) (fun q hq=>.inl (by simp [Value.ownBlock] at hq;omega));have F4:=zh (F2.out.trans f24);have hf:fstN (M ++ [(y,.slice Af nf cf,.slice Ap np cp)])=rc.2:=(by rw [HC.out,HL.out];simp [fstN])
  have ND4 := zh (show Endg rc L ⟨kd, y, rs⟩ w w4 A6 (n + 1) c6 (M ++ [(y, .slice Af nf cf, .slice Ap np cp)]) from ⟨by rw [HC.out], ⟨by rw [List.length_append, <- HNM.out]; rfl, by rw [cellsN_app]; exact Reads.of_own (by simpa [cellsN, ndL] using hown4), fun m hm => by
   rcases List.mem_append.1 hm with hm | hm
   · exact ((H.out.inn m hm).frw F4.out hB (by simp)).more (Nat.le_trans hB F4.out.size)
   ·
    rw [List.mem_singleton.1 hm]
    exact (HST.out.frw F4.out hB (by simp)).more (Nat.le_trans hB F4.out.size)⟩,hf,CP2.out _ (fun m hm=>by
   rcases List.mem_append.1 hm with hm | hm
   · exact .inl hm
   · rw [List.mem_singleton.1 hm];exact .inr rfl),HSM.out _ hf,F4.out,own_le hown4⟩)
  obtain ⟨n6,hn6⟩:=nm (n+1);rw [<- hn6] at ND4 ⊢
  have FRS4 := zh (show ∀ ad, A6 = some ad -> w.heap.size <= ad.block from fun ad ha => by
   have h1:=hat4;rw [ha] at h1;have h2:=F2.out.size;simp [Value.ownBlock] at h1
   omega)
  obtain ⟨M6,hM6⟩:=nm (M ++ [(y,.slice Af nf cf,.slice Ap np cp)]);have ORG4:=zh (show OrgN M y (.slice Af nf cf) (.slice Ap np cp) M6 from by rw [hM6];exact OrgN.add M y _ _);rw [<- hM6] at ND4;have f24':=((Fr.refl w2.heap.size [gr] w2).alloc (Nat.le_refl _) (.cells (ndA y (.slice Af nf cf) (.slice Ap np cp)) 83)).grown hg4 (by simp) (fun q hq=>.inr (by simp [Value.ownBlock] at hq;simp [hq]));have z0:=(BS2.out.fr f24' BS2.out.lt (by simpa using hgs)).cell 0;simp at z0;rw [HK2.out] at z0;clear f24 f24' hown4 hg4 hat4 hf hn6 hM6 k0 k1 k2 k3 k4 k5 k6 k7 k8 k9 k10 k11 k12 k13 k14 BS2 ND2 IN2 RP2 HO2 F4;go_upto_region 34 with fail
 case' inr.inr.inr.inr.inl =>
  obtain ⟨m,hm⟩:∃ m,M[k]?=some m/\m.1=x:=by
   rw [HL.out] at hLk;simp only [fstN,List.getElem?_map,Option.map_eq_some_iff] at hLk;exact hLk
  obtain ⟨hm,hmx⟩:=hm;obtain ⟨x',tf,tp⟩:=m;simp only at hmx;subst hmx;have hid:x'.id=y.id:=findN_id hfn;have hkl:k < M.length:=(List.getElem?_eq_some_iff.1 hm).1;have hkn:(k:Int) < (n:Int):=(by have:=HNM.out;omega);have hk0:(0:Int)<=(k:Int):=(by omega);have hu:(idsN (fstN M)).Nodup:=(by rw [<- HL.out];exact HRT.out.uni);have HU:=zh hu;have HM:=zh hm;have HID:=zh hid;have HKL:=zh hkl;obtain ⟨b1,o1,hA1,hb1,hc1⟩:=ND2.out.get hm;subst hA1;have p1:=hc1 1 (.int .i64 x'.kind) rfl;rw [h3] at k0 HRC;subst h3;clear hLk hm hid hkl hc1 hu
  by_cases hx1:x'.kind=1
  case' neg =>
   have HR1 := zh (show r = (11, []) by
    rw [HRR.out,HRC.out];unfold chgN endR;rw [hfn]
    simp [hx1])
   have hkb2:=kd_ne hx1;clear hx1 hfn;go_wp2_with fail;go_ret2;rw [HR1.out];exact .inl ⟨by simp,rfl,F2.out⟩
  rw [hx1] at p1;obtain ⟨ok,hok⟩:=nm ((chkL y.pg).isSome)
  have HTE := zh (by
   refine (tell_any Ap cp y.pg w2 (RP2.out.more (Nat.le_trans hB F2.out.size)) (by unfold maxLen;omega)).mono ?_;rintro e w' ⟨t1,t2,f⟩;refine ⟨?_,f⟩
   cases hch:chkL y.pg with
   | none =>
    rw [hch] at hok;exact ⟨none,0,0,0,0,false,false,by rw [hok,t2 hch];rfl⟩
   | some s =>
    rw [hch] at hok;obtain ⟨A7,c7,D,h7,_⟩:=t1 s hch
    exact ⟨A7,_,c7,s.mx,s.em,s.u0,s.u1,by rw [hok,h7];rfl⟩:Calls Tryz.prog 71 #[.slice Ap y.pg.length cp] w2 fun e w'=>(∃ A7 n7 c7 a b p q,e=.returned (.agg (knC (.slice A7 n7 c7) a b p q ok)))/\Fr w2.heap.size [] w2 w')
  rw [<- HNP.out] at HTE
  have HR4 := zh (show rc = if ok = true then (0, updN L y.id (pgN y.pg)) else (9, []) by
   rw [HRC.out,hok];unfold chgN;rw [hfn]
   simp [hx1])
  have HX1:=zh hx1;clear hok hx1 hfn;go_upto_region 18 with fail;go_wp2_with fail;refine HTE.out.mono ?_;rintro e w3 ⟨⟨A7,n7,c7,qa,qb,qp,qq,rfl⟩,f3⟩;have F3:=zh (F2.out.nx f3);have BS3:=zh (BS2.out.fr f3 BS2.out.lt (by simp));have HO3:=zh (ownsRow_fr HO2.out f3 (fun q hq=>⟨(HO2.out.lt q hq).2,by simp⟩));clear f3 HTE k0 k1 k2 k3 k4 k5 k6 k7 k8 k9 k10 k11 k12 k13 k14 BS2 RP2 HO2 IN2 p1
  cases ok with
  | false =>
   have HR1:=zh (show r=(9,[]) by rw [HRR.out,HR4.out];rfl);clear HR4;have hkq:=kn_ok (.slice A7 n7 c7) qa qb qp qq false;go_wp2_with fail;go_ret2;rw [HR1.out];exact .inl ⟨by simp,rfl,F3.out⟩
  | true => ?_
  have HR5:=zh (show rc=(0,updN L y.id (pgN y.pg)) by rw [HR4.out];rfl);have hkq:=kn_ok (.slice A7 n7 c7) qa qb qp qq true;have k4:=BS3.out.cell 4;simp at k4;have z3:=HO3.out.frozenAt (k * 13+3);have c3:=nd_cell HO3.out HM.out 3 _ rfl;have F4:=zh (F3.out.trans ((Fr.refl w.heap.size [] w3).setCell (p:=⟨gr,k * 13+3,none⟩) (.inl hwg) (.slice Ap np cp)));have hf:fstN (M.set k (pgN y.pg x',tf,.slice Ap np cp))=rc.2:=(by rw [HR5.out,HL.out];exact upd_here HU.out HM.out HID.out (pgN y.pg) tf (.slice Ap np cp));have hina:=(H.out.inn _ (List.mem_of_getElem? HM.out)).frw F4.out hB (by simp);have hinb:=HST.out.frw F4.out hB (by simp);have ND4:=zh (endg_set (c2:=c2) (L:=L) (s:=⟨1,y,rs⟩) (by rw [HR5.out]) H.out hB F4.out (Reads.of_own (nd_set (m':=(pgN y.pg x',tf,.slice Ap np cp)) (u:=.slice Ap np cp) HO3.out HM.out (j:=3) (by omega) rfl)) ⟨hina.fr,hinb.pg⟩ hf HCAP.out (fun A n c e=>HCAP.out _ (List.mem_of_getElem? HM.out) A n c e) (HSM.out _ hf) hle2:Endg rc L ⟨1,y,rs⟩ w (w3.setCell ⟨gr,k * 13+3,none⟩ (.slice Ap np cp)) (some ⟨gr,0,none⟩) n c2 (M.set k (pgN y.pg x',tf,.slice Ap np cp)));obtain ⟨M6,hM6⟩:=nm (M.set k (pgN y.pg x',tf,.slice Ap np cp));have ORG4:=zh (show OrgN M y (.slice Af nf cf) (.slice Ap np cp) M6 from by rw [hM6];exact OrgN.set (List.mem_of_getElem? HM.out) (.inl ⟨rfl,rfl⟩) (.inr ⟨rfl,rfl⟩));rw [<- hM6] at ND4;clear hina hinb hf hM6;have z0:=(BS3.out.far (p:=⟨gr,k * 13+3,none⟩) hgs (.slice Ap np cp)).cell 0;simp at z0;go_upto_region 21 with fail;generalize w3.setCell ⟨gr,k * 13+3,none⟩ (.slice Ap np cp)=w4 at *;clear k4 c3 z3 HO3 BS3 F3 hkq;obtain ⟨A6,hA6⟩:=nm (some ⟨gr,0,none⟩:Option Addr);obtain ⟨c6,hc6⟩:=nm (c2);obtain ⟨n6,hn6⟩:=nm (n);rw [<- hA6,<- hc6,<- hn6] at ND4 ⊢
  have FRS4 := zh (show ∀ ad, A6 = some ad -> w.heap.size <= ad.block from fun ad ha => by
   rw [hA6] at ha;injection ha with ha
   rw [<- ha]
   exact hwg)
  clear hA6 hc6 hn6;go_upto_region 34 with fail
 case' inr.inr.inr.inr.inr.inl =>
  obtain ⟨m,hm⟩:∃ m,M[k]?=some m/\m.1=x:=by
   rw [HL.out] at hLk;simp only [fstN,List.getElem?_map,Option.map_eq_some_iff] at hLk;exact hLk
  obtain ⟨hm,hmx⟩:=hm;obtain ⟨x',tf,tp⟩:=m;simp only at hmx;subst hmx;have hid:x'.id=y.id:=findN_id hfn;have hkl:k < M.length:=(List.getElem?_eq_some_iff.1 hm).1;have hkn:(k:Int) < (n:Int):=(by have:=HNM.out;omega);have hk0:(0:Int)<=(k:Int):=(by omega);have hu:(idsN (fstN M)).Nodup:=(by rw [<- HL.out];exact HRT.out.uni);have HU:=zh hu;have HM:=zh hm;have HID:=zh hid;have HKL:=zh hkl;obtain ⟨b1,o1,hA1,hb1,hc1⟩:=ND2.out.get hm;subst hA1;have p1:=hc1 1 (.int .i64 x'.kind) rfl;rw [h3] at k0 HRC;subst h3;clear hLk hm hid hkl hc1 hu
  by_cases hx1:x'.kind=0
  case' pos =>
   have HR1 := zh (show r = (11, []) by
    rw [HRR.out,HRC.out];unfold chgN endR;rw [hfn]
    simp [hx1])
   rw [hx1] at p1;clear hx1 hfn;go_wp2_with fail;go_ret2;rw [HR1.out];exact .inl ⟨by simp,rfl,F2.out⟩
  have hxb:=kd_ne hx1;obtain ⟨qb,hqb⟩:=nm (decide ((childN L y.id).length ≠ 0));have HCH:=zh (by rw [hqb,HL.out];exact rchildren_any y.id (some ⟨b1,o1,none⟩) c B n M w2 ND2.out HS.out:Calls Tryz.prog 185 #[.slice (some ⟨b1,o1,none⟩) n c,.int .i64 y.id] w2 fun e w'=>e=.returned (.bool qb)/\w2=w')
  have HR4 := zh (show rc = if qb = true then (11, []) else (0, delN L y.id) by
   rw [HRC.out,hqb];unfold chgN;rw [hfn]
   simp [hx1])
  clear hqb hx1 hfn;go_upto_region 22 with fail;go_wp2_with fail;refine HCH.out.mono ?_;rintro e w' ⟨rfl,rfl⟩;clear HCH
  cases qb with
  | true =>
   have HR1:=zh (show r=(11,[]) by rw [HRR.out,HR4.out];rfl);clear HR4;go_wp2_with fail;go_ret2;rw [HR1.out];exact .inl ⟨by simp,rfl,F2.out⟩
  | false => ?_
  have HR5:=zh (show rc=(0,delN L y.id) by rw [HR4.out];rfl);have hkc:(k:Int)<=(c:Int):=(by omega);have hk1n:(k:Int)+1<=(n:Int):=(by omega);have hnc2:(n:Int)<=(c:Int):=(by omega);have hk01:(0:Int)<=(k:Int)+1:=(by omega);have hwr:IntKind.i64.wrap ((k:Int)+1)=(k:Int)+1:=(by rw [IntKind.wrap_i64];omega);have hkn2:k < n:=(by omega);have HOW:=zh (show (w2.alloc (.cells #[] 83)).drew.ownsRow w2.heap.size 83 13 (.slice (some ⟨w2.heap.size,0,none⟩) 0 0) 0 [] from rowns_empty w2);have fw:=((Fr.refl w2.heap.size [] w2).alloc (Nat.le_refl _) (.cells #[] 83)).drew;have HFW:=zh fw;have FW:=F2.out.nx fw;obtain ⟨RT,RD⟩:=nds_parts (H.out.frw FW hB (by simp)) hkn2;have RT:=zh RT;have RD:=zh RD;obtain ⟨Ad,had⟩:=nm (if c=k+1 then some ⟨b1,o1,none⟩ else some ⟨b1,o1+(k+1) * 13,none⟩:Option Addr)
  have RD := zh (show Reads (w2.alloc (.cells #[] 83)).drew B 13 Ad (n - (k + 1)) (cellsN (M.drop (k + 1))) by
   rw [had]
   split
   ·
    have h0:n - (k+1)=0:=by omega
    have hd:M.drop (k+1)=[]:=List.drop_eq_nil_of_le (by rw [<- HNM.out];omega);rw [h0,hd];exact ⟨rfl,fun h=>absurd h (by omega)⟩
   · exact RD.out)
  have hone1:=zh (ndl_one (M:=M.take k) (fun m hm=>H.out.inn m (List.mem_of_mem_take hm)));have hone2:=zh (ndl_one (M:=M.drop (k+1)) (fun m hm=>H.out.inn m (List.mem_of_mem_drop hm)));have hB2:B<=w2.heap.size:=Nat.le_trans hB F2.out.size;have BSD:=zh BS2.out.drew;clear fw FW k0 k1 k2 k3 k4 k5 k6 k7 k8 k9 k10 k11 k12 k13 k14 IN2 RP2 HR4 p1;go_upto_region 24 with fail
  go_region_held3 (fun _ => True) (trivial) ((first
   | (refine step_app (by rfl) (.tmp 82) (.tmp 85) nodeTy (by rfl) w2.heap.size (.slice (some ⟨w2.heap.size,0,none⟩) 0 0) 0 [] (by rfl) HOW.out B _ k _ (cellsN (M.take k)) (by rfl) RT.out hone1.out (by omega) (by omega) (by simp) ?_;intro A8 c8 w12 hown12 hg12 hat12;rw [Nat.zero_add] at hown12 hat12;simp only [Nat.zero_add];rw [List.nil_append] at hown12;have f12:=(Fr.refl w2.heap.size [] (w2.alloc (.cells #[] 83)).drew).grown hg12 (by simp) (fun q hq=>.inl (by simp [Value.ownBlock] at hq;omega));have hs12:=f12.size;simp at hs12;have RD2:=zh (RD.out.fr f12 hB2 (by simp)))
   | (refine step_app (by rfl) (.tmp 86) (.tmp 90) nodeTy (by rfl) w2.heap.size (.slice A8 k c8) k _ (by rfl) hown12 B Ad (n - (k+1)) _ (cellsN (M.drop (k+1))) (by rw [had];rfl) RD2.out hone2.out (by omega) (by omega) (by omega) ?_;intro A6 c6 w4 hown13 hg13 hat13;rw [show k+(n - (k+1))=n - 1 by omega] at hown13 hat13;rw [show k+(n - (k+1))=n - 1 by omega])))
  try rw [<- had]
  have f13:=((HFW.out.trans (f12.mono (Nat.le_refl _) (by simp))).grown hg13 (by omega) (fun q hq=>.inl (hown12.lt q hq).1));have F4:=zh (F2.out.nx f13);have hf:fstN (M.take k ++ M.drop (k+1))=rc.2:=(by rw [HR5.out,HL.out];exact del_here HU.out HM.out HID.out)
  have hmm:∀ m ∈ M.take k ++ M.drop (k+1),m ∈ M:=fun m hm=>by
   rcases List.mem_append.1 hm with h | h
   · exact List.mem_of_mem_take h
   · exact List.mem_of_mem_drop h
  have ND4:=zh (show Endg rc L ⟨3,y,rs⟩ w w4 A6 (n - 1) c6 (M.take k ++ M.drop (k+1)) from ⟨by rw [HR5.out],⟨by rw [List.length_append,List.length_take,List.length_drop,<- HNM.out];omega,by rw [cellsN_app];exact Reads.of_own hown13,fun m hm=>((H.out.inn m (hmm m hm)).frw F4.out hB (by simp)).more (Nat.le_trans hB F4.out.size)⟩,hf,fun m hm=>HCAP.out m (hmm m hm),HSM.out _ hf,F4.out,own_le hown13⟩);have z0:=(BS2.out.fr f13 BS2.out.lt (by simp)).cell 0;simp at z0;obtain ⟨n6,hn6⟩:=nm (n - 1)
  have FRS4 := zh (show ∀ ad, A6 = some ad -> w.heap.size <= ad.block from fun ad ha => by
   obtain ⟨A2,c2,e,h,_⟩:=ownsRow_shape hown13;injection e with e
   subst e;have h1:=(h ad ha).2.2.1;have h2:=F2.out.size
   omega)
  obtain ⟨M6,hM6⟩:=nm (M.take k ++ M.drop (k+1));have ORG4:=zh (show OrgN M y (.slice Af nf cf) (.slice Ap np cp) M6 from by rw [hM6];exact OrgN.sub y _ _ hmm);rw [<- hM6,<- hn6] at ND4;rw [<- hn6];clear hf hmm f13 f12 hs12 hg12 hg13 hown12 hown13 hat12 hat13 RD2 hn6 hM6 BSD BS2 HO2 ND2 F2 F4 HOW HFW RT RD had hone1 hone2;go_upto_region 34 with fail
 case' inr.inr.inr.inr.inr.inr.inl =>
  obtain ⟨m,hm⟩:∃ m,M[k]?=some m/\m.1=x:=by
   rw [HL.out] at hLk;simp only [fstN,List.getElem?_map,Option.map_eq_some_iff] at hLk;exact hLk
  obtain ⟨hm,hmx⟩:=hm;obtain ⟨x',tf,tp⟩:=m;simp only at hmx;subst hmx;have hid:x'.id=y.id:=findN_id hfn;have hkl:k < M.length:=(List.getElem?_eq_some_iff.1 hm).1;have hkn:(k:Int) < (n:Int):=(by have:=HNM.out;omega);have hk0:(0:Int)<=(k:Int):=(by omega);have hu:(idsN (fstN M)).Nodup:=(by rw [<- HL.out];exact HRT.out.uni);have HU:=zh hu;have HM:=zh hm;have HID:=zh hid;have HKL:=zh hkl;obtain ⟨b1,o1,hA1,hb1,hc1⟩:=ND2.out.get hm;subst hA1;have p1:=hc1 1 (.int .i64 x'.kind) rfl;rw [h3] at k0 HRC;subst h3;clear hLk hm hid hkl hc1 hu
  by_cases hx1:x'.kind=0
  case' pos =>
   have HR1 := zh (show r = (11, []) by
    rw [HRR.out,HRC.out];unfold chgN endR;rw [hfn]
    simp [hx1])
   rw [hx1] at p1;clear hx1 hfn;go_wp2_with fail;go_ret2;rw [HR1.out];exact .inl ⟨by simp,rfl,F2.out⟩
  have hxb:=kd_ne hx1
  have HR5 := zh (show rc = (0, updN L y.id (rtN y.par y.rt)) by
   rw [HRC.out];unfold chgN;rw [hfn]
   simp [hx1])
  clear hx1 hfn;have z4:=HO2.out.frozenAt (k * 13+4);have d4:=nd_cell HO2.out HM.out 4 _ rfl;go_upto_region 29 with fail;have F3:=zh (F2.out.trans ((Fr.refl w.heap.size [] w2).setCell (p:=⟨gr,k * 13+4,none⟩) (.inl hwg) (.int .i64 y.par)));have BS3:=zh (BS2.out.far (p:=⟨gr,k * 13+4,none⟩) hgs (.int .i64 y.par));have HO3:=zh (nd_set (m':=(rtN y.par x'.rt x',tf,tp)) (u:=.int .i64 y.par) HO2.out HM.out (j:=4) (by omega) rfl);have HM3:=zh (show (M.set k (rtN y.par x'.rt x',tf,tp))[k]?=some (rtN y.par x'.rt x',tf,tp) from List.getElem?_set_self HKL.out);generalize w2.setCell ⟨gr,k * 13+4,none⟩ (.int .i64 y.par)=w3 at *;clear k0 k1 k2 k3 k4 k5 k6 k7 k8 k9 k10 k11 k12 k13 k14 z4 d4 BS2 F2 IN2 RP2 ND2 p1 HO2;have k6:=BS3.out.cell 6;have k7:=BS3.out.cell 7;have k8:=BS3.out.cell 8;have k9:=BS3.out.cell 9;have k10:=BS3.out.cell 10;have k11:=BS3.out.cell 11;have k12:=BS3.out.cell 12;have k13:=BS3.out.cell 13;simp at k6 k7 k8 k9 k10 k11 k12 k13;have z5:=HO3.out.frozenAt (k * 13+5);have d5:=nd_cell HO3.out HM3.out 5 _ rfl;have z6:=HO3.out.frozenAt (k * 13+6);have d6:=nd_cell HO3.out HM3.out 6 _ rfl;have z7:=HO3.out.frozenAt (k * 13+7);have d7:=nd_cell HO3.out HM3.out 7 _ rfl;have z8:=HO3.out.frozenAt (k * 13+8);have d8:=nd_cell HO3.out HM3.out 8 _ rfl;have z9:=HO3.out.frozenAt (k * 13+9);have d9:=nd_cell HO3.out HM3.out 9 _ rfl;have z10:=HO3.out.frozenAt (k * 13+10);have d10:=nd_cell HO3.out HM3.out 10 _ rfl;have z11:=HO3.out.frozenAt (k * 13+11);have d11:=nd_cell HO3.out HM3.out 11 _ rfl;have z12:=HO3.out.frozenAt (k * 13+12);have d12:=nd_cell HO3.out HM3.out 12 _ rfl;go_upto_region 30 with fail;rw [nest_eight];have F4:=zh (F3.out.trans (fr_setW (B:=w.heap.size) (g:=gr) (o:=k * 13+5) (L:=[]) (a:=w3) (.inl hwg) [.int .i64 (y.rt 0),.int .i64 (y.rt 1),.int .i64 (y.rt 2),.int .i64 (y.rt 3),.int .i64 (y.rt 4),.int .i64 (y.rt 5),.int .i64 (y.rt 6),.int .i64 (y.rt 7)] 0 w3 (Fr.refl _ _ _)));have hf:fstN (M.set k (rtN y.par y.rt x',tf,tp))=rc.2:=(by rw [HR5.out,HL.out];exact upd_here HU.out HM.out HID.out (rtN y.par y.rt) tf tp);have hina:=(H.out.inn _ (List.mem_of_getElem? HM.out)).frw F4.out hB (by simp);have hinb:=HST.out.frw F4.out hB (by simp)
  have ND4 := zh (endg_set (c2 := c2) (L := L) (s := ⟨4, y, rs⟩) (by rw [HR5.out]) H.out hB F4.out (by
   have e1:M.set k (rtN y.par y.rt x',tf,tp)=(M.set k (rtN y.par x'.rt x',tf,tp)).set k (rtN y.par y.rt x',tf,tp):=(by rw [List.set_set]);rw [e1,cells_put (m':=(rtN y.par y.rt x',tf,tp)) HM3.out 5 [.int .i64 (y.rt 0),.int .i64 (y.rt 1),.int .i64 (y.rt 2),.int .i64 (y.rt 3),.int .i64 (y.rt 4),.int .i64 (y.rt 5),.int .i64 (y.rt 6),.int .i64 (y.rt 7)] (by simp) rfl]
   exact Reads.of_own (owns_setW (o:=k * 13+5) [.int .i64 (y.rt 0),.int .i64 (y.rt 1),.int .i64 (y.rt 2),.int .i64 (y.rt 3),.int .i64 (y.rt 4),.int .i64 (y.rt 5),.int .i64 (y.rt 6),.int .i64 (y.rt 7)] 0 w3 _ HO3.out)) ⟨hina.fr,hina.pg⟩ hf HCAP.out (fun A n c e=>HCAP.out _ (List.mem_of_getElem? HM.out) A n c e) (HSM.out _ hf) hle2:Endg rc L ⟨4,y,rs⟩ w (setW w3 gr (k * 13+5) 0 [.int .i64 (y.rt 0),.int .i64 (y.rt 1),.int .i64 (y.rt 2),.int .i64 (y.rt 3),.int .i64 (y.rt 4),.int .i64 (y.rt 5),.int .i64 (y.rt 6),.int .i64 (y.rt 7)]) (some ⟨gr,0,none⟩) n c2 (M.set k (rtN y.par y.rt x',tf,tp)))
  obtain ⟨M6,hM6⟩:=nm (M.set k (rtN y.par y.rt x',tf,tp));have ORG4:=zh (show OrgN M y (.slice Af nf cf) (.slice Ap np cp) M6 from by rw [hM6];exact OrgN.set (List.mem_of_getElem? HM.out) (.inl ⟨rfl,rfl⟩) (.inl ⟨rfl,rfl⟩));rw [<- hM6] at ND4;clear hina hinb hf hM6;have BS4:=zh (far_setW hgs (k * 13+5) [.int .i64 (y.rt 0),.int .i64 (y.rt 1),.int .i64 (y.rt 2),.int .i64 (y.rt 3),.int .i64 (y.rt 4),.int .i64 (y.rt 5),.int .i64 (y.rt 6),.int .i64 (y.rt 7)] 0 w3 BS3.out);generalize setW w3 gr (k * 13+5) 0 [.int .i64 (y.rt 0),.int .i64 (y.rt 1),.int .i64 (y.rt 2),.int .i64 (y.rt 3),.int .i64 (y.rt 4),.int .i64 (y.rt 5),.int .i64 (y.rt 6),.int .i64 (y.rt 7)]=w4 at *;clear k6 k7 k8 k9 k10 k11 k12 k13 z5 d5 z6 d6 z7 d7 z8 d8 z9 d9 z10 d10 z11 d11 z12 d12 HO3 BS3 F3 HM3;have z0:=BS4.out.cell 0;simp at z0;obtain ⟨A6,hA6⟩:=nm (some ⟨gr,0,none⟩:Option Addr);obtain ⟨c6,hc6⟩:=nm (c2);obtain ⟨n6,hn6⟩:=nm (n);rw [<- hA6,<- hc6,<- hn6] at ND4 ⊢
  have FRS4 := zh (show ∀ ad, A6 = some ad -> w.heap.size <= ad.block from fun ad ha => by
   rw [hA6] at ha;injection ha with ha
   rw [<- ha]
   exact hwg)
  clear hA6 hc6 hn6;go_upto_region 34 with fail
 case' inr.inr.inr.inr.inr.inr.inr =>
  obtain ⟨m,hm⟩:∃ m,M[k]?=some m/\m.1=x:=by
   rw [HL.out] at hLk;simp only [fstN,List.getElem?_map,Option.map_eq_some_iff] at hLk;exact hLk
  obtain ⟨hm,hmx⟩:=hm;obtain ⟨x',tf,tp⟩:=m;simp only at hmx;subst hmx;have hid:x'.id=y.id:=findN_id hfn;have hkl:k < M.length:=(List.getElem?_eq_some_iff.1 hm).1;have hkn:(k:Int) < (n:Int):=(by have:=HNM.out;omega);have hk0:(0:Int)<=(k:Int):=(by omega);have hu:(idsN (fstN M)).Nodup:=(by rw [<- HL.out];exact HRT.out.uni);have HU:=zh hu;have HM:=zh hm;have HID:=zh hid;have HKL:=zh hkl;obtain ⟨b1,o1,hA1,hb1,hc1⟩:=ND2.out.get hm;subst hA1;have p1:=hc1 1 (.int .i64 x'.kind) rfl;rw [h3] at k0 HRC;subst h3;clear hLk hm hid hkl hc1 hu
  by_cases hx1:x'.kind=2
  case' neg =>
   have HR1 := zh (show r = (11, []) by
    rw [HRR.out,HRC.out];unfold chgN endR;rw [hfn]
    simp [hx1])
   have hxb:=kd_ne hx1;clear hx1 hfn;go_wp2_with fail;go_ret2;rw [HR1.out];exact .inl ⟨by simp,rfl,F2.out⟩
  rw [hx1] at p1
  have HR5 := zh (show rc = (0, updN L y.id (frN y.fr)) by
   rw [HRC.out];unfold chgN;rw [hfn]
   simp [hx1])
  clear hx1 hfn;have F4:=zh (F2.out.trans ((Fr.refl w.heap.size [] w2).setCell (p:=⟨gr,k * 13+2,none⟩) (.inl hwg) (.slice Af nf cf)));have hf:fstN (M.set k (frN y.fr x',.slice Af nf cf,tp))=rc.2:=(by rw [HR5.out,HL.out];exact upd_here HU.out HM.out HID.out (frN y.fr) (.slice Af nf cf) tp);have hina:=(H.out.inn _ (List.mem_of_getElem? HM.out)).frw F4.out hB (by simp);have hinb:=HST.out.frw F4.out hB (by simp);have ND4:=zh (endg_set (c2:=c2) (L:=L) (s:=⟨5,y,rs⟩) (by rw [HR5.out]) H.out hB F4.out (Reads.of_own (nd_set (m':=(frN y.fr x',.slice Af nf cf,tp)) (u:=.slice Af nf cf) HO2.out HM.out (j:=2) (by omega) rfl)) ⟨hinb.fr,hina.pg⟩ hf HCAP.out (fun A n c e=>HCS.out A n c e) (HSM.out _ hf) hle2:Endg rc L ⟨5,y,rs⟩ w (w2.setCell ⟨gr,k * 13+2,none⟩ (.slice Af nf cf)) (some ⟨gr,0,none⟩) n c2 (M.set k (frN y.fr x',.slice Af nf cf,tp)));obtain ⟨M6,hM6⟩:=nm (M.set k (frN y.fr x',.slice Af nf cf,tp));have ORG4:=zh (show OrgN M y (.slice Af nf cf) (.slice Ap np cp) M6 from by rw [hM6];exact OrgN.set (List.mem_of_getElem? HM.out) (.inr ⟨rfl,rfl⟩) (.inl ⟨rfl,rfl⟩));rw [<- hM6] at ND4;clear hina hinb hf hM6;have z2:=HO2.out.frozenAt (k * 13+2);have c2':=nd_cell HO2.out HM.out 2 _ rfl;go_upto_region 34 with fail;generalize w2.setCell ⟨gr,k * 13+2,none⟩ (.slice Af nf cf)=w4 at *;clear k0 k1 k2 k3 k4 k5 k6 k7 k8 k9 k10 k11 k12 k13 k14 c2' z2 HO2 BS2 F2 IN2 RP2 ND2 p1;obtain ⟨A6,hA6⟩:=nm (some ⟨gr,0,none⟩:Option Addr);obtain ⟨c6,hc6⟩:=nm (c2);obtain ⟨n6,hn6⟩:=nm (n);rw [<- hA6,<- hc6,<- hn6] at ND4 ⊢
  have FRS4 := zh (show ∀ ad, A6 = some ad -> w.heap.size <= ad.block from fun ad ha => by
   rw [hA6] at ha;injection ha with ha
   rw [<- ha]
   exact hwg)
  clear hA6 hc6 hn6
 all_goals
  have F4:=zh ND4.out.fr;obtain ⟨cv2,hcv2⟩:=nm (checkN rc.2);have HCK2:=zh (by rw [hcv2,<- ND4.out.fst];exact rcheck_any A6 c6 w4.heap.size n6 M6 w4 ND4.out.nds (Nat.le_refl _) ND4.out.sml ND4.out.cap:Calls Tryz.prog 29 #[.slice A6 n6 c6] w4 fun e w'=>e=.returned (.int .i64 cv2)/\Fr w4.heap.size [] w4 w');have HRE:=zh (show r=if cv2 ≠ 0 then (cv2,[]) else (0,rc.2) by rw [HRR.out,hcv2];unfold endR;rw [if_neg (by rw [ND4.out.zero];simp)]);have HCV2:=zh hcv2;clear hcv2;go_wp2_with fail;refine HCK2.out.mono ?_;rintro e w6 ⟨rfl,f6⟩;have F6:=zh (F4.out.nx f6);have ND6:=zh ((ND4.out.nds.frw f6 (Nat.le_refl _) (by simp)).more f6.size);have HFS:=zh ND4.out.fst;have HCP:=zh ND4.out.cap;have hle6:=ND4.out.le;clear f6 HCK2 ND4 F4
  by_cases hc2:cv2=0
  · subst hc2;have HR1:=zh (show r=(0,rc.2) by rw [HRE.out];rfl);clear HRE;go_wp2_with fail;go_ret2;rw [HR1.out];exact .inr ⟨rfl,A6,c6,n6,M6,rfl,ND6.out,HFS.out,HCP.out,hle6,checkN_zero.1 HCV2.out.symm,ORG4.out,FRS4.out,F6.out⟩
  · have HR1:=zh (show r=(cv2,[]) by rw [HRE.out,if_pos hc2]);have hcb:=kd_ne hc2;have HC2:=zh hc2;clear HRE hc2;go_wp2_with fail;go_ret2;rw [HR1.out];exact .inl ⟨HC2.out,rfl,F6.out⟩
def RApC (M0:List Ndm) (S:List Stm) (r:Int × Nat × List Nd) (w:World) (e:Ending) (w':World):Prop :=
 (r.1 ≠ 0/\e=.returned (.tuple #[.slice none 0 0,.int .i64 (r.2.1:Int),.int .i64 r.1])/\Fr w.heap.size [] w w') \/
 (r.1=0/\∃ A c n M,e=.returned (.tuple #[.slice A n c,.int .i64 0,.int .i64 0])/\Nds w' w'.heap.size A n M/\CapN M/\n<=c/\OrgS M0 S M/\(∀ ad,A=some ad->w.heap.size<=ad.block)/\fstN M=r.2.2/\RightG r.2.2/\Fr w.heap.size [] w w')
structure RGoJ (L:List Nd) (P:List Stp) (A:Option Addr) (c n:Nat) (w wr:World) (k:Nat) (Al:Option Addr) (nl cl:Nat) (Ml:List Ndm):Prop where
 fr:Fr w.heap.size [] w wr
 nds:Nds wr wr.heap.size Al nl Ml
 rt:RightG (fstN Ml)
 go:goR 0 L P=goR k (fstN Ml) (P.drop k)
 cap:CapN Ml
 le:nl<=cl
theorem RGoJ.next {L:List Nd} {P:List Stp} {A:Option Addr} {c n:Nat} {w wr w':World} {k:Nat} {Al:Option Addr} {nl cl:Nat} {Ml:List Ndm} (h:RGoJ L P A c n w wr k Al nl cl Ml) {s:Stp} (hs:P[k]?=some s) (h0:(stepR (fstN Ml) s).1=0)
  {A':Option Addr} {n' c':Nat} {M':List Ndm} (hn:Nds w' w'.heap.size A' n' M') (hcp:CapN M') (hle:n'<=c') (hf:fstN M'=(stepR (fstN Ml) s).2) (hrt:RightG (fstN M')) (hfr:Fr wr.heap.size [] wr w'):RGoJ L P A c n w w' (k+1) A' n' c' M':=by
 refine ⟨h.fr.nx hfr,hn,hrt,?_,hcp,hle⟩;rw [h.go]
 have hk:k < P.length:=by
  rcases Nat.lt_or_ge k P.length with h | h
  · exact h
  · rw [List.getElem?_eq_none h] at hs;cases hs
 have hd:P.drop k=s :: P.drop (k+1):=by
  rw [List.drop_eq_getElem_cons hk]
  congr 1
  rw [List.getElem?_eq_getElem hk] at hs;injection hs
 rw [hd]
 show (if (stepR (fstN Ml) s).1 ≠ 0 then _ else _)=_
 rw [if_neg (by rw [h0];simp),hf]
theorem RGoJ.stop {L:List Nd} {P:List Stp} {A:Option Addr} {c n:Nat} {w wr:World} {k:Nat} {Al:Option Addr} {nl cl:Nat} {Ml:List Ndm} (h:RGoJ L P A c n w wr k Al nl cl Ml) {s:Stp} (hs:P[k]?=some s) (h0:(stepR (fstN Ml) s).1 ≠ 0):goR 0 L P=((stepR (fstN Ml) s).1,k+1,[]):=by
 rw [h.go]
 have hk:k < P.length:=by
  rcases Nat.lt_or_ge k P.length with h | h
  · exact h
  · rw [List.getElem?_eq_none h] at hs;cases hs
 have hd:P.drop k=s :: P.drop (k+1):=by
  rw [List.drop_eq_getElem_cons hk]
  congr 1
  rw [List.getElem?_eq_getElem hk] at hs;injection hs
 rw [hd]
 show (if (stepR (fstN Ml) s).1 ≠ 0 then _ else _)=_
 rw [if_pos h0]
theorem rapply_cap (A A2:Option Addr) (c c2 B n n2:Nat) (M:List Ndm) (S:List Stm) (w:World) (h:Nds w B A n M) (hB:B<=w.heap.size) (hs:Small M) (hS:Sts w B A2 n2 S) (hss:SmallS S) (hn2:n2<=1000000) (hcap:CapN M) (hnc:n<=c) (hcs:∀ m ∈ S,∀ A n c,m.2.1=.slice A n c->n<=c) :
  Calls Tryz.prog 100 #[.slice A n c,.slice A2 n2 c2] w (RApC M S (applyR (fstN M) (fstS S)) w):=by
 obtain ⟨L,hL⟩:=nm (fstN M);obtain ⟨P,hP⟩:=nm (fstS S);obtain ⟨cv,hcv⟩:=nm (checkN L);obtain ⟨r,hr⟩:=nm (applyR L P);rw [<- hL,<- hP,<- hr];have hpl:P.length=n2:=(by rw [hP,hS.num];simp [fstS]);have HCK:=zh (by rw [hcv,hL];exact rcheck_any A c B n M w h hB hs hcap:Calls Tryz.prog 29 #[.slice A n c] w fun e w'=>e=.returned (.int .i64 cv)/\Fr w.heap.size [] w w');have HR:=zh hr;have HCV:=zh hcv;have HL:=zh hL;have HP:=zh hP;have HPL:=zh hpl;have H:=zh h;have HSS:=zh hss;have HST:=zh hS;have HNU:=zh hS.num;have HCP:=zh hcap;have HCS:=zh hcs;clear hr hcv hL hP h hs hS hss hpl hcap hcs;go_enter Tryz.func100,Tryz.ntmps100;go_wp2_with fail;refine HCK.out.mono ?_;rintro e w1 ⟨rfl,f1⟩;have F1:=zh f1;clear f1 HCK
 by_cases hc:cv=0
 case' neg =>
  have HR1:=zh (show r=(10,0,[]) by rw [HR.out];unfold applyR;rw [if_pos (by rw [<- HCV.out];exact hc)]);have hcb:=kd_ne hc;clear hc;go_wp2_with fail;go_ret3;rw [HR1.out];exact .inl ⟨by simp,rfl,F1.out⟩
 subst hc
 by_cases hk1:n2 < 1 \/ 6 < n2
 case' pos =>
  have HR1:=zh (show r=(11,0,[]) by rw [HR.out];unfold applyR;rw [if_neg (by rw [<- HCV.out];simp),if_pos (by rw [HPL.out];exact hk1)])
  rcases hk1 with hk1 | hk1
  ·
   obtain rfl:n2=0:=by omega
   go_wp2_with fail;go_ret3;rw [HR1.out];exact .inl ⟨by simp,rfl,F1.out⟩
  ·
   have hk2:¬ ((n2:Int) < 1):=by omega
   have hk3:(6:Int) < (n2:Int):=(by omega);go_wp2_with fail;go_ret3;rw [HR1.out];exact .inl ⟨by simp,rfl,F1.out⟩
 have hka:¬ ((n2:Int) < 1):=(by omega);have hkb:¬ ((6:Int) < (n2:Int)):=(by omega);have hn2p:0 < n2:=(by omega);have hright:RightG L:=checkN_zero.1 HCV.out.symm;have J0:=zh (show RGoJ L P A c n w w1 0 A n c M from ⟨F1.out,((H.out.frw F1.out hB (by simp)).more (Nat.le_trans hB F1.out.size)),by rw [<- HL.out];exact hright,by rw [<- HL.out];rfl,HCP.out,hnc⟩);have HRR:=zh (show r=goR 0 L P by rw [HR.out];unfold applyR;rw [if_neg (by rw [<- HCV.out];simp),if_neg (by rw [HPL.out];exact hk1)]);clear hright HR HCV hk1;go_wp2_with fail;go_loopg [0,7] n2 (fun g s0 s7 wr=>∃ (k:Nat) (Al:Option Addr) (nl cl:Nat) (Ml:List Ndm),k<=n2/\g=n2 - k/\s7=.int .i64 k/\s0=.slice Al nl cl/\Hid (RGoJ L P A c n w wr k Al nl cl Ml)/\Hid (OrgS M S Ml)/\Hid (0 < k -> ∀ ad,Al=some ad->w.heap.size<=ad.block))
 case atStart=>exact ⟨0,A,n,c,M,Nat.zero_le _,rfl,rfl,rfl,J0,zh (OrgS.refl M S),zh (fun h=>absurd h (by omega))⟩
 case round =>
  clear J0 F1;obtain ⟨k,Al,nl,cl,Ml,hk,rfl,rfl,rfl,J,OG,FR0⟩:=hrel
  by_cases hkn:k < n2
  ·
   have hki:(k:Int) < (n2:Int):=by omega
   have hk0:(0:Int)<=(k:Int):=(by omega);obtain ⟨m,hx⟩:∃ m,S[k]?=some m:=⟨_,List.getElem?_eq_getElem (by rw [<- HNU.out];exact hkn)⟩;have HSW:=HST.out.frw J.out.fr hB (by simp);obtain ⟨b1,o1,rfl,hb1,hc1⟩:=HSW.get hx;have hin:=HSW.inn m (List.mem_of_getElem? hx);have hsm:=HSS.out m (List.mem_of_getElem? hx);have HPK:=zh (show P[k]?=some m.1 by rw [HP.out];simp [fstS,hx]);obtain ⟨⟨kd,y,rs⟩,sf,sp⟩:=m;simp only at hin hsm HPK;obtain ⟨⟨Af,cf,hf1,hf2⟩,⟨Ap,cp,hp1,hp2⟩⟩:=hin;simp only at hf1 hp1 hf2 hp2;subst hf1;subst hp1;have hin2:NdIn wr B (y,.slice Af y.fr.length cf,.slice Ap y.pg.length cp):=⟨⟨Af,cf,rfl,hf2⟩,⟨Ap,cp,rfl,hp2⟩⟩;clear hf2 hp2;obtain ⟨nf,hnf⟩:=nm (y.fr.length);obtain ⟨np,hnp⟩:=nm (y.pg.length);rw [<- hnf,<- hnp] at hin2 hc1;have p0:=hc1 0 (.int .i64 kd) rfl;have p1:=hc1 1 (.int .i64 y.id) rfl;have p2:=hc1 2 (.int .i64 y.kind) rfl;have p3:=hc1 3 (.slice Af nf cf) rfl;have p4:=hc1 4 (.slice Ap np cp) rfl;have p5:=hc1 5 (.int .i64 y.par) rfl;have p6:=hc1 6 (.int .i64 (y.rt 0)) rfl;have p7:=hc1 7 (.int .i64 (y.rt 1)) rfl;have p8:=hc1 8 (.int .i64 (y.rt 2)) rfl;have p9:=hc1 9 (.int .i64 (y.rt 3)) rfl;have p10:=hc1 10 (.int .i64 (y.rt 4)) rfl;have p11:=hc1 11 (.int .i64 (y.rt 5)) rfl;have p12:=hc1 12 (.int .i64 (y.rt 6)) rfl;have p13:=hc1 13 (.int .i64 (y.rt 7)) rfl;have p14:=hc1 14 (.bool rs) rfl;simp only [Nat.add_zero] at p0;have HIN:=zh hin2;have HXM:=zh (List.mem_of_getElem? hx);have HSM:=zh hsm;clear hc1 HSW hsm hin2;have hcs1:=HCS.out _ (List.mem_of_getElem? hx);simp only at hcs1;rw [<- hnf] at hcs1;obtain ⟨sr,hsr⟩:=nm (stepR (fstN Ml) ⟨kd,y,rs⟩);have HPS:=zh (by rw [hsr];exact rstep_org Al cl wr.heap.size nl Ml ⟨kd,y,rs⟩ (.slice Af nf cf) (.slice Ap np cp) wr J.out.nds (Nat.le_refl _) (small_right J.out.rt) J.out.cap (HIN.out.more (Nat.le_trans hB J.out.fr.size)) HSM.out.1 HSM.out.2 (right_small J.out.rt) hcs1 J.out.le:Calls Tryz.prog 148 #[.slice Al nl cl,.agg (stA kd y rs (.slice Af nf cf) (.slice Ap np cp))] wr (RStO Ml y (.slice Af nf cf) (.slice Ap np cp) sr wr));have HSR:=zh hsr;have HNFP:=zh (And.intro hnf hnp);clear hsr hb1 hx hnf hnp hcs1;go_wp2_with fail;refine HPS.out.mono ?_;rintro e w2 (⟨e1,rfl,f2⟩ | ⟨e1,A',c',n',M',rfl,hn',hf',hcp',hle',hrt',horg',hfr',f2⟩)
   · have F2:=zh (J.out.fr.nx f2);have HR1:=zh (show r=(sr.1,k+1,[]) by rw [HRR.out,J.out.stop HPK.out (by rw [<- HSR.out];exact e1),<- HSR.out]);have E1:=zh e1;have hcb:=kd_ne e1;have hwk:IntKind.i64.wrap ((k:Int)+1)=(k:Int)+1:=(by rw [IntKind.wrap_i64];omega);clear f2 e1 HPS J;go_wp2_with fail;go_ret3;rw [HR1.out];exact .inl ⟨E1.out,by simp,F2.out⟩
   ·
    have J2:=zh (J.out.next HPK.out (by rw [<- HSR.out];exact e1) hn' hcp' hle' (by rw [hf',HSR.out]) (by rw [hf'];exact hrt') f2);have OG2:=zh (OG.out.step (y:=y) HXM.out rfl (by rw [HNFP.out.1,HNFP.out.2] at horg';exact horg'));have FR2:=zh (fun (_:0 < k+1) ad ha=>Nat.le_trans J.out.fr.size (hfr' ad ha));clear hn' hf' f2 HPS J e1 hcp' hle' hrt' horg' OG hfr' FR0;go_wp2_with fail;go_roundg (n2 - (k+1))
    case measure=>omega
    case rel=>exact ⟨k+1,A',n',c',M',by omega,rfl,by go_num,rfl,J2,OG2,FR2⟩
  ·
   obtain rfl:k=n2:=by omega
   have HR1 := zh (show r = (0, 0, fstN Ml) by
    rw [HRR.out,J.out.go,List.drop_eq_nil_of_le (by rw [HPL.out];exact Nat.le_refl _)]
    rfl)
   go_wp2_with fail;go_ret3;rw [HR1.out];exact .inr ⟨rfl,Al,cl,nl,Ml,rfl,J.out.nds,J.out.cap,J.out.le,OG.out,FR0.out hn2p,rfl,J.out.rt,J.out.fr⟩
end Go.Proofs.YtlejomlppjpchaaGreat
