/- Texts merged into one, for the number of files a claim may have: CtA, CtB, CtP, TellB. -/
import Derived.Test.YtgblfflikgnfpaaGreatTY4
import Derived.Test.YtgblfflikgnfpaaGreatTY5
import Derived.Test.YtgblfflikgnfpaaGreatTY9
import Derived.Laws.EntriesVeiled
namespace Go.Proofs.YtgblfflikgnfpaaGreat
open Go.RowKit Go.Fb
set_option maxRecDepth 100000
set_option maxHeartbeats 16000000
set_option linter.unusedVariables false
theorem valcmp_d (d:Nat) (a b c e:Int) (w:World):(Op.equalIn (d+2) 30 (.agg #[.int .i64 a,.int .i64 b]) (.agg #[.int .i64 c,.int .i64 e])).run Tryz.prog w=.ok (a == c && b == e) w:=by
 rw [run_equalIn_struct w (d+1) 30 _ _ (by kernel_rfl) (by kernel_rfl)];simp [Program.fieldsOf,Tryz.underlying30]
 by_cases h1:a=c
 · by_cases h2:b=e <;> simp [Op.eqFields,part,isAgg,run_underlying Tryz.underlying3,run_equalIn_int w d 3 .i64 .i64 _ _ Tryz.underlying3,h1,h2]
 · simp [Op.eqFields,part,isAgg,run_underlying Tryz.underlying3,run_equalIn_int w d 3 .i64 .i64 _ _ Tryz.underlying3,h1]
theorem cv_beq (x y:CV):((x.1 == y.1 && x.2.1 == y.2.1) && (x.2.2.1 == y.2.2.1 && x.2.2.2 == y.2.2.2))=decide (x=y):=by
 obtain ⟨a,b,c,d⟩:=x;obtain ⟨a',b',c',d'⟩:=y;rw [Bool.eq_iff_iff];simp [and_assoc]
theorem cv_eqd (d:Nat) (x y:CV) (w:World):(Op.equalIn (d+3) 94 (cvV x) (cvV y)).run Tryz.prog w=.ok (decide (x=y)) w:=by
 obtain ⟨i,hi,hz,hsz,hby⟩:=info_parts valinfo;rw [run_equalIn_array w (d+2) _ _ Tryz.underlying94 hi];have hc:Tryz.prog.cellsOf 30=2:=(by kernel_rfl);have hsO:∀ w,(sizeOf 30).run Tryz.prog w=.ok 2 w:=fun w=>by kernel_rfl
 have p0:∀ (z:CV) w,(part 30 #[.int .i64 z.1,.int .i64 z.2.1,.int .i64 z.2.2.1,.int .i64 z.2.2.2] 0).run Tryz.prog w=.ok (.agg #[.int .i64 z.1,.int .i64 z.2.1]) w:=fun z w=>by
  simp [part,isAgg,run_underlying Tryz.underlying30,hsO]
 have p1:∀ (z:CV) w,(part 30 #[.int .i64 z.1,.int .i64 z.2.1,.int .i64 z.2.2.1,.int .i64 z.2.2.2] 2).run Tryz.prog w=.ok (.agg #[.int .i64 z.2.2.1,.int .i64 z.2.2.2]) w:=fun z w=>by
  simp [part,isAgg,run_underlying Tryz.underlying30,hsO]
 have key:∀ v1 v2:Bool,(x.1 == y.1 && x.2.1 == y.2.1)=v1->(x.2.2.1 == y.2.2.1 && x.2.2.2 == y.2.2.2)=v2->(Op.eqItems (d+2) 30 2 #[.int .i64 x.1,.int .i64 x.2.1,.int .i64 x.2.2.1,.int .i64 x.2.2.2] #[.int .i64 y.1,.int .i64 y.2.1,.int .i64 y.2.2.1,.int .i64 y.2.2.2] [0,1]).run Tryz.prog w=.ok (v1 && v2) w:=by
  intro v1 v2 h1 h2;have e1:=valcmp_d d x.1 x.2.1 y.1 y.2.1 w;have e2:=valcmp_d d x.2.2.1 x.2.2.2 y.2.2.1 y.2.2.2 w;rw [h1] at e1;rw [h2] at e2
  cases v1 <;> cases v2 <;> simp [Op.eqItems,p0,p1,e1,e2]
 have k:=key _ _ rfl rfl;rw [cv_beq] at k;simpa [hc,List.range_succ] using k
theorem cv_eq (x y:CV) (w:World):(binOp .eql 94 (cvV x) (cvV y)).run Tryz.prog w=.ok (.bool (decide (x=y))) w:=by
 simp [binOp,Op.equal,Op.maxDepth,cv_eqd]
def thereB (p:Pk):Bool:=decide (0<=p.1/\p.1 < 8/\0<=p.2/\p.2 < 64)
def cvB (c:CV):Bool:=valB c.1 c.2.1 && valB c.2.2.1 c.2.2.2
def setB2 (p:Pk) (c:CV):Bool:=thereB p && cvB c
theorem there_any (a k:Int) (w:World):Calls Tryz.prog 97 #[.int .i64 a,.int .i64 k] w fun e w'=>e=.returned (.bool (thereB (a,k)))/\w=w':=by
 obtain ⟨v,hv⟩:=nm (thereB (a,k));rw [<- hv];unfold thereB at hv;simp only at hv
 by_cases h1:0<=a
 ·
  by_cases h2:a < 8
  ·
   by_cases h3:0<=k
   ·
    by_cases h4:k < 64
    · rw [decide_eq_true ⟨h1,h2,h3,h4⟩] at hv;subst hv;go_enter Tryz.func97,Tryz.ntmps97;go_wp2_with fail;go_ret;exact ⟨rfl,rfl⟩
    · rw [decide_eq_false (fun h=>h4 h.2.2.2)] at hv;subst hv;go_enter Tryz.func97,Tryz.ntmps97;go_wp2_with fail;go_ret;exact ⟨rfl,rfl⟩
   · rw [decide_eq_false (fun h=>h3 h.2.2.1)] at hv;subst hv;go_enter Tryz.func97,Tryz.ntmps97;go_wp2_with fail;go_ret;exact ⟨rfl,rfl⟩
  · rw [decide_eq_false (fun h=>h2 h.2.1)] at hv;subst hv;go_enter Tryz.func97,Tryz.ntmps97;go_wp2_with fail;go_ret;exact ⟨rfl,rfl⟩
 · rw [decide_eq_false (fun h=>h1 h.1)] at hv;subst hv;go_enter Tryz.func97,Tryz.ntmps97;go_wp2_with fail;go_ret;exact ⟨rfl,rfl⟩
structure CT (w:World) (gt gm:Nat) (T:Pk->CV):Prop where
 bk:Blk w gt 212 #[.map (some gm)]
 mp:KMap w gm T
theorem CT.fr {w w':World} {gt gm B:Nat} {L:List Nat} {T:Pk->CV} (h:CT w gt gm T) (hf:Fr B L w w') (h1:gt < B) (h2:gt ∉ L) (h3:gm < B) (h4:gm ∉ L):CT w' gt gm T:=⟨h.bk.fr hf h1 h2,h.mp.fr hf h3 h4⟩
theorem CT.keep {w w':World} {gt gm:Nat} {T:Pk->CV} (h:CT w gt gm T) (hf:Fr w.heap.size [] w w'):CT w' gt gm T:=h.fr hf h.bk.lt (by simp) h.mp.lt (by simp)
def SetOut (gt gm:Nat) (T:Pk->CV) (p:Pk) (c:CV) (w:World) (e:Ending) (w':World):Prop :=
 e=.returned (.int .i64 (if setB2 p c then 0 else 1))/\CT w' gt gm (if setB2 p c then updT T p c else T)/\Fr w.heap.size [gm] w w'
theorem ctset_any (gt gm:Nat) (T:Pk->CV) (p:Pk) (c:CV) (w:World) (h:CT w gt gm T) :
  Calls Tryz.prog 93 #[.pointer (some ⟨gt,0,none⟩),.int .i64 p.1,.int .i64 p.2,cvV c] w (SetOut gt gm T p c w):=by
 have HT:=zh (there_any p.1 p.2);have HG1:=zh (gright_any c.1 c.2.1);have HG2:=zh (gright_any c.2.2.1 c.2.2.2);have BC:=zh (Blk.new w 94 #[.int .i64 c.1,.int .i64 c.2.1,.int .i64 c.2.2.1,.int .i64 c.2.2.2]);have fa:=(Fr.refl w.heap.size [] w).alloc (Nat.le_refl _) (.cells #[.int .i64 c.1,.int .i64 c.2.1,.int .i64 c.2.2.1,.int .i64 c.2.2.2] 94);have FA:=zh fa;have HCT:=zh (h.keep fa);obtain ⟨w0,hw0⟩:=nm (w.alloc (.cells #[.int .i64 c.1,.int .i64 c.2.1,.int .i64 c.2.2.1,.int .i64 c.2.2.2] 94));rw [<- hw0] at BC FA HCT;obtain ⟨g,hg⟩:=nm (w.heap.size);rw [<- hg] at BC;have HG:=zh hg;have HW0:=zh hw0;have hlm:=h.mp.lt;clear h fa hg hw0;obtain ⟨vt,hvt⟩:=nm (thereB p);obtain ⟨v1,hv1⟩:=nm (valB c.1 c.2.1);obtain ⟨v2,hv2⟩:=nm (valB c.2.2.1 c.2.2.2);have hS:setB2 p c=(vt && (v1 && v2)):=(by unfold setB2 cvB;rw [<- hvt,<- hv1,<- hv2]);rw [show thereB (p.1,p.2)=vt from hvt.symm] at HT;rw [<- hv1] at HG1;rw [<- hv2] at HG2;clear hvt hv1 hv2;go_enter Tryz.func93,Tryz.ntmps93;go_upto_region 2 with fail;rw [<- HW0.out,<- HG.out];have q0:=BC.out.cell 0;have q1:=BC.out.cell 1;have q2:=BC.out.cell 2;have q3:=BC.out.cell 3;simp at q0 q1 q2 q3;go_wp2_with fail;refine (HT.out _).mono ?_;rintro e w1 ⟨rfl,rfl⟩
 cases vt with
 | false =>
  go_wp2_with fail;go_ret;rw [Bool.false_and] at hS;exact ⟨by rw [hS];rfl,by rw [hS];exact HCT.out,FA.out.mono (by simp) (by simp)⟩
 | true => ?_
 rw [Bool.true_and] at hS;go_wp2_with fail;refine (HG1.out _).mono ?_;rintro e w1 ⟨rfl,f1⟩;have F1:=zh (FA.out.nx f1);have HC1:=zh (HCT.out.keep f1);have BC1:=zh (BC.out.fr f1 BC.out.lt (by simp));clear f1 q0 q1 q2 q3 HCT FA BC;have q0:=BC1.out.cell 0;have q1:=BC1.out.cell 1;have q2:=BC1.out.cell 2;have q3:=BC1.out.cell 3;simp at q0 q1 q2 q3
 cases v1 with
 | false =>
  go_wp2_with fail;go_ret;rw [Bool.false_and] at hS;exact ⟨by rw [hS];rfl,by rw [hS];exact HC1.out,F1.out.mono (by simp) (by simp)⟩
 | true => ?_
 rw [Bool.true_and] at hS;go_wp2_with fail;refine (HG2.out _).mono ?_;rintro e w2 ⟨rfl,f2⟩;have F2:=zh (F1.out.nx f2);have HC2:=zh (HC1.out.keep f2);have BC2:=zh (BC1.out.fr f2 BC1.out.lt (by simp));clear f2 q0 q1 q2 q3 HC1 F1 BC1;have q0:=BC2.out.cell 0;have q1:=BC2.out.cell 1;have q2:=BC2.out.cell 2;have q3:=BC2.out.cell 3;simp at q0 q1 q2 q3
 cases v2 with
 | false =>
  go_wp2_with fail;go_ret;exact ⟨by rw [hS];rfl,by rw [hS];exact HC2.out,F2.out.mono (by simp) (by simp)⟩
 | true => ?_
 have t0:=HC2.out.bk.cell 0;simp at t0;have HS:=zh hS;clear hS
 by_cases hc:c=c0
 · have hcmp:=fun w=>cv_eq c c0 w;rw [decide_eq_true hc] at hcmp;obtain ⟨w3,hdel,hm3,f3,hs3⟩:=HC2.out.mp.del p;have HM3:=zh hm3;have F3:=zh f3;have HC:=zh hc;clear hc hm3 f3 hs3;simp only [c0,pkV,cvV] at hcmp hdel;go_wp2_with fail;go_ret;have hgt:gt < w2.heap.size:=HC2.out.bk.lt;refine ⟨by rw [HS.out];rfl,?_,(F2.out.mono (by simp) (by simp)).trans (F3.out.mono F2.out.size (by simp))⟩;rw [if_pos HS.out,HC.out];exact ⟨HC2.out.bk.fr F3.out hgt (by simp only [List.mem_singleton];exact fun e=>HC2.out.mp.ne HC2.out.bk e.symm),HM3.out⟩
 ·
  have hcmp:=fun w=>cv_eq c c0 w;rw [decide_eq_false hc] at hcmp;simp only [c0,cvV] at hcmp;have HC:=zh hc;clear hc;go_wp2_with fail;have HSD:KMap w2.drew gm T:=HC2.out.mp.fr (Fr.refl w2.heap.size [] w2).drew HC2.out.mp.lt (by simp);obtain ⟨w3,hst,hm3,f3,hs3⟩:=HSD.store p c HC.out;have HM3:=zh hm3;have F3:=zh f3;have td:w2.drew.cell? ⟨gt,0,none⟩=some (.map (some gm)):=t0;clear hm3 f3 hs3 HSD;simp only [pkV,cvV] at hst;go_region_with fail
  all_goals
   go_wp2_with fail;go_ret;have hgt:gt < w2.heap.size:=HC2.out.bk.lt;refine ⟨by rw [HS.out];rfl,?_,(F2.out.drew.mono (by simp) (by simp)).trans (F3.out.mono F2.out.size (by simp))⟩;rw [if_pos HS.out];exact ⟨(HC2.out.bk.drew).fr F3.out hgt (by simp only [List.mem_singleton];exact fun e=>HC2.out.mp.ne HC2.out.bk e.symm),HM3.out⟩
def entP (x:Nat->Int):Pk:=(x 0,x 1)
def entV (x:Nat->Int):CV:=(x 2,x 3,x 4,x 5)
def putT (T:Pk->CV) (x:Nat->Int):Pk->CV:=updT T (entP x) (entV x)
def tabL (l:List (Nat->Int)):Pk->CV:=l.foldl putT (fun _=>c0)
def okE (x:Nat->Int):Bool:=setB2 (entP x) (entV x)
theorem tabL_snoc (l:List (Nat->Int)) (x:Nat->Int):tabL (l ++ [x])=updT (tabL l) (entP x) (entV x):=by unfold tabL;rw [List.foldl_append];rfl
def CNewOut (l:List (Nat->Int)) (w:World) (e:Ending) (w':World):Prop :=
 (l.all okE=false/\e=.returned (.tuple #[.pointer none,.int .i64 1])/\Fr w.heap.size [] w w') \/
 (l.all okE=true/\e=.returned (.tuple #[.pointer (some ⟨w.heap.size+1,0,none⟩),.int .i64 0])/\CT w' (w.heap.size+1) w.heap.size (tabL l)/\Fr w.heap.size [] w w')
theorem cnew_any (A:Option Addr) (n c B:Nat) (l:List (Nat->Int)) (w:World) (hl:n=l.length) (hn:n<=1000000) (hr:Reads w B 6 A n (cellsE l)) (hB:B<=w.heap.size) :
  Calls Tryz.prog 57 #[.slice A n c] w (CNewOut l w):=by
 have HR:=zh hr;have HN:=zh hl;have hmm:=@run_makeMap Tryz.prog;have K0:=(KMap.new w).fr ((Fr.refl (w.heap.size+1) [] (w.alloc (.map #[] 0))).alloc (by simp) (.cells #[.map (some w.heap.size)] 212)) (Nat.lt_succ_self _) (by simp);have B0:=Blk.new (w.alloc (.map #[] 0)) 212 #[.map (some w.heap.size)];rw [World.size_alloc] at B0;have C0:=zh (CT.mk B0 K0);have F0:=zh (((Fr.refl w.heap.size [] w).alloc (Nat.le_refl _) (.map #[] 0)).alloc (by simp) (.cells #[.map (some w.heap.size)] 212));obtain ⟨w0,hw0⟩:=nm ((w.alloc (.map #[] 0)).alloc (.cells #[.map (some w.heap.size)] 212));rw [<- hw0] at C0 F0;have HW0:=zh hw0;clear hr hl K0 B0 hw0;go_enter Tryz.func57,Tryz.ntmps57;go_upto_region 3 with fail;rw [<- HW0.out];clear hmm;go_loopg [6,7,13] n (fun g s6 s7 s13 wr=>∃ k:Nat,k<=n/\g=n - k/\s13=.int .i64 k/\(s6=undef \/ ∃ a,s6=.pointer a)/\Hid ((l.take k).all okE=true)/\Hid (CT wr (w.heap.size+1) w.heap.size (tabL (l.take k)))/\Hid (Fr w.heap.size [] w wr))
 case atStart=>exact ⟨0,Nat.zero_le _,rfl,rfl,.inl rfl,zh rfl,C0,F0⟩
 case round =>
  obtain ⟨k,hk,rfl,rfl,hs6,HA,C,F⟩:=hrel
  by_cases hkn:k < n
  ·
   have hki:(k:Int) < (n:Int):=by omega
   obtain ⟨x,hx⟩:∃ x,l[k]?=some x:=⟨_,List.getElem?_eq_getElem (by rw [<- HN.out];exact hkn)⟩;obtain ⟨b,off,rfl,hb,hc⟩:=reads_ent (by rw [<- HN.out];exact HR.out.fr F.out hB (by simp)) hx;have p0:=hc 0 (by omega);have p1:=hc 1 (by omega);have p2:=hc 2 (by omega);have p3:=hc 3 (by omega);have p4:=hc 4 (by omega);have p5:=hc 5 (by omega);simp only [Nat.add_zero,<- Nat.add_assoc] at p0 p1 p2 p3 p4 p5;have htk:l.take (k+1)=l.take k ++ [x]:=(by rw [List.take_add_one,hx];rfl);have HTK:=zh htk;have HAL:=zh (List.mem_of_getElem? hx);clear hc hx htk;have BX:=zh (Blk.new wr 96 #[.int .i64 (x 0),.int .i64 (x 1),.int .i64 (x 2),.int .i64 (x 3),.int .i64 (x 4),.int .i64 (x 5)]);have F1:=zh (F.out.alloc F.out.size (.cells #[.int .i64 (x 0),.int .i64 (x 1),.int .i64 (x 2),.int .i64 (x 3),.int .i64 (x 4),.int .i64 (x 5)] 96));have C1:=zh (C.out.keep ((Fr.refl wr.heap.size [] wr).alloc (Nat.le_refl _) (.cells #[.int .i64 (x 0),.int .i64 (x 1),.int .i64 (x 2),.int .i64 (x 3),.int .i64 (x 4),.int .i64 (x 5)] 96)));go_upto_region 5 with fail;generalize wr.alloc _=wa at *;have HS:=zh (ctset_any (w.heap.size+1) w.heap.size (tabL (l.take k)) (x 0,x 1) (x 2,x 3,x 4,x 5) wa C1.out:Calls Tryz.prog 93 #[.pointer (some ⟨w.heap.size+1,0,none⟩),.int .i64 (x 0),.int .i64 (x 1),.agg #[.int .i64 (x 2),.int .i64 (x 3),.int .i64 (x 4),.int .i64 (x 5)]] wa (SetOut (w.heap.size+1) w.heap.size (tabL (l.take k)) (x 0,x 1) (x 2,x 3,x 4,x 5) wa));have x0:=BX.out.cell 0;have x1:=BX.out.cell 1;have x2:=BX.out.cell 2;have x3:=BX.out.cell 3;have x4:=BX.out.cell 4;have x5:=BX.out.cell 5;simp at x0 x1 x2 x3 x4 x5;clear p0 p1 p2 p3 p4 p5;go_wp2_with fail
   with_reducible refine HS.out.mono ?_
   rintro e w' ⟨rfl,C2,f2⟩;have F2:=zh (F1.out.nx f2);have C2:=zh C2;clear f2 HS
   rcases Bool.eq_false_or_eq_true (setB2 (x 0,x 1) (x 2,x 3,x 4,x 5)) with hs | hs
   ·
    rw [if_pos hs] at C2;have HA2:=zh (show (l.take (k+1)).all okE=true by rw [HTK.out,List.all_append,HA.out];simp [okE,entP,entV,hs]);rw [show updT (tabL (l.take k)) (x 0,x 1) (x 2,x 3,x 4,x 5)=tabL (l.take (k+1)) by rw [HTK.out,tabL_snoc];rfl] at C2;have hs2:setB2 (x 0,x 1) (x 2,x 3,x 4,x 5)=true:=hs;rw [if_pos hs2];clear hs hs2;go_wp2_with fail;go_roundg (n - (k+1))
    case measure=>omega
    case rel=>exact ⟨k+1,by omega,rfl,by go_num,.inr ⟨_,rfl⟩,HA2,C2,F2⟩
   ·
    have HB := zh (show l.all okE = false by
     rw [Bool.eq_false_iff];intro h;have:=List.all_eq_true.1 h x HAL.out;unfold okE entP entV at this;rw [hs] at this
     cases this)
    have hs2:¬ setB2 (x 0,x 1) (x 2,x 3,x 4,x 5)=true:=(by rw [show setB2 (x 0,x 1) (x 2,x 3,x 4,x 5)=false from hs];simp);rw [if_neg hs2];clear hs hs2;go_wp2_with fail;go_ret2;exact .inl ⟨HB.out,rfl,F2.out⟩
  ·
   obtain rfl:n=k:=by omega
   go_wp2_with fail;go_ret2;have h1:=HA.out;have h2:=C.out;rw [List.take_of_length_le (by rw [HN.out];exact Nat.le_refl _)] at h1 h2;exact .inr ⟨h1,rfl,h2,F.out⟩
end Go.Proofs.YtgblfflikgnfpaaGreat
namespace Go.Proofs.YtgblfflikgnfpaaGreat
open Go.RowKit Go.Fb
set_option maxRecDepth 100000
set_option maxHeartbeats 16000000
set_option linter.unusedVariables false
theorem rises_uniq {α:Type} (f:α->Int):∀ {A B:List α},A.Pairwise (fun a b=>f a < f b)->B.Pairwise (fun a b=>f a < f b)->(∀ x,x ∈ A ↔ x ∈ B)->A=B
 | [],[],_,_,_=>rfl
 | [],b :: B,_,_,h=>absurd ((h b).2 (by simp)) (by simp)
 | a :: A,[],_,_,h=>absurd ((h a).1 (by simp)) (by simp)
 | a :: A,b :: B,ha,hb,h=>by
  obtain ⟨a1,a2⟩:=List.pairwise_cons.1 ha;obtain ⟨b1,b2⟩:=List.pairwise_cons.1 hb
  have hab:a=b:=by
   rcases List.mem_cons.1 ((h a).1 (by simp)) with e | e
   · exact e
   ·
    rcases List.mem_cons.1 ((h b).2 (by simp)) with e' | e'
    · exact e'.symm
    · have:=b1 a e;have:=a1 b e';omega
  subst hab
  congr 1
  refine rises_uniq f a2 b2 fun x=>⟨fun hx => ?_,fun hx => ?_⟩
  ·
   rcases List.mem_cons.1 ((h x).1 (List.mem_cons_of_mem _ hx)) with e | e
   · subst e;have:=a1 x hx;omega
   · exact e
  ·
   rcases List.mem_cons.1 ((h x).2 (List.mem_cons_of_mem _ hx)) with e | e
   · subst e;have:=b1 x hx;omega
   · exact e
def entF (p:Pk) (c:CV):Nat->Int:=fun j=>if j=0 then p.1 else if j=1 then p.2 else if j=2 then c.1 else if j=3 then c.2.1 else if j=4 then c.2.2.1 else c.2.2.2
def plcs:List Pk:=(List.range 512).map fun i=>(((i / 64:Nat):Int),((i % 64:Nat):Int))
def rankP (p:Pk):Int:=p.1 * 64+p.2
theorem plcs_rank:plcs.Pairwise (fun a b=>rankP a < rankP b):=by
 unfold plcs;rw [List.pairwise_map];refine List.Pairwise.imp ?_ List.pairwise_lt_range;intro a b h;unfold rankP;omega
theorem plcs_mem (p:Pk):p ∈ plcs ↔ thereB p=true:=by
 unfold plcs thereB;rw [decide_eq_true_iff,List.mem_map];constructor
 · rintro ⟨i,hi,rfl⟩;rw [List.mem_range] at hi;simp only;omega
 · rintro ⟨h1,h2,h3,h4⟩;refine ⟨(p.1 * 64+p.2).toNat,List.mem_range.2 (by omega),?_⟩;obtain ⟨a,b⟩:=p;simp only at *;have e:((a * 64+b).toNat:Int)=a * 64+b:=(by omega);have e1:(((a * 64+b).toNat / 64:Nat):Int)=a:=(by omega);have e2:(((a * 64+b).toNat % 64:Nat):Int)=b:=(by omega);rw [e1,e2]
def someT (q:Pk->Bool) (T:Pk->CV):List Pk:=plcs.filter fun p=>decide (T p ≠ c0) && q p
def someE (q:Pk->Bool) (T:Pk->CV):List (Nat->Int):=(someT q T).map fun p=>entF p (T p)
def allT (T:Pk->CV):List (Nat->Int):=someE (fun _=>true) T
theorem someT_mem {q:Pk->Bool} {T:Pk->CV} {p:Pk}:p ∈ someT q T ↔ thereB p=true/\T p ≠ c0/\q p=true:=by
 unfold someT;rw [List.mem_filter,plcs_mem,Bool.and_eq_true,decide_eq_true_iff]
theorem someT_rank (q:Pk->Bool) (T:Pk->CV):(someT q T).Pairwise (fun a b=>rankP a < rankP b):=plcs_rank.sublist List.filter_sublist
def TOk (T:Pk->CV):Prop:=∀ p,T p ≠ c0->thereB p=true/\cvB (T p)=true
theorem TOk.zero:TOk (fun _=>c0):=fun p h=>absurd rfl h
theorem TOk.upd {T:Pk->CV} (h:TOk T) {p:Pk} {c:CV} (hc:setB2 p c=true):TOk (updT T p c):=by
 intro q hq;unfold updT at hq ⊢;unfold setB2 at hc;rw [Bool.and_eq_true] at hc
 by_cases e:q=p
 · rw [if_pos e];subst e;exact hc
 · rw [if_neg e] at hq ⊢;exact h q hq
theorem tabL_ok:∀ (l:List (Nat->Int)) (T:Pk->CV),TOk T->(l.all okE=true)->TOk (l.foldl putT T)
 | [],T,h,_=>h
 | x :: l,T,h,ha=>by
  rw [List.all_cons,Bool.and_eq_true] at ha;exact tabL_ok l _ (h.upd ha.1) ha.2
structure TookK (es:Array MapEntry) (K K':List Pk) (seen:Array Nat):Prop where
 nd:K'.Nodup
 sub:∀ p ∈ K',p ∈ K
 all:∀ e ∈ es.toList,seen.contains e.born=true->∃ p ∈ K',e.key=pkV p
 back:∀ e ∈ es.toList,∀ p ∈ K',e.key=pkV p->seen.contains e.born=true
theorem TookK.start (es:Array MapEntry) (K:List Pk):TookK es K [] #[]:=⟨List.nodup_nil,by simp,by simp,by simp⟩
section
variable {T:Pk->CV} {es:Array MapEntry} {clock:Nat} {K K':List Pk} {seen:Array Nat}
theorem sameK:∀ {es:List MapEntry} {K:List Pk},es.map (fun e=>(e.key,e.val))=K.map (fun p=>(pkV p,cvV (T p)))->K.Nodup -> ∀ {e e':MapEntry},e ∈ es->e' ∈ es->e.key=e'.key->e=e'
 | [],_,_,_,_,_,h,_,_=>by cases h
 | x :: es,[],he,_,_,_,_,_,_=>by simp at he
 | x :: es,p :: K,he,hnd,e,e',h,h',hk=>by
  simp only [List.map_cons,List.cons.injEq,Prod.mk.injEq] at he;obtain ⟨⟨hx,_⟩,he⟩:=he;obtain ⟨hp,hnd⟩:=List.nodup_cons.1 hnd
  have far:∀ y ∈ es,y.key ≠ pkV p:=fun y hy hyp=>by
   have:(y.key,y.val) ∈ K.map (fun p=>(pkV p,cvV (T p))):=(by rw [<- he];exact List.mem_map.2 ⟨y,hy,rfl⟩);obtain ⟨q,hq,he2⟩:=List.mem_map.1 this;simp only [Prod.mk.injEq] at he2;have:q=p:=pkV_inj (he2.1.trans hyp);exact hp (this ▸ hq)
  rcases List.mem_cons.1 h with h1 | h1 <;> rcases List.mem_cons.1 h' with h2 | h2
  · rw [h1,h2]
  · subst h1;exact absurd (hk.symm.trans hx) (far _ h2)
  · subst h2;exact absurd (hk.trans hx) (far _ h1)
  · exact sameK (K:=K) he hnd h1 h2 hk
theorem entryK (he:Ents es clock K T) {e:MapEntry} (h:e ∈ es.toList):∃ p ∈ K,e.key=pkV p/\e.val=cvV (T p):=by
 have:(e.key,e.val) ∈ K.map (fun p=>(pkV p,cvV (T p))):=(by rw [<- he.kv];exact List.mem_map.2 ⟨e,h,rfl⟩);obtain ⟨p,hp,h2⟩:=List.mem_map.1 this;simp only [Prod.mk.injEq] at h2;exact ⟨p,hp,h2.1.symm,h2.2.symm⟩
theorem TookK.step (h:TookK es K K' seen) (he:Ents es clock K T) {e:MapEntry} (hel:e ∈ (leftOf es seen).toList) {p:Pk} (hp:p ∈ K) (hk:e.key=pkV p):TookK es K (K' ++ [p]) (seen.push e.born):=by
 have hes:e ∈ es.toList:=(mem_left hel).1
 have hns:seen.contains e.born=false:=by
  unfold leftOf at hel;rw [Array.mem_toList_iff,Array.mem_filter] at hel;simpa using hel.2
 have hpn:p ∉ K':=fun hc=>by rw [h.back e hes p hc hk] at hns;cases hns
 refine ⟨?_,fun q hq => ?_,fun y hy hs => ?_,fun y hy q hq hyq => ?_⟩
 · rw [List.nodup_append];exact ⟨h.nd,by simp,fun a ha b hb=>by rw [List.mem_singleton] at hb;subst hb;exact fun e=>hpn (e ▸ ha)⟩
 ·
  rcases List.mem_append.1 hq with hq | hq
  · exact h.sub q hq
  · rw [List.mem_singleton] at hq;subst hq;exact hp
 ·
  rw [contains_push] at hs
  cases hc:seen.contains y.born with
  | true =>
   obtain ⟨q,hq,hyq⟩:=h.all y hy hc;exact ⟨q,List.mem_append_left _ hq,hyq⟩
  | false =>
   rw [hc,Bool.false_or,beq_iff_eq] at hs
   have hye:y=e:=by
    have a:=find_born y es.toList he.born hy;have b:=find_born e es.toList he.born hes;rw [hs,b] at a;injection a with a
    exact a.symm
   subst hye;exact ⟨p,by simp,hk⟩
 ·
  rw [contains_push]
  rcases List.mem_append.1 hq with hq | hq
  · rw [h.back y hy q hq hyq,Bool.true_or]
  · rw [List.mem_singleton] at hq;subst hq;have:y=e:=sameK he.kv he.nd hy hes (hyq.trans hk.symm);subst this;simp
theorem TookK.done (h:TookK es K K' seen) (he:Ents es clock K T) (h0:(leftOf es seen).size=0):∀ p,p ∈ K' ↔ T p ≠ c0:=by
 refine fun p=>⟨fun hp=>(he.mem p).1 (h.sub p hp),fun hp => ?_⟩;have hp:=(he.mem p).2 hp
 have:(pkV p,cvV (T p)) ∈ es.toList.map (fun e=>(e.key,e.val)):=by
  rw [he.kv];exact List.mem_map.2 ⟨p,hp,rfl⟩
 obtain ⟨e,hes,h2⟩:=List.mem_map.1 this;simp only [Prod.mk.injEq] at h2
 have hs:seen.contains e.born=true:=by
  cases hc:seen.contains e.born with
  | true=>rfl
  | false =>
   exfalso
   have hm:e ∈ leftOf es seen:=(by unfold leftOf;rw [Array.mem_filter];exact ⟨by simpa using hes,by rw [hc];rfl⟩);have:leftOf es seen = #[]:=Array.eq_empty_of_size_eq_zero h0;rw [this] at hm;simp at hm
 obtain ⟨q,hq,hk⟩:=h.all e hes hs;rw [h2.1] at hk;rw [pkV_inj hk];exact hq
end
theorem stB_fr (w:World) (r:Nat) (o:Obj):Fr w.heap.size [r] w (Go.ChangeMaps.setBlock w r o) :=
 ⟨rfl, rfl, rfl, by simp [Go.ChangeMaps.setBlock], fun k _ hk => by
  have:r ≠ k:=fun h=>hk (by simp [h])
  simp [Go.ChangeMaps.setBlock,this]⟩
theorem stB_new {w:World} {r:Nat} (h:r < w.heap.size) (o:Obj):(Go.ChangeMaps.setBlock w r o).heap[r]?=some o:=by simp [Go.ChangeMaps.setBlock,h]
theorem seen_of {w:World} {r:Nat} {m:Option Nat} {a c:Nat} {s:Array Nat} (h:w.heap[r]?=some (.mapIter m a s c)):w.iterSeen r=s:=by
 unfold World.iterSeen;rw [h]
end Go.Proofs.YtgblfflikgnfpaaGreat
namespace Go.Proofs.YtgblfflikgnfpaaGreat
open Go.RowKit Go.Fb
set_option maxRecDepth 100000
set_option maxHeartbeats 16000000
set_option linter.unusedVariables false
theorem grid_len (n:Nat):(grid n).length=(n+1) * 66:=by
 unfold grid;rw [List.length_flatMap];simp [List.map_const',List.length_flatMap]
theorem left_le (n:Nat) (met:List Tri):left n met<=(n+1) * 66:=by
 rw [<- grid_len n];exact List.length_filter_le _ _
def startW:WS:=⟨fun _ => -1,0,0,false,false,[],[⟨0,0,0⟩]⟩
theorem TMem.grow {w0:World} {k3 gm B k:Nat} {vD vT v':Value} {W:WS} {w w2:World} {o:Obj} (h:TMem w0 k3 gm B k vD vT W w) (hown:w2.ownsRow B 3 1 v' (k+1) (intsL k W.D ++ [.int .i64 (W.D k)]))
  (hg:(w.alloc o).grownBy w2 vD.ownBlock) (hat:v'.ownBlock=vD.ownBlock \/ v'.ownBlock=some (w.heap.size+1)):TMem w0 k3 gm B (k+1) v' vT W (w2.setCell ⟨k3,0,none⟩ v'):=by
 have sz:=h.sz;have o1:=h.o1;have o2:=h.o2;have o3:=h.o3;have lt0:=h.res.lt;have lt1:=h.blk.lt;have lt2:=h.map.lt;have hD:∀ q,vD.ownBlock=some q->B<=q:=fun q hq=>(h.dep.lt q hq).1;have fa:Fr w.heap.size [] w (w.alloc o):=(Fr.refl _ _ _).alloc (Nat.le_refl _) _;have hr:=(h.res.fr fa lt0 (by simp)).grown hg (fun e=>by have:=hD _ e.symm;omega);have hb:=((h.blk.fr fa lt1 (by simp)).grown hg (fun e=>by have:=hD _ e.symm;omega)).set_ 0 v'
 have ht : w2.ownsRow B 196 3 vT W.todo.length (cellsT W.todo) := (h.todo.alloc o).kept hg (by
  cases hv:vT.ownBlock with
  | none=>exact .inl rfl
  | some q=>exact .inr (fun e=>h.dis q e.symm hv))
 have f2:Fr w0.heap.size [] w0 w2:=(h.fr.trans (fa.mono h.fr.size (by simp))).grown hg (by have:=h.fr.size;simp;omega) (fun q hq=>.inl (by have:=hD q hq;omega));refine ⟨hr.far (p:=⟨k3,0,none⟩) (by show w0.heap.size ≠ k3;omega) v',hb,?_,?_,?_,?_,f2.setCell (p:=⟨k3,0,none⟩) (.inl (by show w0.heap.size<=k3;omega)) v',o1,o2,o3,?_⟩
 · have fm:Fr B [] (w.alloc o) w2:=(Fr.refl _ _ _).grown hg (by simp;omega) (fun q hq=>.inl (hD q hq));exact (((h.map.fr fa lt2 (by simp)).fr fm (by omega) (by simp))).fr ((Fr.refl w2.heap.size [k3] w2).setCell (p:=⟨k3,0,none⟩) (.inr (by simp)) v') (by have:=hg.size;simp at this;omega) (by simp;omega)
 ·
  refine Go.Fb.ownsRow_setCell_other ?_ (p:=⟨k3,0,none⟩) (fun e => ?_) v'
  · rw [intsL_succ];exact hown
  · have:=(hown.lt _ e).1;simp at this;omega
 · refine Go.Fb.ownsRow_setCell_other ht (p:=⟨k3,0,none⟩) (fun e => ?_) v';have:=(ht.lt _ e).1;simp at this;omega
 ·
  intro q hq hT
  rcases hat with hat | hat
  · exact h.dis q (hat ▸ hq) hT
  ·
   rw [hat] at hq;injection hq with hq
   have:=(h.todo.lt q hT).2;omega
 · have:=hg.size;simp [World.setCell] at this ⊢;omega
theorem TMem.meet {w0:World} {k3 gm B n:Nat} {vD vT:Value} {W:WS} {w w':World} {x:Tri} (h:TMem w0 k3 gm B n vD vT W w) (hmap:TriMap w' gm (W.met ++ [x])) (hf:Fr w.heap.size [gm] w w'):TMem w0 k3 gm B n vD vT { W with met:=W.met ++ [x] } w':=by
 have o1:=h.o1;have o2:=h.o2;have o3:=h.o3;exact ⟨h.res.fr hf h.res.lt (by simp;omega),h.blk.fr hf h.blk.lt (by simp;omega),hmap,ownsRow_fr h.dep hf (fun q hq=>⟨(h.dep.lt q hq).2,by have:=(h.dep.lt q hq).1;simp;omega⟩),ownsRow_fr h.todo hf (fun q hq=>⟨(h.todo.lt q hq).2,by have:=(h.todo.lt q hq).1;simp;omega⟩),h.dis,h.fr.trans (hf.mono h.fr.size (by simp;omega)),o1,o2,o3,Nat.le_trans h.sz hf.size⟩
def TellOut (l:List (Int × Int)) (w:World) (e:Ending) (w':World):Prop :=
 (∀ s,chkL l=some s->∃ A c D,e=.returned (.agg (knC (.slice A l.length c) s.mx s.em s.u0 s.u1 true))/\w'.ownsRow w.heap.size 3 1 (.slice A l.length c) l.length (intsL l.length D) /\ ∀ k,k < l.length->D k=s.D k) /\
 (chkL l=none->e=.returned (.agg (knC (.slice none 0 0) 0 0 false false false)))/\Fr w.heap.size [] w w'
theorem tell_any (A:Option Addr) (c:Nat) (l:List (Int × Int)) (w:World) (hr:Reads w w.heap.size 2 A l.length (cellsI l)) (hn:l.length<=maxLen) :
  Calls Tryz.prog 51 #[.slice A l.length c] w (TellOut l w):=by
 have f0:=(Fr.refl w.heap.size [] w).alloc (Nat.le_refl _) (.cells (knC (.slice none 0 0) 0 0 false false false) 140);have hft:=rfits_any A c w.heap.size l (w.alloc (.cells (knC (.slice none 0 0) 0 0 false false false) 140)) (hr.fr f0 (Nat.le_refl _) (by simp)) (by simp) hn;have hm:=hn;unfold maxLen at hm;have HR:=zh hr;have HFI:=zh (fitsB_iff (l:=l));have CL:=zh (show chkL l=if fitsB l=true then checkF l.length (pF l) l.length else none from rfl);have hfb:=(by cases fitsB l;exact .inr rfl;exact .inl rfl:fitsB l=true \/ fitsB l=false);clear hr hn f0
 rcases hfb with hfb | hfb
 case inr =>
  as_aux_lemma =>
  rw [hfb] at hft;have HCL:Hid (chkL l=none):=(by rw [CL.out,hfb];exact (rfl:(none:Option CS)=none));have HFT:=zh hft;clear hft hfb HFI CL;go_enter Tryz.func51,Tryz.ntmps51;go_wp2_with fail;refine HFT.out.mono ?_;rintro e w1 ⟨rfl,f1⟩;have B1:=zh ((Blk.new w 140 (knC (.slice none 0 0) 0 0 false false false)).fr f1 (by simp) (by simp));have F1:=zh (((Fr.refl w.heap.size [] w).alloc (Nat.le_refl _) (.cells (knC (.slice none 0 0) 0 0 false false false) 140)).trans (f1.mono (B':=w.heap.size) (L':=[]) (by simp) (by simp)));have hlt:=B1.out.lt;have c0:=B1.out.cell 0;have c1:=B1.out.cell 1;have c2:=B1.out.cell 2;have c3:=B1.out.cell 3;have c4:=B1.out.cell 4;have c5:=B1.out.cell 5;have z0:=B1.out.frozen 0;have z1:=B1.out.frozen 1;have z2:=B1.out.frozen 2;have z3:=B1.out.frozen 3;have z4:=B1.out.frozen 4;have z5:=B1.out.frozen 5;simp at c0 c1 c2 c3 c4 c5;clear f1;go_wp2_with fail;refine bodyPost_ret (results_cell_row rfl _ _ w.heap.size 140 (knC (.slice none 0 0) 0 0 false false false) (0,0) _ rfl ((dblk_set6 B1.out _ _ _ _ _ _).alloc _) Tryz.underlying140 rfl (by kernel_rfl)) rfl ⟨(fun s h=>by rw [HCL.out] at h;cases h),(fun _=>rfl),(dfr_set6 F1.out (.inl (Nat.le_refl _)) _ _ _ _ _ _).alloc (dfr_set6 F1.out (.inl (Nat.le_refl _)) _ _ _ _ _ _).size _⟩
  -- >>
 case inl =>
  rw [hfb] at hft;obtain ⟨hn24,hri⟩:=HFI.out.1 hfb;have HCL:Hid (chkL l=checkF l.length (pF l) l.length):=(by rw [CL.out,if_pos hfb];exact (rfl:checkF l.length (pF l) l.length=_));have HRB:=zh (fun k i (hx:l[k]?=some i)=>hri i (List.mem_of_getElem? hx));have HFT:=zh hft;obtain ⟨n,hnl⟩:=nm (l.length);have HN:=zh hnl;rw [<- hnl] at hn24 HFT ⊢;clear hft hfb HFI CL hri hm hnl;have hmm:=@run_makeMap Tryz.prog;go_enter Tryz.func51,Tryz.ntmps51;go_wp2_with fail;refine HFT.out.mono ?_;rintro e w1 ⟨rfl,f1⟩;have B1:=zh ((Blk.new w 140 (knC (.slice none 0 0) 0 0 false false false)).fr f1 (by simp) (by simp));have F1:=zh (((Fr.refl w.heap.size [] w).alloc (Nat.le_refl _) (.cells (knC (.slice none 0 0) 0 0 false false false) 140)).trans (f1.mono (B':=w.heap.size) (L':=[]) (by simp) (by simp)));have hlt:=B1.out.lt;clear f1 HFT;go_upto_region 6 with fail
  have MEM0:Hid (TMem w w1.heap.size (w1.heap.size+1) (w1.heap.size+2) 0 (.slice none 0 0) (.slice (some ⟨w1.heap.size+2,0,none⟩) 1 1) startW (((w1.alloc (.cells (knC (.slice none 0 0) 0 0 false false true) 140)).alloc (.map #[] 0)).alloc (.cells #[.int .i64 0,.int .i64 0,.int .i64 0] 196))):=by
   obtain ⟨x1,x2,x3,x4⟩:=heap3 w1 (.cells (knC (.slice none 0 0) 0 0 false false true) 140) (.map #[] 0) (.cells #[.int .i64 0,.int .i64 0,.int .i64 0] 196);have x4':Fr w1.heap.size [] w1 (((w1.alloc (.cells (knC (.slice none 0 0) 0 0 false false true) 140)).alloc (.map #[] 0)).alloc (.cells #[.int .i64 0,.int .i64 0,.int .i64 0] 196)):=⟨x4.os,x4.tape,x4.output,x4.size,x4.block⟩;refine ⟨B1.out.fr x4' B1.out.lt (by simp),x1,⟨#[],0,x2,rfl⟩,World.ownsRow_nil _ _ _ _,⟨rfl,.inr ⟨w1.heap.size+2,1,#[.int .i64 0,.int .i64 0,.int .i64 0],rfl,Nat.le_refl _,x3,by simp [startW,maxLen,cellsT,triC]⟩⟩,fun q hq=>by simp [Value.ownBlock] at hq,F1.out.trans (x4'.mono F1.out.size (by simp)),hlt,by omega,by omega,by simp⟩
  clear B1 F1 hlt hmm;generalize ((w1.alloc _).alloc _).alloc _=w2 at *;generalize w1.heap.size=k3 at *;go_wp2_with fail;go_loopw [6] (fun i wr=>∃ (k:Nat) (A1:Option Addr) (c1:Nat),k<=n/\i=.int .i64 k/\Hid (TMem w k3 (k3+1) (k3+2) k (.slice A1 k c1) (.slice (some ⟨k3+2,0,none⟩) 1 1) startW wr)) (fun i _=>n - (intOf i).toNat)
  case atStart=>exact ⟨0,none,0,Nat.zero_le _,rfl,MEM0⟩
  case round =>
   clear MEM0;obtain ⟨k,A1,c1,hk,rfl,M⟩:=hrel;have sz:=M.out.sz
   by_cases hlt:k < n
   ·
    as_aux_lemma =>
    have hki:(k:Int) < (n:Int):=(by omega);have x0:=M.out.blk.cell 0;have z0:=M.out.blk.frozen 0;simp at x0;have hdep:=M.out.dep;have hk3:=M.out.blk.lt;go_upto_region 8 with (at_builtin;refine wpList_app_lit _ rfl (.tmp 28) (.tmp 29) dintTy rfl (k3+2) (.slice A1 k c1) k _ rfl hdep 1 1 _ rfl rfl (by simp [Value.oneCell']) (by omega) (by omega) (by omega) ?_;intro A2 c2 w3 hown2 hg2 hat2;have hs3:=hg2.size;have y0:w3.cell? ⟨k3,0,none⟩=some (.slice A1 k c1):=(hg2.cell_far ⟨k3,0,none⟩ (by simp;omega) (fun e=>by have:=(hdep.lt _ e.symm).1;simp at this;omega)).trans (((M.out.blk.alloc _).cell 0).trans (by simp));have v0:w3.frozen? ⟨k3,0,none⟩=false:=(hg2.frozen_far ⟨k3,0,none⟩ (by simp;omega) (fun e=>by have:=(hdep.lt _ e.symm).1;simp at this;omega)).trans ((M.out.blk.alloc _).frozen 0))
    have M3:=zh (M.out.grow hown2 hg2 hat2);clear hown2 hg2 hat2 hdep hs3 y0 v0 x0 z0;go_wp2_with fail;go_roundw
    case rel=>exact ⟨k+1,A2,c2,by omega,by go_num,M3⟩
    case measure=>simp [intOf];omega
    -- >>
   ·
    obtain rfl:n=k:=by omega
    have HGT:=zh (fun k (hk:k < n)=>(fun t ht=>(nextsF_gt hk (HRB.out k (pF l k) (by rw [pF,List.getD_eq_getElem?_getD,List.getElem?_eq_getElem (by rw [<- HN.out];exact hk)];rfl)) t ht).1:∀ t ∈ nextsF n k (pF l k),k < t));go_wp2_with fail;go_loopg [5,7,9,10] (2 * left n []+1) (fun g s5 s7 s9 s10 wr=>∃ (W:WS) (At:Option Addr) (ct:Nat),g=2 * left n W.met+W.todo.length/\2 * left n W.met+W.todo.length<=3301/\s5=.slice At W.todo.length ct/\(s7=undef \/ ∃ a,s7=.pointer a)/\(s9=undef \/ ∃ a,s9=.pointer a)/\(s10=undef \/ ∃ a,s10=.pointer a)/\Hid (WRun n (pF l) W)/\Hid (TMem w k3 (k3+1) (k3+2) n (.slice A1 n c1) (.slice At W.todo.length ct) W wr))
    case atStart=>exact ⟨startW,some ⟨k3+2,0,none⟩,1,rfl,(by have:=left_le n [];show 2 * left n []+1<=3301;omega),rfl,.inl rfl,.inl rfl,.inl rfl,WRun.start,M⟩
    case round =>
     clear M;obtain ⟨W,At,ct,rfl,hbd,rfl,hs7,hs9,hs10,HW,M⟩:=hrel
     rcases List.eq_nil_or_concat W.todo with hT | ⟨td,x,hT⟩
     ·
      as_aux_lemma =>
      have hlen:W.todo.length=0:=(by rw [hT];rfl);have HT:=zh hT;rw [hlen];obtain ⟨s,hcs,hD,hmx,hem,hu0,hu1⟩:=tell_end HGT.out HW.out hT;have HCS:=zh (show chkL l=some s by rw [HCL.out,<- HN.out];exact hcs);have HD:=zh hD;have v0:=M.out.blk.cell 0;have v1:=M.out.blk.cell 1;have v2:=M.out.blk.cell 2;have v3:=M.out.blk.cell 3;have v4:=M.out.blk.cell 4;have v5:=M.out.blk.cell 5;have c0:=M.out.res.cell 0;have c1':=M.out.res.cell 1;have c2:=M.out.res.cell 2;have c3:=M.out.res.cell 3;have c4:=M.out.res.cell 4;have c5:=M.out.res.cell 5;have z0:=M.out.res.frozen 0;have z1:=M.out.res.frozen 1;have z2:=M.out.res.frozen 2;have z3:=M.out.res.frozen 3;have z4:=M.out.res.frozen 4;have z5:=M.out.res.frozen 5;simp at v0 v1 v2 v3 v4 v5 c0 c1' c2 c3 c4 c5;rw [hmx] at v1;rw [hem] at v2;rw [hu0] at v3;rw [hu1] at v4;clear hT hlen hcs hD hmx hem hu0 hu1 hbd;go_wp2_with fail;refine bodyPost_ret (results_cell_row rfl _ _ w.heap.size 140 (knC (.slice A1 n c1) s.mx s.em s.u0 s.u1 true) (0,0) _ rfl (dblk_set6 M.out.res _ _ _ _ _ _) Tryz.underlying140 rfl (by kernel_rfl)) rfl ⟨(fun s' h => ?_),(fun h=>by rw [HCS.out] at h;cases h),dfr_set6 M.out.fr (.inl (Nat.le_refl _)) _ _ _ _ _ _⟩;rw [HCS.out] at h;injection h with h
      subst h;refine ⟨A1,c1,W.D,by rw [HN.out],?_,by rw [<- HN.out];exact HD.out⟩;rw [<- HN.out];have o1:=M.out.o1;refine ownsRow_base (base:=k3+2) (ownsRow_fr M.out.dep (dfr_set6 (Fr.refl wr.heap.size [w.heap.size] wr) (.inr (by simp)) _ _ _ _ _ _) (fun q hq => ?_)) (by omega);have:=M.out.dep.lt q hq;exact ⟨this.2,by simp;omega⟩
      -- >>
     ·
      rw [List.concat_eq_append] at hT;have hlen:W.todo.length=td.length+1:=(by rw [hT];simp);have HT:=zh hT;obtain ⟨m,hm⟩:=nm (td.length);have HM:=zh hm;have hown:=M.out.todo;rw [hlen,hT] at hown;rw [hlen,<- hm];rw [<- hm] at hown
      have hcap:m+1<=ct:=by
       obtain ⟨_,_,hs,_,hle,_⟩:=ownsRow_shape hown;injection hs with _ _ hs
       omega
      obtain ⟨gt,cap,hv,hbg,hg2⟩:=hown.form (by omega);have hA:At=some ⟨gt,0,none⟩:=(by injection hv);subst hA;obtain ⟨bq,oq,hbq,_,hcc⟩:=(Reads.of_own hown).2 (by omega);injection hbq with hbq
      injection hbq with hbq1 hbq2
      subst hbq1 hbq2;obtain ⟨y0,y1,y2⟩:=cellsT_last td x;have p0:=hcc _ _ y0;have p1:=hcc _ _ y1;have p2:=hcc _ _ y2;rw [<- hm,Nat.zero_add] at p0 p1 p2;have hpop:wr.ownsRow (k3+2) 196 3 (.slice (some ⟨gt,0,none⟩) m ct) m (cellsT td):=ownsRow_pop (last:=triC x) (by rw [cellsT_length,hm]) (by rw [cellsT_app] at hown;simpa [cellsT] using hown);have hm3:m<=3300:=(by omega)
      have MP:Hid (TMem w k3 (k3+1) (k3+2) n (.slice A1 n c1) (.slice (some ⟨gt,0,none⟩) m ct) { W with todo:=td } wr) :=
       ⟨M.out.res,M.out.blk,M.out.map,M.out.dep,(by show wr.ownsRow _ _ _ _ td.length (cellsT td);rw [<- hm];exact hpop),(fun q hq he=>M.out.dis q hq (by rw [hlen];exact he)),M.out.fr,M.out.o1,M.out.o2,M.out.o3,M.out.sz⟩
      have hmi:IntKind.i64.wrap ((m:Int)+1 - 1)=(m:Int):=(by rw [IntKind.wrap_i64];omega);have hgm:m < m+1:=(by omega);clear hv hown hcc y0 y1 y2 hpop hm hT hlen M;have HGX:=zh hg2;go_upto_region 13 with fail;have hcx:=Blk.new wr 196 #[.int .i64 x.at_,.int .i64 x.d,.int .i64 x.e];have fx:=(Fr.refl wr.heap.size [] wr).alloc (Nat.le_refl _) (.cells #[.int .i64 x.at_,.int .i64 x.d,.int .i64 x.e] 196);have M1:=zh (MP.out.keep fx);have hsz:(wr.alloc (.cells #[.int .i64 x.at_,.int .i64 x.d,.int .i64 x.e] 196)).heap.size=wr.heap.size+1:=(by simp);have hgx:k3+2<=wr.heap.size:=MP.out.sz;have HX1:=zh hcx;have hxlt:=hcx.lt;clear fx hcx p0 p1 p2 hmi hgm MP hg2 hsz;generalize wr.alloc (.cells #[.int .i64 x.at_,.int .i64 x.d,.int .i64 x.e] 196)=wa at *;generalize wr.heap.size=gx at *;have hlk:=M1.out.map.look x;have q0:=HX1.out.cell 0;have q1:=HX1.out.cell 1;have q2:=HX1.out.cell 2;simp at q0 q1 q2
      by_cases hmet:x ∈ W.met
      ·
       as_aux_lemma =>
       rw [decide_eq_true hmet] at hlk;have HMT:=zh hmet;clear hmet;go_wp2_with fail;go_roundg (2 * left n W.met+td.length)
       case measure=>rw [HT.out];simp
       case rel=>exact ⟨{ W with todo:=td },some ⟨gt,0,none⟩,ct,rfl,(by rw [HT.out] at hbd;simp at hbd;show 2 * left n W.met+td.length<=3301;omega),(by rw [HM.out]),.inr ⟨_,rfl⟩,hs9,hs10,WRun.skip HW.out HT.out HMT.out,(by show TMem _ _ _ _ _ _ (.slice _ td.length _) _ _;rw [<- HM.out];exact M1.out)⟩
       -- >>
      ·
       rw [decide_eq_false hmet] at hlk;have HMT:=zh hmet;obtain ⟨wb,hst,hmap,hfb⟩:=M1.out.map.store HMT.out;have M2:=zh (M1.out.meet hmap hfb);have HX2:=zh (HX1.out.fr hfb HX1.out.lt (by simp;omega));have hxlt2:=HX2.out.lt;clear hmet hmap hfb;have e1:=HX2.out.cell 1;have e2:=HX2.out.cell 2;have k1:=M2.out.blk.cell 1;have k2:=M2.out.blk.cell 2;have z1:=M2.out.blk.frozen 1;have z2:=M2.out.blk.frozen 2;simp at e1 e2 k1 k2
       have hg0:2 * left n (W.met ++ [x])+2<=2 * left n W.met:=by
        have:=left_step HW.out (by rw [HT.out];simp:x ∈ W.todo) HMT.out;omega
       have hk3g:k3 ≠ gx:=(by omega);go_upto_if 55 with fail;go_cut [6] (fun s6 wx=>s6=.int .i64 n/\Hid (TMem w k3 (k3+1) (k3+2) n (.slice A1 n c1) (.slice (some ⟨gt,0,none⟩) m ct) { W with todo:=td,met:=W.met ++ [x],mx:=max W.mx x.d } wx)/\Hid (Blk wx gx 196 #[.int .i64 x.at_,.int .i64 x.d,.int .i64 x.e]))
       case first =>
        as_aux_lemma =>
        by_cases hgt:W.mx < x.d
        · go_wp2_with fail;go_meet;exact ⟨rfl,M2.out.setK (W':={ W with todo:=td,met:=W.met ++ [x],mx:=max W.mx x.d }) 1 (.int .i64 x.d) rfl rfl rfl (by show knC _ x.d _ _ _ _=knC _ (max W.mx x.d) _ _ _ _;rw [show max W.mx x.d=x.d by omega]),HX2.out.far (p:=⟨k3,1,none⟩) (by show gx ≠ k3;omega) _⟩
        · go_wp2_with fail;go_meet;exact ⟨rfl,(by rw [show max W.mx x.d=W.mx by omega];exact M2.out),HX2.out⟩
        -- >>
       case rest =>
        obtain ⟨rfl,M3,HX3⟩:=hcut;clear M1 M2 HX1 HX2 hlk q0 q1 q2 e1 e2 k1 k2 z1 z2 hxlt hxlt2;have e1:=HX3.out.cell 1;have e2:=HX3.out.cell 2;have k2:=M3.out.blk.cell 2;have z2:=M3.out.blk.frozen 2;simp at e1 e2 k2;go_upto_if 63 with fail;go_cut [6] (fun s6 wx=>s6=.int .i64 n/\Hid (TMem w k3 (k3+1) (k3+2) n (.slice A1 n c1) (.slice (some ⟨gt,0,none⟩) m ct) { W with todo:=td,met:=W.met ++ [x],mx:=max W.mx x.d,em:=max W.em x.e } wx)/\Hid (Blk wx gx 196 #[.int .i64 x.at_,.int .i64 x.d,.int .i64 x.e]))
        case first =>
         as_aux_lemma =>
         by_cases hgt:W.em < x.e
         · go_wp2_with fail;go_meet;exact ⟨rfl,M3.out.setK (W':={ W with todo:=td,met:=W.met ++ [x],mx:=max W.mx x.d,em:=max W.em x.e }) 2 (.int .i64 x.e) rfl rfl rfl (by show knC _ _ x.e _ _ _=knC _ _ (max W.em x.e) _ _ _;rw [show max W.em x.e=x.e by omega]),HX3.out.far (p:=⟨k3,2,none⟩) (by show gx ≠ k3;omega) _⟩
         · go_wp2_with fail;go_meet;exact ⟨rfl,(by rw [show max W.em x.e=W.em by omega];exact M3.out),HX3.out⟩
         -- >>
        case rest =>
         obtain ⟨rfl,M4,HX4⟩:=hcut;clear M3 HX3 e1 e2 k2 z2 hst;have hxr:=(HW.out.inv.reach x (.inr (by rw [HT.out];simp))).2;have e0:=HX4.out.cell 0;have e1:=HX4.out.cell 1;have e2:=HX4.out.cell 2;simp at e0 e1 e2;have hx0:=M4.out.res.cell 0;have hx1:=M4.out.res.cell 1;have hx2:=M4.out.res.cell 2;have hx3:=M4.out.res.cell 3;have hx4:=M4.out.res.cell 4;have hx5:=M4.out.res.cell 5;have hz0:=M4.out.res.frozen 0;have hz1:=M4.out.res.frozen 1;have hz2:=M4.out.res.frozen 2;have hz3:=M4.out.res.frozen 3;have hz4:=M4.out.res.frozen 4;have hz5:=M4.out.res.frozen 5;simp at hx0 hx1 hx2 hx3 hx4 hx5;have BRK:=zh (fun hb=>(by rw [HCL.out,<- HN.out];exact tell_break HGT.out HW.out (by rw [HT.out];simp) hb:chkL l=none):(8 < x.d \/ 4 < x.e \/ (x.at_ < n/\0<=W.D x.at_/\W.D x.at_ ≠ x.d) \/ (x.at_ < n/\x.d < takesF (pF l x.at_).1))->chkL l=none)
         by_cases hd8:8 < x.d
         ·
          as_aux_lemma =>
          have HNO:=zh (BRK.out (.inl hd8));go_wp2_with fail;refine bodyPost_ret (results_cell_row rfl _ _ w.heap.size 140 (knC (.slice none 0 0) 0 0 false false false) (0,0) _ rfl (dblk_set6 M4.out.res _ _ _ _ _ _) Tryz.underlying140 rfl (by kernel_rfl)) rfl ⟨(fun s h=>by rw [HNO.out] at h;cases h),(fun _=>rfl),dfr_set6 M4.out.fr (.inl (Nat.le_refl _)) _ _ _ _ _ _⟩
          -- >>
         by_cases he4:4 < x.e
         ·
          as_aux_lemma =>
          have HNO:=zh (BRK.out (.inr (.inl he4)));go_wp2_with fail;refine bodyPost_ret (results_cell_row rfl _ _ w.heap.size 140 (knC (.slice none 0 0) 0 0 false false false) (0,0) _ rfl (dblk_set6 M4.out.res _ _ _ _ _ _) Tryz.underlying140 rfl (by kernel_rfl)) rfl ⟨(fun s h=>by rw [HNO.out] at h;cases h),(fun _=>rfl),dfr_set6 M4.out.fr (.inl (Nat.le_refl _)) _ _ _ _ _ _⟩
          -- >>
         have hd8':x.d<=8:=(by omega);have he4':x.e<=4:=(by omega)
         by_cases hat:n<=x.at_
         ·
          as_aux_lemma =>
          have hati:(n:Int)<=(x.at_:Int):=(by omega);clear hx0 hx1 hx2 hx3 hx4 hx5 hz0 hz1 hz2 hz3 hz4 hz5;go_wp2_with fail;go_roundg (2 * left n (W.met ++ [x])+td.length)
          case measure=>rw [HT.out];simp;omega
          case rel=>exact ⟨{ W with todo:=td,met:=W.met ++ [x],mx:=max W.mx x.d,em:=max W.em x.e },some ⟨gt,0,none⟩,ct,rfl,(by rw [HT.out] at hbd;simp at hbd;show 2 * left n (W.met ++ [x])+td.length<=3301;omega),(by rw [HM.out]),.inr ⟨_,rfl⟩,hs9,hs10,WRun.out HW.out HT.out HMT.out hd8' he4' hat,(by show TMem _ _ _ _ _ _ (.slice _ td.length _) _ _;rw [<- HM.out];exact M4.out)⟩
          -- >>
         ·
          have hatn:x.at_ < n:=by omega
          have hati:(x.at_:Int) < (n:Int):=(by omega);clear hat;have hdep:=M4.out.dep;obtain ⟨gd,capd,hvd,hbgd,hgd2⟩:=hdep.form (by omega);have hA1:A1=some ⟨gd,0,none⟩:=(by injection hvd);subst hA1;obtain ⟨bq,oq,hbq,_,hcc⟩:=(Reads.of_own hdep).2 (by omega);injection hbq with hbq
          injection hbq with hbq1 hbq2
          subst hbq1 hbq2;have cd:=hcc _ _ (intsL_get W.D hatn);rw [Nat.zero_add] at cd;have k0:=M4.out.blk.cell 0;simp at k0;clear hvd hcc hdep
          by_cases hconf:0<=W.D x.at_/\W.D x.at_ ≠ x.d
          ·
           as_aux_lemma =>
           have HNO:=zh (BRK.out (.inr (.inr (.inl ⟨hatn,hconf.1,hconf.2⟩))));have hq1:decide (0<=W.D x.at_)=true:=decide_eq_true hconf.1;have hq2:(W.D x.at_ != x.d)=true:=(by simpa using hconf.2);clear hconf BRK;go_wp2_with fail;go_quiet (fail);have M5:=zh (M4.out.keep ((Fr.refl _ _ _).drewN nq));go_wp2_with fail;refine bodyPost_ret (results_cell_row rfl _ _ w.heap.size 140 (knC (.slice none 0 0) 0 0 false false false) (0,0) _ rfl (dblk_set6 M5.out.res _ _ _ _ _ _) Tryz.underlying140 rfl (by kernel_rfl)) rfl ⟨(fun s h=>by rw [HNO.out] at h;cases h),(fun _=>rfl),dfr_set6 M5.out.fr (.inl (Nat.le_refl _)) _ _ _ _ _ _⟩
           -- >>
          ·
           go_upto_region 22 with fail;go_cut [6,98] (fun s6 s98 wx=>s6=.int .i64 n/\s98=.bool false/\∃ q,wx=wc.drewN q)
           case first =>
            as_aux_lemma =>
            rcases (show W.D x.at_ < 0 \/ W.D x.at_=x.d by omega) with hc1 | hc1
            · have hq1:decide (0<=W.D x.at_)=false:=decide_eq_false (by omega);go_quiet (fail);go_wp2_with fail;go_meet;exact ⟨rfl,rfl,_,rfl⟩
            · have hq1:decide (0<=W.D x.at_)=true:=decide_eq_true (by omega);have hq2:(W.D x.at_ != x.d)=false:=(by simp [hc1]);go_quiet (fail);go_wp2_with fail;go_meet;exact ⟨rfl,rfl,_,rfl⟩
            -- >>
           case rest =>
            obtain ⟨rfl,rfl,q,rfl⟩:=hcut;obtain ⟨i,hi⟩:=nm (pF l x.at_)
            have hxi:l[x.at_]?=some i:=by
             rw [hi,pF,List.getD_eq_getElem?_getD,List.getElem?_eq_getElem (by rw [<- HN.out];exact hatn)];rfl
            have HXI:=zh hxi;have HI:=zh hi;have hri:=HRB.out _ _ hxi;obtain ⟨r1,r2,r3,r4,r5,r6⟩:=right_range hri;rw [<- hi] at BRK;have HCF:=zh hconf;have M5:=zh (M4.out.keep ((Fr.refl _ _ _).drewN q));have HX5:=zh (HX4.out.fr ((Fr.refl wc.heap.size [] wc).drewN q) HX4.out.lt (by simp));have hdx:some gx ≠ Value.ownBlock (.slice (some ⟨gd,0,none⟩) n c1):=HX5.out.ne_own M5.out.dep (by decide);have hdx2:gd ≠ gx:=fun e=>hdx (by rw [e];rfl);clear hi hxi hri hconf hdx M4 HX4 e0 e1 e2 hx0 hx1 hx2 hx3 hx4 hx5 hz0 hz1 hz2 hz3 hz4 hz5 cd k0;generalize wc.drewN q=wd at *;have e0:=HX5.out.cell 0;have e1:=HX5.out.cell 1;have e2:=HX5.out.cell 2;have k0:=M5.out.blk.cell 0;have kd:=own_frozen M5.out.dep x.at_;have cd:=(Reads.of_own M5.out.dep).2 (by omega);simp at e0 e1 e2 k0
            have cd:wd.cell? ⟨gd,x.at_,none⟩=some (.int .i64 (W.D x.at_)):=by
             obtain ⟨b,off,hb,_,hc⟩:=cd;injection hb with hb
             injection hb with hb1 hb2
             subst hb1 hb2;have:=hc _ _ (intsL_get W.D hatn)
             rwa [Nat.zero_add] at this
            go_upto_region 25 with fail;have M6:=zh (M5.out.setD x.at_ x.d);have HX6:=zh (HX5.out.far (p:=⟨gd,x.at_,none⟩) (by show gx ≠ gd;exact fun e=>hdx2 e.symm) (.int .i64 x.d));clear M5 HX5 e0 e1 e2 k0 kd cd;generalize wd.setCell ⟨gd,x.at_,none⟩ (.int .i64 x.d)=we at *;obtain ⟨bb,off,hAe,hbb,p1,p2⟩:=reads_ins (HR.out.fr M6.out.fr (Nat.le_refl _) (by simp)) HXI.out;subst hAe;have e0:=HX6.out.cell 0;have e1:=HX6.out.cell 1;have e2:=HX6.out.cell 2;simp at e0 e1 e2;clear hdx2;go_upto_region 26 with fail;go_cut [6,8,117] (fun s6 s8 s117 wx=>s6=.int .i64 n/\s8=.int .i64 i.1/\s117=.bool (decide (x.d < takesF i.1))/\∃ q,wx=we.drewN q)
            case first =>
             as_aux_lemma =>
             go_region_with (first | (go_at_call 83;refine (rtake_any _ ⟨r1,r2⟩ _).mono ?_;rintro e w' ⟨rfl,rfl⟩))
             all_goals
              go_wp2_with fail;go_meet;exact ⟨rfl,rfl,rfl,1,rfl⟩
             -- >>
            case rest =>
             obtain ⟨rfl,rfl,rfl,q,rfl⟩:=hcut;have M7:=zh (M6.out.keep ((Fr.refl _ _ _).drewN q));have HX7:=zh (HX6.out.fr ((Fr.refl we.heap.size [] we).drewN q) HX6.out.lt (by simp));clear M6 HX6 e0 e1 e2 p1 p2;generalize we.drewN q=wf at *
             by_cases htk:x.d < takesF i.1
             ·
              as_aux_lemma =>
              have HNO:=zh (BRK.out (.inr (.inr (.inr ⟨hatn,htk⟩))));have hx0:=M7.out.res.cell 0;have hx1:=M7.out.res.cell 1;have hx2:=M7.out.res.cell 2;have hx3:=M7.out.res.cell 3;have hx4:=M7.out.res.cell 4;have hx5:=M7.out.res.cell 5;have hz0:=M7.out.res.frozen 0;have hz1:=M7.out.res.frozen 1;have hz2:=M7.out.res.frozen 2;have hz3:=M7.out.res.frozen 3;have hz4:=M7.out.res.frozen 4;have hz5:=M7.out.res.frozen 5;simp at hx0 hx1 hx2 hx3 hx4 hx5;rw [decide_eq_true htk];clear htk BRK;go_wp2_with fail;refine bodyPost_ret (results_cell_row rfl _ _ w.heap.size 140 (knC (.slice none 0 0) 0 0 false false false) (0,0) _ rfl (dblk_set6 M7.out.res _ _ _ _ _ _) Tryz.underlying140 rfl (by kernel_rfl)) rfl ⟨(fun s h=>by rw [HNO.out] at h;cases h),(fun _=>rfl),dfr_set6 M7.out.fr (.inl (Nat.le_refl _)) _ _ _ _ _ _⟩
              -- >>
             have htk':takesF i.1<=x.d:=(by omega);rw [decide_eq_false htk];clear htk;obtain ⟨bb,off,hAe,hbb,p1,p2⟩:=reads_ins (HR.out.fr M7.out.fr (Nat.le_refl _) (by simp)) HXI.out;have e0:=HX7.out.cell 0;have k3':=M7.out.blk.cell 3;have k4:=M7.out.blk.cell 4;have z3:=M7.out.blk.frozen 3;have z4:=M7.out.blk.frozen 4;simp at e0 k3' k4;have HAE:=zh hAe;injection hAe with hAe
             injection hAe with hAe1 hAe2
             subst hAe1 hAe2;go_upto_region 28 with fail;go_cut [6,8,124] (fun s6 s8 s124 wx=>s6=.int .i64 n/\s8=.int .i64 i.1/\s124=.bool (decide (i.1=4 \/ i.1=5))/\wx=wf)
             case first =>
              as_aux_lemma =>
              by_cases h4:i.1=4
              ·
               have b4:(i.1 == 4)=true:=by simpa using h4
               go_wp2_with fail;go_meet;exact ⟨rfl,by first | rfl | rw [h4],by rw [decide_eq_true (.inl h4)],rfl⟩
              ·
               have b4:(i.1 == 4)=false:=by simpa using h4
               go_wp2_with fail;go_meet;exact ⟨rfl,rfl,congrArg Value.bool (by rw [Bool.eq_iff_iff];simp [h4]),rfl⟩
              -- >>
             case rest =>
             obtain ⟨rfl,rfl,rfl,rfl⟩:=hcut;go_upto_if 124 with fail;go_cut [6,8] (fun s6 s8 wx=>s6=.int .i64 n/\s8=.int .i64 i.1/\Hid (TMem w k3 (k3+1) (k3+2) n (.slice (some ⟨gd,0,none⟩) n c1) (.slice (some ⟨gt,0,none⟩) m ct) { W with D:=updC W.D x.at_ x.d,todo:=td,met:=W.met ++ [x],mx:=max W.mx x.d,em:=max W.em x.e,u0:=useW W.u0 i true,u1:=useW W.u1 i false } wx)/\Hid (Blk wx gx 196 #[.int .i64 x.at_,.int .i64 x.d,.int .i64 x.e]))
             case first =>
              as_aux_lemma =>
              by_cases h45:i.1=4 \/ i.1=5
              ·
               rw [decide_eq_true h45]
               rcases (show i.2=0 \/ i.2=1 by have:=r6 h45;omega) with ha | ha
               ·
                have u0:useW W.u0 i true=true:=by unfold useW;simp [h45,ha]
                have u1:useW W.u1 i false=W.u1:=(by unfold useW;simp [ha]);rw [ha] at p2;clear r1 r2 r3 r4 r5 r6 h45 ha;go_wp2_with fail;go_meet;exact ⟨rfl,rfl,M7.out.setK 3 (.bool true) rfl rfl rfl (by show (knC _ _ _ W.u0 W.u1 true).setIfInBounds 3 (.bool true)=knC _ _ _ (useW W.u0 i true) (useW W.u1 i false) true;rw [u0,u1];rfl),HX7.out.far (p:=⟨k3,3,none⟩) (by show gx ≠ k3;omega) _⟩
               ·
                have u0:useW W.u0 i true=W.u0:=by unfold useW;simp [ha]
                have u1:useW W.u1 i false=true:=(by unfold useW;simp [h45,ha]);rw [ha] at p2;clear r1 r2 r3 r4 r5 r6 h45 ha;go_wp2_with fail;go_meet;exact ⟨rfl,rfl,M7.out.setK 4 (.bool true) rfl rfl rfl (by show (knC _ _ _ W.u0 W.u1 true).setIfInBounds 4 (.bool true)=knC _ _ _ (useW W.u0 i true) (useW W.u1 i false) true;rw [u0,u1];rfl),HX7.out.far (p:=⟨k3,4,none⟩) (by show gx ≠ k3;omega) _⟩
              · rw [decide_eq_false h45];have u0:useW W.u0 i true=W.u0:=(by unfold useW;simp [h45]);have u1:useW W.u1 i false=W.u1:=(by unfold useW;simp [h45]);go_wp2_with fail;go_meet;rw [u0,u1];exact ⟨rfl,rfl,M7.out,HX7.out⟩
              -- >>
             case rest =>
              obtain ⟨rfl,rfl,M8,HX8⟩:=hcut;clear M7 HX7 e0 p1 p2 k3' k4 z3 z4;have e0:=HX8.out.cell 0;have e1:=HX8.out.cell 1;have e2:=HX8.out.cell 2;simp at e0 e1 e2;have hxlt:=HX8.out.lt;have htlt:=(M8.out.todo.lt gt rfl).2;obtain ⟨t1,t2⟩:=takesF_range i.1;obtain ⟨l1,l2⟩:=leavesF_range i.1;have hw1:IntKind.i64.wrap ((x.at_:Int)+1)=(x.at_:Int)+1:=(by rw [IntKind.wrap_i64];omega);have hw2:IntKind.i64.wrap (x.d - takesF i.1)=x.d - takesF i.1:=(by rw [IntKind.wrap_i64];omega);have hw3:IntKind.i64.wrap (x.d - takesF i.1+leavesF i.1)=x.d - takesF i.1+leavesF i.1:=(by rw [IntKind.wrap_i64];omega);go_upto_region 30 with fail;go_cut [6,8,9] (fun s6 s8 s9 wx=>∃ gy,s6=.int .i64 n/\s8=.int .i64 i.1/\s9=.pointer (some ⟨gy,0,none⟩)/\gx < gy/\gt < gy/\Hid (TMem w k3 (k3+1) (k3+2) n (.slice (some ⟨gd,0,none⟩) n c1) (.slice (some ⟨gt,0,none⟩) m ct) { W with D:=updC W.D x.at_ x.d,todo:=td,met:=W.met ++ [x],mx:=max W.mx x.d,em:=max W.em x.e,u0:=useW W.u0 i true,u1:=useW W.u1 i false } wx)/\Hid (Blk wx gx 196 #[.int .i64 x.at_,.int .i64 x.d,.int .i64 x.e])/\Hid (Blk wx gy 196 #[.int .i64 ((x.at_:Int)+1),.int .i64 (x.d - takesF i.1+leavesF i.1),.int .i64 x.e]))
              case first =>
               as_aux_lemma =>
               have hta:=rtake_any i.1 ⟨r1,r2⟩;have hle:=leave_any i.1 ⟨r1,r2⟩;clear r1 r2 r3 r4 r5 r6 t1 t2 l1 l2 htk' BRK hd8 he4 hd8' he4' hatn hati hxr hg0 hbd hs7 hs9 hs10 hn24 hm3 HCL HRB HGT HCF HW HT HM HMT HXI HI HGX sz hk hlt hcap hbg hbgd hgd2 hgx hk3g HR HN;generalize takesF i.1=tk at *;generalize leavesF i.1=lv at *;generalize useW W.u0 i true=uu0 at *;generalize useW W.u1 i false=uu1 at *;generalize i.1=o at *;go_region_held3 (fun w'=>w'.cell? ⟨gx,0,none⟩=some (.int .i64 x.at_)/\w'.cell? ⟨gx,1,none⟩=some (.int .i64 x.d)/\w'.cell? ⟨gx,2,none⟩=some (.int .i64 x.e)) (go_keep) (first | (go_at_call 83;refine (hta _).mono ?_;rintro e w' ⟨rfl,rfl⟩) | (go_at_call 84;refine (hle _).mono ?_;rintro e w' ⟨rfl,rfl⟩))
               all_goals
                go_wp2_with fail;go_meet;have f:∀ o,Fr wc.heap.size [] wc (wc.drew.alloc o):=fun o=>(Fr.refl _ _ _).drew.alloc (Nat.le_refl _) o;exact ⟨_,rfl,rfl,rfl,hxlt,htlt,M8.out.keep (f _),HX8.out.fr (f _) HX8.out.lt (by simp),Blk.new wc.drew _ _⟩
               -- >>
              case rest =>
               obtain ⟨gy,rfl,rfl,rfl,hxy,hty,M9,HX9,HY9⟩:=hcut;clear M8 HX8 e0 e1 e2 hxlt htlt hw2 hw3;obtain ⟨d2,hd2⟩:=nm (x.d - takesF i.1+leavesF i.1);obtain ⟨e2',he2⟩:∃ e2,e2=if i.1=14 then x.e+1 else x.e:=⟨_,rfl⟩
               rw [<- hd2] at HY9;have HD2:=zh hd2;have HE2:=zh he2;have y2:=HY9.out.cell 2;have v2:=HY9.out.frozen 2;simp at y2;have hwe:IntKind.i64.wrap (x.e+1)=x.e+1:=(by rw [IntKind.wrap_i64];omega);have hdy:=HY9.out.ne_own M9.out.dep (by decide);clear hd2;go_upto_if 148 with fail;go_cut [6,8,9] (fun s6 s8 s9 wx=>s6=.int .i64 n/\s8=.int .i64 i.1/\s9=.pointer (some ⟨gy,0,none⟩)/\Hid (TMem w k3 (k3+1) (k3+2) n (.slice (some ⟨gd,0,none⟩) n c1) (.slice (some ⟨gt,0,none⟩) m ct) { W with D:=updC W.D x.at_ x.d,todo:=td,met:=W.met ++ [x],mx:=max W.mx x.d,em:=max W.em x.e,u0:=useW W.u0 i true,u1:=useW W.u1 i false } wx)/\Hid (Blk wx gx 196 #[.int .i64 x.at_,.int .i64 x.d,.int .i64 x.e])/\Hid (Blk wx gy 196 #[.int .i64 ((x.at_:Int)+1),.int .i64 d2,.int .i64 e2']))
               case first =>
                as_aux_lemma =>
                by_cases h14:i.1=14
                ·
                 have b14:(i.1 == 14)=true:=by simpa using h14
                 rw [if_pos h14] at he2;subst he2;go_wp2_with fail;go_meet;exact ⟨rfl,by first | rfl | rw [h14],rfl,M9.out.keepL ((Fr.refl _ [gy] _).setCell (p:=⟨gy,2,none⟩) (.inr (by simp)) _) (by omega) hdy (by simp [Value.ownBlock];omega),HX9.out.far (p:=⟨gy,2,none⟩) (by show gx ≠ gy;omega) _,HY9.out.set_ 2 (.int .i64 (x.e+1))⟩
                ·
                 have b14:(i.1 == 14)=false:=by simpa using h14
                 rw [if_neg h14] at he2;subst he2;go_wp2_with fail;go_meet;exact ⟨rfl,rfl,rfl,M9.out,HX9.out,HY9.out⟩
                -- >>
               case rest =>
                obtain ⟨rfl,rfl,rfl,MA,HXA,HYA⟩:=hcut;clear M9 HX9 HY9 y2 v2 hwe hdy he2;have y0:=HYA.out.cell 0;have y1:=HYA.out.cell 1;have y2:=HYA.out.cell 2;simp at y0 y1 y2;have hylt:=HYA.out.lt;have htlt:=(MA.out.todo.lt gt rfl).2;have hxlt:=HXA.out.lt;have hbwc:bb < wc.heap.size:=(by have:=MA.out.fr.size;omega);have MB:=zh (MA.out.keep ((Fr.refl _ _ _).alloc (Nat.le_refl _) (.cells #[.int .i64 ((x.at_:Int)+1),.int .i64 d2,.int .i64 e2'] 196)));have HXB:=zh (HXA.out.fr ((Fr.refl wc.heap.size [] wc).alloc (Nat.le_refl _) (.cells #[.int .i64 ((x.at_:Int)+1),.int .i64 d2,.int .i64 e2'] 196)) HXA.out.lt (by simp));have HYB:=zh (HYA.out.fr ((Fr.refl wc.heap.size [] wc).alloc (Nat.le_refl _) (.cells #[.int .i64 ((x.at_:Int)+1),.int .i64 d2,.int .i64 e2'] 196)) HYA.out.lt (by simp));have HFB:=zh (Blk.new wc 196 #[.int .i64 ((x.at_:Int)+1),.int .i64 d2,.int .i64 e2']);have hwf:IntKind.i64.wrap ((x.at_:Int)+1+i.2)=(x.at_:Int)+1+i.2:=(by rw [IntKind.wrap_i64];omega);go_upto_region 34 with fail;have hdf:=HFB.out.ne_own MB.out.dep (by decide);have f0:=HFB.out.cell 0;have g0:=HFB.out.frozen 0;have e0:=HXB.out.cell 0;have q2:=(reads_ins (HR.out.fr MB.out.fr (Nat.le_refl _) (by simp)) HXI.out);obtain ⟨b2,off2,hAe,_,p1,p2⟩:=q2;injection hAe with hAe
                injection hAe with hAe1 hAe2
                subst hAe1 hAe2;simp only [List.getElem?_toArray,List.getElem?_cons_zero] at f0 e0;clear MA HXA HYA y0 y1 y2 hbwc;generalize wc.alloc _=wh at *;generalize wc.heap.size=gf at *;refine wp_region_still_tail 11 (by kernel_rfl) (by kernel_rfl) ?_;simp only [List.take_succ_cons,List.take_zero,List.drop_succ_cons,List.drop_zero]
                repeat still_step
                refine wpStill_nil ?_
                change wpList _ _ _ _ _ wh.drew
                have HYC:=zh (HYB.out.far (p:=⟨gf,0,none⟩) (by show gy ≠ gf;omega) (.int .i64 ((x.at_:Int)+1+i.2)));have HFC:=zh (HFB.out.set_ 0 (.int .i64 ((x.at_:Int)+1+i.2)));have MC:=zh ((MB.out.keep (Fr.refl _ _ _).drew).keepL ((Fr.refl _ [gf] wh.drew).setCell (p:=⟨gf,0,none⟩) (.inr (by simp)) (.int .i64 ((x.at_:Int)+1+i.2))) (by omega) hdf (by simp [Value.ownBlock];omega));clear hdf;go_upto_region 35 with fail;have hfx:=HFC.out.cell 0;have hfz:=HFC.out.frozen 0;simp at hfx;go_upto_if 169 with fail;go_cut [6,8,9,10] (fun s6 s8 s9 s10 wx=>∃ fa:Int,s6=.int .i64 n/\s8=.int .i64 i.1/\s9=.pointer (some ⟨gy,0,none⟩)/\s10=.pointer (some ⟨gf,0,none⟩)/\Hid (i.1=15 \/ i.1=16->fa=farF n x.at_ i.2)/\Hid (TMem w k3 (k3+1) (k3+2) n (.slice (some ⟨gd,0,none⟩) n c1) (.slice (some ⟨gt,0,none⟩) m ct) ⟨updC W.D x.at_ x.d,max W.mx x.d,max W.em x.e,useW W.u0 i true,useW W.u1 i false,W.met ++ [x],td⟩ wx)/\Hid (Blk wx gy 196 #[.int .i64 ((x.at_:Int)+1),.int .i64 d2,.int .i64 e2'])/\Hid (Blk wx gf 196 #[.int .i64 fa,.int .i64 d2,.int .i64 e2']))
                case first =>
                 as_aux_lemma =>
                 have hdf:=HFC.out.ne_own MC.out.dep (by decide);have HR5:=zh r5
                 by_cases hgn:(n:Int) < (x.at_:Int)+1+i.2
                 · go_wp2_with fail;go_meet;exact ⟨n,rfl,rfl,rfl,rfl,(fun ho=>by have:=HR5.out ho;unfold farF;omega),MC.out.keepL ((Fr.refl _ [gf] _).setCell (p:=⟨gf,0,none⟩) (.inr (by simp)) _) (by omega) hdf (by simp [Value.ownBlock];omega),HYC.out.far (p:=⟨gf,0,none⟩) (by show gy ≠ gf;omega) _,HFC.out.set_ 0 (.int .i64 n)⟩
                 · go_wp2_with fail;go_meet;exact ⟨_,rfl,rfl,rfl,rfl,(fun ho=>by have:=HR5.out ho;unfold farF;omega),MC.out,HYC.out,HFC.out⟩
                 -- >>
                case rest =>
                 obtain ⟨fa,rfl,rfl,rfl,rfl,HFA,MD,HYD,HFD⟩:=hcut;clear MB HXB HYB HFB MC HYC HFC f0 g0 e0 p1 p2 hfx hfz
                 have hto:wc.ownsRow (k3+2) 196 3 (.slice (some ⟨gt,0,none⟩) m ct) m (cellsT td):=by
                  have h:wc.ownsRow (k3+2) 196 3 (.slice (some ⟨gt,0,none⟩) m ct) td.length (cellsT td):=MD.out.todo
                  rwa [<- HM.out] at h
                 have sz:=MD.out.sz;have y0:=HYD.out.cell 0;have y1:=HYD.out.cell 1;have y2:=HYD.out.cell 2;have f0:=HFD.out.cell 0;have f1:=HFD.out.cell 1;have f2:=HFD.out.cell 2;simp at y0 y1 y2 f0 f1 f2;have hon:=WRun.on HW.out HT.out HMT.out hd8' he4' hatn HCF.out (by rw [<- HI.out];exact htk');rw [<- HI.out,succT_of HI.out,<- HE2.out,<- HD2.out] at hon;have HON:=zh hon;have hmt:m=td.length:=HM.out;clear hon;have hdt:gt ≠ gf:=(by omega)
                 by_cases h0:i.1=0
                 ·
                  as_aux_lemma =>
                  have hon:=HON.out;rw [show nextsF n x.at_ i=[] by unfold nextsF;rw [if_pos h0],List.map_nil] at hon;have HLEN:=zh (show (td ++ []).length=m by rw [List.append_nil,hmt]);rw [h0];clear hmt;go_wp2_with fail;go_roundg (2 * left n (W.met ++ [x])+(td ++ []).length)
                  case measure=>rw [HT.out];simp;omega
                  case rel=>exact ⟨⟨updC W.D x.at_ x.d,max W.mx x.d,max W.em x.e,useW W.u0 i true,useW W.u1 i false,W.met ++ [x],td ++ []⟩,some ⟨gt,0,none⟩,ct,rfl,(by rw [HT.out] at hbd;simp at hbd;show 2 * left n (W.met ++ [x])+(td ++ []).length<=3301;simp;omega),(by rw [HLEN.out]),.inr ⟨_,rfl⟩,.inr ⟨_,rfl⟩,.inr ⟨_,rfl⟩,zh hon,(by show TMem _ _ _ _ _ _ (.slice _ (td ++ []).length _) _ _;rw [HLEN.out];exact (by rw [List.append_nil];exact MD.out))⟩
                  -- >>
                 by_cases h16:i.1=16
                 ·
                  as_aux_lemma =>
                  have hon:=HON.out;have hfa:fa=farF n x.at_ i.2:=HFA.out (.inr h16);subst hfa;rw [show nextsF n x.at_ i=[farF n x.at_ i.2] by unfold nextsF;rw [if_neg h0,if_pos h16],List.map_cons,List.map_nil] at hon;have HLEN:=zh (show (td ++ [(⟨farF n x.at_ i.2,d2,e2'⟩:Tri)]).length=m+1 by simp [hmt]);rw [h16];clear hmt;go_wp2_with (at_builtin;refine wpList_app_lit _ rfl (.tmp 189) (.tmp 191) triTy rfl (k3+2) (.slice (some ⟨gt,0,none⟩) m ct) (m) _ rfl hto 1 1 _ rfl rfl (by simp [Value.oneCell']) (by omega) (by omega) (by omega) ?_;intro A2 c2 w3 hown2 hg2 hat2);have M3:=MD.out.growT (x:=⟨farF n x.at_ i.2,d2,e2'⟩) (by show w3.ownsRow _ _ 3 _ (td.length+1) _;rw [<- HM.out];exact hown2) hg2 hat2;clear hown2 hg2 hat2;go_roundg (2 * left n (W.met ++ [x])+(td ++ [(⟨farF n x.at_ i.2,d2,e2'⟩:Tri)]).length)
                  case measure=>rw [HT.out];simp;omega
                  case rel=>exact ⟨⟨updC W.D x.at_ x.d,max W.mx x.d,max W.em x.e,useW W.u0 i true,useW W.u1 i false,W.met ++ [x],td ++ [(⟨farF n x.at_ i.2,d2,e2'⟩:Tri)]⟩,A2,c2,rfl,(by rw [HT.out] at hbd;simp at hbd;show 2 * left n (W.met ++ [x])+(td ++ [(⟨farF n x.at_ i.2,d2,e2'⟩:Tri)]).length<=3301;simp;omega),(by rw [HLEN.out]),.inr ⟨_,rfl⟩,.inr ⟨_,rfl⟩,.inr ⟨_,rfl⟩,zh hon,(by show TMem _ _ _ _ _ _ (.slice _ (td ++ [(⟨farF n x.at_ i.2,d2,e2'⟩:Tri)]).length _) _ _;rw [HLEN.out];exact M3)⟩
                  -- >>
                 by_cases h15:i.1=15
                 ·
                  as_aux_lemma =>
                  have hon:=HON.out;have hfa:fa=farF n x.at_ i.2:=HFA.out (.inl h15);subst hfa;rw [show nextsF n x.at_ i=[x.at_+1,farF n x.at_ i.2] by unfold nextsF;rw [if_neg h0,if_neg h16,if_pos h15],List.map_cons,List.map_cons,List.map_nil] at hon;have HLEN:=zh (show (td ++ [(⟨x.at_+1,d2,e2'⟩:Tri),(⟨farF n x.at_ i.2,d2,e2'⟩:Tri)]).length=m+1+1 by simp [hmt]);rw [h15];clear hmt;go_upto_region 39 with (at_builtin;refine wpList_app_lit _ rfl (.tmp 179) (.tmp 181) triTy rfl (k3+2) (.slice (some ⟨gt,0,none⟩) m ct) (m) _ rfl hto 1 1 _ rfl rfl (by simp [Value.oneCell']) (by omega) (by omega) (by omega) ?_;intro A2 c2 w3 hown2 hg2 hat2)
                  have M3:=zh (MD.out.growT (x:=⟨x.at_+1,d2,e2'⟩) (by show w3.ownsRow _ _ 3 _ (td.length+1) _;rw [<- HM.out];exact hown2) hg2 hat2);have HF3:Hid (Blk w3 gf 196 #[.int .i64 (farF n x.at_ i.2:Nat),.int .i64 d2,.int .i64 e2']):=zh (Blk.app HFD.out hg2 (fun e=>hdt (Option.some.inj e)));clear hown2 hg2 hat2 hto y0 y1 y2 f0 f1 f2;have f0:=HF3.out.cell 0;have f1:=HF3.out.cell 1;have f2:=HF3.out.cell 2;simp at f0 f1 f2
                  have hto:w3.ownsRow (k3+2) 196 3 (.slice A2 (m+1) c2) (m+1) (cellsT (td ++ [(⟨x.at_+1,d2,e2'⟩:Tri)])):=by
                   have h:w3.ownsRow (k3+2) 196 3 (.slice A2 (m+1) c2) (td ++ [(⟨x.at_+1,d2,e2'⟩:Tri)]).length (cellsT (td ++ [(⟨x.at_+1,d2,e2'⟩:Tri)])):=M3.out.todo
                   rwa [show (td ++ [(⟨x.at_+1,d2,e2'⟩:Tri)]).length=m+1 by simp [HM.out]] at h
                  have sz:=M3.out.sz;go_wp2_with (at_builtin;refine wpList_app_lit _ rfl (.tmp 189) (.tmp 191) triTy rfl (k3+2) (.slice A2 (m+1) c2) (m+1) _ rfl hto 1 1 _ rfl rfl (by simp [Value.oneCell']) (by omega) (by omega) (by omega) ?_;intro A3 c3 w4 hown3 hg3 hat3);have M4:=M3.out.growT (x:=⟨farF n x.at_ i.2,d2,e2'⟩) (by show w4.ownsRow _ _ 3 _ ((td ++ [(⟨x.at_+1,d2,e2'⟩:Tri)]).length+1) _;rw [show (td ++ [(⟨x.at_+1,d2,e2'⟩:Tri)]).length=m+1 by simp [HM.out]];exact hown3) hg3 hat3;clear hown3 hg3 hat3;go_roundg (2 * left n (W.met ++ [x])+(td ++ [(⟨x.at_+1,d2,e2'⟩:Tri),(⟨farF n x.at_ i.2,d2,e2'⟩:Tri)]).length)
                  case measure=>rw [HT.out];simp;omega
                  case rel=>exact ⟨⟨updC W.D x.at_ x.d,max W.mx x.d,max W.em x.e,useW W.u0 i true,useW W.u1 i false,W.met ++ [x],td ++ [(⟨x.at_+1,d2,e2'⟩:Tri),(⟨farF n x.at_ i.2,d2,e2'⟩:Tri)]⟩,A3,c3,rfl,(by rw [HT.out] at hbd;simp at hbd;show 2 * left n (W.met ++ [x])+(td ++ [(⟨x.at_+1,d2,e2'⟩:Tri),(⟨farF n x.at_ i.2,d2,e2'⟩:Tri)]).length<=3301;simp;omega),(by rw [HLEN.out]),.inr ⟨_,rfl⟩,.inr ⟨_,rfl⟩,.inr ⟨_,rfl⟩,zh hon,(by show TMem _ _ _ _ _ _ (.slice _ (td ++ [(⟨x.at_+1,d2,e2'⟩:Tri),(⟨farF n x.at_ i.2,d2,e2'⟩:Tri)]).length _) _ _;rw [HLEN.out];exact (by rw [List.append_assoc] at M4;exact M4))⟩
                  -- >>
                 ·
                  as_aux_lemma =>
                  have hon:=HON.out;rw [show nextsF n x.at_ i=[x.at_+1] by unfold nextsF;rw [if_neg h0,if_neg h16,if_neg h15],List.map_cons,List.map_nil] at hon;have HLEN:=zh (show (td ++ [(⟨x.at_+1,d2,e2'⟩:Tri)]).length=m+1 by simp [hmt]);have b0:(i.1 != 0)=true:=(by simpa using h0);have b16:(i.1 != 16)=true:=(by simpa using h16);have c15:(i.1 == 15)=false:=(by simpa using h15);have c16:(i.1 == 16)=false:=(by simpa using h16);clear hmt h0 h16 h15;go_wp2_with (at_builtin;refine wpList_app_lit _ rfl (.tmp 179) (.tmp 181) triTy rfl (k3+2) (.slice (some ⟨gt,0,none⟩) m ct) (m) _ rfl hto 1 1 _ rfl rfl (by simp [Value.oneCell']) (by omega) (by omega) (by omega) ?_;intro A2 c2 w3 hown2 hg2 hat2);have M3:=MD.out.growT (x:=⟨x.at_+1,d2,e2'⟩) (by show w3.ownsRow _ _ 3 _ (td.length+1) _;rw [<- HM.out];exact hown2) hg2 hat2;clear hown2 hg2 hat2;go_roundg (2 * left n (W.met ++ [x])+(td ++ [(⟨x.at_+1,d2,e2'⟩:Tri)]).length)
                  case measure=>rw [HT.out];simp;omega
                  case rel=>exact ⟨⟨updC W.D x.at_ x.d,max W.mx x.d,max W.em x.e,useW W.u0 i true,useW W.u1 i false,W.met ++ [x],td ++ [(⟨x.at_+1,d2,e2'⟩:Tri)]⟩,A2,c2,rfl,(by rw [HT.out] at hbd;simp at hbd;show 2 * left n (W.met ++ [x])+(td ++ [(⟨x.at_+1,d2,e2'⟩:Tri)]).length<=3301;simp;omega),(by rw [HLEN.out]),.inr ⟨_,rfl⟩,.inr ⟨_,rfl⟩,.inr ⟨_,rfl⟩,zh hon,(by show TMem _ _ _ _ _ _ (.slice _ (td ++ [(⟨x.at_+1,d2,e2'⟩:Tri)]).length _) _ _;rw [HLEN.out];exact M3)⟩
                  -- >>
end Go.Proofs.YtgblfflikgnfpaaGreat
