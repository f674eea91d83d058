/- Texts merged into one, for the number of files a claim may have: CtE, CtF, RmA, RmB, DnS, DnT, R12, R13, TabB, R14, RmC, RmP, DnI, Pl12. -/
import Derived.Test.YtlejomlppjpchaaGreatTk
import Derived.Test.YtlejomlppjpchaaGreatRY5
import Derived.Test.YtlejomlppjpchaaGreatRY6
import Derived.Test.YtlejomlppjpchaaGreatRY7
import Derived.Test.YtlejomlppjpchaaGreatRY10
import Derived.Test.YtlejomlppjpchaaGreatRY13
import Derived.Test.YtlejomlppjpchaaGreatRY14
import Derived.Test.YtlejomlppjpchaaGreatRY17
import Derived.Test.YtlejomlppjpchaaGreatRY18
import Derived.Test.YtlejomlppjpchaaGreatRY19
import Derived.Shelf.SlMaps.Clone
namespace Go.Proofs.YtlejomlppjpchaaGreat
open Go.RowKit Go.Fb
set_option maxRecDepth 100000
set_option maxHeartbeats 16000000
set_option linter.unusedVariables false
theorem all1_any (p:Pk) (w:World):Calls Tryz.prog 58 #[pkV p] w fun e w'=>e=.returned (.bool true)/\Fr w.heap.size [] w w':=by
 go_enter Tryz.func58,Tryz.ntmps58;go_wp2_with fail;go_ret;exact ⟨rfl,(Fr.refl _ _ _).alloc (Nat.le_refl _) _⟩
theorem call_any (gt gm:Nat) (T:Pk->CV) (hok:TOk T) (w:World) (h:CT w gt gm T) :
  Calls Tryz.prog 16 #[.pointer (some ⟨gt,0,none⟩)] w (EntsOut (allT T) w):=by
 have H:=zh (csome_any 58 #[] (fun _=>true) gt gm T hok w h (enters_of Tryz.func58 (by kernel_rfl) rfl) (fun p w' _=>by exact all1_any p w'));obtain ⟨l,hl⟩:=nm (allT T);have H2:=zh (by rw [hl];exact H.out:Calls Tryz.prog 57 #[.pointer (some ⟨gt,0,none⟩),.func (.func 58) #[] #[]] w (EntsOut l w));rw [<- hl];clear H hl h hok;go_enter Tryz.func16,Tryz.ntmps16;go_wp2_with fail;refine H2.out.mono ?_;rintro e w' ⟨A,c,rfl,h1,h2,h3,h4⟩;have P:=zh (And.intro h1 (And.intro h2 (And.intro h3 h4)));clear h1 h2 h3 h4 H2;go_wp2_with fail;go_ret;exact ⟨A,c,rfl,P.out.1,P.out.2.1,P.out.2.2.1,P.out.2.2.2⟩
def ofB (node:Int) (xs:List Int) (p:Pk):Bool:=decide (p.1=node) && hasI xs (p.2 % 8)
theorem of1_any (gn gg:Nat) (node:Int) (Ag:Option Addr) (ng cg B:Nat) (xs:List Int) (p:Pk) (w:World) (h1:Blk w gn 3 #[.int .i64 node]) (h2:Blk w gg 43 #[.slice Ag ng cg]) (hn:ng=xs.length) (hm:ng<=1000000) (hr:Reads w B 1 Ag ng (xs.map (Value.int .i64))) (hB:B<=w.heap.size) :
  Calls Tryz.prog 217 #[pkV p,.pointer (some ⟨gn,0,none⟩),.pointer (some ⟨gg,0,none⟩)] w fun e w'=>e=.returned (.bool (ofB node xs p))/\Fr w.heap.size [] w w':=by
 have fa:=(Fr.refl w.heap.size [] w).alloc (Nat.le_refl _) (.cells #[.int .i64 p.1,.int .i64 p.2] 147);have B1:=zh (h1.alloc (.cells #[.int .i64 p.1,.int .i64 p.2] 147));have B2:=zh (h2.alloc (.cells #[.int .i64 p.1,.int .i64 p.2] 147));have BP:=zh (Blk.new w 147 #[.int .i64 p.1,.int .i64 p.2]);have HR:=zh (hr.fr fa hB (by simp));have FA:=zh fa;have hs1:w.heap.size < (w.alloc (.cells #[.int .i64 p.1,.int .i64 p.2] 147)).heap.size:=(by simp);obtain ⟨w1,hw1⟩:=nm (w.alloc (.cells #[.int .i64 p.1,.int .i64 p.2] 147));rw [<- hw1] at B1 B2 BP HR FA hs1;obtain ⟨g,hg⟩:=nm (w.heap.size);rw [<- hg] at BP;have HG:=zh hg;have HW:=zh hw1;have SF:=zh (fun (W:World) (h:Fr w1.heap.size [] w1 W)=>(⟨(BP.out.fr h BP.out.lt (by simp)).cell 0,(BP.out.fr h BP.out.lt (by simp)).cell 1,(B1.out.fr h B1.out.lt (by simp)).cell 0,(B2.out.fr h B2.out.lt (by simp)).cell 0⟩:W.cell? ⟨g,0,none⟩=some (.int .i64 p.1)/\W.cell? ⟨g,1,none⟩=some (.int .i64 p.2)/\W.cell? ⟨gn,0,none⟩=some (.int .i64 node)/\W.cell? ⟨gg,0,none⟩=some (.slice Ag ng cg)));have HCN:=zh (fun (W:World) (h:Fr w1.heap.size [] w1 W)=>ihas_any (p.2 % 8) Ag cg B ng xs W hn hm (HR.out.fr h (by omega) (by simp)) (by have:=h.size;omega));have HGR:=zh (group_any p.2);obtain ⟨v,hv⟩:=nm (ofB node xs p);obtain ⟨hb,hhb⟩:=nm (hasI xs (p.2 % 8));rw [<- hhb] at HCN;rw [<- hv];unfold ofB at hv;rw [<- hhb] at hv;clear h1 h2 hr hhb hg hw1 fa hn
 by_cases he:p.1=node
 ·
  have hbq:(p.1 == node)=true:=by simpa using he
  rw [decide_eq_true he,Bool.true_and] at hv;subst hv;have HEE:=zh he;clear he;go_enter Tryz.func217,Tryz.ntmps217;go_upto_region 1 with fail;rw [<- HW.out,<- HG.out];have INV:=zh (Fr.refl w1.heap.size [] w1).drew
  go_region_held3 (fun W=>W.cell? ⟨g,0,none⟩=some (.int .i64 p.1)/\W.cell? ⟨g,1,none⟩=some (.int .i64 p.2)/\W.cell? ⟨gn,0,none⟩=some (.int .i64 node)/\W.cell? ⟨gg,0,none⟩=some (.slice Ag ng cg)) (exact SF.out _ INV.out)
   ((first | (go_at_call 128;refine (HGR.out _).mono ?_;rintro e wv ⟨rfl,rfl⟩) | (go_at_call 119;refine (HCN.out _ INV.out).mono ?_;rintro e wv ⟨rfl,fv⟩;have INV:=zh (INV.out.trans (fv.mono INV.out.size (by simp)));clear fv)))
  all_goals
   go_wp2_with fail;go_ret;exact ⟨rfl,FA.out.trans (INV.out.mono FA.out.size (by simp))⟩
 ·
  have hbq:(p.1 == node)=false:=by simpa using he
  rw [decide_eq_false he,Bool.false_and] at hv;subst hv;clear he;go_enter Tryz.func217,Tryz.ntmps217;go_upto_region 1 with fail;rw [<- HW.out,<- HG.out];obtain ⟨s0,s1,s2,s3⟩:=SF.out w1 (Fr.refl _ _ _);go_quiet (fail);go_wp2_with fail;go_ret;exact ⟨rfl,FA.out.drewN _⟩
theorem cof_any (gt gm:Nat) (T:Pk->CV) (hok:TOk T) (node:Int) (Ag:Option Addr) (ng cg B:Nat) (xs:List Int) (w:World) (h:CT w gt gm T) (hn:ng=xs.length) (hm:ng<=1000000) (hr:Reads w B 1 Ag ng (xs.map (Value.int .i64))) (hB:B<=w.heap.size) :
  Calls Tryz.prog 184 #[.pointer (some ⟨gt,0,none⟩),.int .i64 node,.slice Ag ng cg] w (EntsOut (someE (ofB node xs) T) w):=by
 have fa:=((Fr.refl w.heap.size [] w).alloc (Nat.le_refl _) (.cells #[.int .i64 node] 3)).alloc (by simp) (.cells #[.slice Ag ng cg] 43);have b1:=(Blk.new w 3 #[.int .i64 node]).alloc (.cells #[.slice Ag ng cg] 43);have b2:=Blk.new (w.alloc (.cells #[.int .i64 node] 3)) 43 #[.slice Ag ng cg];rw [World.size_alloc] at b2;have hs1:w.heap.size+1 < ((w.alloc (.cells #[.int .i64 node] 3)).alloc (.cells #[.slice Ag ng cg] 43)).heap.size:=(by simp);have CT1:=h.keep fa;have hr1:=hr.fr fa hB (by simp);obtain ⟨w1,hw1⟩:=nm ((w.alloc (.cells #[.int .i64 node] 3)).alloc (.cells #[.slice Ag ng cg] 43));rw [<- hw1] at fa b1 b2 CT1 hr1 hs1;obtain ⟨l,hl⟩:=nm (someE (ofB node xs) T)
 have H := zh (by
  rw [hl]
  exact csome_any 217 #[.pointer (some ⟨w.heap.size,0,none⟩),.pointer (some ⟨w.heap.size+1,0,none⟩)] (ofB node xs) gt gm T hok w1 CT1 (enters_of Tryz.func217 (by kernel_rfl) rfl) (fun p w' hf=>by exact of1_any w.heap.size (w.heap.size+1) node Ag ng cg B xs p w' (b1.fr hf b1.lt (by simp)) (b2.fr hf b2.lt (by simp)) hn hm (hr1.fr hf (by omega) (by simp)) (by have:=hf.size;omega)):Calls Tryz.prog 57 #[.pointer (some ⟨gt,0,none⟩),.func (.func 217) #[] #[.pointer (some ⟨w.heap.size,0,none⟩),.pointer (some ⟨w.heap.size+1,0,none⟩)]] w1 (EntsOut l w1))
 have HW:=zh hw1;have FA:=zh fa;rw [<- hl];clear hl h hok b1 b2 CT1 hr hr1 fa hw1 hn;go_enter Tryz.func184,Tryz.ntmps184;go_upto_region 1 with fail;rw [<- HW.out];go_wp2_with fail;refine H.out.mono ?_;rintro e w' ⟨A,c,rfl,h1,h2,h3,h4⟩;have P:=zh (And.intro h1 (And.intro h2 (And.intro h3 h4)));clear h1 h2 h3 h4 H;go_wp2_with fail;go_ret;exact ⟨A,c,rfl,P.out.1,P.out.2.1,fun ad had=>by have:=P.out.2.2.1 ad had;omega,FA.out.trans (P.out.2.2.2.mono FA.out.size (by simp))⟩
def dropQ (q:Pk->Bool) (T:Pk->CV):Pk->CV:=fun p=>if q p=true then c0 else T p
def delP (T:Pk->CV) (P:List Pk):Pk->CV:=P.foldl (fun T p=>updT T p c0) T
theorem delP_snoc (T:Pk->CV) (P:List Pk) (p:Pk):delP T (P ++ [p])=updT (delP T P) p c0:=by unfold delP;rw [List.foldl_append];rfl
theorem delP_at:∀ (P:List Pk) (T:Pk->CV) (p:Pk),delP T P p=if p ∈ P then c0 else T p
 | [],T,p=>by simp [delP]
 | a :: P,T,p=>by
  have ih:=delP_at P (updT T a c0) p;have e:delP T (a :: P)=delP (updT T a c0) P:=rfl;rw [e,ih]
  by_cases h:p ∈ P
  · simp [h]
  ·
   by_cases h2:p=a
   · simp [h2,updT]
   · simp [h,h2,updT]
theorem delP_some {q:Pk->Bool} {T:Pk->CV} (hok:TOk T):delP T (someT q T)=dropQ q T:=by
 funext p
 rw [delP_at];unfold dropQ
 by_cases hq:q p=true
 ·
  rw [if_pos hq]
  by_cases hT:T p=c0
  · rw [hT];simp
  · rw [if_pos (someT_mem.2 ⟨(hok p hT).1,hT,hq⟩)]
 · rw [if_neg hq,if_neg (fun h=>hq (someT_mem.1 h).2.2)]
theorem TOk.drop {T:Pk->CV} (h:TOk T) (q:Pk->Bool):TOk (dropQ q T):=by
 intro p hp;unfold dropQ at hp ⊢
 by_cases hq:q p=true
 · rw [if_pos hq] at hp;exact absurd rfl hp
 · rw [if_neg hq] at hp ⊢;exact h p hp
def DropOut (gt gm:Nat) (T:Pk->CV) (w:World) (e:Ending) (w':World):Prop:=e=.returned (.tuple #[])/\CT w' gt gm T/\Fr w.heap.size [gm] w w'
theorem cdrop_any (gt gm:Nat) (T:Pk->CV) (hok:TOk T) (node:Int) (Ag:Option Addr) (ng cg B:Nat) (xs:List Int) (w:World) (h:CT w gt gm T) (hn:ng=xs.length) (hm:ng<=1000000) (hr:Reads w B 1 Ag ng (xs.map (Value.int .i64))) (hB:B<=w.heap.size) :
  Calls Tryz.prog 146 #[.pointer (some ⟨gt,0,none⟩),.int .i64 node,.slice Ag ng cg] w (DropOut gt gm (dropQ (ofB node xs) T) w):=by
 have H:=zh (cof_any gt gm T hok node Ag ng cg B xs w h hn hm hr hB);obtain ⟨P,hP⟩:=nm (someT (ofB node xs) T);have HEND:=zh (show delP T P=dropQ (ofB node xs) T by rw [hP];exact delP_some hok)
 have HPN := zh (show ∀ p ∈ P, p.1 = node from fun p hp => by
  rw [hP] at hp;have:=(someT_mem.1 hp).2.2;unfold ofB at this;rw [Bool.and_eq_true] at this
  exact of_decide_eq_true this.1)
 have hlen:P.length<=512:=by
  rw [hP];unfold someT;refine Nat.le_trans (List.length_filter_le _ _) ?_;unfold plcs;simp
 have HL:=zh (show someE (ofB node xs) T=P.map fun p=>entF p (T p) by rw [hP];rfl);obtain ⟨l,hl⟩:=nm (someE (ofB node xs) T);rw [<- hl] at H HL;obtain ⟨TD,hTD⟩:=nm (dropQ (ofB node xs) T);rw [<- hTD] at HEND ⊢;have HC:=zh h;have hltm:=h.mp.lt;have hltt:=h.bk.lt;have hll:l.length=P.length:=(by rw [HL.out,List.length_map]);obtain ⟨n,hnl⟩:=nm (l.length);have HN:=zh hnl;have hn512:n<=512:=(by omega);clear h hP hl hTD hr hn hok;unfold EntsOut at H;rw [<- hnl] at H;clear hnl hll;go_enter Tryz.func146,Tryz.ntmps146;go_wp2_with fail;refine H.out.mono ?_;rintro e w1 ⟨A,c,rfl,h1,h2,h3,h4⟩;have HR:=zh h1;have HAP:=zh (show 0 < n -> ∀ ad,A=some ad->ad.block ∉ [gm] from fun _ ad had=>by have:=h3 ad had;simp;omega);have F1:=zh h4;have HC1:=zh (HC.out.keep h4);have hs1:=h4.size;clear h1 h3 h4 H HC;go_wp2_with fail;go_loopg [7,13] n (fun g s7 s13 wr=>∃ k:Nat,k<=n/\g=n - k/\s13=.int .i64 k/\(s7=undef \/ ∃ a,s7=.pointer a)/\Hid (CT wr gt gm (delP T (P.take k)))/\Hid (Fr w1.heap.size [gm] w1 wr))
 case atStart=>exact ⟨0,Nat.zero_le _,rfl,rfl,.inl rfl,HC1,zh (Fr.refl _ _ _)⟩
 case round =>
  obtain ⟨k,hk,rfl,rfl,hs7,C,F⟩:=hrel
  by_cases hkn:k < n
  ·
   have hki:(k:Int) < (n:Int):=by omega
   have hkP:k < P.length:=(by have:=HN.out;rw [HL.out,List.length_map] at this;omega);obtain ⟨p,hp⟩:∃ p,P[k]?=some p:=⟨_,List.getElem?_eq_getElem hkP⟩;have hx:l[k]?=some (entF p (T p)):=(by rw [HL.out,List.getElem?_map,hp];rfl);obtain ⟨t,ht⟩:=nm (T p);rw [<- ht] at hx;obtain ⟨b,off,rfl,hb,hc⟩:=reads_ent (by rw [<- HN.out];exact HR.out.frL F.out (Nat.le_refl _) HAP.out) hx;have p0:wr.cell? ⟨b,off+(k * 6+0),none⟩=some (.int .i64 p.1):=hc 0 (by omega);have p1:wr.cell? ⟨b,off+(k * 6+1),none⟩=some (.int .i64 p.2):=hc 1 (by omega);have p2:wr.cell? ⟨b,off+(k * 6+2),none⟩=some (.int .i64 t.1):=hc 2 (by omega);have p3:wr.cell? ⟨b,off+(k * 6+3),none⟩=some (.int .i64 t.2.1):=hc 3 (by omega);have p4:wr.cell? ⟨b,off+(k * 6+4),none⟩=some (.int .i64 t.2.2.1):=hc 4 (by omega);have p5:wr.cell? ⟨b,off+(k * 6+5),none⟩=some (.int .i64 t.2.2.2):=hc 5 (by omega);simp only [Nat.add_zero,<- Nat.add_assoc] at p0 p1 p2 p3 p4 p5;have HTK:=zh (show delP T (P.take (k+1))=updT (delP T (P.take k)) p c0 by rw [List.take_add_one,hp];exact delP_snoc _ _ _);have hpn:=HPN.out p (List.mem_of_getElem? hp);have HPE:=zh hpn;clear hpn;clear hc hx hp ht;have BX:=zh (Blk.new wr 111 #[.int .i64 p.1,.int .i64 p.2,.int .i64 t.1,.int .i64 t.2.1,.int .i64 t.2.2.1,.int .i64 t.2.2.2]);have fx:=(Fr.refl wr.heap.size [] wr).alloc (Nat.le_refl _) (.cells #[.int .i64 p.1,.int .i64 p.2,.int .i64 t.1,.int .i64 t.2.1,.int .i64 t.2.2.1,.int .i64 t.2.2.2] 111);have C1:=zh (C.out.keep fx);have F2:=zh (F.out.trans (fx.mono (B':=w1.heap.size) (L':=[gm]) F.out.size (by simp)));clear fx;go_upto_region 3 with fail;generalize wr.alloc _=wa at *;generalize wr.heap.size=ga at *;obtain ⟨w3,hdel,hm3,f3,hs3⟩:=(C1.out.mp.fr (Fr.refl wa.heap.size [] wa).drew C1.out.mp.lt (by simp)).del p;have x1:=BX.out.cell 1;have t0:=C1.out.bk.cell 0;simp at x1 t0;have x1d:wa.drew.cell? ⟨ga,1,none⟩=some (.int .i64 p.2):=x1;have t0d:wa.drew.cell? ⟨gt,0,none⟩=some (.map (some gm)):=t0;have HM3:=zh hm3;have F3:=zh (F2.out.trans (((Fr.refl wa.heap.size [gm] wa).drew.trans f3).mono (B':=w1.heap.size) (L':=[gm]) F2.out.size (by simp)));have C3:=zh (show CT w3 gt gm (updT (delP T (P.take k)) p c0) from ⟨C1.out.bk.drew.fr f3 C1.out.bk.lt (by simp only [List.mem_singleton];exact fun e=>C1.out.mp.ne C1.out.bk e.symm),hm3⟩);have hdel2:∀ ty,(Builtin.delete_ #[203,147] ty #[.map (some gm),.agg #[.int .i64 node,.int .i64 p.2]]).run Tryz.prog wa.drew=.ok (.tuple #[]) w3:=fun ty=>by rw [<- HPE.out];exact hdel ty
   clear hm3 f3 hs3 hdel p0 p1 p2 p3 p4 p5 x1 t0;have t0w:wa.cell? ⟨gt,0,none⟩=some (.map (some gm)):=t0d;have x1w:wa.cell? ⟨ga,1,none⟩=some (.int .i64 p.2):=x1d;go_region_with fail
   all_goals
    go_wp2_with fail;go_roundg (n - (k+1))
    case measure=>omega
    case rel=>exact ⟨k+1,by omega,rfl,by go_num,.inr ⟨_,rfl⟩,by rw [HTK.out];exact C3,F3⟩
  ·
   obtain rfl:n=k:=by omega
   have hC:=C.out;rw [List.take_of_length_le (by have:=HN.out;rw [HL.out,List.length_map] at this;omega),HEND.out] at hC;have HC9:=zh hC;clear hC;go_wp2_with fail;exact bodyPost_ret (results_none rfl _ _ _) rfl ⟨rfl,HC9.out,(F1.out.mono (by simp) (by simp)).trans (F.out.mono hs1 (by simp))⟩
end Go.Proofs.YtlejomlppjpchaaGreat
namespace Go.Proofs.YtlejomlppjpchaaGreat
open Go.RowKit Go.Fb Go.Maps
set_option maxRecDepth 100000
set_option maxHeartbeats 16000000
set_option linter.unusedVariables false

end Go.Proofs.YtlejomlppjpchaaGreat
namespace Go.Proofs.YtlejomlppjpchaaGreat
open Go.RowKit Go.Fb
set_option maxRecDepth 100000
set_option maxHeartbeats 16000000
set_option linter.unusedVariables false
def intsK (k:Nat):List Int:=(List.range k).map fun j:Nat=>(j:Int)
theorem intsK_succ (k:Nat):intsK (k+1)=intsK k ++ [(k:Int)]:=by unfold intsK;rw [List.range_succ,List.map_append];rfl
theorem intsK_has (x:Int):hasI (intsK 8) (x % 8)=true:=by
 unfold hasI intsK;rw [List.any_eq_true];refine ⟨x % 8,List.mem_map.2 ⟨(x % 8).toNat,List.mem_range.2 (by omega),by omega⟩,by simp⟩
theorem rall_any (w:World):Calls Tryz.prog 147 #[] w fun e w'=>∃ A c,e=.returned (.slice A 8 c)/\Reads w' w'.heap.size 1 A 8 ((intsK 8).map (Value.int .i64))/\Fr w.heap.size [] w w':=by
 go_enter Tryz.func147,Tryz.ntmps147;go_wp2_with fail;go_loopg [1,2,3] 8 (fun g s1 s2 s3 wr=>∃ (k:Nat) (A:Option Addr) (c:Nat),k<=8/\g=8 - k/\s1=.slice A k c/\s3=.int .i64 k/\(s2=undef \/ ∃ i:Int,s2=.int .i64 i)/\Hid (wr.ownsRow w.heap.size 3 1 (.slice A k c) k ((intsK k).map (Value.int .i64)))/\Hid (Fr w.heap.size [] w wr))
 case atStart=>exact ⟨0,none,0,by omega,rfl,rfl,rfl,.inl rfl,zh (World.ownsRow_nil _ _ _ _),zh (Fr.refl _ _ _)⟩
 case round =>
  obtain ⟨k,A,c,hk,rfl,rfl,rfl,hs2,HO,F⟩:=hrel
  by_cases hk8:k < 8
  ·
   have hki:(k:Int) < 8:=by omega
   have hsz:w.heap.size<=wr.heap.size:=F.out.size;go_wp2_with (at_builtin;refine wpList_app_lit wr rfl (.tmp 6) (.tmp 8) intsTy rfl w.heap.size (.slice A k c) k ((intsK k).map (Value.int .i64)) rfl HO.out 1 1 #[.int .i64 (k:Int)] rfl rfl (by simp [Value.oneCell']) (by omega) (by omega) hsz ?_;intro A2 c2 w2 hown2 hg2 hat2);have HO2:=zh (show w2.ownsRow w.heap.size 3 1 (.slice A2 (k+1) c2) (k+1) ((intsK (k+1)).map (Value.int .i64)) by rw [intsK_succ,List.map_append];exact hown2);have F2:=zh ((F.out.alloc hsz _).grown hg2 (by simp;omega) (fun q hq=>.inl (HO.out.lt q hq).1));clear hown2 hg2 hat2;go_roundg (8 - (k+1))
   case measure=>omega
   case rel=>exact ⟨k+1,A2,c2,by omega,rfl,rfl,by go_num,.inr ⟨_,rfl⟩,HO2,F2⟩
  ·
   obtain rfl:k=8:=by omega
   go_wp2_with fail;go_ret;exact ⟨A,c,rfl,Reads.of_own HO.out,F.out⟩
def dropsB (s:Stp):Bool:=(decide (s.kind=1) && s.rs) || (decide (s.kind=3) || decide (s.kind=2))
def nodeQ (id:Int) (p:Pk):Bool:=decide (p.1=id)
def keptT (s:Stp) (T:Pk->CV):Pk->CV:=if dropsB s=true then dropQ (nodeQ s.nd.id) T else T
def stpE (s:Stp):Int:=if s.kind < 1 \/ 5 < s.kind then 11 else 0
theorem ofB_all (id:Int):ofB id (intsK 8)=nodeQ id:=by
 funext p
 unfold ofB nodeQ;rw [intsK_has,Bool.and_true]
theorem TOk.kept {T:Pk->CV} (h:TOk T) (s:Stp):TOk (keptT s T):=by
 unfold keptT
 split
 · exact h.drop _
 · exact h
def RmOut (gt gm:Nat) (r:Int) (T:Pk->CV) (w:World) (e:Ending) (w':World):Prop:=e=.returned (.int .i64 r)/\CT w' gt gm T/\Fr w.heap.size [gm] w w'
theorem rm_bad {s:Stp} (h:s.kind < 1 \/ 5 < s.kind):stpE s=11:=if_pos h
theorem rm_ok {s:Stp} (h:1<=s.kind/\s.kind<=5):stpE s=0:=if_neg (by omega)
theorem rmstep_any (gt gm:Nat) (T:Pk->CV) (hok:TOk T) (s:Stp) (sf sp:Value) (w:World) (h:CT w gt gm T) :
  Calls Tryz.prog 99 #[.pointer (some ⟨gt,0,none⟩),.agg (stV s sf sp)] w (RmOut gt gm (stpE s) (if stpE s=0 then keptT s T else T) w):=by
 have fa:=(Fr.refl w.heap.size [] w).alloc (Nat.le_refl _) (.cells #[.int .i64 s.kind,.int .i64 s.nd.id,.int .i64 s.nd.kind,sf,sp,.int .i64 s.nd.par,.int .i64 (s.nd.rt 0),.int .i64 (s.nd.rt 1),.int .i64 (s.nd.rt 2),.int .i64 (s.nd.rt 3),.int .i64 (s.nd.rt 4),.int .i64 (s.nd.rt 5),.int .i64 (s.nd.rt 6),.int .i64 (s.nd.rt 7),.bool s.rs] 215);have BS:=zh (Blk.new w 215 #[.int .i64 s.kind,.int .i64 s.nd.id,.int .i64 s.nd.kind,sf,sp,.int .i64 s.nd.par,.int .i64 (s.nd.rt 0),.int .i64 (s.nd.rt 1),.int .i64 (s.nd.rt 2),.int .i64 (s.nd.rt 3),.int .i64 (s.nd.rt 4),.int .i64 (s.nd.rt 5),.int .i64 (s.nd.rt 6),.int .i64 (s.nd.rt 7),.bool s.rs]);have HC:=zh (h.keep fa);have FA:=zh fa;obtain ⟨w1,hw1⟩:=nm (w.alloc (.cells #[.int .i64 s.kind,.int .i64 s.nd.id,.int .i64 s.nd.kind,sf,sp,.int .i64 s.nd.par,.int .i64 (s.nd.rt 0),.int .i64 (s.nd.rt 1),.int .i64 (s.nd.rt 2),.int .i64 (s.nd.rt 3),.int .i64 (s.nd.rt 4),.int .i64 (s.nd.rt 5),.int .i64 (s.nd.rt 6),.int .i64 (s.nd.rt 7),.bool s.rs] 215));rw [<- hw1] at BS HC FA;obtain ⟨g,hg⟩:=nm (w.heap.size);rw [<- hg] at BS;have HG:=zh hg;have HW:=zh hw1;have k0:=BS.out.cell 0;have k1:=BS.out.cell 1;have k14:=BS.out.cell 14;simp at k0 k1 k14;have hgm:g ≠ gm:=fun e=>HC.out.mp.ne BS.out e.symm;have HK1:=zh (fun (W:World) (hf:Fr w1.heap.size [gm] w1 W)=>(hf.cell (p:=⟨g,1,none⟩) BS.out.lt (by simpa using hgm)).trans k1);have hlm:gm < w.heap.size:=h.mp.lt;clear h fa hw1 hg
 by_cases hk0:s.kind < 1
 · have hr:=rm_bad (s:=s) (.inl hk0);rw [hr,if_neg (by decide)];clear hr;go_enter Tryz.func99,Tryz.ntmps99;go_upto_region 1 with fail;rw [<- HW.out,<- HG.out];go_wp2_with fail;go_ret;exact ⟨rfl,HC.out,FA.out.mono (by simp) (by simp)⟩
 by_cases hk5:5 < s.kind
 · have hr:=rm_bad (s:=s) (.inr hk5);rw [hr,if_neg (by decide)];clear hr;go_enter Tryz.func99,Tryz.ntmps99;go_upto_region 1 with fail;rw [<- HW.out,<- HG.out];go_wp2_with fail;go_ret;exact ⟨rfl,HC.out,FA.out.mono (by simp) (by simp)⟩
 have hk1:1<=s.kind:=(by omega);have hk6:s.kind<=5:=(by omega);rw [rm_ok ⟨hk1,hk6⟩,if_pos rfl]
 have HD := zh (fun (W : World) (A : Option Addr) (c : Nat) (hc : CT W gt gm T) (hr : Reads W W.heap.size 1 A 8 ((intsK 8).map (Value.int .i64))) => (by
  have:=cdrop_any gt gm T hok s.nd.id A 8 c W.heap.size (intsK 8) W hc rfl (by omega) hr (Nat.le_refl _);rw [ofB_all] at this
  exact this:Calls Tryz.prog 146 #[.pointer (some ⟨gt,0,none⟩),.int .i64 s.nd.id,.slice A 8 c] W (DropOut gt gm (dropQ (nodeQ s.nd.id) T) W)))
 obtain ⟨db,hdb⟩:=nm (dropsB s);obtain ⟨TK,hTK⟩:=nm (keptT s T);have HTK:=zh hTK;have HDB:=zh hdb;rw [<- hTK];clear hTK hdb hk0 hk5;obtain ⟨kd,hkd⟩:=nm (s.kind);obtain ⟨rs,hrs⟩:=nm (s.rs);have HKD:=zh hkd;have HRS:=zh hrs;rw [<- hkd] at k0 hk1 hk6;rw [<- hrs] at k14;clear hkd hrs
 cases db with
 | true =>
  have HT2:=zh (show TK=dropQ (nodeQ s.nd.id) T by rw [HTK.out];unfold keptT;rw [if_pos HDB.out.symm])
  have hor:(kd=1/\rs=true) \/ kd=3 \/ kd=2:=by
   have:=HDB.out;unfold dropsB at this;rw [<- HKD.out,<- HRS.out] at this;simpa using this.symm
  go_enter Tryz.func99,Tryz.ntmps99;go_upto_region 1 with fail;rw [<- HW.out,<- HG.out];go_upto_region 5 with fail;go_cut [33] (fun s33 wx=>s33=.bool true/\wx=w1)
  case first =>
   rcases hor with ⟨rfl,rfl⟩ | rfl | rfl
   · go_wp2_with fail;go_meet;exact ⟨rfl,rfl⟩
   · go_wp2_with fail;go_meet;exact ⟨rfl,rfl⟩
   · go_wp2_with fail;go_meet;exact ⟨rfl,rfl⟩
  case rest =>
   obtain ⟨rfl,hwc⟩:=hcut;subst hwc;go_upto_region 6 with fail;have INV:=zh ((Fr.refl wc.heap.size [gm] wc).drew);have INC:=zh (show CT wc.drew gt gm T from ⟨HC.out.bk.drew,HC.out.mp.fr (Fr.refl wc.heap.size [] wc).drew HC.out.mp.lt (by simp)⟩)
   go_region_held3 (fun W=>W.cell? ⟨g,1,none⟩=some (.int .i64 s.nd.id)) (exact HK1.out _ INV.out)
    ((first | (go_at_call 147;refine (rall_any _).mono ?_;rintro e wv ⟨Av,cv,rfl,hrv,fv⟩;have INV:=zh (INV.out.trans (fv.mono (B':=_) (L':=[gm]) INV.out.size (by simp)));have INC:=zh (INC.out.keep fv);have HRV:=zh hrv;clear fv hrv) | (go_at_call 146;refine (HD.out _ _ _ INC.out HRV.out).mono ?_;rintro e wd ⟨rfl,hcd,fd⟩;have INV:=zh (INV.out.trans (fd.mono (B':=_) (L':=[gm]) INV.out.size (by simp)));have INC2:=zh hcd;clear fd hcd)))
   all_goals
    go_wp2_with fail;go_ret;refine ⟨rfl,?_,(FA.out.mono (by simp) (by simp)).trans (INV.out.mono FA.out.size (by simp))⟩;rw [HT2.out];exact INC2.out
 | false =>
  have HT2:=zh (show TK=T by rw [HTK.out];unfold keptT;rw [if_neg (by rw [<- HDB.out];simp)])
  have hno:¬ ((kd=1/\rs=true) \/ kd=3 \/ kd=2):=by
   have:=HDB.out;unfold dropsB at this;rw [<- HKD.out,<- HRS.out] at this;intro hc;have h2:((decide (kd=1) && rs) || (decide (kd=3) || decide (kd=2)))=true:=(by simpa using hc);rw [<- this] at h2
   cases h2
  have hkk:(kd=1/\rs=false) \/ kd=4 \/ kd=5:=by
   cases rs <;> simp at hno ⊢ <;> omega
  clear hno;go_enter Tryz.func99,Tryz.ntmps99;go_upto_region 1 with fail;rw [<- HW.out,<- HG.out];go_upto_region 5 with fail;go_cut [33] (fun s33 wx=>s33=.bool false/\wx=w1)
  case first =>
   rcases hkk with ⟨rfl,rfl⟩ | rfl | rfl
   · go_wp2_with fail;go_meet;exact ⟨rfl,rfl⟩
   · go_wp2_with fail;go_meet;exact ⟨rfl,rfl⟩
   · go_wp2_with fail;go_meet;exact ⟨rfl,rfl⟩
  case rest =>
   obtain ⟨rfl,hwc⟩:=hcut;subst hwc;go_wp2_with fail;go_ret;exact ⟨rfl,by rw [HT2.out];exact HC.out,FA.out.mono (by simp) (by simp)⟩
def kepS (T:Pk->CV) (s:Stp):Pk->CV:=if stpE s=0 then keptT s T else T
def kepL (T:Pk->CV) (P:List Stp):Pk->CV:=P.foldl kepS T
theorem kepL_snoc (T:Pk->CV) (P:List Stp) (s:Stp):kepL T (P ++ [s])=kepS (kepL T P) s:=by unfold kepL;rw [List.foldl_append];rfl
theorem TOk.kepS {T:Pk->CV} (h:TOk T) (s:Stp):TOk (kepS T s):=by
 unfold Go.Proofs.YtlejomlppjpchaaGreat.kepS
 split
 · exact h.kept s
 · exact h
theorem TOk.kepL:∀ {P:List Stp} {T:Pk->CV},TOk T->TOk (kepL T P)
 | [],_,h=>h
 | s :: P,T,h=>TOk.kepL (P:=P) (h.kepS s)
def RmApOut (gt gm:Nat) (T:Pk->CV) (P:List Stp) (r:Int × Nat × List Nd) (w:World) (e:Ending) (w':World):Prop :=
 (r.1 ≠ 0/\e=.returned (.tuple #[.slice none 0 0,.int .i64 (r.2.1:Int),.int .i64 r.1])/\CT w' gt gm T/\Fr w.heap.size [] w w') \/
 (r.1=0/\∃ A c n M,e=.returned (.tuple #[.slice A n c,.int .i64 0,.int .i64 0])/\Nmd w.heap.size w' A n c M/\fstN M=r.2.2/\RightG r.2.2/\CT w' gt gm (kepL T P)/\Fr w.heap.size [gm] w w')
theorem rmapply_any2 (gt gm:Nat) (T:Pk->CV) (hok:TOk T) (A A2:Option Addr) (c c2 B B2 n n2:Nat) (M:List Ndm) (S:List Stm) (w:World) (hct:CT w gt gm T) (h:Nds w B A n M) (hB:B<=w.heap.size) (hs:Small M) (hS:Sts w B2 A2 n2 S) (hB2:B2<=w.heap.size) (hss:SmallS S) (hn2:n2<=1000000) (hBm:B2<=gm) :
  Calls Tryz.prog 54 #[.pointer (some ⟨gt,0,none⟩),.slice A n c,.slice A2 n2 c2] w (RmApOut gt gm T (fstS S) (applyN (fstN M) (fstS S)) w):=by
 obtain ⟨P,hP⟩:=nm (fstS S);obtain ⟨r,hr⟩:=nm (applyN (fstN M) (fstS S));have HAP:=zh (by rw [hr];exact papply_any A A2 c c2 w.heap.size n n2 M S w (h.more hB) (Nat.le_refl _) hs (hS.more hB2) hss hn2:Calls Tryz.prog 98 #[.slice A n c,.slice A2 n2 c2] w (ApOut r w));rw [<- hr,<- hP];have HP:=zh hP;have HNU:=zh hS.num;have HST:=zh hS;have HCT:=zh hct;have HOK:=zh hok;have hlm:=hct.mp.lt;clear h hs hS hss hct hr hP hok;go_enter Tryz.func54,Tryz.ntmps54;go_wp2_with fail;refine HAP.out.mono ?_;rintro e w1 (⟨e1,rfl,f1⟩ | ⟨e1,A5,c5,n5,M5,rfl,hn5,hf5,hr5,f1⟩)
 · have E1:=zh e1;have hcb:=kd_ne e1;have hcn:(r.1 != 0)=true:=(by simpa using e1);have HC1:=zh (HCT.out.keep f1);have F1:=zh f1;clear e1 f1 HAP;go_wp2_with fail;go_ret3;exact .inl ⟨E1.out,rfl,HC1.out,F1.out⟩
 have HC1:=zh (HCT.out.keep f1);have F1:=zh f1;have HN5:=zh hn5;have HF5:=zh hf5;have HR5:=zh hr5;have E1:=zh e1;have hs1:=f1.size;have hlm1:gm < w1.heap.size:=(by omega);clear e1 f1 hn5 hf5 hr5 HAP HCT;go_wp2_with fail;go_loopg [13,29] n2 (fun g s13 s29 wr=>∃ k:Nat,k<=n2/\g=n2 - k/\s29=.int .i64 k/\(s13=undef \/ ∃ a,s13=.pointer a)/\Hid (CT wr gt gm (kepL T (P.take k)))/\Hid (Fr w1.heap.size [gm] w1 wr))
 case atStart=>exact ⟨0,Nat.zero_le _,rfl,rfl,.inl rfl,HC1,zh (Fr.refl _ _ _)⟩
 case round =>
  clear HC1;obtain ⟨k,hk,rfl,rfl,h13,C,F⟩:=hrel
  by_cases hkn:k < n2
  ·
   have hki:(k:Int) < (n2:Int):=by omega
   have hk0:(0:Int)<=(k:Int):=(by omega);obtain ⟨m,hx⟩:∃ m,S[k]?=some m:=⟨_,List.getElem?_eq_getElem (by rw [<- HNU.out];exact hkn)⟩;have HSW:=(HST.out.frw F1.out hB2 (by simp)).frw F.out (by omega) (by simp;omega);obtain ⟨b1,o1,rfl,hb1,hc1⟩:=HSW.get hx;have hin:=HSW.inn m (List.mem_of_getElem? hx)
   have HTK := zh (show kepL T (P.take (k + 1)) = kepS (kepL T (P.take k)) m.1 by
    have:P[k]?=some m.1:=(by rw [HP.out];simp [fstS,hx]);rw [List.take_add_one,this]
    exact kepL_snoc _ _ _)
   obtain ⟨⟨kd,y,rs⟩,sf,sp⟩:=m;simp only at hin HTK;obtain ⟨⟨Af,cf,hf1,hf2⟩,⟨Ap,cp,hp1,hp2⟩⟩:=hin;simp only at hf1 hp1 hf2 hp2;subst hf1;subst hp1;clear hf2 hp2;obtain ⟨nf,hnf⟩:=nm (y.fr.length);obtain ⟨np,hnp⟩:=nm (y.pg.length);rw [<- hnf,<- hnp] at hc1;have p0:=hc1 0 (.int .i64 kd) rfl;have p1:=hc1 1 (.int .i64 y.id) rfl;have p2:=hc1 2 (.int .i64 y.kind) rfl;have p3:=hc1 3 (.slice Af nf cf) rfl;have p4:=hc1 4 (.slice Ap np cp) rfl;have p5:=hc1 5 (.int .i64 y.par) rfl;have p6:=hc1 6 (.int .i64 (y.rt 0)) rfl;have p7:=hc1 7 (.int .i64 (y.rt 1)) rfl;have p8:=hc1 8 (.int .i64 (y.rt 2)) rfl;have p9:=hc1 9 (.int .i64 (y.rt 3)) rfl;have p10:=hc1 10 (.int .i64 (y.rt 4)) rfl;have p11:=hc1 11 (.int .i64 (y.rt 5)) rfl;have p12:=hc1 12 (.int .i64 (y.rt 6)) rfl;have p13:=hc1 13 (.int .i64 (y.rt 7)) rfl;have p14:=hc1 14 (.bool rs) rfl;simp only [Nat.add_zero] at p0;clear hc1 hx HSW hnf hnp;have fa:=(Fr.refl wr.heap.size [] wr).alloc (Nat.le_refl _) (.cells (stA kd y rs (.slice Af nf cf) (.slice Ap np cp)) 215);have BX:=zh (Blk.new wr 215 (stA kd y rs (.slice Af nf cf) (.slice Ap np cp)));have CA:=C.out.keep fa;have HFA:=zh (F.out.trans (fa.mono (B':=w1.heap.size) (L':=[gm]) F.out.size (by simp)));have HSS:=zh (rmstep_any gt gm (kepL T (P.take k)) (TOk.kepL HOK.out) ⟨kd,y,rs⟩ (.slice Af nf cf) (.slice Ap np cp) (wr.alloc (.cells (stA kd y rs (.slice Af nf cf) (.slice Ap np cp)) 215)) CA);clear fa CA hb1;go_upto_region 9 with fail;clear p0 p1 p2 p3 p4 p5 p6 p7 p8 p9 p10 p11 p12 p13 p14;generalize wr.alloc (.cells (stA kd y rs (.slice Af nf cf) (.slice Ap np cp)) 215)=wa at *;generalize wr.heap.size=gx at BX;have q0:=BX.out.cell 0;have q1:=BX.out.cell 1;have q2:=BX.out.cell 2;have q3:=BX.out.cell 3;have q4:=BX.out.cell 4;have q5:=BX.out.cell 5;have q6:=BX.out.cell 6;have q7:=BX.out.cell 7;have q8:=BX.out.cell 8;have q9:=BX.out.cell 9;have q10:=BX.out.cell 10;have q11:=BX.out.cell 11;have q12:=BX.out.cell 12;have q13:=BX.out.cell 13;have q14:=BX.out.cell 14;simp at q0 q1 q2 q3 q4 q5 q6 q7 q8 q9 q10 q11 q12 q13 q14;go_wp2_with fail;refine HSS.out.mono ?_;rintro e w2 ⟨rfl,hc2,f2⟩;have HC2:=zh (show CT w2 gt gm (kepL T (P.take (k+1))) by rw [HTK.out];exact hc2);have F2:=zh (HFA.out.trans (f2.mono (B':=w1.heap.size) (L':=[gm]) HFA.out.size (by simp)));clear hc2 f2 HSS HTK HFA;go_wp2_with fail;go_roundg (n2 - (k+1))
   case measure=>omega
   case rel=>exact ⟨k+1,by omega,rfl,by go_num,.inr ⟨_,rfl⟩,HC2,F2⟩
  ·
   obtain rfl:n2=k:=by omega
   have hC:=C.out;rw [List.take_of_length_le (by rw [HP.out,HNU.out];simp [fstS])] at hC;have HC9:=zh hC;clear hC;go_wp2_with fail;go_ret3;exact .inr ⟨E1.out,A5,c5,n5,M5,rfl,HN5.out.frd F.out (by simp;omega),HF5.out,HR5.out,HC9.out,(F1.out.mono (by simp) (by simp)).trans (F.out.mono hs1 (by simp))⟩
end Go.Proofs.YtlejomlppjpchaaGreat
namespace Go.Proofs.YtlejomlppjpchaaGreat
open Go.RowKit Go.Fb
set_option maxRecDepth 100000
set_option maxHeartbeats 16000000
set_option linter.unusedVariables false
section
variable {P:Program} (w:World)
theorem run_app2 {t e size bytes:Nat} (T:SliceTy P t e size bytes) (ty:TypeId) (base:Nat) (v:Value) (n:Nat) (xs:List Value) (hown:w.ownsRow base e size v n xs)
  (B:Nat) (A:Option Addr) (m c:Nat) (news:List Value) (hr:Reads w B size A m news) (h1:∀ u ∈ news,u.oneCell'=true)
  (h63:n+m<=140737488355328) (hbytes:(n+m) * bytes<=140737488355328) (hbase:base<=w.heap.size) :
  ∃ A' c' w',(Builtin.append_ #[t,t] ty #[v,.slice A m c]).run P w=.ok (.slice A' (n+m) c') w'/\w'.ownsRow base e size (.slice A' (n+m) c') (n+m) (xs ++ news)/\w.grownBy w' v.ownBlock /\
   (Value.ownBlock (.slice A' (n+m) c')=v.ownBlock \/ Value.ownBlock (.slice A' (n+m) c')=some w.heap.size):=by
 obtain ⟨i,z,hi,hz,hsize,hby,hzs⟩:=T.hi;have hml:n+m<=maxLen:=(by unfold maxLen;omega)
 have hcells:∀ ad,A=some ad -> ∀ j u,news[j]?=some u->w.cell? (ad.add j)=some u:=by
  rintro ad rfl j u hu
  rcases Nat.eq_zero_or_pos m with h0 | h0
  · subst h0;have hn:news=[]:=List.eq_nil_of_length_eq_zero (by simpa using hr.1);subst hn;simp at hu
  ·
   obtain ⟨b,off,h,_,hc⟩:=hr.2 h0;injection h with h
   subst h;have:(⟨b,off,none⟩:Addr).add j=⟨b,off+j,none⟩:=by unfold Addr.add;split <;> simp_all
   rw [this];exact hc j u hu
 have key:∃ v' w',(Builtin.append_ #[t,t] ty #[v,.slice A m c]).run P w=.ok v' w'/\w'.ownsRow base e size v' (n+m) (xs ++ news)/\w.grownBy w' v.ownBlock/\(v'.ownBlock=v.ownBlock \/ v'.ownBlock=some w.heap.size):=by
  rcases A with _ | ad
  ·
   have hm:m=0:=by
    rcases Nat.eq_zero_or_pos m with h0 | h0
    · exact h0
    ·
     obtain ⟨b,off,h,_⟩:=hr.2 h0
     cases h
   subst hm;have hn:news=[]:=List.eq_nil_of_length_eq_zero (by simpa using hr.1);subst hn;exact ⟨v,w,run_append_of_nil w base t ty e i size T.ht hi v n xs hown c,by simpa using hown,⟨rfl,rfl,rfl,Nat.le_refl _,fun _ _ _=>rfl⟩,.inl rfl⟩
  · obtain ⟨v',w',hrun,h2,h3,_,h5⟩:=run_append_own_at (P:=P) w base t ty e i z size bytes T.ht hi hz hsize hby hzs T.pos v n xs hown ad m c news hr.1 (hcells ad rfl) h1 hml hbytes hbase;exact ⟨v',w',hrun,h2,h3,h5⟩
 obtain ⟨v',w',hrun,h2,h3,h4⟩:=key;obtain ⟨A',c',rfl,_⟩:=ownsRow_shape h2;exact ⟨A',c',w',hrun,h2,h3,h4⟩

theorem wp_app2 {o:Oper} {a:Act} {K:Act->World->Prop} {Q:Exit->Act->World->Prop} (s x:Operand) {t e size bytes:Nat} (T:SliceTy P t e size bytes)
  (ho:o.op=.call { callee:=.builtin .append,args:=#[s,x],argTypes:=#[t,t] })
  (base:Nat) (v:Value) (n:Nat) (xs:List Value) (hs:a.eval s=v) (hown:w.ownsRow base e size v n xs)
  (B:Nat) (A:Option Addr) (m c:Nat) (news:List Value) (hx:a.eval x=.slice A m c) (hr:Reads w B size A m news) (h1:∀ u ∈ news,u.oneCell'=true)
  (h63:n+m<=140737488355328) (hbytes:(n+m) * bytes<=140737488355328) (hbase:base<=w.heap.size)
  (h : ∀ A' c' w', w'.ownsRow base e size (.slice A' (n + m) c') (n + m) (xs ++ news) -> w.grownBy w' v.ownBlock ->
   (Value.ownBlock (.slice A' (n+m) c')=v.ownBlock \/ Value.ownBlock (.slice A' (n+m) c')=some w.heap.size)->K (a.put o.dst (.slice A' (n+m) c')) w'):o.wp P a w K Q:=by
 obtain ⟨A',c',w',hrun,h2,h3,h4⟩:=run_app2 (P:=P) w T o.type base v n xs hown B A m c news hr h1 h63 hbytes hbase;unfold Oper.wp execOp;simp only [ho,resolve,invoke,builtin,Sem.run_bind,Sem.run_pure,Result.andThen_ok,List.map_toArray,List.map_cons,List.map_nil,hs,hx,hrun];exact h A' c' w' h2 h3 h4

theorem wpList_app2 {ops:Array Oper} {rest:List Oper} {o:Oper} {a:Act} {Q:Exit->Act->World->Prop} (hgd:o.guard=none) (s x:Operand) {t e size bytes:Nat} (T:SliceTy P t e size bytes)
  (ho:o.op=.call { callee:=.builtin .append,args:=#[s,x],argTypes:=#[t,t] })
  (base:Nat) (v:Value) (n:Nat) (xs:List Value) (hs:a.eval s=v) (hown:w.ownsRow base e size v n xs)
  (B:Nat) (A:Option Addr) (m c:Nat) (news:List Value) (hx:a.eval x=.slice A m c) (hr:Reads w B size A m news) (h1:∀ u ∈ news,u.oneCell'=true)
  (h63:n+m<=140737488355328) (hbytes:(n+m) * bytes<=140737488355328) (hbase:base<=w.heap.size)
  (h : ∀ A' c' w', w'.ownsRow base e size (.slice A' (n + m) c') (n + m) (xs ++ news) -> w.grownBy w' v.ownBlock ->
   (Value.ownBlock (.slice A' (n+m) c')=v.ownBlock \/ Value.ownBlock (.slice A' (n+m) c')=some w.heap.size)->wpList P ops Q rest (a.put o.dst (.slice A' (n+m) c')) w'):wpList P ops Q (o :: rest) a w :=
 wpList_plain hgd fun _ hK=>wp_app2 w s x T ho base v n xs hs hown B A m c news hx hr h1 h63 hbytes hbase fun A' c' w' h2 h3 h4=>hK _ _ (h A' c' w' h2 h3 h4)
end

structure Sg where
 P:List Stm
 R:List (Nat->Int)
 sp:Value
 sr:Value
def cellsG (Z:List Sg):List Value:=Z.flatMap fun z=>[z.sp,z.sr]
theorem cellsG_get:∀ {Z:List Sg} {k:Nat} {z:Sg},Z[k]?=some z->(cellsG Z)[k * 2]?=some z.sp/\(cellsG Z)[k * 2+1]?=some z.sr
 | [],k,z,h=>by simp at h
 | y :: Z,0,z,h=>by simp at h;subst h;exact ⟨rfl,rfl⟩
 | y :: Z,k+1,z,h=>by
  rw [List.getElem?_cons_succ] at h;obtain ⟨a,b⟩:=cellsG_get h;have e:cellsG (y :: Z)=[y.sp,y.sr] ++ cellsG Z:=rfl;rw [e,show (k+1) * 2=k * 2+2 by omega];exact ⟨by rw [List.getElem?_append_right (by simp)];simpa using a,by rw [List.getElem?_append_right (by simp)];simpa using b⟩
structure SgIn (w:World) (B:Nat) (z:Sg):Prop where
 p:∃ A c,z.sp=.slice A z.P.length c/\Sts w B A z.P.length z.P
 r:∃ A c,z.sr=.slice A z.R.length c/\Reads w B 3 A z.R.length (cellsR z.R)
structure Sgs (w:World) (B:Nat) (A:Option Addr) (n:Nat) (Z:List Sg):Prop where
 num:n=Z.length
 rd:Reads w B 2 A n (cellsG Z)
 inn:∀ z ∈ Z,SgIn w B z
theorem SgIn.frw {w w':World} {B B':Nat} {L:List Nat} {z:Sg} (h:SgIn w B z) (hf:Fr B' L w w') (hB:B<=B') (hL:∀ k ∈ L,B<=k):SgIn w' B z:=by
 obtain ⟨⟨A,c,h1,h2⟩,⟨A',c',h3,h4⟩⟩:=h;exact ⟨⟨A,c,h1,h2.frw hf hB hL⟩,⟨A',c',h3,h4.fr hf hB hL⟩⟩
theorem Sgs.frw {w w':World} {B B' n:Nat} {A:Option Addr} {L:List Nat} {Z:List Sg} (h:Sgs w B A n Z) (hf:Fr B' L w w') (hB:B<=B') (hL:∀ k ∈ L,B<=k):Sgs w' B A n Z :=
 ⟨h.num,h.rd.fr hf hB hL,fun m hm=>(h.inn m hm).frw hf hB hL⟩
theorem Sgs.get {w:World} {B n:Nat} {A:Option Addr} {Z:List Sg} (h:Sgs w B A n Z) {k:Nat} {z:Sg} (hk:Z[k]?=some z) :
  ∃ b off,A=some ⟨b,off,none⟩/\b < B/\w.cell? ⟨b,off+k * 2,none⟩=some z.sp/\w.cell? ⟨b,off+k * 2+1,none⟩=some z.sr:=by
 have hkn:k < n:=by
  rw [h.num];exact (List.getElem?_eq_some_iff.1 hk).1
 obtain ⟨b,off,e,hb,hc⟩:=h.rd.2 (by omega);obtain ⟨h1,h2⟩:=cellsG_get hk;exact ⟨b,off,e,hb,hc _ _ h1,by rw [Nat.add_assoc];exact hc _ _ h2⟩
def SmallG (Z:List Sg):Prop:=∀ z ∈ Z,SmallS z.P/\z.P.length<=1000/\z.R.length<=200
structure GS where
 L:List Nd
 T:Pk->CV
 out:List (Nat->Int)
def planG (X:GS) (P:List Stp):Int × GS:=if P.length=0 then (0,X) else ((applyN X.L P).1,⟨(applyN X.L P).2.2,kepL X.T P,X.out⟩)
def recsG (X:GS) (R:List (Nat->Int)):Int × GS :=
 if checkN X.L ≠ 0 then (10,X) else if R.all recR=false then (1,X) else (0,⟨X.L,(flowD X.L R ⟨X.T,[],cnt0 X.L⟩).T,X.out ++ (flowD X.L R ⟨X.T,[],cnt0 X.L⟩).out⟩)
def segG (X:GS) (P:List Stp) (R:List (Nat->Int)):Int × GS:=if (planG X P).1 ≠ 0 then planG X P else recsG (planG X P).2 R
def segsG:List (List Stp × List (Nat->Int))->GS->Int × GS
 | [],X=>(0,X)
 | z :: Z,X=>if (segG X z.1 z.2).1 ≠ 0 then segG X z.1 z.2 else segsG Z (segG X z.1 z.2).2
def bare (Z:List Sg):List (List Stp × List (Nat->Int)):=Z.map fun z=>(fstS z.P,z.R)
theorem recsG_fewG {X:GS} {R:List (Nat->Int)} (h:TOk X.T):(recsG X R).2.out.length<=X.out.length+R.length * 26507215:=by
 unfold recsG
 split
 · exact Nat.le_add_right _ _
 ·
  rename_i h1
  split
  · exact Nat.le_add_right _ _
  · rename_i h2;have:=flow_few (checkN_zero.1 (Decidable.not_not.1 h1)) (l:=R) (by simpa using h2) (S:=⟨X.T,[],cnt0 X.L⟩) h;simp only [List.length_append,List.length_nil] at this ⊢;omega
theorem recsG_few {X:GS} {R:List (Nat->Int)} (h:TOk X.T) (hR:R.length<=200):(recsG X R).2.out.length<=X.out.length+5301443000:=by
 have h1:=recsG_fewG (R:=R) h;have h2:=Nat.mul_le_mul_right 26507215 hR;omega
theorem own_apart {w:World} {b1 b2 e1 e2 s1 s2 n1 n2:Nat} {v1 v2:Value} {xs1 xs2:List Value} (h1:w.ownsRow b1 e1 s1 v1 n1 xs1) (h2:w.ownsRow b2 e2 s2 v2 n2 xs2) (hne:e1 ≠ e2):∀ g,v1.ownBlock=some g->v2.ownBlock ≠ some g:=by
 intro g hg1 hg2
 rcases h1.2 with ⟨rfl,_⟩ | ⟨g1,cap1,cur1,rfl,_,hh1,_⟩
 · cases hg1
 ·
  rcases h2.2 with ⟨rfl,_⟩ | ⟨g2,cap2,cur2,rfl,_,hh2,_⟩
  · cases hg2
  ·
   have a:g1=g:=by simpa [Value.ownBlock] using hg1
   have b:g2=g:=(by simpa [Value.ownBlock] using hg2);subst a;subst b;rw [hh1] at hh2;injection hh2 with hh2
   injection hh2 with _ ht
   exact hne ht
theorem NmO.frOff {base:Nat} {q0 q:Option Nat} {w w':World} {m:Ndm} (h:NmO base q0 w m) (hf:Fr w.heap.size q.toList w w') (p1:Off q m.2.1) (p2:Off q m.2.2):NmO base q0 w' m:=by
 obtain ⟨⟨⟨A,c,h1,h2⟩,⟨A',c',h3,h4⟩⟩,o1,o2,f1,f2,th⟩:=h
 have key:∀ (v:Value) (B:Option Addr) (n k:Nat),v=.slice B n k->Off q v->0 < n -> ∀ ad,B=some ad->ad.block ∉ q.toList:=by
  intro v B n k hv ho hn ad ha hm;have:=ho B n k hv hn ad ha
  cases q with
  | none=>simp at hm
  | some g=>simp at hm;exact this (by rw [hm])
 exact ⟨⟨⟨A,c,h1,(h2.frL hf (Nat.le_refl _) (key _ _ _ _ h1 p1)).more hf.size⟩,⟨A',c',h3,(h4.frL hf (Nat.le_refl _) (key _ _ _ _ h3 p2)).more hf.size⟩⟩,o1,o2,f1,f2,th.frL hf (fun A n c hv hn=>key _ A n c hv p2 hn)⟩
theorem Nmd.frOff {base:Nat} {w w':World} {A:Option Addr} {n c:Nat} {M:List Ndm} {q:Option Nat} (h:Nmd base w A n c M) (hf:Fr w.heap.size q.toList w w') (hq:∀ g,(Value.slice A n c).ownBlock=some g->q ≠ some g) (om:∀ m ∈ M,Off q m.2.1/\Off q m.2.2):Nmd base w' A n c M :=
 ⟨h.num,ownsRow_fr h.own hf (fun k hk=>⟨(h.own.lt k hk).2,fun hm=>hq k hk (by simpa using hm)⟩),fun m hm=>(h.inn m hm).frOff hf (om m hm).1 (om m hm).2⟩
theorem nmd_off {base g:Nat} {w:World} {A:Option Addr} {n c:Nat} {M:List Ndm} (h:Nmd base w A n c M) (hg:w.heap.size<=g):∀ m ∈ M,Off (some g) m.2.1/\Off (some g) m.2.2:=by
 intro m hm;obtain ⟨⟨⟨A1,c1,h1,h2⟩,⟨A2,c2,h3,h4⟩⟩,_⟩:=h.inn m hm;rw [h1,h3];exact ⟨reads_off h2 hg,reads_off h4 hg⟩
theorem results_tmp4 {fn:Func} {t u v x:Tmp} (h:fn.results = #[.tmp t,.tmp u,.tmp v,.tmp x]) (tmps:Array Value) (P:Program) (w:World) :
  (results fn tmps).run P w=.ok (.tuple #[tmps.getD t undef,tmps.getD u undef,tmps.getD v undef,tmps.getD x undef]) w:=by
 simp [results,h]
def SegsOut (r:Int × GS) (w:World) (e:Ending) (w':World):Prop :=
 (r.1 ≠ 0/\e=.returned (.tuple #[.slice none 0 0,.slice none 0 0,.pointer none,.int .i64 r.1])/\Fr w.heap.size [] w w') \/
 (r.1=0/\∃ Ao no co A' n' c' M' gt gm,e=.returned (.tuple #[.slice Ao no co,.slice A' n' c',.pointer (some ⟨gt,0,none⟩),.int .i64 0])/\w'.ownsRow w.heap.size 69 5 (.slice Ao no co) no (cellsLn r.2.out)/\Nds w' w'.heap.size A' n' M'/\fstN M'=r.2.L/\Small M'/\CT w' gt gm r.2.T/\TOk r.2.T/\w.heap.size<=gt/\w.heap.size<=gm/\Fr w.heap.size [] w w')
theorem segsG_err {z:Sg} {Z:List Sg} {X:GS} (h:(segG X (fstS z.P) z.R).1 ≠ 0):segsG (bare (z :: Z)) X=segG X (fstS z.P) z.R:=by
 show segsG ((fstS z.P,z.R) :: bare Z) X=_
 unfold segsG;rw [if_pos h]
theorem segsG_ok {z:Sg} {Z:List Sg} {X:GS} (h:(segG X (fstS z.P) z.R).1=0):segsG (bare (z :: Z)) X=segsG (bare Z) (segG X (fstS z.P) z.R).2:=by
 show segsG ((fstS z.P,z.R) :: bare Z) X=_
 conv=>lhs;unfold segsG
 rw [if_neg (fun c=>c h)]
theorem segs_any (A Az:Option Addr) (c cz B n nz:Nat) (M:List Ndm) (Z:List Sg) (w:World) (h:Nds w B A n M) (hB:B<=w.heap.size) (hs:Small M) (hn:n<=20) (hZ:Sgs w B Az nz Z) (hsg:SmallG Z) (hz5:nz<=5) :
  Calls Tryz.prog 11 #[.slice A n c,.slice Az nz cz] w (SegsOut (segsG (bare Z) ⟨normL (fstN M),fun _=>c0,[]⟩) w):=by
 obtain ⟨X0,hX0⟩:=nm (⟨normL (fstN M),fun _=>c0,[]⟩:GS);obtain ⟨r,hr⟩:=nm (segsG (bare Z) X0);rw [<- hX0,<- hr];have HNW:=zh (cnew_any none 0 0 w.heap.size [] w rfl (by omega) Reads.none_ (Nat.le_refl _));have HNM:=zh (fun (wx:World) (hx:Fr w.heap.size [] w wx)=>(norm_any A c B n M wx (h.frw hx hB (by simp)) (Nat.le_trans hB hx.size) hs hn:Calls Tryz.prog 53 #[.slice A n c] wx (NormOut (fstN M) wx)));have HZS:=zh (fun (wx:World) (hx:Fr w.heap.size [] w wx)=>(hZ.frw hx hB (by simp):Sgs wx B Az nz Z));have HSG:=zh hsg;have HSM:=zh hs;have HNZ:=zh hZ.num;have HR:=zh hr;have HX0:=zh (show X0.L=normL (fstN M)/\X0.T=(fun _=>c0)/\X0.out=[] by rw [hX0];exact ⟨rfl,rfl,rfl⟩);clear h hs hZ hsg hr hX0;go_enter Tryz.func11,Tryz.ntmps11;go_wp2_with fail;refine HNW.out.mono ?_;rintro e w1 (⟨hc,_⟩ | ⟨_,rfl,hct,f1⟩)
 · simp at hc
 have HCT1:=zh hct;have F1:=zh f1;obtain ⟨gt,hgt⟩:=nm (w.heap.size+1);obtain ⟨gm,hgm⟩:=nm (w.heap.size);rw [<- hgt,<- hgm] at HCT1;rw [<- hgt];have hgt1:gt < w1.heap.size:=HCT1.out.bk.lt;have hgm1:gm < w1.heap.size:=HCT1.out.mp.lt;have HN1:=zh (HNM.out w1 f1);have hwgm:w.heap.size<=gm:=(by omega);have hwgt:w.heap.size<=gt:=(by omega);clear hct f1 HNW HNM hgt hgm;go_wp2_with fail;refine HN1.out.mono ?_;rintro e w2 ⟨A1,c1,n1,M1,hn1,rfl,hown,hnmi,hfst,f2⟩;have HM1:=zh (Nmd.mk hn1 hown hnmi);have HF1:=zh (hfst.trans HX0.out.1.symm);have HSM1:=zh (small_norm HSM.out hfst);have F2:=zh (F1.out.nx f2);have HCT2:=zh (HCT1.out.keep f2);have h12:w1.heap.size<=w2.heap.size:=f2.size;clear hn1 hown hnmi hfst f2 HN1 HCT1 F1 HSM;go_wp2_with fail;go_loopg [0,10,12,26] nz (fun g s0 s10 s12 s26 wr=>∃ (k:Nat) (X:GS) (b:Nat) (Al:Option Addr) (nl cl:Nat) (Ml:List Ndm) (Ao:Option Addr) (no co:Nat),k<=nz/\g=nz - k/\s0=.slice Al nl cl/\s10=.slice Ao no co/\(s12=undef \/ ∃ a,s12=.pointer a)/\s26=.int .i64 k/\Hid (r=segsG (bare (Z.drop k)) X/\TOk X.T/\X.out.length<=k * 5301443000)/\Hid (gm < b/\Nmd b wr Al nl cl Ml/\fstN Ml=X.L/\Small Ml)/\Hid (∀ m ∈ Ml,Off (Value.slice Ao no co).ownBlock m.2.1/\Off (Value.slice Ao no co).ownBlock m.2.2)/\Hid (CT wr gt gm X.T)/\Hid (wr.ownsRow w2.heap.size 69 5 (.slice Ao no co) no (cellsLn X.out))/\Hid (Fr w.heap.size [] w wr/\w2.heap.size<=wr.heap.size))
 case atStart=>exact ⟨0,X0,w1.heap.size,A1,n1,c1,M1,none,0,0,Nat.zero_le _,rfl,rfl,rfl,.inl rfl,rfl,zh ⟨HR.out,by rw [HX0.out.2.1];exact TOk.zero,by rw [HX0.out.2.2];exact Nat.zero_le _⟩,zh ⟨hgm1,HM1.out,HF1.out,HSM1.out⟩,zh (fun m _=>⟨off_none _,off_none _⟩),by rw [HX0.out.2.1];exact HCT2,by rw [HX0.out.2.2];exact zh (World.ownsRow_nil _ _ _ _),zh ⟨F2.out,Nat.le_refl _⟩⟩
 case round =>
  clear HM1 HF1 HSM1 HCT2 F2 HR HX0;obtain ⟨k,X,b,Al,nl,cl,Ml,Ao,no,co,hk,rfl,rfl,rfl,h12',rfl,HX,HM,HOFF,HCT,HO,HF⟩:=hrel
  by_cases hkn:k < nz
  ·
   have hki:(k:Int) < (nz:Int):=by omega
   have hk0:(0:Int)<=(k:Int):=(by omega);obtain ⟨z,hz⟩:∃ z,Z[k]?=some z:=⟨_,List.getElem?_eq_getElem (by rw [<- HNZ.out];exact hkn)⟩;have hzs:=HSG.out z (List.mem_of_getElem? hz);have HSW:=HZS.out wr HF.out.1;obtain ⟨bz,oz,rfl,hbz,p0,p1⟩:=HSW.get hz;have hzi:=HSW.inn z (List.mem_of_getElem? hz)
   have hdr:Z.drop k=z :: Z.drop (k+1):=by
    obtain ⟨hlt,hg⟩:=List.getElem?_eq_some_iff.1 hz;rw [List.drop_eq_getElem_cons hlt,hg]
   rw [hdr] at HX;clear hdr hz HSW;obtain ⟨P,R,sp,sr⟩:=z;obtain ⟨⟨Ap,cp,hsp,hP⟩,⟨Ar,cr,hsr,hR⟩⟩:=hzi;simp only at hsp hsr hP hR p0 p1 hzs;subst hsp;subst hsr;obtain ⟨hz1,hz2,hz3⟩:=hzs;have HZ1:=zh hz1;obtain ⟨np,hnp⟩:=nm (P.length);obtain ⟨nr,hnr⟩:=nm (R.length);rw [<- hnp] at hP p0 hz2 HX;rw [<- hnr] at hR p1 hz3 HX;have HNP:=zh hnp;have HNR:=zh hnr;have hBr:B<=wr.heap.size:=Nat.le_trans hB HF.out.1.size;have fa:=(Fr.refl wr.heap.size [] wr).alloc (Nat.le_refl _) (.cells #[.slice Ap np cp,.slice Ar nr cr] 136);have BX:=zh (Blk.new wr 136 #[.slice Ap np cp,.slice Ar nr cr]);have HPa:=zh (hP.frw fa hBr (by simp));have HRa:=zh (hR.fr fa hBr (by simp));have HMa:=zh (And.intro HM.out.1 (And.intro (HM.out.2.1.frd fa (by simp)) HM.out.2.2));have HCTa:=zh (HCT.out.keep fa);have HOa:=zh (ownsRow_fr HO.out fa (fun q hq=>⟨(HO.out.lt q hq).2,by simp⟩));have HFa:=zh (And.intro (HF.out.1.nx fa) (Nat.le_trans HF.out.2 fa.size));obtain ⟨gx,hgx⟩:=nm (wr.heap.size);have hgx2:w2.heap.size<=gx:=(by have:=HF.out.2;omega);rw [<- hgx] at BX;clear fa hz1 hP hR hnp hnr HM HCT HO HF;go_upto_region 7 with fail;rw [<- hgx];clear p0 p1 hgx;generalize wr.alloc (.cells #[.slice Ap np cp,.slice Ar nr cr] 136)=wa at *;have x0:=BX.out.cell 0;have x1:=BX.out.cell 1;simp at x0 x1;have hwa:w2.heap.size<=wa.heap.size:=HFa.out.2
   rcases Nat.eq_zero_or_pos np with hp | hp
   case' inl =>
    have hle:(np:Int)<=0:=(by omega);go_upto_region 12 with fail;have HX2:=zh (show planG X (fstS P)=(0,X) by unfold planG;rw [if_pos (by unfold fstS;rw [List.length_map,<- HNP.out];exact hp)]);have HTO:=zh HX.out.2.1;have HOE:=zh (show X.out.length<=k * 5301443000 from HX.out.2.2);have HOEQ:=zh (show X.out=X.out from rfl);have HRS:=zh (HX.out.1);obtain ⟨X2,hX2⟩:=nm (X);have HX2:=zh (show planG X (fstS P)=(0,X2) by rw [hX2];exact HX2.out);rw [<- hX2] at HMa HCTa HTO HOa HOE;clear HX hX2 HOEQ;have HMb:=HMa;have HCTb:=HCTa;have HOb:=HOa;have HFb:=HFa;have BXb:=BX;have HRb:=HRa;have HOFb:=HOFF;clear HMa HCTa HOa HFa BX HRa x0 HOFF;generalize Al=Al2 at *;generalize nl=nl2 at *;generalize cl=cl2 at *;generalize Ml=Ml2 at *;generalize b=b2 at *;generalize wa=w5 at *
   case' inr =>
    have hlt:(0:Int) < (np:Int):=(by omega);have HAP:=zh (rmapply_any2 gt gm X.T HX.out.2.1 Al Ap cl cp wa.heap.size B nl np Ml P wa HCTa.out (HMa.out.2.1.nds (Fr.refl _ [] _) (by simp)) (Nat.le_refl _) HMa.out.2.2.2 HPa.out (by omega) HZ1.out (by omega) (by omega));rw [HMa.out.2.2.1] at HAP;have hpl:(fstS P).length ≠ 0:=(by unfold fstS;rw [List.length_map,<- HNP.out];omega);have HPG:=zh (show planG X (fstS P)=((applyN X.L (fstS P)).1,⟨(applyN X.L (fstS P)).2.2,kepL X.T (fstS P),X.out⟩) by unfold planG;rw [if_neg hpl]);obtain ⟨ap,hap⟩:=nm (applyN X.L (fstS P));rw [<- hap] at HAP HPG;obtain ⟨r1,r2,r3⟩:=ap;unfold RmApOut at HAP;simp only at HAP HPG;clear hap hpl;go_wp2_with fail;refine HAP.out.mono ?_;rintro e w5 (⟨hr1,rfl,hct,f5⟩ | ⟨hr1,Al2,cl2,nl2,Ml2,rfl,hnm,hfm,hrg,hct,f5⟩)
    ·
     have HR1:=zh hr1;have FF:=zh (HFa.out.1.nx f5);clear hct f5 HAP;go_wp2_with fail
     (try simp only [Exit.inBlock,Exit.then])
     refine bodyPost_ret (results_tmp4 rfl _ _ _) rfl ?_
     have hsg:segG X (fstS P) R=(r1,⟨r3,kepL X.T (fstS P),X.out⟩):=by
      unfold segG;rw [HPG.out];simp only;rw [if_pos HR1.out]
     have hrr:r=segG X (fstS P) R:=HX.out.1.trans (segsG_err (z:=⟨P,R,_,_⟩) (by show (segG X (fstS P) R).1 ≠ 0;rw [hsg];exact HR1.out));rw [hsg] at hrr;rw [hrr];exact .inl ⟨HR1.out,rfl,FF.out⟩
    subst hr1;obtain ⟨X2,hX2⟩:=nm (⟨r3,kepL X.T (fstS P),X.out⟩:GS);have HX2:=zh (show planG X (fstS P)=(0,X2) by rw [hX2];exact HPG.out);have e1:X2.L=r3:=(by rw [hX2]);have e2:X2.T=kepL X.T (fstS P):=(by rw [hX2]);have e3:X2.out=X.out:=(by rw [hX2]);have HTO:=zh (show TOk X2.T by rw [e2];exact TOk.kepL HX.out.2.1);have HOE:=zh (show X2.out.length<=k * 5301443000 by rw [e3];exact HX.out.2.2);have HRS:=zh HX.out.1;have hlt5:wa.heap.size<=w5.heap.size:=f5.size;have HMb:=zh (show gm < wa.heap.size/\Nmd wa.heap.size w5 Al2 nl2 cl2 Ml2/\fstN Ml2=X2.L/\Small Ml2 from ⟨by omega,hnm,by rw [e1];exact hfm,small_right (by rw [hfm];exact hrg)⟩);have HCTb:=zh (show CT w5 gt gm X2.T by rw [e2];exact hct);have HOb:=zh (show w5.ownsRow w2.heap.size 69 5 (.slice Ao no co) no (cellsLn X2.out) by rw [e3];exact ownsRow_fr HOa.out f5 (fun q hq=>⟨(HOa.out.lt q hq).2,by have:=(HOa.out.lt q hq).1;simp;omega⟩));have HFb:=zh (And.intro (HFa.out.1.trans (f5.mono (B':=w.heap.size) (L':=[]) HFa.out.1.size (by simp;omega))) (Nat.le_trans HFa.out.2 f5.size));have BXb:=zh (BX.out.fr f5 BX.out.lt (by simp;omega))
    have HOFb := zh (show ∀ m ∈ Ml2, Off (Value.slice Ao no co).ownBlock m.2.1 /\ Off (Value.slice Ao no co).ownBlock m.2.2 from fun m hm => by
     obtain ⟨_,_,_,g1,g2,_⟩:=hnm.inn m hm
     cases hq:(Value.slice Ao no co).ownBlock with
     | none=>exact ⟨off_none _,off_none _⟩
     | some g=>exact ⟨fresh_off g1 (HOa.out.lt g hq).2,fresh_off g2 (HOa.out.lt g hq).2⟩)
    have HRb:=zh (HRa.out.fr f5 (by omega) (by simp;omega));clear hnm hfm hrg hct f5 HAP HPG HX e1 e2 e3 hX2 HMa HCTa HOa HFa BX HRa x0 x1 HOFF;generalize wa.heap.size=b2 at *;have x1:=BXb.out.cell 1;simp at x1;go_upto_region 12 with fail
   all_goals
    obtain ⟨hgmb,hnm,hfm,hsm⟩:=HMb.out;have HSEG:=zh (show segG X (fstS P) R=recsG X2 R by unfold segG;rw [HX2.out];simp);have HND:=zh (hnm.nds (Fr.refl _ [] _) (by simp):Nds w5 w5.heap.size Al2 nl2 Ml2);have HNM5:=zh hnm;have HFM:=zh hfm;have HSM5:=zh hsm;have hsz5:w2.heap.size<=w5.heap.size:=HFb.out.2;have hsw5:w.heap.size<=w5.heap.size:=HFb.out.1.size;clear hnm hfm hsm HMb
    by_cases hck:checkN X2.L=0
    ·
     have HRG:=zh (checkN_zero.1 hck);have HCK:=zh hck
     have HRU := zh (drunD_any gt gm X2.T Al2 Ar cl2 cr w5.heap.size B nl2 nr Ml2 R w5 HND.out (Nat.le_refl _) HSM5.out (by rw [HFM.out]; exact HRG.out) HNR.out (by omega) HRb.out HCTb.out (by omega) (by omega) HTO.out (fun hl => by
      rw [HFM.out];have h1:=flow_few HRG.out hl (S:=⟨X2.T,[],cnt0 X2.L⟩) HTO.out;have h2:=HNR.out;simp only [List.length_nil] at h1
      omega))
     rw [HFM.out] at HRU;unfold DRunD at HRU;clear hck HND;go_wp2_with fail;refine HRU.out.mono ?_;rintro e w6 (⟨hl,rfl,f6⟩ | ⟨hl,A6,n6,c6,rfl,how,hct,f6⟩)
     ·
      have HL:=zh hl;have FF:=zh (HFb.out.1.trans (f6.mono (B':=w.heap.size) (L':=[]) hsw5 (by simp)));clear hl f6 HRU;go_wp2_with fail
      (try simp only [Exit.inBlock,Exit.then])
      refine bodyPost_ret (results_tmp4 rfl _ _ _) rfl ?_
      have hsg:segG X (fstS P) R=(1,X2):=by
       rw [HSEG.out];unfold recsG;rw [if_neg (fun h=>h HCK.out),if_pos HL.out]
      have hrr:r=segG X (fstS P) R:=HRS.out.trans (segsG_err (z:=⟨P,R,_,_⟩) (by show (segG X (fstS P) R).1 ≠ 0;rw [hsg];simp));rw [hsg] at hrr;rw [hrr];exact .inl ⟨by simp,rfl,FF.out⟩
     ·
      obtain ⟨X3,hX3⟩:=nm (⟨X2.L,(flowD X2.L R ⟨X2.T,[],cnt0 X2.L⟩).T,X2.out ++ (flowD X2.L R ⟨X2.T,[],cnt0 X2.L⟩).out⟩:GS)
      have hsg:recsG X2 R=(0,X3):=by
       unfold recsG;rw [if_neg (fun h=>h HCK.out),if_neg (by rw [hl];decide),hX3]
      have HRS3 := zh (show r = segsG (bare (Z.drop (k + 1))) X3 by
       have h1:(segG X (fstS P) R).1=0:=(by rw [HSEG.out,hsg]);have h2:=HRS.out.trans (segsG_ok (z:=⟨P,R,_,_⟩) h1);rw [h2]
       show segsG _ (segG X (fstS P) R).2=_
       rw [HSEG.out,hsg])
      have HX3 := zh (show TOk X3.T /\ X3.out.length <= (k + 1) * 5301443000 by
       constructor
       · rw [hX3];exact flow_ok HRG.out hl HTO.out
       ·
        have h1:=recsG_few (X:=X2) (R:=R) HTO.out (by rw [<- HNR.out];exact hz3);rw [hsg] at h1;have h2:=HOE.out;simp only at h1
        omega)
      have hle:X3.out=X2.out ++ (flowD X2.L R ⟨X2.T,[],cnt0 X2.L⟩).out:=(by rw [hX3]);have HCT3:=zh (show CT w6 gt gm X3.T by rw [hX3];exact hct);have HL3:=zh (show X3.L=X2.L by rw [hX3]);obtain ⟨o6,ho6⟩:=nm ((flowD X2.L R ⟨X2.T,[],cnt0 X2.L⟩).out);rw [<- ho6] at how hle;have HRD6:=zh (Reads.of_own how);have HLE:=zh hle;have HO6:=zh (ownsRow_fr HOb.out f6 (fun q hq=>⟨(HOb.out.lt q hq).2,by have:=(HOb.out.lt q hq).1;simp;omega⟩));have HNM6:=zh (HNM5.out.frd f6 (by simp;omega));have HF6:=zh (And.intro (HFb.out.1.trans (f6.mono (B':=w.heap.size) (L':=[]) hsw5 (by simp;omega))) (Nat.le_trans hsz5 f6.size))
      have hno:no=X2.out.length:=by
       have h1:=HOb.out.1;rw [cellsLn_length] at h1;omega
      have hn6:n6=o6.length:=by
       have h1:=how.1;rw [cellsLn_length] at h1;omega
      have hno2:no+n6<=27000000000:=by
       have h1:=HX3.out.2;rw [hle,List.length_append,<- hno,<- hn6] at h1;have h2:(k+1) * 5301443000<=5 * 5301443000:=Nat.mul_le_mul_right _ (by omega);omega
      have HNO:=zh hno;have HN6:=zh hn6;clear hX3 hsg how hct f6 hl HRU HSEG HX2 hle ho6 hno hn6 HCTb HOb HFb HNM5 BXb HRb x1 HTO HOE HRS;have hown:=HO6.out;have hrm:=HRD6.out;have hsz6:w2.heap.size<=w6.heap.size:=HF6.out.2;go_wp2_with (at_builtin;refine wpList_app2 _ rfl (.tmp 58) (.tmp 59) lineTy rfl w2.heap.size (.slice Ao no co) no _ rfl hown w6.heap.size A6 n6 c6 (cellsLn o6) rfl hrm lnC_one (by omega) (by omega) hsz6 ?_;intro A7 c7 w7 hown7 hg7 hat7);have f7:=(Fr.refl w6.heap.size (Value.slice Ao no co).ownBlock.toList w6).grown hg7 (Nat.le_refl _) (fun k hk=>.inr (by simp [hk]));have HNM7:=zh (HNM6.out.frOff f7 (fun g hg=>own_apart HNM6.out.own hown (by decide) g hg) HOFb.out)
      have HOF7 := zh (show ∀ m ∈ Ml2, Off (Value.slice A7 (no + n6) c7).ownBlock m.2.1 /\ Off (Value.slice A7 (no + n6) c7).ownBlock m.2.2 by
       rcases hat7 with e | e
       · rw [e];exact HOFb.out
       · rw [e];exact nmd_off HNM6.out (Nat.le_refl _))
      have hkeep:∀ q,q < w2.heap.size->q ∉ (Value.slice Ao no co).ownBlock.toList:=fun q hq hm=>by
       have:=(hown.lt q (by simpa using hm)).1;omega
      have HCT7:=zh (HCT3.out.fr f7 HCT3.out.bk.lt (hkeep gt (by omega)) HCT3.out.mp.lt (hkeep gm (by omega)));have HO7:=zh (show w7.ownsRow w2.heap.size 69 5 (.slice A7 (no+n6) c7) (no+n6) (cellsLn X3.out) by rw [HLE.out,cellsLn_app];exact hown7);have hs7:w6.heap.size<=w7.heap.size:=f7.size
      have HF7 := zh (And.intro (HF6.out.1.trans (f7.mono (B' := w.heap.size) (L' := []) HF6.out.1.size (fun q hq hlt => by
       have:=(hown.lt q (by simpa using hq)).1
       omega))) (show w2.heap.size<=w7.heap.size by omega))
      have HM7:=zh (show gm < b2/\Nmd b2 w7 Al2 nl2 cl2 Ml2/\fstN Ml2=X3.L/\Small Ml2 from ⟨hgmb,HNM7.out,by rw [HL3.out];exact HFM.out,HSM5.out⟩);have HX7:=zh (And.intro HRS3.out HX3.out);clear hown7 hg7 hat7 f7 hown hrm hkeep;go_wp2_with fail;go_roundg (nz - (k+1))
      case measure=>omega
      case rel=>exact ⟨k+1,X3,b2,Al2,nl2,cl2,Ml2,A7,no+n6,c7,by omega,rfl,rfl,rfl,.inr ⟨_,rfl⟩,by go_num,HX7,HM7,HOF7,HCT7,HO7,HF7⟩
    ·
     have HCK:=zh hck;have HRU:=zh (drun_bad (some ⟨gt,0,none⟩) Al2 Ar cl2 cr w5.heap.size nl2 nr Ml2 w5 HND.out (Nat.le_refl _) HSM5.out (by rw [HFM.out];exact hck));clear hck HND;go_wp2_with fail;refine HRU.out.mono ?_;rintro e w6 ⟨rfl,f6⟩;have FF:=zh (HFb.out.1.trans (f6.mono (B':=w.heap.size) (L':=[]) hsw5 (by simp)));clear f6 HRU;go_wp2_with fail
     (try simp only [Exit.inBlock,Exit.then])
     refine bodyPost_ret (results_tmp4 rfl _ _ _) rfl ?_
     have hsg:segG X (fstS P) R=(10,X2):=by
      rw [HSEG.out];unfold recsG;rw [if_pos HCK.out]
     have hrr:r=segG X (fstS P) R:=HRS.out.trans (segsG_err (z:=⟨P,R,_,_⟩) (by show (segG X (fstS P) R).1 ≠ 0;rw [hsg];simp));rw [hsg] at hrr;rw [hrr];exact .inl ⟨by simp,rfl,FF.out⟩
  ·
   obtain rfl:nz=k:=by omega
   have hT:Z.drop nz=[]:=List.drop_eq_nil_of_le (by rw [HNZ.out];exact Nat.le_refl _);rw [hT] at HX;clear hT;go_wp2_with fail
   (try simp only [Exit.inBlock,Exit.then])
   refine bodyPost_ret (results_tmp4 rfl _ _ _) rfl ?_;have hr:r=(0,X):=HX.out.1;rw [hr];exact .inr ⟨rfl,Ao,no,co,Al,nl,cl,Ml,gt,gm,rfl,ownsRow_base HO.out (by have:=HF.out.1.size;omega),HM.out.2.1.nds (Fr.refl _ [] _) (by simp),HM.out.2.2.1,HM.out.2.2.2,HCT.out,HX.out.2.1,hwgt,hwgm,HF.out.1⟩
end Go.Proofs.YtlejomlppjpchaaGreat
namespace Go.Proofs.YtlejomlppjpchaaGreat
open Go.RowKit Go.Fb
set_option maxRecDepth 100000
set_option maxHeartbeats 16000000
set_option linter.unusedVariables false
def Twin (o o':List (Nat->Int)) (a b:DS):Prop:=a.T=b.T/\∃ t,a.out=o ++ t/\b.out=o' ++ t
theorem foldl_twin {α:Type} {o o':List (Nat->Int)} (f:DS->α->DS):∀ (l:List α) {a b:DS},(∀ x ∈ l,∀ a b,Twin o o' a b->Twin o o' (f a x) (f b x))->Twin o o' a b->Twin o o' (l.foldl f a) (l.foldl f b)
 | [],_,_,_,h=>h
 | x :: l,a,b,hf,h=>foldl_twin f l (fun y hy=>hf y (by simp [hy])) (hf x (by simp) a b h)
theorem come_twin {L:List Nd} {o o':List (Nat->Int)} {put:Int->Int->Int × Int->DS->DS} (hp:∀ id key v a b,Twin o o' a b->Twin o o' (put id key v a) (put id key v b)) (frm id key:Int) (v:Int × Int) {a b:DS} (h:Twin o o' a b):Twin o o' (comeD L put frm id key v a) (comeD L put frm id key v b):=by
 obtain ⟨hT,t,h1,h2⟩:=h;unfold comeD
 cases findN L id with
 | none=>exact ⟨hT,t,h1,h2⟩
 | some x =>
  simp only
  by_cases hk:x.kind=2
  · rw [if_pos hk,if_pos hk];exact ⟨hT,t ++ [lnF id frm key v.1 v.2],by simp [h1],by simp [h2]⟩
  · rw [if_neg hk,if_neg hk];have e1:emitsD x a.T id key v=emitsD x b.T id key v:=(by rw [hT]);rw [e1];exact foldl_twin _ _ (fun u _ a b h=>hp id key u a b h) ⟨by simp only [hT],t,h1,h2⟩
theorem put_twin {L:List Nd} {o o':List (Nat->Int)}:∀ (d:Nat) (id key:Int) (v:Int × Int) {a b:DS},Twin o o' a b->Twin o o' (putD L d id key v a) (putD L d id key v b)
 | 0,_,_,_,_,_,h=>h
 | d+1,id,key,v,a,b,h=>foldl_twin _ _ (fun c _ a b h=>come_twin (fun id key v a b h=>put_twin d id key v h) id c key v h) h
theorem flow_twin {L:List Nd} {o o':List (Nat->Int)} (l:List (Nat->Int)) {a b:DS} (h:Twin o o' a b):Twin o o' (flowD L l a) (flowD L l b) :=
 foldl_twin _ _ (fun x _ a b h=>put_twin 8 0 _ _ (a:=⟨a.T,a.out,_⟩) (b:=⟨b.T,b.out,_⟩) h) h
theorem flow_new {L:List Nd} (l:List (Nat->Int)) (S:DS) (C:Int->Option Int):(flowD L l S).T=(flowD L l ⟨S.T,[],C⟩).T/\(flowD L l S).out=S.out ++ (flowD L l ⟨S.T,[],C⟩).out:=by
 obtain ⟨h,t,h1,h2⟩:=flow_twin (L:=L) (o:=S.out) (o':=[]) l (a:=S) (b:=⟨S.T,[],C⟩) ⟨rfl,[],by simp,by simp⟩;rw [List.nil_append] at h2;exact ⟨h,by rw [h1,h2]⟩
theorem r7run_int (gu:Nat) (T:Pk->CV) (id key:Int) (Ap:Option Addr) (cp B:Nat) (l:List (Int × Int)) (s:CS) (x:Int × Int) (w:World) (h:RT w gu T) (hsf:chkL l=some s) (hrd:Reads w B 2 Ap l.length (cellsI l)) (hB:B<=w.heap.size) (hx:vOk x) (hp:thereB (id,key)=true) (hT:cvB (T (id,key))=true) (hn:(outP_ l x (ccT (T (id,key)))).length<=1000) :
  Calls Tryz.prog 73 #[.pointer (some ⟨gu,0,none⟩),.int .i64 id,.slice Ap l.length cp,.agg #[.int .i64 key,.int .i64 x.1,.int .i64 x.2]] w (R7Out gu T (id,key) l x w):=by
 unfold thereB at hp;have hp:=of_decide_eq_true hp;obtain ⟨nd,rfl⟩:∃ nd:Nat,id=nd:=⟨id.toNat,by omega⟩;obtain ⟨k,rfl⟩:∃ k:Nat,key=k:=⟨key.toNat,by omega⟩;exact r7run_any gu T nd k Ap cp B l s x w h hsf hrd hB hx (by omega) (by omega) hT hn
def st0 (T:Pk->CV):DS:=⟨T,[],fun _=>none⟩
theorem put_new (L:List Nd) (d:Nat) (id key:Int) (v:Int × Int) (S:DS):(putD L d id key v S).T=(putD L d id key v (st0 S.T)).T/\(putD L d id key v S).out=S.out ++ (putD L d id key v (st0 S.T)).out:=by
 obtain ⟨h1,t,h2,h3⟩:=put_twin (L:=L) (o:=S.out) (o':=[]) d id key v (a:=S) (b:=st0 S.T) ⟨rfl,[],by simp,rfl⟩;refine ⟨h1,?_⟩;rw [h2,h3,List.nil_append]
def RPut (gu:Nat) (S:DS) (w:World) (e:Ending) (w':World):Prop :=
 ∃ A n c,n=S.out.length/\e=.returned (.slice A n c)/\w'.ownsRow w.heap.size 69 5 (.slice A n c) n (cellsLn S.out)/\RT w' gu S.T/\Fr w.heap.size [gu] w w'
structure RIn (gu B:Nat) (A:Option Addr) (n:Nat) (M:List Ndm) (key:Int) (v:Int × Int) (T:Pk->CV) (w:World):Prop where
 k:keyOk key
 v:vOk v
 t:TOk T
 nds:∀ W,Fr B [gu] w W->Nds W B A n M
 low:B<=w.heap.size
 tab:RT w gu T
structure PJ (gu b1:Nat) (L0:List Nat) (w0 wr:World) (S:DS) (A:Option Addr) (n c:Nat):Prop where
 num:n=S.out.length
 row:wr.ownsRow b1 69 5 (.slice A n c) n (cellsLn S.out)
 tab:RT wr gu S.T
 ok:TOk S.T
 fr:Fr w0.heap.size (gu :: L0) w0 wr
 own:∀ q,(Value.slice A n c).ownBlock=some q->q ∈ L0 \/ w0.heap.size<=q
 low:gu < b1
theorem PJ.mv {gu b1:Nat} {L0:List Nat} {w0 wr w5:World} {S:DS} {A:Option Addr} {n c:Nat} (h:PJ gu b1 L0 w0 wr S A n c) (hf:Fr wr.heap.size [] wr w5):PJ gu b1 L0 w0 w5 S A n c :=
 ⟨h.num,ownsRow_fr h.row hf (fun q hq=>⟨(h.row.lt q hq).2,by simp⟩),h.tab.fr hf h.tab.lt (by simp),h.ok,h.fr.trans (hf.mono (B':=w0.heap.size) (L':=gu :: L0) h.fr.size (by simp)),h.own,h.low⟩
theorem PJ.tabs {gu b1:Nat} {L0:List Nat} {w0 wr w5:World} {S S':DS} {A:Option Addr} {n c:Nat} (h:PJ gu b1 L0 w0 wr S A n c) (hf:Fr wr.heap.size [gu] wr w5) (ht:RT w5 gu S'.T) (hok:TOk S'.T) (ho:S'.out=S.out):PJ gu b1 L0 w0 w5 S' A n c :=
 ⟨by rw [ho];exact h.num,by rw [ho];exact ownsRow_fr h.row hf (fun q hq=>⟨(h.row.lt q hq).2,by have:=(h.row.lt q hq).1;have:=h.low;simp;omega⟩),ht,hok,h.fr.trans (hf.mono (B':=w0.heap.size) (L':=gu :: L0) h.fr.size (fun q hq _=>by simp at hq;simp [hq])),h.own,h.low⟩
theorem PJ.grow {gu b1:Nat} {L0:List Nat} {w0 w5 w6:World} {S S':DS} {A A3:Option Addr} {n c n3 c3:Nat} (h:PJ gu b1 L0 w0 w5 S A n c)
  (ho:w6.ownsRow b1 69 5 (.slice A3 n3 c3) n3 (cellsLn S'.out)) (hg:w5.grownBy w6 (Value.slice A n c).ownBlock) (hat:(Value.slice A3 n3 c3).ownBlock=(Value.slice A n c).ownBlock \/ (Value.slice A3 n3 c3).ownBlock=some w5.heap.size)
  (hT:S'.T=S.T) (hn:n3=S'.out.length):PJ gu b1 L0 w0 w6 S' A3 n3 c3:=by
 have hne:some gu ≠ (Value.slice A n c).ownBlock:=fun e=>by have:=(h.row.lt gu e.symm).1;have:=h.low;omega
 refine ⟨hn,ho,by rw [hT];exact Blk.grown h.tab hg hne,by rw [hT];exact h.ok,h.fr.grown hg h.fr.size (fun k hk => ?_),fun q hq => ?_,h.low⟩
 ·
  rcases h.own k hk with e | e
  · exact .inr (List.mem_cons_of_mem _ e)
  · exact .inl e
 ·
  rcases hat with e | e
  · rw [e] at hq;exact h.own q hq
  ·
   rw [e] at hq;injection hq with hq
   exact .inr (by rw [<- hq];exact h.fr.size)
theorem PJ.inner {gu b1:Nat} {L0:List Nat} {w0 w5:World} {S:DS} {A:Option Addr} {n c:Nat} (h:PJ gu b1 L0 w0 w5 S A n c):PJ gu b1 (Value.slice A n c).ownBlock.toList w5 w5 S A n c :=
 ⟨h.num,h.row,h.tab,h.ok,Fr.refl _ _ _,fun q hq=>.inl (by simp [hq]),h.low⟩
theorem PJ.join {gu b1:Nat} {L0:List Nat} {w0 w5 wq:World} {S5 S:DS} {A5 A:Option Addr} {n5 c5 n c:Nat} (h5:PJ gu b1 L0 w0 w5 S5 A5 n5 c5) (h:PJ gu b1 (Value.slice A5 n5 c5).ownBlock.toList w5 wq S A n c):PJ gu b1 L0 w0 wq S A n c:=by
 refine ⟨h.num,h.row,h.tab,h.ok,h5.fr.trans (h.fr.mono (B':=w0.heap.size) (L':=gu :: L0) h5.fr.size (fun q hq hlt => ?_)),fun q hq => ?_,h.low⟩
 ·
  simp only [List.mem_cons,Option.mem_toList] at hq
  rcases hq with e | e
  · simp [e]
  ·
   rcases h5.own q e with e | e
   · exact List.mem_cons_of_mem _ e
   · omega
 ·
  rcases h.own q hq with e | e
  · simp only [Option.mem_toList] at e;exact h5.own q e
  · exact .inr (Nat.le_trans h5.fr.size e)
theorem lnOne {l:List (Nat->Int)}:∀ u ∈ cellsLn l,u.oneCell'=true:=by
 intro u hu;unfold cellsLn at hu;obtain ⟨x,_,hx⟩:=List.mem_flatMap.1 hu;simp only [lnC,List.mem_cons,List.not_mem_nil,or_false] at hx
 rcases hx with rfl | rfl | rfl | rfl | rfl <;> rfl
theorem put_few0 {L:List Nd} (h:RightG L) (d:Nat) {x:Nd} (hx:x ∈ L) {key:Int} {v:Int × Int} {T:Pk->CV} (hk:keyOk key) (hv:vOk v) (hT:TOk T):(putD L d x.id key v (st0 T)).out.length<=26507215:=by
 have h1:=put_few h d x hx key v (st0 T) hk hv hT;have h2:=mostD_mono (a:=7 - posI (sortN L) x.id) (b:=7) (by omega);have h3:mostD 7<=26507215:=(by decide);have h4:(st0 T).out.length=0:=rfl;omega
theorem rput_step (gu B n c:Nat) (A:Option Addr) (M:List Ndm) (hR:RightG (fstN M)) (hs:Small M) (d:Nat) (x:Nd) (hx:x ∈ fstN M)
  (hrec:∀ y ∈ fstN M,x.id ∈ y.fr -> ∀ (key:Int) (v:Int × Int) (T:Pk->CV) (w:World),RIn gu B A n M key v T w->Calls Tryz.prog 101 #[.slice A n c,.pointer (some ⟨gu,0,none⟩),.int .i64 y.id,.agg #[.int .i64 key,.int .i64 v.1,.int .i64 v.2]] w (RPut gu (putD (fstN M) d y.id key v (st0 T)) w))
  (key:Int) (v:Int × Int) (T:Pk->CV) (w:World) (hI:RIn gu B A n M key v T w) :
  Calls Tryz.prog 101 #[.slice A n c,.pointer (some ⟨gu,0,none⟩),.int .i64 x.id,.agg #[.int .i64 key,.int .i64 v.1,.int .i64 v.2]] w (RPut gu (putD (fstN M) (d+1) x.id key v (st0 T)) w):=by
 obtain ⟨L,hL⟩:=nm (fstN M);have hnm:n<=1000000:=(by rw [(hI.nds w (Fr.refl _ _ _)).num];exact hs.1);have hBw:B<=w.heap.size:=hI.low;have hlen:=put_few0 hR (d+1) hx hI.k hI.v hI.t;obtain ⟨K,hK⟩:=nm (childN L x.id)
 have HCH := zh (fun (wx : World) (hf : Fr w.heap.size [] w wx) => (by
  have h:=rchild_any x.id A c B n M wx (hI.nds wx (hf.mono (B':=B) (L':=[gu]) hBw (by simp))) (Nat.le_trans hBw hf.size) hs;rw [<- hL,<- child_right (by rw [hL];exact hR),<- hK] at h
  exact h:Calls Tryz.prog 62 #[.slice A n c,.int .i64 x.id] wx (IntsOut K wx)))
 rw [<- hL] at hR hx hrec hlen ⊢;have hK8:K.length<=8:=(by rw [hK];exact childN_len hR x.id);have hput:putD L (d+1) x.id key v (st0 T)=K.foldl (fun s c=>comeD L (putD L d) x.id c key v s) (st0 T):=(by rw [hK];rfl);rw [hput] at hlen ⊢;obtain ⟨cm,hcm⟩:∃ cm:Int->DS->DS,cm=fun c s=>comeD L (putD L d) x.id c key v s:=⟨_,rfl⟩;have HAH:=zh (show ∀ c S,Ahead S (cm c S) from by rw [hcm];exact fun c S=>come_ahead (put_ahead L d) _ _ _ _ _);have HOK:=zh (show ∀ c ∈ K,∀ S,TOk S.T->TOk (cm c S).T from by rw [hcm,hK];exact fun c hc S hT=>come_ok hR hc hI.k hI.v hT)
 have HSNK := zh (show ∀ y ∈ L, y.kind = 2 -> ∀ S, (cm y.id S).T = S.T /\ (cm y.id S).out = S.out ++ [lnF y.id x.id key v.1 v.2] from by
  rw [hcm];intro y hy h2 S;simp only;unfold comeD;rw [findN_one hR.uni hy];simp only;rw [if_pos h2]
  exact ⟨rfl,rfl⟩)
 have HOPR := zh (show ∀ y ∈ L, y.kind ≠ 2 -> ∀ S, cm y.id S = (emitsD y S.T y.id key v).foldl (fun s u => putD L d y.id key u s) ⟨keepD y S.T y.id key v, S.out, cntU S.C y.id⟩ from by
  rw [hcm];intro y hy h2 S;simp only
  conv=>lhs;unfold comeD
  rw [findN_one hR.uni hy];simp only
  rw [if_neg h2])
 rw [show (fun s c=>comeD L (putD L d) x.id c key v s)=(fun s c=>cm c s) by rw [hcm]] at hlen ⊢
 have HKID := zh (show ∀ u ∈ K, ∃ y ∈ L, y.id = u /\ findN L u = some y /\ u ≠ 0 /\ x.id ∈ y.fr from by
  rw [hK];exact fun u hu=>child_node hR hu)
 have HLEN:=zh hlen;have HREC:=zh hrec;have HL:=zh hL;have HRR:=zh hR;have HI:=zh hI;obtain ⟨id,hid⟩:=nm (x.id);rw [<- hid] at HCH HSNK HKID HREC ⊢;obtain ⟨nk,hnk⟩:=nm (K.length);have HNK:=zh hnk;rw [<- hnk] at hK8;have hguw:=hI.tab.lt;clear hs hL hR hx hrec hI hput hcm hK hlen hid hnk;have fa:=(Fr.refl w.heap.size [] w).alloc (Nat.le_refl _) (.cells #[.int .i64 key,.int .i64 v.1,.int .i64 v.2] 50);have BR:=zh (Blk.new w 50 #[.int .i64 key,.int .i64 v.1,.int .i64 v.2]);have FA:=zh fa;clear fa;go_enter Tryz.func101,Tryz.ntmps101;go_upto_region 1 with fail;generalize w.alloc (.cells #[.int .i64 key,.int .i64 v.1,.int .i64 v.2] 50)=w1 at *;obtain ⟨gr,hgr⟩:=nm (w.heap.size);rw [<- hgr] at BR ⊢;have HGR:=zh hgr;have hgr1:gr < w1.heap.size:=BR.out.lt;have hgr0:=hgr1;have hw1:w.heap.size<=w1.heap.size:=FA.out.size;go_upto_region 2 with fail;clear hgr;have FB:=zh ((Fr.refl w1.heap.size [] w1).alloc (Nat.le_refl _) (.cells #[] 69));have HO:=zh (lowns_empty w1);have F2:=zh (FA.out.trans (FB.out.mono (B':=w.heap.size) (L':=[]) hw1 (by simp)));have hb2:w1.heap.size < (w1.alloc (.cells #[] 69)).heap.size:=(by simp);generalize w1.alloc (.cells #[] 69)=w2 at *;obtain ⟨b1,hb1⟩:=nm (w1.heap.size);rw [<- hb1] at HO hb2 hgr1 hw1 ⊢;have hgg:gu < gr:=(by have:=HGR.out;omega);clear hb1;have HCH2:=zh (HCH.out w2 F2.out);go_wp2_with fail;refine HCH2.out.mono ?_;rintro e w3 ⟨Ak,ck,nk2,hnk2,rfl,hok,hf3⟩;obtain rfl:nk=nk2:=by rw [hnk2,HNK.out]
 have HKR:=zh (Reads.of_own hok)
 have HKB := zh (show ∀ ad, Ak = some ad -> w2.heap.size <= ad.block from fun ad ha => by
  obtain ⟨A2,c2,e,h,_⟩:=ownsRow_shape hok;injection e with e
  subst e
  exact (h ad ha).2.2.1)
 have F3:=zh (F2.out.nx hf3);have BR3:=zh ((BR.out.fr FB.out hgr0 (by simp)).fr hf3 (by omega) (by simp));have hw23:w2.heap.size<=w3.heap.size:=hf3.size;have HJ0:=zh (show PJ gu b1 [b1] w3 w3 (st0 T) (some ⟨b1,0,none⟩) 0 0 from ⟨rfl,ownsRow_fr HO.out hf3 (fun q hq=>⟨(HO.out.lt q hq).2,by simp⟩),HI.out.tab.fr F3.out HI.out.tab.lt (by simp),HI.out.t,Fr.refl _ _ _,fun q hq=>by simp [Value.ownBlock] at hq;exact .inl (by simp [hq]),by omega⟩);have HNB:=zh (fun (W:World) (hf:Fr w3.heap.size [gu,b1] w3 W)=>((F3.out.mono (B':=B) (L':=[gu]) hBw (by simp)).trans (hf.mono (B':=B) (L':=[gu]) (by omega) (fun q hq hlt=>by simp at hq ⊢;omega)):Fr B [gu] w W));have HNW:=zh (fun (W:World) (hf:Fr w3.heap.size [gu,b1] w3 W)=>(HI.out.nds W (HNB.out W hf):Nds W B A n M));clear hnk2 hok hf3 HCH HCH2 HO FB FA F2 BR;go_wp2_with fail;go_loopg [9,11,12,13,14] nk (fun g s9 s11 s12 s13 s14 wr=>∃ (j:Nat) (A':Option Addr) (n' c':Nat),j<=nk/\g=nk - j/\s9=.slice A' n' c'/\s11=.int .i64 j/\(s12=undef \/ ∃ a,s12=.pointer a)/\(s13=undef \/ ∃ a q z,s13=.slice a q z)/\(s14=undef \/ ∃ a:Int,s14=.int .i64 a)/\Hid (PJ gu b1 [b1] w3 wr ((K.take j).foldl (fun s c=>cm c s) (st0 T)) A' n' c'))
 case atStart=>exact ⟨0,_,0,0,Nat.zero_le _,rfl,rfl,rfl,.inl rfl,.inl rfl,.inl rfl,HJ0⟩
 case round =>
  clear HJ0;obtain ⟨j,A',n',c',hj,rfl,rfl,rfl,h12,h13,h14,HJ⟩:=hrel;have hsz:=HJ.out.fr.size
  by_cases hjn:j < nk
  case pos =>
   have hji:(j:Int) < (nk:Int):=(by omega);have hj0:(0:Int)<=(j:Int):=(by omega);obtain ⟨u,hu⟩:∃ u,K[j]?=some u:=⟨_,List.getElem?_eq_getElem (by rw [<- HNK.out];exact hjn)⟩
   obtain ⟨bk, ok, u5, rfl, hbk, hu5, hc5⟩ := (HKR.out.frL HJ.out.fr (Nat.le_refl _) (fun hn ad ha hm => by
    have h1:=HKB.out ad ha;simp at hm
    omega)).one hjn
   rw [List.getElem?_map,hu] at hu5;simp at hu5;subst hu5;obtain ⟨y,hy,rfl,hfy,h0,hxy⟩:=HKID.out u (List.mem_of_getElem? hu);obtain ⟨SJ,hSJ⟩:=nm ((K.take j).foldl (fun s c=>cm c s) (st0 T));rw [<- hSJ] at HJ;have HTK:=zh (show (K.take (j+1)).foldl (fun s c=>cm c s) (st0 T)=cm y.id SJ by rw [List.take_add_one,hu,List.foldl_append,hSJ];rfl);have HOKJ:=zh (HOK.out y.id (List.mem_of_getElem? hu) SJ HJ.out.ok)
   have HLJ := zh (show (cm y.id SJ).out.length <= 26507215 by
    rw [<- HTK.out];refine Nat.le_trans (Ahead.len ?_) HLEN.out
    conv=>rhs;rw [<- List.take_append_drop (j+1) K,List.foldl_append]
    exact foldl_ahead _ (fun s c=>HAH.out c s) _ _)
   have hnJ:n'<=26507215:=(by rw [HJ.out.num];exact Nat.le_trans (HAH.out y.id SJ).len HLJ.out);have HND:=HNW.out wr HJ.out.fr;have HFI:=rfind_any y.id A c B n M wr HND hnm;rw [<- HL.out] at HFI
   obtain ⟨i,hi1,hi2⟩:∃ i:Nat,ixN L y.id=i/\L[i]?=some y:=by
    rcases ixN_cases L y.id with ⟨_,h2⟩ | ⟨i,z,h1,h2,h3⟩
    · rw [hfy] at h2;cases h2
    · rw [hfy] at h3;injection h3 with h3;subst h3;exact ⟨i,h1,h2⟩
   rw [hi1] at HFI;have HFI:=zh HFI
   obtain ⟨m,hm⟩:∃ m,M[i]?=some m/\m.1=y:=by
    rw [HL.out] at hi2;simp only [fstN,List.getElem?_map] at hi2
    cases hm:M[i]? with
    | none=>rw [hm] at hi2;cases hi2
    | some m=>rw [hm] at hi2;injection hi2 with hi2;exact ⟨m,rfl,hi2⟩
   obtain ⟨hm,hmy⟩:=hm;have hin:i < n:=(by rw [(HI.out.nds w (Fr.refl _ _ _)).num];exact (List.getElem?_eq_some_iff.1 hm).1);obtain ⟨bn,on,rfl,hbn,hcn⟩:=HND.get hm;obtain ⟨⟨Af,cf,hsf,_⟩,⟨Ap,cp,hsp,hrp⟩⟩:=HND.inn m (List.mem_of_getElem? hm);obtain ⟨m1,m2,m3⟩:=m;simp only at hmy hsf hsp hrp;subst hmy;subst hsf;subst hsp;obtain ⟨nf,hnf⟩:=nm (m1.fr.length);obtain ⟨np,hnp⟩:=nm (m1.pg.length);rw [<- hnf,<- hnp] at hcn;have HNP:=zh hnp;have HYK:=zh (And.intro h0 hxy);have p0:wr.cell? ⟨bn,on+i * 13,none⟩=some (.int .i64 m1.id):=hcn 0 _ rfl;have p1:wr.cell? ⟨bn,on+i * 13+1,none⟩=some (.int .i64 m1.kind):=hcn 1 _ rfl;have p2:wr.cell? ⟨bn,on+i * 13+2,none⟩=some (.slice Af nf cf):=hcn 2 _ rfl;have p3:wr.cell? ⟨bn,on+i * 13+3,none⟩=some (.slice Ap np cp):=hcn 3 _ rfl;have p4:wr.cell? ⟨bn,on+i * 13+4,none⟩=some (.int .i64 m1.par):=hcn 4 _ rfl;have p5:wr.cell? ⟨bn,on+i * 13+5,none⟩=some (.int .i64 (m1.rt 0)):=hcn 5 _ rfl;have p6:wr.cell? ⟨bn,on+i * 13+6,none⟩=some (.int .i64 (m1.rt 1)):=hcn 6 _ rfl;have p7:wr.cell? ⟨bn,on+i * 13+7,none⟩=some (.int .i64 (m1.rt 2)):=hcn 7 _ rfl;have p8:wr.cell? ⟨bn,on+i * 13+8,none⟩=some (.int .i64 (m1.rt 3)):=hcn 8 _ rfl;have p9:wr.cell? ⟨bn,on+i * 13+9,none⟩=some (.int .i64 (m1.rt 4)):=hcn 9 _ rfl;have p10:wr.cell? ⟨bn,on+i * 13+10,none⟩=some (.int .i64 (m1.rt 5)):=hcn 10 _ rfl;have p11:wr.cell? ⟨bn,on+i * 13+11,none⟩=some (.int .i64 (m1.rt 6)):=hcn 11 _ rfl;have p12:wr.cell? ⟨bn,on+i * 13+12,none⟩=some (.int .i64 (m1.rt 7)):=hcn 12 _ rfl;have hki:(i:Int) < (n:Int):=(by omega);have hk0:(0:Int)<=(i:Int):=(by omega);obtain ⟨kd,hkd⟩:=nm (m1.kind);obtain ⟨yid,hyid⟩:=nm (m1.id);have HKD:=zh hkd;have HYID:=zh hyid;have HY:=zh hy;have fb:=(Fr.refl wr.heap.size [] wr).alloc (Nat.le_refl _) (.cells #[.int .i64 yid,.int .i64 kd,.slice Af nf cf,.slice Ap np cp,.int .i64 m1.par,.int .i64 (m1.rt 0),.int .i64 (m1.rt 1),.int .i64 (m1.rt 2),.int .i64 (m1.rt 3),.int .i64 (m1.rt 4),.int .i64 (m1.rt 5),.int .i64 (m1.rt 6),.int .i64 (m1.rt 7)] 83);have BN:=zh (Blk.new wr 83 #[.int .i64 yid,.int .i64 kd,.slice Af nf cf,.slice Ap np cp,.int .i64 m1.par,.int .i64 (m1.rt 0),.int .i64 (m1.rt 1),.int .i64 (m1.rt 2),.int .i64 (m1.rt 3),.int .i64 (m1.rt 4),.int .i64 (m1.rt 5),.int .i64 (m1.rt 6),.int .i64 (m1.rt 7)]);have HJA:=zh (HJ.out.mv fb);have BRA:=zh ((BR3.out.fr HJ.out.fr (by omega) (by simp;omega)).fr fb (by omega) (by simp));have HSZA:=zh fb.size;rw [<- hkd] at p1;rw [<- hyid] at p0 HFI hc5;have HSZW:=zh hsz;have HMEM:=zh (List.mem_of_getElem? hm);have HOWN:=zh (fun q hq=>(HJ.out.row.lt q hq).2);have H13:=zh h13;have H14:=zh h14;clear hcn hrp hbn hm hi1 hi2 hsz HJ HND hu hfy hy hxy h0 hnf hnp hkd hyid hSJ fb h12 h13 h14;go_wp2_with fail;refine HFI.out.mono ?_;rintro e w9 ⟨rfl,rfl⟩;go_upto_region 7 with fail;clear p0 p1 p2 p3 p4 p5 p6 p7 p8 p9 p10 p11 p12 hc5 HFI;obtain ⟨gn,hgn⟩:=nm (wr.heap.size);have HSZB:=zh (show w3.heap.size<=gn by rw [hgn];exact HSZW.out);have HOWG:=zh (show ∀ q,(Value.slice A' n' c').ownBlock=some q->q < gn from by rw [hgn];exact HOWN.out);generalize wr.alloc (.cells #[.int .i64 yid,.int .i64 kd,.slice Af nf cf,.slice Ap np cp,.int .i64 m1.par,.int .i64 (m1.rt 0),.int .i64 (m1.rt 1),.int .i64 (m1.rt 2),.int .i64 (m1.rt 3),.int .i64 (m1.rt 4),.int .i64 (m1.rt 5),.int .i64 (m1.rt 6),.int .i64 (m1.rt 7)] 83)=wa at *;rw [<- hgn] at BN HSZA ⊢;clear hgn;have n0:=BN.out.cell 0;have n1:=BN.out.cell 1;have r0:=BRA.out.cell 0;have r1:=BRA.out.cell 1;have r2:=BRA.out.cell 2;simp at n0 n1 r0 r1 r2
   by_cases h2:kd=2
   case pos =>
    obtain ⟨e1,e2⟩:=HSNK.out m1 HY.out (by rw [<- HKD.out];exact h2) SJ;have hown:=HJA.out.row;have hszA:=HJA.out.fr.size;have hb1a:b1<=wa.heap.size:=(by omega);have HE:=zh (And.intro e1 e2);clear e1 e2;subst h2;go_wp2_with (at_builtin;refine wpList_app_lit _ rfl (.tmp 37) (.tmp 46) lineTy rfl b1 (.slice A' n' c') n' _ rfl hown 1 1 _ rfl rfl (by simp [Value.oneCell']) (by omega) (by omega) hb1a ?_;intro A6 c6 w6 hown6 hg6 hat6);have fl:=(Fr.refl wa.heap.size [] wa).alloc (Nat.le_refl _) (.cells #[.int .i64 yid,.int .i64 id,.int .i64 key,.int .i64 v.1,.int .i64 v.2] 69)
    have HJ6 := zh ((HJA.out.mv fl).grow (S' := cm m1.id SJ) (A3 := A6) (n3 := n' + 1) (c3 := c6) (by
     rw [HE.out.2];have e:cellsLn (SJ.out ++ [lnF m1.id id key v.1 v.2])=cellsLn SJ.out ++ [.int .i64 yid,.int .i64 id,.int .i64 key,.int .i64 v.1,.int .i64 v.2]:=(by rw [HYID.out];simp [cellsLn,lnF_C]);rw [e]
     exact hown6) hg6 (by rw [World.size_alloc];exact hat6) HE.out.1 (by rw [HE.out.2,List.length_append,<- HJA.out.num];rfl))
    clear hown6 hg6 hat6 hown fl;rw [<- HTK.out] at HJ6;go_roundg (nk - (j+1))
    case measure=>omega
    case rel=>exact ⟨j+1,A6,n'+1,c6,by omega,rfl,rfl,by go_num,.inr ⟨_,rfl⟩,H13.out,H14.out,HJ6⟩
   case neg =>
    have hkn2:m1.kind ≠ 2:=(by rw [<- HKD.out];exact h2);obtain ⟨s,hs⟩:=op_safe HRR.out HY.out hkn2 HYK.out.1;have hpl:=place_there HRR.out HY.out HI.out.k;obtain ⟨hk1,hk2⟩:=keep_ok HRR.out HY.out hs HJA.out.ok HI.out.k HI.out.v;have hszE:(emitsD m1 SJ.T m1.id key v).length<=1000:=Nat.le_trans (outP_len hs v _) (by decide);have hBa:B<=wa.heap.size:=(by have:=HJA.out.fr.size;omega)
    have hrp:Reads wa B 2 Ap m1.pg.length (cellsI m1.pg):=by
     obtain ⟨_,⟨A1,c1,e,hr⟩⟩:=(HNW.out wa HJA.out.fr).inn _ HMEM.out;simp only at e hr;injection e with e1 e2 e3
     rw [e1];exact hr
    have hrun:=r7run_int gu SJ.T m1.id key Ap cp B m1.pg s v wa HJA.out.tab hs hrp hBa HI.out.v hpl (T_ok HJA.out.ok _) hszE;obtain ⟨o,ho⟩:=nm (emitsD m1 SJ.T m1.id key v);obtain ⟨T1,hT1⟩:=nm (keepD m1 SJ.T m1.id key v)
    have HRUN := zh (by
     rw [ho,hT1,HYID.out,HNP.out]
     exact hrun:Calls Tryz.prog 73 #[.pointer (some ⟨gu,0,none⟩),.int .i64 yid,.slice Ap np cp,.agg #[.int .i64 key,.int .i64 v.1,.int .i64 v.2]] wa fun e w'=>∃ A n c,n=o.length/\e=.returned (.slice A n c)/\w'.ownsRow wa.heap.size 50 3 (.slice A n c) n (cellsR (rcL key o))/\RT w' gu T1/\Fr wa.heap.size [gu] wa w')
    have HCM:=zh (HOPR.out m1 HY.out hkn2 SJ);rw [<- ho,<- hT1] at HCM;rw [<- ho] at hszE hk2;rw [<- hT1] at hk1;obtain ⟨S1,hS1⟩:=nm (⟨T1,SJ.out,cntU SJ.C m1.id⟩:DS);rw [<- hS1] at HCM;have HS1:=zh (show S1.T=T1/\S1.out=SJ.out by rw [hS1];exact ⟨rfl,rfl⟩);have HK1:=zh (show TOk S1.T by rw [hS1];exact hk1);have HK2:=zh hk2;have HSZE:=zh hszE;clear hS1 hk1 hk2 hszE ho hT1 hrun hrp hpl hs hkn2;have n3:=BN.out.cell 3;simp at n3;go_wp2_with fail;refine HRUN.out.mono ?_;rintro e w5 ⟨A1,nx,c1,hnx,rfl,how,ht5,f5⟩;have HJ5:=zh (HJA.out.tabs (S':=S1) f5 (by rw [HS1.out.1];exact ht5) HK1.out HS1.out.2);have hgwa:gn < wa.heap.size:=BN.out.lt;have hgugn:gu < gn:=(by have:=HSZB.out;omega);have BN5:=zh (BN.out.fr f5 hgwa (by simp;omega));have HXR:=zh (Reads.of_own how)
    have HXB := zh (show ∀ ad, A1 = some ad -> wa.heap.size <= ad.block from fun ad ha => by
     obtain ⟨A2,c2,e,h,_⟩:=ownsRow_shape how;injection e with e
     subst e
     exact (h ad ha).2.2.1)
    have hw5:wa.heap.size<=w5.heap.size:=f5.size;have HNX:=zh hnx;have hnx1:nx<=1000:=(by rw [hnx];exact HSZE.out);have HI5:=zh HJ5.out.inner;obtain ⟨LI,hLI⟩:=nm ((Value.slice A' n' c').ownBlock.toList);have HLI:=zh (show ∀ q,q ∈ LI ↔ (Value.slice A' n' c').ownBlock=some q from fun q=>by rw [hLI];simp);have HLE:=zh hLI;rw [<- hLI] at HI5;clear hLI hnx how ht5 f5 HRUN n0 n1 n3 r0 r1 r2 HJA BRA BN HK1;go_wp2_with fail;go_loopg [9,14] nx (fun g s9 s14 wq=>∃ (jj:Nat) (A6:Option Addr) (n6 c6:Nat),jj<=nx/\g=nx - jj/\s9=.slice A6 n6 c6/\s14=.int .i64 jj/\Hid (PJ gu b1 LI w5 wq ((o.take jj).foldl (fun s u=>putD L d m1.id key u s) S1) A6 n6 c6))
    case atStart=>exact ⟨0,A',n',c',Nat.zero_le _,rfl,rfl,rfl,HI5⟩
    case round =>
     clear HI5;obtain ⟨jj,A6,n6,c6,hjj,rfl,rfl,rfl,HQ⟩:=hrel;have hszq:=HQ.out.fr.size
     by_cases hjx:jj < nx
     case pos =>
      have hqi:(jj:Int) < (nx:Int):=(by omega);have hq0:(0:Int)<=(jj:Int):=(by omega);obtain ⟨u,hu⟩:∃ u,o[jj]?=some u:=⟨_,List.getElem?_eq_getElem (by rw [<- HNX.out];exact hjx)⟩;have hur:(rcL key o)[jj]?=some (rcF key u):=(by unfold rcL;rw [List.getElem?_map,hu];rfl);have hnr:nx=(rcL key o).length:=(by unfold rcL;rw [List.length_map];exact HNX.out)
      obtain ⟨b, off, rfl, hbl, hc⟩ := reads_rec (by rw [<- hnr]; exact HXR.out.frL HQ.out.fr (Nat.le_refl _) (fun hn ad ha hm => by
       have h1:=HXB.out ad ha;simp only [List.mem_cons] at hm
       rcases hm with e | e
       · omega
       · have:=HOWG.out _ ((HLI.out _).1 e);omega)) hur
      have hbw:=HXB.out _ rfl;simp only at hbw;obtain ⟨SQ,hSQ⟩:=nm ((o.take jj).foldl (fun s u=>putD L d m1.id key u s) S1);rw [<- hSQ] at HQ;have HTQ:=zh (show (o.take (jj+1)).foldl (fun s u=>putD L d m1.id key u s) S1=putD L d m1.id key u SQ by rw [List.take_add_one,hu,List.foldl_append,hSQ];rfl)
      have HLQ := zh (show (putD L d m1.id key u SQ).out.length <= 26507215 by
       rw [<- HTQ.out];refine Nat.le_trans (Ahead.len ?_) HLJ.out;rw [HCM.out]
       conv=>rhs;rw [<- List.take_append_drop (jj+1) o,List.foldl_append]
       exact foldl_ahead _ (fun s u=>put_ahead L d _ _ _ _) _ _)
      have HPN:=zh (put_new L d m1.id key u SQ);have HUV:=zh (HK2.out u (List.mem_of_getElem? hu))
      have HF3 := zh (show Fr w3.heap.size [gu, b1] w3 wr.drew from (HJ5.out.fr.trans (HQ.out.fr.mono (B' := w3.heap.size) (L' := [gu, b1]) HJ5.out.fr.size (fun q hq hlt => by
       simp only [List.mem_cons] at hq
       rcases hq with e | e
       · simp [e]
       ·
        rcases HJ5.out.own q ((HLI.out q).1 e) with e | e
        · simp at e;simp [e]
        · omega))).drew)
      have HJD:=zh (HQ.out.mv (Fr.refl wr.heap.size [] wr).drew)
      have HCALL := zh (by
       rw [HYID.out]
       exact HREC.out m1 HY.out HYK.out.2 key u SQ.T wr.drew ⟨HI.out.k,HUV.out,HQ.out.ok,fun W hf=>HI.out.nds W ((HNB.out _ HF3.out).trans hf),Nat.le_trans hBw (HNB.out _ HF3.out).size,HJD.out.tab⟩:Calls Tryz.prog 101 #[.slice (some ⟨bn,on,none⟩) n c,.pointer (some ⟨gu,0,none⟩),.int .i64 yid,.agg #[.int .i64 key,.int .i64 u.1,.int .i64 u.2]] wr.drew (RPut gu (putD L d m1.id key u (st0 SQ.T)) wr.drew))
      have HOK2:=zh (put_ok HRR.out d m1.id key u (st0 SQ.T) HI.out.k HUV.out HQ.out.ok);obtain ⟨S2,hS2⟩:=nm (putD L d m1.id key u (st0 SQ.T));obtain ⟨S3,hS3⟩:=nm (putD L d m1.id key u SQ);rw [<- hS2] at HPN HCALL HOK2;rw [<- hS3] at HPN HLQ HTQ;obtain ⟨LQ,hLQ⟩:=nm (gu :: (Value.slice A6 n6 c6).ownBlock.toList)
      have HLQm := zh (show ∀ q, q ∈ LQ -> q = gu \/ q ∈ LI \/ w5.heap.size <= q from fun q hq => by
       rw [hLQ] at hq;simp only [List.mem_cons,Option.mem_toList] at hq
       rcases hq with e | e
       · exact .inl e
       · exact .inr (HQ.out.own q e))
      have HLQ1:=zh (show ∀ q,(Value.slice A6 n6 c6).ownBlock=some q->q ∈ LQ from fun q hq=>by rw [hLQ];simp [hq]);have HLQ0:=zh (show gu ∈ LQ from by rw [hLQ];simp)
      have hgnL:gn ∉ LQ:=fun h=>by
       rcases HLQm.out gn h with e | e | e
       · omega
       · have:=HOWG.out _ ((HLI.out _).1 e);omega
       · omega
      have hbL:b ∉ LQ:=fun h=>by
       rcases HLQm.out b h with e | e | e
       · omega
       · have:=HOWG.out _ ((HLI.out _).1 e);omega
       · omega
      have BNq := zh (BN5.out.fr HQ.out.fr BN5.out.lt (by
       intro h;simp only [List.mem_cons] at h
       rcases h with e | e
       · omega
       · have:=HOWG.out _ ((HLI.out _).1 e);omega))
      have SF:=zh (fun (W:World) (hf:Fr wr.heap.size LQ wr W)=>(⟨(BNq.out.fr hf BNq.out.lt hgnL).cell 0,(hf.cell (p:=⟨b,off+jj * 3,none⟩) (by simp only;omega) hbL).trans (hc 0 (by omega)),(hf.cell (p:=⟨b,off+jj * 3+1,none⟩) (by simp only;omega) hbL).trans (hc 1 (by omega)),(hf.cell (p:=⟨b,off+jj * 3+2,none⟩) (by simp only;omega) hbL).trans (hc 2 (by omega))⟩:W.cell? ⟨gn,0,none⟩=some (.int .i64 yid)/\W.cell? ⟨b,off+jj * 3,none⟩=some (.int .i64 key)/\W.cell? ⟨b,off+jj * 3+1,none⟩=some (.int .i64 u.1)/\W.cell? ⟨b,off+jj * 3+2,none⟩=some (.int .i64 u.2)));have I:=zh ((Fr.refl wr.heap.size LQ wr).drew);have hnq:n6=SQ.out.length:=HQ.out.num;have HNQ:=zh hnq;clear hu hur hnr hc hSQ hS2 hS3 hLQ HQ hnq;go_upto_region 13 with fail;refine wp_region_held_drew (S:=fun W=>W.cell? ⟨gn,0,none⟩=some (.int .i64 yid)/\W.cell? ⟨b,off+jj * 3,none⟩=some (.int .i64 key)/\W.cell? ⟨b,off+jj * 3+1,none⟩=some (.int .i64 u.1)/\W.cell? ⟨b,off+jj * 3+2,none⟩=some (.int .i64 u.2)) (by kernel_rfl) (SF.out _ I.out) (fun hHeld => ?_);refine tk (i:=0) (oi:=⟨some 61,_,_,_,_,_⟩) (v:=?_) rfl ?_ hHeld ?_
      rotate_left
      · intro w hSw;(try dsimp only at hSw);go_simp;(try with_reducible rfl)
      simp only [Act.put,lPt];refine tk (i:=1) (oi:=⟨some 62,_,_,_,_,_⟩) (v:=?_) rfl ?_ hHeld ?_
      rotate_left
      · intro w hSw;(try dsimp only at hSw);go_simp;(try with_reducible rfl)
      simp only [Act.put,lPt];refine tk (i:=2) (oi:=⟨some 63,_,_,_,_,_⟩) (v:=?_) rfl ?_ hHeld ?_
      rotate_left
      · intro w hSw;(try dsimp only at hSw);go_simp;(try with_reducible rfl)
      simp only [Act.put,lPt];refine tk (i:=3) (oi:=⟨some 64,_,_,_,_,_⟩) (v:=?_) rfl ?_ hHeld ?_
      rotate_left
      · intro w hSw;(try dsimp only at hSw);go_simp;(try with_reducible rfl)
      simp only [Act.put,lPt];refine tk (i:=4) (oi:=⟨some 65,_,_,_,_,_⟩) (v:=?_) rfl ?_ hHeld ?_
      rotate_left
      · intro w hSw;(try dsimp only at hSw);go_simp;(try with_reducible rfl)
      simp only [Act.put,lPt];refine tk (i:=5) (oi:=⟨some 66,_,_,_,_,_⟩) (v:=?_) rfl ?_ hHeld ?_
      rotate_left
      · intro w hSw;(try dsimp only at hSw);go_simp;(try with_reducible rfl)
      simp only [Act.put,lPt];refine tk (i:=6) (oi:=⟨some 67,_,_,_,_,_⟩) (v:=?_) rfl ?_ hHeld ?_
      rotate_left
      · intro w hSw;(try dsimp only at hSw);go_simp;(try with_reducible rfl)
      simp only [Act.put,lPt];refine tk (i:=7) (oi:=⟨some 68,_,_,_,_,_⟩) (v:=?_) rfl ?_ hHeld ?_
      rotate_left
      · intro w hSw;(try dsimp only at hSw);go_simp;(try with_reducible rfl)
      simp only [Act.put,lPt];refine tk (i:=8) (oi:=⟨some 69,_,_,_,_,_⟩) (v:=?_) rfl ?_ hHeld ?_
      rotate_left
      · intro w hSw;(try dsimp only at hSw);go_simp;(try with_reducible rfl)
      simp only [Act.put,lPt];refine wpAnyH_ready (rs:=[9]) (by kernel_rfl) (by simp) ?_;refine AllReadyH.cons (o:=⟨some 70,_,_,_,_,_⟩) rfl (fun K hK => ?_) AllReadyH.nil;rw [if_pos (by rfl)];go_simp;refine HCALL.out.mono ?_;rintro e w7 ⟨A2,n2,c2,hn2,rfl,how2,ht7,f7⟩;have J7:=zh (HJD.out.tabs (S':=⟨S2.T,SQ.out,SQ.C⟩) f7 ht7 HOK2.out rfl);have I:=zh (I.out.trans (f7.mono (B':=wr.heap.size) (L':=LQ) (Nat.le_refl _) (by intro q hq _;simp at hq;rw [hq];exact HLQ0.out)));have HN2:=zh hn2;have HR2:=zh (Reads.of_own how2);clear hn2 how2 ht7 f7;refine hK.out _ _ (SF.out _ I.out) (fun hHeld => ?_);clear hK K
      try simp only [Act.put,lPt]
      refine wpAnyH_ready (rs:=[10]) (by kernel_rfl) (by simp) ?_;refine AllReadyH.cons (o:=⟨some 71,_,_,_,_,_⟩) rfl (fun K hK => ?_) AllReadyH.nil;have hown:=J7.out.row;have hsz7:=J7.out.fr.size;have hb7:b1<=w7.heap.size:=(by have:=HSZB.out;omega);have hq9:n6+n2<=26507215:=(by have h1:=HLQ.out;rw [HPN.out.2,List.length_append] at h1;rw [HNQ.out,HN2.out];exact h1);refine step_app (by rfl) (.tmp 61) (.tmp 70) lineTy (by rfl) b1 (.slice A6 n6 c6) n6 _ (by rfl) hown w7.heap.size A2 n2 c2 _ (by rfl) HR2.out lnOne (by omega) (by omega) hb7 ?_;intro A8 c8 w8 hown8 hg8 hat8;have HJ8:=zh (J7.out.grow (S':=S3) (A3:=A8) (n3:=n6+n2) (c3:=c8) (by rw [HPN.out.2];rw [show cellsLn (SQ.out ++ S2.out)=cellsLn SQ.out ++ cellsLn S2.out by simp [cellsLn]];exact hown8) hg8 hat8 HPN.out.1 (by rw [HPN.out.2,List.length_append,HNQ.out,HN2.out]));have I:=zh (I.out.grown hg8 I.out.size (fun k hk=>.inr (HLQ1.out k hk)));clear hown8 hg8 hat8 hown hq9;refine hK.out _ _ (SF.out _ I.out) (fun hHeld => ?_);clear hK K
      try simp only [Act.put,lPt]
      refine tk (i:=11) (oi:=⟨some 9,_,_,_,_,_⟩) (v:=?_) rfl ?_ hHeld ?_
      rotate_left
      · intro w hSw;(try dsimp only at hSw);go_simp;(try with_reducible rfl)
      simp only [Act.put,lPt];refine wpAnyH_done (by kernel_rfl) ?_ _;go_wp2_with fail;rw [<- HTQ.out] at HJ8;go_roundg (nx - (jj+1))
      case measure=>omega
      case rel=>exact ⟨jj+1,A8,n6+n2,c8,by omega,rfl,rfl,by go_num,HJ8⟩
     case neg =>
      obtain rfl:nx=jj:=by omega
      have hT:o.take nx=o:=List.take_of_length_le (by rw [HNX.out];exact Nat.le_refl _);rw [hT,<- HCM.out] at HQ;rw [HLE.out] at HQ;have HJ6:=zh (HJ5.out.join HQ.out);rw [<- HTK.out] at HJ6;clear hT HQ;go_wp2_with fail;go_roundg (nk - (j+1))
      case measure=>omega
      case rel=>exact ⟨j+1,A6,n6,c6,by omega,rfl,rfl,by go_num,.inr ⟨_,rfl⟩,.inr ⟨_,_,_,rfl⟩,.inr ⟨_,rfl⟩,HJ6⟩
  case neg =>
   obtain rfl:nk=j:=by omega
   have hT:K.take nk=K:=List.take_of_length_le (by rw [HNK.out];exact Nat.le_refl _);rw [hT] at HJ;clear hT;go_wp2_with fail;go_ret;exact ⟨A',n',c',HJ.out.num,rfl,ownsRow_base HJ.out.row (by omega),HJ.out.tab,(F3.out.mono (B':=w.heap.size) (L':=[gu]) (Nat.le_refl _) (by simp)).trans (HJ.out.fr.mono (B':=w.heap.size) (L':=[gu]) F3.out.size (fun q hq hlt=>by simp at hq ⊢;omega))⟩
theorem rput_any (gu B n c:Nat) (A:Option Addr) (M:List Ndm) (hR:RightG (fstN M)) (hs:Small M) (r:Int->Nat) (D:Nat) (hr:∀ n ∈ fstN M,∀ f ∈ n.fr,r f < r n.id) (hD:∀ n ∈ fstN M,r n.id < D) :
  ∀ (d:Nat) (x:Nd),x ∈ fstN M->D<=d+r x.id -> ∀ (key:Int) (v:Int × Int) (T:Pk->CV) (w:World),RIn gu B A n M key v T w ->
   Calls Tryz.prog 101 #[.slice A n c,.pointer (some ⟨gu,0,none⟩),.int .i64 x.id,.agg #[.int .i64 key,.int .i64 v.1,.int .i64 v.2]] w (RPut gu (putD (fstN M) d x.id key v (st0 T)) w)
 | 0,x,hx,hd,key,v,T,w,hI=>by
  have:=hD x hx;omega
 | d+1,x,hx,hd,key,v,T,w,hI=>by
  refine rput_step gu B n c A M hR hs d x hx ?_ key v T w hI;intro y hy hxy key v T w hI;have:=hr y hy x.id hxy;exact rput_any gu B n c A M hR hs r D hr hD d y hy (by omega) key v T w hI
theorem rrun_any (gu B n c:Nat) (A:Option Addr) (M:List Ndm) (hR:RightG (fstN M)) (hs:Small M) (T:Pk->CV) (Ar:Option Addr) (nr cr:Nat) (l:List (Nat->Int)) (w:World) (hnr:nr=l.length) (hn:nr<=40) (Br:Nat) (hrd:Reads w Br 3 Ar nr (cellsR l)) (hBr:Br<=gu) (hl:l.all recR=true) (hT:TOk T) (hN:∀ W,Fr B [gu] w W->Nds W B A n M) (hBw:B<=w.heap.size) (hu:RT w gu T) :
  Calls Tryz.prog 56 #[.slice A n c,.pointer (some ⟨gu,0,none⟩),.slice Ar nr cr] w (RPut gu (flowD (fstN M) l (st0 T)) w):=by
 obtain ⟨L,hL⟩:=nm (fstN M);rw [<- hL] at hR ⊢;obtain ⟨x0,hx0,he0⟩:∃ x ∈ L,x.id=0:=List.mem_map.1 hR.zero
 have HCALL := zh (fun (key : Int) (v : Int × Int) (T : Pk -> CV) (wx : World) (hI : RIn gu B A n M key v T wx) => (by
  have h:=rput_any gu B n c A M (by rw [<- hL];exact hR) hs (posI (sortN L)) 8 (by rw [<- hL];exact complete_rank hR.uni hR.complete) (by rw [<- hL];exact fun n hn=>Nat.lt_of_lt_of_le (posI_lt (complete_all hR.complete hn)) (by have h1:=hR.complete;have h2:=hR.len;unfold Complete at h1;omega)) 8 x0 (by rw [<- hL];exact hx0) (Nat.le_add_right _ _) key v T wx hI;rw [he0,<- hL] at h
  exact h:Calls Tryz.prog 101 #[.slice A n c,.pointer (some ⟨gu,0,none⟩),.int .i64 0,.agg #[.int .i64 key,.int .i64 v.1,.int .i64 v.2]] wx (RPut gu (putD L 8 0 key v (st0 T)) wx)))
 have HRR:=zh hR;have HAL:=zh hl;have HNR:=zh hnr;have HRD:=zh hrd;have HTT:=zh hT;have HND:=zh hN;have HUT:=zh hu;have hguw:=hu.lt
 have HFL := zh (fun (j : Nat) => (by
  have h := flow_few hR (l := l.take j) (by
   rw [List.all_eq_true] at hl ⊢
   exact fun x hx=>hl x (List.mem_of_mem_take hx)) (S:=st0 T) hT
  have h2:(l.take j).length<=nr:=(by rw [List.length_take,hnr];omega);have h3:(st0 T).out.length=0:=rfl
  omega:(flowD L (l.take j) (st0 T)).out.length<=nr * 26507215))
 clear hR hs hnr hrd hl hT hN hu hL hx0 he0;go_enter Tryz.func56,Tryz.ntmps56;go_upto_region 2 with fail;have FB:=zh ((Fr.refl w.heap.size [] w).alloc (Nat.le_refl _) (.cells #[] 69));have HO:=zh (lowns_empty w);have hb2:w.heap.size < (w.alloc (.cells #[] 69)).heap.size:=(by simp);generalize w.alloc (.cells #[] 69)=w2 at *;obtain ⟨b1,hb1⟩:=nm (w.heap.size);rw [<- hb1] at HO hb2 hguw hBw ⊢;have HB1:=zh hb1;clear hb1;have HJ0:=zh (show PJ gu b1 [b1] w2 w2 (st0 T) (some ⟨b1,0,none⟩) 0 0 from ⟨rfl,HO.out,HUT.out.fr FB.out HUT.out.lt (by simp),HTT.out,Fr.refl _ _ _,fun q hq=>by simp [Value.ownBlock] at hq;exact .inl (by simp [hq]),hguw⟩);have HNB:=zh (fun (W:World) (hf:Fr w2.heap.size [gu,b1] w2 W)=>((FB.out.mono (B':=B) (L':=[gu]) (by have:=HB1.out;omega) (by simp)).trans (hf.mono (B':=B) (L':=[gu]) (by omega) (fun q hq hlt=>by simp at hq ⊢;omega)):Fr B [gu] w W));have HRW:=zh (fun (W:World) (hf:Fr w2.heap.size [gu,b1] w2 W)=>((HRD.out.fr FB.out (by have:=HB1.out;omega) (by simp)).fr hf (by omega) (by simp;omega):Reads W Br 3 Ar nr (cellsR l)));go_wp2_with fail;go_loopg [7,8] nr (fun g s7 s8 wr=>∃ (j:Nat) (A':Option Addr) (n' c':Nat),j<=nr/\g=nr - j/\s7=.slice A' n' c'/\s8=.int .i64 j/\Hid (PJ gu b1 [b1] w2 wr (flowD L (l.take j) (st0 T)) A' n' c'))
 case atStart=>exact ⟨0,_,0,0,Nat.zero_le _,rfl,rfl,rfl,HJ0⟩
 case round =>
  clear HJ0 HO;obtain ⟨j,A',n',c',hj,rfl,rfl,rfl,HQ⟩:=hrel;have hsz:=HQ.out.fr.size
  by_cases hjn:j < nr
  case pos =>
   have hji:(j:Int) < (nr:Int):=(by omega);have hj0:(0:Int)<=(j:Int):=(by omega);obtain ⟨x,hx⟩:∃ x,l[j]?=some x:=⟨_,List.getElem?_eq_getElem (by rw [<- HNR.out];exact hjn)⟩;obtain ⟨b,off,rfl,hbl,hc⟩:=reads_rec (by rw [<- HNR.out];exact HRW.out wr HQ.out.fr) hx;obtain ⟨SQ,hSQ⟩:=nm (flowD L (l.take j) (st0 T));have HTQ:=zh (show flowD L (l.take (j+1)) (st0 T)=putD L 8 0 (x 0) (x 1,x 2) ⟨SQ.T,SQ.out,cntU SQ.C 0⟩ by rw [List.take_add_one,hx,hSQ];exact flow_snoc L _ x _);have HLQ:=HFL.out (j+1);rw [HTQ.out] at HLQ;rw [<- hSQ] at HQ;have HPN:=zh (put_new L 8 0 (x 0) (x 1,x 2) ⟨SQ.T,SQ.out,cntU SQ.C 0⟩);have HUV:=zh (recR_ok (List.all_eq_true.1 HAL.out x (List.mem_of_getElem? hx)));have HJD:=zh (HQ.out);have HCALL2:=zh (HCALL.out (x 0) (x 1,x 2) SQ.T wr ⟨HUV.out.1,HUV.out.2,HQ.out.ok,fun W hf=>HND.out W ((HNB.out _ HQ.out.fr).trans hf),Nat.le_trans (by have:=HB1.out;omega) (HNB.out _ HQ.out.fr).size,HJD.out.tab⟩);have HOK2:=zh (put_ok HRR.out 8 0 (x 0) (x 1,x 2) (st0 SQ.T) HUV.out.1 HUV.out.2 HQ.out.ok);obtain ⟨S2,hS2⟩:=nm (putD L 8 0 (x 0) (x 1,x 2) (st0 SQ.T));obtain ⟨S3,hS3⟩:=nm (putD L 8 0 (x 0) (x 1,x 2) ⟨SQ.T,SQ.out,cntU SQ.C 0⟩);have e2:(⟨SQ.T,SQ.out,cntU SQ.C 0⟩:DS).T=SQ.T:=rfl;rw [e2,<- hS2,<- hS3] at HPN;rw [<- hS2] at HCALL2 HOK2;rw [<- hS3] at HLQ HTQ;obtain ⟨LQ,hLQ⟩:=nm (gu :: (Value.slice A' n' c').ownBlock.toList);have HLQ1:=zh (show ∀ q,(Value.slice A' n' c').ownBlock=some q->q ∈ LQ from fun q hq=>by rw [hLQ];simp [hq]);have HLQ0:=zh (show gu ∈ LQ from by rw [hLQ];simp)
   have hbL:b ∉ LQ:=fun h=>by
    rw [hLQ] at h;simp only [List.mem_cons,Option.mem_toList] at h
    rcases h with e | e
    · omega
    · have:=(HQ.out.row.lt b e).1;omega
   have SF:=zh (fun (W:World) (hf:Fr wr.heap.size LQ wr W)=>(⟨(hf.cell (p:=⟨b,off+j * 3,none⟩) (by simp only;omega) hbL).trans (hc 0 (by omega)),(hf.cell (p:=⟨b,off+j * 3+1,none⟩) (by simp only;omega) hbL).trans (hc 1 (by omega)),(hf.cell (p:=⟨b,off+j * 3+2,none⟩) (by simp only;omega) hbL).trans (hc 2 (by omega))⟩:W.cell? ⟨b,off+j * 3,none⟩=some (.int .i64 (x 0))/\W.cell? ⟨b,off+j * 3+1,none⟩=some (.int .i64 (x 1))/\W.cell? ⟨b,off+j * 3+2,none⟩=some (.int .i64 (x 2))));have I:=zh ((Fr.refl wr.heap.size LQ wr).drew);have HNQ:=zh HQ.out.num;have HLQ:=zh HLQ;clear hc hx hSQ hS2 hS3 hLQ HQ e2;obtain ⟨q0,q1,q2⟩:=SF.out wr (Fr.refl _ _ _);have hsz0:=hsz;go_wp2_with fail;refine HCALL2.out.mono ?_;rintro e w7 ⟨A2,n2,c2,hn2,rfl,how2,ht7,f7⟩;have J7:=zh (HJD.out.tabs (S':=⟨S2.T,SQ.out,SQ.C⟩) f7 ht7 HOK2.out rfl);have hown:=J7.out.row;have hsz7:=J7.out.fr.size;have hb7:b1<=w7.heap.size:=(by omega)
   have hq9:n'+n2<=1060288600:=by
    have h1:=HLQ.out;rw [HPN.out.2,List.length_append] at h1;rw [HNQ.out,hn2];omega
   have HN2:=zh hn2;have HR2:=Reads.of_own how2;clear hn2 how2 ht7 f7 q0 q1 q2;go_wp2_with (at_builtin;refine wpList_app _ rfl (.tmp 16) (.tmp 23) lineTy rfl b1 (.slice A' n' c') n' _ rfl hown w7.heap.size A2 n2 c2 _ rfl HR2 lnOne (by omega) (by omega) hb7 ?_;intro A8 c8 w8 hown8 hg8 hat8);have HJ8:=zh (J7.out.grow (S':=S3) (A3:=A8) (n3:=n'+n2) (c3:=c8) (by rw [HPN.out.2];rw [show cellsLn (SQ.out ++ S2.out)=cellsLn SQ.out ++ cellsLn S2.out by simp [cellsLn]];exact hown8) hg8 hat8 HPN.out.1 (by rw [HPN.out.2,List.length_append,HNQ.out,HN2.out]));rw [<- HTQ.out] at HJ8;clear hown8 hg8 hat8 hown HR2;go_roundg (nr - (j+1))
   case measure=>omega
   case rel=>exact ⟨j+1,A8,n'+n2,c8,by omega,rfl,rfl,by go_num,HJ8⟩
  case neg =>
   obtain rfl:nr=j:=by omega
   have hT:l.take nr=l:=List.take_of_length_le (by rw [HNR.out];exact Nat.le_refl _);rw [hT] at HQ;clear hT;go_wp2_with fail;go_ret;exact ⟨A',n',c',HQ.out.num,rfl,HB1.out ▸ HQ.out.row,HQ.out.tab,(FB.out.mono (B':=w.heap.size) (L':=[gu]) (Nat.le_refl _) (by simp)).trans (HQ.out.fr.mono (B':=w.heap.size) (L':=[gu]) FB.out.size (fun q hq hlt=>by have:=HB1.out;simp at hq ⊢;omega))⟩
theorem setCells_L (g:Nat):∀ (us:List Value) (o:Nat) (w:World),w.setCells g o us=setL w g o us
 | [],_,_=>rfl
 | u :: us,o,w=>setCells_L g us (o+1) _
theorem putL_get:∀ (us:List Value) (cs:Array Value) (o i:Nat),o+us.length<=cs.size->(putL cs o us)[i]?=if o<=i/\i < o+us.length then us[i - o]? else cs[i]?
 | [],cs,o,i,_=>by
  unfold putL;rw [if_neg (by simp only [List.length_nil];omega)]
 | u :: us,cs,o,i,h=>by
  simp only [List.length_cons] at h;unfold putL;rw [putL_get us _ (o+1) i (by rw [Array.size_setIfInBounds];omega),Array.getElem?_setIfInBounds];simp only [List.length_cons]
  by_cases h1:o=i
  · subst h1;rw [if_neg (by omega),if_pos rfl,if_pos (by omega),if_pos (by omega),Nat.sub_self];rfl
  ·
   by_cases h2:o+1<=i/\i < o+1+us.length
   · rw [if_pos h2,if_pos (by omega),show i - o=(i - (o+1))+1 by omega,List.getElem?_cons_succ]
   · rw [if_neg h2,if_neg h1,if_neg (by omega)]
theorem tabA_clear (T:Pk->CV) {n:Nat} (hn:n < 8):putL (tabA T) (n * 256) (List.replicate 256 (.int .i64 0))=tabA (dropQ (nodeQ (n:Int)) T):=by
 apply Array.ext_getElem?;intro i;rw [putL_get _ _ _ _ (by rw [tabA_size,List.length_replicate];omega),tabA_at,tabA_at,List.length_replicate]
 by_cases h:n * 256<=i/\i < n * 256+256
 · rw [if_pos h,if_pos (by omega),List.getElem?_replicate,if_pos (by omega)];unfold atF dropQ nodeQ;have e:i / 256=n:=(by omega);rw [e];simp only [decide_true,if_true];rw [compV_zero]
 ·
  rw [if_neg h]
  by_cases hi:i < 2048
  ·
   rw [if_pos hi,if_pos hi]
   congr 1
   unfold atF dropQ nodeQ;simp only;rw [if_neg];intro e;have e:=of_decide_eq_true e;have:=Int.ofNat.inj e;omega
  · rw [if_neg hi,if_neg hi]
theorem RT.clear {w:World} {g:Nat} {T:Pk->CV} (h:RT w g T) {n:Nat} (hn:n < 8):RT (w.setCells g (n * 256) (List.replicate 256 (.int .i64 0))) g (dropQ (nodeQ (n:Int)) T):=by
 rw [setCells_L];have h1:=blk_setL (List.replicate 256 (.int .i64 0)) (n * 256) h;rw [tabA_clear T hn] at h1;exact h1
theorem fr_setCells {B g:Nat} {L:List Nat} {a w:World} (hg:B<=g \/ g ∈ L) (us:List Value) (o:Nat) (h:Fr B L a w):Fr B L a (w.setCells g o us):=by
 rw [setCells_L];exact fr_setL hg us o h
theorem RT.there {w:World} {g:Nat} {T:Pk->CV} (h:RT w g T) {n:Nat} (hn:n < 8):w.there g (n * 256) 256:=fun j hj=>by
 refine ⟨?_,h.thaw _⟩;have e:w.cell? ⟨g,n * 256+j,none⟩=_:=Blk.cell h _;rw [e,tabA_at,if_pos (by omega)];rfl
theorem stepR_id {L:List Nd} {s:Stp} (h:(stepR L s).1=0):0<=s.nd.id/\s.nd.id < 8:=by
 unfold stepR at h
 split at h
 · cases h
 ·
  rename_i hc;have hR:RightG L:=checkN_zero.1 (Classical.byContradiction hc)
  split at h
  · cases h
  ·
   unfold endR at h
   split at h
   · rename_i h1;exact absurd h h1
   ·
    rename_i h1;have h1:=Classical.byContradiction h1
    split at h
    · rename_i h2;exact absurd h h2
    ·
     rename_i h2;have h2:=Classical.byContradiction h2;unfold chgN at h1 h2
     cases hf:findN L s.nd.id with
     | none =>
      rw [hf] at h1 h2;simp only at h1 h2
      by_cases hk:s.kind=2
      ·
       rw [if_pos hk] at h1 h2
       by_cases h0:s.nd.kind=0
       · rw [if_pos h0] at h1;cases h1
       · rw [if_neg h0] at h2;have hm:=nodeB_iff.1 ((checkN_zero.1 h2).each s.nd (by simp));exact ⟨hm.1,hm.2.1⟩
      · rw [if_neg hk] at h1;cases h1
     | some n =>
      have hm:=nodeB_iff.1 (hR.each n (findN_mem hf));rw [<- findN_id hf];exact ⟨hm.1,hm.2.1⟩
theorem goR_ids:∀ (P:List Stp) (i:Nat) (L:List Nd),(goR i L P).1=0 -> ∀ s ∈ P,0<=s.nd.id/\s.nd.id < 8
 | [],_,_,_,s,hs=>by cases hs
 | t :: P,i,L,h,s,hs=>by
  unfold goR at h
  split at h
  · rename_i h1;exact absurd h h1
  ·
   rename_i h1;have h1:=Classical.byContradiction h1
   rcases List.mem_cons.1 hs with e | e
   · subst e;exact stepR_id h1
   · exact goR_ids P _ _ h s e
theorem applyR_ids {L:List Nd} {P:List Stp} (h:(applyR L P).1=0):∀ s ∈ P,0<=s.nd.id/\s.nd.id < 8:=by
 unfold applyR at h
 split at h
 · cases h
 ·
  split at h
  · cases h
  · exact goR_ids P 0 L h
theorem kepS_kept (T:Pk->CV) (s:Stp):kepS T s=keptT s T:=by
 unfold kepS
 by_cases h:stpE s=0
 · rw [if_pos h]
 · rw [if_neg h];unfold keptT;rw [if_neg];intro e;unfold dropsB at e;unfold stpE at h;simp at e h;omega
structure NdX (w:World) (gu:Nat) (A:Option Addr) (n:Nat) (M:List Ndm):Prop where
 num:n=M.length
 rd:Reads w w.heap.size 13 A n (cellsN M)
 off:0 < n -> ∀ ad,A=some ad->ad.block ≠ gu
 inn:∀ m ∈ M,NdIn w gu m
theorem NdX.fr {w w':World} {gu:Nat} {A:Option Addr} {n:Nat} {M:List Ndm} (h:NdX w gu A n M) (hg:gu < w.heap.size) (hf:Fr w.heap.size [gu] w w'):NdX w' gu A n M :=
 ⟨h.num,(h.rd.frL hf (Nat.le_refl _) (fun hn ad ha hm=>by simp at hm;exact h.off hn ad ha hm)).more hf.size,h.off,fun m hm=>(h.inn m hm).frw hf (Nat.le_of_lt hg) (by simp)⟩
theorem NdX.nds {w:World} {gu:Nat} {A:Option Addr} {n:Nat} {M:List Ndm} (h:NdX w gu A n M) (hg:gu < w.heap.size):∀ W,Fr w.heap.size [gu] w W->Nds W w.heap.size A n M:=fun W hf =>
 ⟨h.num,h.rd.frL hf (Nat.le_refl _) (fun hn ad ha hm=>by simp at hm;exact h.off hn ad ha hm),fun m hm=>((h.inn m hm).frw hf (Nat.le_of_lt hg) (by simp)).more (Nat.le_of_lt hg)⟩
theorem NdX.of_low {w:World} {gu:Nat} {A:Option Addr} {n:Nat} {M:List Ndm} (h:Nds w gu A n M) (hg:gu < w.heap.size):NdX w gu A n M :=
 ⟨h.num, h.rd.more (Nat.le_of_lt hg), fun hn ad ha => by
  obtain ⟨b,off,e,hb,_⟩:=h.rd.2 hn;rw [ha] at e;injection e with e
  rw [e];simp only
  omega,h.inn⟩
theorem NdX.made {w w1:World} {gu:Nat} {A A1:Option Addr} {n n1 n2:Nat} {M M1:List Ndm} {S:List Stm} {T:Pk->CV} {A2:Option Addr} (h:NdX w gu A n M) (hS:Sts w gu A2 n2 S) (hg:gu < w.heap.size) (hf:Fr w.heap.size [] w w1) (hn:Nds w1 w1.heap.size A1 n1 M1) (ho:OrgS M S M1) (hu:RT w1 gu T):NdX w1 gu A1 n1 M1:=by
 have key := ho (fun v l => ∃ A c, v = .slice A l.length c /\ Reads w1 gu 1 A l.length (l.map (Value.int .i64))) (fun v l => ∃ A c, v = .slice A l.length c /\ Reads w1 gu 2 A l.length (cellsI l)) (fun m hm => by
  have h1:=(h.inn m hm).frw hf (Nat.le_of_lt hg) (by simp)
  exact ⟨h1.fr,h1.pg⟩) (fun s hs=>by
  have h1:=(hS.inn s hs).frw hf (Nat.le_of_lt hg) (by simp)
  exact ⟨h1.fr,h1.pg⟩)
 refine ⟨hn.num,hn.rd,fun h0 ad ha e => ?_,fun m hm=>⟨(key m hm).1,(key m hm).2⟩⟩;have hl:0 < M1.length:=(by rw [<- hn.num];exact h0);have hx:M1[0]?=some M1[0]:=List.getElem?_eq_getElem hl;obtain ⟨b,off,e2,hb,hc⟩:=hn.get hx;rw [ha] at e2;injection e2 with e2
 have eb:b=gu:=(by rw [<- e,e2]);subst eb;obtain ⟨⟨Af,cf,hsf,_⟩,_⟩:=hn.inn _ (List.mem_of_getElem? hx);have h2:=hc 2 (M1[0].2.1) rfl;rw [hsf] at h2;have h3:=(Blk.cell hu (off+0 * 13+2)).symm.trans h2;rw [tabA_at] at h3
 split at h3
 · injection h3 with h3;unfold atF at h3;cases h3
 · cases h3
def RPl (gu:Nat) (T':Pk->CV) (r:Int × Nat × List Nd) (w:World) (e:Ending) (w':World):Prop :=
 (r.1 ≠ 0/\e=.returned (.tuple #[.slice none 0 0,.int .i64 r.1])/\Fr w.heap.size [] w w') \/
 (r.1=0/\∃ A c n M,e=.returned (.tuple #[.slice A n c,.int .i64 0])/\NdX w' gu A n M/\CapN M/\n<=c/\(∀ ad,A=some ad->w.heap.size<=ad.block)/\fstN M=r.2.2/\RightG r.2.2/\RT w' gu T'/\Fr w.heap.size [gu] w w')
theorem rplan_any (gu:Nat) (T:Pk->CV) (A A2:Option Addr) (c c2 n n2:Nat) (M:List Ndm) (S:List Stm) (w:World) (hu:RT w gu T) (h:NdX w gu A n M) (hs:Small M) (hS:Sts w gu A2 n2 S) (hss:SmallS S) (hn2:n2<=1000000) (hcap:CapN M) (hnc:n<=c) (hcs:∀ m ∈ S,∀ A n c,m.2.1=.slice A n c->n<=c) :
  Calls Tryz.prog 55 #[.slice A n c,.pointer (some ⟨gu,0,none⟩),.slice A2 n2 c2] w (RPl gu (kepL T (fstS S)) (applyR (fstN M) (fstS S)) w):=by
 have hgw:=hu.lt;obtain ⟨P,hP⟩:=nm (fstS S);obtain ⟨r,hr⟩:=nm (applyR (fstN M) (fstS S));have HAP:=zh (by rw [hr];exact rapply_cap A A2 c c2 w.heap.size n n2 M S w (h.nds hgw w (Fr.refl _ _ _)) (Nat.le_refl _) hs (hS.more (Nat.le_of_lt hgw)) hss hn2 hcap hnc hcs:Calls Tryz.prog 100 #[.slice A n c,.slice A2 n2 c2] w (RApC M S r w));have HIDS:=zh (fun (h0:r.1=0)=>(by rw [hr] at h0;rw [hP];exact applyR_ids h0:∀ s ∈ P,0<=s.nd.id/\s.nd.id < 8));rw [<- hr,<- hP];have HP:=zh hP;have HPL:=zh (show P.length=n2 by rw [hP,hS.num];simp [fstS]);have HNX:=zh h;have HST:=zh hS;have HU:=zh hu;obtain ⟨Z,hZ⟩:=nm (Tryz.zeroCells115:Array Value);have hZR:Z.toList=List.replicate 256 (Value.int .i64 0):=(by rw [hZ];kernel_rfl);have HZE:=zh hZ;have HZL:=zh (show Z.toList=List.replicate 256 (Value.int .i64 0) from hZR);have HZS:=zh (show Z.size=256 by rw [<- Array.length_toList,hZR,List.length_replicate]);have HZI:=zh (show (Tryz.prog.info? 115).map (·.size)=some Z.size by rw [HZS.out];kernel_rfl);have HZ1:=zh (show Z.all (·.oneCell')=true by rw [<- Array.toArray_toList (xs:=Z),hZR];exact all_oneCell_toArray (fun v hv=>by rw [(List.mem_replicate.1 hv).2];rfl));clear hZR;clear hP hr h hS hu hs hss hcap hcs hZ;go_enter Tryz.func55,Tryz.ntmps55;go_wp2_with fail;refine HAP.out.mono ?_;rintro e w1 (⟨e1,rfl,f1⟩ | ⟨e1,A1,c1,n1,M1,rfl,hn1,hcp1,hle1,ho1,hfs1,hf1,hr1,f1⟩)
 · have F1:=zh f1;have E1:=zh e1;have hcb:=kd_ne e1;clear f1 e1 HAP HIDS;go_wp2_with fail;go_ret2;exact .inl ⟨E1.out,rfl,F1.out⟩
 have HID2:=zh (HIDS.out e1);have hu1:=HU.out.fr f1 hgw (by simp);have HX1:=zh (NdX.made HNX.out HST.out hgw f1 hn1 ho1 hu1);have HU1:=zh hu1;have HCP1:=zh hcp1;have HFS1:=zh hfs1;have HF1:=zh (And.intro hf1 hr1);have E1:=zh e1;have F1:=zh f1;have hgw1:=hu1.lt;have HST1:=zh (fun (W:World) (hf:Fr w1.heap.size [gu] w1 W)=>((HST.out.frw f1 (Nat.le_of_lt hgw) (by simp)).frw hf (Nat.le_of_lt hgw1) (by simp):Sts W gu A2 n2 S));clear hu1 hn1 ho1 hcp1 hfs1 hf1 hr1 e1 f1 HAP HIDS HNX HU;go_wp2_with fail;go_loopg [11] n2 (fun g s11 wr=>∃ k:Nat,k<=n2/\g=n2 - k/\s11=.int .i64 k/\Hid (RT wr gu (kepL T (P.take k)))/\Hid (Fr w1.heap.size [gu] w1 wr))
 case atStart=>exact ⟨0,Nat.zero_le _,rfl,rfl,HU1,zh (Fr.refl _ _ _)⟩
 case round =>
  clear HU1;obtain ⟨k,hk,rfl,rfl,HT,FR⟩:=hrel
  by_cases hkn:k < n2
  case pos =>
   have hki:(k:Int) < (n2:Int):=(by omega);have hk0:(0:Int)<=(k:Int):=(by omega);obtain ⟨m,hx⟩:∃ m,S[k]?=some m:=⟨_,List.getElem?_eq_getElem (by rw [<- HST.out.num];exact hkn)⟩;obtain ⟨b1,o1,rfl,hb1,hc1⟩:=(HST1.out wr FR.out).get hx;have hpk:P[k]?=some m.1:=(by rw [HP.out];simp [fstS,hx]);have HTK:=zh (show kepL T (P.take (k+1))=keptT m.1 (kepL T (P.take k)) by rw [List.take_add_one,hpk,show (some m.1:Option Stp).toList=[m.1] from rfl,kepL_snoc,kepS_kept]);obtain ⟨hi0,hi8⟩:=HID2.out m.1 (List.mem_of_getElem? hpk);obtain ⟨⟨kd,y,rs⟩,sf,sp⟩:=m;simp only at hi0 hi8;obtain ⟨nd,hnd⟩:∃ nd:Nat,y.id=nd:=⟨y.id.toNat,by omega⟩;have hn8:nd < 8:=(by omega);have n0:(0:Int)<=(nd:Int):=(by omega);have n8:(nd:Int) < 8:=(by omega);have p0:=hc1 0 (.int .i64 kd) rfl;have p1:=hc1 1 (.int .i64 y.id) rfl;have p14:=hc1 14 (.bool rs) rfl;rw [hnd] at p1;simp only [Nat.add_zero] at p0;have HND:=zh hnd;have SF:=zh (fun (W:World) (hf:Fr wr.heap.size [gu] wr W)=>((hf.cell (p:=⟨b1,o1+k * 15+1,none⟩) (by simp only;have:=FR.out.size;omega) (by simp;omega)).trans p1:W.cell? ⟨b1,o1+k * 15+1,none⟩=some (.int .i64 nd)));have I:=zh ((Fr.refl wr.heap.size [gu] wr).drew);have HTD:=zh (HT.out.fr (Fr.refl wr.heap.size [] wr).drew HT.out.lt (by simp))
   have hcase:((kd=1/\rs=true) \/ kd=2 \/ kd=3) \/ (kd=1/\rs=false) \/ (kd ≠ 1/\kd ≠ 2/\kd ≠ 3):=by
    by_cases h1:kd=1
    ·
     cases rs
     · exact .inr (.inl ⟨h1,rfl⟩)
     · exact .inl (.inl ⟨h1,rfl⟩)
    ·
     by_cases h2:kd=2
     · exact .inl (.inr (.inl h2))
     ·
      by_cases h3:kd=3
      · exact .inl (.inr (.inr h3))
      · exact .inr (.inr ⟨h1,h2,h3⟩)
   clear hc1 hx hpk hnd hi0 hi8 hb1
   rcases hcase with hcase | ⟨rfl,rfl⟩ | ⟨k1,k2,k3⟩
   ·
    have HKQ := zh (show keptT (⟨kd, y, rs⟩ : Stp) (kepL T (P.take k)) = dropQ (nodeQ y.id) (kepL T (P.take k)) by
     unfold keptT;rw [if_pos];unfold dropsB
     rcases hcase with ⟨rfl,rfl⟩ | rfl | rfl <;> simp)
    rcases hcase with ⟨rfl,rfl⟩ | rfl | rfl
    all_goals
     go_upto_region 8 with fail;refine wp_region_held_drew (S:=fun W=>W.cell? ⟨b1,o1+k * 15+1,none⟩=some (.int .i64 nd)) (by kernel_rfl) (SF.out _ I.out) (fun hHeld => ?_);refine tk (i:=0) (oi:=⟨some 57,_,_,_,_,_⟩) (v:=?_) rfl ?_ hHeld ?_
     rotate_left
     · intro w hSw;(try dsimp only at hSw);go_simp;(try with_reducible rfl)
     simp only [Act.put,lPt];refine tk (i:=1) (oi:=⟨some 58,_,_,_,_,_⟩) (v:=?_) rfl ?_ hHeld ?_
     rotate_left
     · intro w hSw;(try dsimp only at hSw);go_simp;(try with_reducible rfl)
     simp only [Act.put,lPt];refine tk (i:=2) (oi:=⟨some 59,_,_,_,_,_⟩) (v:=?_) rfl ?_ hHeld ?_
     rotate_left
     · intro w hSw;(try dsimp only at hSw);go_simp;(try with_reducible rfl)
     simp only [Act.put,lPt];refine tk (i:=3) (oi:=⟨some 60,_,_,_,_,_⟩) (v:=?_) rfl ?_ hHeld ?_
     rotate_left
     · intro w hSw;(try dsimp only at hSw);go_simp;(try with_reducible rfl)
     simp only [Act.put,lPt];refine tk (i:=4) (oi:=⟨some 61,_,_,_,_,_⟩) (v:=?_) rfl ?_ hHeld ?_
     rotate_left
     · intro w hSw;(try dsimp only at hSw);go_simp;(try with_reducible rfl)
     simp only [Act.put,lPt];refine tk (i:=5) (oi:=⟨some 62,_,_,_,_,_⟩) (v:=?_) rfl ?_ hHeld ?_
     rotate_left
     · intro w hSw;(try dsimp only at hSw);go_simp;(try with_reducible rfl)
     simp only [Act.put,lPt];refine tk (i:=6) (oi:=⟨some 63,_,_,_,_,_⟩) (v:=?_) rfl ?_ hHeld ?_
     rotate_left
     · intro w hSw;(try dsimp only at hSw);go_simp;(try with_reducible rfl)
     simp only [Act.put,lPt];refine tk (i:=7) (oi:=⟨some 64,_,_,_,_,_⟩) (v:=.agg Z) rfl ?_ hHeld ?_
     · intro w hSw;(try dsimp only at hSw);go_simp;(try exact HZE.out.symm)
     simp only [Act.put,lPt];refine tk (i:=8) (oi:=⟨some 65,_,_,_,_,_⟩) (v:=?_) rfl ?_ hHeld ?_
     rotate_left
     · intro w hSw;(try dsimp only at hSw);go_simp;(try with_reducible rfl)
     simp only [Act.put,lPt];refine tk (i:=9) (oi:=⟨some 66,_,_,_,_,_⟩) (v:=?_) rfl ?_ hHeld ?_
     rotate_left
     · intro w hSw;(try dsimp only at hSw);go_simp;(try with_reducible rfl)
     simp only [Act.put,lPt];refine wpAnyH_ready (rs:=[10]) (by kernel_rfl) (by simp) ?_;refine AllReadyH.cons (o:=⟨none,_,_,_,_,_⟩) rfl (fun K hK => ?_) AllReadyH.nil;rw [if_pos (by rfl)];refine wp_store_mid 115 (.tmp 66) (.tmp 64) rfl gu (nd * 256) Z rfl rfl (by rw [HZS.out];exact HTD.out.there hn8) HZI.out HZ1.out ?_;have HCL:=zh (HTD.out.clear hn8);rw [<- HZL.out] at HCL;have I:=zh (fr_setCells (g:=gu) (.inr (by simp)) Z.toList (nd * 256) I.out);refine hK.out _ _ (SF.out _ I.out) (fun hHeld => ?_);clear hK K
     try simp only [Act.put]
     refine wpAnyH_done (by kernel_rfl) ?_ _;have HT2:=zh (show RT _ gu (kepL T (P.take (k+1))) from by rw [HTK.out,HKQ.out,HND.out];exact HCL.out);have F2:=zh (FR.out.trans (I.out.mono (B':=w1.heap.size) (L':=[gu]) FR.out.size (fun q hq _=>hq)));go_wp2_with fail;go_roundg (n2 - (k+1))
     case measure=>omega
     case rel=>exact ⟨k+1,by omega,rfl,by go_num,HT2,F2⟩
   ·
    have HKQ:=zh (show keptT (⟨1,y,false⟩:Stp) (kepL T (P.take k))=kepL T (P.take k) by unfold keptT;rw [if_neg (by rw [show dropsB (⟨1,y,false⟩:Stp)=false from by unfold dropsB;rfl];simp)]);rw [HKQ.out] at HTK;rw [<- HTK.out] at HT;go_wp2_with fail;go_roundg (n2 - (k+1))
    case measure=>omega
    case rel=>exact ⟨k+1,by omega,rfl,by go_num,HT,FR⟩
   ·
    have HKQ:=zh (show keptT (⟨kd,y,rs⟩:Stp) (kepL T (P.take k))=kepL T (P.take k) by unfold keptT;rw [if_neg (by rw [show dropsB (⟨kd,y,rs⟩:Stp)=false from by unfold dropsB;simp [k1,k2,k3]];simp)]);rw [HKQ.out] at HTK;have q1:=kd_ne k1;have q2:=kd_ne k2;have q3:=kd_ne k3;clear k1 k2 k3;rw [<- HTK.out] at HT;go_wp2_with fail;go_roundg (n2 - (k+1))
    case measure=>omega
    case rel=>exact ⟨k+1,by omega,rfl,by go_num,HT,FR⟩
  case neg =>
   obtain rfl:n2=k:=by omega
   have hT:P.take n2=P:=List.take_of_length_le (by rw [HPL.out];exact Nat.le_refl _);rw [hT] at HT;clear hT;go_wp2_with fail;go_ret2;exact .inr ⟨E1.out,A1,c1,n1,M1,rfl,HX1.out.fr hgw1 FR.out,HCP1.out,hle1,HFS1.out,HF1.out.1,HF1.out.2,HT.out,(F1.out.mono (B':=w.heap.size) (L':=[gu]) (Nat.le_refl _) (by simp)).trans (FR.out.mono (B':=w.heap.size) (L':=[gu]) F1.out.size (fun q hq _=>hq))⟩


structure LikeG (L K:List Nd):Prop where
 find:∀ c,(findN L c).map (fun x=>(x.kind,x.pg))=(findN K c).map (fun x=>(x.kind,x.pg))
 kids:∀ c,childN L c=childN K c
theorem come_like {L K:List Nd} (h:LikeG L K) {put put':Int->Int->Int × Int->DS->DS} (hp:∀ id key v S,put id key v S=put' id key v S) (frm id key:Int) (v:Int × Int) (S:DS):comeD L put frm id key v S=comeD K put' frm id key v S:=by
 have hf:=h.find id;unfold comeD
 cases h1:findN L id with
 | none =>
  rw [h1] at hf
  cases h2:findN K id with
  | none=>rfl
  | some y=>rw [h2] at hf;cases hf
 | some x =>
  rw [h1] at hf
  cases h2:findN K id with
  | none=>rw [h2] at hf;cases hf
  | some y =>
   rw [h2] at hf;simp only [Option.map_some,Option.some.injEq,Prod.mk.injEq] at hf;simp only;rw [hf.1];have e1:emitsD x S.T id key v=emitsD y S.T id key v:=(by unfold emitsD;rw [hf.2]);have e2:keepD x S.T id key v=keepD y S.T id key v:=(by unfold keepD;rw [hf.2]);rw [e1,e2,show put id key=put' id key from funext fun v=>funext fun S=>hp id key v S]
theorem put_like {L K:List Nd} (h:LikeG L K):∀ (d:Nat) (id key:Int) (v:Int × Int) (S:DS),putD L d id key v S=putD K d id key v S
 | 0,_,_,_,_=>rfl
 | d+1,id,key,v,S=>by
  unfold putD;rw [h.kids]
  congr 1
  funext s c
  exact come_like h (fun id key v S=>put_like h d id key v S) id c key v s
theorem flow_like {L K:List Nd} (h:LikeG L K) (l:List (Nat->Int)) (S:DS):flowD L l S=flowD K l S:=by
 unfold flowD
 congr 1
 funext s x
 exact put_like h 8 0 _ _ _
theorem sgTy12:SliceTy Tryz.prog 34 141 2 48:=SliceTy.mk' (z:=.agg #[.slice none 0 0,.slice none 0 0]) Tryz.underlying34 (by kernel_rfl) rfl (by omega)
theorem cellsG_snoc {Z:List Sg} {k:Nat} {z:Sg} (hz:Z[k]?=some z):cellsG (Z.take (k+1))=cellsG (Z.take k) ++ [z.sp,z.sr]:=by
 rw [List.take_add_one,hz];simp [cellsG]
theorem plain12_any (A:Option Addr) (c B n:Nat) (Z:List Sg) (w:World) (h:Sgs w B A n Z) (hB:B<=w.heap.size) (hn:n<=1000) :
  Calls Tryz.prog 13 #[.slice A n c] w fun e w'=>∃ A' c',e=.returned (.slice A' n c')/\Sgs w' w'.heap.size A' n Z/\Fr w.heap.size [] w w':=by
 have H:=zh h;have HNZ:=zh h.num;clear h;go_enter Tryz.func13,Tryz.ntmps13;go_wp2_with fail;go_loopg [3,5,8] n (fun g s3 s5 s8 wr=>∃ (k:Nat) (A':Option Addr) (c':Nat),k<=n/\g=n - k/\s3=.slice A' k c'/\s8=.int .i64 k/\(s5=undef \/ ∃ a,s5=.pointer a)/\Hid (wr.ownsRow w.heap.size 141 2 (.slice A' k c') k (cellsG (Z.take k)))/\Hid (Fr w.heap.size [] w wr))
 case atStart=>exact ⟨0,none,0,Nat.zero_le _,rfl,rfl,rfl,.inl rfl,zh (World.ownsRow_nil _ _ _ _),zh (Fr.refl _ _ _)⟩
 case round =>
  obtain ⟨k,A',c',hk,rfl,rfl,rfl,h5,HO,FR⟩:=hrel;have hszr:=FR.out.size
  by_cases hkn:k < n
  case pos =>
   have hki:(k:Int) < (n:Int):=(by omega);have hk0:(0:Int)<=(k:Int):=(by omega);obtain ⟨z,hz⟩:∃ z,Z[k]?=some z:=⟨_,List.getElem?_eq_getElem (by rw [<- HNZ.out];exact hkn)⟩;have HSW:=H.out.frw FR.out hB (by simp);obtain ⟨bz,oz,rfl,hbz,p0,p1⟩:=HSW.get hz;obtain ⟨⟨Ap,cp,hsp,_⟩,⟨Ar,cr,hsr,_⟩⟩:=HSW.inn z (List.mem_of_getElem? hz);have hcs:=cellsG_snoc hz;obtain ⟨P,R,sp,sr⟩:=z;simp only at hsp hsr p0 p1 hcs;subst hsp;subst hsr;obtain ⟨np,hnp⟩:=nm (P.length);obtain ⟨nr,hnr⟩:=nm (R.length);rw [<- hnp] at p0 hcs;rw [<- hnr] at p1 hcs;have HCS:=zh hcs;have fa:=(Fr.refl wr.heap.size [] wr).alloc (Nat.le_refl _) (.cells #[.slice Ap np cp,.slice Ar nr cr] 136);have BX:=zh (Blk.new wr 136 #[.slice Ap np cp,.slice Ar nr cr]);have HOa:=zh (ownsRow_fr HO.out fa (fun q hq=>⟨(HO.out.lt q hq).2,by simp⟩));have FRa:=zh (FR.out.trans (fa.mono (B':=w.heap.size) (L':=[]) hszr (by simp)));clear hcs hnp hnr HSW hz hbz fa HO FR h5;go_upto_region 5 with fail;clear p0 p1;generalize wr.alloc (.cells #[.slice Ap np cp,.slice Ar nr cr] 136)=wa at *;have x0:=BX.out.cell 0;have x1:=BX.out.cell 1;simp at x0 x1;have hown:=HOa.out;have hsz:=FRa.out.size;go_wp2_with (at_builtin;refine wpList_app_lit _ rfl (.tmp 12) (.tmp 14) sgTy12 rfl w.heap.size (.slice A' k c') k _ rfl hown 1 1 _ rfl rfl (by simp [Value.oneCell']) (by omega) (by omega) hsz ?_;intro A3 c3 w6 hown6 hg6 hat6)
   have HO6 := zh (show w6.ownsRow w.heap.size 141 2 (.slice A3 (k + 1) c3) (k + 1) (cellsG (Z.take (k + 1))) by
    rw [HCS.out]
    exact hown6)
   have F6:=zh (FRa.out.trans (Fr.of_app hg6 hown hsz));clear hown6 hg6 hat6 hown x0 x1;go_roundg (n - (k+1))
   case measure=>omega
   case rel=>exact ⟨k+1,A3,c3,by omega,rfl,rfl,by go_num,.inr ⟨_,rfl⟩,HO6,F6⟩
  case neg =>
   obtain rfl:n=k:=by omega
   have hT:Z.take n=Z:=List.take_of_length_le (by rw [HNZ.out];exact Nat.le_refl _);rw [hT] at HO;clear hT;go_wp2_with fail;go_ret
   exact ⟨A', c', rfl, ⟨HNZ.out, Reads.of_own HO.out, fun z hz => by
    obtain ⟨⟨A1,c1,e1,r1⟩,⟨A2,c2,e2,r2⟩⟩:=(H.out.frw FR.out hB (by simp)).inn z hz
    exact ⟨⟨A1,c1,e1,r1.more (Nat.le_trans hB hszr)⟩,⟨A2,c2,e2,r2.more (Nat.le_trans hB hszr)⟩⟩⟩,FR.out⟩
end Go.Proofs.YtlejomlppjpchaaGreat
