/- Texts merged into one, for the number of files a claim may have: NdK, NdL, NdM, RfA, RfB, GrS, GrV, GrW, SameA, SameB, SameC, SameD, SameE, GrT, RfC, GrU, PlP, StA, NdDel, WkA, WkB, PlQ, PlK. -/
import Derived.Test.YtlejomlppjpchaaGreatRY5
import Derived.Test.YtlejomlppjpchaaGreatRY6
import Derived.Test.YtlejomlppjpchaaGreatRY7
import Derived.Test.YtlejomlppjpchaaGreatRY8
import Derived.Laws.EntriesVeiled
namespace Go.Proofs.YtlejomlppjpchaaGreat
open Go.RowKit Go.Fb
set_option maxRecDepth 100000
set_option maxHeartbeats 16000000
set_option linter.unusedVariables false
abbrev fnStands (gO:Nat):Value:=.func (.func 166) #[] #[.pointer (some ⟨gO,0,none⟩)]
theorem stands_any (x:Int) (gO:Nat) (A:Option Addr) (q c B:Nat) (out:List Int) (w:World) (hb:Blk w gO 43 #[.slice A q c]) (hn:q=out.length) (hm:q<=1000000) (hr:Reads w B 1 A q (out.map (Value.int .i64))) (hB:B<=w.heap.size) :
  Calls Tryz.prog 166 #[.int .i64 x,.pointer (some ⟨gO,0,none⟩)] w fun e w'=>e=.returned (.bool (hasI out x))/\Fr w.heap.size [] w w':=by
 have HC:=zh (ihas_any x A c B q out w hn hm hr hB);have c0:=hb.cell 0;simp at c0;clear hb hn hr;go_enter Tryz.func166,Tryz.ntmps166;go_wp2_with fail;refine HC.out.mono ?_;rintro e w1 ⟨rfl,f1⟩;have F1:=zh f1;clear f1;go_wp2_with fail;go_ret;exact ⟨rfl,F1.out⟩
theorem nstands_any (x:Int) (gS gO:Nat) (A:Option Addr) (q c B:Nat) (out:List Int) (w:World) (hs:Blk w gS 268 #[fnStands gO]) (hb:Blk w gO 43 #[.slice A q c]) (hn:q=out.length) (hm:q<=1000000) (hr:Reads w B 1 A q (out.map (Value.int .i64))) (hB:B<=w.heap.size) :
  Calls Tryz.prog 167 #[.int .i64 x,.pointer (some ⟨gS,0,none⟩)] w fun e w'=>e=.returned (.bool (!hasI out x))/\Fr w.heap.size [] w w':=by
 have HC:=zh (stands_any x gO A q c B out w hb hn hm hr hB);have c0:=hs.cell 0;simp at c0;have hent:=enters_of Tryz.func166 (by kernel_rfl) rfl;clear hb hn hr hs;go_enter Tryz.func167,Tryz.ntmps167;go_wp2_with fail;refine HC.out.mono ?_;rintro e w1 ⟨rfl,f1⟩;have F1:=zh f1;clear f1;go_wp2_with fail;go_ret;exact ⟨rfl,F1.out⟩
structure Nmd (base:Nat) (w:World) (A:Option Addr) (n c:Nat) (M:List Ndm):Prop where
 num:n=M.length
 own:w.ownsRow base 83 13 (.slice A n c) n (cellsN M)
 inn:NmI base (Value.ownBlock (.slice A n c)) w M
theorem fresh_notin {base:Nat} {v:Value} {L:List Nat} (h:Fresh base v) (hL:∀ k ∈ L,k < base) {A:Option Addr} {n c:Nat} (hv:v=.slice A n c) (hn:0 < n):∀ ad,A=some ad->ad.block ∉ L:=by
 intro ad ha hm;have:=h A n c hv hn ad ha;have:=hL _ hm;omega
theorem Nmd.frd {base:Nat} {w w':World} {A:Option Addr} {n c:Nat} {M:List Ndm} {L:List Nat} (h:Nmd base w A n c M) (hf:Fr w.heap.size L w w') (hL:∀ k ∈ L,k < base):Nmd base w' A n c M :=
 ⟨h.num, ownsRow_fr h.own hf (fun q hq => ⟨(h.own.lt q hq).2, fun hm => by have := (h.own.lt q hq).1; have := hL _ hm; omega⟩), fun m hm => by
  obtain ⟨⟨⟨A1,c1,h1,h2⟩,⟨A2,c2,h3,h4⟩⟩,o1,o2,f1,f2,th⟩:=h.inn m hm
  exact ⟨⟨⟨A1,c1,h1,(h2.frL hf (Nat.le_refl _) (fresh_notin f1 hL h1)).more hf.size⟩,⟨A2,c2,h3,(h4.frL hf (Nat.le_refl _) (fresh_notin f2 hL h3)).more hf.size⟩⟩,o1,o2,f1,f2,th.frL hf (fun A n c hv hn=>fresh_notin f2 hL hv hn)⟩⟩
theorem Nmd.nds {base:Nat} {w w':World} {A:Option Addr} {n c:Nat} {M:List Ndm} {L:List Nat} (h:Nmd base w A n c M) (hf:Fr w.heap.size L w w') (hL:∀ k ∈ L,k < base):Nds w' w.heap.size A n M :=
 ⟨h.num, (Reads.of_own h.own).frL hf (Nat.le_refl _) (fun hn ad ha hm => by
  obtain ⟨g,cap,hv,hbg,hlt⟩:=h.own.form hn;injection hv with hv
  rw [ha] at hv;injection hv with hv
  subst hv;have:=hL _ hm;simp only at this
  omega),fun m hm=>by
  obtain ⟨⟨⟨A1,c1,h1,h2⟩,⟨A2,c2,h3,h4⟩⟩,o1,o2,f1,f2,th⟩:=h.inn m hm
  exact ⟨⟨A1,c1,h1,h2.frL hf (Nat.le_refl _) (fresh_notin f1 hL h1)⟩,⟨A2,c2,h3,h4.frL hf (Nat.le_refl _) (fresh_notin f2 hL h3)⟩⟩⟩
theorem small_norm {M M1:List Ndm} (hs:Small M) (h:fstN M1=normL (fstN M)):Small M1:=by
 refine ⟨?_,fun m hm => ?_⟩
 · have:=congrArg List.length h;rw [normL_len] at this;simp [fstN] at this;rw [this];exact hs.1
 · have h1:m.1 ∈ fstN M1:=List.mem_map.2 ⟨m,hm,rfl⟩;rw [h,normL_mem] at h1;obtain ⟨m',hm',e⟩:=List.mem_map.1 h1;rw [<- e];exact hs.2 m' hm'
theorem find_at {α:Type} {p:α->Bool}:∀ {l:List α} {i:Nat} {a:α},l[i]?=some a->p a=true->(∀ j y,j < i->l[j]?=some y->p y=false)->l.find? p=some a
 | [],_,_,h,_,_=>by simp at h
 | x :: l,0,a,h,hp,_=>by
  simp at h;subst h;rw [List.find?_cons,hp]
 | x :: l,i+1,a,h,hp,hb=>by
  rw [List.find?_cons,hb 0 x (by omega) rfl];exact find_at (l:=l) (i:=i) (by simpa using h) hp fun j y hj hy=>hb (j+1) y (by omega) (by simpa using hy)
theorem find_no {α:Type} {p:α->Bool} {l:List α} (h:∀ (j:Nat) (y:α),l[j]?=some y->p y=false):l.find? p=none:=by
 rw [List.find?_eq_none];intro x hx;obtain ⟨j,hj⟩:=List.getElem?_of_mem hx;simp [h j x hj]
structure SortJ (gO gS:Nat) (L:List Nd) (w w2 wr:World) (A1:Option Addr) (n1 c1:Nat) (M1:List Ndm) (A':Option Addr) (k c':Nat):Prop where
 nmd:Nmd (gS+1) w2 A1 n1 c1 M1
 fst:fstN M1=normL L
 sml:Small M1
 fr2:Fr w.heap.size [] w w2
 blS:Blk w2 gS 268 #[fnStands gO]
 fr:Fr w2.heap.size [gO] w2 wr
 box:Blk wr gO 43 #[.slice A' k c']
 own:wr.ownsRow w2.heap.size 3 1 (.slice A' k c') k ((sortF (normL L) k).map (Value.int .i64))
 len:k=(sortF (normL L) k).length
theorem SortJ.mv {gO gS:Nat} {L:List Nd} {w w2 wr wi:World} {A1:Option Addr} {n1 c1:Nat} {M1:List Ndm} {A':Option Addr} {k c':Nat} (h:SortJ gO gS L w w2 wr A1 n1 c1 M1 A' k c') (hf:Fr wr.heap.size [] wr wi):SortJ gO gS L w w2 wi A1 n1 c1 M1 A' k c' :=
 ⟨h.nmd,h.fst,h.sml,h.fr2,h.blS,h.fr.trans (hf.mono (B':=w2.heap.size) (L':=[gO]) h.fr.size (by simp)),h.box.fr hf h.box.lt (by simp),ownsRow_fr h.own hf (fun q hq=>⟨(h.own.lt q hq).2,by simp⟩),h.len⟩
theorem SortJ.lt {gO gS:Nat} {L:List Nd} {w w2 wr:World} {A1:Option Addr} {n1 c1:Nat} {M1:List Ndm} {A':Option Addr} {k c':Nat} (h:SortJ gO gS L w w2 wr A1 n1 c1 M1 A' k c') (hgo:gO < gS):Nds wr w2.heap.size A1 n1 M1 :=
 h.nmd.nds h.fr (by simp;omega)
theorem SortJ.num {gO gS:Nat} {L:List Nd} {w w2 wr:World} {A1:Option Addr} {n1 c1:Nat} {M1:List Ndm} {A':Option Addr} {k c':Nat} (h:SortJ gO gS L w w2 wr A1 n1 c1 M1 A' k c'):n1=L.length:=by
 have:=congrArg List.length h.fst;rw [normL_len] at this;simp [fstN] at this;rw [<- this];exact h.nmd.num
theorem SortJ.kle {gO gS:Nat} {L:List Nd} {w w2 wr:World} {A1:Option Addr} {n1 c1:Nat} {M1:List Ndm} {A':Option Addr} {k c':Nat} (h:SortJ gO gS L w w2 wr A1 n1 c1 M1 A' k c'):k<=L.length:=by
 have:=(sortF_ord (normL L) k).le;rw [<- h.len,normL_len] at this;exact this
theorem SortJ.bs {gO gS:Nat} {L:List Nd} {w w2 wr:World} {A1:Option Addr} {n1 c1:Nat} {M1:List Ndm} {A':Option Addr} {k c':Nat} (h:SortJ gO gS L w w2 wr A1 n1 c1 M1 A' k c') (hgo:gO < gS):Blk wr gS 268 #[fnStands gO] :=
 h.blS.fr h.fr h.blS.lt (by simp;omega)
theorem SortJ.ready {gO gS:Nat} {L:List Nd} {w w2 wr:World} {A1:Option Addr} {n1 c1:Nat} {M1:List Ndm} {A':Option Addr} {k c':Nat} (h:SortJ gO gS L w w2 wr A1 n1 c1 M1 A' k c') {i:Nat} {m:Ndm} (hm:M1[i]?=some m) (hr:readyB (sortF (normL L) k) m.1=true)
  (hb:∀ (j:Nat) (y:Ndm),j < i->M1[j]?=some y->readyB (sortF (normL L) k) y.1=false):(normL L).find? (readyB (sortF (normL L) k))=some m.1:=by
 refine find_at (i:=i) ?_ hr fun j y hj hy => ?_
 · rw [<- h.fst];simp [fstN,hm]
 · rw [<- h.fst] at hy;simp only [fstN,List.getElem?_map,Option.map_eq_some_iff] at hy;obtain ⟨z,hz,rfl⟩:=hy;exact hb j z hj hz
theorem SortJ.none_ {gO gS:Nat} {L:List Nd} {w w2 wr:World} {A1:Option Addr} {n1 c1:Nat} {M1:List Ndm} {A':Option Addr} {k c':Nat} (h:SortJ gO gS L w w2 wr A1 n1 c1 M1 A' k c')
  (hb:∀ (j:Nat) (y:Ndm),j < n1->M1[j]?=some y->readyB (sortF (normL L) k) y.1=false):sortN L=sortF (normL L) k:=by
 have hf:(normL L).find? (readyB (sortF (normL L) k))=none:=by
  refine find_no fun j y hy => ?_;rw [<- h.fst] at hy;simp only [fstN,List.getElem?_map,Option.map_eq_some_iff] at hy;obtain ⟨z,hz,rfl⟩:=hy;refine hb j z ?_ hz;rw [h.nmd.num];exact (List.getElem?_eq_some_iff.1 hz).1
 have:=sortF_end (L:=normL L) (k:=k) (by rw [normL_len];exact h.kle) hf;unfold sortN;rw [<- normL_len L,this]
theorem SortJ.more {gO gS:Nat} {L:List Nd} {w w2 w3 w4:World} {A1:Option Addr} {n1 c1:Nat} {M1:List Ndm} {A' A3:Option Addr} {k c' c3:Nat} {x:Nd} {news:Array Value} (h:SortJ gO gS L w w2 w3 A1 n1 c1 M1 A' k c') (hf:(normL L).find? (readyB (sortF (normL L) k))=some x)
  (ho:w4.ownsRow w2.heap.size 3 1 (.slice A3 (k+1) c3) (k+1) ((sortF (normL L) k).map (Value.int .i64) ++ [Value.int .i64 x.id])) (hg:(w3.alloc (.cells news 3)).grownBy w4 (Value.ownBlock (.slice A' k c'))):SortJ gO gS L w w2 (w4.setCell ⟨gO,0,none⟩ (.slice A3 (k+1) c3)) A1 n1 c1 M1 A3 (k+1) c3:=by
 have hb4:Blk w4 gO 43 #[.slice A' k c']:=(h.box.alloc _).grown hg (h.box.ne_own h.own (by decide));have hss:=sortF_some hf;refine ⟨h.nmd,h.fst,h.sml,h.fr2,h.blS,?_,by simpa using hb4.set_ 0 (.slice A3 (k+1) c3),?_,?_⟩
 · have f4:=Fr.of_app hg h.own h.fr.size;exact (h.fr.trans (f4.mono (Nat.le_refl _) (by simp))).setCell (.inr (by simp)) _
 · rw [hss,List.map_append];exact ownsRow_setCell_other ho (fun e=>hb4.ne_own ho (by decide) e.symm) _
 · rw [hss,List.length_append,<- h.len];rfl
def sortMu (gO:Nat) (w:World):Nat:=match w.cell? ⟨gO,0,none⟩ with
 | some (.slice _ k _)=>21 - k
 | _=>0
theorem sortMu_lt {gO:Nat} {w w':World} {A A':Option Addr} {k c c':Nat} (h:Blk w gO 43 #[.slice A k c]) (h':Blk w' gO 43 #[.slice A' (k+1) c']) (hk:k<=20):sortMu gO w' < sortMu gO w:=by
 have c0:=h.cell 0;have c1:=h'.cell 0;unfold sortMu;rw [c0,c1];simp;omega
theorem sort_any (A:Option Addr) (c B n:Nat) (M:List Ndm) (w:World) (h:Nds w B A n M) (hB:B<=w.heap.size) (hs:Small M) (hn:n<=20) :
  Calls Tryz.prog 120 #[.slice A n c] w (IntsOut (sortN (fstN M)) w):=by
 have BO:=zh ((Blk.new w 43 #[.slice none 0 0]).alloc (.cells #[fnStands w.heap.size] 268));have BS0:=Blk.new (w.alloc (.cells #[.slice none 0 0] 43)) 268 #[fnStands w.heap.size];rw [World.size_alloc] at BS0;have BS:=zh BS0;have F1:=zh (((Fr.refl w.heap.size [] w).alloc (Nat.le_refl _) (.cells #[.slice none 0 0] 43)).alloc (by simp) (.cells #[fnStands w.heap.size] 268));have HN:=zh (norm_any A c B n M ((w.alloc (.cells #[.slice none 0 0] 43)).alloc (.cells #[fnStands w.heap.size] 268)) (h.frw F1.out hB (by simp)) (Nat.le_trans hB F1.out.size) hs hn);have hz1:((w.alloc (.cells #[.slice none 0 0] 43)).alloc (.cells #[fnStands w.heap.size] 268)).heap.size=w.heap.size+1+1:=(by simp);have HZ1:=zh hz1;have HNUM:=zh h.num;have HSM:=zh hs;obtain ⟨L,hL⟩:=nm (fstN M);have HLM:=zh hL;rw [<- hL] at HN ⊢;have hnl:L.length=n:=(by rw [hL,h.num];simp [fstN]);have HNL:=zh hnl;clear BS0 h hs hL hz1 hnl;go_enter Tryz.func120,Tryz.ntmps120;go_wp2_with fail;refine wp_scope_jumps 0 (fun a' w'=>∃ (w2:World) (A1:Option Addr) (n1 c1:Nat) (M1:List Ndm) (A':Option Addr) (k c':Nat) (u1 u5 u6 u7 u8 u9 u10 u11 u12 u13 u14 u15 u16 u17 u18 u19 u20 u21 u22 u23 u24 u25 u26 u27 u28 u29 u30 u31 u32 u33 u34:Value),a'={ tmps:=#[.slice A1 n1 c1,u1,.slice none 0 0,.pointer (some ⟨w.heap.size,0,none⟩),.pointer (some ⟨w.heap.size+1,0,none⟩),u5,u6,u7,u8,u9,u10,u11,u12,u13,u14,u15,u16,u17,u18,u19,u20,u21,u22,u23,u24,u25,u26,u27,u28,u29,u30,u31,u32,u33,u34],defers:=[] }/\Hid (SortJ w.heap.size (w.heap.size+1) L w w2 w' A1 n1 c1 M1 A' k c')) (fun _ w'=>sortMu w.heap.size w') rfl ?first ?pass
 case' first =>
  go_wp2_with fail;generalize (w.alloc _).alloc _=w1 at *;refine HN.out.mono ?_;rintro e w2 ⟨A1,c1,n1,M1,hn1,rfl,ho,hi,hf1,f2⟩;rw [HZ1.out] at ho hi f2;have HJ:=zh (show SortJ w.heap.size (w.heap.size+1) L w w2 w2 A1 n1 c1 M1 none 0 0 from ⟨⟨hn1,ho,hi⟩,hf1,small_norm HSM.out (by rw [hf1,HLM.out]),F1.out.trans (f2.mono (B':=w.heap.size) (L':=[]) (by omega) (by simp)),BS.out.fr f2 (by omega) (by simp),Fr.refl _ _ _,BO.out.fr f2 (by omega) (by simp),World.ownsRow_nil _ _ _ _,rfl⟩);clear hn1 ho hi hf1 f2 HN BO BS F1 HZ1;obtain ⟨wq,hwq⟩:=nm (w2:World);obtain ⟨A',k,c',HJ⟩:∃ (A':Option Addr) (k c':Nat),Hid (SortJ w.heap.size (w.heap.size+1) L w w2 wq A1 n1 c1 M1 A' k c'):=⟨none,0,0,by rw [hwq];exact HJ⟩;rw [<- hwq];clear hwq;go_wp2_with fail;go_step3;go_wp2_with fail
 case' pass =>
  rintro a wq ⟨w2,A1,n1,c1,M1,A',k,c',u1,u5,u6,u7,u8,u9,u10,u11,u12,u13,u14,u15,u16,u17,u18,u19,u20,u21,u22,u23,u24,u25,u26,u27,u28,u29,u30,u31,u32,u33,u34,rfl,HJ⟩;clear HN BO BS F1 HZ1;go_wp2_with fail
 all_goals
  have hn1:n1<=20:=(by rw [HJ.out.num,HNL.out];exact hn);have hk20:k<=20:=(by have h1:=HJ.out.kle;have h2:=HNL.out;omega);go_loopg [12] n1 (fun g s12 wr=>∃ i:Nat,i<=n1/\g=n1 - i/\s12=.int .i64 i/\Hid (∀ (j:Nat) (y:Ndm),j < i->M1[j]?=some y->readyB (sortF (normL L) k) y.1=false)/\Hid (Fr wq.heap.size [] wq wr))
  case atStart=>exact ⟨0,Nat.zero_le _,rfl,rfl,zh (fun j y h=>absurd h (Nat.not_lt_zero _)),zh (Fr.refl _ _ _)⟩
  case round =>
   obtain ⟨i,hi,rfl,rfl,HB,HF⟩:=hrel;have HJ:=zh (HJ.out.mv HF.out)
   by_cases hin1:i < n1
   ·
    have hki:(i:Int) < (n1:Int):=by omega
    have hk0:(0:Int)<=(i:Int):=(by omega);obtain ⟨m,hx⟩:∃ m,M1[i]?=some m:=⟨_,List.getElem?_eq_getElem (by rw [<- HJ.out.nmd.num];exact hin1)⟩;have HX:=zh hx;have HND:=HJ.out.lt (by omega);have hlt2:w2.heap.size<=wr.heap.size:=HJ.out.fr.size;obtain ⟨b1,o1,rfl,hb1,hc1⟩:=HND.get hx;have hin:=HND.inn m (List.mem_of_getElem? hx);have hsm:=HJ.out.sml.2 m (List.mem_of_getElem? hx);obtain ⟨x,sf,sp⟩:=m;have fa:=(Fr.refl wr.heap.size [] wr).alloc (Nat.le_refl _) (.cells (ndA x sf sp) 83);have BX:=zh (Blk.new wr 83 (ndA x sf sp));have HJa:=zh (HJ.out.mv fa);have HFa:=zh (HF.out.nx fa);obtain ⟨⟨Af,cf,hf1,hf2⟩,⟨Ap,cp,hp1,_⟩⟩:=hin;simp only at hf1 hp1 hsm hf2;have RF:=zh (hf2.fr fa hlt2 (by simp));subst hf1;subst hp1;obtain ⟨g0,g1,g2,g3,g4,g5,g6,g7,g8,g9,g10,g11,g12⟩:=ndL_get (x,.slice Af x.fr.length cf,.slice Ap x.pg.length cp);have p0:=hc1 0 _ g0;have p1:=hc1 1 _ g1;have p2:=hc1 2 _ g2;have p3:=hc1 3 _ g3;have p4:=hc1 4 _ g4;have p5:=hc1 5 _ g5;have p6:=hc1 6 _ g6;have p7:=hc1 7 _ g7;have p8:=hc1 8 _ g8;have p9:=hc1 9 _ g9;have p10:=hc1 10 _ g10;have p11:=hc1 11 _ g11;have p12:=hc1 12 _ g12;simp only [Nat.add_zero] at p0;obtain ⟨nf,hnf⟩:=nm (x.fr.length);obtain ⟨np,hnp⟩:=nm (x.pg.length);rw [<- hnf] at p2 BX HJa HFa RF;rw [<- hnp] at p3 BX HJa HFa RF;have HNF:=zh hnf;have hnf1:nf<=1000000:=(by rw [hnf];exact hsm.1);clear hc1 hx g0 g1 g2 g3 g4 g5 g6 g7 g8 g9 g10 g11 g12 HND hsm hnf hnp fa hb1 hf2 HF HJ;go_upto_region 7 with fail;clear p0 p1 p2 p3 p4 p5 p6 p7 p8 p9 p10 p11 p12;have hwa:w2.heap.size<=(wr.alloc (.cells (ndA x (.slice Af nf cf) (.slice Ap np cp)) 83)).heap.size:=HJa.out.fr.size;clear hlt2;generalize wr.alloc (.cells (ndA x (.slice Af nf cf) (.slice Ap np cp)) 83)=wa at *;generalize wr.heap.size=gx at *;have q0:=BX.out.cell 0;have q2:=BX.out.cell 2;simp at q0 q2;have s0:=(HJa.out.bs (by omega)).cell 0;simp at s0;obtain ⟨out,hout⟩:=nm (sortF (normL L) k);have HOUT:=zh hout;have HRB:=zh (show readyB out x=(!hasI out x.id && x.fr.all (hasI out)) from rfl);have hlen:=HJa.out.len;have hown:=HJa.out.own;rw [<- hout] at hlen hown;have HC1:=stands_any x.id w.heap.size A' k c' _ out wa HJa.out.box hlen (by omega) (Reads.of_own hown) (Nat.le_refl _);obtain ⟨h1,hh1⟩:=nm (hasI out x.id);rw [<- hh1] at HC1 HRB;have HC1:=zh HC1;have hent:=enters_of Tryz.func166 (by kernel_rfl) rfl;clear hout hh1 hlen hown
    cases h1 with
    | true =>
     have HR0:=zh (show readyB out x=false by rw [HRB.out];rfl);go_wp2_with fail;refine HC1.out.mono ?_;rintro e wb ⟨rfl,fb⟩;have HFb:=zh (HFa.out.nx fb);clear fb HC1 q0 q2 s0;go_wp2_with fail;go_roundg (n1 - (i+1))
     case measure=>omega
     case rel => exact ⟨i + 1, by omega, rfl, by go_num, zh (fun j y hj hy => by
      by_cases e:j=i
      ·
       subst e;have:=HX.out.symm.trans hy;injection this with this
       rw [<- this,<- HOUT.out];exact HR0.out
      · exact HB.out j y (by omega) hy),HFb⟩
    | false =>
     go_wp2_with fail;refine HC1.out.mono ?_;rintro e wb ⟨rfl,fb⟩;have HFb:=zh (HFa.out.nx fb);have HJb:=zh (HJa.out.mv fb);have BXb:=zh (BX.out.fr fb BX.out.lt (by simp));have RFb:=zh (RF.out.fr fb hwa (by simp));have hwb:w2.heap.size<=wb.heap.size:=HJb.out.fr.size;clear fb HC1 q0 q2 s0 HFa HJa BX RF hwa;have q0:=BXb.out.cell 0;have q2:=BXb.out.cell 2;simp at q0 q2;have hent2:=enters_of Tryz.func167 (by kernel_rfl) rfl;have HC2:=jcontains_any 167 #[.pointer (some ⟨w.heap.size+1,0,none⟩)] (fun f=>!hasI out f) Af cf w2.heap.size nf x.fr wb hent2 (fun f w' _ hf=>nstands_any f (w.heap.size+1) w.heap.size A' k c' _ out w' ((HJb.out.mv hf).bs (by omega)) (HJb.out.mv hf).box (by rw [HOUT.out];exact (HJb.out.mv hf).len) (by omega) (by rw [HOUT.out];exact Reads.of_own (HJb.out.mv hf).own) (Nat.le_refl _)) HNF.out hnf1 RFb.out hwb;obtain ⟨h2,hh2⟩:=nm (x.fr.any (fun f=>!hasI out f));rw [<- hh2] at HC2;have HC2:=zh HC2;have HR2:=zh (show readyB out x=!h2 by rw [HRB.out,hh2,List.any_eq_not_all_not];simp);clear hh2 HRB
     cases h2 with
     | true =>
      go_wp2_with fail;refine HC2.out.mono ?_;rintro e wd ⟨rfl,fd⟩;have HFd:=zh (HFb.out.nx fd);clear fd HC2 q0 q2;go_wp2_with fail;go_roundg (n1 - (i+1))
      case measure=>omega
      case rel => exact ⟨i + 1, by omega, rfl, by go_num, zh (fun j y hj hy => by
       by_cases e:j=i
       ·
        subst e;have:=HX.out.symm.trans hy;injection this with this
        rw [<- this,<- HOUT.out];exact HR2.out
       · exact HB.out j y (by omega) hy),HFd⟩
     | false =>
      go_wp2_with fail;refine HC2.out.mono ?_;rintro e wd ⟨rfl,fd⟩;have HJd:=zh (HJb.out.mv fd);have BXd:=zh (BXb.out.fr fd BXb.out.lt (by simp));have HFN:=zh (HJd.out.ready HX.out (by rw [<- HOUT.out];exact HR2.out) HB.out);have hklt:=sortF_room HJd.out.len.symm HFN.out;rw [normL_len,HNL.out] at hklt;clear fd HC2 q0 q2 HFb HJb BXb RFb hwb;have q0:=BXd.out.cell 0;have o0:=HJd.out.box.cell 0;simp at q0 o0;have hown:=HJd.out.own;have hsz:=HJd.out.fr.size;go_wp2_with (at_builtin;refine wpList_app_lit _ rfl (.tmp 28) (.tmp 31) intsTy rfl w2.heap.size (.slice A' k c') k _ rfl hown 1 1 _ rfl rfl (by simp [Value.oneCell']) (by omega) (by omega) hsz ?_;intro A3 c3 w4 hown4 hg4 hat4;have hb4:=(HJd.out.box.alloc (.cells #[.int .i64 x.id] 3)).grown hg4 (HJd.out.box.ne_own hown (by decide));have zb4:=hb4.frozen 0;have cb4:=hb4.cell 0;simp at cb4);have HJ5:=zh (HJd.out.more HFN.out hown4 hg4);have HMU:=zh (sortMu_lt HJ.out.box HJ5.out.box hk20);clear hown4 hg4 hat4 hb4 zb4 cb4 hown q0 o0 HJd BXd HC1 HC2;generalize w4.setCell ⟨w.heap.size,0,none⟩ (.slice A3 (k+1) c3)=w5 at *;go_step3
      first
       | exact ⟨rfl,w2,_,_,_,_,A3,k+1,c3,_,_,_,_,_,_,_,_,_,_,_,_,_,_,_,_,_,_,_,_,_,_,_,_,_,_,_,_,_,_,_,rfl,HJ5⟩
       | exact ⟨rfl,⟨w2,_,_,_,_,A3,k+1,c3,_,_,_,_,_,_,_,_,_,_,_,_,_,_,_,_,_,_,_,_,_,_,_,_,_,_,_,_,_,_,_,rfl,HJ5⟩,HMU.out⟩
   ·
    obtain rfl:i=n1:=by omega
    have HE:=zh (HJ.out.none_ HB.out);have o0:=HJ.out.box.cell 0;simp at o0;go_wp2_with fail;simp only [Exit.jump];go_ret;unfold IntsOut;rw [HE.out];exact ⟨A',c',k,HJ.out.len,rfl,ownsRow_base HJ.out.own HJ.out.fr2.size,HJ.out.fr2.trans (HJ.out.fr.mono HJ.out.fr2.size (by intro q hq hlt;simp at hq;omega))⟩
theorem checkN_bad {L:List Nd} (h8:L.length<=8) {x:Nd} (hx:x ∈ L) (hb:nodeB L x=false):checkN L=10:=by
 unfold checkN;rw [if_neg (by omega),if_neg];intro h;rw [Bool.and_eq_true,List.all_eq_true] at h;have:=h.1 x hx;rw [hb] at this
 cases this
theorem checkN_good {L:List Nd} (h8:L.length<=8) (ha:∀ x ∈ L,nodeB L x=true):checkN L=if unlikeB (idsN L) && (hasI (idsN L) 0 && decide ((sortN L).length=L.length)) then 0 else 10:=by
 unfold checkN;have:L.all (nodeB L)=true:=List.all_eq_true.2 ha;rw [if_neg (by omega),this,Bool.true_and]
theorem gcheck_any (A:Option Addr) (c B n:Nat) (M:List Ndm) (w:World) (h:Nds w B A n M) (hB:B<=w.heap.size) (hs:Small M) :
  Calls Tryz.prog 75 #[.slice A n c] w fun e w'=>e=.returned (.int .i64 (checkN (fstN M)))/\Fr w.heap.size [] w w':=by
 obtain ⟨L,hL⟩:=nm (fstN M);have hnl:L.length=n:=(by rw [hL,h.num];simp [fstN]);obtain ⟨cv,hcv⟩:=nm (checkN L);rw [<- hL,<- hcv];have HCV:=zh hcv;have HL:=zh hL;have HNL:=zh hnl;have H:=zh h;have HN:=zh h.num;have HS:=zh hs;clear h hs hL hnl hcv
 by_cases h8:8 < n
 ·
  have hn1:n<=1000000:=by rw [HN.out];exact HS.out.1
  have hv:cv=6:=(by rw [HCV.out];exact checkN_long.2 (by rw [HNL.out];exact h8));have HV:=zh hv;clear hv;go_enter Tryz.func75,Tryz.ntmps75;go_wp2_with fail;go_ret;exact ⟨by rw [HV.out];rfl,Fr.refl _ _ _⟩
 have hn8:n<=8:=(by omega);go_enter Tryz.func75,Tryz.ntmps75;go_wp2_with fail;go_loopg [3,11] n (fun g s3 s11 wr=>∃ (k:Nat) (A':Option Addr) (c':Nat),k<=n/\g=n - k/\s11=.int .i64 k/\s3=.slice A' k c'/\Hid (∀ x ∈ L.take k,nodeB L x=true)/\Hid (wr.ownsRow w.heap.size 3 1 (.slice A' k c') k ((idsN (L.take k)).map (Value.int .i64)))/\Hid (Fr w.heap.size [] w wr))
 case atStart=>exact ⟨0,none,0,Nat.zero_le _,rfl,rfl,rfl,zh (by simp),zh (World.ownsRow_nil _ _ _ _),zh (Fr.refl _ _ _)⟩
 case round =>
  obtain ⟨k,A',c',hk,rfl,rfl,rfl,HG,HO,FR⟩:=hrel
  by_cases hkn:k < n
  ·
   have hki:(k:Int) < (n:Int):=by omega
   have hk0:(0:Int)<=(k:Int):=(by omega);obtain ⟨m,hx⟩:∃ m,M[k]?=some m:=⟨_,List.getElem?_eq_getElem (by rw [<- HN.out];exact hkn)⟩;have HND:=H.out.frw FR.out hB (by simp);obtain ⟨b1,o1,rfl,hb1,hc1⟩:=HND.get hx;have hin:=HND.inn m (List.mem_of_getElem? hx);have hsm:=HS.out.2 m (List.mem_of_getElem? hx);have HTK:=zh (show L.take (k+1)=L.take k ++ [m.1] by rw [List.take_add_one,HL.out];simp [fstN,hx]);have HMEM:=zh (show m.1 ∈ L by rw [HL.out];exact List.mem_map.2 ⟨m,List.mem_of_getElem? hx,rfl⟩);obtain ⟨x,sf,sp⟩:=m;have hBr:B<=wr.heap.size:=Nat.le_trans hB FR.out.size;have fa:=(Fr.refl wr.heap.size [] wr).alloc (Nat.le_refl _) (.cells (ndA x sf sp) 83);have HW:=node_any x sf sp (some ⟨b1,o1,none⟩) c B n M (wr.alloc (.cells (ndA x sf sp) 83)) (hin.frw fa hBr (by simp)) (HND.frw fa hBr (by simp)) (Nat.le_trans hBr fa.size) HS.out hsm.1 hsm.2;have BX:=zh (Blk.new wr 83 (ndA x sf sp));have HOa:=zh (ownsRow_fr HO.out fa (fun q hq=>⟨(HO.out.lt q hq).2,by simp⟩));have FRa:=zh (FR.out.nx fa);obtain ⟨⟨Af,cf,hf1,_⟩,⟨Ap,cp,hp1,_⟩⟩:=hin;simp only at hf1 hp1 hsm HTK HMEM;subst hf1;subst hp1;obtain ⟨nb,hnb⟩:=nm (nodeB L x);rw [show (M.map (·.1))=L from HL.out.symm,<- hnb] at HW;have HW:=zh HW;have HNB:=zh hnb;obtain ⟨g0,g1,g2,g3,g4,g5,g6,g7,g8,g9,g10,g11,g12⟩:=ndL_get (x,.slice Af x.fr.length cf,.slice Ap x.pg.length cp);have p0:=hc1 0 _ g0;have p1:=hc1 1 _ g1;have p2:=hc1 2 _ g2;have p3:=hc1 3 _ g3;have p4:=hc1 4 _ g4;have p5:=hc1 5 _ g5;have p6:=hc1 6 _ g6;have p7:=hc1 7 _ g7;have p8:=hc1 8 _ g8;have p9:=hc1 9 _ g9;have p10:=hc1 10 _ g10;have p11:=hc1 11 _ g11;have p12:=hc1 12 _ g12;simp only [Nat.add_zero] at p0;obtain ⟨nf,hnf⟩:=nm (x.fr.length);obtain ⟨np,hnp⟩:=nm (x.pg.length);rw [<- hnf] at p2 HW BX HOa FRa;rw [<- hnp] at p3 HW BX HOa FRa;clear hc1 hx g0 g1 g2 g3 g4 g5 g6 g7 g8 g9 g10 g11 g12 HND hsm hnf hnp fa HO FR hb1 hnb;go_upto_region 7 with fail;clear p0 p1 p2 p3 p4 p5 p6 p7 p8 p9 p10 p11 p12;generalize wr.alloc (.cells (ndA x (.slice Af nf cf) (.slice Ap np cp)) 83)=wa at *;generalize wr.heap.size=gx at *;have q0:=BX.out.cell 0;have q1:=BX.out.cell 1;have q2:=BX.out.cell 2;have q3:=BX.out.cell 3;have q4:=BX.out.cell 4;have q5:=BX.out.cell 5;have q6:=BX.out.cell 6;have q7:=BX.out.cell 7;have q8:=BX.out.cell 8;have q9:=BX.out.cell 9;have q10:=BX.out.cell 10;have q11:=BX.out.cell 11;have q12:=BX.out.cell 12;simp at q0 q1 q2 q3 q4 q5 q6 q7 q8 q9 q10 q11 q12
   cases nb with
   | false =>
    have hv:cv=10:=(by rw [HCV.out];exact checkN_bad (by rw [HNL.out];exact hn8) HMEM.out HNB.out.symm);have HV:=zh hv;clear hv;go_wp2_with fail;refine HW.out.mono ?_;rintro e w2 ⟨rfl,f2⟩;have F2:=zh (FRa.out.nx f2);clear f2 HW;go_wp2_with fail;go_ret;exact ⟨by rw [HV.out];rfl,F2.out⟩
   | true =>
    go_wp2_with fail;refine HW.out.mono ?_;rintro e w2 ⟨rfl,f2⟩;have HO2:=zh (ownsRow_fr HOa.out f2 (fun q hq=>⟨(HOa.out.lt q hq).2,by simp⟩));have F2:=zh (FRa.out.nx f2);have BX2:=zh (BX.out.fr f2 BX.out.lt (by simp));clear f2 HW q0 q1 q2 q3 q4 q5 q6 q7 q8 q9 q10 q11 q12 BX HOa FRa;have q0:=BX2.out.cell 0;simp at q0;have hown:=HO2.out;have hsz:=F2.out.size;go_wp2_with (at_builtin;refine wpList_app_lit _ rfl (.tmp 19) (.tmp 22) intsTy rfl w.heap.size (.slice A' k c') k _ rfl hown 1 1 _ rfl rfl (by simp [Value.oneCell']) (by omega) (by omega) hsz ?_;intro A3 c3 w4 hown4 hg4 hat4);have F4:=zh (F2.out.trans (Fr.of_app hg4 hown hsz));have HO4:=zh hown4;clear hown4 hg4 hat4 hown;go_roundg (n - (k+1))
    case measure=>omega
    case rel => exact ⟨k + 1, A3, c3, by omega, rfl, by go_num, rfl, zh (by
     rw [HTK.out];intro y hy
     rcases List.mem_append.1 hy with hy | hy
     · exact HG.out y hy
     · rw [List.mem_singleton.1 hy];exact HNB.out.symm),by rw [HTK.out];simpa [idsN] using HO4,F4⟩
  ·
   obtain rfl:k=n:=by omega
   have htk:L.take k=L:=List.take_of_length_le (by rw [HNL.out];exact Nat.le_refl _);rw [htk] at HG HO;have HGOOD:=zh (checkN_good (by rw [HNL.out];exact hn8) HG.out);have hln:k=(idsN L).length:=(by simp [idsN,HNL.out]);have HLN:=zh hln;have HU:=unlike_any A' k c' _ (idsN L) wr hln (by omega) (Reads.of_own HO.out) (Nat.le_refl _);obtain ⟨ub,hub⟩:=nm (unlikeB (idsN L));obtain ⟨zb,hzb⟩:=nm (hasI (idsN L) 0);rw [<- hub] at HU HGOOD;rw [<- hzb] at HGOOD;have HZB:=zh hzb;have HU:=zh HU;clear htk hln hub hzb
   cases ub with
   | false =>
    have hv:cv=10:=(by rw [HCV.out,HGOOD.out];rfl);have HV:=zh hv;clear hv;go_wp2_with fail;refine HU.out.mono ?_;rintro e w2 ⟨rfl,f2⟩;have F2:=zh (FR.out.nx f2);clear f2 HU;go_wp2_with fail;go_ret;exact ⟨by rw [HV.out];rfl,F2.out⟩
   | true =>
    go_wp2_with fail;refine HU.out.mono ?_;rintro e w2 ⟨rfl,f2⟩;have F2:=zh (FR.out.nx f2);have HO2:=ownsRow_fr HO.out f2 (fun q hq=>⟨(HO.out.lt q hq).2,by simp⟩);have HC:=ihas_any 0 A' c' _ k (idsN L) w2 HLN.out (by omega) (Reads.of_own HO2) (Nat.le_refl _);rw [<- HZB.out] at HC;have HC:=zh HC;clear f2 HU HO2 HZB
    cases zb with
    | false =>
     have hv:cv=10:=(by rw [HCV.out,HGOOD.out];rfl);have HV:=zh hv;clear hv;go_wp2_with fail;refine HC.out.mono ?_;rintro e w3 ⟨rfl,f3⟩;have F3:=zh (F2.out.nx f3);clear f3 HC;go_wp2_with fail;go_ret;exact ⟨by rw [HV.out];rfl,F3.out⟩
    | true =>
     go_wp2_with fail;refine HC.out.mono ?_;rintro e w3 ⟨rfl,f3⟩;have F3:=zh (F2.out.nx f3);have HSO:=sort_any A c B k M w3 (H.out.frw F3.out hB (by simp)) (Nat.le_trans hB F3.out.size) HS.out (by omega);rw [<- HL.out] at HSO;have HSO:=zh HSO;clear f3 HC;go_wp2_with fail;refine HSO.out.mono ?_;rintro e w4 ⟨A4,c4,q,hq,rfl,_,f4⟩;have F4:=zh (F3.out.nx f4);have HQ:=zh hq;clear f4 HSO hq
     by_cases hqk:q=k
     ·
      have hv:cv=0:=by rw [HCV.out,HGOOD.out,<- HQ.out,HNL.out,decide_eq_true hqk];rfl
      have HV:=zh hv;subst hqk;clear hv;go_wp2_with fail;go_ret;exact ⟨by rw [HV.out];rfl,F4.out⟩
     ·
      have hv:cv=10:=by rw [HCV.out,HGOOD.out,<- HQ.out,HNL.out,decide_eq_false hqk];rfl
      have HV:=zh hv;have hne:((q:Int) == (k:Int))=false:=(by simp;omega);have hne2:((q:Int) != (k:Int))=true:=(by simp;omega);clear hv;go_wp2_with fail;go_ret;exact ⟨by rw [HV.out];rfl,F4.out⟩
def zNd:Nd:=⟨0,0,0,[],[],fun _=>0⟩
def getN (L:List Nd) (id:Int):Nd:=(findN L id).getD zNd
theorem rhas_any (v:Int) (A:Option Addr) (c B n:Nat) (l:List Int) (w:World) (hn:n=l.length) (hm:n<=1000000) (hr:Reads w B 1 A n (l.map (Value.int .i64))) :
  Calls Tryz.prog 60 #[.slice A n c,.int .i64 v] w fun e w'=>e=.returned (.bool (hasI l v))/\w=w':=by
 have HR:=zh hr;have HN:=zh hn;clear hr hn;go_enter Tryz.func60,Tryz.ntmps60;go_wp2_with fail;go_loop [5] (fun s=>∃ k:Nat,k<=n/\s=.int .i64 k/\Hid (∀ x ∈ l.take k,x ≠ v)) (fun s=>n - (intOf s).toNat)
 case atStart=>exact ⟨0,Nat.zero_le _,rfl,zh (by simp)⟩
 case round =>
  obtain ⟨k,hk,rfl,HB⟩:=hrel
  by_cases hkn:k < n
  ·
   have hki:(k:Int) < (n:Int):=by omega
   have hk0:(0:Int)<=(k:Int):=(by omega);obtain ⟨b,off,u,rfl,hb,hu,hc⟩:=HR.out.one hkn;obtain ⟨x,hx⟩:∃ x,l[k]?=some x:=⟨_,List.getElem?_eq_getElem (by rw [<- HN.out];exact hkn)⟩;rw [List.getElem?_map,hx] at hu;simp at hu;subst hu;have HX:=zh hx;clear hx
   by_cases e:x=v
   · have hv:hasI l v=true:=hasI_iff.2 (e ▸ List.mem_of_getElem? HX.out);have HV:=zh hv;have he:(x == v)=true:=(by simpa using e);clear hv e;go_wp2_with fail;go_ret;exact ⟨by rw [HV.out];rfl,rfl⟩
   ·
    have he:(x == v)=false:=by simpa using e
    have HB2 := zh (show ∀ y ∈ l.take (k + 1), y ≠ v from fun y hy => by
     rw [List.take_add_one,HX.out] at hy
     rcases List.mem_append.1 hy with hy | hy
     · exact HB.out y hy
     · simp at hy;rw [hy];exact e)
    clear e;go_wp2_with fail;go_round
    case rel=>exact ⟨k+1,by omega,by go_num,HB2⟩
    case measure=>simp [intOf];omega
  ·
   obtain rfl:k=n:=by omega
   have hv:hasI l v=false:=by
    have htk:l.take k=l:=List.take_of_length_le (by rw [HN.out];exact Nat.le_refl _);have h:=HB.out;rw [htk] at h
    cases hh:hasI l v with
    | false=>rfl
    | true=>exact absurd rfl (h v (hasI_iff.1 hh))
   have HV:=zh hv;clear hv;go_wp2_with fail;go_ret;exact ⟨by rw [HV.out];rfl,rfl⟩
def ixN (L:List Nd) (id:Int):Int:=match L.findIdx? (fun x=>decide (x.id=id)) with
 | none => -1
 | some k=>(k:Int)
theorem findIdx_at:∀ {L:List Nd} {id:Int} {k:Nat} {x:Nd},L[k]?=some x->x.id=id->(∀ y ∈ L.take k,y.id ≠ id)->L.findIdx? (fun x=>decide (x.id=id))=some k
 | [],_,_,_,h,_,_=>by simp at h
 | y :: L,id,0,x,h,e,_=>by
  simp at h;subst h;rw [List.findIdx?_cons];simp [e]
 | y :: L,id,k+1,x,h,e,hb=>by
  have h0:=hb y (by simp);rw [List.findIdx?_cons];have ih:=findIdx_at (L:=L) (id:=id) (k:=k) (by simpa using h) e fun z hz=>hb z (by simp [hz]);simp [h0,ih]
theorem ixN_cases (L:List Nd) (id:Int):(ixN L id = -1/\findN L id=none) \/ ∃ (k:Nat) (x:Nd),ixN L id=k/\L[k]?=some x/\findN L id=some x:=by
 unfold ixN findN
 induction L with
 | nil=>left;simp
 | cons y L ih =>
  rw [List.findIdx?_cons,List.find?_cons]
  by_cases e:y.id=id
  · right;exact ⟨0,y,by simp [e],rfl,by simp [e]⟩
  ·
   simp only [e,decide_false,Bool.false_eq_true,if_false]
   rcases ih with ⟨h1,h2⟩ | ⟨k,x,h1,h2,h3⟩
   ·
    left
    refine ⟨?_,h2⟩
    cases hf:L.findIdx? (fun x=>decide (x.id=id)) with
    | none=>rfl
    | some k=>rw [hf] at h1;simp only at h1;omega
   ·
    right
    refine ⟨k+1,x,?_,by simpa using h2,h3⟩
    cases hf:L.findIdx? (fun x=>decide (x.id=id)) with
    | none=>rw [hf] at h1;simp only at h1;omega
    | some k'=>rw [hf] at h1;simp only at h1;simp;omega
theorem ixN_none {L:List Nd} {id:Int} (h:∀ y ∈ L,y.id ≠ id):ixN L id = -1:=by
 unfold ixN;rw [List.findIdx?_eq_none_iff.2 (fun x hx=>by simpa using h x hx)]
theorem ixN_at {L:List Nd} {id:Int} {k:Nat} {x:Nd} (h:L[k]?=some x) (e:x.id=id) (hb:∀ y ∈ L.take k,y.id ≠ id):ixN L id=k:=by
 unfold ixN;rw [findIdx_at h e hb]
theorem fst_take {M:List Ndm} {k:Nat} {m:Ndm} (h:M[k]?=some m):(fstN M).take (k+1)=(fstN M).take k ++ [m.1]:=by
 rw [List.take_add_one];simp [fstN,h]
theorem rfind_any (id:Int) (A:Option Addr) (c B n:Nat) (M:List Ndm) (w:World) (h:Nds w B A n M) (hm:n<=1000000) :
  Calls Tryz.prog 30 #[.slice A n c,.int .i64 id] w fun e w'=>e=.returned (.int .i64 (ixN (fstN M) id))/\w=w':=by
 have H:=zh h;have HN:=zh h.num;obtain ⟨L,hL⟩:=nm (fstN M);have HL:=zh hL;obtain ⟨v,hv⟩:=nm (ixN L id);have HV:=zh hv;rw [<- hL,<- hv];clear h hL hv;go_enter Tryz.func30,Tryz.ntmps30;go_wp2_with fail;go_loop [5] (fun s=>∃ k:Nat,k<=n/\s=.int .i64 k/\Hid (∀ x ∈ L.take k,x.id ≠ id)) (fun s=>n - (intOf s).toNat)
 case atStart=>exact ⟨0,Nat.zero_le _,rfl,zh (by simp)⟩
 case round =>
  obtain ⟨k,hk,rfl,HB⟩:=hrel
  by_cases hkn:k < n
  ·
   have hki:(k:Int) < (n:Int):=by omega
   have hk0:(0:Int)<=(k:Int):=(by omega);obtain ⟨m,hx⟩:∃ m,M[k]?=some m:=⟨_,List.getElem?_eq_getElem (by rw [<- HN.out];exact hkn)⟩;obtain ⟨b1,o1,rfl,hb1,hc1⟩:=H.out.get hx;have p0:=hc1 0 _ (ndL_get m).1;simp only [Nat.add_zero] at p0;have HX:=zh (show L[k]?=some m.1 by rw [HL.out];simp [fstN,hx]);have HTK:=zh (show L.take (k+1)=L.take k ++ [m.1] by rw [HL.out];exact fst_take hx);obtain ⟨x,sf,sp⟩:=m;simp only at p0 HX HTK;obtain ⟨i,hi⟩:=nm (x.id);rw [<- hi] at p0;have HI:=zh hi;clear hc1 hx hi
   by_cases e:i=id
   ·
    have hv:v=k:=by rw [HV.out];exact ixN_at HX.out (by rw [<- HI.out];exact e) HB.out
    have HVV:=zh hv;have he:(i == id)=true:=(by simpa using e);clear hv e;go_wp2_with fail;go_ret;exact ⟨by rw [HVV.out];rfl,rfl⟩
   ·
    have he:(i == id)=false:=by simpa using e
    have HB2 := zh (show ∀ y ∈ L.take (k + 1), y.id ≠ id from fun y hy => by
     rw [HTK.out] at hy
     rcases List.mem_append.1 hy with hy | hy
     · exact HB.out y hy
     · simp at hy;rw [hy,<- HI.out];exact e)
    clear e;go_wp2_with fail;go_round
    case rel=>exact ⟨k+1,by omega,by go_num,HB2⟩
    case measure=>simp [intOf];omega
  ·
   obtain rfl:k=n:=by omega
   have hv:v = -1:=by
    have htk:L.take k=L:=List.take_of_length_le (by rw [HL.out,HN.out];simp [fstN]);have h:=HB.out;rw [htk] at h;rw [HV.out];exact ixN_none h
   have HVV:=zh hv;clear hv;go_wp2_with fail;go_ret;exact ⟨by rw [HVV.out];rfl,rfl⟩
theorem any_take {α:Type} {p:α->Bool} {l:List α} {k:Nat} {x:α} (hx:l[k]?=some x) (hp:p x=true):l.any p=true:=List.any_eq_true.2 ⟨x,List.mem_of_getElem? hx,hp⟩
theorem any_none {α:Type} {p:α->Bool} {l:List α} (h:∀ x ∈ l,p x=false):l.any p=false:=by rw [List.any_eq_false];intro x hx;simp [h x hx]
theorem rabove_any (tg:Int) (A:Option Addr) (c B n:Nat) (M:List Ndm) (w:World) (h:Nds w B A n M) (hs:Small M):∀ (s:Nat) (f:Int),s<=100 ->
  Calls Tryz.prog 72 #[.slice A n c,.int .i64 f,.int .i64 tg,.int .i64 s] w fun e w'=>e=.returned (.bool (aboveN (fstN M) tg s f))/\w=w'
 | s,f,hs100=>by
  have hm:n<=1000000:=(by rw [h.num];exact hs.1);have HFI:=rfind_any f A c B n M w h hm;have HREC:∀ s',s=s'+1 -> ∀ f',Calls Tryz.prog 72 #[.slice A n c,.int .i64 f',.int .i64 tg,.int .i64 s'] w fun e w'=>e=.returned (.bool (aboveN (fstN M) tg s' f'))/\w=w':=fun s' e f'=>rabove_any tg A c B n M w h hs s' f' (by omega);obtain ⟨L,hL⟩:=nm (fstN M);rw [<- hL] at HFI HREC ⊢;have HL:=zh hL;have H:=zh h;have HS:=zh hs;have HREC:=zh HREC;clear hL h hs
  rcases ixN_cases L f with ⟨h1,h2⟩ | ⟨k,x,h1,h2,h3⟩
  ·
   rw [h1] at HFI
   have hv:aboveN L tg s f=false:=by cases s with
    | zero=>rfl
    | succ s=>unfold aboveN;rw [h2]
   rw [hv];have HFI:=zh HFI;clear h1 h2 hv;go_enter Tryz.func72,Tryz.ntmps72;go_wp2_with fail;refine HFI.out.mono ?_;rintro e w1 ⟨rfl,rfl⟩;go_wp2_with fail;go_ret;exact ⟨rfl,rfl⟩
  ·
   rw [h1] at HFI;have HFI:=zh HFI
   cases s with
   | zero =>
    clear h1 h2 h3;have hk1:decide ((k:Int) < 0)=false:=decide_eq_false (by omega);have hv:aboveN L tg 0 f=false:=rfl;rw [hv];clear hv
    show Calls Tryz.prog 72 #[.slice A n c,.int .i64 f,.int .i64 tg,.int .i64 0] w _
    go_enter Tryz.func72,Tryz.ntmps72;go_wp2_with fail;refine HFI.out.mono ?_;rintro e w1 ⟨rfl,rfl⟩;go_wp2_with fail;go_ret;exact ⟨rfl,rfl⟩
   | succ s =>
    have HR:=zh (HREC.out s rfl)
    have hv:aboveN L tg (s+1) f=x.fr.any (fun k=>decide (k=tg) || aboveN L tg s k):=by
     conv=>lhs;unfold aboveN
     rw [h3]
    obtain ⟨vb,hvb⟩:=nm (aboveN L tg (s+1) f);rw [<- hvb];rw [<- hvb] at hv;have HV:=zh hv
    have hkn:k < n:=by
     have:=(List.getElem?_eq_some_iff.1 h2).1;rw [HL.out] at this;simp [fstN] at this;rw [H.out.num];exact this
    obtain ⟨m,hx⟩:∃ m,M[k]?=some m:=⟨_,List.getElem?_eq_getElem (by rw [<- H.out.num];exact hkn)⟩
    have hmx:m.1=x:=by
     have:=h2;rw [HL.out] at this;simp [fstN,hx] at this;exact this
    obtain ⟨b1,o1,rfl,hb1,hc1⟩:=H.out.get hx;have hin:=H.out.inn m (List.mem_of_getElem? hx);have hsm:=HS.out.2 m (List.mem_of_getElem? hx);obtain ⟨x',sf,sp⟩:=m;simp only at hmx hsm;subst hmx;obtain ⟨⟨Af,cf,hf1,hf2⟩,_⟩:=hin;simp only at hf1 hf2;subst hf1;have p2:=hc1 2 _ (ndL_get (x',.slice Af x'.fr.length cf,sp)).2.2.1;obtain ⟨nf,hnf⟩:=nm (x'.fr.length);rw [<- hnf] at p2 hf2;have hnf1:nf<=1000000:=(by rw [hnf];exact hsm.1);have HNF:=zh hnf;have RF:=zh hf2;have hki:(k:Int) < (n:Int):=(by omega);have hk0:(0:Int)<=(k:Int):=(by omega);have hk1:decide ((k:Int) < 0)=false:=decide_eq_false (by omega);have hs1:((s:Int)+1 == 0)=false:=(by simp;omega);have hs2:(0:Int)<=(s:Int):=(by omega);have hs3:(s:Int)<=100:=(by omega);clear hc1 hx h1 h2 h3 hv hvb hsm hnf hf2 hs100 HREC hb1;have hcast:((s+1:Nat):Int)=(s:Int)+1:=(by omega);rw [hcast];clear hcast;go_enter Tryz.func72,Tryz.ntmps72;go_wp2_with fail;refine HFI.out.mono ?_;rintro e w1 ⟨rfl,rfl⟩;go_wp2_with fail;go_loop [10] (fun t=>∃ j:Nat,j<=nf/\t=.int .i64 j/\Hid (∀ y ∈ x'.fr.take j,(decide (y=tg) || aboveN L tg s y)=false)) (fun t=>nf - (intOf t).toNat)
    case atStart=>exact ⟨0,Nat.zero_le _,rfl,zh (by simp)⟩
    case round =>
     obtain ⟨j,hj,rfl,HB⟩:=hrel
     by_cases hjn:j < nf
     ·
      have hji:(j:Int) < (nf:Int):=by omega
      have hj0:(0:Int)<=(j:Int):=(by omega);obtain ⟨b,off,u,rfl,hb,hu,hc⟩:=RF.out.one hjn;obtain ⟨y,hy⟩:∃ y,x'.fr[j]?=some y:=⟨_,List.getElem?_eq_getElem (by rw [<- HNF.out];exact hjn)⟩;rw [List.getElem?_map,hy] at hu;simp at hu;subst hu;have HY:=zh hy;clear hy hb
      by_cases e:y=tg
      ·
       have hv:vb=true:=by rw [HV.out];exact any_take HY.out (by simp [e])
       have H:=zh hv;have he:(y == tg)=true:=(by simpa using e);clear hv e;go_wp2_with fail;go_ret;exact ⟨by rw [H.out];rfl,rfl⟩
      ·
       have he:(y == tg)=false:=by simpa using e
       have HRY:=HR.out y;obtain ⟨ab,hab⟩:=nm (aboveN L tg s y);rw [<- hab] at HRY;have HRY:=zh HRY;have HAB:=zh hab;clear hab
       cases ab with
       | true =>
        have hv:vb=true:=(by rw [HV.out];exact any_take HY.out (by rw [<- HAB.out];simp));have H:=zh hv;clear hv e;go_wp2_with fail;refine HRY.out.mono ?_;rintro e w1 ⟨rfl,rfl⟩;go_wp2_with fail;go_ret;exact ⟨by rw [H.out];rfl,rfl⟩
       | false =>
        have HB2 := zh (show ∀ y ∈ x'.fr.take (j + 1), (decide (y = tg) || aboveN L tg s y) = false from fun z hz => by
         rw [List.take_add_one,HY.out] at hz
         rcases List.mem_append.1 hz with hz | hz
         · exact HB.out z hz
         · simp at hz;rw [hz,<- HAB.out];simp [e])
        clear e;go_wp2_with fail;refine HRY.out.mono ?_;rintro e w1 ⟨rfl,rfl⟩;go_wp2_with fail;go_round
        case rel=>exact ⟨j+1,by omega,by go_num,HB2⟩
        case measure=>simp [intOf];omega
     ·
      obtain rfl:j=nf:=by omega
      have hv:vb=false:=by
       have htk:x'.fr.take j=x'.fr:=List.take_of_length_le (by rw [HNF.out];exact Nat.le_refl _);have h:=HB.out;rw [htk] at h;rw [HV.out];exact any_none h
      have H:=zh hv;clear hv;go_wp2_with fail;go_ret;exact ⟨by rw [H.out];rfl,rfl⟩
def rngI (k:Nat):List Int:=(List.range k).map fun (i:Nat)=>(i:Int)
theorem rngI_succ (k:Nat):rngI (k+1)=rngI k ++ [(k:Int)]:=by unfold rngI;rw [List.range_succ,List.map_append];rfl
theorem filt_len (p:Int->Bool) (k:Nat):((rngI k).filter p).length<=k:=Nat.le_trans (List.length_filter_le _ _) (by simp [rngI])
def childR (L:List Nd) (id:Int):List Int:=(rngI 8).filter fun n=>hasI (getN L n).fr id
theorem getN_some {L:List Nd} {id:Int} {x:Nd} (h:findN L id=some x):getN L id=x:=by unfold getN;rw [h];rfl
theorem getN_none {L:List Nd} {id:Int} (h:findN L id=none):getN L id=zNd:=by unfold getN;rw [h];rfl
theorem filt_yes {p:Int->Bool} {k:Nat} (h:p k=true):(rngI (k+1)).filter p=(rngI k).filter p ++ [(k:Int)]:=by rw [rngI_succ,List.filter_append];simp [h]
theorem filt_no {p:Int->Bool} {k:Nat} (h:p k=false):(rngI (k+1)).filter p=(rngI k).filter p:=by rw [rngI_succ,List.filter_append];simp [h]
structure FltJ (p:Int->Bool) (w wr:World) (k:Nat) (A':Option Addr) (q c':Nat):Prop where
 fr:Fr w.heap.size [] w wr
 own:wr.ownsRow w.heap.size 3 1 (.slice A' q c') q (((rngI k).filter p).map (Value.int .i64))
 len:q=((rngI k).filter p).length
theorem FltJ.stay {p:Int->Bool} {w wr:World} {k:Nat} {A':Option Addr} {q c':Nat} (h:FltJ p w wr k A' q c') (hp:p k=false):FltJ p w wr (k+1) A' q c' :=
 ⟨h.fr,by rw [filt_no hp];exact h.own,by rw [filt_no hp];exact h.len⟩
theorem FltJ.more {p:Int->Bool} {w w3 w4:World} {k:Nat} {A' A3:Option Addr} {q c' c3:Nat} {news:Array Value} (h:FltJ p w w3 k A' q c') (hp:p k=true)
  (ho:w4.ownsRow w.heap.size 3 1 (.slice A3 (q+1) c3) (q+1) (((rngI k).filter p).map (Value.int .i64) ++ [Value.int .i64 k])) (hg:(w3.alloc (.cells news 3)).grownBy w4 (Value.ownBlock (.slice A' q c'))):FltJ p w w4 (k+1) A3 (q+1) c3:=by
 refine ⟨h.fr.trans (Fr.of_app hg h.own h.fr.size),?_,?_⟩
 · rw [filt_yes hp,List.map_append];exact ho
 · rw [filt_yes hp,List.length_append,<- h.len];rfl
theorem rchild_any (id:Int) (A:Option Addr) (c B n:Nat) (M:List Ndm) (w:World) (h:Nds w B A n M) (hB:B<=w.heap.size) (hs:Small M) :
  Calls Tryz.prog 62 #[.slice A n c,.int .i64 id] w (IntsOut (childR (fstN M) id) w):=by
 obtain ⟨L,hL⟩:=nm (fstN M);have HL:=zh hL;have H:=zh h;have HS:=zh hs;have hm:n<=1000000:=(by rw [h.num];exact hs.1);rw [<- hL];obtain ⟨p,hp⟩:∃ p:Int->Bool,p=fun n=>hasI (getN L n).fr id:=⟨_,rfl⟩;have HP:=zh hp;have HR:=zh (show childR L id=(rngI 8).filter p by rw [hp];rfl);have HJ:=zh (show FltJ p w (w.alloc (.cells #[] 3)) 0 (some ⟨w.heap.size,0,none⟩) 0 0 from ⟨(Fr.refl w.heap.size [] w).alloc (Nat.le_refl _) _,iowns_empty w,rfl⟩);clear hL h hs hp;go_enter Tryz.func62,Tryz.ntmps62;go_wp2_with fail;generalize w.alloc (.cells #[] 3)=w1 at *;go_loopg [5,6] 8 (fun g s5 s6 wr=>∃ (k:Nat) (A':Option Addr) (q c':Nat),k<=8/\g=8 - k/\s6=.int .i64 k/\s5=.slice A' q c'/\Hid (FltJ p w wr k A' q c'))
 case atStart=>exact ⟨0,_,0,0,Nat.zero_le _,rfl,rfl,rfl,HJ⟩
 case round =>
  obtain ⟨k,A',q,c',hk,rfl,rfl,rfl,HJ⟩:=hrel;have hq8:q<=8:=(by have h1:=HJ.out.len;have h2:=filt_len p k;omega)
  by_cases hkn:k < 8
  ·
   have hki:(k:Int) < 8:=by omega
   have hk0:(0:Int)<=(k:Int):=(by omega);have HND:=H.out.frw HJ.out.fr hB (by simp);have HFI:=rfind_any k A c B n M wr HND hm;rw [<- HL.out] at HFI
   rcases ixN_cases L k with ⟨h1,h2⟩ | ⟨i,x,h1,h2,h3⟩
   ·
    rw [h1] at HFI;have HFI:=zh HFI;have HJ2:=zh (HJ.out.stay (by rw [HP.out];simp only;rw [getN_none h2];rfl));clear h1 h2 HND;go_wp2_with fail;refine HFI.out.mono ?_;rintro e w2 ⟨rfl,rfl⟩;go_wp2_with fail;go_roundg (8 - (k+1))
    case measure=>omega
    case rel=>exact ⟨k+1,A',q,c',by omega,rfl,by go_num,rfl,HJ2⟩
   ·
    rw [h1] at HFI;have HFI:=zh HFI
    have hin:i < n:=by
     have:=(List.getElem?_eq_some_iff.1 h2).1;rw [HL.out] at this;simp [fstN] at this;rw [H.out.num];exact this
    obtain ⟨m,hx⟩:∃ m,M[i]?=some m:=⟨_,List.getElem?_eq_getElem (by rw [<- H.out.num];exact hin)⟩
    have hmx:m.1=x:=by
     have:=h2;rw [HL.out] at this;simp [fstN,hx] at this;exact this
    obtain ⟨b1,o1,rfl,hb1,hc1⟩:=HND.get hx;have hinn:=HND.inn m (List.mem_of_getElem? hx);have hsm:=HS.out.2 m (List.mem_of_getElem? hx);obtain ⟨x',sf,sp⟩:=m;simp only at hmx hsm;subst hmx;obtain ⟨⟨Af,cf,hf1,hf2⟩,_⟩:=hinn;simp only at hf1 hf2;subst hf1;have p2:=hc1 2 _ (ndL_get (x',.slice Af x'.fr.length cf,sp)).2.2.1;have HH:=rhas_any id Af cf B x'.fr.length x'.fr wr rfl hsm.1 hf2;obtain ⟨nf,hnf⟩:=nm (x'.fr.length);obtain ⟨pb,hpb⟩:=nm (hasI x'.fr id);rw [<- hnf] at p2 HH;rw [<- hpb] at HH;have HPB:=zh (show p k=pb by rw [HP.out,hpb];simp only;rw [getN_some h3]);have HH:=zh HH;have hki:(i:Int) < (n:Int):=(by omega);have hk0:(0:Int)<=(i:Int):=(by omega);clear hc1 hx h1 h2 h3 hsm hnf hf2 hb1 hpb HND
    cases pb with
    | false =>
     have HJ2:=zh (HJ.out.stay HPB.out);go_wp2_with fail;refine HFI.out.mono ?_;rintro e w2 ⟨rfl,rfl⟩;go_wp2_with fail;refine HH.out.mono ?_;rintro e w2 ⟨rfl,rfl⟩;go_wp2_with fail;go_roundg (8 - (k+1))
     case measure=>omega
     case rel=>exact ⟨k+1,A',q,c',by omega,rfl,by go_num,rfl,HJ2⟩
    | true =>
     go_wp2_with fail;refine HFI.out.mono ?_;rintro e w2 ⟨rfl,rfl⟩;go_wp2_with fail;refine HH.out.mono ?_;rintro e w2 ⟨rfl,rfl⟩;have hown:=HJ.out.own;have hsz:=HJ.out.fr.size;go_wp2_with (at_builtin;refine wpList_app_lit _ rfl (.tmp 27) (.tmp 29) intsTy rfl w.heap.size (.slice A' q c') q _ rfl hown 1 1 _ rfl rfl (by simp [Value.oneCell']) (by omega) (by omega) hsz ?_;intro A3 c3 w4 hown4 hg4 hat4);have HJ5:=zh (HJ.out.more HPB.out hown4 hg4);clear hown4 hg4 hat4 hown;go_roundg (8 - (k+1))
     case measure=>omega
     case rel=>exact ⟨k+1,A3,q+1,c3,by omega,rfl,by go_num,rfl,HJ5⟩
  ·
   obtain rfl:k=8:=by omega
   go_wp2_with fail;go_ret;unfold IntsOut;rw [HR.out];exact ⟨A',c',q,HJ.out.len,rfl,HJ.out.own,HJ.out.fr⟩
end Go.Proofs.YtlejomlppjpchaaGreat
namespace Go.Proofs.YtlejomlppjpchaaGreat
set_option maxRecDepth 100000
set_option maxHeartbeats 16000000
set_option linter.unusedVariables false
theorem getN_fr {L:List Nd} (hu:(idsN L).Nodup) {n:Nd} (hn:n ∈ L):getN L n.id=n:=getN_some (findN_one hu hn)
theorem posI_lt {l:List Int} {x:Int} (h:x ∈ l):posI l x < l.length:=(List.getElem?_eq_some_iff.1 (posI_get h)).1
theorem rngI_mem {k:Nat} {x:Int}:x ∈ rngI k ↔ 0<=x/\x < k:=by
 unfold rngI;rw [List.mem_map];constructor
 · rintro ⟨i,hi,rfl⟩;have:=List.mem_range.1 hi;omega
 · rintro ⟨h1,h2⟩;exact ⟨x.toNat,List.mem_range.2 (by omega),by omega⟩
theorem rngI_rises (k:Nat):(rngI k).Pairwise (· < ·):=by
 unfold rngI;rw [List.pairwise_map];exact List.pairwise_lt_range.imp fun h=>by omega
theorem ids_in {L:List Nd} (h:RightG L) {x:Int} (hx:x ∈ idsN L):0<=x/\x < 8:=by
 obtain ⟨n,hn,e⟩:=List.mem_map.1 hx;have:=nodeB_iff.1 (h.each n hn);rw [<- e];exact ⟨this.1,this.2.1⟩
theorem child_right {L:List Nd} (h:RightG L) (id:Int):childN L id=childR L id:=by
 refine rises_eq (childN_rises L id) ((rngI_rises 8).filter _) fun x => ?_;unfold childR;rw [childN_mem,List.mem_filter,rngI_mem];constructor
 · rintro ⟨n,hn,rfl,hf⟩;have:=ids_in h (List.mem_map.2 ⟨n,hn,rfl⟩);exact ⟨⟨by omega,by omega⟩,by rw [getN_fr h.uni hn];exact hasI_iff.2 hf⟩
 ·
  rintro ⟨_,h2⟩;have h3:=hasI_iff.1 h2
  cases hf:findN L x with
  | none=>rw [getN_none hf] at h3;simp [zNd] at h3
  | some n =>
   rw [getN_some hf] at h3;exact ⟨n,findN_mem hf,findN_id hf,h3⟩
def getD:List (Int × Nat)->Int->Nat
 | [],_=>0
 | e :: E,x=>if e.1=x then e.2 else getD E x
theorem nodup_subG {α:Type} [DecidableEq α]:∀ {a b:List α},a.Nodup->(∀ x ∈ a,x ∈ b)->a.length<=b.length
 | [],_,_,_=>by simp
 | x :: a,b,h,hs=>by
  obtain ⟨h1,h2⟩:=List.nodup_cons.1 h;have hx:=hs x (by simp)
  have:=nodup_subG (a:=a) (b:=b.erase x) h2 fun y hy=>by
   have hne:y ≠ x:=fun e=>h1 (e ▸ hy);exact (List.mem_erase_of_ne hne).2 (hs y (by simp [hy]))
  rw [List.length_erase_of_mem hx] at this;have:=List.length_pos_of_mem hx;simp only [List.length_cons];omega
end Go.Proofs.YtlejomlppjpchaaGreat
namespace Go.Proofs.YtlejomlppjpchaaGreat
open Go.RowKit Go.Fb
set_option maxRecDepth 100000
set_option maxHeartbeats 16000000
set_option linter.unusedVariables false
theorem ins_ne (a b c d:Int) (w:World):(binOp .neq 217 (.agg #[.int .i64 a,.int .i64 b]) (.agg #[.int .i64 c,.int .i64 d])).run Tryz.prog w=.ok (.bool (decide ((a,b) ≠ (c,d)))) w:=by
 have h:(Op.equalIn 10000 217 (.agg #[.int .i64 a,.int .i64 b]) (.agg #[.int .i64 c,.int .i64 d])).run Tryz.prog w=.ok (decide ((a,b)=(c,d))) w:=by
  rw [run_equalIn_struct w 9999 217 _ _ (by kernel_rfl) (by kernel_rfl)]
  by_cases e1:a=c
  ·
   subst e1
   by_cases e2:b=d
   · subst e2;simp [Program.fieldsOf,Tryz.underlying217,Op.eqFields,part,isAgg,run_underlying Tryz.underlying3,run_equalIn_int w 9998 3 .i64 .i64 _ _ Tryz.underlying3]
   ·
    have h2:(b == d)=false:=by simpa using e2
    simp [Program.fieldsOf,Tryz.underlying217,Op.eqFields,part,isAgg,run_underlying Tryz.underlying3,run_equalIn_int w 9998 3 .i64 .i64 _ _ Tryz.underlying3,e2]
  ·
   have h1:(a == c)=false:=by simpa using e1
   simp [Program.fieldsOf,Tryz.underlying217,Op.eqFields,part,isAgg,run_underlying Tryz.underlying3,run_equalIn_int w 9998 3 .i64 .i64 _ _ Tryz.underlying3,e1]
 by_cases e:(a,b)=(c,d)
 · rw [decide_eq_true e] at h;simp [binOp,Op.equal,Op.maxDepth,h,e]
 · rw [decide_eq_false e] at h;simp only [binOp,Op.equal,Op.maxDepth,Sem.run_bind,h,Result.andThen_ok];rw [decide_eq_true e];rfl
theorem rpsame_any (A A2:Option Addr) (c c2 B n n2:Nat) (l l2:List (Int × Int)) (w:World) (hn:n=l.length) (hn2:n2=l2.length) (hm:n<=1000000) (hm2:n2<=1000000) (hr:Reads w B 2 A n (cellsI l)) (hr2:Reads w B 2 A2 n2 (cellsI l2)) :
  Calls Tryz.prog 104 #[.slice A n c,.slice A2 n2 c2] w fun e w'=>e=.returned (.bool (decide (l=l2)))/\Fr w.heap.size [] w w':=by
 have HR:=zh hr;have HR2:=zh hr2;have HN:=zh hn;have HN2:=zh hn2;obtain ⟨vb,hvb⟩:=nm (decide (l=l2));rw [<- hvb];have HV:=zh hvb;clear hr hn hr2 hn2 hvb
 by_cases hne:n=n2
 ·
  subst hne;go_enter Tryz.func104,Tryz.ntmps104;go_wp2_with fail;go_loopw [5] (fun s wr=>∃ k:Nat,k<=n/\s=.int .i64 k/\Hid (∀ j,j < k->l[j]?=l2[j]?)/\Hid (Fr w.heap.size [] w wr)/\Hid (∃ d,wr=w.drewN d)) (fun s _=>n - (intOf s).toNat)
  case atStart=>exact ⟨0,Nat.zero_le _,rfl,zh (fun j h=>absurd h (Nat.not_lt_zero _)),zh (Fr.refl _ _ _),zh ⟨0,rfl⟩⟩
  case round =>
   obtain ⟨k,hk,rfl,HB,HF,HD⟩:=hrel
   by_cases hkn:k < n
   ·
    have hki:(k:Int) < (n:Int):=by omega
    have hk0:(0:Int)<=(k:Int):=(by omega);obtain ⟨x,hx⟩:∃ x,l[k]?=some x:=⟨_,List.getElem?_eq_getElem (by rw [<- HN.out];exact hkn)⟩;obtain ⟨y,hy⟩:∃ x,l2[k]?=some x:=⟨_,List.getElem?_eq_getElem (by rw [<- HN2.out];exact hkn)⟩;obtain ⟨b,off,rfl,hb,hc⟩:=HR.out.2 (by omega);obtain ⟨b2,off2,rfl,hb2,hc2⟩:=HR2.out.2 (by omega);obtain ⟨g0,g1⟩:=cellsI_get hx;obtain ⟨g2,g3⟩:=cellsI_get hy;have c0:wr.cell? ⟨b,off+k * 2,none⟩=some (.int .i64 x.1):=(by obtain ⟨d,hd⟩:=HD.out;rw [hd];exact hc _ _ g0);have c1:wr.cell? ⟨b,off+k * 2+1,none⟩=some (.int .i64 x.2):=(by obtain ⟨d,hd⟩:=HD.out;rw [hd];exact hc _ _ g1);have c2:wr.cell? ⟨b2,off2+k * 2,none⟩=some (.int .i64 y.1):=(by obtain ⟨d,hd⟩:=HD.out;rw [hd];exact hc2 _ _ g2);have c3:wr.cell? ⟨b2,off2+k * 2+1,none⟩=some (.int .i64 y.2):=(by obtain ⟨d,hd⟩:=HD.out;rw [hd];exact hc2 _ _ g3);clear hc hc2 g0 g1 g2 g3;obtain ⟨xo,xa⟩:=x;obtain ⟨yo,ya⟩:=y;simp only at c0 c1 c2 c3;have HX:=zh hx;have HY:=zh hy;clear hx hy
    by_cases e:(xo,xa)=(yo,ya)
    ·
     have he:∀ w:World,(binOp .neq 217 (.agg #[.int .i64 xo,.int .i64 xa]) (.agg #[.int .i64 yo,.int .i64 ya])).run Tryz.prog w=.ok (.bool false) w:=by
      intro w;rw [ins_ne,decide_eq_false (fun h=>h e)]
     have HB2 := zh (show ∀ j, j < k + 1 -> l[j]? = l2[j]? from fun j hj => by
      by_cases e2:j=k
      · subst e2;rw [HX.out,HY.out,e]
      · exact HB.out j (by omega))
     clear e;go_wp2_with fail;go_quiet (fail);go_wp2_with fail;go_roundw
     case rel=>exact ⟨k+1,by omega,by go_num,HB2,zh (HF.out.drewN _),zh (by obtain ⟨d,hd⟩:=HD.out;rw [hd];exact ⟨_,World.drewN_drewN _ _ _⟩)⟩
     case measure=>simp [intOf];omega
    ·
     have he:∀ w:World,(binOp .neq 217 (.agg #[.int .i64 xo,.int .i64 xa]) (.agg #[.int .i64 yo,.int .i64 ya])).run Tryz.prog w=.ok (.bool true) w:=by
      intro w;rw [ins_ne,decide_eq_true e]
     have hv:vb=false:=by
      rw [HV.out];refine decide_eq_false fun h=>e ?_;have:=HX.out;rw [h,HY.out] at this;injection this with this
      exact this.symm
     have H:=zh hv;clear hv e;go_wp2_with fail;go_quiet (fail);go_wp2_with fail;go_ret;exact ⟨by rw [H.out];rfl,HF.out.drewN _⟩
   ·
    obtain rfl:k=n:=by omega
    have hv:vb=true:=by
     rw [HV.out];refine decide_eq_true (List.ext_getElem? fun j => ?_)
     by_cases hj:j < k
     · exact HB.out j hj
     · rw [List.getElem?_eq_none (by rw [<- HN.out];omega),List.getElem?_eq_none (by rw [<- HN2.out];omega)]
    have H:=zh hv;clear hv;go_wp2_with fail;go_ret;exact ⟨by rw [H.out];rfl,HF.out⟩
 ·
  have hv:vb=false:=by
   rw [HV.out];refine decide_eq_false fun h=>hne ?_;rw [HN.out,HN2.out,h]
  have H:=zh hv;have he:((n:Int) != (n2:Int))=true:=(by simp;omega);clear hv;go_enter Tryz.func104,Tryz.ntmps104;go_wp2_with fail;go_ret;exact ⟨by rw [H.out];rfl,Fr.refl _ _ _⟩
def rt8B (r s:Nat->Int):Bool:=(List.range 8).all fun j=>r j == s j
def sameNd (x y:Nd):Bool:=decide (x.id=y.id) && (decide (x.kind=y.kind) && (decide (x.par=y.par) && (rt8B x.rt y.rt && (decide (x.fr=y.fr) && decide (x.pg=y.pg)))))
theorem eql8 (r s:Nat->Int) (w:World):(binOp .eql 81 (A8 r) (A8 s)).run Tryz.prog w=.ok (.bool (rt8B r s)) w:=by
 simp only [binOp,Op.equal,Op.maxDepth,Sem.run_bind,eq8,Result.andThen_ok];rfl

theorem rnode_any (x y:Nd) (sf sp tf tp:Value) (B:Nat) (w:World) (h:NdIn w B (x,sf,sp)) (h':NdIn w B (y,tf,tp)) (hB:B<=w.heap.size) (h1:x.fr.length<=1000000/\x.pg.length<=1000000) (h2:y.fr.length<=1000000/\y.pg.length<=1000000) :
  Calls Tryz.prog 59 #[.agg (ndA x sf sp),.agg (ndA y tf tp)] w fun e w'=>e=.returned (.bool (sameNd x y))/\Fr w.heap.size [] w w':=by
 obtain ⟨⟨Af,cf,hf1,hf2⟩,⟨Ap,cp,hp1,hp2⟩⟩:=h;obtain ⟨⟨Bf,df,kf1,kf2⟩,⟨Bp,dp,kp1,kp2⟩⟩:=h';simp only at hf1 hf2 hp1 hp2 kf1 kf2 kp1 kp2;subst hf1;subst hp1;subst kf1;subst kp1;have HFR:=fun (wx:World) (hx:Fr w.heap.size [] w wx)=>And.intro (hf2.fr hx hB (by simp)) (kf2.fr hx hB (by simp));have HPG:=fun (wx:World) (hx:Fr w.heap.size [] w wx)=>rpsame_any Ap Bp cp dp B x.pg.length y.pg.length x.pg y.pg wx rfl rfl h1.2 h2.2 (hp2.fr hx hB (by simp)) (kp2.fr hx hB (by simp));obtain ⟨nf,hnf⟩:=nm (x.fr.length);obtain ⟨np,hnp⟩:=nm (x.pg.length);obtain ⟨mf,hmf⟩:=nm (y.fr.length);obtain ⟨mp,hmp⟩:=nm (y.pg.length);obtain ⟨fb,hfb⟩:=nm (decide (x.fr=y.fr));obtain ⟨pb,hpb⟩:=nm (decide (x.pg=y.pg));obtain ⟨rb,hrb⟩:=nm (rt8B x.rt y.rt);obtain ⟨vb,hvb⟩:=nm (sameNd x y);rw [<- hnf,<- hmf] at HFR;rw [<- hnp,<- hmp,<- hpb] at HPG;rw [<- hnf,<- hmf,<- hnp,<- hmp,<- hvb];have HV:=zh (show vb=(decide (x.id=y.id) && (decide (x.kind=y.kind) && (decide (x.par=y.par) && (rb && (fb && pb))))) by rw [hvb,hrb,hfb,hpb];rfl);have HFB:=zh hfb;have HNF:=zh hnf;have HMF:=zh hmf;have hnf1:nf<=1000000:=(by rw [hnf];exact h1.1);have hmf1:mf<=1000000:=(by rw [hmf];exact h2.1);have hq8:=fun w=>eql8 x.rt y.rt w;rw [<- hrb] at hq8;have HFR:=zh HFR;have HPG:=zh HPG;have BX:=zh ((Blk.new w 83 (ndA x (.slice Af nf cf) (.slice Ap np cp))).alloc (.cells (ndA y (.slice Bf mf df) (.slice Bp mp dp)) 83));have BY0:=Blk.new (w.alloc (.cells (ndA x (.slice Af nf cf) (.slice Ap np cp)) 83)) 83 (ndA y (.slice Bf mf df) (.slice Bp mp dp));rw [World.size_alloc] at BY0;have BY:=zh BY0;have F1:=zh (((Fr.refl w.heap.size [] w).alloc (Nat.le_refl _) (.cells (ndA x (.slice Af nf cf) (.slice Ap np cp)) 83)).alloc (by simp) (.cells (ndA y (.slice Bf mf df) (.slice Bp mp dp)) 83));clear BY0 hf2 hp2 kf2 kp2 hnf hnp hmf hmp hfb hpb hrb hvb h1 h2;go_enter Tryz.func59,Tryz.ntmps59;go_upto_region 1 with fail;generalize (w.alloc _).alloc _=w1 at *
 by_cases hne:nf=mf
 case neg =>
  have a2:=BX.out.cell 2;have b2:=BY.out.cell 2;simp at a2 b2
  have hv:vb=false:=by
   have:fb=false:=(by rw [HFB.out];exact decide_eq_false fun h=>hne (by rw [HNF.out,HMF.out,h]));rw [HV.out,this];simp
  have H:=zh hv;have he:((nf:Int) != (mf:Int))=true:=(by simp;omega);clear hv;go_wp2_with fail;go_ret;exact ⟨by rw [H.out];rfl,F1.out⟩
 subst hne;have a2:=BX.out.cell 2;have b2:=BY.out.cell 2;simp at a2 b2;go_wp2_with fail;go_loopg [5] nf (fun g s5 wr=>∃ k:Nat,k<=nf/\g=nf - k/\s5=.int .i64 k/\Hid (∀ j,j < k->x.fr[j]?=y.fr[j]?)/\Hid (Fr w.heap.size [] w wr)/\Hid (Blk wr w.heap.size 83 (ndA x (.slice Af nf cf) (.slice Ap np cp)))/\Hid (Blk wr (w.heap.size+1) 83 (ndA y (.slice Bf nf df) (.slice Bp mp dp))))
 case atStart=>exact ⟨0,Nat.zero_le _,rfl,rfl,zh (fun j h=>absurd h (Nat.not_lt_zero _)),F1,BX,BY⟩
 case round =>
  obtain ⟨k,hk,rfl,rfl,HB,F1,BX,BY⟩:=hrel
  by_cases hkn:k < nf
  ·
   have hki:(k:Int) < (nf:Int):=by omega
   have hk0:(0:Int)<=(k:Int):=(by omega);obtain ⟨r1,r2⟩:=HFR.out wr F1.out;obtain ⟨c1,o1,u1,rfl,hc1,hu1,hcc1⟩:=r1.one hkn;obtain ⟨c2,o2,u2,rfl,hc2,hu2,hcc2⟩:=r2.one hkn;obtain ⟨u,hx⟩:∃ u,x.fr[k]?=some u:=⟨_,List.getElem?_eq_getElem (by rw [<- HNF.out];exact hkn)⟩;obtain ⟨v,hy⟩:∃ v,y.fr[k]?=some v:=⟨_,List.getElem?_eq_getElem (by rw [<- HMF.out];exact hkn)⟩;rw [List.getElem?_map,hx] at hu1;rw [List.getElem?_map,hy] at hu2;simp at hu1 hu2;subst hu1;subst hu2;have HX:=zh hx;have HY:=zh hy;have a2:=BX.out.cell 2;have b2:=BY.out.cell 2;simp at a2 b2;clear hx hy r1 r2 hc1 hc2
   by_cases e:u=v
   ·
    have he:(u != v)=false:=by simpa using e
    have HB2 := zh (show ∀ j, j < k + 1 -> x.fr[j]? = y.fr[j]? from fun j hj => by
     by_cases e2:j=k
     · subst e2;rw [HX.out,HY.out,e]
     · exact HB.out j (by omega))
    clear e;go_wp2_with fail;go_quiet (fail);go_wp2_with fail;go_roundg (nf - (k+1))
    case measure=>omega
    case rel=>exact ⟨k+1,by omega,rfl,by go_num,HB2,zh (F1.out.drewN _),zh (BX.out.drewN _),zh (BY.out.drewN _)⟩
   ·
    have he:(u != v)=true:=by simpa using e
    have hv:vb=false:=by
     have:fb=false:=by
      rw [HFB.out];refine decide_eq_false fun h=>e ?_;have:=HX.out;rw [h,HY.out] at this;injection this with this
      exact this.symm
     rw [HV.out,this];simp
    have H:=zh hv;clear hv e;go_wp2_with fail;go_quiet (fail);go_wp2_with fail;go_ret;exact ⟨by rw [H.out];rfl,F1.out.drewN _⟩
  ·
   obtain rfl:k=nf:=by omega
   have hfb:fb=true:=by
    rw [HFB.out];refine decide_eq_true (List.ext_getElem? fun j => ?_)
    by_cases hj:j < k
    · exact HB.out j hj
    · rw [List.getElem?_eq_none (by rw [<- HNF.out];omega),List.getElem?_eq_none (by rw [<- HMF.out];omega)]
   subst hfb;clear a2 b2;have a0:=BX.out.cell 0;have a1:=BX.out.cell 1;have a2:=BX.out.cell 2;have a3:=BX.out.cell 3;have a4:=BX.out.cell 4;have a5:=BX.out.cell 5;have a6:=BX.out.cell 6;have a7:=BX.out.cell 7;have a8:=BX.out.cell 8;have a9:=BX.out.cell 9;have a10:=BX.out.cell 10;have a11:=BX.out.cell 11;have a12:=BX.out.cell 12;simp at a0 a1 a2 a3 a4 a5 a6 a7 a8 a9 a10 a11 a12;have b0:=BY.out.cell 0;have b1:=BY.out.cell 1;have b2:=BY.out.cell 2;have b3:=BY.out.cell 3;have b4:=BY.out.cell 4;have b5:=BY.out.cell 5;have b6:=BY.out.cell 6;have b7:=BY.out.cell 7;have b8:=BY.out.cell 8;have b9:=BY.out.cell 9;have b10:=BY.out.cell 10;have b11:=BY.out.cell 11;have b12:=BY.out.cell 12;simp at b0 b1 b2 b3 b4 b5 b6 b7 b8 b9 b10 b11 b12
   by_cases e0:x.id=y.id
   case neg =>
    have hv:vb=false:=(by rw [HV.out,decide_eq_false e0];rfl);have H:=zh hv;have he:(x.id == y.id)=false:=(by simpa using e0);clear hv HV e0;go_wp2_with fail;go_ret;exact ⟨by rw [H.out];rfl,F1.out⟩
   by_cases e1:x.kind=y.kind
   case neg =>
    have hv:vb=false:=(by rw [HV.out,decide_eq_false e1];simp);have H:=zh hv;have he:(x.id == y.id)=true:=(by simpa using e0);have he1:(x.kind == y.kind)=false:=(by simpa using e1);clear hv HV e0 e1;go_wp2_with fail;go_ret;exact ⟨by rw [H.out];rfl,F1.out⟩
   by_cases e2:x.par=y.par
   case neg =>
    have hv:vb=false:=(by rw [HV.out,decide_eq_false e2];simp);have H:=zh hv;have he:(x.id == y.id)=true:=(by simpa using e0);have he1:(x.kind == y.kind)=true:=(by simpa using e1);have he2:(x.par == y.par)=false:=(by simpa using e2);clear hv HV e0 e1 e2;go_wp2_with fail;go_ret;exact ⟨by rw [H.out];rfl,F1.out⟩
   have hv:vb=(rb && pb):=(by rw [HV.out,decide_eq_true e0,decide_eq_true e1,decide_eq_true e2];simp);have H:=zh hv;have he:(x.id == y.id)=true:=(by simpa using e0);have he1:(x.kind == y.kind)=true:=(by simpa using e1);have he2:(x.par == y.par)=true:=(by simpa using e2);clear hv HV e0 e1 e2
   cases rb with
   | false =>
    have hv:vb=false:=(by rw [H.out];rfl);have H:=zh hv;clear hv;go_wp2_with fail;go_ret;exact ⟨by rw [H.out];rfl,F1.out⟩
   | true =>
    have hv:vb=pb:=(by rw [H.out];rfl);have H:=zh hv;clear hv;go_wp2_with fail;refine (HPG.out _ F1.out).mono ?_;rintro e w3 ⟨rfl,f3⟩;have F3:=zh (F1.out.nx f3);clear f3;go_wp2_with fail;go_ret;exact ⟨by rw [H.out];rfl,F3.out⟩
def rsame1 (K:List Nd) (x:Nd):Bool:=match findN K x.id with
 | none=>false
 | some y=>sameNd x y
def rsameL (L K:List Nd):Bool:=decide (L.length=K.length) && L.all (rsame1 K)
theorem rsame_any (A A2:Option Addr) (c c2 B n n2:Nat) (M K:List Ndm) (w:World) (h:Nds w B A n M) (h2:Nds w B A2 n2 K) (hB:B<=w.heap.size) (hs:Small M) (hs2:Small K) :
  Calls Tryz.prog 18 #[.slice A n c,.slice A2 n2 c2] w fun e w'=>e=.returned (.bool (rsameL (fstN M) (fstN K)))/\Fr w.heap.size [] w w':=by
 have H:=zh h;have H2:=zh h2;have HS:=zh hs;have HS2:=zh hs2;have hm:n<=1000000:=(by rw [h.num];exact hs.1);have hm2:n2<=1000000:=(by rw [h2.num];exact hs2.1);obtain ⟨vb,hvb⟩:=nm (rsameL (fstN M) (fstN K));rw [<- hvb];have HV:=zh hvb;clear h h2 hs hs2 hvb
 by_cases hne:n=n2
 case neg =>
  have hv:vb=false:=by
   rw [HV.out,rsameL];have h1:=H.out.num;have h2:=H2.out.num;rw [decide_eq_false (by simp [fstN];omega)];rfl
  have HVV:=zh hv;have he:((n:Int) != (n2:Int))=true:=(by simp;omega);clear hv;go_enter Tryz.func18,Tryz.ntmps18;go_wp2_with fail;go_ret;exact ⟨by rw [HVV.out];rfl,Fr.refl _ _ _⟩
 subst hne
 have HVA := zh (show vb = (fstN M).all (rsame1 (fstN K)) by
  rw [HV.out,rsameL];have h1:=H.out.num;have h2:=H2.out.num
  rw [decide_eq_true (by simp [fstN];omega)];rfl)
 go_enter Tryz.func18,Tryz.ntmps18;go_wp2_with fail;go_loopg [5] n (fun g s5 wr=>∃ k:Nat,k<=n/\g=n - k/\s5=.int .i64 k/\Hid (∀ x ∈ (fstN M).take k,rsame1 (fstN K) x=true)/\Hid (Fr w.heap.size [] w wr))
 case atStart=>exact ⟨0,Nat.zero_le _,rfl,rfl,zh (by simp),zh (Fr.refl _ _ _)⟩
 case round =>
  obtain ⟨k,hk,rfl,rfl,HB,FR⟩:=hrel
  by_cases hkn:k < n
  ·
   have hki:(k:Int) < (n:Int):=by omega
   have hk0:(0:Int)<=(k:Int):=(by omega);obtain ⟨m,hx⟩:∃ m,M[k]?=some m:=⟨_,List.getElem?_eq_getElem (by rw [<- H.out.num];exact hkn)⟩;have HND:=H.out.frw FR.out hB (by simp);have HND2:=H2.out.frw FR.out hB (by simp);obtain ⟨b1,o1,rfl,hb1,hc1⟩:=HND.get hx;have hin:=HND.inn m (List.mem_of_getElem? hx);have hsm:=HS.out.2 m (List.mem_of_getElem? hx);have HX:=zh (show (fstN M)[k]?=some m.1 by simp [fstN,hx]);have HTK:=zh (fst_take hx);obtain ⟨x,sf,sp⟩:=m;simp only at hsm HX HTK;have HFI:=rfind_any x.id A2 c2 B n K wr HND2 hm
   have hbad:rsame1 (fstN K) x=false->vb=false:=fun h=>by
    rw [HVA.out,List.all_eq_false];exact ⟨x,List.mem_of_getElem? HX.out,by simp [h]⟩
   have HBAD:=zh hbad
   have HGO := zh (fun (h : rsame1 (fstN K) x = true) => (fun y hy => by
    rw [HTK.out] at hy
    rcases List.mem_append.1 hy with hy | hy
    · exact HB.out y hy
    · rw [List.mem_singleton.1 hy];exact h:∀ y ∈ (fstN M).take (k+1),rsame1 (fstN K) y=true))
   clear hbad;have hBr:B<=wr.heap.size:=Nat.le_trans hB FR.out.size;obtain ⟨⟨Af,cf,hf1,_⟩,⟨Ap,cp,hp1,_⟩⟩:=id hin;simp only at hf1 hp1;subst hf1;subst hp1;obtain ⟨g0,g1,g2,g3,g4,g5,g6,g7,g8,g9,g10,g11,g12⟩:=ndL_get (x,.slice Af x.fr.length cf,.slice Ap x.pg.length cp);have p0:=hc1 0 _ g0;have p1:=hc1 1 _ g1;have p2:=hc1 2 _ g2;have p3:=hc1 3 _ g3;have p4:=hc1 4 _ g4;have p5:=hc1 5 _ g5;have p6:=hc1 6 _ g6;have p7:=hc1 7 _ g7;have p8:=hc1 8 _ g8;have p9:=hc1 9 _ g9;have p10:=hc1 10 _ g10;have p11:=hc1 11 _ g11;have p12:=hc1 12 _ g12;simp only [Nat.add_zero] at p0;clear hc1 g0 g1 g2 g3 g4 g5 g6 g7 g8 g9 g10 g11 g12 hb1
   rcases ixN_cases (fstN K) x.id with ⟨h1,h2⟩ | ⟨i,y,h1,h2,h3⟩
   · rw [h1] at HFI;have HFI:=zh HFI;have hv:=HBAD.out (by unfold rsame1;rw [h2]);have HVV:=zh hv;clear h1 h2 hv HND HND2 hin;go_wp2_with fail;refine HFI.out.mono ?_;rintro e w2 ⟨rfl,rfl⟩;go_wp2_with fail;go_quiet (fail);go_wp2_with fail;go_ret;exact ⟨by rw [HVV.out];rfl,FR.out.drewN _⟩
   ·
    rw [h1] at HFI;have HFI:=zh HFI
    have hin2:i < n:=by
     have:=(List.getElem?_eq_some_iff.1 h2).1;simp [fstN] at this;rw [H2.out.num];exact this
    obtain ⟨m2,hx2⟩:∃ m,K[i]?=some m:=⟨_,List.getElem?_eq_getElem (by rw [<- H2.out.num];exact hin2)⟩
    have hmx:m2.1=y:=by
     have:=h2;simp [fstN,hx2] at this;exact this
    obtain ⟨b2,o2,rfl,hb2,hc2⟩:=HND2.get hx2;have hinn:=HND2.inn m2 (List.mem_of_getElem? hx2);have hsm2:=HS2.out.2 m2 (List.mem_of_getElem? hx2);obtain ⟨y',tf,tp⟩:=m2;simp only at hmx hsm2;subst hmx;have HW:=zh (fun (wx:World) (hx:Fr wr.heap.size [] wr wx)=>rnode_any x y' _ _ tf tp B wx (hin.frw hx hBr (by simp)) (hinn.frw hx hBr (by simp)) (Nat.le_trans hBr hx.size) hsm hsm2);obtain ⟨⟨Bf,df,kf1,_⟩,⟨Bp,dp,kp1,_⟩⟩:=hinn;simp only at kf1 kp1;subst kf1;subst kp1;obtain ⟨t0,t1,t2,t3,h4,h5,h6,h7,h8,h9,h10,h11,h12⟩:=ndL_get (y',.slice Bf y'.fr.length df,.slice Bp y'.pg.length dp);have r0:=hc2 0 _ t0;have r1:=hc2 1 _ t1;have r2:=hc2 2 _ t2;have r3:=hc2 3 _ t3;have r4:=hc2 4 _ h4;have r5:=hc2 5 _ h5;have r6:=hc2 6 _ h6;have r7:=hc2 7 _ h7;have r8:=hc2 8 _ h8;have r9:=hc2 9 _ h9;have r10:=hc2 10 _ h10;have r11:=hc2 11 _ h11;have r12:=hc2 12 _ h12;simp only [Nat.add_zero] at r0;obtain ⟨sb,hsb⟩:=nm (sameNd x y');rw [<- hsb] at HW;have HSB:=zh (show rsame1 (fstN K) x=sb by unfold rsame1;rw [h3,hsb]);have hii:(i:Int) < (n:Int):=(by omega);have hi0:(0:Int)<=(i:Int):=(by omega);have hi1:decide ((i:Int) < 0)=false:=decide_eq_false (by omega);clear hc2 hx2 h1 h2 h3 hsm hsm2 hb2 hsb HND HND2 hin t0 t1 t2 t3 h4 h5 h6 h7 h8 h9 h10 h11 h12;go_wp2_with fail;refine HFI.out.mono ?_;rintro e w2 ⟨rfl,rfl⟩;go_upto_region 7 with fail;go_still_tail 11,(by kernel_rfl)
    change wpList _ _ _ _ _ wr.drew
    have fd:=zh ((Fr.refl wr.heap.size [] wr).drew);generalize wr.drew=w5 at *;have F5:=zh (FR.out.nx fd.out);have HW5:=zh (HW.out w5 fd.out);clear fd HW
    cases sb with
    | true =>
     have HB2:=zh (HGO.out HSB.out);go_wp2_with fail;refine HW5.out.mono ?_;rintro e w6 ⟨rfl,f6⟩;have F6:=zh (F5.out.nx f6);clear f6;go_wp2_with fail;go_roundg (n - (k+1))
     case measure=>omega
     case rel=>exact ⟨k+1,by omega,rfl,by go_num,HB2,F6⟩
    | false =>
     have hv:=HBAD.out HSB.out;have HVV:=zh hv;clear hv;go_wp2_with fail;refine HW5.out.mono ?_;rintro e w6 ⟨rfl,f6⟩;have F6:=zh (F5.out.nx f6);clear f6;go_wp2_with fail;go_ret;exact ⟨by rw [HVV.out];rfl,F6.out⟩
  ·
   obtain rfl:k=n:=by omega
   have hv:vb=true:=by
    have htk:(fstN M).take k=fstN M:=List.take_of_length_le (by have:=H.out.num;simp [fstN];omega);have h:=HB.out;rw [htk] at h;rw [HVA.out,List.all_eq_true];exact h
   have HVV:=zh hv;clear hv;go_wp2_with fail;go_ret;exact ⟨by rw [HVV.out];rfl,FR.out⟩
end Go.Proofs.YtlejomlppjpchaaGreat
namespace Go.Proofs.YtlejomlppjpchaaGreat
set_option maxRecDepth 100000
set_option maxHeartbeats 16000000
set_option linter.unusedVariables false
theorem sameNd_refl (x:Nd):sameNd x x=true:=by simp [sameNd,rt8B]
theorem rsameL_iff {L K:List Nd}:rsameL L K=true ↔ L.length=K.length /\ ∀ x ∈ L,rsame1 K x=true:=by
 unfold rsameL;rw [Bool.and_eq_true,decide_eq_true_eq,List.all_eq_true]
end Go.Proofs.YtlejomlppjpchaaGreat
namespace Go.Proofs.YtlejomlppjpchaaGreat
open Go.RowKit Go.Fb
set_option maxRecDepth 100000
set_option maxHeartbeats 16000000
set_option linter.unusedVariables false

end Go.Proofs.YtlejomlppjpchaaGreat
namespace Go.Proofs.YtlejomlppjpchaaGreat
set_option maxRecDepth 100000
set_option maxHeartbeats 16000000
set_option linter.unusedVariables false
structure RGood (L:List Nd) (i:Nat) (x:Nd):Prop where
 id0:0<=x.id
 id7:x.id<=7
 at_:ixN L x.id=(i:Int)
 k0:0<=x.kind
 k2:x.kind<=2
 p1:1<=x.par
 p3:x.par<=3
 f3:x.fr.length<=3
 src:x.id=0 ↔ x.kind=0
 rt:inTo x.par x.rt 8=true
 f0:x.kind=0->x.fr.length=0
 f1:x.kind=1->x.fr.length=1
 f2:x.kind=2->x.fr.length ≠ 0
 s1:x.kind=1->(chkL x.pg).isSome=true
 s2:x.kind ≠ 1->x.pg.length=0
 fr:∀ (j:Nat) (f:Int),x.fr[j]?=some f->(∃ m,findN L f=some m/\m.kind ≠ 2)/\f ∉ x.fr.take j
def srcN (L:List Nd):Nat:=(L.filter fun x=>decide (x.kind=0)).length
theorem srcN_snoc (L:List Nd) (x:Nd):srcN (L ++ [x])=srcN L+(if x.kind=0 then 1 else 0):=by
 unfold srcN;rw [List.filter_append,List.length_append]
 by_cases h:x.kind=0 <;> simp [h]
theorem id_at {L:List Nd} (hu:(idsN L).Nodup) {i j:Nat} {x y:Nd} (hi:L[i]?=some x) (hj:L[j]?=some y) (h:x.id=y.id):i=j:=by
 have hlt:=(List.getElem?_eq_some_iff.1 hi).1;refine (List.getElem?_inj (l:=idsN L) (by simpa [idsN] using hlt) hu).1 ?_;simp [idsN,hi,hj,h]
theorem ixN_uni {L:List Nd} (hu:(idsN L).Nodup) {i:Nat} {x:Nd} (hx:L[i]?=some x):ixN L x.id=(i:Int):=by
 have h1:=findN_one hu (List.mem_of_getElem? hx)
 rcases ixN_cases L x.id with ⟨_,h⟩ | ⟨k,y,h2,h3,h4⟩
 · rw [h] at h1;cases h1
 ·
  rw [h1] at h4;injection h4 with h4
  subst h4;rw [h2,id_at hu h3 hx rfl]
theorem nodup_take {l:List Int}:l.Nodup ↔ ∀ (j:Nat) (f:Int),l[j]?=some f->f ∉ l.take j:=by
 constructor
 ·
  intro h j f hf hm;obtain ⟨i,hi⟩:=List.getElem?_of_mem hm;rw [List.getElem?_take] at hi
  split at hi
  · have hjl:=(List.getElem?_eq_some_iff.1 hf).1;have:=(List.getElem?_inj (i:=i) (j:=j) (by omega) h).1 (by rw [hi,hf]);omega
  · cases hi
 · intro h;rw [List.nodup_iff_pairwise_ne,List.pairwise_iff_getElem];intro i j hi hj hij e;refine h j l[j] (List.getElem?_eq_getElem hj) ?_;rw [<- e];refine List.mem_of_getElem? (i:=i) ?_;rw [List.getElem?_take,if_pos hij,List.getElem?_eq_getElem hi]
theorem right_good {L:List Nd} (h:RightG L) {i:Nat} {x:Nd} (hx:L[i]?=some x):RGood L i x:=by
 obtain ⟨a1,a2,a3,a4,a5⟩:=nodeB_iff.1 (h.each x (List.mem_of_getElem? hx));have hz:=kindB_zero a3;unfold right8 at a4;simp only [Bool.and_eq_true,decide_eq_true_eq] at a4;unfold kindB at a3;have hfr:∀ (j:Nat) (f:Int),x.fr[j]?=some f->∃ m,findN L f=some m/\m.kind ≠ 2:=fun j f hf=>a5 f (List.mem_of_getElem? hf)
 by_cases c0:x.kind=0
 ·
  rw [if_pos c0] at a3;simp only [Bool.and_eq_true,decide_eq_true_eq] at a3
  exact ⟨a1, by omega, ixN_uni h.uni hx, by omega, by omega, a4.1.1, a4.1.2, by omega, hz, a4.2, fun _ => a3.2.1, (fun h => by omega), (fun h => by omega), (fun h => by omega), fun _ => a3.2.2, fun j f hf => by
   have:=(List.getElem?_eq_some_iff.1 hf).1
   omega⟩
 rw [if_neg c0] at a3
 by_cases c1:x.kind=1
 ·
  rw [if_pos c1] at a3;simp only [Bool.and_eq_true,decide_eq_true_eq] at a3
  exact ⟨a1, by omega, ixN_uni h.uni hx, by omega, by omega, a4.1.1, a4.1.2, by omega, hz, a4.2, (fun h => by omega), fun _ => a3.2.1, (fun h => by omega), fun _ => a3.2.2, (fun h => by omega), fun j f hf => ⟨hfr j f hf, by
   have:=(List.getElem?_eq_some_iff.1 hf).1;obtain rfl:j=0:=by omega
   simp⟩⟩
 rw [if_neg c1] at a3
 by_cases c2:x.kind=2
 · rw [if_pos c2] at a3;simp only [Bool.and_eq_true,decide_eq_true_eq,unlikeB] at a3;exact ⟨a1,by omega,ixN_uni h.uni hx,by omega,by omega,a4.1.1,a4.1.2,by omega,hz,a4.2,(fun h=>by omega),(fun h=>by omega),(fun _=>by omega),(fun h=>by omega),fun _=>a3.2.2.2.2,fun j f hf=>⟨hfr j f hf,nodup_take.1 a3.2.2.2.1 j f hf⟩⟩
 ·
  rw [if_neg c2] at a3
  cases a3
theorem one_filt {L:List Nd} (hu:(idsN L).Nodup) {n:Nd} (hn:n ∈ L):filtN n.id L=[n]:=by
 induction L with
 | nil=>cases hn
 | cons y L ih =>
  have hu':=List.nodup_cons.1 hu;rw [filtN_head]
  rcases List.mem_cons.1 hn with h | h
  ·
   subst h;rw [if_pos rfl]
   congr 1
   unfold filtN;rw [List.filter_eq_nil_iff];intro z hz e;simp at e;exact hu'.1 (List.mem_map.2 ⟨z,hz,e⟩)
  · have hne:y.id ≠ n.id:=fun e=>hu'.1 (List.mem_map.2 ⟨n,h,e.symm⟩);rw [if_neg hne];exact ih hu'.2 h
theorem right_src {L:List Nd} (h:RightG L):srcN L=1:=by
 obtain ⟨z,hz,e⟩:=List.mem_map.1 h.zero;have h1:=one_filt h.uni hz
 have h2:L.filter (fun x=>decide (x.kind=0))=filtN z.id L:=by
  unfold filtN;refine List.filter_congr fun y hy => ?_;have:=kindB_zero (nodeB_iff.1 (h.each y hy)).2.2.1;rw [e];exact decide_eq_decide.2 this.symm
 unfold srcN;rw [h2,h1];rfl
theorem right_above {L:List Nd} (h:RightG L) {x:Nd}:aboveN L x.id 9 x.id=false:=by
 obtain ⟨r,hr⟩:=h.rank
 cases hb:aboveN L x.id 9 x.id with
 | false=>rfl
 | true=>have:=ranked_above hr hb;omega
theorem good_right {L:List Nd} (hl:L.length<=8) (hg:∀ (i:Nat) (x:Nd),L[i]?=some x->RGood L i x) (hs:srcN L=1) (ha:∀ x ∈ L,aboveN L x.id 9 x.id=false):RightG L:=by
 have hu:(idsN L).Nodup:=by
  rw [List.nodup_iff_pairwise_ne,List.pairwise_iff_getElem];intro i j hi hj hij e;simp [idsN] at hi hj e;have h1:=(hg i _ (List.getElem?_eq_getElem hi)).at_;have h2:=(hg j _ (List.getElem?_eq_getElem hj)).at_;rw [e,h2] at h1;omega
 have hn:∀ n ∈ L,nodeB L n=true:=by
  intro n hn;obtain ⟨i,hi⟩:=List.getElem?_of_mem hn;have g:=hg i n hi;have g1:=g.id0;have g2:=g.id7;have g3:=g.k0;have g4:=g.k2;have g5:=g.src;have g6:=g.f3;refine nodeB_iff.2 ⟨g1,by omega,?_,?_,fun f hf => ?_⟩
  ·
   unfold kindB
   by_cases c0:n.kind=0
   · rw [if_pos c0];simp [g5.2 c0,List.eq_nil_of_length_eq_zero (g.f0 c0),List.eq_nil_of_length_eq_zero (g.s2 (by omega))]
   rw [if_neg c0];have hid:¬ n.id=0:=fun e=>c0 (g5.1 e)
   by_cases c1:n.kind=1
   · rw [if_pos c1];have:=g.s1 c1;simp [hid,g.f1 c1,this]
   rw [if_neg c1];have c2:n.kind=2:=(by omega);rw [if_pos c2];have hnd:=nodup_take.2 fun j f hf=>(g.fr j f hf).2;have:=g.f2 c2;simp only [Bool.and_eq_true,decide_eq_true_eq,unlikeB,Bool.not_eq_true',decide_eq_false_iff_not];exact ⟨hid,by omega,g6,hnd,g.s2 (by omega)⟩
  · unfold right8;rw [g.rt,decide_eq_true ⟨g.p1,g.p3⟩];rfl
  · obtain ⟨j,hj⟩:=List.getElem?_of_mem hf;exact (g.fr j f hj).1
 refine ⟨hl,hn,hu,?_,complete_ranked hu (acyclic_complete hl hn hu ha)⟩;unfold srcN at hs
 cases hc:L.filter (fun x=>decide (x.kind=0)) with
 | nil=>rw [hc] at hs;simp at hs
 | cons z t =>
  have hz:z ∈ L.filter (fun x=>decide (x.kind=0)):=(by rw [hc];simp);obtain ⟨h1,h2⟩:=List.mem_filter.1 hz;obtain ⟨i,hi⟩:=List.getElem?_of_mem h1;exact List.mem_map.2 ⟨z,h1,(hg i z hi).src.2 (by simpa using h2)⟩
theorem checkN_ten {L:List Nd} (hl:L.length<=8) (h:¬ RightG L):checkN L=10:=by
 rcases checkN_three L with h1 | h1 | h1
 · exact absurd (checkN_zero.1 h1) h
 · have:=checkN_long.1 h1;omega
 · exact h1
structure Stp where
 kind:Int
 nd:Nd
 rs:Bool
def pgN (l:List (Int × Int)) (x:Nd):Nd:=⟨x.id,x.kind,x.par,x.fr,l,x.rt⟩
def rtN (p:Int) (r:Nat->Int) (x:Nd):Nd:=⟨x.id,x.kind,p,x.fr,x.pg,r⟩
def frN (l:List Int) (x:Nd):Nd:=⟨x.id,x.kind,x.par,l,x.pg,x.rt⟩
def updN (N:List Nd) (id:Int) (f:Nd->Nd):List Nd:=N.map fun n=>if n.id=id then f n else n
def delN (N:List Nd) (id:Int):List Nd:=N.filter fun n=>!decide (n.id=id)
def cleanS (s:Stp):Stp :=
 if s.kind=1 then ⟨1,⟨s.nd.id,0,0,[],s.nd.pg,fun _=>0⟩,s.rs⟩
 else if s.kind=2 then ⟨2,s.nd,false⟩
 else if s.kind=3 then ⟨3,⟨s.nd.id,0,0,[],[],fun _=>0⟩,false⟩
 else if s.kind=4 then ⟨4,⟨s.nd.id,0,s.nd.par,[],[],s.nd.rt⟩,false⟩
 else if s.kind=5 then ⟨5,⟨s.nd.id,0,0,s.nd.fr,[],fun _=>0⟩,false⟩
 else ⟨0,⟨0,0,0,[],[],fun _=>0⟩,false⟩
def chgN (N:List Nd) (s:Stp):Int × List Nd :=
 match findN N s.nd.id with
 | none=>if s.kind=2 then (if s.nd.kind=0 then (11,[]) else (0,N ++ [s.nd])) else (12,[])
 | some n =>
  if s.kind=2 then (13,[])
  else if s.kind=1 then (if n.kind=1 then (if (chkL s.nd.pg).isSome=true then (0,updN N s.nd.id (pgN s.nd.pg)) else (9,[])) else (11,[]))
  else if s.kind=3 then (if n.kind=0 \/ (childN N s.nd.id).length ≠ 0 then (11,[]) else (0,delN N s.nd.id))
  else if s.kind=4 then (if n.kind=0 then (11,[]) else (0,updN N s.nd.id (rtN s.nd.par s.nd.rt)))
  else (if n.kind=2 then (0,updN N s.nd.id (frN s.nd.fr)) else (11,[]))
def endN (r:Int × List Nd):Int × List Nd:=if r.1 ≠ 0 then (r.1,[]) else if checkN r.2 ≠ 0 then (checkN r.2,[]) else (0,normL r.2)
def endR (r:Int × List Nd):Int × List Nd:=if r.1 ≠ 0 then (r.1,[]) else if checkN r.2 ≠ 0 then (checkN r.2,[]) else (0,r.2)
def stepN (L:List Nd) (s:Stp):Int × List Nd:=if checkN L ≠ 0 then (10,[]) else if s.kind < 1 \/ 5 < s.kind then (11,[]) else endN (chgN (normL L) s)
def stepR (L:List Nd) (s:Stp):Int × List Nd:=if checkN L ≠ 0 then (10,[]) else if s.kind < 1 \/ 5 < s.kind then (11,[]) else endR (chgN L s)
def goN (i:Nat) (L:List Nd):List Stp->Int × Nat × List Nd
 | []=>(0,0,L)
 | s :: p=>if (stepN L s).1 ≠ 0 then ((stepN L s).1,i+1,[]) else goN (i+1) (stepN L s).2 p
def goR (i:Nat) (L:List Nd):List Stp->Int × Nat × List Nd
 | []=>(0,0,L)
 | s :: p=>if (stepR L s).1 ≠ 0 then ((stepR L s).1,i+1,[]) else goR (i+1) (stepR L s).2 p
def applyN (L:List Nd) (p:List Stp):Int × Nat × List Nd:=if checkN L ≠ 0 then (10,0,[]) else if p.length < 1 \/ 6 < p.length then (11,0,[]) else goN 0 L p
def applyR (L:List Nd) (p:List Stp):Int × Nat × List Nd:=if checkN L ≠ 0 then (10,0,[]) else if p.length < 1 \/ 6 < p.length then (11,0,[]) else goR 0 L p
theorem ids_perm {L K:List Nd} (h:L.Perm K):(idsN L).Perm (idsN K):=h.map _
theorem filt_find {L:List Nd} (hu:(idsN L).Nodup) (k:Int):filtN k L=(findN L k).toList:=by
 cases hf:findN L k with
 | none =>
  unfold filtN;rw [List.filter_eq_nil_iff.2]
  · rfl
  · intro y hy e;have:=List.find?_eq_none.1 hf y hy;exact this e
 | some n =>
  have h1:=findN_id hf;rw [<- h1,one_filt hu (findN_mem hf)];rfl
theorem find_perm {L K:List Nd} (h:L.Perm K) (hu:(idsN L).Nodup) (k:Int):findN L k=findN K k:=by
 have hk:(idsN K).Nodup:=(ids_perm h).nodup_iff.1 hu
 cases hf:findN L k with
 | some n =>
  have:=findN_one hk (h.mem_iff.1 (findN_mem hf));rw [findN_id hf] at this;exact this.symm
 | none =>
  cases hg:findN K k with
  | none=>rfl
  | some n =>
   have:=findN_one hu (h.mem_iff.2 (findN_mem hg));rw [findN_id hg,hf] at this
   cases this
theorem norm_perm {L K:List Nd} (h:L.Perm K) (hu:(idsN L).Nodup):normL L=normL K:=by
 have hk:(idsN K).Nodup:=(ids_perm h).nodup_iff.1 hu;refine normL_eq (normL_sorted L) fun k => ?_;rw [normL_filt,filt_find hu,filt_find hk,find_perm h hu]
theorem right_perm {L K:List Nd} (h:L.Perm K) (g:RightG L):RightG K:=by
 refine ⟨by rw [<- h.length_eq];exact g.len,fun n hn => ?_,(ids_perm h).nodup_iff.1 g.uni,(ids_perm h).mem_iff.1 g.zero,?_⟩
 · obtain ⟨a1,a2,a3,a4,a5⟩:=nodeB_iff.1 (g.each n (h.mem_iff.2 hn));refine nodeB_iff.2 ⟨a1,a2,a3,a4,fun f hf => ?_⟩;rw [<- find_perm h g.uni];exact a5 f hf
 · obtain ⟨r,hr⟩:=g.rank;exact ⟨r,fun n hn=>hr n (h.mem_iff.2 hn)⟩
theorem check_perm {L K:List Nd} (h:L.Perm K):checkN L=checkN K:=by
 have hl:=h.length_eq
 rcases checkN_three L with h1 | h1 | h1
 · rw [h1,checkN_zero.2 (right_perm h (checkN_zero.1 h1))]
 · rw [h1,checkN_long.2 (by have:=checkN_long.1 h1;omega)]
 ·
  rcases checkN_three K with h2 | h2 | h2
  · rw [checkN_zero.2 (right_perm h.symm (checkN_zero.1 h2))] at h1;cases h1
  · rw [checkN_long.2 (by have:=checkN_long.1 h2;omega)] at h1;cases h1
  · rw [h1,h2]
theorem child_perm {L K:List Nd} (h:L.Perm K) (id:Int):childN L id=childN K id :=
 rises_eq (childN_rises L id) (childN_rises K id) fun c=>by
  rw [childN_mem,childN_mem];constructor
  · rintro ⟨n,hn,r⟩;exact ⟨n,h.mem_iff.1 hn,r⟩
  · rintro ⟨n,hn,r⟩;exact ⟨n,h.mem_iff.2 hn,r⟩
theorem chg_perm {L K:List Nd} (h:L.Perm K) (hu:(idsN L).Nodup) (s:Stp):(chgN L s).1=(chgN K s).1/\(chgN L s).2.Perm (chgN K s).2:=by
 unfold chgN;rw [find_perm h hu,child_perm h];have hm:∀ f,(updN L s.nd.id f).Perm (updN K s.nd.id f):=fun f=>h.map _;have hd:(delN L s.nd.id).Perm (delN K s.nd.id):=h.filter _;have ha:(L ++ [s.nd]).Perm (K ++ [s.nd]):=h.append_right _
 cases findN K s.nd.id with
 | none =>
  simp only
  by_cases h1:s.kind=2
  ·
   rw [if_pos h1,if_pos h1]
   by_cases h2:s.nd.kind=0
   · rw [if_pos h2,if_pos h2];exact ⟨rfl,.refl _⟩
   · rw [if_neg h2,if_neg h2];exact ⟨rfl,ha⟩
  · rw [if_neg h1,if_neg h1];exact ⟨rfl,.refl _⟩
 | some n =>
  simp only
  split
  · exact ⟨rfl,.refl _⟩
  split
  ·
   split
   ·
    split
    · exact ⟨rfl,hm _⟩
    · exact ⟨rfl,.refl _⟩
   · exact ⟨rfl,.refl _⟩
  split
  ·
   split
   · exact ⟨rfl,.refl _⟩
   · exact ⟨rfl,hd⟩
  split
  ·
   split
   · exact ⟨rfl,.refl _⟩
   · exact ⟨rfl,hm _⟩
  split
  · exact ⟨rfl,hm _⟩
  · exact ⟨rfl,.refl _⟩
theorem end_perm {a b:Int × List Nd} (h1:a.1=b.1) (h2:a.2.Perm b.2):(endN a).1=(endR b).1/\((endN a).1=0->RightG (endR b).2/\(endN a).2=normL (endR b).2):=by
 unfold endN endR;rw [h1,check_perm h2]
 by_cases c:b.1 ≠ 0
 · rw [if_pos c,if_pos c];exact ⟨rfl,fun e=>absurd e c⟩
 rw [if_neg c,if_neg c]
 by_cases d:checkN b.2 ≠ 0
 · rw [if_pos d,if_pos d];exact ⟨rfl,fun e=>absurd e d⟩
 rw [if_neg d,if_neg d];have hr:=checkN_zero.1 (Decidable.not_not.1 d);exact ⟨rfl,fun _=>⟨hr,norm_perm h2 ((ids_perm h2).nodup_iff.2 hr.uni)⟩⟩
theorem step_agree {L K:List Nd} (h:L.Perm K) (s:Stp):(stepN L s).1=(stepR K s).1/\((stepN L s).1=0->RightG (stepR K s).2/\(stepN L s).2=normL (stepR K s).2):=by
 unfold stepN stepR;rw [check_perm h]
 by_cases c:checkN K ≠ 0
 · rw [if_pos c,if_pos c];exact ⟨rfl,fun e=>by cases e⟩
 rw [if_neg c,if_neg c]
 split
 · exact ⟨rfl,fun e=>by cases e⟩
 have hr:=checkN_zero.1 (Decidable.not_not.1 c);have hp:(normL L).Perm K:=(normL_perm L).trans h;obtain ⟨h1,h2⟩:=chg_perm hp ((ids_perm hp).nodup_iff.2 hr.uni) s;exact end_perm h1 h2
theorem go_agree:∀ (p:List Stp) (i:Nat) {L K:List Nd},L.Perm K->RightG K->(goN i L p).1=(goR i K p).1/\(goN i L p).2.1=(goR i K p).2.1/\((goN i L p).1=0->RightG (goR i K p).2.2/\(goN i L p).2.2.Perm (goR i K p).2.2)
 | [],i,L,K,h,hr=>⟨rfl,rfl,fun _=>⟨hr,h⟩⟩
 | s :: p,i,L,K,h,hr=>by
  obtain ⟨h1,h2⟩:=step_agree h s;unfold goN goR;rw [<- h1]
  by_cases c:(stepN L s).1 ≠ 0
  · rw [if_pos c,if_pos c];exact ⟨rfl,rfl,fun e=>absurd e c⟩
  rw [if_neg c,if_neg c];obtain ⟨h3,h4⟩:=h2 (Decidable.not_not.1 c);exact go_agree p (i+1) (by rw [h4];exact normL_perm _) h3
theorem rsameL_perm {L K:List Nd} (h:L.Perm K) (hu:(idsN K).Nodup):rsameL L K=true:=by
 rw [rsameL_iff];refine ⟨h.length_eq,fun x hx => ?_⟩;unfold rsame1;rw [findN_one hu (h.mem_iff.1 hx)];exact sameNd_refl x
end Go.Proofs.YtlejomlppjpchaaGreat
namespace Go.Proofs.YtlejomlppjpchaaGreat
open Go.RowKit Go.Fb
set_option maxRecDepth 100000
set_option maxHeartbeats 16000000
set_option linter.unusedVariables false
abbrev stA (kd:Int) (x:Nd) (rs:Bool) (sf sp:Value):Array Value:=#[.int .i64 kd,.int .i64 x.id,.int .i64 x.kind,sf,sp,.int .i64 x.par,.int .i64 (x.rt 0),.int .i64 (x.rt 1),.int .i64 (x.rt 2),.int .i64 (x.rt 3),.int .i64 (x.rt 4),.int .i64 (x.rt 5),.int .i64 (x.rt 6),.int .i64 (x.rt 7),.bool rs]
abbrev stV (s:Stp) (sf sp:Value):Array Value:=stA s.kind s.nd s.rs sf sp
def CleanOut (s:Stp) (w:World) (e:Ending) (w':World):Prop :=
 ∃ tf tp,e=.returned (.agg (stV (cleanS s) tf tp))/\NdIn w' w'.heap.size ((cleanS s).nd,tf,tp)/\Fresh w.heap.size tf/\Fresh w.heap.size tp/\Fr w.heap.size [] w w'
theorem fresh_nil (b:Nat):Fresh b (.slice none 0 0):=fun A n c h hn=>by injection h with _ h2;omega
theorem ndin_fresh {w w':World} {B B' b:Nat} {L:List Nat} {m:Ndm} (h:NdIn w B m) (f1:Fresh b m.2.1) (f2:Fresh b m.2.2) (hf:Fr B' L w w') (hB:B<=B') (hL:∀ k ∈ L,k < b):NdIn w' B m:=by
 obtain ⟨⟨A,c,h1,h2⟩,⟨A',c',h3,h4⟩⟩:=h;exact ⟨⟨A,c,h1,h2.frL hf hB (fresh_notin f1 hL h1)⟩,⟨A',c',h3,h4.frL hf hB (fresh_notin f2 hL h3)⟩⟩
theorem nd_bare (w:World) (B:Nat) (x:Nd) (h1:x.fr=[]) (h2:x.pg=[]):NdIn w B (x,.slice none 0 0,.slice none 0 0) :=
 ⟨⟨none,0,by rw [h1];rfl,by rw [h1];exact Reads.none_⟩,⟨none,0,by rw [h2];rfl,by rw [h2];exact Reads.none_⟩⟩
theorem kd_ne {a b:Int} (h:a ≠ b):(a == b)=false:=by simpa using h
abbrev zSt (kd:Int):Array Value:=#[.int .i64 kd,.int .i64 0,.int .i64 0,.slice none 0 0,.slice none 0 0,.int .i64 0,.int .i64 0,.int .i64 0,.int .i64 0,.int .i64 0,.int .i64 0,.int .i64 0,.int .i64 0,.int .i64 0,.bool false]
def wCl (w:World) (kd:Int) (x:Nd) (rs:Bool) (sf sp:Value):World:=(((w.alloc (.cells (stA kd x rs sf sp) 215)).alloc (.cells (zSt 0) 215)).alloc (.cells (ndA x sf sp) 83)).alloc (.cells (zSt kd) 215)
theorem wCl_all (w:World) (kd:Int) (x:Nd) (rs:Bool) (sf sp:Value):Hid (Blk (wCl w kd x rs sf sp) w.heap.size 215 (stA kd x rs sf sp))/\Hid (Blk (wCl w kd x rs sf sp) (w.heap.size+1) 215 (zSt 0))/\Hid (Blk (wCl w kd x rs sf sp) (w.heap.size+1+1) 83 (ndA x sf sp))/\Hid (Blk (wCl w kd x rs sf sp) (w.heap.size+1+1+1) 215 (zSt kd))/\Hid (Fr w.heap.size [] w (wCl w kd x rs sf sp))/\Hid ((wCl w kd x rs sf sp).heap.size=w.heap.size+1+1+1+1):=by
 have b1:=(((Blk.new w 215 (stA kd x rs sf sp)).alloc (.cells (zSt 0) 215)).alloc (.cells (ndA x sf sp) 83)).alloc (.cells (zSt kd) 215);have b2:=((Blk.new (w.alloc (.cells (stA kd x rs sf sp) 215)) 215 (zSt 0)).alloc (.cells (ndA x sf sp) 83)).alloc (.cells (zSt kd) 215);have b3:=(Blk.new ((w.alloc (.cells (stA kd x rs sf sp) 215)).alloc (.cells (zSt 0) 215)) 83 (ndA x sf sp)).alloc (.cells (zSt kd) 215);have b4:=Blk.new (((w.alloc (.cells (stA kd x rs sf sp) 215)).alloc (.cells (zSt 0) 215)).alloc (.cells (ndA x sf sp) 83)) 215 (zSt kd);simp only [World.size_alloc] at b2 b3 b4;refine ⟨b1,b2,b3,b4,(((((Fr.refl w.heap.size [] w).alloc (Nat.le_refl _) _).alloc (by simp) _).alloc (by simp;omega) _).alloc (by simp;omega) _),?_⟩;unfold wCl;refine zh ?_;simp only [World.size_alloc]
theorem ndc_take (M:List Ndm) (k:Nat):(cellsN M).take (k * 13)=cellsN (M.take k):=by
 have h:cellsN M=cellsN (M.take k) ++ cellsN (M.drop k):=(by rw [<- cellsN_app,List.take_append_drop])
 rcases Nat.lt_or_ge M.length k with hk | hk
 · rw [List.take_of_length_le (by omega:M.length<=k),List.take_of_length_le (by rw [cellsN_length];omega)]
 · rw [h,List.take_append_of_le_length (by rw [cellsN_length,List.length_take];omega),List.take_of_length_le (by rw [cellsN_length,List.length_take];omega)]
theorem ndc_drop (M:List Ndm) (k:Nat) (hk:k<=M.length):(cellsN M).drop (k * 13)=cellsN (M.drop k):=by
 have h:cellsN M=cellsN (M.take k) ++ cellsN (M.drop k):=(by rw [<- cellsN_app,List.take_append_drop]);rw [h,List.drop_append_of_le_length (by rw [cellsN_length,List.length_take];omega),List.drop_of_length_le (by rw [cellsN_length,List.length_take];omega),List.nil_append]
theorem ndz_one:∀ u ∈ (Value.agg ndZ).cells,u.oneCell'=true:=by decide +kernel
theorem Fr.of_grown {w w':World} {g:Nat} (h:w.grownBy w' (some g)):Fr w.heap.size [g] w w':=(Fr.refl _ _ _).grown h (Nat.le_refl _) (fun k hk=>.inr (by injection hk with hk;simp [hk]))
theorem ndc_app (a b:List Ndm):cellsN (a ++ b)=cellsN a ++ cellsN b:=cellsN_app a b
theorem ndOnes {M:List Ndm} (h:∀ m ∈ M,SlN m):∀ u ∈ cellsN M,u.oneCell'=true:=by
 intro u hu;obtain ⟨m,hm,hu⟩:=List.mem_flatMap.1 hu;obtain ⟨A,n,c,P,q,d,h1,h2⟩:=h m hm;obtain ⟨x,sf,sp⟩:=m;simp only at h1 h2;subst h1;subst h2;simp [ndL] at hu
 rcases hu with rfl | rfl | rfl | rfl | rfl | rfl | rfl | rfl | rfl | rfl | rfl | rfl | rfl <;> rfl
theorem ndel_any (base g n c k:Nat) (M:List Ndm) (w:World) (hn:n=M.length) (hk:k < n) (hm:n<=1000000) (hsl:∀ m ∈ M,SlN m) (ho:w.ownsRow base 83 13 (.slice (some ⟨g,0,none⟩) n c) n (cellsN M)) :
  Calls Tryz.prog 216 #[.slice (some ⟨g,0,none⟩) n c,.int .i64 (k:Int),.int .i64 ((k:Int)+1)] w fun e w'=>e=.returned (.slice (some ⟨g,0,none⟩) (n - 1) c)/\w'.ownsRow base 83 13 (.slice (some ⟨g,0,none⟩) (n - 1) c) (n - 1) (cellsN (M.take k ++ M.drop (k+1)))/\Fr w.heap.size [g] w w':=by
 obtain ⟨_,_,he,_,hcap,_⟩:=ownsRow_shape ho;injection he with he1 _ he2
 subst he1;subst he2;have hkn:(k:Int) < (n:Int):=(by omega);have hk0:(0:Int)<=(k:Int):=(by omega);have hk1:(k:Int)<=(k:Int)+1:=(by omega);have hk2:(k:Int)+1<=(n:Int):=(by omega);have hk3:(0:Int)<=(k:Int)+1:=(by omega);have hnc:(n:Int)<=(c:Int):=(by omega);have hkc:(k:Int)<=(c:Int):=(by omega);have hkd:((k:Int) == (k:Int)+1)=false:=(by simp;omega);have hone:=zh (ndOnes hsl);have HO:=zh ho;have HP:=zh (own_prefix ho k (by omega));have HN:=zh hn
 have hnews:∀ ad:Addr,ad=⟨g,(k+1) * 13,none⟩ -> ∀ j u,(cellsN (M.drop (k+1)))[j]?=some u->w.cell? (ad.add j)=some u:=by
  rintro ad rfl j u hu;have:(⟨g,(k+1) * 13,none⟩:Addr).add j=⟨g,(k+1) * 13+j,none⟩:=by unfold Addr.add;split <;> simp_all
  rw [this]
  have hj:j < (cellsN (M.drop (k+1))).length:=by
   rcases Nat.lt_or_ge j (cellsN (M.drop (k+1))).length with h | h
   · exact h
   · rw [List.getElem?_eq_none h] at hu;cases hu
  rw [cellsN_length,List.length_drop] at hj;rw [ho.cellAt _ (by omega),<- hu,<- ndc_drop M (k+1) (by omega),List.getElem?_drop]
 have HNEWS:=zh hnews;have HNL:=zh (show (cellsN (M.drop (k+1))).length=(n - (k+1)) * 13 by rw [cellsN_length,List.length_drop,hn]);have hone2:=zh (show ∀ u ∈ cellsN (M.drop (k+1)),u.oneCell'=true from ndOnes fun m hm=>hsl m (List.mem_of_mem_drop hm));clear ho hn hnews hsl;have HPD:=zh (show w.drew.ownsRow base 83 13 (.slice (some ⟨g,0,none⟩) k c) k (cellsN (M.take k)) by rw [<- ndc_take];exact HP.out);clear HP hone;go_enter Tryz.func216,Tryz.ntmps216;go_upto_region 5 with fail;have hck:c=k+1 \/ ¬ c=k+1:=Classical.em _
 rcases hck with hck | hck
 case' inl =>
  obtain rfl:n=k+1:=by omega
  subst hck
  have HNC := zh (show ∀ j u, ([] : List Value)[j]? = some u -> w.drew.cell? ((⟨g, 0, none⟩ : Addr).add j) = some u by
   intro j u hu
   simp at hu)
  have hdn:M.drop (k+1)=[]:=List.drop_eq_nil_of_le (by rw [<- HN.out];exact Nat.le_refl _);have HDN:=zh hdn;clear hdn;go_region_law (refine step_fits (by rfl) (.tmp 22) (.tmp 25) nodeTy (by rfl) base g k (k+1) (cellsN (M.take k)) (by rfl) HPD.out ⟨g,0,none⟩ 0 _ [] (by rfl) (by rfl) HNC.out (by simp) (by omega) ?_;intro w5 ho5 hg5);obtain ⟨wz,hcl,hoz,hfz⟩:=run_clear_behind nodeTy (.agg ndZ) (by kernel_rfl) rfl ndz_one ho5 (m:=1) (by omega) 0 (k+1 - k);have HZ:=zh hoz;have FZ:=zh (((Fr.refl w.heap.size [g] w).drew.trans (Fr.of_grown hg5)).trans (hfz.mono (B':=w.heap.size) (L':=[g]) (by have:=hg5.size;simpa using this) (by simp)));simp only [Nat.add_zero,Nat.add_sub_cancel_left] at hcl HZ;clear ho5 hg5 hoz hfz HPD HNC HNEWS hone2 HO;go_wp2_with fail;go_ret;refine ⟨rfl,?_,FZ.out⟩;rw [HDN.out,List.append_nil];simpa using HZ.out
 case' inr =>
  have HNC:=zh (show ∀ j u,(cellsN (M.drop (k+1)))[j]?=some u->w.drew.cell? ((⟨g,(k+1) * 13,none⟩:Addr).add j)=some u from HNEWS.out _ rfl);go_region_law (refine step_fits (by rfl) (.tmp 22) (.tmp 25) nodeTy (by rfl) base g k c (cellsN (M.take k)) (by rfl) HPD.out ⟨g,(k+1) * 13,none⟩ (n - (k+1)) _ (cellsN (M.drop (k+1))) (by rfl) HNL.out HNC.out hone2.out (by omega) ?_;intro w5 ho5 hg5);have hsum:k+(n - (k+1))=n - 1:=(by omega);rw [hsum] at ho5;rw [hsum];clear hsum;obtain ⟨q,rfl⟩:∃ q,n=q+1:=⟨n - 1,by omega⟩;simp only [Nat.add_sub_cancel] at ho5;simp only [Nat.add_sub_cancel];obtain ⟨wz,hcl,hoz,hfz⟩:=run_clear_behind nodeTy (.agg ndZ) (by kernel_rfl) rfl ndz_one ho5 (m:=1) (by omega) 0 (c - q);have HZ:=zh hoz;have FZ:=zh (((Fr.refl w.heap.size [g] w).drew.trans (Fr.of_grown hg5)).trans (hfz.mono (B':=w.heap.size) (L':=[g]) (by have:=hg5.size;simpa using this) (by simp)));have hq0:(0:Int)<=(q:Int):=(by omega);have hqn:(q:Int)<=(q:Int)+1:=(by omega);have hqc:(q:Int)+1<=(c:Int):=(by omega);have hcq:¬ c=q:=(by omega);clear ho5 hg5 hoz hfz HPD HNC HNEWS hone2 HO;go_wp2_with fail;go_ret;exact ⟨rfl,by rw [ndc_app];exact HZ.out,FZ.out⟩
abbrev wkA (v:Value) (kd:Int) (x:Nd) (rs:Bool) (sf sp:Value) (i:Int):Array Value:=#[v,.int .i64 kd,.int .i64 x.id,.int .i64 x.kind,sf,sp,.int .i64 x.par,.int .i64 (x.rt 0),.int .i64 (x.rt 1),.int .i64 (x.rt 2),.int .i64 (x.rt 3),.int .i64 (x.rt 4),.int .i64 (x.rt 5),.int .i64 (x.rt 6),.int .i64 (x.rt 7),.bool rs,.int .i64 i]
structure Apart (gw gr:Nat) (w:World) (m:Ndm):Prop where
 inn:NdIn w w.heap.size m
 r1:Off (some gr) m.2.1
 r2:Off (some gr) m.2.2
 w1:Off (some gw) m.2.1
 w2:Off (some gw) m.2.2
theorem Apart.keep {gw gr:Nat} {w w':World} {m:Ndm} (h:Apart gw gr w m) (hf:Fr w.heap.size [gw,gr] w w'):Apart gw gr w' m:=by
 obtain ⟨⟨⟨A,c,h1,h2⟩,⟨A',c',h3,h4⟩⟩,r1,r2,w1,w2⟩:=h;refine ⟨⟨⟨A,c,h1,(h2.frL hf (Nat.le_refl _) fun hn ad ha hm => ?_).more hf.size⟩,⟨A',c',h3,(h4.frL hf (Nat.le_refl _) fun hn ad ha hm => ?_).more hf.size⟩⟩,r1,r2,w1,w2⟩
 ·
  have a1:=r1 A _ c h1 hn ad ha;have a2:=w1 A _ c h1 hn ad ha;simp at hm
  rcases hm with hm | hm
  · rw [hm] at a2;exact a2 rfl
  · rw [hm] at a1;exact a1 rfl
 ·
  have a1:=r2 A' _ c' h3 hn ad ha;have a2:=w2 A' _ c' h3 hn ad ha;simp at hm
  rcases hm with hm | hm
  · rw [hm] at a2;exact a2 rfl
  · rw [hm] at a1;exact a1 rfl
def SwapOut (k:Int) (b:Bool) (gr o:Nat) (sp:Value) (w:World) (e:Ending) (w':World):Prop :=
 (e=.returned (.int .i64 11)/\k ≠ 1/\Fr w.heap.size [] w w') \/ (e=.returned (.int .i64 9)/\k=1/\b=false/\Fr w.heap.size [] w w') \/
   (e=.returned (.int .i64 0)/\k=1/\b=true/\∃ wz,Fr w.heap.size [] w wz/\w'=wz.setCell ⟨gr,o+3,none⟩ sp)
theorem swap_any (v:Value) (kd:Int) (y:Nd) (rs:Bool) (sf sp:Value) (i:Int) (gw gr o:Nat) (k:Int) (tp:Value) (w:World) (hb:Blk w gw 316 (wkA v kd y rs sf sp i))
  (c1:w.cell? ⟨gr,o+1,none⟩=some (.int .i64 k)) (c3:w.cell? ⟨gr,o+3,none⟩=some tp) (z3:w.frozen? ⟨gr,o+3,none⟩=false) (hlt:gr < w.heap.size) (hst:NdIn w w.heap.size (y,sf,sp)) (h2:y.pg.length<=1000000) :
  Calls Tryz.prog 215 #[.pointer (some ⟨gw,0,none⟩),.pointer (some ⟨gr,o,none⟩)] w (SwapOut k (chkL y.pg).isSome gr o sp w):=by
 obtain ⟨_,⟨Ap,cp,hp1,hp2⟩⟩:=hst;simp only at hp1 hp2;subst hp1;have HS:=zh (safe_any (c:=cp) hp2 (Nat.le_refl _) (by unfold maxLen;omega));obtain ⟨np,hnp⟩:=nm (y.pg.length);obtain ⟨b,hbb⟩:=nm ((chkL y.pg).isSome);rw [<- hnp,<- hbb] at HS;rw [<- hbb];rw [<- hnp] at hb ⊢;have q5:=hb.cell 5;simp at q5;have HC3:=zh c3;have HZ3:=zh z3;have HB:=zh hb;clear hp2 hnp hbb hb c3 z3
 by_cases hk:k=1
 ·
  subst hk
  cases b with
  | false =>
   go_enter Tryz.func215,Tryz.ntmps215;go_wp2_with fail;refine HS.out.mono ?_;rintro e w1 ⟨rfl,f1⟩;have F1:=zh f1;clear f1 HS;go_wp2_with fail;go_ret;exact .inr (.inl ⟨rfl,rfl,rfl,F1.out⟩)
  | true =>
   have Q5:=zh q5;go_enter Tryz.func215,Tryz.ntmps215;go_wp2_with fail;refine HS.out.mono ?_;rintro e w1 ⟨rfl,f1⟩;have F1:=zh f1;have r5:=(f1.cell (p:=⟨gw,5,none⟩) HB.out.lt (by simp)).trans Q5.out;have r3:=(f1.cell (p:=⟨gr,o+3,none⟩) hlt (by simp)).trans HC3.out;have s3:=(f1.frozen (p:=⟨gr,o+3,none⟩) hlt (by simp)).trans HZ3.out;clear f1 HS q5 c1;go_wp2_with fail;go_ret;exact .inr (.inr ⟨rfl,rfl,rfl,w1,F1.out,rfl⟩)
 · go_enter Tryz.func215,Tryz.ntmps215;go_wp2_with fail;go_ret;exact .inl ⟨rfl,hk,Fr.refl _ _ _⟩
def AddOut (kd:Int) (y:Nd) (rs:Bool) (sf sp:Value) (i:Int) (gw gr n:Nat) (M:List Ndm) (w:World) (e:Ending) (w':World):Prop :=
 (0<=i/\e=.returned (.int .i64 13)/\Fr w.heap.size [] w w') \/ (i < 0/\y.kind=0/\e=.returned (.int .i64 11)/\Fr w.heap.size [] w w') \/
   (i < 0/\y.kind ≠ 0/\e=.returned (.int .i64 0)/\∃ A' c',Blk w' gw 316 (wkA (.slice A' (n+1) c') kd y rs sf sp i)/\w'.ownsRow 0 83 13 (.slice A' (n+1) c') (n+1) (cellsN (M ++ [(y,sf,sp)]))/\Fr w.heap.size [gw,gr] w w')
theorem add_any (n c:Nat) (kd:Int) (y:Nd) (rs:Bool) (sf sp:Value) (i:Int) (gw gr:Nat) (M:List Ndm) (w:World) (hb:Blk w gw 316 (wkA (.slice (some ⟨gr,0,none⟩) n c) kd y rs sf sp i))
  (ho:w.ownsRow 0 83 13 (.slice (some ⟨gr,0,none⟩) n c) n (cellsN M)) (hn:n<=1000000) (hst:NdIn w w.heap.size (y,sf,sp)) (hne:gw ≠ gr) :
  Calls Tryz.prog 182 #[.pointer (some ⟨gw,0,none⟩)] w (AddOut kd y rs sf sp i gw gr n M w):=by
 obtain ⟨⟨Af,cf,hf1,_⟩,⟨Ap,cp,hp1,_⟩⟩:=hst;simp only at hf1 hp1;subst hf1;subst hp1;obtain ⟨nf,hnf⟩:=nm (y.fr.length);obtain ⟨np,hnp⟩:=nm (y.pg.length);rw [<- hnf,<- hnp] at hb ⊢;have HB:=zh hb;have HO:=zh ho;have hlw:=hb.lt;have hlr:=(ho.lt gr rfl).2;have q16:=hb.cell 16;have q3:=hb.cell 3;simp at q16 q3;clear hnf hnp hb ho
 by_cases hi:0<=i
 · go_enter Tryz.func182,Tryz.ntmps182;go_wp2_with fail;go_ret;exact .inl ⟨hi,rfl,Fr.refl _ _ _⟩
 by_cases hk:y.kind=0
 · have HK:=zh hk;rw [hk] at q3;clear hk;go_enter Tryz.func182,Tryz.ntmps182;go_wp2_with fail;go_ret;exact .inr (.inl ⟨by omega,HK.out,rfl,Fr.refl _ _ _⟩)
 ·
  have HK:=zh hk;have hkb:(y.kind == 0)=false:=(by simpa using hk);have hi2:i < 0:=(by omega);clear hk;have q0:=HB.out.cell 0;have q2:=HB.out.cell 2;have q4:=HB.out.cell 4;have q5:=HB.out.cell 5;have q6:=HB.out.cell 6;have q7:=HB.out.cell 7;have q8:=HB.out.cell 8;have q9:=HB.out.cell 9;have q10:=HB.out.cell 10;have q11:=HB.out.cell 11;have q12:=HB.out.cell 12;have q13:=HB.out.cell 13;have q14:=HB.out.cell 14;simp at q0 q2 q4 q5 q6 q7 q8 q9 q10 q11 q12 q13 q14;have BN:=zh (Blk.new w.drew 83 (ndA y (.slice Af nf cf) (.slice Ap np cp)));have RN:=zh (Reads.of_blk (size:=13) (m:=1) BN.out rfl);have HOA:=zh (ownsRow_fr HO.out (((Fr.refl w.heap.size [] w).drew).alloc (Nat.le_refl _) (.cells (ndA y (.slice Af nf cf) (.slice Ap np cp)) 83)) (fun q hq=>⟨(HO.out.lt q hq).2,by simp⟩));have HBA:=zh (HB.out.drew.alloc (.cells (ndA y (.slice Af nf cf) (.slice Ap np cp)) 83));have FA:=zh (((Fr.refl w.heap.size [gw,gr] w).drew).alloc (Nat.le_refl _) (.cells (ndA y (.slice Af nf cf) (.slice Ap np cp)) 83));have hone:=zh (@ndOne y Af Ap nf cf np cp);go_enter Tryz.func182,Tryz.ntmps182;go_upto_region 5 with fail
  go_region_law
   ((refine step_app (by rfl) (.tmp 21) (.tmp 27) nodeTy (by rfl) 0 (.slice (some ⟨gr,0,none⟩) n c) n _ (by rfl) HOA.out (w.heap.size+1) (some ⟨w.heap.size,0,none⟩) 1 1 (ndA y (.slice Af nf cf) (.slice Ap np cp)).toList (by rfl) RN.out hone.out (by omega) (by omega) (by simp) ?_;intro A6 c6 w6 hown6 hg6 hat6;have hfz6:w6.frozen? ⟨gw,0,none⟩=false:=(hg6.frozen_far ⟨gw,0,none⟩ (by simp;omega) (by simp [Value.ownBlock];exact hne)).trans (HBA.out.frozen 0);have hcl6:w6.cell? ⟨gw,0,none⟩=some (.slice (some ⟨gr,0,none⟩) n c):=(hg6.cell_far ⟨gw,0,none⟩ (by simp;omega) (by simp [Value.ownBlock];exact hne)).trans (HBA.out.cell 0)))
  all_goals
   go_wp2_with fail;go_ret;have hb6:=(HBA.out.grown hg6 (by simp [Value.ownBlock];exact hne)).set_ 0 (.slice A6 (n+1) c6);simp only [List.setIfInBounds_toArray,List.set_cons_zero] at hb6;have hlt6:=hown6.lt;have f6:=(Fr.refl w6.heap.size [gw] w6).setCell (p:=⟨gw,0,none⟩) (.inr (by simp)) (.slice A6 (n+1) c6)
   have ho6 := ownsRow_fr hown6 f6 (fun q hq => ⟨(hlt6 q hq).2, by
    rw [hq] at hat6;simp [Value.ownBlock] at hat6;simp
    rcases hat6 with h | h
    · rw [h];exact Ne.symm hne
    · omega⟩)
   rw [show cellsN M ++ (ndA y (.slice Af nf cf) (.slice Ap np cp)).toList=cellsN (M ++ [(y,.slice Af nf cf,.slice Ap np cp)]) by rw [cellsN_app];simp [cellsN,ndL]] at ho6;exact .inr (.inr ⟨hi2,HK.out,rfl,A6,c6,hb6,ho6,(FA.out.grown hg6 (by simp) (fun q hq=>.inr (by simp [Value.ownBlock] at hq;simp [hq]))).setCell (p:=⟨gw,0,none⟩) (.inr (by simp)) _⟩)
def ChgOut (r:Int × List Nd) (kd:Int) (y:Nd) (rs:Bool) (sf sp:Value) (i:Int) (gw gr:Nat) (w:World) (e:Ending) (w':World):Prop :=
 (r.1 ≠ 0/\e=.returned (.int .i64 r.1)/\Fr w.heap.size [gw,gr] w w') \/
 (r.1=0/\e=.returned (.int .i64 0)/\∃ A' n' c' M',Blk w' gw 316 (wkA (.slice A' n' c') kd y rs sf sp i)/\w'.ownsRow 0 83 13 (.slice A' n' c') n' (cellsN M')/\n'=M'.length/\(∀ m ∈ M',Apart gw gr w' m)/\fstN M'=r.2/\Fr w.heap.size [gw,gr] w w')
structure Wk (gw gr n c:Nat) (kd:Int) (y:Nd) (rs:Bool) (sf sp:Value) (i:Int) (M:List Ndm) (w:World):Prop where
 blk:Blk w gw 316 (wkA (.slice (some ⟨gr,0,none⟩) n c) kd y rs sf sp i)
 own:w.ownsRow 0 83 13 (.slice (some ⟨gr,0,none⟩) n c) n (cellsN M)
 num:n=M.length
 each:∀ m ∈ M,Apart gw gr w m
 st:Apart gw gr w (y,sf,sp)
 ne:gw ≠ gr
theorem Wk.keep {gw gr n c:Nat} {kd:Int} {y:Nd} {rs:Bool} {sf sp:Value} {i:Int} {M:List Ndm} {w w':World} (h:Wk gw gr n c kd y rs sf sp i M w) (hf:Fr w.heap.size [] w w'):Wk gw gr n c kd y rs sf sp i M w' :=
 ⟨h.blk.fr hf h.blk.lt (by simp),ownsRow_fr h.own hf (fun q hq=>⟨(h.own.lt q hq).2,by simp⟩),h.num,fun m hm=>(h.each m hm).keep (hf.mono (Nat.le_refl _) (by simp)),h.st.keep (hf.mono (Nat.le_refl _) (by simp)),h.ne⟩
theorem Wk.nds {gw gr n c:Nat} {kd:Int} {y:Nd} {rs:Bool} {sf sp:Value} {i:Int} {M:List Ndm} {w:World} (h:Wk gw gr n c kd y rs sf sp i M w):Nds w w.heap.size (some ⟨gr,0,none⟩) n M :=
 ⟨h.num,Reads.of_own h.own,fun m hm=>(h.each m hm).inn⟩
theorem find_here {M:List Ndm} {k:Nat} {m:Ndm} {id:Int} (hu:(idsN (fstN M)).Nodup) (hk:M[k]?=some m) (hid:m.1.id=id):findN (fstN M) id=some m.1:=by
 rw [<- hid];exact findN_one hu (List.mem_map.2 ⟨m,List.mem_of_getElem? hk,rfl⟩)
theorem ids_apart {M:List Ndm} (hu:(idsN (fstN M)).Nodup) {k j:Nat} {a b:Ndm} (ha:M[k]?=some a) (hb:M[j]?=some b) (h:a.1.id=b.1.id):k=j:=by
 have h1:(idsN (fstN M))[k]?=some a.1.id:=(by simp [idsN,fstN,ha]);have h2:(idsN (fstN M))[j]?=some b.1.id:=(by simp [idsN,fstN,hb]);rw [h] at h1;obtain ⟨hk,e1⟩:=List.getElem?_eq_some_iff.1 h1;obtain ⟨hj,e2⟩:=List.getElem?_eq_some_iff.1 h2;exact (List.getElem_inj hu).1 (e1.trans e2.symm)
theorem upd_here {M:List Ndm} {k:Nat} {m:Ndm} {id:Int} (hu:(idsN (fstN M)).Nodup) (hk:M[k]?=some m) (hid:m.1.id=id) (f:Nd->Nd) (tf tp:Value):fstN (M.set k (f m.1,tf,tp))=updN (fstN M) id f:=by
 apply List.ext_getElem?;intro j;have hkl:k < M.length:=(List.getElem?_eq_some_iff.1 hk).1;unfold updN fstN;rw [List.getElem?_map,List.getElem?_map,List.getElem?_map]
 by_cases hj:k=j
 · subst hj;rw [List.getElem?_set_self hkl,hk];simp [hid]
 ·
  rw [List.getElem?_set_ne hj]
  cases h:M[j]? with
  | none=>rfl
  | some b =>
   have:b.1.id ≠ id:=fun e=>hj (ids_apart hu hk h (hid.trans e.symm));simp [this]
theorem del_here {M:List Ndm} {k:Nat} {m:Ndm} {id:Int} (hu:(idsN (fstN M)).Nodup) (hk:M[k]?=some m) (hid:m.1.id=id):fstN (M.take k ++ M.drop (k+1))=delN (fstN M) id:=by
 have hkl:k < M.length:=(List.getElem?_eq_some_iff.1 hk).1
 have hsp:M=M.take k ++ m :: M.drop (k+1):=by
  rw [show m=M[k] from (List.getElem?_eq_some_iff.1 hk).2.symm,<- List.drop_eq_getElem_cons hkl,List.take_append_drop]
 have ht:∀ b ∈ M.take k,b.1.id ≠ id:=fun b hb e=>by
  obtain ⟨j,hj,rfl⟩:=List.mem_iff_getElem.1 hb;rw [List.length_take] at hj;have:=ids_apart hu hk (List.getElem?_eq_getElem (show j < M.length by omega)) (by rw [hid,<- e,List.getElem_take]);omega
 have hd:∀ b ∈ M.drop (k+1),b.1.id ≠ id:=fun b hb e=>by
  obtain ⟨j,hj,rfl⟩:=List.mem_iff_getElem.1 hb;rw [List.length_drop] at hj;have:=ids_apart hu hk (List.getElem?_eq_getElem (show k+1+j < M.length by omega)) (by rw [hid,<- e,List.getElem_drop]);omega
 unfold delN fstN
 conv=>rhs;rw [hsp]
 rw [List.map_append,List.map_append,List.filter_append,List.map_cons,List.filter_cons]
 rw [if_neg (by simp [hid]), List.filter_eq_self.2 (by
  intro x hx;obtain ⟨b,hb,rfl⟩:=List.mem_map.1 hx
  simpa using ht b hb),List.filter_eq_self.2 (by
  intro x hx;obtain ⟨b,hb,rfl⟩:=List.mem_map.1 hx
  simpa using hd b hb)]
theorem nd_set {w:World} {gr n c k j:Nat} {M:List Ndm} {m m':Ndm} {u:Value} (ho:w.ownsRow 0 83 13 (.slice (some ⟨gr,0,none⟩) n c) n (cellsN M)) (hk:M[k]?=some m) (hj:j < 13) (hu:ndL m'=(ndL m).set j u) :
  (w.setCell ⟨gr,k * 13+j,none⟩ u).ownsRow 0 83 13 (.slice (some ⟨gr,0,none⟩) n c) n (cellsN (M.set k m')):=by
 have h:=ownsRow_setN ho (k * 13+j) u;have hkl:k < M.length:=(List.getElem?_eq_some_iff.1 hk).1
 rw [show cellsN (M.set k m') = (cellsN M).set (k * 13 + j) u by
  apply List.ext_getElem?;intro q;have hl:(cellsN M).length=M.length * 13:=cellsN_length M
  rcases Nat.lt_or_ge q (M.length * 13) with hq | hq
  ·
   have hq13:q / 13 < M.length:=by omega
   obtain ⟨a,ha⟩:∃ a,M[q / 13]?=some a:=⟨_,List.getElem?_eq_getElem hq13⟩;have hqe:q=q / 13 * 13+q % 13:=(by omega)
   by_cases hkq:k=q / 13
   ·
    have e1:(cellsN (M.set k m'))[q]?=(ndL m')[q % 13]?:=by
     conv=>lhs;rw [hqe]
     exact cellsN_get (by rw [<- hkq,List.getElem?_set_self hkl]) _ (by omega)
    have e2:(cellsN M)[q]?=(ndL m)[q % 13]?:=by
     conv=>lhs;rw [hqe]
     exact cellsN_get (by rw [<- hkq];exact hk) _ (by omega)
    rw [e1,hu]
    by_cases hjq:j=q % 13
    · rw [<- hjq,List.getElem?_set_self (by simp [ndL];omega),show q=k * 13+j by omega,List.getElem?_set_self (by rw [hl];omega)]
    · rw [List.getElem?_set_ne hjq,List.getElem?_set_ne (by omega),e2]
   ·
    have e1:(cellsN (M.set k m'))[q]?=(ndL a)[q % 13]?:=by
     conv=>lhs;rw [hqe]
     exact cellsN_get (by rw [List.getElem?_set_ne hkq];exact ha) _ (by omega)
    have e2:(cellsN M)[q]?=(ndL a)[q % 13]?:=by
     conv=>lhs;rw [hqe]
     exact cellsN_get ha _ (by omega)
    rw [e1,List.getElem?_set_ne (by omega),e2]
  · rw [List.getElem?_eq_none (by rw [cellsN_length,List.length_set];exact hq),List.getElem?_eq_none (by rw [List.length_set,hl];exact hq)]]
 exact h
theorem setAt_left (b:List Value) (o:Nat):∀ (us:List Value) (a:List Value) (j:Nat),o+j+us.length<=a.length->setAt (a ++ b) o j us=setAt a o j us ++ b
 | [],_,_,_=>rfl
 | u :: us,a,j,h=>by
  have h1:us.length+1+(o+j)<=a.length:=(by rw [List.length_cons] at h;omega)
  show setAt ((a ++ b).set (o+j) u) o (j+1) us=setAt (a.set (o+j) u) o (j+1) us ++ b
  rw [List.set_append_left _ _ (by omega)];exact setAt_left b o us _ _ (by rw [List.length_set];omega)
theorem cells_put {M:List Ndm} {k:Nat} {m m':Ndm} (hk:M[k]?=some m) (o:Nat) (us:List Value) (ho:o+us.length<=13) (hm:ndL m'=setAt (ndL m) o 0 us):cellsN (M.set k m')=setAt (cellsN M) (k * 13+o) 0 us:=by
 have hkl:k < M.length:=(List.getElem?_eq_some_iff.1 hk).1
 have hsp:M=M.take k ++ m :: M.drop (k+1):=by
  rw [show m=M[k] from (List.getElem?_eq_some_iff.1 hk).2.symm,<- List.drop_eq_getElem_cons hkl,List.take_append_drop]
 have h1:cellsN M=cellsN (M.take k) ++ (ndL m ++ cellsN (M.drop (k+1))):=by
  conv=>lhs;rw [hsp]
  rw [cellsN_app];rfl
 have h2:cellsN (M.set k m')=cellsN (M.take k) ++ (ndL m' ++ cellsN (M.drop (k+1))):=by
  rw [List.set_eq_take_append_cons_drop,if_pos hkl,cellsN_app];rfl
 have hl:k * 13=(cellsN (M.take k)).length:=(by rw [cellsN_length,List.length_take];omega);rw [h1,h2,hl,setAt_app,setAt_left _ _ _ _ _ (by have:(ndL m).length=13:=rfl;omega),hm]
theorem far_setW {g k t:Nat} (hk:k ≠ g) (o:Nat):∀ (us:List Value) (j:Nat) (w:World) {cs:Array Value},Blk w k t cs->Blk (setW w g o j us) k t cs
 | [],_,_,_,h=>h
 | u :: us,j,w,_,h=>far_setW hk o us (j+1) _ (h.far (p:=⟨g,o+j,none⟩) hk u)
theorem nest_nine (w:World) (g o:Nat) (u4 u5 u6 u7 u8 u9 u10 u11 u12:Value):((((((((w.setCell ⟨g,o+4,none⟩ u4).setCell ⟨g,o+5,none⟩ u5).setCell ⟨g,o+5+1,none⟩ u6).setCell ⟨g,o+5+2,none⟩ u7).setCell ⟨g,o+5+3,none⟩ u8).setCell ⟨g,o+5+4,none⟩ u9).setCell ⟨g,o+5+5,none⟩ u10).setCell ⟨g,o+5+6,none⟩ u11).setCell ⟨g,o+5+7,none⟩ u12=setW w g (o+4) 0 [u4,u5,u6,u7,u8,u9,u10,u11,u12]:=by
 simp only [setW,Nat.add_assoc,Nat.reduceAdd,Nat.add_zero]
theorem change_none (gw gr n c:Nat) (kd:Int) (y:Nd) (rs:Bool) (sf sp:Value) (i:Int) (M:List Ndm) (w:World) (h:Wk gw gr n c kd y rs sf sp i M w) (hi:i < 0) :
  Calls Tryz.prog 183 #[.pointer (some ⟨gw,0,none⟩)] w (ChgOut (12,[]) kd y rs sf sp i gw gr w):=by
 have q16:=h.blk.cell 16;simp at q16;clear h;go_enter Tryz.func183,Tryz.ntmps183;go_wp2_with fail;go_ret;exact .inl ⟨by simp,rfl,Fr.refl _ _ _⟩
theorem change_swap (gw gr n c k:Nat) (y:Nd) (rs:Bool) (sf sp:Value) (M:List Ndm) (m:Ndm) (w:World) (h:Wk gw gr n c 1 y rs sf sp k M w) (hk:M[k]?=some m) (hid:m.1.id=y.id) (hu:(idsN (fstN M)).Nodup) (h2:y.pg.length<=1000000) :
  Calls Tryz.prog 183 #[.pointer (some ⟨gw,0,none⟩)] w (ChgOut (chgN (fstN M) ⟨1,y,rs⟩) 1 y rs sf sp k gw gr w):=by
 have hkl:k < M.length:=(List.getElem?_eq_some_iff.1 hk).1;have q16:=h.blk.cell 16;have q0:=h.blk.cell 0;have q1:=h.blk.cell 1;simp at q16 q0 q1;obtain ⟨x,tf,tp⟩:=m;simp only at hid;obtain ⟨g0,g1,g2,g3,g4,g5,g6,g7,g8,g9,g10,g11,g12⟩:=ndL_get (x,tf,tp);have HSW:=zh (fun (wx:World) (hx:Fr w.heap.size [] w wx)=>(swap_any (.slice (some ⟨gr,0,none⟩) n c) 1 y rs sf sp k gw gr (k * 13) x.kind tp wx (h.keep hx).blk (nd_cell (h.keep hx).own hk 1 _ g1) (nd_cell (h.keep hx).own hk 3 _ g3) ((h.keep hx).own.frozenAt _) (((h.keep hx).own.lt gr rfl).2) (h.keep hx).st.inn h2));obtain ⟨r,hr⟩:=nm (chgN (fstN M) ⟨1,y,rs⟩)
 have HR := zh (show r = if x.kind = 1 then (if (chkL y.pg).isSome = true then (0, updN (fstN M) y.id (pgN y.pg)) else (9, [])) else (11, []) by
  rw [hr];unfold chgN;rw [find_here hu hk hid]
  simp)
 rw [<- hr];have HUP:=zh (upd_here hu hk hid (pgN y.pg) tf sp);have HK:=zh hk;have H:=zh h;have hk0:(0:Int)<=(k:Int):=(by omega);have hkn:(k:Int) < (n:Int):=(by have:=h.num;omega);have HKL:=zh hkl;clear h hk hid hu g0 g1 g2 g3 g4 g5 g6 g7 g8 g9 g10 g11 g12 hkl hr;go_enter Tryz.func183,Tryz.ntmps183;go_upto_region 3 with fail;go_region;have q1':w.drew.cell? ⟨gw,1,none⟩=some (.int .i64 1):=q1;go_wp2_with fail;refine (HSW.out _ (Fr.refl _ _ _).drew).mono ?_;rintro e w1 h1;have hf0:=(Fr.refl w.heap.size [] w).drew
 rcases h1 with ⟨rfl,e1,f1⟩ | ⟨rfl,e1,e2,f1⟩ | ⟨rfl,e1,e2,wz,f1,rfl⟩
 · have HR1:=zh (show r=(11,[]) by rw [HR.out,if_neg e1]);have F1:=zh ((hf0.trans f1).mono (B':=w.heap.size) (L':=[gw,gr]) (Nat.le_refl _) (by simp));clear f1 hf0 HR;go_wp2_with fail;go_ret;rw [HR1.out];exact .inl ⟨by simp,rfl,F1.out⟩
 · have HR1:=zh (show r=(9,[]) by rw [HR.out,if_pos e1,e2];rfl);have F1:=zh ((hf0.trans f1).mono (B':=w.heap.size) (L':=[gw,gr]) (Nat.le_refl _) (by simp));clear f1 hf0 HR e2;go_wp2_with fail;go_ret;rw [HR1.out];exact .inl ⟨by simp,rfl,F1.out⟩
 ·
  have HR1:=zh (show r=(0,updN (fstN M) y.id (pgN y.pg)) by rw [HR.out,if_pos e1,if_pos e2]);have hf1:=hf0.trans f1;have hwk:=H.out.keep hf1;have f2:=(Fr.refl wz.heap.size [gw,gr] wz).setCell (p:=⟨gr,k * 13+3,none⟩) (.inr (by simp)) sp;have ho2:=nd_set (m':=(pgN y.pg x,tf,sp)) (u:=sp) hwk.own HK.out (j:=3) (by omega) rfl;have HO2:=zh ho2;have HB2:=zh (hwk.blk.far (p:=⟨gr,k * 13+3,none⟩) hwk.ne sp)
  have HA2 := zh (show ∀ m' ∈ M.set k (pgN y.pg x, tf, sp), Apart gw gr (wz.setCell ⟨gr, k * 13 + 3, none⟩ sp) m' from fun m' hm' => by
   rcases List.mem_or_eq_of_mem_set hm' with hm' | rfl
   · exact (hwk.each m' hm').keep f2
   ·
    have a:=(hwk.each _ (List.mem_of_getElem? HK.out)).keep f2;have b:=hwk.st.keep f2
    exact ⟨⟨a.inn.fr,b.inn.pg⟩,a.r1,b.r2,a.w1,b.w2⟩)
  have F2:=zh ((hf1.mono (B':=w.heap.size) (L':=[gw,gr]) (Nat.le_refl _) (by simp)).trans (f2.mono (B':=w.heap.size) (L':=[gw,gr]) hf1.size (by simp)));have HN:=zh (show n=(M.set k (pgN y.pg x,tf,sp)).length by rw [List.length_set];exact hwk.num);clear ho2 hwk f2 hf1 hf0 f1 HR e2 q1';generalize wz.setCell ⟨gr,k * 13+3,none⟩ sp=w2 at *;go_wp2_with fail;go_ret;rw [HR1.out];exact .inr ⟨rfl,rfl,_,n,c,_,HB2.out,HO2.out,HN.out,HA2.out,HUP.out,F2.out⟩
theorem change_link (gw gr n c k:Nat) (y:Nd) (rs:Bool) (sf sp:Value) (M:List Ndm) (m:Ndm) (w:World) (h:Wk gw gr n c 5 y rs sf sp k M w) (hk:M[k]?=some m) (hid:m.1.id=y.id) (hu:(idsN (fstN M)).Nodup) :
  Calls Tryz.prog 183 #[.pointer (some ⟨gw,0,none⟩)] w (ChgOut (chgN (fstN M) ⟨5,y,rs⟩) 5 y rs sf sp k gw gr w):=by
 have hkl:k < M.length:=(List.getElem?_eq_some_iff.1 hk).1;obtain ⟨x,tf,tp⟩:=m;simp only at hid;obtain ⟨g0,g1,g2,g3,g4,g5,g6,g7,g8,g9,g10,g11,g12⟩:=ndL_get (x,tf,tp);obtain ⟨r,hr⟩:=nm (chgN (fstN M) ⟨5,y,rs⟩)
 have HR := zh (show r = if x.kind = 2 then (0, updN (fstN M) y.id (frN y.fr)) else (11, []) by
  rw [hr];unfold chgN;rw [find_here hu hk hid]
  simp)
 rw [<- hr];have HUP:=zh (upd_here hu hk hid (frN y.fr) sf tp);obtain ⟨⟨Af,cf,hf1,_⟩,_⟩:=h.st.inn;simp only at hf1;subst hf1;obtain ⟨nf,hnf⟩:=nm (y.fr.length);rw [<- hnf] at h HUP ⊢;clear hnf;have q16:=h.blk.cell 16;have q0:=h.blk.cell 0;have q1:=h.blk.cell 1;have q4:=h.blk.cell 4;simp at q16 q0 q1 q4;have r1:=nd_cell h.own hk 1 _ g1;have r2:=nd_cell h.own hk 2 _ g2;have z2:=h.own.frozenAt (k * 13+2);have HK:=zh hk;have H:=zh h;have hk0:(0:Int)<=(k:Int):=(by omega);have hkn:(k:Int) < (n:Int):=(by have:=h.num;omega);clear h hk hid hu g0 g1 g2 g3 g4 g5 g6 g7 g8 g9 g10 g11 g12 hkl hr;go_enter Tryz.func183,Tryz.ntmps183;go_upto_region 3 with fail;go_region;have HQ:=zh q0;have HWD:=zh (H.out.keep (Fr.refl w.heap.size [] w).drew);have F0:=zh (Fr.refl w.heap.size [gw,gr] w).drew;replace q1:w.drew.cell? ⟨gw,1,none⟩=some (.int .i64 5):=q1;replace q4:w.drew.cell? ⟨gw,4,none⟩=some (.slice Af nf cf):=q4;replace r1:w.drew.cell? ⟨gr,k * 13+1,none⟩=some (.int .i64 x.kind):=r1;replace r2:w.drew.cell? ⟨gr,k * 13+2,none⟩=some tf:=r2;replace z2:w.drew.frozen? ⟨gr,k * 13+2,none⟩=false:=z2;clear H;generalize w.drew=wz at *
 by_cases hx:x.kind=2
 ·
  have HR1:=zh (show r=(0,updN (fstN M) y.id (frN y.fr)) by rw [HR.out,if_pos hx]);rw [hx] at r1;have hwk:=HWD.out;have f2:=(Fr.refl wz.heap.size [gw,gr] wz).setCell (p:=⟨gr,k * 13+2,none⟩) (.inr (by simp)) (.slice Af nf cf);have HO2:=zh (nd_set (m':=(frN y.fr x,.slice Af nf cf,tp)) (u:=.slice Af nf cf) hwk.own HK.out (j:=2) (by omega) rfl);have HB2:=zh (hwk.blk.far (p:=⟨gr,k * 13+2,none⟩) hwk.ne (.slice Af nf cf))
  have HA2 := zh (show ∀ m' ∈ M.set k (frN y.fr x, .slice Af nf cf, tp), Apart gw gr (wz.setCell ⟨gr, k * 13 + 2, none⟩ (.slice Af nf cf)) m' from fun m' hm' => by
   rcases List.mem_or_eq_of_mem_set hm' with hm' | rfl
   · exact (hwk.each m' hm').keep f2
   ·
    have a:=(hwk.each _ (List.mem_of_getElem? HK.out)).keep f2;have b:=hwk.st.keep f2
    exact ⟨⟨b.inn.fr,a.inn.pg⟩,b.r1,a.r2,b.w1,a.w2⟩)
  have F2:=zh (F0.out.trans (f2.mono (B':=w.heap.size) (L':=[gw,gr]) F0.out.size (by simp)));have HN:=zh (show n=(M.set k (frN y.fr x,.slice Af nf cf,tp)).length by rw [List.length_set];exact hwk.num);clear hwk f2 HR HWD F0 hx;go_wp2_with fail;go_ret;rw [HR1.out];exact .inr ⟨rfl,rfl,_,n,c,_,HB2.out,HO2.out,HN.out,HA2.out,HUP.out,F2.out⟩
 · have HR1:=zh (show r=(11,[]) by rw [HR.out,if_neg hx]);have hkb:=kd_ne hx;clear HR hx;go_wp2_with fail;go_ret;rw [HR1.out];exact .inl ⟨by simp,rfl,F0.out⟩
theorem change_route (gw gr n c k:Nat) (y:Nd) (rs:Bool) (sf sp:Value) (M:List Ndm) (m:Ndm) (w:World) (h:Wk gw gr n c 4 y rs sf sp k M w) (hk:M[k]?=some m) (hid:m.1.id=y.id) (hu:(idsN (fstN M)).Nodup) :
  Calls Tryz.prog 183 #[.pointer (some ⟨gw,0,none⟩)] w (ChgOut (chgN (fstN M) ⟨4,y,rs⟩) 4 y rs sf sp k gw gr w):=by
 have hkl:k < M.length:=(List.getElem?_eq_some_iff.1 hk).1;obtain ⟨x,tf,tp⟩:=m;simp only at hid;obtain ⟨g0,g1,g2,g3,g4,g5,g6,g7,g8,g9,g10,g11,g12⟩:=ndL_get (x,tf,tp);obtain ⟨r,hr⟩:=nm (chgN (fstN M) ⟨4,y,rs⟩)
 have HR := zh (show r = if x.kind = 0 then (11, []) else (0, updN (fstN M) y.id (rtN y.par y.rt)) by
  rw [hr];unfold chgN;rw [find_here hu hk hid]
  simp)
 rw [<- hr];have HUP:=zh (upd_here hu hk hid (rtN y.par y.rt) tf tp);have q16:=h.blk.cell 16;have q0:=h.blk.cell 0;have q1:=h.blk.cell 1;have q6:=h.blk.cell 6;have q7:=h.blk.cell 7;have q8:=h.blk.cell 8;have q9:=h.blk.cell 9;have q10:=h.blk.cell 10;have q11:=h.blk.cell 11;have q12:=h.blk.cell 12;have q13:=h.blk.cell 13;have q14:=h.blk.cell 14;simp at q16 q0 q1 q6 q7 q8 q9 q10 q11 q12 q13 q14;have r1:=nd_cell h.own hk 1 _ g1;have r4:=nd_cell h.own hk 4 _ g4;have r5:=nd_cell h.own hk 5 _ g5;have r6:=nd_cell h.own hk 6 _ g6;have r7:=nd_cell h.own hk 7 _ g7;have r8:=nd_cell h.own hk 8 _ g8;have r9:=nd_cell h.own hk 9 _ g9;have r10:=nd_cell h.own hk 10 _ g10;have r11:=nd_cell h.own hk 11 _ g11;have r12:=nd_cell h.own hk 12 _ g12;have z4:=h.own.frozenAt (k * 13+4);have z5:=h.own.frozenAt (k * 13+5);have z6:=h.own.frozenAt (k * 13+6);have z7:=h.own.frozenAt (k * 13+7);have z8:=h.own.frozenAt (k * 13+8);have z9:=h.own.frozenAt (k * 13+9);have z10:=h.own.frozenAt (k * 13+10);have z11:=h.own.frozenAt (k * 13+11);have z12:=h.own.frozenAt (k * 13+12);have HK:=zh hk;have H:=zh h;have hk0:(0:Int)<=(k:Int):=(by omega);have hkn:(k:Int) < (n:Int):=(by have:=h.num;omega);clear h hk hid hu g0 g1 g2 g3 g4 g5 g6 g7 g8 g9 g10 g11 g12 hkl hr;go_enter Tryz.func183,Tryz.ntmps183;go_upto_region 3 with fail;go_region;have HQ:=zh q0;have HWD:=zh (H.out.keep (Fr.refl w.heap.size [] w).drew);have F0:=zh (Fr.refl w.heap.size [gw,gr] w).drew;replace q1:w.drew.cell? ⟨gw,1,none⟩=some (.int .i64 4):=q1;replace q6:w.drew.cell? ⟨gw,6,none⟩=some (.int .i64 y.par):=q6;replace q7:w.drew.cell? ⟨gw,7,none⟩=some (.int .i64 (y.rt 0)):=q7;replace q8:w.drew.cell? ⟨gw,8,none⟩=some (.int .i64 (y.rt 1)):=q8;replace q9:w.drew.cell? ⟨gw,9,none⟩=some (.int .i64 (y.rt 2)):=q9;replace q10:w.drew.cell? ⟨gw,10,none⟩=some (.int .i64 (y.rt 3)):=q10;replace q11:w.drew.cell? ⟨gw,11,none⟩=some (.int .i64 (y.rt 4)):=q11;replace q12:w.drew.cell? ⟨gw,12,none⟩=some (.int .i64 (y.rt 5)):=q12;replace q13:w.drew.cell? ⟨gw,13,none⟩=some (.int .i64 (y.rt 6)):=q13;replace q14:w.drew.cell? ⟨gw,14,none⟩=some (.int .i64 (y.rt 7)):=q14;replace r1:w.drew.cell? ⟨gr,k * 13+1,none⟩=some (.int .i64 x.kind):=r1;replace r4:w.drew.cell? ⟨gr,k * 13+4,none⟩=some (.int .i64 x.par):=r4;replace r5:w.drew.cell? ⟨gr,k * 13+5,none⟩=some (.int .i64 (x.rt 0)):=r5;replace r6:w.drew.cell? ⟨gr,k * 13+6,none⟩=some (.int .i64 (x.rt 1)):=r6;replace r7:w.drew.cell? ⟨gr,k * 13+7,none⟩=some (.int .i64 (x.rt 2)):=r7;replace r8:w.drew.cell? ⟨gr,k * 13+8,none⟩=some (.int .i64 (x.rt 3)):=r8;replace r9:w.drew.cell? ⟨gr,k * 13+9,none⟩=some (.int .i64 (x.rt 4)):=r9;replace r10:w.drew.cell? ⟨gr,k * 13+10,none⟩=some (.int .i64 (x.rt 5)):=r10;replace r11:w.drew.cell? ⟨gr,k * 13+11,none⟩=some (.int .i64 (x.rt 6)):=r11;replace r12:w.drew.cell? ⟨gr,k * 13+12,none⟩=some (.int .i64 (x.rt 7)):=r12;replace z4:w.drew.frozen? ⟨gr,k * 13+4,none⟩=false:=z4;replace z5:w.drew.frozen? ⟨gr,k * 13+5,none⟩=false:=z5;replace z6:w.drew.frozen? ⟨gr,k * 13+6,none⟩=false:=z6;replace z7:w.drew.frozen? ⟨gr,k * 13+7,none⟩=false:=z7;replace z8:w.drew.frozen? ⟨gr,k * 13+8,none⟩=false:=z8;replace z9:w.drew.frozen? ⟨gr,k * 13+9,none⟩=false:=z9;replace z10:w.drew.frozen? ⟨gr,k * 13+10,none⟩=false:=z10;replace z11:w.drew.frozen? ⟨gr,k * 13+11,none⟩=false:=z11;replace z12:w.drew.frozen? ⟨gr,k * 13+12,none⟩=false:=z12;clear H;generalize w.drew=wz at *
 by_cases hx:x.kind=0
 · have HR1:=zh (show r=(11,[]) by rw [HR.out,if_pos hx]);rw [hx] at r1;clear HR hx;go_wp2_with fail;go_ret;rw [HR1.out];exact .inl ⟨by simp,rfl,F0.out⟩
 ·
  have HR1:=zh (show r=(0,updN (fstN M) y.id (rtN y.par y.rt)) by rw [HR.out,if_neg hx]);have hkb:=kd_ne hx;have hne:=HWD.out.ne;clear HR hx;go_upto_region 17 with fail;go_region;rw [nest_nine];have hwk:=HWD.out;have f2:=fr_setW (B:=wz.heap.size) (g:=gr) (o:=k * 13+4) (L:=[gw,gr]) (a:=wz) (.inr (by simp)) [.int .i64 y.par,.int .i64 (y.rt 0),.int .i64 (y.rt 1),.int .i64 (y.rt 2),.int .i64 (y.rt 3),.int .i64 (y.rt 4),.int .i64 (y.rt 5),.int .i64 (y.rt 6),.int .i64 (y.rt 7)] 0 wz (Fr.refl _ _ _);have ho2:=owns_setW (o:=k * 13+4) [.int .i64 y.par,.int .i64 (y.rt 0),.int .i64 (y.rt 1),.int .i64 (y.rt 2),.int .i64 (y.rt 3),.int .i64 (y.rt 4),.int .i64 (y.rt 5),.int .i64 (y.rt 6),.int .i64 (y.rt 7)] 0 wz _ hwk.own;rw [<- cells_put (m':=(rtN y.par y.rt x,tf,tp)) HK.out 4 [.int .i64 y.par,.int .i64 (y.rt 0),.int .i64 (y.rt 1),.int .i64 (y.rt 2),.int .i64 (y.rt 3),.int .i64 (y.rt 4),.int .i64 (y.rt 5),.int .i64 (y.rt 6),.int .i64 (y.rt 7)] (by simp) rfl] at ho2;have HO2:=zh ho2;have HB2:=zh (far_setW hwk.ne (k * 13+4) [.int .i64 y.par,.int .i64 (y.rt 0),.int .i64 (y.rt 1),.int .i64 (y.rt 2),.int .i64 (y.rt 3),.int .i64 (y.rt 4),.int .i64 (y.rt 5),.int .i64 (y.rt 6),.int .i64 (y.rt 7)] 0 wz hwk.blk);obtain ⟨wq,hwq⟩:=nm (setW wz gr (k * 13+4) 0 [.int .i64 y.par,.int .i64 (y.rt 0),.int .i64 (y.rt 1),.int .i64 (y.rt 2),.int .i64 (y.rt 3),.int .i64 (y.rt 4),.int .i64 (y.rt 5),.int .i64 (y.rt 6),.int .i64 (y.rt 7)]);rw [<- hwq] at f2 HO2 HB2 ⊢
  have HA2 := zh (show ∀ m' ∈ M.set k (rtN y.par y.rt x, tf, tp), Apart gw gr wq m' from fun m' hm' => by
   rcases List.mem_or_eq_of_mem_set hm' with hm' | rfl
   · exact (hwk.each m' hm').keep f2
   ·
    have a:=(hwk.each _ (List.mem_of_getElem? HK.out)).keep f2
    exact ⟨⟨a.inn.fr,a.inn.pg⟩,a.r1,a.r2,a.w1,a.w2⟩)
  have F2:=zh (F0.out.trans (f2.mono (B':=w.heap.size) (L':=[gw,gr]) F0.out.size (by simp)));have HN:=zh (show n=(M.set k (rtN y.par y.rt x,tf,tp)).length by rw [List.length_set];exact hwk.num);clear hwk f2 HWD F0 ho2 hwq;go_wp2_with fail;go_ret;rw [HR1.out];exact .inr ⟨rfl,rfl,_,n,c,_,HB2.out,HO2.out,HN.out,fun m hm=>(HA2.out m hm).keep (Fr.refl _ _ _).drew,HUP.out,F2.out.drew⟩

end Go.Proofs.YtlejomlppjpchaaGreat
namespace Go.Proofs.YtlejomlppjpchaaGreat
set_option maxRecDepth 100000
set_option maxHeartbeats 16000000
set_option linter.unusedVariables false

end Go.Proofs.YtlejomlppjpchaaGreat
