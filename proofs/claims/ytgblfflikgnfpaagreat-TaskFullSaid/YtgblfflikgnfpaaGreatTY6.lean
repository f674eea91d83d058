/- Texts merged into one, for the number of files a claim may have: SortI, NdA, NdB, NdG, NdC, NdD, NdE, NdF, GrP, GrQ, GrR, FdF. -/
import Derived.Test.YtgblfflikgnfpaaGreatTY1
import Derived.Test.YtgblfflikgnfpaaGreatTY4
import Derived.Test.YtgblfflikgnfpaaGreatTY5
import Derived.Sort.OwnSortedInts
namespace Go.Proofs.YtgblfflikgnfpaaGreat
open Go.RowKit Go.Fb
set_option maxRecDepth 100000
set_option maxHeartbeats 16000000
set_option linter.unusedVariables false
def srt (zs:List Int):List Int:=zs.mergeSort fun x y=>decide (x<=y)
theorem srt_perm (zs:List Int):(srt zs).Perm zs:=List.mergeSort_perm _ _
theorem srt_len (zs:List Int):(srt zs).length=zs.length:=(srt_perm zs).length_eq
theorem srt_sorted (zs:List Int):(srt zs).Pairwise (· <= ·):=by
 have:=List.pairwise_mergeSort (le:=fun x y:Int=>decide (x<=y)) (fun a b c h1 h2=>by simp at *;omega) (fun a b=>by simp;omega) zs;exact this.imp (fun h=>by simpa using h)
theorem holds_own {w:World} {base g c n:Nat} {e:TypeId} {zs:List Int} (hn:n=zs.length) (hown:w.ownsRow base e 1 (.slice (some ⟨g,0,none⟩) n c) n (zs.map (Value.int .i64))) :
  ∃ cur,w.heap[g]?=some (.cells cur e (0,0))/\cur.toList.take zs.length=zs.map (Value.int .i64)/\base<=g/\zs.length<=c/\c<=maxLen/\cur.size=c * 1:=by
 rcases hown.2 with ⟨h0,_⟩ | ⟨g',cap,cur,hv,hb,hg,h1,h2,h3,h4⟩
 · cases h0
 ·
  injection hv with e1 e2 e3
  injection e1 with e1
  injection e1 with e1
  subst e1;subst e3;refine ⟨cur,hg,?_,hb,by omega,h2,h3⟩;rw [<- hn];simpa using h4
theorem sorti_any (w:World) (base g c n:Nat) (zs:List Int) (hn:n=zs.length) (hown:w.ownsRow base 3 1 (.slice (some ⟨g,0,none⟩) n c) n (zs.map (Value.int .i64))) (hm:n<=1000000) :
  Calls Tryz.prog 95 #[.slice (some ⟨g,0,none⟩) n c] w fun e w'=>e=.returned (.tuple #[])/\w'.ownsRow base 3 1 (.slice (some ⟨g,0,none⟩) n c) n ((srt zs).map (Value.int .i64))/\Fr w.heap.size [g] w w':=by
 obtain ⟨cur,hg,ht,hb,h1,h2,h3⟩:=holds_own hn hown;have hlt:g < w.heap.size:=(Array.getElem?_eq_some_iff.1 hg).1;rw [hn];refine (Any.slices_Sort_int Tryz.sortI g 0 c zs w (holds_of_blockI hg ht) hlt (by omega)).mono ?_;rintro e w' ⟨rfl,k,os,rfl⟩;refine ⟨rfl,ownsRow_sortedI (srt_len zs) hb hg h1 h2 h3,?_⟩;have hgr:=grownBy_sortedI (w:=w) (g:=g) (n:=k) (os:=os) (srt zs).toArray;exact (Fr.refl w.heap.size [g] w).grown hgr (Nat.le_refl _) (fun q hq=>.inr (by simp at hq;simp [hq]))
theorem compacti_any (w:World) (base g c n:Nat) (zs:List Int) (hn:n=zs.length) (hown:w.ownsRow base 3 1 (.slice (some ⟨g,0,none⟩) n c) n (zs.map (Value.int .i64))) (hm:n<=1000000) :
  Calls Tryz.prog 125 #[.slice (some ⟨g,0,none⟩) n c] w fun e w'=>e=.returned (.slice (some ⟨g,0,none⟩) (Lib.compact zs).length c)/\Reads w' w'.heap.size 1 (some ⟨g,0,none⟩) (Lib.compact zs).length ((Lib.compact zs).map (Value.int .i64))/\Fr w.heap.size [g] w w':=by
 obtain ⟨cur,hg,ht,hb,h1,h2,h3⟩:=holds_own hn hown;have hlt:g < w.heap.size:=(Array.getElem?_eq_some_iff.1 hg).1;rw [hn];have hcl:(Lib.compact zs).length<=zs.length:=(by unfold Lib.compact Lib.compactUpTo;rw [List.length_map];exact Nat.le_trans (List.length_filter_le _ _) (by simp));refine (Any.slices_Compact_int Tryz.compactI g 0 c zs w (holds_of_blockI hg ht) (by omega) h1).mono ?_;rintro e w' ⟨rfl,k,rfl⟩;have hown2:=ownsRow_sortedI (n:=k) (os:=#[]) (ss:=zs) (ts:=Lib.compact zs ++ List.replicate (zs.length - (Lib.compact zs).length) 0) (by simp;omega) hb hg h1 h2 h3;rw [Sort.grow_empty] at hown2;refine ⟨rfl,?_,?_⟩
 ·
  have hr:=Reads.of_own hown2;refine ⟨by simp,fun h0 => ?_⟩;obtain ⟨b,off,e,hbb,hc⟩:=hr.2 (by omega);refine ⟨b,off,e,hbb,fun j u hu=>hc j u ?_⟩
  rw [List.map_append, List.getElem?_append_left (by
   rcases Nat.lt_or_ge j ((Lib.compact zs).map (Value.int .i64)).length with h | h
   · exact h
   · rw [List.getElem?_eq_none h] at hu;cases hu)]
  exact hu
 · have hgr:=grownBy_sortedI (w:=w) (g:=g) (n:=k) (os:=#[]) (Lib.compact zs ++ List.replicate (zs.length - (Lib.compact zs).length) 0).toArray;rw [Sort.grow_empty] at hgr;exact (Fr.refl w.heap.size [g] w).grown hgr (Nat.le_refl _) (fun q hq=>.inr (by simp at hq;simp [hq]))
theorem compact_mem {zs:List Int}:∀ x,x ∈ Lib.compact zs ↔ x ∈ zs:=by
 intro x;unfold Lib.compact Lib.compactUpTo;simp only [List.mem_map,List.mem_filter,List.mem_range];constructor
 · rintro ⟨j,⟨hj,_⟩,rfl⟩;rw [getElem!_pos _ j (by simpa using hj)];simp
 ·
  intro hx;obtain ⟨j,hj,rfl⟩:=List.mem_iff_getElem.1 hx
  -- the first place that holds it
  have:∀ j,(hj:j < zs.length)->∃ k,(k < zs.length/\Lib.keeps zs.toArray k=true)/\zs.toArray[k]! = zs[j]:=by
   intro j
   induction j with
   | zero=>exact fun hj=>⟨0,⟨hj,by simp [Lib.keeps]⟩,by rw [getElem!_pos _ 0 (by simpa using hj)];simp⟩
   | succ j ih =>
    intro hj
    by_cases c:zs.toArray[j+1]! = zs.toArray[j]!
    · obtain ⟨k,h1,h2⟩:=ih (by omega);refine ⟨k,h1,h2.trans ?_⟩;rw [getElem!_pos _ (j+1) (by simpa using hj),getElem!_pos _ j (by simp;omega)] at c;simpa using c.symm
    · exact ⟨j+1,⟨hj,Lib.keeps_pos (by simpa using c)⟩,by rw [getElem!_pos _ (j+1) (by simpa using hj)];simp⟩
  exact this j hj
theorem compact_rises {zs:List Int} (h:zs.Pairwise (· <= ·)):(Lib.compact zs).Pairwise (· < ·):=by
 unfold Lib.compact Lib.compactUpTo;rw [List.pairwise_map];have hr:((List.range zs.length).filter (Lib.keeps zs.toArray)).Pairwise (· < ·):=List.Pairwise.filter _ List.pairwise_lt_range;have hmem:∀ k ∈ (List.range zs.length).filter (Lib.keeps zs.toArray),k < zs.length/\Lib.keeps zs.toArray k=true:=fun k hk=>by simpa using hk
 refine (hr.imp_of_mem fun {a b} ha hb hab => ?_);obtain ⟨hal,_⟩:=hmem a ha;obtain ⟨hbl,hkb⟩:=hmem b hb
 have hle:∀ i j,(hij:i<=j)->(hj:j < zs.length)->zs[i]'(by omega)<=zs[j]:=fun i j hij hj=>by
  rcases Nat.lt_or_ge i j with h1 | h1
  · exact List.pairwise_iff_getElem.1 h i j (by omega) hj h1
  ·
   have:i=j:=by omega
   subst this;exact Int.le_refl _
 have hne:zs.toArray[b]! ≠ zs.toArray[b - 1]!:=by
  simp [Lib.keeps] at hkb
  rcases hkb with h0 | h0
  · omega
  · simpa using h0
 rw [getElem!_pos _ b (by simpa using hbl),getElem!_pos _ (b - 1) (by simp;omega)] at hne;rw [getElem!_pos _ a (by simpa using hal),getElem!_pos _ b (by simpa using hbl)];simp only [List.getElem_toArray] at hne ⊢;have h1:=hle a (b - 1) (by omega) (by omega);have h2:=hle (b - 1) b (by omega) hbl;omega
theorem rises_eq:∀ {a b:List Int},a.Pairwise (· < ·)->b.Pairwise (· < ·)->(∀ x,x ∈ a ↔ x ∈ b)->a=b
 | [],[],_,_,_=>rfl
 | [],y :: b,_,_,h=>absurd ((h y).2 (by simp)) (by simp)
 | x :: a,[],_,_,h=>absurd ((h x).1 (by simp)) (by simp)
 | x :: a,y :: b,ha,hb,h=>by
  rw [List.pairwise_cons] at ha hb
  have hxy:x=y:=by
   rcases List.mem_cons.1 ((h x).1 (by simp)) with e | e
   · exact e
   ·
    rcases List.mem_cons.1 ((h y).2 (by simp)) with e2 | e2
    · exact e2.symm
    · have:=hb.1 x e;have:=ha.1 y e2;omega
  subst hxy
  congr 1
  refine rises_eq ha.2 hb.2 fun z=>⟨fun hz => ?_,fun hz => ?_⟩
  ·
   rcases List.mem_cons.1 ((h z).1 (by simp [hz])) with e | e
   · subst e;have:=ha.1 z hz;omega
   · exact e
  ·
   rcases List.mem_cons.1 ((h z).2 (by simp [hz])) with e | e
   · subst e;have:=hb.1 z hz;omega
   · exact e
theorem blk_nd (x:Nd) (sf sp a b:Value) {w:World} {g:Nat} (h:Blk w g 66 (ndA x sf sp)):Blk ((w.setCell ⟨g,2,none⟩ a).setCell ⟨g,3,none⟩ b) g 66 (ndA x a b):=by
 have:=(h.set_ 2 a).set_ 3 b;simpa using this
def setNd (w:World) (g:Nat) (u0 u1 u2 u3 u4 u5 u6 u7 u8 u9 u10 u11 u12:Value):World:=(((((((((((((w.setCell ⟨g,0,none⟩ u0).setCell ⟨g,1,none⟩ u1).setCell ⟨g,2,none⟩ u2).setCell ⟨g,3,none⟩ u3).setCell ⟨g,4,none⟩ u4).setCell ⟨g,5,none⟩ u5).setCell ⟨g,6,none⟩ u6).setCell ⟨g,7,none⟩ u7).setCell ⟨g,8,none⟩ u8).setCell ⟨g,9,none⟩ u9).setCell ⟨g,10,none⟩ u10).setCell ⟨g,11,none⟩ u11).setCell ⟨g,12,none⟩ u12)
theorem blk_setNd {w:World} {g t:Nat} {a0 a1 a2 a3 a4 a5 a6 a7 a8 a9 a10 a11 a12:Value} (h:Blk w g t #[a0,a1,a2,a3,a4,a5,a6,a7,a8,a9,a10,a11,a12]) (u0 u1 u2 u3 u4 u5 u6 u7 u8 u9 u10 u11 u12:Value):Blk (setNd w g u0 u1 u2 u3 u4 u5 u6 u7 u8 u9 u10 u11 u12) g t #[u0,u1,u2,u3,u4,u5,u6,u7,u8,u9,u10,u11,u12]:=by
 have:=((((((((((((h.set_ 0 u0).set_ 1 u1).set_ 2 u2).set_ 3 u3).set_ 4 u4).set_ 5 u5).set_ 6 u6).set_ 7 u7).set_ 8 u8).set_ 9 u9).set_ 10 u10).set_ 11 u11).set_ 12 u12;unfold setNd;simpa using this
theorem fr_setNd {B g:Nat} {L:List Nat} {a w:World} (h:Fr B L a w) (hg:B<=g \/ g ∈ L) (u0 u1 u2 u3 u4 u5 u6 u7 u8 u9 u10 u11 u12:Value):Fr B L a (setNd w g u0 u1 u2 u3 u4 u5 u6 u7 u8 u9 u10 u11 u12) :=
 ((((((((((((h.setCell hg u0).setCell hg u1).setCell hg u2).setCell hg u3).setCell hg u4).setCell hg u5).setCell hg u6).setCell hg u7).setCell hg u8).setCell hg u9).setCell hg u10).setCell hg u11).setCell hg u12
def Fresh (b:Nat) (v:Value):Prop:=∀ A n c,v=.slice A n c->0 < n -> ∀ ad,A=some ad->b<=ad.block
theorem fresh_own {w:World} {base e size n c b:Nat} {A:Option Addr} {xs:List Value} (h:w.ownsRow base e size (.slice A n c) n xs) (hb:b<=base):Fresh b (.slice A n c):=by
 intro A' n' c' hv _ ad ha;injection hv with h1 h2 h3
 subst h1;obtain ⟨A2,c2,hv2,hs,_⟩:=ownsRow_shape h;injection hv2 with h4 _ _
 subst h4;exact Nat.le_trans hb (hs ad ha).2.2.1
def Thaw (w:World) (v:Value):Prop:=∀ A n c,v=.slice A n c->0 < n -> ∀ ad,A=some ad->ad.block < w.heap.size /\ ∀ i,w.frozen? (ad.add i)=false
theorem thaw_own {w:World} {base e size n c:Nat} {A:Option Addr} {xs:List Value} (h:w.ownsRow base e size (.slice A n c) n xs):Thaw w (.slice A n c):=by
 intro A' n' c' hv hn ad ha;injection hv with h1 h2 h3
 subst h1;subst h2;obtain ⟨g,cap,hv2,_,hlt⟩:=h.form hn;injection hv2 with h4 _ h6
 subst h4;injection ha with ha
 subst ha;refine ⟨hlt,fun i => ?_⟩;have:=h.frozenAt (g:=g) (cap:=c) i;unfold Addr.add
 split
 · simpa using h.frozenAt 0
 · simpa using h.frozenAt i
theorem Thaw.frL {w w':World} {v:Value} {L:List Nat} (h:Thaw w v) (hf:Fr w.heap.size L w w') (ho:∀ A n c,v=.slice A n c->0 < n -> ∀ ad,A=some ad->ad.block ∉ L):Thaw w' v:=by
 intro A n c hv hn ad ha;obtain ⟨h1,h2⟩:=h A n c hv hn ad ha;refine ⟨Nat.lt_of_lt_of_le h1 hf.size,fun i => ?_⟩;rw [hf.frozen (p:=ad.add i) (by rw [block_of_add];exact h1) (by rw [block_of_add];exact ho A n c hv hn ad ha)];exact h2 i
theorem Thaw.fr {w w':World} {v:Value} (h:Thaw w v) (hf:Fr w.heap.size [] w w'):Thaw w' v:=h.frL hf (fun _ _ _ _ _ _ _=>by simp)
theorem Thaw.grown {w w':World} {v:Value} {q:Option Nat} (h:Thaw w v) (hg:w.grownBy w' q) (ho:∀ A n c,v=.slice A n c->0 < n -> ∀ ad,A=some ad->some ad.block ≠ q):Thaw w' v:=by
 intro A n c hv hn ad ha;obtain ⟨h1,h2⟩:=h A n c hv hn ad ha;refine ⟨Nat.lt_of_lt_of_le h1 hg.size,fun i => ?_⟩;have e:w'.frozen? (ad.add i)=w.frozen? (ad.add i):=World.frozen?_of_block (w:=w) (by rw [block_of_add];exact hg.block _ h1 (ho A n c hv hn ad ha));rw [e];exact h2 i
theorem thaw_nil (w:World):Thaw w (.slice none 0 0):=fun A n c h hn=>by injection h with _ h2;omega
def OwnOut (x:Nd) (w:World) (e:Ending) (w':World):Prop:=∃ sf sp,e=.returned (.agg (ndA x sf sp))/\NdIn w' w'.heap.size (x,sf,sp)/\Fresh w.heap.size sf/\Fresh w.heap.size sp/\Thaw w' sp/\Fr w.heap.size [] w w'
theorem own_any (x:Nd) (sf sp:Value) (B:Nat) (w:World) (h:NdIn w B (x,sf,sp)) (hB:B<=w.heap.size) (h1:x.fr.length<=1000000) (h2:x.pg.length<=1000000) :
  Calls Tryz.prog 92 #[.agg (ndA x sf sp)] w (OwnOut x w):=by
 obtain ⟨⟨Af,cf,hf1,hf2⟩,⟨Ap,cp,hp1,hp2⟩⟩:=h;simp only at hf1 hf2 hp1 hp2;subst hf1;subst hp1;obtain ⟨nf,hnf⟩:=nm (x.fr.length);obtain ⟨np,hnp⟩:=nm (x.pg.length);have HF:=zh (fun (wx:World) (hx:Fr w.heap.size [] w wx)=>(by rw [hnf];exact iclone_any Af x.fr.length cf B x.fr wx rfl h1 (hf2.fr hx hB (by simp)) (Nat.le_trans hB hx.size):Calls Tryz.prog 94 #[.slice Af nf cf] wx fun e w'=>∃ A' c',e=.returned (.slice A' nf c')/\w'.ownsRow wx.heap.size 3 1 (.slice A' nf c') nf (x.fr.map (Value.int .i64))/\Fr wx.heap.size [] wx w'));have HP:=zh (fun (wx:World) (hx:Fr w.heap.size [] w wx)=>(by rw [hnp];exact pclone_any Ap x.pg.length cp B x.pg wx rfl h2 (hp2.fr hx hB (by simp)) (Nat.le_trans hB hx.size):Calls Tryz.prog 130 #[.slice Ap np cp] wx fun e w'=>∃ A' c',e=.returned (.slice A' np c')/\w'.ownsRow wx.heap.size 199 2 (.slice A' np c') np (cellsI x.pg)/\Fr wx.heap.size [] wx w'));rw [<- hnf,<- hnp];have HNF:=zh hnf;have HNP:=zh hnp;clear hf2 hp2 hnf hnp;have BX:=zh ((Blk.new w 66 (ndA x (.slice Af nf cf) (.slice Ap np cp))).alloc (.cells #[.int .i64 0,.int .i64 0,.slice none 0 0,.slice none 0 0,.int .i64 0,.int .i64 0,.int .i64 0,.int .i64 0,.int .i64 0,.int .i64 0,.int .i64 0,.int .i64 0,.int .i64 0] 66));have BR0:=Blk.new (w.alloc (.cells (ndA x (.slice Af nf cf) (.slice Ap np cp)) 66)) 66 #[.int .i64 0,.int .i64 0,.slice none 0 0,.slice none 0 0,.int .i64 0,.int .i64 0,.int .i64 0,.int .i64 0,.int .i64 0,.int .i64 0,.int .i64 0,.int .i64 0,.int .i64 0];rw [World.size_alloc] at BR0;have BR:=zh BR0;have F1:=zh (((Fr.refl w.heap.size [] w).alloc (Nat.le_refl _) (.cells (ndA x (.slice Af nf cf) (.slice Ap np cp)) 66)).alloc (by simp) (.cells #[.int .i64 0,.int .i64 0,.slice none 0 0,.slice none 0 0,.int .i64 0,.int .i64 0,.int .i64 0,.int .i64 0,.int .i64 0,.int .i64 0,.int .i64 0,.int .i64 0,.int .i64 0] 66));clear BR0;go_enter Tryz.func92,Tryz.ntmps92;go_wp2_with fail;generalize (w.alloc _).alloc _=w1 at *;obtain ⟨gx,hgx⟩:=nm (w.heap.size);rw [<- hgx] at BX BR
 try rw [<- hgx]
 have hgw:w.heap.size<=gx:=(by omega);clear hgx;have hx1:=BX.out.lt;have hr1:=BR.out.lt;have INV:=zh ((Fr.refl w1.heap.size [] w1).drew);have x2:=BX.out.cell 2;have x3:=BX.out.cell 3;have z2:=BX.out.frozen 2;have z3:=BX.out.frozen 3;simp at x2 x3;have HW:=zh (fun (wx:World) (h:Fr w1.heap.size [] w1 wx)=>F1.out.nx h)
 first
  | (go_region_with
      (first
        | (go_at_call 94;refine (HF.out _ (HW.out _ INV.out)).mono ?_;rintro e w' ⟨A1,c1,rfl,ho,hf⟩;have HO1:=zh (ownsRow_base ho INV.out.size);have INV:=zh (INV.out.trans (hf.mono INV.out.size (by simp)));have x2:=(BX.out.fr INV.out BX.out.lt (by simp)).cell 2;have x3:=(BX.out.fr INV.out BX.out.lt (by simp)).cell 3;have z2:=(BX.out.fr INV.out BX.out.lt (by simp)).frozen 2;have z3:=(BX.out.fr INV.out BX.out.lt (by simp)).frozen 3;simp at x2 x3;clear hf ho)
        | (go_at_call 130;refine (HP.out _ (HW.out _ INV.out)).mono ?_;rintro e w' ⟨A2,c2,rfl,ho,hf⟩;have HO1:=zh (ownsRow_fr HO1.out hf (fun q hq=>⟨(HO1.out.lt q hq).2,by simp⟩));have HO2:=zh (ownsRow_base ho INV.out.size);have INV:=zh (INV.out.trans (hf.mono INV.out.size (by simp)));have x2:=(BX.out.fr INV.out BX.out.lt (by simp)).cell 2;have x3:=(BX.out.fr INV.out BX.out.lt (by simp)).cell 3;have z2:=(BX.out.fr INV.out BX.out.lt (by simp)).frozen 2;have z3:=(BX.out.fr INV.out BX.out.lt (by simp)).frozen 3;simp at x2 x3;clear hf ho)))
  | fail
 all_goals
  have BXs:=zh (blk_nd x (.slice Af nf cf) (.slice Ap np cp) (.slice A1 nf c1) (.slice A2 np c2) (BX.out.fr INV.out BX.out.lt (by simp)));have BRs:=zh (((BR.out.fr INV.out BR.out.lt (by simp)).far (p:=⟨gx,2,none⟩) (by simp) (.slice A1 nf c1)).far (p:=⟨gx,3,none⟩) (by simp) (.slice A2 np c2));have FS:=zh (((HW.out _ INV.out).setCell (p:=⟨gx,2,none⟩) (.inl hgw) (.slice A1 nf c1)).setCell (p:=⟨gx,3,none⟩) (.inl hgw) (.slice A2 np c2));have hfs:=((Fr.refl w'.heap.size [gx] w').setCell (p:=⟨gx,2,none⟩) (.inr (by simp)) (.slice A1 nf c1)).setCell (p:=⟨gx,3,none⟩) (.inr (by simp)) (.slice A2 np c2);have O1:=zh (ownsRow_fr HO1.out hfs (fun q hq=>⟨(HO1.out.lt q hq).2,by have:=(HO1.out.lt q hq).1;simp;omega⟩));have O2:=zh (ownsRow_fr HO2.out hfs (fun q hq=>⟨(HO2.out.lt q hq).2,by have:=(HO2.out.lt q hq).1;simp;omega⟩));clear hfs HO1 HO2 INV BX BR HW F1 x2 x3 z2 z3 HF HP;generalize (w'.setCell ⟨gx,2,none⟩ (.slice A1 nf c1)).setCell ⟨gx,3,none⟩ (.slice A2 np c2)=w5 at *;have q0:=BXs.out.cell 0;have q1:=BXs.out.cell 1;have q2:=BXs.out.cell 2;have q3:=BXs.out.cell 3;have q4:=BXs.out.cell 4;have q5:=BXs.out.cell 5;have q6:=BXs.out.cell 6;have q7:=BXs.out.cell 7;have q8:=BXs.out.cell 8;have q9:=BXs.out.cell 9;have q10:=BXs.out.cell 10;have q11:=BXs.out.cell 11;have q12:=BXs.out.cell 12;simp at q0 q1 q2 q3 q4 q5 q6 q7 q8 q9 q10 q11 q12;have s0:=BRs.out.cell 0;have s1:=BRs.out.cell 1;have s2:=BRs.out.cell 2;have s3:=BRs.out.cell 3;have s4:=BRs.out.cell 4;have s5:=BRs.out.cell 5;have s6:=BRs.out.cell 6;have s7:=BRs.out.cell 7;have s8:=BRs.out.cell 8;have s9:=BRs.out.cell 9;have s10:=BRs.out.cell 10;have s11:=BRs.out.cell 11;have s12:=BRs.out.cell 12;simp at s0 s1 s2 s3 s4 s5 s6 s7 s8 s9 s10 s11 s12;have z0:=BRs.out.frozen 0;have z1:=BRs.out.frozen 1;have z2:=BRs.out.frozen 2;have z3:=BRs.out.frozen 3;have z4:=BRs.out.frozen 4;have z5:=BRs.out.frozen 5;have z6:=BRs.out.frozen 6;have z7:=BRs.out.frozen 7;have z8:=BRs.out.frozen 8;have z9:=BRs.out.frozen 9;have z10:=BRs.out.frozen 10;have z11:=BRs.out.frozen 11;have z12:=BRs.out.frozen 12;go_wp2_with fail;have BE:=zh (blk_setNd BRs.out (.int .i64 x.id) (.int .i64 x.kind) (.slice A1 nf c1) (.slice A2 np c2) (.int .i64 x.par) (.int .i64 (x.rt 0)) (.int .i64 (x.rt 1)) (.int .i64 (x.rt 2)) (.int .i64 (x.rt 3)) (.int .i64 (x.rt 4)) (.int .i64 (x.rt 5)) (.int .i64 (x.rt 6)) (.int .i64 (x.rt 7)));have hgr:w.heap.size<=gx+1:=(by omega);have FE:=zh (fr_setNd FS.out (g:=gx+1) (.inl hgr) (.int .i64 x.id) (.int .i64 x.kind) (.slice A1 nf c1) (.slice A2 np c2) (.int .i64 x.par) (.int .i64 (x.rt 0)) (.int .i64 (x.rt 1)) (.int .i64 (x.rt 2)) (.int .i64 (x.rt 3)) (.int .i64 (x.rt 4)) (.int .i64 (x.rt 5)) (.int .i64 (x.rt 6)) (.int .i64 (x.rt 7)));have hfe:=fr_setNd (Fr.refl w5.heap.size [gx+1] w5) (g:=gx+1) (.inr (by simp)) (.int .i64 x.id) (.int .i64 x.kind) (.slice A1 nf c1) (.slice A2 np c2) (.int .i64 x.par) (.int .i64 (x.rt 0)) (.int .i64 (x.rt 1)) (.int .i64 (x.rt 2)) (.int .i64 (x.rt 3)) (.int .i64 (x.rt 4)) (.int .i64 (x.rt 5)) (.int .i64 (x.rt 6)) (.int .i64 (x.rt 7));have P1:=zh (Reads.of_own (ownsRow_fr O1.out hfe (fun q hq=>⟨(O1.out.lt q hq).2,by have:=(O1.out.lt q hq).1;simp;omega⟩)));have T2:=zh (thaw_own (ownsRow_fr O2.out hfe (fun q hq=>⟨(O2.out.lt q hq).2,by have:=(O2.out.lt q hq).1;simp;omega⟩)));have P2:=zh (Reads.of_own (ownsRow_fr O2.out hfe (fun q hq=>⟨(O2.out.lt q hq).2,by have:=(O2.out.lt q hq).1;simp;omega⟩)));refine bodyPost_ret (results_cell_row rfl _ _ (gx+1) 66 (ndA x (.slice A1 nf c1) (.slice A2 np c2)) (0,0) _ rfl BE.out Tryz.underlying66 rfl (by kernel_rfl)) rfl ⟨.slice A1 nf c1,.slice A2 np c2,rfl,⟨⟨A1,c1,by rw [HNF.out],?_⟩,⟨A2,c2,by rw [HNP.out],?_⟩⟩,fresh_own O1.out (by omega),fresh_own O2.out (by omega),T2.out,FE.out⟩
  · rw [<- HNF.out];exact P1.out
  · rw [<- HNP.out];exact P2.out
def unlikeB (l:List Int):Bool:=decide (l.Nodup)
theorem nodup_sub:∀ {a b:List Int},a.Nodup->(∀ x ∈ a,x ∈ b)->a.length<=b.length
 | [],_,_,_=>by simp
 | x :: a,b,h,hs=>by
  obtain ⟨h1,h2⟩:=List.nodup_cons.1 h;have hx:=hs x (by simp)
  have:=nodup_sub (a:=a) (b:=b.erase x) h2 fun y hy=>by
   have hne:y ≠ x:=fun e=>h1 (e ▸ hy);exact (List.mem_erase_of_ne hne).2 (hs y (by simp [hy]))
  rw [List.length_erase_of_mem hx] at this;have:=List.length_pos_of_mem hx;simp only [List.length_cons];omega
theorem rises_nodup {a:List Int} (h:a.Pairwise (· < ·)):a.Nodup:=by
 rw [List.nodup_iff_pairwise_ne];exact h.imp fun h=>by omega
theorem compact_len_le (zs:List Int):(Lib.compact zs).length<=zs.length:=by
 unfold Lib.compact Lib.compactUpTo;rw [List.length_map];exact Nat.le_trans (List.length_filter_le _ _) (by simp)
theorem erase_len {l:List Int} (h:¬ l.Nodup):∃ x ∈ l,x ∈ l.erase x:=by
 induction l with
 | nil=>exact absurd List.nodup_nil h
 | cons y l ih =>
  by_cases c:y ∈ l
  · exact ⟨y,by simp,by simpa using c⟩
  ·
   have hl:¬ l.Nodup:=fun hl=>h (List.nodup_cons.2 ⟨c,hl⟩);obtain ⟨x,hx,he⟩:=ih hl;refine ⟨x,by simp [hx],?_⟩
   by_cases e:y=x
   · subst e;exact absurd hx c
   · rw [List.erase_cons_tail (by simpa using e)];simp [he]
theorem unlike_len (l:List Int):decide ((Lib.compact (srt l)).length=l.length)=unlikeB l:=by
 unfold unlikeB
 congr 1
 have hs:=rises_nodup (compact_rises (srt_sorted l));have hm:∀ x,x ∈ Lib.compact (srt l) ↔ x ∈ l:=fun x=>(compact_mem x).trans (srt_perm l).mem_iff;refine propext ⟨fun h => ?_,fun h => ?_⟩
 ·
  refine Classical.byContradiction fun hn => ?_;obtain ⟨x,hx,he⟩:=erase_len hn
  have:=nodup_sub (b:=l.erase x) hs fun y hy=>by
   by_cases e:y=x
   · subst e;exact he
   · exact (List.mem_erase_of_ne e).2 ((hm y).1 hy)
  rw [List.length_erase_of_mem hx] at this;have:=List.length_pos_of_mem hx;omega
 · have h1:=nodup_sub h (fun x hx=>(hm x).2 hx);have h2:=compact_len_le (srt l);rw [srt_len] at h2;omega
theorem unlike_any (A:Option Addr) (n c B:Nat) (l:List Int) (w:World) (hl:n=l.length) (hn:n<=1000000) (hr:Reads w B 1 A n (l.map (Value.int .i64))) (hB:B<=w.heap.size) :
  Calls Tryz.prog 87 #[.slice A n c] w fun e w'=>e=.returned (.bool (unlikeB l))/\Fr w.heap.size [] w w':=by
 have HC:=zh (iclone_any A n c B l w hl hn hr hB);have HU:=zh (unlike_len l);have HL:=zh hl;clear hr hl;go_enter Tryz.func87,Tryz.ntmps87;go_wp2_with fail;refine HC.out.mono ?_;rintro e w1 ⟨A1,c1,rfl,hown,f1⟩;have F1:=zh f1;have HO:=zh hown;clear f1 hown HC
 rcases Nat.eq_zero_or_pos n with h0 | h0
 · subst h0;have hl0:l=[]:=List.eq_nil_of_length_eq_zero HL.out.symm;have hub:unlikeB l=true:=(by rw [hl0];rfl);have HUB:=zh hub;have HS:=zh (Any.slices_Sort_int_none Tryz.sortI A1 c1 w1);have HC:=zh (Any.slices_Compact_int_empty Tryz.compactI A1 c1 w1);clear hl0 hub HO;go_wp2_with fail;refine HS.out.mono ?_;rintro e w' ⟨rfl,rfl⟩;go_wp2_with fail;refine HC.out.mono ?_;rintro e w' ⟨rfl,rfl⟩;go_wp2_with fail;go_ret;exact ⟨by rw [HUB.out];rfl,F1.out⟩
 ·
  obtain ⟨g,cap,hv,hbg,hlt⟩:=HO.out.form h0;injection hv with hv1 hv2 hv3
  subst hv1;subst hv3;have HS:=zh (sorti_any w1 w.heap.size g c1 n l HL.out HO.out hn);clear HO hv2;go_wp2_with fail;refine HS.out.mono ?_;rintro e wa ⟨rfl,hown,fa⟩;have FA:=zh (F1.out.trans (fa.mono (B':=w.heap.size) (L':=[]) F1.out.size (by intro q hq hlt;simp at hq;omega)));have HC:=compacti_any wa w.heap.size g c1 n (srt l) (by rw [srt_len];exact HL.out) hown hn;obtain ⟨k,hk⟩:=nm ((Lib.compact (srt l)).length);rw [<- hk] at HC;have HC:=zh HC;have HU2:=zh (show decide ((k:Int)=(n:Int))=unlikeB l by rw [<- HU.out,hk,HL.out];exact decide_eq_decide.2 (by omega));clear hown fa HS hk;go_wp2_with fail;refine HC.out.mono ?_;rintro e wb ⟨rfl,hr,fb⟩;have FB:=zh (FA.out.trans (fb.mono (B':=w.heap.size) (L':=[]) FA.out.size (by intro q hq hlt;simp at hq;omega)));clear hr fb HC FA;go_wp2_with fail;go_ret;exact ⟨by rw [<- HU2.out];simp;by_cases h:(k:Int)=(n:Int) <;> simp [h],FB.out⟩
theorem ndL_get (m:Ndm):(ndL m)[0]?=some (.int .i64 m.1.id)/\(ndL m)[1]?=some (.int .i64 m.1.kind)/\(ndL m)[2]?=some m.2.1/\(ndL m)[3]?=some m.2.2/\(ndL m)[4]?=some (.int .i64 m.1.par)/\(ndL m)[5]?=some (.int .i64 (m.1.rt 0))/\(ndL m)[6]?=some (.int .i64 (m.1.rt 1))/\(ndL m)[7]?=some (.int .i64 (m.1.rt 2))/\(ndL m)[8]?=some (.int .i64 (m.1.rt 3))/\(ndL m)[9]?=some (.int .i64 (m.1.rt 4))/\(ndL m)[10]?=some (.int .i64 (m.1.rt 5))/\(ndL m)[11]?=some (.int .i64 (m.1.rt 6))/\(ndL m)[12]?=some (.int .i64 (m.1.rt 7)) :=
 ⟨rfl,rfl,rfl,rfl,rfl,rfl,rfl,rfl,rfl,rfl,rfl,rfl,rfl⟩
theorem nindex_any (F:FuncId) (cap:Array Value) (p:Nd->Bool) (A:Option Addr) (c B n:Nat) (M:List Ndm) (w:World) (hent:∀ (args:Array Value) (w:World),(callFunc F args).run Tryz.prog w=.ok (.enter F args) w)
  (hF:∀ (m:Ndm) (w':World),m ∈ M->Fr w.heap.size [] w w'->Calls Tryz.prog F (#[.agg (ndA m.1 m.2.1 m.2.2)] ++ cap) w' fun e w''=>e=.returned (.bool (p m.1))/\Fr w'.heap.size [] w' w'')
  (hm:n<=1000000) (h:Nds w B A n M) (hB:B<=w.heap.size) :
  Calls Tryz.prog 90 #[.slice A n c,.func (.func F) #[] cap] w fun e w'=>∃ i:Int,e=.returned (.int .i64 i)/\((i = -1 /\ ∀ m ∈ M,p m.1=false) \/ ∃ (k:Nat) (m:Ndm),i=(k:Int)/\M[k]?=some m/\p m.1=true /\ ∀ j y,j < k->M[j]?=some y->p y.1=false)/\Fr w.heap.size [] w w':=by
 have HF:=zh hF;have H:=zh h;have HN:=zh h.num;clear hF h;go_enter Tryz.func90,Tryz.ntmps90;go_wp2_with fail;go_loopg [8] n (fun g s8 wr=>∃ k:Nat,k<=n/\g=n - k/\s8=.int .i64 k/\Hid (∀ j y,j < k->M[j]?=some y->p y.1=false)/\Hid (Fr w.heap.size [] w wr))
 case atStart=>exact ⟨0,Nat.zero_le _,rfl,rfl,zh (fun j y h=>absurd h (by omega)),zh (Fr.refl _ _ _)⟩
 case round =>
  obtain ⟨k,hk,rfl,rfl,HP,FR⟩:=hrel
  by_cases hkn:k < n
  ·
   have hki:(k:Int) < (n:Int):=by omega
   have hk0:(0:Int)<=(k:Int):=(by omega);obtain ⟨m,hx⟩:∃ m,M[k]?=some m:=⟨_,List.getElem?_eq_getElem (by rw [<- HN.out];exact hkn)⟩;obtain ⟨b1,o1,rfl,hb1,hc1⟩:=(H.out.frw FR.out hB (by simp)).get hx;obtain ⟨g0,g1,g2,g3,g4,g5,g6,g7,g8,g9,g10,g11,g12⟩:=ndL_get m;have p0:=hc1 0 _ g0;have p1:=hc1 1 _ g1;have p2:=hc1 2 _ g2;have p3:=hc1 3 _ g3;have p4:=hc1 4 _ g4;have p5:=hc1 5 _ g5;have p6:=hc1 6 _ g6;have p7:=hc1 7 _ g7;have p8:=hc1 8 _ g8;have p9:=hc1 9 _ g9;have p10:=hc1 10 _ g10;have p11:=hc1 11 _ g11;have p12:=hc1 12 _ g12;simp only [Nat.add_zero] at p0;have HC:=HF.out m wr (List.mem_of_getElem? hx) FR.out;have HX:=zh hx;clear hc1 hx g0 g1 g2 g3 g4 g5 g6 g7 g8 g9 g10 g11 g12;obtain ⟨b,hb⟩:=nm (p m.1);rw [<- hb] at HC;have HC:=zh HC;have HPX:=zh hb;clear hb
   cases b with
   | true =>
    go_wp2_with fail;refine HC.out.mono ?_;rintro e w2 ⟨rfl,f2⟩;have F2:=zh (FR.out.nx f2);clear f2 HC;go_wp2_with fail;go_ret;exact ⟨k,rfl,.inr ⟨k,m,rfl,HX.out,HPX.out.symm,HP.out⟩,F2.out⟩
   | false =>
    go_wp2_with fail;refine HC.out.mono ?_;rintro e w2 ⟨rfl,f2⟩;have F2:=zh (FR.out.nx f2);clear f2 HC;go_wp2_with fail;go_roundg (n - (k+1))
    case measure=>omega
    case rel =>
     refine ⟨k+1,by omega,rfl,by go_num,zh fun j y hj hy => ?_,F2⟩
     rcases Nat.lt_or_ge j k with h | h
     · exact HP.out j y h hy
     ·
      have:j=k:=by omega
      subst this;rw [HX.out] at hy;injection hy with hy
      rw [<- hy];exact HPX.out.symm
  ·
   obtain rfl:k=n:=by omega
   go_wp2_with fail;go_ret;refine ⟨-1,rfl,.inl ⟨rfl,fun m hx => ?_⟩,FR.out⟩;obtain ⟨j,hj,rfl⟩:=List.mem_iff_getElem.1 hx;exact HP.out j _ (by rw [HN.out];exact hj) (List.getElem?_eq_getElem hj)
def hasI (l:List Int) (v:Int):Bool:=l.any fun x=>decide (x=v)
theorem hasI_iff {l:List Int} {v:Int}:hasI l v=true ↔ v ∈ l:=by
 unfold hasI;rw [List.any_eq_true];constructor
 · rintro ⟨x,hx,h⟩;have:x=v:=(by simpa using h);exact this ▸ hx
 · exact fun h=>⟨v,h,by simp⟩
theorem iidx_any (v:Int) (A:Option Addr) (c B n:Nat) (l:List Int) (w:World) (hn:n=l.length) (hm:n<=1000000) (hr:Reads w B 1 A n (l.map (Value.int .i64))) (hB:B<=w.heap.size) :
  Calls Tryz.prog 126 #[.slice A n c,.int .i64 v] w fun e w'=>∃ i:Int,e=.returned (.int .i64 i)/\decide (0<=i)=hasI l v/\Fr w.heap.size [] w w':=by
 have HR:=zh hr;have HN:=zh hn;clear hr hn;go_enter Tryz.func126,Tryz.ntmps126;go_wp2_with fail;go_loopg [8] n (fun g s8 wr=>∃ k:Nat,k<=n/\g=n - k/\s8=.int .i64 k/\Hid (∀ j y,j < k->l[j]?=some y->y ≠ v)/\Hid (Fr w.heap.size [] w wr))
 case atStart=>exact ⟨0,Nat.zero_le _,rfl,rfl,zh (fun j y h=>absurd h (by omega)),zh (Fr.refl _ _ _)⟩
 case round =>
  obtain ⟨k,hk,rfl,rfl,HP,FR⟩:=hrel
  by_cases hkn:k < n
  ·
   have hki:(k:Int) < (n:Int):=by omega
   have hk0:(0:Int)<=(k:Int):=(by omega);obtain ⟨x,hx⟩:∃ x,l[k]?=some x:=⟨_,List.getElem?_eq_getElem (by rw [<- HN.out];exact hkn)⟩;obtain ⟨b1,o1,u,rfl,hb1,hu,q1⟩:=(HR.out.fr FR.out hB (by simp)).one hkn;rw [List.getElem?_map,hx] at hu;injection hu with hu
   subst hu;have HX:=zh hx;clear hx
   by_cases hv:x=v
   · subst hv;go_wp2_with fail;go_ret;refine ⟨k,rfl,?_,FR.out⟩;rw [decide_eq_true hk0];exact (hasI_iff.2 (List.mem_of_getElem? HX.out)).symm
   ·
    have hd:decide (v=x)=false:=decide_eq_false (fun e=>hv e.symm);have hd2:(v == x)=false:=(by simpa using fun e=>hv e.symm);go_wp2_with fail;go_roundg (n - (k+1))
    case measure=>omega
    case rel =>
     refine ⟨k+1,by omega,rfl,by go_num,zh fun j y hj hy => ?_,FR⟩
     rcases Nat.lt_or_ge j k with h | h
     · exact HP.out j y h hy
     ·
      have:j=k:=by omega
      subst this;rw [HX.out] at hy;injection hy with hy
      rw [<- hy];exact hv
  ·
   obtain rfl:k=n:=by omega
   go_wp2_with fail;go_ret;refine ⟨-1,rfl,?_,FR.out⟩
   symm
   rw [show decide ((0:Int) <= -1)=false from rfl]
   cases hh:hasI l v with
   | false=>rfl
   | true =>
    obtain ⟨j,hj,he⟩:=List.mem_iff_getElem.1 (hasI_iff.1 hh);exact absurd he (HP.out j _ (by rw [HN.out];exact hj) (List.getElem?_eq_getElem hj))
theorem ihas_any (v:Int) (A:Option Addr) (c B n:Nat) (l:List Int) (w:World) (hn:n=l.length) (hm:n<=1000000) (hr:Reads w B 1 A n (l.map (Value.int .i64))) (hB:B<=w.heap.size) :
  Calls Tryz.prog 88 #[.slice A n c,.int .i64 v] w fun e w'=>e=.returned (.bool (hasI l v))/\Fr w.heap.size [] w w':=by
 have H:=zh (iidx_any v A c B n l w hn hm hr hB);obtain ⟨b,hb⟩:=nm (hasI l v);rw [<- hb] at H ⊢;clear hn hr hb;go_enter Tryz.func88,Tryz.ntmps88;go_wp2_with fail;refine H.out.mono ?_;rintro e w1 ⟨i,rfl,hi,f1⟩;have F1:=zh f1;have HI:=zh hi;clear hi f1 H;go_wp2_with fail;go_ret;exact ⟨by rw [<- HI.out];rfl,F1.out⟩
def kidsN:List Nd->Int->List Int->List Int
 | [],_,out=>out
 | x :: L,id,out=>kidsN L id (if hasI x.fr id && !hasI out x.id then out ++ [x.id] else out)
theorem kidsN_snoc:∀ (L:List Nd) (x:Nd) (id:Int) (out:List Int),kidsN (L ++ [x]) id out=(if hasI x.fr id && !hasI (kidsN L id out) x.id then kidsN L id out ++ [x.id] else kidsN L id out)
 | [],_,_,_=>rfl
 | y :: L,x,id,out=>by
  show kidsN (L ++ [x]) id _=_
  rw [kidsN_snoc L x id];rfl
theorem kidsN_le:∀ (L:List Nd) (id:Int) (out:List Int),(kidsN L id out).length<=out.length+L.length
 | [],_,_=>Nat.le_refl _
 | y :: L,id,out=>by
  have hle:(if hasI y.fr id && !hasI out y.id then out ++ [y.id] else out).length<=out.length+1:=by split <;> simp
  have h:=kidsN_le L id (if hasI y.fr id && !hasI out y.id then out ++ [y.id] else out)
  show (kidsN L id (if hasI y.fr id && !hasI out y.id then out ++ [y.id] else out)).length<=out.length+(L.length+1)
  omega
def childN (L:List Nd) (id:Int):List Int:=srt (kidsN L id [])
def IntsOut (l:List Int) (w:World) (e:Ending) (w':World):Prop :=
 ∃ A c k,k=l.length/\e=.returned (.slice A k c)/\w'.ownsRow w.heap.size 3 1 (.slice A k c) k (l.map (Value.int .i64))/\Fr w.heap.size [] w w'
theorem take_snocN {M:List Ndm} {k:Nat} {m:Ndm} (h:M[k]?=some m):(M.take (k+1)).map (·.1)=(M.take k).map (·.1) ++ [m.1]:=by rw [List.take_add_one,h];simp
theorem children_any (id:Int) (A:Option Addr) (c B n:Nat) (M:List Ndm) (w:World) (h:Nds w B A n M) (hB:B<=w.heap.size) (hs:M.length<=1000000 /\ ∀ m ∈ M,m.1.fr.length<=1000000/\m.1.pg.length<=1000000) :
  Calls Tryz.prog 96 #[.slice A n c,.int .i64 id] w (IntsOut (childN (M.map (·.1)) id) w):=by
 have H:=zh h;have HN:=zh h.num;have HS:=zh hs;have hn:n<=1000000:=(by rw [h.num];exact hs.1);clear h hs;go_enter Tryz.func96,Tryz.ntmps96;go_wp2_with fail;go_loopg [5,10] n (fun g s5 s10 wr=>∃ (k q:Nat) (A':Option Addr) (c':Nat),k<=n/\g=n - k/\s10=.int .i64 k/\s5=.slice A' q c'/\q<=k/\Hid (q=(kidsN ((M.take k).map (·.1)) id []).length)/\Hid (wr.ownsRow w.heap.size 3 1 (.slice A' q c') q ((kidsN ((M.take k).map (·.1)) id []).map (Value.int .i64)))/\Hid (Fr w.heap.size [] w wr))
 case atStart=>exact ⟨0,0,none,0,Nat.zero_le _,rfl,rfl,rfl,Nat.le_refl _,zh rfl,zh (World.ownsRow_nil _ _ _ _),zh (Fr.refl _ _ _)⟩
 case round =>
  obtain ⟨k,q,A',c',hk,rfl,rfl,rfl,hqk,HQ,HO,FR⟩:=hrel
  by_cases hkn:k < n
  ·
   have hki:(k:Int) < (n:Int):=by omega
   have hk0:(0:Int)<=(k:Int):=(by omega);obtain ⟨m,hx⟩:∃ m,M[k]?=some m:=⟨_,List.getElem?_eq_getElem (by rw [<- HN.out];exact hkn)⟩;have HND:=H.out.frw FR.out hB (by simp);obtain ⟨b1,o1,rfl,hb1,hc1⟩:=HND.get hx;have hin:=HND.inn m (List.mem_of_getElem? hx);have hsm:=HS.out.2 m (List.mem_of_getElem? hx);have HTK:=take_snocN hx;obtain ⟨x,sf,sp⟩:=m;obtain ⟨⟨Af,cf,hf1,hf2⟩,⟨Ap,cp,hp1,_⟩⟩:=hin;simp only at hf1 hf2 hp1 hsm HTK;subst hf1;subst hp1;obtain ⟨nf,hnf⟩:=nm (x.fr.length);obtain ⟨np,hnp⟩:=nm (x.pg.length);obtain ⟨g0,g1,g2,g3,g4,g5,g6,g7,g8,g9,g10,g11,g12⟩:=ndL_get (x,.slice Af x.fr.length cf,.slice Ap x.pg.length cp);have p0:=hc1 0 _ g0;have p1:=hc1 1 _ g1;have p2:=hc1 2 _ g2;have p3:=hc1 3 _ g3;have p4:=hc1 4 _ g4;have p5:=hc1 5 _ g5;have p6:=hc1 6 _ g6;have p7:=hc1 7 _ g7;have p8:=hc1 8 _ g8;have p9:=hc1 9 _ g9;have p10:=hc1 10 _ g10;have p11:=hc1 11 _ g11;have p12:=hc1 12 _ g12;simp only [Nat.add_zero] at p0;simp only [<- hnf,<- hnp] at p2 p3;obtain ⟨out,hout⟩:=nm (kidsN ((M.take k).map (·.1)) id []);rw [<- hout] at HQ HO;have HKS:=kidsN_snoc ((M.take k).map (·.1)) x id [];rw [<- HTK,<- hout] at HKS;have RF:=zh hf2;have HNF:=zh hnf;have hnf1:nf<=1000000:=(by rw [hnf];exact hsm.1);clear hc1 hx g0 g1 g2 g3 g4 g5 g6 g7 g8 g9 g10 g11 g12 HND hsm HTK hf2 hout hnf hnp;go_upto_region 5 with fail;have BX:=zh (Blk.new wr 66 (ndA x (.slice Af nf cf) (.slice Ap np cp)));have fa:=(Fr.refl wr.heap.size [] wr).alloc (Nat.le_refl _) (.cells (ndA x (.slice Af nf cf) (.slice Ap np cp)) 66);have HOa:=zh (ownsRow_fr HO.out fa (fun q hq=>⟨(HO.out.lt q hq).2,by simp⟩));have FRa:=zh (FR.out.nx fa);have hBr:B<=wr.heap.size:=Nat.le_trans hB FR.out.size;have HC1:=ihas_any id Af cf B nf x.fr _ HNF.out hnf1 (by have:=RF.out.fr fa hBr (by simp);rw [<- HNF.out] at this;exact this) (Nat.le_trans hBr fa.size);obtain ⟨h1,hh1⟩:=nm (hasI x.fr id);rw [<- hh1] at HC1 HKS;have HC1:=zh HC1;clear fa HO FR p0 p1 p2 p3 p4 p5 p6 p7 p8 p9 p10 p11 p12 hb1 hh1;generalize wr.alloc (.cells (ndA x (.slice Af nf cf) (.slice Ap np cp)) 66)=wa at *;generalize wr.heap.size=gx at *;have q0:=BX.out.cell 0;have q2:=BX.out.cell 2;simp at q0 q2
   cases h1 with
   | false =>
    rw [Bool.false_and,if_neg (by simp)] at HKS;have HKS:=zh HKS;go_wp2_with fail;refine HC1.out.mono ?_;rintro e w2 ⟨rfl,f2⟩;have HO2:=zh (ownsRow_fr HOa.out f2 (fun q hq=>⟨(HOa.out.lt q hq).2,by simp⟩));have F2:=zh (FRa.out.nx f2);clear f2 HC1;go_wp2_with fail;go_roundg (n - (k+1))
    case measure=>omega
    case rel=>exact ⟨k+1,q,A',c',by omega,rfl,by go_num,rfl,by omega,by rw [HKS.out];exact HQ,by rw [HKS.out];exact HO2,F2⟩
   | true =>
    rw [Bool.true_and] at HKS;go_wp2_with fail;refine HC1.out.mono ?_;rintro e w2 ⟨rfl,f2⟩;have HO2:=zh (ownsRow_fr HOa.out f2 (fun q hq=>⟨(HOa.out.lt q hq).2,by simp⟩));have F2:=zh (FRa.out.nx f2);have BX2:=zh (BX.out.fr f2 BX.out.lt (by simp));have q0b:=BX2.out.cell 0;simp at q0b;have HC2:=ihas_any x.id A' c' w2.heap.size q out w2 HQ.out (by omega) (Reads.of_own HO2.out) (Nat.le_refl _);obtain ⟨h2,hh2⟩:=nm (hasI out x.id);rw [<- hh2] at HC2 HKS;have HC2:=zh HC2;clear f2 HC1 hh2 q0 q2
    cases h2 with
    | true =>
     rw [if_neg (by simp)] at HKS;have HKS:=zh HKS;go_wp2_with fail;refine HC2.out.mono ?_;rintro e w3 ⟨rfl,f3⟩;have HO3:=zh (ownsRow_fr HO2.out f3 (fun q hq=>⟨(HO2.out.lt q hq).2,by simp⟩));have F3:=zh (F2.out.nx f3);clear f3 HC2;go_wp2_with fail;go_roundg (n - (k+1))
     case measure=>omega
     case rel=>exact ⟨k+1,q,A',c',by omega,rfl,by go_num,rfl,by omega,by rw [HKS.out];exact HQ,by rw [HKS.out];exact HO3,F3⟩
    | false =>
     rw [if_pos (by simp)] at HKS;have HKS:=zh HKS;go_wp2_with fail;refine HC2.out.mono ?_;rintro e w3 ⟨rfl,f3⟩;have HO3:=zh (ownsRow_fr HO2.out f3 (fun q hq=>⟨(HO2.out.lt q hq).2,by simp⟩));have F3:=zh (F2.out.nx f3);have BX3:=zh (BX2.out.fr f3 BX2.out.lt (by simp));have q0c:=BX3.out.cell 0;simp at q0c;have hown:=HO3.out;have hsz:=F3.out.size;clear f3 HC2 q0b;go_wp2_with (at_builtin;refine wpList_app_lit _ rfl (.tmp 25) (.tmp 28) intsTy rfl w.heap.size (.slice A' q c') q _ rfl hown 1 1 _ rfl rfl (by simp [Value.oneCell']) (by omega) (by omega) hsz ?_;intro A3 c3 w4 hown4 hg4 hat4);have F4:=zh (F3.out.trans (Fr.of_app hg4 hown hsz));have HO4:=zh hown4;clear hown4 hg4 hat4 hown;go_roundg (n - (k+1))
     case measure=>omega
     case rel=>exact ⟨k+1,q+1,A3,c3,by omega,rfl,by go_num,rfl,by omega,by rw [HKS.out,List.length_append,<- HQ.out];exact zh rfl,by rw [HKS.out,List.map_append];exact HO4,F4⟩
  ·
   obtain rfl:k=n:=by omega
   have htk:M.take k=M:=List.take_of_length_le (by rw [HN.out];exact Nat.le_refl _);rw [htk] at HQ HO;obtain ⟨zs,hzs⟩:=nm (kidsN (M.map (·.1)) id []);rw [<- hzs] at HQ HO;have HCH:=zh (show childN (M.map (·.1)) id=srt zs by rw [hzs];rfl);clear htk hzs
   rcases Nat.eq_zero_or_pos q with h0 | h0
   · subst h0;have hz0:zs=[]:=List.eq_nil_of_length_eq_zero HQ.out.symm;have hs0:srt zs=[]:=(by rw [hz0];simp [srt]);rw [hs0] at HCH;have HSS:=zh (Any.slices_Sort_int_none Tryz.sortI A' c' wr);have hown:=HO.out;rw [hz0] at hown;have HO0:=zh hown;clear hz0 hs0 hown HO;go_wp2_with fail;refine HSS.out.mono ?_;rintro e w' ⟨rfl,rfl⟩;go_wp2_with fail;go_ret;unfold IntsOut;rw [HCH.out];exact ⟨A',c',0,rfl,rfl,HO0.out,FR.out⟩
   ·
    obtain ⟨g,cap,hv,hbg,hlt⟩:=HO.out.form h0;injection hv with hv1 hv2 hv3
    subst hv1;subst hv3;have HSS:=zh (sorti_any wr w.heap.size g c' q zs HQ.out HO.out (by omega));clear HO hv2;go_wp2_with fail;refine HSS.out.mono ?_;rintro e wa ⟨rfl,hown,fa⟩;have FA:=zh (FR.out.trans (fa.mono (B':=w.heap.size) (L':=[]) FR.out.size (by intro q hq hlt;simp at hq;omega)));have HO2:=zh hown;clear hown fa HSS;go_wp2_with fail;go_ret;unfold IntsOut;rw [HCH.out];exact ⟨_,c',q,by rw [srt_len];exact HQ.out,rfl,HO2.out,FA.out⟩
abbrev ndZ:Array Value:=#[.int .i64 0,.int .i64 0,.slice none 0 0,.slice none 0 0,.int .i64 0,.int .i64 0,.int .i64 0,.int .i64 0,.int .i64 0,.int .i64 0,.int .i64 0,.int .i64 0,.int .i64 0]
theorem findf_any (id:Int) (gk:Nat) (m:Ndm) (w:World) (hb:Blk w gk 3 #[.int .i64 id]):Calls Tryz.prog 91 #[.agg (ndA m.1 m.2.1 m.2.2),.pointer (some ⟨gk,0,none⟩)] w fun e w'=>e=.returned (.bool (decide (m.1.id=id)))/\Fr w.heap.size [] w w':=by
 have B:=zh (hb.alloc (.cells (ndA m.1 m.2.1 m.2.2) 66));have f:=zh ((Fr.refl w.heap.size [] w).alloc (Nat.le_refl _) (.cells (ndA m.1 m.2.1 m.2.2) 66));have k0:=B.out.cell 0;simp at k0;obtain ⟨x,sf,sp⟩:=m;simp only at *;obtain ⟨b,hbv⟩:=nm (decide (x.id=id));have HB:=zh hbv;have hlt:=hb.lt;rw [<- hbv];clear hb hbv;go_enter Tryz.func91,Tryz.ntmps91;go_wp2_with fail;go_ret;exact ⟨by rw [HB.out];simp;by_cases h:x.id=id <;> simp [h],f.out⟩
def findN (L:List Nd) (id:Int):Option Nd:=L.find? fun x=>decide (x.id=id)
def FindOut (L:List Nd) (id:Int) (w:World) (e:Ending) (w':World):Prop :=
 ((findN L id=none/\e=.returned (.tuple #[.agg ndZ,.bool false])) \/ ∃ x sf sp,findN L id=some x/\e=.returned (.tuple #[.agg (ndA x sf sp),.bool true])/\NdIn w' w'.heap.size (x,sf,sp))/\Fr w.heap.size [] w w'
theorem findN_none {M:List Ndm} {id:Int} (h:∀ m ∈ M,decide (m.1.id=id)=false):findN (M.map (·.1)) id=none:=by
 unfold findN;rw [List.find?_eq_none];intro x hx;obtain ⟨m,hm,rfl⟩:=List.mem_map.1 hx;simpa using h m hm
theorem findN_some:∀ {M:List Ndm} {id:Int} {k:Nat} {m:Ndm},M[k]?=some m->decide (m.1.id=id)=true->(∀ j y,j < k->M[j]?=some y->decide (y.1.id=id)=false)->findN (M.map (·.1)) id=some m.1
 | [],_,k,m,h,_,_=>by simp at h
 | y :: M,id,0,m,h,hp,_=>by
  simp at h;subst h;unfold findN;rw [List.map_cons,List.find?_cons,hp]
 | y :: M,id,k+1,m,h,hp,hb=>by
  have h0:=hb 0 y (by omega) rfl;unfold findN;rw [List.map_cons,List.find?_cons,h0];exact findN_some (M:=M) (k:=k) (by simpa using h) hp fun j z hj hz=>hb (j+1) z (by omega) (by simpa using hz)
def Small (M:List Ndm):Prop:=M.length<=1000000 /\ ∀ m ∈ M,m.1.fr.length<=1000000/\m.1.pg.length<=1000000
theorem find_any (id:Int) (A:Option Addr) (c B n:Nat) (M:List Ndm) (w:World) (h:Nds w B A n M) (hB:B<=w.heap.size) (hs:Small M) :
  Calls Tryz.prog 56 #[.slice A n c,.int .i64 id] w (FindOut (M.map (·.1)) id w):=by
 have BK0:=(Blk.new w 3 #[.int .i64 id]).alloc (.cells ndZ 66);have BR0:=Blk.new (w.alloc (.cells #[.int .i64 id] 3)) 66 ndZ;rw [World.size_alloc] at BR0;have F0:=((Fr.refl w.heap.size [] w).alloc (Nat.le_refl _) (.cells #[.int .i64 id] 3)).alloc (by simp) (.cells ndZ 66);have HH:=zh h;have HS:=zh hs;have hn:n<=1000000:=(by rw [h.num];exact hs.1);have BK:=zh BK0;have BR:=zh BR0;have FA:=zh F0;have HN:=zh h.num;clear h hs BK0 BR0 F0;go_enter Tryz.func56,Tryz.ntmps56;go_wp2_with fail;generalize (w.alloc _).alloc _=w1 at *;have hent:=enters_of Tryz.func91 (by kernel_rfl) rfl;have HI:=zh (nindex_any 91 #[.pointer (some ⟨w.heap.size,0,none⟩)] (fun x=>decide (x.id=id)) A c B n M w1 hent (fun m w' _ hf=>findf_any id w.heap.size m w' (BK.out.fr hf BK.out.lt (by simp))) hn (HH.out.frw FA.out hB (by simp)) (Nat.le_trans hB FA.out.size));refine HI.out.mono ?_;rintro e w2 ⟨i,rfl,hi,f2⟩;have F2:=zh (FA.out.nx f2);have BR2:=zh (BR.out.fr f2 BR.out.lt (by simp));clear f2 HI
 rcases hi with ⟨rfl,hall⟩ | ⟨k,m,rfl,hx,hp,hbf⟩
 · have HFN:=zh (findN_none hall);clear hall;have s0:=BR2.out.cell 0;have s1:=BR2.out.cell 1;have s2:=BR2.out.cell 2;have s3:=BR2.out.cell 3;have s4:=BR2.out.cell 4;have s5:=BR2.out.cell 5;have s6:=BR2.out.cell 6;have s7:=BR2.out.cell 7;have s8:=BR2.out.cell 8;have s9:=BR2.out.cell 9;have s10:=BR2.out.cell 10;have s11:=BR2.out.cell 11;have s12:=BR2.out.cell 12;simp at s0 s1 s2 s3 s4 s5 s6 s7 s8 s9 s10 s11 s12;have z0:=BR2.out.frozen 0;have z1:=BR2.out.frozen 1;have z2:=BR2.out.frozen 2;have z3:=BR2.out.frozen 3;have z4:=BR2.out.frozen 4;have z5:=BR2.out.frozen 5;have z6:=BR2.out.frozen 6;have z7:=BR2.out.frozen 7;have z8:=BR2.out.frozen 8;have z9:=BR2.out.frozen 9;have z10:=BR2.out.frozen 10;have z11:=BR2.out.frozen 11;have z12:=BR2.out.frozen 12;go_wp2_with fail;have BE:=zh (blk_setNd BR2.out (.int .i64 0) (.int .i64 0) (.slice none 0 0) (.slice none 0 0) (.int .i64 0) (.int .i64 0) (.int .i64 0) (.int .i64 0) (.int .i64 0) (.int .i64 0) (.int .i64 0) (.int .i64 0) (.int .i64 0));have hgr:w.heap.size<=w.heap.size+1:=(by omega);have FE:=zh (fr_setNd F2.out (g:=w.heap.size+1) (.inl hgr) (.int .i64 0) (.int .i64 0) (.slice none 0 0) (.slice none 0 0) (.int .i64 0) (.int .i64 0) (.int .i64 0) (.int .i64 0) (.int .i64 0) (.int .i64 0) (.int .i64 0) (.int .i64 0) (.int .i64 0));exact bodyPost_ret (results_cell_row_tmp rfl _ _ (w.heap.size+1) 66 ndZ (0,0) _ rfl BE.out Tryz.underlying66 rfl (by kernel_rfl)) rfl ⟨.inl ⟨HFN.out,rfl⟩,FE.out⟩
 ·
  have HFN:=zh (findN_some hx hp hbf)
  have hkn:k < n:=by
   rw [HN.out]
   rcases Nat.lt_or_ge k M.length with h | h
   · exact h
   · rw [List.getElem?_eq_none h] at hx;cases hx
  have hki:(k:Int) < (n:Int):=(by omega);have hk0:(0:Int)<=(k:Int):=(by omega);have hk1:decide ((k:Int) < 0)=false:=decide_eq_false (by omega);have HND:=HH.out.frw F2.out hB (by simp);obtain ⟨b1,o1,rfl,hb1,hc1⟩:=HND.get hx;have HIN:=zh (HND.inn m (List.mem_of_getElem? hx));have hsm:=HS.out.2 m (List.mem_of_getElem? hx);obtain ⟨x,sf,sp⟩:=m;obtain ⟨g0,g1,g2,g3,g4,g5,g6,g7,g8,g9,g10,g11,g12⟩:=ndL_get (x,sf,sp);have HOW:=zh (own_any x sf sp B w2 HIN.out (Nat.le_trans hB F2.out.size) hsm.1 hsm.2);have p0:=hc1 0 _ g0;have p1:=hc1 1 _ g1;have p2:=hc1 2 _ g2;have p3:=hc1 3 _ g3;have p4:=hc1 4 _ g4;have p5:=hc1 5 _ g5;have p6:=hc1 6 _ g6;have p7:=hc1 7 _ g7;have p8:=hc1 8 _ g8;have p9:=hc1 9 _ g9;have p10:=hc1 10 _ g10;have p11:=hc1 11 _ g11;have p12:=hc1 12 _ g12;simp only [Nat.add_zero] at p0;clear hc1 hx hp hbf g0 g1 g2 g3 g4 g5 g6 g7 g8 g9 g10 g11 g12 HND hsm;go_wp2_with fail;refine HOW.out.mono ?_;rintro e w3 ⟨sf',sp',rfl,hin,hfr1,hfr2,_,f3⟩;have F3:=zh (F2.out.nx f3);have BR3:=zh (BR2.out.fr f3 BR2.out.lt (by simp));obtain ⟨⟨Af,cf,hf,rf⟩,⟨Ap,cp,hp,rp⟩⟩:=hin;simp only at hf hp rf rp;subst hf;subst hp;have RF:=zh rf;have RP:=zh rp;clear rf rp f3 HOW p0 p1 p2 p3 p4 p5 p6 p7 p8 p9 p10 p11 p12;have s0:=BR3.out.cell 0;have s1:=BR3.out.cell 1;have s2:=BR3.out.cell 2;have s3:=BR3.out.cell 3;have s4:=BR3.out.cell 4;have s5:=BR3.out.cell 5;have s6:=BR3.out.cell 6;have s7:=BR3.out.cell 7;have s8:=BR3.out.cell 8;have s9:=BR3.out.cell 9;have s10:=BR3.out.cell 10;have s11:=BR3.out.cell 11;have s12:=BR3.out.cell 12;simp at s0 s1 s2 s3 s4 s5 s6 s7 s8 s9 s10 s11 s12;have z0:=BR3.out.frozen 0;have z1:=BR3.out.frozen 1;have z2:=BR3.out.frozen 2;have z3:=BR3.out.frozen 3;have z4:=BR3.out.frozen 4;have z5:=BR3.out.frozen 5;have z6:=BR3.out.frozen 6;have z7:=BR3.out.frozen 7;have z8:=BR3.out.frozen 8;have z9:=BR3.out.frozen 9;have z10:=BR3.out.frozen 10;have z11:=BR3.out.frozen 11;have z12:=BR3.out.frozen 12;go_wp2_with fail;have BE:=zh (blk_setNd BR3.out (.int .i64 x.id) (.int .i64 x.kind) (.slice Af x.fr.length cf) (.slice Ap x.pg.length cp) (.int .i64 x.par) (.int .i64 (x.rt 0)) (.int .i64 (x.rt 1)) (.int .i64 (x.rt 2)) (.int .i64 (x.rt 3)) (.int .i64 (x.rt 4)) (.int .i64 (x.rt 5)) (.int .i64 (x.rt 6)) (.int .i64 (x.rt 7)));have hgr:w.heap.size<=w.heap.size+1:=(by omega);have FE:=zh (fr_setNd F3.out (g:=w.heap.size+1) (.inl hgr) (.int .i64 x.id) (.int .i64 x.kind) (.slice Af x.fr.length cf) (.slice Ap x.pg.length cp) (.int .i64 x.par) (.int .i64 (x.rt 0)) (.int .i64 (x.rt 1)) (.int .i64 (x.rt 2)) (.int .i64 (x.rt 3)) (.int .i64 (x.rt 4)) (.int .i64 (x.rt 5)) (.int .i64 (x.rt 6)) (.int .i64 (x.rt 7)));have hfe:=fr_setNd (Fr.refl w3.heap.size [w.heap.size+1] w3) (g:=w.heap.size+1) (.inr (by simp)) (.int .i64 x.id) (.int .i64 x.kind) (.slice Af x.fr.length cf) (.slice Ap x.pg.length cp) (.int .i64 x.par) (.int .i64 (x.rt 0)) (.int .i64 (x.rt 1)) (.int .i64 (x.rt 2)) (.int .i64 (x.rt 3)) (.int .i64 (x.rt 4)) (.int .i64 (x.rt 5)) (.int .i64 (x.rt 6)) (.int .i64 (x.rt 7));have hlr:w.heap.size+1 < w2.heap.size:=BR2.out.lt;have P1:=zh (RF.out.frL hfe (Nat.le_refl _) (fun h0 ad ha=>by have:=hfr1 _ _ _ rfl h0 ad ha;simp;omega));have P2:=zh (RP.out.frL hfe (Nat.le_refl _) (fun h0 ad ha=>by have:=hfr2 _ _ _ rfl h0 ad ha;simp;omega));have hsz:=hfe.size;exact bodyPost_ret (results_cell_row_tmp rfl _ _ (w.heap.size+1) 66 (ndA x (.slice Af x.fr.length cf) (.slice Ap x.pg.length cp)) (0,0) _ rfl BE.out Tryz.underlying66 rfl (by kernel_rfl)) rfl ⟨.inr ⟨x,_,_,HFN.out,rfl,⟨⟨Af,cf,rfl,P1.out.more hsz⟩,⟨Ap,cp,rfl,P2.out.more hsz⟩⟩⟩,FE.out⟩
theorem jindex_any (F:FuncId) (cap:Array Value) (p:Int->Bool) (A:Option Addr) (c B n:Nat) (l:List Int) (w:World) (hent:∀ (args:Array Value) (w:World),(callFunc F args).run Tryz.prog w=.ok (.enter F args) w)
  (hF:∀ (x:Int) (w':World),x ∈ l->Fr w.heap.size [] w w'->Calls Tryz.prog F (#[.int .i64 x] ++ cap) w' fun e w''=>e=.returned (.bool (p x))/\Fr w'.heap.size [] w' w'')
  (hn:n=l.length) (hm:n<=1000000) (hr:Reads w B 1 A n (l.map (Value.int .i64))) (hB:B<=w.heap.size) :
  Calls Tryz.prog 145 #[.slice A n c,.func (.func F) #[] cap] w fun e w'=>∃ i:Int,e=.returned (.int .i64 i)/\decide (0<=i)=l.any p/\Fr w.heap.size [] w w':=by
 have HF:=zh hF;have HR:=zh hr;have HN:=zh hn;clear hF hr hn;go_enter Tryz.func145,Tryz.ntmps145;go_wp2_with fail;go_loopg [8] n (fun g s8 wr=>∃ k:Nat,k<=n/\g=n - k/\s8=.int .i64 k/\Hid (∀ j y,j < k->l[j]?=some y->p y=false)/\Hid (Fr w.heap.size [] w wr))
 case atStart=>exact ⟨0,Nat.zero_le _,rfl,rfl,zh (fun j y h=>absurd h (by omega)),zh (Fr.refl _ _ _)⟩
 case round =>
  obtain ⟨k,hk,rfl,rfl,HP,FR⟩:=hrel
  by_cases hkn:k < n
  ·
   have hki:(k:Int) < (n:Int):=by omega
   have hk0:(0:Int)<=(k:Int):=(by omega);obtain ⟨x,hx⟩:∃ x,l[k]?=some x:=⟨_,List.getElem?_eq_getElem (by rw [<- HN.out];exact hkn)⟩;obtain ⟨b1,o1,u,rfl,hb1,hu,q1⟩:=(HR.out.fr FR.out hB (by simp)).one hkn;rw [List.getElem?_map,hx] at hu;injection hu with hu
   subst hu;have HC:=HF.out x wr (List.mem_of_getElem? hx) FR.out;have HX:=zh hx;clear hx;obtain ⟨b,hb⟩:=nm (p x);rw [<- hb] at HC;have HC:=zh HC;have HPX:=zh hb;clear hb
   cases b with
   | true =>
    go_wp2_with fail;refine HC.out.mono ?_;rintro e w2 ⟨rfl,f2⟩;have F2:=zh (FR.out.nx f2);clear f2 HC;go_wp2_with fail;go_ret;refine ⟨k,rfl,?_,F2.out⟩;rw [decide_eq_true hk0];exact (List.any_eq_true.2 ⟨x,List.mem_of_getElem? HX.out,HPX.out.symm⟩).symm
   | false =>
    go_wp2_with fail;refine HC.out.mono ?_;rintro e w2 ⟨rfl,f2⟩;have F2:=zh (FR.out.nx f2);clear f2 HC;go_wp2_with fail;go_roundg (n - (k+1))
    case measure=>omega
    case rel =>
     refine ⟨k+1,by omega,rfl,by go_num,zh fun j y hj hy => ?_,F2⟩
     rcases Nat.lt_or_ge j k with h | h
     · exact HP.out j y h hy
     ·
      have:j=k:=by omega
      subst this;rw [HX.out] at hy;injection hy with hy
      rw [<- hy];exact HPX.out.symm
  ·
   obtain rfl:k=n:=by omega
   go_wp2_with fail;go_ret;refine ⟨-1,rfl,?_,FR.out⟩
   symm
   rw [show decide ((0:Int) <= -1)=false from rfl,List.any_eq_false];intro x hx;obtain ⟨j,hj,rfl⟩:=List.mem_iff_getElem.1 hx;rw [HP.out j _ (by rw [HN.out];exact hj) (List.getElem?_eq_getElem hj)];simp
theorem jcontains_any (F:FuncId) (cap:Array Value) (p:Int->Bool) (A:Option Addr) (c B n:Nat) (l:List Int) (w:World) (hent:∀ (args:Array Value) (w:World),(callFunc F args).run Tryz.prog w=.ok (.enter F args) w)
  (hF:∀ (x:Int) (w':World),x ∈ l->Fr w.heap.size [] w w'->Calls Tryz.prog F (#[.int .i64 x] ++ cap) w' fun e w''=>e=.returned (.bool (p x))/\Fr w'.heap.size [] w' w'')
  (hn:n=l.length) (hm:n<=1000000) (hr:Reads w B 1 A n (l.map (Value.int .i64))) (hB:B<=w.heap.size) :
  Calls Tryz.prog 124 #[.slice A n c,.func (.func F) #[] cap] w fun e w'=>e=.returned (.bool (l.any p))/\Fr w.heap.size [] w w':=by
 have H:=zh (jindex_any F cap p A c B n l w hent hF hn hm hr hB);obtain ⟨b,hb⟩:=nm (l.any p);rw [<- hb] at H ⊢;clear hF hn hr hb;go_enter Tryz.func124,Tryz.ntmps124;go_wp2_with fail;refine H.out.mono ?_;rintro e w1 ⟨i,rfl,hi,f1⟩;have F1:=zh f1;have HI:=zh hi;clear hi f1 H;go_wp2_with fail;go_ret;exact ⟨by rw [<- HI.out];rfl,F1.out⟩
theorem badtask_any (k:Int) (gx:Nat) (x:Nd) (sf sp:Value) (w:World) (hb:Blk w gx 66 (ndA x sf sp)):Calls Tryz.prog 144 #[.int .i64 k,.pointer (some ⟨gx,0,none⟩)] w fun e w'=>e=.returned (.bool (decide (k < 0) || decide (x.par<=k)))/\Fr w.heap.size [] w w':=by
 have c4:=hb.cell 4;simp at c4
 by_cases h1:k < 0
 · have hd:decide (k < 0)=true:=decide_eq_true h1;rw [hd,Bool.true_or];clear hb;go_enter Tryz.func144,Tryz.ntmps144;go_wp2_with fail;go_ret;exact ⟨rfl,Fr.refl _ _ _⟩
 · have hd:decide (k < 0)=false:=decide_eq_false h1;rw [hd,Bool.false_or];obtain ⟨b,hbv⟩:=nm (decide (x.par<=k));have HB:=zh hbv;rw [<- hbv];clear hb hbv;go_enter Tryz.func144,Tryz.ntmps144;go_wp2_with fail;go_ret;exact ⟨by rw [HB.out];rfl,Fr.refl _ _ _⟩
def rtL (r:Nat->Int):List Int:=(List.range 8).map r
theorem rt_any (par:Int) (r:Nat->Int):(!(rtL r).any fun k=>decide (k < 0) || decide (par<=k))=inTo par r 8:=by
 unfold rtL inTo;rw [List.any_map,List.not_any_eq_all_not]
 congr 1
 funext k
 simp only [Function.comp]
 by_cases h1:r k < 0 <;> by_cases h2:par<=r k <;> simp [h1,h2] <;> omega
theorem nroute_any (x:Nd) (sf sp:Value) (w:World):Calls Tryz.prog 123 #[.agg (ndA x sf sp)] w fun e w'=>e=.returned (.bool (right8 x.par x.rt))/\Fr w.heap.size [] w w':=by
 have BX:=zh (Blk.new w 66 (ndA x sf sp));have F1:=zh ((Fr.refl w.heap.size [] w).alloc (Nat.le_refl _) (.cells (ndA x sf sp) 66));have hent:=enters_of Tryz.func144 (by kernel_rfl) rfl;have HRT:=zh (rt_any x.par x.rt);obtain ⟨b,hb⟩:=nm (right8 x.par x.rt);have HB:=zh hb;rw [<- hb];clear hb;go_enter Tryz.func123,Tryz.ntmps123;go_upto_region 2 with fail;generalize w.alloc (.cells (ndA x sf sp) 66)=w1 at *;have c4:=BX.out.cell 4;simp at c4
 by_cases h1:1<=x.par
 ·
  by_cases h3:x.par<=3
  ·
   have hrd:Reads w1 w1.heap.size 1 (some ⟨w.heap.size,5,none⟩) 8 ((rtL x.rt).map (Value.int .i64)):=by
    refine ⟨rfl,fun _=>⟨w.heap.size,5,rfl,BX.out.lt,fun j u hu => ?_⟩⟩;rw [BX.out.cell]
    have hj:j < 8:=by
     rcases Nat.lt_or_ge j 8 with h | h
     · exact h
     · rw [List.getElem?_eq_none (by simp [rtL];omega)] at hu;cases hu
    match j,hj with
    | 0,_=>simpa [rtL] using hu
    | 1,_=>simpa [rtL] using hu
    | 2,_=>simpa [rtL] using hu
    | 3,_=>simpa [rtL] using hu
    | 4,_=>simpa [rtL] using hu
    | 5,_=>simpa [rtL] using hu
    | 6,_=>simpa [rtL] using hu
    | 7,_=>simpa [rtL] using hu
   have HC:=jcontains_any 144 #[.pointer (some ⟨w.heap.size,0,none⟩)] (fun k=>decide (k < 0) || decide (x.par<=k)) (some ⟨w.heap.size,5,none⟩) 8 w1.heap.size 8 (rtL x.rt) w1 hent (fun k w' _ hf=>badtask_any k w.heap.size x sf sp w' (BX.out.fr hf BX.out.lt (by simp))) rfl (by omega) hrd (Nat.le_refl _)
   have hbb:b=!(rtL x.rt).any fun k=>decide (k < 0) || decide (x.par<=k):=by
    rw [HRT.out,HB.out,right8,decide_eq_true ⟨h1,h3⟩,Bool.true_and]
   generalize (rtL x.rt).any (fun k=>decide (k < 0) || decide (x.par<=k))=a at HC hbb;have HC:=zh HC;have HBB:=zh hbb;clear hbb hrd;go_wp2_with fail;refine HC.out.mono ?_;rintro e w2 ⟨rfl,f2⟩;have F2:=zh (F1.out.nx f2);clear f2 HC;go_wp2_with fail;go_ret;exact ⟨by rw [HBB.out];rfl,F2.out⟩
  ·
   have hb:b=false:=by rw [HB.out,right8,decide_eq_false (by omega),Bool.false_and]
   have hd1:decide (1<=x.par)=true:=decide_eq_true h1;have hd3:decide (x.par<=3)=false:=decide_eq_false h3;have HBF:=zh hb;clear hb;go_wp2_with fail;go_ret;exact ⟨by rw [HBF.out];rfl,F1.out⟩
 ·
  have hb:b=false:=by rw [HB.out,right8,decide_eq_false (by omega),Bool.false_and]
  have hd1:decide (1<=x.par)=false:=decide_eq_false h1;have HBF:=zh hb;clear hb;go_wp2_with fail;go_ret;exact ⟨by rw [HBF.out];rfl,F1.out⟩
theorem safe_any {A:Option Addr} {c B:Nat} {l:List (Int × Int)} {w:World} (hr:Reads w B 2 A l.length (cellsI l)) (hB:B<=w.heap.size) (hn:l.length<=maxLen) :
  Calls Tryz.prog 143 #[.slice A l.length c] w fun e w'=>e=.returned (.bool (chkL l).isSome)/\Fr w.heap.size [] w w':=by
 cases h:chkL l with
 | none=>exact safe_no hr hB hn h
 | some s=>exact safe_yes hr hB hn h
def kindB (x:Nd):Bool :=
 if x.kind=0 then decide (x.id=0) && (decide (x.fr.length=0) && decide (x.pg.length=0))
 else if x.kind=1 then !decide (x.id=0) && (decide (x.fr.length=1) && (chkL x.pg).isSome)
 else if x.kind=2 then !decide (x.id=0) && (decide (1<=x.fr.length) && (decide (x.fr.length<=3) && (unlikeB x.fr && decide (x.pg.length=0))))
 else false
theorem kind_any (x:Nd) (sf sp:Value) (B:Nat) (w:World) (h:NdIn w B (x,sf,sp)) (hB:B<=w.heap.size) (h1:x.fr.length<=1000000) (h2:x.pg.length<=1000000) :
  Calls Tryz.prog 122 #[.agg (ndA x sf sp)] w fun e w'=>e=.returned (.bool (kindB x))/\Fr w.heap.size [] w w':=by
 obtain ⟨⟨Af,cf,hf1,hf2⟩,⟨Ap,cp,hp1,hp2⟩⟩:=h;simp only at hf1 hf2 hp1 hp2;subst hf1;subst hp1;have HU:=fun (wx:World) (hx:Fr w.heap.size [] w wx)=>unlike_any Af x.fr.length cf B x.fr wx rfl h1 (hf2.fr hx hB (by simp)) (Nat.le_trans hB hx.size);have HS:=fun (wx:World) (hx:Fr w.heap.size [] w wx)=>safe_any (c:=cp) (hp2.fr hx hB (by simp)) (Nat.le_trans hB hx.size) (by unfold maxLen;omega);obtain ⟨nf,hnf⟩:=nm (x.fr.length);obtain ⟨np,hnp⟩:=nm (x.pg.length);rw [<- hnf] at HU;rw [<- hnp] at HS;rw [<- hnf,<- hnp];obtain ⟨ub,hub⟩:=nm (unlikeB x.fr);obtain ⟨sb,hsb⟩:=nm ((chkL x.pg).isSome);rw [<- hub] at HU;rw [<- hsb] at HS;have HU:=zh HU;have HS:=zh HS;obtain ⟨kb,hkb⟩:=nm (kindB x);rw [<- hkb];have hkb2:kb=if x.kind=0 then decide (x.id=0) && (decide (nf=0) && decide (np=0)) else if x.kind=1 then !decide (x.id=0) && (decide (nf=1) && sb) else if x.kind=2 then !decide (x.id=0) && (decide (1<=nf) && (decide (nf<=3) && (ub && decide (np=0)))) else false:=by rw [hkb,hnf,hnp,hub,hsb];rfl
 have HKB:=zh hkb2;have F1:=zh ((Fr.refl w.heap.size [] w).alloc (Nat.le_refl _) (.cells (ndA x (.slice Af nf cf) (.slice Ap np cp)) 66));have BX:=zh (Blk.new w 66 (ndA x (.slice Af nf cf) (.slice Ap np cp)));clear hf2 hp2 hkb hkb2 hub hsb hnf hnp h1 h2;go_enter Tryz.func122,Tryz.ntmps122;go_upto_region 1 with fail;generalize w.alloc (.cells (ndA x (.slice Af nf cf) (.slice Ap np cp)) 66)=w1 at *;have q0:=BX.out.cell 0;have q1:=BX.out.cell 1;have q2:=BX.out.cell 2;have q3:=BX.out.cell 3;simp at q0 q1 q2 q3;obtain ⟨id,hid⟩:=nm (x.id);obtain ⟨kd,hkd⟩:=nm (x.kind);rw [<- hid] at q0 HKB;rw [<- hkd] at q1 HKB;clear hid hkd
 by_cases k0:kd=0
 ·
  subst k0
  by_cases i0:id=0
  ·
   subst i0
   by_cases f0:nf=0
   ·
    subst f0
    by_cases p0:np=0
    · subst p0;have hkb:kb=true:=(by rw [HKB.out];rfl);have HV:=zh hkb;clear hkb;go_wp2_with fail;go_ret;exact ⟨by rw [HV.out];rfl,F1.out⟩
    · have hd:decide ((np:Int)=0)=false:=decide_eq_false (by omega);have hd2:((np:Int) == 0)=false:=(by simpa using p0);have hkb:kb=false:=(by rw [HKB.out];simp [p0]);have HV:=zh hkb;clear hkb;go_wp2_with fail;go_ret;exact ⟨by rw [HV.out];rfl,F1.out⟩
   · have hd:decide ((nf:Int)=0)=false:=decide_eq_false (by omega);have hd2:((nf:Int) == 0)=false:=(by simpa using f0);have hkb:kb=false:=(by rw [HKB.out];simp [f0]);have HV:=zh hkb;clear hkb;go_wp2_with fail;go_ret;exact ⟨by rw [HV.out];rfl,F1.out⟩
  · have hd:decide (id=0)=false:=decide_eq_false i0;have hd2:(id == 0)=false:=(by simpa using i0);have hkb:kb=false:=(by rw [HKB.out];simp [i0]);have HV:=zh hkb;clear hkb;go_wp2_with fail;go_ret;exact ⟨by rw [HV.out];rfl,F1.out⟩
 have hk0:decide (kd=0)=false:=decide_eq_false k0;have hk00:(kd == 0)=false:=(by simpa using k0)
 by_cases k1:kd=1
 ·
  subst k1
  by_cases i0:id=0
  · subst i0;have hkb:kb=false:=(by rw [HKB.out];simp);have HV:=zh hkb;clear hkb;go_wp2_with fail;go_ret;exact ⟨by rw [HV.out];rfl,F1.out⟩
  have hd0:decide (id=0)=false:=decide_eq_false i0;have hd00:(id != 0)=true:=(by simpa using i0)
  by_cases f1:nf=1
  · subst f1;have hkb:kb=sb:=(by rw [HKB.out];simp [i0]);have HV:=zh hkb;clear hkb;go_wp2_with fail;refine (HS.out _ F1.out).mono ?_;rintro e w2 ⟨rfl,f2⟩;have F2:=zh (F1.out.nx f2);clear f2;go_wp2_with fail;go_ret;exact ⟨by rw [HV.out];rfl,F2.out⟩
  · have hd:decide ((nf:Int)=1)=false:=decide_eq_false (by omega);have hd2:((nf:Int) == 1)=false:=(by simp;omega);have hkb:kb=false:=(by rw [HKB.out];simp [f1]);have HV:=zh hkb;clear hkb;go_wp2_with fail;go_ret;exact ⟨by rw [HV.out];rfl,F1.out⟩
 have hk1:decide (kd=1)=false:=decide_eq_false k1;have hk11:(kd == 1)=false:=(by simpa using k1)
 by_cases k2:kd=2
 ·
  subst k2
  by_cases i0:id=0
  · subst i0;have hkb:kb=false:=(by rw [HKB.out];simp);have HV:=zh hkb;clear hkb;go_wp2_with fail;go_ret;exact ⟨by rw [HV.out];rfl,F1.out⟩
  have hd0:decide (id=0)=false:=decide_eq_false i0;have hd00:(id != 0)=true:=(by simpa using i0)
  by_cases f1:1<=nf
  case neg =>
   have hd:decide ((1:Int)<=(nf:Int))=false:=decide_eq_false (by omega);obtain rfl:nf=0:=by omega
   have hkb:kb=false:=(by rw [HKB.out];simp);have HV:=zh hkb;clear hkb;go_wp2_with fail;go_ret;exact ⟨by rw [HV.out];rfl,F1.out⟩
  have hf1:(1:Int)<=(nf:Int):=(by omega)
  by_cases f3:nf<=3
  case neg =>
   have hd:decide ((nf:Int)<=3)=false:=decide_eq_false (by omega);have hkb:kb=false:=(by rw [HKB.out];simp [f3]);have HV:=zh hkb;clear hkb;go_wp2_with fail;go_ret;exact ⟨by rw [HV.out];rfl,F1.out⟩
  have hf3:(nf:Int)<=3:=(by omega);have hkb:kb=(ub && decide (np=0)):=(by rw [HKB.out];simp [i0,f1,f3]);have HV:=zh hkb;clear hkb
  cases ub with
  | false =>
   go_wp2_with fail;refine (HU.out _ F1.out).mono ?_;rintro e w2 ⟨rfl,f2⟩;have F2:=zh (F1.out.nx f2);clear f2;go_wp2_with fail;go_ret;exact ⟨by rw [HV.out];rfl,F2.out⟩
  | true =>
   go_wp2_with fail;refine (HU.out _ F1.out).mono ?_;rintro e w2 ⟨rfl,f2⟩;have F2:=zh (F1.out.nx f2);have BX2:=zh (BX.out.fr f2 BX.out.lt (by simp));have q3b:=BX2.out.cell 3;simp at q3b;clear f2
   by_cases p0:np=0
   · subst p0;go_wp2_with fail;go_ret;exact ⟨by rw [HV.out];rfl,F2.out⟩
   · have hd:decide ((np:Int)=0)=false:=decide_eq_false (by omega);have hd2:((np:Int) == 0)=false:=(by simpa using p0);have hkb:kb=false:=(by rw [HV.out];simp [p0]);have HV2:=zh hkb;clear hkb;go_wp2_with fail;go_ret;exact ⟨by rw [HV2.out];rfl,F2.out⟩
 have hk2:decide (kd=2)=false:=decide_eq_false k2;have hk22:(kd == 2)=false:=(by simpa using k2);have hkb:kb=false:=(by rw [HKB.out];simp [k0,k1,k2]);have HV:=zh hkb;clear hkb;go_wp2_with fail;go_ret;exact ⟨by rw [HV.out];rfl,F1.out⟩
def aboveB (L:List Nd) (id:Int):Bool:=match findN L id with | none=>true | some m=>decide (m.kind=2)
theorem above_any (id:Int) (gl:Nat) (A:Option Addr) (c B n:Nat) (M:List Ndm) (w:World) (hb:Blk w gl 27 #[.slice A n c]) (h:Nds w B A n M) (hB:B<=w.heap.size) (hs:Small M) :
  Calls Tryz.prog 121 #[.int .i64 id,.pointer (some ⟨gl,0,none⟩)] w fun e w'=>e=.returned (.bool (aboveB (M.map (·.1)) id))/\Fr w.heap.size [] w w':=by
 have HF:=zh (find_any id A c B n M w h hB hs);have c0:=hb.cell 0;simp at c0;obtain ⟨L,hL⟩:=nm (M.map (·.1));rw [<- hL] at HF ⊢;obtain ⟨ab,hab⟩:=nm (aboveB L id);have HAB:=zh hab;rw [<- hab];clear h hs hb hab hL;go_enter Tryz.func121,Tryz.ntmps121;go_wp2_with fail;refine HF.out.mono ?_;rintro e w1 ⟨hfd,f1⟩
 rcases hfd with ⟨hn,rfl⟩ | ⟨x,sf,sp,hfn,rfl,hin⟩
 ·
  have hv:ab=true:=by rw [HAB.out,aboveB,hn]
  have HV:=zh hv;have F1:=zh f1;clear hv hn f1 HF;go_wp2_with fail;go_ret;exact ⟨by rw [HV.out];rfl,F1.out.alloc F1.out.size _⟩
 ·
  obtain ⟨⟨Af,cf,hf,_⟩,⟨Ap,cp,hp,_⟩⟩:=hin;simp only at hf hp;subst hf;subst hp;have hv:ab=decide (x.kind=2):=(by rw [HAB.out,aboveB,hfn]);have HV:=zh hv;have F1:=zh f1;clear hv hfn f1 HF
  by_cases k2:x.kind=2
  ·
   have hd2:(x.kind == 2)=true:=by simpa using k2
   go_wp2_with fail;go_ret;exact ⟨by rw [HV.out,decide_eq_true k2];rfl,F1.out.alloc F1.out.size _⟩
  ·
   have hd2:(x.kind == 2)=false:=by simpa using k2
   go_wp2_with fail;go_ret;exact ⟨by rw [HV.out,decide_eq_false k2];rfl,F1.out.alloc F1.out.size _⟩
def nodeB (L:List Nd) (x:Nd):Bool:=decide (0<=x.id) && (decide (x.id < 8) && (kindB x && (right8 x.par x.rt && !x.fr.any (aboveB L))))
theorem node_any (x:Nd) (sf sp:Value) (A:Option Addr) (c B n:Nat) (M:List Ndm) (w:World) (h:NdIn w B (x,sf,sp)) (hN:Nds w B A n M) (hB:B<=w.heap.size) (hs:Small M) (h1:x.fr.length<=1000000) (h2:x.pg.length<=1000000) :
  Calls Tryz.prog 86 #[.agg (ndA x sf sp),.slice A n c] w fun e w'=>e=.returned (.bool (nodeB (M.map (·.1)) x))/\Fr w.heap.size [] w w':=by
 have HIN:=zh h;obtain ⟨⟨Af,cf,hf1,hf2⟩,⟨Ap,cp,hp1,hp2⟩⟩:=h;simp only at hf1 hf2 hp1 hp2;subst hf1;subst hp1;have HK:=zh (fun (wx:World) (hx:Fr w.heap.size [] w wx)=>kind_any x _ _ B wx (HIN.out.frw hx hB (by simp)) (Nat.le_trans hB hx.size) h1 h2);have HR:=zh (fun (wx:World)=>nroute_any x (.slice Af x.fr.length cf) (.slice Ap x.pg.length cp) wx);obtain ⟨nf,hnf⟩:=nm (x.fr.length);obtain ⟨np,hnp⟩:=nm (x.pg.length);rw [<- hnf,<- hnp] at HK HR;rw [<- hnf] at hf2 h1;rw [<- hnf,<- hnp];obtain ⟨L,hL⟩:=nm (M.map (·.1));obtain ⟨nb,hnb⟩:=nm (nodeB L x);have HL:=zh hL;have HNF:=zh hnf;have HFR:=zh hf2;have HND:=zh hN;have HSM:=zh hs;obtain ⟨kb,hkb⟩:=nm (kindB x);obtain ⟨rb,hrb⟩:=nm (right8 x.par x.rt);obtain ⟨ab,hab⟩:=nm (x.fr.any (aboveB L));have HNB:=zh (show nb=(decide (0<=x.id) && (decide (x.id < 8) && (kb && (rb && !ab)))) by rw [hnb,hkb,hrb,hab];rfl);rw [<- hkb] at HK;rw [<- hrb] at HR;have HABB:=zh hab;rw [<- hL,<- hnb];have BX:=zh ((Blk.new w 66 (ndA x (.slice Af nf cf) (.slice Ap np cp))).alloc (.cells #[.slice A n c] 27));have BL0:=Blk.new (w.alloc (.cells (ndA x (.slice Af nf cf) (.slice Ap np cp)) 66)) 27 #[.slice A n c];rw [World.size_alloc] at BL0;have BL:=zh BL0;have F1:=zh (((Fr.refl w.heap.size [] w).alloc (Nat.le_refl _) (.cells (ndA x (.slice Af nf cf) (.slice Ap np cp)) 66)).alloc (by simp) (.cells #[.slice A n c] 27));have hent:=enters_of Tryz.func121 (by kernel_rfl) rfl;clear hL hnb hN hs hkb hrb hab hf2 hp2 hnf hnp BL0 h2;go_enter Tryz.func86,Tryz.ntmps86;go_upto_region 2 with fail;generalize (w.alloc _).alloc _=w1 at *;have q0:=BX.out.cell 0;have q1:=BX.out.cell 1;have q2:=BX.out.cell 2;have q3:=BX.out.cell 3;have q4:=BX.out.cell 4;have q5:=BX.out.cell 5;have q6:=BX.out.cell 6;have q7:=BX.out.cell 7;have q8:=BX.out.cell 8;have q9:=BX.out.cell 9;have q10:=BX.out.cell 10;have q11:=BX.out.cell 11;have q12:=BX.out.cell 12;simp at q0 q1 q2 q3 q4 q5 q6 q7 q8 q9 q10 q11 q12;obtain ⟨id,hid⟩:=nm (x.id)
 by_cases i0:0<=x.id
 case neg =>
  have hd:decide (0<=x.id)=false:=decide_eq_false i0;have hv:nb=false:=(by rw [HNB.out];simp [i0]);have HV:=zh hv;clear hv;go_wp2_with fail;go_ret;exact ⟨by rw [HV.out];rfl,F1.out⟩
 by_cases i8:x.id < 8
 case neg =>
  have hd:decide (x.id < 8)=false:=decide_eq_false i8;have hv:nb=false:=(by rw [HNB.out];simp [i8]);have HV:=zh hv;clear hv;go_wp2_with fail;go_ret;exact ⟨by rw [HV.out];rfl,F1.out⟩
 cases kb with
 | false =>
  have hv:nb=false:=(by rw [HNB.out];simp);have HV:=zh hv;clear hv;go_wp2_with fail;refine (HK.out _ F1.out).mono ?_;rintro e w2 ⟨rfl,f2⟩;have F2:=zh (F1.out.nx f2);clear f2;go_wp2_with fail;go_ret;exact ⟨by rw [HV.out];rfl,F2.out⟩
 | true =>
  go_wp2_with fail;refine (HK.out _ F1.out).mono ?_;rintro e w2 ⟨rfl,f2⟩;have F2:=zh (F1.out.nx f2);have BX2:=zh (BX.out.fr f2 BX.out.lt (by simp));have BL2:=zh (BL.out.fr f2 BL.out.lt (by simp));clear f2 q0 q1 q2 q3 q4 q5 q6 q7 q8 q9 q10 q11 q12 HK BX BL F1;have r0:=BX2.out.cell 0;have r1:=BX2.out.cell 1;have r2:=BX2.out.cell 2;have r3:=BX2.out.cell 3;have r4:=BX2.out.cell 4;have r5:=BX2.out.cell 5;have r6:=BX2.out.cell 6;have r7:=BX2.out.cell 7;have r8:=BX2.out.cell 8;have r9:=BX2.out.cell 9;have r10:=BX2.out.cell 10;have r11:=BX2.out.cell 11;have r12:=BX2.out.cell 12;simp at r0 r1 r2 r3 r4 r5 r6 r7 r8 r9 r10 r11 r12
  cases rb with
  | false =>
   have hv:nb=false:=(by rw [HNB.out];simp);have HV:=zh hv;clear hv;go_wp2_with fail;refine (HR.out _).mono ?_;rintro e w3 ⟨rfl,f3⟩;have F3:=zh (F2.out.nx f3);clear f3;go_wp2_with fail;go_ret;exact ⟨by rw [HV.out];rfl,F3.out⟩
  | true =>
   go_wp2_with fail;refine (HR.out _).mono ?_;rintro e w3 ⟨rfl,f3⟩;have F3:=zh (F2.out.nx f3);have BX3:=zh (BX2.out.fr f3 BX2.out.lt (by simp));have BL3:=zh (BL2.out.fr f3 BL2.out.lt (by simp));have s2:=BX3.out.cell 2;simp at s2;have HCT:=jcontains_any 121 #[.pointer (some ⟨w.heap.size+1,0,none⟩)] (aboveB L) Af cf B nf x.fr w3 hent (fun k w' _ hf=>by rw [HL.out];exact above_any k (w.heap.size+1) A c B n M w' (BL3.out.fr hf BL3.out.lt (by simp)) (HND.out.frw (F3.out.nx hf) hB (by simp)) (Nat.le_trans hB (Nat.le_trans F3.out.size hf.size)) HSM.out) HNF.out h1 (HFR.out.fr F3.out hB (by simp)) (Nat.le_trans hB F3.out.size);rw [<- HABB.out] at HCT;have HCT:=zh HCT;have hv:nb=!ab:=(by rw [HNB.out];simp [i0,i8]);have HV:=zh hv;clear hv f3 r0 r1 r2 r3 r4 r5 r6 r7 r8 r9 r10 r11 r12 HR BX2 BL2 F2;go_wp2_with fail;refine HCT.out.mono ?_;rintro e w4 ⟨rfl,f4⟩;have F4:=zh (F3.out.nx f4);clear f4;go_wp2_with fail;go_ret;exact ⟨by rw [HV.out];rfl,F4.out⟩
end Go.Proofs.YtgblfflikgnfpaaGreat
namespace Go.Proofs.YtgblfflikgnfpaaGreat
set_option maxRecDepth 100000
set_option maxHeartbeats 16000000
set_option linter.unusedVariables false
def idsN (L:List Nd):List Int:=L.map (·.id)
def leN (a b:Nd):Bool:=decide (a.id<=b.id)
def normL (L:List Nd):List Nd:=L.mergeSort leN
def filtN (k:Int) (L:List Nd):List Nd:=L.filter fun n=>decide (n.id=k)
abbrev SortedN (L:List Nd):Prop:=L.Pairwise fun a b=>a.id<=b.id
theorem leN_trans (a b c:Nd):leN a b=true->leN b c=true->leN a c=true:=by simp [leN];omega
theorem leN_total (a b:Nd):(leN a b || leN b a)=true:=by simp [leN];omega
theorem normL_perm (L:List Nd):(normL L).Perm L:=List.mergeSort_perm _ _
theorem normL_len (L:List Nd):(normL L).length=L.length:=(normL_perm L).length_eq
theorem normL_sorted (L:List Nd):SortedN (normL L) :=
 (List.pairwise_mergeSort leN_trans leN_total L).imp fun h=>by simpa [leN] using h
theorem normL_mem {L:List Nd} {x:Nd}:x ∈ normL L ↔ x ∈ L:=(normL_perm L).mem_iff
theorem normL_filt (k:Int) (L:List Nd):filtN k (normL L)=filtN k L:=by
 have h1:(filtN k L).Sublist (normL L):=by
  refine List.sublist_mergeSort leN_trans leN_total ?_ List.filter_sublist;refine List.Pairwise.imp_of_mem ?_ (List.pairwise_of_forall (R:=fun _ _=>True) fun _ _=>trivial);intro a b ha hb _;have ha:=(List.mem_filter.1 ha).2;have hb:=(List.mem_filter.1 hb).2;simp at ha hb;simp [leN,ha,hb]
 have h2:(filtN k L).Sublist (filtN k (normL L)):=by
  have:=h1.filter fun n=>decide (n.id=k);have e:(filtN k L).filter (fun n=>decide (n.id=k))=filtN k L:=(by unfold filtN;rw [List.filter_filter];simp);rw [e] at this;exact this
 refine (h2.eq_of_length ?_).symm;exact ((normL_perm L).filter _).length_eq.symm
theorem filtN_head {k:Int} {n:Nd} {L:List Nd}:filtN k (n :: L)=if n.id=k then n :: filtN k L else filtN k L:=by
 unfold filtN;rw [List.filter_cons]
 by_cases h:n.id=k <;> simp [h]
theorem sorted_uniq:∀ {A B:List Nd},SortedN A->SortedN B->(∀ k,filtN k A=filtN k B)->A=B
 | [],[],_,_,_=>rfl
 | [],b :: B,_,_,h=>by
  have:=h b.id;rw [filtN_head,if_pos rfl] at this
  cases this
 | a :: A,[],_,_,h=>by
  have:=h a.id;rw [filtN_head,if_pos rfl] at this
  cases this
 | a :: A,b :: B,hA,hB,h=>by
  have hA':=List.pairwise_cons.1 hA;have hB':=List.pairwise_cons.1 hB
  have hid:a.id=b.id:=by
   have h1:a.id<=b.id:=by
    have hb:b ∈ filtN b.id (a :: A):=(by rw [h b.id];simp [filtN]);have hb:=(List.mem_filter.1 hb).1
    rcases List.mem_cons.1 hb with e | e
    · rw [e];omega
    · exact hA'.1 b e
   have h2:b.id<=a.id:=by
    have hb:a ∈ filtN a.id (b :: B):=(by rw [<- h a.id];simp [filtN]);have hb:=(List.mem_filter.1 hb).1
    rcases List.mem_cons.1 hb with e | e
    · rw [e];omega
    · exact hB'.1 a e
   omega
  have hab:a=b:=by
   have:=h a.id;rw [filtN_head,if_pos rfl,filtN_head,if_pos hid.symm] at this;injection this
  subst hab
  congr 1
  refine sorted_uniq hA'.2 hB'.2 fun k => ?_;have:=h k;rw [filtN_head,filtN_head] at this
  split at this
  · injection this
  · exact this
theorem normL_eq {R L:List Nd} (hs:SortedN R) (hf:∀ k,filtN k R=filtN k L):R=normL L:=sorted_uniq hs (normL_sorted L) fun k=>by rw [hf,normL_filt]
theorem findN_id {L:List Nd} {k:Int} {n:Nd} (h:findN L k=some n):n.id=k:=by simpa using List.find?_some h
theorem findN_mem {L:List Nd} {k:Int} {n:Nd} (h:findN L k=some n):n ∈ L:=List.mem_of_find?_eq_some h
theorem findN_ids {L:List Nd} {k:Int}:(∃ n,findN L k=some n) ↔ k ∈ idsN L:=by
 constructor
 · rintro ⟨n,h⟩;exact List.mem_map.2 ⟨n,findN_mem h,findN_id h⟩
 ·
  intro h;obtain ⟨n,hn,e⟩:=List.mem_map.1 h
  cases hf:findN L k with
  | some n=>exact ⟨n,rfl⟩
  | none =>
   have:=List.find?_eq_none.1 hf n hn;simp [e] at this
theorem findN_one {L:List Nd} (hu:(idsN L).Nodup) {n:Nd} (hn:n ∈ L):findN L n.id=some n:=by
 induction L with
 | nil=>cases hn
 | cons y L ih =>
  have hu':=List.nodup_cons.1 hu;unfold findN;rw [List.find?_cons]
  by_cases e:y.id=n.id
  ·
   simp only [e,decide_true]
   rcases List.mem_cons.1 hn with h | h
   · rw [h]
   · exact absurd (List.mem_map.2 ⟨n,h,e.symm⟩) hu'.1
  ·
   simp only [e,decide_false]
   rcases List.mem_cons.1 hn with h | h
   · subst h;exact absurd rfl e
   · exact ih hu'.2 h
def readyB (out:List Int) (n:Nd):Bool:=!hasI out n.id && n.fr.all (hasI out)
def sortF (L:List Nd):Nat->List Int
 | 0=>[]
 | k+1=>match L.find? (readyB (sortF L k)) with
  | none=>sortF L k
  | some n=>sortF L k ++ [n.id]
def sortN (L:List Nd):List Int:=sortF (normL L) L.length
theorem readyB_iff {out:List Int} {n:Nd}:readyB out n=true ↔ n.id ∉ out /\ ∀ f ∈ n.fr,f ∈ out:=by
 unfold readyB;rw [Bool.and_eq_true,Bool.not_eq_true',List.all_eq_true];constructor
 · rintro ⟨h1,h2⟩;exact ⟨(fun h=>by rw [hasI_iff.2 h] at h1;cases h1),fun f hf=>hasI_iff.1 (h2 f hf)⟩
 ·
  rintro ⟨h1,h2⟩;refine ⟨?_,fun f hf=>hasI_iff.2 (h2 f hf)⟩
  cases hb:hasI out n.id with
  | false=>rfl
  | true=>exact absurd (hasI_iff.1 hb) h1
structure OrdN (L:List Nd) (out:List Int):Prop where
 nodup:out.Nodup
 each:∀ i x,out[i]?=some x->∃ n ∈ L,n.id=x /\ ∀ f ∈ n.fr,f ∈ out.take i
theorem OrdN.sub {L:List Nd} {out:List Int} (h:OrdN L out):∀ x ∈ out,x ∈ idsN L:=by
 intro x hx;obtain ⟨i,hi⟩:=List.getElem?_of_mem hx;obtain ⟨n,hn,e,_⟩:=h.each i x hi;exact List.mem_map.2 ⟨n,hn,e⟩
theorem OrdN.le {L:List Nd} {out:List Int} (h:OrdN L out):out.length<=L.length:=by
 have:=nodup_sub h.nodup h.sub;simpa [idsN] using this
theorem OrdN.snoc {L:List Nd} {out:List Int} (h:OrdN L out) {n:Nd} (hn:n ∈ L) (hr:readyB out n=true):OrdN L (out ++ [n.id]):=by
 obtain ⟨h1,h2⟩:=readyB_iff.1 hr;refine ⟨?_,fun i x hi => ?_⟩
 · rw [List.nodup_append];refine ⟨h.nodup,by simp,?_⟩;intro a ha b hb;simp at hb;subst hb;rintro rfl;exact h1 ha
 ·
  rcases Nat.lt_or_ge i out.length with hlt | hge
  · rw [List.getElem?_append_left hlt] at hi;obtain ⟨m,hm,e,hf⟩:=h.each i x hi;refine ⟨m,hm,e,fun f hff => ?_⟩;rw [List.take_append_of_le_length (by omega)];exact hf f hff
  ·
   rw [List.getElem?_append_right hge] at hi
   have hi0:i=out.length:=by
    rcases Nat.eq_zero_or_pos (i - out.length) with h0 | h0
    · omega
    · rw [List.getElem?_eq_none (by simp;omega)] at hi;cases hi
   subst hi0;simp at hi;subst hi;refine ⟨n,hn,rfl,fun f hf => ?_⟩;rw [List.take_append_of_le_length (by omega),List.take_length];exact h2 f hf
theorem sortF_ord (L:List Nd):∀ k,OrdN L (sortF L k)
 | 0=>⟨List.nodup_nil,fun i x h=>by simp [sortF] at h⟩
 | k+1=>by
  unfold sortF
  split
  · exact sortF_ord L k
  · rename_i n hn;exact (sortF_ord L k).snoc (List.mem_of_find?_eq_some hn) (by simpa using List.find?_some hn)
theorem sortF_stay {L:List Nd} {k:Nat} (h:L.find? (readyB (sortF L k))=none):∀ j,sortF L (k+j)=sortF L k
 | 0=>rfl
 | j+1=>by
  have ih:=sortF_stay h j
  show (match L.find? (readyB (sortF L (k+j))) with | none=>sortF L (k+j) | some n=>sortF L (k+j) ++ [n.id])=_
  rw [ih,h]
theorem sortF_some {L:List Nd} {k:Nat} {n:Nd} (h:L.find? (readyB (sortF L k))=some n):sortF L (k+1)=sortF L k ++ [n.id]:=by
 show (match L.find? (readyB (sortF L k)) with | none=>sortF L k | some n=>sortF L k ++ [n.id])=_
 rw [h]
theorem sortF_room {L:List Nd} {k:Nat} {n:Nd} (hk:(sortF L k).length=k) (h:L.find? (readyB (sortF L k))=some n):k < L.length:=by
 have:=(sortF_ord L (k+1)).le;rw [sortF_some h,List.length_append,hk] at this;simp at this;omega
theorem sortF_end {L:List Nd} {k:Nat} (hk:k<=L.length) (h:L.find? (readyB (sortF L k))=none):sortF L L.length=sortF L k:=by
 obtain ⟨j,hj⟩:∃ j,L.length=k+j:=⟨L.length - k,by omega⟩;rw [hj];exact sortF_stay h j
def aboveN (L:List Nd) (t:Int):Nat->Int->Bool
 | 0,_=>false
 | s+1,f=>match findN L f with
  | none=>false
  | some n=>n.fr.any fun k=>decide (k=t) || aboveN L t s k
def Edge (L:List Nd) (x y:Int):Prop:=∃ n,findN L x=some n/\y ∈ n.fr
theorem aboveN_edge {L:List Nd} {t f:Int} (s:Nat) (h:Edge L f t):aboveN L t (s+1) f=true:=by
 obtain ⟨n,hn,hf⟩:=h;unfold aboveN;rw [hn];simp only;rw [List.any_eq_true];exact ⟨t,hf,by simp⟩
theorem aboveN_step {L:List Nd} {t f k:Int} {s:Nat} (h:Edge L f k) (ha:aboveN L t s k=true):aboveN L t (s+1) f=true:=by
 obtain ⟨n,hn,hf⟩:=h;unfold aboveN;rw [hn];simp only;rw [List.any_eq_true];exact ⟨k,hf,by simp [ha]⟩
theorem aboveN_cases {L:List Nd} {t f:Int} {s:Nat} (h:aboveN L t (s+1) f=true):∃ k,Edge L f k/\(k=t \/ aboveN L t s k=true):=by
 unfold aboveN at h
 cases hn:findN L f with
 | none=>rw [hn] at h;cases h
 | some n =>
  rw [hn] at h;obtain ⟨k,hk,hh⟩:=List.any_eq_true.1 h;exact ⟨k,⟨n,hn,hk⟩,by simpa using hh⟩
def Ranked (L:List Nd):Prop:=∃ r:Int->Nat,∀ n ∈ L,∀ f ∈ n.fr,r f < r n.id
theorem ranked_above {L:List Nd} {r:Int->Nat} (hr:∀ n ∈ L,∀ f ∈ n.fr,r f < r n.id) {t:Int}:∀ {s:Nat} {f:Int},aboveN L t s f=true->r t < r f
 | 0,_,h=>by cases h
 | s+1,f,h=>by
  obtain ⟨k,⟨n,hn,hk⟩,hh⟩:=aboveN_cases h;have h1:=hr n (findN_mem hn) k hk;rw [findN_id hn] at h1
  rcases hh with rfl | hh
  · exact h1
  · exact Nat.lt_trans (ranked_above hr hh) h1
def posI:List Int->Int->Nat
 | [],_=>0
 | y :: l,x=>if y=x then 0 else posI l x+1
theorem posI_get:∀ {l:List Int} {x:Int},x ∈ l->l[posI l x]?=some x
 | [],_,h=>by cases h
 | y :: l,x,h=>by
  unfold posI
  by_cases e:y=x
  · simp [e]
  ·
   rw [if_neg e]
   rcases List.mem_cons.1 h with h | h
   · exact absurd h.symm e
   · simpa using posI_get h
theorem posI_le:∀ {l:List Int} {x:Int} {j:Nat},l[j]?=some x->posI l x<=j
 | [],_,_,h=>by simp at h
 | y :: l,x,0,h=>by simp at h;simp [posI,h]
 | y :: l,x,j+1,h=>by
  unfold posI;have:=posI_le (l:=l) (x:=x) (j:=j) (by simpa using h)
  split <;> omega
theorem posI_take {l:List Int} {x:Int} {i:Nat} (h:x ∈ l.take i):posI l x < i:=by
 obtain ⟨j,hj⟩:=List.getElem?_of_mem h;rw [List.getElem?_take] at hj
 split at hj
 · exact Nat.lt_of_le_of_lt (posI_le hj) ‹_›
 · cases hj
theorem full_sub {a b:List Int} (ha:a.Nodup) (hs:∀ x ∈ a,x ∈ b) (hl:b.length<=a.length):∀ x ∈ b,x ∈ a:=by
 intro x hx;refine Classical.byContradiction fun hn => ?_
 have := nodup_sub (a := x :: a) (b := b) (List.nodup_cons.2 ⟨hn, ha⟩) (fun y hy => by
  rcases List.mem_cons.1 hy with rfl | h
  · exact hx
  · exact hs y h)
 simp at this;omega
theorem sortN_ord (L:List Nd):OrdN L (sortN L):=by
 have h:=sortF_ord (normL L) L.length;exact ⟨h.nodup,fun i x hi=>by obtain ⟨n,hn,r⟩:=h.each i x hi;exact ⟨n,normL_mem.1 hn,r⟩⟩
abbrev Complete (L:List Nd):Prop:=(sortN L).length=L.length
theorem complete_all {L:List Nd} (h:Complete L) {n:Nd} (hn:n ∈ L):n.id ∈ sortN L :=
 full_sub (sortN_ord L).nodup (sortN_ord L).sub (by rw [h];simp [idsN]) _ (List.mem_map.2 ⟨n,hn,rfl⟩)
theorem id_inj {L:List Nd} (hu:(idsN L).Nodup) {a b:Nd} (ha:a ∈ L) (hb:b ∈ L) (h:a.id=b.id):a=b:=by
 have h1:=findN_one hu ha;have h2:=findN_one hu hb;rw [h,h2] at h1;injection h1 with h1
 exact h1.symm
theorem complete_rank {L:List Nd} (hu:(idsN L).Nodup) (h:Complete L):∀ n ∈ L,∀ f ∈ n.fr,posI (sortN L) f < posI (sortN L) n.id:=by
 intro n hn f hf;obtain ⟨m,hm,e,hh⟩:=(sortN_ord L).each _ _ (posI_get (complete_all h hn));have:=id_inj hu hm hn e;subst this;exact posI_take (hh f hf)
theorem complete_ranked {L:List Nd} (hu:(idsN L).Nodup) (h:Complete L):Ranked L:=⟨_,complete_rank hu h⟩
theorem sortF_go (L:List Nd):∀ k,(sortF L k).length=k \/ ∃ j,j < k/\(sortF L j).length=j/\L.find? (readyB (sortF L j))=none
 | 0=>.inl rfl
 | k+1=>by
  rcases sortF_go L k with h | ⟨j,hj,h⟩
  ·
   cases hf:L.find? (readyB (sortF L k)) with
   | none=>exact .inr ⟨k,by omega,h,hf⟩
   | some n=>left;rw [sortF_some hf,List.length_append,h];rfl
  · exact .inr ⟨j,by omega,h⟩
theorem chain_above {L:List Nd} {a:Nat->Int} (h:∀ k,Edge L (a k) (a (k+1))):∀ (d i s:Nat),d+1<=s->aboveN L (a (i+d+1)) s (a i)=true
 | 0,i,s,hs=>by
  obtain ⟨s,rfl⟩:∃ s',s=s'+1:=⟨s - 1,by omega⟩;exact aboveN_edge _ (h i)
 | d+1,i,s,hs=>by
  obtain ⟨s,rfl⟩:∃ s',s=s'+1:=⟨s - 1,by omega⟩;have:=chain_above h d (i+1) s (by omega);rw [show i+1+d+1=i+(d+1)+1 by omega] at this;exact aboveN_step (h i) this
theorem two_alike {a:Nat->Int} {l:List Int} {m:Nat} (hl:l.length<=m) (ha:∀ k,a k ∈ l):∃ i j,i < j/\j<=m/\a i=a j:=by
 refine Classical.byContradiction fun hn => ?_
 have hnd:((List.range (m+1)).map a).Nodup:=by
  rw [List.nodup_iff_pairwise_ne,List.pairwise_map];refine List.Pairwise.imp_of_mem ?_ List.pairwise_lt_range;intro i j _ hj hij e;exact hn ⟨i,j,hij,by have:=List.mem_range.1 hj;omega,e⟩
 have := nodup_sub hnd (b := l) (by
  intro x hx;obtain ⟨k,_,rfl⟩:=List.mem_map.1 hx
  exact ha k)
 simp at this;omega
theorem froms_there {L:List Nd} {n:Nd} (h:nodeB L n=true):∀ f ∈ n.fr,∃ m,findN L f=some m/\m.kind ≠ 2:=by
 intro f hf;unfold nodeB at h;simp only [Bool.and_eq_true,Bool.not_eq_true',List.any_eq_false] at h;have h1:=h.2.2.2.2 f hf;unfold aboveB at h1
 cases hm:findN L f with
 | none=>rw [hm] at h1;simp at h1
 | some m=>rw [hm] at h1;exact ⟨m,rfl,by simpa using h1⟩
theorem acyclic_complete {L:List Nd} (hl:L.length<=8) (hn:∀ n ∈ L,nodeB L n=true) (hu:(idsN L).Nodup) (hc:∀ n ∈ L,aboveN L n.id 9 n.id=false):Complete L:=by
 refine Classical.byContradiction fun hnc => ?_
 rcases sortF_go (normL L) L.length with h | ⟨j,hj,hjl,hnone⟩
 · exact hnc h
 have hs:sortN L=sortF (normL L) j:=by
  unfold sortN;rw [<- normL_len L];exact sortF_end (by rw [normL_len];omega) hnone
 rw [<- hs] at hnone
 let P:Int->Prop:=fun x=>x ∈ idsN L/\x ∉ sortN L
 have hstep:∀ x,∃ y,P x->P y/\Edge L x y:=by
  intro x
  by_cases hp:P x
  · obtain ⟨n,hf⟩:=findN_ids.2 hp.1;have hr:=List.find?_eq_none.1 hnone n (normL_mem.2 (findN_mem hf));have hr2:¬ (∀ f ∈ n.fr,f ∈ sortN L):=fun h=>hr (readyB_iff.2 ⟨by rw [findN_id hf];exact hp.2,h⟩);obtain ⟨f,hff⟩:=Classical.not_forall.1 hr2;obtain ⟨hfm,hfo⟩:=Classical.not_imp.1 hff;obtain ⟨m,hm,_⟩:=froms_there (hn n (findN_mem hf)) f hfm;exact ⟨f,fun _=>⟨⟨findN_ids.1 ⟨m,hm⟩,hfo⟩,n,hf,hfm⟩⟩
  · exact ⟨x,fun h=>absurd h hp⟩
 obtain ⟨g,hg⟩:=Classical.axiomOfChoice hstep
 have hx0:∃ x,P x:=by
  refine Classical.byContradiction fun hno => ?_;have:=nodup_sub hu (b:=sortN L) (fun x hx=>Classical.byContradiction fun hx'=>hno ⟨x,hx,hx'⟩);have h2:=(sortN_ord L).le;simp [idsN] at this;omega
 obtain ⟨x0,hx0⟩:=hx0
 let a:Nat->Int:=fun k=>Nat.rec x0 (fun _ y=>g y) k
 have ha:∀ k,P (a k):=by
  intro k
  induction k with
  | zero=>exact hx0
  | succ k ih=>exact (hg _ ih).1
 have he:∀ k,Edge L (a k) (a (k+1)):=fun k=>(hg _ (ha k)).2;obtain ⟨i,j',hij,hj8,haij⟩:=two_alike (m:=8) (l:=idsN L) (by simpa [idsN] using hl) (fun k=>(ha k).1);have:=chain_above he (j' - i - 1) i 9 (by omega);rw [show i+(j' - i - 1)+1=j' by omega,<- haij] at this;obtain ⟨n,hf⟩:=findN_ids.2 (ha i).1;have h9:=hc n (findN_mem hf);rw [findN_id hf,this] at h9
 cases h9
structure RightG (L:List Nd):Prop where
 len:L.length<=8
 each:∀ n ∈ L,nodeB L n=true
 uni:(idsN L).Nodup
 zero:0 ∈ idsN L
 rank:Ranked L
theorem RightG.complete {L:List Nd} (h:RightG L):Complete L:=by
 obtain ⟨r,hr⟩:=h.rank;refine acyclic_complete h.len h.each h.uni fun n hn => ?_
 cases hb:aboveN L n.id 9 n.id with
 | false=>rfl
 | true=>have:=ranked_above hr hb;omega
def checkN (L:List Nd):Int :=
 if 8 < L.length then 6 else if L.all (nodeB L) && (unlikeB (idsN L) && (hasI (idsN L) 0 && decide ((sortN L).length=L.length))) then 0 else 10
theorem checkN_zero {L:List Nd}:checkN L=0 ↔ RightG L:=by
 unfold checkN
 by_cases h8:8 < L.length
 · rw [if_pos h8];exact ⟨(fun h=>by cases h),(fun h=>by have:=h.len;omega)⟩
 ·
  rw [if_neg h8];constructor
  ·
   intro h
   split at h
   · rename_i hh;simp only [Bool.and_eq_true,List.all_eq_true,unlikeB,decide_eq_true_eq] at hh;exact ⟨by omega,hh.1,hh.2.1,hasI_iff.1 hh.2.2.1,complete_ranked hh.2.1 hh.2.2.2⟩
   · cases h
  · intro h;rw [if_pos];simp only [Bool.and_eq_true,List.all_eq_true,unlikeB,decide_eq_true_eq];exact ⟨h.each,h.uni,hasI_iff.2 h.zero,h.complete⟩
theorem checkN_long {L:List Nd}:checkN L=6 ↔ 8 < L.length:=by
 unfold checkN
 by_cases h8:8 < L.length
 · simp [h8]
 ·
  rw [if_neg h8]
  split <;> simp [h8]
theorem checkN_three (L:List Nd):checkN L=0 \/ checkN L=6 \/ checkN L=10:=by
 unfold checkN
 split
 · exact .inr (.inl rfl)
 ·
  split
  · exact .inl rfl
  · exact .inr (.inr rfl)
theorem kids_mem:∀ (L:List Nd) (id:Int) (out:List Int) (c:Int),c ∈ kidsN L id out ↔ c ∈ out \/ ∃ n ∈ L,n.id=c/\id ∈ n.fr
 | [],id,out,c=>by simp [kidsN]
 | x :: L,id,out,c=>by
  unfold kidsN;rw [kids_mem L id _ c]
  by_cases h:hasI x.fr id=true
  ·
   have hx:id ∈ x.fr:=hasI_iff.1 h
   by_cases h2:hasI out x.id=true
   ·
    have h2':x.id ∈ out:=hasI_iff.1 h2;rw [if_neg (by simp [h,h2])];constructor
    ·
     rintro (h | ⟨n,hn,e⟩)
     · exact .inl h
     · exact .inr ⟨n,by simp [hn],e⟩
    ·
     rintro (h | ⟨n,hn,e,hf⟩)
     · exact .inl h
     ·
      rcases List.mem_cons.1 hn with rfl | hn
      · left;rw [<- e];exact h2'
      · exact .inr ⟨n,hn,e,hf⟩
   ·
    rw [if_pos (by simp [h,h2])];constructor
    ·
     rintro (h | ⟨n,hn,e⟩)
     ·
      rcases List.mem_append.1 h with h | h
      · exact .inl h
      · exact .inr ⟨x,by simp,(List.mem_singleton.1 h).symm,hx⟩
     · exact .inr ⟨n,by simp [hn],e⟩
    ·
     rintro (h | ⟨n,hn,e,hf⟩)
     · exact .inl (by simp [h])
     ·
      rcases List.mem_cons.1 hn with rfl | hn
      · exact .inl (by simp [e])
      · exact .inr ⟨n,hn,e,hf⟩
  ·
   rw [if_neg (by simp [h])];have hx:id ∉ x.fr:=fun hx=>h (hasI_iff.2 hx);constructor
   ·
    rintro (h | ⟨n,hn,e⟩)
    · exact .inl h
    · exact .inr ⟨n,by simp [hn],e⟩
   ·
    rintro (h | ⟨n,hn,e,hf⟩)
    · exact .inl h
    ·
     rcases List.mem_cons.1 hn with rfl | hn
     · exact absurd hf hx
     · exact .inr ⟨n,hn,e,hf⟩
theorem childN_mem {L:List Nd} {id c:Int}:c ∈ childN L id ↔ ∃ n ∈ L,n.id=c/\id ∈ n.fr:=by
 unfold childN;rw [(srt_perm _).mem_iff,kids_mem];simp
theorem kids_nodup:∀ (L:List Nd) (id:Int) (out:List Int),out.Nodup->(kidsN L id out).Nodup
 | [],_,_,h=>h
 | x :: L,id,out,h=>by
  unfold kidsN;refine kids_nodup L id _ ?_
  split
  ·
   rename_i hc;simp only [Bool.and_eq_true,Bool.not_eq_true'] at hc;have hn:x.id ∉ out:=fun hm=>by have:=hasI_iff.2 hm;rw [hc.2] at this;cases this
   rw [List.nodup_append];refine ⟨h,by simp,fun a ha b hb => ?_⟩;simp at hb;subst hb;rintro rfl;exact hn ha
  · exact h
theorem childN_rises (L:List Nd) (id:Int):(childN L id).Pairwise (· < ·):=by
 have h1:=srt_sorted (kidsN L id []);have h2:(childN L id).Nodup:=(srt_perm _).nodup_iff.2 (kids_nodup L id [] List.nodup_nil);have h3:=List.nodup_iff_pairwise_ne.1 h2;unfold childN at h3 ⊢;exact (List.Pairwise.and h1 h3).imp fun h=>by omega
theorem nodeB_iff {L:List Nd} {x:Nd}:nodeB L x=true ↔ 0<=x.id/\x.id < 8/\kindB x=true/\right8 x.par x.rt=true /\ ∀ f ∈ x.fr,∃ m,findN L f=some m/\m.kind ≠ 2:=by
 constructor
 · intro h;have h2:=froms_there h;unfold nodeB at h;simp only [Bool.and_eq_true,decide_eq_true_eq] at h;exact ⟨h.1,h.2.1,h.2.2.1,h.2.2.2.1,h2⟩
 · rintro ⟨h1,h2,h3,h4,h5⟩;unfold nodeB;simp only [Bool.and_eq_true,decide_eq_true_eq,Bool.not_eq_true',List.any_eq_false];refine ⟨h1,h2,h3,h4,fun f hf => ?_⟩;obtain ⟨m,hm,hk⟩:=h5 f hf;unfold aboveB;rw [hm];simpa using hk
theorem kindB_zero {x:Nd} (h:kindB x=true):x.id=0 ↔ x.kind=0:=by
 unfold kindB at h
 by_cases k0:x.kind=0
 · rw [if_pos k0] at h;simp only [Bool.and_eq_true,decide_eq_true_eq] at h;exact ⟨fun _=>k0,fun _=>h.1⟩
 ·
  rw [if_neg k0] at h;constructor
  ·
   intro hi;rw [hi] at h
   split at h
   · simp at h
   ·
    split at h
    · simp at h
    · cases h
  · intro hk;exact absurd hk k0
end Go.Proofs.YtgblfflikgnfpaaGreat
namespace Go.Proofs.YtgblfflikgnfpaaGreat
open Go.RowKit Go.Fb
set_option maxRecDepth 100000
set_option maxHeartbeats 16000000
set_option linter.unusedVariables false
def FindOutF (L:List Nd) (id:Int) (w:World) (e:Ending) (w':World):Prop :=
 ((findN L id=none/\e=.returned (.tuple #[.agg ndZ,.bool false])) \/ ∃ x sf sp,findN L id=some x/\e=.returned (.tuple #[.agg (ndA x sf sp),.bool true])/\NdIn w' w'.heap.size (x,sf,sp)/\Fresh w.heap.size sf/\Fresh w.heap.size sp)/\Fr w.heap.size [] w w'
theorem findF_any (id:Int) (A:Option Addr) (c B n:Nat) (M:List Ndm) (w:World) (h:Nds w B A n M) (hB:B<=w.heap.size) (hs:Small M) :
  Calls Tryz.prog 56 #[.slice A n c,.int .i64 id] w (FindOutF (M.map (·.1)) id w):=by
 have BK0:=(Blk.new w 3 #[.int .i64 id]).alloc (.cells ndZ 66);have BR0:=Blk.new (w.alloc (.cells #[.int .i64 id] 3)) 66 ndZ;rw [World.size_alloc] at BR0;have F0:=((Fr.refl w.heap.size [] w).alloc (Nat.le_refl _) (.cells #[.int .i64 id] 3)).alloc (by simp) (.cells ndZ 66);have HH:=zh h;have HS:=zh hs;have hn:n<=1000000:=(by rw [h.num];exact hs.1);have BK:=zh BK0;have BR:=zh BR0;have FA:=zh F0;have HN:=zh h.num;clear h hs BK0 BR0 F0;go_enter Tryz.func56,Tryz.ntmps56;go_wp2_with fail;generalize (w.alloc _).alloc _=w1 at *;have hent:=enters_of Tryz.func91 (by kernel_rfl) rfl;have HI:=zh (nindex_any 91 #[.pointer (some ⟨w.heap.size,0,none⟩)] (fun x=>decide (x.id=id)) A c B n M w1 hent (fun m w' _ hf=>findf_any id w.heap.size m w' (BK.out.fr hf BK.out.lt (by simp))) hn (HH.out.frw FA.out hB (by simp)) (Nat.le_trans hB FA.out.size));refine HI.out.mono ?_;rintro e w2 ⟨i,rfl,hi,f2⟩;have F2:=zh (FA.out.nx f2);have BR2:=zh (BR.out.fr f2 BR.out.lt (by simp));clear f2 HI
 rcases hi with ⟨rfl,hall⟩ | ⟨k,m,rfl,hx,hp,hbf⟩
 · have HFN:=zh (findN_none hall);clear hall;have s0:=BR2.out.cell 0;have s1:=BR2.out.cell 1;have s2:=BR2.out.cell 2;have s3:=BR2.out.cell 3;have s4:=BR2.out.cell 4;have s5:=BR2.out.cell 5;have s6:=BR2.out.cell 6;have s7:=BR2.out.cell 7;have s8:=BR2.out.cell 8;have s9:=BR2.out.cell 9;have s10:=BR2.out.cell 10;have s11:=BR2.out.cell 11;have s12:=BR2.out.cell 12;simp at s0 s1 s2 s3 s4 s5 s6 s7 s8 s9 s10 s11 s12;have z0:=BR2.out.frozen 0;have z1:=BR2.out.frozen 1;have z2:=BR2.out.frozen 2;have z3:=BR2.out.frozen 3;have z4:=BR2.out.frozen 4;have z5:=BR2.out.frozen 5;have z6:=BR2.out.frozen 6;have z7:=BR2.out.frozen 7;have z8:=BR2.out.frozen 8;have z9:=BR2.out.frozen 9;have z10:=BR2.out.frozen 10;have z11:=BR2.out.frozen 11;have z12:=BR2.out.frozen 12;go_wp2_with fail;have BE:=zh (blk_setNd BR2.out (.int .i64 0) (.int .i64 0) (.slice none 0 0) (.slice none 0 0) (.int .i64 0) (.int .i64 0) (.int .i64 0) (.int .i64 0) (.int .i64 0) (.int .i64 0) (.int .i64 0) (.int .i64 0) (.int .i64 0));have hgr:w.heap.size<=w.heap.size+1:=(by omega);have FE:=zh (fr_setNd F2.out (g:=w.heap.size+1) (.inl hgr) (.int .i64 0) (.int .i64 0) (.slice none 0 0) (.slice none 0 0) (.int .i64 0) (.int .i64 0) (.int .i64 0) (.int .i64 0) (.int .i64 0) (.int .i64 0) (.int .i64 0) (.int .i64 0) (.int .i64 0));exact bodyPost_ret (results_cell_row_tmp rfl _ _ (w.heap.size+1) 66 ndZ (0,0) _ rfl BE.out Tryz.underlying66 rfl (by kernel_rfl)) rfl ⟨.inl ⟨HFN.out,rfl⟩,FE.out⟩
 ·
  have HFN:=zh (findN_some hx hp hbf)
  have hkn:k < n:=by
   rw [HN.out]
   rcases Nat.lt_or_ge k M.length with h | h
   · exact h
   · rw [List.getElem?_eq_none h] at hx;cases hx
  have hki:(k:Int) < (n:Int):=(by omega);have hk0:(0:Int)<=(k:Int):=(by omega);have hk1:decide ((k:Int) < 0)=false:=decide_eq_false (by omega);have HND:=HH.out.frw F2.out hB (by simp);obtain ⟨b1,o1,rfl,hb1,hc1⟩:=HND.get hx;have HIN:=zh (HND.inn m (List.mem_of_getElem? hx));have hsm:=HS.out.2 m (List.mem_of_getElem? hx);obtain ⟨x,sf,sp⟩:=m;obtain ⟨g0,g1,g2,g3,g4,g5,g6,g7,g8,g9,g10,g11,g12⟩:=ndL_get (x,sf,sp);have HOW:=zh (own_any x sf sp B w2 HIN.out (Nat.le_trans hB F2.out.size) hsm.1 hsm.2);have p0:=hc1 0 _ g0;have p1:=hc1 1 _ g1;have p2:=hc1 2 _ g2;have p3:=hc1 3 _ g3;have p4:=hc1 4 _ g4;have p5:=hc1 5 _ g5;have p6:=hc1 6 _ g6;have p7:=hc1 7 _ g7;have p8:=hc1 8 _ g8;have p9:=hc1 9 _ g9;have p10:=hc1 10 _ g10;have p11:=hc1 11 _ g11;have p12:=hc1 12 _ g12;simp only [Nat.add_zero] at p0;clear hc1 hx hp hbf g0 g1 g2 g3 g4 g5 g6 g7 g8 g9 g10 g11 g12 HND hsm;go_wp2_with fail;refine HOW.out.mono ?_;rintro e w3 ⟨sf',sp',rfl,hin,hfr1,hfr2,_,f3⟩;have F3:=zh (F2.out.nx f3);have BR3:=zh (BR2.out.fr f3 BR2.out.lt (by simp));obtain ⟨⟨Af,cf,hf,rf⟩,⟨Ap,cp,hp,rp⟩⟩:=hin;simp only at hf hp rf rp;subst hf;subst hp;have RF:=zh rf;have RP:=zh rp;clear rf rp f3 HOW p0 p1 p2 p3 p4 p5 p6 p7 p8 p9 p10 p11 p12;have s0:=BR3.out.cell 0;have s1:=BR3.out.cell 1;have s2:=BR3.out.cell 2;have s3:=BR3.out.cell 3;have s4:=BR3.out.cell 4;have s5:=BR3.out.cell 5;have s6:=BR3.out.cell 6;have s7:=BR3.out.cell 7;have s8:=BR3.out.cell 8;have s9:=BR3.out.cell 9;have s10:=BR3.out.cell 10;have s11:=BR3.out.cell 11;have s12:=BR3.out.cell 12;simp at s0 s1 s2 s3 s4 s5 s6 s7 s8 s9 s10 s11 s12;have z0:=BR3.out.frozen 0;have z1:=BR3.out.frozen 1;have z2:=BR3.out.frozen 2;have z3:=BR3.out.frozen 3;have z4:=BR3.out.frozen 4;have z5:=BR3.out.frozen 5;have z6:=BR3.out.frozen 6;have z7:=BR3.out.frozen 7;have z8:=BR3.out.frozen 8;have z9:=BR3.out.frozen 9;have z10:=BR3.out.frozen 10;have z11:=BR3.out.frozen 11;have z12:=BR3.out.frozen 12;go_wp2_with fail;have BE:=zh (blk_setNd BR3.out (.int .i64 x.id) (.int .i64 x.kind) (.slice Af x.fr.length cf) (.slice Ap x.pg.length cp) (.int .i64 x.par) (.int .i64 (x.rt 0)) (.int .i64 (x.rt 1)) (.int .i64 (x.rt 2)) (.int .i64 (x.rt 3)) (.int .i64 (x.rt 4)) (.int .i64 (x.rt 5)) (.int .i64 (x.rt 6)) (.int .i64 (x.rt 7)));have hgr:w.heap.size<=w.heap.size+1:=(by omega);have FE:=zh (fr_setNd F3.out (g:=w.heap.size+1) (.inl hgr) (.int .i64 x.id) (.int .i64 x.kind) (.slice Af x.fr.length cf) (.slice Ap x.pg.length cp) (.int .i64 x.par) (.int .i64 (x.rt 0)) (.int .i64 (x.rt 1)) (.int .i64 (x.rt 2)) (.int .i64 (x.rt 3)) (.int .i64 (x.rt 4)) (.int .i64 (x.rt 5)) (.int .i64 (x.rt 6)) (.int .i64 (x.rt 7)));have hfe:=fr_setNd (Fr.refl w3.heap.size [w.heap.size+1] w3) (g:=w.heap.size+1) (.inr (by simp)) (.int .i64 x.id) (.int .i64 x.kind) (.slice Af x.fr.length cf) (.slice Ap x.pg.length cp) (.int .i64 x.par) (.int .i64 (x.rt 0)) (.int .i64 (x.rt 1)) (.int .i64 (x.rt 2)) (.int .i64 (x.rt 3)) (.int .i64 (x.rt 4)) (.int .i64 (x.rt 5)) (.int .i64 (x.rt 6)) (.int .i64 (x.rt 7));have hlr:w.heap.size+1 < w2.heap.size:=BR2.out.lt;have P1:=zh (RF.out.frL hfe (Nat.le_refl _) (fun h0 ad ha=>by have:=hfr1 _ _ _ rfl h0 ad ha;simp;omega));have P2:=zh (RP.out.frL hfe (Nat.le_refl _) (fun h0 ad ha=>by have:=hfr2 _ _ _ rfl h0 ad ha;simp;omega));have hsz:=hfe.size;exact bodyPost_ret (results_cell_row_tmp rfl _ _ (w.heap.size+1) 66 (ndA x (.slice Af x.fr.length cf) (.slice Ap x.pg.length cp)) (0,0) _ rfl BE.out Tryz.underlying66 rfl (by kernel_rfl)) rfl ⟨.inr ⟨x,_,_,HFN.out,rfl,⟨⟨Af,cf,rfl,P1.out.more hsz⟩,⟨Ap,cp,rfl,P2.out.more hsz⟩⟩,fun A n c e h0 ad ha=>Nat.le_trans F2.out.size (hfr1 A n c e h0 ad ha),fun A n c e h0 ad ha=>Nat.le_trans F2.out.size (hfr2 A n c e h0 ad ha)⟩,FE.out⟩
end Go.Proofs.YtgblfflikgnfpaaGreat
