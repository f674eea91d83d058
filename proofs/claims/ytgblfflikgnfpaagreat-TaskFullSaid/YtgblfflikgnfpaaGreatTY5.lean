/- Texts merged into one, for the number of files a claim may have: PartsB, AlignB, AlignC, AlignD, AlignE, Repeat, Effects, Walk, Next, Step, Check, ChkUse, PartsC, Ref4, TriMap, CheckDead, TellA, TellC, Join. -/
import Derived.Test.YtgblfflikgnfpaaGreatTY0
import Derived.Test.YtgblfflikgnfpaaGreatTY4
import Derived.Deep.CutBlock
import Derived.Deep.DeepCutAuto
import Derived.Laws.CopyOwn
import Derived.StillTailTactics
import Derived.Test.YtgblfflikgnfpaaGreatRows
import Derived.WideMake
namespace Go.Proofs.YtgblfflikgnfpaaGreat
open Go.RowKit Go.Fb
set_option maxRecDepth 100000
set_option maxHeartbeats 16000000
set_option linter.unusedVariables false
def inPart (id:Int) (r:Nat->Int) (t:Nat) (x:Nat->Int):Bool:=x 0 == id && r (x 1 % 8).toNat == (t:Int)
def partC (id:Int) (r:Nat->Int) (t:Nat) (l:List (Nat->Int)):List (Nat->Int):=l.filter (inPart id r t)
theorem partC_step {id:Int} {r:Nat->Int} {t:Nat} {l:List (Nat->Int)} {k:Nat} {x:Nat->Int} (h:l[k]?=some x):partC id r t (l.take (k+1))=partC id r t (l.take k) ++ if inPart id r t x then [x] else []:=by
 unfold partC;rw [List.take_add_one,h,List.filter_append]
 cases hi:inPart id r t x <;> simp [hi]
theorem partC_le (id:Int) (r:Nat->Int) (t:Nat) (l:List (Nat->Int)):(partC id r t l).length<=l.length:=List.length_filter_le _ _
def rowsA (par:Nat) (R:Nat->Value):Array Value:=((List.range par).map R).toArray
theorem rowsA_get {par t:Nat} (R:Nat->Value) (h:t < par):(rowsA par R)[t]?=some (R t):=by simp [rowsA,h]
theorem rowsA_set {par t:Nat} (R:Nat->Value) (u:Value) (_h:t < par):(rowsA par R).setIfInBounds t u=rowsA par (fun j=>if j=t then u else R j):=by
 apply Array.ext_getElem?;intro i;rw [Array.getElem?_setIfInBounds]
 by_cases hi:i < par
 ·
  by_cases e:t=i
  · subst e;simp [rowsA,hi]
  · have e':¬ i=t:=fun h=>e h.symm;simp [rowsA,hi,e,e']
 ·
  have e:¬ t=i:=by omega
  simp [rowsA,hi,e]
theorem entTy:SliceTy Tryz.prog 70 96 6 48:=SliceTy.mk' (z:=.agg #[.int .i64 0,.int .i64 0,.int .i64 0,.int .i64 0,.int .i64 0,.int .i64 0]) Tryz.underlying70 (by kernel_rfl) rfl (by omega)
structure PInv (w0:World) (gr par:Nat) (F:Nat->List (Nat->Int)) (R:Nat->Value) (w:World):Prop where
 blk:Blk w gr 70 (rowsA par R)
 low:w0.heap.size<=gr
 own:∀ t,t < par->w.ownsRow w0.heap.size 96 6 (R t) (F t).length (cellsE (F t))
 off:∀ t,t < par->(R t).ownBlock ≠ some gr
 dis:∀ t u,t < par->u < par->t ≠ u -> ∀ q,(R t).ownBlock=some q->(R u).ownBlock ≠ some q
 fr:Fr w0.heap.size [] w0 w
theorem PInv.congr {w0 w:World} {gr par:Nat} {F G:Nat->List (Nat->Int)} {R:Nat->Value} (h:PInv w0 gr par F R w) (e:∀ t,t < par->F t=G t):PInv w0 gr par G R w :=
 ⟨h.blk,h.low,fun t ht=>by rw [<- e t ht];exact h.own t ht,h.off,h.dis,h.fr⟩
theorem PInv.keep {w0 w w':World} {gr par:Nat} {F:Nat->List (Nat->Int)} {R:Nat->Value} (h:PInv w0 gr par F R w) (hf:Fr w.heap.size [] w w'):PInv w0 gr par F R w' :=
 ⟨h.blk.fr hf h.blk.lt (by simp),h.low,fun t ht=>ownsRow_fr (h.own t ht) hf (fun q hq=>⟨((h.own t ht).lt q hq).2,by simp⟩),h.off,h.dis,h.fr.trans (hf.mono h.fr.size (by simp))⟩
theorem PInv.grow {w0 w w':World} {gr par t:Nat} {F:Nat->List (Nat->Int)} {R:Nat->Value} {x:Nat->Int} {g c:Nat} (h:PInv w0 gr par F R w) (ht:t < par)
  (hown:w'.ownsRow w0.heap.size 96 6 (.slice (some ⟨g,0,none⟩) ((F t).length+1) c) ((F t).length+1) (cellsE (F t) ++ entC x))
  (hg:w.grownBy w' (R t).ownBlock) (hat:(R t).ownBlock=some g \/ w.heap.size<=g) (hlt:g < w'.heap.size) :
  PInv w0 gr par (fun j=>F j ++ if j=t then [x] else []) (fun j=>if j=t then .slice (some ⟨g,0,none⟩) ((F t).length+1) c else R j) (w'.setCell ⟨gr,t,none⟩ (.slice (some ⟨g,0,none⟩) ((F t).length+1) c)):=by
 have hgr:g ≠ gr:=by
  rcases hat with hat | hat
  · rintro rfl;exact h.off t ht hat
  · have:=h.blk.lt;omega
 have hgo:∀ u,u < par->u ≠ t->(R u).ownBlock ≠ some g:=fun u hu hut hq=>by
  rcases hat with hat | hat
  · exact h.dis t u ht hu (fun e=>hut e.symm) g hat hq
  · have:=((h.own u hu).lt g hq).2;omega
 have hb:=(h.blk.grown hg (fun e=>h.off t ht e.symm)).set_ t (.slice (some ⟨g,0,none⟩) ((F t).length+1) c);rw [rowsA_set _ _ ht] at hb;have fs:Fr w.heap.size [gr] w' (w'.setCell ⟨gr,t,none⟩ (.slice (some ⟨g,0,none⟩) ((F t).length+1) c)):=(Fr.refl _ _ _).setCell (.inr (by simp)) _;have fs':Fr w'.heap.size [gr] w' (w'.setCell ⟨gr,t,none⟩ (.slice (some ⟨g,0,none⟩) ((F t).length+1) c)):=(Fr.refl _ _ _).setCell (.inr (by simp)) _;refine ⟨hb,h.low,fun u hu => ?_,fun u hu => ?_,fun u v hu hv huv q hq => ?_,?_⟩
 ·
  by_cases e:u=t
  · subst e;simp only [↓reduceIte];rw [show (F u ++ [x]).length=(F u).length+1 by simp,show cellsE (F u ++ [x])=cellsE (F u) ++ entC x by simp [cellsE]];refine ownsRow_fr hown fs' (fun q hq => ?_);have:q=g:=(by injection hq with hq;exact hq.symm);subst this;exact ⟨hlt,by simpa using hgr⟩
  ·
   simp only [e,↓reduceIte,List.append_nil]
   have ho : w'.ownsRow w0.heap.size 96 6 (R u) (F u).length (cellsE (F u)) := (h.own u hu).kept hg (by
    cases hq:(R u).ownBlock with
    | none=>exact .inl rfl
    | some q=>exact .inr fun e'=>h.dis u t hu ht e q hq e'.symm)
   exact ownsRow_fr ho fs' (fun q hq=>⟨(ho.lt q hq).2,by simp;rintro rfl;exact h.off u hu hq⟩)
 ·
  by_cases e:u=t
  ·
   subst e;simp only [↓reduceIte];intro hq;injection hq with hq
   exact hgr hq
  · simp only [e,↓reduceIte];exact h.off u hu
 ·
  by_cases e:u=t
  ·
   subst e;have e':¬ v=u:=fun h=>huv h.symm;simp only [↓reduceIte] at hq;simp only [e',↓reduceIte];injection hq with hq
   have hq':g=q:=hq;subst hq';exact hgo v hv e'
  ·
   simp only [e,↓reduceIte] at hq
   by_cases e2:v=t
   ·
    subst e2;simp only [↓reduceIte];intro hq2;injection hq2 with hq2
    have hq':g=q:=hq2;subst hq';exact hgo u hu e hq
   · simp only [e2,↓reduceIte];exact h.dis u v hu hv huv q hq
 · refine (h.fr.grown hg h.fr.size (fun k hk=>.inl ((h.own t ht).lt k hk).1)).trans ?_;exact (Fr.refl _ _ _).setCell (.inl h.low) _
theorem entrows (n:Nat) (h:n<=64) (W:World):(Instr.makeSlice 155 (.int .i64 (n:Int)) (.int .i64 (n:Int))).run Tryz.prog W=.ok (.slice (some ⟨W.heap.size,0,none⟩) n n) (W.alloc (.cells (rowsA n (fun _=>.slice none 0 0)) 70)):=by
 have info:(Tryz.prog.info? 70).map (fun i=>(i.zero,i.size,i.bytes))=some (some (Value.slice none 0 0),1,24):=(by kernel_rfl);obtain ⟨i,hi,hz,hsz,hby⟩:=info_parts info;have hr:=run_make (P:=Tryz.prog) W 155 70 i (.slice none 0 0) Tryz.underlying155 hi hz .i64 .i64 n n (by omega) (by omega) (by rw [hby];omega) (by omega);simp only [Int.toNat_natCast] at hr
 have hmc:madeCells (Value.slice none 0 0).cells (n * i.size)=rowsA n (fun _=>.slice none 0 0):=by
  rw [hsz,Nat.mul_one];apply Array.ext
  · simp [size_madeCells,rowsA]
  · intro j h1 h2;simp [madeCells,Value.cells,Nat.mod_one,rowsA]
 rw [hmc] at hr;exact hr
end Go.Proofs.YtgblfflikgnfpaaGreat
namespace Go.Proofs.YtgblfflikgnfpaaGreat
open Go.RowKit Go.Fb
set_option maxRecDepth 100000
set_option maxHeartbeats 16000000
set_option linter.unusedVariables false
section
variable {w:World} {g gb:Nat} {bs:List Bool} {b:Bool} {ep:Int} {p:Bool} {many last:Int}
theorem run_clear_bools (hb:Blk w gb 4 (bs.map Value.bool).toArray) (ty:TypeId) :
  ∃ w',(Builtin.clear_ #[216] ty #[.slice (some ⟨gb,0,none⟩) bs.length bs.length]).run Tryz.prog w=.ok (.tuple #[]) w'/\Blk w' gb 4 ((List.replicate bs.length false).map Value.bool).toArray/\Fr w.heap.size [gb] w w' /\ ∀ k,k ≠ gb->w'.heap[k]?=w.heap[k]?:=by
 rcases Nat.eq_zero_or_pos bs.length with h0 | h0
 · have:bs=[]:=List.eq_nil_of_length_eq_zero h0;subst this;refine ⟨w,?_,hb,Fr.refl _ _ _,fun _ _=>rfl⟩;simp [Builtin.clear_,run_underlying Tryz.underlying216]
 ·
  have hst:=run_storeCells_at (P:=Tryz.prog) gb 0 4 (List.replicate bs.length (.bool false)) 0 _ w hb (by simp) (by simp [Value.oneCell']);have hd:(bs.map Value.bool).drop bs.length=[]:=List.drop_eq_nil_of_le (by simp)
  have hrow:((((bs.map Value.bool).toArray.toList.take (0+0)) ++ List.replicate bs.length (Value.bool false) ++ ((bs.map Value.bool).toArray.toList.drop (0+0+(List.replicate bs.length (Value.bool false)).length))).toArray:Array Value)=((List.replicate bs.length false).map Value.bool).toArray:=by
   simp [hd]
  rw [hrow] at hst;refine ⟨w.setRow gb ((List.replicate bs.length false).map Value.bool).toArray,?_,setRow_heap w gb _ _ 4 (0,0) hb,⟨rfl,rfl,rfl,by simp,fun k _ hk=>setRow_other w gb k _ (by simpa using hk)⟩,fun k hk=>setRow_other w gb k _ hk⟩
  have hz:(zeroValue 4).run Tryz.prog w=.ok (.bool false) w:=by
   kernel_rfl
  have hzc:(Builtin.zeroCells (Value.bool false).cells bs.length).toList=List.replicate bs.length (Value.bool false):=by
   simp [Builtin.zeroCells,Value.cells];apply List.ext_getElem
   · simp
   · intro j h1 h2;simp [Nat.mod_one]
  obtain ⟨m,hm⟩:∃ m,bs.length=m+1:=⟨bs.length - 1,by omega⟩;rw [hm] at hst hzc ⊢;simp [Builtin.clear_,run_underlying Tryz.underlying216,hz,hzc,hst]

theorem al_step (h:Al w g gb bs b ep p many last) (c:Nat) (ep':Int) (p':Bool) (m':Int) :
  Al (((set6 w g (.bool true) (.int .i64 0) (.int .i64 0) (.int .i64 0) (.int .i64 ep') (.bool p')).setCell ⟨gb,c,none⟩ (.bool true)).setCell ⟨g,7,none⟩ (.int .i64 m')) g gb (bs.set c true) true ep' p' m' last:=by
 have s1:=(((blk_set6 h.st (.bool true) (.int .i64 0) (.int .i64 0) (.int .i64 0) (.int .i64 ep') (.bool p')).far (p:=⟨gb,c,none⟩) h.ne (.bool true)).set_ 7 (.int .i64 m'));have s2:=(((blk_far6 h.bl h.ne.symm (.bool true) (.int .i64 0) (.int .i64 0) (.int .i64 0) (.int .i64 ep') (.bool p')).set_ c (.bool true)).far (p:=⟨g,7,none⟩) h.ne.symm (.int .i64 m'));refine ⟨?_,?_⟩
 · simpa using s1
 · simpa [List.map_set] using s2
theorem fr_step {w0:World} {B g gb c:Nat} (h:Fr B [] w0 w) (u0 u1 u2 u3 u4 u5 x y:Value):Fr B [g,gb] w0 (((set6 w g u0 u1 u2 u3 u4 u5).setCell ⟨gb,c,none⟩ x).setCell ⟨g,7,none⟩ y) :=
 ((fr_set6 (h.mono (Nat.le_refl _) (by simp)) (.inr (by simp)) _ _ _ _ _ _).setCell (p:=⟨gb,c,none⟩) (.inr (by simp)) _).setCell (p:=⟨g,7,none⟩) (.inr (by simp)) _
theorem block_ok (h:Al w g gb bs b ep p many last) (c:Nat) (hx:bs[c]?=some false) (ik ire iim iep:Int) (ip:Bool)
  (hm:¬ 0 < many \/ (b=true/\ep=iep/\p=ip)) (hmb:many < 9223372036854775806) (hma:-9223372036854775807<=many):Calls Tryz.prog 138 #[.pointer (some ⟨g,0,none⟩),.int .i64 c,.agg (It true ik ire iim iep ip)] w fun e w' =>
  e=.returned (.int .i64 0)/\Al w' g gb (bs.set c true) true iep ip (many+1) last/\Fr w.heap.size [g,gb] w w':=by
 have HT:=zh (fun w' (hf:Fr w.heap.size [] w w')=>by have:=athere_any (h.fr0 hf) c;rw [inB_of hx] at this;exact this);have hlt:=h.st.lt;have hc0:=h.st.cell 0;have hc1:=h.st.cell 1;have hc2:=h.st.cell 2;have hc3:=h.st.cell 3;have hc4:=h.st.cell 4;have hc5:=h.st.cell 5;have hc6:=h.st.cell 6;have hc7:=h.st.cell 7;have hcb:=h.cellb hx;have hltb:=h.bl.lt
 have hlc:(c:Int) < (bs.length:Int):=by
  have:=inB_of hx;simp [inB] at this;omega
 have hf0:=h.st.frozen 0;have hf1:=h.st.frozen 1;have hf2:=h.st.frozen 2;have hf3:=h.st.frozen 3;have hf4:=h.st.frozen 4;have hf5:=h.st.frozen 5;have hf7:=h.st.frozen 7;have hfb:=h.bl.frozen c;have hne:=h.ne;have hne':=h.ne.symm;have H:=zh h;clear h hx;have hlen:(bs.set c true).length=bs.length:=(by simp);have HL:=zh hlen;clear hlen;generalize hn:bs.length=n at *;have HN:=zh hn;clear hn
 by_cases hm0:0 < many
 ·
  obtain ⟨rfl,rfl,rfl⟩:b=true/\ep=iep/\p=ip:=by rcases hm with h | h;exact absurd hm0 h;exact h
  clear hm;go_enter Tryz.func138,Tryz.ntmps138;go_wp2_with (go_at_call 161;refine (HT.out _ ((Fr.refl _ _ _).alloc (Nat.le_refl _) _)).mono ?_;rintro e w' ⟨rfl,rfl⟩);go_quiet (fail);go_wp2_with fail;go_region
  all_goals go_wp2_with fail
  all_goals go_ret
  all_goals exact ⟨rfl,al_step (H.out.fr0 (((Fr.refl _ _ _).alloc (Nat.le_refl _) _).drewN _)) _ _ _ _,fr_step (((Fr.refl _ _ _).alloc (Nat.le_refl _) _).drewN _) _ _ _ _ _ _ _ _⟩
 ·
  clear hm;have hm1:decide (0 < many)=false:=(by simpa using hm0);have hm2:many<=0:=(by omega);go_enter Tryz.func138,Tryz.ntmps138;go_wp2_with (go_at_call 161;refine (HT.out _ ((Fr.refl _ _ _).alloc (Nat.le_refl _) _)).mono ?_;rintro e w' ⟨rfl,rfl⟩);go_quiet (fail);go_wp2_with fail;go_region
  all_goals go_wp2_with fail
  all_goals go_ret
  all_goals exact ⟨rfl,al_step (H.out.fr0 (((Fr.refl _ _ _).alloc (Nat.le_refl _) _).drewN _)) _ _ _ _,fr_step (((Fr.refl _ _ _).alloc (Nat.le_refl _) _).drewN _) _ _ _ _ _ _ _ _⟩
end
end Go.Proofs.YtgblfflikgnfpaaGreat
namespace Go.Proofs.YtgblfflikgnfpaaGreat
open Go.RowKit Go.Fb
set_option maxRecDepth 100000
set_option maxHeartbeats 16000000
set_option linter.unusedVariables false

end Go.Proofs.YtgblfflikgnfpaaGreat
namespace Go.Proofs.YtgblfflikgnfpaaGreat
open Go.RowKit Go.Fb
set_option maxRecDepth 100000
set_option maxHeartbeats 16000000
set_option linter.unusedVariables false
section
variable {w:World} {g gb:Nat} {bs:List Bool} {b:Bool} {ep:Int} {p:Bool} {many last:Int}
theorem clear_step {n:Nat} {a0 a1 a2 a3 a4 a5 a7:Value} (hs:Blk w g 218 #[a0,a1,a2,a3,a4,a5,.slice (some ⟨gb,0,none⟩) n n,a7,.int .i64 last]) (hb:Blk w gb 4 ((List.replicate n false).map Value.bool).toArray) (hne:g ≠ gb) :
  Al (set6 (w.setCell ⟨g,7,none⟩ (.int .i64 0)) g (.bool false) (.int .i64 0) (.int .i64 0) (.int .i64 0) (.int .i64 0) (.bool false)) g gb (List.replicate n false) false 0 false 0 last:=by
 have h7:=hs.set_ 7 (.int .i64 0);simp only [List.setIfInBounds_toArray,List.set_cons_succ,List.set_cons_zero] at h7;have h6:=blk_set6 h7 (.bool false) (.int .i64 0) (.int .i64 0) (.int .i64 0) (.int .i64 0) (.bool false);have b6:=blk_far6 (hb.far (p:=⟨g,7,none⟩) hne.symm (.int .i64 0)) hne.symm (.bool false) (.int .i64 0) (.int .i64 0) (.int .i64 0) (.int .i64 0) (.bool false);exact ⟨by simpa using h6,b6⟩
theorem clear_any (h:Al w g gb bs b ep p many last):Calls Tryz.prog 105 #[.pointer (some ⟨g,0,none⟩)] w fun e w' =>
  e=.returned (.tuple #[])/\Al w' g gb (List.replicate bs.length false) false 0 false 0 last/\Fr w.heap.size [g,gb] w w':=by
 obtain ⟨w1,hr,hb1,hf1,ho1⟩:=run_clear_bools h.bl 0;have hs1:Blk w1 g 218 _:=(ho1 g h.ne).trans h.st;have H1:=zh hs1;have HB:=zh hb1;have HF:=zh hf1;have hlt:=h.st.lt;have hne:=h.ne;have hc6:=h.st.cell 6;have hz:=hf1.size;have hlt1:=hs1.lt;have k0:=hs1.cell 0;have k1:=hs1.cell 1;have k2:=hs1.cell 2;have k3:=hs1.cell 3;have k4:=hs1.cell 4;have k5:=hs1.cell 5;have k7:=hs1.cell 7;have f0:=hs1.frozen 0;have f1:=hs1.frozen 1;have f2:=hs1.frozen 2;have f3:=hs1.frozen 3;have f4:=hs1.frozen 4;have f5:=hs1.frozen 5;have f7:=hs1.frozen 7;clear hs1 hb1 hf1 ho1 h;generalize hn:bs.length=n at *;clear hn;go_enter Tryz.func105,Tryz.ntmps105;go_wp2_with fail;go_end0;exact ⟨rfl,clear_step H1.out HB.out hne,fr_set6 ((HF.out.mono (L':=[g,gb]) (Nat.le_refl _) (by simp)).setCell (p:=⟨g,7,none⟩) (.inr (by simp)) _) (.inr (by simp)) _ _ _ _ _ _⟩
end
end Go.Proofs.YtgblfflikgnfpaaGreat
namespace Go.Proofs.YtgblfflikgnfpaaGreat
open Go.RowKit Go.Fb
set_option maxRecDepth 100000
set_option maxHeartbeats 16000000
set_option linter.unusedVariables false
section
variable {w:World} {g gb:Nat} {bs:List Bool} {b:Bool} {ep:Int} {p:Bool} {many last:Int}
def offB (bs:List Bool) (k:Nat):Bool:=!(bs.getD k true)
theorem offB_of {k:Nat} {x:Bool} (hx:bs[k]?=some x):offB bs k=!x:=by simp [offB,List.getD,hx]
theorem bs_some {k:Nat} (h:k < bs.length):∃ x,bs[k]?=some x:=⟨bs[k],List.getElem?_eq_getElem h⟩
def pickC (last:Int) (n k:Nat):Nat:=((last+1+(k:Int)) % (n:Int)).toNat
def freeAt (bs:List Bool) (has:Nat->Bool) (last:Int) (k:Nat):Bool:=offB bs (pickC last bs.length k) && has (pickC last bs.length k)
def PickOut (w:World) (g gb:Nat) (bs:List Bool) (b:Bool) (ep:Int) (p:Bool) (many last:Int) (has:Nat->Bool) (e:Ending) (w':World):Prop :=
 (∃ k,k < bs.length/\freeAt bs has last k=true/\(∀ j,j < k->freeAt bs has last j=false)/\e=.returned (.tuple #[.int .i64 (pickC last bs.length k),.bool true])/\Al w' g gb bs b ep p many (pickC last bs.length k)/\Fr w.heap.size [g] w w')
 \/ ((∀ j,j < bs.length->freeAt bs has last j=false)/\e=.returned (.tuple #[.int .i64 0,.bool false])/\Fr w.heap.size [] w w')
theorem pickC_lt {n k:Nat} (h:0 < n):pickC last n k < n:=by
 have:=Int.emod_lt_of_pos (last+1+(k:Int)) (show (0:Int) < n by omega);have:=Int.emod_nonneg (last+1+(k:Int)) (show (n:Int) ≠ 0 by omega);unfold pickC;omega
theorem pickC_rem {n k:Nat} (h:0 < n) (hl:-1<=last):(last+1+(k:Int)).tmod (n:Int)=(pickC last n k:Int):=by
 rw [Int.tmod_eq_emod_of_nonneg (by omega)];have:=Int.emod_nonneg (last+1+(k:Int)) (show (n:Int) ≠ 0 by omega);unfold pickC;omega
theorem al_last (h:Al w g gb bs b ep p many last) (l:Int):Al (w.setCell ⟨g,8,none⟩ (.int .i64 l)) g gb bs b ep p many l :=
 ⟨by simpa using h.st.set_ 8 (.int .i64 l),h.bl.far (p:=⟨g,8,none⟩) h.ne.symm _⟩
theorem func_nil (F:FuncId) (cap:Array Value) (w:World):(binOp .eql 220 (.func (.func F) #[] cap) .nilFunc).run Tryz.prog w=.ok (.bool false) w:=by
 kernel_rfl
theorem pick_any (F:FuncId) (cap:Array Value) (has:Nat->Bool) (h:Al w g gb bs b ep p many last) (hb:bs.length<=64) (hl0:-1<=last) (hl1:last < bs.length)
  (hent:∀ (args:Array Value) (w:World),(callFunc F args).run Tryz.prog w=.ok (.enter F args) w)
  (hF:∀ (k:Nat) (w':World),k < bs.length->Fr w.heap.size [] w w'->Calls Tryz.prog F (#[.int .i64 k] ++ cap) w' fun e w''=>e=.returned (.bool (has k))/\Fr w'.heap.size [] w' w'') :
  Calls Tryz.prog 106 #[.pointer (some ⟨g,0,none⟩),.func (.func F) #[] cap] w (PickOut w g gb bs b ep p many last has):=by
 have hc6:=h.st.cell 6;have hlt:=h.st.lt;have hltb:=h.bl.lt;have HA:=zh h;have HF:=zh hF;clear h hF;generalize hm:bs.length=m at *;have HM:=zh hm;clear hm;have hfn:=fun w=>func_nil F cap w;go_enter Tryz.func106,Tryz.ntmps106;go_wp2_with fail;clear hfn;go_loopw [21] (fun i wr=>∃ k:Nat,k<=m/\i=.int .i64 k/\(∀ j,j < k->freeAt bs has last j=false)/\Fr w.heap.size [] w wr) (fun i _=>m - (intOf i).toNat)
 case atStart=>exact ⟨0,by omega,rfl,fun j h=>absurd h (by omega),Fr.refl _ _ _⟩
 case round =>
  obtain ⟨k,hk,rfl,hno,hfr⟩:=hrel;have HNO:=zh hno;have HR:=zh hfr;have hsz:=hfr.size;clear hno hfr
  by_cases hkm:k < m
  ·
   have hrem:=pickC_rem (last:=last) (n:=m) (k:=k) (by omega) hl0;have hclt:pickC last m k < m:=pickC_lt (by omega);have HFA:freeAt bs has last k=(offB bs (pickC last m k) && has (pickC last m k)):=(by rw [freeAt,HM.out]);generalize hcc:pickC last m k=c at *;have HCC:=zh hcc;have HFA':=zh HFA;clear hcc HFA;obtain ⟨x,hx⟩:=bs_some (bs:=bs) (k:=c) (by rw [HM.out];exact hclt);have hA:=HA.out.fr0 HR.out;have hcx:=hA.cellb hx;have hc6:=hA.st.cell 6;rw [HM.out] at hc6;have hc8:=hA.st.cell 8;have hf8:=hA.st.frozen 8;have hi:(c:Int) < (m:Int):=(by omega);have hki:(k:Int) < (m:Int):=(by omega);have hm0:(m:Int) ≠ 0:=(by omega);have HO:=zh (offB_of hx);have HAr:=zh hA;have hltr:=hA.st.lt;clear hx hA
   cases x with
   | true =>
    go_wp2_with fail;go_roundw
    case rel =>
     refine ⟨k+1,by omega,by go_num,?_,HR.out⟩;intro j hj
     rcases Nat.lt_or_ge j k with h | h
     · exact HNO.out j h
     ·
      obtain rfl:j=k:=by omega
      rw [HFA'.out,HO.out];simp
    case measure=>simp [intOf];omega
   | false =>
    go_wp2_with fail;refine (HF.out c wr hclt HR.out).mono ?_;rintro e w1 ⟨rfl,hf1⟩;have z1:=hf1.size;have HA1:=zh (HAr.out.fr0 hf1);have HR1:=zh (HR.out.trans (hf1.mono (B':=w.heap.size) (L':=[]) (by omega) (by simp)));clear hf1 hc6 hc8 hf8 hcx;have hc8:=HA1.out.st.cell 8;have hf8:=HA1.out.st.frozen 8;have hlt1:=HA1.out.st.lt
    rcases Bool.eq_false_or_eq_true (has c) with hh | hh
    · have HH:=zh hh;rw [hh];clear hh;go_wp2_with fail;go_ret2;refine .inl ⟨k,by rw [HM.out];exact hkm,by rw [HFA'.out,HO.out,HH.out];rfl,HNO.out,by rw [HM.out,HCC.out];rfl,?_,(HR1.out.mono (L':=[g]) (Nat.le_refl _) (by simp)).setCell (p:=⟨g,8,none⟩) (.inr (by simp)) _⟩;rw [HM.out,HCC.out];exact al_last HA1.out _
    ·
     have HH:=zh hh;rw [hh];clear hh;go_wp2_with fail;go_roundw
     case rel =>
      refine ⟨k+1,by omega,by go_num,?_,HR1.out⟩;intro j hj
      rcases Nat.lt_or_ge j k with h | h
      · exact HNO.out j h
      ·
       obtain rfl:j=k:=by omega
       rw [HFA'.out,HO.out,HH.out];rfl
     case measure=>simp [intOf];omega
  ·
   obtain rfl:k=m:=by omega
   go_wp2_with fail;go_ret2;exact .inr ⟨by rw [HM.out];exact HNO.out,rfl,HR.out⟩
end
end Go.Proofs.YtgblfflikgnfpaaGreat
namespace Go.Proofs.YtgblfflikgnfpaaGreat
open Go.RowKit Go.Fb
set_option maxRecDepth 100000
set_option maxHeartbeats 16000000
set_option linter.unusedVariables false
def intsA (n:Nat) (D:Nat->Int):Array Value:=((List.range n).map fun k=>Value.int .i64 (D k)).toArray
theorem intsA_get {n k:Nat} (D:Nat->Int) (h:k < n):(intsA n D)[k]?=some (.int .i64 (D k)):=by simp [intsA,h]
theorem intsA_size (n:Nat) (D:Nat->Int):(intsA n D).size=n:=by simp [intsA]
theorem intsA_set {n k:Nat} (D:Nat->Int) (u:Int):(intsA n D).setIfInBounds k (.int .i64 u)=intsA n (fun j=>if j=k then u else D j):=by
 apply Array.ext_getElem?;intro i;rw [Array.getElem?_setIfInBounds]
 by_cases hi:i < n
 ·
  by_cases e:k=i
  · subst e;simp [intsA,hi]
  · have e':¬ i=k:=fun h=>e h.symm;simp [intsA,hi,e,e']
 ·
  by_cases e:k=i
  · subst e;simp [intsA,hi]
  · simp [intsA,hi,e]
theorem intsA_congr {n:Nat} {D D':Nat->Int} (h:∀ k,k < n->D k=D' k):intsA n D=intsA n D':=by
 unfold intsA
 congr 1
 apply List.map_congr_left;intro k hk;rw [h k (by simpa using hk)]
def repD (v:Int) (m:Nat) (k:Nat):Int:=if k < m then v else 0
theorem rep_copy (v:Int) (n m c:Nat) (h:m+c<=n) :
  ((intsA n (repD v m)).toList.take m ++ (List.replicate c (Value.int .i64 v) ++ (intsA n (repD v m)).toList.drop (m+(List.replicate c (Value.int .i64 v)).length))).toArray=intsA n (repD v (m+c)):=by
 apply Array.ext_getElem?;intro i;rw [List.length_replicate];simp only [intsA,List.getElem?_toArray,List.getElem?_append,List.length_take,List.length_map,List.length_range,List.length_replicate,List.getElem?_take,List.getElem?_map,List.getElem?_drop]
 by_cases h1:i < m
 · rw [if_pos (by omega),if_pos h1];simp [show i < n by omega,repD,h1,show i < m+c by omega]
 ·
  rw [if_neg (by omega)]
  by_cases h2:i < m+c
  · rw [if_pos (by omega)];simp [show i - min m n < c by omega,show i < n by omega,repD,h2]
  ·
   rw [if_neg (by omega),show m+c+(i - min m n - c)=i by omega]
   by_cases h3:i < n
   · simp [h3,repD,h1,h2]
   · simp [h3]
theorem make_intsA (n:Nat) (h:n<=64) (W:World):(Instr.makeSlice 23 (.int .i64 (n:Int)) (.int .i64 (n:Int))).run Tryz.prog W=.ok (.slice (some ⟨W.heap.size,0,none⟩) n n) (W.alloc (.cells (intsA n (fun _=>0)) 3)):=by
 have info:(Tryz.prog.info? 3).map (fun i=>(i.zero,i.size,i.bytes))=some (some (Value.int .i64 0),1,8):=(by kernel_rfl);obtain ⟨i,hi,hz,hsz,hby⟩:=info_parts info;have hr:=run_make (P:=Tryz.prog) W 23 3 i (.int .i64 0) Tryz.underlying23 hi hz .i64 .i64 n n (by omega) (by omega) (by rw [hby];omega) (by omega);simp only [Int.toNat_natCast] at hr
 have hmc:madeCells (Value.int .i64 0).cells (n * i.size)=intsA n (fun _=>0):=by
  rw [hsz,Nat.mul_one];apply Array.ext
  · simp [size_madeCells,intsA]
  · intro j h1 h2;simp [madeCells,Value.cells,Nat.mod_one,intsA]
 rw [hmc] at hr;exact hr
theorem rep_run (v:Int) (W:World) (g n m c dLen dCap sLen sCap:Nat) (ad:Addr) (hb:Blk W g 3 (intsA n (repD v m))) (hc:c=Nat.min sLen dLen) (hfit:m+c<=n) (hsrc:∀ j,j < c->W.cell? (ad.add j)=some (.int .i64 v)) :
  (Builtin.copy_ #[23,23] 3 #[.slice (some ⟨g,m,none⟩) dLen dCap,.slice (some ad) sLen sCap]).run Tryz.prog W=.ok (.int .i64 c) (W.setRow g (intsA n (repD v (m+c)))):=by
 have h := run_copy_row (P := Tryz.prog) W 23 23 3 3 g m dLen dCap ad sLen sCap (intsA n (repD v m)) 3 (List.replicate c (.int .i64 v)) Tryz.underlying23 (by kernel_rfl) hb (by simpa using hc) (fun j u hu => by
  have hj:j < c:=by
   rcases Nat.lt_or_ge j c with h | h
   · exact h
   · rw [List.getElem?_eq_none (by simpa using h)] at hu;cases hu
  rw [List.getElem?_replicate_of_lt hj] at hu;injection hu with hu
  rw [<- hu]
  exact hsrc j hj) (by rw [intsA_size,List.length_replicate];exact hfit) (by simp [Value.oneCell'])
 rw [List.append_assoc,rep_copy v n m c hfit,List.length_replicate] at h;exact h
def RepOut (v:Int) (n:Nat) (w:World) (e:Ending) (w':World):Prop :=
 e=.returned (.slice (some ⟨w.heap.size,0,none⟩) n n)/\Blk w' w.heap.size 3 (intsA n fun _=>v)/\Fr w.heap.size [] w w'
theorem repeat_zero (v:Int) (b:Nat) (w:World) :
  Calls Tryz.prog 185 #[.slice (some ⟨b,0,none⟩) 1 1,.int .i64 0] w (RepOut v 0 w):=by
 have HM:=zh (mul_any 0 (by omega));have hmk:∀ W:World,(Instr.makeSlice 23 (.int .i64 0) (.int .i64 0)).run Tryz.prog W=.ok (.slice (some ⟨W.heap.size,0,none⟩) 0 0) (W.alloc (.cells (intsA 0 (fun _=>0)) 3)):=fun W=>make_intsA 0 (by omega) W
 have hrun:(Builtin.copy_ #[23,23] 3 #[.slice (some ⟨w.heap.size,0,none⟩) 0 0,.slice (some ⟨b,0,none⟩) 1 1]).run Tryz.prog (w.alloc (.cells (intsA 0 fun _=>0) 3))=.ok (.int .i64 0) (w.alloc (.cells (intsA 0 fun _=>0) 3)) :=
  run_copy_none (P:=Tryz.prog) _ 23 23 3 3 _ _ 0 0 1 1 Tryz.underlying23 (by kernel_rfl) rfl
 go_enter Tryz.func185,Tryz.ntmps185;go_wp2_with fail;refine (HM.out _).mono ?_;rintro e w' ⟨rfl,rfl⟩;go_wp2_with fail;go_loop [8] (fun i=>i=.int .i64 0) (fun _=>0)
 case atStart=>rfl
 case round =>
  subst hrel;go_wp2_with fail;go_ret;exact ⟨rfl,Blk.new _ _ _,(Fr.refl _ _ _).alloc (Nat.le_refl _) _⟩
theorem repeat_any (v:Int) (n b:Nat) (hn:n<=24) (w:World) (hb:b < w.heap.size) (hc:w.cell? ⟨b,0,none⟩=some (.int .i64 v)) :
    Calls Tryz.prog 185 #[.slice (some ⟨b,0,none⟩) 1 1,.int .i64 n] w (RepOut v n w):=by
  by_cases h0:n=0
  · subst h0;exact repeat_zero v b w
  have HM:=zh (mul_any n hn);have hmk:=fun W=>make_intsA n (by omega) W;have hd:decide ((n:Int) < 0)=false:=decide_eq_false (by omega);go_enter Tryz.func185,Tryz.ntmps185;go_wp2_with fail;refine (HM.out _).mono ?_;rintro e w' ⟨rfl,rfl⟩;go_upto_region 7 with fail
  · have h1:(1:Int)<=n:=by omega
    have B1:=Blk.new w 3 (intsA n (fun _=>0))
    have hrun:(Builtin.copy_ #[23,23] 3 #[.slice (some ⟨w.heap.size,0,none⟩) n n,.slice (some ⟨b,0,none⟩) 1 1]).run Tryz.prog (w.alloc (.cells (intsA n fun _=>0) 3))=.ok (.int .i64 1) ((w.alloc (.cells (intsA n fun _=>0) 3)).setRow w.heap.size (intsA n (repD v 1))):=by
      have h := rep_run v (w.alloc (.cells (intsA n fun _ => 0) 3)) w.heap.size n 0 1 n n 1 1 ⟨b, 0, none⟩ B1 (Nat.min_eq_left (by omega)).symm (by omega) (fun j hj => by
        obtain rfl:j=0:=by omega
        show (w.alloc _).cell? ⟨b,0,none⟩=_
        rw [<- hc]
        exact World.cell?_of_block (Below.heap_alloc _ _ _ hb))
      exact h
    have B2:Hid (Blk ((w.alloc (.cells (intsA n fun _=>0) 3)).setRow w.heap.size (intsA n (repD v 1))) w.heap.size 3 (intsA n (repD v 1))):=setRow_heap _ _ _ _ _ _ B1;have F2:Hid (Below w.heap.size w ((w.alloc (.cells (intsA n fun _=>0) 3)).setRow w.heap.size (intsA n (repD v 1)))):=below_setRow ((Below.refl _ _).alloc (Nat.le_refl _) _) (Nat.le_refl _) _;clear B1;go_wp2_with fail;generalize (w.alloc _).setRow _ _=w2 at *;clear hrun;go_loopw [8] (fun i wr=>∃ m:Nat,1<=m/\m<=n/\i=.int .i64 m/\Hid (Blk wr w.heap.size 3 (intsA n (repD v m)))/\Hid (Below w.heap.size w wr)) (fun i _=>n - (intOf i).toNat)
    case atStart=>exact ⟨1,Nat.le_refl _,by omega,rfl,B2,F2⟩
    case round =>
      clear B2 F2;obtain ⟨m,hm1,hmn,rfl,BR,FR⟩:=hrel
      by_cases hlt:m < n
      · have hmi:(m:Int) < (n:Int):=by omega
        obtain ⟨c,hcv⟩:=nm (Nat.min m (n - m));have hc1:1<=c:=(by rw [hcv];show 1<=min m (n - m);omega);have hc2:m+c<=n:=(by rw [hcv];show m+min m (n - m)<=n;omega);have HCV:=zh hcv;clear hcv;have hw1:IntKind.i64.wrap ((m:Int)+c)=((m+c:Nat):Int):=(by rw [IntKind.wrap_i64];omega);have hnm:¬ n=m:=(by omega)
        have hrun2 := rep_run v wr.drew w.heap.size n m c (n - m) (n - m) m n ⟨w.heap.size, 0, none⟩ BR.out.drew (by rw [HCV.out]) hc2 (fun j hj => by
          have hj2 : j < m := by have := HCV.out; have h3 : c <= m := by rw [this]; exact Nat.min_le_left _ _
                                 omega
          have e:(⟨w.heap.size,0,none⟩:Addr).add j=⟨w.heap.size,j,none⟩:=by unfold Addr.add;split <;> simp_all
          rw [e,BR.out.drew.cell j,intsA_get _ (by omega)]
          simp [repD,hj2])
        have B2:Hid (Blk (wr.drew.setRow w.heap.size (intsA n (repD v (m+c)))) w.heap.size 3 (intsA n (repD v (m+c)))):=setRow_heap _ _ _ _ _ _ BR.out.drew;have F2:Hid (Below w.heap.size w (wr.drew.setRow w.heap.size (intsA n (repD v (m+c))))):=below_setRow FR.out.drew (Nat.le_refl _) _;clear BR FR;generalize hw3:wr.drew.setRow w.heap.size (intsA n (repD v (m+c)))=w3 at *;clear hw3;go_upto_region 9 with fail;go_region
        all_goals
          go_wp2_with fail;go_roundw
          case rel=>exact ⟨m+c,by omega,by omega,by go_num,B2.out,F2.out⟩
          case measure=>simp [intOf];omega
      · obtain rfl:n=m:=by omega
        go_wp2_with fail;go_ret;exact ⟨rfl,(by rw [<- intsA_congr (D:=repD v n) (fun k hk=>by unfold repD;rw [if_pos hk])];exact BR.out),Fr.of_below FR.out⟩
def effL:List (Int × Int × Int):=[(1,0,1),(2,0,1),(3,0,1),(4,0,1),(5,1,0),(13,1,0),(14,1,0),(15,1,0),(6,2,1),(7,2,1),(8,2,1),(17,2,1),(9,1,1),(10,1,1),(11,1,2),(12,2,2)]
def entOf (i:Nat) (x:Int × Int × Int):MapEntry:={ key:=.int .i64 x.1,val:=.agg #[.int .i64 x.2.1,.int .i64 x.2.2],born:=i }
def effA:Nat->Array MapEntry
 | 0 => #[]
 | i+1=>(effA i).push (entOf i (effL.getD i (0,0,0)))
theorem alloc_over (w:World) (o o':Obj):({ w.alloc o with heap:=(w.alloc o).heap.setIfInBounds w.heap.size o' }:World)=w.alloc o':=by
 have h:(w.heap.push o).setIfInBounds w.heap.size o'=w.heap.push o':=by
  apply Array.ext_getElem?;intro i;rw [Array.getElem?_setIfInBounds,Array.getElem?_push,Array.getElem?_push]
  by_cases e:w.heap.size=i
  · subst e;simp
  · have e':¬ i=w.heap.size:=fun h=>e h.symm;simp [e,e']
 show ({ w with heap:=(w.heap.push o).setIfInBounds w.heap.size o' }:World)={ w with heap:=w.heap.push o' }
 rw [h]
theorem eff_ins (w:World) (i:Nat) (x t l:Int) (hx:effL.getD i (0,0,0)=(x,t,l)) (hf:Instr.findNow (.int .i64) (.int .i64 x) (effA i).toList 0=some none) :
  (Instr.mapUpdate 300 (.map (some w.heap.size)) (.int .i64 x) (.agg #[.int .i64 t,.int .i64 l])).run Tryz.prog (w.alloc (.map (effA i) i))=.ok () (w.alloc (.map (effA (i+1)) (i+1))):=by
 have hb:(w.alloc (.map (effA i) i)).heap[w.heap.size]?=some (.map (effA i) i):=heap_alloc_new w _
 have hc:(Instr.checkKey false 10000 3 (.int .i64 x)).run Tryz.prog (w.alloc (.map (effA i) i))=.ok () (w.alloc (.map (effA i) i)) :=
  MapKept.run_checkKey (k:=.int .i64 x) Tryz.underlying3 (by simp [MapKept.IsKey]) false 9999
 have he:effA (i+1)=(effA i).push { key:=.int .i64 x,val:=.agg #[.int .i64 t,.int .i64 l],born:=i }:=by
  show (effA i).push (entOf i _)=_
  rw [hx];rfl
 rw [he];simp [Instr.mapUpdate,run_underlying Tryz.underlying300,MapKept.run_getObj_map hb,hc,MapKept.run_findKey Tryz.underlying3 hf,MapKept.run_setObj_map _ hb,Result.andThen];exact alloc_over w _ _
def EffMap (w:World) (r:Nat):Prop:=w.heap[r]?=some (.map (effA 16) 16)
theorem eff_find (o:Int) (h:0<=o/\o<=17):(o=0 \/ o=16)/\Instr.findNow (.int .i64) (.int .i64 o) (effA 16).toList 0=some none \/ ∃ j,Instr.findNow (.int .i64) (.int .i64 o) (effA 16).toList 0=some (some (j,.agg #[.int .i64 (takesF o),.int .i64 (leavesF o)])):=by
 obtain ⟨n,rfl⟩:=Int.eq_ofNat_of_zero_le h.1;have hn:n<=17:=(by omega)
 match n,hn with
 | 0,_=>exact .inl ⟨.inl rfl,by rfl⟩
 | 16,_=>exact .inl ⟨.inr rfl,by rfl⟩
 | 1,_=>exact .inr ⟨0,by rfl⟩
 | 2,_=>exact .inr ⟨1,by rfl⟩
 | 3,_=>exact .inr ⟨2,by rfl⟩
 | 4,_=>exact .inr ⟨3,by rfl⟩
 | 5,_=>exact .inr ⟨4,by rfl⟩
 | 13,_=>exact .inr ⟨5,by rfl⟩
 | 14,_=>exact .inr ⟨6,by rfl⟩
 | 15,_=>exact .inr ⟨7,by rfl⟩
 | 6,_=>exact .inr ⟨8,by rfl⟩
 | 7,_=>exact .inr ⟨9,by rfl⟩
 | 8,_=>exact .inr ⟨10,by rfl⟩
 | 17,_=>exact .inr ⟨11,by rfl⟩
 | 9,_=>exact .inr ⟨12,by rfl⟩
 | 10,_=>exact .inr ⟨13,by rfl⟩
 | 11,_=>exact .inr ⟨14,by rfl⟩
 | 12,_=>exact .inr ⟨15,by rfl⟩
theorem eff_look {w:World} {r:Nat} (h:EffMap w r) (o:Int) (ho:0<=o/\o<=17):(Instr.lookup 300 (.map (some r)) (.int .i64 o) false).run Tryz.prog w=.ok (.agg #[.int .i64 (takesF o),.int .i64 (leavesF o)]) w:=by
 have hc:∀ b,(Instr.checkKey b 10000 3 (.int .i64 o)).run Tryz.prog w=.ok () w:=fun b =>
  MapKept.run_checkKey (k:=.int .i64 o) Tryz.underlying3 (by simp [MapKept.IsKey]) b 9999
 have hz:(zeroValue 318).run Tryz.prog w=.ok (.agg #[.int .i64 0,.int .i64 0]) w:=(by kernel_rfl)
 rcases eff_find o ho with ⟨h0,hf⟩ | ⟨j,hf⟩
 ·
  have e1:takesF o=0:=by rcases h0 with rfl | rfl <;> rfl
  have e2:leavesF o=0:=by rcases h0 with rfl | rfl <;> rfl
  rw [e1,e2];simp [Instr.lookup,run_underlying Tryz.underlying300,MapKept.run_getObj_map h,hc,MapKept.run_findKey Tryz.underlying3 hf,hz,Result.andThen]
 · simp [Instr.lookup,run_underlying Tryz.underlying300,MapKept.run_getObj_map h,hc,MapKept.run_findKey Tryz.underlying3 hf,Result.andThen]
theorem effects_any (w:World):Calls Tryz.prog 184 #[] w fun e w'=>e=.returned (.map (some w.heap.size))/\w'=w.alloc (.map (effA 16) 16):=by
 have hmk:(Instr.makeMap 300 none).run Tryz.prog w=.ok (.map (some w.heap.size)) (w.alloc (.map (effA 0) 0)):=by
  show _=Result.ok _ (w.alloc (.map #[] 0))
  simp [Instr.makeMap,Result.andThen]
 have i0:=eff_ins w 0 1 0 1 rfl rfl;have i1:=eff_ins w 1 2 0 1 rfl rfl;have i2:=eff_ins w 2 3 0 1 rfl rfl;have i3:=eff_ins w 3 4 0 1 rfl rfl;have i4:=eff_ins w 4 5 1 0 rfl rfl;have i5:=eff_ins w 5 13 1 0 rfl rfl;have i6:=eff_ins w 6 14 1 0 rfl rfl;have i7:=eff_ins w 7 15 1 0 rfl rfl;have i8:=eff_ins w 8 6 2 1 rfl rfl;have i9:=eff_ins w 9 7 2 1 rfl rfl;have i10:=eff_ins w 10 8 2 1 rfl rfl;have i11:=eff_ins w 11 17 2 1 rfl rfl;have i12:=eff_ins w 12 9 1 1 rfl rfl;have i13:=eff_ins w 13 10 1 1 rfl rfl;have i14:=eff_ins w 14 11 1 2 rfl rfl;have i15:=eff_ins w 15 12 2 2 rfl rfl;simp only [Nat.reduceAdd] at i0 i1 i2 i3 i4 i5 i6 i7 i8 i9 i10 i11 i12 i13 i14 i15;go_enter Tryz.func184,Tryz.ntmps184;go_wp2_with fail;go_ret;exact ⟨rfl,rfl⟩
abbrev wkC (gd ge gm n:Nat) (A:Option Addr) (c:Nat) (s:CS):Array Value :=
 #[.slice (some ⟨gd,0,none⟩) n n,.int .i64 s.mx,.int .i64 s.em,.bool s.u0,.bool s.u1,.slice A n c,.slice (some ⟨ge,0,none⟩) n n,.map (some gm)]
structure WMem (gw gd ge gm n:Nat) (A:Option Addr) (c:Nat) (s:CS) (w:World):Prop where
 blk:Blk w gw 303 (wkC gd ge gm n A c s)
 dep:Blk w gd 3 (intsA n s.D)
 ems:Blk w ge 3 (intsA n s.E)
 map:EffMap w gm
 ne1:gd ≠ gw
 ne2:ge ≠ gw
 ne3:gd ≠ ge
theorem EffMap.lt {w:World} {r:Nat} (h:EffMap w r):r < w.heap.size:=by
 rcases Nat.lt_or_ge r w.heap.size with hlt | hge
 · exact hlt
 · unfold EffMap at h;rw [Array.getElem?_eq_none hge] at h;cases h
theorem EffMap.far {w:World} {r:Nat} (h:EffMap w r) {p:Addr} (hp:r ≠ p.block) (u:Value):EffMap (w.setCell p u) r:=(Below.heap_setCell w p u r hp).trans h
theorem EffMap.ne {w:World} {r g t:Nat} {cs:Array Value} (h:EffMap w r) (hb:Blk w g t cs):r ≠ g:=by
 rintro rfl;unfold EffMap at h;unfold Blk at hb;rw [h] at hb
 cases hb
theorem EffMap.fr {w w':World} {r B:Nat} {L:List Nat} (h:EffMap w r) (hf:Fr B L w w') (h1:r < B) (h2:r ∉ L):EffMap w' r:=(hf.block r h1 h2).trans h
theorem WMem.drewN {gw gd ge gm n:Nat} {A:Option Addr} {c:Nat} {s:CS} {w:World} (h:WMem gw gd ge gm n A c s w) (m:Nat):WMem gw gd ge gm n A c s (w.drewN m):=⟨h.blk,h.dep,h.ems,h.map,h.ne1,h.ne2,h.ne3⟩
theorem WMem.drew {gw gd ge gm n:Nat} {A:Option Addr} {c:Nat} {s:CS} {w:World} (h:WMem gw gd ge gm n A c s w):WMem gw gd ge gm n A c s w.drew:=⟨h.blk,h.dep,h.ems,h.map,h.ne1,h.ne2,h.ne3⟩
theorem WMem.keep {gw gd ge gm n:Nat} {A:Option Addr} {c:Nat} {s:CS} {w w':World} (h:WMem gw gd ge gm n A c s w) (hf:Fr w.heap.size [] w w'):WMem gw gd ge gm n A c s w' :=
 ⟨h.blk.fr hf h.blk.lt (by simp),h.dep.fr hf h.dep.lt (by simp),h.ems.fr hf h.ems.lt (by simp),h.map.fr hf h.map.lt (by simp),h.ne1,h.ne2,h.ne3⟩
theorem WMem.top {gw gd ge gm n:Nat} {A:Option Addr} {c:Nat} {s:CS} {w:World} (h:WMem gw gd ge gm n A c s w) (a b:Int) :
  WMem gw gd ge gm n A c { s with mx:=a,em:=b } ((w.setCell ⟨gw,1,none⟩ (.int .i64 a)).setCell ⟨gw,2,none⟩ (.int .i64 b)) :=
 ⟨(h.blk.set_ 1 _).set_ 2 _, (h.dep.far (p := ⟨gw, 1, none⟩) h.ne1 _).far (p := ⟨gw, 2, none⟩) h.ne1 _, (h.ems.far (p := ⟨gw, 1, none⟩) h.ne2 _).far (p := ⟨gw, 2, none⟩) h.ne2 _,
  (h.map.far (p:=⟨gw,1,none⟩) (h.map.ne h.blk) _).far (p:=⟨gw,2,none⟩) (h.map.ne h.blk) _,h.ne1,h.ne2,h.ne3⟩
theorem WMem.setD {gw gd ge gm n:Nat} {A:Option Addr} {c:Nat} {s:CS} {w:World} (h:WMem gw gd ge gm n A c s w) (t:Nat) (d:Int) :
  WMem gw gd ge gm n A c { s with D:=updC s.D t d } (w.setCell ⟨gd,t,none⟩ (.int .i64 d)):=by
 have hb:=h.dep.set_ t (.int .i64 d);rw [intsA_set] at hb;exact ⟨h.blk.far (p:=⟨gd,t,none⟩) h.ne1.symm _,hb,h.ems.far (p:=⟨gd,t,none⟩) h.ne3.symm _,h.map.far (p:=⟨gd,t,none⟩) (h.map.ne h.dep) _,h.ne1,h.ne2,h.ne3⟩
theorem WMem.setE {gw gd ge gm n:Nat} {A:Option Addr} {c:Nat} {s:CS} {w:World} (h:WMem gw gd ge gm n A c s w) (t:Nat) (d:Int) :
  WMem gw gd ge gm n A c { s with E:=updC s.E t d } (w.setCell ⟨ge,t,none⟩ (.int .i64 d)):=by
 have hb:=h.ems.set_ t (.int .i64 d);rw [intsA_set] at hb;exact ⟨h.blk.far (p:=⟨ge,t,none⟩) h.ne2.symm _,h.dep.far (p:=⟨ge,t,none⟩) h.ne3 _,hb,h.map.far (p:=⟨ge,t,none⟩) (h.map.ne h.ems) _,h.ne1,h.ne2,h.ne3⟩
def ComeOut (gw gd ge gm n:Nat) (A:Option Addr) (c:Nat) (r:Option CS) (w:World) (e:Ending) (w':World):Prop :=
 e=.returned (.bool r.isSome)/\(∀ s',r=some s'->WMem gw gd ge gm n A c s' w')/\Fr w.heap.size [gw,gd,ge] w w'
theorem max_if (a b:Int):max a b=if a < b then b else a:=by split <;> omega
theorem come_any (gw gd ge gm n:Nat) (A:Option Addr) (c:Nat) (s:CS) (t:Nat) (d e:Int) (w:World) (hn:n<=24) (ht:t<=n) (hm:WMem gw gd ge gm n A c s w) :
  Calls Tryz.prog 186 #[.pointer (some ⟨gw,0,none⟩),.int .i64 t,.int .i64 d,.int .i64 e] w (ComeOut gw gd ge gm n A c (comeF n s t d e) w):=by
 obtain ⟨r,hr⟩:=nm (comeF n s t d e);rw [<- hr];unfold comeF at hr;have HR:=zh hr;have M:=zh hm;have c1:=hm.blk.cell 1;have c2:=hm.blk.cell 2;have z1:=hm.blk.frozen 1;have z2:=hm.blk.frozen 2;simp at c1 c2;have hgw:=hm.blk.lt;clear hr hm;go_enter Tryz.func186,Tryz.ntmps186;go_wp2_with fail;go_region
 have M1:Hid (WMem gw gd ge gm n A c { s with mx:=max s.mx d,em:=max s.em e } ((w.setCell ⟨gw,1,none⟩ (.int .i64 (if s.mx < d then d else s.mx))).setCell ⟨gw,2,none⟩ (.int .i64 (if s.em < e then e else s.em))).drew):=by
  rw [max_if,max_if];exact (M.out.top _ _).drew
 have F1:Hid (Fr w.heap.size [gw,gd,ge] w ((w.setCell ⟨gw,1,none⟩ (.int .i64 (if s.mx < d then d else s.mx))).setCell ⟨gw,2,none⟩ (.int .i64 (if s.em < e then e else s.em))).drew) :=
  (((Fr.refl _ _ _).setCell (p:=⟨gw,1,none⟩) (.inr (by simp)) _).setCell (p:=⟨gw,2,none⟩) (.inr (by simp)) _).drew
 generalize (if s.mx < d then d else s.mx)=a1 at *;generalize (if s.em < e then e else s.em)=a2 at *;generalize ((w.setCell ⟨gw,1,none⟩ (.int .i64 a1)).setCell ⟨gw,2,none⟩ (.int .i64 a2)).drew=w1 at *;clear c1 c2 z1 z2 hgw M
 by_cases h1:8 < d
 ·
  obtain rfl:r=none:=by rw [HR.out,if_pos (.inl h1)]
  go_wp2_with fail;go_ret;exact ⟨rfl,(fun _ h=>by cases h),F1.out⟩
 by_cases h2:4 < e
 ·
  obtain rfl:r=none:=by rw [HR.out,if_pos (.inr h2)]
  go_wp2_with fail;go_ret;exact ⟨rfl,(fun _ h=>by cases h),F1.out⟩
 have c5:=M1.out.blk.cell 5;simp at c5
 by_cases h3:t=n
 ·
  have hr:r=some { s with mx:=max s.mx d,em:=max s.em e }:=by rw [HR.out,if_neg (by omega),if_pos h3]
  subst h3;have HRR:=zh hr;clear hr;go_wp2_with fail;go_ret;exact ⟨by rw [HRR.out];simp,fun s' h=>by rw [HRR.out] at h;injection h with h;subst h;exact M1.out,F1.out⟩
 have htn:(t:Int) < (n:Int):=(by omega);have hne:((t:Int) == (n:Int))=false:=(by simp;omega);have c0:=M1.out.blk.cell 0;simp at c0;have cd:=(M1.out.dep.cell t).trans (intsA_get _ (by omega));have zd:=M1.out.dep.frozen t
 by_cases h4:s.D t ≠ -1/\s.D t ≠ d
 ·
  obtain rfl:r=none:=by rw [HR.out,if_neg (by omega),if_neg h3,if_pos h4]
  obtain ⟨h5,h6⟩:=h4;have b1:(s.D t != -1)=true:=(by simpa using h5);have b2:(s.D t != d)=true:=(by simpa using h6);clear h5 h6;go_wp2_with fail;go_ret;exact ⟨rfl,(fun _ h=>by cases h),F1.out⟩
 have hr:r=some { s with D:=updC s.D t d,E:=updC s.E t (max (s.E t) e),mx:=max s.mx d,em:=max s.em e }:=(by rw [HR.out,if_neg (by omega),if_neg h3,if_neg h4]);have HRR:=zh hr
 have h4':(s.D t != -1)=false \/ ((s.D t != -1)=true/\(s.D t != d)=false):=by
  by_cases h5:s.D t = -1
  · exact .inl (by simp [h5])
  ·
   by_cases h6:s.D t=d
   · exact .inr ⟨by simpa using h5,by simp [h6]⟩
   · exact absurd ⟨h5,h6⟩ h4
 clear hr h4;have M2:=zh (M1.out.setD t d);have F2:=zh (F1.out.setCell (p:=⟨gd,t,none⟩) (.inr (by simp)) (.int .i64 d))
 rcases h4' with b1 | ⟨b1,b2⟩
 all_goals
  go_upto_region 9 with fail;generalize w1.setCell ⟨gd,t,none⟩ (.int .i64 d)=w2 at *;clear c0 c5 cd zd M1 F1;have c6:=M2.out.blk.cell 6;have ce:=(M2.out.ems.cell t).trans (intsA_get _ (by omega));have ze:=M2.out.ems.frozen t;simp at c6;simp only at ce;refine wp_region_still_tail 15 (by kernel_rfl) (by kernel_rfl) ?_;simp only [List.take_succ_cons,List.take_zero,List.drop_succ_cons,List.drop_zero]
  repeat still_step
  refine wpStill_nil ?_
  change wpList _ _ _ _ _ w2.drew
  go_wp2_with fail
  all_goals
   go_ret;refine ⟨by rw [HRR.out];rfl,fun s' h => ?_,(F2.out.setCell (p:=⟨ge,t,none⟩) (.inr (by simp)) _).drew⟩;rw [HRR.out] at h;injection h with h
   subst h
   first
    | (rw [show max (s.E t) e=e by omega];exact (M2.out.setE t e).drew)
    | (rw [show max (s.E t) e=s.E t by omega];exact (M2.out.setE t (s.E t)).drew)
theorem right_range {i:Int × Int} (h:rightB i=true):0<=i.1/\i.1<=17 /\ -524288<=i.2/\i.2<=524287/\((i.1=15 \/ i.1=16)->1<=i.2/\i.2<=24)/\((i.1=4 \/ i.1=5)->0<=i.2/\i.2<=1):=by
 obtain ⟨o,a⟩:=i;unfold rightB boF boT at h;have h:=of_decide_eq_true h;simp only at h ⊢
 by_cases h1:o=1 \/ o=2
 · rw [if_pos h1,if_pos h1] at h;omega
 ·
  rw [if_neg h1,if_neg h1] at h
  by_cases h2:o=4 \/ o=5
  · rw [if_pos h2,if_pos h2] at h;omega
  ·
   rw [if_neg h2,if_neg h2] at h
   by_cases h3:o=15 \/ o=16
   · rw [if_pos h3,if_pos h3] at h;omega
   · rw [if_neg h3,if_neg h3] at h;omega
def NextOut (L:List Nat) (w:World) (e:Ending) (w':World):Prop :=
 ∃ A c,e=.returned (.slice A L.length c)/\Reads w' w'.heap.size 1 A L.length (L.map fun t:Nat=>Value.int .i64 t)/\(∀ ad,A=some ad->w.heap.size<=ad.block)/\Fr w.heap.size [] w w'
theorem reads_new1 (w:World) (a:Nat):Reads (w.alloc (.cells #[.int .i64 a] 3)) (w.alloc (.cells #[.int .i64 a] 3)).heap.size 1 (some ⟨w.heap.size,0,none⟩) 1 ([a].map fun t:Nat=>Value.int .i64 t) :=
 (Reads.of_blk (size:=1) (m:=1) (Blk.new w 3 #[.int .i64 a]) rfl).more (by simp)
theorem reads_new2 (w:World) (a b:Nat):Reads (w.alloc (.cells #[.int .i64 a,.int .i64 b] 3)) (w.alloc (.cells #[.int .i64 a,.int .i64 b] 3)).heap.size 1 (some ⟨w.heap.size,0,none⟩) 2 ([a,b].map fun t:Nat=>Value.int .i64 t) :=
 (Reads.of_blk (size:=1) (m:=2) (Blk.new w 3 #[.int .i64 a,.int .i64 b]) rfl).more (by simp)
theorem next_any (A:Option Addr) (c B:Nat) (l:List (Int × Int)) (k:Nat) (i:Int × Int) (w:World) (hr:Reads w B 2 A l.length (cellsI l)) (hB:B<=w.heap.size) (hn:l.length<=24) (hx:l[k]?=some i) (hi:rightB i=true) :
  Calls Tryz.prog 201 #[.slice A l.length c,.int .i64 k] w (NextOut (nextsF l.length k i) w):=by
 have hkl:k < l.length:=by
  rcases Nat.lt_or_ge k l.length with h' | h'
  · exact h'
  · rw [List.getElem?_eq_none h'] at hx;cases hx
 obtain ⟨b,off,rfl,hb,c1,c2⟩:=reads_ins hr hx;obtain ⟨r1,r2,r3,r4,r5,r6⟩:=right_range hi;obtain ⟨o,a⟩:=i;obtain ⟨n,hnl⟩:=nm (l.length);rw [<- hnl] at hn hkl ⊢;have hbw:b < w.heap.size:=(by omega);simp only at c1 c2 r1 r2 r3 r4 r5 r6;clear hr hx hi hnl hb hB;obtain ⟨L,hL⟩:=nm (nextsF n k (o,a));rw [<- hL];unfold nextsF at hL;simp only at hL;have hki:(k:Int) < (n:Int):=(by omega)
 by_cases h0:o=0
 ·
  rw [if_pos h0] at hL;subst hL h0;clear r5 r6
  by_cases hf:(k:Int)+1+a<=n
  all_goals
   go_enter Tryz.func201,Tryz.ntmps201;go_wp2_with fail;go_ret;exact ⟨none,0,rfl,Reads.none_,(fun _ h=>by cases h),(Fr.refl _ _ _).alloc (Nat.le_refl _) _⟩
 by_cases h16:o=16
 ·
  rw [if_neg h0,if_pos h16] at hL;obtain ⟨q1,q2⟩:=r5 (.inr h16);obtain ⟨m,hm⟩:=Int.eq_ofNat_of_zero_le (show 0<=a by omega);have hm':a=(m:Int):=hm;subst hm' h16;unfold farF at hL;rw [Int.toNat_natCast] at hL;clear r5 r6 h0 hm
  by_cases hf:k+1+m<=n
  · rw [Nat.min_eq_left hf] at hL;subst hL;have hf':(k:Int)+1+m<=n:=(by omega);go_enter Tryz.func201,Tryz.ntmps201;go_wp2_with fail;go_ret;refine ⟨_,1,rfl,?_,(fun ad h=>by injection h with h;subst h;simp),((Fr.refl _ _ _).alloc (Nat.le_refl _) _).alloc (by simp) _⟩;have h:=reads_new1 (w.alloc (.cells #[.int .i64 16,.int .i64 m] 199)) (k+1+m);simpa using h
  · rw [Nat.min_eq_right (by omega)] at hL;subst hL;have hf':(n:Int) < (k:Int)+1+m:=(by omega);go_enter Tryz.func201,Tryz.ntmps201;go_wp2_with fail;go_ret;refine ⟨_,1,rfl,?_,(fun ad h=>by injection h with h;subst h;simp),((Fr.refl _ _ _).alloc (Nat.le_refl _) _).alloc (by simp) _⟩;have h:=reads_new1 (w.alloc (.cells #[.int .i64 16,.int .i64 m] 199)) n;simpa using h
 by_cases h15:o=15
 ·
  rw [if_neg h0,if_neg h16,if_pos h15] at hL;obtain ⟨q1,q2⟩:=r5 (.inl h15);obtain ⟨m,hm⟩:=Int.eq_ofNat_of_zero_le (show 0<=a by omega);have hm':a=(m:Int):=hm;subst hm' h15;unfold farF at hL;rw [Int.toNat_natCast] at hL;clear r5 r6 h0 h16 hm
  by_cases hf:k+1+m<=n
  · rw [Nat.min_eq_left hf] at hL;subst hL;have hf':(k:Int)+1+m<=n:=(by omega);go_enter Tryz.func201,Tryz.ntmps201;go_wp2_with fail;go_ret;refine ⟨_,2,rfl,?_,(fun ad h=>by injection h with h;subst h;simp),((Fr.refl _ _ _).alloc (Nat.le_refl _) _).alloc (by simp) _⟩;have h:=reads_new2 (w.alloc (.cells #[.int .i64 15,.int .i64 m] 199)) (k+1) (k+1+m);simpa using h
  · rw [Nat.min_eq_right (by omega)] at hL;subst hL;have hf':(n:Int) < (k:Int)+1+m:=(by omega);go_enter Tryz.func201,Tryz.ntmps201;go_wp2_with fail;go_ret;refine ⟨_,2,rfl,?_,(fun ad h=>by injection h with h;subst h;simp),((Fr.refl _ _ _).alloc (Nat.le_refl _) _).alloc (by simp) _⟩;have h:=reads_new2 (w.alloc (.cells #[.int .i64 15,.int .i64 m] 199)) (k+1) n;simpa using h
 ·
  rw [if_neg h0,if_neg h16,if_neg h15] at hL;subst hL;have e0:(o == 0)=false:=(by simpa using h0);have e16:(o == 16)=false:=(by simpa using h16);have e15:(o == 15)=false:=(by simpa using h15);clear r5 r6 h0 h16 h15
  by_cases hf:(k:Int)+1+a<=n
  all_goals
   go_enter Tryz.func201,Tryz.ntmps201;go_wp2_with fail;go_ret;refine ⟨_,1,rfl,?_,(fun ad h=>by injection h with h;subst h;simp),((Fr.refl _ _ _).alloc (Nat.le_refl _) _).alloc (by simp) _⟩;have h:=reads_new1 (w.alloc (.cells #[.int .i64 o,.int .i64 a] 199)) (k+1);simpa using h
theorem nextsF_gt {n k:Nat} {i:Int × Int} (hk:k < n) (hi:rightB i=true):∀ t ∈ nextsF n k i,k < t/\t<=n:=by
 intro t ht;have h:=nextsF_le hk i t ht;obtain ⟨_,_,_,_,r5,_⟩:=right_range hi;unfold nextsF farF at ht
 split at ht
 · cases ht
 ·
  split at ht
  · rename_i h16;have:=r5 (.inr h16);simp at ht;omega
  ·
   split at ht
   · rename_i h15;have:=r5 (.inl h15);simp at ht;omega
   · simp at ht;omega
theorem nextsF_len (n k:Nat) (i:Int × Int):(nextsF n k i).length<=2:=by
 unfold nextsF
 split
 · simp
 ·
  split
  · simp
  · split <;> simp
theorem come_D {n t:Nat} {s s':CS} {d e:Int} (h:comeF n s t d e=some s') (k:Nat) (hk:k ≠ t):s'.D k=s.D k:=by
 unfold comeF at h
 split at h
 · cases h
 ·
  split at h
  · injection h with h;subst h;rfl
  ·
   split at h
   · cases h
   ·
    injection h with h;subst h
    simp only [updC];rw [if_neg hk]
theorem comes_drop {n:Nat} {d e:Int} {L:List Nat} {j t:Nat} (s:CS) (h:L[j]?=some t):comesF n d e (L.drop j) s=match comeF n s t d e with
  | none=>none
  | some s'=>comesF n d e (L.drop (j+1)) s':=by
 have hj:j < L.length:=by
  rcases Nat.lt_or_ge j L.length with h' | h'
  · exact h'
  · rw [List.getElem?_eq_none h'] at h;cases h
 rw [List.getElem?_eq_getElem hj] at h;injection h with h
 rw [List.drop_eq_getElem_cons hj,h];rfl
theorem WMem.setU0 {gw gd ge gm n:Nat} {A:Option Addr} {c:Nat} {s:CS} {w:World} (h:WMem gw gd ge gm n A c s w):WMem gw gd ge gm n A c { s with u0:=true } (w.setCell ⟨gw,3,none⟩ (.bool true)) :=
 ⟨h.blk.set_ 3 _,h.dep.far (p:=⟨gw,3,none⟩) h.ne1 _,h.ems.far (p:=⟨gw,3,none⟩) h.ne2 _,h.map.far (p:=⟨gw,3,none⟩) (h.map.ne h.blk) _,h.ne1,h.ne2,h.ne3⟩
theorem WMem.setU1 {gw gd ge gm n:Nat} {A:Option Addr} {c:Nat} {s:CS} {w:World} (h:WMem gw gd ge gm n A c s w):WMem gw gd ge gm n A c { s with u1:=true } (w.setCell ⟨gw,4,none⟩ (.bool true)) :=
 ⟨h.blk.set_ 4 _,h.dep.far (p:=⟨gw,4,none⟩) h.ne1 _,h.ems.far (p:=⟨gw,4,none⟩) h.ne2 _,h.map.far (p:=⟨gw,4,none⟩) (h.map.ne h.blk) _,h.ne1,h.ne2,h.ne3⟩
def StepOut (gw gd ge gm n:Nat) (A:Option Addr) (c:Nat) (r:Option CS) (w:World) (e:Ending) (w':World):Prop :=
 e=.returned (.bool r.isSome)/\(∀ s',r=some s'->WMem gw gd ge gm n A c s' w')/\Fr w.heap.size [gw,gd,ge] w w'
theorem step_any (gw gd ge gm:Nat) (A:Option Addr) (c B:Nat) (l:List (Int × Int)) (s:CS) (k:Nat) (i:Int × Int) (w:World) (hr:Reads w B 2 A l.length (cellsI l)) (hB:B<=gw/\B<=gd/\B<=ge) (hn:l.length<=24) (hx:l[k]?=some i) (hi:rightB i=true)
  (hI:CInv l.length s) (p:Nat->Int × Int) (hp:p k=i) (hm:WMem gw gd ge gm l.length A c s w) :
  Calls Tryz.prog 187 #[.pointer (some ⟨gw,0,none⟩),.int .i64 k] w (StepOut gw gd ge gm l.length A c (stepF l.length p s k) w):=by
 have hkl:k < l.length:=by
  rcases Nat.lt_or_ge k l.length with h' | h'
  · exact h'
  · rw [List.getElem?_eq_none h'] at hx;cases hx
 obtain ⟨r,hrr⟩:=nm (stepF l.length p s k);rw [<- hrr];unfold stepF at hrr;rw [hp] at hrr;have hBw:B<=w.heap.size:=Nat.le_trans hB.1 (Nat.le_of_lt hm.blk.lt);have NX:=zh (fun (w':World) (hw:Fr w.heap.size [gw,gd,ge] w w')=>next_any A c B l k i w' (hr.fr hw hBw (by simp;omega)) (Nat.le_trans hBw hw.size) hn hx hi);obtain ⟨b,off,hA,hb,c1,c2⟩:=reads_ins hr hx;obtain ⟨r1,r2,r3,r4,r5,r6⟩:=right_range hi;have GT:=zh (nextsF_gt hkl hi);obtain ⟨o,a⟩:=i;obtain ⟨n,hnl⟩:=nm (l.length);rw [<- hnl] at hn hkl hm hrr NX GT hI ⊢;obtain ⟨t1,t2⟩:=takesF_range o;obtain ⟨t3,t4⟩:=leavesF_range o;have HRR:=zh hrr;simp only at c1 c2 r1 r2 r3 r4 r5 r6 HRR;obtain ⟨d1,d2⟩:=hI.d k;obtain ⟨e1,e2⟩:=hI.e k;have HI:=zh hI;have HM:=zh hm;have hbw:b < w.heap.size:=(by omega);have hgw:=hm.blk.lt;have hgd:=hm.dep.lt;have hge:=hm.ems.lt;have hgm:=hm.map.lt;have q5:=hm.blk.cell 5;simp at q5;have HLK:=zh (fun (w':World) (h:EffMap w' gm)=>eff_look h o ⟨r1,r2⟩);have hki:(k:Int) < (n:Int):=(by omega);clear hr hx hi hnl hb hp hrr hm hI;rw [hA] at q5;clear hA;go_enter Tryz.func187,Tryz.ntmps187;go_wp2_with fail;have B5:=Blk.new w 199 #[.int .i64 o,.int .i64 a];have f1:=(Fr.refl w.heap.size [] w).alloc (Nat.le_refl _) (.cells #[.int .i64 o,.int .i64 a] 199);have hs1:(w.alloc (.cells #[.int .i64 o,.int .i64 a] 199)).heap.size=w.heap.size+1:=(by simp);have M1:=zh (HM.out.keep f1);obtain ⟨w1,hw1⟩:=nm (w.alloc (.cells #[.int .i64 o,.int .i64 a] 199));rw [<- hw1] at B5 f1 hs1 M1 ⊢;have F1:=zh f1;have HS1:=zh hs1;have B5':=zh B5;have q7:=M1.out.blk.cell 7;have p0:=B5.cell 0;simp at q7 p0;have hlk1:=HLK.out w1.drew M1.out.map;have hlk2:=HLK.out ((w1.alloc (.cells #[.int .i64 0,.int .i64 0] 318)).drew) ((Below.heap_alloc _ _ _ M1.out.map.lt).trans M1.out.map);have h5lt:w.heap.size < w1.heap.size:=B5.lt;have hgw1:=M1.out.blk.lt;clear B5 f1 hs1 hw1 c1 c2 q5 HM HLK;generalize hg5:w.heap.size=g5 at *;have HG5:=zh hg5;clear hg5;go_cut [6] (fun s6 wx=>s6=.pointer (some ⟨w1.heap.size,0,none⟩)/\wx=(w1.alloc (.cells #[.int .i64 (takesF o),.int .i64 (leavesF o)] 318)).drew)
 case first =>
  go_region
  all_goals
   go_wp2_with fail;go_meet;exact ⟨rfl,rfl⟩
 case rest =>
  obtain ⟨rfl,rfl⟩:=hcut;have B6:=(Blk.new w1 318 #[.int .i64 (takesF o),.int .i64 (leavesF o)]).drew;have f2:=((Fr.refl w1.heap.size [] w1).alloc (Nat.le_refl _) (.cells #[.int .i64 (takesF o),.int .i64 (leavesF o)] 318)).drew;have M2:=zh (M1.out.keep f2);have B52:=zh (B5'.out.fr f2 B5'.out.lt (by simp));have F2:=zh (F1.out.trans (f2.mono (B':=g5) (L':=[]) (Nat.le_of_lt h5lt) (by simp)));clear hlk1 hlk2 q7 p0 M1 F1 B5' f2;generalize (w1.alloc (.cells #[.int .i64 (takesF o),.int .i64 (leavesF o)] 318)).drew=w2 at *;have h65:g5 < w1.heap.size:=h5lt;generalize w1.heap.size=g6 at *;have HB6:=zh B6;have u0:=B6.cell 0;have x0:=M2.out.blk.cell 0;have xd:=(M2.out.dep.cell k).trans (intsA_get _ hkl);simp at u0 x0;clear B6;generalize takesF o=tk at *;generalize leavesF o=lv at *
  by_cases hlt:s.D k < tk
  ·
   obtain rfl:r=none:=by rw [HRR.out,if_pos hlt]
   have hd:decide (s.D k < tk)=true:=decide_eq_true hlt;go_wp2_with fail;go_quiet (fail);go_wp2_with fail;go_ret;exact ⟨rfl,(fun _ h=>by cases h),by rw [HG5.out];exact (F2.out.drewN nq).mono (Nat.le_refl _) (by simp)⟩
  have hd:decide (s.D k < tk)=false:=decide_eq_false hlt;have hrr:=HRR.out;rw [if_neg hlt] at hrr;have HR2:=zh hrr;clear hrr HRR;go_wp2_with fail;go_quiet (fail);have M3:=zh (M2.out.drewN nq);have B53:=zh (B52.out.drewN nq);have B63:=zh (HB6.out.drewN nq);have F3:=zh ((F2.out.drewN nq).mono (B':=g5) (L':=[gw,gd,ge]) (Nat.le_refl _) (by simp));clear M2 B52 HB6 F2 u0 x0 xd hd;generalize w2.drewN nq=w3 at *;have y6:=M3.out.blk.cell 6;have ye:=(M3.out.ems.cell k).trans (intsA_get _ hkl);have y0:=B53.out.cell 0;have y1:=B53.out.cell 1;simp at y6 y0 y1;go_upto_block 0 with fail;go_cut [7] (fun s7 wx=>s7=.int .i64 (emF s k (o,a))/\Hid (WMem gw gd ge gm n A c (useF s (o,a)) wx)/\Hid (Blk wx g6 318 #[.int .i64 tk,.int .i64 lv])/\Hid (Fr g5 [gw,gd,ge] w wx))
  case first =>
   by_cases h14:o=14
   · subst h14;go_wp2_with fail;go_meet;exact ⟨by simp [emF],(by unfold useF;rw [if_neg (by simp)];exact M3.out),B63.out,F3.out⟩
   by_cases h45:o=4 \/ o=5
   ·
    have hem:emF s k (o,a)=s.E k:=by unfold emF;rw [if_neg (by simpa using h14)]
    obtain ⟨a1,a2⟩:=r6 h45;have HEM:=zh hem;clear r5 r6 hem h14;have z3:=M3.out.blk.frozen 3;have z4:=M3.out.blk.frozen 4;have v3:=M3.out.blk.cell 3;have v4:=M3.out.blk.cell 4;simp at v3 v4;have ha:a=0 \/ a=1:=(by omega)
    rcases ha with rfl | rfl <;> rcases h45 with rfl | rfl
    all_goals
     go_upto_region 11 with fail;go_region
     all_goals
      go_wp2_with fail;go_meet
      first
       | exact ⟨by rw [HEM.out],M3.out.setU0.drew,(B63.out.far (p:=⟨gw,3,none⟩) (by show g6 ≠ gw;omega) _).drew,(F3.out.setCell (p:=⟨gw,3,none⟩) (.inr (by simp)) _).drew⟩
       | exact ⟨by rw [HEM.out],M3.out.setU1.drew,(B63.out.far (p:=⟨gw,4,none⟩) (by show g6 ≠ gw;omega) _).drew,(F3.out.setCell (p:=⟨gw,4,none⟩) (.inr (by simp)) _).drew⟩
   ·
    have e14:(o == 14)=false:=by simpa using h14
    have e4:(o == 4)=false:=(by simp;omega);have e5:(o == 5)=false:=(by simp;omega);have HEM:=zh (show emF s k (o,a)=s.E k by unfold emF;rw [if_neg (by simpa using h14)]);have HUS:=zh (show useF s (o,a)=s by unfold useF;rw [if_neg (by simpa using h45)]);clear r5 r6 h14 h45;go_wp2_with fail;go_meet;exact ⟨by rw [HEM.out],(by rw [HUS.out];exact M3.out),B63.out,F3.out⟩
  case rest =>
   obtain ⟨rfl,M4,B64,F4⟩:=hcut;have y5:=M4.out.blk.cell 5;simp at y5;have HI4:=zh (HI.out.use (o,a));have HD4:Hid ((useF s (o,a)).D k=s.D k):=(by rw [use_D];exact (rfl:s.D k=s.D k));have hem:=emF_range HI.out k (o,a);generalize emF s k (o,a)=em at *;generalize useF s (o,a)=s4 at *;clear M3 B53 B63 F3 HI y0 y1 y6 ye;go_wp2_with fail;refine (NX.out wc F4.out).mono ?_;rintro e w5 ⟨AL,cL,rfl,RL,apL,fL⟩;have hL2:=nextsF_len n k (o,a);generalize nextsF n k (o,a)=L at *;obtain ⟨N,hN⟩:=nm (L.length);rw [<- hN] at RL hL2 ⊢;have HN:=zh hN;have hgc:g6 < wc.heap.size:=B64.out.lt;have M5:=zh (M4.out.keep fL);have B65:=zh (B64.out.fr fL B64.out.lt (by simp));have F5:=zh (F4.out.trans (fL.mono (B':=g5) (L':=[gw,gd,ge]) (by omega) (by simp)));have HRL:=zh RL;have HAP:=zh apL;have hs5:wc.heap.size<=w5.heap.size:=fL.size;clear hN RL apL fL M4 B64 F4 y5 NX;go_wp2_with fail;go_loopw [65] (fun i wr=>∃ (j:Nat) (sj:CS),j<=N/\i=.int .i64 j/\Hid (comesF n (s.D k - tk+lv) em L s4=comesF n (s.D k - tk+lv) em (L.drop j) sj)/\Hid (WMem gw gd ge gm n A c sj wr)/\Hid (sj.D k=s.D k)/\Hid (Blk wr g6 318 #[.int .i64 tk,.int .i64 lv])/\Hid (Fr g5 [gw,gd,ge] w wr)/\Hid (Fr w5.heap.size [gw,gd,ge] w5 wr)) (fun i _=>N - (intOf i).toNat)
   case atStart=>exact ⟨0,s4,by omega,rfl,rfl,M5,HD4,B65,F5,Fr.refl _ _ _⟩
   case round =>
    clear M5 B65 F5;obtain ⟨j,sj,hj,rfl,HQ,MR,DR,BR,FR,FW⟩:=hrel
    by_cases hjN:j < N
    ·
     obtain ⟨bl,ol,u,hAL,hbl,hu,hcu⟩:=HRL.out.one hjN;obtain ⟨t,ht,rfl⟩:∃ t:Nat,L[j]?=some t/\Value.int .i64 t=u:=by simpa using hu
     have hap:=HAP.out ⟨bl,ol,none⟩ hAL;simp only at hap;have hcr:=(FW.out.cell (p:=⟨bl,ol+j,none⟩) hbl (by simp;omega)).trans hcu;obtain ⟨g1,g2⟩:=GT.out t (List.mem_of_getElem? ht);have HST:=zh (comes_drop (d:=s.D k - tk+lv) (e:=em) (n:=n) sj ht);have x0:=MR.out.blk.cell 0;have xd:=(MR.out.dep.cell k).trans (intsA_get _ hkl);rw [DR.out] at xd;have u0:=BR.out.cell 0;have u1:=BR.out.cell 1;simp at x0 u0 u1;have hw1:IntKind.i64.wrap (s.D k - tk)=s.D k - tk:=(by rw [IntKind.wrap_i64];omega);have hw2:IntKind.i64.wrap (s.D k - tk+lv)=s.D k - tk+lv:=(by rw [IntKind.wrap_i64];omega);rw [hAL];clear ht hu hcu hap;go_upto_region 15 with fail;refine wp_region_still_tail 17 (by kernel_rfl) (by kernel_rfl) ?_;simp only [List.take_succ_cons,List.take_zero,List.drop_succ_cons,List.drop_zero]
     repeat still_step
     refine wpStill_nil ?_
     change wpList _ _ _ _ _ wr.drew
     go_wp2_with fail;have hce:=come_any gw gd ge gm n A c sj t (s.D k - tk+lv) em wr.drew hn g2 MR.out.drew;have FW':=zh (FW.out.drew);have FR':=zh (FR.out.drew);have hsz:=FR.out.size;have BR':=zh (BR.out.drew);have hgr:g6 < wr.heap.size:=BR.out.lt;clear x0 xd u0 u1 hcr FW FR BR MR hw1 hw2
     rcases (show comeF n sj t (s.D k - tk+lv) em=none \/ ∃ s',comeF n sj t (s.D k - tk+lv) em=some s' by cases comeF n sj t (s.D k - tk+lv) em;exact .inl rfl;exact .inr ⟨_,rfl⟩) with hq | ⟨s',hq⟩
     · rw [hq] at hce;have HQQ:=zh hq;clear hq;refine hce.mono ?_;rintro e w6 ⟨rfl,hms,f6⟩;have F6:=zh (FR'.out.trans (f6.mono (B':=g5) (L':=[gw,gd,ge]) (by show g5<=wr.heap.size;omega) (fun q hq _=>hq)));clear f6 hms hce;go_wp2_with fail;go_ret;have hrn:r=none:=(by rw [HR2.out,HQ.out,HST.out,HQQ.out]);exact ⟨by rw [hrn];rfl,(fun _ h=>by rw [hrn] at h;cases h),by rw [HG5.out];exact F6.out⟩
     ·
      rw [hq] at hce;have HQQ:=zh hq;clear hq;refine hce.mono ?_;rintro e w6 ⟨rfl,hms,f6⟩;have F6:=zh (FR'.out.trans (f6.mono (B':=g5) (L':=[gw,gd,ge]) (by show g5<=wr.heap.size;omega) (fun q hq _=>hq)));have W6:=zh (FW'.out.trans (f6.mono (B':=w5.heap.size) (L':=[gw,gd,ge]) FW'.out.size (fun q hq _=>hq)));have B6:=zh (BR'.out.fr f6 BR'.out.lt (by simp;omega));have MS:=zh (hms s' rfl);clear f6 hms hce;go_wp2_with fail;go_roundw
      case rel =>
       refine ⟨j+1,s',by omega,by go_num,?_,MS,?_,B6,F6,W6⟩
       ·
        show _=_
        rw [HQ.out,HST.out,HQQ.out]
       ·
        show _=_
        rw [come_D HQQ.out k (by omega)];exact DR.out
      case measure=>simp [intOf];omega
    ·
     obtain rfl:N=j:=by omega
     have hrn:r=some sj:=by
      rw [HR2.out,HQ.out,List.drop_of_length_le (by rw [HN.out];exact Nat.le_refl _)];rfl
     have HRN:=zh hrn;clear hrn;go_wp2_with fail;go_ret;exact ⟨by rw [HRN.out];rfl,(fun s'' h=>by rw [HRN.out] at h;injection h with h;subst h;exact MR.out),by rw [HG5.out];exact FR.out⟩
def pF (l:List (Int × Int)) (k:Nat):Int × Int:=l.getD k (0,0)
def chkL (l:List (Int × Int)):Option CS:=if fitsB l=true then checkF l.length (pF l) l.length else none
def ChkOut (l:List (Int × Int)) (w:World) (e:Ending) (w':World):Prop :=
 (∀ s,chkL l=some s->∃ gd,e=.returned (.tuple #[.agg #[.slice (some ⟨gd,0,none⟩) l.length l.length,.int .i64 s.mx,.int .i64 s.em,.bool s.u0,.bool s.u1],.int .i64 0])/\w.heap.size<=gd/\Blk w' gd 3 (intsA l.length s.D)) /\
 (chkL l=none->e=.returned (.tuple #[.agg #[.slice none 0 0,.int .i64 0,.int .i64 0,.bool false,.bool false],.int .i64 9]))/\Fr w.heap.size [] w w'
theorem checkF_none {n:Nat} {p:Nat->Int × Int} {k:Nat} (h:checkF n p k=none):∀ d,checkF n p (k+d)=none
 | 0=>h
 | d+1=>by
  show checkF n p (k+d+1)=none
  unfold checkF;rw [checkF_none h d]
abbrev repC (v:Value) (a b:Int) (x y:Bool):Array Value:=#[v,.int .i64 a,.int .i64 b,.bool x,.bool y]
def set5 (w:World) (g:Nat) (v:Value) (a b:Int) (x y:Bool):World :=
 ((((w.setCell ⟨g,0,none⟩ v).setCell ⟨g,1,none⟩ (.int .i64 a)).setCell ⟨g,2,none⟩ (.int .i64 b)).setCell ⟨g,3,none⟩ (.bool x)).setCell ⟨g,4,none⟩ (.bool y)
theorem blk_set5 {w:World} {g t:Nat} {v0:Value} {a0 b0:Int} {x0 y0:Bool} (h:Blk w g t (repC v0 a0 b0 x0 y0)) (v:Value) (a b:Int) (x y:Bool):Blk (set5 w g v a b x y) g t (repC v a b x y) :=
 ((((h.set_ 0 v).set_ 1 (.int .i64 a)).set_ 2 (.int .i64 b)).set_ 3 (.bool x)).set_ 4 (.bool y)
theorem fr_set5 {B g:Nat} {L:List Nat} {a0 w:World} (h:Fr B L a0 w) (hg:B<=g \/ g ∈ L) (v:Value) (a b:Int) (x y:Bool):Fr B L a0 (set5 w g v a b x y) :=
 ((((h.setCell (p:=⟨g,0,none⟩) hg _).setCell (p:=⟨g,1,none⟩) hg _).setCell (p:=⟨g,2,none⟩) hg _).setCell (p:=⟨g,3,none⟩) hg _).setCell (p:=⟨g,4,none⟩) hg _
def freshS:CS:=⟨fun _ => -1,fun _=>0,0,0,false,false⟩
theorem come_start (n:Nat):comeF n freshS 0 0 0=some (startF n):=by
 unfold comeF;rw [if_neg (by omega)]
 by_cases h:0=n
 · rw [if_pos h];subst h;simp [freshS,startF]
 ·
  rw [if_neg h,if_neg (by simp [freshS])];have h':¬ n=0:=fun e=>h e.symm;simp only [freshS,startF]
  congr 2
  · funext j;simp [h',updC]
  · funext j;simp [updC]
theorem heap3 (w:World) (a b c:Obj):(((w.alloc a).alloc b).alloc c).drew.heap[w.heap.size]?=some a/\(((w.alloc a).alloc b).alloc c).drew.heap[w.heap.size+1]?=some b/\(((w.alloc a).alloc b).alloc c).drew.heap[w.heap.size+2]?=some c/\Fr w.heap.size [] w (((w.alloc a).alloc b).alloc c).drew:=by
 have e1:(w.alloc a).heap.size=w.heap.size+1:=(by simp);have e2:((w.alloc a).alloc b).heap.size=w.heap.size+2:=(by simp);refine ⟨?_,?_,?_,(((((Fr.refl _ _ _).alloc (Nat.le_refl _) _).alloc (by simp) _).alloc (by simp;omega) _).drew)⟩
 ·
  show (((w.alloc a).alloc b).alloc c).heap[w.heap.size]?=some a
  rw [Below.heap_alloc _ _ _ (by rw [e2];omega),Below.heap_alloc _ _ _ (by rw [e1];omega)];exact heap_alloc_new w a
 ·
  show (((w.alloc a).alloc b).alloc c).heap[w.heap.size+1]?=some b
  rw [Below.heap_alloc _ _ _ (by rw [e2];omega),<- e1];exact heap_alloc_new (w.alloc a) b
 ·
  show (((w.alloc a).alloc b).alloc c).heap[w.heap.size+2]?=some c
  rw [<- e2];exact heap_alloc_new ((w.alloc a).alloc b) c
theorem rightB_of {l:List (Int × Int)} (h:fitsB l=true) {k:Nat} {i:Int × Int} (hx:l[k]?=some i):rightB i=true:=by
 unfold fitsB at h;rw [Bool.and_eq_true,List.all_eq_true] at h;exact h.2 i (List.mem_of_getElem? hx)
theorem pF_of {l:List (Int × Int)} {k:Nat} {i:Int × Int} (hx:l[k]?=some i):pF l k=i:=by
 unfold pF;rw [List.getD_eq_getElem?_getD,hx];rfl
theorem check_any (A:Option Addr) (c B:Nat) (l:List (Int × Int)) (w:World) (hr:Reads w B 2 A l.length (cellsI l)) (hB:B<=w.heap.size) (hn:l.length<=maxLen) :
  Calls Tryz.prog 166 #[.slice A l.length c] w (ChkOut l w):=by
 have FT:=zh (fun (w':World) (hw:Fr w.heap.size [] w w')=>fits_any A c B l w' (hr.fr hw hB (by simp)) (Nat.le_trans hB hw.size) hn);have hm:=hn;unfold maxLen at hm;have HR:=zh hr;have FF:=zh (fun (h:fitsB l=true)=>(by unfold fitsB at h;rw [Bool.and_eq_true] at h;exact of_decide_eq_true h.1:l.length<=24));have CL:=zh (show chkL l=if fitsB l=true then checkF l.length (pF l) l.length else none from rfl);clear hr hn;have hfb:=(by cases fitsB l;exact .inr rfl;exact .inl rfl:fitsB l=true \/ fitsB l=false);have f0:=(Fr.refl w.heap.size [] w).alloc (Nat.le_refl _) (.cells (repC (.slice none 0 0) 0 0 false false) 283);have b0:=Blk.new w 283 (repC (.slice none 0 0) 0 0 false false);have hft:=FT.out _ f0
 rcases hfb with hfb | hfb
 case inr =>
  rw [hfb] at hft;have HCL:Hid (chkL l=none):=(by rw [CL.out,hfb];exact (rfl:(none:Option CS)=none));have HFT:=zh hft;clear hft hfb f0 b0;go_enter Tryz.func166,Tryz.ntmps166;go_wp2_with fail;refine HFT.out.mono ?_;rintro e w1 ⟨rfl,f1⟩;have B1:=zh ((Blk.new w 283 (repC (.slice none 0 0) 0 0 false false)).fr f1 (by simp) (by simp));have F1:=zh (((Fr.refl w.heap.size [] w).alloc (Nat.le_refl _) (.cells (repC (.slice none 0 0) 0 0 false false) 283)).trans (f1.mono (B':=w.heap.size) (L':=[]) (by simp) (by simp)));have c0:=B1.out.cell 0;have c1:=B1.out.cell 1;have c2:=B1.out.cell 2;have c3:=B1.out.cell 3;have c4:=B1.out.cell 4;have z0:=B1.out.frozen 0;have z1:=B1.out.frozen 1;have z2:=B1.out.frozen 2;have z3:=B1.out.frozen 3;have z4:=B1.out.frozen 4;simp at c0 c1 c2 c3 c4;clear f1;go_wp2_with fail;refine bodyPost_ret (results_cell_row_tmp rfl _ _ w.heap.size 283 (repC (.slice none 0 0) 0 0 false false) (0,0) _ rfl (blk_set5 B1.out _ _ _ _ _) Tryz.underlying283 rfl (by kernel_rfl)) rfl ⟨(fun s h=>by rw [HCL.out] at h;cases h),(fun _=>rfl),fr_set5 F1.out (.inl (Nat.le_refl _)) _ _ _ _ _⟩
 case inl =>
  rw [hfb] at hft;have hn24:=FF.out hfb;have HCL:Hid (chkL l=checkF l.length (pF l) l.length):=(by rw [CL.out,if_pos hfb];exact (rfl:checkF l.length (pF l) l.length=_));have HRB:=zh (fun k i (hx:l[k]?=some i)=>rightB_of hfb hx);have HFT:=zh hft;clear hft hfb f0 b0 FT FF CL;go_enter Tryz.func166,Tryz.ntmps166;go_wp2_with fail;refine HFT.out.mono ?_;rintro e w1 ⟨rfl,f1⟩;have B1:=zh ((Blk.new w 283 (repC (.slice none 0 0) 0 0 false false)).fr f1 (by simp) (by simp));have F1:=zh (((Fr.refl w.heap.size [] w).alloc (Nat.le_refl _) (.cells (repC (.slice none 0 0) 0 0 false false) 283)).trans (f1.mono (B':=w.heap.size) (L':=[]) (by simp) (by simp)));have hr0:w.heap.size < w1.heap.size:=B1.out.lt;obtain ⟨n,hnl⟩:=nm (l.length);have HN:=zh hnl;rw [<- hnl] at hn24 ⊢;have hmk:=fun W=>make_intsA n (by omega) W;clear f1 HFT hnl hm;go_upto_region 3 with fail;go_cut [4] (fun s4 wx=>∃ gw ge gm,s4=.pointer (some ⟨gw,0,none⟩)/\Hid (Blk wx gw 303 #[.slice none 0 0,.int .i64 0,.int .i64 0,.bool false,.bool false,.slice A n c,.slice (some ⟨ge,0,none⟩) n n,.map (some gm)])/\Hid (Blk wx ge 3 (intsA n fun _=>0))/\Hid (EffMap wx gm)/\Hid (Fr w1.heap.size [] w1 wx)/\w1.heap.size<=gw/\w1.heap.size<=ge/\ge ≠ gw)
  case first =>
   go_region_with (first | (go_at_call 184;refine (effects_any _).mono ?_;rintro e w' ⟨rfl,rfl⟩))
   all_goals
    go_wp2_with fail;go_meet
    first
     | exact ⟨_,w1.heap.size,w1.heap.size+1,rfl,(heap3 w1 _ _ _).2.2.1,(heap3 w1 _ _ _).1,(heap3 w1 _ _ _).2.1,(heap3 w1 _ _ _).2.2.2,by omega,by omega,by omega⟩
     | exact ⟨_,w1.heap.size+1,w1.heap.size,rfl,(heap3 w1 _ _ _).2.2.1,(heap3 w1 _ _ _).2.1,(heap3 w1 _ _ _).1,(heap3 w1 _ _ _).2.2.2,by omega,by omega,by omega⟩
  case rest =>
   obtain ⟨gw,ge,gm,rfl,BW,BE,EM,F2,hgw,hge,hne⟩:=hcut;have hw0:w.heap.size < gw:=(by omega);have hcs:w1.heap.size<=wc.heap.size:=F2.out.size;have B2:=zh (B1.out.fr F2.out B1.out.lt (by simp));have FW:=zh (F1.out.trans (F2.out.mono (B':=w.heap.size) (L':=[]) (by omega) (by simp)));clear B1 F1 F2 hmk;go_wp2_with fail;have hrp:=repeat_any (-1) n wc.heap.size hn24 (wc.alloc (.cells #[.int .i64 (-1)] 3)) (by simp) ((Blk.new wc 3 #[.int .i64 (-1)]).cell 0);have fa:=(Fr.refl wc.heap.size [] wc).alloc (Nat.le_refl _) (.cells #[.int .i64 (-1)] 3);have hgd0:(wc.alloc (.cells #[.int .i64 (-1)] 3)).heap.size=wc.heap.size+1:=(by simp);refine hrp.mono ?_;rintro e w3 ⟨rfl,bd,fd⟩;have f3:=zh (fa.trans (fd.mono (B':=wc.heap.size) (L':=[]) (by omega) (by simp)));generalize (wc.alloc (.cells #[.int .i64 (-1)] 3)).heap.size=gd at *;have hgd1:wc.heap.size < gd:=(by omega);clear hgd0;have hgwc:=BW.out.lt;have hgec:=BE.out.lt;have hgmc:=EM.out.lt;have BW3:=zh (BW.out.fr f3.out BW.out.lt (by simp));have BE3:=zh (BE.out.fr f3.out BE.out.lt (by simp));have EM3:=zh (EM.out.fr f3.out EM.out.lt (by simp));have B3:=zh (B2.out.fr f3.out B2.out.lt (by simp));have FW3:=zh (FW.out.trans (f3.out.mono (B':=w.heap.size) (L':=[]) (by omega) (by simp)));have BD3:=zh bd;have c0:=BW3.out.cell 0;have z0:=BW3.out.frozen 0;simp at c0;clear BW BE EM B2 FW fa fd bd hrp f3;go_upto_region 5 with fail
   have M4:Hid (WMem gw gd ge gm n A c freshS (w3.setCell ⟨gw,0,none⟩ (.slice (some ⟨gd,0,none⟩) n n))) :=
    ⟨BW3.out.set_ 0 _,BD3.out.far (p:=⟨gw,0,none⟩) (by show gd ≠ gw;omega) _,BE3.out.far (p:=⟨gw,0,none⟩) (by show ge ≠ gw;omega) _,EM3.out.far (p:=⟨gw,0,none⟩) (EM3.out.ne BW3.out) _,by omega,hne,by omega⟩
   have B4:=zh (B3.out.far (p:=⟨gw,0,none⟩) (by show w.heap.size ≠ gw;omega) (.slice (some ⟨gd,0,none⟩) n n));have FW4:=zh (FW3.out.setCell (p:=⟨gw,0,none⟩) (.inl (by show w.heap.size<=gw;omega)) (.slice (some ⟨gd,0,none⟩) n n));have hgw3:=BW3.out.lt;have hgd3:=BD3.out.lt;have hge3:=BE3.out.lt;have hs4:(w3.setCell ⟨gw,0,none⟩ (.slice (some ⟨gd,0,none⟩) n n)).heap.size=w3.heap.size:=(by simp [World.setCell]);generalize w3.setCell ⟨gw,0,none⟩ (.slice (some ⟨gd,0,none⟩) n n)=w4 at *;clear BW3 BD3 BE3 EM3 B3 FW3 c0 z0 hgwc hgec hgmc;go_wp2_with fail;have hce:=come_any gw gd ge gm n A c freshS 0 0 0 w4 hn24 (Nat.zero_le _) M4.out;rw [come_start,show ((0:Nat):Int)=0 from rfl] at hce;refine hce.mono ?_;rintro e w5 ⟨rfl,hms,f5⟩;have M5:=zh (hms _ rfl);have B5:=zh (B4.out.fr f5 B4.out.lt (by simp;omega));have FW5:=zh (FW4.out.trans (f5.mono (B':=w.heap.size) (L':=[]) FW4.out.size (by simp;omega)));clear hms f5 hce M4 B4 FW4 hs4;have hgd0w:w.heap.size < gd:=(by omega);have hge0:w.heap.size < ge:=(by omega);clear hgw3 hgd3 hge3 hgd1 hcs hgw;go_wp2_with fail;go_loopw [29] (fun i wr=>∃ (k:Nat) (sk:CS),k<=n/\i=.int .i64 k/\Hid (checkF n (pF l) k=some sk)/\Hid (WMem gw gd ge gm n A c sk wr)/\Hid (Blk wr w.heap.size 283 (repC (.slice none 0 0) 0 0 false false))/\Hid (Fr w.heap.size [] w wr)) (fun i _=>n - (intOf i).toNat)
   case atStart=>exact ⟨0,startF n,Nat.zero_le _,rfl,rfl,M5,B5,FW5⟩
   case round =>
    clear M5 B5 FW5;obtain ⟨k,sk,hk,rfl,HK,MR,BR,FR⟩:=hrel
    by_cases hlt:k < n
    ·
     have hki:(k:Int) < (n:Int):=by omega
     obtain ⟨i,hx⟩:∃ i,l[k]?=some i:=⟨_,List.getElem?_eq_getElem (by rw [<- HN.out];exact hlt)⟩;have I:=checkF_inv hk HK.out;have x0:=MR.out.blk.cell 0;have xd:=(MR.out.dep.cell k).trans (intsA_get _ hlt);simp at x0
     have HNX := zh (show checkF n (pF l) (k + 1) = if sk.D k = -1 then some sk else stepF n (pF l) sk k by
      show (match checkF n (pF l) k with | none=>none | some s=>if s.D k = -1 then some s else stepF n (pF l) s k)=_
      rw [HK.out])
     by_cases hd:sk.D k = -1
     ·
      rw [hd] at xd;rw [if_pos hd] at HNX;clear I hx hd;go_wp2_with fail;go_roundw
      case rel=>exact ⟨k+1,sk,by omega,by go_num,HNX,MR,BR,FR⟩
      case measure=>simp [intOf];omega
     ·
      rw [if_neg hd] at HNX;have hb1:(sk.D k != -1)=true:=(by simpa using hd);have hre:=HR.out.fr FR.out hB (by simp);have hst:=step_any gw gd ge gm A c B l sk k i wr hre ⟨by omega,by omega,by omega⟩ (by rw [<- HN.out];exact hn24) hx (HRB.out k i hx) (by rw [<- HN.out];exact I) (pF l) (pF_of hx) (by rw [<- HN.out];exact MR.out);rw [<- HN.out] at hst
      rcases (show stepF n (pF l) sk k=none \/ ∃ s',stepF n (pF l) sk k=some s' by cases stepF n (pF l) sk k;exact .inl rfl;exact .inr ⟨_,rfl⟩) with hq | ⟨s',hq⟩
      ·
       rw [hq] at hst HNX;have HST:=zh hst
       have hcn:chkL l=none:=by
        have h:=checkF_none HNX.out (n - (k+1));rw [show k+1+(n - (k+1))=n by omega] at h;rw [HCL.out,<- HN.out];exact h
       have HCN:=zh hcn;clear hq hst hcn hre hx I;go_wp2_with fail;refine HST.out.mono ?_;rintro e w6 ⟨rfl,hms,f6⟩;have B6:=zh (BR.out.fr f6 BR.out.lt (by simp;omega));have F6:=zh (FR.out.trans (f6.mono (B':=w.heap.size) (L':=[]) FR.out.size (by simp;omega)));have c0:=B6.out.cell 0;have c1:=B6.out.cell 1;have c2:=B6.out.cell 2;have c3:=B6.out.cell 3;have c4:=B6.out.cell 4;have z0:=B6.out.frozen 0;have z1:=B6.out.frozen 1;have z2:=B6.out.frozen 2;have z3:=B6.out.frozen 3;have z4:=B6.out.frozen 4;simp at c0 c1 c2 c3 c4;clear f6 hms HST;go_wp2_with fail;refine bodyPost_ret (results_cell_row_tmp rfl _ _ w.heap.size 283 (repC (.slice none 0 0) 0 0 false false) (0,0) _ rfl (blk_set5 B6.out _ _ _ _ _) Tryz.underlying283 rfl (by kernel_rfl)) rfl ⟨(fun s h=>by rw [HCN.out] at h;cases h),(fun _=>rfl),fr_set5 F6.out (.inl (Nat.le_refl _)) _ _ _ _ _⟩
      ·
       rw [hq] at hst HNX;have HST:=zh hst;clear hq hst hre hx I;go_wp2_with fail;refine HST.out.mono ?_;rintro e w6 ⟨rfl,hms,f6⟩;have B6:=zh (BR.out.fr f6 BR.out.lt (by simp;omega));have F6:=zh (FR.out.trans (f6.mono (B':=w.heap.size) (L':=[]) FR.out.size (by simp;omega)));have M6:=zh (hms s' rfl);clear f6 hms HST;go_wp2_with fail;go_roundw
       case rel=>exact ⟨k+1,s',by omega,by go_num,HNX,M6,B6,F6⟩
       case measure=>simp [intOf];omega
    ·
     obtain rfl:n=k:=by omega
     have hcs:chkL l=some sk:=(by rw [HCL.out,<- HN.out];exact HK.out);have HCS:=zh hcs;have c0:=BR.out.cell 0;have c1:=BR.out.cell 1;have c2:=BR.out.cell 2;have c3:=BR.out.cell 3;have c4:=BR.out.cell 4;have z0:=BR.out.frozen 0;have z1:=BR.out.frozen 1;have z2:=BR.out.frozen 2;have z3:=BR.out.frozen 3;have z4:=BR.out.frozen 4;have v0:=MR.out.blk.cell 0;have v1:=MR.out.blk.cell 1;have v2:=MR.out.blk.cell 2;have v3:=MR.out.blk.cell 3;have v4:=MR.out.blk.cell 4;simp at c0 c1 c2 c3 c4 v0 v1 v2 v3 v4;clear hcs;go_wp2_with fail;refine bodyPost_ret (results_cell_row_tmp rfl _ _ w.heap.size 283 (repC (.slice (some ⟨gd,0,none⟩) n n) sk.mx sk.em sk.u0 sk.u1) (0,0) _ rfl (blk_set5 BR.out _ _ _ _ _) Tryz.underlying283 rfl (by kernel_rfl)) rfl ⟨(fun s h => ?_),(fun h=>by rw [HCS.out] at h;cases h),fr_set5 FR.out (.inl (Nat.le_refl _)) _ _ _ _ _⟩;rw [HCS.out] at h;injection h with h
     subst h;refine ⟨gd,by rw [HN.out];rfl,Nat.le_of_lt hgd0w,?_⟩;rw [<- HN.out];have hg:∀ j,gd ≠ (⟨w.heap.size,j,none⟩:Addr).block:=fun j=>by show gd ≠ w.heap.size;omega
     exact ((((MR.out.dep.far (hg 0) _).far (hg 1) _).far (hg 2) _).far (hg 3) _).far (hg 4) _
abbrev repV (gd n:Nat) (s:CS):Array Value:=#[.slice (some ⟨gd,0,none⟩) n n,.int .i64 s.mx,.int .i64 s.em,.bool s.u0,.bool s.u1]
def ChkYes (n:Nat) (s:CS) (w:World) (e:Ending) (w':World):Prop :=
 ∃ gd,e=.returned (.tuple #[.agg (repV gd n s),.int .i64 0])/\w.heap.size<=gd/\Blk w' gd 3 (intsA n s.D)/\Fr w.heap.size [] w w'
theorem check_yes {A:Option Addr} {c B:Nat} {l:List (Int × Int)} {s:CS} {w:World} (hr:Reads w B 2 A l.length (cellsI l)) (hB:B<=w.heap.size) (hn:l.length<=maxLen) (h:chkL l=some s) :
  Calls Tryz.prog 166 #[.slice A l.length c] w (ChkYes l.length s w) :=
 (check_any A c B l w hr hB hn).mono fun e w' ⟨h1,_,h3⟩=>by
  obtain ⟨gd,a,b,d⟩:=h1 s h;exact ⟨gd,a,b,d,h3⟩
theorem check_no {A:Option Addr} {c B:Nat} {l:List (Int × Int)} {w:World} (hr:Reads w B 2 A l.length (cellsI l)) (hB:B<=w.heap.size) (hn:l.length<=maxLen) (h:chkL l=none) :
  Calls Tryz.prog 166 #[.slice A l.length c] w fun e w'=>e=.returned (.tuple #[.agg #[.slice none 0 0,.int .i64 0,.int .i64 0,.bool false,.bool false],.int .i64 9])/\Fr w.heap.size [] w w' :=
 (check_any A c B l w hr hB hn).mono fun _ _ ⟨_,h2,h3⟩=>⟨h2 h,h3⟩
theorem safe_yes {A:Option Addr} {c B:Nat} {l:List (Int × Int)} {s:CS} {w:World} (hr:Reads w B 2 A l.length (cellsI l)) (hB:B<=w.heap.size) (hn:l.length<=maxLen) (h:chkL l=some s) :
  Calls Tryz.prog 143 #[.slice A l.length c] w fun e w'=>e=.returned (.bool true)/\Fr w.heap.size [] w w':=by
 have H:=zh (check_yes (c:=c) hr hB hn h);clear hr hB hn h;generalize l.length=n at *;go_enter Tryz.func143,Tryz.ntmps143;go_wp2_with fail;refine H.out.mono ?_;rintro e w1 ⟨gd,rfl,_,_,f1⟩;have F1:=zh f1;clear f1;go_wp2_with fail;go_ret;exact ⟨rfl,F1.out.alloc F1.out.size _⟩
theorem safe_no {A:Option Addr} {c B:Nat} {l:List (Int × Int)} {w:World} (hr:Reads w B 2 A l.length (cellsI l)) (hB:B<=w.heap.size) (hn:l.length<=maxLen) (h:chkL l=none) :
  Calls Tryz.prog 143 #[.slice A l.length c] w fun e w'=>e=.returned (.bool false)/\Fr w.heap.size [] w w':=by
 have H:=zh (check_no (c:=c) hr hB hn h);clear hr hB hn h;generalize l.length=n at *;go_enter Tryz.func143,Tryz.ntmps143;go_wp2_with fail;refine H.out.mono ?_;rintro e w1 ⟨rfl,f1⟩;have F1:=zh f1;clear f1;go_wp2_with fail;go_ret;exact ⟨rfl,F1.out.alloc F1.out.size _⟩
abbrev nodeV (id par:Int) (u1 u2 u3:Value) (r:Nat->Int):Value:=.agg #[.int .i64 id,u1,u2,u3,.int .i64 par,.int .i64 (r 0),.int .i64 (r 1),.int .i64 (r 2),.int .i64 (r 3),.int .i64 (r 4),.int .i64 (r 5),.int .i64 (r 6),.int .i64 (r 7)]
theorem right8_at {p:Int} {r:Nat->Int} {k:Nat} (h:right8 p r=true) (hk:k < 8):0<=r k/\r k < p:=by
 have h2:=((Bool.and_eq_true _ _).mp h).2;unfold inTo at h2;exact of_decide_eq_true (List.all_eq_true.1 h2 k (List.mem_range.2 hk))
theorem parts_yes (id:Int) (par:Nat) (u1 u2 u3:Value) (r:Nat->Int) (l:List (Nat->Int)) (A:Option Addr) (c:Nat) (w:World) (hright:right8 par r=true) (hl:l.length<=100) (hr:Reads w w.heap.size 6 A l.length (cellsE l)) :
  Calls Tryz.prog 58 #[nodeV id par u1 u2 u3 r,.slice A l.length c] w fun e w'=>∃ gr R,e=.returned (.slice (some ⟨gr,0,none⟩) par par)/\PInv w gr par (fun t=>partC id r t l) R w':=by
 have hp:1<=par/\par<=3:=by
  have:=(Bool.and_eq_true _ _).mp hright;have:=of_decide_eq_true this.1;omega
 obtain ⟨hp1,hp3⟩:=hp;have H:=zh hright;have HR:=zh hr;have HX:=zh (fun (k:Nat) (hk:k < l.length)=>(⟨l[k],List.getElem?_eq_getElem hk⟩:∃ x,l[k]?=some x));have HM:=fun W=>entrows par (by omega) W;have HG:=zh (fun k (hk:k < 8)=>right8_at hright hk);clear hr hright;obtain ⟨n,hn⟩:=nm (l.length);have HN:=zh hn;rw [<- hn] at hl ⊢;clear hn;go_enter Tryz.func58,Tryz.ntmps58;go_wp2_with fail;have B1:=zh (Blk.new w 66 #[.int .i64 id,u1,u2,u3,.int .i64 par,.int .i64 (r 0),.int .i64 (r 1),.int .i64 (r 2),.int .i64 (r 3),.int .i64 (r 4),.int .i64 (r 5),.int .i64 (r 6),.int .i64 (r 7)]);have F1:=zh ((Fr.refl w.heap.size [] w).alloc (Nat.le_refl _) (.cells #[.int .i64 id,u1,u2,u3,.int .i64 par,.int .i64 (r 0),.int .i64 (r 1),.int .i64 (r 2),.int .i64 (r 3),.int .i64 (r 4),.int .i64 (r 5),.int .i64 (r 6),.int .i64 (r 7)] 66));generalize w.alloc _=w1 at *;refine (right_any par r _).mono ?_;rintro e w2 ⟨rfl,f2⟩;rw [H.out];have B2:=zh (B1.out.fr f2 B1.out.lt (by simp));have F2:=zh (F1.out.trans (f2.mono F1.out.size (by simp)));have hpar:=B2.out.cell 4;simp at hpar;clear f2;go_wp2_with fail;have hrow:=Blk.new w2 70 (rowsA par fun _=>.slice none 0 0);have f3:=(Fr.refl w2.heap.size [] w2).alloc (Nat.le_refl _) (.cells (rowsA par fun _=>.slice none 0 0) 70);generalize w2.alloc _=w3 at *
 have INV0:Hid (PInv w2 w2.heap.size par (fun t=>partC id r t (l.take 0)) (fun _=>.slice none 0 0) w3) :=
  ⟨hrow,Nat.le_refl _,fun t _=>(World.ownsRow_nil _ _ _ _:w3.ownsRow _ _ _ _ 0 []),fun _ _=>by simp [Value.ownBlock],fun _ _ _ _ _ q hq=>by simp [Value.ownBlock] at hq,f3⟩
 have hgr:w2.heap.size < w3.heap.size:=hrow.lt;have hnb:w.heap.size < w2.heap.size:=B2.out.lt;have hx3:=fun k x (hx:l[k]?=some x)=>reads_ent (HR.out.fr F2.out (Nat.le_refl _) (by simp)) hx;have HX3:=zh hx3;clear hx3 hrow f3 hpar;generalize hgre:w2.heap.size=gr at *;go_loopw [7,20] (fun s7 i wr=>∃ (k:Nat) (R:Nat->Value),k<=n/\i=.int .i64 k/\(s7=undef \/ ∃ a,s7=.pointer a)/\Hid (PInv w2 gr par (fun t=>partC id r t (l.take k)) R wr)) (fun _ i _=>n - (intOf i).toNat)
 case atStart=>exact ⟨0,_,by omega,rfl,.inl rfl,INV0⟩
 case round =>
  obtain ⟨k,R,hk,rfl,hs7,INV⟩:=hrel
  by_cases hkn:k < n
  ·
   obtain ⟨x,hx⟩:=HX.out k (by rw [<- HN.out];exact hkn);obtain ⟨b1,o1,rfl,hb1,hc1⟩:=HX3.out k x hx;have fw:=INV.out.fr;have hlt:=fw.size;have hq:=fun j hj=>(fw.cell (p:=⟨b1,o1+(k * 6+j),none⟩) (by show b1 < _;omega) (by simp)).trans (hc1 j hj);have p0:=hq 0 (by omega);have p1:=hq 1 (by omega);have p2:=hq 2 (by omega);have p3:=hq 3 (by omega);have p4:=hq 4 (by omega);have p5:=hq 5 (by omega);simp only [Nat.add_zero,<- Nat.add_assoc] at p0 p1 p2 p3 p4 p5;have hki:(k:Int) < (n:Int):=(by omega);have hid0:=(B2.out.fr fw (by omega) (by simp)).cell 0;have BN:=zh (B2.out.fr fw (by omega) (by simp));simp at hid0;clear hc1 hq fw;go_upto_region 7 with fail;obtain ⟨wa,hwa⟩:=nm (wr.alloc (.cells #[.int .i64 (x 0),.int .i64 (x 1),.int .i64 (x 2),.int .i64 (x 3),.int .i64 (x 4),.int .i64 (x 5)] 96));have hba:Blk wa wr.heap.size 96 #[.int .i64 (x 0),.int .i64 (x 1),.int .i64 (x 2),.int .i64 (x 3),.int .i64 (x 4),.int .i64 (x 5)]:=(by rw [hwa];exact Blk.new _ _ _);have hfa:Fr wr.heap.size [] wr wa:=(by rw [hwa];exact (Fr.refl _ _ _).alloc (Nat.le_refl _) _);rw [<- hwa];have INVA:Hid (PInv w2 gr par (fun t=>partC id r t (l.take k)) R wa):=INV.out.keep hfa;have BA:=zh (BN.out.fr hfa BN.out.lt (by simp));have hgx:gr < wr.heap.size:=INV.out.blk.lt;have hra:=fun t (ht:t < par)=>(INV.out.own t ht);have HRA:=zh hra;clear hwa hfa p0 p1 p2 p3 p4 p5 hid0 hra;obtain ⟨gx,hgxe⟩:=nm (wr.heap.size);rw [<- hgxe] at hba hgx ⊢;have q0:=hba.cell 0;have q1:=hba.cell 1;have hid1:=BA.out.cell 0;have w4:=BA.out.cell 5;have w5:=BA.out.cell 6;have w6:=BA.out.cell 7;have w7:=BA.out.cell 8;have w8:=BA.out.cell 9;have w9:=BA.out.cell 10;have w10:=BA.out.cell 11;have w11:=BA.out.cell 12;simp at hid1 q0 q1 w4 w5 w6 w7 w8 w9 w10 w11;have HBA:=zh hba;have HGX:=zh hgxe;clear hba hgxe;have HS:=zh (fun t=>partC_step (id:=id) (r:=r) (t:=t) hx)
   by_cases h0:x 0=id
   ·
    subst h0;go_wp2_with fail;refine (task_any r (x 1) _).mono ?_;rintro e w5 ⟨rfl,f5⟩;obtain ⟨d,hd⟩:=nm ((x 1 % 8).toNat);rw [<- hd];have hd8:d < 8:=(by omega);obtain ⟨h0r,h1r⟩:=HG.out d hd8;obtain ⟨t,ht⟩:=Int.eq_ofNat_of_zero_le h0r;have htp:t < par:=(by omega);rw [ht];have HT:=zh ht;have HD:=zh hd;have BX:=zh (HBA.out.fr f5 HBA.out.lt (by simp));have INVW:Hid (PInv w2 gr par (fun t=>partC (x 0) r t (l.take k)) R w5):=INVA.out.keep f5;have hgx5:gx < w5.heap.size:=BX.out.lt;have hgr5:gr < w5.heap.size:=INVW.out.blk.lt;clear hd ht f5 q0 q1 hid1 h0r h1r hd8;have ho:=INVW.out.own t htp;obtain ⟨A1,c1,hRt,_,_,_⟩:=ownsRow_shape ho;have hcr:=INVW.out.blk.cell t;rw [rowsA_get R htp,hRt] at hcr;have hfz:=INVW.out.blk.frozen t;have hoff:=INVW.out.off t htp
    have hoffx:(R t).ownBlock ≠ some gx:=fun hq=>by
     have:=(HRA.out t htp).lt gx hq;have:=HGX.out;omega
    rw [hRt] at ho hoff hoffx;have hmn:(partC (x 0) r t (l.take k)).length<=k:=Nat.le_trans (partC_le _ _ _ _) (by simp;omega);obtain ⟨m,hm⟩:=nm ((partC (x 0) r t (l.take k)).length);rw [<- hm] at ho hmn hcr hRt hoff hoffx;have HRT:=zh hRt;have HCV:=zh ((rowsA_get R htp).trans (congrArg some hRt));have HMM:=zh hm;clear hRt hm;have c0:=BX.out.cell 0;have c1':=BX.out.cell 1;have c2:=BX.out.cell 2;have c3:=BX.out.cell 3;have c4:=BX.out.cell 4;have c5:=BX.out.cell 5;simp at c0 c1' c2 c3 c4 c5;have hti:(t:Int) < (par:Int):=(by omega);have ht0:(0:Int)<=(t:Int):=(by omega);obtain ⟨i0,hi0,hz0,hz1,hz2⟩:=info_parts (show (Tryz.prog.info? 96).map (fun i=>(i.zero,i.size,i.bytes))=some (some (.agg #[.int .i64 0,.int .i64 0,.int .i64 0,.int .i64 0,.int .i64 0,.int .i64 0]),6,48) by kernel_rfl);go_wp2_with fail
    go_region_law
     ((refine step_append_lies _ (by rfl) _ _ _ (by rfl) w2.heap.size 96 i0 _ 6 48 Tryz.underlying70 hi0 hz0 hz1 hz2 rfl (by omega) (.slice A1 m c1) m _ (by rfl) ((ho.alloc _).drew)
         ⟨w5.heap.size,0,none⟩ 1 1 (entC x) (by rfl) (by rfl) (World.news_of_block (cs:=(entC x).toArray) (t:=96) (fr:=(0,0)) (heap_alloc_new w5 _)) (by simp [entC,Value.oneCell'])
         (by omega) (by unfold maxLen;omega) (by omega) (by simp;omega) (w5.heap.size+1) (by simp) ?_;intro gg cap w6 hown1 hgrow hat hlt6;have hfz6:w6.frozen? ⟨gr,t,none⟩=false:=(hgrow.frozen_far ⟨gr,t,none⟩ (by simp;omega) (Ne.symm hoff)).trans ((INVW.out.blk.alloc _).frozen t);have hcr6:w6.cell? ⟨gr,t,none⟩=some (.slice A1 m c1):=(hgrow.cell_far ⟨gr,t,none⟩ (by simp;omega) (Ne.symm hoff)).trans (((INVW.out.blk.alloc _).cell t).trans HCV.out)))
    all_goals
     go_wp2_with fail;go_roundw
     case rel =>
      have hmm:=HMM.out;subst hmm
      have hG := (INVW.out.keep (Fr.drew (Fr.refl _ _ _))).grow (x := x) (g := gg) (c := cap) (w' := w6) htp hown1 (by rw [HRT.out]; exact (World.grownBy_alloc w5.drew _ _).trans hgrow) (by
       rw [HRT.out]
       rcases hat with hat | hat
       · exact .inl hat
       · exact .inr (by show w5.heap.size<=gg;omega)) hlt6
      refine ⟨k+1,_,by omega,by go_num,.inr ⟨_,rfl⟩,hG.congr fun u _ => ?_⟩;rw [HS.out u]
      have hi:inPart (x 0) r u x=decide (u=t):=by
       rw [Bool.eq_iff_iff];simp [inPart,<- HD.out,HT.out];omega
      rw [hi]
      by_cases e:u=t <;> simp [e]
     case measure=>simp [intOf];omega
   ·
    go_wp2_with fail;go_roundw
    case rel =>
     refine ⟨k+1,R,by omega,by go_num,.inr ⟨_,rfl⟩,?_⟩;refine INVA.out.congr fun t _ => ?_;rw [HS.out t];simp [inPart,h0]
    case measure=>simp [intOf];omega
  ·
   obtain rfl:k=n:=by omega
   have INV':=INV;clear INV;go_wp2_with fail;go_ret;have hlk:l.take k=l:=(by rw [HN.out];exact List.take_length);refine ⟨gr,R,rfl,?_⟩;have h:=INV'.out;rw [hlk] at h;exact ⟨h.blk,by omega,fun t ht=>ownsRow_base (h.own t ht) (by omega),h.off,h.dis,F2.out.trans (h.fr.mono F2.out.size (by simp))⟩
theorem rright_any (i:Int × Int) (w:World):Calls Tryz.prog 117 #[.agg #[.int .i64 i.1,.int .i64 i.2]] w fun e w'=>e=.returned (.bool (rightB i))/\Fr w.heap.size [] w w':=by
 obtain ⟨o,a⟩:=i;obtain ⟨v,hv⟩:=nm (rightB (o,a));rw [<- hv];unfold rightB boF boT at hv;simp only at hv ⊢
 by_cases c1:o < 0
 ·
  obtain rfl:v=false:=by rw [hv];exact decide_eq_false (by omega)
  clear hv;go_enter Tryz.func117,Tryz.ntmps117;go_wp2_with fail;go_ret;exact ⟨rfl,(Fr.refl _ _ _).alloc (Nat.le_refl _) _⟩
 by_cases c2:17 < o
 ·
  obtain rfl:v=false:=by rw [hv];exact decide_eq_false (by omega)
  clear hv;go_enter Tryz.func117,Tryz.ntmps117;go_wp2_with fail;go_ret;exact ⟨rfl,(Fr.refl _ _ _).alloc (Nat.le_refl _) _⟩
 by_cases h12:o=1 \/ o=2
 ·
  rw [if_pos h12,if_pos h12] at hv
  by_cases a1:a < -524288
  ·
   obtain rfl:v=false:=by rw [hv];exact decide_eq_false (by omega)
   have hd:decide (-524288<=a)=false:=decide_eq_false (by omega);clear hv
   rcases h12 with rfl | rfl
   all_goals
    go_enter Tryz.func117,Tryz.ntmps117;go_wp2_with fail;go_ret;exact ⟨rfl,(Fr.refl _ _ _).alloc (Nat.le_refl _) _⟩
  by_cases a2:524287 < a
  ·
   obtain rfl:v=false:=by rw [hv];exact decide_eq_false (by omega)
   have hd:decide (a<=524287)=false:=decide_eq_false (by omega);clear hv
   rcases h12 with rfl | rfl
   all_goals
    go_enter Tryz.func117,Tryz.ntmps117;go_wp2_with fail;go_ret;exact ⟨rfl,(Fr.refl _ _ _).alloc (Nat.le_refl _) _⟩
  ·
   obtain rfl:v=true:=by rw [hv];exact decide_eq_true (by omega)
   have hd:decide (a<=524287)=true:=decide_eq_true (by omega);have hd2:decide (-524288<=a)=true:=decide_eq_true (by omega);clear hv
   rcases h12 with rfl | rfl
   all_goals
    go_enter Tryz.func117,Tryz.ntmps117;go_wp2_with fail;go_ret;exact ⟨rfl,(Fr.refl _ _ _).alloc (Nat.le_refl _) _⟩
 rw [if_neg h12,if_neg h12] at hv
 by_cases h45:o=4 \/ o=5
 ·
  rw [if_pos h45,if_pos h45] at hv
  by_cases a0:a=0
  ·
   obtain rfl:v=true:=by rw [hv];exact decide_eq_true (by omega)
   subst a0;clear hv
   rcases h45 with rfl | rfl
   all_goals
    go_enter Tryz.func117,Tryz.ntmps117;go_wp2_with fail;go_ret;exact ⟨rfl,(Fr.refl _ _ _).alloc (Nat.le_refl _) _⟩
  by_cases a1:a=1
  ·
   obtain rfl:v=true:=by rw [hv];exact decide_eq_true (by omega)
   subst a1;clear hv
   rcases h45 with rfl | rfl
   all_goals
    go_enter Tryz.func117,Tryz.ntmps117;go_wp2_with fail;go_ret;exact ⟨rfl,(Fr.refl _ _ _).alloc (Nat.le_refl _) _⟩
  ·
   obtain rfl:v=false:=by rw [hv];exact decide_eq_false (by omega)
   have e0:(a == 0)=false:=(by simpa using a0);have e1:(a == 1)=false:=(by simpa using a1);clear hv
   rcases h45 with rfl | rfl
   all_goals
    go_enter Tryz.func117,Tryz.ntmps117;go_wp2_with fail;go_ret;exact ⟨rfl,(Fr.refl _ _ _).alloc (Nat.le_refl _) _⟩
 rw [if_neg h45,if_neg h45] at hv
 by_cases hj:o=15 \/ o=16
 ·
  rw [if_pos hj,if_pos hj] at hv
  by_cases a1:a < 1
  ·
   obtain rfl:v=false:=by rw [hv];exact decide_eq_false (by omega)
   have hd:decide (1<=a)=false:=decide_eq_false (by omega);clear hv
   rcases hj with rfl | rfl
   all_goals
    go_enter Tryz.func117,Tryz.ntmps117;go_wp2_with fail;go_ret;exact ⟨rfl,(Fr.refl _ _ _).alloc (Nat.le_refl _) _⟩
  by_cases a2:24 < a
  ·
   obtain rfl:v=false:=by rw [hv];exact decide_eq_false (by omega)
   have hd:decide (a<=24)=false:=decide_eq_false (by omega);clear hv
   rcases hj with rfl | rfl
   all_goals
    go_enter Tryz.func117,Tryz.ntmps117;go_wp2_with fail;go_ret;exact ⟨rfl,(Fr.refl _ _ _).alloc (Nat.le_refl _) _⟩
  ·
   obtain rfl:v=true:=by rw [hv];exact decide_eq_true (by omega)
   have hd:decide (a<=24)=true:=decide_eq_true (by omega);have hd2:decide (1<=a)=true:=decide_eq_true (by omega);clear hv
   rcases hj with rfl | rfl
   all_goals
    go_enter Tryz.func117,Tryz.ntmps117;go_wp2_with fail;go_ret;exact ⟨rfl,(Fr.refl _ _ _).alloc (Nat.le_refl _) _⟩
 ·
  rw [if_neg hj,if_neg hj] at hv;have n1:(o == 1)=false:=(by simp;omega);have n2:(o == 2)=false:=(by simp;omega);have n4:(o == 4)=false:=(by simp;omega);have n5:(o == 5)=false:=(by simp;omega);have n15:(o == 15)=false:=(by simp;omega);have n16:(o == 16)=false:=(by simp;omega);obtain rfl:v=(a == 0):=by rw [hv,Bool.eq_iff_iff];simp;omega
  clear hv h12 h45 hj;go_enter Tryz.func117,Tryz.ntmps117;go_wp2_with fail;go_ret;exact ⟨rfl,(Fr.refl _ _ _).alloc (Nat.le_refl _) _⟩
theorem rfits_any (A:Option Addr) (c B:Nat) (l:List (Int × Int)) (w:World) (hr:Reads w B 2 A l.length (cellsI l)) (hB:B<=w.heap.size) (hn:l.length<=maxLen) :
  Calls Tryz.prog 82 #[.slice A l.length c] w fun e w'=>e=.returned (.bool (fitsB l))/\Fr w.heap.size [] w w':=by
 unfold maxLen at hn;have HR:=zh hr;obtain ⟨n,hnl⟩:=nm (l.length);have HV:=zh (show fitsB l=(decide (n<=24) && l.all rightB) by rw [hnl];rfl);rw [<- hnl] at hn ⊢;have HN:=zh hnl;clear hr hnl;go_enter Tryz.func82,Tryz.ntmps82;go_wp2_with fail;go_loopw [3] (fun i wr=>∃ k:Nat,k<=n/\i=.int .i64 k/\Hid ((l.take k).all rightB=true)/\Hid (Fr w.heap.size [] w wr)) (fun i _=>n - (intOf i).toNat)
 case atStart=>exact ⟨0,Nat.zero_le _,rfl,rfl,Fr.refl _ _ _⟩
 case round =>
  obtain ⟨k,hk,rfl,HA,HF⟩:=hrel
  by_cases hlt:k < n
  ·
   obtain ⟨x,hx⟩:∃ x,l[k]?=some x:=⟨_,List.getElem?_eq_getElem (by rw [<- HN.out];exact hlt)⟩;obtain ⟨b,off,rfl,hb,c1,c2⟩:=reads_ins (HR.out.fr HF.out hB (by simp)) hx;have hki:(k:Int) < (n:Int):=(by omega);have HX:=zh hx;clear hx;go_wp2_with fail;refine (rright_any x _).mono ?_;rintro e w1 ⟨rfl,f1⟩;have F1:=zh (HF.out.nx f1);clear f1
   cases hrx:rightB x
   case false =>
    have HVV:=zh (all_bad HX.out hrx);clear hrx;go_wp2_with fail;go_ret;exact ⟨by rw [HV.out,HVV.out];simp,F1.out⟩
   case true =>
    have HVV:=zh hrx;clear hrx;go_wp2_with fail;go_roundw
    case rel=>exact ⟨k+1,by omega,by go_num,(by show _=_;rw [all_take_succ HX.out,HA.out,HVV.out];rfl),F1.out⟩
    case measure=>simp [intOf];omega
  ·
   obtain rfl:n=k:=by omega
   have h:=HA.out;rw [List.take_of_length_le (by rw [HN.out];exact Nat.le_refl _)] at h;have HH:=zh h;clear h;go_wp2_with fail;go_ret;exact ⟨by rw [HV.out,HH.out,Bool.and_true];simp;omega,HF.out⟩
theorem rtake_any (o:Int) (ho:0<=o/\o<=17) (w:World):Calls Tryz.prog 83 #[.int .i64 o] w fun e w'=>e=.returned (.int .i64 (takesF o))/\w=w':=by
 have h:o=0 \/ o=1 \/ o=2 \/ o=3 \/ o=4 \/ o=5 \/ o=6 \/ o=7 \/ o=8 \/ o=9 \/ o=10 \/ o=11 \/ o=12 \/ o=13 \/ o=14 \/ o=15 \/ o=16 \/ o=17:=(by omega);clear ho
 rcases h with rfl | rfl | rfl | rfl | rfl | rfl | rfl | rfl | rfl | rfl | rfl | rfl | rfl | rfl | rfl | rfl | rfl | rfl
 all_goals
  go_enter Tryz.func83,Tryz.ntmps83;go_wp2_with fail;go_ret;exact ⟨by simp [takesF],rfl⟩
theorem leave_any (o:Int) (ho:0<=o/\o<=17) (w:World):Calls Tryz.prog 84 #[.int .i64 o] w fun e w'=>e=.returned (.int .i64 (leavesF o))/\w=w':=by
 have h:o=0 \/ o=1 \/ o=2 \/ o=3 \/ o=4 \/ o=5 \/ o=6 \/ o=7 \/ o=8 \/ o=9 \/ o=10 \/ o=11 \/ o=12 \/ o=13 \/ o=14 \/ o=15 \/ o=16 \/ o=17:=(by omega);clear ho
 rcases h with rfl | rfl | rfl | rfl | rfl | rfl | rfl | rfl | rfl | rfl | rfl | rfl | rfl | rfl | rfl | rfl | rfl | rfl
 all_goals
  go_enter Tryz.func84,Tryz.ntmps84;go_wp2_with fail;go_ret;exact ⟨by simp [leavesF],rfl⟩
abbrev triV (x:Tri):Value:=.agg #[.int .i64 x.at_,.int .i64 x.d,.int .i64 x.e]
theorem tri_beq (x y:Tri):((x.at_:Int) == (y.at_:Int) && x.d == y.d && x.e == y.e)=decide (x=y):=by
 obtain ⟨a,b,c⟩:=x;obtain ⟨a',b',c'⟩:=y;rw [Bool.eq_iff_iff];simp;omega
theorem tri_eq (x y:Tri) (w:World):(Op.equal 196 (triV x) (triV y)).run Tryz.prog w=.ok (decide (x=y)) w:=by
 have h:(Op.equalIn 10000 196 (triV x) (triV y)).run Tryz.prog w=.ok ((x.at_:Int) == (y.at_:Int) && x.d == y.d && x.e == y.e) w:=by
  rw [run_equalIn_struct w 9999 196 _ _ (by kernel_rfl) (by kernel_rfl)];simp only [Program.fieldsOf,Tryz.underlying196]
  by_cases h1:(x.at_:Int)=(y.at_:Int)
  ·
   by_cases h2:x.d=y.d
   · by_cases h3:x.e=y.e <;> simp [Op.eqFields,part,isAgg,run_underlying Tryz.underlying3,run_equalIn_int w 9998 3 .i64 .i64 _ _ Tryz.underlying3,h1,h2,h3]
   · simp [Op.eqFields,part,isAgg,run_underlying Tryz.underlying3,run_equalIn_int w 9998 3 .i64 .i64 _ _ Tryz.underlying3,h1,h2]
  ·
   have h2:((x.at_:Int) == (y.at_:Int))=false:=by rw [beq_eq_false_iff_ne];exact h1
   simp [Op.eqFields,part,isAgg,run_underlying Tryz.underlying3,run_equalIn_int w 9998 3 .i64 .i64 _ _ Tryz.underlying3];rw [if_neg h1,h2];rfl
 rw [tri_beq] at h;simp [Op.equal,Op.maxDepth,h]
theorem tri_check (b:Bool) (x:Tri) (w:World):(Instr.checkKey b 10000 196 (triV x)).run Tryz.prog w=.ok () w:=by
 have hi:∀ v:Int,(Instr.checkKey b 9999 3 (.int .i64 v)).run Tryz.prog w=.ok () w:=fun v=>MapKept.run_checkKey (k:=.int .i64 v) Tryz.underlying3 (by simp [MapKept.IsKey]) b 9998;rw [show (10000:Nat)=9999+1 from rfl];unfold Instr.checkKey;simp [run_underlying Tryz.underlying196,Result.andThen,part,isAgg,run_underlying Tryz.underlying3,hi]
def TriMap (w:World) (r:Nat) (l:List Tri):Prop :=
 ∃ es clock,w.heap[r]?=some (.map es clock)/\es.toList.map (fun e=>(e.key,e.val))=l.map (fun x=>(triV x,Value.bool true))
theorem tri_asking (x:Tri) (w:World):∀ (es:List MapEntry) (l:List Tri) (i:Nat),es.map (fun e=>(e.key,e.val))=l.map (fun y=>(triV y,Value.bool true)) ->
  if x ∈ l then ∃ j,(Instr.findAsking 196 (triV x) es i).run Tryz.prog w=.ok (some (j,.bool true)) w else (Instr.findAsking 196 (triV x) es i).run Tryz.prog w=.ok none w
 | [],[],i,_=>by simp [Instr.findAsking]
 | [],_ :: _,_,h=>by simp at h
 | _ :: _,[],_,h=>by simp at h
 | e :: es,y :: l,i,h=>by
  simp only [List.map_cons,List.cons.injEq,Prod.mk.injEq] at h;obtain ⟨⟨h1,h2⟩,h3⟩:=h;have ih:=tri_asking x w es l (i+1) h3;have he:=tri_eq x y w;rw [<- h1] at he
  by_cases hxy:x=y
  · rw [decide_eq_true hxy] at he;rw [if_pos (by simp [hxy])];exact ⟨i,by simp [Instr.findAsking,he,Result.andThen,h2]⟩
  · rw [decide_eq_false hxy] at he;have hm:(x ∈ y :: l)=(x ∈ l):=(by simp [hxy]);simp only [hm];simp only [Instr.findAsking,Sem.run_bind,he,Result.andThen_ok,Bool.false_eq_true,if_false];exact ih
theorem tri_find {w:World} {l:List Tri} (x:Tri) (es:Array MapEntry) (h:es.toList.map (fun e=>(e.key,e.val))=l.map (fun y=>(triV y,Value.bool true))) :
  if x ∈ l then ∃ j,(Instr.findKey 196 (triV x) es.toList).run Tryz.prog w=.ok (some (j,.bool true)) w else (Instr.findKey 196 (triV x) es.toList).run Tryz.prog w=.ok none w:=by
 have ha:=tri_asking x w es.toList l 0 h
 cases hl:es.toList with
 | nil =>
  rw [hl] at h;have:l=[]:=(by simpa using h.symm);subst this;simp [Instr.findKey,run_underlying Tryz.underlying196,Result.andThen,Instr.findNow]
 | cons e es' =>
  rw [hl] at ha h
  cases l with
  | nil=>simp at h
  | cons y l' =>
   have hk:e.key=triV y:=(by simp at h;exact h.1.1)
   have hn:Instr.findNow (Tryz.prog.underlying 196 |>.getD .bool) (triV x) (e :: es') 0=none:=by
    rw [Tryz.underlying196];simp [Instr.findNow,hk,Instr.sameNow]
   have hrun:(Instr.findKey 196 (triV x) (e :: es')).run Tryz.prog w=(Instr.findAsking 196 (triV x) (e :: es') 0).run Tryz.prog w:=by
    rw [Tryz.underlying196] at hn;simp only [Option.getD_some] at hn;simp [Instr.findKey,run_underlying Tryz.underlying196,Result.andThen,hn]
   rw [hrun];exact ha
theorem TriMap.look {w:World} {r:Nat} {l:List Tri} (h:TriMap w r l) (x:Tri):(Instr.lookup 194 (.map (some r)) (triV x) false).run Tryz.prog w=.ok (.bool (decide (x ∈ l))) w:=by
 obtain ⟨es,clock,hb,he⟩:=h;have hc:=fun b=>tri_check b x w;have hz:(zeroValue 4).run Tryz.prog w=.ok (.bool false) w:=(by kernel_rfl);have hf:=tri_find (w:=w) x es he
 by_cases hm:x ∈ l
 · rw [if_pos hm] at hf;obtain ⟨j,hf⟩:=hf;rw [decide_eq_true hm];simp [Instr.lookup,run_underlying Tryz.underlying194,MapKept.run_getObj_map hb,hc,hf,Result.andThen]
 · rw [if_neg hm] at hf;rw [decide_eq_false hm];simp [Instr.lookup,run_underlying Tryz.underlying194,MapKept.run_getObj_map hb,hc,hf,hz,Result.andThen]
theorem TriMap.lt {w:World} {r:Nat} {l:List Tri} (h:TriMap w r l):r < w.heap.size:=by
 obtain ⟨es,clock,hb,he⟩:=h
 rcases Nat.lt_or_ge r w.heap.size with h | h
 · exact h
 · rw [Array.getElem?_eq_none h] at hb;cases hb
theorem TriMap.store {w:World} {r:Nat} {l:List Tri} (h:TriMap w r l) {x:Tri} (hx:x ∉ l) :
  ∃ w',(Instr.mapUpdate 194 (.map (some r)) (triV x) (.bool true)).run Tryz.prog w=.ok () w'/\TriMap w' r (l ++ [x])/\Fr w.heap.size [r] w w':=by
 have hlt:=h.lt;obtain ⟨es,clock,hb,he⟩:=h;have hf:=tri_find (w:=w) x es he;rw [if_neg hx] at hf;refine ⟨{ w with heap:=w.heap.setIfInBounds r (.map (es.push { key:=triV x,val:=.bool true,born:=clock }) (clock+1)) },?_,⟨es.push { key:=triV x,val:=.bool true,born:=clock },clock+1,by simp [hlt],?_⟩,⟨rfl,rfl,rfl,by simp,fun k _ hk => ?_⟩⟩
 · simp [Instr.mapUpdate,run_underlying Tryz.underlying194,MapKept.run_getObj_map hb,tri_check,hf,MapKept.run_setObj_map _ hb,Result.andThen]
 · simp [he]
 · have:r ≠ k:=fun h=>hk (by simp [h]);simp [this]
theorem TriMap.fr {w w':World} {r B:Nat} {L:List Nat} {l:List Tri} (h:TriMap w r l) (hf:Fr B L w w') (h1:r < B) (h2:r ∉ L):TriMap w' r l:=by
 obtain ⟨es,clock,hb,he⟩:=h;exact ⟨es,clock,(hf.block r h1 h2).trans hb,he⟩
theorem ownsRow_put {w:World} {base e n g c size:Nat} {xs:List Value} (h:w.ownsRow base e size (.slice (some ⟨g,0,none⟩) n c) n xs) (k:Nat) (u:Value) :
  (w.setCell ⟨g,k,none⟩ u).ownsRow base e size (.slice (some ⟨g,0,none⟩) n c) n (xs.set k u):=by
 obtain ⟨hl,hc⟩:=h;refine ⟨by rw [List.length_set];exact hl,.inr ?_⟩
 rcases hc with ⟨hn,_⟩ | ⟨g',cap,cur,hv,hb,hg,h1,h2,h3,h4⟩
 · cases hn
 ·
  have hv':=hv;injection hv with hv1 hv2 hv3
  injection hv1 with hv1
  injection hv1 with hv1
  subst hv1;refine ⟨g,cap,cur.setIfInBounds k u,hv',hb,?_,h1,h2,by rw [Array.size_setIfInBounds];exact h3,?_⟩
  · simp [World.setCell,Array.getElem?_modify,hg]
  · rw [Array.toList_setIfInBounds,List.take_set,h4]
theorem own_frozen {w:World} {base e n g c size:Nat} {xs:List Value} (h:w.ownsRow base e size (.slice (some ⟨g,0,none⟩) n c) n xs) (k:Nat):w.frozen? ⟨g,k,none⟩=false:=by
 rcases h.2 with ⟨hn,_⟩ | ⟨g',cap,cur,hv,hb,hg,_⟩
 · cases hn
 ·
  injection hv with hv
  injection hv with hv
  injection hv with hv
  subst hv;simp [World.frozen?,hg]
def intsL (n:Nat) (D:Nat->Int):List Value:=(List.range n).map fun k=>Value.int .i64 (D k)
theorem intsL_get {n k:Nat} (D:Nat->Int) (h:k < n):(intsL n D)[k]?=some (.int .i64 (D k)):=by simp [intsL,h]
theorem intsL_set {n k:Nat} (D:Nat->Int) (u:Int):(intsL n D).set k (.int .i64 u)=intsL n (updC D k u):=by
 apply List.ext_getElem?;intro i;rw [List.getElem?_set]
 by_cases hi:i < n
 ·
  by_cases e:k=i
  · subst e;simp [intsL,updC,hi]
  · have e':¬ i=k:=fun h=>e h.symm;simp [intsL,updC,hi,e,e']
 ·
  by_cases e:k=i
  · subst e;simp [intsL,hi]
  · simp [intsL,hi,e]
theorem intsL_succ (n:Nat) (D:Nat->Int):intsL (n+1) D=intsL n D ++ [.int .i64 (D n)]:=by
 unfold intsL;rw [List.range_succ,List.map_append];rfl
def triC (x:Tri):List Value:=[.int .i64 x.at_,.int .i64 x.d,.int .i64 x.e]
def cellsT (l:List Tri):List Value:=l.flatMap triC
theorem cellsT_length (l:List Tri):(cellsT l).length=l.length * 3:=by
 unfold cellsT
 induction l with
 | nil=>rfl
 | cons x l ih=>rw [List.flatMap_cons,List.length_append,ih];simp [triC];omega
theorem cellsT_app (l m:List Tri):cellsT (l ++ m)=cellsT l ++ cellsT m:=by unfold cellsT;rw [List.flatMap_append]
theorem cellsT_last (td:List Tri) (x:Tri):(cellsT (td ++ [x]))[td.length * 3]?=some (.int .i64 x.at_)/\(cellsT (td ++ [x]))[td.length * 3+1]?=some (.int .i64 x.d)/\(cellsT (td ++ [x]))[td.length * 3+2]?=some (.int .i64 x.e):=by
 rw [cellsT_app];have e:cellsT [x]=triC x:=(by simp [cellsT]);rw [e,List.getElem?_append_right (by rw [cellsT_length];exact Nat.le_refl _),List.getElem?_append_right (by rw [cellsT_length];omega),List.getElem?_append_right (by rw [cellsT_length];omega),cellsT_length];rw [Nat.sub_self,show td.length * 3+1 - td.length * 3=1 by omega,show td.length * 3+2 - td.length * 3=2 by omega];exact ⟨rfl,rfl,rfl⟩
theorem triTy:SliceTy Tryz.prog 197 196 3 24:=SliceTy.mk' (z:=.agg #[.int .i64 0,.int .i64 0,.int .i64 0]) Tryz.underlying197 (by kernel_rfl) rfl (by omega)
theorem dintTy:SliceTy Tryz.prog 23 3 1 8:=SliceTy.mk' (z:=.int .i64 0) Tryz.underlying23 (by kernel_rfl) rfl (by omega)
abbrev knC (v:Value) (a b:Int) (x y z:Bool):Array Value:=#[v,.int .i64 a,.int .i64 b,.bool x,.bool y,.bool z]
def dset6 (w:World) (g:Nat) (v:Value) (a b:Int) (x y z:Bool):World :=
 (((((w.setCell ⟨g,0,none⟩ v).setCell ⟨g,1,none⟩ (.int .i64 a)).setCell ⟨g,2,none⟩ (.int .i64 b)).setCell ⟨g,3,none⟩ (.bool x)).setCell ⟨g,4,none⟩ (.bool y)).setCell ⟨g,5,none⟩ (.bool z)
theorem dblk_set6 {w:World} {g t:Nat} {v0:Value} {a0 b0:Int} {x0 y0 z0:Bool} (h:Blk w g t (knC v0 a0 b0 x0 y0 z0)) (v:Value) (a b:Int) (x y z:Bool):Blk (dset6 w g v a b x y z) g t (knC v a b x y z) :=
 (((((h.set_ 0 v).set_ 1 (.int .i64 a)).set_ 2 (.int .i64 b)).set_ 3 (.bool x)).set_ 4 (.bool y)).set_ 5 (.bool z)
theorem dfr_set6 {B g:Nat} {L:List Nat} {a0 w:World} (h:Fr B L a0 w) (hg:B<=g \/ g ∈ L) (v:Value) (a b:Int) (x y z:Bool):Fr B L a0 (dset6 w g v a b x y z) :=
 (((((h.setCell (p:=⟨g,0,none⟩) hg _).setCell (p:=⟨g,1,none⟩) hg _).setCell (p:=⟨g,2,none⟩) hg _).setCell (p:=⟨g,3,none⟩) hg _).setCell (p:=⟨g,4,none⟩) hg _).setCell (p:=⟨g,5,none⟩) hg _
structure TMem (w0:World) (k3 gm B n:Nat) (vD vT:Value) (W:WS) (w:World):Prop where
 res:Blk w w0.heap.size 140 (knC (.slice none 0 0) 0 0 false false false)
 blk:Blk w k3 140 (knC vD W.mx W.em W.u0 W.u1 true)
 map:TriMap w gm W.met
 dep:w.ownsRow B 3 1 vD n (intsL n W.D)
 todo:w.ownsRow B 196 3 vT W.todo.length (cellsT W.todo)
 dis:∀ q,vD.ownBlock=some q->vT.ownBlock ≠ some q
 fr:Fr w0.heap.size [] w0 w
 o1:w0.heap.size < k3
 o2:k3 < gm
 o3:gm < B
 sz:B<=w.heap.size
theorem TMem.keep {w0:World} {k3 gm B n:Nat} {vD vT:Value} {W:WS} {w w':World} (h:TMem w0 k3 gm B n vD vT W w) (hf:Fr w.heap.size [] w w'):TMem w0 k3 gm B n vD vT W w' :=
 ⟨h.res.fr hf h.res.lt (by simp),h.blk.fr hf h.blk.lt (by simp),h.map.fr hf h.map.lt (by simp),ownsRow_fr h.dep hf (fun q hq=>⟨(h.dep.lt q hq).2,by simp⟩),ownsRow_fr h.todo hf (fun q hq=>⟨(h.todo.lt q hq).2,by simp⟩),h.dis,h.fr.trans (hf.mono h.fr.size (by simp)),h.o1,h.o2,h.o3,Nat.le_trans h.sz hf.size⟩
theorem TMem.setK {w0:World} {k3 gm B n:Nat} {vD vT:Value} {W W':WS} {w:World} (h:TMem w0 k3 gm B n vD vT W w) (j:Nat) (u:Value) (hm:W'.met=W.met) (hD:W'.D=W.D) (ht:W'.todo=W.todo)
  (hc:(knC vD W.mx W.em W.u0 W.u1 true).setIfInBounds j u=knC vD W'.mx W'.em W'.u0 W'.u1 true):TMem w0 k3 gm B n vD vT W' (w.setCell ⟨k3,j,none⟩ u):=by
 have hb:=h.blk.set_ j u;rw [hc] at hb;refine ⟨h.res.far (p:=⟨k3,j,none⟩) (by have:=h.o1;show w0.heap.size ≠ k3;omega) u,hb,?_,?_,?_,h.dis,h.fr.setCell (p:=⟨k3,j,none⟩) (.inl (by have:=h.o1;show w0.heap.size<=k3;omega)) u,h.o1,h.o2,h.o3,by simpa [World.setCell] using h.sz⟩
 · rw [hm];exact h.map.fr ((Fr.refl w.heap.size [k3] w).setCell (p:=⟨k3,j,none⟩) (.inr (by simp)) u) h.map.lt (by have:=h.o2;simp;omega)
 · rw [hD];refine Go.Fb.ownsRow_setCell_other h.dep (p:=⟨k3,j,none⟩) (fun e => ?_) u;have:=(h.dep.lt _ e).1;have:=h.o2;have:=h.o3;simp at *;omega
 · rw [ht];refine Go.Fb.ownsRow_setCell_other h.todo (p:=⟨k3,j,none⟩) (fun e => ?_) u;have:=(h.todo.lt _ e).1;have:=h.o2;have:=h.o3;simp at *;omega
theorem TMem.setD {w0:World} {k3 gm B n c gd:Nat} {vT:Value} {W:WS} {w:World} (h:TMem w0 k3 gm B n (.slice (some ⟨gd,0,none⟩) n c) vT W w) (k:Nat) (d:Int) :
  TMem w0 k3 gm B n (.slice (some ⟨gd,0,none⟩) n c) vT { W with D:=updC W.D k d } (w.setCell ⟨gd,k,none⟩ (.int .i64 d)):=by
 have o1:=h.o1;have o2:=h.o2;have o3:=h.o3;have hgd:=(h.dep.lt gd rfl).1;refine ⟨h.res.far (p:=⟨gd,k,none⟩) (by show w0.heap.size ≠ gd;omega) _,h.blk.far (p:=⟨gd,k,none⟩) (by show k3 ≠ gd;omega) _,?_,?_,?_,h.dis,h.fr.setCell (p:=⟨gd,k,none⟩) (.inl (by show w0.heap.size<=gd;omega)) _,o1,o2,o3,by simpa [World.setCell] using h.sz⟩
 · exact h.map.fr ((Fr.refl w.heap.size [gd] w).setCell (p:=⟨gd,k,none⟩) (.inr (by simp)) _) h.map.lt (by simp;omega)
 · have:=ownsRow_put h.dep k (.int .i64 d);rw [intsL_set] at this;exact this
 · exact Go.Fb.ownsRow_setCell_other h.todo (p:=⟨gd,k,none⟩) (fun e=>h.dis gd rfl e) _
theorem TMem.growT {w0:World} {k3 gm B n:Nat} {vD vT v':Value} {W:WS} {w w2:World} {o:Obj} {x:Tri} (h:TMem w0 k3 gm B n vD vT W w) (hown:w2.ownsRow B 196 3 v' (W.todo.length+1) (cellsT W.todo ++ triC x))
  (hg:(w.alloc o).grownBy w2 vT.ownBlock) (hat:v'.ownBlock=vT.ownBlock \/ v'.ownBlock=some (w.heap.size+1)):TMem w0 k3 gm B n vD v' { W with todo:=W.todo ++ [x] } w2:=by
 have sz:=h.sz;have o1:=h.o1;have o2:=h.o2;have o3:=h.o3;have lt0:=h.res.lt;have lt1:=h.blk.lt;have lt2:=h.map.lt;have hT:∀ q,vT.ownBlock=some q->B<=q:=fun q hq=>(h.todo.lt q hq).1;have fa:Fr w.heap.size [] w (w.alloc o):=(Fr.refl _ _ _).alloc (Nat.le_refl _) _;have hr:=(h.res.fr fa lt0 (by simp)).grown hg (fun e=>by have:=hT _ e.symm;omega);have hb:=(h.blk.fr fa lt1 (by simp)).grown hg (fun e=>by have:=hT _ e.symm;omega)
 have hd : w2.ownsRow B 3 1 vD n (intsL n W.D) := (h.dep.alloc o).kept hg (by
  cases hv:vD.ownBlock with
  | none=>exact .inl rfl
  | some q=>exact .inr (fun e=>h.dis q hv e.symm))
 have f2:Fr w0.heap.size [] w0 w2:=(h.fr.trans (fa.mono h.fr.size (by simp))).grown hg (by have:=h.fr.size;simp;omega) (fun q hq=>.inl (by have:=hT q hq;omega));have hs:=hg.size;simp at hs;refine ⟨hr,hb,?_,hd,?_,?_,f2,o1,o2,o3,by omega⟩
 · have fm:Fr B [] (w.alloc o) w2:=(Fr.refl _ _ _).grown hg (by simp;omega) (fun q hq=>.inl (hT q hq));exact (h.map.fr fa lt2 (by simp)).fr fm (by omega) (by simp)
 ·
  have e1:cellsT (W.todo ++ [x])=cellsT W.todo ++ triC x:=by rw [cellsT_app];simp [cellsT]
  show w2.ownsRow B _ 3 v' (W.todo ++ [x]).length (cellsT (W.todo ++ [x]))
  rw [e1,List.length_append];exact hown
 ·
  intro q hq hv
  rcases hat with hat | hat
  · exact h.dis q hq (hat ▸ hv)
  ·
   rw [hat] at hv;injection hv with hv
   have:=(h.dep.lt q hq).2;omega
theorem TMem.keepL {w0:World} {k3 gm B n g:Nat} {vD vT:Value} {W:WS} {w w':World} (h:TMem w0 k3 gm B n vD vT W w) (hf:Fr w.heap.size [g] w w') (hg:B<=g) (hd:some g ≠ vD.ownBlock) (ht:some g ≠ vT.ownBlock):TMem w0 k3 gm B n vD vT W w':=by
 have o1:=h.o1;have o2:=h.o2;have o3:=h.o3;refine ⟨h.res.fr hf h.res.lt (by simp;omega),h.blk.fr hf h.blk.lt (by simp;omega),h.map.fr hf h.map.lt (by simp;omega),ownsRow_fr h.dep hf (fun q hq=>⟨(h.dep.lt q hq).2,?_⟩),ownsRow_fr h.todo hf (fun q hq=>⟨(h.todo.lt q hq).2,?_⟩),h.dis,h.fr.trans (hf.mono h.fr.size (by simp;omega)),o1,o2,o3,Nat.le_trans h.sz hf.size⟩
 · simp;rintro rfl;exact hd hq.symm
 · simp;rintro rfl;exact ht hq.symm
theorem succT_of {n:Nat} {p:Nat->Int × Int} {x:Tri} {i:Int × Int} (hi:i=p x.at_):succT n p x=(nextsF n x.at_ i).map fun t=>⟨t,x.d - takesF i.1+leavesF i.1,if i.1=14 then x.e+1 else x.e⟩:=by
 subst hi;rfl
theorem Blk.app {w w2:World} {o:Obj} {g:Nat} {t:TypeId} {cs:Array Value} {row:Option Nat} (h:Blk w g t cs) (hg:(w.alloc o).grownBy w2 row) (hne:row ≠ some g):Blk w2 g t cs :=
 (h.alloc o).grown hg (fun e=>hne e.symm)
def depF (p:Nat->Int × Int):Nat->Int
 | 0=>0
 | k+1=>depF p k+(leavesF (p k).1 - takesF (p k).1)
structure Line (n:Nat) (p:Nat->Int × Int) (k:Nat) (s:CS):Prop where
 d:k < n->s.D k=depF p k
 e:k < n->s.E k=s.em
 fresh:∀ x,k < x->s.D x = -1/\s.E x=0
 pos:0<=depF p k
theorem fitsB_iff {l:List (Int × Int)}:fitsB l=true ↔ l.length<=24 /\ ∀ x ∈ l,rightB x=true:=by
 unfold fitsB;rw [Bool.and_eq_true,List.all_eq_true,decide_eq_true_eq]
end Go.Proofs.YtgblfflikgnfpaaGreat
