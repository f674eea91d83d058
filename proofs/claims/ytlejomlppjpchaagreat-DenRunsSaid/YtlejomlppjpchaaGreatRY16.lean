/- Texts merged into one, for the number of files a claim may have: R6A, R6, FlA. -/
import Derived.Test.YtlejomlppjpchaaGreatTk
import Derived.Test.YtlejomlppjpchaaGreatRY7
import Derived.Test.YtlejomlppjpchaaGreatRY8
import Derived.Test.YtlejomlppjpchaaGreatRY10
import Derived.Test.YtlejomlppjpchaaGreatRY11
import Derived.Test.YtlejomlppjpchaaGreatRY12
import Derived.Test.YtlejomlppjpchaaGreatRY13
namespace Go.Proofs.YtlejomlppjpchaaGreat
open Go.RowKit Go.Fb
set_option maxRecDepth 100000
set_option maxHeartbeats 16000000
set_option linter.unusedVariables false
theorem cen_in {n:Int} (h:-524288<=n/\n < 524288):cen n=n:=by unfold cen;omega
theorem addV_zero {x:Int × Int} (h:vOk x):addV (0,0) x=x:=by
 obtain ⟨a,b⟩:=x;rw [vOk_iff] at h;unfold addV;simp only at h ⊢;rw [cen_in (n:=a) (by omega),cen_in (n:=b) (by omega),show cen 0=0 by decide,Int.zero_add,Int.zero_add,cen_in (n:=a) (by omega),cen_in (n:=b) (by omega)]
theorem mulV_one {x:Int × Int} (h:vOk x):mulV (1,0) x=x:=by
 obtain ⟨a,b⟩:=x;rw [vOk_iff] at h;unfold mulV;simp only at h ⊢;rw [cen_in (n:=a) (by omega),cen_in (n:=b) (by omega),show cen 0=0 by decide,show cen 1=1 by decide,Int.one_mul,Int.one_mul,Int.zero_mul,Int.zero_mul,Int.sub_zero,Int.add_zero,cen_in (n:=a) (by omega),cen_in (n:=b) (by omega)]
theorem op_add {x y:Int × Int} (h:vOk x):opV 6 x y=addV x y:=by
 show sumV [x,y]=_
 unfold sumV;rw [List.foldl_cons,List.foldl_cons,List.foldl_nil,addV_zero h]
theorem op_mul {x y:Int × Int} (h:vOk x):opV 8 x y=mulV x y:=by
 show prodV [x,y]=_
 unfold prodV;rw [List.foldl_cons,List.foldl_cons,List.foldl_nil,mulV_one h]
theorem op_sub (x y:Int × Int):opV 7 x y=subV x y:=rfl
theorem op_less {x y:Int × Int} (hx:vOk x) (hy:vOk y):opV 17 x y=if x.1 < y.1 then (1,0) else (0,0):=by
 rw [vOk_iff] at hx hy
 show (if lessV x y=true then ((1,0):Int × Int) else (0,0))=_
 unfold lessV;rw [cen_in (n:=x.1) (by omega),cen_in (n:=y.1) (by omega)]
 by_cases h:x.1 < y.1 <;> simp [h]
theorem conj_of {x:Int × Int} (h:vOk x):conjV x=(cen x.1,cen (-x.2)):=by
 rw [vOk_iff] at h;unfold conjV;rw [cen_in (n:=x.1) (by omega),cen_in (n:=x.2) (by omega),cen_in (n:=x.1) (by omega)]
theorem turn_of {x:Int × Int} (h:vOk x):turnV x=(cen (-x.2),cen x.1):=by
 rw [vOk_iff] at h;unfold turnV;rw [cen_in (n:=x.1) (by omega),cen_in (n:=x.2) (by omega),cen_in (n:=x.1) (by omega)]
theorem zero_of {x:Int × Int} (h:vOk x):zeroV x=decide (x=(0,0)):=by
 obtain ⟨a,b⟩:=x;rw [vOk_iff] at h;unfold zeroV;simp only at h ⊢;rw [cen_in (n:=a) (by omega),cen_in (n:=b) (by omega)]
 congr 1
 exact propext ⟨fun ⟨h1,h2⟩=>by rw [h1,h2],fun h=>by injection h with h1 h2;exact ⟨h1,h2⟩⟩
structure R6 (b0 g4 g5 g7:Nat) (S:MS) (Ao:Option Addr) (no co:Nat) (As:Option Addr) (ns cs:Nat) (w:World):Prop where
 no_:no=S.o.length
 ns_:ns=S.s.length
 i4:Blk w g4 48 #[.int .i64 S.x.1,.int .i64 S.x.2]
 c5:Blk w g5 109 #[.int .i64 S.c.1.1,.int .i64 S.c.1.2,.int .i64 S.c.2.1,.int .i64 S.c.2.2]
 r7:Blk w g7 109 #[.int .i64 0,.int .i64 0,.int .i64 0,.int .i64 0]
 out:w.ownsRow b0 48 2 (.slice Ao no co) no (cellsV S.o)
 stk:w.ownsRow b0 48 2 (.slice As ns cs) ns (cellsV S.s)
 ap:∀ q,(Value.slice Ao no co).ownBlock=some q->(Value.slice As ns cs).ownBlock ≠ some q
 low:g4 < g5/\g5 < g7/\g7 < b0
theorem R6.fr {b0 g4 g5 g7:Nat} {S:MS} {Ao As:Option Addr} {no co ns cs:Nat} {w w':World} (h:R6 b0 g4 g5 g7 S Ao no co As ns cs w) (hf:Fr w.heap.size [] w w'):R6 b0 g4 g5 g7 S Ao no co As ns cs w' :=
 ⟨h.no_,h.ns_,h.i4.fr hf h.i4.lt (by simp),h.c5.fr hf h.c5.lt (by simp),h.r7.fr hf h.r7.lt (by simp),ownsRow_fr h.out hf (fun q hq=>⟨(h.out.lt q hq).2,by simp⟩),ownsRow_fr h.stk hf (fun q hq=>⟨(h.stk.lt q hq).2,by simp⟩),h.ap,h.low⟩
theorem R6.next {b0 g4 g5 g7:Nat} {S:MS} {Ao As:Option Addr} {no co ns cs:Nat} {w:World} (h:R6 b0 g4 g5 g7 S Ao no co As ns cs w) (t:Nat) (st:Int):R6 b0 g4 g5 g7 { S with at_:=t,st:=st } Ao no co As ns cs w:=⟨h.no_,h.ns_,h.i4,h.c5,h.r7,h.out,h.stk,h.ap,h.low⟩
theorem R6.push {b0 g4 g5 g7:Nat} {S:MS} {Ao As:Option Addr} {no co ns cs:Nat} {w w':World} (h:R6 b0 g4 g5 g7 S Ao no co As ns cs w) (v:Int × Int) {A3:Option Addr} {c3:Nat}
  (ho:w'.ownsRow b0 48 2 (.slice A3 (ns+1) c3) (ns+1) (cellsV S.s ++ [.int .i64 v.1,.int .i64 v.2])) (hg:w.grownBy w' (Value.slice As ns cs).ownBlock)
  (hat:(Value.slice A3 (ns+1) c3).ownBlock=(Value.slice As ns cs).ownBlock \/ (Value.slice A3 (ns+1) c3).ownBlock=some w.heap.size):R6 b0 g4 g5 g7 { S with s:=S.s ++ [v] } Ao no co A3 (ns+1) c3 w':=by
 have hl:=h.low;have hne:∀ g,g < b0->some g ≠ (Value.slice As ns cs).ownBlock:=fun g hg e=>by have:=(h.stk.lt g e.symm).1;omega
 refine ⟨h.no_,by rw [h.ns_];simp,h.i4.grown hg (hne _ (by omega)),h.c5.grown hg (hne _ (by omega)),h.r7.grown hg (hne _ (by omega)),?_,?_,fun q hq e => ?_,h.low⟩
 · exact ownsRow_fr h.out ((Fr.refl w.heap.size (Value.slice As ns cs).ownBlock.toList w).grown hg (Nat.le_refl _) (fun k hk=>.inr (by simp [hk]))) (fun q hq=>⟨(h.out.lt q hq).2,fun hm=>h.ap q hq (by simpa using hm)⟩)
 · rw [cellsV_app];simpa [cellsV,valC] using ho
 ·
  rcases hat with e1 | e1
  · rw [e1] at e;exact h.ap q hq e
  ·
   rw [e1] at e;injection e with e
   have:=(h.out.lt q hq).2;omega
theorem R6.emit {b0 g4 g5 g7:Nat} {S:MS} {Ao As:Option Addr} {no co ns cs:Nat} {w w':World} (h:R6 b0 g4 g5 g7 S Ao no co As ns cs w) (v:Int × Int) {A3:Option Addr} {c3:Nat}
  (ho:w'.ownsRow b0 48 2 (.slice A3 (no+1) c3) (no+1) (cellsV S.o ++ [.int .i64 v.1,.int .i64 v.2])) (hg:w.grownBy w' (Value.slice Ao no co).ownBlock)
  (hat:(Value.slice A3 (no+1) c3).ownBlock=(Value.slice Ao no co).ownBlock \/ (Value.slice A3 (no+1) c3).ownBlock=some w.heap.size):R6 b0 g4 g5 g7 { S with o:=S.o ++ [v] } A3 (no+1) c3 As ns cs w':=by
 have hl:=h.low;have hne:∀ g,g < b0->some g ≠ (Value.slice Ao no co).ownBlock:=fun g hg e=>by have:=(h.out.lt g e.symm).1;omega
 refine ⟨by rw [h.no_];simp,h.ns_,h.i4.grown hg (hne _ (by omega)),h.c5.grown hg (hne _ (by omega)),h.r7.grown hg (hne _ (by omega)),?_,?_,fun q hq e => ?_,h.low⟩
 · rw [cellsV_app];simpa [cellsV,valC] using ho
 · exact ownsRow_fr h.stk ((Fr.refl w.heap.size (Value.slice Ao no co).ownBlock.toList w).grown hg (Nat.le_refl _) (fun k hk=>.inr (by simp [hk]))) (fun q hq=>⟨(h.stk.lt q hq).2,fun hm=>h.ap q (by simpa using hm) hq⟩)
 ·
  rcases hat with e1 | e1
  · rw [e1] at hq;exact h.ap q hq e
  ·
   rw [e1] at hq;injection hq with hq
   have:=(h.stk.lt q e).2;omega
theorem R6.pop {b0 g4 g5 g7:Nat} {S:MS} {Ao:Option Addr} {no co gs ns cs:Nat} {w:World} (h:R6 b0 g4 g5 g7 S Ao no co (some ⟨gs,0,none⟩) ns cs w) (h0:0 < ns):R6 b0 g4 g5 g7 { S with s:=S.s.dropLast } Ao no co (some ⟨gs,0,none⟩) (ns - 1) cs w:=by
 refine ⟨h.no_,by rw [h.ns_];simp,h.i4,h.c5,h.r7,h.out,?_,h.ap,h.low⟩;have h1:=own_prefix h.stk (ns - 1) (by omega);simp only;rw [cellsV_drop,<- h.ns_];exact h1
theorem R6.top {b0 g4 g5 g7:Nat} {S:MS} {Ao As:Option Addr} {no co ns cs:Nat} {w:World} (h:R6 b0 g4 g5 g7 S Ao no co As ns cs w) (h0:0 < ns):∃ gs,As=some ⟨gs,0,none⟩/\b0<=gs/\gs < w.heap.size/\ns<=cs/\w.cell? ⟨gs,(ns - 1) * 2,none⟩=some (.int .i64 (topV S.s).1)/\w.cell? ⟨gs,(ns - 1) * 2+1,none⟩=some (.int .i64 (topV S.s).2):=by
 obtain ⟨gs,rfl⟩:=own_shape h.stk h0;have hg:=top_get (s:=S.s) (by rw [<- h.ns_];exact h0);rw [<- h.ns_] at hg;obtain ⟨a,b⟩:=cellsV_get hg;obtain ⟨c,d⟩:=h.stk.lt gs rfl;exact ⟨gs,rfl,c,d,own_cap h.stk h0,(h.stk.cellAt _ (by omega)).trans a,(h.stk.cellAt _ (by omega)).trans b⟩
theorem R6.sec {b0 g4 g5 g7:Nat} {S:MS} {Ao:Option Addr} {no co gs ns cs:Nat} {w:World} (h:R6 b0 g4 g5 g7 S Ao no co (some ⟨gs,0,none⟩) ns cs w) (h0:1 < ns):w.cell? ⟨gs,(ns - 2) * 2,none⟩=some (.int .i64 (topV S.s.dropLast).1)/\w.cell? ⟨gs,(ns - 2) * 2+1,none⟩=some (.int .i64 (topV S.s.dropLast).2):=by
 have hn:=h.ns_;have hg:=top_get (s:=S.s.dropLast) (by rw [List.length_dropLast];omega);rw [List.length_dropLast,<- h.ns_] at hg
 have hg2:S.s[ns - 1 - 1]?=some (topV S.s.dropLast):=by
  rw [List.getElem?_dropLast] at hg
  split at hg
  · exact hg
  · cases hg
 obtain ⟨a,b⟩:=cellsV_get hg2;rw [show ns - 2=ns - 1 - 1 by omega];exact ⟨(h.stk.cellAt _ (by omega)).trans a,(h.stk.cellAt _ (by omega)).trans b⟩
theorem cellsV_set {s:List (Int × Int)} {k:Nat} (hk:k < s.length) (v:Int × Int):((cellsV s).set (k * 2) (.int .i64 v.1)).set (k * 2+1) (.int .i64 v.2)=cellsV (s.set k v):=by
 induction s generalizing k with
 | nil=>cases hk
 | cons y s ih =>
  have e:∀ z t,cellsV (z :: t)=.int .i64 z.1 :: .int .i64 z.2 :: cellsV t:=fun _ _=>rfl
  cases k with
  | zero=>simp [e]
  | succ k =>
   rw [List.set_cons_succ,e,e,show (k+1) * 2=k * 2+1+1 by omega,show k * 2+1+1+1=(k * 2+1)+1+1 by omega,List.set_cons_succ,List.set_cons_succ,List.set_cons_succ,List.set_cons_succ,ih (by simpa using hk)]
theorem R6.put {b0 g4 g5 g7:Nat} {S:MS} {Ao:Option Addr} {no co gs ns cs:Nat} {w:World} (h:R6 b0 g4 g5 g7 S Ao no co (some ⟨gs,0,none⟩) ns cs w) {k:Nat} (hk:k < ns) (v:Int × Int):R6 b0 g4 g5 g7 { S with s:=S.s.set k v } Ao no co (some ⟨gs,0,none⟩) ns cs ((w.setCell ⟨gs,k * 2,none⟩ (.int .i64 v.1)).setCell ⟨gs,k * 2+1,none⟩ (.int .i64 v.2)):=by
 have hl:=h.low;obtain ⟨c,d⟩:=h.stk.lt gs rfl;have hf:=((Fr.refl w.heap.size [gs] w).setCell (p:=⟨gs,k * 2,none⟩) (.inr (by simp)) (.int .i64 v.1)).setCell (p:=⟨gs,k * 2+1,none⟩) (.inr (by simp)) (.int .i64 v.2);refine ⟨h.no_,by rw [h.ns_];simp,h.i4.fr hf h.i4.lt (by simp;omega),h.c5.fr hf h.c5.lt (by simp;omega),h.r7.fr hf h.r7.lt (by simp;omega),ownsRow_fr h.out hf (fun q hq=>⟨(h.out.lt q hq).2,by simp;rintro rfl;exact h.ap _ hq rfl⟩),?_,h.ap,h.low⟩;have h1:=ownsRow_setN (ownsRow_setN h.stk (k * 2) (.int .i64 v.1)) (k * 2+1) (.int .i64 v.2);rw [cellsV_set (by rw [<- h.ns_];exact hk)] at h1;exact h1
theorem R6.top2 {b0 g4 g5 g7:Nat} {S:MS} {Ao:Option Addr} {no co gs ns cs:Nat} {w:World} (h:R6 b0 g4 g5 g7 S Ao no co (some ⟨gs,0,none⟩) ns cs w) (h0:0 < ns):w.cell? ⟨gs,(ns - 1) * 2,none⟩=some (.int .i64 (topV S.s).1)/\w.cell? ⟨gs,(ns - 1) * 2+1,none⟩=some (.int .i64 (topV S.s).2):=by
 obtain ⟨g,e,_,_,_,a,b⟩:=h.top h0;injection e with e
 injection e with e
 subst e;exact ⟨a,b⟩
theorem cellsV_set1 {s:List (Int × Int)} {k:Nat} {z y:Int} (hk:s[k]?=some (z,y)) (x:Int):(cellsV s).set (k * 2) (.int .i64 x)=cellsV (s.set k (x,y)):=by
 induction s generalizing k with
 | nil=>cases hk
 | cons q s ih =>
  have e:∀ z t,cellsV (z :: t)=.int .i64 z.1 :: .int .i64 z.2 :: cellsV t:=fun _ _=>rfl
  cases k with
  | zero =>
   simp at hk;subst hk;simp [e]
  | succ k =>
   rw [List.set_cons_succ,e,e,show (k+1) * 2=k * 2+1+1 by omega,List.set_cons_succ,List.set_cons_succ,ih (by simpa using hk)]
theorem R6.put1 {b0 g4 g5 g7:Nat} {S:MS} {Ao:Option Addr} {no co gs ns cs:Nat} {w:World} (h:R6 b0 g4 g5 g7 S Ao no co (some ⟨gs,0,none⟩) ns cs w) {k:Nat} {z y:Int} (hk:S.s[k]?=some (z,y)) (x:Int):R6 b0 g4 g5 g7 { S with s:=S.s.set k (x,y) } Ao no co (some ⟨gs,0,none⟩) ns cs (w.setCell ⟨gs,k * 2,none⟩ (.int .i64 x)):=by
 have hl:=h.low;obtain ⟨c,d⟩:=h.stk.lt gs rfl;have hf:=(Fr.refl w.heap.size [gs] w).setCell (p:=⟨gs,k * 2,none⟩) (.inr (by simp)) (.int .i64 x);refine ⟨h.no_,by rw [h.ns_];simp,h.i4.fr hf h.i4.lt (by simp;omega),h.c5.fr hf h.c5.lt (by simp;omega),h.r7.fr hf h.r7.lt (by simp;omega),ownsRow_fr h.out hf (fun q hq=>⟨(h.out.lt q hq).2,by simp;rintro rfl;exact h.ap _ hq rfl⟩),?_,h.ap,h.low⟩;have h1:=ownsRow_setN h.stk (k * 2) (.int .i64 x);rw [cellsV_set1 hk] at h1;exact h1
theorem R6.thaw {b0 g4 g5 g7:Nat} {S:MS} {Ao:Option Addr} {no co gs ns cs:Nat} {w:World} (h:R6 b0 g4 g5 g7 S Ao no co (some ⟨gs,0,none⟩) ns cs w) (j:Nat):w.frozen? ⟨gs,j,none⟩=false:=h.stk.frozenAt j
theorem R6.setc {b0 g4 g5 g7:Nat} {S:MS} {Ao As:Option Addr} {no co ns cs:Nat} {w:World} (h:R6 b0 g4 g5 g7 S Ao no co As ns cs w) (a:Nat) (ha:a < 2) (v:Int × Int):R6 b0 g4 g5 g7 { S with c:=if a=0 then (v,S.c.2) else (S.c.1,v) } Ao no co As ns cs ((w.setCell ⟨g5,a * 2,none⟩ (.int .i64 v.1)).setCell ⟨g5,a * 2+1,none⟩ (.int .i64 v.2)):=by
 have hl:=h.low;have hf:=((Fr.refl w.heap.size [g5] w).setCell (p:=⟨g5,a * 2,none⟩) (.inr (by simp)) (.int .i64 v.1)).setCell (p:=⟨g5,a * 2+1,none⟩) (.inr (by simp)) (.int .i64 v.2);refine ⟨h.no_,h.ns_,h.i4.fr hf h.i4.lt (by simp;omega),?_,h.r7.fr hf h.r7.lt (by simp;omega),ownsRow_fr h.out hf (fun q hq=>⟨(h.out.lt q hq).2,by have:=(h.out.lt q hq).1;simp;omega⟩),ownsRow_fr h.stk hf (fun q hq=>⟨(h.stk.lt q hq).2,by have:=(h.stk.lt q hq).1;simp;omega⟩),h.ap,h.low⟩;have h1:=(h.c5.set_ (a * 2) (.int .i64 v.1)).set_ (a * 2+1) (.int .i64 v.2)
 rcases (show a=0 \/ a=1 by omega) with rfl | rfl
 · simpa using h1
 · simpa using h1
theorem set_last {s:List (Int × Int)} (h:0 < s.length) (v:Int × Int):s.set (s.length - 1) v=s.dropLast ++ [v]:=by
 rcases List.eq_nil_or_concat s with e | ⟨t,x,e⟩
 · rw [e] at h;cases h
 · subst e;simp
theorem set_sec {s:List (Int × Int)} (h:1 < s.length) (v:Int × Int):(s.set (s.length - 2) v).dropLast=s.dropLast.dropLast ++ [v]:=by
 rcases List.eq_nil_or_concat s with e | ⟨t,x,e⟩
 · rw [e] at h;simp at h
 ·
  subst e
  rcases List.eq_nil_or_concat t with e | ⟨u,y,e⟩
  · subst e;simp at h
  · subst e;simp
theorem swap_two {s:List (Int × Int)} (h:1 < s.length) (v u:Int × Int):(s.set (s.length - 2) v).set (s.length - 1) u=s.dropLast.dropLast ++ [v] ++ [u]:=by
 rcases List.eq_nil_or_concat s with e | ⟨t,x,e⟩
 · rw [e] at h;simp at h
 ·
  subst e
  rcases List.eq_nil_or_concat t with e | ⟨u',y,e⟩
  · subst e;simp at h
  · subst e;simp
def R6O (F:MS) (w:World) (e:Ending) (w':World):Prop :=
 ∃ A n cc st,n=F.o.length/\e=.returned (.tuple #[.slice A n cc,c4 F.c,.int .i64 st])/\w'.ownsRow w.heap.size 48 2 (.slice A n cc) n (cellsV F.o)/\Fr w.heap.size [] w w'
def R6Out (l:List (Int × Int)) (x:Int × Int) (c:(Int × Int) × (Int × Int)) (w:World) (e:Ending) (w':World):Prop:=R6O (runE l (mach0 x c)) w e w'
theorem val_eql_any (x y:Int × Int) (w:World):(binOp .eql 48 (.agg #[.int .i64 x.1,.int .i64 x.2]) (.agg #[.int .i64 y.1,.int .i64 y.2])).run Tryz.prog w=.ok (.bool (decide (x=y))) w:=by
 have h:=valcmp_d 9998 x.1 x.2 y.1 y.2 w
 have e:(x.1 == y.1 && x.2 == y.2)=decide (x=y):=by
  obtain ⟨a,b⟩:=x;obtain ⟨c,d⟩:=y;rw [Bool.eq_iff_iff];simp
 rw [e] at h;simp [binOp,Op.equal,Op.maxDepth,h]
theorem results_tct {P:Program} {fn:Func} {t p q:Tmp} {ty:TypeId} (h:fn.results = #[.tmp t,.cell p ty,.tmp q]) (tmps:Array Value) (w:World) (g:Nat) (tt:TypeId) (cs:Array Value) (fr:Nat × Nat) (d:TypeDesc)
  (hp:tmps.getD p undef=.pointer (some ⟨g,0,none⟩)) (hg:w.heap[g]?=some (.cells cs tt fr))
  (hu:P.underlying ty=some d) (hd:(match d with | .struct _ | .array _ _=>true | _=>false)=true) (hi:(P.info? ty).map (·.size)=some cs.size) :
  (results fn tmps).run P w=.ok (.tuple #[tmps.getD t undef,.agg cs,tmps.getD q undef]) w:=by
 have hp':tmps[p]?.getD undef=.pointer (some ⟨g,0,none⟩):=(by simpa using hp);simp [results,h,hp',asAddr,run_loadVar_row w g tt ty cs fr d hg hu hd hi]
structure R6S (l:List (Int × Int)) (D:Nat->Int) (F:MS) (S:MS):Prop where
 inv:MInv l D S
 res:runE l S=F
 few:S.o.length<=S.at_
theorem R6S.act {l:List (Int × Int)} {D:Nat->Int} {F S:MS} (h:R6S l D F S) (P:SafeD l D) {i:Int × Int} (hi:l[S.at_]?=some i) (h0:i.1 ≠ 0):R6S l D F (actM i (nextM S)):=by
 refine ⟨(h.inv.act P hi h0).1,by rw [<- runE_step P.fit.1 hi h0];exact h.res,?_⟩;have h1:=actM_o i (nextM S);have h2:=actM_at i (nextM S);have h3:=h.few;have e:(nextM S).at_=S.at_+1:=rfl;have e2:(nextM S).o=S.o:=rfl;rw [e2] at h1;omega
theorem r6run_any (Ap:Option Addr) (cp B:Nat) (l:List (Int × Int)) (s:CS) (x:Int × Int) (c:(Int × Int) × (Int × Int)) (w:World) (hsf:chkL l=some s) (hrd:Reads w B 2 Ap l.length (cellsI l)) (hB:B<=w.heap.size) (hx:vOk x) (hc:vOk c.1/\vOk c.2) :
  Calls Tryz.prog 116 #[.slice Ap l.length cp,.agg #[.int .i64 x.1,.int .i64 x.2],c4 c] w (R6Out l x c w):=by
 have HP:=zh (safe_of hsf);obtain ⟨D,hD⟩:=nm (s.D);rw [<- hD] at HP;obtain ⟨F,hF⟩:=nm (runE l (mach0 x c));have HF:=zh hF;have HS0:=zh (show R6S l D F (mach0 x c) from ⟨mach0_inv HP.out hx hc,hF.symm,Nat.le_refl _⟩);have h24:=HP.out.fit.1;have HRD:=zh (fun (wx:World) (hf:Fr w.heap.size [] w wx)=>(hrd.fr hf hB (by simp):Reads wx B 2 Ap l.length (cellsI l)));obtain ⟨W3,hW3⟩:=nm (((w.alloc (.cells #[.int .i64 x.1,.int .i64 x.2] 48)).alloc (.cells #[.int .i64 c.1.1,.int .i64 c.1.2,.int .i64 c.2.1,.int .i64 c.2.2] 109)).alloc (.cells #[.int .i64 0,.int .i64 0,.int .i64 0,.int .i64 0] 109));have hs3:W3.heap.size=w.heap.size+3:=(by rw [hW3];simp)
 have f3:Fr w.heap.size [] w W3:=by
  rw [hW3];exact (((Fr.refl w.heap.size [] w).alloc (Nat.le_refl _) _).alloc (by simp) _).alloc (by simp;omega) _
 have HR0 := zh (show R6 W3.heap.size w.heap.size (w.heap.size + 1) (w.heap.size + 2) (mach0 x c) (some ⟨W3.heap.size, 0, none⟩) 0 0 (some ⟨W3.heap.size + 1, 0, none⟩) 0 0 ((W3.alloc (.cells #[] 48)).alloc (.cells #[] 48)) from by
  refine ⟨rfl,rfl,?_,?_,?_,?_,?_,?_,by omega⟩
  · rw [hW3];exact (((((Blk.new w 48 #[.int .i64 x.1,.int .i64 x.2]).alloc _).alloc _).alloc _).alloc _)
  · rw [hW3];have h:=((((Blk.new (w.alloc (.cells #[.int .i64 x.1,.int .i64 x.2] 48)) 109 #[.int .i64 c.1.1,.int .i64 c.1.2,.int .i64 c.2.1,.int .i64 c.2.2]).alloc (.cells #[.int .i64 0,.int .i64 0,.int .i64 0,.int .i64 0] 109)).alloc (.cells #[] 48)).alloc (.cells #[] 48));rw [World.size_alloc] at h;exact h
  · rw [hW3];have h:=(((Blk.new ((w.alloc (.cells #[.int .i64 x.1,.int .i64 x.2] 48)).alloc (.cells #[.int .i64 c.1.1,.int .i64 c.1.2,.int .i64 c.2.1,.int .i64 c.2.2] 109)) 109 #[.int .i64 0,.int .i64 0,.int .i64 0,.int .i64 0]).alloc (.cells #[] 48)).alloc (.cells #[] 48));rw [World.size_alloc,World.size_alloc] at h;exact h
  · exact (vowns_empty W3).alloc _
  · have h:=vowns_empty (W3.alloc (.cells #[] 48));rw [World.size_alloc] at h;exact ownsRow_base h (Nat.le_succ _)
  ·
   intro q hq e;simp [Value.ownBlock] at hq e
   omega)
 have F5:=zh ((f3.alloc f3.size (.cells #[] 48)).alloc (by simp;omega) (.cells #[] 48))
 show Calls Tryz.prog _ _ w (R6O (runE l (mach0 x c)) w)
 rw [<- hF];obtain ⟨nl,hnl⟩:=nm (l.length);rw [<- hnl] at HRD h24 ⊢;have HNL:=zh hnl;clear hsf hrd hx hc hD hF f3 hnl;go_enter Tryz.func116,Tryz.ntmps116;go_upto_region 4 with fail;rw [<- hW3];have hb0:w.heap.size<=W3.heap.size:=(by omega);have HW3:=zh hs3;rw [show w.heap.size+1+1=w.heap.size+2 by omega];generalize (W3.alloc (.cells #[] 48)).alloc (.cells #[] 48)=w0 at *;obtain ⟨b0,hb0e⟩:=nm (W3.heap.size);obtain ⟨g4,hg4⟩:=nm (w.heap.size);rw [<- hb0e] at HR0 hb0 HW3;rw [show w.heap.size+2+1=b0 by have:=HW3.out;omega];rw [<- hg4] at HR0 ⊢;have HG4:=zh hg4;have HB0:=zh (show b0=g4+3 by rw [HW3.out,hg4]);have hgb:w.heap.size<=g4:=(by omega);clear hW3 hb0e hg4 HW3 hs3;go_wp2_with fail;go_loopg [9,10,11,12] 50 (fun g s9 s10 s11 s12 wr=>∃ (S:MS) (Ao:Option Addr) (no co:Nat) (As:Option Addr) (ns cs:Nat),g=50 - S.at_/\s9=.slice Ao no co/\s10=.slice As ns cs/\s11=.int .i64 S.st/\s12=.int .i64 (S.at_:Int)/\Hid (R6S l D F S)/\Hid (R6 b0 g4 (g4+1) (g4+2) S Ao no co As ns cs wr)/\Hid (Fr w.heap.size [] w wr))
 case atStart=>exact ⟨mach0 x c,_,0,0,_,0,0,rfl,rfl,rfl,rfl,rfl,HS0,HR0,F5⟩
 case round =>
  clear HS0 HR0 F5 HF;obtain ⟨S,Ao,no,co,As,ns,cs,rfl,rfl,rfl,rfl,rfl,HS,HR,FQ⟩:=hrel;have h49:S.at_<=49:=HS.out.inv.at_;have hns:ns<=8:=(by rw [HR.out.ns_];exact HS.out.inv.small);have hno:no<=49:=(by rw [HR.out.no_];have:=HS.out.few;omega);obtain ⟨at_,hat⟩:=nm (S.at_);rw [<- hat] at h49 ⊢;have HAT:=zh hat
  by_cases hk:at_ < nl
  case neg =>
   have hfs:F=S:=(by rw [<- HS.out.res];exact runE_end (by rw [<- hat,<- HNL.out];omega));obtain ⟨Z,hZ⟩:=nm (S);rw [<- hZ] at hfs HR ⊢;subst hfs;have HZN:=zh HR.out.no_;clear HS hat HAT hZ;go_upto_region 46 with fail;have hr:=HR.out.fr (Fr.refl _ [] wr).drew;have q0:=hr.c5.cell 0;have q1:=hr.c5.cell 1;have q2:=hr.c5.cell 2;have q3:=hr.c5.cell 3;have k0:=hr.r7.cell 0;have k1:=hr.r7.cell 1;have k2:=hr.r7.cell 2;have k3:=hr.r7.cell 3;have z0:=hr.r7.frozen 0;have z1:=hr.r7.frozen 1;have z2:=hr.r7.frozen 2;have z3:=hr.r7.frozen 3;have y0:=HR.out.r7.frozen 0;have y1:=HR.out.r7.frozen 1;have y2:=HR.out.r7.frozen 2;have y3:=HR.out.r7.frozen 3;have j0:=HR.out.c5.cell 0;have j1:=HR.out.c5.cell 1;have j2:=HR.out.c5.cell 2;have j3:=HR.out.c5.cell 3;have m0:=HR.out.r7.cell 0;have m1:=HR.out.r7.cell 1;have m2:=HR.out.r7.cell 2;have m3:=HR.out.r7.cell 3;simp at q0 q1 q2 q3 k0 k1 k2 k3 j0 j1 j2 j3 m0 m1 m2 m3;have HB7:=zh hr.r7;have HO7:=zh hr.out;have HL7:=zh hr.low;have FD:=zh FQ.out.drew;clear hr;go_region
   all_goals
    (try go_wp2_with fail)
    have B5:=zh (show Blk _ _ _ #[.int .i64 F.c.1.1,.int .i64 F.c.1.2,.int .i64 F.c.2.1,.int .i64 F.c.2.2] from by have:=(((HB7.out.set_ 0 (.int .i64 F.c.1.1)).set_ 1 (.int .i64 F.c.1.2)).set_ 2 (.int .i64 F.c.2.1)).set_ 3 (.int .i64 F.c.2.2);simpa using this);have hg7:w.heap.size<=g4+2:=(by omega);have F5:=zh ((((FD.out.setCell (p:=⟨g4+2,0,none⟩) (.inl hg7) (.int .i64 F.c.1.1)).setCell (p:=⟨g4+2,1,none⟩) (.inl hg7) (.int .i64 F.c.1.2)).setCell (p:=⟨g4+2,2,none⟩) (.inl hg7) (.int .i64 F.c.2.1)).setCell (p:=⟨g4+2,3,none⟩) (.inl hg7) (.int .i64 F.c.2.2));have hne:∀ (j:Nat),(Value.slice Ao no co).ownBlock ≠ some (⟨g4+2,j,none⟩:Addr).block:=fun j e=>by have h1:=(HO7.out.lt _ e).1;have h2:=HL7.out.2.2;simp only at h1;omega
    have O5:=ownsRow_setCell_other (ownsRow_setCell_other (ownsRow_setCell_other (ownsRow_setCell_other HO7.out (hne 0) (.int .i64 F.c.1.1)) (hne 1) (.int .i64 F.c.1.2)) (hne 2) (.int .i64 F.c.2.1)) (hne 3) (.int .i64 F.c.2.2);refine bodyPost_ret (results_tct rfl _ _ (g4+2) 109 #[.int .i64 F.c.1.1,.int .i64 F.c.1.2,.int .i64 F.c.2.1,.int .i64 F.c.2.2] (0,0) _ rfl B5.out Tryz.underlying109 rfl (by kernel_rfl)) rfl ⟨Ao,no,co,_,HZN.out,rfl,ownsRow_base O5 hb0,F5.out⟩
  case pos =>
   obtain ⟨i,hi⟩:∃ i,l[S.at_]?=some i:=⟨_,List.getElem?_eq_getElem (by rw [<- hat,<- HNL.out];exact hk)⟩;have hrl:=HRD.out wr FQ.out;rw [HNL.out] at hrl;obtain ⟨b2,off2,rfl,hb2,p0,p1⟩:=reads_ins hrl hi;rw [<- hat] at p0 p1;have hri:=HP.out.fit.2 i (List.mem_of_getElem? hi);obtain ⟨hop,hj1,hj2,hj3⟩:=right_jump hri;have HI:=zh hi;obtain ⟨o,a⟩:=i;simp only at p0 p1 hop hj1 hj2 hj3;have d0:wr.drew.cell? ⟨b2,off2+at_ * 2,none⟩=some (.int .i64 o):=p0;have d1:wr.drew.cell? ⟨b2,off2+at_ * 2+1,none⟩=some (.int .i64 a):=p1;have hki:(at_:Int) < (nl:Int):=(by omega);have hk0:(0:Int)<=(at_:Int):=(by omega);have hwat:wrap64 ((at_:Int)+1)=((at_+1:Nat):Int):=(by unfold wrap64;omega);clear hi hrl hri hat p0 p1;have HJ1:=zh hj1;have HJ2:=zh hj2;have HJ3:=zh hj3;have HOP:=zh hop;clear hj1 hj2 hj3 hop;go_upto_region 6 with fail;go_region;go_upto_region 10 with fail;clear d0 d1 hki hk0;have HR1:=zh ((HR.out.fr (Fr.refl _ _ _).drew).next (at_+1) (wrap64 (S.st+1)));have F1:=zh FQ.out.drew;generalize wr.drew=w1 at *;have HN:=zh (show nextM S={ S with at_:=at_+1,st:=wrap64 (S.st+1) } by unfold nextM;rw [HAT.out]);clear HR FQ;have HACT:=zh (fun (h0:o ≠ 0)=>HS.out.act HP.out HI.out h0);have HTK:=zh (fun (h0:o ≠ 0)=>(by have h1:=(HS.out.inv.act HP.out HI.out h0).2;rw [<- HR1.out.ns_] at h1;exact h1:takesF o<=(ns:Int)));rw [HN.out] at HACT;have hops:o=0 \/ o=1 \/ o=2 \/ o=3 \/ o=4 \/ o=5 \/ o=6 \/ o=7 \/ o=8 \/ o=9 \/ o=10 \/ o=11 \/ o=12 \/ o=13 \/ o=14 \/ o=15 \/ o=16 \/ o=17:=(by have:=HOP.out;omega);obtain ⟨st,hst⟩:=nm (wrap64 (S.st+1));rw [<- hst] at HR1 HACT ⊢;have HINV:=zh HS.out.inv;have HEND:=zh (fun (h0:o=0)=>(by rw [<- HS.out.res,runE_halt HI.out h0,HN.out,hst]:F={ o:=S.o,c:=S.c,st:=st,x:=S.x,at_:=at_+1,s:=S.s }));clear hst HOP HN HI HS;have hwF:w.heap.size<=w1.heap.size:=F1.out.size;have hb1:b0<=w1.heap.size:=(by have:=HR1.out.r7.lt;have:=HB0.out;omega)
   rcases hops with rfl | rfl | rfl | rfl | rfl | rfl | rfl | rfl | rfl | rfl | rfl | rfl | rfl | rfl | rfl | rfl | rfl | rfl
   ·
    as_aux_lemma =>
     have hfs:F={ o:=S.o,c:=S.c,st:=st,x:=S.x,at_:=at_+1,s:=S.s }:=HEND.out rfl;obtain ⟨Z,hZ⟩:=nm ({ o:=S.o,c:=S.c,st:=st,x:=S.x,at_:=at_+1,s:=S.s }:MS);have e1:Z.o=S.o:=(by rw [hZ]);rw [<- hZ] at hfs HR1;subst hfs;have HZN:=zh HR1.out.no_;clear hZ e1;go_upto_region 46 with fail;have hr:=HR1.out.fr (Fr.refl _ [] w1).drew;have q0:=hr.c5.cell 0;have q1:=hr.c5.cell 1;have q2:=hr.c5.cell 2;have q3:=hr.c5.cell 3;have k0:=hr.r7.cell 0;have k1:=hr.r7.cell 1;have k2:=hr.r7.cell 2;have k3:=hr.r7.cell 3;have z0:=hr.r7.frozen 0;have z1:=hr.r7.frozen 1;have z2:=hr.r7.frozen 2;have z3:=hr.r7.frozen 3;have y0:=HR1.out.r7.frozen 0;have y1:=HR1.out.r7.frozen 1;have y2:=HR1.out.r7.frozen 2;have y3:=HR1.out.r7.frozen 3;have j0:=HR1.out.c5.cell 0;have j1:=HR1.out.c5.cell 1;have j2:=HR1.out.c5.cell 2;have j3:=HR1.out.c5.cell 3;have m0:=HR1.out.r7.cell 0;have m1:=HR1.out.r7.cell 1;have m2:=HR1.out.r7.cell 2;have m3:=HR1.out.r7.cell 3;simp at q0 q1 q2 q3 k0 k1 k2 k3 j0 j1 j2 j3 m0 m1 m2 m3;have HB7:=zh hr.r7;have HO7:=zh hr.out;have HL7:=zh hr.low;have FD:=zh F1.out.drew;clear hr;go_region
     all_goals
      (try go_wp2_with fail)
      have B5:=zh (show Blk _ _ _ #[.int .i64 F.c.1.1,.int .i64 F.c.1.2,.int .i64 F.c.2.1,.int .i64 F.c.2.2] from by have:=(((HB7.out.set_ 0 (.int .i64 F.c.1.1)).set_ 1 (.int .i64 F.c.1.2)).set_ 2 (.int .i64 F.c.2.1)).set_ 3 (.int .i64 F.c.2.2);simpa using this);have hg7:w.heap.size<=g4+2:=(by omega);have F5:=zh ((((FD.out.setCell (p:=⟨g4+2,0,none⟩) (.inl hg7) (.int .i64 F.c.1.1)).setCell (p:=⟨g4+2,1,none⟩) (.inl hg7) (.int .i64 F.c.1.2)).setCell (p:=⟨g4+2,2,none⟩) (.inl hg7) (.int .i64 F.c.2.1)).setCell (p:=⟨g4+2,3,none⟩) (.inl hg7) (.int .i64 F.c.2.2));have hne:∀ (j:Nat),(Value.slice Ao no co).ownBlock ≠ some (⟨g4+2,j,none⟩:Addr).block:=fun j e=>by have h1:=(HO7.out.lt _ e).1;have h2:=HL7.out.2.2;simp only at h1;omega
      have O5:=ownsRow_setCell_other (ownsRow_setCell_other (ownsRow_setCell_other (ownsRow_setCell_other HO7.out (hne 0) (.int .i64 F.c.1.1)) (hne 1) (.int .i64 F.c.1.2)) (hne 2) (.int .i64 F.c.2.1)) (hne 3) (.int .i64 F.c.2.2);refine bodyPost_ret (results_tct rfl _ _ (g4+2) 109 #[.int .i64 F.c.1.1,.int .i64 F.c.1.2,.int .i64 F.c.2.1,.int .i64 F.c.2.2] (0,0) _ rfl B5.out Tryz.underlying109 rfl (by kernel_rfl)) rfl ⟨Ao,no,co,_,HZN.out,rfl,ownsRow_base O5 hb0,F5.out⟩
   ·
    as_aux_lemma =>
     have HS2:=zh (show R6S l D F { o:=S.o,c:=S.c,st:=st,x:=S.x,at_:=at_+1,s:=S.s ++ [(a,0)] } from HACT.out (by decide));have hown:=HR1.out.stk;go_wp2_with (at_builtin;refine wpList_app_lit _ rfl (.tmp 43) (.tmp 46) valTy rfl b0 (.slice As ns cs) ns _ rfl hown 1 1 _ rfl rfl (by simp [Value.oneCell']) (by omega) (by omega) hb1 ?_;intro A3 c3 w3 hown3 hg3 hat3);have HR3:=zh ((HR1.out.fr ((Fr.refl w1.heap.size [] w1).alloc (Nat.le_refl _) (.cells #[.int .i64 a,.int .i64 0] 48))).push (a,0) hown3 hg3 (by rw [World.size_alloc];exact hat3));have F3:=zh (F1.out.trans ((Fr.of_app hg3 hown hb1).mono (B':=w.heap.size) (L':=[]) hb0 (by simp)));clear hown3 hg3 hat3 hown;go_roundg (50 - (at_+1))
     case measure=>have hm9:=HAT.out;omega
     case rel=>exact ⟨{ o:=S.o,c:=S.c,st:=st,x:=S.x,at_:=at_+1,s:=S.s ++ [(a,0)] },Ao,no,co,A3,ns+1,c3,rfl,rfl,rfl,rfl,(by first | rfl | go_num),HS2,HR3,F3⟩
   ·
    as_aux_lemma =>
     have HS2:=zh (show R6S l D F { o:=S.o,c:=S.c,st:=st,x:=S.x,at_:=at_+1,s:=S.s ++ [(0,a)] } from HACT.out (by decide));have hown:=HR1.out.stk;go_wp2_with (at_builtin;refine wpList_app_lit _ rfl (.tmp 50) (.tmp 53) valTy rfl b0 (.slice As ns cs) ns _ rfl hown 1 1 _ rfl rfl (by simp [Value.oneCell']) (by omega) (by omega) hb1 ?_;intro A3 c3 w3 hown3 hg3 hat3);have HR3:=zh ((HR1.out.fr ((Fr.refl w1.heap.size [] w1).alloc (Nat.le_refl _) (.cells #[.int .i64 0,.int .i64 a] 48))).push (0,a) hown3 hg3 (by rw [World.size_alloc];exact hat3));have F3:=zh (F1.out.trans ((Fr.of_app hg3 hown hb1).mono (B':=w.heap.size) (L':=[]) hb0 (by simp)));clear hown3 hg3 hat3 hown;go_roundg (50 - (at_+1))
     case measure=>have hm9:=HAT.out;omega
     case rel=>exact ⟨{ o:=S.o,c:=S.c,st:=st,x:=S.x,at_:=at_+1,s:=S.s ++ [(0,a)] },Ao,no,co,A3,ns+1,c3,rfl,rfl,rfl,rfl,(by first | rfl | go_num),HS2,HR3,F3⟩
   ·
    as_aux_lemma =>
     have q0:=HR1.out.i4.cell 0;have q1:=HR1.out.i4.cell 1;simp at q0 q1;have HS2:=zh (show R6S l D F { o:=S.o,c:=S.c,st:=st,x:=S.x,at_:=at_+1,s:=S.s ++ [(S.x.1,S.x.2)] } from HACT.out (by decide));have hown:=HR1.out.stk;go_wp2_with (at_builtin;refine wpList_app_lit _ rfl (.tmp 57) (.tmp 59) valTy rfl b0 (.slice As ns cs) ns _ rfl hown 1 1 _ rfl rfl (by simp [Value.oneCell']) (by omega) (by omega) hb1 ?_;intro A3 c3 w3 hown3 hg3 hat3);have HR3:=zh ((HR1.out.fr ((Fr.refl w1.heap.size [] w1).alloc (Nat.le_refl _) (.cells #[.int .i64 S.x.1,.int .i64 S.x.2] 48))).push (S.x.1,S.x.2) hown3 hg3 (by rw [World.size_alloc];exact hat3));have F3:=zh (F1.out.trans ((Fr.of_app hg3 hown hb1).mono (B':=w.heap.size) (L':=[]) hb0 (by simp)));clear hown3 hg3 hat3 hown;go_roundg (50 - (at_+1))
     case measure=>have hm9:=HAT.out;omega
     case rel=>exact ⟨{ o:=S.o,c:=S.c,st:=st,x:=S.x,at_:=at_+1,s:=S.s ++ [(S.x.1,S.x.2)] },Ao,no,co,A3,ns+1,c3,rfl,rfl,rfl,rfl,(by first | rfl | go_num),HS2,HR3,F3⟩
   ·
    as_aux_lemma =>
     have hj:=HJ2.out (.inl rfl);have hja:a=0 \/ a=1:=(by omega);have q0:=HR1.out.c5.cell 0;have q1:=HR1.out.c5.cell 1;have q2:=HR1.out.c5.cell 2;have q3:=HR1.out.c5.cell 3;simp at q0 q1 q2 q3;clear hj
     rcases hja with rfl | rfl
     ·
      have HS2:=zh (show R6S l D F { o:=S.o,c:=S.c,st:=st,x:=S.x,at_:=at_+1,s:=S.s ++ [(S.c.1.1,S.c.1.2)] } from HACT.out (by decide));have hown:=HR1.out.stk;go_wp2_with (at_builtin;refine wpList_app_lit _ rfl (.tmp 63) (.tmp 67) valTy rfl b0 (.slice As ns cs) ns _ rfl hown 1 1 _ rfl rfl (by simp [Value.oneCell']) (by omega) (by omega) hb1 ?_;intro A3 c3 w3 hown3 hg3 hat3);have HR3:=zh ((HR1.out.fr ((Fr.refl w1.heap.size [] w1).alloc (Nat.le_refl _) (.cells #[.int .i64 S.c.1.1,.int .i64 S.c.1.2] 48))).push (S.c.1.1,S.c.1.2) hown3 hg3 (by rw [World.size_alloc];exact hat3));have F3:=zh (F1.out.trans ((Fr.of_app hg3 hown hb1).mono (B':=w.heap.size) (L':=[]) hb0 (by simp)));clear hown3 hg3 hat3 hown;go_roundg (50 - (at_+1))
      case measure=>have hm9:=HAT.out;omega
      case rel=>exact ⟨{ o:=S.o,c:=S.c,st:=st,x:=S.x,at_:=at_+1,s:=S.s ++ [(S.c.1.1,S.c.1.2)] },Ao,no,co,A3,ns+1,c3,rfl,rfl,rfl,rfl,(by first | rfl | go_num),HS2,HR3,F3⟩
     ·
      have HS2:=zh (show R6S l D F { o:=S.o,c:=S.c,st:=st,x:=S.x,at_:=at_+1,s:=S.s ++ [(S.c.2.1,S.c.2.2)] } from HACT.out (by decide));have hown:=HR1.out.stk;go_wp2_with (at_builtin;refine wpList_app_lit _ rfl (.tmp 63) (.tmp 67) valTy rfl b0 (.slice As ns cs) ns _ rfl hown 1 1 _ rfl rfl (by simp [Value.oneCell']) (by omega) (by omega) hb1 ?_;intro A3 c3 w3 hown3 hg3 hat3);have HR3:=zh ((HR1.out.fr ((Fr.refl w1.heap.size [] w1).alloc (Nat.le_refl _) (.cells #[.int .i64 S.c.2.1,.int .i64 S.c.2.2] 48))).push (S.c.2.1,S.c.2.2) hown3 hg3 (by rw [World.size_alloc];exact hat3));have F3:=zh (F1.out.trans ((Fr.of_app hg3 hown hb1).mono (B':=w.heap.size) (L':=[]) hb0 (by simp)));clear hown3 hg3 hat3 hown;go_roundg (50 - (at_+1))
      case measure=>have hm9:=HAT.out;omega
      case rel=>exact ⟨{ o:=S.o,c:=S.c,st:=st,x:=S.x,at_:=at_+1,s:=S.s ++ [(S.c.2.1,S.c.2.2)] },Ao,no,co,A3,ns+1,c3,rfl,rfl,rfl,rfl,(by first | rfl | go_num),HS2,HR3,F3⟩
   ·
    as_aux_lemma =>
     have ht:1<=ns:=(by have h:=HTK.out (by decide);rw [show takesF 5=1 from rfl] at h;omega);obtain ⟨gs,rfl,hgs1,hgs2,hcs,t0,t1⟩:=HR1.out.top (by omega);have hsub:wrap64 ((ns:Int) - 1)=((ns - 1:Nat):Int):=(by unfold wrap64;omega);have hsl:((ns - 1:Nat):Int)<=(cs:Int):=(by omega);have hsn:((ns - 1:Nat):Int) < (ns:Int):=(by omega);have hs0:(0:Int)<=((ns - 1:Nat):Int):=(by omega);have hj:=HJ2.out (.inr rfl);have hja:a=0 \/ a=1:=(by omega);obtain ⟨v,hv⟩:=nm (topV S.s);rw [<- hv] at t0 t1;have q0:=HR1.out.c5.cell 0;have q1:=HR1.out.c5.cell 1;have q2:=HR1.out.c5.cell 2;have q3:=HR1.out.c5.cell 3;have z0:=HR1.out.c5.frozen 0;have z1:=HR1.out.c5.frozen 1;have z2:=HR1.out.c5.frozen 2;have z3:=HR1.out.c5.frozen 3;simp at q0 q1 q2 q3;clear hj
     rcases hja with rfl | rfl
     ·
      have HS2:=zh (show R6S l D F { o:=S.o,c:=(v,S.c.2),st:=st,x:=S.x,at_:=at_+1,s:=S.s.dropLast } from by rw [hv];exact HACT.out (by decide));have HR2:=zh ((by have h:=HR1.out.setc 0 (by decide) v;simpa using h:R6 b0 g4 (g4+1) (g4+2) { o:=S.o,c:=(v,S.c.2),st:=st,x:=S.x,at_:=at_+1,s:=S.s } Ao no co (some ⟨gs,0,none⟩) ns cs ((w1.setCell ⟨g4+1,0,none⟩ (.int .i64 v.1)).setCell ⟨g4+1,1,none⟩ (.int .i64 v.2))).pop (by omega));have F3:=zh ((F1.out.setCell (p:=⟨g4+1,0,none⟩) (.inl (by simp;omega)) (.int .i64 v.1)).setCell (p:=⟨g4+1,1,none⟩) (.inl (by simp;omega)) (.int .i64 v.2));clear hv;go_wp2_with fail;go_roundg (50 - (at_+1))
      case measure=>have hm9:=HAT.out;omega
      case rel=>exact ⟨{ o:=S.o,c:=(v,S.c.2),st:=st,x:=S.x,at_:=at_+1,s:=S.s.dropLast },Ao,no,co,some ⟨gs,0,none⟩,ns - 1,cs,rfl,rfl,rfl,rfl,(by first | rfl | go_num),HS2,HR2,F3⟩
     ·
      have HS2:=zh (show R6S l D F { o:=S.o,c:=(S.c.1,v),st:=st,x:=S.x,at_:=at_+1,s:=S.s.dropLast } from by rw [hv];exact HACT.out (by decide));have HR2:=zh ((by have h:=HR1.out.setc 1 (by decide) v;simpa using h:R6 b0 g4 (g4+1) (g4+2) { o:=S.o,c:=(S.c.1,v),st:=st,x:=S.x,at_:=at_+1,s:=S.s } Ao no co (some ⟨gs,0,none⟩) ns cs ((w1.setCell ⟨g4+1,2,none⟩ (.int .i64 v.1)).setCell ⟨g4+1,3,none⟩ (.int .i64 v.2))).pop (by omega));have F3:=zh ((F1.out.setCell (p:=⟨g4+1,2,none⟩) (.inl (by simp;omega)) (.int .i64 v.1)).setCell (p:=⟨g4+1,3,none⟩) (.inl (by simp;omega)) (.int .i64 v.2));clear hv;go_wp2_with fail;go_roundg (50 - (at_+1))
      case measure=>have hm9:=HAT.out;omega
      case rel=>exact ⟨{ o:=S.o,c:=(S.c.1,v),st:=st,x:=S.x,at_:=at_+1,s:=S.s.dropLast },Ao,no,co,some ⟨gs,0,none⟩,ns - 1,cs,rfl,rfl,rfl,rfl,(by first | rfl | go_num),HS2,HR2,F3⟩
   ·
    as_aux_lemma =>
     have ht:2<=ns:=(by have h:=HTK.out (by decide);rw [show takesF 6=2 from rfl] at h;omega);obtain ⟨gs,rfl,hgs1,hgs2,hcs,t0,t1⟩:=HR1.out.top (by omega);obtain ⟨u0,u1⟩:=HR1.out.sec (by omega);have hsub:wrap64 ((ns:Int) - 1)=((ns - 1:Nat):Int):=(by unfold wrap64;omega);have hsub2:wrap64 ((ns:Int) - 2)=((ns - 2:Nat):Int):=(by unfold wrap64;omega);have hsw1:IntKind.i64.wrap ((ns:Int) - 1)=((ns - 1:Nat):Int):=(by rw [IntKind.wrap_i64];omega);have hsw2:IntKind.i64.wrap ((ns:Int) - 2)=((ns - 2:Nat):Int):=(by rw [IntKind.wrap_i64];omega);have hsl:((ns - 1:Nat):Int)<=(cs:Int):=(by omega);have hsn:((ns - 1:Nat):Int) < (ns:Int):=(by omega);have hs0:(0:Int)<=((ns - 1:Nat):Int):=(by omega);have hsn2:((ns - 2:Nat):Int) < (ns:Int):=(by omega);have hs02:(0:Int)<=((ns - 2:Nat):Int):=(by omega);have hvy:=vOk_top HINV.out.s;have hvx:=vOk_top (drop_ok HINV.out.s);obtain ⟨v,hv⟩:=nm (topV S.s);obtain ⟨u,hu⟩:=nm (topV S.s.dropLast);rw [<- hv] at t0 t1 hvy;rw [<- hu] at u0 u1 hvx;have hl2:1 < S.s.length:=(by have:=HR1.out.ns_;simp only at this;omega);have hln:S.s.length=ns:=HR1.out.ns_.symm;obtain ⟨r,hr⟩:=nm (opV 6 u v)
     have HS2 := zh (show R6S l D F { o := S.o, c := S.c, st := st, x := S.x, at_ := at_ + 1, s := S.s.dropLast.dropLast ++ [r] } from by
      have h:=HACT.out (by decide);have e2:actM (6,a) { o:=S.o,c:=S.c,st:=st,x:=S.x,at_:=at_+1,s:=S.s }={ o:=S.o,c:=S.c,st:=st,x:=S.x,at_:=at_+1,s:=S.s.dropLast.dropLast ++ [opV 6 (topV S.s.dropLast) (topV S.s)] }:=rfl;rw [e2,<- hv,<- hu,<- hr] at h
      exact h)
     have HCALL:=zh (fun (wx:World)=>(by rw [hr,op_add hvx];exact refadd_any u v wx:Calls Tryz.prog 157 #[.agg #[.int .i64 u.1,.int .i64 u.2],.agg #[.int .i64 v.1,.int .i64 v.2]] wx fun e w'=>e=.returned (.agg #[.int .i64 r.1,.int .i64 r.2])/\Fr wx.heap.size [] wx w'));have hsz:w1.heap.size<=w1.drew.heap.size:=Nat.le_refl _;have j0:w1.drew.cell? ⟨gs,(ns - 2) * 2,none⟩=some (.int .i64 u.1):=u0;have j1:w1.drew.cell? ⟨gs,(ns - 2) * 2+1,none⟩=some (.int .i64 u.2):=u1;have j2:w1.drew.cell? ⟨gs,(ns - 1) * 2,none⟩=some (.int .i64 v.1):=t0;have j3:w1.drew.cell? ⟨gs,(ns - 1) * 2+1,none⟩=some (.int .i64 v.2):=t1;have HRD1:=zh (HR1.out.fr (Fr.refl _ [] w1).drew);have FD1:=zh F1.out.drew;have HU:=zh hu;have HSS:=zh (set_sec hl2 r);rw [hln] at HSS;clear hv hu hvx hvy hl2 hln hr;go_upto_region 22 with fail;refine wp_region_held_drew (S:=fun _=>True) (by kernel_rfl) trivial (fun hHeld => ?_);refine tk (i:=0) (oi:=⟨some 80,_,_,_,_,_⟩) (v:=?_) rfl ?_ trivial ?_
     rotate_left
     · intro w hSw;go_simp;(try with_reducible rfl)
     simp only [Act.put,lPt];refine tk (i:=1) (oi:=⟨some 81,_,_,_,_,_⟩) (v:=?_) rfl ?_ trivial ?_
     rotate_left
     · intro w hSw;go_simp;(try with_reducible rfl)
     simp only [Act.put,lPt];refine tk (i:=2) (oi:=⟨some 82,_,_,_,_,_⟩) (v:=?_) rfl ?_ trivial ?_
     rotate_left
     · intro w hSw;go_simp;(try with_reducible rfl)
     simp only [Act.put,lPt];refine tk (i:=3) (oi:=⟨some 83,_,_,_,_,_⟩) (v:=?_) rfl ?_ trivial ?_
     rotate_left
     · intro w hSw;go_simp;(try with_reducible rfl)
     simp only [Act.put,lPt];refine tk (i:=4) (oi:=⟨some 84,_,_,_,_,_⟩) (v:=?_) rfl ?_ trivial ?_
     rotate_left
     · intro w hSw;go_simp;(try with_reducible rfl)
     simp only [Act.put,lPt];refine tk (i:=5) (oi:=⟨some 85,_,_,_,_,_⟩) (v:=?_) rfl ?_ trivial ?_
     rotate_left
     · intro w hSw;go_simp;(try with_reducible rfl)
     simp only [Act.put,lPt];refine tk (i:=6) (oi:=⟨some 86,_,_,_,_,_⟩) (v:=?_) rfl ?_ trivial ?_
     rotate_left
     · intro w hSw;go_simp;(try with_reducible rfl)
     simp only [Act.put,lPt];refine tk (i:=8) (oi:=⟨some 88,_,_,_,_,_⟩) (v:=?_) rfl ?_ trivial ?_
     rotate_left
     · intro w hSw;go_simp;(try with_reducible rfl)
     simp only [Act.put,lPt];refine tk (i:=9) (oi:=⟨some 89,_,_,_,_,_⟩) (v:=?_) rfl ?_ trivial ?_
     rotate_left
     · intro w hSw;go_simp;(try with_reducible rfl)
     simp only [Act.put,lPt];refine tk (i:=10) (oi:=⟨some 90,_,_,_,_,_⟩) (v:=?_) rfl ?_ trivial ?_
     rotate_left
     · intro w hSw;go_simp;(try with_reducible rfl)
     simp only [Act.put,lPt];refine tk (i:=11) (oi:=⟨some 91,_,_,_,_,_⟩) (v:=?_) rfl ?_ trivial ?_
     rotate_left
     · intro w hSw;go_simp;(try with_reducible rfl)
     simp only [Act.put,lPt];refine wpAnyH_ready (rs:=[7,12]) (by kernel_rfl) (by simp) ?_;refine AllReadyH.cons (o:=⟨some 87,_,_,_,_,_⟩) rfl (fun K hK => ?_) (AllReadyH.cons (o:=⟨some 92,_,_,_,_,_⟩) rfl (fun K hK => ?_) AllReadyH.nil);rw [if_pos (by rfl)];go_simp;refine hK.out _ _ trivial (fun hHeld => ?_);clear hK K
     try simp only [Act.put,lPt]
     refine wpAnyH_ready (rs:=[12]) (by kernel_rfl) (by simp) ?_;refine AllReadyH.cons (o:=⟨some 92,_,_,_,_,_⟩) rfl (fun K hK => ?_) AllReadyH.nil;rw [if_pos (by rfl)];go_simp;refine hK.out _ _ trivial (fun hHeld => ?_);clear hK K
     try simp only [Act.put,lPt]
     rotate_left
     rw [if_pos (by rfl)];go_simp;refine hK.out _ _ trivial (fun hHeld => ?_);clear hK K
     try simp only [Act.put,lPt]
     refine wpAnyH_ready (rs:=[7]) (by kernel_rfl) (by simp) ?_;refine AllReadyH.cons (o:=⟨some 87,_,_,_,_,_⟩) rfl (fun K hK => ?_) AllReadyH.nil;rw [if_pos (by rfl)];go_simp;refine hK.out _ _ trivial (fun hHeld => ?_);clear hK K
     try simp only [Act.put,lPt]
     rotate_left
     all_goals
      refine wpAnyH_ready (rs:=[13]) (by kernel_rfl) (by simp) ?_;refine AllReadyH.cons (o:=⟨some 93,_,_,_,_,_⟩) rfl (fun K hK => ?_) AllReadyH.nil;rw [if_pos (by rfl)];go_simp;refine (HCALL.out _).mono ?_;rintro e w5 ⟨rfl,f5⟩;have HR5:=zh (HRD1.out.fr f5);have F5:=zh (FD1.out.nx f5);refine hK.out _ _ trivial (fun hHeld => ?_);clear hK K
      try simp only [Act.put,lPt]
      refine tk (i:=14) (oi:=⟨some 94,_,_,_,_,_⟩) (v:=?_) rfl ?_ trivial ?_
      rotate_left
      · intro w hSw;go_simp;(try with_reducible rfl)
      simp only [Act.put,lPt];refine wpAnyH_ready (rs:=[15]) (by kernel_rfl) (by simp) ?_;refine AllReadyH.cons (o:=⟨none,_,_,_,_,_⟩) rfl (fun K hK => ?_) AllReadyH.nil;rw [if_pos (by rfl)];have z0:=HR5.out.thaw ((ns - 2) * 2);have z1:=HR5.out.thaw ((ns - 2) * 2+1);obtain ⟨a0,a1⟩:=HR5.out.sec (by omega);go_simp;refine hK.out _ _ trivial (fun hHeld => ?_);clear hK K
      try simp only [Act.put]
      refine wpAnyH_done (by kernel_rfl) ?_ _;have HR6:=zh ((HR5.out.put (k:=ns - 2) (by omega) r).pop (by omega));simp only [HSS.out] at HR6;have F6:=zh ((F5.out.setCell (p:=⟨gs,(ns - 2) * 2,none⟩) (.inl (by simp;omega)) (.int .i64 r.1)).setCell (p:=⟨gs,(ns - 2) * 2+1,none⟩) (.inl (by simp;omega)) (.int .i64 r.2));clear z0 z1 a0 a1 f5;go_wp2_with fail;go_roundg (50 - (at_+1))
      case measure=>have hm9:=HAT.out;omega
      case rel=>exact ⟨{ o:=S.o,c:=S.c,st:=st,x:=S.x,at_:=at_+1,s:=S.s.dropLast.dropLast ++ [r] },Ao,no,co,some ⟨gs,0,none⟩,ns - 1,cs,rfl,rfl,rfl,rfl,(by first | rfl | go_num),HS2,HR6,F6⟩
   ·
    as_aux_lemma =>
     have ht:2<=ns:=(by have h:=HTK.out (by decide);rw [show takesF 7=2 from rfl] at h;omega);obtain ⟨gs,rfl,hgs1,hgs2,hcs,t0,t1⟩:=HR1.out.top (by omega);obtain ⟨u0,u1⟩:=HR1.out.sec (by omega);have hsub:wrap64 ((ns:Int) - 1)=((ns - 1:Nat):Int):=(by unfold wrap64;omega);have hsub2:wrap64 ((ns:Int) - 2)=((ns - 2:Nat):Int):=(by unfold wrap64;omega);have hsw1:IntKind.i64.wrap ((ns:Int) - 1)=((ns - 1:Nat):Int):=(by rw [IntKind.wrap_i64];omega);have hsw2:IntKind.i64.wrap ((ns:Int) - 2)=((ns - 2:Nat):Int):=(by rw [IntKind.wrap_i64];omega);have hsl:((ns - 1:Nat):Int)<=(cs:Int):=(by omega);have hsn:((ns - 1:Nat):Int) < (ns:Int):=(by omega);have hs0:(0:Int)<=((ns - 1:Nat):Int):=(by omega);have hsn2:((ns - 2:Nat):Int) < (ns:Int):=(by omega);have hs02:(0:Int)<=((ns - 2:Nat):Int):=(by omega);have hvy:=vOk_top HINV.out.s;have hvx:=vOk_top (drop_ok HINV.out.s);obtain ⟨v,hv⟩:=nm (topV S.s);obtain ⟨u,hu⟩:=nm (topV S.s.dropLast);rw [<- hv] at t0 t1 hvy;rw [<- hu] at u0 u1 hvx;have hl2:1 < S.s.length:=(by have:=HR1.out.ns_;simp only at this;omega);have hln:S.s.length=ns:=HR1.out.ns_.symm;obtain ⟨r,hr⟩:=nm (opV 7 u v)
     have HS2 := zh (show R6S l D F { o := S.o, c := S.c, st := st, x := S.x, at_ := at_ + 1, s := S.s.dropLast.dropLast ++ [r] } from by
      have h:=HACT.out (by decide);have e2:actM (7,a) { o:=S.o,c:=S.c,st:=st,x:=S.x,at_:=at_+1,s:=S.s }={ o:=S.o,c:=S.c,st:=st,x:=S.x,at_:=at_+1,s:=S.s.dropLast.dropLast ++ [opV 7 (topV S.s.dropLast) (topV S.s)] }:=rfl;rw [e2,<- hv,<- hu,<- hr] at h
      exact h)
     have HCALL:=zh (fun (wx:World)=>(by rw [hr,op_sub];exact refsub_any u v wx:Calls Tryz.prog 158 #[.agg #[.int .i64 u.1,.int .i64 u.2],.agg #[.int .i64 v.1,.int .i64 v.2]] wx fun e w'=>e=.returned (.agg #[.int .i64 r.1,.int .i64 r.2])/\Fr wx.heap.size [] wx w'));have hsz:w1.heap.size<=w1.drew.heap.size:=Nat.le_refl _;have j0:w1.drew.cell? ⟨gs,(ns - 2) * 2,none⟩=some (.int .i64 u.1):=u0;have j1:w1.drew.cell? ⟨gs,(ns - 2) * 2+1,none⟩=some (.int .i64 u.2):=u1;have j2:w1.drew.cell? ⟨gs,(ns - 1) * 2,none⟩=some (.int .i64 v.1):=t0;have j3:w1.drew.cell? ⟨gs,(ns - 1) * 2+1,none⟩=some (.int .i64 v.2):=t1;have HRD1:=zh (HR1.out.fr (Fr.refl _ [] w1).drew);have FD1:=zh F1.out.drew;have HU:=zh hu;have HSS:=zh (set_sec hl2 r);rw [hln] at HSS;clear hv hu hvx hvy hl2 hln hr;go_upto_region 24 with fail;refine wp_region_held_drew (S:=fun _=>True) (by kernel_rfl) trivial (fun hHeld => ?_);refine tk (i:=0) (oi:=⟨some 97,_,_,_,_,_⟩) (v:=?_) rfl ?_ trivial ?_
     rotate_left
     · intro w hSw;go_simp;(try with_reducible rfl)
     simp only [Act.put,lPt];refine tk (i:=1) (oi:=⟨some 98,_,_,_,_,_⟩) (v:=?_) rfl ?_ trivial ?_
     rotate_left
     · intro w hSw;go_simp;(try with_reducible rfl)
     simp only [Act.put,lPt];refine tk (i:=2) (oi:=⟨some 99,_,_,_,_,_⟩) (v:=?_) rfl ?_ trivial ?_
     rotate_left
     · intro w hSw;go_simp;(try with_reducible rfl)
     simp only [Act.put,lPt];refine tk (i:=3) (oi:=⟨some 100,_,_,_,_,_⟩) (v:=?_) rfl ?_ trivial ?_
     rotate_left
     · intro w hSw;go_simp;(try with_reducible rfl)
     simp only [Act.put,lPt];refine tk (i:=4) (oi:=⟨some 101,_,_,_,_,_⟩) (v:=?_) rfl ?_ trivial ?_
     rotate_left
     · intro w hSw;go_simp;(try with_reducible rfl)
     simp only [Act.put,lPt];refine tk (i:=5) (oi:=⟨some 102,_,_,_,_,_⟩) (v:=?_) rfl ?_ trivial ?_
     rotate_left
     · intro w hSw;go_simp;(try with_reducible rfl)
     simp only [Act.put,lPt];refine tk (i:=6) (oi:=⟨some 103,_,_,_,_,_⟩) (v:=?_) rfl ?_ trivial ?_
     rotate_left
     · intro w hSw;go_simp;(try with_reducible rfl)
     simp only [Act.put,lPt];refine tk (i:=8) (oi:=⟨some 105,_,_,_,_,_⟩) (v:=?_) rfl ?_ trivial ?_
     rotate_left
     · intro w hSw;go_simp;(try with_reducible rfl)
     simp only [Act.put,lPt];refine tk (i:=9) (oi:=⟨some 106,_,_,_,_,_⟩) (v:=?_) rfl ?_ trivial ?_
     rotate_left
     · intro w hSw;go_simp;(try with_reducible rfl)
     simp only [Act.put,lPt];refine tk (i:=10) (oi:=⟨some 107,_,_,_,_,_⟩) (v:=?_) rfl ?_ trivial ?_
     rotate_left
     · intro w hSw;go_simp;(try with_reducible rfl)
     simp only [Act.put,lPt];refine tk (i:=11) (oi:=⟨some 108,_,_,_,_,_⟩) (v:=?_) rfl ?_ trivial ?_
     rotate_left
     · intro w hSw;go_simp;(try with_reducible rfl)
     simp only [Act.put,lPt];refine wpAnyH_ready (rs:=[7,12]) (by kernel_rfl) (by simp) ?_;refine AllReadyH.cons (o:=⟨some 104,_,_,_,_,_⟩) rfl (fun K hK => ?_) (AllReadyH.cons (o:=⟨some 109,_,_,_,_,_⟩) rfl (fun K hK => ?_) AllReadyH.nil);rw [if_pos (by rfl)];go_simp;refine hK.out _ _ trivial (fun hHeld => ?_);clear hK K
     try simp only [Act.put,lPt]
     refine wpAnyH_ready (rs:=[12]) (by kernel_rfl) (by simp) ?_;refine AllReadyH.cons (o:=⟨some 109,_,_,_,_,_⟩) rfl (fun K hK => ?_) AllReadyH.nil;rw [if_pos (by rfl)];go_simp;refine hK.out _ _ trivial (fun hHeld => ?_);clear hK K
     try simp only [Act.put,lPt]
     rotate_left
     rw [if_pos (by rfl)];go_simp;refine hK.out _ _ trivial (fun hHeld => ?_);clear hK K
     try simp only [Act.put,lPt]
     refine wpAnyH_ready (rs:=[7]) (by kernel_rfl) (by simp) ?_;refine AllReadyH.cons (o:=⟨some 104,_,_,_,_,_⟩) rfl (fun K hK => ?_) AllReadyH.nil;rw [if_pos (by rfl)];go_simp;refine hK.out _ _ trivial (fun hHeld => ?_);clear hK K
     try simp only [Act.put,lPt]
     rotate_left
     all_goals
      refine wpAnyH_ready (rs:=[13]) (by kernel_rfl) (by simp) ?_;refine AllReadyH.cons (o:=⟨some 110,_,_,_,_,_⟩) rfl (fun K hK => ?_) AllReadyH.nil;rw [if_pos (by rfl)];go_simp;refine (HCALL.out _).mono ?_;rintro e w5 ⟨rfl,f5⟩;have HR5:=zh (HRD1.out.fr f5);have F5:=zh (FD1.out.nx f5);refine hK.out _ _ trivial (fun hHeld => ?_);clear hK K
      try simp only [Act.put,lPt]
      refine tk (i:=14) (oi:=⟨some 111,_,_,_,_,_⟩) (v:=?_) rfl ?_ trivial ?_
      rotate_left
      · intro w hSw;go_simp;(try with_reducible rfl)
      simp only [Act.put,lPt];refine wpAnyH_ready (rs:=[15]) (by kernel_rfl) (by simp) ?_;refine AllReadyH.cons (o:=⟨none,_,_,_,_,_⟩) rfl (fun K hK => ?_) AllReadyH.nil;rw [if_pos (by rfl)];have z0:=HR5.out.thaw ((ns - 2) * 2);have z1:=HR5.out.thaw ((ns - 2) * 2+1);obtain ⟨a0,a1⟩:=HR5.out.sec (by omega);go_simp;refine hK.out _ _ trivial (fun hHeld => ?_);clear hK K
      try simp only [Act.put]
      refine wpAnyH_done (by kernel_rfl) ?_ _;have HR6:=zh ((HR5.out.put (k:=ns - 2) (by omega) r).pop (by omega));simp only [HSS.out] at HR6;have F6:=zh ((F5.out.setCell (p:=⟨gs,(ns - 2) * 2,none⟩) (.inl (by simp;omega)) (.int .i64 r.1)).setCell (p:=⟨gs,(ns - 2) * 2+1,none⟩) (.inl (by simp;omega)) (.int .i64 r.2));clear z0 z1 a0 a1 f5;go_wp2_with fail;go_roundg (50 - (at_+1))
      case measure=>have hm9:=HAT.out;omega
      case rel=>exact ⟨{ o:=S.o,c:=S.c,st:=st,x:=S.x,at_:=at_+1,s:=S.s.dropLast.dropLast ++ [r] },Ao,no,co,some ⟨gs,0,none⟩,ns - 1,cs,rfl,rfl,rfl,rfl,(by first | rfl | go_num),HS2,HR6,F6⟩
   ·
    as_aux_lemma =>
     have ht:2<=ns:=(by have h:=HTK.out (by decide);rw [show takesF 8=2 from rfl] at h;omega);obtain ⟨gs,rfl,hgs1,hgs2,hcs,t0,t1⟩:=HR1.out.top (by omega);obtain ⟨u0,u1⟩:=HR1.out.sec (by omega);have hsub:wrap64 ((ns:Int) - 1)=((ns - 1:Nat):Int):=(by unfold wrap64;omega);have hsub2:wrap64 ((ns:Int) - 2)=((ns - 2:Nat):Int):=(by unfold wrap64;omega);have hsw1:IntKind.i64.wrap ((ns:Int) - 1)=((ns - 1:Nat):Int):=(by rw [IntKind.wrap_i64];omega);have hsw2:IntKind.i64.wrap ((ns:Int) - 2)=((ns - 2:Nat):Int):=(by rw [IntKind.wrap_i64];omega);have hsl:((ns - 1:Nat):Int)<=(cs:Int):=(by omega);have hsn:((ns - 1:Nat):Int) < (ns:Int):=(by omega);have hs0:(0:Int)<=((ns - 1:Nat):Int):=(by omega);have hsn2:((ns - 2:Nat):Int) < (ns:Int):=(by omega);have hs02:(0:Int)<=((ns - 2:Nat):Int):=(by omega);have hvy:=vOk_top HINV.out.s;have hvx:=vOk_top (drop_ok HINV.out.s);obtain ⟨v,hv⟩:=nm (topV S.s);obtain ⟨u,hu⟩:=nm (topV S.s.dropLast);rw [<- hv] at t0 t1 hvy;rw [<- hu] at u0 u1 hvx;have hl2:1 < S.s.length:=(by have:=HR1.out.ns_;simp only at this;omega);have hln:S.s.length=ns:=HR1.out.ns_.symm;obtain ⟨r,hr⟩:=nm (opV 8 u v)
     have HS2 := zh (show R6S l D F { o := S.o, c := S.c, st := st, x := S.x, at_ := at_ + 1, s := S.s.dropLast.dropLast ++ [r] } from by
      have h:=HACT.out (by decide);have e2:actM (8,a) { o:=S.o,c:=S.c,st:=st,x:=S.x,at_:=at_+1,s:=S.s }={ o:=S.o,c:=S.c,st:=st,x:=S.x,at_:=at_+1,s:=S.s.dropLast.dropLast ++ [opV 8 (topV S.s.dropLast) (topV S.s)] }:=rfl;rw [e2,<- hv,<- hu,<- hr] at h
      exact h)
     have HCALL:=zh (fun (wx:World)=>(by rw [hr,op_mul hvx];exact refmul_any u v wx:Calls Tryz.prog 159 #[.agg #[.int .i64 u.1,.int .i64 u.2],.agg #[.int .i64 v.1,.int .i64 v.2]] wx fun e w'=>e=.returned (.agg #[.int .i64 r.1,.int .i64 r.2])/\Fr wx.heap.size [] wx w'));have hsz:w1.heap.size<=w1.drew.heap.size:=Nat.le_refl _;have j0:w1.drew.cell? ⟨gs,(ns - 2) * 2,none⟩=some (.int .i64 u.1):=u0;have j1:w1.drew.cell? ⟨gs,(ns - 2) * 2+1,none⟩=some (.int .i64 u.2):=u1;have j2:w1.drew.cell? ⟨gs,(ns - 1) * 2,none⟩=some (.int .i64 v.1):=t0;have j3:w1.drew.cell? ⟨gs,(ns - 1) * 2+1,none⟩=some (.int .i64 v.2):=t1;have HRD1:=zh (HR1.out.fr (Fr.refl _ [] w1).drew);have FD1:=zh F1.out.drew;have HU:=zh hu;have HSS:=zh (set_sec hl2 r);rw [hln] at HSS;clear hv hu hvx hvy hl2 hln hr;go_upto_region 26 with fail;refine wp_region_held_drew (S:=fun _=>True) (by kernel_rfl) trivial (fun hHeld => ?_);refine tk (i:=0) (oi:=⟨some 114,_,_,_,_,_⟩) (v:=?_) rfl ?_ trivial ?_
     rotate_left
     · intro w hSw;go_simp;(try with_reducible rfl)
     simp only [Act.put,lPt];refine tk (i:=1) (oi:=⟨some 115,_,_,_,_,_⟩) (v:=?_) rfl ?_ trivial ?_
     rotate_left
     · intro w hSw;go_simp;(try with_reducible rfl)
     simp only [Act.put,lPt];refine tk (i:=2) (oi:=⟨some 116,_,_,_,_,_⟩) (v:=?_) rfl ?_ trivial ?_
     rotate_left
     · intro w hSw;go_simp;(try with_reducible rfl)
     simp only [Act.put,lPt];refine tk (i:=3) (oi:=⟨some 117,_,_,_,_,_⟩) (v:=?_) rfl ?_ trivial ?_
     rotate_left
     · intro w hSw;go_simp;(try with_reducible rfl)
     simp only [Act.put,lPt];refine tk (i:=4) (oi:=⟨some 118,_,_,_,_,_⟩) (v:=?_) rfl ?_ trivial ?_
     rotate_left
     · intro w hSw;go_simp;(try with_reducible rfl)
     simp only [Act.put,lPt];refine tk (i:=5) (oi:=⟨some 119,_,_,_,_,_⟩) (v:=?_) rfl ?_ trivial ?_
     rotate_left
     · intro w hSw;go_simp;(try with_reducible rfl)
     simp only [Act.put,lPt];refine tk (i:=6) (oi:=⟨some 120,_,_,_,_,_⟩) (v:=?_) rfl ?_ trivial ?_
     rotate_left
     · intro w hSw;go_simp;(try with_reducible rfl)
     simp only [Act.put,lPt];refine tk (i:=8) (oi:=⟨some 122,_,_,_,_,_⟩) (v:=?_) rfl ?_ trivial ?_
     rotate_left
     · intro w hSw;go_simp;(try with_reducible rfl)
     simp only [Act.put,lPt];refine tk (i:=9) (oi:=⟨some 123,_,_,_,_,_⟩) (v:=?_) rfl ?_ trivial ?_
     rotate_left
     · intro w hSw;go_simp;(try with_reducible rfl)
     simp only [Act.put,lPt];refine tk (i:=10) (oi:=⟨some 124,_,_,_,_,_⟩) (v:=?_) rfl ?_ trivial ?_
     rotate_left
     · intro w hSw;go_simp;(try with_reducible rfl)
     simp only [Act.put,lPt];refine tk (i:=11) (oi:=⟨some 125,_,_,_,_,_⟩) (v:=?_) rfl ?_ trivial ?_
     rotate_left
     · intro w hSw;go_simp;(try with_reducible rfl)
     simp only [Act.put,lPt];refine wpAnyH_ready (rs:=[7,12]) (by kernel_rfl) (by simp) ?_;refine AllReadyH.cons (o:=⟨some 121,_,_,_,_,_⟩) rfl (fun K hK => ?_) (AllReadyH.cons (o:=⟨some 126,_,_,_,_,_⟩) rfl (fun K hK => ?_) AllReadyH.nil);rw [if_pos (by rfl)];go_simp;refine hK.out _ _ trivial (fun hHeld => ?_);clear hK K
     try simp only [Act.put,lPt]
     refine wpAnyH_ready (rs:=[12]) (by kernel_rfl) (by simp) ?_;refine AllReadyH.cons (o:=⟨some 126,_,_,_,_,_⟩) rfl (fun K hK => ?_) AllReadyH.nil;rw [if_pos (by rfl)];go_simp;refine hK.out _ _ trivial (fun hHeld => ?_);clear hK K
     try simp only [Act.put,lPt]
     rotate_left
     rw [if_pos (by rfl)];go_simp;refine hK.out _ _ trivial (fun hHeld => ?_);clear hK K
     try simp only [Act.put,lPt]
     refine wpAnyH_ready (rs:=[7]) (by kernel_rfl) (by simp) ?_;refine AllReadyH.cons (o:=⟨some 121,_,_,_,_,_⟩) rfl (fun K hK => ?_) AllReadyH.nil;rw [if_pos (by rfl)];go_simp;refine hK.out _ _ trivial (fun hHeld => ?_);clear hK K
     try simp only [Act.put,lPt]
     rotate_left
     all_goals
      refine wpAnyH_ready (rs:=[13]) (by kernel_rfl) (by simp) ?_;refine AllReadyH.cons (o:=⟨some 127,_,_,_,_,_⟩) rfl (fun K hK => ?_) AllReadyH.nil;rw [if_pos (by rfl)];go_simp;refine (HCALL.out _).mono ?_;rintro e w5 ⟨rfl,f5⟩;have HR5:=zh (HRD1.out.fr f5);have F5:=zh (FD1.out.nx f5);refine hK.out _ _ trivial (fun hHeld => ?_);clear hK K
      try simp only [Act.put,lPt]
      refine tk (i:=14) (oi:=⟨some 128,_,_,_,_,_⟩) (v:=?_) rfl ?_ trivial ?_
      rotate_left
      · intro w hSw;go_simp;(try with_reducible rfl)
      simp only [Act.put,lPt];refine wpAnyH_ready (rs:=[15]) (by kernel_rfl) (by simp) ?_;refine AllReadyH.cons (o:=⟨none,_,_,_,_,_⟩) rfl (fun K hK => ?_) AllReadyH.nil;rw [if_pos (by rfl)];have z0:=HR5.out.thaw ((ns - 2) * 2);have z1:=HR5.out.thaw ((ns - 2) * 2+1);obtain ⟨a0,a1⟩:=HR5.out.sec (by omega);go_simp;refine hK.out _ _ trivial (fun hHeld => ?_);clear hK K
      try simp only [Act.put]
      refine wpAnyH_done (by kernel_rfl) ?_ _;have HR6:=zh ((HR5.out.put (k:=ns - 2) (by omega) r).pop (by omega));simp only [HSS.out] at HR6;have F6:=zh ((F5.out.setCell (p:=⟨gs,(ns - 2) * 2,none⟩) (.inl (by simp;omega)) (.int .i64 r.1)).setCell (p:=⟨gs,(ns - 2) * 2+1,none⟩) (.inl (by simp;omega)) (.int .i64 r.2));clear z0 z1 a0 a1 f5;go_wp2_with fail;go_roundg (50 - (at_+1))
      case measure=>have hm9:=HAT.out;omega
      case rel=>exact ⟨{ o:=S.o,c:=S.c,st:=st,x:=S.x,at_:=at_+1,s:=S.s.dropLast.dropLast ++ [r] },Ao,no,co,some ⟨gs,0,none⟩,ns - 1,cs,rfl,rfl,rfl,rfl,(by first | rfl | go_num),HS2,HR6,F6⟩
   ·
    as_aux_lemma =>
     have ht:1<=ns:=(by have h:=HTK.out (by decide);rw [show takesF 9=1 from rfl] at h;omega);obtain ⟨gs,rfl,hgs1,hgs2,hcs,t0,t1⟩:=HR1.out.top (by omega);have hsub:wrap64 ((ns:Int) - 1)=((ns - 1:Nat):Int):=(by unfold wrap64;omega);have hsl:((ns - 1:Nat):Int)<=(cs:Int):=(by omega);have hsn:((ns - 1:Nat):Int) < (ns:Int):=(by omega);have hs0:(0:Int)<=((ns - 1:Nat):Int):=(by omega);have hsw1:IntKind.i64.wrap ((ns:Int) - 1)=((ns - 1:Nat):Int):=(by rw [IntKind.wrap_i64];omega);have hvy:=vOk_top HINV.out.s;have hln:S.s.length=ns:=HR1.out.ns_.symm;have hl1:0 < S.s.length:=(by omega);obtain ⟨v,hv⟩:=nm (topV S.s);rw [<- hv] at t0 t1 hvy;have hvr:=(vOk_iff v).1 hvy;have hng:wrap64 (-v.2) = -v.2:=(by unfold wrap64;omega);have hng2:IntKind.i64.wrap (-v.2) = -v.2:=(by rw [IntKind.wrap_i64];omega);obtain ⟨r,hr⟩:=nm (conjV v)
     have HS2 := zh (show R6S l D F { o := S.o, c := S.c, st := st, x := S.x, at_ := at_ + 1, s := S.s.dropLast ++ [r] } from by
      have h:=HACT.out (by decide);have e2:actM (9,a) { o:=S.o,c:=S.c,st:=st,x:=S.x,at_:=at_+1,s:=S.s }={ o:=S.o,c:=S.c,st:=st,x:=S.x,at_:=at_+1,s:=S.s.dropLast ++ [conjV (topV S.s)] }:=rfl;rw [e2,<- hv,<- hr] at h
      exact h)
     have HCALL:=zh (fun (wx:World)=>(by rw [hr,conj_of hvy];exact refof_any _ _ wx:Calls Tryz.prog 105 #[.int .i64 v.1,.int .i64 (-v.2)] wx fun e w'=>e=.returned (.agg #[.int .i64 r.1,.int .i64 r.2])/\Fr wx.heap.size [] wx w'));have j2:w1.drew.cell? ⟨gs,(ns - 1) * 2,none⟩=some (.int .i64 v.1):=t0;have j3:w1.drew.cell? ⟨gs,(ns - 1) * 2+1,none⟩=some (.int .i64 v.2):=t1;have HRD1:=zh (HR1.out.fr (Fr.refl _ [] w1).drew);have FD1:=zh F1.out.drew;have HSS:=zh (set_last hl1 r);rw [hln] at HSS;clear hv hvy hl1 hln hr hvr;go_upto_region 33 with fail;refine wp_region_held_drew (S:=fun _=>True) (by kernel_rfl) trivial (fun hHeld => ?_);refine tk (i:=0) (oi:=⟨some 157,_,_,_,_,_⟩) (v:=?_) rfl ?_ trivial ?_
     rotate_left
     · intro w hSw;go_simp;(try with_reducible rfl)
     simp only [Act.put,lPt];refine tk (i:=1) (oi:=⟨some 158,_,_,_,_,_⟩) (v:=?_) rfl ?_ trivial ?_
     rotate_left
     · intro w hSw;go_simp;(try with_reducible rfl)
     simp only [Act.put,lPt];refine tk (i:=2) (oi:=⟨some 159,_,_,_,_,_⟩) (v:=?_) rfl ?_ trivial ?_
     rotate_left
     · intro w hSw;go_simp;(try with_reducible rfl)
     simp only [Act.put,lPt];refine tk (i:=3) (oi:=⟨some 160,_,_,_,_,_⟩) (v:=?_) rfl ?_ trivial ?_
     rotate_left
     · intro w hSw;go_simp;(try with_reducible rfl)
     simp only [Act.put,lPt];refine tk (i:=4) (oi:=⟨some 161,_,_,_,_,_⟩) (v:=?_) rfl ?_ trivial ?_
     rotate_left
     · intro w hSw;go_simp;(try with_reducible rfl)
     simp only [Act.put,lPt];refine tk (i:=5) (oi:=⟨some 162,_,_,_,_,_⟩) (v:=?_) rfl ?_ trivial ?_
     rotate_left
     · intro w hSw;go_simp;(try with_reducible rfl)
     simp only [Act.put,lPt];refine tk (i:=6) (oi:=⟨some 163,_,_,_,_,_⟩) (v:=?_) rfl ?_ trivial ?_
     rotate_left
     · intro w hSw;go_simp;(try with_reducible rfl)
     simp only [Act.put,lPt];refine tk (i:=7) (oi:=⟨some 164,_,_,_,_,_⟩) (v:=?_) rfl ?_ trivial ?_
     rotate_left
     · intro w hSw;go_simp;(try with_reducible rfl)
     simp only [Act.put,lPt];refine tk (i:=9) (oi:=⟨some 166,_,_,_,_,_⟩) (v:=?_) rfl ?_ trivial ?_
     rotate_left
     · intro w hSw;go_simp;(try with_reducible rfl)
     simp only [Act.put,lPt];refine tk (i:=10) (oi:=⟨some 167,_,_,_,_,_⟩) (v:=?_) rfl ?_ trivial ?_
     rotate_left
     · intro w hSw;go_simp;(try with_reducible rfl)
     simp only [Act.put,lPt];refine tk (i:=11) (oi:=⟨some 168,_,_,_,_,_⟩) (v:=?_) rfl ?_ trivial ?_
     rotate_left
     · intro w hSw;go_simp;(try with_reducible rfl)
     simp only [Act.put,lPt];refine tk (i:=12) (oi:=⟨some 169,_,_,_,_,_⟩) (v:=?_) rfl ?_ trivial ?_
     rotate_left
     · intro w hSw;go_simp;(try with_reducible rfl)
     simp only [Act.put,lPt];refine tk (i:=13) (oi:=⟨some 170,_,_,_,_,_⟩) (v:=?_) rfl ?_ trivial ?_
     rotate_left
     · intro w hSw;go_simp;(try with_reducible rfl)
     simp only [Act.put,lPt];refine wpAnyH_ready (rs:=[8,14]) (by kernel_rfl) (by simp) ?_;refine AllReadyH.cons (o:=⟨some 165,_,_,_,_,_⟩) rfl (fun K hK => ?_) (AllReadyH.cons (o:=⟨some 171,_,_,_,_,_⟩) rfl (fun K hK => ?_) AllReadyH.nil);rw [if_pos (by rfl)];go_simp;refine hK.out _ _ trivial (fun hHeld => ?_);clear hK K
     try simp only [Act.put,lPt]
     refine wpAnyH_ready (rs:=[14]) (by kernel_rfl) (by simp) ?_;refine AllReadyH.cons (o:=⟨some 171,_,_,_,_,_⟩) rfl (fun K hK => ?_) AllReadyH.nil;rw [if_pos (by rfl)];go_simp;refine hK.out _ _ trivial (fun hHeld => ?_);clear hK K
     try simp only [Act.put,lPt]
     refine tk (i:=15) (oi:=⟨some 172,_,_,_,_,_⟩) (v:=?_) rfl ?_ trivial ?_
     rotate_left
     · intro w hSw;go_simp;(try with_reducible rfl)
     simp only [Act.put,lPt]
     rotate_left
     rw [if_pos (by rfl)];go_simp;refine hK.out _ _ trivial (fun hHeld => ?_);clear hK K
     try simp only [Act.put,lPt]
     refine tk (i:=15) (oi:=⟨some 172,_,_,_,_,_⟩) (v:=?_) rfl ?_ trivial ?_
     rotate_left
     · intro w hSw;go_simp;(try with_reducible rfl)
     simp only [Act.put,lPt];refine wpAnyH_ready (rs:=[8]) (by kernel_rfl) (by simp) ?_;refine AllReadyH.cons (o:=⟨some 165,_,_,_,_,_⟩) rfl (fun K hK => ?_) AllReadyH.nil;rw [if_pos (by rfl)];go_simp;refine hK.out _ _ trivial (fun hHeld => ?_);clear hK K
     try simp only [Act.put,lPt]
     rotate_left
     all_goals
      refine wpAnyH_ready (rs:=[16]) (by kernel_rfl) (by simp) ?_;refine AllReadyH.cons (o:=⟨some 173,_,_,_,_,_⟩) rfl (fun K hK => ?_) AllReadyH.nil;rw [if_pos (by rfl)];go_simp;refine (HCALL.out _).mono ?_;rintro e w5 ⟨rfl,f5⟩;have HR5:=zh (HRD1.out.fr f5);have F5:=zh (FD1.out.nx f5);refine hK.out _ _ trivial (fun hHeld => ?_);clear hK K
      try simp only [Act.put,lPt]
      refine tk (i:=17) (oi:=⟨some 174,_,_,_,_,_⟩) (v:=?_) rfl ?_ trivial ?_
      rotate_left
      · intro w hSw;go_simp;(try with_reducible rfl)
      simp only [Act.put,lPt];refine wpAnyH_ready (rs:=[18]) (by kernel_rfl) (by simp) ?_;refine AllReadyH.cons (o:=⟨none,_,_,_,_,_⟩) rfl (fun K hK => ?_) AllReadyH.nil;rw [if_pos (by rfl)];have z0:=HR5.out.thaw ((ns - 1) * 2);have z1:=HR5.out.thaw ((ns - 1) * 2+1);obtain ⟨a0,a1⟩:=HR5.out.top2 (by omega);go_simp;refine hK.out _ _ trivial (fun hHeld => ?_);clear hK K
      try simp only [Act.put]
      refine wpAnyH_done (by kernel_rfl) ?_ _;have HR6:=zh (HR5.out.put (k:=ns - 1) (by omega) r);simp only [HSS.out] at HR6;have F6:=zh ((F5.out.setCell (p:=⟨gs,(ns - 1) * 2,none⟩) (.inl (by simp;omega)) (.int .i64 r.1)).setCell (p:=⟨gs,(ns - 1) * 2+1,none⟩) (.inl (by simp;omega)) (.int .i64 r.2));clear z0 z1 a0 a1 f5 hng hng2 j2 j3 t0 t1;go_wp2_with fail;go_roundg (50 - (at_+1))
      case measure=>have hm9:=HAT.out;omega
      case rel=>exact ⟨{ o:=S.o,c:=S.c,st:=st,x:=S.x,at_:=at_+1,s:=S.s.dropLast ++ [r] },Ao,no,co,some ⟨gs,0,none⟩,ns,cs,rfl,rfl,rfl,rfl,(by first | rfl | go_num),HS2,HR6,F6⟩
   ·
    as_aux_lemma =>
     have ht:1<=ns:=(by have h:=HTK.out (by decide);rw [show takesF 10=1 from rfl] at h;omega);obtain ⟨gs,rfl,hgs1,hgs2,hcs,t0,t1⟩:=HR1.out.top (by omega);have hsub:wrap64 ((ns:Int) - 1)=((ns - 1:Nat):Int):=(by unfold wrap64;omega);have hsl:((ns - 1:Nat):Int)<=(cs:Int):=(by omega);have hsn:((ns - 1:Nat):Int) < (ns:Int):=(by omega);have hs0:(0:Int)<=((ns - 1:Nat):Int):=(by omega);have hsw1:IntKind.i64.wrap ((ns:Int) - 1)=((ns - 1:Nat):Int):=(by rw [IntKind.wrap_i64];omega);have hvy:=vOk_top HINV.out.s;have hln:S.s.length=ns:=HR1.out.ns_.symm;have hl1:0 < S.s.length:=(by omega);obtain ⟨v,hv⟩:=nm (topV S.s);rw [<- hv] at t0 t1 hvy;have hvr:=(vOk_iff v).1 hvy;have hng:wrap64 (-v.2) = -v.2:=(by unfold wrap64;omega);have hng2:IntKind.i64.wrap (-v.2) = -v.2:=(by rw [IntKind.wrap_i64];omega);obtain ⟨r,hr⟩:=nm (turnV v)
     have HS2 := zh (show R6S l D F { o := S.o, c := S.c, st := st, x := S.x, at_ := at_ + 1, s := S.s.dropLast ++ [r] } from by
      have h:=HACT.out (by decide);have e2:actM (10,a) { o:=S.o,c:=S.c,st:=st,x:=S.x,at_:=at_+1,s:=S.s }={ o:=S.o,c:=S.c,st:=st,x:=S.x,at_:=at_+1,s:=S.s.dropLast ++ [turnV (topV S.s)] }:=rfl;rw [e2,<- hv,<- hr] at h
      exact h)
     have HCALL:=zh (fun (wx:World)=>(by rw [hr,turn_of hvy];exact refof_any _ _ wx:Calls Tryz.prog 105 #[.int .i64 (-v.2),.int .i64 v.1] wx fun e w'=>e=.returned (.agg #[.int .i64 r.1,.int .i64 r.2])/\Fr wx.heap.size [] wx w'));have j2:w1.drew.cell? ⟨gs,(ns - 1) * 2,none⟩=some (.int .i64 v.1):=t0;have j3:w1.drew.cell? ⟨gs,(ns - 1) * 2+1,none⟩=some (.int .i64 v.2):=t1;have HRD1:=zh (HR1.out.fr (Fr.refl _ [] w1).drew);have FD1:=zh F1.out.drew;have HSS:=zh (set_last hl1 r);rw [hln] at HSS;clear hv hvy hl1 hln hr hvr;go_upto_region 35 with fail;refine wp_region_held_drew (S:=fun _=>True) (by kernel_rfl) trivial (fun hHeld => ?_);refine tk (i:=0) (oi:=⟨some 177,_,_,_,_,_⟩) (v:=?_) rfl ?_ trivial ?_
     rotate_left
     · intro w hSw;go_simp;(try with_reducible rfl)
     simp only [Act.put,lPt];refine tk (i:=1) (oi:=⟨some 178,_,_,_,_,_⟩) (v:=?_) rfl ?_ trivial ?_
     rotate_left
     · intro w hSw;go_simp;(try with_reducible rfl)
     simp only [Act.put,lPt];refine tk (i:=2) (oi:=⟨some 179,_,_,_,_,_⟩) (v:=?_) rfl ?_ trivial ?_
     rotate_left
     · intro w hSw;go_simp;(try with_reducible rfl)
     simp only [Act.put,lPt];refine tk (i:=3) (oi:=⟨some 180,_,_,_,_,_⟩) (v:=?_) rfl ?_ trivial ?_
     rotate_left
     · intro w hSw;go_simp;(try with_reducible rfl)
     simp only [Act.put,lPt];refine tk (i:=4) (oi:=⟨some 181,_,_,_,_,_⟩) (v:=?_) rfl ?_ trivial ?_
     rotate_left
     · intro w hSw;go_simp;(try with_reducible rfl)
     simp only [Act.put,lPt];refine tk (i:=5) (oi:=⟨some 182,_,_,_,_,_⟩) (v:=?_) rfl ?_ trivial ?_
     rotate_left
     · intro w hSw;go_simp;(try with_reducible rfl)
     simp only [Act.put,lPt];refine tk (i:=6) (oi:=⟨some 183,_,_,_,_,_⟩) (v:=?_) rfl ?_ trivial ?_
     rotate_left
     · intro w hSw;go_simp;(try with_reducible rfl)
     simp only [Act.put,lPt];refine tk (i:=7) (oi:=⟨some 184,_,_,_,_,_⟩) (v:=?_) rfl ?_ trivial ?_
     rotate_left
     · intro w hSw;go_simp;(try with_reducible rfl)
     simp only [Act.put,lPt];refine tk (i:=10) (oi:=⟨some 187,_,_,_,_,_⟩) (v:=?_) rfl ?_ trivial ?_
     rotate_left
     · intro w hSw;go_simp;(try with_reducible rfl)
     simp only [Act.put,lPt];refine tk (i:=11) (oi:=⟨some 188,_,_,_,_,_⟩) (v:=?_) rfl ?_ trivial ?_
     rotate_left
     · intro w hSw;go_simp;(try with_reducible rfl)
     simp only [Act.put,lPt];refine tk (i:=12) (oi:=⟨some 189,_,_,_,_,_⟩) (v:=?_) rfl ?_ trivial ?_
     rotate_left
     · intro w hSw;go_simp;(try with_reducible rfl)
     simp only [Act.put,lPt];refine tk (i:=13) (oi:=⟨some 190,_,_,_,_,_⟩) (v:=?_) rfl ?_ trivial ?_
     rotate_left
     · intro w hSw;go_simp;(try with_reducible rfl)
     simp only [Act.put,lPt];refine tk (i:=14) (oi:=⟨some 191,_,_,_,_,_⟩) (v:=?_) rfl ?_ trivial ?_
     rotate_left
     · intro w hSw;go_simp;(try with_reducible rfl)
     simp only [Act.put,lPt];refine wpAnyH_ready (rs:=[8,15]) (by kernel_rfl) (by simp) ?_;refine AllReadyH.cons (o:=⟨some 185,_,_,_,_,_⟩) rfl (fun K hK => ?_) (AllReadyH.cons (o:=⟨some 192,_,_,_,_,_⟩) rfl (fun K hK => ?_) AllReadyH.nil);rw [if_pos (by rfl)];go_simp;refine hK.out _ _ trivial (fun hHeld => ?_);clear hK K
     try simp only [Act.put,lPt]
     refine tk (i:=9) (oi:=⟨some 186,_,_,_,_,_⟩) (v:=?_) rfl ?_ trivial ?_
     rotate_left
     · intro w hSw;go_simp;(try with_reducible rfl)
     simp only [Act.put,lPt];refine wpAnyH_ready (rs:=[15]) (by kernel_rfl) (by simp) ?_;refine AllReadyH.cons (o:=⟨some 192,_,_,_,_,_⟩) rfl (fun K hK => ?_) AllReadyH.nil;rw [if_pos (by rfl)];go_simp;refine hK.out _ _ trivial (fun hHeld => ?_);clear hK K
     try simp only [Act.put,lPt]
     rotate_left
     rw [if_pos (by rfl)];go_simp;refine hK.out _ _ trivial (fun hHeld => ?_);clear hK K
     try simp only [Act.put,lPt]
     refine wpAnyH_ready (rs:=[8]) (by kernel_rfl) (by simp) ?_;refine AllReadyH.cons (o:=⟨some 185,_,_,_,_,_⟩) rfl (fun K hK => ?_) AllReadyH.nil;rw [if_pos (by rfl)];go_simp;refine hK.out _ _ trivial (fun hHeld => ?_);clear hK K
     try simp only [Act.put,lPt]
     refine tk (i:=9) (oi:=⟨some 186,_,_,_,_,_⟩) (v:=?_) rfl ?_ trivial ?_
     rotate_left
     · intro w hSw;go_simp;(try with_reducible rfl)
     simp only [Act.put,lPt]
     rotate_left
     all_goals
      refine wpAnyH_ready (rs:=[16]) (by kernel_rfl) (by simp) ?_;refine AllReadyH.cons (o:=⟨some 193,_,_,_,_,_⟩) rfl (fun K hK => ?_) AllReadyH.nil;rw [if_pos (by rfl)];go_simp;refine (HCALL.out _).mono ?_;rintro e w5 ⟨rfl,f5⟩;have HR5:=zh (HRD1.out.fr f5);have F5:=zh (FD1.out.nx f5);refine hK.out _ _ trivial (fun hHeld => ?_);clear hK K
      try simp only [Act.put,lPt]
      refine tk (i:=17) (oi:=⟨some 194,_,_,_,_,_⟩) (v:=?_) rfl ?_ trivial ?_
      rotate_left
      · intro w hSw;go_simp;(try with_reducible rfl)
      simp only [Act.put,lPt];refine wpAnyH_ready (rs:=[18]) (by kernel_rfl) (by simp) ?_;refine AllReadyH.cons (o:=⟨none,_,_,_,_,_⟩) rfl (fun K hK => ?_) AllReadyH.nil;rw [if_pos (by rfl)];have z0:=HR5.out.thaw ((ns - 1) * 2);have z1:=HR5.out.thaw ((ns - 1) * 2+1);obtain ⟨a0,a1⟩:=HR5.out.top2 (by omega);go_simp;refine hK.out _ _ trivial (fun hHeld => ?_);clear hK K
      try simp only [Act.put]
      refine wpAnyH_done (by kernel_rfl) ?_ _;have HR6:=zh (HR5.out.put (k:=ns - 1) (by omega) r);simp only [HSS.out] at HR6;have F6:=zh ((F5.out.setCell (p:=⟨gs,(ns - 1) * 2,none⟩) (.inl (by simp;omega)) (.int .i64 r.1)).setCell (p:=⟨gs,(ns - 1) * 2+1,none⟩) (.inl (by simp;omega)) (.int .i64 r.2));clear z0 z1 a0 a1 f5 hng hng2 j2 j3 t0 t1;go_wp2_with fail;go_roundg (50 - (at_+1))
      case measure=>have hm9:=HAT.out;omega
      case rel=>exact ⟨{ o:=S.o,c:=S.c,st:=st,x:=S.x,at_:=at_+1,s:=S.s.dropLast ++ [r] },Ao,no,co,some ⟨gs,0,none⟩,ns,cs,rfl,rfl,rfl,rfl,(by first | rfl | go_num),HS2,HR6,F6⟩
   ·
    as_aux_lemma =>
     have ht:1<=ns:=(by have h:=HTK.out (by decide);rw [show takesF 11=1 from rfl] at h;omega);obtain ⟨gs,rfl,hgs1,hgs2,hcs,t0,t1⟩:=HR1.out.top (by omega);have hsub:wrap64 ((ns:Int) - 1)=((ns - 1:Nat):Int):=(by unfold wrap64;omega);have hsl:((ns - 1:Nat):Int)<=(cs:Int):=(by omega);have hsn:((ns - 1:Nat):Int) < (ns:Int):=(by omega);have hs0:(0:Int)<=((ns - 1:Nat):Int):=(by omega);obtain ⟨v,hv⟩:=nm (topV S.s);rw [<- hv] at t0 t1
     have HS2 := zh (show R6S l D F { o := S.o, c := S.c, st := st, x := S.x, at_ := at_ + 1, s := S.s ++ [v] } from by
      have h:=HACT.out (by decide)
      have e:S.s.dropLast ++ [topV S.s]=S.s:=by
       have h0:0 < S.s.length:=(by have:=HR1.out.ns_;simp only at this;omega)
       rcases List.eq_nil_or_concat S.s with e | ⟨t,y,e⟩
       · rw [e] at h0;cases h0
       · rw [e];simp [topV]
      have e2:actM (11,a) { o:=S.o,c:=S.c,st:=st,x:=S.x,at_:=at_+1,s:=S.s }={ o:=S.o,c:=S.c,st:=st,x:=S.x,at_:=at_+1,s:=S.s.dropLast ++ [topV S.s] ++ [topV S.s] }:=rfl;rw [e2,e,<- hv] at h
      exact h)
     clear hv;have hown:=HR1.out.stk;go_wp2_with (at_builtin;refine wpList_app_lit _ rfl (.tmp 197) (.tmp 203) valTy rfl b0 (.slice (some ⟨gs,0,none⟩) ns cs) ns _ rfl hown 1 1 _ rfl rfl (by simp [Value.oneCell']) (by omega) (by omega) hb1 ?_;intro A3 c3 w3 hown3 hg3 hat3);have HR3:=zh ((HR1.out.fr ((Fr.refl w1.heap.size [] w1).alloc (Nat.le_refl _) (.cells #[.int .i64 v.1,.int .i64 v.2] 48))).push v hown3 hg3 (by rw [World.size_alloc];exact hat3));have F3:=zh (F1.out.trans ((Fr.of_app hg3 hown hb1).mono (B':=w.heap.size) (L':=[]) hb0 (by simp)));clear hown3 hg3 hat3 hown;go_roundg (50 - (at_+1))
     case measure=>have hm9:=HAT.out;omega
     case rel=>exact ⟨{ o:=S.o,c:=S.c,st:=st,x:=S.x,at_:=at_+1,s:=S.s ++ [v] },Ao,no,co,A3,ns+1,c3,rfl,rfl,rfl,rfl,(by first | rfl | go_num),HS2,HR3,F3⟩
   ·
    as_aux_lemma =>
     have ht:2<=ns:=(by have h:=HTK.out (by decide);rw [show takesF 12=2 from rfl] at h;omega);obtain ⟨gs,rfl,hgs1,hgs2,hcs,t0,t1⟩:=HR1.out.top (by omega);obtain ⟨u0,u1⟩:=HR1.out.sec (by omega);have hsub:wrap64 ((ns:Int) - 1)=((ns - 1:Nat):Int):=(by unfold wrap64;omega);have hsub2:wrap64 ((ns:Int) - 2)=((ns - 2:Nat):Int):=(by unfold wrap64;omega);have hsw1:IntKind.i64.wrap ((ns:Int) - 1)=((ns - 1:Nat):Int):=(by rw [IntKind.wrap_i64];omega);have hsw2:IntKind.i64.wrap ((ns:Int) - 2)=((ns - 2:Nat):Int):=(by rw [IntKind.wrap_i64];omega);have hsl:((ns - 1:Nat):Int)<=(cs:Int):=(by omega);have hsn:((ns - 1:Nat):Int) < (ns:Int):=(by omega);have hs0:(0:Int)<=((ns - 1:Nat):Int):=(by omega);have hsn2:((ns - 2:Nat):Int) < (ns:Int):=(by omega);have hs02:(0:Int)<=((ns - 2:Nat):Int):=(by omega);have hvy:=vOk_top HINV.out.s;have hvx:=vOk_top (drop_ok HINV.out.s);obtain ⟨v,hv⟩:=nm (topV S.s);obtain ⟨u,hu⟩:=nm (topV S.s.dropLast);rw [<- hv] at t0 t1 hvy;rw [<- hu] at u0 u1 hvx;have hl2:1 < S.s.length:=(by have:=HR1.out.ns_;simp only at this;omega);have hln:S.s.length=ns:=HR1.out.ns_.symm
     have HS2 := zh (show R6S l D F { o := S.o, c := S.c, st := st, x := S.x, at_ := at_ + 1, s := (S.s.set (ns - 2) v).set (ns - 1) u } from by
      have h:=HACT.out (by decide);have e2:actM (12,a) { o:=S.o,c:=S.c,st:=st,x:=S.x,at_:=at_+1,s:=S.s }={ o:=S.o,c:=S.c,st:=st,x:=S.x,at_:=at_+1,s:=S.s.dropLast.dropLast ++ [topV S.s] ++ [topV S.s.dropLast] }:=rfl;rw [e2,<- hv,<- hu,<- swap_two hl2,hln] at h
      exact h)
     have HR2:=zh ((((HR1.out.put (k:=ns - 2) (by omega) v).put (k:=ns - 1) (by omega) u)).fr (Fr.refl _ [] _).drew);have F2:=zh ((((F1.out.setCell (p:=⟨gs,(ns - 2) * 2,none⟩) (.inl (by simp;omega)) (.int .i64 v.1)).setCell (p:=⟨gs,(ns - 2) * 2+1,none⟩) (.inl (by simp;omega)) (.int .i64 v.2)).setCell (p:=⟨gs,(ns - 1) * 2,none⟩) (.inl (by simp;omega)) (.int .i64 u.1)).setCell (p:=⟨gs,(ns - 1) * 2+1,none⟩) (.inl (by simp;omega)) (.int .i64 u.2)).drew;have z0:=HR1.out.thaw ((ns - 2) * 2);have z1:=HR1.out.thaw ((ns - 2) * 2+1);have z2:=HR1.out.thaw ((ns - 1) * 2);have z3:=HR1.out.thaw ((ns - 1) * 2+1);have y0:w1.drew.frozen? ⟨gs,(ns - 2) * 2,none⟩=false:=z0;have y1:w1.drew.frozen? ⟨gs,(ns - 2) * 2+1,none⟩=false:=z1;have y2:w1.drew.frozen? ⟨gs,(ns - 1) * 2,none⟩=false:=z2;have y3:w1.drew.frozen? ⟨gs,(ns - 1) * 2+1,none⟩=false:=z3;have j0:w1.drew.cell? ⟨gs,(ns - 2) * 2,none⟩=some (.int .i64 u.1):=u0;have j1:w1.drew.cell? ⟨gs,(ns - 2) * 2+1,none⟩=some (.int .i64 u.2):=u1;have j2:w1.drew.cell? ⟨gs,(ns - 1) * 2,none⟩=some (.int .i64 v.1):=t0;have j3:w1.drew.cell? ⟨gs,(ns - 1) * 2+1,none⟩=some (.int .i64 v.2):=t1;clear hv hu hvx hvy hl2 hln;go_upto_region 39 with fail;go_region
     all_goals
      go_wp2_with fail;go_roundg (50 - (at_+1))
      case measure=>have hm9:=HAT.out;omega
      case rel=>exact ⟨{ o:=S.o,c:=S.c,st:=st,x:=S.x,at_:=at_+1,s:=(S.s.set (ns - 2) v).set (ns - 1) u },Ao,no,co,some ⟨gs,0,none⟩,ns,cs,rfl,rfl,rfl,rfl,(by first | rfl | go_num),HS2,HR2,F2⟩
   ·
    as_aux_lemma =>
     have ht:1<=ns:=(by have h:=HTK.out (by decide);rw [show takesF 13=1 from rfl] at h;omega);obtain ⟨gs,rfl,hgs1,hgs2,hcs,t0,t1⟩:=HR1.out.top (by omega);have hsub:wrap64 ((ns:Int) - 1)=((ns - 1:Nat):Int):=(by unfold wrap64;omega);have hsl:((ns - 1:Nat):Int)<=(cs:Int):=(by omega);have hsn:((ns - 1:Nat):Int) < (ns:Int):=(by omega);have hs0:(0:Int)<=((ns - 1:Nat):Int):=(by omega);have HS2:=zh (show R6S l D F { o:=S.o,c:=S.c,st:=st,x:=S.x,at_:=at_+1,s:=S.s.dropLast } from HACT.out (by decide));have HR2:=zh (HR1.out.pop (by omega));clear t0 t1;go_wp2_with fail;go_roundg (50 - (at_+1))
     case measure=>have hm9:=HAT.out;omega
     case rel=>exact ⟨{ o:=S.o,c:=S.c,st:=st,x:=S.x,at_:=at_+1,s:=S.s.dropLast },Ao,no,co,some ⟨gs,0,none⟩,ns - 1,cs,rfl,rfl,rfl,rfl,(by first | rfl | go_num),HS2,HR2,F1⟩
   ·
    as_aux_lemma =>
     have ht:1<=ns:=(by have h:=HTK.out (by decide);rw [show takesF 14=1 from rfl] at h;omega);obtain ⟨gs,rfl,hgs1,hgs2,hcs,t0,t1⟩:=HR1.out.top (by omega);have hsub:wrap64 ((ns:Int) - 1)=((ns - 1:Nat):Int):=(by unfold wrap64;omega);have hsl:((ns - 1:Nat):Int)<=(cs:Int):=(by omega);have hsn:((ns - 1:Nat):Int) < (ns:Int):=(by omega);have hs0:(0:Int)<=((ns - 1:Nat):Int):=(by omega);obtain ⟨v,hv⟩:=nm (topV S.s);rw [<- hv] at t0 t1;have HS2:=zh (show R6S l D F { o:=S.o ++ [v],c:=S.c,st:=st,x:=S.x,at_:=at_+1,s:=S.s.dropLast } by rw [hv];exact HACT.out (by decide));clear hv;have hown:=HR1.out.out;go_wp2_with (at_builtin;refine wpList_app_lit _ rfl (.tmp 227) (.tmp 233) valTy rfl b0 (.slice Ao no co) no _ rfl hown 1 1 _ rfl rfl (by simp [Value.oneCell']) (by omega) (by omega) hb1 ?_;intro A3 c3 w3 hown3 hg3 hat3);have HR3:=zh (((HR1.out.fr ((Fr.refl w1.heap.size [] w1).alloc (Nat.le_refl _) (.cells #[.int .i64 v.1,.int .i64 v.2] 48))).emit v hown3 hg3 (by rw [World.size_alloc];exact hat3)).pop (by omega));have F3:=zh (F1.out.trans ((Fr.of_app hg3 hown hb1).mono (B':=w.heap.size) (L':=[]) hb0 (by simp)));clear hown3 hg3 hat3 hown;go_roundg (50 - (at_+1))
     case measure=>have hm9:=HAT.out;omega
     case rel=>exact ⟨{ o:=S.o ++ [v],c:=S.c,st:=st,x:=S.x,at_:=at_+1,s:=S.s.dropLast },A3,no+1,c3,some ⟨gs,0,none⟩,ns - 1,cs,rfl,rfl,rfl,rfl,(by first | rfl | go_num),HS2,HR3,F3⟩
   ·
    as_aux_lemma =>
     have ht:1<=ns:=(by have h:=HTK.out (by decide);rw [show takesF 15=1 from rfl] at h;omega);obtain ⟨gs,rfl,hgs1,hgs2,hcs,t0,t1⟩:=HR1.out.top (by omega);have hsub:wrap64 ((ns:Int) - 1)=((ns - 1:Nat):Int):=(by unfold wrap64;omega);have hsl:((ns - 1:Nat):Int)<=(cs:Int):=(by omega);have hsn:((ns - 1:Nat):Int) < (ns:Int):=(by omega);have hs0:(0:Int)<=((ns - 1:Nat):Int):=(by omega);have hj:=HJ1.out (.inl rfl);have hvz:=zero_of (vOk_top HINV.out.s);obtain ⟨v,hv⟩:=nm (topV S.s);rw [<- hv] at t0 t1 hvz;have HR2:=zh (HR1.out.pop (by omega));have HJZ:=zh (show R6S l D F (jzM a { o:=S.o,c:=S.c,st:=st,x:=S.x,at_:=at_+1,s:=S.s }) from HACT.out (by decide))
     by_cases hz:v=(0,0)
     ·
      have HS2 := zh (show R6S l D F { o := S.o, c := S.c, st := st, x := S.x, at_ := at_ + 1 + a.toNat, s := S.s.dropLast } from by
       have h:=HJZ.out;unfold jzM at h;rw [if_pos (by rw [show topV S.s=v from hv.symm,hvz,decide_eq_true hz])] at h
       exact h)
      have h49b:at_+1+a.toNat<=49:=HS2.out.inv.at_;have hwj:wrap64 ((at_:Int)+1+a)=((at_+1+a.toNat:Nat):Int):=(by unfold wrap64;omega);have hwj2:wrap64 (((at_+1:Nat):Int)+a)=((at_+1+a.toNat:Nat):Int):=(by unfold wrap64;omega);have HR3:=zh (HR2.out.next (at_+1+a.toNat) st);subst hz;have hq:=val_eql_any (0,0) (0,0);simp only [decide_true] at hq t0 t1;clear hv hvz;go_wp2_with fail;go_roundg (50 - (at_+1+a.toNat))
      case measure=>have hm9:=HAT.out;omega
      case rel=>exact ⟨{ o:=S.o,c:=S.c,st:=st,x:=S.x,at_:=at_+1+a.toNat,s:=S.s.dropLast },Ao,no,co,some ⟨gs,0,none⟩,ns - 1,cs,rfl,rfl,rfl,rfl,(by first | rfl | go_num),HS2,HR3,F1⟩
     ·
      have HS2 := zh (show R6S l D F { o := S.o, c := S.c, st := st, x := S.x, at_ := at_ + 1, s := S.s.dropLast } from by
       have h:=HJZ.out;unfold jzM at h;rw [if_neg (by rw [show topV S.s=v from hv.symm,hvz,decide_eq_false hz];simp)] at h
       exact h)
      have hq:=val_eql_any v (0,0);rw [decide_eq_false hz] at hq;clear hv hvz hz;go_wp2_with fail;go_roundg (50 - (at_+1))
      case measure=>have hm9:=HAT.out;omega
      case rel=>exact ⟨{ o:=S.o,c:=S.c,st:=st,x:=S.x,at_:=at_+1,s:=S.s.dropLast },Ao,no,co,some ⟨gs,0,none⟩,ns - 1,cs,rfl,rfl,rfl,rfl,(by first | rfl | go_num),HS2,HR2,F1⟩
   ·
    as_aux_lemma =>
     have hj:=HJ1.out (.inr rfl);have HS2:=zh (show R6S l D F { o:=S.o,c:=S.c,st:=st,x:=S.x,at_:=at_+1+a.toNat,s:=S.s } from HACT.out (by decide));have h49b:at_+1+a.toNat<=49:=HS2.out.inv.at_;have hwj:wrap64 ((at_:Int)+1+a)=((at_+1+a.toNat:Nat):Int):=(by unfold wrap64;omega);have hwj2:wrap64 (((at_+1:Nat):Int)+a)=((at_+1+a.toNat:Nat):Int):=(by unfold wrap64;omega);have HR2:=zh (HR1.out.next (at_+1+a.toNat) st);go_wp2_with fail;go_roundg (50 - (at_+1+a.toNat))
     case measure=>have hm9:=HAT.out;omega
     case rel=>exact ⟨{ o:=S.o,c:=S.c,st:=st,x:=S.x,at_:=at_+1+a.toNat,s:=S.s },Ao,no,co,As,ns,cs,rfl,rfl,rfl,rfl,(by first | rfl | go_num),HS2,HR2,F1⟩
   ·
    as_aux_lemma =>
     have ht:2<=ns:=(by have h:=HTK.out (by decide);rw [show takesF 17=2 from rfl] at h;omega);obtain ⟨gs,rfl,hgs1,hgs2,hcs,t0,t1⟩:=HR1.out.top (by omega);obtain ⟨u0,u1⟩:=HR1.out.sec (by omega);have hsub:wrap64 ((ns:Int) - 1)=((ns - 1:Nat):Int):=(by unfold wrap64;omega);have hsub2:wrap64 ((ns:Int) - 2)=((ns - 2:Nat):Int):=(by unfold wrap64;omega);have hsw1:IntKind.i64.wrap ((ns:Int) - 1)=((ns - 1:Nat):Int):=(by rw [IntKind.wrap_i64];omega);have hsw2:IntKind.i64.wrap ((ns:Int) - 2)=((ns - 2:Nat):Int):=(by rw [IntKind.wrap_i64];omega);have hsl:((ns - 1:Nat):Int)<=(cs:Int):=(by omega);have hsn:((ns - 1:Nat):Int) < (ns:Int):=(by omega);have hs0:(0:Int)<=((ns - 1:Nat):Int):=(by omega);have hsn2:((ns - 2:Nat):Int) < (ns:Int):=(by omega);have hs02:(0:Int)<=((ns - 2:Nat):Int):=(by omega);have hvy:=vOk_top HINV.out.s;have hvx:=vOk_top (drop_ok HINV.out.s);obtain ⟨v,hv⟩:=nm (topV S.s);obtain ⟨u,hu⟩:=nm (topV S.s.dropLast);rw [<- hv] at t0 t1 hvy;rw [<- hu] at u0 u1 hvx;have hl2:1 < S.s.length:=(by have:=HR1.out.ns_;simp only at this;omega);have hln:S.s.length=ns:=HR1.out.ns_.symm;have hop:=op_less hvx hvy;obtain ⟨r,hr⟩:=nm (opV 17 u v)
     have HS2 := zh (show R6S l D F { o := S.o, c := S.c, st := st, x := S.x, at_ := at_ + 1, s := S.s.dropLast.dropLast ++ [r] } from by
      have h:=HACT.out (by decide);have e2:actM (17,a) { o:=S.o,c:=S.c,st:=st,x:=S.x,at_:=at_+1,s:=S.s }={ o:=S.o,c:=S.c,st:=st,x:=S.x,at_:=at_+1,s:=S.s.dropLast.dropLast ++ [opV 17 (topV S.s.dropLast) (topV S.s)] }:=rfl;rw [e2,<- hv,<- hu,<- hr] at h
      exact h)
     rw [<- hr] at hop;have j0:w1.drew.cell? ⟨gs,(ns - 2) * 2,none⟩=some (.int .i64 u.1):=u0;have j1:w1.drew.cell? ⟨gs,(ns - 2) * 2+1,none⟩=some (.int .i64 u.2):=u1;have j2:w1.drew.cell? ⟨gs,(ns - 1) * 2,none⟩=some (.int .i64 v.1):=t0;have j3:w1.drew.cell? ⟨gs,(ns - 1) * 2+1,none⟩=some (.int .i64 v.2):=t1;have HRD1:=zh (HR1.out.fr (Fr.refl _ [] w1).drew);have z0:=HRD1.out.thaw ((ns - 2) * 2);have z1:=HRD1.out.thaw ((ns - 2) * 2+1);have FD1:=zh F1.out.drew;have HSS:=zh (set_sec hl2 r);have HS0:=zh (show (S.s.set (ns - 2) (0,0))[ns - 2]?=some ((0,0):Int × Int) from by rw [List.getElem?_set_self (by omega)]);have HST:=zh (show (S.s.set (ns - 2) (0,0)).set (ns - 2) (1,0)=S.s.set (ns - 2) ((1,0):Int × Int) from List.set_set _);rw [hln] at HSS;have HR3:=zh (HRD1.out.put (k:=ns - 2) (by omega) (0,0));have F3:=zh ((FD1.out.setCell (p:=⟨gs,(ns - 2) * 2,none⟩) (.inl (by simp;omega)) (.int .i64 0)).setCell (p:=⟨gs,(ns - 2) * 2+1,none⟩) (.inl (by simp;omega)) (.int .i64 0));simp only at HR3;clear hv hu hvx hvy hl2 hln hr
     by_cases hlt:u.1 < v.1
     ·
      rw [if_pos hlt] at hop;subst hop;have hdl:decide (u.1 < v.1)=true:=decide_eq_true hlt;go_upto_region 28 with fail;go_region;generalize w1.drew=w2 at *;go_upto_region 30 with fail;generalize (w2.setCell ⟨gs,(ns - 2) * 2,none⟩ (.int .i64 0)).setCell ⟨gs,(ns - 2) * 2+1,none⟩ (.int .i64 0)=w3 at *;have y0:=HR3.out.thaw ((ns - 2) * 2);obtain ⟨a0,a1⟩:=HR3.out.sec (by omega);have HR4:=zh (HR3.out.put1 HS0.out 1);simp only [HST.out] at HR4;have HR6:=zh (HR4.out.pop (by omega));simp only [HSS.out] at HR6;have F6:=zh (F3.out.setCell (p:=⟨gs,(ns - 2) * 2,none⟩) (.inl (by simp;omega)) (.int .i64 1));clear j0 j1 j2 j3 z0 z1 t0 t1 u0 u1;go_wp2_with fail;go_roundg (50 - (at_+1))
      case measure=>have hm9:=HAT.out;omega
      case rel=>exact ⟨{ o:=S.o,c:=S.c,st:=st,x:=S.x,at_:=at_+1,s:=S.s.dropLast.dropLast ++ [(1,0)] },Ao,no,co,some ⟨gs,0,none⟩,ns - 1,cs,rfl,rfl,rfl,rfl,(by first | rfl | go_num),HS2,HR6,F6⟩
     ·
      rw [if_neg hlt] at hop;subst hop;have hdl:decide (u.1 < v.1)=false:=decide_eq_false hlt;have HR6:=zh (HR3.out.pop (by omega));simp only [HSS.out] at HR6;go_upto_region 28 with fail;go_region;generalize w1.drew=w2 at *;go_wp2_with fail;go_roundg (50 - (at_+1))
      case measure=>have hm9:=HAT.out;omega
      case rel=>exact ⟨{ o:=S.o,c:=S.c,st:=st,x:=S.x,at_:=at_+1,s:=S.s.dropLast.dropLast ++ [(0,0)] },Ao,no,co,some ⟨gs,0,none⟩,ns - 1,cs,rfl,rfl,rfl,rfl,(by first | rfl | go_num),HS2,HR6,F3⟩
structure FM (lo:Nat) (w:World) (gn gc gk:Nat) (L:List Nd) (M:List Ndm) (k:Nat) (TN TC TK:Int->Option Value):Prop where
 n:IMap w gn TN
 c:IMap w gc TC
 q:IMap w gk TK
 ns:∀ m ∈ M.take k,TN m.1.id=some (.agg (ndA m.1 m.2.1 m.2.2))
 cs:∀ m ∈ M.take k,∃ A q c,TC m.1.id=some (.slice A q c)/\q=(childN L m.1.id).length/\Reads w w.heap.size 1 A q ((childN L m.1.id).map (Value.int .i64))/\Fresh lo (.slice A q c)
 ks:∀ m ∈ M.take k,TK m.1.id=some (.int .i64 0)
 ki:∀ x,TK x=none \/ TK x=some (.int .i64 0)
 kn:∀ x,TK x ≠ none->∃ m ∈ M.take k,m.1.id=x
theorem FM.mv {lo:Nat} {w w':World} {gn gc gk:Nat} {L:List Nd} {M:List Ndm} {k:Nat} {TN TC TK:Int->Option Value} (h:FM lo w gn gc gk L M k TN TC TK) (hf:Fr w.heap.size [] w w'):FM lo w' gn gc gk L M k TN TC TK :=
 ⟨h.n.fr hf h.n.lt (by simp), h.c.fr hf h.c.lt (by simp), h.q.fr hf h.q.lt (by simp), h.ns, fun m hm => by
  obtain ⟨A,q,c,h1,h2,h3,h4⟩:=h.cs m hm
  exact ⟨A,q,c,h1,h2,(h3.fr hf (Nat.le_refl _) (by simp)).more hf.size,h4⟩,h.ks,h.ki,h.kn⟩
theorem take_id_ne {M:List Ndm} (hn:(idsN (fstN M)).Nodup) {k:Nat} {x:Ndm} (hx:M[k]?=some x):∀ m ∈ M.take k,m.1.id ≠ x.1.id:=by
 intro m hm e;obtain ⟨j,hj⟩:=List.getElem?_of_mem hm;rw [List.getElem?_take] at hj
 split at hj
 · rename_i hjk;have h1:(idsN (fstN M))[j]?=some m.1.id:=(by simp [idsN,fstN,hj]);have h2:(idsN (fstN M))[k]?=some x.1.id:=(by simp [idsN,fstN,hx]);have hlt:j < (idsN (fstN M)).length:=(List.getElem?_eq_some_iff.1 h1).1;have:=(List.getElem?_inj hlt hn).1 (h1.trans (by rw [h2,e]));omega
 · cases hj
theorem FM.next {lo:Nat} {wa w':World} {gn gc gk:Nat} {L:List Nd} {M:List Ndm} {k:Nat} {TN TC TK:Int->Option Value} (h:FM lo wa gn gc gk L M k TN TC TK) {x:Nd} {sf sp:Value} (hx:M[k]?=some (x,sf,sp)) (hn:(idsN (fstN M)).Nodup)
  (hf:Fr wa.heap.size [gn,gc,gk] wa w') (h1:gn < lo) (h2:gc < lo) (h3:gk < lo) {A:Option Addr} {q c:Nat} (i1:IMap w' gn (updI TN x.id (.agg (ndA x sf sp)))) (i2:IMap w' gc (updI TC x.id (.slice A q c))) (i3:IMap w' gk (updI TK x.id (.int .i64 0)))
  (hq:q=(childN L x.id).length) (hrd:Reads w' w'.heap.size 1 A q ((childN L x.id).map (Value.int .i64))) (hfr:Fresh lo (.slice A q c)):FM lo w' gn gc gk L M (k+1) (updI TN x.id (.agg (ndA x sf sp))) (updI TC x.id (.slice A q c)) (updI TK x.id (.int .i64 0)):=by
 have hne:=take_id_ne hn hx;have ht:M.take (k+1)=M.take k ++ [(x,sf,sp)]:=(by rw [List.take_add_one,hx];rfl);refine ⟨i1,i2,i3,fun m hm => ?_,fun m hm => ?_,fun m hm => ?_,fun y => ?_,fun y hy => ?_⟩
 ·
  rw [ht,List.mem_append,List.mem_singleton] at hm
  rcases hm with hm | rfl
  · unfold updI;rw [if_neg (hne m hm)];exact h.ns m hm
  · unfold updI;rw [if_pos rfl]
 ·
  rw [ht,List.mem_append,List.mem_singleton] at hm
  rcases hm with hm | rfl
  ·
   obtain ⟨A',q',c',e1,e2,e3,e4⟩:=h.cs m hm;refine ⟨A',q',c',?_,e2,(e3.frL hf (Nat.le_refl _) (fun hn ad ha hm2 => ?_)).more hf.size,e4⟩
   · unfold updI;rw [if_neg (hne m hm)];exact e1
   · have:=e4 _ _ _ rfl hn ad ha;simp at hm2;omega
  · refine ⟨A,q,c,?_,hq,hrd,hfr⟩;unfold updI;rw [if_pos rfl]
 ·
  rw [ht,List.mem_append,List.mem_singleton] at hm
  rcases hm with hm | rfl
  · unfold updI;rw [if_neg (hne m hm)];exact h.ks m hm
  · unfold updI;rw [if_pos rfl]
 ·
  unfold updI
  by_cases e:y=x.id
  · rw [if_pos e];exact .inr rfl
  · rw [if_neg e];exact h.ki y
 ·
  rw [ht];unfold updI at hy
  by_cases e:y=x.id
  · exact ⟨(x,sf,sp),by simp,e.symm⟩
  · rw [if_neg e] at hy;obtain ⟨m,hm,he⟩:=h.kn y hy;exact ⟨m,List.mem_append_left _ hm,he⟩
structure FlA (lo:Nat) (w:World) (gf gn gc gk:Nat) (L:List Nd) (M:List Ndm) (TN TC TK:Int->Option Value):Prop where
 fm:FM lo w gn gc gk L M M.length TN TC TK
 nm:fstN M=normL L
 inn:∀ m ∈ M,NdIn w w.heap.size m/\Fresh lo m.2.1/\Fresh lo m.2.2
 o1:gn < gc
 o2:gc < gk
 o3:gk < gf
 o4:gf < lo
 o5:lo<=w.heap.size
def MadeOut (L:List Nd) (gt:Nat) (w:World) (e:Ending) (w':World):Prop :=
 ∃ lo gf gn gc gk M TN TC TK,e=.returned (.pointer (some ⟨gf,0,none⟩))/\Blk w' gf 213 #[.map (some gn),.map (some gc),.pointer (some ⟨gt,0,none⟩),.slice none 0 0,.map (some gk)]/\FlA lo w' gf gn gc gk L M TN TC TK/\w.heap.size<=gn/\Fr w.heap.size [] w w'
theorem made_any (gt:Nat) (A:Option Addr) (c B n:Nat) (M:List Ndm) (w:World) (h:Nds w B A n M) (hB:B<=w.heap.size) (hs:Small M) (hr:RightG (fstN M)) :
  Calls Tryz.prog 141 #[.slice A n c,.pointer (some ⟨gt,0,none⟩)] w (MadeOut (fstN M) gt w):=by
 obtain ⟨L,hL⟩:=nm (fstN M);rw [<- hL] at hr ⊢;have HNM:=zh (fun (wx:World) (hx:Fr w.heap.size [] w wx)=>(by rw [hL];exact norm_any A c B n M wx (h.frw hx hB (by simp)) (Nat.le_trans hB hx.size) hs (by have:=hr.len;rw [hL] at this;simp [fstN] at this;rw [h.num];omega):Calls Tryz.prog 53 #[.slice A n c] wx (NormOut L wx)));have HCH:=zh (fun (id:Int) (wx:World) (hx:Fr w.heap.size [] w wx)=>children_any id A c B n M wx (h.frw hx hB (by simp)) (Nat.le_trans hB hx.size) hs);have HRG:=zh hr;have HL:=zh hL;have hmm:=@run_makeMap Tryz.prog;obtain ⟨gn,hgn⟩:=nm (w.heap.size);obtain ⟨w0,hw0⟩:=nm ((((w.alloc (.map #[] 0)).alloc (.map #[] 0)).alloc (.map #[] 0)).alloc (.cells #[.map (some w.heap.size),.map (some (w.heap.size+1)),.pointer (some ⟨gt,0,none⟩),.slice none 0 0,.map (some (w.heap.size+1+1))] 213));have I1:=(IMap.new w).fr (((((Fr.refl (gn+1) [] (w.alloc (.map #[] 0))).alloc (by simp;omega) (.map #[] 0)).alloc (by simp;omega) (.map #[] 0)).alloc (by simp;omega) (.cells #[.map (some w.heap.size),.map (some (w.heap.size+1)),.pointer (some ⟨gt,0,none⟩),.slice none 0 0,.map (some (w.heap.size+1+1))] 213))) (by omega) (by simp);have I2:=(IMap.new (w.alloc (.map #[] 0))).fr ((((Fr.refl (gn+2) [] ((w.alloc (.map #[] 0)).alloc (.map #[] 0))).alloc (by simp;omega) (.map #[] 0)).alloc (by simp;omega) (.cells #[.map (some w.heap.size),.map (some (w.heap.size+1)),.pointer (some ⟨gt,0,none⟩),.slice none 0 0,.map (some (w.heap.size+1+1))] 213))) (by simp;omega) (by simp);have I3:=(IMap.new ((w.alloc (.map #[] 0)).alloc (.map #[] 0))).fr (((Fr.refl (gn+3) [] (((w.alloc (.map #[] 0)).alloc (.map #[] 0)).alloc (.map #[] 0))).alloc (by simp;omega) (.cells #[.map (some w.heap.size),.map (some (w.heap.size+1)),.pointer (some ⟨gt,0,none⟩),.slice none 0 0,.map (some (w.heap.size+1+1))] 213))) (by simp;omega) (by simp);have B0:=Blk.new (((w.alloc (.map #[] 0)).alloc (.map #[] 0)).alloc (.map #[] 0)) 213 #[.map (some w.heap.size),.map (some (w.heap.size+1)),.pointer (some ⟨gt,0,none⟩),.slice none 0 0,.map (some (w.heap.size+1+1))];have f0:Fr w.heap.size [] w w0:=(by rw [hw0];exact ((((Fr.refl w.heap.size [] w).alloc (Nat.le_refl _) _).alloc (by simp) _).alloc (by simp;omega) _).alloc (by simp;omega) _);have hs0:w0.heap.size=gn+4:=(by rw [hw0,hgn];simp);rw [World.size_alloc] at I2 B0;rw [World.size_alloc,World.size_alloc] at I3;rw [World.size_alloc,World.size_alloc] at B0;rw [<- hw0] at I1 I2 I3 B0;rw [<- hgn] at I1 I2 I3 B0;have J1:=zh I1;have J2:=zh I2;have J3:=zh I3;have HB0:=zh B0;have F0:=zh f0;have HS0:=zh hs0;have HW0:=zh hw0;have HGN:=zh hgn;obtain ⟨gc,hgc⟩:=nm (gn+1);obtain ⟨gk,hgk⟩:=nm (gn+1+1);obtain ⟨gf,hgf⟩:=nm (gn+1+1+1);have HGC:=zh hgc;have HGK:=zh hgk;have HGF:=zh hgf;have hgd:gn < gc/\gc < gk/\gk < gf:=(by omega);have HGD:=zh hgd;clear hgd;rw [<- hgf,<- hgk,<- hgc] at HB0;rw [<- hgc] at J2;rw [<- hgk] at J3;have HN0:=zh (HNM.out w0 f0);clear I1 I2 I3 B0 f0 hw0 hgn hgc hgk hgf HNM hs0;go_enter Tryz.func141,Tryz.ntmps141;go_wp2_with fail;rw [<- HW0.out];clear hmm;refine HN0.out.mono ?_;rintro e w1 ⟨An,cn,nn,MN,hnn,rfl,hown,hnmi,hfst,f1⟩;rw [<- HGN.out,<- HGF.out];have HMN:=zh (Nmd.mk hnn hown hnmi);have HF:=zh hfst;have HND2:=zh (show (idsN (normL L)).Nodup from ((normL_perm L).map (fun n:Nd=>n.id)).nodup_iff.2 HRG.out.uni);have hnm:nn=MN.length:=hnn;have HNN:=zh hnm
 have hnn8:nn<=8:=by
  have h1:=congrArg List.length hfst;rw [normL_len] at h1;simp only [fstN,List.length_map] at h1;rw [hnm,h1];exact HRG.out.len
 have F1:=zh (F0.out.nx f1);have F01:=zh f1;have HM1:=zh (FM.mk (lo:=w0.heap.size) (L:=L) (M:=MN) (k:=0) (J1.out.fr f1 J1.out.lt (by simp)) (J2.out.fr f1 J2.out.lt (by simp)) (J3.out.fr f1 J3.out.lt (by simp)) (by simp) (by simp) (by simp) (fun _=>.inl rfl) (fun _ h=>absurd rfl h));have HB1:=zh (HB0.out.fr f1 HB0.out.lt (by simp));have hlf:gf < w0.heap.size:=HB0.out.lt;have hln:gn < w0.heap.size:=J1.out.lt;have hlc:gc < w0.heap.size:=J2.out.lt;have hlk:gk < w0.heap.size:=J3.out.lt;have hs01:w0.heap.size<=w1.heap.size:=f1.size;clear hnn hown hnmi hfst f1 HN0 J1 J2 J3 HB0 hnm F0;go_wp2_with fail;go_loopg [7,17] nn (fun g s7 s17 wr=>∃ (k:Nat) (TN TC TK:Int->Option Value),k<=nn/\g=nn - k/\s17=.int .i64 k/\(s7=undef \/ ∃ a,s7=.pointer a)/\Hid (FM w0.heap.size wr gn gc gk L MN k TN TC TK)/\Hid (Fr w1.heap.size [gn,gc,gk] w1 wr))
 case atStart=>exact ⟨0,_,_,_,Nat.zero_le _,rfl,rfl,.inl rfl,HM1,zh (Fr.refl _ _ _)⟩
 case round =>
  clear HM1;obtain ⟨k,TN,TC,TK,hk,rfl,rfl,h7,HM,FR⟩:=hrel
  by_cases hkn:k < nn
  ·
   have hki:(k:Int) < (nn:Int):=by omega
   have hk0:(0:Int)<=(k:Int):=(by omega);obtain ⟨m,hx⟩:∃ m,MN[k]?=some m:=⟨_,List.getElem?_eq_getElem (by rw [<- HNN.out];exact hkn)⟩;have HSW:=HMN.out.frd (FR.out.mono (B':=w1.heap.size) (L':=[gn,gc,gk]) (Nat.le_refl _) (by simp)) (by simp;omega);have HND:=HSW.nds (L:=[]) (Fr.refl _ _ _) (by simp);obtain ⟨b1,o1,hA1,hb1,hc1⟩:=HND.get hx;have hmI:=HSW.inn m (List.mem_of_getElem? hx);have HXK:=zh hx;obtain ⟨x,sf,sp⟩:=m;obtain ⟨⟨⟨Af,cf,hf1,_⟩,⟨Ap,cp,hp1,_⟩⟩,_⟩:=hmI;simp only at hf1 hp1;subst hf1;subst hp1;obtain ⟨nf,hnf⟩:=nm (x.fr.length);obtain ⟨np,hnp⟩:=nm (x.pg.length);rw [<- hnf,<- hnp] at hc1 HXK;subst hA1;have p0:=hc1 0 (.int .i64 x.id) rfl;have p1:=hc1 1 (.int .i64 x.kind) rfl;have p2:=hc1 2 (.slice Af nf cf) rfl;have p3:=hc1 3 (.slice Ap np cp) rfl;have p4:=hc1 4 (.int .i64 x.par) rfl;have p5:=hc1 5 (.int .i64 (x.rt 0)) rfl;have p6:=hc1 6 (.int .i64 (x.rt 1)) rfl;have p7:=hc1 7 (.int .i64 (x.rt 2)) rfl;have p8:=hc1 8 (.int .i64 (x.rt 3)) rfl;have p9:=hc1 9 (.int .i64 (x.rt 4)) rfl;have p10:=hc1 10 (.int .i64 (x.rt 5)) rfl;have p11:=hc1 11 (.int .i64 (x.rt 6)) rfl;have p12:=hc1 12 (.int .i64 (x.rt 7)) rfl;simp only [Nat.add_zero] at p0;clear hc1 hx HSW hnf hnp hb1 HND;have BX:=zh (Blk.new wr 83 (ndA x (.slice Af nf cf) (.slice Ap np cp)));have fa:=(Fr.refl wr.heap.size [] wr).alloc (Nat.le_refl _) (.cells (ndA x (.slice Af nf cf) (.slice Ap np cp)) 83);have hwr:w1.heap.size<=wr.heap.size:=FR.out.size;have FA:=zh (FR.out.trans (fa.mono (B':=w1.heap.size) (L':=[gn,gc,gk]) FR.out.size (by simp)));have HMA:=zh (HM.out.mv fa);clear fa HM FR;go_upto_region 5 with fail;clear p0 p1 p2 p3 p4 p5 p6 p7 p8 p9 p10 p11 p12;generalize wr.alloc (.cells (ndA x (.slice Af nf cf) (.slice Ap np cp)) 83)=wa at *;obtain ⟨gx,hgx⟩:=nm (wr.heap.size);rw [<- hgx] at BX;rw [<- hgx];have hgx1:w1.heap.size<=gx:=(by omega);clear hgx hwr;have BF:=zh (HB1.out.fr FA.out (by omega) (by have:=HGD.out;simp;omega));obtain ⟨w3,hst,hm3,f3,hs3⟩:=(HMA.out.q.fr (Fr.refl wa.heap.size [] wa).drew HMA.out.q.lt (by simp):IMap wa.drew gk TK).upd Tryz.underlying105 x.id (.int .i64 0);have q4:wa.cell? ⟨gf,4,none⟩=some (.map (some gk)):=BF.out.cell 4;have q4d:wa.drew.cell? ⟨gf,4,none⟩=some (.map (some gk)):=q4;have x0:wa.cell? ⟨gx,0,none⟩=some (.int .i64 x.id):=BX.out.cell 0;have x0d:wa.drew.cell? ⟨gx,0,none⟩=some (.int .i64 x.id):=x0;have F3:=zh (((Fr.refl wa.heap.size [gk] wa).drew).trans f3);have HM3:=zh hm3;clear hm3 f3;go_cut [24] (fun s24 wx=>wx=w3)
   case first =>
    go_region_with fail
    all_goals
     go_wp2_with fail;go_meet;exact rfl
   case rest =>
    subst hcut;have HGDo:=HGD.out;have BF3:=zh (BF.out.fr F3.out BF.out.lt (by simp;omega));have BX3:=zh (BX.out.fr F3.out BX.out.lt (by simp;omega));have FW3:=zh (F1.out.trans ((FA.out.trans (F3.out.mono (B':=w1.heap.size) (L':=[gn,gc,gk]) FA.out.size (by simp))).mono (B':=w.heap.size) (L':=[]) F1.out.size (by have:=HGN.out;simp;omega)));have IN3:=zh (HMA.out.n.fr F3.out HMA.out.n.lt (by simp;omega));have IC3:=zh (HMA.out.c.fr F3.out HMA.out.c.lt (by simp;omega));clear q4 q4d x0 x0d hst hs3 BF BX;have hzN:∀ u,(zeroValue 83).run Tryz.prog u=.ok (.agg ndZ) u:=fun u=>by kernel_rfl
    have hzC:∀ u,(zeroValue 43).run Tryz.prog u=.ok (.slice none 0 0) u:=fun u=>by kernel_rfl
    have HZN:=zh hzN;have HZC:=zh hzC;clear hzN hzC;go_upto_region 6 with fail;have INV:=zh ((Fr.refl wc.heap.size [gn,gc] wc).drew);have FD:=zh ((Fr.refl wc.heap.size [] wc).drew)
    have SF := zh (fun (W : World) (hf : Fr wc.heap.size [gn, gc] wc W) => (by
     have b:=BX3.out.fr hf BX3.out.lt (by simp;omega);have d:=BF3.out.fr hf BF3.out.lt (by simp;omega)
     exact ⟨d.cell 0,d.cell 1,b.cell 0,b.cell 1,b.cell 2,b.cell 3,b.cell 4,b.cell 5,b.cell 6,b.cell 7,b.cell 8,b.cell 9,b.cell 10,b.cell 11,b.cell 12⟩:W.cell? ⟨gf,0,none⟩=some (.map (some gn))/\W.cell? ⟨gf,1,none⟩=some (.map (some gc))/\W.cell? ⟨gx,0,none⟩=some (.int .i64 x.id)/\W.cell? ⟨gx,1,none⟩=some (.int .i64 x.kind)/\W.cell? ⟨gx,2,none⟩=some (.slice Af nf cf)/\W.cell? ⟨gx,3,none⟩=some (.slice Ap np cp)/\W.cell? ⟨gx,4,none⟩=some (.int .i64 x.par)/\W.cell? ⟨gx,5,none⟩=some (.int .i64 (x.rt 0))/\W.cell? ⟨gx,6,none⟩=some (.int .i64 (x.rt 1))/\W.cell? ⟨gx,7,none⟩=some (.int .i64 (x.rt 2))/\W.cell? ⟨gx,8,none⟩=some (.int .i64 (x.rt 3))/\W.cell? ⟨gx,9,none⟩=some (.int .i64 (x.rt 4))/\W.cell? ⟨gx,10,none⟩=some (.int .i64 (x.rt 5))/\W.cell? ⟨gx,11,none⟩=some (.int .i64 (x.rt 6))/\W.cell? ⟨gx,12,none⟩=some (.int .i64 (x.rt 7))))
    go_region_held3 (fun W=>W.cell? ⟨gf,0,none⟩=some (.map (some gn))/\W.cell? ⟨gf,1,none⟩=some (.map (some gc))/\W.cell? ⟨gx,0,none⟩=some (.int .i64 x.id)/\W.cell? ⟨gx,1,none⟩=some (.int .i64 x.kind)/\W.cell? ⟨gx,2,none⟩=some (.slice Af nf cf)/\W.cell? ⟨gx,3,none⟩=some (.slice Ap np cp)/\W.cell? ⟨gx,4,none⟩=some (.int .i64 x.par)/\W.cell? ⟨gx,5,none⟩=some (.int .i64 (x.rt 0))/\W.cell? ⟨gx,6,none⟩=some (.int .i64 (x.rt 1))/\W.cell? ⟨gx,7,none⟩=some (.int .i64 (x.rt 2))/\W.cell? ⟨gx,8,none⟩=some (.int .i64 (x.rt 3))/\W.cell? ⟨gx,9,none⟩=some (.int .i64 (x.rt 4))/\W.cell? ⟨gx,10,none⟩=some (.int .i64 (x.rt 5))/\W.cell? ⟨gx,11,none⟩=some (.int .i64 (x.rt 6))/\W.cell? ⟨gx,12,none⟩=some (.int .i64 (x.rt 7))) (first | exact SF.out _ INV.out | exact SF.out _ K5.out | exact SF.out _ K6.out | exact SF.out _ K7.out | exact SF.out _ K8.out)
     ((first | (go_at_call 125;refine (HCH.out _ _ (FW3.out.trans (INV.out.mono (B':=w.heap.size) (L':=[]) FW3.out.size (by have:=HGN.out;simp;omega)))).mono ?_;rintro e wv ⟨Av,cv,nv,hnv,rfl,hov,fv⟩;have INV:=zh (INV.out.trans (fv.mono (B':=_) (L':=[gn,gc]) INV.out.size (by simp)));have HOV:=zh hov;have HNV:=zh hnv;have FV:=zh fv;have FDV:=FD.out.nx fv;obtain ⟨st,w5,hme,f5,hs5,hest⟩:=(IN3.out.fr FDV IN3.out.lt (by simp):IMap wv gn TN).entry Tryz.underlying210 HZN.out x.id;obtain ⟨w6,hes,im6,f6,hs6⟩:=hest w5 (.agg (ndA x (.slice Af nf cf) (.slice Ap np cp))) rfl;have F56:=f5.trans (f6.mono (B':=wv.heap.size) (L':=[gn]) (by omega) (by simp));have F6:=(FDV.mono (B':=wc.heap.size) (L':=[gn]) (Nat.le_refl _) (by simp)).trans (F56.mono (B':=wc.heap.size) (L':=[gn]) FDV.size (by simp));obtain ⟨st2,w7,hme2,f7,hs7,hest2⟩:=(IC3.out.fr (F6.mono (B':=wc.heap.size) (L':=[gn]) (Nat.le_refl _) (by simp)) IC3.out.lt (by simp;omega):IMap w6 gc TC).entry Tryz.underlying211 HZC.out x.id;obtain ⟨w8,hes2,im8,f8,hs8⟩:=hest2 w7 (.slice Av nv cv) rfl;have K5:=zh (INV.out.trans (f5.mono (B':=wc.heap.size) (L':=[gn,gc]) INV.out.size (by simp)));have K6:=zh (K5.out.trans (f6.mono (B':=wc.heap.size) (L':=[gn,gc]) (by have:=INV.out.size;omega) (by simp)));have K7:=zh (K6.out.trans (f7.mono (B':=wc.heap.size) (L':=[gn,gc]) K6.out.size (by simp)));have K8:=zh (K7.out.trans (f8.mono (B':=wc.heap.size) (L':=[gn,gc]) K7.out.size (by simp)));have F68:=f7.trans (f8.mono (B':=w6.heap.size) (L':=[gc]) (by omega) (by simp));have HI6:=zh (im6.fr F68 im6.lt (by simp;omega));have HI8:=zh im8;have HFV8:=zh ((F56.mono (B':=wv.heap.size) (L':=[gn,gc]) (Nat.le_refl _) (by simp)).trans (F68.mono (B':=wv.heap.size) (L':=[gn,gc]) (by omega) (by simp)));clear fv hov hnv f5 f6 f7 f8 im6 im8 hs5 hs6 hs7 hs8 hest hest2 F56 F6 F68 FDV)))
    all_goals
     go_wp2_with fail;have K8o:=K8.out;have FA8:=zh ((F3.out.mono (B':=wa.heap.size) (L':=[gn,gc,gk]) (Nat.le_refl _) (by simp)).trans (K8o.mono (B':=wa.heap.size) (L':=[gn,gc,gk]) F3.out.size (by simp)))
     have HMX := zh (HMA.out.next HXK.out (by rw [HF.out]; exact HND2.out) FA8.out hln hlc hlk HI6.out HI8.out (HM3.out.fr K8o HM3.out.lt (by simp; omega)) (by rw [HNV.out, HL.out]; rfl) ((by
      have h1:=Reads.of_own HOV.out
      have h2 := (h1.frL HFV8.out (Nat.le_refl _) (fun hn ad ha hm2 => by
       obtain ⟨g,cap,hv,hbg,hlt⟩:=HOV.out.form hn;injection hv with e1 _ _
       rw [ha] at e1;injection e1 with e1
       subst e1;have h5:=F3.out.size;have h6:=FA.out.size;have h7:w.drew.heap.size=w.heap.size:=rfl;simp at hm2;have h8:wc.heap.size<=g:=hbg
       omega)).more HFV8.out.size
      rw [show M.map (fun x=>x.1)=L from HL.out.symm] at h2
      exact h2)) (fresh_own HOV.out (by have h5:=F3.out.size;have h6:=FA.out.size;show w0.heap.size<=wc.heap.size;omega)))
     have FN:=zh (FA.out.trans (FA8.out.mono (B':=w1.heap.size) (L':=[gn,gc,gk]) FA.out.size (by simp)));clear hme hes hme2 hes2;go_roundg (nn - (k+1))
     case measure=>omega
     case rel=>exact ⟨k+1,_,_,_,by omega,rfl,by go_num,.inr ⟨_,rfl⟩,HMX,FN⟩
  ·
   obtain rfl:nn=k:=by omega
   have HGDo:=HGD.out;have HGNo:=HGN.out;have BF:=zh (HB1.out.fr FR.out HB1.out.lt (by simp;omega));have FW:=zh (F1.out.trans (FR.out.mono (B':=w.heap.size) (L':=[]) F1.out.size (by intro q hq;simp at hq;omega)));have HME:=HMN.out.frd FR.out (by intro q hq;simp at hq;omega);have HFA:=zh (FlA.mk (gf:=gf) (by rw [<- HNN.out];exact HM.out) HF.out (fun m hm=>⟨(HME.inn m hm).inn,(HME.inn m hm).f1,(HME.inn m hm).f2⟩) HGDo.1 HGDo.2.1 HGDo.2.2 hlf (Nat.le_trans hs01 FR.out.size));clear HME;go_wp2_with fail;go_ret;exact ⟨_,gf,gn,gc,gk,MN,TN,TC,TK,rfl,BF.out,HFA.out,by omega,FW.out⟩
end Go.Proofs.YtlejomlppjpchaaGreat
