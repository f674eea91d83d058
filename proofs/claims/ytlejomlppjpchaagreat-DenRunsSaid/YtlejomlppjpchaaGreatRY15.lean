/- Texts merged into one, for the number of files a claim may have: RecsArg. -/
import Derived.Test.YtlejomlppjpchaaGreatRY9
import Derived.Test.YtlejomlppjpchaaGreatRY11
namespace Go.Proofs.YtlejomlppjpchaaGreat
open Go.RowKit Go.Fb Go.ChangeShapes Go.WideShapes Go.ChangeAt
set_option maxRecDepth 100000
set_option maxHeartbeats 16000000
set_option linter.unusedVariables false
variable {W:World} {H:Type} {enc:TypeId × Value->H} {base:Nat}
theorem val_cells {n:Nat} {cs:List Value} {x:DataW H × List MemPlace} (h:DataW.trod enc Tryz.prog W 0 (fun _=>true) true n 48 cs=some x):∃ a b:Int,cs=[.int .i64 a,.int .i64 b]:=by
 obtain ⟨y0,y1,m,_,hl,h0,h1⟩:=trod_struct2 Tryz.underlying48 h;obtain ⟨a,e0,_⟩:=DataW.trod_int Tryz.underlying3 h0;obtain ⟨b,e1,_⟩:=DataW.trod_int Tryz.underlying3 h1;rw [show Tryz.prog.cellsOf 48=2 by kernel_rfl] at hl;rw [show Tryz.prog.cellsOf 3=1 by kernel_rfl] at e0 e1
 match cs,hl with
 | [u,v],_=>simp at e0 e1;exact ⟨a,b,by rw [e0,e1]⟩
theorem rec_cells {n:Nat} {cs:List Value} {x:DataW H × List MemPlace} (h:DataW.trod enc Tryz.prog W 0 (fun _=>true) true n 50 cs=some x):∃ f:Nat->Int,cs=recC f:=by
 obtain ⟨y0,y1,m,_,hl,h0,h1⟩:=trod_struct2 Tryz.underlying50 h;obtain ⟨a,e0,_⟩:=DataW.trod_int Tryz.underlying3 h0;obtain ⟨c,d,e1⟩:=val_cells h1;rw [show Tryz.prog.cellsOf 50=3 by kernel_rfl] at hl;rw [show Tryz.prog.cellsOf 3=1 by kernel_rfl] at e0;rw [show Tryz.prog.cellsOf 48=2 by kernel_rfl] at e1
 match cs,hl with
 | [u0,u1,u2],_ =>
  simp at e0 e1;exact ⟨fun j=>[a,c,d].getD j 0,by simp [recC,e0,e1]⟩
theorem cellsR_inv {l:List (Nat->Int)} {j:Nat} {u:Value} (h:(cellsR l)[j]?=some u):∃ x,l[j / 3]?=some x/\(recC x)[j % 3]?=some u:=by
 have hj:j < (cellsR l).length:=by
  rcases Nat.lt_or_ge j (cellsR l).length with h' | h'
  · exact h'
  · rw [List.getElem?_eq_none h'] at h;cases h
 rw [cellsR_length] at hj;have hk:j / 3 < l.length:=(by omega);refine ⟨l[j / 3],List.getElem?_eq_getElem hk,?_⟩;have:=cellsR_get (List.getElem?_eq_getElem hk) (j % 3) (Nat.mod_lt _ (by omega));rw [show j / 3 * 3+j % 3=j by omega,h] at this;rw [recC_get _ _ (Nat.mod_lt _ (by omega)),this]
end Go.Proofs.YtlejomlppjpchaaGreat
