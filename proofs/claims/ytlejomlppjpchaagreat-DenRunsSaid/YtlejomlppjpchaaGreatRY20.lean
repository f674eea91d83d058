/- Texts merged into one, for the number of files a claim may have: StsArg. -/
import Derived.Test.YtlejomlppjpchaaGreatRY9
import Derived.Test.YtlejomlppjpchaaGreatRY18
namespace Go.Proofs.YtlejomlppjpchaaGreat
open Go.RowKit Go.Fb Go.ChangeShapes Go.WideShapes Go.ChangeAt
set_option maxRecDepth 100000
set_option maxHeartbeats 16000000
set_option linter.unusedVariables false
variable {W:World} {H:Type} {enc:TypeId × Value->H} {base:Nat}
theorem strod_struct3 {P:Program} {w:World} {spare:Nat->Bool} {held:Bool} {t:TypeId} {f0 f1 f2:Field} {fuel:Nat} {cs:List Value} {x:DataW H × List MemPlace} (ht:P.underlying t=some (.struct #[f0,f1,f2])) (h:DataW.trod enc P w base spare held fuel t cs=some x) :
  ∃ y0 y1 y2 n,cs.length=P.cellsOf t/\DataW.trod enc P w base spare held n f0.type ((cs.drop f0.offset).take (P.cellsOf f0.type))=some y0 /\
   DataW.trod enc P w base spare held n f1.type ((cs.drop f1.offset).take (P.cellsOf f1.type))=some y1/\DataW.trod enc P w base spare held n f2.type ((cs.drop f2.offset).take (P.cellsOf f2.type))=some y2:=by
 obtain ⟨xs,n,_,rfl,hl,hlen,hf⟩:=DataW.trod_struct ht h
 match xs,hlen with
 | [y0,y1,y2],_=>exact ⟨y0,y1,y2,n,hl,by simpa using hf 0 f0 rfl,by simpa using hf 1 f1 rfl,by simpa using hf 2 f2 rfl⟩
theorem st_cells {n:Nat} {cs:List Value} {x:DataW H × List MemPlace} (h:DataW.trod enc Tryz.prog W 0 (fun _=>true) true n 215 cs=some x) :
  ∃ m:Stm,cs=stL m/\NdIn W W.heap.size (m.1.nd,m.2.1,m.2.2)/\(Lit.int .i64 m.1.nd.par).wf=true/\CapN [(m.1.nd,m.2.1,m.2.2)]:=by
 obtain ⟨y0,y1,y2,k,hl,h0,h1,h2⟩:=strod_struct3 Tryz.underlying215 h;rw [show Tryz.prog.cellsOf 215=15 by kernel_rfl] at hl;obtain ⟨kd,e0,_⟩:=DataW.trod_int Tryz.underlying3 h0;obtain ⟨m,e1,hm⟩:=nd_cells h1;obtain ⟨rs,e2,_⟩:=DataW.trod_bool Tryz.underlying4 h2;rw [show Tryz.prog.cellsOf 3=1 by kernel_rfl] at e0;rw [show Tryz.prog.cellsOf 83=13 by kernel_rfl] at e1;rw [show Tryz.prog.cellsOf 4=1 by kernel_rfl] at e2
 match cs,hl with
 | [u0,u1,u2,u3,u4,u5,u6,u7,u8,u9,u10,u11,u12,u13,u14],_ =>
  obtain ⟨x,sf,sp⟩:=m;simp [ndL] at e0 e1 e2;obtain ⟨f0,f1,f2,f3,f4,f5,f6,f7,f8,f9,f10,f11,f12⟩:=e1;exact ⟨(⟨kd,x,rs⟩,sf,sp),by simp [stL,e0,e2,f0,f1,f2,f3,f4,f5,f6,f7,f8,f9,f10,f11,f12],hm⟩
theorem cellsS_inv {M:List Stm} {j:Nat} {u:Value} (h:(cellsS M)[j]?=some u):∃ m,M[j / 15]?=some m/\(stL m)[j % 15]?=some u:=by
 have hj:j < (cellsS M).length:=by
  rcases Nat.lt_or_ge j (cellsS M).length with h' | h'
  · exact h'
  · rw [List.getElem?_eq_none h'] at h;cases h
 rw [cellsS_length] at hj;have hk:j / 15 < M.length:=(by omega);refine ⟨M[j / 15],List.getElem?_eq_getElem hk,?_⟩;have:=cellsS_get (List.getElem?_eq_getElem hk) (j % 15) (Nat.mod_lt _ (by omega));rw [show j / 15 * 15+j % 15=j by omega,h] at this;exact this.symm
def stWf (S:List Stm):Prop:=∀ m ∈ S,(Lit.int .i64 m.1.nd.par).wf=true/\CapN [(m.1.nd,m.2.1,m.2.2)]
theorem stWf.cap {S:List Stm} (h:stWf S):∀ m ∈ S,∀ A n c,m.2.1=.slice A n c->n<=c:=fun m hm=>(h m hm).2 (m.1.nd,m.2.1,m.2.2) (by simp)
theorem rd_steps {fuel:Nat} {cs:List Value} {x:DataW H × List MemPlace} (hf:DataW.trod enc Tryz.prog W 0 (fun _=>true) true fuel 134 cs=some x) :
  ∃ (a:Option Addr) (n c:Nat) (M:List Stm),cs=[.slice a n c]/\n<=c/\c<=maxLen/\Sts W W.heap.size a n M/\stWf M:=by
 rcases Deep.open_slice Tryz.underlying134 hf with ⟨rfl,_⟩ | ⟨a,len0,cap0,m,n,D,Pl,rfl,_,hl,hm,hmm,_,hx⟩
 · exact ⟨none,0,0,[],rfl,Nat.le_refl _,by simp [maxLen],⟨rfl,Reads.none_,by simp⟩,by simp [stWf]⟩
 ·
  have hm':m=cap0:=by simpa using hmm
  rw [show Tryz.prog.cellsOf 215=15 by kernel_rfl] at hx
  have key:∀ i,∃ f:Stm,i < m->W.cells? 0 (a.add (i * 15)) 15=some (stL f)/\NdIn W W.heap.size (f.1.nd,f.2.1,f.2.2)/\(Lit.int .i64 f.1.nd.par).wf=true/\CapN [(f.1.nd,f.2.1,f.2.2)]:=fun i=>by
   by_cases hi:i < m
   · obtain ⟨cs',h1,h2⟩:=hx i hi;obtain ⟨f,rfl,h3⟩:=st_cells h2;exact ⟨f,fun _=>⟨h1,h3⟩⟩
   · exact ⟨(⟨0,⟨0,0,0,[],[],fun _=>0⟩,false⟩,.slice none 0 0,.slice none 0 0),fun h=>absurd h hi⟩
  obtain ⟨F,hF⟩:=Classical.axiomOfChoice key
  have hmem:∀ f ∈ (List.range len0).map F,∃ i,i < m/\f=F i:=fun f hf=>by
   obtain ⟨i,hi,e⟩:=List.mem_map.1 hf;exact ⟨i,by have:=List.mem_range.1 hi;omega,e.symm⟩
  refine ⟨some a,len0,cap0,(List.range len0).map F,rfl,hl,hm,⟨by simp,⟨by rw [cellsS_length];simp,fun hn => ?_⟩,fun f hf => ?_⟩,fun f hf => ?_⟩
  ·
   have hcell:∀ k j u,k < m->(stL (F k))[j]?=some u->W.cell? ((a.add (k * 15)).add j)=some u:=fun k j u hk hu=>by
    obtain ⟨_,_,hc⟩:=World.cells?_some (hF k hk).1
    have hj:j < 15:=by
     rcases Nat.lt_or_ge j 15 with h | h
     · exact h
     · rw [List.getElem?_eq_none (by simpa [stL] using h)] at hu;cases hu
    rw [hc j hj,hu]
   have h0:=hcell 0 0 _ (by omega) rfl;have h0':W.cell? a=some (.int .i64 (F 0).1.kind):=(by simpa [Addr.add] using h0);obtain ⟨b,off,rfl⟩:=addr_of_cell h0';refine ⟨b,off,rfl,World.block_lt_of_cell? W _ h0',fun j u hu => ?_⟩;obtain ⟨f,hfk,hfe⟩:=cellsS_inv hu
   have hk:j / 15 < len0:=by
    rcases Nat.lt_or_ge (j / 15) len0 with h | h
    · exact h
    · rw [List.getElem?_eq_none (by simpa using h)] at hfk;cases hfk
   have hfF:F (j / 15)=f:=(by simpa [hk] using hfk);have:=hcell (j / 15) (j % 15) u (by omega) (by rw [hfF];exact hfe);have ad:∀ (o i:Nat),(⟨b,o,none⟩:Addr).add i=⟨b,o+i,none⟩:=fun o i=>by unfold Addr.add;split <;> simp_all
   rw [ad,ad,show off+j / 15 * 15+j % 15=off+j by omega] at this;exact this
  · obtain ⟨i,hi,rfl⟩:=hmem f hf;exact (hF i hi).2.1
  · obtain ⟨i,hi,rfl⟩:=hmem f hf;exact (hF i hi).2.2
end Go.Proofs.YtlejomlppjpchaaGreat
