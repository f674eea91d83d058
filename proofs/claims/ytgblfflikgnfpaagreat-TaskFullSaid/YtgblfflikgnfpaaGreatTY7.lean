/- Texts merged into one, for the number of files a claim may have: Args, OctetWrites, InsArg, NdsArg, ItemArg, AskArg. -/
import Derived.Test.YtgblfflikgnfpaaGreatTY4
import Derived.Lib.SmallJoins
import Derived.Test.YtgblfflikgnfpaaGreatRows
namespace Go.Fb
open Go.ChangeMaps (open_string shut_string)
open Go.ChangeShapes Go.WideShapes Go.ChangeAt Go.RowKit
set_option maxRecDepth 100000
set_option maxHeartbeats 16000000
set_option linter.unusedVariables false
section
variable {H:Type} {enc:TypeId × Value->H} {P:Program} {W:World} {base:Nat}

theorem addr_of_cell {a:Addr} {v:Value} (h:W.cell? a=some v):∃ b off,a=⟨b,off,none⟩:=by
 obtain ⟨b,off,s⟩:=a;have:=World.cell?_spot h;exact ⟨b,off,by simpa using this⟩

theorem rd_ints {t e:TypeId} {k:IntKind} {fuel:Nat} {cs:List Value} {x:DataW H × List MemPlace} (ht:P.underlying t=some (.slice e)) (he:P.underlying e=some (.int k)) (hC:P.cellsOf e=1)
  (hf:DataW.trod enc P W 0 (fun _=>true) true fuel t cs=some x) :
  ∃ (a:Option Addr) (n c:Nat) (xs:List Int),cs=[.slice a n c]/\n<=c/\c<=maxLen/\Reads W W.heap.size 1 a n (xs.map (Value.int k)) /\ ∀ x ∈ xs,(Lit.int k x).wf=true:=by
 rcases open_ints ht he hC hf with ⟨hcs,_⟩ | ⟨x,l,c,zs,hcs,_,hl,hm,hz,_,hcell,hwz⟩
 · exact ⟨none,0,0,[],hcs,Nat.le_refl _,by simp [maxLen],Reads.none_,by simp⟩
 ·
  have hz':zs.length=c:=by simpa using hz
  refine ⟨_,l,c,zs.take l,hcs,hl,hm,⟨by simp;omega,fun hn => ?_⟩,fun y hy=>hwz y (List.mem_of_mem_take hy)⟩;have h0:=hcell 0 (by omega);have h0':W.cell? x=some (.int k (zs.getD 0 0)):=(by simpa [Addr.add] using h0);obtain ⟨b,off,rfl⟩:=addr_of_cell h0';refine ⟨b,off,rfl,World.block_lt_of_cell? W _ h0',fun j u hu => ?_⟩;rw [List.getElem?_map,List.getElem?_take] at hu
  split at hu
  ·
   rename_i hj;have hj':j < zs.length:=(by omega);rw [List.getElem?_eq_getElem hj'] at hu;have hu':Value.int k zs[j]=u:=(by simpa using hu);have hc:=hcell j hj';have e1:(⟨b,off,none⟩:Addr).add j=⟨b,off+j,none⟩:=by unfold Addr.add;split <;> simp_all
   rw [e1] at hc;rw [hc,<- hu'];simp [List.getD,List.getElem?_eq_getElem hj']
  · simp at hu
def isAggD:TypeDesc->Bool
 | .struct _ | .array _ _=>true
 | _=>false
theorem agg_cells {t:TypeId} {d:TypeDesc} {ts:List TypeId} {v:Value} (hu:P.underlying t=some d) (hd:isAggD d=true)
  (hts:P.cellTypes P.depth t=some ts) (hC:P.cellsOf t=ts.length) (hok:Value.okWide P W .any base t v) :
  ∃ cs:Array Value,v=.agg cs/\cs.size=ts.length /\ ∀ (i:Nat) (u:TypeId),ts[i]?=some u->∃ x:Value,cs[i]?=some x/\Cell.okWide P W .any base u x:=by
 have key:∃ cs,v=.agg cs/\cs.size=P.cellsOf t/\Row.okWide P W .any base t cs:=by
  unfold Value.okWide at hok;rw [hu] at hok
  cases d <;> first | exact hok | cases hd
 obtain ⟨cs,rfl,hs,ts',hts',_,hc⟩:=key;rw [hts] at hts';injection hts' with hts'
 subst hts';refine ⟨cs,rfl,hs.trans hC,fun i u hi => ?_⟩
 have hlt:i < ts.length:=by
  rcases Nat.lt_or_ge i ts.length with h | h
  · exact h
  · rw [List.getElem?_eq_none h] at hi;cases hi
 have hlt':i < cs.size:=(by rw [hs,hC];exact hlt);refine ⟨cs[i],Array.getElem?_eq_getElem hlt',?_⟩;obtain ⟨u',hu',hcell⟩:=hc i cs[i] (Array.getElem?_eq_getElem hlt');rw [Nat.mod_eq_of_lt hlt,hi] at hu';injection hu' with hu'
 subst hu';exact hcell
theorem cell_int {t:TypeId} {k:IntKind} {v:Value} (ht:P.underlying t=some (.int k)) (h:Cell.okWide P W .any base t v):∃ x,v=.int k x/\(Lit.int k x).wf=true:=by
 simp only [Cell.okWide,ht] at h
 cases v <;> simp only [Cell.ok,ht] at h
 obtain ⟨rfl,h2⟩:=h;exact ⟨_,rfl,by simpa [Lit.wf,IntKind.has] using h2⟩
end
end Go.Fb
namespace Go.Proofs.YtgblfflikgnfpaaGreat
open Go.RowKit Go.Fb
set_option maxRecDepth 100000
set_option maxHeartbeats 16000000
set_option linter.unusedVariables false
theorem fourU_be (n:Int) (l:List Int):fourU (be n ++ l) 4=n % 4294967296:=by
 simp [fourU,be];omega
theorem fourI_be {n:Int} (h:ofitsB n=true):fourI (n % 4294967296)=n:=by
 obtain ⟨h1,h2⟩:-2147483648<=n/\n<=2147483647:=of_decide_eq_true h;unfold fourI
 split <;> omega
end Go.Proofs.YtgblfflikgnfpaaGreat
namespace Go.Proofs.YtgblfflikgnfpaaGreat
open Go.RowKit Go.Fb Go.ChangeShapes Go.WideShapes Go.ChangeAt
set_option maxRecDepth 100000
set_option maxHeartbeats 16000000
set_option linter.unusedVariables false
variable {W:World} {H:Type} {enc:TypeId × Value->H} {base:Nat}
theorem ins_cells {n:Nat} {cs:List Value} {x:DataW H × List MemPlace} (h:DataW.trod enc Tryz.prog W 0 (fun _=>true) true n 199 cs=some x):∃ i:Int × Int,cs=insC i:=by
 obtain ⟨y0,y1,m,_,hl,h0,h1⟩:=trod_struct2 Tryz.underlying199 h;obtain ⟨a,e0,_⟩:=DataW.trod_int Tryz.underlying3 h0;obtain ⟨b,e1,_⟩:=DataW.trod_int Tryz.underlying3 h1;rw [show Tryz.prog.cellsOf 199=2 by kernel_rfl] at hl;rw [show Tryz.prog.cellsOf 3=1 by kernel_rfl] at e0 e1
 match cs,hl with
 | [u,v],_=>simp at e0 e1;exact ⟨(a,b),by rw [e0,e1];rfl⟩
theorem cellsI_inv {l:List (Int × Int)} {j:Nat} {u:Value} (h:(cellsI l)[j]?=some u):∃ x,l[j / 2]?=some x/\(insC x)[j % 2]?=some u:=by
 have hj:j < (cellsI l).length:=by
  rcases Nat.lt_or_ge j (cellsI l).length with h' | h'
  · exact h'
  · rw [List.getElem?_eq_none h'] at h;cases h
 rw [cellsI_length] at hj;have hk:j / 2 < l.length:=(by omega);refine ⟨l[j / 2],List.getElem?_eq_getElem hk,?_⟩;obtain ⟨h0,h1⟩:=cellsI_get (List.getElem?_eq_getElem hk)
 rcases (show j % 2=0 \/ j % 2=1 by omega) with e | e
 · rw [e];rw [show j / 2 * 2=j by omega,h] at h0;rw [h0];rfl
 · rw [e];rw [show j / 2 * 2+1=j by omega,h] at h1;rw [h1];rfl
end Go.Proofs.YtgblfflikgnfpaaGreat
namespace Go.Proofs.YtgblfflikgnfpaaGreat
open Go.RowKit Go.Fb Go.ChangeShapes Go.WideShapes Go.ChangeAt
set_option maxRecDepth 100000
set_option maxHeartbeats 16000000
set_option linter.unusedVariables false
variable {W:World} {H:Type} {enc:TypeId × Value->H} {base:Nat}
theorem rd_inss {fuel:Nat} {cs:List Value} {x:DataW H × List MemPlace} (hf:DataW.trod enc Tryz.prog W 0 (fun _=>true) true fuel 63 cs=some x) :
  ∃ (a:Option Addr) (c:Nat) (l:List (Int × Int)),cs=[.slice a l.length c]/\l.length<=c/\c<=maxLen/\Reads W W.heap.size 2 a l.length (cellsI l):=by
 rcases Deep.open_slice Tryz.underlying63 hf with ⟨rfl,_⟩ | ⟨a,len0,cap0,m,n,D,Pl,rfl,_,hl,hm,hmm,_,hx⟩
 · exact ⟨none,0,[],rfl,Nat.le_refl _,by simp [maxLen],Reads.none_⟩
 ·
  have hm':m=cap0:=by simpa using hmm
  rw [show Tryz.prog.cellsOf 199=2 by kernel_rfl] at hx
  have key:∀ i,∃ f:Int × Int,i < m->W.cells? 0 (a.add (i * 2)) 2=some (insC f):=fun i=>by
   by_cases hi:i < m
   · obtain ⟨cs',h1,h2⟩:=hx i hi;obtain ⟨f,rfl⟩:=ins_cells h2;exact ⟨f,fun _=>h1⟩
   · exact ⟨(0,0),fun h=>absurd h hi⟩
  obtain ⟨F,hF⟩:=Classical.axiomOfChoice key;refine ⟨some a,cap0,(List.range len0).map F,by simp,by simpa using hl,hm,⟨cellsI_length _,fun hn => ?_⟩⟩;have hn':0 < len0:=(by simpa using hn)
  have hcell:∀ k j u,k < m->(insC (F k))[j]?=some u->W.cell? ((a.add (k * 2)).add j)=some u:=fun k j u hk hu=>by
   obtain ⟨_,_,hc⟩:=World.cells?_some (hF k hk)
   have hj:j < 2:=by
    rcases Nat.lt_or_ge j 2 with h | h
    · exact h
    · rw [List.getElem?_eq_none (by simpa [insC] using h)] at hu;cases hu
   rw [hc j hj,hu]
  have h0:=hcell 0 0 _ (by omega) rfl;have h0':W.cell? a=some (.int .i64 (F 0).1):=(by simpa [Addr.add] using h0);obtain ⟨b,off,rfl⟩:=addr_of_cell h0';refine ⟨b,off,rfl,World.block_lt_of_cell? W _ h0',fun j u hu => ?_⟩;obtain ⟨f,hfk,hfe⟩:=cellsI_inv hu
  have hk:j / 2 < len0:=by
   rcases Nat.lt_or_ge (j / 2) len0 with h | h
   · exact h
   · rw [List.getElem?_eq_none (by simpa using h)] at hfk;cases hfk
  have hfF:F (j / 2)=f:=(by simpa [hk] using hfk);have:=hcell (j / 2) (j % 2) u (by omega) (by rw [hfF];exact hfe);have ad:∀ (o i:Nat),(⟨b,o,none⟩:Addr).add i=⟨b,o+i,none⟩:=fun o i=>by unfold Addr.add;split <;> simp_all
  rw [ad,ad,show off+j / 2 * 2+j % 2=off+j by omega] at this;exact this
theorem rt8_cells {n:Nat} {cs:List Value} {x:DataW H × List MemPlace} (h:DataW.trod enc Tryz.prog W 0 (fun _=>true) true n 64 cs=some x) :
  ∃ r:Nat->Int,cs=[.int .i64 (r 0),.int .i64 (r 1),.int .i64 (r 2),.int .i64 (r 3),.int .i64 (r 4),.int .i64 (r 5),.int .i64 (r 6),.int .i64 (r 7)]:=by
 obtain ⟨xs,m',_,_,hl,hx,hi⟩:=DataW.trod_array Tryz.underlying64 h;rw [show Tryz.prog.cellsOf 64=8 by kernel_rfl] at hl;rw [show Tryz.prog.cellsOf 3=1 by kernel_rfl] at hi
 match cs,hl with
 | [u0,u1,u2,u3,u4,u5,u6,u7],_ =>
  match xs,hx with
  | [y0,y1,y2,y3,y4,y5,y6,y7],_ =>
   obtain ⟨r0,e0,_⟩:=DataW.trod_int Tryz.underlying3 (hi 0 (by omega));obtain ⟨r1,e1,_⟩:=DataW.trod_int Tryz.underlying3 (hi 1 (by omega));obtain ⟨r2,e2,_⟩:=DataW.trod_int Tryz.underlying3 (hi 2 (by omega));obtain ⟨r3,e3,_⟩:=DataW.trod_int Tryz.underlying3 (hi 3 (by omega));obtain ⟨r4,e4,_⟩:=DataW.trod_int Tryz.underlying3 (hi 4 (by omega));obtain ⟨r5,e5,_⟩:=DataW.trod_int Tryz.underlying3 (hi 5 (by omega));obtain ⟨r6,e6,_⟩:=DataW.trod_int Tryz.underlying3 (hi 6 (by omega));obtain ⟨r7,e7,_⟩:=DataW.trod_int Tryz.underlying3 (hi 7 (by omega));simp at e0 e1 e2 e3 e4 e5 e6 e7;exact ⟨fun j=>[r0,r1,r2,r3,r4,r5,r6,r7].getD j 0,by simp [e0,e1,e2,e3,e4,e5,e6,e7]⟩
theorem ntrod_struct6 {P:Program} {w:World} {spare:Nat->Bool} {held:Bool} {t:TypeId} {f0 f1 f2 f3 f4 f5:Field} {fuel:Nat} {cs:List Value} {x:DataW H × List MemPlace} (ht:P.underlying t=some (.struct #[f0,f1,f2,f3,f4,f5])) (h:DataW.trod enc P w base spare held fuel t cs=some x) :
  ∃ y0 y1 y2 y3 y4 y5 n,cs.length=P.cellsOf t/\DataW.trod enc P w base spare held n f0.type ((cs.drop f0.offset).take (P.cellsOf f0.type))=some y0 /\
   DataW.trod enc P w base spare held n f1.type ((cs.drop f1.offset).take (P.cellsOf f1.type))=some y1/\DataW.trod enc P w base spare held n f2.type ((cs.drop f2.offset).take (P.cellsOf f2.type))=some y2 /\
   DataW.trod enc P w base spare held n f3.type ((cs.drop f3.offset).take (P.cellsOf f3.type))=some y3/\DataW.trod enc P w base spare held n f4.type ((cs.drop f4.offset).take (P.cellsOf f4.type))=some y4 /\
   DataW.trod enc P w base spare held n f5.type ((cs.drop f5.offset).take (P.cellsOf f5.type))=some y5:=by
 obtain ⟨xs,n,_,rfl,hl,hlen,hf⟩:=DataW.trod_struct ht h
 match xs,hlen with
 | [y0,y1,y2,y3,y4,y5],_=>exact ⟨y0,y1,y2,y3,y4,y5,n,hl,by simpa using hf 0 f0 rfl,by simpa using hf 1 f1 rfl,by simpa using hf 2 f2 rfl,by simpa using hf 3 f3 rfl,by simpa using hf 4 f4 rfl,by simpa using hf 5 f5 rfl⟩
theorem nd_cells {n:Nat} {cs:List Value} {x:DataW H × List MemPlace} (h:DataW.trod enc Tryz.prog W 0 (fun _=>true) true n 66 cs=some x) :
  ∃ m:Ndm,cs=ndL m/\NdIn W W.heap.size m/\(Lit.int .i64 m.1.par).wf=true/\CapN [m]:=by
 obtain ⟨y0,y1,y2,y3,y4,y5,k,hl,h0,h1,h2,h3,h4,h5⟩:=ntrod_struct6 Tryz.underlying66 h;rw [show Tryz.prog.cellsOf 66=13 by kernel_rfl] at hl;obtain ⟨id,e0,_⟩:=DataW.trod_int Tryz.underlying3 h0;obtain ⟨kd,e1,_⟩:=DataW.trod_int Tryz.underlying3 h1;obtain ⟨Af,nf,cf,fr,e2,hcf,_,hr,_⟩:=rd_ints Tryz.underlying23 Tryz.underlying3 (by kernel_rfl) h2;obtain ⟨Ap,cp,pg,e3,_,_,hp⟩:=rd_inss h3;obtain ⟨par,e4,_,wp⟩:=DataW.trod_int Tryz.underlying3 h4;obtain ⟨r,e5⟩:=rt8_cells h5;have hnf:nf=fr.length:=(by have:=hr.1;simpa using this.symm);subst hnf;rw [show Tryz.prog.cellsOf 3=1 by kernel_rfl] at e0 e1 e4;rw [show Tryz.prog.cellsOf 23=1 by kernel_rfl] at e2;rw [show Tryz.prog.cellsOf 63=1 by kernel_rfl] at e3;rw [show Tryz.prog.cellsOf 64=8 by kernel_rfl] at e5
 match cs,hl with
 | [u0,u1,u2,u3,u4,u5,u6,u7,u8,u9,u10,u11,u12],_ =>
  simp at e0 e1 e2 e3 e4 e5;obtain ⟨f0,f1,f2,f3,f4,f5,f6,f7⟩:=e5
  exact ⟨(⟨id, kd, par, fr, pg, r⟩, .slice Af fr.length cf, .slice Ap pg.length cp), by simp [ndL, e0, e1, e2, e3, e4, f0, f1, f2, f3, f4, f5, f6, f7], ⟨⟨Af, cf, rfl, hr⟩, ⟨Ap, cp, rfl, hp⟩⟩, wp, fun m hm A n c h => by
   have hm:=List.mem_singleton.1 hm;subst hm;injection h with _ h2 h3
   omega⟩
theorem cellsN_inv {M:List Ndm} {j:Nat} {u:Value} (h:(cellsN M)[j]?=some u):∃ m,M[j / 13]?=some m/\(ndL m)[j % 13]?=some u:=by
 have hj:j < (cellsN M).length:=by
  rcases Nat.lt_or_ge j (cellsN M).length with h' | h'
  · exact h'
  · rw [List.getElem?_eq_none h'] at h;cases h
 rw [cellsN_length] at hj;have hk:j / 13 < M.length:=(by omega);refine ⟨M[j / 13],List.getElem?_eq_getElem hk,?_⟩;have:=cellsN_get (List.getElem?_eq_getElem hk) (j % 13) (Nat.mod_lt _ (by omega));rw [show j / 13 * 13+j % 13=j by omega,h] at this;exact this.symm
def ndWf (M:List Ndm):Prop:=∀ m ∈ M,(Lit.int .i64 m.1.par).wf=true/\CapN [m]
theorem ndWf.cap {M:List Ndm} (h:ndWf M):CapN M:=fun m hm=>(h m hm).2 m (by simp)
theorem rd_nodes {fuel:Nat} {cs:List Value} {x:DataW H × List MemPlace} (hf:DataW.trod enc Tryz.prog W 0 (fun _=>true) true fuel 27 cs=some x) :
  ∃ (a:Option Addr) (n c:Nat) (M:List Ndm),cs=[.slice a n c]/\n<=c/\c<=maxLen/\Nds W W.heap.size a n M/\ndWf M:=by
 rcases Deep.open_slice Tryz.underlying27 hf with ⟨rfl,_⟩ | ⟨a,len0,cap0,m,n,D,Pl,rfl,_,hl,hm,hmm,_,hx⟩
 · exact ⟨none,0,0,[],rfl,Nat.le_refl _,by simp [maxLen],⟨rfl,Reads.none_,by simp⟩,by simp [ndWf]⟩
 ·
  have hm':m=cap0:=by simpa using hmm
  rw [show Tryz.prog.cellsOf 66=13 by kernel_rfl] at hx
  have key:∀ i,∃ f:Ndm,i < m->W.cells? 0 (a.add (i * 13)) 13=some (ndL f)/\NdIn W W.heap.size f/\(Lit.int .i64 f.1.par).wf=true/\CapN [f]:=fun i=>by
   by_cases hi:i < m
   · obtain ⟨cs',h1,h2⟩:=hx i hi;obtain ⟨f,rfl,h3⟩:=nd_cells h2;exact ⟨f,fun _=>⟨h1,h3⟩⟩
   · exact ⟨(⟨0,0,0,[],[],fun _=>0⟩,.slice none 0 0,.slice none 0 0),fun h=>absurd h hi⟩
  obtain ⟨F,hF⟩:=Classical.axiomOfChoice key
  have hmem:∀ f ∈ (List.range len0).map F,∃ i,i < m/\f=F i:=fun f hf=>by
   obtain ⟨i,hi,e⟩:=List.mem_map.1 hf;exact ⟨i,by have:=List.mem_range.1 hi;omega,e.symm⟩
  refine ⟨some a,len0,cap0,(List.range len0).map F,rfl,hl,hm,⟨by simp,⟨by rw [cellsN_length];simp,fun hn => ?_⟩,fun f hf => ?_⟩,fun f hf => ?_⟩
  ·
   have hcell:∀ k j u,k < m->(ndL (F k))[j]?=some u->W.cell? ((a.add (k * 13)).add j)=some u:=fun k j u hk hu=>by
    obtain ⟨_,_,hc⟩:=World.cells?_some (hF k hk).1
    have hj:j < 13:=by
     rcases Nat.lt_or_ge j 13 with h | h
     · exact h
     · rw [List.getElem?_eq_none (by simpa [ndL] using h)] at hu;cases hu
    rw [hc j hj,hu]
   have h0:=hcell 0 0 _ (by omega) rfl;have h0':W.cell? a=some (.int .i64 (F 0).1.id):=(by simpa [Addr.add] using h0);obtain ⟨b,off,rfl⟩:=addr_of_cell h0';refine ⟨b,off,rfl,World.block_lt_of_cell? W _ h0',fun j u hu => ?_⟩;obtain ⟨f,hfk,hfe⟩:=cellsN_inv hu
   have hk:j / 13 < len0:=by
    rcases Nat.lt_or_ge (j / 13) len0 with h | h
    · exact h
    · rw [List.getElem?_eq_none (by simpa using h)] at hfk;cases hfk
   have hfF:F (j / 13)=f:=(by simpa [hk] using hfk);have:=hcell (j / 13) (j % 13) u (by omega) (by rw [hfF];exact hfe);have ad:∀ (o i:Nat),(⟨b,o,none⟩:Addr).add i=⟨b,o+i,none⟩:=fun o i=>by unfold Addr.add;split <;> simp_all
   rw [ad,ad,show off+j / 13 * 13+j % 13=off+j by omega] at this;exact this
  · obtain ⟨i,hi,rfl⟩:=hmem f hf;exact (hF i hi).2.1
  · obtain ⟨i,hi,rfl⟩:=hmem f hf;exact (hF i hi).2.2
theorem arg_nodes {v:Value} {d:DataW H} {p:List MemPlace} (hok:Value.okWide Tryz.prog W .any base 27 v) (h:DataW.Trod enc Tryz.prog W 0 (fun _=>true) true 27 v d p) :
  ∃ (a:Option Addr) (n c:Nat) (M:List Ndm),v=.slice a n c/\n<=c/\c<=maxLen/\Nds W W.heap.size a n M/\ndWf M:=by
 obtain ⟨a0,len0,cap0,rfl⟩:=okWide_slice Tryz.underlying27 hok;obtain ⟨fuel,hf⟩:=h;obtain ⟨a,n,c,M,h1,h2⟩:=rd_nodes hf;simp [Value.cells] at h1;obtain ⟨rfl,rfl,rfl⟩:=h1;exact ⟨_,_,_,M,rfl,h2⟩
end Go.Proofs.YtgblfflikgnfpaaGreat
namespace Go.Proofs.YtgblfflikgnfpaaGreat
open Go.RowKit Go.Fb
set_option maxRecDepth 100000
set_option maxHeartbeats 16000000
set_option linter.unusedVariables false
variable {W:World} {H:Type} {enc:TypeId × Value->H} {base:Nat}
theorem cell_bool {P:Program} {t:TypeId} {v:Value} (ht:P.underlying t=some .bool) (h:Cell.okWide P W .any base t v):∃ x,v=.bool x:=by
 simp only [Cell.okWide,ht] at h
 cases v <;> simp only [Cell.ok,ht] at h
 exact ⟨_,rfl⟩
end Go.Proofs.YtgblfflikgnfpaaGreat
namespace Go.Proofs.YtgblfflikgnfpaaGreat
open Go.RowKit Go.Fb
set_option maxRecDepth 100000
set_option maxHeartbeats 16000000
set_option linter.unusedVariables false
variable {W:World} {H:Type} {enc:TypeId × Value->H} {base:Nat}
theorem arg_ask {v:Value} (hok:Value.okWide Tryz.prog W .any base 112 v) :
  ∃ (tk ak:Int) (p:Bool),v=.agg #[.int .u8 tk,.int .u8 ak,.bool p]/\(0<=tk/\tk<=255)/\(0<=ak/\ak<=255):=by
 obtain ⟨cs,rfl,hs,hc⟩:=agg_cells (ts:=[5,5,4]) Tryz.underlying112 rfl (by kernel_rfl) (by kernel_rfl) hok;obtain ⟨x0,e0,c0⟩:=hc 0 _ rfl;obtain ⟨x1,e1,c1⟩:=hc 1 _ rfl;obtain ⟨x2,e2,c2⟩:=hc 2 _ rfl;obtain ⟨tk,rfl,w0⟩:=cell_int Tryz.underlying5 c0;obtain ⟨ak,rfl,w1⟩:=cell_int Tryz.underlying5 c1;obtain ⟨p,rfl⟩:=cell_bool Tryz.underlying4 c2;refine ⟨tk,ak,p,?_,bounds_u8 w0,bounds_u8 w1⟩
 congr 1
 apply Array.ext_getElem?;intro i
 match i with
 | 0=>exact e0
 | 1=>exact e1
 | 2=>exact e2
 | j+3 =>
  simp at hs;rw [Array.getElem?_eq_none (by omega),Array.getElem?_eq_none (by simp)]
end Go.Proofs.YtgblfflikgnfpaaGreat
