/- Texts merged into one, for the number of files a claim may have: SgsArg. -/
import Derived.Test.YtlejomlppjpchaaGreatRY15
import Derived.Test.YtlejomlppjpchaaGreatRY20
import Derived.Test.YtlejomlppjpchaaGreatRY21
namespace Go.Proofs.YtlejomlppjpchaaGreat
open Go.RowKit Go.Fb Go.ChangeShapes Go.WideShapes Go.ChangeAt
set_option maxRecDepth 100000
set_option maxHeartbeats 16000000
set_option linter.unusedVariables false
variable {W:World} {H:Type} {enc:TypeId × Value->H} {base:Nat}
theorem rd_recs {fuel:Nat} {cs:List Value} {x:DataW H × List MemPlace} (hf:DataW.trod enc Tryz.prog W 0 (fun _=>true) true fuel 42 cs=some x) :
  ∃ (a:Option Addr) (c:Nat) (l:List (Nat->Int)),cs=[.slice a l.length c]/\l.length<=c/\c<=maxLen/\Reads W W.heap.size 3 a l.length (cellsR l):=by
 rcases Deep.open_slice Tryz.underlying42 hf with ⟨rfl,_⟩ | ⟨a,len0,cap0,m,n,D,Pl,rfl,_,hl,hm,hmm,_,hx⟩
 · exact ⟨none,0,[],rfl,Nat.le_refl _,by simp [maxLen],Reads.none_⟩
 ·
  have hm':m=cap0:=by simpa using hmm
  rw [show Tryz.prog.cellsOf 50=3 by kernel_rfl] at hx
  have key:∀ i,∃ f:Nat->Int,i < m->W.cells? 0 (a.add (i * 3)) 3=some (recC f):=fun i=>by
   by_cases hi:i < m
   · obtain ⟨cs',h1,h2⟩:=hx i hi;obtain ⟨f,rfl⟩:=rec_cells h2;exact ⟨f,fun _=>h1⟩
   · exact ⟨fun _=>0,fun h=>absurd h hi⟩
  obtain ⟨F,hF⟩:=Classical.axiomOfChoice key;refine ⟨some a,cap0,(List.range len0).map F,by simp,by simpa using hl,hm,⟨cellsR_length _,fun hn => ?_⟩⟩;have hn':0 < len0:=(by simpa using hn)
  have hcell:∀ k j,k < m->j < 3->W.cell? ((a.add (k * 3)).add j)=some (.int .i64 (F k j)):=fun k j hk hj=>by
   obtain ⟨_,_,hc⟩:=World.cells?_some (hF k hk);rw [hc j hj,recC_get _ j hj]
  have h0:=hcell 0 0 (by omega) (by omega);have h0':W.cell? a=some (.int .i64 (F 0 0)):=(by simpa [Addr.add] using h0);obtain ⟨b,off,rfl⟩:=addr_of_cell h0';refine ⟨b,off,rfl,World.block_lt_of_cell? W _ h0',fun j u hu => ?_⟩;obtain ⟨f,hfk,hfe⟩:=cellsR_inv hu
  have hk:j / 3 < len0:=by
   rcases Nat.lt_or_ge (j / 3) len0 with h | h
   · exact h
   · rw [List.getElem?_eq_none (by simpa using h)] at hfk;cases hfk
  have hfF:F (j / 3)=f:=(by simpa [hk] using hfk);rw [recC_get _ _ (Nat.mod_lt _ (by omega))] at hfe;injection hfe with hfe
  have:=hcell (j / 3) (j % 3) (by omega) (Nat.mod_lt _ (by omega));have ad:∀ (o i:Nat),(⟨b,o,none⟩:Addr).add i=⟨b,o+i,none⟩:=fun o i=>by unfold Addr.add;split <;> simp_all
  rw [ad,ad,show off+j / 3 * 3+j % 3=off+j by omega,hfF,hfe] at this;exact this
def SgIn0 (W:World) (z:Sg):Prop:=SgIn W W.heap.size z/\z.P.length<=maxLen/\z.R.length<=maxLen/\stWf z.P
theorem sg_cells {n:Nat} {cs:List Value} {x:DataW H × List MemPlace} (h:DataW.trod enc Tryz.prog W 0 (fun _=>true) true n 136 cs=some x) :
  ∃ z:Sg,cs=[z.sp,z.sr]/\SgIn0 W z:=by
 obtain ⟨y0,y1,m,_,hl,h0,h1⟩:=trod_struct2 Tryz.underlying136 h;obtain ⟨Ap,np,cp,M,e0,l0,m0,s0,wfs⟩:=rd_steps h0;obtain ⟨Ar,cr,l,e1,l1,m1,r1⟩:=rd_recs h1;rw [show Tryz.prog.cellsOf 136=2 by kernel_rfl] at hl;rw [show Tryz.prog.cellsOf 134=1 by kernel_rfl] at e0;rw [show Tryz.prog.cellsOf 42=1 by kernel_rfl] at e1;have hnp:=s0.num;subst hnp
 match cs,hl with
 | [u0,u1],_ =>
  simp at e0 e1;exact ⟨⟨M,l,.slice Ap M.length cp,.slice Ar l.length cr⟩,by simp [e0,e1],⟨⟨Ap,cp,rfl,s0⟩,⟨Ar,cr,rfl,r1⟩⟩,Nat.le_trans l0 m0,Nat.le_trans l1 m1,wfs⟩
theorem cellsG_length (Z:List Sg):(cellsG Z).length=Z.length * 2:=by
 induction Z with
 | nil=>rfl
 | cons z Z ih =>
  have e:cellsG (z :: Z)=[z.sp,z.sr] ++ cellsG Z:=rfl;rw [e,List.length_append,ih,List.length_cons];simp;omega
theorem cellsG_inv {Z:List Sg} {j:Nat} {u:Value} (h:(cellsG Z)[j]?=some u):∃ z,Z[j / 2]?=some z/\[z.sp,z.sr][j % 2]?=some u:=by
 have hj:j < (cellsG Z).length:=by
  rcases Nat.lt_or_ge j (cellsG Z).length with h' | h'
  · exact h'
  · rw [List.getElem?_eq_none h'] at h;cases h
 rw [cellsG_length] at hj;have hk:j / 2 < Z.length:=(by omega);obtain ⟨a,b⟩:=cellsG_get (List.getElem?_eq_getElem hk);refine ⟨Z[j / 2],List.getElem?_eq_getElem hk,?_⟩
 rcases Nat.mod_two_eq_zero_or_one j with e | e
 · rw [show j / 2 * 2=j by omega,h] at a;rw [e];exact a.symm
 · rw [show j / 2 * 2+1=j by omega,h] at b;rw [e];exact b.symm
theorem arg_segs_cap {v:Value} {d:DataW H} {p:List MemPlace} (hok:Value.okWide Tryz.prog W .any base 23 v) (h:DataW.Trod enc Tryz.prog W 0 (fun _=>true) true 23 v d p) :
  ∃ (a:Option Addr) (n c:Nat) (Z:List Sg),v=.slice a n c/\n<=c/\c<=maxLen/\Sgs W W.heap.size a n Z /\ ∀ z ∈ Z,z.P.length<=maxLen/\z.R.length<=maxLen/\stWf z.P:=by
 obtain ⟨a0,len0,cap0,rfl⟩:=okWide_slice Tryz.underlying23 hok;obtain ⟨fuel,hf⟩:=h
 rcases Deep.open_slice Tryz.underlying23 hf with ⟨hcs,_⟩ | ⟨a,len,cap,m,n,D,Pl,hcs,_,hl,hm,hmm,_,hx⟩
 · simp [Value.cells] at hcs;obtain ⟨rfl,rfl,rfl⟩:=hcs;exact ⟨none,0,0,[],rfl,Nat.le_refl _,by simp [maxLen],⟨rfl,Reads.none_,by simp⟩,by simp⟩
 ·
  simp [Value.cells] at hcs;obtain ⟨rfl,rfl,rfl⟩:=hcs;have hm':m=cap0:=(by simpa using hmm);rw [show Tryz.prog.cellsOf 136=2 by kernel_rfl] at hx
  have key:∀ i,∃ f:Sg,i < m->W.cells? 0 (a.add (i * 2)) 2=some [f.sp,f.sr]/\SgIn0 W f:=fun i=>by
   by_cases hi:i < m
   · obtain ⟨cs',h1,h2⟩:=hx i hi;obtain ⟨f,rfl,h3⟩:=sg_cells h2;exact ⟨f,fun _=>⟨h1,h3⟩⟩
   · exact ⟨⟨[],[],.slice none 0 0,.slice none 0 0⟩,fun h=>absurd h hi⟩
  obtain ⟨F,hF⟩:=Classical.axiomOfChoice key
  have hmem:∀ f ∈ (List.range len0).map F,∃ i,i < m/\f=F i:=fun f hf=>by
   obtain ⟨i,hi,e⟩:=List.mem_map.1 hf;exact ⟨i,by have:=List.mem_range.1 hi;omega,e.symm⟩
  refine ⟨some a,len0,cap0,(List.range len0).map F,rfl,hl,hm,⟨by simp,⟨by rw [cellsG_length];simp,fun hn => ?_⟩,fun f hf => ?_⟩,fun f hf => ?_⟩
  ·
   have hcell:∀ k j u,k < m->[(F k).sp,(F k).sr][j]?=some u->W.cell? ((a.add (k * 2)).add j)=some u:=fun k j u hk hu=>by
    obtain ⟨_,_,hc⟩:=World.cells?_some (hF k hk).1
    have hj:j < 2:=by
     rcases Nat.lt_or_ge j 2 with h | h
     · exact h
     · rw [List.getElem?_eq_none (by simpa using h)] at hu;cases hu
    rw [hc j hj,hu]
   have h0:=hcell 0 0 _ (by omega) rfl;have h0':W.cell? a=some (F 0).sp:=(by simpa [Addr.add] using h0);obtain ⟨b,off,rfl⟩:=addr_of_cell h0';refine ⟨b,off,rfl,World.block_lt_of_cell? W _ h0',fun j u hu => ?_⟩;obtain ⟨f,hfk,hfe⟩:=cellsG_inv hu
   have hk:j / 2 < len0:=by
    rcases Nat.lt_or_ge (j / 2) len0 with h | h
    · exact h
    · rw [List.getElem?_eq_none (by simpa using h)] at hfk;cases hfk
   have hfF:F (j / 2)=f:=(by simpa [hk] using hfk);have:=hcell (j / 2) (j % 2) u (by omega) (by rw [hfF];exact hfe);have ad:∀ (o i:Nat),(⟨b,o,none⟩:Addr).add i=⟨b,o+i,none⟩:=fun o i=>by unfold Addr.add;split <;> simp_all
   rw [ad,ad,show off+j / 2 * 2+j % 2=off+j by omega] at this;exact this
  · obtain ⟨i,hi,rfl⟩:=hmem f hf;exact (hF i hi).2.1
  · obtain ⟨i,hi,rfl⟩:=hmem f hf;exact (hF i hi).2.2
theorem stWf_cap0 {Z:List Sg} (h:∀ z ∈ Z,z.P.length<=maxLen/\z.R.length<=maxLen/\stWf z.P):∀ z ∈ Z,∀ m ∈ z.P,∀ A n c,m.2.1=.slice A n c->n<=c:=fun z hz=>(h z hz).2.2.cap
end Go.Proofs.YtlejomlppjpchaaGreat
