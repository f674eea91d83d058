/- Texts merged into one, for the number of files a claim may have: ItemE, RecsArg. -/
import Derived.Test.YtgblfflikgnfpaaGreatTY7
import Derived.Test.YtgblfflikgnfpaaGreatTY9
namespace Go.Proofs.YtgblfflikgnfpaaGreat
open Go.RowKit Go.Fb
set_option maxRecDepth 100000
set_option maxHeartbeats 16000000
set_option linter.unusedVariables false
def nAt (l:List Int) (i:Nat):Int:=fourI (fourU (l.drop i) 4)
theorem numOf_nAt {s:ByteArray} {l:List Int} {i:Nat} (h:bl s=l.drop i):numOf s=nAt l i:=by rw [numOf,h,nAt]
theorem bl_rest (s:ByteArray) (i:Nat):bl (s.extract i s.size)=(bl s).drop i:=by
 rw [bl_extract,List.take_of_length_le (by rw [bl_length];omega)]
theorem leftS_bl (s:ByteArray):∀ k,4 * k+1<=s.size->bl (leftS s k)=(bl s).drop (4 * k+1)
 | 0,_=>bl_rest s 1
 | k+1,h=>by
  have ih:=leftS_bl s k (by omega)
  have hz:¬ (leftS s k).size < 4:=by
   have h2:=congrArg List.length ih;rw [bl_length,List.length_drop,bl_length] at h2;omega
  show bl (rnumOf (leftS s k)).2.2=_
  rw [rnumOf,if_neg hz]
  show bl ((leftS s k).extract 4 (leftS s k).size)=_
  rw [bl_rest,ih,List.drop_drop]
  congr 1
theorem numK_nAt (s:ByteArray) (k:Nat) (h:4 * k+5<=s.size):numK s k=nAt (bl s) (4 * k+1):=by
 have hb:=leftS_bl s k (by omega)
 have hz:¬ (leftS s k).size < 4:=by
  have h2:=congrArg List.length hb;rw [bl_length,List.length_drop,bl_length] at h2;omega
 rw [numK,rnumOf,if_neg hz];exact numOf_nAt hb
theorem nAt_be {l r:List Int} {n:Int} {i:Nat} (h:l.drop i=be n ++ r) (hf:ofitsB n=true):nAt l i=n:=by
 rw [nAt,h,fourU_be,fourI_be hf]
theorem isB_bl (s:ByteArray):isB s=((bl s)[0]? == some 66):=by
 have h1:∀ x:ByteArray,(x.toList == [66])=(bl x == [66]):=fun x=>by
  rw [ByteArray.toList_eq];unfold bl;generalize x.data.toList=y
  match y with
  | []=>rfl
  | [a] =>
   rw [Bool.eq_iff_iff];simp only [List.map,beq_iff_eq,List.cons.injEq,and_true];constructor
   · rintro rfl;rfl
   · intro h;exact UInt8.toNat_inj.1 (by show a.toNat=66;omega)
  | a :: b :: r=>simp
 rw [isB,h1,bl_extract]
 match bl s with
 | []=>rfl
 | a :: r=>simp
theorem put_range {b:Bool} {k re im ep:Int} {p:Bool} {l:List Int} (h:putI b k re im ep p=some l):∀ x ∈ l,0<=x/\x < 256:=by
 unfold putI at h
 split at h <;> split at h <;> simp at h
 all_goals
  subst h;intro x hx;simp only [List.mem_cons,List.mem_append] at hx
 ·
  rcases hx with rfl | hx | hx
  · omega
  · exact be_range _ x hx
  · exact be_range _ x hx
 ·
  rcases hx with rfl | hx | hx | hx
  · omega
  · exact be_range _ x hx
  · exact be_range _ x hx
  · exact be_range _ x hx
theorem str_eq {l:List Int} (h:∀ x ∈ l,0<=x/\x < 256) (s:ByteArray):strOfNums l=s ↔ l=bl s:=by
 constructor
 · rintro rfl;exact (bl_strOfNums h).symm
 · rintro rfl;exact bl_inj (bl_strOfNums (bl_range s))
theorem goodI_iff (s:ByteArray):goodI s=true ↔ (candI s).put=some (bl s):=by
 unfold goodI
 cases hp:(candI s).put with
 | none=>simp
 | some l =>
  have hr:=put_range hp;rw [Option.isSome_some,Bool.true_and,decide_eq_true_eq]
  show strOfNums l=s ↔ _
  rw [str_eq hr s];simp
theorem candI_of {l:List Int} (hr:∀ x ∈ l,0<=x/\x < 256) (h0:l[0]?=some 66) (h9:9<=l.length):candI (strOfNums l)=⟨true,0,0,0,nAt l 1,nAt l 5 == 1⟩:=by
 have hz:(strOfNums l).size=l.length:=strOfNums_size l;have hB:isB (strOfNums l)=true:=(by rw [isB_bl,bl_strOfNums hr,h0];rfl);unfold candI;rw [hB,if_pos rfl,numK_nAt _ 0 (by omega),numK_nAt _ 1 (by omega),bl_strOfNums hr]
theorem candI_of' {l:List Int} (hr:∀ x ∈ l,0<=x/\x < 256) (h0:l[0]?=some 82) (h9:13<=l.length):candI (strOfNums l)=⟨false,nAt l 1,nAt l 5,nAt l 9,0,false⟩:=by
 have hz:(strOfNums l).size=l.length:=strOfNums_size l;have hB:isB (strOfNums l)=false:=(by rw [isB_bl,bl_strOfNums hr,h0];rfl);unfold candI;rw [hB,if_neg (by simp),numK_nAt _ 0 (by omega),numK_nAt _ 1 (by omega),numK_nAt _ 2 (by omega),bl_strOfNums hr]
def Itm.back (i:Itm):Itm:=if i.b then ⟨true,0,0,0,i.ep,i.p⟩ else ⟨false,i.k,i.re,i.im,0,false⟩
theorem put_back {i:Itm} {l:List Int} (h:i.put=some l):candI (strOfNums l)=i.back/\goodI (strOfNums l)=true:=by
 have hr:=put_range h
 have key:candI (strOfNums l)=i.back:=by
  obtain ⟨b,k,re,im,ep,p⟩:=i;unfold Itm.put putI at h
  split at h
  ·
   rename_i hb;replace hb:b=true:=hb;subst hb
   split at h
   ·
    rename_i he;replace he:0<=ep/\ep<=2147483647:=he;simp at h;subst h;have f1:ofitsB ep=true:=(by simp [ofitsB];omega);have f2:ofitsB (if p=true then 1 else 0)=true:=by cases p <;> rfl
    rw [candI_of hr rfl (by simp [be_length])];have e1:nAt (66 :: (be ep ++ be (if p=true then 1 else 0))) 1=ep:=nAt_be (r:=be (if p=true then 1 else 0)) rfl f1;have e2:nAt (66 :: (be ep ++ be (if p=true then 1 else 0))) 5=if p=true then 1 else 0:=nAt_be (r:=[]) (by simp [be]) f2
    rw [e1,e2]
    cases p <;> rfl
   · simp at h
  ·
   rename_i hb;replace hb:b=false:=by simpa using hb
   subst hb
   split at h
   ·
    rename_i he;simp at h;subst h;obtain ⟨f1,f2,f3⟩:=recB_fits he;rw [candI_of' hr rfl (by simp [be_length])];have e1:nAt (82 :: (be k ++ (be re ++ be im))) 1=k:=nAt_be (r:=be re ++ be im) rfl f1;have e2:nAt (82 :: (be k ++ (be re ++ be im))) 5=re:=nAt_be (r:=be im) (by simp [be]) f2;have e3:nAt (82 :: (be k ++ (be re ++ be im))) 9=im:=nAt_be (r:=[]) (by simp [be]) f3
    show Itm.mk _ _ _ _ _ _=_
    rw [e1,e2,e3];rfl
   · simp at h
 refine ⟨key,?_⟩;rw [goodI_iff,key,bl_strOfNums hr,<- h];obtain ⟨b,k,re,im,ep,p⟩:=i
 cases b <;> rfl
end Go.Proofs.YtgblfflikgnfpaaGreat
namespace Go.Proofs.YtgblfflikgnfpaaGreat
open Go.RowKit Go.Fb Go.ChangeShapes Go.WideShapes Go.ChangeAt
set_option maxRecDepth 100000
set_option maxHeartbeats 16000000
set_option linter.unusedVariables false
variable {W:World} {H:Type} {enc:TypeId × Value->H} {base:Nat}
theorem val_cells {n:Nat} {cs:List Value} {x:DataW H × List MemPlace} (h:DataW.trod enc Tryz.prog W 0 (fun _=>true) true n 30 cs=some x):∃ a b:Int,cs=[.int .i64 a,.int .i64 b]:=by
 obtain ⟨y0,y1,m,_,hl,h0,h1⟩:=trod_struct2 Tryz.underlying30 h;obtain ⟨a,e0,_⟩:=DataW.trod_int Tryz.underlying3 h0;obtain ⟨b,e1,_⟩:=DataW.trod_int Tryz.underlying3 h1;rw [show Tryz.prog.cellsOf 30=2 by kernel_rfl] at hl;rw [show Tryz.prog.cellsOf 3=1 by kernel_rfl] at e0 e1
 match cs,hl with
 | [u,v],_=>simp at e0 e1;exact ⟨a,b,by rw [e0,e1]⟩
theorem rec_cells {n:Nat} {cs:List Value} {x:DataW H × List MemPlace} (h:DataW.trod enc Tryz.prog W 0 (fun _=>true) true n 32 cs=some x):∃ f:Nat->Int,cs=recC f:=by
 obtain ⟨y0,y1,m,_,hl,h0,h1⟩:=trod_struct2 Tryz.underlying32 h;obtain ⟨a,e0,_⟩:=DataW.trod_int Tryz.underlying3 h0;obtain ⟨c,d,e1⟩:=val_cells h1;rw [show Tryz.prog.cellsOf 32=3 by kernel_rfl] at hl;rw [show Tryz.prog.cellsOf 3=1 by kernel_rfl] at e0;rw [show Tryz.prog.cellsOf 30=2 by kernel_rfl] at e1
 match cs,hl with
 | [u0,u1,u2],_ =>
  simp at e0 e1;exact ⟨fun j=>[a,c,d].getD j 0,by simp [recC,e0,e1]⟩
theorem cellsR_inv {l:List (Nat->Int)} {j:Nat} {u:Value} (h:(cellsR l)[j]?=some u):∃ x,l[j / 3]?=some x/\(recC x)[j % 3]?=some u:=by
 have hj:j < (cellsR l).length:=by
  rcases Nat.lt_or_ge j (cellsR l).length with h' | h'
  · exact h'
  · rw [List.getElem?_eq_none h'] at h;cases h
 rw [cellsR_length] at hj;have hk:j / 3 < l.length:=(by omega);refine ⟨l[j / 3],List.getElem?_eq_getElem hk,?_⟩;have:=cellsR_get (List.getElem?_eq_getElem hk) (j % 3) (Nat.mod_lt _ (by omega));rw [show j / 3 * 3+j % 3=j by omega,h] at this;rw [recC_get _ _ (Nat.mod_lt _ (by omega)),this]
theorem arg_recs {v:Value} {d:DataW H} {p:List MemPlace} (hok:Value.okWide Tryz.prog W .any base 22 v) (h:DataW.Trod enc Tryz.prog W 0 (fun _=>true) true 22 v d p) :
  ∃ (a:Option Addr) (c:Nat) (l:List (Nat->Int)),v=.slice a l.length c/\l.length<=c/\c<=maxLen/\Reads W W.heap.size 3 a l.length (cellsR l):=by
 obtain ⟨a0,len0,cap0,rfl⟩:=okWide_slice Tryz.underlying22 hok;obtain ⟨fuel,hf⟩:=h
 rcases Deep.open_slice Tryz.underlying22 hf with ⟨hcs,_⟩ | ⟨a,len,cap,m,n,D,Pl,hcs,_,hl,hm,hmm,_,hx⟩
 · simp [Value.cells] at hcs;obtain ⟨rfl,rfl,rfl⟩:=hcs;exact ⟨none,0,[],rfl,Nat.le_refl _,by simp [maxLen],Reads.none_⟩
 ·
  simp [Value.cells] at hcs;obtain ⟨rfl,rfl,rfl⟩:=hcs;have hm':m=cap0:=(by simpa using hmm);rw [show Tryz.prog.cellsOf 32=3 by kernel_rfl] at hx
  have key:∀ i,∃ f:Nat->Int,i < m->W.cells? 0 (a.add (i * 3)) 3=some (recC f):=fun i=>by
   by_cases hi:i < m
   · obtain ⟨cs',h1,h2⟩:=hx i hi;obtain ⟨f,rfl⟩:=rec_cells h2;exact ⟨f,fun _=>h1⟩
   · exact ⟨fun _=>0,fun h=>absurd h hi⟩
  obtain ⟨F,hF⟩:=Classical.axiomOfChoice key;refine ⟨some a,cap0,(List.range len0).map F,by simp,by simpa using hl,hm,⟨cellsR_length _,fun hn => ?_⟩⟩;have hn':0 < len0:=(by simpa using hn)
  have hcell:∀ k j,k < m->j < 3->W.cell? ((a.add (k * 3)).add j)=some (.int .i64 (F k j)):=fun k j hk hj=>by
   obtain ⟨_,_,hc⟩:=World.cells?_some (hF k hk);rw [hc j hj,recC_get _ j hj]
  have h0:=hcell 0 0 (by omega) (by omega);have h0':W.cell? a=some (.int .i64 (F 0 0)):=(by simpa [Addr.add] using h0);obtain ⟨b,off,rfl⟩:=addr_of_cell h0';refine ⟨b,off,rfl,World.block_lt_of_cell? W _ h0',fun j u hu => ?_⟩;obtain ⟨f,hfk,hfe⟩:=cellsR_inv hu
  have hk:j / 3 < len0:=by
   rcases Nat.lt_or_ge (j / 3) len0 with h | h
   · exact h
   · rw [List.getElem?_eq_none (by simpa using h)] at hfk;cases hfk
  have hfF:F (j / 3)=f:=(by simpa [hk] using hfk);rw [recC_get _ _ (Nat.mod_lt _ (by omega))] at hfe;injection hfe with hfe
  have:=hcell (j / 3) (j % 3) (by omega) (Nat.mod_lt _ (by omega));have ad:∀ (o i:Nat),(⟨b,o,none⟩:Addr).add i=⟨b,o+i,none⟩:=fun o i=>by unfold Addr.add;split <;> simp_all
  rw [ad,ad,show off+j / 3 * 3+j % 3=off+j by omega,hfF,hfe] at this;exact this
end Go.Proofs.YtgblfflikgnfpaaGreat
