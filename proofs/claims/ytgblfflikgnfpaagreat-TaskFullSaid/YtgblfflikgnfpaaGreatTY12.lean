/- Texts merged into one, for the number of files a claim may have: CtC, CtD. -/
import Derived.Test.YtgblfflikgnfpaaGreatTY2
import Derived.Test.YtgblfflikgnfpaaGreatTY5
import Derived.Test.YtgblfflikgnfpaaGreatTY10
namespace Go.Proofs.YtgblfflikgnfpaaGreat
open Go.RowKit Go.Fb Go.Sort
set_option maxRecDepth 100000
set_option maxHeartbeats 16000000
set_option linter.unusedVariables false
abbrev EB:Type:={ x:Nat->Int // 0<=x 0/\x 0 < 8/\0<=x 1/\x 1 < 64 }
instance:Inhabited EB:=⟨⟨fun _=>0,by simp⟩⟩
def ebC (x:EB):List Value:=[.int .i64 (x.1 0),.int .i64 (x.1 1),.int .i64 (x.1 2),.int .i64 (x.1 3),.int .i64 (x.1 4),.int .i64 (x.1 5)]
def rankE (x:Nat->Int):Int:=x 0 * 64+x 1
def cfE (x y:EB):Int:=(x.1 0 - y.1 0) * 64+x.1 1 - y.1 1
theorem ltE (x y:EB):ltOf cfE x y=decide (rankE x.1 < rankE y.1):=by
 unfold ltOf cfE rankE;rw [decide_eq_decide];omega
theorem swoE:SWO (ltOf cfE) where
 irrefl x:=by rw [ltE];simp
 trans x y z h1 h2:=by rw [ltE] at *;simp only [decide_eq_true_eq] at *;omega
 ntrans x y z h1 h2:=by rw [ltE] at *;simp only [decide_eq_false_iff_not] at *;omega
theorem ecmp_any (x y:EB) (w:World):Calls Tryz.prog 141 #[.agg #[.int .i64 (x.1 0),.int .i64 (x.1 1),.int .i64 (x.1 2),.int .i64 (x.1 3),.int .i64 (x.1 4),.int .i64 (x.1 5)],.agg #[.int .i64 (y.1 0),.int .i64 (y.1 1),.int .i64 (y.1 2),.int .i64 (y.1 3),.int .i64 (y.1 4),.int .i64 (y.1 5)]] w fun e w'=>e=.returned (.int .i64 (cfE x y))/\∃ q os',w'=grow (w.drewN q) os':=by
 obtain ⟨x,hx0,hx1,hx2,hx3⟩:=x;obtain ⟨y,hy0,hy1,hy2,hy3⟩:=y;unfold cfE;simp only;generalize x 0=a0 at *;generalize x 1=a1 at *;generalize x 2=a2 at *;generalize x 3=a3 at *;generalize x 4=a4 at *;generalize x 5=a5 at *;generalize y 0=b0 at *;generalize y 1=b1 at *;generalize y 2=b2 at *;generalize y 3=b3 at *;generalize y 4=b4 at *;generalize y 5=b5 at *;have B1:=zh ((Blk.new w 96 #[.int .i64 a0,.int .i64 a1,.int .i64 a2,.int .i64 a3,.int .i64 a4,.int .i64 a5]).alloc (.cells #[.int .i64 b0,.int .i64 b1,.int .i64 b2,.int .i64 b3,.int .i64 b4,.int .i64 b5] 96));have B2:=Blk.new (w.alloc (.cells #[.int .i64 a0,.int .i64 a1,.int .i64 a2,.int .i64 a3,.int .i64 a4,.int .i64 a5] 96)) 96 #[.int .i64 b0,.int .i64 b1,.int .i64 b2,.int .i64 b3,.int .i64 b4,.int .i64 b5];rw [World.size_alloc] at B2;have B2:=zh B2;have HW:=zh (show (w.alloc (.cells #[.int .i64 a0,.int .i64 a1,.int .i64 a2,.int .i64 a3,.int .i64 a4,.int .i64 a5] 96)).alloc (.cells #[.int .i64 b0,.int .i64 b1,.int .i64 b2,.int .i64 b3,.int .i64 b4,.int .i64 b5] 96)=grow w #[.cells #[.int .i64 a0,.int .i64 a1,.int .i64 a2,.int .i64 a3,.int .i64 a4,.int .i64 a5] 96,.cells #[.int .i64 b0,.int .i64 b1,.int .i64 b2,.int .i64 b3,.int .i64 b4,.int .i64 b5] 96] by rw [alloc_eq_grow,alloc_eq_grow,grow_grow];rfl);go_enter Tryz.func141,Tryz.ntmps141;go_upto_region 1 with fail;generalize (w.alloc _).alloc _=w1 at *;have p0:=B1.out.cell 0;have p1:=B1.out.cell 1;have q0:=B2.out.cell 0;have q1:=B2.out.cell 1;simp at p0 p1 q0 q1;clear B1 B2;go_wp2_with fail;go_ret;exact ⟨rfl,0,_,HW.out⟩
theorem flat_getE:∀ (L:List EB) (t:Nat),t < L.length * 6->(L.flatMap ebC)[t]?=some ((ebC L[t / 6]!)[t % 6]!)
 | [],t,h=>by simp at h
 | x :: L,t,h=>by
  rw [List.flatMap_cons]
  by_cases c:t < 6
  · rw [List.getElem?_append_left (by simpa [ebC] using c),show t / 6=0 by omega,show t % 6=t by omega];rw [List.getElem?_eq_getElem (by simpa [ebC] using c),List.getElem!_cons_zero,getElem!_pos _ t (by simpa [ebC] using c)]
  · obtain ⟨u,rfl⟩:∃ u,t=u+6:=⟨t - 6,by omega⟩;rw [List.getElem?_append_right (by simp [ebC]),show u+6 - (ebC x).length=u from by simp [ebC],flat_getE L u (by simp at h;omega),show (u+6) / 6=u / 6+1 by omega,show (u+6) % 6=u % 6 by omega,List.getElem!_cons_succ]
theorem flatK_eb (L:List EB):(flatK ebC 6 L.toArray).toList=L.flatMap ebC:=by
 refine List.ext_getElem? fun t => ?_
 by_cases c:t < L.length * 6
 · rw [flat_getE L t c];have h1:t < (flatK ebC 6 L.toArray).size:=(by simpa using c);have h2:=get_flatK ebC 6 L.toArray t (by simpa using c);rw [getElem!_pos _ t h1] at h2;rw [Array.getElem?_toList,Array.getElem?_eq_getElem h1,h2];simp
 ·
  rw [List.getElem?_eq_none (by simpa using c),List.getElem?_eq_none]
  have:∀ L:List EB,(L.flatMap ebC).length=L.length * 6:=fun L=>by
   induction L with
   | nil=>rfl
   | cons x L ih=>rw [List.flatMap_cons,List.length_append,ih];simp [ebC];omega
  rw [this];omega
def SortedE (L:List EB):Prop:=∀ i j,i < j->j < L.length->ltOf cfE L[j]! L[i]! = false
theorem sortEnt_any (w:World) (g c base:Nat) (L:List EB) (hown:w.ownsRow base 96 6 (.slice (some ⟨g,0,none⟩) L.length c) L.length (L.flatMap ebC)) (hlt:g < w.heap.size) (hn:L.length<=1000000) :
  Calls Tryz.prog 140 #[.slice (some ⟨g,0,none⟩) L.length c,.func (.func 141) #[] #[]] w fun e w' =>
   e=.returned (.tuple #[])/\∃ L',L'.Perm L/\SortedE L'/\Reads w' (g+1) 6 (some ⟨g,0,none⟩) L.length (L'.flatMap ebC)/\Fr w.heap.size [g] w w':=by
 have hH:HoldsK ebC 6 w g 0 L.toArray:=by
  intro j hj;have hj':j < (L.flatMap ebC).length:=(by rw [<- flatK_eb];simpa using hj);refine ⟨?_,?_⟩
  ·
   obtain ⟨b,off,e,_,hc⟩:=(Reads.of_own hown).2 (by have h:=hj;simp at h;omega);injection e with e
   injection e with e1 e2 _
   subst e1;subst e2;rw [hc j _ (List.getElem?_eq_getElem hj')]
   congr 1
   have h1:=hj;rw [getElem!_pos _ j hj,id,<- Array.getElem_toList];simp only [flatK_eb]
  · rw [Nat.zero_add];exact hown.frozenAt j
 have aE:∀ w,(isAgg 96).run Tryz.prog w=.ok true w:=fun w=>by kernel_rfl
 have zE:∀ w,(Go.sizeOf 96).run Tryz.prog w=.ok 6 w:=fun w=>by kernel_rfl
 have h:=AnyQ.slices_SortFunc Tryz.sortEnt 6 aE zE ebC (fun _=>rfl) (fun x v hv=>by simp [ebC] at hv;rcases hv with rfl | rfl | rfl | rfl | rfl | rfl <;> rfl) cfE swoE 141 #[] g 0 c L.toArray w (enters_of Tryz.func141 (by kernel_rfl) rfl) (fun m os dk _ x y=>by exact ecmp_any x y _) hH hlt (by simp;omega);refine h.mono ?_;rintro e w' ⟨rfl,d',n,os,hp,hs,rfl⟩;have hsz:d'.size=L.length:=(by simpa using hp.1);refine ⟨rfl,d'.toList,?_,?_,?_,?_⟩
 · have:=hp.2.2;simpa [hsz,Array.extract_eq_self_of_le] using this
 · intro i j hij hj;have:=hs i j (Nat.zero_le _) hij (by simpa [hsz] using hj);have hj2:j < d'.size:=(by simpa using hj);rw [getElem!_pos d' j hj2,getElem!_pos d' i (by omega)] at this;rw [getElem!_pos d'.toList j hj,getElem!_pos d'.toList i (by simp;omega),Array.getElem_toList,Array.getElem_toList];exact this
 ·
  have hK:=holdsK_sortWorldK_c ebC 6 w g 0 L.toArray d' n os hH hlt (by simpa using hsz);refine ⟨?_,fun _=>⟨g,0,rfl,Nat.lt_succ_self _,fun j u hu => ?_⟩⟩
  · rw [<- flatK_eb];simp [hsz]
  · rw [<- flatK_eb,Array.toArray_toList,Array.getElem?_toList] at hu;obtain ⟨hjs,hu⟩:=Array.getElem?_eq_some_iff.1 hu;have h:=(hK j hjs).1;rw [getElem!_pos _ j hjs,hu] at h;exact h
 · refine ⟨rfl,rfl,rfl,size_sortWorldK_c ebC 6 w g 0 n d' os,fun k hk hn => ?_⟩;have hkg:g ≠ k:=fun e=>hn (by simp [e]);unfold sortWorldK;rw [heap_grow_old _ _ (by simpa [putRowK,putRow,mapBlock] using hk)];simp [putRowK,putRow,mapBlock,Array.getElem?_modify,hkg]
theorem sub_len:∀ {α:Type} [DecidableEq α] {A B:List α},A.Nodup->(∀ p ∈ A,p ∈ B)->A.length<=B.length
 | _,_,[],_,_,_=>Nat.zero_le _
 | _,_,p :: A,B,hn,hs=>by
  obtain ⟨h1,h2⟩:=List.nodup_cons.1 hn;have hp:=hs p (by simp);have:=sub_len (A:=A) (B:=B.erase p) h2 (fun q hq=>(List.mem_erase_of_ne (fun e:q=p=>h1 (e ▸ hq))).2 (hs q (by simp [hq])));rw [List.length_erase_of_mem hp] at this;have:=List.length_pos_of_mem hp;simp only [List.length_cons];omega
def outE (q:Pk->Bool) (T:Pk->CV) (K:List Pk):List (Nat->Int):=(K.filter q).map fun p=>entF p (T p)
theorem outE_snoc (q:Pk->Bool) (T:Pk->CV) (K:List Pk) (p:Pk):outE q T (K ++ [p])=if q p=true then outE q T K ++ [entF p (T p)] else outE q T K:=by
 unfold outE;rw [List.filter_append,List.map_append]
 by_cases h:q p=true <;> simp [h]
theorem cellsE_app (a b:List (Nat->Int)):cellsE (a ++ b)=cellsE a ++ cellsE b:=by simp [cellsE]
def EntsOut (l:List (Nat->Int)) (w:World) (e:Ending) (w':World):Prop :=
 ∃ A c,e=.returned (.slice A l.length c)/\Reads w' w'.heap.size 6 A l.length (cellsE l)/\l.length<=c/\(∀ ad,A=some ad->w.heap.size<=ad.block)/\Fr w.heap.size [] w w'
theorem sorted_some {q:Pk->Bool} {T:Pk->CV} {K:List Pk} {L:List EB} (hok:TOk T) (hK:∀ p,p ∈ K ↔ T p ≠ c0) (hn:K.Nodup) (hp:(L.map (·.1)).Perm (outE q T K)) (hs:SortedE L):L.map (·.1)=someE q T:=by
 have hmem:∀ x,x ∈ L.map (·.1) ↔ x ∈ someE q T:=by
  intro x;rw [hp.mem_iff];unfold outE someE;rw [List.mem_map,List.mem_map];constructor
  · rintro ⟨p,h1,rfl⟩;obtain ⟨h2,h3⟩:=List.mem_filter.1 h1;have h4:=(hK p).1 h2;exact ⟨p,someT_mem.2 ⟨(hok p h4).1,h4,h3⟩,rfl⟩
  · rintro ⟨p,h1,rfl⟩;obtain ⟨_,h4,h3⟩:=someT_mem.1 h1;exact ⟨p,List.mem_filter.2 ⟨(hK p).2 h4,h3⟩,rfl⟩
 have hnd:(L.map fun x=>rankE x.1).Nodup:=by
  have h1:((L.map (·.1)).map rankE).Perm ((outE q T K).map rankE):=hp.map _;rw [List.map_map] at h1;refine h1.nodup_iff.2 ?_;unfold outE;rw [List.map_map];have hKf:(K.filter q).Nodup:=hn.sublist List.filter_sublist;have hth:∀ p ∈ K.filter q,thereB p=true:=fun p hp=>(hok p ((hK p).1 (List.mem_filter.1 hp).1)).1;clear hn hs hmem h1;generalize K.filter q=Z at hKf hth
  induction Z with
  | nil=>exact List.nodup_nil
  | cons a Z ih =>
   obtain ⟨n1,n2⟩:=List.nodup_cons.1 hKf;rw [List.map_cons,List.nodup_cons];refine ⟨fun hc => ?_,ih n2 (fun p hp=>hth p (List.mem_cons_of_mem _ hp))⟩;obtain ⟨b,hb,e⟩:=List.mem_map.1 hc;have ha:=hth a (by simp);have hb':=hth b (List.mem_cons_of_mem _ hb);unfold thereB at ha hb';have ha:=of_decide_eq_true ha;have hb':=of_decide_eq_true hb';simp only [Function.comp,rankE,entF] at e;simp at e
   have:a=b:=by
    obtain ⟨a1,a2⟩:=a;obtain ⟨b1,b2⟩:=b;simp only at *;have e1:a1=b1:=(by omega);have e2:a2=b2:=(by omega);rw [e1,e2]
   exact n1 (this ▸ hb)
 refine rises_uniq rankE ?_ ?_ hmem
 ·
  rw [List.pairwise_map,List.pairwise_iff_getElem];intro i j hi hj hij;have h1:=hs i j hij hj;rw [getElem!_pos L j hj,getElem!_pos L i hi,ltE] at h1;have h1:=of_decide_eq_false h1
  have h2:rankE L[i].1 ≠ rankE L[j].1:=fun e=>by
   have:=(List.getElem_inj hnd).1 (show (L.map fun x:EB=>rankE x.1)[i]'(by simpa using hi)=(L.map fun x:EB=>rankE x.1)[j]'(by simpa using hj) by simpa using e);omega
  omega
 · unfold someE;rw [List.pairwise_map];refine (someT_rank q T).imp ?_;intro a b h;unfold rankP at h;simp only [rankE,entF];simpa using h
theorem nlen64E (w:World):Calls Tryz.prog 158 #[.int .u64 0] w fun o w'=>o=.returned (.int .i64 0)/\w=w':=by
 go_enter Tryz.func158,Tryz.ntmps158;go_wp2_with fail;go_ret;exact ⟨by kernel_rfl,rfl⟩
theorem nblenE (w:World):Calls Tryz.prog 132 #[.int .u64 0] w fun o w'=>o=.returned (.int .i64 0)/\w=w':=by
 have H:=zh nlen64E;go_enter Tryz.func132,Tryz.ntmps132;go_wp2_with fail;refine (H.out _).mono ?_;rintro o w' ⟨rfl,rfl⟩;go_wp2_with fail;go_ret;exact ⟨rfl,rfl⟩
theorem ninscmpE (F:Value) (w:World):Calls Tryz.prog 175 #[.slice none 0 0,.int .i64 0,.int .i64 0,F] w fun o w'=>o=.returned (.tuple #[])/\w=w':=by
 go_enter Tryz.func175,Tryz.ntmps175;go_wp2_with fail;refine wp_loop_rounds 1 ?_;rw [rounds_succ];go_wp2_with fail;go_end0;exact ⟨rfl,rfl⟩
theorem npdqcmpE (F:Value) (w:World):Calls Tryz.prog 164 #[.slice none 0 0,.int .i64 0,.int .i64 0,.int .i64 0,F] w fun o w'=>o=.returned (.tuple #[])/\w=w':=by
 have H:=zh (ninscmpE F);go_enter Tryz.func164,Tryz.ntmps164;go_wp2_with fail;refine wp_loop_rounds 1 ?_;rw [rounds_succ];go_wp2_with fail;refine (H.out _).mono ?_;rintro o w' ⟨rfl,rfl⟩;go_wp2_with fail;exact bodyPost_ret (results_none rfl _ _ _) rfl ⟨rfl,rfl⟩
theorem nsortfE (F:Value) (w:World):Calls Tryz.prog 140 #[.slice none 0 0,F] w fun o w'=>o=.returned (.tuple #[])/\w=w':=by
 have H:=zh (npdqcmpE F);have HB:=zh nblenE;go_enter Tryz.func140,Tryz.ntmps140;go_wp2_with fail;refine (HB.out _).mono ?_;rintro o w' ⟨rfl,rfl⟩;go_wp2_with fail;refine (H.out _).mono ?_;rintro o w' ⟨rfl,rfl⟩;go_wp2_with fail;go_end0;exact ⟨rfl,rfl⟩
theorem csome_any (F:FuncId) (cap:Array Value) (q:Pk->Bool) (gt gm:Nat) (T:Pk->CV) (hok:TOk T) (w:World) (h:CT w gt gm T) (hent:∀ (args:Array Value) (w:World),(callFunc F args).run Tryz.prog w=.ok (.enter F args) w)
  (hF:∀ (p:Pk) (w':World),Fr w.heap.size [] w w'->Calls Tryz.prog F (#[pkV p] ++ cap) w' fun e w''=>e=.returned (.bool (q p))/\Fr w'.heap.size [] w' w'') :
  Calls Tryz.prog 109 #[.pointer (some ⟨gt,0,none⟩),.func (.func F) #[] cap] w (EntsOut (someE q T) w):=by
 have HF:=zh hF;have hltm:=h.mp.lt;obtain ⟨K,es,clock,hb,he⟩:=h.mp;have hrg:=run_range_map (P:=Tryz.prog) w 210 232 94 gm es clock Tryz.underlying210 hb;have HBB:=zh hb;have HE:=zh he;have HOK:=zh hok;have t0:=h.bk.cell 0;simp at t0;obtain ⟨gi,hgi2⟩:=nm (w.heap.size);have HGI:=zh hgi2;have HKT:=zh (show ∀ p ∈ K,p ∈ plcs from fun p hp=>(plcs_mem p).2 (hok p ((he.mem p).1 hp)).1);clear hb he hF h hok;go_enter Tryz.func109,Tryz.ntmps109;go_upto_region 5 with fail;rw [<- hgi2] at hltm;simp only [<- hgi2];clear hgi2;go_loopw [5,6,7] (fun s5 s6 s7 wr=>∃ (seen:Array Nat) (K':List Pk) (A':Option Addr) (c' n':Nat),s5=.slice A' n' c'/\(s6=undef \/ ∃ a,s6=.pointer a)/\(s7=undef \/ ∃ a,s7=.pointer a)/\Hid (n'=(outE q T K').length)/\Hid (wr.heap[gi]?=some (.mapIter (some gm) clock seen clock))/\Hid (TookK es K K' seen)/\Hid (n'=0->A'=none/\c'=0)/\Hid (wr.ownsRow (gi+1) 96 6 (.slice A' n' c') n' (cellsE (outE q T K')))/\Hid (Fr gi [] w wr)) (fun _ _ _ wr=>(leftOf es (wr.iterSeen gi)).size)
 case atStart=>exact ⟨#[],[],none,0,0,rfl,.inl rfl,.inl rfl,zh rfl,zh (by rw [HGI.out];exact heap_alloc_new w _),zh (TookK.start _ _),zh (fun _=>⟨rfl,rfl⟩),zh (World.ownsRow_nil _ _ _ _),zh (by rw [HGI.out];exact (Fr.refl _ _ _).alloc (Nat.le_refl _) _)⟩
 case round =>
  clear hrg t0;obtain ⟨seen,K',A',c',n',rfl,hs6,hs7,HN,HI,HTk,HZ,HO,FF⟩:=hrel;have hbm:=(FF.out.block gm hltm (by simp)).trans HBB.out
  have hn512:n'<=512:=by
   have h1:=sub_len HTk.out.nd (fun p hp=>HKT.out p (HTk.out.sub p hp));have h2:(outE q T K').length<=K'.length:=(by unfold outE;rw [List.length_map];exact List.length_filter_le _ _);have h3:plcs.length=512:=(by unfold plcs;simp);rw [HN.out];omega
  rcases run_next_at (P:=Tryz.prog) wr 0 gi gm clock clock seen es clock HI.out hbm HE.out.old (Nat.le_refl _) with ⟨h0,hrun⟩ | ⟨e,hel,w3,hw3,hrun⟩
  ·
   have hnx:∀ ty,(Instr.next (.pointer (some ⟨gi,0,none⟩)) false ty).run Tryz.prog wr=_:=fun _=>hrun;have HD:=zh (HTk.out.done HE.out h0);have HND:=zh HTk.out.nd;clear hrun h0 hbm;have hgs:gi<=wr.heap.size:=(by have:=FF.out.size;rw [HGI.out];exact this)
   by_cases hm0:n'=0
   ·
    obtain ⟨rfl,rfl⟩:=HZ.out hm0;have HS:=zh nsortfE
    have HE0 := zh (show someE q T = [] by
     have:=sorted_some (q:=q) (K:=K') (L:=[]) HOK.out HD.out HND.out (by rw [List.map_nil,List.eq_nil_of_length_eq_zero (HN.out.symm.trans hm0)]) (fun i j _ h=>by simp at h)
     simpa using this.symm)
    subst hm0;clear HZ HO HTk HN;go_wp2_with fail;refine (HS.out _ _).mono ?_;rintro e w' ⟨rfl,rfl⟩;go_wp2_with fail;go_ret;unfold EntsOut;rw [HE0.out];exact ⟨none,0,rfl,Reads.none_,Nat.le_refl _,by simp,by rw [<- HGI.out];exact FF.out⟩
   ·
    obtain ⟨g,cap2,hv,hbg,hlt⟩:=HO.out.form (by omega);injection hv with hv1 _ hv2
    subst hv1;subst hv2
    obtain ⟨L,hL⟩:∃ L:List EB,L.map (·.1)=outE q T K':=by
     have hall:∀ x ∈ outE q T K',0<=x 0/\x 0 < 8/\0<=x 1/\x 1 < 64:=by
      intro x hx;unfold outE at hx;obtain ⟨p,hp,rfl⟩:=List.mem_map.1 hx;have:=(plcs_mem p).1 (HKT.out p (HTk.out.sub p (List.mem_filter.1 hp).1));unfold thereB at this;have:=of_decide_eq_true this;simp only [entF];simpa using this
     exact ⟨(outE q T K').pmap (fun x hx=>(⟨x,hx⟩:EB)) hall,by rw [List.map_pmap,List.pmap_eq_map,List.map_id']⟩
    have hLl:n'=L.length:=(by rw [HN.out,<- hL,List.length_map]);have hLc:cellsE (outE q T K')=L.flatMap ebC:=(by rw [<- hL];unfold cellsE;rw [List.flatMap_map];rfl);have HL2:=zh hL;have HLL:=zh hLl;have HS:=zh (sortEnt_any wr g c' (gi+1) L (by have h:=HO.out;rw [hLl,hLc] at h;exact h) hlt (by omega));rw [<- hLl] at HS;have hcap:n'<=c':=(by obtain ⟨_,_,hx,_,hy,_⟩:=ownsRow_shape HO.out;injection hx with _ _ hx;omega);clear HZ HO HTk hLc hL hLl;go_wp2_with fail;refine HS.out.mono ?_;rintro e w' ⟨rfl,L',hp,hs,hr,hf⟩;have hsome:=sorted_some (q:=q) HOK.out HD.out HND.out ((hp.map (·.1)).trans (by rw [HL2.out])) hs;have HR2:=zh hr;have HSO:=zh hsome;have HLE:=zh (show n'=(someE q T).length by rw [<- hsome,List.length_map,hp.length_eq];exact HLL.out);have FN:=zh (FF.out.trans (hf.mono (B':=gi) (L':=[]) (by omega) (by intro q hq hlt2;simp at hq;omega)));have hsz:=hf.size;clear hr hp hs hf hsome;go_wp2_with fail;go_ret;unfold EntsOut;rw [<- HLE.out];refine ⟨some ⟨g,0,none⟩,c',rfl,?_,hcap,fun ad had => ?_,by rw [<- HGI.out];exact FN.out⟩
    · have:=HR2.out.more (B':=w'.heap.size) (by omega);rw [<- HSO.out];unfold cellsE;rw [List.flatMap_map];exact this
    ·
     injection had with had
     subst had;rw [<- HGI.out]
     show gi<=g
     omega
  ·
   obtain ⟨hee,_⟩:=mem_left hel;obtain ⟨p,hpK,hk2,hxv⟩:=entryK HE.out hee;have HT2:=zh (HTk.out.step HE.out hel hpK hk2);obtain ⟨t,ht⟩:=nm (T p);have HTP:=zh ht;rw [<- ht] at hxv;have hsz3:w3.heap.size=wr.heap.size:=by rcases hw3 with rfl | rfl <;> rfl
   have hlt:gi < w3.heap.size:=by
    rw [hsz3]
    rcases Nat.lt_or_ge gi wr.heap.size with h | h
    · exact h
    · have:=HI.out;rw [Array.getElem?_eq_none h] at this;cases this
   have F1:Fr wr.heap.size [] wr w3:=by
    rcases hw3 with rfl | rfl
    · exact Fr.refl _ _ _
    · exact (Fr.refl _ _ _).drew
   have hen:=run_entry_at (P:=Tryz.prog) (Go.ChangeMaps.setBlock w3 gi (.mapIter (some gm) clock (seen.push e.born) clock)) gi gm clock seen es clock e (stB_new hlt _) (((stB_fr w3 gi _).block gm (by omega) (by simp;omega)).trans ((F1.block gm (by omega) (by simp)).trans hbm)) hee HE.out.born;rw [hxv,hk2] at hrun hen;have hnx:∀ ty,(Instr.next (.pointer (some ⟨gi,0,none⟩)) false ty).run Tryz.prog wr=_:=fun _=>hrun;have HI2:=zh (stB_new (w:=w3) hlt (.mapIter (some gm) clock (seen.push e.born) clock));have F2:=zh ((F1.mono (B':=wr.heap.size) (L':=[gi]) (Nat.le_refl _) (by simp)).trans ((stB_fr w3 gi (.mapIter (some gm) clock (seen.push e.born) clock)).mono (B':=wr.heap.size) (L':=[gi]) (by omega) (by simp)));have HSH:=zh (show (leftOf es ((Go.ChangeMaps.setBlock w3 gi (.mapIter (some gm) clock (seen.push e.born) clock)).iterSeen gi)).size < (leftOf es (wr.iterSeen gi)).size by rw [seen_of HI.out,seen_of HI2.out];exact left_shrinks es seen e (by simpa using hel));have hltr:gi < wr.heap.size:=(by omega);generalize Go.ChangeMaps.setBlock w3 gi (.mapIter (some gm) clock (seen.push e.born) clock)=w4 at *;have HO4:=zh (ownsRow_fr HO.out F2.out (fun k hk=>⟨(HO.out.lt k hk).2,by have:=(HO.out.lt k hk).1;simp;omega⟩));have F4:=zh (FF.out.trans (F2.out.mono (B':=gi) (L':=[]) (by omega) (by intro q hq hlt;simp at hq;omega)));have hs4:wr.heap.size<=w4.heap.size:=F2.out.size;have HKY:=zh hk2;clear hrun hee hk2 hxv hel hlt F1 hw3 hsz3 hbm ht;go_upto_region 7 with fail;have B5:=zh ((Blk.new w4 232 #[.int .i64 p.1,.int .i64 p.2]).alloc (.cells #[.int .i64 t.1,.int .i64 t.2.1,.int .i64 t.2.2.1,.int .i64 t.2.2.2] 94));have V5:=zh (Blk.new (w4.alloc (.cells #[.int .i64 p.1,.int .i64 p.2] 232)) 94 #[.int .i64 t.1,.int .i64 t.2.1,.int .i64 t.2.2.1,.int .i64 t.2.2.2]);have fa5:=((Fr.refl w4.heap.size [] w4).alloc (Nat.le_refl _) (.cells #[.int .i64 p.1,.int .i64 p.2] 232)).alloc (by simp) (.cells #[.int .i64 t.1,.int .i64 t.2.1,.int .i64 t.2.2.1,.int .i64 t.2.2.2] 94);rw [World.size_alloc] at V5;have HO5:=zh (ownsRow_fr HO4.out fa5 (fun k hk=>⟨(HO4.out.lt k hk).2,by simp⟩));have HI5:=zh ((fa5.block gi (by omega) (by simp)).trans HI2.out);have F5:=zh (F4.out.trans (fa5.mono (B':=gi) (L':=[]) (by omega) (by simp)));have hs5:w4.heap.size<=((w4.alloc (.cells #[.int .i64 p.1,.int .i64 p.2] 232)).alloc (.cells #[.int .i64 t.1,.int .i64 t.2.1,.int .i64 t.2.2.1,.int .i64 t.2.2.2] 94)).heap.size:=fa5.size;clear hen hnx fa5 HO4;generalize (w4.alloc (.cells #[.int .i64 p.1,.int .i64 p.2] 232)).alloc (.cells #[.int .i64 t.1,.int .i64 t.2.1,.int .i64 t.2.2.1,.int .i64 t.2.2.2] 94)=w5 at *;generalize w4.heap.size=g4 at *;have q0:=B5.out.cell 0;have q1:=B5.out.cell 1;simp at q0 q1;have HF5:=zh (HF.out p w5 (by rw [<- HGI.out];exact F5.out));go_wp2_with fail;refine HF5.out.mono ?_;rintro e2 w6 ⟨rfl,f6⟩;have B6:=zh (B5.out.fr f6 B5.out.lt (by simp));have V6:=zh (V5.out.fr f6 V5.out.lt (by simp));have HO6:=zh (ownsRow_fr HO5.out f6 (fun k hk=>⟨(HO5.out.lt k hk).2,by simp⟩));have HI6:=zh ((f6.block gi (by omega) (by simp)).trans HI5.out);have F6:=zh (F5.out.trans (f6.mono (B':=gi) (L':=[]) (by omega) (by simp)));have hs6':w5.heap.size<=w6.heap.size:=f6.size;have HSN:=zh (outE_snoc q T K' p);obtain ⟨qp,hqp⟩:=nm (q p);rw [<- hqp] at HSN ⊢;have HQP:=zh hqp;clear f6 HF5 HF B5 V5 HO5 HI5 F5 q0 q1 hqp
   cases qp with
   | false =>
    have HSN2:=zh (show outE q T (K' ++ [p])=outE q T K' from HSN.out);clear HSN;have HSH6:=zh (show (leftOf es (w6.iterSeen gi)).size < (leftOf es (wr.iterSeen gi)).size by rw [seen_of HI6.out,<- seen_of HI2.out];exact HSH.out);go_wp2_with fail;go_roundw
    case rel=>exact ⟨seen.push e.born,K' ++ [p],A',c',n',rfl,.inr ⟨_,rfl⟩,.inr ⟨_,rfl⟩,by rw [HSN2.out];exact HN,HI6,HT2,HZ,by rw [HSN2.out];exact HO6,F6⟩
    case measure=>exact HSH6.out
   | true =>
    have HSN2:=zh (show outE q T (K' ++ [p])=outE q T K' ++ [entF p (T p)] from HSN.out);clear HSN;have HTC:=zh (show cellsE (outE q T K') ++ [.int .i64 p.1,.int .i64 p.2,.int .i64 t.1,.int .i64 t.2.1,.int .i64 t.2.2.1,.int .i64 t.2.2.2]=cellsE (outE q T (K' ++ [p])) by rw [HSN2.out,cellsE_app,HTP.out];rfl);have q0:=B6.out.cell 0;have q1:=B6.out.cell 1;have v0:=V6.out.cell 0;have v1:=V6.out.cell 1;have v2:=V6.out.cell 2;have v3:=V6.out.cell 3;simp at q0 q1 v0 v1 v2 v3;have hgr6:gi+1<=w6.heap.size:=(by omega);go_wp2_with (at_builtin;refine wpList_app_lit w6 rfl (.tmp 23) (.tmp 30) entTy rfl (gi+1) (.slice A' n' c') n' (cellsE (outE q T K')) rfl HO6.out 1 1 #[.int .i64 p.1,.int .i64 p.2,.int .i64 t.1,.int .i64 t.2.1,.int .i64 t.2.2.1,.int .i64 t.2.2.2] rfl rfl (by simp [Value.oneCell']) (by omega) (by omega) (by omega) ?_;intro A2 c2 w7 hown7 hg7 hat7);have hob:∀ k,(Value.slice A' n' c').ownBlock=some k->gi<=k \/ k ∈ ([]:List Nat):=fun k hk=>.inl (by have:=(HO6.out.lt k hk).1;omega);have F7:=zh ((F6.out.alloc (by omega) _).grown hg7 (by simp;omega) hob);have HO7:=zh (show w7.ownsRow (gi+1) 96 6 (.slice A2 (n'+1) c2) (n'+1) (cellsE (outE q T (K' ++ [p]))) by rw [<- HTC.out];exact hown7);have HI7:=zh ((((Fr.refl (gi+1) [] w6).alloc (by omega) _).grown hg7 (by simp;omega) (fun k hk=>.inl (by have:=(HO6.out.lt k hk).1;omega))).block gi (by omega) (by simp) |>.trans HI6.out);have HN7:=zh (show n'+1=(outE q T (K' ++ [p])).length by rw [HSN2.out,List.length_append,<- HN.out];rfl);have HSH7:=zh (show (leftOf es (w7.iterSeen gi)).size < (leftOf es (wr.iterSeen gi)).size by rw [seen_of HI7.out,<- seen_of HI2.out];exact HSH.out);clear hg7 hat7 hown7 hob;go_roundw
    case rel=>exact ⟨seen.push e.born,K' ++ [p],A2,c2,n'+1,rfl,.inr ⟨_,rfl⟩,.inr ⟨_,rfl⟩,HN7,HI7,HT2,zh (fun h=>by simp at h),HO7,F7⟩
    case measure=>exact HSH7.out
end Go.Proofs.YtgblfflikgnfpaaGreat
