/- Texts merged into one, for the number of files a claim may have: Gauss, LnA, PlMap, LnB, By, Add, Radd, Gau2, Gau3, RfM, Gau4, Gau5, VmP, VmA, VmB, VmC, VmD, SrcA, Bz. -/
import Derived.Test.YtlejomlppjpchaaGreatRY0
import Derived.Test.YtlejomlppjpchaaGreatRY5
import Derived.Deep.RegionHeld3
import Derived.Test.YtlejomlppjpchaaGreatRows
namespace Go.Proofs.YtlejomlppjpchaaGreat
open Go.RowKit Go.Fb
set_option maxRecDepth 100000
set_option maxHeartbeats 16000000
set_option linter.unusedVariables false
def cen (n:Int):Int:=(n+524288) % 1048576 - 524288
theorem cen_of {n q m:Int} (h:n=1048576 * q+m) (hm:-524288<=m/\m < 524288):cen n=m:=by unfold cen;omega
theorem cen_iff (n:Int):cen n=n ↔ -524288<=n/\n < 524288:=by unfold cen;omega
def valB (re im:Int):Bool:=decide (-524288<=re/\re < 524288 /\ -524288<=im/\im < 524288)
theorem valB_cen (re im:Int):(re == cen re && im == cen im)=valB re im:=by
 unfold valB;rw [Bool.eq_iff_iff];simp only [Bool.and_eq_true,beq_iff_eq,decide_eq_true_eq];have h1:=cen_iff re;have h2:=cen_iff im;constructor
 · rintro ⟨a,b⟩;have:=h1.1 a.symm;have:=h2.1 b.symm;omega
 · intro h;exact ⟨(h1.2 (by omega)).symm,(h2.2 (by omega)).symm⟩
theorem valB_cen' (re im:Int):(cen re == re && cen im == im)=valB re im:=by
 rw [<- valB_cen];rw [Bool.eq_iff_iff];simp only [Bool.and_eq_true,beq_iff_eq];exact ⟨fun h=>⟨h.1.symm,h.2.symm⟩,fun h=>⟨h.1.symm,h.2.symm⟩⟩
theorem tmod_parts (n:Int):∃ q m:Int,n=1048576 * q+m/\n.tmod 1048576=m /\ -1048576 < m/\m < 1048576:=by
 refine ⟨n.tdiv 1048576,n.tmod 1048576,(Int.mul_tdiv_add_tmod n 1048576).symm,rfl,?_⟩
 rcases Int.le_total 0 n with h | h
 · rw [Int.tmod_eq_emod_of_nonneg h];omega
 · have:=Int.neg_tmod n 1048576;have h2:(-n).tmod 1048576=(-n) % 1048576:=Int.tmod_eq_emod_of_nonneg (by omega);omega
theorem into_any (n:Int) (w:World):Calls Tryz.prog 209 #[.int .i64 n] w fun e w'=>e=.returned (.int .i64 (cen n))/\w=w':=by
 obtain ⟨q,m,hn,hm,h1,h2⟩:=tmod_parts n;have HN:=zh hn;clear hn
 by_cases c1:m < -524288
 · have hv:cen n=m+1048576:=cen_of (q:=q - 1) (by rw [HN.out];omega) (by omega);rw [hv];clear hv;go_enter Tryz.func209,Tryz.ntmps209;go_wp2_with fail;go_ret;exact ⟨rfl,rfl⟩
 by_cases c2:m < 0
 ·
  have hv:cen n=m+1048576 - 1048576:=by rw [cen_of HN.out (by omega)];omega
  rw [hv];clear hv;go_enter Tryz.func209,Tryz.ntmps209;go_wp2_with fail;go_ret;exact ⟨rfl,rfl⟩
 by_cases c3:m < 524288
 · have hv:cen n=m:=cen_of HN.out (by omega);rw [hv];clear hv;go_enter Tryz.func209,Tryz.ntmps209;go_wp2_with fail;go_ret;exact ⟨rfl,rfl⟩
 · have hv:cen n=m - 1048576:=cen_of (q:=q+1) (by rw [HN.out];omega) (by omega);rw [hv];clear hv;go_enter Tryz.func209,Tryz.ntmps209;go_wp2_with fail;go_ret;exact ⟨rfl,rfl⟩
theorem refinto_any (n:Int) (w:World):Calls Tryz.prog 151 #[.int .i64 n] w fun e w'=>e=.returned (.int .i64 (cen n))/\w=w':=by
 obtain ⟨q,m,hn,hm,h1,h2⟩:=tmod_parts n;have HN:=zh hn;clear hn
 by_cases c1:m < -524288
 ·
  have hv:cen n=m+1048576:=cen_of (q:=q - 1) (by rw [HN.out];omega) (by omega);rw [hv];clear hv;go_enter Tryz.func151,Tryz.ntmps151;go_wp2_with fail
  all_goals
   go_ret;exact ⟨rfl,rfl⟩
 by_cases c3:m < 524288
 · have hv:cen n=m:=cen_of HN.out (by omega);rw [hv];clear hv;go_enter Tryz.func151,Tryz.ntmps151;go_wp2_with fail;go_ret;exact ⟨rfl,rfl⟩
 · have hv:cen n=m - 1048576:=cen_of (q:=q+1) (by rw [HN.out];omega) (by omega);rw [hv];clear hv;go_enter Tryz.func151,Tryz.ntmps151;go_wp2_with fail;go_ret;exact ⟨rfl,rfl⟩
theorem gof_any (re im:Int) (w:World):Calls Tryz.prog 169 #[.int .i64 re,.int .i64 im] w fun e w'=>e=.returned (.agg #[.int .i64 (cen re),.int .i64 (cen im)])/\Fr w.heap.size [] w w':=by
 have h1:=into_any re;have h2:=into_any im;generalize cen re=a at *;generalize cen im=b at *;go_enter Tryz.func169,Tryz.ntmps169;go_wp2_with fail;refine (h1 _).mono ?_;rintro e w' ⟨rfl,rfl⟩;go_wp2_with fail;refine (h2 _).mono ?_;rintro e w' ⟨rfl,rfl⟩;go_wp2_with fail;exact bodyPost_ret (results_cell_row rfl _ _ w.heap.size 48 #[.int .i64 a,.int .i64 b] (0,0) _ rfl (Blk.new w 48 #[.int .i64 a,.int .i64 b]) Tryz.underlying48 rfl (by kernel_rfl)) rfl ⟨rfl,(Fr.refl _ _ _).alloc (Nat.le_refl _) _⟩
theorem refof_any (re im:Int) (w:World):Calls Tryz.prog 105 #[.int .i64 re,.int .i64 im] w fun e w'=>e=.returned (.agg #[.int .i64 (cen re),.int .i64 (cen im)])/\Fr w.heap.size [] w w':=by
 have h1:=refinto_any re;have h2:=refinto_any im;generalize cen re=a at *;generalize cen im=b at *;go_enter Tryz.func105,Tryz.ntmps105;go_wp2_with fail;refine (h1 _).mono ?_;rintro e w' ⟨rfl,rfl⟩;go_wp2_with fail;refine (h2 _).mono ?_;rintro e w' ⟨rfl,rfl⟩;go_wp2_with fail;exact bodyPost_ret (results_cell_row rfl _ _ w.heap.size 48 #[.int .i64 a,.int .i64 b] (0,0) _ rfl (Blk.new w 48 #[.int .i64 a,.int .i64 b]) Tryz.underlying48 rfl (by kernel_rfl)) rfl ⟨rfl,(Fr.refl _ _ _).alloc (Nat.le_refl _) _⟩
theorem val_cmp (a b c d:Int) (w:World):(binOp .eql 48 (.agg #[.int .i64 a,.int .i64 b]) (.agg #[.int .i64 c,.int .i64 d])).run Tryz.prog w=.ok (.bool (a == c && b == d)) w:=by
 have h:(Op.equalIn 10000 48 (.agg #[.int .i64 a,.int .i64 b]) (.agg #[.int .i64 c,.int .i64 d])).run Tryz.prog w=.ok (a == c && b == d) w:=by
  rw [run_equalIn_struct w 9999 48 _ _ (by kernel_rfl) (by kernel_rfl)];simp [Program.fieldsOf,Tryz.underlying48]
  by_cases h1:a=c
  · by_cases h2:b=d <;> simp [Op.eqFields,part,isAgg,run_underlying Tryz.underlying3,run_equalIn_int w 9998 3 .i64 .i64 _ _ Tryz.underlying3,h1,h2]
  · simp [Op.eqFields,part,isAgg,run_underlying Tryz.underlying3,run_equalIn_int w 9998 3 .i64 .i64 _ _ Tryz.underlying3,h1]
 simp [binOp,Op.equal,Op.maxDepth,h]
def recB (k re im:Int):Bool:=decide (0<=k/\k < 64) && valB re im
theorem gright_any (re im:Int) (w:World):Calls Tryz.prog 127 #[.agg #[.int .i64 re,.int .i64 im]] w fun e w'=>e=.returned (.bool (valB re im))/\Fr w.heap.size [] w w':=by
 have hcmp:=fun w=>val_cmp re im (cen re) (cen im) w;rw [valB_cen] at hcmp;have HO:=zh (gof_any re im);generalize cen re=a at *;generalize cen im=b at *;generalize valB re im=v at *;go_enter Tryz.func127,Tryz.ntmps127;go_wp2_with fail;have hb:=Blk.new w 48 #[.int .i64 re,.int .i64 im];have hf:=(Fr.refl w.heap.size [] w).alloc (Nat.le_refl _) (.cells #[.int .i64 re,.int .i64 im] 48);generalize w.alloc _=w1 at *;have INV:Hid (Blk w1 w.heap.size 48 #[.int .i64 re,.int .i64 im]/\Fr w.heap.size [] w w1):=⟨hb,hf⟩;have INV:Hid (Blk w1.drew w.heap.size 48 #[.int .i64 re,.int .i64 im]/\Fr w.heap.size [] w w1.drew):=⟨INV.out.1.drew,INV.out.2.drew⟩;clear hb hf
 go_region_held3 (fun wx=>wx.cell? ⟨w.heap.size,0,none⟩=some (.int .i64 re)/\wx.cell? ⟨w.heap.size,1,none⟩=some (.int .i64 im)) (exact ⟨INV.out.1.cell 0,INV.out.1.cell 1⟩)
  ((go_at_call 169;refine (HO.out _).mono ?_;rintro e w' ⟨rfl,hf⟩;have INV:Hid (Blk w' w.heap.size 48 #[.int .i64 re,.int .i64 im]/\Fr w.heap.size [] w w'):=⟨INV.out.1.fr hf INV.out.1.lt (by simp),INV.out.2.trans (hf.mono INV.out.2.size (by simp))⟩;clear hf))
 all_goals
  go_wp2_with fail;go_ret;exact ⟨rfl,INV.out.2⟩
theorem rval_any (re im:Int) (w:World):Calls Tryz.prog 64 #[.agg #[.int .i64 re,.int .i64 im]] w fun e w'=>e=.returned (.bool (valB re im))/\Fr w.heap.size [] w w':=by
 have hcmp:=fun w=>val_cmp (cen re) (cen im) re im w;rw [valB_cen'] at hcmp;have HO:=zh (refof_any re im);generalize cen re=a at *;generalize cen im=b at *;generalize valB re im=v at *;go_enter Tryz.func64,Tryz.ntmps64;go_wp2_with fail;have hb:=Blk.new w 48 #[.int .i64 re,.int .i64 im];have hf:=(Fr.refl w.heap.size [] w).alloc (Nat.le_refl _) (.cells #[.int .i64 re,.int .i64 im] 48);generalize w.alloc _=w1 at *;have INV:Hid (Blk w1 w.heap.size 48 #[.int .i64 re,.int .i64 im]/\Fr w.heap.size [] w w1):=⟨hb,hf⟩;have INV:Hid (Blk w1.drew w.heap.size 48 #[.int .i64 re,.int .i64 im]/\Fr w.heap.size [] w w1.drew):=⟨INV.out.1.drew,INV.out.2.drew⟩;clear hb hf
 go_region_held3 (fun wx=>wx.cell? ⟨w.heap.size,0,none⟩=some (.int .i64 re)/\wx.cell? ⟨w.heap.size,1,none⟩=some (.int .i64 im)) (exact ⟨INV.out.1.cell 0,INV.out.1.cell 1⟩)
  ((go_at_call 105;refine (HO.out _).mono ?_;rintro e w' ⟨rfl,hf⟩;have INV:Hid (Blk w' w.heap.size 48 #[.int .i64 re,.int .i64 im]/\Fr w.heap.size [] w w'):=⟨INV.out.1.fr hf INV.out.1.lt (by simp),INV.out.2.trans (hf.mono INV.out.2.size (by simp))⟩;clear hf))
 all_goals
  go_wp2_with fail;go_ret;exact ⟨rfl,INV.out.2⟩
theorem cthere_any (k:Int) (w:World):Calls Tryz.prog 126 #[.int .i64 0,.int .i64 k] w fun e w'=>e=.returned (.bool (decide (0<=k/\k < 64)))/\w=w':=by
 by_cases h1:0<=k
 ·
  by_cases h2:k < 64
  ·
   have hv:decide (0<=k/\k < 64)=true:=by simp;omega
   rw [hv];clear hv;go_enter Tryz.func126,Tryz.ntmps126;go_wp2_with fail;go_ret;exact ⟨rfl,rfl⟩
  ·
   have hv:decide (0<=k/\k < 64)=false:=by simp;omega
   rw [hv];clear hv;go_enter Tryz.func126,Tryz.ntmps126;go_wp2_with fail;go_ret;exact ⟨rfl,rfl⟩
 ·
  have hv:decide (0<=k/\k < 64)=false:=by simp;omega
  rw [hv];clear hv;go_enter Tryz.func126,Tryz.ntmps126;go_wp2_with fail;go_ret;exact ⟨rfl,rfl⟩
theorem cellright_any (k re im:Int) (w:World):Calls Tryz.prog 81 #[.agg #[.int .i64 k,.int .i64 re,.int .i64 im]] w fun e w'=>e=.returned (.bool (recB k re im))/\Fr w.heap.size [] w w':=by
 have HO:=zh (gright_any re im);have HT:=zh (cthere_any k)
 rcases Bool.eq_false_or_eq_true (decide (0<=k/\k < 64)) with hk | hk
 ·
  have hv:recB k re im=valB re im:=by unfold recB;rw [hk];rfl
  rw [hv];rw [hk] at HT;clear hv hk;go_enter Tryz.func81,Tryz.ntmps81;go_wp2_with fail;refine (HT.out _).mono ?_;rintro e w1 ⟨rfl,rfl⟩;go_wp2_with fail;refine (HO.out _).mono ?_;rintro e w1 ⟨rfl,hf⟩;have HF:=zh hf;clear hf;go_wp2_with fail;go_ret;exact ⟨rfl,((Fr.refl _ _ _).alloc (Nat.le_refl _) _).trans (HF.out.mono (by simp) (by simp))⟩
 ·
  have hv:recB k re im=false:=by unfold recB;rw [hk];rfl
  rw [hv];rw [hk] at HT;clear hv hk;go_enter Tryz.func81,Tryz.ntmps81;go_wp2_with fail;refine (HT.out _).mono ?_;rintro e w1 ⟨rfl,rfl⟩;go_wp2_with fail;go_ret;exact ⟨rfl,(Fr.refl _ _ _).alloc (Nat.le_refl _) _⟩
theorem rrec_any (k re im:Int) (w:World):Calls Tryz.prog 22 #[.agg #[.int .i64 k,.int .i64 re,.int .i64 im]] w fun e w'=>e=.returned (.bool (recB k re im))/\Fr w.heap.size [] w w':=by
 have HO:=zh (rval_any re im)
 by_cases h1:0<=k
 ·
  by_cases h2:k < 64
  ·
   have hv:recB k re im=valB re im:=by unfold recB;rw [show decide (0<=k/\k < 64)=true by simp;omega];rfl
   rw [hv];clear hv;go_enter Tryz.func22,Tryz.ntmps22;go_wp2_with fail;refine (HO.out _).mono ?_;rintro e w1 ⟨rfl,hf⟩;have HF:=zh hf;clear hf;go_wp2_with fail;go_ret;exact ⟨rfl,((Fr.refl _ _ _).alloc (Nat.le_refl _) _).trans (HF.out.mono (by simp) (by simp))⟩
  ·
   have hv:recB k re im=false:=by unfold recB;rw [show decide (0<=k/\k < 64)=false by simp;omega];rfl
   rw [hv];clear hv;go_enter Tryz.func22,Tryz.ntmps22;go_wp2_with fail;go_ret;exact ⟨rfl,(Fr.refl _ _ _).alloc (Nat.le_refl _) _⟩
 ·
  have hv:recB k re im=false:=by unfold recB;rw [show decide (0<=k/\k < 64)=false by simp;omega];rfl
  rw [hv];clear hv;go_enter Tryz.func22,Tryz.ntmps22;go_wp2_with fail;go_ret;exact ⟨rfl,(Fr.refl _ _ _).alloc (Nat.le_refl _) _⟩
def lnC (x:Nat->Int):List Value:=[.int .i64 (x 0),.int .i64 (x 1),.int .i64 (x 2),.int .i64 (x 3),.int .i64 (x 4)]
def cellsLn (l:List (Nat->Int)):List Value:=l.flatMap lnC
theorem cellsLn_app (a b:List (Nat->Int)):cellsLn (a ++ b)=cellsLn a ++ cellsLn b:=by simp [cellsLn]
theorem cellsLn_length (l:List (Nat->Int)):(cellsLn l).length=l.length * 5:=by
 unfold cellsLn
 induction l with
 | nil=>rfl
 | cons x l ih=>rw [List.flatMap_cons,List.length_append,ih];simp [lnC];omega
theorem lnC_get (x:Nat->Int):∀ j,j < 5->(lnC x)[j]?=some (.int .i64 (x j))
 | 0,_=>rfl
 | 1,_=>rfl
 | 2,_=>rfl
 | 3,_=>rfl
 | 4,_=>rfl
 | j+5,h=>by omega
theorem cellsLn_get:∀ {l:List (Nat->Int)} {k:Nat} {x:Nat->Int},l[k]?=some x -> ∀ j,j < 5->(cellsLn l)[k * 5+j]?=some (.int .i64 (x j))
 | [],k,x,h,_,_=>by simp at h
 | y :: l,0,x,h,j,hj=>by
  simp at h;subst h;rw [cellsLn,List.flatMap_cons,Nat.zero_mul,Nat.zero_add,List.getElem?_append_left (by simp [lnC];omega)];exact lnC_get y j hj
 | y :: l,k+1,x,h,j,hj=>by
  rw [cellsLn,List.flatMap_cons,List.getElem?_append_right (by simp [lnC];omega)];have ih:=cellsLn_get (l:=l) (k:=k) (x:=x) (by simpa using h) j hj;have e:(k+1) * 5+j - (lnC y).length=k * 5+j:=(by simp [lnC];omega);rw [e];exact ih
theorem reads_ln {w:World} {B:Nat} {A:Option Addr} {l:List (Nat->Int)} (h:Reads w B 5 A l.length (cellsLn l)) {k:Nat} {x:Nat->Int} (hx:l[k]?=some x) :
  ∃ b off,A=some ⟨b,off,none⟩/\b < B /\ ∀ j,j < 5->w.cell? ⟨b,off+(k * 5+j),none⟩=some (.int .i64 (x j)):=by
 have hk:k < l.length:=by
  rcases Nat.lt_or_ge k l.length with h | h
  · exact h
  · rw [List.getElem?_eq_none h] at hx;cases hx
 obtain ⟨b,off,e,hb,hc⟩:=h.2 (by omega);exact ⟨b,off,e,hb,fun j hj=>hc _ _ (cellsLn_get hx j hj)⟩
theorem lnC_one {l:List (Nat->Int)}:∀ u ∈ cellsLn l,u.oneCell'=true:=by
 intro u hu;obtain ⟨x,_,hx⟩:=List.mem_flatMap.1 hu;simp only [lnC,List.mem_cons,List.not_mem_nil,or_false] at hx
 rcases hx with rfl | rfl | rfl | rfl | rfl <;> rfl
theorem lineTy:SliceTy Tryz.prog 26 69 5 40:=SliceTy.mk' (z:=.agg #[.int .i64 0,.int .i64 0,.int .i64 0,.int .i64 0,.int .i64 0]) Tryz.underlying26 (by kernel_rfl) rfl (by omega)
abbrev Pl:Type:=Int × Int × Int
abbrev plV (p:Pl):Value:=.agg #[.int .i64 p.1,.int .i64 p.2.1,.int .i64 p.2.2]
def findP (p:Pl):List (Pl × Value)->Nat->Option (Nat × Value)
 | [],_=>none
 | x :: l,i=>if p=x.1 then some (i,x.2) else findP p l (i+1)
def getP (ps:List (Pl × Value)) (p:Pl):Value:=match findP p ps 0 with
 | none=>.slice none 0 0
 | some x=>x.2
def PMap (w:World) (r:Nat) (ps:List (Pl × Value)):Prop :=
 ∃ es clock,w.heap[r]?=some (.map es clock)/\(∀ x ∈ es.toList,x.born < clock)/\(es.toList.map (·.born)).Nodup/\es.toList.map (fun e=>(e.key,e.val))=ps.map (fun x=>(plV x.1,x.2))
theorem lowns_empty (w:World):(w.alloc (.cells #[] 69)).ownsRow w.heap.size 69 5 (.slice (some ⟨w.heap.size,0,none⟩) 0 0) 0 []:=by
 refine ⟨rfl,.inr ⟨w.heap.size,0,#[],rfl,Nat.le_refl _,Blk.new _ _ _,?_⟩⟩;simp
theorem line_one_eq (a b k re im:Int) (w:World):(Op.equalIn 10000 69 (.agg #[.int .i64 a,.int .i64 b,.int .i64 k,.int .i64 re,.int .i64 im]) (.agg #[.int .i64 a,.int .i64 b,.int .i64 k,.int .i64 re,.int .i64 im])).run Tryz.prog w=.ok true w:=by
 rw [run_equalIn_struct w 9999 69 _ _ (by kernel_rfl) (by kernel_rfl)];have hsO:∀ w,(sizeOf 48).run Tryz.prog w=.ok 2 w:=fun w=>by kernel_rfl
 have p0:∀ w,(part 3 #[.int .i64 a,.int .i64 b,.int .i64 k,.int .i64 re,.int .i64 im] 0).run Tryz.prog w=.ok (.int .i64 a) w:=fun w=>by
  simp [part,isAgg,run_underlying Tryz.underlying3]
 have p1:∀ w,(part 3 #[.int .i64 a,.int .i64 b,.int .i64 k,.int .i64 re,.int .i64 im] 1).run Tryz.prog w=.ok (.int .i64 b) w:=fun w=>by
  simp [part,isAgg,run_underlying Tryz.underlying3]
 have p2:∀ w,(part 3 #[.int .i64 a,.int .i64 b,.int .i64 k,.int .i64 re,.int .i64 im] 2).run Tryz.prog w=.ok (.int .i64 k) w:=fun w=>by
  simp [part,isAgg,run_underlying Tryz.underlying3]
 have p3:∀ w,(part 48 #[.int .i64 a,.int .i64 b,.int .i64 k,.int .i64 re,.int .i64 im] 3).run Tryz.prog w=.ok (.agg #[.int .i64 re,.int .i64 im]) w:=fun w=>by
  simp [part,isAgg,run_underlying Tryz.underlying48,hsO]
 have e0:=run_equalIn_int w 9998 3 .i64 .i64 a a Tryz.underlying3;have e1:=run_equalIn_int w 9998 3 .i64 .i64 b b Tryz.underlying3;have e2:=run_equalIn_int w 9998 3 .i64 .i64 k k Tryz.underlying3
 have e3:(Op.equalIn 9999 48 (.agg #[.int .i64 re,.int .i64 im]) (.agg #[.int .i64 re,.int .i64 im])).run Tryz.prog w=.ok true w:=by
  rw [run_equalIn_struct w 9998 48 _ _ (by kernel_rfl) (by kernel_rfl)];simp [Program.fieldsOf,Tryz.underlying48];simp [Op.eqFields,part,isAgg,run_underlying Tryz.underlying3,run_equalIn_int w 9997 3 .i64 .i64 _ _ Tryz.underlying3]
 simp [Program.fieldsOf,Tryz.underlying69,Op.eqFields,p0,p1,p2,p3,e0,e1,e2,e3]
theorem line_one_neq (a b k re im:Int) (w:World):(binOp .neq 69 (.agg #[.int .i64 a,.int .i64 b,.int .i64 k,.int .i64 re,.int .i64 im]) (.agg #[.int .i64 a,.int .i64 b,.int .i64 k,.int .i64 re,.int .i64 im])).run Tryz.prog w=.ok (.bool false) w:=by
 simp [binOp,Op.equal,Op.maxDepth,line_one_eq]
theorem lines_yes {B1 B2:Nat} {A1 A2:Option Addr} {c1 c2 n:Nat} {l:List (Nat->Int)} {w:World} (hn:n=l.length) (h1:Reads w B1 5 A1 n (cellsLn l)) (h2:Reads w B2 5 A2 n (cellsLn l)) (_hl:n<=6000000000) :
  Calls Tryz.prog 14 #[.slice A1 n c1,.slice A2 n c2] w fun e w'=>e=.returned (.bool true)/\Fr w.heap.size [] w w':=by
 have H1:=zh h1;have H2:=zh h2;have HX:=zh (fun (k:Nat) (hk:k < l.length)=>(⟨l[k],List.getElem?_eq_getElem hk⟩:∃ x,l[k]?=some x));have HN:=zh hn;clear h1 h2 hn;go_enter Tryz.func14,Tryz.ntmps14;go_wp2_with fail;go_loopw [5] (fun i wr=>∃ (k m:Nat),k<=n/\i=.int .i64 k/\wr=w.drewN m) (fun i _=>n - (intOf i).toNat)
 case atStart=>exact ⟨0,0,by omega,rfl,rfl⟩
 case round =>
  obtain ⟨k,m,hk,rfl,rfl⟩:=hrel
  by_cases hkn:k < n
  ·
   obtain ⟨x,hx⟩:=HX.out k (by rw [<- HN.out];exact hkn);obtain ⟨b1,o1,rfl,hb1,hc1⟩:=reads_ln (by rw [<- HN.out];exact H1.out) hx;obtain ⟨b2,o2,rfl,hb2,hc2⟩:=reads_ln (by rw [<- HN.out];exact H2.out) hx;have p0:=hc1 0 (by omega);have p1:=hc1 1 (by omega);have p2:=hc1 2 (by omega);have p3:=hc1 3 (by omega);have p4:=hc1 4 (by omega);have q0:=hc2 0 (by omega);have q1:=hc2 1 (by omega);have q2:=hc2 2 (by omega);have q3:=hc2 3 (by omega);have q4:=hc2 4 (by omega);simp only [Nat.add_zero,<- Nat.add_assoc] at p0 p1 p2 p3 p4 q0 q1 q2 q3 q4;have hki:(k:Int) < (n:Int):=(by omega);have hnq:=fun w=>line_one_neq (x 0) (x 1) (x 2) (x 3) (x 4) w;clear hc1 hc2 hx;go_wp2_with fail;go_quiet (fail);go_wp2_with fail;go_roundw
   case rel=>exact ⟨k+1,_,by omega,by go_num,rfl⟩
   case measure=>simp [intOf];omega
  ·
   obtain rfl:k=n:=by omega
   go_wp2_with fail;go_ret;exact ⟨rfl,(Fr.refl _ _ _).drewN _⟩
def keyL (x:Nat->Int):Pl:=(x 0,x 1,x 2)
def onlyV (l:List (Nat->Int)) (p:Pl):List (Int × Int):=(l.filter (fun x=>decide (keyL x=p))).map (fun x=>(x 3,x 4))
def valC (x:Int × Int):List Value:=[.int .i64 x.1,.int .i64 x.2]
def cellsV (l:List (Int × Int)):List Value:=l.flatMap valC
theorem cellsV_app (a b:List (Int × Int)):cellsV (a ++ b)=cellsV a ++ cellsV b:=by simp [cellsV]
theorem cellsV_length (l:List (Int × Int)):(cellsV l).length=l.length * 2:=by
 unfold cellsV
 induction l with
 | nil=>rfl
 | cons x l ih=>rw [List.flatMap_cons,List.length_append,ih];simp [valC];omega
theorem cellsV_get:∀ {l:List (Int × Int)} {k:Nat} {x:Int × Int},l[k]?=some x->(cellsV l)[k * 2]?=some (.int .i64 x.1)/\(cellsV l)[k * 2+1]?=some (.int .i64 x.2)
 | [],k,x,h=>by simp at h
 | y :: l,0,x,h=>by simp at h;subst h;exact ⟨rfl,rfl⟩
 | y :: l,k+1,x,h=>by
  obtain ⟨a,b⟩:=cellsV_get (l:=l) (k:=k) (x:=x) (by simpa using h)
  have e:∀ j,(cellsV (y :: l))[2+j]?=(cellsV l)[j]?:=fun j=>by
   rw [cellsV,List.flatMap_cons,List.getElem?_append_right (by simp [valC])]
   congr 1
   simp [valC]
  rw [show (k+1) * 2=2+k * 2 by omega,e,Nat.add_assoc,e];exact ⟨a,b⟩
theorem reads_val {w:World} {B:Nat} {A:Option Addr} {l:List (Int × Int)} (h:Reads w B 2 A l.length (cellsV l)) {k:Nat} {x:Int × Int} (hx:l[k]?=some x) :
  ∃ b off,A=some ⟨b,off,none⟩/\b < B/\w.cell? ⟨b,off+k * 2,none⟩=some (.int .i64 x.1)/\w.cell? ⟨b,off+k * 2+1,none⟩=some (.int .i64 x.2):=by
 have hk:k < l.length:=by
  rcases Nat.lt_or_ge k l.length with h | h
  · exact h
  · rw [List.getElem?_eq_none h] at hx;cases hx
 obtain ⟨b,off,e,hb,hc⟩:=h.2 (by omega);obtain ⟨c1,c2⟩:=cellsV_get hx;exact ⟨b,off,e,hb,hc _ _ c1,by rw [Nat.add_assoc];exact hc _ _ c2⟩
theorem valTy:SliceTy Tryz.prog 254 48 2 16:=SliceTy.mk' (z:=.agg #[.int .i64 0,.int .i64 0]) Tryz.underlying254 (by kernel_rfl) rfl (by omega)
structure BM (base gm:Nat) (l:List (Nat->Int)) (ps:List (Pl × Value)) (w:World):Prop where
 mp:PMap w gm ps
 own:∀ p,w.ownsRow base 48 2 (getP ps p) (onlyV l p).length (cellsV (onlyV l p))
 dis:∀ p q b,p ≠ q->(getP ps p).ownBlock=some b->(getP ps q).ownBlock ≠ some b
 nd:(ps.map (·.1)).Nodup
theorem vowns_empty (w:World):(w.alloc (.cells #[] 48)).ownsRow w.heap.size 48 2 (.slice (some ⟨w.heap.size,0,none⟩) 0 0) 0 []:=by
 refine ⟨rfl,.inr ⟨w.heap.size,0,#[],rfl,Nat.le_refl _,Blk.new _ _ _,?_⟩⟩;simp
theorem cen_small (n:Int):-524288<=cen n/\cen n < 524288:=by unfold cen;omega
theorem number_any (re im:Int) (w:World):Calls Tryz.prog 256 #[.agg #[.int .i64 re,.int .i64 im]] w fun e w'=>e=.returned (.complex .f64 (floatOfInt .f64 (cen re)) (floatOfInt .f64 (cen im)))/\Fr w.heap.size [] w w':=by
 have HO:=zh (gof_any re im);generalize cen re=a at *;generalize cen im=b at *;go_enter Tryz.func256,Tryz.ntmps256;go_wp2_with fail;refine (HO.out _).mono ?_;rintro e w1 ⟨rfl,f1⟩;have B1:=zh ((Blk.new w 48 #[.int .i64 re,.int .i64 im]).fr f1 (by simp) (by simp));have F1:=zh (((Fr.refl w.heap.size [] w).alloc (Nat.le_refl _) (.cells #[.int .i64 re,.int .i64 im] 48)).trans (f1.mono (B':=w.heap.size) (L':=[]) (by simp) (by simp)));have x0:=B1.out.cell 0;have x1:=B1.out.cell 1;have z0:=B1.out.frozen 0;have z1:=B1.out.frozen 1;simp at x0 x1;clear f1;go_wp2_with fail;go_ret;exact ⟨rfl,(F1.out.setCell (p:=⟨w.heap.size,0,none⟩) (.inl (Nat.le_refl _)) _).setCell (p:=⟨w.heap.size,1,none⟩) (.inl (Nat.le_refl _)) _⟩
theorem value_any (a b:Int) (ha:a.natAbs < 2 ^ 53) (hb:b.natAbs < 2 ^ 53) (w:World):Calls Tryz.prog 263 #[.complex .f64 (floatOfInt .f64 a) (floatOfInt .f64 b)] w fun e w'=>e=.returned (.agg #[.int .i64 (cen a),.int .i64 (cen b)])/\Fr w.heap.size [] w w':=by
 have HO:=zh (gof_any a b);have c1:∀ w,(convert 396 3 (.float .f64 (floatOfInt .f64 a))).run Tryz.prog w=.ok (.int .i64 a) w:=fun w=>run_convert_float_int w _ _ .f64 .i64 _ a (by rw [Tryz.underlying396];rfl) Tryz.underlying3 (float_int ha);have c2:∀ w,(convert 396 3 (.float .f64 (floatOfInt .f64 b))).run Tryz.prog w=.ok (.int .i64 b) w:=fun w=>run_convert_float_int w _ _ .f64 .i64 _ b (by rw [Tryz.underlying396];rfl) Tryz.underlying3 (float_int hb);generalize floatOfInt .f64 a=fa at *;generalize floatOfInt .f64 b=fb at *;generalize cen a=x at *;generalize cen b=y at *;clear ha hb;go_enter Tryz.func263,Tryz.ntmps263;go_wp2_with fail;refine (HO.out _).mono ?_;rintro e w1 ⟨rfl,f1⟩;have B1:=zh ((Blk.new w 48 #[.int .i64 0,.int .i64 0]).fr f1 (by simp) (by simp));have F1:=zh (((Fr.refl w.heap.size [] w).alloc (Nat.le_refl _) (.cells #[.int .i64 0,.int .i64 0] 48)).trans (f1.mono (B':=w.heap.size) (L':=[]) (by simp) (by simp)));have x0:=B1.out.cell 0;have x1:=B1.out.cell 1;have z0:=B1.out.frozen 0;have z1:=B1.out.frozen 1;simp at x0 x1;clear f1;go_wp2_with fail;exact bodyPost_ret (results_cell_row rfl _ _ w.heap.size 48 #[.int .i64 x,.int .i64 y] (0,0) _ rfl ((B1.out.set_ 0 _).set_ 1 _) Tryz.underlying48 rfl (by kernel_rfl)) rfl ⟨rfl,(F1.out.setCell (p:=⟨w.heap.size,0,none⟩) (.inl (Nat.le_refl _)) _).setCell (p:=⟨w.heap.size,1,none⟩) (.inl (Nat.le_refl _)) _⟩
def addV (x y:Int × Int):Int × Int:=(cen (cen x.1+cen y.1),cen (cen x.2+cen y.2))
def sumV (l:List (Int × Int)):Int × Int:=l.foldl addV (0,0)
theorem sumV_snoc (l:List (Int × Int)) (x:Int × Int):sumV (l ++ [x])=addV (sumV l) x:=by unfold sumV;rw [List.foldl_append];rfl
theorem gadd_any (A:Option Addr) (c B:Nat) (l:List (Int × Int)) (w:World) (hr:Reads w B 2 A l.length (cellsV l)) (hB:B<=w.heap.size) (hn:l.length<=1000000) :
  Calls Tryz.prog 257 #[.slice A l.length c] w fun e w'=>e=.returned (.agg #[.int .i64 (sumV l).1,.int .i64 (sumV l).2])/\Fr w.heap.size [] w w':=by
 have HR:=zh hr;obtain ⟨n,hnl⟩:=nm (l.length);have HN:=zh hnl;rw [<- hnl] at hn ⊢;clear hr hnl;go_enter Tryz.func257,Tryz.ntmps257;go_wp2_with fail;have BR:=zh ((Blk.new w 48 #[.int .i64 0,.int .i64 0]).alloc (.cells #[.int .i64 0,.int .i64 0] 48));have BO:=zh (Blk.new (w.alloc (.cells #[.int .i64 0,.int .i64 0] 48)) 48 #[.int .i64 0,.int .i64 0]);have F0:=zh (((Fr.refl w.heap.size [] w).alloc (Nat.le_refl _) (.cells #[.int .i64 0,.int .i64 0] 48)).alloc (by simp) (.cells #[.int .i64 0,.int .i64 0] 48));rw [World.size_alloc] at BO;generalize (w.alloc _).alloc _=w0 at *;go_loopg [5,8] n (fun g s5 s8 wr=>∃ k:Nat,k<=n/\g=n - k/\s8=.int .i64 k/\(s5=undef \/ ∃ a,s5=.pointer a)/\Hid (Blk wr w.heap.size 48 #[.int .i64 0,.int .i64 0])/\Hid (Blk wr (w.heap.size+1) 48 #[.int .i64 (sumV (l.take k)).1,.int .i64 (sumV (l.take k)).2])/\Hid (Fr w.heap.size [] w wr))
 case atStart=>exact ⟨0,Nat.zero_le _,rfl,rfl,.inl rfl,BR,BO,F0⟩
 case round =>
  clear BR BO F0;obtain ⟨k,hk,rfl,rfl,hs5,BR,BO,F⟩:=hrel
  by_cases hkn:k < n
  ·
   have hki:(k:Int) < (n:Int):=by omega
   obtain ⟨x,hx⟩:∃ x,l[k]?=some x:=⟨_,List.getElem?_eq_getElem (by rw [<- HN.out];exact hkn)⟩;obtain ⟨b,off,rfl,hb,p0,p1⟩:=reads_val (HR.out.fr F.out hB (by simp)) hx;have HTK:=zh (show sumV (l.take (k+1))=addV (sumV (l.take k)) x by rw [List.take_add_one,hx];exact sumV_snoc _ _);clear hx;obtain ⟨s,hs⟩:=nm (sumV (l.take k));rw [<- hs] at BO HTK;clear hs;go_upto_region 5 with fail;have BX:=zh (Blk.new wr 48 #[.int .i64 x.1,.int .i64 x.2]);have fa:=(Fr.refl wr.heap.size [] wr).alloc (Nat.le_refl _) (.cells #[.int .i64 x.1,.int .i64 x.2] 48);have BO2:=zh (BO.out.fr fa BO.out.lt (by simp));have BR2:=zh (BR.out.fr fa BR.out.lt (by simp));have F2:=zh (F.out.trans (fa.mono F.out.size (by simp)));have hgx:w.heap.size+1 < wr.heap.size:=BO.out.lt;clear fa BO BR F p0 p1;generalize wr.alloc (.cells #[.int .i64 x.1,.int .i64 x.2] 48)=wa at *;generalize wr.heap.size=gx at *;have s1:=cen_small s.1;have s2:=cen_small s.2;have s3:=cen_small x.1;have s4:=cen_small x.2
   have hadd : ∀ w, (binOp .add 391 (.complex .f64 (floatOfInt .f64 (cen s.1)) (floatOfInt .f64 (cen s.2))) (.complex .f64 (floatOfInt .f64 (cen x.1)) (floatOfInt .f64 (cen x.2)))).run Tryz.prog w = .ok (.complex .f64 (floatOfInt .f64 (cen s.1 + cen x.1)) (floatOfInt .f64 (cen s.2 + cen x.2))) w := fun w => run_complex_sum w .add (.inl rfl) _ .f64 _ _ _ _ _ _ (by
    unfold cSumBits;rw [float_add (by omega) (by omega),float_add (by omega) (by omega)]
    rfl)
   have HV:=zh (value_any (cen s.1+cen x.1) (cen s.2+cen x.2) (by omega) (by omega));obtain ⟨F,hF⟩:∃ F:Int->Nat,∀ n,F n=floatOfInt .f64 (cen n):=⟨_,fun _=>rfl⟩;have HNM:=zh (fun (p q:Int) (w:World)=>(by rw [hF,hF];exact number_any p q w:Calls Tryz.prog 256 #[.agg #[.int .i64 p,.int .i64 q]] w fun e w'=>e=.returned (.complex .f64 (F p) (F q))/\Fr w.heap.size [] w w'));rw [<- hF,<- hF,<- hF,<- hF] at hadd;obtain ⟨r,hr⟩:=nm (addV s x);have HRV:=zh hr;have HV:Hid (∀ w,Calls Tryz.prog 263 #[.complex .f64 (floatOfInt .f64 (cen s.1+cen x.1)) (floatOfInt .f64 (cen s.2+cen x.2))] w fun e w'=>e=.returned (.agg #[.int .i64 r.1,.int .i64 r.2])/\Fr w.heap.size [] w w'):=(by rw [hr];exact HV);rw [<- hr] at HTK;generalize floatOfInt .f64 (cen s.1+cen x.1)=f5 at *;generalize floatOfInt .f64 (cen s.2+cen x.2)=f6 at *;clear s1 s2 s3 s4 hr HRV hF;have INV:=zh ((Fr.refl wa.heap.size [] wa).drew);have o0:=BO2.out.cell 0;have o1:=BO2.out.cell 1;have x0:=BX.out.cell 0;have x1:=BX.out.cell 1;simp at o0 o1 x0 x1;have z0:=BO2.out.frozen 0;have z1:=BO2.out.frozen 1
   go_region_with
    (first
      | (go_at_call 256;refine (HNM.out _ _ _).mono ?_;rintro e w' ⟨rfl,hf⟩;have INV:=zh (INV.out.trans (hf.mono INV.out.size (by simp)));have o0:=(BO2.out.fr INV.out BO2.out.lt (by simp)).cell 0;have o1:=(BO2.out.fr INV.out BO2.out.lt (by simp)).cell 1;have x0:=(BX.out.fr INV.out BX.out.lt (by simp)).cell 0;have x1:=(BX.out.fr INV.out BX.out.lt (by simp)).cell 1;simp at o0 o1 x0 x1;have z0:=(BO2.out.fr INV.out BO2.out.lt (by simp)).frozen 0;have z1:=(BO2.out.fr INV.out BO2.out.lt (by simp)).frozen 1;clear hf)
      | (go_at_call 263;refine (HV.out _).mono ?_;rintro e w' ⟨rfl,hf⟩;have INV:=zh (INV.out.trans (hf.mono INV.out.size (by simp)));have o0:=(BO2.out.fr INV.out BO2.out.lt (by simp)).cell 0;have o1:=(BO2.out.fr INV.out BO2.out.lt (by simp)).cell 1;simp at o0 o1;have z0:=(BO2.out.fr INV.out BO2.out.lt (by simp)).frozen 0;have z1:=(BO2.out.fr INV.out BO2.out.lt (by simp)).frozen 1;clear hf))
   all_goals
    go_wp2_with fail;have BR3:=zh (((BR2.out.fr INV.out BR2.out.lt (by simp)).far (p:=⟨w.heap.size+1,0,none⟩) (by simp) (.int .i64 r.1)).far (p:=⟨w.heap.size+1,1,none⟩) (by simp) (.int .i64 r.2));have BO3:=zh (((BO2.out.fr INV.out BO2.out.lt (by simp)).set_ 0 (.int .i64 r.1)).set_ 1 (.int .i64 r.2));have F3:=zh (((F2.out.trans (INV.out.mono F2.out.size (by simp))).setCell (p:=⟨w.heap.size+1,0,none⟩) (.inl (by simp)) (.int .i64 r.1)).setCell (p:=⟨w.heap.size+1,1,none⟩) (.inl (by simp)) (.int .i64 r.2));go_roundg (n - (k+1))
    case measure=>omega
    case rel=>exact ⟨k+1,by omega,rfl,by go_num,.inr ⟨_,rfl⟩,BR3,by rw [HTK.out];exact BO3,F3⟩
  ·
   obtain rfl:n=k:=by omega
   rw [List.take_of_length_le (by rw [HN.out];exact Nat.le_refl _)] at BO;obtain ⟨s,hs⟩:=nm (sumV l);rw [<- hs] at BO;have HSV:=zh hs;clear hs;have x0:=BO.out.cell 0;have x1:=BO.out.cell 1;have y0:=BR.out.cell 0;have y1:=BR.out.cell 1;have z0:=BR.out.frozen 0;have z1:=BR.out.frozen 1;simp at x0 x1 y0 y1;go_wp2_with fail;exact bodyPost_ret (results_cell_row rfl _ _ w.heap.size 48 #[.int .i64 s.1,.int .i64 s.2] (0,0) _ rfl ((BR.out.set_ 0 _).set_ 1 _) Tryz.underlying48 rfl (by kernel_rfl)) rfl ⟨by rw [<- HSV.out],(F.out.setCell (p:=⟨w.heap.size,0,none⟩) (.inl (Nat.le_refl _)) _).setCell (p:=⟨w.heap.size,1,none⟩) (.inl (Nat.le_refl _)) _⟩
theorem refinto_back (n c:Int) (h:c=cen n) (w:World):Calls Tryz.prog 151 #[.int .i64 n] w fun e w'=>e=.returned (.int .i64 c)/\w'=w:=by
 rw [h];exact (refinto_any n w).mono fun _ _ ⟨h1,h2⟩=>⟨h1,h2.symm⟩
theorem refadd_any (x y:Int × Int) (w:World):Calls Tryz.prog 157 #[.agg #[.int .i64 x.1,.int .i64 x.2],.agg #[.int .i64 y.1,.int .i64 y.2]] w fun e w'=>e=.returned (.agg #[.int .i64 (addV x y).1,.int .i64 (addV x y).2])/\Fr w.heap.size [] w w':=by
 obtain ⟨a,b⟩:=x;obtain ⟨c,d⟩:=y;unfold addV;simp only;obtain ⟨a',ha⟩:∃ r,r=cen a:=⟨_,rfl⟩;obtain ⟨b',hb⟩:∃ r,r=cen b:=⟨_,rfl⟩;obtain ⟨c',hc⟩:∃ r,r=cen c:=⟨_,rfl⟩;obtain ⟨d',hd⟩:∃ r,r=cen d:=⟨_,rfl⟩;have CA:=zh (refinto_back a a' ha);have CB:=zh (refinto_back b b' hb);have CC:=zh (refinto_back c c' hc);have CD:=zh (refinto_back d d' hd);have hw1:IntKind.i64.wrap (a'+c')=a'+c':=(by rw [IntKind.wrap_i64];have:=cen_small a;have:=cen_small c;omega);have hw2:IntKind.i64.wrap (b'+d')=b'+d':=(by rw [IntKind.wrap_i64];have:=cen_small b;have:=cen_small d;omega);rw [<- ha,<- hb,<- hc,<- hd];clear ha hb hc hd;have HOF:=zh (refof_any (a'+c') (b'+d'));generalize cen (a'+c')=e1 at *;generalize cen (b'+d')=e2 at *;have B1:=zh (((Blk.new w 48 #[.int .i64 a,.int .i64 b]).alloc (.cells #[.int .i64 c,.int .i64 d] 48)).alloc (.cells #[.int .i64 0,.int .i64 0] 48));have B2:=zh ((Blk.new (w.alloc (.cells #[.int .i64 a,.int .i64 b] 48)) 48 #[.int .i64 c,.int .i64 d]).alloc (.cells #[.int .i64 0,.int .i64 0] 48));have B3:=zh (Blk.new ((w.alloc (.cells #[.int .i64 a,.int .i64 b] 48)).alloc (.cells #[.int .i64 c,.int .i64 d] 48)) 48 #[.int .i64 0,.int .i64 0]);have F:=zh ((((Fr.refl w.heap.size [] w).alloc (Nat.le_refl _) (.cells #[.int .i64 a,.int .i64 b] 48)).alloc (by simp) (.cells #[.int .i64 c,.int .i64 d] 48)).alloc (by simp;omega) (.cells #[.int .i64 0,.int .i64 0] 48));go_enter Tryz.func157,Tryz.ntmps157;go_upto_region 1 with fail;simp only [World.size_alloc] at B2 B3 ⊢;generalize ((w.alloc _).alloc _).alloc _=w1 at *;have a0:=B1.out.cell 0;have a1:=B1.out.cell 1;have b0:=B2.out.cell 0;have b1:=B2.out.cell 1;simp at a0 a1 b0 b1;have B3:=zh B3.out.drew;have F:=zh F.out.drew;clear B1 B2;refine wp_region_still_tail 14 (by kernel_rfl) (by kernel_rfl) ?_;simp only [List.take_succ_cons,List.take_zero,List.drop_succ_cons,List.drop_zero]
 still_step
 still_step
 still_call (CA.out _)
 still_step
 still_step
 still_call (CC.out _)
 still_step
 still_step
 still_step
 still_call (CB.out _)
 still_step
 still_step
 still_call (CD.out _)
 still_step
 refine wpStill_nil ?_
 change wpList _ _ _ _ _ w1.drew
 go_wp2_with fail;refine (HOF.out _).mono ?_;rintro e w' ⟨rfl,hf⟩;have B4:=zh (B3.out.fr hf B3.out.lt (by simp));have F4:=zh (F.out.nx hf);have z0:=B4.out.frozen 0;have z1:=B4.out.frozen 1;have q0:=B4.out.cell 0;have q1:=B4.out.cell 1;simp at q0 q1;clear hf a0 a1 b0 b1 B3 F;go_wp2_with fail;have B5:=zh (show Blk _ _ _ #[.int .i64 e1,.int .i64 e2] from by have:=(B4.out.set_ 0 (.int .i64 e1)).set_ 1 (.int .i64 e2);simpa using this);have F5:=zh ((F4.out.setCell (p:=⟨w.heap.size+1+1,0,none⟩) (.inl (by simp;omega)) (.int .i64 e1)).setCell (p:=⟨w.heap.size+1+1,1,none⟩) (.inl (by simp;omega)) (.int .i64 e2));exact bodyPost_ret (results_cell_row rfl _ _ (w.heap.size+1+1) 48 #[.int .i64 e1,.int .i64 e2] (0,0) _ rfl B5.out Tryz.underlying48 rfl (by kernel_rfl)) rfl ⟨rfl,F5.out⟩
theorem mul_small {a b:Int} (ha:a.natAbs<=524288) (hb:b.natAbs<=524288):(a * b).natAbs<=274877906944:=by
 rw [Int.natAbs_mul];exact Nat.le_trans (Nat.mul_le_mul ha hb) (by decide)
theorem cmul_small {a b c d:Int} (ha:a.natAbs<=524288) (hb:b.natAbs<=524288) (hc:c.natAbs<=524288) (hd:d.natAbs<=524288):(a * c - b * d).natAbs < 2 ^ 53/\(a * d+b * c).natAbs < 2 ^ 53:=by
 have h1:=mul_small ha hc;have h2:=mul_small hb hd;have h3:=mul_small ha hd;have h4:=mul_small hb hc;generalize a * c=p at *;generalize b * d=q at *;generalize a * d=r at *;generalize b * c=s at *;omega
theorem cmul_is {a b c d:Int} (ha:a.natAbs<=524288) (hb:b.natAbs<=524288) (hc:c.natAbs<=524288) (hd:d.natAbs<=524288) :
  ∃ re im,cMulBits (floatOfInt .f64 a) (floatOfInt .f64 b) (floatOfInt .f64 c) (floatOfInt .f64 d)=some (re,im)/\IsF re (a * c - b * d)/\IsF im (a * d+b * c):=by
 have ia:=isf_int (n:=a) (by omega);have ib:=isf_int (n:=b) (by omega);have ic:=isf_int (n:=c) (by omega);have id:=isf_int (n:=d) (by omega);have b1:=mul_small ha hc;have b2:=mul_small hb hd;have b3:=mul_small ha hd;have b4:=mul_small hb hc;obtain ⟨b5,b6⟩:=cmul_small ha hb hc hd;obtain ⟨z1,e1,i1⟩:=isf_mul ia ic (by omega);obtain ⟨z2,e2,i2⟩:=isf_mul ib id (by omega);obtain ⟨z3,e3,i3⟩:=isf_mul ia id (by omega);obtain ⟨z4,e4,i4⟩:=isf_mul ib ic (by omega);obtain ⟨z5,e5,i5⟩:=isf_sub i1 i2 b5;obtain ⟨z6,e6,i6⟩:=isf_add i3 i4 b6;refine ⟨z5,z6,?_,i5,i6⟩;have f1:floatBits .mul .f64 (floatOfInt .f64 a) (floatOfInt .f64 c)=some z1:=e1;have f2:floatBits .mul .f64 (floatOfInt .f64 b) (floatOfInt .f64 d)=some z2:=e2;have f3:floatBits .mul .f64 (floatOfInt .f64 a) (floatOfInt .f64 d)=some z3:=e3;have f4:floatBits .mul .f64 (floatOfInt .f64 b) (floatOfInt .f64 c)=some z4:=e4;have f5:floatBits .sub .f64 z1 z2=some z5:=e5;have f6:floatBits .add .f64 z3 z4=some z6:=e6;unfold cMulBits;simp only [f1,f2,f3,f4,f5,f6,Option.bind_some]
theorem value_isf (fa fb:Nat) (a b:Int) (h1:IsF fa a) (h2:IsF fb b) (ha:a.natAbs < 2 ^ 53) (hb:b.natAbs < 2 ^ 53) (w:World):Calls Tryz.prog 263 #[.complex .f64 fa fb] w fun e w'=>e=.returned (.agg #[.int .i64 (cen a),.int .i64 (cen b)])/\Fr w.heap.size [] w w':=by
 have HO:=zh (gof_any a b);have c1:∀ w,(convert 396 3 (.float .f64 fa)).run Tryz.prog w=.ok (.int .i64 a) w:=fun w=>run_convert_float_int w _ _ .f64 .i64 _ a (by rw [Tryz.underlying396];rfl) Tryz.underlying3 (isf_toInt h1 ha);have c2:∀ w,(convert 396 3 (.float .f64 fb)).run Tryz.prog w=.ok (.int .i64 b) w:=fun w=>run_convert_float_int w _ _ .f64 .i64 _ b (by rw [Tryz.underlying396];rfl) Tryz.underlying3 (isf_toInt h2 hb);generalize cen a=x at *;generalize cen b=y at *;clear ha hb h1 h2;go_enter Tryz.func263,Tryz.ntmps263;go_wp2_with fail;refine (HO.out _).mono ?_;rintro e w1 ⟨rfl,f1⟩;have B1:=zh ((Blk.new w 48 #[.int .i64 0,.int .i64 0]).fr f1 (by simp) (by simp));have F1:=zh (((Fr.refl w.heap.size [] w).alloc (Nat.le_refl _) (.cells #[.int .i64 0,.int .i64 0] 48)).trans (f1.mono (B':=w.heap.size) (L':=[]) (by simp) (by simp)));have x0:=B1.out.cell 0;have x1:=B1.out.cell 1;have z0:=B1.out.frozen 0;have z1:=B1.out.frozen 1;simp at x0 x1;clear f1;go_wp2_with fail;exact bodyPost_ret (results_cell_row rfl _ _ w.heap.size 48 #[.int .i64 x,.int .i64 y] (0,0) _ rfl ((B1.out.set_ 0 _).set_ 1 _) Tryz.underlying48 rfl (by kernel_rfl)) rfl ⟨rfl,(F1.out.setCell (p:=⟨w.heap.size,0,none⟩) (.inl (Nat.le_refl _)) _).setCell (p:=⟨w.heap.size,1,none⟩) (.inl (Nat.le_refl _)) _⟩
def mulV (x y:Int × Int):Int × Int:=(cen (cen x.1 * cen y.1 - cen x.2 * cen y.2),cen (cen x.1 * cen y.2+cen x.2 * cen y.1))
def prodV (l:List (Int × Int)):Int × Int:=l.foldl mulV (1,0)
theorem prodV_snoc (l:List (Int × Int)) (x:Int × Int):prodV (l ++ [x])=mulV (prodV l) x:=by unfold prodV;rw [List.foldl_append];rfl
theorem gmul_any (A:Option Addr) (c B:Nat) (l:List (Int × Int)) (w:World) (hr:Reads w B 2 A l.length (cellsV l)) (hB:B<=w.heap.size) (hn:l.length<=1000000) :
  Calls Tryz.prog 259 #[.slice A l.length c] w fun e w'=>e=.returned (.agg #[.int .i64 (prodV l).1,.int .i64 (prodV l).2])/\Fr w.heap.size [] w w':=by
 have HR:=zh hr;obtain ⟨n,hnl⟩:=nm (l.length);have HN:=zh hnl;rw [<- hnl] at hn ⊢;clear hr hnl;go_enter Tryz.func259,Tryz.ntmps259;go_wp2_with fail;have BR:=zh ((Blk.new w 48 #[.int .i64 0,.int .i64 0]).alloc (.cells #[.int .i64 1,.int .i64 0] 48));have BO:=zh (Blk.new (w.alloc (.cells #[.int .i64 0,.int .i64 0] 48)) 48 #[.int .i64 1,.int .i64 0]);have F0:=zh (((Fr.refl w.heap.size [] w).alloc (Nat.le_refl _) (.cells #[.int .i64 0,.int .i64 0] 48)).alloc (by simp) (.cells #[.int .i64 1,.int .i64 0] 48));rw [World.size_alloc] at BO;generalize (w.alloc _).alloc _=w0 at *;go_loopg [5,9] n (fun g s5 s8 wr=>∃ k:Nat,k<=n/\g=n - k/\s8=.int .i64 k/\(s5=undef \/ ∃ a,s5=.pointer a)/\Hid (Blk wr w.heap.size 48 #[.int .i64 0,.int .i64 0])/\Hid (Blk wr (w.heap.size+1) 48 #[.int .i64 (prodV (l.take k)).1,.int .i64 (prodV (l.take k)).2])/\Hid (Fr w.heap.size [] w wr))
 case atStart=>exact ⟨0,Nat.zero_le _,rfl,rfl,.inl rfl,BR,BO,F0⟩
 case round =>
  clear BR BO F0;obtain ⟨k,hk,rfl,rfl,hs5,BR,BO,F⟩:=hrel
  by_cases hkn:k < n
  ·
   have hki:(k:Int) < (n:Int):=by omega
   obtain ⟨x,hx⟩:∃ x,l[k]?=some x:=⟨_,List.getElem?_eq_getElem (by rw [<- HN.out];exact hkn)⟩;obtain ⟨b,off,rfl,hb,p0,p1⟩:=reads_val (HR.out.fr F.out hB (by simp)) hx;have HTK:=zh (show prodV (l.take (k+1))=mulV (prodV (l.take k)) x by rw [List.take_add_one,hx];exact prodV_snoc _ _);clear hx;obtain ⟨s,hs⟩:=nm (prodV (l.take k));rw [<- hs] at BO HTK;clear hs;go_upto_region 5 with fail;have BX:=zh (Blk.new wr 48 #[.int .i64 x.1,.int .i64 x.2]);have fa:=(Fr.refl wr.heap.size [] wr).alloc (Nat.le_refl _) (.cells #[.int .i64 x.1,.int .i64 x.2] 48);have BO2:=zh (BO.out.fr fa BO.out.lt (by simp));have BR2:=zh (BR.out.fr fa BR.out.lt (by simp));have F2:=zh (F.out.trans (fa.mono F.out.size (by simp)));have hgx:w.heap.size+1 < wr.heap.size:=BO.out.lt;clear fa BO BR F p0 p1;generalize wr.alloc (.cells #[.int .i64 x.1,.int .i64 x.2] 48)=wa at *;generalize wr.heap.size=gx at *;have s1:=cen_small s.1;have s2:=cen_small s.2;have s3:=cen_small x.1;have s4:=cen_small x.2;obtain ⟨re,im,hcm,hre,him⟩:=cmul_is (a:=cen s.1) (b:=cen s.2) (c:=cen x.1) (d:=cen x.2) (by omega) (by omega) (by omega) (by omega);have hadd:∀ w,(binOp .mul 391 (.complex .f64 (floatOfInt .f64 (cen s.1)) (floatOfInt .f64 (cen s.2))) (.complex .f64 (floatOfInt .f64 (cen x.1)) (floatOfInt .f64 (cen x.2)))).run Tryz.prog w=.ok (.complex .f64 re im) w:=fun w=>run_complex_mul w _ _ _ _ _ _ _ hcm;have hbb:=cmul_small (a:=cen s.1) (b:=cen s.2) (c:=cen x.1) (d:=cen x.2) (by omega) (by omega) (by omega) (by omega);have HV:=zh (value_isf re im _ _ hre him hbb.1 hbb.2);obtain ⟨F,hF⟩:∃ F:Int->Nat,∀ n,F n=floatOfInt .f64 (cen n):=⟨_,fun _=>rfl⟩;have HNM:=zh (fun (p q:Int) (w:World)=>(by rw [hF,hF];exact number_any p q w:Calls Tryz.prog 256 #[.agg #[.int .i64 p,.int .i64 q]] w fun e w'=>e=.returned (.complex .f64 (F p) (F q))/\Fr w.heap.size [] w w'));rw [<- hF,<- hF,<- hF,<- hF] at hadd;obtain ⟨r,hr⟩:=nm (mulV s x);have HRV:=zh hr;have HV:Hid (∀ w,Calls Tryz.prog 263 #[.complex .f64 re im] w fun e w'=>e=.returned (.agg #[.int .i64 r.1,.int .i64 r.2])/\Fr w.heap.size [] w w'):=(by rw [hr];exact HV);rw [<- hr] at HTK;clear s1 s2 s3 s4 hr HRV hF hcm hre him hbb;have INV:=zh ((Fr.refl wa.heap.size [] wa).drew);have o0:=BO2.out.cell 0;have o1:=BO2.out.cell 1;have x0:=BX.out.cell 0;have x1:=BX.out.cell 1;simp at o0 o1 x0 x1;have z0:=BO2.out.frozen 0;have z1:=BO2.out.frozen 1
   go_region_with
    (first
      | (go_at_call 256;refine (HNM.out _ _ _).mono ?_;rintro e w' ⟨rfl,hf⟩;have INV:=zh (INV.out.trans (hf.mono INV.out.size (by simp)));have o0:=(BO2.out.fr INV.out BO2.out.lt (by simp)).cell 0;have o1:=(BO2.out.fr INV.out BO2.out.lt (by simp)).cell 1;have x0:=(BX.out.fr INV.out BX.out.lt (by simp)).cell 0;have x1:=(BX.out.fr INV.out BX.out.lt (by simp)).cell 1;simp at o0 o1 x0 x1;have z0:=(BO2.out.fr INV.out BO2.out.lt (by simp)).frozen 0;have z1:=(BO2.out.fr INV.out BO2.out.lt (by simp)).frozen 1;clear hf)
      | (go_at_call 263;refine (HV.out _).mono ?_;rintro e w' ⟨rfl,hf⟩;have INV:=zh (INV.out.trans (hf.mono INV.out.size (by simp)));have o0:=(BO2.out.fr INV.out BO2.out.lt (by simp)).cell 0;have o1:=(BO2.out.fr INV.out BO2.out.lt (by simp)).cell 1;simp at o0 o1;have z0:=(BO2.out.fr INV.out BO2.out.lt (by simp)).frozen 0;have z1:=(BO2.out.fr INV.out BO2.out.lt (by simp)).frozen 1;clear hf))
   all_goals
    go_wp2_with fail;have BR3:=zh (((BR2.out.fr INV.out BR2.out.lt (by simp)).far (p:=⟨w.heap.size+1,0,none⟩) (by simp) (.int .i64 r.1)).far (p:=⟨w.heap.size+1,1,none⟩) (by simp) (.int .i64 r.2));have BO3:=zh (((BO2.out.fr INV.out BO2.out.lt (by simp)).set_ 0 (.int .i64 r.1)).set_ 1 (.int .i64 r.2));have F3:=zh (((F2.out.trans (INV.out.mono F2.out.size (by simp))).setCell (p:=⟨w.heap.size+1,0,none⟩) (.inl (by simp)) (.int .i64 r.1)).setCell (p:=⟨w.heap.size+1,1,none⟩) (.inl (by simp)) (.int .i64 r.2));go_roundg (n - (k+1))
    case measure=>omega
    case rel=>exact ⟨k+1,by omega,rfl,by go_num,.inr ⟨_,rfl⟩,BR3,by rw [HTK.out];exact BO3,F3⟩
  ·
   obtain rfl:n=k:=by omega
   rw [List.take_of_length_le (by rw [HN.out];exact Nat.le_refl _)] at BO;obtain ⟨s,hs⟩:=nm (prodV l);rw [<- hs] at BO;have HSV:=zh hs;clear hs;have x0:=BO.out.cell 0;have x1:=BO.out.cell 1;have y0:=BR.out.cell 0;have y1:=BR.out.cell 1;have z0:=BR.out.frozen 0;have z1:=BR.out.frozen 1;simp at x0 x1 y0 y1;go_wp2_with fail;exact bodyPost_ret (results_cell_row rfl _ _ w.heap.size 48 #[.int .i64 s.1,.int .i64 s.2] (0,0) _ rfl ((BR.out.set_ 0 _).set_ 1 _) Tryz.underlying48 rfl (by kernel_rfl)) rfl ⟨by rw [<- HSV.out],(F.out.setCell (p:=⟨w.heap.size,0,none⟩) (.inl (Nat.le_refl _)) _).setCell (p:=⟨w.heap.size,1,none⟩) (.inl (Nat.le_refl _)) _⟩
def subV (x y:Int × Int):Int × Int:=(cen (cen x.1 - cen y.1),cen (cen x.2 - cen y.2))
def turnV (x:Int × Int):Int × Int:=(cen (-cen x.2),cen (cen x.1))
theorem gsub_any (x y:Int × Int) (w:World):Calls Tryz.prog 258 #[.agg #[.int .i64 x.1,.int .i64 x.2],.agg #[.int .i64 y.1,.int .i64 y.2]] w fun e w'=>e=.returned (.agg #[.int .i64 (subV x y).1,.int .i64 (subV x y).2])/\Fr w.heap.size [] w w':=by
 have BA:=((Blk.new w 48 #[.int .i64 x.1,.int .i64 x.2]).alloc (.cells #[.int .i64 y.1,.int .i64 y.2] 48)).alloc (.cells #[.int .i64 0,.int .i64 0] 48);have BB:=(Blk.new (w.alloc (.cells #[.int .i64 x.1,.int .i64 x.2] 48)) 48 #[.int .i64 y.1,.int .i64 y.2]).alloc (.cells #[.int .i64 0,.int .i64 0] 48);have BC:=Blk.new ((w.alloc (.cells #[.int .i64 x.1,.int .i64 x.2] 48)).alloc (.cells #[.int .i64 y.1,.int .i64 y.2] 48)) 48 #[.int .i64 0,.int .i64 0];have f0:=(((Fr.refl w.heap.size [] w).alloc (Nat.le_refl _) (.cells #[.int .i64 x.1,.int .i64 x.2] 48)).alloc (by simp) (.cells #[.int .i64 y.1,.int .i64 y.2] 48)).alloc (by simp;omega) (.cells #[.int .i64 0,.int .i64 0] 48);rw [World.size_alloc] at BB BC;rw [World.size_alloc] at BC;have BA:=zh BA;have BB:=zh BB;have BC:=zh BC;have F0:=zh f0;clear f0;have s1:=cen_small x.1;have s2:=cen_small x.2;have s3:=cen_small y.1;have s4:=cen_small y.2;obtain ⟨re,hre,ire⟩:=isf_sub (isf_int (n:=cen x.1) (by omega)) (isf_int (n:=cen y.1) (by omega)) (by omega);obtain ⟨im,him,iim⟩:=isf_sub (isf_int (n:=cen x.2) (by omega)) (isf_int (n:=cen y.2) (by omega)) (by omega)
 have hsub : ∀ w, (binOp .sub 391 (.complex .f64 (floatOfInt .f64 (cen x.1)) (floatOfInt .f64 (cen x.2))) (.complex .f64 (floatOfInt .f64 (cen y.1)) (floatOfInt .f64 (cen y.2)))).run Tryz.prog w = .ok (.complex .f64 re im) w := fun w => run_complex_sum w .sub (.inr rfl) _ .f64 _ _ _ _ _ _ (by
  have f1:floatBits .sub .f64 (floatOfInt .f64 (cen x.1)) (floatOfInt .f64 (cen y.1))=some re:=hre;have f2:floatBits .sub .f64 (floatOfInt .f64 (cen x.2)) (floatOfInt .f64 (cen y.2))=some im:=him;unfold cSumBits;rw [f1,f2]
  rfl)
 have HV0:=zh (value_isf re im _ _ ire iim (by omega) (by omega));obtain ⟨F,hF⟩:∃ F:Int->Nat,∀ n,F n=floatOfInt .f64 (cen n):=⟨_,fun _=>rfl⟩;have HNM:=zh (fun (p q:Int) (w:World)=>(by rw [hF,hF];exact number_any p q w:Calls Tryz.prog 256 #[.agg #[.int .i64 p,.int .i64 q]] w fun e w'=>e=.returned (.complex .f64 (F p) (F q))/\Fr w.heap.size [] w w'));rw [<- hF,<- hF,<- hF,<- hF] at hsub;obtain ⟨r,hr⟩:=nm (subV x y);have HV:Hid (∀ w,Calls Tryz.prog 263 #[.complex .f64 re im] w fun e w'=>e=.returned (.agg #[.int .i64 r.1,.int .i64 r.2])/\Fr w.heap.size [] w w'):=(by rw [hr];exact HV0);rw [<- hr];clear s1 s2 s3 s4 hr hF hre him ire iim HV0;go_enter Tryz.func258,Tryz.ntmps258;go_upto_region 1 with fail;generalize ((w.alloc (.cells #[.int .i64 x.1,.int .i64 x.2] 48)).alloc (.cells #[.int .i64 y.1,.int .i64 y.2] 48)).alloc (.cells #[.int .i64 0,.int .i64 0] 48)=wa at *;have INV:=zh ((Fr.refl wa.heap.size [] wa).drew);have x0:=BA.out.cell 0;have x1:=BA.out.cell 1;have y0:=BB.out.cell 0;have y1:=BB.out.cell 1;have c0:=BC.out.cell 0;have c1:=BC.out.cell 1;simp at x0 x1 y0 y1 c0 c1;have z0:=BC.out.frozen 0;have z1:=BC.out.frozen 1
 go_region_with
  (first
    | (go_at_call 256;refine (HNM.out _ _ _).mono ?_;rintro e w' ⟨rfl,hf⟩;have INV:=zh (INV.out.trans (hf.mono INV.out.size (by simp)));have x0:=(BA.out.fr INV.out BA.out.lt (by simp)).cell 0;have x1:=(BA.out.fr INV.out BA.out.lt (by simp)).cell 1;have y0:=(BB.out.fr INV.out BB.out.lt (by simp)).cell 0;have y1:=(BB.out.fr INV.out BB.out.lt (by simp)).cell 1;have c0:=(BC.out.fr INV.out BC.out.lt (by simp)).cell 0;have c1:=(BC.out.fr INV.out BC.out.lt (by simp)).cell 1;simp at x0 x1 y0 y1 c0 c1;have z0:=(BC.out.fr INV.out BC.out.lt (by simp)).frozen 0;have z1:=(BC.out.fr INV.out BC.out.lt (by simp)).frozen 1;clear hf)
    | (go_at_call 263;refine (HV.out _).mono ?_;rintro e w' ⟨rfl,hf⟩;have INV:=zh (INV.out.trans (hf.mono INV.out.size (by simp)));have c0:=(BC.out.fr INV.out BC.out.lt (by simp)).cell 0;have c1:=(BC.out.fr INV.out BC.out.lt (by simp)).cell 1;simp at c0 c1;have z0:=(BC.out.fr INV.out BC.out.lt (by simp)).frozen 0;have z1:=(BC.out.fr INV.out BC.out.lt (by simp)).frozen 1;clear hf))
 all_goals
  have BC3:=(BC.out.fr INV.out BC.out.lt (by simp));have F3:=F0.out.nx INV.out;go_wp2_with fail;exact bodyPost_ret (results_cell_row rfl _ _ (w.heap.size+1+1) 48 #[.int .i64 r.1,.int .i64 r.2] (0,0) _ rfl ((BC3.set_ 0 _).set_ 1 _) Tryz.underlying48 rfl (by kernel_rfl)) rfl ⟨rfl,(F3.setCell (p:=⟨w.heap.size+1+1,0,none⟩) (.inl (by simp;omega)) _).setCell (p:=⟨w.heap.size+1+1,1,none⟩) (.inl (by simp;omega)) _⟩
theorem refsub_any (x y:Int × Int) (w:World):Calls Tryz.prog 158 #[.agg #[.int .i64 x.1,.int .i64 x.2],.agg #[.int .i64 y.1,.int .i64 y.2]] w fun e w'=>e=.returned (.agg #[.int .i64 (subV x y).1,.int .i64 (subV x y).2])/\Fr w.heap.size [] w w':=by
 obtain ⟨a,b⟩:=x;obtain ⟨c,d⟩:=y;unfold subV;simp only;obtain ⟨a',ha⟩:∃ r,r=cen a:=⟨_,rfl⟩;obtain ⟨b',hb⟩:∃ r,r=cen b:=⟨_,rfl⟩;obtain ⟨c',hc⟩:∃ r,r=cen c:=⟨_,rfl⟩;obtain ⟨d',hd⟩:∃ r,r=cen d:=⟨_,rfl⟩;have CA:=zh (refinto_back a a' ha);have CB:=zh (refinto_back b b' hb);have CC:=zh (refinto_back c c' hc);have CD:=zh (refinto_back d d' hd);have hw1:IntKind.i64.wrap (a' - c')=a' - c':=(by rw [IntKind.wrap_i64];have:=cen_small a;have:=cen_small c;omega);have hw2:IntKind.i64.wrap (b' - d')=b' - d':=(by rw [IntKind.wrap_i64];have:=cen_small b;have:=cen_small d;omega);rw [<- ha,<- hb,<- hc,<- hd];clear ha hb hc hd;have HOF:=zh (refof_any (a' - c') (b' - d'));generalize cen (a' - c')=e1 at *;generalize cen (b' - d')=e2 at *;have B1:=zh (((Blk.new w 48 #[.int .i64 a,.int .i64 b]).alloc (.cells #[.int .i64 c,.int .i64 d] 48)).alloc (.cells #[.int .i64 0,.int .i64 0] 48));have B2:=zh ((Blk.new (w.alloc (.cells #[.int .i64 a,.int .i64 b] 48)) 48 #[.int .i64 c,.int .i64 d]).alloc (.cells #[.int .i64 0,.int .i64 0] 48));have B3:=zh (Blk.new ((w.alloc (.cells #[.int .i64 a,.int .i64 b] 48)).alloc (.cells #[.int .i64 c,.int .i64 d] 48)) 48 #[.int .i64 0,.int .i64 0]);have F:=zh ((((Fr.refl w.heap.size [] w).alloc (Nat.le_refl _) (.cells #[.int .i64 a,.int .i64 b] 48)).alloc (by simp) (.cells #[.int .i64 c,.int .i64 d] 48)).alloc (by simp;omega) (.cells #[.int .i64 0,.int .i64 0] 48));go_enter Tryz.func158,Tryz.ntmps158;go_upto_region 1 with fail;simp only [World.size_alloc] at B2 B3 ⊢;generalize ((w.alloc _).alloc _).alloc _=w1 at *;have a0:=B1.out.cell 0;have a1:=B1.out.cell 1;have b0:=B2.out.cell 0;have b1:=B2.out.cell 1;simp at a0 a1 b0 b1;have B3:=zh B3.out.drew;have F:=zh F.out.drew;clear B1 B2;refine wp_region_still_tail 14 (by kernel_rfl) (by kernel_rfl) ?_;simp only [List.take_succ_cons,List.take_zero,List.drop_succ_cons,List.drop_zero]
 still_step
 still_step
 still_call (CA.out _)
 still_step
 still_step
 still_call (CC.out _)
 still_step
 still_step
 still_step
 still_call (CB.out _)
 still_step
 still_step
 still_call (CD.out _)
 still_step
 refine wpStill_nil ?_
 change wpList _ _ _ _ _ w1.drew
 go_wp2_with fail;refine (HOF.out _).mono ?_;rintro e w' ⟨rfl,hf⟩;have B4:=zh (B3.out.fr hf B3.out.lt (by simp));have F4:=zh (F.out.nx hf);have z0:=B4.out.frozen 0;have z1:=B4.out.frozen 1;have q0:=B4.out.cell 0;have q1:=B4.out.cell 1;simp at q0 q1;clear hf a0 a1 b0 b1 B3 F;go_wp2_with fail;have B5:=zh (show Blk _ _ _ #[.int .i64 e1,.int .i64 e2] from by have:=(B4.out.set_ 0 (.int .i64 e1)).set_ 1 (.int .i64 e2);simpa using this);have F5:=zh ((F4.out.setCell (p:=⟨w.heap.size+1+1,0,none⟩) (.inl (by simp;omega)) (.int .i64 e1)).setCell (p:=⟨w.heap.size+1+1,1,none⟩) (.inl (by simp;omega)) (.int .i64 e2));exact bodyPost_ret (results_cell_row rfl _ _ (w.heap.size+1+1) 48 #[.int .i64 e1,.int .i64 e2] (0,0) _ rfl B5.out Tryz.underlying48 rfl (by kernel_rfl)) rfl ⟨rfl,F5.out⟩
theorem mul_small2 {a b:Int} (ha:-524288<=a/\a<=524288) (hb:-524288<=b/\b<=524288):-274877906944<=a * b/\a * b<=274877906944:=by
 have h1:(a * b).natAbs<=274877906944:=by
  rw [Int.natAbs_mul];exact Nat.mul_le_mul (show a.natAbs<=524288 by omega) (show b.natAbs<=524288 by omega)
 omega
theorem refmul_any (x y:Int × Int) (w:World):Calls Tryz.prog 159 #[.agg #[.int .i64 x.1,.int .i64 x.2],.agg #[.int .i64 y.1,.int .i64 y.2]] w fun e w'=>e=.returned (.agg #[.int .i64 (mulV x y).1,.int .i64 (mulV x y).2])/\Fr w.heap.size [] w w':=by
 obtain ⟨a,b⟩:=x;obtain ⟨c,d⟩:=y;unfold mulV;simp only;obtain ⟨a',ha⟩:∃ r,r=cen a:=⟨_,rfl⟩;obtain ⟨b',hb⟩:∃ r,r=cen b:=⟨_,rfl⟩;obtain ⟨c',hc⟩:∃ r,r=cen c:=⟨_,rfl⟩;obtain ⟨d',hd⟩:∃ r,r=cen d:=⟨_,rfl⟩;have CA:=zh (refinto_back a a' ha);have CB:=zh (refinto_back b b' hb);have CC:=zh (refinto_back c c' hc);have CD:=zh (refinto_back d d' hd);have sa:=cen_small a;have sb:=cen_small b;have sc:=cen_small c;have sd:=cen_small d;rw [<- ha] at sa;rw [<- hb] at sb;rw [<- hc] at sc;rw [<- hd] at sd;have m1:=mul_small2 (a:=a') (b:=c') (by omega) (by omega);have m2:=mul_small2 (a:=b') (b:=d') (by omega) (by omega);have m3:=mul_small2 (a:=a') (b:=d') (by omega) (by omega);have m4:=mul_small2 (a:=b') (b:=c') (by omega) (by omega);rw [<- ha,<- hb,<- hc,<- hd];clear ha hb hc hd sa sb sc sd;obtain ⟨p1,hp1⟩:=nm (a' * c');obtain ⟨p2,hp2⟩:=nm (b' * d');obtain ⟨p3,hp3⟩:=nm (a' * d');obtain ⟨p4,hp4⟩:=nm (b' * c');have HOF:=zh (refof_any (p1 - p2) (p3+p4));have w1:IntKind.i64.wrap (a' * c')=p1:=(by rw [IntKind.wrap_i64];omega);have w2:IntKind.i64.wrap (b' * d')=p2:=(by rw [IntKind.wrap_i64];omega);have w3:IntKind.i64.wrap (a' * d')=p3:=(by rw [IntKind.wrap_i64];omega);have w4:IntKind.i64.wrap (b' * c')=p4:=(by rw [IntKind.wrap_i64];omega);have v1:wrap64 (a' * c')=p1:=(by unfold wrap64;omega);have v2:wrap64 (b' * d')=p2:=(by unfold wrap64;omega);have v3:wrap64 (a' * d')=p3:=(by unfold wrap64;omega);have v4:wrap64 (b' * c')=p4:=(by unfold wrap64;omega);have w5:IntKind.i64.wrap (p1 - p2)=p1 - p2:=(by rw [IntKind.wrap_i64];omega);have w6:IntKind.i64.wrap (p3+p4)=p3+p4:=(by rw [IntKind.wrap_i64];omega);have v5:wrap64 (p1 - p2)=p1 - p2:=(by unfold wrap64;omega);have v6:wrap64 (p3+p4)=p3+p4:=(by unfold wrap64;omega);rw [<- hp1,<- hp2,<- hp3,<- hp4];clear hp1 hp2 hp3 hp4 m1 m2 m3 m4;generalize cen (p1 - p2)=e1 at *;generalize cen (p3+p4)=e2 at *;have B1:=zh (((Blk.new w 48 #[.int .i64 a,.int .i64 b]).alloc (.cells #[.int .i64 c,.int .i64 d] 48)).alloc (.cells #[.int .i64 0,.int .i64 0] 48));have B2:=zh ((Blk.new (w.alloc (.cells #[.int .i64 a,.int .i64 b] 48)) 48 #[.int .i64 c,.int .i64 d]).alloc (.cells #[.int .i64 0,.int .i64 0] 48));have B3:=zh (Blk.new ((w.alloc (.cells #[.int .i64 a,.int .i64 b] 48)).alloc (.cells #[.int .i64 c,.int .i64 d] 48)) 48 #[.int .i64 0,.int .i64 0]);have F:=zh ((((Fr.refl w.heap.size [] w).alloc (Nat.le_refl _) (.cells #[.int .i64 a,.int .i64 b] 48)).alloc (by simp) (.cells #[.int .i64 c,.int .i64 d] 48)).alloc (by simp;omega) (.cells #[.int .i64 0,.int .i64 0] 48));go_enter Tryz.func159,Tryz.ntmps159;go_upto_region 1 with fail;simp only [World.size_alloc] at B2 B3 ⊢;generalize ((w.alloc _).alloc _).alloc _=wx at *;have a0:=B1.out.cell 0;have a1:=B1.out.cell 1;have b0:=B2.out.cell 0;have b1:=B2.out.cell 1;simp at a0 a1 b0 b1;have B3:=zh B3.out.drew;have F:=zh F.out.drew;clear B1 B2;refine wp_region_still_tail 12 (by kernel_rfl) (by kernel_rfl) ?_;simp only [List.take_succ_cons,List.take_zero,List.drop_succ_cons,List.drop_zero]
 still_step
 still_step
 still_call (CA.out _)
 still_step
 still_step
 still_call (CB.out _)
 still_step
 still_step
 still_call (CC.out _)
 still_step
 still_step
 still_call (CD.out _)
 refine wpStill_nil ?_
 change wpList _ _ _ _ _ wx.drew
 go_wp2_with fail;refine (HOF.out _).mono ?_;rintro e w' ⟨rfl,hf⟩;have B4:=zh (B3.out.fr hf B3.out.lt (by simp));have F4:=zh (F.out.nx hf);have z0:=B4.out.frozen 0;have z1:=B4.out.frozen 1;have q0:=B4.out.cell 0;have q1:=B4.out.cell 1;simp at q0 q1;clear hf a0 a1 b0 b1 B3 F;go_wp2_with fail;have B5:=zh (show Blk _ _ _ #[.int .i64 e1,.int .i64 e2] from by have:=(B4.out.set_ 0 (.int .i64 e1)).set_ 1 (.int .i64 e2);simpa using this);have F5:=zh ((F4.out.setCell (p:=⟨w.heap.size+1+1,0,none⟩) (.inl (by simp;omega)) (.int .i64 e1)).setCell (p:=⟨w.heap.size+1+1,1,none⟩) (.inl (by simp;omega)) (.int .i64 e2));exact bodyPost_ret (results_cell_row rfl _ _ (w.heap.size+1+1) 48 #[.int .i64 e1,.int .i64 e2] (0,0) _ rfl B5.out Tryz.underlying48 rfl (by kernel_rfl)) rfl ⟨rfl,F5.out⟩
def conjV (x:Int × Int):Int × Int:=(cen (cen x.1),cen (-cen x.2))
theorem float_zero:floatOfInt .f64 0=0:=by decide
theorem float_one:floatOfInt .f64 1=4607182418800017408:=by decide
theorem gturn_any (x:Int × Int) (w:World):Calls Tryz.prog 262 #[.agg #[.int .i64 x.1,.int .i64 x.2]] w fun e w'=>e=.returned (.agg #[.int .i64 (turnV x).1,.int .i64 (turnV x).2])/\Fr w.heap.size [] w w':=by
 have BA:=(Blk.new w 48 #[.int .i64 x.1,.int .i64 x.2]).alloc (.cells #[.int .i64 0,.int .i64 0] 48);have BC:=Blk.new (w.alloc (.cells #[.int .i64 x.1,.int .i64 x.2] 48)) 48 #[.int .i64 0,.int .i64 0];have f0:=((Fr.refl w.heap.size [] w).alloc (Nat.le_refl _) (.cells #[.int .i64 x.1,.int .i64 x.2] 48)).alloc (by simp) (.cells #[.int .i64 0,.int .i64 0] 48);rw [World.size_alloc] at BC;have BA:=zh BA;have BC:=zh BC;have F0:=zh f0;clear f0;have s1:=cen_small x.1;have s2:=cen_small x.2;obtain ⟨re,im,hcm,ire,iim⟩:=cmul_is (a:=cen x.1) (b:=cen x.2) (c:=0) (d:=1) (by omega) (by omega) (by decide) (by decide);rw [show cen x.1 * 0 - cen x.2 * 1 = -cen x.2 by omega] at ire;rw [show cen x.1 * 1+cen x.2 * 0=cen x.1 by omega] at iim;have hmul:∀ w,(binOp .mul 391 (.complex .f64 (floatOfInt .f64 (cen x.1)) (floatOfInt .f64 (cen x.2))) (.complex .f64 0 4607182418800017408)).run Tryz.prog w=.ok (.complex .f64 re im) w:=fun w=>run_complex_mul w _ _ _ _ _ _ _ (by rw [<- float_zero,<- float_one];exact hcm);have HV0:=zh (value_isf re im _ _ ire iim (by omega) (by omega));have HN:=zh (number_any x.1 x.2);generalize floatOfInt .f64 (cen x.1)=fa at *;generalize floatOfInt .f64 (cen x.2)=fb at *;obtain ⟨r,hr⟩:=nm (turnV x);have HV:Hid (∀ w,Calls Tryz.prog 263 #[.complex .f64 re im] w fun e w'=>e=.returned (.agg #[.int .i64 r.1,.int .i64 r.2])/\Fr w.heap.size [] w w'):=(by rw [hr];exact HV0);rw [<- hr];clear s1 s2 hr hcm ire iim HV0;go_enter Tryz.func262,Tryz.ntmps262;go_upto_region 1 with fail;generalize (w.alloc (.cells #[.int .i64 x.1,.int .i64 x.2] 48)).alloc (.cells #[.int .i64 0,.int .i64 0] 48)=wa at *;have x0:=BA.out.cell 0;have x1:=BA.out.cell 1;simp at x0 x1;go_wp2_with fail;refine (HN.out _).mono ?_;rintro e w1 ⟨rfl,f1⟩;have F1:=zh (F0.out.nx f1);have BC1:=zh (BC.out.fr f1 BC.out.lt (by simp));clear f1 x0 x1 F0 BC BA;go_wp2_with fail;refine (HV.out _).mono ?_;rintro e w2 ⟨rfl,f2⟩;have F2:=zh (F1.out.nx f2);have BC2:=zh (BC1.out.fr f2 BC1.out.lt (by simp));have c0:=BC2.out.cell 0;have c1:=BC2.out.cell 1;have z0:=BC2.out.frozen 0;have z1:=BC2.out.frozen 1;simp at c0 c1;clear f2 F1 BC1;go_wp2_with fail;exact bodyPost_ret (results_cell_row rfl _ _ (w.heap.size+1) 48 #[.int .i64 r.1,.int .i64 r.2] (0,0) _ rfl ((BC2.out.set_ 0 _).set_ 1 _) Tryz.underlying48 rfl (by kernel_rfl)) rfl ⟨rfl,(F2.out.setCell (p:=⟨w.heap.size+1,0,none⟩) (.inl (by simp)) _).setCell (p:=⟨w.heap.size+1,1,none⟩) (.inl (by simp)) _⟩
theorem gconj_any (x:Int × Int) (w:World):Calls Tryz.prog 261 #[.agg #[.int .i64 x.1,.int .i64 x.2]] w fun e w'=>e=.returned (.agg #[.int .i64 (conjV x).1,.int .i64 (conjV x).2])/\Fr w.heap.size [] w w':=by
 have BA:=(Blk.new w 48 #[.int .i64 x.1,.int .i64 x.2]).alloc (.cells #[.int .i64 0,.int .i64 0] 48);have BC:=Blk.new (w.alloc (.cells #[.int .i64 x.1,.int .i64 x.2] 48)) 48 #[.int .i64 0,.int .i64 0];have f0:=((Fr.refl w.heap.size [] w).alloc (Nat.le_refl _) (.cells #[.int .i64 x.1,.int .i64 x.2] 48)).alloc (by simp) (.cells #[.int .i64 0,.int .i64 0] 48);rw [World.size_alloc] at BC;have BA:=zh BA;have BC:=zh BC;have F0:=zh f0;clear f0;have s1:=cen_small x.1;have s2:=cen_small x.2;have HV0:=zh (value_isf (floatOfInt .f64 (cen x.1)) (floatOfInt .f64 (cen x.2) ^^^ 2 ^ 63) _ _ (isf_int (by omega)) (isf_negOf (by omega)) (by omega) (by omega));have HN:=zh (number_any x.1 x.2);generalize floatOfInt .f64 (cen x.1)=fa at *;generalize floatOfInt .f64 (cen x.2)=fb at *;obtain ⟨fc,hfc⟩:=nm (Op.negFloat .f64 fb);rw [show fb ^^^ 2 ^ 63=fc from hfc.symm] at HV0;have HNEG:Hid (∀ w,(Op.unary .neg (.float .f64 fb)).run Tryz.prog w=.ok (.float .f64 fc) w):=zh (fun w=>by rw [hfc];rfl);have HFC:=zh hfc;clear hfc;obtain ⟨r,hr⟩:=nm (conjV x);have HV:Hid (∀ w,Calls Tryz.prog 263 #[.complex .f64 fa fc] w fun e w'=>e=.returned (.agg #[.int .i64 r.1,.int .i64 r.2])/\Fr w.heap.size [] w w'):=(by rw [hr];exact HV0);rw [<- hr];clear s1 s2 hr HV0;go_enter Tryz.func261,Tryz.ntmps261;go_upto_region 1 with fail;generalize (w.alloc (.cells #[.int .i64 x.1,.int .i64 x.2] 48)).alloc (.cells #[.int .i64 0,.int .i64 0] 48)=wa at *;have x0:=BA.out.cell 0;have x1:=BA.out.cell 1;simp at x0 x1;go_wp2_with fail;refine (HN.out _).mono ?_;rintro e w1 ⟨rfl,f1⟩;have F1:=zh (F0.out.nx f1);have BC1:=zh (BC.out.fr f1 BC.out.lt (by simp));clear f1 x0 x1 F0 BC BA;have hneg:=HNEG.out;go_wp2_with fail;refine (HV.out _).mono ?_;rintro e w2 ⟨rfl,f2⟩;have F2:=zh (F1.out.nx f2);have BC2:=zh (BC1.out.fr f2 BC1.out.lt (by simp));have c0:=BC2.out.cell 0;have c1:=BC2.out.cell 1;have z0:=BC2.out.frozen 0;have z1:=BC2.out.frozen 1;simp at c0 c1;clear f2 F1 BC1;go_wp2_with fail;exact bodyPost_ret (results_cell_row rfl _ _ (w.heap.size+1) 48 #[.int .i64 r.1,.int .i64 r.2] (0,0) _ rfl ((BC2.out.set_ 0 _).set_ 1 _) Tryz.underlying48 rfl (by kernel_rfl)) rfl ⟨rfl,(F2.out.setCell (p:=⟨w.heap.size+1,0,none⟩) (.inl (by simp)) _).setCell (p:=⟨w.heap.size+1,1,none⟩) (.inl (by simp)) _⟩
theorem gzero_any (x:Int × Int) (w:World):Calls Tryz.prog 249 #[.agg #[.int .i64 x.1,.int .i64 x.2]] w fun e w'=>e=.returned (.bool (decide (cen x.1=0/\cen x.2=0)))/\Fr w.heap.size [] w w':=by
 have BA:=zh (Blk.new w 48 #[.int .i64 x.1,.int .i64 x.2]);have F0:=zh ((Fr.refl w.heap.size [] w).alloc (Nat.le_refl _) (.cells #[.int .i64 x.1,.int .i64 x.2] 48));have s1:=cen_small x.1;have s2:=cen_small x.2;have HN:=zh (number_any x.1 x.2);have o1:=isf_order (isf_int (n:=cen x.1) (by omega)) (isf_int (n:=0) (by decide));have o2:=isf_order (isf_int (n:=cen x.2) (by omega)) (isf_int (n:=0) (by decide));rw [float_zero] at o1 o2;obtain ⟨v,hv⟩:=nm (decide (cen x.1=0/\cen x.2=0))
 have heq:∀ w,(binOp .eql 391 (.complex .f64 (floatOfInt .f64 (cen x.1)) (floatOfInt .f64 (cen x.2))) (.complex .f64 0 0)).run Tryz.prog w=.ok (.bool v) w:=fun w=>by
  have e1:(compare (cen x.1) 0 == Ordering.eq)=decide (cen x.1=0):=by
   rw [Bool.eq_iff_iff];simp
  have e2:(compare (cen x.2) 0 == Ordering.eq)=decide (cen x.2=0):=by
   rw [Bool.eq_iff_iff];simp
  have hv2:v=(decide (cen x.1=0) && decide (cen x.2=0)):=(by rw [hv];simp);rw [hv2];have o1':FloatKind.f64.format.order (floatOfInt .f64 (cen x.1)) 0=some (compare (cen x.1) 0):=o1;have o2':FloatKind.f64.format.order (floatOfInt .f64 (cen x.2)) 0=some (compare (cen x.2) 0):=o2;simp [binOp,Op.complexOp,Op.Complex.cmp,Op.floatCmp,asBool,o1',o2',e1,e2]
 rw [<- hv];have HE:=zh heq;clear heq s1 s2 o1 o2 hv;have HN2:Hid (∀ w,Calls Tryz.prog 256 #[.agg #[.int .i64 x.1,.int .i64 x.2]] w fun e w'=>e=.returned (.complex .f64 (floatOfInt .f64 (cen x.1)) (floatOfInt .f64 (cen x.2)))/\Fr w.heap.size [] w w'):=HN;generalize floatOfInt .f64 (cen x.1)=fa at *;generalize floatOfInt .f64 (cen x.2)=fb at *;go_enter Tryz.func249,Tryz.ntmps249;go_upto_region 1 with fail;generalize w.alloc (.cells #[.int .i64 x.1,.int .i64 x.2] 48)=wa at *;have x0:=BA.out.cell 0;have x1:=BA.out.cell 1;simp at x0 x1;have heq:=HE.out;go_wp2_with fail;refine (HN2.out _).mono ?_;rintro e w1 ⟨rfl,f1⟩;have F1:=zh (F0.out.nx f1);clear f1 x0 x1;go_wp2_with fail;go_ret;exact ⟨rfl,F1.out⟩
def lessV (x y:Int × Int):Bool:=decide (cen x.1 < cen y.1)
theorem gless_any (x y:Int × Int) (w:World):Calls Tryz.prog 260 #[.agg #[.int .i64 x.1,.int .i64 x.2],.agg #[.int .i64 y.1,.int .i64 y.2]] w fun e w'=>e=.returned (.bool (lessV x y))/\Fr w.heap.size [] w w':=by
 have BA:=((Blk.new w 48 #[.int .i64 x.1,.int .i64 x.2]).alloc (.cells #[.int .i64 y.1,.int .i64 y.2] 48));have BB:=(Blk.new (w.alloc (.cells #[.int .i64 x.1,.int .i64 x.2] 48)) 48 #[.int .i64 y.1,.int .i64 y.2]);have f0:=(((Fr.refl w.heap.size [] w).alloc (Nat.le_refl _) (.cells #[.int .i64 x.1,.int .i64 x.2] 48)).alloc (by simp) (.cells #[.int .i64 y.1,.int .i64 y.2] 48));rw [World.size_alloc] at BB;have BA:=zh BA;have BB:=zh BB;have F0:=zh f0;clear f0;have s1:=cen_small x.1;have s3:=cen_small y.1;have o1:=isf_order (isf_int (n:=cen x.1) (by omega)) (isf_int (n:=cen y.1) (by omega));obtain ⟨v,hv⟩:=nm (lessV x y)
 have HLT : Hid ((FloatKind.f64.format.order (floatOfInt .f64 (cen x.1)) (floatOfInt .f64 (cen y.1)) == some Ordering.lt) = v) := zh (by
  have o1':FloatKind.f64.format.order (floatOfInt .f64 (cen x.1)) (floatOfInt .f64 (cen y.1))=some (compare (cen x.1) (cen y.1)):=o1
  rw [o1',hv,lessV,Bool.eq_iff_iff];simp [Int.compare_eq_lt])
 rw [<- hv];obtain ⟨F,hF⟩:∃ F:Int->Nat,∀ n,F n=floatOfInt .f64 (cen n):=⟨_,fun _=>rfl⟩;have HNM:=zh (fun (p q:Int) (w:World)=>(by rw [hF,hF];exact number_any p q w:Calls Tryz.prog 256 #[.agg #[.int .i64 p,.int .i64 q]] w fun e w'=>e=.returned (.complex .f64 (F p) (F q))/\Fr w.heap.size [] w w'));rw [<- hF,<- hF] at HLT;clear s1 s3 o1 hF hv;go_enter Tryz.func260,Tryz.ntmps260;go_upto_region 1 with fail;generalize ((w.alloc (.cells #[.int .i64 x.1,.int .i64 x.2] 48)).alloc (.cells #[.int .i64 y.1,.int .i64 y.2] 48))=wa at *;have INV:=zh ((Fr.refl wa.heap.size [] wa).drew);have SF:=zh (fun (W:World) (hf:Fr wa.heap.size [] wa W)=>(⟨(BA.out.fr hf BA.out.lt (by simp)).cell 0,(BA.out.fr hf BA.out.lt (by simp)).cell 1,(BB.out.fr hf BB.out.lt (by simp)).cell 0,(BB.out.fr hf BB.out.lt (by simp)).cell 1⟩:W.cell? ⟨w.heap.size,0,none⟩=some (.int .i64 x.1)/\W.cell? ⟨w.heap.size,1,none⟩=some (.int .i64 x.2)/\W.cell? ⟨w.heap.size+1,0,none⟩=some (.int .i64 y.1)/\W.cell? ⟨w.heap.size+1,1,none⟩=some (.int .i64 y.2)))
 go_region_held3 (fun W=>W.cell? ⟨w.heap.size,0,none⟩=some (.int .i64 x.1)/\W.cell? ⟨w.heap.size,1,none⟩=some (.int .i64 x.2)/\W.cell? ⟨w.heap.size+1,0,none⟩=some (.int .i64 y.1)/\W.cell? ⟨w.heap.size+1,1,none⟩=some (.int .i64 y.2)) (exact SF.out _ INV.out)
  ((go_at_call 256;refine (HNM.out _ _ _).mono ?_;rintro e w' ⟨rfl,hf⟩;have INV:=zh (INV.out.trans (hf.mono INV.out.size (by simp)));clear hf))
 all_goals
  have F3:=F0.out.nx INV.out;go_wp2_with fail;go_ret;exact ⟨by rw [<- HLT.out];rfl,F3⟩
structure MS where
 o:List (Int × Int)
 c:(Int × Int) × (Int × Int)
 st:Int
 x:Int × Int
 at_:Nat
 s:List (Int × Int)
def topV (s:List (Int × Int)):Int × Int:=s.getLastD (0,0)
def zeroV (v:Int × Int):Bool:=decide (cen v.1=0/\cen v.2=0)
def opV (o:Int) (x y:Int × Int):Int × Int:=if o=6 then sumV [x,y] else if o=7 then subV x y else if o=8 then prodV [x,y] else if lessV x y then (1,0) else (0,0)
def twoM (o:Int) (S:MS):MS:={ S with s:=S.s.dropLast.dropLast ++ [opV o (topV S.s.dropLast) (topV S.s)] }
def topM (o:Int) (S:MS):MS :=
 if o=9 then { S with s:=S.s.dropLast ++ [conjV (topV S.s)] }
 else if o=10 then { S with s:=S.s.dropLast ++ [turnV (topV S.s)] }
 else if o=11 then { S with s:=S.s.dropLast ++ [topV S.s] ++ [topV S.s] }
 else if o=12 then { S with s:=S.s.dropLast.dropLast ++ [topV S.s] ++ [topV S.s.dropLast] }
 else if o=14 then { S with s:=S.s.dropLast,o:=S.o ++ [topV S.s] }
 else { S with s:=S.s.dropLast }
def pushM (v:Int × Int) (S:MS):MS:={ S with s:=S.s ++ [v] }
def cellM (a:Int) (S:MS):Int × Int:=if a=0 then S.c.1 else S.c.2
def storeM (a:Int) (S:MS):MS:={ S with s:=S.s.dropLast,c:=if a=0 then (topV S.s,S.c.2) else (S.c.1,topV S.s) }
def jumpM (a:Int) (S:MS):MS:={ S with at_:=S.at_+a.toNat }
def jzM (a:Int) (S:MS):MS:=if zeroV (topV S.s) then jumpM a { S with s:=S.s.dropLast } else { S with s:=S.s.dropLast }
def actM (i:Int × Int) (S:MS):MS :=
 if i.1=1 then pushM (i.2,0) S
 else if i.1=2 then pushM (0,i.2) S
 else if i.1=3 then pushM S.x S
 else if i.1=4 then pushM (cellM i.2 S) S
 else if i.1=5 then storeM i.2 S
 else if i.1=15 then jzM i.2 S
 else if i.1=16 then jumpM i.2 S
 else if i.1=6 \/ i.1=7 \/ i.1=8 \/ i.1=17 then twoM i.1 S
 else topM i.1 S
def nextM (S:MS):MS:={ S with at_:=S.at_+1,st:=wrap64 (S.st+1) }
def runF (p:List (Int × Int)):Nat->MS->MS
 | 0,S=>S
 | f+1,S=>match p[S.at_]? with
  | none=>S
  | some i=>if i.1=0 then nextM S else runF p f (actM i (nextM S))
theorem runF_end {p:List (Int × Int)} {S:MS} (h:p.length<=S.at_):∀ f,runF p f S=S
 | 0=>rfl
 | f+1=>by unfold runF;rw [List.getElem?_eq_none h]
structure SafeD (l:List (Int × Int)) (D:Nat->Int):Prop where
 fit:l.length<=24 /\ ∀ i ∈ l,rightB i=true
 zero:l ≠ []->D 0=0
 step:∀ (k:Nat) (i:Int × Int),l[k]?=some i->D k ≠ -1->takesF i.1<=D k/\(i.1 ≠ 0->D k - takesF i.1+leavesF i.1<=8) /\ ∀ t ∈ nextsF l.length k i,t < l.length->D t=D k - takesF i.1+leavesF i.1
theorem come_mono {n:Nat} {s s':CS} {t:Nat} {d e:Int} (h:comeF n s t d e=some s') (x:Nat) (hx:s.D x ≠ -1):s'.D x=s.D x:=by
 unfold comeF at h
 split at h
 · cases h
 ·
  split at h
  · injection h with h;subst h;rfl
  ·
   split at h
   · cases h
   ·
    rename_i h3;injection h with h;subst h
    simp only [updC]
    split
    · rename_i e;subst e;apply Classical.byContradiction;intro c;exact h3 ⟨hx,fun e=>c e.symm⟩
    · rfl
theorem come_set {n:Nat} {s s':CS} {t:Nat} {d e:Int} (h:comeF n s t d e=some s'):d<=8/\(t ≠ n->s'.D t=d):=by
 unfold comeF at h
 split at h
 · cases h
 ·
  rename_i h1;refine ⟨by omega,fun ht => ?_⟩;rw [if_neg ht] at h
  split at h
  · cases h
  ·
   injection h with h;subst h
   simp [updC]
theorem come_other {n:Nat} {s s':CS} {t:Nat} {d e:Int} (h:comeF n s t d e=some s') (x:Nat) (hx:x ≠ t):s'.D x=s.D x:=by
 unfold comeF at h
 split at h
 · cases h
 ·
  split at h
  · injection h with h;subst h;rfl
  ·
   split at h
   · cases h
   ·
    injection h with h;subst h
    simp [updC,hx]
theorem comes_mono {n:Nat} {d e:Int}:∀ (l:List Nat) {s s':CS},comesF n d e l s=some s' -> ∀ x,s.D x ≠ -1->s'.D x=s.D x
 | [],s,s',h,x,hx=>by injection h with h;subst h;rfl
 | t :: l,s,s',h,x,hx=>by
  unfold comesF at h
  split at h
  · cases h
  · rename_i s1 h1;have:=come_mono h1 x hx;rw [comes_mono l h x (by rw [this];exact hx),this]
theorem comes_other {n:Nat} {d e:Int}:∀ (l:List Nat) {s s':CS},comesF n d e l s=some s' -> ∀ x,x ∉ l->s'.D x=s.D x
 | [],s,s',h,x,hx=>by injection h with h;subst h;rfl
 | t :: l,s,s',h,x,hx=>by
  unfold comesF at h
  split at h
  · cases h
  · rename_i s1 h1;rw [comes_other l h x (fun c=>hx (by simp [c])),come_other h1 x (fun c=>hx (by simp [c]))]
theorem comes_set {n:Nat} {d e:Int} (hd:0<=d):∀ (l:List Nat) {s s':CS},comesF n d e l s=some s'->(l ≠ []->d<=8) /\ ∀ t ∈ l,t ≠ n->s'.D t=d
 | [],s,s',h=>⟨fun h=>absurd rfl h,fun t ht=>by cases ht⟩
 | t :: l,s,s',h=>by
  unfold comesF at h
  split at h
  · cases h
  ·
   rename_i s1 h1;obtain ⟨a,b⟩:=come_set h1;obtain ⟨_,c⟩:=comes_set hd l h;refine ⟨fun _=>a,fun u hu hn => ?_⟩
   rcases List.mem_cons.1 hu with e | e
   · subst e;rw [comes_mono l h u (by rw [b hn];omega),b hn]
   · exact c u e hn
theorem nextsM_gt {n k:Nat} (hk:k < n) {i:Int × Int} (hi:i.1=15 \/ i.1=16->1<=i.2):∀ t ∈ nextsF n k i,k < t:=by
 intro t ht;unfold nextsF farF at ht
 split at ht
 · cases ht
 ·
  split at ht
  · rename_i h;simp at ht;omega
  ·
   split at ht
   · rename_i h;simp at ht;omega
   · simp at ht;omega
theorem check_law {n:Nat} {p:Nat->Int × Int} (hp:∀ k,k < n->((p k).1=15 \/ (p k).1=16->1<=(p k).2)):∀ (m:Nat) {s:CS},m<=n->checkF n p m=some s->(0 < n->s.D 0=0)/\(∀ k,k < m->s.D k ≠ -1->takesF (p k).1<=s.D k/\((p k).1 ≠ 0->s.D k - takesF (p k).1+leavesF (p k).1<=8) /\ ∀ t ∈ nextsF n k (p k),t < n->s.D t=s.D k - takesF (p k).1+leavesF (p k).1)
 | 0,s,_,h=>by
  injection h with h;subst h
  refine ⟨fun hn => ?_,fun k hk=>by omega⟩;simp only [startF];rw [if_neg (by omega)];simp
 | m+1,s,hm,h=>by
  unfold checkF at h
  split at h
  · cases h
  ·
   rename_i s1 h1;obtain ⟨h0,hl⟩:=check_law hp m (by omega) h1
   split at h
   ·
    rename_i hd;injection h with h;subst h
    refine ⟨h0,fun k hk hne => ?_⟩
    rcases Nat.lt_or_ge k m with c | c
    · exact hl k c hne
    ·
     have:k=m:=by omega
     subst this;exact absurd hd hne
   ·
    rename_i hd;unfold stepF at h
    split at h
    · cases h
    ·
     rename_i ht;have hlr:=leavesF_range (p m).1;have hU:(useF s1 (p m)).D=s1.D:=use_D s1 (p m);have hmono:∀ x,s1.D x ≠ -1->s.D x=s1.D x:=fun x hx=>by rw [comes_mono _ h x (by rw [hU];exact hx),hU]
     have hoth:∀ x,x<=m->s.D x=s1.D x:=fun x hx=>by
      rw [comes_other _ h x (fun c=>by have:=nextsM_gt (by omega) (hp m (by omega)) x c;omega),hU]
     obtain ⟨hle,hset⟩:=comes_set (by omega) _ h;refine ⟨fun hn=>by rw [hmono 0 (by rw [h0 hn];decide),h0 hn],fun k hk hne => ?_⟩;rw [hoth k (by omega)] at hne ⊢
     rcases Nat.lt_or_ge k m with c | c
     · obtain ⟨a,b,d⟩:=hl k c hne;refine ⟨a,b,fun t ht2 htn => ?_⟩;have e:=d t ht2 htn;have:=leavesF_range (p k).1;rw [hmono t (by rw [e];omega),e]
     ·
      have:k=m:=by omega
      subst this;refine ⟨by omega,fun h0'=>hle ?_,fun t ht2 htn=>hset t ht2 (by omega)⟩;unfold nextsF;rw [if_neg h0']
      split
      · simp
      · split <;> simp
theorem right_jump {i:Int × Int} (h:rightB i=true):(0<=i.1/\i.1 < 18)/\((i.1=15 \/ i.1=16)->1<=i.2/\i.2<=24)/\((i.1=4 \/ i.1=5)->0<=i.2/\i.2<=1)/\((i.1=1 \/ i.1=2) -> -524288<=i.2/\i.2 < 524288):=by
 unfold rightB boF boT at h;simp at h;obtain ⟨h1,h2,h3,h4⟩:=h;refine ⟨⟨h1,h2⟩,fun c => ?_,fun c => ?_,fun c => ?_⟩
 · rw [if_neg (by omega),if_neg (by omega),if_pos c] at h3 h4;omega
 · rw [if_neg (by omega),if_pos c] at h3 h4;omega
 · rw [if_pos c] at h3 h4;omega
theorem safe_of {l:List (Int × Int)} {s:CS} (h:chkL l=some s):SafeD l s.D:=by
 obtain ⟨hf,hc⟩:=chkL_some h;obtain ⟨h24,hr⟩:=fitsB_iff.1 hf
 have hp:∀ k,k < l.length->((pF l k).1=15 \/ (pF l k).1=16->1<=(pF l k).2):=fun k hk c=>by
  have hx:l[k]?=some l[k]:=List.getElem?_eq_getElem hk;have:=pF_of hx;rw [this] at c ⊢;exact ((right_jump (hr _ (List.getElem_mem hk))).2.1 c).1
 obtain ⟨h0,hl⟩:=check_law hp l.length (Nat.le_refl _) hc;refine ⟨⟨h24,hr⟩,fun hne=>h0 (List.length_pos_iff.2 hne),fun k i hi hd => ?_⟩;have hk:k < l.length:=(List.getElem?_eq_some_iff.1 hi).1;have:=hl k hk hd;rw [pF_of hi] at this;exact this
def vOk (v:Int × Int):Prop:=valB v.1 v.2=true
instance (v:Int × Int):Decidable (vOk v):=inferInstanceAs (Decidable (_=true))
theorem vOk_iff (v:Int × Int):vOk v ↔ (-524288<=v.1/\v.1 < 524288 /\ -524288<=v.2/\v.2 < 524288):=by unfold vOk valB;simp
theorem vOk_cen (a b:Int):vOk (cen a,cen b):=by rw [vOk_iff];have:=cen_small a;have:=cen_small b;simp only;omega
structure MInv (l:List (Int × Int)) (D:Nat->Int) (S:MS):Prop where
 dep:S.at_ < l.length->D S.at_=S.s.length
 small:S.s.length<=8
 at_:S.at_<=49
 x:vOk S.x
 c:vOk S.c.1/\vOk S.c.2
 s:∀ v ∈ S.s,vOk v
 o:∀ v ∈ S.o,vOk v
theorem topV_mem {s:List (Int × Int)} (h:s ≠ []):topV s ∈ s:=by
 unfold topV;rw [List.getLastD_eq_getLast?,List.getLast?_eq_some_getLast h];exact List.getLast_mem h
theorem vOk_top {s:List (Int × Int)} (h:∀ v ∈ s,vOk v):vOk (topV s):=by
 by_cases e:s=[]
 · subst e;decide
 · exact h _ (topV_mem e)
theorem drop_ok {s:List (Int × Int)} (h:∀ v ∈ s,vOk v):∀ v ∈ s.dropLast,vOk v:=fun v hv=>h v (List.dropLast_subset s hv)
theorem snoc_ok {s:List (Int × Int)} {x:Int × Int} (h:∀ v ∈ s,vOk v) (hx:vOk x):∀ v ∈ s ++ [x],vOk v:=by
 intro v hv
 rcases List.mem_append.1 hv with c | c
 · exact h v c
 · rw [List.mem_singleton.1 c];exact hx
theorem sum_ok (l:List (Int × Int)):∀ (a:Int × Int),vOk a->vOk (l.foldl addV a):=by
 induction l with
 | nil=>exact fun a h=>h
 | cons x t ih=>exact fun a _=>ih _ (vOk_cen _ _)
theorem prod_ok (l:List (Int × Int)):∀ (a:Int × Int),vOk a->vOk (l.foldl mulV a):=by
 induction l with
 | nil=>exact fun a h=>h
 | cons x t ih=>exact fun a _=>ih _ (vOk_cen _ _)
theorem op_ok (o:Int) (x y:Int × Int):vOk (opV o x y):=by
 unfold opV
 split
 · exact sum_ok _ _ (by decide)
 ·
  split
  · exact vOk_cen _ _
  ·
   split
   · exact prod_ok _ _ (by decide)
   · split <;> decide
theorem takes_of (o:Int):takesF o=(if o=5 \/ o=13 \/ o=14 \/ o=15 \/ o=9 \/ o=10 \/ o=11 then 1 else if o=6 \/ o=7 \/ o=8 \/ o=17 \/ o=12 then 2 else 0):=rfl
theorem leaves_of (o:Int):leavesF o=(if o=11 \/ o=12 then 2 else if (1<=o/\o<=4) \/ (6<=o/\o<=10) \/ o=17 then 1 else 0):=rfl
theorem act_len {i:Int × Int} {S:MS} (h0:i.1 ≠ 0) (hr:0<=i.1/\i.1 < 18) (ht:takesF i.1<=S.s.length):((actM i S).s.length:Int)=S.s.length - takesF i.1+leavesF i.1:=by
 have hi:i.1=1 \/ i.1=2 \/ i.1=3 \/ i.1=4 \/ i.1=5 \/ i.1=6 \/ i.1=7 \/ i.1=8 \/ i.1=9 \/ i.1=10 \/ i.1=11 \/ i.1=12 \/ i.1=13 \/ i.1=14 \/ i.1=15 \/ i.1=16 \/ i.1=17:=(by omega)
 rcases hi with e | e | e | e | e | e | e | e | e | e | e | e | e | e | e | e | e <;> simp [takes_of,leaves_of,actM,e,pushM,storeM,jumpM,jzM,twoM,topM] at ht ⊢ <;> (try split) <;> (try simp) <;> omega
theorem top_cases (P:MS->Prop) {o:Int} {S:MS} (h9:P { S with s:=S.s.dropLast ++ [conjV (topV S.s)] }) (h10:P { S with s:=S.s.dropLast ++ [turnV (topV S.s)] }) (h11:P { S with s:=S.s.dropLast ++ [topV S.s] ++ [topV S.s] }) (h12:P { S with s:=S.s.dropLast.dropLast ++ [topV S.s] ++ [topV S.s.dropLast] }) (h14:P { S with s:=S.s.dropLast,o:=S.o ++ [topV S.s] }) (h:P { S with s:=S.s.dropLast }):P (topM o S):=by
 unfold topM
 by_cases c9:o=9
 · rw [if_pos c9];exact h9
 ·
  rw [if_neg c9]
  by_cases c10:o=10
  · rw [if_pos c10];exact h10
  ·
   rw [if_neg c10]
   by_cases c11:o=11
   · rw [if_pos c11];exact h11
   ·
    rw [if_neg c11]
    by_cases c12:o=12
    · rw [if_pos c12];exact h12
    ·
     rw [if_neg c12]
     by_cases c14:o=14
     · rw [if_pos c14];exact h14
     · rw [if_neg c14];exact h
theorem act_cases (P:MS->Prop) {i:Int × Int} {S:MS} (h1:i.1=1->P (pushM (i.2,0) S)) (h2:i.1=2->P (pushM (0,i.2) S)) (h3:P (pushM S.x S)) (h4:P (pushM (cellM i.2 S) S)) (h5:P (storeM i.2 S)) (h15:i.1=15->P (jzM i.2 S)) (h16:i.1=16->P (jumpM i.2 S)) (h6:P (twoM i.1 S)) (h:P (topM i.1 S)):P (actM i S):=by
 unfold actM
 by_cases c1:i.1=1
 · rw [if_pos c1];exact h1 c1
 rw [if_neg c1]
 by_cases c2:i.1=2
 · rw [if_pos c2];exact h2 c2
 rw [if_neg c2]
 by_cases c3:i.1=3
 · rw [if_pos c3];exact h3
 rw [if_neg c3]
 by_cases c4:i.1=4
 · rw [if_pos c4];exact h4
 rw [if_neg c4]
 by_cases c5:i.1=5
 · rw [if_pos c5];exact h5
 rw [if_neg c5]
 by_cases c15:i.1=15
 · rw [if_pos c15];exact h15 c15
 rw [if_neg c15]
 by_cases c16:i.1=16
 · rw [if_pos c16];exact h16 c16
 rw [if_neg c16]
 split
 · exact h6
 · exact h
theorem act_at {i:Int × Int} {S:MS}:(actM i S).at_=S.at_ \/ ((i.1=15 \/ i.1=16)/\(actM i S).at_=S.at_+i.2.toNat):=by
 refine act_cases (fun X=>X.at_=S.at_ \/ ((i.1=15 \/ i.1=16)/\X.at_=S.at_+i.2.toNat)) (fun _=>.inl rfl) (fun _=>.inl rfl) (.inl rfl) (.inl rfl) (.inl rfl) (fun c => ?_) (fun c=>.inr ⟨.inr c,rfl⟩) (.inl rfl) ?_
 ·
  unfold jzM
  split
  · exact .inr ⟨.inl c,rfl⟩
  · exact .inl rfl
 · exact top_cases (fun X=>X.at_=S.at_ \/ ((i.1=15 \/ i.1=16)/\X.at_=S.at_+i.2.toNat)) (.inl rfl) (.inl rfl) (.inl rfl) (.inl rfl) (.inl rfl) (.inl rfl)
theorem act_x {i:Int × Int} {S:MS}:(actM i S).x=S.x:=by
 refine act_cases (fun X=>X.x=S.x) (fun _=>rfl) (fun _=>rfl) rfl rfl rfl (fun c => ?_) (fun c=>rfl) rfl ?_
 ·
  unfold jzM
  split <;> rfl
 · exact top_cases (fun X=>X.x=S.x) rfl rfl rfl rfl rfl rfl
theorem act_ok {i:Int × Int} {S:MS} (hr:rightB i=true) (hx:vOk S.x) (hc:vOk S.c.1/\vOk S.c.2) (hs:∀ v ∈ S.s,vOk v) (ho:∀ v ∈ S.o,vOk v):(vOk (actM i S).c.1/\vOk (actM i S).c.2)/\(∀ v ∈ (actM i S).s,vOk v)/\(∀ v ∈ (actM i S).o,vOk v):=by
 have hd:=drop_ok hs;have hdd:=drop_ok hd;have ht:=vOk_top hs;have htd:=vOk_top hd;have hpush:=(right_jump hr).2.2.2;refine act_cases (fun X=>(vOk X.c.1/\vOk X.c.2)/\(∀ v ∈ X.s,vOk v)/\(∀ v ∈ X.o,vOk v)) (fun c=>⟨hc,snoc_ok hs ?_,ho⟩) (fun c=>⟨hc,snoc_ok hs ?_,ho⟩) ⟨hc,snoc_ok hs hx,ho⟩ ⟨hc,snoc_ok hs ?_,ho⟩ ⟨?_,hd,ho⟩ (fun c => ?_) (fun c=>⟨hc,hs,ho⟩) ⟨hc,snoc_ok hdd (op_ok _ _ _),ho⟩ ?_
 · have:=hpush (.inl c);rw [vOk_iff];simp only;omega
 · have:=hpush (.inr c);rw [vOk_iff];simp only;omega
 ·
  unfold cellM;split
  · exact hc.1
  · exact hc.2
 ·
  unfold storeM
  by_cases e:i.2=0
  · simp only [if_pos e];exact ⟨ht,hc.2⟩
  · simp only [if_neg e];exact ⟨hc.1,ht⟩
 ·
  unfold jzM
  split
  · exact ⟨hc,hd,ho⟩
  · exact ⟨hc,hd,ho⟩
 · exact top_cases (fun X=>(vOk X.c.1/\vOk X.c.2)/\(∀ v ∈ X.s,vOk v)/\(∀ v ∈ X.o,vOk v)) ⟨hc,snoc_ok hd (vOk_cen _ _),ho⟩ ⟨hc,snoc_ok hd (vOk_cen _ _),ho⟩ ⟨hc,snoc_ok (snoc_ok hd ht) ht,ho⟩ ⟨hc,snoc_ok (snoc_ok hdd ht) htd,ho⟩ ⟨hc,hd,snoc_ok ho ht⟩ ⟨hc,hd,ho⟩
theorem MInv.act {l:List (Int × Int)} {D:Nat->Int} {S:MS} (I:MInv l D S) (P:SafeD l D) {i:Int × Int} (hi:l[S.at_]?=some i) (h0:i.1 ≠ 0):MInv l D (actM i (nextM S))/\takesF i.1<=(S.s.length:Int):=by
 have hk:S.at_ < l.length:=(List.getElem?_eq_some_iff.1 hi).1;have h24:=P.fit.1;have hr:=P.fit.2 i (List.mem_of_getElem? hi);have hd:=I.dep hk;obtain ⟨h1,h2,h3⟩:=P.step S.at_ i hi (by rw [hd];omega);rw [hd] at h1 h2 h3;obtain ⟨j1,j2,j3,j4⟩:=right_jump hr;have hlen:=act_len (S:=nextM S) h0 j1 h1;have hs1:(nextM S).s=S.s:=rfl;rw [hs1] at hlen;obtain ⟨k1,k2,k3⟩:=act_ok (S:=nextM S) hr I.x I.c I.s I.o;refine ⟨⟨fun hlt => ?_,?_,?_,by rw [act_x];exact I.x,k1,k2,k3⟩,h1⟩
 ·
  rw [hlen];refine h3 _ ?_ hlt
  rcases act_at (i:=i) (S:=nextM S) with e | ⟨c,e⟩
  ·
   rw [e]
   by_cases c16:i.1=16
   ·
    exfalso
    have:(actM i (nextM S)).at_=S.at_+1+i.2.toNat:=(by simp [actM,c16,jumpM,nextM]);rw [e] at this;have h5:(nextM S).at_=S.at_+1:=rfl;have:=j2 (.inr c16);omega
   ·
    unfold nextsF;rw [if_neg h0,if_neg c16]
    split <;> simp [nextM]
  ·
   have h5:(nextM S).at_=S.at_+1:=rfl;rw [e,h5] at hlt ⊢;have hf:S.at_+1+i.2.toNat=farF l.length S.at_ i.2:=(by unfold farF;omega);rw [hf];unfold nextsF;rw [if_neg h0]
   split
   · simp
   · rw [if_pos (by omega)];simp
 · have:=h2 h0;omega
 ·
  have h5:(nextM S).at_=S.at_+1:=rfl
  rcases act_at (i:=i) (S:=nextM S) with e | ⟨c,e⟩
  · omega
  · have:=j2 c;omega
def mcA (vo:Value) (S:MS) (vp vs:Value):Array Value:=#[vo,.int .i64 S.c.1.1,.int .i64 S.c.1.2,.int .i64 S.c.2.1,.int .i64 S.c.2.2,.int .i64 S.st,vp,.int .i64 S.x.1,.int .i64 S.x.2,.int .i64 (S.at_:Int),vs]
def MC (b0 g:Nat) (vp:Value) (S:MS) (L:List Nat) (w:World):Prop :=
 ∃ (Ao:Option Addr) (no co:Nat) (As:Option Addr) (ns cs:Nat),no=S.o.length/\ns=S.s.length/\Blk w g 374 (mcA (.slice Ao no co) S vp (.slice As ns cs))/\w.ownsRow b0 48 2 (.slice Ao no co) no (cellsV S.o)/\w.ownsRow b0 48 2 (.slice As ns cs) ns (cellsV S.s)/\(∀ q,(Value.slice Ao no co).ownBlock=some q->(Value.slice As ns cs).ownBlock ≠ some q)/\L=g :: ((Value.slice Ao no co).ownBlock.toList ++ (Value.slice As ns cs).ownBlock.toList)
structure Mv (L:List Nat) (w:World) (L':List Nat) (w':World):Prop where
 fr:Fr w.heap.size L w w'
 of:∀ q ∈ L',q ∈ L \/ w.heap.size<=q
theorem Mv.refl (L:List Nat) (w:World):Mv L w L w:=⟨Fr.refl _ _ _,fun q hq=>.inl hq⟩
theorem Mv.trans {L L1 L2:List Nat} {w w1 w2:World} (h:Mv L w L1 w1) (k:Mv L1 w1 L2 w2):Mv L w L2 w2 :=
 ⟨h.fr.trans (k.fr.mono h.fr.size (fun q hq hlt => (h.of q hq).elim id (fun c => by omega))), fun q hq => by
  rcases k.of q hq with c | c
  · exact h.of q c
  · exact .inr (Nat.le_trans h.fr.size c)⟩
theorem Mv.fr_ {L L1:List Nat} {w w1 w2:World} (h:Mv L w L1 w1) (k:Fr w1.heap.size [] w1 w2):Mv L w L1 w2:=h.trans ⟨k.mono (Nat.le_refl _) (by simp),fun q hq=>.inl hq⟩
theorem MC.mv {b0 g:Nat} {vp:Value} {S:MS} {L:List Nat} {w w':World} (h:MC b0 g vp S L w) (hf:Fr w.heap.size [] w w'):MC b0 g vp S L w':=by
 obtain ⟨Ao,no,co,As,ns,cs,h1,h2,h3,h4,h5,h6,h7⟩:=h;exact ⟨Ao,no,co,As,ns,cs,h1,h2,h3.fr hf h3.lt (by simp),ownsRow_fr h4 hf (fun q hq=>⟨(h4.lt q hq).2,by simp⟩),ownsRow_fr h5 hf (fun q hq=>⟨(h5.lt q hq).2,by simp⟩),h6,h7⟩
theorem MC.lt {b0 g:Nat} {vp:Value} {S:MS} {L:List Nat} {w:World} (h:MC b0 g vp S L w):∀ q ∈ L,q < w.heap.size:=by
 obtain ⟨Ao,no,co,As,ns,cs,h1,h2,h3,h4,h5,h6,rfl⟩:=h;intro q hq;simp only [List.mem_cons,List.mem_append,Option.mem_toList] at hq
 rcases hq with e | e | e
 · subst e;exact h3.lt
 · exact (h4.lt q e).2
 · exact (h5.lt q e).2
theorem own_far {w:World} {g t:Nat} {cs:Array Value} (hb:Blk w g t cs) {base e size n:Nat} {v:Value} {xs:List Value} (h:w.ownsRow base e size v n xs) (hne:e ≠ t) (i:Nat) (u:Value):(w.setCell ⟨g,i,none⟩ u).ownsRow base e size v n xs:=ownsRow_setCell_other h (Ne.symm (hb.ne_own h hne)) u
theorem push_any (b0 g:Nat) (vp:Value) (S:MS) (L:List Nat) (v:Int × Int) (w:World) (hM:MC b0 g vp S L w) (hb:b0<=w.heap.size) (hn:S.s.length<=100000) :
  Calls Tryz.prog 247 #[.pointer (some ⟨g,0,none⟩),.agg #[.int .i64 v.1,.int .i64 v.2]] w fun e w'=>e=.returned (.tuple #[])/\∃ L',MC b0 g vp (pushM v S) L' w'/\Mv L w L' w':=by
 obtain ⟨Ao,no,co,As,ns,cs,ho,hs,hB,hO,hS,hoff,hL⟩:=hM;have fa:=(Fr.refl w.heap.size [] w).alloc (Nat.le_refl _) (.cells #[.int .i64 v.1,.int .i64 v.2] 48);have BR:=zh (Blk.new w 48 #[.int .i64 v.1,.int .i64 v.2]);have B1:=zh (hB.fr fa hB.lt (by simp));have O1:=zh (ownsRow_fr hO fa (fun q hq=>⟨(hO.lt q hq).2,by simp⟩));have S1:=zh (ownsRow_fr hS fa (fun q hq=>⟨(hS.lt q hq).2,by simp⟩));have HOL:=zh (fun q (hq:(Value.slice Ao no co).ownBlock=some q)=>(hO.lt q hq).2);have HSL:=zh (fun q (hq:(Value.slice As ns cs).ownBlock=some q)=>(hS.lt q hq).2);have HLg:g ∈ L:=(by rw [hL];simp);have HLo:=zh (fun q (hq:(Value.slice Ao no co).ownBlock=some q)=>(by rw [hL,hq];simp:q ∈ L));have HLs:=zh (fun q (hq:(Value.slice As ns cs).ownBlock=some q)=>(by rw [hL,hq];simp:q ∈ L));have HOFF:=zh hoff;have HNO:=zh ho;have HNS:=zh hs;have hgw:=hB.lt;have F1:=zh (fa.mono (B':=w.heap.size) (L':=L) (Nat.le_refl _) (by simp));have hsz1:w.heap.size < (w.alloc (.cells #[.int .i64 v.1,.int .i64 v.2] 48)).heap.size:=(by simp);have hnsm:ns<=100000:=(by omega);clear fa hB hO hS hoff hL hn ho hs;go_enter Tryz.func247,Tryz.ntmps247;go_upto_region 1 with fail;generalize w.alloc (.cells #[.int .i64 v.1,.int .i64 v.2] 48)=w3 at *;have ho:=S1.out;have hcr:=B1.out.cell 10;have hfz:=B1.out.frozen 10;have hoff:(Value.slice As ns cs).ownBlock ≠ some g:=Ne.symm (B1.out.ne_own ho (by decide));have r0:=BR.out.cell 0;have r1:=BR.out.cell 1;simp [mcA] at r0 r1 hcr;have hcrA:(w3.alloc (.cells #[.int .i64 v.1,.int .i64 v.2] 48)).cell? ⟨g,10,none⟩=some (.slice As ns cs):=(B1.out.alloc _).cell 10;obtain ⟨i0,hi0,hz0,hz1,hz2⟩:=info_parts (show (Tryz.prog.info? 48).map (fun i=>(i.zero,i.size,i.bytes))=some (some (.agg #[.int .i64 0,.int .i64 0]),2,16) by kernel_rfl)
 go_region_law
  ((refine step_append_lies _ (by rfl) _ _ _ (by rfl) b0 48 i0 _ 2 16 Tryz.underlying254 hi0 hz0 hz1 hz2 rfl (by omega) (.slice As ns cs) ns _ (by rfl) ((ho.alloc _).drew)
      ⟨w3.heap.size,0,none⟩ 1 1 (valC v) (by rfl) (by rfl) (World.news_of_block (cs:=(valC v).toArray) (t:=48) (fr:=(0,0)) (heap_alloc_new w3 _)) (by simp [valC,Value.oneCell'])
      (by omega) (by unfold maxLen;omega) (by omega) (by simp;omega) (w3.heap.size+1) (by simp) ?_;intro gg cap w6 hown1 hgrow hat hlt6;have hfz6:w6.frozen? ⟨g,10,none⟩=false:=(hgrow.frozen_far ⟨g,10,none⟩ (by simp;omega) (Ne.symm hoff)).trans ((B1.out.alloc _).frozen 10);have hcr6:w6.cell? ⟨g,10,none⟩=some (.slice As ns cs):=(hgrow.cell_far ⟨g,10,none⟩ (by simp;omega) (Ne.symm hoff)).trans (((B1.out.alloc _).cell 10))))
 all_goals
  go_wp2_with fail;have hba:=(B1.out.alloc (.cells #[.int .i64 v.1,.int .i64 v.2] 48)).drew;have hOa:=((O1.out.alloc (.cells #[.int .i64 v.1,.int .i64 v.2] 48)).drew);have hb6:Blk w6 g 374 (mcA (.slice Ao no co) S vp (.slice As ns cs)):=(hgrow.block g hba.lt (Ne.symm hoff)).trans hba;have fg:=((Fr.refl w3.heap.size (Value.slice As ns cs).ownBlock.toList w3).alloc (Nat.le_refl _) (.cells #[.int .i64 v.1,.int .i64 v.2] 48)).drew.grown hgrow (by simp) (fun q hq=>.inr (by simp [hq]));have hO6:=ownsRow_fr O1.out fg (fun q hq=>⟨(O1.out.lt q hq).2,by simpa using HOFF.out q hq⟩);have hog:(Value.slice Ao no co).ownBlock ≠ some g:=Ne.symm (B1.out.ne_own O1.out (by decide))
  have hgg:(Value.slice As ns cs).ownBlock=some gg \/ w.heap.size<=gg:=by
   rcases hat with hat | hat
   · exact .inl hat
   · exact .inr (by omega)
  go_end0;refine ⟨rfl,g :: ((Value.slice Ao no co).ownBlock.toList ++ [gg]),⟨Ao,no,co,some ⟨gg,0,none⟩,ns+1,cap,HNO.out,by simp [pushM,HNS.out],?_,?_,?_,?_,rfl⟩,⟨?_,?_⟩⟩
  · exact hb6.set_ 10 (.slice (some ⟨gg,0,none⟩) (ns+1) cap)
  · exact ownsRow_setCell_other hO6 (by simpa using hog) _
  · have h5:(w6.setCell ⟨g,10,none⟩ (.slice (some ⟨gg,0,none⟩) (ns+1) cap)).ownsRow b0 48 2 (.slice (some ⟨gg,0,none⟩) (ns+1) cap) (ns+1) (cellsV S.s ++ valC v):=ownsRow_setCell_other hown1 (Ne.symm (hb6.ne_own hown1 (by decide))) _;simp only [pushM,cellsV_app];simpa [cellsV] using h5
  ·
   intro q hq he;have e:gg=q:=(by simpa [Value.ownBlock] using he);subst e
   rcases hgg with c | c
   · exact HOFF.out _ hq c
   · exact absurd (HOL.out _ hq) (by omega)
  · exact ((((F1.out.alloc (by omega) _).drew).grown hgrow (by simp;omega) (fun q hq=>.inr (HLs.out q hq))).setCell (p:=⟨g,10,none⟩) (.inr HLg) _)
  ·
   intro q hq;simp only [List.mem_cons,List.mem_append,Option.mem_toList] at hq
   rcases hq with e | e | e
   · subst e;exact .inl HLg
   · exact .inl (HLo.out q e)
   ·
    rcases e with e | e
    ·
     subst e
     rcases hgg with c | c
     · exact .inl (HLs.out _ c)
     · exact .inr c
    · cases e
theorem own_cap {w:World} {base e size n c:Nat} {A:Option Addr} {xs:List Value} (h:w.ownsRow base e size (.slice A n c) n xs) (hn:0 < n):n<=c:=by
 obtain ⟨hl,hc⟩:=h
 rcases hc with ⟨h0,h1⟩ | ⟨g',cap,cur,hv,h2,h3,h4,h5⟩
 · omega
 ·
  injection hv with hv1 hv2 hv3
  subst hv3;exact h4
theorem own_shape {w:World} {base e size n c:Nat} {A:Option Addr} {xs:List Value} (h:w.ownsRow base e size (.slice A n c) n xs) (hn:0 < n):∃ gs,A=some ⟨gs,0,none⟩:=by
 obtain ⟨hl,hc⟩:=h
 rcases hc with ⟨h0,h1⟩ | ⟨g',cap,cur,hv,hrest⟩
 ·
  injection h0 with _ e _
  omega
 ·
  injection hv with hv1 hv2 hv3
  exact ⟨g',hv1⟩
theorem top_get {s:List (Int × Int)} (h:0 < s.length):s[s.length - 1]?=some (topV s):=by
 unfold topV;rw [List.getLastD_eq_getLast?,<- List.getLast?_eq_getElem?]
 cases h2:s.getLast? with
 | none=>rw [List.getLast?_eq_none_iff] at h2;subst h2;simp at h
 | some v=>rfl
theorem cellsV_drop (s:List (Int × Int)):cellsV s.dropLast=(cellsV s).take ((s.length - 1) * 2):=by
 rcases Nat.eq_zero_or_pos s.length with h | h
 · rw [List.length_eq_zero_iff] at h;subst h;rfl
 ·
  have e:s=s.dropLast ++ [topV s]:=by
   have hne:s ≠ []:=List.length_pos_iff.1 h
   conv=>lhs;rw [<- List.dropLast_concat_getLast hne]
   unfold topV;rw [List.getLastD_eq_getLast?,List.getLast?_eq_some_getLast hne];rfl
  conv=>rhs;rw [e,cellsV_app]
  rw [List.take_append_of_le_length (by rw [cellsV_length];simp),List.take_of_length_le (by rw [cellsV_length];simp)]
def popM (S:MS):MS:={ S with s:=S.s.dropLast }
theorem pop_any (b0 g:Nat) (vp:Value) (S:MS) (L:List Nat) (w:World) (hM:MC b0 g vp S L w) (hb:b0<=w.heap.size) (h0:0 < S.s.length) (hn:S.s.length<=100000) :
  Calls Tryz.prog 248 #[.pointer (some ⟨g,0,none⟩)] w fun e w'=>e=.returned (.agg #[.int .i64 (topV S.s).1,.int .i64 (topV S.s).2])/\∃ L',MC b0 g vp (popM S) L' w'/\Mv L w L' w':=by
 obtain ⟨Ao,no,co,As,ns,cs,ho,hs,hB,hO,hS,hoff,hL⟩:=hM;obtain ⟨gs,rfl⟩:=own_shape hS (by omega);have hgs:=hS.lt gs rfl;have hcap:=own_cap hS (by omega);obtain ⟨v,hv⟩:=nm (topV S.s);have hg:=top_get h0;rw [<- hv,<- hs] at hg;obtain ⟨hc0,hc1⟩:=cellsV_get hg;have hz:w.frozen? ⟨g,10,none⟩=false:=hB.frozen 10;rw [<- hv];have fa:=(Fr.refl w.heap.size [] w).alloc (Nat.le_refl _) (.cells #[.int .i64 0,.int .i64 0] 48);have BR:=zh (Blk.new w 48 #[.int .i64 0,.int .i64 0]);have B1:=zh (hB.fr fa hB.lt (by simp));have O1:=zh (ownsRow_fr hO fa (fun q hq=>⟨(hO.lt q hq).2,by simp⟩));have S1:=zh (ownsRow_fr hS fa (fun q hq=>⟨(hS.lt q hq).2,by simp⟩));have HLg:g ∈ L:=(by rw [hL];simp);have HL:=zh hL;have HOFF:=zh hoff;have HNO:=zh ho;have HNS:=zh hs;have HOW:=zh (fun q (hq:(Value.slice Ao no co).ownBlock=some q)=>(hO.lt q hq).2);have hgw:=hB.lt;have F1:=zh (fa.mono (B':=w.heap.size) (L':=L) (Nat.le_refl _) (by simp));have hns0:0 < ns:=(by omega);have hnsm:ns<=100000:=(by omega);have HC0:=zh hc0;have HC1:=zh hc1;clear fa hB hO hS hoff hL hn ho hs hg hc0 hc1 hz hv h0;go_enter Tryz.func248,Tryz.ntmps248;go_upto_region 1 with fail;generalize w.alloc (.cells #[.int .i64 0,.int .i64 0] 48)=w1 at *;have hcr:=B1.out.cell 10;have hfz:=B1.out.frozen 10;simp [mcA] at hcr;have hsub:wrap64 ((ns:Int) - 1)=((ns - 1:Nat):Int):=(by unfold wrap64;omega);have c0:=(S1.out.cellAt ((ns - 1) * 2) (by omega)).trans HC0.out;have c1:=(S1.out.cellAt ((ns - 1) * 2+1) (by omega)).trans HC1.out;go_upto_region 3 with fail;have fb:=(Fr.refl w1.heap.size [] w1).alloc (Nat.le_refl _) (.cells #[.int .i64 v.1,.int .i64 v.2] 48);have BV:=zh (Blk.new w1 48 #[.int .i64 v.1,.int .i64 v.2]);have B2:=zh (B1.out.fr fb B1.out.lt (by simp));have O2:=zh (ownsRow_fr O1.out fb (fun q hq=>⟨(O1.out.lt q hq).2,by simp⟩));have S2:=zh (own_prefix (ownsRow_fr S1.out fb (fun q hq=>⟨(S1.out.lt q hq).2,by simp⟩)) (ns - 1) (by omega));have BR2:=zh (BR.out.fr fb BR.out.lt (by simp));have F2:=zh (F1.out.trans (fb.mono (B':=w.heap.size) (L':=L) F1.out.size (by simp)));have hlt1:w.heap.size < w1.heap.size:=BR.out.lt;obtain ⟨gv,hgv⟩:=nm (w1.heap.size);rw [<- hgv] at BV hlt1 ⊢;clear fb hcr hfz c0 c1 hgv;generalize w1.alloc (.cells #[.int .i64 v.1,.int .i64 v.2] 48)=w2 at *;clear B1 O1 S1 BR F1;have hcr:=B2.out.cell 10;have hfz:=B2.out.frozen 10;simp [mcA] at hcr;have hsl:((ns - 1:Nat):Int)<=(cs:Int):=(by omega);go_upto_region 4 with fail;have fc:=(Fr.refl w2.heap.size [g] w2).setCell (p:=⟨g,10,none⟩) (.inr (by simp)) (.slice (some ⟨gs,0,none⟩) (ns - 1) cs);have hne:gv ≠ g:=(by omega);have hne2:w.heap.size ≠ g:=(by omega);have BV3:=zh (BV.out.fr fc BV.out.lt (by simp;omega));have BR3:=zh (BR2.out.fr fc BR2.out.lt (by simp;omega));have B3:=zh (B2.out.set_ 10 (.slice (some ⟨gs,0,none⟩) (ns - 1) cs));have O3:=zh (own_far B2.out O2.out (by decide) 10 (.slice (some ⟨gs,0,none⟩) (ns - 1) cs));have S3:=zh (own_far B2.out S2.out (by decide) 10 (.slice (some ⟨gs,0,none⟩) (ns - 1) cs));have F3:=zh (F2.out.setCell (p:=⟨g,10,none⟩) (.inr HLg) (.slice (some ⟨gs,0,none⟩) (ns - 1) cs));clear fc hcr hfz;generalize w2.setCell ⟨g,10,none⟩ (.slice (some ⟨gs,0,none⟩) (ns - 1) cs)=w3 at *;clear B2 O2 S2 BR2 F2 BV;have c0:=BV3.out.cell 0;have c1:=BV3.out.cell 1;have e0:=BR3.out.cell 0;have e1:=BR3.out.cell 1;have z0:=BR3.out.frozen 0;have z1:=BR3.out.frozen 1;simp at c0 c1 e0 e1;go_wp2_with fail;have hgw3:w.heap.size < w3.heap.size:=BR3.out.lt;have fd:=((Fr.refl w3.heap.size [w.heap.size] w3).setCell (p:=⟨w.heap.size,0,none⟩) (.inr (by simp)) (.int .i64 v.1)).setCell (p:=⟨w.heap.size,1,none⟩) (.inr (by simp)) (.int .i64 v.2);refine bodyPost_ret (results_cell_row rfl _ _ w.heap.size 48 #[.int .i64 v.1,.int .i64 v.2] (0,0) _ rfl ((BR3.out.set_ 0 _).set_ 1 _) Tryz.underlying48 rfl (by kernel_rfl)) rfl ⟨rfl,L,⟨Ao,no,co,some ⟨gs,0,none⟩,ns - 1,cs,HNO.out,by simp [popM,HNS.out],?_,?_,?_,HOFF.out,HL.out⟩,⟨?_,fun q hq=>.inl hq⟩⟩
 · exact B3.out.fr fd B3.out.lt (by simp;omega)
 · exact ownsRow_fr O3.out fd (fun q hq=>⟨(O3.out.lt q hq).2,by have:=HOW.out q hq;simp;omega⟩)
 · have:=ownsRow_fr S3.out fd (fun q hq=>⟨(S3.out.lt q hq).2,by have h:=(S3.out.lt q hq).2;simp [Value.ownBlock] at hq;simp;omega⟩);simp only [popM,cellsV_drop,<- HNS.out];exact this
 · exact (F3.out.setCell (p:=⟨w.heap.size,0,none⟩) (.inl (Nat.le_refl _)) _).setCell (p:=⟨w.heap.size,1,none⟩) (.inl (Nat.le_refl _)) _
theorem gadd2 (x y:Int × Int) (gl t:Nat) (w:World) (hb:Blk w gl t #[.int .i64 x.1,.int .i64 x.2,.int .i64 y.1,.int .i64 y.2]):Calls Tryz.prog 257 #[.slice (some ⟨gl,0,none⟩) 2 2] w fun e w'=>e=.returned (.agg #[.int .i64 (opV 6 x y).1,.int .i64 (opV 6 x y).2])/\Fr w.heap.size [] w w' :=
 gadd_any (some ⟨gl,0,none⟩) 2 (gl+1) [x,y] w (Reads.of_blk hb (by rfl)) hb.lt (by simp)
theorem gmul2 (x y:Int × Int) (gl t:Nat) (w:World) (hb:Blk w gl t #[.int .i64 x.1,.int .i64 x.2,.int .i64 y.1,.int .i64 y.2]):Calls Tryz.prog 259 #[.slice (some ⟨gl,0,none⟩) 2 2] w fun e w'=>e=.returned (.agg #[.int .i64 (opV 8 x y).1,.int .i64 (opV 8 x y).2])/\Fr w.heap.size [] w w' :=
 gmul_any (some ⟨gl,0,none⟩) 2 (gl+1) [x,y] w (Reads.of_blk hb (by rfl)) hb.lt (by simp)
theorem MC.far {b0 g:Nat} {vp:Value} {S:MS} {L:List Nat} {w w':World} (h:MC b0 g vp S L w) {q:Nat} (hf:Fr w.heap.size [q] w w') (hq:q ∉ L):MC b0 g vp S L w':=by
 obtain ⟨Ao,no,co,As,ns,cs,h1,h2,h3,h4,h5,h6,h7⟩:=h;rw [h7] at hq;simp only [List.mem_cons,List.mem_append,Option.mem_toList,not_or] at hq;obtain ⟨q1,q2,q3⟩:=hq;exact ⟨Ao,no,co,As,ns,cs,h1,h2,h3.fr hf h3.lt (by simpa using Ne.symm q1),ownsRow_fr h4 hf (fun k hk=>⟨(h4.lt k hk).2,by simp;intro e;subst e;exact q2 hk⟩),ownsRow_fr h5 hf (fun k hk=>⟨(h5.lt k hk).2,by simp;intro e;subst e;exact q3 hk⟩),h6,h7⟩
theorem Mv.old {L L':List Nat} {w w':World} (h:Mv L w L' w') {q:Nat} (hq:q < w.heap.size) (hn:q ∉ L):q ∉ L':=fun c=>(h.of q c).elim hn (fun c=>by omega)
theorem two_any (b0 g:Nat) (vp:Value) (S:MS) (L:List Nat) (o:Int) (w:World) (hM:MC b0 g vp S L w) (hb:b0<=w.heap.size) (h2:2<=S.s.length) (hn:S.s.length<=1000) (hop:o=6 \/ o=7 \/ o=8 \/ o=17) :
  Calls Tryz.prog 250 #[.pointer (some ⟨g,0,none⟩),.int .i64 o] w fun e w'=>e=.returned (.tuple #[])/\∃ L',MC b0 g vp (twoM o S) L' w'/\Mv L w L' w':=by
 have HM:=zh hM;have HP1:=zh (pop_any b0 g vp S L w hM hb (by omega) (by omega));have hl1:0 < (popM S).s.length:=(by simp [popM];omega);have hl2:(popM (popM S)).s.length<=1000:=(by simp [popM];omega);have hl3:(popM S).s.length<=100000:=(by simp [popM];omega);clear hM h2 hn;go_enter Tryz.func250,Tryz.ntmps250;go_wp2_with fail;refine HP1.out.mono ?_;rintro e w1 ⟨rfl,L1,hm1,hv1⟩;have M1:=zh hm1;have V1:=zh hv1;obtain ⟨y,hy⟩:=nm (topV S.s);rw [<- hy];have HY:=zh hy;clear hm1 hv1 hy HP1;go_upto_region 1 with fail;have fa:=(Fr.refl w1.heap.size [] w1).alloc (Nat.le_refl _) (.cells #[.int .i64 y.1,.int .i64 y.2] 48);have BY:=zh (Blk.new w1 48 #[.int .i64 y.1,.int .i64 y.2]);have M2:=zh (M1.out.mv fa);have V2:=zh (V1.out.fr_ fa);obtain ⟨gy,hgy⟩:=nm (w1.heap.size);have HYL:=zh (show gy ∉ L1 from fun c=>by have:=M1.out.lt gy c;omega);have hb2:b0<=gy:=(by have:=V1.out.fr.size;omega);have hgw:w.heap.size<=gy:=(by have:=V1.out.fr.size;omega);rw [<- hgy] at BY ⊢;clear fa hgy M1 V1;generalize w1.alloc (.cells #[.int .i64 y.1,.int .i64 y.2] 48)=w2 at *;have hyw2:gy < w2.heap.size:=BY.out.lt;have HP2:=zh (pop_any b0 g vp (popM S) L1 w2 M2.out (by omega) hl1 hl3);go_wp2_with fail;refine HP2.out.mono ?_;rintro e w3 ⟨rfl,L3,hm3,hv3⟩;have BY3:=zh (BY.out.fr hv3.fr hyw2 HYL.out);have HYL3:=zh (hv3.old hyw2 HYL.out);have M3:=zh hm3;have V3:=zh (V2.out.trans hv3);have hw3:gy < w3.heap.size:=BY3.out.lt;clear HP2 M2 V2 BY HYL hm3 hv3;obtain ⟨x,hx⟩:=nm (topV (popM S).s);rw [<- hx];have HX:=zh hx;clear hx;go_upto_region 2 with fail;have fa:=(Fr.refl w3.heap.size [] w3).alloc (Nat.le_refl _) (.cells #[.int .i64 x.1,.int .i64 x.2] 48);have BX:=zh (Blk.new w3 48 #[.int .i64 x.1,.int .i64 x.2]);have BY4:=zh (BY3.out.fr fa BY3.out.lt (by simp));have M4:=zh (M3.out.mv fa);have V4:=zh (V3.out.fr_ fa);obtain ⟨gx,hgx⟩:=nm (w3.heap.size);rw [<- hgx] at BX hw3 ⊢;clear fa hgx M3 V3 BY3 HYL3;generalize w3.alloc (.cells #[.int .i64 x.1,.int .i64 x.2] 48)=w4 at *;have hxw:gx < w4.heap.size:=BX.out.lt;have y0:=BY4.out.cell 0;have y1:=BY4.out.cell 1;have x0:=BX.out.cell 0;have x1:=BX.out.cell 1;simp at y0 y1 x0 x1;have HRES:=zh (show twoM o S=pushM (opV o x y) (popM (popM S)) by rw [HX.out,HY.out];rfl);have hls:w.heap.size<=w4.heap.size:=V4.out.fr.size;have hle:=hl2;generalize popM (popM S)=T at *;clear HX HY hl1 hl2 hl3
 rcases hop with rfl | rfl | rfl | rfl
 · go_wp2_with fail;have fl:=(Fr.refl w4.heap.size [] w4).alloc (Nat.le_refl _) (.cells #[.int .i64 x.1,.int .i64 x.2,.int .i64 y.1,.int .i64 y.2] 48);have BL:=Blk.new w4 48 #[.int .i64 x.1,.int .i64 x.2,.int .i64 y.1,.int .i64 y.2];refine (gadd2 x y _ _ _ BL).mono ?_;rintro e w5 ⟨rfl,f5⟩;have f5:=fl.nx f5;have M5:=M4.out.mv f5;have V5:=V4.out.fr_ f5;go_wp2_with fail;refine (push_any b0 g vp T L3 _ w5 M5 (by have:=f5.size;omega) (by omega)).mono ?_;rintro e w6 ⟨rfl,L6,m6,v6⟩;go_wp2_with fail;go_end0;exact ⟨rfl,L6,by rw [HRES.out];exact m6,V5.trans v6⟩
 · go_wp2_with fail;refine (gsub_any x y _).mono ?_;rintro e w5 ⟨rfl,f5⟩;rw [show subV x y=opV 7 x y from rfl];have M5:=M4.out.mv f5;have V5:=V4.out.fr_ f5;go_wp2_with fail;refine (push_any b0 g vp T L3 _ w5 M5 (by have:=f5.size;omega) (by omega)).mono ?_;rintro e w6 ⟨rfl,L6,m6,v6⟩;go_wp2_with fail;go_end0;exact ⟨rfl,L6,by rw [HRES.out];exact m6,V5.trans v6⟩
 · go_wp2_with fail;have fl:=(Fr.refl w4.heap.size [] w4).alloc (Nat.le_refl _) (.cells #[.int .i64 x.1,.int .i64 x.2,.int .i64 y.1,.int .i64 y.2] 48);have BL:=Blk.new w4 48 #[.int .i64 x.1,.int .i64 x.2,.int .i64 y.1,.int .i64 y.2];refine (gmul2 x y _ _ _ BL).mono ?_;rintro e w5 ⟨rfl,f5⟩;have f5:=fl.nx f5;have M5:=M4.out.mv f5;have V5:=V4.out.fr_ f5;go_wp2_with fail;refine (push_any b0 g vp T L3 _ w5 M5 (by have:=f5.size;omega) (by omega)).mono ?_;rintro e w6 ⟨rfl,L6,m6,v6⟩;go_wp2_with fail;go_end0;exact ⟨rfl,L6,by rw [HRES.out];exact m6,V5.trans v6⟩
 ·
  have hlt3:=zh M4.out.lt;have hwz:w.heap.size<=w4.heap.size:=hls;have hls:(if lessV x y=true then ((1,0):Int × Int) else (0,0))=opV 17 x y:=rfl;go_upto_region 4 with fail;have fl:=(Fr.refl w4.heap.size [] w4).alloc (Nat.le_refl _) (.cells #[.int .i64 0,.int .i64 0] 48);have BZ:=Blk.new w4 48 #[.int .i64 0,.int .i64 0];have M5:=zh (M4.out.mv fl);have V5:=zh (V4.out.fr_ fl);have X5:=BX.out.fr fl BX.out.lt (by simp);have Y5:=BY4.out.fr fl BY4.out.lt (by simp);have BZ:=zh BZ;clear y0 y1 x0 x1 fl BX BY4 M4 V4;obtain ⟨gz,hgz⟩:=nm (w4.heap.size);have HZL:=zh (show gz ∉ L3 from fun c=>by have:=hlt3.out gz c;omega);have hbz:b0<=gz:=(by omega);have hwgz:w.heap.size<=gz:=(by omega);rw [<- hgz] at BZ ⊢;clear hgz;generalize w4.alloc (.cells #[.int .i64 0,.int .i64 0] 48)=w5 at *;have y0:=Y5.cell 0;have y1:=Y5.cell 1;have x0:=X5.cell 0;have x1:=X5.cell 1;simp at y0 y1 x0 x1;clear X5 Y5;have HLE:=zh (gless_any x y w5);have HOP:=zh hls;clear hls;generalize lessV x y=lv at *;go_wp2_with fail;refine HLE.out.mono ?_;rintro e w6 ⟨rfl,f6⟩;have M6:=zh (M5.out.mv f6);have V6:=zh (V5.out.fr_ f6);have BZ6:=zh (BZ.out.fr f6 BZ.out.lt (by simp));have hz6:gz < w6.heap.size:=BZ6.out.lt;clear HLE M5 V5 BZ f6 x0 x1 y0 y1
  cases lv
  · have z0:=BZ6.out.cell 0;have z1:=BZ6.out.cell 1;simp at z0 z1;go_wp2_with fail;refine (push_any b0 g vp T L3 (0,0) w6 M6.out (by omega) (by omega)).mono ?_;rintro e w7 ⟨rfl,L7,m7,v7⟩;go_wp2_with fail;go_end0;exact ⟨rfl,L7,by rw [HRES.out,<- HOP.out];exact m7,V6.out.trans v7⟩
  · have z0:=BZ6.out.cell 0;have z1:=BZ6.out.cell 1;have zf:=BZ6.out.frozen 0;simp at z0 z1;go_upto_region 6 with fail;have fs:=(Fr.refl w6.heap.size [gz] w6).setCell (p:=⟨gz,0,none⟩) (.inr (by simp)) (.int .i64 1);have M7:=M6.out.far (q:=gz) fs HZL.out;have V7:Mv L w L3 (w6.setCell ⟨gz,0,none⟩ (.int .i64 1)):=⟨V6.out.fr.setCell (p:=⟨gz,0,none⟩) (.inl hwgz) _,V6.out.of⟩;have BZ7:=BZ6.out.set_ 0 (.int .i64 1);clear z0 z1 zf;generalize w6.setCell ⟨gz,0,none⟩ (.int .i64 1)=w7 at *;have z0:=BZ7.cell 0;have z1:=BZ7.cell 1;simp at z0 z1;go_wp2_with fail;refine (push_any b0 g vp T L3 (1,0) w7 M7 (by have:=fs.size;omega) (by omega)).mono ?_;rintro e w8 ⟨rfl,L8,m8,v8⟩;go_wp2_with fail;go_end0;exact ⟨rfl,L8,by rw [HRES.out,<- HOP.out];exact m8,V7.trans v8⟩
def emitM (v:Int × Int) (S:MS):MS:={ S with o:=S.o ++ [v] }
theorem top_any (b0 g:Nat) (vp:Value) (S:MS) (L:List Nat) (o:Int) (w:World) (hM:MC b0 g vp S L w) (hb:b0<=w.heap.size) (h1:1<=S.s.length) (h2:o=12->2<=S.s.length) (hn:S.s.length<=1000) (hno:S.o.length<=1000) (hop:o=9 \/ o=10 \/ o=11 \/ o=12 \/ o=13 \/ o=14) :
  Calls Tryz.prog 251 #[.pointer (some ⟨g,0,none⟩),.int .i64 o] w fun e w'=>e=.returned (.tuple #[])/\∃ L',MC b0 g vp (topM o S) L' w'/\Mv L w L' w':=by
 have HM:=zh hM;have HP1:=zh (pop_any b0 g vp S L w hM hb (by omega) (by omega));have hl1:o=12->0 < (popM S).s.length:=(by simp [popM];omega);have hl2:(popM S).s.length<=1000:=(by simp [popM];omega);have hl3:(popM S).o.length<=1000:=hno;clear hM h1 h2 hn hno;go_enter Tryz.func251,Tryz.ntmps251;go_wp2_with fail;refine HP1.out.mono ?_;rintro e w1 ⟨rfl,L1,hm1,hv1⟩;have M1:=zh hm1;have V1:=zh hv1;obtain ⟨y,hy⟩:=nm (topV S.s);rw [<- hy];have HY:=zh hy;clear hm1 hv1 hy HP1;go_upto_region 1 with fail;have fa:=(Fr.refl w1.heap.size [] w1).alloc (Nat.le_refl _) (.cells #[.int .i64 y.1,.int .i64 y.2] 48);have BY:=zh (Blk.new w1 48 #[.int .i64 y.1,.int .i64 y.2]);have M2:=zh (M1.out.mv fa);have V2:=zh (V1.out.fr_ fa);obtain ⟨gy,hgy⟩:=nm (w1.heap.size);have HYL:=zh (show gy ∉ L1 from fun c=>by have:=M1.out.lt gy c;omega);have hb2:b0<=gy:=(by have:=V1.out.fr.size;omega);have hgw:w.heap.size<=gy:=(by have:=V1.out.fr.size;omega);rw [<- hgy] at BY ⊢;clear fa hgy M1 V1;generalize w1.alloc (.cells #[.int .i64 y.1,.int .i64 y.2] 48)=w2 at *;have hyw2:gy < w2.heap.size:=BY.out.lt;have y0:=BY.out.cell 0;have y1:=BY.out.cell 1;simp at y0 y1;have HC:=zh (HY.out)
 rcases hop with rfl | rfl | rfl | rfl | rfl | rfl
 · have HRES:=zh (show topM 9 S=pushM (conjV y) (popM S) by rw [HY.out];rfl);clear HY HC hl1 hl3;generalize popM S=T at *;go_wp2_with fail;refine (gconj_any y _).mono ?_;rintro e w5 ⟨rfl,f5⟩;have M5:=M2.out.mv f5;have V5:=V2.out.fr_ f5;go_wp2_with fail;refine (push_any b0 g vp T L1 _ w5 M5 (by have:=f5.size;omega) (by omega)).mono ?_;rintro e w6 ⟨rfl,L6,m6,v6⟩;go_wp2_with fail;go_end0;exact ⟨rfl,L6,by rw [HRES.out];exact m6,V5.trans v6⟩
 · have HRES:=zh (show topM 10 S=pushM (turnV y) (popM S) by rw [HY.out];rfl);clear HY HC hl1 hl3;generalize popM S=T at *;go_wp2_with fail;refine (gturn_any y _).mono ?_;rintro e w5 ⟨rfl,f5⟩;have M5:=M2.out.mv f5;have V5:=V2.out.fr_ f5;go_wp2_with fail;refine (push_any b0 g vp T L1 _ w5 M5 (by have:=f5.size;omega) (by omega)).mono ?_;rintro e w6 ⟨rfl,L6,m6,v6⟩;go_wp2_with fail;go_end0;exact ⟨rfl,L6,by rw [HRES.out];exact m6,V5.trans v6⟩
 · have HRES:=zh (show topM 11 S=pushM y (pushM y (popM S)) by rw [HY.out];rfl);clear HY HC hl1 hl3;generalize popM S=T at *;go_wp2_with fail;refine (push_any b0 g vp T L1 _ w2 M2.out (by omega) (by omega)).mono ?_;rintro e w5 ⟨rfl,L5,m5,v5⟩;have B5:=BY.out.fr v5.fr hyw2 HYL.out;have y0:=B5.cell 0;have y1:=B5.cell 1;simp at y0 y1;have hlt:=v5.fr.size;go_wp2_with fail;refine (push_any b0 g vp (pushM y T) L5 _ w5 m5 (by omega) (by simp [pushM];omega)).mono ?_;rintro e w6 ⟨rfl,L6,m6,v6⟩;go_wp2_with fail;go_end0;exact ⟨rfl,L6,by rw [HRES.out];exact m6,(V2.out.trans v5).trans v6⟩
 · have HRES:=zh (show topM 12 S=pushM (topV (popM S).s) (pushM y (popM (popM S))) by rw [HY.out];rfl);have hlp:0 < (popM S).s.length:=hl1 rfl;have HP2:=zh (pop_any b0 g vp (popM S) L1 w2 M2.out (by omega) hlp (by omega));have hl4:(popM (popM S)).s.length<=1000:=(by show (popM S).s.dropLast.length<=1000;rw [List.length_dropLast];omega);clear HY HC hl1 hl3 hl2;generalize popM S=T at *;go_wp2_with fail;refine HP2.out.mono ?_;rintro e w3 ⟨rfl,L3,hm3,hv3⟩;have BY3:=zh (BY.out.fr hv3.fr hyw2 HYL.out);have HYL3:=zh (hv3.old hyw2 HYL.out);have M3:=zh hm3;have V3:=zh (V2.out.trans hv3);have hw3:gy < w3.heap.size:=BY3.out.lt;clear HP2 M2 V2 BY HYL hm3 hv3 y0 y1;generalize popM T=T2 at *;generalize topV T.s=x at *;go_upto_region 11 with fail;have fa:=(Fr.refl w3.heap.size [] w3).alloc (Nat.le_refl _) (.cells #[.int .i64 x.1,.int .i64 x.2] 48);have BX:=zh (Blk.new w3 48 #[.int .i64 x.1,.int .i64 x.2]);have BY4:=zh (BY3.out.fr fa BY3.out.lt (by simp));have M4:=zh (M3.out.mv fa);have V4:=zh (V3.out.fr_ fa);obtain ⟨gx,hgx⟩:=nm (w3.heap.size);have HXL:=zh (show gx ∉ L3 from fun c=>by have:=M3.out.lt gx c;omega);rw [<- hgx] at BX hw3 ⊢;clear fa hgx M3 V3 BY3 HYL3;generalize w3.alloc (.cells #[.int .i64 x.1,.int .i64 x.2] 48)=w4 at *;have hxw:gx < w4.heap.size:=BX.out.lt;have y0:=BY4.out.cell 0;have y1:=BY4.out.cell 1;have x0:=BX.out.cell 0;have x1:=BX.out.cell 1;simp at y0 y1 x0 x1;go_wp2_with fail;refine (push_any b0 g vp T2 L3 _ w4 M4.out (by omega) (by omega)).mono ?_;rintro e w5 ⟨rfl,L5,m5,v5⟩;have B5:=BX.out.fr v5.fr hxw HXL.out;clear x0 x1 y0 y1;have x0:=B5.cell 0;have x1:=B5.cell 1;simp at x0 x1;have hlt:=v5.fr.size;go_wp2_with fail;refine (push_any b0 g vp (pushM y T2) L5 _ w5 m5 (by omega) (by simp [pushM];omega)).mono ?_;rintro e w6 ⟨rfl,L6,m6,v6⟩;go_wp2_with fail;go_end0;exact ⟨rfl,L6,by rw [HRES.out];exact m6,(V4.out.trans v5).trans v6⟩
 · have HRES:=zh (show topM 13 S=popM S from rfl);clear HY HC hl1 hl3;generalize popM S=T at *;go_wp2_with fail;go_end0;exact ⟨rfl,L1,by rw [HRES.out];exact M2.out,V2.out⟩
 ·
  have HRES:=zh (show topM 14 S=emitM y (popM S) by rw [HY.out];rfl);clear HY HC hl1 hl2;generalize popM S=T at *;obtain ⟨Ao,no,co,As,ns,cs,ho,hs,hB,hO,hS,hoff,hL⟩:=M2.out;have hno:no<=1000:=(by omega);have hol:∀ q,(Value.slice Ao no co).ownBlock=some q->q < w2.heap.size:=fun q hq=>(hO.lt q hq).2;have B1:=zh hB;have O1:=zh hO;have S1:=zh hS;have HOL:=zh hol;have HSL:=zh (fun q (hq:(Value.slice As ns cs).ownBlock=some q)=>(hS.lt q hq).2);have HLg:g ∈ L1:=(by rw [hL];simp);have HLo:=zh (fun q (hq:(Value.slice Ao no co).ownBlock=some q)=>(by rw [hL,hq];simp:q ∈ L1));have HLs:=zh (fun q (hq:(Value.slice As ns cs).ownBlock=some q)=>(by rw [hL,hq];simp:q ∈ L1));have HOFF:=zh hoff;have HNO:=zh ho;have HNS:=zh hs;have hgw2:=hB.lt;have F1:=zh (Fr.refl w2.heap.size L1 w2);clear hB hO hS hoff hL ho hs hol M2 hl3;go_upto_region 14 with fail;have ho:=O1.out;have hcr:=B1.out.cell 0;have hfz:=B1.out.frozen 0;have hoff:(Value.slice Ao no co).ownBlock ≠ some g:=Ne.symm (B1.out.ne_own ho (by decide));have r0:=BY.out.cell 0;have r1:=BY.out.cell 1;simp [mcA] at r0 r1 hcr;have hcrA:(w2.alloc (.cells #[.int .i64 y.1,.int .i64 y.2] 48)).cell? ⟨g,0,none⟩=some (.slice Ao no co):=(B1.out.alloc _).cell 0;obtain ⟨i0,hi0,hz0,hz1,hz2⟩:=info_parts (show (Tryz.prog.info? 48).map (fun i=>(i.zero,i.size,i.bytes))=some (some (.agg #[.int .i64 0,.int .i64 0]),2,16) by kernel_rfl)
  go_region_law
   ((refine step_append_lies _ (by rfl) _ _ _ (by rfl) b0 48 i0 _ 2 16 Tryz.underlying254 hi0 hz0 hz1 hz2 rfl (by omega) (.slice Ao no co) no _ (by rfl) ((ho.alloc _).drew)
       ⟨w2.heap.size,0,none⟩ 1 1 (valC y) (by rfl) (by rfl) (World.news_of_block (cs:=(valC y).toArray) (t:=48) (fr:=(0,0)) (heap_alloc_new w2 _)) (by simp [valC,Value.oneCell'])
       (by omega) (by unfold maxLen;omega) (by omega) (by simp;omega) (w2.heap.size+1) (by simp) ?_;intro gg cap w6 hown1 hgrow hat hlt6;have hfz6:w6.frozen? ⟨g,0,none⟩=false:=(hgrow.frozen_far ⟨g,0,none⟩ (by simp;omega) (Ne.symm hoff)).trans ((B1.out.alloc _).frozen 0);have hcr6:w6.cell? ⟨g,0,none⟩=some (.slice Ao no co):=(hgrow.cell_far ⟨g,0,none⟩ (by simp;omega) (Ne.symm hoff)).trans (((B1.out.alloc _).cell 0))))
  all_goals
   go_wp2_with fail;have hba:=(B1.out.alloc (.cells #[.int .i64 y.1,.int .i64 y.2] 48)).drew;have hb6:Blk w6 g 374 (mcA (.slice Ao no co) T vp (.slice As ns cs)):=(hgrow.block g hba.lt (Ne.symm hoff)).trans hba;have fg:=((Fr.refl w2.heap.size (Value.slice Ao no co).ownBlock.toList w2).alloc (Nat.le_refl _) (.cells #[.int .i64 y.1,.int .i64 y.2] 48)).drew.grown hgrow (by simp) (fun q hq=>.inr (by simp [hq]));have hS6:=ownsRow_fr S1.out fg (fun q hq=>⟨(S1.out.lt q hq).2,by simp only [Option.mem_toList];exact fun e=>HOFF.out q e hq⟩);have hog:(Value.slice As ns cs).ownBlock ≠ some g:=Ne.symm (B1.out.ne_own S1.out (by decide))
   have hgg:(Value.slice Ao no co).ownBlock=some gg \/ w2.heap.size<=gg:=by
    rcases hat with hat | hat
    · exact .inl hat
    · exact .inr (by omega)
   go_end0;refine ⟨rfl,g :: ([gg] ++ (Value.slice As ns cs).ownBlock.toList),?_,?_⟩
   ·
    rw [HRES.out];refine ⟨some ⟨gg,0,none⟩,no+1,cap,As,ns,cs,by simp [emitM,HNO.out],HNS.out,?_,?_,?_,?_,rfl⟩
    · exact hb6.set_ 0 (.slice (some ⟨gg,0,none⟩) (no+1) cap)
    · have h5:(w6.setCell ⟨g,0,none⟩ (.slice (some ⟨gg,0,none⟩) (no+1) cap)).ownsRow b0 48 2 (.slice (some ⟨gg,0,none⟩) (no+1) cap) (no+1) (cellsV T.o ++ valC y):=ownsRow_setCell_other hown1 (Ne.symm (hb6.ne_own hown1 (by decide))) _;simp only [emitM,cellsV_app];simpa [cellsV] using h5
    · exact ownsRow_setCell_other hS6 (by simpa using hog) _
    ·
     intro q hq he;have e:gg=q:=(by simpa [Value.ownBlock] using hq);subst e
     rcases hgg with c | c
     · exact HOFF.out _ c he
     · exact absurd (HSL.out _ he) (by omega)
   ·
    refine V2.out.trans ⟨?_,?_⟩
    · exact ((((F1.out.alloc (by omega) _).drew).grown hgrow (by simp) (fun q hq=>.inr (HLo.out q hq))).setCell (p:=⟨g,0,none⟩) (.inr HLg) _)
    ·
     intro q hq;simp only [List.mem_cons,List.mem_append,Option.mem_toList] at hq
     rcases hq with e | (e | e) | e
     · subst e;exact .inl HLg
     ·
      subst e
      rcases hgg with c | c
      · exact .inl (HLo.out _ c)
      · exact .inr c
     · cases e
     · exact .inl (HLs.out q e)
def jumpsX (J:Nat->Act->World->Prop) (Q:Exit->Act->World->Prop):Exit->Act->World->Prop
 | .goto l,a,w=>J l a w
 | e,a,w=>Q e a w
theorem wp_scope_labels {P:Program} {a:Act} {w:World} {Q:Exit->Act->World->Prop} {c:Code} (J:Nat->Nat->Act->World->Prop)
  (hfb:∀ l n a w,J l n a w->∃ b,(findLabel c l=some (.seq .skip b) \/ findLabel c l=some b /\ ∀ d,b ≠ .seq .skip d)/\b.wp P (jumpsX (fun l' a' w'=>∃ n',n' < n/\J l' n' a' w') Q) a w)
  (first:(∀ l n a w,J l n a w -> ∀ b,findLabel c l=some (.seq .skip b)->b.wp P (jumpsX (fun l' a' w'=>∃ n,J l' n a' w') Q) a w)->c.wp P (jumpsX (fun l' a' w'=>∃ n,J l' n a' w') Q) a w):(Code.scope c).wp P Q a w:=by
 have hf:∀ l n a w,J l n a w->∃ R,findLabel c l=some R/\R.wp P (jumpsX (fun l' a' w'=>∃ n',n' < n/\J l' n' a' w') Q) a w:=fun l n a w hJ=>by
  obtain ⟨b,h | h,hb⟩:=hfb l n a w hJ
  · exact ⟨_,h,wp_seq (wp_skip hb)⟩
  · exact ⟨_,h.1,hb⟩
 replace first:=first fun l n a w hJ b hb=>by
  obtain ⟨b',h | h,hw⟩:=hfb l n a w hJ
  ·
   rw [hb] at h;injection h with h
   injection h with _ h
   subst h;refine wp_mono hw fun e a w hq => ?_
   cases e <;> first | exact hq | (obtain ⟨n',_,hJ'⟩:=hq;exact ⟨n',hJ'⟩)
  ·
   rw [hb] at h;obtain ⟨h,hne⟩:=h;injection h with h
   exact absurd h.symm (hne b)
 intro f k cs;have hg:∀ l R,findLabel c l=some R->gotoIn l (.inScope c :: k)=some (.code R :: .inScope c :: k):=fun l R h=>by simp [gotoIn,h]
 have key:∀ n l a w,J l n a w->∃ R,findLabel c l=some R/\∃ e a' w',Q e a' w'/\Arrives P (lone (f.at a (.code R :: .inScope c :: k)) cs w) f k cs e a' w':=by
  intro n
  induction n using Nat.strongRecOn with
  | _ n ih =>
   intro l a w hJ;obtain ⟨R,hR,pass⟩:=hf l n a w hJ;refine ⟨R,hR,?_⟩;obtain ⟨e,a₁,w₁,hq,harr⟩:=pass f (.inScope c :: k) cs
   cases e with
   | normal=>exact ⟨.normal,a₁,w₁,hq,Steps.trans harr (.one step_inScope)⟩
   | exit id=>exact ⟨.exit id,a₁,w₁,hq,fun k' hk=>harr k' (by simp [exitTo,hk])⟩
   | goto l' =>
    obtain ⟨n',hlt,hJ'⟩:=hq;obtain ⟨R',hR',e₂,a₂,w₂,hq₂,harr₂⟩:=ih n' hlt l' a₁ w₁ hJ';exact ⟨e₂,a₂,w₂,hq₂,.of_steps (harr _ (hg _ _ hR')) harr₂⟩
   | ret=>exact ⟨_,a₁,w₁,hq,harr⟩
   | panic ch=>exact ⟨_,a₁,w₁,hq,harr⟩
   | outgrown=>exact ⟨_,a₁,w₁,hq,harr⟩
 obtain ⟨e,a₁,w₁,hq,harr⟩:=first f (.inScope c :: k) cs
 cases e with
 | normal=>exact ⟨.normal,a₁,w₁,hq,.head step_scope (Steps.trans harr (.one step_inScope))⟩
 | exit id=>exact ⟨.exit id,a₁,w₁,hq,fun k' hk=>.head step_scope (harr k' (by simp [exitTo,hk]))⟩
 | goto l' =>
  obtain ⟨n,hJ'⟩:=hq;obtain ⟨R',hR',e₂,a₂,w₂,hq₂,harr₂⟩:=key n l' a₁ w₁ hJ';exact ⟨e₂,a₂,w₂,hq₂,.of_steps (.head step_scope (harr _ (hg _ _ hR'))) harr₂⟩
 | ret=>exact ⟨_,a₁,w₁,hq,.of_steps (.one step_scope) harr⟩
 | panic ch=>exact ⟨_,a₁,w₁,hq,.of_steps (.one step_scope) harr⟩
 | outgrown=>exact ⟨_,a₁,w₁,hq,.of_steps (.one step_scope) harr⟩
theorem actM_at (i:Int × Int) (S:MS):S.at_<=(actM i S).at_:=by
 rcases act_at (i:=i) (S:=S) with e | ⟨_,e⟩ <;> omega
theorem runF_fuel (p:List (Int × Int)):∀ (f f':Nat) (S:MS),p.length<=f+S.at_->p.length<=f'+S.at_->runF p f S=runF p f' S
 | 0,f',S,h,h'=>by rw [runF_end (by omega),runF_end (by omega)]
 | f+1,0,S,h,h'=>by rw [runF_end (by omega),runF_end (by omega)]
 | f+1,f'+1,S,h,h'=>by
  unfold runF
  cases hp:p[S.at_]? with
  | none=>rfl
  | some i =>
   simp only
   split
   · rfl
   · have:=actM_at i (nextM S);have e:(nextM S).at_=S.at_+1:=rfl;exact runF_fuel p f f' _ (by omega) (by omega)
def runE (p:List (Int × Int)) (S:MS):MS:=runF p 100 S
theorem runE_end {p:List (Int × Int)} {S:MS} (h:p.length<=S.at_):runE p S=S:=runF_end h _
theorem runE_halt {p:List (Int × Int)} {S:MS} {i:Int × Int} (h:p[S.at_]?=some i) (h0:i.1=0):runE p S=nextM S:=by
 unfold runE runF;rw [h];simp only;rw [if_pos h0]
theorem runE_step {p:List (Int × Int)} {S:MS} {i:Int × Int} (hp:p.length<=24) (h:p[S.at_]?=some i) (h0:i.1 ≠ 0):runE p S=runE p (actM i (nextM S)):=by
 have:runE p S=runF p 99 (actM i (nextM S)):=by
  conv=>lhs;unfold runE runF
  rw [h];simp only;rw [if_neg h0]
 rw [this];exact runF_fuel p 99 100 _ (by omega) (by omega)
structure RunS (l:List (Int × Int)) (D:Nat->Int) (b0 g gi:Nat) (vp:Value) (F:MS) (L0:List Nat) (w0:World) (S:MS) (L:List Nat) (w:World):Prop where
 inv:MInv l D S
 new_:gi ∉ L/\w0.heap.size<=gi
 mv:Mv L0 w0 L w
 res:runE l S=F
 few:S.o.length<=S.at_
 base:b0<=w.heap.size
 base0:b0<=w0.heap.size
def RunJ (lf lj le:Nat) (l:List (Int × Int)) (D:Nat->Int) (b0 g gi:Nat) (vp:Value) (F:MS) (L0:List Nat) (w0:World) (k n:Nat) (w:World):Prop :=
 (k=lf/\∃ S L x y,n=2 * (100 - S.at_)/\RunS l D b0 g gi vp F L0 w0 S L w/\MC b0 g vp S L w/\Blk w gi 217 #[.int .i64 x,.int .i64 y]) \/
 (k=lj/\∃ S L x y,n=2 * (100 - S.at_)+1/\S.at_<=49/\1<=y/\y<=24/\RunS l D b0 g gi vp F L0 w0 (jumpM y S) L w/\MC b0 g vp S L w/\Blk w gi 217 #[.int .i64 x,.int .i64 y]) \/
 (k=le/\n=0/\∃ L,MC b0 g vp F L w/\Mv L0 w0 L w)
theorem RunS.mvw {l:List (Int × Int)} {D:Nat->Int} {b0 g gi:Nat} {vp:Value} {F:MS} {L0:List Nat} {w0:World} {S:MS} {L:List Nat} {w w':World} (h:RunS l D b0 g gi vp F L0 w0 S L w) (hf:Fr w.heap.size [] w w'):RunS l D b0 g gi vp F L0 w0 S L w' :=
 ⟨h.inv,h.new_,h.mv.fr_ hf,h.res,h.few,Nat.le_trans h.base hf.size,h.base0⟩
def recC (x:Nat->Int):List Value:=[.int .i64 (x 0),.int .i64 (x 1),.int .i64 (x 2)]
def cellsR (l:List (Nat->Int)):List Value:=l.flatMap recC
theorem cellsR_length (l:List (Nat->Int)):(cellsR l).length=l.length * 3:=by
 unfold cellsR
 induction l with
 | nil=>rfl
 | cons x l ih=>rw [List.flatMap_cons,List.length_append,ih];simp [recC];omega
theorem recC_get (x:Nat->Int):∀ j,j < 3->(recC x)[j]?=some (.int .i64 (x j))
 | 0,_=>rfl
 | 1,_=>rfl
 | 2,_=>rfl
 | j+3,h=>by omega
theorem cellsR_get:∀ {l:List (Nat->Int)} {k:Nat} {x:Nat->Int},l[k]?=some x -> ∀ j,j < 3->(cellsR l)[k * 3+j]?=some (.int .i64 (x j))
 | [],k,x,h,_,_=>by simp at h
 | y :: l,0,x,h,j,hj=>by
  simp at h;subst h;rw [cellsR,List.flatMap_cons,Nat.zero_mul,Nat.zero_add,List.getElem?_append_left (by simp [recC];omega)];exact recC_get y j hj
 | y :: l,k+1,x,h,j,hj=>by
  rw [cellsR,List.flatMap_cons,List.getElem?_append_right (by simp [recC];omega)];have ih:=cellsR_get (l:=l) (k:=k) (x:=x) (by simpa using h) j hj;have e:(k+1) * 3+j - (recC y).length=k * 3+j:=(by simp [recC];omega);rw [e];exact ih
theorem reads_rec {w:World} {B:Nat} {A:Option Addr} {l:List (Nat->Int)} (h:Reads w B 3 A l.length (cellsR l)) {k:Nat} {x:Nat->Int} (hx:l[k]?=some x) :
  ∃ b off,A=some ⟨b,off,none⟩/\b < B /\ ∀ j,j < 3->w.cell? ⟨b,off+(k * 3+j),none⟩=some (.int .i64 (x j)):=by
 have hk:k < l.length:=by
  rcases Nat.lt_or_ge k l.length with h | h
  · exact h
  · rw [List.getElem?_eq_none h] at hx;cases hx
 obtain ⟨b,off,e,hb,hc⟩:=h.2 (by omega);exact ⟨b,off,e,hb,fun j hj=>hc _ _ (cellsR_get hx j hj)⟩

end Go.Proofs.YtlejomlppjpchaaGreat
