/- Texts merged into one, for the number of files a claim may have: NdH, NdI, NdJ. -/
import Derived.Test.YtgblfflikgnfpaaGreatTY6
import Derived.Deep.RegionHeld3
namespace Go.Proofs.YtgblfflikgnfpaaGreat
open Go.RowKit Go.Fb
set_option maxRecDepth 100000
set_option maxHeartbeats 16000000
set_option linter.unusedVariables false
inductive StN (c:Ndm->Ndm->Int) (xs0:List Ndm):Nat->Nat->List Ndm->Prop
 | start:StN c xs0 1 1 xs0
 | swap {i j:Nat} {xs:List Ndm} {a b:Ndm}:StN c xs0 i (j+1) xs->xs[j+1]?=some a->xs[j]?=some b->c a b < 0->StN c xs0 i j ((xs.set (j+1) b).set j a)
 | next {i j:Nat} {xs:List Ndm}:StN c xs0 i j xs->(j=0 \/ ∃ k a b,j=k+1/\xs[k+1]?=some a/\xs[k]?=some b/\¬ c a b < 0)->StN c xs0 (i+1) (i+1) xs
theorem StN.len {c:Ndm->Ndm->Int} {xs0:List Ndm} {i j:Nat} {xs:List Ndm} (h:StN c xs0 i j xs):xs.length=xs0.length:=by
 induction h with
 | start=>rfl
 | swap _ _ _ _ ih=>simpa using ih
 | next _ _ ih=>exact ih
theorem StN.mem {c:Ndm->Ndm->Int} {xs0:List Ndm} {i j:Nat} {xs:List Ndm} (h:StN c xs0 i j xs):∀ x ∈ xs,x ∈ xs0:=by
 induction h with
 | start=>exact fun _ h=>h
 | swap _ ha hb _ ih =>
  intro x hx
  rcases List.mem_or_eq_of_mem_set hx with hx | rfl
  ·
   rcases List.mem_or_eq_of_mem_set hx with hx | rfl
   · exact ih x hx
   · exact ih _ (List.mem_of_getElem? hb)
  · exact ih _ (List.mem_of_getElem? ha)
 | next _ _ ih=>exact ih
theorem ownsRow_setN {w:World} {base e size n g c:Nat} {xs:List Value} (h:w.ownsRow base e size (.slice (some ⟨g,0,none⟩) n c) n xs) (k:Nat) (u:Value) :
  (w.setCell ⟨g,k,none⟩ u).ownsRow base e size (.slice (some ⟨g,0,none⟩) n c) n (xs.set k u):=by
 obtain ⟨hl,hc⟩:=h;refine ⟨by rw [List.length_set];exact hl,.inr ?_⟩
 rcases hc with ⟨hn,_⟩ | ⟨g',cap,cur,hv,hb,hg,h1,h2,h3,h4⟩
 · cases hn
 ·
  have hv':=hv;injection hv with hv1 hv2 hv3
  injection hv1 with hv1
  injection hv1 with hv1
  subst hv1;refine ⟨g,cap,cur.setIfInBounds k u,hv',hb,?_,h1,h2,by rw [Array.size_setIfInBounds];exact h3,?_⟩
  · simp [World.setCell,Array.getElem?_modify,hg]
  · rw [Array.toList_setIfInBounds,List.take_set,h4]
def setAt (xs:List Value) (o:Nat):Nat->List Value->List Value
 | _,[]=>xs
 | j,u :: us=>setAt (xs.set (o+j) u) o (j+1) us
theorem setAt_cons (a:Value) (o:Nat):∀ (us xs:List Value) (j:Nat),setAt (a :: xs) (o+1) j us=a :: setAt xs o j us
 | [],_,_=>rfl
 | u :: us,xs,j=>by
  show setAt ((a :: xs).set (o+1+j) u) (o+1) (j+1) us=a :: setAt (xs.set (o+j) u) o (j+1) us
  rw [show o+1+j=(o+j)+1 by omega,List.set_cons_succ];exact setAt_cons a o us (xs.set (o+j) u) (j+1)
theorem setAt_app (ls xs:List Value) (o:Nat) (us:List Value):setAt (ls ++ xs) (ls.length+o) 0 us=ls ++ setAt xs o 0 us:=by
 induction ls with
 | nil=>simp
 | cons a ls ih=>rw [List.cons_append,List.length_cons,show ls.length+1+o=(ls.length+o)+1 by omega,setAt_cons,ih];rfl
theorem cellsN_set:∀ (M:List Ndm) (i:Nat) (m:Ndm),i < M.length->cellsN (M.set i m)=setAt (cellsN M) (i * 13) 0 (ndL m)
 | [],i,m,h=>by simp at h
 | y :: M,0,m,_=>by
  show ndL m ++ cellsN M=setAt (ndL y ++ cellsN M) (0 * 13) 0 (ndL m)
  rfl
 | y :: M,i+1,m,h=>by
  have ih:=cellsN_set M i m (by simpa using h);rw [List.set_cons_succ]
  show ndL y ++ cellsN (M.set i m)=setAt (ndL y ++ cellsN M) ((i+1) * 13) 0 (ndL m)
  rw [ih,show (i+1) * 13=(ndL y).length+i * 13 by simp [ndL];omega,setAt_app]
theorem nd_cell {w:World} {base n g c:Nat} {M:List Ndm} (h:w.ownsRow base 66 13 (.slice (some ⟨g,0,none⟩) n c) n (cellsN M)) {k:Nat} {m:Ndm} (hk:M[k]?=some m) (j:Nat) (u:Value) (hu:(ndL m)[j]?=some u):w.cell? ⟨g,k * 13+j,none⟩=some u:=by
 have hj:j < 13:=by
  rcases Nat.lt_or_ge j 13 with h | h
  · exact h
  · rw [List.getElem?_eq_none (by have:(ndL m).length=13:=rfl;omega)] at hu;cases hu
 have h1:(cellsN M)[k * 13+j]?=some u:=(by rw [cellsN_get hk j hj];exact hu)
 have hn:0 < n:=by
  rcases Nat.eq_zero_or_pos n with h0 | h0
  · have hl:=h.1;have:(cellsN M).length=0:=(by rw [hl,h0]);rw [List.getElem?_eq_none (by omega)] at h1;cases h1
  · exact h0
 obtain ⟨b,off,e,_,hc⟩:=(Reads.of_own h).2 hn;injection e with e
 injection e with e1 e2 _
 subst e1;subst e2;have:=hc _ u h1;simpa using this
def setW (w:World) (g o:Nat):Nat->List Value->World
 | _,[]=>w
 | j,u :: us=>setW (w.setCell ⟨g,o+j,none⟩ u) g o (j+1) us
theorem nest_nd (w:World) (g o:Nat) (u0 u1 u2 u3 u4 u5 u6 u7 u8 u9 u10 u11 u12:Value):(((((((((((((w.setCell ⟨g,o,none⟩ u0).setCell ⟨g,o+1,none⟩ u1).setCell ⟨g,o+2,none⟩ u2).setCell ⟨g,o+3,none⟩ u3).setCell ⟨g,o+4,none⟩ u4).setCell ⟨g,o+5,none⟩ u5).setCell ⟨g,o+6,none⟩ u6).setCell ⟨g,o+7,none⟩ u7).setCell ⟨g,o+8,none⟩ u8).setCell ⟨g,o+9,none⟩ u9).setCell ⟨g,o+10,none⟩ u10).setCell ⟨g,o+11,none⟩ u11).setCell ⟨g,o+12,none⟩ u12)=setW w g o 0 [u0,u1,u2,u3,u4,u5,u6,u7,u8,u9,u10,u11,u12]:=rfl
theorem owns_setW {base e size n g c o:Nat}:∀ (us:List Value) (j:Nat) (w:World) (xs:List Value),w.ownsRow base e size (.slice (some ⟨g,0,none⟩) n c) n xs->(setW w g o j us).ownsRow base e size (.slice (some ⟨g,0,none⟩) n c) n (setAt xs o j us)
 | [],_,_,_,h=>h
 | u :: us,j,_,_,h=>owns_setW us (j+1) _ _ (ownsRow_setN h (o+j) u)
theorem fr_setW {B g o:Nat} {L:List Nat} {a:World} (hg:B<=g \/ g ∈ L):∀ (us:List Value) (j:Nat) (w:World),Fr B L a w->Fr B L a (setW w g o j us)
 | [],_,_,h=>h
 | u :: us,j,_,h=>fr_setW hg us (j+1) _ (h.setCell (p:=⟨g,o+j,none⟩) hg u)
def SlN (m:Ndm):Prop:=∃ A n c P q d,m.2.1=.slice A n c/\m.2.2=.slice P q d
theorem ninsort_any (F:FuncId) (cap:Array Value) (c:Ndm->Ndm->Int) (base g n cp':Nat) (xs0:List Ndm) (w:World) (hn:n<=20) (hn0:0 < n) (hl:xs0.length=n) (hsl:∀ m ∈ xs0,SlN m) (hent:∀ (args:Array Value) (w:World),(callFunc F args).run Tryz.prog w=.ok (.enter F args) w)
  (hF:∀ (a b:Ndm) (w':World),a ∈ xs0->b ∈ xs0->Fr w.heap.size [g] w w'->Calls Tryz.prog F (#[.agg (ndA a.1 a.2.1 a.2.2),.agg (ndA b.1 b.2.1 b.2.2)] ++ cap) w' fun e w''=>e=.returned (.int .i64 (c a b))/\Fr w'.heap.size [] w' w'')
  (ho:w.ownsRow base 66 13 (.slice (some ⟨g,0,none⟩) n cp') n (cellsN xs0)) :
  Calls Tryz.prog 188 #[.slice (some ⟨g,0,none⟩) n cp',.int .i64 0,.int .i64 n,.func (.func F) #[] cap] w fun e w'=>∃ xs,e=.returned (.tuple #[])/\StN c xs0 n n xs/\w'.ownsRow base 66 13 (.slice (some ⟨g,0,none⟩) n cp') n (cellsN xs)/\Fr w.heap.size [g] w w':=by
 have HF:=zh hF;have HO:=zh ho;have HSL:=zh hsl;have HL:=zh hl;have hlt:=(ho.lt g rfl).2;clear hF ho hsl hl;go_enter Tryz.func188,Tryz.ntmps188;go_wp2_with fail;go_loopw [8] (fun s wr=>∃ (i:Nat) (xs:List Ndm),1<=i/\(i<=n \/ i=1)/\s=.int .i64 i/\Hid (∃ j,StN c xs0 i j xs/\j=i)/\Hid (wr.ownsRow base 66 13 (.slice (some ⟨g,0,none⟩) n cp') n (cellsN xs))/\Hid (Fr w.heap.size [g] w wr)) (fun s _=>n - (intOf s).toNat)
 case atStart=>exact ⟨1,xs0,by omega,.inr rfl,rfl,⟨1,.start,rfl⟩,HO,Fr.refl _ _ _⟩
 case round =>
  obtain ⟨i,xs,hi1,hin,rfl,HS,HR,HG⟩:=hrel
  by_cases hilt:i < n
  ·
   go_wp2_with fail;go_loopw [9] (fun s wr=>∃ (j:Nat) (xs:List Ndm),j<=i/\s=.int .i64 j/\Hid (StN c xs0 i j xs)/\Hid (wr.ownsRow base 66 13 (.slice (some ⟨g,0,none⟩) n cp') n (cellsN xs))/\Hid (Fr w.heap.size [g] w wr)) (fun s _=>(intOf s).toNat)
   case atStart =>
    obtain ⟨j,hj,rfl⟩:=HS.out;exact ⟨_,xs,Nat.le_refl _,rfl,hj,HR,HG⟩
   case round =>
    obtain ⟨j,ys,hji,rfl,HSj,HRj,HGj⟩:=hrel;have hyl:ys.length=n:=(by rw [HSj.out.len,HL.out]);have HYL:=zh hyl;clear hyl
    by_cases hj0:0 < j
    ·
     obtain ⟨k,rfl⟩:∃ k,j=k+1:=⟨j - 1,by omega⟩;obtain ⟨a,ha⟩:∃ a,ys[k+1]?=some a:=⟨_,List.getElem?_eq_getElem (by rw [HYL.out];omega)⟩;obtain ⟨b,hb⟩:∃ b,ys[k]?=some b:=⟨_,List.getElem?_eq_getElem (by rw [HYL.out];omega)⟩;have ma:a ∈ xs0:=HSj.out.mem _ (List.mem_of_getElem? ha);have mb:b ∈ xs0:=HSj.out.mem _ (List.mem_of_getElem? hb);obtain ⟨Af,nf,cf,Ap,np,cp,ea1,ea2⟩:=HSL.out a ma;obtain ⟨Bf,mf,df,Bp,mp,dp,eb1,eb2⟩:=HSL.out b mb;obtain ⟨x,sfa,spa⟩:=a;obtain ⟨y,sfb,spb⟩:=b;simp only at ea1 ea2 eb1 eb2;subst ea1;subst ea2;subst eb1;subst eb2;have HA:=zh ha;have HB:=zh hb;obtain ⟨cv,hcv⟩:=nm (c (x,.slice Af nf cf,.slice Ap np cp) (y,.slice Bf mf df,.slice Bp mp dp));have HCV:=zh hcv;have HC:=zh (fun (wx:World) (h:Fr w.heap.size [g] w wx)=>(by rw [hcv];exact HF.out _ _ wx ma mb h:Calls Tryz.prog F (#[.agg (ndA x (.slice Af nf cf) (.slice Ap np cp)),.agg (ndA y (.slice Bf mf df) (.slice Bp mp dp))] ++ cap) wx fun e w''=>e=.returned (.int .i64 cv)/\Fr wx.heap.size [] wx w''));clear ha hb ma mb hcv;have hk1:((k:Int)+1) < (n:Int):=(by omega);have hk2:(k:Int) < (n:Int):=(by omega);have hk3:(0:Int)<=(k:Int):=(by omega);have hk4:(0:Int)<=(k:Int)+1:=(by omega);have hw1:IntKind.i64.wrap (k:Int)=(k:Int):=(by rw [IntKind.wrap_i64];omega);have hw2:IntKind.i64.wrap ((k:Int)+1 - 1)=(k:Int):=(by rw [IntKind.wrap_i64];omega);have INV:Hid (wr.drew.ownsRow base 66 13 (.slice (some ⟨g,0,none⟩) n cp') n (cellsN ys)/\Fr w.heap.size [g] w wr.drew):=⟨HRj.out,HGj.out.drew⟩
     by_cases hc:cv < 0
     ·
      go_wp2_with fail
      go_region_held3 (fun wx=>wx.cell? ⟨g,(k+1) * 13,none⟩=some (.int .i64 x.id)/\wx.cell? ⟨g,(k+1) * 13+1,none⟩=some (.int .i64 x.kind)/\wx.cell? ⟨g,(k+1) * 13+2,none⟩=some (.slice Af nf cf)/\wx.cell? ⟨g,(k+1) * 13+3,none⟩=some (.slice Ap np cp)/\wx.cell? ⟨g,(k+1) * 13+4,none⟩=some (.int .i64 x.par)/\wx.cell? ⟨g,(k+1) * 13+5,none⟩=some (.int .i64 (x.rt 0))/\wx.cell? ⟨g,(k+1) * 13+6,none⟩=some (.int .i64 (x.rt 1))/\wx.cell? ⟨g,(k+1) * 13+7,none⟩=some (.int .i64 (x.rt 2))/\wx.cell? ⟨g,(k+1) * 13+8,none⟩=some (.int .i64 (x.rt 3))/\wx.cell? ⟨g,(k+1) * 13+9,none⟩=some (.int .i64 (x.rt 4))/\wx.cell? ⟨g,(k+1) * 13+10,none⟩=some (.int .i64 (x.rt 5))/\wx.cell? ⟨g,(k+1) * 13+11,none⟩=some (.int .i64 (x.rt 6))/\wx.cell? ⟨g,(k+1) * 13+12,none⟩=some (.int .i64 (x.rt 7))/\wx.cell? ⟨g,k * 13,none⟩=some (.int .i64 y.id)/\wx.cell? ⟨g,k * 13+1,none⟩=some (.int .i64 y.kind)/\wx.cell? ⟨g,k * 13+2,none⟩=some (.slice Bf mf df)/\wx.cell? ⟨g,k * 13+3,none⟩=some (.slice Bp mp dp)/\wx.cell? ⟨g,k * 13+4,none⟩=some (.int .i64 y.par)/\wx.cell? ⟨g,k * 13+5,none⟩=some (.int .i64 (y.rt 0))/\wx.cell? ⟨g,k * 13+6,none⟩=some (.int .i64 (y.rt 1))/\wx.cell? ⟨g,k * 13+7,none⟩=some (.int .i64 (y.rt 2))/\wx.cell? ⟨g,k * 13+8,none⟩=some (.int .i64 (y.rt 3))/\wx.cell? ⟨g,k * 13+9,none⟩=some (.int .i64 (y.rt 4))/\wx.cell? ⟨g,k * 13+10,none⟩=some (.int .i64 (y.rt 5))/\wx.cell? ⟨g,k * 13+11,none⟩=some (.int .i64 (y.rt 6))/\wx.cell? ⟨g,k * 13+12,none⟩=some (.int .i64 (y.rt 7))) (exact ⟨nd_cell INV.out.1 HA.out 0 _ rfl,nd_cell INV.out.1 HA.out 1 _ rfl,nd_cell INV.out.1 HA.out 2 _ rfl,nd_cell INV.out.1 HA.out 3 _ rfl,nd_cell INV.out.1 HA.out 4 _ rfl,nd_cell INV.out.1 HA.out 5 _ rfl,nd_cell INV.out.1 HA.out 6 _ rfl,nd_cell INV.out.1 HA.out 7 _ rfl,nd_cell INV.out.1 HA.out 8 _ rfl,nd_cell INV.out.1 HA.out 9 _ rfl,nd_cell INV.out.1 HA.out 10 _ rfl,nd_cell INV.out.1 HA.out 11 _ rfl,nd_cell INV.out.1 HA.out 12 _ rfl,nd_cell INV.out.1 HB.out 0 _ rfl,nd_cell INV.out.1 HB.out 1 _ rfl,nd_cell INV.out.1 HB.out 2 _ rfl,nd_cell INV.out.1 HB.out 3 _ rfl,nd_cell INV.out.1 HB.out 4 _ rfl,nd_cell INV.out.1 HB.out 5 _ rfl,nd_cell INV.out.1 HB.out 6 _ rfl,nd_cell INV.out.1 HB.out 7 _ rfl,nd_cell INV.out.1 HB.out 8 _ rfl,nd_cell INV.out.1 HB.out 9 _ rfl,nd_cell INV.out.1 HB.out 10 _ rfl,nd_cell INV.out.1 HB.out 11 _ rfl,nd_cell INV.out.1 HB.out 12 _ rfl⟩)
       ((refine (HC.out _ INV.out.2).mono ?_;rintro e w4 ⟨rfl,f4⟩;have INV:Hid (w4.ownsRow base 66 13 (.slice (some ⟨g,0,none⟩) n cp') n (cellsN ys)/\Fr w.heap.size [g] w w4):=⟨ownsRow_fr INV.out.1 f4 (fun q hq=>⟨(INV.out.1.lt q hq).2,by simp⟩),INV.out.2.trans (f4.mono INV.out.2.size (by simp))⟩;clear f4))
      all_goals
       obtain ⟨pa0,pa1,pa2,pa3,pa4,pa5,pa6,pa7,pa8,pa9,pa10,pa11,pa12,pb0,pb1,pb2,pb3,pb4,pb5,pb6,pb7,pb8,pb9,pb10,pb11,pb12⟩:=(⟨nd_cell INV.out.1 HA.out 0 _ rfl,nd_cell INV.out.1 HA.out 1 _ rfl,nd_cell INV.out.1 HA.out 2 _ rfl,nd_cell INV.out.1 HA.out 3 _ rfl,nd_cell INV.out.1 HA.out 4 _ rfl,nd_cell INV.out.1 HA.out 5 _ rfl,nd_cell INV.out.1 HA.out 6 _ rfl,nd_cell INV.out.1 HA.out 7 _ rfl,nd_cell INV.out.1 HA.out 8 _ rfl,nd_cell INV.out.1 HA.out 9 _ rfl,nd_cell INV.out.1 HA.out 10 _ rfl,nd_cell INV.out.1 HA.out 11 _ rfl,nd_cell INV.out.1 HA.out 12 _ rfl,nd_cell INV.out.1 HB.out 0 _ rfl,nd_cell INV.out.1 HB.out 1 _ rfl,nd_cell INV.out.1 HB.out 2 _ rfl,nd_cell INV.out.1 HB.out 3 _ rfl,nd_cell INV.out.1 HB.out 4 _ rfl,nd_cell INV.out.1 HB.out 5 _ rfl,nd_cell INV.out.1 HB.out 6 _ rfl,nd_cell INV.out.1 HB.out 7 _ rfl,nd_cell INV.out.1 HB.out 8 _ rfl,nd_cell INV.out.1 HB.out 9 _ rfl,nd_cell INV.out.1 HB.out 10 _ rfl,nd_cell INV.out.1 HB.out 11 _ rfl,nd_cell INV.out.1 HB.out 12 _ rfl⟩:w4.cell? ⟨g,(k+1) * 13,none⟩=some (.int .i64 x.id)/\w4.cell? ⟨g,(k+1) * 13+1,none⟩=some (.int .i64 x.kind)/\w4.cell? ⟨g,(k+1) * 13+2,none⟩=some (.slice Af nf cf)/\w4.cell? ⟨g,(k+1) * 13+3,none⟩=some (.slice Ap np cp)/\w4.cell? ⟨g,(k+1) * 13+4,none⟩=some (.int .i64 x.par)/\w4.cell? ⟨g,(k+1) * 13+5,none⟩=some (.int .i64 (x.rt 0))/\w4.cell? ⟨g,(k+1) * 13+6,none⟩=some (.int .i64 (x.rt 1))/\w4.cell? ⟨g,(k+1) * 13+7,none⟩=some (.int .i64 (x.rt 2))/\w4.cell? ⟨g,(k+1) * 13+8,none⟩=some (.int .i64 (x.rt 3))/\w4.cell? ⟨g,(k+1) * 13+9,none⟩=some (.int .i64 (x.rt 4))/\w4.cell? ⟨g,(k+1) * 13+10,none⟩=some (.int .i64 (x.rt 5))/\w4.cell? ⟨g,(k+1) * 13+11,none⟩=some (.int .i64 (x.rt 6))/\w4.cell? ⟨g,(k+1) * 13+12,none⟩=some (.int .i64 (x.rt 7))/\w4.cell? ⟨g,k * 13,none⟩=some (.int .i64 y.id)/\w4.cell? ⟨g,k * 13+1,none⟩=some (.int .i64 y.kind)/\w4.cell? ⟨g,k * 13+2,none⟩=some (.slice Bf mf df)/\w4.cell? ⟨g,k * 13+3,none⟩=some (.slice Bp mp dp)/\w4.cell? ⟨g,k * 13+4,none⟩=some (.int .i64 y.par)/\w4.cell? ⟨g,k * 13+5,none⟩=some (.int .i64 (y.rt 0))/\w4.cell? ⟨g,k * 13+6,none⟩=some (.int .i64 (y.rt 1))/\w4.cell? ⟨g,k * 13+7,none⟩=some (.int .i64 (y.rt 2))/\w4.cell? ⟨g,k * 13+8,none⟩=some (.int .i64 (y.rt 3))/\w4.cell? ⟨g,k * 13+9,none⟩=some (.int .i64 (y.rt 4))/\w4.cell? ⟨g,k * 13+10,none⟩=some (.int .i64 (y.rt 5))/\w4.cell? ⟨g,k * 13+11,none⟩=some (.int .i64 (y.rt 6))/\w4.cell? ⟨g,k * 13+12,none⟩=some (.int .i64 (y.rt 7)));have za0:=INV.out.1.frozenAt ((k+1) * 13);have zb0:=INV.out.1.frozenAt (k * 13);have za1:=INV.out.1.frozenAt ((k+1) * 13+1);have zb1:=INV.out.1.frozenAt (k * 13+1);have za2:=INV.out.1.frozenAt ((k+1) * 13+2);have zb2:=INV.out.1.frozenAt (k * 13+2);have za3:=INV.out.1.frozenAt ((k+1) * 13+3);have zb3:=INV.out.1.frozenAt (k * 13+3);have za4:=INV.out.1.frozenAt ((k+1) * 13+4);have zb4:=INV.out.1.frozenAt (k * 13+4);have za5:=INV.out.1.frozenAt ((k+1) * 13+5);have zb5:=INV.out.1.frozenAt (k * 13+5);have za6:=INV.out.1.frozenAt ((k+1) * 13+6);have zb6:=INV.out.1.frozenAt (k * 13+6);have za7:=INV.out.1.frozenAt ((k+1) * 13+7);have zb7:=INV.out.1.frozenAt (k * 13+7);have za8:=INV.out.1.frozenAt ((k+1) * 13+8);have zb8:=INV.out.1.frozenAt (k * 13+8);have za9:=INV.out.1.frozenAt ((k+1) * 13+9);have zb9:=INV.out.1.frozenAt (k * 13+9);have za10:=INV.out.1.frozenAt ((k+1) * 13+10);have zb10:=INV.out.1.frozenAt (k * 13+10);have za11:=INV.out.1.frozenAt ((k+1) * 13+11);have zb11:=INV.out.1.frozenAt (k * 13+11);have za12:=INV.out.1.frozenAt ((k+1) * 13+12);have zb12:=INV.out.1.frozenAt (k * 13+12);go_wp2_with fail;go_region
       all_goals
        go_wp2_with fail;go_roundw
        case rel =>
         refine ⟨k,(ys.set (k+1) (y,.slice Bf mf df,.slice Bp mp dp)).set k (x,.slice Af nf cf,.slice Ap np cp),by omega,by go_num,zh (StN.swap HSj.out HA.out HB.out (by rw [<- HCV.out];exact hc)),?_,?_⟩
         ·
          show World.ownsRow _ _ _ _ _ _ _
          rw [cellsN_set _ _ _ (by rw [List.length_set,HYL.out];omega),cellsN_set _ _ _ (by rw [HYL.out];omega)];have e1:=owns_setW (o:=(k+1) * 13) [.int .i64 y.id,.int .i64 y.kind,.slice Bf mf df,.slice Bp mp dp,.int .i64 y.par,.int .i64 (y.rt 0),.int .i64 (y.rt 1),.int .i64 (y.rt 2),.int .i64 (y.rt 3),.int .i64 (y.rt 4),.int .i64 (y.rt 5),.int .i64 (y.rt 6),.int .i64 (y.rt 7)] 0 w4 _ INV.out.1;rw [<- nest_nd] at e1;have e2:=owns_setW (o:=k * 13) [.int .i64 x.id,.int .i64 x.kind,.slice Af nf cf,.slice Ap np cp,.int .i64 x.par,.int .i64 (x.rt 0),.int .i64 (x.rt 1),.int .i64 (x.rt 2),.int .i64 (x.rt 3),.int .i64 (x.rt 4),.int .i64 (x.rt 5),.int .i64 (x.rt 6),.int .i64 (x.rt 7)] 0 _ _ e1;rw [<- nest_nd] at e2;have e3:=ownsRow_fr e2 (Fr.refl _ [] _).drew (fun q hq=>⟨(e2.lt q hq).2,by simp⟩);have hb2:ndL (y,.slice Bf mf df,.slice Bp mp dp)=[.int .i64 y.id,.int .i64 y.kind,.slice Bf mf df,.slice Bp mp dp,.int .i64 y.par,.int .i64 (y.rt 0),.int .i64 (y.rt 1),.int .i64 (y.rt 2),.int .i64 (y.rt 3),.int .i64 (y.rt 4),.int .i64 (y.rt 5),.int .i64 (y.rt 6),.int .i64 (y.rt 7)]:=rfl;have ha2:ndL (x,.slice Af nf cf,.slice Ap np cp)=[.int .i64 x.id,.int .i64 x.kind,.slice Af nf cf,.slice Ap np cp,.int .i64 x.par,.int .i64 (x.rt 0),.int .i64 (x.rt 1),.int .i64 (x.rt 2),.int .i64 (x.rt 3),.int .i64 (x.rt 4),.int .i64 (x.rt 5),.int .i64 (x.rt 6),.int .i64 (x.rt 7)]:=rfl;rw [hb2,ha2];exact e3
         · have e1:=fr_setW (B:=w.heap.size) (L:=[g]) (g:=g) (o:=(k+1) * 13) (.inr (by simp)) [.int .i64 y.id,.int .i64 y.kind,.slice Bf mf df,.slice Bp mp dp,.int .i64 y.par,.int .i64 (y.rt 0),.int .i64 (y.rt 1),.int .i64 (y.rt 2),.int .i64 (y.rt 3),.int .i64 (y.rt 4),.int .i64 (y.rt 5),.int .i64 (y.rt 6),.int .i64 (y.rt 7)] 0 w4 INV.out.2;rw [<- nest_nd] at e1;have e2:=fr_setW (B:=w.heap.size) (L:=[g]) (g:=g) (o:=k * 13) (.inr (by simp)) [.int .i64 x.id,.int .i64 x.kind,.slice Af nf cf,.slice Ap np cp,.int .i64 x.par,.int .i64 (x.rt 0),.int .i64 (x.rt 1),.int .i64 (x.rt 2),.int .i64 (x.rt 3),.int .i64 (x.rt 4),.int .i64 (x.rt 5),.int .i64 (x.rt 6),.int .i64 (x.rt 7)] 0 _ e1;rw [<- nest_nd] at e2;exact e2.drew
        case measure=>simp [intOf]
     ·
      go_wp2_with fail
      go_region_held3 (fun wx=>wx.cell? ⟨g,(k+1) * 13,none⟩=some (.int .i64 x.id)/\wx.cell? ⟨g,(k+1) * 13+1,none⟩=some (.int .i64 x.kind)/\wx.cell? ⟨g,(k+1) * 13+2,none⟩=some (.slice Af nf cf)/\wx.cell? ⟨g,(k+1) * 13+3,none⟩=some (.slice Ap np cp)/\wx.cell? ⟨g,(k+1) * 13+4,none⟩=some (.int .i64 x.par)/\wx.cell? ⟨g,(k+1) * 13+5,none⟩=some (.int .i64 (x.rt 0))/\wx.cell? ⟨g,(k+1) * 13+6,none⟩=some (.int .i64 (x.rt 1))/\wx.cell? ⟨g,(k+1) * 13+7,none⟩=some (.int .i64 (x.rt 2))/\wx.cell? ⟨g,(k+1) * 13+8,none⟩=some (.int .i64 (x.rt 3))/\wx.cell? ⟨g,(k+1) * 13+9,none⟩=some (.int .i64 (x.rt 4))/\wx.cell? ⟨g,(k+1) * 13+10,none⟩=some (.int .i64 (x.rt 5))/\wx.cell? ⟨g,(k+1) * 13+11,none⟩=some (.int .i64 (x.rt 6))/\wx.cell? ⟨g,(k+1) * 13+12,none⟩=some (.int .i64 (x.rt 7))/\wx.cell? ⟨g,k * 13,none⟩=some (.int .i64 y.id)/\wx.cell? ⟨g,k * 13+1,none⟩=some (.int .i64 y.kind)/\wx.cell? ⟨g,k * 13+2,none⟩=some (.slice Bf mf df)/\wx.cell? ⟨g,k * 13+3,none⟩=some (.slice Bp mp dp)/\wx.cell? ⟨g,k * 13+4,none⟩=some (.int .i64 y.par)/\wx.cell? ⟨g,k * 13+5,none⟩=some (.int .i64 (y.rt 0))/\wx.cell? ⟨g,k * 13+6,none⟩=some (.int .i64 (y.rt 1))/\wx.cell? ⟨g,k * 13+7,none⟩=some (.int .i64 (y.rt 2))/\wx.cell? ⟨g,k * 13+8,none⟩=some (.int .i64 (y.rt 3))/\wx.cell? ⟨g,k * 13+9,none⟩=some (.int .i64 (y.rt 4))/\wx.cell? ⟨g,k * 13+10,none⟩=some (.int .i64 (y.rt 5))/\wx.cell? ⟨g,k * 13+11,none⟩=some (.int .i64 (y.rt 6))/\wx.cell? ⟨g,k * 13+12,none⟩=some (.int .i64 (y.rt 7))) (exact ⟨nd_cell INV.out.1 HA.out 0 _ rfl,nd_cell INV.out.1 HA.out 1 _ rfl,nd_cell INV.out.1 HA.out 2 _ rfl,nd_cell INV.out.1 HA.out 3 _ rfl,nd_cell INV.out.1 HA.out 4 _ rfl,nd_cell INV.out.1 HA.out 5 _ rfl,nd_cell INV.out.1 HA.out 6 _ rfl,nd_cell INV.out.1 HA.out 7 _ rfl,nd_cell INV.out.1 HA.out 8 _ rfl,nd_cell INV.out.1 HA.out 9 _ rfl,nd_cell INV.out.1 HA.out 10 _ rfl,nd_cell INV.out.1 HA.out 11 _ rfl,nd_cell INV.out.1 HA.out 12 _ rfl,nd_cell INV.out.1 HB.out 0 _ rfl,nd_cell INV.out.1 HB.out 1 _ rfl,nd_cell INV.out.1 HB.out 2 _ rfl,nd_cell INV.out.1 HB.out 3 _ rfl,nd_cell INV.out.1 HB.out 4 _ rfl,nd_cell INV.out.1 HB.out 5 _ rfl,nd_cell INV.out.1 HB.out 6 _ rfl,nd_cell INV.out.1 HB.out 7 _ rfl,nd_cell INV.out.1 HB.out 8 _ rfl,nd_cell INV.out.1 HB.out 9 _ rfl,nd_cell INV.out.1 HB.out 10 _ rfl,nd_cell INV.out.1 HB.out 11 _ rfl,nd_cell INV.out.1 HB.out 12 _ rfl⟩)
       ((refine (HC.out _ INV.out.2).mono ?_;rintro e w4 ⟨rfl,f4⟩;have INV:Hid (w4.ownsRow base 66 13 (.slice (some ⟨g,0,none⟩) n cp') n (cellsN ys)/\Fr w.heap.size [g] w w4):=⟨ownsRow_fr INV.out.1 f4 (fun q hq=>⟨(INV.out.1.lt q hq).2,by simp⟩),INV.out.2.trans (f4.mono INV.out.2.size (by simp))⟩;clear f4))
      all_goals
       go_wp2_with fail;go_roundw
       case rel=>exact ⟨i+1,ys,by omega,.inl (by omega),by go_num,⟨i+1,StN.next HSj.out (.inr ⟨k,_,_,rfl,HA.out,HB.out,by rw [<- HCV.out];omega⟩),rfl⟩,INV.out.1,INV.out.2⟩
       case measure=>simp [intOf];omega
    ·
     obtain rfl:j=0:=by omega
     go_wp2_with fail;go_quiet (fail);go_wp2_with fail;go_roundw
     case rel=>exact ⟨i+1,ys,by omega,.inl (by omega),by go_num,⟨i+1,StN.next HSj.out (.inl rfl),rfl⟩,HRj.out,HGj.out.drewN nq⟩
     case measure=>simp [intOf];omega
  ·
   obtain rfl:i=n:=by omega
   obtain ⟨j,hj,rfl⟩:=HS.out;go_wp2_with fail;go_end0;exact ⟨xs,rfl,hj,HR.out,HG.out⟩
theorem nodeTy:SliceTy Tryz.prog 27 66 13 136:=SliceTy.mk' (z:=.agg ndZ) Tryz.underlying27 (by kernel_rfl) rfl (by omega)
def cmpId (a b:Ndm):Int:=if a.1.id < b.1.id then -1 else if b.1.id < a.1.id then 1 else 0
theorem ncmp_any (a b:Ndm) (w:World):Calls Tryz.prog 147 #[.agg (ndA a.1 a.2.1 a.2.2),.agg (ndA b.1 b.2.1 b.2.2)] w fun e w'=>e=.returned (.int .i64 (cmpId a b))/\Fr w.heap.size [] w w':=by
 obtain ⟨x,sf,sp⟩:=a;obtain ⟨y,tf,tp⟩:=b;have BA:=zh ((Blk.new w 66 (ndA x sf sp)).alloc (.cells (ndA y tf tp) 66));have BB0:=Blk.new (w.alloc (.cells (ndA x sf sp) 66)) 66 (ndA y tf tp);rw [World.size_alloc] at BB0;have BB:=zh BB0;have F1:=zh (((Fr.refl w.heap.size [] w).alloc (Nat.le_refl _) (.cells (ndA x sf sp) 66)).alloc (by simp) (.cells (ndA y tf tp) 66));clear BB0;go_enter Tryz.func147,Tryz.ntmps147;go_upto_region 1 with fail;generalize (w.alloc _).alloc _=w1 at *;have a0:=BA.out.cell 0;have b0:=BB.out.cell 0;simp at a0 b0;obtain ⟨i,hi⟩:=nm (x.id);obtain ⟨j,hj⟩:=nm (y.id);obtain ⟨v,hv⟩:=nm (cmpId (x,sf,sp) (y,tf,tp));have hv2:v=if i < j then -1 else if j < i then 1 else 0:=by rw [hv,hi,hj];rfl
 rw [<- hi] at a0;rw [<- hj] at b0;have HV:=zh hv2;have HW:=zh hv;clear hi hj hv hv2
 by_cases h1:i < j
 ·
  have h:v = -1:=by rw [HV.out,if_pos h1]
  have H:=zh h;clear h HV;go_wp2_with fail;go_ret;exact ⟨by rw [<- HW.out,H.out];rfl,F1.out⟩
 ·
  by_cases h2:j < i
  ·
   have h:v=1:=by rw [HV.out,if_neg h1,if_pos h2]
   have H:=zh h;clear h HV;go_wp2_with fail;go_ret;exact ⟨by rw [<- HW.out,H.out];rfl,F1.out⟩
  ·
   have h:v=0:=by rw [HV.out,if_neg h1,if_neg h2]
   have H:=zh h;clear h HV;go_wp2_with fail;go_ret;exact ⟨by rw [<- HW.out,H.out];rfl,F1.out⟩
theorem ninsort_same (a:Int) (h0:0<=a) (h1:a<=1000) (A:Option Addr) (n c:Nat) (fn:Value) (w:World) :
  Calls Tryz.prog 188 #[.slice A n c,.int .i64 a,.int .i64 a,fn] w fun e w'=>e=.returned (.tuple #[])/\w=w':=by
 go_enter Tryz.func188,Tryz.ntmps188;go_wp2_with fail;go_loop [8] (fun s=>s=.int .i64 (a+1)) (fun _=>0)
 case atStart=>rfl
 case round =>
  subst hrel;go_wp2_with fail;go_end0;exact ⟨rfl,rfl⟩
theorem swap_split {α:Type}:∀ {xs:List α} {j:Nat} {a b:α},xs[j+1]?=some a->xs[j]?=some b->∃ l1 l2,xs=l1 ++ b :: a :: l2/\(xs.set (j+1) b).set j a=l1 ++ a :: b :: l2
 | [],_,_,_,h,_=>by simp at h
 | [x],0,_,_,h,_=>by simp at h
 | x :: y :: xs,0,a,b,ha,hb=>by
  simp at ha hb;subst ha hb;exact ⟨[],xs,rfl,rfl⟩
 | x :: xs,j+1,a,b,ha,hb=>by
  obtain ⟨l1,l2,h1,h2⟩:=swap_split (xs:=xs) (j:=j) (a:=a) (b:=b) (by simpa using ha) (by simpa using hb);refine ⟨x :: l1,l2,by rw [h1];rfl,?_⟩
  show x :: ((xs.set (j+1) b).set j a)=_
  rw [h2];rfl
theorem cmpId_neg {a b:Ndm}:cmpId a b < 0 ↔ a.1.id < b.1.id:=by
 unfold cmpId
 split
 · simp_all
 · split <;> simp_all
def fstN (M:List Ndm):List Nd:=M.map (·.1)
theorem StN.filt {xs0 xs:List Ndm} {i j:Nat} (h:StN cmpId xs0 i j xs) (k:Int):filtN k (fstN xs)=filtN k (fstN xs0):=by
 induction h with
 | start=>rfl
 | @swap i j xs a b _ ha hb hc ih =>
  obtain ⟨l1,l2,h1,h2⟩:=swap_split ha hb;rw [h2,<- ih,h1];have hne:=cmpId_neg.1 hc;simp only [fstN,filtN,List.map_append,List.map_cons,List.filter_append,List.filter_cons]
  congr 1
  by_cases e1:a.1.id=k
  ·
   have e2:¬ b.1.id=k:=by omega
   simp [e1,e2]
  · simp [e1]
 | next _ _ ih=>exact ih
structure StO (xs:List Ndm) (i j:Nat):Prop where
 le:j<=i
 ot:∀ p q a b,p < q->q<=i->q ≠ j->p ≠ j->xs[p]?=some a->xs[q]?=some b->a.1.id<=b.1.id
 at_:∀ q a b,j < q->q<=i->xs[j]?=some a->xs[q]?=some b->a.1.id < b.1.id
theorem getElem?_swap {α:Type} {xs:List α} {j:Nat} {a b:α} (ha:xs[j+1]?=some a) (hb:xs[j]?=some b) (q:Nat):((xs.set (j+1) b).set j a)[q]?=if q=j then some a else if q=j+1 then some b else xs[q]?:=by
 have l1:j+1 < xs.length:=(List.getElem?_eq_some_iff.1 ha).1
 by_cases e1:q=j
 · subst e1;rw [if_pos rfl,List.getElem?_set_self (by rw [List.length_set];omega)]
 ·
  rw [if_neg e1,List.getElem?_set_ne (fun h=>e1 h.symm)]
  by_cases e2:q=j+1
  · subst e2;rw [if_pos rfl,List.getElem?_set_self l1]
  · rw [if_neg e2,List.getElem?_set_ne (fun h=>e2 h.symm)]
theorem StN.ord {xs0 xs:List Ndm} {i j:Nat} (h:StN cmpId xs0 i j xs):StO xs i j:=by
 induction h with
 | start=>exact ⟨Nat.le_refl _,fun p q a b h1 h2 h3 _ _ _=>by omega,fun q a b h1 h2 _ _=>by omega⟩
 | @swap i j xs a b _ ha hb hc ih =>
  have hlt:=cmpId_neg.1 hc;have hle:=ih.le;refine ⟨by omega,fun p q u v hpq hqi hqj hpj hu hv => ?_,fun q u v hq hqi hu hv => ?_⟩
  ·
   rw [getElem?_swap ha hb,if_neg hpj] at hu;rw [getElem?_swap ha hb,if_neg hqj] at hv
   by_cases e2:q=j+1
   ·
    rw [if_pos e2] at hv;rw [if_neg (by omega)] at hu;injection hv with hv
    subst hv;exact ih.ot p j u b (by omega) (by omega) (by omega) (by omega) hu hb
   ·
    rw [if_neg e2] at hv
    by_cases e1:p=j+1
    ·
     rw [if_pos e1] at hu;injection hu with hu
     subst hu;exact ih.ot j q b v (by omega) hqi (by omega) (by omega) hb hv
    · rw [if_neg e1] at hu;exact ih.ot p q u v hpq hqi (by omega) (by omega) hu hv
  ·
   rw [getElem?_swap ha hb,if_pos rfl] at hu;rw [getElem?_swap ha hb,if_neg (by omega)] at hv;injection hu with hu
   subst hu
   by_cases e2:q=j+1
   ·
    rw [if_pos e2] at hv;injection hv with hv
    subst hv;exact hlt
   · rw [if_neg e2] at hv;exact ih.at_ q a v (by omega) hqi ha hv
 | @next i j xs _ hn ih =>
  have hle:=ih.le;refine ⟨Nat.le_refl _,fun p q u v hpq hqi hqj hpj hu hv => ?_,fun q u v hq hqi _ _=>by omega⟩
  by_cases e1:p=j
  · subst e1;have:=ih.at_ q u v hpq (by omega) hu hv;omega
  by_cases e2:q=j
  ·
   rcases hn with h0 | ⟨k,a,b,rfl,ha,hb,hc⟩
   · omega
   ·
    subst e2;rw [ha] at hv;injection hv with hv
    subst hv
    have hba:b.1.id<=a.1.id:=by
     have:¬ a.1.id < b.1.id:=fun h=>hc (cmpId_neg.2 h);omega
    by_cases e3:p=k
    ·
     subst e3;rw [hb] at hu;injection hu with hu
     subst hu;exact hba
    · have:=ih.ot p k u b (by omega) (by omega) (by omega) (by omega) hu hb;omega
  exact ih.ot p q u v hpq (by omega) e2 e1 hu hv
theorem StN.norm {xs0 xs:List Ndm} {n:Nat} (hl:xs0.length=n) (h:StN cmpId xs0 n n xs):fstN xs=normL (fstN xs0):=by
 refine normL_eq ?_ h.filt
 show List.Pairwise _ _
 rw [List.pairwise_iff_getElem];intro p q hp hq hpq;have hll:=h.len;simp [fstN] at hp hq;have:=h.ord.ot p q xs[p] xs[q] hpq (by omega) (by omega) (by omega) (List.getElem?_eq_getElem hp) (List.getElem?_eq_getElem hq);simpa [fstN] using this
def NSorted (base:Nat) (A:Option Addr) (n c:Nat) (M0:List Ndm) (w:World) (e:Ending) (w':World):Prop :=
 ∃ M,e=.returned (.tuple #[])/\(∀ m ∈ M,m ∈ M0)/\M.length=n/\fstN M=normL (fstN M0)/\w'.ownsRow base 66 13 (.slice A n c) n (cellsN M)/\Fr w.heap.size (Value.ownBlock (.slice A n c)).toList w w'
def StR (base c:Nat) (A:Option Addr) (M0:List Ndm) (w:World) (s t:Value) (wr:World):Prop:=(s=.int .i64 0/\t=.int .i64 20/\wr=w) \/ (s=.int .i64 20/\t=.int .i64 40/\Hid (NSorted base A 20 c M0 w (.returned (.tuple #[])) wr))
theorem nstable_any (base n c:Nat) (A:Option Addr) (M0:List Ndm) (w:World) (hn:n<=20) (hl:M0.length=n) (hsl:∀ m ∈ M0,SlN m) (ho:w.ownsRow base 66 13 (.slice A n c) n (cellsN M0)) :
  Calls Tryz.prog 146 #[.slice A n c,.func (.func 147) #[] #[]] w (NSorted base A n c M0 w):=by
 have hst:Calls Tryz.prog 167 #[.slice A n c,.int .i64 n,.func (.func 147) #[] #[]] w (NSorted base A n c M0 w):=by
  have h0:n=0->NSorted base A n c M0 w (.returned (.tuple #[])) w:=by
   rintro rfl;have:M0=[]:=List.eq_nil_of_length_eq_zero hl;subst this;exact ⟨[],rfl,by simp,rfl,by simp [fstN,normL],ho,Fr.refl _ _ _⟩
  have hins:0 < n->Calls Tryz.prog 188 #[.slice A n c,.int .i64 0,.int .i64 n,.func (.func 147) #[] #[]] w (NSorted base A n c M0 w):=by
   intro hn0;obtain ⟨g,cap,hv,hbg,hlt⟩:=ho.form hn0;injection hv with hv1 hv2 hv3
   subst hv1;subst hv3;refine (ninsort_any 147 #[] cmpId base g n c M0 w hn hn0 hl hsl (enters_of Tryz.func147 (by kernel_rfl) rfl) (fun a b w' _ _ _=>ncmp_any a b w') ho).mono ?_;rintro e w1 ⟨xs,rfl,hs,ho1,hf⟩;exact ⟨xs,rfl,hs.mem,by rw [hs.len,hl],hs.norm hl,ho1,hf⟩
  have H0:=zh h0;have HI:=zh hins;clear h0 hins ho hsl hl
  rcases Nat.eq_zero_or_pos n with rfl | hn0
  ·
   have HN0:=zh (H0.out rfl);clear H0 HI hn;go_enter Tryz.func167,Tryz.ntmps167;go_wp2_with fail;go_loop [7,8] (fun s t=>s=.int .i64 0/\t=.int .i64 20) (fun _ _=>0)
   case atStart=>exact ⟨rfl,rfl⟩
   case round =>
    obtain ⟨rfl,rfl⟩:=hrel;go_wp2_with fail;refine (ninsort_same 0 (by omega) (by omega) _ _ _ _ _).mono ?_;rintro e w1 ⟨rfl,rfl⟩;go_wp2_with fail;go_loop [6] (fun s=>s=.int .i64 20) (fun _=>0)
    case atStart=>rfl
    case round =>
     subst hrel;go_wp2_with fail;go_end0;exact HN0.out
  ·
   have HIN:=zh (HI.out hn0);clear H0 HI
   by_cases h20:n=20
   ·
    subst h20;clear hn hn0;have HIN:Hid (Calls Tryz.prog 188 #[.slice A 20 c,.int .i64 0,.int .i64 20,.func (.func 147) #[] #[]] w (NSorted base A 20 c M0 w)):=HIN
    show Calls Tryz.prog 167 #[.slice A 20 c,.int .i64 20,.func (.func 147) #[] #[]] w (NSorted base A 20 c M0 w)
    go_enter Tryz.func167,Tryz.ntmps167;go_wp2_with fail;go_loopw [7,8] (StR base c A M0 w) (fun s _ _=>20 - (intOf s).toNat)
    case atStart=>exact .inl ⟨rfl,rfl,rfl⟩
    case round =>
     rcases hrel with ⟨rfl,rfl,rfl⟩ | ⟨rfl,rfl,HD⟩
     ·
      go_wp2_with fail;refine HIN.out.mono ?_;rintro e w1 hs;have HS:=zh hs;obtain ⟨xs,rfl,_⟩:=hs;go_wp2_with fail;go_roundw
      case rel=>exact .inr ⟨rfl,rfl,HS⟩
      case measure=>simp [intOf]
     ·
      go_wp2_with fail;refine (ninsort_same 20 (by omega) (by omega) _ _ _ _ _).mono ?_;rintro e w1 ⟨rfl,rfl⟩;go_wp2_with fail;go_loop [6] (fun s=>s=.int .i64 20) (fun _=>0)
      case atStart=>rfl
      case round =>
       subst hrel;go_wp2_with fail;go_end0;exact HD.out
   ·
    have h20':n < 20:=by omega
    clear h20 hn;go_enter Tryz.func167,Tryz.ntmps167;go_wp2_with fail;go_loop [7,8] (fun s t=>s=.int .i64 0/\t=.int .i64 20) (fun _ _=>0)
    case atStart=>exact ⟨rfl,rfl⟩
    case round =>
     obtain ⟨rfl,rfl⟩:=hrel;go_wp2_with fail;refine HIN.out.mono ?_;rintro e w1 hs;have HS:=zh hs;obtain ⟨xs,rfl,_⟩:=hs;go_wp2_with fail;go_loop [6] (fun s=>s=.int .i64 20) (fun _=>0)
     case atStart=>rfl
     case round =>
      subst hrel;go_wp2_with fail;go_end0;exact HS.out
 have HST:=zh hst;clear hst ho hsl;go_enter Tryz.func146,Tryz.ntmps146;go_wp2_with fail;refine HST.out.mono ?_;rintro e w1 hs;have HS:=zh hs;obtain ⟨xs,rfl,_⟩:=hs;go_wp2_with fail;go_end0;exact HS.out
def Off (q:Option Nat) (v:Value):Prop:=∀ A n c,v=.slice A n c->0 < n -> ∀ ad,A=some ad->some ad.block ≠ q
theorem reads_grown {w w':World} {B size n:Nat} {A:Option Addr} {xs:List Value} {q:Option Nat} (h:Reads w B size A n xs) (hg:w.grownBy w' q) (hB:B<=w.heap.size) (ho:0 < n -> ∀ ad,A=some ad->some ad.block ≠ q):Reads w' B size A n xs :=
 ⟨h.1, fun hn => by
  obtain ⟨b,off,e,hb,hc⟩:=h.2 hn;refine ⟨b,off,e,hb,fun j u hu => ?_⟩;rw [World.cell?_of_block (w:=w) (hg.block b (by omega) (ho hn _ e))]
  exact hc j u hu⟩
theorem reads_off {w:World} {B size n g:Nat} {A:Option Addr} {xs:List Value} {c:Nat} (h:Reads w B size A n xs) (hB:B<=g):Off (some g) (.slice A n c):=by
 intro A' n' c' hv hn ad ha e;injection hv with h1 h2 h3
 subst h1;subst h2;obtain ⟨b,off,e2,hb,_⟩:=h.2 hn;rw [ha] at e2;injection e2 with e2
 subst e2;injection e with e
 simp only at e;omega
theorem fresh_off {g b:Nat} {v:Value} (h:Fresh b v) (hg:g < b):Off (some g) v:=by
 intro A n c hv hn ad ha e;have:=h A n c hv hn ad ha;injection e with e
 omega
theorem fresh_le {b b':Nat} {v:Value} (h:Fresh b v) (hb:b'<=b):Fresh b' v:=fun A n c hv hn ad ha=>Nat.le_trans hb (h A n c hv hn ad ha)
theorem off_none (v:Value):Off none v:=fun _ _ _ _ _ _ _ h=>by cases h
structure NmO (base:Nat) (q:Option Nat) (w:World) (m:Ndm):Prop where
 inn:NdIn w w.heap.size m
 o1:Off q m.2.1
 o2:Off q m.2.2
 f1:Fresh base m.2.1
 f2:Fresh base m.2.2
 th:Thaw w m.2.2
def NmI (base:Nat) (q:Option Nat) (w:World) (M:List Ndm):Prop:=∀ m ∈ M,NmO base q w m
theorem NmO.fr {base:Nat} {q:Option Nat} {w w':World} {m:Ndm} (h:NmO base q w m) (hf:Fr w.heap.size [] w w'):NmO base q w' m :=
 ⟨(h.inn.frw hf (Nat.le_refl _) (by simp)).more hf.size,h.o1,h.o2,h.f1,h.f2,h.th.fr hf⟩
theorem NmI.fr {base:Nat} {q:Option Nat} {w w':World} {M:List Ndm} (h:NmI base q w M) (hf:Fr w.heap.size [] w w'):NmI base q w' M:=fun m hm=>(h m hm).fr hf
theorem NmO.grown {base:Nat} {q q':Option Nat} {w w':World} {m:Ndm} {s:Nat} (h:NmO base q w m) (hg:w.grownBy w' q) (hq:q'=q \/ q'=some s) (hs:w.heap.size<=s):NmO base q' w' m:=by
 obtain ⟨⟨⟨A,c,h1,h2⟩,⟨A',c',h3,h4⟩⟩,o1,o2,f1,f2,th⟩:=h;have hz:=hg.size;refine ⟨⟨⟨A,c,h1,?_⟩,⟨A',c',h3,?_⟩⟩,?_,?_,f1,f2,th.grown hg o2⟩
 · exact (reads_grown h2 hg (Nat.le_refl _) (o1 _ _ _ h1)).more hz
 · exact (reads_grown h4 hg (Nat.le_refl _) (o2 _ _ _ h3)).more hz
 ·
  rcases hq with rfl | rfl
  · exact o1
  · rw [h1];exact reads_off h2 hs
 ·
  rcases hq with rfl | rfl
  · exact o2
  · rw [h3];exact reads_off h4 hs
theorem NmO.frL {base:Nat} {q:Option Nat} {w w':World} {m:Ndm} (h:NmO base q w m) (hf:Fr w.heap.size q.toList w w'):NmO base q w' m:=by
 obtain ⟨⟨⟨A,c,h1,h2⟩,⟨A',c',h3,h4⟩⟩,o1,o2,f1,f2,th⟩:=h
 have key:∀ (v:Value) (B:Option Addr) (n k:Nat),v=.slice B n k->Off q v->0 < n -> ∀ ad,B=some ad->ad.block ∉ q.toList:=by
  intro v B n k hv ho hn ad ha hm;have:=ho B n k hv hn ad ha
  cases q with
  | none=>simp at hm
  | some g=>simp at hm;exact this (by rw [hm])
 exact ⟨⟨⟨A,c,h1,(h2.frL hf (Nat.le_refl _) (key _ _ _ _ h1 o1)).more hf.size⟩,⟨A',c',h3,(h4.frL hf (Nat.le_refl _) (key _ _ _ _ h3 o2)).more hf.size⟩⟩,o1,o2,f1,f2,th.frL hf (fun A n c hv hn=>key _ A n c hv o2 hn)⟩
theorem NmO.sl {base:Nat} {q:Option Nat} {w:World} {m:Ndm} (h:NmO base q w m):SlN m:=by
 obtain ⟨⟨⟨A,c,h1,_⟩,⟨A',c',h3,_⟩⟩,_⟩:=h;exact ⟨A,_,c,A',_,c',h1,h3⟩
def NormOut (L:List Nd) (w:World) (e:Ending) (w':World):Prop :=
 ∃ A c n M,n=M.length/\e=.returned (.slice A n c)/\w'.ownsRow w.heap.size 66 13 (.slice A n c) n (cellsN M)/\NmI w.heap.size (Value.ownBlock (.slice A n c)) w' M/\fstN M=normL L/\Fr w.heap.size [] w w'
theorem ndOne {x:Nd} {Af Ap:Option Addr} {nf cf np cp:Nat}:∀ u ∈ (ndA x (.slice Af nf cf) (.slice Ap np cp)).toList,u.oneCell'=true:=by
 intro u hu;simp at hu
 rcases hu with rfl | rfl | rfl | rfl | rfl | rfl | rfl | rfl | rfl | rfl | rfl | rfl | rfl <;> rfl
theorem norm_any (A:Option Addr) (c B n:Nat) (M:List Ndm) (w:World) (h:Nds w B A n M) (hB:B<=w.heap.size) (hs:Small M) (hn:n<=20) :
  Calls Tryz.prog 128 #[.slice A n c] w (NormOut (fstN M) w):=by
 have H:=zh h;have HN:=zh h.num;have HS:=zh hs;clear h hs;go_enter Tryz.func128,Tryz.ntmps128;go_wp2_with fail;go_loopg [3,8] n (fun g s3 s8 wr=>∃ (k:Nat) (A':Option Addr) (c':Nat) (Mk:List Ndm),k<=n/\g=n - k/\s8=.int .i64 k/\s3=.slice A' k c'/\Hid (k=Mk.length)/\Hid (fstN Mk=fstN (M.take k))/\Hid (wr.ownsRow w.heap.size 66 13 (.slice A' k c') k (cellsN Mk))/\Hid (NmI w.heap.size (Value.ownBlock (.slice A' k c')) wr Mk)/\Hid (Fr w.heap.size [] w wr))
 case atStart=>exact ⟨0,none,0,[],Nat.zero_le _,rfl,rfl,rfl,zh rfl,zh rfl,zh (World.ownsRow_nil _ _ _ _),zh (fun _ h=>by cases h),zh (Fr.refl _ _ _)⟩
 case round =>
  obtain ⟨k,A',c',Mk,hk,rfl,rfl,rfl,HK,HQ,HO,HI,FR⟩:=hrel
  by_cases hkn:k < n
  ·
   have hki:(k:Int) < (n:Int):=by omega
   have hk0:(0:Int)<=(k:Int):=(by omega);obtain ⟨m,hx⟩:∃ m,M[k]?=some m:=⟨_,List.getElem?_eq_getElem (by rw [<- HN.out];exact hkn)⟩;have HND:=H.out.frw FR.out hB (by simp);obtain ⟨b1,o1,rfl,hb1,hc1⟩:=HND.get hx;have hin:=HND.inn m (List.mem_of_getElem? hx);have hsm:=HS.out.2 m (List.mem_of_getElem? hx);have HTK:=zh (show fstN (M.take (k+1))=fstN (M.take k) ++ [m.1] from take_snocN hx);obtain ⟨x,sf,sp⟩:=m;have hBr:B<=wr.heap.size:=Nat.le_trans hB FR.out.size;have fa:=(Fr.refl wr.heap.size [] wr).alloc (Nat.le_refl _) (.cells (ndA x sf sp) 66);have HW:=zh (own_any x sf sp B (wr.alloc (.cells (ndA x sf sp) 66)) (hin.frw fa hBr (by simp)) (Nat.le_trans hBr fa.size) hsm.1 hsm.2);have BX:=zh (Blk.new wr 66 (ndA x sf sp));have HOa:=zh (ownsRow_fr HO.out fa (fun q hq=>⟨(HO.out.lt q hq).2,by simp⟩));have FRa:=zh (FR.out.nx fa);have HIa:=zh (HI.out.fr fa);obtain ⟨⟨Af,cf,hf1,_⟩,⟨Ap,cp,hp1,_⟩⟩:=hin;simp only at hf1 hp1 hsm HTK;subst hf1;subst hp1;obtain ⟨g0,g1,g2,g3,g4,g5,g6,g7,g8,g9,g10,g11,g12⟩:=ndL_get (x,.slice Af x.fr.length cf,.slice Ap x.pg.length cp);have p0:=hc1 0 _ g0;have p1:=hc1 1 _ g1;have p2:=hc1 2 _ g2;have p3:=hc1 3 _ g3;have p4:=hc1 4 _ g4;have p5:=hc1 5 _ g5;have p6:=hc1 6 _ g6;have p7:=hc1 7 _ g7;have p8:=hc1 8 _ g8;have p9:=hc1 9 _ g9;have p10:=hc1 10 _ g10;have p11:=hc1 11 _ g11;have p12:=hc1 12 _ g12;simp only [Nat.add_zero] at p0;obtain ⟨nf,hnf⟩:=nm (x.fr.length);obtain ⟨np,hnp⟩:=nm (x.pg.length);rw [<- hnf] at p2 HW BX HOa FRa HIa;rw [<- hnp] at p3 HW BX HOa FRa HIa;have HNF:=zh hnf;have HNP:=zh hnp;clear hc1 hx g0 g1 g2 g3 g4 g5 g6 g7 g8 g9 g10 g11 g12 HND hsm hnf hnp fa HO FR HI hb1;go_upto_region 5 with fail;clear p0 p1 p2 p3 p4 p5 p6 p7 p8 p9 p10 p11 p12;generalize wr.alloc (.cells (ndA x (.slice Af nf cf) (.slice Ap np cp)) 66)=wa at *;generalize wr.heap.size=gx at *;have q0:=BX.out.cell 0;have q1:=BX.out.cell 1;have q2:=BX.out.cell 2;have q3:=BX.out.cell 3;have q4:=BX.out.cell 4;have q5:=BX.out.cell 5;have q6:=BX.out.cell 6;have q7:=BX.out.cell 7;have q8:=BX.out.cell 8;have q9:=BX.out.cell 9;have q10:=BX.out.cell 10;have q11:=BX.out.cell 11;have q12:=BX.out.cell 12;simp at q0 q1 q2 q3 q4 q5 q6 q7 q8 q9 q10 q11 q12;go_wp2_with fail;refine HW.out.mono ?_;rintro e w2 ⟨sf',sp',rfl,hin2,hfr1,hfr2,hth,f2⟩;have HO2:=zh (ownsRow_fr HOa.out f2 (fun q hq=>⟨(HOa.out.lt q hq).2,by simp⟩));have F2:=zh (FRa.out.nx f2);have HI2:=zh (HIa.out.fr f2)
   have hown0:∀ v,Fresh wa.heap.size v->Off (Value.ownBlock (.slice A' k c')) v:=by
    intro v hv
    cases hq:Value.ownBlock (.slice A' k c') with
    | none=>exact off_none v
    | some g=>exact fresh_off hv (HOa.out.lt g hq).2
   have HM:=zh (show NmO w.heap.size (Value.ownBlock (.slice A' k c')) w2 (x,sf',sp') from ⟨hin2,hown0 _ hfr1,hown0 _ hfr2,fresh_le hfr1 FRa.out.size,fresh_le hfr2 FRa.out.size,hth⟩);obtain ⟨⟨A1,c1,h1,_⟩,⟨A2,c2,h2,_⟩⟩:=hin2;simp only at h1 h2;subst h1;subst h2;rw [<- HNF.out,<- HNP.out];rw [<- HNF.out,<- HNP.out] at HM;have hown:=HO2.out;have hsz:=F2.out.size;have hone:=zh (@ndOne x A1 A2 nf c1 np c2);clear f2 HW q0 q1 q2 q3 q4 q5 q6 q7 q8 q9 q10 q11 q12 hfr1 hfr2 hown0 hth;go_wp2_with (at_builtin;refine wpList_app_lit w2 rfl (.tmp 12) (.tmp 15) nodeTy rfl w.heap.size (.slice A' k c') k _ rfl hown 1 1 (ndA x (.slice A1 nf c1) (.slice A2 np c2)) rfl rfl hone.out (by omega) (by omega) hsz ?_;intro A3 c3 w4 hown4 hg4 hat4);have fa2:=(Fr.refl w2.heap.size [] w2).alloc (Nat.le_refl _) (.cells (ndA x (.slice A1 nf c1) (.slice A2 np c2)) 66)
   have HI4 := zh (show NmI w.heap.size (Value.ownBlock (.slice A3 (k + 1) c3)) w4 (Mk ++ [(x, .slice A1 nf c1, .slice A2 np c2)]) from fun m hm => by
    rcases List.mem_append.1 hm with hm | hm
    · exact ((HI2.out m hm).fr fa2).grown hg4 hat4 (by simp)
    ·
     rw [List.mem_singleton.1 hm]
     exact (HM.out.fr fa2).grown hg4 hat4 (by simp))
   have F4:=zh (F2.out.trans (Fr.of_app hg4 hown hsz));have HO4:=zh (show w4.ownsRow w.heap.size 66 13 (.slice A3 (k+1) c3) (k+1) (cellsN (Mk ++ [(x,.slice A1 nf c1,.slice A2 np c2)])) by rw [cellsN_app];simpa [cellsN,ndL] using hown4);clear hown4 hg4 hat4 hown fa2;go_roundg (n - (k+1))
   case measure=>omega
   case rel=>exact ⟨k+1,A3,c3,_,by omega,rfl,by go_num,rfl,zh (by rw [List.length_append,<- HK.out];rfl),zh (by rw [HTK.out,<- HQ.out];simp [fstN]),HO4,HI4,F4⟩
  ·
   obtain rfl:k=n:=by omega
   have htk:M.take k=M:=List.take_of_length_le (by rw [HN.out];exact Nat.le_refl _);rw [htk] at HQ;have HSS:=zh (nstable_any w.heap.size k c' A' Mk wr hn HK.out.symm (fun m hm=>(HI.out m hm).sl) HO.out);clear htk;go_wp2_with fail;refine HSS.out.mono ?_;rintro e w1 ⟨M1,rfl,hmem,hlen,hno,ho1,f1⟩
   have HOUT := zh (show NormOut (fstN M) w (.returned (.slice A' k c')) w1 from ⟨A', c', k, M1, hlen.symm, rfl, ho1, fun m hm => (HI.out m (hmem m hm)).frL f1, by rw [hno, HQ.out], FR.out.trans (f1.mono (B' := w.heap.size) (L' := []) FR.out.size (fun q hq hlt => by
    have:=(HO.out.lt q (by simpa using hq)).1
    omega))⟩)
   clear hmem hlen hno ho1 f1 HSS;go_wp2_with fail;go_ret;exact HOUT.out
end Go.Proofs.YtgblfflikgnfpaaGreat
