/- Texts merged into one, for the number of files a claim may have: FlB, FlC. -/
import Derived.Test.YtfakgidimekikaaGreatMFlA
import Derived.Test.YtfakgidimekikaaGreatMLnA
import Derived.Deep.RegionLaw
import Derived.Deep.AppendLies
namespace Go.Proofs.YtfakgidimekikaaGreat
open Go.RowKit Go.Fb
set_option linter.unusedVariables false
def cntT (C : Int → Option Int) : Int → Option Value := fun x => (C x).map (Value.int .i64)
def cntU (C : Int → Option Int) (x : Int) : Int → Option Int := fun q => if q = x then some (wrap64 ((C x).getD 0 + 1)) else C q
theorem cntU_T (C : Int → Option Int) (x : Int) : updI (cntT C) x (.int .i64 (wrap64 ((C x).getD 0 + 1))) = cntT (cntU C x) := by
  funext q
  unfold updI cntT cntU
  by_cases e : q = x
  · rw [if_pos e, if_pos e]; rfl
  · rw [if_neg e, if_neg e]
theorem cntT_get (C : Int → Option Int) (x : Int) : (cntT C x).getD (.int .i64 0) = .int .i64 ((C x).getD 0) := by
  unfold cntT
  cases C x <;> rfl
/-- A line. -/
def lnF (sink frm k re im : Int) : Nat → Int := fun j => if j = 0 then sink else if j = 1 then frm else if j = 2 then k else if j = 3 then re else im
theorem lnF_C (sink frm k re im : Int) : lnC (lnF sink frm k re im) = [.int .i64 sink, .int .i64 frm, .int .i64 k, .int .i64 re, .int .i64 im] := rfl
/-- A flow that goes: its block, its counts, its lines. -/
structure FlD (b0 : Nat) (w : World) (gf gn gc gk gt : Nat) (C : Int → Option Int) (out : List (Nat → Int)) (A : Option Addr) (n c : Nat) : Prop where
  num : n = out.length
  blk : Blk w gf 130 #[.map (some gn), .map (some gc), .pointer (some ⟨gt, 0, none⟩), .slice A n c, .map (some gk)]
  cnt : IMap w gk (cntT C)
  row : w.ownsRow b0 26 5 (.slice A n c) n (cellsLn out)
theorem FlD.mv {b0 : Nat} {w w' : World} {gf gn gc gk gt : Nat} {C : Int → Option Int} {out : List (Nat → Int)} {A : Option Addr} {n c : Nat} (h : FlD b0 w gf gn gc gk gt C out A n c) (hf : Fr w.heap.size [] w w') : FlD b0 w' gf gn gc gk gt C out A n c :=
  ⟨h.num, h.blk.fr hf h.blk.lt (by simp), h.cnt.fr hf h.cnt.lt (by simp), ownsRow_fr h.row hf (fun q hq => ⟨(h.row.lt q hq).2, by simp⟩)⟩
set_option maxRecDepth 100000 in
set_option maxHeartbeats 8000000 in
theorem come_sink (b0 gf gn gc gk gt : Nat) (TN : Int → Option Value) (C : Int → Option Int) (out : List (Nat → Int)) (A : Option Addr) (n c : Nat) (frm id : Int) (x : Nd) (sf sp : Value) (k re im : Int) (w : World)
    (hD : FlD b0 w gf gn gc gk gt C out A n c) (hN : IMap w gn TN) (hx : TN id = some (.agg (ndA x sf sp))) (hsl : SlN (x, sf, sp)) (hk : x.kind = 2) (hb : gn < gk ∧ gk < gf ∧ gf < b0 ∧ b0 ≤ w.heap.size) (hlen : n ≤ 1000000) :
    Calls Tryz.prog 134 #[.pointer (some ⟨gf, 0, none⟩), .int .i64 frm, .int .i64 id, .agg #[.int .i64 k, .int .i64 re, .int .i64 im]] w fun e w' => e = .returned (.tuple #[]) ∧ (∃ A' c', FlD b0 w' gf gn gc gk gt (cntU C id) (out ++ [lnF id frm k re im]) A' (n + 1) c' ∧ ∀ q, (Value.slice A' (n + 1) c').ownBlock = some q → (Value.slice A n c).ownBlock = some q ∨ w.heap.size ≤ q) ∧ Fr w.heap.size (gf :: gk :: (Value.slice A n c).ownBlock.toList) w w' := by
  obtain ⟨Af, nf, cf, Ap, np, cp, h1, h2⟩ := hsl
  simp only at h1 h2
  subst h1
  subst h2
  obtain ⟨hb1, hb2, hb3, hb4⟩ := hb
  have HD := Lib.hid hD
  have HNI := Lib.hid hN
  have HX := Lib.hid hx
  have HK := Lib.hid hk
  have hzN : ∀ u, (zeroValue 50).run Tryz.prog u = .ok (.agg ndZ) u := fun u => by kernel_rfl
  have hzI : ∀ u, (zeroValue 3).run Tryz.prog u = .ok (.int .i64 0) u := fun u => by kernel_rfl
  have HZN := Lib.hid hzN
  have HZI := Lib.hid hzI
  clear hD hN hx hk hzN hzI
  have fa := (Fr.refl w.heap.size [] w).alloc (Nat.le_refl _) (.cells #[.int .i64 k, .int .i64 re, .int .i64 im] 76)
  have BR := Lib.hid (Blk.new w 76 #[.int .i64 k, .int .i64 re, .int .i64 im])
  have D1 := Lib.hid (HD.out.mv fa)
  have N1 := Lib.hid (HNI.out.fr fa HNI.out.lt (by simp))
  obtain ⟨LL, hLL⟩ : ∃ LL, LL = gf :: gk :: (Value.slice A n c).ownBlock.toList := ⟨_, rfl⟩
  have hLf : gf ∈ LL := by rw [hLL]; simp
  have hLk : gk ∈ LL := by rw [hLL]; simp
  have hLo : ∀ q, (Value.slice A n c).ownBlock = some q → q ∈ LL := fun q hq => by rw [hLL, hq]; simp
  rw [← hLL]
  have HLf := Lib.hid hLf
  have HLk := Lib.hid hLk
  have HLo := Lib.hid hLo
  have F1 := Lib.hid (fa.mono (B' := w.heap.size) (L' := LL) (Nat.le_refl _) (by simp))
  clear hLL hLf hLk hLo
  have hsz1 : w.heap.size ≤ (w.alloc (.cells #[.int .i64 k, .int .i64 re, .int .i64 im] 76)).heap.size := fa.size
  clear fa HD HNI
  go_enter Tryz.func134, Tryz.ntmps134
  go_upto_region 1 with fail
  generalize w.alloc (.cells #[.int .i64 k, .int .i64 re, .int .i64 im] 76) = w1 at *
  obtain ⟨gr, hgre⟩ : ∃ g, g = w.heap.size := ⟨_, rfl⟩
  rw [← hgre] at BR F1 hb4 hsz1 ⊢
  have HGR := Lib.hid hgre
  clear hgre
  have q0 : w1.cell? ⟨gf, 0, none⟩ = some (.map (some gn)) := D1.out.blk.cell 0
  have hlk := N1.out.look Tryz.underlying127 HZN.out id
  rw [HX.out] at hlk
  simp only [Option.getD_some] at hlk
  have hg1 : gr < w1.heap.size := BR.out.lt
  have fb := (Fr.refl w1.heap.size [] w1).alloc (Nat.le_refl _) (.cells (ndA x (.slice Af nf cf) (.slice Ap np cp)) 50)
  have BN := Lib.hid (Blk.new w1 50 (ndA x (.slice Af nf cf) (.slice Ap np cp)))
  have D2 := Lib.hid (D1.out.mv fb)
  have BR2 := Lib.hid (BR.out.fr fb BR.out.lt (by simp))
  have F2 := Lib.hid (F1.out.trans (fb.mono (B' := gr) (L' := LL) hsz1 (by simp)))
  go_upto_region 2 with fail
  clear fb q0 hlk D1 BR F1
  generalize w1.alloc (.cells (ndA x (.slice Af nf cf) (.slice Ap np cp)) 50) = w2 at *
  obtain ⟨gx, hgx⟩ : ∃ g, g = w1.heap.size := ⟨_, rfl⟩
  rw [← hgx] at BN ⊢
  have hgx0 : b0 ≤ gx := by omega
  clear hgx
  have q4 : w2.cell? ⟨gf, 4, none⟩ = some (.map (some gk)) := D2.out.blk.cell 4
  have hlc := D2.out.cnt.look Tryz.underlying67 HZI.out id
  rw [cntT_get] at hlc
  obtain ⟨v, hv⟩ : ∃ v, v = (C id).getD 0 := ⟨_, rfl⟩
  rw [← hv] at hlc
  obtain ⟨w3, hup, hm3, f3, hs3⟩ := D2.out.cnt.upd Tryz.underlying67 id (.int .i64 (wrap64 (v + 1)))
  rw [hv, cntU_T] at hm3
  have hkf : gf ≠ gk := by omega
  have BN3 := Lib.hid (BN.out.fr f3 BN.out.lt (by simp; omega))
  have BR3 := Lib.hid (BR2.out.fr f3 BR2.out.lt (by simp; omega))
  have D3 := Lib.hid (show FlD b0 w3 gf gn gc gk gt (cntU C id) out A n c from ⟨D2.out.num, D2.out.blk.fr f3 D2.out.blk.lt (by simpa using hkf), hm3, ownsRow_fr D2.out.row f3 (fun q hq => ⟨(D2.out.row.lt q hq).2, by have := (D2.out.row.lt q hq).1; simp; omega⟩)⟩)
  have F3 := Lib.hid (F2.out.trans (f3.mono (B' := gr) (L' := LL) (Nat.le_of_lt BR2.out.lt) (by intro q hq _; simp at hq; subst hq; exact HLk.out)))
  have hb23 : b0 ≤ w3.heap.size := by rw [hs3]; have := BN.out.lt; omega
  have hgr3 : gr < w3.heap.size := BR3.out.lt
  clear hm3 f3 hs3 hv D2 BR2 F2 BN
  have x1 : w3.cell? ⟨gx, 1, none⟩ = some (.int .i64 x.kind) := BN3.out.cell 1
  rw [HK.out] at x1
  go_upto_region 4 with fail
  clear q4 hlc hup x1
  have ho := D3.out.row
  have hcr := D3.out.blk.cell 3
  have hfz := D3.out.blk.frozen 3
  have hoff : (Value.slice A n c).ownBlock ≠ some gf := fun hq => by have := (ho.lt gf hq).1; omega
  have r0 := BR3.out.cell 0
  have r1 := BR3.out.cell 1
  have r2 := BR3.out.cell 2
  simp at r0 r1 r2 hcr
  have hcrA : (w3.alloc (.cells #[.int .i64 id, .int .i64 frm, .int .i64 k, .int .i64 re, .int .i64 im] 26)).cell? ⟨gf, 3, none⟩ = some (.slice A n c) := (D3.out.blk.alloc _).cell 3
  obtain ⟨i0, hi0, hz0, hz1, hz2⟩ := info_parts (show (Tryz.prog.info? 26).map (fun i => (i.zero, i.size, i.bytes)) = some (some (.agg #[.int .i64 0, .int .i64 0, .int .i64 0, .int .i64 0, .int .i64 0]), 5, 40) by kernel_rfl)
  go_wp2_with fail
  go_region_law
    ((refine step_append_lies _ (by rfl) _ _ _ (by rfl) b0 26 i0 _ 5 40 Tryz.underlying22 hi0 hz0 hz1 hz2 rfl (by omega) (.slice A n c) n _ (by rfl) ((ho.alloc _).drew)
        ⟨w3.heap.size, 0, none⟩ 1 1 (lnC (lnF id frm k re im)) (by rfl) (by rfl) (World.news_of_block (cs := (lnC (lnF id frm k re im)).toArray) (t := 26) (fr := (0, 0)) (heap_alloc_new w3 _)) (by simp [lnC, Value.oneCell'])
        (by omega) (by unfold maxLen; omega) (by omega) (by simp; omega) (w3.heap.size + 1) (by simp) ?_; intro gg cap w6 hown1 hgrow hat hlt6; have hfz6 : w6.frozen? ⟨gf, 3, none⟩ = false := (hgrow.frozen_far ⟨gf, 3, none⟩ (by simp; omega) (Ne.symm hoff)).trans ((D3.out.blk.alloc _).frozen 3); have hcr6 : w6.cell? ⟨gf, 3, none⟩ = some (.slice A n c) := (hgrow.cell_far ⟨gf, 3, none⟩ (by simp; omega) (Ne.symm hoff)).trans (((D3.out.blk.alloc _).cell 3))))
  all_goals
    go_wp2_with fail
    have hba := (D3.out.blk.alloc (.cells #[.int .i64 id, .int .i64 frm, .int .i64 k, .int .i64 re, .int .i64 im] 26)).drew
    have hca := D3.out.cnt.fr (((Fr.refl w3.heap.size [] w3).alloc (Nat.le_refl _) (.cells #[.int .i64 id, .int .i64 frm, .int .i64 k, .int .i64 re, .int .i64 im] 26)).drew) D3.out.cnt.lt (by simp)
    have hgkr : some gk ≠ (Value.slice A n c).ownBlock := fun e => by have := (ho.lt gk e.symm).1; omega
    have hb6 : Blk w6 gf 130 #[.map (some gn), .map (some gc), .pointer (some ⟨gt, 0, none⟩), .slice A n c, .map (some gk)] := (hgrow.block gf hba.lt (Ne.symm hoff)).trans hba
    have hc6 : IMap w6 gk (cntT (cntU C id)) := by
      obtain ⟨K, es, clock, h1, h2⟩ := hca
      exact ⟨K, es, clock, (hgrow.block gk (IMap.lt ⟨K, es, clock, h1, h2⟩) hgkr).trans h1, h2⟩
    have hgg : b0 ≤ gg := (hown1.lt gg rfl).1
    refine bodyPost_ret (results_none rfl _ _ _) rfl ⟨rfl, ⟨some ⟨gg, 0, none⟩, cap, ⟨?_, ?_, ?_, ?_⟩, fun q hq => ?_⟩, ?_⟩
    · rw [List.length_append, ← D3.out.num]; rfl
    · have := hb6.set_ 3 (.slice (some ⟨gg, 0, none⟩) (n + 1) cap)
      simpa using this
    · exact hc6.fr ((Fr.refl w6.heap.size [gf] w6).setCell (p := ⟨gf, 3, none⟩) (.inr (by simp)) _) hc6.lt (by simp; omega)
    · have h5 : (w6.setCell ⟨gf, 3, none⟩ (.slice (some ⟨gg, 0, none⟩) (n + 1) cap)).ownsRow b0 26 5 (.slice (some ⟨gg, 0, none⟩) (n + 1) cap) (n + 1) (cellsLn out ++ lnC (lnF id frm k re im)) := ownsRow_setCell_other hown1 (by show (some gg : Option Nat) ≠ some gf; simp; omega) _
      rw [cellsLn_app]
      simpa [cellsLn] using h5
    · have hq2 : gg = q := by simpa [Value.ownBlock] using hq
      subst hq2
      rcases hat with hat | hat
      · exact .inl hat
      · exact .inr (by rw [← HGR.out]; omega)
    · rw [← HGR.out]
      exact (((F3.out.alloc (by omega) _).drew).grown hgrow (by simp; omega) (fun q hq => .inr (HLo.out q hq))).setCell (p := ⟨gf, 3, none⟩) (.inr HLf.out) _
end Go.Proofs.YtfakgidimekikaaGreat
namespace Go.Proofs.YtfakgidimekikaaGreat
open Go.RowKit Go.Fb
set_option linter.unusedVariables false
def cntL (C : Int → Option Int) (K : List Int) : Int → Option Int := K.foldl cntU C
theorem cntL_snoc (C : Int → Option Int) (K : List Int) (x : Int) : cntL C (K ++ [x]) = cntU (cntL C K) x := by unfold cntL; rw [List.foldl_append]; rfl
/-- Is a node a sink that the flow knows? -/
def SnkAt (TN : Int → Option Value) (c : Int) : Prop := ∃ x sf sp, TN c = some (.agg (ndA x sf sp)) ∧ SlN (x, sf, sp) ∧ x.kind = 2
def outP (id k re im : Int) (K : List Int) : List (Nat → Int) := K.map fun c => lnF c id k re im
set_option maxRecDepth 100000 in
set_option maxHeartbeats 8000000 in
theorem put_sinks (b0 gf gn gc gk gt : Nat) (TN TC : Int → Option Value) (C : Int → Option Int) (out : List (Nat → Int)) (A : Option Addr) (n c : Nat) (id : Int) (Ac : Option Addr) (nc cc : Nat) (K : List Int) (k re im : Int) (w : World)
    (hD : FlD b0 w gf gn gc gk gt C out A n c) (hN : IMap w gn TN) (hC : IMap w gc TC) (hx : TC id = some (.slice Ac nc cc)) (hnc : nc = K.length) (hrd : Reads w b0 1 Ac nc (K.map (Value.int .i64))) (hfr : Fresh (gf + 1) (.slice Ac nc cc)) (hK : ∀ c ∈ K, SnkAt TN c) (hb : gn < gc ∧ gc < gk ∧ gk < gf ∧ gf < b0 ∧ b0 ≤ w.heap.size) (hlen : n + nc ≤ 1000000) :
    Calls Tryz.prog 105 #[.pointer (some ⟨gf, 0, none⟩), .int .i64 id, .agg #[.int .i64 k, .int .i64 re, .int .i64 im]] w fun e w' => e = .returned (.tuple #[]) ∧ (∃ A' c', FlD b0 w' gf gn gc gk gt (cntL C K) (out ++ outP id k re im K) A' (n + nc) c' ∧ ∀ q, (Value.slice A' (n + nc) c').ownBlock = some q → (Value.slice A n c).ownBlock = some q ∨ w.heap.size ≤ q) ∧ Fr w.heap.size (gf :: gk :: (Value.slice A n c).ownBlock.toList) w w' := by
  obtain ⟨hb1, hb2, hb3, hb4, hb5⟩ := hb
  have HD := Lib.hid hD
  have HN := Lib.hid hN
  have HC := Lib.hid hC
  have HX := Lib.hid hx
  have HNC := Lib.hid hnc
  have HRD := Lib.hid hrd
  have HFR := Lib.hid hfr
  have HKS := Lib.hid hK
  have HZC := Lib.hid (show ∀ u, (zeroValue 46).run Tryz.prog u = .ok (.slice none 0 0) u from fun u => by kernel_rfl)
  clear hD hN hC hx hnc hrd hfr hK
  have fa := (Fr.refl w.heap.size [] w).alloc (Nat.le_refl _) (.cells #[.int .i64 k, .int .i64 re, .int .i64 im] 76)
  have BR := Lib.hid (Blk.new w 76 #[.int .i64 k, .int .i64 re, .int .i64 im])
  have D1 := Lib.hid (HD.out.mv fa)
  have N1 := Lib.hid (HN.out.fr fa HN.out.lt (by simp))
  have C1 := Lib.hid (HC.out.fr fa HC.out.lt (by simp))
  have R1 := Lib.hid (HRD.out.fr fa hb5 (by simp))
  have F1 := Lib.hid fa
  have hLo0 := fun q (hq : (Value.slice A n c).ownBlock = some q) => HD.out.row.lt q hq
  obtain ⟨LL, hLL⟩ : ∃ LL, LL = gf :: gk :: (Value.slice A n c).ownBlock.toList := ⟨_, rfl⟩
  have hLm : ∀ q, q ∈ LL → q = gf ∨ q = gk ∨ (Value.slice A n c).ownBlock = some q := fun q hq => by
    rw [hLL] at hq
    simpa using hq
  have hLi : ∀ q, q = gf ∨ q = gk ∨ (Value.slice A n c).ownBlock = some q → q ∈ LL := fun q hq => by
    rw [hLL]
    simpa using hq
  rw [← hLL]
  have HLm := Lib.hid hLm
  have HLi := Lib.hid hLi
  have HLo := Lib.hid hLo0
  clear fa HD HN HC HRD hLL hLm hLi hLo0
  go_enter Tryz.func105, Tryz.ntmps105
  go_upto_region 1 with fail
  generalize w.alloc (.cells #[.int .i64 k, .int .i64 re, .int .i64 im] 76) = w1 at *
  obtain ⟨gr, hgre⟩ : ∃ g, g = w.heap.size := ⟨_, rfl⟩
  rw [← hgre] at BR F1 hb5 ⊢
  have HGR := Lib.hid hgre
  clear hgre
  have hgr : gr < w1.heap.size := BR.out.lt
  have hgL : gr ∉ LL := fun h => by
    rcases HLm.out gr h with e | e | e
    · omega
    · omega
    · have := (HLo.out gr e).2
      have := HGR.out
      omega
  have hnL : gn ∉ LL := fun h => by
    rcases HLm.out gn h with e | e | e
    · omega
    · omega
    · have := (HLo.out gn e).1
      omega
  have q1 : w1.cell? ⟨gf, 1, none⟩ = some (.map (some gc)) := D1.out.blk.cell 1
  have hlk := C1.out.look Tryz.underlying128 HZC.out id
  rw [HX.out] at hlk
  simp only [Option.getD_some] at hlk
  go_wp2_with fail
  go_loopg [7, 15] nc (fun g s7 s15 wr => ∃ (j : Nat) (A' : Option Addr) (c' : Nat), j ≤ nc ∧ g = nc - j ∧ s15 = .int .i64 j ∧ (s7 = undef ∨ ∃ a : Int, s7 = .int .i64 a) ∧ RowKit.Hid (FlD b0 wr gf gn gc gk gt (cntL C (K.take j)) (out ++ outP id k re im (K.take j)) A' (n + j) c') ∧ RowKit.Hid (∀ q, (Value.slice A' (n + j) c').ownBlock = some q → (Value.slice A n c).ownBlock = some q ∨ w1.heap.size ≤ q) ∧ RowKit.Hid (Fr w1.heap.size LL w1 wr))
  case atStart => exact ⟨0, A, c, Nat.zero_le _, rfl, rfl, .inl rfl, Lib.hid (by simpa [outP, cntL] using D1.out), Lib.hid (fun q hq => .inl (by simpa using hq)), Lib.hid (Fr.refl _ _ _)⟩
  case round =>
    clear q1 hlk D1
    obtain ⟨j, A', c', hj, rfl, rfl, h7, D, HO, F⟩ := hrel
    have hsz := F.out.size
    by_cases hjn : j < nc
    · have hji : (j : Int) < (nc : Int) := by omega
      have hj0 : (0 : Int) ≤ (j : Int) := by omega
      obtain ⟨v, hv⟩ : ∃ v, K[j]? = some v := ⟨_, List.getElem?_eq_getElem (by rw [← HNC.out]; exact hjn)⟩
      obtain ⟨b5, o5, u5, rfl, hb5', hu5, hc5⟩ := (R1.out.frL (F.out.mono (B' := w1.heap.size) (L' := LL) (Nat.le_refl _) (fun q hq _ => hq)) (by omega) (fun hn ad ha hm => by
        have h1 := HFR.out _ _ _ rfl hn ad ha
        obtain ⟨b, off, e, hlt, _⟩ := R1.out.2 hn
        rw [ha] at e
        injection e with e
        subst e
        rcases HLm.out _ hm with e | e | e
        · omega
        · omega
        · have := (HLo.out _ e).1
          simp at this hlt
          omega)).one hjn
      rw [List.getElem?_map, hv] at hu5
      simp at hu5
      subst hu5
      have HTK := Lib.hid (show K.take (j + 1) = K.take j ++ [v] by rw [List.take_add_one, hv]; rfl)
      obtain ⟨x, sf, sp, hx1, hx2, hx3⟩ := HKS.out v (List.mem_of_getElem? hv)
      have HCM := Lib.hid (come_sink b0 gf gn gc gk gt TN (cntL C (K.take j)) (out ++ outP id k re im (K.take j)) A' (n + j) c' id v x sf sp k re im wr D.out (N1.out.fr F.out (by omega) hnL) hx1 hx2 hx3 ⟨by omega, hb3, hb4, by omega⟩ (by omega))
      have BRr := BR.out.fr F.out hgr hgL
      have r0 := BRr.cell 0
      have r1 := BRr.cell 1
      have r2 := BRr.cell 2
      simp at r0 r1 r2
      clear hv hx1 hx2 hx3 BRr
      go_wp2_with fail
      refine HCM.out.mono ?_
      rintro e w3 ⟨rfl, ⟨A3, c3, d3, o3⟩, f3⟩
      have D3 := Lib.hid (show FlD b0 w3 gf gn gc gk gt (cntL C (K.take (j + 1))) (out ++ outP id k re im (K.take (j + 1))) A3 (n + (j + 1)) c3 by
        rw [HTK.out, cntL_snoc]
        have e1 : outP id k re im (K.take j ++ [v]) = outP id k re im (K.take j) ++ [lnF v id k re im] := by unfold outP; rw [List.map_append]; rfl
        rw [e1, ← List.append_assoc]
        exact d3)
      have O3 := Lib.hid (show ∀ q, (Value.slice A3 (n + (j + 1)) c3).ownBlock = some q → (Value.slice A n c).ownBlock = some q ∨ w1.heap.size ≤ q from fun q hq => by
        rcases o3 q hq with h | h
        · exact HO.out q h
        · exact .inr (by omega))
      have F3 := Lib.hid (F.out.trans (f3.mono (B' := w1.heap.size) (L' := LL) hsz (fun q hq hlt => by
        simp at hq
        rcases hq with e | e | e
        · exact HLi.out q (.inl e)
        · exact HLi.out q (.inr (.inl e))
        · rcases HO.out q e with h | h
          · exact HLi.out q (.inr (.inr h))
          · omega)))
      clear d3 o3 f3 HCM D HO F r0 r1 r2
      go_wp2_with fail
      go_roundg (nc - (j + 1))
      case measure => omega
      case rel => exact ⟨j + 1, A3, c3, by omega, rfl, by go_num, .inr ⟨_, rfl⟩, D3, O3, F3⟩
    · obtain rfl : nc = j := by omega
      have hT : K.take nc = K := List.take_of_length_le (by rw [HNC.out]; exact Nat.le_refl _)
      rw [hT] at D
      clear hT
      go_wp2_with fail
      have h1 : ∃ A' c', FlD b0 wr gf gn gc gk gt (cntL C K) (out ++ outP id k re im K) A' (n + nc) c' ∧ ∀ q, (Value.slice A' (n + nc) c').ownBlock = some q → (Value.slice A n c).ownBlock = some q ∨ gr ≤ q := ⟨A', c', D.out, fun q hq => by
        rcases HO.out q hq with h | h
        · exact .inl h
        · exact .inr (by omega)⟩
      have h2 : Fr gr LL w wr := (F1.out.mono (B' := gr) (L' := LL) (by rw [HGR.out]; exact Nat.le_refl _) (by simp)).trans (F.out.mono (B' := gr) (L' := LL) (by omega) (fun q hq _ => hq))
      go_end0
      exact ⟨rfl, by rw [← HGR.out]; exact h1, by rw [← HGR.out]; exact h2⟩
end Go.Proofs.YtfakgidimekikaaGreat
