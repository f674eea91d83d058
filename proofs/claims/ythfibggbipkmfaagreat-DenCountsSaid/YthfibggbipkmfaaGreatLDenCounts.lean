/- forebaylaw12.DenCounts: for every input the call returns true, and each argument reads behind it as it read before. The walk lies in the text that this one imports; here it is lifted to the given row. -/
import Derived.Test.YthfibggbipkmfaaGreatDX20
import Derived.Test.YthfibggbipkmfaaGreatDX19
import Derived.Test.YthfibggbipkmfaaGreatDX24
import Derived.Test.YthfibggbipkmfaaGreatDenCountsJf
import Derived.Test.YthfibggbipkmfaaGreatDX7
import Derived.Test.YthfibggbipkmfaaGreatDX18
import Derived.Maps.RangeRun
namespace Go.Proofs.YthfibggbipkmfaaGreat
open Go.RowKit Go.Fb
set_option linter.unusedVariables false
/-- What Counts gives. -/
def DCntD (L : List Nd) (l : List (Nat → Int)) (T : Pk → CV) (gt gm : Nat) (w : World) (e : Ending) (w' : World) : Prop :=
  (l.all recR = false ∧ e = .returned (.tuple #[.map none, .int .i64 1]) ∧ Fr w.heap.size [] w w') ∨
  (l.all recR = true ∧ ∃ gk, e = .returned (.tuple #[.map (some gk), .int .i64 0]) ∧ IMap w' gk (cntT (flowD L l ⟨T, [], cnt0 L⟩).C) ∧ CT w' gt gm (flowD L l ⟨T, [], cnt0 L⟩).T ∧ w.heap.size ≤ gk ∧ Fr w.heap.size [gm] w w')
set_option maxRecDepth 100000 in
set_option maxHeartbeats 4000000 in
theorem dcntD_any (gt gm : Nat) (T : Pk → CV) (A Ar : Option Addr) (c cr B Br n nr : Nat) (M : List Ndm) (l : List (Nat → Int)) (w : World) (h : Nds w B A n M) (hB : B ≤ w.heap.size) (hs : Small M) (hr : RightG (fstN M)) (hnr : nr = l.length) (hn : nr ≤ 1000) (hrd : Reads w Br 3 Ar nr (cellsR l))
    (hct : CT w gt gm T) (hBr : Br ≤ w.heap.size) (hBg : Br ≤ gm) (hTO : TOk T) (hlen : l.all recR = true → (flowD (fstN M) l ⟨T, [], cnt0 (fstN M)⟩).out.length ≤ 6000000000) :
    Calls Tryz.prog 12 #[.slice A n c, .pointer (some ⟨gt, 0, none⟩), .slice Ar nr cr] w (DCntD (fstN M) l T gt gm w) := by
  have H := Lib.hid (flowsD_any gt gm T A Ar c cr B Br n nr M l w h hB hs hr hnr hn hrd hct hBr hBg hTO hlen)
  obtain ⟨X, hX⟩ : ∃ X, X = flowD (fstN M) l ⟨T, [], cnt0 (fstN M)⟩ := ⟨_, rfl⟩
  unfold FlowsD at H
  unfold DCntD
  rw [← hX] at H ⊢
  clear h hs hr hnr hrd hct hTO hlen hX
  go_enter Tryz.func12, Tryz.ntmps12
  go_wp2_with fail
  refine H.out.mono ?_
  rintro e w1 (⟨ha, rfl, f1⟩ | ⟨ha, b0, gf, gn, gc, gk, A1, n1, c1, rfl, hd, hct, hb0, hgk, f1⟩)
  · have F1 := Lib.hid f1
    have HA := Lib.hid ha
    clear f1 ha H
    go_wp2_with fail
    go_ret2
    exact .inl ⟨HA.out, rfl, F1.out⟩
  · have F1 := Lib.hid f1
    have HA := Lib.hid ha
    have HD := Lib.hid hd
    have HCT := Lib.hid hct
    have HGK := Lib.hid hgk
    have q4 : w1.cell? ⟨gf, 4, none⟩ = some (.map (some gk)) := hd.blk.cell 4
    clear f1 ha H hd hct hb0 hgk
    go_wp2_with fail
    go_ret2
    exact .inr ⟨HA.out, gk, rfl, HD.out.cnt, HCT.out, HGK.out, F1.out⟩
set_option maxRecDepth 100000 in
set_option maxHeartbeats 2000000 in
theorem dcnt_bad (gt : Option Addr) (A Ar : Option Addr) (c cr B n nr : Nat) (M : List Ndm) (w : World) (h : Nds w B A n M) (hB : B ≤ w.heap.size) (hs : Small M) (hr : checkN (fstN M) ≠ 0) :
    Calls Tryz.prog 12 #[.slice A n c, .pointer gt, .slice Ar nr cr] w fun e w' => e = .returned (.tuple #[.map none, .int .i64 10]) ∧ Fr w.heap.size [] w w' := by
  have H := Lib.hid (flows_bad gt A Ar c cr B n nr M w h hB hs hr)
  clear h hs hr
  go_enter Tryz.func12, Tryz.ntmps12
  go_wp2_with fail
  refine H.out.mono ?_
  rintro e w1 ⟨rfl, f1⟩
  have F1 := Lib.hid f1
  clear f1 H
  go_wp2_with fail
  go_ret2
  exact ⟨rfl, F1.out⟩
end Go.Proofs.YthfibggbipkmfaaGreat
namespace Go.Proofs.YthfibggbipkmfaaGreat
open Go.RowKit Go.Fb
set_option linter.unusedVariables false
def TL (l : List (Nat → Int)) : Int → Option Value := fun s => if cntS s l = 0 then none else some (.int .i64 (cntS s l : Int))
def TI (f : Int) (l : List (Nat → Int)) : Int → Option Value := fun s => if cntF s f l = 0 then none else some (.int .i64 (cntF s f l : Int))
def anyF (f : Int) (l : List (Nat → Int)) : Bool := l.any fun x => decide (x 1 = f)
def TF (l : List (Nat → Int)) (G : Int → Nat) : Int → Option Value := fun f => if anyF f l = true then some (.map (some (G f))) else none
theorem TL_get (s : Int) (l : List (Nat → Int)) : (TL l s).getD (.int .i64 0) = .int .i64 (cntS s l : Int) := by
  unfold TL
  split
  · rename_i h
    rw [h]
    rfl
  · rfl
theorem TI_get (f s : Int) (l : List (Nat → Int)) : (TI f l s).getD (.int .i64 0) = .int .i64 (cntF s f l : Int) := by
  unfold TI
  split
  · rename_i h
    rw [h]
    rfl
  · rfl
theorem TL_snoc (l : List (Nat → Int)) (x : Nat → Int) : updI (TL l) (x 0) (.int .i64 ((cntS (x 0) l : Int) + 1)) = TL (l ++ [x]) := by
  funext q
  unfold updI TL
  by_cases e : q = x 0
  · have hc : cntS q (l ++ [x]) = cntS q l + 1 := by rw [cntS_snoc, if_pos e.symm]
    rw [if_pos e, hc, if_neg (by omega), e]
    rfl
  · have hc : cntS q (l ++ [x]) = cntS q l := by rw [cntS_snoc, if_neg (fun h : x 0 = q => e h.symm), Nat.add_zero]
    rw [if_neg e, hc]
theorem TI_snoc (l : List (Nat → Int)) (x : Nat → Int) : updI (TI (x 1) l) (x 0) (.int .i64 ((cntF (x 0) (x 1) l : Int) + 1)) = TI (x 1) (l ++ [x]) := by
  funext q
  unfold updI TI
  by_cases e : q = x 0
  · have hc : cntF q (x 1) (l ++ [x]) = cntF q (x 1) l + 1 := by rw [cntF_snoc, if_pos ⟨e.symm, rfl⟩]
    rw [if_pos e, hc, if_neg (by omega), e]
    rfl
  · have hc : cntF q (x 1) (l ++ [x]) = cntF q (x 1) l := by rw [cntF_snoc, if_neg (fun h : x 0 = q ∧ x 1 = x 1 => e h.1.symm), Nat.add_zero]
    rw [if_neg e, hc]
theorem TI_other {f : Int} (l : List (Nat → Int)) {x : Nat → Int} (h : x 1 ≠ f) : TI f (l ++ [x]) = TI f l := by
  funext q
  have hc : cntF q f (l ++ [x]) = cntF q f l := by rw [cntF_snoc, if_neg (fun h2 : x 0 = q ∧ x 1 = f => h h2.2), Nat.add_zero]
  unfold TI
  rw [hc]
theorem TI_new {f : Int} {l : List (Nat → Int)} (h : anyF f l = false) : TI f l = fun _ => none := by
  funext q
  unfold TI
  rw [if_pos]
  refine Classical.byContradiction fun c => ?_
  obtain ⟨x, hx, _, h1⟩ := cntF_pos c
  unfold anyF at h
  rw [List.any_eq_false] at h
  exact h x hx (by simpa using h1)
theorem anyF_snoc (f : Int) (l : List (Nat → Int)) (x : Nat → Int) : anyF f (l ++ [x]) = (anyF f l || decide (x 1 = f)) := by
  unfold anyF
  rw [List.any_append]
  simp
/-- Maps of maps: which there are is told by k, what they hold by l. -/
structure FromM (lo gf : Nat) (w : World) (k l : List (Nat → Int)) (G : Int → Nat) : Prop where
  out : IMap w gf (TF k G)
  inn : ∀ f, anyF f k = true → IMap w (G f) (TI f l) ∧ lo ≤ G f
  inj : ∀ f f', anyF f k = true → anyF f' k = true → G f = G f' → f = f'
  low : gf < lo
theorem FromM.frL {lo gf : Nat} {w w' : World} {k l : List (Nat → Int)} {G : Int → Nat} {L : List Nat} (h : FromM lo gf w k l G) (hf : Fr w.heap.size L w w') (hL : ∀ g ∈ L, g < lo ∧ g ≠ gf) : FromM lo gf w' k l G :=
  ⟨h.out.fr hf h.out.lt (fun hm => (hL gf hm).2 rfl), fun f hk => ⟨(h.inn f hk).1.fr hf (h.inn f hk).1.lt (fun hm => by have := (hL _ hm).1; have := (h.inn f hk).2; omega), (h.inn f hk).2⟩, h.inj, h.low⟩
theorem FromM.fr {lo gf : Nat} {w w' : World} {k l : List (Nat → Int)} {G : Int → Nat} (h : FromM lo gf w k l G) (hf : Fr w.heap.size [] w w') : FromM lo gf w' k l G := h.frL hf (by simp)
theorem FromM.nil {lo gf : Nat} {w : World} (h : IMap w gf (fun _ => none)) (hlo : gf < lo) : FromM lo gf w [] [] (fun _ => 0) :=
  ⟨(by rw [show TF [] (fun _ => 0) = fun _ => none from rfl]; exact h), (fun f h => by cases h), (fun f f' h => by cases h), hlo⟩
theorem FromM.any {lo gf : Nat} {w : World} {l : List (Nat → Int)} {G : Int → Nat} (h : FromM lo gf w l l G) {x : Nat → Int} (ha : anyF (x 1) l = true) : FromM lo gf w (l ++ [x]) l G := by
  have hs : ∀ f, anyF f (l ++ [x]) = anyF f l := fun f => by
    rw [anyF_snoc]
    by_cases e : x 1 = f
    · rw [← e, ha]; rfl
    · rw [decide_eq_false e, Bool.or_false]
  refine ⟨?_, fun f hk => h.inn f (by rw [← hs]; exact hk), fun f f' a b => h.inj f f' (by rw [← hs]; exact a) (by rw [← hs]; exact b), h.low⟩
  rw [show TF (l ++ [x]) G = TF l G from funext fun f => by unfold TF; rw [hs]]
  exact h.out
theorem FromM.new {lo gf : Nat} {w w2 : World} {l : List (Nat → Int)} {G : Int → Nat} (h : FromM lo gf w l l G) {x : Nat → Int} (ha : anyF (x 1) l = false) (hlo : lo ≤ w.heap.size)
    (hI : IMap w2 gf (updI (TF l G) (x 1) (.map (some w.heap.size)))) (hf : Fr (w.alloc (.map #[] 0)).heap.size [gf] (w.alloc (.map #[] 0)) w2) : FromM lo gf w2 (l ++ [x]) l (fun q => if q = x 1 then w.heap.size else G q) := by
  have hne : ∀ f, anyF f l = true → f ≠ x 1 := fun f hk e => by rw [e, ha] at hk; cases hk
  have hor : ∀ f, anyF f (l ++ [x]) = true → f ≠ x 1 → anyF f l = true := fun f hk e => by
    rw [anyF_snoc, decide_eq_false (fun c => e c.symm), Bool.or_false] at hk
    exact hk
  have hl := h.low
  refine ⟨?_, fun f hk => ?_, fun f f' a b e => ?_, h.low⟩
  · rw [show TF (l ++ [x]) (fun q => if q = x 1 then w.heap.size else G q) = updI (TF l G) (x 1) (.map (some w.heap.size)) from funext fun f => by
      by_cases e : f = x 1
      · have h1 : anyF f (l ++ [x]) = true := by rw [anyF_snoc, decide_eq_true e.symm, Bool.or_true]
        unfold TF updI
        simp only [if_pos h1, if_pos e]
      · have h1 : anyF f (l ++ [x]) = anyF f l := by rw [anyF_snoc, decide_eq_false (fun c => e c.symm), Bool.or_false]
        unfold TF updI
        simp only [h1, if_neg e]]
    exact hI
  · by_cases e : f = x 1
    · rw [if_pos e, e, TI_new ha]
      exact ⟨(IMap.new w).fr hf (by simp) (by simp; omega), hlo⟩
    · rw [if_neg e]
      obtain ⟨a, b⟩ := h.inn f (hor f hk e)
      exact ⟨(a.fr ((Fr.refl w.heap.size [] w).alloc (Nat.le_refl _) _) a.lt (by simp)).fr hf (by have := a.lt; simp; omega) (by simp; omega), b⟩
  · by_cases e1 : f = x 1
    · by_cases e2 : f' = x 1
      · rw [e1, e2]
      · simp only [if_pos e1, if_neg e2] at e
        have := (h.inn f' (hor f' b e2)).1.lt
        omega
    · by_cases e2 : f' = x 1
      · simp only [if_neg e1, if_pos e2] at e
        have := (h.inn f (hor f a e1)).1.lt
        omega
      · simp only [if_neg e1, if_neg e2] at e
        exact h.inj f f' (hor f a e1) (hor f' b e2) e
theorem FromM.step {lo gf : Nat} {w w2 : World} {l : List (Nat → Int)} {G : Int → Nat} {x : Nat → Int} (h : FromM lo gf w (l ++ [x]) l G)
    (hI : IMap w2 (G (x 1)) (updI (TI (x 1) l) (x 0) (.int .i64 ((cntF (x 0) (x 1) l : Int) + 1)))) (hf : Fr w.heap.size [G (x 1)] w w2) : FromM lo gf w2 (l ++ [x]) (l ++ [x]) G := by
  have hx : anyF (x 1) (l ++ [x]) = true := by rw [anyF_snoc, decide_eq_true rfl, Bool.or_true]
  have hl := h.low
  have hg := (h.inn (x 1) hx).2
  refine ⟨h.out.fr hf h.out.lt (by simp; omega), fun f hk => ?_, h.inj, h.low⟩
  by_cases e : f = x 1
  · subst e
    rw [TI_snoc] at hI
    exact ⟨hI, hg⟩
  · obtain ⟨a, b⟩ := h.inn f hk
    rw [TI_other l (fun c => e c.symm)]
    exact ⟨a.fr hf a.lt (by simp; exact fun c => e (h.inj f (x 1) hk hx c)), b⟩
theorem FromM.look {lo gf : Nat} {w : World} {k l : List (Nat → Int)} {G : Int → Nat} (h : FromM lo gf w k l G) {f : Int} (hk : anyF f k = true) : TF k G f = some (.map (some (G f))) := by unfold TF; rw [if_pos hk]
theorem FromM.none {lo gf : Nat} {w : World} {k l : List (Nat → Int)} {G : Int → Nat} (h : FromM lo gf w k l G) {f : Int} (hk : anyF f k = false) : TF k G f = Option.none := by unfold TF; rw [if_neg (by rw [hk]; simp)]
/-- The entries of a map that counts. -/
theorem ti_entry {w : World} {g : Nat} {f : Int} {l : List (Nat → Int)} {K : List Int} {es : Array MapEntry} {clock : Nat} (he : IEs es clock K (TI f l)) {e : MapEntry} (hm : e ∈ es.toList) : ∃ a, e.key = .int .i64 a ∧ e.val = .int .i64 (cntF a f l : Int) ∧ cntF a f l ≠ 0 := by
  have h5 : (e.key, e.val) ∈ K.map (fun p => (Value.int .i64 p, (TI f l p).getD dV)) := by rw [← he.kv]; exact List.mem_map.2 ⟨e, hm, rfl⟩
  obtain ⟨a, ha, h6⟩ := List.mem_map.1 h5
  simp only [Prod.mk.injEq] at h6
  have hn := (he.mem a).1 ha
  have hc : cntF a f l ≠ 0 := fun c => hn (by unfold TI; rw [if_pos c])
  refine ⟨a, h6.1.symm, ?_, hc⟩
  rw [← h6.2]
  unfold TI
  rw [if_neg hc]
  rfl
theorem imap_nil (g : Option Nat) (w : World) : (binOp .eql 34 (.map g) (.map none)).run Tryz.prog w = .ok (.bool g.isNone) w := by
  simp only [binOp]
  simp [run_equal_map_nil w _ _ _ g Tryz.underlying34]
theorem imap_len {w : World} {r : Nat} {T : Int → Option Value} {L : List Int} (h : IMap w r T) (hn : L.Nodup) (hd : ∀ q, T q ≠ none ↔ q ∈ L) : (Builtin.len_ #[34] 3 #[.map (some r)]).run Tryz.prog w = .ok (goInt L.length) w := by
  obtain ⟨K, es, clock, hb, he⟩ := h
  have e1 : es.size = L.length := by
    have h1 : es.toList.length = K.length := by have := congrArg List.length he.kv; simpa using this
    have h2 : K.Perm L := (List.perm_ext_iff_of_nodup he.nd hn).2 fun q => by rw [he.mem, hd]
    rw [← h2.length_eq, ← h1]
    simp
  have h3 := run_len_map (P := Tryz.prog) (w := w) 34 3 r es clock (by kernel_rfl) hb
  rw [h3, e1]
end Go.Proofs.YthfibggbipkmfaaGreat
namespace Go.Proofs.YthfibggbipkmfaaGreat
open Go.RowKit Go.Fb
set_option linter.unusedVariables false
set_option maxRecDepth 100000 in
set_option maxHeartbeats 16000000 in
theorem walk_DenCounts (A : Option Addr) (n c : Nat) (M : List Ndm) (hn : n ≤ maxLen) (Ar : Option Addr) (nr cr : Nat) (R : List (Nat → Int)) (hl : nr = R.length) (hm : nr ≤ maxLen) (w : World) (h : Nds w w.heap.size A n M) (hr : Reads w w.heap.size 3 Ar nr (cellsR R)) :
    Calls Tryz.prog 3 #[.slice A n c, .slice Ar nr cr] w fun e w' => e = .returned (.bool true) ∧ Below w.heap.size w w' := by
  have HM := Lib.hid (fun (wx : World) (hx : Fr w.heap.size [] w wx) => (h.frw hx (Nat.le_refl _) (by simp) : Nds wx w.heap.size A n M))
  have HRD := Lib.hid (fun (wx : World) (hx : Fr w.heap.size [] w wx) => (hr.fr hx (Nat.le_refl _) (by simp) : Reads wx w.heap.size 3 Ar nr (cellsR R)))
  have HL := Lib.hid hl
  have HNUM := Lib.hid h.num
  have HAW := Lib.hid (awake12_any w)
  clear h hr hl
  go_enter Tryz.func3, Tryz.ntmps3
  go_wp2_with fail
  refine HAW.out.mono ?_
  rintro e w1 ⟨rfl, f1⟩
  have fa := (Fr.refl w1.heap.size [] w1).alloc (Nat.le_refl _) (.cells #[.slice none 0 0, .slice Ar nr cr] 28)
  have BS := Blk.new w1 28 #[.slice none 0 0, .slice Ar nr cr]
  have F1 := Lib.hid f1
  have FA := Lib.hid (f1.trans (fa.mono (B' := w.heap.size) (L' := []) f1.size (by simp)))
  have HGR := Lib.hid (great12_any A (some ⟨w1.heap.size, 0, none⟩) c 1 (w1.alloc (.cells #[.slice none 0 0, .slice Ar nr cr] 28)).heap.size n 1 M [⟨[], R, .slice none 0 0, .slice Ar nr cr⟩] _ ((HM.out _ FA.out).more FA.out.size) (Nat.le_refl _) hn (sgs_one BS HL.out (HRD.out _ FA.out) FA.out.size) (by intro z hz; rw [List.mem_singleton] at hz; subst hz; exact ⟨Nat.zero_le _, by simp only; rw [← HL.out]; exact hm⟩))
  clear f1 fa BS HAW
  go_wp2_with fail
  refine HGR.out.mono ?_
  rintro e w2 ⟨⟨g, rfl, hg⟩, f2⟩
  have F2 := Lib.hid (FA.out.trans (f2.mono (B' := w.heap.size) (L' := []) FA.out.size (by simp)))
  have HG := Lib.hid hg
  clear f2 hg HGR FA F1
  cases g with
  | true =>
    go_wp2_with fail
    go_ret
    exact ⟨rfl, F2.out.below⟩
  | false => ?_
  have hgi := HG.out rfl
  obtain ⟨hsm, hsg, hM20⟩ := hgi.small
  have hr40 : nr ≤ 40 := by rw [HL.out]; exact (hgi.2.2 ⟨[], R, .slice none 0 0, .slice Ar nr cr⟩ (by simp)).2
  have hn20 : n ≤ 20 := by rw [HNUM.out]; exact hM20
  have HSM := Lib.hid hsm
  have HNW := Lib.hid (cnew_any none 0 0 w2.heap.size [] w2 rfl (by omega) Reads.none_ (Nat.le_refl _))
  clear hgi hsm hsg hM20 HG hn hm
  go_wp2_with fail
  refine HNW.out.mono ?_
  rintro e w5 (⟨hc, _⟩ | ⟨_, rfl, hct, f5⟩)
  · simp at hc
  have HCT := Lib.hid hct
  have F5 := Lib.hid f5
  obtain ⟨gt, hgt⟩ : ∃ g, g = w2.heap.size + 1 := ⟨_, rfl⟩
  obtain ⟨gm, hgm⟩ : ∃ g, g = w2.heap.size := ⟨_, rfl⟩
  rw [← hgt, ← hgm] at HCT
  rw [← hgt]
  have hgt5 : gt < w5.heap.size := HCT.out.bk.lt
  have hgm5 : gm < w5.heap.size := HCT.out.mp.lt
  have HNW2 := Lib.hid (cnew_any none 0 0 w5.heap.size [] w5 rfl (by omega) Reads.none_ (Nat.le_refl _))
  have hgm4 : w2.heap.size ≤ gm := by omega
  clear hct f5 HNW hgt hgm
  go_wp2_with fail
  refine HNW2.out.mono ?_
  rintro e w6 (⟨hc, _⟩ | ⟨_, rfl, hct, f6⟩)
  · simp at hc
  have HCU := Lib.hid hct
  have HCT6 := Lib.hid (HCT.out.keep f6)
  have F6 := Lib.hid (F5.out.trans (f6.mono (B' := w2.heap.size) (L' := []) F5.out.size (by simp)))
  obtain ⟨gu, hgu⟩ : ∃ g, g = w5.heap.size + 1 := ⟨_, rfl⟩
  obtain ⟨gv, hgv⟩ : ∃ g, g = w5.heap.size := ⟨_, rfl⟩
  rw [← hgu, ← hgv] at HCU
  rw [← hgu]
  have hgu6 : gu < w6.heap.size := HCU.out.bk.lt
  have hgv6 : gv < w6.heap.size := HCU.out.mp.lt
  have h56 : w5.heap.size ≤ w6.heap.size := f6.size
  have hu5 : w5.heap.size ≤ gu := by omega
  have hv5 : w5.heap.size ≤ gv := by omega
  have hw2 : w.heap.size ≤ w2.heap.size := F2.out.size
  have h25 : w2.heap.size ≤ w5.heap.size := F5.out.size
  clear hgu hgv
  have hW6 := F2.out.trans (F6.out.mono (B' := w.heap.size) (L' := []) F2.out.size (by simp))
  obtain ⟨T0, hT0⟩ : ∃ T, T = tabL [] := ⟨_, rfl⟩
  rw [← hT0] at HCT6 HCU
  have HT0 := Lib.hid (show TOk T0 by rw [hT0]; exact TOk.zero)
  have HW6 := Lib.hid hW6
  obtain ⟨L, hL⟩ : ∃ L, L = fstN M := ⟨_, rfl⟩
  have HLM := Lib.hid hL
  clear hct f6 HNW2 HCT hT0 hW6 hL
  by_cases hck : checkN L = 0
  case neg =>
    have HB1 := Lib.hid (dcnt_bad (some ⟨gt, 0, none⟩) A Ar c cr w.heap.size n nr M w6 (HM.out w6 HW6.out) HW6.out.size HSM.out (by rw [← HLM.out]; exact hck))
    have HB2 := Lib.hid (fun (wx : World) (hx : Fr w6.heap.size [] w6 wx) => (by
      have k1 := HW6.out.trans (hx.mono (B' := w.heap.size) (L' := []) HW6.out.size (by simp))
      exact drun_bad (some ⟨gu, 0, none⟩) A Ar c cr w.heap.size n nr M wx (HM.out wx k1) k1.size HSM.out (by rw [← HLM.out]; exact hck) : Calls Tryz.prog 13 #[.slice A n c, .pointer (some ⟨gu, 0, none⟩), .slice Ar nr cr] wx fun e w' => e = .returned (.tuple #[.slice none 0 0, .int .i64 10]) ∧ Fr wx.heap.size [] wx w'))
    clear hck
    go_wp2_with fail
    refine HB1.out.mono ?_
    rintro e w7 ⟨rfl, f7⟩
    have HB27 := Lib.hid (HB2.out w7 f7)
    have F7 := Lib.hid (HW6.out.trans (f7.mono (B' := w.heap.size) (L' := []) HW6.out.size (by simp)))
    clear f7 HB1 HB2
    go_wp2_with fail
    refine HB27.out.mono ?_
    rintro e w8 ⟨rfl, f8⟩
    have F8 := Lib.hid (F7.out.trans (f8.mono (B' := w.heap.size) (L' := []) F7.out.size (by simp)))
    clear f8 HB27
    go_wp2_with fail
    go_ret
    exact ⟨rfl, F8.out.below⟩
  have HRG := Lib.hid (checkN_zero.1 hck : RightG L)
  clear hck
  have HFEW := Lib.hid (fun (hb : R.all recR = true) => (by have h1 := flow_few HRG.out hb (S := ⟨T0, [], cnt0 L⟩) HT0.out; have h2 := Nat.mul_le_mul_right 26507215 hr40; rw [HL.out] at h2; simp only [List.length_nil] at h1; omega : (flowD L R ⟨T0, [], cnt0 L⟩).out.length ≤ 1073741000))
  have HRA := Lib.hid (by
    have h1 := dcntD_any gt gm T0 A Ar c cr w.heap.size w.heap.size n nr M R w6 (HM.out w6 HW6.out) HW6.out.size HSM.out (by rw [← HLM.out]; exact HRG.out) HL.out (by omega) (HRD.out w6 HW6.out) HCT6.out HW6.out.size (by omega) HT0.out (by rw [← HLM.out]; exact fun hb => Nat.le_trans (HFEW.out hb) (by decide))
    rw [← HLM.out] at h1
    exact h1 : Calls Tryz.prog 12 #[.slice A n c, .pointer (some ⟨gt, 0, none⟩), .slice Ar nr cr] w6 (DCntD L R T0 gt gm w6))
  have HRB := Lib.hid (fun (wx : World) (hx : Fr w6.heap.size [gm] w6 wx) => (by
    have k1 := HW6.out.trans (hx.mono (B' := w.heap.size) (L' := []) HW6.out.size (by simp; omega))
    have h1 := drunD_any gu gv T0 A Ar c cr w.heap.size w.heap.size n nr M R wx (HM.out wx k1) k1.size HSM.out (by rw [← HLM.out]; exact HRG.out) HL.out (by omega) (HRD.out wx k1) (HCU.out.fr hx hgu6 (by simp; omega) hgv6 (by simp; omega)) k1.size (by omega) HT0.out (by rw [← HLM.out]; exact fun hb => Nat.le_trans (HFEW.out hb) (by decide))
    rw [← HLM.out] at h1
    exact h1 : Calls Tryz.prog 13 #[.slice A n c, .pointer (some ⟨gu, 0, none⟩), .slice Ar nr cr] wx (DRunD L R T0 gu gv wx)))
  unfold DCntD at HRA
  unfold DRunD at HRB
  clear HCT6 HCU
  go_wp2_with fail
  refine HRA.out.mono ?_
  rintro e w7 (⟨ha, rfl, f7⟩ | ⟨ha, gk, rfl, hmk, hct7, hgk, f7⟩)
  · have HR7 := Lib.hid (HRB.out w7 (f7.mono (B' := w6.heap.size) (L' := [gm]) (Nat.le_refl _) (by simp)))
    have F7 := Lib.hid (HW6.out.trans (f7.mono (B' := w.heap.size) (L' := []) HW6.out.size (by simp)))
    have HA := Lib.hid ha
    clear ha f7 HRA HRB
    go_wp2_with fail
    refine HR7.out.mono ?_
    rintro e w8 (⟨hb, rfl, f8⟩ | ⟨hb, A8, n8, c8, rfl, ho8, hct8, f8⟩)
    · have F8 := Lib.hid (F7.out.trans (f8.mono (B' := w.heap.size) (L' := []) F7.out.size (by simp)))
      clear hb f8
      go_wp2_with fail
      go_ret
      exact ⟨rfl, F8.out.below⟩
    · rw [HA.out] at hb
      cases hb
  · have HR7 := Lib.hid (HRB.out w7 f7)
    have F7 := Lib.hid (HW6.out.trans (f7.mono (B' := w.heap.size) (L' := []) HW6.out.size (by simp; omega)))
    have HA := Lib.hid ha
    have HC7 := Lib.hid hct7
    have HMK := Lib.hid hmk
    have h67 : w6.heap.size ≤ w7.heap.size := f7.size
    clear ha f7 HRA HRB hct7 hmk
    go_wp2_with fail
    refine HR7.out.mono ?_
    rintro e w8 (⟨hb, rfl, f8⟩ | ⟨hb, A8, n8, c8, rfl, ho8, hct8, f8⟩)
    · rw [HA.out] at hb
      cases hb
    have F8 := Lib.hid (F7.out.trans (f8.mono (B' := w.heap.size) (L' := []) F7.out.size (by simp; omega)))
    have hcnt := flow_cnt HRG.out R T0 (by rw [← HL.out]; omega) (Nat.le_trans (HFEW.out HA.out) (by decide))
    have hok := flow_ok HRG.out HA.out (s := ⟨T0, [], cnt0 L⟩) HT0.out
    have hfew := HFEW.out HA.out
    obtain ⟨E, hE⟩ : ∃ E, E = flowD L R ⟨T0, [], cnt0 L⟩ := ⟨_, rfl⟩
    rw [← hE] at HC7 HMK hct8 ho8 hcnt hok hfew
    rw [← HL.out] at hcnt
    have HCNT := Lib.hid hcnt
    have HOK := Lib.hid hok
    have HKC := Lib.hid (HMK.out.fr f8 HMK.out.lt (by simp; omega))
    have HCA := Lib.hid (HC7.out.fr f8 HC7.out.bk.lt (by simp; omega) HC7.out.mp.lt (by simp; omega))
    have HCB := Lib.hid hct8
    have HNO := Lib.hid (lnlen ho8)
    have hn8 : n8 ≤ 1073741000 := by rw [HNO.out]; exact hfew
    have HRO := Lib.hid (fun (wx : World) (hx : Fr w8.heap.size [] w8 wx) => ((Reads.of_own ho8).fr hx (Nat.le_refl _) (by simp) : Reads wx w8.heap.size 5 A8 n8 (cellsLn E.out)))
    have hmm := @run_makeMap Tryz.prog
    obtain ⟨O, hO⟩ : ∃ O, O = E.out := ⟨_, rfl⟩
    rw [← hO] at HRO HNO HCNT
    have hgk8 : gk < w8.heap.size := HKC.out.lt
    clear hcnt hok hfew ho8 hct8 HC7 HMK hE hb f8 HR7 hO F7
    have f9 := ((Fr.refl w8.heap.size [] w8).alloc (Nat.le_refl _) (.map #[] 0)).alloc (by simp) (.map #[] 0)
    have HTL0 := Lib.hid (show IMap ((w8.alloc (.map #[] 0)).alloc (.map #[] 0)) w8.heap.size (TL []) from (IMap.new w8).fr ((Fr.refl (w8.heap.size + 1) [] (w8.alloc (.map #[] 0))).alloc (by simp) (.map #[] 0)) (Nat.lt_succ_self _) (by simp))
    have HTF0 := Lib.hid (FromM.nil (by have h := IMap.new (w8.alloc (.map #[] 0)); rw [World.size_alloc] at h; exact h : IMap ((w8.alloc (.map #[] 0)).alloc (.map #[] 0)) (w8.heap.size + 1) (fun _ => none)) (Nat.lt_succ_self _))
    have F9 := Lib.hid f9
    go_upto_region 15 with fail
    have hsz9 : w8.heap.size + 2 = ((w8.alloc (.map #[] 0)).alloc (.map #[] 0)).heap.size := by simp
    clear hmm f9
    generalize (w8.alloc (.map #[] 0)).alloc (.map #[] 0) = w9 at *
    obtain ⟨gl, hgl⟩ : ∃ g, g = w8.heap.size := ⟨_, rfl⟩
    rw [← hgl] at HTL0 HTF0 ⊢
    have HGL := Lib.hid hgl
    have HTF0 := Lib.hid (show FromM (gl + 2) (gl + 1) w9 [] [] (fun _ => 0) from HTF0.out)
    have HZI := Lib.hid (fun u => by kernel_rfl : ∀ u, (zeroValue 3).run Tryz.prog u = .ok (.int .i64 0) u)
    have HZM := Lib.hid (fun u => by kernel_rfl : ∀ u, (zeroValue 34).run Tryz.prog u = .ok (.map none) u)
    clear hgl hsz9
    go_wp2_with fail
    go_loopg [16, 64] n8 (fun g s16 s64 wr => ∃ (j : Nat) (G : Int → Nat), j ≤ n8 ∧ g = n8 - j ∧ s64 = .int .i64 j ∧ (s16 = undef ∨ ∃ a, s16 = .pointer a) ∧ RowKit.Hid (IMap wr gl (TL (O.take j))) ∧ RowKit.Hid (FromM (gl + 2) (gl + 1) wr (O.take j) (O.take j) G) ∧ RowKit.Hid (Fr w8.heap.size [] w8 wr))
    case atStart => exact ⟨0, fun _ => 0, Nat.zero_le _, rfl, rfl, .inl rfl, HTL0, HTF0, F9⟩
    case round =>
      clear HTL0 HTF0 F9
      obtain ⟨j, G, hj, rfl, rfl, h16, HTL, HTF, FQ⟩ := hrel
      by_cases hjn : j < n8
      · have hji : (j : Int) < (n8 : Int) := by omega
        obtain ⟨y, hy⟩ : ∃ y, O[j]? = some y := ⟨_, List.getElem?_eq_getElem (by rw [← HNO.out]; exact hjn)⟩
        have hrl := HRO.out wr FQ.out
        rw [HNO.out] at hrl
        obtain ⟨b2, off2, rfl, hb2, hcx⟩ := reads_ln hrl hy
        have p0 := hcx 0 (by omega)
        have p1 := hcx 1 (by omega)
        have p2' := hcx 2 (by omega)
        have p3 := hcx 3 (by omega)
        have p4 := hcx 4 (by omega)
        simp only [Nat.add_zero, ← Nat.add_assoc] at p0 p1 p2' p3 p4
        have HTK := Lib.hid (show O.take (j + 1) = O.take j ++ [y] by rw [List.take_add_one, hy]; rfl)
        obtain ⟨l, hl⟩ : ∃ l, l = O.take j := ⟨_, rfl⟩
        rw [← hl] at HTL HTF HTK
        have hll : l.length ≤ 1073741000 := by rw [hl, List.length_take]; omega
        have hcl : cntS (y 0) l ≤ 1073741000 := Nat.le_trans (cntS_le _ _) hll
        have hcl2 : cntF (y 0) (y 1) l ≤ 1073741000 := Nat.le_trans (cntF_le _ _ _) hll
        have hglr : gl + 2 ≤ wr.heap.size := HTF.out.out.lt
        have hg8 : w8.heap.size ≤ gl := by rw [HGL.out]; exact Nat.le_refl _
        clear hcx hy hrl hl
        go_upto_region 18 with fail
        have BX := Lib.hid (Blk.new wr 44 #[.int .i64 (y 0), .int .i64 (y 1), .int .i64 (y 2), .int .i64 (y 3), .int .i64 (y 4)])
        have fa := (Fr.refl wr.heap.size [] wr).alloc (Nat.le_refl _) (.cells #[.int .i64 (y 0), .int .i64 (y 1), .int .i64 (y 2), .int .i64 (y 3), .int .i64 (y 4)] 44)
        have HTLa := Lib.hid (HTL.out.fr fa HTL.out.lt (by simp))
        have HTFa := Lib.hid (HTF.out.fr fa)
        have FQa := Lib.hid (FQ.out.trans (fa.mono (B' := w8.heap.size) (L' := []) FQ.out.size (by simp)))
        clear fa HTL HTF FQ p0 p1 p2' p3 p4 hb2 h16
        generalize wr.alloc (.cells #[.int .i64 (y 0), .int .i64 (y 1), .int .i64 (y 2), .int .i64 (y 3), .int .i64 (y 4)] 44) = wa at *
        generalize wr.heap.size = gx at *
        have x0 := BX.out.cell 0
        simp at x0
        obtain ⟨v, hv⟩ : ∃ v : Int, v = (cntS (y 0) l : Int) := ⟨_, rfl⟩
        have hlk := HTLa.out.look Tryz.underlying34 HZI.out (y 0)
        rw [TL_get, ← hv] at hlk
        obtain ⟨w2', hup, hm2, f2, hs2⟩ := HTLa.out.upd Tryz.underlying34 (y 0) (.int .i64 (wrap64 (v + 1)))
        have hwv : wrap64 (v + 1) = v + 1 := by unfold wrap64; omega
        rw [show Value.int .i64 (wrap64 (v + 1)) = .int .i64 ((cntS (y 0) l : Int) + 1) by rw [hwv, hv], TL_snoc] at hm2
        have HTL2 := Lib.hid hm2
        have HTF2 := Lib.hid (HTFa.out.frL f2 (by simp))
        have BX2 := Lib.hid (BX.out.fr f2 BX.out.lt (by simp; omega))
        have FQ2 := Lib.hid (FQa.out.trans (f2.mono (B' := w8.heap.size) (L' := []) FQa.out.size (by simp; omega)))
        have hgx2 : gx < w2'.heap.size := BX2.out.lt
        clear hm2 f2 hs2 hwv hv HTLa HTFa BX FQa
        go_upto_region 19 with fail
        clear x0 hlk hup
        have x1 := BX2.out.cell 1
        simp at x1
        have hlo := HTF2.out.out.look Tryz.underlying40 HZM.out (y 1)
        by_cases ha : anyF (y 1) l = true
        case' pos =>
          rw [HTF2.out.look ha] at hlo
          simp only [Option.getD_some] at hlo
          have hq := imap_nil (some (G (y 1)))
          have HTF4 := Lib.hid (HTF2.out.any ha)
          go_upto_region 21 with fail
          clear hq hlo x1 ha HTF2
          generalize G = G4 at *
          generalize w2' = w4 at *
          have HTL4 := HTL2
          have BX4 := BX2
          have FQ4 := FQ2
          clear HTL2 BX2 FQ2
        case' neg =>
          have ha : anyF (y 1) l = false := by simpa using ha
          rw [HTF2.out.none ha] at hlo
          simp only [Option.getD_none] at hlo
          have hq := imap_nil none
          have hmm := @run_makeMap Tryz.prog
          have fn := (Fr.refl w2'.heap.size [] w2').alloc (Nat.le_refl _) (.map #[] 0)
          obtain ⟨w3', hup3, hm3, f3, hs3⟩ := (HTF2.out.out.fr fn HTF2.out.out.lt (by simp)).upd Tryz.underlying40 (y 1) (.map (some w2'.heap.size))
          obtain ⟨G4, hG4⟩ : ∃ G4 : Int → Nat, G4 = fun q => if q = y 1 then w2'.heap.size else G q := ⟨_, rfl⟩
          have HTF4 := Lib.hid (show FromM (gl + 2) (gl + 1) w3' (l ++ [y]) l G4 by rw [hG4]; exact HTF2.out.new ha (by omega) hm3 f3)
          have fn3 := (fn.mono (B' := w2'.heap.size) (L' := [gl + 1]) (Nat.le_refl _) (by simp)).trans (f3.mono (B' := w2'.heap.size) (L' := [gl + 1]) (by simp) (by simp))
          have HTL4 := Lib.hid (HTL2.out.fr fn3 HTL2.out.lt (by simp))
          have BX4 := Lib.hid (BX2.out.fr fn3 BX2.out.lt (by simp; omega))
          have FQ4 := Lib.hid (FQ2.out.trans (fn3.mono (B' := w8.heap.size) (L' := []) FQ2.out.size (by simp; omega)))
          clear hm3 f3 hs3 fn fn3 hG4
          go_upto_region 21 with fail
          clear hq hlo x1 ha HTF2 hmm hup3 HTL2 BX2 FQ2
          generalize w3' = w4 at *
        all_goals
          have x0 := BX4.out.cell 0
          have x1 := BX4.out.cell 1
          simp at x0 x1
          have hk1 : anyF (y 1) (l ++ [y]) = true := by rw [anyF_snoc, decide_eq_true rfl, Bool.or_true]
          have hlo4 := HTF4.out.out.look Tryz.underlying40 HZM.out (y 1)
          rw [HTF4.out.look hk1] at hlo4
          simp only [Option.getD_some] at hlo4
          obtain ⟨hIn, hg4l⟩ := HTF4.out.inn (y 1) hk1
          obtain ⟨g4, hg4⟩ : ∃ g4, g4 = G4 (y 1) := ⟨_, rfl⟩
          rw [← hg4] at hlo4 hIn hg4l
          obtain ⟨v2, hv2⟩ : ∃ v2 : Int, v2 = (cntF (y 0) (y 1) l : Int) := ⟨_, rfl⟩
          have hli := hIn.look Tryz.underlying34 HZI.out (y 0)
          rw [TI_get, ← hv2] at hli
          obtain ⟨w5', hup5, hm5, f5, hs5⟩ := hIn.upd Tryz.underlying34 (y 0) (.int .i64 (wrap64 (v2 + 1)))
          have hwv2 : wrap64 (v2 + 1) = v2 + 1 := by unfold wrap64; omega
          rw [show Value.int .i64 (wrap64 (v2 + 1)) = .int .i64 ((cntF (y 0) (y 1) l : Int) + 1) by rw [hwv2, hv2]] at hm5
          have HTF5 := Lib.hid (HTF4.out.step (by rw [← hg4]; exact hm5) (by rw [← hg4]; exact f5))
          have HTL5 := Lib.hid (HTL4.out.fr f5 HTL4.out.lt (by simp; omega))
          have FQ5 := Lib.hid (FQ4.out.trans (f5.mono (B' := w8.heap.size) (L' := []) FQ4.out.size (by simp; omega)))
          clear hIn hm5 f5 hs5 hwv2 hv2 hg4 hk1 HTF4 HTL4 BX4 FQ4
          go_wp2_with fail
          go_roundg (n8 - (j + 1))
          case measure => omega
          case rel => exact ⟨j + 1, G4, by omega, rfl, by go_num, .inr ⟨_, rfl⟩, by rw [HTK.out]; exact HTL5, by rw [HTK.out]; exact HTF5, FQ5⟩
      · obtain rfl : j = n8 := by omega
        have htk : O.take j = O := List.take_of_length_le (by rw [HNO.out]; exact Nat.le_refl _)
        rw [htk] at HTL HTF
        clear htk h16 hjn hj HRO HNO
        generalize wr = wA at *
        have HKA := Lib.hid (HKC.out.fr FQ.out HKC.out.lt (by simp))
        have HCA2 := Lib.hid (HCA.out.fr FQ.out HCA.out.bk.lt (by simp) HCA.out.mp.lt (by simp))
        have HCB2 := Lib.hid (HCB.out.fr FQ.out HCB.out.bk.lt (by simp) HCB.out.mp.lt (by simp))
        have FA := Lib.hid (F8.out.trans (FQ.out.mono (B' := w.heap.size) (L' := []) F8.out.size (by simp)))
        have hwA : w.heap.size ≤ wA.heap.size := FA.out.size
        clear HKC HCA HCB FQ F8
        go_wp2_with fail
        go_loopg [18, 93] n (fun g s18 s93 wr => ∃ k : Nat, k ≤ n ∧ g = n - k ∧ s93 = .int .i64 k ∧ (s18 = undef ∨ ∃ a, s18 = .pointer a) ∧ RowKit.Hid (Fr wA.heap.size [] wA wr))
        case atStart => exact ⟨0, Nat.zero_le _, rfl, rfl, .inl rfl, Lib.hid (Fr.refl _ _ _)⟩
        case round =>
          obtain ⟨k, hk, rfl, rfl, h18, FR⟩ := hrel
          have FRw := Lib.hid (FA.out.trans (FR.out.mono (B' := w.heap.size) (L' := []) FA.out.size (by simp)))
          by_cases hkn : k < n
          · have hki : (k : Int) < (n : Int) := by omega
            have hk0 : (0 : Int) ≤ (k : Int) := by omega
            obtain ⟨m, hx⟩ : ∃ m, M[k]? = some m := ⟨_, List.getElem?_eq_getElem (by rw [← HNUM.out]; exact hkn)⟩
            have HND := HM.out wr FRw.out
            obtain ⟨b1, o1, rfl, hb1, hc1⟩ := HND.get hx
            have hin := HND.inn m (List.mem_of_getElem? hx)
            have hxl : m.1 ∈ L := by rw [HLM.out]; exact List.mem_map.2 ⟨m, List.mem_of_getElem? hx, rfl⟩
            have HX := Lib.hid (findN_one HRG.out.uni hxl)
            obtain ⟨x, sf, sp⟩ := m
            simp only at HX
            have fa := (Fr.refl wr.heap.size [] wr).alloc (Nat.le_refl _) (.cells (ndA x sf sp) 49)
            have FRa := Lib.hid (FR.out.trans (fa.mono (B' := wA.heap.size) (L' := []) FR.out.size (by simp)))
            have BX := Lib.hid (Blk.new wr 49 (ndA x sf sp))
            obtain ⟨⟨Af, cf, hf1, _⟩, ⟨Ap, cp, hp1, _⟩⟩ := hin
            simp only at hf1 hp1
            subst hf1
            subst hp1
            obtain ⟨g0, g1, g2, g3, g4, g5, g6, g7, g8, g9, g10, g11, g12⟩ := ndL_get (x, .slice Af x.fr.length cf, .slice Ap x.pg.length cp)
            have p0 := hc1 0 _ g0
            have p1 := hc1 1 _ g1
            have p2 := hc1 2 _ g2
            have p3 := hc1 3 _ g3
            have p4 := hc1 4 _ g4
            have p5 := hc1 5 _ g5
            have p6 := hc1 6 _ g6
            have p7 := hc1 7 _ g7
            have p8 := hc1 8 _ g8
            have p9 := hc1 9 _ g9
            have p10 := hc1 10 _ g10
            have p11 := hc1 11 _ g11
            have p12 := hc1 12 _ g12
            simp only [Nat.add_zero] at p0
            clear hc1 hx g0 g1 g2 g3 g4 g5 g6 g7 g8 g9 g10 g11 g12 h18 fa FR FRw hxl
            go_upto_region 26 with fail
            clear p0 p1 p2 p3 p4 p5 p6 p7 p8 p9 p10 p11 p12
            generalize wr.alloc (.cells (ndA x (.slice Af x.fr.length cf) (.slice Ap x.pg.length cp)) 49) = wa at *
            generalize wr.heap.size = gx at *
            have HKa := Lib.hid (HKA.out.fr FRa.out HKA.out.lt (by simp))
            have HTa := Lib.hid (HTL.out.fr FRa.out HTL.out.lt (by simp))
            have HFa := Lib.hid (HTF.out.fr FRa.out)
            have hAa : wA.heap.size ≤ wa.heap.size := FRa.out.size
            have x0 := BX.out.cell 0
            have x1 := BX.out.cell 1
            simp at x0 x1
            by_cases hk2 : x.kind = 2
            case' pos =>
              rw [hk2] at x1
              have hlc := HKa.out.look Tryz.underlying34 HZI.out x.id
              rw [cntT_get, HCNT.out.snk x.id x HX.out hk2, Option.getD_some] at hlc
              have hll := HTa.out.look Tryz.underlying34 HZI.out x.id
              rw [TL_get] at hll
              clear hk2
              go_upto_region 28 with fail
              clear hlc hll x1 x0
            case' neg =>
              have hd1 : (x.kind == 2) = false := by simpa using hk2
              go_upto_region 28 with fail
              clear hd1 hk2 x1 x0
            all_goals
              obtain ⟨xi, hxi⟩ : ∃ z, z = x.id := ⟨_, rfl⟩
              have x0 := BX.out.cell 0
              simp at x0
              have BXi := Lib.hid (fun (wx : World) (hx : Fr wa.heap.size [] wa wx) => (by have h := (BX.out.fr hx BX.out.lt (by simp)).cell 0; simp at h; rw [hxi]; exact h : wx.cell? ⟨gx, 0, none⟩ = some (.int .i64 xi)))
              rw [← hxi] at x0
              have hlo := HFa.out.out.look Tryz.underlying40 HZM.out xi
              clear hxi
              by_cases hany : anyF xi O = true
              case neg =>
                have hany : anyF xi O = false := by simpa using hany
                rw [HFa.out.none hany] at hlo
                simp only [Option.getD_none] at hlo
                have hrg := run_range_nilMap (P := Tryz.prog) wa 34 3 3 Tryz.underlying34
                go_wp2_with fail
                go_loopw [19] (fun s19 wr => wr = wa.alloc (.mapIter none 0 #[] 0)) (fun _ _ => 0)
                case atStart => rfl
                case round =>
                  subst hrel
                  have hnx : ∀ ty, (Instr.next (.pointer (some ⟨wa.heap.size, 0, none⟩)) false ty).run Tryz.prog (wa.alloc (.mapIter none 0 #[] 0)) = _ := fun ty => run_next_nilMap wa ty 0 0 #[]
                  have FRb := Lib.hid (FRa.out.alloc hAa (.mapIter none 0 #[] 0))
                  clear hlo hrg x0
                  go_wp2_with fail
                  go_roundg (n - (k + 1))
                  case measure => omega
                  case rel => exact ⟨k + 1, by omega, rfl, by go_num, .inr ⟨_, rfl⟩, FRb⟩
              case pos =>
                rw [HFa.out.look hany] at hlo
                simp only [Option.getD_some] at hlo
                obtain ⟨hIn, hgl2⟩ := HFa.out.inn xi hany
                have HLO := Lib.hid (fun (wx : World) (hx : Fr wa.heap.size [] wa wx) => (by
                  have h1 := (HFa.out.fr hx).out.look Tryz.underlying40 HZM.out xi
                  rw [HFa.out.look hany] at h1
                  exact h1 : (Instr.lookup 40 (.map (some (gl + 1))) (.int .i64 xi) false).run Tryz.prog wx = .ok (.map (some (G xi))) wx))
                generalize G xi = g at *
                obtain ⟨K, es, clock, hb, he⟩ := hIn
                have hglt : g < wa.heap.size := IMap.lt ⟨K, es, clock, hb, he⟩
                have HB := Lib.hid hb
                have HE := Lib.hid he
                have hrg := run_range_map (P := Tryz.prog) wa 34 3 3 g es clock Tryz.underlying34 hb
                obtain ⟨gi, hgi⟩ : ∃ z, z = wa.heap.size := ⟨_, rfl⟩
                have HGI := Lib.hid hgi
                rw [← hgi] at hglt hAa
                clear hb he hany
                go_wp2_with fail
                simp only [← hgi]
                go_loopw [19, 20, 21, 22] (fun s19 s20 s21 s22 wr => ∃ seen : Array Nat, RowKit.Hid (wr.heap[gi]? = some (.mapIter (some g) clock seen clock)) ∧ RowKit.Hid (Fr gi [] wa wr)) (fun _ _ _ _ wr => (leftOf es (wr.iterSeen gi)).size)
                case atStart => exact ⟨#[], Lib.hid (by rw [HGI.out]; exact heap_alloc_new wa _), Lib.hid (by rw [HGI.out]; exact (Fr.refl _ _ _).alloc (Nat.le_refl _) _)⟩
                case round =>
                  clear hrg hlo x0 hgi
                  obtain ⟨seen, HI, FF⟩ := hrel
                  generalize wr = wi at *
                  have hbm := (FF.out.block g hglt (by simp)).trans HB.out
                  rcases run_next_at (P := Tryz.prog) wi 0 gi g clock clock seen es clock HI.out hbm HE.out.old (Nat.le_refl _) with ⟨h0, hrun⟩ | ⟨e, hel, w3x, hw3, hrun⟩
                  · have hnx : ∀ ty, (Instr.next (.pointer (some ⟨gi, 0, none⟩)) false ty).run Tryz.prog wi = _ := fun _ => hrun
                    have FRb := Lib.hid (FRa.out.trans (FF.out.mono (B' := wA.heap.size) (L' := []) hAa (by simp)))
                    clear hrun h0 hbm
                    go_wp2_with fail
                    go_roundg (n - (k + 1))
                    case measure => omega
                    case rel => exact ⟨k + 1, by omega, rfl, by go_num, .inr ⟨_, rfl⟩, FRb⟩
                  · obtain ⟨hee, _⟩ := mem_left hel
                    obtain ⟨a, hka, hva, hca⟩ := ti_entry (w := wa) (g := g) HE.out hee
                    have hsz3 : w3x.heap.size = wi.heap.size := by rcases hw3 with rfl | rfl <;> rfl
                    have hlt : gi < w3x.heap.size := by
                      rw [hsz3]
                      rcases Nat.lt_or_ge gi wi.heap.size with h | h
                      · exact h
                      · have := HI.out; rw [Array.getElem?_eq_none h] at this; cases this
                    have f13 : Fr wi.heap.size [] wi w3x := by
                      rcases hw3 with rfl | rfl
                      · exact Fr.refl _ _ _
                      · exact (Fr.refl _ _ _).drew
                    have hen := run_entry_at (P := Tryz.prog) (Go.ChangeMaps.setBlock w3x gi (.mapIter (some g) clock (seen.push e.born) clock)) gi g clock seen es clock e (stB_new hlt _) (((stB_fr w3x gi _).block g (by omega) (by simp; omega)).trans ((f13.block g (by omega) (by simp)).trans hbm)) hee HE.out.born
                    rw [hva, hka] at hrun hen
                    have hnx : ∀ ty, (Instr.next (.pointer (some ⟨gi, 0, none⟩)) false ty).run Tryz.prog wi = _ := fun _ => hrun
                    have HI2 := Lib.hid (stB_new (w := w3x) hlt (.mapIter (some g) clock (seen.push e.born) clock))
                    have F23 := Lib.hid ((f13.mono (B' := wi.heap.size) (L' := [gi]) (Nat.le_refl _) (by simp)).trans ((stB_fr w3x gi (.mapIter (some g) clock (seen.push e.born) clock)).mono (B' := wi.heap.size) (L' := [gi]) (by omega) (by simp)))
                    have HSH := Lib.hid (show (leftOf es (seen.push e.born)).size < (leftOf es (wi.iterSeen gi)).size by rw [seen_of HI.out]; exact left_shrinks es seen e (by simpa using hel))
                    have hltr : gi < wi.heap.size := by omega
                    obtain ⟨v, hv⟩ : ∃ v : Int, v = (cntF a xi O : Int) := ⟨_, rfl⟩
                    rw [← hv] at hrun hen hnx
                    have HEV := Lib.hid (fun (e2 : MapEntry) (h2 : e2 ∈ es.toList) => (by
                      obtain ⟨b, hkb, hvb, hcb⟩ := ti_entry (w := wa) (g := g) HE.out h2
                      exact ⟨b, hkb, by rw [hvb, hv, HCNT.out.even xi a b hca hcb]⟩ : ∃ b, e2.key = .int .i64 b ∧ e2.val = .int .i64 v))
                    generalize Go.ChangeMaps.setBlock w3x gi (.mapIter (some g) clock (seen.push e.born) clock) = w4x at *
                    have F4 := Lib.hid (FF.out.trans (F23.out.mono (B' := gi) (L' := []) (by omega) (by intro q hq hlt; simp at hq; omega)))
                    have hs4 : wi.heap.size ≤ w4x.heap.size := F23.out.size
                    clear hrun hee hka hva hca hel hlt f13 hw3 hsz3 hbm hv HI FF
                    go_upto_region 31 with fail
                    clear hen hnx
                    have F4a := Lib.hid (show Fr wa.heap.size [] wa w4x by rw [← HGI.out]; exact F4.out)
                    have x0 := BXi.out w4x F4a.out
                    have hlo := HLO.out w4x F4a.out
                    have hb4 := (F4.out.block g hglt (by simp)).trans HB.out
                    have hrg := run_range_map (P := Tryz.prog) w4x 34 3 3 g es clock Tryz.underlying34 hb4
                    have HB4 := Lib.hid hb4
                    obtain ⟨gj, hgj⟩ : ∃ z, z = w4x.heap.size := ⟨_, rfl⟩
                    have HGJ := Lib.hid hgj
                    have hgij : gi < gj := by omega
                    clear hb4
                    go_wp2_with fail
                    simp only [← hgj]
                    go_loopw [21, 22] (fun s21 s22 wr => ∃ seen2 : Array Nat, RowKit.Hid (wr.heap[gj]? = some (.mapIter (some g) clock seen2 clock)) ∧ RowKit.Hid (Fr gj [] w4x wr)) (fun _ _ wr => (leftOf es (wr.iterSeen gj)).size)
                    case atStart => exact ⟨#[], Lib.hid (by rw [HGJ.out]; exact heap_alloc_new w4x _), Lib.hid (by rw [HGJ.out]; exact (Fr.refl _ _ _).alloc (Nat.le_refl _) _)⟩
                    case round =>
                      clear hrg hlo x0 hgj
                      obtain ⟨seen2, HJ, FG⟩ := hrel
                      have hbm := (FG.out.block g (by omega) (by simp)).trans HB4.out
                      rcases run_next_at (P := Tryz.prog) wr 0 gj g clock clock seen2 es clock HJ.out hbm HE.out.old (Nat.le_refl _) with ⟨h0, hrun⟩ | ⟨e2, hel, w3y, hw3, hrun⟩
                      · have hnx : ∀ ty, (Instr.next (.pointer (some ⟨gj, 0, none⟩)) false ty).run Tryz.prog wr = _ := fun _ => hrun
                        have HI9 := Lib.hid ((FG.out.block gi hgij (by simp)).trans HI2.out)
                        have F9x := Lib.hid (F4.out.trans (FG.out.mono (B' := gi) (L' := []) (by omega) (by simp)))
                        have HSH9 := Lib.hid (show (leftOf es (wr.iterSeen gi)).size < (leftOf es (wi.iterSeen gi)).size by rw [seen_of HI9.out]; exact HSH.out)
                        clear hrun h0 hbm
                        go_wp2_with fail
                        go_roundw
                        case rel => exact ⟨seen.push e.born, HI9, F9x⟩
                        case measure => exact HSH9.out
                      · obtain ⟨hee, _⟩ := mem_left hel
                        obtain ⟨b, hkb, hvb⟩ := HEV.out e2 hee
                        have hsz3 : w3y.heap.size = wr.heap.size := by rcases hw3 with rfl | rfl <;> rfl
                        have hlt : gj < w3y.heap.size := by
                          rw [hsz3]
                          rcases Nat.lt_or_ge gj wr.heap.size with h | h
                          · exact h
                          · have := HJ.out; rw [Array.getElem?_eq_none h] at this; cases this
                        have f13 : Fr wr.heap.size [] wr w3y := by
                          rcases hw3 with rfl | rfl
                          · exact Fr.refl _ _ _
                          · exact (Fr.refl _ _ _).drew
                        have hen := run_entry_at (P := Tryz.prog) (Go.ChangeMaps.setBlock w3y gj (.mapIter (some g) clock (seen2.push e2.born) clock)) gj g clock seen2 es clock e2 (stB_new hlt _) (((stB_fr w3y gj _).block g (by omega) (by simp; omega)).trans ((f13.block g (by omega) (by simp)).trans hbm)) hee HE.out.born
                        rw [hvb, hkb] at hrun hen
                        have hnx : ∀ ty, (Instr.next (.pointer (some ⟨gj, 0, none⟩)) false ty).run Tryz.prog wr = _ := fun _ => hrun
                        have HJ2 := Lib.hid (stB_new (w := w3y) hlt (.mapIter (some g) clock (seen2.push e2.born) clock))
                        have F23 := Lib.hid ((f13.mono (B' := wr.heap.size) (L' := [gj]) (Nat.le_refl _) (by simp)).trans ((stB_fr w3y gj (.mapIter (some g) clock (seen2.push e2.born) clock)).mono (B' := wr.heap.size) (L' := [gj]) (by omega) (by simp)))
                        have HSH2 := Lib.hid (show (leftOf es ((Go.ChangeMaps.setBlock w3y gj (.mapIter (some g) clock (seen2.push e2.born) clock)).iterSeen gj)).size < (leftOf es (wr.iterSeen gj)).size by rw [seen_of HJ.out, seen_of HJ2.out]; exact left_shrinks es seen2 e2 (by simpa using hel))
                        have hltr2 : gj < wr.heap.size := by omega
                        generalize Go.ChangeMaps.setBlock w3y gj (.mapIter (some g) clock (seen2.push e2.born) clock) = w5x at *
                        have F5x := Lib.hid (FG.out.trans (F23.out.mono (B' := gj) (L' := []) (by omega) (by intro q hq hlt; simp at hq; omega)))
                        clear hrun hee hkb hvb hel hlt f13 hw3 hsz3 hbm
                        go_wp2_with fail
                        go_roundw
                        case rel => exact ⟨seen2.push e2.born, HJ2, F5x⟩
                        case measure => exact HSH2.out
          · obtain rfl : k = n := by omega
            have HKa := HKA.out.fr FR.out HKA.out.lt (by simp)
            have hlk := HKa.look Tryz.underlying34 HZI.out 0
            rw [cntT_get, HCNT.out.src, Option.getD_some] at hlk
            have hlen : (Builtin.len_ #[34] 3 #[.map (some gk)]).run Tryz.prog wr = .ok (.int .i64 (k : Int)) wr := by
              have h1 := imap_len HKa HRG.out.uni (fun q => by
                rw [← HCNT.out.dom q]
                unfold cntT
                cases E.C q <;> simp)
              have h2 : (idsN L).length = k := by rw [HLM.out, HNUM.out]; simp [idsN, fstN]
              rw [h2] at h1
              exact h1
            have hct1w := HCA2.out.fr FR.out HCA2.out.bk.lt (by simp) HCA2.out.mp.lt (by simp)
            have hct2w := HCB2.out.fr FR.out HCB2.out.bk.lt (by simp) HCB2.out.mp.lt (by simp)
            have HPA := Lib.hid (fun (wx : World) (hx : Fr wr.heap.size [] wr wx) => call_any gt gm E.T HOK.out wx (hct1w.fr hx hct1w.bk.lt (by simp) hct1w.mp.lt (by simp)))
            have HPB := Lib.hid (fun (wx : World) (hx : Fr wr.heap.size [] wr wx) => call_any gu gv E.T HOK.out wx (hct2w.fr hx hct2w.bk.lt (by simp) hct2w.mp.lt (by simp)))
            have h512 := allT_few E.T
            obtain ⟨la, hla⟩ : ∃ l, l = allT E.T := ⟨_, rfl⟩
            rw [← hla] at HPA HPB h512
            unfold EntsOut at HPA HPB
            have HC5 := Lib.hid (HPA.out wr (Fr.refl _ _ _))
            clear hla hct1w hct2w HKa HKA HTL HTF HCNT HRG HLM HNUM HCA2 HCB2 HM h18 hkn hk HPA FR
            go_wp2_with fail
            refine HC5.out.mono ?_
            rintro e wB ⟨Aa, ca, rfl, ra, _, _, f8⟩
            have FB := Lib.hid f8
            have RA := Lib.hid ra
            have HC6 := Lib.hid (HPB.out wB f8)
            clear f8 ra HC5 hlk hlen
            go_wp2_with fail
            refine HC6.out.mono ?_
            rintro e wC ⟨Ab, cb, rfl, rb', _, _, f9⟩
            have FC := Lib.hid (FB.out.trans (f9.mono (B' := wr.heap.size) (L' := []) FB.out.size (by simp)))
            have HSY := Lib.hid (same_yes (c1 := ca) (c2 := cb) (RA.out.fr f9 (Nat.le_refl _) (by simp)) rb' (by omega))
            clear f9 rb' HC6 RA FB
            go_wp2_with fail
            refine HSY.out.mono ?_
            rintro e wD ⟨rfl, f10⟩
            have FZ := Lib.hid (FRw.out.trans ((FC.out.trans (f10.mono (B' := wr.heap.size) (L' := []) FC.out.size (by simp))).mono (B' := w.heap.size) (L' := []) FRw.out.size (by simp)))
            clear f10
            go_wp2_with fail
            go_ret
            exact ⟨rfl, FZ.out.below⟩
end Go.Proofs.YthfibggbipkmfaaGreat
namespace Go.Proofs.YthfibggbipkmfaaGreat
open Go.ChangeShapes Go.WideShapes Go.ChangeAt Go.RowKit Go.Fb
set_option linter.unusedVariables false

set_option maxRecDepth 100000 in
theorem lifted_DenCounts (os : Os) (started : os.Started) (H : Type) (enc : TypeId × Value → H) :
    ReturnsInHanded {} Tryz.checked os 3 .any (Rows.denCountsSpec.pre6 enc Tryz.prog Tryz.f3 Rows.denCountsRow.domain false) (Rows.denCountsSpec.post enc Tryz.prog Tryz.f3 false true false false) := by
  refine returnsInHanded_of_change (C := Tryz.checked) (show ownKnob Tryz.prog.godebug = none by kernel_rfl) started (by kernel_rfl) Tryz.func3
    (ChangeSpec.witness6 (enc := enc) (C := Tryz.checked) false ⟨#[], #[.slice none 0 0, .slice none 0 0], []⟩ 8 (by kernel_rfl) (by kernel_rfl) (by kernel_rfl) (by kernel_rfl)) ?_
  intro W base args ds gs before hval0 hW hcnd _
  have hval : ∀ (j : Nat) t v, Tryz.f3.params[j]? = some t → args[j]? = some v → Value.okWide Tryz.prog W .any base t v := hval0
  have hW' := hW
  obtain ⟨p, q, hA0, hV, rfl, hfz, hnd⟩ := hW
  have hA : DataW.TrodAll enc Tryz.prog W 0 (fun _ => true) true Tryz.f3.params.toList args.toList ds p := hA0
  rw [Tryz.params3] at hA hval
  obtain ⟨v0, vs0, d0, ds0, p0, q0, hargs, rfl, rfl, h0, r0'⟩ := trodAll_cons hA
  obtain ⟨v1, vs1, d1, ds1, p1, q1, rfl, rfl, rfl, h1, r1'⟩ := trodAll_cons r0'
  obtain ⟨rfl, rfl, rfl⟩ := trodAll_nil r1'
  obtain rfl : args = #[v0, v1] := by cases args; simp_all
  obtain ⟨rfl, rfl⟩ := trodVars_none hV
  have k0 := h0
  have lt0 : ∀ x ∈ p0, x.block < W.heap.size := by obtain ⟨m, hm⟩ := k0; exact DataW.trod_lt m _ _ _ hm
  have k1 := h1
  have lt1 : ∀ x ∈ p1, x.block < W.heap.size := by obtain ⟨m, hm⟩ := k1; exact DataW.trod_lt m _ _ _ hm
  obtain ⟨A0, n0, c0, M0, rfl, l0, m0, r0, wf0⟩ := arg_nodes (hval 0 22 v0 rfl rfl) h0
  obtain ⟨A1, c1, e1, rfl, g1, m1, r1⟩ := arg_recs (hval 1 23 v1 rfl rfl) h1
  clear hA0 hval0
  refine (walk_DenCounts A0 n0 c0 M0 (Nat.le_trans l0 m0) A1 e1.length c1 e1 rfl (Nat.le_trans g1 m1) W r0 r1).mono fun e W' ⟨he, bel⟩ => ?_
  subst he
  exact ⟨_, rfl, _, _, _, [], _, [], hW', trodAll_mk1 (shut_bool Tryz.underlying4 _), (trodAll_cons_mk (Below.trod (show laidOutB Tryz.prog = true by kernel_rfl) (by kernel_rfl) (of_decide_eq_true (by kernel_rfl)) k0 bel lt0) (trodAll_cons_mk (Below.trod (show laidOutB Tryz.prog = true by kernel_rfl) (by kernel_rfl) (of_decide_eq_true (by kernel_rfl)) k1 bel lt1) trodAll_mk0)), rfl, bel.frame _, fun h => by cases h⟩

theorem DenCounts_holds : Rows.DenCountsSaid :=
  OpenClaim.holds_of_wide 3 Tryz.f3 rfl rfl rfl rfl rfl rfl rfl ⟨rfl, rfl, rfl, rfl, rfl⟩ rfl rfl rfl rfl rfl (by kernel_rfl) Tryz.func3 jf_DenCounts
    (of_decide_eq_true (by kernel_rfl)) (by unfold Func.isWrapper; first | (rw [if_pos (by decide +kernel)]; kernel_rfl) | (rw [if_neg (by decide +kernel)]; exact ⟨rfl, rfl⟩))
    (fun os started H enc _ => lifted_DenCounts os started H enc)
#print axioms DenCounts_holds
end Go.Proofs.YthfibggbipkmfaaGreat
