/- Texts merged into one, for the number of files a claim may have: PfA, PfB. -/
import Derived.Test.YtfakgidimekikaaGreatMCtA
import Derived.Test.YtfakgidimekikaaGreatMBy
import Derived.Deep.DeepCutAuto
import Derived.Deep.RegionHeld3
namespace Go.Proofs.YtfakgidimekikaaGreat
open Go.RowKit Go.Fb
set_option linter.unusedVariables false
theorem val_neq_any (x y : Int × Int) (w : World) : (binOp .neq 24 (.agg #[.int .i64 x.1, .int .i64 x.2]) (.agg #[.int .i64 y.1, .int .i64 y.2])).run Tryz.prog w = .ok (.bool (!decide (x = y))) w := by
  have h := valcmp_d 9998 x.1 x.2 y.1 y.2 w
  have e : (x.1 == y.1 && x.2 == y.2) = decide (x = y) := by
    obtain ⟨a, b⟩ := x
    obtain ⟨c, d⟩ := y
    rw [Bool.eq_iff_iff]
    simp
  rw [e] at h
  simp [binOp, Op.equal, Op.maxDepth, h]
theorem take_ne {α : Type} {a b : List α} {k : Nat} {x y : α} (hx : a[k]? = some x) (hy : b[k]? = some y) (h : x ≠ y) : a ≠ b := fun e => by
  rw [e, hy] at hx
  injection hx with hx
  exact h hx.symm
theorem take_eq_succ {α : Type} {a b : List α} {k : Nat} {x : α} (h : a.take k = b.take k) (hx : a[k]? = some x) (hy : b[k]? = some x) : a.take (k + 1) = b.take (k + 1) := by
  rw [List.take_add_one, List.take_add_one, h, hx, hy]
set_option maxRecDepth 100000 in
set_option maxHeartbeats 4000000 in
theorem vsm_any (A1 A2 : Option Addr) (n1 n2 c1 c2 B : Nat) (a b : List (Int × Int)) (w : World) (h1 : n1 = a.length) (h2 : n2 = b.length) (hm : n1 ≤ 1000000 ∧ n2 ≤ 1000000) (r1 : Reads w B 2 A1 n1 (cellsV a)) (r2 : Reads w B 2 A2 n2 (cellsV b)) (hB : B ≤ w.heap.size) :
    Calls Tryz.prog 20 #[.slice A1 n1 c1, .slice A2 n2 c2] w fun e w' => e = .returned (.bool (decide (a = b))) ∧ Fr w.heap.size [] w w' := by
  have R1 := Lib.hid r1
  have R2 := Lib.hid r2
  have H1 := Lib.hid h1
  have H2 := Lib.hid h2
  obtain ⟨v, hv⟩ : ∃ v, v = decide (a = b) := ⟨_, rfl⟩
  have HV := Lib.hid hv
  rw [← hv]
  obtain ⟨hm1, hm2⟩ := hm
  clear r1 r2 h1 h2 hv
  by_cases hn : n1 = n2
  · subst hn
    go_enter Tryz.func20, Tryz.ntmps20
    go_wp2_with fail
    go_loopg [5] n1 (fun g s5 wr => ∃ k : Nat, k ≤ n1 ∧ g = n1 - k ∧ s5 = .int .i64 k ∧ RowKit.Hid (a.take k = b.take k) ∧ RowKit.Hid (Fr w.heap.size [] w wr))
    case atStart => exact ⟨0, Nat.zero_le _, rfl, rfl, Lib.hid rfl, Lib.hid (Fr.refl _ _ _)⟩
    case round =>
      obtain ⟨k, hk, rfl, rfl, HT, F⟩ := hrel
      by_cases hkn : k < n1
      · have hki : (k : Int) < (n1 : Int) := by omega
        have hk0 : (0 : Int) ≤ (k : Int) := by omega
        obtain ⟨x, hx⟩ : ∃ x, a[k]? = some x := ⟨_, List.getElem?_eq_getElem (by rw [← H1.out]; exact hkn)⟩
        obtain ⟨y, hy⟩ : ∃ y, b[k]? = some y := ⟨_, List.getElem?_eq_getElem (by rw [← H2.out]; exact hkn)⟩
        obtain ⟨b1, o1, rfl, hb1, p0, p1⟩ := reads_val (by have := R1.out.fr F.out hB (by simp); rw [H1.out] at this; exact this) hx
        obtain ⟨b2, o2, rfl, hb2, q0, q1⟩ := reads_val (by have := R2.out.fr F.out hB (by simp); rw [H2.out] at this; exact this) hy
        have hnq := fun w => val_neq_any x y w
        have HX := Lib.hid hx
        have HY := Lib.hid hy
        by_cases hxy : x = y
        · rw [decide_eq_true hxy] at hnq
          simp only [Bool.not_true] at hnq
          have HT2 := Lib.hid (take_eq_succ HT.out HX.out (by rw [HY.out, hxy]))
          clear hx hy hb1 hb2 hxy
          go_wp2_with fail
          go_quiet (fail)
          go_wp2_with fail
          go_roundg (n1 - (k + 1))
          case measure => omega
          case rel => exact ⟨k + 1, by omega, rfl, by go_num, HT2, Lib.hid (F.out.drewN _)⟩
        · rw [decide_eq_false hxy] at hnq
          simp only [Bool.not_false] at hnq
          have HNE := Lib.hid (take_ne HX.out HY.out hxy)
          clear hx hy hb1 hb2 hxy
          go_wp2_with fail
          go_quiet (fail)
          go_wp2_with fail
          go_ret
          exact ⟨by rw [HV.out, decide_eq_false HNE.out]; rfl, F.out.drewN _⟩
      · obtain rfl : n1 = k := by omega
        have HE := Lib.hid (show a = b by
          have h := HT.out
          rw [List.take_of_length_le (by rw [H1.out]; exact Nat.le_refl _), List.take_of_length_le (by rw [H2.out]; exact Nat.le_refl _)] at h
          exact h)
        go_wp2_with fail
        go_ret
        exact ⟨by rw [HV.out, decide_eq_true HE.out]; rfl, F.out⟩
  · have hne : ((n1 : Int) != (n2 : Int)) = true := by simpa using fun e : (n1 : Int) = n2 => hn (by omega)
    have hni : ¬ (n1 : Int) = (n2 : Int) := by omega
    have HNE := Lib.hid (show a ≠ b from fun e => hn (by rw [H1.out, H2.out, e]))
    go_enter Tryz.func20, Tryz.ntmps20
    go_wp2_with fail
    go_ret
    exact ⟨by rw [HV.out, decide_eq_false HNE.out]; rfl, Fr.refl _ _ _⟩
set_option maxRecDepth 100000 in
set_option maxHeartbeats 4000000 in
theorem veq_any (A1 A2 : Option Addr) (n1 n2 c1 c2 B : Nat) (a b : List (Int × Int)) (w : World) (h1 : n1 = a.length) (h2 : n2 = b.length) (hm : n1 ≤ 1000000 ∧ n2 ≤ 1000000) (r1 : Reads w B 2 A1 n1 (cellsV a)) (r2 : Reads w B 2 A2 n2 (cellsV b)) (hB : B ≤ w.heap.size) :
    Calls Tryz.prog 50 #[.slice A1 n1 c1, .slice A2 n2 c2] w fun e w' => e = .returned (.bool (decide (a = b))) ∧ Fr w.heap.size [] w w' := by
  have R1 := Lib.hid r1
  have R2 := Lib.hid r2
  have H1 := Lib.hid h1
  have H2 := Lib.hid h2
  obtain ⟨v, hv⟩ : ∃ v, v = decide (a = b) := ⟨_, rfl⟩
  have HV := Lib.hid hv
  rw [← hv]
  obtain ⟨hm1, hm2⟩ := hm
  clear r1 r2 h1 h2 hv
  by_cases hn : n1 = n2
  · subst hn
    go_enter Tryz.func50, Tryz.ntmps50
    go_wp2_with fail
    go_loopg [5, 13] n1 (fun g s5 s13 wr => ∃ k : Nat, k ≤ n1 ∧ g = n1 - k ∧ s13 = .int .i64 k ∧ (s5 = undef ∨ ∃ a : Int, s5 = .int .i64 a) ∧ RowKit.Hid (a.take k = b.take k) ∧ RowKit.Hid (Fr w.heap.size [] w wr))
    case atStart => exact ⟨0, Nat.zero_le _, rfl, rfl, .inl rfl, Lib.hid rfl, Lib.hid (Fr.refl _ _ _)⟩
    case round =>
      obtain ⟨k, hk, rfl, rfl, h5, HT, F⟩ := hrel
      by_cases hkn : k < n1
      · have hki : (k : Int) < (n1 : Int) := by omega
        have hk0 : (0 : Int) ≤ (k : Int) := by omega
        obtain ⟨x, hx⟩ : ∃ x, a[k]? = some x := ⟨_, List.getElem?_eq_getElem (by rw [← H1.out]; exact hkn)⟩
        obtain ⟨y, hy⟩ : ∃ y, b[k]? = some y := ⟨_, List.getElem?_eq_getElem (by rw [← H2.out]; exact hkn)⟩
        obtain ⟨b1, o1, rfl, hb1, p0, p1⟩ := reads_val (by have := R1.out.fr F.out hB (by simp); rw [H1.out] at this; exact this) hx
        obtain ⟨b2, o2, rfl, hb2, q0, q1⟩ := reads_val (by have := R2.out.fr F.out hB (by simp); rw [H2.out] at this; exact this) hy
        have hnq := fun w => val_neq_any x y w
        have HX := Lib.hid hx
        have HY := Lib.hid hy
        by_cases hxy : x = y
        · rw [decide_eq_true hxy] at hnq
          simp only [Bool.not_true] at hnq
          have HT2 := Lib.hid (take_eq_succ HT.out HX.out (by rw [HY.out, hxy]))
          clear hx hy hb1 hb2 hxy
          go_wp2_with fail
          go_quiet (fail)
          go_wp2_with fail
          go_roundg (n1 - (k + 1))
          case measure => omega
          case rel => exact ⟨k + 1, by omega, rfl, by go_num, .inr ⟨_, rfl⟩, HT2, Lib.hid (F.out.drewN _)⟩
        · rw [decide_eq_false hxy] at hnq
          simp only [Bool.not_false] at hnq
          have HNE := Lib.hid (take_ne HX.out HY.out hxy)
          clear hx hy hb1 hb2 hxy
          go_wp2_with fail
          go_quiet (fail)
          go_wp2_with fail
          go_ret
          exact ⟨by rw [HV.out, decide_eq_false HNE.out]; rfl, F.out.drewN _⟩
      · obtain rfl : n1 = k := by omega
        have HE := Lib.hid (show a = b by
          have h := HT.out
          rw [List.take_of_length_le (by rw [H1.out]; exact Nat.le_refl _), List.take_of_length_le (by rw [H2.out]; exact Nat.le_refl _)] at h
          exact h)
        go_wp2_with fail
        go_ret
        exact ⟨by rw [HV.out, decide_eq_true HE.out]; rfl, F.out⟩
  · have hne : ((n1 : Int) != (n2 : Int)) = true := by simpa using fun e : (n1 : Int) = n2 => hn (by omega)
    have hni : ¬ (n1 : Int) = (n2 : Int) := by omega
    have HNE := Lib.hid (show a ≠ b from fun e => hn (by rw [H1.out, H2.out, e]))
    go_enter Tryz.func50, Tryz.ntmps50
    go_wp2_with fail
    go_ret
    exact ⟨by rw [HV.out, decide_eq_false HNE.out]; rfl, Fr.refl _ _ _⟩
end Go.Proofs.YtfakgidimekikaaGreat
namespace Go.Proofs.YtfakgidimekikaaGreat
open Go.RowKit Go.Fb
set_option linter.unusedVariables false
/-- Is a list of values another's beginning? -/
def preB (v u : List (Int × Int)) : Bool := decide (v.length ≤ u.length) && decide (v = u.take v.length)
def prefB (a b : List (Nat → Int)) : Bool := a.all fun x => preB (onlyV a (keyL x)) (onlyV b (keyL x))
theorem vreads_pre {w : World} {B m : Nat} {A : Option Addr} {l : List (Int × Int)} (h : Reads w B 2 A l.length (cellsV l)) (hm : m ≤ l.length) : Reads w B 2 A m (cellsV (l.take m)) := by
  refine ⟨by rw [cellsV_length, List.length_take, Nat.min_eq_left hm], fun hn => ?_⟩
  obtain ⟨b, off, e, hb, hc⟩ := h.2 (by omega)
  refine ⟨b, off, e, hb, fun j u hu => hc j u ?_⟩
  have hl : cellsV l = cellsV (l.take m) ++ cellsV (l.drop m) := by rw [← cellsV_app, List.take_append_drop]
  rw [hl, List.getElem?_append_left]
  · exact hu
  · rcases Nat.lt_or_ge j (cellsV (l.take m)).length with h | h
    · exact h
    · rw [List.getElem?_eq_none h] at hu; cases hu
set_option maxRecDepth 100000 in
set_option maxHeartbeats 8000000 in
theorem rprefix_any (A1 A2 : Option Addr) (n1 n2 c1 c2 B : Nat) (a b : List (Nat → Int)) (w : World) (h1 : n1 = a.length) (h2 : n2 = b.length) (hm1 : n1 ≤ 1000) (hm2 : n2 ≤ 1000) (r1 : Reads w B 5 A1 n1 (cellsLn a)) (r2 : Reads w B 5 A2 n2 (cellsLn b)) (hB : B ≤ w.heap.size) :
    Calls Tryz.prog 19 #[.slice A1 n1 c1, .slice A2 n2 c2] w fun e w' => e = .returned (.bool (prefB a b)) ∧ Fr w.heap.size [] w w' := by
  have HOA := Lib.hid (fun (f k s : Int) (wx : World) (hx : Fr w.heap.size [] w wx) => (by rw [h1]; exact ronly_any A1 c1 B a s f k wx (by rw [← h1]; exact r1.fr hx hB (by simp)) (Nat.le_trans hB hx.size) (by omega) : Calls Tryz.prog 22 #[.slice A1 n1 c1, .int .i64 s, .int .i64 f, .int .i64 k] wx (OnlyOut a (s, f, k) wx)))
  have HOB := Lib.hid (fun (f k s : Int) (wx : World) (hx : Fr w.heap.size [] w wx) => (by rw [h2]; exact ronly_any A2 c2 B b s f k wx (by rw [← h2]; exact r2.fr hx hB (by simp)) (Nat.le_trans hB hx.size) (by omega) : Calls Tryz.prog 22 #[.slice A2 n2 c2, .int .i64 s, .int .i64 f, .int .i64 k] wx (OnlyOut b (s, f, k) wx)))
  have R1 := Lib.hid r1
  have H1 := Lib.hid h1
  have H2 := Lib.hid h2
  obtain ⟨v, hv⟩ : ∃ v, v = prefB a b := ⟨_, rfl⟩
  have HV := Lib.hid hv
  rw [← hv]
  clear r1 r2 h1 h2 hv
  go_enter Tryz.func19, Tryz.ntmps19
  go_wp2_with fail
  go_loopg [5, 6, 7] n1 (fun g s5 s6 s7 wr => ∃ k : Nat, k ≤ n1 ∧ g = n1 - k ∧ s5 = .int .i64 k ∧ (s6 = undef ∨ ∃ A n c, s6 = .slice A n c) ∧ (s7 = undef ∨ ∃ A n c, s7 = .slice A n c) ∧ RowKit.Hid (∀ j x, j < k → a[j]? = some x → preB (onlyV a (keyL x)) (onlyV b (keyL x)) = true) ∧ RowKit.Hid (Fr w.heap.size [] w wr))
  case atStart => exact ⟨0, Nat.zero_le _, rfl, rfl, .inl rfl, .inl rfl, Lib.hid (fun j x h => absurd h (by omega)), Lib.hid (Fr.refl _ _ _)⟩
  case round =>
    obtain ⟨k, hk, rfl, rfl, h6, h7, HP, F⟩ := hrel
    by_cases hkn : k < n1
    · have hki : (k : Int) < (n1 : Int) := by omega
      have hk0 : (0 : Int) ≤ (k : Int) := by omega
      obtain ⟨x, hx⟩ : ∃ x, a[k]? = some x := ⟨_, List.getElem?_eq_getElem (by rw [← H1.out]; exact hkn)⟩
      obtain ⟨b1, o1, rfl, hb1, hc⟩ := reads_ln (by have := R1.out.fr F.out hB (by simp); rw [H1.out] at this; exact this) hx
      have p0 := hc 0 (by omega)
      have p1 := hc 1 (by omega)
      have p2 := hc 2 (by omega)
      simp only [Nat.add_zero, ← Nat.add_assoc] at p0 p1 p2
      have HX := Lib.hid hx
      have hbw : b1 < wr.heap.size := Nat.lt_of_lt_of_le hb1 (Nat.le_trans hB F.out.size)
      have SF := Lib.hid (fun (W : World) (hf : Fr wr.heap.size [] wr W) => (⟨(hf.cell (p := ⟨b1, o1 + k * 5, none⟩) hbw (by simp)).trans p0, (hf.cell (p := ⟨b1, o1 + k * 5 + 1, none⟩) hbw (by simp)).trans p1, (hf.cell (p := ⟨b1, o1 + k * 5 + 2, none⟩) hbw (by simp)).trans p2⟩ : W.cell? ⟨b1, o1 + k * 5, none⟩ = some (.int .i64 (x 0)) ∧ W.cell? ⟨b1, o1 + k * 5 + 1, none⟩ = some (.int .i64 (x 1)) ∧ W.cell? ⟨b1, o1 + k * 5 + 2, none⟩ = some (.int .i64 (x 2))))
      obtain ⟨xa, hxa⟩ : ∃ z, z = onlyV a (keyL x) := ⟨_, rfl⟩
      obtain ⟨xb, hxb⟩ : ∃ z, z = onlyV b (keyL x) := ⟨_, rfl⟩
      have HXA := Lib.hid hxa
      have HXB := Lib.hid hxb
      have hla : xa.length ≤ 1000 := by rw [hxa]; exact Nat.le_trans (onlyV_le _ _) (by rw [← H1.out]; exact hm1)
      have hlb : xb.length ≤ 1000 := by rw [hxb]; exact Nat.le_trans (onlyV_le _ _) (by rw [← H2.out]; exact hm2)
      have HOA2 := Lib.hid (fun (wx : World) (hf : Fr wr.heap.size [] wr wx) => HOA.out (x 1) (x 2) (x 0) wx (F.out.trans (hf.mono (B' := w.heap.size) (L' := []) F.out.size (by simp))))
      have HOB2 := Lib.hid (fun (wx : World) (hf : Fr wr.heap.size [] wr wx) => HOB.out (x 1) (x 2) (x 0) wx (F.out.trans (hf.mono (B' := w.heap.size) (L' := []) F.out.size (by simp))))
      unfold OnlyOut at HOA2 HOB2
      rw [show ((x 0, x 1, x 2) : Pl) = keyL x from rfl, ← hxa] at HOA2
      rw [show ((x 0, x 1, x 2) : Pl) = keyL x from rfl, ← hxb] at HOB2
      obtain ⟨na, hna⟩ : ∃ z, z = xa.length := ⟨_, rfl⟩
      obtain ⟨nb, hnb⟩ : ∃ z, z = xb.length := ⟨_, rfl⟩
      rw [← hna] at HOA2 hla
      rw [← hnb] at HOB2 hlb
      have HNA := Lib.hid hna
      have HNB := Lib.hid hnb
      clear hc hx hb1 hxa hxb hna hnb p0 p1 p2
      go_upto_region 4 with fail
      go_cut [6] (fun s6 wx => ∃ A c, s6 = .slice A na c ∧ RowKit.Hid (Reads wx wx.heap.size 2 A na (cellsV xa)) ∧ RowKit.Hid (Fr wr.heap.size [] wr wx))
      case first =>
        have INV := Lib.hid ((Fr.refl wr.heap.size [] wr).drew)
        go_region_held3 (fun W => W.cell? ⟨b1, o1 + k * 5, none⟩ = some (.int .i64 (x 0)) ∧ W.cell? ⟨b1, o1 + k * 5 + 1, none⟩ = some (.int .i64 (x 1)) ∧ W.cell? ⟨b1, o1 + k * 5 + 2, none⟩ = some (.int .i64 (x 2))) (exact SF.out _ INV.out)
          ((first | (go_at_call 22; refine (HOA2.out _ INV.out).mono ?_; rintro e wv ⟨Av, cv, rfl, hov, fv⟩; have INV := Lib.hid (INV.out.trans (fv.mono (B' := _) (L' := []) INV.out.size (by simp))); have HOV := Lib.hid (Reads.of_own hov); clear fv hov)))
        all_goals
          go_wp2_with fail
          go_meet
          exact ⟨_, _, rfl, HOV, INV⟩
      case rest =>
        obtain ⟨Aa, ca, rfl, RA, FA⟩ := hcut
        go_upto_region 5 with fail
        obtain ⟨wm, hwm⟩ : ∃ x, x = wc := ⟨_, rfl⟩
        subst hwm
        go_cut [7] (fun s7 wx => ∃ A c, s7 = .slice A nb c ∧ nb ≤ c ∧ RowKit.Hid (Reads wx wx.heap.size 2 A nb (cellsV xb)) ∧ RowKit.Hid (Fr wm.heap.size [] wm wx))
        case first =>
          have INV := Lib.hid ((Fr.refl wm.heap.size [] wm).drew)
          have SF2 := Lib.hid (fun (W : World) (hf : Fr wm.heap.size [] wm W) => SF.out W (FA.out.trans (hf.mono (B' := wr.heap.size) (L' := []) FA.out.size (by simp))))
          go_region_held3 (fun W => W.cell? ⟨b1, o1 + k * 5, none⟩ = some (.int .i64 (x 0)) ∧ W.cell? ⟨b1, o1 + k * 5 + 1, none⟩ = some (.int .i64 (x 1)) ∧ W.cell? ⟨b1, o1 + k * 5 + 2, none⟩ = some (.int .i64 (x 2))) (exact SF2.out _ INV.out)
            ((first | (go_at_call 22; refine (HOB2.out _ (FA.out.trans (INV.out.mono (B' := wr.heap.size) (L' := []) FA.out.size (by simp)))).mono ?_; rintro e wv ⟨Av, cv, rfl, hov, fv⟩; have INV := Lib.hid (INV.out.trans (fv.mono (B' := _) (L' := []) INV.out.size (by simp))); have HOV := Lib.hid (Reads.of_own hov); have hcv : nb ≤ cv := (by obtain ⟨_, _, hx, _, hy, _⟩ := ownsRow_shape hov; injection hx with _ _ hx; omega); clear fv hov)))
          all_goals
            go_wp2_with fail
            go_meet
            exact ⟨_, _, rfl, hcv, HOV, INV⟩
        case rest =>
          obtain ⟨Ab, cb, rfl, hcb, RB, FB⟩ := hcut
          have FX := Lib.hid (F.out.trans ((FA.out.trans (FB.out.mono (B' := wr.heap.size) (L' := []) FA.out.size (by simp))).mono (B' := w.heap.size) (L' := []) F.out.size (by simp)))
          have RA2 := Lib.hid ((RA.out.fr FB.out (Nat.le_refl _) (by simp)).more FB.out.size)
          by_cases hab : na ≤ nb
          · have hgt : ¬ (nb : Int) < (na : Int) := by omega
            have hca : (na : Int) ≤ (cb : Int) := by omega
            have hn0 : (0 : Int) ≤ (na : Int) := by omega
            have HSM := Lib.hid (vsm_any Aa Ab na na ca cb wc.heap.size xa (xb.take na) wc HNA.out (by rw [List.length_take, ← HNB.out, Nat.min_eq_left hab]) ⟨by omega, by omega⟩ RA2.out (vreads_pre (by rw [← HNB.out]; exact RB.out) (by rw [← HNB.out]; exact hab)) (Nat.le_refl _))
            obtain ⟨q, hq⟩ : ∃ q, q = decide (xa = xb.take na) := ⟨_, rfl⟩
            rw [← hq] at HSM
            have HQ := Lib.hid (show preB xa xb = q by
              unfold preB
              rw [← HNA.out, ← HNB.out, decide_eq_true hab, Bool.true_and, hq])
            clear hq
            go_wp2_with fail
            refine HSM.out.mono ?_
            rintro e w9 ⟨rfl, f9⟩
            have F9 := Lib.hid (FX.out.trans (f9.mono (B' := w.heap.size) (L' := []) FX.out.size (by simp)))
            clear f9 HSM
            cases q with
            | true =>
              have HP2 := Lib.hid (show ∀ j x, j < k + 1 → a[j]? = some x → preB (onlyV a (keyL x)) (onlyV b (keyL x)) = true from fun j y hj hy => by
                rcases Nat.lt_or_ge j k with h | h
                · exact HP.out j y h hy
                · obtain rfl : j = k := by omega
                  rw [HX.out] at hy
                  injection hy with hy
                  subst hy
                  rw [← HXA.out, ← HXB.out]
                  exact HQ.out)
              go_wp2_with fail
              go_roundg (n1 - (k + 1))
              case measure => omega
              case rel => exact ⟨k + 1, by omega, rfl, by go_num, .inr ⟨_, _, _, rfl⟩, .inr ⟨_, _, _, rfl⟩, HP2, F9⟩
            | false =>
              have HF := Lib.hid (show prefB a b = false by
                unfold prefB
                rw [Bool.eq_false_iff]
                intro h
                have := List.all_eq_true.1 h x (List.mem_of_getElem? HX.out)
                rw [← HXA.out, ← HXB.out, HQ.out] at this
                cases this)
              go_wp2_with fail
              go_ret
              exact ⟨by rw [HV.out, HF.out]; rfl, F9.out⟩
          · have hgt : (nb : Int) < (na : Int) := by omega
            have HF := Lib.hid (show prefB a b = false by
              unfold prefB
              rw [Bool.eq_false_iff]
              intro h
              have := List.all_eq_true.1 h x (List.mem_of_getElem? HX.out)
              rw [← HXA.out, ← HXB.out] at this
              unfold preB at this
              rw [← HNA.out, ← HNB.out, decide_eq_false hab] at this
              cases this)
            go_wp2_with fail
            go_ret
            exact ⟨by rw [HV.out, HF.out]; rfl, FX.out⟩
    · obtain rfl : n1 = k := by omega
      have HT := Lib.hid (show prefB a b = true by
        unfold prefB
        rw [List.all_eq_true]
        intro x hx
        obtain ⟨j, hj⟩ := List.getElem?_of_mem hx
        exact HP.out j x (by rw [H1.out]; exact (List.getElem?_eq_some_iff.1 hj).1) hj)
      go_wp2_with fail
      go_ret
      exact ⟨by rw [HV.out, HT.out]; rfl, F.out⟩
end Go.Proofs.YtfakgidimekikaaGreat
