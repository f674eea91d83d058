/- The contracts of code.Right and code.Fits. -/
import Derived.Test.YtddngibfhklnfaaChk
import Derived.Test.YtddngibfhklnfaaW
namespace Go.Proofs.Ytddngibfhklnfaa
open Go.RowKit Go.Fb
/-- The bounds of an operation's number. -/
def boF (o : Int) : Int := if o = 1 ∨ o = 2 then -524288 else if o = 4 ∨ o = 5 then 0 else if o = 15 ∨ o = 16 then 1 else 0
def boT (o : Int) : Int := if o = 1 ∨ o = 2 then 524287 else if o = 4 ∨ o = 5 then 1 else if o = 15 ∨ o = 16 then 24 else 0
def boB (o : Int) : Bool := decide (o = 1 ∨ o = 2 ∨ o = 4 ∨ o = 5 ∨ o = 15 ∨ o = 16)
theorem bo_other {o : Int} (h : ¬ (o = 1 ∨ o = 2 ∨ o = 4 ∨ o = 5 ∨ o = 15 ∨ o = 16)) : boF o = 0 ∧ boT o = 0 ∧ boB o = false := by
  refine ⟨?_, ?_, ?_⟩
  · unfold boF; rw [if_neg (by omega), if_neg (by omega), if_neg (by omega)]
  · unfold boT; rw [if_neg (by omega), if_neg (by omega), if_neg (by omega)]
  · unfold boB; exact decide_eq_false h
theorem bounds_any (o : Int) (w : World) : Calls Try.prog 130 #[.int .i64 o] w fun e w' => e = .returned (.tuple #[.int .i64 (boF o), .int .i64 (boT o), .bool (boB o)]) ∧ w = w' := by
  by_cases h : o = 1 ∨ o = 2 ∨ o = 4 ∨ o = 5 ∨ o = 15 ∨ o = 16
  · rcases h with rfl | rfl | rfl | rfl | rfl | rfl
    · show Calls _ _ _ _ fun e w' => e = .returned (.tuple #[.int .i64 (-524288), .int .i64 524287, .bool true]) ∧ w = w'
      go_enter Try.func130, Try.ntmps130
      go_wp2_with fail
      go_ret3
      exact ⟨rfl, rfl⟩
    · show Calls _ _ _ _ fun e w' => e = .returned (.tuple #[.int .i64 (-524288), .int .i64 524287, .bool true]) ∧ w = w'
      go_enter Try.func130, Try.ntmps130
      go_wp2_with fail
      go_ret3
      exact ⟨rfl, rfl⟩
    · show Calls _ _ _ _ fun e w' => e = .returned (.tuple #[.int .i64 0, .int .i64 1, .bool true]) ∧ w = w'
      go_enter Try.func130, Try.ntmps130
      go_wp2_with fail
      go_ret3
      exact ⟨rfl, rfl⟩
    · show Calls _ _ _ _ fun e w' => e = .returned (.tuple #[.int .i64 0, .int .i64 1, .bool true]) ∧ w = w'
      go_enter Try.func130, Try.ntmps130
      go_wp2_with fail
      go_ret3
      exact ⟨rfl, rfl⟩
    · show Calls _ _ _ _ fun e w' => e = .returned (.tuple #[.int .i64 1, .int .i64 24, .bool true]) ∧ w = w'
      go_enter Try.func130, Try.ntmps130
      go_wp2_with fail
      go_ret3
      exact ⟨rfl, rfl⟩
    · show Calls _ _ _ _ fun e w' => e = .returned (.tuple #[.int .i64 1, .int .i64 24, .bool true]) ∧ w = w'
      go_enter Try.func130, Try.ntmps130
      go_wp2_with fail
      go_ret3
      exact ⟨rfl, rfl⟩
  · obtain ⟨e1, e2, e3⟩ := bo_other h
    rw [e1, e2, e3]
    clear e1 e2 e3
    have h1 : (o == 1) = false := by simp; omega
    have h2 : (o == 2) = false := by simp; omega
    have h4 : (o == 4) = false := by simp; omega
    have h5 : (o == 5) = false := by simp; omega
    have h15 : (o == 15) = false := by simp; omega
    have h16 : (o == 16) = false := by simp; omega
    clear h
    go_enter Try.func130, Try.ntmps130
    go_wp2_with fail
    go_ret3
    exact ⟨rfl, rfl⟩
/-- May an instruction be? -/
def rightB (i : Int × Int) : Bool := decide (0 ≤ i.1 ∧ i.1 < 18 ∧ boF i.1 ≤ i.2 ∧ i.2 ≤ boT i.1)
set_option maxRecDepth 100000 in
set_option maxHeartbeats 1000000 in
theorem cright_any (i : Int × Int) (w : World) : Calls Try.prog 126 #[.agg #[.int .i64 i.1, .int .i64 i.2]] w fun e w' => e = .returned (.bool (rightB i)) ∧ Fr w.heap.size [] w w' := by
  obtain ⟨o, a⟩ := i
  obtain ⟨v, hv⟩ : ∃ v, v = rightB (o, a) := ⟨_, rfl⟩
  rw [← hv]
  unfold rightB at hv
  have HB := Lib.hid (bounds_any o)
  simp only at hv ⊢
  generalize boF o = f at *
  generalize boT o = t at *
  generalize boB o = b at *
  by_cases c1 : o < 0
  · obtain rfl : v = false := by rw [hv]; exact decide_eq_false (by omega)
    clear hv
    go_enter Try.func126, Try.ntmps126
    go_wp2_with fail
    refine (HB.out _).mono ?_
    rintro e w' ⟨rfl, rfl⟩
    go_wp2_with fail
    go_ret
    exact ⟨rfl, (Fr.refl _ _ _).alloc (Nat.le_refl _) _⟩
  by_cases c2 : o < 18
  case neg =>
    obtain rfl : v = false := by rw [hv]; exact decide_eq_false (by omega)
    clear hv
    go_enter Try.func126, Try.ntmps126
    go_wp2_with fail
    refine (HB.out _).mono ?_
    rintro e w' ⟨rfl, rfl⟩
    go_wp2_with fail
    go_ret
    exact ⟨rfl, (Fr.refl _ _ _).alloc (Nat.le_refl _) _⟩
  by_cases c3 : a < f
  · obtain rfl : v = false := by rw [hv]; exact decide_eq_false (by omega)
    clear hv
    go_enter Try.func126, Try.ntmps126
    go_wp2_with fail
    refine (HB.out _).mono ?_
    rintro e w' ⟨rfl, rfl⟩
    go_wp2_with fail
    go_ret
    exact ⟨rfl, (Fr.refl _ _ _).alloc (Nat.le_refl _) _⟩
  by_cases c4 : t < a
  · obtain rfl : v = false := by rw [hv]; exact decide_eq_false (by omega)
    clear hv
    have hd : decide (a ≤ t) = false := decide_eq_false (by omega)
    go_enter Try.func126, Try.ntmps126
    go_wp2_with fail
    refine (HB.out _).mono ?_
    rintro e w' ⟨rfl, rfl⟩
    go_wp2_with fail
    go_ret
    exact ⟨rfl, (Fr.refl _ _ _).alloc (Nat.le_refl _) _⟩
  · obtain rfl : v = true := by rw [hv]; exact decide_eq_true (by omega)
    clear hv
    go_enter Try.func126, Try.ntmps126
    go_wp2_with fail
    refine (HB.out _).mono ?_
    rintro e w' ⟨rfl, rfl⟩
    go_wp2_with fail
    go_ret
    exact ⟨rfl, (Fr.refl _ _ _).alloc (Nat.le_refl _) _⟩
/-- The cells of a program. -/
def insC (x : Int × Int) : List Value := [.int .i64 x.1, .int .i64 x.2]
def cellsI (l : List (Int × Int)) : List Value := l.flatMap insC
theorem cellsI_length (l : List (Int × Int)) : (cellsI l).length = l.length * 2 := by
  unfold cellsI
  induction l with
  | nil => rfl
  | cons x l ih => rw [List.flatMap_cons, List.length_append, ih]; simp [insC]; omega
theorem cellsI_get : ∀ {l : List (Int × Int)} {k : Nat} {x : Int × Int}, l[k]? = some x → (cellsI l)[k * 2]? = some (.int .i64 x.1) ∧ (cellsI l)[k * 2 + 1]? = some (.int .i64 x.2)
  | [], k, x, h => by simp at h
  | y :: l, 0, x, h => by
    simp at h
    subst h
    exact ⟨rfl, rfl⟩
  | y :: l, k + 1, x, h => by
    have ih := cellsI_get (l := l) (k := k) (x := x) (by simpa using h)
    have e : cellsI (y :: l) = .int .i64 y.1 :: .int .i64 y.2 :: cellsI l := rfl
    rw [e, show (k + 1) * 2 = k * 2 + 1 + 1 by omega]
    exact ih
theorem reads_ins {w : World} {B : Nat} {A : Option Addr} {l : List (Int × Int)} (h : Reads w B 2 A l.length (cellsI l)) {k : Nat} {x : Int × Int} (hx : l[k]? = some x) :
    ∃ b off, A = some ⟨b, off, none⟩ ∧ b < B ∧ w.cell? ⟨b, off + k * 2, none⟩ = some (.int .i64 x.1) ∧ w.cell? ⟨b, off + k * 2 + 1, none⟩ = some (.int .i64 x.2) := by
  have hk : k < l.length := by
    rcases Nat.lt_or_ge k l.length with h' | h'
    · exact h'
    · rw [List.getElem?_eq_none h'] at hx; cases hx
  obtain ⟨b, off, e, hb, hc⟩ := h.2 (by omega)
  obtain ⟨h1, h2⟩ := cellsI_get hx
  exact ⟨b, off, e, hb, hc _ _ h1, by rw [Nat.add_assoc]; exact hc _ _ h2⟩
/-- May a program's instructions be? -/
def fitsB (l : List (Int × Int)) : Bool := decide (l.length ≤ 24) && l.all rightB
theorem wrong_any (i : Int × Int) (w : World) : Calls Try.prog 125 #[.agg #[.int .i64 i.1, .int .i64 i.2]] w fun e w' => e = .returned (.bool (!rightB i)) ∧ Fr w.heap.size [] w w' := by
  have H := Lib.hid (cright_any i)
  generalize rightB i = v at *
  go_enter Try.func125, Try.ntmps125
  go_wp2_with fail
  refine (H.out _).mono ?_
  rintro e w1 ⟨rfl, f1⟩
  have F1 := Lib.hid (((Fr.refl _ _ _).alloc (Nat.le_refl _) _).trans (f1.mono (by simp) (by simp)) : Fr w.heap.size [] w w1)
  clear f1
  go_wp2_with fail
  go_ret
  exact ⟨rfl, F1.out⟩
def SomeIdx (b : Bool) (w : World) (e : Ending) (w' : World) : Prop := ∃ i : Int, e = .returned (.int .i64 i) ∧ (decide (0 ≤ i) = b) ∧ Fr w.heap.size [] w w'
theorem all_take_succ {f : Int × Int → Bool} {l : List (Int × Int)} {k : Nat} {x : Int × Int} (h : l[k]? = some x) : (l.take (k + 1)).all f = ((l.take k).all f && f x) := by
  rw [List.take_add_one, h, List.all_append]
  simp
theorem all_bad {f : Int × Int → Bool} {l : List (Int × Int)} {k : Nat} {x : Int × Int} (h : l[k]? = some x) (hf : f x = false) : l.all f = false := by
  rw [List.all_eq_false]
  exact ⟨x, List.mem_of_getElem? h, by simp [hf]⟩
set_option maxRecDepth 100000 in
theorem iindex_any (A : Option Addr) (c B : Nat) (l : List (Int × Int)) (w : World) (hr : Reads w B 2 A l.length (cellsI l)) (hB : B ≤ w.heap.size) (hn : l.length ≤ maxLen) :
    Calls Try.prog 131 #[.slice A l.length c, .func (.func 125) #[] #[]] w (SomeIdx (!l.all rightB) w) := by
  unfold maxLen at hn
  have HR := Lib.hid hr
  obtain ⟨n, hnl⟩ : ∃ n, n = l.length := ⟨_, rfl⟩
  rw [← hnl] at hn ⊢
  have HN := Lib.hid hnl
  clear hr hnl
  go_enter Try.func131, Try.ntmps131
  go_wp2_with fail
  go_loopw [8] (fun i wr => ∃ k : Nat, k ≤ n ∧ i = .int .i64 k ∧ RowKit.Hid ((l.take k).all rightB = true) ∧ RowKit.Hid (Fr w.heap.size [] w wr)) (fun i _ => n - (intOf i).toNat)
  case atStart => exact ⟨0, Nat.zero_le _, rfl, rfl, Fr.refl _ _ _⟩
  case round =>
    obtain ⟨k, hk, rfl, HA, HF⟩ := hrel
    by_cases hlt : k < n
    · obtain ⟨x, hx⟩ : ∃ x, l[k]? = some x := ⟨_, List.getElem?_eq_getElem (by rw [← HN.out]; exact hlt)⟩
      obtain ⟨b, off, rfl, hb, c1, c2⟩ := reads_ins (HR.out.fr HF.out hB (by simp)) hx
      have hki : (k : Int) < (n : Int) := by omega
      have HX := Lib.hid hx
      clear hx
      go_wp2_with fail
      refine (wrong_any x _).mono ?_
      rintro e w1 ⟨rfl, f1⟩
      have F1 := Lib.hid (HF.out.trans (f1.mono (B' := w.heap.size) (L' := []) HF.out.size (by simp)))
      clear f1
      cases hrx : rightB x
      case false =>
        have HV := Lib.hid (all_bad HX.out hrx)
        clear hrx
        go_wp2_with fail
        go_ret
        exact ⟨k, rfl, by rw [HV.out]; simp, F1.out⟩
      case true =>
        have HV := Lib.hid hrx
        clear hrx
        go_wp2_with fail
        go_roundw
        case rel => exact ⟨k + 1, by omega, by go_num, (by show _ = _; rw [all_take_succ HX.out, HA.out, HV.out]; rfl), F1.out⟩
        case measure => simp [intOf]; omega
    · obtain rfl : n = k := by omega
      go_wp2_with fail
      go_ret
      refine ⟨-1, rfl, ?_, HF.out⟩
      have h := HA.out
      rw [List.take_of_length_le (by rw [HN.out]; exact Nat.le_refl _)] at h
      rw [h]; rfl
theorem icontains_any (A : Option Addr) (c B : Nat) (l : List (Int × Int)) (w : World) (hr : Reads w B 2 A l.length (cellsI l)) (hB : B ≤ w.heap.size) (hn : l.length ≤ maxLen) :
    Calls Try.prog 127 #[.slice A l.length c, .func (.func 125) #[] #[]] w fun e w' => e = .returned (.bool (!l.all rightB)) ∧ Fr w.heap.size [] w w' := by
  have H := Lib.hid (iindex_any A c B l w hr hB hn)
  clear hr hn hB
  go_enter Try.func127, Try.ntmps127
  go_wp2_with fail
  refine H.out.mono ?_
  rintro e w' ⟨i, rfl, hi, hf⟩
  have HI := Lib.hid hi
  have HF := Lib.hid hf
  clear hi hf
  go_wp2_with fail
  go_ret
  exact ⟨by rw [← HI.out]; rfl, HF.out⟩
theorem fits_any (A : Option Addr) (c B : Nat) (l : List (Int × Int)) (w : World) (hr : Reads w B 2 A l.length (cellsI l)) (hB : B ≤ w.heap.size) (hn : l.length ≤ maxLen) :
    Calls Try.prog 118 #[.slice A l.length c] w fun e w' => e = .returned (.bool (fitsB l)) ∧ Fr w.heap.size [] w w' := by
  have H := Lib.hid (icontains_any A c B l w hr hB hn)
  unfold maxLen at hn
  clear hr
  obtain ⟨v, hv⟩ : ∃ v, v = fitsB l := ⟨_, rfl⟩
  rw [← hv]
  unfold fitsB at hv
  obtain ⟨n, hnl⟩ : ∃ n, n = l.length := ⟨_, rfl⟩
  rw [← hnl] at hn hv H ⊢
  clear hnl
  by_cases h24 : n ≤ 24
  · rw [decide_eq_true h24, Bool.true_and] at hv
    rw [← hv] at H
    have HV := Lib.hid hv
    clear hv
    go_enter Try.func118, Try.ntmps118
    go_wp2_with fail
    refine H.out.mono ?_
    rintro e w' ⟨rfl, hf⟩
    have HF := Lib.hid hf
    clear hf
    go_wp2_with fail
    go_ret
    exact ⟨by simp, HF.out⟩
  · rw [decide_eq_false h24, Bool.false_and] at hv
    subst hv
    go_enter Try.func118, Try.ntmps118
    go_wp2_with fail
    go_ret
    exact ⟨rfl, Fr.refl _ _ _⟩
end Go.Proofs.Ytddngibfhklnfaa
