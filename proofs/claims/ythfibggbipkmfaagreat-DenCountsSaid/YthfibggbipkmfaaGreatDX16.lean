/- Texts merged into one, for the number of files a claim may have: SrcA, VmQ, RcI, VmR. -/
import Derived.Test.YthfibggbipkmfaaGreatDX6
import Derived.Test.YthfibggbipkmfaaGreatDX8
import Derived.Test.YthfibggbipkmfaaGreatDX15
import Derived.Deep.AppendLies
import Derived.Deep.DeepCutAuto
import Derived.Deep.RegionLaw
import Derived.Laws.MakeOwn
namespace Go.Proofs.YthfibggbipkmfaaGreat
open Go.RowKit Go.Fb
/-- The cells of a record. -/
def recC (x : Nat → Int) : List Value := [.int .i64 (x 0), .int .i64 (x 1), .int .i64 (x 2)]
def cellsR (l : List (Nat → Int)) : List Value := l.flatMap recC
theorem cellsR_length (l : List (Nat → Int)) : (cellsR l).length = l.length * 3 := by
  unfold cellsR
  induction l with
  | nil => rfl
  | cons x l ih => rw [List.flatMap_cons, List.length_append, ih]; simp [recC]; omega
theorem recC_get (x : Nat → Int) : ∀ j, j < 3 → (recC x)[j]? = some (.int .i64 (x j))
  | 0, _ => rfl
  | 1, _ => rfl
  | 2, _ => rfl
  | j + 3, h => by omega
theorem cellsR_get : ∀ {l : List (Nat → Int)} {k : Nat} {x : Nat → Int}, l[k]? = some x → ∀ j, j < 3 → (cellsR l)[k * 3 + j]? = some (.int .i64 (x j))
  | [], k, x, h, _, _ => by simp at h
  | y :: l, 0, x, h, j, hj => by
    simp at h
    subst h
    rw [cellsR, List.flatMap_cons, Nat.zero_mul, Nat.zero_add, List.getElem?_append_left (by simp [recC]; omega)]
    exact recC_get y j hj
  | y :: l, k + 1, x, h, j, hj => by
    rw [cellsR, List.flatMap_cons, List.getElem?_append_right (by simp [recC]; omega)]
    have ih := cellsR_get (l := l) (k := k) (x := x) (by simpa using h) j hj
    have e : (k + 1) * 3 + j - (recC y).length = k * 3 + j := by simp [recC]; omega
    rw [e]
    exact ih
theorem reads_rec {w : World} {B : Nat} {A : Option Addr} {l : List (Nat → Int)} (h : Reads w B 3 A l.length (cellsR l)) {k : Nat} {x : Nat → Int} (hx : l[k]? = some x) :
    ∃ b off, A = some ⟨b, off, none⟩ ∧ b < B ∧ ∀ j, j < 3 → w.cell? ⟨b, off + (k * 3 + j), none⟩ = some (.int .i64 (x j)) := by
  have hk : k < l.length := by
    rcases Nat.lt_or_ge k l.length with h | h
    · exact h
    · rw [List.getElem?_eq_none h] at hx; cases hx
  obtain ⟨b, off, e, hb, hc⟩ := h.2 (by omega)
  exact ⟨b, off, e, hb, fun j hj => hc _ _ (cellsR_get hx j hj)⟩
abbrev srcC (gp : Nat) : Array Value := #[.int .i64 0, .int .i64 0, .int .i64 0, .int .i64 0, .int .i64 0, .int .i64 0, .int .i64 0, .int .i64 0, .slice (some ⟨gp, 0, none⟩) 1 1]
end Go.Proofs.YthfibggbipkmfaaGreat
namespace Go.Proofs.YthfibggbipkmfaaGreat
open Go.RowKit Go.Fb
set_option linter.unusedVariables false
def emB (i : Int × Int) : Bool := decide (i.1 = 14)
theorem actM_em (i : Int × Int) (S : MS) : (actM i S).o.length ≤ S.o.length + (if emB i then 1 else 0) := by
  by_cases h : i.1 = 14
  · have := actM_o i S
    unfold emB
    rw [decide_eq_true h]
    exact this
  · have h0 : (actM i S).o = S.o := by
      have ht : (topM i.1 S).o = S.o := by
        unfold topM
        by_cases c9 : i.1 = 9
        · rw [if_pos c9]
        · rw [if_neg c9]
          by_cases c10 : i.1 = 10
          · rw [if_pos c10]
          · rw [if_neg c10]
            by_cases c11 : i.1 = 11
            · rw [if_pos c11]
            · rw [if_neg c11]
              by_cases c12 : i.1 = 12
              · rw [if_pos c12]
              · rw [if_neg c12, if_neg h]
      refine act_cases (fun X => X.o = S.o) (fun _ => rfl) (fun _ => rfl) rfl rfl rfl (fun c => ?_) (fun _ => rfl) rfl ht
      unfold jzM; split <;> rfl
    rw [h0]
    exact Nat.le_add_right _ _
theorem runF_em (l : List (Int × Int)) : ∀ (f : Nat) (S : MS), (runF l f S).o.length ≤ S.o.length + (l.drop S.at_).countP emB
  | 0, S => Nat.le_add_right _ _
  | f + 1, S => by
    unfold runF
    cases h : l[S.at_]? with
    | none => exact Nat.le_add_right _ _
    | some i =>
      simp only
      split
      · exact Nat.le_add_right _ _
      · have h1 := runF_em l f (actM i (nextM S))
        have h2 := actM_em i (nextM S)
        have h3 : S.at_ + 1 ≤ (actM i (nextM S)).at_ := actM_at i (nextM S)
        obtain ⟨hlt, hg⟩ := List.getElem?_eq_some_iff.1 h
        have h4 : (l.drop S.at_).countP emB = (if emB i then 1 else 0) + (l.drop (S.at_ + 1)).countP emB := by
          rw [List.drop_eq_getElem_cons hlt, List.countP_cons, hg]
          omega
        have h5 : (l.drop (actM i (nextM S)).at_).countP emB ≤ (l.drop (S.at_ + 1)).countP emB := by
          obtain ⟨t, ht⟩ := Nat.exists_eq_add_of_le h3
          rw [ht, ← List.drop_drop]
          exact (List.drop_sublist _ _).countP_le
        have h6 : (nextM S).o = S.o := rfl
        rw [h6] at h2
        omega
theorem outP_em (l : List (Int × Int)) (x : Int × Int) (c : (Int × Int) × (Int × Int)) : (outP_ l x c).length ≤ l.countP emB := by
  have h := runF_em l 100 (mach0 x c)
  have e1 : (mach0 x c).o.length = 0 := rfl
  have e2 : l.drop (mach0 x c).at_ = l := rfl
  rw [e1, e2, Nat.zero_add] at h
  exact h
theorem outP_len {l : List (Int × Int)} {s : CS} (h : chkL l = some s) (x : Int × Int) (c : (Int × Int) × (Int × Int)) : (outP_ l x c).length ≤ 24 :=
  Nat.le_trans (outP_em l x c) (Nat.le_trans List.countP_le_length (safe_of h).fit.1)
end Go.Proofs.YthfibggbipkmfaaGreat
namespace Go.Proofs.YthfibggbipkmfaaGreat
open Go.RowKit Go.Fb
set_option linter.unusedVariables false
set_option maxRecDepth 100000 in
set_option maxHeartbeats 1000000 in
theorem rcindex_any (F : FuncId) (cap : Array Value) (p : (Nat → Int) → Bool) (A : Option Addr) (c B n : Nat) (l : List (Nat → Int)) (w : World) (hent : ∀ (args : Array Value) (w : World), (callFunc F args).run Tryz.prog w = .ok (.enter F args) w)
    (hF : ∀ (x : Nat → Int) (w' : World), x ∈ l → Fr w.heap.size [] w w' → Calls Tryz.prog F (#[.agg #[.int .i64 (x 0), .int .i64 (x 1), .int .i64 (x 2)]] ++ cap) w' fun e w'' => e = .returned (.bool (p x)) ∧ Fr w'.heap.size [] w' w'')
    (hn : n = l.length) (hm : n ≤ 1000000) (hr : Reads w B 3 A n (cellsR l)) (hB : B ≤ w.heap.size) :
    Calls Tryz.prog 91 #[.slice A n c, .func (.func F) #[] cap] w fun e w' => ∃ i : Int, e = .returned (.int .i64 i) ∧ decide (0 ≤ i) = l.any p ∧ Fr w.heap.size [] w w' := by
  have HF := Lib.hid hF
  have HR := Lib.hid hr
  have HN := Lib.hid hn
  clear hF hr hn
  go_enter Tryz.func91, Tryz.ntmps91
  go_wp2_with fail
  go_loopg [8] n (fun g s8 wr => ∃ k : Nat, k ≤ n ∧ g = n - k ∧ s8 = .int .i64 k ∧ RowKit.Hid (∀ j y, j < k → l[j]? = some y → p y = false) ∧ RowKit.Hid (Fr w.heap.size [] w wr))
  case atStart => exact ⟨0, Nat.zero_le _, rfl, rfl, Lib.hid (fun j y h => absurd h (by omega)), Lib.hid (Fr.refl _ _ _)⟩
  case round =>
    obtain ⟨k, hk, rfl, rfl, HP, FR⟩ := hrel
    by_cases hkn : k < n
    · have hki : (k : Int) < (n : Int) := by omega
      have hk0 : (0 : Int) ≤ (k : Int) := by omega
      obtain ⟨x, hx⟩ : ∃ x, l[k]? = some x := ⟨_, List.getElem?_eq_getElem (by rw [← HN.out]; exact hkn)⟩
      obtain ⟨b, off, rfl, hb, hc⟩ := reads_rec (by rw [← HN.out]; exact HR.out.fr FR.out hB (by simp)) hx
      have p0 := hc 0 (by omega)
      have p1 := hc 1 (by omega)
      have p2 := hc 2 (by omega)
      simp only [Nat.add_zero, ← Nat.add_assoc] at p0 p1 p2
      have HC := HF.out x wr (List.mem_of_getElem? hx) FR.out
      have HX := Lib.hid hx
      clear hc hx
      obtain ⟨bb, hbb⟩ : ∃ b, b = p x := ⟨_, rfl⟩
      rw [← hbb] at HC
      have HC := Lib.hid HC
      have HPX := Lib.hid hbb
      clear hbb
      cases bb with
      | true =>
        go_wp2_with fail
        refine HC.out.mono ?_
        rintro e w2 ⟨rfl, f2⟩
        have F2 := Lib.hid (FR.out.trans (f2.mono (B' := w.heap.size) (L' := []) FR.out.size (by simp)))
        clear f2 HC
        go_wp2_with fail
        go_ret
        refine ⟨k, rfl, ?_, F2.out⟩
        rw [List.any_eq_true.2 ⟨x, List.mem_of_getElem? HX.out, HPX.out.symm⟩]
        simp
      | false =>
        go_wp2_with fail
        refine HC.out.mono ?_
        rintro e w2 ⟨rfl, f2⟩
        have F2 := Lib.hid (FR.out.trans (f2.mono (B' := w.heap.size) (L' := []) FR.out.size (by simp)))
        clear f2 HC
        go_wp2_with fail
        go_roundg (n - (k + 1))
        case measure => omega
        case rel =>
          refine ⟨k + 1, by omega, rfl, by go_num, Lib.hid fun j y hj hy => ?_, F2⟩
          rcases Nat.lt_or_ge j k with h | h
          · exact HP.out j y h hy
          · have : j = k := by omega
            subst this
            rw [HX.out] at hy
            injection hy with hy
            rw [← hy]
            exact HPX.out.symm
    · obtain rfl : k = n := by omega
      go_wp2_with fail
      go_ret
      refine ⟨-1, rfl, ?_, FR.out⟩
      symm
      rw [show decide ((0 : Int) ≤ -1) = false by simp, List.any_eq_false]
      intro x hx
      obtain ⟨j, hj, rfl⟩ := List.mem_iff_getElem.1 hx
      rw [HP.out j _ (by rw [HN.out]; exact hj) (List.getElem?_eq_getElem hj)]
      simp
set_option maxRecDepth 100000 in
theorem rccontains_any (F : FuncId) (cap : Array Value) (p : (Nat → Int) → Bool) (A : Option Addr) (c B n : Nat) (l : List (Nat → Int)) (w : World) (hent : ∀ (args : Array Value) (w : World), (callFunc F args).run Tryz.prog w = .ok (.enter F args) w)
    (hF : ∀ (x : Nat → Int) (w' : World), x ∈ l → Fr w.heap.size [] w w' → Calls Tryz.prog F (#[.agg #[.int .i64 (x 0), .int .i64 (x 1), .int .i64 (x 2)]] ++ cap) w' fun e w'' => e = .returned (.bool (p x)) ∧ Fr w'.heap.size [] w' w'')
    (hn : n = l.length) (hm : n ≤ 1000000) (hr : Reads w B 3 A n (cellsR l)) (hB : B ≤ w.heap.size) :
    Calls Tryz.prog 55 #[.slice A n c, .func (.func F) #[] cap] w fun e w' => e = .returned (.bool (l.any p)) ∧ Fr w.heap.size [] w w' := by
  have H := Lib.hid (rcindex_any F cap p A c B n l w hent hF hn hm hr hB)
  obtain ⟨b, hb⟩ : ∃ b, b = l.any p := ⟨_, rfl⟩
  rw [← hb] at H ⊢
  clear hF hn hr hb
  go_enter Tryz.func55, Tryz.ntmps55
  go_wp2_with fail
  refine H.out.mono ?_
  rintro e w1 ⟨i, rfl, hi, f1⟩
  have F1 := Lib.hid f1
  have HI := Lib.hid hi
  clear hi f1 H
  go_wp2_with fail
  go_ret
  exact ⟨by rw [← HI.out]; rfl, F1.out⟩
set_option maxRecDepth 100000 in
theorem flows1_any (x : Nat → Int) (w : World) : Calls Tryz.prog 56 #[.agg #[.int .i64 (x 0), .int .i64 (x 1), .int .i64 (x 2)]] w fun e w' => e = .returned (.bool (!recB (x 0) (x 1) (x 2))) ∧ Fr w.heap.size [] w w' := by
  have HC := Lib.hid (cellright_any (x 0) (x 1) (x 2))
  have fa := (Fr.refl w.heap.size [] w).alloc (Nat.le_refl _) (.cells #[.int .i64 (x 0), .int .i64 (x 1), .int .i64 (x 2)] 56)
  have BX := Lib.hid (Blk.new w 56 #[.int .i64 (x 0), .int .i64 (x 1), .int .i64 (x 2)])
  have FA := Lib.hid fa
  clear fa
  go_enter Tryz.func56, Tryz.ntmps56
  go_upto_region 1 with fail
  generalize w.alloc _ = w1 at *
  obtain ⟨gx, hgx⟩ : ∃ g, g = w.heap.size := ⟨_, rfl⟩
  rw [← hgx] at BX ⊢
  have HGX := Lib.hid hgx
  clear hgx
  have q0 := BX.out.cell 0
  have q1 := BX.out.cell 1
  have q2 := BX.out.cell 2
  simp at q0 q1 q2
  go_wp2_with fail
  refine (HC.out _).mono ?_
  rintro e w2 ⟨rfl, f2⟩
  have F2 := Lib.hid (FA.out.trans (f2.mono (B' := w.heap.size) (L' := []) FA.out.size (by simp)))
  clear f2
  go_wp2_with fail
  go_ret
  exact ⟨rfl, F2.out⟩
end Go.Proofs.YthfibggbipkmfaaGreat
namespace Go.Proofs.YthfibggbipkmfaaGreat
open Go.RowKit Go.Fb
set_option linter.unusedVariables false
theorem use_E (s : CS) (i : Int × Int) : (useF s i).E = s.E := by unfold useF; split <;> (try split) <;> rfl
theorem come_E {n : Nat} {s s' : CS} {t : Nat} {d e : Int} (h : comeF n s t d e = some s') : e ≤ 4 ∧ (∀ x, s.E x ≤ s'.E x) ∧ (∀ x, x ≠ t → s'.E x = s.E x) ∧ (t ≠ n → e ≤ s'.E t) := by
  unfold comeF at h
  split at h
  · cases h
  · rename_i h1
    split at h
    · rename_i h2
      injection h with h; subst h
      exact ⟨by omega, fun x => Int.le_refl _, fun x _ => rfl, fun h => absurd h2 h⟩
    · split at h
      · cases h
      · injection h with h; subst h
        refine ⟨by omega, fun x => ?_, fun x hx => ?_, fun _ => ?_⟩
        · simp only [updC]
          split
          · rename_i e; subst e; exact Int.le_max_left _ _
          · exact Int.le_refl _
        · simp only [updC]; rw [if_neg hx]
        · simp only [updC, if_true]; exact Int.le_max_right _ _
theorem comes_E {n : Nat} {d e : Int} : ∀ (l : List Nat) {s s' : CS}, comesF n d e l s = some s' → (l ≠ [] → e ≤ 4) ∧ (∀ x, s.E x ≤ s'.E x) ∧ (∀ x, x ∉ l → s'.E x = s.E x) ∧ (∀ t ∈ l, t ≠ n → e ≤ s'.E t)
  | [], s, s', h => by
    injection h with h; subst h
    exact ⟨fun h => absurd rfl h, fun x => Int.le_refl _, fun x _ => rfl, fun t ht => by cases ht⟩
  | t :: l, s, s', h => by
    unfold comesF at h
    split at h
    · cases h
    · rename_i s1 h1
      obtain ⟨a, b, c, d'⟩ := come_E h1
      obtain ⟨_, b2, c2, d2⟩ := comes_E l h
      refine ⟨fun _ => a, fun x => Int.le_trans (b x) (b2 x), fun x hx => ?_, fun u hu hn => ?_⟩
      · rw [c2 x (fun h => hx (by simp [h])), c x (fun h => hx (by simp [h]))]
      · rcases List.mem_cons.1 hu with e | e
        · subst e; exact Int.le_trans (d' hn) (b2 u)
        · exact d2 u e hn
theorem check_E {n : Nat} {p : Nat → Int × Int} (hp : ∀ k, k < n → ((p k).1 = 15 ∨ (p k).1 = 16 → 1 ≤ (p k).2)) : ∀ (m : Nat) {s : CS}, m ≤ n → checkF n p m = some s → ∀ k, k < m → s.D k ≠ -1 → (p k).1 ≠ 0 → emF s k (p k) ≤ 4 ∧ ∀ t ∈ nextsF n k (p k), t < n → emF s k (p k) ≤ s.E t
  | 0, s, _, h => fun k hk => by omega
  | m + 1, s, hm, h => by
    unfold checkF at h
    split at h
    · cases h
    · rename_i s1 h1
      have ih := check_E hp m (by omega) h1
      split at h
      · rename_i hd
        injection h with h; subst h
        intro k hk hne h0
        rcases Nat.lt_or_ge k m with c | c
        · exact ih k c hne h0
        · have : k = m := by omega
          subst this
          exact absurd hd hne
      · rename_i hd
        unfold stepF at h
        split at h
        · cases h
        · have hU : (useF s1 (p m)).D = s1.D := use_D s1 (p m)
          have hUE : (useF s1 (p m)).E = s1.E := use_E s1 (p m)
          obtain ⟨ha, hb, hc, hd2⟩ := comes_E _ h
          rw [hUE] at hb hc
          have hoth : ∀ x, x ≤ m → s.D x = s1.D x ∧ s.E x = s1.E x := fun x hx => by
            have hn : x ∉ nextsF n m (p m) := fun c => by have := nextsM_gt (by omega) (hp m (by omega)) x c; omega
            exact ⟨by rw [comes_other _ h x hn, hU], hc x hn⟩
          intro k hk hne h0
          have hem : emF s k (p k) = emF s1 k (p k) := by unfold emF; rw [(hoth k (by omega)).2]
          rw [(hoth k (by omega)).1] at hne
          rw [hem]
          rcases Nat.lt_or_ge k m with c | c
          · obtain ⟨a, b⟩ := ih k c hne h0
            exact ⟨a, fun t ht htn => Int.le_trans (b t ht htn) (hb t)⟩
          · have : k = m := by omega
            subst this
            refine ⟨ha ?_, fun t ht htn => hd2 t ht (by omega)⟩
            unfold nextsF
            rw [if_neg h0]
            split
            · simp
            · split <;> simp
theorem act_next {l : List (Int × Int)} {S : MS} {i : Int × Int} (h0 : i.1 ≠ 0) (hr : rightB i = true) (hlt : (actM i (nextM S)).at_ < l.length) : (actM i (nextM S)).at_ ∈ nextsF l.length S.at_ i := by
  obtain ⟨j1, j2, j3, j4⟩ := right_jump hr
  have h5 : (nextM S).at_ = S.at_ + 1 := rfl
  rcases act_at (i := i) (S := nextM S) with e | ⟨c, e⟩
  · rw [e]
    by_cases c16 : i.1 = 16
    · exfalso
      have : (actM i (nextM S)).at_ = S.at_ + 1 + i.2.toNat := by simp [actM, c16, jumpM, nextM]
      rw [e] at this
      have := j2 (.inr c16)
      omega
    · unfold nextsF
      rw [if_neg h0, if_neg c16]
      split <;> simp [nextM]
  · rw [e, h5] at hlt ⊢
    have hf : S.at_ + 1 + i.2.toNat = farF l.length S.at_ i.2 := by unfold farF; omega
    rw [hf]
    unfold nextsF
    rw [if_neg h0]
    split
    · simp
    · rw [if_pos (by omega)]; simp
theorem runF_four {l : List (Int × Int)} {s : CS} (hs : chkL l = some s) : ∀ (f : Nat) (S : MS), MInv l s.D S → (S.o.length : Int) ≤ 4 → (S.at_ < l.length → (S.o.length : Int) ≤ s.E S.at_) → ((runF l f S).o.length : Int) ≤ 4
  | 0, S, _, h, _ => h
  | f + 1, S, I, h4, hE => by
    unfold runF
    cases h : l[S.at_]? with
    | none => exact h4
    | some i =>
      simp only
      split
      · exact h4
      · rename_i h0
        have hP := safe_of hs
        have hk : S.at_ < l.length := (List.getElem?_eq_some_iff.1 h).1
        have hr := hP.fit.2 i (List.mem_of_getElem? h)
        obtain ⟨hf, hc⟩ := chkL_some hs
        have hp : ∀ k, k < l.length → ((pF l k).1 = 15 ∨ (pF l k).1 = 16 → 1 ≤ (pF l k).2) := fun k hk c => by
          have hx : l[k]? = some l[k] := List.getElem?_eq_getElem hk
          have := pF_of hx
          rw [this] at c ⊢
          exact ((right_jump (hP.fit.2 _ (List.getElem_mem hk))).2.1 c).1
        have hd := I.dep hk
        have hl := check_E hp l.length (Nat.le_refl _) hc S.at_ hk (by rw [hd]; omega)
        rw [pF_of h] at hl
        obtain ⟨a, b⟩ := hl h0
        have hem := actM_em i (nextM S)
        have h6 : (nextM S).o = S.o := rfl
        rw [h6] at hem
        have h7 := hE hk
        have h8 : ((actM i (nextM S)).o.length : Int) ≤ emF s S.at_ i := by
          unfold emF
          unfold emB at hem
          by_cases c : i.1 = 14
          · rw [if_pos c]
            simp [c] at hem
            omega
          · rw [if_neg c]
            simp [c] at hem
            omega
        exact runF_four hs f _ (I.act hP h h0).1 (by omega) (fun hlt => Int.le_trans h8 (b _ (act_next h0 hr hlt) hlt))
theorem outP_four {l : List (Int × Int)} {s : CS} (h : chkL l = some s) {x : Int × Int} (hx : vOk x) {c : (Int × Int) × (Int × Int)} (hc : vOk c.1 ∧ vOk c.2) : (outP_ l x c).length ≤ 4 := by
  have hE : 0 < l.length → (0 : Int) ≤ s.E 0 := by
    intro _
    obtain ⟨hf, hc⟩ := chkL_some h
    have key : ∀ (m : Nat) {s : CS}, checkF l.length (pF l) m = some s → (0 : Int) ≤ s.E 0 := by
      intro m
      induction m with
      | zero => intro s hs; injection hs with hs; subst hs; exact Int.le_refl _
      | succ m ih =>
        intro s hs
        unfold checkF at hs
        split at hs
        · cases hs
        · rename_i s1 h1
          split at hs
          · injection hs with hs; subst hs; exact ih h1
          · unfold stepF at hs
            split at hs
            · cases hs
            · have := (comes_E _ hs).2.1 0
              rw [use_E] at this
              exact Int.le_trans (ih h1) this
    exact key _ hc
  have := runF_four h 100 (mach0 x c) (mach0_inv (safe_of h) hx hc) (by show ((0 : Nat) : Int) ≤ 4; decide) (fun hlt => hE hlt)
  unfold outP_ runE
  omega
end Go.Proofs.YthfibggbipkmfaaGreat
