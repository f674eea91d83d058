/- The contracts of package route, third part, and of the references that its laws use. -/
import Derived.Test.YtkmkdodhahcpdaaRouteB
namespace Go.Proofs.Ytkmkdodhahcpdaa
open Go.RowKit Go.Fb

def hasI (xs : List Int) (n : Int) : Bool := xs.any (· == n)
theorem hasI_succ {xs : List Int} {k : Nat} {x : Int} (n : Int) (h : xs[k]? = some x) : hasI (xs.take (k + 1)) n = (hasI (xs.take k) n || x == n) := by
  unfold hasI
  rw [List.take_add_one, h, List.any_append]
  simp
theorem hasI_hit {xs : List Int} {k : Nat} {x n : Int} (h : xs[k]? = some x) (he : (x == n) = true) : hasI xs n = true := by
  unfold hasI
  rw [List.any_eq_true]
  exact ⟨x, List.mem_of_getElem? h, he⟩

set_option maxRecDepth 100000 in
theorem has_any (A : Option Addr) (n c B : Nat) (xs : List Int) (v : Int) (w : World) (hr : Reads w B 1 A n (xs.map (Value.int .i64))) (hn : n ≤ maxLen) :
    Calls Try.prog 42 #[.slice A n c, .int .i64 v] w fun e w' => e = .returned (.bool (hasI xs v)) ∧ w = w' := by
  unfold maxLen at hn
  have HL := Lib.hid (show xs.length = n by simpa using hr.1)
  have HR := Lib.hid hr
  clear hr
  go_enter Try.func42, Try.ntmps42
  go_wp2_with fail
  go_loop [5] (fun i => ∃ k : Nat, k ≤ n ∧ i = .int .i64 k ∧ hasI (xs.take k) v = false) (fun i => n - (intOf i).toNat)
  case atStart => exact ⟨0, Nat.zero_le _, rfl, rfl⟩
  case round =>
    obtain ⟨k, hk, rfl, hall⟩ := hrel
    have HA := Lib.hid hall
    clear hall
    by_cases hlt : k < n
    · obtain ⟨b, off, u, rfl, hb, hu, hcell⟩ := HR.out.one hlt
      obtain ⟨x, hx, rfl⟩ : ∃ x, xs[k]? = some x ∧ Value.int .i64 x = u := by simpa using hu
      have HX := Lib.hid hx
      clear hx hu
      have hki : (k : Int) < (n : Int) := by omega
      by_cases he : (x == v) = true
      · go_wp2_with fail
        go_ret
        exact ⟨by rw [hasI_hit HX.out he]; rfl, rfl⟩
      · have he' : (x == v) = false := by simpa using he
        clear he
        go_wp2_with fail
        go_round
        case rel => exact ⟨k + 1, by omega, by go_num, by rw [hasI_succ v HX.out, HA.out, he']; rfl⟩
        case measure => simp [intOf]; omega
    · obtain rfl : k = n := by omega
      go_wp2_with fail
      go_ret
      exact ⟨by rw [← HA.out, List.take_of_length_le (Nat.le_of_eq HL.out)]; rfl, rfl⟩

def IdxOut (xs : List Int) (v : Int) (w : World) (e : Ending) (w' : World) : Prop := ∃ i : Int, e = .returned (.int .i64 i) ∧ (0 ≤ i ↔ hasI xs v = true) ∧ w = w'
set_option maxRecDepth 100000 in
theorem index_any (A : Option Addr) (n c B : Nat) (xs : List Int) (v : Int) (w : World) (hr : Reads w B 1 A n (xs.map (Value.int .i64))) (hn : n ≤ maxLen) :
    Calls Try.prog 64 #[.slice A n c, .int .i64 v] w (IdxOut xs v w) := by
  unfold maxLen at hn
  have HL := Lib.hid (show xs.length = n by simpa using hr.1)
  have HR := Lib.hid hr
  clear hr
  go_enter Try.func64, Try.ntmps64
  go_wp2_with fail
  go_loop [8] (fun i => ∃ k : Nat, k ≤ n ∧ i = .int .i64 k ∧ hasI (xs.take k) v = false) (fun i => n - (intOf i).toNat)
  case atStart => exact ⟨0, Nat.zero_le _, rfl, rfl⟩
  case round =>
    obtain ⟨k, hk, rfl, hall⟩ := hrel
    have HA := Lib.hid hall
    clear hall
    by_cases hlt : k < n
    · obtain ⟨b, off, u, rfl, hb, hu, hcell⟩ := HR.out.one hlt
      obtain ⟨x, hx, rfl⟩ : ∃ x, xs[k]? = some x ∧ Value.int .i64 x = u := by simpa using hu
      have HX := Lib.hid hx
      clear hx hu
      have hki : (k : Int) < (n : Int) := by omega
      by_cases he : v = x
      · have he1 : (v == x) = true := by simpa using he
        have HE := Lib.hid he
        clear he
        go_wp2_with fail
        go_ret
        exact ⟨k, rfl, by rw [hasI_hit HX.out (by rw [HE.out]; simp)]; simp, rfl⟩
      · have he1 : (v == x) = false := by simpa using he
        have he2 : (x == v) = false := by simpa using fun h => he h.symm
        have HE := Lib.hid he2
        clear he he2
        go_wp2_with fail
        go_round
        case rel => exact ⟨k + 1, by omega, by go_num, by rw [hasI_succ v HX.out, HA.out, HE.out]; rfl⟩
        case measure => simp [intOf]; omega
    · obtain rfl : k = n := by omega
      go_wp2_with fail
      go_ret
      exact ⟨-1, rfl, by rw [← List.take_of_length_le (Nat.le_of_eq HL.out), HA.out]; simp, rfl⟩
theorem contains_any (A : Option Addr) (n c B : Nat) (xs : List Int) (v : Int) (w : World) (hr : Reads w B 1 A n (xs.map (Value.int .i64))) (hn : n ≤ maxLen) :
    Calls Try.prog 62 #[.slice A n c, .int .i64 v] w fun e w' => e = .returned (.bool (hasI xs v)) ∧ w = w' := by
  go_enter Try.func62, Try.ntmps62
  go_wp2_with fail
  refine (index_any A n c B xs v w hr hn).mono ?_
  rintro e w' ⟨i, rfl, hi, rfl⟩
  have HI := Lib.hid hi
  clear hi hr
  by_cases h : 0 ≤ i
  · go_wp2_with fail
    go_ret
    exact ⟨by rw [HI.out.1 h]; simp, rfl⟩
  · go_wp2_with fail
    go_ret
    have : hasI xs v = false := by
      cases hh : hasI xs v
      · rfl
      · exact absurd (HI.out.2 hh) (by omega)
    exact ⟨by rw [this]; simp; omega, rfl⟩

def intsEq (xs ys : List Int) : Bool := decide (xs = ys)
set_option maxRecDepth 100000 in
theorem ints_any (A1 A2 : Option Addr) (n1 c1 n2 c2 B1 B2 : Nat) (xs ys : List Int) (w : World) (h1 : Reads w B1 1 A1 n1 (xs.map (Value.int .i64))) (h2 : Reads w B2 1 A2 n2 (ys.map (Value.int .i64))) (hn1 : n1 ≤ maxLen) (hn2 : n2 ≤ maxLen) :
    Calls Try.prog 22 #[.slice A1 n1 c1, .slice A2 n2 c2] w fun e w' => e = .returned (.bool (intsEq xs ys)) ∧ Fr w.heap.size [] w w' := by
  unfold maxLen at hn1 hn2
  have L1 := Lib.hid (show xs.length = n1 by simpa using h1.1)
  have L2 := Lib.hid (show ys.length = n2 by simpa using h2.1)
  have R1 := Lib.hid h1
  have R2 := Lib.hid h2
  clear h1 h2
  by_cases hn : n1 = n2
  case neg =>
    have hv : intsEq xs ys = false := by
      simp only [intsEq, decide_eq_false_iff_not]
      intro h
      apply hn
      rw [← L1.out, ← L2.out, h]
    rw [hv]
    have hne : ((n1 : Int) != (n2 : Int)) = true := by rw [bne_iff_ne]; omega
    clear hv hn
    go_enter Try.func22, Try.ntmps22
    go_wp2_with fail
    go_ret
    exact ⟨rfl, Fr.refl _ _ _⟩
  subst hn
  go_enter Try.func22, Try.ntmps22
  go_wp2_with fail
  go_loopw [5] (fun i wr => ∃ k m : Nat, k ≤ n1 ∧ i = .int .i64 k ∧ xs.take k = ys.take k ∧ wr = w.drewN m) (fun i _ => n1 - (intOf i).toNat)
  case atStart => exact ⟨0, 0, Nat.zero_le _, rfl, rfl, rfl⟩
  case round =>
    obtain ⟨k, m, hk, rfl, hall, rfl⟩ := hrel
    have HA := Lib.hid hall
    clear hall
    by_cases hlt : k < n1
    · obtain ⟨b1, o1, u1, rfl, hb1, hu1, hc1⟩ := R1.out.one hlt
      obtain ⟨x, hx, rfl⟩ : ∃ x, xs[k]? = some x ∧ Value.int .i64 x = u1 := by simpa using hu1
      obtain ⟨b2, o2, u2, rfl, hb2, hu2, hc2⟩ := R2.out.one hlt
      obtain ⟨y, hy, rfl⟩ : ∃ y, ys[k]? = some y ∧ Value.int .i64 y = u2 := by simpa using hu2
      have HX := Lib.hid hx
      have HY := Lib.hid hy
      clear hx hy hu1 hu2
      have hki : (k : Int) < (n1 : Int) := by omega
      by_cases he : x = y
      · have he1 : (x != y) = false := by simpa using he
        have HE := Lib.hid he
        clear he
        go_wp2_with fail
        go_quiet (fail)
        go_wp2_with fail
        go_roundw
        case rel => exact ⟨k + 1, m + nq, by omega, by go_num, by rw [List.take_add_one, List.take_add_one, HX.out, HY.out, HA.out, HE.out], by first | rfl | rw [World.drewN_drewN]⟩
        case measure => simp [intOf]; omega
      · have he1 : (x != y) = true := by simpa using he
        have HE := Lib.hid he
        clear he
        have hv : intsEq xs ys = false := by
          simp only [intsEq, decide_eq_false_iff_not]
          intro h
          have h3 := HX.out
          rw [h, HY.out] at h3
          injection h3 with h3
          exact HE.out h3.symm
        have HV := Lib.hid hv
        clear hv
        go_wp2_with fail
        go_quiet (fail)
        go_wp2_with fail
        go_ret
        exact ⟨by rw [HV.out]; rfl, ((Fr.refl _ _ _).drewN m).drewN nq⟩
    · obtain rfl : k = n1 := by omega
      have hv : intsEq xs ys = true := by
        simp only [intsEq, decide_eq_true_eq]
        have h := HA.out
        rwa [List.take_of_length_le (Nat.le_of_eq L1.out), List.take_of_length_le (Nat.le_of_eq L2.out)] at h
      have HV := Lib.hid hv
      clear hv
      go_wp2_with fail
      go_ret
      exact ⟨by rw [HV.out]; rfl, (Fr.refl _ _ _).drewN _⟩

set_option maxRecDepth 100000 in
theorem lright_any (p : Int) (r : Nat → Int) (w : World) : Calls Try.prog 21 #[.int .i64 p, A8 r] w fun e w' => e = .returned (.bool (right8 p r)) ∧ Fr w.heap.size [] w w' := by
  go_enter Try.func21, Try.ntmps21
  go_wp2_with fail
  go_loop [8] (fun i => ∃ k : Nat, k ≤ 8 ∧ i = .int .i64 k ∧ inTo p r k = true) (fun i => 8 - (intOf i).toNat)
  case atStart => exact ⟨0, by omega, rfl, rfl⟩
  case round =>
    obtain ⟨k, hk, rfl, hall⟩ := hrel
    by_cases hlt : k < 8
    · have hx := index8 r hlt
      have HA := Lib.hid hall
      clear hall
      have hnext : inTo p r (k + 1) = decide (0 ≤ r k ∧ r k < p) := by rw [inTo_succ, HA.out]; simp
      have HN := Lib.hid hnext
      clear hnext
      have hbad : ¬ (0 ≤ r k ∧ r k < p) → right8 p r = false := fun h => by rw [right8, inTo_bad hlt h]; simp
      have HB := Lib.hid hbad
      clear hbad
      by_cases c1 : r k < 0
      · go_wp2_with fail
        go_ret
        exact ⟨by rw [HB.out (by omega)]; rfl, (Fr.refl _ _ _).alloc (Nat.le_refl _) _⟩
      by_cases c2 : p ≤ r k
      · go_wp2_with fail
        go_ret
        exact ⟨by rw [HB.out (by omega)]; rfl, (Fr.refl _ _ _).alloc (Nat.le_refl _) _⟩
      · go_wp2_with fail
        go_round
        case rel => exact ⟨k + 1, by omega, by go_num, by rw [HN.out]; simp; omega⟩
        case measure => simp [intOf]; omega
    · obtain rfl : k = 8 := by omega
      have HA := Lib.hid hall
      have HV := Lib.hid (show right8 p r = decide (1 ≤ p ∧ p ≤ 3) by rw [right8, hall]; simp)
      clear hall
      by_cases c1 : 1 ≤ p
      · by_cases c2 : p ≤ 3
        · go_wp2_with fail
          go_ret
          exact ⟨by rw [HV.out, decide_eq_true (show 1 ≤ p ∧ p ≤ 3 from ⟨c1, c2⟩)]; simp, (Fr.refl _ _ _).alloc (Nat.le_refl _) _⟩
        · go_wp2_with fail
          go_ret
          exact ⟨by rw [HV.out, decide_eq_false (show ¬ (1 ≤ p ∧ p ≤ 3) by omega)]; simp, (Fr.refl _ _ _).alloc (Nat.le_refl _) _⟩
      · go_wp2_with fail
        go_ret
        exact ⟨by rw [HV.out, decide_eq_false (show ¬ (1 ≤ p ∧ p ≤ 3) by omega)]; rfl, (Fr.refl _ _ _).alloc (Nat.le_refl _) _⟩
end Go.Proofs.Ytkmkdodhahcpdaa
