/- The plain law of check.Trim: what stays of a safe program. No program in sight. -/
import Derived.Test.YtndjgjnnoknblaaTell
import Derived.Test.YtndjgjnnoknblaaJoin
namespace Go.Proofs.Ytndjgjnnoknblaa
/-- How many stay ahead of a place. -/
def posS (S : Nat → Bool) : Nat → Nat
  | 0 => 0
  | k + 1 => if S k = true then posS S k + 1 else posS S k
theorem posS_yes {S : Nat → Bool} {k : Nat} (h : S k = true) : posS S (k + 1) = posS S k + 1 := by rw [posS, if_pos h]
theorem posS_no {S : Nat → Bool} {k : Nat} (h : S k = false) : posS S (k + 1) = posS S k := by rw [posS, if_neg (by rw [h]; decide)]
theorem posS_step (S : Nat → Bool) (k : Nat) : posS S k ≤ posS S (k + 1) := by rw [posS]; split <;> omega
theorem posS_mono {S : Nat → Bool} {j k : Nat} (h : j ≤ k) : posS S j ≤ posS S k := by
  induction k with
  | zero => obtain rfl : j = 0 := by omega
            exact Nat.le_refl _
  | succ k ih =>
    by_cases e : j = k + 1
    · subst e; exact Nat.le_refl _
    · exact Nat.le_trans (ih (by omega)) (posS_step S k)
theorem posS_le (S : Nat → Bool) : ∀ k, posS S k ≤ k
  | 0 => Nat.le_refl _
  | k + 1 => by have := posS_le S k; rw [posS]; split <;> omega
theorem posS_lt {S : Nat → Bool} {j k : Nat} (hs : S j = true) (h : j < k) : posS S j < posS S k := by
  have := posS_mono (S := S) (show j + 1 ≤ k from h)
  rw [posS_yes hs] at this
  omega
theorem posS_onto {S : Nat → Bool} : ∀ {n z : Nat}, z < posS S n → ∃ k, k < n ∧ S k = true ∧ posS S k = z
  | 0, z, h => absurd h (by simp [posS])
  | n + 1, z, h => by
    by_cases hs : S n = true
    · by_cases e : z = posS S n
      · exact ⟨n, by omega, hs, e.symm⟩
      · rw [posS_yes hs] at h
        obtain ⟨k, a, b, c⟩ := posS_onto (show z < posS S n by omega)
        exact ⟨k, by omega, b, c⟩
    · rw [posS, if_neg hs] at h
      obtain ⟨k, a, b, c⟩ := posS_onto h
      exact ⟨k, by omega, b, c⟩
theorem posS_inj {S : Nat → Bool} {j k : Nat} (hj : S j = true) (hk : S k = true) (h : posS S j = posS S k) : j = k := by
  rcases Nat.lt_trichotomy j k with c | c | c
  · have := posS_lt hj c; omega
  · exact c
  · have := posS_lt hk c; omega
/-- How many that stay a jump leads over. -/
def overF (n : Nat) (S : Nat → Bool) (k : Nat) (a : Int) : Nat := posS S (farF n k a) - posS S (k + 1)
def adaptF (n : Nat) (S : Nat → Bool) (p : Nat → Int × Int) (k : Nat) : Int × Int :=
  if (p k).1 = 15 ∨ (p k).1 = 16 then (if (p k).1 = 15 ∧ overF n S k (p k).2 = 0 then (13, 0) else ((p k).1, (overF n S k (p k).2 : Int))) else p k
def trimL (n : Nat) (S : Nat → Bool) (p : Nat → Int × Int) : Nat → List (Int × Int)
  | 0 => []
  | j + 1 => if S j = true then trimL n S p j ++ [adaptF n S p j] else trimL n S p j
theorem trimL_length (n : Nat) (S : Nat → Bool) (p : Nat → Int × Int) : ∀ j, (trimL n S p j).length = posS S j
  | 0 => rfl
  | j + 1 => by
    rw [trimL, posS]
    split
    · rw [List.length_append, trimL_length n S p j]; rfl
    · exact trimL_length n S p j
theorem trimL_get {n : Nat} {S : Nat → Bool} {p : Nat → Int × Int} {k : Nat} (hs : S k = true) : ∀ {j : Nat}, k < j → pF (trimL n S p j) (posS S k) = adaptF n S p k
  | 0, h => absurd h (by omega)
  | j + 1, h => by
    have hl := trimL_length n S p j
    rw [trimL]
    by_cases e : k = j
    · subst e
      rw [if_pos hs]
      unfold pF
      rw [List.getD_eq_getElem?_getD, ← hl, List.getElem?_append_right (Nat.le_refl _)]
      simp
    · have ih := trimL_get (n := n) (p := p) hs (show k < j by omega)
      have hp := posS_lt hs (show k < j by omega)
      split
      · rw [← ih]
        unfold pF
        rw [List.getD_eq_getElem?_getD, List.getD_eq_getElem?_getD, List.getElem?_append_left (by omega)]
      · exact ih
/-- Which instructions stay. -/
def StayOk (n : Nat) (p : Nat → Int × Int) (D : Nat → Int) (S : Nat → Bool) : Prop :=
  ∀ k, k < n → (S k = true ↔ (D k ≠ -1 ∧ ((p k).1 ≠ 16 ∨ 0 < overF n S k (p k).2)))
theorem farF_range {n k : Nat} (hk : k < n) (a : Int) : k + 1 ≤ farF n k a ∧ farF n k a ≤ n := by unfold farF; omega
theorem adapt_takes (n : Nat) (S : Nat → Bool) (p : Nat → Int × Int) (k : Nat) : takesF (adaptF n S p k).1 = takesF (p k).1 ∧ leavesF (adaptF n S p k).1 = leavesF (p k).1 ∧ ((adaptF n S p k).1 = 14 ↔ (p k).1 = 14) := by
  unfold adaptF
  split
  · split
    · rename_i h1 h2
      rw [h2.1]
      exact ⟨by decide, by decide, by decide⟩
    · exact ⟨rfl, rfl, Iff.rfl⟩
  · exact ⟨rfl, rfl, Iff.rfl⟩
theorem far_trim {n : Nat} {S : Nat → Bool} {k : Nat} (hk : k < n) (hS : S k = true) (a : Int) : farF (posS S n) (posS S k) (overF n S k a : Int) = posS S (farF n k a) := by
  obtain ⟨h1, h2⟩ := farF_range hk a
  have a1 := posS_mono (S := S) h1
  have a2 := posS_mono (S := S) h2
  have a3 := posS_yes hS
  show min (posS S k + 1 + (overF n S k a : Int).toNat) (posS S n) = _
  rw [Int.toNat_natCast]
  unfold overF
  omega
theorem nexts_trim {n : Nat} {S : Nat → Bool} {p : Nat → Int × Int} {k : Nat} (hk : k < n) (hS : S k = true) (t' : Nat) : t' ∈ nextsF (posS S n) (posS S k) (adaptF n S p k) ↔ ∃ t, t ∈ nextsF n k (p k) ∧ posS S t = t' := by
  have a3 := posS_yes hS
  have hf := far_trim hk hS (p k).2
  obtain ⟨h1, h2⟩ := farF_range hk (p k).2
  have a1 := posS_mono (S := S) h1
  by_cases c16 : (p k).1 = 16
  · have hA : adaptF n S p k = (16, (overF n S k (p k).2 : Int)) := by unfold adaptF; rw [if_pos (.inr c16), if_neg (by omega), c16]
    rw [hA]
    have e1 : nextsF (posS S n) (posS S k) (16, (overF n S k (p k).2 : Int)) = [posS S (farF n k (p k).2)] := by
      unfold nextsF; rw [if_neg (fun h => absurd (show (16 : Int) = 0 from h) (by decide)), if_pos (show (16 : Int) = 16 from rfl)]; rw [hf]
    have e2 : nextsF n k (p k) = [farF n k (p k).2] := by unfold nextsF; rw [if_neg (by omega), if_pos c16]
    rw [e1, e2]
    simp [eq_comm]
  by_cases c15 : (p k).1 = 15
  · have e2 : nextsF n k (p k) = [k + 1, farF n k (p k).2] := by unfold nextsF; rw [if_neg (by omega), if_neg c16, if_pos c15]
    rw [e2]
    by_cases c0 : overF n S k (p k).2 = 0
    · have hA : adaptF n S p k = (13, 0) := by unfold adaptF; rw [if_pos (.inl c15), if_pos ⟨c15, c0⟩]
      have hq : posS S (farF n k (p k).2) = posS S k + 1 := by unfold overF at c0; omega
      rw [hA]
      have e1 : nextsF (posS S n) (posS S k) (13, 0) = [posS S k + 1] := by unfold nextsF; rfl
      rw [e1]
      simp only [List.mem_cons, List.not_mem_nil, or_false]
      refine ⟨fun h => ⟨k + 1, .inl rfl, by omega⟩, ?_⟩
      rintro ⟨t, rfl | rfl, h⟩
      · omega
      · omega
    · have hA : adaptF n S p k = (15, (overF n S k (p k).2 : Int)) := by unfold adaptF; rw [if_pos (.inl c15), if_neg (fun h => c0 h.2), c15]
      rw [hA]
      have e1 : nextsF (posS S n) (posS S k) (15, (overF n S k (p k).2 : Int)) = [posS S k + 1, posS S (farF n k (p k).2)] := by
        unfold nextsF; rw [if_neg (fun h => absurd (show (15 : Int) = 0 from h) (by decide)), if_neg (fun h => absurd (show (15 : Int) = 16 from h) (by decide)), if_pos (show (15 : Int) = 15 from rfl)]; rw [hf]
      rw [e1]
      simp only [List.mem_cons, List.not_mem_nil, or_false]
      constructor
      · rintro (h | h)
        · exact ⟨k + 1, .inl rfl, by omega⟩
        · exact ⟨_, .inr rfl, h.symm⟩
      · rintro ⟨t, rfl | rfl, h⟩
        · left; omega
        · right; exact h.symm
  · have hA : adaptF n S p k = p k := by unfold adaptF; rw [if_neg (by omega)]
    rw [hA]
    by_cases c0 : (p k).1 = 0
    · unfold nextsF; rw [if_pos c0, if_pos c0]; simp
    · unfold nextsF; rw [if_neg c0, if_neg c16, if_neg c15, if_neg c0, if_neg c16, if_neg c15]
      simp only [List.mem_cons, List.not_mem_nil, or_false]
      refine ⟨fun h => ⟨k + 1, rfl, by omega⟩, ?_⟩
      rintro ⟨t, rfl, h⟩
      omega
/-- A place in what stays. -/
def phiT (S : Nat → Bool) (x : Tri) : Tri := ⟨posS S x.at_, x.d, x.e⟩
section
variable {n : Nat} {p : Nat → Int × Int} {s : CS} {S : Nat → Bool}
theorem succ_trim {x : Tri} (hk : x.at_ < n) (hS : S x.at_ = true) (y' : Tri) : y' ∈ succT (posS S n) (pF (trimL n S p n)) (phiT S x) ↔ ∃ y, y ∈ succT n p x ∧ phiT S y = y' := by
  obtain ⟨t1, t2, t3⟩ := adapt_takes n S p x.at_
  have hg := trimL_get (n := n) (p := p) hS hk
  unfold succT
  show y' ∈ List.map _ (nextsF (posS S n) (posS S x.at_) (pF (trimL n S p n) (posS S x.at_))) ↔ _
  simp only [phiT, hg, t1, t2]
  have t3' : (if (adaptF n S p x.at_).1 = 14 then x.e + 1 else x.e) = if (p x.at_).1 = 14 then x.e + 1 else x.e := by
    by_cases c : (p x.at_).1 = 14
    · rw [if_pos c, if_pos (t3.2 c)]
    · rw [if_neg c, if_neg (fun h => c (t3.1 h))]
  rw [t3']
  simp only [List.mem_map]
  constructor
  · rintro ⟨t', h, rfl⟩
    obtain ⟨t, a, b⟩ := (nexts_trim hk hS t').1 h
    exact ⟨_, ⟨t, a, rfl⟩, by rw [← b]⟩
  · rintro ⟨y, ⟨t, a, rfl⟩, rfl⟩
    exact ⟨posS S t, (nexts_trim hk hS _).2 ⟨t, a, rfl⟩, rfl⟩
theorem dead_jump (hgt : ∀ k, k < n → ∀ t ∈ nextsF n k (p k), k < t) (hs : checkF n p n = some s) (hS : StayOk n p s.D S) {x : Tri} (hx : Reach n p x) (hk : x.at_ < n) (hd : S x.at_ = false) :
    (p x.at_).1 = 16 ∧ posS S (farF n x.at_ (p x.at_).2) = posS S x.at_ := by
  have a := sound hgt hs hx
  have b := (a.in_ hk).1
  have hd0 := a.d
  have h := hS x.at_ hk
  obtain ⟨h1, h2⟩ := farF_range hk (p x.at_).2
  have a1 := posS_mono (S := S) h1
  rw [posS_no hd] at a1
  have hno : ¬ (s.D x.at_ ≠ -1 ∧ ((p x.at_).1 ≠ 16 ∨ 0 < overF n S x.at_ (p x.at_).2)) := fun c => by rw [h.2 c] at hd; cases hd
  have c16 : (p x.at_).1 = 16 := by
    by_cases c : (p x.at_).1 = 16
    · exact c
    · exact absurd ⟨by omega, .inl c⟩ hno
  refine ⟨c16, ?_⟩
  have : ¬ 0 < overF n S x.at_ (p x.at_).2 := fun c => hno ⟨by omega, .inr c⟩
  unfold overF at this
  rw [posS_no hd] at this
  omega
theorem succ_jump {x : Tri} (h : (p x.at_).1 = 16) : succT n p x = [⟨farF n x.at_ (p x.at_).2, x.d, x.e⟩] := by
  have e2 : nextsF n x.at_ (p x.at_) = [farF n x.at_ (p x.at_).2] := by unfold nextsF; rw [if_neg (by omega), if_pos h]
  unfold succT
  rw [e2, List.map_cons, List.map_nil, h, if_neg (by decide)]
  have : x.d - takesF 16 + leavesF 16 = x.d := by rw [show takesF 16 = 0 from rfl, show leavesF 16 = 0 from rfl]; omega
  rw [this]
theorem reach_fwd (hgt : ∀ k, k < n → ∀ t ∈ nextsF n k (p k), k < t) (hs : checkF n p n = some s) (hS : StayOk n p s.D S) {x : Tri} (hx : Reach n p x) : Reach (posS S n) (pF (trimL n S p n)) (phiT S x) := by
  induction hx with
  | start => exact .start
  | @step x y hx hat htk hy ih =>
    cases hb : S x.at_ with
    | true =>
      refine .step ih (posS_lt hb hat) ?_ ((succ_trim hat hb _).2 ⟨y, hy, rfl⟩)
      show takesF (pF (trimL n S p n) (posS S x.at_)).1 ≤ x.d
      rw [trimL_get hb hat, (adapt_takes n S p x.at_).1]
      exact htk
    | false =>
      obtain ⟨h16, hp⟩ := dead_jump hgt hs hS hx hat hb
      rw [succ_jump h16, List.mem_singleton] at hy
      subst hy
      have : phiT S ⟨farF n x.at_ (p x.at_).2, x.d, x.e⟩ = phiT S x := by unfold phiT; simp only [hp]
      rw [this]
      exact ih
theorem reach_follow (hgt : ∀ k, k < n → ∀ t ∈ nextsF n k (p k), k < t) (hs : checkF n p n = some s) (hS : StayOk n p s.D S) : ∀ (f : Nat) {x : Tri}, n - x.at_ ≤ f → Reach n p x → ∃ x', Reach n p x' ∧ phiT S x' = phiT S x ∧ (x'.at_ = n ∨ (x'.at_ < n ∧ S x'.at_ = true))
  | 0, x, hf, hx => ⟨x, hx, rfl, .inl (by have := (sound hgt hs hx).at_; omega)⟩
  | f + 1, x, hf, hx => by
    have hle := (sound hgt hs hx).at_
    by_cases hn : x.at_ = n
    · exact ⟨x, hx, rfl, .inl hn⟩
    have hat : x.at_ < n := by omega
    cases hb : S x.at_ with
    | true => exact ⟨x, hx, rfl, .inr ⟨hat, hb⟩⟩
    | false =>
      obtain ⟨h16, hp⟩ := dead_jump hgt hs hS hx hat hb
      have a := (sound hgt hs hx).in_ hat
      have hy : Reach n p ⟨farF n x.at_ (p x.at_).2, x.d, x.e⟩ := .step hx hat a.2.2 (by rw [succ_jump h16]; exact List.mem_singleton.2 rfl)
      obtain ⟨x', h1, h2, h3⟩ := reach_follow hgt hs hS f (x := ⟨farF n x.at_ (p x.at_).2, x.d, x.e⟩) (by have := (farF_range hat (p x.at_).2).1; show n - farF n x.at_ (p x.at_).2 ≤ f; omega) hy
      refine ⟨x', h1, h2.trans ?_, h3⟩
      unfold phiT; simp only [hp]
theorem reach_back (hgt : ∀ k, k < n → ∀ t ∈ nextsF n k (p k), k < t) (hs : checkF n p n = some s) (hS : StayOk n p s.D S) {z : Tri} (hz : Reach (posS S n) (pF (trimL n S p n)) z) :
    ∃ x, Reach n p x ∧ phiT S x = z ∧ (x.at_ = n ∨ (x.at_ < n ∧ S x.at_ = true)) := by
  induction hz with
  | start => exact reach_follow hgt hs hS n (x := ⟨0, 0, 0⟩) (by omega) .start
  | @step z y _ hat htk hy ih =>
    obtain ⟨x, h1, rfl, h3⟩ := ih
    rcases h3 with h3 | ⟨h3, h4⟩
    · exact absurd hat (by show ¬ posS S x.at_ < posS S n; rw [h3]; omega)
    · obtain ⟨y', a, rfl⟩ := (succ_trim h3 h4 y).1 hy
      have hr : Reach n p y' := .step h1 h3 (by
        have : takesF (pF (trimL n S p n) (posS S x.at_)).1 ≤ x.d := htk
        rwa [trimL_get h4 h3, (adapt_takes n S p x.at_).1] at this) a
      exact reach_follow hgt hs hS (n - y'.at_) (Nat.le_refl _) hr
theorem trim_gt (hgt : ∀ k, k < n → ∀ t ∈ nextsF n k (p k), k < t) : ∀ k, k < posS S n → ∀ t ∈ nextsF (posS S n) k (pF (trimL n S p n) k), k < t := by
  intro z hz t ht
  obtain ⟨k, h1, h2, rfl⟩ := posS_onto hz
  rw [trimL_get h2 h1] at ht
  obtain ⟨t0, a, rfl⟩ := (nexts_trim h1 h2 t).1 ht
  exact posS_lt h2 (hgt k h1 t0 a)
/-- What is trimmed is safe; it has no instruction that can't be come to; the same cells, and as many emits. -/
theorem trim_law (hgt : ∀ k, k < n → ∀ t ∈ nextsF n k (p k), k < t) (hs : checkF n p n = some s) (hS : StayOk n p s.D S) :
    ∃ s', checkF (posS S n) (pF (trimL n S p n)) (posS S n) = some s' ∧ s'.em = s.em ∧ s'.u0 = s.u0 ∧ s'.u1 = s.u1 ∧ ∀ k, k < posS S n → 0 ≤ s'.D k := by
  have F := fun {x : Tri} (hx : Reach n p x) => reach_fwd hgt hs hS hx
  have Bk := fun {z : Tri} (hz : Reach (posS S n) (pF (trimL n S p n)) z) => reach_back hgt hs hS hz
  have gq := trim_gt (S := S) hgt
  obtain ⟨c1, c2⟩ := check_comp (n := n) (p := p) (Nat.le_refl n)
  obtain ⟨d1, d2⟩ := check_comp (n := posS S n) (p := pF (trimL n S p n)) (Nat.le_refl _)
  have C := c2 s hs
  have So := fun {x : Tri} (hx : Reach n p x) => sound hgt hs hx
  cases hc : checkF (posS S n) (pF (trimL n S p n)) (posS S n) with
  | none =>
    exfalso
    rcases d1 hc with ⟨z, hz, hb⟩ | ⟨z, y, hz, hy, e, hn, hne⟩
    · obtain ⟨x, h1, rfl, h3⟩ := Bk hz
      have a := So h1
      rcases hb with hb | hb | ⟨hb1, hb2⟩
      · have : x.d ≤ 8 := a.d.2
        have : 8 < x.d := hb
        omega
      · have : x.e ≤ 4 := a.e.2
        have : 4 < x.e := hb
        omega
      · rcases h3 with h3 | ⟨h3, h4⟩
        · exact absurd hb1 (by show ¬ posS S x.at_ < posS S n; rw [h3]; omega)
        · have h5 : x.d < takesF (pF (trimL n S p n) (posS S x.at_)).1 := hb2
          rw [trimL_get h4 h3, (adapt_takes n S p x.at_).1] at h5
          have := (a.in_ h3).2.2
          omega
    · obtain ⟨x, h1, rfl, h3⟩ := Bk hz
      obtain ⟨x2, g1, rfl, g3⟩ := Bk hy
      have e' : posS S x.at_ = posS S x2.at_ := e
      have hn' : posS S x.at_ < posS S n := hn
      have hne' : x.d ≠ x2.d := hne
      rcases h3 with h3 | ⟨h3, h4⟩
      · rw [h3] at hn'; omega
      · rcases g3 with g3 | ⟨g3, g4⟩
        · rw [e', g3] at hn'; omega
        · have := posS_inj h4 g4 e'
          have a := ((So h1).in_ h3).1
          have b := ((So g1).in_ g3).1
          rw [this] at a
          omega
  | some s' =>
    have C' := d2 s' hc
    have So' := fun {z : Tri} (hz : Reach (posS S n) (pF (trimL n S p n)) z) => sound gq hc hz
    obtain ⟨v0, v1⟩ := check_u (Nat.le_refl n) hs
    obtain ⟨v0', v1'⟩ := check_u (Nat.le_refl _) hc
    have hD : ∀ k, k < n → S k = true → s'.D (posS S k) = s.D k ∧ s.D k ≠ -1 := by
      intro k hk hk2
      have h := ((hS k hk).1 hk2).1
      have a := F (C.d k h)
      exact ⟨((So' a).in_ (posS_lt hk2 hk)).1, h⟩
    have use : ∀ k z, k < n → usesAt (p k) z → s.D k ≠ -1 → S k = true ∧ usesAt (adaptF n S p k) z := by
      intro k z hk hu hd
      have h45 := hu.1
      refine ⟨(hS k hk).2 ⟨hd, .inl (by omega)⟩, ?_⟩
      unfold adaptF; rw [if_neg (by omega)]; exact hu
    have use' : ∀ k z, usesAt (adaptF n S p k) z → usesAt (p k) z := by
      intro k z hu
      have h45 := hu.1
      unfold adaptF at hu h45
      split at hu
      · rename_i h1
        split at hu
        · rename_i h2
          rw [if_pos h1, if_pos h2] at h45
          rcases h45 with h | h <;> cases h
        · rename_i h2
          rw [if_pos h1, if_neg h2] at h45
          simp only at h45
          omega
      · exact hu
    have inv := checkF_inv (Nat.le_refl _) hs
    refine ⟨s', rfl, ?_, ?_, ?_, ?_⟩
    · obtain ⟨x, h1, h2⟩ := C.em
      obtain ⟨z, g1, g2⟩ := C'.em
      obtain ⟨x2, k1, rfl, _⟩ := Bk g1
      have a : x.e ≤ s'.em := (So' (F h1)).em
      have b := (So k1).em
      have g2' : x2.e = s'.em := g2
      omega
    · rw [Bool.eq_iff_iff]
      constructor
      · intro h
        obtain ⟨z, z1, z2, z3⟩ := v0' h
        obtain ⟨k, k1, k2, rfl⟩ := posS_onto z1
        rw [trimL_get k2 k1] at z3
        exact (check_u' hgt hs k1 (hD k k1 k2).2).1 (use' k _ z3)
      · intro h
        obtain ⟨k, k1, k2, k3⟩ := v0 h
        obtain ⟨u1, u2⟩ := use k _ k1 k3 k2
        refine (check_u' gq hc (posS_lt u1 k1) ?_).1 (by rw [trimL_get u1 k1]; exact u2)
        rw [(hD k k1 u1).1]; exact k2
    · rw [Bool.eq_iff_iff]
      constructor
      · intro h
        obtain ⟨z, z1, z2, z3⟩ := v1' h
        obtain ⟨k, k1, k2, rfl⟩ := posS_onto z1
        rw [trimL_get k2 k1] at z3
        exact (check_u' hgt hs k1 (hD k k1 k2).2).2 (use' k _ z3)
      · intro h
        obtain ⟨k, k1, k2, k3⟩ := v1 h
        obtain ⟨u1, u2⟩ := use k _ k1 k3 k2
        refine (check_u' gq hc (posS_lt u1 k1) ?_).2 (by rw [trimL_get u1 k1]; exact u2)
        rw [(hD k k1 u1).1]; exact k2
    · intro z hz
      obtain ⟨k, k1, k2, rfl⟩ := posS_onto hz
      obtain ⟨a, b⟩ := hD k k1 k2
      have := (inv.d k).1
      rw [a]; omega
/-- What was trimmed is right. -/
theorem trim_right (hr : ∀ k, k < n → rightB (p k) = true) (hn : n ≤ 24) (hS : ∀ k, k < n → S k = true → (p k).1 = 16 → 0 < overF n S k (p k).2) : ∀ x ∈ trimL n S p n, rightB x = true := by
  have key : ∀ j, j ≤ n → ∀ x ∈ trimL n S p j, rightB x = true := by
    intro j
    induction j with
    | zero => intro _ x hx; cases hx
    | succ j ih =>
      intro hj x hx
      rw [trimL] at hx
      split at hx
      · rename_i hs
        rcases List.mem_append.1 hx with hx | hx
        · exact ih (by omega) x hx
        · rw [List.mem_singleton.1 hx]
          unfold adaptF
          have h2 : overF n S j (p j).2 ≤ 24 := by
            have := (farF_range (show j < n by omega) (p j).2).2
            have := posS_le S (farF n j (p j).2)
            unfold overF; omega
          split
          · rename_i h1
            split
            · decide
            · rename_i h3
              have h4 : 0 < overF n S j (p j).2 := by
                rcases h1 with h1 | h1
                · rcases Nat.eq_zero_or_pos (overF n S j (p j).2) with c | c
                  · exact absurd ⟨h1, c⟩ h3
                  · exact c
                · exact hS j (by omega) hs h1
              unfold rightB boF boT
              have e1 : ¬ ((p j).1 = 1 ∨ (p j).1 = 2) := by omega
              have e2 : ¬ ((p j).1 = 4 ∨ (p j).1 = 5) := by omega
              simp only [if_neg e1, if_neg e2, if_pos h1]
              rw [decide_eq_true_eq]
              omega
          · exact hr j (by omega)
      · exact ih (by omega) x hx
  exact key n (Nat.le_refl _)
theorem posS_all {S : Nat → Bool} {a : Nat} : ∀ {b : Nat}, a ≤ b → (∀ j, a ≤ j → j < b → S j = true) → posS S b = posS S a + (b - a)
  | 0, h, _ => by obtain rfl : a = 0 := by omega
                  simp
  | b + 1, h, hs => by
    by_cases e : a = b + 1
    · subst e; simp
    · rw [posS_yes (hs b (by omega) (by omega)), posS_all (show a ≤ b by omega) (fun j h1 h2 => hs j h1 (by omega))]
      omega
/-- Of what was trimmed all stays. -/
theorem stay_all {D : Nat → Int} (hD : ∀ k, k < n → 0 ≤ D k) (hj : ∀ k, k < n → (p k).1 = 16 → 1 ≤ (p k).2 ∧ k + 1 + (p k).2.toNat ≤ n) (hS : StayOk n p D S) : ∀ k, k < n → S k = true := by
  have key : ∀ f k, k < n → n - k ≤ f → S k = true := by
    intro f
    induction f with
    | zero => intro k hk hf; omega
    | succ f ih =>
      intro k hk hf
      refine (hS k hk).2 ⟨by have := hD k hk; omega, ?_⟩
      by_cases c : (p k).1 = 16
      · right
        obtain ⟨h1, h4⟩ := hj k hk c
        obtain ⟨h2, h3⟩ := farF_range hk (p k).2
        unfold overF
        rw [posS_all (a := k + 1) h2 (fun j a b => ih j (by omega) (by omega))]
        have : k + 1 < farF n k (p k).2 := by unfold farF; omega
        omega
      · exact .inl c
  exact fun k hk => key n k hk (by omega)
/-- What was trimmed leads nowhere beyond, and over something. -/
theorem trim_jumps (hS : ∀ k, k < n → S k = true → (p k).1 = 16 → 0 < overF n S k (p k).2) : ∀ z, z < posS S n → (pF (trimL n S p n) z).1 = 15 ∨ (pF (trimL n S p n) z).1 = 16 → 1 ≤ (pF (trimL n S p n) z).2 ∧ z + 1 + (pF (trimL n S p n) z).2.toNat ≤ posS S n := by
  intro z hz h
  obtain ⟨k, k1, k2, rfl⟩ := posS_onto hz
  rw [trimL_get k2 k1] at h ⊢
  have a1 := posS_mono (S := S) (farF_range k1 (p k).2).1
  have a2 := posS_mono (S := S) (farF_range k1 (p k).2).2
  have a3 := posS_yes k2
  unfold adaptF at h ⊢
  split at h
  · rename_i h1
    rw [if_pos h1]
    split at h
    · rcases h with h | h <;> cases h
    · rename_i h3
      rw [if_neg h3]
      have h4 : 0 < overF n S k (p k).2 := by
        rcases h1 with h1 | h1
        · rcases Nat.eq_zero_or_pos (overF n S k (p k).2) with c | c
          · exact absurd ⟨h1, c⟩ h3
          · exact c
        · exact hS k k1 k2 h1
      refine ⟨by show (1 : Int) ≤ (overF n S k (p k).2 : Int); omega, ?_⟩
      show posS S k + 1 + (overF n S k (p k).2 : Int).toNat ≤ _
      rw [Int.toNat_natCast]
      unfold overF; omega
  · rename_i h1; exact absurd h h1
/-- Trimmed again it is the same. -/
theorem trim_same (hS : ∀ k, k < n → S k = true) (hj : ∀ k, k < n → (p k).1 = 15 ∨ (p k).1 = 16 → 1 ≤ (p k).2 ∧ k + 1 + (p k).2.toNat ≤ n) : ∀ k, k < n → posS S k = k ∧ adaptF n S p k = p k := by
  intro k hk
  have hp : ∀ j, j ≤ n → posS S j = j := by
    intro j hjn
    have := posS_all (S := S) (a := 0) (Nat.zero_le j) (fun i _ h => hS i (by omega))
    simpa [posS] using this
  refine ⟨hp k (by omega), ?_⟩
  unfold adaptF
  split
  · rename_i h1
    obtain ⟨h2, h3⟩ := hj k hk h1
    have h4 : overF n S k (p k).2 = (p k).2.toNat := by
      obtain ⟨a, b⟩ := farF_range hk (p k).2
      unfold overF
      rw [hp _ b, hp _ (by omega)]
      unfold farF; omega
    rw [if_neg (by rw [h4]; omega), h4]
    have : (((p k).2.toNat : Nat) : Int) = (p k).2 := by omega
    rw [this]
  · rfl
end
/-- The lists: what the law wants of a program and what was trimmed of it. -/
theorem trim_list {l : List (Int × Int)} {s : CS} {S : Nat → Bool} (h : chkL l = some s) (hS : StayOk l.length (pF l) s.D S) :
    ∃ s', chkL (trimL l.length S (pF l) l.length) = some s' ∧ s'.em = s.em ∧ s'.u0 = s.u0 ∧ s'.u1 = s.u1 ∧ (trimL l.length S (pF l) l.length).length ≤ l.length ∧
      (∀ k, k < (trimL l.length S (pF l) l.length).length → 0 ≤ s'.D k) ∧
      ∀ S', StayOk (trimL l.length S (pF l) l.length).length (pF (trimL l.length S (pF l) l.length)) s'.D S' →
        trimL (trimL l.length S (pF l) l.length).length S' (pF (trimL l.length S (pF l) l.length)) (trimL l.length S (pF l) l.length).length = trimL l.length S (pF l) l.length := by
  obtain ⟨hf, hc⟩ := chkL_some h
  obtain ⟨hn, hr⟩ := fitsB_iff.1 hf
  have hrk : ∀ k, k < l.length → rightB (pF l k) = true := by
    intro k hk
    refine hr _ ?_
    rw [pF, List.getD_eq_getElem?_getD, List.getElem?_eq_getElem hk]
    exact List.getElem_mem hk
  have hgt : ∀ k, k < l.length → ∀ t ∈ nextsF l.length k (pF l k), k < t := fun k hk t ht => (nextsF_gt hk (hrk k hk) t ht).1
  have hS16 : ∀ k, k < l.length → S k = true → (pF l k).1 = 16 → 0 < overF l.length S k (pF l k).2 := by
    intro k hk hs h16
    rcases ((hS k hk).1 hs).2 with c | c
    · exact absurd h16 c
    · exact c
  obtain ⟨s', a, b, c, d, e⟩ := trim_law hgt hc hS
  have hR := trim_right hrk hn hS16
  have hJ := trim_jumps hS16
  have hl := trimL_length l.length S (pF l) l.length
  have hle := posS_le S l.length
  generalize trimL l.length S (pF l) l.length = q at *
  rw [← hl] at a e hJ hle
  refine ⟨s', chkL_mk (fitsB_iff.2 ⟨by omega, hR⟩) a, b, c, d, by omega, e, fun S' hS' => ?_⟩
  have hall := stay_all e (fun k hk h => hJ k hk (.inr h)) hS'
  have hsame := trim_same hall hJ
  have hk : ∀ j, j ≤ q.length → trimL q.length S' (pF q) j = q.take j := by
    intro j
    induction j with
    | zero => intro _; rfl
    | succ j ih =>
      intro hj
      rw [trimL, if_pos (hall j (by omega)), ih (by omega), (hsame j (by omega)).2, List.take_succ_eq_append_getElem (show j < q.length by omega)]
      congr 2
      rw [pF, List.getD_eq_getElem?_getD, List.getElem?_eq_getElem (by omega)]
      rfl
  rw [hk _ (Nat.le_refl _), List.take_length]
end Go.Proofs.Ytndjgjnnoknblaa
