/- The plain law of dealing out by weight: what the insertion leaves, what the deal does, what the document picks. No program in sight. -/
import Derived.Test.YtkgllkoooohikaaByWeight
namespace Go.Proofs.Ytkgllkoooohikaa
/-- Where an entry stands behind an exchange. -/
theorem swp_get (xs : List Int) (j k : Nat) (hj : 0 < j) (hl : j < xs.length) : (swp xs j).getD k 0 = if k = j then xs.getD (j - 1) 0 else if k = j - 1 then xs.getD j 0 else xs.getD k 0 := by
  unfold swp
  by_cases h1 : k = j - 1
  · subst h1
    have : j - 1 ≠ j := by omega
    rw [if_neg this, if_pos rfl, List.getD_eq_getElem?_getD, List.getElem?_set_self (by rw [List.length_set]; omega)]
    rfl
  · rw [List.getD_eq_getElem?_getD, List.getElem?_set_ne (by omega)]
    by_cases h2 : k = j
    · subst h2
      rw [if_pos rfl, List.getElem?_set_self hl]
      rfl
    · rw [if_neg h2, if_neg h1, List.getElem?_set_ne (by omega), ← List.getD_eq_getElem?_getD]
/-- One group stands ahead of another: heavier, or as heavy and with the lesser number. -/
def ahead (V : Int → Int) (a b : Int) : Prop := V b < V a ∨ (V a = V b ∧ a < b)
/-- What holds of each state of the insertion over 0 .. 7. -/
structure StInv (V : Int → Int) (i j : Nat) (P : Nat → Int) : Prop where
  ji : j ≤ i
  at_ : i < 8 → P j = i
  rest : ∀ k, i < k → k < 8 → P k = k
  small : ∀ k, k ≤ i → k < 8 → k ≠ j → 0 ≤ P k ∧ P k < i
  ord : ∀ a b, a < b → b ≤ i → b < 8 → a ≠ j → b ≠ j → ahead V (P a) (P b)
  tail : ∀ b, j < b → b ≤ i → b < 8 → ahead V (P j) (P b)
  top : i ≤ 8 → 8 ≤ i → j = 8
  pos : 1 ≤ i
theorem ahead_trans {V : Int → Int} {a b c : Int} (h1 : ahead V a b) (h2 : ahead V b c) : ahead V a c := by
  unfold ahead at *
  omega
theorem get_07 (k : Nat) (hk : k < 8) : ([0, 1, 2, 3, 4, 5, 6, 7] : List Int).getD k 0 = k := by
  match k, hk with
  | 0, _ | 1, _ | 2, _ | 3, _ | 4, _ | 5, _ | 6, _ | 7, _ => rfl
theorem St.inv {c : Int → Int → Int} {V : Int → Int} (hc : ∀ a b, c a b = V b - V a) {i j : Nat} {xs : List Int} (h : St c [0, 1, 2, 3, 4, 5, 6, 7] i j xs) (hi : i ≤ 8) : StInv V i j (fun k => xs.getD k 0) := by
  induction h with
  | start =>
    refine ⟨Nat.le_refl _, fun _ => rfl, fun k _ hk => get_07 k hk, fun k h1 h2 h3 => ?_, fun a b h1 h2 h3 h4 h5 => by omega, fun b h1 h2 _ => by omega, fun _ _ => by omega, by omega⟩
    have : k = 0 := by omega
    subst this
    exact ⟨by decide, by decide⟩
  | @swap i j xs hs h0 hl hlt ih =>
    have I := ih hi
    have L := hs.len
    have hi8 : i < 8 := by
      rcases Nat.lt_or_ge i 8 with h | h
      · exact h
      · have := I.top hi h; simp at L; omega
    have hji := I.ji
    rw [hc] at hlt
    have hat : xs.getD j 0 = i := I.at_ hi8
    have hj1 : 0 ≤ xs.getD (j - 1) 0 ∧ xs.getD (j - 1) 0 < i := I.small (j - 1) (by omega) (by omega) (by omega)
    refine ⟨by omega, fun _ => ?_, fun k h1 h2 => ?_, fun k h1 h2 h3 => ?_, fun a b h1 h2 h3 h4 h5 => ?_, fun b h1 h2 h3 => ?_, fun _ _ => by omega, I.pos⟩
    · simp only [swp_get xs j _ h0 hl]
      rw [if_neg (by omega), if_pos trivial]; exact hat
    · simp only [swp_get xs j _ h0 hl]
      rw [if_neg (by omega), if_neg (by omega)]; exact I.rest k h1 h2
    · simp only [swp_get xs j _ h0 hl]
      by_cases hk : k = j
      · rw [if_pos hk]; exact hj1
      · rw [if_neg hk, if_neg h3]; exact I.small k h1 h2 hk
    · simp only [swp_get xs j _ h0 hl]
      by_cases ha : a = j
      · rw [if_pos ha, if_neg (by omega), if_neg h5]; exact I.ord (j - 1) b (by omega) h2 h3 (by omega) (by omega)
      · rw [if_neg ha, if_neg h4]
        by_cases hb : b = j
        · rw [if_pos hb]; exact I.ord a (j - 1) (by omega) (by omega) (by omega) ha (by omega)
        · rw [if_neg hb, if_neg h5]; exact I.ord a b h1 h2 h3 ha hb
    · simp only [swp_get xs j _ h0 hl]
      rw [if_neg (show j - 1 ≠ j by omega), if_pos trivial]
      by_cases hb : b = j
      · rw [if_pos hb]; exact .inl (by omega)
      · rw [if_neg hb, if_neg (by omega)]; exact I.tail b (by omega) h2 h3
  | @next i j xs hs hcond ih =>
    have I := ih (by omega)
    have hji := I.ji
    have hord : ∀ a b, a < b → b ≤ i → b < 8 → ahead V (xs.getD a 0) (xs.getD b 0) := by
      intro a b h1 h2 h3
      by_cases ha : a = j
      · subst ha; exact I.tail b h1 h2 h3
      · by_cases hb : b = j
        · subst hb
          rcases hcond with h | h
          · omega
          · rw [hc] at h
            have hat : xs.getD b 0 = i := I.at_ (by omega)
            have hj1 : 0 ≤ xs.getD (b - 1) 0 ∧ xs.getD (b - 1) 0 < i := I.small (b - 1) (by omega) (by omega) (by omega)
            have hlast : ahead V (xs.getD (b - 1) 0) (xs.getD b 0) := by unfold ahead; omega
            by_cases he : a = b - 1
            · subst he; exact hlast
            · exact ahead_trans (I.ord a (b - 1) (by omega) (by omega) (by omega) ha (by omega)) hlast
        · exact I.ord a b h1 h2 h3 ha hb
    refine ⟨Nat.le_refl _, fun h => I.rest (i + 1) (by omega) h, fun k h1 h2 => I.rest k (by omega) h2, fun k h1 h2 h3 => ?_, fun a b h1 h2 h3 h4 h5 => hord a b h1 (by omega) h3, fun b h1 h2 _ => by omega, fun _ _ => by omega, by omega⟩
    by_cases hk : k = j
    · subst hk
      have : xs.getD k 0 = i := I.at_ (by omega)
      show 0 ≤ xs.getD k 0 ∧ _
      omega
    · have := I.small k (by omega) h2 hk
      show 0 ≤ xs.getD k 0 ∧ _
      have : 0 ≤ xs.getD k 0 ∧ xs.getD k 0 < i := this
      omega
/-- The end of the insertion: a strictly rising row of 0 .. 7. -/
structure Deck (V : Int → Int) (xs : List Int) : Prop where
  len : xs.length = 8
  range : ∀ k, k < 8 → 0 ≤ xs.getD k 0 ∧ xs.getD k 0 < 8
  ord : ∀ a b, a < b → b < 8 → ahead V (xs.getD a 0) (xs.getD b 0)
theorem St.deck {c : Int → Int → Int} {V : Int → Int} (hc : ∀ a b, c a b = V b - V a) {j : Nat} {xs : List Int} (h : St c [0, 1, 2, 3, 4, 5, 6, 7] 8 j xs) : Deck V xs := by
  have I := h.inv hc (Nat.le_refl _)
  have hj := I.top (Nat.le_refl _) (Nat.le_refl _)
  exact ⟨h.len, fun k hk => I.small k (by omega) hk (by omega), fun a b h1 h2 => I.ord a b h1 (by omega) h2 (by omega) (by omega)⟩
theorem St.onto {c : Int → Int → Int} {i j : Nat} {xs : List Int} (h : St c [0, 1, 2, 3, 4, 5, 6, 7] i j xs) (g : Nat) (hg : g < 8) : ∃ k, k < 8 ∧ xs.getD k 0 = g := by
  induction h with
  | start => exact ⟨g, hg, get_07 g hg⟩
  | @swap i j xs hs h0 hl hlt ih =>
    obtain ⟨k, hk, e⟩ := ih
    have L := hs.len
    have L8 : xs.length = 8 := L
    by_cases h1 : k = j
    · exact ⟨j - 1, by omega, by rw [swp_get xs j _ h0 hl, if_neg (by omega), if_pos rfl, ← h1]; exact e⟩
    · by_cases h2 : k = j - 1
      · exact ⟨j, by omega, by rw [swp_get xs j _ h0 hl, if_pos rfl, ← h2]; exact e⟩
      · exact ⟨k, hk, by rw [swp_get xs j _ h0 hl, if_neg h1, if_neg h2]; exact e⟩
  | next _ _ ih => exact ih
/-- The first task of the least load among the first p. -/
def leastP (h : Nat → Int) : Nat → Nat
  | 0 => 0
  | t + 1 => if h t < h (leastP h t) then t else leastP h t
theorem leastP_lt (h : Nat → Int) (p : Nat) (hp : 0 < p) : leastP h p < p := by
  induction p with
  | zero => omega
  | succ t ih =>
    unfold leastP
    split
    · omega
    · rcases Nat.eq_zero_or_pos t with h0 | h0
      · subst h0; unfold leastP; omega
      · have := ih h0; omega
theorem leastP_le (h : Nat → Int) (p u : Nat) (hu : u < p) : h (leastP h p) ≤ h u := by
  induction p with
  | zero => omega
  | succ t ih =>
    unfold leastP
    by_cases hc : h t < h (leastP h t)
    · rw [if_pos hc]
      by_cases he : u = t
      · subst he; exact Int.le_refl _
      · have := ih (by omega); omega
    · rw [if_neg hc]
      by_cases he : u = t
      · subst he; omega
      · exact ih (by omega)
/-- One entry changed. -/
def upd {α : Type} (f : Nat → α) (i : Nat) (v : α) : Nat → α := fun j => if j = i then v else f j
/-- Which groups are dealt, whose they are, what each task has, behind k steps. -/
structure Deal where
  r : Nat → Int
  d : Nat → Bool
  h : Nat → Int
def dealStep (p : Nat) (W : Nat → Int) (g : Nat) (s : Deal) : Deal := ⟨upd s.r g (leastP s.h p), upd s.d g true, upd s.h (leastP s.h p) (s.h (leastP s.h p) + W g)⟩
def dealS (p : Nat) (W : Nat → Int) (P : Nat → Nat) : Nat → Deal
  | 0 => ⟨fun _ => 0, fun _ => false, fun _ => 0⟩
  | k + 1 => dealStep p W (P k) (dealS p W P k)
def sum8 (f : Nat → Int) : Int := f 0 + f 1 + f 2 + f 3 + f 4 + f 5 + f 6 + f 7
theorem sum8_change (f f' : Nat → Int) (g : Nat) (hg : g < 8) (h : ∀ j, j < 8 → j ≠ g → f' j = f j) : sum8 f' = sum8 f + (f' g - f g) := by
  unfold sum8
  have a0 := h 0 (by omega)
  have a1 := h 1 (by omega)
  have a2 := h 2 (by omega)
  have a3 := h 3 (by omega)
  have a4 := h 4 (by omega)
  have a5 := h 5 (by omega)
  have a6 := h 6 (by omega)
  have a7 := h 7 (by omega)
  match g, hg with
  | 0, _ | 1, _ | 2, _ | 3, _ | 4, _ | 5, _ | 6, _ | 7, _ => simp at a0 a1 a2 a3 a4 a5 a6 a7; omega
theorem sum8_congr (f f' : Nat → Int) (h : ∀ j, j < 8 → f' j = f j) : sum8 f' = sum8 f := by
  unfold sum8
  rw [h 0 (by omega), h 1 (by omega), h 2 (by omega), h 3 (by omega), h 4 (by omega), h 5 (by omega), h 6 (by omega), h 7 (by omega)]
structure DealInv (p : Nat) (W : Nat → Int) (P : Nat → Nat) (k : Nat) (s : Deal) : Prop where
  d1 : ∀ g, s.d g = true ↔ ∃ i, i < k ∧ P i = g
  r1 : ∀ g, 0 ≤ s.r g ∧ s.r g < p
  h1 : ∀ t : Nat, s.h t = sum8 (fun g => if s.d g = true ∧ s.r g = t then W g else 0)
  h2 : ∀ t, p ≤ t → s.h t = 0
  h3 : ∀ t u, t < p → u < p → s.h t ≤ s.h u ∨ ∃ g, g < 8 ∧ s.d g = true ∧ s.r g = t ∧ s.h t ≤ s.h u + W g
  h4 : ∀ t, 0 ≤ s.h t ∧ s.h t ≤ k * 1048576
theorem dealS_inv (p : Nat) (hp : 0 < p) (W : Nat → Int) (hW : ∀ g, 0 ≤ W g ∧ W g ≤ 1048576) (P : Nat → Nat) (hP : ∀ a b, a < b → b < 8 → P a ≠ P b) (hP8 : ∀ a, a < 8 → P a < 8) (k : Nat) (hk : k ≤ 8) : DealInv p W P k (dealS p W P k) := by
  induction k with
  | zero =>
    refine ⟨fun g => ⟨fun h => (nomatch h), fun ⟨i, h, _⟩ => by omega⟩, fun g => ⟨Int.le_refl _, by show (0 : Int) < p; omega⟩, fun t => ?_, fun _ _ => rfl, fun t u _ _ => .inl (Int.le_refl _), fun t => ⟨Int.le_refl _, by show (0 : Int) ≤ _; omega⟩⟩
    rfl
  | succ k ih =>
    have I := ih (by omega)
    have hnew : (dealS p W P k).d (P k) = false := by
      cases h : (dealS p W P k).d (P k)
      · rfl
      · obtain ⟨i, hi, e⟩ := (I.d1 _).1 h
        exact absurd e (hP i k hi (by omega))
    show DealInv p W P (k + 1) (dealStep p W (P k) (dealS p W P k))
    generalize dealS p W P k = s at *
    have hg8 := hP8 k (by omega)
    obtain ⟨g, hg⟩ : ∃ g, g = P k := ⟨_, rfl⟩
    rw [← hg] at hg8 hnew ⊢
    obtain ⟨t0, ht0⟩ : ∃ t, t = leastP s.h p := ⟨_, rfl⟩
    have hlt := leastP_lt s.h p hp
    have hle := leastP_le s.h p
    unfold dealStep
    rw [← ht0] at hlt hle ⊢
    have hw := hW g
    refine ⟨fun g' => ?_, fun g' => ?_, fun t => ?_, fun t ht => ?_, fun t u ht hu => ?_, fun t => ?_⟩
    · show upd s.d g true g' = true ↔ _
      unfold upd
      by_cases h1 : g' = g
      · rw [if_pos h1]; exact ⟨fun _ => ⟨k, by omega, by rw [h1, hg]⟩, fun _ => rfl⟩
      · rw [if_neg h1, I.d1 g']
        constructor
        · rintro ⟨i, hi, e⟩; exact ⟨i, by omega, e⟩
        · rintro ⟨i, hi, e⟩
          refine ⟨i, ?_, e⟩
          by_cases h2 : i = k
          · subst h2; rw [← hg] at e; exact absurd e.symm h1
          · omega
    · show 0 ≤ upd s.r g _ g' ∧ upd s.r g _ g' < p
      unfold upd
      by_cases h1 : g' = g
      · rw [if_pos h1]; omega
      · rw [if_neg h1]; exact I.r1 g'
    · show upd s.h t0 _ t = sum8 fun g' => if upd s.d g true g' = true ∧ upd s.r g _ g' = t then W g' else 0
      rw [sum8_change (fun g => if s.d g = true ∧ s.r g = t then W g else 0) _ g hg8 (fun j _ hj => by simp only [upd, if_neg hj])]
      rw [← I.h1 t]
      simp only [upd, if_pos trivial, hnew]
      by_cases h1 : t = t0
      · subst h1; simp
      · rw [if_neg h1]
        have : ¬ (t0 : Int) = t := by omega
        simp [this]
    · show upd s.h t0 _ t = 0
      unfold upd
      rw [if_neg (by omega)]; exact I.h2 t ht
    · show upd s.h t0 _ t ≤ upd s.h t0 _ u ∨ ∃ g', g' < 8 ∧ upd s.d g true g' = true ∧ upd s.r g _ g' = t ∧ upd s.h t0 _ t ≤ upd s.h t0 _ u + W g'
      have hinc : s.h u ≤ upd s.h t0 (s.h t0 + W g) u := by
        unfold upd; split
        · rename_i e; rw [e]; omega
        · exact Int.le_refl _
      by_cases h1 : t = t0
      · refine .inr ⟨g, hg8, by unfold upd; rw [if_pos rfl], by unfold upd; rw [if_pos rfl, h1], ?_⟩
        have := hle u hu
        have e : upd s.h t0 (s.h t0 + W g) t = s.h t0 + W g := by unfold upd; rw [if_pos h1]
        rw [e]; omega
      · have e : upd s.h t0 (s.h t0 + W g) t = s.h t := by unfold upd; rw [if_neg h1]
        rw [e]
        rcases I.h3 t u ht hu with h | ⟨g', a, b, c, d⟩
        · exact .inl (by omega)
        · refine .inr ⟨g', a, ?_, ?_, by omega⟩
          · unfold upd; split
            · rfl
            · exact b
          · have hne : g' ≠ g := by rintro rfl; rw [hnew] at b; cases b
            unfold upd; rw [if_neg hne]; exact c
    · show 0 ≤ upd s.h t0 _ t ∧ upd s.h t0 _ t ≤ _
      have a := I.h4 t
      have b := I.h4 t0
      unfold upd; split
      · constructor
        · omega
        · push_cast; omega
      · constructor
        · omega
        · push_cast; omega
/-- What each task has of a route. -/
def loadOf (W : Nat → Int) (r : Nat → Int) (n : Nat) (t : Nat) : Int := match n with
  | 0 => 0
  | g + 1 => loadOf W r g t + if r g = t then W g else 0
theorem loadOf8 (W r : Nat → Int) (t : Nat) : loadOf W r 8 t = sum8 fun g => if r g = t then W g else 0 := by
  simp [loadOf, sum8]
theorem loadOf_range (W r : Nat → Int) (hW : ∀ g, 0 ≤ W g ∧ W g ≤ 1048576) (n t : Nat) : 0 ≤ loadOf W r n t ∧ loadOf W r n t ≤ n * 1048576 := by
  induction n with
  | zero => exact ⟨Int.le_refl _, by show (0 : Int) ≤ _; omega⟩
  | succ n ih =>
    have := hW n
    unfold loadOf
    split <;> (push_cast; omega)
/-- All groups dealt: what each task has is what the route says. -/
theorem dealS_load {p : Nat} {W : Nat → Int} {P : Nat → Nat} {s : Deal} (I : DealInv p W P 8 s) (hall : ∀ g, g < 8 → ∃ i, i < 8 ∧ P i = g) (t : Nat) : s.h t = loadOf W s.r 8 t := by
  rw [I.h1 t, loadOf8]
  apply sum8_congr
  intro j hj
  simp [(I.d1 j).2 (hall j hj)]
/-- The heaviest group that is left, among the first n: the first of these. -/
def pickB (d : Nat → Bool) (W : Nat → Int) : Nat → Int
  | 0 => -1
  | g + 1 => if d g = false ∧ (pickB d W g < 0 ∨ W (pickB d W g).toNat < W g) then g else pickB d W g
theorem pickB_spec (d : Nat → Bool) (W : Nat → Int) (n : Nat) : (pickB d W n = -1 ∧ ∀ g, g < n → d g = true) ∨ ∃ b : Nat, b < n ∧ pickB d W n = b ∧ d b = false ∧ ∀ g, g < n → d g = false → g = b ∨ W g < W b ∨ (W g = W b ∧ b < g) := by
  induction n with
  | zero => exact .inl ⟨rfl, fun g h => absurd h (by omega)⟩
  | succ n ih =>
    unfold pickB
    rcases ih with ⟨e, h⟩ | ⟨b, hb, e, hd, h⟩
    · rw [e]
      cases hn : d n
      · refine .inr ⟨n, by omega, by rw [if_pos ⟨rfl, .inl (by omega)⟩], hn, fun g hg hgd => ?_⟩
        by_cases he : g = n
        · exact .inl he
        · rw [h g (by omega)] at hgd; cases hgd
      · refine .inl ⟨by rw [if_neg (by rintro ⟨h, _⟩; cases h)], fun g hg => ?_⟩
        by_cases he : g = n
        · rw [he]; exact hn
        · exact h g (by omega)
    · rw [e]
      by_cases hc : d n = false ∧ ((b : Int) < 0 ∨ W (Int.toNat b) < W n)
      · rw [if_pos hc]
        have hw : W b < W n := by
          rcases hc.2 with h | h
          · omega
          · simpa using h
        refine .inr ⟨n, by omega, rfl, hc.1, fun g hg hgd => ?_⟩
        by_cases he : g = n
        · exact .inl he
        · rcases h g (by omega) hgd with h | h | h
          · subst h; exact .inr (.inl hw)
          · exact .inr (.inl (by omega))
          · exact .inr (.inl (by omega))
      · rw [if_neg hc]
        refine .inr ⟨b, by omega, rfl, hd, fun g hg hgd => ?_⟩
        by_cases he : g = n
        · subst he
          have : ¬ W b < W g := fun h => hc ⟨hgd, .inr (by simpa using h)⟩
          exact .inr (by omega)
        · exact h g (by omega) hgd
/-- The list of a deck as groups. -/
def deckP (xs : List Int) (k : Nat) : Nat := (xs.getD k 0).toNat
theorem deck_pick {W : Nat → Int} {xs : List Int} (D : Deck (fun x => W x.toNat) xs) (ho : ∀ g : Nat, g < 8 → ∃ k, k < 8 ∧ xs.getD k 0 = (g : Int)) (d : Nat → Bool) (k : Nat) (hk : k < 8) (hd : ∀ g, d g = true ↔ ∃ i, i < k ∧ deckP xs i = g) : pickB d W 8 = deckP xs k := by
  have hr := D.range k hk
  have hund : d (deckP xs k) = false := by
    cases h : d (deckP xs k)
    · rfl
    · obtain ⟨i, hi, e⟩ := (hd _).1 h
      have hri := D.range i (by omega)
      have := D.ord i k hi hk
      unfold deckP at e
      unfold ahead at this
      have e2 : xs.getD i 0 = xs.getD k 0 := by omega
      rw [e2] at this
      omega
  have hk8 : deckP xs k < 8 := by unfold deckP; omega
  rcases pickB_spec d W 8 with ⟨_, h⟩ | ⟨b, hb, e, hdb, h⟩
  · rw [h _ hk8] at hund; cases hund
  · rw [e]
    rcases h _ hk8 hund with h | h
    · rw [h]
    · obtain ⟨i, hi, ei⟩ := ho b hb
      have hPi : deckP xs i = b := by unfold deckP; omega
      have hik : k ≤ i := by
        rcases Nat.lt_or_ge i k with h1 | h1
        · rw [(hd b).2 ⟨i, h1, hPi⟩] at hdb; cases hdb
        · exact h1
      by_cases he : k = i
      · rw [he, hPi]
      · have ha := D.ord k i (by omega) hi
        unfold ahead at ha
        have e1 : W (xs.getD k 0).toNat = W (deckP xs k) := rfl
        have e2 : W (xs.getD i 0).toNat = W b := by rw [← hPi]; rfl
        simp only [e1, e2] at ha
        have e3 : xs.getD k 0 = (deckP xs k : Int) := by unfold deckP; omega
        omega
theorem deck_inj {V : Int → Int} {xs : List Int} (D : Deck V xs) (a b : Nat) (h : a < b) (hb : b < 8) : deckP xs a ≠ deckP xs b := by
  intro e
  have h1 := D.range a (by omega)
  have h2 := D.range b hb
  have := D.ord a b h hb
  unfold deckP at e
  unfold ahead at this
  have e2 : xs.getD a 0 = xs.getD b 0 := by omega
  rw [e2] at this
  omega
theorem deck_lt {V : Int → Int} {xs : List Int} (D : Deck V xs) (a : Nat) (h : a < 8) : deckP xs a < 8 := by
  have h1 := D.range a h
  unfold deckP; omega
theorem deck_onto {xs : List Int} (ho : ∀ g : Nat, g < 8 → ∃ k, k < 8 ∧ xs.getD k 0 = (g : Int)) (g : Nat) (hg : g < 8) : ∃ i, i < 8 ∧ deckP xs i = g := by
  obtain ⟨k, h1, h2⟩ := ho g hg
  exact ⟨k, h1, by unfold deckP; omega⟩
end Go.Proofs.Ytkgllkoooohikaa
