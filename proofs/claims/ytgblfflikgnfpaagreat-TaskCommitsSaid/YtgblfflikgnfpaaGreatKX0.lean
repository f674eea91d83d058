/- Texts merged into one, for the number of files a claim may have: Chk. -/
import Derived.Test.YtgblfflikgnfpaaGreatRows
namespace Go.Proofs.YtgblfflikgnfpaaGreat
/-- One entry changed. -/
def updC {α : Type} (f : Nat → α) (i : Nat) (v : α) : Nat → α := fun j => if j = i then v else f j
/-- What an operation takes, and what it leaves. -/
def takesF (o : Int) : Int := if o = 5 ∨ o = 13 ∨ o = 14 ∨ o = 15 ∨ o = 9 ∨ o = 10 ∨ o = 11 then 1 else if o = 6 ∨ o = 7 ∨ o = 8 ∨ o = 17 ∨ o = 12 then 2 else 0
def leavesF (o : Int) : Int := if o = 11 ∨ o = 12 then 2 else if (1 ≤ o ∧ o ≤ 4) ∨ (6 ≤ o ∧ o ≤ 10) ∨ o = 17 then 1 else 0
/-- What the check knows of a program while it goes through it. -/
structure CS where
  D : Nat → Int
  E : Nat → Int
  mx : Int
  em : Int
  u0 : Bool
  u1 : Bool
/-- A place is come to with a depth and emits. -/
def comeF (n : Nat) (s : CS) (t : Nat) (d e : Int) : Option CS :=
  if 8 < d ∨ 4 < e then none
  else if t = n then some { s with mx := max s.mx d, em := max s.em e }
  else if s.D t ≠ -1 ∧ s.D t ≠ d then none
  else some { s with D := updC s.D t d, E := updC s.E t (max (s.E t) e), mx := max s.mx d, em := max s.em e }
def farF (n k : Nat) (a : Int) : Nat := min (k + 1 + a.toNat) n
def nextsF (n k : Nat) (i : Int × Int) : List Nat :=
  if i.1 = 0 then [] else if i.1 = 16 then [farF n k i.2] else if i.1 = 15 then [k + 1, farF n k i.2] else [k + 1]
def useF (s : CS) (i : Int × Int) : CS := if i.1 = 4 ∨ i.1 = 5 then (if i.2 = 0 then { s with u0 := true } else { s with u1 := true }) else s
def comesF (n : Nat) (d e : Int) : List Nat → CS → Option CS
  | [], s => some s
  | t :: l, s => match comeF n s t d e with
    | none => none
    | some s' => comesF n d e l s'
def emF (s : CS) (k : Nat) (i : Int × Int) : Int := if i.1 = 14 then s.E k + 1 else s.E k
def stepF (n : Nat) (p : Nat → Int × Int) (s : CS) (k : Nat) : Option CS :=
  if s.D k < takesF (p k).1 then none
  else comesF n (s.D k - takesF (p k).1 + leavesF (p k).1) (emF s k (p k)) (nextsF n k (p k)) (useF s (p k))
def startF (n : Nat) : CS := ⟨fun j => if n = 0 then -1 else if j = 0 then 0 else -1, fun _ => 0, 0, 0, false, false⟩
def checkF (n : Nat) (p : Nat → Int × Int) : Nat → Option CS
  | 0 => some (startF n)
  | k + 1 => match checkF n p k with
    | none => none
    | some s => if s.D k = -1 then some s else stepF n p s k
/-- What holds of every state. -/
structure CInv (n : Nat) (s : CS) : Prop where
  d : ∀ k, -1 ≤ s.D k ∧ s.D k ≤ 8
  e : ∀ k, 0 ≤ s.E k ∧ s.E k ≤ 4
  mx : 0 ≤ s.mx ∧ s.mx ≤ 8
  em : 0 ≤ s.em ∧ s.em ≤ 4
  far : ∀ k, n ≤ k → s.D k = -1
theorem takesF_range (o : Int) : 0 ≤ takesF o ∧ takesF o ≤ 2 := by unfold takesF; split <;> (try split) <;> omega
theorem leavesF_range (o : Int) : 0 ≤ leavesF o ∧ leavesF o ≤ 2 := by unfold leavesF; split <;> (try split) <;> omega
theorem CInv.start (n : Nat) : CInv n (startF n) := by
  refine ⟨fun k => ?_, fun k => ⟨Int.le_refl _, by show (0 : Int) ≤ 4; decide⟩, ⟨Int.le_refl _, by show (0 : Int) ≤ 8; decide⟩, ⟨Int.le_refl _, by show (0 : Int) ≤ 4; decide⟩, fun k hk => ?_⟩
  · simp only [startF]; split
    · omega
    · split <;> omega
  · simp only [startF]; split
    · rfl
    · rw [if_neg (by omega)]
theorem CInv.use {n : Nat} {s : CS} (I : CInv n s) (i : Int × Int) : CInv n (useF s i) := by
  unfold useF; split
  · split <;> exact ⟨I.d, I.e, I.mx, I.em, I.far⟩
  · exact I
theorem CInv.come {n : Nat} {s s' : CS} (I : CInv n s) {t : Nat} {d e : Int} (ht : t ≤ n) (hd : 0 ≤ d) (he : 0 ≤ e) (h : comeF n s t d e = some s') : CInv n s' := by
  unfold comeF at h
  have a := I.mx
  have b := I.em
  split at h
  · cases h
  · rename_i h1
    split at h
    · injection h with h; subst h
      exact ⟨I.d, I.e, by show 0 ≤ max _ _ ∧ max _ _ ≤ 8; omega, by show 0 ≤ max _ _ ∧ max _ _ ≤ 4; omega, I.far⟩
    · rename_i h2
      split at h
      · cases h
      · injection h with h; subst h
        refine ⟨fun k => ?_, fun k => ?_, by show 0 ≤ max _ _ ∧ max _ _ ≤ 8; omega, by show 0 ≤ max _ _ ∧ max _ _ ≤ 4; omega, fun k hk => ?_⟩
        · have := I.d k
          simp only [updC]; split <;> omega
        · have := I.e k
          have := I.e t
          simp only [updC]; split <;> omega
        · have := I.far k hk
          simp only [updC]; rw [if_neg (by omega)]; exact this
theorem CInv.comes {n : Nat} {d e : Int} (hd : 0 ≤ d) (he : 0 ≤ e) : ∀ (l : List Nat) {s s' : CS}, (∀ t ∈ l, t ≤ n) → CInv n s → comesF n d e l s = some s' → CInv n s'
  | [], s, s', _, I, h => by injection h with h; subst h; exact I
  | t :: l, s, s', hl, I, h => by
    unfold comesF at h
    split at h
    · cases h
    · rename_i s1 h1
      exact CInv.comes hd he l (fun t ht => hl t (by simp [ht])) (I.come (hl t (by simp)) hd he h1) h
theorem nextsF_le {n k : Nat} (hk : k < n) (i : Int × Int) : ∀ t ∈ nextsF n k i, t ≤ n := by
  intro t ht
  unfold nextsF farF at ht
  split at ht
  · cases ht
  · split at ht
    · simp at ht; omega
    · split at ht <;> simp at ht <;> omega
theorem emF_range {n : Nat} {s : CS} (I : CInv n s) (k : Nat) (i : Int × Int) : 0 ≤ emF s k i ∧ emF s k i ≤ 5 := by
  have := I.e k
  unfold emF; split <;> omega
theorem CInv.step {n : Nat} {s s' : CS} (I : CInv n s) {p : Nat → Int × Int} {k : Nat} (hk : k < n) (h : stepF n p s k = some s') : CInv n s' := by
  unfold stepF at h
  split at h
  · cases h
  · have := leavesF_range (p k).1
    exact CInv.comes (by omega) (emF_range I k (p k)).1 _ (nextsF_le hk _) (I.use _) h
theorem checkF_inv {n : Nat} {p : Nat → Int × Int} : ∀ {m : Nat} {s : CS}, m ≤ n → checkF n p m = some s → CInv n s
  | 0, s, _, h => by injection h with h; subst h; exact CInv.start n
  | m + 1, s, hm, h => by
    unfold checkF at h
    split at h
    · cases h
    · rename_i s1 h1
      have I := checkF_inv (by omega) h1
      split at h
      · injection h with h; subst h; exact I
      · exact I.step (by omega) h
theorem use_D (s : CS) (i : Int × Int) : (useF s i).D = s.D := by unfold useF; split; (split <;> rfl); rfl
end Go.Proofs.YtgblfflikgnfpaaGreat
