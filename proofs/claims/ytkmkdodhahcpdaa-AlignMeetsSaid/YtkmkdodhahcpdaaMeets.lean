/- AlignMeets: the plain law. Channels bring items; at c is how many were picked of channel c. No program in sight. -/
import Derived.Test.YtkmkdodhahcpdaaAlignE
namespace Go.Proofs.Ytkmkdodhahcpdaa
open Go.RowKit Go.Fb
/-- How many barriers a channel's first a items hold: behind its own it brings barriers alone. -/
def epc (l : List Bool) (a : Nat) : Nat := (l.take a).count true + (a - l.length)
/-- How many items a channel brings in all. -/
def tot (l : List Bool) (M : Nat) : Nat := l.length + (M - l.count true)
theorem epc_zero (l : List Bool) : epc l 0 = 0 := by simp [epc]
theorem epc_in {l : List Bool} {a : Nat} {x : Bool} (h : l[a]? = some x) : epc l (a + 1) = epc l a + if x then 1 else 0 := by
  have ha : a < l.length := by
    rcases Nat.lt_or_ge a l.length with h' | h'
    · exact h'
    · rw [List.getElem?_eq_none h'] at h; cases h
  unfold epc
  rw [List.take_add_one, h, List.count_append]
  cases x <;> simp <;> omega
theorem epc_out {l : List Bool} {a : Nat} (h : l.length ≤ a) : epc l (a + 1) = epc l a + 1 := by
  unfold epc
  rw [List.take_of_length_le h, List.take_of_length_le (by omega)]
  omega
theorem epc_ge {l : List Bool} {a : Nat} (h : l.length ≤ a) : epc l a = l.count true + (a - l.length) := by
  unfold epc
  rw [List.take_of_length_le h]
theorem count_take_le (l : List Bool) (a : Nat) : (l.take a).count true ≤ l.count true := by
  have := (List.take_sublist a l).count_le true
  exact this
theorem epc_le {l : List Bool} {a M : Nat} (hM : l.count true ≤ M) (h : a ≤ tot l M) : epc l a ≤ M := by
  rcases Nat.lt_or_ge a l.length with h' | h'
  · have := count_take_le l a
    unfold epc
    omega
  · rw [epc_ge h']
    unfold tot at h
    omega
theorem epc_tot {l : List Bool} {M : Nat} (hM : l.count true ≤ M) : epc l (tot l M) = M := by
  unfold tot
  rw [epc_ge (by omega)]
  omega
theorem is_iff {l : List Bool} {a M : Nat} (hM : l.count true ≤ M) (h : l.length ≤ a) : epc l a < M ↔ a < tot l M := by
  rw [epc_ge h]
  unfold tot
  omega
/-- Has a channel something? -/
def isC (K : Nat → List Bool) (M : Nat) (at_ : Nat → Nat) (c : Nat) : Bool := decide (at_ c < tot (K c) M)
/-- What it brings next. -/
def barC (K : Nat → List Bool) (at_ : Nat → Nat) (c : Nat) : Bool := ((K c)[at_ c]?).getD true
def upd (f : Nat → Nat) (c v : Nat) : Nat → Nat := fun j => if j = c then v else f j
theorem upd_same (f : Nat → Nat) (c v : Nat) : upd f c v c = v := by simp [upd]
theorem upd_other (f : Nat → Nat) {c j : Nat} (v : Nat) (h : j ≠ c) : upd f c v j = f j := by simp [upd, h]
def sm (f : Nat → Nat) : Nat → Nat
  | 0 => 0
  | n + 1 => sm f n + f n
theorem sm_le {f g : Nat → Nat} : ∀ {n : Nat}, (∀ c, c < n → f c ≤ g c) → sm f n ≤ sm g n
  | 0, _ => Nat.le_refl _
  | n + 1, h => by
    have := sm_le (n := n) fun c hc => h c (by omega)
    have := h n (by omega)
    simp only [sm]
    omega
theorem sm_eq {f g : Nat → Nat} : ∀ {n : Nat}, (∀ c, c < n → f c ≤ g c) → sm g n ≤ sm f n → ∀ c, c < n → f c = g c
  | 0, _, _, c, hc => by omega
  | n + 1, h, hs, c, hc => by
    have h1 := sm_le (n := n) fun c hc => h c (by omega)
    have h2 := h n (by omega)
    simp only [sm] at hs
    rcases Nat.lt_or_ge c n with h3 | h3
    · exact sm_eq (n := n) (fun c hc => h c (by omega)) (by omega) c h3
    · obtain rfl : c = n := by omega
      omega
theorem sm_congr {f g : Nat → Nat} : ∀ {n : Nat}, (∀ c, c < n → f c = g c) → sm f n = sm g n
  | 0, _ => rfl
  | n + 1, h => by simp only [sm]; rw [sm_congr fun c hc => h c (by omega), h n (by omega)]
theorem sm_upd (f : Nat → Nat) {c : Nat} : ∀ {n : Nat}, c < n → sm (upd f c (f c + 1)) n = sm f n + 1
  | n + 1, h => by
    simp only [sm]
    rcases Nat.lt_or_ge c n with h1 | h1
    · rw [sm_upd f h1, upd_other f _ (by omega)]
      omega
    · obtain rfl : c = n := by omega
      rw [upd_same, sm_congr (g := f) fun j hj => upd_other f _ (by omega)]
      omega
theorem sm_bound {f : Nat → Nat} {b : Nat} : ∀ {n : Nat}, (∀ c, c < n → f c ≤ b) → sm f n ≤ n * b
  | 0, _ => by simp [sm]
  | n + 1, h => by
    have := sm_bound (n := n) fun c hc => h c (by omega)
    have := h n (by omega)
    simp only [sm]
    rw [Nat.succ_mul]
    omega
/-- What stands between two rounds. -/
structure Meets (K : Nat → List Bool) (N M : Nat) (at_ : Nat → Nat) (met : Nat) (bs : List Bool) : Prop where
  len : bs.length = N
  cnt : ∀ c, c < N → (K c).count true ≤ M
  le : ∀ c, c < N → at_ c ≤ tot (K c) M
  blk : ∀ c x, bs[c]? = some x → epc (K c) (at_ c) = met + if x then 1 else 0
  opn : ∃ c : Nat, bs[c]? = some false
section
variable {K : Nat → List Bool} {N M : Nat} {at_ : Nat → Nat} {met : Nat} {bs : List Bool}
theorem meets_start (hN : 0 < N) (hM : ∀ c, c < N → (K c).count true ≤ M) : Meets K N M (fun _ => 0) 0 (List.replicate N false) := by
  refine ⟨by simp, hM, fun c _ => Nat.zero_le _, fun c x h => ?_, ⟨0, by simp [hN]⟩⟩
  have : x = false := by
    rw [List.getElem?_replicate] at h
    split at h
    · injection h with h; exact h.symm
    · cases h
  subst this
  simp [epc_zero]
theorem some_lt {c : Nat} {x : Bool} (h : bs[c]? = some x) : c < bs.length := by
  rcases Nat.lt_or_ge c bs.length with h' | h'
  · exact h'
  · rw [List.getElem?_eq_none h'] at h; cases h
theorem Meets.met_le (h : Meets K N M at_ met bs) : met ≤ M := by
  obtain ⟨c, hc⟩ := h.opn
  have hl := some_lt hc
  rw [h.len] at hl
  have := h.blk c false hc
  have := epc_le (h.cnt c hl) (h.le c hl)
  simp at *
  omega
/-- Where somebody has something, somebody who isn't blocked has. -/
theorem Meets.more (h : Meets K N M at_ met bs) {c : Nat} (hc : c < N) (hi : at_ c < tot (K c) M) : ∃ d, d < N ∧ bs[d]? = some false ∧ at_ d < tot (K d) M := by
  obtain ⟨d, hd⟩ := h.opn
  have hdl := some_lt hd
  rw [h.len] at hdl
  rcases Nat.lt_or_ge (at_ d) (tot (K d) M) with h1 | h1
  · exact ⟨d, hdl, hd, h1⟩
  · have e1 := h.blk d false hd
    rw [show at_ d = tot (K d) M by have := h.le d hdl; omega, epc_tot (h.cnt d hdl)] at e1
    obtain ⟨x, hx⟩ := bs_some (bs := bs) (k := c) (by rw [h.len]; exact hc)
    cases x with
    | false => exact ⟨c, hc, hx, hi⟩
    | true =>
      have e2 := h.blk c true hx
      have e3 := epc_le (h.cnt c hc) (h.le c hc)
      simp at e1 e2
      omega
theorem Meets.final (h : Meets K N M at_ met bs) (ha : ∀ c, c < N → at_ c = tot (K c) M) : met = M := by
  obtain ⟨d, hd⟩ := h.opn
  have hdl := some_lt hd
  rw [h.len] at hdl
  have e1 := h.blk d false hd
  rw [ha d hdl, epc_tot (h.cnt d hdl)] at e1
  simpa using e1.symm
/-- The count of barriers behind one more item. -/
theorem epc_next (K : Nat → List Bool) (at_ : Nat → Nat) (c : Nat) : epc (K c) (at_ c + 1) = epc (K c) (at_ c) + if barC K at_ c then 1 else 0 := by
  unfold barC
  cases hx : (K c)[at_ c]? with
  | some x => rw [epc_in hx]; rfl
  | none => rw [epc_out (List.getElem?_eq_none_iff.mp hx)]; rfl
/-- One item that is no barrier. -/
theorem Meets.plain (h : Meets K N M at_ met bs) {c : Nat} (hc : c < N) (hi : at_ c < tot (K c) M) (hb : barC K at_ c = false) : Meets K N M (upd at_ c (at_ c + 1)) met bs := by
  refine ⟨h.len, h.cnt, fun d hd => ?_, fun d x hx => ?_, h.opn⟩
  · by_cases e : d = c
    · subst e; rw [upd_same]; omega
    · rw [upd_other _ _ e]; exact h.le d hd
  · by_cases e : d = c
    · subst e; rw [upd_same, epc_next, hb, h.blk d x hx]; simp
    · rw [upd_other _ _ e]; exact h.blk d x hx
/-- A barrier, and somebody else isn't blocked yet. -/
theorem Meets.wait (h : Meets K N M at_ met bs) {c : Nat} (hc : c < N) (hx : bs[c]? = some false) (hi : at_ c < tot (K c) M) (hb : barC K at_ c = true) (ho : ∃ d : Nat, (bs.set c true)[d]? = some false) : Meets K N M (upd at_ c (at_ c + 1)) met (bs.set c true) := by
  refine ⟨by simpa using h.len, h.cnt, fun d hd => ?_, fun d x hd => ?_, ho⟩
  · by_cases e : d = c
    · subst e; rw [upd_same]; omega
    · rw [upd_other _ _ e]; exact h.le d hd
  · by_cases e : d = c
    · subst e
      rw [List.getElem?_set_self (some_lt hx)] at hd
      injection hd with hd
      subst hd
      rw [upd_same, epc_next, hb, h.blk d false hx]; simp
    · rw [List.getElem?_set_ne (Ne.symm e)] at hd
      rw [upd_other _ _ e]; exact h.blk d x hd
/-- A barrier, and all have met. -/
theorem Meets.meet (h : Meets K N M at_ met bs) {c : Nat} (hc : c < N) (hx : bs[c]? = some false) (hi : at_ c < tot (K c) M) (hb : barC K at_ c = true) (ho : ¬ ∃ d : Nat, (bs.set c true)[d]? = some false) :
    Meets K N M (upd at_ c (at_ c + 1)) (met + 1) (List.replicate N false) ∧ ∀ d, d < N → epc (K d) (upd at_ c (at_ c + 1) d) = met + 1 := by
  have key : ∀ d, d < N → epc (K d) (upd at_ c (at_ c + 1) d) = met + 1 := by
    intro d hd
    by_cases e : d = c
    · subst e; rw [upd_same, epc_next, hb, h.blk d false hx]; simp
    · rw [upd_other _ _ e]
      obtain ⟨x, hxd⟩ := bs_some (bs := bs) (k := d) (by rw [h.len]; exact hd)
      cases x with
      | false => exact absurd ⟨d, by rw [List.getElem?_set_ne (Ne.symm e)]; exact hxd⟩ ho
      | true => rw [h.blk d true hxd]; simp
  refine ⟨⟨by simp, h.cnt, fun d hd => ?_, fun d x hd => ?_, ⟨0, by rw [List.getElem?_replicate, if_pos (by omega)]⟩⟩, key⟩
  · by_cases e : d = c
    · subst e; rw [upd_same]; omega
    · rw [upd_other _ _ e]; exact h.le d hd
  · have hdl := some_lt hd
    rw [List.length_replicate] at hdl
    have : x = false := by
      rw [List.getElem?_replicate, if_pos hdl] at hd
      injection hd with hd; exact hd.symm
    subst this
    rw [key d hdl]; simp
end
end Go.Proofs.Ytkmkdodhahcpdaa
