/- AlignMeets: the start of the rounds, and what a pick says. -/
import Derived.Test.YtkmkdodhahcpdaaMeetsA
import Derived.Test.YtkmkdodhahcpdaaSeen
namespace Go.Proofs.Ytkmkdodhahcpdaa
open Go.RowKit Go.Fb
theorem minv_start {w w3 : World} {A : Option Addr} {N cA M g2 g5 gb g : Nat} {bs : List Bool} {last : Int} (h2 : Blk w3 g2 52 #[.slice A N cA]) (h5 : Blk w3 g5 3 #[.int .i64 (M : Int)]) (ha : Al w3 g gb bs false 0 false 0 last) (hf : Fr w.heap.size [] w w3) (ord : w.heap.size ≤ g2 ∧ g2 < g5 ∧ g5 < gb ∧ gb < g) :
    MInv w (((((w3.alloc (.cells (cellsN (fun _ => 0) N) 3)).alloc (.cells #[.slice (some ⟨w3.heap.size, 0, none⟩) N N] 22)).alloc (.cells (cellsN (fun _ => 0) N) 3)).alloc (.cells #[.slice (some ⟨w3.heap.size + 1 + 1, 0, none⟩) N N] 22)).alloc (.cells #[.func (.func 30) #[] #[.pointer (some ⟨w3.heap.size + 1, 0, none⟩), .pointer (some ⟨g2, 0, none⟩), .pointer (some ⟨w3.heap.size + 1 + 1 + 1, 0, none⟩), .pointer (some ⟨g5, 0, none⟩)]] 57))
      A N cA M g2 g5 gb g w3.heap.size (w3.heap.size + 1) (w3.heap.size + 1 + 1) (w3.heap.size + 1 + 1 + 1) (w3.heap.size + 1 + 1 + 1 + 1) bs false 0 0 last (fun _ => 0) (fun _ => 0) := by
  have lg := ha.st.lt
  have e1 := Blk.new w3 3 (cellsN (fun _ => 0) N)
  have s1 : (w3.alloc (.cells (cellsN (fun _ => 0) N) 3)).heap.size = w3.heap.size + 1 := by simp
  have f1 := (Fr.refl w3.heap.size [] w3).alloc (Nat.le_refl _) (.cells (cellsN (fun _ => 0) N) 3)
  generalize w3.alloc (.cells (cellsN (fun _ => 0) N) 3) = w4 at *
  have e2 := Blk.new w4 22 #[.slice (some ⟨w3.heap.size, 0, none⟩) N N]
  have s2 : (w4.alloc (.cells #[.slice (some ⟨w3.heap.size, 0, none⟩) N N] 22)).heap.size = w4.heap.size + 1 := by simp
  have f2 := f1.alloc (by omega) (.cells #[.slice (some ⟨w3.heap.size, 0, none⟩) N N] 22)
  have e1 := e1.alloc (.cells #[.slice (some ⟨w3.heap.size, 0, none⟩) N N] 22)
  generalize w4.alloc _ = w5 at *
  have e3 := Blk.new w5 3 (cellsN (fun _ => 0) N)
  have s3 : (w5.alloc (.cells (cellsN (fun _ => 0) N) 3)).heap.size = w5.heap.size + 1 := by simp
  have f3 := f2.alloc (by omega) (.cells (cellsN (fun _ => 0) N) 3)
  have e1 := e1.alloc (.cells (cellsN (fun _ => 0) N) 3)
  have e2 := e2.alloc (.cells (cellsN (fun _ => 0) N) 3)
  generalize w5.alloc _ = w6 at *
  have e4 := Blk.new w6 22 #[.slice (some ⟨w3.heap.size + 1 + 1, 0, none⟩) N N]
  have s4 : (w6.alloc (.cells #[.slice (some ⟨w3.heap.size + 1 + 1, 0, none⟩) N N] 22)).heap.size = w6.heap.size + 1 := by simp
  have f4 := f3.alloc (by omega) (.cells #[.slice (some ⟨w3.heap.size + 1 + 1, 0, none⟩) N N] 22)
  have e1 := e1.alloc (.cells #[.slice (some ⟨w3.heap.size + 1 + 1, 0, none⟩) N N] 22)
  have e2 := e2.alloc (.cells #[.slice (some ⟨w3.heap.size + 1 + 1, 0, none⟩) N N] 22)
  have e3 := e3.alloc (.cells #[.slice (some ⟨w3.heap.size + 1 + 1, 0, none⟩) N N] 22)
  generalize w6.alloc _ = w7 at *
  generalize hfn : Value.func (.func 30) #[] #[.pointer (some ⟨w3.heap.size + 1, 0, none⟩), .pointer (some ⟨g2, 0, none⟩), .pointer (some ⟨w3.heap.size + 1 + 1 + 1, 0, none⟩), .pointer (some ⟨g5, 0, none⟩)] = fn at *
  have e5 := Blk.new w7 57 #[fn]
  have f5 := f4.alloc (by omega) (.cells #[fn] 57)
  have e1 := e1.alloc (.cells #[fn] 57)
  have e2 := e2.alloc (.cells #[fn] 57)
  have e3 := e3.alloc (.cells #[fn] 57)
  have e4 := e4.alloc (.cells #[fn] 57)
  generalize w7.alloc _ = w8 at *
  rw [s1] at e2
  rw [s2, s1] at e3
  rw [s3, s2, s1] at e4
  rw [s4, s3, s2, s1] at e5
  subst hfn
  exact ⟨h2.fr f5 h2.lt (by simp), h5.fr f5 h5.lt (by simp), ha.fr0 f5, e1, e2, e3, e4, e5, hf.trans (f5.mono hf.size (by simp)), by omega⟩
theorem pickC_nat2 {last : Int} {N k : Nat} (hl : -1 ≤ last) : pickC last N k = ((last + 1).toNat + k) % N := by
  unfold pickC
  obtain ⟨a, ha⟩ : ∃ a : Nat, last + 1 = (a : Int) := ⟨(last + 1).toNat, by omega⟩
  rw [ha, show ((a : Int) + (k : Int)) % (N : Int) = (((a + k) % N : Nat) : Int) by simp, Int.toNat_natCast, Int.toNat_natCast]
/-- Every channel is looked at within as many looks as there are channels. -/
theorem pickC_all {last : Int} {N c : Nat} (hl : -1 ≤ last) (hc : c < N) : ∃ j, j < N ∧ pickC last N j = c := by
  have hs := Nat.mod_lt (last + 1).toNat (show 0 < N by omega)
  rcases Nat.lt_or_ge c ((last + 1).toNat % N) with h | h
  · refine ⟨c + N - (last + 1).toNat % N, by omega, ?_⟩
    rw [pickC_nat2 hl, ← Nat.mod_add_mod, show (last + 1).toNat % N + (c + N - (last + 1).toNat % N) = c + N by omega, Nat.add_mod_right, Nat.mod_eq_of_lt hc]
  · refine ⟨c - (last + 1).toNat % N, by omega, ?_⟩
    rw [pickC_nat2 hl, ← Nat.mod_add_mod, show (last + 1).toNat % N + (c - (last + 1).toNat % N) = c by omega, Nat.mod_eq_of_lt hc]
section
variable {K : Nat → List Bool} {N M : Nat} {at_ : Nat → Nat} {met : Nat} {bs : List Bool} {last mk : Int}
/-- What has something by the mask. -/
def hasM (K : Nat → List Bool) (M : Nat) (at_ : Nat → Nat) (mk : Int) : Nat → Bool := fun c => isC K M at_ c && maskB mk c
theorem offB_some {c : Nat} (h : offB bs c = true) : bs[c]? = some false := by
  unfold offB at h
  cases hx : bs[c]? with
  | none => simp [List.getD, hx] at h
  | some x => simp [List.getD, hx] at h; rw [h]
theorem picked (hl : bs.length = N) {k : Nat} (hf : freeAt bs (hasM K M at_ mk) last k = true) : bs[pickC last N k]? = some false ∧ at_ (pickC last N k) < tot (K (pickC last N k)) M ∧ isC K M at_ (pickC last N k) = true := by
  unfold freeAt hasM at hf
  rw [hl, Bool.and_eq_true, Bool.and_eq_true] at hf
  exact ⟨offB_some hf.1, by simpa [isC] using hf.2.1, hf.2.1⟩
theorem not_picked (h : Meets K N M at_ met bs) (hN : N ≤ 6) (hl : -1 ≤ last) (hno : ∀ j, j < bs.length → freeAt bs (hasM K M at_ 255) last j = false) : sm (fun c => tot (K c) M) N ≤ sm at_ N := by
  refine sm_le fun c hc => ?_
  rcases Nat.lt_or_ge (at_ c) (tot (K c) M) with h1 | h1
  · obtain ⟨d, hd, hx, hi⟩ := h.more hc h1
    obtain ⟨j, hj, hp⟩ := pickC_all hl hd
    have := hno j (by rw [h.len]; exact hj)
    rw [freeAt, h.len, hp, offB_of hx, hasM, maskB_full d (by omega)] at this
    simp [isC, hi] at this
  · exact h1
end
theorem count_lt : ∀ {l : List Bool}, (∃ d : Nat, l[d]? = some false) → l.count true < l.length
  | [], ⟨d, h⟩ => by simp at h
  | x :: l, ⟨0, h⟩ => by
    simp at h
    subst h
    have := List.count_le_length (a := true) (l := l)
    simp
    omega
  | x :: l, ⟨d + 1, h⟩ => by
    have := count_lt (l := l) ⟨d, by simpa using h⟩
    cases x <;> simp <;> omega
theorem count_all : ∀ {l : List Bool}, (¬ ∃ d : Nat, l[d]? = some false) → l.count true = l.length
  | [], _ => rfl
  | x :: l, h => by
    have := count_all (l := l) fun ⟨d, hd⟩ => h ⟨d + 1, by simpa using hd⟩
    cases x with
    | false => exact absurd ⟨0, rfl⟩ h
    | true => simp; exact this
theorem count_set : ∀ {l : List Bool} {c : Nat}, l[c]? = some false → (l.set c true).count true = l.count true + 1
  | [], c, h => by simp at h
  | x :: l, 0, h => by
    simp at h
    subst h
    simp
  | x :: l, c + 1, h => by
    have := count_set (l := l) (c := c) (by simpa using h)
    cases x <;> simp [this]
theorem pick_meets {w wr : World} {A : Option Addr} {N cA M g2 g5 gb g ga g13 ge g14 g16 : Nat} {bs : List Bool} {b : Bool} {epo many last : Int} {at_ : Nat → Nat} {met : Nat} {K : Nat → List Bool}
    (INV : RowKit.Hid (MInv w wr A N cA M g2 g5 gb g ga g13 ge g14 g16 bs b epo many last at_ (fun c => epc (K c) (at_ c)))) (hr : Rows2 w w.heap.size A N K) (hme : Meets K N M at_ met bs) (mk : Int) (g18 : Nat) (h18 : Blk wr g18 3 #[.int .i64 mk]) (hN : N ≤ 6) (hl0 : -1 ≤ last) (hl1 : last < N) :
    Calls Try.prog 31 #[.pointer (some ⟨g, 0, none⟩), .func (.func 32) #[] #[.pointer (some ⟨g16, 0, none⟩), .pointer (some ⟨g18, 0, none⟩)]] wr (PickOut wr g gb bs b epo false many last (hasM K M at_ mk)) :=
  pick_any _ _ (hasM K M at_ mk) INV.out.al (by rw [hme.len]; omega) hl0 (by rw [hme.len]; exact hl1) (fun args w => by kernel_rfl)
    (fun d w' hd hfr => has_any (MInv.keep INV hfr) hr d (by rw [hme.len] at hd; exact hd) (hme.cnt d (by rw [hme.len] at hd; exact hd)) rfl mk g18 (h18.fr hfr h18.lt (by simp)) hN)
theorem ep_plain {K : Nat → List Bool} {at_ : Nat → Nat} {c : Nat} (hb : barC K at_ c = false) : (fun d => epc (K d) (upd at_ c (at_ c + 1) d)) = fun d => epc (K d) (at_ d) := by
  funext d
  by_cases e : d = c
  · subst e; rw [upd_same, epc_next, hb]; simp
  · rw [upd_other _ _ e]
theorem ep_bar {K : Nat → List Bool} {at_ : Nat → Nat} {c : Nat} (hb : barC K at_ c = true) : (fun d => epc (K d) (upd at_ c (at_ c + 1) d)) = upd (fun d => epc (K d) (at_ d)) c (epc (K c) (at_ c) + 1) := by
  funext d
  by_cases e : d = c
  · subst e; rw [upd_same, upd_same, epc_next, hb]; simp
  · rw [upd_other _ _ e, upd_other _ _ e]
end Go.Proofs.Ytkmkdodhahcpdaa
