/- The contracts of graph.unlike, of slices.IndexFunc on nodes, and of graph.Find. -/
import Derived.Test.YtddngibfhklnfaaNdA
namespace Go.Proofs.Ytddngibfhklnfaa
open Go.RowKit Go.Fb
/-- Are all numbers of a list unlike? -/
def unlikeB (l : List Int) : Bool := decide (l.Nodup)
theorem nodup_sub : ∀ {a b : List Int}, a.Nodup → (∀ x ∈ a, x ∈ b) → a.length ≤ b.length
  | [], _, _, _ => by simp
  | x :: a, b, h, hs => by
    obtain ⟨h1, h2⟩ := List.nodup_cons.1 h
    have hx := hs x (by simp)
    have := nodup_sub (a := a) (b := b.erase x) h2 fun y hy => by
      have hne : y ≠ x := fun e => h1 (e ▸ hy)
      exact (List.mem_erase_of_ne hne).2 (hs y (by simp [hy]))
    rw [List.length_erase_of_mem hx] at this
    have := List.length_pos_of_mem hx
    simp only [List.length_cons]; omega
theorem rises_nodup {a : List Int} (h : a.Pairwise (· < ·)) : a.Nodup := by
  rw [List.nodup_iff_pairwise_ne]
  exact h.imp fun h => by omega
theorem compact_len_le (zs : List Int) : (Lib.compact zs).length ≤ zs.length := by
  unfold Lib.compact Lib.compactUpTo
  rw [List.length_map]
  exact Nat.le_trans (List.length_filter_le _ _) (by simp)
theorem erase_len {l : List Int} (h : ¬ l.Nodup) : ∃ x ∈ l, x ∈ l.erase x := by
  induction l with
  | nil => exact absurd List.nodup_nil h
  | cons y l ih =>
    by_cases c : y ∈ l
    · exact ⟨y, by simp, by simpa using c⟩
    · have hl : ¬ l.Nodup := fun hl => h (List.nodup_cons.2 ⟨c, hl⟩)
      obtain ⟨x, hx, he⟩ := ih hl
      refine ⟨x, by simp [hx], ?_⟩
      by_cases e : y = x
      · subst e; exact absurd hx c
      · rw [List.erase_cons_tail (by simpa using e)]
        simp [he]
theorem unlike_len (l : List Int) : decide ((Lib.compact (srt l)).length = l.length) = unlikeB l := by
  unfold unlikeB
  congr 1
  have hs := rises_nodup (compact_rises (srt_sorted l))
  have hm : ∀ x, x ∈ Lib.compact (srt l) ↔ x ∈ l := fun x => (compact_mem x).trans (srt_perm l).mem_iff
  refine propext ⟨fun h => ?_, fun h => ?_⟩
  · refine Classical.byContradiction fun hn => ?_
    obtain ⟨x, hx, he⟩ := erase_len hn
    have := nodup_sub (b := l.erase x) hs fun y hy => by
      by_cases e : y = x
      · subst e; exact he
      · exact (List.mem_erase_of_ne e).2 ((hm y).1 hy)
    rw [List.length_erase_of_mem hx] at this
    have := List.length_pos_of_mem hx
    omega
  · have h1 := nodup_sub h (fun x hx => (hm x).2 hx)
    have h2 := compact_len_le (srt l)
    rw [srt_len] at h2
    omega
set_option maxRecDepth 100000 in
set_option maxHeartbeats 1000000 in
theorem unlike_any (A : Option Addr) (n c B : Nat) (l : List Int) (w : World) (hl : n = l.length) (hn : n ≤ 1000000) (hr : Reads w B 1 A n (l.map (Value.int .i64))) (hB : B ≤ w.heap.size) :
    Calls Try.prog 48 #[.slice A n c] w fun e w' => e = .returned (.bool (unlikeB l)) ∧ Fr w.heap.size [] w w' := by
  have HC := Lib.hid (iclone_any A n c B l w hl hn hr hB)
  have HU := Lib.hid (unlike_len l)
  have HL := Lib.hid hl
  clear hr hl
  go_enter Try.func48, Try.ntmps48
  go_wp2_with fail
  refine HC.out.mono ?_
  rintro e w1 ⟨A1, c1, rfl, hown, f1⟩
  have F1 := Lib.hid f1
  have HO := Lib.hid hown
  clear f1 hown HC
  rcases Nat.eq_zero_or_pos n with h0 | h0
  · subst h0
    have hl0 : l = [] := List.eq_nil_of_length_eq_zero HL.out.symm
    have hub : unlikeB l = true := by rw [hl0]; rfl
    have HUB := Lib.hid hub
    have HS := Lib.hid (Any.slices_Sort_int_none Try.sortI A1 c1 w1)
    have HC := Lib.hid (Any.slices_Compact_int_empty Try.compactI A1 c1 w1)
    clear hl0 hub HO
    go_wp2_with fail
    refine HS.out.mono ?_
    rintro e w' ⟨rfl, rfl⟩
    go_wp2_with fail
    refine HC.out.mono ?_
    rintro e w' ⟨rfl, rfl⟩
    go_wp2_with fail
    go_ret
    exact ⟨by rw [HUB.out]; rfl, F1.out⟩
  · obtain ⟨g, cap, hv, hbg, hlt⟩ := HO.out.form h0
    injection hv with hv1 hv2 hv3
    subst hv1
    subst hv3
    have HS := Lib.hid (sorti_any w1 w.heap.size g c1 n l HL.out HO.out hn)
    clear HO hv2
    go_wp2_with fail
    refine HS.out.mono ?_
    rintro e wa ⟨rfl, hown, fa⟩
    have FA := Lib.hid (F1.out.trans (fa.mono (B' := w.heap.size) (L' := []) F1.out.size (by intro q hq hlt; simp at hq; omega)))
    have HC := compacti_any wa w.heap.size g c1 n (srt l) (by rw [srt_len]; exact HL.out) hown hn
    obtain ⟨k, hk⟩ : ∃ k, k = (Lib.compact (srt l)).length := ⟨_, rfl⟩
    rw [← hk] at HC
    have HC := Lib.hid HC
    have HU2 := Lib.hid (show decide ((k : Int) = (n : Int)) = unlikeB l by rw [← HU.out, hk, HL.out]; exact decide_eq_decide.2 (by omega))
    clear hown fa HS hk
    go_wp2_with fail
    refine HC.out.mono ?_
    rintro e wb ⟨rfl, hr, fb⟩
    have FB := Lib.hid (FA.out.trans (fb.mono (B' := w.heap.size) (L' := []) FA.out.size (by intro q hq hlt; simp at hq; omega)))
    clear hr fb HC FA
    go_wp2_with fail
    go_ret
    exact ⟨by rw [← HU2.out]; simp; by_cases h : (k : Int) = (n : Int) <;> simp [h], FB.out⟩
theorem ndL_get (m : Ndm) : (ndL m)[0]? = some (.int .i64 m.1.id) ∧ (ndL m)[1]? = some (.int .i64 m.1.kind) ∧ (ndL m)[2]? = some m.2.1 ∧ (ndL m)[3]? = some m.2.2 ∧ (ndL m)[4]? = some (.int .i64 m.1.par) ∧ (ndL m)[5]? = some (.int .i64 (m.1.rt 0)) ∧ (ndL m)[6]? = some (.int .i64 (m.1.rt 1)) ∧ (ndL m)[7]? = some (.int .i64 (m.1.rt 2)) ∧ (ndL m)[8]? = some (.int .i64 (m.1.rt 3)) ∧ (ndL m)[9]? = some (.int .i64 (m.1.rt 4)) ∧ (ndL m)[10]? = some (.int .i64 (m.1.rt 5)) ∧ (ndL m)[11]? = some (.int .i64 (m.1.rt 6)) ∧ (ndL m)[12]? = some (.int .i64 (m.1.rt 7)) :=
  ⟨rfl, rfl, rfl, rfl, rfl, rfl, rfl, rfl, rfl, rfl, rfl, rfl, rfl⟩
set_option maxRecDepth 100000 in
set_option maxHeartbeats 1000000 in
theorem nindex_any (F : FuncId) (cap : Array Value) (p : Nd → Bool) (A : Option Addr) (c B n : Nat) (M : List Ndm) (w : World) (hent : ∀ (args : Array Value) (w : World), (callFunc F args).run Try.prog w = .ok (.enter F args) w)
    (hF : ∀ (m : Ndm) (w' : World), m ∈ M → Fr w.heap.size [] w w' → Calls Try.prog F (#[.agg (ndA m.1 m.2.1 m.2.2)] ++ cap) w' fun e w'' => e = .returned (.bool (p m.1)) ∧ Fr w'.heap.size [] w' w'')
    (hm : n ≤ 1000000) (h : Nds w B A n M) (hB : B ≤ w.heap.size) :
    Calls Try.prog 59 #[.slice A n c, .func (.func F) #[] cap] w fun e w' => ∃ i : Int, e = .returned (.int .i64 i) ∧ ((i = -1 ∧ ∀ m ∈ M, p m.1 = false) ∨ ∃ (k : Nat) (m : Ndm), i = (k : Int) ∧ M[k]? = some m ∧ p m.1 = true ∧ ∀ j y, j < k → M[j]? = some y → p y.1 = false) ∧ Fr w.heap.size [] w w' := by
  have HF := Lib.hid hF
  have H := Lib.hid h
  have HN := Lib.hid h.num
  clear hF h
  go_enter Try.func59, Try.ntmps59
  go_wp2_with fail
  go_loopg [8] n (fun g s8 wr => ∃ k : Nat, k ≤ n ∧ g = n - k ∧ s8 = .int .i64 k ∧ RowKit.Hid (∀ j y, j < k → M[j]? = some y → p y.1 = false) ∧ RowKit.Hid (Fr w.heap.size [] w wr))
  case atStart => exact ⟨0, Nat.zero_le _, rfl, rfl, Lib.hid (fun j y h => absurd h (by omega)), Lib.hid (Fr.refl _ _ _)⟩
  case round =>
    obtain ⟨k, hk, rfl, rfl, HP, FR⟩ := hrel
    by_cases hkn : k < n
    · have hki : (k : Int) < (n : Int) := by omega
      have hk0 : (0 : Int) ≤ (k : Int) := by omega
      obtain ⟨m, hx⟩ : ∃ m, M[k]? = some m := ⟨_, List.getElem?_eq_getElem (by rw [← HN.out]; exact hkn)⟩
      obtain ⟨b1, o1, rfl, hb1, hc1⟩ := (H.out.frw FR.out hB (by simp)).get hx
      obtain ⟨g0, g1, g2, g3, g4, g5, g6, g7, g8, g9, g10, g11, g12⟩ := ndL_get m
      have p0 := hc1 0 _ g0
      have p1 := hc1 1 _ g1
      have p2 := hc1 2 _ g2
      have p3 := hc1 3 _ g3
      have p4 := hc1 4 _ g4
      have p5 := hc1 5 _ g5
      have p6 := hc1 6 _ g6
      have p7 := hc1 7 _ g7
      have p8 := hc1 8 _ g8
      have p9 := hc1 9 _ g9
      have p10 := hc1 10 _ g10
      have p11 := hc1 11 _ g11
      have p12 := hc1 12 _ g12
      simp only [Nat.add_zero] at p0
      have HC := HF.out m wr (List.mem_of_getElem? hx) FR.out
      have HX := Lib.hid hx
      clear hc1 hx g0 g1 g2 g3 g4 g5 g6 g7 g8 g9 g10 g11 g12
      obtain ⟨b, hb⟩ : ∃ b, b = p m.1 := ⟨_, rfl⟩
      rw [← hb] at HC
      have HC := Lib.hid HC
      have HPX := Lib.hid hb
      clear hb
      cases b with
      | true =>
        go_wp2_with fail
        refine HC.out.mono ?_
        rintro e w2 ⟨rfl, f2⟩
        have F2 := Lib.hid (FR.out.trans (f2.mono (B' := w.heap.size) (L' := []) FR.out.size (by simp)))
        clear f2 HC
        go_wp2_with fail
        go_ret
        exact ⟨k, rfl, .inr ⟨k, m, rfl, HX.out, HPX.out.symm, HP.out⟩, F2.out⟩
      | false =>
        go_wp2_with fail
        refine HC.out.mono ?_
        rintro e w2 ⟨rfl, f2⟩
        have F2 := Lib.hid (FR.out.trans (f2.mono (B' := w.heap.size) (L' := []) FR.out.size (by simp)))
        clear f2 HC
        go_wp2_with fail
        go_roundg (n - (k + 1))
        case measure => omega
        case rel =>
          refine ⟨k + 1, by omega, rfl, by go_num, Lib.hid fun j y hj hy => ?_, F2⟩
          rcases Nat.lt_or_ge j k with h | h
          · exact HP.out j y h hy
          · have : j = k := by omega
            subst this
            rw [HX.out] at hy
            injection hy with hy
            rw [← hy]
            exact HPX.out.symm
    · obtain rfl : k = n := by omega
      go_wp2_with fail
      go_ret
      refine ⟨-1, rfl, .inl ⟨rfl, fun m hx => ?_⟩, FR.out⟩
      obtain ⟨j, hj, rfl⟩ := List.mem_iff_getElem.1 hx
      exact HP.out j _ (by rw [HN.out]; exact hj) (List.getElem?_eq_getElem hj)
end Go.Proofs.Ytddngibfhklnfaa
