/- Texts merged into one, for the number of files a claim may have: NdDel. -/
import Derived.Test.YtfakgidimekikaaMNdK
import Derived.Test.YtfakgidimekikaaMDel
import Derived.Deep.RegionLaw
namespace Go.Proofs.Ytfakgidimekikaa
open Go.RowKit Go.Fb
theorem ndc_take (M : List Ndm) (k : Nat) : (cellsN M).take (k * 13) = cellsN (M.take k) := by
  have h : cellsN M = cellsN (M.take k) ++ cellsN (M.drop k) := by rw [← cellsN_app, List.take_append_drop]
  rcases Nat.lt_or_ge M.length k with hk | hk
  · rw [List.take_of_length_le (by omega : M.length ≤ k), List.take_of_length_le (by rw [cellsN_length]; omega)]
  · rw [h, List.take_append_of_le_length (by rw [cellsN_length, List.length_take]; omega), List.take_of_length_le (by rw [cellsN_length, List.length_take]; omega)]
theorem ndc_drop (M : List Ndm) (k : Nat) (hk : k ≤ M.length) : (cellsN M).drop (k * 13) = cellsN (M.drop k) := by
  have h : cellsN M = cellsN (M.take k) ++ cellsN (M.drop k) := by rw [← cellsN_app, List.take_append_drop]
  rw [h, List.drop_append_of_le_length (by rw [cellsN_length, List.length_take]; omega), List.drop_of_length_le (by rw [cellsN_length, List.length_take]; omega), List.nil_append]
theorem ndz_one : ∀ u ∈ (Value.agg ndZ).cells, u.oneCell' = true := by decide +kernel
theorem Fr.of_grown {w w' : World} {g : Nat} (h : w.grownBy w' (some g)) : Fr w.heap.size [g] w w' := (Fr.refl _ _ _).grown h (Nat.le_refl _) (fun k hk => .inr (by injection hk with hk; simp [hk]))
theorem ndc_app (a b : List Ndm) : cellsN (a ++ b) = cellsN a ++ cellsN b := cellsN_app a b
theorem ndOnes {M : List Ndm} (h : ∀ m ∈ M, SlN m) : ∀ u ∈ cellsN M, u.oneCell' = true := by
  intro u hu
  obtain ⟨m, hm, hu⟩ := List.mem_flatMap.1 hu
  obtain ⟨A, n, c, P, q, d, h1, h2⟩ := h m hm
  obtain ⟨x, sf, sp⟩ := m
  simp only at h1 h2
  subst h1
  subst h2
  simp [ndL] at hu
  rcases hu with rfl | rfl | rfl | rfl | rfl | rfl | rfl | rfl | rfl | rfl | rfl | rfl | rfl <;> rfl
set_option maxRecDepth 100000 in
set_option maxHeartbeats 2000000 in
theorem ndel_any (base g n c k : Nat) (M : List Ndm) (w : World) (hn : n = M.length) (hk : k < n) (hm : n ≤ 1000000) (hsl : ∀ m ∈ M, SlN m) (ho : w.ownsRow base 35 13 (.slice (some ⟨g, 0, none⟩) n c) n (cellsN M)) :
    Calls Try.prog 47 #[.slice (some ⟨g, 0, none⟩) n c, .int .i64 (k : Int), .int .i64 ((k : Int) + 1)] w fun e w' => e = .returned (.slice (some ⟨g, 0, none⟩) (n - 1) c) ∧ w'.ownsRow base 35 13 (.slice (some ⟨g, 0, none⟩) (n - 1) c) (n - 1) (cellsN (M.take k ++ M.drop (k + 1))) ∧ Fr w.heap.size [g] w w' := by
  obtain ⟨_, _, he, _, hcap, _⟩ := ownsRow_shape ho
  injection he with he1 _ he2
  subst he1
  subst he2
  have hkn : (k : Int) < (n : Int) := by omega
  have hk0 : (0 : Int) ≤ (k : Int) := by omega
  have hk1 : (k : Int) ≤ (k : Int) + 1 := by omega
  have hk2 : (k : Int) + 1 ≤ (n : Int) := by omega
  have hk3 : (0 : Int) ≤ (k : Int) + 1 := by omega
  have hnc : (n : Int) ≤ (c : Int) := by omega
  have hkc : (k : Int) ≤ (c : Int) := by omega
  have hkd : ((k : Int) == (k : Int) + 1) = false := by simp; omega
  have hone := Lib.hid (ndOnes hsl)
  have HO := Lib.hid ho
  have HP := Lib.hid (own_prefix ho k (by omega))
  have HN := Lib.hid hn
  have hnews : ∀ ad : Addr, ad = ⟨g, (k + 1) * 13, none⟩ → ∀ j u, (cellsN (M.drop (k + 1)))[j]? = some u → w.cell? (ad.add j) = some u := by
    rintro ad rfl j u hu
    have : (⟨g, (k + 1) * 13, none⟩ : Addr).add j = ⟨g, (k + 1) * 13 + j, none⟩ := by unfold Addr.add; split <;> simp_all
    rw [this]
    have hj : j < (cellsN (M.drop (k + 1))).length := by
      rcases Nat.lt_or_ge j (cellsN (M.drop (k + 1))).length with h | h
      · exact h
      · rw [List.getElem?_eq_none h] at hu; cases hu
    rw [cellsN_length, List.length_drop] at hj
    rw [ho.cellAt _ (by omega), ← hu, ← ndc_drop M (k + 1) (by omega), List.getElem?_drop]
  have HNEWS := Lib.hid hnews
  have HNL := Lib.hid (show (cellsN (M.drop (k + 1))).length = (n - (k + 1)) * 13 by rw [cellsN_length, List.length_drop, hn])
  have hone2 := Lib.hid (show ∀ u ∈ cellsN (M.drop (k + 1)), u.oneCell' = true from ndOnes fun m hm => hsl m (List.mem_of_mem_drop hm))
  clear ho hn hnews hsl
  have HPD := Lib.hid (show w.drew.ownsRow base 35 13 (.slice (some ⟨g, 0, none⟩) k c) k (cellsN (M.take k)) by rw [← ndc_take]; exact HP.out)
  clear HP hone
  go_enter Try.func47, Try.ntmps47
  go_upto_region 5 with fail
  have hck : c = k + 1 ∨ ¬ c = k + 1 := Classical.em _
  rcases hck with hck | hck
  case' inl =>
    obtain rfl : n = k + 1 := by omega
    subst hck
    have HNC := Lib.hid (show ∀ j u, ([] : List Value)[j]? = some u → w.drew.cell? ((⟨g, 0, none⟩ : Addr).add j) = some u by
      intro j u hu
      simp at hu)
    have hdn : M.drop (k + 1) = [] := List.drop_eq_nil_of_le (by rw [← HN.out]; exact Nat.le_refl _)
    have HDN := Lib.hid hdn
    clear hdn
    go_region_law (refine step_fits (by rfl) (.tmp 22) (.tmp 25) nodeTy (by rfl) base g k (k + 1) (cellsN (M.take k)) (by rfl) HPD.out ⟨g, 0, none⟩ 0 _ [] (by rfl) (by rfl) HNC.out (by simp) (by omega) ?_; intro w5 ho5 hg5)
    obtain ⟨wz, hcl, hoz, hfz⟩ := run_clear_behind nodeTy (.agg ndZ) (by kernel_rfl) rfl ndz_one ho5 (m := 1) (by omega) 0 (k + 1 - k)
    have HZ := Lib.hid hoz
    have FZ := Lib.hid (((Fr.refl w.heap.size [g] w).drew.trans (Fr.of_grown hg5)).trans (hfz.mono (B' := w.heap.size) (L' := [g]) (by have := hg5.size; simpa using this) (by simp)))
    simp only [Nat.add_zero, Nat.add_sub_cancel_left] at hcl HZ
    clear ho5 hg5 hoz hfz HPD HNC HNEWS hone2 HO
    go_wp2_with fail
    go_ret
    refine ⟨rfl, ?_, FZ.out⟩
    rw [HDN.out, List.append_nil]
    simpa using HZ.out
  case' inr =>
    have HNC := Lib.hid (show ∀ j u, (cellsN (M.drop (k + 1)))[j]? = some u → w.drew.cell? ((⟨g, (k + 1) * 13, none⟩ : Addr).add j) = some u from HNEWS.out _ rfl)
    go_region_law (refine step_fits (by rfl) (.tmp 22) (.tmp 25) nodeTy (by rfl) base g k c (cellsN (M.take k)) (by rfl) HPD.out ⟨g, (k + 1) * 13, none⟩ (n - (k + 1)) _ (cellsN (M.drop (k + 1))) (by rfl) HNL.out HNC.out hone2.out (by omega) ?_; intro w5 ho5 hg5)
    have hsum : k + (n - (k + 1)) = n - 1 := by omega
    rw [hsum] at ho5
    rw [hsum]
    clear hsum
    obtain ⟨q, rfl⟩ : ∃ q, n = q + 1 := ⟨n - 1, by omega⟩
    simp only [Nat.add_sub_cancel] at ho5
    simp only [Nat.add_sub_cancel]
    obtain ⟨wz, hcl, hoz, hfz⟩ := run_clear_behind nodeTy (.agg ndZ) (by kernel_rfl) rfl ndz_one ho5 (m := 1) (by omega) 0 (c - q)
    have HZ := Lib.hid hoz
    have FZ := Lib.hid (((Fr.refl w.heap.size [g] w).drew.trans (Fr.of_grown hg5)).trans (hfz.mono (B' := w.heap.size) (L' := [g]) (by have := hg5.size; simpa using this) (by simp)))
    have hq0 : (0 : Int) ≤ (q : Int) := by omega
    have hqn : (q : Int) ≤ (q : Int) + 1 := by omega
    have hqc : (q : Int) + 1 ≤ (c : Int) := by omega
    have hcq : ¬ c = q := by omega
    clear ho5 hg5 hoz hfz HPD HNC HNEWS hone2 HO
    go_wp2_with fail
    go_ret
    exact ⟨rfl, by rw [ndc_app]; exact HZ.out, FZ.out⟩
end Go.Proofs.Ytfakgidimekikaa
