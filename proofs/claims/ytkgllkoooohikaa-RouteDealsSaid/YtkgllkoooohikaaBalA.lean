/- The contracts of route.Balance's small parts: what a group weighs, and the compare of two groups by weight. -/
import Derived.Test.YtkgllkoooohikaaRouteB
import Derived.Deep.RegionHeld3
namespace Go.Proofs.Ytkgllkoooohikaa
open Go.RowKit Go.Fb
/-- What a group weighs. -/
def wgt (n : Int) : Int := if n < 0 ∨ 1048576 < n then 0 else n
theorem wgt_range (n : Int) : 0 ≤ wgt n ∧ wgt n ≤ 1048576 := by unfold wgt; split <;> omega
theorem weight_any (n : Int) (w : World) : Calls Try.prog 55 #[.int .i64 n] w fun e w' => e = .returned (.int .i64 (wgt n)) ∧ w = w' := by
  by_cases h1 : n < 0
  · have hv : wgt n = 0 := by unfold wgt; rw [if_pos (.inl h1)]
    rw [hv]
    clear hv
    go_enter Try.func55, Try.ntmps55
    go_wp2_with fail
    go_ret
    exact ⟨rfl, rfl⟩
  by_cases h2 : 1048576 < n
  · have hv : wgt n = 0 := by unfold wgt; rw [if_pos (.inr h2)]
    rw [hv]
    clear hv
    go_enter Try.func55, Try.ntmps55
    go_wp2_with fail
    go_ret
    exact ⟨rfl, rfl⟩
  · have hv : wgt n = n := by unfold wgt; rw [if_neg (by omega)]
    rw [hv]
    clear hv
    go_enter Try.func55, Try.ntmps55
    go_wp2_with fail
    go_ret
    exact ⟨rfl, rfl⟩
set_option maxRecDepth 100000 in
theorem cmpw_any (gb : Nat) (r : Nat → Int) (a b : Nat) (w : World) (ha : a < 8) (hb : b < 8) (h1 : Blk w gb 64 (C8 r)) :
    Calls Try.prog 71 #[.int .i64 a, .int .i64 b, .pointer (some ⟨gb, 0, none⟩)] w fun e w' => e = .returned (.int .i64 (wgt (r b) - wgt (r a))) ∧ Fr w.heap.size [] w w' := by
  have hca := h1.cell a
  rw [C8_get r ha] at hca
  have hcb := h1.cell b
  rw [C8_get r hb] at hcb
  have hai : (a : Int) < 8 := by omega
  have hbi : (b : Int) < 8 := by omega
  obtain ⟨p1, p2⟩ := wgt_range (r a)
  obtain ⟨q1, q2⟩ := wgt_range (r b)
  have HW : RowKit.Hid (IntKind.i64.wrap (wgt (r b) - wgt (r a)) = wgt (r b) - wgt (r a)) := by
    show _ = _
    rw [IntKind.wrap_i64]
    omega
  have H := Lib.hid weight_any
  have HD : RowKit.Hid (w.drew.cell? ⟨gb, a, none⟩ = some (.int .i64 (r a)) ∧ w.drew.cell? ⟨gb, b, none⟩ = some (.int .i64 (r b))) := ⟨hca, hcb⟩
  clear h1
  go_enter Try.func71, Try.ntmps71
  go_wp2_with fail
  go_region_held3 (fun wx => wx.cell? ⟨gb, a, none⟩ = some (.int .i64 (r a)) ∧ wx.cell? ⟨gb, b, none⟩ = some (.int .i64 (r b))) (exact HD.out)
    ((go_at_call 55; refine (H.out _ _).mono ?_; rintro e w' ⟨rfl, rfl⟩))
  all_goals
    go_wp2_with fail
    go_ret
    exact ⟨by show Ending.returned (.int .i64 (IntKind.i64.wrap (wgt (r b) - wgt (r a)))) = _; rw [HW.out], (Fr.refl _ _ _).drew⟩
end Go.Proofs.Ytkgllkoooohikaa
