/- The contract of route.byWeight: the groups, sorted by the states of an insertion. -/
import Derived.Test.YtkgllkoooohikaaStable
namespace Go.Proofs.Ytkgllkoooohikaa
open Go.RowKit Go.Fb
/-- How two groups compare: the heavier first. -/
def cmpW (r : Nat → Int) (a b : Int) : Int := wgt (r b.toNat) - wgt (r a.toNat)
theorem all8 : someTo (fun _ => true) 8 = [0, 1, 2, 3, 4, 5, 6, 7] := by decide
theorem by1_any (k : Nat) (w : World) : Calls Try.prog 69 (#[.int .i64 k] ++ #[]) w fun e w' => e = .returned (.bool true) ∧ Fr w.heap.size [] w w' := by
  show Calls Try.prog 69 #[.int .i64 k] w _
  go_enter Try.func69, Try.ntmps69
  go_wp2_with fail
  go_ret
  exact ⟨rfl, Fr.refl _ _ _⟩
set_option maxRecDepth 100000 in
theorem byWeight_any (r : Nat → Int) (w : World) : Calls Try.prog 54 #[A8 r] w fun e w' => ∃ (A : Option Addr) (c : Nat) (xs : List Int), e = .returned (.slice A 8 c) ∧ (∃ j, St (cmpW r) [0, 1, 2, 3, 4, 5, 6, 7] 8 j xs) ∧ w'.ownsRow w.heap.size 3 1 (.slice A 8 c) 8 (xs.map (Value.int .i64)) ∧ Fr w.heap.size [] w w' := by
  go_enter Try.func54, Try.ntmps54
  go_wp2_with fail
  have hb := Blk.new w 64 (C8 r)
  have hf := (Fr.refl w.heap.size [] w).alloc (Nat.le_refl _) (.cells (C8 r) 64)
  generalize w.alloc _ = w1 at *
  refine (some_any 69 #[] (fun _ => true) w1 (fun _ _ => by kernel_rfl) (fun k w' _ _ => by1_any k w')).mono ?_
  rintro e w2 ⟨A, c, rfl, ho, f2⟩
  rw [all8] at ho ⊢
  have ho8 : w2.ownsRow w1.heap.size 3 1 (.slice A 8 c) 8 (([0, 1, 2, 3, 4, 5, 6, 7] : List Int).map (Value.int .i64)) := ho
  obtain ⟨g, cap, hv, hbg, hg2⟩ := ho8.form (by omega)
  have hA : A = some ⟨g, 0, none⟩ := by injection hv
  subst hA
  have B2 := hb.fr f2 hb.lt (by simp)
  have hlt := hb.lt
  have F2 := Lib.hid (hf.trans (f2.mono hf.size (by simp)))
  have hin := insort_any 71 #[.pointer (some ⟨w.heap.size, 0, none⟩)] (cmpW r) w1.heap.size g 8 c [0, 1, 2, 3, 4, 5, 6, 7] w2 (by omega) (by omega) rfl (fun _ _ => by kernel_rfl) (fun a b w' ha hb' hf' => by
    have h1 : 0 ≤ a ∧ a < 8 := by simp at ha; omega
    have h2 : 0 ≤ b ∧ b < 8 := by simp at hb'; omega
    obtain ⟨a, rfl⟩ := Int.eq_ofNat_of_zero_le h1.1
    obtain ⟨b, rfl⟩ := Int.eq_ofNat_of_zero_le h2.1
    exact cmpw_any w.heap.size r a b w' (by omega) (by omega) (B2.fr hf' B2.lt (by simp; omega))) ho8
  have HST := Lib.hid (stable_any _ _ _ _ _ _ _ _ _ (by omega) hin)
  clear hin ho ho8 hb hf f2 B2 hv
  go_wp2_with fail
  refine HST.out.mono ?_
  rintro e w3 ⟨xs, rfl, hs, ho3, f3⟩
  have HS := Lib.hid hs
  have HO := Lib.hid (ownsRow_base ho3 (by omega : w.heap.size ≤ w1.heap.size))
  have HF := Lib.hid (F2.out.trans (f3.mono (B' := w.heap.size) (L' := []) F2.out.size (fun q hq hl => by simp at hq; omega)))
  clear hs ho3 f3
  go_wp2_with fail
  go_ret
  exact ⟨_, c, xs, rfl, HS.out, HO.out, HF.out⟩
end Go.Proofs.Ytkgllkoooohikaa
