/- The contracts of package route, second part: lists of groups. -/
import Derived.Test.YtkgllkoooohikaaRouteA
namespace Go.Proofs.Ytkgllkoooohikaa
open Go.RowKit Go.Fb

theorem intsTy : SliceTy Try.prog 50 3 1 8 := SliceTy.mk' (z := .int .i64 0) Try.underlying50 (by kernel_rfl) rfl (by omega)
/-- A list of ints of the call's own is handed back; nothing that was there has turned. -/
def RetInts (w : World) (xs : List Int) (e : Ending) (w' : World) : Prop :=
  ∃ A c, e = .returned (.slice A xs.length c) ∧ w'.ownsRow w.heap.size 3 1 (.slice A xs.length c) xs.length (xs.map (Value.int .i64)) ∧ Fr w.heap.size [] w w'
/-- The groups of which something is so. -/
def someTo (p : Nat → Bool) (n : Nat) : List Int := ((List.range n).filter p).map fun k : Nat => (k : Int)
theorem someTo_succ (p : Nat → Bool) (k : Nat) : someTo p (k + 1) = someTo p k ++ if p k then [(k : Int)] else [] := by
  unfold someTo
  rw [List.range_succ, List.filter_append, List.map_append]
  cases h : p k <;> simp [h]
theorem someTo_length (p : Nat → Bool) (k : Nat) : (someTo p k).length ≤ k := by
  unfold someTo
  have := List.length_filter_le p (List.range k)
  simp at this ⊢
  omega

set_option maxRecDepth 100000 in
theorem some_any (F : FuncId) (cap : Array Value) (p : Nat → Bool) (w : World) (hent : ∀ (args : Array Value) (w : World), (callFunc F args).run Try.prog w = .ok (.enter F args) w)
    (hF : ∀ (k : Nat) (w' : World), k < 8 → Fr w.heap.size [] w w' → Calls Try.prog F (#[.int .i64 k] ++ cap) w' fun e w'' => e = .returned (.bool (p k)) ∧ Fr w'.heap.size [] w' w'') :
    Calls Try.prog 56 #[.func (.func F) #[] cap] w (RetInts w (someTo p 8)) := by
  have HF := Lib.hid hF
  clear hF
  go_enter Try.func56, Try.ntmps56
  go_wp2_with fail
  go_loopw [3, 5] (fun s i wr => ∃ (k : Nat) (n : Nat) (A : Option Addr) (c : Nat), k ≤ 8 ∧ i = .int .i64 k ∧ s = .slice A n c ∧ n ≤ 8 ∧ n = (someTo p k).length ∧ wr.ownsRow w.heap.size 3 1 (.slice A n c) n ((someTo p k).map (Value.int .i64)) ∧ Fr w.heap.size [] w wr) (fun _ i _ => 8 - (intOf i).toNat)
  case atStart => exact ⟨0, 0, none, 0, by omega, rfl, rfl, by omega, rfl, (World.ownsRow_nil _ _ _ _ : w.ownsRow _ _ _ _ 0 []), Fr.refl _ _ _⟩
  case round =>
    obtain ⟨k, n, A, c, hk, rfl, rfl, hn8, hn, hown, hfr⟩ := hrel
    have HN := Lib.hid hn
    have HO := Lib.hid hown
    have HR := Lib.hid hfr
    have hsz := hfr.size
    clear hn hown hfr
    by_cases hlt : k < 8
    · go_wp2_with fail
      refine (HF.out k wr hlt HR.out).mono ?_
      rintro e w1 ⟨rfl, hf1⟩
      have ho1 := ownsRow_fr HO.out hf1 (fun q hq => ⟨(HO.out.lt q hq).2, by simp⟩)
      have hz1 := hf1.size
      have hfr1 := Lib.hid (HR.out.trans (hf1.mono (B' := w.heap.size) (L' := []) hsz (by simp)))
      have hs := someTo_succ p k
      have HS := Lib.hid hs
      clear hf1 hs
      by_cases hp : p k = true
      · rw [hp]
        have HP := Lib.hid hp
        clear hp
        go_wp2_with (at_builtin; refine wpList_app_lit _ rfl (.tmp 11) (.tmp 13) intsTy rfl w.heap.size (.slice A n c) _ _ rfl ho1 1 1 _ rfl rfl (by simp [Value.oneCell']) (by omega) (by omega) (by omega) ?_; intro A' c' w2 hown2 hg2 hat2)
        go_roundw
        case rel =>
          refine ⟨k + 1, n + 1, A', c', by omega, by go_num, rfl, ?_, ?_, ?_, hfr1.out.trans (Fr.of_app hg2 ho1 (by omega))⟩
          · have := someTo_length p k; have := HN.out; omega
          · rw [HS.out, HP.out]; simp; exact HN.out
          · rw [HS.out, HP.out]; simpa using hown2
        case measure => simp [intOf]; omega
      · have hp' : p k = false := by simpa using hp
        rw [hp']
        have HP := Lib.hid hp'
        have HO1 := Lib.hid ho1
        clear hp hp' ho1
        go_wp2_with fail
        go_roundw
        case rel =>
          refine ⟨k + 1, n, A, c, by omega, by go_num, rfl, hn8, ?_, ?_, hfr1.out⟩
          · rw [HS.out, HP.out]; simpa using HN.out
          · rw [HS.out, HP.out]; simpa using HO1.out
        case measure => simp [intOf]; omega
    · obtain rfl : k = 8 := by omega
      go_wp2_with fail
      go_ret
      refine ⟨A, c, ?_, ?_, HR.out⟩
      · rw [← HN.out]; rfl
      · rw [← HN.out]; exact HO.out

set_option maxRecDepth 100000 in
theorem groups1_any (g1 g2 : Nat) (r : Nat → Int) (n : Int) (k : Nat) (w : World) (hk : k < 8) (h1 : Blk w g1 64 (C8 r)) (h2 : Blk w g2 3 #[.int .i64 n]) :
    Calls Try.prog 57 #[.int .i64 k, .pointer (some ⟨g1, 0, none⟩), .pointer (some ⟨g2, 0, none⟩)] w fun e w' => e = .returned (.bool (r k == n)) ∧ Fr w.heap.size [] w w' := by
  have hc := h1.cell k
  rw [C8_get r hk] at hc
  have hc2 := h2.cell 0
  have hki : (k : Int) < 8 := by omega
  clear h1 h2
  go_enter Try.func57, Try.ntmps57
  go_wp2_with fail
  go_quiet (fail)
  go_wp2_with fail
  go_ret
  exact ⟨rfl, (Fr.refl _ _ _).drewN _⟩
theorem groups_any (r : Nat → Int) (n : Int) (w : World) : Calls Try.prog 33 #[A8 r, .int .i64 n] w (RetInts w (someTo (fun k => r k == n) 8)) := by
  have hs := some_any 57 #[.pointer (some ⟨w.heap.size, 0, none⟩), .pointer (some ⟨w.heap.size + 1, 0, none⟩)] (fun k => r k == n) ((w.alloc (.cells (C8 r) 64)).alloc (.cells #[.int .i64 n] 3))
    (fun _ _ => by kernel_rfl) (fun k w' hk hf => groups1_any _ _ r n k w' hk (((Blk.new w _ _).alloc _).fr hf (by simp; omega) (by simp)) (by
      have h := (Blk.new (w.alloc (.cells (C8 r) 64)) 3 #[.int .i64 n]).fr hf (by simp) (by simp)
      rwa [show (w.alloc (.cells (C8 r) 64)).heap.size = w.heap.size + 1 by simp] at h))
  have HS := Lib.hid hs
  clear hs
  go_enter Try.func33, Try.ntmps33
  go_wp2_with fail
  refine HS.out.mono ?_
  rintro e w1 ⟨A, c, rfl, hown, hfr⟩
  have HO := Lib.hid hown
  have HF := Lib.hid hfr
  clear hown hfr
  go_wp2_with fail
  go_ret
  exact ⟨A, c, rfl, ownsRow_base HO.out (by simp; omega), ((((Fr.refl _ _ _).alloc (Nat.le_refl _) _).alloc (by simp) _).trans (HF.out.mono (by simp; omega) (by simp)))⟩
end Go.Proofs.Ytkgllkoooohikaa
