/- slices.SortStableFunc on an owned row of at most 12 ints, whatever the compare. -/
import Derived.Test.YtkgllkoooohikaaInsort
namespace Go.Proofs.Ytkgllkoooohikaa
open Go.RowKit Go.Fb
/-- What the sort leaves. -/
def Sorted (c : Int → Int → Int) (base g n cp : Nat) (xs0 : List Int) (w : World) (e : Ending) (w' : World) : Prop :=
  ∃ xs, e = .returned (.tuple #[]) ∧ (∃ j, St c xs0 n j xs) ∧ w'.ownsRow base 3 1 (.slice (some ⟨g, 0, none⟩) n cp) n (xs.map (Value.int .i64)) ∧ Fr w.heap.size [g] w w'
set_option maxRecDepth 100000 in
theorem stable_any (F : FuncId) (cap : Array Value) (c : Int → Int → Int) (base g n cp : Nat) (xs0 : List Int) (w : World) (hn : n ≤ 12)
    (h : Calls Try.prog 80 #[.slice (some ⟨g, 0, none⟩) n cp, .int .i64 0, .int .i64 n, .func (.func F) #[] cap] w (Sorted c base g n cp xs0 w)) :
    Calls Try.prog 70 #[.slice (some ⟨g, 0, none⟩) n cp, .func (.func F) #[] cap] w (Sorted c base g n cp xs0 w) := by
  have H := Lib.hid h
  clear h
  have hst : Calls Try.prog 77 #[.slice (some ⟨g, 0, none⟩) n cp, .int .i64 n, .func (.func F) #[] cap] w (Sorted c base g n cp xs0 w) := by
    go_enter Try.func77, Try.ntmps77
    go_wp2_with fail
    go_loop [7, 8] (fun s t => s = .int .i64 0 ∧ t = .int .i64 20) (fun _ _ => 0)
    case atStart => exact ⟨rfl, rfl⟩
    case round =>
      obtain ⟨rfl, rfl⟩ := hrel
      go_wp2_with fail
      refine H.out.mono ?_
      rintro e w1 ⟨xs, rfl, hs, ho, hf⟩
      have HS := Lib.hid hs
      have HO := Lib.hid ho
      have HF := Lib.hid hf
      clear hs ho hf
      go_wp2_with fail
      go_loop [6] (fun s => s = .int .i64 20) (fun _ => 0)
      case atStart => rfl
      case round =>
        subst hrel
        go_wp2_with fail
        go_end0
        exact ⟨xs, rfl, HS.out, HO.out, HF.out⟩
  have HST := Lib.hid hst
  clear hst
  go_enter Try.func70, Try.ntmps70
  go_wp2_with fail
  refine HST.out.mono ?_
  rintro e w1 ⟨xs, rfl, hs, ho, hf⟩
  have HS := Lib.hid hs
  have HO := Lib.hid ho
  have HF := Lib.hid hf
  clear hs ho hf
  go_wp2_with fail
  go_end0
  exact ⟨xs, rfl, HS.out, HO.out, HF.out⟩
end Go.Proofs.Ytkgllkoooohikaa
