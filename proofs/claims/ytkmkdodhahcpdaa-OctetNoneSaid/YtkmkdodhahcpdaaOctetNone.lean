/- forebaylaw01.OctetNone: what is not there writes and reads nothing. -/
import Derived.Test.YtkmkdodhahcpdaaOctetRef
namespace Go.Proofs.Ytkmkdodhahcpdaa
open Go.RowKit Go.Fb

set_option maxRecDepth 100000 in
theorem walk_OctetNone (n : Int) (_ : (Lit.int .i64 n).wf = true) (s : ByteArray) (_ : s.size ≤ maxLen) (w : World) :
    Calls Try.prog 13 #[.int .i64 n, .string s] w fun e w' => e = .returned (.bool true) ∧ Below w.heap.size w w' := by
  go_enter Try.func13, Try.ntmps13
  go_wp2_with (first
    | (go_at_call 15; refine (awake01 _).mono ?_; rintro e w1 ⟨rfl, hb1⟩)
    | (go_at_call 47; refine (rnum_nil _).mono ?_; rintro e w' ⟨rfl, rfl⟩)
    | (go_at_call 50; refine (rtext_nil _ _).mono ?_; rintro e w' ⟨rfl, rfl⟩)
    | (go_at_call 49; refine (within_nil _ _ _).mono ?_; rintro e w' ⟨rfl, rfl⟩)
    | (go_at_call 48; refine (left_nil _).mono ?_; rintro e w' ⟨rfl, rfl⟩)
    | (go_at_call 52; refine (end_nil _).mono ?_; rintro e w' ⟨rfl, rfl⟩)
    | (go_at_call 16; refine (num_nil _ _).mono ?_; rintro e w' ⟨rfl, rfl⟩)
    | (go_at_call 51; refine (wtext_nil _ _).mono ?_; rintro e w' ⟨rfl, rfl⟩)
    | (go_at_call 17; refine (out_nil _).mono ?_; rintro e w' ⟨rfl, rfl⟩))
  go_ret
  exact ⟨rfl, hb1.alloc hb1.size _⟩
end Go.Proofs.Ytkmkdodhahcpdaa
