/-
  No cell of these rows narrows 'for every input' (looked for: loops, veiled, ifaces, maps, wideKeys, modest, calm, conditions, laid).
  DERIVED. THE GIVEN ROWS OF THIS SEAT. 6 by the template 'for every input the law returns true; each argument reads behind the call as it read before'; 0 by the template 'total and deterministic' (their statements: YthfibggbipkmfaaGreatTotals.lean).
  GIVEN WITH THE SEED: the statements are not yours to turn. If you find one false, say at which input.
  Laid BY PROGRAM, IN A SANDBOX (cutbox-rows.mjs): the forced cells as the released guide's own fill.sh prints them over the translation 8146101adc743b6d… (all of the seat's roots in one cut). By AI agents, Wed Nov 11 2026. No macro, syntax, notation, axiom, sorry.
-/
import Derived.Test.YthfibggbipkmfaaGreatChecked
import GoSem.Claim
import GoSem.ClaimJoined
import GoSem.ClaimMapViews
import Derived.JoinedTies
import Derived.KernelRfl
namespace Go.Proofs.YthfibggbipkmfaaGreat
/- THE CELL 'sum', in the pinned program and in every row, IS THE sha256 OF THE DUMP (.gsa) THAT YthfibggbipkmfaaGreatProg.lean LOADS. Nothing in Lean hashes anything: it is a label: what it is worth is what the hold of that sum in a sandbox is worth. -/
noncomputable def Tryz.pinned : Pinned := { name := "ythfibggbipkmfaagreat", sum := "8146101adc743b6dd1f9c4c6585b46834d6b03ef05754fdd0115ec28b8834155", checked := Tryz.checked }
namespace Rows
def none {H : Type} : Left H := { results := [], args := [] }

/-- 'forebaylaw12.DenCounts': WHATEVER THE INPUT: true; the input reads as it did. -/
def denCountsSpec : ChangeSpec := { name := "denCounts", fn := fun _ => fun
  | [d1, d2] => { results := [.lit (.bool true)], args := [d1, d2] }
  | _ => none }
def denCountsRow : OpenClaim := { program := "ythfibggbipkmfaagreat", sum := "8146101adc743b6dd1f9c4c6585b46834d6b03ef05754fdd0115ec28b8834155", func := "forebay/forebaylaw12.DenCounts", spec := "denCounts", unfollowed := true, recurses := true, plainKeys := false, apart := false }
def DenCountsSaid : Prop := denCountsRow.holds Tryz.pinned (OpenSpec.ofChange denCountsSpec)

/-- ITS FALSE NEIGHBOUR: 'it returns false'. Refute it at one input. -/
def denCountsWrong : ChangeSpec := { name := "denCounts", fn := fun _ => fun
  | [d1, d2] => { results := [.lit (.bool false)], args := [d1, d2] }
  | _ => none }
def DenCountsWrongFalsely : Prop := denCountsRow.holds Tryz.pinned (OpenSpec.ofChange denCountsWrong)

/-- 'forebaylaw12.DenOrder': WHATEVER THE INPUT: true; the input reads as it did. -/
def denOrderSpec : ChangeSpec := { name := "denOrder", fn := fun _ => fun
  | [d1, d2] => { results := [.lit (.bool true)], args := [d1, d2] }
  | _ => none }
def denOrderRow : OpenClaim := { program := "ythfibggbipkmfaagreat", sum := "8146101adc743b6dd1f9c4c6585b46834d6b03ef05754fdd0115ec28b8834155", func := "forebay/forebaylaw12.DenOrder", spec := "denOrder", unfollowed := true, recurses := true, plainKeys := false, apart := false }
def DenOrderSaid : Prop := denOrderRow.holds Tryz.pinned (OpenSpec.ofChange denOrderSpec)

/-- ITS FALSE NEIGHBOUR: 'it returns false'. Refute it at one input. -/
def denOrderWrong : ChangeSpec := { name := "denOrder", fn := fun _ => fun
  | [d1, d2] => { results := [.lit (.bool false)], args := [d1, d2] }
  | _ => none }
def DenOrderWrongFalsely : Prop := denOrderRow.holds Tryz.pinned (OpenSpec.ofChange denOrderWrong)

/-- 'forebaylaw12.DenRuns': WHATEVER THE INPUT: true; the input reads as it did. -/
def denRunsSpec : ChangeSpec := { name := "denRuns", fn := fun _ => fun
  | [d1, d2] => { results := [.lit (.bool true)], args := [d1, d2] }
  | _ => none }
def denRunsRow : OpenClaim := { program := "ythfibggbipkmfaagreat", sum := "8146101adc743b6dd1f9c4c6585b46834d6b03ef05754fdd0115ec28b8834155", func := "forebay/forebaylaw12.DenRuns", spec := "denRuns", unfollowed := true, recurses := true, plainKeys := false, apart := false }
def DenRunsSaid : Prop := denRunsRow.holds Tryz.pinned (OpenSpec.ofChange denRunsSpec)

/-- ITS FALSE NEIGHBOUR: 'it returns false'. Refute it at one input. -/
def denRunsWrong : ChangeSpec := { name := "denRuns", fn := fun _ => fun
  | [d1, d2] => { results := [.lit (.bool false)], args := [d1, d2] }
  | _ => none }
def DenRunsWrongFalsely : Prop := denRunsRow.holds Tryz.pinned (OpenSpec.ofChange denRunsWrong)

/-- 'forebaylaw12.DenBranches': WHATEVER THE INPUT: true; the input reads as it did. -/
def denBranchesSpec : ChangeSpec := { name := "denBranches", fn := fun _ => fun
  | [d1, d2, d3] => { results := [.lit (.bool true)], args := [d1, d2, d3] }
  | _ => none }
def denBranchesRow : OpenClaim := { program := "ythfibggbipkmfaagreat", sum := "8146101adc743b6dd1f9c4c6585b46834d6b03ef05754fdd0115ec28b8834155", func := "forebay/forebaylaw12.DenBranches", spec := "denBranches", unfollowed := true, recurses := true, plainKeys := false, apart := false }
def DenBranchesSaid : Prop := denBranchesRow.holds Tryz.pinned (OpenSpec.ofChange denBranchesSpec)

/-- ITS FALSE NEIGHBOUR: 'it returns false'. Refute it at one input. -/
def denBranchesWrong : ChangeSpec := { name := "denBranches", fn := fun _ => fun
  | [d1, d2, d3] => { results := [.lit (.bool false)], args := [d1, d2, d3] }
  | _ => none }
def DenBranchesWrongFalsely : Prop := denBranchesRow.holds Tryz.pinned (OpenSpec.ofChange denBranchesWrong)

/-- 'forebaylaw12.DenMoves': WHATEVER THE INPUT: true; the input reads as it did. -/
def denMovesSpec : ChangeSpec := { name := "denMoves", fn := fun _ => fun
  | [d1, d2] => { results := [.lit (.bool true)], args := [d1, d2] }
  | _ => none }
def denMovesRow : OpenClaim := { program := "ythfibggbipkmfaagreat", sum := "8146101adc743b6dd1f9c4c6585b46834d6b03ef05754fdd0115ec28b8834155", func := "forebay/forebaylaw12.DenMoves", spec := "denMoves", unfollowed := true, recurses := true, plainKeys := false, apart := false }
def DenMovesSaid : Prop := denMovesRow.holds Tryz.pinned (OpenSpec.ofChange denMovesSpec)

/-- ITS FALSE NEIGHBOUR: 'it returns false'. Refute it at one input. -/
def denMovesWrong : ChangeSpec := { name := "denMoves", fn := fun _ => fun
  | [d1, d2] => { results := [.lit (.bool false)], args := [d1, d2] }
  | _ => none }
def DenMovesWrongFalsely : Prop := denMovesRow.holds Tryz.pinned (OpenSpec.ofChange denMovesWrong)

/-- 'forebaylaw12.DenCuts': WHATEVER THE INPUT: true; the input reads as it did. -/
def denCutsSpec : ChangeSpec := { name := "denCuts", fn := fun _ => fun
  | [d1, d2, d3] => { results := [.lit (.bool true)], args := [d1, d2, d3] }
  | _ => none }
def denCutsRow : OpenClaim := { program := "ythfibggbipkmfaagreat", sum := "8146101adc743b6dd1f9c4c6585b46834d6b03ef05754fdd0115ec28b8834155", func := "forebay/forebaylaw12.DenCuts", spec := "denCuts", unfollowed := true, recurses := true, plainKeys := false, apart := false }
def DenCutsSaid : Prop := denCutsRow.holds Tryz.pinned (OpenSpec.ofChange denCutsSpec)

/-- ITS FALSE NEIGHBOUR: 'it returns false'. Refute it at one input. -/
def denCutsWrong : ChangeSpec := { name := "denCuts", fn := fun _ => fun
  | [d1, d2, d3] => { results := [.lit (.bool false)], args := [d1, d2, d3] }
  | _ => none }
def DenCutsWrongFalsely : Prop := denCutsRow.holds Tryz.pinned (OpenSpec.ofChange denCutsWrong)

/- THE SECOND FORM. 'bulk': how many values and letters a reading holds, each counted each time it is reached (what is shared counts as often as it is met; a slice's spare places count too). A statement '..UptoSaid' is the law's where the arguments, and the package variables that the reading takes, are together of bulk at most 1048576: NARROWER than '..Said'. Prove '..Said' where nothing that the law and all that it calls make is longer than what came in: it says more and counts as full. Else prove '..UptoSaid'. A law counts once. -/
mutual
def uptoBulk {H : Type} : DataW H → Nat
  | .lit (.string bytes) => bytes.length + 1
  | .lit _ => 1
  | .nil => 1
  | .ptr d => uptoBulk d + 1
  | .slice elems spare => uptoBulkAll elems + uptoBulkAll spare + 1
  | .agg parts => uptoBulkAll parts + 1
  | .iface _ d => uptoBulk d + 1
  | .map entries => uptoBulkEntries entries + 1
  | .held _ => 1
def uptoBulkAll {H : Type} : List (DataW H) → Nat
  | [] => 0
  | d :: r => uptoBulk d + uptoBulkAll r
def uptoBulkEntries {H : Type} : List (Lit × DataW H) → Nat
  | [] => 0
  | x :: r => uptoBulkEntry x + uptoBulkEntries r
def uptoBulkEntry {H : Type} : Lit × DataW H → Nat
  | (.string bytes, d) => bytes.length + uptoBulk d + 1
  | (_, d) => uptoBulk d + 1
 end
def uptoSmall : (H : Type) → List (DataW H) → Bool := fun _ ds => decide (uptoBulkAll ds ≤ 1048576)
def OpenSpec.upto (s : _root_.Go.ChangeSpec) : _root_.Go.OpenSpec := { _root_.Go.OpenSpec.ofChange s with cond := some uptoSmall }

/-- 'forebaylaw12.DenCounts', WHERE WHAT IT READS IS OF BULK AT MOST 1048576: true; the input reads as it did. -/
def denCountsUptoRow : OpenClaim := { program := "ythfibggbipkmfaagreat", sum := "8146101adc743b6dd1f9c4c6585b46834d6b03ef05754fdd0115ec28b8834155", func := "forebay/forebaylaw12.DenCounts", spec := "denCounts", unfollowed := true, recurses := true, plainKeys := false, apart := false, narrowed := true }
def DenCountsUptoSaid : Prop := denCountsUptoRow.holds Tryz.pinned (OpenSpec.upto denCountsSpec)

/-- 'forebaylaw12.DenOrder', WHERE WHAT IT READS IS OF BULK AT MOST 1048576: true; the input reads as it did. -/
def denOrderUptoRow : OpenClaim := { program := "ythfibggbipkmfaagreat", sum := "8146101adc743b6dd1f9c4c6585b46834d6b03ef05754fdd0115ec28b8834155", func := "forebay/forebaylaw12.DenOrder", spec := "denOrder", unfollowed := true, recurses := true, plainKeys := false, apart := false, narrowed := true }
def DenOrderUptoSaid : Prop := denOrderUptoRow.holds Tryz.pinned (OpenSpec.upto denOrderSpec)

/-- 'forebaylaw12.DenRuns', WHERE WHAT IT READS IS OF BULK AT MOST 1048576: true; the input reads as it did. -/
def denRunsUptoRow : OpenClaim := { program := "ythfibggbipkmfaagreat", sum := "8146101adc743b6dd1f9c4c6585b46834d6b03ef05754fdd0115ec28b8834155", func := "forebay/forebaylaw12.DenRuns", spec := "denRuns", unfollowed := true, recurses := true, plainKeys := false, apart := false, narrowed := true }
def DenRunsUptoSaid : Prop := denRunsUptoRow.holds Tryz.pinned (OpenSpec.upto denRunsSpec)

/-- 'forebaylaw12.DenBranches', WHERE WHAT IT READS IS OF BULK AT MOST 1048576: true; the input reads as it did. -/
def denBranchesUptoRow : OpenClaim := { program := "ythfibggbipkmfaagreat", sum := "8146101adc743b6dd1f9c4c6585b46834d6b03ef05754fdd0115ec28b8834155", func := "forebay/forebaylaw12.DenBranches", spec := "denBranches", unfollowed := true, recurses := true, plainKeys := false, apart := false, narrowed := true }
def DenBranchesUptoSaid : Prop := denBranchesUptoRow.holds Tryz.pinned (OpenSpec.upto denBranchesSpec)

/-- 'forebaylaw12.DenMoves', WHERE WHAT IT READS IS OF BULK AT MOST 1048576: true; the input reads as it did. -/
def denMovesUptoRow : OpenClaim := { program := "ythfibggbipkmfaagreat", sum := "8146101adc743b6dd1f9c4c6585b46834d6b03ef05754fdd0115ec28b8834155", func := "forebay/forebaylaw12.DenMoves", spec := "denMoves", unfollowed := true, recurses := true, plainKeys := false, apart := false, narrowed := true }
def DenMovesUptoSaid : Prop := denMovesUptoRow.holds Tryz.pinned (OpenSpec.upto denMovesSpec)

/-- 'forebaylaw12.DenCuts', WHERE WHAT IT READS IS OF BULK AT MOST 1048576: true; the input reads as it did. -/
def denCutsUptoRow : OpenClaim := { program := "ythfibggbipkmfaagreat", sum := "8146101adc743b6dd1f9c4c6585b46834d6b03ef05754fdd0115ec28b8834155", func := "forebay/forebaylaw12.DenCuts", spec := "denCuts", unfollowed := true, recurses := true, plainKeys := false, apart := false, narrowed := true }
def DenCutsUptoSaid : Prop := denCutsUptoRow.holds Tryz.pinned (OpenSpec.upto denCutsSpec)

end Rows
end Go.Proofs.YthfibggbipkmfaaGreat
