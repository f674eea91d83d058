/-
  No cell of these rows narrows 'for every input' (looked for: loops, veiled, ifaces, maps, wideKeys, modest, calm, conditions, laid).
  DERIVED. THE GIVEN ROWS OF THIS SEAT. 12 by the template 'for every input the law returns true; each argument reads behind the call as it read before'; 0 by the template 'total and deterministic' (their statements: YtfakgidimekikaaGreatTotals.lean).
  GIVEN WITH THE SEED: the statements are not yours to turn. If you find one false, say at which input.
  Laid BY PROGRAM, IN A SANDBOX (cutbox-rows.mjs): the forced cells as the released guide's own fill.sh prints them over the translation 8dda37587abc01b4… (all of the seat's roots in one cut). By AI agents, Wed Nov 11 2026. No macro, syntax, notation, axiom, sorry.
-/
import Derived.Test.YtfakgidimekikaaGreatChecked
import GoSem.Claim
import GoSem.ClaimJoined
import GoSem.ClaimMapViews
import Derived.JoinedTies
import Derived.KernelRfl
namespace Go.Proofs.YtfakgidimekikaaGreat
/- THE CELL 'sum', in the pinned program and in every row, IS THE sha256 OF THE DUMP (.gsa) THAT YtfakgidimekikaaGreatProg.lean LOADS. Nothing in Lean hashes anything: it is a label: what it is worth is what the hold of that sum in a sandbox is worth. -/
noncomputable def Tryz.pinned : Pinned := { name := "ytfakgidimekikaagreat", sum := "8dda37587abc01b4c193a8a602c6b057811c33bf951ee39ba572901201d40f50", checked := Tryz.checked }
namespace Rows
def none {H : Type} : Left H := { results := [], args := [] }

/-- 'forebaylaw12.DenCompares': WHATEVER THE INPUT: true; the input reads as it did. -/
def denComparesSpec : ChangeSpec := { name := "denCompares", fn := fun _ => fun
  | [d1, d2, d3] => { results := [.lit (.bool true)], args := [d1, d2, d3] }
  | _ => none }
def denComparesRow : OpenClaim := { program := "ytfakgidimekikaagreat", sum := "8dda37587abc01b4c193a8a602c6b057811c33bf951ee39ba572901201d40f50", func := "forebay/forebaylaw12.DenCompares", spec := "denCompares", unfollowed := true, recurses := true, plainKeys := false, apart := false }
def DenComparesSaid : Prop := denComparesRow.holds Tryz.pinned (OpenSpec.ofChange denComparesSpec)

/-- ITS FALSE NEIGHBOUR: 'it returns false'. Refute it at one input. -/
def denComparesWrong : ChangeSpec := { name := "denCompares", fn := fun _ => fun
  | [d1, d2, d3] => { results := [.lit (.bool false)], args := [d1, d2, d3] }
  | _ => none }
def DenComparesWrongFalsely : Prop := denComparesRow.holds Tryz.pinned (OpenSpec.ofChange denComparesWrong)

/-- 'forebaylaw11.RemapMoves': WHATEVER THE INPUT: true; the input reads as it did. -/
def remapMovesSpec : ChangeSpec := { name := "remapMoves", fn := fun _ => fun
  | [d1, d2, d3] => { results := [.lit (.bool true)], args := [d1, d2, d3] }
  | _ => none }
def remapMovesRow : OpenClaim := { program := "ytfakgidimekikaagreat", sum := "8dda37587abc01b4c193a8a602c6b057811c33bf951ee39ba572901201d40f50", func := "forebay/forebaylaw11.RemapMoves", spec := "remapMoves", unfollowed := true, recurses := true, plainKeys := false, apart := false }
def RemapMovesSaid : Prop := remapMovesRow.holds Tryz.pinned (OpenSpec.ofChange remapMovesSpec)

/-- ITS FALSE NEIGHBOUR: 'it returns false'. Refute it at one input. -/
def remapMovesWrong : ChangeSpec := { name := "remapMoves", fn := fun _ => fun
  | [d1, d2, d3] => { results := [.lit (.bool false)], args := [d1, d2, d3] }
  | _ => none }
def RemapMovesWrongFalsely : Prop := remapMovesRow.holds Tryz.pinned (OpenSpec.ofChange remapMovesWrong)

/-- 'forebaylaw11.RemapApplies': WHATEVER THE INPUT: true; the input reads as it did. -/
def remapAppliesSpec : ChangeSpec := { name := "remapApplies", fn := fun _ => fun
  | [d1, d2, d3] => { results := [.lit (.bool true)], args := [d1, d2, d3] }
  | _ => none }
def remapAppliesRow : OpenClaim := { program := "ytfakgidimekikaagreat", sum := "8dda37587abc01b4c193a8a602c6b057811c33bf951ee39ba572901201d40f50", func := "forebay/forebaylaw11.RemapApplies", spec := "remapApplies", unfollowed := true, recurses := true, plainKeys := false, apart := false }
def RemapAppliesSaid : Prop := remapAppliesRow.holds Tryz.pinned (OpenSpec.ofChange remapAppliesSpec)

/-- ITS FALSE NEIGHBOUR: 'it returns false'. Refute it at one input. -/
def remapAppliesWrong : ChangeSpec := { name := "remapApplies", fn := fun _ => fun
  | [d1, d2, d3] => { results := [.lit (.bool false)], args := [d1, d2, d3] }
  | _ => none }
def RemapAppliesWrongFalsely : Prop := remapAppliesRow.holds Tryz.pinned (OpenSpec.ofChange remapAppliesWrong)

/-- 'forebaylaw11.RemapSteps': WHATEVER THE INPUT: true; the input reads as it did. -/
def remapStepsSpec : ChangeSpec := { name := "remapSteps", fn := fun _ => fun
  | [d1, d2, d3] => { results := [.lit (.bool true)], args := [d1, d2, d3] }
  | _ => none }
def remapStepsRow : OpenClaim := { program := "ytfakgidimekikaagreat", sum := "8dda37587abc01b4c193a8a602c6b057811c33bf951ee39ba572901201d40f50", func := "forebay/forebaylaw11.RemapSteps", spec := "remapSteps", inPlace := ["maps.clone"], unfollowed := true, recurses := true, plainKeys := false, apart := false }
def RemapStepsSaid : Prop := remapStepsRow.holds Tryz.pinned (OpenSpec.ofChange remapStepsSpec)

/-- ITS FALSE NEIGHBOUR: 'it returns false'. Refute it at one input. -/
def remapStepsWrong : ChangeSpec := { name := "remapSteps", fn := fun _ => fun
  | [d1, d2, d3] => { results := [.lit (.bool false)], args := [d1, d2, d3] }
  | _ => none }
def RemapStepsWrongFalsely : Prop := remapStepsRow.holds Tryz.pinned (OpenSpec.ofChange remapStepsWrong)

/-- 'forebaylaw11.RemapLoads': WHATEVER THE INPUT: true; the input reads as it did. -/
def remapLoadsSpec : ChangeSpec := { name := "remapLoads", fn := fun _ => fun
  | [d1, d2, d3] => { results := [.lit (.bool true)], args := [d1, d2, d3] }
  | _ => none }
def remapLoadsRow : OpenClaim := { program := "ytfakgidimekikaagreat", sum := "8dda37587abc01b4c193a8a602c6b057811c33bf951ee39ba572901201d40f50", func := "forebay/forebaylaw11.RemapLoads", spec := "remapLoads", unfollowed := true, recurses := true, plainKeys := false, apart := false }
def RemapLoadsSaid : Prop := remapLoadsRow.holds Tryz.pinned (OpenSpec.ofChange remapLoadsSpec)

/-- ITS FALSE NEIGHBOUR: 'it returns false'. Refute it at one input. -/
def remapLoadsWrong : ChangeSpec := { name := "remapLoads", fn := fun _ => fun
  | [d1, d2, d3] => { results := [.lit (.bool false)], args := [d1, d2, d3] }
  | _ => none }
def RemapLoadsWrongFalsely : Prop := remapLoadsRow.holds Tryz.pinned (OpenSpec.ofChange remapLoadsWrong)

/-- 'forebaylaw12.DenCounts': WHATEVER THE INPUT: true; the input reads as it did. -/
def denCountsSpec : ChangeSpec := { name := "denCounts", fn := fun _ => fun
  | [d1, d2] => { results := [.lit (.bool true)], args := [d1, d2] }
  | _ => none }
def denCountsRow : OpenClaim := { program := "ytfakgidimekikaagreat", sum := "8dda37587abc01b4c193a8a602c6b057811c33bf951ee39ba572901201d40f50", func := "forebay/forebaylaw12.DenCounts", spec := "denCounts", unfollowed := true, recurses := true, plainKeys := false, apart := false }
def DenCountsSaid : Prop := denCountsRow.holds Tryz.pinned (OpenSpec.ofChange denCountsSpec)

/-- ITS FALSE NEIGHBOUR: 'it returns false'. Refute it at one input. -/
def denCountsWrong : ChangeSpec := { name := "denCounts", fn := fun _ => fun
  | [d1, d2] => { results := [.lit (.bool false)], args := [d1, d2] }
  | _ => none }
def DenCountsWrongFalsely : Prop := denCountsRow.holds Tryz.pinned (OpenSpec.ofChange denCountsWrong)

/-- 'forebaylaw12.DenOrder': WHATEVER THE INPUT: true; the input reads as it did. -/
def denOrderSpec : ChangeSpec := { name := "denOrder", fn := fun _ => fun
  | [d1, d2] => { results := [.lit (.bool true)], args := [d1, d2] }
  | _ => none }
def denOrderRow : OpenClaim := { program := "ytfakgidimekikaagreat", sum := "8dda37587abc01b4c193a8a602c6b057811c33bf951ee39ba572901201d40f50", func := "forebay/forebaylaw12.DenOrder", spec := "denOrder", unfollowed := true, recurses := true, plainKeys := false, apart := false }
def DenOrderSaid : Prop := denOrderRow.holds Tryz.pinned (OpenSpec.ofChange denOrderSpec)

/-- ITS FALSE NEIGHBOUR: 'it returns false'. Refute it at one input. -/
def denOrderWrong : ChangeSpec := { name := "denOrder", fn := fun _ => fun
  | [d1, d2] => { results := [.lit (.bool false)], args := [d1, d2] }
  | _ => none }
def DenOrderWrongFalsely : Prop := denOrderRow.holds Tryz.pinned (OpenSpec.ofChange denOrderWrong)

/-- 'forebaylaw12.DenPass': WHATEVER THE INPUT: true; the input reads as it did. -/
def denPassSpec : ChangeSpec := { name := "denPass", fn := fun _ => fun
  | [d1, d2, d3] => { results := [.lit (.bool true)], args := [d1, d2, d3] }
  | _ => none }
def denPassRow : OpenClaim := { program := "ytfakgidimekikaagreat", sum := "8dda37587abc01b4c193a8a602c6b057811c33bf951ee39ba572901201d40f50", func := "forebay/forebaylaw12.DenPass", spec := "denPass", unfollowed := true, recurses := true, plainKeys := false, apart := false }
def DenPassSaid : Prop := denPassRow.holds Tryz.pinned (OpenSpec.ofChange denPassSpec)

/-- ITS FALSE NEIGHBOUR: 'it returns false'. Refute it at one input. -/
def denPassWrong : ChangeSpec := { name := "denPass", fn := fun _ => fun
  | [d1, d2, d3] => { results := [.lit (.bool false)], args := [d1, d2, d3] }
  | _ => none }
def DenPassWrongFalsely : Prop := denPassRow.holds Tryz.pinned (OpenSpec.ofChange denPassWrong)

/-- 'forebaylaw12.DenRuns': WHATEVER THE INPUT: true; the input reads as it did. -/
def denRunsSpec : ChangeSpec := { name := "denRuns", fn := fun _ => fun
  | [d1, d2] => { results := [.lit (.bool true)], args := [d1, d2] }
  | _ => none }
def denRunsRow : OpenClaim := { program := "ytfakgidimekikaagreat", sum := "8dda37587abc01b4c193a8a602c6b057811c33bf951ee39ba572901201d40f50", func := "forebay/forebaylaw12.DenRuns", spec := "denRuns", unfollowed := true, recurses := true, plainKeys := false, apart := false }
def DenRunsSaid : Prop := denRunsRow.holds Tryz.pinned (OpenSpec.ofChange denRunsSpec)

/-- ITS FALSE NEIGHBOUR: 'it returns false'. Refute it at one input. -/
def denRunsWrong : ChangeSpec := { name := "denRuns", fn := fun _ => fun
  | [d1, d2] => { results := [.lit (.bool false)], args := [d1, d2] }
  | _ => none }
def DenRunsWrongFalsely : Prop := denRunsRow.holds Tryz.pinned (OpenSpec.ofChange denRunsWrong)

/-- 'forebaylaw12.DenBranches': WHATEVER THE INPUT: true; the input reads as it did. -/
def denBranchesSpec : ChangeSpec := { name := "denBranches", fn := fun _ => fun
  | [d1, d2, d3] => { results := [.lit (.bool true)], args := [d1, d2, d3] }
  | _ => none }
def denBranchesRow : OpenClaim := { program := "ytfakgidimekikaagreat", sum := "8dda37587abc01b4c193a8a602c6b057811c33bf951ee39ba572901201d40f50", func := "forebay/forebaylaw12.DenBranches", spec := "denBranches", unfollowed := true, recurses := true, plainKeys := false, apart := false }
def DenBranchesSaid : Prop := denBranchesRow.holds Tryz.pinned (OpenSpec.ofChange denBranchesSpec)

/-- ITS FALSE NEIGHBOUR: 'it returns false'. Refute it at one input. -/
def denBranchesWrong : ChangeSpec := { name := "denBranches", fn := fun _ => fun
  | [d1, d2, d3] => { results := [.lit (.bool false)], args := [d1, d2, d3] }
  | _ => none }
def DenBranchesWrongFalsely : Prop := denBranchesRow.holds Tryz.pinned (OpenSpec.ofChange denBranchesWrong)

/-- 'forebaylaw12.DenMoves': WHATEVER THE INPUT: true; the input reads as it did. -/
def denMovesSpec : ChangeSpec := { name := "denMoves", fn := fun _ => fun
  | [d1, d2] => { results := [.lit (.bool true)], args := [d1, d2] }
  | _ => none }
def denMovesRow : OpenClaim := { program := "ytfakgidimekikaagreat", sum := "8dda37587abc01b4c193a8a602c6b057811c33bf951ee39ba572901201d40f50", func := "forebay/forebaylaw12.DenMoves", spec := "denMoves", unfollowed := true, recurses := true, plainKeys := false, apart := false }
def DenMovesSaid : Prop := denMovesRow.holds Tryz.pinned (OpenSpec.ofChange denMovesSpec)

/-- ITS FALSE NEIGHBOUR: 'it returns false'. Refute it at one input. -/
def denMovesWrong : ChangeSpec := { name := "denMoves", fn := fun _ => fun
  | [d1, d2] => { results := [.lit (.bool false)], args := [d1, d2] }
  | _ => none }
def DenMovesWrongFalsely : Prop := denMovesRow.holds Tryz.pinned (OpenSpec.ofChange denMovesWrong)

/-- 'forebaylaw12.DenCuts': WHATEVER THE INPUT: true; the input reads as it did. -/
def denCutsSpec : ChangeSpec := { name := "denCuts", fn := fun _ => fun
  | [d1, d2, d3] => { results := [.lit (.bool true)], args := [d1, d2, d3] }
  | _ => none }
def denCutsRow : OpenClaim := { program := "ytfakgidimekikaagreat", sum := "8dda37587abc01b4c193a8a602c6b057811c33bf951ee39ba572901201d40f50", func := "forebay/forebaylaw12.DenCuts", spec := "denCuts", unfollowed := true, recurses := true, plainKeys := false, apart := false }
def DenCutsSaid : Prop := denCutsRow.holds Tryz.pinned (OpenSpec.ofChange denCutsSpec)

/-- ITS FALSE NEIGHBOUR: 'it returns false'. Refute it at one input. -/
def denCutsWrong : ChangeSpec := { name := "denCuts", fn := fun _ => fun
  | [d1, d2, d3] => { results := [.lit (.bool false)], args := [d1, d2, d3] }
  | _ => none }
def DenCutsWrongFalsely : Prop := denCutsRow.holds Tryz.pinned (OpenSpec.ofChange denCutsWrong)

/- THE SECOND FORM. 'bulk': how many values and letters a reading holds, each counted each time it is reached (what is shared counts as often as it is met; a slice's spare places count too). A statement '..UptoSaid' is the law's where the arguments, and the package variables that the reading takes, are together of bulk at most 1048576: NARROWER than '..Said'. Prove '..Said' where nothing that the law and all that it calls make is longer than what came in: it says more and counts as full. Else prove '..UptoSaid'. A law counts once. -/
mutual
def uptoBulk {H : Type} : DataW H → Nat
  | .lit (.string bytes) => bytes.length + 1
  | .lit _ => 1
  | .nil => 1
  | .ptr d => uptoBulk d + 1
  | .slice elems spare => uptoBulkAll elems + uptoBulkAll spare + 1
  | .agg parts => uptoBulkAll parts + 1
  | .iface _ d => uptoBulk d + 1
  | .map entries => uptoBulkEntries entries + 1
  | .held _ => 1
def uptoBulkAll {H : Type} : List (DataW H) → Nat
  | [] => 0
  | d :: r => uptoBulk d + uptoBulkAll r
def uptoBulkEntries {H : Type} : List (Lit × DataW H) → Nat
  | [] => 0
  | x :: r => uptoBulkEntry x + uptoBulkEntries r
def uptoBulkEntry {H : Type} : Lit × DataW H → Nat
  | (.string bytes, d) => bytes.length + uptoBulk d + 1
  | (_, d) => uptoBulk d + 1
 end
def uptoSmall : (H : Type) → List (DataW H) → Bool := fun _ ds => decide (uptoBulkAll ds ≤ 1048576)
def OpenSpec.upto (s : _root_.Go.ChangeSpec) : _root_.Go.OpenSpec := { _root_.Go.OpenSpec.ofChange s with cond := some uptoSmall }

/-- 'forebaylaw12.DenCompares', WHERE WHAT IT READS IS OF BULK AT MOST 1048576: true; the input reads as it did. -/
def denComparesUptoRow : OpenClaim := { program := "ytfakgidimekikaagreat", sum := "8dda37587abc01b4c193a8a602c6b057811c33bf951ee39ba572901201d40f50", func := "forebay/forebaylaw12.DenCompares", spec := "denCompares", unfollowed := true, recurses := true, plainKeys := false, apart := false, narrowed := true }
def DenComparesUptoSaid : Prop := denComparesUptoRow.holds Tryz.pinned (OpenSpec.upto denComparesSpec)

/-- 'forebaylaw11.RemapMoves', WHERE WHAT IT READS IS OF BULK AT MOST 1048576: true; the input reads as it did. -/
def remapMovesUptoRow : OpenClaim := { program := "ytfakgidimekikaagreat", sum := "8dda37587abc01b4c193a8a602c6b057811c33bf951ee39ba572901201d40f50", func := "forebay/forebaylaw11.RemapMoves", spec := "remapMoves", unfollowed := true, recurses := true, plainKeys := false, apart := false, narrowed := true }
def RemapMovesUptoSaid : Prop := remapMovesUptoRow.holds Tryz.pinned (OpenSpec.upto remapMovesSpec)

/-- 'forebaylaw11.RemapApplies', WHERE WHAT IT READS IS OF BULK AT MOST 1048576: true; the input reads as it did. -/
def remapAppliesUptoRow : OpenClaim := { program := "ytfakgidimekikaagreat", sum := "8dda37587abc01b4c193a8a602c6b057811c33bf951ee39ba572901201d40f50", func := "forebay/forebaylaw11.RemapApplies", spec := "remapApplies", unfollowed := true, recurses := true, plainKeys := false, apart := false, narrowed := true }
def RemapAppliesUptoSaid : Prop := remapAppliesUptoRow.holds Tryz.pinned (OpenSpec.upto remapAppliesSpec)

/-- 'forebaylaw11.RemapSteps', WHERE WHAT IT READS IS OF BULK AT MOST 1048576: true; the input reads as it did. -/
def remapStepsUptoRow : OpenClaim := { program := "ytfakgidimekikaagreat", sum := "8dda37587abc01b4c193a8a602c6b057811c33bf951ee39ba572901201d40f50", func := "forebay/forebaylaw11.RemapSteps", spec := "remapSteps", inPlace := ["maps.clone"], unfollowed := true, recurses := true, plainKeys := false, apart := false, narrowed := true }
def RemapStepsUptoSaid : Prop := remapStepsUptoRow.holds Tryz.pinned (OpenSpec.upto remapStepsSpec)

/-- 'forebaylaw11.RemapLoads', WHERE WHAT IT READS IS OF BULK AT MOST 1048576: true; the input reads as it did. -/
def remapLoadsUptoRow : OpenClaim := { program := "ytfakgidimekikaagreat", sum := "8dda37587abc01b4c193a8a602c6b057811c33bf951ee39ba572901201d40f50", func := "forebay/forebaylaw11.RemapLoads", spec := "remapLoads", unfollowed := true, recurses := true, plainKeys := false, apart := false, narrowed := true }
def RemapLoadsUptoSaid : Prop := remapLoadsUptoRow.holds Tryz.pinned (OpenSpec.upto remapLoadsSpec)

/-- 'forebaylaw12.DenCounts', WHERE WHAT IT READS IS OF BULK AT MOST 1048576: true; the input reads as it did. -/
def denCountsUptoRow : OpenClaim := { program := "ytfakgidimekikaagreat", sum := "8dda37587abc01b4c193a8a602c6b057811c33bf951ee39ba572901201d40f50", func := "forebay/forebaylaw12.DenCounts", spec := "denCounts", unfollowed := true, recurses := true, plainKeys := false, apart := false, narrowed := true }
def DenCountsUptoSaid : Prop := denCountsUptoRow.holds Tryz.pinned (OpenSpec.upto denCountsSpec)

/-- 'forebaylaw12.DenOrder', WHERE WHAT IT READS IS OF BULK AT MOST 1048576: true; the input reads as it did. -/
def denOrderUptoRow : OpenClaim := { program := "ytfakgidimekikaagreat", sum := "8dda37587abc01b4c193a8a602c6b057811c33bf951ee39ba572901201d40f50", func := "forebay/forebaylaw12.DenOrder", spec := "denOrder", unfollowed := true, recurses := true, plainKeys := false, apart := false, narrowed := true }
def DenOrderUptoSaid : Prop := denOrderUptoRow.holds Tryz.pinned (OpenSpec.upto denOrderSpec)

/-- 'forebaylaw12.DenPass', WHERE WHAT IT READS IS OF BULK AT MOST 1048576: true; the input reads as it did. -/
def denPassUptoRow : OpenClaim := { program := "ytfakgidimekikaagreat", sum := "8dda37587abc01b4c193a8a602c6b057811c33bf951ee39ba572901201d40f50", func := "forebay/forebaylaw12.DenPass", spec := "denPass", unfollowed := true, recurses := true, plainKeys := false, apart := false, narrowed := true }
def DenPassUptoSaid : Prop := denPassUptoRow.holds Tryz.pinned (OpenSpec.upto denPassSpec)

/-- 'forebaylaw12.DenRuns', WHERE WHAT IT READS IS OF BULK AT MOST 1048576: true; the input reads as it did. -/
def denRunsUptoRow : OpenClaim := { program := "ytfakgidimekikaagreat", sum := "8dda37587abc01b4c193a8a602c6b057811c33bf951ee39ba572901201d40f50", func := "forebay/forebaylaw12.DenRuns", spec := "denRuns", unfollowed := true, recurses := true, plainKeys := false, apart := false, narrowed := true }
def DenRunsUptoSaid : Prop := denRunsUptoRow.holds Tryz.pinned (OpenSpec.upto denRunsSpec)

/-- 'forebaylaw12.DenBranches', WHERE WHAT IT READS IS OF BULK AT MOST 1048576: true; the input reads as it did. -/
def denBranchesUptoRow : OpenClaim := { program := "ytfakgidimekikaagreat", sum := "8dda37587abc01b4c193a8a602c6b057811c33bf951ee39ba572901201d40f50", func := "forebay/forebaylaw12.DenBranches", spec := "denBranches", unfollowed := true, recurses := true, plainKeys := false, apart := false, narrowed := true }
def DenBranchesUptoSaid : Prop := denBranchesUptoRow.holds Tryz.pinned (OpenSpec.upto denBranchesSpec)

/-- 'forebaylaw12.DenMoves', WHERE WHAT IT READS IS OF BULK AT MOST 1048576: true; the input reads as it did. -/
def denMovesUptoRow : OpenClaim := { program := "ytfakgidimekikaagreat", sum := "8dda37587abc01b4c193a8a602c6b057811c33bf951ee39ba572901201d40f50", func := "forebay/forebaylaw12.DenMoves", spec := "denMoves", unfollowed := true, recurses := true, plainKeys := false, apart := false, narrowed := true }
def DenMovesUptoSaid : Prop := denMovesUptoRow.holds Tryz.pinned (OpenSpec.upto denMovesSpec)

/-- 'forebaylaw12.DenCuts', WHERE WHAT IT READS IS OF BULK AT MOST 1048576: true; the input reads as it did. -/
def denCutsUptoRow : OpenClaim := { program := "ytfakgidimekikaagreat", sum := "8dda37587abc01b4c193a8a602c6b057811c33bf951ee39ba572901201d40f50", func := "forebay/forebaylaw12.DenCuts", spec := "denCuts", unfollowed := true, recurses := true, plainKeys := false, apart := false, narrowed := true }
def DenCutsUptoSaid : Prop := denCutsUptoRow.holds Tryz.pinned (OpenSpec.upto denCutsSpec)

end Rows
end Go.Proofs.YtfakgidimekikaaGreat
