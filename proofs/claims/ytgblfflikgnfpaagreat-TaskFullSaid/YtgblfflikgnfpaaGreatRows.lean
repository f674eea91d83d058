/-
  No cell of these rows narrows 'for every input' (looked for: loops, veiled, ifaces, maps, wideKeys, modest, calm, conditions, laid).
  DERIVED. THE GIVEN ROWS OF THIS SEAT. 5 by the template 'for every input the law returns true; each argument reads behind the call as it read before'; 0 by the template 'total and deterministic' (their statements: YtgblfflikgnfpaaGreatTotals.lean).
  GIVEN WITH THE SEED: the statements are not yours to turn. If you find one false, say at which input.
  Laid BY PROGRAM, IN A SANDBOX (cutbox-rows.mjs): the forced cells as the released guide's own fill.sh prints them over the translation df1cd43852c001fe… (all of the seat's roots in one cut). By AI agents, Wed Nov 11 2026. No macro, syntax, notation, axiom, sorry.
-/
import Derived.Test.YtgblfflikgnfpaaGreatChecked
import GoSem.Claim
import GoSem.ClaimJoined
import GoSem.ClaimMapViews
import Derived.JoinedTies
import Derived.KernelRfl
namespace Go.Proofs.YtgblfflikgnfpaaGreat
/- THE CELL 'sum', in the pinned program and in every row, IS THE sha256 OF THE DUMP (.gsa) THAT YtgblfflikgnfpaaGreatProg.lean LOADS. Nothing in Lean hashes anything: it is a label: what it is worth is what the hold of that sum in a sandbox is worth. -/
noncomputable def Tryz.pinned : Pinned := { name := "ytgblfflikgnfpaagreat", sum := "df1cd43852c001feca7b8b48b6080617dcb6649a6e135f8ed76104e6ee958a9e", checked := Tryz.checked }
namespace Rows
def none {H : Type} : Left H := { results := [], args := [] }

/-- 'forebaylaw20.TaskCommits': WHATEVER THE INPUT: true; the input reads as it did. -/
def taskCommitsSpec : ChangeSpec := { name := "taskCommits", fn := fun _ => fun
  | [d1, d2] => { results := [.lit (.bool true)], args := [d1, d2] }
  | _ => none }
def taskCommitsRow : OpenClaim := { program := "ytgblfflikgnfpaagreat", sum := "df1cd43852c001feca7b8b48b6080617dcb6649a6e135f8ed76104e6ee958a9e", func := "forebay/forebaylaw20.TaskCommits", spec := "taskCommits", unfollowed := true, recurses := true, plainKeys := false, apart := false }
def TaskCommitsSaid : Prop := taskCommitsRow.holds Tryz.pinned (OpenSpec.ofChange taskCommitsSpec)

/-- ITS FALSE NEIGHBOUR: 'it returns false'. Refute it at one input. -/
def taskCommitsWrong : ChangeSpec := { name := "taskCommits", fn := fun _ => fun
  | [d1, d2] => { results := [.lit (.bool false)], args := [d1, d2] }
  | _ => none }
def TaskCommitsWrongFalsely : Prop := taskCommitsRow.holds Tryz.pinned (OpenSpec.ofChange taskCommitsWrong)

/-- 'forebaylaw20.TaskFlows': WHATEVER THE INPUT: true; the input reads as it did. -/
def taskFlowsSpec : ChangeSpec := { name := "taskFlows", fn := fun _ => fun
  | [d1, d2, d3] => { results := [.lit (.bool true)], args := [d1, d2, d3] }
  | _ => none }
def taskFlowsRow : OpenClaim := { program := "ytgblfflikgnfpaagreat", sum := "df1cd43852c001feca7b8b48b6080617dcb6649a6e135f8ed76104e6ee958a9e", func := "forebay/forebaylaw20.TaskFlows", spec := "taskFlows", unfollowed := true, recurses := true, plainKeys := false, apart := false }
def TaskFlowsSaid : Prop := taskFlowsRow.holds Tryz.pinned (OpenSpec.ofChange taskFlowsSpec)

/-- ITS FALSE NEIGHBOUR: 'it returns false'. Refute it at one input. -/
def taskFlowsWrong : ChangeSpec := { name := "taskFlows", fn := fun _ => fun
  | [d1, d2, d3] => { results := [.lit (.bool false)], args := [d1, d2, d3] }
  | _ => none }
def TaskFlowsWrongFalsely : Prop := taskFlowsRow.holds Tryz.pinned (OpenSpec.ofChange taskFlowsWrong)

/-- 'forebaylaw20.TaskFull': WHATEVER THE INPUT: true; the input reads as it did. -/
def taskFullSpec : ChangeSpec := { name := "taskFull", fn := fun _ => fun
  | [d1, d2, d3] => { results := [.lit (.bool true)], args := [d1, d2, d3] }
  | _ => none }
def taskFullRow : OpenClaim := { program := "ytgblfflikgnfpaagreat", sum := "df1cd43852c001feca7b8b48b6080617dcb6649a6e135f8ed76104e6ee958a9e", func := "forebay/forebaylaw20.TaskFull", spec := "taskFull", unfollowed := true, recurses := true, plainKeys := false, apart := false }
def TaskFullSaid : Prop := taskFullRow.holds Tryz.pinned (OpenSpec.ofChange taskFullSpec)

/-- ITS FALSE NEIGHBOUR: 'it returns false'. Refute it at one input. -/
def taskFullWrong : ChangeSpec := { name := "taskFull", fn := fun _ => fun
  | [d1, d2, d3] => { results := [.lit (.bool false)], args := [d1, d2, d3] }
  | _ => none }
def TaskFullWrongFalsely : Prop := taskFullRow.holds Tryz.pinned (OpenSpec.ofChange taskFullWrong)

/-- 'forebaylaw20.TaskMakes': WHATEVER THE INPUT: true; the input reads as it did. -/
def taskMakesSpec : ChangeSpec := { name := "taskMakes", fn := fun _ => fun
  | [d1, d2, d3] => { results := [.lit (.bool true)], args := [d1, d2, d3] }
  | _ => none }
def taskMakesRow : OpenClaim := { program := "ytgblfflikgnfpaagreat", sum := "df1cd43852c001feca7b8b48b6080617dcb6649a6e135f8ed76104e6ee958a9e", func := "forebay/forebaylaw20.TaskMakes", spec := "taskMakes", unfollowed := true, recurses := true, plainKeys := false, apart := false }
def TaskMakesSaid : Prop := taskMakesRow.holds Tryz.pinned (OpenSpec.ofChange taskMakesSpec)

/-- ITS FALSE NEIGHBOUR: 'it returns false'. Refute it at one input. -/
def taskMakesWrong : ChangeSpec := { name := "taskMakes", fn := fun _ => fun
  | [d1, d2, d3] => { results := [.lit (.bool false)], args := [d1, d2, d3] }
  | _ => none }
def TaskMakesWrongFalsely : Prop := taskMakesRow.holds Tryz.pinned (OpenSpec.ofChange taskMakesWrong)

/-- 'forebaylaw20.TaskReads': WHATEVER THE INPUT: true; the input reads as it did. -/
def taskReadsSpec : ChangeSpec := { name := "taskReads", fn := fun _ => fun
  | [d1, d2, d3] => { results := [.lit (.bool true)], args := [d1, d2, d3] }
  | _ => none }
def taskReadsRow : OpenClaim := { program := "ytgblfflikgnfpaagreat", sum := "df1cd43852c001feca7b8b48b6080617dcb6649a6e135f8ed76104e6ee958a9e", func := "forebay/forebaylaw20.TaskReads", spec := "taskReads", unfollowed := true, recurses := true, plainKeys := false, apart := false }
def TaskReadsSaid : Prop := taskReadsRow.holds Tryz.pinned (OpenSpec.ofChange taskReadsSpec)

/-- ITS FALSE NEIGHBOUR: 'it returns false'. Refute it at one input. -/
def taskReadsWrong : ChangeSpec := { name := "taskReads", fn := fun _ => fun
  | [d1, d2, d3] => { results := [.lit (.bool false)], args := [d1, d2, d3] }
  | _ => none }
def TaskReadsWrongFalsely : Prop := taskReadsRow.holds Tryz.pinned (OpenSpec.ofChange taskReadsWrong)

/- THE SECOND FORM. 'bulk': how many values and letters a reading holds, each counted each time it is reached (what is shared counts as often as it is met; a slice's spare places count too). A statement '..UptoSaid' is the law's where the arguments, and the package variables that the reading takes, are together of bulk at most 1048576: NARROWER than '..Said'. Prove '..Said' where nothing that the law and all that it calls make is longer than what came in: it says more and counts as full. Else prove '..UptoSaid'. A law counts once. -/
mutual
def uptoBulk {H : Type} : DataW H → Nat
  | .lit (.string bytes) => bytes.length + 1
  | .lit _ => 1
  | .nil => 1
  | .ptr d => uptoBulk d + 1
  | .slice elems spare => uptoBulkAll elems + uptoBulkAll spare + 1
  | .agg parts => uptoBulkAll parts + 1
  | .iface _ d => uptoBulk d + 1
  | .map entries => uptoBulkEntries entries + 1
  | .held _ => 1
def uptoBulkAll {H : Type} : List (DataW H) → Nat
  | [] => 0
  | d :: r => uptoBulk d + uptoBulkAll r
def uptoBulkEntries {H : Type} : List (Lit × DataW H) → Nat
  | [] => 0
  | x :: r => uptoBulkEntry x + uptoBulkEntries r
def uptoBulkEntry {H : Type} : Lit × DataW H → Nat
  | (.string bytes, d) => bytes.length + uptoBulk d + 1
  | (_, d) => uptoBulk d + 1
 end
def uptoSmall : (H : Type) → List (DataW H) → Bool := fun _ ds => decide (uptoBulkAll ds ≤ 1048576)
def OpenSpec.upto (s : _root_.Go.ChangeSpec) : _root_.Go.OpenSpec := { _root_.Go.OpenSpec.ofChange s with cond := some uptoSmall }

/-- 'forebaylaw20.TaskCommits', WHERE WHAT IT READS IS OF BULK AT MOST 1048576: true; the input reads as it did. -/
def taskCommitsUptoRow : OpenClaim := { program := "ytgblfflikgnfpaagreat", sum := "df1cd43852c001feca7b8b48b6080617dcb6649a6e135f8ed76104e6ee958a9e", func := "forebay/forebaylaw20.TaskCommits", spec := "taskCommits", unfollowed := true, recurses := true, plainKeys := false, apart := false, narrowed := true }
def TaskCommitsUptoSaid : Prop := taskCommitsUptoRow.holds Tryz.pinned (OpenSpec.upto taskCommitsSpec)

/-- 'forebaylaw20.TaskFlows', WHERE WHAT IT READS IS OF BULK AT MOST 1048576: true; the input reads as it did. -/
def taskFlowsUptoRow : OpenClaim := { program := "ytgblfflikgnfpaagreat", sum := "df1cd43852c001feca7b8b48b6080617dcb6649a6e135f8ed76104e6ee958a9e", func := "forebay/forebaylaw20.TaskFlows", spec := "taskFlows", unfollowed := true, recurses := true, plainKeys := false, apart := false, narrowed := true }
def TaskFlowsUptoSaid : Prop := taskFlowsUptoRow.holds Tryz.pinned (OpenSpec.upto taskFlowsSpec)

/-- 'forebaylaw20.TaskFull', WHERE WHAT IT READS IS OF BULK AT MOST 1048576: true; the input reads as it did. -/
def taskFullUptoRow : OpenClaim := { program := "ytgblfflikgnfpaagreat", sum := "df1cd43852c001feca7b8b48b6080617dcb6649a6e135f8ed76104e6ee958a9e", func := "forebay/forebaylaw20.TaskFull", spec := "taskFull", unfollowed := true, recurses := true, plainKeys := false, apart := false, narrowed := true }
def TaskFullUptoSaid : Prop := taskFullUptoRow.holds Tryz.pinned (OpenSpec.upto taskFullSpec)

/-- 'forebaylaw20.TaskMakes', WHERE WHAT IT READS IS OF BULK AT MOST 1048576: true; the input reads as it did. -/
def taskMakesUptoRow : OpenClaim := { program := "ytgblfflikgnfpaagreat", sum := "df1cd43852c001feca7b8b48b6080617dcb6649a6e135f8ed76104e6ee958a9e", func := "forebay/forebaylaw20.TaskMakes", spec := "taskMakes", unfollowed := true, recurses := true, plainKeys := false, apart := false, narrowed := true }
def TaskMakesUptoSaid : Prop := taskMakesUptoRow.holds Tryz.pinned (OpenSpec.upto taskMakesSpec)

/-- 'forebaylaw20.TaskReads', WHERE WHAT IT READS IS OF BULK AT MOST 1048576: true; the input reads as it did. -/
def taskReadsUptoRow : OpenClaim := { program := "ytgblfflikgnfpaagreat", sum := "df1cd43852c001feca7b8b48b6080617dcb6649a6e135f8ed76104e6ee958a9e", func := "forebay/forebaylaw20.TaskReads", spec := "taskReads", unfollowed := true, recurses := true, plainKeys := false, apart := false, narrowed := true }
def TaskReadsUptoSaid : Prop := taskReadsUptoRow.holds Tryz.pinned (OpenSpec.upto taskReadsSpec)

end Rows
end Go.Proofs.YtgblfflikgnfpaaGreat
