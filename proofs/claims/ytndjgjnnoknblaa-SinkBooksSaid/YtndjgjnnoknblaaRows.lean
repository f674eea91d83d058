/-
  No cell of these rows narrows 'for every input' (looked for: loops, veiled, ifaces, maps, wideKeys, modest, calm, conditions, laid).
  DERIVED. THE GIVEN ROWS OF THIS SEAT. 6 by the template 'for every input the law returns true; each argument reads behind the call as it read before'; 0 by the template 'total and deterministic' (their statements: YtndjgjnnoknblaaTotals.lean).
  GIVEN WITH THE SEED: the statements are not yours to turn. If you find one false, say at which input.
  Laid BY PROGRAM, IN A SANDBOX (cutbox-rows.mjs): the forced cells as the released guide's own fill.sh prints them over the translation 24411887f05b21e7… (all of the seat's roots in one cut). By AI agents, Wed Nov 11 2026. No macro, syntax, notation, axiom, sorry.
-/
import Derived.Test.YtndjgjnnoknblaaChecked
import GoSem.Claim
import GoSem.ClaimJoined
import GoSem.ClaimMapViews
import Derived.JoinedTies
import Derived.KernelRfl
namespace Go.Proofs.Ytndjgjnnoknblaa
/- THE CELL 'sum', in the pinned program and in every row, IS THE sha256 OF THE DUMP (.gsa) THAT YtndjgjnnoknblaaProg.lean LOADS. Nothing in Lean hashes anything: it is a label: what it is worth is what the hold of that sum in a sandbox is worth. -/
noncomputable def Try.pinned : Pinned := { name := "ytndjgjnnoknblaa", sum := "24411887f05b21e79a6540b077161a8f3844fbd6d42dc2b72f0207b910e5dd53", checked := Try.checked }
namespace Rows
def none {H : Type} : Left H := { results := [], args := [] }

/-- 'forebaylaw21.SinkBooks': WHATEVER THE INPUT: true; the input reads as it did. -/
def sinkBooksSpec : ChangeSpec := { name := "sinkBooks", fn := fun _ => fun
  | [d1, d2] => { results := [.lit (.bool true)], args := [d1, d2] }
  | _ => none }
def sinkBooksRow : OpenClaim := { program := "ytndjgjnnoknblaa", sum := "24411887f05b21e79a6540b077161a8f3844fbd6d42dc2b72f0207b910e5dd53", func := "forebay/forebaylaw21.SinkBooks", spec := "sinkBooks", unfollowed := true, recurses := true, plainKeys := false, apart := false }
def SinkBooksSaid : Prop := sinkBooksRow.holds Try.pinned (OpenSpec.ofChange sinkBooksSpec)

/-- ITS FALSE NEIGHBOUR: 'it returns false'. Refute it at one input. -/
def sinkBooksWrong : ChangeSpec := { name := "sinkBooks", fn := fun _ => fun
  | [d1, d2] => { results := [.lit (.bool false)], args := [d1, d2] }
  | _ => none }
def SinkBooksWrongFalsely : Prop := sinkBooksRow.holds Try.pinned (OpenSpec.ofChange sinkBooksWrong)

/-- 'forebaylaw05.CheckJoins': WHATEVER THE INPUT: true; the input reads as it did. -/
def checkJoinsSpec : ChangeSpec := { name := "checkJoins", fn := fun _ => fun
  | [d1, d2, d3] => { results := [.lit (.bool true)], args := [d1, d2, d3] }
  | _ => none }
def checkJoinsRow : OpenClaim := { program := "ytndjgjnnoknblaa", sum := "24411887f05b21e79a6540b077161a8f3844fbd6d42dc2b72f0207b910e5dd53", func := "forebay/forebaylaw05.CheckJoins", spec := "checkJoins", unfollowed := true, recurses := true, plainKeys := false, apart := false }
def CheckJoinsSaid : Prop := checkJoinsRow.holds Try.pinned (OpenSpec.ofChange checkJoinsSpec)

/-- ITS FALSE NEIGHBOUR: 'it returns false'. Refute it at one input. -/
def checkJoinsWrong : ChangeSpec := { name := "checkJoins", fn := fun _ => fun
  | [d1, d2, d3] => { results := [.lit (.bool false)], args := [d1, d2, d3] }
  | _ => none }
def CheckJoinsWrongFalsely : Prop := checkJoinsRow.holds Try.pinned (OpenSpec.ofChange checkJoinsWrong)

/-- 'forebaylaw05.CheckDead': WHATEVER THE INPUT: true; the input reads as it did. -/
def checkDeadSpec : ChangeSpec := { name := "checkDead", fn := fun _ => fun
  | [d1, d2, d3] => { results := [.lit (.bool true)], args := [d1, d2, d3] }
  | _ => none }
def checkDeadRow : OpenClaim := { program := "ytndjgjnnoknblaa", sum := "24411887f05b21e79a6540b077161a8f3844fbd6d42dc2b72f0207b910e5dd53", func := "forebay/forebaylaw05.CheckDead", spec := "checkDead", unfollowed := true, recurses := true, plainKeys := false, apart := false }
def CheckDeadSaid : Prop := checkDeadRow.holds Try.pinned (OpenSpec.ofChange checkDeadSpec)

/-- ITS FALSE NEIGHBOUR: 'it returns false'. Refute it at one input. -/
def checkDeadWrong : ChangeSpec := { name := "checkDead", fn := fun _ => fun
  | [d1, d2, d3] => { results := [.lit (.bool false)], args := [d1, d2, d3] }
  | _ => none }
def CheckDeadWrongFalsely : Prop := checkDeadRow.holds Try.pinned (OpenSpec.ofChange checkDeadWrong)

/-- 'forebaylaw05.CheckTells': WHATEVER THE INPUT: true; the input reads as it did. -/
def checkTellsSpec : ChangeSpec := { name := "checkTells", fn := fun _ => fun
  | [d] => { results := [.lit (.bool true)], args := [d] }
  | _ => none }
def checkTellsRow : OpenClaim := { program := "ytndjgjnnoknblaa", sum := "24411887f05b21e79a6540b077161a8f3844fbd6d42dc2b72f0207b910e5dd53", func := "forebay/forebaylaw05.CheckTells", spec := "checkTells", unfollowed := true, recurses := true, plainKeys := false, apart := false }
def CheckTellsSaid : Prop := checkTellsRow.holds Try.pinned (OpenSpec.ofChange checkTellsSpec)

/-- ITS FALSE NEIGHBOUR: 'it returns false'. Refute it at one input. -/
def checkTellsWrong : ChangeSpec := { name := "checkTells", fn := fun _ => fun
  | [d] => { results := [.lit (.bool false)], args := [d] }
  | _ => none }
def CheckTellsWrongFalsely : Prop := checkTellsRow.holds Try.pinned (OpenSpec.ofChange checkTellsWrong)

/-- 'forebaylaw05.CheckTrims': WHATEVER THE INPUT: true; the input reads as it did. -/
def checkTrimsSpec : ChangeSpec := { name := "checkTrims", fn := fun _ => fun
  | [d] => { results := [.lit (.bool true)], args := [d] }
  | _ => none }
def checkTrimsRow : OpenClaim := { program := "ytndjgjnnoknblaa", sum := "24411887f05b21e79a6540b077161a8f3844fbd6d42dc2b72f0207b910e5dd53", func := "forebay/forebaylaw05.CheckTrims", spec := "checkTrims", unfollowed := true, recurses := true, plainKeys := false, apart := false }
def CheckTrimsSaid : Prop := checkTrimsRow.holds Try.pinned (OpenSpec.ofChange checkTrimsSpec)

/-- ITS FALSE NEIGHBOUR: 'it returns false'. Refute it at one input. -/
def checkTrimsWrong : ChangeSpec := { name := "checkTrims", fn := fun _ => fun
  | [d] => { results := [.lit (.bool false)], args := [d] }
  | _ => none }
def CheckTrimsWrongFalsely : Prop := checkTrimsRow.holds Try.pinned (OpenSpec.ofChange checkTrimsWrong)

/-- 'forebaylaw09.RouteDeals': WHATEVER THE INPUT: true; the input reads as it did. -/
def routeDealsSpec : ChangeSpec := { name := "routeDeals", fn := fun _ => fun
  | [d1, d2] => { results := [.lit (.bool true)], args := [d1, d2] }
  | _ => none }
def routeDealsRow : OpenClaim := { program := "ytndjgjnnoknblaa", sum := "24411887f05b21e79a6540b077161a8f3844fbd6d42dc2b72f0207b910e5dd53", func := "forebay/forebaylaw09.RouteDeals", spec := "routeDeals", unfollowed := true, recurses := true, plainKeys := false, apart := false }
def RouteDealsSaid : Prop := routeDealsRow.holds Try.pinned (OpenSpec.ofChange routeDealsSpec)

/-- ITS FALSE NEIGHBOUR: 'it returns false'. Refute it at one input. -/
def routeDealsWrong : ChangeSpec := { name := "routeDeals", fn := fun _ => fun
  | [d1, d2] => { results := [.lit (.bool false)], args := [d1, d2] }
  | _ => none }
def RouteDealsWrongFalsely : Prop := routeDealsRow.holds Try.pinned (OpenSpec.ofChange routeDealsWrong)

/- THE SECOND FORM. 'bulk': how many values and letters a reading holds, each counted each time it is reached (what is shared counts as often as it is met; a slice's spare places count too). A statement '..UptoSaid' is the law's where the arguments, and the package variables that the reading takes, are together of bulk at most 1048576: NARROWER than '..Said'. Prove '..Said' where nothing that the law and all that it calls make is longer than what came in: it says more and counts as full. Else prove '..UptoSaid'. A law counts once. -/
mutual
def uptoBulk {H : Type} : DataW H → Nat
  | .lit (.string bytes) => bytes.length + 1
  | .lit _ => 1
  | .nil => 1
  | .ptr d => uptoBulk d + 1
  | .slice elems spare => uptoBulkAll elems + uptoBulkAll spare + 1
  | .agg parts => uptoBulkAll parts + 1
  | .iface _ d => uptoBulk d + 1
  | .map entries => uptoBulkEntries entries + 1
  | .held _ => 1
def uptoBulkAll {H : Type} : List (DataW H) → Nat
  | [] => 0
  | d :: r => uptoBulk d + uptoBulkAll r
def uptoBulkEntries {H : Type} : List (Lit × DataW H) → Nat
  | [] => 0
  | x :: r => uptoBulkEntry x + uptoBulkEntries r
def uptoBulkEntry {H : Type} : Lit × DataW H → Nat
  | (.string bytes, d) => bytes.length + uptoBulk d + 1
  | (_, d) => uptoBulk d + 1
 end
def uptoSmall : (H : Type) → List (DataW H) → Bool := fun _ ds => decide (uptoBulkAll ds ≤ 1048576)
def OpenSpec.upto (s : _root_.Go.ChangeSpec) : _root_.Go.OpenSpec := { _root_.Go.OpenSpec.ofChange s with cond := some uptoSmall }

/-- 'forebaylaw21.SinkBooks', WHERE WHAT IT READS IS OF BULK AT MOST 1048576: true; the input reads as it did. -/
def sinkBooksUptoRow : OpenClaim := { program := "ytndjgjnnoknblaa", sum := "24411887f05b21e79a6540b077161a8f3844fbd6d42dc2b72f0207b910e5dd53", func := "forebay/forebaylaw21.SinkBooks", spec := "sinkBooks", unfollowed := true, recurses := true, plainKeys := false, apart := false, narrowed := true }
def SinkBooksUptoSaid : Prop := sinkBooksUptoRow.holds Try.pinned (OpenSpec.upto sinkBooksSpec)

/-- 'forebaylaw05.CheckJoins', WHERE WHAT IT READS IS OF BULK AT MOST 1048576: true; the input reads as it did. -/
def checkJoinsUptoRow : OpenClaim := { program := "ytndjgjnnoknblaa", sum := "24411887f05b21e79a6540b077161a8f3844fbd6d42dc2b72f0207b910e5dd53", func := "forebay/forebaylaw05.CheckJoins", spec := "checkJoins", unfollowed := true, recurses := true, plainKeys := false, apart := false, narrowed := true }
def CheckJoinsUptoSaid : Prop := checkJoinsUptoRow.holds Try.pinned (OpenSpec.upto checkJoinsSpec)

/-- 'forebaylaw05.CheckDead', WHERE WHAT IT READS IS OF BULK AT MOST 1048576: true; the input reads as it did. -/
def checkDeadUptoRow : OpenClaim := { program := "ytndjgjnnoknblaa", sum := "24411887f05b21e79a6540b077161a8f3844fbd6d42dc2b72f0207b910e5dd53", func := "forebay/forebaylaw05.CheckDead", spec := "checkDead", unfollowed := true, recurses := true, plainKeys := false, apart := false, narrowed := true }
def CheckDeadUptoSaid : Prop := checkDeadUptoRow.holds Try.pinned (OpenSpec.upto checkDeadSpec)

/-- 'forebaylaw05.CheckTells', WHERE WHAT IT READS IS OF BULK AT MOST 1048576: true; the input reads as it did. -/
def checkTellsUptoRow : OpenClaim := { program := "ytndjgjnnoknblaa", sum := "24411887f05b21e79a6540b077161a8f3844fbd6d42dc2b72f0207b910e5dd53", func := "forebay/forebaylaw05.CheckTells", spec := "checkTells", unfollowed := true, recurses := true, plainKeys := false, apart := false, narrowed := true }
def CheckTellsUptoSaid : Prop := checkTellsUptoRow.holds Try.pinned (OpenSpec.upto checkTellsSpec)

/-- 'forebaylaw05.CheckTrims', WHERE WHAT IT READS IS OF BULK AT MOST 1048576: true; the input reads as it did. -/
def checkTrimsUptoRow : OpenClaim := { program := "ytndjgjnnoknblaa", sum := "24411887f05b21e79a6540b077161a8f3844fbd6d42dc2b72f0207b910e5dd53", func := "forebay/forebaylaw05.CheckTrims", spec := "checkTrims", unfollowed := true, recurses := true, plainKeys := false, apart := false, narrowed := true }
def CheckTrimsUptoSaid : Prop := checkTrimsUptoRow.holds Try.pinned (OpenSpec.upto checkTrimsSpec)

/-- 'forebaylaw09.RouteDeals', WHERE WHAT IT READS IS OF BULK AT MOST 1048576: true; the input reads as it did. -/
def routeDealsUptoRow : OpenClaim := { program := "ytndjgjnnoknblaa", sum := "24411887f05b21e79a6540b077161a8f3844fbd6d42dc2b72f0207b910e5dd53", func := "forebay/forebaylaw09.RouteDeals", spec := "routeDeals", unfollowed := true, recurses := true, plainKeys := false, apart := false, narrowed := true }
def RouteDealsUptoSaid : Prop := routeDealsUptoRow.holds Try.pinned (OpenSpec.upto routeDealsSpec)

end Rows
end Go.Proofs.Ytndjgjnnoknblaa
