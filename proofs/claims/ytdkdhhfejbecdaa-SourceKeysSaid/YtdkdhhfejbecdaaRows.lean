/-
  No cell of these rows narrows 'for every input' (looked for: loops, veiled, ifaces, maps, wideKeys, modest, calm, conditions, laid).
  DERIVED. THE GIVEN ROWS OF THIS SEAT. 10 by the template 'for every input the law returns true; each argument reads behind the call as it read before'; 0 by the template 'total and deterministic' (their statements: YtdkdhhfejbecdaaTotals.lean).
  GIVEN WITH THE SEED: the statements are not yours to turn. If you find one false, say at which input.
  Laid BY PROGRAM, IN A SANDBOX (cutbox-rows.mjs): the forced cells as the released guide's own fill.sh prints them over the translation b4f6a6609325e276… (all of the seat's roots in one cut). By AI agents, Wed Nov 11 2026. No macro, syntax, notation, axiom, sorry.
-/
import Derived.Test.YtdkdhhfejbecdaaChecked
import GoSem.Claim
import GoSem.ClaimJoined
import GoSem.ClaimMapViews
import Derived.JoinedTies
import Derived.KernelRfl
namespace Go.Proofs.Ytdkdhhfejbecdaa
/- THE CELL 'sum', in the pinned program and in every row, IS THE sha256 OF THE DUMP (.gsa) THAT YtdkdhhfejbecdaaProg.lean LOADS. Nothing in Lean hashes anything: it is a label: what it is worth is what the hold of that sum in a sandbox is worth. -/
noncomputable def Try.pinned : Pinned := { name := "ytdkdhhfejbecdaa", sum := "b4f6a6609325e2766a4c990c83f9012eb2d42e05004b44155a86d9c9784ed1eb", checked := Try.checked }
namespace Rows
def none {H : Type} : Left H := { results := [], args := [] }

/-- 'forebaylaw21.SinkWindows': WHATEVER THE INPUT: true; the input reads as it did. -/
def sinkWindowsSpec : ChangeSpec := { name := "sinkWindows", fn := fun _ => fun
  | [d1, d2, d3] => { results := [.lit (.bool true)], args := [d1, d2, d3] }
  | _ => none }
def sinkWindowsRow : OpenClaim := { program := "ytdkdhhfejbecdaa", sum := "b4f6a6609325e2766a4c990c83f9012eb2d42e05004b44155a86d9c9784ed1eb", func := "forebay/forebaylaw21.SinkWindows", spec := "sinkWindows", unfollowed := true, recurses := true, plainKeys := false, apart := false }
def SinkWindowsSaid : Prop := sinkWindowsRow.holds Try.pinned (OpenSpec.ofChange sinkWindowsSpec)

/-- ITS FALSE NEIGHBOUR: 'it returns false'. Refute it at one input. -/
def sinkWindowsWrong : ChangeSpec := { name := "sinkWindows", fn := fun _ => fun
  | [d1, d2, d3] => { results := [.lit (.bool false)], args := [d1, d2, d3] }
  | _ => none }
def SinkWindowsWrongFalsely : Prop := sinkWindowsRow.holds Try.pinned (OpenSpec.ofChange sinkWindowsWrong)

/-- 'forebaylaw21.SinkSince': WHATEVER THE INPUT: true; the input reads as it did. -/
def sinkSinceSpec : ChangeSpec := { name := "sinkSince", fn := fun _ => fun
  | [d1, d2] => { results := [.lit (.bool true)], args := [d1, d2] }
  | _ => none }
def sinkSinceRow : OpenClaim := { program := "ytdkdhhfejbecdaa", sum := "b4f6a6609325e2766a4c990c83f9012eb2d42e05004b44155a86d9c9784ed1eb", func := "forebay/forebaylaw21.SinkSince", spec := "sinkSince", unfollowed := true, recurses := true, plainKeys := false, apart := false }
def SinkSinceSaid : Prop := sinkSinceRow.holds Try.pinned (OpenSpec.ofChange sinkSinceSpec)

/-- ITS FALSE NEIGHBOUR: 'it returns false'. Refute it at one input. -/
def sinkSinceWrong : ChangeSpec := { name := "sinkSince", fn := fun _ => fun
  | [d1, d2] => { results := [.lit (.bool false)], args := [d1, d2] }
  | _ => none }
def SinkSinceWrongFalsely : Prop := sinkSinceRow.holds Try.pinned (OpenSpec.ofChange sinkSinceWrong)

/-- 'forebaylaw18.SourceKeys': WHATEVER THE INPUT: true; the input reads as it did. -/
def sourceKeysSpec : ChangeSpec := { name := "sourceKeys", fn := fun _ => fun
  | [d1, d2] => { results := [.lit (.bool true)], args := [d1, d2] }
  | _ => none }
def sourceKeysRow : OpenClaim := { program := "ytdkdhhfejbecdaa", sum := "b4f6a6609325e2766a4c990c83f9012eb2d42e05004b44155a86d9c9784ed1eb", func := "forebay/forebaylaw18.SourceKeys", spec := "sourceKeys", unfollowed := true, recurses := true, plainKeys := false, apart := false }
def SourceKeysSaid : Prop := sourceKeysRow.holds Try.pinned (OpenSpec.ofChange sourceKeysSpec)

/-- ITS FALSE NEIGHBOUR: 'it returns false'. Refute it at one input. -/
def sourceKeysWrong : ChangeSpec := { name := "sourceKeys", fn := fun _ => fun
  | [d1, d2] => { results := [.lit (.bool false)], args := [d1, d2] }
  | _ => none }
def SourceKeysWrongFalsely : Prop := sourceKeysRow.holds Try.pinned (OpenSpec.ofChange sourceKeysWrong)

/-- 'forebaylaw21.SinkTotals': WHATEVER THE INPUT: true; the input reads as it did. -/
def sinkTotalsSpec : ChangeSpec := { name := "sinkTotals", fn := fun _ => fun
  | [d] => { results := [.lit (.bool true)], args := [d] }
  | _ => none }
def sinkTotalsRow : OpenClaim := { program := "ytdkdhhfejbecdaa", sum := "b4f6a6609325e2766a4c990c83f9012eb2d42e05004b44155a86d9c9784ed1eb", func := "forebay/forebaylaw21.SinkTotals", spec := "sinkTotals", unfollowed := true, recurses := true, plainKeys := false, apart := false }
def SinkTotalsSaid : Prop := sinkTotalsRow.holds Try.pinned (OpenSpec.ofChange sinkTotalsSpec)

/-- ITS FALSE NEIGHBOUR: 'it returns false'. Refute it at one input. -/
def sinkTotalsWrong : ChangeSpec := { name := "sinkTotals", fn := fun _ => fun
  | [d] => { results := [.lit (.bool false)], args := [d] }
  | _ => none }
def SinkTotalsWrongFalsely : Prop := sinkTotalsRow.holds Try.pinned (OpenSpec.ofChange sinkTotalsWrong)

/-- 'forebaylaw08.GraphGrows': WHATEVER THE INPUT: true; the input reads as it did. -/
def graphGrowsSpec : ChangeSpec := { name := "graphGrows", fn := fun _ => fun
  | [d1, d2, d3] => { results := [.lit (.bool true)], args := [d1, d2, d3] }
  | _ => none }
def graphGrowsRow : OpenClaim := { program := "ytdkdhhfejbecdaa", sum := "b4f6a6609325e2766a4c990c83f9012eb2d42e05004b44155a86d9c9784ed1eb", func := "forebay/forebaylaw08.GraphGrows", spec := "graphGrows", unfollowed := true, recurses := true, plainKeys := false, apart := false }
def GraphGrowsSaid : Prop := graphGrowsRow.holds Try.pinned (OpenSpec.ofChange graphGrowsSpec)

/-- ITS FALSE NEIGHBOUR: 'it returns false'. Refute it at one input. -/
def graphGrowsWrong : ChangeSpec := { name := "graphGrows", fn := fun _ => fun
  | [d1, d2, d3] => { results := [.lit (.bool false)], args := [d1, d2, d3] }
  | _ => none }
def GraphGrowsWrongFalsely : Prop := graphGrowsRow.holds Try.pinned (OpenSpec.ofChange graphGrowsWrong)

/-- 'forebaylaw08.GraphChecks': WHATEVER THE INPUT: true; the input reads as it did. -/
def graphChecksSpec : ChangeSpec := { name := "graphChecks", fn := fun _ => fun
  | [d1, d2] => { results := [.lit (.bool true)], args := [d1, d2] }
  | _ => none }
def graphChecksRow : OpenClaim := { program := "ytdkdhhfejbecdaa", sum := "b4f6a6609325e2766a4c990c83f9012eb2d42e05004b44155a86d9c9784ed1eb", func := "forebay/forebaylaw08.GraphChecks", spec := "graphChecks", unfollowed := true, recurses := true, plainKeys := false, apart := false }
def GraphChecksSaid : Prop := graphChecksRow.holds Try.pinned (OpenSpec.ofChange graphChecksSpec)

/-- ITS FALSE NEIGHBOUR: 'it returns false'. Refute it at one input. -/
def graphChecksWrong : ChangeSpec := { name := "graphChecks", fn := fun _ => fun
  | [d1, d2] => { results := [.lit (.bool false)], args := [d1, d2] }
  | _ => none }
def GraphChecksWrongFalsely : Prop := graphChecksRow.holds Try.pinned (OpenSpec.ofChange graphChecksWrong)

/-- 'forebaylaw08.GraphOrders': WHATEVER THE INPUT: true; the input reads as it did. -/
def graphOrdersSpec : ChangeSpec := { name := "graphOrders", fn := fun _ => fun
  | [d1, d2] => { results := [.lit (.bool true)], args := [d1, d2] }
  | _ => none }
def graphOrdersRow : OpenClaim := { program := "ytdkdhhfejbecdaa", sum := "b4f6a6609325e2766a4c990c83f9012eb2d42e05004b44155a86d9c9784ed1eb", func := "forebay/forebaylaw08.GraphOrders", spec := "graphOrders", unfollowed := true, recurses := true, plainKeys := false, apart := false }
def GraphOrdersSaid : Prop := graphOrdersRow.holds Try.pinned (OpenSpec.ofChange graphOrdersSpec)

/-- ITS FALSE NEIGHBOUR: 'it returns false'. Refute it at one input. -/
def graphOrdersWrong : ChangeSpec := { name := "graphOrders", fn := fun _ => fun
  | [d1, d2] => { results := [.lit (.bool false)], args := [d1, d2] }
  | _ => none }
def GraphOrdersWrongFalsely : Prop := graphOrdersRow.holds Try.pinned (OpenSpec.ofChange graphOrdersWrong)

/-- 'forebaylaw08.GraphNorms': WHATEVER THE INPUT: true; the input reads as it did. -/
def graphNormsSpec : ChangeSpec := { name := "graphNorms", fn := fun _ => fun
  | [d1, d2, d3] => { results := [.lit (.bool true)], args := [d1, d2, d3] }
  | _ => none }
def graphNormsRow : OpenClaim := { program := "ytdkdhhfejbecdaa", sum := "b4f6a6609325e2766a4c990c83f9012eb2d42e05004b44155a86d9c9784ed1eb", func := "forebay/forebaylaw08.GraphNorms", spec := "graphNorms", unfollowed := true, recurses := true, plainKeys := false, apart := false }
def GraphNormsSaid : Prop := graphNormsRow.holds Try.pinned (OpenSpec.ofChange graphNormsSpec)

/-- ITS FALSE NEIGHBOUR: 'it returns false'. Refute it at one input. -/
def graphNormsWrong : ChangeSpec := { name := "graphNorms", fn := fun _ => fun
  | [d1, d2, d3] => { results := [.lit (.bool false)], args := [d1, d2, d3] }
  | _ => none }
def GraphNormsWrongFalsely : Prop := graphNormsRow.holds Try.pinned (OpenSpec.ofChange graphNormsWrong)

/-- 'forebaylaw08.GraphDepths': WHATEVER THE INPUT: true; the input reads as it did. -/
def graphDepthsSpec : ChangeSpec := { name := "graphDepths", fn := fun _ => fun
  | [d] => { results := [.lit (.bool true)], args := [d] }
  | _ => none }
def graphDepthsRow : OpenClaim := { program := "ytdkdhhfejbecdaa", sum := "b4f6a6609325e2766a4c990c83f9012eb2d42e05004b44155a86d9c9784ed1eb", func := "forebay/forebaylaw08.GraphDepths", spec := "graphDepths", unfollowed := true, recurses := true, plainKeys := false, apart := false }
def GraphDepthsSaid : Prop := graphDepthsRow.holds Try.pinned (OpenSpec.ofChange graphDepthsSpec)

/-- ITS FALSE NEIGHBOUR: 'it returns false'. Refute it at one input. -/
def graphDepthsWrong : ChangeSpec := { name := "graphDepths", fn := fun _ => fun
  | [d] => { results := [.lit (.bool false)], args := [d] }
  | _ => none }
def GraphDepthsWrongFalsely : Prop := graphDepthsRow.holds Try.pinned (OpenSpec.ofChange graphDepthsWrong)

/-- 'forebaylaw21.SinkNone': WHATEVER THE INPUT: true; the input reads as it did. -/
def sinkNoneSpec : ChangeSpec := { name := "sinkNone", fn := fun _ => fun
  | [d1, d2] => { results := [.lit (.bool true)], args := [d1, d2] }
  | _ => none }
def sinkNoneRow : OpenClaim := { program := "ytdkdhhfejbecdaa", sum := "b4f6a6609325e2766a4c990c83f9012eb2d42e05004b44155a86d9c9784ed1eb", func := "forebay/forebaylaw21.SinkNone", spec := "sinkNone", unfollowed := true, recurses := true, plainKeys := false, apart := false }
def SinkNoneSaid : Prop := sinkNoneRow.holds Try.pinned (OpenSpec.ofChange sinkNoneSpec)

/-- ITS FALSE NEIGHBOUR: 'it returns false'. Refute it at one input. -/
def sinkNoneWrong : ChangeSpec := { name := "sinkNone", fn := fun _ => fun
  | [d1, d2] => { results := [.lit (.bool false)], args := [d1, d2] }
  | _ => none }
def SinkNoneWrongFalsely : Prop := sinkNoneRow.holds Try.pinned (OpenSpec.ofChange sinkNoneWrong)

/- THE SECOND FORM. 'bulk': how many values and letters a reading holds, each counted each time it is reached (what is shared counts as often as it is met; a slice's spare places count too). A statement '..UptoSaid' is the law's where the arguments, and the package variables that the reading takes, are together of bulk at most 1048576: NARROWER than '..Said'. Prove '..Said' where nothing that the law and all that it calls make is longer than what came in: it says more and counts as full. Else prove '..UptoSaid'. A law counts once. -/
mutual
def uptoBulk {H : Type} : DataW H → Nat
  | .lit (.string bytes) => bytes.length + 1
  | .lit _ => 1
  | .nil => 1
  | .ptr d => uptoBulk d + 1
  | .slice elems spare => uptoBulkAll elems + uptoBulkAll spare + 1
  | .agg parts => uptoBulkAll parts + 1
  | .iface _ d => uptoBulk d + 1
  | .map entries => uptoBulkEntries entries + 1
  | .held _ => 1
def uptoBulkAll {H : Type} : List (DataW H) → Nat
  | [] => 0
  | d :: r => uptoBulk d + uptoBulkAll r
def uptoBulkEntries {H : Type} : List (Lit × DataW H) → Nat
  | [] => 0
  | x :: r => uptoBulkEntry x + uptoBulkEntries r
def uptoBulkEntry {H : Type} : Lit × DataW H → Nat
  | (.string bytes, d) => bytes.length + uptoBulk d + 1
  | (_, d) => uptoBulk d + 1
 end
def uptoSmall : (H : Type) → List (DataW H) → Bool := fun _ ds => decide (uptoBulkAll ds ≤ 1048576)
def OpenSpec.upto (s : _root_.Go.ChangeSpec) : _root_.Go.OpenSpec := { _root_.Go.OpenSpec.ofChange s with cond := some uptoSmall }

/-- 'forebaylaw21.SinkWindows', WHERE WHAT IT READS IS OF BULK AT MOST 1048576: true; the input reads as it did. -/
def sinkWindowsUptoRow : OpenClaim := { program := "ytdkdhhfejbecdaa", sum := "b4f6a6609325e2766a4c990c83f9012eb2d42e05004b44155a86d9c9784ed1eb", func := "forebay/forebaylaw21.SinkWindows", spec := "sinkWindows", unfollowed := true, recurses := true, plainKeys := false, apart := false, narrowed := true }
def SinkWindowsUptoSaid : Prop := sinkWindowsUptoRow.holds Try.pinned (OpenSpec.upto sinkWindowsSpec)

/-- 'forebaylaw21.SinkSince', WHERE WHAT IT READS IS OF BULK AT MOST 1048576: true; the input reads as it did. -/
def sinkSinceUptoRow : OpenClaim := { program := "ytdkdhhfejbecdaa", sum := "b4f6a6609325e2766a4c990c83f9012eb2d42e05004b44155a86d9c9784ed1eb", func := "forebay/forebaylaw21.SinkSince", spec := "sinkSince", unfollowed := true, recurses := true, plainKeys := false, apart := false, narrowed := true }
def SinkSinceUptoSaid : Prop := sinkSinceUptoRow.holds Try.pinned (OpenSpec.upto sinkSinceSpec)

/-- 'forebaylaw18.SourceKeys', WHERE WHAT IT READS IS OF BULK AT MOST 1048576: true; the input reads as it did. -/
def sourceKeysUptoRow : OpenClaim := { program := "ytdkdhhfejbecdaa", sum := "b4f6a6609325e2766a4c990c83f9012eb2d42e05004b44155a86d9c9784ed1eb", func := "forebay/forebaylaw18.SourceKeys", spec := "sourceKeys", unfollowed := true, recurses := true, plainKeys := false, apart := false, narrowed := true }
def SourceKeysUptoSaid : Prop := sourceKeysUptoRow.holds Try.pinned (OpenSpec.upto sourceKeysSpec)

/-- 'forebaylaw21.SinkTotals', WHERE WHAT IT READS IS OF BULK AT MOST 1048576: true; the input reads as it did. -/
def sinkTotalsUptoRow : OpenClaim := { program := "ytdkdhhfejbecdaa", sum := "b4f6a6609325e2766a4c990c83f9012eb2d42e05004b44155a86d9c9784ed1eb", func := "forebay/forebaylaw21.SinkTotals", spec := "sinkTotals", unfollowed := true, recurses := true, plainKeys := false, apart := false, narrowed := true }
def SinkTotalsUptoSaid : Prop := sinkTotalsUptoRow.holds Try.pinned (OpenSpec.upto sinkTotalsSpec)

/-- 'forebaylaw08.GraphGrows', WHERE WHAT IT READS IS OF BULK AT MOST 1048576: true; the input reads as it did. -/
def graphGrowsUptoRow : OpenClaim := { program := "ytdkdhhfejbecdaa", sum := "b4f6a6609325e2766a4c990c83f9012eb2d42e05004b44155a86d9c9784ed1eb", func := "forebay/forebaylaw08.GraphGrows", spec := "graphGrows", unfollowed := true, recurses := true, plainKeys := false, apart := false, narrowed := true }
def GraphGrowsUptoSaid : Prop := graphGrowsUptoRow.holds Try.pinned (OpenSpec.upto graphGrowsSpec)

/-- 'forebaylaw08.GraphChecks', WHERE WHAT IT READS IS OF BULK AT MOST 1048576: true; the input reads as it did. -/
def graphChecksUptoRow : OpenClaim := { program := "ytdkdhhfejbecdaa", sum := "b4f6a6609325e2766a4c990c83f9012eb2d42e05004b44155a86d9c9784ed1eb", func := "forebay/forebaylaw08.GraphChecks", spec := "graphChecks", unfollowed := true, recurses := true, plainKeys := false, apart := false, narrowed := true }
def GraphChecksUptoSaid : Prop := graphChecksUptoRow.holds Try.pinned (OpenSpec.upto graphChecksSpec)

/-- 'forebaylaw08.GraphOrders', WHERE WHAT IT READS IS OF BULK AT MOST 1048576: true; the input reads as it did. -/
def graphOrdersUptoRow : OpenClaim := { program := "ytdkdhhfejbecdaa", sum := "b4f6a6609325e2766a4c990c83f9012eb2d42e05004b44155a86d9c9784ed1eb", func := "forebay/forebaylaw08.GraphOrders", spec := "graphOrders", unfollowed := true, recurses := true, plainKeys := false, apart := false, narrowed := true }
def GraphOrdersUptoSaid : Prop := graphOrdersUptoRow.holds Try.pinned (OpenSpec.upto graphOrdersSpec)

/-- 'forebaylaw08.GraphNorms', WHERE WHAT IT READS IS OF BULK AT MOST 1048576: true; the input reads as it did. -/
def graphNormsUptoRow : OpenClaim := { program := "ytdkdhhfejbecdaa", sum := "b4f6a6609325e2766a4c990c83f9012eb2d42e05004b44155a86d9c9784ed1eb", func := "forebay/forebaylaw08.GraphNorms", spec := "graphNorms", unfollowed := true, recurses := true, plainKeys := false, apart := false, narrowed := true }
def GraphNormsUptoSaid : Prop := graphNormsUptoRow.holds Try.pinned (OpenSpec.upto graphNormsSpec)

/-- 'forebaylaw08.GraphDepths', WHERE WHAT IT READS IS OF BULK AT MOST 1048576: true; the input reads as it did. -/
def graphDepthsUptoRow : OpenClaim := { program := "ytdkdhhfejbecdaa", sum := "b4f6a6609325e2766a4c990c83f9012eb2d42e05004b44155a86d9c9784ed1eb", func := "forebay/forebaylaw08.GraphDepths", spec := "graphDepths", unfollowed := true, recurses := true, plainKeys := false, apart := false, narrowed := true }
def GraphDepthsUptoSaid : Prop := graphDepthsUptoRow.holds Try.pinned (OpenSpec.upto graphDepthsSpec)

/-- 'forebaylaw21.SinkNone', WHERE WHAT IT READS IS OF BULK AT MOST 1048576: true; the input reads as it did. -/
def sinkNoneUptoRow : OpenClaim := { program := "ytdkdhhfejbecdaa", sum := "b4f6a6609325e2766a4c990c83f9012eb2d42e05004b44155a86d9c9784ed1eb", func := "forebay/forebaylaw21.SinkNone", spec := "sinkNone", unfollowed := true, recurses := true, plainKeys := false, apart := false, narrowed := true }
def SinkNoneUptoSaid : Prop := sinkNoneUptoRow.holds Try.pinned (OpenSpec.upto sinkNoneSpec)

end Rows
end Go.Proofs.Ytdkdhhfejbecdaa
