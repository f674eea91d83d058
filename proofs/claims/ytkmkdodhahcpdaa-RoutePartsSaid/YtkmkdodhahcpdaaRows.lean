/-
  No cell of these rows narrows 'for every input' (looked for: loops, veiled, ifaces, maps, wideKeys, modest, calm, conditions, laid).
  DERIVED. THE GIVEN ROWS OF THIS SEAT. 12 by the template 'for every input the law returns true; each argument reads behind the call as it read before'; 0 by the template 'total and deterministic' (their statements: YtkmkdodhahcpdaaTotals.lean).
  GIVEN WITH THE SEED: the statements are not yours to turn. If you find one false, say at which input.
  Laid BY PROGRAM, IN A SANDBOX (cutbox-rows.mjs): the forced cells as the released guide's own fill.sh prints them over the translation 96547d8e91dd142a… (all of the seat's roots in one cut). By AI agents, Wed Nov 11 2026. No macro, syntax, notation, axiom, sorry.
-/
import Derived.Test.YtkmkdodhahcpdaaChecked
import GoSem.Claim
import GoSem.ClaimJoined
import GoSem.ClaimMapViews
import Derived.JoinedTies
import Derived.KernelRfl
namespace Go.Proofs.Ytkmkdodhahcpdaa
/- THE CELL 'sum', in the pinned program and in every row, IS THE sha256 OF THE DUMP (.gsa) THAT YtkmkdodhahcpdaaProg.lean LOADS. Nothing in Lean hashes anything: it is a label: what it is worth is what the hold of that sum in a sandbox is worth. -/
noncomputable def Try.pinned : Pinned := { name := "ytkmkdodhahcpdaa", sum := "96547d8e91dd142a18eb98f6f7f44ddf5537e99f1a6a706ec660587473a2b972", checked := Try.checked }
namespace Rows
def none {H : Type} : Left H := { results := [], args := [] }

/-- 'forebaylaw01.OctetUnlike': WHATEVER THE INPUT: true; the input reads as it did. -/
def octetUnlikeSpec : ChangeSpec := { name := "octetUnlike", fn := fun _ => fun
  | [d1, d2] => { results := [.lit (.bool true)], args := [d1, d2] }
  | _ => none }
def octetUnlikeRow : OpenClaim := { program := "ytkmkdodhahcpdaa", sum := "96547d8e91dd142a18eb98f6f7f44ddf5537e99f1a6a706ec660587473a2b972", func := "forebay/forebaylaw01.OctetUnlike", spec := "octetUnlike", apart := false }
def OctetUnlikeSaid : Prop := octetUnlikeRow.holds Try.pinned (OpenSpec.ofChange octetUnlikeSpec)

/-- ITS FALSE NEIGHBOUR: 'it returns false'. Refute it at one input. -/
def octetUnlikeWrong : ChangeSpec := { name := "octetUnlike", fn := fun _ => fun
  | [d1, d2] => { results := [.lit (.bool false)], args := [d1, d2] }
  | _ => none }
def OctetUnlikeWrongFalsely : Prop := octetUnlikeRow.holds Try.pinned (OpenSpec.ofChange octetUnlikeWrong)

/-- 'forebaylaw09.RouteTells': WHATEVER THE INPUT: true; the input reads as it did. -/
def routeTellsSpec : ChangeSpec := { name := "routeTells", fn := fun _ => fun
  | [d1, d2, d3] => { results := [.lit (.bool true)], args := [d1, d2, d3] }
  | _ => none }
def routeTellsRow : OpenClaim := { program := "ytkmkdodhahcpdaa", sum := "96547d8e91dd142a18eb98f6f7f44ddf5537e99f1a6a706ec660587473a2b972", func := "forebay/forebaylaw09.RouteTells", spec := "routeTells", unfollowed := true, recurses := true, apart := false }
def RouteTellsSaid : Prop := routeTellsRow.holds Try.pinned (OpenSpec.ofChange routeTellsSpec)

/-- ITS FALSE NEIGHBOUR: 'it returns false'. Refute it at one input. -/
def routeTellsWrong : ChangeSpec := { name := "routeTells", fn := fun _ => fun
  | [d1, d2, d3] => { results := [.lit (.bool false)], args := [d1, d2, d3] }
  | _ => none }
def RouteTellsWrongFalsely : Prop := routeTellsRow.holds Try.pinned (OpenSpec.ofChange routeTellsWrong)

/-- 'forebaylaw09.RouteParts': WHATEVER THE INPUT: true; the input reads as it did. -/
def routePartsSpec : ChangeSpec := { name := "routeParts", fn := fun _ => fun
  | [d1, d2] => { results := [.lit (.bool true)], args := [d1, d2] }
  | _ => none }
def routePartsRow : OpenClaim := { program := "ytkmkdodhahcpdaa", sum := "96547d8e91dd142a18eb98f6f7f44ddf5537e99f1a6a706ec660587473a2b972", func := "forebay/forebaylaw09.RouteParts", spec := "routeParts", apart := false }
def RoutePartsSaid : Prop := routePartsRow.holds Try.pinned (OpenSpec.ofChange routePartsSpec)

/-- ITS FALSE NEIGHBOUR: 'it returns false'. Refute it at one input. -/
def routePartsWrong : ChangeSpec := { name := "routeParts", fn := fun _ => fun
  | [d1, d2] => { results := [.lit (.bool false)], args := [d1, d2] }
  | _ => none }
def RoutePartsWrongFalsely : Prop := routePartsRow.holds Try.pinned (OpenSpec.ofChange routePartsWrong)

/-- 'forebaylaw19.AlignMeets': WHATEVER THE INPUT: true; the input reads as it did. -/
def alignMeetsSpec : ChangeSpec := { name := "alignMeets", fn := fun _ => fun
  | [d1, d2] => { results := [.lit (.bool true)], args := [d1, d2] }
  | _ => none }
def alignMeetsRow : OpenClaim := { program := "ytkmkdodhahcpdaa", sum := "96547d8e91dd142a18eb98f6f7f44ddf5537e99f1a6a706ec660587473a2b972", func := "forebay/forebaylaw19.AlignMeets", spec := "alignMeets", unfollowed := true, recurses := true, apart := false }
def AlignMeetsSaid : Prop := alignMeetsRow.holds Try.pinned (OpenSpec.ofChange alignMeetsSpec)

/-- ITS FALSE NEIGHBOUR: 'it returns false'. Refute it at one input. -/
def alignMeetsWrong : ChangeSpec := { name := "alignMeets", fn := fun _ => fun
  | [d1, d2] => { results := [.lit (.bool false)], args := [d1, d2] }
  | _ => none }
def AlignMeetsWrongFalsely : Prop := alignMeetsRow.holds Try.pinned (OpenSpec.ofChange alignMeetsWrong)

/-- 'forebaylaw19.AlignTurns': WHATEVER THE INPUT: true; the input reads as it did. -/
def alignTurnsSpec : ChangeSpec := { name := "alignTurns", fn := fun _ => fun
  | [d1, d2, d3] => { results := [.lit (.bool true)], args := [d1, d2, d3] }
  | _ => none }
def alignTurnsRow : OpenClaim := { program := "ytkmkdodhahcpdaa", sum := "96547d8e91dd142a18eb98f6f7f44ddf5537e99f1a6a706ec660587473a2b972", func := "forebay/forebaylaw19.AlignTurns", spec := "alignTurns", unfollowed := true, recurses := true, apart := false }
def AlignTurnsSaid : Prop := alignTurnsRow.holds Try.pinned (OpenSpec.ofChange alignTurnsSpec)

/-- ITS FALSE NEIGHBOUR: 'it returns false'. Refute it at one input. -/
def alignTurnsWrong : ChangeSpec := { name := "alignTurns", fn := fun _ => fun
  | [d1, d2, d3] => { results := [.lit (.bool false)], args := [d1, d2, d3] }
  | _ => none }
def AlignTurnsWrongFalsely : Prop := alignTurnsRow.holds Try.pinned (OpenSpec.ofChange alignTurnsWrong)

/-- 'forebaylaw09.RouteTexts': WHATEVER THE INPUT: true; the input reads as it did. -/
def routeTextsSpec : ChangeSpec := { name := "routeTexts", fn := fun _ => fun
  | [d1, d2, d3] => { results := [.lit (.bool true)], args := [d1, d2, d3] }
  | _ => none }
def routeTextsRow : OpenClaim := { program := "ytkmkdodhahcpdaa", sum := "96547d8e91dd142a18eb98f6f7f44ddf5537e99f1a6a706ec660587473a2b972", func := "forebay/forebaylaw09.RouteTexts", spec := "routeTexts", apart := false }
def RouteTextsSaid : Prop := routeTextsRow.holds Try.pinned (OpenSpec.ofChange routeTextsSpec)

/-- ITS FALSE NEIGHBOUR: 'it returns false'. Refute it at one input. -/
def routeTextsWrong : ChangeSpec := { name := "routeTexts", fn := fun _ => fun
  | [d1, d2, d3] => { results := [.lit (.bool false)], args := [d1, d2, d3] }
  | _ => none }
def RouteTextsWrongFalsely : Prop := routeTextsRow.holds Try.pinned (OpenSpec.ofChange routeTextsWrong)

/-- 'forebaylaw09.RouteCovers': WHATEVER THE INPUT: true; the input reads as it did. -/
def routeCoversSpec : ChangeSpec := { name := "routeCovers", fn := fun _ => fun
  | [d1, d2, d3] => { results := [.lit (.bool true)], args := [d1, d2, d3] }
  | _ => none }
def routeCoversRow : OpenClaim := { program := "ytkmkdodhahcpdaa", sum := "96547d8e91dd142a18eb98f6f7f44ddf5537e99f1a6a706ec660587473a2b972", func := "forebay/forebaylaw09.RouteCovers", spec := "routeCovers", unfollowed := true, recurses := true, apart := false }
def RouteCoversSaid : Prop := routeCoversRow.holds Try.pinned (OpenSpec.ofChange routeCoversSpec)

/-- ITS FALSE NEIGHBOUR: 'it returns false'. Refute it at one input. -/
def routeCoversWrong : ChangeSpec := { name := "routeCovers", fn := fun _ => fun
  | [d1, d2, d3] => { results := [.lit (.bool false)], args := [d1, d2, d3] }
  | _ => none }
def RouteCoversWrongFalsely : Prop := routeCoversRow.holds Try.pinned (OpenSpec.ofChange routeCoversWrong)

/-- 'forebaylaw19.AlignNone': WHATEVER THE INPUT: true; the input reads as it did. -/
def alignNoneSpec : ChangeSpec := { name := "alignNone", fn := fun _ => fun
  | [d1, d2] => { results := [.lit (.bool true)], args := [d1, d2] }
  | _ => none }
def alignNoneRow : OpenClaim := { program := "ytkmkdodhahcpdaa", sum := "96547d8e91dd142a18eb98f6f7f44ddf5537e99f1a6a706ec660587473a2b972", func := "forebay/forebaylaw19.AlignNone", spec := "alignNone", unfollowed := true, recurses := true, apart := false }
def AlignNoneSaid : Prop := alignNoneRow.holds Try.pinned (OpenSpec.ofChange alignNoneSpec)

/-- ITS FALSE NEIGHBOUR: 'it returns false'. Refute it at one input. -/
def alignNoneWrong : ChangeSpec := { name := "alignNone", fn := fun _ => fun
  | [d1, d2] => { results := [.lit (.bool false)], args := [d1, d2] }
  | _ => none }
def AlignNoneWrongFalsely : Prop := alignNoneRow.holds Try.pinned (OpenSpec.ofChange alignNoneWrong)

/-- 'forebaylaw19.AlignAlone': WHATEVER THE INPUT: true; the input reads as it did. -/
def alignAloneSpec : ChangeSpec := { name := "alignAlone", fn := fun _ => fun
  | [d] => { results := [.lit (.bool true)], args := [d] }
  | _ => none }
def alignAloneRow : OpenClaim := { program := "ytkmkdodhahcpdaa", sum := "96547d8e91dd142a18eb98f6f7f44ddf5537e99f1a6a706ec660587473a2b972", func := "forebay/forebaylaw19.AlignAlone", spec := "alignAlone", unfollowed := true, recurses := true, apart := false }
def AlignAloneSaid : Prop := alignAloneRow.holds Try.pinned (OpenSpec.ofChange alignAloneSpec)

/-- ITS FALSE NEIGHBOUR: 'it returns false'. Refute it at one input. -/
def alignAloneWrong : ChangeSpec := { name := "alignAlone", fn := fun _ => fun
  | [d] => { results := [.lit (.bool false)], args := [d] }
  | _ => none }
def AlignAloneWrongFalsely : Prop := alignAloneRow.holds Try.pinned (OpenSpec.ofChange alignAloneWrong)

/-- 'forebaylaw01.OctetReads': WHATEVER THE INPUT: true; the input reads as it did. -/
def octetReadsSpec : ChangeSpec := { name := "octetReads", fn := fun _ => fun
  | [d1, d2, d3] => { results := [.lit (.bool true)], args := [d1, d2, d3] }
  | _ => none }
def octetReadsRow : OpenClaim := { program := "ytkmkdodhahcpdaa", sum := "96547d8e91dd142a18eb98f6f7f44ddf5537e99f1a6a706ec660587473a2b972", func := "forebay/forebaylaw01.OctetReads", spec := "octetReads", apart := false }
def OctetReadsSaid : Prop := octetReadsRow.holds Try.pinned (OpenSpec.ofChange octetReadsSpec)

/-- ITS FALSE NEIGHBOUR: 'it returns false'. Refute it at one input. -/
def octetReadsWrong : ChangeSpec := { name := "octetReads", fn := fun _ => fun
  | [d1, d2, d3] => { results := [.lit (.bool false)], args := [d1, d2, d3] }
  | _ => none }
def OctetReadsWrongFalsely : Prop := octetReadsRow.holds Try.pinned (OpenSpec.ofChange octetReadsWrong)

/-- 'forebaylaw01.OctetNone': WHATEVER THE INPUT: true; the input reads as it did. -/
def octetNoneSpec : ChangeSpec := { name := "octetNone", fn := fun _ => fun
  | [d1, d2] => { results := [.lit (.bool true)], args := [d1, d2] }
  | _ => none }
def octetNoneRow : OpenClaim := { program := "ytkmkdodhahcpdaa", sum := "96547d8e91dd142a18eb98f6f7f44ddf5537e99f1a6a706ec660587473a2b972", func := "forebay/forebaylaw01.OctetNone", spec := "octetNone", apart := false }
def OctetNoneSaid : Prop := octetNoneRow.holds Try.pinned (OpenSpec.ofChange octetNoneSpec)

/-- ITS FALSE NEIGHBOUR: 'it returns false'. Refute it at one input. -/
def octetNoneWrong : ChangeSpec := { name := "octetNone", fn := fun _ => fun
  | [d1, d2] => { results := [.lit (.bool false)], args := [d1, d2] }
  | _ => none }
def OctetNoneWrongFalsely : Prop := octetNoneRow.holds Try.pinned (OpenSpec.ofChange octetNoneWrong)

/-- 'forebaylaw01.OctetWrites': WHATEVER THE INPUT: true; the input reads as it did. -/
def octetWritesSpec : ChangeSpec := { name := "octetWrites", fn := fun _ => fun
  | [d1, d2, d3] => { results := [.lit (.bool true)], args := [d1, d2, d3] }
  | _ => none }
def octetWritesRow : OpenClaim := { program := "ytkmkdodhahcpdaa", sum := "96547d8e91dd142a18eb98f6f7f44ddf5537e99f1a6a706ec660587473a2b972", func := "forebay/forebaylaw01.OctetWrites", spec := "octetWrites", apart := false }
def OctetWritesSaid : Prop := octetWritesRow.holds Try.pinned (OpenSpec.ofChange octetWritesSpec)

/-- ITS FALSE NEIGHBOUR: 'it returns false'. Refute it at one input. -/
def octetWritesWrong : ChangeSpec := { name := "octetWrites", fn := fun _ => fun
  | [d1, d2, d3] => { results := [.lit (.bool false)], args := [d1, d2, d3] }
  | _ => none }
def OctetWritesWrongFalsely : Prop := octetWritesRow.holds Try.pinned (OpenSpec.ofChange octetWritesWrong)

/- THE SECOND FORM. 'bulk': how many values and letters a reading holds, each counted each time it is reached (what is shared counts as often as it is met; a slice's spare places count too). A statement '..UptoSaid' is the law's where the arguments, and the package variables that the reading takes, are together of bulk at most 1048576: NARROWER than '..Said'. Prove '..Said' where nothing that the law and all that it calls make is longer than what came in: it says more and counts as full. Else prove '..UptoSaid'. A law counts once. -/
mutual
def uptoBulk {H : Type} : DataW H → Nat
  | .lit (.string bytes) => bytes.length + 1
  | .lit _ => 1
  | .nil => 1
  | .ptr d => uptoBulk d + 1
  | .slice elems spare => uptoBulkAll elems + uptoBulkAll spare + 1
  | .agg parts => uptoBulkAll parts + 1
  | .iface _ d => uptoBulk d + 1
  | .map entries => uptoBulkEntries entries + 1
  | .held _ => 1
def uptoBulkAll {H : Type} : List (DataW H) → Nat
  | [] => 0
  | d :: r => uptoBulk d + uptoBulkAll r
def uptoBulkEntries {H : Type} : List (Lit × DataW H) → Nat
  | [] => 0
  | x :: r => uptoBulkEntry x + uptoBulkEntries r
def uptoBulkEntry {H : Type} : Lit × DataW H → Nat
  | (.string bytes, d) => bytes.length + uptoBulk d + 1
  | (_, d) => uptoBulk d + 1
 end
def uptoSmall : (H : Type) → List (DataW H) → Bool := fun _ ds => decide (uptoBulkAll ds ≤ 1048576)
def OpenSpec.upto (s : _root_.Go.ChangeSpec) : _root_.Go.OpenSpec := { _root_.Go.OpenSpec.ofChange s with cond := some uptoSmall }

/-- 'forebaylaw01.OctetUnlike', WHERE WHAT IT READS IS OF BULK AT MOST 1048576: true; the input reads as it did. -/
def octetUnlikeUptoRow : OpenClaim := { program := "ytkmkdodhahcpdaa", sum := "96547d8e91dd142a18eb98f6f7f44ddf5537e99f1a6a706ec660587473a2b972", func := "forebay/forebaylaw01.OctetUnlike", spec := "octetUnlike", apart := false, narrowed := true }
def OctetUnlikeUptoSaid : Prop := octetUnlikeUptoRow.holds Try.pinned (OpenSpec.upto octetUnlikeSpec)

/-- 'forebaylaw09.RouteTells', WHERE WHAT IT READS IS OF BULK AT MOST 1048576: true; the input reads as it did. -/
def routeTellsUptoRow : OpenClaim := { program := "ytkmkdodhahcpdaa", sum := "96547d8e91dd142a18eb98f6f7f44ddf5537e99f1a6a706ec660587473a2b972", func := "forebay/forebaylaw09.RouteTells", spec := "routeTells", unfollowed := true, recurses := true, apart := false, narrowed := true }
def RouteTellsUptoSaid : Prop := routeTellsUptoRow.holds Try.pinned (OpenSpec.upto routeTellsSpec)

/-- 'forebaylaw09.RouteParts', WHERE WHAT IT READS IS OF BULK AT MOST 1048576: true; the input reads as it did. -/
def routePartsUptoRow : OpenClaim := { program := "ytkmkdodhahcpdaa", sum := "96547d8e91dd142a18eb98f6f7f44ddf5537e99f1a6a706ec660587473a2b972", func := "forebay/forebaylaw09.RouteParts", spec := "routeParts", apart := false, narrowed := true }
def RoutePartsUptoSaid : Prop := routePartsUptoRow.holds Try.pinned (OpenSpec.upto routePartsSpec)

/-- 'forebaylaw19.AlignMeets', WHERE WHAT IT READS IS OF BULK AT MOST 1048576: true; the input reads as it did. -/
def alignMeetsUptoRow : OpenClaim := { program := "ytkmkdodhahcpdaa", sum := "96547d8e91dd142a18eb98f6f7f44ddf5537e99f1a6a706ec660587473a2b972", func := "forebay/forebaylaw19.AlignMeets", spec := "alignMeets", unfollowed := true, recurses := true, apart := false, narrowed := true }
def AlignMeetsUptoSaid : Prop := alignMeetsUptoRow.holds Try.pinned (OpenSpec.upto alignMeetsSpec)

/-- 'forebaylaw19.AlignTurns', WHERE WHAT IT READS IS OF BULK AT MOST 1048576: true; the input reads as it did. -/
def alignTurnsUptoRow : OpenClaim := { program := "ytkmkdodhahcpdaa", sum := "96547d8e91dd142a18eb98f6f7f44ddf5537e99f1a6a706ec660587473a2b972", func := "forebay/forebaylaw19.AlignTurns", spec := "alignTurns", unfollowed := true, recurses := true, apart := false, narrowed := true }
def AlignTurnsUptoSaid : Prop := alignTurnsUptoRow.holds Try.pinned (OpenSpec.upto alignTurnsSpec)

/-- 'forebaylaw09.RouteTexts', WHERE WHAT IT READS IS OF BULK AT MOST 1048576: true; the input reads as it did. -/
def routeTextsUptoRow : OpenClaim := { program := "ytkmkdodhahcpdaa", sum := "96547d8e91dd142a18eb98f6f7f44ddf5537e99f1a6a706ec660587473a2b972", func := "forebay/forebaylaw09.RouteTexts", spec := "routeTexts", apart := false, narrowed := true }
def RouteTextsUptoSaid : Prop := routeTextsUptoRow.holds Try.pinned (OpenSpec.upto routeTextsSpec)

/-- 'forebaylaw09.RouteCovers', WHERE WHAT IT READS IS OF BULK AT MOST 1048576: true; the input reads as it did. -/
def routeCoversUptoRow : OpenClaim := { program := "ytkmkdodhahcpdaa", sum := "96547d8e91dd142a18eb98f6f7f44ddf5537e99f1a6a706ec660587473a2b972", func := "forebay/forebaylaw09.RouteCovers", spec := "routeCovers", unfollowed := true, recurses := true, apart := false, narrowed := true }
def RouteCoversUptoSaid : Prop := routeCoversUptoRow.holds Try.pinned (OpenSpec.upto routeCoversSpec)

/-- 'forebaylaw19.AlignNone', WHERE WHAT IT READS IS OF BULK AT MOST 1048576: true; the input reads as it did. -/
def alignNoneUptoRow : OpenClaim := { program := "ytkmkdodhahcpdaa", sum := "96547d8e91dd142a18eb98f6f7f44ddf5537e99f1a6a706ec660587473a2b972", func := "forebay/forebaylaw19.AlignNone", spec := "alignNone", unfollowed := true, recurses := true, apart := false, narrowed := true }
def AlignNoneUptoSaid : Prop := alignNoneUptoRow.holds Try.pinned (OpenSpec.upto alignNoneSpec)

/-- 'forebaylaw19.AlignAlone', WHERE WHAT IT READS IS OF BULK AT MOST 1048576: true; the input reads as it did. -/
def alignAloneUptoRow : OpenClaim := { program := "ytkmkdodhahcpdaa", sum := "96547d8e91dd142a18eb98f6f7f44ddf5537e99f1a6a706ec660587473a2b972", func := "forebay/forebaylaw19.AlignAlone", spec := "alignAlone", unfollowed := true, recurses := true, apart := false, narrowed := true }
def AlignAloneUptoSaid : Prop := alignAloneUptoRow.holds Try.pinned (OpenSpec.upto alignAloneSpec)

/-- 'forebaylaw01.OctetReads', WHERE WHAT IT READS IS OF BULK AT MOST 1048576: true; the input reads as it did. -/
def octetReadsUptoRow : OpenClaim := { program := "ytkmkdodhahcpdaa", sum := "96547d8e91dd142a18eb98f6f7f44ddf5537e99f1a6a706ec660587473a2b972", func := "forebay/forebaylaw01.OctetReads", spec := "octetReads", apart := false, narrowed := true }
def OctetReadsUptoSaid : Prop := octetReadsUptoRow.holds Try.pinned (OpenSpec.upto octetReadsSpec)

/-- 'forebaylaw01.OctetNone', WHERE WHAT IT READS IS OF BULK AT MOST 1048576: true; the input reads as it did. -/
def octetNoneUptoRow : OpenClaim := { program := "ytkmkdodhahcpdaa", sum := "96547d8e91dd142a18eb98f6f7f44ddf5537e99f1a6a706ec660587473a2b972", func := "forebay/forebaylaw01.OctetNone", spec := "octetNone", apart := false, narrowed := true }
def OctetNoneUptoSaid : Prop := octetNoneUptoRow.holds Try.pinned (OpenSpec.upto octetNoneSpec)

/-- 'forebaylaw01.OctetWrites', WHERE WHAT IT READS IS OF BULK AT MOST 1048576: true; the input reads as it did. -/
def octetWritesUptoRow : OpenClaim := { program := "ytkmkdodhahcpdaa", sum := "96547d8e91dd142a18eb98f6f7f44ddf5537e99f1a6a706ec660587473a2b972", func := "forebay/forebaylaw01.OctetWrites", spec := "octetWrites", apart := false, narrowed := true }
def OctetWritesUptoSaid : Prop := octetWritesUptoRow.holds Try.pinned (OpenSpec.upto octetWritesSpec)

end Rows
end Go.Proofs.Ytkmkdodhahcpdaa
