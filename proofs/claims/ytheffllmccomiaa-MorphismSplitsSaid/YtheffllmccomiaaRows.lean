/-
  No cell of these rows narrows 'for every input' (looked for: loops, veiled, ifaces, maps, wideKeys, modest, calm, conditions, laid).
  DERIVED. THE GIVEN ROWS OF THIS SEAT. 8 by the template 'for every input the law returns true; each argument reads behind the call as it read before'; 0 by the template 'total and deterministic' (their statements: YtheffllmccomiaaTotals.lean).
  GIVEN WITH THE SEED: the statements are not yours to turn. If you find one false, say at which input.
  Laid BY PROGRAM, IN A SANDBOX (cutbox-rows.mjs): the forced cells as the released guide's own fill.sh prints them over the translation 652074308b649561… (all of the seat's roots in one cut). By AI agents, Wed Nov 11 2026. No macro, syntax, notation, axiom, sorry.
-/
import Derived.Test.YtheffllmccomiaaChecked
import GoSem.Claim
import GoSem.ClaimJoined
import GoSem.ClaimMapViews
import Derived.JoinedTies
import Derived.KernelRfl
namespace Go.Proofs.Ytheffllmccomiaa
/- THE CELL 'sum', in the pinned program and in every row, IS THE sha256 OF THE DUMP (.gsa) THAT YtheffllmccomiaaProg.lean LOADS. Nothing in Lean hashes anything: it is a label: what it is worth is what the hold of that sum in a sandbox is worth. -/
noncomputable def Try.pinned : Pinned := { name := "ytheffllmccomiaa", sum := "652074308b649561ba1800016418d46ec1bf5e6df56d2394537e31f7509538c8", checked := Try.checked }
namespace Rows
def none {H : Type} : Left H := { results := [], args := [] }

/-- 'sandpilelaw51.MorphismDegrees': WHATEVER THE INPUT: true; the input reads as it did. -/
def morphismDegreesSpec : ChangeSpec := { name := "morphismDegrees", fn := fun _ => fun
  | [d1, d2, d3] => { results := [.lit (.bool true)], args := [d1, d2, d3] }
  | _ => none }
def morphismDegreesRow : OpenClaim := { program := "ytheffllmccomiaa", sum := "652074308b649561ba1800016418d46ec1bf5e6df56d2394537e31f7509538c8", func := "sandpile/sandpilelaw51.MorphismDegrees", spec := "morphismDegrees", unfollowed := true, recurses := true, plainKeys := false, apart := false }
def MorphismDegreesSaid : Prop := morphismDegreesRow.holds Try.pinned (OpenSpec.ofChange morphismDegreesSpec)

/-- ITS FALSE NEIGHBOUR: 'it returns false'. Refute it at one input. -/
def morphismDegreesWrong : ChangeSpec := { name := "morphismDegrees", fn := fun _ => fun
  | [d1, d2, d3] => { results := [.lit (.bool false)], args := [d1, d2, d3] }
  | _ => none }
def MorphismDegreesWrongFalsely : Prop := morphismDegreesRow.holds Try.pinned (OpenSpec.ofChange morphismDegreesWrong)

/-- 'sandpilelaw51.MorphismCovers': WHATEVER THE INPUT: true; the input reads as it did. -/
def morphismCoversSpec : ChangeSpec := { name := "morphismCovers", fn := fun _ => fun
  | [d1, d2] => { results := [.lit (.bool true)], args := [d1, d2] }
  | _ => none }
def morphismCoversRow : OpenClaim := { program := "ytheffllmccomiaa", sum := "652074308b649561ba1800016418d46ec1bf5e6df56d2394537e31f7509538c8", func := "sandpile/sandpilelaw51.MorphismCovers", spec := "morphismCovers", unfollowed := true, recurses := true, plainKeys := false, apart := false }
def MorphismCoversSaid : Prop := morphismCoversRow.holds Try.pinned (OpenSpec.ofChange morphismCoversSpec)

/-- ITS FALSE NEIGHBOUR: 'it returns false'. Refute it at one input. -/
def morphismCoversWrong : ChangeSpec := { name := "morphismCovers", fn := fun _ => fun
  | [d1, d2] => { results := [.lit (.bool false)], args := [d1, d2] }
  | _ => none }
def MorphismCoversWrongFalsely : Prop := morphismCoversRow.holds Try.pinned (OpenSpec.ofChange morphismCoversWrong)

/-- 'sandpilelaw51.MorphismChecks': WHATEVER THE INPUT: true; the input reads as it did. -/
def morphismChecksSpec : ChangeSpec := { name := "morphismChecks", fn := fun _ => fun
  | [d1, d2, d3] => { results := [.lit (.bool true)], args := [d1, d2, d3] }
  | _ => none }
def morphismChecksRow : OpenClaim := { program := "ytheffllmccomiaa", sum := "652074308b649561ba1800016418d46ec1bf5e6df56d2394537e31f7509538c8", func := "sandpile/sandpilelaw51.MorphismChecks", spec := "morphismChecks", unfollowed := true, recurses := true, plainKeys := false, apart := false }
def MorphismChecksSaid : Prop := morphismChecksRow.holds Try.pinned (OpenSpec.ofChange morphismChecksSpec)

/-- ITS FALSE NEIGHBOUR: 'it returns false'. Refute it at one input. -/
def morphismChecksWrong : ChangeSpec := { name := "morphismChecks", fn := fun _ => fun
  | [d1, d2, d3] => { results := [.lit (.bool false)], args := [d1, d2, d3] }
  | _ => none }
def MorphismChecksWrongFalsely : Prop := morphismChecksRow.holds Try.pinned (OpenSpec.ofChange morphismChecksWrong)

/-- 'sandpilelaw51.MorphismSplits': WHATEVER THE INPUT: true; the input reads as it did. -/
def morphismSplitsSpec : ChangeSpec := { name := "morphismSplits", fn := fun _ => fun
  | [d1, d2, d3] => { results := [.lit (.bool true)], args := [d1, d2, d3] }
  | _ => none }
def morphismSplitsRow : OpenClaim := { program := "ytheffllmccomiaa", sum := "652074308b649561ba1800016418d46ec1bf5e6df56d2394537e31f7509538c8", func := "sandpile/sandpilelaw51.MorphismSplits", spec := "morphismSplits", unfollowed := true, recurses := true, plainKeys := false, apart := false }
def MorphismSplitsSaid : Prop := morphismSplitsRow.holds Try.pinned (OpenSpec.ofChange morphismSplitsSpec)

/-- ITS FALSE NEIGHBOUR: 'it returns false'. Refute it at one input. -/
def morphismSplitsWrong : ChangeSpec := { name := "morphismSplits", fn := fun _ => fun
  | [d1, d2, d3] => { results := [.lit (.bool false)], args := [d1, d2, d3] }
  | _ => none }
def MorphismSplitsWrongFalsely : Prop := morphismSplitsRow.holds Try.pinned (OpenSpec.ofChange morphismSplitsWrong)

/-- 'sandpilelaw51.MorphismCounts': WHATEVER THE INPUT: true; the input reads as it did. -/
def morphismCountsSpec : ChangeSpec := { name := "morphismCounts", fn := fun _ => fun
  | [d1, d2, d3] => { results := [.lit (.bool true)], args := [d1, d2, d3] }
  | _ => none }
def morphismCountsRow : OpenClaim := { program := "ytheffllmccomiaa", sum := "652074308b649561ba1800016418d46ec1bf5e6df56d2394537e31f7509538c8", func := "sandpile/sandpilelaw51.MorphismCounts", spec := "morphismCounts", unfollowed := true, recurses := true, plainKeys := false, apart := false }
def MorphismCountsSaid : Prop := morphismCountsRow.holds Try.pinned (OpenSpec.ofChange morphismCountsSpec)

/-- ITS FALSE NEIGHBOUR: 'it returns false'. Refute it at one input. -/
def morphismCountsWrong : ChangeSpec := { name := "morphismCounts", fn := fun _ => fun
  | [d1, d2, d3] => { results := [.lit (.bool false)], args := [d1, d2, d3] }
  | _ => none }
def MorphismCountsWrongFalsely : Prop := morphismCountsRow.holds Try.pinned (OpenSpec.ofChange morphismCountsWrong)

/-- 'sandpilelaw51.MorphismComposes': WHATEVER THE INPUT: true; the input reads as it did. -/
def morphismComposesSpec : ChangeSpec := { name := "morphismComposes", fn := fun _ => fun
  | [d1, d2, d3] => { results := [.lit (.bool true)], args := [d1, d2, d3] }
  | _ => none }
def morphismComposesRow : OpenClaim := { program := "ytheffllmccomiaa", sum := "652074308b649561ba1800016418d46ec1bf5e6df56d2394537e31f7509538c8", func := "sandpile/sandpilelaw51.MorphismComposes", spec := "morphismComposes", unfollowed := true, recurses := true, plainKeys := false, apart := false }
def MorphismComposesSaid : Prop := morphismComposesRow.holds Try.pinned (OpenSpec.ofChange morphismComposesSpec)

/-- ITS FALSE NEIGHBOUR: 'it returns false'. Refute it at one input. -/
def morphismComposesWrong : ChangeSpec := { name := "morphismComposes", fn := fun _ => fun
  | [d1, d2, d3] => { results := [.lit (.bool false)], args := [d1, d2, d3] }
  | _ => none }
def MorphismComposesWrongFalsely : Prop := morphismComposesRow.holds Try.pinned (OpenSpec.ofChange morphismComposesWrong)

/-- 'sandpilelaw51.MorphismMakes': WHATEVER THE INPUT: true; the input reads as it did. -/
def morphismMakesSpec : ChangeSpec := { name := "morphismMakes", fn := fun _ => fun
  | [d1, d2] => { results := [.lit (.bool true)], args := [d1, d2] }
  | _ => none }
def morphismMakesRow : OpenClaim := { program := "ytheffllmccomiaa", sum := "652074308b649561ba1800016418d46ec1bf5e6df56d2394537e31f7509538c8", func := "sandpile/sandpilelaw51.MorphismMakes", spec := "morphismMakes", unfollowed := true, recurses := true, plainKeys := false, apart := false }
def MorphismMakesSaid : Prop := morphismMakesRow.holds Try.pinned (OpenSpec.ofChange morphismMakesSpec)

/-- ITS FALSE NEIGHBOUR: 'it returns false'. Refute it at one input. -/
def morphismMakesWrong : ChangeSpec := { name := "morphismMakes", fn := fun _ => fun
  | [d1, d2] => { results := [.lit (.bool false)], args := [d1, d2] }
  | _ => none }
def MorphismMakesWrongFalsely : Prop := morphismMakesRow.holds Try.pinned (OpenSpec.ofChange morphismMakesWrong)

/-- 'sandpilelaw51.MorphismMultiplies': WHATEVER THE INPUT: true; the input reads as it did. -/
def morphismMultipliesSpec : ChangeSpec := { name := "morphismMultiplies", fn := fun _ => fun
  | [d1, d2, d3] => { results := [.lit (.bool true)], args := [d1, d2, d3] }
  | _ => none }
def morphismMultipliesRow : OpenClaim := { program := "ytheffllmccomiaa", sum := "652074308b649561ba1800016418d46ec1bf5e6df56d2394537e31f7509538c8", func := "sandpile/sandpilelaw51.MorphismMultiplies", spec := "morphismMultiplies", unfollowed := true, recurses := true, plainKeys := false, apart := false }
def MorphismMultipliesSaid : Prop := morphismMultipliesRow.holds Try.pinned (OpenSpec.ofChange morphismMultipliesSpec)

/-- ITS FALSE NEIGHBOUR: 'it returns false'. Refute it at one input. -/
def morphismMultipliesWrong : ChangeSpec := { name := "morphismMultiplies", fn := fun _ => fun
  | [d1, d2, d3] => { results := [.lit (.bool false)], args := [d1, d2, d3] }
  | _ => none }
def MorphismMultipliesWrongFalsely : Prop := morphismMultipliesRow.holds Try.pinned (OpenSpec.ofChange morphismMultipliesWrong)

/- THE SECOND FORM. 'bulk': how many values and letters a reading holds, each counted each time it is reached (what is shared counts as often as it is met; a slice's spare places count too). A statement '..UptoSaid' is the law's where the arguments, and the package variables that the reading takes, are together of bulk at most 1048576: NARROWER than '..Said'. Prove '..Said' where nothing that the law and all that it calls make is longer than what came in: it says more and counts as full. Else prove '..UptoSaid'. A law counts once. -/
mutual
def uptoBulk {H : Type} : DataW H → Nat
  | .lit (.string bytes) => bytes.length + 1
  | .lit _ => 1
  | .nil => 1
  | .ptr d => uptoBulk d + 1
  | .slice elems spare => uptoBulkAll elems + uptoBulkAll spare + 1
  | .agg parts => uptoBulkAll parts + 1
  | .iface _ d => uptoBulk d + 1
  | .map entries => uptoBulkEntries entries + 1
  | .held _ => 1
def uptoBulkAll {H : Type} : List (DataW H) → Nat
  | [] => 0
  | d :: r => uptoBulk d + uptoBulkAll r
def uptoBulkEntries {H : Type} : List (Lit × DataW H) → Nat
  | [] => 0
  | x :: r => uptoBulkEntry x + uptoBulkEntries r
def uptoBulkEntry {H : Type} : Lit × DataW H → Nat
  | (.string bytes, d) => bytes.length + uptoBulk d + 1
  | (_, d) => uptoBulk d + 1
 end
def uptoSmall : (H : Type) → List (DataW H) → Bool := fun _ ds => decide (uptoBulkAll ds ≤ 1048576)
def OpenSpec.upto (s : _root_.Go.ChangeSpec) : _root_.Go.OpenSpec := { _root_.Go.OpenSpec.ofChange s with cond := some uptoSmall }

/-- 'sandpilelaw51.MorphismDegrees', WHERE WHAT IT READS IS OF BULK AT MOST 1048576: true; the input reads as it did. -/
def morphismDegreesUptoRow : OpenClaim := { program := "ytheffllmccomiaa", sum := "652074308b649561ba1800016418d46ec1bf5e6df56d2394537e31f7509538c8", func := "sandpile/sandpilelaw51.MorphismDegrees", spec := "morphismDegrees", unfollowed := true, recurses := true, plainKeys := false, apart := false, narrowed := true }
def MorphismDegreesUptoSaid : Prop := morphismDegreesUptoRow.holds Try.pinned (OpenSpec.upto morphismDegreesSpec)

/-- 'sandpilelaw51.MorphismCovers', WHERE WHAT IT READS IS OF BULK AT MOST 1048576: true; the input reads as it did. -/
def morphismCoversUptoRow : OpenClaim := { program := "ytheffllmccomiaa", sum := "652074308b649561ba1800016418d46ec1bf5e6df56d2394537e31f7509538c8", func := "sandpile/sandpilelaw51.MorphismCovers", spec := "morphismCovers", unfollowed := true, recurses := true, plainKeys := false, apart := false, narrowed := true }
def MorphismCoversUptoSaid : Prop := morphismCoversUptoRow.holds Try.pinned (OpenSpec.upto morphismCoversSpec)

/-- 'sandpilelaw51.MorphismChecks', WHERE WHAT IT READS IS OF BULK AT MOST 1048576: true; the input reads as it did. -/
def morphismChecksUptoRow : OpenClaim := { program := "ytheffllmccomiaa", sum := "652074308b649561ba1800016418d46ec1bf5e6df56d2394537e31f7509538c8", func := "sandpile/sandpilelaw51.MorphismChecks", spec := "morphismChecks", unfollowed := true, recurses := true, plainKeys := false, apart := false, narrowed := true }
def MorphismChecksUptoSaid : Prop := morphismChecksUptoRow.holds Try.pinned (OpenSpec.upto morphismChecksSpec)

/-- 'sandpilelaw51.MorphismSplits', WHERE WHAT IT READS IS OF BULK AT MOST 1048576: true; the input reads as it did. -/
def morphismSplitsUptoRow : OpenClaim := { program := "ytheffllmccomiaa", sum := "652074308b649561ba1800016418d46ec1bf5e6df56d2394537e31f7509538c8", func := "sandpile/sandpilelaw51.MorphismSplits", spec := "morphismSplits", unfollowed := true, recurses := true, plainKeys := false, apart := false, narrowed := true }
def MorphismSplitsUptoSaid : Prop := morphismSplitsUptoRow.holds Try.pinned (OpenSpec.upto morphismSplitsSpec)

/-- 'sandpilelaw51.MorphismCounts', WHERE WHAT IT READS IS OF BULK AT MOST 1048576: true; the input reads as it did. -/
def morphismCountsUptoRow : OpenClaim := { program := "ytheffllmccomiaa", sum := "652074308b649561ba1800016418d46ec1bf5e6df56d2394537e31f7509538c8", func := "sandpile/sandpilelaw51.MorphismCounts", spec := "morphismCounts", unfollowed := true, recurses := true, plainKeys := false, apart := false, narrowed := true }
def MorphismCountsUptoSaid : Prop := morphismCountsUptoRow.holds Try.pinned (OpenSpec.upto morphismCountsSpec)

/-- 'sandpilelaw51.MorphismComposes', WHERE WHAT IT READS IS OF BULK AT MOST 1048576: true; the input reads as it did. -/
def morphismComposesUptoRow : OpenClaim := { program := "ytheffllmccomiaa", sum := "652074308b649561ba1800016418d46ec1bf5e6df56d2394537e31f7509538c8", func := "sandpile/sandpilelaw51.MorphismComposes", spec := "morphismComposes", unfollowed := true, recurses := true, plainKeys := false, apart := false, narrowed := true }
def MorphismComposesUptoSaid : Prop := morphismComposesUptoRow.holds Try.pinned (OpenSpec.upto morphismComposesSpec)

/-- 'sandpilelaw51.MorphismMakes', WHERE WHAT IT READS IS OF BULK AT MOST 1048576: true; the input reads as it did. -/
def morphismMakesUptoRow : OpenClaim := { program := "ytheffllmccomiaa", sum := "652074308b649561ba1800016418d46ec1bf5e6df56d2394537e31f7509538c8", func := "sandpile/sandpilelaw51.MorphismMakes", spec := "morphismMakes", unfollowed := true, recurses := true, plainKeys := false, apart := false, narrowed := true }
def MorphismMakesUptoSaid : Prop := morphismMakesUptoRow.holds Try.pinned (OpenSpec.upto morphismMakesSpec)

/-- 'sandpilelaw51.MorphismMultiplies', WHERE WHAT IT READS IS OF BULK AT MOST 1048576: true; the input reads as it did. -/
def morphismMultipliesUptoRow : OpenClaim := { program := "ytheffllmccomiaa", sum := "652074308b649561ba1800016418d46ec1bf5e6df56d2394537e31f7509538c8", func := "sandpile/sandpilelaw51.MorphismMultiplies", spec := "morphismMultiplies", unfollowed := true, recurses := true, plainKeys := false, apart := false, narrowed := true }
def MorphismMultipliesUptoSaid : Prop := morphismMultipliesUptoRow.holds Try.pinned (OpenSpec.upto morphismMultipliesSpec)

end Rows
end Go.Proofs.Ytheffllmccomiaa
