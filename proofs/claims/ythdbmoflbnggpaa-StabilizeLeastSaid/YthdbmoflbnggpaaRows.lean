/-
  No cell of these rows narrows 'for every input' (looked for: loops, veiled, ifaces, maps, wideKeys, modest, calm, conditions, laid).
  DERIVED. THE GIVEN ROWS OF THIS SEAT. 8 by the template 'for every input the law returns true; each argument reads behind the call as it read before'; 0 by the template 'total and deterministic' (their statements: YthdbmoflbnggpaaTotals.lean).
  GIVEN WITH THE SEED: the statements are not yours to turn. If you find one false, say at which input.
  Laid BY PROGRAM, IN A SANDBOX (cutbox-rows.mjs): the forced cells as the released guide's own fill.sh prints them over the translation d85fcab85b7fe14f… (all of the seat's roots in one cut). By AI agents, Wed Nov 11 2026. No macro, syntax, notation, axiom, sorry.
-/
import Derived.Test.YthdbmoflbnggpaaChecked
import GoSem.Claim
import GoSem.ClaimJoined
import GoSem.ClaimMapViews
import Derived.JoinedTies
import Derived.KernelRfl
namespace Go.Proofs.Ythdbmoflbnggpaa
/- THE CELL 'sum', in the pinned program and in every row, IS THE sha256 OF THE DUMP (.gsa) THAT YthdbmoflbnggpaaProg.lean LOADS. Nothing in Lean hashes anything: it is a label: what it is worth is what the hold of that sum in a sandbox is worth. -/
noncomputable def Try.pinned : Pinned := { name := "ythdbmoflbnggpaa", sum := "d85fcab85b7fe14f759ef799c16de6475bb457afb2b3a3227c09572edc2c2504", checked := Try.checked }
namespace Rows
def none {H : Type} : Left H := { results := [], args := [] }

/-- 'sandpilelaw19.StabilizeFalls': WHATEVER THE INPUT: true; the input reads as it did. -/
def stabilizeFallsSpec : ChangeSpec := { name := "stabilizeFalls", fn := fun _ => fun
  | [d1, d2, d3] => { results := [.lit (.bool true)], args := [d1, d2, d3] }
  | _ => none }
def stabilizeFallsRow : OpenClaim := { program := "ythdbmoflbnggpaa", sum := "d85fcab85b7fe14f759ef799c16de6475bb457afb2b3a3227c09572edc2c2504", func := "sandpile/sandpilelaw19.StabilizeFalls", spec := "stabilizeFalls", unfollowed := true, recurses := true, apart := false }
def StabilizeFallsSaid : Prop := stabilizeFallsRow.holds Try.pinned (OpenSpec.ofChange stabilizeFallsSpec)

/-- ITS FALSE NEIGHBOUR: 'it returns false'. Refute it at one input. -/
def stabilizeFallsWrong : ChangeSpec := { name := "stabilizeFalls", fn := fun _ => fun
  | [d1, d2, d3] => { results := [.lit (.bool false)], args := [d1, d2, d3] }
  | _ => none }
def StabilizeFallsWrongFalsely : Prop := stabilizeFallsRow.holds Try.pinned (OpenSpec.ofChange stabilizeFallsWrong)

/-- 'sandpilelaw19.StabilizeTopples': WHATEVER THE INPUT: true; the input reads as it did. -/
def stabilizeTopplesSpec : ChangeSpec := { name := "stabilizeTopples", fn := fun _ => fun
  | [d1, d2, d3] => { results := [.lit (.bool true)], args := [d1, d2, d3] }
  | _ => none }
def stabilizeTopplesRow : OpenClaim := { program := "ythdbmoflbnggpaa", sum := "d85fcab85b7fe14f759ef799c16de6475bb457afb2b3a3227c09572edc2c2504", func := "sandpile/sandpilelaw19.StabilizeTopples", spec := "stabilizeTopples", unfollowed := true, recurses := true, apart := false }
def StabilizeTopplesSaid : Prop := stabilizeTopplesRow.holds Try.pinned (OpenSpec.ofChange stabilizeTopplesSpec)

/-- ITS FALSE NEIGHBOUR: 'it returns false'. Refute it at one input. -/
def stabilizeTopplesWrong : ChangeSpec := { name := "stabilizeTopples", fn := fun _ => fun
  | [d1, d2, d3] => { results := [.lit (.bool false)], args := [d1, d2, d3] }
  | _ => none }
def StabilizeTopplesWrongFalsely : Prop := stabilizeTopplesRow.holds Try.pinned (OpenSpec.ofChange stabilizeTopplesWrong)

/-- 'sandpilelaw19.StabilizeAvalanches': WHATEVER THE INPUT: true; the input reads as it did. -/
def stabilizeAvalanchesSpec : ChangeSpec := { name := "stabilizeAvalanches", fn := fun _ => fun
  | [d1, d2, d3] => { results := [.lit (.bool true)], args := [d1, d2, d3] }
  | _ => none }
def stabilizeAvalanchesRow : OpenClaim := { program := "ythdbmoflbnggpaa", sum := "d85fcab85b7fe14f759ef799c16de6475bb457afb2b3a3227c09572edc2c2504", func := "sandpile/sandpilelaw19.StabilizeAvalanches", spec := "stabilizeAvalanches", unfollowed := true, recurses := true, apart := false }
def StabilizeAvalanchesSaid : Prop := stabilizeAvalanchesRow.holds Try.pinned (OpenSpec.ofChange stabilizeAvalanchesSpec)

/-- ITS FALSE NEIGHBOUR: 'it returns false'. Refute it at one input. -/
def stabilizeAvalanchesWrong : ChangeSpec := { name := "stabilizeAvalanches", fn := fun _ => fun
  | [d1, d2, d3] => { results := [.lit (.bool false)], args := [d1, d2, d3] }
  | _ => none }
def StabilizeAvalanchesWrongFalsely : Prop := stabilizeAvalanchesRow.holds Try.pinned (OpenSpec.ofChange stabilizeAvalanchesWrong)

/-- 'sandpilelaw19.StabilizeChecks': WHATEVER THE INPUT: true; the input reads as it did. -/
def stabilizeChecksSpec : ChangeSpec := { name := "stabilizeChecks", fn := fun _ => fun
  | [d1, d2, d3] => { results := [.lit (.bool true)], args := [d1, d2, d3] }
  | _ => none }
def stabilizeChecksRow : OpenClaim := { program := "ythdbmoflbnggpaa", sum := "d85fcab85b7fe14f759ef799c16de6475bb457afb2b3a3227c09572edc2c2504", func := "sandpile/sandpilelaw19.StabilizeChecks", spec := "stabilizeChecks", unfollowed := true, recurses := true, apart := false }
def StabilizeChecksSaid : Prop := stabilizeChecksRow.holds Try.pinned (OpenSpec.ofChange stabilizeChecksSpec)

/-- ITS FALSE NEIGHBOUR: 'it returns false'. Refute it at one input. -/
def stabilizeChecksWrong : ChangeSpec := { name := "stabilizeChecks", fn := fun _ => fun
  | [d1, d2, d3] => { results := [.lit (.bool false)], args := [d1, d2, d3] }
  | _ => none }
def StabilizeChecksWrongFalsely : Prop := stabilizeChecksRow.holds Try.pinned (OpenSpec.ofChange stabilizeChecksWrong)

/-- 'sandpilelaw19.StabilizeAdds': WHATEVER THE INPUT: true; the input reads as it did. -/
def stabilizeAddsSpec : ChangeSpec := { name := "stabilizeAdds", fn := fun _ => fun
  | [d1, d2, d3] => { results := [.lit (.bool true)], args := [d1, d2, d3] }
  | _ => none }
def stabilizeAddsRow : OpenClaim := { program := "ythdbmoflbnggpaa", sum := "d85fcab85b7fe14f759ef799c16de6475bb457afb2b3a3227c09572edc2c2504", func := "sandpile/sandpilelaw19.StabilizeAdds", spec := "stabilizeAdds", unfollowed := true, recurses := true, apart := false }
def StabilizeAddsSaid : Prop := stabilizeAddsRow.holds Try.pinned (OpenSpec.ofChange stabilizeAddsSpec)

/-- ITS FALSE NEIGHBOUR: 'it returns false'. Refute it at one input. -/
def stabilizeAddsWrong : ChangeSpec := { name := "stabilizeAdds", fn := fun _ => fun
  | [d1, d2, d3] => { results := [.lit (.bool false)], args := [d1, d2, d3] }
  | _ => none }
def StabilizeAddsWrongFalsely : Prop := stabilizeAddsRow.holds Try.pinned (OpenSpec.ofChange stabilizeAddsWrong)

/-- 'sandpilelaw19.StabilizeLeast': WHATEVER THE INPUT: true; the input reads as it did. -/
def stabilizeLeastSpec : ChangeSpec := { name := "stabilizeLeast", fn := fun _ => fun
  | [d1, d2, d3] => { results := [.lit (.bool true)], args := [d1, d2, d3] }
  | _ => none }
def stabilizeLeastRow : OpenClaim := { program := "ythdbmoflbnggpaa", sum := "d85fcab85b7fe14f759ef799c16de6475bb457afb2b3a3227c09572edc2c2504", func := "sandpile/sandpilelaw19.StabilizeLeast", spec := "stabilizeLeast", unfollowed := true, recurses := true, apart := false }
def StabilizeLeastSaid : Prop := stabilizeLeastRow.holds Try.pinned (OpenSpec.ofChange stabilizeLeastSpec)

/-- ITS FALSE NEIGHBOUR: 'it returns false'. Refute it at one input. -/
def stabilizeLeastWrong : ChangeSpec := { name := "stabilizeLeast", fn := fun _ => fun
  | [d1, d2, d3] => { results := [.lit (.bool false)], args := [d1, d2, d3] }
  | _ => none }
def StabilizeLeastWrongFalsely : Prop := stabilizeLeastRow.holds Try.pinned (OpenSpec.ofChange stabilizeLeastWrong)

/-- 'sandpilelaw19.StabilizeEnds': WHATEVER THE INPUT: true; the input reads as it did. -/
def stabilizeEndsSpec : ChangeSpec := { name := "stabilizeEnds", fn := fun _ => fun
  | [d1, d2, d3] => { results := [.lit (.bool true)], args := [d1, d2, d3] }
  | _ => none }
def stabilizeEndsRow : OpenClaim := { program := "ythdbmoflbnggpaa", sum := "d85fcab85b7fe14f759ef799c16de6475bb457afb2b3a3227c09572edc2c2504", func := "sandpile/sandpilelaw19.StabilizeEnds", spec := "stabilizeEnds", unfollowed := true, recurses := true, apart := false }
def StabilizeEndsSaid : Prop := stabilizeEndsRow.holds Try.pinned (OpenSpec.ofChange stabilizeEndsSpec)

/-- ITS FALSE NEIGHBOUR: 'it returns false'. Refute it at one input. -/
def stabilizeEndsWrong : ChangeSpec := { name := "stabilizeEnds", fn := fun _ => fun
  | [d1, d2, d3] => { results := [.lit (.bool false)], args := [d1, d2, d3] }
  | _ => none }
def StabilizeEndsWrongFalsely : Prop := stabilizeEndsRow.holds Try.pinned (OpenSpec.ofChange stabilizeEndsWrong)

/-- 'sandpilelaw19.StabilizePlays': WHATEVER THE INPUT: true; the input reads as it did. -/
def stabilizePlaysSpec : ChangeSpec := { name := "stabilizePlays", fn := fun _ => fun
  | [d1, d2, d3] => { results := [.lit (.bool true)], args := [d1, d2, d3] }
  | _ => none }
def stabilizePlaysRow : OpenClaim := { program := "ythdbmoflbnggpaa", sum := "d85fcab85b7fe14f759ef799c16de6475bb457afb2b3a3227c09572edc2c2504", func := "sandpile/sandpilelaw19.StabilizePlays", spec := "stabilizePlays", unfollowed := true, recurses := true, apart := false }
def StabilizePlaysSaid : Prop := stabilizePlaysRow.holds Try.pinned (OpenSpec.ofChange stabilizePlaysSpec)

/-- ITS FALSE NEIGHBOUR: 'it returns false'. Refute it at one input. -/
def stabilizePlaysWrong : ChangeSpec := { name := "stabilizePlays", fn := fun _ => fun
  | [d1, d2, d3] => { results := [.lit (.bool false)], args := [d1, d2, d3] }
  | _ => none }
def StabilizePlaysWrongFalsely : Prop := stabilizePlaysRow.holds Try.pinned (OpenSpec.ofChange stabilizePlaysWrong)

/- THE SECOND FORM. 'bulk': how many values and letters a reading holds, each counted each time it is reached (what is shared counts as often as it is met; a slice's spare places count too). A statement '..UptoSaid' is the law's where the arguments, and the package variables that the reading takes, are together of bulk at most 1048576: NARROWER than '..Said'. Prove '..Said' where nothing that the law and all that it calls make is longer than what came in: it says more and counts as full. Else prove '..UptoSaid'. A law counts once. -/
mutual
def uptoBulk {H : Type} : DataW H → Nat
  | .lit (.string bytes) => bytes.length + 1
  | .lit _ => 1
  | .nil => 1
  | .ptr d => uptoBulk d + 1
  | .slice elems spare => uptoBulkAll elems + uptoBulkAll spare + 1
  | .agg parts => uptoBulkAll parts + 1
  | .iface _ d => uptoBulk d + 1
  | .map entries => uptoBulkEntries entries + 1
  | .held _ => 1
def uptoBulkAll {H : Type} : List (DataW H) → Nat
  | [] => 0
  | d :: r => uptoBulk d + uptoBulkAll r
def uptoBulkEntries {H : Type} : List (Lit × DataW H) → Nat
  | [] => 0
  | x :: r => uptoBulkEntry x + uptoBulkEntries r
def uptoBulkEntry {H : Type} : Lit × DataW H → Nat
  | (.string bytes, d) => bytes.length + uptoBulk d + 1
  | (_, d) => uptoBulk d + 1
 end
def uptoSmall : (H : Type) → List (DataW H) → Bool := fun _ ds => decide (uptoBulkAll ds ≤ 1048576)
def OpenSpec.upto (s : _root_.Go.ChangeSpec) : _root_.Go.OpenSpec := { _root_.Go.OpenSpec.ofChange s with cond := some uptoSmall }

/-- 'sandpilelaw19.StabilizeFalls', WHERE WHAT IT READS IS OF BULK AT MOST 1048576: true; the input reads as it did. -/
def stabilizeFallsUptoRow : OpenClaim := { program := "ythdbmoflbnggpaa", sum := "d85fcab85b7fe14f759ef799c16de6475bb457afb2b3a3227c09572edc2c2504", func := "sandpile/sandpilelaw19.StabilizeFalls", spec := "stabilizeFalls", unfollowed := true, recurses := true, apart := false, narrowed := true }
def StabilizeFallsUptoSaid : Prop := stabilizeFallsUptoRow.holds Try.pinned (OpenSpec.upto stabilizeFallsSpec)

/-- 'sandpilelaw19.StabilizeTopples', WHERE WHAT IT READS IS OF BULK AT MOST 1048576: true; the input reads as it did. -/
def stabilizeTopplesUptoRow : OpenClaim := { program := "ythdbmoflbnggpaa", sum := "d85fcab85b7fe14f759ef799c16de6475bb457afb2b3a3227c09572edc2c2504", func := "sandpile/sandpilelaw19.StabilizeTopples", spec := "stabilizeTopples", unfollowed := true, recurses := true, apart := false, narrowed := true }
def StabilizeTopplesUptoSaid : Prop := stabilizeTopplesUptoRow.holds Try.pinned (OpenSpec.upto stabilizeTopplesSpec)

/-- 'sandpilelaw19.StabilizeAvalanches', WHERE WHAT IT READS IS OF BULK AT MOST 1048576: true; the input reads as it did. -/
def stabilizeAvalanchesUptoRow : OpenClaim := { program := "ythdbmoflbnggpaa", sum := "d85fcab85b7fe14f759ef799c16de6475bb457afb2b3a3227c09572edc2c2504", func := "sandpile/sandpilelaw19.StabilizeAvalanches", spec := "stabilizeAvalanches", unfollowed := true, recurses := true, apart := false, narrowed := true }
def StabilizeAvalanchesUptoSaid : Prop := stabilizeAvalanchesUptoRow.holds Try.pinned (OpenSpec.upto stabilizeAvalanchesSpec)

/-- 'sandpilelaw19.StabilizeChecks', WHERE WHAT IT READS IS OF BULK AT MOST 1048576: true; the input reads as it did. -/
def stabilizeChecksUptoRow : OpenClaim := { program := "ythdbmoflbnggpaa", sum := "d85fcab85b7fe14f759ef799c16de6475bb457afb2b3a3227c09572edc2c2504", func := "sandpile/sandpilelaw19.StabilizeChecks", spec := "stabilizeChecks", unfollowed := true, recurses := true, apart := false, narrowed := true }
def StabilizeChecksUptoSaid : Prop := stabilizeChecksUptoRow.holds Try.pinned (OpenSpec.upto stabilizeChecksSpec)

/-- 'sandpilelaw19.StabilizeAdds', WHERE WHAT IT READS IS OF BULK AT MOST 1048576: true; the input reads as it did. -/
def stabilizeAddsUptoRow : OpenClaim := { program := "ythdbmoflbnggpaa", sum := "d85fcab85b7fe14f759ef799c16de6475bb457afb2b3a3227c09572edc2c2504", func := "sandpile/sandpilelaw19.StabilizeAdds", spec := "stabilizeAdds", unfollowed := true, recurses := true, apart := false, narrowed := true }
def StabilizeAddsUptoSaid : Prop := stabilizeAddsUptoRow.holds Try.pinned (OpenSpec.upto stabilizeAddsSpec)

/-- 'sandpilelaw19.StabilizeLeast', WHERE WHAT IT READS IS OF BULK AT MOST 1048576: true; the input reads as it did. -/
def stabilizeLeastUptoRow : OpenClaim := { program := "ythdbmoflbnggpaa", sum := "d85fcab85b7fe14f759ef799c16de6475bb457afb2b3a3227c09572edc2c2504", func := "sandpile/sandpilelaw19.StabilizeLeast", spec := "stabilizeLeast", unfollowed := true, recurses := true, apart := false, narrowed := true }
def StabilizeLeastUptoSaid : Prop := stabilizeLeastUptoRow.holds Try.pinned (OpenSpec.upto stabilizeLeastSpec)

/-- 'sandpilelaw19.StabilizeEnds', WHERE WHAT IT READS IS OF BULK AT MOST 1048576: true; the input reads as it did. -/
def stabilizeEndsUptoRow : OpenClaim := { program := "ythdbmoflbnggpaa", sum := "d85fcab85b7fe14f759ef799c16de6475bb457afb2b3a3227c09572edc2c2504", func := "sandpile/sandpilelaw19.StabilizeEnds", spec := "stabilizeEnds", unfollowed := true, recurses := true, apart := false, narrowed := true }
def StabilizeEndsUptoSaid : Prop := stabilizeEndsUptoRow.holds Try.pinned (OpenSpec.upto stabilizeEndsSpec)

/-- 'sandpilelaw19.StabilizePlays', WHERE WHAT IT READS IS OF BULK AT MOST 1048576: true; the input reads as it did. -/
def stabilizePlaysUptoRow : OpenClaim := { program := "ythdbmoflbnggpaa", sum := "d85fcab85b7fe14f759ef799c16de6475bb457afb2b3a3227c09572edc2c2504", func := "sandpile/sandpilelaw19.StabilizePlays", spec := "stabilizePlays", unfollowed := true, recurses := true, apart := false, narrowed := true }
def StabilizePlaysUptoSaid : Prop := stabilizePlaysUptoRow.holds Try.pinned (OpenSpec.upto stabilizePlaysSpec)

end Rows
end Go.Proofs.Ythdbmoflbnggpaa
