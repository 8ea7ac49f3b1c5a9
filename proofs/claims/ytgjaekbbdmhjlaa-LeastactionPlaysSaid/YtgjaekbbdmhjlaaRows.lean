/-
  No cell of these rows narrows 'for every input' (looked for: loops, veiled, ifaces, maps, wideKeys, modest, calm, conditions, laid).
  DERIVED. THE GIVEN ROWS OF THIS SEAT. 8 by the template 'for every input the law returns true; each argument reads behind the call as it read before'; 0 by the template 'total and deterministic' (their statements: YtgjaekbbdmhjlaaTotals.lean).
  GIVEN WITH THE SEED: the statements are not yours to turn. If you find one false, say at which input.
  Laid BY PROGRAM, IN A SANDBOX (cutbox-rows.mjs): the forced cells as the released guide's own fill.sh prints them over the translation 86ae056800a0dac3… (all of the seat's roots in one cut). By AI agents, Wed Nov 11 2026. No macro, syntax, notation, axiom, sorry.
-/
import Derived.Test.YtgjaekbbdmhjlaaChecked
import GoSem.Claim
import GoSem.ClaimJoined
import GoSem.ClaimMapViews
import Derived.JoinedTies
import Derived.KernelRfl
namespace Go.Proofs.Ytgjaekbbdmhjlaa
/- THE CELL 'sum', in the pinned program and in every row, IS THE sha256 OF THE DUMP (.gsa) THAT YtgjaekbbdmhjlaaProg.lean LOADS. Nothing in Lean hashes anything: it is a label: what it is worth is what the hold of that sum in a sandbox is worth. -/
noncomputable def Try.pinned : Pinned := { name := "ytgjaekbbdmhjlaa", sum := "86ae056800a0dac35950403d64d984d85296d28c9c86e97a7d4f176ba610f10f", checked := Try.checked }
namespace Rows
def none {H : Type} : Left H := { results := [], args := [] }

/-- 'sandpilelaw22.LeastactionSettles': WHATEVER THE INPUT: true; the input reads as it did. -/
def leastactionSettlesSpec : ChangeSpec := { name := "leastactionSettles", fn := fun _ => fun
  | [d1, d2, d3] => { results := [.lit (.bool true)], args := [d1, d2, d3] }
  | _ => none }
def leastactionSettlesRow : OpenClaim := { program := "ytgjaekbbdmhjlaa", sum := "86ae056800a0dac35950403d64d984d85296d28c9c86e97a7d4f176ba610f10f", func := "sandpile/sandpilelaw22.LeastactionSettles", spec := "leastactionSettles", unfollowed := true, recurses := true, apart := false }
def LeastactionSettlesSaid : Prop := leastactionSettlesRow.holds Try.pinned (OpenSpec.ofChange leastactionSettlesSpec)

/-- ITS FALSE NEIGHBOUR: 'it returns false'. Refute it at one input. -/
def leastactionSettlesWrong : ChangeSpec := { name := "leastactionSettles", fn := fun _ => fun
  | [d1, d2, d3] => { results := [.lit (.bool false)], args := [d1, d2, d3] }
  | _ => none }
def LeastactionSettlesWrongFalsely : Prop := leastactionSettlesRow.holds Try.pinned (OpenSpec.ofChange leastactionSettlesWrong)

/-- 'sandpilelaw22.LeastactionWitnesses': WHATEVER THE INPUT: true; the input reads as it did. -/
def leastactionWitnessesSpec : ChangeSpec := { name := "leastactionWitnesses", fn := fun _ => fun
  | [d1, d2, d3] => { results := [.lit (.bool true)], args := [d1, d2, d3] }
  | _ => none }
def leastactionWitnessesRow : OpenClaim := { program := "ytgjaekbbdmhjlaa", sum := "86ae056800a0dac35950403d64d984d85296d28c9c86e97a7d4f176ba610f10f", func := "sandpile/sandpilelaw22.LeastactionWitnesses", spec := "leastactionWitnesses", unfollowed := true, recurses := true, apart := false }
def LeastactionWitnessesSaid : Prop := leastactionWitnessesRow.holds Try.pinned (OpenSpec.ofChange leastactionWitnessesSpec)

/-- ITS FALSE NEIGHBOUR: 'it returns false'. Refute it at one input. -/
def leastactionWitnessesWrong : ChangeSpec := { name := "leastactionWitnesses", fn := fun _ => fun
  | [d1, d2, d3] => { results := [.lit (.bool false)], args := [d1, d2, d3] }
  | _ => none }
def LeastactionWitnessesWrongFalsely : Prop := leastactionWitnessesRow.holds Try.pinned (OpenSpec.ofChange leastactionWitnessesWrong)

/-- 'sandpilelaw22.LeastactionFalls': WHATEVER THE INPUT: true; the input reads as it did. -/
def leastactionFallsSpec : ChangeSpec := { name := "leastactionFalls", fn := fun _ => fun
  | [d1, d2, d3] => { results := [.lit (.bool true)], args := [d1, d2, d3] }
  | _ => none }
def leastactionFallsRow : OpenClaim := { program := "ytgjaekbbdmhjlaa", sum := "86ae056800a0dac35950403d64d984d85296d28c9c86e97a7d4f176ba610f10f", func := "sandpile/sandpilelaw22.LeastactionFalls", spec := "leastactionFalls", unfollowed := true, recurses := true, apart := false }
def LeastactionFallsSaid : Prop := leastactionFallsRow.holds Try.pinned (OpenSpec.ofChange leastactionFallsSpec)

/-- ITS FALSE NEIGHBOUR: 'it returns false'. Refute it at one input. -/
def leastactionFallsWrong : ChangeSpec := { name := "leastactionFalls", fn := fun _ => fun
  | [d1, d2, d3] => { results := [.lit (.bool false)], args := [d1, d2, d3] }
  | _ => none }
def LeastactionFallsWrongFalsely : Prop := leastactionFallsRow.holds Try.pinned (OpenSpec.ofChange leastactionFallsWrong)

/-- 'sandpilelaw22.LeastactionOrders': WHATEVER THE INPUT: true; the input reads as it did. -/
def leastactionOrdersSpec : ChangeSpec := { name := "leastactionOrders", fn := fun _ => fun
  | [d1, d2, d3] => { results := [.lit (.bool true)], args := [d1, d2, d3] }
  | _ => none }
def leastactionOrdersRow : OpenClaim := { program := "ytgjaekbbdmhjlaa", sum := "86ae056800a0dac35950403d64d984d85296d28c9c86e97a7d4f176ba610f10f", func := "sandpile/sandpilelaw22.LeastactionOrders", spec := "leastactionOrders", unfollowed := true, recurses := true, apart := false }
def LeastactionOrdersSaid : Prop := leastactionOrdersRow.holds Try.pinned (OpenSpec.ofChange leastactionOrdersSpec)

/-- ITS FALSE NEIGHBOUR: 'it returns false'. Refute it at one input. -/
def leastactionOrdersWrong : ChangeSpec := { name := "leastactionOrders", fn := fun _ => fun
  | [d1, d2, d3] => { results := [.lit (.bool false)], args := [d1, d2, d3] }
  | _ => none }
def LeastactionOrdersWrongFalsely : Prop := leastactionOrdersRow.holds Try.pinned (OpenSpec.ofChange leastactionOrdersWrong)

/-- 'sandpilelaw22.LeastactionMeets': WHATEVER THE INPUT: true; the input reads as it did. -/
def leastactionMeetsSpec : ChangeSpec := { name := "leastactionMeets", fn := fun _ => fun
  | [d1, d2, d3] => { results := [.lit (.bool true)], args := [d1, d2, d3] }
  | _ => none }
def leastactionMeetsRow : OpenClaim := { program := "ytgjaekbbdmhjlaa", sum := "86ae056800a0dac35950403d64d984d85296d28c9c86e97a7d4f176ba610f10f", func := "sandpile/sandpilelaw22.LeastactionMeets", spec := "leastactionMeets", unfollowed := true, recurses := true, apart := false }
def LeastactionMeetsSaid : Prop := leastactionMeetsRow.holds Try.pinned (OpenSpec.ofChange leastactionMeetsSpec)

/-- ITS FALSE NEIGHBOUR: 'it returns false'. Refute it at one input. -/
def leastactionMeetsWrong : ChangeSpec := { name := "leastactionMeets", fn := fun _ => fun
  | [d1, d2, d3] => { results := [.lit (.bool false)], args := [d1, d2, d3] }
  | _ => none }
def LeastactionMeetsWrongFalsely : Prop := leastactionMeetsRow.holds Try.pinned (OpenSpec.ofChange leastactionMeetsWrong)

/-- 'sandpilelaw22.LeastactionProves': WHATEVER THE INPUT: true; the input reads as it did. -/
def leastactionProvesSpec : ChangeSpec := { name := "leastactionProves", fn := fun _ => fun
  | [d1, d2, d3] => { results := [.lit (.bool true)], args := [d1, d2, d3] }
  | _ => none }
def leastactionProvesRow : OpenClaim := { program := "ytgjaekbbdmhjlaa", sum := "86ae056800a0dac35950403d64d984d85296d28c9c86e97a7d4f176ba610f10f", func := "sandpile/sandpilelaw22.LeastactionProves", spec := "leastactionProves", unfollowed := true, recurses := true, apart := false }
def LeastactionProvesSaid : Prop := leastactionProvesRow.holds Try.pinned (OpenSpec.ofChange leastactionProvesSpec)

/-- ITS FALSE NEIGHBOUR: 'it returns false'. Refute it at one input. -/
def leastactionProvesWrong : ChangeSpec := { name := "leastactionProves", fn := fun _ => fun
  | [d1, d2, d3] => { results := [.lit (.bool false)], args := [d1, d2, d3] }
  | _ => none }
def LeastactionProvesWrongFalsely : Prop := leastactionProvesRow.holds Try.pinned (OpenSpec.ofChange leastactionProvesWrong)

/-- 'sandpilelaw22.LeastactionDescends': WHATEVER THE INPUT: true; the input reads as it did. -/
def leastactionDescendsSpec : ChangeSpec := { name := "leastactionDescends", fn := fun _ => fun
  | [d1, d2, d3] => { results := [.lit (.bool true)], args := [d1, d2, d3] }
  | _ => none }
def leastactionDescendsRow : OpenClaim := { program := "ytgjaekbbdmhjlaa", sum := "86ae056800a0dac35950403d64d984d85296d28c9c86e97a7d4f176ba610f10f", func := "sandpile/sandpilelaw22.LeastactionDescends", spec := "leastactionDescends", unfollowed := true, recurses := true, apart := false }
def LeastactionDescendsSaid : Prop := leastactionDescendsRow.holds Try.pinned (OpenSpec.ofChange leastactionDescendsSpec)

/-- ITS FALSE NEIGHBOUR: 'it returns false'. Refute it at one input. -/
def leastactionDescendsWrong : ChangeSpec := { name := "leastactionDescends", fn := fun _ => fun
  | [d1, d2, d3] => { results := [.lit (.bool false)], args := [d1, d2, d3] }
  | _ => none }
def LeastactionDescendsWrongFalsely : Prop := leastactionDescendsRow.holds Try.pinned (OpenSpec.ofChange leastactionDescendsWrong)

/-- 'sandpilelaw22.LeastactionPlays': WHATEVER THE INPUT: true; the input reads as it did. -/
def leastactionPlaysSpec : ChangeSpec := { name := "leastactionPlays", fn := fun _ => fun
  | [d1, d2, d3] => { results := [.lit (.bool true)], args := [d1, d2, d3] }
  | _ => none }
def leastactionPlaysRow : OpenClaim := { program := "ytgjaekbbdmhjlaa", sum := "86ae056800a0dac35950403d64d984d85296d28c9c86e97a7d4f176ba610f10f", func := "sandpile/sandpilelaw22.LeastactionPlays", spec := "leastactionPlays", unfollowed := true, recurses := true, apart := false }
def LeastactionPlaysSaid : Prop := leastactionPlaysRow.holds Try.pinned (OpenSpec.ofChange leastactionPlaysSpec)

/-- ITS FALSE NEIGHBOUR: 'it returns false'. Refute it at one input. -/
def leastactionPlaysWrong : ChangeSpec := { name := "leastactionPlays", fn := fun _ => fun
  | [d1, d2, d3] => { results := [.lit (.bool false)], args := [d1, d2, d3] }
  | _ => none }
def LeastactionPlaysWrongFalsely : Prop := leastactionPlaysRow.holds Try.pinned (OpenSpec.ofChange leastactionPlaysWrong)

/- THE SECOND FORM. 'bulk': how many values and letters a reading holds, each counted each time it is reached (what is shared counts as often as it is met; a slice's spare places count too). A statement '..UptoSaid' is the law's where the arguments, and the package variables that the reading takes, are together of bulk at most 1048576: NARROWER than '..Said'. Prove '..Said' where nothing that the law and all that it calls make is longer than what came in: it says more and counts as full. Else prove '..UptoSaid'. A law counts once. -/
mutual
def uptoBulk {H : Type} : DataW H → Nat
  | .lit (.string bytes) => bytes.length + 1
  | .lit _ => 1
  | .nil => 1
  | .ptr d => uptoBulk d + 1
  | .slice elems spare => uptoBulkAll elems + uptoBulkAll spare + 1
  | .agg parts => uptoBulkAll parts + 1
  | .iface _ d => uptoBulk d + 1
  | .map entries => uptoBulkEntries entries + 1
  | .held _ => 1
def uptoBulkAll {H : Type} : List (DataW H) → Nat
  | [] => 0
  | d :: r => uptoBulk d + uptoBulkAll r
def uptoBulkEntries {H : Type} : List (Lit × DataW H) → Nat
  | [] => 0
  | x :: r => uptoBulkEntry x + uptoBulkEntries r
def uptoBulkEntry {H : Type} : Lit × DataW H → Nat
  | (.string bytes, d) => bytes.length + uptoBulk d + 1
  | (_, d) => uptoBulk d + 1
 end
def uptoSmall : (H : Type) → List (DataW H) → Bool := fun _ ds => decide (uptoBulkAll ds ≤ 1048576)
def OpenSpec.upto (s : _root_.Go.ChangeSpec) : _root_.Go.OpenSpec := { _root_.Go.OpenSpec.ofChange s with cond := some uptoSmall }

/-- 'sandpilelaw22.LeastactionSettles', WHERE WHAT IT READS IS OF BULK AT MOST 1048576: true; the input reads as it did. -/
def leastactionSettlesUptoRow : OpenClaim := { program := "ytgjaekbbdmhjlaa", sum := "86ae056800a0dac35950403d64d984d85296d28c9c86e97a7d4f176ba610f10f", func := "sandpile/sandpilelaw22.LeastactionSettles", spec := "leastactionSettles", unfollowed := true, recurses := true, apart := false, narrowed := true }
def LeastactionSettlesUptoSaid : Prop := leastactionSettlesUptoRow.holds Try.pinned (OpenSpec.upto leastactionSettlesSpec)

/-- 'sandpilelaw22.LeastactionWitnesses', WHERE WHAT IT READS IS OF BULK AT MOST 1048576: true; the input reads as it did. -/
def leastactionWitnessesUptoRow : OpenClaim := { program := "ytgjaekbbdmhjlaa", sum := "86ae056800a0dac35950403d64d984d85296d28c9c86e97a7d4f176ba610f10f", func := "sandpile/sandpilelaw22.LeastactionWitnesses", spec := "leastactionWitnesses", unfollowed := true, recurses := true, apart := false, narrowed := true }
def LeastactionWitnessesUptoSaid : Prop := leastactionWitnessesUptoRow.holds Try.pinned (OpenSpec.upto leastactionWitnessesSpec)

/-- 'sandpilelaw22.LeastactionFalls', WHERE WHAT IT READS IS OF BULK AT MOST 1048576: true; the input reads as it did. -/
def leastactionFallsUptoRow : OpenClaim := { program := "ytgjaekbbdmhjlaa", sum := "86ae056800a0dac35950403d64d984d85296d28c9c86e97a7d4f176ba610f10f", func := "sandpile/sandpilelaw22.LeastactionFalls", spec := "leastactionFalls", unfollowed := true, recurses := true, apart := false, narrowed := true }
def LeastactionFallsUptoSaid : Prop := leastactionFallsUptoRow.holds Try.pinned (OpenSpec.upto leastactionFallsSpec)

/-- 'sandpilelaw22.LeastactionOrders', WHERE WHAT IT READS IS OF BULK AT MOST 1048576: true; the input reads as it did. -/
def leastactionOrdersUptoRow : OpenClaim := { program := "ytgjaekbbdmhjlaa", sum := "86ae056800a0dac35950403d64d984d85296d28c9c86e97a7d4f176ba610f10f", func := "sandpile/sandpilelaw22.LeastactionOrders", spec := "leastactionOrders", unfollowed := true, recurses := true, apart := false, narrowed := true }
def LeastactionOrdersUptoSaid : Prop := leastactionOrdersUptoRow.holds Try.pinned (OpenSpec.upto leastactionOrdersSpec)

/-- 'sandpilelaw22.LeastactionMeets', WHERE WHAT IT READS IS OF BULK AT MOST 1048576: true; the input reads as it did. -/
def leastactionMeetsUptoRow : OpenClaim := { program := "ytgjaekbbdmhjlaa", sum := "86ae056800a0dac35950403d64d984d85296d28c9c86e97a7d4f176ba610f10f", func := "sandpile/sandpilelaw22.LeastactionMeets", spec := "leastactionMeets", unfollowed := true, recurses := true, apart := false, narrowed := true }
def LeastactionMeetsUptoSaid : Prop := leastactionMeetsUptoRow.holds Try.pinned (OpenSpec.upto leastactionMeetsSpec)

/-- 'sandpilelaw22.LeastactionProves', WHERE WHAT IT READS IS OF BULK AT MOST 1048576: true; the input reads as it did. -/
def leastactionProvesUptoRow : OpenClaim := { program := "ytgjaekbbdmhjlaa", sum := "86ae056800a0dac35950403d64d984d85296d28c9c86e97a7d4f176ba610f10f", func := "sandpile/sandpilelaw22.LeastactionProves", spec := "leastactionProves", unfollowed := true, recurses := true, apart := false, narrowed := true }
def LeastactionProvesUptoSaid : Prop := leastactionProvesUptoRow.holds Try.pinned (OpenSpec.upto leastactionProvesSpec)

/-- 'sandpilelaw22.LeastactionDescends', WHERE WHAT IT READS IS OF BULK AT MOST 1048576: true; the input reads as it did. -/
def leastactionDescendsUptoRow : OpenClaim := { program := "ytgjaekbbdmhjlaa", sum := "86ae056800a0dac35950403d64d984d85296d28c9c86e97a7d4f176ba610f10f", func := "sandpile/sandpilelaw22.LeastactionDescends", spec := "leastactionDescends", unfollowed := true, recurses := true, apart := false, narrowed := true }
def LeastactionDescendsUptoSaid : Prop := leastactionDescendsUptoRow.holds Try.pinned (OpenSpec.upto leastactionDescendsSpec)

/-- 'sandpilelaw22.LeastactionPlays', WHERE WHAT IT READS IS OF BULK AT MOST 1048576: true; the input reads as it did. -/
def leastactionPlaysUptoRow : OpenClaim := { program := "ytgjaekbbdmhjlaa", sum := "86ae056800a0dac35950403d64d984d85296d28c9c86e97a7d4f176ba610f10f", func := "sandpile/sandpilelaw22.LeastactionPlays", spec := "leastactionPlays", unfollowed := true, recurses := true, apart := false, narrowed := true }
def LeastactionPlaysUptoSaid : Prop := leastactionPlaysUptoRow.holds Try.pinned (OpenSpec.upto leastactionPlaysSpec)

end Rows
end Go.Proofs.Ytgjaekbbdmhjlaa
