/-
  No cell of these rows narrows 'for every input' (looked for: loops, veiled, ifaces, maps, wideKeys, modest, calm, conditions, laid).
  DERIVED. THE GIVEN ROWS OF THIS SEAT. 8 by the template 'for every input the law returns true; each argument reads behind the call as it read before'; 0 by the template 'total and deterministic' (their statements: YtamiekhoaggpkaaTotals.lean).
  GIVEN WITH THE SEED: the statements are not yours to turn. If you find one false, say at which input.
  Laid BY PROGRAM, IN A SANDBOX (cutbox-rows.mjs): the forced cells as the released guide's own fill.sh prints them over the translation cd0383bf76674990… (all of the seat's roots in one cut). By AI agents, Wed Nov 11 2026. No macro, syntax, notation, axiom, sorry.
-/
import Derived.Test.YtamiekhoaggpkaaChecked
import GoSem.Claim
import GoSem.ClaimJoined
import GoSem.ClaimMapViews
import Derived.JoinedTies
import Derived.KernelRfl
namespace Go.Proofs.Ytamiekhoaggpkaa
/- THE CELL 'sum', in the pinned program and in every row, IS THE sha256 OF THE DUMP (.gsa) THAT YtamiekhoaggpkaaProg.lean LOADS. Nothing in Lean hashes anything: it is a label: what it is worth is what the hold of that sum in a sandbox is worth. -/
noncomputable def Try.pinned : Pinned := { name := "ytamiekhoaggpkaa", sum := "cd0383bf766749900e093c397fe0ccc728cb87d5d415c5193befb0a3f25a3455", checked := Try.checked }
namespace Rows
def none {H : Type} : Left H := { results := [], args := [] }

/-- 'sandpilelaw20.ParallelRounds': WHATEVER THE INPUT: true; the input reads as it did. -/
def parallelRoundsSpec : ChangeSpec := { name := "parallelRounds", fn := fun _ => fun
  | [d1, d2, d3] => { results := [.lit (.bool true)], args := [d1, d2, d3] }
  | _ => none }
def parallelRoundsRow : OpenClaim := { program := "ytamiekhoaggpkaa", sum := "cd0383bf766749900e093c397fe0ccc728cb87d5d415c5193befb0a3f25a3455", func := "sandpile/sandpilelaw20.ParallelRounds", spec := "parallelRounds", unfollowed := true, recurses := true, plainKeys := false, apart := false }
def ParallelRoundsSaid : Prop := parallelRoundsRow.holds Try.pinned (OpenSpec.ofChange parallelRoundsSpec)

/-- ITS FALSE NEIGHBOUR: 'it returns false'. Refute it at one input. -/
def parallelRoundsWrong : ChangeSpec := { name := "parallelRounds", fn := fun _ => fun
  | [d1, d2, d3] => { results := [.lit (.bool false)], args := [d1, d2, d3] }
  | _ => none }
def ParallelRoundsWrongFalsely : Prop := parallelRoundsRow.holds Try.pinned (OpenSpec.ofChange parallelRoundsWrong)

/-- 'sandpilelaw20.ParallelGames': WHATEVER THE INPUT: true; the input reads as it did. -/
def parallelGamesSpec : ChangeSpec := { name := "parallelGames", fn := fun _ => fun
  | [d1, d2] => { results := [.lit (.bool true)], args := [d1, d2] }
  | _ => none }
def parallelGamesRow : OpenClaim := { program := "ytamiekhoaggpkaa", sum := "cd0383bf766749900e093c397fe0ccc728cb87d5d415c5193befb0a3f25a3455", func := "sandpile/sandpilelaw20.ParallelGames", spec := "parallelGames", unfollowed := true, recurses := true, plainKeys := false, apart := false }
def ParallelGamesSaid : Prop := parallelGamesRow.holds Try.pinned (OpenSpec.ofChange parallelGamesSpec)

/-- ITS FALSE NEIGHBOUR: 'it returns false'. Refute it at one input. -/
def parallelGamesWrong : ChangeSpec := { name := "parallelGames", fn := fun _ => fun
  | [d1, d2] => { results := [.lit (.bool false)], args := [d1, d2] }
  | _ => none }
def ParallelGamesWrongFalsely : Prop := parallelGamesRow.holds Try.pinned (OpenSpec.ofChange parallelGamesWrong)

/-- 'sandpilelaw20.ParallelCertain': WHATEVER THE INPUT: true; the input reads as it did. -/
def parallelCertainSpec : ChangeSpec := { name := "parallelCertain", fn := fun _ => fun
  | [d1, d2] => { results := [.lit (.bool true)], args := [d1, d2] }
  | _ => none }
def parallelCertainRow : OpenClaim := { program := "ytamiekhoaggpkaa", sum := "cd0383bf766749900e093c397fe0ccc728cb87d5d415c5193befb0a3f25a3455", func := "sandpile/sandpilelaw20.ParallelCertain", spec := "parallelCertain", unfollowed := true, recurses := true, plainKeys := false, apart := false }
def ParallelCertainSaid : Prop := parallelCertainRow.holds Try.pinned (OpenSpec.ofChange parallelCertainSpec)

/-- ITS FALSE NEIGHBOUR: 'it returns false'. Refute it at one input. -/
def parallelCertainWrong : ChangeSpec := { name := "parallelCertain", fn := fun _ => fun
  | [d1, d2] => { results := [.lit (.bool false)], args := [d1, d2] }
  | _ => none }
def ParallelCertainWrongFalsely : Prop := parallelCertainRow.holds Try.pinned (OpenSpec.ofChange parallelCertainWrong)

/-- 'sandpilelaw20.ParallelRepeats': WHATEVER THE INPUT: true; the input reads as it did. -/
def parallelRepeatsSpec : ChangeSpec := { name := "parallelRepeats", fn := fun _ => fun
  | [d1, d2] => { results := [.lit (.bool true)], args := [d1, d2] }
  | _ => none }
def parallelRepeatsRow : OpenClaim := { program := "ytamiekhoaggpkaa", sum := "cd0383bf766749900e093c397fe0ccc728cb87d5d415c5193befb0a3f25a3455", func := "sandpile/sandpilelaw20.ParallelRepeats", spec := "parallelRepeats", unfollowed := true, recurses := true, plainKeys := false, apart := false }
def ParallelRepeatsSaid : Prop := parallelRepeatsRow.holds Try.pinned (OpenSpec.ofChange parallelRepeatsSpec)

/-- ITS FALSE NEIGHBOUR: 'it returns false'. Refute it at one input. -/
def parallelRepeatsWrong : ChangeSpec := { name := "parallelRepeats", fn := fun _ => fun
  | [d1, d2] => { results := [.lit (.bool false)], args := [d1, d2] }
  | _ => none }
def ParallelRepeatsWrongFalsely : Prop := parallelRepeatsRow.holds Try.pinned (OpenSpec.ofChange parallelRepeatsWrong)

/-- 'sandpilelaw20.ParallelParts': WHATEVER THE INPUT: true; the input reads as it did. -/
def parallelPartsSpec : ChangeSpec := { name := "parallelParts", fn := fun _ => fun
  | [d1, d2, d3] => { results := [.lit (.bool true)], args := [d1, d2, d3] }
  | _ => none }
def parallelPartsRow : OpenClaim := { program := "ytamiekhoaggpkaa", sum := "cd0383bf766749900e093c397fe0ccc728cb87d5d415c5193befb0a3f25a3455", func := "sandpile/sandpilelaw20.ParallelParts", spec := "parallelParts", unfollowed := true, recurses := true, plainKeys := false, apart := false }
def ParallelPartsSaid : Prop := parallelPartsRow.holds Try.pinned (OpenSpec.ofChange parallelPartsSpec)

/-- ITS FALSE NEIGHBOUR: 'it returns false'. Refute it at one input. -/
def parallelPartsWrong : ChangeSpec := { name := "parallelParts", fn := fun _ => fun
  | [d1, d2, d3] => { results := [.lit (.bool false)], args := [d1, d2, d3] }
  | _ => none }
def ParallelPartsWrongFalsely : Prop := parallelPartsRow.holds Try.pinned (OpenSpec.ofChange parallelPartsWrong)

/-- 'sandpilelaw20.ParallelBounds': WHATEVER THE INPUT: true; the input reads as it did. -/
def parallelBoundsSpec : ChangeSpec := { name := "parallelBounds", fn := fun _ => fun
  | [d1, d2] => { results := [.lit (.bool true)], args := [d1, d2] }
  | _ => none }
def parallelBoundsRow : OpenClaim := { program := "ytamiekhoaggpkaa", sum := "cd0383bf766749900e093c397fe0ccc728cb87d5d415c5193befb0a3f25a3455", func := "sandpile/sandpilelaw20.ParallelBounds", spec := "parallelBounds", unfollowed := true, recurses := true, plainKeys := false, apart := false }
def ParallelBoundsSaid : Prop := parallelBoundsRow.holds Try.pinned (OpenSpec.ofChange parallelBoundsSpec)

/-- ITS FALSE NEIGHBOUR: 'it returns false'. Refute it at one input. -/
def parallelBoundsWrong : ChangeSpec := { name := "parallelBounds", fn := fun _ => fun
  | [d1, d2] => { results := [.lit (.bool false)], args := [d1, d2] }
  | _ => none }
def ParallelBoundsWrongFalsely : Prop := parallelBoundsRow.holds Try.pinned (OpenSpec.ofChange parallelBoundsWrong)

/-- 'sandpilelaw20.ParallelAgrees': WHATEVER THE INPUT: true; the input reads as it did. -/
def parallelAgreesSpec : ChangeSpec := { name := "parallelAgrees", fn := fun _ => fun
  | [d1, d2, d3] => { results := [.lit (.bool true)], args := [d1, d2, d3] }
  | _ => none }
def parallelAgreesRow : OpenClaim := { program := "ytamiekhoaggpkaa", sum := "cd0383bf766749900e093c397fe0ccc728cb87d5d415c5193befb0a3f25a3455", func := "sandpile/sandpilelaw20.ParallelAgrees", spec := "parallelAgrees", unfollowed := true, recurses := true, plainKeys := false, apart := false }
def ParallelAgreesSaid : Prop := parallelAgreesRow.holds Try.pinned (OpenSpec.ofChange parallelAgreesSpec)

/-- ITS FALSE NEIGHBOUR: 'it returns false'. Refute it at one input. -/
def parallelAgreesWrong : ChangeSpec := { name := "parallelAgrees", fn := fun _ => fun
  | [d1, d2, d3] => { results := [.lit (.bool false)], args := [d1, d2, d3] }
  | _ => none }
def ParallelAgreesWrongFalsely : Prop := parallelAgreesRow.holds Try.pinned (OpenSpec.ofChange parallelAgreesWrong)

/-- 'sandpilelaw20.ParallelGoesOn': WHATEVER THE INPUT: true; the input reads as it did. -/
def parallelGoesOnSpec : ChangeSpec := { name := "parallelGoesOn", fn := fun _ => fun
  | [d1, d2, d3] => { results := [.lit (.bool true)], args := [d1, d2, d3] }
  | _ => none }
def parallelGoesOnRow : OpenClaim := { program := "ytamiekhoaggpkaa", sum := "cd0383bf766749900e093c397fe0ccc728cb87d5d415c5193befb0a3f25a3455", func := "sandpile/sandpilelaw20.ParallelGoesOn", spec := "parallelGoesOn", unfollowed := true, recurses := true, plainKeys := false, apart := false }
def ParallelGoesOnSaid : Prop := parallelGoesOnRow.holds Try.pinned (OpenSpec.ofChange parallelGoesOnSpec)

/-- ITS FALSE NEIGHBOUR: 'it returns false'. Refute it at one input. -/
def parallelGoesOnWrong : ChangeSpec := { name := "parallelGoesOn", fn := fun _ => fun
  | [d1, d2, d3] => { results := [.lit (.bool false)], args := [d1, d2, d3] }
  | _ => none }
def ParallelGoesOnWrongFalsely : Prop := parallelGoesOnRow.holds Try.pinned (OpenSpec.ofChange parallelGoesOnWrong)

/- THE SECOND FORM. 'bulk': how many values and letters a reading holds, each counted each time it is reached (what is shared counts as often as it is met; a slice's spare places count too). A statement '..UptoSaid' is the law's where the arguments, and the package variables that the reading takes, are together of bulk at most 1048576: NARROWER than '..Said'. Prove '..Said' where nothing that the law and all that it calls make is longer than what came in: it says more and counts as full. Else prove '..UptoSaid'. A law counts once. -/
mutual
def uptoBulk {H : Type} : DataW H → Nat
  | .lit (.string bytes) => bytes.length + 1
  | .lit _ => 1
  | .nil => 1
  | .ptr d => uptoBulk d + 1
  | .slice elems spare => uptoBulkAll elems + uptoBulkAll spare + 1
  | .agg parts => uptoBulkAll parts + 1
  | .iface _ d => uptoBulk d + 1
  | .map entries => uptoBulkEntries entries + 1
  | .held _ => 1
def uptoBulkAll {H : Type} : List (DataW H) → Nat
  | [] => 0
  | d :: r => uptoBulk d + uptoBulkAll r
def uptoBulkEntries {H : Type} : List (Lit × DataW H) → Nat
  | [] => 0
  | x :: r => uptoBulkEntry x + uptoBulkEntries r
def uptoBulkEntry {H : Type} : Lit × DataW H → Nat
  | (.string bytes, d) => bytes.length + uptoBulk d + 1
  | (_, d) => uptoBulk d + 1
 end
def uptoSmall : (H : Type) → List (DataW H) → Bool := fun _ ds => decide (uptoBulkAll ds ≤ 1048576)
def OpenSpec.upto (s : _root_.Go.ChangeSpec) : _root_.Go.OpenSpec := { _root_.Go.OpenSpec.ofChange s with cond := some uptoSmall }

/-- 'sandpilelaw20.ParallelRounds', WHERE WHAT IT READS IS OF BULK AT MOST 1048576: true; the input reads as it did. -/
def parallelRoundsUptoRow : OpenClaim := { program := "ytamiekhoaggpkaa", sum := "cd0383bf766749900e093c397fe0ccc728cb87d5d415c5193befb0a3f25a3455", func := "sandpile/sandpilelaw20.ParallelRounds", spec := "parallelRounds", unfollowed := true, recurses := true, plainKeys := false, apart := false, narrowed := true }
def ParallelRoundsUptoSaid : Prop := parallelRoundsUptoRow.holds Try.pinned (OpenSpec.upto parallelRoundsSpec)

/-- 'sandpilelaw20.ParallelGames', WHERE WHAT IT READS IS OF BULK AT MOST 1048576: true; the input reads as it did. -/
def parallelGamesUptoRow : OpenClaim := { program := "ytamiekhoaggpkaa", sum := "cd0383bf766749900e093c397fe0ccc728cb87d5d415c5193befb0a3f25a3455", func := "sandpile/sandpilelaw20.ParallelGames", spec := "parallelGames", unfollowed := true, recurses := true, plainKeys := false, apart := false, narrowed := true }
def ParallelGamesUptoSaid : Prop := parallelGamesUptoRow.holds Try.pinned (OpenSpec.upto parallelGamesSpec)

/-- 'sandpilelaw20.ParallelCertain', WHERE WHAT IT READS IS OF BULK AT MOST 1048576: true; the input reads as it did. -/
def parallelCertainUptoRow : OpenClaim := { program := "ytamiekhoaggpkaa", sum := "cd0383bf766749900e093c397fe0ccc728cb87d5d415c5193befb0a3f25a3455", func := "sandpile/sandpilelaw20.ParallelCertain", spec := "parallelCertain", unfollowed := true, recurses := true, plainKeys := false, apart := false, narrowed := true }
def ParallelCertainUptoSaid : Prop := parallelCertainUptoRow.holds Try.pinned (OpenSpec.upto parallelCertainSpec)

/-- 'sandpilelaw20.ParallelRepeats', WHERE WHAT IT READS IS OF BULK AT MOST 1048576: true; the input reads as it did. -/
def parallelRepeatsUptoRow : OpenClaim := { program := "ytamiekhoaggpkaa", sum := "cd0383bf766749900e093c397fe0ccc728cb87d5d415c5193befb0a3f25a3455", func := "sandpile/sandpilelaw20.ParallelRepeats", spec := "parallelRepeats", unfollowed := true, recurses := true, plainKeys := false, apart := false, narrowed := true }
def ParallelRepeatsUptoSaid : Prop := parallelRepeatsUptoRow.holds Try.pinned (OpenSpec.upto parallelRepeatsSpec)

/-- 'sandpilelaw20.ParallelParts', WHERE WHAT IT READS IS OF BULK AT MOST 1048576: true; the input reads as it did. -/
def parallelPartsUptoRow : OpenClaim := { program := "ytamiekhoaggpkaa", sum := "cd0383bf766749900e093c397fe0ccc728cb87d5d415c5193befb0a3f25a3455", func := "sandpile/sandpilelaw20.ParallelParts", spec := "parallelParts", unfollowed := true, recurses := true, plainKeys := false, apart := false, narrowed := true }
def ParallelPartsUptoSaid : Prop := parallelPartsUptoRow.holds Try.pinned (OpenSpec.upto parallelPartsSpec)

/-- 'sandpilelaw20.ParallelBounds', WHERE WHAT IT READS IS OF BULK AT MOST 1048576: true; the input reads as it did. -/
def parallelBoundsUptoRow : OpenClaim := { program := "ytamiekhoaggpkaa", sum := "cd0383bf766749900e093c397fe0ccc728cb87d5d415c5193befb0a3f25a3455", func := "sandpile/sandpilelaw20.ParallelBounds", spec := "parallelBounds", unfollowed := true, recurses := true, plainKeys := false, apart := false, narrowed := true }
def ParallelBoundsUptoSaid : Prop := parallelBoundsUptoRow.holds Try.pinned (OpenSpec.upto parallelBoundsSpec)

/-- 'sandpilelaw20.ParallelAgrees', WHERE WHAT IT READS IS OF BULK AT MOST 1048576: true; the input reads as it did. -/
def parallelAgreesUptoRow : OpenClaim := { program := "ytamiekhoaggpkaa", sum := "cd0383bf766749900e093c397fe0ccc728cb87d5d415c5193befb0a3f25a3455", func := "sandpile/sandpilelaw20.ParallelAgrees", spec := "parallelAgrees", unfollowed := true, recurses := true, plainKeys := false, apart := false, narrowed := true }
def ParallelAgreesUptoSaid : Prop := parallelAgreesUptoRow.holds Try.pinned (OpenSpec.upto parallelAgreesSpec)

/-- 'sandpilelaw20.ParallelGoesOn', WHERE WHAT IT READS IS OF BULK AT MOST 1048576: true; the input reads as it did. -/
def parallelGoesOnUptoRow : OpenClaim := { program := "ytamiekhoaggpkaa", sum := "cd0383bf766749900e093c397fe0ccc728cb87d5d415c5193befb0a3f25a3455", func := "sandpile/sandpilelaw20.ParallelGoesOn", spec := "parallelGoesOn", unfollowed := true, recurses := true, plainKeys := false, apart := false, narrowed := true }
def ParallelGoesOnUptoSaid : Prop := parallelGoesOnUptoRow.holds Try.pinned (OpenSpec.upto parallelGoesOnSpec)

end Rows
end Go.Proofs.Ytamiekhoaggpkaa
