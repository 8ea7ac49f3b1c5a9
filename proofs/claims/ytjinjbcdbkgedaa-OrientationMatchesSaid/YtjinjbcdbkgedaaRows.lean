/-
  No cell of these rows narrows 'for every input' (looked for: loops, veiled, ifaces, maps, wideKeys, modest, calm, conditions, laid).
  DERIVED. THE GIVEN ROWS OF THIS SEAT. 9 by the template 'for every input the law returns true; each argument reads behind the call as it read before'; 0 by the template 'total and deterministic' (their statements: YtjinjbcdbkgedaaTotals.lean).
  GIVEN WITH THE SEED: the statements are not yours to turn. If you find one false, say at which input.
  Laid BY PROGRAM, IN A SANDBOX (cutbox-rows.mjs): the forced cells as the released guide's own fill.sh prints them over the translation 66e5333d323b1bf1… (all of the seat's roots in one cut). By AI agents, Wed Nov 11 2026. No macro, syntax, notation, axiom, sorry.
-/
import Derived.Test.YtjinjbcdbkgedaaChecked
import GoSem.Claim
import GoSem.ClaimJoined
import GoSem.ClaimMapViews
import Derived.JoinedTies
import Derived.KernelRfl
namespace Go.Proofs.Ytjinjbcdbkgedaa
/- THE CELL 'sum', in the pinned program and in every row, IS THE sha256 OF THE DUMP (.gsa) THAT YtjinjbcdbkgedaaProg.lean LOADS. Nothing in Lean hashes anything: it is a label: what it is worth is what the hold of that sum in a sandbox is worth. -/
noncomputable def Try.pinned : Pinned := { name := "ytjinjbcdbkgedaa", sum := "66e5333d323b1bf1b6609268672eaf621bd0d01cff05069bc0f6972be0470add", checked := Try.checked }
namespace Rows
def none {H : Type} : Left H := { results := [], args := [] }

/-- 'sandpilelaw14.OrientationMatches': WHATEVER THE INPUT: true; the input reads as it did. -/
def orientationMatchesSpec : ChangeSpec := { name := "orientationMatches", fn := fun _ => fun
  | [d1, d2, d3] => { results := [.lit (.bool true)], args := [d1, d2, d3] }
  | _ => none }
def orientationMatchesRow : OpenClaim := { program := "ytjinjbcdbkgedaa", sum := "66e5333d323b1bf1b6609268672eaf621bd0d01cff05069bc0f6972be0470add", func := "sandpile/sandpilelaw14.OrientationMatches", spec := "orientationMatches", unfollowed := true, recurses := true, apart := false }
def OrientationMatchesSaid : Prop := orientationMatchesRow.holds Try.pinned (OpenSpec.ofChange orientationMatchesSpec)

/-- ITS FALSE NEIGHBOUR: 'it returns false'. Refute it at one input. -/
def orientationMatchesWrong : ChangeSpec := { name := "orientationMatches", fn := fun _ => fun
  | [d1, d2, d3] => { results := [.lit (.bool false)], args := [d1, d2, d3] }
  | _ => none }
def OrientationMatchesWrongFalsely : Prop := orientationMatchesRow.holds Try.pinned (OpenSpec.ofChange orientationMatchesWrong)

/-- 'sandpilelaw14.OrientationLists': WHATEVER THE INPUT: true; the input reads as it did. -/
def orientationListsSpec : ChangeSpec := { name := "orientationLists", fn := fun _ => fun
  | [d1, d2] => { results := [.lit (.bool true)], args := [d1, d2] }
  | _ => none }
def orientationListsRow : OpenClaim := { program := "ytjinjbcdbkgedaa", sum := "66e5333d323b1bf1b6609268672eaf621bd0d01cff05069bc0f6972be0470add", func := "sandpile/sandpilelaw14.OrientationLists", spec := "orientationLists", unfollowed := true, recurses := true, apart := false }
def OrientationListsSaid : Prop := orientationListsRow.holds Try.pinned (OpenSpec.ofChange orientationListsSpec)

/-- ITS FALSE NEIGHBOUR: 'it returns false'. Refute it at one input. -/
def orientationListsWrong : ChangeSpec := { name := "orientationLists", fn := fun _ => fun
  | [d1, d2] => { results := [.lit (.bool false)], args := [d1, d2] }
  | _ => none }
def OrientationListsWrongFalsely : Prop := orientationListsRow.holds Try.pinned (OpenSpec.ofChange orientationListsWrong)

/-- 'sandpilelaw14.OrientationShares': WHATEVER THE INPUT: true; the input reads as it did. -/
def orientationSharesSpec : ChangeSpec := { name := "orientationShares", fn := fun _ => fun
  | [d1, d2, d3] => { results := [.lit (.bool true)], args := [d1, d2, d3] }
  | _ => none }
def orientationSharesRow : OpenClaim := { program := "ytjinjbcdbkgedaa", sum := "66e5333d323b1bf1b6609268672eaf621bd0d01cff05069bc0f6972be0470add", func := "sandpile/sandpilelaw14.OrientationShares", spec := "orientationShares", unfollowed := true, recurses := true, apart := false }
def OrientationSharesSaid : Prop := orientationSharesRow.holds Try.pinned (OpenSpec.ofChange orientationSharesSpec)

/-- ITS FALSE NEIGHBOUR: 'it returns false'. Refute it at one input. -/
def orientationSharesWrong : ChangeSpec := { name := "orientationShares", fn := fun _ => fun
  | [d1, d2, d3] => { results := [.lit (.bool false)], args := [d1, d2, d3] }
  | _ => none }
def OrientationSharesWrongFalsely : Prop := orientationSharesRow.holds Try.pinned (OpenSpec.ofChange orientationSharesWrong)

/-- 'sandpilelaw14.OrientationChecks': WHATEVER THE INPUT: true; the input reads as it did. -/
def orientationChecksSpec : ChangeSpec := { name := "orientationChecks", fn := fun _ => fun
  | [d1, d2] => { results := [.lit (.bool true)], args := [d1, d2] }
  | _ => none }
def orientationChecksRow : OpenClaim := { program := "ytjinjbcdbkgedaa", sum := "66e5333d323b1bf1b6609268672eaf621bd0d01cff05069bc0f6972be0470add", func := "sandpile/sandpilelaw14.OrientationChecks", spec := "orientationChecks", unfollowed := true, recurses := true, apart := false }
def OrientationChecksSaid : Prop := orientationChecksRow.holds Try.pinned (OpenSpec.ofChange orientationChecksSpec)

/-- ITS FALSE NEIGHBOUR: 'it returns false'. Refute it at one input. -/
def orientationChecksWrong : ChangeSpec := { name := "orientationChecks", fn := fun _ => fun
  | [d1, d2] => { results := [.lit (.bool false)], args := [d1, d2] }
  | _ => none }
def OrientationChecksWrongFalsely : Prop := orientationChecksRow.holds Try.pinned (OpenSpec.ofChange orientationChecksWrong)

/-- 'sandpilelaw14.OrientationTurns': WHATEVER THE INPUT: true; the input reads as it did. -/
def orientationTurnsSpec : ChangeSpec := { name := "orientationTurns", fn := fun _ => fun
  | [d1, d2, d3] => { results := [.lit (.bool true)], args := [d1, d2, d3] }
  | _ => none }
def orientationTurnsRow : OpenClaim := { program := "ytjinjbcdbkgedaa", sum := "66e5333d323b1bf1b6609268672eaf621bd0d01cff05069bc0f6972be0470add", func := "sandpile/sandpilelaw14.OrientationTurns", spec := "orientationTurns", unfollowed := true, recurses := true, apart := false }
def OrientationTurnsSaid : Prop := orientationTurnsRow.holds Try.pinned (OpenSpec.ofChange orientationTurnsSpec)

/-- ITS FALSE NEIGHBOUR: 'it returns false'. Refute it at one input. -/
def orientationTurnsWrong : ChangeSpec := { name := "orientationTurns", fn := fun _ => fun
  | [d1, d2, d3] => { results := [.lit (.bool false)], args := [d1, d2, d3] }
  | _ => none }
def OrientationTurnsWrongFalsely : Prop := orientationTurnsRow.holds Try.pinned (OpenSpec.ofChange orientationTurnsWrong)

/-- 'sandpilelaw14.OrientationSorts': WHATEVER THE INPUT: true; the input reads as it did. -/
def orientationSortsSpec : ChangeSpec := { name := "orientationSorts", fn := fun _ => fun
  | [d1, d2, d3] => { results := [.lit (.bool true)], args := [d1, d2, d3] }
  | _ => none }
def orientationSortsRow : OpenClaim := { program := "ytjinjbcdbkgedaa", sum := "66e5333d323b1bf1b6609268672eaf621bd0d01cff05069bc0f6972be0470add", func := "sandpile/sandpilelaw14.OrientationSorts", spec := "orientationSorts", unfollowed := true, recurses := true, apart := false }
def OrientationSortsSaid : Prop := orientationSortsRow.holds Try.pinned (OpenSpec.ofChange orientationSortsSpec)

/-- ITS FALSE NEIGHBOUR: 'it returns false'. Refute it at one input. -/
def orientationSortsWrong : ChangeSpec := { name := "orientationSorts", fn := fun _ => fun
  | [d1, d2, d3] => { results := [.lit (.bool false)], args := [d1, d2, d3] }
  | _ => none }
def OrientationSortsWrongFalsely : Prop := orientationSortsRow.holds Try.pinned (OpenSpec.ofChange orientationSortsWrong)

/-- 'sandpilelaw14.OrientationAdds': WHATEVER THE INPUT: true; the input reads as it did. -/
def orientationAddsSpec : ChangeSpec := { name := "orientationAdds", fn := fun _ => fun
  | [d1, d2] => { results := [.lit (.bool true)], args := [d1, d2] }
  | _ => none }
def orientationAddsRow : OpenClaim := { program := "ytjinjbcdbkgedaa", sum := "66e5333d323b1bf1b6609268672eaf621bd0d01cff05069bc0f6972be0470add", func := "sandpile/sandpilelaw14.OrientationAdds", spec := "orientationAdds", unfollowed := true, recurses := true, apart := false }
def OrientationAddsSaid : Prop := orientationAddsRow.holds Try.pinned (OpenSpec.ofChange orientationAddsSpec)

/-- ITS FALSE NEIGHBOUR: 'it returns false'. Refute it at one input. -/
def orientationAddsWrong : ChangeSpec := { name := "orientationAdds", fn := fun _ => fun
  | [d1, d2] => { results := [.lit (.bool false)], args := [d1, d2] }
  | _ => none }
def OrientationAddsWrongFalsely : Prop := orientationAddsRow.holds Try.pinned (OpenSpec.ofChange orientationAddsWrong)

/-- 'sandpilelaw14.OrientationCuts': WHATEVER THE INPUT: true; the input reads as it did. -/
def orientationCutsSpec : ChangeSpec := { name := "orientationCuts", fn := fun _ => fun
  | [d1, d2, d3] => { results := [.lit (.bool true)], args := [d1, d2, d3] }
  | _ => none }
def orientationCutsRow : OpenClaim := { program := "ytjinjbcdbkgedaa", sum := "66e5333d323b1bf1b6609268672eaf621bd0d01cff05069bc0f6972be0470add", func := "sandpile/sandpilelaw14.OrientationCuts", spec := "orientationCuts", unfollowed := true, recurses := true, apart := false }
def OrientationCutsSaid : Prop := orientationCutsRow.holds Try.pinned (OpenSpec.ofChange orientationCutsSpec)

/-- ITS FALSE NEIGHBOUR: 'it returns false'. Refute it at one input. -/
def orientationCutsWrong : ChangeSpec := { name := "orientationCuts", fn := fun _ => fun
  | [d1, d2, d3] => { results := [.lit (.bool false)], args := [d1, d2, d3] }
  | _ => none }
def OrientationCutsWrongFalsely : Prop := orientationCutsRow.holds Try.pinned (OpenSpec.ofChange orientationCutsWrong)

/-- 'sandpilelaw14.OrientationRanks': WHATEVER THE INPUT: true; the input reads as it did. -/
def orientationRanksSpec : ChangeSpec := { name := "orientationRanks", fn := fun _ => fun
  | [d1, d2, d3] => { results := [.lit (.bool true)], args := [d1, d2, d3] }
  | _ => none }
def orientationRanksRow : OpenClaim := { program := "ytjinjbcdbkgedaa", sum := "66e5333d323b1bf1b6609268672eaf621bd0d01cff05069bc0f6972be0470add", func := "sandpile/sandpilelaw14.OrientationRanks", spec := "orientationRanks", unfollowed := true, recurses := true, apart := false }
def OrientationRanksSaid : Prop := orientationRanksRow.holds Try.pinned (OpenSpec.ofChange orientationRanksSpec)

/-- ITS FALSE NEIGHBOUR: 'it returns false'. Refute it at one input. -/
def orientationRanksWrong : ChangeSpec := { name := "orientationRanks", fn := fun _ => fun
  | [d1, d2, d3] => { results := [.lit (.bool false)], args := [d1, d2, d3] }
  | _ => none }
def OrientationRanksWrongFalsely : Prop := orientationRanksRow.holds Try.pinned (OpenSpec.ofChange orientationRanksWrong)

/- THE SECOND FORM. 'bulk': how many values and letters a reading holds, each counted each time it is reached (what is shared counts as often as it is met; a slice's spare places count too). A statement '..UptoSaid' is the law's where the arguments, and the package variables that the reading takes, are together of bulk at most 1048576: NARROWER than '..Said'. Prove '..Said' where nothing that the law and all that it calls make is longer than what came in: it says more and counts as full. Else prove '..UptoSaid'. A law counts once. -/
mutual
def uptoBulk {H : Type} : DataW H → Nat
  | .lit (.string bytes) => bytes.length + 1
  | .lit _ => 1
  | .nil => 1
  | .ptr d => uptoBulk d + 1
  | .slice elems spare => uptoBulkAll elems + uptoBulkAll spare + 1
  | .agg parts => uptoBulkAll parts + 1
  | .iface _ d => uptoBulk d + 1
  | .map entries => uptoBulkEntries entries + 1
  | .held _ => 1
def uptoBulkAll {H : Type} : List (DataW H) → Nat
  | [] => 0
  | d :: r => uptoBulk d + uptoBulkAll r
def uptoBulkEntries {H : Type} : List (Lit × DataW H) → Nat
  | [] => 0
  | x :: r => uptoBulkEntry x + uptoBulkEntries r
def uptoBulkEntry {H : Type} : Lit × DataW H → Nat
  | (.string bytes, d) => bytes.length + uptoBulk d + 1
  | (_, d) => uptoBulk d + 1
 end
def uptoSmall : (H : Type) → List (DataW H) → Bool := fun _ ds => decide (uptoBulkAll ds ≤ 1048576)
def OpenSpec.upto (s : _root_.Go.ChangeSpec) : _root_.Go.OpenSpec := { _root_.Go.OpenSpec.ofChange s with cond := some uptoSmall }

/-- 'sandpilelaw14.OrientationMatches', WHERE WHAT IT READS IS OF BULK AT MOST 1048576: true; the input reads as it did. -/
def orientationMatchesUptoRow : OpenClaim := { program := "ytjinjbcdbkgedaa", sum := "66e5333d323b1bf1b6609268672eaf621bd0d01cff05069bc0f6972be0470add", func := "sandpile/sandpilelaw14.OrientationMatches", spec := "orientationMatches", unfollowed := true, recurses := true, apart := false, narrowed := true }
def OrientationMatchesUptoSaid : Prop := orientationMatchesUptoRow.holds Try.pinned (OpenSpec.upto orientationMatchesSpec)

/-- 'sandpilelaw14.OrientationLists', WHERE WHAT IT READS IS OF BULK AT MOST 1048576: true; the input reads as it did. -/
def orientationListsUptoRow : OpenClaim := { program := "ytjinjbcdbkgedaa", sum := "66e5333d323b1bf1b6609268672eaf621bd0d01cff05069bc0f6972be0470add", func := "sandpile/sandpilelaw14.OrientationLists", spec := "orientationLists", unfollowed := true, recurses := true, apart := false, narrowed := true }
def OrientationListsUptoSaid : Prop := orientationListsUptoRow.holds Try.pinned (OpenSpec.upto orientationListsSpec)

/-- 'sandpilelaw14.OrientationShares', WHERE WHAT IT READS IS OF BULK AT MOST 1048576: true; the input reads as it did. -/
def orientationSharesUptoRow : OpenClaim := { program := "ytjinjbcdbkgedaa", sum := "66e5333d323b1bf1b6609268672eaf621bd0d01cff05069bc0f6972be0470add", func := "sandpile/sandpilelaw14.OrientationShares", spec := "orientationShares", unfollowed := true, recurses := true, apart := false, narrowed := true }
def OrientationSharesUptoSaid : Prop := orientationSharesUptoRow.holds Try.pinned (OpenSpec.upto orientationSharesSpec)

/-- 'sandpilelaw14.OrientationChecks', WHERE WHAT IT READS IS OF BULK AT MOST 1048576: true; the input reads as it did. -/
def orientationChecksUptoRow : OpenClaim := { program := "ytjinjbcdbkgedaa", sum := "66e5333d323b1bf1b6609268672eaf621bd0d01cff05069bc0f6972be0470add", func := "sandpile/sandpilelaw14.OrientationChecks", spec := "orientationChecks", unfollowed := true, recurses := true, apart := false, narrowed := true }
def OrientationChecksUptoSaid : Prop := orientationChecksUptoRow.holds Try.pinned (OpenSpec.upto orientationChecksSpec)

/-- 'sandpilelaw14.OrientationTurns', WHERE WHAT IT READS IS OF BULK AT MOST 1048576: true; the input reads as it did. -/
def orientationTurnsUptoRow : OpenClaim := { program := "ytjinjbcdbkgedaa", sum := "66e5333d323b1bf1b6609268672eaf621bd0d01cff05069bc0f6972be0470add", func := "sandpile/sandpilelaw14.OrientationTurns", spec := "orientationTurns", unfollowed := true, recurses := true, apart := false, narrowed := true }
def OrientationTurnsUptoSaid : Prop := orientationTurnsUptoRow.holds Try.pinned (OpenSpec.upto orientationTurnsSpec)

/-- 'sandpilelaw14.OrientationSorts', WHERE WHAT IT READS IS OF BULK AT MOST 1048576: true; the input reads as it did. -/
def orientationSortsUptoRow : OpenClaim := { program := "ytjinjbcdbkgedaa", sum := "66e5333d323b1bf1b6609268672eaf621bd0d01cff05069bc0f6972be0470add", func := "sandpile/sandpilelaw14.OrientationSorts", spec := "orientationSorts", unfollowed := true, recurses := true, apart := false, narrowed := true }
def OrientationSortsUptoSaid : Prop := orientationSortsUptoRow.holds Try.pinned (OpenSpec.upto orientationSortsSpec)

/-- 'sandpilelaw14.OrientationAdds', WHERE WHAT IT READS IS OF BULK AT MOST 1048576: true; the input reads as it did. -/
def orientationAddsUptoRow : OpenClaim := { program := "ytjinjbcdbkgedaa", sum := "66e5333d323b1bf1b6609268672eaf621bd0d01cff05069bc0f6972be0470add", func := "sandpile/sandpilelaw14.OrientationAdds", spec := "orientationAdds", unfollowed := true, recurses := true, apart := false, narrowed := true }
def OrientationAddsUptoSaid : Prop := orientationAddsUptoRow.holds Try.pinned (OpenSpec.upto orientationAddsSpec)

/-- 'sandpilelaw14.OrientationCuts', WHERE WHAT IT READS IS OF BULK AT MOST 1048576: true; the input reads as it did. -/
def orientationCutsUptoRow : OpenClaim := { program := "ytjinjbcdbkgedaa", sum := "66e5333d323b1bf1b6609268672eaf621bd0d01cff05069bc0f6972be0470add", func := "sandpile/sandpilelaw14.OrientationCuts", spec := "orientationCuts", unfollowed := true, recurses := true, apart := false, narrowed := true }
def OrientationCutsUptoSaid : Prop := orientationCutsUptoRow.holds Try.pinned (OpenSpec.upto orientationCutsSpec)

/-- 'sandpilelaw14.OrientationRanks', WHERE WHAT IT READS IS OF BULK AT MOST 1048576: true; the input reads as it did. -/
def orientationRanksUptoRow : OpenClaim := { program := "ytjinjbcdbkgedaa", sum := "66e5333d323b1bf1b6609268672eaf621bd0d01cff05069bc0f6972be0470add", func := "sandpile/sandpilelaw14.OrientationRanks", spec := "orientationRanks", unfollowed := true, recurses := true, apart := false, narrowed := true }
def OrientationRanksUptoSaid : Prop := orientationRanksUptoRow.holds Try.pinned (OpenSpec.upto orientationRanksSpec)

end Rows
end Go.Proofs.Ytjinjbcdbkgedaa
