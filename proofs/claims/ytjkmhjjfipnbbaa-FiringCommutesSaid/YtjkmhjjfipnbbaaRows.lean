/-
  No cell of these rows narrows 'for every input' (looked for: loops, veiled, ifaces, maps, wideKeys, modest, calm, conditions, laid).
  DERIVED. THE GIVEN ROWS OF THIS SEAT. 9 by the template 'for every input the law returns true; each argument reads behind the call as it read before'; 0 by the template 'total and deterministic' (their statements: YtjkmhjjfipnbbaaTotals.lean).
  GIVEN WITH THE SEED: the statements are not yours to turn. If you find one false, say at which input.
  Laid BY PROGRAM, IN A SANDBOX (cutbox-rows.mjs): the forced cells as the released guide's own fill.sh prints them over the translation eac072d50a9ca1f4… (all of the seat's roots in one cut). By AI agents, Wed Nov 11 2026. No macro, syntax, notation, axiom, sorry.
-/
import Derived.Test.YtjkmhjjfipnbbaaChecked
import GoSem.Claim
import GoSem.ClaimJoined
import GoSem.ClaimMapViews
import Derived.JoinedTies
import Derived.KernelRfl
namespace Go.Proofs.Ytjkmhjjfipnbbaa
/- THE CELL 'sum', in the pinned program and in every row, IS THE sha256 OF THE DUMP (.gsa) THAT YtjkmhjjfipnbbaaProg.lean LOADS. Nothing in Lean hashes anything: it is a label: what it is worth is what the hold of that sum in a sandbox is worth. -/
noncomputable def Try.pinned : Pinned := { name := "ytjkmhjjfipnbbaa", sum := "eac072d50a9ca1f47b2a575c12f6ecd74fd49975d26fa4d4970d2376105986ad", checked := Try.checked }
namespace Rows
def none {H : Type} : Left H := { results := [], args := [] }

/-- 'sandpilelaw18.FiringScripts': WHATEVER THE INPUT: true; the input reads as it did. -/
def firingScriptsSpec : ChangeSpec := { name := "firingScripts", fn := fun _ => fun
  | [d1, d2] => { results := [.lit (.bool true)], args := [d1, d2] }
  | _ => none }
def firingScriptsRow : OpenClaim := { program := "ytjkmhjjfipnbbaa", sum := "eac072d50a9ca1f47b2a575c12f6ecd74fd49975d26fa4d4970d2376105986ad", func := "sandpile/sandpilelaw18.FiringScripts", spec := "firingScripts", unfollowed := true, recurses := true, apart := false }
def FiringScriptsSaid : Prop := firingScriptsRow.holds Try.pinned (OpenSpec.ofChange firingScriptsSpec)

/-- ITS FALSE NEIGHBOUR: 'it returns false'. Refute it at one input. -/
def firingScriptsWrong : ChangeSpec := { name := "firingScripts", fn := fun _ => fun
  | [d1, d2] => { results := [.lit (.bool false)], args := [d1, d2] }
  | _ => none }
def FiringScriptsWrongFalsely : Prop := firingScriptsRow.holds Try.pinned (OpenSpec.ofChange firingScriptsWrong)

/-- 'sandpilelaw18.FiringFires': WHATEVER THE INPUT: true; the input reads as it did. -/
def firingFiresSpec : ChangeSpec := { name := "firingFires", fn := fun _ => fun
  | [d1, d2, d3] => { results := [.lit (.bool true)], args := [d1, d2, d3] }
  | _ => none }
def firingFiresRow : OpenClaim := { program := "ytjkmhjjfipnbbaa", sum := "eac072d50a9ca1f47b2a575c12f6ecd74fd49975d26fa4d4970d2376105986ad", func := "sandpile/sandpilelaw18.FiringFires", spec := "firingFires", unfollowed := true, recurses := true, apart := false }
def FiringFiresSaid : Prop := firingFiresRow.holds Try.pinned (OpenSpec.ofChange firingFiresSpec)

/-- ITS FALSE NEIGHBOUR: 'it returns false'. Refute it at one input. -/
def firingFiresWrong : ChangeSpec := { name := "firingFires", fn := fun _ => fun
  | [d1, d2, d3] => { results := [.lit (.bool false)], args := [d1, d2, d3] }
  | _ => none }
def FiringFiresWrongFalsely : Prop := firingFiresRow.holds Try.pinned (OpenSpec.ofChange firingFiresWrong)

/-- 'sandpilelaw18.FiringSets': WHATEVER THE INPUT: true; the input reads as it did. -/
def firingSetsSpec : ChangeSpec := { name := "firingSets", fn := fun _ => fun
  | [d1, d2] => { results := [.lit (.bool true)], args := [d1, d2] }
  | _ => none }
def firingSetsRow : OpenClaim := { program := "ytjkmhjjfipnbbaa", sum := "eac072d50a9ca1f47b2a575c12f6ecd74fd49975d26fa4d4970d2376105986ad", func := "sandpile/sandpilelaw18.FiringSets", spec := "firingSets", unfollowed := true, recurses := true, apart := false }
def FiringSetsSaid : Prop := firingSetsRow.holds Try.pinned (OpenSpec.ofChange firingSetsSpec)

/-- ITS FALSE NEIGHBOUR: 'it returns false'. Refute it at one input. -/
def firingSetsWrong : ChangeSpec := { name := "firingSets", fn := fun _ => fun
  | [d1, d2] => { results := [.lit (.bool false)], args := [d1, d2] }
  | _ => none }
def FiringSetsWrongFalsely : Prop := firingSetsRow.holds Try.pinned (OpenSpec.ofChange firingSetsWrong)

/-- 'sandpilelaw18.FiringReturns': WHATEVER THE INPUT: true; the input reads as it did. -/
def firingReturnsSpec : ChangeSpec := { name := "firingReturns", fn := fun _ => fun
  | [d1, d2, d3] => { results := [.lit (.bool true)], args := [d1, d2, d3] }
  | _ => none }
def firingReturnsRow : OpenClaim := { program := "ytjkmhjjfipnbbaa", sum := "eac072d50a9ca1f47b2a575c12f6ecd74fd49975d26fa4d4970d2376105986ad", func := "sandpile/sandpilelaw18.FiringReturns", spec := "firingReturns", unfollowed := true, recurses := true, apart := false }
def FiringReturnsSaid : Prop := firingReturnsRow.holds Try.pinned (OpenSpec.ofChange firingReturnsSpec)

/-- ITS FALSE NEIGHBOUR: 'it returns false'. Refute it at one input. -/
def firingReturnsWrong : ChangeSpec := { name := "firingReturns", fn := fun _ => fun
  | [d1, d2, d3] => { results := [.lit (.bool false)], args := [d1, d2, d3] }
  | _ => none }
def FiringReturnsWrongFalsely : Prop := firingReturnsRow.holds Try.pinned (OpenSpec.ofChange firingReturnsWrong)

/-- 'sandpilelaw18.FiringLegal': WHATEVER THE INPUT: true; the input reads as it did. -/
def firingLegalSpec : ChangeSpec := { name := "firingLegal", fn := fun _ => fun
  | [d1, d2, d3] => { results := [.lit (.bool true)], args := [d1, d2, d3] }
  | _ => none }
def firingLegalRow : OpenClaim := { program := "ytjkmhjjfipnbbaa", sum := "eac072d50a9ca1f47b2a575c12f6ecd74fd49975d26fa4d4970d2376105986ad", func := "sandpile/sandpilelaw18.FiringLegal", spec := "firingLegal", unfollowed := true, recurses := true, apart := false }
def FiringLegalSaid : Prop := firingLegalRow.holds Try.pinned (OpenSpec.ofChange firingLegalSpec)

/-- ITS FALSE NEIGHBOUR: 'it returns false'. Refute it at one input. -/
def firingLegalWrong : ChangeSpec := { name := "firingLegal", fn := fun _ => fun
  | [d1, d2, d3] => { results := [.lit (.bool false)], args := [d1, d2, d3] }
  | _ => none }
def FiringLegalWrongFalsely : Prop := firingLegalRow.holds Try.pinned (OpenSpec.ofChange firingLegalWrong)

/-- 'sandpilelaw18.FiringApplies': WHATEVER THE INPUT: true; the input reads as it did. -/
def firingAppliesSpec : ChangeSpec := { name := "firingApplies", fn := fun _ => fun
  | [d1, d2, d3] => { results := [.lit (.bool true)], args := [d1, d2, d3] }
  | _ => none }
def firingAppliesRow : OpenClaim := { program := "ytjkmhjjfipnbbaa", sum := "eac072d50a9ca1f47b2a575c12f6ecd74fd49975d26fa4d4970d2376105986ad", func := "sandpile/sandpilelaw18.FiringApplies", spec := "firingApplies", unfollowed := true, recurses := true, apart := false }
def FiringAppliesSaid : Prop := firingAppliesRow.holds Try.pinned (OpenSpec.ofChange firingAppliesSpec)

/-- ITS FALSE NEIGHBOUR: 'it returns false'. Refute it at one input. -/
def firingAppliesWrong : ChangeSpec := { name := "firingApplies", fn := fun _ => fun
  | [d1, d2, d3] => { results := [.lit (.bool false)], args := [d1, d2, d3] }
  | _ => none }
def FiringAppliesWrongFalsely : Prop := firingAppliesRow.holds Try.pinned (OpenSpec.ofChange firingAppliesWrong)

/-- 'sandpilelaw18.FiringAdds': WHATEVER THE INPUT: true; the input reads as it did. -/
def firingAddsSpec : ChangeSpec := { name := "firingAdds", fn := fun _ => fun
  | [d1, d2, d3] => { results := [.lit (.bool true)], args := [d1, d2, d3] }
  | _ => none }
def firingAddsRow : OpenClaim := { program := "ytjkmhjjfipnbbaa", sum := "eac072d50a9ca1f47b2a575c12f6ecd74fd49975d26fa4d4970d2376105986ad", func := "sandpile/sandpilelaw18.FiringAdds", spec := "firingAdds", unfollowed := true, recurses := true, apart := false }
def FiringAddsSaid : Prop := firingAddsRow.holds Try.pinned (OpenSpec.ofChange firingAddsSpec)

/-- ITS FALSE NEIGHBOUR: 'it returns false'. Refute it at one input. -/
def firingAddsWrong : ChangeSpec := { name := "firingAdds", fn := fun _ => fun
  | [d1, d2, d3] => { results := [.lit (.bool false)], args := [d1, d2, d3] }
  | _ => none }
def FiringAddsWrongFalsely : Prop := firingAddsRow.holds Try.pinned (OpenSpec.ofChange firingAddsWrong)

/-- 'sandpilelaw18.FiringPlays': WHATEVER THE INPUT: true; the input reads as it did. -/
def firingPlaysSpec : ChangeSpec := { name := "firingPlays", fn := fun _ => fun
  | [d1, d2, d3] => { results := [.lit (.bool true)], args := [d1, d2, d3] }
  | _ => none }
def firingPlaysRow : OpenClaim := { program := "ytjkmhjjfipnbbaa", sum := "eac072d50a9ca1f47b2a575c12f6ecd74fd49975d26fa4d4970d2376105986ad", func := "sandpile/sandpilelaw18.FiringPlays", spec := "firingPlays", unfollowed := true, recurses := true, apart := false }
def FiringPlaysSaid : Prop := firingPlaysRow.holds Try.pinned (OpenSpec.ofChange firingPlaysSpec)

/-- ITS FALSE NEIGHBOUR: 'it returns false'. Refute it at one input. -/
def firingPlaysWrong : ChangeSpec := { name := "firingPlays", fn := fun _ => fun
  | [d1, d2, d3] => { results := [.lit (.bool false)], args := [d1, d2, d3] }
  | _ => none }
def FiringPlaysWrongFalsely : Prop := firingPlaysRow.holds Try.pinned (OpenSpec.ofChange firingPlaysWrong)

/-- 'sandpilelaw18.FiringCommutes': WHATEVER THE INPUT: true; the input reads as it did. -/
def firingCommutesSpec : ChangeSpec := { name := "firingCommutes", fn := fun _ => fun
  | [d1, d2, d3] => { results := [.lit (.bool true)], args := [d1, d2, d3] }
  | _ => none }
def firingCommutesRow : OpenClaim := { program := "ytjkmhjjfipnbbaa", sum := "eac072d50a9ca1f47b2a575c12f6ecd74fd49975d26fa4d4970d2376105986ad", func := "sandpile/sandpilelaw18.FiringCommutes", spec := "firingCommutes", unfollowed := true, recurses := true, apart := false }
def FiringCommutesSaid : Prop := firingCommutesRow.holds Try.pinned (OpenSpec.ofChange firingCommutesSpec)

/-- ITS FALSE NEIGHBOUR: 'it returns false'. Refute it at one input. -/
def firingCommutesWrong : ChangeSpec := { name := "firingCommutes", fn := fun _ => fun
  | [d1, d2, d3] => { results := [.lit (.bool false)], args := [d1, d2, d3] }
  | _ => none }
def FiringCommutesWrongFalsely : Prop := firingCommutesRow.holds Try.pinned (OpenSpec.ofChange firingCommutesWrong)

/- THE SECOND FORM. 'bulk': how many values and letters a reading holds, each counted each time it is reached (what is shared counts as often as it is met; a slice's spare places count too). A statement '..UptoSaid' is the law's where the arguments, and the package variables that the reading takes, are together of bulk at most 1048576: NARROWER than '..Said'. Prove '..Said' where nothing that the law and all that it calls make is longer than what came in: it says more and counts as full. Else prove '..UptoSaid'. A law counts once. -/
mutual
def uptoBulk {H : Type} : DataW H → Nat
  | .lit (.string bytes) => bytes.length + 1
  | .lit _ => 1
  | .nil => 1
  | .ptr d => uptoBulk d + 1
  | .slice elems spare => uptoBulkAll elems + uptoBulkAll spare + 1
  | .agg parts => uptoBulkAll parts + 1
  | .iface _ d => uptoBulk d + 1
  | .map entries => uptoBulkEntries entries + 1
  | .held _ => 1
def uptoBulkAll {H : Type} : List (DataW H) → Nat
  | [] => 0
  | d :: r => uptoBulk d + uptoBulkAll r
def uptoBulkEntries {H : Type} : List (Lit × DataW H) → Nat
  | [] => 0
  | x :: r => uptoBulkEntry x + uptoBulkEntries r
def uptoBulkEntry {H : Type} : Lit × DataW H → Nat
  | (.string bytes, d) => bytes.length + uptoBulk d + 1
  | (_, d) => uptoBulk d + 1
 end
def uptoSmall : (H : Type) → List (DataW H) → Bool := fun _ ds => decide (uptoBulkAll ds ≤ 1048576)
def OpenSpec.upto (s : _root_.Go.ChangeSpec) : _root_.Go.OpenSpec := { _root_.Go.OpenSpec.ofChange s with cond := some uptoSmall }

/-- 'sandpilelaw18.FiringScripts', WHERE WHAT IT READS IS OF BULK AT MOST 1048576: true; the input reads as it did. -/
def firingScriptsUptoRow : OpenClaim := { program := "ytjkmhjjfipnbbaa", sum := "eac072d50a9ca1f47b2a575c12f6ecd74fd49975d26fa4d4970d2376105986ad", func := "sandpile/sandpilelaw18.FiringScripts", spec := "firingScripts", unfollowed := true, recurses := true, apart := false, narrowed := true }
def FiringScriptsUptoSaid : Prop := firingScriptsUptoRow.holds Try.pinned (OpenSpec.upto firingScriptsSpec)

/-- 'sandpilelaw18.FiringFires', WHERE WHAT IT READS IS OF BULK AT MOST 1048576: true; the input reads as it did. -/
def firingFiresUptoRow : OpenClaim := { program := "ytjkmhjjfipnbbaa", sum := "eac072d50a9ca1f47b2a575c12f6ecd74fd49975d26fa4d4970d2376105986ad", func := "sandpile/sandpilelaw18.FiringFires", spec := "firingFires", unfollowed := true, recurses := true, apart := false, narrowed := true }
def FiringFiresUptoSaid : Prop := firingFiresUptoRow.holds Try.pinned (OpenSpec.upto firingFiresSpec)

/-- 'sandpilelaw18.FiringSets', WHERE WHAT IT READS IS OF BULK AT MOST 1048576: true; the input reads as it did. -/
def firingSetsUptoRow : OpenClaim := { program := "ytjkmhjjfipnbbaa", sum := "eac072d50a9ca1f47b2a575c12f6ecd74fd49975d26fa4d4970d2376105986ad", func := "sandpile/sandpilelaw18.FiringSets", spec := "firingSets", unfollowed := true, recurses := true, apart := false, narrowed := true }
def FiringSetsUptoSaid : Prop := firingSetsUptoRow.holds Try.pinned (OpenSpec.upto firingSetsSpec)

/-- 'sandpilelaw18.FiringReturns', WHERE WHAT IT READS IS OF BULK AT MOST 1048576: true; the input reads as it did. -/
def firingReturnsUptoRow : OpenClaim := { program := "ytjkmhjjfipnbbaa", sum := "eac072d50a9ca1f47b2a575c12f6ecd74fd49975d26fa4d4970d2376105986ad", func := "sandpile/sandpilelaw18.FiringReturns", spec := "firingReturns", unfollowed := true, recurses := true, apart := false, narrowed := true }
def FiringReturnsUptoSaid : Prop := firingReturnsUptoRow.holds Try.pinned (OpenSpec.upto firingReturnsSpec)

/-- 'sandpilelaw18.FiringLegal', WHERE WHAT IT READS IS OF BULK AT MOST 1048576: true; the input reads as it did. -/
def firingLegalUptoRow : OpenClaim := { program := "ytjkmhjjfipnbbaa", sum := "eac072d50a9ca1f47b2a575c12f6ecd74fd49975d26fa4d4970d2376105986ad", func := "sandpile/sandpilelaw18.FiringLegal", spec := "firingLegal", unfollowed := true, recurses := true, apart := false, narrowed := true }
def FiringLegalUptoSaid : Prop := firingLegalUptoRow.holds Try.pinned (OpenSpec.upto firingLegalSpec)

/-- 'sandpilelaw18.FiringApplies', WHERE WHAT IT READS IS OF BULK AT MOST 1048576: true; the input reads as it did. -/
def firingAppliesUptoRow : OpenClaim := { program := "ytjkmhjjfipnbbaa", sum := "eac072d50a9ca1f47b2a575c12f6ecd74fd49975d26fa4d4970d2376105986ad", func := "sandpile/sandpilelaw18.FiringApplies", spec := "firingApplies", unfollowed := true, recurses := true, apart := false, narrowed := true }
def FiringAppliesUptoSaid : Prop := firingAppliesUptoRow.holds Try.pinned (OpenSpec.upto firingAppliesSpec)

/-- 'sandpilelaw18.FiringAdds', WHERE WHAT IT READS IS OF BULK AT MOST 1048576: true; the input reads as it did. -/
def firingAddsUptoRow : OpenClaim := { program := "ytjkmhjjfipnbbaa", sum := "eac072d50a9ca1f47b2a575c12f6ecd74fd49975d26fa4d4970d2376105986ad", func := "sandpile/sandpilelaw18.FiringAdds", spec := "firingAdds", unfollowed := true, recurses := true, apart := false, narrowed := true }
def FiringAddsUptoSaid : Prop := firingAddsUptoRow.holds Try.pinned (OpenSpec.upto firingAddsSpec)

/-- 'sandpilelaw18.FiringPlays', WHERE WHAT IT READS IS OF BULK AT MOST 1048576: true; the input reads as it did. -/
def firingPlaysUptoRow : OpenClaim := { program := "ytjkmhjjfipnbbaa", sum := "eac072d50a9ca1f47b2a575c12f6ecd74fd49975d26fa4d4970d2376105986ad", func := "sandpile/sandpilelaw18.FiringPlays", spec := "firingPlays", unfollowed := true, recurses := true, apart := false, narrowed := true }
def FiringPlaysUptoSaid : Prop := firingPlaysUptoRow.holds Try.pinned (OpenSpec.upto firingPlaysSpec)

/-- 'sandpilelaw18.FiringCommutes', WHERE WHAT IT READS IS OF BULK AT MOST 1048576: true; the input reads as it did. -/
def firingCommutesUptoRow : OpenClaim := { program := "ytjkmhjjfipnbbaa", sum := "eac072d50a9ca1f47b2a575c12f6ecd74fd49975d26fa4d4970d2376105986ad", func := "sandpile/sandpilelaw18.FiringCommutes", spec := "firingCommutes", unfollowed := true, recurses := true, apart := false, narrowed := true }
def FiringCommutesUptoSaid : Prop := firingCommutesUptoRow.holds Try.pinned (OpenSpec.upto firingCommutesSpec)

end Rows
end Go.Proofs.Ytjkmhjjfipnbbaa
