/-
  No cell of these rows narrows 'for every input' (looked for: loops, veiled, ifaces, maps, wideKeys, modest, calm, conditions, laid).
  DERIVED. THE GIVEN ROWS OF THIS SEAT. 7 by the template 'for every input the law returns true; each argument reads behind the call as it read before'; 0 by the template 'total and deterministic' (their statements: YtddgepjmfnodhaaTotals.lean).
  GIVEN WITH THE SEED: the statements are not yours to turn. If you find one false, say at which input.
  Laid BY PROGRAM, IN A SANDBOX (cutbox-rows.mjs): the forced cells as the released guide's own fill.sh prints them over the translation 67f2310310dbbeed… (all of the seat's roots in one cut). By AI agents, Wed Nov 11 2026. No macro, syntax, notation, axiom, sorry.
-/
import Derived.Test.YtddgepjmfnodhaaChecked
import GoSem.Claim
import GoSem.ClaimJoined
import GoSem.ClaimMapViews
import Derived.JoinedTies
import Derived.KernelRfl
namespace Go.Proofs.Ytddgepjmfnodhaa
/- THE CELL 'sum', in the pinned program and in every row, IS THE sha256 OF THE DUMP (.gsa) THAT YtddgepjmfnodhaaProg.lean LOADS. Nothing in Lean hashes anything: it is a label: what it is worth is what the hold of that sum in a sandbox is worth. -/
noncomputable def Try.pinned : Pinned := { name := "ytddgepjmfnodhaa", sum := "67f2310310dbbeedc80190d657152e60f728ad8d89eaad84cc28bed619d6392e", checked := Try.checked }
namespace Rows
def none {H : Type} : Left H := { results := [], args := [] }

/-- 'sandpilelaw52.PushforwardMoves': WHATEVER THE INPUT: true; the input reads as it did. -/
def pushforwardMovesSpec : ChangeSpec := { name := "pushforwardMoves", fn := fun _ => fun
  | [d1, d2, d3] => { results := [.lit (.bool true)], args := [d1, d2, d3] }
  | _ => none }
def pushforwardMovesRow : OpenClaim := { program := "ytddgepjmfnodhaa", sum := "67f2310310dbbeedc80190d657152e60f728ad8d89eaad84cc28bed619d6392e", func := "sandpile/sandpilelaw52.PushforwardMoves", spec := "pushforwardMoves", unfollowed := true, recurses := true, plainKeys := false, apart := false }
def PushforwardMovesSaid : Prop := pushforwardMovesRow.holds Try.pinned (OpenSpec.ofChange pushforwardMovesSpec)

/-- ITS FALSE NEIGHBOUR: 'it returns false'. Refute it at one input. -/
def pushforwardMovesWrong : ChangeSpec := { name := "pushforwardMoves", fn := fun _ => fun
  | [d1, d2, d3] => { results := [.lit (.bool false)], args := [d1, d2, d3] }
  | _ => none }
def PushforwardMovesWrongFalsely : Prop := pushforwardMovesRow.holds Try.pinned (OpenSpec.ofChange pushforwardMovesWrong)

/-- 'sandpilelaw52.PushforwardRamifies': WHATEVER THE INPUT: true; the input reads as it did. -/
def pushforwardRamifiesSpec : ChangeSpec := { name := "pushforwardRamifies", fn := fun _ => fun
  | [d1, d2] => { results := [.lit (.bool true)], args := [d1, d2] }
  | _ => none }
def pushforwardRamifiesRow : OpenClaim := { program := "ytddgepjmfnodhaa", sum := "67f2310310dbbeedc80190d657152e60f728ad8d89eaad84cc28bed619d6392e", func := "sandpile/sandpilelaw52.PushforwardRamifies", spec := "pushforwardRamifies", unfollowed := true, recurses := true, plainKeys := false, apart := false }
def PushforwardRamifiesSaid : Prop := pushforwardRamifiesRow.holds Try.pinned (OpenSpec.ofChange pushforwardRamifiesSpec)

/-- ITS FALSE NEIGHBOUR: 'it returns false'. Refute it at one input. -/
def pushforwardRamifiesWrong : ChangeSpec := { name := "pushforwardRamifies", fn := fun _ => fun
  | [d1, d2] => { results := [.lit (.bool false)], args := [d1, d2] }
  | _ => none }
def PushforwardRamifiesWrongFalsely : Prop := pushforwardRamifiesRow.holds Try.pinned (OpenSpec.ofChange pushforwardRamifiesWrong)

/-- 'sandpilelaw52.PushforwardDegrees': WHATEVER THE INPUT: true; the input reads as it did. -/
def pushforwardDegreesSpec : ChangeSpec := { name := "pushforwardDegrees", fn := fun _ => fun
  | [d1, d2, d3] => { results := [.lit (.bool true)], args := [d1, d2, d3] }
  | _ => none }
def pushforwardDegreesRow : OpenClaim := { program := "ytddgepjmfnodhaa", sum := "67f2310310dbbeedc80190d657152e60f728ad8d89eaad84cc28bed619d6392e", func := "sandpile/sandpilelaw52.PushforwardDegrees", spec := "pushforwardDegrees", unfollowed := true, recurses := true, plainKeys := false, apart := false }
def PushforwardDegreesSaid : Prop := pushforwardDegreesRow.holds Try.pinned (OpenSpec.ofChange pushforwardDegreesSpec)

/-- ITS FALSE NEIGHBOUR: 'it returns false'. Refute it at one input. -/
def pushforwardDegreesWrong : ChangeSpec := { name := "pushforwardDegrees", fn := fun _ => fun
  | [d1, d2, d3] => { results := [.lit (.bool false)], args := [d1, d2, d3] }
  | _ => none }
def PushforwardDegreesWrongFalsely : Prop := pushforwardDegreesRow.holds Try.pinned (OpenSpec.ofChange pushforwardDegreesWrong)

/-- 'sandpilelaw52.PushforwardHurwitz': WHATEVER THE INPUT: true; the input reads as it did. -/
def pushforwardHurwitzSpec : ChangeSpec := { name := "pushforwardHurwitz", fn := fun _ => fun
  | [d1, d2] => { results := [.lit (.bool true)], args := [d1, d2] }
  | _ => none }
def pushforwardHurwitzRow : OpenClaim := { program := "ytddgepjmfnodhaa", sum := "67f2310310dbbeedc80190d657152e60f728ad8d89eaad84cc28bed619d6392e", func := "sandpile/sandpilelaw52.PushforwardHurwitz", spec := "pushforwardHurwitz", unfollowed := true, recurses := true, plainKeys := false, apart := false }
def PushforwardHurwitzSaid : Prop := pushforwardHurwitzRow.holds Try.pinned (OpenSpec.ofChange pushforwardHurwitzSpec)

/-- ITS FALSE NEIGHBOUR: 'it returns false'. Refute it at one input. -/
def pushforwardHurwitzWrong : ChangeSpec := { name := "pushforwardHurwitz", fn := fun _ => fun
  | [d1, d2] => { results := [.lit (.bool false)], args := [d1, d2] }
  | _ => none }
def PushforwardHurwitzWrongFalsely : Prop := pushforwardHurwitzRow.holds Try.pinned (OpenSpec.ofChange pushforwardHurwitzWrong)

/-- 'sandpilelaw52.PushforwardScripts': WHATEVER THE INPUT: true; the input reads as it did. -/
def pushforwardScriptsSpec : ChangeSpec := { name := "pushforwardScripts", fn := fun _ => fun
  | [d1, d2, d3] => { results := [.lit (.bool true)], args := [d1, d2, d3] }
  | _ => none }
def pushforwardScriptsRow : OpenClaim := { program := "ytddgepjmfnodhaa", sum := "67f2310310dbbeedc80190d657152e60f728ad8d89eaad84cc28bed619d6392e", func := "sandpile/sandpilelaw52.PushforwardScripts", spec := "pushforwardScripts", unfollowed := true, recurses := true, plainKeys := false, apart := false }
def PushforwardScriptsSaid : Prop := pushforwardScriptsRow.holds Try.pinned (OpenSpec.ofChange pushforwardScriptsSpec)

/-- ITS FALSE NEIGHBOUR: 'it returns false'. Refute it at one input. -/
def pushforwardScriptsWrong : ChangeSpec := { name := "pushforwardScripts", fn := fun _ => fun
  | [d1, d2, d3] => { results := [.lit (.bool false)], args := [d1, d2, d3] }
  | _ => none }
def PushforwardScriptsWrongFalsely : Prop := pushforwardScriptsRow.holds Try.pinned (OpenSpec.ofChange pushforwardScriptsWrong)

/-- 'sandpilelaw52.PushforwardComposes': WHATEVER THE INPUT: true; the input reads as it did. -/
def pushforwardComposesSpec : ChangeSpec := { name := "pushforwardComposes", fn := fun _ => fun
  | [d1, d2, d3] => { results := [.lit (.bool true)], args := [d1, d2, d3] }
  | _ => none }
def pushforwardComposesRow : OpenClaim := { program := "ytddgepjmfnodhaa", sum := "67f2310310dbbeedc80190d657152e60f728ad8d89eaad84cc28bed619d6392e", func := "sandpile/sandpilelaw52.PushforwardComposes", spec := "pushforwardComposes", unfollowed := true, recurses := true, plainKeys := false, apart := false }
def PushforwardComposesSaid : Prop := pushforwardComposesRow.holds Try.pinned (OpenSpec.ofChange pushforwardComposesSpec)

/-- ITS FALSE NEIGHBOUR: 'it returns false'. Refute it at one input. -/
def pushforwardComposesWrong : ChangeSpec := { name := "pushforwardComposes", fn := fun _ => fun
  | [d1, d2, d3] => { results := [.lit (.bool false)], args := [d1, d2, d3] }
  | _ => none }
def PushforwardComposesWrongFalsely : Prop := pushforwardComposesRow.holds Try.pinned (OpenSpec.ofChange pushforwardComposesWrong)

/-- 'sandpilelaw52.PushforwardPrincipal': WHATEVER THE INPUT: true; the input reads as it did. -/
def pushforwardPrincipalSpec : ChangeSpec := { name := "pushforwardPrincipal", fn := fun _ => fun
  | [d1, d2, d3] => { results := [.lit (.bool true)], args := [d1, d2, d3] }
  | _ => none }
def pushforwardPrincipalRow : OpenClaim := { program := "ytddgepjmfnodhaa", sum := "67f2310310dbbeedc80190d657152e60f728ad8d89eaad84cc28bed619d6392e", func := "sandpile/sandpilelaw52.PushforwardPrincipal", spec := "pushforwardPrincipal", unfollowed := true, recurses := true, plainKeys := false, apart := false }
def PushforwardPrincipalSaid : Prop := pushforwardPrincipalRow.holds Try.pinned (OpenSpec.ofChange pushforwardPrincipalSpec)

/-- ITS FALSE NEIGHBOUR: 'it returns false'. Refute it at one input. -/
def pushforwardPrincipalWrong : ChangeSpec := { name := "pushforwardPrincipal", fn := fun _ => fun
  | [d1, d2, d3] => { results := [.lit (.bool false)], args := [d1, d2, d3] }
  | _ => none }
def PushforwardPrincipalWrongFalsely : Prop := pushforwardPrincipalRow.holds Try.pinned (OpenSpec.ofChange pushforwardPrincipalWrong)

/- THE SECOND FORM. 'bulk': how many values and letters a reading holds, each counted each time it is reached (what is shared counts as often as it is met; a slice's spare places count too). A statement '..UptoSaid' is the law's where the arguments, and the package variables that the reading takes, are together of bulk at most 1048576: NARROWER than '..Said'. Prove '..Said' where nothing that the law and all that it calls make is longer than what came in: it says more and counts as full. Else prove '..UptoSaid'. A law counts once. -/
mutual
def uptoBulk {H : Type} : DataW H → Nat
  | .lit (.string bytes) => bytes.length + 1
  | .lit _ => 1
  | .nil => 1
  | .ptr d => uptoBulk d + 1
  | .slice elems spare => uptoBulkAll elems + uptoBulkAll spare + 1
  | .agg parts => uptoBulkAll parts + 1
  | .iface _ d => uptoBulk d + 1
  | .map entries => uptoBulkEntries entries + 1
  | .held _ => 1
def uptoBulkAll {H : Type} : List (DataW H) → Nat
  | [] => 0
  | d :: r => uptoBulk d + uptoBulkAll r
def uptoBulkEntries {H : Type} : List (Lit × DataW H) → Nat
  | [] => 0
  | x :: r => uptoBulkEntry x + uptoBulkEntries r
def uptoBulkEntry {H : Type} : Lit × DataW H → Nat
  | (.string bytes, d) => bytes.length + uptoBulk d + 1
  | (_, d) => uptoBulk d + 1
 end
def uptoSmall : (H : Type) → List (DataW H) → Bool := fun _ ds => decide (uptoBulkAll ds ≤ 1048576)
def OpenSpec.upto (s : _root_.Go.ChangeSpec) : _root_.Go.OpenSpec := { _root_.Go.OpenSpec.ofChange s with cond := some uptoSmall }

/-- 'sandpilelaw52.PushforwardMoves', WHERE WHAT IT READS IS OF BULK AT MOST 1048576: true; the input reads as it did. -/
def pushforwardMovesUptoRow : OpenClaim := { program := "ytddgepjmfnodhaa", sum := "67f2310310dbbeedc80190d657152e60f728ad8d89eaad84cc28bed619d6392e", func := "sandpile/sandpilelaw52.PushforwardMoves", spec := "pushforwardMoves", unfollowed := true, recurses := true, plainKeys := false, apart := false, narrowed := true }
def PushforwardMovesUptoSaid : Prop := pushforwardMovesUptoRow.holds Try.pinned (OpenSpec.upto pushforwardMovesSpec)

/-- 'sandpilelaw52.PushforwardRamifies', WHERE WHAT IT READS IS OF BULK AT MOST 1048576: true; the input reads as it did. -/
def pushforwardRamifiesUptoRow : OpenClaim := { program := "ytddgepjmfnodhaa", sum := "67f2310310dbbeedc80190d657152e60f728ad8d89eaad84cc28bed619d6392e", func := "sandpile/sandpilelaw52.PushforwardRamifies", spec := "pushforwardRamifies", unfollowed := true, recurses := true, plainKeys := false, apart := false, narrowed := true }
def PushforwardRamifiesUptoSaid : Prop := pushforwardRamifiesUptoRow.holds Try.pinned (OpenSpec.upto pushforwardRamifiesSpec)

/-- 'sandpilelaw52.PushforwardDegrees', WHERE WHAT IT READS IS OF BULK AT MOST 1048576: true; the input reads as it did. -/
def pushforwardDegreesUptoRow : OpenClaim := { program := "ytddgepjmfnodhaa", sum := "67f2310310dbbeedc80190d657152e60f728ad8d89eaad84cc28bed619d6392e", func := "sandpile/sandpilelaw52.PushforwardDegrees", spec := "pushforwardDegrees", unfollowed := true, recurses := true, plainKeys := false, apart := false, narrowed := true }
def PushforwardDegreesUptoSaid : Prop := pushforwardDegreesUptoRow.holds Try.pinned (OpenSpec.upto pushforwardDegreesSpec)

/-- 'sandpilelaw52.PushforwardHurwitz', WHERE WHAT IT READS IS OF BULK AT MOST 1048576: true; the input reads as it did. -/
def pushforwardHurwitzUptoRow : OpenClaim := { program := "ytddgepjmfnodhaa", sum := "67f2310310dbbeedc80190d657152e60f728ad8d89eaad84cc28bed619d6392e", func := "sandpile/sandpilelaw52.PushforwardHurwitz", spec := "pushforwardHurwitz", unfollowed := true, recurses := true, plainKeys := false, apart := false, narrowed := true }
def PushforwardHurwitzUptoSaid : Prop := pushforwardHurwitzUptoRow.holds Try.pinned (OpenSpec.upto pushforwardHurwitzSpec)

/-- 'sandpilelaw52.PushforwardScripts', WHERE WHAT IT READS IS OF BULK AT MOST 1048576: true; the input reads as it did. -/
def pushforwardScriptsUptoRow : OpenClaim := { program := "ytddgepjmfnodhaa", sum := "67f2310310dbbeedc80190d657152e60f728ad8d89eaad84cc28bed619d6392e", func := "sandpile/sandpilelaw52.PushforwardScripts", spec := "pushforwardScripts", unfollowed := true, recurses := true, plainKeys := false, apart := false, narrowed := true }
def PushforwardScriptsUptoSaid : Prop := pushforwardScriptsUptoRow.holds Try.pinned (OpenSpec.upto pushforwardScriptsSpec)

/-- 'sandpilelaw52.PushforwardComposes', WHERE WHAT IT READS IS OF BULK AT MOST 1048576: true; the input reads as it did. -/
def pushforwardComposesUptoRow : OpenClaim := { program := "ytddgepjmfnodhaa", sum := "67f2310310dbbeedc80190d657152e60f728ad8d89eaad84cc28bed619d6392e", func := "sandpile/sandpilelaw52.PushforwardComposes", spec := "pushforwardComposes", unfollowed := true, recurses := true, plainKeys := false, apart := false, narrowed := true }
def PushforwardComposesUptoSaid : Prop := pushforwardComposesUptoRow.holds Try.pinned (OpenSpec.upto pushforwardComposesSpec)

/-- 'sandpilelaw52.PushforwardPrincipal', WHERE WHAT IT READS IS OF BULK AT MOST 1048576: true; the input reads as it did. -/
def pushforwardPrincipalUptoRow : OpenClaim := { program := "ytddgepjmfnodhaa", sum := "67f2310310dbbeedc80190d657152e60f728ad8d89eaad84cc28bed619d6392e", func := "sandpile/sandpilelaw52.PushforwardPrincipal", spec := "pushforwardPrincipal", unfollowed := true, recurses := true, plainKeys := false, apart := false, narrowed := true }
def PushforwardPrincipalUptoSaid : Prop := pushforwardPrincipalUptoRow.holds Try.pinned (OpenSpec.upto pushforwardPrincipalSpec)

end Rows
end Go.Proofs.Ytddgepjmfnodhaa
