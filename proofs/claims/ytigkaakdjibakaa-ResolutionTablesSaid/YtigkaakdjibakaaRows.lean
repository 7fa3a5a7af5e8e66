/-
  No cell of these rows narrows 'for every input' (looked for: loops, veiled, ifaces, maps, wideKeys, modest, calm, conditions, laid).
  DERIVED. THE GIVEN ROWS OF THIS SEAT. 9 by the template 'for every input the law returns true; each argument reads behind the call as it read before'; 0 by the template 'total and deterministic' (their statements: YtigkaakdjibakaaTotals.lean).
  GIVEN WITH THE SEED: the statements are not yours to turn. If you find one false, say at which input.
  Laid BY PROGRAM, IN A SANDBOX (cutbox-rows.mjs): the forced cells as the released guide's own fill.sh prints them over the translation b39c06163b954138… (all of the seat's roots in one cut). By AI agents, Wed Nov 11 2026. No macro, syntax, notation, axiom, sorry.
-/
import Derived.Test.YtigkaakdjibakaaChecked
import GoSem.Claim
import GoSem.ClaimJoined
import GoSem.ClaimMapViews
import Derived.JoinedTies
import Derived.KernelRfl
namespace Go.Proofs.Ytigkaakdjibakaa
/- THE CELL 'sum', in the pinned program and in every row, IS THE sha256 OF THE DUMP (.gsa) THAT YtigkaakdjibakaaProg.lean LOADS. Nothing in Lean hashes anything: it is a label: what it is worth is what the hold of that sum in a sandbox is worth. -/
noncomputable def Try.pinned : Pinned := { name := "ytigkaakdjibakaa", sum := "b39c06163b95413831c0a73ce3cee69b7b2528c3bf3425836642de7574da5779", checked := Try.checked }
namespace Rows
def none {H : Type} : Left H := { results := [], args := [] }

/-- 'wittinglaw10.ResolutionChecks': WHATEVER THE INPUT: true; the input reads as it did. -/
def resolutionChecksSpec : ChangeSpec := { name := "resolutionChecks", fn := fun _ => fun
  | [d1, d2, d3] => { results := [.lit (.bool true)], args := [d1, d2, d3] }
  | _ => none }
def resolutionChecksRow : OpenClaim := { program := "ytigkaakdjibakaa", sum := "b39c06163b95413831c0a73ce3cee69b7b2528c3bf3425836642de7574da5779", func := "witting/wittinglaw10.ResolutionChecks", spec := "resolutionChecks", unfollowed := true, recurses := true, plainKeys := false, apart := false }
def ResolutionChecksSaid : Prop := resolutionChecksRow.holds Try.pinned (OpenSpec.ofChange resolutionChecksSpec)

/-- ITS FALSE NEIGHBOUR: 'it returns false'. Refute it at one input. -/
def resolutionChecksWrong : ChangeSpec := { name := "resolutionChecks", fn := fun _ => fun
  | [d1, d2, d3] => { results := [.lit (.bool false)], args := [d1, d2, d3] }
  | _ => none }
def ResolutionChecksWrongFalsely : Prop := resolutionChecksRow.holds Try.pinned (OpenSpec.ofChange resolutionChecksWrong)

/-- 'wittinglaw10.ResolutionPropagates': WHATEVER THE INPUT: true; the input reads as it did. -/
def resolutionPropagatesSpec : ChangeSpec := { name := "resolutionPropagates", fn := fun _ => fun
  | [d1, d2, d3] => { results := [.lit (.bool true)], args := [d1, d2, d3] }
  | _ => none }
def resolutionPropagatesRow : OpenClaim := { program := "ytigkaakdjibakaa", sum := "b39c06163b95413831c0a73ce3cee69b7b2528c3bf3425836642de7574da5779", func := "witting/wittinglaw10.ResolutionPropagates", spec := "resolutionPropagates", unfollowed := true, recurses := true, plainKeys := false, apart := false }
def ResolutionPropagatesSaid : Prop := resolutionPropagatesRow.holds Try.pinned (OpenSpec.ofChange resolutionPropagatesSpec)

/-- ITS FALSE NEIGHBOUR: 'it returns false'. Refute it at one input. -/
def resolutionPropagatesWrong : ChangeSpec := { name := "resolutionPropagates", fn := fun _ => fun
  | [d1, d2, d3] => { results := [.lit (.bool false)], args := [d1, d2, d3] }
  | _ => none }
def ResolutionPropagatesWrongFalsely : Prop := resolutionPropagatesRow.holds Try.pinned (OpenSpec.ofChange resolutionPropagatesWrong)

/-- 'wittinglaw10.ResolutionResolves': WHATEVER THE INPUT: true; the input reads as it did. -/
def resolutionResolvesSpec : ChangeSpec := { name := "resolutionResolves", fn := fun _ => fun
  | [d1, d2, d3] => { results := [.lit (.bool true)], args := [d1, d2, d3] }
  | _ => none }
def resolutionResolvesRow : OpenClaim := { program := "ytigkaakdjibakaa", sum := "b39c06163b95413831c0a73ce3cee69b7b2528c3bf3425836642de7574da5779", func := "witting/wittinglaw10.ResolutionResolves", spec := "resolutionResolves", unfollowed := true, recurses := true, plainKeys := false, apart := false }
def ResolutionResolvesSaid : Prop := resolutionResolvesRow.holds Try.pinned (OpenSpec.ofChange resolutionResolvesSpec)

/-- ITS FALSE NEIGHBOUR: 'it returns false'. Refute it at one input. -/
def resolutionResolvesWrong : ChangeSpec := { name := "resolutionResolves", fn := fun _ => fun
  | [d1, d2, d3] => { results := [.lit (.bool false)], args := [d1, d2, d3] }
  | _ => none }
def ResolutionResolvesWrongFalsely : Prop := resolutionResolvesRow.holds Try.pinned (OpenSpec.ofChange resolutionResolvesWrong)

/-- 'wittinglaw10.ResolutionVerifies': WHATEVER THE INPUT: true; the input reads as it did. -/
def resolutionVerifiesSpec : ChangeSpec := { name := "resolutionVerifies", fn := fun _ => fun
  | [d1, d2, d3] => { results := [.lit (.bool true)], args := [d1, d2, d3] }
  | _ => none }
def resolutionVerifiesRow : OpenClaim := { program := "ytigkaakdjibakaa", sum := "b39c06163b95413831c0a73ce3cee69b7b2528c3bf3425836642de7574da5779", func := "witting/wittinglaw10.ResolutionVerifies", spec := "resolutionVerifies", unfollowed := true, recurses := true, plainKeys := false, apart := false }
def ResolutionVerifiesSaid : Prop := resolutionVerifiesRow.holds Try.pinned (OpenSpec.ofChange resolutionVerifiesSpec)

/-- ITS FALSE NEIGHBOUR: 'it returns false'. Refute it at one input. -/
def resolutionVerifiesWrong : ChangeSpec := { name := "resolutionVerifies", fn := fun _ => fun
  | [d1, d2, d3] => { results := [.lit (.bool false)], args := [d1, d2, d3] }
  | _ => none }
def ResolutionVerifiesWrongFalsely : Prop := resolutionVerifiesRow.holds Try.pinned (OpenSpec.ofChange resolutionVerifiesWrong)

/-- 'wittinglaw10.ResolutionSound': WHATEVER THE INPUT: true; the input reads as it did. -/
def resolutionSoundSpec : ChangeSpec := { name := "resolutionSound", fn := fun _ => fun
  | [d1, d2, d3] => { results := [.lit (.bool true)], args := [d1, d2, d3] }
  | _ => none }
def resolutionSoundRow : OpenClaim := { program := "ytigkaakdjibakaa", sum := "b39c06163b95413831c0a73ce3cee69b7b2528c3bf3425836642de7574da5779", func := "witting/wittinglaw10.ResolutionSound", spec := "resolutionSound", unfollowed := true, recurses := true, plainKeys := false, apart := false }
def ResolutionSoundSaid : Prop := resolutionSoundRow.holds Try.pinned (OpenSpec.ofChange resolutionSoundSpec)

/-- ITS FALSE NEIGHBOUR: 'it returns false'. Refute it at one input. -/
def resolutionSoundWrong : ChangeSpec := { name := "resolutionSound", fn := fun _ => fun
  | [d1, d2, d3] => { results := [.lit (.bool false)], args := [d1, d2, d3] }
  | _ => none }
def ResolutionSoundWrongFalsely : Prop := resolutionSoundRow.holds Try.pinned (OpenSpec.ofChange resolutionSoundWrong)

/-- 'wittinglaw10.ResolutionUnits': WHATEVER THE INPUT: true; the input reads as it did. -/
def resolutionUnitsSpec : ChangeSpec := { name := "resolutionUnits", fn := fun _ => fun
  | [d1, d2, d3] => { results := [.lit (.bool true)], args := [d1, d2, d3] }
  | _ => none }
def resolutionUnitsRow : OpenClaim := { program := "ytigkaakdjibakaa", sum := "b39c06163b95413831c0a73ce3cee69b7b2528c3bf3425836642de7574da5779", func := "witting/wittinglaw10.ResolutionUnits", spec := "resolutionUnits", unfollowed := true, recurses := true, plainKeys := false, apart := false }
def ResolutionUnitsSaid : Prop := resolutionUnitsRow.holds Try.pinned (OpenSpec.ofChange resolutionUnitsSpec)

/-- ITS FALSE NEIGHBOUR: 'it returns false'. Refute it at one input. -/
def resolutionUnitsWrong : ChangeSpec := { name := "resolutionUnits", fn := fun _ => fun
  | [d1, d2, d3] => { results := [.lit (.bool false)], args := [d1, d2, d3] }
  | _ => none }
def ResolutionUnitsWrongFalsely : Prop := resolutionUnitsRow.holds Try.pinned (OpenSpec.ofChange resolutionUnitsWrong)

/-- 'wittinglaw10.ResolutionSolves': WHATEVER THE INPUT: true; the input reads as it did. -/
def resolutionSolvesSpec : ChangeSpec := { name := "resolutionSolves", fn := fun _ => fun
  | [d1, d2, d3] => { results := [.lit (.bool true)], args := [d1, d2, d3] }
  | _ => none }
def resolutionSolvesRow : OpenClaim := { program := "ytigkaakdjibakaa", sum := "b39c06163b95413831c0a73ce3cee69b7b2528c3bf3425836642de7574da5779", func := "witting/wittinglaw10.ResolutionSolves", spec := "resolutionSolves", unfollowed := true, recurses := true, plainKeys := false, apart := false }
def ResolutionSolvesSaid : Prop := resolutionSolvesRow.holds Try.pinned (OpenSpec.ofChange resolutionSolvesSpec)

/-- ITS FALSE NEIGHBOUR: 'it returns false'. Refute it at one input. -/
def resolutionSolvesWrong : ChangeSpec := { name := "resolutionSolves", fn := fun _ => fun
  | [d1, d2, d3] => { results := [.lit (.bool false)], args := [d1, d2, d3] }
  | _ => none }
def ResolutionSolvesWrongFalsely : Prop := resolutionSolvesRow.holds Try.pinned (OpenSpec.ofChange resolutionSolvesWrong)

/-- 'wittinglaw10.ResolutionDecides': WHATEVER THE INPUT: true; the input reads as it did. -/
def resolutionDecidesSpec : ChangeSpec := { name := "resolutionDecides", fn := fun _ => fun
  | [d1, d2] => { results := [.lit (.bool true)], args := [d1, d2] }
  | _ => none }
def resolutionDecidesRow : OpenClaim := { program := "ytigkaakdjibakaa", sum := "b39c06163b95413831c0a73ce3cee69b7b2528c3bf3425836642de7574da5779", func := "witting/wittinglaw10.ResolutionDecides", spec := "resolutionDecides", unfollowed := true, recurses := true, plainKeys := false, apart := false }
def ResolutionDecidesSaid : Prop := resolutionDecidesRow.holds Try.pinned (OpenSpec.ofChange resolutionDecidesSpec)

/-- ITS FALSE NEIGHBOUR: 'it returns false'. Refute it at one input. -/
def resolutionDecidesWrong : ChangeSpec := { name := "resolutionDecides", fn := fun _ => fun
  | [d1, d2] => { results := [.lit (.bool false)], args := [d1, d2] }
  | _ => none }
def ResolutionDecidesWrongFalsely : Prop := resolutionDecidesRow.holds Try.pinned (OpenSpec.ofChange resolutionDecidesWrong)

/-- 'wittinglaw10.ResolutionTables': WHATEVER THE INPUT: true; the input reads as it did. -/
def resolutionTablesSpec : ChangeSpec := { name := "resolutionTables", fn := fun _ => fun
  | [d1, d2] => { results := [.lit (.bool true)], args := [d1, d2] }
  | _ => none }
def resolutionTablesRow : OpenClaim := { program := "ytigkaakdjibakaa", sum := "b39c06163b95413831c0a73ce3cee69b7b2528c3bf3425836642de7574da5779", func := "witting/wittinglaw10.ResolutionTables", spec := "resolutionTables", unfollowed := true, recurses := true, plainKeys := false, apart := false }
def ResolutionTablesSaid : Prop := resolutionTablesRow.holds Try.pinned (OpenSpec.ofChange resolutionTablesSpec)

/-- ITS FALSE NEIGHBOUR: 'it returns false'. Refute it at one input. -/
def resolutionTablesWrong : ChangeSpec := { name := "resolutionTables", fn := fun _ => fun
  | [d1, d2] => { results := [.lit (.bool false)], args := [d1, d2] }
  | _ => none }
def ResolutionTablesWrongFalsely : Prop := resolutionTablesRow.holds Try.pinned (OpenSpec.ofChange resolutionTablesWrong)

/- THE SECOND FORM. 'bulk': how many values and letters a reading holds, each counted each time it is reached (what is shared counts as often as it is met; a slice's spare places count too). A statement '..UptoSaid' is the law's where the arguments, and the package variables that the reading takes, are together of bulk at most 1048576: NARROWER than '..Said'. Prove '..Said' where nothing that the law and all that it calls make is longer than what came in: it says more and counts as full. Else prove '..UptoSaid'. A law counts once. -/
mutual
def uptoBulk {H : Type} : DataW H → Nat
  | .lit (.string bytes) => bytes.length + 1
  | .lit _ => 1
  | .nil => 1
  | .ptr d => uptoBulk d + 1
  | .slice elems spare => uptoBulkAll elems + uptoBulkAll spare + 1
  | .agg parts => uptoBulkAll parts + 1
  | .iface _ d => uptoBulk d + 1
  | .map entries => uptoBulkEntries entries + 1
  | .held _ => 1
def uptoBulkAll {H : Type} : List (DataW H) → Nat
  | [] => 0
  | d :: r => uptoBulk d + uptoBulkAll r
def uptoBulkEntries {H : Type} : List (Lit × DataW H) → Nat
  | [] => 0
  | x :: r => uptoBulkEntry x + uptoBulkEntries r
def uptoBulkEntry {H : Type} : Lit × DataW H → Nat
  | (.string bytes, d) => bytes.length + uptoBulk d + 1
  | (_, d) => uptoBulk d + 1
 end
def uptoSmall : (H : Type) → List (DataW H) → Bool := fun _ ds => decide (uptoBulkAll ds ≤ 1048576)
def OpenSpec.upto (s : _root_.Go.ChangeSpec) : _root_.Go.OpenSpec := { _root_.Go.OpenSpec.ofChange s with cond := some uptoSmall }

/-- 'wittinglaw10.ResolutionChecks', WHERE WHAT IT READS IS OF BULK AT MOST 1048576: true; the input reads as it did. -/
def resolutionChecksUptoRow : OpenClaim := { program := "ytigkaakdjibakaa", sum := "b39c06163b95413831c0a73ce3cee69b7b2528c3bf3425836642de7574da5779", func := "witting/wittinglaw10.ResolutionChecks", spec := "resolutionChecks", unfollowed := true, recurses := true, plainKeys := false, apart := false, narrowed := true }
def ResolutionChecksUptoSaid : Prop := resolutionChecksUptoRow.holds Try.pinned (OpenSpec.upto resolutionChecksSpec)

/-- 'wittinglaw10.ResolutionPropagates', WHERE WHAT IT READS IS OF BULK AT MOST 1048576: true; the input reads as it did. -/
def resolutionPropagatesUptoRow : OpenClaim := { program := "ytigkaakdjibakaa", sum := "b39c06163b95413831c0a73ce3cee69b7b2528c3bf3425836642de7574da5779", func := "witting/wittinglaw10.ResolutionPropagates", spec := "resolutionPropagates", unfollowed := true, recurses := true, plainKeys := false, apart := false, narrowed := true }
def ResolutionPropagatesUptoSaid : Prop := resolutionPropagatesUptoRow.holds Try.pinned (OpenSpec.upto resolutionPropagatesSpec)

/-- 'wittinglaw10.ResolutionResolves', WHERE WHAT IT READS IS OF BULK AT MOST 1048576: true; the input reads as it did. -/
def resolutionResolvesUptoRow : OpenClaim := { program := "ytigkaakdjibakaa", sum := "b39c06163b95413831c0a73ce3cee69b7b2528c3bf3425836642de7574da5779", func := "witting/wittinglaw10.ResolutionResolves", spec := "resolutionResolves", unfollowed := true, recurses := true, plainKeys := false, apart := false, narrowed := true }
def ResolutionResolvesUptoSaid : Prop := resolutionResolvesUptoRow.holds Try.pinned (OpenSpec.upto resolutionResolvesSpec)

/-- 'wittinglaw10.ResolutionVerifies', WHERE WHAT IT READS IS OF BULK AT MOST 1048576: true; the input reads as it did. -/
def resolutionVerifiesUptoRow : OpenClaim := { program := "ytigkaakdjibakaa", sum := "b39c06163b95413831c0a73ce3cee69b7b2528c3bf3425836642de7574da5779", func := "witting/wittinglaw10.ResolutionVerifies", spec := "resolutionVerifies", unfollowed := true, recurses := true, plainKeys := false, apart := false, narrowed := true }
def ResolutionVerifiesUptoSaid : Prop := resolutionVerifiesUptoRow.holds Try.pinned (OpenSpec.upto resolutionVerifiesSpec)

/-- 'wittinglaw10.ResolutionSound', WHERE WHAT IT READS IS OF BULK AT MOST 1048576: true; the input reads as it did. -/
def resolutionSoundUptoRow : OpenClaim := { program := "ytigkaakdjibakaa", sum := "b39c06163b95413831c0a73ce3cee69b7b2528c3bf3425836642de7574da5779", func := "witting/wittinglaw10.ResolutionSound", spec := "resolutionSound", unfollowed := true, recurses := true, plainKeys := false, apart := false, narrowed := true }
def ResolutionSoundUptoSaid : Prop := resolutionSoundUptoRow.holds Try.pinned (OpenSpec.upto resolutionSoundSpec)

/-- 'wittinglaw10.ResolutionUnits', WHERE WHAT IT READS IS OF BULK AT MOST 1048576: true; the input reads as it did. -/
def resolutionUnitsUptoRow : OpenClaim := { program := "ytigkaakdjibakaa", sum := "b39c06163b95413831c0a73ce3cee69b7b2528c3bf3425836642de7574da5779", func := "witting/wittinglaw10.ResolutionUnits", spec := "resolutionUnits", unfollowed := true, recurses := true, plainKeys := false, apart := false, narrowed := true }
def ResolutionUnitsUptoSaid : Prop := resolutionUnitsUptoRow.holds Try.pinned (OpenSpec.upto resolutionUnitsSpec)

/-- 'wittinglaw10.ResolutionSolves', WHERE WHAT IT READS IS OF BULK AT MOST 1048576: true; the input reads as it did. -/
def resolutionSolvesUptoRow : OpenClaim := { program := "ytigkaakdjibakaa", sum := "b39c06163b95413831c0a73ce3cee69b7b2528c3bf3425836642de7574da5779", func := "witting/wittinglaw10.ResolutionSolves", spec := "resolutionSolves", unfollowed := true, recurses := true, plainKeys := false, apart := false, narrowed := true }
def ResolutionSolvesUptoSaid : Prop := resolutionSolvesUptoRow.holds Try.pinned (OpenSpec.upto resolutionSolvesSpec)

/-- 'wittinglaw10.ResolutionDecides', WHERE WHAT IT READS IS OF BULK AT MOST 1048576: true; the input reads as it did. -/
def resolutionDecidesUptoRow : OpenClaim := { program := "ytigkaakdjibakaa", sum := "b39c06163b95413831c0a73ce3cee69b7b2528c3bf3425836642de7574da5779", func := "witting/wittinglaw10.ResolutionDecides", spec := "resolutionDecides", unfollowed := true, recurses := true, plainKeys := false, apart := false, narrowed := true }
def ResolutionDecidesUptoSaid : Prop := resolutionDecidesUptoRow.holds Try.pinned (OpenSpec.upto resolutionDecidesSpec)

/-- 'wittinglaw10.ResolutionTables', WHERE WHAT IT READS IS OF BULK AT MOST 1048576: true; the input reads as it did. -/
def resolutionTablesUptoRow : OpenClaim := { program := "ytigkaakdjibakaa", sum := "b39c06163b95413831c0a73ce3cee69b7b2528c3bf3425836642de7574da5779", func := "witting/wittinglaw10.ResolutionTables", spec := "resolutionTables", unfollowed := true, recurses := true, plainKeys := false, apart := false, narrowed := true }
def ResolutionTablesUptoSaid : Prop := resolutionTablesUptoRow.holds Try.pinned (OpenSpec.upto resolutionTablesSpec)

end Rows
end Go.Proofs.Ytigkaakdjibakaa
