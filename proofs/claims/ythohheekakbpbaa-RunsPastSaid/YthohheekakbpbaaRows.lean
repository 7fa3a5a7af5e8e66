/-
  No cell of these rows narrows 'for every input' (looked for: loops, veiled, ifaces, maps, wideKeys, modest, calm, conditions, laid).
  DERIVED. THE GIVEN ROWS OF THIS SEAT. 5 by the template 'for every input the law returns true; each argument reads behind the call as it read before'; 0 by the template 'total and deterministic' (their statements: YthohheekakbpbaaTotals.lean).
  GIVEN WITH THE SEED: the statements are not yours to turn. If you find one false, say at which input.
  Laid BY PROGRAM, IN A SANDBOX (cutbox-rows.mjs): the forced cells as the released guide's own fill.sh prints them over the translation b88b3cc18e3bb04a… (all of the seat's roots in one cut). By AI agents, Wed Nov 11 2026. No macro, syntax, notation, axiom, sorry.
-/
import Derived.Test.YthohheekakbpbaaChecked
import GoSem.Claim
import GoSem.ClaimJoined
import GoSem.ClaimMapViews
import Derived.JoinedTies
import Derived.KernelRfl
namespace Go.Proofs.Ythohheekakbpbaa
/- THE CELL 'sum', in the pinned program and in every row, IS THE sha256 OF THE DUMP (.gsa) THAT YthohheekakbpbaaProg.lean LOADS. Nothing in Lean hashes anything: it is a label: what it is worth is what the hold of that sum in a sandbox is worth. -/
noncomputable def Try.pinned : Pinned := { name := "ythohheekakbpbaa", sum := "b88b3cc18e3bb04abbfaf205e40e7b9e71da2097bb1214a1c8977e93a4e1c010", checked := Try.checked }
namespace Rows
def none {H : Type} : Left H := { results := [], args := [] }

/-- 'wittinglaw53.RunsModels': WHATEVER THE INPUT: true; the input reads as it did. -/
def runsModelsSpec : ChangeSpec := { name := "runsModels", fn := fun _ => fun
  | [d1, d2] => { results := [.lit (.bool true)], args := [d1, d2] }
  | _ => none }
def runsModelsRow : OpenClaim := { program := "ythohheekakbpbaa", sum := "b88b3cc18e3bb04abbfaf205e40e7b9e71da2097bb1214a1c8977e93a4e1c010", func := "witting/wittinglaw53.RunsModels", spec := "runsModels", unfollowed := true, recurses := true, apart := false }
def RunsModelsSaid : Prop := runsModelsRow.holds Try.pinned (OpenSpec.ofChange runsModelsSpec)

/-- ITS FALSE NEIGHBOUR: 'it returns false'. Refute it at one input. -/
def runsModelsWrong : ChangeSpec := { name := "runsModels", fn := fun _ => fun
  | [d1, d2] => { results := [.lit (.bool false)], args := [d1, d2] }
  | _ => none }
def RunsModelsWrongFalsely : Prop := runsModelsRow.holds Try.pinned (OpenSpec.ofChange runsModelsWrong)

/-- 'wittinglaw53.RunsChanges': WHATEVER THE INPUT: true; the input reads as it did. -/
def runsChangesSpec : ChangeSpec := { name := "runsChanges", fn := fun _ => fun
  | [d1, d2] => { results := [.lit (.bool true)], args := [d1, d2] }
  | _ => none }
def runsChangesRow : OpenClaim := { program := "ythohheekakbpbaa", sum := "b88b3cc18e3bb04abbfaf205e40e7b9e71da2097bb1214a1c8977e93a4e1c010", func := "witting/wittinglaw53.RunsChanges", spec := "runsChanges", unfollowed := true, recurses := true, apart := false }
def RunsChangesSaid : Prop := runsChangesRow.holds Try.pinned (OpenSpec.ofChange runsChangesSpec)

/-- ITS FALSE NEIGHBOUR: 'it returns false'. Refute it at one input. -/
def runsChangesWrong : ChangeSpec := { name := "runsChanges", fn := fun _ => fun
  | [d1, d2] => { results := [.lit (.bool false)], args := [d1, d2] }
  | _ => none }
def RunsChangesWrongFalsely : Prop := runsChangesRow.holds Try.pinned (OpenSpec.ofChange runsChangesWrong)

/-- 'wittinglaw53.RunsClasses': WHATEVER THE INPUT: true; the input reads as it did. -/
def runsClassesSpec : ChangeSpec := { name := "runsClasses", fn := fun _ => fun
  | [d] => { results := [.lit (.bool true)], args := [d] }
  | _ => none }
def runsClassesRow : OpenClaim := { program := "ythohheekakbpbaa", sum := "b88b3cc18e3bb04abbfaf205e40e7b9e71da2097bb1214a1c8977e93a4e1c010", func := "witting/wittinglaw53.RunsClasses", spec := "runsClasses", unfollowed := true, recurses := true, apart := false }
def RunsClassesSaid : Prop := runsClassesRow.holds Try.pinned (OpenSpec.ofChange runsClassesSpec)

/-- ITS FALSE NEIGHBOUR: 'it returns false'. Refute it at one input. -/
def runsClassesWrong : ChangeSpec := { name := "runsClasses", fn := fun _ => fun
  | [d] => { results := [.lit (.bool false)], args := [d] }
  | _ => none }
def RunsClassesWrongFalsely : Prop := runsClassesRow.holds Try.pinned (OpenSpec.ofChange runsClassesWrong)

/-- 'wittinglaw53.RunsTimes': WHATEVER THE INPUT: true; the input reads as it did. -/
def runsTimesSpec : ChangeSpec := { name := "runsTimes", fn := fun _ => fun
  | [d] => { results := [.lit (.bool true)], args := [d] }
  | _ => none }
def runsTimesRow : OpenClaim := { program := "ythohheekakbpbaa", sum := "b88b3cc18e3bb04abbfaf205e40e7b9e71da2097bb1214a1c8977e93a4e1c010", func := "witting/wittinglaw53.RunsTimes", spec := "runsTimes", unfollowed := true, recurses := true, apart := false }
def RunsTimesSaid : Prop := runsTimesRow.holds Try.pinned (OpenSpec.ofChange runsTimesSpec)

/-- ITS FALSE NEIGHBOUR: 'it returns false'. Refute it at one input. -/
def runsTimesWrong : ChangeSpec := { name := "runsTimes", fn := fun _ => fun
  | [d] => { results := [.lit (.bool false)], args := [d] }
  | _ => none }
def RunsTimesWrongFalsely : Prop := runsTimesRow.holds Try.pinned (OpenSpec.ofChange runsTimesWrong)

/-- 'wittinglaw53.RunsPast': WHATEVER THE INPUT: true; the input reads as it did. -/
def runsPastSpec : ChangeSpec := { name := "runsPast", fn := fun _ => fun
  | [d] => { results := [.lit (.bool true)], args := [d] }
  | _ => none }
def runsPastRow : OpenClaim := { program := "ythohheekakbpbaa", sum := "b88b3cc18e3bb04abbfaf205e40e7b9e71da2097bb1214a1c8977e93a4e1c010", func := "witting/wittinglaw53.RunsPast", spec := "runsPast", unfollowed := true, recurses := true, apart := false }
def RunsPastSaid : Prop := runsPastRow.holds Try.pinned (OpenSpec.ofChange runsPastSpec)

/-- ITS FALSE NEIGHBOUR: 'it returns false'. Refute it at one input. -/
def runsPastWrong : ChangeSpec := { name := "runsPast", fn := fun _ => fun
  | [d] => { results := [.lit (.bool false)], args := [d] }
  | _ => none }
def RunsPastWrongFalsely : Prop := runsPastRow.holds Try.pinned (OpenSpec.ofChange runsPastWrong)

/- THE SECOND FORM. 'bulk': how many values and letters a reading holds, each counted each time it is reached (what is shared counts as often as it is met; a slice's spare places count too). A statement '..UptoSaid' is the law's where the arguments, and the package variables that the reading takes, are together of bulk at most 1048576: NARROWER than '..Said'. Prove '..Said' where nothing that the law and all that it calls make is longer than what came in: it says more and counts as full. Else prove '..UptoSaid'. A law counts once. -/
mutual
def uptoBulk {H : Type} : DataW H → Nat
  | .lit (.string bytes) => bytes.length + 1
  | .lit _ => 1
  | .nil => 1
  | .ptr d => uptoBulk d + 1
  | .slice elems spare => uptoBulkAll elems + uptoBulkAll spare + 1
  | .agg parts => uptoBulkAll parts + 1
  | .iface _ d => uptoBulk d + 1
  | .map entries => uptoBulkEntries entries + 1
  | .held _ => 1
def uptoBulkAll {H : Type} : List (DataW H) → Nat
  | [] => 0
  | d :: r => uptoBulk d + uptoBulkAll r
def uptoBulkEntries {H : Type} : List (Lit × DataW H) → Nat
  | [] => 0
  | x :: r => uptoBulkEntry x + uptoBulkEntries r
def uptoBulkEntry {H : Type} : Lit × DataW H → Nat
  | (.string bytes, d) => bytes.length + uptoBulk d + 1
  | (_, d) => uptoBulk d + 1
 end
def uptoSmall : (H : Type) → List (DataW H) → Bool := fun _ ds => decide (uptoBulkAll ds ≤ 1048576)
def OpenSpec.upto (s : _root_.Go.ChangeSpec) : _root_.Go.OpenSpec := { _root_.Go.OpenSpec.ofChange s with cond := some uptoSmall }

/-- 'wittinglaw53.RunsModels', WHERE WHAT IT READS IS OF BULK AT MOST 1048576: true; the input reads as it did. -/
def runsModelsUptoRow : OpenClaim := { program := "ythohheekakbpbaa", sum := "b88b3cc18e3bb04abbfaf205e40e7b9e71da2097bb1214a1c8977e93a4e1c010", func := "witting/wittinglaw53.RunsModels", spec := "runsModels", unfollowed := true, recurses := true, apart := false, narrowed := true }
def RunsModelsUptoSaid : Prop := runsModelsUptoRow.holds Try.pinned (OpenSpec.upto runsModelsSpec)

/-- 'wittinglaw53.RunsChanges', WHERE WHAT IT READS IS OF BULK AT MOST 1048576: true; the input reads as it did. -/
def runsChangesUptoRow : OpenClaim := { program := "ythohheekakbpbaa", sum := "b88b3cc18e3bb04abbfaf205e40e7b9e71da2097bb1214a1c8977e93a4e1c010", func := "witting/wittinglaw53.RunsChanges", spec := "runsChanges", unfollowed := true, recurses := true, apart := false, narrowed := true }
def RunsChangesUptoSaid : Prop := runsChangesUptoRow.holds Try.pinned (OpenSpec.upto runsChangesSpec)

/-- 'wittinglaw53.RunsClasses', WHERE WHAT IT READS IS OF BULK AT MOST 1048576: true; the input reads as it did. -/
def runsClassesUptoRow : OpenClaim := { program := "ythohheekakbpbaa", sum := "b88b3cc18e3bb04abbfaf205e40e7b9e71da2097bb1214a1c8977e93a4e1c010", func := "witting/wittinglaw53.RunsClasses", spec := "runsClasses", unfollowed := true, recurses := true, apart := false, narrowed := true }
def RunsClassesUptoSaid : Prop := runsClassesUptoRow.holds Try.pinned (OpenSpec.upto runsClassesSpec)

/-- 'wittinglaw53.RunsTimes', WHERE WHAT IT READS IS OF BULK AT MOST 1048576: true; the input reads as it did. -/
def runsTimesUptoRow : OpenClaim := { program := "ythohheekakbpbaa", sum := "b88b3cc18e3bb04abbfaf205e40e7b9e71da2097bb1214a1c8977e93a4e1c010", func := "witting/wittinglaw53.RunsTimes", spec := "runsTimes", unfollowed := true, recurses := true, apart := false, narrowed := true }
def RunsTimesUptoSaid : Prop := runsTimesUptoRow.holds Try.pinned (OpenSpec.upto runsTimesSpec)

/-- 'wittinglaw53.RunsPast', WHERE WHAT IT READS IS OF BULK AT MOST 1048576: true; the input reads as it did. -/
def runsPastUptoRow : OpenClaim := { program := "ythohheekakbpbaa", sum := "b88b3cc18e3bb04abbfaf205e40e7b9e71da2097bb1214a1c8977e93a4e1c010", func := "witting/wittinglaw53.RunsPast", spec := "runsPast", unfollowed := true, recurses := true, apart := false, narrowed := true }
def RunsPastUptoSaid : Prop := runsPastUptoRow.holds Try.pinned (OpenSpec.upto runsPastSpec)

end Rows
end Go.Proofs.Ythohheekakbpbaa
