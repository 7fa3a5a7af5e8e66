/-
  No cell of these rows narrows 'for every input' (looked for: loops, veiled, ifaces, maps, wideKeys, modest, calm, conditions, laid).
  DERIVED. THE GIVEN ROWS OF THIS SEAT. 4 by the template 'for every input the law returns true; each argument reads behind the call as it read before'; 0 by the template 'total and deterministic' (their statements: YtjklmijiccabfaaGreatTotals.lean).
  GIVEN WITH THE SEED: the statements are not yours to turn. If you find one false, say at which input.
  Laid BY PROGRAM, IN A SANDBOX (cutbox-rows.mjs): the forced cells as the released guide's own fill.sh prints them over the translation fd3d083274ae22f5… (all of the seat's roots in one cut). By AI agents, Wed Nov 11 2026. No macro, syntax, notation, axiom, sorry.
-/
import Derived.Test.YtjklmijiccabfaaGreatChecked
import GoSem.Claim
import GoSem.ClaimJoined
import GoSem.ClaimMapViews
import Derived.JoinedTies
import Derived.KernelRfl
namespace Go.Proofs.YtjklmijiccabfaaGreat
/- THE CELL 'sum', in the pinned program and in every row, IS THE sha256 OF THE DUMP (.gsa) THAT YtjklmijiccabfaaGreatProg.lean LOADS. Nothing in Lean hashes anything: it is a label: what it is worth is what the hold of that sum in a sandbox is worth. -/
noncomputable def Tryz.pinned : Pinned := { name := "ytjklmijiccabfaagreat", sum := "fd3d083274ae22f5e1d2256519a0f6b5048192eb1a2aeb6cebce0d4fc76b7aa9", checked := Tryz.checked }
namespace Rows
def none {H : Type} : Left H := { results := [], args := [] }

/-- 'wittinglaw55.TemporalKnows': WHATEVER THE INPUT: true; the input reads as it did. -/
def temporalKnowsSpec : ChangeSpec := { name := "temporalKnows", fn := fun _ => fun
  | [d1, d2, d3] => { results := [.lit (.bool true)], args := [d1, d2, d3] }
  | _ => none }
def temporalKnowsRow : OpenClaim := { program := "ytjklmijiccabfaagreat", sum := "fd3d083274ae22f5e1d2256519a0f6b5048192eb1a2aeb6cebce0d4fc76b7aa9", func := "witting/wittinglaw55.TemporalKnows", spec := "temporalKnows", unfollowed := true, recurses := true, plainKeys := false, apart := false }
def TemporalKnowsSaid : Prop := temporalKnowsRow.holds Tryz.pinned (OpenSpec.ofChange temporalKnowsSpec)

/-- ITS FALSE NEIGHBOUR: 'it returns false'. Refute it at one input. -/
def temporalKnowsWrong : ChangeSpec := { name := "temporalKnows", fn := fun _ => fun
  | [d1, d2, d3] => { results := [.lit (.bool false)], args := [d1, d2, d3] }
  | _ => none }
def TemporalKnowsWrongFalsely : Prop := temporalKnowsRow.holds Tryz.pinned (OpenSpec.ofChange temporalKnowsWrong)

/-- 'wittinglaw55.TemporalSteps': WHATEVER THE INPUT: true; the input reads as it did. -/
def temporalStepsSpec : ChangeSpec := { name := "temporalSteps", fn := fun _ => fun
  | [d1, d2] => { results := [.lit (.bool true)], args := [d1, d2] }
  | _ => none }
def temporalStepsRow : OpenClaim := { program := "ytjklmijiccabfaagreat", sum := "fd3d083274ae22f5e1d2256519a0f6b5048192eb1a2aeb6cebce0d4fc76b7aa9", func := "witting/wittinglaw55.TemporalSteps", spec := "temporalSteps", unfollowed := true, recurses := true, plainKeys := false, apart := false }
def TemporalStepsSaid : Prop := temporalStepsRow.holds Tryz.pinned (OpenSpec.ofChange temporalStepsSpec)

/-- ITS FALSE NEIGHBOUR: 'it returns false'. Refute it at one input. -/
def temporalStepsWrong : ChangeSpec := { name := "temporalSteps", fn := fun _ => fun
  | [d1, d2] => { results := [.lit (.bool false)], args := [d1, d2] }
  | _ => none }
def TemporalStepsWrongFalsely : Prop := temporalStepsRow.holds Tryz.pinned (OpenSpec.ofChange temporalStepsWrong)

/-- 'wittinglaw55.TemporalUnfolds': WHATEVER THE INPUT: true; the input reads as it did. -/
def temporalUnfoldsSpec : ChangeSpec := { name := "temporalUnfolds", fn := fun _ => fun
  | [d1, d2, d3] => { results := [.lit (.bool true)], args := [d1, d2, d3] }
  | _ => none }
def temporalUnfoldsRow : OpenClaim := { program := "ytjklmijiccabfaagreat", sum := "fd3d083274ae22f5e1d2256519a0f6b5048192eb1a2aeb6cebce0d4fc76b7aa9", func := "witting/wittinglaw55.TemporalUnfolds", spec := "temporalUnfolds", unfollowed := true, recurses := true, plainKeys := false, apart := false }
def TemporalUnfoldsSaid : Prop := temporalUnfoldsRow.holds Tryz.pinned (OpenSpec.ofChange temporalUnfoldsSpec)

/-- ITS FALSE NEIGHBOUR: 'it returns false'. Refute it at one input. -/
def temporalUnfoldsWrong : ChangeSpec := { name := "temporalUnfolds", fn := fun _ => fun
  | [d1, d2, d3] => { results := [.lit (.bool false)], args := [d1, d2, d3] }
  | _ => none }
def TemporalUnfoldsWrongFalsely : Prop := temporalUnfoldsRow.holds Tryz.pinned (OpenSpec.ofChange temporalUnfoldsWrong)

/-- 'wittinglaw55.TemporalRecalls': WHATEVER THE INPUT: true; the input reads as it did. -/
def temporalRecallsSpec : ChangeSpec := { name := "temporalRecalls", fn := fun _ => fun
  | [d1, d2] => { results := [.lit (.bool true)], args := [d1, d2] }
  | _ => none }
def temporalRecallsRow : OpenClaim := { program := "ytjklmijiccabfaagreat", sum := "fd3d083274ae22f5e1d2256519a0f6b5048192eb1a2aeb6cebce0d4fc76b7aa9", func := "witting/wittinglaw55.TemporalRecalls", spec := "temporalRecalls", unfollowed := true, recurses := true, plainKeys := false, apart := false }
def TemporalRecallsSaid : Prop := temporalRecallsRow.holds Tryz.pinned (OpenSpec.ofChange temporalRecallsSpec)

/-- ITS FALSE NEIGHBOUR: 'it returns false'. Refute it at one input. -/
def temporalRecallsWrong : ChangeSpec := { name := "temporalRecalls", fn := fun _ => fun
  | [d1, d2] => { results := [.lit (.bool false)], args := [d1, d2] }
  | _ => none }
def TemporalRecallsWrongFalsely : Prop := temporalRecallsRow.holds Tryz.pinned (OpenSpec.ofChange temporalRecallsWrong)

/- THE SECOND FORM. 'bulk': how many values and letters a reading holds, each counted each time it is reached (what is shared counts as often as it is met; a slice's spare places count too). A statement '..UptoSaid' is the law's where the arguments, and the package variables that the reading takes, are together of bulk at most 1048576: NARROWER than '..Said'. Prove '..Said' where nothing that the law and all that it calls make is longer than what came in: it says more and counts as full. Else prove '..UptoSaid'. A law counts once. -/
mutual
def uptoBulk {H : Type} : DataW H → Nat
  | .lit (.string bytes) => bytes.length + 1
  | .lit _ => 1
  | .nil => 1
  | .ptr d => uptoBulk d + 1
  | .slice elems spare => uptoBulkAll elems + uptoBulkAll spare + 1
  | .agg parts => uptoBulkAll parts + 1
  | .iface _ d => uptoBulk d + 1
  | .map entries => uptoBulkEntries entries + 1
  | .held _ => 1
def uptoBulkAll {H : Type} : List (DataW H) → Nat
  | [] => 0
  | d :: r => uptoBulk d + uptoBulkAll r
def uptoBulkEntries {H : Type} : List (Lit × DataW H) → Nat
  | [] => 0
  | x :: r => uptoBulkEntry x + uptoBulkEntries r
def uptoBulkEntry {H : Type} : Lit × DataW H → Nat
  | (.string bytes, d) => bytes.length + uptoBulk d + 1
  | (_, d) => uptoBulk d + 1
 end
def uptoSmall : (H : Type) → List (DataW H) → Bool := fun _ ds => decide (uptoBulkAll ds ≤ 1048576)
def OpenSpec.upto (s : _root_.Go.ChangeSpec) : _root_.Go.OpenSpec := { _root_.Go.OpenSpec.ofChange s with cond := some uptoSmall }

/-- 'wittinglaw55.TemporalKnows', WHERE WHAT IT READS IS OF BULK AT MOST 1048576: true; the input reads as it did. -/
def temporalKnowsUptoRow : OpenClaim := { program := "ytjklmijiccabfaagreat", sum := "fd3d083274ae22f5e1d2256519a0f6b5048192eb1a2aeb6cebce0d4fc76b7aa9", func := "witting/wittinglaw55.TemporalKnows", spec := "temporalKnows", unfollowed := true, recurses := true, plainKeys := false, apart := false, narrowed := true }
def TemporalKnowsUptoSaid : Prop := temporalKnowsUptoRow.holds Tryz.pinned (OpenSpec.upto temporalKnowsSpec)

/-- 'wittinglaw55.TemporalSteps', WHERE WHAT IT READS IS OF BULK AT MOST 1048576: true; the input reads as it did. -/
def temporalStepsUptoRow : OpenClaim := { program := "ytjklmijiccabfaagreat", sum := "fd3d083274ae22f5e1d2256519a0f6b5048192eb1a2aeb6cebce0d4fc76b7aa9", func := "witting/wittinglaw55.TemporalSteps", spec := "temporalSteps", unfollowed := true, recurses := true, plainKeys := false, apart := false, narrowed := true }
def TemporalStepsUptoSaid : Prop := temporalStepsUptoRow.holds Tryz.pinned (OpenSpec.upto temporalStepsSpec)

/-- 'wittinglaw55.TemporalUnfolds', WHERE WHAT IT READS IS OF BULK AT MOST 1048576: true; the input reads as it did. -/
def temporalUnfoldsUptoRow : OpenClaim := { program := "ytjklmijiccabfaagreat", sum := "fd3d083274ae22f5e1d2256519a0f6b5048192eb1a2aeb6cebce0d4fc76b7aa9", func := "witting/wittinglaw55.TemporalUnfolds", spec := "temporalUnfolds", unfollowed := true, recurses := true, plainKeys := false, apart := false, narrowed := true }
def TemporalUnfoldsUptoSaid : Prop := temporalUnfoldsUptoRow.holds Tryz.pinned (OpenSpec.upto temporalUnfoldsSpec)

/-- 'wittinglaw55.TemporalRecalls', WHERE WHAT IT READS IS OF BULK AT MOST 1048576: true; the input reads as it did. -/
def temporalRecallsUptoRow : OpenClaim := { program := "ytjklmijiccabfaagreat", sum := "fd3d083274ae22f5e1d2256519a0f6b5048192eb1a2aeb6cebce0d4fc76b7aa9", func := "witting/wittinglaw55.TemporalRecalls", spec := "temporalRecalls", unfollowed := true, recurses := true, plainKeys := false, apart := false, narrowed := true }
def TemporalRecallsUptoSaid : Prop := temporalRecallsUptoRow.holds Tryz.pinned (OpenSpec.upto temporalRecallsSpec)

end Rows
end Go.Proofs.YtjklmijiccabfaaGreat
