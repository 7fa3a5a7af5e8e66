/-
  No cell of these rows narrows 'for every input' (looked for: loops, veiled, ifaces, maps, wideKeys, modest, calm, conditions, laid).
  DERIVED. THE GIVEN ROWS OF THIS SEAT. 2 by the template 'for every input the law returns true; each argument reads behind the call as it read before'; 0 by the template 'total and deterministic' (their statements: YtccobgpcnfjbhaaTotals.lean).
  GIVEN WITH THE SEED: the statements are not yours to turn. If you find one false, say at which input.
  Laid BY PROGRAM, IN A SANDBOX (cutbox-rows.mjs): the forced cells as the released guide's own fill.sh prints them over the translation 3dd681dbde1c40ff… (all of the seat's roots in one cut). By AI agents, Wed Nov 11 2026. No macro, syntax, notation, axiom, sorry.
-/
import Derived.Test.YtccobgpcnfjbhaaChecked
import GoSem.Claim
import GoSem.ClaimJoined
import GoSem.ClaimMapViews
import Derived.JoinedTies
import Derived.KernelRfl
namespace Go.Proofs.Ytccobgpcnfjbhaa
/- THE CELL 'sum', in the pinned program and in every row, IS THE sha256 OF THE DUMP (.gsa) THAT YtccobgpcnfjbhaaProg.lean LOADS. Nothing in Lean hashes anything: it is a label: what it is worth is what the hold of that sum in a sandbox is worth. -/
noncomputable def Try.pinned : Pinned := { name := "ytccobgpcnfjbhaa", sum := "3dd681dbde1c40ff8ba6bf1eda8dc1fab4f33b70854cef1e8135b9a98e47789b", checked := Try.checked }
namespace Rows
def none {H : Type} : Left H := { results := [], args := [] }

/-- 'wittingtop.TopMutualDepth': WHATEVER THE INPUT: true; the input reads as it did. -/
def topMutualDepthSpec : ChangeSpec := { name := "topMutualDepth", fn := fun _ => fun
  | [d] => { results := [.lit (.bool true)], args := [d] }
  | _ => none }
def topMutualDepthRow : OpenClaim := { program := "ytccobgpcnfjbhaa", sum := "3dd681dbde1c40ff8ba6bf1eda8dc1fab4f33b70854cef1e8135b9a98e47789b", func := "witting/wittingtop.TopMutualDepth", spec := "topMutualDepth", unfollowed := true, recurses := true, plainKeys := false, apart := false }
def TopMutualDepthSaid : Prop := topMutualDepthRow.holds Try.pinned (OpenSpec.ofChange topMutualDepthSpec)

/-- ITS FALSE NEIGHBOUR: 'it returns false'. Refute it at one input. -/
def topMutualDepthWrong : ChangeSpec := { name := "topMutualDepth", fn := fun _ => fun
  | [d] => { results := [.lit (.bool false)], args := [d] }
  | _ => none }
def TopMutualDepthWrongFalsely : Prop := topMutualDepthRow.holds Try.pinned (OpenSpec.ofChange topMutualDepthWrong)

/-- 'wittinglaw53.RunsChanges': WHATEVER THE INPUT: true; the input reads as it did. -/
def runsChangesSpec : ChangeSpec := { name := "runsChanges", fn := fun _ => fun
  | [d1, d2] => { results := [.lit (.bool true)], args := [d1, d2] }
  | _ => none }
def runsChangesRow : OpenClaim := { program := "ytccobgpcnfjbhaa", sum := "3dd681dbde1c40ff8ba6bf1eda8dc1fab4f33b70854cef1e8135b9a98e47789b", func := "witting/wittinglaw53.RunsChanges", spec := "runsChanges", unfollowed := true, recurses := true, plainKeys := false, apart := false }
def RunsChangesSaid : Prop := runsChangesRow.holds Try.pinned (OpenSpec.ofChange runsChangesSpec)

/-- ITS FALSE NEIGHBOUR: 'it returns false'. Refute it at one input. -/
def runsChangesWrong : ChangeSpec := { name := "runsChanges", fn := fun _ => fun
  | [d1, d2] => { results := [.lit (.bool false)], args := [d1, d2] }
  | _ => none }
def RunsChangesWrongFalsely : Prop := runsChangesRow.holds Try.pinned (OpenSpec.ofChange runsChangesWrong)

/- THE SECOND FORM. 'bulk': how many values and letters a reading holds, each counted each time it is reached (what is shared counts as often as it is met; a slice's spare places count too). A statement '..UptoSaid' is the law's where the arguments, and the package variables that the reading takes, are together of bulk at most 1048576: NARROWER than '..Said'. Prove '..Said' where nothing that the law and all that it calls make is longer than what came in: it says more and counts as full. Else prove '..UptoSaid'. A law counts once. -/
mutual
def uptoBulk {H : Type} : DataW H → Nat
  | .lit (.string bytes) => bytes.length + 1
  | .lit _ => 1
  | .nil => 1
  | .ptr d => uptoBulk d + 1
  | .slice elems spare => uptoBulkAll elems + uptoBulkAll spare + 1
  | .agg parts => uptoBulkAll parts + 1
  | .iface _ d => uptoBulk d + 1
  | .map entries => uptoBulkEntries entries + 1
  | .held _ => 1
def uptoBulkAll {H : Type} : List (DataW H) → Nat
  | [] => 0
  | d :: r => uptoBulk d + uptoBulkAll r
def uptoBulkEntries {H : Type} : List (Lit × DataW H) → Nat
  | [] => 0
  | x :: r => uptoBulkEntry x + uptoBulkEntries r
def uptoBulkEntry {H : Type} : Lit × DataW H → Nat
  | (.string bytes, d) => bytes.length + uptoBulk d + 1
  | (_, d) => uptoBulk d + 1
 end
def uptoSmall : (H : Type) → List (DataW H) → Bool := fun _ ds => decide (uptoBulkAll ds ≤ 1048576)
def OpenSpec.upto (s : _root_.Go.ChangeSpec) : _root_.Go.OpenSpec := { _root_.Go.OpenSpec.ofChange s with cond := some uptoSmall }

/-- 'wittingtop.TopMutualDepth', WHERE WHAT IT READS IS OF BULK AT MOST 1048576: true; the input reads as it did. -/
def topMutualDepthUptoRow : OpenClaim := { program := "ytccobgpcnfjbhaa", sum := "3dd681dbde1c40ff8ba6bf1eda8dc1fab4f33b70854cef1e8135b9a98e47789b", func := "witting/wittingtop.TopMutualDepth", spec := "topMutualDepth", unfollowed := true, recurses := true, plainKeys := false, apart := false, narrowed := true }
def TopMutualDepthUptoSaid : Prop := topMutualDepthUptoRow.holds Try.pinned (OpenSpec.upto topMutualDepthSpec)

/-- 'wittinglaw53.RunsChanges', WHERE WHAT IT READS IS OF BULK AT MOST 1048576: true; the input reads as it did. -/
def runsChangesUptoRow : OpenClaim := { program := "ytccobgpcnfjbhaa", sum := "3dd681dbde1c40ff8ba6bf1eda8dc1fab4f33b70854cef1e8135b9a98e47789b", func := "witting/wittinglaw53.RunsChanges", spec := "runsChanges", unfollowed := true, recurses := true, plainKeys := false, apart := false, narrowed := true }
def RunsChangesUptoSaid : Prop := runsChangesUptoRow.holds Try.pinned (OpenSpec.upto runsChangesSpec)

end Rows
end Go.Proofs.Ytccobgpcnfjbhaa
