/-
  No cell of these rows narrows 'for every input' (looked for: loops, veiled, ifaces, maps, wideKeys, modest, calm, conditions, laid).
  DERIVED. THE GIVEN ROWS OF THIS SEAT. 7 by the template 'for every input the law returns true; each argument reads behind the call as it read before'; 0 by the template 'total and deterministic' (their statements: YtjaohaomninnlaaTotals.lean).
  GIVEN WITH THE SEED: the statements are not yours to turn. If you find one false, say at which input.
  Laid BY PROGRAM, IN A SANDBOX (cutbox-rows.mjs): the forced cells as the released guide's own fill.sh prints them over the translation d9491c4e3096d02a… (all of the seat's roots in one cut). By AI agents, Wed Nov 11 2026. No macro, syntax, notation, axiom, sorry.
-/
import Derived.Test.YtjaohaomninnlaaChecked
import GoSem.Claim
import GoSem.ClaimJoined
import GoSem.ClaimMapViews
import Derived.JoinedTies
import Derived.KernelRfl
namespace Go.Proofs.Ytjaohaomninnlaa
/- THE CELL 'sum', in the pinned program and in every row, IS THE sha256 OF THE DUMP (.gsa) THAT YtjaohaomninnlaaProg.lean LOADS. Nothing in Lean hashes anything: it is a label: what it is worth is what the hold of that sum in a sandbox is worth. -/
noncomputable def Try.pinned : Pinned := { name := "ytjaohaomninnlaa", sum := "d9491c4e3096d02ab7feb7603b54e881b44759af9f1ded57b0b6c488ae667d80", checked := Try.checked }
namespace Rows
def none {H : Type} : Left H := { results := [], args := [] }

/-- 'wittinglaw42.MergingMerges': WHATEVER THE INPUT: true; the input reads as it did. -/
def mergingMergesSpec : ChangeSpec := { name := "mergingMerges", fn := fun _ => fun
  | [d1, d2, d3] => { results := [.lit (.bool true)], args := [d1, d2, d3] }
  | _ => none }
def mergingMergesRow : OpenClaim := { program := "ytjaohaomninnlaa", sum := "d9491c4e3096d02ab7feb7603b54e881b44759af9f1ded57b0b6c488ae667d80", func := "witting/wittinglaw42.MergingMerges", spec := "mergingMerges", unfollowed := true, recurses := true, apart := false }
def MergingMergesSaid : Prop := mergingMergesRow.holds Try.pinned (OpenSpec.ofChange mergingMergesSpec)

/-- ITS FALSE NEIGHBOUR: 'it returns false'. Refute it at one input. -/
def mergingMergesWrong : ChangeSpec := { name := "mergingMerges", fn := fun _ => fun
  | [d1, d2, d3] => { results := [.lit (.bool false)], args := [d1, d2, d3] }
  | _ => none }
def MergingMergesWrongFalsely : Prop := mergingMergesRow.holds Try.pinned (OpenSpec.ofChange mergingMergesWrong)

/-- 'wittinglaw42.MergingMajority': WHATEVER THE INPUT: true; the input reads as it did. -/
def mergingMajoritySpec : ChangeSpec := { name := "mergingMajority", fn := fun _ => fun
  | [d1, d2, d3] => { results := [.lit (.bool true)], args := [d1, d2, d3] }
  | _ => none }
def mergingMajorityRow : OpenClaim := { program := "ytjaohaomninnlaa", sum := "d9491c4e3096d02ab7feb7603b54e881b44759af9f1ded57b0b6c488ae667d80", func := "witting/wittinglaw42.MergingMajority", spec := "mergingMajority", unfollowed := true, recurses := true, apart := false }
def MergingMajoritySaid : Prop := mergingMajorityRow.holds Try.pinned (OpenSpec.ofChange mergingMajoritySpec)

/-- ITS FALSE NEIGHBOUR: 'it returns false'. Refute it at one input. -/
def mergingMajorityWrong : ChangeSpec := { name := "mergingMajority", fn := fun _ => fun
  | [d1, d2, d3] => { results := [.lit (.bool false)], args := [d1, d2, d3] }
  | _ => none }
def MergingMajorityWrongFalsely : Prop := mergingMajorityRow.holds Try.pinned (OpenSpec.ofChange mergingMajorityWrong)

/-- 'wittinglaw42.MergingJoins': WHATEVER THE INPUT: true; the input reads as it did. -/
def mergingJoinsSpec : ChangeSpec := { name := "mergingJoins", fn := fun _ => fun
  | [d1, d2, d3] => { results := [.lit (.bool true)], args := [d1, d2, d3] }
  | _ => none }
def mergingJoinsRow : OpenClaim := { program := "ytjaohaomninnlaa", sum := "d9491c4e3096d02ab7feb7603b54e881b44759af9f1ded57b0b6c488ae667d80", func := "witting/wittinglaw42.MergingJoins", spec := "mergingJoins", unfollowed := true, recurses := true, apart := false }
def MergingJoinsSaid : Prop := mergingJoinsRow.holds Try.pinned (OpenSpec.ofChange mergingJoinsSpec)

/-- ITS FALSE NEIGHBOUR: 'it returns false'. Refute it at one input. -/
def mergingJoinsWrong : ChangeSpec := { name := "mergingJoins", fn := fun _ => fun
  | [d1, d2, d3] => { results := [.lit (.bool false)], args := [d1, d2, d3] }
  | _ => none }
def MergingJoinsWrongFalsely : Prop := mergingJoinsRow.holds Try.pinned (OpenSpec.ofChange mergingJoinsWrong)

/-- 'wittinglaw42.MergingNarrows': WHATEVER THE INPUT: true; the input reads as it did. -/
def mergingNarrowsSpec : ChangeSpec := { name := "mergingNarrows", fn := fun _ => fun
  | [d1, d2, d3] => { results := [.lit (.bool true)], args := [d1, d2, d3] }
  | _ => none }
def mergingNarrowsRow : OpenClaim := { program := "ytjaohaomninnlaa", sum := "d9491c4e3096d02ab7feb7603b54e881b44759af9f1ded57b0b6c488ae667d80", func := "witting/wittinglaw42.MergingNarrows", spec := "mergingNarrows", unfollowed := true, recurses := true, apart := false }
def MergingNarrowsSaid : Prop := mergingNarrowsRow.holds Try.pinned (OpenSpec.ofChange mergingNarrowsSpec)

/-- ITS FALSE NEIGHBOUR: 'it returns false'. Refute it at one input. -/
def mergingNarrowsWrong : ChangeSpec := { name := "mergingNarrows", fn := fun _ => fun
  | [d1, d2, d3] => { results := [.lit (.bool false)], args := [d1, d2, d3] }
  | _ => none }
def MergingNarrowsWrongFalsely : Prop := mergingNarrowsRow.holds Try.pinned (OpenSpec.ofChange mergingNarrowsWrong)

/-- 'wittinglaw42.MergingRanks': WHATEVER THE INPUT: true; the input reads as it did. -/
def mergingRanksSpec : ChangeSpec := { name := "mergingRanks", fn := fun _ => fun
  | [d1, d2, d3] => { results := [.lit (.bool true)], args := [d1, d2, d3] }
  | _ => none }
def mergingRanksRow : OpenClaim := { program := "ytjaohaomninnlaa", sum := "d9491c4e3096d02ab7feb7603b54e881b44759af9f1ded57b0b6c488ae667d80", func := "witting/wittinglaw42.MergingRanks", spec := "mergingRanks", unfollowed := true, recurses := true, apart := false }
def MergingRanksSaid : Prop := mergingRanksRow.holds Try.pinned (OpenSpec.ofChange mergingRanksSpec)

/-- ITS FALSE NEIGHBOUR: 'it returns false'. Refute it at one input. -/
def mergingRanksWrong : ChangeSpec := { name := "mergingRanks", fn := fun _ => fun
  | [d1, d2, d3] => { results := [.lit (.bool false)], args := [d1, d2, d3] }
  | _ => none }
def MergingRanksWrongFalsely : Prop := mergingRanksRow.holds Try.pinned (OpenSpec.ofChange mergingRanksWrong)

/-- 'wittinglaw42.MergingAgrees': WHATEVER THE INPUT: true; the input reads as it did. -/
def mergingAgreesSpec : ChangeSpec := { name := "mergingAgrees", fn := fun _ => fun
  | [d1, d2, d3] => { results := [.lit (.bool true)], args := [d1, d2, d3] }
  | _ => none }
def mergingAgreesRow : OpenClaim := { program := "ytjaohaomninnlaa", sum := "d9491c4e3096d02ab7feb7603b54e881b44759af9f1ded57b0b6c488ae667d80", func := "witting/wittinglaw42.MergingAgrees", spec := "mergingAgrees", unfollowed := true, recurses := true, apart := false }
def MergingAgreesSaid : Prop := mergingAgreesRow.holds Try.pinned (OpenSpec.ofChange mergingAgreesSpec)

/-- ITS FALSE NEIGHBOUR: 'it returns false'. Refute it at one input. -/
def mergingAgreesWrong : ChangeSpec := { name := "mergingAgrees", fn := fun _ => fun
  | [d1, d2, d3] => { results := [.lit (.bool false)], args := [d1, d2, d3] }
  | _ => none }
def MergingAgreesWrongFalsely : Prop := mergingAgreesRow.holds Try.pinned (OpenSpec.ofChange mergingAgreesWrong)

/-- 'wittinglaw42.MergingFair': WHATEVER THE INPUT: true; the input reads as it did. -/
def mergingFairSpec : ChangeSpec := { name := "mergingFair", fn := fun _ => fun
  | [d1, d2, d3] => { results := [.lit (.bool true)], args := [d1, d2, d3] }
  | _ => none }
def mergingFairRow : OpenClaim := { program := "ytjaohaomninnlaa", sum := "d9491c4e3096d02ab7feb7603b54e881b44759af9f1ded57b0b6c488ae667d80", func := "witting/wittinglaw42.MergingFair", spec := "mergingFair", unfollowed := true, recurses := true, apart := false }
def MergingFairSaid : Prop := mergingFairRow.holds Try.pinned (OpenSpec.ofChange mergingFairSpec)

/-- ITS FALSE NEIGHBOUR: 'it returns false'. Refute it at one input. -/
def mergingFairWrong : ChangeSpec := { name := "mergingFair", fn := fun _ => fun
  | [d1, d2, d3] => { results := [.lit (.bool false)], args := [d1, d2, d3] }
  | _ => none }
def MergingFairWrongFalsely : Prop := mergingFairRow.holds Try.pinned (OpenSpec.ofChange mergingFairWrong)

/- THE SECOND FORM. 'bulk': how many values and letters a reading holds, each counted each time it is reached (what is shared counts as often as it is met; a slice's spare places count too). A statement '..UptoSaid' is the law's where the arguments, and the package variables that the reading takes, are together of bulk at most 1048576: NARROWER than '..Said'. Prove '..Said' where nothing that the law and all that it calls make is longer than what came in: it says more and counts as full. Else prove '..UptoSaid'. A law counts once. -/
mutual
def uptoBulk {H : Type} : DataW H → Nat
  | .lit (.string bytes) => bytes.length + 1
  | .lit _ => 1
  | .nil => 1
  | .ptr d => uptoBulk d + 1
  | .slice elems spare => uptoBulkAll elems + uptoBulkAll spare + 1
  | .agg parts => uptoBulkAll parts + 1
  | .iface _ d => uptoBulk d + 1
  | .map entries => uptoBulkEntries entries + 1
  | .held _ => 1
def uptoBulkAll {H : Type} : List (DataW H) → Nat
  | [] => 0
  | d :: r => uptoBulk d + uptoBulkAll r
def uptoBulkEntries {H : Type} : List (Lit × DataW H) → Nat
  | [] => 0
  | x :: r => uptoBulkEntry x + uptoBulkEntries r
def uptoBulkEntry {H : Type} : Lit × DataW H → Nat
  | (.string bytes, d) => bytes.length + uptoBulk d + 1
  | (_, d) => uptoBulk d + 1
 end
def uptoSmall : (H : Type) → List (DataW H) → Bool := fun _ ds => decide (uptoBulkAll ds ≤ 1048576)
def OpenSpec.upto (s : _root_.Go.ChangeSpec) : _root_.Go.OpenSpec := { _root_.Go.OpenSpec.ofChange s with cond := some uptoSmall }

/-- 'wittinglaw42.MergingMerges', WHERE WHAT IT READS IS OF BULK AT MOST 1048576: true; the input reads as it did. -/
def mergingMergesUptoRow : OpenClaim := { program := "ytjaohaomninnlaa", sum := "d9491c4e3096d02ab7feb7603b54e881b44759af9f1ded57b0b6c488ae667d80", func := "witting/wittinglaw42.MergingMerges", spec := "mergingMerges", unfollowed := true, recurses := true, apart := false, narrowed := true }
def MergingMergesUptoSaid : Prop := mergingMergesUptoRow.holds Try.pinned (OpenSpec.upto mergingMergesSpec)

/-- 'wittinglaw42.MergingMajority', WHERE WHAT IT READS IS OF BULK AT MOST 1048576: true; the input reads as it did. -/
def mergingMajorityUptoRow : OpenClaim := { program := "ytjaohaomninnlaa", sum := "d9491c4e3096d02ab7feb7603b54e881b44759af9f1ded57b0b6c488ae667d80", func := "witting/wittinglaw42.MergingMajority", spec := "mergingMajority", unfollowed := true, recurses := true, apart := false, narrowed := true }
def MergingMajorityUptoSaid : Prop := mergingMajorityUptoRow.holds Try.pinned (OpenSpec.upto mergingMajoritySpec)

/-- 'wittinglaw42.MergingJoins', WHERE WHAT IT READS IS OF BULK AT MOST 1048576: true; the input reads as it did. -/
def mergingJoinsUptoRow : OpenClaim := { program := "ytjaohaomninnlaa", sum := "d9491c4e3096d02ab7feb7603b54e881b44759af9f1ded57b0b6c488ae667d80", func := "witting/wittinglaw42.MergingJoins", spec := "mergingJoins", unfollowed := true, recurses := true, apart := false, narrowed := true }
def MergingJoinsUptoSaid : Prop := mergingJoinsUptoRow.holds Try.pinned (OpenSpec.upto mergingJoinsSpec)

/-- 'wittinglaw42.MergingNarrows', WHERE WHAT IT READS IS OF BULK AT MOST 1048576: true; the input reads as it did. -/
def mergingNarrowsUptoRow : OpenClaim := { program := "ytjaohaomninnlaa", sum := "d9491c4e3096d02ab7feb7603b54e881b44759af9f1ded57b0b6c488ae667d80", func := "witting/wittinglaw42.MergingNarrows", spec := "mergingNarrows", unfollowed := true, recurses := true, apart := false, narrowed := true }
def MergingNarrowsUptoSaid : Prop := mergingNarrowsUptoRow.holds Try.pinned (OpenSpec.upto mergingNarrowsSpec)

/-- 'wittinglaw42.MergingRanks', WHERE WHAT IT READS IS OF BULK AT MOST 1048576: true; the input reads as it did. -/
def mergingRanksUptoRow : OpenClaim := { program := "ytjaohaomninnlaa", sum := "d9491c4e3096d02ab7feb7603b54e881b44759af9f1ded57b0b6c488ae667d80", func := "witting/wittinglaw42.MergingRanks", spec := "mergingRanks", unfollowed := true, recurses := true, apart := false, narrowed := true }
def MergingRanksUptoSaid : Prop := mergingRanksUptoRow.holds Try.pinned (OpenSpec.upto mergingRanksSpec)

/-- 'wittinglaw42.MergingAgrees', WHERE WHAT IT READS IS OF BULK AT MOST 1048576: true; the input reads as it did. -/
def mergingAgreesUptoRow : OpenClaim := { program := "ytjaohaomninnlaa", sum := "d9491c4e3096d02ab7feb7603b54e881b44759af9f1ded57b0b6c488ae667d80", func := "witting/wittinglaw42.MergingAgrees", spec := "mergingAgrees", unfollowed := true, recurses := true, apart := false, narrowed := true }
def MergingAgreesUptoSaid : Prop := mergingAgreesUptoRow.holds Try.pinned (OpenSpec.upto mergingAgreesSpec)

/-- 'wittinglaw42.MergingFair', WHERE WHAT IT READS IS OF BULK AT MOST 1048576: true; the input reads as it did. -/
def mergingFairUptoRow : OpenClaim := { program := "ytjaohaomninnlaa", sum := "d9491c4e3096d02ab7feb7603b54e881b44759af9f1ded57b0b6c488ae667d80", func := "witting/wittinglaw42.MergingFair", spec := "mergingFair", unfollowed := true, recurses := true, apart := false, narrowed := true }
def MergingFairUptoSaid : Prop := mergingFairUptoRow.holds Try.pinned (OpenSpec.upto mergingFairSpec)

end Rows
end Go.Proofs.Ytjaohaomninnlaa
