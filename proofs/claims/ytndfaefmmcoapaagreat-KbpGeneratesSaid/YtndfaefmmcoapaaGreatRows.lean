/-
  No cell of these rows narrows 'for every input' (looked for: loops, veiled, ifaces, maps, wideKeys, modest, calm, conditions, laid).
  DERIVED. THE GIVEN ROWS OF THIS SEAT. 12 by the template 'for every input the law returns true; each argument reads behind the call as it read before'; 0 by the template 'total and deterministic' (their statements: YtndfaefmmcoapaaGreatTotals.lean).
  GIVEN WITH THE SEED: the statements are not yours to turn. If you find one false, say at which input.
  Laid BY PROGRAM, IN A SANDBOX (cutbox-rows.mjs): the forced cells as the released guide's own fill.sh prints them over the translation 75830b4417627332… (all of the seat's roots in one cut). By AI agents, Wed Nov 11 2026. No macro, syntax, notation, axiom, sorry.
-/
import Derived.Test.YtndfaefmmcoapaaGreatChecked
import GoSem.Claim
import GoSem.ClaimJoined
import GoSem.ClaimMapViews
import Derived.JoinedTies
import Derived.KernelRfl
namespace Go.Proofs.YtndfaefmmcoapaaGreat
/- THE CELL 'sum', in the pinned program and in every row, IS THE sha256 OF THE DUMP (.gsa) THAT YtndfaefmmcoapaaGreatProg.lean LOADS. Nothing in Lean hashes anything: it is a label: what it is worth is what the hold of that sum in a sandbox is worth. -/
noncomputable def Tryz.pinned : Pinned := { name := "ytndfaefmmcoapaagreat", sum := "75830b44176273324a47f7682ddd9b11021cf4690d014d40ce78f798c68f5af3", checked := Tryz.checked }
namespace Rows
def none {H : Type} : Left H := { results := [], args := [] }

/-- 'wittinglaw56.KbpChecks': WHATEVER THE INPUT: true; the input reads as it did. -/
def kbpChecksSpec : ChangeSpec := { name := "kbpChecks", fn := fun _ => fun
  | [d] => { results := [.lit (.bool true)], args := [d] }
  | _ => none }
def kbpChecksRow : OpenClaim := { program := "ytndfaefmmcoapaagreat", sum := "75830b44176273324a47f7682ddd9b11021cf4690d014d40ce78f798c68f5af3", func := "witting/wittinglaw56.KbpChecks", spec := "kbpChecks", unfollowed := true, recurses := true, plainKeys := false, apart := false }
def KbpChecksSaid : Prop := kbpChecksRow.holds Tryz.pinned (OpenSpec.ofChange kbpChecksSpec)

/-- ITS FALSE NEIGHBOUR: 'it returns false'. Refute it at one input. -/
def kbpChecksWrong : ChangeSpec := { name := "kbpChecks", fn := fun _ => fun
  | [d] => { results := [.lit (.bool false)], args := [d] }
  | _ => none }
def KbpChecksWrongFalsely : Prop := kbpChecksRow.holds Tryz.pinned (OpenSpec.ofChange kbpChecksWrong)

/-- 'wittinglaw56.KbpPlays': WHATEVER THE INPUT: true; the input reads as it did. -/
def kbpPlaysSpec : ChangeSpec := { name := "kbpPlays", fn := fun _ => fun
  | [d1, d2] => { results := [.lit (.bool true)], args := [d1, d2] }
  | _ => none }
def kbpPlaysRow : OpenClaim := { program := "ytndfaefmmcoapaagreat", sum := "75830b44176273324a47f7682ddd9b11021cf4690d014d40ce78f798c68f5af3", func := "witting/wittinglaw56.KbpPlays", spec := "kbpPlays", unfollowed := true, recurses := true, plainKeys := false, apart := false }
def KbpPlaysSaid : Prop := kbpPlaysRow.holds Tryz.pinned (OpenSpec.ofChange kbpPlaysSpec)

/-- ITS FALSE NEIGHBOUR: 'it returns false'. Refute it at one input. -/
def kbpPlaysWrong : ChangeSpec := { name := "kbpPlays", fn := fun _ => fun
  | [d1, d2] => { results := [.lit (.bool false)], args := [d1, d2] }
  | _ => none }
def KbpPlaysWrongFalsely : Prop := kbpPlaysRow.holds Tryz.pinned (OpenSpec.ofChange kbpPlaysWrong)

/-- 'wittinglaw56.KbpGenerates': WHATEVER THE INPUT: true; the input reads as it did. -/
def kbpGeneratesSpec : ChangeSpec := { name := "kbpGenerates", fn := fun _ => fun
  | [d1, d2, d3] => { results := [.lit (.bool true)], args := [d1, d2, d3] }
  | _ => none }
def kbpGeneratesRow : OpenClaim := { program := "ytndfaefmmcoapaagreat", sum := "75830b44176273324a47f7682ddd9b11021cf4690d014d40ce78f798c68f5af3", func := "witting/wittinglaw56.KbpGenerates", spec := "kbpGenerates", unfollowed := true, recurses := true, plainKeys := false, apart := false }
def KbpGeneratesSaid : Prop := kbpGeneratesRow.holds Tryz.pinned (OpenSpec.ofChange kbpGeneratesSpec)

/-- ITS FALSE NEIGHBOUR: 'it returns false'. Refute it at one input. -/
def kbpGeneratesWrong : ChangeSpec := { name := "kbpGenerates", fn := fun _ => fun
  | [d1, d2, d3] => { results := [.lit (.bool false)], args := [d1, d2, d3] }
  | _ => none }
def KbpGeneratesWrongFalsely : Prop := kbpGeneratesRow.holds Tryz.pinned (OpenSpec.ofChange kbpGeneratesWrong)

/-- 'wittinglaw56.KbpOwn': WHATEVER THE INPUT: true; the input reads as it did. -/
def kbpOwnSpec : ChangeSpec := { name := "kbpOwn", fn := fun _ => fun
  | [d1, d2] => { results := [.lit (.bool true)], args := [d1, d2] }
  | _ => none }
def kbpOwnRow : OpenClaim := { program := "ytndfaefmmcoapaagreat", sum := "75830b44176273324a47f7682ddd9b11021cf4690d014d40ce78f798c68f5af3", func := "witting/wittinglaw56.KbpOwn", spec := "kbpOwn", unfollowed := true, recurses := true, plainKeys := false, apart := false }
def KbpOwnSaid : Prop := kbpOwnRow.holds Tryz.pinned (OpenSpec.ofChange kbpOwnSpec)

/-- ITS FALSE NEIGHBOUR: 'it returns false'. Refute it at one input. -/
def kbpOwnWrong : ChangeSpec := { name := "kbpOwn", fn := fun _ => fun
  | [d1, d2] => { results := [.lit (.bool false)], args := [d1, d2] }
  | _ => none }
def KbpOwnWrongFalsely : Prop := kbpOwnRow.holds Tryz.pinned (OpenSpec.ofChange kbpOwnWrong)

/-- 'wittinglaw56.KbpUnique': WHATEVER THE INPUT: true; the input reads as it did. -/
def kbpUniqueSpec : ChangeSpec := { name := "kbpUnique", fn := fun _ => fun
  | [d1, d2, d3] => { results := [.lit (.bool true)], args := [d1, d2, d3] }
  | _ => none }
def kbpUniqueRow : OpenClaim := { program := "ytndfaefmmcoapaagreat", sum := "75830b44176273324a47f7682ddd9b11021cf4690d014d40ce78f798c68f5af3", func := "witting/wittinglaw56.KbpUnique", spec := "kbpUnique", unfollowed := true, recurses := true, plainKeys := false, apart := false }
def KbpUniqueSaid : Prop := kbpUniqueRow.holds Tryz.pinned (OpenSpec.ofChange kbpUniqueSpec)

/-- ITS FALSE NEIGHBOUR: 'it returns false'. Refute it at one input. -/
def kbpUniqueWrong : ChangeSpec := { name := "kbpUnique", fn := fun _ => fun
  | [d1, d2, d3] => { results := [.lit (.bool false)], args := [d1, d2, d3] }
  | _ => none }
def KbpUniqueWrongFalsely : Prop := kbpUniqueRow.holds Tryz.pinned (OpenSpec.ofChange kbpUniqueWrong)

/-- 'wittinglaw56.KbpSees': WHATEVER THE INPUT: true; the input reads as it did. -/
def kbpSeesSpec : ChangeSpec := { name := "kbpSees", fn := fun _ => fun
  | [d1, d2] => { results := [.lit (.bool true)], args := [d1, d2] }
  | _ => none }
def kbpSeesRow : OpenClaim := { program := "ytndfaefmmcoapaagreat", sum := "75830b44176273324a47f7682ddd9b11021cf4690d014d40ce78f798c68f5af3", func := "witting/wittinglaw56.KbpSees", spec := "kbpSees", unfollowed := true, recurses := true, plainKeys := false, apart := false }
def KbpSeesSaid : Prop := kbpSeesRow.holds Tryz.pinned (OpenSpec.ofChange kbpSeesSpec)

/-- ITS FALSE NEIGHBOUR: 'it returns false'. Refute it at one input. -/
def kbpSeesWrong : ChangeSpec := { name := "kbpSees", fn := fun _ => fun
  | [d1, d2] => { results := [.lit (.bool false)], args := [d1, d2] }
  | _ => none }
def KbpSeesWrongFalsely : Prop := kbpSeesRow.holds Tryz.pinned (OpenSpec.ofChange kbpSeesWrong)

/-- 'wittinglaw56.KbpTells': WHATEVER THE INPUT: true; the input reads as it did. -/
def kbpTellsSpec : ChangeSpec := { name := "kbpTells", fn := fun _ => fun
  | [d] => { results := [.lit (.bool true)], args := [d] }
  | _ => none }
def kbpTellsRow : OpenClaim := { program := "ytndfaefmmcoapaagreat", sum := "75830b44176273324a47f7682ddd9b11021cf4690d014d40ce78f798c68f5af3", func := "witting/wittinglaw56.KbpTells", spec := "kbpTells", unfollowed := true, recurses := true, plainKeys := false, apart := false }
def KbpTellsSaid : Prop := kbpTellsRow.holds Tryz.pinned (OpenSpec.ofChange kbpTellsSpec)

/-- ITS FALSE NEIGHBOUR: 'it returns false'. Refute it at one input. -/
def kbpTellsWrong : ChangeSpec := { name := "kbpTells", fn := fun _ => fun
  | [d] => { results := [.lit (.bool false)], args := [d] }
  | _ => none }
def KbpTellsWrongFalsely : Prop := kbpTellsRow.holds Tryz.pinned (OpenSpec.ofChange kbpTellsWrong)

/-- 'wittinglaw56.KbpRecalls': WHATEVER THE INPUT: true; the input reads as it did. -/
def kbpRecallsSpec : ChangeSpec := { name := "kbpRecalls", fn := fun _ => fun
  | [d1, d2] => { results := [.lit (.bool true)], args := [d1, d2] }
  | _ => none }
def kbpRecallsRow : OpenClaim := { program := "ytndfaefmmcoapaagreat", sum := "75830b44176273324a47f7682ddd9b11021cf4690d014d40ce78f798c68f5af3", func := "witting/wittinglaw56.KbpRecalls", spec := "kbpRecalls", unfollowed := true, recurses := true, plainKeys := false, apart := false }
def KbpRecallsSaid : Prop := kbpRecallsRow.holds Tryz.pinned (OpenSpec.ofChange kbpRecallsSpec)

/-- ITS FALSE NEIGHBOUR: 'it returns false'. Refute it at one input. -/
def kbpRecallsWrong : ChangeSpec := { name := "kbpRecalls", fn := fun _ => fun
  | [d1, d2] => { results := [.lit (.bool false)], args := [d1, d2] }
  | _ => none }
def KbpRecallsWrongFalsely : Prop := kbpRecallsRow.holds Tryz.pinned (OpenSpec.ofChange kbpRecallsWrong)

/-- 'wittingtop.TopProgramRuns': WHATEVER THE INPUT: true; the input reads as it did. -/
def topProgramRunsSpec : ChangeSpec := { name := "topProgramRuns", fn := fun _ => fun
  | [d1, d2] => { results := [.lit (.bool true)], args := [d1, d2] }
  | _ => none }
def topProgramRunsRow : OpenClaim := { program := "ytndfaefmmcoapaagreat", sum := "75830b44176273324a47f7682ddd9b11021cf4690d014d40ce78f798c68f5af3", func := "witting/wittingtop.TopProgramRuns", spec := "topProgramRuns", unfollowed := true, recurses := true, plainKeys := false, apart := false }
def TopProgramRunsSaid : Prop := topProgramRunsRow.holds Tryz.pinned (OpenSpec.ofChange topProgramRunsSpec)

/-- ITS FALSE NEIGHBOUR: 'it returns false'. Refute it at one input. -/
def topProgramRunsWrong : ChangeSpec := { name := "topProgramRuns", fn := fun _ => fun
  | [d1, d2] => { results := [.lit (.bool false)], args := [d1, d2] }
  | _ => none }
def TopProgramRunsWrongFalsely : Prop := topProgramRunsRow.holds Tryz.pinned (OpenSpec.ofChange topProgramRunsWrong)

/-- 'wittingtop.TopProgramsRecall': WHATEVER THE INPUT: true; the input reads as it did. -/
def topProgramsRecallSpec : ChangeSpec := { name := "topProgramsRecall", fn := fun _ => fun
  | [d1, d2, d3] => { results := [.lit (.bool true)], args := [d1, d2, d3] }
  | _ => none }
def topProgramsRecallRow : OpenClaim := { program := "ytndfaefmmcoapaagreat", sum := "75830b44176273324a47f7682ddd9b11021cf4690d014d40ce78f798c68f5af3", func := "witting/wittingtop.TopProgramsRecall", spec := "topProgramsRecall", unfollowed := true, recurses := true, plainKeys := false, apart := false }
def TopProgramsRecallSaid : Prop := topProgramsRecallRow.holds Tryz.pinned (OpenSpec.ofChange topProgramsRecallSpec)

/-- ITS FALSE NEIGHBOUR: 'it returns false'. Refute it at one input. -/
def topProgramsRecallWrong : ChangeSpec := { name := "topProgramsRecall", fn := fun _ => fun
  | [d1, d2, d3] => { results := [.lit (.bool false)], args := [d1, d2, d3] }
  | _ => none }
def TopProgramsRecallWrongFalsely : Prop := topProgramsRecallRow.holds Tryz.pinned (OpenSpec.ofChange topProgramsRecallWrong)

/-- 'wittingtop.TopProgramTime': WHATEVER THE INPUT: true; the input reads as it did. -/
def topProgramTimeSpec : ChangeSpec := { name := "topProgramTime", fn := fun _ => fun
  | [d1, d2] => { results := [.lit (.bool true)], args := [d1, d2] }
  | _ => none }
def topProgramTimeRow : OpenClaim := { program := "ytndfaefmmcoapaagreat", sum := "75830b44176273324a47f7682ddd9b11021cf4690d014d40ce78f798c68f5af3", func := "witting/wittingtop.TopProgramTime", spec := "topProgramTime", unfollowed := true, recurses := true, plainKeys := false, apart := false }
def TopProgramTimeSaid : Prop := topProgramTimeRow.holds Tryz.pinned (OpenSpec.ofChange topProgramTimeSpec)

/-- ITS FALSE NEIGHBOUR: 'it returns false'. Refute it at one input. -/
def topProgramTimeWrong : ChangeSpec := { name := "topProgramTime", fn := fun _ => fun
  | [d1, d2] => { results := [.lit (.bool false)], args := [d1, d2] }
  | _ => none }
def TopProgramTimeWrongFalsely : Prop := topProgramTimeRow.holds Tryz.pinned (OpenSpec.ofChange topProgramTimeWrong)

/-- 'wittingtop.TopSlices': WHATEVER THE INPUT: true; the input reads as it did. -/
def topSlicesSpec : ChangeSpec := { name := "topSlices", fn := fun _ => fun
  | [d1, d2] => { results := [.lit (.bool true)], args := [d1, d2] }
  | _ => none }
def topSlicesRow : OpenClaim := { program := "ytndfaefmmcoapaagreat", sum := "75830b44176273324a47f7682ddd9b11021cf4690d014d40ce78f798c68f5af3", func := "witting/wittingtop.TopSlices", spec := "topSlices", unfollowed := true, recurses := true, plainKeys := false, apart := false }
def TopSlicesSaid : Prop := topSlicesRow.holds Tryz.pinned (OpenSpec.ofChange topSlicesSpec)

/-- ITS FALSE NEIGHBOUR: 'it returns false'. Refute it at one input. -/
def topSlicesWrong : ChangeSpec := { name := "topSlices", fn := fun _ => fun
  | [d1, d2] => { results := [.lit (.bool false)], args := [d1, d2] }
  | _ => none }
def TopSlicesWrongFalsely : Prop := topSlicesRow.holds Tryz.pinned (OpenSpec.ofChange topSlicesWrong)

/- THE SECOND FORM. 'bulk': how many values and letters a reading holds, each counted each time it is reached (what is shared counts as often as it is met; a slice's spare places count too). A statement '..UptoSaid' is the law's where the arguments, and the package variables that the reading takes, are together of bulk at most 1048576: NARROWER than '..Said'. Prove '..Said' where nothing that the law and all that it calls make is longer than what came in: it says more and counts as full. Else prove '..UptoSaid'. A law counts once. -/
mutual
def uptoBulk {H : Type} : DataW H → Nat
  | .lit (.string bytes) => bytes.length + 1
  | .lit _ => 1
  | .nil => 1
  | .ptr d => uptoBulk d + 1
  | .slice elems spare => uptoBulkAll elems + uptoBulkAll spare + 1
  | .agg parts => uptoBulkAll parts + 1
  | .iface _ d => uptoBulk d + 1
  | .map entries => uptoBulkEntries entries + 1
  | .held _ => 1
def uptoBulkAll {H : Type} : List (DataW H) → Nat
  | [] => 0
  | d :: r => uptoBulk d + uptoBulkAll r
def uptoBulkEntries {H : Type} : List (Lit × DataW H) → Nat
  | [] => 0
  | x :: r => uptoBulkEntry x + uptoBulkEntries r
def uptoBulkEntry {H : Type} : Lit × DataW H → Nat
  | (.string bytes, d) => bytes.length + uptoBulk d + 1
  | (_, d) => uptoBulk d + 1
 end
def uptoSmall : (H : Type) → List (DataW H) → Bool := fun _ ds => decide (uptoBulkAll ds ≤ 1048576)
def OpenSpec.upto (s : _root_.Go.ChangeSpec) : _root_.Go.OpenSpec := { _root_.Go.OpenSpec.ofChange s with cond := some uptoSmall }

/-- 'wittinglaw56.KbpChecks', WHERE WHAT IT READS IS OF BULK AT MOST 1048576: true; the input reads as it did. -/
def kbpChecksUptoRow : OpenClaim := { program := "ytndfaefmmcoapaagreat", sum := "75830b44176273324a47f7682ddd9b11021cf4690d014d40ce78f798c68f5af3", func := "witting/wittinglaw56.KbpChecks", spec := "kbpChecks", unfollowed := true, recurses := true, plainKeys := false, apart := false, narrowed := true }
def KbpChecksUptoSaid : Prop := kbpChecksUptoRow.holds Tryz.pinned (OpenSpec.upto kbpChecksSpec)

/-- 'wittinglaw56.KbpPlays', WHERE WHAT IT READS IS OF BULK AT MOST 1048576: true; the input reads as it did. -/
def kbpPlaysUptoRow : OpenClaim := { program := "ytndfaefmmcoapaagreat", sum := "75830b44176273324a47f7682ddd9b11021cf4690d014d40ce78f798c68f5af3", func := "witting/wittinglaw56.KbpPlays", spec := "kbpPlays", unfollowed := true, recurses := true, plainKeys := false, apart := false, narrowed := true }
def KbpPlaysUptoSaid : Prop := kbpPlaysUptoRow.holds Tryz.pinned (OpenSpec.upto kbpPlaysSpec)

/-- 'wittinglaw56.KbpGenerates', WHERE WHAT IT READS IS OF BULK AT MOST 1048576: true; the input reads as it did. -/
def kbpGeneratesUptoRow : OpenClaim := { program := "ytndfaefmmcoapaagreat", sum := "75830b44176273324a47f7682ddd9b11021cf4690d014d40ce78f798c68f5af3", func := "witting/wittinglaw56.KbpGenerates", spec := "kbpGenerates", unfollowed := true, recurses := true, plainKeys := false, apart := false, narrowed := true }
def KbpGeneratesUptoSaid : Prop := kbpGeneratesUptoRow.holds Tryz.pinned (OpenSpec.upto kbpGeneratesSpec)

/-- 'wittinglaw56.KbpOwn', WHERE WHAT IT READS IS OF BULK AT MOST 1048576: true; the input reads as it did. -/
def kbpOwnUptoRow : OpenClaim := { program := "ytndfaefmmcoapaagreat", sum := "75830b44176273324a47f7682ddd9b11021cf4690d014d40ce78f798c68f5af3", func := "witting/wittinglaw56.KbpOwn", spec := "kbpOwn", unfollowed := true, recurses := true, plainKeys := false, apart := false, narrowed := true }
def KbpOwnUptoSaid : Prop := kbpOwnUptoRow.holds Tryz.pinned (OpenSpec.upto kbpOwnSpec)

/-- 'wittinglaw56.KbpUnique', WHERE WHAT IT READS IS OF BULK AT MOST 1048576: true; the input reads as it did. -/
def kbpUniqueUptoRow : OpenClaim := { program := "ytndfaefmmcoapaagreat", sum := "75830b44176273324a47f7682ddd9b11021cf4690d014d40ce78f798c68f5af3", func := "witting/wittinglaw56.KbpUnique", spec := "kbpUnique", unfollowed := true, recurses := true, plainKeys := false, apart := false, narrowed := true }
def KbpUniqueUptoSaid : Prop := kbpUniqueUptoRow.holds Tryz.pinned (OpenSpec.upto kbpUniqueSpec)

/-- 'wittinglaw56.KbpSees', WHERE WHAT IT READS IS OF BULK AT MOST 1048576: true; the input reads as it did. -/
def kbpSeesUptoRow : OpenClaim := { program := "ytndfaefmmcoapaagreat", sum := "75830b44176273324a47f7682ddd9b11021cf4690d014d40ce78f798c68f5af3", func := "witting/wittinglaw56.KbpSees", spec := "kbpSees", unfollowed := true, recurses := true, plainKeys := false, apart := false, narrowed := true }
def KbpSeesUptoSaid : Prop := kbpSeesUptoRow.holds Tryz.pinned (OpenSpec.upto kbpSeesSpec)

/-- 'wittinglaw56.KbpTells', WHERE WHAT IT READS IS OF BULK AT MOST 1048576: true; the input reads as it did. -/
def kbpTellsUptoRow : OpenClaim := { program := "ytndfaefmmcoapaagreat", sum := "75830b44176273324a47f7682ddd9b11021cf4690d014d40ce78f798c68f5af3", func := "witting/wittinglaw56.KbpTells", spec := "kbpTells", unfollowed := true, recurses := true, plainKeys := false, apart := false, narrowed := true }
def KbpTellsUptoSaid : Prop := kbpTellsUptoRow.holds Tryz.pinned (OpenSpec.upto kbpTellsSpec)

/-- 'wittinglaw56.KbpRecalls', WHERE WHAT IT READS IS OF BULK AT MOST 1048576: true; the input reads as it did. -/
def kbpRecallsUptoRow : OpenClaim := { program := "ytndfaefmmcoapaagreat", sum := "75830b44176273324a47f7682ddd9b11021cf4690d014d40ce78f798c68f5af3", func := "witting/wittinglaw56.KbpRecalls", spec := "kbpRecalls", unfollowed := true, recurses := true, plainKeys := false, apart := false, narrowed := true }
def KbpRecallsUptoSaid : Prop := kbpRecallsUptoRow.holds Tryz.pinned (OpenSpec.upto kbpRecallsSpec)

/-- 'wittingtop.TopProgramRuns', WHERE WHAT IT READS IS OF BULK AT MOST 1048576: true; the input reads as it did. -/
def topProgramRunsUptoRow : OpenClaim := { program := "ytndfaefmmcoapaagreat", sum := "75830b44176273324a47f7682ddd9b11021cf4690d014d40ce78f798c68f5af3", func := "witting/wittingtop.TopProgramRuns", spec := "topProgramRuns", unfollowed := true, recurses := true, plainKeys := false, apart := false, narrowed := true }
def TopProgramRunsUptoSaid : Prop := topProgramRunsUptoRow.holds Tryz.pinned (OpenSpec.upto topProgramRunsSpec)

/-- 'wittingtop.TopProgramsRecall', WHERE WHAT IT READS IS OF BULK AT MOST 1048576: true; the input reads as it did. -/
def topProgramsRecallUptoRow : OpenClaim := { program := "ytndfaefmmcoapaagreat", sum := "75830b44176273324a47f7682ddd9b11021cf4690d014d40ce78f798c68f5af3", func := "witting/wittingtop.TopProgramsRecall", spec := "topProgramsRecall", unfollowed := true, recurses := true, plainKeys := false, apart := false, narrowed := true }
def TopProgramsRecallUptoSaid : Prop := topProgramsRecallUptoRow.holds Tryz.pinned (OpenSpec.upto topProgramsRecallSpec)

/-- 'wittingtop.TopProgramTime', WHERE WHAT IT READS IS OF BULK AT MOST 1048576: true; the input reads as it did. -/
def topProgramTimeUptoRow : OpenClaim := { program := "ytndfaefmmcoapaagreat", sum := "75830b44176273324a47f7682ddd9b11021cf4690d014d40ce78f798c68f5af3", func := "witting/wittingtop.TopProgramTime", spec := "topProgramTime", unfollowed := true, recurses := true, plainKeys := false, apart := false, narrowed := true }
def TopProgramTimeUptoSaid : Prop := topProgramTimeUptoRow.holds Tryz.pinned (OpenSpec.upto topProgramTimeSpec)

/-- 'wittingtop.TopSlices', WHERE WHAT IT READS IS OF BULK AT MOST 1048576: true; the input reads as it did. -/
def topSlicesUptoRow : OpenClaim := { program := "ytndfaefmmcoapaagreat", sum := "75830b44176273324a47f7682ddd9b11021cf4690d014d40ce78f798c68f5af3", func := "witting/wittingtop.TopSlices", spec := "topSlices", unfollowed := true, recurses := true, plainKeys := false, apart := false, narrowed := true }
def TopSlicesUptoSaid : Prop := topSlicesUptoRow.holds Tryz.pinned (OpenSpec.upto topSlicesSpec)

end Rows
end Go.Proofs.YtndfaefmmcoapaaGreat
