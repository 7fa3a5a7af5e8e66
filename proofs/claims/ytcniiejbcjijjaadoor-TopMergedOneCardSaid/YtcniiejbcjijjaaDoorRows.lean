/-
  NARROWER THAN 'FOR EVERY INPUT', by the rows' own cells (each row's printed sentence says how): TopMergedRevision: laid · TopMergedOne: laid.
  DERIVED. THE GIVEN ROWS OF THIS SEAT. 2 by the template 'for every input the law returns true; each argument reads behind the call as it read before'; 0 by the template 'total and deterministic' (their statements: YtcniiejbcjijjaaDoorTotals.lean).
  GIVEN WITH THE SEED: the statements are not yours to turn. If you find one false, say at which input.
  Laid BY PROGRAM, IN A SANDBOX (cutbox-rows.mjs): the forced cells as the released guide's own fill.sh prints them over the translation b918e53eb688eb29… (all of the seat's roots in one cut). By AI agents, Wed Nov 11 2026. No macro, syntax, notation, axiom, sorry.
-/
import Derived.Test.YtcniiejbcjijjaaDoorChecked
import GoSem.Claim
import GoSem.ClaimJoined
import GoSem.ClaimMapViews
import Derived.JoinedTies
import Derived.KernelRfl
namespace Go.Proofs.YtcniiejbcjijjaaDoor
/- THE CELL 'sum', in the pinned program and in every row, IS THE sha256 OF THE DUMP (.gsa) THAT YtcniiejbcjijjaaDoorProg.lean LOADS. Nothing in Lean hashes anything: it is a label: what it is worth is what the hold of that sum in a sandbox is worth. -/
noncomputable def Tryd.pinned : Pinned := { name := "ytcniiejbcjijjaadoor", sum := "b918e53eb688eb297625ff4bb499701a7a419971acef5727e5a4ef46ad863da5", checked := Tryd.checked }
namespace Rows
def none {H : Type} : Left H := { results := [], args := [] }

/- WHAT THE LISTED PACKAGE-LEVEL VARIABLES READ AS WHEN THE CALL BEGINS. Each datum BY PROGRAM (the guide's laid-datum.mjs) off the statement by which the dump's own 'gosem.cut.vars' lays the variable. In a bare row this is a premise. The card (YtcniiejbcjijjaaDoorCards.lean) ties it to the program's text. -/
def laid_witting_postulates_revision {H : Type} : DataW H := .iface "func table" (.slice [.agg [.lit (.bool false), .iface "func" (.lit (.string [119, 105, 116, 116, 105, 110, 103, 47, 112, 111, 115, 116, 117, 108, 97, 116, 101, 115, 46, 114, 101, 118, 105, 115, 105, 111, 110, 36, 49]))], .agg [.lit (.bool false), .iface "func" (.lit (.string [119, 105, 116, 116, 105, 110, 103, 47, 112, 111, 115, 116, 117, 108, 97, 116, 101, 115, 46, 114, 101, 118, 105, 115, 105, 111, 110, 36, 50]))], .agg [.lit (.bool false), .iface "func" (.lit (.string [119, 105, 116, 116, 105, 110, 103, 47, 112, 111, 115, 116, 117, 108, 97, 116, 101, 115, 46, 114, 101, 118, 105, 115, 105, 111, 110, 36, 51]))], .agg [.lit (.bool false), .iface "func" (.lit (.string [119, 105, 116, 116, 105, 110, 103, 47, 112, 111, 115, 116, 117, 108, 97, 116, 101, 115, 46, 114, 101, 118, 105, 115, 105, 111, 110, 36, 52]))], .agg [.lit (.bool true), .iface "func" (.lit (.string [119, 105, 116, 116, 105, 110, 103, 47, 112, 111, 115, 116, 117, 108, 97, 116, 101, 115, 46, 114, 101, 118, 105, 115, 105, 111, 110, 36, 53]))], .agg [.lit (.bool true), .iface "func" (.lit (.string [119, 105, 116, 116, 105, 110, 103, 47, 112, 111, 115, 116, 117, 108, 97, 116, 101, 115, 46, 114, 101, 118, 105, 115, 105, 111, 110, 36, 54]))]] [])

/-- 'wittingtop.TopMergedRevision': WHATEVER THE INPUT: true; the input reads as it did. -/
def topMergedRevisionSpec : ChangeSpec := { name := "topMergedRevision", fn := fun _ => fun
  | [d1, d2, d3] => { results := [.lit (.bool true)], args := [d1, d2, d3] }
  | _ => none }
def topMergedRevisionRow : OpenClaim := { program := "ytcniiejbcjijjaadoor", sum := "b918e53eb688eb297625ff4bb499701a7a419971acef5727e5a4ef46ad863da5", func := "witting/wittingtop.TopMergedRevision", spec := "topMergedRevision", unfollowed := true, recurses := true, named := ["witting/postulates.revision"], apart := false, laid := [("witting/postulates.revision", laid_witting_postulates_revision)] }
def TopMergedRevisionSaid : Prop := topMergedRevisionRow.holds Tryd.pinned (OpenSpec.ofChange topMergedRevisionSpec)

/-- ITS FALSE NEIGHBOUR: 'it returns false'. Refute it at one input. -/
def topMergedRevisionWrong : ChangeSpec := { name := "topMergedRevision", fn := fun _ => fun
  | [d1, d2, d3] => { results := [.lit (.bool false)], args := [d1, d2, d3] }
  | _ => none }
def TopMergedRevisionWrongFalsely : Prop := topMergedRevisionRow.holds Tryd.pinned (OpenSpec.ofChange topMergedRevisionWrong)

/-- 'wittingtop.TopMergedOne': WHATEVER THE INPUT: true; the input reads as it did. -/
def topMergedOneSpec : ChangeSpec := { name := "topMergedOne", fn := fun _ => fun
  | [d1, d2, d3] => { results := [.lit (.bool true)], args := [d1, d2, d3] }
  | _ => none }
def topMergedOneRow : OpenClaim := { program := "ytcniiejbcjijjaadoor", sum := "b918e53eb688eb297625ff4bb499701a7a419971acef5727e5a4ef46ad863da5", func := "witting/wittingtop.TopMergedOne", spec := "topMergedOne", unfollowed := true, recurses := true, named := ["witting/postulates.revision"], apart := false, laid := [("witting/postulates.revision", laid_witting_postulates_revision)] }
def TopMergedOneSaid : Prop := topMergedOneRow.holds Tryd.pinned (OpenSpec.ofChange topMergedOneSpec)

/-- ITS FALSE NEIGHBOUR: 'it returns false'. Refute it at one input. -/
def topMergedOneWrong : ChangeSpec := { name := "topMergedOne", fn := fun _ => fun
  | [d1, d2, d3] => { results := [.lit (.bool false)], args := [d1, d2, d3] }
  | _ => none }
def TopMergedOneWrongFalsely : Prop := topMergedOneRow.holds Tryd.pinned (OpenSpec.ofChange topMergedOneWrong)

/- THE SECOND FORM. 'bulk': how many values and letters a reading holds, each counted each time it is reached (what is shared counts as often as it is met; a slice's spare places count too). A statement '..UptoSaid' is the law's where the arguments, and the package variables that the reading takes, are together of bulk at most 1048576: NARROWER than '..Said'. Prove '..Said' where nothing that the law and all that it calls make is longer than what came in: it says more and counts as full. Else prove '..UptoSaid'. A law counts once. -/
mutual
def uptoBulk {H : Type} : DataW H → Nat
  | .lit (.string bytes) => bytes.length + 1
  | .lit _ => 1
  | .nil => 1
  | .ptr d => uptoBulk d + 1
  | .slice elems spare => uptoBulkAll elems + uptoBulkAll spare + 1
  | .agg parts => uptoBulkAll parts + 1
  | .iface _ d => uptoBulk d + 1
  | .map entries => uptoBulkEntries entries + 1
  | .held _ => 1
def uptoBulkAll {H : Type} : List (DataW H) → Nat
  | [] => 0
  | d :: r => uptoBulk d + uptoBulkAll r
def uptoBulkEntries {H : Type} : List (Lit × DataW H) → Nat
  | [] => 0
  | x :: r => uptoBulkEntry x + uptoBulkEntries r
def uptoBulkEntry {H : Type} : Lit × DataW H → Nat
  | (.string bytes, d) => bytes.length + uptoBulk d + 1
  | (_, d) => uptoBulk d + 1
 end
def uptoSmall : (H : Type) → List (DataW H) → Bool := fun _ ds => decide (uptoBulkAll ds ≤ 1048576)
def OpenSpec.upto (s : _root_.Go.ChangeSpec) : _root_.Go.OpenSpec := { _root_.Go.OpenSpec.ofChange s with cond := some uptoSmall }

/-- 'wittingtop.TopMergedRevision', WHERE WHAT IT READS IS OF BULK AT MOST 1048576: true; the input reads as it did. -/
def topMergedRevisionUptoRow : OpenClaim := { program := "ytcniiejbcjijjaadoor", sum := "b918e53eb688eb297625ff4bb499701a7a419971acef5727e5a4ef46ad863da5", func := "witting/wittingtop.TopMergedRevision", spec := "topMergedRevision", unfollowed := true, recurses := true, named := ["witting/postulates.revision"], apart := false, laid := [("witting/postulates.revision", laid_witting_postulates_revision)], narrowed := true }
def TopMergedRevisionUptoSaid : Prop := topMergedRevisionUptoRow.holds Tryd.pinned (OpenSpec.upto topMergedRevisionSpec)

/-- 'wittingtop.TopMergedOne', WHERE WHAT IT READS IS OF BULK AT MOST 1048576: true; the input reads as it did. -/
def topMergedOneUptoRow : OpenClaim := { program := "ytcniiejbcjijjaadoor", sum := "b918e53eb688eb297625ff4bb499701a7a419971acef5727e5a4ef46ad863da5", func := "witting/wittingtop.TopMergedOne", spec := "topMergedOne", unfollowed := true, recurses := true, named := ["witting/postulates.revision"], apart := false, laid := [("witting/postulates.revision", laid_witting_postulates_revision)], narrowed := true }
def TopMergedOneUptoSaid : Prop := topMergedOneUptoRow.holds Tryd.pinned (OpenSpec.upto topMergedOneSpec)

end Rows
end Go.Proofs.YtcniiejbcjijjaaDoor
