/-
  NARROWER THAN 'FOR EVERY INPUT', by the rows' own cells (each row's printed sentence says how): ModelChecks: laid · ModelRestricts: laid · ModelUnions: laid · ModelGroups: laid · ModelTwice: laid · ModelCloses: laid · ModelNames: laid · ModelParts: laid.
  DERIVED. THE GIVEN ROWS OF THIS SEAT. 8 by the template 'for every input the law returns true; each argument reads behind the call as it read before'; 0 by the template 'total and deterministic' (their statements: YtkinhajadppfaaaDoorTotals.lean).
  GIVEN WITH THE SEED: the statements are not yours to turn. If you find one false, say at which input.
  Laid BY PROGRAM, IN A SANDBOX (cutbox-rows.mjs): the forced cells as the released guide's own fill.sh prints them over the translation 6942cfea9a5e0146… (all of the seat's roots in one cut). By AI agents, Wed Nov 11 2026. No macro, syntax, notation, axiom, sorry.
-/
import Derived.Test.YtkinhajadppfaaaDoorChecked
import GoSem.Claim
import GoSem.ClaimJoined
import GoSem.ClaimMapViews
import Derived.JoinedTies
import Derived.KernelRfl
namespace Go.Proofs.YtkinhajadppfaaaDoor
/- THE CELL 'sum', in the pinned program and in every row, IS THE sha256 OF THE DUMP (.gsa) THAT YtkinhajadppfaaaDoorProg.lean LOADS. Nothing in Lean hashes anything: it is a label: what it is worth is what the hold of that sum in a sandbox is worth. -/
noncomputable def Tryd.pinned : Pinned := { name := "ytkinhajadppfaaadoor", sum := "6942cfea9a5e0146f8b04bbc33499503a6622079cfce7d38e7c4d4698ae86f2b", checked := Tryd.checked }
namespace Rows
def none {H : Type} : Left H := { results := [], args := [] }

/- WHAT THE LISTED PACKAGE-LEVEL VARIABLES READ AS WHEN THE CALL BEGINS. Each datum BY PROGRAM (the guide's laid-datum.mjs) off the statement by which the dump's own 'gosem.cut.vars' lays the variable. In a bare row this is a premise. The card (YtkinhajadppfaaaDoorCards.lean) ties it to the program's text. -/
def laid_math_bits_deBruijn64tab {H : Type} : DataW H := .agg [.lit (.int .u8 0), .lit (.int .u8 1), .lit (.int .u8 56), .lit (.int .u8 2), .lit (.int .u8 57), .lit (.int .u8 49), .lit (.int .u8 28), .lit (.int .u8 3), .lit (.int .u8 61), .lit (.int .u8 58), .lit (.int .u8 42), .lit (.int .u8 50), .lit (.int .u8 38), .lit (.int .u8 29), .lit (.int .u8 17), .lit (.int .u8 4), .lit (.int .u8 62), .lit (.int .u8 47), .lit (.int .u8 59), .lit (.int .u8 36), .lit (.int .u8 45), .lit (.int .u8 43), .lit (.int .u8 51), .lit (.int .u8 22), .lit (.int .u8 53), .lit (.int .u8 39), .lit (.int .u8 33), .lit (.int .u8 30), .lit (.int .u8 24), .lit (.int .u8 18), .lit (.int .u8 12), .lit (.int .u8 5), .lit (.int .u8 63), .lit (.int .u8 55), .lit (.int .u8 48), .lit (.int .u8 27), .lit (.int .u8 60), .lit (.int .u8 41), .lit (.int .u8 37), .lit (.int .u8 16), .lit (.int .u8 46), .lit (.int .u8 35), .lit (.int .u8 44), .lit (.int .u8 21), .lit (.int .u8 52), .lit (.int .u8 32), .lit (.int .u8 23), .lit (.int .u8 11), .lit (.int .u8 54), .lit (.int .u8 26), .lit (.int .u8 40), .lit (.int .u8 15), .lit (.int .u8 34), .lit (.int .u8 20), .lit (.int .u8 31), .lit (.int .u8 10), .lit (.int .u8 25), .lit (.int .u8 14), .lit (.int .u8 19), .lit (.int .u8 9), .lit (.int .u8 13), .lit (.int .u8 8), .lit (.int .u8 7), .lit (.int .u8 6)]

/-- 'wittinglaw13.ModelChecks': WHATEVER THE INPUT: true; the input reads as it did. -/
def modelChecksSpec : ChangeSpec := { name := "modelChecks", fn := fun _ => fun
  | [d1, d2] => { results := [.lit (.bool true)], args := [d1, d2] }
  | _ => none }
def modelChecksRow : OpenClaim := { program := "ytkinhajadppfaaadoor", sum := "6942cfea9a5e0146f8b04bbc33499503a6622079cfce7d38e7c4d4698ae86f2b", func := "witting/wittinglaw13.ModelChecks", spec := "modelChecks", unfollowed := true, recurses := true, named := ["math/bits.deBruijn64tab"], apart := false, laid := [("math/bits.deBruijn64tab", laid_math_bits_deBruijn64tab)] }
def ModelChecksSaid : Prop := modelChecksRow.holds Tryd.pinned (OpenSpec.ofChange modelChecksSpec)

/-- ITS FALSE NEIGHBOUR: 'it returns false'. Refute it at one input. -/
def modelChecksWrong : ChangeSpec := { name := "modelChecks", fn := fun _ => fun
  | [d1, d2] => { results := [.lit (.bool false)], args := [d1, d2] }
  | _ => none }
def ModelChecksWrongFalsely : Prop := modelChecksRow.holds Tryd.pinned (OpenSpec.ofChange modelChecksWrong)

/-- 'wittinglaw13.ModelRestricts': WHATEVER THE INPUT: true; the input reads as it did. -/
def modelRestrictsSpec : ChangeSpec := { name := "modelRestricts", fn := fun _ => fun
  | [d1, d2] => { results := [.lit (.bool true)], args := [d1, d2] }
  | _ => none }
def modelRestrictsRow : OpenClaim := { program := "ytkinhajadppfaaadoor", sum := "6942cfea9a5e0146f8b04bbc33499503a6622079cfce7d38e7c4d4698ae86f2b", func := "witting/wittinglaw13.ModelRestricts", spec := "modelRestricts", unfollowed := true, recurses := true, named := ["math/bits.deBruijn64tab"], apart := false, laid := [("math/bits.deBruijn64tab", laid_math_bits_deBruijn64tab)] }
def ModelRestrictsSaid : Prop := modelRestrictsRow.holds Tryd.pinned (OpenSpec.ofChange modelRestrictsSpec)

/-- ITS FALSE NEIGHBOUR: 'it returns false'. Refute it at one input. -/
def modelRestrictsWrong : ChangeSpec := { name := "modelRestricts", fn := fun _ => fun
  | [d1, d2] => { results := [.lit (.bool false)], args := [d1, d2] }
  | _ => none }
def ModelRestrictsWrongFalsely : Prop := modelRestrictsRow.holds Tryd.pinned (OpenSpec.ofChange modelRestrictsWrong)

/-- 'wittinglaw13.ModelUnions': WHATEVER THE INPUT: true; the input reads as it did. -/
def modelUnionsSpec : ChangeSpec := { name := "modelUnions", fn := fun _ => fun
  | [d1, d2, d3] => { results := [.lit (.bool true)], args := [d1, d2, d3] }
  | _ => none }
def modelUnionsRow : OpenClaim := { program := "ytkinhajadppfaaadoor", sum := "6942cfea9a5e0146f8b04bbc33499503a6622079cfce7d38e7c4d4698ae86f2b", func := "witting/wittinglaw13.ModelUnions", spec := "modelUnions", unfollowed := true, recurses := true, named := ["math/bits.deBruijn64tab"], apart := false, laid := [("math/bits.deBruijn64tab", laid_math_bits_deBruijn64tab)] }
def ModelUnionsSaid : Prop := modelUnionsRow.holds Tryd.pinned (OpenSpec.ofChange modelUnionsSpec)

/-- ITS FALSE NEIGHBOUR: 'it returns false'. Refute it at one input. -/
def modelUnionsWrong : ChangeSpec := { name := "modelUnions", fn := fun _ => fun
  | [d1, d2, d3] => { results := [.lit (.bool false)], args := [d1, d2, d3] }
  | _ => none }
def ModelUnionsWrongFalsely : Prop := modelUnionsRow.holds Tryd.pinned (OpenSpec.ofChange modelUnionsWrong)

/-- 'wittinglaw13.ModelGroups': WHATEVER THE INPUT: true; the input reads as it did. -/
def modelGroupsSpec : ChangeSpec := { name := "modelGroups", fn := fun _ => fun
  | [d1, d2] => { results := [.lit (.bool true)], args := [d1, d2] }
  | _ => none }
def modelGroupsRow : OpenClaim := { program := "ytkinhajadppfaaadoor", sum := "6942cfea9a5e0146f8b04bbc33499503a6622079cfce7d38e7c4d4698ae86f2b", func := "witting/wittinglaw13.ModelGroups", spec := "modelGroups", unfollowed := true, recurses := true, named := ["math/bits.deBruijn64tab"], apart := false, laid := [("math/bits.deBruijn64tab", laid_math_bits_deBruijn64tab)] }
def ModelGroupsSaid : Prop := modelGroupsRow.holds Tryd.pinned (OpenSpec.ofChange modelGroupsSpec)

/-- ITS FALSE NEIGHBOUR: 'it returns false'. Refute it at one input. -/
def modelGroupsWrong : ChangeSpec := { name := "modelGroups", fn := fun _ => fun
  | [d1, d2] => { results := [.lit (.bool false)], args := [d1, d2] }
  | _ => none }
def ModelGroupsWrongFalsely : Prop := modelGroupsRow.holds Tryd.pinned (OpenSpec.ofChange modelGroupsWrong)

/-- 'wittinglaw13.ModelTwice': WHATEVER THE INPUT: true; the input reads as it did. -/
def modelTwiceSpec : ChangeSpec := { name := "modelTwice", fn := fun _ => fun
  | [d1, d2, d3] => { results := [.lit (.bool true)], args := [d1, d2, d3] }
  | _ => none }
def modelTwiceRow : OpenClaim := { program := "ytkinhajadppfaaadoor", sum := "6942cfea9a5e0146f8b04bbc33499503a6622079cfce7d38e7c4d4698ae86f2b", func := "witting/wittinglaw13.ModelTwice", spec := "modelTwice", unfollowed := true, recurses := true, named := ["math/bits.deBruijn64tab"], apart := false, laid := [("math/bits.deBruijn64tab", laid_math_bits_deBruijn64tab)] }
def ModelTwiceSaid : Prop := modelTwiceRow.holds Tryd.pinned (OpenSpec.ofChange modelTwiceSpec)

/-- ITS FALSE NEIGHBOUR: 'it returns false'. Refute it at one input. -/
def modelTwiceWrong : ChangeSpec := { name := "modelTwice", fn := fun _ => fun
  | [d1, d2, d3] => { results := [.lit (.bool false)], args := [d1, d2, d3] }
  | _ => none }
def ModelTwiceWrongFalsely : Prop := modelTwiceRow.holds Tryd.pinned (OpenSpec.ofChange modelTwiceWrong)

/-- 'wittinglaw13.ModelCloses': WHATEVER THE INPUT: true; the input reads as it did. -/
def modelClosesSpec : ChangeSpec := { name := "modelCloses", fn := fun _ => fun
  | [d1, d2] => { results := [.lit (.bool true)], args := [d1, d2] }
  | _ => none }
def modelClosesRow : OpenClaim := { program := "ytkinhajadppfaaadoor", sum := "6942cfea9a5e0146f8b04bbc33499503a6622079cfce7d38e7c4d4698ae86f2b", func := "witting/wittinglaw13.ModelCloses", spec := "modelCloses", unfollowed := true, recurses := true, named := ["math/bits.deBruijn64tab"], apart := false, laid := [("math/bits.deBruijn64tab", laid_math_bits_deBruijn64tab)] }
def ModelClosesSaid : Prop := modelClosesRow.holds Tryd.pinned (OpenSpec.ofChange modelClosesSpec)

/-- ITS FALSE NEIGHBOUR: 'it returns false'. Refute it at one input. -/
def modelClosesWrong : ChangeSpec := { name := "modelCloses", fn := fun _ => fun
  | [d1, d2] => { results := [.lit (.bool false)], args := [d1, d2] }
  | _ => none }
def ModelClosesWrongFalsely : Prop := modelClosesRow.holds Tryd.pinned (OpenSpec.ofChange modelClosesWrong)

/-- 'wittinglaw13.ModelNames': WHATEVER THE INPUT: true; the input reads as it did. -/
def modelNamesSpec : ChangeSpec := { name := "modelNames", fn := fun _ => fun
  | [d1, d2] => { results := [.lit (.bool true)], args := [d1, d2] }
  | _ => none }
def modelNamesRow : OpenClaim := { program := "ytkinhajadppfaaadoor", sum := "6942cfea9a5e0146f8b04bbc33499503a6622079cfce7d38e7c4d4698ae86f2b", func := "witting/wittinglaw13.ModelNames", spec := "modelNames", unfollowed := true, recurses := true, named := ["math/bits.deBruijn64tab"], apart := false, laid := [("math/bits.deBruijn64tab", laid_math_bits_deBruijn64tab)] }
def ModelNamesSaid : Prop := modelNamesRow.holds Tryd.pinned (OpenSpec.ofChange modelNamesSpec)

/-- ITS FALSE NEIGHBOUR: 'it returns false'. Refute it at one input. -/
def modelNamesWrong : ChangeSpec := { name := "modelNames", fn := fun _ => fun
  | [d1, d2] => { results := [.lit (.bool false)], args := [d1, d2] }
  | _ => none }
def ModelNamesWrongFalsely : Prop := modelNamesRow.holds Tryd.pinned (OpenSpec.ofChange modelNamesWrong)

/-- 'wittinglaw13.ModelParts': WHATEVER THE INPUT: true; the input reads as it did. -/
def modelPartsSpec : ChangeSpec := { name := "modelParts", fn := fun _ => fun
  | [d1, d2] => { results := [.lit (.bool true)], args := [d1, d2] }
  | _ => none }
def modelPartsRow : OpenClaim := { program := "ytkinhajadppfaaadoor", sum := "6942cfea9a5e0146f8b04bbc33499503a6622079cfce7d38e7c4d4698ae86f2b", func := "witting/wittinglaw13.ModelParts", spec := "modelParts", unfollowed := true, recurses := true, named := ["math/bits.deBruijn64tab"], apart := false, laid := [("math/bits.deBruijn64tab", laid_math_bits_deBruijn64tab)] }
def ModelPartsSaid : Prop := modelPartsRow.holds Tryd.pinned (OpenSpec.ofChange modelPartsSpec)

/-- ITS FALSE NEIGHBOUR: 'it returns false'. Refute it at one input. -/
def modelPartsWrong : ChangeSpec := { name := "modelParts", fn := fun _ => fun
  | [d1, d2] => { results := [.lit (.bool false)], args := [d1, d2] }
  | _ => none }
def ModelPartsWrongFalsely : Prop := modelPartsRow.holds Tryd.pinned (OpenSpec.ofChange modelPartsWrong)

/- THE SECOND FORM. 'bulk': how many values and letters a reading holds, each counted each time it is reached (what is shared counts as often as it is met; a slice's spare places count too). A statement '..UptoSaid' is the law's where the arguments, and the package variables that the reading takes, are together of bulk at most 1048576: NARROWER than '..Said'. Prove '..Said' where nothing that the law and all that it calls make is longer than what came in: it says more and counts as full. Else prove '..UptoSaid'. A law counts once. -/
mutual
def uptoBulk {H : Type} : DataW H → Nat
  | .lit (.string bytes) => bytes.length + 1
  | .lit _ => 1
  | .nil => 1
  | .ptr d => uptoBulk d + 1
  | .slice elems spare => uptoBulkAll elems + uptoBulkAll spare + 1
  | .agg parts => uptoBulkAll parts + 1
  | .iface _ d => uptoBulk d + 1
  | .map entries => uptoBulkEntries entries + 1
  | .held _ => 1
def uptoBulkAll {H : Type} : List (DataW H) → Nat
  | [] => 0
  | d :: r => uptoBulk d + uptoBulkAll r
def uptoBulkEntries {H : Type} : List (Lit × DataW H) → Nat
  | [] => 0
  | x :: r => uptoBulkEntry x + uptoBulkEntries r
def uptoBulkEntry {H : Type} : Lit × DataW H → Nat
  | (.string bytes, d) => bytes.length + uptoBulk d + 1
  | (_, d) => uptoBulk d + 1
 end
def uptoSmall : (H : Type) → List (DataW H) → Bool := fun _ ds => decide (uptoBulkAll ds ≤ 1048576)
def OpenSpec.upto (s : _root_.Go.ChangeSpec) : _root_.Go.OpenSpec := { _root_.Go.OpenSpec.ofChange s with cond := some uptoSmall }

/-- 'wittinglaw13.ModelChecks', WHERE WHAT IT READS IS OF BULK AT MOST 1048576: true; the input reads as it did. -/
def modelChecksUptoRow : OpenClaim := { program := "ytkinhajadppfaaadoor", sum := "6942cfea9a5e0146f8b04bbc33499503a6622079cfce7d38e7c4d4698ae86f2b", func := "witting/wittinglaw13.ModelChecks", spec := "modelChecks", unfollowed := true, recurses := true, named := ["math/bits.deBruijn64tab"], apart := false, laid := [("math/bits.deBruijn64tab", laid_math_bits_deBruijn64tab)], narrowed := true }
def ModelChecksUptoSaid : Prop := modelChecksUptoRow.holds Tryd.pinned (OpenSpec.upto modelChecksSpec)

/-- 'wittinglaw13.ModelRestricts', WHERE WHAT IT READS IS OF BULK AT MOST 1048576: true; the input reads as it did. -/
def modelRestrictsUptoRow : OpenClaim := { program := "ytkinhajadppfaaadoor", sum := "6942cfea9a5e0146f8b04bbc33499503a6622079cfce7d38e7c4d4698ae86f2b", func := "witting/wittinglaw13.ModelRestricts", spec := "modelRestricts", unfollowed := true, recurses := true, named := ["math/bits.deBruijn64tab"], apart := false, laid := [("math/bits.deBruijn64tab", laid_math_bits_deBruijn64tab)], narrowed := true }
def ModelRestrictsUptoSaid : Prop := modelRestrictsUptoRow.holds Tryd.pinned (OpenSpec.upto modelRestrictsSpec)

/-- 'wittinglaw13.ModelUnions', WHERE WHAT IT READS IS OF BULK AT MOST 1048576: true; the input reads as it did. -/
def modelUnionsUptoRow : OpenClaim := { program := "ytkinhajadppfaaadoor", sum := "6942cfea9a5e0146f8b04bbc33499503a6622079cfce7d38e7c4d4698ae86f2b", func := "witting/wittinglaw13.ModelUnions", spec := "modelUnions", unfollowed := true, recurses := true, named := ["math/bits.deBruijn64tab"], apart := false, laid := [("math/bits.deBruijn64tab", laid_math_bits_deBruijn64tab)], narrowed := true }
def ModelUnionsUptoSaid : Prop := modelUnionsUptoRow.holds Tryd.pinned (OpenSpec.upto modelUnionsSpec)

/-- 'wittinglaw13.ModelGroups', WHERE WHAT IT READS IS OF BULK AT MOST 1048576: true; the input reads as it did. -/
def modelGroupsUptoRow : OpenClaim := { program := "ytkinhajadppfaaadoor", sum := "6942cfea9a5e0146f8b04bbc33499503a6622079cfce7d38e7c4d4698ae86f2b", func := "witting/wittinglaw13.ModelGroups", spec := "modelGroups", unfollowed := true, recurses := true, named := ["math/bits.deBruijn64tab"], apart := false, laid := [("math/bits.deBruijn64tab", laid_math_bits_deBruijn64tab)], narrowed := true }
def ModelGroupsUptoSaid : Prop := modelGroupsUptoRow.holds Tryd.pinned (OpenSpec.upto modelGroupsSpec)

/-- 'wittinglaw13.ModelTwice', WHERE WHAT IT READS IS OF BULK AT MOST 1048576: true; the input reads as it did. -/
def modelTwiceUptoRow : OpenClaim := { program := "ytkinhajadppfaaadoor", sum := "6942cfea9a5e0146f8b04bbc33499503a6622079cfce7d38e7c4d4698ae86f2b", func := "witting/wittinglaw13.ModelTwice", spec := "modelTwice", unfollowed := true, recurses := true, named := ["math/bits.deBruijn64tab"], apart := false, laid := [("math/bits.deBruijn64tab", laid_math_bits_deBruijn64tab)], narrowed := true }
def ModelTwiceUptoSaid : Prop := modelTwiceUptoRow.holds Tryd.pinned (OpenSpec.upto modelTwiceSpec)

/-- 'wittinglaw13.ModelCloses', WHERE WHAT IT READS IS OF BULK AT MOST 1048576: true; the input reads as it did. -/
def modelClosesUptoRow : OpenClaim := { program := "ytkinhajadppfaaadoor", sum := "6942cfea9a5e0146f8b04bbc33499503a6622079cfce7d38e7c4d4698ae86f2b", func := "witting/wittinglaw13.ModelCloses", spec := "modelCloses", unfollowed := true, recurses := true, named := ["math/bits.deBruijn64tab"], apart := false, laid := [("math/bits.deBruijn64tab", laid_math_bits_deBruijn64tab)], narrowed := true }
def ModelClosesUptoSaid : Prop := modelClosesUptoRow.holds Tryd.pinned (OpenSpec.upto modelClosesSpec)

/-- 'wittinglaw13.ModelNames', WHERE WHAT IT READS IS OF BULK AT MOST 1048576: true; the input reads as it did. -/
def modelNamesUptoRow : OpenClaim := { program := "ytkinhajadppfaaadoor", sum := "6942cfea9a5e0146f8b04bbc33499503a6622079cfce7d38e7c4d4698ae86f2b", func := "witting/wittinglaw13.ModelNames", spec := "modelNames", unfollowed := true, recurses := true, named := ["math/bits.deBruijn64tab"], apart := false, laid := [("math/bits.deBruijn64tab", laid_math_bits_deBruijn64tab)], narrowed := true }
def ModelNamesUptoSaid : Prop := modelNamesUptoRow.holds Tryd.pinned (OpenSpec.upto modelNamesSpec)

/-- 'wittinglaw13.ModelParts', WHERE WHAT IT READS IS OF BULK AT MOST 1048576: true; the input reads as it did. -/
def modelPartsUptoRow : OpenClaim := { program := "ytkinhajadppfaaadoor", sum := "6942cfea9a5e0146f8b04bbc33499503a6622079cfce7d38e7c4d4698ae86f2b", func := "witting/wittinglaw13.ModelParts", spec := "modelParts", unfollowed := true, recurses := true, named := ["math/bits.deBruijn64tab"], apart := false, laid := [("math/bits.deBruijn64tab", laid_math_bits_deBruijn64tab)], narrowed := true }
def ModelPartsUptoSaid : Prop := modelPartsUptoRow.holds Tryd.pinned (OpenSpec.upto modelPartsSpec)

end Rows
end Go.Proofs.YtkinhajadppfaaaDoor
