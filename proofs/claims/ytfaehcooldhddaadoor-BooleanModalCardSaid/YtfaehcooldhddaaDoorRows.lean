/-
  NARROWER THAN 'FOR EVERY INPUT', by the rows' own cells (each row's printed sentence says how): BooleanTables: laid · BooleanAtoms: laid · BooleanTautologies: laid · BooleanPrimes: laid · BooleanCovers: laid · BooleanFull: laid · BooleanModal: laid · BooleanBack: laid.
  DERIVED. THE GIVEN ROWS OF THIS SEAT. 8 by the template 'for every input the law returns true; each argument reads behind the call as it read before'; 0 by the template 'total and deterministic' (their statements: YtfaehcooldhddaaDoorTotals.lean).
  GIVEN WITH THE SEED: the statements are not yours to turn. If you find one false, say at which input.
  Laid BY PROGRAM, IN A SANDBOX (cutbox-rows.mjs): the forced cells as the released guide's own fill.sh prints them over the translation 6edc35ed1a19879e… (all of the seat's roots in one cut). By AI agents, Wed Nov 11 2026. No macro, syntax, notation, axiom, sorry.
-/
import Derived.Test.YtfaehcooldhddaaDoorChecked
import GoSem.Claim
import GoSem.ClaimJoined
import GoSem.ClaimMapViews
import Derived.JoinedTies
import Derived.KernelRfl
namespace Go.Proofs.YtfaehcooldhddaaDoor
/- THE CELL 'sum', in the pinned program and in every row, IS THE sha256 OF THE DUMP (.gsa) THAT YtfaehcooldhddaaDoorProg.lean LOADS. Nothing in Lean hashes anything: it is a label: what it is worth is what the hold of that sum in a sandbox is worth. -/
noncomputable def Tryd.pinned : Pinned := { name := "ytfaehcooldhddaadoor", sum := "6edc35ed1a19879e6d8e06363ab54b060fc539df40ef1a3b607e08ff936eb36d", checked := Tryd.checked }
namespace Rows
def none {H : Type} : Left H := { results := [], args := [] }

/- WHAT THE LISTED PACKAGE-LEVEL VARIABLES READ AS WHEN THE CALL BEGINS. Each datum BY PROGRAM (the guide's laid-datum.mjs) off the statement by which the dump's own 'gosem.cut.vars' lays the variable. In a bare row this is a premise. The card (YtfaehcooldhddaaDoorCards.lean) ties it to the program's text. -/
def laid_math_bits_deBruijn32tab {H : Type} : DataW H := .agg [.lit (.int .u8 0), .lit (.int .u8 1), .lit (.int .u8 28), .lit (.int .u8 2), .lit (.int .u8 29), .lit (.int .u8 14), .lit (.int .u8 24), .lit (.int .u8 3), .lit (.int .u8 30), .lit (.int .u8 22), .lit (.int .u8 20), .lit (.int .u8 15), .lit (.int .u8 25), .lit (.int .u8 17), .lit (.int .u8 4), .lit (.int .u8 8), .lit (.int .u8 31), .lit (.int .u8 27), .lit (.int .u8 13), .lit (.int .u8 23), .lit (.int .u8 21), .lit (.int .u8 19), .lit (.int .u8 16), .lit (.int .u8 7), .lit (.int .u8 26), .lit (.int .u8 12), .lit (.int .u8 18), .lit (.int .u8 6), .lit (.int .u8 11), .lit (.int .u8 5), .lit (.int .u8 10), .lit (.int .u8 9)]
def laid_math_bits_deBruijn64tab {H : Type} : DataW H := .agg [.lit (.int .u8 0), .lit (.int .u8 1), .lit (.int .u8 56), .lit (.int .u8 2), .lit (.int .u8 57), .lit (.int .u8 49), .lit (.int .u8 28), .lit (.int .u8 3), .lit (.int .u8 61), .lit (.int .u8 58), .lit (.int .u8 42), .lit (.int .u8 50), .lit (.int .u8 38), .lit (.int .u8 29), .lit (.int .u8 17), .lit (.int .u8 4), .lit (.int .u8 62), .lit (.int .u8 47), .lit (.int .u8 59), .lit (.int .u8 36), .lit (.int .u8 45), .lit (.int .u8 43), .lit (.int .u8 51), .lit (.int .u8 22), .lit (.int .u8 53), .lit (.int .u8 39), .lit (.int .u8 33), .lit (.int .u8 30), .lit (.int .u8 24), .lit (.int .u8 18), .lit (.int .u8 12), .lit (.int .u8 5), .lit (.int .u8 63), .lit (.int .u8 55), .lit (.int .u8 48), .lit (.int .u8 27), .lit (.int .u8 60), .lit (.int .u8 41), .lit (.int .u8 37), .lit (.int .u8 16), .lit (.int .u8 46), .lit (.int .u8 35), .lit (.int .u8 44), .lit (.int .u8 21), .lit (.int .u8 52), .lit (.int .u8 32), .lit (.int .u8 23), .lit (.int .u8 11), .lit (.int .u8 54), .lit (.int .u8 26), .lit (.int .u8 40), .lit (.int .u8 15), .lit (.int .u8 34), .lit (.int .u8 20), .lit (.int .u8 31), .lit (.int .u8 10), .lit (.int .u8 25), .lit (.int .u8 14), .lit (.int .u8 19), .lit (.int .u8 9), .lit (.int .u8 13), .lit (.int .u8 8), .lit (.int .u8 7), .lit (.int .u8 6)]

/-- 'wittinglaw09.BooleanTables': WHATEVER THE INPUT: true; the input reads as it did. -/
def booleanTablesSpec : ChangeSpec := { name := "booleanTables", fn := fun _ => fun
  | [d1, d2] => { results := [.lit (.bool true)], args := [d1, d2] }
  | _ => none }
def booleanTablesRow : OpenClaim := { program := "ytfaehcooldhddaadoor", sum := "6edc35ed1a19879e6d8e06363ab54b060fc539df40ef1a3b607e08ff936eb36d", func := "witting/wittinglaw09.BooleanTables", spec := "booleanTables", unfollowed := true, recurses := true, named := ["math/bits.deBruijn32tab", "math/bits.deBruijn64tab"], plainKeys := false, apart := false, laid := [("math/bits.deBruijn32tab", laid_math_bits_deBruijn32tab), ("math/bits.deBruijn64tab", laid_math_bits_deBruijn64tab)] }
def BooleanTablesSaid : Prop := booleanTablesRow.holds Tryd.pinned (OpenSpec.ofChange booleanTablesSpec)

/-- ITS FALSE NEIGHBOUR: 'it returns false'. Refute it at one input. -/
def booleanTablesWrong : ChangeSpec := { name := "booleanTables", fn := fun _ => fun
  | [d1, d2] => { results := [.lit (.bool false)], args := [d1, d2] }
  | _ => none }
def BooleanTablesWrongFalsely : Prop := booleanTablesRow.holds Tryd.pinned (OpenSpec.ofChange booleanTablesWrong)

/-- 'wittinglaw09.BooleanAtoms': WHATEVER THE INPUT: true; the input reads as it did. -/
def booleanAtomsSpec : ChangeSpec := { name := "booleanAtoms", fn := fun _ => fun
  | [d] => { results := [.lit (.bool true)], args := [d] }
  | _ => none }
def booleanAtomsRow : OpenClaim := { program := "ytfaehcooldhddaadoor", sum := "6edc35ed1a19879e6d8e06363ab54b060fc539df40ef1a3b607e08ff936eb36d", func := "witting/wittinglaw09.BooleanAtoms", spec := "booleanAtoms", unfollowed := true, recurses := true, named := ["math/bits.deBruijn32tab", "math/bits.deBruijn64tab"], plainKeys := false, apart := false, laid := [("math/bits.deBruijn32tab", laid_math_bits_deBruijn32tab), ("math/bits.deBruijn64tab", laid_math_bits_deBruijn64tab)] }
def BooleanAtomsSaid : Prop := booleanAtomsRow.holds Tryd.pinned (OpenSpec.ofChange booleanAtomsSpec)

/-- ITS FALSE NEIGHBOUR: 'it returns false'. Refute it at one input. -/
def booleanAtomsWrong : ChangeSpec := { name := "booleanAtoms", fn := fun _ => fun
  | [d] => { results := [.lit (.bool false)], args := [d] }
  | _ => none }
def BooleanAtomsWrongFalsely : Prop := booleanAtomsRow.holds Tryd.pinned (OpenSpec.ofChange booleanAtomsWrong)

/-- 'wittinglaw09.BooleanTautologies': WHATEVER THE INPUT: true; the input reads as it did. -/
def booleanTautologiesSpec : ChangeSpec := { name := "booleanTautologies", fn := fun _ => fun
  | [d] => { results := [.lit (.bool true)], args := [d] }
  | _ => none }
def booleanTautologiesRow : OpenClaim := { program := "ytfaehcooldhddaadoor", sum := "6edc35ed1a19879e6d8e06363ab54b060fc539df40ef1a3b607e08ff936eb36d", func := "witting/wittinglaw09.BooleanTautologies", spec := "booleanTautologies", unfollowed := true, recurses := true, named := ["math/bits.deBruijn32tab", "math/bits.deBruijn64tab"], plainKeys := false, apart := false, laid := [("math/bits.deBruijn32tab", laid_math_bits_deBruijn32tab), ("math/bits.deBruijn64tab", laid_math_bits_deBruijn64tab)] }
def BooleanTautologiesSaid : Prop := booleanTautologiesRow.holds Tryd.pinned (OpenSpec.ofChange booleanTautologiesSpec)

/-- ITS FALSE NEIGHBOUR: 'it returns false'. Refute it at one input. -/
def booleanTautologiesWrong : ChangeSpec := { name := "booleanTautologies", fn := fun _ => fun
  | [d] => { results := [.lit (.bool false)], args := [d] }
  | _ => none }
def BooleanTautologiesWrongFalsely : Prop := booleanTautologiesRow.holds Tryd.pinned (OpenSpec.ofChange booleanTautologiesWrong)

/-- 'wittinglaw09.BooleanPrimes': WHATEVER THE INPUT: true; the input reads as it did. -/
def booleanPrimesSpec : ChangeSpec := { name := "booleanPrimes", fn := fun _ => fun
  | [d1, d2] => { results := [.lit (.bool true)], args := [d1, d2] }
  | _ => none }
def booleanPrimesRow : OpenClaim := { program := "ytfaehcooldhddaadoor", sum := "6edc35ed1a19879e6d8e06363ab54b060fc539df40ef1a3b607e08ff936eb36d", func := "witting/wittinglaw09.BooleanPrimes", spec := "booleanPrimes", unfollowed := true, recurses := true, named := ["math/bits.deBruijn32tab", "math/bits.deBruijn64tab"], plainKeys := false, apart := false, laid := [("math/bits.deBruijn32tab", laid_math_bits_deBruijn32tab), ("math/bits.deBruijn64tab", laid_math_bits_deBruijn64tab)] }
def BooleanPrimesSaid : Prop := booleanPrimesRow.holds Tryd.pinned (OpenSpec.ofChange booleanPrimesSpec)

/-- ITS FALSE NEIGHBOUR: 'it returns false'. Refute it at one input. -/
def booleanPrimesWrong : ChangeSpec := { name := "booleanPrimes", fn := fun _ => fun
  | [d1, d2] => { results := [.lit (.bool false)], args := [d1, d2] }
  | _ => none }
def BooleanPrimesWrongFalsely : Prop := booleanPrimesRow.holds Tryd.pinned (OpenSpec.ofChange booleanPrimesWrong)

/-- 'wittinglaw09.BooleanCovers': WHATEVER THE INPUT: true; the input reads as it did. -/
def booleanCoversSpec : ChangeSpec := { name := "booleanCovers", fn := fun _ => fun
  | [d] => { results := [.lit (.bool true)], args := [d] }
  | _ => none }
def booleanCoversRow : OpenClaim := { program := "ytfaehcooldhddaadoor", sum := "6edc35ed1a19879e6d8e06363ab54b060fc539df40ef1a3b607e08ff936eb36d", func := "witting/wittinglaw09.BooleanCovers", spec := "booleanCovers", unfollowed := true, recurses := true, named := ["math/bits.deBruijn32tab", "math/bits.deBruijn64tab"], plainKeys := false, apart := false, laid := [("math/bits.deBruijn32tab", laid_math_bits_deBruijn32tab), ("math/bits.deBruijn64tab", laid_math_bits_deBruijn64tab)] }
def BooleanCoversSaid : Prop := booleanCoversRow.holds Tryd.pinned (OpenSpec.ofChange booleanCoversSpec)

/-- ITS FALSE NEIGHBOUR: 'it returns false'. Refute it at one input. -/
def booleanCoversWrong : ChangeSpec := { name := "booleanCovers", fn := fun _ => fun
  | [d] => { results := [.lit (.bool false)], args := [d] }
  | _ => none }
def BooleanCoversWrongFalsely : Prop := booleanCoversRow.holds Tryd.pinned (OpenSpec.ofChange booleanCoversWrong)

/-- 'wittinglaw09.BooleanFull': WHATEVER THE INPUT: true; the input reads as it did. -/
def booleanFullSpec : ChangeSpec := { name := "booleanFull", fn := fun _ => fun
  | [d] => { results := [.lit (.bool true)], args := [d] }
  | _ => none }
def booleanFullRow : OpenClaim := { program := "ytfaehcooldhddaadoor", sum := "6edc35ed1a19879e6d8e06363ab54b060fc539df40ef1a3b607e08ff936eb36d", func := "witting/wittinglaw09.BooleanFull", spec := "booleanFull", unfollowed := true, recurses := true, named := ["math/bits.deBruijn32tab", "math/bits.deBruijn64tab"], plainKeys := false, apart := false, laid := [("math/bits.deBruijn32tab", laid_math_bits_deBruijn32tab), ("math/bits.deBruijn64tab", laid_math_bits_deBruijn64tab)] }
def BooleanFullSaid : Prop := booleanFullRow.holds Tryd.pinned (OpenSpec.ofChange booleanFullSpec)

/-- ITS FALSE NEIGHBOUR: 'it returns false'. Refute it at one input. -/
def booleanFullWrong : ChangeSpec := { name := "booleanFull", fn := fun _ => fun
  | [d] => { results := [.lit (.bool false)], args := [d] }
  | _ => none }
def BooleanFullWrongFalsely : Prop := booleanFullRow.holds Tryd.pinned (OpenSpec.ofChange booleanFullWrong)

/-- 'wittinglaw09.BooleanModal': WHATEVER THE INPUT: true; the input reads as it did. -/
def booleanModalSpec : ChangeSpec := { name := "booleanModal", fn := fun _ => fun
  | [d1, d2] => { results := [.lit (.bool true)], args := [d1, d2] }
  | _ => none }
def booleanModalRow : OpenClaim := { program := "ytfaehcooldhddaadoor", sum := "6edc35ed1a19879e6d8e06363ab54b060fc539df40ef1a3b607e08ff936eb36d", func := "witting/wittinglaw09.BooleanModal", spec := "booleanModal", unfollowed := true, recurses := true, named := ["math/bits.deBruijn32tab", "math/bits.deBruijn64tab"], plainKeys := false, apart := false, laid := [("math/bits.deBruijn32tab", laid_math_bits_deBruijn32tab), ("math/bits.deBruijn64tab", laid_math_bits_deBruijn64tab)] }
def BooleanModalSaid : Prop := booleanModalRow.holds Tryd.pinned (OpenSpec.ofChange booleanModalSpec)

/-- ITS FALSE NEIGHBOUR: 'it returns false'. Refute it at one input. -/
def booleanModalWrong : ChangeSpec := { name := "booleanModal", fn := fun _ => fun
  | [d1, d2] => { results := [.lit (.bool false)], args := [d1, d2] }
  | _ => none }
def BooleanModalWrongFalsely : Prop := booleanModalRow.holds Tryd.pinned (OpenSpec.ofChange booleanModalWrong)

/-- 'wittinglaw09.BooleanBack': WHATEVER THE INPUT: true; the input reads as it did. -/
def booleanBackSpec : ChangeSpec := { name := "booleanBack", fn := fun _ => fun
  | [d1, d2] => { results := [.lit (.bool true)], args := [d1, d2] }
  | _ => none }
def booleanBackRow : OpenClaim := { program := "ytfaehcooldhddaadoor", sum := "6edc35ed1a19879e6d8e06363ab54b060fc539df40ef1a3b607e08ff936eb36d", func := "witting/wittinglaw09.BooleanBack", spec := "booleanBack", unfollowed := true, recurses := true, named := ["math/bits.deBruijn32tab", "math/bits.deBruijn64tab"], plainKeys := false, apart := false, laid := [("math/bits.deBruijn32tab", laid_math_bits_deBruijn32tab), ("math/bits.deBruijn64tab", laid_math_bits_deBruijn64tab)] }
def BooleanBackSaid : Prop := booleanBackRow.holds Tryd.pinned (OpenSpec.ofChange booleanBackSpec)

/-- ITS FALSE NEIGHBOUR: 'it returns false'. Refute it at one input. -/
def booleanBackWrong : ChangeSpec := { name := "booleanBack", fn := fun _ => fun
  | [d1, d2] => { results := [.lit (.bool false)], args := [d1, d2] }
  | _ => none }
def BooleanBackWrongFalsely : Prop := booleanBackRow.holds Tryd.pinned (OpenSpec.ofChange booleanBackWrong)

/- THE SECOND FORM. 'bulk': how many values and letters a reading holds, each counted each time it is reached (what is shared counts as often as it is met; a slice's spare places count too). A statement '..UptoSaid' is the law's where the arguments, and the package variables that the reading takes, are together of bulk at most 1048576: NARROWER than '..Said'. Prove '..Said' where nothing that the law and all that it calls make is longer than what came in: it says more and counts as full. Else prove '..UptoSaid'. A law counts once. -/
mutual
def uptoBulk {H : Type} : DataW H → Nat
  | .lit (.string bytes) => bytes.length + 1
  | .lit _ => 1
  | .nil => 1
  | .ptr d => uptoBulk d + 1
  | .slice elems spare => uptoBulkAll elems + uptoBulkAll spare + 1
  | .agg parts => uptoBulkAll parts + 1
  | .iface _ d => uptoBulk d + 1
  | .map entries => uptoBulkEntries entries + 1
  | .held _ => 1
def uptoBulkAll {H : Type} : List (DataW H) → Nat
  | [] => 0
  | d :: r => uptoBulk d + uptoBulkAll r
def uptoBulkEntries {H : Type} : List (Lit × DataW H) → Nat
  | [] => 0
  | x :: r => uptoBulkEntry x + uptoBulkEntries r
def uptoBulkEntry {H : Type} : Lit × DataW H → Nat
  | (.string bytes, d) => bytes.length + uptoBulk d + 1
  | (_, d) => uptoBulk d + 1
 end
def uptoSmall : (H : Type) → List (DataW H) → Bool := fun _ ds => decide (uptoBulkAll ds ≤ 1048576)
def OpenSpec.upto (s : _root_.Go.ChangeSpec) : _root_.Go.OpenSpec := { _root_.Go.OpenSpec.ofChange s with cond := some uptoSmall }

/-- 'wittinglaw09.BooleanTables', WHERE WHAT IT READS IS OF BULK AT MOST 1048576: true; the input reads as it did. -/
def booleanTablesUptoRow : OpenClaim := { program := "ytfaehcooldhddaadoor", sum := "6edc35ed1a19879e6d8e06363ab54b060fc539df40ef1a3b607e08ff936eb36d", func := "witting/wittinglaw09.BooleanTables", spec := "booleanTables", unfollowed := true, recurses := true, named := ["math/bits.deBruijn32tab", "math/bits.deBruijn64tab"], plainKeys := false, apart := false, laid := [("math/bits.deBruijn32tab", laid_math_bits_deBruijn32tab), ("math/bits.deBruijn64tab", laid_math_bits_deBruijn64tab)], narrowed := true }
def BooleanTablesUptoSaid : Prop := booleanTablesUptoRow.holds Tryd.pinned (OpenSpec.upto booleanTablesSpec)

/-- 'wittinglaw09.BooleanAtoms', WHERE WHAT IT READS IS OF BULK AT MOST 1048576: true; the input reads as it did. -/
def booleanAtomsUptoRow : OpenClaim := { program := "ytfaehcooldhddaadoor", sum := "6edc35ed1a19879e6d8e06363ab54b060fc539df40ef1a3b607e08ff936eb36d", func := "witting/wittinglaw09.BooleanAtoms", spec := "booleanAtoms", unfollowed := true, recurses := true, named := ["math/bits.deBruijn32tab", "math/bits.deBruijn64tab"], plainKeys := false, apart := false, laid := [("math/bits.deBruijn32tab", laid_math_bits_deBruijn32tab), ("math/bits.deBruijn64tab", laid_math_bits_deBruijn64tab)], narrowed := true }
def BooleanAtomsUptoSaid : Prop := booleanAtomsUptoRow.holds Tryd.pinned (OpenSpec.upto booleanAtomsSpec)

/-- 'wittinglaw09.BooleanTautologies', WHERE WHAT IT READS IS OF BULK AT MOST 1048576: true; the input reads as it did. -/
def booleanTautologiesUptoRow : OpenClaim := { program := "ytfaehcooldhddaadoor", sum := "6edc35ed1a19879e6d8e06363ab54b060fc539df40ef1a3b607e08ff936eb36d", func := "witting/wittinglaw09.BooleanTautologies", spec := "booleanTautologies", unfollowed := true, recurses := true, named := ["math/bits.deBruijn32tab", "math/bits.deBruijn64tab"], plainKeys := false, apart := false, laid := [("math/bits.deBruijn32tab", laid_math_bits_deBruijn32tab), ("math/bits.deBruijn64tab", laid_math_bits_deBruijn64tab)], narrowed := true }
def BooleanTautologiesUptoSaid : Prop := booleanTautologiesUptoRow.holds Tryd.pinned (OpenSpec.upto booleanTautologiesSpec)

/-- 'wittinglaw09.BooleanPrimes', WHERE WHAT IT READS IS OF BULK AT MOST 1048576: true; the input reads as it did. -/
def booleanPrimesUptoRow : OpenClaim := { program := "ytfaehcooldhddaadoor", sum := "6edc35ed1a19879e6d8e06363ab54b060fc539df40ef1a3b607e08ff936eb36d", func := "witting/wittinglaw09.BooleanPrimes", spec := "booleanPrimes", unfollowed := true, recurses := true, named := ["math/bits.deBruijn32tab", "math/bits.deBruijn64tab"], plainKeys := false, apart := false, laid := [("math/bits.deBruijn32tab", laid_math_bits_deBruijn32tab), ("math/bits.deBruijn64tab", laid_math_bits_deBruijn64tab)], narrowed := true }
def BooleanPrimesUptoSaid : Prop := booleanPrimesUptoRow.holds Tryd.pinned (OpenSpec.upto booleanPrimesSpec)

/-- 'wittinglaw09.BooleanCovers', WHERE WHAT IT READS IS OF BULK AT MOST 1048576: true; the input reads as it did. -/
def booleanCoversUptoRow : OpenClaim := { program := "ytfaehcooldhddaadoor", sum := "6edc35ed1a19879e6d8e06363ab54b060fc539df40ef1a3b607e08ff936eb36d", func := "witting/wittinglaw09.BooleanCovers", spec := "booleanCovers", unfollowed := true, recurses := true, named := ["math/bits.deBruijn32tab", "math/bits.deBruijn64tab"], plainKeys := false, apart := false, laid := [("math/bits.deBruijn32tab", laid_math_bits_deBruijn32tab), ("math/bits.deBruijn64tab", laid_math_bits_deBruijn64tab)], narrowed := true }
def BooleanCoversUptoSaid : Prop := booleanCoversUptoRow.holds Tryd.pinned (OpenSpec.upto booleanCoversSpec)

/-- 'wittinglaw09.BooleanFull', WHERE WHAT IT READS IS OF BULK AT MOST 1048576: true; the input reads as it did. -/
def booleanFullUptoRow : OpenClaim := { program := "ytfaehcooldhddaadoor", sum := "6edc35ed1a19879e6d8e06363ab54b060fc539df40ef1a3b607e08ff936eb36d", func := "witting/wittinglaw09.BooleanFull", spec := "booleanFull", unfollowed := true, recurses := true, named := ["math/bits.deBruijn32tab", "math/bits.deBruijn64tab"], plainKeys := false, apart := false, laid := [("math/bits.deBruijn32tab", laid_math_bits_deBruijn32tab), ("math/bits.deBruijn64tab", laid_math_bits_deBruijn64tab)], narrowed := true }
def BooleanFullUptoSaid : Prop := booleanFullUptoRow.holds Tryd.pinned (OpenSpec.upto booleanFullSpec)

/-- 'wittinglaw09.BooleanModal', WHERE WHAT IT READS IS OF BULK AT MOST 1048576: true; the input reads as it did. -/
def booleanModalUptoRow : OpenClaim := { program := "ytfaehcooldhddaadoor", sum := "6edc35ed1a19879e6d8e06363ab54b060fc539df40ef1a3b607e08ff936eb36d", func := "witting/wittinglaw09.BooleanModal", spec := "booleanModal", unfollowed := true, recurses := true, named := ["math/bits.deBruijn32tab", "math/bits.deBruijn64tab"], plainKeys := false, apart := false, laid := [("math/bits.deBruijn32tab", laid_math_bits_deBruijn32tab), ("math/bits.deBruijn64tab", laid_math_bits_deBruijn64tab)], narrowed := true }
def BooleanModalUptoSaid : Prop := booleanModalUptoRow.holds Tryd.pinned (OpenSpec.upto booleanModalSpec)

/-- 'wittinglaw09.BooleanBack', WHERE WHAT IT READS IS OF BULK AT MOST 1048576: true; the input reads as it did. -/
def booleanBackUptoRow : OpenClaim := { program := "ytfaehcooldhddaadoor", sum := "6edc35ed1a19879e6d8e06363ab54b060fc539df40ef1a3b607e08ff936eb36d", func := "witting/wittinglaw09.BooleanBack", spec := "booleanBack", unfollowed := true, recurses := true, named := ["math/bits.deBruijn32tab", "math/bits.deBruijn64tab"], plainKeys := false, apart := false, laid := [("math/bits.deBruijn32tab", laid_math_bits_deBruijn32tab), ("math/bits.deBruijn64tab", laid_math_bits_deBruijn64tab)], narrowed := true }
def BooleanBackUptoSaid : Prop := booleanBackUptoRow.holds Tryd.pinned (OpenSpec.upto booleanBackSpec)

end Rows
end Go.Proofs.YtfaehcooldhddaaDoor
