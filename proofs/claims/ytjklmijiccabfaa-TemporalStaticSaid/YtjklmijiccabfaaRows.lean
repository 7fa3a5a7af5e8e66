/-
  No cell of these rows narrows 'for every input' (looked for: loops, veiled, ifaces, maps, wideKeys, modest, calm, conditions, laid).
  DERIVED. THE GIVEN ROWS OF THIS SEAT. 3 by the template 'for every input the law returns true; each argument reads behind the call as it read before'; 0 by the template 'total and deterministic' (their statements: YtjklmijiccabfaaTotals.lean).
  GIVEN WITH THE SEED: the statements are not yours to turn. If you find one false, say at which input.
  Laid BY PROGRAM, IN A SANDBOX (cutbox-rows.mjs): the forced cells as the released guide's own fill.sh prints them over the translation 19dd63da26543a0d… (all of the seat's roots in one cut). By AI agents, Wed Nov 11 2026. No macro, syntax, notation, axiom, sorry.
-/
import Derived.Test.YtjklmijiccabfaaChecked
import GoSem.Claim
import GoSem.ClaimJoined
import GoSem.ClaimMapViews
import Derived.JoinedTies
import Derived.KernelRfl
namespace Go.Proofs.Ytjklmijiccabfaa
/- THE CELL 'sum', in the pinned program and in every row, IS THE sha256 OF THE DUMP (.gsa) THAT YtjklmijiccabfaaProg.lean LOADS. Nothing in Lean hashes anything: it is a label: what it is worth is what the hold of that sum in a sandbox is worth. -/
noncomputable def Try.pinned : Pinned := { name := "ytjklmijiccabfaa", sum := "19dd63da26543a0d9166737b107f411a7dae832bb65f18880dbaaad33286ff2f", checked := Try.checked }
namespace Rows
def none {H : Type} : Left H := { results := [], args := [] }

/-- 'wittinglaw55.TemporalForms': WHATEVER THE INPUT: true; the input reads as it did. -/
def temporalFormsSpec : ChangeSpec := { name := "temporalForms", fn := fun _ => fun
  | [d] => { results := [.lit (.bool true)], args := [d] }
  | _ => none }
def temporalFormsRow : OpenClaim := { program := "ytjklmijiccabfaa", sum := "19dd63da26543a0d9166737b107f411a7dae832bb65f18880dbaaad33286ff2f", func := "witting/wittinglaw55.TemporalForms", spec := "temporalForms", unfollowed := true, recurses := true, plainKeys := false, apart := false }
def TemporalFormsSaid : Prop := temporalFormsRow.holds Try.pinned (OpenSpec.ofChange temporalFormsSpec)

/-- ITS FALSE NEIGHBOUR: 'it returns false'. Refute it at one input. -/
def temporalFormsWrong : ChangeSpec := { name := "temporalForms", fn := fun _ => fun
  | [d] => { results := [.lit (.bool false)], args := [d] }
  | _ => none }
def TemporalFormsWrongFalsely : Prop := temporalFormsRow.holds Try.pinned (OpenSpec.ofChange temporalFormsWrong)

/-- 'wittinglaw55.TemporalHolds': WHATEVER THE INPUT: true; the input reads as it did. -/
def temporalHoldsSpec : ChangeSpec := { name := "temporalHolds", fn := fun _ => fun
  | [d1, d2] => { results := [.lit (.bool true)], args := [d1, d2] }
  | _ => none }
def temporalHoldsRow : OpenClaim := { program := "ytjklmijiccabfaa", sum := "19dd63da26543a0d9166737b107f411a7dae832bb65f18880dbaaad33286ff2f", func := "witting/wittinglaw55.TemporalHolds", spec := "temporalHolds", unfollowed := true, recurses := true, plainKeys := false, apart := false }
def TemporalHoldsSaid : Prop := temporalHoldsRow.holds Try.pinned (OpenSpec.ofChange temporalHoldsSpec)

/-- ITS FALSE NEIGHBOUR: 'it returns false'. Refute it at one input. -/
def temporalHoldsWrong : ChangeSpec := { name := "temporalHolds", fn := fun _ => fun
  | [d1, d2] => { results := [.lit (.bool false)], args := [d1, d2] }
  | _ => none }
def TemporalHoldsWrongFalsely : Prop := temporalHoldsRow.holds Try.pinned (OpenSpec.ofChange temporalHoldsWrong)

/-- 'wittinglaw55.TemporalStatic': WHATEVER THE INPUT: true; the input reads as it did. -/
def temporalStaticSpec : ChangeSpec := { name := "temporalStatic", fn := fun _ => fun
  | [d1, d2] => { results := [.lit (.bool true)], args := [d1, d2] }
  | _ => none }
def temporalStaticRow : OpenClaim := { program := "ytjklmijiccabfaa", sum := "19dd63da26543a0d9166737b107f411a7dae832bb65f18880dbaaad33286ff2f", func := "witting/wittinglaw55.TemporalStatic", spec := "temporalStatic", unfollowed := true, recurses := true, plainKeys := false, apart := false }
def TemporalStaticSaid : Prop := temporalStaticRow.holds Try.pinned (OpenSpec.ofChange temporalStaticSpec)

/-- ITS FALSE NEIGHBOUR: 'it returns false'. Refute it at one input. -/
def temporalStaticWrong : ChangeSpec := { name := "temporalStatic", fn := fun _ => fun
  | [d1, d2] => { results := [.lit (.bool false)], args := [d1, d2] }
  | _ => none }
def TemporalStaticWrongFalsely : Prop := temporalStaticRow.holds Try.pinned (OpenSpec.ofChange temporalStaticWrong)

/- THE SECOND FORM. 'bulk': how many values and letters a reading holds, each counted each time it is reached (what is shared counts as often as it is met; a slice's spare places count too). A statement '..UptoSaid' is the law's where the arguments, and the package variables that the reading takes, are together of bulk at most 1048576: NARROWER than '..Said'. Prove '..Said' where nothing that the law and all that it calls make is longer than what came in: it says more and counts as full. Else prove '..UptoSaid'. A law counts once. -/
mutual
def uptoBulk {H : Type} : DataW H → Nat
  | .lit (.string bytes) => bytes.length + 1
  | .lit _ => 1
  | .nil => 1
  | .ptr d => uptoBulk d + 1
  | .slice elems spare => uptoBulkAll elems + uptoBulkAll spare + 1
  | .agg parts => uptoBulkAll parts + 1
  | .iface _ d => uptoBulk d + 1
  | .map entries => uptoBulkEntries entries + 1
  | .held _ => 1
def uptoBulkAll {H : Type} : List (DataW H) → Nat
  | [] => 0
  | d :: r => uptoBulk d + uptoBulkAll r
def uptoBulkEntries {H : Type} : List (Lit × DataW H) → Nat
  | [] => 0
  | x :: r => uptoBulkEntry x + uptoBulkEntries r
def uptoBulkEntry {H : Type} : Lit × DataW H → Nat
  | (.string bytes, d) => bytes.length + uptoBulk d + 1
  | (_, d) => uptoBulk d + 1
 end
def uptoSmall : (H : Type) → List (DataW H) → Bool := fun _ ds => decide (uptoBulkAll ds ≤ 1048576)
def OpenSpec.upto (s : _root_.Go.ChangeSpec) : _root_.Go.OpenSpec := { _root_.Go.OpenSpec.ofChange s with cond := some uptoSmall }

/-- 'wittinglaw55.TemporalForms', WHERE WHAT IT READS IS OF BULK AT MOST 1048576: true; the input reads as it did. -/
def temporalFormsUptoRow : OpenClaim := { program := "ytjklmijiccabfaa", sum := "19dd63da26543a0d9166737b107f411a7dae832bb65f18880dbaaad33286ff2f", func := "witting/wittinglaw55.TemporalForms", spec := "temporalForms", unfollowed := true, recurses := true, plainKeys := false, apart := false, narrowed := true }
def TemporalFormsUptoSaid : Prop := temporalFormsUptoRow.holds Try.pinned (OpenSpec.upto temporalFormsSpec)

/-- 'wittinglaw55.TemporalHolds', WHERE WHAT IT READS IS OF BULK AT MOST 1048576: true; the input reads as it did. -/
def temporalHoldsUptoRow : OpenClaim := { program := "ytjklmijiccabfaa", sum := "19dd63da26543a0d9166737b107f411a7dae832bb65f18880dbaaad33286ff2f", func := "witting/wittinglaw55.TemporalHolds", spec := "temporalHolds", unfollowed := true, recurses := true, plainKeys := false, apart := false, narrowed := true }
def TemporalHoldsUptoSaid : Prop := temporalHoldsUptoRow.holds Try.pinned (OpenSpec.upto temporalHoldsSpec)

/-- 'wittinglaw55.TemporalStatic', WHERE WHAT IT READS IS OF BULK AT MOST 1048576: true; the input reads as it did. -/
def temporalStaticUptoRow : OpenClaim := { program := "ytjklmijiccabfaa", sum := "19dd63da26543a0d9166737b107f411a7dae832bb65f18880dbaaad33286ff2f", func := "witting/wittinglaw55.TemporalStatic", spec := "temporalStatic", unfollowed := true, recurses := true, plainKeys := false, apart := false, narrowed := true }
def TemporalStaticUptoSaid : Prop := temporalStaticUptoRow.holds Try.pinned (OpenSpec.upto temporalStaticSpec)

end Rows
end Go.Proofs.Ytjklmijiccabfaa
