/-
  DERIVED. GIVEN WITH THE SEED: THE CARDS: each row of YtcniiejbcjijjaaDoorRows.lean that lists a variable, with what it lists TIED to the program's text (the seventh form; the later family's looks); each row that meets fmt, with fmt's text TOLD by the authors' own Lean function (tested against real Go, not proved from fmt's source: count such statements apart). THE CARD IS WHAT COUNTS. Prove the row's statement (the work); the ties are given (YtcniiejbcjijjaaDoorTie.lean); close each card by the builder's one call (the guide's Derived/Test/ToyasCard.lean, 'card_holds'). Laid BY PROGRAM, IN A SANDBOX (cutbox-door.mjs). By AI agents, Wed Nov 11 2026. No macro, syntax, notation, axiom, sorry.
-/
import Derived.Test.YtcniiejbcjijjaaDoorRows
import GoSem.ClaimSeven
namespace Go.Proofs.YtcniiejbcjijjaaDoor
namespace Rows

/-- THE TIED CARD OF 'wittingtop.TopMergedRevision'. -/
def topMergedRevisionCard : Claim7 := { stood := { row := topMergedRevisionRow, standIns := [], harness := (true, "1abec601af735bca40309d97b42849dcf1fb43024a2fb1a2a3273c14e917ae56"), looks := false }, kinds := [], alts := [], laidByText := true, laidKinds := [.funcs], laidTests := true, laidLooks := .later }
def TopMergedRevisionCardSaid : Prop := Claim7.holds Tryd.pinned (.plain (OpenSpec.ofChange topMergedRevisionSpec)) topMergedRevisionCard

/-- THE TIED CARD OF 'wittingtop.TopMergedOne'. -/
def topMergedOneCard : Claim7 := { stood := { row := topMergedOneRow, standIns := [], harness := (true, "1abec601af735bca40309d97b42849dcf1fb43024a2fb1a2a3273c14e917ae56"), looks := false }, kinds := [], alts := [], laidByText := true, laidKinds := [.funcs], laidTests := true, laidLooks := .later }
def TopMergedOneCardSaid : Prop := Claim7.holds Tryd.pinned (.plain (OpenSpec.ofChange topMergedOneSpec)) topMergedOneCard

/-- THE SECOND FORM's CARD OF 'wittingtop.TopMergedRevision'. -/
def topMergedRevisionUptoCard : Claim7 := { stood := { row := topMergedRevisionUptoRow, standIns := [], harness := (true, "1abec601af735bca40309d97b42849dcf1fb43024a2fb1a2a3273c14e917ae56"), looks := false }, kinds := [], alts := [], laidByText := true, laidKinds := [.funcs], laidTests := true, laidLooks := .later }
def TopMergedRevisionUptoCardSaid : Prop := Claim7.holds Tryd.pinned (.plain (OpenSpec.upto topMergedRevisionSpec)) topMergedRevisionUptoCard

/-- THE SECOND FORM's CARD OF 'wittingtop.TopMergedOne'. -/
def topMergedOneUptoCard : Claim7 := { stood := { row := topMergedOneUptoRow, standIns := [], harness := (true, "1abec601af735bca40309d97b42849dcf1fb43024a2fb1a2a3273c14e917ae56"), looks := false }, kinds := [], alts := [], laidByText := true, laidKinds := [.funcs], laidTests := true, laidLooks := .later }
def TopMergedOneUptoCardSaid : Prop := Claim7.holds Tryd.pinned (.plain (OpenSpec.upto topMergedOneSpec)) topMergedOneUptoCard
end Rows
end Go.Proofs.YtcniiejbcjijjaaDoor
