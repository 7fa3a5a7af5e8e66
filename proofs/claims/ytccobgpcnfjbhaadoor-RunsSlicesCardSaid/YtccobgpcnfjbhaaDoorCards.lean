/-
  DERIVED. GIVEN WITH THE SEED: THE CARDS: each row of YtccobgpcnfjbhaaDoorRows.lean that lists a variable, with what it lists TIED to the program's text (the seventh form; the later family's looks); each row that meets fmt, with fmt's text TOLD by the authors' own Lean function (tested against real Go, not proved from fmt's source: count such statements apart). THE CARD IS WHAT COUNTS. Prove the row's statement (the work); the ties are given (YtccobgpcnfjbhaaDoorTie.lean); close each card by the builder's one call (the guide's Derived/Test/ToyasCard.lean, 'card_holds'). Laid BY PROGRAM, IN A SANDBOX (cutbox-door.mjs). By AI agents, Wed Nov 11 2026. No macro, syntax, notation, axiom, sorry.
-/
import Derived.Test.YtccobgpcnfjbhaaDoorRows
import GoSem.ClaimSeven
namespace Go.Proofs.YtccobgpcnfjbhaaDoor
namespace Rows

/-- THE TIED CARD OF 'wittinglaw53.RunsSlices'. -/
def runsSlicesCard : Claim7 := { stood := { row := runsSlicesRow, standIns := [], harness := (true, "fe64f50d70a5b3815e2d1bb255d8b98e66e6253411e757fc0a76c38a2719c091"), looks := false }, kinds := [], alts := [], laidByText := true, laidKinds := [.data], laidTests := true, laidLooks := .later }
def RunsSlicesCardSaid : Prop := Claim7.holds Tryd.pinned (.plain (OpenSpec.ofChange runsSlicesSpec)) runsSlicesCard

/-- THE SECOND FORM's CARD OF 'wittinglaw53.RunsSlices'. -/
def runsSlicesUptoCard : Claim7 := { stood := { row := runsSlicesUptoRow, standIns := [], harness := (true, "fe64f50d70a5b3815e2d1bb255d8b98e66e6253411e757fc0a76c38a2719c091"), looks := false }, kinds := [], alts := [], laidByText := true, laidKinds := [.data], laidTests := true, laidLooks := .later }
def RunsSlicesUptoCardSaid : Prop := Claim7.holds Tryd.pinned (.plain (OpenSpec.upto runsSlicesSpec)) runsSlicesUptoCard
end Rows
end Go.Proofs.YtccobgpcnfjbhaaDoor
