/-
  DERIVED. GIVEN WITH THE SEED: THE CARDS: each row of YtkinhajadppfaaaDoorRows.lean that lists a variable, with what it lists TIED to the program's text (the seventh form; the later family's looks); each row that meets fmt, with fmt's text TOLD by the authors' own Lean function (tested against real Go, not proved from fmt's source: count such statements apart). THE CARD IS WHAT COUNTS. Prove the row's statement (the work); the ties are given (YtkinhajadppfaaaDoorTie.lean); close each card by the builder's one call (the guide's Derived/Test/ToyasCard.lean, 'card_holds'). Laid BY PROGRAM, IN A SANDBOX (cutbox-door.mjs). By AI agents, Wed Nov 11 2026. No macro, syntax, notation, axiom, sorry.
-/
import Derived.Test.YtkinhajadppfaaaDoorRows
import GoSem.ClaimSeven
namespace Go.Proofs.YtkinhajadppfaaaDoor
namespace Rows

/-- THE TIED CARD OF 'wittinglaw13.ModelChecks'. -/
def modelChecksCard : Claim7 := { stood := { row := modelChecksRow, standIns := [], harness := (true, "923a5103aa9ebe2d3d23c65ea2beb1697db83772228f7910603329077236851b"), looks := false }, kinds := [], alts := [], laidByText := true, laidKinds := [.data], laidTests := true, laidLooks := .later }
def ModelChecksCardSaid : Prop := Claim7.holds Tryd.pinned (.plain (OpenSpec.ofChange modelChecksSpec)) modelChecksCard

/-- THE TIED CARD OF 'wittinglaw13.ModelRestricts'. -/
def modelRestrictsCard : Claim7 := { stood := { row := modelRestrictsRow, standIns := [], harness := (true, "923a5103aa9ebe2d3d23c65ea2beb1697db83772228f7910603329077236851b"), looks := false }, kinds := [], alts := [], laidByText := true, laidKinds := [.data], laidTests := true, laidLooks := .later }
def ModelRestrictsCardSaid : Prop := Claim7.holds Tryd.pinned (.plain (OpenSpec.ofChange modelRestrictsSpec)) modelRestrictsCard

/-- THE TIED CARD OF 'wittinglaw13.ModelUnions'. -/
def modelUnionsCard : Claim7 := { stood := { row := modelUnionsRow, standIns := [], harness := (true, "923a5103aa9ebe2d3d23c65ea2beb1697db83772228f7910603329077236851b"), looks := false }, kinds := [], alts := [], laidByText := true, laidKinds := [.data], laidTests := true, laidLooks := .later }
def ModelUnionsCardSaid : Prop := Claim7.holds Tryd.pinned (.plain (OpenSpec.ofChange modelUnionsSpec)) modelUnionsCard

/-- THE TIED CARD OF 'wittinglaw13.ModelGroups'. -/
def modelGroupsCard : Claim7 := { stood := { row := modelGroupsRow, standIns := [], harness := (true, "923a5103aa9ebe2d3d23c65ea2beb1697db83772228f7910603329077236851b"), looks := false }, kinds := [], alts := [], laidByText := true, laidKinds := [.data], laidTests := true, laidLooks := .later }
def ModelGroupsCardSaid : Prop := Claim7.holds Tryd.pinned (.plain (OpenSpec.ofChange modelGroupsSpec)) modelGroupsCard

/-- THE TIED CARD OF 'wittinglaw13.ModelTwice'. -/
def modelTwiceCard : Claim7 := { stood := { row := modelTwiceRow, standIns := [], harness := (true, "923a5103aa9ebe2d3d23c65ea2beb1697db83772228f7910603329077236851b"), looks := false }, kinds := [], alts := [], laidByText := true, laidKinds := [.data], laidTests := true, laidLooks := .later }
def ModelTwiceCardSaid : Prop := Claim7.holds Tryd.pinned (.plain (OpenSpec.ofChange modelTwiceSpec)) modelTwiceCard

/-- THE TIED CARD OF 'wittinglaw13.ModelCloses'. -/
def modelClosesCard : Claim7 := { stood := { row := modelClosesRow, standIns := [], harness := (true, "923a5103aa9ebe2d3d23c65ea2beb1697db83772228f7910603329077236851b"), looks := false }, kinds := [], alts := [], laidByText := true, laidKinds := [.data], laidTests := true, laidLooks := .later }
def ModelClosesCardSaid : Prop := Claim7.holds Tryd.pinned (.plain (OpenSpec.ofChange modelClosesSpec)) modelClosesCard

/-- THE TIED CARD OF 'wittinglaw13.ModelNames'. -/
def modelNamesCard : Claim7 := { stood := { row := modelNamesRow, standIns := [], harness := (true, "923a5103aa9ebe2d3d23c65ea2beb1697db83772228f7910603329077236851b"), looks := false }, kinds := [], alts := [], laidByText := true, laidKinds := [.data], laidTests := true, laidLooks := .later }
def ModelNamesCardSaid : Prop := Claim7.holds Tryd.pinned (.plain (OpenSpec.ofChange modelNamesSpec)) modelNamesCard

/-- THE TIED CARD OF 'wittinglaw13.ModelParts'. -/
def modelPartsCard : Claim7 := { stood := { row := modelPartsRow, standIns := [], harness := (true, "923a5103aa9ebe2d3d23c65ea2beb1697db83772228f7910603329077236851b"), looks := false }, kinds := [], alts := [], laidByText := true, laidKinds := [.data], laidTests := true, laidLooks := .later }
def ModelPartsCardSaid : Prop := Claim7.holds Tryd.pinned (.plain (OpenSpec.ofChange modelPartsSpec)) modelPartsCard

/-- THE SECOND FORM's CARD OF 'wittinglaw13.ModelChecks'. -/
def modelChecksUptoCard : Claim7 := { stood := { row := modelChecksUptoRow, standIns := [], harness := (true, "923a5103aa9ebe2d3d23c65ea2beb1697db83772228f7910603329077236851b"), looks := false }, kinds := [], alts := [], laidByText := true, laidKinds := [.data], laidTests := true, laidLooks := .later }
def ModelChecksUptoCardSaid : Prop := Claim7.holds Tryd.pinned (.plain (OpenSpec.upto modelChecksSpec)) modelChecksUptoCard

/-- THE SECOND FORM's CARD OF 'wittinglaw13.ModelRestricts'. -/
def modelRestrictsUptoCard : Claim7 := { stood := { row := modelRestrictsUptoRow, standIns := [], harness := (true, "923a5103aa9ebe2d3d23c65ea2beb1697db83772228f7910603329077236851b"), looks := false }, kinds := [], alts := [], laidByText := true, laidKinds := [.data], laidTests := true, laidLooks := .later }
def ModelRestrictsUptoCardSaid : Prop := Claim7.holds Tryd.pinned (.plain (OpenSpec.upto modelRestrictsSpec)) modelRestrictsUptoCard

/-- THE SECOND FORM's CARD OF 'wittinglaw13.ModelUnions'. -/
def modelUnionsUptoCard : Claim7 := { stood := { row := modelUnionsUptoRow, standIns := [], harness := (true, "923a5103aa9ebe2d3d23c65ea2beb1697db83772228f7910603329077236851b"), looks := false }, kinds := [], alts := [], laidByText := true, laidKinds := [.data], laidTests := true, laidLooks := .later }
def ModelUnionsUptoCardSaid : Prop := Claim7.holds Tryd.pinned (.plain (OpenSpec.upto modelUnionsSpec)) modelUnionsUptoCard

/-- THE SECOND FORM's CARD OF 'wittinglaw13.ModelGroups'. -/
def modelGroupsUptoCard : Claim7 := { stood := { row := modelGroupsUptoRow, standIns := [], harness := (true, "923a5103aa9ebe2d3d23c65ea2beb1697db83772228f7910603329077236851b"), looks := false }, kinds := [], alts := [], laidByText := true, laidKinds := [.data], laidTests := true, laidLooks := .later }
def ModelGroupsUptoCardSaid : Prop := Claim7.holds Tryd.pinned (.plain (OpenSpec.upto modelGroupsSpec)) modelGroupsUptoCard

/-- THE SECOND FORM's CARD OF 'wittinglaw13.ModelTwice'. -/
def modelTwiceUptoCard : Claim7 := { stood := { row := modelTwiceUptoRow, standIns := [], harness := (true, "923a5103aa9ebe2d3d23c65ea2beb1697db83772228f7910603329077236851b"), looks := false }, kinds := [], alts := [], laidByText := true, laidKinds := [.data], laidTests := true, laidLooks := .later }
def ModelTwiceUptoCardSaid : Prop := Claim7.holds Tryd.pinned (.plain (OpenSpec.upto modelTwiceSpec)) modelTwiceUptoCard

/-- THE SECOND FORM's CARD OF 'wittinglaw13.ModelCloses'. -/
def modelClosesUptoCard : Claim7 := { stood := { row := modelClosesUptoRow, standIns := [], harness := (true, "923a5103aa9ebe2d3d23c65ea2beb1697db83772228f7910603329077236851b"), looks := false }, kinds := [], alts := [], laidByText := true, laidKinds := [.data], laidTests := true, laidLooks := .later }
def ModelClosesUptoCardSaid : Prop := Claim7.holds Tryd.pinned (.plain (OpenSpec.upto modelClosesSpec)) modelClosesUptoCard

/-- THE SECOND FORM's CARD OF 'wittinglaw13.ModelNames'. -/
def modelNamesUptoCard : Claim7 := { stood := { row := modelNamesUptoRow, standIns := [], harness := (true, "923a5103aa9ebe2d3d23c65ea2beb1697db83772228f7910603329077236851b"), looks := false }, kinds := [], alts := [], laidByText := true, laidKinds := [.data], laidTests := true, laidLooks := .later }
def ModelNamesUptoCardSaid : Prop := Claim7.holds Tryd.pinned (.plain (OpenSpec.upto modelNamesSpec)) modelNamesUptoCard

/-- THE SECOND FORM's CARD OF 'wittinglaw13.ModelParts'. -/
def modelPartsUptoCard : Claim7 := { stood := { row := modelPartsUptoRow, standIns := [], harness := (true, "923a5103aa9ebe2d3d23c65ea2beb1697db83772228f7910603329077236851b"), looks := false }, kinds := [], alts := [], laidByText := true, laidKinds := [.data], laidTests := true, laidLooks := .later }
def ModelPartsUptoCardSaid : Prop := Claim7.holds Tryd.pinned (.plain (OpenSpec.upto modelPartsSpec)) modelPartsUptoCard
end Rows
end Go.Proofs.YtkinhajadppfaaaDoor
