/-
  DERIVED. GIVEN WITH THE SEED: THE CARDS: each row of YtfaehcooldhddaaDoorRows.lean that lists a variable, with what it lists TIED to the program's text (the seventh form; the later family's looks); each row that meets fmt, with fmt's text TOLD by the authors' own Lean function (tested against real Go, not proved from fmt's source: count such statements apart). THE CARD IS WHAT COUNTS. Prove the row's statement (the work); the ties are given (YtfaehcooldhddaaDoorTie.lean); close each card by the builder's one call (the guide's Derived/Test/ToyasCard.lean, 'card_holds'). Laid BY PROGRAM, IN A SANDBOX (cutbox-door.mjs). By AI agents, Wed Nov 11 2026. No macro, syntax, notation, axiom, sorry.
-/
import Derived.Test.YtfaehcooldhddaaDoorRows
import GoSem.ClaimSeven
namespace Go.Proofs.YtfaehcooldhddaaDoor
namespace Rows

/-- THE TIED CARD OF 'wittinglaw09.BooleanTables'. -/
def booleanTablesCard : Claim7 := { stood := { row := booleanTablesRow, standIns := [], harness := (true, "479882298127d87c00e8ae9b1bf7638eaadd06e0422b0a2e78efa21b84213e25"), looks := false }, kinds := [], alts := [], laidByText := true, laidKinds := [.data, .data], laidTests := true, laidLooks := .later }
def BooleanTablesCardSaid : Prop := Claim7.holds Tryd.pinned (.plain (OpenSpec.ofChange booleanTablesSpec)) booleanTablesCard

/-- THE TIED CARD OF 'wittinglaw09.BooleanAtoms'. -/
def booleanAtomsCard : Claim7 := { stood := { row := booleanAtomsRow, standIns := [], harness := (true, "479882298127d87c00e8ae9b1bf7638eaadd06e0422b0a2e78efa21b84213e25"), looks := false }, kinds := [], alts := [], laidByText := true, laidKinds := [.data, .data], laidTests := true, laidLooks := .later }
def BooleanAtomsCardSaid : Prop := Claim7.holds Tryd.pinned (.plain (OpenSpec.ofChange booleanAtomsSpec)) booleanAtomsCard

/-- THE TIED CARD OF 'wittinglaw09.BooleanTautologies'. -/
def booleanTautologiesCard : Claim7 := { stood := { row := booleanTautologiesRow, standIns := [], harness := (true, "479882298127d87c00e8ae9b1bf7638eaadd06e0422b0a2e78efa21b84213e25"), looks := false }, kinds := [], alts := [], laidByText := true, laidKinds := [.data, .data], laidTests := true, laidLooks := .later }
def BooleanTautologiesCardSaid : Prop := Claim7.holds Tryd.pinned (.plain (OpenSpec.ofChange booleanTautologiesSpec)) booleanTautologiesCard

/-- THE TIED CARD OF 'wittinglaw09.BooleanPrimes'. -/
def booleanPrimesCard : Claim7 := { stood := { row := booleanPrimesRow, standIns := [], harness := (true, "479882298127d87c00e8ae9b1bf7638eaadd06e0422b0a2e78efa21b84213e25"), looks := false }, kinds := [], alts := [], laidByText := true, laidKinds := [.data, .data], laidTests := true, laidLooks := .later }
def BooleanPrimesCardSaid : Prop := Claim7.holds Tryd.pinned (.plain (OpenSpec.ofChange booleanPrimesSpec)) booleanPrimesCard

/-- THE TIED CARD OF 'wittinglaw09.BooleanCovers'. -/
def booleanCoversCard : Claim7 := { stood := { row := booleanCoversRow, standIns := [], harness := (true, "479882298127d87c00e8ae9b1bf7638eaadd06e0422b0a2e78efa21b84213e25"), looks := false }, kinds := [], alts := [], laidByText := true, laidKinds := [.data, .data], laidTests := true, laidLooks := .later }
def BooleanCoversCardSaid : Prop := Claim7.holds Tryd.pinned (.plain (OpenSpec.ofChange booleanCoversSpec)) booleanCoversCard

/-- THE TIED CARD OF 'wittinglaw09.BooleanFull'. -/
def booleanFullCard : Claim7 := { stood := { row := booleanFullRow, standIns := [], harness := (true, "479882298127d87c00e8ae9b1bf7638eaadd06e0422b0a2e78efa21b84213e25"), looks := false }, kinds := [], alts := [], laidByText := true, laidKinds := [.data, .data], laidTests := true, laidLooks := .later }
def BooleanFullCardSaid : Prop := Claim7.holds Tryd.pinned (.plain (OpenSpec.ofChange booleanFullSpec)) booleanFullCard

/-- THE TIED CARD OF 'wittinglaw09.BooleanModal'. -/
def booleanModalCard : Claim7 := { stood := { row := booleanModalRow, standIns := [], harness := (true, "479882298127d87c00e8ae9b1bf7638eaadd06e0422b0a2e78efa21b84213e25"), looks := false }, kinds := [], alts := [], laidByText := true, laidKinds := [.data, .data], laidTests := true, laidLooks := .later }
def BooleanModalCardSaid : Prop := Claim7.holds Tryd.pinned (.plain (OpenSpec.ofChange booleanModalSpec)) booleanModalCard

/-- THE TIED CARD OF 'wittinglaw09.BooleanBack'. -/
def booleanBackCard : Claim7 := { stood := { row := booleanBackRow, standIns := [], harness := (true, "479882298127d87c00e8ae9b1bf7638eaadd06e0422b0a2e78efa21b84213e25"), looks := false }, kinds := [], alts := [], laidByText := true, laidKinds := [.data, .data], laidTests := true, laidLooks := .later }
def BooleanBackCardSaid : Prop := Claim7.holds Tryd.pinned (.plain (OpenSpec.ofChange booleanBackSpec)) booleanBackCard

/-- THE SECOND FORM's CARD OF 'wittinglaw09.BooleanTables'. -/
def booleanTablesUptoCard : Claim7 := { stood := { row := booleanTablesUptoRow, standIns := [], harness := (true, "479882298127d87c00e8ae9b1bf7638eaadd06e0422b0a2e78efa21b84213e25"), looks := false }, kinds := [], alts := [], laidByText := true, laidKinds := [.data, .data], laidTests := true, laidLooks := .later }
def BooleanTablesUptoCardSaid : Prop := Claim7.holds Tryd.pinned (.plain (OpenSpec.upto booleanTablesSpec)) booleanTablesUptoCard

/-- THE SECOND FORM's CARD OF 'wittinglaw09.BooleanAtoms'. -/
def booleanAtomsUptoCard : Claim7 := { stood := { row := booleanAtomsUptoRow, standIns := [], harness := (true, "479882298127d87c00e8ae9b1bf7638eaadd06e0422b0a2e78efa21b84213e25"), looks := false }, kinds := [], alts := [], laidByText := true, laidKinds := [.data, .data], laidTests := true, laidLooks := .later }
def BooleanAtomsUptoCardSaid : Prop := Claim7.holds Tryd.pinned (.plain (OpenSpec.upto booleanAtomsSpec)) booleanAtomsUptoCard

/-- THE SECOND FORM's CARD OF 'wittinglaw09.BooleanTautologies'. -/
def booleanTautologiesUptoCard : Claim7 := { stood := { row := booleanTautologiesUptoRow, standIns := [], harness := (true, "479882298127d87c00e8ae9b1bf7638eaadd06e0422b0a2e78efa21b84213e25"), looks := false }, kinds := [], alts := [], laidByText := true, laidKinds := [.data, .data], laidTests := true, laidLooks := .later }
def BooleanTautologiesUptoCardSaid : Prop := Claim7.holds Tryd.pinned (.plain (OpenSpec.upto booleanTautologiesSpec)) booleanTautologiesUptoCard

/-- THE SECOND FORM's CARD OF 'wittinglaw09.BooleanPrimes'. -/
def booleanPrimesUptoCard : Claim7 := { stood := { row := booleanPrimesUptoRow, standIns := [], harness := (true, "479882298127d87c00e8ae9b1bf7638eaadd06e0422b0a2e78efa21b84213e25"), looks := false }, kinds := [], alts := [], laidByText := true, laidKinds := [.data, .data], laidTests := true, laidLooks := .later }
def BooleanPrimesUptoCardSaid : Prop := Claim7.holds Tryd.pinned (.plain (OpenSpec.upto booleanPrimesSpec)) booleanPrimesUptoCard

/-- THE SECOND FORM's CARD OF 'wittinglaw09.BooleanCovers'. -/
def booleanCoversUptoCard : Claim7 := { stood := { row := booleanCoversUptoRow, standIns := [], harness := (true, "479882298127d87c00e8ae9b1bf7638eaadd06e0422b0a2e78efa21b84213e25"), looks := false }, kinds := [], alts := [], laidByText := true, laidKinds := [.data, .data], laidTests := true, laidLooks := .later }
def BooleanCoversUptoCardSaid : Prop := Claim7.holds Tryd.pinned (.plain (OpenSpec.upto booleanCoversSpec)) booleanCoversUptoCard

/-- THE SECOND FORM's CARD OF 'wittinglaw09.BooleanFull'. -/
def booleanFullUptoCard : Claim7 := { stood := { row := booleanFullUptoRow, standIns := [], harness := (true, "479882298127d87c00e8ae9b1bf7638eaadd06e0422b0a2e78efa21b84213e25"), looks := false }, kinds := [], alts := [], laidByText := true, laidKinds := [.data, .data], laidTests := true, laidLooks := .later }
def BooleanFullUptoCardSaid : Prop := Claim7.holds Tryd.pinned (.plain (OpenSpec.upto booleanFullSpec)) booleanFullUptoCard

/-- THE SECOND FORM's CARD OF 'wittinglaw09.BooleanModal'. -/
def booleanModalUptoCard : Claim7 := { stood := { row := booleanModalUptoRow, standIns := [], harness := (true, "479882298127d87c00e8ae9b1bf7638eaadd06e0422b0a2e78efa21b84213e25"), looks := false }, kinds := [], alts := [], laidByText := true, laidKinds := [.data, .data], laidTests := true, laidLooks := .later }
def BooleanModalUptoCardSaid : Prop := Claim7.holds Tryd.pinned (.plain (OpenSpec.upto booleanModalSpec)) booleanModalUptoCard

/-- THE SECOND FORM's CARD OF 'wittinglaw09.BooleanBack'. -/
def booleanBackUptoCard : Claim7 := { stood := { row := booleanBackUptoRow, standIns := [], harness := (true, "479882298127d87c00e8ae9b1bf7638eaadd06e0422b0a2e78efa21b84213e25"), looks := false }, kinds := [], alts := [], laidByText := true, laidKinds := [.data, .data], laidTests := true, laidLooks := .later }
def BooleanBackUptoCardSaid : Prop := Claim7.holds Tryd.pinned (.plain (OpenSpec.upto booleanBackSpec)) booleanBackUptoCard
end Rows
end Go.Proofs.YtfaehcooldhddaaDoor
