/-
  DERIVED. GIVEN WITH THE SEED: THE CARDS: each row of YtomhhpjpmlpijaaDoorRows.lean that lists a variable, with what it lists TIED to the program's text (the seventh form; the later family's looks); each row that meets fmt, with fmt's text TOLD by the authors' own Lean function (tested against real Go, not proved from fmt's source: count such statements apart). THE CARD IS WHAT COUNTS. Prove the row's statement (the work); the ties are given (YtomhhpjpmlpijaaDoorTie.lean); close each card by the builder's one call (the guide's Derived/Test/ToyasCard.lean, 'card_holds'). Laid BY PROGRAM, IN A SANDBOX (cutbox-door.mjs). By AI agents, Wed Nov 11 2026. No macro, syntax, notation, axiom, sorry.
-/
import Derived.Test.YtomhhpjpmlpijaaDoorRows
import GoSem.ClaimSeven
namespace Go.Proofs.YtomhhpjpmlpijaaDoor
namespace Rows

/-- THE TIED CARD OF 'graduslaw03.TypesNorm'. -/
def typesNormCard : Claim7 := { stood := { row := typesNormRow, standIns := [], harness := (true, "30d95a3d3deb46e2bf0627001b8b8aaf263170a0381b421e3db2b4777eca261b"), looks := false }, kinds := [], alts := [], laidByText := true, laidKinds := [.listed, .data], laidTests := true, laidLooks := .later }
def TypesNormCardSaid : Prop := Claim7.holds Tryd.pinned (.plain (OpenSpec.ofChange typesNormSpec)) typesNormCard

/-- THE TIED CARD OF 'graduslaw03.TypesMeasure'. -/
def typesMeasureCard : Claim7 := { stood := { row := typesMeasureRow, standIns := [], harness := (true, "30d95a3d3deb46e2bf0627001b8b8aaf263170a0381b421e3db2b4777eca261b"), looks := false }, kinds := [], alts := [], laidByText := true, laidKinds := [.listed, .data], laidTests := true, laidLooks := .later }
def TypesMeasureCardSaid : Prop := Claim7.holds Tryd.pinned (.plain (OpenSpec.ofChange typesMeasureSpec)) typesMeasureCard

/-- THE TIED CARD OF 'graduslaw03.TypesSame'. -/
def typesSameCard : Claim7 := { stood := { row := typesSameRow, standIns := [], harness := (true, "30d95a3d3deb46e2bf0627001b8b8aaf263170a0381b421e3db2b4777eca261b"), looks := false }, kinds := [], alts := [], laidByText := true, laidKinds := [.listed, .data], laidTests := true, laidLooks := .later }
def TypesSameCardSaid : Prop := Claim7.holds Tryd.pinned (.plain (OpenSpec.ofChange typesSameSpec)) typesSameCard

/-- THE TIED CARD OF 'graduslaw03.TypesShow'. -/
def typesShowCard : Claim7 := { stood := { row := typesShowRow, standIns := [], harness := (true, "30d95a3d3deb46e2bf0627001b8b8aaf263170a0381b421e3db2b4777eca261b"), looks := false }, kinds := [], alts := [], laidByText := true, laidKinds := [.listed, .data], laidTests := true, laidLooks := .later }
def TypesShowCardSaid : Prop := Claim7.holds Tryd.pinned (.plain (OpenSpec.ofChange typesShowSpec)) typesShowCard

/-- THE TIED CARD OF 'graduslaw03.TypesUnions'. -/
def typesUnionsCard : Claim7 := { stood := { row := typesUnionsRow, standIns := [], harness := (true, "30d95a3d3deb46e2bf0627001b8b8aaf263170a0381b421e3db2b4777eca261b"), looks := false }, kinds := [], alts := [], laidByText := true, laidKinds := [.listed, .data], laidTests := true, laidLooks := .later }
def TypesUnionsCardSaid : Prop := Claim7.holds Tryd.pinned (.plain (OpenSpec.ofChange typesUnionsSpec)) typesUnionsCard

/-- THE TIED CARD OF 'graduslaw03.TypesFields'. -/
def typesFieldsCard : Claim7 := { stood := { row := typesFieldsRow, standIns := [], harness := (true, "30d95a3d3deb46e2bf0627001b8b8aaf263170a0381b421e3db2b4777eca261b"), looks := false }, kinds := [], alts := [], laidByText := true, laidKinds := [.listed, .data], laidTests := true, laidLooks := .later }
def TypesFieldsCardSaid : Prop := Claim7.holds Tryd.pinned (.plain (OpenSpec.ofChange typesFieldsSpec)) typesFieldsCard

/-- THE TIED CARD OF 'graduslaw03.TypesWithin'. -/
def typesWithinCard : Claim7 := { stood := { row := typesWithinRow, standIns := [], harness := (true, "30d95a3d3deb46e2bf0627001b8b8aaf263170a0381b421e3db2b4777eca261b"), looks := false }, kinds := [], alts := [], laidByText := true, laidKinds := [.listed, .data], laidTests := true, laidLooks := .later }
def TypesWithinCardSaid : Prop := Claim7.holds Tryd.pinned (.plain (OpenSpec.ofChange typesWithinSpec)) typesWithinCard

/-- THE TIED CARD OF 'graduslaw03.TypesParts'. -/
def typesPartsCard : Claim7 := { stood := { row := typesPartsRow, standIns := [], harness := (true, "30d95a3d3deb46e2bf0627001b8b8aaf263170a0381b421e3db2b4777eca261b"), looks := false }, kinds := [], alts := [], laidByText := true, laidKinds := [.listed, .data], laidTests := true, laidLooks := .later }
def TypesPartsCardSaid : Prop := Claim7.holds Tryd.pinned (.plain (OpenSpec.ofChange typesPartsSpec)) typesPartsCard

/-- THE SECOND FORM's CARD OF 'graduslaw03.TypesNorm'. -/
def typesNormUptoCard : Claim7 := { stood := { row := typesNormUptoRow, standIns := [], harness := (true, "30d95a3d3deb46e2bf0627001b8b8aaf263170a0381b421e3db2b4777eca261b"), looks := false }, kinds := [], alts := [], laidByText := true, laidKinds := [.listed, .data], laidTests := true, laidLooks := .later }
def TypesNormUptoCardSaid : Prop := Claim7.holds Tryd.pinned (.plain (OpenSpec.upto typesNormSpec)) typesNormUptoCard

/-- THE SECOND FORM's CARD OF 'graduslaw03.TypesMeasure'. -/
def typesMeasureUptoCard : Claim7 := { stood := { row := typesMeasureUptoRow, standIns := [], harness := (true, "30d95a3d3deb46e2bf0627001b8b8aaf263170a0381b421e3db2b4777eca261b"), looks := false }, kinds := [], alts := [], laidByText := true, laidKinds := [.listed, .data], laidTests := true, laidLooks := .later }
def TypesMeasureUptoCardSaid : Prop := Claim7.holds Tryd.pinned (.plain (OpenSpec.upto typesMeasureSpec)) typesMeasureUptoCard

/-- THE SECOND FORM's CARD OF 'graduslaw03.TypesSame'. -/
def typesSameUptoCard : Claim7 := { stood := { row := typesSameUptoRow, standIns := [], harness := (true, "30d95a3d3deb46e2bf0627001b8b8aaf263170a0381b421e3db2b4777eca261b"), looks := false }, kinds := [], alts := [], laidByText := true, laidKinds := [.listed, .data], laidTests := true, laidLooks := .later }
def TypesSameUptoCardSaid : Prop := Claim7.holds Tryd.pinned (.plain (OpenSpec.upto typesSameSpec)) typesSameUptoCard

/-- THE SECOND FORM's CARD OF 'graduslaw03.TypesShow'. -/
def typesShowUptoCard : Claim7 := { stood := { row := typesShowUptoRow, standIns := [], harness := (true, "30d95a3d3deb46e2bf0627001b8b8aaf263170a0381b421e3db2b4777eca261b"), looks := false }, kinds := [], alts := [], laidByText := true, laidKinds := [.listed, .data], laidTests := true, laidLooks := .later }
def TypesShowUptoCardSaid : Prop := Claim7.holds Tryd.pinned (.plain (OpenSpec.upto typesShowSpec)) typesShowUptoCard

/-- THE SECOND FORM's CARD OF 'graduslaw03.TypesUnions'. -/
def typesUnionsUptoCard : Claim7 := { stood := { row := typesUnionsUptoRow, standIns := [], harness := (true, "30d95a3d3deb46e2bf0627001b8b8aaf263170a0381b421e3db2b4777eca261b"), looks := false }, kinds := [], alts := [], laidByText := true, laidKinds := [.listed, .data], laidTests := true, laidLooks := .later }
def TypesUnionsUptoCardSaid : Prop := Claim7.holds Tryd.pinned (.plain (OpenSpec.upto typesUnionsSpec)) typesUnionsUptoCard

/-- THE SECOND FORM's CARD OF 'graduslaw03.TypesFields'. -/
def typesFieldsUptoCard : Claim7 := { stood := { row := typesFieldsUptoRow, standIns := [], harness := (true, "30d95a3d3deb46e2bf0627001b8b8aaf263170a0381b421e3db2b4777eca261b"), looks := false }, kinds := [], alts := [], laidByText := true, laidKinds := [.listed, .data], laidTests := true, laidLooks := .later }
def TypesFieldsUptoCardSaid : Prop := Claim7.holds Tryd.pinned (.plain (OpenSpec.upto typesFieldsSpec)) typesFieldsUptoCard

/-- THE SECOND FORM's CARD OF 'graduslaw03.TypesWithin'. -/
def typesWithinUptoCard : Claim7 := { stood := { row := typesWithinUptoRow, standIns := [], harness := (true, "30d95a3d3deb46e2bf0627001b8b8aaf263170a0381b421e3db2b4777eca261b"), looks := false }, kinds := [], alts := [], laidByText := true, laidKinds := [.listed, .data], laidTests := true, laidLooks := .later }
def TypesWithinUptoCardSaid : Prop := Claim7.holds Tryd.pinned (.plain (OpenSpec.upto typesWithinSpec)) typesWithinUptoCard

/-- THE SECOND FORM's CARD OF 'graduslaw03.TypesParts'. -/
def typesPartsUptoCard : Claim7 := { stood := { row := typesPartsUptoRow, standIns := [], harness := (true, "30d95a3d3deb46e2bf0627001b8b8aaf263170a0381b421e3db2b4777eca261b"), looks := false }, kinds := [], alts := [], laidByText := true, laidKinds := [.listed, .data], laidTests := true, laidLooks := .later }
def TypesPartsUptoCardSaid : Prop := Claim7.holds Tryd.pinned (.plain (OpenSpec.upto typesPartsSpec)) typesPartsUptoCard
end Rows
end Go.Proofs.YtomhhpjpmlpijaaDoor
