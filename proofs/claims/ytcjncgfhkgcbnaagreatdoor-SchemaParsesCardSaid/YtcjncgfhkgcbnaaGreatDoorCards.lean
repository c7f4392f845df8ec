/-
  DERIVED. GIVEN WITH THE SEED: THE CARDS: each row of YtcjncgfhkgcbnaaGreatDoorRows.lean that lists a variable, with what it lists TIED to the program's text (the seventh form; the later family's looks); each row that meets fmt, with fmt's text TOLD by the authors' own Lean function (tested against real Go, not proved from fmt's source: count such statements apart). THE CARD IS WHAT COUNTS. Prove the row's statement (the work); the ties are given (YtcjncgfhkgcbnaaGreatDoorTie.lean); close each card by the builder's one call (the guide's Derived/Test/ToyasCard.lean, 'card_holds'). Laid BY PROGRAM, IN A SANDBOX (cutbox-door.mjs). By AI agents, Wed Nov 11 2026. No macro, syntax, notation, axiom, sorry.
-/
import Derived.Test.YtcjncgfhkgcbnaaGreatDoorRows
import GoSem.ClaimSeven
namespace Go.Proofs.YtcjncgfhkgcbnaaGreatDoor
namespace Rows

/-- THE TIED CARD OF 'refitlaw12.SchemaPuts'. -/
def schemaPutsCard : Claim7 := { stood := { row := schemaPutsRow, standIns := [], harness := (true, "ad0b804e3be546837c20153fe04391f38a8a2d7669f4ef8a503f3c373a3cd7ad"), looks := false }, kinds := [], alts := [], laidByText := true, laidKinds := [.data, .pinned], laidTests := true, laidLooks := .later }
def SchemaPutsCardSaid : Prop := Claim7.holds Tryz.pinned (.plain (OpenSpec.ofChange schemaPutsSpec)) schemaPutsCard

/-- THE TIED CARD OF 'refitlaw12.SchemaParses'. -/
def schemaParsesCard : Claim7 := { stood := { row := schemaParsesRow, standIns := [], harness := (true, "ad0b804e3be546837c20153fe04391f38a8a2d7669f4ef8a503f3c373a3cd7ad"), looks := false }, kinds := [], alts := [], laidByText := true, laidKinds := [.data, .pinned], laidTests := true, laidLooks := .later }
def SchemaParsesCardSaid : Prop := Claim7.holds Tryz.pinned (.plain (OpenSpec.ofChange schemaParsesSpec)) schemaParsesCard

/-- THE TIED CARD OF 'refitlaw12.SchemaFinds'. -/
def schemaFindsCard : Claim7 := { stood := { row := schemaFindsRow, standIns := [], harness := (true, "ad0b804e3be546837c20153fe04391f38a8a2d7669f4ef8a503f3c373a3cd7ad"), looks := false }, kinds := [], alts := [], laidByText := true, laidKinds := [.data, .pinned], laidTests := true, laidLooks := .later }
def SchemaFindsCardSaid : Prop := Claim7.holds Tryz.pinned (.plain (OpenSpec.ofChange schemaFindsSpec)) schemaFindsCard

/-- THE TIED CARD OF 'refitlaw12.SchemaCopies'. -/
def schemaCopiesCard : Claim7 := { stood := { row := schemaCopiesRow, standIns := [], harness := (true, "ad0b804e3be546837c20153fe04391f38a8a2d7669f4ef8a503f3c373a3cd7ad"), looks := false }, kinds := [], alts := [], laidByText := true, laidKinds := [.data, .pinned], laidTests := true, laidLooks := .later }
def SchemaCopiesCardSaid : Prop := Claim7.holds Tryz.pinned (.plain (OpenSpec.ofChange schemaCopiesSpec)) schemaCopiesCard

/-- THE TIED CARD OF 'refitlaw16.JobClimbs'. -/
def jobClimbsCard : Claim7 := { stood := { row := jobClimbsRow, standIns := [], harness := (true, "ad0b804e3be546837c20153fe04391f38a8a2d7669f4ef8a503f3c373a3cd7ad"), looks := false }, kinds := [], alts := [], laidByText := true, laidKinds := [.data, .pinned], laidTests := true, laidLooks := .later }
def JobClimbsCardSaid : Prop := Claim7.holds Tryz.pinned (.plain (OpenSpec.ofChange jobClimbsSpec)) jobClimbsCard

/-- THE TIED CARD OF 'refitlaw16.JobEnds'. -/
def jobEndsCard : Claim7 := { stood := { row := jobEndsRow, standIns := [], harness := (true, "ad0b804e3be546837c20153fe04391f38a8a2d7669f4ef8a503f3c373a3cd7ad"), looks := false }, kinds := [], alts := [], laidByText := true, laidKinds := [.data, .pinned], laidTests := true, laidLooks := .later }
def JobEndsCardSaid : Prop := Claim7.holds Tryz.pinned (.plain (OpenSpec.ofChange jobEndsSpec)) jobEndsCard

/-- THE SECOND FORM's CARD OF 'refitlaw12.SchemaPuts'. -/
def schemaPutsUptoCard : Claim7 := { stood := { row := schemaPutsUptoRow, standIns := [], harness := (true, "ad0b804e3be546837c20153fe04391f38a8a2d7669f4ef8a503f3c373a3cd7ad"), looks := false }, kinds := [], alts := [], laidByText := true, laidKinds := [.data, .pinned], laidTests := true, laidLooks := .later }
def SchemaPutsUptoCardSaid : Prop := Claim7.holds Tryz.pinned (.plain (OpenSpec.upto schemaPutsSpec)) schemaPutsUptoCard

/-- THE SECOND FORM's CARD OF 'refitlaw12.SchemaParses'. -/
def schemaParsesUptoCard : Claim7 := { stood := { row := schemaParsesUptoRow, standIns := [], harness := (true, "ad0b804e3be546837c20153fe04391f38a8a2d7669f4ef8a503f3c373a3cd7ad"), looks := false }, kinds := [], alts := [], laidByText := true, laidKinds := [.data, .pinned], laidTests := true, laidLooks := .later }
def SchemaParsesUptoCardSaid : Prop := Claim7.holds Tryz.pinned (.plain (OpenSpec.upto schemaParsesSpec)) schemaParsesUptoCard

/-- THE SECOND FORM's CARD OF 'refitlaw12.SchemaFinds'. -/
def schemaFindsUptoCard : Claim7 := { stood := { row := schemaFindsUptoRow, standIns := [], harness := (true, "ad0b804e3be546837c20153fe04391f38a8a2d7669f4ef8a503f3c373a3cd7ad"), looks := false }, kinds := [], alts := [], laidByText := true, laidKinds := [.data, .pinned], laidTests := true, laidLooks := .later }
def SchemaFindsUptoCardSaid : Prop := Claim7.holds Tryz.pinned (.plain (OpenSpec.upto schemaFindsSpec)) schemaFindsUptoCard

/-- THE SECOND FORM's CARD OF 'refitlaw12.SchemaCopies'. -/
def schemaCopiesUptoCard : Claim7 := { stood := { row := schemaCopiesUptoRow, standIns := [], harness := (true, "ad0b804e3be546837c20153fe04391f38a8a2d7669f4ef8a503f3c373a3cd7ad"), looks := false }, kinds := [], alts := [], laidByText := true, laidKinds := [.data, .pinned], laidTests := true, laidLooks := .later }
def SchemaCopiesUptoCardSaid : Prop := Claim7.holds Tryz.pinned (.plain (OpenSpec.upto schemaCopiesSpec)) schemaCopiesUptoCard

/-- THE SECOND FORM's CARD OF 'refitlaw16.JobClimbs'. -/
def jobClimbsUptoCard : Claim7 := { stood := { row := jobClimbsUptoRow, standIns := [], harness := (true, "ad0b804e3be546837c20153fe04391f38a8a2d7669f4ef8a503f3c373a3cd7ad"), looks := false }, kinds := [], alts := [], laidByText := true, laidKinds := [.data, .pinned], laidTests := true, laidLooks := .later }
def JobClimbsUptoCardSaid : Prop := Claim7.holds Tryz.pinned (.plain (OpenSpec.upto jobClimbsSpec)) jobClimbsUptoCard

/-- THE SECOND FORM's CARD OF 'refitlaw16.JobEnds'. -/
def jobEndsUptoCard : Claim7 := { stood := { row := jobEndsUptoRow, standIns := [], harness := (true, "ad0b804e3be546837c20153fe04391f38a8a2d7669f4ef8a503f3c373a3cd7ad"), looks := false }, kinds := [], alts := [], laidByText := true, laidKinds := [.data, .pinned], laidTests := true, laidLooks := .later }
def JobEndsUptoCardSaid : Prop := Claim7.holds Tryz.pinned (.plain (OpenSpec.upto jobEndsSpec)) jobEndsUptoCard
end Rows
end Go.Proofs.YtcjncgfhkgcbnaaGreatDoor
