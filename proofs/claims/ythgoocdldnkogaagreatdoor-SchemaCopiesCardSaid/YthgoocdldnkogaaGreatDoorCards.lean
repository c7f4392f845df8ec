/-
  DERIVED. GIVEN WITH THE SEED: THE CARDS: each row of YthgoocdldnkogaaGreatDoorRows.lean that lists a variable, with what it lists TIED to the program's text (the seventh form; the later family's looks); each row that meets fmt, with fmt's text TOLD by the authors' own Lean function (tested against real Go, not proved from fmt's source: count such statements apart). THE CARD IS WHAT COUNTS. Prove the row's statement (the work); the ties are given (YthgoocdldnkogaaGreatDoorTie.lean); close each card by the builder's one call (the guide's Derived/Test/ToyasCard.lean, 'card_holds'). Laid BY PROGRAM, IN A SANDBOX (cutbox-door.mjs). By AI agents, Wed Nov 11 2026. No macro, syntax, notation, axiom, sorry.
-/
import Derived.Test.YthgoocdldnkogaaGreatDoorRows
import GoSem.ClaimSeven
namespace Go.Proofs.YthgoocdldnkogaaGreatDoor
namespace Rows

/-- THE TIED CARD OF 'refitlaw14.LadderGrows'. -/
def ladderGrowsCard : Claim7 := { stood := { row := ladderGrowsRow, standIns := [], harness := (true, "2dc7600be22806f94d4829a1398547c2361ca1fab10fa56547f9296c30b52c7f"), looks := false }, kinds := [], alts := [], laidByText := true, laidKinds := [.data, .pinned], laidTests := true, laidLooks := .later }
def LadderGrowsCardSaid : Prop := Claim7.holds Tryz.pinned (.plain (OpenSpec.ofChange ladderGrowsSpec)) ladderGrowsCard

/-- THE TIED CARD OF 'refitlaw14.LadderSteps'. -/
def ladderStepsCard : Claim7 := { stood := { row := ladderStepsRow, standIns := [], harness := (true, "2dc7600be22806f94d4829a1398547c2361ca1fab10fa56547f9296c30b52c7f"), looks := false }, kinds := [], alts := [], laidByText := true, laidKinds := [.data, .pinned], laidTests := true, laidLooks := .later }
def LadderStepsCardSaid : Prop := Claim7.holds Tryz.pinned (.plain (OpenSpec.ofChange ladderStepsSpec)) ladderStepsCard

/-- THE TIED CARD OF 'refitlaw14.LadderLegal'. -/
def ladderLegalCard : Claim7 := { stood := { row := ladderLegalRow, standIns := [], harness := (true, "2dc7600be22806f94d4829a1398547c2361ca1fab10fa56547f9296c30b52c7f"), looks := false }, kinds := [], alts := [], laidByText := true, laidKinds := [.data, .pinned], laidTests := true, laidLooks := .later }
def LadderLegalCardSaid : Prop := Claim7.holds Tryz.pinned (.plain (OpenSpec.ofChange ladderLegalSpec)) ladderLegalCard

/-- THE TIED CARD OF 'refitlaw12.SchemaCopies'. -/
def schemaCopiesCard : Claim7 := { stood := { row := schemaCopiesRow, standIns := [], harness := (true, "2dc7600be22806f94d4829a1398547c2361ca1fab10fa56547f9296c30b52c7f"), looks := false }, kinds := [], alts := [], laidByText := true, laidKinds := [.data, .pinned], laidTests := true, laidLooks := .later }
def SchemaCopiesCardSaid : Prop := Claim7.holds Tryz.pinned (.plain (OpenSpec.ofChange schemaCopiesSpec)) schemaCopiesCard

/-- THE TIED CARD OF 'refitlaw16.JobClimbs'. -/
def jobClimbsCard : Claim7 := { stood := { row := jobClimbsRow, standIns := [], harness := (true, "2dc7600be22806f94d4829a1398547c2361ca1fab10fa56547f9296c30b52c7f"), looks := false }, kinds := [], alts := [], laidByText := true, laidKinds := [.data, .pinned], laidTests := true, laidLooks := .later }
def JobClimbsCardSaid : Prop := Claim7.holds Tryz.pinned (.plain (OpenSpec.ofChange jobClimbsSpec)) jobClimbsCard

/-- THE TIED CARD OF 'refitlaw16.JobEnds'. -/
def jobEndsCard : Claim7 := { stood := { row := jobEndsRow, standIns := [], harness := (true, "2dc7600be22806f94d4829a1398547c2361ca1fab10fa56547f9296c30b52c7f"), looks := false }, kinds := [], alts := [], laidByText := true, laidKinds := [.data, .pinned], laidTests := true, laidLooks := .later }
def JobEndsCardSaid : Prop := Claim7.holds Tryz.pinned (.plain (OpenSpec.ofChange jobEndsSpec)) jobEndsCard

/-- THE SECOND FORM's CARD OF 'refitlaw14.LadderGrows'. -/
def ladderGrowsUptoCard : Claim7 := { stood := { row := ladderGrowsUptoRow, standIns := [], harness := (true, "2dc7600be22806f94d4829a1398547c2361ca1fab10fa56547f9296c30b52c7f"), looks := false }, kinds := [], alts := [], laidByText := true, laidKinds := [.data, .pinned], laidTests := true, laidLooks := .later }
def LadderGrowsUptoCardSaid : Prop := Claim7.holds Tryz.pinned (.plain (OpenSpec.upto ladderGrowsSpec)) ladderGrowsUptoCard

/-- THE SECOND FORM's CARD OF 'refitlaw14.LadderSteps'. -/
def ladderStepsUptoCard : Claim7 := { stood := { row := ladderStepsUptoRow, standIns := [], harness := (true, "2dc7600be22806f94d4829a1398547c2361ca1fab10fa56547f9296c30b52c7f"), looks := false }, kinds := [], alts := [], laidByText := true, laidKinds := [.data, .pinned], laidTests := true, laidLooks := .later }
def LadderStepsUptoCardSaid : Prop := Claim7.holds Tryz.pinned (.plain (OpenSpec.upto ladderStepsSpec)) ladderStepsUptoCard

/-- THE SECOND FORM's CARD OF 'refitlaw14.LadderLegal'. -/
def ladderLegalUptoCard : Claim7 := { stood := { row := ladderLegalUptoRow, standIns := [], harness := (true, "2dc7600be22806f94d4829a1398547c2361ca1fab10fa56547f9296c30b52c7f"), looks := false }, kinds := [], alts := [], laidByText := true, laidKinds := [.data, .pinned], laidTests := true, laidLooks := .later }
def LadderLegalUptoCardSaid : Prop := Claim7.holds Tryz.pinned (.plain (OpenSpec.upto ladderLegalSpec)) ladderLegalUptoCard

/-- THE SECOND FORM's CARD OF 'refitlaw12.SchemaCopies'. -/
def schemaCopiesUptoCard : Claim7 := { stood := { row := schemaCopiesUptoRow, standIns := [], harness := (true, "2dc7600be22806f94d4829a1398547c2361ca1fab10fa56547f9296c30b52c7f"), looks := false }, kinds := [], alts := [], laidByText := true, laidKinds := [.data, .pinned], laidTests := true, laidLooks := .later }
def SchemaCopiesUptoCardSaid : Prop := Claim7.holds Tryz.pinned (.plain (OpenSpec.upto schemaCopiesSpec)) schemaCopiesUptoCard

/-- THE SECOND FORM's CARD OF 'refitlaw16.JobClimbs'. -/
def jobClimbsUptoCard : Claim7 := { stood := { row := jobClimbsUptoRow, standIns := [], harness := (true, "2dc7600be22806f94d4829a1398547c2361ca1fab10fa56547f9296c30b52c7f"), looks := false }, kinds := [], alts := [], laidByText := true, laidKinds := [.data, .pinned], laidTests := true, laidLooks := .later }
def JobClimbsUptoCardSaid : Prop := Claim7.holds Tryz.pinned (.plain (OpenSpec.upto jobClimbsSpec)) jobClimbsUptoCard

/-- THE SECOND FORM's CARD OF 'refitlaw16.JobEnds'. -/
def jobEndsUptoCard : Claim7 := { stood := { row := jobEndsUptoRow, standIns := [], harness := (true, "2dc7600be22806f94d4829a1398547c2361ca1fab10fa56547f9296c30b52c7f"), looks := false }, kinds := [], alts := [], laidByText := true, laidKinds := [.data, .pinned], laidTests := true, laidLooks := .later }
def JobEndsUptoCardSaid : Prop := Claim7.holds Tryz.pinned (.plain (OpenSpec.upto jobEndsSpec)) jobEndsUptoCard
end Rows
end Go.Proofs.YthgoocdldnkogaaGreatDoor
