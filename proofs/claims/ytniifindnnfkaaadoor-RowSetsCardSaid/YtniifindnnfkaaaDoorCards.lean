/-
  DERIVED. GIVEN WITH THE SEED: THE CARDS: each row of YtniifindnnfkaaaDoorRows.lean that lists a variable, with what it lists TIED to the program's text (the seventh form; the later family's looks); each row that meets fmt, with fmt's text TOLD by the authors' own Lean function (tested against real Go, not proved from fmt's source: count such statements apart). THE CARD IS WHAT COUNTS. Prove the row's statement (the work); the ties are given (YtniifindnnfkaaaDoorTie.lean); close each card by the builder's one call (the guide's Derived/Test/ToyasCard.lean, 'card_holds'). Laid BY PROGRAM, IN A SANDBOX (cutbox-door.mjs). By AI agents, Wed Nov 11 2026. No macro, syntax, notation, axiom, sorry.
-/
import Derived.Test.YtniifindnnfkaaaDoorRows
import GoSem.ClaimSeven
namespace Go.Proofs.YtniifindnnfkaaaDoor
namespace Rows

/-- THE TIED CARD OF 'refitlaw11.RowPuts'. -/
def rowPutsCard : Claim7 := { stood := { row := rowPutsRow, standIns := [], harness := (true, "2248018f2bd74f0b18b1c4aa83b19e1aa27aec1d3a176f7153a873f911b41b94"), looks := false }, kinds := [], alts := [], laidByText := true, laidKinds := [.data, .pinned], laidTests := true, laidLooks := .later }
def RowPutsCardSaid : Prop := Claim7.holds Tryd.pinned (.plain (OpenSpec.ofChange rowPutsSpec)) rowPutsCard

/-- THE TIED CARD OF 'refitlaw11.RowParses'. -/
def rowParsesCard : Claim7 := { stood := { row := rowParsesRow, standIns := [], harness := (true, "2248018f2bd74f0b18b1c4aa83b19e1aa27aec1d3a176f7153a873f911b41b94"), looks := false }, kinds := [], alts := [], laidByText := true, laidKinds := [.data, .pinned], laidTests := true, laidLooks := .later }
def RowParsesCardSaid : Prop := Claim7.holds Tryd.pinned (.plain (OpenSpec.ofChange rowParsesSpec)) rowParsesCard

/-- THE TIED CARD OF 'refitlaw11.RowGets'. -/
def rowGetsCard : Claim7 := { stood := { row := rowGetsRow, standIns := [], harness := (true, "2248018f2bd74f0b18b1c4aa83b19e1aa27aec1d3a176f7153a873f911b41b94"), looks := false }, kinds := [], alts := [], laidByText := true, laidKinds := [.data, .pinned], laidTests := true, laidLooks := .later }
def RowGetsCardSaid : Prop := Claim7.holds Tryd.pinned (.plain (OpenSpec.ofChange rowGetsSpec)) rowGetsCard

/-- THE TIED CARD OF 'refitlaw11.RowSets'. -/
def rowSetsCard : Claim7 := { stood := { row := rowSetsRow, standIns := [], harness := (true, "2248018f2bd74f0b18b1c4aa83b19e1aa27aec1d3a176f7153a873f911b41b94"), looks := false }, kinds := [], alts := [], laidByText := true, laidKinds := [.data, .pinned], laidTests := true, laidLooks := .later }
def RowSetsCardSaid : Prop := Claim7.holds Tryd.pinned (.plain (OpenSpec.ofChange rowSetsSpec)) rowSetsCard

/-- THE SECOND FORM's CARD OF 'refitlaw11.RowPuts'. -/
def rowPutsUptoCard : Claim7 := { stood := { row := rowPutsUptoRow, standIns := [], harness := (true, "2248018f2bd74f0b18b1c4aa83b19e1aa27aec1d3a176f7153a873f911b41b94"), looks := false }, kinds := [], alts := [], laidByText := true, laidKinds := [.data, .pinned], laidTests := true, laidLooks := .later }
def RowPutsUptoCardSaid : Prop := Claim7.holds Tryd.pinned (.plain (OpenSpec.upto rowPutsSpec)) rowPutsUptoCard

/-- THE SECOND FORM's CARD OF 'refitlaw11.RowParses'. -/
def rowParsesUptoCard : Claim7 := { stood := { row := rowParsesUptoRow, standIns := [], harness := (true, "2248018f2bd74f0b18b1c4aa83b19e1aa27aec1d3a176f7153a873f911b41b94"), looks := false }, kinds := [], alts := [], laidByText := true, laidKinds := [.data, .pinned], laidTests := true, laidLooks := .later }
def RowParsesUptoCardSaid : Prop := Claim7.holds Tryd.pinned (.plain (OpenSpec.upto rowParsesSpec)) rowParsesUptoCard

/-- THE SECOND FORM's CARD OF 'refitlaw11.RowGets'. -/
def rowGetsUptoCard : Claim7 := { stood := { row := rowGetsUptoRow, standIns := [], harness := (true, "2248018f2bd74f0b18b1c4aa83b19e1aa27aec1d3a176f7153a873f911b41b94"), looks := false }, kinds := [], alts := [], laidByText := true, laidKinds := [.data, .pinned], laidTests := true, laidLooks := .later }
def RowGetsUptoCardSaid : Prop := Claim7.holds Tryd.pinned (.plain (OpenSpec.upto rowGetsSpec)) rowGetsUptoCard

/-- THE SECOND FORM's CARD OF 'refitlaw11.RowSets'. -/
def rowSetsUptoCard : Claim7 := { stood := { row := rowSetsUptoRow, standIns := [], harness := (true, "2248018f2bd74f0b18b1c4aa83b19e1aa27aec1d3a176f7153a873f911b41b94"), looks := false }, kinds := [], alts := [], laidByText := true, laidKinds := [.data, .pinned], laidTests := true, laidLooks := .later }
def RowSetsUptoCardSaid : Prop := Claim7.holds Tryd.pinned (.plain (OpenSpec.upto rowSetsSpec)) rowSetsUptoCard
end Rows
end Go.Proofs.YtniifindnnfkaaaDoor
