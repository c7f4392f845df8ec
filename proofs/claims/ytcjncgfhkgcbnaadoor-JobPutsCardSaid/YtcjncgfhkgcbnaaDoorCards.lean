/-
  DERIVED. GIVEN WITH THE SEED: THE CARDS: each row of YtcjncgfhkgcbnaaDoorRows.lean that lists a variable, with what it lists TIED to the program's text (the seventh form; the later family's looks); each row that meets fmt, with fmt's text TOLD by the authors' own Lean function (tested against real Go, not proved from fmt's source: count such statements apart). THE CARD IS WHAT COUNTS. Prove the row's statement (the work); the ties are given (YtcjncgfhkgcbnaaDoorTie.lean); close each card by the builder's one call (the guide's Derived/Test/ToyasCard.lean, 'card_holds'). Laid BY PROGRAM, IN A SANDBOX (cutbox-door.mjs). By AI agents, Wed Nov 11 2026. No macro, syntax, notation, axiom, sorry.
-/
import Derived.Test.YtcjncgfhkgcbnaaDoorRows
import GoSem.ClaimSeven
namespace Go.Proofs.YtcjncgfhkgcbnaaDoor
namespace Rows

/-- THE TIED CARD OF 'refitlaw16.JobPuts'. -/
def jobPutsCard : Claim7 := { stood := { row := jobPutsRow, standIns := [], harness := (true, "e2c4c696064371036af60f64f22cea90abcfe56ac8bf7e62539c91140e56b3d2"), looks := false }, kinds := [], alts := [], laidByText := true, laidKinds := [.data, .pinned], laidTests := true, laidLooks := .later }
def JobPutsCardSaid : Prop := Claim7.holds Tryd.pinned (.plain (OpenSpec.ofChange jobPutsSpec)) jobPutsCard

/-- THE TIED CARD OF 'refitlaw16.JobParses'. -/
def jobParsesCard : Claim7 := { stood := { row := jobParsesRow, standIns := [], harness := (true, "e2c4c696064371036af60f64f22cea90abcfe56ac8bf7e62539c91140e56b3d2"), looks := false }, kinds := [], alts := [], laidByText := true, laidKinds := [.data, .pinned], laidTests := true, laidLooks := .later }
def JobParsesCardSaid : Prop := Claim7.holds Tryd.pinned (.plain (OpenSpec.ofChange jobParsesSpec)) jobParsesCard

/-- THE TIED CARD OF 'refitlaw16.JobFences'. -/
def jobFencesCard : Claim7 := { stood := { row := jobFencesRow, standIns := [], harness := (true, "e2c4c696064371036af60f64f22cea90abcfe56ac8bf7e62539c91140e56b3d2"), looks := false }, kinds := [], alts := [], laidByText := true, laidKinds := [.data, .pinned], laidTests := true, laidLooks := .later }
def JobFencesCardSaid : Prop := Claim7.holds Tryd.pinned (.plain (OpenSpec.ofChange jobFencesSpec)) jobFencesCard

/-- THE SECOND FORM's CARD OF 'refitlaw16.JobPuts'. -/
def jobPutsUptoCard : Claim7 := { stood := { row := jobPutsUptoRow, standIns := [], harness := (true, "e2c4c696064371036af60f64f22cea90abcfe56ac8bf7e62539c91140e56b3d2"), looks := false }, kinds := [], alts := [], laidByText := true, laidKinds := [.data, .pinned], laidTests := true, laidLooks := .later }
def JobPutsUptoCardSaid : Prop := Claim7.holds Tryd.pinned (.plain (OpenSpec.upto jobPutsSpec)) jobPutsUptoCard

/-- THE SECOND FORM's CARD OF 'refitlaw16.JobParses'. -/
def jobParsesUptoCard : Claim7 := { stood := { row := jobParsesUptoRow, standIns := [], harness := (true, "e2c4c696064371036af60f64f22cea90abcfe56ac8bf7e62539c91140e56b3d2"), looks := false }, kinds := [], alts := [], laidByText := true, laidKinds := [.data, .pinned], laidTests := true, laidLooks := .later }
def JobParsesUptoCardSaid : Prop := Claim7.holds Tryd.pinned (.plain (OpenSpec.upto jobParsesSpec)) jobParsesUptoCard

/-- THE SECOND FORM's CARD OF 'refitlaw16.JobFences'. -/
def jobFencesUptoCard : Claim7 := { stood := { row := jobFencesUptoRow, standIns := [], harness := (true, "e2c4c696064371036af60f64f22cea90abcfe56ac8bf7e62539c91140e56b3d2"), looks := false }, kinds := [], alts := [], laidByText := true, laidKinds := [.data, .pinned], laidTests := true, laidLooks := .later }
def JobFencesUptoCardSaid : Prop := Claim7.holds Tryd.pinned (.plain (OpenSpec.upto jobFencesSpec)) jobFencesUptoCard
end Rows
end Go.Proofs.YtcjncgfhkgcbnaaDoor
