/-
  DERIVED. GIVEN WITH THE SEED: THE CARDS: each row of YthgoocdldnkogaaDoorRows.lean that lists a variable, with what it lists TIED to the program's text (the seventh form; the later family's looks); each row that meets fmt, with fmt's text TOLD by the authors' own Lean function (tested against real Go, not proved from fmt's source: count such statements apart). THE CARD IS WHAT COUNTS. Prove the row's statement (the work); the ties are given (YthgoocdldnkogaaDoorTie.lean); close each card by the builder's one call (the guide's Derived/Test/ToyasCard.lean, 'card_holds'). Laid BY PROGRAM, IN A SANDBOX (cutbox-door.mjs). By AI agents, Wed Nov 11 2026. No macro, syntax, notation, axiom, sorry.
-/
import Derived.Test.YthgoocdldnkogaaDoorRows
import GoSem.ClaimSeven
namespace Go.Proofs.YthgoocdldnkogaaDoor
namespace Rows

/-- THE TIED CARD OF 'refitlaw14.LadderBack'. -/
def ladderBackCard : Claim7 := { stood := { row := ladderBackRow, standIns := [], harness := (true, "f4723fb4dff801e6d1154cedeb211413fdfc65906bd77c03f42d2440e7d5d796"), looks := false }, kinds := [], alts := [], laidByText := true, laidKinds := [.data, .pinned], laidTests := true, laidLooks := .later }
def LadderBackCardSaid : Prop := Claim7.holds Tryd.pinned (.plain (OpenSpec.ofChange ladderBackSpec)) ladderBackCard

/-- THE TIED CARD OF 'refitlaw14.LadderNumbers'. -/
def ladderNumbersCard : Claim7 := { stood := { row := ladderNumbersRow, standIns := [], harness := (true, "f4723fb4dff801e6d1154cedeb211413fdfc65906bd77c03f42d2440e7d5d796"), looks := false }, kinds := [], alts := [], laidByText := true, laidKinds := [.data, .pinned], laidTests := true, laidLooks := .later }
def LadderNumbersCardSaid : Prop := Claim7.holds Tryd.pinned (.plain (OpenSpec.ofChange ladderNumbersSpec)) ladderNumbersCard

/-- THE SECOND FORM's CARD OF 'refitlaw14.LadderBack'. -/
def ladderBackUptoCard : Claim7 := { stood := { row := ladderBackUptoRow, standIns := [], harness := (true, "f4723fb4dff801e6d1154cedeb211413fdfc65906bd77c03f42d2440e7d5d796"), looks := false }, kinds := [], alts := [], laidByText := true, laidKinds := [.data, .pinned], laidTests := true, laidLooks := .later }
def LadderBackUptoCardSaid : Prop := Claim7.holds Tryd.pinned (.plain (OpenSpec.upto ladderBackSpec)) ladderBackUptoCard

/-- THE SECOND FORM's CARD OF 'refitlaw14.LadderNumbers'. -/
def ladderNumbersUptoCard : Claim7 := { stood := { row := ladderNumbersUptoRow, standIns := [], harness := (true, "f4723fb4dff801e6d1154cedeb211413fdfc65906bd77c03f42d2440e7d5d796"), looks := false }, kinds := [], alts := [], laidByText := true, laidKinds := [.data, .pinned], laidTests := true, laidLooks := .later }
def LadderNumbersUptoCardSaid : Prop := Claim7.holds Tryd.pinned (.plain (OpenSpec.upto ladderNumbersSpec)) ladderNumbersUptoCard
end Rows
end Go.Proofs.YthgoocdldnkogaaDoor
