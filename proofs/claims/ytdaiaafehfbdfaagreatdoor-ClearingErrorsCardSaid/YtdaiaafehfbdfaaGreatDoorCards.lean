/-
  DERIVED. GIVEN WITH THE SEED: THE CARDS: each row of YtdaiaafehfbdfaaGreatDoorRows.lean that lists a variable, with what it lists TIED to the program's text (the seventh form; the later family's looks); each row that meets fmt, with fmt's text TOLD by the authors' own Lean function (tested against real Go, not proved from fmt's source: count such statements apart). THE CARD IS WHAT COUNTS. Prove the row's statement (the work); the ties are given (YtdaiaafehfbdfaaGreatDoorTie.lean); close each card by the builder's one call (the guide's Derived/Test/ToyasCard.lean, 'card_holds'). Laid BY PROGRAM, IN A SANDBOX (cutbox-door.mjs). By AI agents, Wed Nov 11 2026. No macro, syntax, notation, axiom, sorry.
-/
import Derived.Test.YtdaiaafehfbdfaaGreatDoorRows
import GoSem.ClaimSeven
namespace Go.Proofs.YtdaiaafehfbdfaaGreatDoor
namespace Rows

/-- THE TIED CARD OF 'insolvencylaw19.ClearingSolve'. -/
def clearingSolveCard : Claim7 := { stood := { row := clearingSolveRow, standIns := [], harness := (true, "01e4cbc281878fecffddf7e231c240823b0ec812c1c2f67882c4713363d47511"), looks := false }, kinds := [], alts := [], laidByText := true, laidKinds := [.data, .pinned], laidTests := true, laidLooks := .later }
def ClearingSolveCardSaid : Prop := Claim7.holds Tryz.pinned (.plain (OpenSpec.ofChange clearingSolveSpec)) clearingSolveCard

/-- THE TIED CARD OF 'insolvencylaw19.ClearingLeast'. -/
def clearingLeastCard : Claim7 := { stood := { row := clearingLeastRow, standIns := [], harness := (true, "01e4cbc281878fecffddf7e231c240823b0ec812c1c2f67882c4713363d47511"), looks := false }, kinds := [], alts := [], laidByText := true, laidKinds := [.data, .pinned], laidTests := true, laidLooks := .later }
def ClearingLeastCardSaid : Prop := Claim7.holds Tryz.pinned (.plain (OpenSpec.ofChange clearingLeastSpec)) clearingLeastCard

/-- THE TIED CARD OF 'insolvencylaw19.ClearingErrors'. -/
def clearingErrorsCard : Claim7 := { stood := { row := clearingErrorsRow, standIns := [], harness := (true, "01e4cbc281878fecffddf7e231c240823b0ec812c1c2f67882c4713363d47511"), looks := false }, kinds := [], alts := [], laidByText := true, laidKinds := [.data, .pinned], laidTests := true, laidLooks := .later }
def ClearingErrorsCardSaid : Prop := Claim7.holds Tryz.pinned (.plain (OpenSpec.ofChange clearingErrorsSpec)) clearingErrorsCard

/-- THE SECOND FORM's CARD OF 'insolvencylaw19.ClearingSolve'. -/
def clearingSolveUptoCard : Claim7 := { stood := { row := clearingSolveUptoRow, standIns := [], harness := (true, "01e4cbc281878fecffddf7e231c240823b0ec812c1c2f67882c4713363d47511"), looks := false }, kinds := [], alts := [], laidByText := true, laidKinds := [.data, .pinned], laidTests := true, laidLooks := .later }
def ClearingSolveUptoCardSaid : Prop := Claim7.holds Tryz.pinned (.plain (OpenSpec.upto clearingSolveSpec)) clearingSolveUptoCard

/-- THE SECOND FORM's CARD OF 'insolvencylaw19.ClearingLeast'. -/
def clearingLeastUptoCard : Claim7 := { stood := { row := clearingLeastUptoRow, standIns := [], harness := (true, "01e4cbc281878fecffddf7e231c240823b0ec812c1c2f67882c4713363d47511"), looks := false }, kinds := [], alts := [], laidByText := true, laidKinds := [.data, .pinned], laidTests := true, laidLooks := .later }
def ClearingLeastUptoCardSaid : Prop := Claim7.holds Tryz.pinned (.plain (OpenSpec.upto clearingLeastSpec)) clearingLeastUptoCard

/-- THE SECOND FORM's CARD OF 'insolvencylaw19.ClearingErrors'. -/
def clearingErrorsUptoCard : Claim7 := { stood := { row := clearingErrorsUptoRow, standIns := [], harness := (true, "01e4cbc281878fecffddf7e231c240823b0ec812c1c2f67882c4713363d47511"), looks := false }, kinds := [], alts := [], laidByText := true, laidKinds := [.data, .pinned], laidTests := true, laidLooks := .later }
def ClearingErrorsUptoCardSaid : Prop := Claim7.holds Tryz.pinned (.plain (OpenSpec.upto clearingErrorsSpec)) clearingErrorsUptoCard
end Rows
end Go.Proofs.YtdaiaafehfbdfaaGreatDoor
