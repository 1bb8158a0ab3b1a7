/-
  DERIVED. GIVEN WITH THE SEED: THE CARDS: each row of YtebkmpgmcldeoaaDoorRows.lean that lists a variable, with what it lists TIED to the program's text (the seventh form; the later family's looks); each row that meets fmt, with fmt's text TOLD by the authors' own Lean function (tested against real Go, not proved from fmt's source: count such statements apart). THE CARD IS WHAT COUNTS. Prove the row's statement (the work); the ties are given (YtebkmpgmcldeoaaDoorTie.lean); close each card by the builder's one call (the guide's Derived/Test/ToyasCard.lean, 'card_holds'). Laid BY PROGRAM, IN A SANDBOX (cutbox-door.mjs). By AI agents, Wed Nov 11 2026. No macro, syntax, notation, axiom, sorry.
-/
import Derived.Test.YtebkmpgmcldeoaaDoorRows
import GoSem.ClaimSeven
namespace Go.Proofs.YtebkmpgmcldeoaaDoor
namespace Rows

/-- THE TIED CARD OF 'tailracelaw15.EditBad'. -/
def editBadCard : Claim7 := { stood := { row := editBadRow, standIns := [], harness := (true, "1da7215beec4c2333873b51c02f49cc01e73156f074a06370d2816e7de93991a"), looks := false }, kinds := [], alts := [], laidByText := true, laidKinds := [.data, .data, .data, .data], laidTests := true, laidLooks := .later }
def EditBadCardSaid : Prop := Claim7.holds Tryd.pinned (.plain (OpenSpec.ofChange editBadSpec)) editBadCard

/-- THE SECOND FORM's CARD OF 'tailracelaw15.EditBad'. -/
def editBadUptoCard : Claim7 := { stood := { row := editBadUptoRow, standIns := [], harness := (true, "1da7215beec4c2333873b51c02f49cc01e73156f074a06370d2816e7de93991a"), looks := false }, kinds := [], alts := [], laidByText := true, laidKinds := [.data, .data, .data, .data], laidTests := true, laidLooks := .later }
def EditBadUptoCardSaid : Prop := Claim7.holds Tryd.pinned (.plain (OpenSpec.upto editBadSpec)) editBadUptoCard
end Rows
end Go.Proofs.YtebkmpgmcldeoaaDoor
