/-
  DERIVED. GIVEN WITH THE SEED: THE CARDS: each row of YtkikielfhjoogaaGreatDoorRows.lean that lists a variable, with what it lists TIED to the program's text (the seventh form; the later family's looks); each row that meets fmt, with fmt's text TOLD by the authors' own Lean function (tested against real Go, not proved from fmt's source: count such statements apart). THE CARD IS WHAT COUNTS. Prove the row's statement (the work); the ties are given (YtkikielfhjoogaaGreatDoorTie.lean); close each card by the builder's one call (the guide's Derived/Test/ToyasCard.lean, 'card_holds'). Laid BY PROGRAM, IN A SANDBOX (cutbox-door.mjs). By AI agents, Wed Nov 11 2026. No macro, syntax, notation, axiom, sorry.
-/
import Derived.Test.YtkikielfhjoogaaGreatDoorRows
import GoSem.ClaimSeven
namespace Go.Proofs.YtkikielfhjoogaaGreatDoor
namespace Rows

/-- THE TIED CARD OF 'bitcasttop.TopModes'. -/
def topModesCard : Claim7 := { stood := { row := topModesRow, standIns := [], harness := (true, "03433fd13d130b1aade41679ccafe5e967f7ffe02d1cd6a59bbcd7a36c7c4c8e"), looks := false }, kinds := [], alts := [], laidByText := true, laidKinds := [.data], laidTests := true, laidLooks := .later }
def TopModesCardSaid : Prop := Claim7.holds Tryz.pinned (.plain (OpenSpec.ofChange topModesSpec)) topModesCard

/-- THE SECOND FORM's CARD OF 'bitcasttop.TopModes'. -/
def topModesUptoCard : Claim7 := { stood := { row := topModesUptoRow, standIns := [], harness := (true, "03433fd13d130b1aade41679ccafe5e967f7ffe02d1cd6a59bbcd7a36c7c4c8e"), looks := false }, kinds := [], alts := [], laidByText := true, laidKinds := [.data], laidTests := true, laidLooks := .later }
def TopModesUptoCardSaid : Prop := Claim7.holds Tryz.pinned (.plain (OpenSpec.upto topModesSpec)) topModesUptoCard
end Rows
end Go.Proofs.YtkikielfhjoogaaGreatDoor
