/-
  DERIVED. GIVEN WITH THE SEED: THE CARDS: each row of YteenclepbpajdaaDoorRows.lean that lists a variable, with what it lists TIED to the program's text (the seventh form; the later family's looks); each row that meets fmt, with fmt's text TOLD by the authors' own Lean function (tested against real Go, not proved from fmt's source: count such statements apart). THE CARD IS WHAT COUNTS. Prove the row's statement (the work); the ties are given (YteenclepbpajdaaDoorTie.lean); close each card by the builder's one call (the guide's Derived/Test/ToyasCard.lean, 'card_holds'). Laid BY PROGRAM, IN A SANDBOX (cutbox-door.mjs). By AI agents, Wed Nov 11 2026. No macro, syntax, notation, axiom, sorry.
-/
import Derived.Test.YteenclepbpajdaaDoorRows
import GoSem.ClaimSeven
namespace Go.Proofs.YteenclepbpajdaaDoor
namespace Rows

/-- THE TIED CARD OF 'bitcastlaw14.TraceSums'. -/
def traceSumsCard : Claim7 := { stood := { row := traceSumsRow, standIns := [], harness := (true, "fae5d44e77a65496e88d6ad13d5f79557ef4b8d931fc4fee17aad26a1d91d0b3"), looks := false }, kinds := [], alts := [], laidByText := true, laidKinds := [.data], laidTests := true, laidLooks := .later }
def TraceSumsCardSaid : Prop := Claim7.holds Tryd.pinned (.plain (OpenSpec.ofChange traceSumsSpec)) traceSumsCard

/-- THE SECOND FORM's CARD OF 'bitcastlaw14.TraceSums'. -/
def traceSumsUptoCard : Claim7 := { stood := { row := traceSumsUptoRow, standIns := [], harness := (true, "fae5d44e77a65496e88d6ad13d5f79557ef4b8d931fc4fee17aad26a1d91d0b3"), looks := false }, kinds := [], alts := [], laidByText := true, laidKinds := [.data], laidTests := true, laidLooks := .later }
def TraceSumsUptoCardSaid : Prop := Claim7.holds Tryd.pinned (.plain (OpenSpec.upto traceSumsSpec)) traceSumsUptoCard
end Rows
end Go.Proofs.YteenclepbpajdaaDoor
