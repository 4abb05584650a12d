/-
  DERIVED. GIVEN WITH THE SEED: THE CARDS: each row of YtjgeggdefiejbaaGreatDoorRows.lean that lists a variable, with what it lists TIED to the program's text (the seventh form; the later family's looks); each row that meets fmt, with fmt's text TOLD by the authors' own Lean function (tested against real Go, not proved from fmt's source: count such statements apart). THE CARD IS WHAT COUNTS. Prove the row's statement (the work); the ties are given (YtjgeggdefiejbaaGreatDoorTie.lean); close each card by the builder's one call (the guide's Derived/Test/ToyasCard.lean, 'card_holds'). Laid BY PROGRAM, IN A SANDBOX (cutbox-door.mjs). By AI agents, Wed Nov 11 2026. No macro, syntax, notation, axiom, sorry.
-/
import Derived.Test.YtjgeggdefiejbaaGreatDoorRows
import GoSem.ClaimSeven
namespace Go.Proofs.YtjgeggdefiejbaaGreatDoor
namespace Rows

/-- THE TIED CARD OF 'bitcastlaw35.ProbeRoute'. -/
def probeRouteCard : Claim7 := { stood := { row := probeRouteRow, standIns := [], harness := (true, "d4f9deeac0e740d48ebc961cb999492d0674fea936b87993e7202be3f41728b1"), looks := false }, kinds := [], alts := [], laidByText := true, laidKinds := [.data], laidTests := true, laidLooks := .later }
def ProbeRouteCardSaid : Prop := Claim7.holds Tryz.pinned (.plain (OpenSpec.ofChange probeRouteSpec)) probeRouteCard

/-- THE TIED CARD OF 'bitcastlaw35.ProbeOnce'. -/
def probeOnceCard : Claim7 := { stood := { row := probeOnceRow, standIns := [], harness := (true, "d4f9deeac0e740d48ebc961cb999492d0674fea936b87993e7202be3f41728b1"), looks := false }, kinds := [], alts := [], laidByText := true, laidKinds := [.data], laidTests := true, laidLooks := .later }
def ProbeOnceCardSaid : Prop := Claim7.holds Tryz.pinned (.plain (OpenSpec.ofChange probeOnceSpec)) probeOnceCard

/-- THE TIED CARD OF 'bitcastlaw35.ProbeAnswers'. -/
def probeAnswersCard : Claim7 := { stood := { row := probeAnswersRow, standIns := [], harness := (true, "d4f9deeac0e740d48ebc961cb999492d0674fea936b87993e7202be3f41728b1"), looks := false }, kinds := [], alts := [], laidByText := true, laidKinds := [.data], laidTests := true, laidLooks := .later }
def ProbeAnswersCardSaid : Prop := Claim7.holds Tryz.pinned (.plain (OpenSpec.ofChange probeAnswersSpec)) probeAnswersCard

/-- THE TIED CARD OF 'bitcastlaw35.ProbeNext'. -/
def probeNextCard : Claim7 := { stood := { row := probeNextRow, standIns := [], harness := (true, "d4f9deeac0e740d48ebc961cb999492d0674fea936b87993e7202be3f41728b1"), looks := false }, kinds := [], alts := [], laidByText := true, laidKinds := [.data], laidTests := true, laidLooks := .later }
def ProbeNextCardSaid : Prop := Claim7.holds Tryz.pinned (.plain (OpenSpec.ofChange probeNextSpec)) probeNextCard

/-- THE TIED CARD OF 'bitcastlaw15.SpreadPaths'. -/
def spreadPathsCard : Claim7 := { stood := { row := spreadPathsRow, standIns := [], harness := (true, "d4f9deeac0e740d48ebc961cb999492d0674fea936b87993e7202be3f41728b1"), looks := false }, kinds := [], alts := [], laidByText := true, laidKinds := [.data], laidTests := true, laidLooks := .later }
def SpreadPathsCardSaid : Prop := Claim7.holds Tryz.pinned (.plain (OpenSpec.ofChange spreadPathsSpec)) spreadPathsCard

/-- THE TIED CARD OF 'bitcastlaw15.SpreadShortest'. -/
def spreadShortestCard : Claim7 := { stood := { row := spreadShortestRow, standIns := [], harness := (true, "d4f9deeac0e740d48ebc961cb999492d0674fea936b87993e7202be3f41728b1"), looks := false }, kinds := [], alts := [], laidByText := true, laidKinds := [.data], laidTests := true, laidLooks := .later }
def SpreadShortestCardSaid : Prop := Claim7.holds Tryz.pinned (.plain (OpenSpec.ofChange spreadShortestSpec)) spreadShortestCard

/-- THE TIED CARD OF 'bitcastlaw15.SpreadSums'. -/
def spreadSumsCard : Claim7 := { stood := { row := spreadSumsRow, standIns := [], harness := (true, "d4f9deeac0e740d48ebc961cb999492d0674fea936b87993e7202be3f41728b1"), looks := false }, kinds := [], alts := [], laidByText := true, laidKinds := [.data], laidTests := true, laidLooks := .later }
def SpreadSumsCardSaid : Prop := Claim7.holds Tryz.pinned (.plain (OpenSpec.ofChange spreadSumsSpec)) spreadSumsCard

/-- THE TIED CARD OF 'bitcastlaw15.SpreadEntropy'. -/
def spreadEntropyCard : Claim7 := { stood := { row := spreadEntropyRow, standIns := [], harness := (true, "d4f9deeac0e740d48ebc961cb999492d0674fea936b87993e7202be3f41728b1"), looks := false }, kinds := [], alts := [], laidByText := true, laidKinds := [.data], laidTests := true, laidLooks := .later }
def SpreadEntropyCardSaid : Prop := Claim7.holds Tryz.pinned (.plain (OpenSpec.ofChange spreadEntropySpec)) spreadEntropyCard

/-- THE TIED CARD OF 'bitcastlaw15.SpreadSame'. -/
def spreadSameCard : Claim7 := { stood := { row := spreadSameRow, standIns := [], harness := (true, "d4f9deeac0e740d48ebc961cb999492d0674fea936b87993e7202be3f41728b1"), looks := false }, kinds := [], alts := [], laidByText := true, laidKinds := [.data], laidTests := true, laidLooks := .later }
def SpreadSameCardSaid : Prop := Claim7.holds Tryz.pinned (.plain (OpenSpec.ofChange spreadSameSpec)) spreadSameCard

/-- THE TIED CARD OF 'bitcastlaw15.SpreadFlow'. -/
def spreadFlowCard : Claim7 := { stood := { row := spreadFlowRow, standIns := [], harness := (true, "d4f9deeac0e740d48ebc961cb999492d0674fea936b87993e7202be3f41728b1"), looks := false }, kinds := [], alts := [], laidByText := true, laidKinds := [.data], laidTests := true, laidLooks := .later }
def SpreadFlowCardSaid : Prop := Claim7.holds Tryz.pinned (.plain (OpenSpec.ofChange spreadFlowSpec)) spreadFlowCard

/-- THE SECOND FORM's CARD OF 'bitcastlaw35.ProbeRoute'. -/
def probeRouteUptoCard : Claim7 := { stood := { row := probeRouteUptoRow, standIns := [], harness := (true, "d4f9deeac0e740d48ebc961cb999492d0674fea936b87993e7202be3f41728b1"), looks := false }, kinds := [], alts := [], laidByText := true, laidKinds := [.data], laidTests := true, laidLooks := .later }
def ProbeRouteUptoCardSaid : Prop := Claim7.holds Tryz.pinned (.plain (OpenSpec.upto probeRouteSpec)) probeRouteUptoCard

/-- THE SECOND FORM's CARD OF 'bitcastlaw35.ProbeOnce'. -/
def probeOnceUptoCard : Claim7 := { stood := { row := probeOnceUptoRow, standIns := [], harness := (true, "d4f9deeac0e740d48ebc961cb999492d0674fea936b87993e7202be3f41728b1"), looks := false }, kinds := [], alts := [], laidByText := true, laidKinds := [.data], laidTests := true, laidLooks := .later }
def ProbeOnceUptoCardSaid : Prop := Claim7.holds Tryz.pinned (.plain (OpenSpec.upto probeOnceSpec)) probeOnceUptoCard

/-- THE SECOND FORM's CARD OF 'bitcastlaw35.ProbeAnswers'. -/
def probeAnswersUptoCard : Claim7 := { stood := { row := probeAnswersUptoRow, standIns := [], harness := (true, "d4f9deeac0e740d48ebc961cb999492d0674fea936b87993e7202be3f41728b1"), looks := false }, kinds := [], alts := [], laidByText := true, laidKinds := [.data], laidTests := true, laidLooks := .later }
def ProbeAnswersUptoCardSaid : Prop := Claim7.holds Tryz.pinned (.plain (OpenSpec.upto probeAnswersSpec)) probeAnswersUptoCard

/-- THE SECOND FORM's CARD OF 'bitcastlaw35.ProbeNext'. -/
def probeNextUptoCard : Claim7 := { stood := { row := probeNextUptoRow, standIns := [], harness := (true, "d4f9deeac0e740d48ebc961cb999492d0674fea936b87993e7202be3f41728b1"), looks := false }, kinds := [], alts := [], laidByText := true, laidKinds := [.data], laidTests := true, laidLooks := .later }
def ProbeNextUptoCardSaid : Prop := Claim7.holds Tryz.pinned (.plain (OpenSpec.upto probeNextSpec)) probeNextUptoCard

/-- THE SECOND FORM's CARD OF 'bitcastlaw15.SpreadPaths'. -/
def spreadPathsUptoCard : Claim7 := { stood := { row := spreadPathsUptoRow, standIns := [], harness := (true, "d4f9deeac0e740d48ebc961cb999492d0674fea936b87993e7202be3f41728b1"), looks := false }, kinds := [], alts := [], laidByText := true, laidKinds := [.data], laidTests := true, laidLooks := .later }
def SpreadPathsUptoCardSaid : Prop := Claim7.holds Tryz.pinned (.plain (OpenSpec.upto spreadPathsSpec)) spreadPathsUptoCard

/-- THE SECOND FORM's CARD OF 'bitcastlaw15.SpreadShortest'. -/
def spreadShortestUptoCard : Claim7 := { stood := { row := spreadShortestUptoRow, standIns := [], harness := (true, "d4f9deeac0e740d48ebc961cb999492d0674fea936b87993e7202be3f41728b1"), looks := false }, kinds := [], alts := [], laidByText := true, laidKinds := [.data], laidTests := true, laidLooks := .later }
def SpreadShortestUptoCardSaid : Prop := Claim7.holds Tryz.pinned (.plain (OpenSpec.upto spreadShortestSpec)) spreadShortestUptoCard

/-- THE SECOND FORM's CARD OF 'bitcastlaw15.SpreadSums'. -/
def spreadSumsUptoCard : Claim7 := { stood := { row := spreadSumsUptoRow, standIns := [], harness := (true, "d4f9deeac0e740d48ebc961cb999492d0674fea936b87993e7202be3f41728b1"), looks := false }, kinds := [], alts := [], laidByText := true, laidKinds := [.data], laidTests := true, laidLooks := .later }
def SpreadSumsUptoCardSaid : Prop := Claim7.holds Tryz.pinned (.plain (OpenSpec.upto spreadSumsSpec)) spreadSumsUptoCard

/-- THE SECOND FORM's CARD OF 'bitcastlaw15.SpreadEntropy'. -/
def spreadEntropyUptoCard : Claim7 := { stood := { row := spreadEntropyUptoRow, standIns := [], harness := (true, "d4f9deeac0e740d48ebc961cb999492d0674fea936b87993e7202be3f41728b1"), looks := false }, kinds := [], alts := [], laidByText := true, laidKinds := [.data], laidTests := true, laidLooks := .later }
def SpreadEntropyUptoCardSaid : Prop := Claim7.holds Tryz.pinned (.plain (OpenSpec.upto spreadEntropySpec)) spreadEntropyUptoCard

/-- THE SECOND FORM's CARD OF 'bitcastlaw15.SpreadSame'. -/
def spreadSameUptoCard : Claim7 := { stood := { row := spreadSameUptoRow, standIns := [], harness := (true, "d4f9deeac0e740d48ebc961cb999492d0674fea936b87993e7202be3f41728b1"), looks := false }, kinds := [], alts := [], laidByText := true, laidKinds := [.data], laidTests := true, laidLooks := .later }
def SpreadSameUptoCardSaid : Prop := Claim7.holds Tryz.pinned (.plain (OpenSpec.upto spreadSameSpec)) spreadSameUptoCard

/-- THE SECOND FORM's CARD OF 'bitcastlaw15.SpreadFlow'. -/
def spreadFlowUptoCard : Claim7 := { stood := { row := spreadFlowUptoRow, standIns := [], harness := (true, "d4f9deeac0e740d48ebc961cb999492d0674fea936b87993e7202be3f41728b1"), looks := false }, kinds := [], alts := [], laidByText := true, laidKinds := [.data], laidTests := true, laidLooks := .later }
def SpreadFlowUptoCardSaid : Prop := Claim7.holds Tryz.pinned (.plain (OpenSpec.upto spreadFlowSpec)) spreadFlowUptoCard
end Rows
end Go.Proofs.YtjgeggdefiejbaaGreatDoor
