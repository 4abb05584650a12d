/-
  DERIVED. GIVEN WITH THE SEED: THE CARDS: each row of YteenclepbpajdaaGreatDoorRows.lean that lists a variable, with what it lists TIED to the program's text (the seventh form; the later family's looks); each row that meets fmt, with fmt's text TOLD by the authors' own Lean function (tested against real Go, not proved from fmt's source: count such statements apart). THE CARD IS WHAT COUNTS. Prove the row's statement (the work); the ties are given (YteenclepbpajdaaGreatDoorTie.lean); close each card by the builder's one call (the guide's Derived/Test/ToyasCard.lean, 'card_holds'). Laid BY PROGRAM, IN A SANDBOX (cutbox-door.mjs). By AI agents, Wed Nov 11 2026. No macro, syntax, notation, axiom, sorry.
-/
import Derived.Test.YteenclepbpajdaaGreatDoorRows
import GoSem.ClaimSeven
namespace Go.Proofs.YteenclepbpajdaaGreatDoor
namespace Rows

/-- THE TIED CARD OF 'bitcastlaw17.IngressSaves'. -/
def ingressSavesCard : Claim7 := { stood := { row := ingressSavesRow, standIns := [], harness := (true, "ac36079c7e475dbe5a945e2a9fbbfff7e1c130e727691a48bf9eb6a95c826e06"), looks := false }, kinds := [], alts := [], laidByText := true, laidKinds := [.data], laidTests := true, laidLooks := .later }
def IngressSavesCardSaid : Prop := Claim7.holds Tryz.pinned (.plain (OpenSpec.ofChange ingressSavesSpec)) ingressSavesCard

/-- THE TIED CARD OF 'bitcastlaw14.TraceRuns'. -/
def traceRunsCard : Claim7 := { stood := { row := traceRunsRow, standIns := [], harness := (true, "ac36079c7e475dbe5a945e2a9fbbfff7e1c130e727691a48bf9eb6a95c826e06"), looks := false }, kinds := [], alts := [], laidByText := true, laidKinds := [.data], laidTests := true, laidLooks := .later }
def TraceRunsCardSaid : Prop := Claim7.holds Tryz.pinned (.plain (OpenSpec.ofChange traceRunsSpec)) traceRunsCard

/-- THE TIED CARD OF 'bitcastlaw14.TraceOnce'. -/
def traceOnceCard : Claim7 := { stood := { row := traceOnceRow, standIns := [], harness := (true, "ac36079c7e475dbe5a945e2a9fbbfff7e1c130e727691a48bf9eb6a95c826e06"), looks := false }, kinds := [], alts := [], laidByText := true, laidKinds := [.data], laidTests := true, laidLooks := .later }
def TraceOnceCardSaid : Prop := Claim7.holds Tryz.pinned (.plain (OpenSpec.ofChange traceOnceSpec)) traceOnceCard

/-- THE TIED CARD OF 'bitcastlaw14.TraceExactly'. -/
def traceExactlyCard : Claim7 := { stood := { row := traceExactlyRow, standIns := [], harness := (true, "ac36079c7e475dbe5a945e2a9fbbfff7e1c130e727691a48bf9eb6a95c826e06"), looks := false }, kinds := [], alts := [], laidByText := true, laidKinds := [.data], laidTests := true, laidLooks := .later }
def TraceExactlyCardSaid : Prop := Claim7.holds Tryz.pinned (.plain (OpenSpec.ofChange traceExactlySpec)) traceExactlyCard

/-- THE TIED CARD OF 'bitcastlaw14.TraceSparse'. -/
def traceSparseCard : Claim7 := { stood := { row := traceSparseRow, standIns := [], harness := (true, "ac36079c7e475dbe5a945e2a9fbbfff7e1c130e727691a48bf9eb6a95c826e06"), looks := false }, kinds := [], alts := [], laidByText := true, laidKinds := [.data], laidTests := true, laidLooks := .later }
def TraceSparseCardSaid : Prop := Claim7.holds Tryz.pinned (.plain (OpenSpec.ofChange traceSparseSpec)) traceSparseCard

/-- THE TIED CARD OF 'bitcastlaw14.TraceAdds'. -/
def traceAddsCard : Claim7 := { stood := { row := traceAddsRow, standIns := [], harness := (true, "ac36079c7e475dbe5a945e2a9fbbfff7e1c130e727691a48bf9eb6a95c826e06"), looks := false }, kinds := [], alts := [], laidByText := true, laidKinds := [.data], laidTests := true, laidLooks := .later }
def TraceAddsCardSaid : Prop := Claim7.holds Tryz.pinned (.plain (OpenSpec.ofChange traceAddsSpec)) traceAddsCard

/-- THE TIED CARD OF 'bitcastlaw14.TracePaths'. -/
def tracePathsCard : Claim7 := { stood := { row := tracePathsRow, standIns := [], harness := (true, "ac36079c7e475dbe5a945e2a9fbbfff7e1c130e727691a48bf9eb6a95c826e06"), looks := false }, kinds := [], alts := [], laidByText := true, laidKinds := [.data], laidTests := true, laidLooks := .later }
def TracePathsCardSaid : Prop := Claim7.holds Tryz.pinned (.plain (OpenSpec.ofChange tracePathsSpec)) tracePathsCard

/-- THE TIED CARD OF 'bitcastlaw14.TraceShortest'. -/
def traceShortestCard : Claim7 := { stood := { row := traceShortestRow, standIns := [], harness := (true, "ac36079c7e475dbe5a945e2a9fbbfff7e1c130e727691a48bf9eb6a95c826e06"), looks := false }, kinds := [], alts := [], laidByText := true, laidKinds := [.data], laidTests := true, laidLooks := .later }
def TraceShortestCardSaid : Prop := Claim7.holds Tryz.pinned (.plain (OpenSpec.ofChange traceShortestSpec)) traceShortestCard

/-- THE TIED CARD OF 'bitcastlaw17.IngressReaches'. -/
def ingressReachesCard : Claim7 := { stood := { row := ingressReachesRow, standIns := [], harness := (true, "ac36079c7e475dbe5a945e2a9fbbfff7e1c130e727691a48bf9eb6a95c826e06"), looks := false }, kinds := [], alts := [], laidByText := true, laidKinds := [.data], laidTests := true, laidLooks := .later }
def IngressReachesCardSaid : Prop := Claim7.holds Tryz.pinned (.plain (OpenSpec.ofChange ingressReachesSpec)) ingressReachesCard

/-- THE TIED CARD OF 'bitcastlaw17.IngressSends'. -/
def ingressSendsCard : Claim7 := { stood := { row := ingressSendsRow, standIns := [], harness := (true, "ac36079c7e475dbe5a945e2a9fbbfff7e1c130e727691a48bf9eb6a95c826e06"), looks := false }, kinds := [], alts := [], laidByText := true, laidKinds := [.data], laidTests := true, laidLooks := .later }
def IngressSendsCardSaid : Prop := Claim7.holds Tryz.pinned (.plain (OpenSpec.ofChange ingressSendsSpec)) ingressSendsCard

/-- THE SECOND FORM's CARD OF 'bitcastlaw17.IngressSaves'. -/
def ingressSavesUptoCard : Claim7 := { stood := { row := ingressSavesUptoRow, standIns := [], harness := (true, "ac36079c7e475dbe5a945e2a9fbbfff7e1c130e727691a48bf9eb6a95c826e06"), looks := false }, kinds := [], alts := [], laidByText := true, laidKinds := [.data], laidTests := true, laidLooks := .later }
def IngressSavesUptoCardSaid : Prop := Claim7.holds Tryz.pinned (.plain (OpenSpec.upto ingressSavesSpec)) ingressSavesUptoCard

/-- THE SECOND FORM's CARD OF 'bitcastlaw14.TraceRuns'. -/
def traceRunsUptoCard : Claim7 := { stood := { row := traceRunsUptoRow, standIns := [], harness := (true, "ac36079c7e475dbe5a945e2a9fbbfff7e1c130e727691a48bf9eb6a95c826e06"), looks := false }, kinds := [], alts := [], laidByText := true, laidKinds := [.data], laidTests := true, laidLooks := .later }
def TraceRunsUptoCardSaid : Prop := Claim7.holds Tryz.pinned (.plain (OpenSpec.upto traceRunsSpec)) traceRunsUptoCard

/-- THE SECOND FORM's CARD OF 'bitcastlaw14.TraceOnce'. -/
def traceOnceUptoCard : Claim7 := { stood := { row := traceOnceUptoRow, standIns := [], harness := (true, "ac36079c7e475dbe5a945e2a9fbbfff7e1c130e727691a48bf9eb6a95c826e06"), looks := false }, kinds := [], alts := [], laidByText := true, laidKinds := [.data], laidTests := true, laidLooks := .later }
def TraceOnceUptoCardSaid : Prop := Claim7.holds Tryz.pinned (.plain (OpenSpec.upto traceOnceSpec)) traceOnceUptoCard

/-- THE SECOND FORM's CARD OF 'bitcastlaw14.TraceExactly'. -/
def traceExactlyUptoCard : Claim7 := { stood := { row := traceExactlyUptoRow, standIns := [], harness := (true, "ac36079c7e475dbe5a945e2a9fbbfff7e1c130e727691a48bf9eb6a95c826e06"), looks := false }, kinds := [], alts := [], laidByText := true, laidKinds := [.data], laidTests := true, laidLooks := .later }
def TraceExactlyUptoCardSaid : Prop := Claim7.holds Tryz.pinned (.plain (OpenSpec.upto traceExactlySpec)) traceExactlyUptoCard

/-- THE SECOND FORM's CARD OF 'bitcastlaw14.TraceSparse'. -/
def traceSparseUptoCard : Claim7 := { stood := { row := traceSparseUptoRow, standIns := [], harness := (true, "ac36079c7e475dbe5a945e2a9fbbfff7e1c130e727691a48bf9eb6a95c826e06"), looks := false }, kinds := [], alts := [], laidByText := true, laidKinds := [.data], laidTests := true, laidLooks := .later }
def TraceSparseUptoCardSaid : Prop := Claim7.holds Tryz.pinned (.plain (OpenSpec.upto traceSparseSpec)) traceSparseUptoCard

/-- THE SECOND FORM's CARD OF 'bitcastlaw14.TraceAdds'. -/
def traceAddsUptoCard : Claim7 := { stood := { row := traceAddsUptoRow, standIns := [], harness := (true, "ac36079c7e475dbe5a945e2a9fbbfff7e1c130e727691a48bf9eb6a95c826e06"), looks := false }, kinds := [], alts := [], laidByText := true, laidKinds := [.data], laidTests := true, laidLooks := .later }
def TraceAddsUptoCardSaid : Prop := Claim7.holds Tryz.pinned (.plain (OpenSpec.upto traceAddsSpec)) traceAddsUptoCard

/-- THE SECOND FORM's CARD OF 'bitcastlaw14.TracePaths'. -/
def tracePathsUptoCard : Claim7 := { stood := { row := tracePathsUptoRow, standIns := [], harness := (true, "ac36079c7e475dbe5a945e2a9fbbfff7e1c130e727691a48bf9eb6a95c826e06"), looks := false }, kinds := [], alts := [], laidByText := true, laidKinds := [.data], laidTests := true, laidLooks := .later }
def TracePathsUptoCardSaid : Prop := Claim7.holds Tryz.pinned (.plain (OpenSpec.upto tracePathsSpec)) tracePathsUptoCard

/-- THE SECOND FORM's CARD OF 'bitcastlaw14.TraceShortest'. -/
def traceShortestUptoCard : Claim7 := { stood := { row := traceShortestUptoRow, standIns := [], harness := (true, "ac36079c7e475dbe5a945e2a9fbbfff7e1c130e727691a48bf9eb6a95c826e06"), looks := false }, kinds := [], alts := [], laidByText := true, laidKinds := [.data], laidTests := true, laidLooks := .later }
def TraceShortestUptoCardSaid : Prop := Claim7.holds Tryz.pinned (.plain (OpenSpec.upto traceShortestSpec)) traceShortestUptoCard

/-- THE SECOND FORM's CARD OF 'bitcastlaw17.IngressReaches'. -/
def ingressReachesUptoCard : Claim7 := { stood := { row := ingressReachesUptoRow, standIns := [], harness := (true, "ac36079c7e475dbe5a945e2a9fbbfff7e1c130e727691a48bf9eb6a95c826e06"), looks := false }, kinds := [], alts := [], laidByText := true, laidKinds := [.data], laidTests := true, laidLooks := .later }
def IngressReachesUptoCardSaid : Prop := Claim7.holds Tryz.pinned (.plain (OpenSpec.upto ingressReachesSpec)) ingressReachesUptoCard

/-- THE SECOND FORM's CARD OF 'bitcastlaw17.IngressSends'. -/
def ingressSendsUptoCard : Claim7 := { stood := { row := ingressSendsUptoRow, standIns := [], harness := (true, "ac36079c7e475dbe5a945e2a9fbbfff7e1c130e727691a48bf9eb6a95c826e06"), looks := false }, kinds := [], alts := [], laidByText := true, laidKinds := [.data], laidTests := true, laidLooks := .later }
def IngressSendsUptoCardSaid : Prop := Claim7.holds Tryz.pinned (.plain (OpenSpec.upto ingressSendsSpec)) ingressSendsUptoCard
end Rows
end Go.Proofs.YteenclepbpajdaaGreatDoor
