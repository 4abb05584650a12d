/-
  DERIVED. GIVEN WITH THE SEED: THE CARDS: each row of YtboimfkommpglaaGreatDoorRows.lean that lists a variable, with what it lists TIED to the program's text (the seventh form; the later family's looks); each row that meets fmt, with fmt's text TOLD by the authors' own Lean function (tested against real Go, not proved from fmt's source: count such statements apart). THE CARD IS WHAT COUNTS. Prove the row's statement (the work); the ties are given (YtboimfkommpglaaGreatDoorTie.lean); close each card by the builder's one call (the guide's Derived/Test/ToyasCard.lean, 'card_holds'). Laid BY PROGRAM, IN A SANDBOX (cutbox-door.mjs). By AI agents, Wed Nov 11 2026. No macro, syntax, notation, axiom, sorry.
-/
import Derived.Test.YtboimfkommpglaaGreatDoorRows
import GoSem.ClaimSeven
namespace Go.Proofs.YtboimfkommpglaaGreatDoor
namespace Rows

/-- THE TIED CARD OF 'bitcastlaw16.TunnelRoutes'. -/
def tunnelRoutesCard : Claim7 := { stood := { row := tunnelRoutesRow, standIns := [], harness := (true, "22e48be9cd61c4ef9d5f14216729acba0b833e18762d81acefabb4729de81b78"), looks := false }, kinds := [], alts := [], laidByText := true, laidKinds := [.data], laidTests := true, laidLooks := .later }
def TunnelRoutesCardSaid : Prop := Claim7.holds Tryz.pinned (.plain (OpenSpec.ofChange tunnelRoutesSpec)) tunnelRoutesCard

/-- THE TIED CARD OF 'bitcastlaw16.TunnelSteps'. -/
def tunnelStepsCard : Claim7 := { stood := { row := tunnelStepsRow, standIns := [], harness := (true, "22e48be9cd61c4ef9d5f14216729acba0b833e18762d81acefabb4729de81b78"), looks := false }, kinds := [], alts := [], laidByText := true, laidKinds := [.data], laidTests := true, laidLooks := .later }
def TunnelStepsCardSaid : Prop := Claim7.holds Tryz.pinned (.plain (OpenSpec.ofChange tunnelStepsSpec)) tunnelStepsCard

/-- THE TIED CARD OF 'bitcastlaw16.TunnelRuns'. -/
def tunnelRunsCard : Claim7 := { stood := { row := tunnelRunsRow, standIns := [], harness := (true, "22e48be9cd61c4ef9d5f14216729acba0b833e18762d81acefabb4729de81b78"), looks := false }, kinds := [], alts := [], laidByText := true, laidKinds := [.data], laidTests := true, laidLooks := .later }
def TunnelRunsCardSaid : Prop := Claim7.holds Tryz.pinned (.plain (OpenSpec.ofChange tunnelRunsSpec)) tunnelRunsCard

/-- THE TIED CARD OF 'bitcastlaw16.TunnelSame'. -/
def tunnelSameCard : Claim7 := { stood := { row := tunnelSameRow, standIns := [], harness := (true, "22e48be9cd61c4ef9d5f14216729acba0b833e18762d81acefabb4729de81b78"), looks := false }, kinds := [], alts := [], laidByText := true, laidKinds := [.data], laidTests := true, laidLooks := .later }
def TunnelSameCardSaid : Prop := Claim7.holds Tryz.pinned (.plain (OpenSpec.ofChange tunnelSameSpec)) tunnelSameCard

/-- THE TIED CARD OF 'bitcastlaw16.TunnelCosts'. -/
def tunnelCostsCard : Claim7 := { stood := { row := tunnelCostsRow, standIns := [], harness := (true, "22e48be9cd61c4ef9d5f14216729acba0b833e18762d81acefabb4729de81b78"), looks := false }, kinds := [], alts := [], laidByText := true, laidKinds := [.data], laidTests := true, laidLooks := .later }
def TunnelCostsCardSaid : Prop := Claim7.holds Tryz.pinned (.plain (OpenSpec.ofChange tunnelCostsSpec)) tunnelCostsCard

/-- THE TIED CARD OF 'bitcastlaw16.TunnelPlain'. -/
def tunnelPlainCard : Claim7 := { stood := { row := tunnelPlainRow, standIns := [], harness := (true, "22e48be9cd61c4ef9d5f14216729acba0b833e18762d81acefabb4729de81b78"), looks := false }, kinds := [], alts := [], laidByText := true, laidKinds := [.data], laidTests := true, laidLooks := .later }
def TunnelPlainCardSaid : Prop := Claim7.holds Tryz.pinned (.plain (OpenSpec.ofChange tunnelPlainSpec)) tunnelPlainCard

/-- THE TIED CARD OF 'bitcastlaw16.TunnelGone'. -/
def tunnelGoneCard : Claim7 := { stood := { row := tunnelGoneRow, standIns := [], harness := (true, "22e48be9cd61c4ef9d5f14216729acba0b833e18762d81acefabb4729de81b78"), looks := false }, kinds := [], alts := [], laidByText := true, laidKinds := [.data], laidTests := true, laidLooks := .later }
def TunnelGoneCardSaid : Prop := Claim7.holds Tryz.pinned (.plain (OpenSpec.ofChange tunnelGoneSpec)) tunnelGoneCard

/-- THE TIED CARD OF 'bitcastlaw36.VerifyLocates'. -/
def verifyLocatesCard : Claim7 := { stood := { row := verifyLocatesRow, standIns := [], harness := (true, "22e48be9cd61c4ef9d5f14216729acba0b833e18762d81acefabb4729de81b78"), looks := false }, kinds := [], alts := [], laidByText := true, laidKinds := [.data], laidTests := true, laidLooks := .later }
def VerifyLocatesCardSaid : Prop := Claim7.holds Tryz.pinned (.plain (OpenSpec.ofChange verifyLocatesSpec)) verifyLocatesCard

/-- THE TIED CARD OF 'bitcastlaw36.VerifyMany'. -/
def verifyManyCard : Claim7 := { stood := { row := verifyManyRow, standIns := [], harness := (true, "22e48be9cd61c4ef9d5f14216729acba0b833e18762d81acefabb4729de81b78"), looks := false }, kinds := [], alts := [], laidByText := true, laidKinds := [.data], laidTests := true, laidLooks := .later }
def VerifyManyCardSaid : Prop := Claim7.holds Tryz.pinned (.plain (OpenSpec.ofChange verifyManySpec)) verifyManyCard

/-- THE TIED CARD OF 'bitcastlaw36.VerifyBlind'. -/
def verifyBlindCard : Claim7 := { stood := { row := verifyBlindRow, standIns := [], harness := (true, "22e48be9cd61c4ef9d5f14216729acba0b833e18762d81acefabb4729de81b78"), looks := false }, kinds := [], alts := [], laidByText := true, laidKinds := [.data], laidTests := true, laidLooks := .later }
def VerifyBlindCardSaid : Prop := Claim7.holds Tryz.pinned (.plain (OpenSpec.ofChange verifyBlindSpec)) verifyBlindCard

/-- THE TIED CARD OF 'bitcastlaw36.VerifyAnswers'. -/
def verifyAnswersCard : Claim7 := { stood := { row := verifyAnswersRow, standIns := [], harness := (true, "22e48be9cd61c4ef9d5f14216729acba0b833e18762d81acefabb4729de81b78"), looks := false }, kinds := [], alts := [], laidByText := true, laidKinds := [.data], laidTests := true, laidLooks := .later }
def VerifyAnswersCardSaid : Prop := Claim7.holds Tryz.pinned (.plain (OpenSpec.ofChange verifyAnswersSpec)) verifyAnswersCard

/-- THE TIED CARD OF 'bitcastlaw36.VerifyReach'. -/
def verifyReachCard : Claim7 := { stood := { row := verifyReachRow, standIns := [], harness := (true, "22e48be9cd61c4ef9d5f14216729acba0b833e18762d81acefabb4729de81b78"), looks := false }, kinds := [], alts := [], laidByText := true, laidKinds := [.data], laidTests := true, laidLooks := .later }
def VerifyReachCardSaid : Prop := Claim7.holds Tryz.pinned (.plain (OpenSpec.ofChange verifyReachSpec)) verifyReachCard

/-- THE SECOND FORM's CARD OF 'bitcastlaw16.TunnelRoutes'. -/
def tunnelRoutesUptoCard : Claim7 := { stood := { row := tunnelRoutesUptoRow, standIns := [], harness := (true, "22e48be9cd61c4ef9d5f14216729acba0b833e18762d81acefabb4729de81b78"), looks := false }, kinds := [], alts := [], laidByText := true, laidKinds := [.data], laidTests := true, laidLooks := .later }
def TunnelRoutesUptoCardSaid : Prop := Claim7.holds Tryz.pinned (.plain (OpenSpec.upto tunnelRoutesSpec)) tunnelRoutesUptoCard

/-- THE SECOND FORM's CARD OF 'bitcastlaw16.TunnelSteps'. -/
def tunnelStepsUptoCard : Claim7 := { stood := { row := tunnelStepsUptoRow, standIns := [], harness := (true, "22e48be9cd61c4ef9d5f14216729acba0b833e18762d81acefabb4729de81b78"), looks := false }, kinds := [], alts := [], laidByText := true, laidKinds := [.data], laidTests := true, laidLooks := .later }
def TunnelStepsUptoCardSaid : Prop := Claim7.holds Tryz.pinned (.plain (OpenSpec.upto tunnelStepsSpec)) tunnelStepsUptoCard

/-- THE SECOND FORM's CARD OF 'bitcastlaw16.TunnelRuns'. -/
def tunnelRunsUptoCard : Claim7 := { stood := { row := tunnelRunsUptoRow, standIns := [], harness := (true, "22e48be9cd61c4ef9d5f14216729acba0b833e18762d81acefabb4729de81b78"), looks := false }, kinds := [], alts := [], laidByText := true, laidKinds := [.data], laidTests := true, laidLooks := .later }
def TunnelRunsUptoCardSaid : Prop := Claim7.holds Tryz.pinned (.plain (OpenSpec.upto tunnelRunsSpec)) tunnelRunsUptoCard

/-- THE SECOND FORM's CARD OF 'bitcastlaw16.TunnelSame'. -/
def tunnelSameUptoCard : Claim7 := { stood := { row := tunnelSameUptoRow, standIns := [], harness := (true, "22e48be9cd61c4ef9d5f14216729acba0b833e18762d81acefabb4729de81b78"), looks := false }, kinds := [], alts := [], laidByText := true, laidKinds := [.data], laidTests := true, laidLooks := .later }
def TunnelSameUptoCardSaid : Prop := Claim7.holds Tryz.pinned (.plain (OpenSpec.upto tunnelSameSpec)) tunnelSameUptoCard

/-- THE SECOND FORM's CARD OF 'bitcastlaw16.TunnelCosts'. -/
def tunnelCostsUptoCard : Claim7 := { stood := { row := tunnelCostsUptoRow, standIns := [], harness := (true, "22e48be9cd61c4ef9d5f14216729acba0b833e18762d81acefabb4729de81b78"), looks := false }, kinds := [], alts := [], laidByText := true, laidKinds := [.data], laidTests := true, laidLooks := .later }
def TunnelCostsUptoCardSaid : Prop := Claim7.holds Tryz.pinned (.plain (OpenSpec.upto tunnelCostsSpec)) tunnelCostsUptoCard

/-- THE SECOND FORM's CARD OF 'bitcastlaw16.TunnelPlain'. -/
def tunnelPlainUptoCard : Claim7 := { stood := { row := tunnelPlainUptoRow, standIns := [], harness := (true, "22e48be9cd61c4ef9d5f14216729acba0b833e18762d81acefabb4729de81b78"), looks := false }, kinds := [], alts := [], laidByText := true, laidKinds := [.data], laidTests := true, laidLooks := .later }
def TunnelPlainUptoCardSaid : Prop := Claim7.holds Tryz.pinned (.plain (OpenSpec.upto tunnelPlainSpec)) tunnelPlainUptoCard

/-- THE SECOND FORM's CARD OF 'bitcastlaw16.TunnelGone'. -/
def tunnelGoneUptoCard : Claim7 := { stood := { row := tunnelGoneUptoRow, standIns := [], harness := (true, "22e48be9cd61c4ef9d5f14216729acba0b833e18762d81acefabb4729de81b78"), looks := false }, kinds := [], alts := [], laidByText := true, laidKinds := [.data], laidTests := true, laidLooks := .later }
def TunnelGoneUptoCardSaid : Prop := Claim7.holds Tryz.pinned (.plain (OpenSpec.upto tunnelGoneSpec)) tunnelGoneUptoCard

/-- THE SECOND FORM's CARD OF 'bitcastlaw36.VerifyLocates'. -/
def verifyLocatesUptoCard : Claim7 := { stood := { row := verifyLocatesUptoRow, standIns := [], harness := (true, "22e48be9cd61c4ef9d5f14216729acba0b833e18762d81acefabb4729de81b78"), looks := false }, kinds := [], alts := [], laidByText := true, laidKinds := [.data], laidTests := true, laidLooks := .later }
def VerifyLocatesUptoCardSaid : Prop := Claim7.holds Tryz.pinned (.plain (OpenSpec.upto verifyLocatesSpec)) verifyLocatesUptoCard

/-- THE SECOND FORM's CARD OF 'bitcastlaw36.VerifyMany'. -/
def verifyManyUptoCard : Claim7 := { stood := { row := verifyManyUptoRow, standIns := [], harness := (true, "22e48be9cd61c4ef9d5f14216729acba0b833e18762d81acefabb4729de81b78"), looks := false }, kinds := [], alts := [], laidByText := true, laidKinds := [.data], laidTests := true, laidLooks := .later }
def VerifyManyUptoCardSaid : Prop := Claim7.holds Tryz.pinned (.plain (OpenSpec.upto verifyManySpec)) verifyManyUptoCard

/-- THE SECOND FORM's CARD OF 'bitcastlaw36.VerifyBlind'. -/
def verifyBlindUptoCard : Claim7 := { stood := { row := verifyBlindUptoRow, standIns := [], harness := (true, "22e48be9cd61c4ef9d5f14216729acba0b833e18762d81acefabb4729de81b78"), looks := false }, kinds := [], alts := [], laidByText := true, laidKinds := [.data], laidTests := true, laidLooks := .later }
def VerifyBlindUptoCardSaid : Prop := Claim7.holds Tryz.pinned (.plain (OpenSpec.upto verifyBlindSpec)) verifyBlindUptoCard

/-- THE SECOND FORM's CARD OF 'bitcastlaw36.VerifyAnswers'. -/
def verifyAnswersUptoCard : Claim7 := { stood := { row := verifyAnswersUptoRow, standIns := [], harness := (true, "22e48be9cd61c4ef9d5f14216729acba0b833e18762d81acefabb4729de81b78"), looks := false }, kinds := [], alts := [], laidByText := true, laidKinds := [.data], laidTests := true, laidLooks := .later }
def VerifyAnswersUptoCardSaid : Prop := Claim7.holds Tryz.pinned (.plain (OpenSpec.upto verifyAnswersSpec)) verifyAnswersUptoCard

/-- THE SECOND FORM's CARD OF 'bitcastlaw36.VerifyReach'. -/
def verifyReachUptoCard : Claim7 := { stood := { row := verifyReachUptoRow, standIns := [], harness := (true, "22e48be9cd61c4ef9d5f14216729acba0b833e18762d81acefabb4729de81b78"), looks := false }, kinds := [], alts := [], laidByText := true, laidKinds := [.data], laidTests := true, laidLooks := .later }
def VerifyReachUptoCardSaid : Prop := Claim7.holds Tryz.pinned (.plain (OpenSpec.upto verifyReachSpec)) verifyReachUptoCard
end Rows
end Go.Proofs.YtboimfkommpglaaGreatDoor
