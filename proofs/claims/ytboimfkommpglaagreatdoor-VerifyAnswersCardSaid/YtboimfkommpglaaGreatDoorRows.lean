/-
  NARROWER THAN 'FOR EVERY INPUT', by the rows' own cells (each row's printed sentence says how): TunnelRoutes: laid · TunnelSteps: laid · TunnelRuns: laid · TunnelSame: laid · TunnelCosts: laid · TunnelPlain: laid · TunnelGone: laid · VerifyLocates: laid · VerifyMany: laid · VerifyBlind: laid · VerifyAnswers: laid · VerifyReach: laid.
  DERIVED. THE GIVEN ROWS OF THIS SEAT. 12 by the template 'for every input the law returns true; each argument reads behind the call as it read before'; 0 by the template 'total and deterministic' (their statements: YtboimfkommpglaaGreatDoorTotals.lean).
  GIVEN WITH THE SEED: the statements are not yours to turn. If you find one false, say at which input.
  Laid BY PROGRAM, IN A SANDBOX (cutbox-rows.mjs): the forced cells as the released guide's own fill.sh prints them over the translation d852c819920a4db2… (all of the seat's roots in one cut). By AI agents, Wed Nov 11 2026. No macro, syntax, notation, axiom, sorry.
-/
import Derived.Test.YtboimfkommpglaaGreatDoorChecked
import GoSem.Claim
import GoSem.ClaimJoined
import GoSem.ClaimMapViews
import Derived.JoinedTies
import Derived.KernelRfl
namespace Go.Proofs.YtboimfkommpglaaGreatDoor
/- THE CELL 'sum', in the pinned program and in every row, IS THE sha256 OF THE DUMP (.gsa) THAT YtboimfkommpglaaGreatDoorProg.lean LOADS. Nothing in Lean hashes anything: it is a label: what it is worth is what the hold of that sum in a sandbox is worth. -/
noncomputable def Tryz.pinned : Pinned := { name := "ytboimfkommpglaagreatdoor", sum := "d852c819920a4db2d4ba743b811e7f2f9e50f5d9caf1b2497f5055200d81ff8d", checked := Tryz.checked }
namespace Rows
def none {H : Type} : Left H := { results := [], args := [] }

/- WHAT THE LISTED PACKAGE-LEVEL VARIABLES READ AS WHEN THE CALL BEGINS. Each datum BY PROGRAM (the guide's laid-datum.mjs) off the statement by which the dump's own 'gosem.cut.vars' lays the variable. In a bare row this is a premise. The card (YtboimfkommpglaaGreatDoorCards.lean) ties it to the program's text. -/
def laid_math_bits_deBruijn64tab {H : Type} : DataW H := .agg [.lit (.int .u8 0), .lit (.int .u8 1), .lit (.int .u8 56), .lit (.int .u8 2), .lit (.int .u8 57), .lit (.int .u8 49), .lit (.int .u8 28), .lit (.int .u8 3), .lit (.int .u8 61), .lit (.int .u8 58), .lit (.int .u8 42), .lit (.int .u8 50), .lit (.int .u8 38), .lit (.int .u8 29), .lit (.int .u8 17), .lit (.int .u8 4), .lit (.int .u8 62), .lit (.int .u8 47), .lit (.int .u8 59), .lit (.int .u8 36), .lit (.int .u8 45), .lit (.int .u8 43), .lit (.int .u8 51), .lit (.int .u8 22), .lit (.int .u8 53), .lit (.int .u8 39), .lit (.int .u8 33), .lit (.int .u8 30), .lit (.int .u8 24), .lit (.int .u8 18), .lit (.int .u8 12), .lit (.int .u8 5), .lit (.int .u8 63), .lit (.int .u8 55), .lit (.int .u8 48), .lit (.int .u8 27), .lit (.int .u8 60), .lit (.int .u8 41), .lit (.int .u8 37), .lit (.int .u8 16), .lit (.int .u8 46), .lit (.int .u8 35), .lit (.int .u8 44), .lit (.int .u8 21), .lit (.int .u8 52), .lit (.int .u8 32), .lit (.int .u8 23), .lit (.int .u8 11), .lit (.int .u8 54), .lit (.int .u8 26), .lit (.int .u8 40), .lit (.int .u8 15), .lit (.int .u8 34), .lit (.int .u8 20), .lit (.int .u8 31), .lit (.int .u8 10), .lit (.int .u8 25), .lit (.int .u8 14), .lit (.int .u8 19), .lit (.int .u8 9), .lit (.int .u8 13), .lit (.int .u8 8), .lit (.int .u8 7), .lit (.int .u8 6)]

/-- 'bitcastlaw16.TunnelRoutes': WHATEVER THE INPUT: true; the input reads as it did. -/
def tunnelRoutesSpec : ChangeSpec := { name := "tunnelRoutes", fn := fun _ => fun
  | [d1, d2, d3, d4] => { results := [.lit (.bool true)], args := [d1, d2, d3, d4] }
  | _ => none }
def tunnelRoutesRow : OpenClaim := { program := "ytboimfkommpglaagreatdoor", sum := "d852c819920a4db2d4ba743b811e7f2f9e50f5d9caf1b2497f5055200d81ff8d", func := "bitcast/bitcastlaw16.TunnelRoutes", spec := "tunnelRoutes", unfollowed := true, recurses := true, named := ["math/bits.deBruijn64tab"], apart := false, laid := [("math/bits.deBruijn64tab", laid_math_bits_deBruijn64tab)] }
def TunnelRoutesSaid : Prop := tunnelRoutesRow.holds Tryz.pinned (OpenSpec.ofChange tunnelRoutesSpec)

/-- ITS FALSE NEIGHBOUR: 'it returns false'. Refute it at one input. -/
def tunnelRoutesWrong : ChangeSpec := { name := "tunnelRoutes", fn := fun _ => fun
  | [d1, d2, d3, d4] => { results := [.lit (.bool false)], args := [d1, d2, d3, d4] }
  | _ => none }
def TunnelRoutesWrongFalsely : Prop := tunnelRoutesRow.holds Tryz.pinned (OpenSpec.ofChange tunnelRoutesWrong)

/-- 'bitcastlaw16.TunnelSteps': WHATEVER THE INPUT: true; the input reads as it did. -/
def tunnelStepsSpec : ChangeSpec := { name := "tunnelSteps", fn := fun _ => fun
  | [d1, d2, d3] => { results := [.lit (.bool true)], args := [d1, d2, d3] }
  | _ => none }
def tunnelStepsRow : OpenClaim := { program := "ytboimfkommpglaagreatdoor", sum := "d852c819920a4db2d4ba743b811e7f2f9e50f5d9caf1b2497f5055200d81ff8d", func := "bitcast/bitcastlaw16.TunnelSteps", spec := "tunnelSteps", unfollowed := true, recurses := true, named := ["math/bits.deBruijn64tab"], apart := false, laid := [("math/bits.deBruijn64tab", laid_math_bits_deBruijn64tab)] }
def TunnelStepsSaid : Prop := tunnelStepsRow.holds Tryz.pinned (OpenSpec.ofChange tunnelStepsSpec)

/-- ITS FALSE NEIGHBOUR: 'it returns false'. Refute it at one input. -/
def tunnelStepsWrong : ChangeSpec := { name := "tunnelSteps", fn := fun _ => fun
  | [d1, d2, d3] => { results := [.lit (.bool false)], args := [d1, d2, d3] }
  | _ => none }
def TunnelStepsWrongFalsely : Prop := tunnelStepsRow.holds Tryz.pinned (OpenSpec.ofChange tunnelStepsWrong)

/-- 'bitcastlaw16.TunnelRuns': WHATEVER THE INPUT: true; the input reads as it did. -/
def tunnelRunsSpec : ChangeSpec := { name := "tunnelRuns", fn := fun _ => fun
  | [d1, d2] => { results := [.lit (.bool true)], args := [d1, d2] }
  | _ => none }
def tunnelRunsRow : OpenClaim := { program := "ytboimfkommpglaagreatdoor", sum := "d852c819920a4db2d4ba743b811e7f2f9e50f5d9caf1b2497f5055200d81ff8d", func := "bitcast/bitcastlaw16.TunnelRuns", spec := "tunnelRuns", unfollowed := true, recurses := true, named := ["math/bits.deBruijn64tab"], apart := false, laid := [("math/bits.deBruijn64tab", laid_math_bits_deBruijn64tab)] }
def TunnelRunsSaid : Prop := tunnelRunsRow.holds Tryz.pinned (OpenSpec.ofChange tunnelRunsSpec)

/-- ITS FALSE NEIGHBOUR: 'it returns false'. Refute it at one input. -/
def tunnelRunsWrong : ChangeSpec := { name := "tunnelRuns", fn := fun _ => fun
  | [d1, d2] => { results := [.lit (.bool false)], args := [d1, d2] }
  | _ => none }
def TunnelRunsWrongFalsely : Prop := tunnelRunsRow.holds Tryz.pinned (OpenSpec.ofChange tunnelRunsWrong)

/-- 'bitcastlaw16.TunnelSame': WHATEVER THE INPUT: true; the input reads as it did. -/
def tunnelSameSpec : ChangeSpec := { name := "tunnelSame", fn := fun _ => fun
  | [d] => { results := [.lit (.bool true)], args := [d] }
  | _ => none }
def tunnelSameRow : OpenClaim := { program := "ytboimfkommpglaagreatdoor", sum := "d852c819920a4db2d4ba743b811e7f2f9e50f5d9caf1b2497f5055200d81ff8d", func := "bitcast/bitcastlaw16.TunnelSame", spec := "tunnelSame", unfollowed := true, recurses := true, named := ["math/bits.deBruijn64tab"], apart := false, laid := [("math/bits.deBruijn64tab", laid_math_bits_deBruijn64tab)] }
def TunnelSameSaid : Prop := tunnelSameRow.holds Tryz.pinned (OpenSpec.ofChange tunnelSameSpec)

/-- ITS FALSE NEIGHBOUR: 'it returns false'. Refute it at one input. -/
def tunnelSameWrong : ChangeSpec := { name := "tunnelSame", fn := fun _ => fun
  | [d] => { results := [.lit (.bool false)], args := [d] }
  | _ => none }
def TunnelSameWrongFalsely : Prop := tunnelSameRow.holds Tryz.pinned (OpenSpec.ofChange tunnelSameWrong)

/-- 'bitcastlaw16.TunnelCosts': WHATEVER THE INPUT: true; the input reads as it did. -/
def tunnelCostsSpec : ChangeSpec := { name := "tunnelCosts", fn := fun _ => fun
  | [d] => { results := [.lit (.bool true)], args := [d] }
  | _ => none }
def tunnelCostsRow : OpenClaim := { program := "ytboimfkommpglaagreatdoor", sum := "d852c819920a4db2d4ba743b811e7f2f9e50f5d9caf1b2497f5055200d81ff8d", func := "bitcast/bitcastlaw16.TunnelCosts", spec := "tunnelCosts", unfollowed := true, recurses := true, named := ["math/bits.deBruijn64tab"], apart := false, laid := [("math/bits.deBruijn64tab", laid_math_bits_deBruijn64tab)] }
def TunnelCostsSaid : Prop := tunnelCostsRow.holds Tryz.pinned (OpenSpec.ofChange tunnelCostsSpec)

/-- ITS FALSE NEIGHBOUR: 'it returns false'. Refute it at one input. -/
def tunnelCostsWrong : ChangeSpec := { name := "tunnelCosts", fn := fun _ => fun
  | [d] => { results := [.lit (.bool false)], args := [d] }
  | _ => none }
def TunnelCostsWrongFalsely : Prop := tunnelCostsRow.holds Tryz.pinned (OpenSpec.ofChange tunnelCostsWrong)

/-- 'bitcastlaw16.TunnelPlain': WHATEVER THE INPUT: true; the input reads as it did. -/
def tunnelPlainSpec : ChangeSpec := { name := "tunnelPlain", fn := fun _ => fun
  | [d] => { results := [.lit (.bool true)], args := [d] }
  | _ => none }
def tunnelPlainRow : OpenClaim := { program := "ytboimfkommpglaagreatdoor", sum := "d852c819920a4db2d4ba743b811e7f2f9e50f5d9caf1b2497f5055200d81ff8d", func := "bitcast/bitcastlaw16.TunnelPlain", spec := "tunnelPlain", unfollowed := true, recurses := true, named := ["math/bits.deBruijn64tab"], apart := false, laid := [("math/bits.deBruijn64tab", laid_math_bits_deBruijn64tab)] }
def TunnelPlainSaid : Prop := tunnelPlainRow.holds Tryz.pinned (OpenSpec.ofChange tunnelPlainSpec)

/-- ITS FALSE NEIGHBOUR: 'it returns false'. Refute it at one input. -/
def tunnelPlainWrong : ChangeSpec := { name := "tunnelPlain", fn := fun _ => fun
  | [d] => { results := [.lit (.bool false)], args := [d] }
  | _ => none }
def TunnelPlainWrongFalsely : Prop := tunnelPlainRow.holds Tryz.pinned (OpenSpec.ofChange tunnelPlainWrong)

/-- 'bitcastlaw16.TunnelGone': WHATEVER THE INPUT: true; the input reads as it did. -/
def tunnelGoneSpec : ChangeSpec := { name := "tunnelGone", fn := fun _ => fun
  | [d] => { results := [.lit (.bool true)], args := [d] }
  | _ => none }
def tunnelGoneRow : OpenClaim := { program := "ytboimfkommpglaagreatdoor", sum := "d852c819920a4db2d4ba743b811e7f2f9e50f5d9caf1b2497f5055200d81ff8d", func := "bitcast/bitcastlaw16.TunnelGone", spec := "tunnelGone", unfollowed := true, recurses := true, named := ["math/bits.deBruijn64tab"], apart := false, laid := [("math/bits.deBruijn64tab", laid_math_bits_deBruijn64tab)] }
def TunnelGoneSaid : Prop := tunnelGoneRow.holds Tryz.pinned (OpenSpec.ofChange tunnelGoneSpec)

/-- ITS FALSE NEIGHBOUR: 'it returns false'. Refute it at one input. -/
def tunnelGoneWrong : ChangeSpec := { name := "tunnelGone", fn := fun _ => fun
  | [d] => { results := [.lit (.bool false)], args := [d] }
  | _ => none }
def TunnelGoneWrongFalsely : Prop := tunnelGoneRow.holds Tryz.pinned (OpenSpec.ofChange tunnelGoneWrong)

/-- 'bitcastlaw36.VerifyLocates': WHATEVER THE INPUT: true; the input reads as it did. -/
def verifyLocatesSpec : ChangeSpec := { name := "verifyLocates", fn := fun _ => fun
  | [d] => { results := [.lit (.bool true)], args := [d] }
  | _ => none }
def verifyLocatesRow : OpenClaim := { program := "ytboimfkommpglaagreatdoor", sum := "d852c819920a4db2d4ba743b811e7f2f9e50f5d9caf1b2497f5055200d81ff8d", func := "bitcast/bitcastlaw36.VerifyLocates", spec := "verifyLocates", unfollowed := true, recurses := true, named := ["math/bits.deBruijn64tab"], apart := false, laid := [("math/bits.deBruijn64tab", laid_math_bits_deBruijn64tab)] }
def VerifyLocatesSaid : Prop := verifyLocatesRow.holds Tryz.pinned (OpenSpec.ofChange verifyLocatesSpec)

/-- ITS FALSE NEIGHBOUR: 'it returns false'. Refute it at one input. -/
def verifyLocatesWrong : ChangeSpec := { name := "verifyLocates", fn := fun _ => fun
  | [d] => { results := [.lit (.bool false)], args := [d] }
  | _ => none }
def VerifyLocatesWrongFalsely : Prop := verifyLocatesRow.holds Tryz.pinned (OpenSpec.ofChange verifyLocatesWrong)

/-- 'bitcastlaw36.VerifyMany': WHATEVER THE INPUT: true; the input reads as it did. -/
def verifyManySpec : ChangeSpec := { name := "verifyMany", fn := fun _ => fun
  | [d] => { results := [.lit (.bool true)], args := [d] }
  | _ => none }
def verifyManyRow : OpenClaim := { program := "ytboimfkommpglaagreatdoor", sum := "d852c819920a4db2d4ba743b811e7f2f9e50f5d9caf1b2497f5055200d81ff8d", func := "bitcast/bitcastlaw36.VerifyMany", spec := "verifyMany", unfollowed := true, recurses := true, named := ["math/bits.deBruijn64tab"], apart := false, laid := [("math/bits.deBruijn64tab", laid_math_bits_deBruijn64tab)] }
def VerifyManySaid : Prop := verifyManyRow.holds Tryz.pinned (OpenSpec.ofChange verifyManySpec)

/-- ITS FALSE NEIGHBOUR: 'it returns false'. Refute it at one input. -/
def verifyManyWrong : ChangeSpec := { name := "verifyMany", fn := fun _ => fun
  | [d] => { results := [.lit (.bool false)], args := [d] }
  | _ => none }
def VerifyManyWrongFalsely : Prop := verifyManyRow.holds Tryz.pinned (OpenSpec.ofChange verifyManyWrong)

/-- 'bitcastlaw36.VerifyBlind': WHATEVER THE INPUT: true; the input reads as it did. -/
def verifyBlindSpec : ChangeSpec := { name := "verifyBlind", fn := fun _ => fun
  | [d] => { results := [.lit (.bool true)], args := [d] }
  | _ => none }
def verifyBlindRow : OpenClaim := { program := "ytboimfkommpglaagreatdoor", sum := "d852c819920a4db2d4ba743b811e7f2f9e50f5d9caf1b2497f5055200d81ff8d", func := "bitcast/bitcastlaw36.VerifyBlind", spec := "verifyBlind", unfollowed := true, recurses := true, named := ["math/bits.deBruijn64tab"], apart := false, laid := [("math/bits.deBruijn64tab", laid_math_bits_deBruijn64tab)] }
def VerifyBlindSaid : Prop := verifyBlindRow.holds Tryz.pinned (OpenSpec.ofChange verifyBlindSpec)

/-- ITS FALSE NEIGHBOUR: 'it returns false'. Refute it at one input. -/
def verifyBlindWrong : ChangeSpec := { name := "verifyBlind", fn := fun _ => fun
  | [d] => { results := [.lit (.bool false)], args := [d] }
  | _ => none }
def VerifyBlindWrongFalsely : Prop := verifyBlindRow.holds Tryz.pinned (OpenSpec.ofChange verifyBlindWrong)

/-- 'bitcastlaw36.VerifyAnswers': WHATEVER THE INPUT: true; the input reads as it did. -/
def verifyAnswersSpec : ChangeSpec := { name := "verifyAnswers", fn := fun _ => fun
  | [d1, d2, d3, d4, d5, d6, d7, d8] => { results := [.lit (.bool true)], args := [d1, d2, d3, d4, d5, d6, d7, d8] }
  | _ => none }
def verifyAnswersRow : OpenClaim := { program := "ytboimfkommpglaagreatdoor", sum := "d852c819920a4db2d4ba743b811e7f2f9e50f5d9caf1b2497f5055200d81ff8d", func := "bitcast/bitcastlaw36.VerifyAnswers", spec := "verifyAnswers", unfollowed := true, recurses := true, named := ["math/bits.deBruijn64tab"], apart := false, laid := [("math/bits.deBruijn64tab", laid_math_bits_deBruijn64tab)] }
def VerifyAnswersSaid : Prop := verifyAnswersRow.holds Tryz.pinned (OpenSpec.ofChange verifyAnswersSpec)

/-- ITS FALSE NEIGHBOUR: 'it returns false'. Refute it at one input. -/
def verifyAnswersWrong : ChangeSpec := { name := "verifyAnswers", fn := fun _ => fun
  | [d1, d2, d3, d4, d5, d6, d7, d8] => { results := [.lit (.bool false)], args := [d1, d2, d3, d4, d5, d6, d7, d8] }
  | _ => none }
def VerifyAnswersWrongFalsely : Prop := verifyAnswersRow.holds Tryz.pinned (OpenSpec.ofChange verifyAnswersWrong)

/-- 'bitcastlaw36.VerifyReach': WHATEVER THE INPUT: true; the input reads as it did. -/
def verifyReachSpec : ChangeSpec := { name := "verifyReach", fn := fun _ => fun
  | [d] => { results := [.lit (.bool true)], args := [d] }
  | _ => none }
def verifyReachRow : OpenClaim := { program := "ytboimfkommpglaagreatdoor", sum := "d852c819920a4db2d4ba743b811e7f2f9e50f5d9caf1b2497f5055200d81ff8d", func := "bitcast/bitcastlaw36.VerifyReach", spec := "verifyReach", unfollowed := true, recurses := true, named := ["math/bits.deBruijn64tab"], apart := false, laid := [("math/bits.deBruijn64tab", laid_math_bits_deBruijn64tab)] }
def VerifyReachSaid : Prop := verifyReachRow.holds Tryz.pinned (OpenSpec.ofChange verifyReachSpec)

/-- ITS FALSE NEIGHBOUR: 'it returns false'. Refute it at one input. -/
def verifyReachWrong : ChangeSpec := { name := "verifyReach", fn := fun _ => fun
  | [d] => { results := [.lit (.bool false)], args := [d] }
  | _ => none }
def VerifyReachWrongFalsely : Prop := verifyReachRow.holds Tryz.pinned (OpenSpec.ofChange verifyReachWrong)

/- THE SECOND FORM. 'bulk': how many values and letters a reading holds, each counted each time it is reached (what is shared counts as often as it is met; a slice's spare places count too). A statement '..UptoSaid' is the law's where the arguments, and the package variables that the reading takes, are together of bulk at most 1048576: NARROWER than '..Said'. Prove '..Said' where nothing that the law and all that it calls make is longer than what came in: it says more and counts as full. Else prove '..UptoSaid'. A law counts once. -/
mutual
def uptoBulk {H : Type} : DataW H → Nat
  | .lit (.string bytes) => bytes.length + 1
  | .lit _ => 1
  | .nil => 1
  | .ptr d => uptoBulk d + 1
  | .slice elems spare => uptoBulkAll elems + uptoBulkAll spare + 1
  | .agg parts => uptoBulkAll parts + 1
  | .iface _ d => uptoBulk d + 1
  | .map entries => uptoBulkEntries entries + 1
  | .held _ => 1
def uptoBulkAll {H : Type} : List (DataW H) → Nat
  | [] => 0
  | d :: r => uptoBulk d + uptoBulkAll r
def uptoBulkEntries {H : Type} : List (Lit × DataW H) → Nat
  | [] => 0
  | x :: r => uptoBulkEntry x + uptoBulkEntries r
def uptoBulkEntry {H : Type} : Lit × DataW H → Nat
  | (.string bytes, d) => bytes.length + uptoBulk d + 1
  | (_, d) => uptoBulk d + 1
 end
def uptoSmall : (H : Type) → List (DataW H) → Bool := fun _ ds => decide (uptoBulkAll ds ≤ 1048576)
def OpenSpec.upto (s : _root_.Go.ChangeSpec) : _root_.Go.OpenSpec := { _root_.Go.OpenSpec.ofChange s with cond := some uptoSmall }

/-- 'bitcastlaw16.TunnelRoutes', WHERE WHAT IT READS IS OF BULK AT MOST 1048576: true; the input reads as it did. -/
def tunnelRoutesUptoRow : OpenClaim := { program := "ytboimfkommpglaagreatdoor", sum := "d852c819920a4db2d4ba743b811e7f2f9e50f5d9caf1b2497f5055200d81ff8d", func := "bitcast/bitcastlaw16.TunnelRoutes", spec := "tunnelRoutes", unfollowed := true, recurses := true, named := ["math/bits.deBruijn64tab"], apart := false, laid := [("math/bits.deBruijn64tab", laid_math_bits_deBruijn64tab)], narrowed := true }
def TunnelRoutesUptoSaid : Prop := tunnelRoutesUptoRow.holds Tryz.pinned (OpenSpec.upto tunnelRoutesSpec)

/-- 'bitcastlaw16.TunnelSteps', WHERE WHAT IT READS IS OF BULK AT MOST 1048576: true; the input reads as it did. -/
def tunnelStepsUptoRow : OpenClaim := { program := "ytboimfkommpglaagreatdoor", sum := "d852c819920a4db2d4ba743b811e7f2f9e50f5d9caf1b2497f5055200d81ff8d", func := "bitcast/bitcastlaw16.TunnelSteps", spec := "tunnelSteps", unfollowed := true, recurses := true, named := ["math/bits.deBruijn64tab"], apart := false, laid := [("math/bits.deBruijn64tab", laid_math_bits_deBruijn64tab)], narrowed := true }
def TunnelStepsUptoSaid : Prop := tunnelStepsUptoRow.holds Tryz.pinned (OpenSpec.upto tunnelStepsSpec)

/-- 'bitcastlaw16.TunnelRuns', WHERE WHAT IT READS IS OF BULK AT MOST 1048576: true; the input reads as it did. -/
def tunnelRunsUptoRow : OpenClaim := { program := "ytboimfkommpglaagreatdoor", sum := "d852c819920a4db2d4ba743b811e7f2f9e50f5d9caf1b2497f5055200d81ff8d", func := "bitcast/bitcastlaw16.TunnelRuns", spec := "tunnelRuns", unfollowed := true, recurses := true, named := ["math/bits.deBruijn64tab"], apart := false, laid := [("math/bits.deBruijn64tab", laid_math_bits_deBruijn64tab)], narrowed := true }
def TunnelRunsUptoSaid : Prop := tunnelRunsUptoRow.holds Tryz.pinned (OpenSpec.upto tunnelRunsSpec)

/-- 'bitcastlaw16.TunnelSame', WHERE WHAT IT READS IS OF BULK AT MOST 1048576: true; the input reads as it did. -/
def tunnelSameUptoRow : OpenClaim := { program := "ytboimfkommpglaagreatdoor", sum := "d852c819920a4db2d4ba743b811e7f2f9e50f5d9caf1b2497f5055200d81ff8d", func := "bitcast/bitcastlaw16.TunnelSame", spec := "tunnelSame", unfollowed := true, recurses := true, named := ["math/bits.deBruijn64tab"], apart := false, laid := [("math/bits.deBruijn64tab", laid_math_bits_deBruijn64tab)], narrowed := true }
def TunnelSameUptoSaid : Prop := tunnelSameUptoRow.holds Tryz.pinned (OpenSpec.upto tunnelSameSpec)

/-- 'bitcastlaw16.TunnelCosts', WHERE WHAT IT READS IS OF BULK AT MOST 1048576: true; the input reads as it did. -/
def tunnelCostsUptoRow : OpenClaim := { program := "ytboimfkommpglaagreatdoor", sum := "d852c819920a4db2d4ba743b811e7f2f9e50f5d9caf1b2497f5055200d81ff8d", func := "bitcast/bitcastlaw16.TunnelCosts", spec := "tunnelCosts", unfollowed := true, recurses := true, named := ["math/bits.deBruijn64tab"], apart := false, laid := [("math/bits.deBruijn64tab", laid_math_bits_deBruijn64tab)], narrowed := true }
def TunnelCostsUptoSaid : Prop := tunnelCostsUptoRow.holds Tryz.pinned (OpenSpec.upto tunnelCostsSpec)

/-- 'bitcastlaw16.TunnelPlain', WHERE WHAT IT READS IS OF BULK AT MOST 1048576: true; the input reads as it did. -/
def tunnelPlainUptoRow : OpenClaim := { program := "ytboimfkommpglaagreatdoor", sum := "d852c819920a4db2d4ba743b811e7f2f9e50f5d9caf1b2497f5055200d81ff8d", func := "bitcast/bitcastlaw16.TunnelPlain", spec := "tunnelPlain", unfollowed := true, recurses := true, named := ["math/bits.deBruijn64tab"], apart := false, laid := [("math/bits.deBruijn64tab", laid_math_bits_deBruijn64tab)], narrowed := true }
def TunnelPlainUptoSaid : Prop := tunnelPlainUptoRow.holds Tryz.pinned (OpenSpec.upto tunnelPlainSpec)

/-- 'bitcastlaw16.TunnelGone', WHERE WHAT IT READS IS OF BULK AT MOST 1048576: true; the input reads as it did. -/
def tunnelGoneUptoRow : OpenClaim := { program := "ytboimfkommpglaagreatdoor", sum := "d852c819920a4db2d4ba743b811e7f2f9e50f5d9caf1b2497f5055200d81ff8d", func := "bitcast/bitcastlaw16.TunnelGone", spec := "tunnelGone", unfollowed := true, recurses := true, named := ["math/bits.deBruijn64tab"], apart := false, laid := [("math/bits.deBruijn64tab", laid_math_bits_deBruijn64tab)], narrowed := true }
def TunnelGoneUptoSaid : Prop := tunnelGoneUptoRow.holds Tryz.pinned (OpenSpec.upto tunnelGoneSpec)

/-- 'bitcastlaw36.VerifyLocates', WHERE WHAT IT READS IS OF BULK AT MOST 1048576: true; the input reads as it did. -/
def verifyLocatesUptoRow : OpenClaim := { program := "ytboimfkommpglaagreatdoor", sum := "d852c819920a4db2d4ba743b811e7f2f9e50f5d9caf1b2497f5055200d81ff8d", func := "bitcast/bitcastlaw36.VerifyLocates", spec := "verifyLocates", unfollowed := true, recurses := true, named := ["math/bits.deBruijn64tab"], apart := false, laid := [("math/bits.deBruijn64tab", laid_math_bits_deBruijn64tab)], narrowed := true }
def VerifyLocatesUptoSaid : Prop := verifyLocatesUptoRow.holds Tryz.pinned (OpenSpec.upto verifyLocatesSpec)

/-- 'bitcastlaw36.VerifyMany', WHERE WHAT IT READS IS OF BULK AT MOST 1048576: true; the input reads as it did. -/
def verifyManyUptoRow : OpenClaim := { program := "ytboimfkommpglaagreatdoor", sum := "d852c819920a4db2d4ba743b811e7f2f9e50f5d9caf1b2497f5055200d81ff8d", func := "bitcast/bitcastlaw36.VerifyMany", spec := "verifyMany", unfollowed := true, recurses := true, named := ["math/bits.deBruijn64tab"], apart := false, laid := [("math/bits.deBruijn64tab", laid_math_bits_deBruijn64tab)], narrowed := true }
def VerifyManyUptoSaid : Prop := verifyManyUptoRow.holds Tryz.pinned (OpenSpec.upto verifyManySpec)

/-- 'bitcastlaw36.VerifyBlind', WHERE WHAT IT READS IS OF BULK AT MOST 1048576: true; the input reads as it did. -/
def verifyBlindUptoRow : OpenClaim := { program := "ytboimfkommpglaagreatdoor", sum := "d852c819920a4db2d4ba743b811e7f2f9e50f5d9caf1b2497f5055200d81ff8d", func := "bitcast/bitcastlaw36.VerifyBlind", spec := "verifyBlind", unfollowed := true, recurses := true, named := ["math/bits.deBruijn64tab"], apart := false, laid := [("math/bits.deBruijn64tab", laid_math_bits_deBruijn64tab)], narrowed := true }
def VerifyBlindUptoSaid : Prop := verifyBlindUptoRow.holds Tryz.pinned (OpenSpec.upto verifyBlindSpec)

/-- 'bitcastlaw36.VerifyAnswers', WHERE WHAT IT READS IS OF BULK AT MOST 1048576: true; the input reads as it did. -/
def verifyAnswersUptoRow : OpenClaim := { program := "ytboimfkommpglaagreatdoor", sum := "d852c819920a4db2d4ba743b811e7f2f9e50f5d9caf1b2497f5055200d81ff8d", func := "bitcast/bitcastlaw36.VerifyAnswers", spec := "verifyAnswers", unfollowed := true, recurses := true, named := ["math/bits.deBruijn64tab"], apart := false, laid := [("math/bits.deBruijn64tab", laid_math_bits_deBruijn64tab)], narrowed := true }
def VerifyAnswersUptoSaid : Prop := verifyAnswersUptoRow.holds Tryz.pinned (OpenSpec.upto verifyAnswersSpec)

/-- 'bitcastlaw36.VerifyReach', WHERE WHAT IT READS IS OF BULK AT MOST 1048576: true; the input reads as it did. -/
def verifyReachUptoRow : OpenClaim := { program := "ytboimfkommpglaagreatdoor", sum := "d852c819920a4db2d4ba743b811e7f2f9e50f5d9caf1b2497f5055200d81ff8d", func := "bitcast/bitcastlaw36.VerifyReach", spec := "verifyReach", unfollowed := true, recurses := true, named := ["math/bits.deBruijn64tab"], apart := false, laid := [("math/bits.deBruijn64tab", laid_math_bits_deBruijn64tab)], narrowed := true }
def VerifyReachUptoSaid : Prop := verifyReachUptoRow.holds Tryz.pinned (OpenSpec.upto verifyReachSpec)

end Rows
end Go.Proofs.YtboimfkommpglaaGreatDoor
