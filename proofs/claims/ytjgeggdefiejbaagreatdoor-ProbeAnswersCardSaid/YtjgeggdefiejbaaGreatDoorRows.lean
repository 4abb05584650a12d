/-
  NARROWER THAN 'FOR EVERY INPUT', by the rows' own cells (each row's printed sentence says how): ProbeRoute: laid · ProbeOnce: laid · ProbeAnswers: laid · ProbeNext: laid · SpreadPaths: laid · SpreadShortest: laid · SpreadSums: laid · SpreadEntropy: laid · SpreadSame: laid · SpreadFlow: laid.
  DERIVED. THE GIVEN ROWS OF THIS SEAT. 10 by the template 'for every input the law returns true; each argument reads behind the call as it read before'; 0 by the template 'total and deterministic' (their statements: YtjgeggdefiejbaaGreatDoorTotals.lean).
  GIVEN WITH THE SEED: the statements are not yours to turn. If you find one false, say at which input.
  Laid BY PROGRAM, IN A SANDBOX (cutbox-rows.mjs): the forced cells as the released guide's own fill.sh prints them over the translation 323e301ad5ddbb2b… (all of the seat's roots in one cut). By AI agents, Wed Nov 11 2026. No macro, syntax, notation, axiom, sorry.
-/
import Derived.Test.YtjgeggdefiejbaaGreatDoorChecked
import GoSem.Claim
import GoSem.ClaimJoined
import GoSem.ClaimMapViews
import Derived.JoinedTies
import Derived.KernelRfl
namespace Go.Proofs.YtjgeggdefiejbaaGreatDoor
/- THE CELL 'sum', in the pinned program and in every row, IS THE sha256 OF THE DUMP (.gsa) THAT YtjgeggdefiejbaaGreatDoorProg.lean LOADS. Nothing in Lean hashes anything: it is a label: what it is worth is what the hold of that sum in a sandbox is worth. -/
noncomputable def Tryz.pinned : Pinned := { name := "ytjgeggdefiejbaagreatdoor", sum := "323e301ad5ddbb2b9ce7176408ad70727fbcfaed9efadcb3740950c384c51b56", checked := Tryz.checked }
namespace Rows
def none {H : Type} : Left H := { results := [], args := [] }

/- WHAT THE LISTED PACKAGE-LEVEL VARIABLES READ AS WHEN THE CALL BEGINS. Each datum BY PROGRAM (the guide's laid-datum.mjs) off the statement by which the dump's own 'gosem.cut.vars' lays the variable. In a bare row this is a premise. The card (YtjgeggdefiejbaaGreatDoorCards.lean) ties it to the program's text. -/
def laid_math_bits_deBruijn64tab {H : Type} : DataW H := .agg [.lit (.int .u8 0), .lit (.int .u8 1), .lit (.int .u8 56), .lit (.int .u8 2), .lit (.int .u8 57), .lit (.int .u8 49), .lit (.int .u8 28), .lit (.int .u8 3), .lit (.int .u8 61), .lit (.int .u8 58), .lit (.int .u8 42), .lit (.int .u8 50), .lit (.int .u8 38), .lit (.int .u8 29), .lit (.int .u8 17), .lit (.int .u8 4), .lit (.int .u8 62), .lit (.int .u8 47), .lit (.int .u8 59), .lit (.int .u8 36), .lit (.int .u8 45), .lit (.int .u8 43), .lit (.int .u8 51), .lit (.int .u8 22), .lit (.int .u8 53), .lit (.int .u8 39), .lit (.int .u8 33), .lit (.int .u8 30), .lit (.int .u8 24), .lit (.int .u8 18), .lit (.int .u8 12), .lit (.int .u8 5), .lit (.int .u8 63), .lit (.int .u8 55), .lit (.int .u8 48), .lit (.int .u8 27), .lit (.int .u8 60), .lit (.int .u8 41), .lit (.int .u8 37), .lit (.int .u8 16), .lit (.int .u8 46), .lit (.int .u8 35), .lit (.int .u8 44), .lit (.int .u8 21), .lit (.int .u8 52), .lit (.int .u8 32), .lit (.int .u8 23), .lit (.int .u8 11), .lit (.int .u8 54), .lit (.int .u8 26), .lit (.int .u8 40), .lit (.int .u8 15), .lit (.int .u8 34), .lit (.int .u8 20), .lit (.int .u8 31), .lit (.int .u8 10), .lit (.int .u8 25), .lit (.int .u8 14), .lit (.int .u8 19), .lit (.int .u8 9), .lit (.int .u8 13), .lit (.int .u8 8), .lit (.int .u8 7), .lit (.int .u8 6)]

/-- 'bitcastlaw35.ProbeRoute': WHATEVER THE INPUT: true; the input reads as it did. -/
def probeRouteSpec : ChangeSpec := { name := "probeRoute", fn := fun _ => fun
  | [d] => { results := [.lit (.bool true)], args := [d] }
  | _ => none }
def probeRouteRow : OpenClaim := { program := "ytjgeggdefiejbaagreatdoor", sum := "323e301ad5ddbb2b9ce7176408ad70727fbcfaed9efadcb3740950c384c51b56", func := "bitcast/bitcastlaw35.ProbeRoute", spec := "probeRoute", unfollowed := true, recurses := true, named := ["math/bits.deBruijn64tab"], plainKeys := false, apart := false, laid := [("math/bits.deBruijn64tab", laid_math_bits_deBruijn64tab)] }
def ProbeRouteSaid : Prop := probeRouteRow.holds Tryz.pinned (OpenSpec.ofChange probeRouteSpec)

/-- ITS FALSE NEIGHBOUR: 'it returns false'. Refute it at one input. -/
def probeRouteWrong : ChangeSpec := { name := "probeRoute", fn := fun _ => fun
  | [d] => { results := [.lit (.bool false)], args := [d] }
  | _ => none }
def ProbeRouteWrongFalsely : Prop := probeRouteRow.holds Tryz.pinned (OpenSpec.ofChange probeRouteWrong)

/-- 'bitcastlaw35.ProbeOnce': WHATEVER THE INPUT: true; the input reads as it did. -/
def probeOnceSpec : ChangeSpec := { name := "probeOnce", fn := fun _ => fun
  | [d] => { results := [.lit (.bool true)], args := [d] }
  | _ => none }
def probeOnceRow : OpenClaim := { program := "ytjgeggdefiejbaagreatdoor", sum := "323e301ad5ddbb2b9ce7176408ad70727fbcfaed9efadcb3740950c384c51b56", func := "bitcast/bitcastlaw35.ProbeOnce", spec := "probeOnce", unfollowed := true, recurses := true, named := ["math/bits.deBruijn64tab"], plainKeys := false, apart := false, laid := [("math/bits.deBruijn64tab", laid_math_bits_deBruijn64tab)] }
def ProbeOnceSaid : Prop := probeOnceRow.holds Tryz.pinned (OpenSpec.ofChange probeOnceSpec)

/-- ITS FALSE NEIGHBOUR: 'it returns false'. Refute it at one input. -/
def probeOnceWrong : ChangeSpec := { name := "probeOnce", fn := fun _ => fun
  | [d] => { results := [.lit (.bool false)], args := [d] }
  | _ => none }
def ProbeOnceWrongFalsely : Prop := probeOnceRow.holds Tryz.pinned (OpenSpec.ofChange probeOnceWrong)

/-- 'bitcastlaw35.ProbeAnswers': WHATEVER THE INPUT: true; the input reads as it did. -/
def probeAnswersSpec : ChangeSpec := { name := "probeAnswers", fn := fun _ => fun
  | [d1, d2, d3, d4, d5, d6, d7] => { results := [.lit (.bool true)], args := [d1, d2, d3, d4, d5, d6, d7] }
  | _ => none }
def probeAnswersRow : OpenClaim := { program := "ytjgeggdefiejbaagreatdoor", sum := "323e301ad5ddbb2b9ce7176408ad70727fbcfaed9efadcb3740950c384c51b56", func := "bitcast/bitcastlaw35.ProbeAnswers", spec := "probeAnswers", unfollowed := true, recurses := true, named := ["math/bits.deBruijn64tab"], plainKeys := false, apart := false, laid := [("math/bits.deBruijn64tab", laid_math_bits_deBruijn64tab)] }
def ProbeAnswersSaid : Prop := probeAnswersRow.holds Tryz.pinned (OpenSpec.ofChange probeAnswersSpec)

/-- ITS FALSE NEIGHBOUR: 'it returns false'. Refute it at one input. -/
def probeAnswersWrong : ChangeSpec := { name := "probeAnswers", fn := fun _ => fun
  | [d1, d2, d3, d4, d5, d6, d7] => { results := [.lit (.bool false)], args := [d1, d2, d3, d4, d5, d6, d7] }
  | _ => none }
def ProbeAnswersWrongFalsely : Prop := probeAnswersRow.holds Tryz.pinned (OpenSpec.ofChange probeAnswersWrong)

/-- 'bitcastlaw35.ProbeNext': WHATEVER THE INPUT: true; the input reads as it did. -/
def probeNextSpec : ChangeSpec := { name := "probeNext", fn := fun _ => fun
  | [d] => { results := [.lit (.bool true)], args := [d] }
  | _ => none }
def probeNextRow : OpenClaim := { program := "ytjgeggdefiejbaagreatdoor", sum := "323e301ad5ddbb2b9ce7176408ad70727fbcfaed9efadcb3740950c384c51b56", func := "bitcast/bitcastlaw35.ProbeNext", spec := "probeNext", unfollowed := true, recurses := true, named := ["math/bits.deBruijn64tab"], plainKeys := false, apart := false, laid := [("math/bits.deBruijn64tab", laid_math_bits_deBruijn64tab)] }
def ProbeNextSaid : Prop := probeNextRow.holds Tryz.pinned (OpenSpec.ofChange probeNextSpec)

/-- ITS FALSE NEIGHBOUR: 'it returns false'. Refute it at one input. -/
def probeNextWrong : ChangeSpec := { name := "probeNext", fn := fun _ => fun
  | [d] => { results := [.lit (.bool false)], args := [d] }
  | _ => none }
def ProbeNextWrongFalsely : Prop := probeNextRow.holds Tryz.pinned (OpenSpec.ofChange probeNextWrong)

/-- 'bitcastlaw15.SpreadPaths': WHATEVER THE INPUT: true; the input reads as it did. -/
def spreadPathsSpec : ChangeSpec := { name := "spreadPaths", fn := fun _ => fun
  | [d1, d2, d3] => { results := [.lit (.bool true)], args := [d1, d2, d3] }
  | _ => none }
def spreadPathsRow : OpenClaim := { program := "ytjgeggdefiejbaagreatdoor", sum := "323e301ad5ddbb2b9ce7176408ad70727fbcfaed9efadcb3740950c384c51b56", func := "bitcast/bitcastlaw15.SpreadPaths", spec := "spreadPaths", unfollowed := true, recurses := true, named := ["math/bits.deBruijn64tab"], plainKeys := false, apart := false, laid := [("math/bits.deBruijn64tab", laid_math_bits_deBruijn64tab)] }
def SpreadPathsSaid : Prop := spreadPathsRow.holds Tryz.pinned (OpenSpec.ofChange spreadPathsSpec)

/-- ITS FALSE NEIGHBOUR: 'it returns false'. Refute it at one input. -/
def spreadPathsWrong : ChangeSpec := { name := "spreadPaths", fn := fun _ => fun
  | [d1, d2, d3] => { results := [.lit (.bool false)], args := [d1, d2, d3] }
  | _ => none }
def SpreadPathsWrongFalsely : Prop := spreadPathsRow.holds Tryz.pinned (OpenSpec.ofChange spreadPathsWrong)

/-- 'bitcastlaw15.SpreadShortest': WHATEVER THE INPUT: true; the input reads as it did. -/
def spreadShortestSpec : ChangeSpec := { name := "spreadShortest", fn := fun _ => fun
  | [d] => { results := [.lit (.bool true)], args := [d] }
  | _ => none }
def spreadShortestRow : OpenClaim := { program := "ytjgeggdefiejbaagreatdoor", sum := "323e301ad5ddbb2b9ce7176408ad70727fbcfaed9efadcb3740950c384c51b56", func := "bitcast/bitcastlaw15.SpreadShortest", spec := "spreadShortest", unfollowed := true, recurses := true, named := ["math/bits.deBruijn64tab"], plainKeys := false, apart := false, laid := [("math/bits.deBruijn64tab", laid_math_bits_deBruijn64tab)] }
def SpreadShortestSaid : Prop := spreadShortestRow.holds Tryz.pinned (OpenSpec.ofChange spreadShortestSpec)

/-- ITS FALSE NEIGHBOUR: 'it returns false'. Refute it at one input. -/
def spreadShortestWrong : ChangeSpec := { name := "spreadShortest", fn := fun _ => fun
  | [d] => { results := [.lit (.bool false)], args := [d] }
  | _ => none }
def SpreadShortestWrongFalsely : Prop := spreadShortestRow.holds Tryz.pinned (OpenSpec.ofChange spreadShortestWrong)

/-- 'bitcastlaw15.SpreadSums': WHATEVER THE INPUT: true; the input reads as it did. -/
def spreadSumsSpec : ChangeSpec := { name := "spreadSums", fn := fun _ => fun
  | [d] => { results := [.lit (.bool true)], args := [d] }
  | _ => none }
def spreadSumsRow : OpenClaim := { program := "ytjgeggdefiejbaagreatdoor", sum := "323e301ad5ddbb2b9ce7176408ad70727fbcfaed9efadcb3740950c384c51b56", func := "bitcast/bitcastlaw15.SpreadSums", spec := "spreadSums", unfollowed := true, recurses := true, named := ["math/bits.deBruijn64tab"], plainKeys := false, apart := false, laid := [("math/bits.deBruijn64tab", laid_math_bits_deBruijn64tab)] }
def SpreadSumsSaid : Prop := spreadSumsRow.holds Tryz.pinned (OpenSpec.ofChange spreadSumsSpec)

/-- ITS FALSE NEIGHBOUR: 'it returns false'. Refute it at one input. -/
def spreadSumsWrong : ChangeSpec := { name := "spreadSums", fn := fun _ => fun
  | [d] => { results := [.lit (.bool false)], args := [d] }
  | _ => none }
def SpreadSumsWrongFalsely : Prop := spreadSumsRow.holds Tryz.pinned (OpenSpec.ofChange spreadSumsWrong)

/-- 'bitcastlaw15.SpreadEntropy': WHATEVER THE INPUT: true; the input reads as it did. -/
def spreadEntropySpec : ChangeSpec := { name := "spreadEntropy", fn := fun _ => fun
  | [d1, d2] => { results := [.lit (.bool true)], args := [d1, d2] }
  | _ => none }
def spreadEntropyRow : OpenClaim := { program := "ytjgeggdefiejbaagreatdoor", sum := "323e301ad5ddbb2b9ce7176408ad70727fbcfaed9efadcb3740950c384c51b56", func := "bitcast/bitcastlaw15.SpreadEntropy", spec := "spreadEntropy", unfollowed := true, recurses := true, named := ["math/bits.deBruijn64tab"], plainKeys := false, apart := false, laid := [("math/bits.deBruijn64tab", laid_math_bits_deBruijn64tab)] }
def SpreadEntropySaid : Prop := spreadEntropyRow.holds Tryz.pinned (OpenSpec.ofChange spreadEntropySpec)

/-- ITS FALSE NEIGHBOUR: 'it returns false'. Refute it at one input. -/
def spreadEntropyWrong : ChangeSpec := { name := "spreadEntropy", fn := fun _ => fun
  | [d1, d2] => { results := [.lit (.bool false)], args := [d1, d2] }
  | _ => none }
def SpreadEntropyWrongFalsely : Prop := spreadEntropyRow.holds Tryz.pinned (OpenSpec.ofChange spreadEntropyWrong)

/-- 'bitcastlaw15.SpreadSame': WHATEVER THE INPUT: true; the input reads as it did. -/
def spreadSameSpec : ChangeSpec := { name := "spreadSame", fn := fun _ => fun
  | [d] => { results := [.lit (.bool true)], args := [d] }
  | _ => none }
def spreadSameRow : OpenClaim := { program := "ytjgeggdefiejbaagreatdoor", sum := "323e301ad5ddbb2b9ce7176408ad70727fbcfaed9efadcb3740950c384c51b56", func := "bitcast/bitcastlaw15.SpreadSame", spec := "spreadSame", unfollowed := true, recurses := true, named := ["math/bits.deBruijn64tab"], plainKeys := false, apart := false, laid := [("math/bits.deBruijn64tab", laid_math_bits_deBruijn64tab)] }
def SpreadSameSaid : Prop := spreadSameRow.holds Tryz.pinned (OpenSpec.ofChange spreadSameSpec)

/-- ITS FALSE NEIGHBOUR: 'it returns false'. Refute it at one input. -/
def spreadSameWrong : ChangeSpec := { name := "spreadSame", fn := fun _ => fun
  | [d] => { results := [.lit (.bool false)], args := [d] }
  | _ => none }
def SpreadSameWrongFalsely : Prop := spreadSameRow.holds Tryz.pinned (OpenSpec.ofChange spreadSameWrong)

/-- 'bitcastlaw15.SpreadFlow': WHATEVER THE INPUT: true; the input reads as it did. -/
def spreadFlowSpec : ChangeSpec := { name := "spreadFlow", fn := fun _ => fun
  | [d1, d2] => { results := [.lit (.bool true)], args := [d1, d2] }
  | _ => none }
def spreadFlowRow : OpenClaim := { program := "ytjgeggdefiejbaagreatdoor", sum := "323e301ad5ddbb2b9ce7176408ad70727fbcfaed9efadcb3740950c384c51b56", func := "bitcast/bitcastlaw15.SpreadFlow", spec := "spreadFlow", unfollowed := true, recurses := true, named := ["math/bits.deBruijn64tab"], plainKeys := false, apart := false, laid := [("math/bits.deBruijn64tab", laid_math_bits_deBruijn64tab)] }
def SpreadFlowSaid : Prop := spreadFlowRow.holds Tryz.pinned (OpenSpec.ofChange spreadFlowSpec)

/-- ITS FALSE NEIGHBOUR: 'it returns false'. Refute it at one input. -/
def spreadFlowWrong : ChangeSpec := { name := "spreadFlow", fn := fun _ => fun
  | [d1, d2] => { results := [.lit (.bool false)], args := [d1, d2] }
  | _ => none }
def SpreadFlowWrongFalsely : Prop := spreadFlowRow.holds Tryz.pinned (OpenSpec.ofChange spreadFlowWrong)

/- THE SECOND FORM. 'bulk': how many values and letters a reading holds, each counted each time it is reached (what is shared counts as often as it is met; a slice's spare places count too). A statement '..UptoSaid' is the law's where the arguments, and the package variables that the reading takes, are together of bulk at most 1048576: NARROWER than '..Said'. Prove '..Said' where nothing that the law and all that it calls make is longer than what came in: it says more and counts as full. Else prove '..UptoSaid'. A law counts once. -/
mutual
def uptoBulk {H : Type} : DataW H → Nat
  | .lit (.string bytes) => bytes.length + 1
  | .lit _ => 1
  | .nil => 1
  | .ptr d => uptoBulk d + 1
  | .slice elems spare => uptoBulkAll elems + uptoBulkAll spare + 1
  | .agg parts => uptoBulkAll parts + 1
  | .iface _ d => uptoBulk d + 1
  | .map entries => uptoBulkEntries entries + 1
  | .held _ => 1
def uptoBulkAll {H : Type} : List (DataW H) → Nat
  | [] => 0
  | d :: r => uptoBulk d + uptoBulkAll r
def uptoBulkEntries {H : Type} : List (Lit × DataW H) → Nat
  | [] => 0
  | x :: r => uptoBulkEntry x + uptoBulkEntries r
def uptoBulkEntry {H : Type} : Lit × DataW H → Nat
  | (.string bytes, d) => bytes.length + uptoBulk d + 1
  | (_, d) => uptoBulk d + 1
 end
def uptoSmall : (H : Type) → List (DataW H) → Bool := fun _ ds => decide (uptoBulkAll ds ≤ 1048576)
def OpenSpec.upto (s : _root_.Go.ChangeSpec) : _root_.Go.OpenSpec := { _root_.Go.OpenSpec.ofChange s with cond := some uptoSmall }

/-- 'bitcastlaw35.ProbeRoute', WHERE WHAT IT READS IS OF BULK AT MOST 1048576: true; the input reads as it did. -/
def probeRouteUptoRow : OpenClaim := { program := "ytjgeggdefiejbaagreatdoor", sum := "323e301ad5ddbb2b9ce7176408ad70727fbcfaed9efadcb3740950c384c51b56", func := "bitcast/bitcastlaw35.ProbeRoute", spec := "probeRoute", unfollowed := true, recurses := true, named := ["math/bits.deBruijn64tab"], plainKeys := false, apart := false, laid := [("math/bits.deBruijn64tab", laid_math_bits_deBruijn64tab)], narrowed := true }
def ProbeRouteUptoSaid : Prop := probeRouteUptoRow.holds Tryz.pinned (OpenSpec.upto probeRouteSpec)

/-- 'bitcastlaw35.ProbeOnce', WHERE WHAT IT READS IS OF BULK AT MOST 1048576: true; the input reads as it did. -/
def probeOnceUptoRow : OpenClaim := { program := "ytjgeggdefiejbaagreatdoor", sum := "323e301ad5ddbb2b9ce7176408ad70727fbcfaed9efadcb3740950c384c51b56", func := "bitcast/bitcastlaw35.ProbeOnce", spec := "probeOnce", unfollowed := true, recurses := true, named := ["math/bits.deBruijn64tab"], plainKeys := false, apart := false, laid := [("math/bits.deBruijn64tab", laid_math_bits_deBruijn64tab)], narrowed := true }
def ProbeOnceUptoSaid : Prop := probeOnceUptoRow.holds Tryz.pinned (OpenSpec.upto probeOnceSpec)

/-- 'bitcastlaw35.ProbeAnswers', WHERE WHAT IT READS IS OF BULK AT MOST 1048576: true; the input reads as it did. -/
def probeAnswersUptoRow : OpenClaim := { program := "ytjgeggdefiejbaagreatdoor", sum := "323e301ad5ddbb2b9ce7176408ad70727fbcfaed9efadcb3740950c384c51b56", func := "bitcast/bitcastlaw35.ProbeAnswers", spec := "probeAnswers", unfollowed := true, recurses := true, named := ["math/bits.deBruijn64tab"], plainKeys := false, apart := false, laid := [("math/bits.deBruijn64tab", laid_math_bits_deBruijn64tab)], narrowed := true }
def ProbeAnswersUptoSaid : Prop := probeAnswersUptoRow.holds Tryz.pinned (OpenSpec.upto probeAnswersSpec)

/-- 'bitcastlaw35.ProbeNext', WHERE WHAT IT READS IS OF BULK AT MOST 1048576: true; the input reads as it did. -/
def probeNextUptoRow : OpenClaim := { program := "ytjgeggdefiejbaagreatdoor", sum := "323e301ad5ddbb2b9ce7176408ad70727fbcfaed9efadcb3740950c384c51b56", func := "bitcast/bitcastlaw35.ProbeNext", spec := "probeNext", unfollowed := true, recurses := true, named := ["math/bits.deBruijn64tab"], plainKeys := false, apart := false, laid := [("math/bits.deBruijn64tab", laid_math_bits_deBruijn64tab)], narrowed := true }
def ProbeNextUptoSaid : Prop := probeNextUptoRow.holds Tryz.pinned (OpenSpec.upto probeNextSpec)

/-- 'bitcastlaw15.SpreadPaths', WHERE WHAT IT READS IS OF BULK AT MOST 1048576: true; the input reads as it did. -/
def spreadPathsUptoRow : OpenClaim := { program := "ytjgeggdefiejbaagreatdoor", sum := "323e301ad5ddbb2b9ce7176408ad70727fbcfaed9efadcb3740950c384c51b56", func := "bitcast/bitcastlaw15.SpreadPaths", spec := "spreadPaths", unfollowed := true, recurses := true, named := ["math/bits.deBruijn64tab"], plainKeys := false, apart := false, laid := [("math/bits.deBruijn64tab", laid_math_bits_deBruijn64tab)], narrowed := true }
def SpreadPathsUptoSaid : Prop := spreadPathsUptoRow.holds Tryz.pinned (OpenSpec.upto spreadPathsSpec)

/-- 'bitcastlaw15.SpreadShortest', WHERE WHAT IT READS IS OF BULK AT MOST 1048576: true; the input reads as it did. -/
def spreadShortestUptoRow : OpenClaim := { program := "ytjgeggdefiejbaagreatdoor", sum := "323e301ad5ddbb2b9ce7176408ad70727fbcfaed9efadcb3740950c384c51b56", func := "bitcast/bitcastlaw15.SpreadShortest", spec := "spreadShortest", unfollowed := true, recurses := true, named := ["math/bits.deBruijn64tab"], plainKeys := false, apart := false, laid := [("math/bits.deBruijn64tab", laid_math_bits_deBruijn64tab)], narrowed := true }
def SpreadShortestUptoSaid : Prop := spreadShortestUptoRow.holds Tryz.pinned (OpenSpec.upto spreadShortestSpec)

/-- 'bitcastlaw15.SpreadSums', WHERE WHAT IT READS IS OF BULK AT MOST 1048576: true; the input reads as it did. -/
def spreadSumsUptoRow : OpenClaim := { program := "ytjgeggdefiejbaagreatdoor", sum := "323e301ad5ddbb2b9ce7176408ad70727fbcfaed9efadcb3740950c384c51b56", func := "bitcast/bitcastlaw15.SpreadSums", spec := "spreadSums", unfollowed := true, recurses := true, named := ["math/bits.deBruijn64tab"], plainKeys := false, apart := false, laid := [("math/bits.deBruijn64tab", laid_math_bits_deBruijn64tab)], narrowed := true }
def SpreadSumsUptoSaid : Prop := spreadSumsUptoRow.holds Tryz.pinned (OpenSpec.upto spreadSumsSpec)

/-- 'bitcastlaw15.SpreadEntropy', WHERE WHAT IT READS IS OF BULK AT MOST 1048576: true; the input reads as it did. -/
def spreadEntropyUptoRow : OpenClaim := { program := "ytjgeggdefiejbaagreatdoor", sum := "323e301ad5ddbb2b9ce7176408ad70727fbcfaed9efadcb3740950c384c51b56", func := "bitcast/bitcastlaw15.SpreadEntropy", spec := "spreadEntropy", unfollowed := true, recurses := true, named := ["math/bits.deBruijn64tab"], plainKeys := false, apart := false, laid := [("math/bits.deBruijn64tab", laid_math_bits_deBruijn64tab)], narrowed := true }
def SpreadEntropyUptoSaid : Prop := spreadEntropyUptoRow.holds Tryz.pinned (OpenSpec.upto spreadEntropySpec)

/-- 'bitcastlaw15.SpreadSame', WHERE WHAT IT READS IS OF BULK AT MOST 1048576: true; the input reads as it did. -/
def spreadSameUptoRow : OpenClaim := { program := "ytjgeggdefiejbaagreatdoor", sum := "323e301ad5ddbb2b9ce7176408ad70727fbcfaed9efadcb3740950c384c51b56", func := "bitcast/bitcastlaw15.SpreadSame", spec := "spreadSame", unfollowed := true, recurses := true, named := ["math/bits.deBruijn64tab"], plainKeys := false, apart := false, laid := [("math/bits.deBruijn64tab", laid_math_bits_deBruijn64tab)], narrowed := true }
def SpreadSameUptoSaid : Prop := spreadSameUptoRow.holds Tryz.pinned (OpenSpec.upto spreadSameSpec)

/-- 'bitcastlaw15.SpreadFlow', WHERE WHAT IT READS IS OF BULK AT MOST 1048576: true; the input reads as it did. -/
def spreadFlowUptoRow : OpenClaim := { program := "ytjgeggdefiejbaagreatdoor", sum := "323e301ad5ddbb2b9ce7176408ad70727fbcfaed9efadcb3740950c384c51b56", func := "bitcast/bitcastlaw15.SpreadFlow", spec := "spreadFlow", unfollowed := true, recurses := true, named := ["math/bits.deBruijn64tab"], plainKeys := false, apart := false, laid := [("math/bits.deBruijn64tab", laid_math_bits_deBruijn64tab)], narrowed := true }
def SpreadFlowUptoSaid : Prop := spreadFlowUptoRow.holds Tryz.pinned (OpenSpec.upto spreadFlowSpec)

end Rows
end Go.Proofs.YtjgeggdefiejbaaGreatDoor
