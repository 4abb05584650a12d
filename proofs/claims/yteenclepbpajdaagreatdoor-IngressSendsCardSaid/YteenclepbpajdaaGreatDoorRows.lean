/-
  NARROWER THAN 'FOR EVERY INPUT', by the rows' own cells (each row's printed sentence says how): IngressSaves: laid · TraceRuns: laid · TraceOnce: laid · TraceExactly: laid · TraceSparse: laid · TraceAdds: laid · TracePaths: laid · TraceShortest: laid · IngressReaches: laid · IngressSends: laid.
  DERIVED. THE GIVEN ROWS OF THIS SEAT. 10 by the template 'for every input the law returns true; each argument reads behind the call as it read before'; 0 by the template 'total and deterministic' (their statements: YteenclepbpajdaaGreatDoorTotals.lean).
  GIVEN WITH THE SEED: the statements are not yours to turn. If you find one false, say at which input.
  Laid BY PROGRAM, IN A SANDBOX (cutbox-rows.mjs): the forced cells as the released guide's own fill.sh prints them over the translation d0bbcf186815dd90… (all of the seat's roots in one cut). By AI agents, Wed Nov 11 2026. No macro, syntax, notation, axiom, sorry.
-/
import Derived.Test.YteenclepbpajdaaGreatDoorChecked
import GoSem.Claim
import GoSem.ClaimJoined
import GoSem.ClaimMapViews
import Derived.JoinedTies
import Derived.KernelRfl
namespace Go.Proofs.YteenclepbpajdaaGreatDoor
/- THE CELL 'sum', in the pinned program and in every row, IS THE sha256 OF THE DUMP (.gsa) THAT YteenclepbpajdaaGreatDoorProg.lean LOADS. Nothing in Lean hashes anything: it is a label: what it is worth is what the hold of that sum in a sandbox is worth. -/
noncomputable def Tryz.pinned : Pinned := { name := "yteenclepbpajdaagreatdoor", sum := "d0bbcf186815dd904f12779131a524cae79abaebbaac92c883e1fe14787206c0", checked := Tryz.checked }
namespace Rows
def none {H : Type} : Left H := { results := [], args := [] }

/- WHAT THE LISTED PACKAGE-LEVEL VARIABLES READ AS WHEN THE CALL BEGINS. Each datum BY PROGRAM (the guide's laid-datum.mjs) off the statement by which the dump's own 'gosem.cut.vars' lays the variable. In a bare row this is a premise. The card (YteenclepbpajdaaGreatDoorCards.lean) ties it to the program's text. -/
def laid_math_bits_deBruijn64tab {H : Type} : DataW H := .agg [.lit (.int .u8 0), .lit (.int .u8 1), .lit (.int .u8 56), .lit (.int .u8 2), .lit (.int .u8 57), .lit (.int .u8 49), .lit (.int .u8 28), .lit (.int .u8 3), .lit (.int .u8 61), .lit (.int .u8 58), .lit (.int .u8 42), .lit (.int .u8 50), .lit (.int .u8 38), .lit (.int .u8 29), .lit (.int .u8 17), .lit (.int .u8 4), .lit (.int .u8 62), .lit (.int .u8 47), .lit (.int .u8 59), .lit (.int .u8 36), .lit (.int .u8 45), .lit (.int .u8 43), .lit (.int .u8 51), .lit (.int .u8 22), .lit (.int .u8 53), .lit (.int .u8 39), .lit (.int .u8 33), .lit (.int .u8 30), .lit (.int .u8 24), .lit (.int .u8 18), .lit (.int .u8 12), .lit (.int .u8 5), .lit (.int .u8 63), .lit (.int .u8 55), .lit (.int .u8 48), .lit (.int .u8 27), .lit (.int .u8 60), .lit (.int .u8 41), .lit (.int .u8 37), .lit (.int .u8 16), .lit (.int .u8 46), .lit (.int .u8 35), .lit (.int .u8 44), .lit (.int .u8 21), .lit (.int .u8 52), .lit (.int .u8 32), .lit (.int .u8 23), .lit (.int .u8 11), .lit (.int .u8 54), .lit (.int .u8 26), .lit (.int .u8 40), .lit (.int .u8 15), .lit (.int .u8 34), .lit (.int .u8 20), .lit (.int .u8 31), .lit (.int .u8 10), .lit (.int .u8 25), .lit (.int .u8 14), .lit (.int .u8 19), .lit (.int .u8 9), .lit (.int .u8 13), .lit (.int .u8 8), .lit (.int .u8 7), .lit (.int .u8 6)]

/-- 'bitcastlaw17.IngressSaves': WHATEVER THE INPUT: true; the input reads as it did. -/
def ingressSavesSpec : ChangeSpec := { name := "ingressSaves", fn := fun _ => fun
  | [d] => { results := [.lit (.bool true)], args := [d] }
  | _ => none }
def ingressSavesRow : OpenClaim := { program := "yteenclepbpajdaagreatdoor", sum := "d0bbcf186815dd904f12779131a524cae79abaebbaac92c883e1fe14787206c0", func := "bitcast/bitcastlaw17.IngressSaves", spec := "ingressSaves", unfollowed := true, recurses := true, named := ["math/bits.deBruijn64tab"], apart := false, laid := [("math/bits.deBruijn64tab", laid_math_bits_deBruijn64tab)] }
def IngressSavesSaid : Prop := ingressSavesRow.holds Tryz.pinned (OpenSpec.ofChange ingressSavesSpec)

/-- ITS FALSE NEIGHBOUR: 'it returns false'. Refute it at one input. -/
def ingressSavesWrong : ChangeSpec := { name := "ingressSaves", fn := fun _ => fun
  | [d] => { results := [.lit (.bool false)], args := [d] }
  | _ => none }
def IngressSavesWrongFalsely : Prop := ingressSavesRow.holds Tryz.pinned (OpenSpec.ofChange ingressSavesWrong)

/-- 'bitcastlaw14.TraceRuns': WHATEVER THE INPUT: true; the input reads as it did. -/
def traceRunsSpec : ChangeSpec := { name := "traceRuns", fn := fun _ => fun
  | [d1, d2] => { results := [.lit (.bool true)], args := [d1, d2] }
  | _ => none }
def traceRunsRow : OpenClaim := { program := "yteenclepbpajdaagreatdoor", sum := "d0bbcf186815dd904f12779131a524cae79abaebbaac92c883e1fe14787206c0", func := "bitcast/bitcastlaw14.TraceRuns", spec := "traceRuns", unfollowed := true, recurses := true, named := ["math/bits.deBruijn64tab"], apart := false, laid := [("math/bits.deBruijn64tab", laid_math_bits_deBruijn64tab)] }
def TraceRunsSaid : Prop := traceRunsRow.holds Tryz.pinned (OpenSpec.ofChange traceRunsSpec)

/-- ITS FALSE NEIGHBOUR: 'it returns false'. Refute it at one input. -/
def traceRunsWrong : ChangeSpec := { name := "traceRuns", fn := fun _ => fun
  | [d1, d2] => { results := [.lit (.bool false)], args := [d1, d2] }
  | _ => none }
def TraceRunsWrongFalsely : Prop := traceRunsRow.holds Tryz.pinned (OpenSpec.ofChange traceRunsWrong)

/-- 'bitcastlaw14.TraceOnce': WHATEVER THE INPUT: true; the input reads as it did. -/
def traceOnceSpec : ChangeSpec := { name := "traceOnce", fn := fun _ => fun
  | [d] => { results := [.lit (.bool true)], args := [d] }
  | _ => none }
def traceOnceRow : OpenClaim := { program := "yteenclepbpajdaagreatdoor", sum := "d0bbcf186815dd904f12779131a524cae79abaebbaac92c883e1fe14787206c0", func := "bitcast/bitcastlaw14.TraceOnce", spec := "traceOnce", unfollowed := true, recurses := true, named := ["math/bits.deBruijn64tab"], apart := false, laid := [("math/bits.deBruijn64tab", laid_math_bits_deBruijn64tab)] }
def TraceOnceSaid : Prop := traceOnceRow.holds Tryz.pinned (OpenSpec.ofChange traceOnceSpec)

/-- ITS FALSE NEIGHBOUR: 'it returns false'. Refute it at one input. -/
def traceOnceWrong : ChangeSpec := { name := "traceOnce", fn := fun _ => fun
  | [d] => { results := [.lit (.bool false)], args := [d] }
  | _ => none }
def TraceOnceWrongFalsely : Prop := traceOnceRow.holds Tryz.pinned (OpenSpec.ofChange traceOnceWrong)

/-- 'bitcastlaw14.TraceExactly': WHATEVER THE INPUT: true; the input reads as it did. -/
def traceExactlySpec : ChangeSpec := { name := "traceExactly", fn := fun _ => fun
  | [d] => { results := [.lit (.bool true)], args := [d] }
  | _ => none }
def traceExactlyRow : OpenClaim := { program := "yteenclepbpajdaagreatdoor", sum := "d0bbcf186815dd904f12779131a524cae79abaebbaac92c883e1fe14787206c0", func := "bitcast/bitcastlaw14.TraceExactly", spec := "traceExactly", unfollowed := true, recurses := true, named := ["math/bits.deBruijn64tab"], apart := false, laid := [("math/bits.deBruijn64tab", laid_math_bits_deBruijn64tab)] }
def TraceExactlySaid : Prop := traceExactlyRow.holds Tryz.pinned (OpenSpec.ofChange traceExactlySpec)

/-- ITS FALSE NEIGHBOUR: 'it returns false'. Refute it at one input. -/
def traceExactlyWrong : ChangeSpec := { name := "traceExactly", fn := fun _ => fun
  | [d] => { results := [.lit (.bool false)], args := [d] }
  | _ => none }
def TraceExactlyWrongFalsely : Prop := traceExactlyRow.holds Tryz.pinned (OpenSpec.ofChange traceExactlyWrong)

/-- 'bitcastlaw14.TraceSparse': WHATEVER THE INPUT: true; the input reads as it did. -/
def traceSparseSpec : ChangeSpec := { name := "traceSparse", fn := fun _ => fun
  | [d] => { results := [.lit (.bool true)], args := [d] }
  | _ => none }
def traceSparseRow : OpenClaim := { program := "yteenclepbpajdaagreatdoor", sum := "d0bbcf186815dd904f12779131a524cae79abaebbaac92c883e1fe14787206c0", func := "bitcast/bitcastlaw14.TraceSparse", spec := "traceSparse", unfollowed := true, recurses := true, named := ["math/bits.deBruijn64tab"], apart := false, laid := [("math/bits.deBruijn64tab", laid_math_bits_deBruijn64tab)] }
def TraceSparseSaid : Prop := traceSparseRow.holds Tryz.pinned (OpenSpec.ofChange traceSparseSpec)

/-- ITS FALSE NEIGHBOUR: 'it returns false'. Refute it at one input. -/
def traceSparseWrong : ChangeSpec := { name := "traceSparse", fn := fun _ => fun
  | [d] => { results := [.lit (.bool false)], args := [d] }
  | _ => none }
def TraceSparseWrongFalsely : Prop := traceSparseRow.holds Tryz.pinned (OpenSpec.ofChange traceSparseWrong)

/-- 'bitcastlaw14.TraceAdds': WHATEVER THE INPUT: true; the input reads as it did. -/
def traceAddsSpec : ChangeSpec := { name := "traceAdds", fn := fun _ => fun
  | [d1, d2] => { results := [.lit (.bool true)], args := [d1, d2] }
  | _ => none }
def traceAddsRow : OpenClaim := { program := "yteenclepbpajdaagreatdoor", sum := "d0bbcf186815dd904f12779131a524cae79abaebbaac92c883e1fe14787206c0", func := "bitcast/bitcastlaw14.TraceAdds", spec := "traceAdds", unfollowed := true, recurses := true, named := ["math/bits.deBruijn64tab"], apart := false, laid := [("math/bits.deBruijn64tab", laid_math_bits_deBruijn64tab)] }
def TraceAddsSaid : Prop := traceAddsRow.holds Tryz.pinned (OpenSpec.ofChange traceAddsSpec)

/-- ITS FALSE NEIGHBOUR: 'it returns false'. Refute it at one input. -/
def traceAddsWrong : ChangeSpec := { name := "traceAdds", fn := fun _ => fun
  | [d1, d2] => { results := [.lit (.bool false)], args := [d1, d2] }
  | _ => none }
def TraceAddsWrongFalsely : Prop := traceAddsRow.holds Tryz.pinned (OpenSpec.ofChange traceAddsWrong)

/-- 'bitcastlaw14.TracePaths': WHATEVER THE INPUT: true; the input reads as it did. -/
def tracePathsSpec : ChangeSpec := { name := "tracePaths", fn := fun _ => fun
  | [d1, d2, d3, d4] => { results := [.lit (.bool true)], args := [d1, d2, d3, d4] }
  | _ => none }
def tracePathsRow : OpenClaim := { program := "yteenclepbpajdaagreatdoor", sum := "d0bbcf186815dd904f12779131a524cae79abaebbaac92c883e1fe14787206c0", func := "bitcast/bitcastlaw14.TracePaths", spec := "tracePaths", unfollowed := true, recurses := true, named := ["math/bits.deBruijn64tab"], apart := false, laid := [("math/bits.deBruijn64tab", laid_math_bits_deBruijn64tab)] }
def TracePathsSaid : Prop := tracePathsRow.holds Tryz.pinned (OpenSpec.ofChange tracePathsSpec)

/-- ITS FALSE NEIGHBOUR: 'it returns false'. Refute it at one input. -/
def tracePathsWrong : ChangeSpec := { name := "tracePaths", fn := fun _ => fun
  | [d1, d2, d3, d4] => { results := [.lit (.bool false)], args := [d1, d2, d3, d4] }
  | _ => none }
def TracePathsWrongFalsely : Prop := tracePathsRow.holds Tryz.pinned (OpenSpec.ofChange tracePathsWrong)

/-- 'bitcastlaw14.TraceShortest': WHATEVER THE INPUT: true; the input reads as it did. -/
def traceShortestSpec : ChangeSpec := { name := "traceShortest", fn := fun _ => fun
  | [d] => { results := [.lit (.bool true)], args := [d] }
  | _ => none }
def traceShortestRow : OpenClaim := { program := "yteenclepbpajdaagreatdoor", sum := "d0bbcf186815dd904f12779131a524cae79abaebbaac92c883e1fe14787206c0", func := "bitcast/bitcastlaw14.TraceShortest", spec := "traceShortest", unfollowed := true, recurses := true, named := ["math/bits.deBruijn64tab"], apart := false, laid := [("math/bits.deBruijn64tab", laid_math_bits_deBruijn64tab)] }
def TraceShortestSaid : Prop := traceShortestRow.holds Tryz.pinned (OpenSpec.ofChange traceShortestSpec)

/-- ITS FALSE NEIGHBOUR: 'it returns false'. Refute it at one input. -/
def traceShortestWrong : ChangeSpec := { name := "traceShortest", fn := fun _ => fun
  | [d] => { results := [.lit (.bool false)], args := [d] }
  | _ => none }
def TraceShortestWrongFalsely : Prop := traceShortestRow.holds Tryz.pinned (OpenSpec.ofChange traceShortestWrong)

/-- 'bitcastlaw17.IngressReaches': WHATEVER THE INPUT: true; the input reads as it did. -/
def ingressReachesSpec : ChangeSpec := { name := "ingressReaches", fn := fun _ => fun
  | [d] => { results := [.lit (.bool true)], args := [d] }
  | _ => none }
def ingressReachesRow : OpenClaim := { program := "yteenclepbpajdaagreatdoor", sum := "d0bbcf186815dd904f12779131a524cae79abaebbaac92c883e1fe14787206c0", func := "bitcast/bitcastlaw17.IngressReaches", spec := "ingressReaches", unfollowed := true, recurses := true, named := ["math/bits.deBruijn64tab"], apart := false, laid := [("math/bits.deBruijn64tab", laid_math_bits_deBruijn64tab)] }
def IngressReachesSaid : Prop := ingressReachesRow.holds Tryz.pinned (OpenSpec.ofChange ingressReachesSpec)

/-- ITS FALSE NEIGHBOUR: 'it returns false'. Refute it at one input. -/
def ingressReachesWrong : ChangeSpec := { name := "ingressReaches", fn := fun _ => fun
  | [d] => { results := [.lit (.bool false)], args := [d] }
  | _ => none }
def IngressReachesWrongFalsely : Prop := ingressReachesRow.holds Tryz.pinned (OpenSpec.ofChange ingressReachesWrong)

/-- 'bitcastlaw17.IngressSends': WHATEVER THE INPUT: true; the input reads as it did. -/
def ingressSendsSpec : ChangeSpec := { name := "ingressSends", fn := fun _ => fun
  | [d1, d2] => { results := [.lit (.bool true)], args := [d1, d2] }
  | _ => none }
def ingressSendsRow : OpenClaim := { program := "yteenclepbpajdaagreatdoor", sum := "d0bbcf186815dd904f12779131a524cae79abaebbaac92c883e1fe14787206c0", func := "bitcast/bitcastlaw17.IngressSends", spec := "ingressSends", unfollowed := true, recurses := true, named := ["math/bits.deBruijn64tab"], apart := false, laid := [("math/bits.deBruijn64tab", laid_math_bits_deBruijn64tab)] }
def IngressSendsSaid : Prop := ingressSendsRow.holds Tryz.pinned (OpenSpec.ofChange ingressSendsSpec)

/-- ITS FALSE NEIGHBOUR: 'it returns false'. Refute it at one input. -/
def ingressSendsWrong : ChangeSpec := { name := "ingressSends", fn := fun _ => fun
  | [d1, d2] => { results := [.lit (.bool false)], args := [d1, d2] }
  | _ => none }
def IngressSendsWrongFalsely : Prop := ingressSendsRow.holds Tryz.pinned (OpenSpec.ofChange ingressSendsWrong)

/- THE SECOND FORM. 'bulk': how many values and letters a reading holds, each counted each time it is reached (what is shared counts as often as it is met; a slice's spare places count too). A statement '..UptoSaid' is the law's where the arguments, and the package variables that the reading takes, are together of bulk at most 1048576: NARROWER than '..Said'. Prove '..Said' where nothing that the law and all that it calls make is longer than what came in: it says more and counts as full. Else prove '..UptoSaid'. A law counts once. -/
mutual
def uptoBulk {H : Type} : DataW H → Nat
  | .lit (.string bytes) => bytes.length + 1
  | .lit _ => 1
  | .nil => 1
  | .ptr d => uptoBulk d + 1
  | .slice elems spare => uptoBulkAll elems + uptoBulkAll spare + 1
  | .agg parts => uptoBulkAll parts + 1
  | .iface _ d => uptoBulk d + 1
  | .map entries => uptoBulkEntries entries + 1
  | .held _ => 1
def uptoBulkAll {H : Type} : List (DataW H) → Nat
  | [] => 0
  | d :: r => uptoBulk d + uptoBulkAll r
def uptoBulkEntries {H : Type} : List (Lit × DataW H) → Nat
  | [] => 0
  | x :: r => uptoBulkEntry x + uptoBulkEntries r
def uptoBulkEntry {H : Type} : Lit × DataW H → Nat
  | (.string bytes, d) => bytes.length + uptoBulk d + 1
  | (_, d) => uptoBulk d + 1
 end
def uptoSmall : (H : Type) → List (DataW H) → Bool := fun _ ds => decide (uptoBulkAll ds ≤ 1048576)
def OpenSpec.upto (s : _root_.Go.ChangeSpec) : _root_.Go.OpenSpec := { _root_.Go.OpenSpec.ofChange s with cond := some uptoSmall }

/-- 'bitcastlaw17.IngressSaves', WHERE WHAT IT READS IS OF BULK AT MOST 1048576: true; the input reads as it did. -/
def ingressSavesUptoRow : OpenClaim := { program := "yteenclepbpajdaagreatdoor", sum := "d0bbcf186815dd904f12779131a524cae79abaebbaac92c883e1fe14787206c0", func := "bitcast/bitcastlaw17.IngressSaves", spec := "ingressSaves", unfollowed := true, recurses := true, named := ["math/bits.deBruijn64tab"], apart := false, laid := [("math/bits.deBruijn64tab", laid_math_bits_deBruijn64tab)], narrowed := true }
def IngressSavesUptoSaid : Prop := ingressSavesUptoRow.holds Tryz.pinned (OpenSpec.upto ingressSavesSpec)

/-- 'bitcastlaw14.TraceRuns', WHERE WHAT IT READS IS OF BULK AT MOST 1048576: true; the input reads as it did. -/
def traceRunsUptoRow : OpenClaim := { program := "yteenclepbpajdaagreatdoor", sum := "d0bbcf186815dd904f12779131a524cae79abaebbaac92c883e1fe14787206c0", func := "bitcast/bitcastlaw14.TraceRuns", spec := "traceRuns", unfollowed := true, recurses := true, named := ["math/bits.deBruijn64tab"], apart := false, laid := [("math/bits.deBruijn64tab", laid_math_bits_deBruijn64tab)], narrowed := true }
def TraceRunsUptoSaid : Prop := traceRunsUptoRow.holds Tryz.pinned (OpenSpec.upto traceRunsSpec)

/-- 'bitcastlaw14.TraceOnce', WHERE WHAT IT READS IS OF BULK AT MOST 1048576: true; the input reads as it did. -/
def traceOnceUptoRow : OpenClaim := { program := "yteenclepbpajdaagreatdoor", sum := "d0bbcf186815dd904f12779131a524cae79abaebbaac92c883e1fe14787206c0", func := "bitcast/bitcastlaw14.TraceOnce", spec := "traceOnce", unfollowed := true, recurses := true, named := ["math/bits.deBruijn64tab"], apart := false, laid := [("math/bits.deBruijn64tab", laid_math_bits_deBruijn64tab)], narrowed := true }
def TraceOnceUptoSaid : Prop := traceOnceUptoRow.holds Tryz.pinned (OpenSpec.upto traceOnceSpec)

/-- 'bitcastlaw14.TraceExactly', WHERE WHAT IT READS IS OF BULK AT MOST 1048576: true; the input reads as it did. -/
def traceExactlyUptoRow : OpenClaim := { program := "yteenclepbpajdaagreatdoor", sum := "d0bbcf186815dd904f12779131a524cae79abaebbaac92c883e1fe14787206c0", func := "bitcast/bitcastlaw14.TraceExactly", spec := "traceExactly", unfollowed := true, recurses := true, named := ["math/bits.deBruijn64tab"], apart := false, laid := [("math/bits.deBruijn64tab", laid_math_bits_deBruijn64tab)], narrowed := true }
def TraceExactlyUptoSaid : Prop := traceExactlyUptoRow.holds Tryz.pinned (OpenSpec.upto traceExactlySpec)

/-- 'bitcastlaw14.TraceSparse', WHERE WHAT IT READS IS OF BULK AT MOST 1048576: true; the input reads as it did. -/
def traceSparseUptoRow : OpenClaim := { program := "yteenclepbpajdaagreatdoor", sum := "d0bbcf186815dd904f12779131a524cae79abaebbaac92c883e1fe14787206c0", func := "bitcast/bitcastlaw14.TraceSparse", spec := "traceSparse", unfollowed := true, recurses := true, named := ["math/bits.deBruijn64tab"], apart := false, laid := [("math/bits.deBruijn64tab", laid_math_bits_deBruijn64tab)], narrowed := true }
def TraceSparseUptoSaid : Prop := traceSparseUptoRow.holds Tryz.pinned (OpenSpec.upto traceSparseSpec)

/-- 'bitcastlaw14.TraceAdds', WHERE WHAT IT READS IS OF BULK AT MOST 1048576: true; the input reads as it did. -/
def traceAddsUptoRow : OpenClaim := { program := "yteenclepbpajdaagreatdoor", sum := "d0bbcf186815dd904f12779131a524cae79abaebbaac92c883e1fe14787206c0", func := "bitcast/bitcastlaw14.TraceAdds", spec := "traceAdds", unfollowed := true, recurses := true, named := ["math/bits.deBruijn64tab"], apart := false, laid := [("math/bits.deBruijn64tab", laid_math_bits_deBruijn64tab)], narrowed := true }
def TraceAddsUptoSaid : Prop := traceAddsUptoRow.holds Tryz.pinned (OpenSpec.upto traceAddsSpec)

/-- 'bitcastlaw14.TracePaths', WHERE WHAT IT READS IS OF BULK AT MOST 1048576: true; the input reads as it did. -/
def tracePathsUptoRow : OpenClaim := { program := "yteenclepbpajdaagreatdoor", sum := "d0bbcf186815dd904f12779131a524cae79abaebbaac92c883e1fe14787206c0", func := "bitcast/bitcastlaw14.TracePaths", spec := "tracePaths", unfollowed := true, recurses := true, named := ["math/bits.deBruijn64tab"], apart := false, laid := [("math/bits.deBruijn64tab", laid_math_bits_deBruijn64tab)], narrowed := true }
def TracePathsUptoSaid : Prop := tracePathsUptoRow.holds Tryz.pinned (OpenSpec.upto tracePathsSpec)

/-- 'bitcastlaw14.TraceShortest', WHERE WHAT IT READS IS OF BULK AT MOST 1048576: true; the input reads as it did. -/
def traceShortestUptoRow : OpenClaim := { program := "yteenclepbpajdaagreatdoor", sum := "d0bbcf186815dd904f12779131a524cae79abaebbaac92c883e1fe14787206c0", func := "bitcast/bitcastlaw14.TraceShortest", spec := "traceShortest", unfollowed := true, recurses := true, named := ["math/bits.deBruijn64tab"], apart := false, laid := [("math/bits.deBruijn64tab", laid_math_bits_deBruijn64tab)], narrowed := true }
def TraceShortestUptoSaid : Prop := traceShortestUptoRow.holds Tryz.pinned (OpenSpec.upto traceShortestSpec)

/-- 'bitcastlaw17.IngressReaches', WHERE WHAT IT READS IS OF BULK AT MOST 1048576: true; the input reads as it did. -/
def ingressReachesUptoRow : OpenClaim := { program := "yteenclepbpajdaagreatdoor", sum := "d0bbcf186815dd904f12779131a524cae79abaebbaac92c883e1fe14787206c0", func := "bitcast/bitcastlaw17.IngressReaches", spec := "ingressReaches", unfollowed := true, recurses := true, named := ["math/bits.deBruijn64tab"], apart := false, laid := [("math/bits.deBruijn64tab", laid_math_bits_deBruijn64tab)], narrowed := true }
def IngressReachesUptoSaid : Prop := ingressReachesUptoRow.holds Tryz.pinned (OpenSpec.upto ingressReachesSpec)

/-- 'bitcastlaw17.IngressSends', WHERE WHAT IT READS IS OF BULK AT MOST 1048576: true; the input reads as it did. -/
def ingressSendsUptoRow : OpenClaim := { program := "yteenclepbpajdaagreatdoor", sum := "d0bbcf186815dd904f12779131a524cae79abaebbaac92c883e1fe14787206c0", func := "bitcast/bitcastlaw17.IngressSends", spec := "ingressSends", unfollowed := true, recurses := true, named := ["math/bits.deBruijn64tab"], apart := false, laid := [("math/bits.deBruijn64tab", laid_math_bits_deBruijn64tab)], narrowed := true }
def IngressSendsUptoSaid : Prop := ingressSendsUptoRow.holds Tryz.pinned (OpenSpec.upto ingressSendsSpec)

end Rows
end Go.Proofs.YteenclepbpajdaaGreatDoor
